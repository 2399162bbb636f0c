/- Regions that draw their order: one walk in the order of the text serves all orders, where operations that are not ordered stay out of each other's way. Regions that draw their order: the theorem. What ids a value, and a block, may have; operations keep to them. Regions that draw their order: the rule. Regions that draw their order: the rule. Rules: less told behind a call, rounds, one operation at a time, a call that sees no heap. -/
import Derived.Test.YtpgelghkjiejlaaGac
import Derived.OrdersIn
import Derived.LoopNIn
set_option linter.unusedVariables false
set_option linter.unusedSimpArgs false
section
namespace Go.Proofs.Ytpgelghkjiejlaa
open Go

def AX.slots : AX → List Nat
  | .t i => [i]
  | _ => []
def xslots (xs : List AX) : List Nat := xs.flatMap AX.slots
def oslots : Option AX → List Nat
  | some x => x.slots
  | none => []
def AOp.slots : AOp → List Nat
  | .mv x | .box x | .ld _ _ x | .un _ x | .conv _ x | .fa _ x | .fld _ _ _ x | .blen _ x | .clr _ _ x | .nilc x | .b2s x | .ext x _ => x.slots
  | .pick a b c => a.slots ++ b.slots ++ c.slots
  | .new _ => []
  | .build _ ps => xslots (ps.map (·.2.2))
  | .lit _ _ _ ps => xslots (ps.map (·.2))
  | .st _ x y | .bin _ x y | .eqs _ _ x y | .eq1 _ _ x y | .mks _ _ _ x y | .ias _ x y | .iaa _ _ x y | .ixs x y | .app _ _ _ x y | .cpy _ x y => x.slots ++ y.slots
  | .mkf _ xs ys => xslots xs ++ xslots ys
  | .sls _ x a b c | .sla _ _ x a b c => x.slots ++ oslots a ++ oslots b ++ oslots c
  | .sstr x a b => x.slots ++ oslots a ++ oslots b
  | .bmin xs | .bmax xs => xslots xs
  | .call g xs => g.slots ++ xslots xs
def gslots : Option (Option Nat × Bool) → List Nat
  | some (some t, _) => [t]
  | _ => []

theorem AX.val_congr {T T' : Temps} (x : AX) (h : ∀ t ∈ x.slots, aget T t = aget T' t) : x.val T = x.val T' := by
  cases x with
  | t i => simp only [AX.val]; rw [h i (by simp [AX.slots])]
  | _ => rfl
theorem xs_congr {T T' : Temps} (xs : List AX) (h : ∀ t ∈ xslots xs, aget T t = aget T' t) : xs.map (·.val T) = xs.map (·.val T') :=
  List.map_congr_left fun x hx => x.val_congr fun t ht => h t (List.mem_flatMap.2 ⟨x, hx, ht⟩)
theorem o_congr {T T' : Temps} (x : Option AX) (h : ∀ t ∈ oslots x, aget T t = aget T' t) : x.map (·.val T) = x.map (·.val T') := by
  cases x with
  | none => rfl
  | some x => simp only [Option.map_some]; rw [x.val_congr h]
theorem evalOp_congr {T T' : Temps} (n : Nat) (H : Heap) (op : AOp) (h : ∀ t ∈ op.slots, aget T t = aget T' t) : evalOp T n H op = evalOp T' n H op := by
  cases op <;> simp only [AOp.slots, List.mem_append] at h <;> simp only [evalOp]
  case build z ps =>
    have := xs_congr _ h
    rw [List.map_map, List.map_map] at this
    have h2 : ps.map (fun x => (x.1, x.2.1, x.2.2.val T)) = ps.map (fun x => (x.1, x.2.1, x.2.2.val T')) := List.map_congr_left fun p hp => by
      rw [p.2.2.val_congr fun t ht => h t (List.mem_flatMap.2 ⟨p.2.2, List.mem_map.2 ⟨p, hp, rfl⟩, ht⟩)]
    exact congrArg (fun l => keep n H ((fillA z l).map .ag)) h2
  case lit sz len z ps =>
    have h2 : ps.map (fun x => (x.1 * sz, sz, x.2.val T)) = ps.map (fun x => (x.1 * sz, sz, x.2.val T')) := List.map_congr_left fun p hp => by
      rw [p.2.val_congr fun t ht => h t (List.mem_flatMap.2 ⟨p.2, List.mem_map.2 ⟨p, hp, rfl⟩, ht⟩)]
    exact congrArg (fun l => (match fillA z l with | some cs => some (V.sl n 0 sz len true, n + 1, (n, Blk.row true cs) :: H) | none => none)) h2
  case mkf g a b => rw [xs_congr a fun t ht => h t (.inl ht), xs_congr b fun t ht => h t (.inr ht)]
  case bmin xs => rw [xs_congr xs h]
  case bmax xs => rw [xs_congr xs h]
  case pick a b c => rw [a.val_congr fun t ht => h t (.inl (.inl ht)), b.val_congr fun t ht => h t (.inl (.inr ht)), c.val_congr fun t ht => h t (.inr ht)]
  case sls sz x a b c => rw [x.val_congr fun t ht => h t (.inl (.inl (.inl ht))), o_congr a fun t ht => h t (.inl (.inl (.inr ht))), o_congr b fun t ht => h t (.inl (.inr ht)), o_congr c fun t ht => h t (.inr ht)]
  case sla m sz x a b c => rw [x.val_congr fun t ht => h t (.inl (.inl (.inl ht))), o_congr a fun t ht => h t (.inl (.inl (.inr ht))), o_congr b fun t ht => h t (.inl (.inr ht)), o_congr c fun t ht => h t (.inr ht)]
  case sstr x a b => rw [x.val_congr fun t ht => h t (.inl (.inl ht)), o_congr a fun t ht => h t (.inl (.inr ht)), o_congr b fun t ht => h t (.inr ht)]
  all_goals first
    | (rename_i x; rw [x.val_congr h])
    | (rename_i x y; rw [x.val_congr fun t ht => h t (.inl ht), y.val_congr fun t ht => h t (.inr ht)])
    | (rename_i x i; rw [x.val_congr h])

/-! filters -/
theorem aget_filter {α : Type} (p : Nat → Bool) (l : List (Nat × α)) (b : Nat) : aget (l.filter fun x => p x.1) b = if p b then aget l b else none := by
  induction l with
  | nil => simp
  | cons x l ih =>
    obtain ⟨i, v⟩ := x
    by_cases hp : p i
    · rw [List.filter_cons_of_pos (by simpa using hp), aget_cons, aget_cons, ih]
      by_cases hi : i = b
      · subst hi; simp [hp]
      · simp [hi]
    · rw [List.filter_cons_of_neg (by simpa using hp), aget_cons, ih]
      by_cases hi : i = b
      · subst hi; simp [hp]
      · simp [hi]
theorem aget_append {α : Type} (l l' : List (Nat × α)) (b : Nat) : aget (l ++ l') b = match aget l b with | some v => some v | none => aget l' b := by
  induction l with
  | nil => rfl
  | cons x l ih =>
    obtain ⟨i, v⟩ := x
    simp only [List.cons_append, aget_cons]
    by_cases hi : i = b
    · simp [hi]
    · simp [hi, ih]
def restrT (T : Temps) (rs : List Nat) : Temps := T.filter fun x => rs.contains x.1
theorem aget_restrT (T : Temps) (rs : List Nat) (t : Nat) : aget (restrT T rs) t = if rs.contains t then aget T t else none := aget_filter (fun i => rs.contains i) T t
def touch (fw : List Nat) (n0 n1 b : Nat) : Bool := fw.contains b || (decide (n0 ≤ b) && decide (b < n1))
def mergeH (H : Heap) (fw : List Nat) (n0 n1 : Nat) (R' : Heap) : Heap := R'.filter (fun x => touch fw n0 n1 x.1) ++ H.filter (fun x => !touch fw n0 n1 x.1)
theorem aget_mergeH (H : Heap) (fw : List Nat) (n0 n1 : Nat) (R' : Heap) (b : Nat) : aget (mergeH H fw n0 n1 R') b = if touch fw n0 n1 b then aget R' b else aget H b := by
  unfold mergeH
  rw [aget_append, aget_filter (touch fw n0 n1) R', aget_filter (fun i => !touch fw n0 n1 i) H]
  by_cases h : touch fw n0 n1 b
  · simp only [h, if_true, Bool.not_true, Bool.false_eq_true, if_false]
    cases aget R' b <;> rfl
  · simp [h]
def roOf : Option Blk → Option Blk
  | some (.row _ cs) => some (.row false cs)
  | _ => none
def pickR (H : Heap) (f : Option Blk → Option Blk) : List Nat → Heap
  | [] => []
  | i :: r => match f (aget H i) with | some k => (i, k) :: pickR H f r | none => pickR H f r
def restr (H : Heap) (fr fw : List Nat) : Heap := pickR H id fw ++ pickR H roOf fr
theorem aget_pickR (H : Heap) (f : Option Blk → Option Blk) : ∀ (l : List Nat) (b : Nat) (k : Blk), aget (pickR H f l) b = some k → b ∈ l ∧ f (aget H b) = some k := by
  intro l
  induction l with
  | nil => intro b k h; simp [pickR] at h
  | cons i l ih =>
    intro b k h
    unfold pickR at h
    split at h
    · rename_i k' hk
      rw [aget_cons] at h
      by_cases hi : i = b
      · subst hi; rw [if_pos rfl] at h; cases h; exact ⟨by simp, hk⟩
      · rw [if_neg hi] at h; obtain ⟨h1, h2⟩ := ih b k h; exact ⟨by simp [h1], h2⟩
    · obtain ⟨h1, h2⟩ := ih b k h; exact ⟨by simp [h1], h2⟩
theorem aget_restr {H : Heap} {fr fw : List Nat} {b : Nat} {k : Blk} (h : aget (restr H fr fw) b = some k) :
    (b ∈ fw ∧ aget H b = some k) ∨ (b ∈ fr ∧ ∃ o cs, aget H b = some (.row o cs) ∧ k = .row false cs) := by
  unfold restr at h
  rw [aget_append] at h
  split at h
  · rename_i v hv
    cases h
    exact .inl (aget_pickR H id fw b k hv)
  · obtain ⟨h1, h2⟩ := aget_pickR H roOf fr b k h
    unfold roOf at h2
    split at h2
    · rename_i o cs ho; cases h2; exact .inr ⟨h1, o, cs, ho, rfl⟩
    · cases h2

structure DStep where
  rs : List Nat
  dst : Option Nat
  fr : List Nat
  fw : List Nat
  n0 : Nat
  n1 : Nat
  v : V
  R : Heap
def DStep.tch (s : DStep) (b : Nat) : Bool := touch s.fw s.n0 s.n1 b
abbrev TH := Temps × Heap
def DStep.go (s : DStep) (x : TH) : TH := (putT x.1 s.dst s.v, mergeH x.2 s.fw s.n0 s.n1 s.R)
def seqD (D : Nat → Bool) : Nat → List DStep → TH → TH
  | _, [], x => x
  | k, s :: r, x => seqD D (k + 1) r (if D k then s.go x else x)
theorem aget_putT (T : Temps) (dst : Option Nat) (v : V) (t : Nat) : aget (putT T dst v) t = if dst = some t then some v else aget T t := by
  cases dst with
  | none => simp [putT]
  | some d => simp [putT, aget_put]
theorem seqD_slot (D D' : Nat → Bool) (t : Nat) : ∀ (l : List DStep) (k : Nat) (x x' : TH), aget x.1 t = aget x'.1 t → (∀ i s, l[i]? = some s → s.dst = some t → D (k + i) = D' (k + i)) → aget (seqD D k l x).1 t = aget (seqD D' k l x').1 t := by
  intro l
  induction l with
  | nil => intro k x x' h _; exact h
  | cons s l ih =>
    intro k x x' h hd
    unfold seqD
    refine ih (k + 1) _ _ ?_ fun i s' hs' hd' => by have := hd (i + 1) s' (by simpa using hs') hd'; rw [show k + 1 + i = k + (i + 1) by omega]; exact this
    by_cases hs : s.dst = some t
    · have := hd 0 s rfl hs
      rw [Nat.add_zero] at this
      rw [this]
      cases D' k
      · exact h
      · simp only [if_true, DStep.go, aget_putT, hs]
    · have e : ∀ y : TH, aget (s.go y).1 t = aget y.1 t := fun y => by simp [DStep.go, aget_putT, hs]
      cases D k <;> cases D' k <;> simp [e, h]
theorem seqD_blk (D D' : Nat → Bool) (b : Nat) : ∀ (l : List DStep) (k : Nat) (x x' : TH), aget x.2 b = aget x'.2 b → (∀ i s, l[i]? = some s → s.tch b = true → D (k + i) = D' (k + i)) → aget (seqD D k l x).2 b = aget (seqD D' k l x').2 b := by
  intro l
  induction l with
  | nil => intro k x x' h _; exact h
  | cons s l ih =>
    intro k x x' h hd
    unfold seqD
    refine ih (k + 1) _ _ ?_ fun i s' hs' hd' => by have := hd (i + 1) s' (by simpa using hs') hd'; rw [show k + 1 + i = k + (i + 1) by omega]; exact this
    by_cases hs : s.tch b = true
    · have := hd 0 s rfl hs
      rw [Nat.add_zero] at this
      rw [this]
      cases D' k
      · exact h
      · simp only [if_true, DStep.go, aget_mergeH]
        have hs' : touch s.fw s.n0 s.n1 b = true := hs
        simp [hs']
    · have e : ∀ y : TH, aget (s.go y).2 b = aget y.2 b := fun y => by
        have hs' : ¬ touch s.fw s.n0 s.n1 b = true := hs
        simp [DStep.go, aget_mergeH, hs']
      cases D k <;> cases D' k <;> simp [e, h]
/-- The last that writes a slot. -/
theorem seqD_slot_last (D : Nat → Bool) (t : Nat) : ∀ (l : List DStep) (k j : Nat) (s : DStep) (x : TH), l[j]? = some s → s.dst = some t → D (k + j) = true → (∀ i s', j < i → l[i]? = some s' → s'.dst = some t → D (k + i) = false) → aget (seqD D k l x).1 t = some s.v := by
  intro l
  induction l with
  | nil => intro k j s x h; simp at h
  | cons s0 l ih =>
    intro k j s x h hd hD hlast
    unfold seqD
    cases j with
    | zero =>
      simp at h
      subst h
      rw [Nat.add_zero] at hD
      rw [hD]
      simp only [if_true]
      rw [seqD_slot D (fun _ => false) t l (k + 1) _ (s0.go x) rfl fun i s' hs' hd' => by have := hlast (i + 1) s' (by omega) (by simpa using hs') hd'; rw [show k + 1 + i = k + (i + 1) by omega]; exact this]
      have : ∀ (l : List DStep) (k : Nat) (x : TH), seqD (fun _ => false) k l x = x := by
        intro l; induction l with
        | nil => intro k x; rfl
        | cons s l ih => intro k x; unfold seqD; simp [ih]
      rw [this]
      simp [DStep.go, aget_putT, hd]
    | succ j =>
      refine ih (k + 1) j s _ (by simpa using h) hd (by rw [show k + 1 + j = k + (j + 1) by omega]; exact hD) fun i s' hi hs' hd' => ?_
      have := hlast (i + 1) s' (by omega) (by simpa using hs') hd'
      rw [show k + 1 + i = k + (i + 1) by omega]; exact this
theorem seqD_none : ∀ (l : List DStep) (k : Nat) (x : TH), seqD (fun _ => false) k l x = x := by
  intro l; induction l with
  | nil => intro k x; rfl
  | cons s l ih => intro k x; unfold seqD; simp [ih]
theorem seqD_blk_last (D : Nat → Bool) (b : Nat) : ∀ (l : List DStep) (k j : Nat) (s : DStep) (x : TH), l[j]? = some s → s.tch b = true → D (k + j) = true → (∀ i s', j < i → l[i]? = some s' → s'.tch b = true → D (k + i) = false) → aget (seqD D k l x).2 b = aget s.R b := by
  intro l
  induction l with
  | nil => intro k j s x h; simp at h
  | cons s0 l ih =>
    intro k j s x h hd hD hlast
    unfold seqD
    cases j with
    | zero =>
      simp at h
      subst h
      rw [Nat.add_zero] at hD
      rw [hD]
      simp only [if_true]
      rw [seqD_blk D (fun _ => false) b l (k + 1) _ (s0.go x) rfl fun i s' hs' hd' => by have := hlast (i + 1) s' (by omega) (by simpa using hs') hd'; rw [show k + 1 + i = k + (i + 1) by omega]; exact this]
      rw [seqD_none]
      have hd' : touch s0.fw s0.n0 s0.n1 b = true := hd
      simp [DStep.go, aget_mergeH, hd']
    | succ j =>
      refine ih (k + 1) j s _ (by simpa using h) hd (by rw [show k + 1 + j = k + (j + 1) by omega]; exact hD) fun i s' hi hs' hd' => ?_
      have := hlast (i + 1) s' (by omega) (by simpa using hs') hd'
      rw [show k + 1 + i = k + (i + 1) by omega]; exact this
end Go.Proofs.Ytpgelghkjiejlaa
end
section
namespace Go.Proofs.Ytpgelghkjiejlaa
open Go

def indep (a b : DStep) : Bool :=
  (match a.dst with | some d => !b.rs.contains d && b.dst != some d | none => true) &&
  (match b.dst with | some d => !a.rs.contains d | none => true) &&
  a.fw.all (fun i => !b.fr.contains i && !b.fw.contains i) && b.fw.all (fun i => !a.fr.contains i && !a.fw.contains i) &&
  (b.fr ++ b.fw).all (fun i => !(decide (a.n0 ≤ i) && decide (i < a.n1)))

section draw
variable {P : Program} {N : Nat} {ops : Array Oper}
/-- One operation, run where it has just what it needs. -/
def LStep (P : Program) (N : Nat) (ops : Array Oper) (i : Nat) (T : Temps) (R : Heap) (s : DStep) : Prop :=
  ∀ (ρ : Ren) (rd : Option Nat) (F : Fence) (m : Nat) (a : Act) (w : World), FRel ρ rd F → TRel ρ N T a.tmps → Sim (prepC P) ρ s.n0 R w →
    ∀ (next : Act → World → Prop) (Q : Exit → Act → World → Prop), (∀ ρ' y w', VRel ρ' s.v y → Sim (prepC P) ρ' s.n1 s.R w' → Ext ρ s.n0 R w ρ' s.n1 s.R w' → next (a.put s.dst y) w') → wpOpIn F m P ops Q i next a w
structure Fact (P : Program) (N : Nat) (ops : Array Oper) (k : Nat) (x : TH) (s : DStep) : Prop where
  step : LStep P N ops k (restrT x.1 s.rs) (restr x.2 s.fr s.fw) s
  dstok : dstOk N s.dst = true
  cloT : ∀ t u, t ∈ s.rs → aget x.1 t = some u → VIn s.n0 u
  cloH : ∀ b o cs, b ∈ s.fr ∨ b ∈ s.fw → aget x.2 b = some (.row o cs) → ∀ v ∈ cs, VIn s.n0 v
  fwrow : ∀ b k, b ∈ s.fw → aget x.2 b = some k → ∃ cs, k = .row true cs
  fplt : ∀ b, b ∈ s.fr ∨ b ∈ s.fw → b < s.n0
  ownR : ∀ b k, s.tch b = true → aget s.R b = some k → k.own = true
  nle : s.n0 ≤ s.n1

theorem BRel.cut_row {pc : PrepC} {ρ : Ren} {w : World} {c d z n : Nat} {o o' : Bool} {cs : List V} (h : BRel pc ρ w c d z (.row o cs)) (hv : ∀ v ∈ cs, VIn n v) (ho : o' = true → o = true) : BRel pc (ρ.cut n) w c d z (.row o' cs) := by
  obtain ⟨arr, t, fr, h1, h2, h3, h4, h5⟩ := h
  exact ⟨arr, t, fr, h1, h2, h3, fun j x hx => let ⟨y, hy, hr⟩ := h4 j x hx; ⟨y, hy, hr.cut (hv x (List.mem_of_getElem? hx))⟩, fun h => h5 (ho h)⟩

structure Inv (P : Program) (N : Nat) (steps : List DStep) (st : St) (ρ0 : Ren) (w0 : World) (D : Nat → Bool) (ρ : Ren) (a : Act) (w : World) : Prop where
  tm : TRel ρ N (seqD D 0 steps (st.T, st.H)).1 a.tmps
  mr : MRel ρ st.D a.defers
  sup : ∀ b x, ρ b = some x → (b < st.n ∨ ∃ k s, D k = true ∧ steps[k]? = some s ∧ s.n0 ≤ b ∧ b < s.n1) ∧ x.1 < w.heap.size
  blk : ∀ b k, aget (seqD D 0 steps (st.T, st.H)).2 b = some k → ∃ c d z, ρ b = some (c, d, z) ∧ BRel (prepC P) ρ w c d z k
  inj : ∀ b1 b2 k1 k2 x1 x2, aget (seqD D 0 steps (st.T, st.H)).2 b1 = some k1 → aget (seqD D 0 steps (st.T, st.H)).2 b2 = some k2 → ρ b1 = some x1 → ρ b2 = some x2 → x1.1 = x2.1 → k1.own = true → b1 = b2
  ren : ρ0.le ρ
  old : ∀ b x, b < st.n → ρ b = some x → ρ0 b = some x
  os : w.os = w0.os
  tape : w.tape = w0.tape
  output : w.output = w0.output
  drawn : w0.drawn ≤ w.drawn
  size : w0.heap.size ≤ w.heap.size
  frame : ∀ c, c < w0.heap.size → ¬ OwnC ρ0 st.H c → w.heap[c]? = w0.heap[c]?
  own : ∀ c, OwnC ρ (seqD D 0 steps (st.T, st.H)).2 c → OwnC ρ0 st.H c ∨ w0.heap.size ≤ c

def addD (D : Nat → Bool) (k : Nat) : Nat → Bool := fun i => i == k || D i
theorem tch_or {s : DStep} {b : Nat} : s.tch b = true ↔ b ∈ s.fw ∨ (s.n0 ≤ b ∧ b < s.n1) := by simp [DStep.tch, touch]

theorem Inv.step {steps : List DStep} {st : St} {ρ0 : Ren} {w0 : World} {bef : Nat → List Nat} {rd : Option Nat} {F : Fence} (hF : FRel ρ0 rd F) (hs0 : Sim (prepC P) ρ0 st.n st.H w0)
    (facts : ∀ (k : Nat) s, steps[k]? = some s → Fact P N ops k (seqD (fun i => decide (i < k)) 0 steps (st.T, st.H)) s ∧ st.n ≤ s.n0)
    (chain : ∀ (i j : Nat) si sj, i < j → steps[i]? = some si → steps[j]? = some sj → si.n1 ≤ sj.n0)
    (compat : ∀ (i j : Nat) si sj, i < j → steps[i]? = some si → steps[j]? = some sj → i ∈ bef j ∨ indep si sj = true)
    {D : Nat → Bool} (down : ∀ i j, D j = true → i ∈ bef j → D i = true) {k : Nat} {s : DStep} (hk : steps[k]? = some s) (hnk : D k = false) (hready : ∀ i ∈ bef k, D i = true)
    {ρ : Ren} {m : Nat} {a : Act} {w : World} {Q : Exit → Act → World → Prop} (h : Inv P N steps st ρ0 w0 D ρ a w) :
    wpOpIn F m P ops Q k (fun a' w' => ∃ ρ', Inv P N steps st ρ0 w0 (addD D k) ρ' a' w') a w := by
  obtain ⟨fact, hbase⟩ := facts k s hk
  -- who may come between
  have hA : ∀ (i : Nat) si, steps[i]? = some si → i ≠ k → (D i = decide (i < k)) ∨ (i < k ∧ indep si s = true) ∨ (k < i ∧ D i = true ∧ indep s si = true) := by
    intro i si hi hik
    rcases Nat.lt_trichotomy i k with hlt | heq | hgt
    · rcases compat i k si s hlt hi hk with hb | hb
      · exact .inl (by rw [hready i hb]; simp [hlt])
      · exact .inr (.inl ⟨hlt, hb⟩)
    · exact absurd heq hik
    · cases hD : D i with
      | false => exact .inl (by simp; omega)
      | true =>
        rcases compat k i s si hgt hk hi with hb | hb
        · rw [down k i hD hb] at hnk; cases hnk
        · exact .inr (.inr ⟨hgt, rfl, hb⟩)
  have hslot : ∀ t, t ∈ s.rs → aget (seqD D 0 steps (st.T, st.H)).1 t = aget (seqD (fun i => decide (i < k)) 0 steps (st.T, st.H)).1 t := by
    intro t ht
    refine seqD_slot _ _ t steps 0 _ _ rfl fun i si hi hd => ?_
    rw [Nat.zero_add]
    by_cases hik : i = k
    · subst hik; rw [hnk]; simp
    · rcases hA i si hi hik with h1 | ⟨_, h1⟩ | ⟨_, _, h1⟩
      · exact h1
      · exfalso; simp only [indep, hd, Bool.and_eq_true] at h1; simp [ht] at h1
      · exfalso; simp only [indep, hd, Bool.and_eq_true] at h1; simp [ht] at h1
  have hind : ∀ (i : Nat) si b, steps[i]? = some si → i ≠ k → si.tch b = true → b ∈ s.fr ∨ b ∈ s.fw → D i = decide (i < k) := by
    intro i si b hi hik ht hb
    have hblt := fact.fplt b hb
    rcases hA i si hi hik with h1 | ⟨hlt, h1⟩ | ⟨hgt, hDi, h1⟩
    · exact h1
    · exfalso
      simp only [indep, Bool.and_eq_true, List.all_eq_true, List.mem_append, Bool.not_eq_true', Bool.and_eq_false_iff, decide_eq_false_iff_not, decide_eq_true_eq] at h1
      rcases tch_or.1 ht with h2 | h2
      · have := h1.1.1.2 b h2; rcases hb with hb | hb <;> simp [hb] at this
      · have := h1.2 b hb; omega
    · exfalso
      simp only [indep, Bool.and_eq_true, List.all_eq_true, List.mem_append, Bool.not_eq_true', Bool.and_eq_false_iff, decide_eq_false_iff_not, decide_eq_true_eq] at h1
      rcases tch_or.1 ht with h2 | h2
      · have := h1.1.2 b h2; rcases hb with hb | hb <;> simp [hb] at this
      · have := chain k i s si hgt hk hi; have := fact.nle; omega
  have hblk : ∀ b, b ∈ s.fr ∨ b ∈ s.fw → aget (seqD D 0 steps (st.T, st.H)).2 b = aget (seqD (fun i => decide (i < k)) 0 steps (st.T, st.H)).2 b := by
    intro b hb
    refine seqD_blk _ _ b steps 0 _ _ rfl fun i si hi ht => ?_
    rw [Nat.zero_add]
    by_cases hik : i = k
    · subst hik; rw [hnk]; simp
    · exact hind i si b hi hik ht hb
  have hfree : ∀ b, s.n0 ≤ b → b < s.n1 → ρ b = none := by
    intro b h1 h2
    cases hr : ρ b with
    | none => rfl
    | some x =>
      rcases (h.sup b x hr).1 with h3 | ⟨j, sj, hj, hsj, h4, h5⟩
      · omega
      · rcases Nat.lt_trichotomy j k with hlt | heq | hgt
        · have := chain j k sj s hlt hsj hk; omega
        · subst heq; rw [hj] at hnk; cases hnk
        · have := chain k j s sj hgt hk hsj; omega
  -- the world as the operation is to have it
  have hFc : FRel (ρ.cut s.n0) rd F := by
    cases rd with
    | none => exact hF
    | some l =>
      obtain ⟨c, d, z, h1, h2⟩ := hF
      exact ⟨c, d, z, by unfold Ren.cut; rw [if_pos (by have := (hs0.sup l _ h1).1; omega)]; exact h.ren _ _ h1, h2⟩
  have hT : TRel (ρ.cut s.n0) N (restrT (seqD (fun i => decide (i < k)) 0 steps (st.T, st.H)).1 s.rs) a.tmps := by
    refine ⟨h.tm.1, fun t u hu => ?_⟩
    rw [aget_restrT] at hu
    split at hu
    · rename_i hc
      have hc' : t ∈ s.rs := by simpa using hc
      obtain ⟨y, hy, hr⟩ := h.tm.2 t u ((hslot t hc').trans hu)
      exact ⟨y, hy, hr.cut (fact.cloT t u hc' hu)⟩
    · cases hu
  have hcut : ∀ b x, ρ.cut s.n0 b = some x → ρ b = some x ∧ b < s.n0 := fun b x hb => by
    unfold Ren.cut at hb
    split at hb
    · exact ⟨hb, by assumption⟩
    · cases hb
  have hRin : ∀ b kk, aget (restr (seqD (fun i => decide (i < k)) 0 steps (st.T, st.H)).2 s.fr s.fw) b = some kk → (b ∈ s.fr ∨ b ∈ s.fw) ∧ ∃ k0, aget (seqD D 0 steps (st.T, st.H)).2 b = some k0 ∧ (kk.own = true → b ∈ s.fw ∧ k0.own = true) := by
    intro b kk hb
    rcases aget_restr hb with ⟨h1, h2⟩ | ⟨h1, o, cs, h2, h3⟩
    · exact ⟨.inr h1, kk, (hblk b (.inr h1)).trans h2, fun ho => ⟨h1, ho⟩⟩
    · exact ⟨.inl h1, _, (hblk b (.inl h1)).trans h2, fun ho => by rw [h3] at ho; cases ho⟩
  have hS : Sim (prepC P) (ρ.cut s.n0) s.n0 (restr (seqD (fun i => decide (i < k)) 0 steps (st.T, st.H)).2 s.fr s.fw) w := by
    refine ⟨fun b x hb => ⟨(hcut b x hb).2, (h.sup b x (hcut b x hb).1).2⟩, fun b kk hb => ?_, fun b1 b2 k1 k2 x1 x2 h1 h2 e1 e2 he ho => ?_⟩
    · rcases aget_restr hb with ⟨h1, h2⟩ | ⟨h1, o, cs, h2, rfl⟩
      · obtain ⟨cs, rfl⟩ := fact.fwrow b kk h1 h2
        obtain ⟨c, d, z, e, r⟩ := h.blk b _ ((hblk b (.inr h1)).trans h2)
        exact ⟨c, d, z, by unfold Ren.cut; rw [if_pos (fact.fplt b (.inr h1))]; exact e, r.cut_row (fact.cloH b true cs (.inr h1) h2) id⟩
      · obtain ⟨c, d, z, e, r⟩ := h.blk b _ ((hblk b (.inl h1)).trans h2)
        exact ⟨c, d, z, by unfold Ren.cut; rw [if_pos (fact.fplt b (.inl h1))]; exact e, r.cut_row (fact.cloH b o cs (.inl h1) h2) (fun h => by cases h)⟩
    · obtain ⟨_, j1, q1, q2⟩ := hRin b1 k1 h1
      obtain ⟨_, j2, q3, _⟩ := hRin b2 k2 h2
      exact h.inj b1 b2 j1 j2 x1 x2 q1 q3 (hcut _ _ e1).1 (hcut _ _ e2).1 he (q2 ho).2
  refine fact.step (ρ.cut s.n0) rd F m a w hFc hT hS _ Q ?_
  intro ρ' y w' hv hs' hE
  -- the renaming put together
  let ρ2 : Ren := fun b => if s.n0 ≤ b ∧ b < s.n1 then ρ' b else ρ b
  have hin : ∀ b, s.n0 ≤ b → b < s.n1 → ρ2 b = ρ' b := fun b h1 h2 => by simp [ρ2, h1, h2]
  have hout : ∀ b, ¬ (s.n0 ≤ b ∧ b < s.n1) → ρ2 b = ρ b := fun b h1 => by simp only [ρ2]; rw [if_neg h1]
  have hle : ρ.le ρ2 := fun b x hb => by
    by_cases hr : s.n0 ≤ b ∧ b < s.n1
    · rw [hfree b hr.1 hr.2] at hb; cases hb
    · rw [hout b hr]; exact hb
  have hle' : ρ'.le ρ2 := fun b x hb => by
    by_cases hr : s.n0 ≤ b ∧ b < s.n1
    · rw [hin b hr.1 hr.2]; exact hb
    · rw [hout b hr]
      have hb1 := (hs'.sup b x hb).1
      have hb0 : b < s.n0 := by omega
      exact (hcut b x (hE.old b x hb0 hb)).1
  -- what the operation touches is its own
  have hlast : ∀ b, s.tch b = true → aget (seqD (addD D k) 0 steps (st.T, st.H)).2 b = aget s.R b := by
    intro b hb
    refine seqD_blk_last _ b steps 0 k s _ hk hb (by simp [addD]) fun i si hi hsi ht => ?_
    rw [Nat.zero_add]
    have hik : i ≠ k := by omega
    have hD : D i = false := by
      rcases tch_or.1 hb with h1 | ⟨h1, h2⟩
      · have := hind i si b hsi hik ht (.inr h1); rw [this]; simp; omega
      · rcases hA i si hsi hik with h3 | ⟨h3, _⟩ | ⟨_, _, h3⟩
        · rw [h3]; simp; omega
        · omega
        · exfalso
          simp only [indep, Bool.and_eq_true, List.all_eq_true, List.mem_append, Bool.not_eq_true', Bool.and_eq_false_iff, decide_eq_false_iff_not, decide_eq_true_eq] at h3
          rcases tch_or.1 ht with h4 | h4
          · have := h3.2 b (.inr h4); omega
          · have := chain k i s si hi hk hsi; omega
    simp [addD, hD, hik]
  have hother : ∀ b, ¬ s.tch b = true → aget (seqD (addD D k) 0 steps (st.T, st.H)).2 b = aget (seqD D 0 steps (st.T, st.H)).2 b := by
    intro b hb
    refine seqD_blk _ _ b steps 0 _ _ rfl fun i si hi ht => ?_
    rw [Nat.zero_add]
    have hik : i ≠ k := by rintro rfl; rw [hk] at hi; cases hi; exact hb ht
    simp [addD, hik]
  have hnt : ∀ b, ¬ s.tch b = true → ¬ (s.n0 ≤ b ∧ b < s.n1) ∧ b ∉ s.fw := fun b hb => by
    rw [tch_or] at hb
    exact ⟨fun h => hb (.inr h), fun h => hb (.inl h)⟩
  have hnotown : ∀ b kk x, ¬ s.tch b = true → aget (seqD D 0 steps (st.T, st.H)).2 b = some kk → ρ b = some x → ¬ OwnC (ρ.cut s.n0) (restr (seqD (fun i => decide (i < k)) 0 steps (st.T, st.H)).2 s.fr s.fw) x.1 := by
    rintro b kk x hb h1 h2 ⟨b', k', x', g1, g2, g3, g4⟩
    obtain ⟨_, j, q1, q2⟩ := hRin b' k' g1
    have := h.inj b' b j kk x' x q1 h1 (hcut _ _ g3).1 h2 g4 (q2 g2).2
    subst this
    exact (hnt _ hb).2 (q2 g2).1
  have hownR : ∀ c, OwnC (ρ.cut s.n0) (restr (seqD (fun i => decide (i < k)) 0 steps (st.T, st.H)).2 s.fr s.fw) c → OwnC ρ (seqD D 0 steps (st.T, st.H)).2 c := by
    rintro c ⟨b', k', x', g1, g2, g3, g4⟩
    obtain ⟨_, j, q1, q2⟩ := hRin b' k' g1
    exact ⟨b', j, x', q1, (q2 g2).2, (hcut _ _ g3).1, g4⟩
  have hRρ : ∀ b kk x, aget s.R b = some kk → ρ2 b = some x → ρ' b = some x := fun b kk x h1 h2 => by
    obtain ⟨c, d, z, e, _⟩ := hs'.blk b kk h1
    have := hle' b _ e
    rw [h2] at this
    rw [e, this]
  refine ⟨ρ2, ?_, ?_, ?_, ?_, ?_, h.ren.trans hle, ?_, hE.os.trans h.os, hE.tape.trans h.tape, hE.output.trans h.output, Nat.le_trans h.drawn hE.drawn, Nat.le_trans h.size hE.size, ?_, ?_⟩
  · -- slots
    have hsz : (a.put s.dst y).tmps.size = N := by cases hd : s.dst <;> simp [Act.put, h.tm.1]
    refine ⟨hsz, fun t u hu => ?_⟩
    by_cases ht : s.dst = some t
    · have hl := seqD_slot_last (addD D k) t steps 0 k s (st.T, st.H) hk ht (by simp [addD]) (fun i si hi hsi hd => by
        rw [Nat.zero_add]
        have hik : i ≠ k := by omega
        have hD : D i = false := by
          rcases hA i si hsi hik with h3 | ⟨h3, _⟩ | ⟨_, _, h3⟩
          · rw [h3]; simp; omega
          · omega
          · exfalso; simp only [indep, ht, hd, Bool.and_eq_true] at h3; simp at h3
        simp [addD, hD, hik])
      rw [hl] at hu
      cases hu
      have hlt : t < N := by have := fact.dstok; rw [ht] at this; simpa [dstOk] using this
      exact ⟨y, by rw [ht]; simp only [Act.put]; rw [Array.getElem?_setIfInBounds_self_of_lt (by rw [h.tm.1]; exact hlt)], hv.mono hle'⟩
    · have : aget (seqD (addD D k) 0 steps (st.T, st.H)).1 t = aget (seqD D 0 steps (st.T, st.H)).1 t := by
        refine seqD_slot _ _ t steps 0 _ _ rfl fun i si hi hd => ?_
        rw [Nat.zero_add]
        have hik : i ≠ k := by rintro rfl; rw [hk] at hi; cases hi; exact ht hd
        simp [addD, hik]
      rw [this] at hu
      obtain ⟨y2, hy2, hr2⟩ := h.tm.2 t u hu
      refine ⟨y2, ?_, hr2.mono hle⟩
      cases hd : s.dst with
      | none => exact hy2
      | some d =>
        simp only [Act.put]
        rw [Array.getElem?_setIfInBounds_ne (fun e => ht (by rw [hd, e]))]
        exact hy2
  · rw [put_defers]; exact h.mr.mono hle
  · intro b x hb
    by_cases hr : s.n0 ≤ b ∧ b < s.n1
    · rw [hin b hr.1 hr.2] at hb
      exact ⟨.inr ⟨k, s, by simp [addD], hk, hr.1, hr.2⟩, (hs'.sup b x hb).2⟩
    · rw [hout b hr] at hb
      obtain ⟨h1, h2⟩ := h.sup b x hb
      refine ⟨?_, Nat.lt_of_lt_of_le h2 hE.size⟩
      rcases h1 with h1 | ⟨j, sj, h3, h4⟩
      · exact .inl h1
      · exact .inr ⟨j, sj, by simp [addD, h3], h4⟩
  · intro b kk hb
    by_cases ht : s.tch b = true
    · rw [hlast b ht] at hb
      obtain ⟨c, d, z, e, r⟩ := hs'.blk b kk hb
      exact ⟨c, d, z, hle' _ _ e, r.mono hle' rfl⟩
    · rw [hother b ht] at hb
      obtain ⟨c, d, z, e, r⟩ := h.blk b kk hb
      exact ⟨c, d, z, hle _ _ e, r.mono hle (hE.frame c (h.sup b _ e).2 (hnotown b kk _ ht hb e))⟩
  · intro b1 b2 k1 k2 x1 x2 h1 h2 e1 e2 he ho
    have hmix : ∀ b1 b2 k1 k2 x1 x2, s.tch b1 = true → ¬ s.tch b2 = true → aget (seqD (addD D k) 0 steps (st.T, st.H)).2 b1 = some k1 → aget (seqD (addD D k) 0 steps (st.T, st.H)).2 b2 = some k2 → ρ2 b1 = some x1 → ρ2 b2 = some x2 → x1.1 = x2.1 → False := by
      intro b1 b2 k1 k2 x1 x2 t1 t2 h1 h2 e1 e2 he
      rw [hlast b1 t1] at h1
      rw [hother b2 t2] at h2
      rw [hout b2 (hnt b2 t2).1] at e2
      have hc := hE.own x1.1 ⟨b1, k1, x1, h1, fact.ownR b1 k1 t1 h1, hRρ _ _ _ h1 e1, rfl⟩
      rcases hc with hc | hc
      · rw [he] at hc; exact hnotown b2 k2 x2 t2 h2 e2 hc
      · have := (h.sup b2 x2 e2).2; omega
    by_cases t1 : s.tch b1 = true <;> by_cases t2 : s.tch b2 = true
    · rw [hlast b1 t1] at h1; rw [hlast b2 t2] at h2
      exact hs'.inj b1 b2 k1 k2 x1 x2 h1 h2 (hRρ _ _ _ h1 e1) (hRρ _ _ _ h2 e2) he ho
    · exact (hmix b1 b2 k1 k2 x1 x2 t1 t2 h1 h2 e1 e2 he).elim
    · exact (hmix b2 b1 k2 k1 x2 x1 t2 t1 h2 h1 e2 e1 he.symm).elim
    · rw [hother b1 t1] at h1; rw [hother b2 t2] at h2
      rw [hout b1 (hnt b1 t1).1] at e1; rw [hout b2 (hnt b2 t2).1] at e2
      exact h.inj b1 b2 k1 k2 x1 x2 h1 h2 e1 e2 he ho
  · intro b x hb hx
    rw [hout b (by omega)] at hx
    exact h.old b x hb hx
  · intro c hc hno
    rw [hE.frame c (Nat.lt_of_lt_of_le hc h.size) (fun hh => ?_), h.frame c hc hno]
    rcases h.own c (hownR c hh) with h1 | h1
    · exact hno h1
    · omega
  · rintro c ⟨b, kk, x, h1, h2, h3, h4⟩
    by_cases ht : s.tch b = true
    · rw [hlast b ht] at h1
      rcases hE.own c ⟨b, kk, x, h1, h2, hRρ _ _ _ h1 h3, h4⟩ with hc | hc
      · exact h.own c (hownR c hc)
      · exact .inr (Nat.le_trans h.size hc)
    · rw [hother b ht] at h1
      rw [hout b (hnt b ht).1] at h3
      exact h.own c ⟨b, kk, x, h1, h2, h3, h4⟩
end draw
end Go.Proofs.Ytpgelghkjiejlaa
end
section
namespace Go.Proofs.Ytpgelghkjiejlaa
open Go

def BIn (n : Nat) : Blk → Prop
  | .row _ cs => ∀ x ∈ cs, VIn n x
  | .loop r => r.marks < n ∧ ∀ i v, aget r.T i = some v → VIn n v
  | .marks => True
def HIn (n : Nat) (H : Heap) : Prop := ∀ b k, aget H b = some k → b < n ∧ BIn n k
def TIn (n : Nat) (T : Temps) : Prop := ∀ i v, aget T i = some v → VIn n v
theorem VIn.mono {n n' : Nat} (h : n ≤ n') {v : V} (r : VIn n v) : VIn n' v := by
  induction r with
  | p h1 => exact .p (by omega)
  | sl h1 => exact .sl (by omega)
  | fn _ _ ih ih' => exact .fn ih ih'
  | yl h1 => exact .yl (by omega)
  | ifc _ ih => exact .ifc ih
  | ag _ ih => exact .ag ih
  | tu _ ih => exact .tu ih
  | _ => constructor
theorem VRel.vin {ρ : Ren} {n : Nat} (hs : ∀ b x, ρ b = some x → b < n) {v : V} {y : Value} (r : VRel ρ v y) : VIn n v := by
  induction r with
  | p e ho => exact .p (hs _ _ e)
  | sl e _ _ _ => exact .sl (hs _ _ e)
  | fn hl h1 hl' h2 ih ih' =>
    refine .fn (fun x hx => ?_) (fun x hx => ?_)
    · obtain ⟨j, hj, rfl⟩ := List.getElem_of_mem hx
      exact ih j _ _ (by simp [hj]) (by simp [show j < _ from hl ▸ hj]; rfl)
    · obtain ⟨j, hj, rfl⟩ := List.getElem_of_mem hx
      exact ih' j _ _ (by simp [hj]) (by simp [show j < _ from hl' ▸ hj]; rfl)
  | yl e => exact .yl (hs _ _ e)
  | ifc _ ih => exact .ifc ih
  | ag hl h1 ih =>
    refine .ag fun x hx => ?_
    obtain ⟨j, hj, rfl⟩ := List.getElem_of_mem hx
    exact ih j _ _ (by simp [hj]) (by simp [show j < _ from hl ▸ hj]; rfl)
  | tu hl h1 ih =>
    refine .tu fun x hx => ?_
    obtain ⟨j, hj, rfl⟩ := List.getElem_of_mem hx
    exact ih j _ _ (by simp [hj]) (by simp [show j < _ from hl ▸ hj]; rfl)
  | _ => constructor
theorem BIn.mono {n n' : Nat} (h : n ≤ n') {k : Blk} (r : BIn n k) : BIn n' k := by
  cases k with
  | row o cs => exact fun x hx => (r x hx).mono h
  | loop l => exact ⟨Nat.lt_of_lt_of_le r.1 h, fun i v hv => (r.2 i v hv).mono h⟩
  | marks => trivial
theorem HIn.mono {n n' : Nat} (h : n ≤ n') {H : Heap} (r : HIn n H) : HIn n' H := fun b k hb => ⟨Nat.lt_of_lt_of_le (r b k hb).1 h, (r b k hb).2.mono h⟩
theorem TIn.mono {n n' : Nat} (h : n ≤ n') {T : Temps} (r : TIn n T) : TIn n' T := fun i v hi => (r i v hi).mono h
theorem VRelL.vin {ρ : Ren} {n : Nat} (hs : ∀ b x, ρ b = some x → b < n) {xs : List V} {ys : List Value} (r : VRelL ρ xs ys) : ∀ x ∈ xs, VIn n x := fun x hx => by
  obtain ⟨j, hj, rfl⟩ := List.getElem_of_mem hx
  obtain ⟨y, hy, hr⟩ := r.get (j := j) (x := xs[j]) (by simp [hj])
  exact hr.vin hs
theorem TRel.tin {ρ : Ren} {n N : Nat} (hs : ∀ b x, ρ b = some x → b < n) {T : Temps} {tmps : Array Value} (r : TRel ρ N T tmps) : TIn n T := fun i v hi => by
  obtain ⟨y, _, hr⟩ := r.2 i v hi
  exact hr.vin hs
theorem Sim.hin {pc : PrepC} {ρ : Ren} {n : Nat} {H : Heap} {w : World} (s : Sim pc ρ n H w) : HIn n H := fun b k hb => by
  obtain ⟨c, d, z, e, r⟩ := s.blk b k hb
  have hs := fun b x h => (s.sup b x h).1
  refine ⟨hs _ _ e, ?_⟩
  cases k with
  | row o cs =>
    obtain ⟨arr, t, fr, h1, h2, h3, h4, h5⟩ := r
    intro x hx
    obtain ⟨j, hj, rfl⟩ := List.getElem_of_mem hx
    obtain ⟨y, _, hr⟩ := h4 j cs[j] (by simp [hj])
    exact hr.vin hs
  | loop l =>
    obtain ⟨L, h1, lr⟩ := r
    obtain ⟨d', z', e'⟩ := lr.marks
    exact ⟨hs _ _ e', lr.tm.tin hs⟩
  | marks => trivial

def AOp.axs : AOp → List AX
  | .mv x | .box x | .ld _ _ x | .un _ x | .conv _ x | .fa _ x | .fld _ _ _ x | .blen _ x | .clr _ _ x | .nilc x | .b2s x | .ext x _ => [x]
  | .pick a b c => [a, b, c]
  | .new _ => []
  | .build _ ps => ps.map (·.2.2)
  | .lit _ _ _ ps => ps.map (·.2)
  | .st _ x y | .bin _ x y | .eqs _ _ x y | .eq1 _ _ x y | .mks _ _ _ x y | .ias _ x y | .iaa _ _ x y | .ixs x y | .app _ _ _ x y | .cpy _ x y => [x, y]
  | .mkf _ xs ys => xs ++ ys
  | .sls _ x _ _ _ | .sla _ _ x _ _ _ => [x]
  | .sstr x _ _ => [x]
  | .bmin xs | .bmax xs => xs
  | .call g xs => g :: xs
def AOp.zs : AOp → List V
  | .new z | .build z _ | .lit _ _ z _ | .mks _ _ z _ _ | .clr _ z _ => z
  | _ => []
def vinB : Nat → Nat → V → Bool
  | 0, _, _ => false
  | _ + 1, n, .p id _ => decide (id < n)
  | _ + 1, n, .sl id _ _ _ _ => decide (id < n)
  | _ + 1, n, .yl id => decide (id < n)
  | d + 1, n, .fn _ xs us => xs.all (vinB d n) && us.all (vinB d n)
  | d + 1, n, .ifc _ x => vinB d n x
  | d + 1, n, .ag xs => xs.all (vinB d n)
  | d + 1, n, .tu xs => xs.all (vinB d n)
  | _ + 1, _, _ => true
theorem vinB_spec : ∀ {d n : Nat} {v : V}, vinB d n v = true → VIn n v := by
  intro d
  induction d with
  | zero => intro n v h; simp [vinB] at h
  | succ d ih =>
    intro n v h
    cases v <;> simp [vinB] at h
    case p => exact .p h
    case sl => exact .sl h
    case yl => exact .yl h
    case fn => exact .fn (fun x hx => ih (h.1 x hx)) (fun x hx => ih (h.2 x hx))
    case ifc => exact .ifc (ih h)
    case ag => exact .ag fun x hx => ih (h x hx)
    case tu => exact .tu fun x hx => ih (h x hx)
    all_goals constructor
def AX.cok : AX → Bool
  | .c v => vinB 4 0 v
  | _ => true
/-- Constants, and zeros, name no ids. -/
def AOp.cok (o : AOp) : Bool := o.axs.all AX.cok && o.zs.all (vinB 4 0)
theorem AX.cok_val {x : AX} (h : x.cok = true) {n : Nat} {T : Temps} (hT : TIn n T) : VIn n (x.val T) := by
  cases x with
  | t i =>
    simp only [AX.val]
    cases hi : aget T i with
    | none => exact .un
    | some v => exact hT i v hi
  | c v => exact (vinB_spec h).mono (Nat.zero_le _)
  | f g => exact .fn (by simp) (by simp)

section ops
variable {n : Nat} {H : Heap}
theorem HIn.cons {n' : Nat} {i : Nat} {k : Blk} (h : HIn n H) (hn : n ≤ n') (hi : i < n') (hk : BIn n' k) : HIn n' ((i, k) :: H) := fun b j hb => by
  rw [aget_cons] at hb
  split at hb
  · rename_i e; cases hb; subst e; exact ⟨hi, hk⟩
  · exact (h.mono hn) b j hb
theorem HIn.put {i : Nat} {k k0 : Blk} (h : HIn n H) (hi : aget H i = some k0) (hk : BIn n k) : HIn n (aput H i k) := fun b j hb => by
  rw [aget_put] at hb
  split at hb
  · rename_i e; cases hb; subst e; exact ⟨(h _ _ hi).1, hk⟩
  · exact h b j hb
theorem HIn.del (h : HIn n H) (i : Nat) : HIn n (adel H i) := fun b j hb => by
  rw [aget_del] at hb
  split at hb
  · cases hb
  · exact h b j hb
theorem setAll_in {cs vs : List V} {off : Nat} (h : ∀ x ∈ cs, VIn n x) (hv : ∀ x ∈ vs, VIn n x) : ∀ x ∈ setAll cs off vs, VIn n x := by
  intro x hx
  unfold setAll at hx
  rcases List.mem_append.1 hx with h1 | h1
  · exact h x (List.mem_of_mem_take h1)
  · rcases List.mem_append.1 h1 with h2 | h2
    · exact hv x h2
    · exact h x (List.mem_of_mem_drop h2)
theorem cells_in {v : V} (h : VIn n v) : ∀ x ∈ v.cells, VIn n x := by
  cases v <;> intro x hx <;> simp [V.cells] at hx
  case ag => simp at h; exact h x hx
  all_goals (subst hx; exact h)
theorem fillA_in : ∀ {ps : List (Nat × Nat × V)} {cs out : List V}, fillA cs ps = some out → (∀ x ∈ cs, VIn n x) → (∀ p ∈ ps, VIn n p.2.2) → ∀ x ∈ out, VIn n x := by
  intro ps
  induction ps with
  | nil => intro cs out h hc _; cases h; exact hc
  | cons p ps ih =>
    obtain ⟨o, s, v⟩ := p
    intro cs out h hc hp
    simp only [fillA] at h
    split at h
    · exact ih h (setAll_in hc (cells_in (hp (o, s, v) (by simp)))) (fun p hp' => hp p (by simp [hp']))
    · cases h
theorem zrep_in {z : List V} (h : ∀ x ∈ z, VIn n x) (m : Nat) : ∀ x ∈ zrep z m, VIn n x := by
  intro x hx
  unfold zrep at hx
  split at hx
  · obtain ⟨_, rfl⟩ := List.mem_replicate.1 hx; exact h _ (by simp)
  · obtain ⟨l, h1, h2⟩ := List.mem_flatten.1 hx
    obtain ⟨_, rfl⟩ := List.mem_replicate.1 h1
    exact h x h2
theorem cellsOf_in (hH : HIn n H) {sz : Nat} {v : V} {cs : List V} (h : cellsOf H sz v = some cs) : ∀ x ∈ cs, VIn n x := by
  unfold cellsOf at h
  split at h
  · cases h; simp
  · split at h
    · rename_i ho
      split at h
      · cases h
        intro x hx
        exact (hH _ _ ho).2 x (List.mem_of_mem_drop (List.mem_of_mem_take hx))
      · cases h
    · cases h
  · cases h
theorem keep_in {o : Option V} {v : V} {n' : Nat} {H' : Heap} (h : keep n H o = some (v, n', H')) (hH : HIn n H) (ho : ∀ x, o = some x → VIn n x) : n ≤ n' ∧ VIn n' v ∧ HIn n' H' := by
  unfold keep at h
  split at h
  · cases h; exact ⟨Nat.le_refl _, ho _ rfl, hH⟩
  · cases h
theorem evalOp_in {T : Temps} {op : AOp} {v : V} {n' : Nat} {H' : Heap} (hT : TIn n T) (hH : HIn n H) (hc : op.cok = true) (h : evalOp T n H op = some (v, n', H')) : n ≤ n' ∧ VIn n' v ∧ HIn n' H' := by
  simp only [AOp.cok, Bool.and_eq_true, List.all_eq_true] at hc
  obtain ⟨hcx, hcz⟩ := hc
  have hx : ∀ x ∈ op.axs, VIn n (x.val T) := fun x h => AX.cok_val (hcx x h) hT
  have hz : ∀ x ∈ op.zs, VIn n x := fun x h => (vinB_spec (hcz x h)).mono (Nat.zero_le _)
  cases op <;> simp only [AOp.axs, AOp.zs] at hx hz <;> simp only [evalOp] at h
  case mv x => cases h; exact ⟨Nat.le_refl _, hx x (by simp), hH⟩
  case pick c a b =>
    split at h
    · rename_i t _
      cases h
      refine ⟨Nat.le_refl _, ?_, hH⟩
      cases t
      · exact hx b (by simp)
      · exact hx a (by simp)
    · cases h
  case new z => cases h; exact ⟨by omega, .p (by omega), hH.cons (by omega) (by omega) fun x h => (hz x h).mono (by omega)⟩
  case box x =>
    split at h
    · cases h
      exact ⟨by omega, .p (by omega), hH.cons (by omega) (by omega) fun y h => (cells_in (hx x (by simp)) y h).mono (by omega)⟩
    · cases h
  case build z ps =>
    refine keep_in h hH fun x hx' => ?_
    obtain ⟨cs, h1, rfl⟩ := Option.map_eq_some_iff.1 hx'
    refine .ag (fillA_in h1 hz fun p hp => ?_)
    obtain ⟨q, hq, rfl⟩ := List.mem_map.1 hp
    exact hx _ (List.mem_map.2 ⟨q, hq, rfl⟩)
  case lit sz len z ps =>
    split at h
    · rename_i cs h1
      cases h
      refine ⟨by omega, .sl (by omega), hH.cons (by omega) (by omega) fun x hx' => (fillA_in h1 hz (fun p hp => ?_) x hx').mono (by omega)⟩
      obtain ⟨q, hq, rfl⟩ := List.mem_map.1 hp
      exact hx _ (List.mem_map.2 ⟨q, hq, rfl⟩)
    · cases h
  case ld agg sz a =>
    unfold evLd at h
    split at h
    · split at h
      · rename_i ho
        have := (hH _ _ ho).2
        split at h
        · split at h
          · cases h; exact ⟨Nat.le_refl _, .ag fun x hx' => this x (List.mem_of_mem_drop (List.mem_of_mem_take hx')), hH⟩
          · cases h
        · split at h
          · rename_i v' hv; cases h; exact ⟨Nat.le_refl _, this _ (List.mem_of_getElem? hv), hH⟩
          · cases h
      · cases h
    · cases h
  case st sz a x =>
    unfold evSt at h
    split at h
    · split at h
      · rename_i ho
        split at h
        · cases h
          exact ⟨Nat.le_refl _, .un, hH.put ho (setAll_in (hH _ _ ho).2 (cells_in (hx x (by simp))))⟩
        · cases h
      · cases h
    · cases h
  case bin op x y =>
    refine keep_in h hH fun z hz' => ?_
    unfold evBin at hz'
    split at hz'
    · unfold binI at hz'
      have hcmp : ∀ op a b z, cmpI op a b = some z → VIn n z := by
        intro op a b z hz; cases op <;> simp [cmpI] at hz <;> (subst hz; constructor)
      cases op <;> simp only at hz' <;> (try split at hz') <;> first | (cases hz'; done) | (cases hz'; constructor) | exact hcmp _ _ _ _ hz'
    · cases op <;> simp only [binS] at hz' <;> (try split at hz') <;> first | (cases hz'; done) | (cases hz'; constructor)
    · cases hz'
  case eqs neg ks x y =>
    refine keep_in h hH fun z hz' => ?_
    unfold evEqs at hz'
    split at hz'
    · obtain ⟨r, _, rfl⟩ := Option.map_eq_some_iff.1 hz'; constructor
    · cases hz'
  case eq1 neg k x y =>
    refine keep_in h hH fun z hz' => ?_
    obtain ⟨r, _, rfl⟩ := Option.map_eq_some_iff.1 hz'; constructor
  case un op x =>
    refine keep_in h hH fun z hz' => ?_
    unfold evUn at hz'
    split at hz' <;> (try split at hz') <;> first | (cases hz'; done) | (cases hz'; constructor)
  case conv k x =>
    split at h
    · cases h; exact ⟨Nat.le_refl _, .i _ _, hH⟩
    · cases h
  case mkf g a b =>
    cases h
    refine ⟨Nat.le_refl _, .fn (fun x hx' => ?_) (fun x hx' => ?_), hH⟩
    · obtain ⟨q, hq, rfl⟩ := List.mem_map.1 hx'; exact hx q (by simp [hq])
    · obtain ⟨q, hq, rfl⟩ := List.mem_map.1 hx'; exact hx q (by simp [hq])
  case mks sz bytes z l c =>
    unfold evMks at h
    split at h
    · split at h
      · cases h
        exact ⟨by omega, .sl (by omega), hH.cons (by omega) (by omega) fun x hx' => (zrep_in hz _ x hx').mono (by omega)⟩
      · cases h
    · cases h
  case sls sz x lo hi mx =>
    refine keep_in h hH fun z hz' => ?_
    have hxx := hx x (by simp)
    unfold evSls at hz'
    split at hz'
    · rename_i hv
      rw [hv] at hxx
      split at hz'
      · split at hz'
        · cases hz'; simp at hxx ⊢; exact hxx
        · cases hz'
      · cases hz'
    · split at hz'
      · cases hz'; constructor
      · cases hz'
    · cases hz'
  case sla m sz x lo hi mx =>
    refine keep_in h hH fun z hz' => ?_
    have hxx := hx x (by simp)
    unfold evSla at hz'
    split at hz'
    · rename_i hv
      rw [hv] at hxx
      split at hz'
      · split at hz'
        · cases hz'; simp at hxx ⊢; exact hxx
        · cases hz'
      · cases hz'
    · cases hz'
  case sstr x lo hi =>
    refine keep_in h hH fun z hz' => ?_
    unfold evStr at hz'
    split at hz'
    · split at hz'
      · split at hz'
        · cases hz'; constructor
        · cases hz'
      · cases hz'
    · cases hz'
  case fa off x =>
    refine keep_in h hH fun z hz' => ?_
    have hxx := hx x (by simp)
    unfold evFa at hz'
    split at hz'
    · rename_i hv; rw [hv] at hxx; cases hz'; simp at hxx ⊢; exact hxx
    · cases hz'
  case fld agg off sz x =>
    refine keep_in h hH fun z hz' => ?_
    have hxx := hx x (by simp)
    unfold evFld at hz'
    split at hz'
    · rename_i cs hv
      rw [hv] at hxx
      simp at hxx
      split at hz'
      · split at hz'
        · cases hz'; exact .ag fun y hy => hxx y (List.mem_of_mem_drop (List.mem_of_mem_take hy))
        · cases hz'
      · exact hxx _ (List.mem_of_getElem? hz')
    · cases hz'
  case ias sz x i =>
    refine keep_in h hH fun z hz' => ?_
    have hxx := hx x (by simp)
    unfold evIas at hz'
    split at hz'
    · rename_i hv _
      rw [hv] at hxx
      split at hz'
      · cases hz'; simp at hxx ⊢; exact hxx
      · cases hz'
    · cases hz'
  case iaa len sz x i =>
    refine keep_in h hH fun z hz' => ?_
    have hxx := hx x (by simp)
    unfold evIaa at hz'
    split at hz'
    · rename_i hv _
      rw [hv] at hxx
      split at hz'
      · cases hz'; simp at hxx ⊢; exact hxx
      · cases hz'
    · cases hz'
  case ixs x i =>
    refine keep_in h hH fun z hz' => ?_
    unfold evIxs at hz'
    split at hz'
    · split at hz'
      · obtain ⟨c, _, rfl⟩ := Option.map_eq_some_iff.1 hz'; constructor
      · cases hz'
    · cases hz'
  case blen g x =>
    refine keep_in h hH fun z hz' => ?_
    unfold evLen at hz'
    split at hz' <;> first | (cases hz'; done) | (cases hz'; constructor)
  case bmin xs =>
    refine keep_in h hH fun z hz' => ?_
    unfold evFold at hz'
    split at hz'
    · cases hz'
    · rename_i x r hxr
      have hm : ∀ (r : List V) (x z : V), VIn n x → foldO minI x r = some z → VIn n z := by
        intro r
        induction r with
        | nil => intro x z hx h; cases h; exact hx
        | cons y r ih =>
          intro x z hx h
          simp only [foldO] at h
          split at h
          · rename_i z' hz'
            refine ih z' z ?_ h
            unfold minI at hz'
            split at hz'
            · cases hz'; constructor
            · cases hz'
          · cases h
      refine hm r x z ?_ hz'
      cases xs with
      | nil => simp at hxr
      | cons a xs => simp at hxr; rw [← hxr.1]; exact hx a (by simp)
  case bmax xs =>
    refine keep_in h hH fun z hz' => ?_
    unfold evFold at hz'
    split at hz'
    · cases hz'
    · rename_i x r hxr
      have hm : ∀ (r : List V) (x z : V), VIn n x → foldO maxI x r = some z → VIn n z := by
        intro r
        induction r with
        | nil => intro x z hx h; cases h; exact hx
        | cons y r ih =>
          intro x z hx h
          simp only [foldO] at h
          split at h
          · rename_i z' hz'
            refine ih z' z ?_ h
            unfold maxI at hz'
            split at hz'
            · cases hz'; constructor
            · cases hz'
          · cases h
      refine hm r x z ?_ hz'
      cases xs with
      | nil => simp at hxr
      | cons a xs => simp at hxr; rw [← hxr.1]; exact hx a (by simp)
  case app sz bytes z s x =>
    have hs := hx s (by simp)
    unfold evApp at h
    split at h
    · rename_i new hnew
      have hnew' := cellsOf_in hH hnew
      split at h
      · split at h
        · split at h
          · cases h; exact ⟨Nat.le_refl _, .nils, hH⟩
          · split at h
            · cases h; exact ⟨by omega, .sl (by omega), hH.cons (by omega) (by omega) fun x hx' => (hnew' x hx').mono (by omega)⟩
            · cases h
        · rename_i hv
          rw [hv] at hs
          simp at hs
          split at h
          · rename_i ho
            have hold := (hH _ _ ho).2
            have hrow : ∀ (l o : Nat), ∀ x ∈ (List.take l (List.drop o _)) ++ new, VIn n x := fun l o x hx' => by
              rcases List.mem_append.1 hx' with h1 | h1
              · exact hold x (List.mem_of_mem_drop (List.mem_of_mem_take h1))
              · exact hnew' x h1
            split at h
            · split at h
              · split at h
                · cases h; exact ⟨Nat.le_refl _, .sl hs, hH⟩
                · cases h; exact ⟨by omega, .sl (by omega), hH.cons (by omega) (by omega) fun x hx' => (hrow _ _ x hx').mono (by omega)⟩
              · split at h
                · cases h; exact ⟨by omega, .sl (by omega), (hH.del _).cons (by omega) (by omega) fun x hx' => (hrow _ _ x hx').mono (by omega)⟩
                · cases h
            · cases h
          · cases h
        · cases h
      · cases h
    · cases h
  case cpy sz d s =>
    unfold evCpy at h
    split at h
    · rename_i new hnew
      have hnew' := cellsOf_in hH hnew
      split at h
      · cases h; exact ⟨Nat.le_refl _, .i _ _, hH⟩
      · split at h
        · rename_i ho
          split at h
          · cases h; exact ⟨Nat.le_refl _, .i _ _, hH.put ho (setAll_in (hH _ _ ho).2 fun x hx' => hnew' x (List.mem_of_mem_take hx'))⟩
          · cases h
        · cases h
      · cases h
    · cases h
  case clr sz z x =>
    unfold evClr at h
    split at h
    · cases h; exact ⟨Nat.le_refl _, .tu (by simp), hH⟩
    · split at h
      · cases h; exact ⟨Nat.le_refl _, .tu (by simp), hH⟩
      · split at h
        · rename_i ho
          split at h
          · cases h; exact ⟨Nat.le_refl _, .tu (by simp), hH.put ho (setAll_in (hH _ _ ho).2 (zrep_in hz _))⟩
          · cases h
        · cases h
    · cases h
  case call g xs => cases h
  case nilc x =>
    refine keep_in h hH fun z hz' => ?_
    have hxx := hx x (by simp)
    unfold evNil at hz'
    split at hz'
    · rename_i hv; rw [hv] at hxx; cases hz'; exact hxx
    · cases hz'
  case ext x i =>
    refine keep_in h hH fun z hz' => ?_
    have hxx := hx x (by simp)
    unfold evExt at hz'
    split at hz'
    · rename_i cs hv; rw [hv] at hxx; simp at hxx; exact hxx _ (List.mem_of_getElem? hz')
    · cases hz'
  case b2s x =>
    refine keep_in h hH fun z hz' => ?_
    unfold evB2s at hz'
    split at hz'
    · obtain ⟨l, _, rfl⟩ := Option.map_eq_some_iff.1 hz'; constructor
    · cases hz'
end ops
end Go.Proofs.Ytpgelghkjiejlaa
end
section
namespace Go.Proofs.Ytpgelghkjiejlaa
open Go

def idOf : V → List Nat
  | .p id _ => [id]
  | .sl id .. => [id]
  | _ => []
def fullOf : V → Bool
  | .sl _ _ _ _ f => f
  | _ => true
def frOp (T : Temps) : AOp → List Nat
  | .ld _ _ a => idOf (a.val T)
  | .sla _ _ x _ _ _ => idOf (x.val T)
  | .app _ _ _ s x => idOf (x.val T) ++ (if fullOf (s.val T) then idOf (s.val T) else [])
  | .cpy _ _ s => idOf (s.val T)
  | .b2s x => idOf (x.val T)
  | _ => []
def fwOp (T : Temps) : AOp → List Nat
  | .st _ a _ => idOf (a.val T)
  | .app _ _ _ s _ => if fullOf (s.val T) then [] else idOf (s.val T)
  | .cpy _ d _ => idOf (d.val T)
  | .clr _ _ x => idOf (x.val T)
  | _ => []
def okD (st : St) (fr fw : List Nat) (n1 : Nat) (R : Heap) : Prop :=
  st.n ≤ n1 ∧ (∀ b ∈ fr ++ fw, b < st.n) ∧ (∀ b ∈ fw, ∃ cs, aget st.H b = some (.row true cs)) ∧ ∀ p ∈ R, touch fw st.n n1 p.1 = true → p.2.own = true
/-- What a call answers has the ids that there are. -/
def inD (n n1 : Nat) (fw : List Nat) (v : V) (R : Heap) : Prop := VIn n1 v ∧ ∀ p ∈ R, touch fw n n1 p.1 = true → BIn n1 p.2
def drawF (P : Program) : List AOper → St → List DStep → (List DStep → St → Prop) → Prop
  | [], st, acc, K => K acc st
  | o :: os, st, acc, K =>
    match guardOf st.T o.guard with
    | some false => drawF P os ⟨putT st.T o.dst .un, st.D, st.n, st.H⟩ (acc ++ [⟨gslots o.guard, o.dst, [], [], st.n, st.n, .un, []⟩]) K
    | some true =>
      match o.op with
      | .call g args =>
        match g.val st.T with
        | .fn f first caps => ∃ fr fw v n1 R, ACalls P f (first ++ args.map (·.val st.T) ++ caps) st.n (restr st.H fr fw) (fun v' n' H' => v' = v ∧ n' = n1 ∧ H' = R) ∧
            okD st fr fw n1 R ∧ inD st.n n1 fw v R ∧
            drawF P os ⟨putT st.T o.dst v, st.D, n1, mergeH st.H fw st.n n1 R⟩ (acc ++ [⟨(AOp.call g args).slots ++ gslots o.guard, o.dst, fr, fw, st.n, n1, v, R⟩]) K
        | _ => False
      | op =>
        ∃ fr fw v n1 R, evalOp st.T st.n (restr st.H fr fw) op = some (v, n1, R) ∧ op.cok = true ∧ okD st fr fw n1 R ∧
            drawF P os ⟨putT st.T o.dst v, st.D, n1, mergeH st.H fw st.n n1 R⟩ (acc ++ [⟨op.slots ++ gslots o.guard, o.dst, fr, fw, st.n, n1, v, R⟩]) K
    | none => False
/-- All pairs: ordered, or out of each other's way. -/
def compatRow (bj : Nat) (sj : DStep) : Nat → List DStep → Bool
  | _, [] => true
  | i, s :: r => (bj.testBit i || indep s sj) && compatRow bj sj (i + 1) r
def compatB (befs : List Nat) (all : List DStep) : Nat → List DStep → Bool
  | _, [] => true
  | j, s :: r => compatRow (befs.getD j 0) s 0 (all.take j) && compatB befs all (j + 1) r

theorem compatRow_spec {bj : Nat} {sj : DStep} : ∀ {l : List DStep} {k : Nat}, compatRow bj sj k l = true → ∀ (i : Nat) s, l[i]? = some s → bj.testBit (k + i) = true ∨ indep s sj = true := by
  intro l
  induction l with
  | nil => intro k _ i s h; simp at h
  | cons s0 l ih =>
    intro k h i s hi
    simp only [compatRow, Bool.and_eq_true, Bool.or_eq_true] at h
    cases i with
    | zero => simp at hi; subst hi; simpa using h.1
    | succ i => have := ih h.2 i s (by simpa using hi); rw [show k + (i + 1) = k + 1 + i by omega]; exact this
theorem compatB_spec {befs : List Nat} {all : List DStep} : ∀ {l : List DStep} {j : Nat}, compatB befs all j l = true → (∀ i, l[i]? = all[j + i]?) → ∀ (i i' : Nat) si sj, i < j + i' → all[i]? = some si → l[i']? = some sj → (befs.getD (j + i') 0).testBit i = true ∨ indep si sj = true := by
  intro l
  induction l with
  | nil => intro j _ _ i i' si sj _ _ h; simp at h
  | cons s0 l ih =>
    intro j h hl i i' si sj hlt hi hj
    simp only [compatB, Bool.and_eq_true] at h
    cases i' with
    | zero =>
      simp at hj
      subst hj
      have := compatRow_spec h.1 i si (by rw [List.getElem?_take, if_pos (by omega)]; exact hi)
      simpa using this
    | succ i' =>
      have := ih h.2 (fun i => by have := hl (i + 1); rw [show j + 1 + i = j + (i + 1) by omega]; simpa using this) i i' si sj (by omega) hi (by simpa using hj)
      rw [show j + (i' + 1) = j + 1 + i' by omega]; exact this

def runTo (l : List DStep) (x : TH) : TH := l.foldl (fun x s => s.go x) x
theorem runTo_append (l l' : List DStep) (x : TH) : runTo (l ++ l') x = runTo l' (runTo l x) := by simp [runTo]
theorem seqD_lt (k : Nat) : ∀ (l : List DStep) (j : Nat) (x : TH), seqD (fun i => decide (i < k)) j l x = runTo (l.take (k - j)) x := by
  intro l
  induction l with
  | nil => intro j x; simp [seqD, runTo]
  | cons s l ih =>
    intro j x
    unfold seqD
    rw [ih]
    by_cases hj : j < k
    · obtain ⟨d, hd⟩ : ∃ d, k - j = d + 1 := ⟨k - j - 1, by omega⟩
      rw [hd, show k - (j + 1) = d by omega]
      simp [hj, runTo]
    · rw [show k - j = 0 by omega, show k - (j + 1) = 0 by omega]
      simp [hj, runTo]
theorem seqD_all {D : Nat → Bool} : ∀ (l : List DStep) (j : Nat) (x : TH), (∀ i, i < l.length → D (j + i) = true) → seqD D j l x = runTo l x := by
  intro l
  induction l with
  | nil => intro j x _; rfl
  | cons s l ih =>
    intro j x h
    unfold seqD
    rw [ih (j + 1) _ (fun i hi => by rw [show j + 1 + i = j + (i + 1) by omega]; exact h (i + 1) (by simpa using hi))]
    have := h 0 (by simp)
    rw [Nat.add_zero] at this
    simp [this, runTo]

section draw
variable {P : Program} {N : Nat} {ops : Array Oper}
theorem guard_congr {T T' : Temps} {g : Option (Option Nat × Bool)} (h : ∀ t ∈ gslots g, aget T t = aget T' t) : guardOf T g = guardOf T' g := by
  unfold guardOf
  split
  · rfl
  · rw [h _ (by simp [gslots])]
  · rfl
theorem restrT_eq {T : Temps} {rs : List Nat} {t : Nat} (h : t ∈ rs) : aget (restrT T rs) t = aget T t := by
  rw [aget_restrT, if_pos (by simpa using h)]
theorem lstep_skip {i : Nat} {o : Oper} {ao : AOper} (ho : ops[i]? = some o) (hp : prepOper P N ops o = some ao) {T : Temps} {n : Nat} (hg : guardOf T ao.guard = some false) :
    LStep P N ops i (restrT T (gslots ao.guard)) [] ⟨gslots ao.guard, ao.dst, [], [], n, n, .un, []⟩ := by
  obtain ⟨p1, p2, p3, p4⟩ := prepOper_inv hp
  intro ρ rd F m a w hF hT hS next Q hnext
  have hg' : guardOf (restrT T (gslots ao.guard)) ao.guard = some false := (guard_congr fun t ht => restrT_eq ht).trans hg
  have hw := wanted_of hT (by rw [← p4]; exact hg')
  unfold wpOpIn
  simp only [ho, hw, Bool.false_eq_true, if_false]
  refine ⟨fun f _ => hF.fn f, ?_⟩
  have := hnext ρ undef w (.un _) hS (.refl _ _ _ _)
  simp only at this
  rw [p2] at this
  exact this
theorem lstep_op {i : Nat} {o : Oper} {ao : AOper} (ho : ops[i]? = some o) (hp : prepOper P N ops o = some ao) {T : Temps} {n n1 : Nat} {R R' : Heap} {v : V} {fr fw : List Nat} (hg : guardOf T ao.guard = some true) (hnc : ∀ g l, ao.op ≠ .call g l)
    (hev : evalOp T n R ao.op = some (v, n1, R')) : LStep P N ops i (restrT T (ao.op.slots ++ gslots ao.guard)) R ⟨ao.op.slots ++ gslots ao.guard, ao.dst, fr, fw, n, n1, v, R'⟩ := by
  obtain ⟨p1, p2, p3, p4⟩ := prepOper_inv hp
  intro ρ rd F m a w hF hT hS next Q hnext
  have hg' : guardOf (restrT T (ao.op.slots ++ gslots ao.guard)) ao.guard = some true := (guard_congr fun t ht => restrT_eq (by simp [ht])).trans hg
  have hw := wanted_of hT (by rw [← p4]; exact hg')
  have hp1 := prepOp2_other p1 hnc
  have hev' : evalOp (restrT T (ao.op.slots ++ gslots ao.guard)) n R ao.op = some (v, n1, R') := (evalOp_congr n R ao.op fun t ht => restrT_eq (by simp [ht])).trans hev
  unfold wpOpIn
  simp only [ho, hw, if_true, Oper.wpIn]
  refine ⟨fun f _ => hF.fn f, ?_⟩
  rw [Oper.semAt_eq _ _ _ (prepOp_ne_defer hp1)]
  obtain ⟨nx, y, w', ρ', hrun, hnx, hv, hs, hx⟩ := evalOp_sound hT hS hp1 hev'
  rw [hrun]
  have hgo := hnext ρ' y w' hv hs hx
  simp only at hgo
  rw [p2] at hgo
  rcases hnx with rfl | ⟨rfl, rfl⟩
  · exact hgo
  · exact hgo
theorem lstep_call {i : Nat} {o : Oper} {ao : AOper} (ho : ops[i]? = some o) (hp : prepOper P N ops o = some ao) {T : Temps} {n n1 : Nat} {R R' : Heap} {v : V} {fr fw : List Nat} (hg : guardOf T ao.guard = some true) {g : AX} {args : List AX} (hop : ao.op = .call g args)
    {f : FuncId} {first caps : List V} (hgv : g.val T = .fn f first caps) (hc : ACalls P f (first ++ args.map (·.val T) ++ caps) n R (fun v' n' H' => v' = v ∧ n' = n1 ∧ H' = R')) :
    LStep P N ops i (restrT T ((AOp.call g args).slots ++ gslots ao.guard)) R ⟨(AOp.call g args).slots ++ gslots ao.guard, ao.dst, fr, fw, n, n1, v, R'⟩ := by
  obtain ⟨p1, p2, p3, p4⟩ := prepOper_inv hp
  intro ρ rd F m a w hF hT hS next Q hnext
  have hg' : guardOf (restrT T ((AOp.call g args).slots ++ gslots ao.guard)) ao.guard = some true := (guard_congr fun t ht => restrT_eq (by simp [ht])).trans hg
  have hw := wanted_of hT (by rw [← p4]; exact hg')
  rw [hop] at p1
  obtain ⟨c, fo, e1, e2, e3, e4⟩ := prepOp2_call p1
  have hgv' : g.val (restrT T ((AOp.call g args).slots ++ gslots ao.guard)) = .fn f first caps := (g.val_congr fun t ht => restrT_eq (by simp [AOp.slots, ht])).trans hgv
  have hav : args.map (·.val (restrT T ((AOp.call g args).slots ++ gslots ao.guard))) = args.map (·.val T) := xs_congr args fun t ht => restrT_eq (by simp [AOp.slots, ht])
  unfold wpOpIn
  simp only [ho, hw, if_true, Oper.wpIn]
  refine ⟨fun f _ => hF.fn f, ?_⟩
  rw [Oper.semAt_eq _ _ _ (by rw [e1]; intro c h; cases h)]
  refine callV_sound (st := ⟨restrT T ((AOp.call g args).slots ++ gslots ao.guard), [], n, R⟩) hF hT hS e1 e2 e3 e4 (K := fun v' n' H' => v' = v ∧ n' = n1 ∧ H' = R') ?_ _ _ ?_
  · simp only [callV, hgv', hav]
    exact hc
  · rintro v' n' H' ρ' y w' ⟨rfl, rfl, rfl⟩ hv hs hx
    have hgo := hnext ρ' y w' hv hs hx
    simp only at hgo
    rw [p2] at hgo
    exact hgo
theorem aget_mem {α : Type} {b : Nat} {k : α} : ∀ {l : List (Nat × α)}, aget l b = some k → (b, k) ∈ l := by
  intro l
  induction l with
  | nil => intro h; simp at h
  | cons x l ih =>
    obtain ⟨i, z⟩ := x
    intro h
    rw [aget_cons] at h
    by_cases hi : i = b
    · subst hi; rw [if_pos rfl] at h; cases h; simp
    · rw [if_neg hi] at h; simp [ih h]
theorem restr_in {n : Nat} {H : Heap} (h : HIn n H) (fr fw : List Nat) : HIn n (restr H fr fw) := fun b k hb => by
  rcases aget_restr hb with ⟨_, h2⟩ | ⟨_, o, cs, h2, rfl⟩
  · exact h b k h2
  · exact ⟨(h b _ h2).1, (h b _ h2).2⟩
theorem putT_in {n : Nat} {T : Temps} {v : V} (h : TIn n T) (hv : VIn n v) (dst : Option Nat) : TIn n (putT T dst v) := fun i u hu => by
  rw [aget_putT] at hu
  split at hu
  · cases hu; exact hv
  · exact h i u hu
theorem merge_in {n n1 : Nat} {H R : Heap} {fw : List Nat} (hH : HIn n H) (hn : n ≤ n1) (hfw : ∀ b ∈ fw, b < n) (hR : ∀ b k, aget R b = some k → touch fw n n1 b = true → BIn n1 k) : HIn n1 (mergeH H fw n n1 R) := fun b k hb => by
  rw [aget_mergeH] at hb
  split at hb
  · rename_i ht
    refine ⟨?_, hR b k hb ht⟩
    simp only [touch, Bool.or_eq_true, Bool.and_eq_true, decide_eq_true_eq, List.contains_eq_mem] at ht
    rcases ht with h1 | h1
    · exact Nat.lt_of_lt_of_le (hfw b h1) hn
    · exact h1.2
  · exact (hH.mono hn) b k hb
theorem okD_fact {st : St} {rs fr fw : List Nat} {n1 : Nat} {R : Heap} {dst : Option Nat} {v : V} {k : Nat} (hT : TIn st.n st.T) (hH : HIn st.n st.H) (h : okD st fr fw n1 R) (hd : dstOk N dst = true) (hs : LStep P N ops k (restrT st.T rs) (restr st.H fr fw) ⟨rs, dst, fr, fw, st.n, n1, v, R⟩) :
    Fact P N ops k (st.T, st.H) ⟨rs, dst, fr, fw, st.n, n1, v, R⟩ := by
  obtain ⟨h1, h3, h4, h5⟩ := h
  refine ⟨hs, hd, fun t u ht hu => hT t u hu, fun b o cs hb hx => (hH b _ hx).2, fun b k hb hk => ?_, fun b hb => h3 b (by simpa using hb), fun b k hb hk => ?_, h1⟩
  · obtain ⟨cs, hcs⟩ := h4 b hb
    simp only at hk
    rw [hcs] at hk
    cases hk
    exact ⟨cs, rfl⟩
  · exact h5 (b, k) (aget_mem hk) hb
theorem drawF_ok {K : List DStep → St → Prop} {x0 : TH} : ∀ (os : List Oper) (l : List AOper) (acc : List DStep) (st : St), prepOpers P N ops os = some l → (∀ j, os[j]? = ops[acc.length + j]?) → (st.T, st.H) = runTo acc x0 → TIn st.n st.T → HIn st.n st.H → drawF P l st acc K →
    ∃ more st', K (acc ++ more) st' ∧ more.length = os.length ∧ (st'.T, st'.H) = runTo (acc ++ more) x0 ∧ st'.D = st.D ∧ st.n ≤ st'.n ∧
      (∀ (j : Nat) s, more[j]? = some s → Fact P N ops (acc.length + j) (runTo (acc ++ more.take j) x0) s ∧ st.n ≤ s.n0 ∧ s.n1 ≤ st'.n) ∧ (∀ (i j : Nat) si sj, i < j → more[i]? = some si → more[j]? = some sj → si.n1 ≤ sj.n0) := by
  intro os
  induction os with
  | nil =>
    intro l acc st hp _ hx _ _ h
    cases hp
    exact ⟨[], st, by simpa [drawF] using h, rfl, by simpa using hx, rfl, Nat.le_refl _, fun j s h => by simp at h, fun i j si sj _ h => by simp at h⟩
  | cons o os ih =>
    intro l acc st hp ho hx hT hH h
    simp only [prepOpers] at hp
    split at hp
    · rename_i ao l' h1 h2
      cases hp
      have hoi : ops[acc.length]? = some o := by have := ho 0; simpa using this.symm
      obtain ⟨p1, p2, p3, p4⟩ := prepOper_inv h1
      -- how one step is put ahead of the rest
      have key : ∀ (s : DStep) (st1 : St), st1 = ⟨putT st.T s.dst s.v, st.D, s.n1, mergeH st.H s.fw s.n0 s.n1 s.R⟩ → s.n0 = st.n → Fact P N ops acc.length (st.T, st.H) s → VIn s.n1 s.v → HIn s.n1 (mergeH st.H s.fw s.n0 s.n1 s.R) → drawF P l' st1 (acc ++ [s]) K →
          ∃ more st', K (acc ++ more) st' ∧ more.length = (o :: os).length ∧ (st'.T, st'.H) = runTo (acc ++ more) x0 ∧ st'.D = st.D ∧ st.n ≤ st'.n ∧
            (∀ (j : Nat) s, more[j]? = some s → Fact P N ops (acc.length + j) (runTo (acc ++ more.take j) x0) s ∧ st.n ≤ s.n0 ∧ s.n1 ≤ st'.n) ∧ (∀ (i j : Nat) si sj, i < j → more[i]? = some si → more[j]? = some sj → si.n1 ≤ sj.n0) := by
        rintro s st1 rfl hn0 hf hvin hmin hd
        have hle : s.n0 ≤ s.n1 := hf.nle
        obtain ⟨more, st', q1, q2, q3, q4, q5, q6, q7⟩ := ih l' (acc ++ [s]) _ h2 (fun j => by have := ho (j + 1); simp only [List.length_append, List.length_cons, List.length_nil]; rw [show acc.length + (0 + 1) + j = acc.length + (j + 1) by omega]; simpa using this) (by rw [runTo_append, ← hx]; rfl) (putT_in (hT.mono (by omega)) hvin _) hmin hd
        refine ⟨s :: more, st', by simpa using q1, by simp [q2], by simpa using q3, q4, by simp only at q5; omega, fun j s' hj => ?_, fun i j si sj hij hi hj => ?_⟩
        · cases j with
          | zero =>
            simp at hj
            subst hj
            refine ⟨by simpa [← hx] using hf, by omega, q5⟩
          | succ j =>
            obtain ⟨g1, g2, g3⟩ := q6 j s' (by simpa using hj)
            refine ⟨?_, by simp only at g2; omega, g3⟩
            simp only [List.length_append, List.length_cons, List.length_nil] at g1
            rw [show acc.length + (0 + 1) + j = acc.length + (j + 1) by omega] at g1
            simpa using g1
        · cases j with
          | zero => omega
          | succ j =>
            cases i with
            | zero =>
              simp at hi
              subst hi
              exact (q6 j sj (by simpa using hj)).2.1
            | succ i => exact q7 i j si sj (by omega) (by simpa using hi) (by simpa using hj)
      unfold drawF at h
      split at h
      · rename_i hg
        refine key ⟨gslots ao.guard, ao.dst, [], [], st.n, st.n, .un, []⟩ _ ?_ rfl ?_ .un (merge_in hH (Nat.le_refl _) (by simp) (by simp)) h
        · have : mergeH st.H [] st.n st.n [] = st.H := by
            have : st.H.filter (fun x => !touch [] st.n st.n x.1) = st.H := List.filter_eq_self.2 fun x _ => by simp [touch]; omega
            simp [mergeH, this]
          simp [this]
        · exact okD_fact hT hH ⟨Nat.le_refl _, fun b hb => by simp at hb, fun b hb => by simp at hb, fun p hp => by simp at hp⟩ (by rw [p2]; exact p3) (lstep_skip hoi h1 hg)
      · rename_i hg
        split at h
        · rename_i g args hop
          split at h
          · rename_i f first caps hgv
            obtain ⟨fr, fw, v, n1, R, hc, hok, hin, hd⟩ := h
            exact key ⟨_, ao.dst, fr, fw, st.n, n1, v, R⟩ _ rfl rfl (okD_fact hT hH hok (by rw [p2]; exact p3) (lstep_call hoi h1 hg hop hgv hc)) hin.1 (merge_in hH hok.1 (fun b hb => hok.2.1 b (by simp [hb])) fun b k hb ht => hin.2 (b, k) (aget_mem hb) ht) hd
          · exact h.elim
        · rename_i hnc
          obtain ⟨fr, fw, v, n1, R, hev, hcok, hok, hd⟩ := h
          obtain ⟨_, i2, i3⟩ := evalOp_in hT (restr_in hH _ _) hcok hev
          exact key ⟨_, ao.dst, fr, fw, st.n, n1, v, R⟩ _ rfl rfl (okD_fact hT hH hok (by rw [p2]; exact p3) (lstep_op hoi h1 hg hnc hev)) i2 (merge_in hH hok.1 (fun b hb => hok.2.1 b (by simp [hb])) fun b k hb _ => (i3 b k hb).2) hd
      · exact h.elim
    · cases hp
end draw
end Go.Proofs.Ytpgelghkjiejlaa
end
section
namespace Go.Proofs.Ytpgelghkjiejlaa
open Go

theorem fold_bits (acc : List Nat) (x : Nat) : ∀ (on : List Nat) (m : Nat), (on.foldl (fun m i => m ||| (1 <<< i) ||| acc.getD i 0) m).testBit x = true → m.testBit x = true ∨ x ∈ on ∨ ∃ e ∈ on, (acc.getD e 0).testBit x = true := by
  intro on
  induction on with
  | nil => intro m h; exact .inl h
  | cons e on ih =>
    intro m h
    rw [List.foldl_cons] at h
    rcases ih _ h with h1 | h1 | ⟨e', h1, h2⟩
    · simp only [Nat.testBit_or, Bool.or_eq_true] at h1
      rcases h1 with (h1 | h1) | h1
      · exact .inl h1
      · rw [Nat.testBit_shiftLeft] at h1
        simp only [Bool.and_eq_true, decide_eq_true_eq] at h1
        have hb : x - e = 0 := by
          by_cases h3 : x - e = 0
          · exact h3
          · have := h1.2; rw [Nat.testBit_one_eq_true_iff_self_eq_zero] at this; exact this
        exact .inr (.inl (by have : x = e := by omega
                             simp [this]))
      · exact .inr (.inr ⟨e, by simp, h1⟩)
    · exact .inr (.inl (by simp [h1]))
    · exact .inr (.inr ⟨e', by simp [h1], h2⟩)
theorem befores_spec : ∀ (os : List Oper) (acc b : List Nat), befores os acc = some b → b.length = acc.length + os.length ∧ (∀ i, i < acc.length → b.getD i 0 = acc.getD i 0) ∧
    ∀ (j : Nat) o, os[j]? = some o → ∃ on : List Nat, on = (o.after.toList.filter (Region.binds .any)).map (·.on) ∧ (∀ e ∈ on, e < acc.length + j) ∧ ∀ x, (b.getD (acc.length + j) 0).testBit x = true → x ∈ on ∨ ∃ e ∈ on, (b.getD e 0).testBit x = true := by
  intro os
  induction os with
  | nil => intro acc b h; cases h; exact ⟨rfl, fun _ _ => rfl, fun j o h => by simp at h⟩
  | cons o os ih =>
    intro acc b h
    simp only [befores] at h
    split at h
    · rename_i hall
      obtain ⟨h1, h2, h3⟩ := ih _ _ h
      simp only [List.length_append, List.length_cons, List.length_nil] at h1 h2 h3
      have hlt : ∀ e ∈ (o.after.toList.filter (Region.binds .any)).map (·.on), e < acc.length := fun e he => by
        have := List.all_eq_true.1 hall e he; simpa using this
      have hacc : ∀ i, i < acc.length → b.getD i 0 = acc.getD i 0 := fun i hi => by
        rw [h2 i (by omega)]
        simp only [List.getD_eq_getElem?_getD]
        rw [List.getElem?_append_left hi]
      refine ⟨by simp; omega, hacc, fun j o' hj => ?_⟩
      cases j with
      | zero =>
        simp at hj
        subst hj
        refine ⟨_, rfl, by simpa using hlt, fun x hx => ?_⟩
        rw [Nat.add_zero, h2 acc.length (by omega)] at hx
        simp only [List.getD_eq_getElem?_getD, List.getElem?_concat_length, Option.getD_some] at hx
        rcases fold_bits acc x _ 0 (by simpa only [List.getD_eq_getElem?_getD] using hx) with h4 | h4 | ⟨e, h4, h5⟩
        · simp at h4
        · exact .inl h4
        · exact .inr ⟨e, h4, by rw [hacc e (hlt e h4)]; exact h5⟩
      | succ j =>
        obtain ⟨on, g1, g2, g3⟩ := h3 j o' (by simpa using hj)
        refine ⟨on, g1, fun e he => by have := g2 e he; omega, ?_⟩
        rw [show acc.length + (j + 1) = acc.length + (0 + 1) + j by omega]
        exact g3
    · cases h

def cnt (D : Nat → Bool) : Nat → Nat
  | 0 => 0
  | n + 1 => cnt D n + if D n then 0 else 1
theorem cnt_zero {D : Nat → Bool} : ∀ {n : Nat}, cnt D n = 0 → ∀ i, i < n → D i = true := by
  intro n
  induction n with
  | zero => intro _ i hi; omega
  | succ n ih =>
    intro h i hi
    unfold cnt at h
    rcases Nat.lt_or_ge i n with h1 | h1
    · exact ih (by omega) i h1
    · obtain rfl : i = n := by omega
      cases hd : D i with
      | true => rfl
      | false => rw [hd] at h; simp at h
theorem cnt_le {D : Nat → Bool} {k : Nat} : ∀ n, cnt (addD D k) n ≤ cnt D n := by
  intro n
  induction n with
  | zero => exact Nat.le_refl _
  | succ n ih =>
    unfold cnt
    have : (if addD D k n then 0 else 1) ≤ (if D n then 0 else 1) := by
      unfold addD
      cases D n <;> cases (n == k) <;> simp
    omega
theorem cnt_lt {D : Nat → Bool} {k : Nat} (hk : D k = false) : ∀ n, k < n → cnt (addD D k) n < cnt D n := by
  intro n
  induction n with
  | zero => intro h; omega
  | succ n ih =>
    intro h
    unfold cnt
    by_cases hn : n = k
    · subst hn
      have := cnt_le (D := D) (k := n) n
      simp [addD, hk]
      omega
    · have := ih (by omega)
      simp [addD, hn]
      omega
theorem cnt_bound (D : Nat → Bool) : ∀ n, cnt D n ≤ n := by
  intro n
  induction n with
  | zero => exact Nat.le_refl _
  | succ n ih => unfold cnt; split <;> omega

section draw
variable {P : Program} {N : Nat}
theorem AWc.draw {rd : Option Nat} {st : St} {Q : Exit → St → Prop} {b : List Nat} {l : List AOper}
    (h : drawF P l st [] fun steps st' => compatB b steps 0 steps = true ∧ Q .normal st') : AWc P N rd (.ops (some b) l) st Q := by
  intro c hp ρ F m a w hF hA
  obtain ⟨id, ops, draw, rfl, h1, ⟨h2, _⟩ | ⟨b', hb, rfl, hmix, hbef⟩⟩ := prepC_ops hp
  · cases h2
  cases hb
  obtain ⟨steps, st', ⟨hcb, hQ⟩, hlen, hrun, hD, hn, hfacts, hchain⟩ := drawF_ok (ops := ops) (N := N) (x0 := (st.T, st.H)) ops.toList l [] st h1 (fun j => by simp) rfl (hA.tm.tin fun b x hb => (hA.sim.sup b x hb).1) hA.sim.hin h
  simp only [List.nil_append, List.length_nil, Nat.zero_add] at hcb hrun hfacts
  have hlen' : steps.length = ops.size := by simpa using hlen
  obtain ⟨hb1, _, hb3⟩ := befores_spec ops.toList [] b hbef
  simp only [List.length_nil, Nat.zero_add] at hb1 hb3
  have hcomp : ∀ (i j : Nat) si sj, i < j → steps[i]? = some si → steps[j]? = some sj → i ∈ (List.range j).filter (fun i => (b.getD j 0).testBit i) ∨ indep si sj = true := fun i j si sj hij hi hj => by
    rcases compatB_spec hcb (fun i => by simp) i j si sj (by omega) hi hj with h4 | h4
    · exact .inl (List.mem_filter.2 ⟨by simpa using hij, by simpa using h4⟩)
    · exact .inr h4
  have hfacts' : ∀ (k : Nat) s, steps[k]? = some s → Fact P N ops k (seqD (fun i => decide (i < k)) 0 steps (st.T, st.H)) s ∧ st.n ≤ s.n0 := fun k s hk => by
    obtain ⟨g1, g2, _⟩ := hfacts k s hk
    rw [seqD_lt, Nat.sub_zero]
    exact ⟨g1, g2⟩
  let w1 : World := { w with drawn := w.drawn + 1 }
  have hS1 : Sim (prepC P) ρ st.n st.H w1 := hA.sim.congr rfl
  have hE1 : Ext ρ st.n st.H w ρ st.n st.H w1 := .of_draw rfl rfl rfl rfl (Nat.le_succ _)
  -- the whole
  have fin : ∀ (D : Nat → Bool) (ρ' : Ren) (a' : Act) (w' : World), (∀ i, i < ops.size → D i = true) → Inv P N steps st ρ w1 D ρ' a' w' → Post P N ρ st w Q .normal a' w' := by
    intro D ρ' a' w' hall hI
    have hs : seqD D 0 steps (st.T, st.H) = (st'.T, st'.H) := by
      rw [seqD_all steps 0 _ (fun i hi => by rw [Nat.zero_add]; exact hall i (by omega)), hrun]
    have e1 : (seqD D 0 steps (st.T, st.H)).1 = st'.T := by rw [hs]
    have e2 : (seqD D 0 steps (st.T, st.H)).2 = st'.H := by rw [hs]
    obtain ⟨i1, i2, i3, i4, i5, i6, i7, i8, i9, i10, idr, i11, i12, i13⟩ := hI
    rw [e1] at i1
    rw [e2] at i4 i5 i13
    refine ⟨st', ρ', hQ, ⟨i1, by rw [hD]; exact i2, ⟨fun b x hb => ?_, i4, i5⟩⟩, hE1.trans ⟨hn, i6, i7, i8, i9, i10, idr, i11, i12, i13⟩⟩
    obtain ⟨g1, g2⟩ := i3 b x hb
    refine ⟨?_, g2⟩
    rcases g1 with g1 | ⟨k, s, _, hk, _, g4⟩
    · omega
    · have := (hfacts k s hk).2.2; omega
  have walk : ∀ (fuel : Nat) (listed : Array Bool) (ρ' : Ren) (a' : Act) (w' : World), listed.size = ops.size → (∀ i j, listed.getD j false = true → (b.getD j 0).testBit i = true → listed.getD i false = true) →
      cnt (fun i => listed.getD i false) ops.size ≤ fuel → Inv P N steps st ρ w1 (fun i => listed.getD i false) ρ' a' w' → wpAnyIn F m P .any ops (Post P N ρ st w Q) fuel listed a' w' := by
    intro fuel
    induction fuel with
    | zero =>
      intro listed ρ' a' w' hsz hdown hc hI
      have hall := cnt_zero (Nat.le_zero.1 hc)
      refine ⟨?_, fin _ ρ' a' w' hall hI⟩
      cases hr : Region.ready .any ops listed with
      | nil => rfl
      | cons k r =>
        have hk : k ∈ Region.ready .any ops listed := by rw [hr]; simp
        obtain ⟨g1, o, g2, _⟩ := mem_ready.1 hk
        have hlt := (Array.getElem?_eq_some_iff.1 g2).1
        have := hall k hlt
        simp only [Array.getD_eq_getD_getElem?] at this g1
        rw [Array.getElem?_eq_getElem (by omega)] at this g1
        simp at this g1
        rw [this] at g1
        cases g1
    | succ fuel ih =>
      intro listed ρ' a' w' hsz hdown hc hI
      refine ⟨fun hr => ?_, fun k hk => ?_⟩
      · refine fin _ ρ' a' w' (fun i hi => ?_) hI
        induction i using Nat.strongRecOn with
        | _ i ihi =>
          cases hd : listed.getD i false with
          | true => rfl
          | false =>
            exfalso
            have hmem : i ∈ Region.ready .any ops listed := by
              refine mem_ready.2 ⟨?_, ops[i], by simp [hi], fun e he hb => ?_⟩
              · simp only [Array.getD_eq_getD_getElem?] at hd ⊢
                rw [Array.getElem?_eq_getElem (by omega)] at hd ⊢
                simpa using hd
              · obtain ⟨on, q1, q2, q3⟩ := hb3 i ops[i] (by simp [hi])
                have hin : e.on ∈ on := by
                  rw [q1]
                  exact List.mem_map.2 ⟨e, List.mem_filter.2 ⟨by simpa using he, hb⟩, rfl⟩
                have := q2 _ hin
                exact ihi e.on this (by omega)
            rw [hr] at hmem
            simp at hmem
      · obtain ⟨g1, o, g2, g3⟩ := mem_ready.1 hk
        have hlt := (Array.getElem?_eq_some_iff.1 g2).1
        have hnk : listed.getD k false = false := by
          simp only [Array.getD_eq_getD_getElem?] at g1 ⊢
          rw [Array.getElem?_eq_getElem (by omega)] at g1 ⊢
          simpa using g1
        obtain ⟨s, hs⟩ : ∃ s, steps[k]? = some s := ⟨steps[k]'(by omega), by simp⟩
        have hready : ∀ i, (b.getD k 0).testBit i = true → listed.getD i false = true := by
          intro i hi
          obtain ⟨on, q1, q2, q3⟩ := hb3 k o (by simpa using g2)
          have hon : ∀ e ∈ on, listed.getD e false = true := fun e he => by
            rw [q1] at he
            obtain ⟨x, hx, rfl⟩ := List.mem_map.1 he
            obtain ⟨hx1, hx2⟩ := List.mem_filter.1 hx
            exact g3 x (by simpa using hx1) hx2
          rcases q3 i hi with h4 | ⟨j, h5, h6⟩
          · exact hon i h4
          · exact hdown i j (hon j h5) h6
        have hadd : (fun i => (listed.setIfInBounds k true).getD i false) = addD (fun i => listed.getD i false) k := by
          funext i
          unfold addD
          by_cases hik : k = i
          · subst hik
            have hl2 : k < listed.size := by omega
            simp [hl2]
          · rw [getD_set_ne false hik]
            have : (i == k) = false := by simpa using fun h => hik h.symm
            simp [this]
        refine wpOpIn_mono ?_ (Inv.step (bef := fun j => (List.range j).filter fun i => (b.getD j 0).testBit i) hF hS1 hfacts' hchain hcomp (fun i j hj hi => hdown i j hj (by have := (List.mem_filter.1 hi).2; simpa using this)) hs hnk (fun i hi => hready i (by have := (List.mem_filter.1 hi).2; simpa using this)) hI)
        rintro a2 w2 ⟨ρ2, hI2⟩
        refine ih _ ρ2 a2 w2 (by simpa using hsz) ?_ ?_ ?_
        · intro i j hj hi
          have hj' : addD (fun i => listed.getD i false) k j = true := by rw [← hadd]; exact hj
          have : addD (fun i => listed.getD i false) k i = true := by
            unfold addD at hj' ⊢
            simp only [Bool.or_eq_true, beq_iff_eq] at hj' ⊢
            rcases hj' with rfl | hj'
            · exact .inr (hready i hi)
            · exact .inr (hdown i j hj' hi)
          rw [← hadd] at this
          exact this
        · rw [hadd]
          have := cnt_lt (D := fun i => listed.getD i false) hnk ops.size hlt
          omega
        · rw [hadd]; exact hI2
  refine wpIn_region_any hmix (walk ops.size _ ρ a w1 (by simp) ?_ ?_ ?_)
  · intro i j hj
    exfalso
    simp only [Array.getD_eq_getD_getElem?, Array.getElem?_replicate] at hj
    split at hj <;> simp at hj
  · exact cnt_bound _ _
  · have hno : (fun i => (Array.replicate ops.size false).getD i false) = fun _ => false := by
      funext i
      simp only [Array.getD_eq_getD_getElem?, Array.getElem?_replicate]
      split <;> rfl
    rw [hno]
    refine ⟨?_, hA.mr, fun b x hb => ?_, ?_, ?_, .refl _, fun _ _ _ h => h, rfl, rfl, rfl, Nat.le_refl _, Nat.le_refl _, fun _ _ _ => rfl, ?_⟩ <;> (try rw [seqD_none])
    · exact hA.tm
    · exact ⟨.inl (hS1.sup b x hb).1, (hS1.sup b x hb).2⟩
    · exact hS1.blk
    · exact hS1.inj
    · exact fun c h => .inl h
end draw
end Go.Proofs.Ytpgelghkjiejlaa
end
section
namespace Go.Proofs.Ytpgelghkjiejlaa
open Go

section rules
variable {P : Program} {N : Nat}
/-- Less is told of what a call leaves. -/
theorem ACalls.weaken {f : FuncId} {args : List V} {n : Nat} {H : Heap} {K K' : V → Nat → Heap → Prop} (h : ACalls P f args n H K)
    (hk : ∀ v n' H', K v n' H' → ∃ n'' H'', K' v n'' H'' ∧ n ≤ n'' ∧ VIn n'' v ∧ Heap.less n'' H'' n' H') : ACalls P f args n H K' :=
  ⟨h.1, fun ρ w args' hs hr => (h.2 ρ w args' hs hr).mono fun e w' ⟨v, n', H', ρ', y, h1, h2, h3, h4, h5⟩ => by
    obtain ⟨n'', H'', g1, g2, g3, g4⟩ := hk _ _ _ h1
    exact ⟨v, n'', H'', ρ'.cut n'', y, g1, h2, h3.cut g3, h4.less g4, h5.less hs g2 g4⟩⟩
theorem YCalls.mono {l : Nat} {args : List V} {n : Nat} {H : Heap} {K K' : V → Nat → Heap → Prop} (h : YCalls P l args n H K) (hk : ∀ v n' H', K v n' H' → K' v n' H') : YCalls P l args n H K' := by
  obtain ⟨r, h1, h2, h3, h4⟩ := h
  refine ⟨r, h1, h2, h3, h4.conseq ?_⟩
  rintro e s ⟨rfl, g1, r1, g2, g3, g4⟩
  refine ⟨rfl, g1, r1, g2, g3, g4.conseq ?_⟩
  rintro e2 s2 ⟨r2, q1, q2⟩
  refine ⟨r2, q1, ?_⟩
  cases e2 <;> first | exact hk _ _ _ q2 | exact q2
theorem callV.mono {g : V} {args : List V} {n : Nat} {H : Heap} {K K' : V → Nat → Heap → Prop} (h : callV P g args n H K) (hk : ∀ v n' H', K v n' H' → K' v n' H') : callV P g args n H K' := by
  unfold callV at h ⊢
  split at h
  · exact ACalls.mono h hk
  · exact YCalls.mono h hk
  · exact h.elim

/-- At most m rounds. -/
def ARounds (P : Program) (N : Nat) (rd : Option Nat) (x : ACode) (Q : Exit → St → Prop) : Nat → St → Prop
  | 0, _ => False
  | m + 1, s => AWc P N rd x s (onNormal (ARounds P N rd x Q m) Q)
theorem AWc.rounds {rd : Option Nat} {x : ACode} {Q : Exit → St → Prop} (m : Nat) {st : St} (h : ARounds P N rd x Q m st) : AWc P N rd (.loop x) st Q := by
  intro c hp ρ F k a w hF hA
  obtain ⟨c1, rfl, h1⟩ := prepC_loop hp
  refine wpIn_loop_rounds m ?_
  have key : ∀ (m : Nat) (s : St) (ρ' : Ren) (a' : Act) (w' : World), ARounds P N rd x Q m s → ARel P ρ' N s a' w' → Ext ρ st.n st.H w ρ' s.n s.H w' → Code.roundsIn F k P c1 (Post P N ρ st w Q) m a' w' := by
    intro m
    induction m with
    | zero => intro s ρ' a' w' h; exact h.elim
    | succ m ih =>
      intro s ρ' a' w' h hA' hE
      refine wpIn_mono (h c1 h1 ρ' F k a' w' (hF.mono hE.ren) hA') ?_
      rintro e a2 w2 ⟨s2, ρ2, hq, hA2, hE2⟩
      cases e with
      | normal => exact ih s2 ρ2 a2 w2 hq hA2 (hE.trans hE2)
      | _ => exact ⟨s2, ρ2, hq, hA2, hE.trans hE2⟩
  exact key m st ρ a w h hA (.refl _ _ _ _)
end rules

/-! one operation at a time -/
section one
variable {P : Program} {o : AOper} {os : List AOper} {st : St}
theorem opsF_skip {K : St → Prop} (hg : guardOf st.T o.guard = some false) (h : opsF P os { st with T := putT st.T o.dst .un } K) : opsF P (o :: os) st K := by
  unfold opsF; rw [hg]; exact h
theorem opsF_call {K : St → Prop} {g : AX} {args : List AX} (hg : guardOf st.T o.guard = some true) (ho : o.op = .call g args)
    (h : callV P (g.val st.T) (args.map (·.val st.T)) st.n st.H fun v n' H' => opsF P os ⟨putT st.T o.dst v, st.D, n', H'⟩ K) : opsF P (o :: os) st K := by
  unfold opsF; rw [hg, ho]; exact h
theorem opsF_op {K : St → Prop} (hg : guardOf st.T o.guard = some true) (ho : ∀ g l, o.op ≠ .call g l) {v : V} {n' : Nat} {H' : Heap} (hev : evalOp st.T st.n st.H o.op = some (v, n', H'))
    (h : opsF P os ⟨putT st.T o.dst v, st.D, n', H'⟩ K) : opsF P (o :: os) st K := by
  unfold opsF; rw [hg]
  simp only
  split
  · rename_i heq; rw [hev] at heq; cases heq; exact h
  · rename_i heq; rw [hev] at heq; cases heq
theorem opsF_mono {K K' : St → Prop} (hk : ∀ s, K s → K' s) : ∀ {l : List AOper} {st : St}, opsF P l st K → opsF P l st K' := by
  intro l
  induction l with
  | nil => intro st h; exact hk _ h
  | cons o os ih =>
    intro st h
    unfold opsF at h
    split at h
    · rename_i hg; exact opsF_skip hg (ih h)
    · rename_i hg
      split at h
      · rename_i g args hop; exact opsF_call hg hop (callV.mono h fun v n' H' hk => ih hk)
      · rename_i hnc
        split at h
        · rename_i hev; exact opsF_op hg (fun g l hx => hnc g l hx) hev (ih h)
        · exact h.elim
    · exact h.elim
theorem drawF_skip {K : List DStep → St → Prop} {acc : List DStep} (hg : guardOf st.T o.guard = some false) (h : drawF P os ⟨putT st.T o.dst .un, st.D, st.n, st.H⟩ (acc ++ [⟨gslots o.guard, o.dst, [], [], st.n, st.n, .un, []⟩]) K) : drawF P (o :: os) st acc K := by
  unfold drawF; rw [hg]; exact h
theorem drawF_call {K : List DStep → St → Prop} {acc : List DStep} {g : AX} {args : List AX} {f : FuncId} {first caps : List V} (hg : guardOf st.T o.guard = some true) (ho : o.op = .call g args) (hgv : g.val st.T = .fn f first caps)
    {fr fw : List Nat} {v : V} {n1 : Nat} {R : Heap} (hc : ACalls P f (first ++ args.map (·.val st.T) ++ caps) st.n (restr st.H fr fw) (fun v' n' H' => v' = v ∧ n' = n1 ∧ H' = R))
    (hok : okD st fr fw n1 R) (hin : inD st.n n1 fw v R)
    (h : drawF P os ⟨putT st.T o.dst v, st.D, n1, mergeH st.H fw st.n n1 R⟩ (acc ++ [⟨(AOp.call g args).slots ++ gslots o.guard, o.dst, fr, fw, st.n, n1, v, R⟩]) K) : drawF P (o :: os) st acc K := by
  unfold drawF; rw [hg, ho]; simp only [hgv]; exact ⟨fr, fw, v, n1, R, hc, hok, hin, h⟩
theorem drawF_op {K : List DStep → St → Prop} {acc : List DStep} (hg : guardOf st.T o.guard = some true) (ho : ∀ g l, o.op ≠ .call g l) {fr fw : List Nat} {v : V} {n1 : Nat} {R : Heap}
    (hev : evalOp st.T st.n (restr st.H fr fw) o.op = some (v, n1, R)) (hcok : o.op.cok = true) (hok : okD st fr fw n1 R)
    (h : drawF P os ⟨putT st.T o.dst v, st.D, n1, mergeH st.H fw st.n n1 R⟩ (acc ++ [⟨o.op.slots ++ gslots o.guard, o.dst, fr, fw, st.n, n1, v, R⟩]) K) : drawF P (o :: os) st acc K := by
  unfold drawF; rw [hg]
  simp only
  exact ⟨fr, fw, v, n1, R, hev, hcok, hok, h⟩
theorem drawF_mono {K K' : List DStep → St → Prop} (hk : ∀ a s, K a s → K' a s) : ∀ {l : List AOper} {st : St} {acc : List DStep}, drawF P l st acc K → drawF P l st acc K' := by
  intro l
  induction l with
  | nil => intro st acc h; exact hk _ _ h
  | cons o os ih =>
    intro st acc h
    unfold drawF at h
    split at h
    · rename_i hg; exact drawF_skip hg (ih h)
    · rename_i hg
      split at h
      · rename_i g args hop
        split at h
        · rename_i hgv
          obtain ⟨fr, fw, v, n1, R, q1, q2, q3, q4⟩ := h
          exact drawF_call hg hop hgv q1 q2 q3 (ih q4)
        · exact h.elim
      · rename_i hnc
        obtain ⟨fr, fw, v, n1, R, q1, q2, q3, q4⟩ := h
        exact drawF_op hg (fun g l hx => hnc g l hx) q1 q2 q3 (ih q4)
    · exact h.elim
end one

section frame
/-- A call of which the arguments name no block, and that answers no such value: whatever stood stays as it stood. -/
theorem ACalls.frame0 {P : Program} {f : FuncId} {args : List V} {K : V → Prop} (h : ACalls P f args 0 [] (fun v _ _ => K v ∧ VIn 0 v)) (ha : ∀ x ∈ args, VIn 0 x) (n : Nat) (H : Heap) :
    ACalls P f args n H fun v n' H' => K v ∧ n' = n ∧ H' = H := by
  refine ⟨h.1, fun ρ w args' hs hr => ?_⟩
  have h0 : ∀ b, ρ.cut 0 b = none := fun b => by unfold Ren.cut; rw [if_neg (by omega)]
  have hs0 : Sim (prepC P) (ρ.cut 0) 0 [] w := ⟨(fun b x hb => by rw [h0] at hb; cases hb), (fun b k hb => by simp at hb), (fun b1 b2 k1 k2 x1 x2 h => by simp at h)⟩
  refine (h.2 (ρ.cut 0) w args' hs0 (hr.cut ha)).mono ?_
  rintro e w' ⟨v, n', H', ρ', y, ⟨hK, hv⟩, rfl, h2, h3, h4⟩
  have hno : ∀ c, ¬ OwnC (ρ.cut 0) [] c := fun c ⟨b, k, x, g1, _⟩ => by simp at g1
  have hfr : ∀ c, c < w.heap.size → w'.heap[c]? = w.heap[c]? := fun c hc => h4.frame c hc (hno c)
  have hv0 : VRel ρ v y := by
    have := h2.cut hv
    refine this.mono fun b x hb => ?_
    unfold Ren.cut at hb
    rw [if_neg (by omega)] at hb
    cases hb
  have hsim : Sim (prepC P) ρ n H w' := ⟨fun b x hb => ⟨(hs.sup b x hb).1, Nat.lt_of_lt_of_le (hs.sup b x hb).2 h4.size⟩, fun b k hb => let ⟨c, d, z, e, r⟩ := hs.blk b k hb; ⟨c, d, z, e, r.mono (.refl _) (hfr c (hs.sup b _ e).2)⟩, hs.inj⟩
  exact ⟨v, n, H, ρ, y, ⟨hK, rfl, rfl⟩, rfl, hv0, hsim, Nat.le_refl _, .refl _, fun _ _ _ h => h, h4.os, h4.tape, h4.output, h4.drawn, h4.size, fun c hc _ => hfr c hc, fun _ h => .inl h⟩
end frame
end Go.Proofs.Ytpgelghkjiejlaa
end
