/- Regions that draw their order: one walk in the order of the text serves all orders, where operations that are not ordered stay out of each other's way. -/
import Derived.Test.YtpgelghkjiejlaaSmQ
import Derived.OrdersIn
set_option linter.unusedVariables false
set_option linter.unusedSimpArgs false
namespace Go.Proofs.Ytpgelghkjiejlaa
open Go

def AX.slots : AX → List Nat
  | .t i => [i]
  | _ => []
def xslots (xs : List AX) : List Nat := xs.flatMap AX.slots
def oslots : Option AX → List Nat
  | some x => x.slots
  | none => []
def AOp.slots : AOp → List Nat
  | .mv x | .box x | .ld _ _ x | .un _ x | .conv _ x | .fa _ x | .fld _ _ _ x | .blen _ x | .clr _ _ x | .nilc x | .b2s x | .ext x _ => x.slots
  | .pick a b c => a.slots ++ b.slots ++ c.slots
  | .new _ => []
  | .build _ ps => xslots (ps.map (·.2.2))
  | .lit _ _ _ ps => xslots (ps.map (·.2))
  | .st _ x y | .bin _ x y | .eqs _ _ x y | .eq1 _ _ x y | .mks _ _ _ x y | .ias _ x y | .iaa _ _ x y | .ixs x y | .app _ _ _ x y | .cpy _ x y => x.slots ++ y.slots
  | .mkf _ xs ys => xslots xs ++ xslots ys
  | .sls _ x a b c | .sla _ _ x a b c => x.slots ++ oslots a ++ oslots b ++ oslots c
  | .sstr x a b => x.slots ++ oslots a ++ oslots b
  | .bmin xs | .bmax xs => xslots xs
  | .call g xs => g.slots ++ xslots xs
def gslots : Option (Option Nat × Bool) → List Nat
  | some (some t, _) => [t]
  | _ => []

theorem AX.val_congr {T T' : Temps} (x : AX) (h : ∀ t ∈ x.slots, aget T t = aget T' t) : x.val T = x.val T' := by
  cases x with
  | t i => simp only [AX.val]; rw [h i (by simp [AX.slots])]
  | _ => rfl
theorem xs_congr {T T' : Temps} (xs : List AX) (h : ∀ t ∈ xslots xs, aget T t = aget T' t) : xs.map (·.val T) = xs.map (·.val T') :=
  List.map_congr_left fun x hx => x.val_congr fun t ht => h t (List.mem_flatMap.2 ⟨x, hx, ht⟩)
theorem o_congr {T T' : Temps} (x : Option AX) (h : ∀ t ∈ oslots x, aget T t = aget T' t) : x.map (·.val T) = x.map (·.val T') := by
  cases x with
  | none => rfl
  | some x => simp only [Option.map_some]; rw [x.val_congr h]
theorem evalOp_congr {T T' : Temps} (n : Nat) (H : Heap) (op : AOp) (h : ∀ t ∈ op.slots, aget T t = aget T' t) : evalOp T n H op = evalOp T' n H op := by
  cases op <;> simp only [AOp.slots, List.mem_append] at h <;> simp only [evalOp]
  case build z ps =>
    have := xs_congr _ h
    rw [List.map_map, List.map_map] at this
    have h2 : ps.map (fun x => (x.1, x.2.1, x.2.2.val T)) = ps.map (fun x => (x.1, x.2.1, x.2.2.val T')) := List.map_congr_left fun p hp => by
      rw [p.2.2.val_congr fun t ht => h t (List.mem_flatMap.2 ⟨p.2.2, List.mem_map.2 ⟨p, hp, rfl⟩, ht⟩)]
    exact congrArg (fun l => keep n H ((fillA z l).map .ag)) h2
  case lit sz len z ps =>
    have h2 : ps.map (fun x => (x.1 * sz, sz, x.2.val T)) = ps.map (fun x => (x.1 * sz, sz, x.2.val T')) := List.map_congr_left fun p hp => by
      rw [p.2.val_congr fun t ht => h t (List.mem_flatMap.2 ⟨p.2, List.mem_map.2 ⟨p, hp, rfl⟩, ht⟩)]
    exact congrArg (fun l => (match fillA z l with | some cs => some (V.sl n 0 sz len true, n + 1, (n, Blk.row true cs) :: H) | none => none)) h2
  case mkf g a b => rw [xs_congr a fun t ht => h t (.inl ht), xs_congr b fun t ht => h t (.inr ht)]
  case bmin xs => rw [xs_congr xs h]
  case bmax xs => rw [xs_congr xs h]
  case pick a b c => rw [a.val_congr fun t ht => h t (.inl (.inl ht)), b.val_congr fun t ht => h t (.inl (.inr ht)), c.val_congr fun t ht => h t (.inr ht)]
  case sls sz x a b c => rw [x.val_congr fun t ht => h t (.inl (.inl (.inl ht))), o_congr a fun t ht => h t (.inl (.inl (.inr ht))), o_congr b fun t ht => h t (.inl (.inr ht)), o_congr c fun t ht => h t (.inr ht)]
  case sla m sz x a b c => rw [x.val_congr fun t ht => h t (.inl (.inl (.inl ht))), o_congr a fun t ht => h t (.inl (.inl (.inr ht))), o_congr b fun t ht => h t (.inl (.inr ht)), o_congr c fun t ht => h t (.inr ht)]
  case sstr x a b => rw [x.val_congr fun t ht => h t (.inl (.inl ht)), o_congr a fun t ht => h t (.inl (.inr ht)), o_congr b fun t ht => h t (.inr ht)]
  all_goals first
    | (rename_i x; rw [x.val_congr h])
    | (rename_i x y; rw [x.val_congr fun t ht => h t (.inl ht), y.val_congr fun t ht => h t (.inr ht)])
    | (rename_i x i; rw [x.val_congr h])

/-! filters -/
theorem aget_filter {α : Type} (p : Nat → Bool) (l : List (Nat × α)) (b : Nat) : aget (l.filter fun x => p x.1) b = if p b then aget l b else none := by
  induction l with
  | nil => simp
  | cons x l ih =>
    obtain ⟨i, v⟩ := x
    by_cases hp : p i
    · rw [List.filter_cons_of_pos (by simpa using hp), aget_cons, aget_cons, ih]
      by_cases hi : i = b
      · subst hi; simp [hp]
      · simp [hi]
    · rw [List.filter_cons_of_neg (by simpa using hp), aget_cons, ih]
      by_cases hi : i = b
      · subst hi; simp [hp]
      · simp [hi]
theorem aget_append {α : Type} (l l' : List (Nat × α)) (b : Nat) : aget (l ++ l') b = match aget l b with | some v => some v | none => aget l' b := by
  induction l with
  | nil => rfl
  | cons x l ih =>
    obtain ⟨i, v⟩ := x
    simp only [List.cons_append, aget_cons]
    by_cases hi : i = b
    · simp [hi]
    · simp [hi, ih]
def restrT (T : Temps) (rs : List Nat) : Temps := T.filter fun x => rs.contains x.1
theorem aget_restrT (T : Temps) (rs : List Nat) (t : Nat) : aget (restrT T rs) t = if rs.contains t then aget T t else none := aget_filter (fun i => rs.contains i) T t
def touch (fw : List Nat) (n0 n1 b : Nat) : Bool := fw.contains b || (decide (n0 ≤ b) && decide (b < n1))
def mergeH (H : Heap) (fw : List Nat) (n0 n1 : Nat) (R' : Heap) : Heap := R'.filter (fun x => touch fw n0 n1 x.1) ++ H.filter (fun x => !touch fw n0 n1 x.1)
theorem aget_mergeH (H : Heap) (fw : List Nat) (n0 n1 : Nat) (R' : Heap) (b : Nat) : aget (mergeH H fw n0 n1 R') b = if touch fw n0 n1 b then aget R' b else aget H b := by
  unfold mergeH
  rw [aget_append, aget_filter (touch fw n0 n1) R', aget_filter (fun i => !touch fw n0 n1 i) H]
  by_cases h : touch fw n0 n1 b
  · simp only [h, if_true, Bool.not_true, Bool.false_eq_true, if_false]
    cases aget R' b <;> rfl
  · simp [h]
def roOf : Option Blk → Option Blk
  | some (.row _ cs) => some (.row false cs)
  | _ => none
def pickR (H : Heap) (f : Option Blk → Option Blk) : List Nat → Heap
  | [] => []
  | i :: r => match f (aget H i) with | some k => (i, k) :: pickR H f r | none => pickR H f r
def restr (H : Heap) (fr fw : List Nat) : Heap := pickR H id fw ++ pickR H roOf fr
theorem aget_pickR (H : Heap) (f : Option Blk → Option Blk) : ∀ (l : List Nat) (b : Nat) (k : Blk), aget (pickR H f l) b = some k → b ∈ l ∧ f (aget H b) = some k := by
  intro l
  induction l with
  | nil => intro b k h; simp [pickR] at h
  | cons i l ih =>
    intro b k h
    unfold pickR at h
    split at h
    · rename_i k' hk
      rw [aget_cons] at h
      by_cases hi : i = b
      · subst hi; rw [if_pos rfl] at h; cases h; exact ⟨by simp, hk⟩
      · rw [if_neg hi] at h; obtain ⟨h1, h2⟩ := ih b k h; exact ⟨by simp [h1], h2⟩
    · obtain ⟨h1, h2⟩ := ih b k h; exact ⟨by simp [h1], h2⟩
theorem aget_restr {H : Heap} {fr fw : List Nat} {b : Nat} {k : Blk} (h : aget (restr H fr fw) b = some k) :
    (b ∈ fw ∧ aget H b = some k) ∨ (b ∈ fr ∧ ∃ o cs, aget H b = some (.row o cs) ∧ k = .row false cs) := by
  unfold restr at h
  rw [aget_append] at h
  split at h
  · rename_i v hv
    cases h
    exact .inl (aget_pickR H id fw b k hv)
  · obtain ⟨h1, h2⟩ := aget_pickR H roOf fr b k h
    unfold roOf at h2
    split at h2
    · rename_i o cs ho; cases h2; exact .inr ⟨h1, o, cs, ho, rfl⟩
    · cases h2

structure DStep where
  rs : List Nat
  dst : Option Nat
  fr : List Nat
  fw : List Nat
  n0 : Nat
  n1 : Nat
  v : V
  R : Heap
def DStep.tch (s : DStep) (b : Nat) : Bool := touch s.fw s.n0 s.n1 b
abbrev TH := Temps × Heap
def DStep.go (s : DStep) (x : TH) : TH := (putT x.1 s.dst s.v, mergeH x.2 s.fw s.n0 s.n1 s.R)
def seqD (D : Nat → Bool) : Nat → List DStep → TH → TH
  | _, [], x => x
  | k, s :: r, x => seqD D (k + 1) r (if D k then s.go x else x)
theorem aget_putT (T : Temps) (dst : Option Nat) (v : V) (t : Nat) : aget (putT T dst v) t = if dst = some t then some v else aget T t := by
  cases dst with
  | none => simp [putT]
  | some d => simp [putT, aget_put]
theorem seqD_slot (D D' : Nat → Bool) (t : Nat) : ∀ (l : List DStep) (k : Nat) (x x' : TH), aget x.1 t = aget x'.1 t → (∀ i s, l[i]? = some s → s.dst = some t → D (k + i) = D' (k + i)) → aget (seqD D k l x).1 t = aget (seqD D' k l x').1 t := by
  intro l
  induction l with
  | nil => intro k x x' h _; exact h
  | cons s l ih =>
    intro k x x' h hd
    unfold seqD
    refine ih (k + 1) _ _ ?_ fun i s' hs' hd' => by have := hd (i + 1) s' (by simpa using hs') hd'; rw [show k + 1 + i = k + (i + 1) by omega]; exact this
    by_cases hs : s.dst = some t
    · have := hd 0 s rfl hs
      rw [Nat.add_zero] at this
      rw [this]
      cases D' k
      · exact h
      · simp only [if_true, DStep.go, aget_putT, hs]
    · have e : ∀ y : TH, aget (s.go y).1 t = aget y.1 t := fun y => by simp [DStep.go, aget_putT, hs]
      cases D k <;> cases D' k <;> simp [e, h]
theorem seqD_blk (D D' : Nat → Bool) (b : Nat) : ∀ (l : List DStep) (k : Nat) (x x' : TH), aget x.2 b = aget x'.2 b → (∀ i s, l[i]? = some s → s.tch b = true → D (k + i) = D' (k + i)) → aget (seqD D k l x).2 b = aget (seqD D' k l x').2 b := by
  intro l
  induction l with
  | nil => intro k x x' h _; exact h
  | cons s l ih =>
    intro k x x' h hd
    unfold seqD
    refine ih (k + 1) _ _ ?_ fun i s' hs' hd' => by have := hd (i + 1) s' (by simpa using hs') hd'; rw [show k + 1 + i = k + (i + 1) by omega]; exact this
    by_cases hs : s.tch b = true
    · have := hd 0 s rfl hs
      rw [Nat.add_zero] at this
      rw [this]
      cases D' k
      · exact h
      · simp only [if_true, DStep.go, aget_mergeH]
        have hs' : touch s.fw s.n0 s.n1 b = true := hs
        simp [hs']
    · have e : ∀ y : TH, aget (s.go y).2 b = aget y.2 b := fun y => by
        have hs' : ¬ touch s.fw s.n0 s.n1 b = true := hs
        simp [DStep.go, aget_mergeH, hs']
      cases D k <;> cases D' k <;> simp [e, h]
/-- The last that writes a slot. -/
theorem seqD_slot_last (D : Nat → Bool) (t : Nat) : ∀ (l : List DStep) (k j : Nat) (s : DStep) (x : TH), l[j]? = some s → s.dst = some t → D (k + j) = true → (∀ i s', j < i → l[i]? = some s' → s'.dst = some t → D (k + i) = false) → aget (seqD D k l x).1 t = some s.v := by
  intro l
  induction l with
  | nil => intro k j s x h; simp at h
  | cons s0 l ih =>
    intro k j s x h hd hD hlast
    unfold seqD
    cases j with
    | zero =>
      simp at h
      subst h
      rw [Nat.add_zero] at hD
      rw [hD]
      simp only [if_true]
      rw [seqD_slot D (fun _ => false) t l (k + 1) _ (s0.go x) rfl fun i s' hs' hd' => by have := hlast (i + 1) s' (by omega) (by simpa using hs') hd'; rw [show k + 1 + i = k + (i + 1) by omega]; exact this]
      have : ∀ (l : List DStep) (k : Nat) (x : TH), seqD (fun _ => false) k l x = x := by
        intro l; induction l with
        | nil => intro k x; rfl
        | cons s l ih => intro k x; unfold seqD; simp [ih]
      rw [this]
      simp [DStep.go, aget_putT, hd]
    | succ j =>
      refine ih (k + 1) j s _ (by simpa using h) hd (by rw [show k + 1 + j = k + (j + 1) by omega]; exact hD) fun i s' hi hs' hd' => ?_
      have := hlast (i + 1) s' (by omega) (by simpa using hs') hd'
      rw [show k + 1 + i = k + (i + 1) by omega]; exact this
theorem seqD_none : ∀ (l : List DStep) (k : Nat) (x : TH), seqD (fun _ => false) k l x = x := by
  intro l; induction l with
  | nil => intro k x; rfl
  | cons s l ih => intro k x; unfold seqD; simp [ih]
theorem seqD_blk_last (D : Nat → Bool) (b : Nat) : ∀ (l : List DStep) (k j : Nat) (s : DStep) (x : TH), l[j]? = some s → s.tch b = true → D (k + j) = true → (∀ i s', j < i → l[i]? = some s' → s'.tch b = true → D (k + i) = false) → aget (seqD D k l x).2 b = aget s.R b := by
  intro l
  induction l with
  | nil => intro k j s x h; simp at h
  | cons s0 l ih =>
    intro k j s x h hd hD hlast
    unfold seqD
    cases j with
    | zero =>
      simp at h
      subst h
      rw [Nat.add_zero] at hD
      rw [hD]
      simp only [if_true]
      rw [seqD_blk D (fun _ => false) b l (k + 1) _ (s0.go x) rfl fun i s' hs' hd' => by have := hlast (i + 1) s' (by omega) (by simpa using hs') hd'; rw [show k + 1 + i = k + (i + 1) by omega]; exact this]
      rw [seqD_none]
      have hd' : touch s0.fw s0.n0 s0.n1 b = true := hd
      simp [DStep.go, aget_mergeH, hd']
    | succ j =>
      refine ih (k + 1) j s _ (by simpa using h) hd (by rw [show k + 1 + j = k + (j + 1) by omega]; exact hD) fun i s' hi hs' hd' => ?_
      have := hlast (i + 1) s' (by omega) (by simpa using hs') hd'
      rw [show k + 1 + i = k + (i + 1) by omega]; exact this
end Go.Proofs.Ytpgelghkjiejlaa
