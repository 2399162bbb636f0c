/- The preparation of code; triples on code over abstract states, and their rules but for operations. -/
import Derived.Test.YtpgelghkjiejlaaSmM
import Derived.RangeFuncLeaves
set_option linter.unusedVariables false
set_option linter.unusedSimpArgs false
namespace Go.Proofs.Ytpgelghkjiejlaa
open Go

def dstOk (N : Nat) : Option Nat → Bool
  | some d => decide (d < N)
  | none => true
def AOp.isCall : AOp → Bool
  | .call _ _ => true
  | _ => false
def valCall : Op → Option (Operand × List Operand)
  | .call c => match c.callee with | .value f => some (f, c.args.toList) | _ => none
  | _ => none
def prepOp2 (P : Program) (o : Op) : Option AOp :=
  match valCall o with
  | some (f, l) => (match prepX f, prepXs l with | some g, some l => some (.call g l) | _, _ => none)
  | none => match prepOp P o with
    | some ao => if ao.isCall then none else some ao
    | none => none
def prepOper (P : Program) (N : Nat) (ops : Array Oper) (o : Oper) : Option AOper :=
  match prepOp2 P o.op with
  | some ao =>
    if dstOk N o.dst then
      some { dst := o.dst, op := ao, guard := o.guard.map fun (j, b) => ((ops[j]?).bind (·.dst), b) }
    else none
  | none => none
def prepOpers (P : Program) (N : Nat) (ops : Array Oper) : List Oper → Option (List AOper)
  | [] => some []
  | o :: r => match prepOper P N ops o, prepOpers P N ops r with | some x, some l => some (x :: l) | _, _ => none
/-- Those that come ahead of each operation, whatever order is drawn: by its own edges and theirs. -/
def befores : List Oper → List Nat → Option (List Nat)
  | [], acc => some acc
  | o :: r, acc =>
    let on := (o.after.toList.filter (Region.binds .any)).map (·.on)
    if on.all (· < acc.length) then befores r (acc ++ [on.foldl (fun m i => m ||| (1 <<< i) ||| acc.getD i 0) 0]) else none
def prepC (P : Program) : Nat → Code → Option ACode
  | _, .skip => some .skip
  | N, .region _ ops draw =>
    match prepOpers P N ops ops.toList with
    | some l => if draw then (if P.follows .mixedOrders then (befores ops.toList []).map fun b => .ops (some b) l else none) else some (.ops none l)
    | none => none
  | N, .seq a b => match prepC P N a, prepC P N b with | some x, some y => some (.seq x y) | _, _ => none
  | N, .cond c a b => match prepX c, prepC P N a, prepC P N b with | some c, some x, some y => some (.cond c x y) | _, _, _ => none
  | N, .block id c => (prepC P N c).map (.block id)
  | N, .loop c => (prepC P N c).map .loop
  | N, .rangeFunc f ps a b =>
    match prepX f, prepC P N a, prepC P N b with
    | some f, some x, some y => if ps.toList.all (· < N) then some (.rangeF f ps.toList x y) else none
    | _, _, _ => none
  | _, .exit id => some (.exit id)
  | N, .scope c => (prepC P N c).map .scope
  | _, .label _ => some .skip
  | _, .ret => some .ret
  | _, _ => none

structure St where
  T : Temps
  D : List Nat
  n : Nat
  H : Heap

def MRel (ρ : Ren) : List Nat → List Deferred → Prop
  | [], [] => True
  | m :: D, d :: ds => (∃ c e z, ρ m = some (c, e, z) ∧ d = { target := .collected c, args := #[] }) ∧ MRel ρ D ds
  | _, _ => False
theorem MRel.mono {ρ ρ' : Ren} (h : ρ.le ρ') : ∀ {D : List Nat} {ds : List Deferred}, MRel ρ D ds → MRel ρ' D ds
  | [], [], _ => trivial
  | _ :: _, _ :: _, ⟨⟨c, e, z, h1, h2⟩, r⟩ => ⟨⟨c, e, z, h _ _ h1, h2⟩, r.mono h⟩
structure ARel (P : Program) (ρ : Ren) (N : Nat) (st : St) (a : Act) (w : World) : Prop where
  tm : TRel ρ N st.T a.tmps
  mr : MRel ρ st.D a.defers
  sim : Sim (prepC P) ρ st.n st.H w
/-- The fence of an activation (of a round of the loop rd, if one is named). -/
def FRel (ρ : Ren) : Option Nat → Fence → Prop
  | none, F => F = Fence.wide
  | some l, F => ∃ c d z, ρ l = some (c, d, z) ∧ F = Fence.wide.inRound c
theorem FRel.mono {ρ ρ' : Ren} (h : ρ.le ρ') {rd : Option Nat} {F : Fence} (r : FRel ρ rd F) : FRel ρ' rd F := by
  cases rd with
  | none => exact r
  | some l => obtain ⟨c, d, z, h1, h2⟩ := r; exact ⟨c, d, z, h _ _ h1, h2⟩
theorem FRel.fn {ρ : Ren} {rd : Option Nat} {F : Fence} (r : FRel ρ rd F) (f : FuncId) : F.fn f := by
  cases rd with
  | none => cases r; trivial
  | some l => obtain ⟨c, d, z, h1, rfl⟩ := r; trivial
theorem FRel.depth {ρ : Ren} {rd : Option Nat} {F : Fence} (r : FRel ρ rd F) : F.depth = none := by
  cases rd with
  | none => cases r; rfl
  | some l => obtain ⟨c, d, z, h1, rfl⟩ := r; rfl

/-- What holds behind a piece of code that began in st over w. -/
def Post (P : Program) (N : Nat) (ρ : Ren) (st : St) (w : World) (Q : Exit → St → Prop) (e : Exit) (a' : Act) (w' : World) : Prop :=
  ∃ st' ρ', Q e st' ∧ ARel P ρ' N st' a' w' ∧ Ext ρ st.n st.H w ρ' st'.n st'.H w'
def AW (P : Program) (N : Nat) (rd : Option Nat) (c : Code) (st : St) (Q : Exit → St → Prop) : Prop :=
  ∀ (ρ : Ren) (F : Fence) (m : Nat) (a : Act) (w : World), FRel ρ rd F → ARel P ρ N st a w → c.wpIn F m P (Post P N ρ st w Q) a w
def AWc (P : Program) (N : Nat) (rd : Option Nat) (ac : ACode) (st : St) (Q : Exit → St → Prop) : Prop :=
  ∀ c, prepC P N c = some ac → AW P N rd c st Q

def onNormal (K : St → Prop) (Q : Exit → St → Prop) : Exit → St → Prop
  | .normal, s => K s
  | e, s => Q e s
def onBlock (id : Nat) (Q : Exit → St → Prop) : Exit → St → Prop
  | .exit id', s => if id' = id then Q .normal s else Q (.exit id') s
  | e, s => Q e s

section rules
variable {P : Program} {N : Nat} {rd : Option Nat} {st : St} {Q : Exit → St → Prop}
theorem AWc.conseq {ac : ACode} {Q' : Exit → St → Prop} (h : AWc P N rd ac st Q) (hq : ∀ e s, Q e s → Q' e s) : AWc P N rd ac st Q' :=
  fun c hc ρ F m a w hF hA => wpIn_mono (h c hc ρ F m a w hF hA) fun e a' w' ⟨st', ρ', h1, h2⟩ => ⟨st', ρ', hq _ _ h1, h2⟩
theorem Post.here {ρ : Ren} {a : Act} {w : World} {e : Exit} (hA : ARel P ρ N st a w) (h : Q e st) : Post P N ρ st w Q e a w := ⟨st, ρ, h, hA, .refl _ _ _ _⟩
theorem prepC_skip {c : Code} (h : prepC P N c = some .skip) : c = .skip ∨ ∃ l, c = .label l := by
  cases c with
  | skip => exact .inl rfl
  | label l => exact .inr ⟨l, rfl⟩
  | region id ops draw => simp only [prepC] at h; split at h <;> (try (split at h)) <;> (try (split at h)) <;> simp at h
  | _ => simp only [prepC] at h <;> (try (split at h)) <;> (try (split at h)) <;> (try (cases h; done)) <;> (simp at h)
theorem AWc.skip (h : Q .normal st) : AWc P N rd .skip st Q := by
  intro c hc ρ F m a w hF hA
  rcases prepC_skip hc with rfl | ⟨l, rfl⟩
  · exact wpIn_skip (.here hA h)
  · exact wpIn_label (.here hA h)
theorem prepC_seq {c : Code} {x y : ACode} (h : prepC P N c = some (.seq x y)) : ∃ a b, c = .seq a b ∧ prepC P N a = some x ∧ prepC P N b = some y := by
  cases c with
  | seq a b =>
    simp only [prepC] at h
    split at h
    · rename_i h1 h2; cases h; exact ⟨a, b, rfl, h1, h2⟩
    · cases h
  | region id ops draw => simp only [prepC] at h; split at h <;> (try (split at h)) <;> (try (split at h)) <;> simp at h
  | _ => simp only [prepC] at h <;> (try (split at h)) <;> (try (split at h)) <;> (try (cases h; done)) <;> (simp at h)
theorem AWc.seq {x y : ACode} (h : AWc P N rd x st (onNormal (fun s => AWc P N rd y s Q) Q)) : AWc P N rd (.seq x y) st Q := by
  intro c hc ρ F m a w hF hA
  obtain ⟨c1, c2, rfl, h1, h2⟩ := prepC_seq hc
  refine wpIn_seq (wpIn_mono (h c1 h1 ρ F m a w hF hA) ?_)
  rintro e a' w' ⟨st', ρ', hq, hA', hE⟩
  cases e with
  | normal =>
    refine wpIn_mono (hq c2 h2 ρ' F m a' w' (hF.mono hE.ren) hA') ?_
    rintro e2 a2 w2 ⟨st2, ρ2, hq2, hA2, hE2⟩
    exact ⟨st2, ρ2, hq2, hA2, hE.trans hE2⟩
  | _ => exact ⟨st', ρ', hq, hA', hE⟩
theorem prepC_cond {c : Code} {cx : AX} {x y : ACode} (h : prepC P N c = some (.cond cx x y)) : ∃ c0 a b, c = .cond c0 a b ∧ prepX c0 = some cx ∧ prepC P N a = some x ∧ prepC P N b = some y := by
  cases c with
  | cond c0 a b =>
    simp only [prepC] at h
    split at h
    · rename_i h1 h2 h3; cases h; exact ⟨c0, a, b, rfl, h1, h2, h3⟩
    · cases h
  | region id ops draw => simp only [prepC] at h; split at h <;> (try (split at h)) <;> (try (split at h)) <;> simp at h
  | _ => simp only [prepC] at h <;> (try (split at h)) <;> (try (split at h)) <;> (try (cases h; done)) <;> (simp at h)
theorem AWc.cond {cx : AX} {x y : ACode} {t : Bool} (hc : cx.val st.T = .b t) (h : AWc P N rd (if t then x else y) st Q) : AWc P N rd (.cond cx x y) st Q := by
  intro c hp ρ F m a w hF hA
  obtain ⟨c0, c1, c2, rfl, h0, h1, h2⟩ := prepC_cond hp
  have hv := prepX_rel hA.tm h0
  rw [hc] at hv
  refine wpIn_cond (b_inv hv) ?_
  cases t
  · exact h c2 h2 ρ F m a w hF hA
  · exact h c1 h1 ρ F m a w hF hA
theorem prepC_block {c : Code} {id : Nat} {x : ACode} (h : prepC P N c = some (.block id x)) : ∃ a, c = .block id a ∧ prepC P N a = some x := by
  cases c with
  | block id' a => simp only [prepC] at h; obtain ⟨y, h1, h2⟩ := Option.map_eq_some_iff.1 h; cases h2; exact ⟨a, rfl, h1⟩
  | region id ops draw => simp only [prepC] at h; split at h <;> (try (split at h)) <;> (try (split at h)) <;> simp at h
  | _ => simp only [prepC] at h <;> (try (split at h)) <;> (try (split at h)) <;> (try (cases h; done)) <;> (simp at h)
theorem AWc.block {id : Nat} {x : ACode} (h : AWc P N rd x st (onBlock id Q)) : AWc P N rd (.block id x) st Q := by
  intro c hp ρ F m a w hF hA
  obtain ⟨c1, rfl, h1⟩ := prepC_block hp
  refine wpIn_block (wpIn_mono (h c1 h1 ρ F m a w hF hA) ?_)
  rintro e a' w' ⟨st', ρ', hq, hA', hE⟩
  cases e with
  | exit id' =>
    simp only [onBlock] at hq
    simp only [Exit.inBlock]
    split
    · rename_i he; rw [if_pos he] at hq; exact ⟨st', ρ', hq, hA', hE⟩
    · rename_i he; rw [if_neg he] at hq; exact ⟨st', ρ', hq, hA', hE⟩
  | _ => exact ⟨st', ρ', hq, hA', hE⟩
theorem prepC_exit {c : Code} {id : Nat} (h : prepC P N c = some (.exit id)) : c = .exit id := by
  cases c with
  | exit id' => simp only [prepC] at h; cases h; rfl
  | region id ops draw => simp only [prepC] at h; split at h <;> (try (split at h)) <;> (try (split at h)) <;> simp at h
  | _ => simp only [prepC] at h <;> (try (split at h)) <;> (try (split at h)) <;> (try (cases h; done)) <;> (simp at h)
theorem AWc.exit {id : Nat} (h : Q (.exit id) st) : AWc P N rd (.exit id) st Q := by
  intro c hp ρ F m a w hF hA
  obtain rfl := prepC_exit hp
  exact wpIn_exit (.here hA h)
theorem prepC_ret {c : Code} (h : prepC P N c = some .ret) : c = .ret := by
  cases c with
  | ret => rfl
  | region id ops draw => simp only [prepC] at h; split at h <;> (try (split at h)) <;> (try (split at h)) <;> simp at h
  | _ => simp only [prepC] at h <;> (try (split at h)) <;> (try (split at h)) <;> (try (cases h; done)) <;> (simp at h)
theorem AWc.ret (h : Q .ret st) : AWc P N rd .ret st Q := by
  intro c hp ρ F m a w hF hA
  obtain rfl := prepC_ret hp
  exact wpIn_ret (.here hA h)

/-! A body with labels that nothing jumps to by goto. -/
theorem stepR_scope {b : Frame} {a : Act} {k : List Item} {cs : List Frame} {w : World} {c : Code} :
    step P (lone (b.atR a (.code (.scope c) :: k)) cs w) = .next (lone (b.atR a (.code c :: .inScope c :: k)) cs w) :=
  step_lone_go (by simp [stepG, stepG.exec, Frame.atR])
theorem stepR_inScope {b : Frame} {a : Act} {k : List Item} {cs : List Frame} {w : World} {c : Code} :
    step P (lone (b.atR a (.inScope c :: k)) cs w) = .next (lone (b.atR a k) cs w) :=
  step_lone_go (by simp [stepG, stepG.exec, Frame.atR])
theorem wpIn_scope' {F : Fence} {n : Nat} {c : Code} {Q' : Exit → Act → World → Prop} {a : Act} {w : World} (h : c.wpIn F n P Q' a w) (hg : ∀ l a w, ¬ Q' (.goto l) a w) : (Code.scope c).wpIn F n P Q' a w := by
  intro b k cs hro hb hr
  have h0 : (lone (b.atR a (.code (.scope c) :: k)) cs w).fenced P F := fenced_calm hb hr rfl
  obtain ⟨e, a₁, w₁, hq, harr⟩ := h b (.inScope c :: k) cs hro hb hr
  cases e with
  | normal => exact ⟨.normal, a₁, w₁, hq, .head h0 stepR_scope (StepsIn.trans harr (.one (fenced_calm hb hr rfl) stepR_inScope))⟩
  | exit id =>
    have hx : exitTo id (.inScope c :: k) = exitTo id k := by simp [exitTo]
    exact ⟨_, a₁, w₁, hq, fun k' hk => .head h0 stepR_scope (harr.1 k' (by rw [hx]; exact hk)),
      fun hr' hk => let ⟨k₁, h1, h2⟩ := harr.2 hr' (by rw [hx]; exact hk); ⟨k₁, h1, .head h0 stepR_scope h2⟩⟩
  | goto l => exact absurd hq (hg l _ _)
  | ret => exact ⟨_, a₁, w₁, hq, .of_steps (.one h0 stepR_scope) harr⟩
  | panic ch => exact ⟨_, a₁, w₁, hq, .of_steps (.one h0 stepR_scope) harr⟩
  | outgrown => exact ⟨_, a₁, w₁, hq, .of_steps (.one h0 stepR_scope) harr⟩
theorem prepC_scope {c : Code} {x : ACode} (h : prepC P N c = some (.scope x)) : ∃ a, c = .scope a ∧ prepC P N a = some x := by
  cases c with
  | scope a => simp only [prepC] at h; obtain ⟨y, h1, h2⟩ := Option.map_eq_some_iff.1 h; cases h2; exact ⟨a, rfl, h1⟩
  | region id ops draw => simp only [prepC] at h; split at h <;> (try (split at h)) <;> (try (split at h)) <;> simp at h
  | _ => simp only [prepC] at h <;> (try (split at h)) <;> (try (split at h)) <;> (try (cases h; done)) <;> (simp at h)
def noGoto (Q : Exit → St → Prop) : Exit → St → Prop
  | .goto _, _ => False
  | e, s => Q e s
theorem AWc.scope {x : ACode} (h : AWc P N rd x st (noGoto Q)) : AWc P N rd (.scope x) st Q := by
  intro c hp ρ F m a w hF hA
  obtain ⟨c1, rfl, h1⟩ := prepC_scope hp
  refine wpIn_mono (wpIn_scope' (h c1 h1 ρ F m a w hF hA) ?_) ?_
  · rintro l a' w' ⟨st', ρ', hq, _⟩; exact hq
  · rintro e a' w' ⟨st', ρ', hq, h2⟩
    cases e <;> first | exact ⟨st', ρ', hq, h2⟩ | exact hq.elim

/-! the least number -/
theorem least_ex (p : Nat → Prop) (h : ∃ k, p k) : ∃ k, p k ∧ ∀ j, p j → k ≤ j := by
  obtain ⟨k, hk⟩ := h
  induction k using Nat.strongRecOn with
  | _ k ih =>
    by_cases hj : ∃ j, j < k ∧ p j
    · obtain ⟨j, h1, h2⟩ := hj; exact ih j h1 h2
    · exact ⟨k, hk, fun j h2 => Nat.le_of_not_lt fun h1 => hj ⟨j, h1, h2⟩⟩

noncomputable def leastN (p : Nat → Prop) : Nat := @dite _ (∃ k, p k) (Classical.propDecidable _) (fun h => Classical.choose (least_ex p h)) (fun _ => 0)
theorem leastN_spec {p : Nat → Prop} (h : ∃ k, p k) : p (leastN p) ∧ ∀ j, p j → leastN p ≤ j := by
  unfold leastN
  rw [dif_pos h]
  exact Classical.choose_spec (least_ex p h)

/-- Less is known of a state. -/
structure St.less (s₀ s : St) : Prop where
  T : Temps.less s₀.n s₀.T s.n s.T
  D : s₀.D = s.D
  Dlt : ∀ m ∈ s₀.D, m < s₀.n
  H : Heap.less s₀.n s₀.H s.n s.H
theorem MRel.cut {ρ : Ren} {n : Nat} : ∀ {D : List Nat} {ds : List Deferred}, MRel ρ D ds → (∀ m ∈ D, m < n) → MRel (ρ.cut n) D ds
  | [], [], _, _ => trivial
  | m :: _, _ :: _, ⟨⟨c, e, z, h1, h2⟩, r⟩, h => ⟨⟨c, e, z, by unfold Ren.cut; rw [if_pos (h m (by simp))]; exact h1, h2⟩, r.cut fun m hm => h m (by simp [hm])⟩
theorem ARel.less {ρ : Ren} {a : Act} {w : World} {s₀ s : St} (hA : ARel P ρ N s a w) (h : St.less s₀ s) : ARel P (ρ.cut s₀.n) N s₀ a w :=
  ⟨hA.tm.less hA.sim.cut_eq h.T, (h.D ▸ hA.mr).cut h.Dlt, hA.sim.less h.H⟩
theorem Post.less {ρ : Ren} {a' : Act} {w w' : World} {e : Exit} {K : St → Prop} (hs : Sim (prepC P) ρ st.n st.H w) {s₀ s : St} {ρ' : Ren} (hA : ARel P ρ' N s a' w') (hE : Ext ρ st.n st.H w ρ' s.n s.H w') (h : St.less s₀ s) (hn : st.n ≤ s₀.n) :
    ARel P (ρ'.cut s₀.n) N s₀ a' w' ∧ Ext ρ st.n st.H w (ρ'.cut s₀.n) s₀.n s₀.H w' := ⟨hA.less h, hE.less hs hn h.H⟩

theorem prepC_loop {c : Code} {x : ACode} (h : prepC P N c = some (.loop x)) : ∃ a, c = .loop a ∧ prepC P N a = some x := by
  cases c with
  | loop a => simp only [prepC] at h; obtain ⟨y, h1, h2⟩ := Option.map_eq_some_iff.1 h; cases h2; exact ⟨a, rfl, h1⟩
  | region id ops draw => simp only [prepC] at h; split at h <;> (try (split at h)) <;> (try (split at h)) <;> simp at h
  | _ => simp only [prepC] at h <;> (try (split at h)) <;> (try (split at h)) <;> (try (cases h; done)) <;> (simp at h)
/-- A loop: an invariant with a number that falls; at a round's end less may be known again. -/
theorem AWc.loop {x : ACode} (I : Nat → St → Prop) {k₀ : Nat} {s₀ : St} (h₀ : I k₀ s₀) (hless : St.less s₀ st) (hn : st.n ≤ s₀.n) (hI : ∀ k s, I k s → st.n ≤ s.n)
    (round : ∀ k s, I k s → AWc P N rd x s (onNormal (fun s' => ∃ j s'', j < k ∧ I j s'' ∧ St.less s'' s') Q)) : AWc P N rd (.loop x) st Q := by
  intro c hp ρ F m a w hF hA
  obtain ⟨c1, rfl, h1⟩ := prepC_loop hp
  let J : Nat → Act → World → Prop := fun k a' w' => ∃ s ρ', I k s ∧ ARel P ρ' N s a' w' ∧ Ext ρ st.n st.H w ρ' s.n s.H w'
  refine wpIn_loop (fun a' w' => ∃ k, J k a' w') (fun a' w' => leastN fun k => J k a' w') ?_ ?_
  · obtain ⟨q1, q2⟩ := Post.less (K := fun _ => True) (e := .normal) hA.sim hA (.refl ρ st.n st.H w) hless hn
    exact ⟨k₀, s₀, _, h₀, q1, q2⟩
  · rintro a1 w1 hJ
    obtain ⟨⟨s, ρ1, hI1, hA1, hE1⟩, hmin⟩ := leastN_spec hJ
    refine wpIn_mono (round _ s hI1 c1 h1 ρ1 F m a1 w1 (hF.mono hE1.ren) hA1) ?_
    rintro e a2 w2 ⟨s2, ρ2, hq, hA2, hE2⟩
    have hE := hE1.trans hE2
    cases e with
    | normal =>
      obtain ⟨j, s3, hj, hI3, hl⟩ := hq
      obtain ⟨q1, q2⟩ := Post.less (K := fun _ => True) (e := .normal) hA.sim hA2 hE hl (hI _ _ hI3)
      have hJ2 : J j a2 w2 := ⟨s3, _, hI3, q1, q2⟩
      exact ⟨⟨j, hJ2⟩, Nat.lt_of_le_of_lt ((leastN_spec ⟨j, hJ2⟩).2 j hJ2) hj⟩
    | _ => exact ⟨s2, ρ2, hq, hA2, hE⟩
end rules
end Go.Proofs.Ytpgelghkjiejlaa
