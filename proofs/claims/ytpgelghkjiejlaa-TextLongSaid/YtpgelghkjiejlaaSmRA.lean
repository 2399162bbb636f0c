/- Ids laid anew: what is known of a state is known of it under other ids, and less may be known. -/
import Derived.Test.YtpgelghkjiejlaaSmZ
set_option linter.unusedVariables false
set_option linter.unusedSimpArgs false
namespace Go.Proofs.Ytpgelghkjiejlaa
open Go

/-- The first value says of φ's ids what the second one says, or less. -/
inductive VRe (φ : Nat → Nat) (m : Nat) : V → V → Prop
  | un (v : V) : VRe φ m .un v
  | b (x : Bool) : VRe φ m (.b x) (.b x)
  | i (k : IntKind) (n : Int) : VRe φ m (.i k n) (.i k n)
  | s (l : List UInt8) : VRe φ m (.s l) (.s l)
  | nilp : VRe φ m .nilp .nilp
  | p {id off : Nat} (h : id < m) : VRe φ m (.p id off) (.p (φ id) off)
  | nils : VRe φ m .nils .nils
  | sl {id off sz len : Nat} {full full' : Bool} (h : id < m) (hf : full = true → full' = true) : VRe φ m (.sl id off sz len full) (.sl (φ id) off sz len full')
  | nilf : VRe φ m .nilf .nilf
  | fn {f : FuncId} {xs us xs' us' : List V} (hl : xs.length = xs'.length) (h : ∀ (j : Nat) x y, xs[j]? = some x → xs'[j]? = some y → VRe φ m x y)
      (hl' : us.length = us'.length) (h' : ∀ (j : Nat) x y, us[j]? = some x → us'[j]? = some y → VRe φ m x y) : VRe φ m (.fn f xs us) (.fn f xs' us')
  | yl {id : Nat} (h : id < m) : VRe φ m (.yl id) (.yl (φ id))
  | nili : VRe φ m .nili .nili
  | ifc {t : TypeId} {x y : V} (h : VRe φ m x y) : VRe φ m (.ifc t x) (.ifc t y)
  | ag {xs xs' : List V} (hl : xs.length = xs'.length) (h : ∀ (j : Nat) x y, xs[j]? = some x → xs'[j]? = some y → VRe φ m x y) : VRe φ m (.ag xs) (.ag xs')
  | tu {xs xs' : List V} (hl : xs.length = xs'.length) (h : ∀ (j : Nat) x y, xs[j]? = some x → xs'[j]? = some y → VRe φ m x y) : VRe φ m (.tu xs) (.tu xs')
def VReL (φ : Nat → Nat) (m : Nat) : List V → List V → Prop
  | [], [] => True
  | x :: xs, y :: ys => VRe φ m x y ∧ VReL φ m xs ys
  | _, _ => False
theorem VReL.spec {φ : Nat → Nat} {m : Nat} : ∀ {xs ys : List V}, VReL φ m xs ys → xs.length = ys.length ∧ ∀ (j : Nat) x y, xs[j]? = some x → ys[j]? = some y → VRe φ m x y
  | [], [], _ => ⟨rfl, fun j x y h => by simp at h⟩
  | x :: xs, y :: ys, h => by
    obtain ⟨h1, h2⟩ := VReL.spec h.2
    refine ⟨by simp [h1], fun j a b ha hb => ?_⟩
    cases j with
    | zero => simp at ha hb; subst ha; subst hb; exact h.1
    | succ j => exact h2 j a b (by simpa using ha) (by simpa using hb)
  | [], _ :: _, h => h.elim
  | _ :: _, [], h => h.elim
theorem VRe.agL {φ : Nat → Nat} {m : Nat} {xs ys : List V} (h : VReL φ m xs ys) : VRe φ m (.ag xs) (.ag ys) := .ag h.spec.1 h.spec.2
theorem VRe.tuL {φ : Nat → Nat} {m : Nat} {xs ys : List V} (h : VReL φ m xs ys) : VRe φ m (.tu xs) (.tu ys) := .tu h.spec.1 h.spec.2
theorem VRe.fnL {φ : Nat → Nat} {m : Nat} {f : FuncId} {xs ys us vs : List V} (h : VReL φ m xs ys) (h' : VReL φ m us vs) : VRe φ m (.fn f xs us) (.fn f ys vs) := .fn h.spec.1 h.spec.2 h'.spec.1 h'.spec.2
theorem VRe.refl {m : Nat} {φ : Nat → Nat} (hφ : ∀ b, b < m → φ b = b) {v : V} (h : VIn m v) : VRe φ m v v := by
  have key : ∀ {xs : List V}, (∀ x ∈ xs, VRe φ m x x) → ∀ (j : Nat) x y, xs[j]? = some x → xs[j]? = some y → VRe φ m x y := by
    intro xs hx j x y h1 h2
    rw [h1] at h2
    cases h2
    exact hx x (List.mem_of_getElem? h1)
  induction h with
  | un => exact .un _
  | b x => exact .b x
  | i k n => exact .i k n
  | s l => exact .s l
  | nilp => exact .nilp
  | @p id off h => have := VRe.p (φ := φ) (off := off) h; rwa [hφ id h] at this
  | nils => exact .nils
  | @sl id off sz len full h => have := VRe.sl (φ := φ) (off := off) (sz := sz) (len := len) (full := full) (full' := full) h (fun x => x); rwa [hφ id h] at this
  | nilf => exact .nilf
  | fn _ _ ih ih' => exact .fn rfl (key ih) rfl (key ih')
  | @yl id h => have := VRe.yl (φ := φ) h; rwa [hφ id h] at this
  | nili => exact .nili
  | ifc _ ih => exact .ifc ih
  | ag _ ih => exact .ag rfl (key ih)
  | tu _ ih => exact .tu rfl (key ih)
theorem VReL.refl {m : Nat} {φ : Nat → Nat} (hφ : ∀ b, b < m → φ b = b) : ∀ {xs : List V}, (∀ x ∈ xs, VIn m x) → VReL φ m xs xs
  | [], _ => trivial
  | x :: xs, h => ⟨.refl hφ (h x (by simp)), VReL.refl hφ fun y hy => h y (by simp [hy])⟩

def Ren.re (ρ : Ren) (φ : Nat → Nat) (m : Nat) : Ren := fun b => if b < m then ρ (φ b) else none
theorem Ren.re_lt {ρ : Ren} {φ : Nat → Nat} {m b : Nat} (h : b < m) : ρ.re φ m b = ρ (φ b) := by unfold Ren.re; rw [if_pos h]
theorem Ren.re_some {ρ : Ren} {φ : Nat → Nat} {m b : Nat} {x : Nat × Nat × Nat} (h : ρ.re φ m b = some x) : b < m ∧ ρ (φ b) = some x := by
  unfold Ren.re at h
  split at h
  · exact ⟨by assumption, h⟩
  · cases h
theorem VRel.re {ρ : Ren} {φ : Nat → Nat} {m : Nat} {v0 v : V} (h : VRe φ m v0 v) : ∀ {y : Value}, VRel ρ v y → VRel (ρ.re φ m) v0 y := by
  have key : ∀ {xs xs' : List V} {ys : Array Value}, xs.length = xs'.length → xs'.length = ys.size → (∀ (j : Nat) x y, xs[j]? = some x → xs'[j]? = some y → ∀ {z : Value}, VRel ρ y z → VRel (ρ.re φ m) x z) →
      (∀ (j : Nat) x y, xs'[j]? = some x → ys[j]? = some y → VRel ρ x y) → ∀ (j : Nat) x y, xs[j]? = some x → ys[j]? = some y → VRel (ρ.re φ m) x y := by
    intro xs xs' ys hl hl' ih hr j x y hx hy
    have : j < xs'.length := by rw [← hl]; exact (List.getElem?_eq_some_iff.1 hx).1
    exact ih j x xs'[j] hx (List.getElem?_eq_getElem this) (hr j _ y (List.getElem?_eq_getElem this) hy)
  induction h with
  | un v => intro y _; exact .un y
  | b x => intro y h; cases h; exact .b x
  | i k n => intro y h; cases h; exact .i k n
  | s l => intro y h; cases h with | s e => exact .s e
  | nilp => intro y h; cases h; exact .nilp
  | p hi => intro y h; cases h with | p e ho => exact .p (by rw [Ren.re_lt hi]; exact e) ho
  | nils => intro y h; cases h; exact .nils
  | sl hi hf => intro y h; cases h with | sl e hk hf' ho => exact .sl (by rw [Ren.re_lt hi]; exact e) hk (fun h => hf' (hf h)) ho
  | nilf => intro y h; cases h; exact .nilf
  | fn hl _ hl' _ ih ih' =>
    intro y h
    cases h with
    | fn a1 a2 a3 a4 => exact .fn (hl.trans a1) (key hl a1 ih a2) (hl'.trans a3) (key hl' a3 ih' a4)
  | yl hi => intro y h; cases h with | yl e => exact .yl (by rw [Ren.re_lt hi]; exact e)
  | nili => intro y h; cases h; exact .nili
  | ifc _ ih => intro y h; cases h with | ifc a => exact .ifc (ih a)
  | ag hl _ ih => intro y h; cases h with | ag a1 a2 => exact .ag (hl.trans a1) (key hl a1 ih a2)
  | tu hl _ ih => intro y h; cases h with | tu a1 a2 => exact .tu (hl.trans a1) (key hl a1 ih a2)

def TRe (φ : Nat → Nat) (m : Nat) (T0 T : Temps) : Prop := ∀ i v, aget T0 i = some v → ∃ v', aget T i = some v' ∧ VRe φ m v v'
inductive BRe (φ : Nat → Nat) (m : Nat) : Blk → Blk → Prop
  | row {o o' : Bool} {cs cs' : List V} (ho : o = true → o' = true) (h : VReL φ m cs cs') : BRe φ m (.row o cs) (.row o' cs')
  | loop {r0 r : ALoop} (h1 : r.st = r0.st) (h2 : r.pend = r0.pend) (h3 : r.N = r0.N) (h4 : r.params = r0.params) (h5 : r.assign = r0.assign) (h6 : r.body = r0.body) (hm : r0.marks < m) (hm' : r.marks = φ r0.marks) (hT : TRe φ m r0.T r.T) : BRe φ m (.loop r0) (.loop r)
  | marks : BRe φ m .marks .marks
theorem BRe.refl {m : Nat} {k : Blk} (h : BIn m k) : BRe id m k k := by
  cases k with
  | row o cs => exact .row id (VReL.refl (fun _ _ => rfl) h)
  | loop r => exact .loop rfl rfl rfl rfl rfl rfl h.1 rfl fun i v hv => ⟨v, hv, .refl (fun _ _ => rfl) (h.2 i v hv)⟩
  | marks => exact .marks
structure HRe (φ : Nat → Nat) (m : Nat) (H0 H : Heap) : Prop where
  get : ∀ b k, aget H0 b = some k → b < m ∧ ∃ k', aget H (φ b) = some k' ∧ BRe φ m k k'
  inj : ∀ b1 b2 k1 k2, aget H0 b1 = some k1 → aget H0 b2 = some k2 → φ b1 = φ b2 → b1 = b2
structure St.re (φ : Nat → Nat) (s0 s : St) : Prop where
  T : TRe φ s0.n s0.T s.T
  D : s.D = s0.D.map φ
  Dlt : ∀ m ∈ s0.D, m < s0.n
  H : HRe φ s0.n s0.H s.H
theorem TRel.re {ρ : Ren} {φ : Nat → Nat} {m N : Nat} {T0 T : Temps} {tmps : Array Value} (h : TRe φ m T0 T) (r : TRel ρ N T tmps) : TRel (ρ.re φ m) N T0 tmps :=
  ⟨r.1, fun i v hv => by
    obtain ⟨v', h1, h2⟩ := h i v hv
    obtain ⟨y, h3, h4⟩ := r.2 i v' h1
    exact ⟨y, h3, h4.re h2⟩⟩
theorem BRel.re {pc : PrepC} {ρ : Ren} {φ : Nat → Nat} {m : Nat} {w : World} {c d z : Nat} {k0 k : Blk} (h : BRe φ m k0 k) (r : BRel pc ρ w c d z k) : BRel pc (ρ.re φ m) w c d z k0 := by
  cases h with
  | row ho h =>
    obtain ⟨arr, t, fr, h1, h2, h3, h4, h5⟩ := r
    obtain ⟨q1, q2⟩ := h.spec
    refine ⟨arr, t, fr, h1, h2, by omega, fun j x hx => ?_, fun hh => h5 (ho hh)⟩
    have hj := (List.getElem?_eq_some_iff.1 hx).1
    obtain ⟨y, hy, hr⟩ := h4 j _ (List.getElem?_eq_getElem (by omega))
    exact ⟨y, hy, hr.re (q2 j x _ hx (List.getElem?_eq_getElem (by omega)))⟩
  | loop h1 h2 h3 h4 h5 h6 hm hm' hT =>
    obtain ⟨L, g1, l⟩ := r
    refine ⟨L, g1, l.st.trans h1, by rw [← h2]; exact l.pend, ?_, l.params.trans h4, by rw [← h3, ← h5]; exact l.assign, by rw [← h3, ← h6]; exact l.body, ?_⟩
    · rw [← h3]; exact l.tm.re hT
    · obtain ⟨d', z', e⟩ := l.marks
      exact ⟨d', z', by rw [Ren.re_lt hm, ← hm']; exact e⟩
  | marks => exact r
theorem BRe.own {φ : Nat → Nat} {m : Nat} {k0 k : Blk} (h : BRe φ m k0 k) (ho : k0.own = true) : k.own = true := by
  cases h with
  | row h _ => exact h ho
  | loop => rfl
  | marks => rfl
theorem Sim.re {pc : PrepC} {ρ : Ren} {n m : Nat} {φ : Nat → Nat} {H0 H : Heap} {w : World} (s : Sim pc ρ n H w) (h : HRe φ m H0 H) : Sim pc (ρ.re φ m) m H0 w := by
  refine ⟨fun b x hb => ⟨(Ren.re_some hb).1, (s.sup _ _ (Ren.re_some hb).2).2⟩, fun b k hb => ?_, fun b1 b2 k1 k2 x1 x2 h1 h2 e1 e2 he ho => ?_⟩
  · obtain ⟨hlt, k', g1, g2⟩ := h.get b k hb
    obtain ⟨c, d, z, e, r⟩ := s.blk _ _ g1
    exact ⟨c, d, z, by rw [Ren.re_lt hlt]; exact e, r.re g2⟩
  · obtain ⟨_, k1', g1, g1'⟩ := h.get b1 k1 h1
    obtain ⟨_, k2', g2, g2'⟩ := h.get b2 k2 h2
    exact h.inj b1 b2 k1 k2 h1 h2 (s.inj _ _ _ _ x1 x2 g1 g2 (Ren.re_some e1).2 (Ren.re_some e2).2 he (g1'.own ho))
theorem Ext.re {pc : PrepC} {ρ ρ' : Ren} {n n' m : Nat} {φ : Nat → Nat} {H H' H0 : Heap} {w w' : World} (s : Sim pc ρ n H w) (h : Ext ρ n H w ρ' n' H' w') (hn : n ≤ m) (hφ : ∀ b, b < n → φ b = b) (hr : HRe φ m H0 H') :
    Ext ρ n H w (ρ'.re φ m) m H0 w' where
  le := hn
  ren := fun b x hb => by
    have := (s.sup b x hb).1
    rw [Ren.re_lt (by omega), hφ b this]
    exact h.ren b x hb
  old := fun b x hb hx => by
    have := (Ren.re_some hx).2
    rw [hφ b hb] at this
    exact h.old b x hb this
  os := h.os
  tape := h.tape
  output := h.output
  drawn := h.drawn
  size := h.size
  frame := h.frame
  own := fun c ⟨b, k, x, h1, h2, h3, h4⟩ => by
    obtain ⟨_, k', g1, g2⟩ := hr.get b k h1
    exact h.own c ⟨φ b, k', x, g1, g2.own h2, (Ren.re_some h3).2, h4⟩
theorem MRel.re {ρ : Ren} {φ : Nat → Nat} {m : Nat} : ∀ {D : List Nat} {ds : List Deferred}, MRel ρ (D.map φ) ds → (∀ i ∈ D, i < m) → MRel (ρ.re φ m) D ds
  | [], [], _, _ => trivial
  | i :: D, d :: ds, ⟨⟨c, e, z, h1, h2⟩, r⟩, h => ⟨⟨c, e, z, by rw [Ren.re_lt (h i (by simp))]; exact h1, h2⟩, MRel.re r fun j hj => h j (by simp [hj])⟩
  | [], _ :: _, h, _ => h.elim
  | _ :: _, [], h, _ => h.elim
section rules
variable {P : Program} {N : Nat}
theorem ARel.re {ρ : Ren} {a : Act} {w : World} {s0 s : St} {φ : Nat → Nat} (hA : ARel P ρ N s a w) (h : St.re φ s0 s) : ARel P (ρ.re φ s0.n) N s0 a w :=
  ⟨hA.tm.re h.T, (h.D ▸ hA.mr : MRel ρ (s0.D.map φ) a.defers).re h.Dlt, hA.sim.re h.H⟩
/-- What is left, under other ids. -/
theorem AWc.conseqR {rd : Option Nat} {ac : ACode} {st : St} {Q Q' : Exit → St → Prop} (h : AWc P N rd ac st Q) (hq : ∀ e s, Q e s → ∃ φ s0, (∀ b, b < st.n → φ b = b) ∧ st.n ≤ s0.n ∧ St.re φ s0 s ∧ Q' e s0) : AWc P N rd ac st Q' := by
  intro c hc ρ F m a w hF hA
  refine wpIn_mono (h c hc ρ F m a w hF hA) ?_
  rintro e a' w' ⟨st', ρ', h1, h2, h3⟩
  obtain ⟨φ, s0, g1, g2, g3, g4⟩ := hq e st' h1
  exact ⟨s0, ρ'.re φ s0.n, g4, h2.re g3, h3.re hA.sim g2 g1 g3.H⟩
/-- A loop: an invariant with a number that falls; the ids may be laid anew at each round's end. -/
theorem AWc.loopR {rd : Option Nat} {st : St} {Q : Exit → St → Prop} {x : ACode} (I : Nat → St → Prop) {k₀ : Nat} {s₀ : St} {φ₀ : Nat → Nat} (h₀ : I k₀ s₀) (hre : St.re φ₀ s₀ st) (hφ : ∀ b, b < st.n → φ₀ b = b) (hI : ∀ k s, I k s → st.n ≤ s.n)
    (round : ∀ k s, I k s → AWc P N rd x s (onNormal (fun s' => ∃ j φ s'', j < k ∧ I j s'' ∧ (∀ b, b < st.n → φ b = b) ∧ St.re φ s'' s') Q)) : AWc P N rd (.loop x) st Q := by
  intro c hp ρ F m a w hF hA
  obtain ⟨c1, rfl, h1⟩ := prepC_loop hp
  let J : Nat → Act → World → Prop := fun k a' w' => ∃ s ρ', I k s ∧ ARel P ρ' N s a' w' ∧ Ext ρ st.n st.H w ρ' s.n s.H w'
  refine wpIn_loop (fun a' w' => ∃ k, J k a' w') (fun a' w' => leastN fun k => J k a' w') ?_ ?_
  · exact ⟨k₀, s₀, _, h₀, hA.re hre, (Ext.refl ρ st.n st.H w).re hA.sim (hI _ _ h₀) hφ hre.H⟩
  · rintro a1 w1 hJ
    obtain ⟨⟨s, ρ1, hI1, hA1, hE1⟩, hmin⟩ := leastN_spec hJ
    refine wpIn_mono (round _ s hI1 c1 h1 ρ1 F m a1 w1 (hF.mono hE1.ren) hA1) ?_
    rintro e a2 w2 ⟨s2, ρ2, hq, hA2, hE2⟩
    have hE := hE1.trans hE2
    cases e with
    | normal =>
      obtain ⟨j, φ, s3, hj, hI3, hφ3, hl⟩ := hq
      have hJ2 : J j a2 w2 := ⟨s3, _, hI3, hA2.re hl, hE.re hA.sim (hI _ _ hI3) hφ3 hl.H⟩
      exact ⟨⟨j, hJ2⟩, Nat.lt_of_le_of_lt ((leastN_spec ⟨j, hJ2⟩).2 j hJ2) hj⟩
    | _ => exact ⟨s2, ρ2, hq, hA2, hE⟩
theorem ACalls.weakenR {f : FuncId} {args : List V} {n : Nat} {H : Heap} {K K' : V → Nat → Heap → Prop} (h : ACalls P f args n H K)
    (hk : ∀ v n' H', K v n' H' → ∃ φ v0 n0 H0, (∀ b, b < n → φ b = b) ∧ n ≤ n0 ∧ VRe φ n0 v0 v ∧ HRe φ n0 H0 H' ∧ K' v0 n0 H0) : ACalls P f args n H K' :=
  ⟨h.1, fun ρ w args' hs hr => (h.2 ρ w args' hs hr).mono fun e w' ⟨v, n', H', ρ', y, h1, h2, h3, h4, h5⟩ => by
    obtain ⟨φ, v0, n0, H0, g1, g2, g3, g4, g5⟩ := hk _ _ _ h1
    exact ⟨v0, n0, H0, ρ'.re φ n0, y, g5, h2, h3.re g3, h4.re g4, h5.re hs g2 g1 g4⟩⟩
/-- The ids that there are, known at a call's beginning. -/
theorem ACalls.withIn {f : FuncId} {args : List V} {n : Nat} {H : Heap} {K : V → Nat → Heap → Prop} (h1 : EntersF P f) (h : HIn n H → (∀ x ∈ args, VIn n x) → ACalls P f args n H K) : ACalls P f args n H K :=
  ⟨h1, fun ρ w args' hs hr => (h hs.hin (hr.vin fun b x hb => (hs.sup b x hb).1)).2 ρ w args' hs hr⟩
/-- What was laid in a call is forgotten; what stood still stands. -/
theorem ACalls.drop {f : FuncId} {args : List V} {n : Nat} {H : Heap} {v : V} {K : V → Nat → Heap → Prop} (h : ACalls P f args n H K) (hk : ∀ v' n' H', K v' n' H' → v' = v ∧ VIn n v ∧ ∀ b k, aget H b = some k → aget H' b = some k) :
    ACalls P f args n H fun v' n' H' => v' = v ∧ n' = n ∧ H' = H := by
  refine .withIn h.1 fun hin _ => h.weakenR fun v' n' H' hK => ?_
  obtain ⟨rfl, h2, h3⟩ := hk _ _ _ hK
  exact ⟨id, v', n, H, fun _ _ => rfl, Nat.le_refl _, .refl (fun _ _ => rfl) h2, ⟨fun b k hb => ⟨(hin b k hb).1, k, h3 b k hb, .refl (hin b k hb).2⟩, fun _ _ _ _ _ _ h => h⟩, rfl, rfl, rfl⟩
end rules
end Go.Proofs.Ytpgelghkjiejlaa
