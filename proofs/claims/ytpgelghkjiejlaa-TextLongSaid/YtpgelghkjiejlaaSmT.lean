/- Regions that draw their order: the rule. -/
import Derived.Test.YtpgelghkjiejlaaSmW
set_option linter.unusedVariables false
set_option linter.unusedSimpArgs false
namespace Go.Proofs.Ytpgelghkjiejlaa
open Go

def idOf : V → List Nat
  | .p id _ => [id]
  | .sl id .. => [id]
  | _ => []
def fullOf : V → Bool
  | .sl _ _ _ _ f => f
  | _ => true
def frOp (T : Temps) : AOp → List Nat
  | .ld _ _ a => idOf (a.val T)
  | .sla _ _ x _ _ _ => idOf (x.val T)
  | .app _ _ _ s x => idOf (x.val T) ++ (if fullOf (s.val T) then idOf (s.val T) else [])
  | .cpy _ _ s => idOf (s.val T)
  | .b2s x => idOf (x.val T)
  | _ => []
def fwOp (T : Temps) : AOp → List Nat
  | .st _ a _ => idOf (a.val T)
  | .app _ _ _ s _ => if fullOf (s.val T) then [] else idOf (s.val T)
  | .cpy _ d _ => idOf (d.val T)
  | .clr _ _ x => idOf (x.val T)
  | _ => []
def okD (st : St) (fr fw : List Nat) (n1 : Nat) (R : Heap) : Prop :=
  st.n ≤ n1 ∧ (∀ b ∈ fr ++ fw, b < st.n) ∧ (∀ b ∈ fw, ∃ cs, aget st.H b = some (.row true cs)) ∧ ∀ p ∈ R, touch fw st.n n1 p.1 = true → p.2.own = true
/-- What a call answers has the ids that there are. -/
def inD (n n1 : Nat) (fw : List Nat) (v : V) (R : Heap) : Prop := VIn n1 v ∧ ∀ p ∈ R, touch fw n n1 p.1 = true → BIn n1 p.2
def drawF (P : Program) : List AOper → St → List DStep → (List DStep → St → Prop) → Prop
  | [], st, acc, K => K acc st
  | o :: os, st, acc, K =>
    match guardOf st.T o.guard with
    | some false => drawF P os ⟨putT st.T o.dst .un, st.D, st.n, st.H⟩ (acc ++ [⟨gslots o.guard, o.dst, [], [], st.n, st.n, .un, []⟩]) K
    | some true =>
      match o.op with
      | .call g args =>
        match g.val st.T with
        | .fn f first caps => ∃ fr fw v n1 R, ACalls P f (first ++ args.map (·.val st.T) ++ caps) st.n (restr st.H fr fw) (fun v' n' H' => v' = v ∧ n' = n1 ∧ H' = R) ∧
            okD st fr fw n1 R ∧ inD st.n n1 fw v R ∧
            drawF P os ⟨putT st.T o.dst v, st.D, n1, mergeH st.H fw st.n n1 R⟩ (acc ++ [⟨(AOp.call g args).slots ++ gslots o.guard, o.dst, fr, fw, st.n, n1, v, R⟩]) K
        | _ => False
      | op =>
        ∃ fr fw v n1 R, evalOp st.T st.n (restr st.H fr fw) op = some (v, n1, R) ∧ op.cok = true ∧ okD st fr fw n1 R ∧
            drawF P os ⟨putT st.T o.dst v, st.D, n1, mergeH st.H fw st.n n1 R⟩ (acc ++ [⟨op.slots ++ gslots o.guard, o.dst, fr, fw, st.n, n1, v, R⟩]) K
    | none => False
/-- All pairs: ordered, or out of each other's way. -/
def compatRow (bj : Nat) (sj : DStep) : Nat → List DStep → Bool
  | _, [] => true
  | i, s :: r => (bj.testBit i || indep s sj) && compatRow bj sj (i + 1) r
def compatB (befs : List Nat) (all : List DStep) : Nat → List DStep → Bool
  | _, [] => true
  | j, s :: r => compatRow (befs.getD j 0) s 0 (all.take j) && compatB befs all (j + 1) r

theorem compatRow_spec {bj : Nat} {sj : DStep} : ∀ {l : List DStep} {k : Nat}, compatRow bj sj k l = true → ∀ (i : Nat) s, l[i]? = some s → bj.testBit (k + i) = true ∨ indep s sj = true := by
  intro l
  induction l with
  | nil => intro k _ i s h; simp at h
  | cons s0 l ih =>
    intro k h i s hi
    simp only [compatRow, Bool.and_eq_true, Bool.or_eq_true] at h
    cases i with
    | zero => simp at hi; subst hi; simpa using h.1
    | succ i => have := ih h.2 i s (by simpa using hi); rw [show k + (i + 1) = k + 1 + i by omega]; exact this
theorem compatB_spec {befs : List Nat} {all : List DStep} : ∀ {l : List DStep} {j : Nat}, compatB befs all j l = true → (∀ i, l[i]? = all[j + i]?) → ∀ (i i' : Nat) si sj, i < j + i' → all[i]? = some si → l[i']? = some sj → (befs.getD (j + i') 0).testBit i = true ∨ indep si sj = true := by
  intro l
  induction l with
  | nil => intro j _ _ i i' si sj _ _ h; simp at h
  | cons s0 l ih =>
    intro j h hl i i' si sj hlt hi hj
    simp only [compatB, Bool.and_eq_true] at h
    cases i' with
    | zero =>
      simp at hj
      subst hj
      have := compatRow_spec h.1 i si (by rw [List.getElem?_take, if_pos (by omega)]; exact hi)
      simpa using this
    | succ i' =>
      have := ih h.2 (fun i => by have := hl (i + 1); rw [show j + 1 + i = j + (i + 1) by omega]; simpa using this) i i' si sj (by omega) hi (by simpa using hj)
      rw [show j + (i' + 1) = j + 1 + i' by omega]; exact this

def runTo (l : List DStep) (x : TH) : TH := l.foldl (fun x s => s.go x) x
theorem runTo_append (l l' : List DStep) (x : TH) : runTo (l ++ l') x = runTo l' (runTo l x) := by simp [runTo]
theorem seqD_lt (k : Nat) : ∀ (l : List DStep) (j : Nat) (x : TH), seqD (fun i => decide (i < k)) j l x = runTo (l.take (k - j)) x := by
  intro l
  induction l with
  | nil => intro j x; simp [seqD, runTo]
  | cons s l ih =>
    intro j x
    unfold seqD
    rw [ih]
    by_cases hj : j < k
    · obtain ⟨d, hd⟩ : ∃ d, k - j = d + 1 := ⟨k - j - 1, by omega⟩
      rw [hd, show k - (j + 1) = d by omega]
      simp [hj, runTo]
    · rw [show k - j = 0 by omega, show k - (j + 1) = 0 by omega]
      simp [hj, runTo]
theorem seqD_all {D : Nat → Bool} : ∀ (l : List DStep) (j : Nat) (x : TH), (∀ i, i < l.length → D (j + i) = true) → seqD D j l x = runTo l x := by
  intro l
  induction l with
  | nil => intro j x _; rfl
  | cons s l ih =>
    intro j x h
    unfold seqD
    rw [ih (j + 1) _ (fun i hi => by rw [show j + 1 + i = j + (i + 1) by omega]; exact h (i + 1) (by simpa using hi))]
    have := h 0 (by simp)
    rw [Nat.add_zero] at this
    simp [this, runTo]

section draw
variable {P : Program} {N : Nat} {ops : Array Oper}
theorem guard_congr {T T' : Temps} {g : Option (Option Nat × Bool)} (h : ∀ t ∈ gslots g, aget T t = aget T' t) : guardOf T g = guardOf T' g := by
  unfold guardOf
  split
  · rfl
  · rw [h _ (by simp [gslots])]
  · rfl
theorem restrT_eq {T : Temps} {rs : List Nat} {t : Nat} (h : t ∈ rs) : aget (restrT T rs) t = aget T t := by
  rw [aget_restrT, if_pos (by simpa using h)]
theorem lstep_skip {i : Nat} {o : Oper} {ao : AOper} (ho : ops[i]? = some o) (hp : prepOper P N ops o = some ao) {T : Temps} {n : Nat} (hg : guardOf T ao.guard = some false) :
    LStep P N ops i (restrT T (gslots ao.guard)) [] ⟨gslots ao.guard, ao.dst, [], [], n, n, .un, []⟩ := by
  obtain ⟨p1, p2, p3, p4⟩ := prepOper_inv hp
  intro ρ rd F m a w hF hT hS next Q hnext
  have hg' : guardOf (restrT T (gslots ao.guard)) ao.guard = some false := (guard_congr fun t ht => restrT_eq ht).trans hg
  have hw := wanted_of hT (by rw [← p4]; exact hg')
  unfold wpOpIn
  simp only [ho, hw, Bool.false_eq_true, if_false]
  refine ⟨fun f _ => hF.fn f, ?_⟩
  have := hnext ρ undef w (.un _) hS (.refl _ _ _ _)
  simp only at this
  rw [p2] at this
  exact this
theorem lstep_op {i : Nat} {o : Oper} {ao : AOper} (ho : ops[i]? = some o) (hp : prepOper P N ops o = some ao) {T : Temps} {n n1 : Nat} {R R' : Heap} {v : V} {fr fw : List Nat} (hg : guardOf T ao.guard = some true) (hnc : ∀ g l, ao.op ≠ .call g l)
    (hev : evalOp T n R ao.op = some (v, n1, R')) : LStep P N ops i (restrT T (ao.op.slots ++ gslots ao.guard)) R ⟨ao.op.slots ++ gslots ao.guard, ao.dst, fr, fw, n, n1, v, R'⟩ := by
  obtain ⟨p1, p2, p3, p4⟩ := prepOper_inv hp
  intro ρ rd F m a w hF hT hS next Q hnext
  have hg' : guardOf (restrT T (ao.op.slots ++ gslots ao.guard)) ao.guard = some true := (guard_congr fun t ht => restrT_eq (by simp [ht])).trans hg
  have hw := wanted_of hT (by rw [← p4]; exact hg')
  have hp1 := prepOp2_other p1 hnc
  have hev' : evalOp (restrT T (ao.op.slots ++ gslots ao.guard)) n R ao.op = some (v, n1, R') := (evalOp_congr n R ao.op fun t ht => restrT_eq (by simp [ht])).trans hev
  unfold wpOpIn
  simp only [ho, hw, if_true, Oper.wpIn]
  refine ⟨fun f _ => hF.fn f, ?_⟩
  rw [Oper.semAt_eq _ _ _ (prepOp_ne_defer hp1)]
  obtain ⟨nx, y, w', ρ', hrun, hnx, hv, hs, hx⟩ := evalOp_sound hT hS hp1 hev'
  rw [hrun]
  have hgo := hnext ρ' y w' hv hs hx
  simp only at hgo
  rw [p2] at hgo
  rcases hnx with rfl | ⟨rfl, rfl⟩
  · exact hgo
  · exact hgo
theorem lstep_call {i : Nat} {o : Oper} {ao : AOper} (ho : ops[i]? = some o) (hp : prepOper P N ops o = some ao) {T : Temps} {n n1 : Nat} {R R' : Heap} {v : V} {fr fw : List Nat} (hg : guardOf T ao.guard = some true) {g : AX} {args : List AX} (hop : ao.op = .call g args)
    {f : FuncId} {first caps : List V} (hgv : g.val T = .fn f first caps) (hc : ACalls P f (first ++ args.map (·.val T) ++ caps) n R (fun v' n' H' => v' = v ∧ n' = n1 ∧ H' = R')) :
    LStep P N ops i (restrT T ((AOp.call g args).slots ++ gslots ao.guard)) R ⟨(AOp.call g args).slots ++ gslots ao.guard, ao.dst, fr, fw, n, n1, v, R'⟩ := by
  obtain ⟨p1, p2, p3, p4⟩ := prepOper_inv hp
  intro ρ rd F m a w hF hT hS next Q hnext
  have hg' : guardOf (restrT T ((AOp.call g args).slots ++ gslots ao.guard)) ao.guard = some true := (guard_congr fun t ht => restrT_eq (by simp [ht])).trans hg
  have hw := wanted_of hT (by rw [← p4]; exact hg')
  rw [hop] at p1
  obtain ⟨c, fo, e1, e2, e3, e4⟩ := prepOp2_call p1
  have hgv' : g.val (restrT T ((AOp.call g args).slots ++ gslots ao.guard)) = .fn f first caps := (g.val_congr fun t ht => restrT_eq (by simp [AOp.slots, ht])).trans hgv
  have hav : args.map (·.val (restrT T ((AOp.call g args).slots ++ gslots ao.guard))) = args.map (·.val T) := xs_congr args fun t ht => restrT_eq (by simp [AOp.slots, ht])
  unfold wpOpIn
  simp only [ho, hw, if_true, Oper.wpIn]
  refine ⟨fun f _ => hF.fn f, ?_⟩
  rw [Oper.semAt_eq _ _ _ (by rw [e1]; intro c h; cases h)]
  refine callV_sound (st := ⟨restrT T ((AOp.call g args).slots ++ gslots ao.guard), [], n, R⟩) hF hT hS e1 e2 e3 e4 (K := fun v' n' H' => v' = v ∧ n' = n1 ∧ H' = R') ?_ _ _ ?_
  · simp only [callV, hgv', hav]
    exact hc
  · rintro v' n' H' ρ' y w' ⟨rfl, rfl, rfl⟩ hv hs hx
    have hgo := hnext ρ' y w' hv hs hx
    simp only at hgo
    rw [p2] at hgo
    exact hgo
theorem aget_mem {α : Type} {b : Nat} {k : α} : ∀ {l : List (Nat × α)}, aget l b = some k → (b, k) ∈ l := by
  intro l
  induction l with
  | nil => intro h; simp at h
  | cons x l ih =>
    obtain ⟨i, z⟩ := x
    intro h
    rw [aget_cons] at h
    by_cases hi : i = b
    · subst hi; rw [if_pos rfl] at h; cases h; simp
    · rw [if_neg hi] at h; simp [ih h]
theorem restr_in {n : Nat} {H : Heap} (h : HIn n H) (fr fw : List Nat) : HIn n (restr H fr fw) := fun b k hb => by
  rcases aget_restr hb with ⟨_, h2⟩ | ⟨_, o, cs, h2, rfl⟩
  · exact h b k h2
  · exact ⟨(h b _ h2).1, (h b _ h2).2⟩
theorem putT_in {n : Nat} {T : Temps} {v : V} (h : TIn n T) (hv : VIn n v) (dst : Option Nat) : TIn n (putT T dst v) := fun i u hu => by
  rw [aget_putT] at hu
  split at hu
  · cases hu; exact hv
  · exact h i u hu
theorem merge_in {n n1 : Nat} {H R : Heap} {fw : List Nat} (hH : HIn n H) (hn : n ≤ n1) (hfw : ∀ b ∈ fw, b < n) (hR : ∀ b k, aget R b = some k → touch fw n n1 b = true → BIn n1 k) : HIn n1 (mergeH H fw n n1 R) := fun b k hb => by
  rw [aget_mergeH] at hb
  split at hb
  · rename_i ht
    refine ⟨?_, hR b k hb ht⟩
    simp only [touch, Bool.or_eq_true, Bool.and_eq_true, decide_eq_true_eq, List.contains_eq_mem] at ht
    rcases ht with h1 | h1
    · exact Nat.lt_of_lt_of_le (hfw b h1) hn
    · exact h1.2
  · exact (hH.mono hn) b k hb
theorem okD_fact {st : St} {rs fr fw : List Nat} {n1 : Nat} {R : Heap} {dst : Option Nat} {v : V} {k : Nat} (hT : TIn st.n st.T) (hH : HIn st.n st.H) (h : okD st fr fw n1 R) (hd : dstOk N dst = true) (hs : LStep P N ops k (restrT st.T rs) (restr st.H fr fw) ⟨rs, dst, fr, fw, st.n, n1, v, R⟩) :
    Fact P N ops k (st.T, st.H) ⟨rs, dst, fr, fw, st.n, n1, v, R⟩ := by
  obtain ⟨h1, h3, h4, h5⟩ := h
  refine ⟨hs, hd, fun t u ht hu => hT t u hu, fun b o cs hb hx => (hH b _ hx).2, fun b k hb hk => ?_, fun b hb => h3 b (by simpa using hb), fun b k hb hk => ?_, h1⟩
  · obtain ⟨cs, hcs⟩ := h4 b hb
    simp only at hk
    rw [hcs] at hk
    cases hk
    exact ⟨cs, rfl⟩
  · exact h5 (b, k) (aget_mem hk) hb
theorem drawF_ok {K : List DStep → St → Prop} {x0 : TH} : ∀ (os : List Oper) (l : List AOper) (acc : List DStep) (st : St), prepOpers P N ops os = some l → (∀ j, os[j]? = ops[acc.length + j]?) → (st.T, st.H) = runTo acc x0 → TIn st.n st.T → HIn st.n st.H → drawF P l st acc K →
    ∃ more st', K (acc ++ more) st' ∧ more.length = os.length ∧ (st'.T, st'.H) = runTo (acc ++ more) x0 ∧ st'.D = st.D ∧ st.n ≤ st'.n ∧
      (∀ (j : Nat) s, more[j]? = some s → Fact P N ops (acc.length + j) (runTo (acc ++ more.take j) x0) s ∧ st.n ≤ s.n0 ∧ s.n1 ≤ st'.n) ∧ (∀ (i j : Nat) si sj, i < j → more[i]? = some si → more[j]? = some sj → si.n1 ≤ sj.n0) := by
  intro os
  induction os with
  | nil =>
    intro l acc st hp _ hx _ _ h
    cases hp
    exact ⟨[], st, by simpa [drawF] using h, rfl, by simpa using hx, rfl, Nat.le_refl _, fun j s h => by simp at h, fun i j si sj _ h => by simp at h⟩
  | cons o os ih =>
    intro l acc st hp ho hx hT hH h
    simp only [prepOpers] at hp
    split at hp
    · rename_i ao l' h1 h2
      cases hp
      have hoi : ops[acc.length]? = some o := by have := ho 0; simpa using this.symm
      obtain ⟨p1, p2, p3, p4⟩ := prepOper_inv h1
      -- how one step is put ahead of the rest
      have key : ∀ (s : DStep) (st1 : St), st1 = ⟨putT st.T s.dst s.v, st.D, s.n1, mergeH st.H s.fw s.n0 s.n1 s.R⟩ → s.n0 = st.n → Fact P N ops acc.length (st.T, st.H) s → VIn s.n1 s.v → HIn s.n1 (mergeH st.H s.fw s.n0 s.n1 s.R) → drawF P l' st1 (acc ++ [s]) K →
          ∃ more st', K (acc ++ more) st' ∧ more.length = (o :: os).length ∧ (st'.T, st'.H) = runTo (acc ++ more) x0 ∧ st'.D = st.D ∧ st.n ≤ st'.n ∧
            (∀ (j : Nat) s, more[j]? = some s → Fact P N ops (acc.length + j) (runTo (acc ++ more.take j) x0) s ∧ st.n ≤ s.n0 ∧ s.n1 ≤ st'.n) ∧ (∀ (i j : Nat) si sj, i < j → more[i]? = some si → more[j]? = some sj → si.n1 ≤ sj.n0) := by
        rintro s st1 rfl hn0 hf hvin hmin hd
        have hle : s.n0 ≤ s.n1 := hf.nle
        obtain ⟨more, st', q1, q2, q3, q4, q5, q6, q7⟩ := ih l' (acc ++ [s]) _ h2 (fun j => by have := ho (j + 1); simp only [List.length_append, List.length_cons, List.length_nil]; rw [show acc.length + (0 + 1) + j = acc.length + (j + 1) by omega]; simpa using this) (by rw [runTo_append, ← hx]; rfl) (putT_in (hT.mono (by omega)) hvin _) hmin hd
        refine ⟨s :: more, st', by simpa using q1, by simp [q2], by simpa using q3, q4, by simp only at q5; omega, fun j s' hj => ?_, fun i j si sj hij hi hj => ?_⟩
        · cases j with
          | zero =>
            simp at hj
            subst hj
            refine ⟨by simpa [← hx] using hf, by omega, q5⟩
          | succ j =>
            obtain ⟨g1, g2, g3⟩ := q6 j s' (by simpa using hj)
            refine ⟨?_, by simp only at g2; omega, g3⟩
            simp only [List.length_append, List.length_cons, List.length_nil] at g1
            rw [show acc.length + (0 + 1) + j = acc.length + (j + 1) by omega] at g1
            simpa using g1
        · cases j with
          | zero => omega
          | succ j =>
            cases i with
            | zero =>
              simp at hi
              subst hi
              exact (q6 j sj (by simpa using hj)).2.1
            | succ i => exact q7 i j si sj (by omega) (by simpa using hi) (by simpa using hj)
      unfold drawF at h
      split at h
      · rename_i hg
        refine key ⟨gslots ao.guard, ao.dst, [], [], st.n, st.n, .un, []⟩ _ ?_ rfl ?_ .un (merge_in hH (Nat.le_refl _) (by simp) (by simp)) h
        · have : mergeH st.H [] st.n st.n [] = st.H := by
            have : st.H.filter (fun x => !touch [] st.n st.n x.1) = st.H := List.filter_eq_self.2 fun x _ => by simp [touch]; omega
            simp [mergeH, this]
          simp [this]
        · exact okD_fact hT hH ⟨Nat.le_refl _, fun b hb => by simp at hb, fun b hb => by simp at hb, fun p hp => by simp at hp⟩ (by rw [p2]; exact p3) (lstep_skip hoi h1 hg)
      · rename_i hg
        split at h
        · rename_i g args hop
          split at h
          · rename_i f first caps hgv
            obtain ⟨fr, fw, v, n1, R, hc, hok, hin, hd⟩ := h
            exact key ⟨_, ao.dst, fr, fw, st.n, n1, v, R⟩ _ rfl rfl (okD_fact hT hH hok (by rw [p2]; exact p3) (lstep_call hoi h1 hg hop hgv hc)) hin.1 (merge_in hH hok.1 (fun b hb => hok.2.1 b (by simp [hb])) fun b k hb ht => hin.2 (b, k) (aget_mem hb) ht) hd
          · exact h.elim
        · rename_i hnc
          obtain ⟨fr, fw, v, n1, R, hev, hcok, hok, hd⟩ := h
          obtain ⟨_, i2, i3⟩ := evalOp_in hT (restr_in hH _ _) hcok hev
          exact key ⟨_, ao.dst, fr, fw, st.n, n1, v, R⟩ _ rfl rfl (okD_fact hT hH hok (by rw [p2]; exact p3) (lstep_op hoi h1 hg hnc hev)) i2 (merge_in hH hok.1 (fun b hb => hok.2.1 b (by simp [hb])) fun b k hb _ => (i3 b k hb).2) hd
      · exact h.elim
    · cases hp
end draw
end Go.Proofs.Ytpgelghkjiejlaa
