/- A function's contract from its body; a range over a function. -/
import Derived.Test.YtpgelghkjiejlaaSmO
set_option linter.unusedVariables false
set_option linter.unusedSimpArgs false
namespace Go.Proofs.Ytpgelghkjiejlaa
open Go

inductive ResA where
  | t (i : Nat)
  | cell (agg : Bool) (sz : Nat) (a : Nat)
structure AFun where
  N : Nat
  res : List ResA
  body : ACode
def prepRes (P : Program) : List ResultVar → Option (List ResA)
  | [] => some []
  | .tmp t :: r => (prepRes P r).map (.t t :: ·)
  | .cell a t :: r =>
    match aggL P t, sizeL P t, prepRes P r with
    | some g, some s, some l => some (.cell g s a :: l)
    | _, _, _ => none
def prepF (P : Program) (f : FuncId) : Option AFun :=
  match P.funcs[f]? with
  | some fn =>
    if fn.name == "runtime.NumGoroutine" then none else
    match fn.body with
    | some c => match prepC P fn.ntmps c, prepRes P fn.results.toList with | some ac, some r => some ⟨fn.ntmps, r, ac⟩ | _, _ => none
    | none => none
  | none => none
def argsT : Nat → List V → Temps
  | _, [] => []
  | k, v :: r => (k, v) :: argsT (k + 1) r
def ldV (H : Heap) (agg : Bool) (sz : Nat) : V → Option V
  | .p id off =>
    match aget H id with
    | some (.row _ cs) => if agg then (if off + sz ≤ cs.length then some (.ag ((cs.drop off).take sz)) else none) else cs[off]?
    | _ => none
  | _ => none
theorem evLd_ldV (n : Nat) (H : Heap) (g : Bool) (sz : Nat) (p : V) : evLd n H g sz p = (ldV H g sz p).map fun v => (v, n, H) := by
  cases p <;> try rfl
  rename_i id off
  simp only [evLd, ldV]
  cases aget H id with
  | none => rfl
  | some k =>
    cases k with
    | row own cs =>
      simp only
      cases g
      · simp only [Bool.false_eq_true, if_false]
        cases cs[off]? <;> rfl
      · simp only [if_true]
        split <;> rfl
    | _ => rfl
def resOne (T : Temps) (H : Heap) : ResA → Option V
  | .t i => aget T i
  | .cell g s a =>
    match aget T a with
    | some p => ldV H g s p
    | none => none
def resAll (T : Temps) (H : Heap) : List ResA → Option (List V)
  | [] => some []
  | r :: rs => match resOne T H r, resAll T H rs with | some v, some l => some (v :: l) | _, _ => none
def resV : List V → V
  | [v] => v
  | vs => .tu vs
def delAll : Heap → List Nat → Heap
  | H, [] => H
  | H, m :: ms => delAll (adel H m) ms

section rules
variable {P : Program} {N : Nat}
theorem Sim.take {pc : PrepC} {ρ : Ren} {n : Nat} {H : Heap} {w : World} (s : Sim pc ρ n H w) {m c d z : Nat} {k : Blk} (hm : aget H m = some k) (hk : k.own = true) (hρ : ρ m = some (c, d, z)) (o : Obj) :
    Sim pc ρ n (adel H m) (setBlk w c o) ∧ Ext ρ n H w ρ n (adel H m) (setBlk w c o) := by
  have hc : c < w.heap.size := (s.sup m _ hρ).2
  have hget : ∀ b j, aget (adel H m) b = some j → b ≠ m ∧ aget H b = some j := fun b j h => by
    rw [aget_del] at h
    split at h
    · cases h
    · rename_i hb; exact ⟨fun e => hb e.symm, h⟩
  refine ⟨⟨fun b x hb => by rw [setBlk_size]; exact s.sup b x hb, fun b j hb => ?_, fun b1 b2 k1 k2 x1 x2 h1 h2 => s.inj b1 b2 k1 k2 x1 x2 (hget _ _ h1).2 (hget _ _ h2).2⟩, ⟨Nat.le_refl _, .refl _, fun _ _ _ h => h, rfl, rfl, rfl, Nat.le_refl _, by simp, fun e he hno => ?_, fun e ⟨b, k, x, h1, h2⟩ => .inl ⟨b, k, x, (hget _ _ h1).2, h2⟩⟩⟩
  · obtain ⟨hb1, hb2⟩ := hget b j hb
    obtain ⟨c', d', z', e, r⟩ := s.blk b j hb2
    refine ⟨c', d', z', e, r.mono (.refl _) ?_⟩
    rw [setBlk_get _ _ _ _ hc, if_neg]
    rintro rfl
    exact hb1 (s.inj m b _ j _ _ hm hb2 hρ e rfl hk).symm
  · rw [setBlk_get _ _ _ _ hc, if_neg]
    rintro rfl
    exact hno ⟨m, _, _, hm, hk, hρ, rfl⟩

theorem resOne_run {ρ : Ren} {T : Temps} {H : Heap} {n : Nat} {w : World} {tmps : Array Value} (tr : TRel ρ N T tmps) (s : Sim (prepC P) ρ n H w) {rv : ResultVar} {ra : ResA} {v : V} (hp : prepRes P [rv] = some [ra]) (h : resOne T H ra = some v)
    (g : ResultVar → Sem Value) (hg1 : ∀ t, g (.tmp t) = pure (tmps.getD t undef)) (hg2 : ∀ a t, g (.cell a t) = (do loadVar t (← asAddr (tmps.getD a undef)))) : ∃ y w' ρ', (g rv).run P w = .ok y w' ∧ VRel ρ' v y ∧ w' = w ∧ ρ' = ρ := by
  cases rv with
  | tmp t =>
    simp only [prepRes, Option.map_some, Option.some.injEq, List.cons.injEq, and_true] at hp
    subst hp
    simp only [resOne] at h
    obtain ⟨y, hy, hr⟩ := tr.2 t v h
    exact ⟨y, w, ρ, by rw [hg1]; simp [Array.getD_eq_getD_getElem?, hy], hr, rfl, rfl⟩
  | cell a t =>
    simp only [prepRes] at hp
    split at hp
    · rename_i g' sz l h1 h2 h3
      cases h3
      simp only [Option.some.injEq, List.cons.injEq, and_true] at hp
      subst hp
      simp only [resOne] at h
      split at h
      · rename_i p hpv
        have hev : evLd n H g' sz p = some (v, n, H) := by rw [evLd_ldV, h]; rfl
        obtain ⟨y, hy, hr⟩ := tr.2 a p hpv
        obtain ⟨yy, w', ρ', g1, g2, g3⟩ := gets_ld_pure s h1 h2 hr hev
        have hya : ∃ ad, y = .pointer (some ad) := by
          unfold ldV at h
          split at h
          · cases hr; exact ⟨_, rfl⟩
          · cases h
        obtain ⟨ad, rfl⟩ := hya
        refine ⟨yy, w', ρ', ?_, g2, g3⟩
        rw [hg2]
        simp only [Array.getD_eq_getD_getElem?, hy, Option.getD_some, Sem.run_bind, asAddr, Sem.run_pure, Result.andThen_ok]
        simpa [Instr.loadAt, Instr.sureAddr] using g1
      · cases h
    · cases hp
theorem prepRes_cons {rv : ResultVar} {rs : List ResultVar} {l : List ResA} (h : prepRes P (rv :: rs) = some l) : ∃ ra l', l = ra :: l' ∧ prepRes P [rv] = some [ra] ∧ prepRes P rs = some l' := by
  cases rv with
  | tmp t =>
    simp only [prepRes] at h
    obtain ⟨l', h1, rfl⟩ := map_inv h
    exact ⟨_, l', rfl, rfl, h1⟩
  | cell a t =>
    simp only [prepRes] at h
    split at h
    · rename_i g s l' h1 h2 h3
      cases h
      exact ⟨_, l', rfl, by simp [prepRes, h1, h2], h3⟩
    · cases h
theorem resAll_run {ρ : Ren} {T : Temps} {H : Heap} {n : Nat} {w : World} {tmps : Array Value} (tr : TRel ρ N T tmps) (s : Sim (prepC P) ρ n H w)
    (g : ResultVar → Sem Value) (hg1 : ∀ t, g (.tmp t) = pure (tmps.getD t undef)) (hg2 : ∀ a t, g (.cell a t) = (do loadVar t (← asAddr (tmps.getD a undef)))) : ∀ {rs : List ResultVar} {l : List ResA} {vs : List V}, prepRes P rs = some l → resAll T H l = some vs →
    ∃ ys : List Value, (rs.mapM g).run P w = .ok ys w ∧ VRelL ρ vs ys := by
  intro rs
  induction rs with
  | nil => intro l vs hp h; cases hp; cases h; exact ⟨[], rfl, .nil⟩
  | cons rv rs ih =>
    intro l vs hp h
    obtain ⟨ra, l', rfl, h1, h2⟩ := prepRes_cons hp
    simp only [resAll] at h
    split at h
    · rename_i v vl hv hl
      cases h
      obtain ⟨y, _, _, hy, hr, rfl, rfl⟩ := resOne_run tr s h1 hv g hg1 hg2
      obtain ⟨ys, hys, hrs⟩ := ih h2 hl
      refine ⟨y :: ys, ?_, .cons hr hrs⟩
      rw [List.mapM_cons]
      simp only [Sem.run_bind, hy, Result.andThen_ok, hys, Sem.run_pure]
    · cases h
theorem results_run {ρ : Ren} {T : Temps} {H : Heap} {n : Nat} {w : World} {tmps : Array Value} (tr : TRel ρ N T tmps) (s : Sim (prepC P) ρ n H w) {fn : Func} {l : List ResA} {vs : List V} (hp : prepRes P fn.results.toList = some l) (h : resAll T H l = some vs) :
    ∃ y, (results fn tmps).run P w = .ok y w ∧ VRel ρ (resV vs) y := by
  have e : ∃ g : ResultVar → Sem Value, results fn tmps = (do let vs ← fn.results.mapM g; pure (if h : vs.size = 1 then vs[0] else .tuple vs)) ∧ (∀ t, g (.tmp t) = pure (tmps.getD t undef)) ∧ (∀ a t, g (.cell a t) = (do loadVar t (← asAddr (tmps.getD a undef)))) :=
    ⟨_, rfl, fun _ => rfl, fun _ _ => rfl⟩
  obtain ⟨g, hg, hg1, hg2⟩ := e
  obtain ⟨ys, hys, hr⟩ := resAll_run (P := P) tr s g hg1 hg2 hp h
  have hm : (fn.results.mapM g).run P w = .ok ys.toArray w := by
    rw [show fn.results = fn.results.toList.toArray by simp, List.mapM_toArray, Sem.run_map, hys]
    rfl
  refine ⟨if h : ys.toArray.size = 1 then ys.toArray[0] else .tuple ys.toArray, ?_, ?_⟩
  · rw [hg]
    simp only [Sem.run_bind, hm, Result.andThen_ok, Sem.run_pure]
  · cases vs with
    | nil => obtain rfl := hr.nil_inv; exact .tu rfl fun j x y hx => by simp at hx
    | cons v vs =>
      obtain ⟨y, yt, rfl, h1, h2⟩ := hr.cons_inv
      cases vs with
      | nil => obtain rfl := h2.nil_inv; exact h1
      | cons v2 vs =>
        obtain ⟨y2, yt2, rfl, h3, h4⟩ := h2.cons_inv
        rw [dif_neg (by simp)]
        exact VRelL.to_tu (by simpa using VRelL.cons h1 (.cons h3 h4))

theorem argsT_get : ∀ (vs : List V) (k i : Nat), aget (argsT k vs) i = if k ≤ i then vs[i - k]? else none := by
  intro vs
  induction vs with
  | nil => intro k i; simp [argsT]
  | cons v vs ih =>
    intro k i
    simp only [argsT, aget_cons, ih]
    by_cases h : k = i
    · subst h; simp
    · rw [if_neg h]
      by_cases h2 : k ≤ i
      · rw [if_pos h2, if_pos (by omega)]
        obtain ⟨j, rfl⟩ : ∃ j, i = k + 1 + j := ⟨i - k - 1, by omega⟩
        rw [show k + 1 + j - (k + 1) = j by omega, show k + 1 + j - k = j + 1 by omega]
        rfl
      · rw [if_neg h2, if_neg (by omega)]
/-- A FUNCTION's CONTRACT FROM ITS BODY. -/
theorem ACalls.enter {f : FuncId} {af : AFun} (hf : prepF P f = some af) {args : List V} {n : Nat} {H : Heap} {K : V → Nat → Heap → Prop} (hn : args.length ≤ af.N)
    (h : AWc P af.N none af.body ⟨argsT 0 args, [], n, H⟩ fun e st => (e = .normal ∨ e = .ret) ∧ (∀ m ∈ st.D, aget st.H m = some .marks) ∧ st.D.Nodup ∧ ∃ vs, resAll st.T (delAll st.H st.D) af.res = some vs ∧ K (resV vs) st.n (delAll st.H st.D)) :
    ACalls P f args n H K := by
  unfold prepF at hf
  split at hf
  · rename_i fn hfn
    split at hf
    · cases hf
    · rename_i hname
      split at hf
      · rename_i c hc
        split at hf
        · rename_i ac r h1 h2
          cases hf
          refine ⟨fun args w => by
            have hnm : fn.name ≠ "runtime.NumGoroutine" := by simpa using hname
            simp [callFunc, hfn, hnm, hc], fun ρ w args' hs hr => ?_⟩
          refine (callsIn_wide (n := 0)).1 ?_
          refine callsIn_of_wp_marks hfn hc trivial ?_
          have htm : TRel ρ fn.ntmps (argsT 0 args) (args' ++ Array.replicate (fn.ntmps - args'.size) undef) := by
            have hsz : args'.size = args.length := by have := hr.1; simp at this; omega
            have hn' : args.length ≤ fn.ntmps := hn
            refine ⟨by simp; omega, fun i v hv => ?_⟩
            rw [argsT_get] at hv
            simp only [Nat.zero_le, if_true, Nat.sub_zero] at hv
            obtain ⟨y, hy, hyr⟩ := hr.get hv
            simp only [Array.getElem?_toList] at hy
            refine ⟨y, ?_, hyr⟩
            rw [Array.getElem?_append_left (by have := (Array.getElem?_eq_some_iff.1 hy).1; exact this)]
            exact hy
          refine wpIn_mono (h c h1 ρ Fence.wide 0 { tmps := args' ++ Array.replicate (fn.ntmps - args'.size) undef, defers := [] } w rfl ⟨htm, trivial, hs⟩) ?_
          rintro e a1 w1 ⟨st1, ρ1, ⟨he, hmk, hnd, vs, hres, hK⟩, hA1, hE1⟩
          have key : ∀ (D : List Nat) (ds : List Deferred) (H1 : Heap) (w1 : World), MRel ρ1 D ds → (∀ m ∈ D, aget H1 m = some .marks) → D.Nodup → Sim (prepC P) ρ1 st1.n H1 w1 → Ext ρ n H w ρ1 st1.n H1 w1 → delAll H1 D = delAll st1.H st1.D →
              LeavesInM Fence.wide 0 P fn a1.tmps (fun e w' => ∃ v n' H' ρ' y, K v n' H' ∧ e = .returned y ∧ VRel ρ' v y ∧ Sim (prepC P) ρ' n' H' w' ∧ Ext ρ n H w ρ' n' H' w') ds .returning w1 := by
            intro D
            induction D with
            | nil =>
              intro ds H1 w1 hm _ _ hs1 hE1 hdel
              cases ds with
              | cons _ _ => exact hm.elim
              | nil =>
                simp only [delAll] at hdel
                subst hdel
                obtain ⟨y, hy, hyr⟩ := results_run hA1.tm hs1 h2 hres
                exact ⟨y, hy, _, _, _, ρ1, y, hK, rfl, hyr, hs1, hE1⟩
            | cons m D ih =>
              intro ds H1 w1 hm hmk hnd hs1 hE1 hdel
              cases ds with
              | nil => exact hm.elim
              | cons d ds =>
                obtain ⟨⟨c0, e0, z0, hρ0, rfl⟩, hm'⟩ := hm
                have hmm := hmk m (by simp)
                obtain ⟨c2, d2, z2, e2, hb2⟩ := hs1.blk m _ hmm
                rw [hρ0] at e2
                cases e2
                obtain ⟨q1, q2⟩ := hs1.take hmm rfl hρ0 (.deferred none)
                refine ⟨by simp, .inl ⟨c0, setBlk w1 c0 (.deferred none), rfl, ?_, ?_⟩⟩
                · rw [run_takeDeferred hb2]
                  rfl
                · refine ih ds (adel H1 m) _ hm' (fun m' hm'' => ?_) (List.nodup_cons.1 hnd).2 q1 (hE1.trans q2) hdel
                  rw [aget_del, if_neg]
                  · exact hmk m' (by simp [hm''])
                  · rintro rfl; exact (List.nodup_cons.1 hnd).1 hm''
          have hgo := key st1.D a1.defers st1.H w1 hA1.mr hmk hnd hA1.sim hE1 rfl
          rcases he with rfl | rfl <;> exact hgo
        · cases hf
      · cases hf
  · cases hf
end rules
end Go.Proofs.Ytpgelghkjiejlaa
