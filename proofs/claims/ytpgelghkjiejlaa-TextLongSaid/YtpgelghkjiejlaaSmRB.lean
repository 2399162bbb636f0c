/- Regions that draw, where no operation lays anything; pure calls; names for the work on functions. -/
import Derived.Test.YtpgelghkjiejlaaSmRA
set_option linter.unusedVariables false
set_option linter.unusedSimpArgs false
namespace Go.Proofs.Ytpgelghkjiejlaa
open Go

/-- A call that answers v, and after which everything that stood stands, and nothing else. -/
def Pure (P : Program) (f : FuncId) (args : List V) (n : Nat) (H : Heap) (v : V) : Prop := ACalls P f args n H fun v' n' H' => v' = v ∧ n' = n ∧ H' = H

section rules
variable {P : Program} {N : Nat}
def drawP (P : Program) : List AOper → St → (St → Prop) → Prop
  | [], st, K => K st
  | o :: os, st, K =>
    match guardOf st.T o.guard with
    | some false => drawP P os ⟨putT st.T o.dst .un, st.D, st.n, st.H⟩ K
    | some true =>
      match o.op with
      | .call g args =>
        match g.val st.T with
        | .fn f first caps => ∃ fr v, (∀ b ∈ fr, b < st.n) ∧ Pure P f (first ++ args.map (·.val st.T) ++ caps) st.n (restr st.H fr []) v ∧ VIn st.n v ∧ drawP P os ⟨putT st.T o.dst v, st.D, st.n, st.H⟩ K
        | _ => False
      | op => ∃ fr v, (∀ b ∈ fr, b < st.n) ∧ evalOp st.T st.n (restr st.H fr []) op = some (v, st.n, restr st.H fr []) ∧ op.cok = true ∧ drawP P os ⟨putT st.T o.dst v, st.D, st.n, st.H⟩ K
    | none => False
theorem merge_none (H R : Heap) (n : Nat) : mergeH H [] n n R = H := by
  have h1 : R.filter (fun x => touch [] n n x.1) = [] := by
    rw [List.filter_eq_nil_iff]
    intro x _
    simp [touch]
  have h2 : H.filter (fun x => !touch [] n n x.1) = H := List.filter_eq_self.2 fun x _ => by simp [touch]; omega
  simp [mergeH, h1, h2]
theorem touch_none (n b : Nat) : ¬ touch [] n n b = true := by simp [touch]
theorem drawP_F {K : St → Prop} : ∀ {l : List AOper} {st : St} {acc : List DStep}, drawP P l st K → drawF P l st acc fun steps s => ∃ more, steps = acc ++ more ∧ stepsOf more l ∧ (∀ t ∈ more, heavy t = false) ∧ K s := by
  intro l
  induction l with
  | nil => intro st acc h; exact ⟨[], by simp, trivial, by simp, h⟩
  | cons o os ih =>
    intro st acc h
    have hgo : ∀ (s0 : DStep) (st' : St), stepOf s0 o → heavy s0 = false → drawP P os st' K → drawF P os st' (acc ++ [s0]) fun steps s => ∃ more, steps = acc ++ more ∧ stepsOf more (o :: os) ∧ (∀ t ∈ more, heavy t = false) ∧ K s := by
      intro s0 st' h1 h2 h3
      refine drawF_mono ?_ (ih h3)
      rintro a s ⟨more, rfl, g1, g2, g3⟩
      refine ⟨s0 :: more, by simp, ⟨h1, g1⟩, ?_, g3⟩
      intro t ht
      rcases List.mem_cons.1 ht with rfl | ht
      · exact h2
      · exact g2 t ht
    have hl : ∀ rs fr v R, heavy ⟨rs, o.dst, fr, [], st.n, st.n, v, R⟩ = false := fun rs fr v R => by simp [heavy]
    unfold drawP at h
    split at h
    · rename_i hg
      exact drawF_skip hg (hgo _ _ ⟨fun t ht => by simpa using Or.inr ht, rfl, Nat.le_refl _⟩ (hl _ _ _ _) h)
    · rename_i hg
      split at h
      · rename_i g args hop
        split at h
        · rename_i f first caps hgv
          obtain ⟨fr, v, h1, h2, h3, h4⟩ := h
          refine drawF_call hg hop hgv (fr := fr) (fw := []) (v := v) (n1 := st.n) (R := restr st.H fr []) h2 ?_ ⟨h3, fun p _ ht => absurd ht (touch_none _ _)⟩ ?_
          · exact ⟨Nat.le_refl _, fun b hb => h1 b (by simpa using hb), fun b hb => by simp at hb, fun p _ ht => absurd ht (touch_none _ _)⟩
          · rw [merge_none]
            exact hgo _ _ ⟨fun t ht => by rw [hop]; exact ht, rfl, Nat.le_refl _⟩ (hl _ _ _ _) h4
        · exact h.elim
      · rename_i hnc
        obtain ⟨fr, v, h1, h2, h3, h4⟩ := h
        refine drawF_op hg (fun g l hx => hnc g l hx) (fr := fr) (fw := []) (v := v) (n1 := st.n) (R := restr st.H fr []) h2 h3 ?_ ?_
        · exact ⟨Nat.le_refl _, fun b hb => h1 b (by simpa using hb), fun b hb => by simp at hb, fun p _ ht => absurd ht (touch_none _ _)⟩
        · rw [merge_none]
          exact hgo _ _ ⟨fun t ht => ht, rfl, Nat.le_refl _⟩ (hl _ _ _ _) h4
    · exact h.elim
/-- A region that draws its order, where no operation lays anything. -/
theorem AWc.drawP {rd : Option Nat} {st : St} {Q : Exit → St → Prop} {b : List Nat} {l : List AOper} (hs : slotsOk b l 0 l = true) (h : Go.Proofs.Ytpgelghkjiejlaa.drawP P l st (Q .normal)) : AWc P N rd (.ops (some b) l) st Q := by
  refine .draw (drawF_mono ?_ (drawP_F (acc := []) h))
  rintro steps s ⟨more, rfl, h1, h2, h3⟩
  refine ⟨?_, h3⟩
  refine compat_ok h1 hs ?_
  have : ∀ (l : List DStep) (k : Nat), (∀ t ∈ l, heavy t = false) → heapOk b steps k l = true := by
    intro l
    induction l with
    | nil => intro k _; rfl
    | cons s0 l ih =>
      intro k hk
      simp only [heapOk, Bool.and_eq_true]
      refine ⟨by rw [hk s0 (by simp)]; rfl, ih _ fun t ht => hk t (by simp [ht])⟩
  exact this steps 0 h2
section one
variable {o : AOper} {os : List AOper} {st : St} {K : St → Prop}
theorem drawP_skip (hg : guardOf st.T o.guard = some false) (h : Go.Proofs.Ytpgelghkjiejlaa.drawP P os ⟨putT st.T o.dst .un, st.D, st.n, st.H⟩ K) : Go.Proofs.Ytpgelghkjiejlaa.drawP P (o :: os) st K := by
  unfold Go.Proofs.Ytpgelghkjiejlaa.drawP; rw [hg]; exact h
theorem drawP_call (fr : List Nat) {g : AX} {args : List AX} {f : FuncId} {first caps : List V} {v : V} (hg : guardOf st.T o.guard = some true) (ho : o.op = .call g args) (hgv : g.val st.T = .fn f first caps)
    (hc : Pure P f (first ++ args.map (·.val st.T) ++ caps) st.n (restr st.H fr []) v) (hfr : ∀ b ∈ fr, b < st.n) (hv : VIn st.n v) (h : Go.Proofs.Ytpgelghkjiejlaa.drawP P os ⟨putT st.T o.dst v, st.D, st.n, st.H⟩ K) : Go.Proofs.Ytpgelghkjiejlaa.drawP P (o :: os) st K := by
  unfold Go.Proofs.Ytpgelghkjiejlaa.drawP; rw [hg, ho]; simp only [hgv]; exact ⟨fr, v, hfr, hc, hv, h⟩
theorem drawP_op (fr : List Nat) {v : V} (hg : guardOf st.T o.guard = some true) (ho : o.op.isCall = false) (hev : evalOp st.T st.n (restr st.H fr []) o.op = some (v, st.n, restr st.H fr [])) (hfr : ∀ b ∈ fr, b < st.n) (hc : o.op.cok = true)
    (h : Go.Proofs.Ytpgelghkjiejlaa.drawP P os ⟨putT st.T o.dst v, st.D, st.n, st.H⟩ K) : Go.Proofs.Ytpgelghkjiejlaa.drawP P (o :: os) st K := by
  unfold Go.Proofs.Ytpgelghkjiejlaa.drawP; rw [hg]
  simp only
  split
  · rename_i heq; rw [heq] at ho; cases ho
  · exact ⟨fr, v, hfr, hev, hc, h⟩
theorem opsF_cons_op {v : V} {n' : Nat} {H' : Heap} (hg : guardOf st.T o.guard = some true) (ho : o.op.isCall = false) (hev : evalOp st.T st.n st.H o.op = some (v, n', H')) (h : opsF P os ⟨putT st.T o.dst v, st.D, n', H'⟩ K) : opsF P (o :: os) st K :=
  opsF_op hg (fun g l hx => by rw [hx] at ho; cases ho) hev h
theorem opsF_cons_call {g : AX} {args : List AX} {f : FuncId} {first caps : List V} {v : V} (hg : guardOf st.T o.guard = some true) (ho : o.op = .call g args) (hgv : g.val st.T = .fn f first caps)
    (hc : Pure P f (first ++ args.map (·.val st.T) ++ caps) st.n st.H v) (h : opsF P os ⟨putT st.T o.dst v, st.D, st.n, st.H⟩ K) : opsF P (o :: os) st K := by
  refine opsF_call hg ho ?_
  rw [hgv]
  refine ACalls.mono hc ?_
  rintro _ _ _ ⟨rfl, rfl, rfl⟩
  exact h
theorem opsF_nil (h : K st) : opsF P [] st K := h
theorem drawP_nil (h : K st) : Go.Proofs.Ytpgelghkjiejlaa.drawP P [] st K := h
end one
/-- A function of which neither the arguments nor the answer name blocks. -/
theorem Pure.of0 {f : FuncId} {args : List V} {v : V} (h : ACalls P f args 0 [] fun v' _ _ => v' = v) (ha : ∀ x ∈ args, VIn 0 x) (hv : VIn 0 v) (n : Nat) (H : Heap) : Pure P f args n H v :=
  ACalls.frame0 (K := fun v' => v' = v) (h.mono fun v' n' H' e => ⟨e, e ▸ hv⟩) ha n H
theorem Pure.of_drop {f : FuncId} {args : List V} {n : Nat} {H : Heap} {v : V} (h : ACalls P f args n H fun v' n' H' => v' = v ∧ ∀ b k, aget H b = some k → aget H' b = some k) (hv : VIn n v) : Pure P f args n H v :=
  h.drop fun v' n' H' hk => ⟨hk.1, hv, hk.2⟩
/-- A function without defers, entered. -/
theorem ACalls.enter0 {f : FuncId} {af : AFun} (hf : prepF P f = some af) {args : List V} {n : Nat} {H : Heap} {K : V → Nat → Heap → Prop} (hn : args.length ≤ af.N)
    (h : AWc P af.N none af.body ⟨argsT 0 args, [], n, H⟩ fun e st => (e = .normal ∨ e = .ret) ∧ st.D = [] ∧ ∃ vs, resAll st.T st.H af.res = some vs ∧ K (resV vs) st.n st.H) :
    ACalls P f args n H K :=
  .enter hf hn (h.conseq fun e st ⟨h1, h2, vs, h3, h4⟩ => by
    refine ⟨h1, by simp [h2], by simp [h2], vs, ?_, ?_⟩
    · rw [h2]; exact h3
    · rw [h2]; exact h4)
end rules
end Go.Proofs.Ytpgelghkjiejlaa
