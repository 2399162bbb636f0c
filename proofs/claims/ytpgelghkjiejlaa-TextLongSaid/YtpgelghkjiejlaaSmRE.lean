/- Regions that draw, run step by step over heaps that are written out. -/
import Derived.Test.YtpgelghkjiejlaaSmRD
set_option linter.unusedVariables false
set_option linter.unusedSimpArgs false
namespace Go.Proofs.Ytpgelghkjiejlaa
open Go
def okH (st : St) (fr fw : List Nat) (n1 : Nat) (R : Heap) : Bool :=
  decide (st.n ≤ n1) && (fr ++ fw).all (fun b => decide (b < st.n)) && fw.all (fun b => match aget st.H b with | some (.row true _) => true | _ => false) && ownB R fw st.n n1
def finH (o : AOper) (st : St) : V × Nat × Heap → Option (DStep × St)
  | (v, n1, R) =>
    if okH st (frR st.T o.op) (fwOp st.T o.op) n1 R then
      some (⟨o.op.slots ++ gslots o.guard, o.dst, frR st.T o.op, fwOp st.T o.op, st.n, n1, v, R⟩, ⟨putT st.T o.dst v, st.D, n1, mergeH st.H (fwOp st.T o.op) st.n n1 R⟩) else none
def stepH (o : AOper) (st : St) : Bool → Option (DStep × St)
  | false => some (⟨gslots o.guard, o.dst, [], [], st.n, st.n, .un, []⟩, ⟨putT st.T o.dst .un, st.D, st.n, st.H⟩)
  | true => (evalOp st.T st.n (restr st.H (frR st.T o.op) (fwOp st.T o.op)) o.op).bind (finH o st)
def consH (s : DStep) : List DStep × St → Option (List DStep × St)
  | (l, st) => some (s :: l, st)
mutual
def runH : List AOper → St → Option (List DStep × St)
  | [], st => some ([], st)
  | o :: os, st => ((guardOf st.T o.guard).bind (stepH o st)).bind (nextH os)
def nextH (os : List AOper) : DStep × St → Option (List DStep × St)
  | (s, st) => (runH os st).bind (consH s)
end
section rules
variable {P : Program} {N : Nat}
theorem okH_ok {st : St} {fr fw : List Nat} {n1 : Nat} {R : Heap} (h : okH st fr fw n1 R = true) : okD st fr fw n1 R := by
  simp only [okH, Bool.and_eq_true, List.all_eq_true, decide_eq_true_eq] at h
  obtain ⟨⟨⟨h1, h2⟩, h3⟩, h4⟩ := h
  refine ⟨h1, h2, fun b hb => ?_, ownB_ok h4⟩
  have := h3 b hb
  split at this
  · rename_i cs hcs; exact ⟨cs, hcs⟩
  · cases this
theorem runH_ok {K : List DStep → St → Prop} : ∀ {l l' : List AOper} {st st' : St} {acc steps : List DStep}, (l.all fun o => o.op.cok) = true → runH l st = some (steps, st') → drawF P l' st' (acc ++ steps) K → drawF P (l ++ l') st acc K := by
  intro l
  induction l with
  | nil => intro l' st st' acc steps _ h hk; simp only [runH, Option.some.injEq, Prod.mk.injEq] at h; obtain ⟨rfl, rfl⟩ := h; simpa using hk
  | cons o os ih =>
    intro l' st st' acc steps hc h hk
    rw [List.cons_append]
    simp only [List.all_cons, Bool.and_eq_true] at hc
    unfold runH at h
    cases hg : guardOf st.T o.guard with
    | none => rw [hg] at h; cases h
    | some b =>
      rw [hg] at h
      cases b with
      | false =>
        simp only [Option.bind_some, stepH, nextH] at h
        cases hr : runH os ⟨putT st.T o.dst .un, st.D, st.n, st.H⟩ with
        | none => rw [hr] at h; cases h
        | some x =>
          obtain ⟨l1, st1⟩ := x
          rw [hr] at h
          simp only [Option.bind_some, consH, Option.some.injEq, Prod.mk.injEq] at h
          obtain ⟨rfl, rfl⟩ := h
          exact drawF_skip hg (ih hc.2 hr (by simpa using hk))
      | true =>
        simp only [Option.bind_some, stepH] at h
        cases hev : evalOp st.T st.n (restr st.H (frR st.T o.op) (fwOp st.T o.op)) o.op with
        | none => rw [hev] at h; cases h
        | some x =>
          obtain ⟨v, n1, R⟩ := x
          rw [hev] at h
          simp only [Option.bind_some, finH] at h
          split at h
          · rename_i hok
            simp only [Option.bind_some, nextH] at h
            cases hr : runH os ⟨putT st.T o.dst v, st.D, n1, mergeH st.H (fwOp st.T o.op) st.n n1 R⟩ with
            | none => rw [hr] at h; cases h
            | some x =>
              obtain ⟨l1, st1⟩ := x
              rw [hr] at h
              simp only [Option.bind_some, consH, Option.some.injEq, Prod.mk.injEq] at h
              obtain ⟨rfl, rfl⟩ := h
              exact drawF_op hg (fun g l hx => by rw [hx] at hev; cases hev) hev hc.1 (okH_ok hok) (ih hc.2 hr (by simpa using hk))
          · cases h
theorem drawF_run (k : Nat) {l : List AOper} {st st' : St} {acc steps : List DStep} {K : List DStep → St → Prop} (hc : ((l.take k).all fun o => o.op.cok) = true) (h : runH (l.take k) st = some (steps, st')) (hk : drawF P (l.drop k) st' (acc ++ steps) K) : drawF P l st acc K := by
  have := runH_ok (P := P) hc h hk
  rwa [List.take_append_drop] at this
theorem drawF_all {l : List AOper} {st st' : St} {acc steps : List DStep} {K : List DStep → St → Prop} (hc : (l.all fun o => o.op.cok) = true) (h : runH l st = some (steps, st')) (hk : K (acc ++ steps) st') : drawF P l st acc K := by
  have := runH_ok (P := P) (l' := []) hc h hk
  rwa [List.append_nil] at this
/-- A call that lays blocks, and looks at none. -/
theorem drawF_callN {o : AOper} {os : List AOper} {st : St} {acc : List DStep} {K : List DStep → St → Prop} {g : AX} {args : List AX} {f : FuncId} {first caps : List V} {v : V} {n1 : Nat} {R : Heap} (hg : guardOf st.T o.guard = some true) (ho : o.op = .call g args) (hgv : g.val st.T = .fn f first caps)
    (hc : ACalls P f (first ++ args.map (·.val st.T) ++ caps) st.n [] (fun v' n' H' => v' = v ∧ n' = n1 ∧ H' = R)) (hn : st.n ≤ n1) (hown : ownB R [] st.n n1 = true) (hin : inDB st.n n1 [] v R = true)
    (h : drawF P os ⟨putT st.T o.dst v, st.D, n1, mergeH st.H [] st.n n1 R⟩ (acc ++ [⟨(AOp.call g args).slots ++ gslots o.guard, o.dst, [], [], st.n, n1, v, R⟩]) K) : drawF P (o :: os) st acc K :=
  drawF_call hg ho hgv (fr := []) (fw := []) hc ⟨hn, by simp, by simp, ownB_ok hown⟩ (inDB_ok hin) h
end rules
theorem AWc.alikeH {P : Program} {N : Nat} {rd : Option Nat} {ac : ACode} {T : Temps} {D : List Nat} {n : Nat} {H H' : Heap} {Q : Exit → St → Prop} (h : ∀ i, aget H i = aget H' i) (a : AWc P N rd ac ⟨T, D, n, H⟩ Q) : AWc P N rd ac ⟨T, D, n, H'⟩ Q :=
  AWc.alike (s := ⟨T, D, n, H⟩) (t := ⟨T, D, n, H'⟩) ⟨fun _ => rfl, rfl, rfl, h⟩ a
theorem callV_yl {P : Program} {l : Nat} {args : List V} {n : Nat} {H : Heap} {K : V → Nat → Heap → Prop} (h : YCalls P l args n H K) : callV P (.yl l) args n H K := h
theorem callV_fn {P : Program} {f : FuncId} {first caps args : List V} {n : Nat} {H : Heap} {K : V → Nat → Heap → Prop} (h : ACalls P f (first ++ args ++ caps) n H K) : callV P (.fn f first caps) args n H K := h
theorem ACalls.enters {P : Program} {f : FuncId} {af : AFun} (hf : prepF P f = some af) (h : True) : EntersF P f := by
  unfold prepF at hf
  split at hf
  · rename_i fn hfn
    split at hf
    · cases hf
    · rename_i hname
      split at hf
      · rename_i c hc
        intro args w
        have hnm : fn.name ≠ "runtime.NumGoroutine" := by simpa using hname
        simp [callFunc, hfn, hnm, hc]
      · cases hf
  · cases hf
/-- Some of what the slots hold is forgotten. -/
theorem AWc.forget {P : Program} {N : Nat} {rd : Option Nat} {ac : ACode} {T T0 : Temps} {D : List Nat} {n : Nat} {H : Heap} {Q : Exit → St → Prop} (hT : (T0.map fun p => aget T p.1) = T0.map fun p => some p.2) (a : AWc P N rd ac ⟨T0, D, n, H⟩ Q) : AWc P N rd ac ⟨T, D, n, H⟩ Q := by
  intro c hp ρ F m x w hF hA
  refine a c hp ρ F m x w hF ⟨⟨hA.tm.1, fun i v hv => hA.tm.2 i v ?_⟩, hA.mr, hA.sim⟩
  have hmem := aget_mem hv
  have := List.map_inj_left.1 hT (i, v) hmem
  exact this
def TReL (φ : Nat → Nat) (m : Nat) : Temps → Temps → Prop
  | [], _ => True
  | (i, v) :: r, T => (∃ v', aget T i = some v' ∧ VRe φ m v v') ∧ TReL φ m r T
theorem TReL.spec {φ : Nat → Nat} {m : Nat} {T : Temps} : ∀ {T0 : Temps}, TReL φ m T0 T → TRe φ m T0 T
  | [], _ => fun i v h => by simp at h
  | (j, u) :: r, h => fun i v hv => by
    rw [aget_cons] at hv
    split at hv
    · rename_i e; cases hv; subst e; exact h.1
    · exact TReL.spec h.2 i v hv
/-- What stood below m is left alone; what came is forgotten. -/
theorem HRe.same {m : Nat} {H0 H' : Heap} (hin : HIn m H0) (h : ∀ b, b < m → aget H' b = aget H0 b) : HRe id m H0 H' :=
  ⟨fun b k hb => ⟨(hin b k hb).1, k, (h b (hin b k hb).1).trans hb, .old (Nat.le_refl _) (fun _ _ => rfl) (hin b k hb).2⟩, fun _ _ _ _ _ _ h => h⟩
theorem VRe.id_of {m : Nat} {v : V} (h : VIn m v) : VRe id m v v := .refl (fun _ _ => rfl) h
theorem HIn.cons' {n : Nat} {H : Heap} {b : Nat} {k : Blk} (hb : b < n) (hk : BIn n k) (h : HIn n H) : HIn n ((b, k) :: H) := fun i u hu => by
  rw [aget_cons] at hu
  split at hu
  · rename_i e; cases hu; subst e; exact ⟨hb, hk⟩
  · exact h i u hu
theorem HIn.nil' (n : Nat) : HIn n [] := fun b k h => by simp at h
attribute [simp] runH nextH stepH finH consH okH ownB merge_none aget_mergeH touch frR AOp.slots gslots xslots AX.slots oslots
end Go.Proofs.Ytpgelghkjiejlaa
