/- A range over a function. -/
import Derived.Test.YtpgelghkjiejlaaSmP
set_option linter.unusedVariables false
set_option linter.unusedSimpArgs false
namespace Go.Proofs.Ytpgelghkjiejlaa
open Go
section rules
variable {P : Program} {N : Nat}
theorem prepC_rangeF {c : Code} {g : AX} {ps : List Nat} {x y : ACode} (h : prepC P N c = some (.rangeF g ps x y)) : ∃ f ps' a b, c = .rangeFunc f ps' a b ∧ prepX f = some g ∧ ps'.toList = ps ∧ prepC P N a = some x ∧ prepC P N b = some y ∧ ∀ d ∈ ps, d < N := by
  cases c with
  | rangeFunc f ps' a b =>
    simp only [prepC] at h
    split at h
    · rename_i f' x' y' h1 h2 h3
      split at h
      · rename_i hd
        cases h
        refine ⟨f, ps', a, b, rfl, h1, rfl, h2, h3, fun d hd' => ?_⟩
        have := List.all_eq_true.1 hd d hd'
        simpa using this
      · cases h
    · cases h
  | region id ops draw => simp only [prepC] at h; split at h <;> (try (split at h)) <;> (try (split at h)) <;> simp at h
  | _ => simp only [prepC] at h <;> (try (split at h)) <;> (try (split at h)) <;> (try (cases h; done)) <;> (simp at h)

/-- What is asked when the function that was ranged over has ended: the record l is not busy; the jump that is pending is made. -/
def endF (l : Nat) (st : St) (Q : Exit → St → Prop) (n' : Nat) (H' : Heap) : Prop :=
  ∃ r, aget H' l = some (.loop r) ∧ r.st ≠ .busy ∧
    match r.pend with
    | none => Q .normal { st with n := n', H := adel H' l }
    | some .ret => Q .ret { st with n := n', H := adel H' l }
    | some (.exit id) => Q (.exit id) { st with n := n', H := adel H' l }

theorem rangeF_end {rd : Option Nat} {st st1 : St} {Q : Exit → St → Prop} {fid : FuncId} {args : List V} {l n1 : Nat} {H1 : Heap} {ρ ρ1 : Ren} {F : Fence} {m : Nat} {a' : Act} {w w1 : World} {cl : Nat} {args' : Array Value} (hF : FRel ρ1 rd F)
    (hcall : ACalls P fid args n1 H1 (fun _ n' H' => endF l st1 Q n' H')) (hs : Sim (prepC P) ρ1 n1 H1 w1) (hE : Ext ρ st.n st.H w ρ1 n1 H1 w1) (hr : VRelL ρ1 args args'.toList) (htm : TRel ρ1 N st1.T a'.tmps) (hmk : MRel ρ1 st1.D a'.defers)
    {d z : Nat} (hl : ρ1 l = some (cl, d, z)) : CallsIn F (m - 1) P fid args' w1 (rangePost F m P cl (Post P N ρ st w Q) a') := by
  have h0 := (callsIn_wide (n := m - 1)).2 (hcall.2 ρ1 w1 args' hs hr)
  have hmono : ∀ e w', (∃ v n' H' ρ' y, endF l st1 Q n' H' ∧ e = Ending.returned y ∧ VRel ρ' v y ∧ Sim (prepC P) ρ' n' H' w' ∧ Ext ρ1 n1 H1 w1 ρ' n' H' w') → rangePost F m P cl (Post P N ρ st w Q) a' e w' := by
    rintro e w3 ⟨v, n', H', ρ', y, ⟨r, hb, hst, hj⟩, rfl, hv, hs3, hE3⟩
    have hl3 := hE3.ren _ _ hl
    obtain ⟨c3, d3, z3, e3, L, hL, lr⟩ := hs3.blk l _ hb
    rw [hl3] at e3
    cases e3
    have hne : L.state ≠ .busy := by rw [lr.st]; exact hst
    have hend := run_endLoop (P := P) hL hne
    obtain ⟨q1, q2⟩ := hs3.take hb rfl hl3 (.loop { L with state := .exhausted })
    have hEE := (hE.trans hE3).trans q2
    have hA : ARel P ρ' N { st1 with n := n', H := adel H' l } a' (setBlk w3 cl (.loop { L with state := .exhausted })) := ⟨htm.mono hE3.ren, hmk.mono hE3.ren, q1⟩
    refine ⟨L.pending, setBlk w3 cl (.loop { L with state := .exhausted }), hend, ?_⟩
    generalize setBlk w3 cl (.loop { L with state := .exhausted }) = w4 at hA hEE
    rw [lr.pend]
    cases hp : r.pend with
    | none => rw [hp] at hj; exact ⟨_, ρ', hj, hA, hEE⟩
    | some j =>
      rw [hp] at hj
      cases j with
      | ret => exact wpIn_ret ⟨_, ρ', hj, hA, hEE⟩
      | exit id => exact wpIn_exit ⟨_, ρ', hj, hA, hEE⟩
  have h1 := CallsIn.mono h0 hmono
  cases rd with
  | none => cases hF; exact h1
  | some l0 => obtain ⟨c0, d0, z0, _, rfl⟩ := hF; exact h1

theorem fnv_inv {ρ : Ren} {fid : FuncId} {first caps : List V} {y : Value} (h : VRel ρ (.fn fid first caps) y) : ∃ ys vs, y = .func (.func fid) ys vs ∧ VRelL ρ first ys.toList ∧ VRelL ρ caps vs.toList := by
  cases h with
  | fn hl h1 hl' h2 => exact ⟨_, _, rfl, .of_array hl h1, .of_array hl' h2⟩
/-- 'for .. := range g { .. }' outside any round. -/
theorem AWc.rangeF_top {st : St} {Q : Exit → St → Prop} {g : AX} {ps : List Nat} {x y : ACode} {fid : FuncId} {first caps : List V} (hg : g.val st.T = .fn fid first caps)
    (h : ACalls P fid (first ++ [.yl (st.n + 1)] ++ caps) (st.n + 2) ((st.n + 1, .loop ⟨.ready, none, N, st.T, ps, x, y, st.n⟩) :: (st.n, .marks) :: st.H) fun _ n' H' => endF (st.n + 1) { st with D := st.n :: st.D } Q n' H') :
    AWc P N none (.rangeF g ps x y) st Q := by
  intro c hp ρ F m a w hF hA
  obtain ⟨f, ps', c1, c2, rfl, h1, hps, h3, h4, _⟩ := prepC_rangeF hp
  cases hF
  have hgv := prepX_rel hA.tm h1
  rw [hg] at hgv
  obtain ⟨ys, vs, hfv, r1, r2⟩ := fnv_inv hgv
  refine wpIn_rangeFunc fun fn _ => ?_
  -- the two blocks
  obtain ⟨a1, a2, a3, a4⟩ := hA.sim.alloc .marks (.deferred (some [])) 0 rfl (fun ρ' _ _ => pushW_new w _)
  have hsz1 : (pushW w (.deferred (some []))).heap.size = w.heap.size + 1 := by simp [pushW]
  obtain ⟨b1, b2, b3, b4⟩ := a3.alloc (.loop ⟨.ready, none, N, st.T, ps, x, y, st.n⟩) (.loop { state := .ready, pending := none, fn, tmps := a.tmps, params := ps', assign := c1, body := c2, defers := w.heap.size }) 0 rfl (fun ρ' hle hn =>
    ⟨_, pushW_new _ _, ⟨rfl, rfl, hA.tm.mono (a1.trans hle), hps, h3, h4, ⟨0, 0, hle _ _ a2⟩⟩⟩)
  rw [hsz1] at b1 b2 b3 b4
  have hE := a4.trans b4
  have hle := a1.trans b1
  have hent := run_enterLoop_outer (P := P) (w := w) fn a.tmps ps' c1 c2
  obtain ⟨W, hW⟩ : ∃ W, pushW (pushW w (.deferred (some []))) (.loop { state := .ready, pending := none, fn, tmps := a.tmps, params := ps', assign := c1, body := c2, defers := w.heap.size }) = W := ⟨_, rfl⟩
  have hent' : (Instr.enterLoop fn a.tmps ps' c1 c2 none).run P w = .ok (w.heap.size + 1, [{ target := .collected w.heap.size, args := #[] }]) W := by rw [← hW]; exact hent
  rw [hW] at b3 hE
  refine ⟨w.heap.size + 1, [{ target := .collected w.heap.size, args := #[] }], W, { target := .fn (.func fid) vs, args := ys ++ #[.func (.yield (w.heap.size + 1)) #[] #[]] }, W, fid, ys ++ #[.func (.yield (w.heap.size + 1)) #[] #[]] ++ vs, W, hent', ?_, fun _ _ => trivial, ?_, (fun hd => by cases hd), ?_⟩
  · simp only [resolve, rangeCall, hfv, Deferred.ofValue, Sem.run_pure]
    simp [Act.eval]
  · simp only [invoke]
    exact h.1 _ _
  · refine rangeF_end (rd := none) (st1 := { st with D := st.n :: st.D }) rfl h b3 hE ?_ (hA.tm.mono hle) ⟨⟨_, _, _, b1 _ _ a2, rfl⟩, hA.mr.mono hle⟩ b2
    simp only [Array.toList_append]
    exact ((r1.mono hle).append (.one (.yl b2))).append (r2.mono hle)
/-- The same within a round of the loop l₀. -/
theorem AWc.rangeF_in {l₀ : Nat} {r₀ : ALoop} {st : St} {Q : Exit → St → Prop} {g : AX} {ps : List Nat} {x y : ACode} {fid : FuncId} {first caps : List V} (hl₀ : aget st.H l₀ = some (.loop r₀)) (hg : g.val st.T = .fn fid first caps)
    (h : ACalls P fid (first ++ [.yl st.n] ++ caps) (st.n + 1) ((st.n, .loop ⟨.ready, none, N, st.T, ps, x, y, r₀.marks⟩) :: st.H) fun _ n' H' => endF st.n st Q n' H') :
    AWc P N (some l₀) (.rangeF g ps x y) st Q := by
  intro c hp ρ F m a w hF hA
  obtain ⟨f, ps', c1, c2, rfl, h1, hps, h3, h4, _⟩ := prepC_rangeF hp
  obtain ⟨c0, d0, z0, hρ0, rfl⟩ := hF
  have hgv := prepX_rel hA.tm h1
  rw [hg] at hgv
  obtain ⟨ys, vs, hfv, r1, r2⟩ := fnv_inv hgv
  obtain ⟨c0', d0', z0', e0, L₀, hL₀, lr₀⟩ := hA.sim.blk l₀ _ hl₀
  rw [hρ0] at e0
  cases e0
  refine wpIn_rangeFunc fun fn _ => ?_
  obtain ⟨dm, zm, hm⟩ := lr₀.marks
  obtain ⟨b1, b2, b3, b4⟩ := hA.sim.alloc (.loop ⟨.ready, none, N, st.T, ps, x, y, r₀.marks⟩) (.loop { state := .ready, pending := none, fn, tmps := a.tmps, params := ps', assign := c1, body := c2, defers := L₀.defers }) 0 rfl (fun ρ' hle hn =>
    ⟨_, pushW_new _ _, ⟨rfl, rfl, hA.tm.mono hle, hps, h3, h4, ⟨dm, zm, hle _ _ hm⟩⟩⟩)
  have hent : (Instr.enterLoop fn a.tmps ps' c1 c2 (some c0)).run P w = .ok (w.heap.size, []) (pushW w (.loop { state := .ready, pending := none, fn, tmps := a.tmps, params := ps', assign := c1, body := c2, defers := L₀.defers })) := by
    unfold Instr.enterLoop
    simp only [Sem.run_bind, run_getLoop hL₀, Result.andThen_ok, Sem.run_pure]
    simp [newObj, Sem.run, pushW]
  obtain ⟨W, hW⟩ : ∃ W, pushW w (.loop { state := .ready, pending := none, fn, tmps := a.tmps, params := ps', assign := c1, body := c2, defers := L₀.defers }) = W := ⟨_, rfl⟩
  rw [hW] at b3 b4 hent
  refine ⟨w.heap.size, [], W, { target := .fn (.func fid) vs, args := ys ++ #[.func (.yield w.heap.size) #[] #[]] }, W, fid, ys ++ #[.func (.yield w.heap.size) #[] #[]] ++ vs, W, hent, ?_, fun _ _ => trivial, ?_, (fun hd => by cases hd), ?_⟩
  · simp only [resolve, rangeCall, hfv, Deferred.ofValue, Sem.run_pure]
    simp [Act.eval]
  · simp only [invoke]
    exact h.1 _ _
  · refine rangeF_end (rd := some l₀) (st1 := st) ⟨c0, d0, z0, b1 _ _ hρ0, rfl⟩ h b3 b4 ?_ (hA.tm.mono b1) (hA.mr.mono b1) b2
    simp only [Array.toList_append]
    exact ((r1.mono b1).append (.one (.yl b2))).append (r2.mono b1)
end rules
end Go.Proofs.Ytpgelghkjiejlaa
