/- Each operation's run (fourth part): equality of structs, make, cuts, addresses, append, copy, clear. -/
import Derived.Test.YtpgelghkjiejlaaSmH
set_option linter.unusedVariables false
set_option linter.unusedSimpArgs false
namespace Go.Proofs.Ytpgelghkjiejlaa
open Go
section ops
variable {pc : PrepC} {P : Program} {ρ : Ren} {n : Nat} {H : Heap} {w : World}

theorem run_eqGuard {op : BinOp} {t : TypeId} {x y : Operand} {a b : Value} (h : (∃ xs, a = .agg xs) → P.eqGuardType P.depth t = false) (hn : a ≠ .nilIface) : (eqGuard op t x y a b).run P w = .ok () w := by
  unfold eqGuard
  have key : ∀ (c : Bool) (X : Sem Unit), X.run P w = .ok () w → (if c = true then pure () else X : Sem Unit).run P w = .ok () w := by
    intro c X hX
    cases c
    · simpa using hX
    · rfl
  refine key _ _ ?_
  split
  · exact absurd rfl hn
  · simp [program, Sem.run, pure, h ⟨_, rfl⟩]
  · rfl

theorem eqKind_ht {t : TypeId} {k : Nat} (h : eqKind P t = some k) : EqT P t k := by
  unfold eqKind at h
  split at h <;> cases h
  · assumption
  · exact ⟨_, by assumption⟩
  · assumption
theorem eqKind_agg {t : TypeId} {k : Nat} (h : eqKind P t = some k) : aggL P t = some false := by
  unfold eqKind at h
  unfold aggL
  split at h <;> simp_all
theorem run_part_one {t : TypeId} {k : Nat} (h : eqKind P t = some k) {cs : Array Value} {off : Nat} {y : Value} (hy : cs[off]? = some y) : (part t cs off).run P w = .ok y w := by
  simp [part, run_aggL (eqKind_agg h), hy]
theorem run_eqAll {d : Nat} {xs' ys' : Array Value} : ∀ {fs : List Field} {off : Nat} {ks : List Nat} {xs ys : List V} {r : Bool}, eqKinds P fs off = some ks → eqAll ks xs ys = some r →
    VRelL ρ xs (xs'.toList.drop off) → VRelL ρ ys (ys'.toList.drop off) → (Op.eqFields (d + 1) xs' ys' fs).run P w = .ok r w := by
  intro fs
  induction fs with
  | nil =>
    intro off ks xs ys r hk he rx ry
    cases hk
    cases xs <;> cases ys <;> simp [eqAll] at he
    subst he
    rfl
  | cons f fs ih =>
    intro off ks xs ys r hk he rx ry
    unfold eqKinds at hk
    split at hk
    · rename_i hc
      obtain ⟨ho, hnm⟩ := hc
      split at hk
      · rename_i k l h1 h2
        cases hk
        cases xs with
        | nil => simp [eqAll] at he
        | cons x xs =>
          cases ys with
          | nil => simp [eqAll] at he
          | cons y ys =>
            unfold eqAll at he
            split at he
            · rename_i a b ha hb
              cases he
              obtain ⟨x', xt, ex, rx1, rx2⟩ := rx.cons_inv
              obtain ⟨y', yt, ey, ry1, ry2⟩ := ry.cons_inv
              have hx : xs'[f.offset]? = some x' := by
                have : (xs'.toList.drop off)[0]? = some x' := by rw [ex]; rfl
                rw [List.getElem?_drop] at this; rw [ho]; simpa using this
              have hy : ys'[f.offset]? = some y' := by
                have : (ys'.toList.drop off)[0]? = some y' := by rw [ey]; rfl
                rw [List.getElem?_drop] at this; rw [ho]; simpa using this
              have hxt : xs'.toList.drop (off + 1) = xt := by
                have := congrArg List.tail ex; simpa [List.tail_drop] using this
              have hyt : ys'.toList.drop (off + 1) = yt := by
                have := congrArg List.tail ey; simpa [List.tail_drop] using this
              have h3 := ih (xs := xs) (ys := ys) h2 hb (hxt ▸ rx2) (hyt ▸ ry2)
              rw [Op.eqFields]
              simp only [if_pos hnm, Sem.run_bind, run_part_one h1 hx, run_part_one h1 hy, Result.andThen_ok, run_eqOne (P := P) (w := w) (d := d) rx1 ry1 ha (eqKind_ht h1)]
              cases a
              · simp
              · simpa using h3
            · cases he
      · cases hk
    · cases hk
theorem gets_eqs (s : Sim pc ρ n H w) {op : BinOp} {t : TypeId} {g : Bool} {ks : List Nat} (hg : negOf op = some g) (hk : eqStructT P t = some ks) {x y : V} {x' y' : Value} (rx : VRel ρ x x') (ry : VRel ρ y y') {v : V} {n' : Nat} {H' : Heap} {o1 o2 : Operand}
    (ev : keep n H (evEqs g ks x y) = some (v, n', H')) : Gets pc P ρ n H w (do eqGuard op t o1 o2 x' y'; binOp op t x' y') v n' H' := by
  obtain ⟨e, rfl, rfl⟩ := keep_inv ev
  unfold eqStructT at hk
  split at hk
  · rename_i fs ht
    split at hk
    · rename_i hc
      simp only [Bool.and_eq_true, Bool.not_eq_true'] at hc
      unfold evEqs at e
      split at e
      · obtain ⟨r, hr, rfl⟩ := Option.map_eq_some_iff.1 e
        obtain ⟨xs', rfl, rx1⟩ := VRelL.of_ag rx
        obtain ⟨ys', rfl, ry1⟩ := VRelL.of_ag ry
        have hf : P.fieldsOf t = fs := by simp [Program.fieldsOf, ht]
        have h1 : (Op.equal t (.agg xs') (.agg ys')).run P w = .ok r w := by
          unfold Op.equal
          rw [show Op.maxDepth = 9998 + 1 + 1 from rfl, run_equalIn_struct (P := P) w _ t _ _ (by rw [hf]; exact ht) hc.1, hf]
          exact run_eqAll (off := 0) hk hr (by simpa using rx1) (by simpa using ry1)
        refine .pure s (y := .bool (if g then !r else r)) ?_ (.b _)
        simp only [Sem.run_bind, run_eqGuard (P := P) (w := w) (a := .agg xs') (b := .agg ys') (fun _ => hc.2) (by simp), Result.andThen_ok]
        cases op <;> simp [negOf] at hg <;> subst hg <;> simp [binOp, h1]
      · cases e
    · cases hk
  · cases hk
theorem gets_eq1 (s : Sim pc ρ n H w) {op : BinOp} {t : TypeId} {g : Bool} {k : Nat} (hg : negOf op = some g) (hk : k = 0 ∨ k = 3 ∨ k = 4 ∨ k = 5) (ht : EqT P t k) {x y : V} {x' y' : Value} (rx : VRel ρ x x') (ry : VRel ρ y y') {v : V} {n' : Nat} {H' : Heap} {o1 o2 : Operand}
    (ev : keep n H (evEq1 g k x y) = some (v, n', H')) : Gets pc P ρ n H w (do eqGuard op t o1 o2 x' y'; binOp op t x' y') v n' H' := by
  obtain ⟨e, rfl, rfl⟩ := keep_inv ev
  obtain ⟨r, hr, rfl⟩ := Option.map_eq_some_iff.1 e
  have h1 : (Op.equal t x' y').run P w = .ok r w := run_eqOne (P := P) (w := w) (d := 9999) rx ry hr ht
  refine .pure s (y := .bool (if g then !r else r)) ?_ (.b _)
  have hna : (∀ xs, x' ≠ .agg xs) ∧ x' ≠ .nilIface ∧ (op = .eql → binOp op t x' y' = (do pure (.bool (← Op.equal t x' y')))) ∧ (op = .neq → binOp op t x' y' = (do pure (.bool (!(← Op.equal t x' y'))))) := by
    clear ht h1 e
    unfold eqOne at hr
    split at hr
    all_goals first
      | (cases hr; done)
      | (simp at hk; done)
      | (cases rx; cases ry; exact ⟨by simp, by simp, by rintro rfl; rfl, by rintro rfl; rfl⟩)
  simp only [Sem.run_bind, run_eqGuard (P := P) (w := w) (fun ⟨xs, hx⟩ => absurd hx (hna.1 xs)) hna.2.1, Result.andThen_ok]
  cases op <;> simp [negOf] at hg <;> subst hg
  · rw [hna.2.2.1 rfl]; simp [h1]
  · rw [hna.2.2.2 rfl]; simp [h1]
theorem gets_un (s : Sim pc ρ n H w) {op : UnOp} {x : V} {x' : Value} (rx : VRel ρ x x') {v : V} {n' : Nat} {H' : Heap} (ev : keep n H (evUn op x) = some (v, n', H')) : Gets pc P ρ n H w (Op.unary op x') v n' H' := by
  obtain ⟨e, rfl, rfl⟩ := keep_inv ev
  unfold evUn at e
  split at e
  · cases b_inv rx
    cases op <;> first | (simp at e; done) | (cases e; exact .pure s (y := .bool _) rfl (.b _))
  · cases i_inv rx
    cases op <;> first | (simp at e; done) | (cases e; exact .pure s (y := .int _ _) rfl (.i _ _))
  · cases e
end ops
end Go.Proofs.Ytpgelghkjiejlaa
