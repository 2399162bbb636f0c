/- awake: the chapter's examples hold. -/
import Derived.Test.YtpgelghkjiejlaaCk
set_option linter.unusedVariables false
set_option linter.unusedSimpArgs false
set_option maxRecDepth 4000
namespace Go.Proofs.Ytpgelghkjiejlaa
open Go
attribute [local irreducible] fontC

theorem Pure.frame {P : Program} {f : FuncId} {args : List V} {n : Nat} {H : Heap} {fr : List Nat} {v : V} (h : Pure P f args n (restr H fr []) v) : Pure P f args n H v := by
  refine (ACalls.frame (fw := []) h ?_).mono ?_
  · rintro v n1 R ⟨rfl, rfl, rfl⟩ b k ht _
    exact absurd ht (touch_none _ _)
  · rintro v n1 H' ⟨R, ⟨rfl, rfl, rfl⟩, rfl⟩
    exact ⟨rfl, rfl, merge_none _ _ _⟩
theorem region_of (r : RGot) (h : isReg r = true) (hr : (runAll known1 tabF 300).call 16 [.ag (fontC false), .i .i64 0, .i .i64 5, .s [65]] 1 .lf = r) : ACalls Try.prog 16 [.ag (fontC false), .i .i64 0, .i .i64 5, .s [65]] 1 [] fun v n' H' => v = .ag [.sl 1 0 4 6 true] ∧ n' = 2 ∧ H' = [(1, .row true (regI.map (V.i .i64)))] := by
  unfold isReg at h
  split at h
  · rename_i n' H'
    have hrow := rowIs_ok h
    refine (call_ok _ _ _ _ _ _ _ hr [] (fun _ => rfl)).weakenR ?_
    rintro v n1 H1 ⟨rfl, rfl, h3⟩
    refine ⟨fun b => if b = 1 then 470 else b, .ag [.sl 1 0 4 6 true], 2, [(1, .row true (regI.map (V.i .i64)))], fun b hb => if_neg (by omega), by omega, .agL ⟨VRe.sl (φ := fun b => if b = 1 then 470 else b) (id := 1) (by omega) (fun h => h), trivial⟩, ⟨fun b k hb => ?_, fun b1 b2 k1 k2 h1 h2 _ => ?_⟩, rfl, rfl, rfl⟩
    · obtain ⟨rfl, rfl⟩ := aget_one hb
      refine ⟨by omega, _, (h3 470).trans hrow, .row (fun h => h) ((VReL.refl (m := 0) (fun b hb => by omega) ?_).mono (by omega))⟩
      intro x hx
      obtain ⟨m, _, rfl⟩ := List.mem_map.1 hx
      exact .i _ _
    · rw [(aget_one h1).1, (aget_one h2).1]
  · cases h
theorem region_ok : ACalls Try.prog 16 [.ag (fontC false), .i .i64 0, .i .i64 5, .s [65]] 1 [] fun v n' H' => v = .ag [.sl 1 0 4 6 true] ∧ n' = 2 ∧ H' = [(1, .row true (regI.map (V.i .i64)))] := region_of _ run_region rfl
theorem regH_like (H : Heap) (o : Bool) (h : aget H 1 = some (.row o (regI.map (V.i .i64)))) (i : Nat) : aget (restr H [1] []) i = regH.get i := by
  unfold regH
  rw [Tr.get_ofL]
  simp [h]
theorem area_pure (H : Heap) (o : Bool) (h1 : aget H 1 = some (.row o (regI.map (V.i .i64)))) : Pure Try.prog 23 [.ag [.sl 1 0 4 6 true]] 3 H (.i .i64 10) := by
  have h := run_area
  generalize hr : (runAll known1 tabF 300).call 23 [.ag [.sl 1 0 4 6 true]] 3 regH = r at h
  unfold isInt at h
  split at h
  · rename_i v n' H'
    simp only [Bool.and_eq_true] at h
    obtain ⟨hv, hrow⟩ := h
    have hrow := rowIs_ok hrow
    have hv : v = .i .i64 10 := by
      cases v <;> simp [int64] at hv
      rename_i k n
      cases k <;> simp [int64] at hv
      rw [hv]
    subst hv
    refine Pure.frame (fr := [1]) (Pure.of_drop ((call_ok _ _ _ _ _ _ _ hr _ (regH_like H o h1)).mono ?_) (.i _ _))
    rintro a b c ⟨rfl, rfl, h3⟩
    refine ⟨rfl, fun i k hi => ?_⟩
    rw [regH_like H o h1] at hi
    rw [h3]
    unfold regH at hi
    rw [Tr.get_ofL] at hi
    obtain ⟨rfl, rfl⟩ := aget_one hi
    exact hrow
  · cases h
theorem has_pure (H : Heap) (o : Bool) (h1 : aget H 1 = some (.row o (regI.map (V.i .i64)))) (x y : Int) (t : Bool) (h : isBool t ((runAll known1 tabF 300).call 21 [.ag [.sl 1 0 4 6 true], .i .i64 x, .i .i64 y] 3 regH) = true) :
    Pure Try.prog 21 [.ag [.sl 1 0 4 6 true], .i .i64 x, .i .i64 y] 3 H (.b t) := by
  generalize hr : (runAll known1 tabF 300).call 21 [.ag [.sl 1 0 4 6 true], .i .i64 x, .i .i64 y] 3 regH = r at h
  unfold isBool at h
  split at h
  · rename_i v n' H'
    simp only [Bool.and_eq_true, beq_iff_eq] at h
    obtain ⟨rfl, hrow⟩ := h
    have hrow := rowIs_ok hrow
    refine Pure.frame (fr := [1]) (Pure.of_drop ((call_ok _ _ _ _ _ _ _ hr _ (regH_like H o h1)).mono ?_) (.b _))
    rintro a b c ⟨rfl, rfl, h3⟩
    refine ⟨rfl, fun i k hi => ?_⟩
    rw [regH_like H o h1] at hi
    rw [h3]
    unfold regH at hi
    rw [Tr.get_ofL] at hi
    obtain ⟨rfl, rfl⟩ := aget_one hi
    exact hrow
  · cases h
theorem box_pure (n : Nat) (H : Heap) : Pure Try.prog 15 [.ag (fontC false), .i .i64 0, .i .i64 5, .s [65]] n H (.ag [.i .i64 0, .i .i64 0, .i .i64 4, .i .i64 6]) := by
  have h := run_box
  generalize hr : (runAll known1 tabF 300).call 15 [.ag (fontC false), .i .i64 0, .i .i64 5, .s [65]] 0 .lf = r at h
  unfold isBox at h
  split at h
  · rename_i l n' H'
    split at h
    · rename_i m hm
      have : m = [0, 0, 4, 6] := by simpa using h
      subst this
      have hl := ints_ok hm
      subst hl
      refine .of0 ((call_ok _ _ _ _ _ _ _ hr [] (fun _ => rfl)).mono ?_) ?_ (.ag (by simp [VIn.i])) n H
      · rintro a b c ⟨rfl, _, _⟩
        rfl
      · intro x hx
        simp at hx
        rcases hx with rfl | rfl | rfl | rfl
        · exact ag_in
        · exact .i _ _
        · exact .i _ _
        · exact .s _
    · cases h
  · cases h
theorem awake_ok : ACalls Try.prog 7 [] 0 [] fun v _ _ => v = .b true := by
  refine .enter0 F7_ok (by simp [F7]) ?_
  refine .seq (.ops (opsF_all (by simp; rfl) ?_))
  refine .seq ?_
  generalize hZ : List.replicate 1617 (V.i IntKind.i64 0) = Z
  have hZl : Z.length = 1617 := by rw [← hZ, List.length_replicate]
  have hs : setAll Z 0 (fontC false) = fontC false := setAll_full (by rw [fontC_len, hZl])
  clear hZ
  refine .ops (opsF_cons_call rfl rfl rfl (v := .ag (fontC false)) (font_pure false _ _) ?_)
  refine opsF_all (by simp [-List.all_eq_true, hZl, hs]; rfl) ?_
  refine AWc.seq (.ops (opsF_run 1 (by simp; rfl) ?_))
  refine opsF_call rfl rfl (callV_fn (ACalls.mono (ACalls.frame (fr := []) (fw := []) region_ok ?_) ?_))
  · rintro v n1 R ⟨_, rfl, rfl⟩ b k _ h
    rw [(aget_one h).2]; rfl
  rintro v n1 H' ⟨R, ⟨rfl, rfl, rfl⟩, rfl⟩
  refine opsF_all (by simp [setAll]; rfl) ?_
  refine AWc.alikeH (H := [(2, .row true [.sl 1 0 4 6 true]), (1, .row true (regI.map (V.i .i64))), (0, .row true (fontC false))]) (fun b => ?_) ?_
  · simp only [aget_mergeH, aget_cons, aget_nil, touch]
    simp
    repeat' split
    all_goals first | rfl | (simp_all; done) | (exfalso; simp_all; omega)
  generalize hR : regI.map (V.i .i64) = R
  have h1 : ∀ H : Heap, aget ((2, Blk.row true [V.sl 1 0 4 6 true]) :: (1, Blk.row true R) :: H) 1 = some (.row true (regI.map (V.i .i64))) := fun H => by simp [hR]
  refine AWc.seq (.ops (opsF_run 1 (by simp; rfl) ?_))
  refine opsF_cons_call rfl rfl rfl (v := .i .i64 10) (area_pure _ true (h1 _)) ?_
  refine opsF_run 3 (by simp; rfl) ?_
  refine opsF_cons_call rfl rfl rfl (v := .b true) (has_pure _ true (h1 _) 2 1 true run_has1) ?_
  refine opsF_run 3 (by simp; rfl) ?_
  refine opsF_cons_call rfl rfl rfl (v := .b false) (has_pure _ true (h1 _) 1 1 false run_has2) ?_
  refine opsF_run 4 (by simp; rfl) ?_
  refine opsF_cons_call rfl rfl rfl (v := .ag [.i .i64 0, .i .i64 0, .i .i64 4, .i .i64 6]) (box_pure _ _) ?_
  refine opsF_run 5 (by simp [setAll, evEqs, eqAll]; rfl) ?_
  refine opsF_cons_call rfl rfl rfl (v := .i .i64 1) (by have := at_pure false [65, 66] 5; exact this _ _) ?_
  refine opsF_run 4 (by simp; rfl) ?_
  refine opsF_cons_call rfl rfl rfl (v := .i .i64 1) (by have := fit_pure false [65, 66] 7; exact this _ _) ?_
  refine opsF_all (by simp; rfl) ?_
  exact .ret (by simp [F7])
theorem awake_pure (n : Nat) (H : Heap) : Pure Try.prog 7 [] n H (.b true) := .of0 awake_ok (by simp) (.b _) n H
end Go.Proofs.Ytpgelghkjiejlaa
