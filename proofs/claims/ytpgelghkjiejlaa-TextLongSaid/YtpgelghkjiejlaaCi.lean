/- font.Builtin, and Font. -/
import Derived.Test.YtpgelghkjiejlaaCh
set_option linter.unusedVariables false
set_option linter.unusedSimpArgs false
set_option maxRecDepth 4000
namespace Go.Proofs.Ytpgelghkjiejlaa
open Go
attribute [local irreducible] fontC pre

theorem buildF : ACalls Try.prog 36 [.i .i64 5, .i .i64 1, .fn 37 [] [], .fn 38 [] []] 0 [] fun v _ _ => v = .ag (fontC false) := by
  refine .enter0 F36_ok (by simp [F36]) ?_
  refine .seq ?_
  generalize hZ : List.replicate 1617 (V.i IntKind.i64 0) = Z
  have hZ0 : Z = pre false 0 := by rw [← hZ]; exact pre_zero false
  have hZl : Z.length = 1617 := by rw [hZ0, pre_len]
  have hZi : ∀ x ∈ Z, VIn 2 x := by rw [hZ0]; exact pre_in _ _ _
  have hf1 : setAll Z 0 [V.i .i64 5] = pre false 1 := by rw [hZ0]; exact pre_set false (k := 0) (by omega)
  have hf2 : setAll (pre false 1) 1 [V.i .i64 1] = pre false 2 := pre_set false (k := 1) (by omega)
  have hs : setAll Z 0 (pre false 2) = pre false 2 := setAll_full (by rw [pre_len, hZl])
  have he : setAll Z 0 (pre false 1617) = pre false 1617 := setAll_full (by rw [pre_len, hZl])
  clear hZ
  refine .ops (opsF_all (by simp; rfl) ?_)
  refine AWc.seq (.ops (opsF_run 3 (by simp [hZl, hf1, hf2]; rfl) ?_))
  refine opsF_all (by simp [-List.all_eq_true, hZl, hs]; rfl) ?_
  refine .seq (.seq (.ops (opsF_all (by simp; rfl) ?_)))
  refine .block (.loopR (φ₀ := id) (k₀ := 95) (s₀ := ⟨bTF 0, [], 2, bHF Z (2 + 0 * 17)⟩)
    (fun k st => ∃ i, i ≤ 95 ∧ k = 95 - i ∧ st = ⟨bTF i, [], 2, bHF Z (2 + i * 17)⟩)
    ⟨0, by omega, by omega, rfl⟩ ⟨TReL.spec ?_, rfl, by simp, .same (bHF_in Z hZi _) fun b _ => rfl⟩ (fun b hb => rfl) (fun k st ⟨i, h1, h2, h3⟩ => by simp [h3]) ?_)
  · simp only [bTF, TReL, and_true]
    simp
    repeat' (first | exact VRe.i _ _ | exact VRe.p (φ := id) (by omega) | exact VRe.s _ | exact VRe.b _ | exact VRe.id_of (.fn (by simp) (by simp)) | exact VRe.id_of (.fn (by simp) (by simp [VIn.p])) | apply And.intro)
  rintro k st ⟨i, h1, rfl, rfl⟩
  by_cases hi : i < 95
  · refine (buildF_ok Z hZi i hi).conseq ?_
    intro e st' he
    cases e with
    | normal => exact ⟨95 - (i + 1), id, _, by omega, ⟨i + 1, by omega, rfl, rfl⟩, fun _ _ => rfl, he⟩
    | _ => exact he.elim
  · obtain rfl : i = 95 := by omega
    refine .seq (.ops (opsF_all (by simp [bTF]; rfl) ?_))
    refine .seq (.cond (t := false) (by simp) (.exit ?_))
    refine AWc.seq (.ops (opsF_run 1 (by simp [bHF]; rfl) ?_))
    refine opsF_all (by simp [-List.all_eq_true, hZl, he]; rfl) ?_
    refine .ret ⟨.inr rfl, rfl, _, by simp [F36]; rfl, ?_⟩
    simp [pre_full]

theorem buildT : ACalls Try.prog 36 [.i .i64 7, .i .i64 2, .fn 39 [] [], .fn 40 [] [.p 1 0]] 2 [(1, .row false [.fn 39 [] []])] fun v _ _ => v = .ag (fontC true) := by
  refine .enter0 F36_ok (by simp [F36]) ?_
  refine .seq ?_
  generalize hZ : List.replicate 1617 (V.i IntKind.i64 0) = Z
  have hZ0 : Z = pre true 0 := by rw [← hZ]; exact pre_zero true
  have hZl : Z.length = 1617 := by rw [hZ0, pre_len]
  have hZi : ∀ x ∈ Z, VIn 4 x := by rw [hZ0]; exact pre_in _ _ _
  have hf1 : setAll Z 0 [V.i .i64 7] = pre true 1 := by rw [hZ0]; exact pre_set true (k := 0) (by omega)
  have hf2 : setAll (pre true 1) 1 [V.i .i64 2] = pre true 2 := pre_set true (k := 1) (by omega)
  have hs : setAll Z 0 (pre true 2) = pre true 2 := setAll_full (by rw [pre_len, hZl])
  have he : setAll Z 0 (pre true 1617) = pre true 1617 := setAll_full (by rw [pre_len, hZl])
  clear hZ
  refine .ops (opsF_all (by simp; rfl) ?_)
  refine AWc.seq (.ops (opsF_run 3 (by simp [hZl, hf1, hf2]; rfl) ?_))
  refine opsF_all (by simp [-List.all_eq_true, hZl, hs]; rfl) ?_
  refine .seq (.seq (.ops (opsF_all (by simp; rfl) ?_)))
  refine .block (.loopR (φ₀ := id) (k₀ := 95) (s₀ := ⟨bTT 0, [], 4, bHT Z (2 + 0 * 17)⟩)
    (fun k st => ∃ i, i ≤ 95 ∧ k = 95 - i ∧ st = ⟨bTT i, [], 4, bHT Z (2 + i * 17)⟩)
    ⟨0, by omega, by omega, rfl⟩ ⟨TReL.spec ?_, rfl, by simp, .same (bHT_in Z hZi _) fun b _ => rfl⟩ (fun b hb => rfl) (fun k st ⟨i, h1, h2, h3⟩ => by simp [h3]) ?_)
  · simp only [bTT, TReL, and_true]
    simp
    repeat' (first | exact VRe.i _ _ | exact VRe.p (φ := id) (by omega) | exact VRe.s _ | exact VRe.b _ | exact VRe.id_of (.fn (by simp) (by simp)) | exact VRe.id_of (.fn (by simp) (by simp [VIn.p])) | apply And.intro)
  rintro k st ⟨i, h1, rfl, rfl⟩
  by_cases hi : i < 95
  · refine (buildT_ok Z hZi i hi).conseq ?_
    intro e st' he
    cases e with
    | normal => exact ⟨95 - (i + 1), id, _, by omega, ⟨i + 1, by omega, rfl, rfl⟩, fun _ _ => rfl, he⟩
    | _ => exact he.elim
  · obtain rfl : i = 95 := by omega
    refine .seq (.ops (opsF_all (by simp [bTT]; rfl) ?_))
    refine .seq (.cond (t := false) (by simp) (.exit ?_))
    refine AWc.seq (.ops (opsF_run 1 (by simp [bHT]; rfl) ?_))
    refine opsF_all (by simp [-List.all_eq_true, hZl, he]; rfl) ?_
    refine .ret ⟨.inr rfl, rfl, _, by simp [F36]; rfl, ?_⟩
    simp [pre_full]

theorem tin2 {w : Bool} {n : Nat} : VIn n (.tu [.ag (fontC w), .b true]) := .tu (by
  intro x hx
  simp at hx
  rcases hx with rfl | rfl
  · exact ag_in
  · exact .b _)
theorem builtinF : ACalls Try.prog 24 [.s [116, 105, 110, 121]] 0 [] fun v _ _ => v = .tu [.ag (fontC false), .b true] := by
  refine .enter0 F24_ok (by simp [F24]) ?_
  refine .seq ?_
  generalize hZ : List.replicate 1617 (V.i IntKind.i64 0) = Z
  have hZl : Z.length = 1617 := by rw [← hZ, List.length_replicate]
  have hs : setAll Z 0 (fontC false) = fontC false := setAll_full (by rw [fontC_len, hZl])
  clear hZ
  have hb := fun n H => Pure.of0 buildF (by simp [VIn.i, VIn.fn]) ag_in n H
  refine .ops (opsF_all (by simp; rfl) ?_)
  refine AWc.seq (.seq (.ops (opsF_all (by simp; rfl) ?_)))
  refine .block (.seq (.ops (opsF_all (by simp; rfl) ?_)))
  refine .cond (t := true) (by simp) (.seq (.ops ?_))
  refine opsF_cons_call rfl rfl rfl (v := .ag (fontC false)) (hb _ _) ?_
  refine opsF_all (by simp [-List.all_eq_true, hZl, hs]; rfl) ?_
  refine .ret ⟨.inr rfl, rfl, _, by simp [F24]; rfl, ?_⟩
  simp
theorem builtinT : ACalls Try.prog 24 [.s [119, 105, 100, 101]] 0 [] fun v _ _ => v = .tu [.ag (fontC true), .b true] := by
  refine .enter0 F24_ok (by simp [F24]) ?_
  refine .seq ?_
  generalize hZ : List.replicate 1617 (V.i IntKind.i64 0) = Z
  have hZl : Z.length = 1617 := by rw [← hZ, List.length_replicate]
  have hs : setAll Z 0 (fontC true) = fontC true := setAll_full (by rw [fontC_len, hZl])
  clear hZ
  refine .ops (opsF_all (by simp; rfl) ?_)
  refine AWc.seq (.seq (.ops (opsF_all (by simp; rfl) ?_)))
  refine .block (.seq (.ops (opsF_all (by simp; rfl) ?_)))
  refine .cond (t := false) (by simp) (.seq (.ops (opsF_all (by simp; rfl) ?_)))
  refine .cond (t := true) (by simp) (.seq (.ops (opsF_all (by simp [setAll]; rfl) ?_)))
  refine .seq (.ops (opsF_run 2 (by simp; rfl) ?_))
  refine opsF_call rfl rfl (callV_fn (ACalls.mono (ACalls.frame (fr := [1]) (fw := []) (K := fun v n' H' => v = .ag (fontC true) ∧ n' = 2 ∧ H' = []) ?_ ?_) ?_))
  · simp
    refine buildT.weakenR ?_
    rintro v n' H' rfl
    exact ⟨id, _, 2, [], fun _ _ => rfl, by omega, .id_of ag_in, ⟨fun b k h => by simp at h, fun _ _ _ _ _ _ h => h⟩, rfl, rfl, rfl⟩
  · rintro v n1 R ⟨_, _, rfl⟩ b k _ h
    simp at h
  rintro v n1 H' ⟨R, ⟨rfl, rfl, rfl⟩, rfl⟩
  refine opsF_all (by simp [-List.all_eq_true, hZl, hs]; rfl) ?_
  refine .ret ⟨.inr rfl, rfl, _, by simp [F24]; rfl, ?_⟩
  simp
theorem font_ok (w : Bool) : ACalls Try.prog 8 [.b w] 0 [] fun v _ _ => v = .ag (fontC w) := by
  refine .enter0 F8_ok (by simp [F8]) ?_
  refine .seq ?_
  generalize hZ : List.replicate 1617 (V.i IntKind.i64 0) = Z
  have hZl : Z.length = 1617 := by rw [← hZ, List.length_replicate]
  have hs : setAll Z 0 (fontC w) = fontC w := setAll_full (by rw [fontC_len, hZl])
  clear hZ
  refine .ops (opsF_all (by simp; rfl) ?_)
  refine AWc.seq (.ops (opsF_all (by simp; rfl) ?_))
  cases w with
  | false =>
    have hb := fun n H => Pure.of0 builtinF (by simp [VIn.s]) tin2 n H
    refine .seq (.seq (.ops (opsF_all (by simp; rfl) ?_)))
    refine .cond (t := false) (by simp) (.skip ?_)
    refine .seq (.ops (opsF_run 1 (by simp; rfl) ?_))
    refine opsF_cons_call rfl rfl rfl (v := .tu [.ag (fontC false), .b true]) (hb _ _) ?_
    refine opsF_run 3 (by simp; rfl) ?_
    refine opsF_all (by simp [-List.all_eq_true, hZl, hs]; rfl) ?_
    refine .seq (.ops (opsF_all (by simp [-List.all_eq_true, hZl, hs]; rfl) ?_))
    refine .ret ⟨.inr rfl, rfl, _, by simp [F8]; rfl, ?_⟩
    simp
  | true =>
    have hb := fun n H => Pure.of0 builtinT (by simp [VIn.s]) tin2 n H
    refine .seq (.seq (.ops (opsF_all (by simp; rfl) ?_)))
    refine .cond (t := true) (by simp) (.ops (opsF_all (by simp; rfl) ?_))
    refine .seq (.ops (opsF_run 1 (by simp; rfl) ?_))
    refine opsF_cons_call rfl rfl rfl (v := .tu [.ag (fontC true), .b true]) (hb _ _) ?_
    refine opsF_run 3 (by simp; rfl) ?_
    refine opsF_all (by simp [-List.all_eq_true, hZl, hs]; rfl) ?_
    refine .seq (.ops (opsF_all (by simp [-List.all_eq_true, hZl, hs]; rfl) ?_))
    refine .ret ⟨.inr rfl, rfl, _, by simp [F8]; rfl, ?_⟩
    simp
theorem font_pure (w : Bool) (n : Nat) (H : Heap) : Pure Try.prog 8 [.b w] n H (.ag (fontC w)) := .of0 (font_ok w) (by simp [VIn.b]) ag_in n H
end Go.Proofs.Ytpgelghkjiejlaa
