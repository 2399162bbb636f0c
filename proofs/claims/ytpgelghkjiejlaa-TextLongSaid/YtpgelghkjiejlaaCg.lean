/- The contract of font.Builtin, and of Font: the two fonts, cell by cell. -/
import Derived.Test.YtpgelghkjiejlaaCf
set_option linter.unusedVariables false
set_option linter.unusedSimpArgs false
set_option maxRecDepth 4000
namespace Go.Proofs.Ytpgelghkjiejlaa
open Go

theorem fn37_pure (c : Int) (n : Nat) (H : Heap) : Pure Try.prog 37 [.i .i64 c] n H (.i .i64 4) := by
  refine .of0 (.enter0 F37_ok (by simp [F37]) ?_) (by simp [VIn.i]) (.i _ _) n H
  refine .seq (.ops (opsF_all (by simp; rfl) ?_))
  refine .seq (.ops (opsF_all (by simp; rfl) ?_))
  exact .ret (by simp [F37])
theorem tmod_nat (a b : Nat) : ((a : Int)).tmod (b : Int) = ((a % b : Nat) : Int) := (Int.ofNat_tmod a b).symm
theorem fn38_pure (c y : Nat) (hc : c < 127) (hy : y < 6) (n : Nat) (H : Heap) : Pure Try.prog 38 [.i .i64 c, .i .i64 y] n H (.i .i64 (if y = 5 then 0 else (c * (y + 3) + y) % 8 : Nat)) := by
  refine .of0 (.enter0 F38_ok (by simp [F38]) ?_) (by simp [VIn.i]) (.i _ _) n H
  refine .seq (.ops (opsF_all (by simp; rfl) ?_))
  by_cases h5 : y = 5
  · subst h5
    refine .seq (.seq (.ops (opsF_all (by simp; rfl) ?_)))
    refine .cond (t := true) (by simp) (.seq (.ops (opsF_all (by simp; rfl) ?_)))
    exact .ret (by simp [F38])
  · have h5' : ¬ (y : Int) = 5 := by omega
    have hm : c * (y + 3) ≤ 127 * 9 := Nat.mul_le_mul (by omega) (by omega)
    have w1 : IntKind.i64.wrap ((y : Int) + 3) = ((y + 3 : Nat) : Int) := IntWalk.i64_in _ (by omega)
    have w2 : IntKind.i64.wrap ((c : Int) * ((y + 3 : Nat) : Int)) = ((c * (y + 3) : Nat) : Int) := by
      rw [← Int.natCast_mul]; exact IntWalk.i64_in _ (by omega)
    have w3 : IntKind.i64.wrap (((c * (y + 3) : Nat) : Int) + (y : Int)) = ((c * (y + 3) + y : Nat) : Int) := IntWalk.i64_in _ (by omega)
    have w4 : ((c * (y + 3) + y : Nat) : Int).tmod 8 = (((c * (y + 3) + y) % 8 : Nat) : Int) := tmod_nat _ 8
    generalize hq : (c * (y + 3) + y) % 8 = q at w4 ⊢
    generalize c * (y + 3) + y = r at w3 w4
    generalize c * (y + 3) = p at w2 w3
    generalize y + 3 = y3 at w1 w2
    refine .seq (.seq (.ops (opsF_all (by simp [h5']; rfl) ?_)))
    refine .cond (t := false) (by simp [h5']) (.skip ?_)
    refine .seq (.ops (opsF_all (by simp [w1, w2, w3, w4]; rfl) ?_))
    exact .ret (by simp [F38, h5])
theorem fn39_pure (c : Nat) (hc : c < 127) (n : Nat) (H : Heap) : Pure Try.prog 39 [.i .i64 c] n H (.i .i64 (5 + c % 4 : Nat)) := by
  refine .of0 (.enter0 F39_ok (by simp [F39]) ?_) (by simp [VIn.i]) (.i _ _) n H
  have w1 : ((c : Int)).tmod 4 = ((c % 4 : Nat) : Int) := tmod_nat c 4
  have w2 : IntKind.i64.wrap (5 + ((c % 4 : Nat) : Int)) = ((5 + c % 4 : Nat) : Int) := IntWalk.i64_in _ (by omega)
  generalize c % 4 = q at w1 w2 ⊢
  generalize 5 + q = p at w2 ⊢
  refine .seq (.ops (opsF_all (by simp; rfl) ?_))
  refine .seq (.ops (opsF_all (by simp [w1, w2]; rfl) ?_))
  exact .ret (by simp [F39])
theorem fn40_pure (c y a : Nat) (hc : c < 127) (hy : y < 9) (n : Nat) (H : Heap) {o : Bool} (ha : aget H a = some (.row o [.fn 39 [] []])) :
    Pure Try.prog 40 [.i .i64 c, .i .i64 y, .p a 0] n H (.i .i64 ((c * (2 * y + 5) + 7 * y) % 2 ^ (4 + c % 4) : Nat)) := by
  refine Pure.of_drop (.enter0 F40_ok (by simp [F40]) ?_) (.i _ _)
  have hm : c * (2 * y + 5) ≤ 127 * 23 := Nat.mul_le_mul (by omega) (by omega)
  have w1 : IntKind.i64.wrap (2 * (y : Int)) = ((2 * y : Nat) : Int) := IntWalk.i64_in _ (by omega)
  have w2 : IntKind.i64.wrap (((2 * y : Nat) : Int) + 5) = ((2 * y + 5 : Nat) : Int) := IntWalk.i64_in _ (by omega)
  have w3 : IntKind.i64.wrap ((c : Int) * ((2 * y + 5 : Nat) : Int)) = ((c * (2 * y + 5) : Nat) : Int) := by
    rw [← Int.natCast_mul]; exact IntWalk.i64_in _ (by omega)
  have w4 : IntKind.i64.wrap (7 * (y : Int)) = ((7 * y : Nat) : Int) := IntWalk.i64_in _ (by omega)
  have w5 : IntKind.i64.wrap (((c * (2 * y + 5) : Nat) : Int) + ((7 * y : Nat) : Int)) = ((c * (2 * y + 5) + 7 * y : Nat) : Int) := IntWalk.i64_in _ (by omega)
  have hw := fn39_pure c hc n H
  have hq4 : c % 4 < 4 := Nat.mod_lt _ (by omega)
  generalize c % 4 = q at hw hq4 ⊢
  have w6 : IntKind.i64.wrap (((5 + q : Nat) : Int) - 1) = ((4 + q : Nat) : Int) := by rw [IntWalk.i64_in _ (by omega)]; omega
  have w7 : IntKind.i64.wrap (2 ^ min (4 + q) 64) = ((2 ^ (4 + q) : Nat) : Int) := by
    have : q = 0 ∨ q = 1 ∨ q = 2 ∨ q = 3 := by omega
    rcases this with rfl | rfl | rfl | rfl <;> decide
  have w8 : ((c * (2 * y + 5) + 7 * y : Nat) : Int).tmod ((2 ^ (4 + q) : Nat) : Int) = (((c * (2 * y + 5) + 7 * y) % 2 ^ (4 + q) : Nat) : Int) := tmod_nat _ _
  have h9 : ¬ 2 ^ (4 + q) = 0 := by
    have := Nat.two_pow_pos (4 + q)
    omega
  generalize (c * (2 * y + 5) + 7 * y) % 2 ^ (4 + q) = res at w8 ⊢
  generalize 2 ^ (4 + q) = tp at w7 w8 h9
  generalize c * (2 * y + 5) + 7 * y = r at w5 w8
  generalize c * (2 * y + 5) = p at w3 w5
  generalize 7 * y = y7 at w4 w5
  generalize 2 * y + 5 = y25 at w2 w3
  generalize 2 * y = y2 at w1 w2
  generalize 5 + q = q5 at hw w6
  generalize 4 + q = q4 at w6 w7
  refine .seq (.ops (opsF_all (by simp; rfl) ?_))
  refine .seq (.ops (opsF_run 5 (by simp [w1, w2, w3]; rfl) ?_))
  refine opsF_run 5 (by simp [w4, w5, ha]; rfl) ?_
  refine opsF_cons_call rfl rfl rfl (by simpa using hw) ?_
  refine opsF_all (by simp [w6, IntKind.bits, w7, w8, h9]; rfl) ?_
  refine .ret ?_
  simp [F40]
end Go.Proofs.Ytpgelghkjiejlaa
