/- Contracts of the small functions of package font, and of text. -/
import Derived.Test.YtpgelghkjiejlaaTab
set_option linter.unusedVariables false
set_option linter.unusedSimpArgs false
set_option maxRecDepth 4000
namespace Go.Proofs.Ytpgelghkjiejlaa
open Go

/-- Where the letter of a byte stands. -/
def plc (b : UInt8) : Nat := if b.toNat < 32 ∨ 126 < b.toNat then 31 else b.toNat - 32
theorem plc_lt (b : UInt8) : plc b < 95 := by
  have := b.toNat_lt
  unfold plc; split <;> omega

theorem place_pure (b : UInt8) (n : Nat) (H : Heap) : Pure Try.prog 29 [.i .u8 b.toNat] n H (.i .i64 (plc b)) := by
  have hb := b.toNat_lt
  unfold plc
  generalize b.toNat = m at hb ⊢
  refine .of0 (.enter0 F29_ok (by simp [F29]) ?_) (by simp [VIn.i]) (.i _ _) n H
  refine .seq (.ops (opsF_all (by simp; rfl) ?_))
  by_cases h1 : m < 32
  · have h1' : (m : Int) < 32 := by omega
    refine .seq (.seq (.ops (opsF_all (by simp [h1']; rfl) ?_)))
    refine .cond (t := true) (by simp) (.ops (opsF_all (by simp; rfl) ?_))
    refine .seq (.ops (opsF_all (by simp; rfl) ?_))
    refine .ret ?_
    simp [F29, h1]
    decide
  · have h1' : ¬ (m : Int) < 32 := by omega
    by_cases h2 : 126 < m
    · have h2' : (126 : Int) < m := by omega
      refine .seq (.seq (.ops (opsF_all (by simp [h1', h2']; rfl) ?_)))
      refine .cond (t := true) (by simp) (.ops (opsF_all (by simp; rfl) ?_))
      refine .seq (.ops (opsF_all (by simp; rfl) ?_))
      refine .ret ?_
      simp [F29, h1, h2]
      decide
    · have h2' : ¬ (126 : Int) < m := by omega
      refine .seq (.seq (.ops (opsF_all (by simp [h1', h2']; rfl) ?_)))
      refine .cond (t := false) (by simp) (.skip ?_)
      refine .seq (.ops (opsF_all (by simp; rfl) ?_))
      refine .ret ?_
      simp [F29, h1, h2]
      rw [IntWalk.i64_in m (by omega), IntWalk.i64_in _ (by omega)]
      omega
end Go.Proofs.Ytpgelghkjiejlaa
