/- Contracts of small functions of package cmp and band, for the run. -/
import Derived.Test.YtpgelghkjiejlaaCi
set_option linter.unusedVariables false
set_option linter.unusedSimpArgs false
set_option maxRecDepth 4000
namespace Go.Proofs.Ytpgelghkjiejlaa
open Go

theorem nan_pure (a : Int) (n : Nat) (H : Heap) : Pure Try.prog 65 [.i .i64 a] n H (.b false) := by
  refine .of0 (.enter0 F65_ok (by simp [F65]) ?_) (by simp [VIn.i]) (.b _) n H
  refine .seq (.ops (opsF_all (by simp; rfl) ?_))
  refine .seq (.ops (opsF_all (by simp; rfl) ?_))
  exact .ret (by simp [F65])
theorem less_pure (a b : Int) (n : Nat) (H : Heap) : Pure Try.prog 101 [.i .i64 a, .i .i64 b] n H (.b (decide (a < b))) := by
  refine .of0 (.enter0 F101_ok (by simp [F101]) ?_) (by simp [VIn.i]) (.b _) n H
  refine .seq (.ops (opsF_all (by simp; rfl) ?_))
  refine .seq (.ops (opsF_run 1 (by simp; rfl) ?_))
  refine opsF_cons_call rfl rfl rfl (v := .b false) (nan_pure a _ _) ?_
  refine opsF_run 2 (by simp; rfl) ?_
  refine opsF_skip (by simp) ?_
  refine opsF_all (by simp; rfl) ?_
  exact .ret (by simp [F101])
def cmpV (a b : Int) : Int := if a < b then -1 else if a > b then 1 else 0
theorem cmp_pure (a b : Int) (n : Nat) (H : Heap) : Pure Try.prog 52 [.i .i64 a, .i .i64 b] n H (.i .i64 (cmpV a b)) := by
  refine .of0 (.enter0 F52_ok (by simp [F52]) ?_) (by simp [VIn.i]) (.i _ _) n H
  unfold cmpV
  refine .seq (.ops (opsF_all (by simp; rfl) ?_))
  refine .seq (.ops (opsF_run 1 (by simp; rfl) ?_))
  refine opsF_cons_call rfl rfl rfl (v := .b false) (nan_pure a _ _) (opsF_all (by simp; rfl) ?_)
  refine .seq (.ops (opsF_run 1 (by simp; rfl) ?_))
  refine opsF_cons_call rfl rfl rfl (v := .b false) (nan_pure b _ _) (opsF_all (by simp; rfl) ?_)
  refine .seq (.seq (.ops (opsF_all (by simp; rfl) ?_)))
  refine .cond (t := false) (by simp) (.skip ?_)
  refine .seq (.seq (.ops (opsF_all (by simp; rfl) ?_)))
  refine .cond (t := false) (by simp) (.skip ?_)
  by_cases h1 : a < b
  · refine .seq (.seq (.ops (opsF_all (by simp [h1]; rfl) ?_)))
    refine .cond (t := true) (by simp) (.seq (.ops (opsF_all (by simp; rfl) ?_)))
    exact .ret (by simp [F52, h1])
  · refine .seq (.seq (.ops (opsF_all (by simp [h1]; rfl) ?_)))
    refine .cond (t := false) (by simp [h1]) (.skip ?_)
    by_cases h2 : b < a
    · refine .seq (.seq (.ops (opsF_all (by simp [h2]; rfl) ?_)))
      refine .cond (t := true) (by simp) (.seq (.ops (opsF_all (by simp; rfl) ?_)))
      exact .ret (by simp [F52, h1, h2])
    · refine .seq (.seq (.ops (opsF_all (by simp [h2]; rfl) ?_)))
      refine .cond (t := false) (by simp [h2]) (.skip ?_)
      refine .seq (.ops (opsF_all (by simp; rfl) ?_))
      exact .ret (by simp [F52, h1, h2])
def fitsV (a n : Int) : Bool := decide (a ≥ -1048576) && (decide (n > 0) && decide (n ≤ IntKind.i64.wrap (1048576 - a)))
theorem fits_pure (a b : Int) (n : Nat) (H : Heap) : Pure Try.prog 62 [.i .i64 a, .i .i64 b] n H (.b (fitsV a b)) := by
  refine .of0 (.enter0 F62_ok (by simp [F62]) ?_) (by simp [VIn.i]) (.b _) n H
  unfold fitsV
  refine .seq (.ops (opsF_all (by simp; rfl) ?_))
  by_cases h1 : -1048576 ≤ a
  · by_cases h2 : 0 < b
    · refine .seq (.ops (opsF_all (by simp [h1, h2]; rfl) ?_))
      exact .ret (by simp [F62, h1, h2])
    · refine .seq (.ops (opsF_all (by simp [h1, h2]; rfl) ?_))
      exact .ret (by simp [F62, h1, h2])
  · refine .seq (.ops (opsF_all (by simp [h1]; rfl) ?_))
    exact .ret (by simp [F62, h1])
theorem and_pure (a b : Bool) (n : Nat) (H : Heap) : Pure Try.prog 60 [.b a, .b b] n H (.b (a && b)) := by
  refine .of0 (.enter0 F60_ok (by simp [F60]) ?_) (by simp [VIn.b]) (.b _) n H
  refine .seq (.ops (opsF_all (by simp; rfl) ?_))
  cases a
  · refine .seq (.ops (opsF_all (by simp; rfl) ?_))
    exact .ret (by simp [F60])
  · refine .seq (.ops (opsF_all (by simp; rfl) ?_))
    exact .ret (by simp [F60])
def known1 (f : FuncId) (args : List V) : Option V :=
  match f, args with
  | 8, [.b w] => some (.ag (fontC w))
  | 65, [.i .i64 _] => some (.b false)
  | 101, [.i .i64 a, .i .i64 b] => some (.b (decide (a < b)))
  | 52, [.i .i64 a, .i .i64 b] => some (.i .i64 (cmpV a b))
  | 62, [.i .i64 a, .i .i64 b] => some (.b (fitsV a b))
  | 60, [.b a, .b b] => some (.b (a && b))
  | _, _ => none
theorem known1_ok : okKnown Try.prog known1 := by
  intro f args v h n H
  unfold known1 at h
  split at h
  · cases h; exact font_pure _ n H
  · cases h; exact nan_pure _ n H
  · cases h; exact less_pure _ _ n H
  · cases h; exact cmp_pure _ _ n H
  · cases h; exact fits_pure _ _ n H
  · cases h; exact and_pure _ _ n H
  · cases h
end Go.Proofs.Ytpgelghkjiejlaa
