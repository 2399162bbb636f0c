/- The contract of Box of package text. -/
import Derived.Test.YtpgelghkjiejlaaCf
set_option linter.unusedVariables false
set_option linter.unusedSimpArgs false
set_option maxRecDepth 4000
namespace Go.Proofs.Ytpgelghkjiejlaa
open Go

def coordV (a : Int) : Bool := decide (-1048576 ≤ a) && decide (a ≤ 1048576)
theorem coord_pure (a : Int) (n : Nat) (H : Heap) : Pure Try.prog 30 [.i .i64 a] n H (.b (coordV a)) := by
  refine .of0 (.enter0 F30_ok (by simp [F30]) ?_) (by simp [VIn.i]) (.b _) n H
  unfold coordV
  refine .seq (.ops (opsF_all (by simp; rfl) ?_))
  by_cases h1 : -1048576 ≤ a
  · refine .seq (.ops (opsF_all (by simp [h1]; rfl) ?_))
    exact .ret (by simp [F30, h1])
  · refine .seq (.ops (opsF_all (by simp [h1]; rfl) ?_))
    exact .ret (by simp [F30, h1])
def rfitsV (a b : Int) : Bool := decide (-1048576 ≤ a) && (decide (1 ≤ b) && decide (b ≤ IntKind.i64.wrap (1048576 - a)))
theorem rfits_pure (a b : Int) (n : Nat) (H : Heap) : Pure Try.prog 43 [.i .i64 a, .i .i64 b] n H (.b (rfitsV a b)) := by
  refine .of0 (.enter0 F43_ok (by simp [F43]) ?_) (by simp [VIn.i]) (.b _) n H
  unfold rfitsV
  refine .seq (.ops (opsF_all (by simp; rfl) ?_))
  by_cases h1 : -1048576 ≤ a
  · by_cases h2 : 1 ≤ b
    · refine .seq (.ops (opsF_all (by simp [h1, h2]; rfl) ?_))
      exact .ret (by simp [F43, h1, h2])
    · refine .seq (.ops (opsF_all (by simp [h1, h2]; rfl) ?_))
      exact .ret (by simp [F43, h1, h2])
  · refine .seq (.ops (opsF_all (by simp [h1]; rfl) ?_))
    exact .ret (by simp [F43, h1])
/-- A rectangle, as cells. -/
def rectV (x y w h : Int) : V := .ag [.i .i64 x, .i .i64 y, .i .i64 w, .i .i64 h]
theorem rectV_in {x y w h : Int} {n : Nat} : VIn n (rectV x y w h) := .ag (by simp [VIn.i])
theorem check_pure (x y w h : Int) (hh : h ≠ 0) (n : Nat) (H : Heap) : Pure Try.prog 32 [rectV x y w h] n H (.i .i64 (if rfitsV x w && rfitsV y h then 0 else 1)) := by
  refine .of0 (.enter0 F32_ok (by simp [F32]) ?_) (by intro z hz; rw [List.mem_singleton.1 hz]; exact rectV_in) (.i _ _) n H
  have e1 := fun n H => rfits_pure x w n H
  have e2 := fun n H => rfits_pure y h n H
  generalize rfitsV x w = b1 at e1 ⊢
  generalize rfitsV y h = b2 at e2 ⊢
  have hb : (h == 0) = false := by simpa using hh
  refine .seq (.ops (opsF_all (by simp [rectV]; rfl) ?_))
  refine .seq (.seq (.ops (opsF_run 8 (by simp [evEqs, eqAll, hb]; rfl) ?_)))
  refine opsF_cons_call rfl rfl rfl (v := .b b1) (e1 _ _) ?_
  cases b1 with
  | true =>
    refine opsF_run 5 (by simp; rfl) ?_
    refine opsF_cons_call rfl rfl rfl (v := .b b2) (e2 _ _) ?_
    refine opsF_all (by simp; rfl) ?_
    cases b2 with
    | true =>
      refine .cond (t := true) (by simp) (.seq (.ops (opsF_all (by simp; rfl) ?_)))
      exact .ret (by simp [F32])
    | false =>
      refine .cond (t := false) (by simp) (.skip ?_)
      refine .seq (.ops (opsF_all (by simp; rfl) ?_))
      exact .ret (by simp [F32])
  | false =>
    refine opsF_run 5 (by simp; rfl) ?_
    refine opsF_skip (by simp) ?_
    refine opsF_all (by simp; rfl) ?_
    refine .cond (t := false) (by simp) (.skip ?_)
    refine .seq (.ops (opsF_all (by simp; rfl) ?_))
    exact .ret (by simp [F32])
/-- A text's box. -/
def boxV (w : Bool) (x y : Int) (s : List UInt8) : V :=
  if coordV x && coordV y then
    if rfitsV x (pw w (s.take 4096)) && rfitsV (y - fA w) (fH w) then rectV x (y - fA w) (pw w (s.take 4096)) (fH w) else rectV 0 0 0 0
  else rectV 0 0 0 0
theorem boxV_in {w : Bool} {x y : Int} {s : List UInt8} {n : Nat} : VIn n (boxV w x y s) := by
  unfold boxV
  split
  · split <;> exact rectV_in
  · exact rectV_in
theorem fH_ne (w : Bool) : ((fH w : Nat) : Int) ≠ 0 := by cases w <;> decide
theorem boxG_ok (w : Bool) (x y : Int) (s : List UInt8) : ACalls Try.prog 15 [.ag (fontC w), .i .i64 x, .i .i64 y, .s s] 0 [] fun v _ _ => v = boxV w x y s := by
  refine .enter0 F15_ok (by simp [F15]) ?_
  have e1 := fun n H => coord_pure x n H
  have e2 := fun n H => coord_pure y n H
  have hcy : coordV y = true → IntKind.i64.wrap (y - (fA w : Int)) = y - (fA w : Int) := by
    intro h
    simp [coordV] at h
    have : fA w ≤ 7 := by cases w <;> decide
    exact IntWalk.i64_in _ (by omega)
  have hwid := fun n H => width_pure w (s.take 4096) (by simp; omega) n H
  have hck := fun n H => check_pure x (y - fA w) (pw w (s.take 4096)) (fH w) (fH_ne w) n H
  unfold boxV
  generalize pw w (s.take 4096) = p at hwid hck ⊢
  generalize coordV x = b1 at e1 ⊢
  generalize coordV y = b2 at e2 hcy ⊢
  generalize rfitsV x p = f1 at hck ⊢
  generalize rfitsV (y - fA w) (fH w) = f2 at hck ⊢
  refine .seq (.ops (opsF_all (by simp; rfl) ?_))
  refine .seq (.seq (.ops (opsF_run 1 (by simp; rfl) ?_)))
  refine opsF_cons_call rfl rfl rfl (v := .b b1) (e1 _ _) ?_
  have zero : ∀ T, True := fun (_ : Nat) => trivial
  cases b1 with
  | false =>
    refine opsF_run 3 (by simp; rfl) ?_
    refine opsF_skip (by simp) ?_
    refine opsF_all (by simp; rfl) ?_
    refine .cond (t := true) (by simp) (.seq (.ops (opsF_all (by simp [setAll]; rfl) ?_)))
    exact .ret (by simp [F15, rectV])
  | true =>
    refine opsF_run 3 (by simp; rfl) ?_
    refine opsF_cons_call rfl rfl rfl (v := .b b2) (e2 _ _) ?_
    cases b2 with
    | false =>
      refine opsF_all (by simp; rfl) ?_
      refine .cond (t := true) (by simp) (.seq (.ops (opsF_all (by simp [setAll]; rfl) ?_)))
      exact .ret (by simp [F15, rectV])
    | true =>
      have hcy := hcy rfl
      refine opsF_all (by simp; rfl) ?_
      refine .cond (t := false) (by simp) (.skip ?_)
      refine .seq (.draw (drawF_run 3 (by rfl) (by simp; exact ⟨rfl, rfl⟩) ?_))
      refine drawF_callN (v := .i .i64 (fA w)) (n1 := 2) (R := []) rfl rfl rfl (ascent_pure w 2 []) (by simp) (by simp) rfl ?_
      refine drawF_run 3 (by rfl) (by simp [hcy]; exact ⟨rfl, rfl⟩) ?_
      refine drawF_callN (v := .s (s.take 4096)) (n1 := 2) (R := []) rfl rfl rfl (counted_pure s 2 []) (by simp) (by simp) rfl ?_
      refine drawF_callN (v := .i .i64 p) (n1 := 2) (R := []) rfl rfl rfl (hwid 2 []) (by simp) (by simp) rfl ?_
      refine drawF_run 1 (by rfl) (by simp; exact ⟨rfl, rfl⟩) ?_
      refine drawF_callN (v := .i .i64 (fA w)) (n1 := 2) (R := []) rfl rfl rfl (ascent_pure w 2 []) (by simp) (by simp) rfl ?_
      refine drawF_run 1 (by rfl) (by simp; exact ⟨rfl, rfl⟩) ?_
      refine drawF_callN (v := .i .i64 (fD w)) (n1 := 2) (R := []) rfl rfl rfl (descent_pure w 2 []) (by simp) (by simp) rfl ?_
      refine drawF_all (by rfl) (by simp [setAll, Blk.own]; exact ⟨rfl, rfl⟩) ⟨by rfl, ?_⟩
      refine AWc.alikeH (H := [(2, .row true [.i .i64 x, .i .i64 (y - fA w), .i .i64 p, .i .i64 (fH w)]), (1, .row true [.i .i64 0, .i .i64 0, .i .i64 0, .i .i64 0]), (0, .row true (fontC w))]) (fun b => ?_) ?_
      · simp only [aget_mergeH, aget_cons, aget_nil, touch]
        simp
        repeat' split
        all_goals first | rfl | (simp_all; done) | (exfalso; simp_all; omega)
      refine .seq (.seq (.ops (opsF_run 1 (by simp; rfl) ?_)))
      refine opsF_cons_call rfl rfl rfl (v := .i .i64 (if f1 && f2 then 0 else 1)) (hck _ _) ?_
      cases hf : (f1 && f2) with
      | true =>
        refine opsF_all (by simp; rfl) ?_
        refine .cond (t := false) (by simp) (.skip ?_)
        refine .seq (.ops (opsF_all (by simp [setAll]; rfl) ?_))
        exact .ret (by simp [F15, rectV])
      | false =>
        refine opsF_all (by simp; rfl) ?_
        refine .cond (t := true) (by simp) (.seq (.ops (opsF_all (by simp [setAll]; rfl) ?_)))
        exact .ret (by simp [F15, rectV])
theorem boxG_pure (w : Bool) (x y : Int) (s : List UInt8) (n : Nat) (H : Heap) : Pure Try.prog 15 [.ag (fontC w), .i .i64 x, .i .i64 y, .s s] n H (boxV w x y s) :=
  .of0 (boxG_ok w x y s) (by
    intro z hz
    simp at hz
    rcases hz with rfl | rfl | rfl | rfl
    · exact ag_in
    · exact .i _ _
    · exact .i _ _
    · exact .s _) boxV_in n H
end Go.Proofs.Ytpgelghkjiejlaa
