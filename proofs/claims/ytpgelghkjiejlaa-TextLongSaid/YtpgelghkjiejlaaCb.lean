/- Contracts of package font's functions. -/
import Derived.Test.YtpgelghkjiejlaaCa
import Derived.Test.YtpgelghkjiejlaaSmRD
set_option linter.unusedVariables false
set_option linter.unusedSimpArgs false
set_option maxRecDepth 4000
namespace Go.Proofs.Ytpgelghkjiejlaa
open Go

@[simp] theorem fontC_len (w : Bool) : (fontC w).length = 1617 := by simp [fontC]
theorem fontC_get (w : Bool) {p : Nat} (h : p < 1617) : (fontC w)[p]? = some (.i .i64 (fC w p)) := by
  simp [fontC, List.getElem?_map, List.getElem?_range h]
theorem fontC_in (w : Bool) (n : Nat) : ∀ x ∈ fontC w, VIn n x := by
  intro x hx
  simp only [fontC, List.mem_map] at hx
  obtain ⟨p, _, rfl⟩ := hx
  exact .i _ _
@[simp] theorem fontC_take (w : Bool) : (fontC w).take 1617 = fontC w := List.take_of_length_le (by simp)
@[simp] theorem fontC_one (w : Bool) : (fontC w).all V.one = true := by
  rw [List.all_eq_true]
  intro x hx
  simp only [fontC, List.mem_map] at hx
  obtain ⟨p, _, rfl⟩ := hx
  rfl
theorem ag_in {n : Nat} {w : Bool} : VIn n (.ag (fontC w)) := .ag (fontC_in w n)
@[simp] theorem fontC_getE (w : Bool) {p : Nat} (h : p < (fontC w).length) : (fontC w)[p] = .i .i64 (fC w p) := by simp [fontC]
@[simp] theorem fC_0 (w : Bool) : fC w 0 = fA w := rfl
@[simp] theorem fC_1 (w : Bool) : fC w 1 = fD w := rfl
@[simp] theorem fA_fD_wrap (w : Bool) : IntKind.i64.wrap ((fA w : Int) + (fD w : Int)) = (fH w : Int) := by cases w <;> decide
theorem fC_w (w : Bool) {l : Nat} (hl : l < 95) : fC w (2 + l * 17) = fW w l := by
  unfold fC
  rw [if_neg (by omega), if_neg (by omega), if_pos (by omega)]
  congr 1
  omega
theorem fC_r (w : Bool) {l y : Nat} (hl : l < 95) (hy : y < fH w) : fC w (2 + l * 17 + 1 + y) = fR w l y := by
  have hh : fH w ≤ 9 := by cases w <;> decide
  unfold fC
  rw [if_neg (by omega), if_neg (by omega), if_neg (by omega), if_pos (by omega)]
  congr 1 <;> omega
theorem fA_fD (w : Bool) : fA w + fD w = fH w := by cases w <;> rfl

theorem ascent_pure (w : Bool) (n : Nat) (H : Heap) : Pure Try.prog 25 [.ag (fontC w)] n H (.i .i64 (fA w)) := by
  refine .of0 (.enter0 F25_ok (by simp [F25]) ?_) (by intro x hx; rw [List.mem_singleton.1 hx]; exact ag_in) (.i _ _) n H
  refine .seq (.ops (opsF_all (by simp; rfl) ?_))
  refine .seq (.ops (opsF_all (by simp; rfl) ?_))
  exact .ret (by simp [F25])
theorem descent_pure (w : Bool) (n : Nat) (H : Heap) : Pure Try.prog 26 [.ag (fontC w)] n H (.i .i64 (fD w)) := by
  refine .of0 (.enter0 F26_ok (by simp [F26]) ?_) (by intro x hx; rw [List.mem_singleton.1 hx]; exact ag_in) (.i _ _) n H
  refine .seq (.ops (opsF_all (by simp; rfl) ?_))
  refine .seq (.ops (opsF_all (by simp; rfl) ?_))
  exact .ret (by simp [F26])
theorem height_pure (w : Bool) (n : Nat) (H : Heap) : Pure Try.prog 41 [.ag (fontC w)] n H (.i .i64 (fH w)) := by
  refine .of0 (.enter0 F41_ok (by simp [F41]) ?_) (by intro x hx; rw [List.mem_singleton.1 hx]; exact ag_in) (.i _ _) n H
  refine .seq (.ops (opsF_all (by simp; rfl) ?_))
  refine .seq (.ops (opsF_all (by simp; rfl) ?_))
  exact .ret (by simp [F41])
theorem counted_pure (s : List UInt8) (n : Nat) (H : Heap) : Pure Try.prog 31 [.s s] n H (.s (s.take 4096)) := by
  refine .of0 (.enter0 F31_ok (by simp [F31]) ?_) (by simp [VIn.s]) (.s _) n H
  refine .seq (.ops (opsF_all (by simp; rfl) ?_))
  by_cases h : 4096 < s.length
  · have h' : (4096 : Int) < s.length := by omega
    refine .seq (.ops (opsF_all (by simp [h', Nat.le_of_lt h]; rfl) ?_))
    exact .ret (by simp [F31])
  · have h' : ¬ (4096 : Int) < s.length := by omega
    refine .seq (.ops (opsF_all (by simp [h']; rfl) ?_))
    refine .ret ?_
    simp [F31]
    rw [List.take_of_length_le (by omega)]

/-- The rows of a letter. -/
def rowsC (w : Bool) (l : Nat) : List V := (List.range (fH w)).map fun y => .i .i64 (fR w l y)
theorem glyph_ok (w : Bool) (b : UInt8) (n : Nat) (H : Heap) : ACalls Try.prog 27 [.ag (fontC w), .i .u8 b.toNat] n H fun v n' H' =>
    v = .ag [.i .i64 (fW w (plc b)), .sl n 0 1 (fH w) true] ∧ n' = n + 1 ∧ H' = (n, .row true (rowsC w (plc b))) :: H := by
  have hl := plc_lt b
  have hp := fun n H => place_pure b n H
  generalize plc b = l at hl hp ⊢
  have hH : ¬ fH w = 0 := by cases w <;> decide
  have hl1 : (l : Int) < 95 := by omega
  have hl2 : 2 + (l * 17 + 17) ≤ 1617 := by omega
  have hH0 : (0 : Int) ≤ (fH w : Int) := by omega
  have hHb : (fH w : Int) * 8 ≤ 140737488355328 ∧ (fH w : Int) ≤ 140737488355328 := by cases w <;> decide
  have h17 : (((fontC w).drop (2 + l * 17)).take 17).all V.one = true := by
    rw [List.all_eq_true]
    intro x hx
    exact List.all_eq_true.1 (fontC_one w) x (List.mem_of_mem_drop (List.mem_of_mem_take hx))
  have h17l : (((fontC w).drop (2 + l * 17)).take 17).length = 17 := by simp; omega
  generalize hc : ((fontC w).drop (2 + l * 17)).take 17 = c at h17 h17l
  have h17' : ∀ x ∈ c, x.one = true := fun x hx => List.all_eq_true.1 h17 x hx
  have hfull : setAll [V.i IntKind.i64 0, V.i IntKind.i64 0, V.i IntKind.i64 0, V.i IntKind.i64 0, V.i IntKind.i64 0, V.i IntKind.i64 0, V.i IntKind.i64 0, V.i IntKind.i64 0, V.i IntKind.i64 0, V.i IntKind.i64 0, V.i IntKind.i64 0, V.i IntKind.i64 0, V.i IntKind.i64 0, V.i IntKind.i64 0, V.i IntKind.i64 0, V.i IntKind.i64 0, V.i IntKind.i64 0] 0 c = c := setAll_full (by simp [h17l])
  have h16 : c.tail.take 16 = c.tail := List.take_of_length_le (by simp [h17l])
  have h16a : c.tail.all V.one = true := by
    rw [List.all_eq_true]
    exact fun x hx => h17' x (List.mem_of_mem_tail hx)
  have hmin : min 16 (fH w) = fH w := by cases w <;> decide
  have hrows : setAll (List.replicate (fH w) (V.i .i64 0)) 0 (c.tail.take (fH w)) = rowsC w l := by
    have hh : fH w ≤ 9 := by cases w <;> decide
    rw [setAll_full (by simp [h17l]; omega)]
    apply List.ext_getElem?
    intro y
    rw [List.getElem?_take]
    by_cases hy : y < fH w
    · rw [if_pos hy, List.getElem?_tail, ← hc, List.getElem?_take, if_pos (by omega), List.getElem?_drop, fontC_get w (by omega)]
      rw [show 2 + l * 17 + (y + 1) = 2 + l * 17 + 1 + y by omega, fC_r w hl hy]
      simp [rowsC, List.getElem?_range hy]
    · rw [if_neg hy, List.getElem?_eq_none (by simp [rowsC]; omega)]
  have hc0 : c[0]? = some (.i .i64 (fW w l)) := by
    rw [← hc, List.getElem?_take, if_pos (by omega), List.getElem?_drop, fontC_get w (by omega)]
    rw [show 2 + l * 17 + 0 = 2 + l * 17 by omega, fC_w w hl]
  have hc0' : c[0] = .i .i64 (fW w l) := by
    rw [List.getElem?_eq_getElem (by omega)] at hc0
    exact Option.some.inj hc0
  have base : ACalls Try.prog 27 [.ag (fontC w), .i .u8 b.toNat] n H fun v n' H' => v = .ag [.i .i64 (fW w l), .sl (n + 3) 0 1 (fH w) true] ∧ n' = n + 4 ∧ ∃ a b c, H' = (n + 3, .row true (rowsC w l)) :: (n + 2, a) :: (n + 1, b) :: (n, c) :: H := by
    refine .enter0 F27_ok (by simp [F27]) ?_
    refine .seq (.ops (opsF_all (by simp; rfl) ?_))
    refine .seq (.seq (.ops (opsF_run 1 (by simp; rfl) ?_)))
    refine opsF_cons_call rfl rfl rfl (v := .i .i64 (fH w)) (by simpa using height_pure w _ _) ?_
    refine opsF_all (by simp [hH]; rfl) ?_
    refine .cond (t := false) (by simp [hH]) (.skip ?_)
    refine .seq (.ops (opsF_run 1 (by simp; rfl) ?_))
    refine opsF_cons_call rfl rfl rfl (v := .i .i64 l) (by simpa using hp _ _) ?_
    refine opsF_all (by simp [-List.all_eq_true, hl1, hl2, hc, h17l, h17]; rfl) ?_
    refine .seq (.ops (opsF_run 1 (by simp; rfl) ?_))
    refine opsF_cons_call rfl rfl rfl (v := .i .i64 (fH w)) (by simpa using height_pure w _ _) ?_
    refine opsF_all (by simp [hH0, hHb]; rfl) ?_
    refine .seq (.ops (opsF_run 3 (by simp [h17l]; rfl) ?_))
    refine opsF_all (by simp [-List.all_eq_true, hfull, h16, h16a, hmin, hrows, h17l]; rfl) ?_
    refine .seq (.ops (opsF_all (by simp [hc0, setAll]; rfl) ?_))
    refine .ret ?_
    simp [F27]
  refine .withIn base.1 fun hin _ => base.weakenR ?_
  rintro v n' H' ⟨rfl, rfl, a, b', c', rfl⟩
  have hφ : ∀ b, b < n → (fun b => if b < n then b else b + 3) b = b := fun b hb => if_pos hb
  refine ⟨fun b => if b < n then b else b + 3, .ag [.i .i64 (fW w l), .sl n 0 1 (fH w) true], n + 1, [(n, .row true (rowsC w l))] ++ H, hφ, by omega, .agL ⟨.i _ _, ?_, trivial⟩, ?_, rfl, rfl, rfl⟩
  · have := VRe.sl (φ := fun b => if b < n then b else b + 3) (m := n + 1) (id := n) (off := 0) (sz := 1) (len := fH w) (full := true) (full' := true) (by omega) (fun h => h)
    simpa using this
  · refine .keep hin (by omega) hφ (fun b hb => ?_) (fun b k hb hk => ?_) (fun b k hb => ?_) (fun b1 b2 k1 k2 h1 h2 _ => ?_)
    · show n ≤ if b < n then b else b + 3
      split <;> omega
    · rw [aget_cons, aget_cons, aget_cons, aget_cons, if_neg (by omega), if_neg (by omega), if_neg (by omega), if_neg (by omega)]
      exact hk
    · obtain ⟨e, rfl⟩ := aget_one hb
      rw [e]
      refine ⟨by omega, by omega, .row true (rowsC w l), by simp, .row (fun h => h) (VReL.refl (m := n) hφ ?_ |>.mono (by omega))⟩
      intro x hx
      simp only [rowsC, List.mem_map] at hx
      obtain ⟨y, _, rfl⟩ := hx
      exact .i _ _
    · rw [(aget_one h1).1, (aget_one h2).1]
end Go.Proofs.Ytpgelghkjiejlaa
