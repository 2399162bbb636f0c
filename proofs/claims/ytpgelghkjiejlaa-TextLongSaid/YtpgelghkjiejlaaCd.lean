/- Contracts of Width, and of the document's At and Fit. -/
import Derived.Test.YtpgelghkjiejlaaCc
set_option linter.unusedVariables false
set_option linter.unusedSimpArgs false
set_option maxRecDepth 4000
namespace Go.Proofs.Ytpgelghkjiejlaa
open Go

theorem HIn.self {n : Nat} {H : Heap} (h : HIn n H) : HRe id n H H := .same h fun _ _ => rfl
theorem font1_in (w : Bool) : HIn 1 [(0, .row true (fontC w))] := .cons' (by omega) (fontC_in w _) (.nil' _)
theorem width_pure (w : Bool) (s : List UInt8) (hs : s.length ≤ 100000) (n : Nat) (H : Heap) : Pure Try.prog 14 [.ag (fontC w), .s s] n H (.i .i64 (pw w s)) := by
  refine .of0 (.enter0 F14_ok (by simp [F14]) ?_) (by
    intro x hx
    simp at hx
    rcases hx with rfl | rfl
    · exact ag_in
    · exact .s _) (.i _ _) n H
  refine .seq (.ops (opsF_all (by simp; rfl) ?_))
  refine .seq (.ops (opsF_all (by simp; rfl) ?_))
  refine .seq (.seq (.ops (opsF_all (by simp; rfl) ?_)))
  refine .block (.loopR (φ₀ := id) (k₀ := s.length) (s₀ := ⟨[(1, .s s), (2, .p 0 0), (5, .i .i64 0), (8, .i .i64 s.length), (9, .i .i64 0)], [], 1, [(0, .row true (fontC w))]⟩)
    (fun k st => ∃ i, i ≤ s.length ∧ k = s.length - i ∧ st = ⟨[(1, .s s), (2, .p 0 0), (5, .i .i64 (pw w (s.take i))), (8, .i .i64 s.length), (9, .i .i64 i)], [], 1, [(0, .row true (fontC w))]⟩)
    ⟨0, by omega, by omega, by simp [pw]⟩ ⟨TReL.spec ?_, rfl, by simp, (font1_in w).self⟩ (fun b hb => rfl) (fun k st ⟨i, h1, h2, h3⟩ => by simp [h3]) ?_)
  · simp only [TReL, and_true]
    simp
    exact ⟨.s _, VRe.p (φ := id) (by omega), .i _ _, .i _ _, .i _ _⟩
  rintro k st ⟨i, h1, rfl, rfl⟩
  by_cases hi : i < s.length
  · have hpb := pw_le w (s.take (i + 1))
    have hps := pw_succ w s i hi
    have hwr : IntKind.i64.wrap ((pw w (s.take i) : Int) + (fW w (plc s[i]) : Int)) = (pw w (s.take (i + 1)) : Int) := by
      rw [hps, IntWalk.i64_in _ (by simp at hpb; omega)]
      simp
    have hwi : IntKind.i64.wrap ((i : Int) + 1) = ((i + 1 : Nat) : Int) := IntWalk.i64_in _ (by omega)
    have hi' : (i : Int) < s.length := by omega
    have hg : s[i]? = some s[i] := List.getElem?_eq_getElem hi
    have hpl := plc_lt s[i]
    have hpp := fun n H => place_pure s[i] n H
    generalize hl : plc s[i] = l at hpl hpp hwr
    have hc : (fontC w)[2 + l * 17]? = some (.i .i64 (fW w l)) := by rw [fontC_get w (by omega), fC_w w hpl]
    have hl1 : (l : Int) < 95 := by omega
    refine .seq (.ops (opsF_all (by simp [hi']; rfl) ?_))
    refine .seq (.cond (t := true) (by simp [hi']) (.skip ?_))
    refine .seq (.block (.seq (.ops (opsF_all (by simp; rfl) ?_))))
    refine .ops (opsF_run 4 (by simp [hg]; rfl) ?_)
    refine opsF_cons_call rfl rfl rfl (v := .i .i64 l) (by simpa using hpp _ _) ?_
    refine opsF_run 2 (by simp [hl1]; rfl) ?_
    refine opsF_all (by simp [hc, hwr]; rfl) ?_
    refine .ops (opsF_all (by simp [hwi]; rfl) ?_)
    refine ⟨s.length - (i + 1), id, _, by omega, ⟨i + 1, by omega, rfl, rfl⟩, fun _ _ => rfl, ⟨TReL.spec ?_, rfl, by simp, (font1_in w).self⟩⟩
    simp only [TReL, and_true]
    simp
    exact ⟨.s _, VRe.p (φ := id) (by omega), .i _ _, .i _ _, .i _ _⟩
  · have hi' : ¬ (i : Int) < s.length := by omega
    obtain rfl : i = s.length := by omega
    refine .seq (.ops (opsF_all (by simp; rfl) ?_))
    refine .seq (.cond (t := false) (by simp) (.exit ?_))
    refine AWc.seq (.ops (opsF_all (by simp; rfl) ?_))
    exact .ret (by simp [F14])
/-- A slice of so many cells, from a block's beginning. -/
def slW (id len : Nat) : V := if len = 0 then .nils else .sl id 0 1 len false
@[simp] theorem slW_known (id len : Nat) : (slW id len).known = true := by unfold slW; split <;> rfl
@[simp] theorem slW_one (id len : Nat) : (slW id len).one = true := by unfold slW; split <;> rfl
@[simp high] theorem slW_len (id len : Nat) : evLen false (slW id len) = some (.i .i64 len) := by
  unfold slW
  split
  · rename_i h; subst h; rfl
  · rfl
theorem slW_ias (id len i : Nat) (h : i < len) : evIas 1 (slW id len) (.i .i64 i) = some (.p id i) := by
  unfold slW
  rw [if_neg (by omega)]
  have h1 : (0 : Int) ≤ (i : Int) ∧ (i : Int) < (len : Int) := by omega
  simp [evIas, h1]
theorem slW_in {id len n : Nat} (h : len ≠ 0 → id < n) : VIn n (slW id len) := by
  unfold slW
  split
  · exact .nils
  · exact .sl (h (by assumption))
/-- The widths of a text's letters. -/
def cellsW (w : Bool) (s : List UInt8) : List V := s.map fun b => .i .i64 (fW w (plc b))
theorem cellsW_get (w : Bool) (s : List UInt8) (i : Nat) (h : i < s.length) : (cellsW w s)[i]? = some (.i .i64 (fW w (plc s[i]))) := by
  simp [cellsW, h]
theorem atF_neg (w : Bool) (dx : Int) (h : dx < 0) (s : List UInt8) : atF w dx 0 0 s = 0 := by
  cases s with
  | nil => rfl
  | cons b s => rw [atF, if_pos (by omega)]
theorem refAt_pure (w : Bool) (s : List UInt8) (hs : s.length ≤ 100000) (a : Nat) (R A B : V) (hR : R.known = true) (hA : A.known = true) (hB : B.known = true) (dx : Int) (n : Nat) (H : Heap) (ha : s ≠ [] → a < n ∧ ∃ o, aget H a = some (.row o (cellsW w s))) :
    Pure Try.prog 11 [.ag [slW a s.length, R, A, B], .i .i64 dx] n H (.i .i64 (atF w dx 0 0 s)) := by
  refine Pure.of_drop ?_ (.i _ _)
  suffices h : HIn n H → (∀ x ∈ [V.ag [slW a s.length, R, A, B], .i .i64 dx], VIn n x) → ACalls Try.prog 11 [.ag [slW a s.length, R, A, B], .i .i64 dx] n H (fun v' n' H' => v' = .i .i64 (atF w dx 0 0 s) ∧ ∀ b k, aget H b = some k → aget H' b = some k) from
    .withIn (ACalls.enters F11_ok trivial) h
  intro hin hargs
  have hbox : BIn (n + 1) (.row true [slW a s.length, R, A, B]) := by
    have := hargs (.ag [slW a s.length, R, A, B]) (by simp)
    cases this with
    | ag h => exact fun x hx => (h x hx).mono (by omega)
  have hinn : HIn (n + 1) ((n, .row true [slW a s.length, R, A, B]) :: H) := .cons' (by omega) hbox (hin.mono (by omega))
  have hold : ∀ b k, aget H b = some k → aget ((n, Blk.row true [slW a s.length, R, A, B]) :: H) b = some k := fun b k hb => by
    have := (hin b k hb).1
    rw [aget_cons, if_neg (by omega)]
    exact hb
  refine .enter0 F11_ok (by simp [F11]) ?_
  refine .seq (.ops (opsF_all (by simp [-evLen]; rfl) ?_))
  refine .seq (.ops (opsF_all (by simp [-evLen]; rfl) ?_))
  refine .seq (.seq (.ops (opsF_all (by simp [-evLen]; rfl) ?_)))
  refine .block (.loopR (φ₀ := id) (k₀ := s.length) (s₀ := ⟨[(1, .i .i64 dx), (2, .p n 0), (5, .i .i64 0), (6, .i .i64 0)], [], n + 1, (n, .row true [slW a s.length, R, A, B]) :: H⟩)
    (fun k st => ∃ i, i ≤ s.length ∧ atF w dx (pw w (s.take i)) i (s.drop i) = atF w dx 0 0 s ∧ k = s.length - i ∧ st = ⟨[(1, .i .i64 dx), (2, .p n 0), (5, .i .i64 (pw w (s.take i))), (6, .i .i64 i)], [], n + 1, (n, .row true [slW a s.length, R, A, B]) :: H⟩)
    ⟨0, by omega, by simp [pw], by omega, by simp [pw]⟩ ⟨TReL.spec ?_, rfl, by simp, hinn.self⟩ (fun b hb => rfl) (fun k st ⟨i, h1, _, h2, h3⟩ => by simp [h3]) ?_)
  · simp only [TReL, and_true]
    simp
    repeat' (first | exact VRe.i _ _ | exact VRe.p (φ := id) (by omega) | exact VRe.s _ | exact VRe.yl (φ := id) (by omega) | exact VRe.b _ | apply And.intro)
  rintro k st ⟨i, h1, hI, rfl, rfl⟩
  by_cases hi : i < s.length
  · obtain ⟨ha1, o, ha2⟩ := ha (by rintro rfl; simp at hi)
    have hst := atF_step w dx s i hi
    rw [hst] at hI
    have hpb := pw_le w (s.take (i + 1))
    have hps := pw_succ w s i hi
    have hwr : IntKind.i64.wrap ((pw w (s.take i) : Int) + (fW w (plc s[i]) : Int)) = (pw w (s.take (i + 1)) : Int) := by
      rw [hps, IntWalk.i64_in _ (by simp at hpb; omega)]
      simp
    have hwi : IntKind.i64.wrap ((i : Int) + 1) = ((i + 1 : Nat) : Int) := IntWalk.i64_in _ (by omega)
    have hi' : (i : Int) < s.length := by omega
    have hc := cellsW_get w s i hi
    have hias := slW_ias a s.length i hi
    have hna : ¬ n = a := by omega
    generalize hp0 : pw w (s.take i) = p0 at hwr ⊢
    generalize hp1 : pw w (s.take (i + 1)) = p1 at hwr hI ⊢
    generalize fW w (plc s[i]) = g at hwr hc ⊢
    refine .seq (.seq (.ops (opsF_all (by simp [-evLen, hi']; rfl) ?_)))
    refine .cond (t := true) (by simp [hi']) (.skip ?_)
    refine .seq (.block (.seq (.ops (opsF_run 4 (by simp; rfl) ?_))))
    refine opsF_all (by simp [-evIas, hias, hna, ha2, hc, hwr]; rfl) ?_
    by_cases hd : dx < (p1 : Int)
    · rw [if_pos hd] at hI
      refine .seq (.ops (opsF_all (by simp [hd]; rfl) ?_))
      refine .cond (t := true) (by simp) (.seq (.ops (opsF_all (by simp [-evLen]; rfl) ?_)))
      refine .ret ?_
      simp [F11, hI]
      exact hold
    · rw [if_neg hd] at hI
      refine .seq (.ops (opsF_all (by simp [hd]; rfl) ?_))
      refine .cond (t := false) (by simp) (.skip ?_)
      refine .ops (opsF_all (by simp [hwi]; rfl) ?_)
      refine ⟨s.length - (i + 1), id, _, by omega, ⟨i + 1, by omega, by rw [hp1]; exact hI, rfl, rfl⟩, fun _ _ => rfl, ⟨TReL.spec ?_, rfl, by simp, hinn.self⟩⟩
      simp only [TReL, and_true]
      simp
      rw [hp1]
      repeat' (first | exact VRe.i _ _ | exact VRe.p (φ := id) (by omega) | exact VRe.s _ | exact VRe.yl (φ := id) (by omega) | exact VRe.b _ | apply And.intro)
  · have hi' : ¬ (i : Int) < s.length := by omega
    obtain rfl : i = s.length := by omega
    have hend : atF w dx 0 0 s = s.length := by rw [← hI, List.drop_of_length_le (by omega)]; rfl
    refine .seq (.seq (.ops (opsF_all (by simp [-evLen]; rfl) ?_)))
    refine .cond (t := false) (by simp) (.exit ?_)
    refine AWc.seq (.ops (opsF_all (by simp [-evLen]; rfl) ?_))
    refine .ret ?_
    simp [F11, hend]
    exact hold
theorem refFit_pure (w : Bool) (s : List UInt8) (hs : s.length ≤ 100000) (a : Nat) (R A B : V) (hR : R.known = true) (hA : A.known = true) (hB : B.known = true) (dx : Int) (n : Nat) (H : Heap) (ha : s ≠ [] → a < n ∧ ∃ o, aget H a = some (.row o (cellsW w s))) :
    Pure Try.prog 13 [.ag [slW a s.length, R, A, B], .i .i64 dx] n H (.i .i64 (atF w dx 0 0 s)) := by
  refine Pure.of_drop ?_ (.i _ _)
  suffices h : HIn n H → (∀ x ∈ [V.ag [slW a s.length, R, A, B], .i .i64 dx], VIn n x) → ACalls Try.prog 13 [.ag [slW a s.length, R, A, B], .i .i64 dx] n H (fun v' n' H' => v' = .i .i64 (atF w dx 0 0 s) ∧ ∀ b k, aget H b = some k → aget H' b = some k) from
    .withIn (ACalls.enters F13_ok trivial) h
  intro hin hargs
  have hbox : BIn (n + 1) (.row true [slW a s.length, R, A, B]) := by
    have := hargs (.ag [slW a s.length, R, A, B]) (by simp)
    cases this with
    | ag h => exact fun x hx => (h x hx).mono (by omega)
  have hinn : HIn (n + 1) ((n, .row true [slW a s.length, R, A, B]) :: H) := .cons' (by omega) hbox (hin.mono (by omega))
  have hold : ∀ b k, aget H b = some k → aget ((n, Blk.row true [slW a s.length, R, A, B]) :: H) b = some k := fun b k hb => by
    have := (hin b k hb).1
    rw [aget_cons, if_neg (by omega)]
    exact hb
  refine .enter0 F13_ok (by simp [F13]) ?_
  refine .seq (.ops (opsF_all (by simp [-evLen]; rfl) ?_))
  refine .seq (.ops (opsF_all (by simp [-evLen]; rfl) ?_))
  refine .seq (.seq (.ops (opsF_all (by simp [-evLen]; rfl) ?_)))
  refine .block (.loopR (φ₀ := id) (k₀ := s.length) (s₀ := ⟨[(1, .i .i64 dx), (2, .p n 0), (5, .i .i64 0), (6, .i .i64 0)], [], n + 1, (n, .row true [slW a s.length, R, A, B]) :: H⟩)
    (fun k st => ∃ i, i ≤ s.length ∧ atF w dx (pw w (s.take i)) i (s.drop i) = atF w dx 0 0 s ∧ k = s.length - i ∧ st = ⟨[(1, .i .i64 dx), (2, .p n 0), (5, .i .i64 (pw w (s.take i))), (6, .i .i64 i)], [], n + 1, (n, .row true [slW a s.length, R, A, B]) :: H⟩)
    ⟨0, by omega, by simp [pw], by omega, by simp [pw]⟩ ⟨TReL.spec ?_, rfl, by simp, hinn.self⟩ (fun b hb => rfl) (fun k st ⟨i, h1, _, h2, h3⟩ => by simp [h3]) ?_)
  · simp only [TReL, and_true]
    simp
    repeat' (first | exact VRe.i _ _ | exact VRe.p (φ := id) (by omega) | exact VRe.s _ | exact VRe.yl (φ := id) (by omega) | exact VRe.b _ | apply And.intro)
  rintro k st ⟨i, h1, hI, rfl, rfl⟩
  by_cases hi : i < s.length
  · obtain ⟨ha1, o, ha2⟩ := ha (by rintro rfl; simp at hi)
    have hst := atF_step w dx s i hi
    rw [hst] at hI
    have hpb := pw_le w (s.take (i + 1))
    have hps := pw_succ w s i hi
    have hwr : IntKind.i64.wrap ((pw w (s.take i) : Int) + (fW w (plc s[i]) : Int)) = (pw w (s.take (i + 1)) : Int) := by
      rw [hps, IntWalk.i64_in _ (by simp at hpb; omega)]
      simp
    have hwi : IntKind.i64.wrap ((i : Int) + 1) = ((i + 1 : Nat) : Int) := IntWalk.i64_in _ (by omega)
    have hi' : (i : Int) < s.length := by omega
    have hc := cellsW_get w s i hi
    have hias := slW_ias a s.length i hi
    have hna : ¬ n = a := by omega
    generalize hp0 : pw w (s.take i) = p0 at hwr ⊢
    generalize hp1 : pw w (s.take (i + 1)) = p1 at hwr hI ⊢
    generalize fW w (plc s[i]) = g at hwr hc ⊢
    refine .seq (.seq (.ops (opsF_all (by simp [-evLen, hi']; rfl) ?_)))
    refine .cond (t := true) (by simp [hi']) (.skip ?_)
    refine .seq (.block (.seq (.ops (opsF_run 4 (by simp; rfl) ?_))))
    refine opsF_all (by simp [-evIas, hias, hna, ha2, hc, hwr]; rfl) ?_
    by_cases hd : dx < (p1 : Int)
    · rw [if_pos hd] at hI
      refine .seq (.ops (opsF_all (by simp [hd]; rfl) ?_))
      refine .cond (t := true) (by simp) (.seq (.ops (opsF_all (by simp [-evLen]; rfl) ?_)))
      refine .ret ?_
      simp [F13, hI]
      exact hold
    · rw [if_neg hd] at hI
      refine .seq (.ops (opsF_all (by simp [hd]; rfl) ?_))
      refine .cond (t := false) (by simp) (.skip ?_)
      refine .ops (opsF_all (by simp [hwi]; rfl) ?_)
      refine ⟨s.length - (i + 1), id, _, by omega, ⟨i + 1, by omega, by rw [hp1]; exact hI, rfl, rfl⟩, fun _ _ => rfl, ⟨TReL.spec ?_, rfl, by simp, hinn.self⟩⟩
      simp only [TReL, and_true]
      simp
      rw [hp1]
      repeat' (first | exact VRe.i _ _ | exact VRe.p (φ := id) (by omega) | exact VRe.s _ | exact VRe.yl (φ := id) (by omega) | exact VRe.b _ | apply And.intro)
  · have hi' : ¬ (i : Int) < s.length := by omega
    obtain rfl : i = s.length := by omega
    have hend : atF w dx 0 0 s = s.length := by rw [← hI, List.drop_of_length_le (by omega)]; rfl
    refine .seq (.seq (.ops (opsF_all (by simp [-evLen]; rfl) ?_)))
    refine .cond (t := false) (by simp) (.exit ?_)
    by_cases h0 : dx < 0
    · rw [atF_neg w dx h0] at hend
      refine AWc.seq (.seq (.ops (opsF_all (by simp [h0]; rfl) ?_)))
      refine .cond (t := true) (by simp) (.seq (.ops (opsF_all (by simp [-evLen]; rfl) ?_)))
      refine .ret ?_
      simp [F13, atF_neg w dx h0]
      exact hold
    · refine AWc.seq (.seq (.ops (opsF_all (by simp [h0]; rfl) ?_)))
      refine .cond (t := false) (by simp) (.skip ?_)
      refine .seq (.ops (opsF_all (by simp [-evLen]; rfl) ?_))
      refine .ret ?_
      simp [F13, hend]
      exact hold
end Go.Proofs.Ytpgelghkjiejlaa
