/- Contracts of laid, At and Fit of package text. -/
import Derived.Test.YtpgelghkjiejlaaCb
import Derived.Test.YtpgelghkjiejlaaSmRE
set_option linter.unusedVariables false
set_option linter.unusedSimpArgs false
set_option maxRecDepth 4000
namespace Go.Proofs.Ytpgelghkjiejlaa
open Go

theorem laid_ok (w : Bool) (s : List UInt8) (n : Nat) (H : Heap) : ACalls Try.prog 28 [.ag (fontC w), .s s] n H fun v n' H' =>
    v = .fn 42 [] [.p (n + 1) 0, .p n 0] ∧ n' = n + 2 ∧ H' = (n + 1, .row true [.s s]) :: (n, .row true (fontC w)) :: H := by
  refine .enter0 F28_ok (by simp [F28]) ?_
  refine .seq (.ops (opsF_all (by simp; rfl) ?_))
  refine .seq (.ops (opsF_all (by simp; rfl) ?_))
  exact .ret (by simp [F28])
/-- How wide the letters are together. -/
def pw (w : Bool) (s : List UInt8) : Nat := (s.map fun b => fW w (plc b)).sum
/-- The first letter behind which the column lies no more. -/
def atF (w : Bool) (dx : Int) : Nat → Nat → List UInt8 → Nat
  | _, i, [] => i
  | acc, i, b :: bs => if dx < ((acc + fW w (plc b) : Nat) : Int) then i else atF w dx (acc + fW w (plc b)) (i + 1) bs
def atN (w : Bool) (s : List UInt8) (dx : Int) : Nat := if dx < 0 then 0 else atF w dx 0 0 (s.take 4096)
/-- The heap in a range over a text's letters: the loop's record, the marks, the text, the font; C is what the consumer has. -/
def hL (w : Bool) (s : List UInt8) (r : ALoop) (C : Heap) : Heap := (7, .loop r) :: (6, .marks) :: (5, .row true [.s s]) :: (4, .row true (fontC w)) :: C
theorem fW_le (w : Bool) (l : Nat) : fW w l ≤ 8 := by unfold fW; split <;> omega
theorem pw_cons (w : Bool) (b : UInt8) (s : List UInt8) : pw w (b :: s) = fW w (plc b) + pw w s := by simp [pw]
theorem pw_append (w : Bool) (s t : List UInt8) : pw w (s ++ t) = pw w s + pw w t := by simp [pw]
theorem pw_le (w : Bool) (s : List UInt8) : pw w s ≤ 8 * s.length := by
  induction s with
  | nil => simp [pw]
  | cons b s ih => have := fW_le w (plc b); rw [pw_cons, List.length_cons]; omega
theorem pw_succ (w : Bool) (s : List UInt8) (i : Nat) (h : i < s.length) : pw w (s.take (i + 1)) = pw w (s.take i) + fW w (plc s[i]) := by
  rw [List.take_add_one, List.getElem?_eq_getElem h, pw_append]
  simp [pw]
theorem laid1_ok (w : Bool) (s : List UInt8) (r : ALoop) (hr : BIn 8 (.loop r)) (C : Nat → Heap) (hC : ∀ i, HIn 4 (C i)) (I : Nat → Prop) (hI : I 0) (F : Nat → Heap → Prop)
    (hy : ∀ (i : Nat) (hi : i < s.length), i < 4096 → I i → YCalls Try.prog 7 [.i .i64 (pw w (s.take i)), .ag [.i .i64 (fW w (plc s[i])), .sl 8 0 1 (fH w) true]] 10
      ((9, .row true [.i .i64 (fW w (plc s[i])), .sl 8 0 1 (fH w) true]) :: (8, .row true (rowsC w (plc s[i]))) :: hL w s r (C i))
      fun v n' H' => (v = .b true ∧ I (i + 1) ∧ (∀ b, b < 8 → aget H' b = aget (hL w s r (C (i + 1))) b) ∧ aget H' 9 = some (.row true [.i .i64 (fW w (plc s[i])), .sl 8 0 1 (fH w) true])) ∨ (v = .b false ∧ F n' H')) :
    ACalls Try.prog 42 [.yl 7, .p 5 0, .p 4 0] 8 (hL w s r (C 0)) fun _ n' H' => (I (min 4096 s.length) ∧ ∀ b, b < 8 → aget H' b = aget (hL w s r (C (min 4096 s.length))) b) ∨ F n' H' := by
  have hin : ∀ i, HIn 8 (hL w s r (C i)) := fun i => .cons' (by omega) hr (.cons' (by omega) trivial (.cons' (by omega) (by intro x hx; rw [List.mem_singleton.1 hx]; exact .s _) (.cons' (by omega) (fontC_in w _) ((hC i).mono (by omega)))))
  have g5 : ∀ C, aget (hL w s r C) 5 = some (.row true [.s s]) := fun C => by simp [hL]
  have g4 : ∀ C, aget (hL w s r C) 4 = some (.row true (fontC w)) := fun C => by simp [hL]
  refine .enter0 F42_ok (by simp [F42]) ?_
  refine .seq (.ops (opsF_all (by simp; rfl) ?_))
  refine .seq (.ops (opsF_run 1 (by simp [g5]; rfl) ?_))
  refine opsF_cons_call rfl rfl rfl (v := .s (s.take 4096)) (by simpa using counted_pure s _ _) ?_
  refine opsF_all (by simp; rfl) ?_
  refine .block (.loopR (φ₀ := id) (k₀ := min 4096 s.length) (s₀ := ⟨[(0, .yl 7), (1, .p 5 0), (2, .p 4 0), (4, .i .i64 0), (9, .i .i64 (min 4096 s.length : Nat)), (10, .i .i64 0)], [], 8, hL w s r (C 0)⟩)
    (fun k st => ∃ i, i ≤ min 4096 s.length ∧ I i ∧ k = min 4096 s.length - i ∧ st = ⟨[(0, .yl 7), (1, .p 5 0), (2, .p 4 0), (4, .i .i64 (pw w (s.take i))), (9, .i .i64 (min 4096 s.length : Nat)), (10, .i .i64 i)], [], 8, hL w s r (C i)⟩)
    ⟨0, by omega, hI, by omega, by simp [pw]⟩ ⟨TReL.spec ?_, rfl, by simp, .same (hin 0) fun _ _ => rfl⟩ (fun b hb => rfl) (fun k st ⟨i, h1, _, h2, h3⟩ => by simp [h3]) ?_)
  · simp only [TReL, and_true]
    simp
    refine ⟨VRe.yl (φ := id) (by omega), VRe.p (φ := id) (by omega), VRe.p (φ := id) (by omega), .i _ _, .i _ _, .i _ _⟩
  rintro k st ⟨i, h1, hIi, rfl, rfl⟩
  by_cases hi : i < min 4096 s.length
  · have hi1 : i < s.length := by omega
    have hi2 : i < 4096 := by omega
    have hpb := pw_le w (s.take (i + 1))
    have hps := pw_succ w s i hi1
    have hwr : IntKind.i64.wrap ((pw w (s.take i) : Int) + (fW w (plc s[i]) : Int)) = (pw w (s.take (i + 1)) : Int) := by
      rw [hps, IntWalk.i64_in _ (by simp at hpb; omega)]
      simp
    have hwi : IntKind.i64.wrap ((i : Int) + 1) = ((i + 1 : Nat) : Int) := IntWalk.i64_in _ (by omega)
    have hi' : (i : Int) < (min 4096 s.length : Nat) := by omega
    refine .seq (.ops (opsF_all (by simp only [runS]; simp [hi']; rfl) ?_))
    refine .seq (.cond (t := true) (by simp) (.skip ?_))
    refine .seq (.block (.seq (.ops (opsF_all (by simp; rfl) ?_))))
    have hg : s[i]? = some s[i] := List.getElem?_eq_getElem hi1
    refine .seq (.draw (drawF_run 4 (by rfl) (by simp [g4, g5, hg]; exact ⟨rfl, rfl⟩) ?_))
    refine drawF_callN (v := .ag [.i .i64 (fW w (plc s[i])), .sl 8 0 1 (fH w) true]) (n1 := 9) (R := [(8, .row true (rowsC w (plc s[i])))]) rfl rfl rfl (glyph_ok w s[i] 8 []) (by simp) (by simp [Blk.own]) ?_ ?_
    · simp [inDB, vinB, binB, rowsC]
    refine drawF_all (by rfl) (by simp [setAll, Blk.own]; exact ⟨rfl, rfl⟩) ⟨by rfl, ?_⟩
    refine AWc.alikeH (H := (9, .row true [.i .i64 (fW w (plc s[i])), .sl 8 0 1 (fH w) true]) :: (8, .row true (rowsC w (plc s[i]))) :: hL w s r (C i)) (fun b => ?_) ?_
    · simp only [aget_mergeH, aget_cons, touch, aget_nil, List.contains_cons, List.contains_nil]
      by_cases e9 : b = 9
      · subst e9; simp
      · by_cases e8 : b = 8
        · subst e8; simp
        · simp only [Bool.or_eq_true, Bool.and_eq_true, decide_eq_true_eq, beq_iff_eq, Bool.or_false]
          repeat' split
          all_goals first | rfl | (simp_all; done) | (exfalso; simp_all; omega)
    refine .seq (.seq (.ops (opsF_run 3 (by simp; rfl) ?_)))
    refine opsF_call rfl rfl (callV_yl (YCalls.mono (hy i hi1 hi2 hIi) ?_))
    rintro v n' H' (⟨rfl, hI1, h8, h9⟩ | ⟨rfl, hF⟩)
    · refine opsF_all (by simp; rfl) ?_
      refine .cond (t := false) (by simp) (.skip ?_)
      refine .ops (opsF_all (by simp [h9, hwr]; rfl) ?_)
      refine .ops (opsF_all (by simp [hwi]; rfl) ?_)
      refine ⟨min 4096 s.length - (i + 1), id, _, by omega, ⟨i + 1, by omega, hI1, rfl, rfl⟩, fun _ _ => rfl, ⟨TReL.spec ?_, rfl, by simp, .same (hin (i + 1)) h8⟩⟩
      simp only [TReL, and_true]
      simp
      exact ⟨VRe.yl (φ := id) (by omega), VRe.p (φ := id) (by omega), VRe.p (φ := id) (by omega), .i _ _, .i _ _, .i _ _⟩
    · refine opsF_all (by simp; rfl) ?_
      refine .cond (t := true) (by simp) (.ret ?_)
      simp [F42, hF]
  · have hi' : ¬ (i : Int) < (min 4096 s.length : Nat) := by omega
    obtain rfl : i = min 4096 s.length := by omega
    refine .seq (.ops (opsF_all (by simp only [runS]; simp; rfl) ?_))
    refine .seq (.cond (t := false) (by simp) (.exit ?_))
    simp [F42, hIi]
theorem TIn_of {n : Nat} {T : Temps} (h : ∀ p ∈ T, VIn n p.2) : ∀ i v, aget T i = some v → VIn n v := fun i v hv => h (i, v) (aget_mem hv)
/-- Before letter i the answer is not yet given. -/
theorem atF_step (w : Bool) (dx : Int) (s : List UInt8) (i : Nat) (h : i < s.length) : atF w dx (pw w (s.take i)) i (s.drop i) = if dx < ((pw w (s.take (i + 1)) : Nat) : Int) then i else atF w dx (pw w (s.take (i + 1))) (i + 1) (s.drop (i + 1)) := by
  rw [List.drop_eq_getElem_cons h, atF, pw_succ w s i h]
def atAs : ACode := (.seq (.ops none [⟨(some 8), (.mv (.t 15)), none⟩])
      (.ops none [⟨(some 9), (.new [(.i .i64 0), .nils]), none⟩,
        ⟨none, (.st 2 (.t 9) (.t 16)), none⟩]))
def atBo : ACode := (.block 1 (.seq (.seq (.ops none [⟨(some 17), (.ld false 1 (.t 5)), none⟩,
         ⟨(some 18), (.mv (.t 8)), none⟩,
         ⟨(some 19), (.fa 0 (.t 9)), none⟩,
         ⟨(some 20), (.ld false 1 (.t 19)), none⟩,
         ⟨(some 21), (.bin .add (.t 18) (.t 20)), none⟩,
         ⟨(some 22), (.bin .lss (.t 17) (.t 21)), none⟩])
       (.cond (.t 22)
        (.seq (.ops none [⟨(some 23), (.ld false 1 (.t 7)), none⟩,
          ⟨none, (.st 1 (.t 6) (.t 23)), none⟩])
         (.ret))
        (.skip)))
       (.ops none [⟨(some 24), (.ld false 1 (.t 7)), none⟩,
        ⟨(some 25), (.bin .add (.t 24) (.c (.i .i64 1))), none⟩,
        ⟨none, (.st 1 (.t 7) (.t 25)), none⟩])))
def fitBo : ACode := (.block 1 (.seq (.seq (.ops none [⟨(some 17), (.mv (.t 8)), none⟩,
         ⟨(some 18), (.fa 0 (.t 9)), none⟩,
         ⟨(some 19), (.ld false 1 (.t 18)), none⟩,
         ⟨(some 20), (.bin .add (.t 17) (.t 19)), none⟩,
         ⟨(some 21), (.ld false 1 (.t 5)), none⟩,
         ⟨(some 22), (.bin .gtr (.t 20) (.t 21)), none⟩])
       (.cond (.t 22)
        (.seq (.ops none [⟨(some 23), (.ld false 1 (.t 7)), none⟩,
          ⟨none, (.st 1 (.t 6) (.t 23)), none⟩])
         (.ret))
        (.skip)))
       (.ops none [⟨(some 24), (.ld false 1 (.t 7)), none⟩,
        ⟨(some 25), (.bin .add (.t 24) (.c (.i .i64 1))), none⟩,
        ⟨none, (.st 1 (.t 7) (.t 25)), none⟩])))
def atT (w : Bool) (s : List UInt8) (dx : Int) : Temps := [(0, .ag (fontC w)), (1, .s s), (2, .i .i64 dx), (3, .p 0 0), (5, .p 1 0), (6, .p 2 0), (10, .i .i64 dx), (11, .b false), (7, .p 3 0), (12, .ag (fontC w)), (13, .s s), (14, .fn 42 [] [.p 5 0, .p 4 0])]
/-- The record of the range in At, and in Fit. -/
def atRec (w : Bool) (s : List UInt8) (dx : Int) (body : ACode) : ALoop := ⟨.ready, none, 27, atT w s dx, [15, 16], atAs, body, 6⟩
/-- What At and Fit have beside the range. -/
def atC (w : Bool) (dx : Int) (i : Nat) : Heap := [(3, .row true [.i .i64 i]), (2, .row true [.i .i64 0]), (1, .row true [.i .i64 dx]), (0, .row true (fontC w))]
def atF' (w : Bool) (s : List UInt8) (dx : Int) (n' : Nat) (H' : Heap) : Prop := (∃ r, aget H' 7 = some (.loop r) ∧ r.st ≠ .busy ∧ r.pend = some .ret) ∧ aget H' 6 = some .marks ∧ aget H' 2 = some (.row true [.i .i64 (atN w s dx)])
theorem at_yield (w : Bool) (s : List UInt8) (dx : Int) (i : Nat) (hi : i < s.length) (hi2 : i < 4096) (hI : atF w dx (pw w ((s.take 4096).take i)) i ((s.take 4096).drop i) = atN w s dx) :
    YCalls Try.prog 7 [.i .i64 (pw w (s.take i)), .ag [.i .i64 (fW w (plc s[i])), .sl 8 0 1 (fH w) true]] 10
      ((9, .row true [.i .i64 (fW w (plc s[i])), .sl 8 0 1 (fH w) true]) :: (8, .row true (rowsC w (plc s[i]))) :: hL w s (atRec w s dx atBo) (atC w dx i))
      fun v n' H' => (v = .b true ∧ atF w dx (pw w ((s.take 4096).take (i + 1))) (i + 1) ((s.take 4096).drop (i + 1)) = atN w s dx ∧ (∀ b, b < 8 → aget H' b = aget (hL w s (atRec w s dx atBo) (atC w dx (i + 1))) b) ∧ aget H' 9 = some (.row true [.i .i64 (fW w (plc s[i])), .sl 8 0 1 (fH w) true])) ∨ (v = .b false ∧ atF' w s dx n' H') := by
  have ht : (s.take 4096).take i = s.take i := by rw [List.take_take]; congr 1; omega
  have ht1 : (s.take 4096).take (i + 1) = s.take (i + 1) := by rw [List.take_take]; congr 1; omega
  have hst := atF_step w dx (s.take 4096) i (by simp; omega)
  rw [ht, ht1] at hst
  rw [ht1]
  rw [ht, hst] at hI
  have hpb := pw_le w (s.take (i + 1))
  have hps := pw_succ w s i hi
  have hwr : IntKind.i64.wrap ((pw w (s.take i) : Int) + (fW w (plc s[i]) : Int)) = (pw w (s.take (i + 1)) : Int) := by
    rw [hps, IntWalk.i64_in _ (by simp at hpb; omega)]
    simp
  have hwi : IntKind.i64.wrap ((i : Int) + 1) = ((i + 1 : Nat) : Int) := IntWalk.i64_in _ (by omega)
  generalize hp0 : pw w (s.take i) = p0 at hwr ⊢
  generalize hp1 : pw w (s.take (i + 1)) = p1 at hwr hI ⊢
  generalize fW w (plc s[i]) = g at hwr ⊢
  generalize rowsC w (plc s[i]) = rows
  refine ⟨atRec w s dx atBo, by simp [hL], by simp [atRec], by simp [atRec], ?_⟩
  refine AWc.seq (.ops (opsF_all (by simp [atRec, atT, putAll]; rfl) ?_))
  refine .ops (opsF_all (by simp [hL, setAll]; rfl) ?_)
  refine ⟨rfl, rfl, atRec w s dx atBo, by simp [atRec, atT], rfl, ?_⟩
  refine AWc.block (.seq (.seq (.ops (opsF_all (by simp [atC, hwr]; rfl) ?_))))
  by_cases hd : dx < (p1 : Int)
  · rw [if_pos hd] at hI
    refine .cond (t := true) (by simp [hd]) (.seq (.ops (opsF_all (by simp [setAll]; rfl) ?_)))
    exact .ret ⟨_, rfl, .inr ⟨rfl, ⟨_, rfl, by simp, rfl⟩, rfl, by rw [← hI]; rfl⟩⟩
  · rw [if_neg hd] at hI
    refine .cond (t := false) (by simp [hd]) (.skip ?_)
    refine .ops (opsF_all (by simp [setAll, hwi]; rfl) ?_)
    refine ⟨_, rfl, .inl ⟨rfl, hI, fun b hb => ?_, rfl⟩⟩
    have : b = 0 ∨ b = 1 ∨ b = 2 ∨ b = 3 ∨ b = 4 ∨ b = 5 ∨ b = 6 ∨ b = 7 := by omega
    rcases this with rfl | rfl | rfl | rfl | rfl | rfl | rfl | rfl <;> rfl
theorem fit_yield (w : Bool) (s : List UInt8) (dx : Int) (i : Nat) (hi : i < s.length) (hi2 : i < 4096) (hI : atF w dx (pw w ((s.take 4096).take i)) i ((s.take 4096).drop i) = atN w s dx) :
    YCalls Try.prog 7 [.i .i64 (pw w (s.take i)), .ag [.i .i64 (fW w (plc s[i])), .sl 8 0 1 (fH w) true]] 10
      ((9, .row true [.i .i64 (fW w (plc s[i])), .sl 8 0 1 (fH w) true]) :: (8, .row true (rowsC w (plc s[i]))) :: hL w s (atRec w s dx fitBo) (atC w dx i))
      fun v n' H' => (v = .b true ∧ atF w dx (pw w ((s.take 4096).take (i + 1))) (i + 1) ((s.take 4096).drop (i + 1)) = atN w s dx ∧ (∀ b, b < 8 → aget H' b = aget (hL w s (atRec w s dx fitBo) (atC w dx (i + 1))) b) ∧ aget H' 9 = some (.row true [.i .i64 (fW w (plc s[i])), .sl 8 0 1 (fH w) true])) ∨ (v = .b false ∧ atF' w s dx n' H') := by
  have ht : (s.take 4096).take i = s.take i := by rw [List.take_take]; congr 1; omega
  have ht1 : (s.take 4096).take (i + 1) = s.take (i + 1) := by rw [List.take_take]; congr 1; omega
  have hst := atF_step w dx (s.take 4096) i (by simp; omega)
  rw [ht, ht1] at hst
  rw [ht1]
  rw [ht, hst] at hI
  have hpb := pw_le w (s.take (i + 1))
  have hps := pw_succ w s i hi
  have hwr : IntKind.i64.wrap ((pw w (s.take i) : Int) + (fW w (plc s[i]) : Int)) = (pw w (s.take (i + 1)) : Int) := by
    rw [hps, IntWalk.i64_in _ (by simp at hpb; omega)]
    simp
  have hwi : IntKind.i64.wrap ((i : Int) + 1) = ((i + 1 : Nat) : Int) := IntWalk.i64_in _ (by omega)
  generalize hp0 : pw w (s.take i) = p0 at hwr ⊢
  generalize hp1 : pw w (s.take (i + 1)) = p1 at hwr hI ⊢
  generalize fW w (plc s[i]) = g at hwr ⊢
  generalize rowsC w (plc s[i]) = rows
  refine ⟨atRec w s dx fitBo, by simp [hL], by simp [atRec], by simp [atRec], ?_⟩
  refine AWc.seq (.ops (opsF_all (by simp [atRec, atT, putAll]; rfl) ?_))
  refine .ops (opsF_all (by simp [hL, setAll]; rfl) ?_)
  refine ⟨rfl, rfl, atRec w s dx fitBo, by simp [atRec, atT], rfl, ?_⟩
  refine AWc.block (.seq (.seq (.ops (opsF_all (by simp [atC, hwr]; rfl) ?_))))
  by_cases hd : dx < (p1 : Int)
  · rw [if_pos hd] at hI
    refine .cond (t := true) (by simp [hd]) (.seq (.ops (opsF_all (by simp [setAll]; rfl) ?_)))
    exact .ret ⟨_, rfl, .inr ⟨rfl, ⟨_, rfl, by simp, rfl⟩, rfl, by rw [← hI]; rfl⟩⟩
  · rw [if_neg hd] at hI
    refine .cond (t := false) (by simp [hd]) (.skip ?_)
    refine .ops (opsF_all (by simp [setAll, hwi]; rfl) ?_)
    refine ⟨_, rfl, .inl ⟨rfl, hI, fun b hb => ?_, rfl⟩⟩
    have : b = 0 ∨ b = 1 ∨ b = 2 ∨ b = 3 ∨ b = 4 ∨ b = 5 ∨ b = 6 ∨ b = 7 := by omega
    rcases this with rfl | rfl | rfl | rfl | rfl | rfl | rfl | rfl <;> rfl
theorem at_ok (w : Bool) (s : List UInt8) (dx : Int) : ACalls Try.prog 10 [.ag (fontC w), .s s, .i .i64 dx] 0 [] fun v _ _ => v = .i .i64 (atN w s dx) := by
  refine .enter F10_ok (by simp [F10]) ?_
  refine .seq (.ops (opsF_all (by simp; rfl) ?_))
  by_cases h0 : dx < 0
  · refine .seq (.seq (.ops (opsF_all (by simp [h0]; rfl) ?_)))
    refine .cond (t := true) (by simp [h0]) (.seq (.ops (opsF_all (by simp [setAll]; rfl) ?_)))
    exact .ret (by simp [F10, delAll, atN, h0])
  refine .seq (.seq (.ops (opsF_all (by simp [h0]; rfl) ?_)))
  refine .cond (t := false) (by simp [h0]) (.skip ?_)
  refine .seq (.ops (opsF_all (by simp [setAll]; rfl) ?_))
  refine .seq (.seq (.ops (opsF_run 2 (by simp; rfl) ?_)))
  refine opsF_call rfl rfl (callV_fn (ACalls.mono (laid_ok w s _ _) ?_))
  rintro _ _ _ ⟨rfl, rfl, rfl⟩
  refine opsF_nil ?_
  refine .block (.rangeF_top (by simp; exact ⟨rfl, rfl, rfl⟩) ?_)
  refine ACalls.mono (laid1_ok w s (atRec w s dx atBo) ⟨by simp [atRec], TIn_of ?_⟩ (fun i => atC w dx i) (fun i => ?_)
    (fun i => atF w dx (pw w ((s.take 4096).take i)) i ((s.take 4096).drop i) = atN w s dx) (by simp [atN, h0, pw]) (atF' w s dx) (fun i hi hi2 hI => at_yield w s dx i hi hi2 hI)) ?_
  · simp only [atRec, atT]
    intro p hp
    simp at hp
    rcases hp with rfl | rfl | rfl | rfl | rfl | rfl | rfl | rfl | rfl | rfl | rfl | rfl
    all_goals first | exact ag_in | exact .s _ | exact .i _ _ | exact .p (by omega) | exact .b _ | skip
    exact .fn (by simp) (by intro x hx; simp at hx; rcases hx with rfl | rfl <;> exact .p (by omega))
  · refine .cons' (by omega) (by simp [BIn, VIn.i]) (.cons' (by omega) (by simp [BIn, VIn.i]) (.cons' (by omega) (by simp [BIn, VIn.i]) (.cons' (by omega) (fontC_in w _) (.nil' _))))
  · rintro v n' H' (⟨hI, h8⟩ | ⟨⟨r, h7, hr, hp⟩, h6, h2⟩)
    · refine ⟨_, h8 7 (by omega), by simp [atRec], ?_⟩
      have g3 : aget (adel H' 7) 3 = some (.row true [.i .i64 (min 4096 s.length : Nat)]) := by rw [aget_del, if_neg (by omega)]; exact h8 3 (by omega)
      have g2 : aget (adel H' 7) 2 = some (.row true [.i .i64 0]) := by rw [aget_del, if_neg (by omega)]; exact h8 2 (by omega)
      have g6 : aget (adel H' 7) 6 = some .marks := by rw [aget_del, if_neg (by omega)]; exact h8 6 (by omega)
      have hend : atN w s dx = min 4096 s.length := by
        rw [← hI, List.drop_of_length_le (by simp)]
        rfl
      simp only [atRec]
      refine AWc.seq (.ops (opsF_all (by simp [g3, g2, setAll]; rfl) ?_))
      refine .ret ⟨.inr rfl, ?_, by simp, ?_⟩
      · simp [aget_put, g6]
      · simp [F10, delAll, aget_del, aget_put, hend]
    · refine ⟨r, h7, hr, ?_⟩
      rw [hp]
      refine ⟨.inr rfl, ?_, by simp, ?_⟩
      · simp [aget_del, h6]
      · simp [F10, delAll, aget_del, h2]
theorem at_pure (w : Bool) (s : List UInt8) (dx : Int) (n : Nat) (H : Heap) : Pure Try.prog 10 [.ag (fontC w), .s s, .i .i64 dx] n H (.i .i64 (atN w s dx)) :=
  .of0 (at_ok w s dx) (by
    intro x hx
    simp at hx
    rcases hx with rfl | rfl | rfl
    · exact ag_in
    · exact .s _
    · exact .i _ _) (.i _ _) n H
theorem fit_ok (w : Bool) (s : List UInt8) (dx : Int) : ACalls Try.prog 12 [.ag (fontC w), .s s, .i .i64 dx] 0 [] fun v _ _ => v = .i .i64 (atN w s dx) := by
  refine .enter F12_ok (by simp [F12]) ?_
  refine .seq (.ops (opsF_all (by simp; rfl) ?_))
  by_cases h0 : dx < 0
  · refine .seq (.seq (.ops (opsF_all (by simp [h0]; rfl) ?_)))
    refine .cond (t := true) (by simp [h0]) (.seq (.ops (opsF_all (by simp [setAll]; rfl) ?_)))
    exact .ret (by simp [F12, delAll, atN, h0])
  refine .seq (.seq (.ops (opsF_all (by simp [h0]; rfl) ?_)))
  refine .cond (t := false) (by simp [h0]) (.skip ?_)
  refine .seq (.ops (opsF_all (by simp [setAll]; rfl) ?_))
  refine .seq (.seq (.ops (opsF_run 2 (by simp; rfl) ?_)))
  refine opsF_call rfl rfl (callV_fn (ACalls.mono (laid_ok w s _ _) ?_))
  rintro _ _ _ ⟨rfl, rfl, rfl⟩
  refine opsF_nil ?_
  refine .block (.rangeF_top (by simp; exact ⟨rfl, rfl, rfl⟩) ?_)
  refine ACalls.mono (laid1_ok w s (atRec w s dx fitBo) ⟨by simp [atRec], TIn_of ?_⟩ (fun i => atC w dx i) (fun i => ?_)
    (fun i => atF w dx (pw w ((s.take 4096).take i)) i ((s.take 4096).drop i) = atN w s dx) (by simp [atN, h0, pw]) (atF' w s dx) (fun i hi hi2 hI => fit_yield w s dx i hi hi2 hI)) ?_
  · simp only [atRec, atT]
    intro p hp
    simp at hp
    rcases hp with rfl | rfl | rfl | rfl | rfl | rfl | rfl | rfl | rfl | rfl | rfl | rfl
    all_goals first | exact ag_in | exact .s _ | exact .i _ _ | exact .p (by omega) | exact .b _ | skip
    exact .fn (by simp) (by intro x hx; simp at hx; rcases hx with rfl | rfl <;> exact .p (by omega))
  · refine .cons' (by omega) (by simp [BIn, VIn.i]) (.cons' (by omega) (by simp [BIn, VIn.i]) (.cons' (by omega) (by simp [BIn, VIn.i]) (.cons' (by omega) (fontC_in w _) (.nil' _))))
  · rintro v n' H' (⟨hI, h8⟩ | ⟨⟨r, h7, hr, hp⟩, h6, h2⟩)
    · refine ⟨_, h8 7 (by omega), by simp [atRec], ?_⟩
      have g3 : aget (adel H' 7) 3 = some (.row true [.i .i64 (min 4096 s.length : Nat)]) := by rw [aget_del, if_neg (by omega)]; exact h8 3 (by omega)
      have g2 : aget (adel H' 7) 2 = some (.row true [.i .i64 0]) := by rw [aget_del, if_neg (by omega)]; exact h8 2 (by omega)
      have g6 : aget (adel H' 7) 6 = some .marks := by rw [aget_del, if_neg (by omega)]; exact h8 6 (by omega)
      have hend : atN w s dx = min 4096 s.length := by
        rw [← hI, List.drop_of_length_le (by simp)]
        rfl
      simp only [atRec]
      refine AWc.seq (.ops (opsF_all (by simp [g3, g2, setAll]; rfl) ?_))
      refine .ret ⟨.inr rfl, ?_, by simp, ?_⟩
      · simp [aget_put, g6]
      · simp [F12, delAll, aget_del, aget_put, hend]
    · refine ⟨r, h7, hr, ?_⟩
      rw [hp]
      refine ⟨.inr rfl, ?_, by simp, ?_⟩
      · simp [aget_del, h6]
      · simp [F12, delAll, aget_del, h2]
theorem fit_pure (w : Bool) (s : List UInt8) (dx : Int) (n : Nat) (H : Heap) : Pure Try.prog 12 [.ag (fontC w), .s s, .i .i64 dx] n H (.i .i64 (atN w s dx)) :=
  .of0 (fit_ok w s dx) (by
    intro x hx
    simp at hx
    rcases hx with rfl | rfl | rfl
    · exact ag_in
    · exact .s _
    · exact .i _ _) (.i _ _) n H
end Go.Proofs.Ytpgelghkjiejlaa
