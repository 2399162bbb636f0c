/- The verifier's Ink: whether a place is ink of a text. The verifier's Ink, as a whole. The plain law of a text's ink. The plain law of a text's ink: letters and texts. TextRegions: its loops. TextRegions: behind its region. TextRegions: the whole. -/
import Derived.Test.YtpgelghkjiejlaaGas
import Derived.Test.YtpgelghkjiejlaaGaq
import Derived.Test.YtpgelghkjiejlaaGam
set_option linter.unusedVariables false
set_option linter.unusedSimpArgs false
section
set_option maxRecDepth 4000
namespace Go.Proofs.Ytpgelghkjiejlaa
open Go
attribute [local irreducible] opsF drawF drawP fontC shV
theorem bit_pure (row c : Nat) (hr : row ≤ 1000000) (hc : c ≤ 1000000) (n : Nat) (H : Heap) : Pure Try.prog 35 [.i .i64 row, .i .i64 c] n H (.b (decide (row / 2 ^ c % 2 = 1))) := by
  refine .of0 (.enter0 F35_ok (by simp [F35]) ?_) (by simp [VIn.i]) (.b _) n H
  refine .seq (.ops (opsF_all (by simp; rfl) ?_))
  refine .seq (.seq (.ops (opsF_all (by simp; rfl) ?_)))
  refine .block (.loop (k₀ := c) (s₀ := ⟨[(0, .i .i64 row), (1, .i .i64 c), (5, .i .i64 0)], [], 0, []⟩)
    (fun k st => ∃ i : Nat, i ≤ c ∧ k = c - i ∧ st = ⟨[(0, .i .i64 (row / 2 ^ i : Nat)), (1, .i .i64 c), (5, .i .i64 i)], [], 0, []⟩)
    ⟨0, by omega, rfl, by simp⟩ (St.less_F (by simp) (by simp)) (Nat.le_refl _) (fun k st ⟨i, h1, h2, h3⟩ => by rw [h3]; exact Nat.le_refl _) ?_)
  rintro k st ⟨i, h1, rfl, rfl⟩
  have hle : row / 2 ^ i ≤ 1000000 := Nat.le_trans (Nat.div_le_self _ _) hr
  by_cases hi : i < c
  · have hi' : (i : Int) < c := by omega
    have hwi : IntKind.i64.wrap ((i : Int) + 1) = ((i + 1 : Nat) : Int) := IntWalk.i64_in _ (by omega)
    have hd : row / 2 ^ (i + 1) = row / 2 ^ i / 2 := by rw [Nat.pow_succ, Nat.div_div_eq_div_mul]
    generalize hq : row / 2 ^ i = q at hle hd
    have hwq : IntKind.i64.wrap ((q : Int).tdiv 2) = ((q / 2 : Nat) : Int) := by
      have e : (q : Int).tdiv 2 = ((q / 2 : Nat) : Int) := rfl
      rw [e, IntWalk.i64_in _ (by omega)]
    have hwq2 : IntKind.i64.wrap ((q : Int) / 2) = (q : Int) / 2 := IntWalk.i64_in _ (by omega)
    refine .seq (.seq (.ops (opsF_all (by simp [hi']; rfl) ?_)))
    refine .cond (t := true) (by simp) (.skip ?_)
    refine .seq (.block (.ops (opsF_all (by simp [hwq]; rfl) ?_)))
    refine .ops (opsF_all (by simp [hwi]; rfl) ?_)
    exact ⟨c - (i + 1), ⟨[(0, .i .i64 (row / 2 ^ (i + 1) : Nat)), (1, .i .i64 c), (5, .i .i64 ((i + 1 : Nat)))], [], 0, []⟩, by omega, ⟨i + 1, by omega, rfl, rfl⟩, St.less_F (by simp) (by simp [hd, hwq2])⟩
  · obtain rfl : i = c := by omega
    generalize hq : row / 2 ^ i = q at hle ⊢
    have hb : (((q : Int).tmod 2) == 1) = decide (q % 2 = 1) := by
      have e : (q : Int).tmod 2 = ((q % 2 : Nat) : Int) := rfl
      rw [e]
      rcases Nat.mod_two_eq_zero_or_one q with h | h <;> rw [h] <;> rfl
    refine .seq (.seq (.ops (opsF_all (by simp; rfl) ?_)))
    refine .cond (t := false) (by simp) (.exit ?_)
    refine .seq (.ops (opsF_all (by simp; rfl) ?_))
    exact .ret (by simp [F35, hb])
def inkF (w : Bool) (row : Nat) (i : Int) : Int → List UInt8 → Bool
  | _, [] => false
  | p, b :: s => if p ≤ i ∧ i < p + (fW w (plc b) : Nat) then decide (fR w (plc b) row / 2 ^ ((i - p).toNat) % 2 = 1) else inkF w row i (p + (fW w (plc b) : Nat)) s
theorem inkF_cons (w : Bool) (row : Nat) (i p : Int) (b : UInt8) (s : List UInt8) : inkF w row i p (b :: s) = if p ≤ i ∧ i < p + (fW w (plc b) : Nat) then decide (fR w (plc b) row / 2 ^ ((i - p).toNat) % 2 = 1) else inkF w row i (p + (fW w (plc b) : Nat)) s := rfl
def inB (i j : Int) : Bool := decide (i < 1048576) && (decide (j < 1048576) && (decide (-1048576 ≤ i) && decide (-1048576 ≤ j)))
def inkB (w : Bool) (x y : Int) (s : List UInt8) (i j : Int) : Bool :=
  inB i j && (decide (0 ≤ j - y + (fA w : Nat)) && (decide (j - y + (fA w : Nat) < (fH w : Nat)) && inkF w (j - y + (fA w : Nat)).toNat i x s))
theorem SlO.mono {H H' : Heap} {S : V} {w : Bool} {s : List UInt8} (h : SlO H S w s) (hm : ∀ b k, aget H b = some k → aget H' b = some k) : SlO H' S w s := by
  rcases h with h | ⟨m, full, o, ids, h1, h2, h3, h4⟩
  · exact .inl h
  · exact .inr ⟨m, full, o, ids, h1, hm _ _ h2, h3, fun j id hj => let ⟨o', h⟩ := h4 j id hj; ⟨o', hm _ _ h⟩⟩
theorem fR_le (w : Bool) (l y : Nat) : fR w l y ≤ 1000000 := by
  unfold fR
  have h2 : 2 ^ (fW true l - 1) ≤ 2 ^ 8 := Nat.pow_le_pow_right (by omega) (by have := fW_le true l; omega)
  split
  · omega
  · split
    · have := Nat.mod_lt ((l + 32) * (2 * y + 5) + 7 * y) (Nat.pow_pos (n := fW true l - 1) (show 0 < 2 by omega)); omega
    · split
      · omega
      · have := Nat.mod_lt ((l + 32) * (y + 3) + y) (show 0 < 8 by omega); omega
def kLo : ACode := (.seq (.seq (.ops none [⟨(some 49), (.mv (.t 13)), none⟩,
         ⟨(some 50), (.fa 0 (.t 5)), none⟩,
         ⟨(some 51), (.ld false 1 (.t 50)), none⟩,
         ⟨(some 52), (.blen false (.t 51)), none⟩,
         ⟨(some 53), (.bin .lss (.t 49) (.t 52)), none⟩])
       (.cond (.t 53)
        (.skip)
        (.exit 0)))
       (.seq (.block 1 (.seq (.seq (.ops none [⟨(some 56), (.mv (.t 3)), none⟩,
          ⟨(some 57), (.mv (.t 12)), none⟩,
          ⟨(some 58), (.bin .geq (.t 56) (.t 57)), none⟩,
          ⟨(some 59), (.mv (.t 58)), none⟩,
          ⟨(some 60), (.mv (.t 3)), (some ((some 59), true))⟩,
          ⟨(some 61), (.mv (.t 12)), (some ((some 59), true))⟩,
          ⟨(some 62), (.fa 0 (.t 5)), (some ((some 59), true))⟩,
          ⟨(some 63), (.ld false 1 (.t 62)), (some ((some 59), true))⟩,
          ⟨(some 64), (.mv (.t 13)), (some ((some 59), true))⟩,
          ⟨(some 65), (.ias 1 (.t 63) (.t 64)), (some ((some 59), true))⟩,
          ⟨(some 66), (.ld false 1 (.t 65)), (some ((some 59), true))⟩,
          ⟨(some 67), (.bin .add (.t 61) (.t 66)), (some ((some 59), true))⟩,
          ⟨(some 68), (.bin .lss (.t 60) (.t 67)), (some ((some 59), true))⟩,
          ⟨(some 69), (.pick (.t 59) (.t 68) (.c (.b false))), none⟩])
         (.cond (.t 69)
          (.seq (.ops none [⟨(some 70), (.fa 1 (.t 5)), none⟩,
            ⟨(some 71), (.ld false 1 (.t 70)), none⟩,
            ⟨(some 72), (.mv (.t 13)), none⟩,
            ⟨(some 73), (.ias 1 (.t 71) (.t 72)), none⟩,
            ⟨(some 74), (.ld false 1 (.t 73)), none⟩,
            ⟨(some 75), (.mv (.t 11)), none⟩,
            ⟨(some 76), (.ias 1 (.t 74) (.t 75)), none⟩,
            ⟨(some 77), (.ld false 1 (.t 76)), none⟩,
            ⟨(some 78), (.mv (.t 3)), none⟩,
            ⟨(some 79), (.mv (.t 12)), none⟩,
            ⟨(some 80), (.bin .sub (.t 78) (.t 79)), none⟩,
            ⟨(some 81), (.call (.f 35) [(.t 77), (.t 80)]), none⟩,
            ⟨(some 10), (.mv (.t 81)), none⟩])
          (.ret))
          (.skip)))
        (.ops none [⟨(some 82), (.mv (.t 12)), none⟩,
          ⟨(some 83), (.fa 0 (.t 5)), none⟩,
          ⟨(some 84), (.ld false 1 (.t 83)), none⟩,
          ⟨(some 85), (.mv (.t 13)), none⟩,
          ⟨(some 86), (.ias 1 (.t 84) (.t 85)), none⟩,
          ⟨(some 87), (.ld false 1 (.t 86)), none⟩,
          ⟨(some 88), (.bin .add (.t 82) (.t 87)), none⟩,
          ⟨(some 12), (.mv (.t 88)), none⟩])))
       (.ops none [⟨(some 54), (.mv (.t 13)), none⟩,
         ⟨(some 55), (.bin .add (.t 54) (.c (.i .i64 1))), none⟩,
         ⟨(some 13), (.mv (.t 55)), none⟩])))
theorem kLo_ok {Q : Exit → St → Prop} (w : Bool) (x i : Int) (row : Nat) (hrow : row < fH w) (hx : -1048576 ≤ x ∧ x ≤ 1048576) (hi0 : -2000000 ≤ i ∧ i ≤ 2000000) (s : List UInt8) (hs : s.length ≤ 4096) (SW SR : V) (c5 : Nat) (n : Nat) (H : Heap) (hc5 : aget H c5 = some (.row true [SW, SR, .i .i64 (fA w : Nat), .i .i64 (fH w : Nat)])) (hW : SlW H SW w s) (hR : SlO H SR w s)
    (hret : inkF w row i x s = true → ∀ T', aget T' 10 = some (.b true) → Q .ret ⟨T', [], n, H⟩) (hret2 : inkF w row i x s = false → ∀ T', aget T' 10 = some (.b false) → Q .ret ⟨T', [], n, H⟩) (hend : inkF w row i x s = false → ∀ T', Q .normal ⟨T', [], n, H⟩) :
    AWc Try.prog 89 none (.block 0 (.loop kLo)) ⟨[(3, .i .i64 i), (5, .p c5 0), (11, .i .i64 row), (12, .i .i64 x), (13, .i .i64 0)], [], n, H⟩ Q := by
  have hL := hW.len
  have hrow' : (row : Int) < (fH w : Nat) := by omega
  refine .block (.loop (k₀ := s.length) (s₀ := ⟨[(3, .i .i64 i), (5, .p c5 0), (11, .i .i64 row), (12, .i .i64 x), (13, .i .i64 0)], [], n, H⟩)
    (fun k st => ∃ j : Nat, j ≤ s.length ∧ k = s.length - j ∧ inkF w row i (x + (pw w (s.take j) : Nat)) (s.drop j) = inkF w row i x s ∧ st = ⟨[(3, .i .i64 i), (5, .p c5 0), (11, .i .i64 row), (12, .i .i64 (x + (pw w (s.take j) : Nat))), (13, .i .i64 j)], [], n, H⟩)
    ⟨0, by omega, rfl, by simp [pw], by simp [pw]⟩ (St.less_F (by simp) (by simp)) (Nat.le_refl _) (fun k st ⟨i, h1, h2, h3, h4⟩ => by rw [h4]; exact Nat.le_refl _) ?_)
  rintro k st ⟨j, h1, rfl, h3, rfl⟩
  unfold kLo
  by_cases hj : j < s.length
  · rcases hW with ⟨rfl, _⟩ | ⟨m, full, o, rfl, hm⟩
    · simp at hj
    rcases hR with ⟨rfl, _⟩ | ⟨mr, full2, o2, ids, rfl, hmr, hil, hids⟩
    · simp at hj
    have hj' : (j : Int) < s.length := by omega
    have hwj : IntKind.i64.wrap ((j : Int) + 1) = ((j + 1 : Nat) : Int) := IntWalk.i64_in _ (by omega)
    have hg := cellsW_at w s hj
    have hgd : s.getD j 0 = s[j] := by simp [List.getD, List.getElem?_eq_getElem hj]
    have hjid : j < ids.length := by omega
    obtain ⟨o3, hrid⟩ := hids j ids[j] (List.getElem?_eq_getElem hjid)
    rw [hgd] at hrid
    have hrg := rowsC_get w (plc s[j]) hrow
    have hmap : (List.map (slRow w) ids)[j]? = some (.sl ids[j] 0 1 (fH w) true) := by rw [List.getElem?_map, List.getElem?_eq_getElem hjid]; rfl
    have hps := pw_succ w s j hj
    have hpb := pw_le w (s.take (j + 1))
    have hfw := fW_le w (plc s[j])
    have hfr := fR_le w (plc s[j]) row
    have htl : (s.take (j + 1)).length = j + 1 := by simp; omega
    rw [htl] at hpb
    have hdr : s.drop j = s[j] :: s.drop (j + 1) := List.drop_eq_getElem_cons hj
    rw [hdr] at h3
    rw [inkF_cons] at h3
    have hp2 : ((pw w (s.take (j + 1)) : Nat) : Int) = (pw w (s.take j) : Nat) + (fW w (plc s[j]) : Nat) := by rw [hps]; simp
    rw [Int.add_assoc, ← hp2] at h3
    generalize hpj : ((pw w (s.take j) : Nat) : Int) = pj at h3 hp2 ⊢
    have hpj0 : 0 ≤ pj := by omega
    generalize hpj1 : ((pw w (s.take (j + 1)) : Nat) : Int) = pj1 at h3 hp2
    have hpl : pj1 ≤ 32768 := by omega
    have hwp : IntKind.i64.wrap (x + pj + (fW w (plc s[j]) : Nat)) = x + pj1 := by rw [IntWalk.i64_in _ (by omega)]; omega
    have hnext : inkF w row i (x + pj1) (s.drop (j + 1)) = inkF w row i x s → ∀ T : Temps, (([(3, V.i .i64 i), (5, .p c5 0), (11, .i .i64 row), (12, .i .i64 (x + pj)), (13, .i .i64 j)] : Temps).map fun p => aget T p.1) = (([(3, V.i .i64 i), (5, .p c5 0), (11, .i .i64 row), (12, .i .i64 (x + pj)), (13, .i .i64 j)] : Temps).map fun p => some p.2) →
        AWc Try.prog 89 none (.ops none [⟨(some 82), (.mv (.t 12)), none⟩,
          ⟨(some 83), (.fa 0 (.t 5)), none⟩,
          ⟨(some 84), (.ld false 1 (.t 83)), none⟩,
          ⟨(some 85), (.mv (.t 13)), none⟩,
          ⟨(some 86), (.ias 1 (.t 84) (.t 85)), none⟩,
          ⟨(some 87), (.ld false 1 (.t 86)), none⟩,
          ⟨(some 88), (.bin .add (.t 82) (.t 87)), none⟩,
          ⟨(some 12), (.mv (.t 88)), none⟩]) ⟨T, [], n, H⟩ (fun e st => e = .normal ∧ AWc Try.prog 89 none (.ops none [⟨(some 54), (.mv (.t 13)), none⟩,
         ⟨(some 55), (.bin .add (.t 54) (.c (.i .i64 1))), none⟩,
         ⟨(some 13), (.mv (.t 55)), none⟩]) st (fun e s' => e = .normal ∧ ∃ k s'', k < s.length - j ∧ (∃ j : Nat, j ≤ s.length ∧ k = s.length - j ∧ inkF w row i (x + (pw w (s.take j) : Nat)) (s.drop j) = inkF w row i x s ∧ s'' = ⟨[(3, .i .i64 i), (5, .p c5 0), (11, .i .i64 row), (12, .i .i64 (x + (pw w (s.take j) : Nat))), (13, .i .i64 j)], [], n, H⟩) ∧ St.less s'' s')) := by
      intro hh T hT
      have hj2 : (j : Int) < s.length := by omega
      refine AWc.forget hT (.ops (opsF_run 5 (by simp [hc5, hj2]; rfl) ?_))
      refine opsF_all (by simp [hm, hg, hwp]; rfl) ⟨rfl, ?_⟩
      refine .ops (opsF_all (by simp [hwj]; rfl) ⟨rfl, ?_⟩)
      exact ⟨s.length - (j + 1), ⟨[(3, .i .i64 i), (5, .p c5 0), (11, .i .i64 row), (12, .i .i64 (x + (pw w (s.take (j + 1)) : Nat))), (13, .i .i64 ((j + 1 : Nat)))], [], n, H⟩, by omega, ⟨j + 1, by omega, rfl, by rw [hpj1]; exact hh, rfl⟩, St.less_F (by simp) (by simp [hpj1])⟩
    refine .seq (.seq (.ops (opsF_run 3 (by simp [hc5]; rfl) ?_)))
    refine opsF_all (by simp [hj']; rfl) ?_
    refine .cond (t := true) (by simp [hj']) (.skip ?_)
    refine AWc.forget (T0 := [(3, .i .i64 i), (5, .p c5 0), (11, .i .i64 row), (12, .i .i64 (x + pj)), (13, .i .i64 j)]) (by simp) ?_
    by_cases b1 : x + pj ≤ i
    · by_cases b2 : i < x + pj1
      · have hcond : x + pj ≤ i ∧ i < x + pj1 := by omega
        rw [if_pos hcond] at h3
        have hsub : IntKind.i64.wrap (i - (x + pj)) = ((i - (x + pj)).toNat : Int) := by rw [IntWalk.i64_in _ (by omega)]; omega
        have hbp := fun m G => bit_pure (fR w (plc s[j]) row) ((i - (x + pj)).toNat) hfr (by omega) m G
        refine .seq (.block (.seq (.seq (.ops (opsF_run 4 (by simp [b1]; rfl) ?_)))))
        refine opsF_run 4 (by simp [hc5]; rfl) ?_
        refine opsF_run 2 (by simp [hj']; rfl) ?_
        refine opsF_run 2 (by simp [hm, hg, hwp]; rfl) ?_
        refine opsF_all (by simp [b2]; rfl) ?_
        refine .cond (t := true) (by simp) ?_
        refine AWc.forget (T0 := [(3, .i .i64 i), (5, .p c5 0), (11, .i .i64 row), (12, .i .i64 (x + pj)), (13, .i .i64 j)]) (by simp) ?_
        refine .seq (.ops (opsF_run 4 (by simp [hc5, hj']; rfl) ?_))
        refine opsF_run 3 (by simp [hmr, hmap, hrow']; rfl) ?_
        refine opsF_run 4 (by simp [hrid, hrg, hsub]; rfl) ?_
        refine opsF_cons_call rfl rfl rfl (v := .b (decide (fR w (plc s[j]) row / 2 ^ ((i - (x + pj)).toNat) % 2 = 1))) (by simpa using hbp _ _) ?_
        rw [h3]
        cases hf : inkF w row i x s with
        | true => exact opsF_all (by simp; rfl) (.ret (hret hf _ (by simp)))
        | false => exact opsF_all (by simp; rfl) (.ret (hret2 hf _ (by simp)))
      · have hcond : ¬ (x + pj ≤ i ∧ i < x + pj1) := by omega
        rw [if_neg hcond] at h3
        refine .seq (.block (.seq (.seq (.ops (opsF_run 4 (by simp [b1]; rfl) ?_)))))
        refine opsF_run 4 (by simp [hc5]; rfl) ?_
        refine opsF_run 2 (by simp [hj']; rfl) ?_
        refine opsF_run 2 (by simp [hm, hg, hwp]; rfl) ?_
        refine opsF_all (by simp [b2]; rfl) ?_
        refine .cond (t := false) (by simp) (.skip ?_)
        exact (hnext h3 _ (by simp)).conseq fun e st hs => by
          obtain ⟨rfl, hs⟩ := hs
          exact hs.conseq fun e st hs => by
            obtain ⟨rfl, j, s'', q1, q2, q3⟩ := hs
            exact ⟨j, s'', q1, q2, q3⟩
    · have hcond : ¬ (x + pj ≤ i ∧ i < x + pj1) := fun hh => b1 hh.1
      rw [if_neg hcond] at h3
      refine .seq (.block (.seq (.seq (.ops (opsF_run 4 (by simp [b1]; rfl) ?_)))))
      refine opsF_run 5 (by simp; rfl) ?_
      refine opsF_all (by simp; rfl) ?_
      refine .cond (t := false) (by simp) (.skip ?_)
      exact (hnext h3 _ (by simp)).conseq fun e st hs => by
        obtain ⟨rfl, hs⟩ := hs
        exact hs.conseq fun e st hs => by
          obtain ⟨rfl, j, s'', q1, q2, q3⟩ := hs
          exact ⟨j, s'', q1, q2, q3⟩
  · obtain rfl : j = s.length := by omega
    rw [List.drop_length] at h3
    refine .seq (.seq (.ops (opsF_run 3 (by simp [hc5]; rfl) ?_)))
    refine opsF_run 1 (by simp [-evLen, hL]; rfl) ?_
    refine opsF_all (by simp; rfl) ?_
    refine .cond (t := false) (by simp) (.exit ?_)
    exact hend h3.symm _
end Go.Proofs.Ytpgelghkjiejlaa
end
section
set_option maxRecDepth 4000
namespace Go.Proofs.Ytpgelghkjiejlaa
open Go
attribute [local irreducible] opsF drawF drawP fontC shV
def kP (b : Bool) (H : Heap) : Exit → St → Prop := fun e st => (e = .normal ∨ e = .ret) ∧ st.D = [] ∧ ∃ vs, resAll st.T st.H F22.res = some vs ∧ (resV vs = .b b ∧ ∀ q k, aget H q = some k → aget st.H q = some k)
theorem kP_of {b : Bool} {H H1 : Heap} {e : Exit} {T : Temps} {n : Nat} (he : e = .normal ∨ e = .ret) (h10 : aget T 10 = some (.b b)) (hk : ∀ q k, aget H q = some k → aget H1 q = some k) : kP b H e ⟨T, [], n, H1⟩ :=
  ⟨he, rfl, [.b b], by simp [F22, h10], rfl, hk⟩
def kRe : ACode := (.seq (.ops none [⟨(some 34), (.mv (.t 4)), none⟩,
     ⟨(some 35), (.mv (.t 2)), none⟩,
     ⟨(some 36), (.bin .sub (.t 34) (.t 35)), none⟩,
     ⟨(some 37), (.fa 2 (.t 5)), none⟩,
     ⟨(some 38), (.ld false 1 (.t 37)), none⟩,
     ⟨(some 39), (.bin .add (.t 36) (.t 38)), none⟩,
     ⟨(some 11), (.mv (.t 39)), none⟩])
   (.seq (.seq (.ops none [⟨(some 40), (.mv (.t 11)), none⟩,
      ⟨(some 41), (.bin .lss (.t 40) (.c (.i .i64 0))), none⟩,
      ⟨(some 42), (.mv (.t 41)), none⟩,
      ⟨(some 43), (.mv (.t 11)), (some ((some 42), false))⟩,
      ⟨(some 44), (.fa 3 (.t 5)), (some ((some 42), false))⟩,
      ⟨(some 45), (.ld false 1 (.t 44)), (some ((some 42), false))⟩,
      ⟨(some 46), (.bin .geq (.t 43) (.t 45)), (some ((some 42), false))⟩,
      ⟨(some 47), (.pick (.t 42) (.c (.b true)) (.t 46)), none⟩])
    (.cond (.t 47)
     (.seq (.ops none [⟨(some 10), (.mv (.c (.b false))), none⟩])
      (.ret))
     (.skip)))
    (.seq (.ops none [⟨(some 48), (.mv (.t 1)), none⟩,
      ⟨(some 12), (.mv (.t 48)), none⟩])
    (.seq (.seq (.ops none [⟨(some 13), (.mv (.c (.i .i64 0))), none⟩])
     (.block 0 (.loop kLo)))
     (.seq (.ops none [⟨(some 10), (.mv (.c (.b false))), none⟩])
     (.ret))))))
theorem kRe_ok (w : Bool) (x y i j : Int) (s : List UInt8) (hs : s.length ≤ 4096) (hx : -1048576 ≤ x ∧ x ≤ 1048576) (hy : -1048576 ≤ y ∧ y ≤ 1048576) (hi : -2000000 ≤ i ∧ i ≤ 2000000) (hj : -2000000 ≤ j ∧ j ≤ 2000000) (hin : inB i j = true) (SW SR : V) (c5 n : Nat) (H0 H : Heap) (hc5 : aget H c5 = some (.row true [SW, SR, .i .i64 (fA w : Nat), .i .i64 (fH w : Nat)])) (hW : SlW H SW w s) (hR : SlO H SR w s) (hk : ∀ q k, aget H0 q = some k → aget H q = some k) :
    AWc Try.prog 89 none kRe ⟨[(1, .i .i64 x), (2, .i .i64 y), (3, .i .i64 i), (4, .i .i64 j), (5, .p c5 0)], [], n, H⟩ (kP (inkB w x y s i j) H0) := by
  have h9 := fH_le w
  have hA : fA w ≤ 7 := by cases w <;> decide
  have w1 : IntKind.i64.wrap (j - y) = j - y := IntWalk.i64_in _ (by omega)
  have w2 : IntKind.i64.wrap (j - y + (fA w : Nat)) = j - y + (fA w : Nat) := IntWalk.i64_in _ (by omega)
  have hB : inkB w x y s i j = (decide (0 ≤ j - y + (fA w : Nat)) && (decide (j - y + (fA w : Nat) < (fH w : Nat)) && inkF w (j - y + (fA w : Nat)).toNat i x s)) := by unfold inkB; rw [hin]; rfl
  unfold kRe
  refine .seq (.ops (opsF_run 3 (by simp [w1]; rfl) ?_))
  refine opsF_all (by simp [hc5, w2]; rfl) ?_
  refine AWc.forget (T0 := [(1, .i .i64 x), (3, .i .i64 i), (5, .p c5 0), (11, .i .i64 (j - y + (fA w : Nat)))]) (by simp) ?_
  generalize j - y + ((fA w : Nat) : Int) = r at hB
  by_cases b1 : r < 0
  · have hB' : inkB w x y s i j = false := by rw [hB]; simp; omega
    rw [hB']
    refine .seq (.seq (.ops (opsF_run 3 (by simp [b1]; rfl) ?_)))
    refine opsF_all (by simp; rfl) ?_
    refine .cond (t := true) (by simp) (.seq (.ops (opsF_all (by simp; rfl) ?_)))
    exact .ret (kP_of (.inr rfl) (by simp) hk)
  · by_cases b2 : (fH w : Nat) ≤ r
    · have hB' : inkB w x y s i j = false := by rw [hB]; simp; omega
      rw [hB']
      refine .seq (.seq (.ops (opsF_run 3 (by simp [b1]; rfl) ?_)))
      refine opsF_all (by simp [hc5, b2]; rfl) ?_
      refine .cond (t := true) (by simp) (.seq (.ops (opsF_all (by simp; rfl) ?_)))
      exact .ret (kP_of (.inr rfl) (by simp) hk)
    · have hB' : inkB w x y s i j = inkF w r.toNat i x s := by
        rw [hB]
        have e1 : 0 ≤ r := by omega
        have e2 : r < (fH w : Nat) := by omega
        simp [e1, e2]
      have hrn : r = (r.toNat : Int) := by omega
      have hrl : r.toNat < fH w := by omega
      generalize r.toNat = rn at hB' hrn hrl
      subst hrn
      rw [hB']
      refine .seq (.seq (.ops (opsF_run 3 (by simp [b1]; rfl) ?_)))
      refine opsF_all (by simp [hc5, b2]; rfl) ?_
      refine .cond (t := false) (by simp) (.skip ?_)
      refine .seq (.ops (opsF_all (by simp; rfl) ?_))
      refine .seq (.seq (.ops (opsF_all (by simp; rfl) ?_)))
      refine AWc.forget (T0 := [(3, .i .i64 i), (5, .p c5 0), (11, .i .i64 rn), (12, .i .i64 x), (13, .i .i64 0)]) (by simp) ?_
      refine kLo_ok w x i rn hrl hx hi s hs SW SR c5 n H hc5 hW hR (fun hf T' h10 => by rw [hf]; exact kP_of (.inr rfl) h10 hk) (fun hf T' h10 => by rw [hf]; exact kP_of (.inr rfl) h10 hk) (fun hf T' => ?_)
      rw [hf]
      refine AWc.forget (T0 := []) rfl ?_
      refine .seq (.ops (opsF_all (by simp; rfl) ?_))
      exact .ret (kP_of (.inr rfl) (by simp) hk)
theorem ink22_pure (w : Bool) (x y i j : Int) (s : List UInt8) (hs : s.length ≤ 4096) (hx : -1048576 ≤ x ∧ x ≤ 1048576) (hy : -1048576 ≤ y ∧ y ≤ 1048576) (hi : -2000000 ≤ i ∧ i ≤ 2000000) (hj : -2000000 ≤ j ∧ j ≤ 2000000) (SW SR : V) (n : Nat) (H : Heap) (hW : SlW H SW w s) (hR : SlO H SR w s) :
    Pure Try.prog 22 [.ag [SW, SR, .i .i64 (fA w : Nat), .i .i64 (fH w : Nat)], .i .i64 x, .i .i64 y, .i .i64 i, .i .i64 j] n H (.b (inkB w x y s i j)) := by
  refine .withIn (ACalls.enters F22_ok trivial) fun hin _ => ?_
  have hin : HIn n H := hin
  refine Pure.of_drop ?_ (.b _)
  have hcx : (coordV x && coordV y) = true := by simp [coordV]; omega
  have gk : ∀ q k, aget H q = some k → aget ((n, Blk.row true [SW, SR, .i .i64 (fA w : Nat), .i .i64 (fH w : Nat)]) :: H) q = some k := fun q k hq => by
    have := (hin _ _ hq).1
    rw [aget_cons, if_neg (by omega)]; exact hq
  refine .enter0 F22_ok (by simp [F22]) ?_
  refine AWc.conseq (Q := kP (inkB w x y s i j) H) ?_ (fun e st h => h)
  refine .seq (.ops (opsF_all (by simp; rfl) ?_))
  have hrest := kRe_ok w x y i j s hs hx hy hi hj
  refine .seq (.seq (.ops (opsF_run 2 (by simp; rfl) ?_)))
  refine opsF_cons_call rfl rfl rfl (v := .b true) (by simpa [hcx] using fits18_pure x y _ _) ?_
  have hfalse : inB i j = false → ∀ T : Temps, aget T 33 = some (.b true) → AWc Try.prog 89 none (.cond (.t 33)
    (.seq (.ops none [⟨(some 10), (.mv (.c (.b false))), none⟩])
     (.ret))
    (.skip)) ⟨T, [], n + 1, (n, Blk.row true [SW, SR, .i .i64 (fA w : Nat), .i .i64 (fH w : Nat)]) :: H⟩ (onNormal (fun s => False) (kP (inkB w x y s i j) H)) := by
    intro hb T ht
    have hB' : inkB w x y s i j = false := by unfold inkB; rw [hb]; rfl
    rw [hB']
    refine AWc.forget (T0 := [(33, .b true)]) (by simp [ht]) ?_
    refine .cond (t := true) (by simp) (.seq (.ops (opsF_all (by simp; rfl) ?_)))
    exact .ret (kP_of (.inr rfl) (by simp) gk)
  have hcv : ∀ {ac : ACode} {st : St} {K : St → Prop}, AWc Try.prog 89 none ac st (onNormal (fun s => False) (kP (inkB w x y s i j) H)) → AWc Try.prog 89 none ac st (onNormal K (kP (inkB w x y s i j) H)) := fun h => h.conseq fun e st h => by
    cases e <;> first | exact h.elim | exact h
  by_cases b1 : 1048576 ≤ i
  · refine opsF_run 5 (by simp [b1]; rfl) ?_
    refine opsF_run 4 (by simp; rfl) ?_
    refine opsF_run 4 (by simp; rfl) ?_
    refine opsF_all (by simp; rfl) ?_
    exact hcv (hfalse (by simp [inB]; omega) _ (by simp))
  · by_cases b2 : 1048576 ≤ j
    · refine opsF_run 5 (by simp [b1]; rfl) ?_
      refine opsF_run 4 (by simp [b2]; rfl) ?_
      refine opsF_run 4 (by simp; rfl) ?_
      refine opsF_all (by simp; rfl) ?_
      exact hcv (hfalse (by simp [inB]; omega) _ (by simp))
    · by_cases b3 : i < -1048576
      · refine opsF_run 5 (by simp [b1]; rfl) ?_
        refine opsF_run 4 (by simp [b2]; rfl) ?_
        refine opsF_run 4 (by simp [b3]; rfl) ?_
        refine opsF_all (by simp; rfl) ?_
        exact hcv (hfalse (by simp [inB]; omega) _ (by simp))
      · by_cases b4 : j < -1048576
        · refine opsF_run 5 (by simp [b1]; rfl) ?_
          refine opsF_run 4 (by simp [b2]; rfl) ?_
          refine opsF_run 4 (by simp [b3]; rfl) ?_
          refine opsF_all (by simp [b4]; rfl) ?_
          exact hcv (hfalse (by simp [inB]; omega) _ (by simp))
        · refine opsF_run 5 (by simp [b1]; rfl) ?_
          refine opsF_run 4 (by simp [b2]; rfl) ?_
          refine opsF_run 4 (by simp [b3]; rfl) ?_
          refine opsF_all (by simp [b4]; rfl) ?_
          refine .cond (t := false) (by simp) (.skip ?_)
          refine AWc.forget (T0 := [(1, .i .i64 x), (2, .i .i64 y), (3, .i .i64 i), (4, .i .i64 j), (5, .p n 0)]) (by simp) ?_
          exact hrest (by simp [inB]; omega) SW SR n (n + 1) H _ (by simp) (hW.mono gk) (hR.mono gk) gk
end Go.Proofs.Ytpgelghkjiejlaa
end
section
namespace Go.Proofs.Ytpgelghkjiejlaa
open Go
theorem shV_bit (row c : Nat) (hc : c ≤ 8) (hr : row ≤ 1000000) : (shV (row : Int) c == 0) = !decide (row / 2 ^ c % 2 = 1) := by
  have e1 : (row : Int).fdiv (2 ^ (min c 64)) = ((row / 2 ^ c : Nat) : Int) := by
    rw [Nat.min_eq_left (by omega), Int.fdiv_eq_ediv_of_nonneg _ (Int.le_of_lt (Int.pow_pos (by decide)))]
    simp
  have hq : row / 2 ^ c ≤ 1000000 := Nat.le_trans (Nat.div_le_self _ _) hr
  have e2 : (BitVec.ofInt 64 ((row / 2 ^ c : Nat) : Int) &&& BitVec.ofInt 64 1).toNat = row / 2 ^ c % 2 := by
    rw [BitVec.toNat_and, BitVec.ofInt_natCast, BitVec.toNat_ofNat, Nat.mod_eq_of_lt (by omega)]
    exact Nat.and_one_is_mod _
  unfold shV
  rw [e1, e2]
  rcases Nat.mod_two_eq_zero_or_one (row / 2 ^ c) with h | h <;> rw [h] <;> rfl
theorem w64_in {a : Int} (h : -9000000000000 ≤ a ∧ a ≤ 9000000000000) : w64 a = a := IntWalk.i64_in _ (by omega)
/-- The law of a row's stretches. -/
structure RunL (row : Nat) (left y : Int) (k : Nat) (l : List Rc) : Prop where
  ok : ∀ r ∈ l, OkRc r ∧ r.y = y ∧ r.h = 1 ∧ r.x + r.w ≤ left + k
  cov : ∀ i j, Cov l i j ↔ j = y ∧ (left ≤ i ∧ i < left + k) ∧ (-1048576 ≤ i ∧ i < 1048576) ∧ row / 2 ^ (i - left).toNat % 2 = 1
theorem Cov_wide (A : List Rc) (r : Rc) (x : Int) (hx : r.x + r.w = x) (hw : 0 < r.w) (i j : Int) : Cov (A ++ [{ r with w := r.w + 1 }]) i j ↔ Cov (A ++ [r]) i j ∨ (i = x ∧ r.y ≤ j ∧ j < r.y + r.h) := by
  rw [Cov_append, Cov_append, Cov_cons, Cov_cons]
  have h0 : ¬ Cov [] i j := by simp [Cov]
  have : inR i j { r with w := r.w + 1 } ↔ inR i j r ∨ (i = x ∧ r.y ≤ j ∧ j < r.y + r.h) := by unfold inR; simp only; omega
  rw [this]
  constructor
  · rintro (h | (h | h) | h)
    · exact .inl (.inl h)
    · exact .inl (.inr (.inl h))
    · exact .inr h
    · exact absurd h h0
  · rintro ((h | h | h) | h)
    · exact .inl h
    · exact .inr (.inl (.inl h))
    · exact absurd h h0
    · exact .inr (.inl (.inr h))
theorem runs_law (row : Nat) (hr : row ≤ 1000000) (left y : Int) (hl : -2000000 ≤ left ∧ left ≤ 2000000) (hy : -1048576 ≤ y ∧ y < 1048576) : ∀ k : Nat, k ≤ 9 → RunL row left y k (runsN row left y k)
  | 0, _ => ⟨by simp [runsN], fun i j => by
      constructor
      · rintro ⟨r, hr, _⟩; simp [runsN] at hr
      · rintro ⟨_, h, _⟩; omega⟩
  | k + 1, hk => by
    obtain ⟨h1, h2⟩ := runs_law row hr left y hl hy k (by omega)
    have hw : w64 (left + (k : Int)) = left + k := w64_in (by omega)
    unfold runsN runStep
    generalize runsN row left y k = out at h1 h2
    have hoff : runOff row left k = true ↔ ¬ (row / 2 ^ k % 2 = 1 ∧ -1048576 ≤ left + k ∧ left + k < 1048576) := by
      unfold runOff
      rw [shV_bit row k (by omega) hr, hw]
      simp only [Bool.or_eq_true, Bool.not_eq_true', decide_eq_true_eq, decide_eq_false_iff_not]
      omega
    have hk2 : ∀ i : Int, i = left + k → (i - left).toNat = k := fun i h => by omega
    by_cases ho : runOff row left k = true
    · rw [if_pos ho]
      rw [hoff] at ho
      refine ⟨fun r hr => ?_, fun i j => ?_⟩
      · obtain ⟨a, b, c, d⟩ := h1 r hr; exact ⟨a, b, c, by omega⟩
      · rw [h2]
        constructor
        · rintro ⟨a, b, c, d⟩; exact ⟨a, by omega, c, d⟩
        · rintro ⟨a, b, c, d⟩
          refine ⟨a, ?_, c, d⟩
          by_cases hi : i = left + k
          · rw [hk2 i hi] at d; exact absurd ⟨d, by omega, by omega⟩ ho
          · omega
    · have hin : row / 2 ^ k % 2 = 1 ∧ -1048576 ≤ left + k ∧ left + k < 1048576 := by
        rw [hoff] at ho; exact Classical.not_not.1 ho
      rw [if_neg ho, hw]
      have hfin : ∀ out' : List Rc, (∀ r ∈ out', OkRc r ∧ r.y = y ∧ r.h = 1 ∧ r.x + r.w ≤ left + k + 1) → (∀ i j, Cov out' i j ↔ Cov out i j ∨ (i = left + k ∧ j = y)) → RunL row left y (k + 1) out' := by
        intro out' g1 g2
        refine ⟨fun r hr => ?_, fun i j => ?_⟩
        · obtain ⟨a, b, c, d⟩ := g1 r hr; exact ⟨a, b, c, by omega⟩
        · rw [g2, h2]
          constructor
          · rintro (⟨a, b, c, d⟩ | ⟨a, b⟩)
            · exact ⟨a, by omega, c, d⟩
            · exact ⟨b, by omega, by omega, by rw [hk2 i a]; exact hin.1⟩
          · rintro ⟨a, b, c, d⟩
            by_cases hi : i = left + k
            · exact .inr ⟨hi, a⟩
            · exact .inl ⟨a, by omega, c, d⟩
      have happ : RunL row left y (k + 1) (out ++ [⟨left + k, y, 1, 1⟩]) := by
        refine hfin _ (fun r hr => ?_) (fun i j => ?_)
        · rcases List.mem_append.1 hr with hr | hr
          · obtain ⟨a, b, c, d⟩ := h1 r hr; exact ⟨a, b, c, by omega⟩
          · simp at hr; subst hr
            refine ⟨?_, rfl, rfl, by simp only; omega⟩
            unfold OkRc; simp only; omega
        · rw [Cov_append, Cov_cons]
          have h0 : ¬ Cov [] i j := by simp [Cov]
          have : inR i j ⟨left + k, y, 1, 1⟩ ↔ i = left + k ∧ j = y := by unfold inR; simp only; omega
          rw [this]; simp [h0]
      unfold runAdd
      cases hg : out.getLast? with
      | none =>
        have : out = [] := List.getLast?_eq_none_iff.1 hg
        subst this
        exact happ
      | some r =>
        simp only
        obtain ⟨A, rfl⟩ := List.getLast?_eq_some_iff.1 hg
        have hrk := h1 r (by simp)
        obtain ⟨ho1, ho2, ho3, ho4⟩ := hrk
        have ho1' := ho1
        unfold OkRc at ho1'
        have hw2 : w64 (r.x + r.w) = r.x + r.w := w64_in (by omega)
        have hw3 : w64 (r.w + 1) = r.w + 1 := w64_in (by omega)
        rw [hw2, hw3]
        by_cases hx : r.x + r.w = left + k
        · rw [if_pos hx]
          simp only [List.dropLast_concat]
          refine hfin _ (fun q hq => ?_) (fun i j => ?_)
          · rcases List.mem_append.1 hq with hq | hq
            · obtain ⟨a, b, c, d⟩ := h1 q (by simp [hq]); exact ⟨a, b, c, by omega⟩
            · simp at hq; subst hq
              refine ⟨?_, ho2, ho3, by simp only; omega⟩
              unfold OkRc; simp only; omega
          · rw [Cov_wide A r _ hx (by omega), ho2, ho3]
            constructor
            · rintro (h | ⟨a, b, c⟩)
              · exact .inl h
              · exact .inr ⟨a, by omega⟩
            · rintro (h | ⟨a, b⟩)
              · exact .inl h
              · exact .inr ⟨a, by omega, by omega⟩
        · rw [if_neg hx]; exact happ
end Go.Proofs.Ytpgelghkjiejlaa
end
section
namespace Go.Proofs.Ytpgelghkjiejlaa
open Go
/-- The places of the rows up to j of a letter. -/
def LetP (w : Bool) (l : Nat) (left y : Int) (m : Nat) (i j : Int) : Prop :=
  inB i j = true ∧ (0 ≤ j - y + (fA w : Nat) ∧ j - y + (fA w : Nat) < (m : Nat)) ∧ (left ≤ i ∧ i < left + (fW w l : Nat)) ∧ fR w l (j - y + (fA w : Nat)).toNat / 2 ^ (i - left).toNat % 2 = 1
theorem fA_le (w : Bool) : fA w ≤ 7 := by cases w <;> decide
theorem rowY_eq (w : Bool) (y : Int) (j : Nat) (hy : -1048576 ≤ y ∧ y ≤ 1048576) (hj : j ≤ 9) : rowY w y j = y - (fA w : Nat) + (j : Nat) := by
  have := fA_le w
  unfold rowY
  rw [w64_in (a := y - (fA w : Nat)) (by omega), w64_in (by omega)]
theorem inB_iff (i j : Int) : inB i j = true ↔ i < 1048576 ∧ j < 1048576 ∧ -1048576 ≤ i ∧ -1048576 ≤ j := by simp [inB]
theorem inkRows_law (w : Bool) (l : Nat) (left y : Int) (hl : -2000000 ≤ left ∧ left ≤ 2000000) (hy : -1048576 ≤ y ∧ y ≤ 1048576) (out : List Rc) (ho : ∀ r ∈ out, OkRc r) :
    ∀ m : Nat, m ≤ 9 → (∀ r ∈ inkRows w l left y allRc m out, OkRc r) ∧ ∀ i j, Cov (inkRows w l left y allRc m out) i j ↔ Cov out i j ∨ LetP w l left y m i j
  | 0, _ => by
    refine ⟨ho, fun i j => ?_⟩
    show Cov out i j ↔ _
    constructor
    · exact .inl
    · rintro (h | ⟨_, h, _⟩)
      · exact h
      · omega
  | m + 1, hm => by
    obtain ⟨h1, h2⟩ := inkRows_law w l left y hl hy out ho m (by omega)
    have hfa := fA_le w
    have hfw := fW_le w l
    have hry := rowY_eq w y m hy (by omega)
    have e1 : w64 (allRc.y + allRc.h) = 1048576 := rfl
    have e2 : allRc.y = -1048576 := rfl
    unfold inkRows inkRow
    rw [e1, e2, hry]
    generalize inkRows w l left y allRc m out = o1 at h1 h2
    have hm2 : ∀ j : Int, j = y - (fA w : Nat) + (m : Nat) → (j - y + (fA w : Nat)).toNat = m := fun j h => by omega
    by_cases hc : -1048576 ≤ y - (fA w : Nat) + (m : Nat) ∧ y - (fA w : Nat) + (m : Nat) < 1048576
    · rw [if_pos hc]
      obtain ⟨g1, g2⟩ := runs_law (fR w l m) (fR_le w l m) left (y - (fA w : Nat) + (m : Nat)) hl hc (fW w l) (by omega)
      refine ⟨fun r hr => ?_, fun i j => ?_⟩
      · rcases List.mem_append.1 hr with hr | hr
        · exact h1 r hr
        · exact (g1 r hr).1
      · rw [Cov_append, h2, g2]
        unfold LetP
        rw [inB_iff]
        constructor
        · rintro ((h | ⟨a, b, c, d⟩) | ⟨a, b, c, d⟩)
          · exact .inl h
          · exact .inr ⟨a, by omega, c, d⟩
          · exact .inr ⟨by omega, by omega, b, by rw [hm2 j a]; exact d⟩
        · rintro (h | ⟨a, b, c, d⟩)
          · exact .inl (.inl h)
          · by_cases hj : j = y - (fA w : Nat) + (m : Nat)
            · rw [hm2 j hj] at d
              exact .inr ⟨hj, c, by omega, d⟩
            · exact .inl (.inr ⟨a, by omega, c, d⟩)
    · rw [if_neg hc]
      refine ⟨h1, fun i j => ?_⟩
      rw [h2]
      unfold LetP
      rw [inB_iff]
      constructor
      · rintro (h | ⟨a, b, c, d⟩)
        · exact .inl h
        · exact .inr ⟨a, by omega, c, d⟩
      · rintro (h | ⟨a, b, c, d⟩)
        · exact .inl h
        · refine .inr ⟨a, ?_, c, d⟩
          omega
theorem inkLet_law (w : Bool) (l : Nat) (left y : Int) (hl : -1900000 ≤ left ∧ left ≤ 1900000) (hy : -1048576 ≤ y ∧ y ≤ 1048576) (out : List Rc) (ho : ∀ r ∈ out, OkRc r) :
    (∀ r ∈ inkLet w l left y allRc out, OkRc r) ∧ ∀ i j, Cov (inkLet w l left y allRc out) i j ↔ Cov out i j ∨ LetP w l left y (fH w) i j := by
  have hfw := fW_le w l
  have e1 : w64 (allRc.x + allRc.w) = 1048576 := rfl
  have e2 : allRc.x = -1048576 := rfl
  unfold inkLet
  rw [e1, e2, w64_in (by omega)]
  split
  · refine ⟨ho, fun i j => ?_⟩
    constructor
    · exact .inl
    · rintro (h | ⟨a, b, c, d⟩)
      · exact h
      · rw [inB_iff] at a; omega
  · exact inkRows_law w l left y (by omega) hy out ho (fH w) (fH_le w)
theorem inkC_law (w : Bool) (x y : Int) (s : List UInt8) (hs : s.length ≤ 4096) (hx : -1048576 ≤ x ∧ x ≤ 1048576) (hy : -1048576 ≤ y ∧ y ≤ 1048576) :
    ∀ m : Nat, m ≤ s.length → (∀ r ∈ inkC w x y allRc s m, OkRc r) ∧ ∀ i j, Cov (inkC w x y allRc s m) i j ↔ ∃ k, k < m ∧ LetP w (plc (s.getD k 0)) (x + (pw w (s.take k) : Nat)) y (fH w) i j
  | 0, _ => by simp [inkC, Cov]
  | m + 1, hm => by
    obtain ⟨h1, h2⟩ := inkC_law w x y s hs hx hy m (by omega)
    have hp := pw_le w (s.take m)
    have htl : (s.take m).length = m := by simp; omega
    rw [htl] at hp
    have hw : w64 (x + (pw w (s.take m) : Nat)) = x + (pw w (s.take m) : Nat) := w64_in (by omega)
    obtain ⟨g1, g2⟩ := inkLet_law w (plc (s.getD m 0)) (x + (pw w (s.take m) : Nat)) y (by omega) hy _ h1
    unfold inkC
    rw [hw]
    refine ⟨g1, fun i j => ?_⟩
    rw [g2, h2]
    constructor
    · rintro (⟨k, a, b⟩ | h)
      · exact ⟨k, by omega, b⟩
      · exact ⟨m, by omega, h⟩
    · rintro ⟨k, a, b⟩
      by_cases hk : k = m
      · subst hk; exact .inr b
      · exact .inl ⟨k, by omega, b⟩
theorem inkF_iff (w : Bool) (row : Nat) (i : Int) : ∀ (s : List UInt8) (p : Int), inkF w row i p s = true ↔ ∃ k, k < s.length ∧ ((p + (pw w (s.take k) : Nat) ≤ i ∧ i < p + (pw w (s.take k) : Nat) + (fW w (plc (s.getD k 0)) : Nat)) ∧ fR w (plc (s.getD k 0)) row / 2 ^ (i - (p + (pw w (s.take k) : Nat))).toNat % 2 = 1)
  | [], p => by simp [inkF]
  | b :: s, p => by
    rw [inkF_cons]
    have hpw : ∀ k, (pw w ((b :: s).take (k + 1)) : Int) = (fW w (plc b) : Nat) + (pw w (s.take k) : Nat) := fun k => by simp [pw]
    have hp0 : pw w ((b :: s).take 0) = 0 := rfl
    by_cases hc : p ≤ i ∧ i < p + (fW w (plc b) : Nat)
    · rw [if_pos hc]
      constructor
      · intro h
        refine ⟨0, by simp, ?_, ?_⟩
        · rw [hp0]; simp only [List.getD_cons_zero]; omega
        · rw [hp0]; simpa using h
      · rintro ⟨k, hk, ⟨h1, h2⟩, h3⟩
        cases k with
        | zero => rw [hp0] at h3; simpa using h3
        | succ k => rw [hpw] at h1; omega
    · rw [if_neg hc, inkF_iff w row i s]
      constructor
      · rintro ⟨k, hk, ⟨h1, h2⟩, h3⟩
        refine ⟨k + 1, by simp; omega, ?_, ?_⟩
        · rw [hpw, List.getD_cons_succ]; omega
        · rw [hpw, List.getD_cons_succ, ← Int.add_assoc]; exact h3
      · rintro ⟨k, hk, ⟨h1, h2⟩, h3⟩
        cases k with
        | zero => rw [hp0] at h1 h2; simp only [List.getD_cons_zero] at h2; omega
        | succ k =>
          rw [hpw, ← Int.add_assoc] at h3
          rw [hpw] at h1 h2
          rw [List.getD_cons_succ] at h2 h3
          exact ⟨k, by simp at hk; omega, ⟨by omega, by omega⟩, h3⟩
theorem inkC_cov (w : Bool) (x y : Int) (s : List UInt8) (hs : s.length ≤ 4096) (hx : -1048576 ≤ x ∧ x ≤ 1048576) (hy : -1048576 ≤ y ∧ y ≤ 1048576) :
    (∀ r ∈ inkC w x y allRc s s.length, OkRc r) ∧ ∀ i j, Cov (inkC w x y allRc s s.length) i j ↔ inkB w x y s i j = true := by
  obtain ⟨h1, h2⟩ := inkC_law w x y s hs hx hy s.length (Nat.le_refl _)
  refine ⟨h1, fun i j => ?_⟩
  rw [h2]
  unfold inkB
  simp only [Bool.and_eq_true, decide_eq_true_eq]
  rw [inkF_iff]
  unfold LetP
  constructor
  · rintro ⟨k, a, b, c, d, e⟩; exact ⟨b, c.1, c.2, k, a, d, e⟩
  · rintro ⟨b, c1, c2, k, a, d, e⟩; exact ⟨k, a, b, ⟨c1, c2⟩, d, e⟩
/-- Ink lies in the box. -/
theorem inkB_in {w : Bool} {x y : Int} {s : List UInt8} {i j : Int} (h : inkB w x y s i j = true) : (x ≤ i ∧ i < x + (pw w s : Nat)) ∧ (y - (fA w : Nat) ≤ j ∧ j < y - (fA w : Nat) + (fH w : Nat)) ∧ inB i j = true := by
  unfold inkB at h
  simp only [Bool.and_eq_true, decide_eq_true_eq] at h
  rw [inkF_iff] at h
  obtain ⟨b, c1, c2, k, a, d, e⟩ := h
  have hps := pw_succ w s k a
  have hgd : s.getD k 0 = s[k] := by simp [List.getD, List.getElem?_eq_getElem a]
  rw [hgd] at d
  have hle : pw w (s.take (k + 1)) ≤ pw w s := by
    unfold pw
    conv => rhs; rw [← List.take_append_drop (k + 1) s]
    rw [List.map_append, List.sum_append]
    omega
  exact ⟨by omega, by omega, b⟩
theorem ofRun_okS {all : List Rc} (hok : ∀ r ∈ all, OkRc r) : ∀ (ys : List Int) (i : Nat) (s : OS), OkS all i s → OkS all (i + ys.length) (ofRun all ys s)
  | [], i, s, h => h
  | [y], i, s, h => by
    have h7 := h.out
    refine ⟨h.nx, h.row, h.ab, h.old, ?_, h.ok⟩
    show s.out.length ≤ (i + 1) * all.length
    rw [Nat.add_mul]; omega
  | y :: b :: ys, i, s, h => by
    have := ofRun_okS hok (b :: ys) (i + 1) _ (okS_step hok h y b)
    rw [show i + 1 + (b :: ys).length = i + (y :: b :: ys).length by simp; omega] at this
    exact this
theorem ofL_len (l : List Rc) (hir : ∀ r ∈ l, InRc r) : (ofL l).length ≤ 2 * l.length * l.length := by
  have h := (ofRun_okS (allL_ok l hir) (ysL (allL l)) 0 ⟨[], [], 0, 0⟩ ⟨by simp, by simp, by simp, by simp, by simp, by simp⟩).out
  have h1 := ysL_len (allL l)
  have h2 := allL_len l
  rw [Nat.zero_add] at h
  refine Nat.le_trans h (Nat.mul_le_mul ?_ h2)
  omega
theorem regL_law (w : Bool) (x y : Int) (s : List UInt8) (hs : s.length ≤ 12) (hc : (coordV x && coordV y) = true) :
    CutOk (inkC w x y allRc s s.length) allRc ∧ Reg (regL w x y s) ∧ ∀ i j, Cov (regL w x y s) i j ↔ inkB w x y s i j = true := by
  have hxy : (-1048576 ≤ x ∧ x ≤ 1048576) ∧ -1048576 ≤ y ∧ y ≤ 1048576 := by simpa [coordV] using hc
  obtain ⟨h1, h2⟩ := inkC_cov w x y s (by omega) hxy.1 hxy.2
  have hlen := inkC_len w x y allRc s s.length
  unfold regL
  rw [if_pos hc]
  generalize inkC w x y allRc s s.length = l at h1 h2 hlen
  have hpw := pw_le w s
  have hfa := fA_le w
  have hfh := fH_le w
  obtain ⟨o1, o2⟩ := ofL_law l (fun r hr => (h1 r hr).inRc)
  have o3 : ∀ i j, Cov (ofL l) i j ↔ inkB w x y s i j = true := fun i j => by
    rw [o2, ← h2]
    constructor
    · rintro ⟨r, hr, _, hh⟩; exact ⟨r, hr, hh⟩
    · rintro ⟨r, hr, hh⟩; exact ⟨r, hr, h1 r hr, hh⟩
  have hcok : OkRc allRc := by unfold OkRc allRc; simp only; omega
  obtain ⟨c1, c2⟩ := ofL_law [allRc] (fun r hr => by simp at hr; subst hr; exact hcok.inRc)
  have c3 : ∀ i j, Cov (ofL [allRc]) i j ↔ inB i j = true := fun i j => by
    rw [c2, inB_iff]
    constructor
    · rintro ⟨r, hr, _, hh⟩
      simp at hr; subst hr
      unfold inR allRc at hh; simp only at hh; omega
    · intro hh
      exact ⟨allRc, by simp, hcok, by unfold inR allRc; simp only; omega⟩
  have key : ∀ i j, ((covB (ofL l) i j && covB (ofL [allRc]) i j) = true ↔ inkB w x y s i j = true) := fun i j => by
    rw [Bool.and_eq_true, covB_iff, covB_iff, o3, c3]
    constructor
    · exact fun h => h.1
    · exact fun h => ⟨h, (inkB_in h).2.2⟩
  obtain ⟨j1, j2, j3⟩ := joinC_law (fun p q => p && q) rfl (ofL l) (ofL [allRc]) o1 c1
  obtain ⟨l1, l2⟩ := joinL_law (fun p q => p && q) rfl (ofL l) (ofL [allRc]) o1 c1
  have hsmall : ∀ m : List Rc, (∀ r ∈ m, OkRc r) → m.Pairwise (fun a b => a.x ≠ b.x ∨ a.y ≠ b.y) → (∀ i j, Cov m i j → inkB w x y s i j = true) → m.length ≤ 1000000 := fun m g1 g2 g3 => by
    have := corner_len m g2 x (y - (fA w : Nat)) 96 9 (fun r hr => by
      have hok := g1 r hr
      have := inkB_in (g3 r.x r.y ⟨r, hr, by unfold OkRc at hok; unfold inR; omega⟩)
      omega)
    omega
  have hregP : ∀ m : List Rc, Reg m → m.Pairwise (fun a b => a.x ≠ b.x ∨ a.y ≠ b.y) := fun m hm =>
    List.Pairwise.imp_of_mem (fun {a b} ha hb hab => by
      have h1 := hm.ok a ha
      have h2 := hm.ok b hb
      unfold OkRc at h1 h2
      unfold Rel at hab
      omega) hm.rel
  refine ⟨⟨by omega, fun r hr => (h1 r hr).inRc, hsmall _ o1.ok (hregP _ o1) (fun i j h => (o3 i j).1 h), hcok.inRc, Nat.le_trans (ofL_len [allRc] (fun r hr => by simp at hr; subst hr; exact hcok.inRc)) (by decide), hsmall _ j1 (List.Pairwise.imp (fun {a b} h => by unfold Lex at h; omega) j2) (fun i j h => (key i j).1 ((j3 i j).1 h)), fun r hr => (j1 r hr).inRc⟩, l1, fun i j => ?_⟩
  rw [show withinL (ofL l) allRc = joinL (fun p q => p && q) (ofL l) (ofL [allRc]) from rfl, l2]
  exact key i j
end Go.Proofs.Ytpgelghkjiejlaa
end
section
set_option maxRecDepth 4000
namespace Go.Proofs.Ytpgelghkjiejlaa
open Go
attribute [local irreducible] opsF drawF drawP fontC shV
def mBi : ACode := (.seq (.seq (.ops none [⟨(some 60), (.mv (.t 15)), none⟩,
             ⟨(some 61), (.mv (.t 1)), none⟩,
             ⟨(some 62), (.ld true 4 (.t 10)), none⟩,
             ⟨(some 63), (.call (.f 20) [(.t 62)]), none⟩,
             ⟨(some 64), (.bin .add (.t 61) (.t 63)), none⟩,
             ⟨(some 65), (.bin .add (.t 64) (.c (.i .i64 2))), none⟩,
             ⟨(some 66), (.bin .lss (.t 60) (.t 65)), none⟩])
            (.cond (.t 66)
             (.skip)
             (.exit 2)))
           (.seq (.block 3 (.seq (.seq (.ops (some [0, 0, 0, 7, 0, 0, 0, 0, 0, 511, 1023]) [⟨(some 69), (.ld true 1 (.t 11)), none⟩,
               ⟨(some 70), (.mv (.t 15)), none⟩,
               ⟨(some 71), (.mv (.t 14)), none⟩,
               ⟨(some 72), (.call (.f 21) [(.t 69), (.t 70), (.t 71)]), none⟩,
               ⟨(some 73), (.ld true 4 (.t 10)), none⟩,
               ⟨(some 74), (.mv (.t 1)), none⟩,
               ⟨(some 75), (.mv (.t 2)), none⟩,
               ⟨(some 76), (.mv (.t 15)), none⟩,
               ⟨(some 77), (.mv (.t 14)), none⟩,
               ⟨(some 78), (.call (.f 22) [(.t 73), (.t 74), (.t 75), (.t 76), (.t 77)]), none⟩,
               ⟨(some 79), (.eq1 true 0 (.t 72) (.t 78)), none⟩])
             (.cond (.t 79)
              (.seq (.ops none [⟨(some 8), (.mv (.c (.b false))), none⟩])
               (.ret))
              (.skip)))
             (.seq (.ops none [⟨(some 80), (.ld true 4 (.t 10)), none⟩,
               ⟨(some 81), (.mv (.t 1)), none⟩,
               ⟨(some 82), (.mv (.t 2)), none⟩,
               ⟨(some 83), (.mv (.t 15)), none⟩,
               ⟨(some 84), (.mv (.t 14)), none⟩,
               ⟨(some 85), (.call (.f 22) [(.t 80), (.t 81), (.t 82), (.t 83), (.t 84)]), none⟩])
             (.cond (.t 85)
              (.ops none [⟨(some 86), (.mv (.t 13)), none⟩,
                ⟨(some 87), (.bin .add (.t 86) (.c (.i .i64 1))), none⟩,
                ⟨(some 13), (.mv (.t 87)), none⟩])
              (.skip)))))
            (.ops none [⟨(some 67), (.mv (.t 15)), none⟩,
             ⟨(some 68), (.bin .add (.t 67) (.c (.i .i64 1))), none⟩,
             ⟨(some 15), (.mv (.t 68)), none⟩])))
def mBj : ACode := (.seq (.seq (.ops none [⟨(some 52), (.mv (.t 14)), none⟩,
          ⟨(some 53), (.mv (.t 2)), none⟩,
          ⟨(some 54), (.bin .add (.t 53) (.c (.i .i64 6))), none⟩,
          ⟨(some 55), (.bin .lss (.t 52) (.t 54)), none⟩])
         (.cond (.t 55)
          (.skip)
          (.exit 0)))
        (.seq (.block 1 (.seq (.ops none [⟨(some 58), (.mv (.t 1)), none⟩,
           ⟨(some 59), (.bin .sub (.t 58) (.c (.i .i64 2))), none⟩,
           ⟨(some 15), (.mv (.t 59)), none⟩])
          (.block 2 (.loop mBi))))
         (.ops none [⟨(some 56), (.mv (.t 14)), none⟩,
          ⟨(some 57), (.bin .add (.t 56) (.c (.i .i64 1))), none⟩,
          ⟨(some 14), (.mv (.t 57)), none⟩])))
def mEnd : ACode := (.seq (.ops none [⟨(some 13), (.mv (.c (.i .i64 0))), none⟩])
      (.seq (.seq (.ops none [⟨(some 50), (.mv (.t 2)), none⟩,
        ⟨(some 51), (.bin .sub (.t 50) (.c (.i .i64 10))), none⟩,
        ⟨(some 14), (.mv (.t 51)), none⟩])
       (.block 0 (.loop mBj)))
      (.seq (.ops none [⟨(some 88), (.ld true 1 (.t 11)), none⟩,
        ⟨(some 89), (.call (.f 23) [(.t 88)]), none⟩,
        ⟨(some 90), (.mv (.t 13)), none⟩,
        ⟨(some 91), (.bin .eql (.t 89) (.t 90)), none⟩,
        ⟨(some 92), (.mv (.t 91)), none⟩,
        ⟨(some 93), (.call (.f 7) []), (some ((some 92), true))⟩,
        ⟨(some 94), (.pick (.t 92) (.t 93) (.c (.b false))), none⟩,
        ⟨(some 8), (.mv (.t 94)), none⟩])
       (.ret))))

theorem SlO.restrL {H : Heap} {S : V} {w : Bool} {s : List UInt8} {fr : List Nat} (h : SlO H S w s) (hf : ∀ b k, aget H b = some k → b ∈ fr) : SlO (restr H fr []) S w s := by
  rcases h with ⟨h1, h2⟩ | ⟨m, full, o, ids, rfl, hm, hl, hi⟩
  · exact .inl ⟨h1, h2⟩
  · refine .inr ⟨m, full, false, ids, rfl, ?_, hl, fun j id hj => ?_⟩
    · unfold restr
      simp only [pickR, List.nil_append]
      exact pickR_ro hm (hf _ _ hm)
    · obtain ⟨o', h'⟩ := hi j id hj
      refine ⟨false, ?_⟩
      unfold restr
      simp only [pickR, List.nil_append]
      exact pickR_ro h' (hf _ _ h')
theorem SlR.idsL {H : Heap} {S : V} {l : List Rc} (h : SlR H S l) : ∀ b ∈ idOf S, ∃ k, aget H b = some k := by
  rcases h with ⟨rfl, _⟩ | ⟨id, off, full, o, pre, post, rfl, h2, _⟩
  · simp
  · intro b hb; simp at hb; subst hb; exact ⟨_, h2⟩
theorem SlW.idsL {H : Heap} {S : V} {w : Bool} {s : List UInt8} (h : SlW H S w s) : ∀ b ∈ idOf S, ∃ k, aget H b = some k := by
  rcases h with ⟨_, rfl⟩ | ⟨m, full, o, rfl, hm⟩
  · simp
  · intro b hb; simp at hb; subst hb; exact ⟨_, hm⟩
theorem cR_le (P : Int → Int → Bool) (x0 j : Int) : ∀ k, cR P x0 j k ≤ k
  | 0 => Nat.le_refl _
  | k + 1 => by unfold cR; have := cR_le P x0 j k; split <;> omega
theorem cA_le (P : Int → Int → Bool) (x0 y0 : Int) (K : Nat) : ∀ J, cA P x0 y0 K J ≤ K * J
  | 0 => Nat.le_refl _
  | J + 1 => by unfold cA; have := cA_le P x0 y0 K J; have := cR_le P x0 (y0 + J) K; rw [Nat.mul_add]; omega
structure MC (w : Bool) (x y : Int) (s : List UInt8) (SW SR S : V) (l : List Rc) (c10 c11 : Nat) (H : Heap) : Prop where
  h10 : aget H c10 = some (.row true [SW, SR, .i .i64 (fA w : Nat), .i .i64 (fH w : Nat)])
  h11 : aget H c11 = some (.row true [S])
  hW : SlW H SW w s
  hR : SlO H SR w s
  hS : SlR H S l
  hl : l.length ≤ 1000000
  hs : s.length ≤ 12
  hx : -1048576 ≤ x ∧ x ≤ 1048576
  hy : -1048576 ≤ y ∧ y ≤ 1048576
  hh : ∀ i j, hasL i j l = inkB w x y s i j
def mT (x y : Int) (c10 c11 m : Nat) (j : Int) : Temps := [(1, .i .i64 x), (2, .i .i64 y), (8, .b false), (10, .p c10 0), (11, .p c11 0), (13, .i .i64 m), (14, .i .i64 j)]
theorem mI_ok {Q : Exit → St → Prop} {w : Bool} {x y : Int} {s : List UInt8} {SW SR S : V} {l : List Rc} {c10 c11 n : Nat} {H : Heap} (h : MC w x y s SW SR S l c10 c11 H) (j : Int) (hj : -2000000 ≤ j ∧ j ≤ 2000000) (base : Nat) (hb : base ≤ 1000000)
    (hQ : ∀ T', ((mT x y c10 c11 (base + cR (inkB w x y s) (x - 2) j (pw w s + 4)) j).map fun p => aget T' p.1) = ((mT x y c10 c11 (base + cR (inkB w x y s) (x - 2) j (pw w s + 4)) j).map fun p => some p.2) → Q .normal ⟨T', [], n, H⟩) :
    AWc Try.prog 95 none (.block 2 (.loop mBi)) ⟨(15, .i .i64 (x - 2)) :: mT x y c10 c11 base j, [], n, H⟩ Q := by
  refine .withIn fun hin => ?_
  have hin : HIn n H := hin
  have hpw := pw_le w s
  have hs := h.hs
  have hx := h.hx
  have hy := h.hy
  have h10 := h.h10
  have h11 := h.h11
  have n10 := (hin _ _ h10).1
  have n11 := (hin _ _ h11).1
  have hSk := h.hS.known
  have hSo := h.hS.one
  have hWk := h.hW.known
  have hRk := h.hR.known
  have hfr : ∀ b ∈ List.range n, b < n := fun b hb => List.mem_range.1 hb
  have hall : ∀ b k, aget H b = some k → b ∈ List.range n := fun b k hk => List.mem_range.2 (hin _ _ hk).1
  refine .block (.loop (k₀ := pw w s + 4) (s₀ := ⟨(15, .i .i64 (x - 2)) :: mT x y c10 c11 base j, [], n, H⟩)
    (fun k st => ∃ i : Nat, i ≤ pw w s + 4 ∧ k = pw w s + 4 - i ∧ st = ⟨(15, .i .i64 (x - 2 + i)) :: mT x y c10 c11 (base + cR (inkB w x y s) (x - 2) j i) j, [], n, H⟩)
    ⟨0, by omega, rfl, by simp [cR]⟩ (St.less_F (by simp [mT]) (by simp [mT])) (Nat.le_refl _) (fun k st ⟨i, h1, h2, h3⟩ => by rw [h3]; exact Nat.le_refl _) ?_)
  rintro k st ⟨i, h1, rfl, rfl⟩
  unfold mBi
  have hcr := cR_le (inkB w x y s) (x - 2) j i
  have hw1 : IntKind.i64.wrap (x + ((pw w s : Nat) : Int)) = x + (pw w s : Nat) := IntWalk.i64_in _ (by omega)
  have hw2 : IntKind.i64.wrap (x + ((pw w s : Nat) : Int) + 2) = x + (pw w s : Nat) + 2 := IntWalk.i64_in _ (by omega)
  have hw3 : IntKind.i64.wrap (x - 2 + (i : Int) + 1) = x - 2 + ((i : Int) + 1) := by rw [IntWalk.i64_in _ (by omega)]; omega
  refine .seq (.seq (.ops (opsF_run 3 (by simp [mT, h10, hWk, hRk]; rfl) ?_)))
  refine opsF_cons_call rfl rfl rfl (v := .i .i64 (pw w s : Nat)) (width20_pure w s (by omega) SW SR _ _ rfl rfl _ _ h.hW) ?_
  refine opsF_all (by simp [hw1, hw2]; rfl) ?_
  by_cases hi : i < pw w s + 4
  · have hi' : x - 2 + (i : Int) < x + (pw w s : Nat) + 2 := by omega
    refine .cond (t := true) (by simp [hi']) (.skip ?_)
    refine AWc.forget (T0 := (15, .i .i64 (x - 2 + i)) :: mT x y c10 c11 (base + cR (inkB w x y s) (x - 2) j i) j) (by simp [mT]) ?_
    have hhas := fun m G hG => has_ok S l (Nat.le_trans h.hl (by decide)) (x - 2 + i) j m G hG
    have hink := fun m G g1 g2 => ink22_pure w x y (x - 2 + i) j s (by omega) hx hy (by omega) hj SW SR m G g1 g2
    rw [h.hh] at hhas
    have hcs : cR (inkB w x y s) (x - 2) j (i + 1) = cR (inkB w x y s) (x - 2) j i + (if inkB w x y s (x - 2 + i) j then 1 else 0) := rfl
    generalize cR (inkB w x y s) (x - 2) j i = cr at hcr hcs ⊢
    have hend : ∀ T : Temps, (((15, V.i .i64 (x - 2 + i)) :: mT x y c10 c11 (base + cR (inkB w x y s) (x - 2) j (i + 1)) j).map fun p => aget T p.1) = (((15, V.i .i64 (x - 2 + i)) :: mT x y c10 c11 (base + cR (inkB w x y s) (x - 2) j (i + 1)) j).map fun p => some p.2) →
        AWc Try.prog 95 none (.ops none [⟨(some 67), (.mv (.t 15)), none⟩,
             ⟨(some 68), (.bin .add (.t 67) (.c (.i .i64 1))), none⟩,
             ⟨(some 15), (.mv (.t 68)), none⟩]) ⟨T, [], n, H⟩ (onNormal (fun s' => ∃ k s'', k < pw w s + 4 - i ∧ (∃ i : Nat, i ≤ pw w s + 4 ∧ k = pw w s + 4 - i ∧ s'' = ⟨(15, .i .i64 (x - 2 + i)) :: mT x y c10 c11 (base + cR (inkB w x y s) (x - 2) j i) j, [], n, H⟩) ∧ St.less s'' s') (onBlock 2 Q)) := by
      intro T hT
      refine AWc.forget hT (.ops (opsF_all (by simp [hw3]; rfl) ?_))
      exact ⟨pw w s + 4 - (i + 1), _, by omega, ⟨i + 1, by omega, rfl, rfl⟩, St.less_F (by simp [mT]) (by simp [mT, hw3])⟩
    rw [hcs] at hend
    generalize inkB w x y s (x - 2 + i) j = bb at hhas hink hcs hend
    refine .seq (.block (.seq (.seq (.drawP (by rfl) ?_))))
    refine drawP_run 3 (by rfl) (by simp [mT, h11, n11, hSk, hSo]; rfl) ?_
    refine drawP_call (List.range n) rfl rfl rfl (hhas _ _ (h.hS.restrL fun b hb => let ⟨k, hk⟩ := h.hS.idsL b hb; hall b k hk)) hfr (.b _) ?_
    refine drawP_run 5 (by rfl) (by simp [h10, n10, hWk, hRk]; rfl) ?_
    refine drawP_call (List.range n) rfl rfl rfl (hink _ _ (h.hW.restrL fun b hb => let ⟨k, hk⟩ := h.hW.idsL b hb; hall b k hk) (h.hR.restrL hall)) hfr (.b _) ?_
    refine drawP_all (by rfl) (by simp; rfl) ?_
    refine .cond (t := false) (by simp) (.skip ?_)
    refine AWc.forget (T0 := (15, .i .i64 (x - 2 + i)) :: mT x y c10 c11 (base + cr) j) (by simp [mT]) ?_
    refine .seq (.ops (opsF_run 5 (by simp [mT, h10, hWk, hRk]; rfl) ?_))
    refine opsF_cons_call rfl rfl rfl (v := .b bb) (hink _ _ h.hW h.hR) ?_
    refine opsF_nil ?_
    cases bb with
    | false =>
      rw [if_neg (by decide), Nat.add_zero] at hend
      refine .cond (t := false) (by simp) (.skip ?_)
      refine hend _ ?_
      simp [mT]
    | true =>
      rw [if_pos rfl] at hend
      have hw4 : IntKind.i64.wrap ((base : Int) + (cr : Int) + 1) = (base : Int) + ((cr : Int) + 1) := by rw [IntWalk.i64_in _ (by omega)]; omega
      refine .cond (t := true) (by simp) (.ops (opsF_all (by simp [hw4]; rfl) ?_))
      refine hend _ ?_
      simp [mT]
  · obtain rfl : i = pw w s + 4 := by omega
    refine .cond (t := false) (by simp; omega) (.exit ?_)
    exact hQ _ (by simp [mT])
/-- What stands at the end of the rows. -/
theorem mJ_ok {Q : Exit → St → Prop} {w : Bool} {x y : Int} {s : List UInt8} {SW SR S : V} {l : List Rc} {c10 c11 n : Nat} {H : Heap} (h : MC w x y s SW SR S l c10 c11 H)
    (hQ : ∀ T', ((mT x y c10 c11 (cA (inkB w x y s) (x - 2) (y - 10) (pw w s + 4) 16) (y + 6)).map fun p => aget T' p.1) = ((mT x y c10 c11 (cA (inkB w x y s) (x - 2) (y - 10) (pw w s + 4) 16) (y + 6)).map fun p => some p.2) → Q .normal ⟨T', [], n, H⟩) :
    AWc Try.prog 95 none (.block 0 (.loop mBj)) ⟨mT x y c10 c11 0 (y - 10), [], n, H⟩ Q := by
  have hpw := pw_le w s
  have hs := h.hs
  have hx := h.hx
  have hy := h.hy
  have hst : St.less (⟨mT x y c10 c11 (0 + cA (inkB w x y s) (x - 2) (y - 10) (pw w s + 4) 0) (y - 10 + (0 : Nat)), [], n, H⟩ : St) ⟨mT x y c10 c11 0 (y - 10), [], n, H⟩ := St.less_F (by simp [mT]) (by simp [mT, cA])
  refine .block (.loop (k₀ := 16) (s₀ := ⟨mT x y c10 c11 (0 + cA (inkB w x y s) (x - 2) (y - 10) (pw w s + 4) 0) (y - 10 + (0 : Nat)), [], n, H⟩)
    (fun k st => ∃ i : Nat, i ≤ 16 ∧ k = 16 - i ∧ st = ⟨mT x y c10 c11 (0 + cA (inkB w x y s) (x - 2) (y - 10) (pw w s + 4) i) (y - 10 + i), [], n, H⟩)
    ⟨0, by omega, rfl, rfl⟩ hst (Nat.le_refl _) (fun k st ⟨i, h1, h2, h3⟩ => by rw [h3]; exact Nat.le_refl _) ?_)
  rintro k st ⟨i, h1, rfl, rfl⟩
  have hca := cA_le (inkB w x y s) (x - 2) (y - 10) (pw w s + 4) i
  have hca2 : (pw w s + 4) * i ≤ 100 * 16 := Nat.mul_le_mul (by omega) h1
  have hw1 : IntKind.i64.wrap (y + 6) = y + 6 := IntWalk.i64_in _ (by omega)
  have hw2 : IntKind.i64.wrap (y - 10 + (i : Int) + 1) = y - 10 + ((i : Int) + 1) := by rw [IntWalk.i64_in _ (by omega)]; omega
  have hw3 : IntKind.i64.wrap (x - 2) = x - 2 := IntWalk.i64_in _ (by omega)
  unfold mBj
  refine .seq (.seq (.ops (opsF_all (by simp [mT, hw1]; rfl) ?_)))
  by_cases hi : i < 16
  · have hi' : y - 10 + (i : Int) < y + 6 := by omega
    refine .cond (t := true) (by simp [hi']) (.skip ?_)
    refine AWc.forget (T0 := mT x y c10 c11 (0 + cA (inkB w x y s) (x - 2) (y - 10) (pw w s + 4) i) (y - 10 + i)) (by simp [mT]) ?_
    refine .seq (.block (.seq (.ops (opsF_all (by simp [mT, hw3]; rfl) ?_))))
    refine AWc.forget (T0 := (15, .i .i64 (x - 2)) :: mT x y c10 c11 (cA (inkB w x y s) (x - 2) (y - 10) (pw w s + 4) i) (y - 10 + i)) (by simp [mT]) ?_
    refine mI_ok h (y - 10 + i) (by omega) _ (by omega) fun T' hT' => ?_
    refine AWc.forget hT' ?_
    refine .ops (opsF_all (by simp [mT, hw2]; rfl) ?_)
    exact ⟨16 - (i + 1), _, by omega, ⟨i + 1, by omega, rfl, rfl⟩, St.less_F (by simp [mT]) (by simp [mT, hw2, cA])⟩
  · obtain rfl : i = 16 := by omega
    refine .cond (t := false) (by simp; omega) (.exit ?_)
    refine hQ _ ?_
    have e : y - 10 + (16 : Int) = y + 6 := by omega
    simp [mT, e]
end Go.Proofs.Ytpgelghkjiejlaa
end
section
set_option maxRecDepth 4000
namespace Go.Proofs.Ytpgelghkjiejlaa
open Go
attribute [local irreducible] opsF drawF drawP fontC shV
def mTail : ACode := (.seq (.seq (.ops (some [0, 0, 0, 0, 14, 31]) [⟨(some 35), (.ld true 4 (.t 12)), none⟩,
       ⟨(some 36), (.ld true 4 (.t 10)), none⟩,
       ⟨(some 37), (.mv (.t 1)), none⟩,
       ⟨(some 38), (.mv (.t 2)), none⟩,
       ⟨(some 39), (.call (.f 17) [(.t 36), (.t 37), (.t 38)]), none⟩,
       ⟨(some 40), (.eqs true [1, 1, 1, 1] (.t 35) (.t 39)), none⟩])
     (.cond (.t 40)
      (.seq (.ops none [⟨(some 8), (.mv (.c (.b false))), none⟩])
       (.ret))
      (.skip)))
     (.seq (.seq (.ops none [⟨(some 41), (.mv (.t 1)), none⟩,
       ⟨(some 42), (.mv (.t 2)), none⟩,
       ⟨(some 43), (.call (.f 18) [(.t 41), (.t 42)]), none⟩,
       ⟨(some 44), (.un .not (.t 43)), none⟩])
      (.cond (.t 44)
       (.seq (.ops none [⟨(some 45), (.ld true 1 (.t 11)), none⟩,
         ⟨(some 46), (.call (.f 19) [(.t 45)]), none⟩,
         ⟨(some 47), (.mv (.t 46)), none⟩,
         ⟨(some 48), (.call (.f 7) []), (some ((some 47), true))⟩,
         ⟨(some 49), (.pick (.t 47) (.t 48) (.c (.b false))), none⟩,
         ⟨(some 8), (.mv (.t 49)), none⟩])
       (.ret))
       (.skip)))
     mEnd))
def mDr : ACode := (.seq (.ops (some [0, 0, 0, 0, 15, 0, 0, 0, 0, 511, 0, 0, 4095, 8191]) [⟨(some 25), (.ld true 1617 (.t 9)), none⟩,
      ⟨(some 26), (.mv (.t 1)), none⟩,
      ⟨(some 27), (.mv (.t 2)), none⟩,
      ⟨(some 28), (.mv (.t 3)), none⟩,
      ⟨(some 29), (.call (.f 16) [(.t 25), (.t 26), (.t 27), (.t 28)]), none⟩,
      ⟨(some 30), (.ld true 1617 (.t 9)), none⟩,
      ⟨(some 31), (.mv (.t 1)), none⟩,
      ⟨(some 32), (.mv (.t 2)), none⟩,
      ⟨(some 33), (.mv (.t 3)), none⟩,
      ⟨(some 34), (.call (.f 15) [(.t 30), (.t 31), (.t 32), (.t 33)]), none⟩,
      ⟨(some 11), (.new [.nils]), none⟩,
      ⟨(some 12), (.new [(.i .i64 0), (.i .i64 0), (.i .i64 0), (.i .i64 0)]), none⟩,
      ⟨none, (.st 1 (.t 11) (.t 29)), none⟩,
      ⟨none, (.st 4 (.t 12) (.t 34)), none⟩])
    mTail)

theorem mEnd_ok {Q : Exit → St → Prop} (hA : ∀ n H, Pure Try.prog 7 [] n H (.b true)) {w : Bool} {x y : Int} {s : List UInt8} {SW SR S : V} {l : List Rc} {c10 c11 n : Nat} {H : Heap} (h : MC w x y s SW SR S l c10 c11 H)
    (ha : areaL l = (cA (inkB w x y s) (x - 2) (y - 10) (pw w s + 4) 16 : Nat))
    (hQ : ∀ T', aget T' 8 = some (.b true) → Q .ret ⟨T', [], n, H⟩) :
    AWc Try.prog 95 none mEnd ⟨[(1, .i .i64 x), (2, .i .i64 y), (8, .b false), (10, .p c10 0), (11, .p c11 0)], [], n, H⟩ Q := by
  have hy := h.hy
  have h11 := h.h11
  have hSk := h.hS.known
  have hSo := h.hS.one
  have hw1 : IntKind.i64.wrap (y - 10) = y - 10 := IntWalk.i64_in _ (by omega)
  unfold mEnd
  refine .seq (.ops (opsF_all (by simp; rfl) ?_))
  refine .seq (.seq (.ops (opsF_all (by simp [hw1]; rfl) ?_)))
  refine AWc.forget (T0 := mT x y c10 c11 0 (y - 10)) (by simp [mT]) ?_
  refine mJ_ok h fun T' hT' => ?_
  refine AWc.forget hT' ?_
  generalize cA (inkB w x y s) (x - 2) (y - 10) (pw w s + 4) 16 = cn at ha
  refine .seq (.ops (opsF_run 1 (by simp [mT, h11, hSk, hSo]; rfl) ?_))
  refine opsF_cons_call rfl rfl rfl (v := .i .i64 cn) (by rw [← ha]; exact area_ok S l (Nat.le_trans h.hl (by decide)) _ _ h.hS) ?_
  refine opsF_run 3 (by simp; rfl) ?_
  refine opsF_cons_call rfl rfl rfl (v := .b true) (hA _ _) ?_
  refine opsF_all (by simp; rfl) ?_
  refine .ret (hQ _ ?_)
  simp
theorem boxV_rect (w : Bool) (x y : Int) (s : List UInt8) : ∃ a b c d, boxV w x y s = rectV a b c d := by
  unfold boxV
  split
  · split <;> exact ⟨_, _, _, _, rfl⟩
  · exact ⟨_, _, _, _, rfl⟩
theorem mTail_ok {Q : Exit → St → Prop} (hA : ∀ n H, Pure Try.prog 7 [] n H (.b true)) (w : Bool) (x y : Int) (s : List UInt8) (hs : s.length ≤ 12) (SW SR S : V) (l : List Rc) (c10 c11 c12 n : Nat) (H : Heap)
    (h10 : aget H c10 = some (.row true [SW, SR, .i .i64 (fA w : Nat), .i .i64 (fH w : Nat)])) (h11 : aget H c11 = some (.row true [S]))
    (a b c d : Int) (h12 : aget H c12 = some (.row true [.i .i64 a, .i .i64 b, .i .i64 c, .i .i64 d])) (hbx : boxV w x y s = rectV a b c d) (hW : SlW H SW w s) (hR : SlO H SR w s) (hS : SlR H S l)
    (hno : (coordV x && coordV y) = false → l = [])
    (hyes : (coordV x && coordV y) = true → MC w x y s SW SR S l c10 c11 H ∧ areaL l = (cA (inkB w x y s) (x - 2) (y - 10) (pw w s + 4) 16 : Nat))
    (hQ : ∀ T', aget T' 8 = some (.b true) → Q .ret ⟨T', [], n, H⟩) :
    AWc Try.prog 95 none mTail ⟨[(1, .i .i64 x), (2, .i .i64 y), (8, .b false), (10, .p c10 0), (11, .p c11 0), (12, .p c12 0)], [], n, H⟩ Q := by
  refine .withIn fun hin => ?_
  have hin : HIn n H := hin
  have n10 := (hin _ _ h10).1
  have n12 := (hin _ _ h12).1
  have hSk := hS.known
  have hSo := hS.one
  have hWk := hW.known
  have hRk := hR.known
  have hfr : ∀ b ∈ List.range n, b < n := fun b hb => List.mem_range.1 hb
  have hall : ∀ b k, aget H b = some k → b ∈ List.range n := fun b k hk => List.mem_range.2 (hin _ _ hk).1
  have hbp := fun m G g => refBox_pure w x y s (by omega) SW SR m G g hRk
  rw [hbx] at hbp
  unfold mTail
  refine .seq (.seq (.drawP (by rfl) ?_))
  refine drawP_run 4 (by rfl) (by simp [h10, h12, n10, n12, hWk, hRk]; rfl) ?_
  refine drawP_call (List.range n) rfl rfl rfl (hbp _ _ (hW.restrL fun b hb => let ⟨k, hk⟩ := hW.idsL b hb; hall b k hk)) hfr rectV_in ?_
  refine drawP_all (by rfl) (by simp [rectV, evEqs, eqAll]; rfl) ?_
  refine .cond (t := false) (by simp) (.skip ?_)
  refine AWc.forget (T0 := [(1, .i .i64 x), (2, .i .i64 y), (8, .b false), (10, .p c10 0), (11, .p c11 0)]) (by simp) ?_
  refine .seq (.seq (.ops (opsF_run 2 (by simp; rfl) ?_)))
  refine opsF_cons_call rfl rfl rfl (v := .b (coordV x && coordV y)) (fits18_pure x y _ _) ?_
  cases hc : (coordV x && coordV y) with
  | false =>
    have hl := hno hc
    refine opsF_all (by simp; rfl) ?_
    refine .cond (t := true) (by simp) (.seq (.ops (opsF_run 1 (by simp [h11, hSk, hSo]; rfl) ?_)))
    refine opsF_cons_call rfl rfl rfl (v := .b (decide (l = []))) (empty_ok S l _ _ hS) ?_
    rw [decide_eq_true hl]
    refine opsF_run 1 (by simp; rfl) ?_
    refine opsF_cons_call rfl rfl rfl (v := .b true) (hA _ _) ?_
    refine opsF_all (by simp; rfl) ?_
    refine .ret (hQ _ ?_)
    simp
  | true =>
    obtain ⟨hM, ha⟩ := hyes hc
    refine opsF_all (by simp; rfl) ?_
    refine .cond (t := false) (by simp) (.skip ?_)
    exact AWc.forget (by simp) (mEnd_ok hA hM ha hQ)
end Go.Proofs.Ytpgelghkjiejlaa
end
section
set_option maxRecDepth 4000
namespace Go.Proofs.Ytpgelghkjiejlaa
open Go
attribute [local irreducible] opsF drawF drawP fontC shV
theorem regL_area (w : Bool) (x y : Int) (s : List UInt8) (hs : s.length ≤ 12) (hc : (coordV x && coordV y) = true) :
    (regL w x y s).length ≤ 1000000 ∧ areaL (regL w x y s) = (cA (inkB w x y s) (x - 2) (y - 10) (pw w s + 4) 16 : Nat) := by
  obtain ⟨_, hR, hC⟩ := regL_law w x y s hs hc
  generalize regL w x y s = l at hR hC
  have hpw := pw_le w s
  have hfa := fA_le w
  have hfh : (fH w : Int) ≤ (fA w : Nat) + 2 := by cases w <;> decide
  have hbox : ∀ r ∈ l, (x ≤ r.x ∧ r.x + r.w ≤ x + (pw w s : Nat)) ∧ (y - (fA w : Nat) ≤ r.y ∧ r.y + r.h ≤ y - (fA w : Nat) + (fH w : Nat)) ∧ 0 < r.w ∧ 0 < r.h := fun r hr => by
    have hok := hR.ok r hr
    unfold OkRc at hok
    have h1 := inkB_in ((hC r.x r.y).1 ⟨r, hr, by unfold inR; omega⟩)
    have h2 := inkB_in ((hC (r.x + r.w - 1) (r.y + r.h - 1)).1 ⟨r, hr, by unfold inR; omega⟩)
    omega
  have hP : l.Pairwise (fun a b => a.x ≠ b.x ∨ a.y ≠ b.y) := List.Pairwise.imp_of_mem (fun {a b} ha hb hab => by
      have h1 := hbox a ha
      have h2 := hbox b hb
      unfold Rel at hab
      omega) hR.rel
  have hlen := corner_len l hP x (y - (fA w : Nat)) 96 9 (fun r hr => by have := hbox r hr; omega)
  refine ⟨by omega, ?_⟩
  have h1 := sumA_count (x - 2) (y - 10) (pw w s + 4) 16 l hR (fun r hr => by have := hbox r hr; omega)
  have h2 : cA (covB l) (x - 2) (y - 10) (pw w s + 4) 16 = cA (inkB w x y s) (x - 2) (y - 10) (pw w s + 4) 16 := cA_congr _ _ _ _ fun i j _ _ _ _ => by
    rw [Bool.eq_iff_iff, covB_iff, hC]
  rw [h2] at h1
  have h3 := cA_le (inkB w x y s) (x - 2) (y - 10) (pw w s + 4) 16
  rw [areaL_sum l (fun r hr => (hbox r hr).2.2) (by omega), h1]
theorem mDr_ok {Q : Exit → St → Prop} (hA : ∀ n H, Pure Try.prog 7 [] n H (.b true)) (w : Bool) (x y : Int) (s : List UInt8) (hs : s.length ≤ 12) (SW SR : V) (c9 c10 n : Nat) (H : Heap)
    (h9 : aget H c9 = some (.row true (fontC w))) (h10 : aget H c10 = some (.row true [SW, SR, .i .i64 (fA w : Nat), .i .i64 (fH w : Nat)])) (hW : SlW H SW w s) (hR : SlO H SR w s)
    (hQ : ∀ T' n' H', aget T' 8 = some (.b true) → Q .ret ⟨T', [], n', H'⟩) :
    AWc Try.prog 95 none mDr ⟨[(1, .i .i64 x), (2, .i .i64 y), (3, .s s), (8, .b false), (9, .p c9 0), (10, .p c10 0)], [], n, H⟩ Q := by
  refine .withIn fun hin => ?_
  have hin : HIn n H := hin
  have n9 := (hin _ _ h9).1
  have n10 := (hin _ _ h10).1
  have hreg := region_ok w x y s (by omega) (fun hc => (regL_law w x y s hs hc).1) n (restr H [] [])
  have hno : (coordV x && coordV y) = false → regL w x y s = [] := fun h => by unfold regL; rw [h]; rfl
  have hyes : (coordV x && coordV y) = true → (regL w x y s).length ≤ 1000000 ∧ areaL (regL w x y s) = (cA (inkB w x y s) (x - 2) (y - 10) (pw w s + 4) 16 : Nat) ∧ ∀ i j, hasL i j (regL w x y s) = inkB w x y s i j := fun h => by
    obtain ⟨_, r1, r2⟩ := regL_law w x y s hs h
    obtain ⟨a1, a2⟩ := regL_area w x y s hs h
    exact ⟨a1, a2, fun i j => by rw [Bool.eq_iff_iff, hasL_iff i j _ r1, r2]⟩
  generalize regL w x y s = l at hreg hno hyes
  obtain ⟨a, b, c, d, hbx⟩ := boxV_rect w x y s
  have hbp := fun m G => boxG_pure w x y s m G
  rw [hbx] at hbp
  have hfl := fontC_len w
  have hft : (fontC w).take 1617 = fontC w := List.take_of_length_le (by rw [hfl]; exact Nat.le_refl _)
  have n9' : c9 < n + 1 := by omega
  obtain ⟨H1, hH1⟩ : ∃ H1, H1 = mergeH H [] n (n + 1) (newH l n H []) := ⟨_, rfl⟩
  have m1 : ∀ b, b ≠ n → aget H1 b = aget H b := fun b hb => by rw [hH1]; exact newH_old _ _ _ _ _ hb
  have hS1 : SlR H1 (slB (!l.isEmpty) n 4 l.length) l := by rw [hH1]; exact newH_slR _ _ _ _
  have g9 : aget H1 c9 = some (.row true (fontC w)) := by rw [m1 _ (by omega)]; exact h9
  generalize hFC : fontC w = FC at h9 g9 hreg hbp hfl hft
  unfold mDr
  refine .seq (.drawS (by rfl) (drawF_run 4 (by rfl) (by simp [h9, n9, hfl, hft]; exact ⟨rfl, rfl⟩) ?_))
  refine drawF_newG [] l rfl rfl rfl hreg (by simp) ?_
  rw [← hH1]
  refine drawF_run 4 (by rfl) (by simp [g9, n9', hfl, hft]; exact ⟨rfl, rfl⟩) ?_
  refine drawF_call (f := 15) (first := []) (caps := []) (fr := []) (fw := []) (v := rectV a b c d) (n1 := n + 1) (R := restr H1 [] []) rfl rfl rfl (hbp (n + 1) _) ⟨Nat.le_refl _, by simp, by simp, fun p hp ht => by simp [touch] at ht; omega⟩ ⟨rectV_in, fun p hp ht => by simp [touch] at ht; omega⟩ ?_
  rw [merge_none]
  refine drawF_run 2 (by rfl) (by simp [Blk.own]; exact ⟨rfl, rfl⟩) ?_
  obtain ⟨H2, hH2⟩ : ∃ H2, H2 = mergeH (mergeH H1 [] (n + 1) (n + 2) [(n + 1, Blk.row true [V.nils])]) [] (n + 2) (n + 3)
          [(n + 2, Blk.row true [V.i IntKind.i64 0, V.i IntKind.i64 0, V.i IntKind.i64 0, V.i IntKind.i64 0])] := ⟨_, rfl⟩
  rw [← hH2]
  have k11 : aget H2 (n + 1) = some (.row true [.nils]) := by rw [hH2, mergeN, if_neg (by omega), mergeN, if_pos (by omega)]; simp
  have k12 : aget H2 (n + 2) = some (.row true [V.i IntKind.i64 0, V.i IntKind.i64 0, V.i IntKind.i64 0, V.i IntKind.i64 0]) := by rw [hH2, mergeN, if_pos (by omega)]; simp
  have m2 : ∀ b, b < n + 1 → aget H2 b = aget H1 b := fun b hb => by rw [hH2, mergeN, if_neg (by omega), mergeN, if_neg (by omega)]
  refine drawF_stA (c := n + 1) rfl rfl rfl k11 (by omega) rfl rfl (slB_one _ _ _ _) ?_
  obtain ⟨H3, hH3⟩ : ∃ H3, H3 = mergeH H2 [n + 1] (n + 3) (n + 3) [(n + 1, .row true [slB (!l.isEmpty) n 4 l.length])] := ⟨_, rfl⟩
  rw [← hH3]
  have p11 : aget H3 (n + 1) = some (.row true [slB (!l.isEmpty) n 4 l.length]) := by rw [hH3, mergeW, if_pos (.inl rfl)]; simp
  have p12 : aget H3 (n + 2) = some (.row true [V.i IntKind.i64 0, V.i IntKind.i64 0, V.i IntKind.i64 0, V.i IntKind.i64 0]) := by rw [hH3, mergeW, if_neg (by omega)]; exact k12
  have m3 : ∀ b, b < n + 1 → aget H3 b = aget H2 b := fun b hb => by rw [hH3, mergeW, if_neg (by omega)]
  refine drawF_all (by rfl) (by simp [p12, rectV, setAll, Blk.own]; exact ⟨rfl, rfl⟩) ⟨?_, ?_⟩
  · simp [-idOf, heapOk, heapRow, heavy, heapI]
    repeat' (first | apply And.intro | intro _)
    all_goals first | decide | exact .inl (by decide) | omega
  · show AWc Try.prog 95 none mTail _ Q
    refine AWc.forget (T0 := [(1, .i .i64 x), (2, .i .i64 y), (8, .b false), (10, .p c10 0), (11, .p (n + 1) 0), (12, .p (n + 2) 0)]) (by simp) ?_
    obtain ⟨H4, hH4⟩ : ∃ H4, H4 = mergeH H3 [n + 2] (n + 3) (n + 3) [(n + 2, Blk.row true [V.i IntKind.i64 a, V.i IntKind.i64 b, V.i IntKind.i64 c, V.i IntKind.i64 d])] := ⟨_, rfl⟩
    rw [← hH4]
    have q11 : aget H4 (n + 1) = some (.row true [slB (!l.isEmpty) n 4 l.length]) := by rw [hH4, mergeW, if_neg (by omega)]; exact p11
    have q12 : aget H4 (n + 2) = some (.row true [V.i IntKind.i64 a, V.i IntKind.i64 b, V.i IntKind.i64 c, V.i IntKind.i64 d]) := by rw [hH4, mergeW, if_pos (.inl rfl)]; simp
    have m4 : ∀ b, b < n + 1 → aget H4 b = aget H1 b := fun b hb => by rw [hH4, mergeW, if_neg (by omega), m3 b hb, m2 b hb]
    have hin1 : HIn (n + 1) H1 := by rw [hH1]; exact newH_in hin (by simp)
    have k1 : ∀ b k, aget H1 b = some k → aget H4 b = some k := fun b k hb => by rw [m4 b (hin1 _ _ hb).1]; exact hb
    have k0 : ∀ b k, aget H b = some k → aget H4 b = some k := fun b k hb => k1 b k (by have := (hin _ _ hb).1; rw [m1 b (by omega)]; exact hb)
    have hS4 := hS1.mono k1
    refine mTail_ok hA w x y s hs SW SR _ l c10 (n + 1) (n + 2) _ H4 (k0 _ _ h10) q11 a b c d q12 hbx (hW.mono k0) (hR.mono k0) hS4 hno (fun hc => ?_) (fun T' h8 => hQ T' _ _ h8)
    obtain ⟨a1, a2, a3⟩ := hyes hc
    have hxy : (-1048576 ≤ x ∧ x ≤ 1048576) ∧ -1048576 ≤ y ∧ y ≤ 1048576 := by simpa [coordV] using hc
    exact ⟨⟨k0 _ _ h10, q11, hW.mono k0, hR.mono k0, hS4, a1, hs, hxy.1, hxy.2, a3⟩, a2⟩
theorem ACalls.outIn {P : Program} {f : FuncId} {args : List V} {n : Nat} {H : Heap} {K : V → Nat → Heap → Prop} (h : ACalls P f args n H K) : ACalls P f args n H fun v n' H' => HIn n' H' ∧ K v n' H' :=
  ⟨h.1, fun ρ w args' hs hr => (h.2 ρ w args' hs hr).mono fun e w' ⟨v, n', H', ρ', y, hk, he, hv, hsim, hx⟩ => ⟨v, n', H', ρ', y, ⟨hsim.hin, hk⟩, he, hv, hsim, hx⟩⟩
/-- TextRegions answers true, whatever the text, the place and the font. -/
theorem regions_ok (hA : ∀ n H, Pure Try.prog 7 [] n H (.b true)) (hF : ∀ w n H, Pure Try.prog 8 [.b w] n H (.ag (fontC w))) (w : Bool) (x y : Int) (s : List UInt8) :
    ACalls Try.prog 6 [.b w, .i .i64 x, .i .i64 y, .s s] 0 [] fun v _ _ => v = .b true := by
  refine .enter0 F6_ok (by simp [F6]) ?_
  refine .seq (.ops (opsF_all (by simp; rfl) ?_))
  refine .seq (.seq (.ops (opsF_all (by simp; rfl) ?_)))
  by_cases hs : (12 : Int) < s.length
  · refine .cond (t := true) (by simp [hs]) (.seq (.ops (opsF_cons_call rfl rfl rfl (v := .b true) (hA _ _) ?_)))
    refine opsF_all (by simp; rfl) ?_
    refine .ret ?_
    simp [F6]
  · refine .cond (t := false) (by simp; omega) (.skip ?_)
    refine AWc.forget (T0 := [(0, .b w), (1, .i .i64 x), (2, .i .i64 y), (3, .s s), (8, .b false)]) (by simp) ?_
    have hs' : s.length ≤ 12 := by omega
    generalize hZ : List.replicate 1617 (V.i IntKind.i64 0) = Z
    have hZl : Z.length = 1617 := by rw [← hZ, List.length_replicate]
    have hset : setAll Z 0 (fontC w) = fontC w := setAll_full (by rw [fontC_len, hZl])
    clear hZ
    refine AWc.seq (.ops (opsF_run 1 (by simp; rfl) ?_))
    refine opsF_cons_call rfl rfl rfl (v := .ag (fontC w)) (hF w _ _) ?_
    refine opsF_run 1 (by simp [-zrep_sing]; rfl) ?_
    refine opsF_all (by simp [-List.all_eq_true, hset, hZl]; rfl) ?_
    obtain ⟨H0, hH0⟩ : ∃ H0 : Heap, H0 = [(0, Blk.row true (fontC w))] := ⟨_, rfl⟩
    refine AWc.forget (T0 := [(1, .i .i64 x), (2, .i .i64 y), (3, .s s), (8, .b false), (9, .p 0 0)]) (by simp) ?_
    refine AWc.alikeH (H := H0) (fun q => by rw [hH0]) ?_
    have g0 : aget H0 0 = some (.row true (fontC w)) := by rw [hH0]; simp
    clear hH0
    have hof := (ofN_ok w s (by omega) 1 H0).outIn
    refine AWc.seq (.ops (opsF_run 2 (by simp [g0]; rfl) ?_))
    refine opsF_cons_callV rfl rfl (callV_fn hof) ?_
    rintro v n1 H1 ⟨hin, hk, SW, SR, rfl, hW, hR⟩
    have hWk := hW.known
    have hRk := hR.known
    refine opsF_run 1 (by simp; rfl) ?_
    refine opsF_all (by simp [setAll, hWk, hRk]; rfl) ?_
    refine AWc.forget (T0 := [(1, .i .i64 x), (2, .i .i64 y), (3, .s s), (8, .b false), (9, .p 0 0), (10, .p n1 0)]) (by simp) ?_
    obtain ⟨H2, hH2⟩ : ∃ H2 : Heap, H2 = (n1, Blk.row true [SW, SR, .i .i64 (fA w : Nat), .i .i64 (fH w : Nat)]) :: H1 := ⟨_, rfl⟩
    refine AWc.alikeH (H := H2) (fun q => by rw [hH2]) ?_
    have k10 : aget H2 n1 = some (.row true [SW, SR, .i .i64 (fA w : Nat), .i .i64 (fH w : Nat)]) := by rw [hH2]; simp
    have kk : ∀ b k, aget H1 b = some k → aget H2 b = some k := fun b k hb => by
      have := (hin _ _ hb).1
      rw [hH2, aget_cons, if_neg (by omega)]; exact hb
    refine mDr_ok hA w x y s hs' SW SR 0 n1 (n1 + 1) H2 (kk _ _ (hk _ _ g0)) k10 (hW.mono kk) (hR.mono kk) fun T' n' H' h8 => ?_
    exact ⟨.inr rfl, rfl, [.b true], by simp [F6, h8], rfl⟩
end Go.Proofs.Ytpgelghkjiejlaa
end
