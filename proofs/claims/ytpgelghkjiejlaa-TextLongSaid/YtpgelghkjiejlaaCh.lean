/- font.build: the two fonts, cell by cell. -/
import Derived.Test.YtpgelghkjiejlaaCg
set_option linter.unusedVariables false
set_option linter.unusedSimpArgs false
set_option maxRecDepth 4000
namespace Go.Proofs.Ytpgelghkjiejlaa
open Go

/-- A font's cells of which the first k are laid. -/
def pre (w : Bool) (k : Nat) : List V := (List.range 1617).map fun p => .i .i64 ((if p < k then fC w p else 0 : Nat) : Int)
@[simp] theorem pre_len (w : Bool) (k : Nat) : (pre w k).length = 1617 := by simp [pre]
theorem pre_get (w : Bool) (k : Nat) {p : Nat} (h : p < 1617) : (pre w k)[p]? = some (.i .i64 ((if p < k then fC w p else 0 : Nat) : Int)) := by
  simp only [pre, List.getElem?_map, List.getElem?_range h, Option.map_some]
theorem pre_in (w : Bool) (k n : Nat) : ∀ x ∈ pre w k, VIn n x := by
  intro x hx
  simp only [pre, List.mem_map] at hx
  obtain ⟨p, _, rfl⟩ := hx
  exact .i _ _
@[simp] theorem pre_one (w : Bool) (k : Nat) : (pre w k).all V.one = true := by
  rw [List.all_eq_true]
  intro x hx
  simp only [pre, List.mem_map] at hx
  obtain ⟨p, _, rfl⟩ := hx
  rfl
@[simp] theorem pre_take (w : Bool) (k : Nat) : (pre w k).take 1617 = pre w k := List.take_of_length_le (by simp)
theorem pre_none (w : Bool) (k : Nat) {p : Nat} (h : ¬ p < 1617) : (pre w k)[p]? = none := List.getElem?_eq_none (by simp; omega)
theorem pre_full (w : Bool) : pre w 1617 = fontC w := by
  apply List.ext_getElem?
  intro p
  by_cases h : p < 1617
  · rw [pre_get w _ h, fontC_get w h, if_pos h]
  · rw [pre_none w _ h, List.getElem?_eq_none (by simp; omega)]
theorem pre_zero (w : Bool) : List.replicate 1617 (V.i .i64 0) = pre w 0 := by
  apply List.ext_getElem?
  intro p
  by_cases h : p < 1617
  · rw [pre_get w _ h, if_neg (by omega), List.getElem?_replicate, if_pos h]
    rfl
  · rw [pre_none w _ h, List.getElem?_eq_none (by rw [List.length_replicate]; omega)]
theorem pre_set (w : Bool) {k : Nat} (h : k < 1617) : setAll (pre w k) k [V.i .i64 (fC w k)] = pre w (k + 1) := by
  apply List.ext_getElem?
  intro p
  rw [setAll_get _ _ _ (by simp; omega)]
  simp only [List.length_cons, List.length_nil, Nat.zero_add]
  by_cases hp : p < 1617
  · rw [pre_get w _ hp, pre_get w _ hp]
    by_cases e : p < k
    · rw [if_pos e, if_pos e, if_pos (by omega)]
    · rw [if_neg e]
      by_cases e2 : p = k
      · subst e2
        rw [if_pos (by omega), if_pos (by omega)]
        simp
      · rw [if_neg (by omega), if_neg e, if_neg (by omega)]
  · rw [pre_none w _ hp, pre_none w _ hp, if_neg (by omega), if_neg (by omega)]
theorem pre_skip (w : Bool) {k k' : Nat} (hk : k ≤ k') (h : ∀ p, k ≤ p → p < k' → fC w p = 0) : pre w k = pre w k' := by
  apply List.ext_getElem?
  intro p
  by_cases hp : p < 1617
  · rw [pre_get w _ hp, pre_get w _ hp]
    by_cases e : p < k
    · rw [if_pos e, if_pos (by omega)]
    · rw [if_neg e]
      by_cases e2 : p < k'
      · rw [if_pos e2, h p (by omega) e2]
      · rw [if_neg e2]
  · rw [pre_none w _ hp, pre_none w _ hp]
theorem fC_hi (w : Bool) {l p : Nat} (h1 : 2 + l * 17 + 1 + fH w ≤ p) (h2 : p < 2 + (l + 1) * 17) : fC w p = 0 := by
  unfold fC
  rw [if_neg (by omega), if_neg (by omega), if_neg (by omega), if_neg (by omega)]
theorem fC_l0 (w : Bool) {p : Nat} (h1 : 3 ≤ p) (h2 : p < 2 + 17) : fC w p = 0 := by
  unfold fC
  rw [if_neg (by omega), if_neg (by omega), if_neg (by omega)]
  split
  · have : (p - 2) / 17 = 0 := by omega
    rw [this]
    rfl
  · rfl
theorem pre_0 (w : Bool) {k : Nat} (h : 2 ≤ k) : (pre w k)[0]? = some (.i .i64 (fA w)) := by rw [pre_get w k (by omega), if_pos (by omega)]; rfl
theorem pre_1 (w : Bool) {k : Nat} (h : 2 ≤ k) : (pre w k)[1]? = some (.i .i64 (fD w)) := by rw [pre_get w k (by omega), if_pos (by omega)]; rfl
theorem heightK_pure (w : Bool) {k : Nat} (hk : 2 ≤ k) (n : Nat) (H : Heap) : Pure Try.prog 41 [.ag (pre w k)] n H (.i .i64 (fH w)) := by
  have h0 := pre_0 w hk
  have h1 := pre_1 w hk
  refine .of0 (.enter0 F41_ok (by simp [F41]) ?_) (by intro x hx; rw [List.mem_singleton.1 hx]; exact .ag (pre_in w k 0)) (.i _ _) n H
  refine .seq (.ops (opsF_all (by simp; rfl) ?_))
  refine .seq (.ops (opsF_all (by simp [h0, h1, show 0 < k by omega, show 1 < k by omega]; rfl) ?_))
  exact .ret (by simp [F41, show 0 < k by omega, show 1 < k by omega])

def bBodyF : ACode := (.seq (.ops none [⟨(some 17), (.bin .lss (.t 16) (.c (.i .i64 95))), none⟩])
     (.seq (.cond (.t 17)
       (.skip)
       (.exit 0))
      (.seq (.block 1 (.seq (.ops none [⟨(some 18), (.mv (.t 16)), none⟩,
         ⟨(some 10), (.mv (.t 18)), none⟩])
       (.seq (.ops none [⟨(some 19), (.mv (.t 10)), none⟩,
         ⟨(some 20), (.bin .add (.c (.i .i64 32)) (.t 19)), none⟩,
         ⟨(some 11), (.mv (.t 20)), none⟩])
        (.seq (.ops none [⟨(some 21), (.mv (.t 10)), none⟩,
          ⟨(some 22), (.mv (.t 2)), none⟩,
          ⟨(some 23), (.mv (.t 11)), none⟩,
          ⟨(some 24), (.call (.t 22) [(.t 23)]), none⟩,
          ⟨(some 25), (.fa 2 (.t 9)), none⟩,
          ⟨(some 26), (.iaa 95 17 (.t 25) (.t 21)), none⟩,
          ⟨(some 27), (.fa 0 (.t 26)), none⟩,
          ⟨none, (.st 1 (.t 27) (.t 24)), none⟩])
        (.seq (.seq (.ops none [⟨(some 28), (.mv (.t 10)), none⟩,
           ⟨(some 29), (.bin .eql (.t 28) (.c (.i .i64 0))), none⟩])
         (.cond (.t 29)
          (.exit 1)
          (.skip)))
         (.seq (.ops none [⟨(some 30), (.ld true 1617 (.t 9)), none⟩,
           ⟨(some 31), (.call (.f 41) [(.t 30)]), none⟩,
           ⟨(some 32), (.mv (.c (.i .i64 0))), none⟩])
         (.block 2 (.loop (.seq (.ops none [⟨(some 33), (.bin .lss (.t 32) (.t 31)), none⟩])
           (.seq (.cond (.t 33)
            (.skip)
            (.exit 2))
           (.seq (.block 3 (.seq (.ops none [⟨(some 34), (.mv (.t 32)), none⟩,
              ⟨(some 12), (.mv (.t 34)), none⟩])
             (.ops (some [0, 0, 0, 0, 0, 28, 0, 65, 193, 511, 1023]) [⟨(some 35), (.mv (.t 10)), none⟩,
              ⟨(some 36), (.mv (.t 12)), none⟩,
              ⟨(some 37), (.mv (.t 3)), none⟩,
              ⟨(some 38), (.mv (.t 11)), none⟩,
              ⟨(some 39), (.mv (.t 12)), none⟩,
              ⟨(some 40), (.call (.t 37) [(.t 38), (.t 39)]), none⟩,
              ⟨(some 41), (.fa 2 (.t 9)), none⟩,
              ⟨(some 42), (.iaa 95 17 (.t 41) (.t 35)), none⟩,
              ⟨(some 43), (.fa 1 (.t 42)), none⟩,
              ⟨(some 44), (.iaa 16 1 (.t 43) (.t 36)), none⟩,
              ⟨none, (.st 1 (.t 44) (.t 40)), none⟩])))
            (.ops none [⟨(some 45), (.bin .add (.t 32) (.c (.i .i64 1))), none⟩,
             ⟨(some 32), (.mv (.t 45)), none⟩]))))))))))))
      (.ops none [⟨(some 46), (.bin .add (.t 16) (.c (.i .i64 1))), none⟩,
        ⟨(some 16), (.mv (.t 46)), none⟩]))))
theorem buildF_row (l y : Nat) (hl : 1 ≤ l ∧ l < 95) (hy : y < fH false) (n : Nat) (H : Heap) : Pure Try.prog 38 ([.i .i64 (l + 32 : Nat), .i .i64 y] ++ []) n H (.i .i64 (fR false l y)) := by
  have : fR false l y = (if y = 5 then 0 else ((l + 32) * (y + 3) + y) % 8) := by unfold fR; rw [if_neg (by omega)]; simp
  rw [this]
  exact fn38_pure (l + 32) y (by omega) hy n H
theorem buildF_wide (l : Nat) (hl : l < 95) (n : Nat) (H : Heap) : Pure Try.prog 37 [.i .i64 (l + 32 : Nat)] n H (.i .i64 (fW false l)) := by have := fn37_pure ((l + 32 : Nat) : Int) n H; simpa [fW] using this
def bTF (i : Nat) : Temps := [(2, .fn 37 [] []), (3, .fn 38 [] []), (8, .p 0 0), (9, .p 1 0), (16, .i .i64 i)]
def bHF (Z : List V) (k : Nat) : Heap := (1, .row true (pre false k)) :: (0, .row true Z) :: []
theorem bHF_in (Z : List V) (hZ : ∀ x ∈ Z, VIn 2 x) (k : Nat) : HIn 2 (bHF Z k) := .cons' (by simp) (pre_in _ _ _) (.cons' (by simp) hZ (.nil' _))
set_option maxHeartbeats 1000000 in
theorem buildF_ok (Z : List V) (hZ : ∀ x ∈ Z, VIn 2 x) (i : Nat) (hi : i < 95) : AWc Try.prog 48 none bBodyF ⟨bTF i, [], 2, bHF Z (2 + i * 17)⟩
    (onNormal (fun s' => St.re id ⟨bTF (i + 1), [], 2, bHF Z (2 + (i + 1) * 17)⟩ s') fun _ _ => False) := by
  have hi' : (i : Int) < 95 := by omega
  have hwc : IntKind.i64.wrap (32 + (i : Int)) = ((i + 32 : Nat) : Int) := by rw [IntWalk.i64_in _ (by omega)]; omega
  have hwi : IntKind.i64.wrap ((i : Int) + 1) = ((i + 1 : Nat) : Int) := IntWalk.i64_in _ (by omega)
  have hwide := buildF_wide i hi
  have hs0 : setAll (pre false (2 + i * 17)) (2 + i * 17) [V.i .i64 (fW false i)] = pre false (2 + i * 17 + 1) := by
    rw [← fC_w false hi]; exact pre_set false (by omega)
  have hb0 : 2 + (i * 17 + 1) ≤ 1617 := by omega
  refine .seq (.ops (opsF_all (by simp [bTF, hi']; rfl) ?_))
  refine .seq (.cond (t := true) (by simp [hi']) (.skip ?_))
  refine .seq (.block (.seq (.ops (opsF_all (by simp; rfl) ?_))))
  refine .seq (.ops (opsF_all (by simp [hwc]; rfl) ?_))
  refine .seq (.ops (opsF_run 3 (by simp; rfl) ?_))
  refine opsF_cons_call rfl rfl rfl (by simpa using hwide _ _) ?_
  refine opsF_all (by simp [hi', bHF, hb0, hs0]; rfl) ?_
  by_cases h0 : i = 0
  · subst h0
    refine .seq (.seq (.ops (opsF_all (by simp; rfl) ?_)))
    refine .cond (t := true) (by simp) (.exit ?_)
    refine AWc.ops (opsF_all (by simp [hwi]; rfl) ?_)
    have hsk : pre false (2 + 0 * 17 + 1) = pre false (2 + (0 + 1) * 17) := pre_skip false (by omega) fun p h1 h2 => fC_l0 false (by omega) (by omega)
    refine ⟨TReL.spec ?_, rfl, by simp, .same (bHF_in Z hZ _) fun b _ => ?_⟩
    · simp only [bTF, TReL, and_true]
      simp
      repeat' (first | exact VRe.i _ _ | exact VRe.p (φ := id) (by omega) | exact VRe.s _ | exact VRe.b _ | exact VRe.id_of (.fn (by simp) (by simp)) | exact VRe.id_of (.fn (by simp) (by simp [VIn.p])) | apply And.intro)
    · show aget (bHF Z (2 + 0 * 17 + 1)) b = aget (bHF Z (2 + (0 + 1) * 17)) b
      unfold bHF
      rw [hsk]
  · have h0' : ¬ (i : Int) = 0 := by omega
    refine .seq (.seq (.ops (opsF_all (by simp [h0]; rfl) ?_)))
    refine .cond (t := false) (by simp [h0]) (.skip ?_)
    refine .seq (.ops (opsF_run 1 (by simp; rfl) ?_))
    refine opsF_cons_call rfl rfl rfl (by simpa using heightK_pure false (k := 2 + (i * 17 + 1)) (by omega) _ _) ?_
    refine opsF_all (by simp; rfl) ?_
    let T0 : Nat → Temps := fun j => [(2, .fn 37 [] []), (3, .fn 38 [] []), (8, .p 0 0), (9, .p 1 0), (10, .i .i64 i), (11, .i .i64 (i + 32 : Nat)), (16, .i .i64 i), (31, .i .i64 (fH false)), (32, .i .i64 j)]
    have hfh : fH false = 6 := rfl
    refine .block (.loopR (φ₀ := id) (k₀ := 6) (s₀ := ⟨T0 0, [], 2, bHF Z (2 + i * 17 + 1 + 0)⟩)
      (fun k st => ∃ j, j ≤ 6 ∧ k = 6 - j ∧ st = ⟨T0 j, [], 2, bHF Z (2 + i * 17 + 1 + j)⟩)
      ⟨0, by omega, by omega, rfl⟩ ⟨TReL.spec ?_, rfl, by simp, .same (bHF_in Z hZ _) fun b _ => rfl⟩ (fun b hb => rfl) (fun k st ⟨j, h1, h2, h3⟩ => by simp [h3]) ?_)
    · simp only [T0, TReL, and_true]
      simp
      repeat' (first | exact VRe.i _ _ | exact VRe.p (φ := id) (by omega) | exact VRe.s _ | exact VRe.b _ | exact VRe.id_of (.fn (by simp) (by simp)) | exact VRe.id_of (.fn (by simp) (by simp [VIn.p])) | apply And.intro)
    rintro k st ⟨j, h1, rfl, rfl⟩
    by_cases hj : j < 6
    · have hj' : (j : Int) < (6 : Int) := by omega
      have hj16 : (j : Int) < 16 := by omega
      have hwj : IntKind.i64.wrap ((j : Int) + 1) = ((j + 1 : Nat) : Int) := IntWalk.i64_in _ (by omega)
      have hrow := buildF_row i j ⟨by omega, hi⟩ (by rw [hfh]; omega)
      have hs1 : setAll (pre false (2 + i * 17 + 1 + j)) (2 + i * 17 + 1 + j) [V.i .i64 (fR false i j)] = pre false (2 + i * 17 + 1 + (j + 1)) := by
        rw [← fC_r false hi (by rw [hfh]; omega)]; exact pre_set false (by omega)
      have hb1 : 2 + i * 17 + 1 + j + 1 ≤ 1617 := by omega
      generalize hk : 2 + i * 17 + 1 + j = k at hs1 hb1
      have hk2 : 2 + (i * 17 + (1 + j)) = k := by omega
      refine .seq (.ops (opsF_all (by simp [T0, hfh, hj']; rfl) ?_))
      refine .seq (.cond (t := true) (by simp [hj']) (.skip ?_))
      refine .seq (.block (.seq (.ops (opsF_all (by simp; rfl) ?_))))
      refine .draw (drawF_run 5 (by rfl) (by simp; exact ⟨rfl, rfl⟩) ?_)
      refine drawF_call rfl rfl rfl (fr := []) (fw := []) (v := .i .i64 (fR false i j)) (n1 := 2) (R := restr (bHF Z k) [] []) (hrow _ _) ⟨by simp, by simp, by simp, fun p _ ht => absurd ht (touch_none _ _)⟩ ⟨.i _ _, fun p _ ht => absurd ht (touch_none _ _)⟩ ?_
      refine drawF_run 4 (by rfl) (by simp [hi', hj16, hk2]; exact ⟨rfl, rfl⟩) ?_
      refine drawF_all (by rfl) (by simp [bHF, hb1, hs1, Blk.own]; exact ⟨rfl, rfl⟩) ⟨by rfl, ?_⟩
      refine AWc.ops (opsF_all (by simp [hwj]; rfl) ?_)
      refine ⟨6 - (j + 1), id, ⟨T0 (j + 1), [], 2, bHF Z (2 + i * 17 + 1 + (j + 1))⟩, by omega, ⟨j + 1, by omega, rfl, rfl⟩, fun _ _ => rfl, ⟨TReL.spec ?_, rfl, by simp, .same (bHF_in Z hZ _) fun b hb => ?_⟩⟩
      · simp only [T0, TReL, and_true]
        simp
        repeat' (first | exact VRe.i _ _ | exact VRe.p (φ := id) (by omega) | exact VRe.s _ | exact VRe.b _ | exact VRe.id_of (.fn (by simp) (by simp)) | exact VRe.id_of (.fn (by simp) (by simp [VIn.p])) | apply And.intro)
      · simp only [bHF, aget_mergeH, aget_cons, aget_nil, touch]
        simp
        repeat' split
        all_goals first | rfl | omega | simp_all
    · obtain rfl : j = 6 := by omega
      refine .seq (.ops (opsF_all (by simp [T0, hfh]; rfl) ?_))
      refine .seq (.cond (t := false) (by simp) (.exit ?_))
      refine AWc.ops (opsF_all (by simp [hwi]; rfl) ?_)
      have hsk : pre false (2 + i * 17 + 1 + 6) = pre false (2 + (i + 1) * 17) := pre_skip false (by omega) fun p h1 h2 => fC_hi false (l := i) (by rw [hfh]; omega) (by omega)
      refine ⟨TReL.spec ?_, rfl, by simp, .same (bHF_in Z hZ _) fun b _ => ?_⟩
      · simp only [bTF, TReL, and_true]
        simp
        repeat' (first | exact VRe.i _ _ | exact VRe.p (φ := id) (by omega) | exact VRe.s _ | exact VRe.b _ | exact VRe.id_of (.fn (by simp) (by simp)) | exact VRe.id_of (.fn (by simp) (by simp [VIn.p])) | apply And.intro)
      · simp only [bHF]
        rw [show 2 + (i * 17 + 7) = 2 + i * 17 + 1 + 6 by omega, hsk]

def bBodyT : ACode := (.seq (.ops none [⟨(some 17), (.bin .lss (.t 16) (.c (.i .i64 95))), none⟩])
     (.seq (.cond (.t 17)
       (.skip)
       (.exit 0))
      (.seq (.block 1 (.seq (.ops none [⟨(some 18), (.mv (.t 16)), none⟩,
         ⟨(some 10), (.mv (.t 18)), none⟩])
       (.seq (.ops none [⟨(some 19), (.mv (.t 10)), none⟩,
         ⟨(some 20), (.bin .add (.c (.i .i64 32)) (.t 19)), none⟩,
         ⟨(some 11), (.mv (.t 20)), none⟩])
        (.seq (.ops none [⟨(some 21), (.mv (.t 10)), none⟩,
          ⟨(some 22), (.mv (.t 2)), none⟩,
          ⟨(some 23), (.mv (.t 11)), none⟩,
          ⟨(some 24), (.call (.t 22) [(.t 23)]), none⟩,
          ⟨(some 25), (.fa 2 (.t 9)), none⟩,
          ⟨(some 26), (.iaa 95 17 (.t 25) (.t 21)), none⟩,
          ⟨(some 27), (.fa 0 (.t 26)), none⟩,
          ⟨none, (.st 1 (.t 27) (.t 24)), none⟩])
        (.seq (.seq (.ops none [⟨(some 28), (.mv (.t 10)), none⟩,
           ⟨(some 29), (.bin .eql (.t 28) (.c (.i .i64 0))), none⟩])
         (.cond (.t 29)
          (.exit 1)
          (.skip)))
         (.seq (.ops none [⟨(some 30), (.ld true 1617 (.t 9)), none⟩,
           ⟨(some 31), (.call (.f 41) [(.t 30)]), none⟩,
           ⟨(some 32), (.mv (.c (.i .i64 0))), none⟩])
         (.block 2 (.loop (.seq (.ops none [⟨(some 33), (.bin .lss (.t 32) (.t 31)), none⟩])
           (.seq (.cond (.t 33)
            (.skip)
            (.exit 2))
           (.seq (.block 3 (.seq (.ops none [⟨(some 34), (.mv (.t 32)), none⟩,
              ⟨(some 12), (.mv (.t 34)), none⟩])
             (.ops (some [0, 0, 0, 0, 0, 28, 0, 65, 193, 511, 1023]) [⟨(some 35), (.mv (.t 10)), none⟩,
              ⟨(some 36), (.mv (.t 12)), none⟩,
              ⟨(some 37), (.mv (.t 3)), none⟩,
              ⟨(some 38), (.mv (.t 11)), none⟩,
              ⟨(some 39), (.mv (.t 12)), none⟩,
              ⟨(some 40), (.call (.t 37) [(.t 38), (.t 39)]), none⟩,
              ⟨(some 41), (.fa 2 (.t 9)), none⟩,
              ⟨(some 42), (.iaa 95 17 (.t 41) (.t 35)), none⟩,
              ⟨(some 43), (.fa 1 (.t 42)), none⟩,
              ⟨(some 44), (.iaa 16 1 (.t 43) (.t 36)), none⟩,
              ⟨none, (.st 1 (.t 44) (.t 40)), none⟩])))
            (.ops none [⟨(some 45), (.bin .add (.t 32) (.c (.i .i64 1))), none⟩,
             ⟨(some 32), (.mv (.t 45)), none⟩]))))))))))))
      (.ops none [⟨(some 46), (.bin .add (.t 16) (.c (.i .i64 1))), none⟩,
        ⟨(some 16), (.mv (.t 46)), none⟩]))))
theorem buildT_row (l y : Nat) (hl : 1 ≤ l ∧ l < 95) (hy : y < fH true) (n : Nat) (H : Heap) {o : Bool} (ha : aget H 1 = some (.row o [.fn 39 [] []])) : Pure Try.prog 40 ([.i .i64 (l + 32 : Nat), .i .i64 y] ++ [.p 1 0]) n H (.i .i64 (fR true l y)) := by
  have : fR true l y = ((l + 32) * (2 * y + 5) + 7 * y) % 2 ^ (4 + (l + 32) % 4) := by unfold fR; rw [if_neg (by omega)]; simp [fW] <;> (congr 2; omega)
  rw [this]
  exact fn40_pure (l + 32) y 1 (by omega) hy n H ha
theorem buildT_wide (l : Nat) (hl : l < 95) (n : Nat) (H : Heap) : Pure Try.prog 39 [.i .i64 (l + 32 : Nat)] n H (.i .i64 (fW true l)) := by have := fn39_pure (l + 32) (by omega) n H; simpa [fW] using this
def bTT (i : Nat) : Temps := [(2, .fn 39 [] []), (3, .fn 40 [] [.p 1 0]), (8, .p 2 0), (9, .p 3 0), (16, .i .i64 i)]
def bHT (Z : List V) (k : Nat) : Heap := (3, .row true (pre true k)) :: (2, .row true Z) :: [(1, .row false [.fn 39 [] []])]
theorem bHT_in (Z : List V) (hZ : ∀ x ∈ Z, VIn 4 x) (k : Nat) : HIn 4 (bHT Z k) := .cons' (by simp) (pre_in _ _ _) (.cons' (by simp) hZ (.cons' (by simp) (by intro x hx; rw [List.mem_singleton.1 hx]; exact .fn (by simp) (by simp)) (.nil' _)))
set_option maxHeartbeats 1000000 in
theorem buildT_ok (Z : List V) (hZ : ∀ x ∈ Z, VIn 4 x) (i : Nat) (hi : i < 95) : AWc Try.prog 48 none bBodyT ⟨bTT i, [], 4, bHT Z (2 + i * 17)⟩
    (onNormal (fun s' => St.re id ⟨bTT (i + 1), [], 4, bHT Z (2 + (i + 1) * 17)⟩ s') fun _ _ => False) := by
  have hi' : (i : Int) < 95 := by omega
  have hwc : IntKind.i64.wrap (32 + (i : Int)) = ((i + 32 : Nat) : Int) := by rw [IntWalk.i64_in _ (by omega)]; omega
  have hwi : IntKind.i64.wrap ((i : Int) + 1) = ((i + 1 : Nat) : Int) := IntWalk.i64_in _ (by omega)
  have hwide := buildT_wide i hi
  have hs0 : setAll (pre true (2 + i * 17)) (2 + i * 17) [V.i .i64 (fW true i)] = pre true (2 + i * 17 + 1) := by
    rw [← fC_w true hi]; exact pre_set true (by omega)
  have hb0 : 2 + (i * 17 + 1) ≤ 1617 := by omega
  refine .seq (.ops (opsF_all (by simp [bTT, hi']; rfl) ?_))
  refine .seq (.cond (t := true) (by simp [hi']) (.skip ?_))
  refine .seq (.block (.seq (.ops (opsF_all (by simp; rfl) ?_))))
  refine .seq (.ops (opsF_all (by simp [hwc]; rfl) ?_))
  refine .seq (.ops (opsF_run 3 (by simp; rfl) ?_))
  refine opsF_cons_call rfl rfl rfl (by simpa using hwide _ _) ?_
  refine opsF_all (by simp [hi', bHT, hb0, hs0]; rfl) ?_
  by_cases h0 : i = 0
  · subst h0
    refine .seq (.seq (.ops (opsF_all (by simp; rfl) ?_)))
    refine .cond (t := true) (by simp) (.exit ?_)
    refine AWc.ops (opsF_all (by simp [hwi]; rfl) ?_)
    have hsk : pre true (2 + 0 * 17 + 1) = pre true (2 + (0 + 1) * 17) := pre_skip true (by omega) fun p h1 h2 => fC_l0 true (by omega) (by omega)
    refine ⟨TReL.spec ?_, rfl, by simp, .same (bHT_in Z hZ _) fun b _ => ?_⟩
    · simp only [bTT, TReL, and_true]
      simp
      repeat' (first | exact VRe.i _ _ | exact VRe.p (φ := id) (by omega) | exact VRe.s _ | exact VRe.b _ | exact VRe.id_of (.fn (by simp) (by simp)) | exact VRe.id_of (.fn (by simp) (by simp [VIn.p])) | apply And.intro)
    · show aget (bHT Z (2 + 0 * 17 + 1)) b = aget (bHT Z (2 + (0 + 1) * 17)) b
      unfold bHT
      rw [hsk]
  · have h0' : ¬ (i : Int) = 0 := by omega
    refine .seq (.seq (.ops (opsF_all (by simp [h0]; rfl) ?_)))
    refine .cond (t := false) (by simp [h0]) (.skip ?_)
    refine .seq (.ops (opsF_run 1 (by simp; rfl) ?_))
    refine opsF_cons_call rfl rfl rfl (by simpa using heightK_pure true (k := 2 + (i * 17 + 1)) (by omega) _ _) ?_
    refine opsF_all (by simp; rfl) ?_
    let T0 : Nat → Temps := fun j => [(2, .fn 39 [] []), (3, .fn 40 [] [.p 1 0]), (8, .p 2 0), (9, .p 3 0), (10, .i .i64 i), (11, .i .i64 (i + 32 : Nat)), (16, .i .i64 i), (31, .i .i64 (fH true)), (32, .i .i64 j)]
    have hfh : fH true = 9 := rfl
    refine .block (.loopR (φ₀ := id) (k₀ := 9) (s₀ := ⟨T0 0, [], 4, bHT Z (2 + i * 17 + 1 + 0)⟩)
      (fun k st => ∃ j, j ≤ 9 ∧ k = 9 - j ∧ st = ⟨T0 j, [], 4, bHT Z (2 + i * 17 + 1 + j)⟩)
      ⟨0, by omega, by omega, rfl⟩ ⟨TReL.spec ?_, rfl, by simp, .same (bHT_in Z hZ _) fun b _ => rfl⟩ (fun b hb => rfl) (fun k st ⟨j, h1, h2, h3⟩ => by simp [h3]) ?_)
    · simp only [T0, TReL, and_true]
      simp
      repeat' (first | exact VRe.i _ _ | exact VRe.p (φ := id) (by omega) | exact VRe.s _ | exact VRe.b _ | exact VRe.id_of (.fn (by simp) (by simp)) | exact VRe.id_of (.fn (by simp) (by simp [VIn.p])) | apply And.intro)
    rintro k st ⟨j, h1, rfl, rfl⟩
    by_cases hj : j < 9
    · have hj' : (j : Int) < (9 : Int) := by omega
      have hj16 : (j : Int) < 16 := by omega
      have hwj : IntKind.i64.wrap ((j : Int) + 1) = ((j + 1 : Nat) : Int) := IntWalk.i64_in _ (by omega)
      have hrow := buildT_row i j ⟨by omega, hi⟩ (by rw [hfh]; omega)
      have hs1 : setAll (pre true (2 + i * 17 + 1 + j)) (2 + i * 17 + 1 + j) [V.i .i64 (fR true i j)] = pre true (2 + i * 17 + 1 + (j + 1)) := by
        rw [← fC_r true hi (by rw [hfh]; omega)]; exact pre_set true (by omega)
      have hb1 : 2 + i * 17 + 1 + j + 1 ≤ 1617 := by omega
      generalize hk : 2 + i * 17 + 1 + j = k at hs1 hb1
      have hk2 : 2 + (i * 17 + (1 + j)) = k := by omega
      refine .seq (.ops (opsF_all (by simp [T0, hfh, hj']; rfl) ?_))
      refine .seq (.cond (t := true) (by simp [hj']) (.skip ?_))
      refine .seq (.block (.seq (.ops (opsF_all (by simp; rfl) ?_))))
      refine .draw (drawF_run 5 (by rfl) (by simp; exact ⟨rfl, rfl⟩) ?_)
      refine drawF_call rfl rfl rfl (fr := [1]) (fw := []) (v := .i .i64 (fR true i j)) (n1 := 4) (R := restr (bHT Z k) [1] []) (hrow _ _ (o := false) (by simp [bHT])) ⟨by simp, by simp, by simp, fun p _ ht => absurd ht (touch_none _ _)⟩ ⟨.i _ _, fun p _ ht => absurd ht (touch_none _ _)⟩ ?_
      refine drawF_run 4 (by rfl) (by simp [hi', hj16, hk2]; exact ⟨rfl, rfl⟩) ?_
      refine drawF_all (by rfl) (by simp [bHT, hb1, hs1, Blk.own]; exact ⟨rfl, rfl⟩) ⟨by rfl, ?_⟩
      refine AWc.ops (opsF_all (by simp [hwj]; rfl) ?_)
      refine ⟨9 - (j + 1), id, ⟨T0 (j + 1), [], 4, bHT Z (2 + i * 17 + 1 + (j + 1))⟩, by omega, ⟨j + 1, by omega, rfl, rfl⟩, fun _ _ => rfl, ⟨TReL.spec ?_, rfl, by simp, .same (bHT_in Z hZ _) fun b hb => ?_⟩⟩
      · simp only [T0, TReL, and_true]
        simp
        repeat' (first | exact VRe.i _ _ | exact VRe.p (φ := id) (by omega) | exact VRe.s _ | exact VRe.b _ | exact VRe.id_of (.fn (by simp) (by simp)) | exact VRe.id_of (.fn (by simp) (by simp [VIn.p])) | apply And.intro)
      · simp only [bHT, aget_mergeH, aget_cons, aget_nil, touch]
        simp
        repeat' split
        all_goals first | rfl | omega | simp_all
    · obtain rfl : j = 9 := by omega
      refine .seq (.ops (opsF_all (by simp [T0, hfh]; rfl) ?_))
      refine .seq (.cond (t := false) (by simp) (.exit ?_))
      refine AWc.ops (opsF_all (by simp [hwi]; rfl) ?_)
      have hsk : pre true (2 + i * 17 + 1 + 9) = pre true (2 + (i + 1) * 17) := pre_skip true (by omega) fun p h1 h2 => fC_hi true (l := i) (by rw [hfh]; omega) (by omega)
      refine ⟨TReL.spec ?_, rfl, by simp, .same (bHT_in Z hZ _) fun b _ => ?_⟩
      · simp only [bTT, TReL, and_true]
        simp
        repeat' (first | exact VRe.i _ _ | exact VRe.p (φ := id) (by omega) | exact VRe.s _ | exact VRe.b _ | exact VRe.id_of (.fn (by simp) (by simp)) | exact VRe.id_of (.fn (by simp) (by simp [VIn.p])) | apply And.intro)
      · simp only [bHT]
        rw [show 2 + (i * 17 + 10) = 2 + i * 17 + 1 + 9 by omega, hsk]
end Go.Proofs.Ytpgelghkjiejlaa
