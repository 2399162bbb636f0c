/- The contract of Of: a text's letters, as the document has them. -/
import Derived.Test.YtpgelghkjiejlaaCd
set_option linter.unusedVariables false
set_option linter.unusedSimpArgs false
set_option maxRecDepth 4000
namespace Go.Proofs.Ytpgelghkjiejlaa
open Go

@[simp] theorem slW_zero (a : Nat) : slW a 0 = .nils := rfl
@[simp] theorem slW_succ (a i : Nat) : slW a (i + 1) = .sl a 0 1 (i + 1) false := rfl
def hOfW (w : Bool) (s : List UInt8) (i : Nat) : Heap := if i = 0 then [] else [(5, .row true (List.replicate i .un)), (4, .row true (cellsW w (s.take i)))]
theorem hOfW_zero (w : Bool) (s : List UInt8) : hOfW w s 0 = [] := rfl
theorem slW_pos (a : Nat) {i : Nat} (h : i ≠ 0) : slW a i = .sl a 0 1 i false := if_neg h
def hOf (w : Bool) (s : List UInt8) (i : Nat) : Heap := hOfW w s i ++ [(3, .row true [slW 4 i, slW 5 i, .i .i64 (fA w), .i .i64 (fH w)]), (2, .row true [.nils, .nils, .i .i64 0, .i .i64 0]), (1, .row true (fontC w))]
theorem VReL.un {φ : Nat → Nat} {m : Nat} : ∀ {n : Nat} {ys : List V}, ys.length = n → VReL φ m (List.replicate n .un) ys
  | 0, [], _ => trivial
  | n + 1, y :: ys, h => ⟨.un _, VReL.un (by simpa using h)⟩
  | 0, _ :: _, h => by simp at h
  | _ + 1, [], h => by simp at h
theorem cellsW_in (w : Bool) (s : List UInt8) (n : Nat) : ∀ x ∈ cellsW w s, VIn n x := by
  intro x hx
  simp only [cellsW, List.mem_map] at hx
  obtain ⟨b, _, rfl⟩ := hx
  exact .i _ _
theorem rowsC_one (w : Bool) (l : Nat) : (rowsC w l).all V.one = true := by
  rw [List.all_eq_true]
  intro x hx
  simp only [rowsC, List.mem_map] at hx
  obtain ⟨p, _, rfl⟩ := hx
  rfl
@[simp] theorem rowsC_len (w : Bool) (l : Nat) : (rowsC w l).length = fH w := by simp [rowsC]
@[simp] theorem rowsC_take (w : Bool) (l : Nat) : (rowsC w l).take (fH w) = rowsC w l := List.take_of_length_le (by simp)
def ofBody : ACode := (.seq (.ops none [⟨(some 21), (.bin .lss (.t 20) (.t 19)), none⟩])
     (.seq (.cond (.t 21)
       (.skip)
       (.exit 0))
      (.seq (.block 1 (.seq (.ops none [⟨(some 22), (.mv (.t 20)), none⟩,
         ⟨(some 6), (.mv (.t 22)), none⟩])
       (.seq (.ops (some [0, 0, 0, 6, 15, 0, 63]) [⟨(some 23), (.ld true 1617 (.t 2)), none⟩,
         ⟨(some 24), (.mv (.t 1)), none⟩,
         ⟨(some 25), (.mv (.t 6)), none⟩,
         ⟨(some 26), (.ixs (.t 24) (.t 25)), none⟩,
         ⟨(some 27), (.call (.f 27) [(.t 23), (.t 26)]), none⟩,
         ⟨(some 7), (.new [(.i .i64 0), .nils]), none⟩,
         ⟨none, (.st 2 (.t 7) (.t 27)), none⟩])
        (.seq (.ops none [⟨(some 28), (.fa 3 (.t 5)), none⟩,
          ⟨(some 29), (.ld false 1 (.t 28)), none⟩,
          ⟨(some 30), (.mks 1 8 [(.i .i64 0)] (.t 29) (.t 29)), none⟩,
          ⟨(some 8), (.mv (.t 30)), none⟩])
        (.seq (.ops none [⟨(some 31), (.mv (.t 8)), none⟩,
          ⟨(some 32), (.fa 1 (.t 7)), none⟩,
          ⟨(some 33), (.ld false 1 (.t 32)), none⟩,
          ⟨(some 34), (.cpy 1 (.t 31) (.t 33)), none⟩])
         (.ops (some [0, 1, 0, 4, 12, 31, 0, 64, 0, 256, 1023, 255, 4095, 8191, 16383]) [⟨(some 35), (.fa 0 (.t 5)), none⟩,
          ⟨(some 36), (.ld false 1 (.t 35)), none⟩,
          ⟨(some 37), (.fa 0 (.t 7)), none⟩,
          ⟨(some 38), (.ld false 1 (.t 37)), none⟩,
          ⟨(some 39), (.lit 1 1 [(.i .i64 0)] [(0, (.t 38))]), none⟩,
          ⟨(some 40), (.app 1 8 [(.i .i64 0)] (.t 36) (.t 39)), none⟩,
          ⟨(some 41), (.fa 1 (.t 5)), none⟩,
          ⟨(some 42), (.ld false 1 (.t 41)), none⟩,
          ⟨(some 43), (.mv (.t 8)), none⟩,
          ⟨(some 44), (.lit 1 1 [.nils] [(0, (.t 43))]), none⟩,
          ⟨(some 45), (.app 1 24 [.nils] (.t 42) (.t 44)), none⟩,
          ⟨(some 46), (.fa 0 (.t 5)), none⟩,
          ⟨none, (.st 1 (.t 46) (.t 40)), none⟩,
          ⟨(some 47), (.fa 1 (.t 5)), none⟩,
          ⟨none, (.st 1 (.t 47) (.t 45)), none⟩]))))))
      (.ops none [⟨(some 48), (.bin .add (.t 20) (.c (.i .i64 1))), none⟩,
        ⟨(some 20), (.mv (.t 48)), none⟩]))))
def ofT (s : List UInt8) (i : Nat) : Temps := [(1, .s s), (2, .p 1 0), (4, .p 2 0), (5, .p 3 0), (19, .i .i64 s.length), (20, .i .i64 i)]
def ofφ (b : Nat) : Nat := if b = 4 then 10 else if b = 5 then 12 else b
theorem ofφ_lt {b : Nat} (h : b < 4) : ofφ b = b := by unfold ofφ; rw [if_neg (by omega), if_neg (by omega)]
theorem of_re (w : Bool) (s : List UInt8) (i : Nat) {T' : Temps} {n' : Nat} {H' : Heap} (hT : TReL ofφ 6 (ofT s (i + 1)) T') (a10 : aget H' 10 = some (.row true (cellsW w (s.take (i + 1))))) (a12 : ∃ X, X.length = i + 1 ∧ aget H' 12 = some (.row true X))
    (a3 : aget H' 3 = some (.row true [.sl 10 0 1 (i + 1) false, .sl 12 0 1 (i + 1) false, .i .i64 (fA w), .i .i64 (fH w)])) (a2 : aget H' 2 = some (.row true [.nils, .nils, .i .i64 0, .i .i64 0])) (a1 : aget H' 1 = some (.row true (fontC w))) :
    St.re ofφ ⟨ofT s (i + 1), [], 6, hOf w s (i + 1)⟩ ⟨T', [], n', H'⟩ := by
  refine ⟨hT.spec, rfl, by simp, ⟨fun b k hb => ?_, fun b1 b2 k1 k2 h1 h2 he => ?_⟩⟩
  · simp only [hOf, hOfW, Nat.add_one_ne_zero, if_false, List.cons_append, List.nil_append, aget_cons, slW_succ, aget_nil] at hb
    repeat' split at hb
    · rename_i e; cases hb; subst e
      obtain ⟨X, hX, h12⟩ := a12
      exact ⟨by simp, _, h12, .row (fun h => h) (VReL.un hX)⟩
    · rename_i e; cases hb; subst e
      exact ⟨by simp, _, a10, .row (fun h => h) ((VReL.refl (m := 0) (fun b hb => by omega) (cellsW_in w _ 0)).mono (by omega))⟩
    · rename_i e; cases hb; subst e
      exact ⟨by simp, _, a3, .row (fun h => h) ⟨VRe.sl (φ := ofφ) (id := 4) (by simp) (fun h => h), VRe.sl (φ := ofφ) (id := 5) (by simp) (fun h => h), .i _ _, .i _ _, trivial⟩⟩
    · rename_i e; cases hb; subst e
      exact ⟨by simp, _, a2, .row (fun h => h) ⟨.nils, .nils, .i _ _, .i _ _, trivial⟩⟩
    · rename_i e; cases hb; subst e
      exact ⟨by simp, _, a1, .row (fun h => h) ((VReL.refl (m := 0) (fun b hb => by omega) (fontC_in w 0)).mono (by omega))⟩
    · cases hb
  · have hlt : ∀ b k, aget (hOf w s (i + 1)) b = some k → b < 6 := fun b k hb => by
      simp only [hOf, hOfW, Nat.add_one_ne_zero, if_false, List.cons_append, List.nil_append, aget_cons, slW_succ, aget_nil] at hb
      repeat' split at hb
      all_goals first | omega | cases hb
    have l1 := hlt b1 k1 h1
    have l2 := hlt b2 k2 h2
    unfold ofφ at he
    repeat' split at he
    all_goals omega
set_option maxHeartbeats 2000000 in
theorem of_round (w : Bool) (s : List UInt8) (hs : s.length ≤ 4096) (i : Nat) (hi : i < s.length) (Q : Exit → St → Prop) : AWc Try.prog 50 none ofBody ⟨ofT s i, [], 6, hOf w s i⟩
    (onNormal (fun s' => St.re ofφ ⟨ofT s (i + 1), [], 6, hOf w s (i + 1)⟩ s') Q) := by
  have hi' : (i : Int) < s.length := by omega
  have hg : s[i]? = some s[i] := List.getElem?_eq_getElem hi
  have hwi : IntKind.i64.wrap ((i : Int) + 1) = ((i + 1 : Nat) : Int) := IntWalk.i64_in _ (by omega)
  have hcs : cellsW w (s.take (i + 1)) = cellsW w (s.take i) ++ [.i .i64 (fW w (plc s[i]))] := by
    rw [List.take_add_one, hg]
    simp only [cellsW, List.map_append, Option.toList_some, List.map_cons, List.map_nil]
  have hcl : (cellsW w (s.take i)).length = i := by simp [cellsW]; omega
  have hgl := glyph_ok w s[i] 6 []
  have hH0 : (0 : Int) ≤ (fH w : Int) := by omega
  have hHb : (fH w : Int) * 8 ≤ 140737488355328 ∧ (fH w : Int) ≤ 140737488355328 := by cases w <;> decide
  have hro := rowsC_one w (plc s[i])
  have hrl := rowsC_len w (plc s[i])
  have hrt := rowsC_take w (plc s[i])
  have hrin : inDB 6 7 [] (.ag [.i .i64 (fW w (plc s[i])), .sl 6 0 1 (fH w) true]) [(6, .row true (rowsC w (plc s[i])))] = true := by simp [inDB, vinB, binB, rowsC]
  have hset : setAll (List.replicate (fH w) (V.i .i64 0)) 0 (rowsC w (plc s[i])) = rowsC w (plc s[i]) := setAll_full (by simp)
  generalize rowsC w (plc s[i]) = rows at hgl hro hrl hrin hset hrt
  generalize fW w (plc s[i]) = g at hgl hcs hrin
  by_cases h0 : i = 0
  · subst h0
    have hw : hOf w s 0 = [(3, .row true [.nils, .nils, .i .i64 (fA w), .i .i64 (fH w)]), (2, .row true [.nils, .nils, .i .i64 0, .i .i64 0]), (1, .row true (fontC w))] := by
      simp [hOf, hOfW]
    rw [hw]
    clear hw
    have hi0 : 0 < s.length := hi
    have hwi : IntKind.i64.wrap ((0 : Int) + 1) = 1 := by decide
    have hcs : cellsW w (s.take 1) = [.i .i64 g] := by simpa [cellsW] using hcs
    refine .seq (.ops (opsF_all (by simp [ofT, hi0]; rfl) ?_))
    refine .seq (.cond (t := true) (by simp [hi0]) (.skip ?_))
    refine .seq (.block (.seq (.ops (opsF_all (by simp; rfl) ?_))))
    refine .seq (.draw (drawF_run 4 (by rfl) (by simp [hg]; exact ⟨rfl, rfl⟩) ?_))
    refine drawF_callN rfl rfl rfl hgl (by simp) (by simp [Blk.own]) hrin ?_
    refine drawF_all (by rfl) (by simp [setAll, Blk.own]; exact ⟨rfl, rfl⟩) ⟨by rfl, ?_⟩
    refine AWc.alikeH (H := (7, .row true [.i .i64 g, .sl 6 0 1 (fH w) true]) :: (6, .row true rows) :: (3, .row true [.nils, .nils, .i .i64 (fA w), .i .i64 (fH w)]) :: (2, .row true [.nils, .nils, .i .i64 0, .i .i64 0]) :: (1, .row true (fontC w)) :: []) (fun b => ?_) ?_
    · simp only [aget_mergeH, aget_cons, touch, aget_nil, List.contains_cons, List.contains_nil, hOf, hOfW, List.nil_append, List.cons_append]
      simp only [Bool.or_eq_true, Bool.and_eq_true, decide_eq_true_eq, beq_iff_eq, Bool.or_false]
      repeat' split
      all_goals first | rfl | (simp_all; done) | (exfalso; simp_all; omega)
    refine .seq (.ops (opsF_all (by simp [hH0, hHb]; rfl) ?_))
    refine .seq (.ops (opsF_all (by simp [-List.all_eq_true, hro, hrl, hrt, hset]; rfl) ?_))
    refine AWc.draw (drawF_run 5 (by rfl) (by simp [setAll, Blk.own]; exact ⟨rfl, rfl⟩) ?_)
    refine drawF_run 1 (by rfl) (by simp [adel, setAll, Blk.own]; exact ⟨rfl, rfl⟩) ?_
    refine drawF_run 4 (by rfl) (by simp [setAll, Blk.own]; exact ⟨rfl, rfl⟩) ?_
    refine drawF_run 1 (by rfl) (by simp [adel, setAll, Blk.own]; exact ⟨rfl, rfl⟩) ?_
    refine drawF_all (by rfl) (by simp [setAll, Blk.own]; exact ⟨rfl, rfl⟩) ⟨by rfl, ?_⟩
    refine AWc.ops (opsF_all (by simp [hwi]; rfl) ?_)
    refine of_re w s 0 ?_ ?_ ⟨_, ?_, by simp; rfl⟩ (by simp) (by simp) (by simp)
    · simp only [ofT, TReL, and_true]
      simp
      exact ⟨.s _, VRe.p (φ := ofφ) (id := 1) (by omega), VRe.p (φ := ofφ) (id := 2) (by omega), VRe.p (φ := ofφ) (id := 3) (by omega), .i _ _, .i _ _⟩
    · simp [hcs]
    · simp
  · have hw : hOf w s i = [(5, .row true (List.replicate i .un)), (4, .row true (cellsW w (s.take i))), (3, .row true [.sl 4 0 1 i false, .sl 5 0 1 i false, .i .i64 (fA w), .i .i64 (fH w)]), (2, .row true [.nils, .nils, .i .i64 0, .i .i64 0]), (1, .row true (fontC w))] := by
      simp [hOf, hOfW, h0, slW_pos _ h0]
    rw [hw]
    clear hw
    generalize cellsW w (s.take i) = cs at hcs hcl
    refine .seq (.ops (opsF_all (by simp [ofT, hi']; rfl) ?_))
    refine .seq (.cond (t := true) (by simp) (.skip ?_))
    refine .seq (.block (.seq (.ops (opsF_all (by simp; rfl) ?_))))
    refine .seq (.draw (drawF_run 4 (by rfl) (by simp [hg]; exact ⟨rfl, rfl⟩) ?_))
    refine drawF_callN rfl rfl rfl hgl (by simp) (by simp [Blk.own]) hrin ?_
    refine drawF_all (by rfl) (by simp [setAll, Blk.own]; exact ⟨rfl, rfl⟩) ⟨by rfl, ?_⟩
    refine AWc.alikeH (H := (7, .row true [.i .i64 g, .sl 6 0 1 (fH w) true]) :: (6, .row true rows) :: (5, .row true (List.replicate i .un)) :: (4, .row true cs) :: (3, .row true [.sl 4 0 1 i false, .sl 5 0 1 i false, .i .i64 (fA w), .i .i64 (fH w)]) :: (2, .row true [.nils, .nils, .i .i64 0, .i .i64 0]) :: (1, .row true (fontC w)) :: []) (fun b => ?_) ?_
    · simp only [aget_mergeH, aget_cons, touch, aget_nil, List.contains_cons, List.contains_nil, hOf, hOfW, List.nil_append, List.cons_append]
      simp only [Bool.or_eq_true, Bool.and_eq_true, decide_eq_true_eq, beq_iff_eq, Bool.or_false]
      repeat' split
      all_goals first | rfl | (simp_all; done) | (exfalso; simp_all; omega)
    refine .seq (.ops (opsF_all (by simp [hH0, hHb]; rfl) ?_))
    refine .seq (.ops (opsF_all (by simp [-List.all_eq_true, hro, hrl, hrt, hset]; rfl) ?_))
    have hb1 : i + 1 ≤ 17592186044416 := by omega
    have hb8 : (i + 1) * 8 ≤ 140737488355328 := by omega
    have hb24 : (i + 1) * 24 ≤ 140737488355328 := by omega
    refine AWc.draw (drawF_run 5 (by rfl) (by simp [setAll, Blk.own]; exact ⟨rfl, rfl⟩) ?_)
    refine drawF_run 1 (by rfl) (by simp [adel, setAll, Blk.own, hcl, hb8]; exact ⟨rfl, rfl⟩) ?_
    refine drawF_run 4 (by rfl) (by simp [setAll, Blk.own]; exact ⟨rfl, rfl⟩) ?_
    refine drawF_run 1 (by rfl) (by simp [adel, setAll, Blk.own, hb24]; exact ⟨rfl, rfl⟩) ?_
    refine drawF_all (by rfl) (by simp [setAll, Blk.own]; exact ⟨rfl, rfl⟩) ⟨by rfl, ?_⟩
    refine AWc.ops (opsF_all (by simp [hwi]; rfl) ?_)
    refine of_re w s i ?_ ?_ ⟨_, ?_, by simp; rfl⟩ (by simp) (by simp) (by simp)
    · simp only [ofT, TReL, and_true]
      simp
      exact ⟨.s _, VRe.p (φ := ofφ) (id := 1) (by omega), VRe.p (φ := ofφ) (id := 2) (by omega), VRe.p (φ := ofφ) (id := 3) (by omega), .i _ _, .i _ _⟩
    · have htk : List.take i cs = cs := List.take_of_length_le (by omega)
      simp [hcs, hcl, htk]
    · simp
set_option maxHeartbeats 2000000 in
theorem of_ok0 (w : Bool) (s : List UInt8) (hs : s.length ≤ 4096) : ACalls Try.prog 9 [.ag (fontC w), .s s] 1 [] fun v n' H' => v = .ag [slW 4 s.length, slW 5 s.length, .i .i64 (fA w), .i .i64 (fH w)] ∧
    (s ≠ [] → aget H' 4 = some (.row true (cellsW w s)) ∧ aget H' 5 = some (.row true (List.replicate s.length .un))) := by
  have hL : ((min 4096 s.length : Nat) : Int) = s.length := by omega
  refine .enter0 F9_ok (by simp [F9]) ?_
  refine .seq (.ops (opsF_all (by simp; rfl) ?_))
  refine .seq (.draw (drawF_run 1 (by rfl) (by simp; exact ⟨rfl, rfl⟩) ?_))
  refine drawF_callN (v := .i .i64 (fA w)) (n1 := 3) (R := []) rfl rfl rfl (ascent_pure w 3 []) (by simp) (by simp) rfl ?_
  refine drawF_run 1 (by rfl) (by simp; exact ⟨rfl, rfl⟩) ?_
  refine drawF_callN (v := .i .i64 (fA w)) (n1 := 3) (R := []) rfl rfl rfl (ascent_pure w 3 []) (by simp) (by simp) rfl ?_
  refine drawF_run 1 (by rfl) (by simp; exact ⟨rfl, rfl⟩) ?_
  refine drawF_callN (v := .i .i64 (fD w)) (n1 := 3) (R := []) rfl rfl rfl (descent_pure w 3 []) (by simp) (by simp) rfl ?_
  refine drawF_all (by rfl) (by simp [setAll, Blk.own]; exact ⟨rfl, rfl⟩) ⟨by rfl, ?_⟩
  refine AWc.alikeH (H := hOf w s 0) (fun b => ?_) ?_
  · simp only [aget_mergeH, aget_cons, touch, aget_nil, List.contains_cons, List.contains_nil, hOf, hOfW_zero, List.nil_append, slW_zero]
    simp only [Bool.or_eq_true, Bool.and_eq_true, decide_eq_true_eq, beq_iff_eq, Bool.or_false]
    repeat' split
    all_goals first | rfl | (simp_all; done) | (exfalso; simp_all; omega)
  have hmin : (if (s.length : Int) < 4096 then (s.length : Int) else 4096) = s.length := by split <;> omega
  refine .seq (.seq (.ops (opsF_all (by simp [hmin]; rfl) ?_)))
  refine .block (.loopR (φ₀ := id) (k₀ := s.length) (s₀ := ⟨ofT s 0, [], 6, hOf w s 0⟩)
    (fun k st => ∃ i, i ≤ s.length ∧ k = s.length - i ∧ st = ⟨ofT s i, [], 6, hOf w s i⟩)
    ⟨0, by omega, by omega, rfl⟩ ⟨TReL.spec ?_, rfl, by simp, ?_⟩ (fun b hb => rfl) (fun k st ⟨i, h1, h2, h3⟩ => by simp [h3]) ?_)
  · simp only [ofT, TReL, and_true]
    simp
    repeat' (first | exact VRe.i _ _ | exact VRe.p (φ := id) (by omega) | exact VRe.s _ | apply And.intro)
  · refine .same ?_ fun _ _ => rfl
    simp only [hOf, hOfW_zero, List.nil_append, slW_zero]
    exact .cons' (by simp) (by simp [BIn, VIn.i, VIn.nils]) (.cons' (by simp) (by simp [BIn, VIn.i, VIn.nils]) (.cons' (by simp) (fontC_in w _) (.nil' _)))
  rintro k st ⟨i, h1, rfl, rfl⟩
  by_cases hi : i < s.length
  · refine (of_round w s hs i hi fun _ _ => False).conseq ?_
    intro e st' he
    cases e with
    | normal => exact ⟨s.length - (i + 1), ofφ, _, by omega, ⟨i + 1, by omega, rfl, rfl⟩, fun b hb => ofφ_lt hb, he⟩
    | _ => exact he.elim
  · obtain rfl : i = s.length := by omega
    refine .seq (.ops (opsF_all (by simp [ofT]; rfl) ?_))
    refine .seq (.cond (t := false) (by simp) (.exit ?_))
    have g3 : aget (hOf w s s.length) 3 = some (.row true [slW 4 s.length, slW 5 s.length, .i .i64 (fA w), .i .i64 (fH w)]) := by
      unfold hOf hOfW; split <;> simp
    have g2 : aget (hOf w s s.length) 2 = some (.row true [.nils, .nils, .i .i64 0, .i .i64 0]) := by
      unfold hOf hOfW; split <;> simp
    refine AWc.seq (.ops (opsF_all (by simp [g3, g2, setAll]; rfl) ?_))
    refine .ret ⟨.inr rfl, rfl, _, by simp [F9, aget_put]; rfl, rfl, fun hne => ?_⟩
    have hl0 : s.length ≠ 0 := by simpa using hne
    refine ⟨?_, ?_⟩
    · simp [aget_put, hOf, hOfW, hl0]
    · simp [aget_put, hOf, hOfW, hl0]
end Go.Proofs.Ytpgelghkjiejlaa
