/- awake: the chapter's examples hold. The contract of Box of package text. Rectangles in slices; Area and Empty of package band, and what counts. Has and Empty of package band, counts, Clip, and the comparing closures. Small functions of packages band and region: counts, Empty, and the closures over rectangles. Slices that grow: nil, or a row of their own; and what is known behind a round, or a call, under fixed ids. Clip and Clone of package slices at rectangles; Rects of package band. EqualFunc and IndexFunc of package slices at rectangles; alike of package band. IndexFunc and DeleteFunc of package slices, by the closure of band.Of that asks whether a rectangle ends. DeleteFunc of package slices, by the closure of band.Of that asks whether a rectangle ends. A world that has grown, or in which a row of a block has been laid anew by a function of the library: what is known of it. -/
import Derived.Test.YtpgelghkjiejlaaGal
import Derived.Test.YtpgelghkjiejlaaGak
import Derived.Test.YtpgelghkjiejlaaGaj
import Derived.Shelf.SlSortCmp.WholeK
set_option linter.unusedVariables false
set_option linter.unusedSimpArgs false
section
set_option maxRecDepth 4000
namespace Go.Proofs.Ytpgelghkjiejlaa
open Go
attribute [local irreducible] fontC

theorem Pure.frame {P : Program} {f : FuncId} {args : List V} {n : Nat} {H : Heap} {fr : List Nat} {v : V} (h : Pure P f args n (restr H fr []) v) : Pure P f args n H v := by
  refine (ACalls.frame (fw := []) h ?_).mono ?_
  · rintro v n1 R ⟨rfl, rfl, rfl⟩ b k ht _
    exact absurd ht (touch_none _ _)
  · rintro v n1 H' ⟨R, ⟨rfl, rfl, rfl⟩, rfl⟩
    exact ⟨rfl, rfl, merge_none _ _ _⟩
theorem region_of (r : RGot) (h : isReg r = true) (hr : (runAll known1 tabF 300).call 16 [.ag (fontC false), .i .i64 0, .i .i64 5, .s [65]] 1 .lf = r) : ACalls Try.prog 16 [.ag (fontC false), .i .i64 0, .i .i64 5, .s [65]] 1 [] fun v n' H' => v = .ag [.sl 1 0 4 6 true] ∧ n' = 2 ∧ H' = [(1, .row true (regI.map (V.i .i64)))] := by
  unfold isReg at h
  split at h
  · rename_i n' H'
    have hrow := rowIs_ok h
    refine (call_ok _ _ _ _ _ _ _ hr [] (fun _ => rfl)).weakenR ?_
    rintro v n1 H1 ⟨rfl, rfl, h3⟩
    refine ⟨fun b => if b = 1 then 470 else b, .ag [.sl 1 0 4 6 true], 2, [(1, .row true (regI.map (V.i .i64)))], fun b hb => if_neg (by omega), by omega, .agL ⟨VRe.sl (φ := fun b => if b = 1 then 470 else b) (id := 1) (by omega) (fun h => h), trivial⟩, ⟨fun b k hb => ?_, fun b1 b2 k1 k2 h1 h2 _ => ?_⟩, rfl, rfl, rfl⟩
    · obtain ⟨rfl, rfl⟩ := aget_one hb
      refine ⟨by omega, _, (h3 470).trans hrow, .row (fun h => h) ((VReL.refl (m := 0) (fun b hb => by omega) ?_).mono (by omega))⟩
      intro x hx
      obtain ⟨m, _, rfl⟩ := List.mem_map.1 hx
      exact .i _ _
    · rw [(aget_one h1).1, (aget_one h2).1]
  · cases h
theorem region65_ok : ACalls Try.prog 16 [.ag (fontC false), .i .i64 0, .i .i64 5, .s [65]] 1 [] fun v n' H' => v = .ag [.sl 1 0 4 6 true] ∧ n' = 2 ∧ H' = [(1, .row true (regI.map (V.i .i64)))] := region_of _ run_region rfl
theorem regH_like (H : Heap) (o : Bool) (h : aget H 1 = some (.row o (regI.map (V.i .i64)))) (i : Nat) : aget (restr H [1] []) i = regH.get i := by
  unfold regH
  rw [Tr.get_ofL]
  simp [h]
theorem area_pure (H : Heap) (o : Bool) (h1 : aget H 1 = some (.row o (regI.map (V.i .i64)))) : Pure Try.prog 23 [.ag [.sl 1 0 4 6 true]] 3 H (.i .i64 10) := by
  have h := run_area
  generalize hr : (runAll known1 tabF 300).call 23 [.ag [.sl 1 0 4 6 true]] 3 regH = r at h
  unfold isInt at h
  split at h
  · rename_i v n' H'
    simp only [Bool.and_eq_true] at h
    obtain ⟨hv, hrow⟩ := h
    have hrow := rowIs_ok hrow
    have hv : v = .i .i64 10 := by
      cases v <;> simp [int64] at hv
      rename_i k n
      cases k <;> simp [int64] at hv
      rw [hv]
    subst hv
    refine Pure.frame (fr := [1]) (Pure.of_drop ((call_ok _ _ _ _ _ _ _ hr _ (regH_like H o h1)).mono ?_) (.i _ _))
    rintro a b c ⟨rfl, rfl, h3⟩
    refine ⟨rfl, fun i k hi => ?_⟩
    rw [regH_like H o h1] at hi
    rw [h3]
    unfold regH at hi
    rw [Tr.get_ofL] at hi
    obtain ⟨rfl, rfl⟩ := aget_one hi
    exact hrow
  · cases h
theorem has_pure (H : Heap) (o : Bool) (h1 : aget H 1 = some (.row o (regI.map (V.i .i64)))) (x y : Int) (t : Bool) (h : isBool t ((runAll known1 tabF 300).call 21 [.ag [.sl 1 0 4 6 true], .i .i64 x, .i .i64 y] 3 regH) = true) :
    Pure Try.prog 21 [.ag [.sl 1 0 4 6 true], .i .i64 x, .i .i64 y] 3 H (.b t) := by
  generalize hr : (runAll known1 tabF 300).call 21 [.ag [.sl 1 0 4 6 true], .i .i64 x, .i .i64 y] 3 regH = r at h
  unfold isBool at h
  split at h
  · rename_i v n' H'
    simp only [Bool.and_eq_true, beq_iff_eq] at h
    obtain ⟨rfl, hrow⟩ := h
    have hrow := rowIs_ok hrow
    refine Pure.frame (fr := [1]) (Pure.of_drop ((call_ok _ _ _ _ _ _ _ hr _ (regH_like H o h1)).mono ?_) (.b _))
    rintro a b c ⟨rfl, rfl, h3⟩
    refine ⟨rfl, fun i k hi => ?_⟩
    rw [regH_like H o h1] at hi
    rw [h3]
    unfold regH at hi
    rw [Tr.get_ofL] at hi
    obtain ⟨rfl, rfl⟩ := aget_one hi
    exact hrow
  · cases h
theorem box_pure (n : Nat) (H : Heap) : Pure Try.prog 15 [.ag (fontC false), .i .i64 0, .i .i64 5, .s [65]] n H (.ag [.i .i64 0, .i .i64 0, .i .i64 4, .i .i64 6]) := by
  have h := run_box
  generalize hr : (runAll known1 tabF 300).call 15 [.ag (fontC false), .i .i64 0, .i .i64 5, .s [65]] 0 .lf = r at h
  unfold isBox at h
  split at h
  · rename_i l n' H'
    split at h
    · rename_i m hm
      have : m = [0, 0, 4, 6] := by simpa using h
      subst this
      have hl := intsJ_ok hm
      subst hl
      refine .of0 ((call_ok _ _ _ _ _ _ _ hr [] (fun _ => rfl)).mono ?_) ?_ (.ag (by simp [VIn.i])) n H
      · rintro a b c ⟨rfl, _, _⟩
        rfl
      · intro x hx
        simp at hx
        rcases hx with rfl | rfl | rfl | rfl
        · exact ag_in
        · exact .i _ _
        · exact .i _ _
        · exact .s _
    · cases h
  · cases h
theorem awake_ok : ACalls Try.prog 7 [] 0 [] fun v _ _ => v = .b true := by
  refine .enter0 F7_ok (by simp [F7]) ?_
  refine .seq (.ops (opsF_all (by simp; rfl) ?_))
  refine .seq ?_
  generalize hZ : List.replicate 1617 (V.i IntKind.i64 0) = Z
  have hZl : Z.length = 1617 := by rw [← hZ, List.length_replicate]
  have hs : setAll Z 0 (fontC false) = fontC false := setAll_full (by rw [fontC_len, hZl])
  clear hZ
  refine .ops (opsF_cons_call rfl rfl rfl (v := .ag (fontC false)) (font_pure false _ _) ?_)
  refine opsF_all (by simp [-List.all_eq_true, hZl, hs]; rfl) ?_
  refine AWc.seq (.ops (opsF_run 1 (by simp; rfl) ?_))
  refine opsF_call rfl rfl (callV_fn (ACalls.mono (ACalls.frame (fr := []) (fw := []) region65_ok ?_) ?_))
  · rintro v n1 R ⟨_, rfl, rfl⟩ b k _ h
    rw [(aget_one h).2]; rfl
  rintro v n1 H' ⟨R, ⟨rfl, rfl, rfl⟩, rfl⟩
  refine opsF_all (by simp [setAll]; rfl) ?_
  refine AWc.alikeH (H := [(2, .row true [.sl 1 0 4 6 true]), (1, .row true (regI.map (V.i .i64))), (0, .row true (fontC false))]) (fun b => ?_) ?_
  · simp only [aget_mergeH, aget_cons, aget_nil, touch]
    simp
    repeat' split
    all_goals first | rfl | (simp_all; done) | (exfalso; simp_all; omega)
  generalize hR : regI.map (V.i .i64) = R
  have h1 : ∀ H : Heap, aget ((2, Blk.row true [V.sl 1 0 4 6 true]) :: (1, Blk.row true R) :: H) 1 = some (.row true (regI.map (V.i .i64))) := fun H => by simp [hR]
  refine AWc.seq (.ops (opsF_run 1 (by simp; rfl) ?_))
  refine opsF_cons_call rfl rfl rfl (v := .i .i64 10) (area_pure _ true (h1 _)) ?_
  refine opsF_run 3 (by simp; rfl) ?_
  refine opsF_cons_call rfl rfl rfl (v := .b true) (has_pure _ true (h1 _) 2 1 true run_has1) ?_
  refine opsF_run 3 (by simp; rfl) ?_
  refine opsF_cons_call rfl rfl rfl (v := .b false) (has_pure _ true (h1 _) 1 1 false run_has2) ?_
  refine opsF_run 4 (by simp; rfl) ?_
  refine opsF_cons_call rfl rfl rfl (v := .ag [.i .i64 0, .i .i64 0, .i .i64 4, .i .i64 6]) (box_pure _ _) ?_
  refine opsF_run 5 (by simp [setAll, evEqs, eqAll]; rfl) ?_
  refine opsF_cons_call rfl rfl rfl (v := .i .i64 1) (by have := at_pure false [65, 66] 5; exact this _ _) ?_
  refine opsF_run 4 (by simp; rfl) ?_
  refine opsF_cons_call rfl rfl rfl (v := .i .i64 1) (by have := fit_pure false [65, 66] 7; exact this _ _) ?_
  refine opsF_all (by simp; rfl) ?_
  exact .ret (by simp [F7])
theorem awake_pure (n : Nat) (H : Heap) : Pure Try.prog 7 [] n H (.b true) := .of0 awake_ok (by simp) (.b _) n H
end Go.Proofs.Ytpgelghkjiejlaa
end
section
set_option maxRecDepth 4000
namespace Go.Proofs.Ytpgelghkjiejlaa
open Go

def coordV (a : Int) : Bool := decide (-1048576 ≤ a) && decide (a ≤ 1048576)
theorem coord_pure (a : Int) (n : Nat) (H : Heap) : Pure Try.prog 30 [.i .i64 a] n H (.b (coordV a)) := by
  refine .of0 (.enter0 F30_ok (by simp [F30]) ?_) (by simp [VIn.i]) (.b _) n H
  unfold coordV
  refine .seq (.ops (opsF_all (by simp; rfl) ?_))
  by_cases h1 : -1048576 ≤ a
  · refine .seq (.ops (opsF_all (by simp [h1]; rfl) ?_))
    exact .ret (by simp [F30, h1])
  · refine .seq (.ops (opsF_all (by simp [h1]; rfl) ?_))
    exact .ret (by simp [F30, h1])
def rfitsV (a b : Int) : Bool := decide (-1048576 ≤ a) && (decide (1 ≤ b) && decide (b ≤ IntKind.i64.wrap (1048576 - a)))
theorem rfits_pure (a b : Int) (n : Nat) (H : Heap) : Pure Try.prog 43 [.i .i64 a, .i .i64 b] n H (.b (rfitsV a b)) := by
  refine .of0 (.enter0 F43_ok (by simp [F43]) ?_) (by simp [VIn.i]) (.b _) n H
  unfold rfitsV
  refine .seq (.ops (opsF_all (by simp; rfl) ?_))
  by_cases h1 : -1048576 ≤ a
  · by_cases h2 : 1 ≤ b
    · refine .seq (.ops (opsF_all (by simp [h1, h2]; rfl) ?_))
      exact .ret (by simp [F43, h1, h2])
    · refine .seq (.ops (opsF_all (by simp [h1, h2]; rfl) ?_))
      exact .ret (by simp [F43, h1, h2])
  · refine .seq (.ops (opsF_all (by simp [h1]; rfl) ?_))
    exact .ret (by simp [F43, h1])
/-- A rectangle, as cells. -/
def rectV (x y w h : Int) : V := .ag [.i .i64 x, .i .i64 y, .i .i64 w, .i .i64 h]
theorem rectV_in {x y w h : Int} {n : Nat} : VIn n (rectV x y w h) := .ag (by simp [VIn.i])
theorem check_pure (x y w h : Int) (hh : h ≠ 0) (n : Nat) (H : Heap) : Pure Try.prog 32 [rectV x y w h] n H (.i .i64 (if rfitsV x w && rfitsV y h then 0 else 1)) := by
  refine .of0 (.enter0 F32_ok (by simp [F32]) ?_) (by intro z hz; rw [List.mem_singleton.1 hz]; exact rectV_in) (.i _ _) n H
  have e1 := fun n H => rfits_pure x w n H
  have e2 := fun n H => rfits_pure y h n H
  generalize rfitsV x w = b1 at e1 ⊢
  generalize rfitsV y h = b2 at e2 ⊢
  have hb : (h == 0) = false := by simpa using hh
  refine .seq (.ops (opsF_all (by simp [rectV]; rfl) ?_))
  refine .seq (.seq (.ops (opsF_run 8 (by simp [evEqs, eqAll, hb]; rfl) ?_)))
  refine opsF_cons_call rfl rfl rfl (v := .b b1) (e1 _ _) ?_
  cases b1 with
  | true =>
    refine opsF_run 5 (by simp; rfl) ?_
    refine opsF_cons_call rfl rfl rfl (v := .b b2) (e2 _ _) ?_
    refine opsF_all (by simp; rfl) ?_
    cases b2 with
    | true =>
      refine .cond (t := true) (by simp) (.seq (.ops (opsF_all (by simp; rfl) ?_)))
      exact .ret (by simp [F32])
    | false =>
      refine .cond (t := false) (by simp) (.skip ?_)
      refine .seq (.ops (opsF_all (by simp; rfl) ?_))
      exact .ret (by simp [F32])
  | false =>
    refine opsF_run 5 (by simp; rfl) ?_
    refine opsF_skip (by simp) ?_
    refine opsF_all (by simp; rfl) ?_
    refine .cond (t := false) (by simp) (.skip ?_)
    refine .seq (.ops (opsF_all (by simp; rfl) ?_))
    exact .ret (by simp [F32])
/-- A text's box. -/
def boxV (w : Bool) (x y : Int) (s : List UInt8) : V :=
  if coordV x && coordV y then
    if rfitsV x (pw w (s.take 4096)) && rfitsV (y - fA w) (fH w) then rectV x (y - fA w) (pw w (s.take 4096)) (fH w) else rectV 0 0 0 0
  else rectV 0 0 0 0
theorem boxV_in {w : Bool} {x y : Int} {s : List UInt8} {n : Nat} : VIn n (boxV w x y s) := by
  unfold boxV
  split
  · split <;> exact rectV_in
  · exact rectV_in
theorem fH_ne (w : Bool) : ((fH w : Nat) : Int) ≠ 0 := by cases w <;> decide
theorem boxG_ok (w : Bool) (x y : Int) (s : List UInt8) : ACalls Try.prog 15 [.ag (fontC w), .i .i64 x, .i .i64 y, .s s] 0 [] fun v _ _ => v = boxV w x y s := by
  refine .enter0 F15_ok (by simp [F15]) ?_
  have e1 := fun n H => coord_pure x n H
  have e2 := fun n H => coord_pure y n H
  have hcy : coordV y = true → IntKind.i64.wrap (y - (fA w : Int)) = y - (fA w : Int) := by
    intro h
    simp [coordV] at h
    have : fA w ≤ 7 := by cases w <;> decide
    exact IntWalk.i64_in _ (by omega)
  have hwid := fun n H => width_pure w (s.take 4096) (by simp; omega) n H
  have hck := fun n H => check_pure x (y - fA w) (pw w (s.take 4096)) (fH w) (fH_ne w) n H
  unfold boxV
  generalize pw w (s.take 4096) = p at hwid hck ⊢
  generalize coordV x = b1 at e1 ⊢
  generalize coordV y = b2 at e2 hcy ⊢
  generalize rfitsV x p = f1 at hck ⊢
  generalize rfitsV (y - fA w) (fH w) = f2 at hck ⊢
  refine .seq (.ops (opsF_all (by simp; rfl) ?_))
  refine .seq (.seq (.ops (opsF_run 1 (by simp; rfl) ?_)))
  refine opsF_cons_call rfl rfl rfl (v := .b b1) (e1 _ _) ?_
  have zero : ∀ T, True := fun (_ : Nat) => trivial
  cases b1 with
  | false =>
    refine opsF_run 3 (by simp; rfl) ?_
    refine opsF_skip (by simp) ?_
    refine opsF_all (by simp; rfl) ?_
    refine .cond (t := true) (by simp) (.seq (.ops (opsF_all (by simp [setAll]; rfl) ?_)))
    exact .ret (by simp [F15, rectV])
  | true =>
    refine opsF_run 3 (by simp; rfl) ?_
    refine opsF_cons_call rfl rfl rfl (v := .b b2) (e2 _ _) ?_
    cases b2 with
    | false =>
      refine opsF_all (by simp; rfl) ?_
      refine .cond (t := true) (by simp) (.seq (.ops (opsF_all (by simp [setAll]; rfl) ?_)))
      exact .ret (by simp [F15, rectV])
    | true =>
      have hcy := hcy rfl
      refine opsF_all (by simp; rfl) ?_
      refine .cond (t := false) (by simp) (.skip ?_)
      refine .seq (.draw (drawF_run 3 (by rfl) (by simp; exact ⟨rfl, rfl⟩) ?_))
      refine drawF_callN (v := .i .i64 (fA w)) (n1 := 2) (R := []) rfl rfl rfl (ascent_pure w 2 []) (by simp) (by simp) rfl ?_
      refine drawF_run 3 (by rfl) (by simp [hcy]; exact ⟨rfl, rfl⟩) ?_
      refine drawF_callN (v := .s (s.take 4096)) (n1 := 2) (R := []) rfl rfl rfl (counted_pure s 2 []) (by simp) (by simp) rfl ?_
      refine drawF_callN (v := .i .i64 p) (n1 := 2) (R := []) rfl rfl rfl (hwid 2 []) (by simp) (by simp) rfl ?_
      refine drawF_run 1 (by rfl) (by simp; exact ⟨rfl, rfl⟩) ?_
      refine drawF_callN (v := .i .i64 (fA w)) (n1 := 2) (R := []) rfl rfl rfl (ascent_pure w 2 []) (by simp) (by simp) rfl ?_
      refine drawF_run 1 (by rfl) (by simp; exact ⟨rfl, rfl⟩) ?_
      refine drawF_callN (v := .i .i64 (fD w)) (n1 := 2) (R := []) rfl rfl rfl (descent_pure w 2 []) (by simp) (by simp) rfl ?_
      refine drawF_all (by rfl) (by simp [setAll, Blk.own]; exact ⟨rfl, rfl⟩) ⟨by rfl, ?_⟩
      refine AWc.alikeH (H := [(2, .row true [.i .i64 x, .i .i64 (y - fA w), .i .i64 p, .i .i64 (fH w)]), (1, .row true [.i .i64 0, .i .i64 0, .i .i64 0, .i .i64 0]), (0, .row true (fontC w))]) (fun b => ?_) ?_
      · simp only [aget_mergeH, aget_cons, aget_nil, touch]
        simp
        repeat' split
        all_goals first | rfl | (simp_all; done) | (exfalso; simp_all; omega)
      refine .seq (.seq (.ops (opsF_run 1 (by simp; rfl) ?_)))
      refine opsF_cons_call rfl rfl rfl (v := .i .i64 (if f1 && f2 then 0 else 1)) (hck _ _) ?_
      cases hf : (f1 && f2) with
      | true =>
        refine opsF_all (by simp; rfl) ?_
        refine .cond (t := false) (by simp) (.skip ?_)
        refine .seq (.ops (opsF_all (by simp [setAll]; rfl) ?_))
        exact .ret (by simp [F15, rectV])
      | false =>
        refine opsF_all (by simp; rfl) ?_
        refine .cond (t := true) (by simp) (.seq (.ops (opsF_all (by simp [setAll]; rfl) ?_)))
        exact .ret (by simp [F15, rectV])
theorem boxG_pure (w : Bool) (x y : Int) (s : List UInt8) (n : Nat) (H : Heap) : Pure Try.prog 15 [.ag (fontC w), .i .i64 x, .i .i64 y, .s s] n H (boxV w x y s) :=
  .of0 (boxG_ok w x y s) (by
    intro z hz
    simp at hz
    rcases hz with rfl | rfl | rfl | rfl
    · exact ag_in
    · exact .i _ _
    · exact .i _ _
    · exact .s _) boxV_in n H
end Go.Proofs.Ytpgelghkjiejlaa
end
section
set_option maxRecDepth 4000
namespace Go.Proofs.Ytpgelghkjiejlaa
open Go

structure Rc where
  x : Int
  y : Int
  w : Int
  h : Int
  deriving Inhabited, DecidableEq
def rc4 (r : Rc) : List V := [.i .i64 r.x, .i .i64 r.y, .i .i64 r.w, .i .i64 r.h]
def rcs : List Rc → List V
  | [] => []
  | r :: l => rc4 r ++ rcs l
theorem rcs_len : ∀ (l : List Rc), (rcs l).length = 4 * l.length
  | [] => rfl
  | r :: l => by rw [rcs, List.length_append, rcs_len l, List.length_cons]; simp [rc4]; omega
theorem rcs_append : ∀ (l m : List Rc), rcs (l ++ m) = rcs l ++ rcs m
  | [], m => rfl
  | r :: l, m => by rw [List.cons_append, rcs, rcs, rcs_append l m, List.append_assoc]
theorem rcs_at : ∀ (l : List Rc) (i : Nat) (h : i < l.length) (post : List V), ((rcs l ++ post).drop (i * 4)).take 4 = rc4 l[i]
  | r :: l, 0, h, post => by simp [rcs, rc4]
  | r :: l, i + 1, h, post => by
    have e : (i + 1) * 4 = 4 + i * 4 := by omega
    have h5 : ∀ X : List V, (rc4 r ++ X).drop 4 = X := fun X => rfl
    rw [e, rcs, ← List.drop_drop, List.append_assoc, h5, rcs_at l i (by simpa using h) post]
    rfl
theorem rcs_in (l : List Rc) (n : Nat) : ∀ x ∈ rcs l, VIn n x := by
  induction l with
  | nil => intro x hx; simp [rcs] at hx
  | cons r l ih =>
    intro x hx
    rw [rcs, List.mem_append] at hx
    rcases hx with hx | hx
    · simp [rc4] at hx
      rcases hx with rfl | rfl | rfl | rfl <;> exact .i _ _
    · exact ih x hx
/-- The slice S bears the rectangles l. -/
def SlR (H : Heap) (S : V) (l : List Rc) : Prop := (S = .nils ∧ l = []) ∨ ∃ id off full o pre post, S = .sl id off 4 l.length full ∧ aget H id = some (.row o (pre ++ (rcs l ++ post))) ∧ off = pre.length
theorem SlR.known {H : Heap} {S : V} {l : List Rc} (h : SlR H S l) : S.known = true := by rcases h with ⟨rfl, _⟩ | ⟨_, _, _, _, _, _, rfl, _⟩ <;> rfl
theorem SlR.one {H : Heap} {S : V} {l : List Rc} (h : SlR H S l) : S.one = true := by rcases h with ⟨rfl, _⟩ | ⟨_, _, _, _, _, _, rfl, _⟩ <;> rfl
theorem SlR.len {H : Heap} {S : V} {l : List Rc} (h : SlR H S l) : evLen false S = some (.i .i64 l.length) := by rcases h with ⟨rfl, rfl⟩ | ⟨_, _, _, _, _, _, rfl, _⟩ <;> rfl
theorem SlR.vin {H : Heap} {S : V} {l : List Rc} {n : Nat} (h : SlR H S l) (hin : HIn n H) : VIn n S := by
  rcases h with ⟨rfl, _⟩ | ⟨id, _, _, _, _, _, rfl, h, _⟩
  · exact .nils
  · exact .sl (hin id _ h).1
theorem SlR.mono {H H' : Heap} {S : V} {l : List Rc} (h : SlR H S l) (hm : ∀ b k, aget H b = some k → aget H' b = some k) : SlR H' S l := by
  rcases h with h | ⟨id, off, full, o, pre, post, h1, h2, h3⟩
  · exact .inl h
  · exact .inr ⟨id, off, full, o, pre, post, h1, hm _ _ h2, h3⟩
/-- The facts at one of the slice's rectangles. -/
structure AtR (H : Heap) (S : V) (i : Nat) (r : Rc) (id q : Nat) (o : Bool) (cs : List V) : Prop where
  ias : evIas 4 S (.i .i64 i) = some (.p id q)
  get : aget H id = some (.row o cs)
  len : q + 4 ≤ cs.length
  at4 : (cs.drop q).take 4 = rc4 r
  c0 : cs[q]? = some (.i .i64 r.x)
  c1 : cs[q + 1]? = some (.i .i64 r.y)
  c2 : cs[q + 2]? = some (.i .i64 r.w)
  c3 : cs[q + 3]? = some (.i .i64 r.h)
theorem SlR.at {H : Heap} {S : V} {l : List Rc} (h : SlR H S l) {i : Nat} (hi : i < l.length) : ∃ id q o cs, AtR H S i l[i] id q o cs := by
  rcases h with ⟨_, rfl⟩ | ⟨id, off, full, o, pre, post, rfl, h2, rfl⟩
  · simp at hi
  have h4 : ((pre ++ (rcs l ++ post)).drop (pre.length + i * 4)).take 4 = rc4 l[i] := by
    rw [← List.drop_drop, List.drop_append_of_le_length (Nat.le_refl _), List.drop_of_length_le (Nat.le_refl _), List.nil_append, rcs_at l i hi]
  have hj : ∀ j, j < 4 → (pre ++ (rcs l ++ post))[pre.length + i * 4 + j]? = (rc4 l[i])[j]? := fun j hj => by
    rw [← h4, List.getElem?_take, if_pos hj, List.getElem?_drop]
  have hl := rcs_len l
  refine ⟨id, pre.length + i * 4, o, _, ?_, h2, ?_, h4, (hj 0 (by omega)).trans rfl, (hj 1 (by omega)).trans rfl, (hj 2 (by omega)).trans rfl, (hj 3 (by omega)).trans rfl⟩
  · have : (0 : Int) ≤ (i : Int) ∧ (i : Int) < (l.length : Int) := by omega
    simp [evIas, this]
  · simp only [List.length_append]; omega
def areaL (l : List Rc) : Int := l.foldl (fun a r => IntKind.i64.wrap (a + IntKind.i64.wrap (r.w * r.h))) 0
theorem areaL_succ (l : List Rc) (i : Nat) (h : i < l.length) : areaL (l.take (i + 1)) = IntKind.i64.wrap (areaL (l.take i) + IntKind.i64.wrap (l[i].w * l[i].h)) := by
  unfold areaL
  rw [List.take_add_one, List.getElem?_eq_getElem h, Option.toList_some, List.foldl_append]
  rfl
/-- The region of these rectangles. -/
theorem area_ok (S : V) (l : List Rc) (hl : l.length ≤ 1000000000) (n : Nat) (H : Heap) (hS : SlR H S l) : Pure Try.prog 23 [.ag [S]] n H (.i .i64 (areaL l)) := by
  refine Pure.of_drop ?_ (.i _ _)
  refine .withIn (ACalls.enters F23_ok trivial) fun hin hargs => ?_
  have hSin := hS.vin hin
  have hK := hS.known
  have hO := hS.one
  have hL := hS.len
  have hinn : HIn (n + 1) ((n, .row true [S]) :: H) := .cons' (by omega) (by intro x hx; rw [List.mem_singleton.1 hx]; exact hSin.mono (by omega)) (hin.mono (by omega))
  have hold : ∀ b k, aget H b = some k → aget ((n, Blk.row true [S]) :: H) b = some k := fun b k hb => by
    have := (hin b k hb).1
    rw [aget_cons, if_neg (by omega)]
    exact hb
  refine .enter0 F23_ok (by simp [F23]) ?_
  refine .seq (.ops (opsF_all (by simp [hK]; rfl) ?_))
  refine .seq (.ops (opsF_all (by simp; rfl) ?_))
  refine .seq (.seq (.ops (opsF_all (by simp [-evLen, hL]; rfl) ?_)))
  refine .block (.loopR (φ₀ := id) (k₀ := l.length) (s₀ := ⟨[(3, .i .i64 0), (7, S), (8, .i .i64 l.length), (9, .i .i64 0)], [], n + 1, (n, .row true [S]) :: H⟩)
    (fun k st => ∃ i, i ≤ l.length ∧ k = l.length - i ∧ st = ⟨[(3, .i .i64 (areaL (l.take i))), (7, S), (8, .i .i64 l.length), (9, .i .i64 i)], [], n + 1, (n, .row true [S]) :: H⟩)
    ⟨0, by omega, by omega, by simp [areaL]⟩ ⟨TReL.spec ?_, rfl, by simp, hinn.self⟩ (fun b hb => rfl) (fun k st ⟨i, h1, h2, h3⟩ => by simp [h3]) ?_)
  · simp only [TReL, and_true]
    simp
    exact ⟨.i _ _, .id_of (hSin.mono (by omega)), .i _ _, .i _ _⟩
  rintro k st ⟨i, h1, rfl, rfl⟩
  by_cases hi : i < l.length
  · obtain ⟨id, q, o, cs, hA⟩ := hS.at hi
    have hias := hA.ias
    have hget := hA.get
    have hqlen := hA.len
    have hat := hA.at4
    have hne : ¬ n = id := by have := (hin id _ hget).1; omega
    have hne2 : ¬ n + 1 = id := by have := (hin id _ hget).1; omega
    have hi' : (i : Int) < l.length := by omega
    have hwi : IntKind.i64.wrap ((i : Int) + 1) = ((i + 1 : Nat) : Int) := IntWalk.i64_in _ (by omega)
    have hsum := areaL_succ l i hi
    generalize areaL (l.take i) = a0 at hsum ⊢
    generalize l[i] = r at hat hsum
    refine .seq (.ops (opsF_all (by simp [hi']; rfl) ?_))
    refine .seq (.cond (t := true) (by simp [hi']) (.skip ?_))
    refine .seq (.block (.seq (.ops (opsF_run 1 (by simp [-evIas, hias]; rfl) ?_))))
    refine opsF_all (by simp [hne, hne2, hget, hqlen, hat, rc4, setAll]; rfl) ?_
    refine .ops (opsF_all (by simp [← hsum]; rfl) ?_)
    refine .ops (opsF_all (by simp [hwi]; rfl) ?_)
    refine ⟨l.length - (i + 1), _root_.id, _, by omega, ⟨i + 1, by omega, rfl, rfl⟩, fun _ _ => rfl, ⟨TReL.spec ?_, rfl, by simp, .same hinn fun b hb => ?_⟩⟩
    · simp only [TReL, and_true]
      simp
      exact ⟨.i _ _, .id_of (hSin.mono (by omega)), .i _ _, .i _ _⟩
    · simp only [aget_cons]
      have : ¬ n + 1 = b := by simp at hb; omega
      simp [this]
  · obtain rfl : i = l.length := by omega
    refine .seq (.ops (opsF_all (by simp; rfl) ?_))
    refine .seq (.cond (t := false) (by simp) (.exit ?_))
    refine AWc.seq (.ops (opsF_all (by simp; rfl) ?_))
    refine .ret ?_
    simp [F23]
    exact hold
end Go.Proofs.Ytpgelghkjiejlaa
end
section
set_option maxRecDepth 4000
namespace Go.Proofs.Ytpgelghkjiejlaa
open Go
attribute [local irreducible] opsF drawF drawP

abbrev w64 (a : Int) : Int := IntKind.i64.wrap a
def hasL (x y : Int) : List Rc → Bool
  | [] => false
  | s :: l => if y < s.y then false else if IntKind.i64.wrap (s.y + s.h) ≤ y then hasL x y l else if IntKind.i64.wrap (s.x + s.w) ≤ x then hasL x y l else if s.x ≤ x then true else hasL x y l
def hasQ (x y : Int) (l : List Rc) (H : Heap) : Exit → St → Prop := fun e st => (e = .normal ∨ e = .ret) ∧ st.D = [] ∧ ∃ vs, resAll st.T st.H F21.res = some vs ∧ resV vs = .b (hasL x y l) ∧ ∀ b k, aget H b = some k → aget st.H b = some k
theorem has_ok (S : V) (l : List Rc) (hl : l.length ≤ 1000000000) (x y : Int) (n : Nat) (H : Heap) (hS : SlR H S l) : Pure Try.prog 21 [.ag [S], .i .i64 x, .i .i64 y] n H (.b (hasL x y l)) := by
  refine Pure.of_drop ?_ (.b _)
  refine .withIn (ACalls.enters F21_ok trivial) fun hin hargs => ?_
  have hSin := hS.vin hin
  have hK := hS.known
  have hO := hS.one
  have hL := hS.len
  have hinn : HIn (n + 1) ((n, .row true [S]) :: H) := .cons' (by omega) (by intro x hx; rw [List.mem_singleton.1 hx]; exact hSin.mono (by omega)) (hin.mono (by omega))
  have hold : ∀ b k, aget H b = some k → aget ((n, Blk.row true [S]) :: H) b = some k := fun b k hb => by
    have := (hin b k hb).1
    rw [aget_cons, if_neg (by omega)]
    exact hb
  refine .enter0 F21_ok (by simp [F21]) ?_
  refine .seq (.ops (opsF_all (by simp [hK]; rfl) ?_))
  refine .scope (.seq (.ops (opsF_all (by simp; rfl) ?_)))
  refine .seq (.skip (.seq ?_))
  refine .seq (.ops (opsF_all (by simp [-evLen, hL]; rfl) ?_))
  refine .block (.loopR (φ₀ := id) (k₀ := l.length) (s₀ := ⟨[(1, .i .i64 x), (2, .i .i64 y), (7, .b false), (11, S), (12, .i .i64 l.length), (13, .i .i64 0)], [], n + 1, (n, .row true [S]) :: H⟩)
    (fun k st => ∃ i, i ≤ l.length ∧ k = l.length - i ∧ hasL x y (l.drop i) = hasL x y l ∧ st = ⟨[(1, .i .i64 x), (2, .i .i64 y), (7, .b false), (11, S), (12, .i .i64 l.length), (13, .i .i64 i)], [], n + 1, (n, .row true [S]) :: H⟩)
    ⟨0, by omega, by omega, by simp, by simp⟩ ⟨TReL.spec ?_, rfl, by simp, hinn.self⟩ (fun b hb => rfl) (fun k st ⟨i, h1, h2, h3, h4⟩ => by simp [h4]) ?_)
  · simp only [TReL, and_true]
    simp
    exact ⟨.i _ _, .i _ _, .b _, .id_of (hSin.mono (by omega)), .i _ _, .i _ _⟩
  rintro k st ⟨i, h1, rfl, hh, rfl⟩
  have fin : ∀ (m : Nat) (H' : Heap) (b : Bool), b = hasL x y l → (∀ b k, aget H b = some k → aget H' b = some k) →
      AWc Try.prog F21.N none (.seq (.ops none [⟨(some 45), (.mv (.t 7)), none⟩, ⟨(some 6), (.mv (.t 45)), none⟩]) .ret) ⟨[(7, .b b)], [], m, H'⟩ (noGoto (hasQ x y l H)) := by
    intro m H' b hb ho
    refine AWc.seq (.ops (opsF_all (by simp; rfl) ?_))
    refine .ret ?_
    simp [noGoto, hasQ, F21, hb]
    exact ho
  by_cases hi : i < l.length
  · obtain ⟨id, q, o, cs, hA⟩ := hS.at hi
    have hias := hA.ias
    have hget := hA.get
    have hqlen := hA.len
    have hat := hA.at4
    have hne : ¬ n = id := by have := (hin id _ hget).1; omega
    have hne2 : ¬ n + 1 = id := by have := (hin id _ hget).1; omega
    have hi' : (i : Int) < l.length := by omega
    have hwi : IntKind.i64.wrap ((i : Int) + 1) = ((i + 1 : Nat) : Int) := IntWalk.i64_in _ (by omega)
    have hsum : hasL x y (l[i] :: l.drop (i + 1)) = hasL x y l := by rw [← hh, List.drop_eq_getElem_cons hi]
    generalize l[i] = r at hat hsum
    have hold2 : ∀ (u : List V) b k, aget H b = some k → aget ((n + 1, Blk.row true u) :: (n, Blk.row true [S]) :: H) b = some k := fun u b k hb => by
      have := (hin b k hb).1
      rw [aget_cons, if_neg (by omega)]
      exact hold b k hb
    have next : hasL x y (l.drop (i + 1)) = hasL x y l →
        AWc Try.prog F21.N none (.ops none [⟨(some 44), (.bin .add (.t 13) (.c (.i .i64 1))), none⟩, ⟨(some 13), (.mv (.t 44)), none⟩]) ⟨[(1, .i .i64 x), (2, .i .i64 y), (7, .b false), (11, S), (12, .i .i64 l.length), (13, .i .i64 i)], [], n + 2, (n + 1, Blk.row true (rc4 r)) :: (n, Blk.row true [S]) :: H⟩ (onNormal (fun s' => ∃ j φ s'', j < l.length - i ∧ (∃ i, i ≤ l.length ∧ j = l.length - i ∧ hasL x y (l.drop i) = hasL x y l ∧ s'' = ⟨[(1, .i .i64 x), (2, .i .i64 y), (7, .b false), (11, S), (12, .i .i64 l.length), (13, .i .i64 i)], [], n + 1, (n, .row true [S]) :: H⟩) ∧ (∀ b < n + 1, φ b = b) ∧ St.re φ s'' s')
          (onBlock 0 (onNormal (fun s => AWc Try.prog F21.N none (.seq (.ops none [⟨(some 45), (.mv (.t 7)), none⟩, ⟨(some 6), (.mv (.t 45)), none⟩]) .ret) s (noGoto (hasQ x y l H))) (noGoto (hasQ x y l H))))) := by
      intro hd
      refine .ops (opsF_all (by simp [hwi]; rfl) ?_)
      refine ⟨l.length - (i + 1), _root_.id, _, by omega, ⟨i + 1, by omega, rfl, hd, rfl⟩, fun _ _ => rfl, ⟨TReL.spec ?_, rfl, by simp, .same hinn fun b hb => ?_⟩⟩
      · simp only [TReL, and_true]
        simp
        exact ⟨.i _ _, .i _ _, .b _, .id_of (hSin.mono (by omega)), .i _ _, .i _ _⟩
      · simp only [aget_cons]
        have : ¬ n + 1 = b := by simp at hb; omega
        simp [this]
    refine .seq (.ops (opsF_all (by simp [hi']; rfl) ?_))
    refine .seq (.cond (t := true) (by simp [hi']) (.skip ?_))
    refine .seq (.block (.seq (.ops (opsF_run 1 (by simp [-evIas, hias]; rfl) ?_))))
    refine opsF_all (by simp [hne, hne2, hget, hqlen, hat, rc4, setAll]; rfl) ?_
    by_cases c1 : y < r.y
    · refine .block (.seq (.ops (opsF_all (by simp [c1]; rfl) ?_)))
      refine .cond (t := true) (by simp) (.exit ?_)
      refine AWc.forget (T0 := [(7, .b false)]) (by simp) (fin _ _ false ?_ (hold2 _))
      rw [← hsum]; simp [hasL, c1]
    · refine .block (.seq (.ops (opsF_all (by simp [c1]; rfl) ?_)))
      by_cases c2 : IntKind.i64.wrap (r.y + r.h) ≤ y
      · refine .cond (t := false) (by simp) (.seq (.ops (opsF_all (by simp [c2]; rfl) ?_)))
        refine .cond (t := true) (by simp) (.exit ?_)
        refine AWc.forget (T0 := [(1, .i .i64 x), (2, .i .i64 y), (7, .b false), (11, S), (12, .i .i64 l.length), (13, .i .i64 i)]) (by simp) (next ?_)
        rw [← hsum]; simp [hasL, c1, c2]
      · by_cases c3 : IntKind.i64.wrap (r.x + r.w) ≤ x
        · refine .cond (t := false) (by simp) (.seq (.ops (opsF_all (by simp [c2, c3]; rfl) ?_)))
          refine .cond (t := true) (by simp) (.exit ?_)
          refine AWc.forget (T0 := [(1, .i .i64 x), (2, .i .i64 y), (7, .b false), (11, S), (12, .i .i64 l.length), (13, .i .i64 i)]) (by simp) (next ?_)
          rw [← hsum]; simp [hasL, c1, c2, c3]
        · refine .cond (t := false) (by simp) (.seq (.ops (opsF_all (by simp [c2, c3]; rfl) ?_)))
          by_cases c4 : r.x ≤ x
          · refine .cond (t := false) (by simp) (.seq (.ops (opsF_all (by simp [c4]; rfl) ?_)))
            refine .cond (t := true) (by simp) (.seq (.ops (opsF_all (by simp; rfl) ?_)))
            refine AWc.exit ?_
            refine AWc.forget (T0 := [(7, .b true)]) (by simp) (fin _ _ true ?_ (hold2 _))
            rw [← hsum]; simp [hasL, c1, c2, c3, c4]
          · refine .cond (t := false) (by simp) (.seq (.ops (opsF_all (by simp [c4]; rfl) ?_)))
            refine .cond (t := false) (by simp) (.skip ?_)
            refine AWc.forget (T0 := [(1, .i .i64 x), (2, .i .i64 y), (7, .b false), (11, S), (12, .i .i64 l.length), (13, .i .i64 i)]) (by simp) (next ?_)
            rw [← hsum]; simp [hasL, c1, c2, c3, c4]
  · obtain rfl : i = l.length := by omega
    refine .seq (.ops (opsF_all (by simp; rfl) ?_))
    refine .seq (.cond (t := false) (by simp) (.exit ?_))
    refine AWc.forget (T0 := [(7, .b false)]) (by simp) (fin _ _ false ?_ hold)
    rw [← hh]; simp [hasL]
end Go.Proofs.Ytpgelghkjiejlaa
end
section
set_option maxRecDepth 4000
namespace Go.Proofs.Ytpgelghkjiejlaa
open Go
attribute [local irreducible] opsF drawF drawP

def rV (r : Rc) : V := .ag (rc4 r)
theorem rV_in (r : Rc) (n : Nat) : VIn n (rV r) := .ag (by simp [rc4])
def countsV (r : Rc) : Bool := fitsV r.x r.w && fitsV r.y r.h
theorem counts_pure (r : Rc) (n : Nat) (H : Heap) : Pure Try.prog 48 [rV r] n H (.b (countsV r)) := by
  refine .of0 (.enter0 F48_ok (by simp [F48]) ?_) (by intro z hz; rw [List.mem_singleton.1 hz]; exact rV_in _ _) (.b _) n H
  have e1 := fun n H => fits_pure r.x r.w n H
  have e2 := fun n H => fits_pure r.y r.h n H
  unfold countsV
  generalize fitsV r.x r.w = b1 at e1 ⊢
  generalize fitsV r.y r.h = b2 at e2 ⊢
  refine .seq (.ops (opsF_all (by simp [rV, rc4]; rfl) ?_))
  refine .seq (.ops (opsF_run 4 (by simp; rfl) ?_))
  refine opsF_cons_call rfl rfl rfl (v := .b b1) (e1 _ _) ?_
  cases b1 with
  | false =>
    refine opsF_all (by simp; rfl) ?_
    exact .ret (by simp [F48])
  | true =>
    refine opsF_run 5 (by simp; rfl) ?_
    refine opsF_cons_call rfl rfl rfl (v := .b b2) (e2 _ _) ?_
    refine opsF_all (by simp; rfl) ?_
    exact .ret (by simp [F48])
theorem empty_ok (S : V) (l : List Rc) (n : Nat) (H : Heap) (hS : SlR H S l) : Pure Try.prog 19 [.ag [S]] n H (.b (decide (l = []))) := by
  refine Pure.of_drop ?_ (.b _)
  refine .withIn (ACalls.enters F19_ok trivial) fun hin hargs => ?_
  have hK := hS.known
  have hL := hS.len
  have hold : ∀ b k, aget H b = some k → aget ((n, Blk.row true [S]) :: H) b = some k := fun b k hb => by
    have := (hin b k hb).1
    rw [aget_cons, if_neg (by omega)]
    exact hb
  refine .enter0 F19_ok (by simp [F19]) ?_
  refine .seq (.ops (opsF_all (by simp [hK]; rfl) ?_))
  refine .seq (.ops (opsF_all (by simp [-evLen, hL]; rfl) ?_))
  refine .ret ?_
  simp [F19]
  refine ⟨?_, hold⟩
  cases l <;> simp
  omega
/-- Below: by place from above, then from the left. -/
def cmpYX (a b : Rc) : Int := if cmpV a.y b.y = 0 then cmpV a.x b.x else cmpV a.y b.y
theorem or_pure (a b : Int) (id : Nat) (n : Nat) (H : Heap) (o full : Bool) (h : aget H id = some (.row o [.i .i64 a, .i .i64 b])) : Pure Try.prog 51 [.sl id 0 1 2 full] n H (.i .i64 (if a = 0 then b else a)) := by
  refine Pure.of_drop ?_ (.i _ _)
  refine .withIn (ACalls.enters F51_ok trivial) fun hin hargs => ?_
  have hid := (hin id _ h).1
  refine .enter0 F51_ok (by simp [F51]) ?_
  refine .seq (.ops (opsF_all (by simp; rfl) ?_))
  refine .seq (.ops (opsF_all (by simp; rfl) ?_))
  refine .seq (.seq (.ops (opsF_all (by simp; rfl) ?_)))
  refine .block (.loopR (φ₀ := _root_.id) (k₀ := 2) (s₀ := ⟨[(3, .i .i64 0), (6, .sl id 0 1 2 full), (7, .i .i64 2), (8, .i .i64 0)], [], n, H⟩)
    (fun k st => ∃ i : Nat, i ≤ 2 ∧ k = 2 - i ∧ (i = 1 → a = 0) ∧ (i = 2 → a = 0 ∧ b = 0) ∧ st = ⟨[(3, .i .i64 0), (6, .sl id 0 1 2 full), (7, .i .i64 2), (8, .i .i64 i)], [], n, H⟩)
    ⟨0, by omega, by omega, by omega, by omega, rfl⟩ ⟨TReL.spec ?_, rfl, by simp, hin.self⟩ (fun b hb => rfl) (fun k st ⟨i, h1, h2, h3, h4, h5⟩ => by simp [h5]) ?_)
  · simp only [TReL, and_true]
    simp
    exact ⟨.i _ _, .id_of (.sl hid), .i _ _, .i _ _⟩
  rintro k st ⟨i, h1, rfl, g1, g2, rfl⟩
  have next : ∀ {Q : Exit → St → Prop} (T : Temps), i < 2 → aget T 3 = some (.i .i64 0) → aget T 6 = some (.sl id 0 1 2 full) → aget T 7 = some (.i .i64 2) → aget T 8 = some (.i .i64 i) → (i + 1 = 1 → a = 0) → (i + 1 = 2 → a = 0 ∧ b = 0) →
      (∀ s', (∃ j φ s'', j < 2 - i ∧ (∃ i : Nat, i ≤ 2 ∧ j = 2 - i ∧ (i = 1 → a = 0) ∧ (i = 2 → a = 0 ∧ b = 0) ∧ s'' = ⟨[(3, .i .i64 0), (6, .sl id 0 1 2 full), (7, .i .i64 2), (8, .i .i64 i)], [], n, H⟩) ∧ (∀ b < n, φ b = b) ∧ St.re φ s'' s') → Q .normal s') →
      AWc Try.prog F51.N none (.ops none [⟨(some 16), (.bin .add (.t 8) (.c (.i .i64 1))), none⟩, ⟨(some 8), (.mv (.t 16)), none⟩]) ⟨T, [], n, H⟩ Q := by
    intro Q T hi t3 t6 t7 t8 e1 e2 hQ
    have hwi : IntKind.i64.wrap ((i : Int) + 1) = ((i + 1 : Nat) : Int) := IntWalk.i64_in _ (by omega)
    refine AWc.forget (T0 := [(3, .i .i64 0), (6, .sl id 0 1 2 full), (7, .i .i64 2), (8, .i .i64 i)]) (by simp [t3, t6, t7, t8]) ?_
    refine .ops (opsF_all (by simp [hwi]; rfl) ?_)
    refine hQ _ ⟨2 - (i + 1), _root_.id, _, by omega, ⟨i + 1, by omega, rfl, e1, e2, rfl⟩, fun _ _ => rfl, ⟨TReL.spec ?_, rfl, by simp, .same hin fun b hb => rfl⟩⟩
    simp only [TReL, and_true]
    simp
    exact ⟨.i _ _, .id_of (.sl hid), .i _ _, .i _ _⟩
  rcases (by omega : i = 0 ∨ i = 1 ∨ i = 2) with rfl | rfl | rfl
  · refine .seq (.ops (opsF_all (by simp; rfl) ?_))
    refine .seq (.cond (t := true) (by simp) (.skip ?_))
    refine .seq (.block (.seq (.ops (opsF_all (by simp [h]; rfl) ?_))))
    by_cases ha : a = 0
    · refine .seq (.ops (opsF_all (by simp [ha]; rfl) ?_))
      refine .cond (t := false) (by simp) (.skip ?_)
      exact next _ (by omega) (by simp) (by simp) (by simp) (by simp) (fun _ => ha) (by omega) (fun s h => h)
    · refine .seq (.ops (opsF_all (by simp; rfl) ?_))
      refine .cond (t := true) (by simp [ha]) (.seq (.ops (opsF_all (by simp; rfl) ?_)))
      exact .ret (by simp [F51, ha])
  · have ha := g1 rfl
    refine .seq (.ops (opsF_all (by simp; rfl) ?_))
    refine .seq (.cond (t := true) (by simp) (.skip ?_))
    refine .seq (.block (.seq (.ops (opsF_all (by simp [h]; rfl) ?_))))
    by_cases hb : b = 0
    · refine .seq (.ops (opsF_all (by simp [hb]; rfl) ?_))
      refine .cond (t := false) (by simp) (.skip ?_)
      exact next _ (by omega) (by simp) (by simp) (by simp) (by simp) (by omega) (fun _ => ⟨ha, hb⟩) (fun s h => h)
    · refine .seq (.ops (opsF_all (by simp; rfl) ?_))
      refine .cond (t := true) (by simp [hb]) (.seq (.ops (opsF_all (by simp; rfl) ?_)))
      exact .ret (by simp [F51, ha])
  · obtain ⟨ha, hb⟩ := g2 rfl
    refine .seq (.ops (opsF_all (by simp; rfl) ?_))
    refine .seq (.cond (t := false) (by simp) (.exit ?_))
    refine AWc.seq (.ops (opsF_all (by simp; rfl) ?_))
    refine .ret ?_
    simp [F51, ha, hb]
theorem VIn_rc (r : Rc) (n : Nat) : ∀ x ∈ [rV r], VIn n x := by intro z hz; rw [List.mem_singleton.1 hz]; exact rV_in _ _
theorem VIn_rc2 (r s : Rc) (n : Nat) : ∀ x ∈ [rV r, rV s], VIn n x := by
  intro z hz
  simp only [List.mem_cons, List.mem_nil_iff, or_false] at hz
  rcases hz with rfl | rfl <;> exact rV_in _ _
theorem cmpX_pure (a b : Rc) (n : Nat) (H : Heap) : Pure Try.prog 56 [rV a, rV b] n H (.i .i64 (cmpV a.x b.x)) := by
  refine .of0 (.enter0 F56_ok (by simp [F56]) ?_) (VIn_rc2 _ _ _) (.i _ _) n H
  refine .seq (.ops (opsF_all (by simp [rV, rc4]; rfl) ?_))
  refine .seq (.ops (opsF_run 4 (by simp; rfl) ?_))
  refine opsF_cons_call rfl rfl rfl (v := .i .i64 (cmpV a.x b.x)) (cmp_pure _ _ _ _) ?_
  refine opsF_all (by simp; rfl) ?_
  exact .ret (by simp [F56])
theorem cmpYX_pure (a b : Rc) (n : Nat) (H : Heap) : Pure Try.prog 50 [rV a, rV b] n H (.i .i64 (cmpYX a b)) := by
  refine .of0 (.enter0 F50_ok (by simp [F50]) ?_) (VIn_rc2 _ _ _) (.i _ _) n H
  have e1 := fun n H => cmp_pure a.y b.y n H
  have e2 := fun n H => cmp_pure a.x b.x n H
  have e3 := fun n H o h => or_pure (cmpV a.y b.y) (cmpV a.x b.x) 2 n H o true h
  have e4 : cmpYX a b = if cmpV a.y b.y = 0 then cmpV a.x b.x else cmpV a.y b.y := rfl
  rw [← e4] at e3
  generalize cmpYX a b = c3 at e3 ⊢
  generalize cmpV a.y b.y = c1 at e1 e3
  generalize cmpV a.x b.x = c2 at e2 e3
  obtain ⟨ax, ay, aw, ah⟩ := a
  obtain ⟨bx, bY, bw, bh⟩ := b
  refine .seq (.ops (opsF_all (by simp [rV, rc4]; rfl) ?_))
  refine .seq (.draw ?_)
  refine drawF_run 4 (by rfl) (by simp; exact ⟨rfl, rfl⟩) ?_
  refine drawF_callN (v := .i .i64 c1) (n1 := 2) (R := []) rfl rfl rfl (e1 _ _) (by simp) (by simp) (by simp [inDB, vinB]) ?_
  refine drawF_run 4 (by rfl) (by simp; exact ⟨rfl, rfl⟩) ?_
  refine drawF_callN (v := .i .i64 c2) (n1 := 2) (R := []) rfl rfl rfl (e2 _ _) (by simp) (by simp) (by simp [inDB, vinB]) ?_
  refine drawF_run 1 (by rfl) (by simp [setAll, Blk.own]; exact ⟨rfl, rfl⟩) ?_
  refine drawF_call (fr := [2]) (fw := []) (v := .i .i64 c3) (n1 := 3) (R := [(2, .row false [.i .i64 c1, .i .i64 c2])]) rfl rfl rfl ?_ ⟨by simp, by simp, by simp, by simp [touch]⟩ ⟨.i _ _, by simp [touch]⟩ ?_
  · exact e3 3 _ false (by simp [touch])
  refine drawF_all (by rfl) (by simp; exact ⟨rfl, rfl⟩) ⟨by rfl, ?_⟩
  exact .ret (by simp [F50])
theorem beq_eq_decide' (a b : Int) : (a == b) = decide (a = b) := by cases h : (a == b) <;> simp_all
theorem alike1_pure (a b : Rc) (n : Nat) (H : Heap) : Pure Try.prog 71 [rV a, rV b] n H (.b ((a.x == b.x) && ((a.w == b.w) && (IntKind.i64.wrap (a.y + a.h) == b.y)))) := by
  refine .of0 (.enter0 F71_ok (by simp [F71]) ?_) (VIn_rc2 _ _ _) (.b _) n H
  refine AWc.seq (AWc.ops (opsF_all (by simp [rV, rc4]; rfl) ?_))
  refine AWc.seq (AWc.ops (opsF_run 4 (by simp; rfl) ?_))
  refine opsF_cons_op (v := .b (a.x == b.x)) rfl rfl rfl ?_
  generalize (a.x == b.x) = c1
  cases c1 with
  | true =>
    refine opsF_run 5 (by simp; rfl) ?_
    refine opsF_cons_op (v := .b (a.w == b.w)) rfl rfl rfl ?_
    generalize (a.w == b.w) = c2
    cases c2 with
    | true =>
      refine opsF_run 9 (by simp; rfl) ?_
      refine opsF_cons_op (v := .b (IntKind.i64.wrap (a.y + a.h) == b.y)) rfl rfl rfl ?_
      generalize (IntKind.i64.wrap (a.y + a.h) == b.y) = c3
      refine opsF_all (by simp; rfl) ?_
      exact .ret (by simp [F71])
    | false =>
      refine opsF_all (by simp; rfl) ?_
      exact .ret (by simp [F71])
  | false =>
    refine opsF_all (by simp; rfl) ?_
    exact .ret (by simp [F71])
theorem tellY_pure (r : Rc) (n : Nat) (H : Heap) : Pure Try.prog 74 [rV r] n H (.tu [.i .i64 r.y, .i .i64 r.h]) := by
  refine .of0 (.enter0 F74_ok (by simp [F74]) ?_) (VIn_rc _ _) (.tu (by simp)) n H
  refine .seq (.ops (opsF_all (by simp [rV, rc4]; rfl) ?_))
  refine .seq (.drawP (by rfl) ?_)
  refine drawP_all (by rfl) (by simp; rfl) ?_
  exact .ret (by simp [F74])
theorem tellX_pure (r : Rc) (n : Nat) (H : Heap) : Pure Try.prog 76 [rV r] n H (.tu [.i .i64 r.x, .i .i64 r.w]) := by
  refine .of0 (.enter0 F76_ok (by simp [F76]) ?_) (VIn_rc _ _) (.tu (by simp)) n H
  refine .seq (.ops (opsF_all (by simp [rV, rc4]; rfl) ?_))
  refine .seq (.drawP (by rfl) ?_)
  refine drawP_all (by rfl) (by simp; rfl) ?_
  exact .ret (by simp [F76])
/-- Whether a rectangle ends at the row, or ahead of it: the captured number stands in the block c. -/
theorem gone_pure (r : Rc) (c : Nat) (y : Int) (o : Bool) (n : Nat) (H : Heap) (h : aget H c = some (.row o [.i .i64 y])) : Pure Try.prog 55 [rV r, .p c 0] n H (.b (decide (IntKind.i64.wrap (r.y + r.h) ≤ y))) := by
  refine Pure.of_drop ?_ (.b _)
  refine .withIn (ACalls.enters F55_ok trivial) fun hin hargs => ?_
  have hc := (hin c _ h).1
  have hne : ¬ n = c := by omega
  refine .enter0 F55_ok (by simp [F55]) ?_
  refine .seq (.ops (opsF_all (by simp [rV, rc4]; rfl) ?_))
  refine .seq (.ops (opsF_all (by simp [hne, h]; rfl) ?_))
  refine .ret ?_
  simp [F55]
  intro b k hb
  have := (hin b k hb).1
  rw [if_neg (by omega)]
  exact hb
end Go.Proofs.Ytpgelghkjiejlaa
end
section
namespace Go.Proofs.Ytpgelghkjiejlaa
open Go
def slB (f : Bool) (m sz len : Nat) : V := if f then .sl m 0 sz len false else .nils
def rowB (f : Bool) (m : Nat) (cs : List V) (H : Heap) : Heap := if f then (m, .row true cs) :: H else H
theorem slB_t (m sz len : Nat) : slB true m sz len = .sl m 0 sz len false := rfl
theorem slB_f (m sz len : Nat) : slB false m sz len = .nils := rfl
theorem rowB_t (m : Nat) (cs : List V) (H : Heap) : rowB true m cs H = (m, .row true cs) :: H := rfl
theorem rowB_f (m : Nat) (cs : List V) (H : Heap) : rowB false m cs H = H := rfl
theorem aget_rowB (f : Bool) (m : Nat) (cs : List V) (H : Heap) (b : Nat) : aget (rowB f m cs H) b = if f = true ∧ m = b then some (.row true cs) else aget H b := by
  cases f <;> simp [rowB, aget_cons]
theorem aget_rowB_ne {f : Bool} {m : Nat} {cs : List V} {H : Heap} {b : Nat} (h : ¬ m = b) : aget (rowB f m cs H) b = aget H b := by rw [aget_rowB]; simp [h]
theorem slB_known (f : Bool) (m sz len : Nat) : (slB f m sz len).known = true := by cases f <;> rfl
theorem slB_one (f : Bool) (m sz len : Nat) : (slB f m sz len).one = true := by cases f <;> rfl
theorem slB_in {f : Bool} {m sz len n : Nat} (h : m < n) : VIn n (slB f m sz len) := by
  cases f
  · exact .nils
  · exact .sl h
theorem slB_len {f : Bool} {m sz len : Nat} (h : f = false → len = 0) : evLen false (slB f m sz len) = some (.i .i64 len) := by
  cases f
  · rw [h rfl]; rfl
  · rfl
def NoId (cs : List V) : Prop := ∀ v ∈ cs, VIn 0 v
theorem NoId.rcs (l : List Rc) : NoId (rcs l) := rcs_in l 0
theorem NoId.ints (l : List Int) : NoId (l.map (.i .i64)) := by
  intro v hv
  obtain ⟨a, _, rfl⟩ := List.mem_map.1 hv
  exact .i _ _
theorem NoId.append {a b : List V} (h : NoId a) (h' : NoId b) : NoId (a ++ b) := fun v hv => by
  rcases List.mem_append.1 hv with h1 | h1
  · exact h v h1
  · exact h' v h1
theorem NoId.vre {cs : List V} (h : NoId cs) (φ : Nat → Nat) (m : Nat) : VReL φ m cs cs := (VReL.refl (m := 0) (fun b hb => by omega) h).mono (by omega)
theorem NoId.bin {cs : List V} (h : NoId cs) {o : Bool} (m : Nat) : BIn m (.row o cs) := fun x hx => (h x hx).mono (by omega)
theorem NoId.bre {cs post : List V} (h : NoId cs) (φ : Nat → Nat) (m : Nat) (o : Bool) : BRe φ m (.row o cs) (.row o (cs ++ post)) :=
  .rowP (fun h => h) (by rw [List.take_append_of_le_length (Nat.le_refl _), List.take_length]; exact h.vre φ m)
theorem SlR.ofB {H : Heap} {f : Bool} {m : Nat} {l : List Rc} (hf : f = false → l = []) (hg : f = true → ∃ o post, aget H m = some (.row o (rcs l ++ post))) : SlR H (slB f m 4 l.length) l := by
  cases f with
  | false => exact .inl ⟨rfl, hf rfl⟩
  | true =>
    obtain ⟨o, post, hg⟩ := hg rfl
    exact .inr ⟨m, 0, false, o, [], post, rfl, by simpa using hg, rfl⟩
theorem evApp_B {n : Nat} {H : Heap} {sz bytes : Nat} {f : Bool} {m len : Nat} {cs : List V} (hf : f = false → len = 0 ∧ cs = []) (hg : f = true → ∃ post, aget H m = some (.row true (cs ++ post))) (hl : cs.length = len * sz) {x : V} {new : List V} (hx : cellsOf H sz x = some new) (hn : new.all V.one = true)
    {k : Nat} (hk : lenS x = k) (h0 : k ≠ 0) (hb : (len + k) * bytes ≤ 140737488355328) :
    evApp n H sz bytes (slB f m sz len) x = some (.sl n 0 sz (len + k) false, n + 1, (n, .row true (cs ++ new)) :: (if f then adel H m else H)) := by
  cases f with
  | false =>
    obtain ⟨rfl, rfl⟩ := hf rfl
    simp only [slB, evApp, hx, hn, hk, if_true, h0, if_false, Bool.false_eq_true]
    rw [if_pos (by simpa using hb)]
    simp
  | true =>
    obtain ⟨post, hg⟩ := hg rfl
    simp only [slB, evApp, hx, hn, hk, if_true, hg, Bool.false_eq_true, if_false]
    rw [if_pos ⟨trivial, by simp [hl], hb⟩]
    simp [← hl, List.take_append_of_le_length]
theorem aget_adel_if (f : Bool) (H : Heap) (m b : Nat) (h : ¬ m = b) : aget (if f then adel H m else H) b = aget H b := by
  cases f
  · rfl
  · simp [aget_del, h]
def φ1 (m1 i1 : Nat) (b : Nat) : Nat := if b = m1 then i1 else b
theorem φ1_lt {m1 i1 n : Nat} (h : n ≤ m1) : ∀ b, b < n → φ1 m1 i1 b = b := fun b hb => by unfold φ1; rw [if_neg (by omega)]
theorem φ1_self (m1 i1 : Nat) : φ1 m1 i1 m1 = i1 := by simp [φ1]
/-- One row of its own is kept, under the id m1. -/
theorem HRe.one {n m m1 i1 : Nat} {H H' : Heap} {f : Bool} {cs : List V} (hin : HIn n H) (hn : n ≤ m) (h1 : n ≤ m1) (h1' : m1 < m) (g1 : f = true → n ≤ i1) (hold : ∀ b k, b < n → aget H b = some k → aget H' b = some k)
    (hnew : f = true → ∃ k', aget H' i1 = some k' ∧ BRe (φ1 m1 i1) m (.row true cs) k') : HRe (φ1 m1 i1) m (rowB f m1 cs H) H' := by
  cases f with
  | false =>
    refine ⟨fun b k hb => ?_, fun b1 b2 k1 k2 e1 e2 he => ?_⟩
    · obtain ⟨h2, h3⟩ := hin b k hb
      exact ⟨by omega, k, by rw [φ1_lt h1 b h2]; exact hold b k h2 hb, .old hn (φ1_lt h1) h3⟩
    · have a1 := (hin b1 k1 e1).1
      have a2 := (hin b2 k2 e2).1
      rwa [φ1_lt h1 b1 a1, φ1_lt h1 b2 a2] at he
  | true =>
    refine HRe.keep (new := [(m1, .row true cs)]) hin hn (φ1_lt h1) (fun b hb => ?_) hold (fun b k hb => ?_) (fun b1 b2 k1 k2 e1 e2 _ => ?_)
    · unfold φ1
      split
      · exact g1 rfl
      · exact hb
    · obtain ⟨rfl, rfl⟩ := aget_one hb
      obtain ⟨k', a, b⟩ := hnew rfl
      exact ⟨h1, h1', k', by rw [φ1_self]; exact a, b⟩
    · rw [(aget_one e1).1, (aget_one e2).1]
def φ2 (m1 i1 m2 i2 : Nat) (b : Nat) : Nat := if b = m1 then i1 else if b = m2 then i2 else b
theorem φ2_lt {m1 i1 m2 i2 n : Nat} (h : n ≤ m1) (h' : n ≤ m2) : ∀ b, b < n → φ2 m1 i1 m2 i2 b = b := fun b hb => by unfold φ2; rw [if_neg (by omega), if_neg (by omega)]
/-- Two rows of their own are kept. -/
theorem HRe.two {n m m1 i1 m2 i2 : Nat} {H H' : Heap} {f1 f2 : Bool} {cs1 cs2 : List V} (hin : HIn n H) (hn : n ≤ m) (h1 : n ≤ m1) (h1' : m1 < m) (h2 : n ≤ m2) (h2' : m2 < m) (hm : m1 ≠ m2) (g1 : f1 = true → n ≤ i1) (g2 : f2 = true → n ≤ i2) (hi : f1 = true → f2 = true → i1 ≠ i2)
    (hold : ∀ b k, b < n → aget H b = some k → aget H' b = some k)
    (hnew1 : f1 = true → ∃ k', aget H' i1 = some k' ∧ BRe (φ2 m1 i1 m2 i2) m (.row true cs1) k') (hnew2 : f2 = true → ∃ k', aget H' i2 = some k' ∧ BRe (φ2 m1 i1 m2 i2) m (.row true cs2) k') : HRe (φ2 m1 i1 m2 i2) m (rowB f1 m1 cs1 (rowB f2 m2 cs2 H)) H' := by
  have hc : ∀ b k, aget (rowB f1 m1 cs1 (rowB f2 m2 cs2 H)) b = some k → (f1 = true ∧ b = m1 ∧ k = .row true cs1) ∨ (f2 = true ∧ b = m2 ∧ k = .row true cs2) ∨ (b < n ∧ aget H b = some k) := by
    intro b k hb
    rw [aget_rowB] at hb
    split at hb
    · rename_i h; cases hb; exact .inl ⟨h.1, h.2.symm, rfl⟩
    · rw [aget_rowB] at hb
      split at hb
      · rename_i h; cases hb; exact .inr (.inl ⟨h.1, h.2.symm, rfl⟩)
      · exact .inr (.inr ⟨(hin b k hb).1, hb⟩)
  have e1 : φ2 m1 i1 m2 i2 m1 = i1 := by simp [φ2]
  have e2 : φ2 m1 i1 m2 i2 m2 = i2 := by unfold φ2; rw [if_neg (by omega), if_pos rfl]
  have e3 := φ2_lt (i1 := i1) (i2 := i2) h1 h2
  refine ⟨fun b k hb => ?_, fun b1 b2 k1 k2 a1 a2 he => ?_⟩
  · rcases hc b k hb with ⟨ht, rfl, rfl⟩ | ⟨ht, rfl, rfl⟩ | ⟨hlt, hb'⟩
    · rw [e1]; exact ⟨h1', hnew1 ht⟩
    · rw [e2]; exact ⟨h2', hnew2 ht⟩
    · exact ⟨by omega, k, by rw [e3 b hlt]; exact hold b k hlt hb', .old hn e3 (hin b k hb').2⟩
  · rcases hc b1 k1 a1 with ⟨t1, rfl, _⟩ | ⟨t1, rfl, _⟩ | ⟨l1, _⟩ <;> rcases hc b2 k2 a2 with ⟨t2, q2, _⟩ | ⟨t2, q2, _⟩ | ⟨l2, _⟩
    · exact q2.symm
    · subst q2; rw [e1, e2] at he; exact absurd he (hi t1 t2)
    · rw [e1, e3 _ l2] at he; have := g1 t1; omega
    · subst q2; rw [e1, e2] at he; exact absurd he.symm (hi t2 t1)
    · exact q2.symm
    · rw [e2, e3 _ l2] at he; have := g2 t1; omega
    · subst q2; rw [e1, e3 _ l1] at he; have := g1 t2; omega
    · subst q2; rw [e2, e3 _ l1] at he; have := g2 t2; omega
    · rwa [e3 _ l1, e3 _ l2] at he
theorem VRe.B1 {m m1 i1 sz len : Nat} {f full : Bool} (h : m1 < m) {v : V} (hv : v = if f then .sl i1 0 sz len full else .nils) : VRe (φ1 m1 i1) m (slB f m1 sz len) v := by
  subst hv
  cases f
  · exact .nils
  · have := VRe.sl (φ := φ1 m1 i1) (m := m) (id := m1) (off := 0) (sz := sz) (len := len) (full := false) (full' := full) h (by simp)
    rwa [φ1_self] at this
theorem opsF_cons_callX {P : Program} {o : AOper} {os : List AOper} {st : St} {K : St → Prop} {g : AX} {args : List AX} {f : FuncId} {first caps : List V} {v : V} {n1 : Nat} {R : Heap} (hg : guardOf st.T o.guard = some true) (ho : o.op = .call g args) (hgv : g.val st.T = .fn f first caps)
    (hc : ACalls P f (first ++ args.map (·.val st.T) ++ caps) st.n st.H fun v' n' H' => v' = v ∧ n' = n1 ∧ H' = R) (h : opsF P os ⟨putT st.T o.dst v, st.D, n1, R⟩ K) : opsF P (o :: os) st K := by
  refine opsF_call hg ho ?_
  rw [hgv]
  refine ACalls.mono hc ?_
  rintro _ _ _ ⟨rfl, rfl, rfl⟩
  exact h
theorem opsF_cons_app {P : Program} {o : AOper} {os : List AOper} {st : St} {K : St → Prop} {sz bytes : Nat} {z : List V} {s x : AX} {f : Bool} {m len k : Nat} {cs new : List V} {X : V} (hg : guardOf st.T o.guard = some true) (ho : o.op = .app sz bytes z s x) (hs : s.val st.T = slB f m sz len)
    (hf : f = false → len = 0 ∧ cs = []) (hgm : f = true → ∃ post, aget st.H m = some (.row true (cs ++ post))) (hl : cs.length = len * sz) (hX : x.val st.T = X) (hx : cellsOf st.H sz X = some new) (hn : new.all V.one = true) (hk : lenS X = k) (h0 : k ≠ 0) (hb : (len + k) * bytes ≤ 140737488355328)
    (h : opsF P os ⟨putT st.T o.dst (.sl st.n 0 sz (len + k) false), st.D, st.n + 1, (st.n, .row true (cs ++ new)) :: (if f then adel st.H m else st.H)⟩ K) : opsF P (o :: os) st K := by
  refine opsF_cons_op hg (by rw [ho]; rfl) ?_ h
  rw [ho]
  simp only [evalOp]
  rw [hs, hX]
  exact evApp_B hf hgm hl hx hn hk h0 hb
/-- What a call answers: a new slice of these cells, nil if f is false. -/
def NewR (f : Bool) (sz len : Nat) (cs : List V) (n : Nat) (H : Heap) : V → Nat → Heap → Prop := fun v n' H' => v = slB f n sz len ∧ n' = n + 1 ∧ H' = rowB f n cs H
theorem ACalls.newR {P : Program} {g : FuncId} {args : List V} {n : Nat} {H : Heap} {K : V → Nat → Heap → Prop} (f : Bool) (sz len : Nat) (cs : List V) (hcs : NoId cs) (h : ACalls P g args n H K)
    (hk : ∀ v n' H', K v n' H' → (∀ b k, b < n → aget H b = some k → aget H' b = some k) ∧ ((f = false ∧ v = .nils) ∨ (f = true ∧ ∃ id full post, v = .sl id 0 sz len full ∧ n ≤ id ∧ aget H' id = some (.row true (cs ++ post))))) :
    ACalls P g args n H (NewR f sz len cs n H) := by
  refine .withIn h.1 fun hin _ => h.weakenR fun v n' H' hK => ?_
  obtain ⟨h1, h2⟩ := hk _ _ _ hK
  rcases h2 with ⟨rfl, rfl⟩ | ⟨rfl, id, full, post, rfl, hid, hget⟩
  · exact ⟨φ1 n n, slB false n sz len, n + 1, rowB false n cs H, φ1_lt (Nat.le_refl _), by omega, .nils, .one hin (by omega) (Nat.le_refl _) (by omega) (by simp) h1 (by simp), rfl, rfl, rfl⟩
  · exact ⟨φ1 n id, slB true n sz len, n + 1, rowB true n cs H, φ1_lt (Nat.le_refl _), by omega, .B1 (full := full) (by omega) rfl, .one hin (by omega) (Nat.le_refl _) (by omega) (fun _ => hid) h1 (fun _ => ⟨_, hget, hcs.bre _ _ _⟩), rfl, rfl, rfl⟩
theorem HIn.rowB {n m : Nat} {H : Heap} (h : HIn n H) (hn : n ≤ m) {f : Bool} {b : Nat} {cs : List V} (hb : b < m) (hcs : NoId cs) : HIn m (rowB f b cs H) := by
  cases f
  · exact h.mono hn
  · exact .cons' hb (hcs.bin m) (h.mono hn)
end Go.Proofs.Ytpgelghkjiejlaa
end
section
set_option maxRecDepth 4000
namespace Go.Proofs.Ytpgelghkjiejlaa
open Go
attribute [local irreducible] opsF drawF drawP
def clipV (f : Bool) (m len : Nat) : V := if f then .sl m 0 4 len true else .nils
theorem clip_pure (f : Bool) (m len n : Nat) (H : Heap) : Pure Try.prog 59 [slB f m 4 len] n H (clipV f m len) := by
  have hin : VIn n (slB f m 4 len) → VIn n (clipV f m len) := by
    cases f
    · exact fun h => h
    · intro h; cases h with | sl h => exact .sl h
  refine .withIn (ACalls.enters F59_ok trivial) fun _ ha => ?_
  refine Pure.of_drop ?_ (hin (ha _ (by simp)))
  cases f
  · refine .enter0 F59_ok (by simp [F59]) ?_
    refine .seq (.ops (opsF_all (by simp [slB]; rfl) ?_))
    refine .seq (.ops (opsF_all (by simp; rfl) ?_))
    refine .ret ?_
    simp [F59, clipV]
  · refine .enter0 F59_ok (by simp [F59]) ?_
    refine .seq (.ops (opsF_all (by simp [slB]; rfl) ?_))
    refine .seq (.ops (opsF_all (by simp; rfl) ?_))
    refine .ret ?_
    simp [F59, clipV]
/-- A slice of these rectangles, nil if f is false. -/
def SlF (H : Heap) (S : V) (l : List Rc) (f : Bool) : Prop := (f = false ∧ S = .nils ∧ l = []) ∨ (f = true ∧ ∃ id off full o pre post, S = .sl id off 4 l.length full ∧ aget H id = some (.row o (pre ++ (rcs l ++ post))) ∧ off = pre.length)
theorem SlF.slR {H : Heap} {S : V} {l : List Rc} {f : Bool} (h : SlF H S l f) : SlR H S l := by
  rcases h with ⟨_, h⟩ | ⟨_, h⟩
  · exact .inl h
  · exact .inr h
theorem rcs_one : ∀ l : List Rc, (rcs l).all V.one = true
  | [] => rfl
  | r :: l => by rw [rcs, List.all_append, rcs_one l]; rfl
theorem clone_ok (S : V) (l : List Rc) (f : Bool) (hl : l.length ≤ 1000000000) (n : Nat) (H : Heap) (hS : SlF H S l f) : ACalls Try.prog 89 [S] n H (NewR f 4 l.length (rcs l) n H) := by
  refine ACalls.newR (K := fun v n' H' => (∀ b k, b < n → aget H b = some k → aget H' b = some k) ∧ ((f = false ∧ v = .nils) ∨ (f = true ∧ ∃ id full post, v = .sl id 0 4 l.length full ∧ n ≤ id ∧ aget H' id = some (.row true (rcs l ++ post))))) f 4 l.length (rcs l) (.rcs l) ?_ (fun v n' H' h => h)
  refine .withIn (ACalls.enters F89_ok trivial) fun hin ha => ?_
  rcases hS with ⟨rfl, rfl, rfl⟩ | ⟨rfl, id, off, full, o, pre, post, rfl, hget, rfl⟩
  · refine .enter0 F89_ok (by simp [F89]) ?_
    refine .seq (.ops (opsF_all (by simp; rfl) ?_))
    refine .seq (.seq (.ops (opsF_all (by simp; rfl) ?_)))
    refine .cond (t := true) (by simp) (.seq (.ops (opsF_all (by simp; rfl) ?_)))
    refine .ret ?_
    simp [F89]
  · have hid := (hin id _ hget).1
    have hne : ¬ n = id := by omega
    have hcl : (rcs l).length = l.length * 4 := by rw [rcs_len]; omega
    have hcells : cellsOf ((n, Blk.row true []) :: H) 4 (.sl id pre.length 4 l.length full) = some (rcs l) := by
      simp [hne, hget, hcl, List.drop_append, List.take_append]
    have hone : (rcs l).all V.one = true := rcs_one l
    have hold : ∀ (u : Blk) b k, b < n → aget H b = some k → aget ((n, u) :: H) b = some k := fun u b k hb h => by
      rw [aget_cons, if_neg (by omega)]; exact h
    refine .enter0 F89_ok (by simp [F89]) ?_
    refine .seq (.ops (opsF_all (by simp; rfl) ?_))
    refine .seq (.seq (.ops (opsF_all (by simp; rfl) ?_)))
    refine .cond (t := false) (by simp) (.skip ?_)
    refine .seq (.ops (opsF_run 2 (by simp; rfl) ?_))
    by_cases hl0 : l.length = 0
    · have hnil : l = [] := List.eq_nil_of_length_eq_zero hl0
      subst hnil
      refine opsF_cons_op (v := .sl n 0 4 0 true) (n' := n + 1) (H' := (n, .row true []) :: H) rfl rfl ?_ ?_
      · simp only [evalOp, AX.val]
        simp only [List.length_nil] at hcells
        simp [-cellsOf, hcells, rcs]
      refine opsF_all (by simp; rfl) ?_
      refine .ret ?_
      simp [F89, rcs]
      intro b k hb h
      rw [if_neg (by omega)]; exact h
    · refine opsF_cons_op (v := .sl (n + 1) 0 4 l.length false) (n' := n + 2) (H' := (n + 1, .row true (rcs l)) :: (n, .row true []) :: H) rfl rfl ?_ ?_
      · simp only [evalOp, AX.val]
        simp [-cellsOf, hcells, hone, hl0]
        omega
      refine opsF_all (by simp; rfl) ?_
      refine .ret ?_
      simp [F89]
      intro b k hb h
      rw [if_neg (by omega), if_neg (by omega)]; exact h
theorem rects_ok (S : V) (l : List Rc) (f : Bool) (hl : l.length ≤ 1000000000) (n : Nat) (H : Heap) (hS : SlF H S l f) : ACalls Try.prog 72 [.ag [S]] n H (NewR f 4 l.length (rcs l) n H) := by
  refine ACalls.newR (K := fun v n' H' => (∀ b k, b < n → aget H b = some k → aget H' b = some k) ∧ ((f = false ∧ v = .nils) ∨ (f = true ∧ ∃ id full post, v = .sl id 0 4 l.length full ∧ n ≤ id ∧ aget H' id = some (.row true (rcs l ++ post))))) f 4 l.length (rcs l) (.rcs l) ?_ (fun v n' H' h => h)
  refine .withIn (ACalls.enters F72_ok trivial) fun hin ha => ?_
  have hK := hS.slR.known
  have hS' : SlF ((n, .row true [S]) :: H) S l f := by
    rcases hS with h | ⟨h1, id, off, full, o, pre, post, h2, h3, h4⟩
    · exact .inl h
    · have := (hin id _ h3).1
      exact .inr ⟨h1, id, off, full, o, pre, post, h2, by rw [aget_cons, if_neg (by omega)]; exact h3, h4⟩
  refine .enter0 F72_ok (by simp [F72]) ?_
  refine .seq (.ops (opsF_all (by simp [hK]; rfl) ?_))
  refine .seq (.ops (opsF_run 2 (by simp; rfl) ?_))
  refine opsF_cons_callX rfl rfl rfl (clone_ok S l f hl _ _ hS') ?_
  refine opsF_all (by simp; rfl) ?_
  refine .ret ?_
  simp [F72]
  refine ⟨fun b k hb h => ?_, ?_⟩
  · rw [aget_rowB_ne (by omega), aget_cons, if_neg (by omega)]; exact h
  · cases f with
    | false => exact .inl ⟨rfl, rfl⟩
    | true => exact .inr ⟨rfl, n + 1, .inl rfl, by omega, [], by simp [rowB]⟩
end Go.Proofs.Ytpgelghkjiejlaa
end
section
set_option maxRecDepth 4000
namespace Go.Proofs.Ytpgelghkjiejlaa
open Go
attribute [local irreducible] opsF drawF drawP
def alikeV (a b : Rc) : Bool := (a.x == b.x) && ((a.w == b.w) && (IntKind.i64.wrap (a.y + a.h) == b.y))
def alikeL : List Rc → List Rc → Bool
  | [], [] => true
  | a :: l, b :: m => alikeV a b && alikeL l m
  | _, _ => false
theorem alikeL_len : ∀ {l m : List Rc}, alikeL l m = true → l.length = m.length
  | [], [], _ => rfl
  | a :: l, b :: m, h => by
    simp only [alikeL, Bool.and_eq_true] at h
    simp [alikeL_len h.2]
  | [], _ :: _, h => by cases h
  | _ :: _, [], h => by cases h
theorem alikeL_ne {l m : List Rc} (h : l.length ≠ m.length) : alikeL l m = false := by
  cases hb : alikeL l m with
  | false => rfl
  | true => exact absurd (alikeL_len hb) h
theorem equal_ok (S T : V) (l m : List Rc) (hl : l.length ≤ 1000000000) (n : Nat) (H : Heap) (hS : SlR H S l) (hT : SlR H T m) : Pure Try.prog 70 [S, T, .fn 71 [] []] n H (.b (alikeL l m)) := by
  refine Pure.of_drop ?_ (.b _)
  refine .withIn (ACalls.enters F70_ok trivial) fun hin hargs => ?_
  have hSin := hS.vin hin
  have hTin := hT.vin hin
  have hL := hS.len
  have hM := hT.len
  refine .enter0 F70_ok (by simp [F70]) ?_
  refine .seq (.ops (opsF_all (by simp; rfl) ?_))
  by_cases hlm : l.length = m.length
  · refine .seq (.seq (.ops (opsF_run 4 (by simp [-evLen, hL, hM]; rfl) ?_)))
    refine opsF_cons_op (v := .b false) (n' := n) (H' := H) rfl rfl (by simp [hlm]) ?_
    refine opsF_all (by simp; rfl) ?_
    refine .cond (t := false) (by simp) (.skip ?_)
    refine .seq (.seq (.ops (opsF_all (by simp [-evLen, hL]; rfl) ?_)))
    refine .block (.loopR (φ₀ := _root_.id) (k₀ := l.length) (s₀ := ⟨[(1, T), (2, .fn 71 [] []), (15, S), (16, .i .i64 l.length), (17, .i .i64 0)], [], n, H⟩)
      (fun k st => ∃ i : Nat, i ≤ l.length ∧ k = l.length - i ∧ alikeL (l.drop i) (m.drop i) = alikeL l m ∧ st = ⟨[(1, T), (2, .fn 71 [] []), (15, S), (16, .i .i64 l.length), (17, .i .i64 i)], [], n, H⟩)
      ⟨0, by omega, by omega, rfl, rfl⟩ ⟨TReL.spec ?_, rfl, by simp, hin.self⟩ (fun b hb => rfl) (fun k st ⟨i, h1, h2, h3, h4⟩ => by simp [h4]) ?_)
    · simp only [TReL, and_true]
      simp
      exact ⟨.id_of hTin, .fn rfl (by simp) rfl (by simp), .id_of hSin, .i _ _, .i _ _⟩
    rintro k st ⟨i, h1, rfl, hh, rfl⟩
    by_cases hi : i < l.length
    · obtain ⟨id, q, o, cs, hA⟩ := hS.at hi
      obtain ⟨id2, q2, o2, cs2, hB⟩ := hT.at (show i < m.length by omega)
      have a1 := hA.ias
      have a2 := hA.get
      have a3 := hA.len
      have a4 := hA.at4
      have b1 := hB.ias
      have b2 := hB.get
      have b3 := hB.len
      have b4 := hB.at4
      have ne1 : ¬ n = id := by have := (hin id _ a2).1; omega
      have ne2 : ¬ n = id2 := by have := (hin id2 _ b2).1; omega
      have hi' : (i : Int) < l.length := by omega
      have hwi : IntKind.i64.wrap ((i : Int) + 1) = ((i + 1 : Nat) : Int) := IntWalk.i64_in _ (by omega)
      have hstep : (alikeV l[i] (m[i]'(by omega)) && alikeL (l.drop (i + 1)) (m.drop (i + 1))) = alikeL l m := by
        rw [← hh, List.drop_eq_getElem_cons hi, List.drop_eq_getElem_cons (show i < m.length by omega)]
        rfl
      have hcall := fun n H => alike1_pure l[i] (m[i]'(by omega)) n H
      have hav : ((l[i].x == (m[i]'(by omega)).x) && ((l[i].w == (m[i]'(by omega)).w) && (IntKind.i64.wrap (l[i].y + l[i].h) == (m[i]'(by omega)).y))) = alikeV l[i] (m[i]'(by omega)) := rfl
      rw [hav] at hcall
      generalize alikeV l[i] (m[i]'(by omega)) = c at hstep hcall
      generalize l[i] = r at a4 hcall
      generalize (m[i]'(by omega)) = r2 at b4 hcall
      refine .seq (.ops (opsF_all (by simp [hi']; rfl) ?_))
      refine .seq (.cond (t := true) (by simp) (.skip ?_))
      refine .seq (.block (.seq (.ops (opsF_run 2 (by simp [-evIas, a1]; rfl) ?_))))
      refine opsF_all (by simp [ne1, a2, a3, a4, rc4, setAll]; rfl) ?_
      refine .seq (.ops (opsF_run 3 (by simp [-evIas, b1]; rfl) ?_))
      refine opsF_all (by simp [ne2, b2, b3, b4, rc4, setAll]; rfl) ?_
      refine .seq (.ops (opsF_run 3 (by simp; rfl) ?_))
      refine opsF_cons_call rfl rfl rfl (v := .b c) (hcall _ _) ?_
      cases c with
      | true =>
        refine opsF_all (by simp; rfl) ?_
        refine .cond (t := false) (by simp) (.skip ?_)
        refine AWc.forget (T0 := [(1, T), (2, .fn 71 [] []), (15, S), (16, .i .i64 l.length), (17, .i .i64 i)]) (by simp) ?_
        refine .ops (opsF_all (by simp [hwi]; rfl) ?_)
        refine ⟨l.length - (i + 1), _root_.id, _, by omega, ⟨i + 1, by omega, rfl, by simpa using hstep, rfl⟩, fun _ _ => rfl, ⟨TReL.spec ?_, rfl, by simp, .same hin fun b hb => ?_⟩⟩
        · simp only [TReL, and_true]
          simp
          exact ⟨.id_of hTin, .fn rfl (by simp) rfl (by simp), .id_of hSin, .i _ _, .i _ _⟩
        · simp at hb
          simp only [aget_cons]
          rw [if_neg (by omega), if_neg (by omega)]
      | false =>
        refine opsF_all (by simp; rfl) ?_
        refine .cond (t := true) (by simp) (.seq (.ops (opsF_all (by simp; rfl) ?_)))
        refine .ret ?_
        simp [F70, ← hstep]
        intro b k hb
        have := (hin b k hb).1
        rw [if_neg (by omega), if_neg (by omega)]
        exact hb
    · obtain rfl : i = l.length := by omega
      refine .seq (.ops (opsF_all (by simp; rfl) ?_))
      refine .seq (.cond (t := false) (by simp) (.exit ?_))
      refine AWc.seq (.ops (opsF_all (by simp; rfl) ?_))
      refine .ret ?_
      rw [hlm, List.drop_length, ← hlm, List.drop_length] at hh
      simp [F70, ← hh, alikeL]
  · have hne : ((l.length : Int) != (m.length : Int)) = true := by simp; omega
    refine .seq (.seq (.ops (opsF_run 4 (by simp [-evLen, hL, hM]; rfl) ?_)))
    refine opsF_cons_op (v := .b true) (n' := n) (H' := H) rfl rfl (by simp; omega) ?_
    refine opsF_all (by simp; rfl) ?_
    refine .cond (t := true) (by simp) (.seq (.ops (opsF_all (by simp; rfl) ?_)))
    refine .ret ?_
    simp [F70, alikeL_ne hlm]
theorem alike_ok (S T : V) (l m : List Rc) (hl : l.length ≤ 1000000000) (n : Nat) (H : Heap) (hS : SlR H S l) (hT : SlR H T m) : Pure Try.prog 58 [S, T] n H (.b (!l.isEmpty && alikeL l m)) := by
  refine Pure.of_drop ?_ (.b _)
  have hL := hS.len
  have he := fun n' H' h1 h2 => equal_ok S T l m hl n' H' h1 h2
  refine .enter0 F58_ok (by simp [F58]) ?_
  refine .seq (.ops (opsF_all (by simp; rfl) ?_))
  cases l with
  | nil =>
    refine .seq (.ops (opsF_all (by simp [-evLen, hL]; rfl) ?_))
    refine .ret ?_
    simp [F58]
  | cons r l =>
    generalize alikeL (r :: l) m = c at he ⊢
    have hpos : (0 : Int) < ((r :: l).length : Int) := by simp
    generalize ((r :: l).length : Int) = q at hL hpos
    refine .seq (.ops (opsF_run 6 (by simp [-evLen, hL, hpos]; rfl) ?_))
    refine opsF_cons_call rfl rfl rfl (v := .b c) (he _ _ hS hT) ?_
    refine opsF_all (by simp; rfl) ?_
    refine .ret ?_
    simp [F58]
end Go.Proofs.Ytpgelghkjiejlaa
end
section
set_option maxRecDepth 4000
namespace Go.Proofs.Ytpgelghkjiejlaa
open Go
attribute [local irreducible] opsF drawF drawP
def goneV (y : Int) (r : Rc) : Bool := decide (IntKind.i64.wrap (r.y + r.h) ≤ y)
def idxL (p : Rc → Bool) : List Rc → Int → Int
  | [], _ => -1
  | r :: l, k => if p r then k else idxL p l (k + 1)
theorem index_ok (S : V) (l : List Rc) (c : Nat) (y : Int) (o0 : Bool) (hl : l.length ≤ 1000000000) (n : Nat) (H : Heap) (hS : SlR H S l) (hc : aget H c = some (.row o0 [.i .i64 y])) : Pure Try.prog 68 [S, .fn 55 [] [.p c 0]] n H (.i .i64 (idxL (goneV y) l 0)) := by
  refine Pure.of_drop ?_ (.i _ _)
  refine .withIn (ACalls.enters F68_ok trivial) fun hin hargs => ?_
  have hSin := hS.vin hin
  have hL := hS.len
  have hcn := (hin c _ hc).1
  have hfn : VRe _root_.id n (.fn 55 [] [.p c 0]) (.fn 55 [] [.p c 0]) := .id_of (.fn (by simp) (by simpa using hcn))
  refine .enter0 F68_ok (by simp [F68]) ?_
  refine .seq (.ops (opsF_all (by simp; rfl) ?_))
  refine .seq (.seq (.ops (opsF_all (by simp [-evLen, hL]; rfl) ?_)))
  refine .block (.loopR (φ₀ := _root_.id) (k₀ := l.length) (s₀ := ⟨[(0, S), (1, .fn 55 [] [.p c 0]), (7, .i .i64 l.length), (8, .i .i64 0)], [], n, H⟩)
    (fun k st => ∃ i : Nat, i ≤ l.length ∧ k = l.length - i ∧ idxL (goneV y) (l.drop i) i = idxL (goneV y) l 0 ∧ st = ⟨[(0, S), (1, .fn 55 [] [.p c 0]), (7, .i .i64 l.length), (8, .i .i64 i)], [], n, H⟩)
    ⟨0, by omega, by omega, rfl, rfl⟩ ⟨TReL.spec ?_, rfl, by simp, hin.self⟩ (fun b hb => rfl) (fun k st ⟨i, h1, h2, h3, h4⟩ => by rw [h4]; exact Nat.le_refl _) ?_)
  · simp only [TReL, and_true]
    simp
    exact ⟨.id_of hSin, hfn, .i _ _, .i _ _⟩
  rintro k st ⟨i, h1, rfl, hh, rfl⟩
  by_cases hi : i < l.length
  · obtain ⟨id, q, o, cs, hA⟩ := hS.at hi
    have a1 := hA.ias
    have a2 := hA.get
    have a3 := hA.len
    have a4 := hA.at4
    have hi' : (i : Int) < l.length := by omega
    have hwi : IntKind.i64.wrap ((i : Int) + 1) = ((i + 1 : Nat) : Int) := IntWalk.i64_in _ (by omega)
    have hstep : (if goneV y l[i] then (i : Int) else idxL (goneV y) (l.drop (i + 1)) ((i : Int) + 1)) = idxL (goneV y) l 0 := by
      rw [← hh, List.drop_eq_getElem_cons hi]
      rfl
    have hcall := fun n H h => gone_pure l[i] c y o0 n H h
    have hav : decide (IntKind.i64.wrap (l[i].y + l[i].h) ≤ y) = goneV y l[i] := rfl
    rw [hav] at hcall
    generalize goneV y l[i] = g at hstep hcall
    generalize l[i] = r at a4 hcall
    refine .seq (.ops (opsF_all (by simp [hi']; rfl) ?_))
    refine .seq (.cond (t := true) (by simp) (.skip ?_))
    refine .seq (.block (.seq (.ops (opsF_all (by simp; rfl) ?_))))
    refine .seq (.ops (opsF_run 3 (by simp; rfl) ?_))
    refine opsF_run 1 (by simp [-evIas, a1]; rfl) ?_
    refine opsF_run 1 (by simp [a2, a3, a4, rc4]; rfl) ?_
    refine opsF_cons_call rfl rfl rfl (v := .b g) (hcall _ _ hc) ?_
    refine opsF_nil ?_
    cases g with
    | true =>
      refine .cond (t := true) (by simp) (.seq (.ops (opsF_all (by simp; rfl) ?_)))
      refine .ret ?_
      simp at hstep
      simp [F68, ← hstep]
    | false =>
      refine .cond (t := false) (by simp) (.skip ?_)
      refine AWc.forget (T0 := [(0, S), (1, .fn 55 [] [.p c 0]), (7, .i .i64 l.length), (8, .i .i64 i)]) (by simp) ?_
      refine .ops (opsF_all (by simp [hwi]; rfl) ?_)
      refine ⟨l.length - (i + 1), _root_.id, _, by omega, ⟨i + 1, by omega, rfl, by simpa using hstep, rfl⟩, fun _ _ => rfl, ⟨TReL.spec ?_, rfl, by simp, .same hin fun b hb => rfl⟩⟩
      simp only [TReL, and_true]
      simp
      exact ⟨.id_of hSin, hfn, .i _ _, .i _ _⟩
  · obtain rfl : i = l.length := by omega
    refine .seq (.ops (opsF_all (by simp; rfl) ?_))
    refine .seq (.cond (t := false) (by simp) (.exit ?_))
    refine AWc.seq (.ops (opsF_all (by simp; rfl) ?_))
    refine .ret ?_
    rw [List.drop_length] at hh
    simp [F68, ← hh, idxL]
theorem idxL_none {p : Rc → Bool} : ∀ {l : List Rc} {k : Int}, 0 ≤ k → idxL p l k = -1 → l.filter (fun r => !p r) = l
  | [], _, _, _ => rfl
  | r :: l, k, h0, h => by
    unfold idxL at h
    split at h
    · omega
    · rename_i hp
      rw [List.filter_cons, if_pos (by simpa using hp), idxL_none (by omega) h]
theorem idxL_some {p : Rc → Bool} : ∀ {l : List Rc} {k : Int}, 0 ≤ k → idxL p l k ≠ -1 → ∃ i : Nat, idxL p l k = k + i ∧ ∃ h : i < l.length, p l[i] = true ∧ (l.take i).filter (fun r => !p r) = l.take i
  | [], _, _, h => absurd rfl h
  | r :: l, k, h0, h => by
    unfold idxL at h ⊢
    split
    · rename_i hp
      exact ⟨0, by simp, by simp, hp, by simp⟩
    · rename_i hp
      rw [if_neg hp] at h
      obtain ⟨i, h1, h2, h3, h4⟩ := idxL_some (k := k + 1) (by omega) h
      refine ⟨i + 1, by omega, by simpa using h2, by simpa using h3, ?_⟩
      rw [List.take_succ_cons, List.filter_cons, if_pos (by simpa using hp), h4]
end Go.Proofs.Ytpgelghkjiejlaa
end
section
set_option maxRecDepth 4000
namespace Go.Proofs.Ytpgelghkjiejlaa
open Go
attribute [local irreducible] opsF drawF drawP
def keepV (y : Int) (l : List Rc) : List Rc := l.filter fun r => !goneV y r
theorem rc4_len (r : Rc) : (rc4 r).length = 4 := rfl
theorem NoId.rc4 (r : Rc) : NoId (rc4 r) := by simp [NoId, Go.Proofs.Ytpgelghkjiejlaa.rc4]
theorem delete_ok (f : Bool) (m : Nat) (l : List Rc) (post : List V) (hpost : NoId post) (c : Nat) (y : Int) (o0 : Bool) (hl : l.length ≤ 1000000000) (n : Nat) (H : Heap) (hf : f = false → l = []) (hm : f = true → aget H m = some (.row true (rcs l ++ post))) (hmc : f = true → ¬ m = c) (hc : aget H c = some (.row o0 [.i .i64 y])) :
    ACalls Try.prog 54 [slB f m 4 l.length, .fn 55 [] [.p c 0]] n H fun v n' H' => v = slB f m 4 (keepV y l).length ∧ n' = n ∧ H' = (if f then aput H m (.row true (rcs (keepV y l))) else H) := by
  have hSl : SlR H (slB f m 4 l.length) l := .ofB hf fun h => ⟨true, post, hm h⟩
  have hidx := index_ok (slB f m 4 l.length) l c y o0 hl n H hSl hc
  refine .withIn (ACalls.enters F54_ok trivial) fun hin hargs => ?_
  have hSin := hSl.vin hin
  by_cases hnone : idxL (goneV y) l 0 = -1
  · have hk : keepV y l = l := idxL_none (Int.le_refl _) hnone
    rw [hk]
    rw [hnone] at hidx
    refine ACalls.weakenR (K := fun v n' H' => v = slB f m 4 l.length ∧ n' = n ∧ H' = H) ?_ ?_
    · refine .enter0 F54_ok (by simp [F54]) ?_
      refine .seq (.ops (opsF_all (by simp; rfl) ?_))
      refine .seq (.ops (opsF_run 2 (by simp; rfl) ?_))
      refine opsF_cons_call rfl rfl rfl (v := .i .i64 (-1)) hidx ?_
      refine opsF_all (by simp; rfl) ?_
      refine .seq (.seq (.ops (opsF_all (by simp; rfl) ?_)))
      refine .cond (t := true) (by simp) (.seq (.ops (opsF_all (by simp; rfl) ?_)))
      refine .ret ?_
      simp [F54]
    · rintro v n' H' ⟨rfl, rfl, rfl⟩
      refine ⟨_root_.id, _, n', _, fun _ _ => rfl, Nat.le_refl _, .id_of hSin, ⟨fun b k hb => ?_, fun _ _ _ _ _ _ h => h⟩, rfl, rfl, rfl⟩
      cases f with
      | false => exact ⟨(hin b k hb).1, k, hb, .refl (hin b k hb).2⟩
      | true =>
        simp only [if_true] at hb
        rw [aget_put] at hb
        split at hb
        · rename_i e
          cases hb
          subst e
          exact ⟨(hin m _ (hm rfl)).1, _, hm rfl, (NoId.rcs l).bre _ _ _⟩
        · exact ⟨(hin b k hb).1, k, hb, .refl (hin b k hb).2⟩
  · obtain ⟨i0, hi0, hi1, hi2, hi3⟩ := idxL_some (Int.le_refl _) hnone
    cases f with
    | false => rw [hf rfl] at hi1; simp at hi1
    | true =>
    have hm := hm rfl
    have hmc := hmc rfl
    have hmn := (hin m _ hm).1
    have hcn := (hin c _ hc).1
    rw [hi0] at hidx
    simp only [if_true, slB_t] at hidx ⊢
    rw [Int.zero_add] at hidx
    have hcl : (rcs l).length = 4 * l.length := rcs_len l
    have hwi : ∀ j : Nat, j ≤ l.length → IntKind.i64.wrap ((j : Int) + 1) = ((j + 1 : Nat) : Int) := fun j hj => IntWalk.i64_in _ (by omega)
    have hfn : ∀ n', n ≤ n' → VRe _root_.id n' (.fn 55 [] [.p c 0]) (.fn 55 [] [.p c 0]) := fun n' h => .id_of (.fn (by simp) (by intro x hx; rw [List.mem_singleton.1 hx]; exact .p (by omega)))
    refine ACalls.weakenR (K := fun v n' H' => v = .sl m 0 4 (keepV y l).length false ∧ n ≤ n' ∧ ∃ rest, ∀ b, b < n → aget H' b = aget (aput H m (.row true (rcs (keepV y l) ++ rest))) b) ?_ ?_
    · refine .enter0 F54_ok (by simp [F54]) ?_
      refine .seq (.ops (opsF_all (by simp; rfl) ?_))
      refine .seq (.ops (opsF_run 2 (by simp; rfl) ?_))
      refine opsF_cons_call rfl rfl rfl (v := .i .i64 i0) hidx ?_
      refine opsF_all (by simp; rfl) ?_
      have hne : ((i0 : Int) == -1) = false := by simp
      refine .seq (.seq (.ops (opsF_all (by simp; rfl) ?_)))
      refine .cond (t := false) (by simp [hne]) (.skip ?_)
      refine .seq (.seq (.ops (opsF_all (by simp [hwi i0 (by omega)]; rfl) ?_)))
      have hH : ∀ cs : List V, NoId cs → HIn n (aput H m (.row true cs)) := fun cs hcs b k hb => by
        rw [aget_put] at hb
        split at hb
        · rename_i e; cases hb; exact ⟨by omega, hcs.bin n⟩
        · exact hin b k hb
      have hno : ∀ (K : List Rc) (mid : List V) (j : Nat), NoId mid → NoId (rcs K ++ (mid ++ (rcs (l.drop j) ++ post))) := fun K mid j h => (NoId.rcs K).append (h.append ((NoId.rcs _).append hpost))
      have hrow0 : rcs l ++ post = rcs (l.take i0) ++ (rc4 l[i0] ++ (rcs (l.drop (i0 + 1)) ++ post)) := by
        have e : l = l.take i0 ++ (l[i0] :: l.drop (i0 + 1)) := by rw [← List.drop_eq_getElem_cons hi1, List.take_append_drop]
        conv => lhs; rw [e, rcs_append, rcs]
        simp [List.append_assoc]
      have hk0 : keepV y (l.take (i0 + 1)) = l.take i0 := by
        unfold keepV
        rw [List.take_add_one, List.getElem?_eq_getElem hi1, List.filter_append, hi3]
        simp [hi2]
      refine .block (.loopR (φ₀ := _root_.id) (k₀ := l.length - (i0 + 1)) (s₀ := ⟨[(0, .sl m 0 4 l.length false), (1, .fn 55 [] [.p c 0]), (5, .i .i64 i0), (6, .i .i64 ((i0 + 1 : Nat) : Int))], [], n, aput H m (.row true (rcs (l.take i0) ++ (rc4 l[i0] ++ (rcs (l.drop (i0 + 1)) ++ post))))⟩)
        (fun k st => ∃ (j : Nat) (K : List Rc) (mid : List V), j ≤ l.length ∧ k = l.length - j ∧ K = keepV y (l.take j) ∧ K.length < j ∧ mid.length = 4 * (j - K.length) ∧ NoId mid ∧ st = ⟨[(0, .sl m 0 4 l.length false), (1, .fn 55 [] [.p c 0]), (5, .i .i64 K.length), (6, .i .i64 (j : Int))], [], n, aput H m (.row true (rcs K ++ (mid ++ (rcs (l.drop j) ++ post))))⟩)
        ⟨i0 + 1, l.take i0, rc4 l[i0], by omega, rfl, hk0.symm, by simp; omega, by simp [rc4_len]; omega, NoId.rc4 _, by simp; omega⟩ ⟨TReL.spec ?_, rfl, by simp, .same (hH _ (hno _ _ _ (NoId.rc4 _))) fun b hb => ?_⟩ (fun b hb => rfl) (fun k st ⟨j, K, mid, h1, h2, h3, h4, h5, h6, h7⟩ => by rw [h7]; exact Nat.le_refl _) ?_)
      · simp only [TReL, and_true]
        simp
        exact ⟨.id_of (.sl hmn), hfn n (Nat.le_refl _), .i _ _, .i _ _⟩
      · rw [aget_put]
        split
        · rename_i e; subst e; rw [hm, hrow0]
        · rfl
      rintro k st ⟨j, K, mid, h1, rfl, hK, h4, h5, h6, rfl⟩
      have hlen : (rcs K).length + mid.length = j * 4 := by rw [rcs_len]; omega
      by_cases hj : j < l.length
      · have hdrop : (rcs K ++ (mid ++ (rcs (l.drop j) ++ post))).drop (j * 4) = rcs (l.drop j) ++ post := by
          rw [← List.append_assoc, List.drop_append, List.drop_of_length_le (by simp; omega), List.nil_append]
          simp [hlen]
        have hat : ((rcs K ++ (mid ++ (rcs (l.drop j) ++ post))).drop (j * 4)).take 4 = rc4 l[j] := by
          rw [hdrop, List.drop_eq_getElem_cons hj]
          simp [rcs, rc4]
        have hfull : j * 4 + 4 ≤ (rcs K ++ (mid ++ (rcs (l.drop j) ++ post))).length := by
          rw [List.drop_eq_getElem_cons hj]
          simp [rcs, rc4]
          omega
        have hset : setAll (rcs K ++ (mid ++ (rcs (l.drop j) ++ post))) (K.length * 4) (rc4 l[j]) = rcs (K ++ [l[j]]) ++ ((mid ++ rc4 l[j]).drop 4 ++ (rcs (l.drop (j + 1)) ++ post)) := by
          have e1 : K.length * 4 = (rcs K).length := by rw [rcs_len]; omega
          rw [List.drop_eq_getElem_cons hj, rcs, rcs_append, setAll, e1, List.take_left', ← List.drop_drop, List.drop_left']
          · have e2 : mid ++ (rc4 l[j] ++ rcs (l.drop (j + 1)) ++ post) = (mid ++ rc4 l[j]) ++ (rcs (l.drop (j + 1)) ++ post) := by simp
            rw [e2, rc4_len, List.drop_append_of_le_length (by simp [rc4_len])]
            simp [rcs]
          · rfl
          · rfl
        have hkeep : keepV y (l.take (j + 1)) = if goneV y l[j] then K else K ++ [l[j]] := by
          rw [hK]
          unfold keepV
          rw [List.take_add_one, List.getElem?_eq_getElem hj, List.filter_append]
          by_cases hg : goneV y l[j] <;> simp [hg]
        have hcall := fun n H h => gone_pure l[j] c y o0 n H h
        have hav : decide (IntKind.i64.wrap (l[j].y + l[j].h) ≤ y) = goneV y l[j] := rfl
        rw [hav] at hcall
        have hj' : (j : Int) < l.length := by omega
        have hwj := hwi j (by omega)
        have hwk := hwi K.length (by omega)
        have hno1 := hno K mid j h6
        have hrc := NoId.rc4 l[j]
        have hmid2 : (mid ++ rc4 l[j]).length = 4 * (j + 1 - K.length) := by simp [rc4_len]; omega
        have hmr : mid ++ (rcs (l.drop j) ++ post) = (mid ++ rc4 l[j]) ++ (rcs (l.drop (j + 1)) ++ post) := by rw [List.drop_eq_getElem_cons hj, rcs]; simp
        generalize hcs : rcs K ++ (mid ++ (rcs (l.drop j) ++ post)) = cs at hat hfull hset hno1
        have hcs2 : cs = rcs K ++ ((mid ++ rc4 l[j]) ++ (rcs (l.drop (j + 1)) ++ post)) := by rw [← hcs, hmr]
        generalize hr : l[j] = r at hat hset hkeep hcall hrc hmid2 hcs2
        generalize hg : goneV y r = g at hkeep hcall
        have hnm : ¬ n = m := by omega
        have hnc : ¬ n = c := by omega
        refine .seq (.seq (.ops (opsF_all (by simp [hj']; rfl) ?_)))
        refine .cond (t := true) (by simp) (.skip ?_)
        refine .seq (.block (.seq (.ops (opsF_run 3 (by simp [hj']; rfl) ?_))))
        refine opsF_all (by simp [aget_put, hfull, hat, rc4, setAll]; rfl) ?_
        refine .seq (.ops (opsF_run 2 (by simp; rfl) ?_))
        refine opsF_cons_call rfl rfl rfl (v := .b g) (hcall _ _ (by simp [hnc, aget_put, hmc, hc])) ?_
        cases g with
        | true =>
          refine opsF_all (by simp; rfl) ?_
          refine .cond (t := false) (by simp) (.skip ?_)
          refine AWc.forget (T0 := [(0, .sl m 0 4 l.length false), (1, .fn 55 [] [.p c 0]), (5, .i .i64 K.length), (6, .i .i64 (j : Int))]) (by simp) ?_
          refine .ops (opsF_all (by simp [hwj]; rfl) ?_)
          refine ⟨l.length - (j + 1), _root_.id, ⟨_, [], n, aput H m (.row true cs)⟩, by omega, ⟨j + 1, K, mid ++ rc4 r, by omega, rfl, by rw [hkeep]; rfl, by omega, hmid2, h6.append hrc, by rw [← hcs2]⟩, fun _ _ => rfl, ⟨TReL.spec ?_, rfl, by simp, .same (hH _ hno1) fun b hb => ?_⟩⟩
          · simp only [TReL, and_true]
            simp
            exact ⟨.id_of (.sl hmn), hfn n (Nat.le_refl _), .i _ _, .i _ _⟩
          · simp at hb
            rw [aget_cons, if_neg (by omega)]
        | false =>
          have hKl : (K.length : Int) < l.length := by omega
          have hKf : K.length * 4 + 4 ≤ cs.length := by omega
          refine opsF_all (by simp; rfl) ?_
          refine .cond (t := true) (by simp) (.seq (.ops (opsF_run 4 (by simp [hKl]; rfl) ?_)))
          refine opsF_cons_op (v := .un) (n' := n + 1) (H' := (n, .row true (rc4 r)) :: aput (aput H m (.row true cs)) m (.row true (setAll cs (K.length * 4) (rc4 r)))) rfl rfl ?_ ?_
          · simp [aget_put, hnm, rc4, hKf]
          refine opsF_nil ?_
          refine AWc.forget (T0 := [(0, .sl m 0 4 l.length false), (1, .fn 55 [] [.p c 0]), (5, .i .i64 K.length), (6, .i .i64 (j : Int))]) (by simp) ?_
          refine .ops (opsF_all (by simp [hwk]; rfl) ?_)
          refine .ops (opsF_all (by simp [hwj]; rfl) ?_)
          refine ⟨l.length - (j + 1), _root_.id, ⟨[(0, .sl m 0 4 l.length false), (1, .fn 55 [] [.p c 0]), (5, .i .i64 (K.length + 1 : Nat)), (6, .i .i64 ((j + 1 : Nat) : Int))], [], n, aput H m (.row true (setAll cs (K.length * 4) (rc4 r)))⟩, by omega, ⟨j + 1, K ++ [r], (mid ++ rc4 r).drop 4, by omega, rfl, by rw [hkeep]; rfl, by simp; omega, by rw [List.length_drop, hmid2]; simp; omega, fun v hv => (h6.append hrc) v (List.mem_of_mem_drop hv), by rw [hset]; simp⟩, fun _ _ => rfl, ⟨TReL.spec ?_, rfl, by simp, .same (hH _ ?_) fun b hb => ?_⟩⟩
          · simp only [TReL, and_true]
            simp
            exact ⟨.id_of (.sl hmn), hfn n (Nat.le_refl _), .i _ _, .i _ _⟩
          · rw [hset]
            exact (NoId.rcs _).append (NoId.append (fun v hv => (h6.append hrc) v (List.mem_of_mem_drop hv)) ((NoId.rcs _).append hpost))
          · simp at hb
            rw [aget_cons, if_neg (by omega)]
            by_cases e : m = b <;> simp [aget_put, e]
      · obtain rfl : j = l.length := by omega
        rw [List.take_length] at hK
        subst hK
        have hKl : (keepV y l).length ≤ l.length := by omega
        have hsub : ¬ l.length - (keepV y l).length = 0 := by omega
        generalize hcs : rcs (keepV y l) ++ (mid ++ (rcs (l.drop l.length) ++ post)) = cs
        have hcsl : (keepV y l).length * 4 + (l.length - (keepV y l).length) * 4 ≤ cs.length := by rw [← hcs]; simp [rcs_len]; omega
        have hset : ∃ rest, setAll cs ((keepV y l).length * 4) (zrep [.i .i64 0, .i .i64 0, .i .i64 0, .i .i64 0] (l.length - (keepV y l).length)) = rcs (keepV y l) ++ rest := by
          refine ⟨(setAll cs ((keepV y l).length * 4) (zrep [.i .i64 0, .i .i64 0, .i .i64 0, .i .i64 0] (l.length - (keepV y l).length))).drop ((keepV y l).length * 4), ?_⟩
          have e1 : (keepV y l).length * 4 = (rcs (keepV y l)).length := by rw [rcs_len]; omega
          conv => lhs; rw [← List.take_append_drop ((keepV y l).length * 4) (setAll cs ((keepV y l).length * 4) (zrep [.i .i64 0, .i .i64 0, .i .i64 0, .i .i64 0] (l.length - (keepV y l).length)))]
          congr 1
          rw [setAll, ← hcs, e1]
          simp
        obtain ⟨rest, hset⟩ := hset
        refine .seq (.seq (.ops (opsF_all (by simp; rfl) ?_)))
        refine .cond (t := false) (by simp) (.exit ?_)
        refine AWc.seq (.ops (opsF_run 3 (by simp [hKl]; rfl) ?_))
        refine opsF_cons_op (v := .tu []) (n' := n) (H' := aput (aput H m (.row true cs)) m (.row true (rcs (keepV y l) ++ rest))) rfl rfl ?_ ?_
        · simp only [evalOp, AX.val]
          simp only [← hset]
          simp [evClr, hsub, aget_put, hcsl]
        refine opsF_nil ?_
        refine AWc.seq (.ops (opsF_all (by simp [hKl]; rfl) ?_))
        refine .ret ?_
        simp [F54]
        refine ⟨rest, fun b hb => ?_⟩
        by_cases e : m = b <;> simp [aget_put, e]
    · rintro v n' H' ⟨rfl, hn', rest, hH'⟩
      refine ⟨_root_.id, _, n, _, fun _ _ => rfl, Nat.le_refl _, .id_of (.sl hmn), ⟨fun b k hb => ?_, fun _ _ _ _ _ _ h => h⟩, rfl, rfl, rfl⟩
      rw [aget_put] at hb
      split at hb
      · rename_i e
        cases hb
        subst e
        exact ⟨hmn, .row true (rcs (keepV y l) ++ rest), by rw [_root_.id, hH' _ hmn, aget_put, if_pos rfl], (NoId.rcs _).bre _ _ _⟩
      · rename_i e
        have hbn := (hin b k hb).1
        exact ⟨hbn, k, by rw [_root_.id, hH' _ hbn, aget_put, if_neg e]; exact hb, .refl (hin b k hb).2⟩
end Go.Proofs.Ytpgelghkjiejlaa
end
section
namespace Go.Proofs.Ytpgelghkjiejlaa
open Go
section grown
variable {pc : PrepC} {ρ : Ren} {n : Nat} {H : Heap} {w w' : World}
theorem Sim.grown (s : Sim pc ρ n H w) (h : ∀ c, c < w.heap.size → w'.heap[c]? = w.heap[c]?) (hs : w.heap.size ≤ w'.heap.size) : Sim pc ρ n H w' :=
  ⟨fun b x hb => ⟨(s.sup b x hb).1, Nat.lt_of_lt_of_le (s.sup b x hb).2 hs⟩, fun b k hb => let ⟨c, d, z, e, r⟩ := s.blk b k hb; ⟨c, d, z, e, r.mono (.refl _) (h c (s.sup b _ e).2)⟩, s.inj⟩
theorem Ext.grown (h : ∀ c, c < w.heap.size → w'.heap[c]? = w.heap[c]?) (hs : w.heap.size ≤ w'.heap.size) (h1 : w'.os = w.os) (h2 : w'.tape = w.tape) (h3 : w'.output = w.output) (h4 : w.drawn ≤ w'.drawn) : Ext ρ n H w ρ n H w' :=
  ⟨Nat.le_refl _, .refl _, fun _ _ _ h => h, h1, h2, h3, h4, hs, fun c hc _ => h c hc, fun _ h => .inl h⟩
/-- A function that leaves what stood: the world has grown, and no more. -/
theorem Ext.grow {ρ' : Ren} (s : Ext ρ 0 [] w ρ' n H w') : ∃ q os, w' = Sort.grow (w.drewN q) os := by
  have hfr : ∀ c, c < w.heap.size → w'.heap[c]? = w.heap[c]? := fun c hc => s.frame c hc fun ⟨b, k, x, g, _⟩ => by simp at g
  refine ⟨w'.drawn - w.drawn, w'.heap.extract w.heap.size w'.heap.size, ?_⟩
  have h1 := s.os
  have h2 := s.tape
  have h3 := s.output
  have h4 := s.drawn
  have h5 := s.size
  have h6 : w'.heap = w.heap ++ w'.heap.extract w.heap.size w'.heap.size := by
    apply Array.ext_getElem?
    intro c
    by_cases hc : c < w.heap.size
    · rw [Array.getElem?_append_left hc, hfr c hc]
    · rw [Array.getElem?_append_right (by omega), Array.getElem?_extract]
      by_cases hc' : c < w'.heap.size
      · rw [if_pos (by omega)]
        congr 1
        omega
      · rw [if_neg (by omega), Array.getElem?_eq_none (by omega)]
  cases w with
  | mk heap tape drawn os output =>
  cases w' with
  | mk heap' tape' drawn' os' output' =>
  simp only at h1 h2 h3 h4 h6
  subst h1 h2 h3
  simp only [Sort.grow, World.drewN, World.mk.injEq, and_true, true_and]
  exact ⟨h6, by omega⟩
end grown
end Go.Proofs.Ytpgelghkjiejlaa
end
