/- TextPlaces and TextFinds over the contracts. The contract of font.Builtin, and of Font: the two fonts, cell by cell. font.build: the two fonts, cell by cell. font.Builtin, and Font. Contracts of small functions of package cmp and band, for the run. The closed calls of the chapter's examples, by the run; awake. -/
import Derived.Test.YtpgelghkjiejlaaGaj
import Derived.KernelRfl
set_option linter.unusedVariables false
set_option linter.unusedSimpArgs false
section
set_option maxRecDepth 4000
namespace Go.Proofs.Ytpgelghkjiejlaa
open Go

def ofH (w : Bool) (s : List UInt8) : Heap := if s = [] then [] else [(4, .row true (cellsW w s)), (5, .row true (List.replicate s.length .un))]
theorem ofH_in (w : Bool) (s : List UInt8) : HIn 6 (ofH w s) := by
  unfold ofH
  split
  · exact .nil' _
  · exact .cons' (by omega) (cellsW_in w s _) (.cons' (by omega) (fun x hx => by rw [(List.mem_replicate.1 hx).2]; exact .un) (.nil' _))
theorem of_ok1 (w : Bool) (s : List UInt8) (hs : s.length ≤ 4096) : ACalls Try.prog 9 [.ag (fontC w), .s s] 1 [] fun v n' H' => v = .ag [slW 4 s.length, slW 5 s.length, .i .i64 (fA w), .i .i64 (fH w)] ∧ n' = 6 ∧ H' = ofH w s := by
  refine (of_ok0 w s hs).weakenR ?_
  rintro v n' H' ⟨rfl, h⟩
  refine ⟨id, _, 6, ofH w s, fun _ _ => rfl, by omega, .id_of (.ag ?_), ⟨fun b k hb => ?_, fun _ _ _ _ _ _ h => h⟩, rfl, rfl, rfl⟩
  · intro x hx
    simp at hx
    rcases hx with rfl | rfl | rfl | rfl
    · exact slW_in fun _ => by omega
    · exact slW_in fun _ => by omega
    · exact .i _ _
    · exact .i _ _
  · have hin := ofH_in w s b k hb
    refine ⟨hin.1, k, ?_, .old (Nat.le_refl _) (fun _ _ => rfl) hin.2⟩
    unfold ofH at hb
    split at hb
    · simp at hb
    · rename_i hne
      obtain ⟨h4, h5⟩ := h hne
      simp only [aget_cons, aget_nil] at hb
      repeat' split at hb
      · rename_i e; cases hb; subst e; exact h4
      · rename_i e; cases hb; subst e; exact h5
      · cases hb
theorem at_eq (w : Bool) (s : List UInt8) (dx : Int) (h : s.length ≤ 4096) : atN w s dx = atF w dx 0 0 s := by
  unfold atN
  split
  · rename_i h0; exact (atF_neg w dx h0 s).symm
  · rw [List.take_of_length_le h]
theorem set_font (w : Bool) (z : V) : setAll (List.replicate 1617 z) 0 (fontC w) = fontC w := setAll_full (by simp [-List.reduceReplicate])
theorem ofH_4 (w : Bool) (s : List UInt8) (h : s ≠ []) : aget (ofH w s) 4 = some (.row true (cellsW w s)) := by simp [ofH, h]
theorem places_ok (hF : ∀ w n H, Pure Try.prog 8 [.b w] n H (.ag (fontC w))) (hA : ∀ n H, Pure Try.prog 7 [] n H (.b true)) (w : Bool) (s : List UInt8) (dx wd : Int) :
    ACalls Try.prog 3 [.b w, .s s, .i .i64 dx, .i .i64 wd] 0 [] fun v _ _ => v = .b true := by
  refine .enter0 F3_ok (by simp [F3]) ?_
  refine .seq (.ops (opsF_all (by simp; rfl) ?_))
  by_cases h60 : 60 < s.length
  · have h60' : (60 : Int) < s.length := by omega
    refine .seq (.seq (.ops (opsF_all (by simp [h60']; rfl) ?_)))
    refine .cond (t := true) (by simp) (.seq (.ops ?_))
    refine opsF_cons_call rfl rfl rfl (v := .b true) (hA _ _) (opsF_all (by simp; rfl) ?_)
    exact .ret (by simp [F3])
  have h60' : ¬ (60 : Int) < s.length := by omega
  refine .seq (.seq (.ops (opsF_all (by simp [h60']; rfl) ?_)))
  refine .cond (t := false) (by simp) (.skip ?_)
  generalize hZ : List.replicate 1617 (V.i IntKind.i64 0) = Z
  have hZl : Z.length = 1617 := by rw [← hZ, List.length_replicate]
  have hset : setAll Z 0 (fontC w) = fontC w := setAll_full (by rw [fontC_len, hZl])
  clear hZ
  refine .seq (.ops (opsF_run 1 (by simp; rfl) ?_))
  refine opsF_cons_call rfl rfl rfl (v := .ag (fontC w)) (hF w _ _) ?_
  refine opsF_all (by simp [-List.all_eq_true, hset, hZl]; rfl) ?_
  refine .seq (.ops (opsF_run 2 (by simp; rfl) ?_))
  refine opsF_call rfl rfl (callV_fn (ACalls.mono (ACalls.frame (fr := []) (fw := []) (of_ok1 w s (by omega)) ?_) ?_))
  · rintro v n1 R ⟨rfl, rfl, rfl⟩ b k ht hb
    unfold ofH at hb
    split at hb
    · simp at hb
    · simp only [aget_cons, aget_nil] at hb
      repeat' split at hb
      all_goals cases hb <;> rfl
  rintro v n1 H' ⟨R, ⟨rfl, rfl, rfl⟩, rfl⟩
  refine opsF_all (by simp [setAll]; rfl) ?_
  have hs4 : s.length ≤ 4096 := by omega
  have ha : ∀ R : List V, s ≠ [] → 4 < 7 ∧ ∃ o, aget (restr ((6, Blk.row true R) :: (0, Blk.row true (fontC w)) :: ofH w s) [4] []) 4 = some (.row o (cellsW w s)) := fun R hne => ⟨by omega, false, by
    have := ofH_4 w s hne
    simp [this]⟩
  refine AWc.alikeH (H := (6, .row true [slW 4 s.length, slW 5 s.length, .i .i64 (fA w), .i .i64 (fH w)]) :: (0, .row true (fontC w)) :: ofH w s) (fun b => ?_) ?_
  · simp only [aget_mergeH, aget_cons, aget_nil]
    by_cases e6 : 6 = b
    · simp [e6]
    rw [if_neg e6, if_neg e6]
    by_cases e0 : 0 = b
    · subst e0; simp
    rw [if_neg e0]
    split
    · rfl
    · rename_i hb
      cases hx : aget (ofH w s) b with
      | none => rfl
      | some k =>
        have := (ofH_in w s b k hx).1
        simp at hb
        omega
  refine .seq (.drawP (by rfl) ?_)
  refine drawP_run 3 (by rfl) (by simp; rfl) ?_
  refine drawP_call [] rfl rfl rfl (at_pure w s dx _ _) (by simp) (.i _ _) ?_
  refine drawP_run 2 (by rfl) (by simp; rfl) ?_
  refine drawP_call [4] rfl rfl rfl (refAt_pure w s (by omega) 4 _ _ _ (by simp) rfl rfl dx _ _ (ha _)) (by simp) (.i _ _) ?_
  refine drawP_run 5 (by rfl) (by simp [at_eq w s dx hs4]; rfl) ?_
  refine drawP_call [] rfl rfl rfl (fit_pure w s wd _ _) (by simp) (.i _ _) ?_
  refine drawP_run 2 (by rfl) (by simp; rfl) ?_
  refine drawP_call [4] rfl rfl rfl (refFit_pure w s (by omega) 4 _ _ _ (by simp) rfl rfl wd _ _ (ha _)) (by simp) (.i _ _) ?_
  refine drawP_run 3 (by rfl) (by simp [at_eq w s wd hs4]; rfl) ?_
  refine drawP_call [] rfl rfl rfl (hA _ _) (by simp) (.b _) ?_
  refine drawP_all (by rfl) (by simp; rfl) ?_
  exact AWc.ret (by simp [F3])
theorem atF_spec (w : Bool) (dx : Int) : ∀ (s : List UInt8) (acc i : Nat), ∃ j, atF w dx acc i s = i + j ∧ j ≤ s.length ∧ ((acc : Int) ≤ dx → ((acc + pw w (s.take j) : Nat) : Int) ≤ dx) ∧ (j < s.length → dx < ((acc + pw w (s.take (j + 1)) : Nat) : Int)) := by
  intro s
  induction s with
  | nil => intro acc i; exact ⟨0, rfl, Nat.le_refl _, fun h => by simpa [pw] using h, fun h => by simp at h⟩
  | cons b s ih =>
    intro acc i
    unfold atF
    split
    · rename_i h
      exact ⟨0, rfl, by simp, fun h => by simpa [pw] using h, fun _ => by simpa [pw] using h⟩
    · rename_i h
      obtain ⟨j, h1, h2, h3, h4⟩ := ih (acc + fW w (plc b)) (i + 1)
      refine ⟨j + 1, by omega, by simpa using h2, fun h0 => ?_, fun hj => ?_⟩
      · have := h3 (by omega)
        rw [List.take_succ_cons, pw_cons]
        omega
      · have := h4 (by simpa using hj)
        rw [List.take_succ_cons, pw_cons]
        omega
theorem pw_take_le (w : Bool) (s : List UInt8) (k : Nat) : pw w (s.take k) ≤ pw w s := by
  have := pw_append w (s.take k) (s.drop k)
  rw [List.take_append_drop] at this
  omega
theorem finds_ok (hF : ∀ w n H, Pure Try.prog 8 [.b w] n H (.ag (fontC w))) (hA : ∀ n H, Pure Try.prog 7 [] n H (.b true)) (w : Bool) (s : List UInt8) (m : Int) (hm : 0 ≤ m ∧ m < 65536) :
    ACalls Try.prog 4 [.b w, .s s, .i .u16 m] 0 [] fun v _ _ => v = .b true := by
  refine .enter0 F4_ok (by simp [F4]) ?_
  refine .seq (.ops (opsF_all (by simp; rfl) ?_))
  by_cases h60 : 60 < s.length
  · have h60' : (60 : Int) < s.length := by omega
    refine .seq (.seq (.ops (opsF_all (by simp [h60']; rfl) ?_)))
    refine .cond (t := true) (by simp) (.seq (.ops ?_))
    refine opsF_cons_call rfl rfl rfl (v := .b true) (hA _ _) (opsF_all (by simp; rfl) ?_)
    exact .ret (by simp [F4])
  have h60' : ¬ (60 : Int) < s.length := by omega
  have hs4 : s.length ≤ 4096 := by omega
  have hpw := pw_le w s
  refine .seq (.seq (.ops (opsF_all (by simp [h60']; rfl) ?_)))
  refine .cond (t := false) (by simp) (.skip ?_)
  generalize hZ : List.replicate 1617 (V.i IntKind.i64 0) = Z
  have hZl : Z.length = 1617 := by rw [← hZ, List.length_replicate]
  have hset : setAll Z 0 (fontC w) = fontC w := setAll_full (by rw [fontC_len, hZl])
  clear hZ
  have hwm : IntKind.i64.wrap m = m := IntWalk.i64_in _ (by omega)
  have hw9 : IntKind.i64.wrap ((pw w s : Int) + 9) = (pw w s : Int) + 9 := IntWalk.i64_in _ (by omega)
  have hn9 : ¬ ((pw w s : Int) + 9 = 0) := by omega
  refine .seq (.ops (opsF_run 1 (by simp; rfl) ?_))
  refine opsF_cons_call rfl rfl rfl (v := .ag (fontC w)) (hF w _ _) ?_
  refine opsF_all (by simp [-List.all_eq_true, hset, hZl]; rfl) ?_
  refine .seq (.ops (opsF_run 4 (by simp [hwm]; rfl) ?_))
  refine opsF_cons_call rfl rfl rfl (v := .i .i64 (pw w s)) (width_pure w s (by omega) _ _) ?_
  refine opsF_all (by simp [hw9, hn9]; rfl) ?_
  have hdx0 : 0 ≤ m.tmod ((pw w s : Int) + 9) := Int.tmod_nonneg _ hm.1
  generalize m.tmod ((pw w s : Int) + 9) = dx at hdx0 ⊢
  have hat := at_eq w s dx hs4
  obtain ⟨k, hk, hkl, hk1, hk2⟩ := atF_spec w dx s 0 0
  simp only [Nat.zero_add] at hk hk1 hk2
  have hk1 := hk1 (by omega)
  rw [hk] at hat
  clear hk
  refine .seq (.drawP (by rfl) ?_)
  refine drawP_run 3 (by rfl) (by simp; rfl) ?_
  refine drawP_call [] rfl rfl rfl (v := .i .i64 k) (hat ▸ at_pure w s dx _ _) (by simp) (.i _ _) ?_
  refine drawP_run 3 (by rfl) (by simp; rfl) ?_
  refine drawP_call [] rfl rfl rfl (v := .i .i64 k) (hat ▸ fit_pure w s dx _ _) (by simp) (.i _ _) ?_
  refine drawP_all (by rfl) (by simp; rfl) ?_
  have hkl' : ¬ (s.length : Int) < k := by omega
  have hk0 : ¬ (k : Int) < 0 := by omega
  have hk1' : ¬ dx < (pw w (s.take k) : Int) := by omega
  have hwk : IntKind.i64.wrap ((k : Int) + 1) = ((k + 1 : Nat) : Int) := IntWalk.i64_in _ (by omega)
  have hpk : ∀ n H, Pure Try.prog 14 [.ag (fontC w), .s (s.take k)] n H (.i .i64 (pw w (s.take k))) := fun n H => width_pure w _ (by simp; omega) n H
  have hlast : k < s.length ↔ dx < (pw w s : Int) := by
    constructor
    · intro hlt
      have h1 := hk2 hlt
      have h2 := pw_take_le w s (k + 1)
      omega
    · intro h
      refine Nat.lt_of_not_le fun hle => ?_
      have : k = s.length := by omega
      subst this
      rw [List.take_length] at hk1
      omega
  have hpw' : ∀ n H, Pure Try.prog 14 [.ag (fontC w), .s s] n H (.i .i64 (pw w s)) := fun n H => width_pure w s (by omega) n H
  have hp1 : k < s.length → ∀ n H, Pure Try.prog 14 [.ag (fontC w), .s (s.take (k + 1))] n H (.i .i64 (pw w (s.take (k + 1)))) := fun h n H => width_pure w _ (by simp; omega) n H
  have hk2' : k < s.length → ¬ (pw w (s.take (k + 1)) : Int) ≤ dx := fun h => by have := hk2 h; omega
  generalize pw w (s.take k) = p0 at hk1 hk1' hpk
  generalize pw w (s.take (k + 1)) = p1 at hk2 hk2' hp1
  generalize pw w s = pa at hlast hpw'
  clear hk2 hk1 hpw hw9 hn9 hat
  refine AWc.seq (AWc.forget (T0 := [(1, .s s), (7, .p 0 0), (8, .i .i64 dx), (9, .i .i64 k), (10, .i .i64 k)]) (by simp) ?_)
  refine AWc.seq (.drawP (by rfl) ?_)
  refine drawP_run 9 (by rfl) (by simp [hkl', hk0, hkl]; rfl) ?_
  refine drawP_run 14 (by rfl) (by simp [hkl', hk0, hkl]; rfl) ?_
  refine drawP_call [] rfl rfl rfl (v := .i .i64 p0) (hpk _ _) (by simp) (.i _ _) ?_
  refine drawP_run 8 (by rfl) (by simp [hk1', hkl]; rfl) ?_
  refine drawP_call [] rfl rfl rfl (v := .i .i64 p0) (hpk _ _) (by simp) (.i _ _) ?_
  refine drawP_all (by rfl) (by simp [hk1']; rfl) ?_
  refine AWc.cond (t := false) (by simp) (.skip ?_)
  obtain ⟨k1, hk1e⟩ : ∃ k1, k1 = k + 1 := ⟨_, rfl⟩
  rw [← hk1e] at hwk hp1
  refine AWc.seq (AWc.forget (T0 := [(1, .s s), (7, .p 0 0), (8, .i .i64 dx), (9, .i .i64 k), (10, .i .i64 k)]) (by simp) ?_)
  by_cases hlt : k < s.length
  · have hlt' : (k : Int) < s.length := by omega
    have hd : dx < (pa : Int) := hlast.1 hlt
    have h1' := hk2' hlt
    have hk1l : k1 ≤ s.length := by omega
    have hp1 := hp1 hlt
    refine AWc.seq (.drawP (by rfl) ?_)
    refine drawP_run 10 (by rfl) (by simp [hlt', hwk, hk1l]; rfl) ?_
    refine drawP_call [] rfl rfl rfl (v := .i .i64 p1) (hp1 _ _) (by simp) (.i _ _) ?_
    refine drawP_run 4 (by rfl) (by simp [h1']; rfl) ?_
    refine drawP_run 10 (by rfl) (by simp [hlt', hwk, hk1l]; rfl) ?_
    refine drawP_call [] rfl rfl rfl (v := .i .i64 p1) (hp1 _ _) (by simp) (.i _ _) ?_
    refine drawP_all (by rfl) (by simp [h1']; rfl) ?_
    refine AWc.cond (t := false) (by simp) (.skip ?_)
    refine AWc.seq (AWc.forget (T0 := [(1, .s s), (7, .p 0 0), (8, .i .i64 dx), (9, .i .i64 k), (10, .i .i64 k)]) (by simp) ?_)
    refine .ops (opsF_run 7 (by simp [hlt']; rfl) ?_)
    refine opsF_cons_call rfl rfl rfl (v := .i .i64 pa) (hpw' _ _) ?_
    refine opsF_run 8 (by simp [hd]; rfl) ?_
    refine opsF_cons_call rfl rfl rfl (v := .b true) (hA _ _) (opsF_all (by simp; rfl) ?_)
    exact .ret (by simp [F4])
  · have hlt' : ¬ (k : Int) < s.length := by omega
    have hd : ¬ dx < (pa : Int) := fun h => hlt (hlast.2 h)
    refine AWc.seq (.drawP (by rfl) ?_)
    refine drawP_run 10 (by rfl) (by simp [hlt']; rfl) ?_
    refine drawP_skip (by simp) ?_
    refine drawP_run 4 (by rfl) (by simp [hlt']; rfl) ?_
    refine drawP_run 10 (by rfl) (by simp [hlt']; rfl) ?_
    refine drawP_skip (by simp) ?_
    refine drawP_all (by rfl) (by simp [hlt']; rfl) ?_
    refine AWc.cond (t := false) (by simp) (.skip ?_)
    refine AWc.seq (AWc.forget (T0 := [(1, .s s), (7, .p 0 0), (8, .i .i64 dx), (9, .i .i64 k), (10, .i .i64 k)]) (by simp) ?_)
    refine .ops (opsF_run 7 (by simp [hlt']; rfl) ?_)
    refine opsF_cons_call rfl rfl rfl (v := .i .i64 pa) (hpw' _ _) ?_
    refine opsF_run 8 (by simp [hd]; rfl) ?_
    refine opsF_cons_call rfl rfl rfl (v := .b true) (hA _ _) (opsF_all (by simp; rfl) ?_)
    exact .ret (by simp [F4])
end Go.Proofs.Ytpgelghkjiejlaa
end
section
set_option maxRecDepth 4000
namespace Go.Proofs.Ytpgelghkjiejlaa
open Go

theorem fn37_pure (c : Int) (n : Nat) (H : Heap) : Pure Try.prog 37 [.i .i64 c] n H (.i .i64 4) := by
  refine .of0 (.enter0 F37_ok (by simp [F37]) ?_) (by simp [VIn.i]) (.i _ _) n H
  refine .seq (.ops (opsF_all (by simp; rfl) ?_))
  refine .seq (.ops (opsF_all (by simp; rfl) ?_))
  exact .ret (by simp [F37])
theorem tmod_nat (a b : Nat) : ((a : Int)).tmod (b : Int) = ((a % b : Nat) : Int) := (Int.ofNat_tmod a b).symm
theorem fn38_pure (c y : Nat) (hc : c < 127) (hy : y < 6) (n : Nat) (H : Heap) : Pure Try.prog 38 [.i .i64 c, .i .i64 y] n H (.i .i64 (if y = 5 then 0 else (c * (y + 3) + y) % 8 : Nat)) := by
  refine .of0 (.enter0 F38_ok (by simp [F38]) ?_) (by simp [VIn.i]) (.i _ _) n H
  refine .seq (.ops (opsF_all (by simp; rfl) ?_))
  by_cases h5 : y = 5
  · subst h5
    refine .seq (.seq (.ops (opsF_all (by simp; rfl) ?_)))
    refine .cond (t := true) (by simp) (.seq (.ops (opsF_all (by simp; rfl) ?_)))
    exact .ret (by simp [F38])
  · have h5' : ¬ (y : Int) = 5 := by omega
    have hm : c * (y + 3) ≤ 127 * 9 := Nat.mul_le_mul (by omega) (by omega)
    have w1 : IntKind.i64.wrap ((y : Int) + 3) = ((y + 3 : Nat) : Int) := IntWalk.i64_in _ (by omega)
    have w2 : IntKind.i64.wrap ((c : Int) * ((y + 3 : Nat) : Int)) = ((c * (y + 3) : Nat) : Int) := by
      rw [← Int.natCast_mul]; exact IntWalk.i64_in _ (by omega)
    have w3 : IntKind.i64.wrap (((c * (y + 3) : Nat) : Int) + (y : Int)) = ((c * (y + 3) + y : Nat) : Int) := IntWalk.i64_in _ (by omega)
    have w4 : ((c * (y + 3) + y : Nat) : Int).tmod 8 = (((c * (y + 3) + y) % 8 : Nat) : Int) := tmod_nat _ 8
    generalize hq : (c * (y + 3) + y) % 8 = q at w4 ⊢
    generalize c * (y + 3) + y = r at w3 w4
    generalize c * (y + 3) = p at w2 w3
    generalize y + 3 = y3 at w1 w2
    refine .seq (.seq (.ops (opsF_all (by simp [h5']; rfl) ?_)))
    refine .cond (t := false) (by simp [h5']) (.skip ?_)
    refine .seq (.ops (opsF_all (by simp [w1, w2, w3, w4]; rfl) ?_))
    exact .ret (by simp [F38, h5])
theorem fn39_pure (c : Nat) (hc : c < 127) (n : Nat) (H : Heap) : Pure Try.prog 39 [.i .i64 c] n H (.i .i64 (5 + c % 4 : Nat)) := by
  refine .of0 (.enter0 F39_ok (by simp [F39]) ?_) (by simp [VIn.i]) (.i _ _) n H
  have w1 : ((c : Int)).tmod 4 = ((c % 4 : Nat) : Int) := tmod_nat c 4
  have w2 : IntKind.i64.wrap (5 + ((c % 4 : Nat) : Int)) = ((5 + c % 4 : Nat) : Int) := IntWalk.i64_in _ (by omega)
  generalize c % 4 = q at w1 w2 ⊢
  generalize 5 + q = p at w2 ⊢
  refine .seq (.ops (opsF_all (by simp; rfl) ?_))
  refine .seq (.ops (opsF_all (by simp [w1, w2]; rfl) ?_))
  exact .ret (by simp [F39])
theorem fn40_pure (c y a : Nat) (hc : c < 127) (hy : y < 9) (n : Nat) (H : Heap) {o : Bool} (ha : aget H a = some (.row o [.fn 39 [] []])) :
    Pure Try.prog 40 [.i .i64 c, .i .i64 y, .p a 0] n H (.i .i64 ((c * (2 * y + 5) + 7 * y) % 2 ^ (4 + c % 4) : Nat)) := by
  refine Pure.of_drop (.enter0 F40_ok (by simp [F40]) ?_) (.i _ _)
  have hm : c * (2 * y + 5) ≤ 127 * 23 := Nat.mul_le_mul (by omega) (by omega)
  have w1 : IntKind.i64.wrap (2 * (y : Int)) = ((2 * y : Nat) : Int) := IntWalk.i64_in _ (by omega)
  have w2 : IntKind.i64.wrap (((2 * y : Nat) : Int) + 5) = ((2 * y + 5 : Nat) : Int) := IntWalk.i64_in _ (by omega)
  have w3 : IntKind.i64.wrap ((c : Int) * ((2 * y + 5 : Nat) : Int)) = ((c * (2 * y + 5) : Nat) : Int) := by
    rw [← Int.natCast_mul]; exact IntWalk.i64_in _ (by omega)
  have w4 : IntKind.i64.wrap (7 * (y : Int)) = ((7 * y : Nat) : Int) := IntWalk.i64_in _ (by omega)
  have w5 : IntKind.i64.wrap (((c * (2 * y + 5) : Nat) : Int) + ((7 * y : Nat) : Int)) = ((c * (2 * y + 5) + 7 * y : Nat) : Int) := IntWalk.i64_in _ (by omega)
  have hw := fn39_pure c hc n H
  have hq4 : c % 4 < 4 := Nat.mod_lt _ (by omega)
  generalize c % 4 = q at hw hq4 ⊢
  have w6 : IntKind.i64.wrap (((5 + q : Nat) : Int) - 1) = ((4 + q : Nat) : Int) := by rw [IntWalk.i64_in _ (by omega)]; omega
  have w7 : IntKind.i64.wrap (2 ^ min (4 + q) 64) = ((2 ^ (4 + q) : Nat) : Int) := by
    have : q = 0 ∨ q = 1 ∨ q = 2 ∨ q = 3 := by omega
    rcases this with rfl | rfl | rfl | rfl <;> decide
  have w8 : ((c * (2 * y + 5) + 7 * y : Nat) : Int).tmod ((2 ^ (4 + q) : Nat) : Int) = (((c * (2 * y + 5) + 7 * y) % 2 ^ (4 + q) : Nat) : Int) := tmod_nat _ _
  have h9 : ¬ 2 ^ (4 + q) = 0 := by
    have := Nat.two_pow_pos (4 + q)
    omega
  generalize (c * (2 * y + 5) + 7 * y) % 2 ^ (4 + q) = res at w8 ⊢
  generalize 2 ^ (4 + q) = tp at w7 w8 h9
  generalize c * (2 * y + 5) + 7 * y = r at w5 w8
  generalize c * (2 * y + 5) = p at w3 w5
  generalize 7 * y = y7 at w4 w5
  generalize 2 * y + 5 = y25 at w2 w3
  generalize 2 * y = y2 at w1 w2
  generalize 5 + q = q5 at hw w6
  generalize 4 + q = q4 at w6 w7
  refine .seq (.ops (opsF_all (by simp; rfl) ?_))
  refine .seq (.ops (opsF_run 5 (by simp [w1, w2, w3]; rfl) ?_))
  refine opsF_run 5 (by simp [w4, w5, ha]; rfl) ?_
  refine opsF_cons_call rfl rfl rfl (by simpa using hw) ?_
  refine opsF_all (by simp [w6, IntKind.bits, w7, w8, h9]; rfl) ?_
  refine .ret ?_
  simp [F40]
end Go.Proofs.Ytpgelghkjiejlaa
end
section
set_option maxRecDepth 4000
namespace Go.Proofs.Ytpgelghkjiejlaa
open Go

/-- A font's cells of which the first k are laid. -/
def pre (w : Bool) (k : Nat) : List V := (List.range 1617).map fun p => .i .i64 ((if p < k then fC w p else 0 : Nat) : Int)
@[simp] theorem pre_len (w : Bool) (k : Nat) : (pre w k).length = 1617 := by simp [pre]
theorem pre_get (w : Bool) (k : Nat) {p : Nat} (h : p < 1617) : (pre w k)[p]? = some (.i .i64 ((if p < k then fC w p else 0 : Nat) : Int)) := by
  simp only [pre, List.getElem?_map, List.getElem?_range h, Option.map_some]
theorem pre_in (w : Bool) (k n : Nat) : ∀ x ∈ pre w k, VIn n x := by
  intro x hx
  simp only [pre, List.mem_map] at hx
  obtain ⟨p, _, rfl⟩ := hx
  exact .i _ _
@[simp] theorem pre_one (w : Bool) (k : Nat) : (pre w k).all V.one = true := by
  rw [List.all_eq_true]
  intro x hx
  simp only [pre, List.mem_map] at hx
  obtain ⟨p, _, rfl⟩ := hx
  rfl
@[simp] theorem pre_take (w : Bool) (k : Nat) : (pre w k).take 1617 = pre w k := List.take_of_length_le (by simp)
theorem pre_none (w : Bool) (k : Nat) {p : Nat} (h : ¬ p < 1617) : (pre w k)[p]? = none := List.getElem?_eq_none (by simp; omega)
theorem pre_full (w : Bool) : pre w 1617 = fontC w := by
  apply List.ext_getElem?
  intro p
  by_cases h : p < 1617
  · rw [pre_get w _ h, fontC_get w h, if_pos h]
  · rw [pre_none w _ h, List.getElem?_eq_none (by simp; omega)]
theorem pre_zero (w : Bool) : List.replicate 1617 (V.i .i64 0) = pre w 0 := by
  apply List.ext_getElem?
  intro p
  by_cases h : p < 1617
  · rw [pre_get w _ h, if_neg (by omega), List.getElem?_replicate, if_pos h]
    rfl
  · rw [pre_none w _ h, List.getElem?_eq_none (by rw [List.length_replicate]; omega)]
theorem pre_set (w : Bool) {k : Nat} (h : k < 1617) : setAll (pre w k) k [V.i .i64 (fC w k)] = pre w (k + 1) := by
  apply List.ext_getElem?
  intro p
  rw [setAll_get _ _ _ (by simp; omega)]
  simp only [List.length_cons, List.length_nil, Nat.zero_add]
  by_cases hp : p < 1617
  · rw [pre_get w _ hp, pre_get w _ hp]
    by_cases e : p < k
    · rw [if_pos e, if_pos e, if_pos (by omega)]
    · rw [if_neg e]
      by_cases e2 : p = k
      · subst e2
        rw [if_pos (by omega), if_pos (by omega)]
        simp
      · rw [if_neg (by omega), if_neg e, if_neg (by omega)]
  · rw [pre_none w _ hp, pre_none w _ hp, if_neg (by omega), if_neg (by omega)]
theorem pre_skip (w : Bool) {k k' : Nat} (hk : k ≤ k') (h : ∀ p, k ≤ p → p < k' → fC w p = 0) : pre w k = pre w k' := by
  apply List.ext_getElem?
  intro p
  by_cases hp : p < 1617
  · rw [pre_get w _ hp, pre_get w _ hp]
    by_cases e : p < k
    · rw [if_pos e, if_pos (by omega)]
    · rw [if_neg e]
      by_cases e2 : p < k'
      · rw [if_pos e2, h p (by omega) e2]
      · rw [if_neg e2]
  · rw [pre_none w _ hp, pre_none w _ hp]
theorem fC_hi (w : Bool) {l p : Nat} (h1 : 2 + l * 17 + 1 + fH w ≤ p) (h2 : p < 2 + (l + 1) * 17) : fC w p = 0 := by
  unfold fC
  rw [if_neg (by omega), if_neg (by omega), if_neg (by omega), if_neg (by omega)]
theorem fC_l0 (w : Bool) {p : Nat} (h1 : 3 ≤ p) (h2 : p < 2 + 17) : fC w p = 0 := by
  unfold fC
  rw [if_neg (by omega), if_neg (by omega), if_neg (by omega)]
  split
  · have : (p - 2) / 17 = 0 := by omega
    rw [this]
    rfl
  · rfl
theorem pre_0 (w : Bool) {k : Nat} (h : 2 ≤ k) : (pre w k)[0]? = some (.i .i64 (fA w)) := by rw [pre_get w k (by omega), if_pos (by omega)]; rfl
theorem pre_1 (w : Bool) {k : Nat} (h : 2 ≤ k) : (pre w k)[1]? = some (.i .i64 (fD w)) := by rw [pre_get w k (by omega), if_pos (by omega)]; rfl
theorem heightK_pure (w : Bool) {k : Nat} (hk : 2 ≤ k) (n : Nat) (H : Heap) : Pure Try.prog 41 [.ag (pre w k)] n H (.i .i64 (fH w)) := by
  have h0 := pre_0 w hk
  have h1 := pre_1 w hk
  refine .of0 (.enter0 F41_ok (by simp [F41]) ?_) (by intro x hx; rw [List.mem_singleton.1 hx]; exact .ag (pre_in w k 0)) (.i _ _) n H
  refine .seq (.ops (opsF_all (by simp; rfl) ?_))
  refine .seq (.ops (opsF_all (by simp [h0, h1, show 0 < k by omega, show 1 < k by omega]; rfl) ?_))
  exact .ret (by simp [F41, show 0 < k by omega, show 1 < k by omega])

def bBodyF : ACode := (.seq (.ops none [⟨(some 17), (.bin .lss (.t 16) (.c (.i .i64 95))), none⟩])
     (.seq (.cond (.t 17)
       (.skip)
       (.exit 0))
      (.seq (.block 1 (.seq (.ops none [⟨(some 18), (.mv (.t 16)), none⟩,
         ⟨(some 10), (.mv (.t 18)), none⟩])
       (.seq (.ops none [⟨(some 19), (.mv (.t 10)), none⟩,
         ⟨(some 20), (.bin .add (.c (.i .i64 32)) (.t 19)), none⟩,
         ⟨(some 11), (.mv (.t 20)), none⟩])
        (.seq (.ops none [⟨(some 21), (.mv (.t 10)), none⟩,
          ⟨(some 22), (.mv (.t 2)), none⟩,
          ⟨(some 23), (.mv (.t 11)), none⟩,
          ⟨(some 24), (.call (.t 22) [(.t 23)]), none⟩,
          ⟨(some 25), (.fa 2 (.t 9)), none⟩,
          ⟨(some 26), (.iaa 95 17 (.t 25) (.t 21)), none⟩,
          ⟨(some 27), (.fa 0 (.t 26)), none⟩,
          ⟨none, (.st 1 (.t 27) (.t 24)), none⟩])
        (.seq (.seq (.ops none [⟨(some 28), (.mv (.t 10)), none⟩,
           ⟨(some 29), (.bin .eql (.t 28) (.c (.i .i64 0))), none⟩])
         (.cond (.t 29)
          (.exit 1)
          (.skip)))
         (.seq (.ops none [⟨(some 30), (.ld true 1617 (.t 9)), none⟩,
           ⟨(some 31), (.call (.f 41) [(.t 30)]), none⟩,
           ⟨(some 32), (.mv (.c (.i .i64 0))), none⟩])
         (.block 2 (.loop (.seq (.ops none [⟨(some 33), (.bin .lss (.t 32) (.t 31)), none⟩])
           (.seq (.cond (.t 33)
            (.skip)
            (.exit 2))
           (.seq (.block 3 (.seq (.ops none [⟨(some 34), (.mv (.t 32)), none⟩,
              ⟨(some 12), (.mv (.t 34)), none⟩])
             (.ops (some [0, 0, 0, 0, 0, 28, 0, 65, 193, 511, 1023]) [⟨(some 35), (.mv (.t 10)), none⟩,
              ⟨(some 36), (.mv (.t 12)), none⟩,
              ⟨(some 37), (.mv (.t 3)), none⟩,
              ⟨(some 38), (.mv (.t 11)), none⟩,
              ⟨(some 39), (.mv (.t 12)), none⟩,
              ⟨(some 40), (.call (.t 37) [(.t 38), (.t 39)]), none⟩,
              ⟨(some 41), (.fa 2 (.t 9)), none⟩,
              ⟨(some 42), (.iaa 95 17 (.t 41) (.t 35)), none⟩,
              ⟨(some 43), (.fa 1 (.t 42)), none⟩,
              ⟨(some 44), (.iaa 16 1 (.t 43) (.t 36)), none⟩,
              ⟨none, (.st 1 (.t 44) (.t 40)), none⟩])))
            (.ops none [⟨(some 45), (.bin .add (.t 32) (.c (.i .i64 1))), none⟩,
             ⟨(some 32), (.mv (.t 45)), none⟩]))))))))))))
      (.ops none [⟨(some 46), (.bin .add (.t 16) (.c (.i .i64 1))), none⟩,
        ⟨(some 16), (.mv (.t 46)), none⟩]))))
theorem buildF_row (l y : Nat) (hl : 1 ≤ l ∧ l < 95) (hy : y < fH false) (n : Nat) (H : Heap) : Pure Try.prog 38 ([.i .i64 (l + 32 : Nat), .i .i64 y] ++ []) n H (.i .i64 (fR false l y)) := by
  have : fR false l y = (if y = 5 then 0 else ((l + 32) * (y + 3) + y) % 8) := by unfold fR; rw [if_neg (by omega)]; simp
  rw [this]
  exact fn38_pure (l + 32) y (by omega) hy n H
theorem buildF_wide (l : Nat) (hl : l < 95) (n : Nat) (H : Heap) : Pure Try.prog 37 [.i .i64 (l + 32 : Nat)] n H (.i .i64 (fW false l)) := by have := fn37_pure ((l + 32 : Nat) : Int) n H; simpa [fW] using this
def bTF (i : Nat) : Temps := [(2, .fn 37 [] []), (3, .fn 38 [] []), (8, .p 0 0), (9, .p 1 0), (16, .i .i64 i)]
def bHF (Z : List V) (k : Nat) : Heap := (1, .row true (pre false k)) :: (0, .row true Z) :: []
theorem bHF_in (Z : List V) (hZ : ∀ x ∈ Z, VIn 2 x) (k : Nat) : HIn 2 (bHF Z k) := .cons' (by simp) (pre_in _ _ _) (.cons' (by simp) hZ (.nil' _))
set_option maxHeartbeats 1000000 in
theorem buildF_ok (Z : List V) (hZ : ∀ x ∈ Z, VIn 2 x) (i : Nat) (hi : i < 95) : AWc Try.prog 48 none bBodyF ⟨bTF i, [], 2, bHF Z (2 + i * 17)⟩
    (onNormal (fun s' => St.re id ⟨bTF (i + 1), [], 2, bHF Z (2 + (i + 1) * 17)⟩ s') fun _ _ => False) := by
  have hi' : (i : Int) < 95 := by omega
  have hwc : IntKind.i64.wrap (32 + (i : Int)) = ((i + 32 : Nat) : Int) := by rw [IntWalk.i64_in _ (by omega)]; omega
  have hwi : IntKind.i64.wrap ((i : Int) + 1) = ((i + 1 : Nat) : Int) := IntWalk.i64_in _ (by omega)
  have hwide := buildF_wide i hi
  have hs0 : setAll (pre false (2 + i * 17)) (2 + i * 17) [V.i .i64 (fW false i)] = pre false (2 + i * 17 + 1) := by
    rw [← fC_w false hi]; exact pre_set false (by omega)
  have hb0 : 2 + (i * 17 + 1) ≤ 1617 := by omega
  refine .seq (.ops (opsF_all (by simp [bTF, hi']; rfl) ?_))
  refine .seq (.cond (t := true) (by simp [hi']) (.skip ?_))
  refine .seq (.block (.seq (.ops (opsF_all (by simp; rfl) ?_))))
  refine .seq (.ops (opsF_all (by simp [hwc]; rfl) ?_))
  refine .seq (.ops (opsF_run 3 (by simp; rfl) ?_))
  refine opsF_cons_call rfl rfl rfl (by simpa using hwide _ _) ?_
  refine opsF_all (by simp [hi', bHF, hb0, hs0]; rfl) ?_
  by_cases h0 : i = 0
  · subst h0
    refine .seq (.seq (.ops (opsF_all (by simp; rfl) ?_)))
    refine .cond (t := true) (by simp) (.exit ?_)
    refine AWc.ops (opsF_all (by simp [hwi]; rfl) ?_)
    have hsk : pre false (2 + 0 * 17 + 1) = pre false (2 + (0 + 1) * 17) := pre_skip false (by omega) fun p h1 h2 => fC_l0 false (by omega) (by omega)
    refine ⟨TReL.spec ?_, rfl, by simp, .same (bHF_in Z hZ _) fun b _ => ?_⟩
    · simp only [bTF, TReL, and_true]
      simp
      repeat' (first | exact VRe.i _ _ | exact VRe.p (φ := id) (by omega) | exact VRe.s _ | exact VRe.b _ | exact VRe.id_of (.fn (by simp) (by simp)) | exact VRe.id_of (.fn (by simp) (by simp [VIn.p])) | apply And.intro)
    · show aget (bHF Z (2 + 0 * 17 + 1)) b = aget (bHF Z (2 + (0 + 1) * 17)) b
      unfold bHF
      rw [hsk]
  · have h0' : ¬ (i : Int) = 0 := by omega
    refine .seq (.seq (.ops (opsF_all (by simp [h0]; rfl) ?_)))
    refine .cond (t := false) (by simp [h0]) (.skip ?_)
    refine .seq (.ops (opsF_run 1 (by simp; rfl) ?_))
    refine opsF_cons_call rfl rfl rfl (by simpa using heightK_pure false (k := 2 + (i * 17 + 1)) (by omega) _ _) ?_
    refine opsF_all (by simp; rfl) ?_
    let T0 : Nat → Temps := fun j => [(2, .fn 37 [] []), (3, .fn 38 [] []), (8, .p 0 0), (9, .p 1 0), (10, .i .i64 i), (11, .i .i64 (i + 32 : Nat)), (16, .i .i64 i), (31, .i .i64 (fH false)), (32, .i .i64 j)]
    have hfh : fH false = 6 := rfl
    refine .block (.loopR (φ₀ := id) (k₀ := 6) (s₀ := ⟨T0 0, [], 2, bHF Z (2 + i * 17 + 1 + 0)⟩)
      (fun k st => ∃ j, j ≤ 6 ∧ k = 6 - j ∧ st = ⟨T0 j, [], 2, bHF Z (2 + i * 17 + 1 + j)⟩)
      ⟨0, by omega, by omega, rfl⟩ ⟨TReL.spec ?_, rfl, by simp, .same (bHF_in Z hZ _) fun b _ => rfl⟩ (fun b hb => rfl) (fun k st ⟨j, h1, h2, h3⟩ => by simp [h3]) ?_)
    · simp only [T0, TReL, and_true]
      simp
      repeat' (first | exact VRe.i _ _ | exact VRe.p (φ := id) (by omega) | exact VRe.s _ | exact VRe.b _ | exact VRe.id_of (.fn (by simp) (by simp)) | exact VRe.id_of (.fn (by simp) (by simp [VIn.p])) | apply And.intro)
    rintro k st ⟨j, h1, rfl, rfl⟩
    by_cases hj : j < 6
    · have hj' : (j : Int) < (6 : Int) := by omega
      have hj16 : (j : Int) < 16 := by omega
      have hwj : IntKind.i64.wrap ((j : Int) + 1) = ((j + 1 : Nat) : Int) := IntWalk.i64_in _ (by omega)
      have hrow := buildF_row i j ⟨by omega, hi⟩ (by rw [hfh]; omega)
      have hs1 : setAll (pre false (2 + i * 17 + 1 + j)) (2 + i * 17 + 1 + j) [V.i .i64 (fR false i j)] = pre false (2 + i * 17 + 1 + (j + 1)) := by
        rw [← fC_r false hi (by rw [hfh]; omega)]; exact pre_set false (by omega)
      have hb1 : 2 + i * 17 + 1 + j + 1 ≤ 1617 := by omega
      generalize hk : 2 + i * 17 + 1 + j = k at hs1 hb1
      have hk2 : 2 + (i * 17 + (1 + j)) = k := by omega
      refine .seq (.ops (opsF_all (by simp [T0, hfh, hj']; rfl) ?_))
      refine .seq (.cond (t := true) (by simp [hj']) (.skip ?_))
      refine .seq (.block (.seq (.ops (opsF_all (by simp; rfl) ?_))))
      refine .draw (drawF_run 5 (by rfl) (by simp; exact ⟨rfl, rfl⟩) ?_)
      refine drawF_call rfl rfl rfl (fr := []) (fw := []) (v := .i .i64 (fR false i j)) (n1 := 2) (R := restr (bHF Z k) [] []) (hrow _ _) ⟨by simp, by simp, by simp, fun p _ ht => absurd ht (touch_none _ _)⟩ ⟨.i _ _, fun p _ ht => absurd ht (touch_none _ _)⟩ ?_
      refine drawF_run 4 (by rfl) (by simp [hi', hj16, hk2]; exact ⟨rfl, rfl⟩) ?_
      refine drawF_all (by rfl) (by simp [bHF, hb1, hs1, Blk.own]; exact ⟨rfl, rfl⟩) ⟨by rfl, ?_⟩
      refine AWc.ops (opsF_all (by simp [hwj]; rfl) ?_)
      refine ⟨6 - (j + 1), id, ⟨T0 (j + 1), [], 2, bHF Z (2 + i * 17 + 1 + (j + 1))⟩, by omega, ⟨j + 1, by omega, rfl, rfl⟩, fun _ _ => rfl, ⟨TReL.spec ?_, rfl, by simp, .same (bHF_in Z hZ _) fun b hb => ?_⟩⟩
      · simp only [T0, TReL, and_true]
        simp
        repeat' (first | exact VRe.i _ _ | exact VRe.p (φ := id) (by omega) | exact VRe.s _ | exact VRe.b _ | exact VRe.id_of (.fn (by simp) (by simp)) | exact VRe.id_of (.fn (by simp) (by simp [VIn.p])) | apply And.intro)
      · simp only [bHF, aget_mergeH, aget_cons, aget_nil, touch]
        simp
        repeat' split
        all_goals first | rfl | omega | simp_all
    · obtain rfl : j = 6 := by omega
      refine .seq (.ops (opsF_all (by simp [T0, hfh]; rfl) ?_))
      refine .seq (.cond (t := false) (by simp) (.exit ?_))
      refine AWc.ops (opsF_all (by simp [hwi]; rfl) ?_)
      have hsk : pre false (2 + i * 17 + 1 + 6) = pre false (2 + (i + 1) * 17) := pre_skip false (by omega) fun p h1 h2 => fC_hi false (l := i) (by rw [hfh]; omega) (by omega)
      refine ⟨TReL.spec ?_, rfl, by simp, .same (bHF_in Z hZ _) fun b _ => ?_⟩
      · simp only [bTF, TReL, and_true]
        simp
        repeat' (first | exact VRe.i _ _ | exact VRe.p (φ := id) (by omega) | exact VRe.s _ | exact VRe.b _ | exact VRe.id_of (.fn (by simp) (by simp)) | exact VRe.id_of (.fn (by simp) (by simp [VIn.p])) | apply And.intro)
      · simp only [bHF]
        rw [show 2 + (i * 17 + 7) = 2 + i * 17 + 1 + 6 by omega, hsk]

def bBodyT : ACode := (.seq (.ops none [⟨(some 17), (.bin .lss (.t 16) (.c (.i .i64 95))), none⟩])
     (.seq (.cond (.t 17)
       (.skip)
       (.exit 0))
      (.seq (.block 1 (.seq (.ops none [⟨(some 18), (.mv (.t 16)), none⟩,
         ⟨(some 10), (.mv (.t 18)), none⟩])
       (.seq (.ops none [⟨(some 19), (.mv (.t 10)), none⟩,
         ⟨(some 20), (.bin .add (.c (.i .i64 32)) (.t 19)), none⟩,
         ⟨(some 11), (.mv (.t 20)), none⟩])
        (.seq (.ops none [⟨(some 21), (.mv (.t 10)), none⟩,
          ⟨(some 22), (.mv (.t 2)), none⟩,
          ⟨(some 23), (.mv (.t 11)), none⟩,
          ⟨(some 24), (.call (.t 22) [(.t 23)]), none⟩,
          ⟨(some 25), (.fa 2 (.t 9)), none⟩,
          ⟨(some 26), (.iaa 95 17 (.t 25) (.t 21)), none⟩,
          ⟨(some 27), (.fa 0 (.t 26)), none⟩,
          ⟨none, (.st 1 (.t 27) (.t 24)), none⟩])
        (.seq (.seq (.ops none [⟨(some 28), (.mv (.t 10)), none⟩,
           ⟨(some 29), (.bin .eql (.t 28) (.c (.i .i64 0))), none⟩])
         (.cond (.t 29)
          (.exit 1)
          (.skip)))
         (.seq (.ops none [⟨(some 30), (.ld true 1617 (.t 9)), none⟩,
           ⟨(some 31), (.call (.f 41) [(.t 30)]), none⟩,
           ⟨(some 32), (.mv (.c (.i .i64 0))), none⟩])
         (.block 2 (.loop (.seq (.ops none [⟨(some 33), (.bin .lss (.t 32) (.t 31)), none⟩])
           (.seq (.cond (.t 33)
            (.skip)
            (.exit 2))
           (.seq (.block 3 (.seq (.ops none [⟨(some 34), (.mv (.t 32)), none⟩,
              ⟨(some 12), (.mv (.t 34)), none⟩])
             (.ops (some [0, 0, 0, 0, 0, 28, 0, 65, 193, 511, 1023]) [⟨(some 35), (.mv (.t 10)), none⟩,
              ⟨(some 36), (.mv (.t 12)), none⟩,
              ⟨(some 37), (.mv (.t 3)), none⟩,
              ⟨(some 38), (.mv (.t 11)), none⟩,
              ⟨(some 39), (.mv (.t 12)), none⟩,
              ⟨(some 40), (.call (.t 37) [(.t 38), (.t 39)]), none⟩,
              ⟨(some 41), (.fa 2 (.t 9)), none⟩,
              ⟨(some 42), (.iaa 95 17 (.t 41) (.t 35)), none⟩,
              ⟨(some 43), (.fa 1 (.t 42)), none⟩,
              ⟨(some 44), (.iaa 16 1 (.t 43) (.t 36)), none⟩,
              ⟨none, (.st 1 (.t 44) (.t 40)), none⟩])))
            (.ops none [⟨(some 45), (.bin .add (.t 32) (.c (.i .i64 1))), none⟩,
             ⟨(some 32), (.mv (.t 45)), none⟩]))))))))))))
      (.ops none [⟨(some 46), (.bin .add (.t 16) (.c (.i .i64 1))), none⟩,
        ⟨(some 16), (.mv (.t 46)), none⟩]))))
theorem buildT_row (l y : Nat) (hl : 1 ≤ l ∧ l < 95) (hy : y < fH true) (n : Nat) (H : Heap) {o : Bool} (ha : aget H 1 = some (.row o [.fn 39 [] []])) : Pure Try.prog 40 ([.i .i64 (l + 32 : Nat), .i .i64 y] ++ [.p 1 0]) n H (.i .i64 (fR true l y)) := by
  have : fR true l y = ((l + 32) * (2 * y + 5) + 7 * y) % 2 ^ (4 + (l + 32) % 4) := by unfold fR; rw [if_neg (by omega)]; simp [fW] <;> (congr 2; omega)
  rw [this]
  exact fn40_pure (l + 32) y 1 (by omega) hy n H ha
theorem buildT_wide (l : Nat) (hl : l < 95) (n : Nat) (H : Heap) : Pure Try.prog 39 [.i .i64 (l + 32 : Nat)] n H (.i .i64 (fW true l)) := by have := fn39_pure (l + 32) (by omega) n H; simpa [fW] using this
def bTT (i : Nat) : Temps := [(2, .fn 39 [] []), (3, .fn 40 [] [.p 1 0]), (8, .p 2 0), (9, .p 3 0), (16, .i .i64 i)]
def bHT (Z : List V) (k : Nat) : Heap := (3, .row true (pre true k)) :: (2, .row true Z) :: [(1, .row false [.fn 39 [] []])]
theorem bHT_in (Z : List V) (hZ : ∀ x ∈ Z, VIn 4 x) (k : Nat) : HIn 4 (bHT Z k) := .cons' (by simp) (pre_in _ _ _) (.cons' (by simp) hZ (.cons' (by simp) (by intro x hx; rw [List.mem_singleton.1 hx]; exact .fn (by simp) (by simp)) (.nil' _)))
set_option maxHeartbeats 1000000 in
theorem buildT_ok (Z : List V) (hZ : ∀ x ∈ Z, VIn 4 x) (i : Nat) (hi : i < 95) : AWc Try.prog 48 none bBodyT ⟨bTT i, [], 4, bHT Z (2 + i * 17)⟩
    (onNormal (fun s' => St.re id ⟨bTT (i + 1), [], 4, bHT Z (2 + (i + 1) * 17)⟩ s') fun _ _ => False) := by
  have hi' : (i : Int) < 95 := by omega
  have hwc : IntKind.i64.wrap (32 + (i : Int)) = ((i + 32 : Nat) : Int) := by rw [IntWalk.i64_in _ (by omega)]; omega
  have hwi : IntKind.i64.wrap ((i : Int) + 1) = ((i + 1 : Nat) : Int) := IntWalk.i64_in _ (by omega)
  have hwide := buildT_wide i hi
  have hs0 : setAll (pre true (2 + i * 17)) (2 + i * 17) [V.i .i64 (fW true i)] = pre true (2 + i * 17 + 1) := by
    rw [← fC_w true hi]; exact pre_set true (by omega)
  have hb0 : 2 + (i * 17 + 1) ≤ 1617 := by omega
  refine .seq (.ops (opsF_all (by simp [bTT, hi']; rfl) ?_))
  refine .seq (.cond (t := true) (by simp [hi']) (.skip ?_))
  refine .seq (.block (.seq (.ops (opsF_all (by simp; rfl) ?_))))
  refine .seq (.ops (opsF_all (by simp [hwc]; rfl) ?_))
  refine .seq (.ops (opsF_run 3 (by simp; rfl) ?_))
  refine opsF_cons_call rfl rfl rfl (by simpa using hwide _ _) ?_
  refine opsF_all (by simp [hi', bHT, hb0, hs0]; rfl) ?_
  by_cases h0 : i = 0
  · subst h0
    refine .seq (.seq (.ops (opsF_all (by simp; rfl) ?_)))
    refine .cond (t := true) (by simp) (.exit ?_)
    refine AWc.ops (opsF_all (by simp [hwi]; rfl) ?_)
    have hsk : pre true (2 + 0 * 17 + 1) = pre true (2 + (0 + 1) * 17) := pre_skip true (by omega) fun p h1 h2 => fC_l0 true (by omega) (by omega)
    refine ⟨TReL.spec ?_, rfl, by simp, .same (bHT_in Z hZ _) fun b _ => ?_⟩
    · simp only [bTT, TReL, and_true]
      simp
      repeat' (first | exact VRe.i _ _ | exact VRe.p (φ := id) (by omega) | exact VRe.s _ | exact VRe.b _ | exact VRe.id_of (.fn (by simp) (by simp)) | exact VRe.id_of (.fn (by simp) (by simp [VIn.p])) | apply And.intro)
    · show aget (bHT Z (2 + 0 * 17 + 1)) b = aget (bHT Z (2 + (0 + 1) * 17)) b
      unfold bHT
      rw [hsk]
  · have h0' : ¬ (i : Int) = 0 := by omega
    refine .seq (.seq (.ops (opsF_all (by simp [h0]; rfl) ?_)))
    refine .cond (t := false) (by simp [h0]) (.skip ?_)
    refine .seq (.ops (opsF_run 1 (by simp; rfl) ?_))
    refine opsF_cons_call rfl rfl rfl (by simpa using heightK_pure true (k := 2 + (i * 17 + 1)) (by omega) _ _) ?_
    refine opsF_all (by simp; rfl) ?_
    let T0 : Nat → Temps := fun j => [(2, .fn 39 [] []), (3, .fn 40 [] [.p 1 0]), (8, .p 2 0), (9, .p 3 0), (10, .i .i64 i), (11, .i .i64 (i + 32 : Nat)), (16, .i .i64 i), (31, .i .i64 (fH true)), (32, .i .i64 j)]
    have hfh : fH true = 9 := rfl
    refine .block (.loopR (φ₀ := id) (k₀ := 9) (s₀ := ⟨T0 0, [], 4, bHT Z (2 + i * 17 + 1 + 0)⟩)
      (fun k st => ∃ j, j ≤ 9 ∧ k = 9 - j ∧ st = ⟨T0 j, [], 4, bHT Z (2 + i * 17 + 1 + j)⟩)
      ⟨0, by omega, by omega, rfl⟩ ⟨TReL.spec ?_, rfl, by simp, .same (bHT_in Z hZ _) fun b _ => rfl⟩ (fun b hb => rfl) (fun k st ⟨j, h1, h2, h3⟩ => by simp [h3]) ?_)
    · simp only [T0, TReL, and_true]
      simp
      repeat' (first | exact VRe.i _ _ | exact VRe.p (φ := id) (by omega) | exact VRe.s _ | exact VRe.b _ | exact VRe.id_of (.fn (by simp) (by simp)) | exact VRe.id_of (.fn (by simp) (by simp [VIn.p])) | apply And.intro)
    rintro k st ⟨j, h1, rfl, rfl⟩
    by_cases hj : j < 9
    · have hj' : (j : Int) < (9 : Int) := by omega
      have hj16 : (j : Int) < 16 := by omega
      have hwj : IntKind.i64.wrap ((j : Int) + 1) = ((j + 1 : Nat) : Int) := IntWalk.i64_in _ (by omega)
      have hrow := buildT_row i j ⟨by omega, hi⟩ (by rw [hfh]; omega)
      have hs1 : setAll (pre true (2 + i * 17 + 1 + j)) (2 + i * 17 + 1 + j) [V.i .i64 (fR true i j)] = pre true (2 + i * 17 + 1 + (j + 1)) := by
        rw [← fC_r true hi (by rw [hfh]; omega)]; exact pre_set true (by omega)
      have hb1 : 2 + i * 17 + 1 + j + 1 ≤ 1617 := by omega
      generalize hk : 2 + i * 17 + 1 + j = k at hs1 hb1
      have hk2 : 2 + (i * 17 + (1 + j)) = k := by omega
      refine .seq (.ops (opsF_all (by simp [T0, hfh, hj']; rfl) ?_))
      refine .seq (.cond (t := true) (by simp [hj']) (.skip ?_))
      refine .seq (.block (.seq (.ops (opsF_all (by simp; rfl) ?_))))
      refine .draw (drawF_run 5 (by rfl) (by simp; exact ⟨rfl, rfl⟩) ?_)
      refine drawF_call rfl rfl rfl (fr := [1]) (fw := []) (v := .i .i64 (fR true i j)) (n1 := 4) (R := restr (bHT Z k) [1] []) (hrow _ _ (o := false) (by simp [bHT])) ⟨by simp, by simp, by simp, fun p _ ht => absurd ht (touch_none _ _)⟩ ⟨.i _ _, fun p _ ht => absurd ht (touch_none _ _)⟩ ?_
      refine drawF_run 4 (by rfl) (by simp [hi', hj16, hk2]; exact ⟨rfl, rfl⟩) ?_
      refine drawF_all (by rfl) (by simp [bHT, hb1, hs1, Blk.own]; exact ⟨rfl, rfl⟩) ⟨by rfl, ?_⟩
      refine AWc.ops (opsF_all (by simp [hwj]; rfl) ?_)
      refine ⟨9 - (j + 1), id, ⟨T0 (j + 1), [], 4, bHT Z (2 + i * 17 + 1 + (j + 1))⟩, by omega, ⟨j + 1, by omega, rfl, rfl⟩, fun _ _ => rfl, ⟨TReL.spec ?_, rfl, by simp, .same (bHT_in Z hZ _) fun b hb => ?_⟩⟩
      · simp only [T0, TReL, and_true]
        simp
        repeat' (first | exact VRe.i _ _ | exact VRe.p (φ := id) (by omega) | exact VRe.s _ | exact VRe.b _ | exact VRe.id_of (.fn (by simp) (by simp)) | exact VRe.id_of (.fn (by simp) (by simp [VIn.p])) | apply And.intro)
      · simp only [bHT, aget_mergeH, aget_cons, aget_nil, touch]
        simp
        repeat' split
        all_goals first | rfl | omega | simp_all
    · obtain rfl : j = 9 := by omega
      refine .seq (.ops (opsF_all (by simp [T0, hfh]; rfl) ?_))
      refine .seq (.cond (t := false) (by simp) (.exit ?_))
      refine AWc.ops (opsF_all (by simp [hwi]; rfl) ?_)
      have hsk : pre true (2 + i * 17 + 1 + 9) = pre true (2 + (i + 1) * 17) := pre_skip true (by omega) fun p h1 h2 => fC_hi true (l := i) (by rw [hfh]; omega) (by omega)
      refine ⟨TReL.spec ?_, rfl, by simp, .same (bHT_in Z hZ _) fun b _ => ?_⟩
      · simp only [bTT, TReL, and_true]
        simp
        repeat' (first | exact VRe.i _ _ | exact VRe.p (φ := id) (by omega) | exact VRe.s _ | exact VRe.b _ | exact VRe.id_of (.fn (by simp) (by simp)) | exact VRe.id_of (.fn (by simp) (by simp [VIn.p])) | apply And.intro)
      · simp only [bHT]
        rw [show 2 + (i * 17 + 10) = 2 + i * 17 + 1 + 9 by omega, hsk]
end Go.Proofs.Ytpgelghkjiejlaa
end
section
set_option maxRecDepth 4000
namespace Go.Proofs.Ytpgelghkjiejlaa
open Go
attribute [local irreducible] fontC pre

theorem buildF : ACalls Try.prog 36 [.i .i64 5, .i .i64 1, .fn 37 [] [], .fn 38 [] []] 0 [] fun v _ _ => v = .ag (fontC false) := by
  refine .enter0 F36_ok (by simp [F36]) ?_
  refine .seq ?_
  generalize hZ : List.replicate 1617 (V.i IntKind.i64 0) = Z
  have hZ0 : Z = pre false 0 := by rw [← hZ]; exact pre_zero false
  have hZl : Z.length = 1617 := by rw [hZ0, pre_len]
  have hZi : ∀ x ∈ Z, VIn 2 x := by rw [hZ0]; exact pre_in _ _ _
  have hf1 : setAll Z 0 [V.i .i64 5] = pre false 1 := by rw [hZ0]; exact pre_set false (k := 0) (by omega)
  have hf2 : setAll (pre false 1) 1 [V.i .i64 1] = pre false 2 := pre_set false (k := 1) (by omega)
  have hs : setAll Z 0 (pre false 2) = pre false 2 := setAll_full (by rw [pre_len, hZl])
  have he : setAll Z 0 (pre false 1617) = pre false 1617 := setAll_full (by rw [pre_len, hZl])
  clear hZ
  refine .ops (opsF_all (by simp; rfl) ?_)
  refine AWc.seq (.ops (opsF_run 3 (by simp [hZl, hf1, hf2]; rfl) ?_))
  refine opsF_all (by simp [-List.all_eq_true, hZl, hs]; rfl) ?_
  refine .seq (.seq (.ops (opsF_all (by simp; rfl) ?_)))
  refine .block (.loopR (φ₀ := id) (k₀ := 95) (s₀ := ⟨bTF 0, [], 2, bHF Z (2 + 0 * 17)⟩)
    (fun k st => ∃ i, i ≤ 95 ∧ k = 95 - i ∧ st = ⟨bTF i, [], 2, bHF Z (2 + i * 17)⟩)
    ⟨0, by omega, by omega, rfl⟩ ⟨TReL.spec ?_, rfl, by simp, .same (bHF_in Z hZi _) fun b _ => rfl⟩ (fun b hb => rfl) (fun k st ⟨i, h1, h2, h3⟩ => by simp [h3]) ?_)
  · simp only [bTF, TReL, and_true]
    simp
    repeat' (first | exact VRe.i _ _ | exact VRe.p (φ := id) (by omega) | exact VRe.s _ | exact VRe.b _ | exact VRe.id_of (.fn (by simp) (by simp)) | exact VRe.id_of (.fn (by simp) (by simp [VIn.p])) | apply And.intro)
  rintro k st ⟨i, h1, rfl, rfl⟩
  by_cases hi : i < 95
  · refine (buildF_ok Z hZi i hi).conseq ?_
    intro e st' he
    cases e with
    | normal => exact ⟨95 - (i + 1), id, _, by omega, ⟨i + 1, by omega, rfl, rfl⟩, fun _ _ => rfl, he⟩
    | _ => exact he.elim
  · obtain rfl : i = 95 := by omega
    refine .seq (.ops (opsF_all (by simp [bTF]; rfl) ?_))
    refine .seq (.cond (t := false) (by simp) (.exit ?_))
    refine AWc.seq (.ops (opsF_run 1 (by simp [bHF]; rfl) ?_))
    refine opsF_all (by simp [-List.all_eq_true, hZl, he]; rfl) ?_
    refine .ret ⟨.inr rfl, rfl, _, by simp [F36]; rfl, ?_⟩
    simp [pre_full]

theorem buildT : ACalls Try.prog 36 [.i .i64 7, .i .i64 2, .fn 39 [] [], .fn 40 [] [.p 1 0]] 2 [(1, .row false [.fn 39 [] []])] fun v _ _ => v = .ag (fontC true) := by
  refine .enter0 F36_ok (by simp [F36]) ?_
  refine .seq ?_
  generalize hZ : List.replicate 1617 (V.i IntKind.i64 0) = Z
  have hZ0 : Z = pre true 0 := by rw [← hZ]; exact pre_zero true
  have hZl : Z.length = 1617 := by rw [hZ0, pre_len]
  have hZi : ∀ x ∈ Z, VIn 4 x := by rw [hZ0]; exact pre_in _ _ _
  have hf1 : setAll Z 0 [V.i .i64 7] = pre true 1 := by rw [hZ0]; exact pre_set true (k := 0) (by omega)
  have hf2 : setAll (pre true 1) 1 [V.i .i64 2] = pre true 2 := pre_set true (k := 1) (by omega)
  have hs : setAll Z 0 (pre true 2) = pre true 2 := setAll_full (by rw [pre_len, hZl])
  have he : setAll Z 0 (pre true 1617) = pre true 1617 := setAll_full (by rw [pre_len, hZl])
  clear hZ
  refine .ops (opsF_all (by simp; rfl) ?_)
  refine AWc.seq (.ops (opsF_run 3 (by simp [hZl, hf1, hf2]; rfl) ?_))
  refine opsF_all (by simp [-List.all_eq_true, hZl, hs]; rfl) ?_
  refine .seq (.seq (.ops (opsF_all (by simp; rfl) ?_)))
  refine .block (.loopR (φ₀ := id) (k₀ := 95) (s₀ := ⟨bTT 0, [], 4, bHT Z (2 + 0 * 17)⟩)
    (fun k st => ∃ i, i ≤ 95 ∧ k = 95 - i ∧ st = ⟨bTT i, [], 4, bHT Z (2 + i * 17)⟩)
    ⟨0, by omega, by omega, rfl⟩ ⟨TReL.spec ?_, rfl, by simp, .same (bHT_in Z hZi _) fun b _ => rfl⟩ (fun b hb => rfl) (fun k st ⟨i, h1, h2, h3⟩ => by simp [h3]) ?_)
  · simp only [bTT, TReL, and_true]
    simp
    repeat' (first | exact VRe.i _ _ | exact VRe.p (φ := id) (by omega) | exact VRe.s _ | exact VRe.b _ | exact VRe.id_of (.fn (by simp) (by simp)) | exact VRe.id_of (.fn (by simp) (by simp [VIn.p])) | apply And.intro)
  rintro k st ⟨i, h1, rfl, rfl⟩
  by_cases hi : i < 95
  · refine (buildT_ok Z hZi i hi).conseq ?_
    intro e st' he
    cases e with
    | normal => exact ⟨95 - (i + 1), id, _, by omega, ⟨i + 1, by omega, rfl, rfl⟩, fun _ _ => rfl, he⟩
    | _ => exact he.elim
  · obtain rfl : i = 95 := by omega
    refine .seq (.ops (opsF_all (by simp [bTT]; rfl) ?_))
    refine .seq (.cond (t := false) (by simp) (.exit ?_))
    refine AWc.seq (.ops (opsF_run 1 (by simp [bHT]; rfl) ?_))
    refine opsF_all (by simp [-List.all_eq_true, hZl, he]; rfl) ?_
    refine .ret ⟨.inr rfl, rfl, _, by simp [F36]; rfl, ?_⟩
    simp [pre_full]

theorem tin2 {w : Bool} {n : Nat} : VIn n (.tu [.ag (fontC w), .b true]) := .tu (by
  intro x hx
  simp at hx
  rcases hx with rfl | rfl
  · exact ag_in
  · exact .b _)
theorem builtinF : ACalls Try.prog 24 [.s [116, 105, 110, 121]] 0 [] fun v _ _ => v = .tu [.ag (fontC false), .b true] := by
  refine .enter0 F24_ok (by simp [F24]) ?_
  refine .seq ?_
  generalize hZ : List.replicate 1617 (V.i IntKind.i64 0) = Z
  have hZl : Z.length = 1617 := by rw [← hZ, List.length_replicate]
  have hs : setAll Z 0 (fontC false) = fontC false := setAll_full (by rw [fontC_len, hZl])
  clear hZ
  have hb := fun n H => Pure.of0 buildF (by simp [VIn.i, VIn.fn]) ag_in n H
  refine .ops (opsF_all (by simp; rfl) ?_)
  refine AWc.seq (.seq (.ops (opsF_all (by simp; rfl) ?_)))
  refine .block (.seq (.ops (opsF_all (by simp; rfl) ?_)))
  refine .cond (t := true) (by simp) (.seq (.ops ?_))
  refine opsF_cons_call rfl rfl rfl (v := .ag (fontC false)) (hb _ _) ?_
  refine opsF_all (by simp [-List.all_eq_true, hZl, hs]; rfl) ?_
  refine .ret ⟨.inr rfl, rfl, _, by simp [F24]; rfl, ?_⟩
  simp
theorem builtinT : ACalls Try.prog 24 [.s [119, 105, 100, 101]] 0 [] fun v _ _ => v = .tu [.ag (fontC true), .b true] := by
  refine .enter0 F24_ok (by simp [F24]) ?_
  refine .seq ?_
  generalize hZ : List.replicate 1617 (V.i IntKind.i64 0) = Z
  have hZl : Z.length = 1617 := by rw [← hZ, List.length_replicate]
  have hs : setAll Z 0 (fontC true) = fontC true := setAll_full (by rw [fontC_len, hZl])
  clear hZ
  refine .ops (opsF_all (by simp; rfl) ?_)
  refine AWc.seq (.seq (.ops (opsF_all (by simp; rfl) ?_)))
  refine .block (.seq (.ops (opsF_all (by simp; rfl) ?_)))
  refine .cond (t := false) (by simp) (.seq (.ops (opsF_all (by simp; rfl) ?_)))
  refine .cond (t := true) (by simp) (.seq (.ops (opsF_all (by simp [setAll]; rfl) ?_)))
  refine .seq (.ops (opsF_run 2 (by simp; rfl) ?_))
  refine opsF_call rfl rfl (callV_fn (ACalls.mono (ACalls.frame (fr := [1]) (fw := []) (K := fun v n' H' => v = .ag (fontC true) ∧ n' = 2 ∧ H' = []) ?_ ?_) ?_))
  · simp
    refine buildT.weakenR ?_
    rintro v n' H' rfl
    exact ⟨id, _, 2, [], fun _ _ => rfl, by omega, .id_of ag_in, ⟨fun b k h => by simp at h, fun _ _ _ _ _ _ h => h⟩, rfl, rfl, rfl⟩
  · rintro v n1 R ⟨_, _, rfl⟩ b k _ h
    simp at h
  rintro v n1 H' ⟨R, ⟨rfl, rfl, rfl⟩, rfl⟩
  refine opsF_all (by simp [-List.all_eq_true, hZl, hs]; rfl) ?_
  refine .ret ⟨.inr rfl, rfl, _, by simp [F24]; rfl, ?_⟩
  simp
theorem font_ok (w : Bool) : ACalls Try.prog 8 [.b w] 0 [] fun v _ _ => v = .ag (fontC w) := by
  refine .enter0 F8_ok (by simp [F8]) ?_
  refine .seq ?_
  generalize hZ : List.replicate 1617 (V.i IntKind.i64 0) = Z
  have hZl : Z.length = 1617 := by rw [← hZ, List.length_replicate]
  have hs : setAll Z 0 (fontC w) = fontC w := setAll_full (by rw [fontC_len, hZl])
  clear hZ
  refine .ops (opsF_all (by simp; rfl) ?_)
  refine AWc.seq (.ops (opsF_all (by simp; rfl) ?_))
  cases w with
  | false =>
    have hb := fun n H => Pure.of0 builtinF (by simp [VIn.s]) tin2 n H
    refine .seq (.seq (.ops (opsF_all (by simp; rfl) ?_)))
    refine .cond (t := false) (by simp) (.skip ?_)
    refine .seq (.ops (opsF_run 1 (by simp; rfl) ?_))
    refine opsF_cons_call rfl rfl rfl (v := .tu [.ag (fontC false), .b true]) (hb _ _) ?_
    refine opsF_run 3 (by simp; rfl) ?_
    refine opsF_all (by simp [-List.all_eq_true, hZl, hs]; rfl) ?_
    refine .seq (.ops (opsF_all (by simp [-List.all_eq_true, hZl, hs]; rfl) ?_))
    refine .ret ⟨.inr rfl, rfl, _, by simp [F8]; rfl, ?_⟩
    simp
  | true =>
    have hb := fun n H => Pure.of0 builtinT (by simp [VIn.s]) tin2 n H
    refine .seq (.seq (.ops (opsF_all (by simp; rfl) ?_)))
    refine .cond (t := true) (by simp) (.ops (opsF_all (by simp; rfl) ?_))
    refine .seq (.ops (opsF_run 1 (by simp; rfl) ?_))
    refine opsF_cons_call rfl rfl rfl (v := .tu [.ag (fontC true), .b true]) (hb _ _) ?_
    refine opsF_run 3 (by simp; rfl) ?_
    refine opsF_all (by simp [-List.all_eq_true, hZl, hs]; rfl) ?_
    refine .seq (.ops (opsF_all (by simp [-List.all_eq_true, hZl, hs]; rfl) ?_))
    refine .ret ⟨.inr rfl, rfl, _, by simp [F8]; rfl, ?_⟩
    simp
theorem font_pure (w : Bool) (n : Nat) (H : Heap) : Pure Try.prog 8 [.b w] n H (.ag (fontC w)) := .of0 (font_ok w) (by simp [VIn.b]) ag_in n H
end Go.Proofs.Ytpgelghkjiejlaa
end
section
set_option maxRecDepth 4000
namespace Go.Proofs.Ytpgelghkjiejlaa
open Go

theorem nan_pure (a : Int) (n : Nat) (H : Heap) : Pure Try.prog 65 [.i .i64 a] n H (.b false) := by
  refine .of0 (.enter0 F65_ok (by simp [F65]) ?_) (by simp [VIn.i]) (.b _) n H
  refine .seq (.ops (opsF_all (by simp; rfl) ?_))
  refine .seq (.ops (opsF_all (by simp; rfl) ?_))
  exact .ret (by simp [F65])
theorem less_pure (a b : Int) (n : Nat) (H : Heap) : Pure Try.prog 101 [.i .i64 a, .i .i64 b] n H (.b (decide (a < b))) := by
  refine .of0 (.enter0 F101_ok (by simp [F101]) ?_) (by simp [VIn.i]) (.b _) n H
  refine .seq (.ops (opsF_all (by simp; rfl) ?_))
  refine .seq (.ops (opsF_run 1 (by simp; rfl) ?_))
  refine opsF_cons_call rfl rfl rfl (v := .b false) (nan_pure a _ _) ?_
  refine opsF_run 2 (by simp; rfl) ?_
  refine opsF_skip (by simp) ?_
  refine opsF_all (by simp; rfl) ?_
  exact .ret (by simp [F101])
def cmpV (a b : Int) : Int := if a < b then -1 else if a > b then 1 else 0
theorem cmp_pure (a b : Int) (n : Nat) (H : Heap) : Pure Try.prog 52 [.i .i64 a, .i .i64 b] n H (.i .i64 (cmpV a b)) := by
  refine .of0 (.enter0 F52_ok (by simp [F52]) ?_) (by simp [VIn.i]) (.i _ _) n H
  unfold cmpV
  refine .seq (.ops (opsF_all (by simp; rfl) ?_))
  refine .seq (.ops (opsF_run 1 (by simp; rfl) ?_))
  refine opsF_cons_call rfl rfl rfl (v := .b false) (nan_pure a _ _) (opsF_all (by simp; rfl) ?_)
  refine .seq (.ops (opsF_run 1 (by simp; rfl) ?_))
  refine opsF_cons_call rfl rfl rfl (v := .b false) (nan_pure b _ _) (opsF_all (by simp; rfl) ?_)
  refine .seq (.seq (.ops (opsF_all (by simp; rfl) ?_)))
  refine .cond (t := false) (by simp) (.skip ?_)
  refine .seq (.seq (.ops (opsF_all (by simp; rfl) ?_)))
  refine .cond (t := false) (by simp) (.skip ?_)
  by_cases h1 : a < b
  · refine .seq (.seq (.ops (opsF_all (by simp [h1]; rfl) ?_)))
    refine .cond (t := true) (by simp) (.seq (.ops (opsF_all (by simp; rfl) ?_)))
    exact .ret (by simp [F52, h1])
  · refine .seq (.seq (.ops (opsF_all (by simp [h1]; rfl) ?_)))
    refine .cond (t := false) (by simp [h1]) (.skip ?_)
    by_cases h2 : b < a
    · refine .seq (.seq (.ops (opsF_all (by simp [h2]; rfl) ?_)))
      refine .cond (t := true) (by simp) (.seq (.ops (opsF_all (by simp; rfl) ?_)))
      exact .ret (by simp [F52, h1, h2])
    · refine .seq (.seq (.ops (opsF_all (by simp [h2]; rfl) ?_)))
      refine .cond (t := false) (by simp [h2]) (.skip ?_)
      refine .seq (.ops (opsF_all (by simp; rfl) ?_))
      exact .ret (by simp [F52, h1, h2])
def fitsV (a n : Int) : Bool := decide (a ≥ -1048576) && (decide (n > 0) && decide (n ≤ IntKind.i64.wrap (1048576 - a)))
theorem fits_pure (a b : Int) (n : Nat) (H : Heap) : Pure Try.prog 62 [.i .i64 a, .i .i64 b] n H (.b (fitsV a b)) := by
  refine .of0 (.enter0 F62_ok (by simp [F62]) ?_) (by simp [VIn.i]) (.b _) n H
  unfold fitsV
  refine .seq (.ops (opsF_all (by simp; rfl) ?_))
  by_cases h1 : -1048576 ≤ a
  · by_cases h2 : 0 < b
    · refine .seq (.ops (opsF_all (by simp [h1, h2]; rfl) ?_))
      exact .ret (by simp [F62, h1, h2])
    · refine .seq (.ops (opsF_all (by simp [h1, h2]; rfl) ?_))
      exact .ret (by simp [F62, h1, h2])
  · refine .seq (.ops (opsF_all (by simp [h1]; rfl) ?_))
    exact .ret (by simp [F62, h1])
theorem and_pure (a b : Bool) (n : Nat) (H : Heap) : Pure Try.prog 60 [.b a, .b b] n H (.b (a && b)) := by
  refine .of0 (.enter0 F60_ok (by simp [F60]) ?_) (by simp [VIn.b]) (.b _) n H
  refine .seq (.ops (opsF_all (by simp; rfl) ?_))
  cases a
  · refine .seq (.ops (opsF_all (by simp; rfl) ?_))
    exact .ret (by simp [F60])
  · refine .seq (.ops (opsF_all (by simp; rfl) ?_))
    exact .ret (by simp [F60])
def known1 (f : FuncId) (args : List V) : Option V :=
  match f, args with
  | 8, [.b w] => some (.ag (fontC w))
  | 65, [.i .i64 _] => some (.b false)
  | 101, [.i .i64 a, .i .i64 b] => some (.b (decide (a < b)))
  | 52, [.i .i64 a, .i .i64 b] => some (.i .i64 (cmpV a b))
  | 62, [.i .i64 a, .i .i64 b] => some (.b (fitsV a b))
  | 60, [.b a, .b b] => some (.b (a && b))
  | _, _ => none
theorem known1_ok : okKnown Try.prog known1 := by
  intro f args v h n H
  unfold known1 at h
  split at h
  · cases h; exact font_pure _ n H
  · cases h; exact nan_pure _ n H
  · cases h; exact less_pure _ _ n H
  · cases h; exact cmp_pure _ _ n H
  · cases h; exact fits_pure _ _ n H
  · cases h; exact and_pure _ _ n H
  · cases h
end Go.Proofs.Ytpgelghkjiejlaa
end
section
set_option maxRecDepth 100000
namespace Go.Proofs.Ytpgelghkjiejlaa
open Go

def int64 : V → Option Int
  | .i .i64 n => some n
  | _ => none
def intsJ : List V → Option (List Int)
  | [] => some []
  | v :: l => match int64 v, intsJ l with | some a, some b => some (a :: b) | _, _ => none
theorem intsJ_ok : ∀ {l : List V} {m : List Int}, intsJ l = some m → l = m.map (V.i .i64) := by
  intro l
  induction l with
  | nil => intro m h; cases h; rfl
  | cons v l ih =>
    intro m h
    simp only [intsJ] at h
    split at h
    · rename_i a b h1 h2
      cases h
      rw [List.map_cons, ← ih h2]
      congr 1
      unfold int64 at h1
      split at h1
      · cases h1; rfl
      · cases h1
    · cases h
/-- The six rectangles of the letter's ink. -/
def regI : List Int := [0, 0, 2, 1, 0, 1, 1, 1, 2, 1, 1, 1, 0, 2, 3, 1, 0, 3, 1, 1, 0, 4, 2, 1]
def rowIs (o : Bool) : Option Blk → Bool
  | some (.row o' cs) => (o == o') && (match intsJ cs with | some m => m == regI | none => false)
  | _ => false
theorem rowIs_ok {o : Bool} {k : Option Blk} (h : rowIs o k = true) : k = some (.row o (regI.map (V.i .i64))) := by
  unfold rowIs at h
  split at h
  · rename_i o' cs
    simp only [Bool.and_eq_true, beq_iff_eq] at h
    obtain ⟨rfl, h2⟩ := h
    split at h2
    · rename_i m hm
      have : m = regI := by simpa using h2
      rw [intsJ_ok hm, this]
    · cases h2
  · cases h
def isReg : RGot → Bool
  | some (.ag [.sl 470 0 4 6 true], _, H) => rowIs true (H.get 470)
  | _ => false
def isInt (m : Int) : RGot → Bool
  | some (v, _, H) => (match int64 v with | some a => a == m | none => false) && rowIs false (H.get 1)
  | _ => false
def isBool (x : Bool) : RGot → Bool
  | some (.b y, _, H) => (x == y) && rowIs false (H.get 1)
  | _ => false
def isBox : RGot → Bool
  | some (.ag l, _, _) => (match intsJ l with | some m => m == [0, 0, 4, 6] | none => false)
  | _ => false
def regH : Tr Blk := .ofL [(1, .row false (regI.map (V.i .i64)))]
theorem run_box : isBox ((runAll known1 tabF 300).call 15 [.ag (fontC false), .i .i64 0, .i .i64 5, .s [65]] 0 .lf) = true := by kernel_rfl
theorem run_area : isInt 10 ((runAll known1 tabF 300).call 23 [.ag [.sl 1 0 4 6 true]] 3 regH) = true := by kernel_rfl
theorem run_has1 : isBool true ((runAll known1 tabF 300).call 21 [.ag [.sl 1 0 4 6 true], .i .i64 2, .i .i64 1] 3 regH) = true := by kernel_rfl
theorem run_has2 : isBool false ((runAll known1 tabF 300).call 21 [.ag [.sl 1 0 4 6 true], .i .i64 1, .i .i64 1] 3 regH) = true := by kernel_rfl
theorem call_ok : okCall Try.prog (runAll known1 tabF 300).call := (runAll_ok known1_ok tabF_ok 300).2
end Go.Proofs.Ytpgelghkjiejlaa
end
