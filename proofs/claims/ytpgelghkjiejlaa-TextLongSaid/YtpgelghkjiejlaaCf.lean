/- TextPlaces and TextFinds over the contracts. -/
import Derived.Test.YtpgelghkjiejlaaCe
set_option linter.unusedVariables false
set_option linter.unusedSimpArgs false
set_option maxRecDepth 4000
namespace Go.Proofs.Ytpgelghkjiejlaa
open Go

def ofH (w : Bool) (s : List UInt8) : Heap := if s = [] then [] else [(4, .row true (cellsW w s)), (5, .row true (List.replicate s.length .un))]
theorem ofH_in (w : Bool) (s : List UInt8) : HIn 6 (ofH w s) := by
  unfold ofH
  split
  · exact .nil' _
  · exact .cons' (by omega) (cellsW_in w s _) (.cons' (by omega) (fun x hx => by rw [(List.mem_replicate.1 hx).2]; exact .un) (.nil' _))
theorem of_ok1 (w : Bool) (s : List UInt8) (hs : s.length ≤ 4096) : ACalls Try.prog 9 [.ag (fontC w), .s s] 1 [] fun v n' H' => v = .ag [slW 4 s.length, slW 5 s.length, .i .i64 (fA w), .i .i64 (fH w)] ∧ n' = 6 ∧ H' = ofH w s := by
  refine (of_ok0 w s hs).weakenR ?_
  rintro v n' H' ⟨rfl, h⟩
  refine ⟨id, _, 6, ofH w s, fun _ _ => rfl, by omega, .id_of (.ag ?_), ⟨fun b k hb => ?_, fun _ _ _ _ _ _ h => h⟩, rfl, rfl, rfl⟩
  · intro x hx
    simp at hx
    rcases hx with rfl | rfl | rfl | rfl
    · exact slW_in fun _ => by omega
    · exact slW_in fun _ => by omega
    · exact .i _ _
    · exact .i _ _
  · have hin := ofH_in w s b k hb
    refine ⟨hin.1, k, ?_, .old (Nat.le_refl _) (fun _ _ => rfl) hin.2⟩
    unfold ofH at hb
    split at hb
    · simp at hb
    · rename_i hne
      obtain ⟨h4, h5⟩ := h hne
      simp only [aget_cons, aget_nil] at hb
      repeat' split at hb
      · rename_i e; cases hb; subst e; exact h4
      · rename_i e; cases hb; subst e; exact h5
      · cases hb
theorem at_eq (w : Bool) (s : List UInt8) (dx : Int) (h : s.length ≤ 4096) : atN w s dx = atF w dx 0 0 s := by
  unfold atN
  split
  · rename_i h0; exact (atF_neg w dx h0 s).symm
  · rw [List.take_of_length_le h]
theorem set_font (w : Bool) (z : V) : setAll (List.replicate 1617 z) 0 (fontC w) = fontC w := setAll_full (by simp [-List.reduceReplicate])
theorem ofH_4 (w : Bool) (s : List UInt8) (h : s ≠ []) : aget (ofH w s) 4 = some (.row true (cellsW w s)) := by simp [ofH, h]
theorem places_ok (hF : ∀ w n H, Pure Try.prog 8 [.b w] n H (.ag (fontC w))) (hA : ∀ n H, Pure Try.prog 7 [] n H (.b true)) (w : Bool) (s : List UInt8) (dx wd : Int) :
    ACalls Try.prog 3 [.b w, .s s, .i .i64 dx, .i .i64 wd] 0 [] fun v _ _ => v = .b true := by
  refine .enter0 F3_ok (by simp [F3]) ?_
  refine .seq (.ops (opsF_all (by simp; rfl) ?_))
  by_cases h60 : 60 < s.length
  · have h60' : (60 : Int) < s.length := by omega
    refine .seq (.seq (.ops (opsF_all (by simp [h60']; rfl) ?_)))
    refine .cond (t := true) (by simp) (.seq (.ops ?_))
    refine opsF_cons_call rfl rfl rfl (v := .b true) (hA _ _) (opsF_all (by simp; rfl) ?_)
    exact .ret (by simp [F3])
  have h60' : ¬ (60 : Int) < s.length := by omega
  refine .seq (.seq (.ops (opsF_all (by simp [h60']; rfl) ?_)))
  refine .cond (t := false) (by simp) (.skip ?_)
  generalize hZ : List.replicate 1617 (V.i IntKind.i64 0) = Z
  have hZl : Z.length = 1617 := by rw [← hZ, List.length_replicate]
  have hset : setAll Z 0 (fontC w) = fontC w := setAll_full (by rw [fontC_len, hZl])
  clear hZ
  refine .seq (.ops (opsF_run 1 (by simp; rfl) ?_))
  refine opsF_cons_call rfl rfl rfl (v := .ag (fontC w)) (hF w _ _) ?_
  refine opsF_all (by simp [-List.all_eq_true, hset, hZl]; rfl) ?_
  refine .seq (.ops (opsF_run 2 (by simp; rfl) ?_))
  refine opsF_call rfl rfl (callV_fn (ACalls.mono (ACalls.frame (fr := []) (fw := []) (of_ok1 w s (by omega)) ?_) ?_))
  · rintro v n1 R ⟨rfl, rfl, rfl⟩ b k ht hb
    unfold ofH at hb
    split at hb
    · simp at hb
    · simp only [aget_cons, aget_nil] at hb
      repeat' split at hb
      all_goals cases hb <;> rfl
  rintro v n1 H' ⟨R, ⟨rfl, rfl, rfl⟩, rfl⟩
  refine opsF_all (by simp [setAll]; rfl) ?_
  have hs4 : s.length ≤ 4096 := by omega
  have ha : ∀ R : List V, s ≠ [] → 4 < 7 ∧ ∃ o, aget (restr ((6, Blk.row true R) :: (0, Blk.row true (fontC w)) :: ofH w s) [4] []) 4 = some (.row o (cellsW w s)) := fun R hne => ⟨by omega, false, by
    have := ofH_4 w s hne
    simp [this]⟩
  refine AWc.alikeH (H := (6, .row true [slW 4 s.length, slW 5 s.length, .i .i64 (fA w), .i .i64 (fH w)]) :: (0, .row true (fontC w)) :: ofH w s) (fun b => ?_) ?_
  · simp only [aget_mergeH, aget_cons, aget_nil]
    by_cases e6 : 6 = b
    · simp [e6]
    rw [if_neg e6, if_neg e6]
    by_cases e0 : 0 = b
    · subst e0; simp
    rw [if_neg e0]
    split
    · rfl
    · rename_i hb
      cases hx : aget (ofH w s) b with
      | none => rfl
      | some k =>
        have := (ofH_in w s b k hx).1
        simp at hb
        omega
  refine .seq (.drawP (by rfl) ?_)
  refine drawP_run 3 (by rfl) (by simp; rfl) ?_
  refine drawP_call [] rfl rfl rfl (at_pure w s dx _ _) (by simp) (.i _ _) ?_
  refine drawP_run 2 (by rfl) (by simp; rfl) ?_
  refine drawP_call [4] rfl rfl rfl (refAt_pure w s (by omega) 4 _ _ _ (by simp) rfl rfl dx _ _ (ha _)) (by simp) (.i _ _) ?_
  refine drawP_run 5 (by rfl) (by simp [at_eq w s dx hs4]; rfl) ?_
  refine drawP_call [] rfl rfl rfl (fit_pure w s wd _ _) (by simp) (.i _ _) ?_
  refine drawP_run 2 (by rfl) (by simp; rfl) ?_
  refine drawP_call [4] rfl rfl rfl (refFit_pure w s (by omega) 4 _ _ _ (by simp) rfl rfl wd _ _ (ha _)) (by simp) (.i _ _) ?_
  refine drawP_run 3 (by rfl) (by simp [at_eq w s wd hs4]; rfl) ?_
  refine drawP_call [] rfl rfl rfl (hA _ _) (by simp) (.b _) ?_
  refine drawP_all (by rfl) (by simp; rfl) ?_
  exact AWc.ret (by simp [F3])
theorem atF_spec (w : Bool) (dx : Int) : ∀ (s : List UInt8) (acc i : Nat), ∃ j, atF w dx acc i s = i + j ∧ j ≤ s.length ∧ ((acc : Int) ≤ dx → ((acc + pw w (s.take j) : Nat) : Int) ≤ dx) ∧ (j < s.length → dx < ((acc + pw w (s.take (j + 1)) : Nat) : Int)) := by
  intro s
  induction s with
  | nil => intro acc i; exact ⟨0, rfl, Nat.le_refl _, fun h => by simpa [pw] using h, fun h => by simp at h⟩
  | cons b s ih =>
    intro acc i
    unfold atF
    split
    · rename_i h
      exact ⟨0, rfl, by simp, fun h => by simpa [pw] using h, fun _ => by simpa [pw] using h⟩
    · rename_i h
      obtain ⟨j, h1, h2, h3, h4⟩ := ih (acc + fW w (plc b)) (i + 1)
      refine ⟨j + 1, by omega, by simpa using h2, fun h0 => ?_, fun hj => ?_⟩
      · have := h3 (by omega)
        rw [List.take_succ_cons, pw_cons]
        omega
      · have := h4 (by simpa using hj)
        rw [List.take_succ_cons, pw_cons]
        omega
theorem pw_take_le (w : Bool) (s : List UInt8) (k : Nat) : pw w (s.take k) ≤ pw w s := by
  have := pw_append w (s.take k) (s.drop k)
  rw [List.take_append_drop] at this
  omega
theorem finds_ok (hF : ∀ w n H, Pure Try.prog 8 [.b w] n H (.ag (fontC w))) (hA : ∀ n H, Pure Try.prog 7 [] n H (.b true)) (w : Bool) (s : List UInt8) (m : Int) (hm : 0 ≤ m ∧ m < 65536) :
    ACalls Try.prog 4 [.b w, .s s, .i .u16 m] 0 [] fun v _ _ => v = .b true := by
  refine .enter0 F4_ok (by simp [F4]) ?_
  refine .seq (.ops (opsF_all (by simp; rfl) ?_))
  by_cases h60 : 60 < s.length
  · have h60' : (60 : Int) < s.length := by omega
    refine .seq (.seq (.ops (opsF_all (by simp [h60']; rfl) ?_)))
    refine .cond (t := true) (by simp) (.seq (.ops ?_))
    refine opsF_cons_call rfl rfl rfl (v := .b true) (hA _ _) (opsF_all (by simp; rfl) ?_)
    exact .ret (by simp [F4])
  have h60' : ¬ (60 : Int) < s.length := by omega
  have hs4 : s.length ≤ 4096 := by omega
  have hpw := pw_le w s
  refine .seq (.seq (.ops (opsF_all (by simp [h60']; rfl) ?_)))
  refine .cond (t := false) (by simp) (.skip ?_)
  generalize hZ : List.replicate 1617 (V.i IntKind.i64 0) = Z
  have hZl : Z.length = 1617 := by rw [← hZ, List.length_replicate]
  have hset : setAll Z 0 (fontC w) = fontC w := setAll_full (by rw [fontC_len, hZl])
  clear hZ
  have hwm : IntKind.i64.wrap m = m := IntWalk.i64_in _ (by omega)
  have hw9 : IntKind.i64.wrap ((pw w s : Int) + 9) = (pw w s : Int) + 9 := IntWalk.i64_in _ (by omega)
  have hn9 : ¬ ((pw w s : Int) + 9 = 0) := by omega
  refine .seq (.ops (opsF_run 1 (by simp; rfl) ?_))
  refine opsF_cons_call rfl rfl rfl (v := .ag (fontC w)) (hF w _ _) ?_
  refine opsF_all (by simp [-List.all_eq_true, hset, hZl]; rfl) ?_
  refine .seq (.ops (opsF_run 4 (by simp [hwm]; rfl) ?_))
  refine opsF_cons_call rfl rfl rfl (v := .i .i64 (pw w s)) (width_pure w s (by omega) _ _) ?_
  refine opsF_all (by simp [hw9, hn9]; rfl) ?_
  have hdx0 : 0 ≤ m.tmod ((pw w s : Int) + 9) := Int.tmod_nonneg _ hm.1
  generalize m.tmod ((pw w s : Int) + 9) = dx at hdx0 ⊢
  have hat := at_eq w s dx hs4
  obtain ⟨k, hk, hkl, hk1, hk2⟩ := atF_spec w dx s 0 0
  simp only [Nat.zero_add] at hk hk1 hk2
  have hk1 := hk1 (by omega)
  rw [hk] at hat
  clear hk
  refine .seq (.drawP (by rfl) ?_)
  refine drawP_run 3 (by rfl) (by simp; rfl) ?_
  refine drawP_call [] rfl rfl rfl (v := .i .i64 k) (hat ▸ at_pure w s dx _ _) (by simp) (.i _ _) ?_
  refine drawP_run 3 (by rfl) (by simp; rfl) ?_
  refine drawP_call [] rfl rfl rfl (v := .i .i64 k) (hat ▸ fit_pure w s dx _ _) (by simp) (.i _ _) ?_
  refine drawP_all (by rfl) (by simp; rfl) ?_
  have hkl' : ¬ (s.length : Int) < k := by omega
  have hk0 : ¬ (k : Int) < 0 := by omega
  have hk1' : ¬ dx < (pw w (s.take k) : Int) := by omega
  have hwk : IntKind.i64.wrap ((k : Int) + 1) = ((k + 1 : Nat) : Int) := IntWalk.i64_in _ (by omega)
  have hpk : ∀ n H, Pure Try.prog 14 [.ag (fontC w), .s (s.take k)] n H (.i .i64 (pw w (s.take k))) := fun n H => width_pure w _ (by simp; omega) n H
  have hlast : k < s.length ↔ dx < (pw w s : Int) := by
    constructor
    · intro hlt
      have h1 := hk2 hlt
      have h2 := pw_take_le w s (k + 1)
      omega
    · intro h
      refine Nat.lt_of_not_le fun hle => ?_
      have : k = s.length := by omega
      subst this
      rw [List.take_length] at hk1
      omega
  have hpw' : ∀ n H, Pure Try.prog 14 [.ag (fontC w), .s s] n H (.i .i64 (pw w s)) := fun n H => width_pure w s (by omega) n H
  have hp1 : k < s.length → ∀ n H, Pure Try.prog 14 [.ag (fontC w), .s (s.take (k + 1))] n H (.i .i64 (pw w (s.take (k + 1)))) := fun h n H => width_pure w _ (by simp; omega) n H
  have hk2' : k < s.length → ¬ (pw w (s.take (k + 1)) : Int) ≤ dx := fun h => by have := hk2 h; omega
  generalize pw w (s.take k) = p0 at hk1 hk1' hpk
  generalize pw w (s.take (k + 1)) = p1 at hk2 hk2' hp1
  generalize pw w s = pa at hlast hpw'
  clear hk2 hk1 hpw hw9 hn9 hat
  refine AWc.seq (AWc.forget (T0 := [(1, .s s), (7, .p 0 0), (8, .i .i64 dx), (9, .i .i64 k), (10, .i .i64 k)]) (by simp) ?_)
  refine AWc.seq (.drawP (by rfl) ?_)
  refine drawP_run 9 (by rfl) (by simp [hkl', hk0, hkl]; rfl) ?_
  refine drawP_run 14 (by rfl) (by simp [hkl', hk0, hkl]; rfl) ?_
  refine drawP_call [] rfl rfl rfl (v := .i .i64 p0) (hpk _ _) (by simp) (.i _ _) ?_
  refine drawP_run 8 (by rfl) (by simp [hk1', hkl]; rfl) ?_
  refine drawP_call [] rfl rfl rfl (v := .i .i64 p0) (hpk _ _) (by simp) (.i _ _) ?_
  refine drawP_all (by rfl) (by simp [hk1']; rfl) ?_
  refine AWc.cond (t := false) (by simp) (.skip ?_)
  obtain ⟨k1, hk1e⟩ : ∃ k1, k1 = k + 1 := ⟨_, rfl⟩
  rw [← hk1e] at hwk hp1
  refine AWc.seq (AWc.forget (T0 := [(1, .s s), (7, .p 0 0), (8, .i .i64 dx), (9, .i .i64 k), (10, .i .i64 k)]) (by simp) ?_)
  by_cases hlt : k < s.length
  · have hlt' : (k : Int) < s.length := by omega
    have hd : dx < (pa : Int) := hlast.1 hlt
    have h1' := hk2' hlt
    have hk1l : k1 ≤ s.length := by omega
    have hp1 := hp1 hlt
    refine AWc.seq (.drawP (by rfl) ?_)
    refine drawP_run 10 (by rfl) (by simp [hlt', hwk, hk1l]; rfl) ?_
    refine drawP_call [] rfl rfl rfl (v := .i .i64 p1) (hp1 _ _) (by simp) (.i _ _) ?_
    refine drawP_run 4 (by rfl) (by simp [h1']; rfl) ?_
    refine drawP_run 10 (by rfl) (by simp [hlt', hwk, hk1l]; rfl) ?_
    refine drawP_call [] rfl rfl rfl (v := .i .i64 p1) (hp1 _ _) (by simp) (.i _ _) ?_
    refine drawP_all (by rfl) (by simp [h1']; rfl) ?_
    refine AWc.cond (t := false) (by simp) (.skip ?_)
    refine AWc.seq (AWc.forget (T0 := [(1, .s s), (7, .p 0 0), (8, .i .i64 dx), (9, .i .i64 k), (10, .i .i64 k)]) (by simp) ?_)
    refine .ops (opsF_run 7 (by simp [hlt']; rfl) ?_)
    refine opsF_cons_call rfl rfl rfl (v := .i .i64 pa) (hpw' _ _) ?_
    refine opsF_run 8 (by simp [hd]; rfl) ?_
    refine opsF_cons_call rfl rfl rfl (v := .b true) (hA _ _) (opsF_all (by simp; rfl) ?_)
    exact .ret (by simp [F4])
  · have hlt' : ¬ (k : Int) < s.length := by omega
    have hd : ¬ dx < (pa : Int) := fun h => hlt (hlast.2 h)
    refine AWc.seq (.drawP (by rfl) ?_)
    refine drawP_run 10 (by rfl) (by simp [hlt']; rfl) ?_
    refine drawP_skip (by simp) ?_
    refine drawP_run 4 (by rfl) (by simp [hlt']; rfl) ?_
    refine drawP_run 10 (by rfl) (by simp [hlt']; rfl) ?_
    refine drawP_skip (by simp) ?_
    refine drawP_all (by rfl) (by simp [hlt']; rfl) ?_
    refine AWc.cond (t := false) (by simp) (.skip ?_)
    refine AWc.seq (AWc.forget (T0 := [(1, .s s), (7, .p 0 0), (8, .i .i64 dx), (9, .i .i64 k), (10, .i .i64 k)]) (by simp) ?_)
    refine .ops (opsF_run 7 (by simp [hlt']; rfl) ?_)
    refine opsF_cons_call rfl rfl rfl (v := .i .i64 pa) (hpw' _ _) ?_
    refine opsF_run 8 (by simp [hd]; rfl) ?_
    refine opsF_cons_call rfl rfl rfl (v := .b true) (hA _ _) (opsF_all (by simp; rfl) ?_)
    exact .ret (by simp [F4])
end Go.Proofs.Ytpgelghkjiejlaa
