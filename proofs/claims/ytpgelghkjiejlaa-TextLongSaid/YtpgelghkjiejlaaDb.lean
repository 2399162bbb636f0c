/- TextLong over the contracts. -/
import Derived.Test.YtpgelghkjiejlaaDa
set_option linter.unusedVariables false
set_option linter.unusedSimpArgs false
set_option maxRecDepth 60000
namespace Go.Proofs.Ytpgelghkjiejlaa
open Go
attribute [local irreducible] fontC

theorem pw_tiny (s : List UInt8) : pw false s = 4 * s.length := by
  induction s with
  | nil => rfl
  | cons b s ih => rw [pw_cons, ih, List.length_cons]; simp [fW]; omega
/-- The bytes of which the first i are laid. -/
def bl (i : Nat) : List V := (List.range 5000).map fun p => .i .u8 (if p < i then 65 else 0)
theorem bl_len (i : Nat) : (bl i).length = 5000 := by simp [bl]
theorem bl_get (i : Nat) {p : Nat} (h : p < 5000) : (bl i)[p]? = some (.i .u8 (if p < i then 65 else 0)) := by
  simp only [bl, List.getElem?_map, List.getElem?_range h, Option.map_some]
theorem bl_none (i : Nat) {p : Nat} (h : ¬ p < 5000) : (bl i)[p]? = none := List.getElem?_eq_none (by rw [bl_len]; omega)
theorem bl_zero : zrep [V.i .u8 0] 5000 = bl 0 := by
  apply List.ext_getElem?
  intro p
  show (List.replicate 5000 (V.i .u8 0))[p]? = _
  by_cases h : p < 5000
  · rw [bl_get _ h, if_neg (by omega), List.getElem?_replicate, if_pos h]
  · rw [bl_none _ h, List.getElem?_replicate, if_neg h]
theorem bl_set {i : Nat} (h : i < 5000) : setAll (bl i) i [V.i .u8 65] = bl (i + 1) := by
  apply List.ext_getElem?
  intro p
  rw [setAll_get _ _ _ (by simp [bl_len]; omega)]
  simp only [List.length_cons, List.length_nil, Nat.zero_add]
  by_cases hp : p < 5000
  · rw [bl_get _ hp, bl_get _ hp]
    by_cases e : p < i
    · rw [if_pos e, if_pos e, if_pos (by omega)]
    · rw [if_neg e]
      by_cases e2 : p = i
      · subst e2
        rw [if_pos (by omega), if_pos (by omega)]
        simp
      · rw [if_neg (by omega), if_neg e, if_neg (by omega)]
  · rw [bl_none _ hp, bl_none _ hp, if_neg (by omega), if_neg (by omega)]
theorem bl_in (i n : Nat) : ∀ x ∈ bl i, VIn n x := by
  intro x hx
  simp only [bl, List.mem_map] at hx
  obtain ⟨p, _, rfl⟩ := hx
  exact .i _ _
theorem bytes_all : ∀ (l : List V), (∀ x ∈ l, x = V.i .u8 65) → bytesOf l = some (List.replicate l.length 65) := by
  intro l
  induction l with
  | nil => intro _; rfl
  | cons v l ih =>
    intro h
    have hv := h v (by simp)
    subst hv
    simp only [bytesOf, ih fun x hx => h x (by simp [hx])]
    rfl
theorem bl_bytes : bytesOf (bl 5000) = some (List.replicate 5000 65) := by
  rw [bytes_all, bl_len]
  intro x hx
  simp only [bl, List.mem_map, List.mem_range] at hx
  obtain ⟨p, hp, rfl⟩ := hx
  rw [if_pos hp]
attribute [local irreducible] bl
theorem long_ok (hA : ∀ n H, Pure Try.prog 7 [] n H (.b true)) (hF : ∀ w n H, Pure Try.prog 8 [.b w] n H (.ag (fontC w))) : ACalls Try.prog 5 [] 0 [] fun v _ _ => v = .b true := by
  have hin : ∀ i, HIn 1 [(0, .row true (bl i))] := fun i => .cons' (by omega) (bl_in i _) (.nil' _)
  refine .enter0 F5_ok (by simp [F5]) ?_
  refine .seq (.ops (opsF_all (by simp; rfl) ?_))
  generalize hZ : List.replicate 1617 (V.i IntKind.i64 0) = Z
  have hZl : Z.length = 1617 := by rw [← hZ, List.length_replicate]
  have hset : setAll Z 0 (fontC false) = fontC false := setAll_full (by rw [fontC_len, hZl])
  clear hZ
  refine AWc.seq (.ops (opsF_all (by simp [-zrep_sing, bl_zero]; rfl) ?_))
  refine .seq (.seq (.ops (opsF_all (by simp; rfl) ?_)))
  obtain ⟨M, hM⟩ : ∃ M, M = 5000 := ⟨_, rfl⟩
  refine .block (.loopR (φ₀ := id) (k₀ := M) (s₀ := ⟨[(1, .sl 0 0 1 5000 true), (6, .i .i64 5000), (7, .i .i64 0)], [], 1, [(0, .row true (bl 0))]⟩)
    (fun k st => ∃ i, i ≤ M ∧ k = M - i ∧ st = ⟨[(1, .sl 0 0 1 5000 true), (6, .i .i64 5000), (7, .i .i64 i)], [], 1, [(0, .row true (bl i))]⟩)
    ⟨0, by omega, by omega, rfl⟩ ⟨TReL.spec ?_, rfl, by simp, .same (hin 0) fun b _ => rfl⟩ (fun b hb => rfl) (fun k st ⟨i, h1, h2, h3⟩ => by simp [h3]) ?_)
  · simp only [TReL, and_true]
    simp
    exact ⟨VRe.sl (φ := id) (by omega) (fun h => h), .i _ _, .i _ _⟩
  rintro k st ⟨i, h1, rfl, rfl⟩
  by_cases hi : i < 5000
  · have hi' : (i : Int) < 5000 := by omega
    have hs := bl_set hi
    have hl := bl_len i
    have hb : i + 1 ≤ 5000 := hi
    have hwi : IntKind.i64.wrap ((i : Int) + 1) = ((i + 1 : Nat) : Int) := IntWalk.i64_in _ (by omega)
    refine .seq (.ops (opsF_all (by simp [hi']; rfl) ?_))
    refine .seq (.cond (t := true) (by simp) (.skip ?_))
    refine .seq (.block (.seq (.ops (opsF_all (by simp; rfl) ?_))))
    refine .ops (opsF_run 2 (by simp; rfl) ?_)
    refine opsF_run 1 (by simp [hi']; rfl) ?_
    generalize bl i = B at hs hl ⊢
    refine opsF_all (by simp [hs, hl, hb]; rfl) ?_
    refine .ops (opsF_all (by simp [hwi]; rfl) ?_)
    refine ⟨M - (i + 1), id, _, by omega, ⟨i + 1, by omega, rfl, rfl⟩, fun _ _ => rfl, ⟨TReL.spec ?_, rfl, by simp, .same (hin _) fun b hb => rfl⟩⟩
    simp only [TReL, and_true]
    simp
    exact ⟨VRe.sl (φ := id) (by omega) (fun h => h), .i _ _, .i _ _⟩
  · obtain rfl : i = 5000 := by omega
    clear hM
    refine .seq (.ops (opsF_all (by simp; rfl) ?_))
    refine .seq (.cond (t := false) (by simp) (.exit ?_))
    refine AWc.seq (.ops (opsF_cons_call rfl rfl rfl (v := .ag (fontC false)) (hF false _ _) ?_))
    refine opsF_all (by simp [-List.all_eq_true, hset, hZl]; rfl) ?_
    obtain ⟨S, hS⟩ : ∃ S, S = List.replicate 5000 (65 : UInt8) := ⟨_, rfl⟩
    have hSl : S.length = 5000 := by rw [hS, List.length_replicate]
    have hb2 : evB2s [(1, .row true (fontC false)), (0, .row true (bl 5000))] (.sl 0 0 1 5000 true) = some (.s S) := by
      have h1 : cellsOf [(1, .row true (fontC false)), (0, .row true (bl 5000))] 1 (.sl 0 0 1 5000 true) = some (bl 5000) := by
        simp only [cellsOf, aget_cons]
        have : (bl 5000).take 5000 = bl 5000 := List.take_of_length_le (by rw [bl_len]; exact Nat.le_refl _)
        simp [bl_len, this]
      unfold evB2s
      rw [h1, hS]
      simp only [bl_bytes, Option.map_some]
    have htl : (S.take 4096).length = 4096 := by rw [List.length_take, hSl]; rfl
    have hbox : boxV false 0 5 S = rectV 0 0 16384 6 := by
      unfold boxV
      rw [pw_tiny, htl]
      have c1 : (coordV 0 && coordV 5) = true := by decide
      have c2 : (rfitsV 0 ((4 * 4096 : Nat) : Int) && rfitsV (5 - ((fA false : Nat) : Int)) ((fH false : Nat) : Int)) = true := by decide
      rw [if_pos c1, if_pos c2]
      rfl
    have hat : atN false S 1099511627776 = 4096 := by
      unfold atN
      rw [if_neg (by omega)]
      obtain ⟨j, h1, h2, h3, h4⟩ := atF_spec false 1099511627776 (S.take 4096) 0 0
      rw [h1]
      have : ¬ j < (S.take 4096).length := fun h => by
        have h5 := h4 h
        have h6 := pw_take_le false (S.take 4096) (j + 1)
        rw [pw_tiny (S.take 4096), htl] at h6
        omega
      omega
    have hpb := fun n H => boxG_pure false 0 5 S n H
    rw [hbox] at hpb
    have hpa := fun n H => at_pure false S 1099511627776 n H
    have hpf := fun n H => fit_pure false S 1099511627776 n H
    rw [hat] at hpa hpf
    clear hS hat hbox htl hSl
    refine AWc.seq (AWc.forget (T0 := [(1, .sl 0 0 1 5000 true), (3, .p 1 0)]) (by simp) ?_)
    refine .ops (opsF_run 3 (by simp [hb2]; rfl) ?_)
    refine opsF_cons_call rfl rfl rfl (v := rectV 0 0 16384 6) (hpb _ _) ?_
    refine opsF_run 3 (by simp [rectV, setAll, evEqs, eqAll]; rfl) ?_
    refine opsF_run 3 (by simp [hb2]; rfl) ?_
    refine opsF_cons_call rfl rfl rfl (v := .i .i64 (4096 : Nat)) (hpa _ _) ?_
    refine opsF_run 3 (by simp; rfl) ?_
    refine opsF_run 3 (by simp [hb2]; rfl) ?_
    refine opsF_cons_call rfl rfl rfl (v := .i .i64 (4096 : Nat)) (hpf _ _) ?_
    refine opsF_run 3 (by simp; rfl) ?_
    refine opsF_cons_call rfl rfl rfl (v := .b true) (hA _ _) (opsF_all (by simp; rfl) ?_)
    exact .ret (by simp [F5])
end Go.Proofs.Ytpgelghkjiejlaa
