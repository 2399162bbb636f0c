/- Ids laid anew: what stood keeps its ids. -/
import Derived.Test.YtpgelghkjiejlaaSmRC
set_option linter.unusedVariables false
set_option linter.unusedSimpArgs false
namespace Go.Proofs.Ytpgelghkjiejlaa
open Go
theorem VRe.mono {φ : Nat → Nat} {n m : Nat} (hn : n ≤ m) {v v' : V} (h : VRe φ n v v') : VRe φ m v v' := by
  induction h with
  | un v => exact .un v
  | b x => exact .b x
  | i k n => exact .i k n
  | s l => exact .s l
  | nilp => exact .nilp
  | p h => exact .p (by omega)
  | nils => exact .nils
  | sl h hf => exact .sl (by omega) hf
  | nilf => exact .nilf
  | fn hl _ hl' _ ih ih' => exact .fn hl ih hl' ih'
  | yl h => exact .yl (by omega)
  | nili => exact .nili
  | ifc _ ih => exact .ifc ih
  | ag hl _ ih => exact .ag hl ih
  | tu hl _ ih => exact .tu hl ih
theorem VReL.mono {φ : Nat → Nat} {n m : Nat} (hn : n ≤ m) : ∀ {xs ys : List V}, VReL φ n xs ys → VReL φ m xs ys
  | [], [], _ => trivial
  | _ :: _, _ :: _, h => ⟨h.1.mono hn, VReL.mono hn h.2⟩
  | [], _ :: _, h => h.elim
  | _ :: _, [], h => h.elim
theorem BRe.old {φ : Nat → Nat} {n m : Nat} (hn : n ≤ m) (hφ : ∀ b, b < n → φ b = b) {k : Blk} (h : BIn n k) : BRe φ m k k := by
  cases k with
  | row o cs => exact .row (fun h => h) ((VReL.refl hφ h).mono hn)
  | loop r => exact .loop rfl rfl rfl rfl rfl rfl (by have := h.1; omega) (hφ _ h.1).symm fun i v hv => ⟨v, hv, (VRe.refl hφ (h.2 i v hv)).mono hn⟩
  | marks => exact .marks
/-- What stood below n keeps its ids; 'new' are those of the new blocks that are kept. -/
theorem HRe.keep {φ : Nat → Nat} {n m : Nat} {new H H' : Heap} (hin : HIn n H) (hn : n ≤ m) (hφ : ∀ b, b < n → φ b = b) (hφ' : ∀ b, n ≤ b → n ≤ φ b) (hold : ∀ b k, b < n → aget H b = some k → aget H' b = some k)
    (hnew : ∀ b k, aget new b = some k → n ≤ b ∧ b < m ∧ ∃ k', aget H' (φ b) = some k' ∧ BRe φ m k k')
    (hinj : ∀ b1 b2 k1 k2, aget new b1 = some k1 → aget new b2 = some k2 → φ b1 = φ b2 → b1 = b2) : HRe φ m (new ++ H) H' := by
  have hc : ∀ b k, aget (new ++ H) b = some k → aget new b = some k ∨ aget H b = some k := by
    intro b k hb
    rw [aget_append] at hb
    split at hb
    · rename_i k' hk; cases hb; exact .inl hk
    · exact .inr hb
  refine ⟨fun b k hb => ?_, fun b1 b2 k1 k2 h1 h2 he => ?_⟩
  · rcases hc b k hb with h1 | h1
    · exact ⟨(hnew b k h1).2.1, (hnew b k h1).2.2⟩
    · obtain ⟨h2, h3⟩ := hin b k h1
      exact ⟨by omega, k, by rw [hφ b h2]; exact hold b k h2 h1, .old hn hφ h3⟩
  · rcases hc b1 k1 h1 with g1 | g1 <;> rcases hc b2 k2 h2 with g2 | g2
    · exact hinj _ _ _ _ g1 g2 he
    · have a1 := hφ' b1 (hnew _ _ g1).1
      have a2 := (hin _ _ g2).1
      rw [hφ b2 a2] at he
      omega
    · have a1 := hφ' b2 (hnew _ _ g2).1
      have a2 := (hin _ _ g1).1
      rw [hφ b1 a2] at he
      omega
    · rw [hφ _ (hin _ _ g1).1, hφ _ (hin _ _ g2).1] at he
      exact he
theorem aget_one {α : Type} {i b : Nat} {x k : α} (h : aget [(i, x)] b = some k) : b = i ∧ k = x := by
  rw [aget_cons] at h
  by_cases e : i = b
  · rw [if_pos e] at h; cases h; exact ⟨e.symm, rfl⟩
  · rw [if_neg e] at h; cases h
end Go.Proofs.Ytpgelghkjiejlaa
