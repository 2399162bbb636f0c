/- Each operation's run (fifth part): make, cuts, addresses, append, copy, clear. -/
import Derived.Test.YtpgelghkjiejlaaSmI
set_option linter.unusedVariables false
set_option linter.unusedSimpArgs false
namespace Go.Proofs.Ytpgelghkjiejlaa
open Go
section ops
variable {pc : PrepC} {P : Program} {ρ : Ren} {n : Nat} {H : Heap} {w : World}

theorem run_asInt {k : IntKind} {m : Int} : (asInt (.int k m)).run P w = .ok m w := by simp [asInt, asIntOf]
theorem run_askRoom (b : Nat) : (askRoom b).run P w = .ok () w := by
  unfold askRoom
  split <;> simp [mark, Sem.run, pure]
theorem gets_mks (s : Sim pc ρ n H w) {t e : TypeId} {i : TypeInfo} {z : List V} (ht : P.underlying t = some (.slice e)) (hi : P.info? e = some i) (hz : zeroL P e = some z) (h0 : 0 < i.size) (hzl : z.length = i.size)
    {x y : V} {x' y' : Value} (rx : VRel ρ x x') (ry : VRel ρ y y') {v : V} {n' : Nat} {H' : Heap} (ev : evMks n H i.size i.bytes z x y = some (v, n', H')) : Gets pc P ρ n H w (Instr.makeSlice t x' y') v n' H' := by
  unfold evMks at ev
  split at ev
  · rename_i k l k' c
    split at ev
    · rename_i hc
      obtain ⟨h1, h2, h3, h4⟩ := hc
      cases ev
      cases i_inv rx; cases i_inv ry
      obtain ⟨zv, hz1, hz2⟩ := zeroL_inv (P := P) (w := w) (ρ := ρ) hz
      have hzs : zv.cells.size = i.size := by have := hz2.1; simp at this; omega
      have hrep := zrep_rel hz2 c.toNat
      rw [hzl] at hrep
      obtain ⟨hle, hn, hs, he⟩ := s.allocRow (zrep z c.toNat) ((Array.range (c.toNat * i.size)).map (fun j => zv.cells[j % zv.cells.size]!)) e (by have := hrep.1; simp at this; simp [this]) (rel_get hrep)
      have hw1 : IntKind.i64.wrap l = l := IntWalk.i64_in _ (by omega)
      have hw2 : IntKind.i64.wrap c = c := IntWalk.i64_in _ (by omega)
      have hmul : (i.bytes : Int) * c ≤ 140737488355328 := by rw [Int.mul_comm]; exact h3
      have hmull : (i.bytes : Int) * l ≤ 140737488355328 := Int.le_trans (Int.mul_le_mul_of_nonneg_left h2 (by omega)) hmul
      refine ⟨.slice (some ⟨w.heap.size, 0, none⟩) l.toNat c.toNat, _, _, ?_, ?_, hs, he⟩
      · simp only [Instr.makeSlice, Sem.run_bind, run_under ht, Result.andThen_ok, run_asInt, run_info hi, hw1, hw2]
        rw [if_neg]
        · simp only [Sem.run_bind, run_askRoom, Result.andThen_ok, run_sizeL (show sizeL P e = some i.size by simp [sizeL, hi])]
          by_cases hn0 : c.toNat * i.size = 0
          · simp only [hn0, if_true, Sem.run_bind, Sem.run_pure, Result.andThen_ok, run_newRow, show Array.range 0 = #[] from rfl, Array.map_empty]
          · simp only [hn0, if_false, Sem.run_bind, hz1, Sem.run_pure, Result.andThen_ok, run_newRow]
        · simp only [Bool.or_eq_true, decide_eq_true_eq]
          omega
      · refine .sl hn (by omega) (fun h => ?_) (fun _ => ⟨by simp, by simp⟩)
        simp only [beq_iff_eq] at h
        rw [h]
    · cases ev
  · cases ev

theorem natOf_inv {x : V} {m : Nat} (h : natOf x = some m) {y : Value} (r : VRel ρ x y) : ∃ k i, y = .int k i ∧ 0 ≤ i ∧ i.toNat = m := by
  unfold natOf at h
  split at h
  · split at h
    · cases h; cases i_inv r; exact ⟨_, _, rfl, by assumption, rfl⟩
    · cases h
  · cases h
theorem run_sliceBound {x : V} {y : Value} (r : VRel ρ x y) {m : Nat} (h : natOf x = some m) {b : Nat} (hb : m ≤ b) (code : BoundsCode) : (Instr.sliceBound y b code).run P w = .ok m w := by
  obtain ⟨k, i, rfl, h0, rfl⟩ := natOf_inv h r
  simp only [Instr.sliceBound, asIntOf, Sem.run_bind, Sem.run_pure, Result.andThen_ok]
  rw [if_pos ⟨h0, by omega⟩]
  simp
/-- An optional operand and its value. -/
def ORel (ρ : Ren) : Option V → Option Value → Prop
  | none, none => True
  | some x, some y => VRel ρ x y
  | _, _ => False
theorem prepO_rel {N : Nat} {T : Temps} {a : Act} (tr : TRel ρ N T a.tmps) {x : Option Operand} {ax : Option AX} (h : prepO x = some ax) : ORel ρ (ax.map (·.val T)) (x.map a.eval) := by
  cases x with
  | none => cases h; trivial
  | some x =>
    simp only [prepO] at h
    obtain ⟨v, h1, rfl⟩ := Option.map_eq_some_iff.1 h
    exact prepX_rel tr h1
theorem run_sliceBounds {isSlice : Bool} {len cap : Nat} {lo hi mx : Option V} {lo' hi' mx' : Option Value} (rl : ORel ρ lo lo') (rh : ORel ρ hi hi') (rm : ORel ρ mx mx') {l h m dm : Nat}
    (hl : bound 0 lo = some l) (hh : bound len hi = some h) (hm : bound dm mx = some m) (hdm : mx = none → cap = m) (hcap : m ≤ cap) (h1 : l ≤ h) (h2 : h ≤ m) (hmx : mx.isSome → hi.isSome) :
    (Instr.sliceBounds isSlice len cap lo' hi' mx').run P w = .ok (l, h, m) w := by
  cases mx with
  | none =>
    cases mx' with
    | some y => exact rm.elim
    | none =>
      have hm' := hdm rfl
      subst hm'
      cases hi with
      | none =>
        cases hi' with
        | some y => exact rh.elim
        | none =>
          simp only [bound] at hh
          cases hh
          cases lo with
          | none =>
            cases lo' with
            | some y => exact rl.elim
            | none => simp only [bound] at hl; cases hl; simp [Instr.sliceBounds]
          | some x =>
            cases lo' with
            | none => exact rl.elim
            | some y => simp [Instr.sliceBounds, run_sliceBound rl hl h1]
      | some x =>
        cases hi' with
        | none => exact rh.elim
        | some y =>
          cases lo with
          | none =>
            cases lo' with
            | some y => exact rl.elim
            | none => simp only [bound] at hl; cases hl; simp [Instr.sliceBounds, run_sliceBound rh hh h2]
          | some x =>
            cases lo' with
            | none => exact rl.elim
            | some y => simp [Instr.sliceBounds, run_sliceBound rh hh h2, run_sliceBound rl hl h1]
  | some x =>
    cases mx' with
    | none => exact rm.elim
    | some y =>
      cases hi with
      | none => exact absurd (hmx rfl) (by simp)
      | some x =>
        cases hi' with
        | none => exact rh.elim
        | some y =>
          cases lo with
          | none =>
            cases lo' with
            | some y => exact rl.elim
            | none => simp only [bound] at hl; cases hl; simp [Instr.sliceBounds, run_sliceBound rm hm hcap, run_sliceBound rh hh h2]
          | some x =>
            cases lo' with
            | none => exact rl.elim
            | some y => simp [Instr.sliceBounds, run_sliceBound rm hm hcap, run_sliceBound rh hh h2, run_sliceBound rl hl h1]
theorem gets_sls (s : Sim pc ρ n H w) {t e : TypeId} {sz : Nat} (ht : P.underlying t = some (.slice e)) (hs : sizeL P e = some sz) {x : V} {x' : Value} (rx : VRel ρ x x') {lo hi mx : Option V} {lo' hi' mx' : Option Value}
    (rl : ORel ρ lo lo') (rh : ORel ρ hi hi') (rm : ORel ρ mx mx') (hmx : mx.isSome → hi.isSome) {v : V} {n' : Nat} {H' : Heap} (ev : keep n H (evSls sz x lo hi mx) = some (v, n', H')) :
    Gets pc P ρ n H w (Instr.sliceAt t x' lo' hi' mx') v n' H' := by
  obtain ⟨e', rfl, rfl⟩ := keep_inv ev
  unfold evSls at e'
  split at e'
  · rename_i id off sz' len full
    cases rx with
    | @sl _ _ _ _ _ c d z o k hρ hk hf ho =>
    split at e'
    · rename_i l h m e1 e2 e3
      split at e'
      · rename_i hc
        obtain ⟨rfl, h1, h2, h3⟩ := hc
        cases e'
        have hb : ∃ m', bound k mx = some m' ∧ (mx = none → k = m') ∧ m' ≤ k ∧ h ≤ m' ∧ (mx ≠ none → m' = m) := by
          cases mx with
          | none => exact ⟨k, rfl, fun _ => rfl, Nat.le_refl _, (by simp only [bound] at e3; cases e3; omega), fun h => absurd rfl h⟩
          | some u => exact ⟨m, e3, (fun h => by cases h), by omega, h2, fun _ => rfl⟩
        obtain ⟨m', b1, b2, b3, b4, b5⟩ := hb
        have hrun := run_sliceBounds (P := P) (w := w) (isSlice := true) (cap := k) rl rh rm e1 e2 b1 b2 b3 h1 b4 hmx
        refine .pure s (y := .slice (some (if m' = l then ⟨c, o, none⟩ else (⟨c, o, none⟩ : Addr).add (l * sz'))) (h - l) (m' - l)) ?_ ?_
        · simp only [Instr.sliceAt, Instr.slice, Sem.run_bind, run_under ht, Result.andThen_ok, hrun, run_sizeL hs, Sem.run_pure]
          split <;> rfl
        · have haddr : (if m' = l then (⟨c, o, none⟩ : Addr) else (⟨c, o, none⟩ : Addr).add (l * sz')) = ⟨c, if m' = l then o else o + l * sz', none⟩ := by
            split
            · rfl
            · rw [add_off]
          rw [haddr]
          refine .sl hρ (by omega) (fun hfull => ?_) (fun hk' => ?_)
          · by_cases hm : mx = none
            · subst hm
              simp at hfull
              have := hf hfull.1
              have := b2 rfl
              omega
            · have : mx.isSome = true := by cases mx <;> simp_all
              rw [if_pos this] at hfull
              simp at hfull
              rw [b5 hm, hfull]
          · rw [if_neg (by omega)]
            obtain ⟨ho1, ho2⟩ := ho (by omega)
            refine ⟨by omega, ?_⟩
            have : l * sz' + (m' - l) * sz' = m' * sz' := by rw [← Nat.add_mul]; congr 1; omega
            have := Nat.mul_le_mul_right sz' b3
            omega
      · cases e'
    · cases e'
  · cases rx
    split at e'
    · rename_i e1 e2 e3
      cases e'
      have hb : ∃ m', bound 0 mx = some m' ∧ m' = 0 := ⟨0, e3, rfl⟩
      have hrun := run_sliceBounds (P := P) (w := w) (isSlice := true) (cap := 0) rl rh rm e1 e2 e3 (fun _ => rfl) (Nat.le_refl _) (Nat.le_refl _) (Nat.le_refl _) hmx
      refine .pure s (y := .slice none 0 0) ?_ .nils
      simp only [Instr.sliceAt, Instr.slice, Sem.run_bind, run_under ht, Result.andThen_ok, hrun, run_sizeL hs, Sem.run_pure]
      simp
    · cases e'
  · cases e'
theorem gets_sla (s : Sim pc ρ n H w) {t e : TypeId} {m0 sz : Nat} (ht : P.underlying t = some (.array m0 e)) (hs : sizeL P e = some sz) {x : V} {x' : Value} (rx : VRel ρ x x') {lo hi mx : Option V} {lo' hi' mx' : Option Value}
    (rl : ORel ρ lo lo') (rh : ORel ρ hi hi') (rm : ORel ρ mx mx') (hmx : mx.isSome → hi.isSome) {v : V} {n' : Nat} {H' : Heap} (ev : keep n H (evSla H m0 sz x lo hi mx) = some (v, n', H')) :
    Gets pc P ρ n H w (Instr.sliceAt t x' lo' hi' mx') v n' H' := by
  obtain ⟨e', rfl, rfl⟩ := keep_inv ev
  unfold evSla at e'
  split at e'
  · rename_i id off
    cases rx with
    | @p _ _ c d z o hρ ho =>
    split at e'
    · rename_i l h m own cs e1 e2 e3 hb
      split at e'
      · rename_i hc
        obtain ⟨h1, h2, h3, h4⟩ := hc
        cases e'
        obtain ⟨arr, ty, fr, _, _, hz, _⟩ := s.row hb hρ
        have hrun := run_sliceBounds (P := P) (w := w) (isSlice := false) (cap := m0) rl rh rm e1 e2 e3 (fun hn => by subst hn; simp only [bound] at e3; cases e3; rfl) h3 h1 h2 hmx
        refine .pure s (y := .slice (some (if m = l then ⟨c, o, none⟩ else (⟨c, o, none⟩ : Addr).add (l * sz))) (h - l) (m - l)) ?_ ?_
        · simp only [Instr.sliceAt, Instr.sureAddr, Sem.run_bind, run_under ht, Result.andThen_ok, hrun, run_sizeL hs, Sem.run_pure]
        · have haddr : (if m = l then (⟨c, o, none⟩ : Addr) else (⟨c, o, none⟩ : Addr).add (l * sz)) = ⟨c, if m = l then o else o + l * sz, none⟩ := by
            split
            · rfl
            · rw [add_off]
          rw [haddr]
          refine .sl hρ (by omega) (fun hfull => ?_) (fun hk' => ?_)
          · simp at hfull; omega
          · rw [if_neg (by omega)]
            refine ⟨by omega, ?_⟩
            have : l * sz + (m - l) * sz = m * sz := by rw [← Nat.add_mul]; congr 1; omega
            have := Nat.mul_le_mul_right sz h3
            omega
      · cases e'
    · cases e'
  · cases e'
theorem gets_sstr (s : Sim pc ρ n H w) {t : TypeId} (ht : P.underlying t = some .string) {x : V} {x' : Value} (rx : VRel ρ x x') {lo hi : Option V} {lo' hi' : Option Value}
    (rl : ORel ρ lo lo') (rh : ORel ρ hi hi') {v : V} {n' : Nat} {H' : Heap} (ev : keep n H (evStr x lo hi) = some (v, n', H')) : Gets pc P ρ n H w (Instr.sliceAt t x' lo' hi' none) v n' H' := by
  obtain ⟨e', rfl, rfl⟩ := keep_inv ev
  unfold evStr at e'
  split at e'
  · obtain ⟨b, rfl, rfl⟩ := s_inv rx
    split at e'
    · rename_i l h e1 e2
      split at e'
      · rename_i hc
        cases e'
        have hsz : b.data.toList.length = b.size := by simp
        rw [hsz] at e2 hc
        have hrun := run_sliceBounds (P := P) (w := w) (isSlice := false) (len := b.size) (cap := b.size) (mx := none) (mx' := none) (dm := b.size) rl rh trivial e1 e2 rfl (fun _ => rfl) (Nat.le_refl _) hc.1 hc.2 (fun h => by cases h)
        refine .pure s (y := .string (b.extract l h)) ?_ (.s ?_)
        · simp [Instr.sliceAt, Instr.slice, run_under ht, hrun]
        · rw [Lib.extract_data]
      · cases e'
    · cases e'
  · cases e'
end ops
end Go.Proofs.Ytpgelghkjiejlaa
