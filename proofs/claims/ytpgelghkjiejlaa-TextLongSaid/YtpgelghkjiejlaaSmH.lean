/- Each operation's run (third part): structs, slices, append, copy. -/
import Derived.Test.YtpgelghkjiejlaaSmG
import Derived.Laws.Append
import Derived.Lib.Strings
import Derived.Laws.StructEq
set_option linter.unusedVariables false
set_option linter.unusedSimpArgs false
namespace Go.Proofs.Ytpgelghkjiejlaa
open Go
section ops
variable {pc : PrepC} {P : Program} {ρ : Ren} {n : Nat} {H : Heap} {w : World}

theorem gets_build {N : Nat} {T : Temps} {a : Act} (tr : TRel ρ N T a.tmps) (s : Sim pc ρ n H w) {t : TypeId} {fs : Array Field} {z : List V} {ps : Array (Nat × Operand)} {l : List (Nat × AX)} {l' : List (Nat × Nat × AX)}
    (ht : P.underlying t = some (.struct fs)) (hz : zeroL P t = some z) (hall : ∀ f ∈ fs.toList, ∃ s, sizeL P f.type = some s) (hps : prepParts ps.toList = some l) (hpl : placeL P fs.toList l = some l') {v : V} {n' : Nat} {H' : Heap}
    (ev : keep n H ((fillA z (l'.map fun (o, s, x) => (o, s, x.val T))).map .ag) = some (v, n', H')) :
    Gets pc P ρ n H w (Instr.build t (ps.map fun (i, x) => (i, a.eval x))) v n' H' := by
  cases hf : fillA z (l'.map fun (o, s, x) => (o, s, x.val T)) with
  | none => rw [hf] at ev; cases ev
  | some cs =>
    rw [hf] at ev
    cases ev
    obtain ⟨zv, hz1, hz2⟩ := zeroL_inv (P := P) (w := w) (ρ := ρ) hz
    obtain ⟨hl1, hr1⟩ := prepParts_rel tr hps
    obtain ⟨hl2, hr2⟩ := placeL_rel hpl
    obtain ⟨pl, hp1, hp2, hp3⟩ := run_places (P := P) (w := w) fs.toList hall
    obtain ⟨arr', hfill, hrel⟩ := fill_rel (ρ := ρ) (fun i => pl.toArray[i]?) (l'.map fun (o, s, x) => (o, s, x.val T)) (ps.toList.map fun (i, x) => (i, a.eval x)) z zv.cells cs hz2 (by simp [hl1, hl2]) (fun j p q hp hq => by
      simp only [List.getElem?_map, Option.map_eq_some_iff] at hp hq
      obtain ⟨p', hp', rfl⟩ := hp
      obtain ⟨q', hq', rfl⟩ := hq
      have hlt : j < l.length := by
        have := (List.getElem?_eq_some_iff.1 hp').1
        omega
      obtain ⟨h1, h2⟩ := hr1 j l[j] q' (by simp [hlt]) hq'
      obtain ⟨f, hf1, hf2, hf3, hf4⟩ := hr2 j p' l[j] hp' (by simp [hlt])
      obtain ⟨s', hs1, hs2⟩ := hp3 _ f hf1
      rw [hf3] at hs1
      cases hs1
      refine ⟨?_, by rw [hf4]; exact h2⟩
      simp only [List.getElem?_toArray]
      rw [← h1, hs2, hf2]) hf
    refine .pure s (y := .agg arr') ?_ hrel.to_ag
    simp only [Instr.build, Sem.run_bind, hz1, Result.andThen_ok, run_under ht]
    rw [show fs = fs.toList.toArray from by simp]
    rw [hp1]
    simp only [Result.andThen_ok]
    rw [show (Array.map (fun x => (x.fst, a.eval x.snd)) ps).toList = List.map (fun (i, x) => (i, a.eval x)) ps.toList from by simp]
    rw [hfill]
    simp

theorem i_inv {k : IntKind} {m : Int} {y : Value} (r : VRel ρ (.i k m) y) : y = .int k m := by cases r; rfl
theorem b_inv {x : Bool} {y : Value} (r : VRel ρ (.b x) y) : y = .bool x := by cases r; rfl
theorem s_inv {l : List UInt8} {y : Value} (r : VRel ρ (.s l) y) : ∃ b : ByteArray, y = .string b ∧ b.data.toList = l := by cases r with | s h => exact ⟨_, rfl, h⟩
theorem keep_inv {o : Option V} {v : V} {n' : Nat} {H' : Heap} (h : keep n H o = some (v, n', H')) : o = some v ∧ n' = n ∧ H' = H := by
  cases o with
  | none => cases h
  | some x => cases h; exact ⟨rfl, rfl, rfl⟩

theorem run_binI {op : BinOp} {t : TypeId} {k k' : IntKind} {m m' : Int} {v : V} (h : binI op k m k' m' = some v) : ∃ y, (binOp op t (.int k m) (.int k' m')).run P w = .ok y w ∧ VRel ρ v y := by
  cases op <;> simp only [binI, cmpI] at h <;> (try (split at h)) <;> (try (cases h; done)) <;> (try cases h)
  all_goals (try (rename_i hc; try (obtain ⟨hc, hz⟩ := hc)))
  all_goals (try subst hc)
  all_goals simp only [binOp]
  all_goals (try simp only [ne_eq, not_true_eq_false, if_false])
  all_goals first
    | exact ⟨_, rfl, .i _ _⟩
    | exact ⟨_, rfl, .b _⟩
    | (refine ⟨_, ?_, .i _ _⟩; simp only [Op.shift, Op.intDiv]; rw [if_neg (by omega)]; rfl)

theorem bytes_toList (x : ByteArray) : x.toList = x.data.toList := Lib.toList_data x
theorem run_binS {op : BinOp} {t : TypeId} {x y : ByteArray} {v : V} (h : binS op x.data.toList y.data.toList = some v) : ∃ u, (binOp op t (.string x) (.string y)).run P w = .ok u w ∧ VRel ρ v u := by
  cases op <;> simp only [binS] at h <;> (try (split at h)) <;> (try (cases h; done)) <;> (try cases h)
  all_goals simp only [binOp, Op.stringOp, bytes_toList]
  all_goals first
    | exact ⟨_, rfl, .b _⟩
    | skip
  rename_i hle
  refine ⟨.string (x ++ y), ?_, .s (by simp [ByteArray.append])⟩
  rw [if_neg]
  · rfl
  · have h1 : x.data.toList.length = x.size := by simp
    have h2 : y.data.toList.length = y.size := by simp
    have h3 : IntKind.i64.max = 9223372036854775807 := rfl
    rw [h1, h2] at hle
    rw [h3]
    omega

theorem gets_bin (s : Sim pc ρ n H w) {op : BinOp} {t : TypeId} {x y : V} {x' y' : Value} (rx : VRel ρ x x') (ry : VRel ρ y y') {v : V} {n' : Nat} {H' : Heap}
    (ev : keep n H (evBin op x y) = some (v, n', H')) : Gets pc P ρ n H w (binOp op t x' y') v n' H' := by
  obtain ⟨e, rfl, rfl⟩ := keep_inv ev
  unfold evBin at e
  split at e
  · cases i_inv rx; cases i_inv ry
    obtain ⟨u, h1, h2⟩ := run_binI (P := P) (w := w) (t := t) (ρ := ρ) e
    exact .pure s h1 h2
  · obtain ⟨b1, rfl, rfl⟩ := s_inv rx
    obtain ⟨b2, rfl, rfl⟩ := s_inv ry
    obtain ⟨u, h1, h2⟩ := run_binS (P := P) (w := w) (t := t) (ρ := ρ) e
    exact .pure s h1 h2
  · cases e
theorem run_eqOne {d : Nat} {t : TypeId} {k : Nat} {x y : V} {x' y' : Value} (rx : VRel ρ x x') (ry : VRel ρ y y') {r : Bool} (h : eqOne k x y = some r)
    (ht : EqT P t k) : (Op.equalIn (d + 1) t x' y').run P w = .ok r w := by
  unfold eqOne at h
  split at h
  · cases h; cases b_inv rx; cases b_inv ry; have ht : P.underlying t = some .bool := ht; simp [Op.equalIn, run_under ht]
  · split at h
    · rename_i hk
      cases h; subst hk; cases i_inv rx; cases i_inv ry; obtain ⟨q, ht⟩ := ht; simp [Op.equalIn, run_under ht]
    · cases h
  · cases h
    obtain ⟨b1, rfl, rfl⟩ := s_inv rx
    obtain ⟨b2, rfl, rfl⟩ := s_inv ry
    have ht : P.underlying t = some .string := ht
    simp only [Op.equalIn, Sem.run_bind, run_under ht, Result.andThen_ok, Sem.run_pure]
    congr 1
    have h1 : (b1 == b2) = (b1.data == b2.data) := by cases b1; cases b2; rfl
    rw [h1, Bool.eq_iff_iff]
    simp only [beq_iff_eq, Array.toList_inj]
  all_goals (try unfold EqT at ht)
  all_goals (try (cases h; cases rx; cases ry; obtain ⟨e, ht⟩ := ht; simp [Op.equalIn, run_under ht]; done))
  all_goals (try (cases h; cases rx; cases ry; obtain ⟨e, e', e'', ht⟩ := ht; simp [Op.equalIn, run_under ht]; done))
  cases h
end ops
end Go.Proofs.Ytpgelghkjiejlaa
