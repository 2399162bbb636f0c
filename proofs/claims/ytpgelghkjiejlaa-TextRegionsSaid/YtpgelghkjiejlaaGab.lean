/- Each operation's run (second part): stores, literals, numbers, strings. Each operation's run (third part): structs, slices, append, copy. Each operation's run (fourth part): equality of structs, make, cuts, addresses, append, copy, clear. Each operation's run (fifth part): make, cuts, addresses, append, copy, clear. Each operation's run (sixth part): addresses, append, copy, clear. Each operation's run (last part): append; and the theorem for all of them. -/
import Derived.Test.YtpgelghkjiejlaaGaa
import Derived.Laws.Append
import Derived.Lib.Strings
import Derived.Laws.StructEq
set_option linter.unusedVariables false
set_option linter.unusedSimpArgs false
section
namespace Go.Proofs.Ytpgelghkjiejlaa
open Go
section ops
variable {pc : PrepC} {P : Program} {ρ : Ren} {n : Nat} {H : Heap} {w : World}

theorem one_flat {x : V} {y : Value} (h : x.one = true) (r : VRel ρ x y) : flat y = true := by
  cases r <;> first | rfl | (simp [V.one] at h)
theorem all_flat {xs : List V} {ys : List Value} (h : xs.all V.one = true) (r : VRelL ρ xs ys) : ∀ y ∈ ys, flat y = true := by
  intro y hy
  obtain ⟨j, hj⟩ := List.mem_iff_getElem?.1 hy
  have hlt : j < ys.length := (List.getElem?_eq_some_iff.1 hj).1
  have hx : xs[j]? = some (xs[j]'(r.1 ▸ hlt)) := by simp [r.1 ▸ hlt]
  exact one_flat (List.all_eq_true.1 h _ (List.getElem_mem _)) (r.2 j _ y hx hj)

/-- The cells of a row written over. -/
theorem sim_write (s : Sim pc ρ n H w) {id : Nat} {cs : List V} (hb : aget H id = some (.row true cs)) {c d z : Nat} (hρ : ρ id = some (c, d, z)) {off : Nat} {xs : List V} {ys : List Value} (r : VRelL ρ xs ys)
    (hone : xs.all V.one = true) (hl : off + xs.length ≤ cs.length) :
    ∃ w', (storeCells ⟨c, d + off, none⟩ ys 0).run P w = .ok () w' ∧ Sim pc ρ n (aput H id (.row true (setAll cs off xs))) w' ∧ Ext ρ n H w ρ n (aput H id (.row true (setAll cs off xs))) w' := by
  obtain ⟨arr, ty, fr, h1, h2, h3, h4, h5⟩ := s.row hb hρ
  have hys : ys.length = xs.length := r.1.symm
  have hrun := run_storeCells_at (P := P) (o := d + off) ys 0 w arr h1 (by omega) (by rw [h2]; exact h5 rfl) (all_flat hone r)
  rw [Nat.add_zero] at hrun
  refine ⟨_, hrun, ?_⟩
  have hlen : (setAll arr.toList (d + off) ys).length = arr.size := by rw [setAll_length _ _ _ (by simp; omega)]; simp
  refine s.update hb rfl rfl hρ _ ⟨_, ty, fr, by rw [setBlk_get _ _ _ _ (lt_of_get h1), if_pos rfl], by simpa using hlen.trans h2, by rw [setAll_length _ _ _ hl]; exact h3, fun j x hx => ?_, h5⟩
  rw [setAll_get _ _ _ hl] at hx
  have hj : j < cs.length := by
    rcases Nat.lt_or_ge j cs.length with h | h
    · exact h
    · rw [if_neg (by omega), if_neg (by omega), List.getElem?_eq_none h] at hx; cases hx
  simp only [List.getElem?_toArray]
  rw [setAll_get _ _ _ (by simp; omega)]
  by_cases ha : j < off
  · rw [if_pos ha] at hx
    rw [if_pos (by omega)]
    obtain ⟨y, hy, hr⟩ := h4.get hx
    rw [List.getElem?_take, if_pos hj, List.getElem?_drop] at hy
    exact ⟨y, hy, hr⟩
  · rw [if_neg ha] at hx
    rw [if_neg (by omega)]
    by_cases hbd : j < off + xs.length
    · rw [if_pos hbd] at hx
      rw [if_pos (by omega)]
      obtain ⟨y, hy, hr⟩ := r.get hx
      exact ⟨y, by rw [show d + j - (d + off) = j - off by omega]; exact hy, hr⟩
    · rw [if_neg hbd] at hx
      rw [if_neg (by omega)]
      obtain ⟨y, hy, hr⟩ := h4.get hx
      rw [List.getElem?_take, if_pos hj, List.getElem?_drop] at hy
      exact ⟨y, hy, hr⟩

theorem gets_st (s : Sim pc ρ n H w) {t : TypeId} {sz : Nat} (hs : sizeL P t = some sz) {a x : V} {ya yx : Value} (ra : VRel ρ a ya) (rx : VRel ρ x yx) {v : V} {n' : Nat} {H' : Heap}
    (e : evSt n H sz a x = some (v, n', H')) : v = .un ∧ GetsU pc P ρ n H w (Instr.storeAt t ya yx) n' H' := by
  unfold evSt at e
  split at e
  · rename_i id off
    split at e
    · rename_i cs hb
      cases ra with
      | @p _ _ c d z o hρ ho =>
      split at e
      · rename_i hcond
        simp only [Bool.and_eq_true, beq_iff_eq, decide_eq_true_eq] at hcond
        obtain ⟨⟨⟨hk, hl⟩, hone⟩, hoff⟩ := hcond
        cases e
        subst ho
        have rc := rx.cells (known_ne hk)
        obtain ⟨w', hr, hsim, hext⟩ := sim_write (P := P) s hb hρ rc hone (hl ▸ hoff)
        refine ⟨rfl, w', ρ, ?_, hsim, hext⟩
        have hsz : yx.cells.size = sz := by have := rc.1; simp at this; omega
        simp [Instr.storeAt, Instr.sureAddr, storeVar, run_sizeL hs, hsz, hr]
      · cases e
    · cases e
  · cases e

/-! literals -/
theorem foldl_setAll (y : Array Value) (off : Nat) (cells : Array Value) (h : off + y.size ≤ cells.size) :
    (y.zipIdx.foldl (fun cs (c, j) => cs.setIfInBounds (off + j) c) cells).toList = setAll cells.toList off y.toList := by
  obtain ⟨l⟩ := y
  simp only [List.size_toArray] at h
  suffices hgen : ∀ (l : List Value) (k : Nat) (cells : Array Value), off + k + l.length ≤ cells.size →
      ((l.zipIdx k).foldl (fun (cs : Array Value) (x : Value × Nat) => cs.setIfInBounds (off + x.2) x.1) cells).toList = setAll cells.toList (off + k) l by
    have := hgen l 0 cells (by omega)
    simpa using this
  intro l
  induction l with
  | nil => intro k cells _; simp [setAll_nil]
  | cons v l ih =>
    intro k cells hb
    simp only [List.length_cons] at hb
    rw [List.zipIdx_cons, List.foldl_cons, ih (k + 1) _ (by simp; omega)]
    rw [Array.toList_setIfInBounds, ← Nat.add_assoc]
    exact setAll_cons _ _ _ _ (by simp; omega)
theorem setAll_rel {xs xs' : List V} {ys ys' : List Value} (r : VRelL ρ xs ys) (r' : VRelL ρ xs' ys') (off : Nat) : VRelL ρ (setAll xs off xs') (setAll ys off ys') := by
  unfold setAll
  rw [r'.1]
  exact (r.take off).append (r'.append (r.drop _))
/-- 'fill' of the model and of ours. -/
theorem fill_rel (place : Nat → Option (Nat × Nat)) : ∀ (ps : List (Nat × Nat × V)) (qs : List (Nat × Value)) (cs : List V) (arr : Array Value) (cs' : List V), VRelL ρ cs arr.toList →
    ps.length = qs.length → (∀ (j : Nat) p q, ps[j]? = some p → qs[j]? = some q → place q.1 = some (p.1, p.2.1) ∧ VRel ρ p.2.2 q.2) → fillA cs ps = some cs' →
    ∃ arr', Instr.fill place arr qs = some arr' ∧ VRelL ρ cs' arr'.toList := by
  intro ps
  induction ps with
  | nil =>
    intro qs cs arr cs' r hl _ h
    obtain rfl : qs = [] := List.eq_nil_of_length_eq_zero hl.symm
    cases h
    exact ⟨arr, rfl, r⟩
  | cons p ps ih =>
    intro qs cs arr cs' r hl hp h
    obtain ⟨q, qs, rfl⟩ : ∃ q qs', qs = q :: qs' := by cases qs with | nil => simp at hl | cons q qs' => exact ⟨q, qs', rfl⟩
    obtain ⟨off, sz, v⟩ := p
    obtain ⟨i, y⟩ := q
    obtain ⟨h1, h2⟩ := hp 0 _ _ rfl rfl
    simp only at h1 h2
    unfold fillA at h
    split at h
    · rename_i hc
      simp only [Bool.and_eq_true, beq_iff_eq, decide_eq_true_eq] at hc
      obtain ⟨⟨hk, hsz⟩, hoff⟩ := hc
      have rc := h2.cells (known_ne hk)
      have hyl : y.cells.size = sz := by have := rc.1; simp at this; omega
      have hcl : cs.length = arr.size := by have := r.1; simpa using this
      unfold Instr.fill
      rw [h1]
      simp only
      rw [if_neg (by simp [hyl]; omega)]
      refine ih qs _ _ cs' ?_ (by simpa using hl) (fun j p q hp' hq' => hp (j + 1) p q (by simpa using hp') (by simpa using hq')) h
      rw [foldl_setAll _ _ _ (by omega)]
      exact setAll_rel r rc off
    · cases h
theorem prepParts_rel {N : Nat} {T : Temps} {a : Act} (tr : TRel ρ N T a.tmps) : ∀ {ps : List (Nat × Operand)} {l : List (Nat × AX)}, prepParts ps = some l →
    l.length = ps.length ∧ ∀ (j : Nat) p q, l[j]? = some p → ps[j]? = some q → p.1 = q.1 ∧ VRel ρ (p.2.val T) (a.eval q.2) := by
  intro ps
  induction ps with
  | nil => intro l h; cases h; exact ⟨rfl, fun j p q hp => by simp at hp⟩
  | cons q ps ih =>
    obtain ⟨i, x⟩ := q
    intro l h
    simp only [prepParts] at h
    split at h
    · rename_i v l' h1 h2
      cases h
      obtain ⟨hl, hr⟩ := ih h2
      refine ⟨by simp [hl], fun j p q hp hq => ?_⟩
      cases j with
      | zero => simp at hp hq; subst hp; subst hq; exact ⟨rfl, prepX_rel tr h1⟩
      | succ j => exact hr j p q (by simpa using hp) (by simpa using hq)
    · cases h
theorem zrep_eq (z : List V) (n : Nat) : zrep z n = (List.range (n * z.length)).map (fun i => z.getD (i % z.length) .un) := by
  unfold zrep
  split
  · rename_i x
    apply List.ext_getElem
    · simp
    · intro i h1 h2; simp [Nat.mod_one]
  · induction n with
    | zero => simp
    | succ k ih =>
      rw [List.replicate_succ', List.flatten_append, ih]
      rw [Nat.succ_mul, List.range_add, List.map_append]
      congr 1
      simp only [List.flatten_cons, List.flatten_nil, List.append_nil, List.map_map]
      apply List.ext_getElem
      · simp
      · intro i h1 h2
        simp only [List.getElem_map, List.getElem_range, Function.comp]
        rw [Nat.mul_comm k, Nat.mul_add_mod, Nat.mod_eq_of_lt h1]
        simp [h1]
theorem zrep_length (z : List V) (n : Nat) : (zrep z n).length = n * z.length := by rw [zrep_eq]; simp
theorem zrep_one {z : List V} (h : z.all V.one = true) (n : Nat) : (zrep z n).all V.one = true := by
  unfold zrep
  split
  · simp at h ⊢; exact .inr h
  · simp only [List.all_flatten, List.all_eq_true]
    intro l hl
    rw [List.eq_of_mem_replicate hl]
    exact fun x hx => List.all_eq_true.1 h x hx
/-- The cells of n zero elements, as the model makes them. -/
theorem zrep_rel {z : List V} {zv : Array Value} (r : VRelL ρ z zv.toList) (n : Nat) : VRelL ρ (zrep z n) ((Array.range (n * z.length)).map (fun i => zv[i % zv.size]!)).toList := by
  rw [zrep_eq]
  have hsz : zv.size = z.length := by have := r.1; simp at this; omega
  refine ⟨by simp, fun j x y hx hy => ?_⟩
  rcases Nat.lt_or_ge j (n * z.length) with hj | hj
  · have hpos : 0 < z.length := by
      rcases Nat.eq_zero_or_pos z.length with h | h
      · rw [h, Nat.mul_zero] at hj; omega
      · exact h
    have hm : j % z.length < z.length := Nat.mod_lt _ hpos
    simp only [Array.toList_map, Array.toList_range, List.getElem?_map, List.getElem?_range hj, Option.map_some, Option.some.injEq] at hx hy
    subst hx; subst hy
    refine r.2 (j % z.length) _ _ (by simp [hm]) ?_
    rw [hsz]
    simp [hsz, hm]
  · simp [List.getElem?_eq_none (show (List.range (n * z.length)).length ≤ j by simpa using hj)] at hx
theorem gets_lit {N : Nat} {T : Temps} {a : Act} (tr : TRel ρ N T a.tmps) (s : Sim pc ρ n H w) {t e : TypeId} {len sz : Nat} {z : List V} {ps : Array (Nat × Operand)} {l : List (Nat × AX)}
    (ht : P.underlying t = some (.slice e)) (hsz : sizeL P e = some sz) (hz : zeroL P e = some z) (hzl : z.length = sz) (h0 : 0 < sz) (hcap : len * sz ≤ 2 ^ 24) (hps : prepParts ps.toList = some l) {v : V} {n' : Nat} {H' : Heap}
    (ev : (match fillA (zrep z len) (l.map fun (i, x) => (i * sz, sz, x.val T)) with | some cs => some (V.sl n 0 sz len true, n + 1, (n, Blk.row true cs) :: H) | none => none) = some (v, n', H')) :
    Gets pc P ρ n H w (Instr.buildSlice t len (ps.map fun (i, x) => (i, a.eval x))) v n' H' := by
  split at ev
  · rename_i cs hf
    cases ev
    obtain ⟨zv, hz1, hz2⟩ := zeroL_inv (P := P) (w := w) (ρ := ρ) hz
    obtain ⟨hpl, hpr⟩ := prepParts_rel tr hps
    have hrep := zrep_rel hz2 len
    rw [hzl] at hrep
    obtain ⟨arr', hfill, hrel⟩ := fill_rel (ρ := ρ) (fun i => some (i * sz, sz)) (l.map fun (i, x) => (i * sz, sz, x.val T)) (ps.toList.map fun (i, x) => (i, a.eval x)) _ _ cs hrep (by simp [hpl]) (fun j p q hp hq => by
      simp only [List.getElem?_map, Option.map_eq_some_iff] at hp hq
      obtain ⟨p', hp', rfl⟩ := hp
      obtain ⟨q', hq', rfl⟩ := hq
      obtain ⟨h1, h2⟩ := hpr j p' q' hp' hq'
      exact ⟨by simp [h1], h2⟩) hf
    obtain ⟨hle, hn, hs, he⟩ := s.allocRow cs arr' e (by have := hrel.1; simp at this; omega) (rel_get hrel)
    have hasz : arr'.size = len * sz := by
      have h1 := hrel.1
      have h2 : ∀ (ps : List (Nat × Nat × V)) (cs cs' : List V), fillA cs ps = some cs' → cs'.length = cs.length := by
        intro ps
        induction ps with
        | nil => intro cs cs' h; cases h; rfl
        | cons p ps ih =>
          intro cs cs' h
          unfold fillA at h
          split at h
          · rename_i hc
            simp only [Bool.and_eq_true, beq_iff_eq, decide_eq_true_eq] at hc
            rw [ih _ _ h, setAll_length _ _ _ (by omega)]
          · cases h
      have h3 := h2 _ _ _ hf
      rw [zrep_length, hzl] at h3
      simp at h1
      omega
    refine ⟨_, _, _, ?_, .sl (k := len) (o := 0) hn (Nat.le_refl _) (fun _ => rfl) (fun _ => ⟨by simp, by simp [hasz]⟩), hs, he⟩
    have hz1' : len * sz ≠ 0 → (zeroValue e).run P w = .ok zv w := fun _ => hz1
    simp only [Instr.buildSlice, Sem.run_bind, run_under ht, Result.andThen_ok, run_sizeL hsz]
    rw [if_neg (by omega)]
    rw [show (Array.map (fun x => (x.fst, a.eval x.snd)) ps).toList = List.map (fun (i, x) => (i, a.eval x)) ps.toList from by simp]
    split
    · rename_i hz0
      simp only [Sem.run_bind, Sem.run_pure, Result.andThen_ok]
      rw [hz0, show (Array.range 0) = #[] from rfl] at hfill ⊢
      rw [Array.map_empty] at hfill ⊢
      rw [hfill]
      simp [run_newRow]
    · simp only [Sem.run_bind, Sem.run_pure, Result.andThen_ok, hz1]
      rw [hfill]
      simp [run_newRow]
  · cases ev
theorem placeL_rel {fs : List Field} : ∀ {l : List (Nat × AX)} {l' : List (Nat × Nat × AX)}, placeL P fs l = some l' → l'.length = l.length ∧
    ∀ (j : Nat) p q, l'[j]? = some p → l[j]? = some q → ∃ f, fs[q.1]? = some f ∧ f.offset = p.1 ∧ sizeL P f.type = some p.2.1 ∧ p.2.2 = q.2 := by
  intro l
  induction l with
  | nil => intro l' h; cases h; exact ⟨rfl, fun j p q hp => by simp at hp⟩
  | cons q l ih =>
    obtain ⟨i, x⟩ := q
    intro l' h
    simp only [placeL] at h
    split at h
    · rename_i f hf
      split at h
      · rename_i s r hs hr
        cases h
        obtain ⟨hl, h2⟩ := ih hr
        refine ⟨by simp [hl], fun j p q hp hq => ?_⟩
        cases j with
        | zero => simp at hp hq; subst hp; subst hq; exact ⟨f, hf, rfl, hs, rfl⟩
        | succ j => exact h2 j p q (by simpa using hp) (by simpa using hq)
      · cases h
    · cases h
theorem run_places (fs : List Field) (sizes : ∀ f ∈ fs, ∃ s, sizeL P f.type = some s) :
    ∃ pl : List (Nat × Nat), (fs.toArray.mapM fun f => (do return (f.offset, ← sizeOf f.type) : Sem (Nat × Nat))).run P w = .ok pl.toArray w ∧ pl.length = fs.length ∧
      ∀ (j : Nat) f, fs[j]? = some f → ∃ s, sizeL P f.type = some s ∧ pl[j]? = some (f.offset, s) := by
  rw [List.mapM_toArray]
  suffices h : ∃ pl : List (Nat × Nat), (fs.mapM fun f => (do return (f.offset, ← sizeOf f.type) : Sem (Nat × Nat))).run P w = .ok pl w ∧ pl.length = fs.length ∧
      ∀ (j : Nat) f, fs[j]? = some f → ∃ s, sizeL P f.type = some s ∧ pl[j]? = some (f.offset, s) by
    obtain ⟨pl, h1, h2, h3⟩ := h
    exact ⟨pl, by rw [Sem.run_map, h1]; rfl, h2, h3⟩
  induction fs with
  | nil => exact ⟨[], by simp [Sem.run, pure], rfl, fun j f h => by simp at h⟩
  | cons f fs ih =>
    obtain ⟨s, hs⟩ := sizes f (by simp)
    obtain ⟨pl, h1, h2, h3⟩ := ih fun g hg => sizes g (by simp [hg])
    refine ⟨(f.offset, s) :: pl, ?_, by simp [h2], fun j g hg => ?_⟩
    · rw [List.mapM_cons]
      simp only [Sem.run_bind, run_sizeL hs, Result.andThen_ok, Sem.run_pure, h1]
    · cases j with
      | zero => simp at hg; subst hg; exact ⟨s, hs, rfl⟩
      | succ j => exact h3 j g (by simpa using hg)
end ops
end Go.Proofs.Ytpgelghkjiejlaa
end
section
namespace Go.Proofs.Ytpgelghkjiejlaa
open Go
section ops
variable {pc : PrepC} {P : Program} {ρ : Ren} {n : Nat} {H : Heap} {w : World}

theorem gets_build {N : Nat} {T : Temps} {a : Act} (tr : TRel ρ N T a.tmps) (s : Sim pc ρ n H w) {t : TypeId} {fs : Array Field} {z : List V} {ps : Array (Nat × Operand)} {l : List (Nat × AX)} {l' : List (Nat × Nat × AX)}
    (ht : P.underlying t = some (.struct fs)) (hz : zeroL P t = some z) (hall : ∀ f ∈ fs.toList, ∃ s, sizeL P f.type = some s) (hps : prepParts ps.toList = some l) (hpl : placeL P fs.toList l = some l') {v : V} {n' : Nat} {H' : Heap}
    (ev : keep n H ((fillA z (l'.map fun (o, s, x) => (o, s, x.val T))).map .ag) = some (v, n', H')) :
    Gets pc P ρ n H w (Instr.build t (ps.map fun (i, x) => (i, a.eval x))) v n' H' := by
  cases hf : fillA z (l'.map fun (o, s, x) => (o, s, x.val T)) with
  | none => rw [hf] at ev; cases ev
  | some cs =>
    rw [hf] at ev
    cases ev
    obtain ⟨zv, hz1, hz2⟩ := zeroL_inv (P := P) (w := w) (ρ := ρ) hz
    obtain ⟨hl1, hr1⟩ := prepParts_rel tr hps
    obtain ⟨hl2, hr2⟩ := placeL_rel hpl
    obtain ⟨pl, hp1, hp2, hp3⟩ := run_places (P := P) (w := w) fs.toList hall
    obtain ⟨arr', hfill, hrel⟩ := fill_rel (ρ := ρ) (fun i => pl.toArray[i]?) (l'.map fun (o, s, x) => (o, s, x.val T)) (ps.toList.map fun (i, x) => (i, a.eval x)) z zv.cells cs hz2 (by simp [hl1, hl2]) (fun j p q hp hq => by
      simp only [List.getElem?_map, Option.map_eq_some_iff] at hp hq
      obtain ⟨p', hp', rfl⟩ := hp
      obtain ⟨q', hq', rfl⟩ := hq
      have hlt : j < l.length := by
        have := (List.getElem?_eq_some_iff.1 hp').1
        omega
      obtain ⟨h1, h2⟩ := hr1 j l[j] q' (by simp [hlt]) hq'
      obtain ⟨f, hf1, hf2, hf3, hf4⟩ := hr2 j p' l[j] hp' (by simp [hlt])
      obtain ⟨s', hs1, hs2⟩ := hp3 _ f hf1
      rw [hf3] at hs1
      cases hs1
      refine ⟨?_, by rw [hf4]; exact h2⟩
      simp only [List.getElem?_toArray]
      rw [← h1, hs2, hf2]) hf
    refine .pure s (y := .agg arr') ?_ hrel.to_ag
    simp only [Instr.build, Sem.run_bind, hz1, Result.andThen_ok, run_under ht]
    rw [show fs = fs.toList.toArray from by simp]
    rw [hp1]
    simp only [Result.andThen_ok]
    rw [show (Array.map (fun x => (x.fst, a.eval x.snd)) ps).toList = List.map (fun (i, x) => (i, a.eval x)) ps.toList from by simp]
    rw [hfill]
    simp

theorem i_inv {k : IntKind} {m : Int} {y : Value} (r : VRel ρ (.i k m) y) : y = .int k m := by cases r; rfl
theorem b_inv {x : Bool} {y : Value} (r : VRel ρ (.b x) y) : y = .bool x := by cases r; rfl
theorem s_inv {l : List UInt8} {y : Value} (r : VRel ρ (.s l) y) : ∃ b : ByteArray, y = .string b ∧ b.data.toList = l := by cases r with | s h => exact ⟨_, rfl, h⟩
theorem keep_inv {o : Option V} {v : V} {n' : Nat} {H' : Heap} (h : keep n H o = some (v, n', H')) : o = some v ∧ n' = n ∧ H' = H := by
  cases o with
  | none => cases h
  | some x => cases h; exact ⟨rfl, rfl, rfl⟩

theorem run_binI {op : BinOp} {t : TypeId} {k k' : IntKind} {m m' : Int} {v : V} (h : binI op k m k' m' = some v) : ∃ y, (binOp op t (.int k m) (.int k' m')).run P w = .ok y w ∧ VRel ρ v y := by
  cases op <;> simp only [binI, cmpI] at h <;> (try (split at h)) <;> (try (cases h; done)) <;> (try cases h)
  all_goals (try (rename_i hc; try (obtain ⟨hc, hz⟩ := hc)))
  all_goals (try subst hc)
  all_goals simp only [binOp]
  all_goals (try simp only [ne_eq, not_true_eq_false, if_false])
  all_goals first
    | exact ⟨_, rfl, .i _ _⟩
    | exact ⟨_, rfl, .b _⟩
    | (refine ⟨_, ?_, .i _ _⟩; simp only [Op.shift, Op.intDiv]; rw [if_neg (by omega)]; rfl)

theorem bytes_toList (x : ByteArray) : x.toList = x.data.toList := Lib.toList_data x
theorem run_binS {op : BinOp} {t : TypeId} {x y : ByteArray} {v : V} (h : binS op x.data.toList y.data.toList = some v) : ∃ u, (binOp op t (.string x) (.string y)).run P w = .ok u w ∧ VRel ρ v u := by
  cases op <;> simp only [binS] at h <;> (try (split at h)) <;> (try (cases h; done)) <;> (try cases h)
  all_goals simp only [binOp, Op.stringOp, bytes_toList]
  all_goals first
    | exact ⟨_, rfl, .b _⟩
    | skip
  rename_i hle
  refine ⟨.string (x ++ y), ?_, .s (by simp [ByteArray.append])⟩
  rw [if_neg]
  · rfl
  · have h1 : x.data.toList.length = x.size := by simp
    have h2 : y.data.toList.length = y.size := by simp
    have h3 : IntKind.i64.max = 9223372036854775807 := rfl
    rw [h1, h2] at hle
    rw [h3]
    omega

theorem gets_bin (s : Sim pc ρ n H w) {op : BinOp} {t : TypeId} {x y : V} {x' y' : Value} (rx : VRel ρ x x') (ry : VRel ρ y y') {v : V} {n' : Nat} {H' : Heap}
    (ev : keep n H (evBin op x y) = some (v, n', H')) : Gets pc P ρ n H w (binOp op t x' y') v n' H' := by
  obtain ⟨e, rfl, rfl⟩ := keep_inv ev
  unfold evBin at e
  split at e
  · cases i_inv rx; cases i_inv ry
    obtain ⟨u, h1, h2⟩ := run_binI (P := P) (w := w) (t := t) (ρ := ρ) e
    exact .pure s h1 h2
  · obtain ⟨b1, rfl, rfl⟩ := s_inv rx
    obtain ⟨b2, rfl, rfl⟩ := s_inv ry
    obtain ⟨u, h1, h2⟩ := run_binS (P := P) (w := w) (t := t) (ρ := ρ) e
    exact .pure s h1 h2
  · cases e
theorem run_eqOne {d : Nat} {t : TypeId} {k : Nat} {x y : V} {x' y' : Value} (rx : VRel ρ x x') (ry : VRel ρ y y') {r : Bool} (h : eqOne k x y = some r)
    (ht : EqT P t k) : (Op.equalIn (d + 1) t x' y').run P w = .ok r w := by
  unfold eqOne at h
  split at h
  · cases h; cases b_inv rx; cases b_inv ry; have ht : P.underlying t = some .bool := ht; simp [Op.equalIn, run_under ht]
  · split at h
    · rename_i hk
      cases h; subst hk; cases i_inv rx; cases i_inv ry; obtain ⟨q, ht⟩ := ht; simp [Op.equalIn, run_under ht]
    · cases h
  · cases h
    obtain ⟨b1, rfl, rfl⟩ := s_inv rx
    obtain ⟨b2, rfl, rfl⟩ := s_inv ry
    have ht : P.underlying t = some .string := ht
    simp only [Op.equalIn, Sem.run_bind, run_under ht, Result.andThen_ok, Sem.run_pure]
    congr 1
    have h1 : (b1 == b2) = (b1.data == b2.data) := by cases b1; cases b2; rfl
    rw [h1, Bool.eq_iff_iff]
    simp only [beq_iff_eq, Array.toList_inj]
  all_goals (try unfold EqT at ht)
  all_goals (try (cases h; cases rx; cases ry; obtain ⟨e, ht⟩ := ht; simp [Op.equalIn, run_under ht]; done))
  all_goals (try (cases h; cases rx; cases ry; obtain ⟨e, e', e'', ht⟩ := ht; simp [Op.equalIn, run_under ht]; done))
  cases h
end ops
end Go.Proofs.Ytpgelghkjiejlaa
end
section
namespace Go.Proofs.Ytpgelghkjiejlaa
open Go
section ops
variable {pc : PrepC} {P : Program} {ρ : Ren} {n : Nat} {H : Heap} {w : World}

theorem run_eqGuard {op : BinOp} {t : TypeId} {x y : Operand} {a b : Value} (h : (∃ xs, a = .agg xs) → P.eqGuardType P.depth t = false) (hn : a ≠ .nilIface) : (eqGuard op t x y a b).run P w = .ok () w := by
  unfold eqGuard
  have key : ∀ (c : Bool) (X : Sem Unit), X.run P w = .ok () w → (if c = true then pure () else X : Sem Unit).run P w = .ok () w := by
    intro c X hX
    cases c
    · simpa using hX
    · rfl
  refine key _ _ ?_
  split
  · exact absurd rfl hn
  · simp [program, Sem.run, pure, h ⟨_, rfl⟩]
  · rfl

theorem eqKind_ht {t : TypeId} {k : Nat} (h : eqKind P t = some k) : EqT P t k := by
  unfold eqKind at h
  split at h <;> cases h
  · assumption
  · exact ⟨_, by assumption⟩
  · assumption
theorem eqKind_agg {t : TypeId} {k : Nat} (h : eqKind P t = some k) : aggL P t = some false := by
  unfold eqKind at h
  unfold aggL
  split at h <;> simp_all
theorem run_part_one {t : TypeId} {k : Nat} (h : eqKind P t = some k) {cs : Array Value} {off : Nat} {y : Value} (hy : cs[off]? = some y) : (part t cs off).run P w = .ok y w := by
  simp [part, run_aggL (eqKind_agg h), hy]
theorem run_eqAll {d : Nat} {xs' ys' : Array Value} : ∀ {fs : List Field} {off : Nat} {ks : List Nat} {xs ys : List V} {r : Bool}, eqKinds P fs off = some ks → eqAll ks xs ys = some r →
    VRelL ρ xs (xs'.toList.drop off) → VRelL ρ ys (ys'.toList.drop off) → (Op.eqFields (d + 1) xs' ys' fs).run P w = .ok r w := by
  intro fs
  induction fs with
  | nil =>
    intro off ks xs ys r hk he rx ry
    cases hk
    cases xs <;> cases ys <;> simp [eqAll] at he
    subst he
    rfl
  | cons f fs ih =>
    intro off ks xs ys r hk he rx ry
    unfold eqKinds at hk
    split at hk
    · rename_i hc
      obtain ⟨ho, hnm⟩ := hc
      split at hk
      · rename_i k l h1 h2
        cases hk
        cases xs with
        | nil => simp [eqAll] at he
        | cons x xs =>
          cases ys with
          | nil => simp [eqAll] at he
          | cons y ys =>
            unfold eqAll at he
            split at he
            · rename_i a b ha hb
              cases he
              obtain ⟨x', xt, ex, rx1, rx2⟩ := rx.cons_inv
              obtain ⟨y', yt, ey, ry1, ry2⟩ := ry.cons_inv
              have hx : xs'[f.offset]? = some x' := by
                have : (xs'.toList.drop off)[0]? = some x' := by rw [ex]; rfl
                rw [List.getElem?_drop] at this; rw [ho]; simpa using this
              have hy : ys'[f.offset]? = some y' := by
                have : (ys'.toList.drop off)[0]? = some y' := by rw [ey]; rfl
                rw [List.getElem?_drop] at this; rw [ho]; simpa using this
              have hxt : xs'.toList.drop (off + 1) = xt := by
                have := congrArg List.tail ex; simpa [List.tail_drop] using this
              have hyt : ys'.toList.drop (off + 1) = yt := by
                have := congrArg List.tail ey; simpa [List.tail_drop] using this
              have h3 := ih (xs := xs) (ys := ys) h2 hb (hxt ▸ rx2) (hyt ▸ ry2)
              rw [Op.eqFields]
              simp only [if_pos hnm, Sem.run_bind, run_part_one h1 hx, run_part_one h1 hy, Result.andThen_ok, run_eqOne (P := P) (w := w) (d := d) rx1 ry1 ha (eqKind_ht h1)]
              cases a
              · simp
              · simpa using h3
            · cases he
      · cases hk
    · cases hk
theorem gets_eqs (s : Sim pc ρ n H w) {op : BinOp} {t : TypeId} {g : Bool} {ks : List Nat} (hg : negOf op = some g) (hk : eqStructT P t = some ks) {x y : V} {x' y' : Value} (rx : VRel ρ x x') (ry : VRel ρ y y') {v : V} {n' : Nat} {H' : Heap} {o1 o2 : Operand}
    (ev : keep n H (evEqs g ks x y) = some (v, n', H')) : Gets pc P ρ n H w (do eqGuard op t o1 o2 x' y'; binOp op t x' y') v n' H' := by
  obtain ⟨e, rfl, rfl⟩ := keep_inv ev
  unfold eqStructT at hk
  split at hk
  · rename_i fs ht
    split at hk
    · rename_i hc
      simp only [Bool.and_eq_true, Bool.not_eq_true'] at hc
      unfold evEqs at e
      split at e
      · obtain ⟨r, hr, rfl⟩ := Option.map_eq_some_iff.1 e
        obtain ⟨xs', rfl, rx1⟩ := VRelL.of_ag rx
        obtain ⟨ys', rfl, ry1⟩ := VRelL.of_ag ry
        have hf : P.fieldsOf t = fs := by simp [Program.fieldsOf, ht]
        have h1 : (Op.equal t (.agg xs') (.agg ys')).run P w = .ok r w := by
          unfold Op.equal
          rw [show Op.maxDepth = 9998 + 1 + 1 from rfl, run_equalIn_struct (P := P) w _ t _ _ (by rw [hf]; exact ht) hc.1, hf]
          exact run_eqAll (off := 0) hk hr (by simpa using rx1) (by simpa using ry1)
        refine .pure s (y := .bool (if g then !r else r)) ?_ (.b _)
        simp only [Sem.run_bind, run_eqGuard (P := P) (w := w) (a := .agg xs') (b := .agg ys') (fun _ => hc.2) (by simp), Result.andThen_ok]
        cases op <;> simp [negOf] at hg <;> subst hg <;> simp [binOp, h1]
      · cases e
    · cases hk
  · cases hk
theorem gets_eq1 (s : Sim pc ρ n H w) {op : BinOp} {t : TypeId} {g : Bool} {k : Nat} (hg : negOf op = some g) (hk : k = 0 ∨ k = 3 ∨ k = 4 ∨ k = 5) (ht : EqT P t k) {x y : V} {x' y' : Value} (rx : VRel ρ x x') (ry : VRel ρ y y') {v : V} {n' : Nat} {H' : Heap} {o1 o2 : Operand}
    (ev : keep n H (evEq1 g k x y) = some (v, n', H')) : Gets pc P ρ n H w (do eqGuard op t o1 o2 x' y'; binOp op t x' y') v n' H' := by
  obtain ⟨e, rfl, rfl⟩ := keep_inv ev
  obtain ⟨r, hr, rfl⟩ := Option.map_eq_some_iff.1 e
  have h1 : (Op.equal t x' y').run P w = .ok r w := run_eqOne (P := P) (w := w) (d := 9999) rx ry hr ht
  refine .pure s (y := .bool (if g then !r else r)) ?_ (.b _)
  have hna : (∀ xs, x' ≠ .agg xs) ∧ x' ≠ .nilIface ∧ (op = .eql → binOp op t x' y' = (do pure (.bool (← Op.equal t x' y')))) ∧ (op = .neq → binOp op t x' y' = (do pure (.bool (!(← Op.equal t x' y'))))) := by
    clear ht h1 e
    unfold eqOne at hr
    split at hr
    all_goals first
      | (cases hr; done)
      | (simp at hk; done)
      | (cases rx; cases ry; exact ⟨by simp, by simp, by rintro rfl; rfl, by rintro rfl; rfl⟩)
  simp only [Sem.run_bind, run_eqGuard (P := P) (w := w) (fun ⟨xs, hx⟩ => absurd hx (hna.1 xs)) hna.2.1, Result.andThen_ok]
  cases op <;> simp [negOf] at hg <;> subst hg
  · rw [hna.2.2.1 rfl]; simp [h1]
  · rw [hna.2.2.2 rfl]; simp [h1]
theorem gets_un (s : Sim pc ρ n H w) {op : UnOp} {x : V} {x' : Value} (rx : VRel ρ x x') {v : V} {n' : Nat} {H' : Heap} (ev : keep n H (evUn op x) = some (v, n', H')) : Gets pc P ρ n H w (Op.unary op x') v n' H' := by
  obtain ⟨e, rfl, rfl⟩ := keep_inv ev
  unfold evUn at e
  split at e
  · cases b_inv rx
    cases op <;> first | (simp at e; done) | (cases e; exact .pure s (y := .bool _) rfl (.b _))
  · cases i_inv rx
    cases op <;> first | (simp at e; done) | (cases e; exact .pure s (y := .int _ _) rfl (.i _ _))
  · cases e
end ops
end Go.Proofs.Ytpgelghkjiejlaa
end
section
namespace Go.Proofs.Ytpgelghkjiejlaa
open Go
section ops
variable {pc : PrepC} {P : Program} {ρ : Ren} {n : Nat} {H : Heap} {w : World}

theorem run_asInt {k : IntKind} {m : Int} : (asInt (.int k m)).run P w = .ok m w := by simp [asInt, asIntOf]
theorem run_askRoom (b : Nat) : (askRoom b).run P w = .ok () w := by
  unfold askRoom
  split <;> simp [mark, Sem.run, pure]
theorem gets_mks (s : Sim pc ρ n H w) {t e : TypeId} {i : TypeInfo} {z : List V} (ht : P.underlying t = some (.slice e)) (hi : P.info? e = some i) (hz : zeroL P e = some z) (h0 : 0 < i.size) (hzl : z.length = i.size)
    {x y : V} {x' y' : Value} (rx : VRel ρ x x') (ry : VRel ρ y y') {v : V} {n' : Nat} {H' : Heap} (ev : evMks n H i.size i.bytes z x y = some (v, n', H')) : Gets pc P ρ n H w (Instr.makeSlice t x' y') v n' H' := by
  unfold evMks at ev
  split at ev
  · rename_i k l k' c
    split at ev
    · rename_i hc
      obtain ⟨h1, h2, h3, h4⟩ := hc
      cases ev
      cases i_inv rx; cases i_inv ry
      obtain ⟨zv, hz1, hz2⟩ := zeroL_inv (P := P) (w := w) (ρ := ρ) hz
      have hzs : zv.cells.size = i.size := by have := hz2.1; simp at this; omega
      have hrep := zrep_rel hz2 c.toNat
      rw [hzl] at hrep
      obtain ⟨hle, hn, hs, he⟩ := s.allocRow (zrep z c.toNat) ((Array.range (c.toNat * i.size)).map (fun j => zv.cells[j % zv.cells.size]!)) e (by have := hrep.1; simp at this; simp [this]) (rel_get hrep)
      have hw1 : IntKind.i64.wrap l = l := IntWalk.i64_in _ (by omega)
      have hw2 : IntKind.i64.wrap c = c := IntWalk.i64_in _ (by omega)
      have hmul : (i.bytes : Int) * c ≤ 140737488355328 := by rw [Int.mul_comm]; exact h3
      have hmull : (i.bytes : Int) * l ≤ 140737488355328 := Int.le_trans (Int.mul_le_mul_of_nonneg_left h2 (by omega)) hmul
      refine ⟨.slice (some ⟨w.heap.size, 0, none⟩) l.toNat c.toNat, _, _, ?_, ?_, hs, he⟩
      · simp only [Instr.makeSlice, Sem.run_bind, run_under ht, Result.andThen_ok, run_asInt, run_info hi, hw1, hw2]
        rw [if_neg]
        · simp only [Sem.run_bind, run_askRoom, Result.andThen_ok, run_sizeL (show sizeL P e = some i.size by simp [sizeL, hi])]
          by_cases hn0 : c.toNat * i.size = 0
          · simp only [hn0, if_true, Sem.run_bind, Sem.run_pure, Result.andThen_ok, run_newRow, show Array.range 0 = #[] from rfl, Array.map_empty]
          · simp only [hn0, if_false, Sem.run_bind, hz1, Sem.run_pure, Result.andThen_ok, run_newRow]
        · simp only [Bool.or_eq_true, decide_eq_true_eq]
          omega
      · refine .sl hn (by omega) (fun h => ?_) (fun _ => ⟨by simp, by simp⟩)
        simp only [beq_iff_eq] at h
        rw [h]
    · cases ev
  · cases ev

theorem natOf_inv {x : V} {m : Nat} (h : natOf x = some m) {y : Value} (r : VRel ρ x y) : ∃ k i, y = .int k i ∧ 0 ≤ i ∧ i.toNat = m := by
  unfold natOf at h
  split at h
  · split at h
    · cases h; cases i_inv r; exact ⟨_, _, rfl, by assumption, rfl⟩
    · cases h
  · cases h
theorem run_sliceBound {x : V} {y : Value} (r : VRel ρ x y) {m : Nat} (h : natOf x = some m) {b : Nat} (hb : m ≤ b) (code : BoundsCode) : (Instr.sliceBound y b code).run P w = .ok m w := by
  obtain ⟨k, i, rfl, h0, rfl⟩ := natOf_inv h r
  simp only [Instr.sliceBound, asIntOf, Sem.run_bind, Sem.run_pure, Result.andThen_ok]
  rw [if_pos ⟨h0, by omega⟩]
  simp
/-- An optional operand and its value. -/
def ORel (ρ : Ren) : Option V → Option Value → Prop
  | none, none => True
  | some x, some y => VRel ρ x y
  | _, _ => False
theorem prepO_rel {N : Nat} {T : Temps} {a : Act} (tr : TRel ρ N T a.tmps) {x : Option Operand} {ax : Option AX} (h : prepO x = some ax) : ORel ρ (ax.map (·.val T)) (x.map a.eval) := by
  cases x with
  | none => cases h; trivial
  | some x =>
    simp only [prepO] at h
    obtain ⟨v, h1, rfl⟩ := Option.map_eq_some_iff.1 h
    exact prepX_rel tr h1
theorem run_sliceBounds {isSlice : Bool} {len cap : Nat} {lo hi mx : Option V} {lo' hi' mx' : Option Value} (rl : ORel ρ lo lo') (rh : ORel ρ hi hi') (rm : ORel ρ mx mx') {l h m dm : Nat}
    (hl : bound 0 lo = some l) (hh : bound len hi = some h) (hm : bound dm mx = some m) (hdm : mx = none → cap = m) (hcap : m ≤ cap) (h1 : l ≤ h) (h2 : h ≤ m) (hmx : mx.isSome → hi.isSome) :
    (Instr.sliceBounds isSlice len cap lo' hi' mx').run P w = .ok (l, h, m) w := by
  cases mx with
  | none =>
    cases mx' with
    | some y => exact rm.elim
    | none =>
      have hm' := hdm rfl
      subst hm'
      cases hi with
      | none =>
        cases hi' with
        | some y => exact rh.elim
        | none =>
          simp only [bound] at hh
          cases hh
          cases lo with
          | none =>
            cases lo' with
            | some y => exact rl.elim
            | none => simp only [bound] at hl; cases hl; simp [Instr.sliceBounds]
          | some x =>
            cases lo' with
            | none => exact rl.elim
            | some y => simp [Instr.sliceBounds, run_sliceBound rl hl h1]
      | some x =>
        cases hi' with
        | none => exact rh.elim
        | some y =>
          cases lo with
          | none =>
            cases lo' with
            | some y => exact rl.elim
            | none => simp only [bound] at hl; cases hl; simp [Instr.sliceBounds, run_sliceBound rh hh h2]
          | some x =>
            cases lo' with
            | none => exact rl.elim
            | some y => simp [Instr.sliceBounds, run_sliceBound rh hh h2, run_sliceBound rl hl h1]
  | some x =>
    cases mx' with
    | none => exact rm.elim
    | some y =>
      cases hi with
      | none => exact absurd (hmx rfl) (by simp)
      | some x =>
        cases hi' with
        | none => exact rh.elim
        | some y =>
          cases lo with
          | none =>
            cases lo' with
            | some y => exact rl.elim
            | none => simp only [bound] at hl; cases hl; simp [Instr.sliceBounds, run_sliceBound rm hm hcap, run_sliceBound rh hh h2]
          | some x =>
            cases lo' with
            | none => exact rl.elim
            | some y => simp [Instr.sliceBounds, run_sliceBound rm hm hcap, run_sliceBound rh hh h2, run_sliceBound rl hl h1]
theorem gets_sls (s : Sim pc ρ n H w) {t e : TypeId} {sz : Nat} (ht : P.underlying t = some (.slice e)) (hs : sizeL P e = some sz) {x : V} {x' : Value} (rx : VRel ρ x x') {lo hi mx : Option V} {lo' hi' mx' : Option Value}
    (rl : ORel ρ lo lo') (rh : ORel ρ hi hi') (rm : ORel ρ mx mx') (hmx : mx.isSome → hi.isSome) {v : V} {n' : Nat} {H' : Heap} (ev : keep n H (evSls sz x lo hi mx) = some (v, n', H')) :
    Gets pc P ρ n H w (Instr.sliceAt t x' lo' hi' mx') v n' H' := by
  obtain ⟨e', rfl, rfl⟩ := keep_inv ev
  unfold evSls at e'
  split at e'
  · rename_i id off sz' len full
    cases rx with
    | @sl _ _ _ _ _ c d z o k hρ hk hf ho =>
    split at e'
    · rename_i l h m e1 e2 e3
      split at e'
      · rename_i hc
        obtain ⟨rfl, h1, h2, h3⟩ := hc
        cases e'
        have hb : ∃ m', bound k mx = some m' ∧ (mx = none → k = m') ∧ m' ≤ k ∧ h ≤ m' ∧ (mx ≠ none → m' = m) := by
          cases mx with
          | none => exact ⟨k, rfl, fun _ => rfl, Nat.le_refl _, (by simp only [bound] at e3; cases e3; omega), fun h => absurd rfl h⟩
          | some u => exact ⟨m, e3, (fun h => by cases h), by omega, h2, fun _ => rfl⟩
        obtain ⟨m', b1, b2, b3, b4, b5⟩ := hb
        have hrun := run_sliceBounds (P := P) (w := w) (isSlice := true) (cap := k) rl rh rm e1 e2 b1 b2 b3 h1 b4 hmx
        refine .pure s (y := .slice (some (if m' = l then ⟨c, o, none⟩ else (⟨c, o, none⟩ : Addr).add (l * sz'))) (h - l) (m' - l)) ?_ ?_
        · simp only [Instr.sliceAt, Instr.slice, Sem.run_bind, run_under ht, Result.andThen_ok, hrun, run_sizeL hs, Sem.run_pure]
          split <;> rfl
        · have haddr : (if m' = l then (⟨c, o, none⟩ : Addr) else (⟨c, o, none⟩ : Addr).add (l * sz')) = ⟨c, if m' = l then o else o + l * sz', none⟩ := by
            split
            · rfl
            · rw [add_off]
          rw [haddr]
          refine .sl hρ (by omega) (fun hfull => ?_) (fun hk' => ?_)
          · by_cases hm : mx = none
            · subst hm
              simp at hfull
              have := hf hfull.1
              have := b2 rfl
              omega
            · have : mx.isSome = true := by cases mx <;> simp_all
              rw [if_pos this] at hfull
              simp at hfull
              rw [b5 hm, hfull]
          · rw [if_neg (by omega)]
            obtain ⟨ho1, ho2⟩ := ho (by omega)
            refine ⟨by omega, ?_⟩
            have : l * sz' + (m' - l) * sz' = m' * sz' := by rw [← Nat.add_mul]; congr 1; omega
            have := Nat.mul_le_mul_right sz' b3
            omega
      · cases e'
    · cases e'
  · cases rx
    split at e'
    · rename_i e1 e2 e3
      cases e'
      have hb : ∃ m', bound 0 mx = some m' ∧ m' = 0 := ⟨0, e3, rfl⟩
      have hrun := run_sliceBounds (P := P) (w := w) (isSlice := true) (cap := 0) rl rh rm e1 e2 e3 (fun _ => rfl) (Nat.le_refl _) (Nat.le_refl _) (Nat.le_refl _) hmx
      refine .pure s (y := .slice none 0 0) ?_ .nils
      simp only [Instr.sliceAt, Instr.slice, Sem.run_bind, run_under ht, Result.andThen_ok, hrun, run_sizeL hs, Sem.run_pure]
      simp
    · cases e'
  · cases e'
theorem gets_sla (s : Sim pc ρ n H w) {t e : TypeId} {m0 sz : Nat} (ht : P.underlying t = some (.array m0 e)) (hs : sizeL P e = some sz) {x : V} {x' : Value} (rx : VRel ρ x x') {lo hi mx : Option V} {lo' hi' mx' : Option Value}
    (rl : ORel ρ lo lo') (rh : ORel ρ hi hi') (rm : ORel ρ mx mx') (hmx : mx.isSome → hi.isSome) {v : V} {n' : Nat} {H' : Heap} (ev : keep n H (evSla H m0 sz x lo hi mx) = some (v, n', H')) :
    Gets pc P ρ n H w (Instr.sliceAt t x' lo' hi' mx') v n' H' := by
  obtain ⟨e', rfl, rfl⟩ := keep_inv ev
  unfold evSla at e'
  split at e'
  · rename_i id off
    cases rx with
    | @p _ _ c d z o hρ ho =>
    split at e'
    · rename_i l h m own cs e1 e2 e3 hb
      split at e'
      · rename_i hc
        obtain ⟨h1, h2, h3, h4⟩ := hc
        cases e'
        obtain ⟨arr, ty, fr, _, _, hz, _⟩ := s.row hb hρ
        have hrun := run_sliceBounds (P := P) (w := w) (isSlice := false) (cap := m0) rl rh rm e1 e2 e3 (fun hn => by subst hn; simp only [bound] at e3; cases e3; rfl) h3 h1 h2 hmx
        refine .pure s (y := .slice (some (if m = l then ⟨c, o, none⟩ else (⟨c, o, none⟩ : Addr).add (l * sz))) (h - l) (m - l)) ?_ ?_
        · simp only [Instr.sliceAt, Instr.sureAddr, Sem.run_bind, run_under ht, Result.andThen_ok, hrun, run_sizeL hs, Sem.run_pure]
        · have haddr : (if m = l then (⟨c, o, none⟩ : Addr) else (⟨c, o, none⟩ : Addr).add (l * sz)) = ⟨c, if m = l then o else o + l * sz, none⟩ := by
            split
            · rfl
            · rw [add_off]
          rw [haddr]
          refine .sl hρ (by omega) (fun hfull => ?_) (fun hk' => ?_)
          · simp at hfull; omega
          · rw [if_neg (by omega)]
            refine ⟨by omega, ?_⟩
            have : l * sz + (m - l) * sz = m * sz := by rw [← Nat.add_mul]; congr 1; omega
            have := Nat.mul_le_mul_right sz h3
            omega
      · cases e'
    · cases e'
  · cases e'
theorem gets_sstr (s : Sim pc ρ n H w) {t : TypeId} (ht : P.underlying t = some .string) {x : V} {x' : Value} (rx : VRel ρ x x') {lo hi : Option V} {lo' hi' : Option Value}
    (rl : ORel ρ lo lo') (rh : ORel ρ hi hi') {v : V} {n' : Nat} {H' : Heap} (ev : keep n H (evStr x lo hi) = some (v, n', H')) : Gets pc P ρ n H w (Instr.sliceAt t x' lo' hi' none) v n' H' := by
  obtain ⟨e', rfl, rfl⟩ := keep_inv ev
  unfold evStr at e'
  split at e'
  · obtain ⟨b, rfl, rfl⟩ := s_inv rx
    split at e'
    · rename_i l h e1 e2
      split at e'
      · rename_i hc
        cases e'
        have hsz : b.data.toList.length = b.size := by simp
        rw [hsz] at e2 hc
        have hrun := run_sliceBounds (P := P) (w := w) (isSlice := false) (len := b.size) (cap := b.size) (mx := none) (mx' := none) (dm := b.size) rl rh trivial e1 e2 rfl (fun _ => rfl) (Nat.le_refl _) hc.1 hc.2 (fun h => by cases h)
        refine .pure s (y := .string (b.extract l h)) ?_ (.s ?_)
        · simp [Instr.sliceAt, Instr.slice, run_under ht, hrun]
        · rw [Lib.extract_data]
      · cases e'
    · cases e'
  · cases e'
end ops
end Go.Proofs.Ytpgelghkjiejlaa
end
section
namespace Go.Proofs.Ytpgelghkjiejlaa
open Go
section ops
variable {pc : PrepC} {P : Program} {ρ : Ren} {n : Nat} {H : Heap} {w : World}

theorem gets_fa (s : Sim pc ρ n H w) {t : TypeId} {fs : Array Field} {f : Nat} {fd : Field} {k : Nat} (ht : P.underlying t = some (.struct fs)) (hf : fs[f]? = some fd) (hs : sizeL P fd.type = some (k + 1)) {x : V} {x' : Value} (rx : VRel ρ x x') {v : V} {n' : Nat} {H' : Heap}
    (ev : keep n H (evFa fd.offset x) = some (v, n', H')) : Gets pc P ρ n H w (Instr.fieldAt t x' f) v n' H' := by
  obtain ⟨e, rfl, rfl⟩ := keep_inv ev
  unfold evFa at e
  split at e
  · cases e
    cases rx with
    | @p _ _ c d z o hρ ho =>
    refine .pure s (y := .pointer (some ⟨c, o + fd.offset, none⟩)) ?_ (.p hρ (by omega))
    simp [Instr.fieldAt, run_under ht, hf, Instr.sureAddr, fieldPlace, run_sizeL hs, add_off]
  · cases e
theorem gets_fld (s : Sim pc ρ n H w) {t : TypeId} {fs : Array Field} {f : Nat} {fd : Field} {g : Bool} {sz : Nat} (ht : P.underlying t = some (.struct fs)) (hf : fs[f]? = some fd) (hs : sizeL P fd.type = some sz) (hg : aggL P fd.type = some g) {x : V} {x' : Value} (rx : VRel ρ x x')
    {v : V} {n' : Nat} {H' : Heap} (ev : keep n H (evFld g fd.offset sz x) = some (v, n', H')) : Gets pc P ρ n H w (Instr.field t x' f) v n' H' := by
  obtain ⟨e, rfl, rfl⟩ := keep_inv ev
  unfold evFld at e
  split at e
  · obtain ⟨ys, rfl, r⟩ := VRelL.of_ag rx
    split at e
    · rename_i hgt
      subst hgt
      split at e
      · rename_i hl
        cases e
        refine .pure s (y := .agg (ys.extract fd.offset (fd.offset + sz))) ?_ ?_
        · simp [Instr.field, run_under ht, hf, asAgg, part, run_aggL hg, run_sizeL hs]
        · apply VRelL.to_ag
          rw [Array.toList_extract, List.extract_eq_take_drop, show fd.offset + sz - fd.offset = sz by omega]
          exact (r.drop _).take _
      · cases e
    · rename_i hgf
      have hg' : g = false := by simpa using hgf
      subst hg'
      obtain ⟨y, hy, hr⟩ := r.get e
      refine .pure s (y := y) ?_ hr
      simp only [Array.getElem?_toList] at hy
      simp [Instr.field, run_under ht, hf, asAgg, part, run_aggL hg, hy]
  · cases e
theorem gets_ias (s : Sim pc ρ n H w) {t e : TypeId} {sz : Nat} (ht : P.underlying t = some (.slice e)) (hs : sizeL P e = some sz) {x i : V} {x' i' : Value} (rx : VRel ρ x x') (ri : VRel ρ i i') {v : V} {n' : Nat} {H' : Heap}
    (ev : keep n H (evIas sz x i) = some (v, n', H')) : Gets pc P ρ n H w (Instr.indexAt t x' i') v n' H' := by
  obtain ⟨e', rfl, rfl⟩ := keep_inv ev
  unfold evIas at e'
  split at e'
  · split at e'
    · rename_i id off sz' len full k m hc
      obtain ⟨rfl, h0, h1⟩ := hc
      cases e'
      cases i_inv ri
      cases rx with
      | @sl _ _ _ _ _ c d z o k' hρ hk hf ho =>
      obtain ⟨ho1, ho2⟩ := ho (by omega)
      refine .pure s (y := .pointer (some ⟨c, o + m.toNat * sz', none⟩)) ?_ (.p hρ (by omega))
      simp only [Instr.indexAt, asIntOf, Sem.run_bind, Sem.run_pure, Result.andThen_ok, run_under ht]
      rw [if_pos ⟨h0, h1⟩]
      simp [run_sizeL hs, add_off]
    · cases e'
  · cases e'
theorem gets_iaa (s : Sim pc ρ n H w) {t e : TypeId} {len sz : Nat} (ht : P.underlying t = some (.array len e)) (hs : sizeL P e = some sz) {x i : V} {x' i' : Value} (rx : VRel ρ x x') (ri : VRel ρ i i') {v : V} {n' : Nat} {H' : Heap}
    (ev : keep n H (evIaa len sz x i) = some (v, n', H')) : Gets pc P ρ n H w (Instr.indexAt t x' i') v n' H' := by
  obtain ⟨e', rfl, rfl⟩ := keep_inv ev
  unfold evIaa at e'
  split at e'
  · split at e'
    · rename_i id off k m hc
      obtain ⟨h0, h1⟩ := hc
      cases e'
      cases i_inv ri
      cases rx with
      | @p _ _ c d z o hρ ho =>
      refine .pure s (y := .pointer (some ⟨c, o + m.toNat * sz, none⟩)) ?_ (.p hρ (by omega))
      simp only [Instr.indexAt, asIntOf, Sem.run_bind, Sem.run_pure, Result.andThen_ok, run_under ht, Instr.sureAddr]
      rw [if_pos ⟨h0, h1⟩]
      simp [run_sizeL hs, add_off]
    · cases e'
  · cases e'
theorem gets_ixs (s : Sim pc ρ n H w) {t : TypeId} (ht : P.underlying t = some .string) {x i : V} {x' i' : Value} (rx : VRel ρ x x') (ri : VRel ρ i i') {v : V} {n' : Nat} {H' : Heap}
    (ev : keep n H (evIxs x i) = some (v, n', H')) : Gets pc P ρ n H w (Instr.index t x' i') v n' H' := by
  obtain ⟨e', rfl, rfl⟩ := keep_inv ev
  unfold evIxs at e'
  split at e'
  · split at e'
    · rename_i k m h0
      obtain ⟨b, rfl, rfl⟩ := s_inv rx
      cases i_inv ri
      obtain ⟨c, hc, rfl⟩ := Option.map_eq_some_iff.1 e'
      refine .pure s (y := .int .u8 c.toNat) ?_ (.i _ _)
      have hb : b[m.toNat]? = some c := by
        obtain ⟨h1, h2⟩ := List.getElem?_eq_some_iff.1 hc
        have h3 : m.toNat < b.size := by simpa using h1
        rw [getElem?_pos b m.toNat h3]
        congr 1
      simp only [Instr.index, asIntOf, Sem.run_bind, Sem.run_pure, Result.andThen_ok, run_under ht]
      rw [if_pos h0, hb]
      rfl
    · cases e'
  · cases e'
theorem gets_len (s : Sim pc ρ n H w) {g : Bool} {t : TypeId} {ts : Array TypeId} {ty : TypeId} (ht : ts[0]? = some t) (hu : if g then P.underlying t = some .string else ∃ e, P.underlying t = some (.slice e)) {x : V} {x' : Value} (rx : VRel ρ x x') {v : V} {n' : Nat} {H' : Heap}
    (ev : keep n H (evLen g x) = some (v, n', H')) : Gets pc P ρ n H w (Builtin.len_ ts ty #[x']) v n' H' := by
  obtain ⟨e', rfl, rfl⟩ := keep_inv ev
  unfold evLen at e'
  split at e'
  · obtain ⟨b, rfl, rfl⟩ := s_inv rx
    cases e'
    refine .pure s (y := .int .i64 b.size) ?_ ?_
    · have hk : P.underlying t = some .string := by simpa using hu
      simp [Builtin.len_, ht, run_under hk, goInt]
    · rw [show (b.data.toList.length : Int) = (b.size : Int) by simp]; exact .i _ _
  · cases e'
    obtain ⟨e, hk⟩ : ∃ e, P.underlying t = some (.slice e) := by simpa using hu
    cases rx with
    | sl hρ h1 h2 h3 =>
    exact .pure s (y := .int .i64 _) (by simp [Builtin.len_, ht, run_under hk, goInt]) (.i _ _)
  · cases e'
    obtain ⟨e, hk⟩ : ∃ e, P.underlying t = some (.slice e) := by simpa using hu
    cases rx
    exact .pure s (y := .int .i64 0) (by simp [Builtin.len_, ht, run_under hk, goInt]) (.i _ _)
  · cases e'

theorem run_min2 {x y z : V} {x' y' : Value} (rx : VRel ρ x x') (ry : VRel ρ y y') (h : minI x y = some z) : ∃ z', (Builtin.min2 x' y').run P w = .ok z' w ∧ VRel ρ z z' := by
  unfold minI at h
  split at h
  · cases h; cases i_inv rx; cases i_inv ry; exact ⟨_, rfl, .i _ _⟩
  · cases h
theorem run_max2 {x y z : V} {x' y' : Value} (rx : VRel ρ x x') (ry : VRel ρ y y') (h : maxI x y = some z) : ∃ z', (Builtin.max2 x' y').run P w = .ok z' w ∧ VRel ρ z z' := by
  unfold maxI at h
  split at h
  · cases h; cases i_inv rx; cases i_inv ry; exact ⟨_, rfl, .i _ _⟩
  · cases h
theorem run_foldO {f : V → V → Option V} {f' : Value → Value → Sem Value} (hf : ∀ x y z x' y', VRel ρ x x' → VRel ρ y y' → f x y = some z → ∃ z', (f' x' y').run P w = .ok z' w ∧ VRel ρ z z') :
    ∀ {ys : List V} {ys' : List Value} {x : V} {x' : Value} {z : V}, VRel ρ x x' → VRelL ρ ys ys' → foldO f x ys = some z → ∃ z', (ys'.foldlM f' x').run P w = .ok z' w ∧ VRel ρ z z' := by
  intro ys
  induction ys with
  | nil => intro ys' x x' z rx ry h; cases h; obtain rfl := ry.nil_inv; exact ⟨x', rfl, rx⟩
  | cons y ys ih =>
    intro ys' x x' z rx ry h
    obtain ⟨y', yt, rfl, r1, r2⟩ := ry.cons_inv
    unfold foldO at h
    split at h
    · rename_i u hu
      obtain ⟨u', h1, h2⟩ := hf _ _ _ _ _ rx r1 hu
      obtain ⟨z', h3, h4⟩ := ih h2 r2 h
      exact ⟨z', by simp [List.foldlM_cons, h1, h3], h4⟩
    · cases h
theorem gets_min (s : Sim pc ρ n H w) {ts : Array TypeId} {ty : TypeId} {xs : List V} {xs' : Array Value} (r : VRelL ρ xs xs'.toList) {v : V} {n' : Nat} {H' : Heap} (ev : keep n H (evFold minI xs) = some (v, n', H')) : Gets pc P ρ n H w (Builtin.min_ ts ty xs') v n' H' := by
  obtain ⟨e', rfl, rfl⟩ := keep_inv ev
  unfold evFold at e'
  split at e'
  · cases e'
  · obtain ⟨y, yt, hy, r1, r2⟩ := r.cons_inv
    obtain ⟨z', h1, h2⟩ := run_foldO (P := P) (w := w) (f' := Builtin.min2) (fun x y z x' y' rx ry h => run_min2 rx ry h) r1 r2 e'
    exact .pure s (by simp only [Builtin.min_, hy]; exact h1) h2
theorem gets_max (s : Sim pc ρ n H w) {ts : Array TypeId} {ty : TypeId} {xs : List V} {xs' : Array Value} (r : VRelL ρ xs xs'.toList) {v : V} {n' : Nat} {H' : Heap} (ev : keep n H (evFold maxI xs) = some (v, n', H')) : Gets pc P ρ n H w (Builtin.max_ ts ty xs') v n' H' := by
  obtain ⟨e', rfl, rfl⟩ := keep_inv ev
  unfold evFold at e'
  split at e'
  · cases e'
  · obtain ⟨y, yt, hy, r1, r2⟩ := r.cons_inv
    obtain ⟨z', h1, h2⟩ := run_foldO (P := P) (w := w) (f' := Builtin.max2) (fun x y z x' y' rx ry h => run_max2 rx ry h) r1 r2 e'
    exact .pure s (by simp only [Builtin.max_, hy]; exact h1) h2

/-- The cells of a slice, read. -/
theorem run_firstCells (s : Sim pc ρ n H w) {sz : Nat} {x : V} {x' : Value} (rx : VRel ρ x x') {cs : List V} (h : cellsOf H sz x = some cs) {m : Nat} (hm : m ≤ lenS x) :
    ∃ arr : Array Value, (Builtin.firstCells sz m x').run P w = .ok arr w ∧ VRelL ρ (cs.take (m * sz)) arr.toList := by
  unfold cellsOf at h
  split at h
  · cases h; cases rx
    exact ⟨#[], rfl, by simpa using VRelL.nil⟩
  · rename_i id off sz' len full
    split at h
    · rename_i own cs' hb
      split at h
      · rename_i hc
        obtain ⟨rfl, hl⟩ := hc
        cases h
        simp only [lenS] at hm
        cases rx with
        | @sl _ _ _ _ _ c d z o k hρ hk hf ho =>
        obtain ⟨arr, ty, fr, h1, h2, h3, h4, _⟩ := s.row hb hρ
        by_cases hm0 : m * sz' = 0
        · refine ⟨#[], ?_, by rw [hm0]; simpa using VRelL.nil⟩
          simp only [Builtin.firstCells, hm0]
          rfl
        · have hk0 : k ≠ 0 := by
            rintro rfl
            have : m = 0 := by omega
            rw [this] at hm0; simp at hm0
          obtain ⟨ho1, ho2⟩ := ho hk0
          have hmk : m * sz' ≤ len * sz' := Nat.mul_le_mul_right _ hm
          refine ⟨arr.extract o (o + m * sz'), ?_, ?_⟩
          · simp only [Builtin.firstCells]
            exact run_loadCells_at h1 (by omega)
          · have := (h4.drop off).take (m * sz')
            rw [List.drop_take, List.take_take, List.drop_drop] at this
            rw [Array.toList_extract, List.extract_eq_take_drop, List.take_take, Nat.min_eq_left hmk, show o + m * sz' - o = m * sz' by omega, ho1]
            rw [Nat.min_eq_left (by omega)] at this
            exact this
      · cases h
    · cases h
  · cases h
theorem cellsOf_length {sz : Nat} {x : V} {cs : List V} (h : cellsOf H sz x = some cs) : cs.length = lenS x * sz := by
  unfold cellsOf at h
  split at h
  · cases h; simp [lenS]
  · split at h
    · split at h
      · rename_i hc; cases h; simp only [List.length_take, List.length_drop, lenS]; omega
      · cases h
    · cases h
  · cases h
theorem run_lenOf {sz : Nat} {x : V} {x' : Value} (rx : VRel ρ x x') {cs : List V} (h : cellsOf H sz x = some cs) : (Builtin.lenOf x').run P w = .ok (lenS x) w := by
  unfold cellsOf at h
  split at h
  · cases rx; rfl
  · cases rx; rfl
  · cases h
theorem gets_cpy (s : Sim pc ρ n H w) {t e : TypeId} {ts : Array TypeId} {ty : TypeId} {sz : Nat} (ht : ts[0]? = some t) (hu : P.underlying t = some (.slice e)) (hs : sizeL P e = some sz) {d x : V} {d' x' : Value} (rd : VRel ρ d d') (rx : VRel ρ x x') {v : V} {n' : Nat} {H' : Heap}
    (ev : evCpy n H sz d x = some (v, n', H')) : Gets pc P ρ n H w (Builtin.copy_ ts ty #[d', x']) v n' H' := by
  unfold evCpy at ev
  split at ev
  · rename_i new hnew
    split at ev
    · cases ev
      cases rd
      obtain ⟨arr, h1, h2⟩ := run_firstCells (P := P) s rx hnew (m := 0) (Nat.zero_le _)
      refine .pure s (y := .int .i64 0) ?_ (.i _ _)
      have : Nat.min (lenS x) 0 = 0 := Nat.min_zero _
      simp [Builtin.copy_, ht, run_under hu, run_lenOf (P := P) (w := w) rx hnew, run_sizeL hs, this, h1, goInt]
    · rename_i id off sz' len full
      split at ev
      · rename_i cs hb
        split at ev
        · rename_i hc
          obtain ⟨rfl, hl, hone⟩ := hc
          cases ev
          cases rd with
          | @sl _ _ _ _ _ c dd z o k hρ hk hf ho =>
          obtain ⟨arr, h1, h2⟩ := run_firstCells (P := P) s rx hnew (m := min (lenS x) len) (Nat.min_le_left _ _)
          have hnl := cellsOf_length hnew
          have hml : min (lenS x) len * sz' ≤ len * sz' := Nat.mul_le_mul_right _ (Nat.min_le_right _ _)
          have htl : (new.take (min (lenS x) len * sz')).length = min (lenS x) len * sz' := by
            have : min (lenS x) len * sz' ≤ lenS x * sz' := Nat.mul_le_mul_right _ (Nat.min_le_left _ _)
            simp; omega
          have hrun : (Builtin.copy_ ts ty #[Value.slice (some ⟨c, o, none⟩) len k, x']).run P w = ((storeCells ⟨c, o, none⟩ arr.toList 0).run P w).andThen fun _ w' => .ok (.int .i64 (min (lenS x) len : Nat)) w' := by
            simp only [Builtin.copy_, ht, List.getElem?_toArray, List.getElem?_cons_zero, List.getElem?_cons_succ, Sem.run_bind, run_under hu, Result.andThen_ok, run_lenOf (P := P) (w := w) rx hnew, run_sizeL hs]
            rw [show Nat.min (lenS x) len = min (lenS x) len from rfl, h1]
            rfl
          by_cases hk0 : k = 0
          · have hl0 : len = 0 := by omega
            subst hl0
            have h0 : min (lenS x) 0 = 0 := Nat.min_zero _
            rw [h0] at h2 hrun htl ⊢
            have harr : arr.toList = [] := by
              have := h2.1; simp at this; exact List.eq_nil_of_length_eq_zero (by rw [Array.length_toList]; omega)
            rw [harr] at hrun
            refine ⟨.int .i64 0, w, ρ, by rw [hrun]; rfl, .i _ _, ?_⟩
            have hset : setAll cs off (new.take (0 * sz')) = cs := by simp [setAll]
            rw [hset]
            have hsame : ∀ b, aget (aput H id (.row true cs)) b = aget H b := fun b => by
              rw [aget_put]; split
              · rename_i h; rw [← h, hb]
              · rfl
            exact ⟨⟨s.sup, fun b k h => s.blk b k (hsame b ▸ h), fun b1 b2 k1 k2 x1 x2 g1 g2 => s.inj b1 b2 k1 k2 x1 x2 (hsame b1 ▸ g1) (hsame b2 ▸ g2)⟩,
              ⟨Nat.le_refl _, .refl _, fun _ _ _ h => h, rfl, rfl, rfl, Nat.le_refl _, Nat.le_refl _, fun _ _ _ => rfl, fun c ⟨b, k, x, g1, g2⟩ => .inl ⟨b, k, x, hsame b ▸ g1, g2⟩⟩⟩
          · obtain ⟨ho1, ho2⟩ := ho hk0
            subst ho1
            obtain ⟨w', h3, h4, h5⟩ := sim_write (P := P) (off := off) s hb hρ h2 (by
              simp only [List.all_eq_true] at hone ⊢
              exact fun y hy => hone y (List.mem_of_mem_take hy)) (by rw [htl]; omega)
            exact ⟨_, w', ρ, by rw [hrun, h3]; rfl, .i _ _, h4, h5⟩
        · cases ev
      · cases ev
    · cases ev
  · cases ev
theorem gets_clr (s : Sim pc ρ n H w) {t e : TypeId} {ts : Array TypeId} {ty : TypeId} {sz : Nat} {z : List V} (ht : ts[0]? = some t) (hu : P.underlying t = some (.slice e)) (hs : sizeL P e = some sz) (hz : zeroL P e = some z) {x : V} {x' : Value} (rx : VRel ρ x x') {v : V} {n' : Nat} {H' : Heap}
    (ev : evClr n H sz z x = some (v, n', H')) : Gets pc P ρ n H w (Builtin.clear_ ts ty #[x']) v n' H' := by
  unfold evClr at ev
  have hemp : VRel ρ (.tu []) (.tuple #[]) := .tu rfl fun j x y h => by simp at h
  split at ev
  · cases ev
    cases rx
    exact .pure s (y := .tuple #[]) (by simp [Builtin.clear_, ht, run_under hu]) hemp
  · rename_i id off sz' len full
    cases rx with
    | @sl _ _ _ _ _ c d zz o k hρ hk hf ho =>
    split at ev
    · rename_i hl0
      subst hl0
      cases ev
      exact .pure s (y := .tuple #[]) (by simp [Builtin.clear_, ht, run_under hu]) hemp
    · rename_i hl0
      split at ev
      · rename_i cs hb
        split at ev
        · rename_i hc
          obtain ⟨rfl, hzl, hl, hone⟩ := hc
          cases ev
          obtain ⟨zv, hz1, hz2⟩ := zeroL_inv (P := P) (w := w) (ρ := ρ) hz
          obtain ⟨ho1, ho2⟩ := ho (by omega)
          subst ho1
          have hrep := zrep_rel hz2 len
          have hzs : zv.cells.size = z.length := by have := hz2.1; simp at this; omega
          have hzc : (Builtin.zeroCells zv.cells len) = (Array.range (len * z.length)).map (fun i => zv.cells[i % zv.cells.size]!) := by
            simp [Builtin.zeroCells, hzs]
          obtain ⟨w', h3, h4, h5⟩ := sim_write (P := P) s hb hρ hrep (zrep_one hone len) (by rw [zrep_length, hzl]; omega)
          refine ⟨.tuple #[], w', ρ, ?_, hemp, h4, h5⟩
          obtain ⟨len, rfl⟩ : ∃ m, len = m + 1 := ⟨len - 1, by omega⟩
          simp only [Builtin.clear_, ht, List.getElem?_toArray, List.getElem?_cons_zero, Sem.run_bind, run_under hu, Result.andThen_ok, hz1, hzc, h3, Sem.run_pure]
        · cases ev
      · cases ev
  · cases ev
end ops
end Go.Proofs.Ytpgelghkjiejlaa
end
section
namespace Go.Proofs.Ytpgelghkjiejlaa
open Go
section ops
variable {pc : PrepC} {P : Program} {ρ : Ren} {n : Nat} {H : Heap} {w : World}

theorem growslice_ok {need old bytes : Nat} (h : old < need) (hb : need * bytes ≤ 140737488355328) : ¬ (Builtin.nextslicecap need old * bytes > 2 ^ 48) := by
  have := growslice_fits h hb
  omega
/-- Append where a new row is laid. -/
theorem run_append_grow {t t' ty e e' : TypeId} {i : TypeInfo} {zv : Value} (ht : P.underlying t = some (.slice e)) (ht' : P.underlying t' = some (.slice e')) (hi : P.info? e = some i) (hz : (zeroValue e).run P w = .ok zv w) (hb0 : 0 < i.bytes)
    {base : Option Addr} {len k : Nat} {y : Value} {m : Nat} (hlen : (Builtin.lenOf y).run P w = .ok m w) (hgrow : k < len + m) (hcap : (len + m) * i.bytes ≤ 140737488355328)
    {old new : Array Value} (hz' : ∀ w' : World, w'.heap = w.heap → (zeroValue e).run P w' = .ok zv w')
    (hold : ∀ w' : World, w'.heap = w.heap → (Builtin.firstCells i.size len (.slice base len k)).run P w' = .ok old w')
    (hnew : ∀ w' : World, w'.heap = w.heap → (Builtin.firstCells i.size m y).run P w' = .ok new w') :
    ∃ newCap w', w'.heap = w.heap ∧ w'.os = w.os ∧ w'.tape = w.tape ∧ w'.output = w.output ∧ w.drawn ≤ w'.drawn ∧ len + m ≤ newCap ∧
      (Builtin.append_ #[t, t'] ty #[.slice base len k, y]).run P w = .ok (.slice (some ⟨w.heap.size, 0, none⟩) (len + m) newCap) (pushW w' (.cells (old ++ new ++ Builtin.zeroCells zv.cells (newCap - (len + m))) e)) := by
  refine ⟨Question.cut (.appendCap (len + m) k e) (w.tape w.drawn (.appendCap (len + m) k e)), { w with drawn := w.drawn + 1 }, rfl, rfl, rfl, rfl, Nat.le_succ _, by simp [Question.cut], ?_⟩
  have h1 : ¬ (((len + m : Nat) : Int) > IntKind.i64.max ∧ ((false = true) ∨ i.bytes = 0)) := by rintro ⟨_, h | h⟩ <;> simp_all
  have hs : sizeL P e = some i.size := by simp [sizeL, hi]
  simp only [Builtin.append_, List.getElem?_toArray, List.getElem?_cons_zero, List.getElem?_cons_succ, Sem.run_bind, run_under ht, run_under ht', Result.andThen_ok, run_sizeL hs, Sem.run_pure, Bool.false_eq_true, if_false, hlen]
  rw [if_neg (by omega)]
  simp only [Sem.run_bind, run_info hi, Result.andThen_ok, Sem.run_pure]
  have hgs := growslice_ok hgrow hcap
  have hbne : ¬ (i.bytes = 0) := by omega
  simp only [hbne, or_self, and_false, if_false, Sem.run_bind, run_info hi, Result.andThen_ok, Sem.run_pure, hgs]
  rw [run_choose]
  simp only [Question.forced, Bool.false_eq_true, if_false, Result.andThen_ok, run_info hi, run_askRoom]
  have k1 := hold { w with drawn := w.drawn + 1 } rfl
  have k2 := hnew { w with drawn := w.drawn + 1 } rfl
  have k3 := hz' { w with drawn := w.drawn + 1 } rfl
  simp only [k1, Result.andThen_ok, Bool.not_false, if_true, k2, k3, run_newRow]
/-- The new row of an append, borne. -/
theorem sim_grow (s : Sim pc ρ n H w) {e : TypeId} {sz : Nat} {z : List V} {zv : Value} (hz : VRelL ρ z zv.cells.toList) (hzl : z.length = sz) {cs cs2 : List V} {old new : Array Value} (r1 : VRelL ρ cs old.toList) (r2 : VRelL ρ cs2 new.toList) {L m newCap : Nat} (h1 : cs.length = L * sz) (h2 : cs2.length = m * sz)
    (hc : L + m ≤ newCap) {w' : World} (hw : w'.heap = w.heap) (ho : w'.os = w.os) (ht : w'.tape = w.tape) (hout : w'.output = w.output) (hdr : w.drawn ≤ w'.drawn) :
    ∃ ρ', VRel ρ' (.sl n 0 sz (L + m) false) (.slice (some ⟨w.heap.size, 0, none⟩) (L + m) newCap) ∧
      Sim pc ρ' (n + 1) ((n, .row true (cs ++ cs2)) :: H) (pushW w' (.cells (old ++ new ++ Builtin.zeroCells zv.cells (newCap - (L + m))) e)) ∧
      Ext ρ n H w ρ' (n + 1) ((n, .row true (cs ++ cs2)) :: H) (pushW w' (.cells (old ++ new ++ Builtin.zeroCells zv.cells (newCap - (L + m))) e)) ∧ ρ.le ρ' := by
  have s' : Sim pc ρ n H w' := s.congr hw
  have hzs : zv.cells.size = sz := by have := hz.1; simp at this; omega
  have ho1 : old.size = L * sz := by have := r1.1; simp at this; omega
  have hn1 : new.size = m * sz := by have := r2.1; simp at this; omega
  have hsz : (old ++ new ++ Builtin.zeroCells zv.cells (newCap - (L + m))).size = newCap * sz := by
    simp only [Array.size_append, ho1, hn1, Builtin.zeroCells, Array.size_map, Array.size_range, hzs]
    rw [← Nat.add_mul, ← Nat.add_mul]
    congr 1
    omega
  obtain ⟨hle, hn, hs, he⟩ := s'.allocRow (cs ++ cs2) (old ++ new ++ Builtin.zeroCells zv.cells (newCap - (L + m))) e (by
      rw [hsz, List.length_append, h1, h2, ← Nat.add_mul]; exact Nat.mul_le_mul_right _ hc) (fun j x hx => by
    have r := r1.append r2
    obtain ⟨y, hy, hr⟩ := r.get hx
    refine ⟨y, ?_, hr⟩
    have hj : j < old.size + new.size := by
      have := (List.getElem?_eq_some_iff.1 hy).1
      simpa using this
    rw [Array.getElem?_append_left (by simpa using hj), ← Array.getElem?_toList, Array.toList_append]
    exact hy)
  rw [hsz] at hle hn hs he
  rw [hw] at hle hn hs he
  refine ⟨_, .sl (o := 0) hn hc (fun h => by cases h) (fun _ => ⟨by simp, by omega⟩), hs, ?_, hle⟩
  exact (Ext.of_draw (w := w) hw ho ht hout hdr).trans he
theorem adel_cons_ne {α : Type} {i j : Nat} {x : α} {t : List (Nat × α)} (h : i ≠ j) : adel ((i, x) :: t) j = (i, x) :: adel t j := by simp [adel, h]
theorem zeroValue_any {e : TypeId} {z : List V} (hz : zeroL P e = some z) : ∃ zv : Value, VRelL ρ z zv.cells.toList ∧ ∀ w' : World, (zeroValue e).run P w' = .ok zv w' := by
  unfold zeroL at hz
  split at hz
  · rename_i i hi
    split at hz
    · rename_i zv hzv
      exact ⟨zv, oneAll_rel hz, fun w' => by simp [zeroValue, run_info hi, hzv]⟩
    · cases hz
  · cases hz
theorem gets_app (s : Sim pc ρ n H w) {t t' ty e e' : TypeId} {i : TypeInfo} {z : List V} (ht : P.underlying t = some (.slice e)) (ht' : P.underlying t' = some (.slice e')) (hi : P.info? e = some i) (hz : zeroL P e = some z) (h0 : 0 < i.size) (hb0 : 0 < i.bytes) (hzl : z.length = i.size)
    {x y : V} {x' y' : Value} (rx : VRel ρ x x') (ry : VRel ρ y y') {v : V} {n' : Nat} {H' : Heap} (ev : evApp n H i.size i.bytes x y = some (v, n', H')) : Gets pc P ρ n H w (Builtin.append_ #[t, t'] ty #[x', y']) v n' H' := by
  unfold evApp at ev
  split at ev
  · rename_i new hnew
    split at ev
    · rename_i hone
      obtain ⟨zv, hz2, hz1⟩ := zeroValue_any (P := P) (ρ := ρ) hz
      have hs : sizeL P e = some i.size := by simp [sizeL, hi]
      have hlen := run_lenOf (P := P) (w := w) ry hnew
      have hnl := cellsOf_length hnew
      have hfirst : ∀ w' : World, w'.heap = w.heap → ∃ arr : Array Value, (Builtin.firstCells i.size (lenS y) y').run P w' = .ok arr w' ∧ VRelL ρ new arr.toList := fun w' hw => by
        obtain ⟨arr, h1, h2⟩ := run_firstCells (P := P) (s.congr hw) ry hnew (Nat.le_refl _)
        rw [← hnl, List.take_length] at h2
        exact ⟨arr, h1, h2⟩
      obtain ⟨na, hna, hnr⟩ := hfirst w rfl
      have hnew' : ∀ w' : World, w'.heap = w.heap → (Builtin.firstCells i.size (lenS y) y').run P w' = .ok na w' := fun w' hw => by
        obtain ⟨arr, h1, h2⟩ := hfirst w' hw
        rw [h1]
        congr 1
        cases ry with
        | nils =>
          have h1' : Result.ok #[] w' = Result.ok arr w' := h1
          have h2' : Result.ok #[] w = Result.ok na w := hna
          cases h1'; cases h2'; rfl
        | @sl id off sz len full c d zz o k hρ hk hf ho =>
          simp only [Builtin.firstCells] at h1 hna
          simp only [cellsOf] at hnew
          split at hnew
          · rename_i own cs hb
            obtain ⟨arr0, ty0, fr0, g1, g2, g3, g4, _⟩ := s.row hb hρ
            split at hnew
            · rename_i hc
              obtain ⟨rfl, hl⟩ := hc
              by_cases hk0 : k = 0
              · have : len = 0 := by omega
                subst this
                simp only [lenS, Nat.zero_mul] at h1 hna
                have h1' : Result.ok #[] w' = Result.ok arr w' := h1
                have h2' : Result.ok #[] w = Result.ok na w := hna
                cases h1'; cases h2'; rfl
              · obtain ⟨ho1, ho2⟩ := ho hk0
                have hb' : o + len * i.size ≤ arr0.size := by
                  have := Nat.mul_le_mul_right i.size hk
                  omega
                simp only [lenS] at h1 hna
                rw [run_loadCells_at (w := w') (by rw [hw]; exact g1) hb'] at h1
                rw [run_loadCells_at g1 hb'] at hna
                cases h1; cases hna; rfl
            · cases hnew
          · cases hnew
        | _ => simp [cellsOf] at hnew
      split at ev
      · -- nil
        cases rx
        split at ev
        · rename_i h00
          cases ev
          rw [h00] at hlen hna
          refine .pure s (y := .slice none 0 0) ?_ .nils
          simp only [Builtin.append_, List.getElem?_toArray, List.getElem?_cons_zero, List.getElem?_cons_succ, Sem.run_bind, run_under ht, run_under ht', Result.andThen_ok, run_sizeL hs, Sem.run_pure, Bool.false_eq_true, if_false, hlen, Bool.not_false, if_true, Nat.add_zero, Nat.le_refl, hna]
        · rename_i hne
          split at ev
          · rename_i hcap
            cases ev
            obtain ⟨nc, w', e1, e2, e3, e4, e45, e5, e6⟩ := run_append_grow (P := P) (w := w) (ty := ty) (base := none) (len := 0) (k := 0) (old := #[]) (new := na) ht ht' hi (hz1 w) hb0 hlen (by omega) (by simpa using hcap) (fun w' _ => hz1 w') (fun w' _ => rfl) hnew'
            obtain ⟨ρ', g1, g2, g3, _⟩ := sim_grow (pc := pc) s (e := e) hz2 hzl (cs := []) (cs2 := new) (old := #[]) (new := na) (L := 0) (m := lenS y) .nil hnr (by simp) hnl e5 e1 e2 e3 e4 e45
            simp only [Nat.zero_add] at g1 g2 g3 e6 
            exact ⟨_, _, ρ', e6, g1, g2, g3⟩
          · cases ev
      · rename_i id off sz' len full
        split at ev
        · rename_i own cs hb
          split at ev
          · rename_i hc
            obtain ⟨rfl, hl, hcap⟩ := hc
            cases rx with
            | @sl _ _ _ _ _ c d zz o k hρ hk hf ho =>
            obtain ⟨arr, ty0, fr, g1, g2, g3, g4, g5⟩ := s.row hb hρ
            have holdr : k ≠ 0 → VRelL ρ ((cs.drop off).take (len * i.size)) (arr.extract o (o + len * i.size)).toList := fun hk0 => by
              obtain ⟨ho1, ho2⟩ := ho hk0
              have := (g4.drop off).take (len * i.size)
              rw [List.drop_take, List.take_take, List.drop_drop] at this
              rw [Array.toList_extract, List.extract_eq_take_drop, show o + len * i.size - o = len * i.size by omega, ho1]
              rw [Nat.min_eq_left (by omega)] at this
              exact this
            have hob : k ≠ 0 → o + len * i.size ≤ arr.size := fun hk0 => by
              obtain ⟨ho1, ho2⟩ := ho hk0
              have := Nat.mul_le_mul_right i.size hk
              omega
            have hold : ∃ oa : Array Value, VRelL ρ ((cs.drop off).take (len * i.size)) oa.toList ∧ ∀ w' : World, w'.heap = w.heap → (Builtin.firstCells i.size len (.slice (some ⟨c, o, none⟩) len k)).run P w' = .ok oa w' := by
              by_cases hk0 : k = 0
              · have : len = 0 := by omega
                subst this
                exact ⟨#[], by simpa using VRelL.nil, fun w' _ => by simp [Builtin.firstCells, loadCells, loadCellsFrom]⟩
              · exact ⟨_, holdr hk0, fun w' hw => by simp only [Builtin.firstCells]; exact run_loadCells_at (by rw [hw]; exact g1) (hob hk0)⟩
            obtain ⟨oa, hor, hor'⟩ := hold
            have hol : ((cs.drop off).take (len * i.size)).length = len * i.size := by simp; omega
            -- where a new row is laid
            have hgrow : k < len + lenS y → ∃ nc w' ρ', (Builtin.append_ #[t, t'] ty #[.slice (some ⟨c, o, none⟩) len k, y']).run P w = .ok (.slice (some ⟨w.heap.size, 0, none⟩) (len + lenS y) nc) w' ∧
                VRel ρ' (.sl n 0 i.size (len + lenS y) false) (.slice (some ⟨w.heap.size, 0, none⟩) (len + lenS y) nc) ∧ Sim pc ρ' (n + 1) ((n, .row true ((cs.drop off).take (len * i.size) ++ new)) :: H) w' ∧
                Ext ρ n H w ρ' (n + 1) ((n, .row true ((cs.drop off).take (len * i.size) ++ new)) :: H) w' := fun hg => by
              obtain ⟨nc, w', e1, e2, e3, e4, e45, e5, e6⟩ := run_append_grow (P := P) (w := w) (ty := ty) (base := some ⟨c, o, none⟩) (len := len) (k := k) (old := oa) (new := na) ht ht' hi (hz1 w) hb0 hlen hg hcap (fun w' _ => hz1 w') hor' hnew'
              obtain ⟨ρ', q1, q2, q3, _⟩ := sim_grow (pc := pc) s (e := e) hz2 hzl hor hnr hol hnl e5 e1 e2 e3 e4 e45
              exact ⟨nc, _, ρ', e6, q1, q2, q3⟩
            split at ev
            · rename_i hfull
              have hkl := hf hfull
              subst hkl
              split at ev
              · rename_i h00
                cases ev
                rw [h00] at hlen hna
                have hnil : na.toList = [] := by
                  have := hnr.1; rw [hnl, h00] at this; simp at this
                  exact List.eq_nil_of_length_eq_zero (by rw [Array.length_toList]; omega)
                refine .pure s (y := .slice (some ⟨c, o, none⟩) k k) ?_ (.sl hρ (Nat.le_refl _) (fun _ => rfl) ho)
                simp only [Builtin.append_, List.getElem?_toArray, List.getElem?_cons_zero, List.getElem?_cons_succ, Sem.run_bind, run_under ht, run_under ht', Result.andThen_ok, run_sizeL hs, Sem.run_pure, Bool.false_eq_true, if_false, hlen, Bool.not_false, if_true, Nat.add_zero, Nat.le_refl, hna, hnil, storeCells]
              · rename_i hne
                cases ev
                obtain ⟨nc, w', ρ', q1, q2, q3, q4⟩ := hgrow (by omega)
                exact ⟨_, w', ρ', q1, q2, q3, q4⟩
            · rename_i hfull
              split at ev
              · rename_i hown
                subst hown
                cases ev
                have hidn : id ≠ n := fun h => Nat.lt_irrefl _ (h ▸ s.key hb)
                by_cases hg : k < len + lenS y
                · obtain ⟨nc, w', ρ', q1, q2, q3, q4⟩ := hgrow hg
                  obtain ⟨q5, q6⟩ := q3.del id
                  rw [adel_cons_ne hidn.symm] at q5 q6
                  exact ⟨_, w', ρ', q1, q2, q5, q4.trans q6⟩
                · -- it fits
                  have hfit : len + lenS y ≤ k := by omega
                  have hnas : na.size = lenS y * i.size := by have := hnr.1; simp at this; omega
                  have hrun : (Builtin.append_ #[t, t'] ty #[.slice (some ⟨c, o, none⟩) len k, y']).run P w = ((storeCells ((⟨c, o, none⟩ : Addr).add (len * i.size)) na.toList 0).run P w).andThen fun _ w' => .ok (.slice (some ⟨c, o, none⟩) (len + lenS y) k) w' := by
                    simp only [Builtin.append_, List.getElem?_toArray, List.getElem?_cons_zero, List.getElem?_cons_succ, Sem.run_bind, run_under ht, run_under ht', Result.andThen_ok, run_sizeL hs, Sem.run_pure, Bool.false_eq_true, if_false, hlen, Bool.not_false, if_true]
                    rw [if_pos hfit]
                    simp only [Sem.run_bind, hna, Result.andThen_ok, Sem.run_pure]
                  by_cases hk0 : k = 0
                  · have hl0 : len = 0 := by omega
                    have hm0 : lenS y = 0 := by omega
                    have hnil : na.toList = [] := List.eq_nil_of_length_eq_zero (by rw [Array.length_toList, hnas, hm0]; simp)
                    have hnew0 : new = [] := List.eq_nil_of_length_eq_zero (by rw [hnl, hm0]; simp)
                    obtain ⟨q1, q2, q3, q4⟩ := s.move (cs' := (cs.drop off).take (len * i.size) ++ new) (off := off) hb hρ arr ty0 fr g2 (g5 rfl) (by subst hl0; rw [hnew0]; simp; omega) (fun j x hx => by subst hl0; rw [hnew0] at hx; simp at hx)
                    rw [setBlk_same _ _ _ g1] at q3 q4
                    refine ⟨_, w, _, ?_, .sl (k := k) (o := o) q2 (by omega) (fun h => by cases h) (fun h => absurd hk0 h), q3, q4⟩
                    rw [hrun, hnil]
                    rfl
                  · obtain ⟨ho1, ho2⟩ := ho hk0
                    have hkm : (len + lenS y) * i.size ≤ k * i.size := Nat.mul_le_mul_right _ hfit
                    rw [Nat.add_mul] at hkm
                    have hst := run_storeCells_at (P := P) (o := o + len * i.size) (c := c) na.toList 0 w arr g1 (by simp; omega) (by rw [g2]; exact g5 rfl) (all_flat hone hnr)
                    rw [Nat.add_zero] at hst
                    obtain ⟨q1, q2, q3, q4⟩ := s.move (cs' := (cs.drop off).take (len * i.size) ++ new) (off := off) hb hρ (setAll arr.toList (o + len * i.size) na.toList).toArray ty0 fr (by
                        simp only [List.size_toArray]; rw [setAll_length _ _ _ (by simp; omega)]; simpa using g2) (g5 rfl) (by rw [List.length_append, hol, hnl]; omega) (fun j x hx => by
                      simp only [List.getElem?_toArray]
                      rw [setAll_get _ _ _ (by simp; omega)]
                      have hjl : j < len * i.size + lenS y * i.size := by
                        have := (List.getElem?_eq_some_iff.1 hx).1
                        rw [List.length_append, hol, hnl] at this
                        exact this
                      by_cases hj : j < len * i.size
                      · rw [if_pos (by omega)]
                        rw [List.getElem?_append_left (by omega)] at hx
                        obtain ⟨y1, hy1, hr1⟩ := (holdr hk0).get hx
                        refine ⟨y1, ?_, hr1⟩
                        rw [Array.toList_extract, List.extract_eq_take_drop, List.getElem?_take, if_pos (by omega), List.getElem?_drop] at hy1
                        rw [← ho1]
                        exact hy1
                      · rw [if_neg (by omega), if_pos (by simp; omega)]
                        rw [List.getElem?_append_right (by omega), hol] at hx
                        obtain ⟨y1, hy1, hr1⟩ := hnr.get hx
                        exact ⟨y1, by rw [show d + off + j - (o + len * i.size) = j - len * i.size by omega]; exact hy1, hr1⟩)
                    refine ⟨_, _, _, ?_, .sl (k := k) (o := o) q2 (by omega) (fun h => by cases h) (fun _ => ⟨by omega, by omega⟩), q3, q4⟩
                    rw [hrun, add_off, hst]
                    rfl
              · cases ev
          · cases ev
        · cases ev
      · cases ev
    · cases ev
  · cases ev
end ops
end Go.Proofs.Ytpgelghkjiejlaa
end
