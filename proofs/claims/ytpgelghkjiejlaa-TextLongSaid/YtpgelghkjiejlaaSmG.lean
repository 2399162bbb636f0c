/- Each operation's run (second part): stores, literals, numbers, strings. -/
import Derived.Test.YtpgelghkjiejlaaSmF
set_option linter.unusedVariables false
set_option linter.unusedSimpArgs false
namespace Go.Proofs.Ytpgelghkjiejlaa
open Go
section ops
variable {pc : PrepC} {P : Program} {ρ : Ren} {n : Nat} {H : Heap} {w : World}

theorem one_flat {x : V} {y : Value} (h : x.one = true) (r : VRel ρ x y) : flat y = true := by
  cases r <;> first | rfl | (simp [V.one] at h)
theorem all_flat {xs : List V} {ys : List Value} (h : xs.all V.one = true) (r : VRelL ρ xs ys) : ∀ y ∈ ys, flat y = true := by
  intro y hy
  obtain ⟨j, hj⟩ := List.mem_iff_getElem?.1 hy
  have hlt : j < ys.length := (List.getElem?_eq_some_iff.1 hj).1
  have hx : xs[j]? = some (xs[j]'(r.1 ▸ hlt)) := by simp [r.1 ▸ hlt]
  exact one_flat (List.all_eq_true.1 h _ (List.getElem_mem _)) (r.2 j _ y hx hj)

/-- The cells of a row written over. -/
theorem sim_write (s : Sim pc ρ n H w) {id : Nat} {cs : List V} (hb : aget H id = some (.row true cs)) {c d z : Nat} (hρ : ρ id = some (c, d, z)) {off : Nat} {xs : List V} {ys : List Value} (r : VRelL ρ xs ys)
    (hone : xs.all V.one = true) (hl : off + xs.length ≤ cs.length) :
    ∃ w', (storeCells ⟨c, d + off, none⟩ ys 0).run P w = .ok () w' ∧ Sim pc ρ n (aput H id (.row true (setAll cs off xs))) w' ∧ Ext ρ n H w ρ n (aput H id (.row true (setAll cs off xs))) w' := by
  obtain ⟨arr, ty, fr, h1, h2, h3, h4, h5⟩ := s.row hb hρ
  have hys : ys.length = xs.length := r.1.symm
  have hrun := run_storeCells_at (P := P) (o := d + off) ys 0 w arr h1 (by omega) (by rw [h2]; exact h5 rfl) (all_flat hone r)
  rw [Nat.add_zero] at hrun
  refine ⟨_, hrun, ?_⟩
  have hlen : (setAll arr.toList (d + off) ys).length = arr.size := by rw [setAll_length _ _ _ (by simp; omega)]; simp
  refine s.update hb rfl rfl hρ _ ⟨_, ty, fr, by rw [setBlk_get _ _ _ _ (lt_of_get h1), if_pos rfl], by simpa using hlen.trans h2, by rw [setAll_length _ _ _ hl]; exact h3, fun j x hx => ?_, h5⟩
  rw [setAll_get _ _ _ hl] at hx
  have hj : j < cs.length := by
    rcases Nat.lt_or_ge j cs.length with h | h
    · exact h
    · rw [if_neg (by omega), if_neg (by omega), List.getElem?_eq_none h] at hx; cases hx
  simp only [List.getElem?_toArray]
  rw [setAll_get _ _ _ (by simp; omega)]
  by_cases ha : j < off
  · rw [if_pos ha] at hx
    rw [if_pos (by omega)]
    obtain ⟨y, hy, hr⟩ := h4.get hx
    rw [List.getElem?_take, if_pos hj, List.getElem?_drop] at hy
    exact ⟨y, hy, hr⟩
  · rw [if_neg ha] at hx
    rw [if_neg (by omega)]
    by_cases hbd : j < off + xs.length
    · rw [if_pos hbd] at hx
      rw [if_pos (by omega)]
      obtain ⟨y, hy, hr⟩ := r.get hx
      exact ⟨y, by rw [show d + j - (d + off) = j - off by omega]; exact hy, hr⟩
    · rw [if_neg hbd] at hx
      rw [if_neg (by omega)]
      obtain ⟨y, hy, hr⟩ := h4.get hx
      rw [List.getElem?_take, if_pos hj, List.getElem?_drop] at hy
      exact ⟨y, hy, hr⟩

theorem gets_st (s : Sim pc ρ n H w) {t : TypeId} {sz : Nat} (hs : sizeL P t = some sz) {a x : V} {ya yx : Value} (ra : VRel ρ a ya) (rx : VRel ρ x yx) {v : V} {n' : Nat} {H' : Heap}
    (e : evSt n H sz a x = some (v, n', H')) : v = .un ∧ GetsU pc P ρ n H w (Instr.storeAt t ya yx) n' H' := by
  unfold evSt at e
  split at e
  · rename_i id off
    split at e
    · rename_i cs hb
      cases ra with
      | @p _ _ c d z o hρ ho =>
      split at e
      · rename_i hcond
        simp only [Bool.and_eq_true, beq_iff_eq, decide_eq_true_eq] at hcond
        obtain ⟨⟨⟨hk, hl⟩, hone⟩, hoff⟩ := hcond
        cases e
        subst ho
        have rc := rx.cells (known_ne hk)
        obtain ⟨w', hr, hsim, hext⟩ := sim_write (P := P) s hb hρ rc hone (hl ▸ hoff)
        refine ⟨rfl, w', ρ, ?_, hsim, hext⟩
        have hsz : yx.cells.size = sz := by have := rc.1; simp at this; omega
        simp [Instr.storeAt, Instr.sureAddr, storeVar, run_sizeL hs, hsz, hr]
      · cases e
    · cases e
  · cases e

/-! literals -/
theorem foldl_setAll (y : Array Value) (off : Nat) (cells : Array Value) (h : off + y.size ≤ cells.size) :
    (y.zipIdx.foldl (fun cs (c, j) => cs.setIfInBounds (off + j) c) cells).toList = setAll cells.toList off y.toList := by
  obtain ⟨l⟩ := y
  simp only [List.size_toArray] at h
  suffices hgen : ∀ (l : List Value) (k : Nat) (cells : Array Value), off + k + l.length ≤ cells.size →
      ((l.zipIdx k).foldl (fun (cs : Array Value) (x : Value × Nat) => cs.setIfInBounds (off + x.2) x.1) cells).toList = setAll cells.toList (off + k) l by
    have := hgen l 0 cells (by omega)
    simpa using this
  intro l
  induction l with
  | nil => intro k cells _; simp [setAll_nil]
  | cons v l ih =>
    intro k cells hb
    simp only [List.length_cons] at hb
    rw [List.zipIdx_cons, List.foldl_cons, ih (k + 1) _ (by simp; omega)]
    rw [Array.toList_setIfInBounds, ← Nat.add_assoc]
    exact setAll_cons _ _ _ _ (by simp; omega)
theorem setAll_rel {xs xs' : List V} {ys ys' : List Value} (r : VRelL ρ xs ys) (r' : VRelL ρ xs' ys') (off : Nat) : VRelL ρ (setAll xs off xs') (setAll ys off ys') := by
  unfold setAll
  rw [r'.1]
  exact (r.take off).append (r'.append (r.drop _))
/-- 'fill' of the model and of ours. -/
theorem fill_rel (place : Nat → Option (Nat × Nat)) : ∀ (ps : List (Nat × Nat × V)) (qs : List (Nat × Value)) (cs : List V) (arr : Array Value) (cs' : List V), VRelL ρ cs arr.toList →
    ps.length = qs.length → (∀ (j : Nat) p q, ps[j]? = some p → qs[j]? = some q → place q.1 = some (p.1, p.2.1) ∧ VRel ρ p.2.2 q.2) → fillA cs ps = some cs' →
    ∃ arr', Instr.fill place arr qs = some arr' ∧ VRelL ρ cs' arr'.toList := by
  intro ps
  induction ps with
  | nil =>
    intro qs cs arr cs' r hl _ h
    obtain rfl : qs = [] := List.eq_nil_of_length_eq_zero hl.symm
    cases h
    exact ⟨arr, rfl, r⟩
  | cons p ps ih =>
    intro qs cs arr cs' r hl hp h
    obtain ⟨q, qs, rfl⟩ : ∃ q qs', qs = q :: qs' := by cases qs with | nil => simp at hl | cons q qs' => exact ⟨q, qs', rfl⟩
    obtain ⟨off, sz, v⟩ := p
    obtain ⟨i, y⟩ := q
    obtain ⟨h1, h2⟩ := hp 0 _ _ rfl rfl
    simp only at h1 h2
    unfold fillA at h
    split at h
    · rename_i hc
      simp only [Bool.and_eq_true, beq_iff_eq, decide_eq_true_eq] at hc
      obtain ⟨⟨hk, hsz⟩, hoff⟩ := hc
      have rc := h2.cells (known_ne hk)
      have hyl : y.cells.size = sz := by have := rc.1; simp at this; omega
      have hcl : cs.length = arr.size := by have := r.1; simpa using this
      unfold Instr.fill
      rw [h1]
      simp only
      rw [if_neg (by simp [hyl]; omega)]
      refine ih qs _ _ cs' ?_ (by simpa using hl) (fun j p q hp' hq' => hp (j + 1) p q (by simpa using hp') (by simpa using hq')) h
      rw [foldl_setAll _ _ _ (by omega)]
      exact setAll_rel r rc off
    · cases h
theorem prepParts_rel {N : Nat} {T : Temps} {a : Act} (tr : TRel ρ N T a.tmps) : ∀ {ps : List (Nat × Operand)} {l : List (Nat × AX)}, prepParts ps = some l →
    l.length = ps.length ∧ ∀ (j : Nat) p q, l[j]? = some p → ps[j]? = some q → p.1 = q.1 ∧ VRel ρ (p.2.val T) (a.eval q.2) := by
  intro ps
  induction ps with
  | nil => intro l h; cases h; exact ⟨rfl, fun j p q hp => by simp at hp⟩
  | cons q ps ih =>
    obtain ⟨i, x⟩ := q
    intro l h
    simp only [prepParts] at h
    split at h
    · rename_i v l' h1 h2
      cases h
      obtain ⟨hl, hr⟩ := ih h2
      refine ⟨by simp [hl], fun j p q hp hq => ?_⟩
      cases j with
      | zero => simp at hp hq; subst hp; subst hq; exact ⟨rfl, prepX_rel tr h1⟩
      | succ j => exact hr j p q (by simpa using hp) (by simpa using hq)
    · cases h
theorem zrep_eq (z : List V) (n : Nat) : zrep z n = (List.range (n * z.length)).map (fun i => z.getD (i % z.length) .un) := by
  unfold zrep
  split
  · rename_i x
    apply List.ext_getElem
    · simp
    · intro i h1 h2; simp [Nat.mod_one]
  · induction n with
    | zero => simp
    | succ k ih =>
      rw [List.replicate_succ', List.flatten_append, ih]
      rw [Nat.succ_mul, List.range_add, List.map_append]
      congr 1
      simp only [List.flatten_cons, List.flatten_nil, List.append_nil, List.map_map]
      apply List.ext_getElem
      · simp
      · intro i h1 h2
        simp only [List.getElem_map, List.getElem_range, Function.comp]
        rw [Nat.mul_comm k, Nat.mul_add_mod, Nat.mod_eq_of_lt h1]
        simp [h1]
theorem zrep_length (z : List V) (n : Nat) : (zrep z n).length = n * z.length := by rw [zrep_eq]; simp
theorem zrep_one {z : List V} (h : z.all V.one = true) (n : Nat) : (zrep z n).all V.one = true := by
  unfold zrep
  split
  · simp at h ⊢; exact .inr h
  · simp only [List.all_flatten, List.all_eq_true]
    intro l hl
    rw [List.eq_of_mem_replicate hl]
    exact fun x hx => List.all_eq_true.1 h x hx
/-- The cells of n zero elements, as the model makes them. -/
theorem zrep_rel {z : List V} {zv : Array Value} (r : VRelL ρ z zv.toList) (n : Nat) : VRelL ρ (zrep z n) ((Array.range (n * z.length)).map (fun i => zv[i % zv.size]!)).toList := by
  rw [zrep_eq]
  have hsz : zv.size = z.length := by have := r.1; simp at this; omega
  refine ⟨by simp, fun j x y hx hy => ?_⟩
  rcases Nat.lt_or_ge j (n * z.length) with hj | hj
  · have hpos : 0 < z.length := by
      rcases Nat.eq_zero_or_pos z.length with h | h
      · rw [h, Nat.mul_zero] at hj; omega
      · exact h
    have hm : j % z.length < z.length := Nat.mod_lt _ hpos
    simp only [Array.toList_map, Array.toList_range, List.getElem?_map, List.getElem?_range hj, Option.map_some, Option.some.injEq] at hx hy
    subst hx; subst hy
    refine r.2 (j % z.length) _ _ (by simp [hm]) ?_
    rw [hsz]
    simp [hsz, hm]
  · simp [List.getElem?_eq_none (show (List.range (n * z.length)).length ≤ j by simpa using hj)] at hx
theorem gets_lit {N : Nat} {T : Temps} {a : Act} (tr : TRel ρ N T a.tmps) (s : Sim pc ρ n H w) {t e : TypeId} {len sz : Nat} {z : List V} {ps : Array (Nat × Operand)} {l : List (Nat × AX)}
    (ht : P.underlying t = some (.slice e)) (hsz : sizeL P e = some sz) (hz : zeroL P e = some z) (hzl : z.length = sz) (h0 : 0 < sz) (hcap : len * sz ≤ 2 ^ 24) (hps : prepParts ps.toList = some l) {v : V} {n' : Nat} {H' : Heap}
    (ev : (match fillA (zrep z len) (l.map fun (i, x) => (i * sz, sz, x.val T)) with | some cs => some (V.sl n 0 sz len true, n + 1, (n, Blk.row true cs) :: H) | none => none) = some (v, n', H')) :
    Gets pc P ρ n H w (Instr.buildSlice t len (ps.map fun (i, x) => (i, a.eval x))) v n' H' := by
  split at ev
  · rename_i cs hf
    cases ev
    obtain ⟨zv, hz1, hz2⟩ := zeroL_inv (P := P) (w := w) (ρ := ρ) hz
    obtain ⟨hpl, hpr⟩ := prepParts_rel tr hps
    have hrep := zrep_rel hz2 len
    rw [hzl] at hrep
    obtain ⟨arr', hfill, hrel⟩ := fill_rel (ρ := ρ) (fun i => some (i * sz, sz)) (l.map fun (i, x) => (i * sz, sz, x.val T)) (ps.toList.map fun (i, x) => (i, a.eval x)) _ _ cs hrep (by simp [hpl]) (fun j p q hp hq => by
      simp only [List.getElem?_map, Option.map_eq_some_iff] at hp hq
      obtain ⟨p', hp', rfl⟩ := hp
      obtain ⟨q', hq', rfl⟩ := hq
      obtain ⟨h1, h2⟩ := hpr j p' q' hp' hq'
      exact ⟨by simp [h1], h2⟩) hf
    obtain ⟨hle, hn, hs, he⟩ := s.allocRow cs arr' e (by have := hrel.1; simp at this; omega) (rel_get hrel)
    have hasz : arr'.size = len * sz := by
      have h1 := hrel.1
      have h2 : ∀ (ps : List (Nat × Nat × V)) (cs cs' : List V), fillA cs ps = some cs' → cs'.length = cs.length := by
        intro ps
        induction ps with
        | nil => intro cs cs' h; cases h; rfl
        | cons p ps ih =>
          intro cs cs' h
          unfold fillA at h
          split at h
          · rename_i hc
            simp only [Bool.and_eq_true, beq_iff_eq, decide_eq_true_eq] at hc
            rw [ih _ _ h, setAll_length _ _ _ (by omega)]
          · cases h
      have h3 := h2 _ _ _ hf
      rw [zrep_length, hzl] at h3
      simp at h1
      omega
    refine ⟨_, _, _, ?_, .sl (k := len) (o := 0) hn (Nat.le_refl _) (fun _ => rfl) (fun _ => ⟨by simp, by simp [hasz]⟩), hs, he⟩
    have hz1' : len * sz ≠ 0 → (zeroValue e).run P w = .ok zv w := fun _ => hz1
    simp only [Instr.buildSlice, Sem.run_bind, run_under ht, Result.andThen_ok, run_sizeL hsz]
    rw [if_neg (by omega)]
    rw [show (Array.map (fun x => (x.fst, a.eval x.snd)) ps).toList = List.map (fun (i, x) => (i, a.eval x)) ps.toList from by simp]
    split
    · rename_i hz0
      simp only [Sem.run_bind, Sem.run_pure, Result.andThen_ok]
      rw [hz0, show (Array.range 0) = #[] from rfl] at hfill ⊢
      rw [Array.map_empty] at hfill ⊢
      rw [hfill]
      simp [run_newRow]
    · simp only [Sem.run_bind, Sem.run_pure, Result.andThen_ok, hz1]
      rw [hfill]
      simp [run_newRow]
  · cases ev
theorem placeL_rel {fs : List Field} : ∀ {l : List (Nat × AX)} {l' : List (Nat × Nat × AX)}, placeL P fs l = some l' → l'.length = l.length ∧
    ∀ (j : Nat) p q, l'[j]? = some p → l[j]? = some q → ∃ f, fs[q.1]? = some f ∧ f.offset = p.1 ∧ sizeL P f.type = some p.2.1 ∧ p.2.2 = q.2 := by
  intro l
  induction l with
  | nil => intro l' h; cases h; exact ⟨rfl, fun j p q hp => by simp at hp⟩
  | cons q l ih =>
    obtain ⟨i, x⟩ := q
    intro l' h
    simp only [placeL] at h
    split at h
    · rename_i f hf
      split at h
      · rename_i s r hs hr
        cases h
        obtain ⟨hl, h2⟩ := ih hr
        refine ⟨by simp [hl], fun j p q hp hq => ?_⟩
        cases j with
        | zero => simp at hp hq; subst hp; subst hq; exact ⟨f, hf, rfl, hs, rfl⟩
        | succ j => exact h2 j p q (by simpa using hp) (by simpa using hq)
      · cases h
    · cases h
theorem run_places (fs : List Field) (sizes : ∀ f ∈ fs, ∃ s, sizeL P f.type = some s) :
    ∃ pl : List (Nat × Nat), (fs.toArray.mapM fun f => (do return (f.offset, ← sizeOf f.type) : Sem (Nat × Nat))).run P w = .ok pl.toArray w ∧ pl.length = fs.length ∧
      ∀ (j : Nat) f, fs[j]? = some f → ∃ s, sizeL P f.type = some s ∧ pl[j]? = some (f.offset, s) := by
  rw [List.mapM_toArray]
  suffices h : ∃ pl : List (Nat × Nat), (fs.mapM fun f => (do return (f.offset, ← sizeOf f.type) : Sem (Nat × Nat))).run P w = .ok pl w ∧ pl.length = fs.length ∧
      ∀ (j : Nat) f, fs[j]? = some f → ∃ s, sizeL P f.type = some s ∧ pl[j]? = some (f.offset, s) by
    obtain ⟨pl, h1, h2, h3⟩ := h
    exact ⟨pl, by rw [Sem.run_map, h1]; rfl, h2, h3⟩
  induction fs with
  | nil => exact ⟨[], by simp [Sem.run, pure], rfl, fun j f h => by simp at h⟩
  | cons f fs ih =>
    obtain ⟨s, hs⟩ := sizes f (by simp)
    obtain ⟨pl, h1, h2, h3⟩ := ih fun g hg => sizes g (by simp [hg])
    refine ⟨(f.offset, s) :: pl, ?_, by simp [h2], fun j g hg => ?_⟩
    · rw [List.mapM_cons]
      simp only [Sem.run_bind, run_sizeL hs, Result.andThen_ok, Sem.run_pure, h1]
    · cases j with
      | zero => simp at hg; subst hg; exact ⟨s, hs, rfl⟩
      | succ j => exact h3 j g (by simpa using hg)
end ops
end Go.Proofs.Ytpgelghkjiejlaa
