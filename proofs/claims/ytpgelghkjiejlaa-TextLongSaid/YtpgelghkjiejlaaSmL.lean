/- Each operation's run (last part): append; and the theorem for all of them. -/
import Derived.Test.YtpgelghkjiejlaaSmK
set_option linter.unusedVariables false
set_option linter.unusedSimpArgs false
namespace Go.Proofs.Ytpgelghkjiejlaa
open Go
section ops
variable {pc : PrepC} {P : Program} {ρ : Ren} {n : Nat} {H : Heap} {w : World}

theorem growslice_ok {need old bytes : Nat} (h : old < need) (hb : need * bytes ≤ 140737488355328) : ¬ (Builtin.nextslicecap need old * bytes > 2 ^ 48) := by
  have := growslice_fits h hb
  omega
/-- Append where a new row is laid. -/
theorem run_append_grow {t t' ty e e' : TypeId} {i : TypeInfo} {zv : Value} (ht : P.underlying t = some (.slice e)) (ht' : P.underlying t' = some (.slice e')) (hi : P.info? e = some i) (hz : (zeroValue e).run P w = .ok zv w) (hb0 : 0 < i.bytes)
    {base : Option Addr} {len k : Nat} {y : Value} {m : Nat} (hlen : (Builtin.lenOf y).run P w = .ok m w) (hgrow : k < len + m) (hcap : (len + m) * i.bytes ≤ 140737488355328)
    {old new : Array Value} (hz' : ∀ w' : World, w'.heap = w.heap → (zeroValue e).run P w' = .ok zv w')
    (hold : ∀ w' : World, w'.heap = w.heap → (Builtin.firstCells i.size len (.slice base len k)).run P w' = .ok old w')
    (hnew : ∀ w' : World, w'.heap = w.heap → (Builtin.firstCells i.size m y).run P w' = .ok new w') :
    ∃ newCap w', w'.heap = w.heap ∧ w'.os = w.os ∧ w'.tape = w.tape ∧ w'.output = w.output ∧ w.drawn ≤ w'.drawn ∧ len + m ≤ newCap ∧
      (Builtin.append_ #[t, t'] ty #[.slice base len k, y]).run P w = .ok (.slice (some ⟨w.heap.size, 0, none⟩) (len + m) newCap) (pushW w' (.cells (old ++ new ++ Builtin.zeroCells zv.cells (newCap - (len + m))) e)) := by
  refine ⟨Question.cut (.appendCap (len + m) k e) (w.tape w.drawn (.appendCap (len + m) k e)), { w with drawn := w.drawn + 1 }, rfl, rfl, rfl, rfl, Nat.le_succ _, by simp [Question.cut], ?_⟩
  have h1 : ¬ (((len + m : Nat) : Int) > IntKind.i64.max ∧ ((false = true) ∨ i.bytes = 0)) := by rintro ⟨_, h | h⟩ <;> simp_all
  have hs : sizeL P e = some i.size := by simp [sizeL, hi]
  simp only [Builtin.append_, List.getElem?_toArray, List.getElem?_cons_zero, List.getElem?_cons_succ, Sem.run_bind, run_under ht, run_under ht', Result.andThen_ok, run_sizeL hs, Sem.run_pure, Bool.false_eq_true, if_false, hlen]
  rw [if_neg (by omega)]
  simp only [Sem.run_bind, run_info hi, Result.andThen_ok, Sem.run_pure]
  have hgs := growslice_ok hgrow hcap
  have hbne : ¬ (i.bytes = 0) := by omega
  simp only [hbne, or_self, and_false, if_false, Sem.run_bind, run_info hi, Result.andThen_ok, Sem.run_pure, hgs]
  rw [run_choose]
  simp only [Question.forced, Bool.false_eq_true, if_false, Result.andThen_ok, run_info hi, run_askRoom]
  have k1 := hold { w with drawn := w.drawn + 1 } rfl
  have k2 := hnew { w with drawn := w.drawn + 1 } rfl
  have k3 := hz' { w with drawn := w.drawn + 1 } rfl
  simp only [k1, Result.andThen_ok, Bool.not_false, if_true, k2, k3, run_newRow]
/-- The new row of an append, borne. -/
theorem sim_grow (s : Sim pc ρ n H w) {e : TypeId} {sz : Nat} {z : List V} {zv : Value} (hz : VRelL ρ z zv.cells.toList) (hzl : z.length = sz) {cs cs2 : List V} {old new : Array Value} (r1 : VRelL ρ cs old.toList) (r2 : VRelL ρ cs2 new.toList) {L m newCap : Nat} (h1 : cs.length = L * sz) (h2 : cs2.length = m * sz)
    (hc : L + m ≤ newCap) {w' : World} (hw : w'.heap = w.heap) (ho : w'.os = w.os) (ht : w'.tape = w.tape) (hout : w'.output = w.output) (hdr : w.drawn ≤ w'.drawn) :
    ∃ ρ', VRel ρ' (.sl n 0 sz (L + m) false) (.slice (some ⟨w.heap.size, 0, none⟩) (L + m) newCap) ∧
      Sim pc ρ' (n + 1) ((n, .row true (cs ++ cs2)) :: H) (pushW w' (.cells (old ++ new ++ Builtin.zeroCells zv.cells (newCap - (L + m))) e)) ∧
      Ext ρ n H w ρ' (n + 1) ((n, .row true (cs ++ cs2)) :: H) (pushW w' (.cells (old ++ new ++ Builtin.zeroCells zv.cells (newCap - (L + m))) e)) ∧ ρ.le ρ' := by
  have s' : Sim pc ρ n H w' := s.congr hw
  have hzs : zv.cells.size = sz := by have := hz.1; simp at this; omega
  have ho1 : old.size = L * sz := by have := r1.1; simp at this; omega
  have hn1 : new.size = m * sz := by have := r2.1; simp at this; omega
  have hsz : (old ++ new ++ Builtin.zeroCells zv.cells (newCap - (L + m))).size = newCap * sz := by
    simp only [Array.size_append, ho1, hn1, Builtin.zeroCells, Array.size_map, Array.size_range, hzs]
    rw [← Nat.add_mul, ← Nat.add_mul]
    congr 1
    omega
  obtain ⟨hle, hn, hs, he⟩ := s'.allocRow (cs ++ cs2) (old ++ new ++ Builtin.zeroCells zv.cells (newCap - (L + m))) e (by
      rw [hsz, List.length_append, h1, h2, ← Nat.add_mul]; exact Nat.mul_le_mul_right _ hc) (fun j x hx => by
    have r := r1.append r2
    obtain ⟨y, hy, hr⟩ := r.get hx
    refine ⟨y, ?_, hr⟩
    have hj : j < old.size + new.size := by
      have := (List.getElem?_eq_some_iff.1 hy).1
      simpa using this
    rw [Array.getElem?_append_left (by simpa using hj), ← Array.getElem?_toList, Array.toList_append]
    exact hy)
  rw [hsz] at hle hn hs he
  rw [hw] at hle hn hs he
  refine ⟨_, .sl (o := 0) hn hc (fun h => by cases h) (fun _ => ⟨by simp, by omega⟩), hs, ?_, hle⟩
  exact (Ext.of_draw (w := w) hw ho ht hout hdr).trans he
theorem adel_cons_ne {α : Type} {i j : Nat} {x : α} {t : List (Nat × α)} (h : i ≠ j) : adel ((i, x) :: t) j = (i, x) :: adel t j := by simp [adel, h]
theorem zeroValue_any {e : TypeId} {z : List V} (hz : zeroL P e = some z) : ∃ zv : Value, VRelL ρ z zv.cells.toList ∧ ∀ w' : World, (zeroValue e).run P w' = .ok zv w' := by
  unfold zeroL at hz
  split at hz
  · rename_i i hi
    split at hz
    · rename_i zv hzv
      exact ⟨zv, oneAll_rel hz, fun w' => by simp [zeroValue, run_info hi, hzv]⟩
    · cases hz
  · cases hz
theorem gets_app (s : Sim pc ρ n H w) {t t' ty e e' : TypeId} {i : TypeInfo} {z : List V} (ht : P.underlying t = some (.slice e)) (ht' : P.underlying t' = some (.slice e')) (hi : P.info? e = some i) (hz : zeroL P e = some z) (h0 : 0 < i.size) (hb0 : 0 < i.bytes) (hzl : z.length = i.size)
    {x y : V} {x' y' : Value} (rx : VRel ρ x x') (ry : VRel ρ y y') {v : V} {n' : Nat} {H' : Heap} (ev : evApp n H i.size i.bytes x y = some (v, n', H')) : Gets pc P ρ n H w (Builtin.append_ #[t, t'] ty #[x', y']) v n' H' := by
  unfold evApp at ev
  split at ev
  · rename_i new hnew
    split at ev
    · rename_i hone
      obtain ⟨zv, hz2, hz1⟩ := zeroValue_any (P := P) (ρ := ρ) hz
      have hs : sizeL P e = some i.size := by simp [sizeL, hi]
      have hlen := run_lenOf (P := P) (w := w) ry hnew
      have hnl := cellsOf_length hnew
      have hfirst : ∀ w' : World, w'.heap = w.heap → ∃ arr : Array Value, (Builtin.firstCells i.size (lenS y) y').run P w' = .ok arr w' ∧ VRelL ρ new arr.toList := fun w' hw => by
        obtain ⟨arr, h1, h2⟩ := run_firstCells (P := P) (s.congr hw) ry hnew (Nat.le_refl _)
        rw [← hnl, List.take_length] at h2
        exact ⟨arr, h1, h2⟩
      obtain ⟨na, hna, hnr⟩ := hfirst w rfl
      have hnew' : ∀ w' : World, w'.heap = w.heap → (Builtin.firstCells i.size (lenS y) y').run P w' = .ok na w' := fun w' hw => by
        obtain ⟨arr, h1, h2⟩ := hfirst w' hw
        rw [h1]
        congr 1
        cases ry with
        | nils =>
          have h1' : Result.ok #[] w' = Result.ok arr w' := h1
          have h2' : Result.ok #[] w = Result.ok na w := hna
          cases h1'; cases h2'; rfl
        | @sl id off sz len full c d zz o k hρ hk hf ho =>
          simp only [Builtin.firstCells] at h1 hna
          simp only [cellsOf] at hnew
          split at hnew
          · rename_i own cs hb
            obtain ⟨arr0, ty0, fr0, g1, g2, g3, g4, _⟩ := s.row hb hρ
            split at hnew
            · rename_i hc
              obtain ⟨rfl, hl⟩ := hc
              by_cases hk0 : k = 0
              · have : len = 0 := by omega
                subst this
                simp only [lenS, Nat.zero_mul] at h1 hna
                have h1' : Result.ok #[] w' = Result.ok arr w' := h1
                have h2' : Result.ok #[] w = Result.ok na w := hna
                cases h1'; cases h2'; rfl
              · obtain ⟨ho1, ho2⟩ := ho hk0
                have hb' : o + len * i.size ≤ arr0.size := by
                  have := Nat.mul_le_mul_right i.size hk
                  omega
                simp only [lenS] at h1 hna
                rw [run_loadCells_at (w := w') (by rw [hw]; exact g1) hb'] at h1
                rw [run_loadCells_at g1 hb'] at hna
                cases h1; cases hna; rfl
            · cases hnew
          · cases hnew
        | _ => simp [cellsOf] at hnew
      split at ev
      · -- nil
        cases rx
        split at ev
        · rename_i h00
          cases ev
          rw [h00] at hlen hna
          refine .pure s (y := .slice none 0 0) ?_ .nils
          simp only [Builtin.append_, List.getElem?_toArray, List.getElem?_cons_zero, List.getElem?_cons_succ, Sem.run_bind, run_under ht, run_under ht', Result.andThen_ok, run_sizeL hs, Sem.run_pure, Bool.false_eq_true, if_false, hlen, Bool.not_false, if_true, Nat.add_zero, Nat.le_refl, hna]
        · rename_i hne
          split at ev
          · rename_i hcap
            cases ev
            obtain ⟨nc, w', e1, e2, e3, e4, e45, e5, e6⟩ := run_append_grow (P := P) (w := w) (ty := ty) (base := none) (len := 0) (k := 0) (old := #[]) (new := na) ht ht' hi (hz1 w) hb0 hlen (by omega) (by simpa using hcap) (fun w' _ => hz1 w') (fun w' _ => rfl) hnew'
            obtain ⟨ρ', g1, g2, g3, _⟩ := sim_grow (pc := pc) s (e := e) hz2 hzl (cs := []) (cs2 := new) (old := #[]) (new := na) (L := 0) (m := lenS y) .nil hnr (by simp) hnl e5 e1 e2 e3 e4 e45
            simp only [Nat.zero_add] at g1 g2 g3 e6 
            exact ⟨_, _, ρ', e6, g1, g2, g3⟩
          · cases ev
      · rename_i id off sz' len full
        split at ev
        · rename_i own cs hb
          split at ev
          · rename_i hc
            obtain ⟨rfl, hl, hcap⟩ := hc
            cases rx with
            | @sl _ _ _ _ _ c d zz o k hρ hk hf ho =>
            obtain ⟨arr, ty0, fr, g1, g2, g3, g4, g5⟩ := s.row hb hρ
            have holdr : k ≠ 0 → VRelL ρ ((cs.drop off).take (len * i.size)) (arr.extract o (o + len * i.size)).toList := fun hk0 => by
              obtain ⟨ho1, ho2⟩ := ho hk0
              have := (g4.drop off).take (len * i.size)
              rw [List.drop_take, List.take_take, List.drop_drop] at this
              rw [Array.toList_extract, List.extract_eq_take_drop, show o + len * i.size - o = len * i.size by omega, ho1]
              rw [Nat.min_eq_left (by omega)] at this
              exact this
            have hob : k ≠ 0 → o + len * i.size ≤ arr.size := fun hk0 => by
              obtain ⟨ho1, ho2⟩ := ho hk0
              have := Nat.mul_le_mul_right i.size hk
              omega
            have hold : ∃ oa : Array Value, VRelL ρ ((cs.drop off).take (len * i.size)) oa.toList ∧ ∀ w' : World, w'.heap = w.heap → (Builtin.firstCells i.size len (.slice (some ⟨c, o, none⟩) len k)).run P w' = .ok oa w' := by
              by_cases hk0 : k = 0
              · have : len = 0 := by omega
                subst this
                exact ⟨#[], by simpa using VRelL.nil, fun w' _ => by simp [Builtin.firstCells, loadCells, loadCellsFrom]⟩
              · exact ⟨_, holdr hk0, fun w' hw => by simp only [Builtin.firstCells]; exact run_loadCells_at (by rw [hw]; exact g1) (hob hk0)⟩
            obtain ⟨oa, hor, hor'⟩ := hold
            have hol : ((cs.drop off).take (len * i.size)).length = len * i.size := by simp; omega
            -- where a new row is laid
            have hgrow : k < len + lenS y → ∃ nc w' ρ', (Builtin.append_ #[t, t'] ty #[.slice (some ⟨c, o, none⟩) len k, y']).run P w = .ok (.slice (some ⟨w.heap.size, 0, none⟩) (len + lenS y) nc) w' ∧
                VRel ρ' (.sl n 0 i.size (len + lenS y) false) (.slice (some ⟨w.heap.size, 0, none⟩) (len + lenS y) nc) ∧ Sim pc ρ' (n + 1) ((n, .row true ((cs.drop off).take (len * i.size) ++ new)) :: H) w' ∧
                Ext ρ n H w ρ' (n + 1) ((n, .row true ((cs.drop off).take (len * i.size) ++ new)) :: H) w' := fun hg => by
              obtain ⟨nc, w', e1, e2, e3, e4, e45, e5, e6⟩ := run_append_grow (P := P) (w := w) (ty := ty) (base := some ⟨c, o, none⟩) (len := len) (k := k) (old := oa) (new := na) ht ht' hi (hz1 w) hb0 hlen hg hcap (fun w' _ => hz1 w') hor' hnew'
              obtain ⟨ρ', q1, q2, q3, _⟩ := sim_grow (pc := pc) s (e := e) hz2 hzl hor hnr hol hnl e5 e1 e2 e3 e4 e45
              exact ⟨nc, _, ρ', e6, q1, q2, q3⟩
            split at ev
            · rename_i hfull
              have hkl := hf hfull
              subst hkl
              split at ev
              · rename_i h00
                cases ev
                rw [h00] at hlen hna
                have hnil : na.toList = [] := by
                  have := hnr.1; rw [hnl, h00] at this; simp at this
                  exact List.eq_nil_of_length_eq_zero (by rw [Array.length_toList]; omega)
                refine .pure s (y := .slice (some ⟨c, o, none⟩) k k) ?_ (.sl hρ (Nat.le_refl _) (fun _ => rfl) ho)
                simp only [Builtin.append_, List.getElem?_toArray, List.getElem?_cons_zero, List.getElem?_cons_succ, Sem.run_bind, run_under ht, run_under ht', Result.andThen_ok, run_sizeL hs, Sem.run_pure, Bool.false_eq_true, if_false, hlen, Bool.not_false, if_true, Nat.add_zero, Nat.le_refl, hna, hnil, storeCells]
              · rename_i hne
                cases ev
                obtain ⟨nc, w', ρ', q1, q2, q3, q4⟩ := hgrow (by omega)
                exact ⟨_, w', ρ', q1, q2, q3, q4⟩
            · rename_i hfull
              split at ev
              · rename_i hown
                subst hown
                cases ev
                have hidn : id ≠ n := fun h => Nat.lt_irrefl _ (h ▸ s.key hb)
                by_cases hg : k < len + lenS y
                · obtain ⟨nc, w', ρ', q1, q2, q3, q4⟩ := hgrow hg
                  obtain ⟨q5, q6⟩ := q3.del id
                  rw [adel_cons_ne hidn.symm] at q5 q6
                  exact ⟨_, w', ρ', q1, q2, q5, q4.trans q6⟩
                · -- it fits
                  have hfit : len + lenS y ≤ k := by omega
                  have hnas : na.size = lenS y * i.size := by have := hnr.1; simp at this; omega
                  have hrun : (Builtin.append_ #[t, t'] ty #[.slice (some ⟨c, o, none⟩) len k, y']).run P w = ((storeCells ((⟨c, o, none⟩ : Addr).add (len * i.size)) na.toList 0).run P w).andThen fun _ w' => .ok (.slice (some ⟨c, o, none⟩) (len + lenS y) k) w' := by
                    simp only [Builtin.append_, List.getElem?_toArray, List.getElem?_cons_zero, List.getElem?_cons_succ, Sem.run_bind, run_under ht, run_under ht', Result.andThen_ok, run_sizeL hs, Sem.run_pure, Bool.false_eq_true, if_false, hlen, Bool.not_false, if_true]
                    rw [if_pos hfit]
                    simp only [Sem.run_bind, hna, Result.andThen_ok, Sem.run_pure]
                  by_cases hk0 : k = 0
                  · have hl0 : len = 0 := by omega
                    have hm0 : lenS y = 0 := by omega
                    have hnil : na.toList = [] := List.eq_nil_of_length_eq_zero (by rw [Array.length_toList, hnas, hm0]; simp)
                    have hnew0 : new = [] := List.eq_nil_of_length_eq_zero (by rw [hnl, hm0]; simp)
                    obtain ⟨q1, q2, q3, q4⟩ := s.move (cs' := (cs.drop off).take (len * i.size) ++ new) (off := off) hb hρ arr ty0 fr g2 (g5 rfl) (by subst hl0; rw [hnew0]; simp; omega) (fun j x hx => by subst hl0; rw [hnew0] at hx; simp at hx)
                    rw [setBlk_same _ _ _ g1] at q3 q4
                    refine ⟨_, w, _, ?_, .sl (k := k) (o := o) q2 (by omega) (fun h => by cases h) (fun h => absurd hk0 h), q3, q4⟩
                    rw [hrun, hnil]
                    rfl
                  · obtain ⟨ho1, ho2⟩ := ho hk0
                    have hkm : (len + lenS y) * i.size ≤ k * i.size := Nat.mul_le_mul_right _ hfit
                    rw [Nat.add_mul] at hkm
                    have hst := run_storeCells_at (P := P) (o := o + len * i.size) (c := c) na.toList 0 w arr g1 (by simp; omega) (by rw [g2]; exact g5 rfl) (all_flat hone hnr)
                    rw [Nat.add_zero] at hst
                    obtain ⟨q1, q2, q3, q4⟩ := s.move (cs' := (cs.drop off).take (len * i.size) ++ new) (off := off) hb hρ (setAll arr.toList (o + len * i.size) na.toList).toArray ty0 fr (by
                        simp only [List.size_toArray]; rw [setAll_length _ _ _ (by simp; omega)]; simpa using g2) (g5 rfl) (by rw [List.length_append, hol, hnl]; omega) (fun j x hx => by
                      simp only [List.getElem?_toArray]
                      rw [setAll_get _ _ _ (by simp; omega)]
                      have hjl : j < len * i.size + lenS y * i.size := by
                        have := (List.getElem?_eq_some_iff.1 hx).1
                        rw [List.length_append, hol, hnl] at this
                        exact this
                      by_cases hj : j < len * i.size
                      · rw [if_pos (by omega)]
                        rw [List.getElem?_append_left (by omega)] at hx
                        obtain ⟨y1, hy1, hr1⟩ := (holdr hk0).get hx
                        refine ⟨y1, ?_, hr1⟩
                        rw [Array.toList_extract, List.extract_eq_take_drop, List.getElem?_take, if_pos (by omega), List.getElem?_drop] at hy1
                        rw [← ho1]
                        exact hy1
                      · rw [if_neg (by omega), if_pos (by simp; omega)]
                        rw [List.getElem?_append_right (by omega), hol] at hx
                        obtain ⟨y1, hy1, hr1⟩ := hnr.get hx
                        exact ⟨y1, by rw [show d + off + j - (o + len * i.size) = j - len * i.size by omega]; exact hy1, hr1⟩)
                    refine ⟨_, _, _, ?_, .sl (k := k) (o := o) q2 (by omega) (fun h => by cases h) (fun _ => ⟨by omega, by omega⟩), q3, q4⟩
                    rw [hrun, add_off, hst]
                    rfl
              · cases ev
          · cases ev
        · cases ev
      · cases ev
    · cases ev
  · cases ev
end ops
end Go.Proofs.Ytpgelghkjiejlaa
