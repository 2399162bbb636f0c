/- Each operation's run (sixth part): addresses, append, copy, clear. -/
import Derived.Test.YtpgelghkjiejlaaSmJ
set_option linter.unusedVariables false
set_option linter.unusedSimpArgs false
namespace Go.Proofs.Ytpgelghkjiejlaa
open Go
section ops
variable {pc : PrepC} {P : Program} {ρ : Ren} {n : Nat} {H : Heap} {w : World}

theorem gets_fa (s : Sim pc ρ n H w) {t : TypeId} {fs : Array Field} {f : Nat} {fd : Field} {k : Nat} (ht : P.underlying t = some (.struct fs)) (hf : fs[f]? = some fd) (hs : sizeL P fd.type = some (k + 1)) {x : V} {x' : Value} (rx : VRel ρ x x') {v : V} {n' : Nat} {H' : Heap}
    (ev : keep n H (evFa fd.offset x) = some (v, n', H')) : Gets pc P ρ n H w (Instr.fieldAt t x' f) v n' H' := by
  obtain ⟨e, rfl, rfl⟩ := keep_inv ev
  unfold evFa at e
  split at e
  · cases e
    cases rx with
    | @p _ _ c d z o hρ ho =>
    refine .pure s (y := .pointer (some ⟨c, o + fd.offset, none⟩)) ?_ (.p hρ (by omega))
    simp [Instr.fieldAt, run_under ht, hf, Instr.sureAddr, fieldPlace, run_sizeL hs, add_off]
  · cases e
theorem gets_fld (s : Sim pc ρ n H w) {t : TypeId} {fs : Array Field} {f : Nat} {fd : Field} {g : Bool} {sz : Nat} (ht : P.underlying t = some (.struct fs)) (hf : fs[f]? = some fd) (hs : sizeL P fd.type = some sz) (hg : aggL P fd.type = some g) {x : V} {x' : Value} (rx : VRel ρ x x')
    {v : V} {n' : Nat} {H' : Heap} (ev : keep n H (evFld g fd.offset sz x) = some (v, n', H')) : Gets pc P ρ n H w (Instr.field t x' f) v n' H' := by
  obtain ⟨e, rfl, rfl⟩ := keep_inv ev
  unfold evFld at e
  split at e
  · obtain ⟨ys, rfl, r⟩ := VRelL.of_ag rx
    split at e
    · rename_i hgt
      subst hgt
      split at e
      · rename_i hl
        cases e
        refine .pure s (y := .agg (ys.extract fd.offset (fd.offset + sz))) ?_ ?_
        · simp [Instr.field, run_under ht, hf, asAgg, part, run_aggL hg, run_sizeL hs]
        · apply VRelL.to_ag
          rw [Array.toList_extract, List.extract_eq_take_drop, show fd.offset + sz - fd.offset = sz by omega]
          exact (r.drop _).take _
      · cases e
    · rename_i hgf
      have hg' : g = false := by simpa using hgf
      subst hg'
      obtain ⟨y, hy, hr⟩ := r.get e
      refine .pure s (y := y) ?_ hr
      simp only [Array.getElem?_toList] at hy
      simp [Instr.field, run_under ht, hf, asAgg, part, run_aggL hg, hy]
  · cases e
theorem gets_ias (s : Sim pc ρ n H w) {t e : TypeId} {sz : Nat} (ht : P.underlying t = some (.slice e)) (hs : sizeL P e = some sz) {x i : V} {x' i' : Value} (rx : VRel ρ x x') (ri : VRel ρ i i') {v : V} {n' : Nat} {H' : Heap}
    (ev : keep n H (evIas sz x i) = some (v, n', H')) : Gets pc P ρ n H w (Instr.indexAt t x' i') v n' H' := by
  obtain ⟨e', rfl, rfl⟩ := keep_inv ev
  unfold evIas at e'
  split at e'
  · split at e'
    · rename_i id off sz' len full k m hc
      obtain ⟨rfl, h0, h1⟩ := hc
      cases e'
      cases i_inv ri
      cases rx with
      | @sl _ _ _ _ _ c d z o k' hρ hk hf ho =>
      obtain ⟨ho1, ho2⟩ := ho (by omega)
      refine .pure s (y := .pointer (some ⟨c, o + m.toNat * sz', none⟩)) ?_ (.p hρ (by omega))
      simp only [Instr.indexAt, asIntOf, Sem.run_bind, Sem.run_pure, Result.andThen_ok, run_under ht]
      rw [if_pos ⟨h0, h1⟩]
      simp [run_sizeL hs, add_off]
    · cases e'
  · cases e'
theorem gets_iaa (s : Sim pc ρ n H w) {t e : TypeId} {len sz : Nat} (ht : P.underlying t = some (.array len e)) (hs : sizeL P e = some sz) {x i : V} {x' i' : Value} (rx : VRel ρ x x') (ri : VRel ρ i i') {v : V} {n' : Nat} {H' : Heap}
    (ev : keep n H (evIaa len sz x i) = some (v, n', H')) : Gets pc P ρ n H w (Instr.indexAt t x' i') v n' H' := by
  obtain ⟨e', rfl, rfl⟩ := keep_inv ev
  unfold evIaa at e'
  split at e'
  · split at e'
    · rename_i id off k m hc
      obtain ⟨h0, h1⟩ := hc
      cases e'
      cases i_inv ri
      cases rx with
      | @p _ _ c d z o hρ ho =>
      refine .pure s (y := .pointer (some ⟨c, o + m.toNat * sz, none⟩)) ?_ (.p hρ (by omega))
      simp only [Instr.indexAt, asIntOf, Sem.run_bind, Sem.run_pure, Result.andThen_ok, run_under ht, Instr.sureAddr]
      rw [if_pos ⟨h0, h1⟩]
      simp [run_sizeL hs, add_off]
    · cases e'
  · cases e'
theorem gets_ixs (s : Sim pc ρ n H w) {t : TypeId} (ht : P.underlying t = some .string) {x i : V} {x' i' : Value} (rx : VRel ρ x x') (ri : VRel ρ i i') {v : V} {n' : Nat} {H' : Heap}
    (ev : keep n H (evIxs x i) = some (v, n', H')) : Gets pc P ρ n H w (Instr.index t x' i') v n' H' := by
  obtain ⟨e', rfl, rfl⟩ := keep_inv ev
  unfold evIxs at e'
  split at e'
  · split at e'
    · rename_i k m h0
      obtain ⟨b, rfl, rfl⟩ := s_inv rx
      cases i_inv ri
      obtain ⟨c, hc, rfl⟩ := Option.map_eq_some_iff.1 e'
      refine .pure s (y := .int .u8 c.toNat) ?_ (.i _ _)
      have hb : b[m.toNat]? = some c := by
        obtain ⟨h1, h2⟩ := List.getElem?_eq_some_iff.1 hc
        have h3 : m.toNat < b.size := by simpa using h1
        rw [getElem?_pos b m.toNat h3]
        congr 1
      simp only [Instr.index, asIntOf, Sem.run_bind, Sem.run_pure, Result.andThen_ok, run_under ht]
      rw [if_pos h0, hb]
      rfl
    · cases e'
  · cases e'
theorem gets_len (s : Sim pc ρ n H w) {g : Bool} {t : TypeId} {ts : Array TypeId} {ty : TypeId} (ht : ts[0]? = some t) (hu : if g then P.underlying t = some .string else ∃ e, P.underlying t = some (.slice e)) {x : V} {x' : Value} (rx : VRel ρ x x') {v : V} {n' : Nat} {H' : Heap}
    (ev : keep n H (evLen g x) = some (v, n', H')) : Gets pc P ρ n H w (Builtin.len_ ts ty #[x']) v n' H' := by
  obtain ⟨e', rfl, rfl⟩ := keep_inv ev
  unfold evLen at e'
  split at e'
  · obtain ⟨b, rfl, rfl⟩ := s_inv rx
    cases e'
    refine .pure s (y := .int .i64 b.size) ?_ ?_
    · have hk : P.underlying t = some .string := by simpa using hu
      simp [Builtin.len_, ht, run_under hk, goInt]
    · rw [show (b.data.toList.length : Int) = (b.size : Int) by simp]; exact .i _ _
  · cases e'
    obtain ⟨e, hk⟩ : ∃ e, P.underlying t = some (.slice e) := by simpa using hu
    cases rx with
    | sl hρ h1 h2 h3 =>
    exact .pure s (y := .int .i64 _) (by simp [Builtin.len_, ht, run_under hk, goInt]) (.i _ _)
  · cases e'
    obtain ⟨e, hk⟩ : ∃ e, P.underlying t = some (.slice e) := by simpa using hu
    cases rx
    exact .pure s (y := .int .i64 0) (by simp [Builtin.len_, ht, run_under hk, goInt]) (.i _ _)
  · cases e'

theorem run_min2 {x y z : V} {x' y' : Value} (rx : VRel ρ x x') (ry : VRel ρ y y') (h : minI x y = some z) : ∃ z', (Builtin.min2 x' y').run P w = .ok z' w ∧ VRel ρ z z' := by
  unfold minI at h
  split at h
  · cases h; cases i_inv rx; cases i_inv ry; exact ⟨_, rfl, .i _ _⟩
  · cases h
theorem run_max2 {x y z : V} {x' y' : Value} (rx : VRel ρ x x') (ry : VRel ρ y y') (h : maxI x y = some z) : ∃ z', (Builtin.max2 x' y').run P w = .ok z' w ∧ VRel ρ z z' := by
  unfold maxI at h
  split at h
  · cases h; cases i_inv rx; cases i_inv ry; exact ⟨_, rfl, .i _ _⟩
  · cases h
theorem run_foldO {f : V → V → Option V} {f' : Value → Value → Sem Value} (hf : ∀ x y z x' y', VRel ρ x x' → VRel ρ y y' → f x y = some z → ∃ z', (f' x' y').run P w = .ok z' w ∧ VRel ρ z z') :
    ∀ {ys : List V} {ys' : List Value} {x : V} {x' : Value} {z : V}, VRel ρ x x' → VRelL ρ ys ys' → foldO f x ys = some z → ∃ z', (ys'.foldlM f' x').run P w = .ok z' w ∧ VRel ρ z z' := by
  intro ys
  induction ys with
  | nil => intro ys' x x' z rx ry h; cases h; obtain rfl := ry.nil_inv; exact ⟨x', rfl, rx⟩
  | cons y ys ih =>
    intro ys' x x' z rx ry h
    obtain ⟨y', yt, rfl, r1, r2⟩ := ry.cons_inv
    unfold foldO at h
    split at h
    · rename_i u hu
      obtain ⟨u', h1, h2⟩ := hf _ _ _ _ _ rx r1 hu
      obtain ⟨z', h3, h4⟩ := ih h2 r2 h
      exact ⟨z', by simp [List.foldlM_cons, h1, h3], h4⟩
    · cases h
theorem gets_min (s : Sim pc ρ n H w) {ts : Array TypeId} {ty : TypeId} {xs : List V} {xs' : Array Value} (r : VRelL ρ xs xs'.toList) {v : V} {n' : Nat} {H' : Heap} (ev : keep n H (evFold minI xs) = some (v, n', H')) : Gets pc P ρ n H w (Builtin.min_ ts ty xs') v n' H' := by
  obtain ⟨e', rfl, rfl⟩ := keep_inv ev
  unfold evFold at e'
  split at e'
  · cases e'
  · obtain ⟨y, yt, hy, r1, r2⟩ := r.cons_inv
    obtain ⟨z', h1, h2⟩ := run_foldO (P := P) (w := w) (f' := Builtin.min2) (fun x y z x' y' rx ry h => run_min2 rx ry h) r1 r2 e'
    exact .pure s (by simp only [Builtin.min_, hy]; exact h1) h2
theorem gets_max (s : Sim pc ρ n H w) {ts : Array TypeId} {ty : TypeId} {xs : List V} {xs' : Array Value} (r : VRelL ρ xs xs'.toList) {v : V} {n' : Nat} {H' : Heap} (ev : keep n H (evFold maxI xs) = some (v, n', H')) : Gets pc P ρ n H w (Builtin.max_ ts ty xs') v n' H' := by
  obtain ⟨e', rfl, rfl⟩ := keep_inv ev
  unfold evFold at e'
  split at e'
  · cases e'
  · obtain ⟨y, yt, hy, r1, r2⟩ := r.cons_inv
    obtain ⟨z', h1, h2⟩ := run_foldO (P := P) (w := w) (f' := Builtin.max2) (fun x y z x' y' rx ry h => run_max2 rx ry h) r1 r2 e'
    exact .pure s (by simp only [Builtin.max_, hy]; exact h1) h2

/-- The cells of a slice, read. -/
theorem run_firstCells (s : Sim pc ρ n H w) {sz : Nat} {x : V} {x' : Value} (rx : VRel ρ x x') {cs : List V} (h : cellsOf H sz x = some cs) {m : Nat} (hm : m ≤ lenS x) :
    ∃ arr : Array Value, (Builtin.firstCells sz m x').run P w = .ok arr w ∧ VRelL ρ (cs.take (m * sz)) arr.toList := by
  unfold cellsOf at h
  split at h
  · cases h; cases rx
    exact ⟨#[], rfl, by simpa using VRelL.nil⟩
  · rename_i id off sz' len full
    split at h
    · rename_i own cs' hb
      split at h
      · rename_i hc
        obtain ⟨rfl, hl⟩ := hc
        cases h
        simp only [lenS] at hm
        cases rx with
        | @sl _ _ _ _ _ c d z o k hρ hk hf ho =>
        obtain ⟨arr, ty, fr, h1, h2, h3, h4, _⟩ := s.row hb hρ
        by_cases hm0 : m * sz' = 0
        · refine ⟨#[], ?_, by rw [hm0]; simpa using VRelL.nil⟩
          simp only [Builtin.firstCells, hm0]
          rfl
        · have hk0 : k ≠ 0 := by
            rintro rfl
            have : m = 0 := by omega
            rw [this] at hm0; simp at hm0
          obtain ⟨ho1, ho2⟩ := ho hk0
          have hmk : m * sz' ≤ len * sz' := Nat.mul_le_mul_right _ hm
          refine ⟨arr.extract o (o + m * sz'), ?_, ?_⟩
          · simp only [Builtin.firstCells]
            exact run_loadCells_at h1 (by omega)
          · have := (h4.drop off).take (m * sz')
            rw [List.drop_take, List.take_take, List.drop_drop] at this
            rw [Array.toList_extract, List.extract_eq_take_drop, List.take_take, Nat.min_eq_left hmk, show o + m * sz' - o = m * sz' by omega, ho1]
            rw [Nat.min_eq_left (by omega)] at this
            exact this
      · cases h
    · cases h
  · cases h
theorem cellsOf_length {sz : Nat} {x : V} {cs : List V} (h : cellsOf H sz x = some cs) : cs.length = lenS x * sz := by
  unfold cellsOf at h
  split at h
  · cases h; simp [lenS]
  · split at h
    · split at h
      · rename_i hc; cases h; simp only [List.length_take, List.length_drop, lenS]; omega
      · cases h
    · cases h
  · cases h
theorem run_lenOf {sz : Nat} {x : V} {x' : Value} (rx : VRel ρ x x') {cs : List V} (h : cellsOf H sz x = some cs) : (Builtin.lenOf x').run P w = .ok (lenS x) w := by
  unfold cellsOf at h
  split at h
  · cases rx; rfl
  · cases rx; rfl
  · cases h
theorem gets_cpy (s : Sim pc ρ n H w) {t e : TypeId} {ts : Array TypeId} {ty : TypeId} {sz : Nat} (ht : ts[0]? = some t) (hu : P.underlying t = some (.slice e)) (hs : sizeL P e = some sz) {d x : V} {d' x' : Value} (rd : VRel ρ d d') (rx : VRel ρ x x') {v : V} {n' : Nat} {H' : Heap}
    (ev : evCpy n H sz d x = some (v, n', H')) : Gets pc P ρ n H w (Builtin.copy_ ts ty #[d', x']) v n' H' := by
  unfold evCpy at ev
  split at ev
  · rename_i new hnew
    split at ev
    · cases ev
      cases rd
      obtain ⟨arr, h1, h2⟩ := run_firstCells (P := P) s rx hnew (m := 0) (Nat.zero_le _)
      refine .pure s (y := .int .i64 0) ?_ (.i _ _)
      have : Nat.min (lenS x) 0 = 0 := Nat.min_zero _
      simp [Builtin.copy_, ht, run_under hu, run_lenOf (P := P) (w := w) rx hnew, run_sizeL hs, this, h1, goInt]
    · rename_i id off sz' len full
      split at ev
      · rename_i cs hb
        split at ev
        · rename_i hc
          obtain ⟨rfl, hl, hone⟩ := hc
          cases ev
          cases rd with
          | @sl _ _ _ _ _ c dd z o k hρ hk hf ho =>
          obtain ⟨arr, h1, h2⟩ := run_firstCells (P := P) s rx hnew (m := min (lenS x) len) (Nat.min_le_left _ _)
          have hnl := cellsOf_length hnew
          have hml : min (lenS x) len * sz' ≤ len * sz' := Nat.mul_le_mul_right _ (Nat.min_le_right _ _)
          have htl : (new.take (min (lenS x) len * sz')).length = min (lenS x) len * sz' := by
            have : min (lenS x) len * sz' ≤ lenS x * sz' := Nat.mul_le_mul_right _ (Nat.min_le_left _ _)
            simp; omega
          have hrun : (Builtin.copy_ ts ty #[Value.slice (some ⟨c, o, none⟩) len k, x']).run P w = ((storeCells ⟨c, o, none⟩ arr.toList 0).run P w).andThen fun _ w' => .ok (.int .i64 (min (lenS x) len : Nat)) w' := by
            simp only [Builtin.copy_, ht, List.getElem?_toArray, List.getElem?_cons_zero, List.getElem?_cons_succ, Sem.run_bind, run_under hu, Result.andThen_ok, run_lenOf (P := P) (w := w) rx hnew, run_sizeL hs]
            rw [show Nat.min (lenS x) len = min (lenS x) len from rfl, h1]
            rfl
          by_cases hk0 : k = 0
          · have hl0 : len = 0 := by omega
            subst hl0
            have h0 : min (lenS x) 0 = 0 := Nat.min_zero _
            rw [h0] at h2 hrun htl ⊢
            have harr : arr.toList = [] := by
              have := h2.1; simp at this; exact List.eq_nil_of_length_eq_zero (by rw [Array.length_toList]; omega)
            rw [harr] at hrun
            refine ⟨.int .i64 0, w, ρ, by rw [hrun]; rfl, .i _ _, ?_⟩
            have hset : setAll cs off (new.take (0 * sz')) = cs := by simp [setAll]
            rw [hset]
            have hsame : ∀ b, aget (aput H id (.row true cs)) b = aget H b := fun b => by
              rw [aget_put]; split
              · rename_i h; rw [← h, hb]
              · rfl
            exact ⟨⟨s.sup, fun b k h => s.blk b k (hsame b ▸ h), fun b1 b2 k1 k2 x1 x2 g1 g2 => s.inj b1 b2 k1 k2 x1 x2 (hsame b1 ▸ g1) (hsame b2 ▸ g2)⟩,
              ⟨Nat.le_refl _, .refl _, fun _ _ _ h => h, rfl, rfl, rfl, Nat.le_refl _, Nat.le_refl _, fun _ _ _ => rfl, fun c ⟨b, k, x, g1, g2⟩ => .inl ⟨b, k, x, hsame b ▸ g1, g2⟩⟩⟩
          · obtain ⟨ho1, ho2⟩ := ho hk0
            subst ho1
            obtain ⟨w', h3, h4, h5⟩ := sim_write (P := P) (off := off) s hb hρ h2 (by
              simp only [List.all_eq_true] at hone ⊢
              exact fun y hy => hone y (List.mem_of_mem_take hy)) (by rw [htl]; omega)
            exact ⟨_, w', ρ, by rw [hrun, h3]; rfl, .i _ _, h4, h5⟩
        · cases ev
      · cases ev
    · cases ev
  · cases ev
theorem gets_clr (s : Sim pc ρ n H w) {t e : TypeId} {ts : Array TypeId} {ty : TypeId} {sz : Nat} {z : List V} (ht : ts[0]? = some t) (hu : P.underlying t = some (.slice e)) (hs : sizeL P e = some sz) (hz : zeroL P e = some z) {x : V} {x' : Value} (rx : VRel ρ x x') {v : V} {n' : Nat} {H' : Heap}
    (ev : evClr n H sz z x = some (v, n', H')) : Gets pc P ρ n H w (Builtin.clear_ ts ty #[x']) v n' H' := by
  unfold evClr at ev
  have hemp : VRel ρ (.tu []) (.tuple #[]) := .tu rfl fun j x y h => by simp at h
  split at ev
  · cases ev
    cases rx
    exact .pure s (y := .tuple #[]) (by simp [Builtin.clear_, ht, run_under hu]) hemp
  · rename_i id off sz' len full
    cases rx with
    | @sl _ _ _ _ _ c d zz o k hρ hk hf ho =>
    split at ev
    · rename_i hl0
      subst hl0
      cases ev
      exact .pure s (y := .tuple #[]) (by simp [Builtin.clear_, ht, run_under hu]) hemp
    · rename_i hl0
      split at ev
      · rename_i cs hb
        split at ev
        · rename_i hc
          obtain ⟨rfl, hzl, hl, hone⟩ := hc
          cases ev
          obtain ⟨zv, hz1, hz2⟩ := zeroL_inv (P := P) (w := w) (ρ := ρ) hz
          obtain ⟨ho1, ho2⟩ := ho (by omega)
          subst ho1
          have hrep := zrep_rel hz2 len
          have hzs : zv.cells.size = z.length := by have := hz2.1; simp at this; omega
          have hzc : (Builtin.zeroCells zv.cells len) = (Array.range (len * z.length)).map (fun i => zv.cells[i % zv.cells.size]!) := by
            simp [Builtin.zeroCells, hzs]
          obtain ⟨w', h3, h4, h5⟩ := sim_write (P := P) s hb hρ hrep (zrep_one hone len) (by rw [zrep_length, hzl]; omega)
          refine ⟨.tuple #[], w', ρ, ?_, hemp, h4, h5⟩
          obtain ⟨len, rfl⟩ : ∃ m, len = m + 1 := ⟨len - 1, by omega⟩
          simp only [Builtin.clear_, ht, List.getElem?_toArray, List.getElem?_cons_zero, Sem.run_bind, run_under hu, Result.andThen_ok, hz1, hzc, h3, Sem.run_pure]
        · cases ev
      · cases ev
  · cases ev
end ops
end Go.Proofs.Ytpgelghkjiejlaa
