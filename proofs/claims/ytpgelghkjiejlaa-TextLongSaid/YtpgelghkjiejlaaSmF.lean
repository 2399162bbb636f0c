/- Each operation's run, over whatever world bears the abstract state. -/
import Derived.Test.YtpgelghkjiejlaaSmE
set_option linter.unusedVariables false
set_option linter.unusedSimpArgs false
namespace Go.Proofs.Ytpgelghkjiejlaa
open Go

theorem oneOf_rel {ρ : Ren} {y : Value} {v : V} (h : oneOf y = some v) : VRel ρ v y := by
  unfold oneOf at h
  split at h <;> cases h
  · exact .b _
  · exact .i _ _
  · exact .s rfl
  · exact .nilp
  · exact .nils
  · exact .nilf
  · exact .nili
theorem oneAll_rel {ρ : Ren} : ∀ {ys : List Value} {vs : List V}, oneAll ys = some vs → VRelL ρ vs ys := by
  intro ys
  induction ys with
  | nil => intro vs h; cases h; exact .nil
  | cons y ys ih =>
    intro vs h
    simp only [oneAll] at h
    split at h
    · rename_i v l h1 h2
      cases h
      exact .cons (oneOf_rel h1) (ih h2)
    · cases h
theorem ofConst_rel {ρ : Ren} {y : Value} {v : V} (h : ofConst y = some v) : VRel ρ v y := by
  unfold ofConst at h
  split at h
  · obtain ⟨l, h1, rfl⟩ := Option.map_eq_some_iff.1 h
    exact (oneAll_rel h1).to_ag
  · obtain ⟨l, h1, rfl⟩ := Option.map_eq_some_iff.1 h
    exact (oneAll_rel h1).to_tu
  · exact oneOf_rel h
theorem getD_undef (a : Act) (t : Nat) : a.eval (.tmp t) = a.tmps.getD t undef := rfl
theorem prepX_rel {ρ : Ren} {N : Nat} {T : Temps} {a : Act} (tr : TRel ρ N T a.tmps) {x : Operand} {ax : AX} (h : prepX x = some ax) : VRel ρ (ax.val T) (a.eval x) := by
  cases x with
  | tmp t =>
    simp only [prepX] at h
    cases h
    simp only [AX.val]
    cases hv : aget T t with
    | none => exact .un _
    | some v =>
      obtain ⟨y, hy, r⟩ := tr.2 t v hv
      rw [getD_undef, Array.getD_eq_getD_getElem?, hy]
      exact r
  | const v =>
    simp only [prepX] at h
    obtain ⟨u, h1, rfl⟩ := Option.map_eq_some_iff.1 h
    exact ofConst_rel h1
  | global g => simp [prepX] at h
  | func f =>
    simp only [prepX] at h
    cases h
    exact .fn rfl (fun j x y hx => by simp at hx) rfl (fun j x y hx => by simp at hx)
theorem prepXs_rel {ρ : Ren} {N : Nat} {T : Temps} {a : Act} (tr : TRel ρ N T a.tmps) : ∀ {xs : List Operand} {l : List AX}, prepXs xs = some l → VRelL ρ (l.map (·.val T)) (xs.map a.eval) := by
  intro xs
  induction xs with
  | nil => intro l h; cases h; exact .nil
  | cons x xs ih =>
    intro l h
    simp only [prepXs] at h
    split at h
    · rename_i v l' h1 h2
      cases h
      exact .cons (prepX_rel tr h1) (ih h2)
    · cases h

section runs
variable {P : Program} {w : World}
theorem run_info {t : TypeId} {i : TypeInfo} (h : P.info? t = some i) : (typeInfo t).run P w = .ok i w := by
  simp [typeInfo, program, Sem.run, h, pure]
theorem run_sizeL {t : TypeId} {s : Nat} (h : sizeL P t = some s) : (sizeOf t).run P w = .ok s w := by
  obtain ⟨i, h1, rfl⟩ := Option.map_eq_some_iff.1 h
  simp [sizeOf, run_info h1]
theorem run_under {t : TypeId} {d : TypeDesc} (h : P.underlying t = some d) : (underlying t).run P w = .ok d w := run_underlying h w
theorem run_aggL {t : TypeId} {g : Bool} (h : aggL P t = some g) : (isAgg t).run P w = .ok g w := by
  unfold aggL at h
  split at h
  · rename_i h1; cases h; simp [isAgg, run_under h1]
  · rename_i h1; cases h; simp [isAgg, run_under h1]
  · rename_i d hs ha h1
    cases h
    simp only [isAgg, Sem.run_bind, run_under h1, Result.andThen_ok]
    rfl
  · cases h
theorem zeroL_inv {ρ : Ren} {t : TypeId} {z : List V} (h : zeroL P t = some z) : ∃ zv, (zeroValue t).run P w = .ok zv w ∧ VRelL ρ z zv.cells.toList := by
  unfold zeroL at h
  split at h
  · rename_i i hi
    split at h
    · rename_i zv hz
      refine ⟨zv, ?_, oneAll_rel h⟩
      simp [zeroValue, run_info hi, hz]
    · cases h
  · cases h
end runs

/-- A Sem of a value that comes to v. -/
def Gets (pc : PrepC) (P : Program) (ρ : Ren) (n : Nat) (H : Heap) (w : World) (s : Sem Value) (v : V) (n' : Nat) (H' : Heap) : Prop :=
  ∃ y w' ρ', s.run P w = .ok y w' ∧ VRel ρ' v y ∧ Sim pc ρ' n' H' w' ∧ Ext ρ n H w ρ' n' H' w'
def GetsU (pc : PrepC) (P : Program) (ρ : Ren) (n : Nat) (H : Heap) (w : World) (s : Sem Unit) (n' : Nat) (H' : Heap) : Prop :=
  ∃ w' ρ', s.run P w = .ok () w' ∧ Sim pc ρ' n' H' w' ∧ Ext ρ n H w ρ' n' H' w'

section ops
variable {pc : PrepC} {P : Program} {ρ : Ren} {n : Nat} {H : Heap} {w : World}
theorem Gets.pure (s : Sim pc ρ n H w) {sem : Sem Value} {v : V} {y : Value} (h : sem.run P w = .ok y w) (r : VRel ρ v y) : Gets pc P ρ n H w sem v n H :=
  ⟨y, w, ρ, h, r, s, .refl _ _ _ _⟩

theorem run_newVar (t : TypeId) (y : Value) : (newVar t y).run P w = .ok ⟨w.heap.size, 0, none⟩ (pushW w (.cells y.cells t)) := by
  simp [newVar, newRow, newObj, Sem.run, pushW]
theorem run_newRow (t : TypeId) (cs : Array Value) : (newRow t cs).run P w = .ok ⟨w.heap.size, 0, none⟩ (pushW w (.cells cs t)) := by
  simp [newRow, newObj, Sem.run, pushW]
theorem rel_get {cs : List V} {arr : Array Value} (r : VRelL ρ cs arr.toList) : ∀ (j : Nat) x, cs[j]? = some x → ∃ y, arr[j]? = some y ∧ VRel ρ x y := fun j x hx => by
  obtain ⟨y, hy, hr⟩ := r.get hx
  exact ⟨y, by simpa using hy, hr⟩
theorem gets_newVar (s : Sim pc ρ n H w) {t : TypeId} {cs : List V} {y : Value} (r : VRelL ρ cs y.cells.toList) :
    Gets pc P ρ n H w (do pure (.pointer (some (← newVar t y)))) (.p n 0) (n + 1) ((n, .row true cs) :: H) := by
  obtain ⟨hle, hn, hs, he⟩ := s.allocRow cs y.cells t (by simp [r.1]) (rel_get r)
  exact ⟨_, _, _, by simp [run_newVar], .p hn rfl, hs, he⟩
theorem gets_new (s : Sim pc ρ n H w) {t : TypeId} {z : List V} (h : zeroL P t = some z) {v : V} {n' : Nat} {H' : Heap} (e : evNew n H z = some (v, n', H')) :
    Gets pc P ρ n H w (Instr.alloc t true (.tuple #[])) v n' H' := by
  cases e
  obtain ⟨zv, h1, h2⟩ := zeroL_inv (w := w) (ρ := ρ) h
  obtain ⟨y, w', ρ', hr, rest⟩ := gets_newVar (P := P) s (t := t) h2
  refine ⟨y, w', ρ', ?_, rest⟩
  simp only [Instr.alloc, Sem.run_bind, h1, Result.andThen_ok]
  simpa using hr
theorem known_ne {v : V} (h : v.known = true) : v ≠ .un := by rintro rfl; cases h
theorem gets_box (s : Sim pc ρ n H w) {t : TypeId} {x : V} {y : Value} (r : VRel ρ x y) {v : V} {n' : Nat} {H' : Heap} (e : (if x.known then evNew n H x.cells else none) = some (v, n', H')) :
    Gets pc P ρ n H w (Instr.box t y) v n' H' := by
  split at e
  · rename_i hk
    cases e
    simpa [Instr.box] using gets_newVar (P := P) s (t := t) (r.cells (known_ne hk))
  · cases e

/-- The block behind a row. -/
theorem Sim.row (s : Sim pc ρ n H w) {id : Nat} {own : Bool} {cs : List V} (h : aget H id = some (.row own cs)) {c d z : Nat} (hρ : ρ id = some (c, d, z)) :
    ∃ arr t fr, w.heap[c]? = some (.cells arr t fr) ∧ arr.size = z ∧ d + cs.length ≤ z ∧ VRelL ρ cs ((arr.toList.drop d).take cs.length) ∧ (own = true → ∀ j, j < z → ¬ (fr.1 ≤ j ∧ j < fr.2)) := by
  obtain ⟨c', d', z', e, arr, t, fr, h1, h2, h3, h4, h5⟩ := s.blk id _ h
  rw [hρ] at e
  cases e
  refine ⟨arr, t, fr, h1, h2, h3, ⟨by simp; omega, fun j x y hx hy => ?_⟩, h5⟩
  obtain ⟨y', hy', r⟩ := h4 j x hx
  rw [List.getElem?_take] at hy
  split at hy
  · rw [List.getElem?_drop] at hy
    simp only [Array.getElem?_toList] at hy
    rw [hy] at hy'
    cases hy'
    exact r
  · cases hy
theorem Sim.ren (s : Sim pc ρ n H w) {id : Nat} {k : Blk} (h : aget H id = some k) : ∃ c d z, ρ id = some (c, d, z) := let ⟨c, d, z, e, _⟩ := s.blk id k h; ⟨c, d, z, e⟩

theorem gets_ld_pure (s : Sim pc ρ n H w) {t : TypeId} {g : Bool} {sz : Nat} (hg : aggL P t = some g) (hs : sizeL P t = some sz) {x : V} {y : Value} (r : VRel ρ x y) {v : V} {n' : Nat} {H' : Heap}
    (e : evLd n H g sz x = some (v, n', H')) : ∃ y' w' ρ', (Instr.loadAt t y).run P w = .ok y' w' ∧ VRel ρ' v y' ∧ w' = w ∧ ρ' = ρ := by
  unfold evLd at e
  split at e
  · rename_i id off
    split at e
    · rename_i own cs hb
      cases r with
      | @p _ _ c d z o hρ ho =>
      obtain ⟨arr, ty, fr, h1, h2, h3, h4, _⟩ := s.row hb hρ
      split at e
      · rename_i hgt
        subst hgt
        split at e
        · rename_i hlen
          cases e
          refine ⟨.agg (arr.extract o (o + sz)), w, ρ, ?_, ?_, rfl, rfl⟩
          · simp [Instr.loadAt, Instr.sureAddr, loadVar, run_aggL hg, run_sizeL hs, run_loadCells_at h1 (show o + sz ≤ arr.size by omega)]
          · apply VRelL.to_ag
            have := (h4.drop off).take sz
            rw [List.drop_take, List.take_take, List.drop_drop] at this
            rw [Array.toList_extract, List.extract_eq_take_drop, ho]
            rw [Nat.min_eq_left (by omega)] at this
            rw [show d + off + sz - (d + off) = sz by omega]
            exact this
        · cases e
      · rename_i hgf
        split at e
        · rename_i v' hv
          cases e
          obtain ⟨yv, hy, hr⟩ := h4.get hv
          rw [List.getElem?_take] at hy
          split at hy
          · rw [List.getElem?_drop] at hy
            refine ⟨yv, w, ρ, ?_, hr, rfl, rfl⟩
            have hg' : g = false := by simpa using hgf
            subst hg'
            simp only [Instr.loadAt, Instr.sureAddr, loadVar, Sem.run_bind, Sem.run_pure, Result.andThen_ok, run_aggL hg]
            exact run_load_at h1 (by rw [ho]; simpa using hy)
          · cases hy
        · cases e
    · cases e
  · cases e
theorem gets_ld (s : Sim pc ρ n H w) {t : TypeId} {g : Bool} {sz : Nat} (hg : aggL P t = some g) (hs : sizeL P t = some sz) {x : V} {y : Value} (r : VRel ρ x y) {v : V} {n' : Nat} {H' : Heap}
    (e : evLd n H g sz x = some (v, n', H')) : Gets pc P ρ n H w (Instr.loadAt t y) v n' H' := by
  obtain ⟨y', w', ρ', h1, h2, rfl, rfl⟩ := gets_ld_pure s hg hs r e
  have hsame : n' = n ∧ H' = H := by
    unfold evLd at e
    split at e
    · split at e
      · split at e
        · split at e
          · cases e; exact ⟨rfl, rfl⟩
          · cases e
        · split at e
          · cases e; exact ⟨rfl, rfl⟩
          · cases e
      · cases e
    · cases e
  obtain ⟨rfl, rfl⟩ := hsame
  exact .pure s h1 h2
end ops
end Go.Proofs.Ytpgelghkjiejlaa
