/- Loads, stores and new rows of the model, as lists of cells. -/
import Derived.Test.YtpgelghkjiejlaaSmB
set_option linter.unusedVariables false
set_option linter.unusedSimpArgs false
namespace Go.Proofs.Ytpgelghkjiejlaa
open Go

/-- Cells from one place on written over. -/
def setAll {α : Type} (cs : List α) (off : Nat) (vs : List α) : List α := cs.take off ++ (vs ++ cs.drop (off + vs.length))
theorem setAll_nil {α : Type} (cs : List α) (off : Nat) : setAll cs off [] = cs := by simp [setAll]
theorem setAll_length {α : Type} (cs : List α) (off : Nat) (vs : List α) (h : off + vs.length ≤ cs.length) : (setAll cs off vs).length = cs.length := by
  simp [setAll]; omega
theorem setAll_get {α : Type} (cs : List α) (off : Nat) (vs : List α) (h : off + vs.length ≤ cs.length) (j : Nat) :
    (setAll cs off vs)[j]? = if j < off then cs[j]? else if j < off + vs.length then vs[j - off]? else cs[j]? := by
  unfold setAll
  split
  · rename_i hj
    rw [List.getElem?_append_left (by simp; omega), List.getElem?_take, if_pos hj]
  · rename_i hj
    rw [List.getElem?_append_right (by simp; omega)]
    simp only [List.length_take]
    rw [Nat.min_eq_left (by omega)]
    split
    · rw [List.getElem?_append_left (by omega)]
    · rw [List.getElem?_append_right (by omega), List.getElem?_drop]
      congr 1
      omega
theorem setAll_cons {α : Type} (cs : List α) (off : Nat) (v : α) (vs : List α) (h : off + (vs.length + 1) ≤ cs.length) : setAll (cs.set off v) (off + 1) vs = setAll cs off (v :: vs) := by
  apply List.ext_getElem?
  intro j
  rw [setAll_get _ _ _ (by simp; omega), setAll_get _ _ _ (by simp; omega)]
  simp only [List.length_cons]
  by_cases h1 : j < off
  · rw [if_pos (by omega), if_pos h1, List.getElem?_set, if_neg (by omega)]
  · rw [if_neg h1]
    by_cases h2 : j = off
    · subst h2
      rw [if_pos (by omega), if_pos (by omega), List.getElem?_set]
      simp; omega
    · rw [if_neg (by omega)]
      by_cases h3 : j < off + 1 + vs.length
      · rw [if_pos h3, if_pos (by omega)]
        obtain ⟨i, rfl⟩ : ∃ i, j = off + 1 + i := ⟨j - off - 1, by omega⟩
        rw [show off + 1 + i - (off + 1) = i by omega, show off + 1 + i - off = i + 1 by omega]
        rfl
      · rw [if_neg h3, if_neg (by omega), List.getElem?_set, if_neg (by omega)]

/-- A block of the heap laid anew. -/
def setBlk (w : World) (c : Nat) (o : Obj) : World := { w with heap := w.heap.setIfInBounds c o }
@[simp] theorem setBlk_size (w : World) (c : Nat) (o : Obj) : (setBlk w c o).heap.size = w.heap.size := by simp [setBlk]
theorem setBlk_get (w : World) (c : Nat) (o : Obj) (e : Nat) (hc : c < w.heap.size) : (setBlk w c o).heap[e]? = if c = e then some o else w.heap[e]? := by
  unfold setBlk
  by_cases h : c = e
  · subst h; simp [hc]
  · simp [h, Array.getElem?_setIfInBounds_ne]
theorem lt_of_get {w : World} {c : Nat} {o : Obj} (h : w.heap[c]? = some o) : c < w.heap.size := (Array.getElem?_eq_some_iff.1 h).1
theorem setBlk_setBlk (w : World) (c : Nat) (o o' : Obj) : setBlk (setBlk w c o) c o' = setBlk w c o' := by
  simp [setBlk]
theorem setBlk_same (w : World) (c : Nat) (o : Obj) (h : w.heap[c]? = some o) : setBlk w c o = w := by
  unfold setBlk
  have hc := lt_of_get h
  have : w.heap.setIfInBounds c o = w.heap := by
    apply Array.ext_getElem?
    intro j
    by_cases hj : c = j
    · subst hj; rw [Array.getElem?_setIfInBounds_self_of_lt hc, h]
    · rw [Array.getElem?_setIfInBounds_ne hj]
  rw [this]

theorem add_off (c o n : Nat) : (⟨c, o, none⟩ : Addr).add n = ⟨c, o + n, none⟩ := by
  unfold Addr.add
  split
  · subst_vars; rfl
  · rfl

theorem run_load_at {P : Program} {w : World} {c o : Nat} {arr : Array Value} {t : TypeId} {fr : Nat × Nat} (h : w.heap[c]? = some (.cells arr t fr)) {v : Value} (hv : arr[o]? = some v) :
    (load ⟨c, o, none⟩).run P w = .ok v w := by
  have : w.cell? ⟨c, o, none⟩ = some v := by simp [World.cell?, h, hv]
  simp [load, Sem.run, this]
theorem run_loadCellsFrom_at {P : Program} {w : World} {c o : Nat} {arr : Array Value} {t : TypeId} {fr : Nat × Nat} (h : w.heap[c]? = some (.cells arr t fr)) :
    ∀ (n i : Nat) (acc : Array Value), o + i + n ≤ arr.size → (loadCellsFrom ⟨c, o, none⟩ i n acc).run P w = .ok (acc ++ arr.extract (o + i) (o + i + n)) w := by
  intro n
  induction n with
  | zero => intro i acc _; simp [loadCellsFrom, pure]; omega
  | succ n ih =>
    intro i acc hb
    have hlt : o + i < arr.size := by omega
    have h1 : (load ((⟨c, o, none⟩ : Addr).add i)).run P w = .ok arr[o + i] w := by
      rw [add_off]; exact run_load_at h (by simp [hlt])
    simp only [loadCellsFrom, Sem.run_bind, h1, Result.andThen_ok]
    rw [ih (i + 1) _ (by omega)]
    congr 1
    apply Array.ext'
    simp only [Array.toList_append, Array.toList_push, Array.toList_extract, List.append_assoc, List.extract_eq_take_drop, List.singleton_append]
    congr 1
    have e : o + i + (n + 1) - (o + i) = n + 1 := by omega
    have e' : o + (i + 1) + n - (o + (i + 1)) = n := by omega
    rw [e, e', ← Nat.add_assoc o i 1, List.drop_eq_getElem_cons (i := o + i) (by simpa using hlt), List.take_succ_cons, Array.getElem_toList]
theorem run_loadCells_at {P : Program} {w : World} {c o n : Nat} {arr : Array Value} {t : TypeId} {fr : Nat × Nat} (h : w.heap[c]? = some (.cells arr t fr)) (hb : o + n ≤ arr.size) :
    (loadCells ⟨c, o, none⟩ n).run P w = .ok (arr.extract o (o + n)) w := by
  unfold loadCells
  rw [run_loadCellsFrom_at h n 0 #[] (by omega)]
  simp

def flat : Value → Bool
  | .agg _ | .tuple _ => false
  | _ => true
theorem run_store_at {P : Program} {w : World} {c o : Nat} {arr : Array Value} {t : TypeId} {fr : Nat × Nat} (h : w.heap[c]? = some (.cells arr t fr)) (ho : o < arr.size) (hf : ¬ (fr.1 ≤ o ∧ o < fr.2)) (v : Value) (hv : flat v = true) :
    (store ⟨c, o, none⟩ v).run P w = .ok () (setBlk w c (.cells (arr.setIfInBounds o v) t fr)) := by
  have hc : w.cell? ⟨c, o, none⟩ = some arr[o] := by simp [World.cell?, h, ho]
  have hfz : w.frozen? ⟨c, o, none⟩ = false := by
    obtain ⟨lo, hi⟩ := fr
    simp only [World.frozen?, h]
    simp only at hf
    simp
    intro h1
    omega
  have hset : w.setCell ⟨c, o, none⟩ v = setBlk w c (.cells (arr.setIfInBounds o v) t fr) := by
    unfold World.setCell setBlk
    congr 1
    apply Array.ext_getElem?
    intro j
    have hlt := lt_of_get h
    rw [Array.getElem?_modify]
    by_cases hj : c = j
    · subst hj
      rw [if_pos rfl, h, Array.getElem?_setIfInBounds_self_of_lt hlt]
      rfl
    · rw [if_neg hj, Array.getElem?_setIfInBounds_ne hj]
  cases v <;> first | (simp [flat] at hv; done) | (simp [store, Sem.run, hc, hfz, hset])
theorem run_storeCells_at {P : Program} {t : TypeId} {fr : Nat × Nat} {c o : Nat} :
    ∀ (vs : List Value) (i : Nat) (w : World) (arr : Array Value), w.heap[c]? = some (.cells arr t fr) → o + i + vs.length ≤ arr.size → (∀ j, j < arr.size → ¬ (fr.1 ≤ j ∧ j < fr.2)) → (∀ v ∈ vs, flat v = true) →
      (storeCells ⟨c, o, none⟩ vs i).run P w = .ok () (setBlk w c (.cells (setAll arr.toList (o + i) vs).toArray t fr)) := by
  intro vs
  induction vs with
  | nil =>
    intro i w arr h _ _ _
    simp only [storeCells, setAll_nil, Array.toArray_toList]
    rw [setBlk_same _ _ _ h]
    rfl
  | cons v vs ih =>
    intro i w arr h hb hf hv
    simp only [List.length_cons] at hb
    have h1 := run_store_at (P := P) h (show o + i < arr.size by omega) (hf _ (by omega)) v (hv v (by simp))
    simp only [storeCells, Sem.run_bind, add_off, h1, Result.andThen_ok]
    rw [ih (i + 1) _ (arr.setIfInBounds (o + i) v) (by rw [setBlk_get _ _ _ _ (lt_of_get h), if_pos rfl]) (by simp; omega) (by simpa using hf) (fun v hm => hv v (by simp [hm]))]
    rw [setBlk_setBlk]
    congr 4
    rw [Array.toList_setIfInBounds, ← Nat.add_assoc]
    exact setAll_cons _ _ _ _ (by simp; omega)
end Go.Proofs.Ytpgelghkjiejlaa
