/- Abstract values, an abstract heap, and how they stand for a world: the ground of the walks of these claims. -/
import Derived.CallsIn
import Derived.RangeFuncIn
import Derived.WalkKit
set_option linter.unusedVariables false
set_option linter.unusedSimpArgs false
namespace Go.Proofs.Ytpgelghkjiejlaa
open Go

/-- An abstract value: ids stand for blocks; capacities are not told, but whether a slice is full. -/
inductive V where
  | un
  | b (x : Bool)
  | i (k : IntKind) (n : Int)
  | s (x : List UInt8)
  | nilp
  | p (id off : Nat)
  | nils
  | sl (id off sz len : Nat) (full : Bool)
  | nilf
  | fn (f : FuncId) (first caps : List V)
  | yl (id : Nat)
  | nili
  | ifc (t : TypeId) (x : V)
  | ag (xs : List V)
  | tu (xs : List V)
  deriving Inhabited

def V.cells : V → List V
  | .ag xs => xs
  | v => [v]

/-- Which concrete block an id stands for, from which cell on, and how many cells that block has. -/
abbrev Ren := Nat → Option (Nat × Nat × Nat)

inductive VRel (ρ : Ren) : V → Value → Prop
  | un (v : Value) : VRel ρ .un v
  | b (x : Bool) : VRel ρ (.b x) (.bool x)
  | i (k : IntKind) (n : Int) : VRel ρ (.i k n) (.int k n)
  | s {l : List UInt8} {x : ByteArray} (h : x.data.toList = l) : VRel ρ (.s l) (.string x)
  | nilp : VRel ρ .nilp (.pointer none)
  | p {id off c d z o : Nat} (h : ρ id = some (c, d, z)) (ho : o = d + off) : VRel ρ (.p id off) (.pointer (some ⟨c, o, none⟩))
  | nils : VRel ρ .nils (.slice none 0 0)
  | sl {id off sz len : Nat} {full : Bool} {c d z o k : Nat} (h : ρ id = some (c, d, z)) (hk : len ≤ k) (hf : full = true → k = len)
      (ho : k ≠ 0 → o = d + off ∧ o + k * sz ≤ z) : VRel ρ (.sl id off sz len full) (.slice (some ⟨c, o, none⟩) len k)
  | nilf : VRel ρ .nilf .nilFunc
  | fn {f : FuncId} {xs us : List V} {ys vs : Array Value} (hl : xs.length = ys.size) (h : ∀ (j : Nat) x y, xs[j]? = some x → ys[j]? = some y → VRel ρ x y)
      (hl' : us.length = vs.size) (h' : ∀ (j : Nat) x y, us[j]? = some x → vs[j]? = some y → VRel ρ x y) : VRel ρ (.fn f xs us) (.func (.func f) ys vs)
  | yl {id c d z : Nat} (h : ρ id = some (c, d, z)) : VRel ρ (.yl id) (.func (.yield c) #[] #[])
  | nili : VRel ρ .nili .nilIface
  | ifc {t : TypeId} {x : V} {y : Value} (h : VRel ρ x y) : VRel ρ (.ifc t x) (.iface t y)
  | ag {xs : List V} {ys : Array Value} (hl : xs.length = ys.size) (h : ∀ (j : Nat) x y, xs[j]? = some x → ys[j]? = some y → VRel ρ x y) : VRel ρ (.ag xs) (.agg ys)
  | tu {xs : List V} {ys : Array Value} (hl : xs.length = ys.size) (h : ∀ (j : Nat) x y, xs[j]? = some x → ys[j]? = some y → VRel ρ x y) : VRel ρ (.tu xs) (.tuple ys)

/-- A value whose ids are all below n. -/
inductive VIn (n : Nat) : V → Prop
  | un : VIn n .un
  | b (x : Bool) : VIn n (.b x)
  | i (k : IntKind) (m : Int) : VIn n (.i k m)
  | s (l : List UInt8) : VIn n (.s l)
  | nilp : VIn n .nilp
  | p {id off : Nat} (h : id < n) : VIn n (.p id off)
  | nils : VIn n .nils
  | sl {id off sz len : Nat} {full : Bool} (h : id < n) : VIn n (.sl id off sz len full)
  | nilf : VIn n .nilf
  | fn {f : FuncId} {xs us : List V} (h : ∀ x ∈ xs, VIn n x) (h' : ∀ x ∈ us, VIn n x) : VIn n (.fn f xs us)
  | yl {id : Nat} (h : id < n) : VIn n (.yl id)
  | nili : VIn n .nili
  | ifc {t : TypeId} {x : V} (h : VIn n x) : VIn n (.ifc t x)
  | ag {xs : List V} (h : ∀ x ∈ xs, VIn n x) : VIn n (.ag xs)
  | tu {xs : List V} (h : ∀ x ∈ xs, VIn n x) : VIn n (.tu xs)

def Ren.le (ρ ρ' : Ren) : Prop := ∀ b x, ρ b = some x → ρ' b = some x
theorem Ren.le.refl (ρ : Ren) : ρ.le ρ := fun _ _ h => h
theorem Ren.le.trans {ρ ρ' ρ'' : Ren} (h : ρ.le ρ') (h' : ρ'.le ρ'') : ρ.le ρ'' := fun b x hb => h' b x (h b x hb)
def Ren.cut (ρ : Ren) (n : Nat) : Ren := fun b => if b < n then ρ b else none
def Ren.put (ρ : Ren) (n : Nat) (x : Nat × Nat × Nat) : Ren := fun b => if b = n then some x else ρ b
theorem Ren.le_put {ρ : Ren} {n : Nat} {x : Nat × Nat × Nat} (h : ρ n = none) : ρ.le (ρ.put n x) := by
  intro b y hb
  unfold Ren.put
  split
  · subst_vars; rw [h] at hb; cases hb
  · exact hb

theorem VRel.mono {ρ ρ' : Ren} (h : ρ.le ρ') {x : V} {y : Value} (r : VRel ρ x y) : VRel ρ' x y := by
  induction r with
  | un v => exact .un v
  | b x => exact .b x
  | i k n => exact .i k n
  | s e => exact .s e
  | nilp => exact .nilp
  | p e ho => exact .p (h _ _ e) ho
  | nils => exact .nils
  | sl e hk hf ho => exact .sl (h _ _ e) hk hf ho
  | nilf => exact .nilf
  | fn hl _ hl' _ ih ih' => exact .fn hl ih hl' ih'
  | yl e => exact .yl (h _ _ e)
  | nili => exact .nili
  | ifc _ ih => exact .ifc ih
  | ag hl _ ih => exact .ag hl ih
  | tu hl _ ih => exact .tu hl ih

theorem VRel.cut {ρ : Ren} {n : Nat} {x : V} {y : Value} (r : VRel ρ x y) (hin : VIn n x) : VRel (ρ.cut n) x y := by
  have hc : ∀ id c, ρ id = some c → id < n → ρ.cut n id = some c := fun id c e hlt => by simp [Ren.cut, hlt, e]
  induction r with
  | un v => exact .un v
  | b x => exact .b x
  | i k n => exact .i k n
  | s e => exact .s e
  | nilp => exact .nilp
  | p e ho => cases hin with | p hi => exact .p (hc _ _ e hi) ho
  | nils => exact .nils
  | sl e hk hf ho => cases hin with | sl hi => exact .sl (hc _ _ e hi) hk hf ho
  | nilf => exact .nilf
  | fn hl _ hl' _ ih ih' =>
    cases hin with
    | fn h1 h2 => exact .fn hl (fun j x y hx hy => ih j x y hx hy (h1 x (List.mem_of_getElem? hx))) hl' (fun j x y hx hy => ih' j x y hx hy (h2 x (List.mem_of_getElem? hx)))
  | yl e => cases hin with | yl hi => exact .yl (hc _ _ e hi)
  | nili => exact .nili
  | ifc _ ih => cases hin with | ifc h1 => exact .ifc (ih h1)
  | ag hl _ ih => cases hin with | ag h1 => exact .ag hl (fun j x y hx hy => ih j x y hx hy (h1 x (List.mem_of_getElem? hx)))
  | tu hl _ ih => cases hin with | tu h1 => exact .tu hl (fun j x y hx hy => ih j x y hx hy (h1 x (List.mem_of_getElem? hx)))

section vin
variable {n : Nat}
@[simp] theorem VIn_un : VIn n .un := .un
@[simp] theorem VIn_b {x : Bool} : VIn n (.b x) := .b x
@[simp] theorem VIn_i {k : IntKind} {m : Int} : VIn n (.i k m) := .i k m
@[simp] theorem VIn_s {l : List UInt8} : VIn n (.s l) := .s l
@[simp] theorem VIn_nilp : VIn n .nilp := .nilp
@[simp] theorem VIn_p {id off : Nat} : VIn n (.p id off) ↔ id < n := ⟨fun h => by cases h; assumption, .p⟩
@[simp] theorem VIn_nils : VIn n .nils := .nils
@[simp] theorem VIn_sl {id off sz len : Nat} {full : Bool} : VIn n (.sl id off sz len full) ↔ id < n := ⟨fun h => by cases h; assumption, .sl⟩
@[simp] theorem VIn_nilf : VIn n .nilf := .nilf
@[simp] theorem VIn_fn {f : FuncId} {xs us : List V} : VIn n (.fn f xs us) ↔ (∀ x ∈ xs, VIn n x) ∧ (∀ x ∈ us, VIn n x) := ⟨fun h => by cases h; exact ⟨by assumption, by assumption⟩, fun h => .fn h.1 h.2⟩
@[simp] theorem VIn_yl {id : Nat} : VIn n (.yl id) ↔ id < n := ⟨fun h => by cases h; assumption, .yl⟩
@[simp] theorem VIn_nili : VIn n .nili := .nili
@[simp] theorem VIn_ifc {t : TypeId} {x : V} : VIn n (.ifc t x) ↔ VIn n x := ⟨fun h => by cases h; assumption, .ifc⟩
@[simp] theorem VIn_ag {xs : List V} : VIn n (.ag xs) ↔ ∀ x ∈ xs, VIn n x := ⟨fun h => by cases h; assumption, .ag⟩
@[simp] theorem VIn_tu {xs : List V} : VIn n (.tu xs) ↔ ∀ x ∈ xs, VIn n x := ⟨fun h => by cases h; assumption, .tu⟩
end vin

/-- Lists of values, place by place. -/
def VRelL (ρ : Ren) (xs : List V) (ys : List Value) : Prop :=
  xs.length = ys.length ∧ ∀ (j : Nat) x y, xs[j]? = some x → ys[j]? = some y → VRel ρ x y
namespace VRelL
variable {ρ : Ren}
theorem mono {ρ' : Ren} (h : ρ.le ρ') {xs : List V} {ys : List Value} (r : VRelL ρ xs ys) : VRelL ρ' xs ys := ⟨r.1, fun j x y hx hy => (r.2 j x y hx hy).mono h⟩
theorem nil : VRelL ρ [] [] := ⟨rfl, fun j x y hx => by simp at hx⟩
theorem cons {x : V} {y : Value} {xs : List V} {ys : List Value} (h : VRel ρ x y) (t : VRelL ρ xs ys) : VRelL ρ (x :: xs) (y :: ys) :=
  ⟨by simp [t.1], fun j a b ha hb => by
    cases j with
    | zero => simp at ha hb; subst ha; subst hb; exact h
    | succ j => simp at ha hb; exact t.2 j a b ha hb⟩
theorem nil_inv {ys : List Value} (h : VRelL ρ [] ys) : ys = [] := List.eq_nil_of_length_eq_zero h.1.symm
theorem cons_inv {x : V} {xs : List V} {ys : List Value} (h : VRelL ρ (x :: xs) ys) : ∃ y ys', ys = y :: ys' ∧ VRel ρ x y ∧ VRelL ρ xs ys' := by
  cases ys with
  | nil => have := h.1; simp at this
  | cons y ys' =>
    refine ⟨y, ys', rfl, h.2 0 x y rfl rfl, by have := h.1; simpa using this, fun j a b ha hb => h.2 (j + 1) a b (by simpa using ha) (by simpa using hb)⟩
theorem one {x : V} {y : Value} (h : VRel ρ x y) : VRelL ρ [x] [y] := cons h nil
theorem append {xs xs' : List V} {ys ys' : List Value} (h : VRelL ρ xs ys) (h' : VRelL ρ xs' ys') : VRelL ρ (xs ++ xs') (ys ++ ys') := by
  refine ⟨by simp [h.1, h'.1], fun j a b ha hb => ?_⟩
  rcases Nat.lt_or_ge j xs.length with hj | hj
  · rw [List.getElem?_append_left hj] at ha
    rw [List.getElem?_append_left (h.1 ▸ hj)] at hb
    exact h.2 j a b ha hb
  · rw [List.getElem?_append_right hj] at ha
    rw [List.getElem?_append_right (h.1 ▸ hj)] at hb
    exact h'.2 _ a b ha (h.1 ▸ hb)
theorem drop {xs : List V} {ys : List Value} (h : VRelL ρ xs ys) (k : Nat) : VRelL ρ (xs.drop k) (ys.drop k) :=
  ⟨by simp [h.1], fun j a b ha hb => h.2 (k + j) a b (by simpa using ha) (by simpa using hb)⟩
theorem take {xs : List V} {ys : List Value} (h : VRelL ρ xs ys) (k : Nat) : VRelL ρ (xs.take k) (ys.take k) :=
  ⟨by simp [h.1], fun j a b ha hb => by
    rw [List.getElem?_take] at ha hb
    split at ha
    · simp_all; exact h.2 j a b ha hb
    · cases ha⟩
theorem set {xs : List V} {ys : List Value} (h : VRelL ρ xs ys) (k : Nat) {x : V} {y : Value} (r : VRel ρ x y) : VRelL ρ (xs.set k x) (ys.set k y) :=
  ⟨by simp [h.1], fun j a b ha hb => by
    rw [List.getElem?_set] at ha hb
    by_cases hk : k = j
    · subst hk
      simp only [if_true] at ha hb
      split at ha
      · split at hb
        · cases ha; cases hb; exact r
        · cases hb
      · cases ha
    · simp only [hk, if_false] at ha hb
      exact h.2 j a b ha hb⟩
theorem get {xs : List V} {ys : List Value} (h : VRelL ρ xs ys) {j : Nat} {x : V} (hx : xs[j]? = some x) : ∃ y, ys[j]? = some y ∧ VRel ρ x y := by
  have hj : j < xs.length := by
    rcases Nat.lt_or_ge j xs.length with hj | hj
    · exact hj
    · rw [List.getElem?_eq_none hj] at hx; cases hx
  have hj' : j < ys.length := h.1 ▸ hj
  exact ⟨ys[j], by simp [hj'], h.2 j x _ hx (by simp [hj'])⟩
theorem of_array {xs : List V} {ys : Array Value} (hl : xs.length = ys.size) (h : ∀ (j : Nat) x y, xs[j]? = some x → ys[j]? = some y → VRel ρ x y) : VRelL ρ xs ys.toList :=
  ⟨by simp [hl], fun j a b ha hb => h j a b ha (by simpa using hb)⟩
theorem to_ag {xs : List V} {ys : Array Value} (h : VRelL ρ xs ys.toList) : VRel ρ (.ag xs) (.agg ys) := .ag (by simpa using h.1) fun j a b ha hb => h.2 j a b ha (by simpa using hb)
theorem to_tu {xs : List V} {ys : Array Value} (h : VRelL ρ xs ys.toList) : VRel ρ (.tu xs) (.tuple ys) := .tu (by simpa using h.1) fun j a b ha hb => h.2 j a b ha (by simpa using hb)
theorem of_ag {xs : List V} {y : Value} (h : VRel ρ (.ag xs) y) : ∃ ys, y = .agg ys ∧ VRelL ρ xs ys.toList := by
  cases h with | ag hl h => exact ⟨_, rfl, of_array hl h⟩
theorem replicate {x : V} {y : Value} (r : VRel ρ x y) (k : Nat) : VRelL ρ (List.replicate k x) (List.replicate k y) :=
  ⟨by simp, fun j a b ha hb => by
    rw [List.getElem?_replicate] at ha hb
    split at ha
    · simp_all
    · cases ha⟩
theorem cut {n : Nat} {xs : List V} {ys : List Value} (h : VRelL ρ xs ys) (hin : ∀ x ∈ xs, VIn n x) : VRelL (ρ.cut n) xs ys :=
  ⟨h.1, fun j x y hx hy => (h.2 j x y hx hy).cut (hin x (List.mem_of_getElem? hx))⟩
end VRelL
theorem VRel.cells {ρ : Ren} {x : V} {y : Value} (hu : x ≠ .un) (h : VRel ρ x y) : VRelL ρ x.cells y.cells.toList := by
  cases h with
  | ag hl h => exact .of_array hl h
  | un => exact absurd rfl hu
  | b x => exact .one (.b x)
  | i k n => exact .one (.i k n)
  | s e => exact .one (.s e)
  | nilp => exact .one .nilp
  | p e ho => exact .one (.p e ho)
  | nils => exact .one .nils
  | sl e hk hf ho => exact .one (.sl e hk hf ho)
  | nilf => exact .one .nilf
  | fn hl h1 hl' h2 => exact .one (.fn hl h1 hl' h2)
  | yl e => exact .one (.yl e)
  | nili => exact .one .nili
  | ifc h => exact .one (.ifc h)
  | tu hl h => exact .one (.tu hl h)

/-! ### Lists with keys -/
def aget {α : Type} : List (Nat × α) → Nat → Option α
  | [], _ => none
  | (i, x) :: t, j => if i = j then some x else aget t j
def aput {α : Type} : List (Nat × α) → Nat → α → List (Nat × α)
  | [], j, y => [(j, y)]
  | (i, x) :: t, j, y => if i = j then (i, y) :: t else (i, x) :: aput t j y
def adel {α : Type} : List (Nat × α) → Nat → List (Nat × α)
  | [], _ => []
  | (i, x) :: t, j => if i = j then adel t j else (i, x) :: adel t j
section akeys
variable {α : Type}
@[simp] theorem aget_nil (j : Nat) : aget ([] : List (Nat × α)) j = none := rfl
theorem aget_cons (i : Nat) (x : α) (t : List (Nat × α)) (j : Nat) : aget ((i, x) :: t) j = if i = j then some x else aget t j := rfl
theorem aget_put (t : List (Nat × α)) (j k : Nat) (y : α) : aget (aput t j y) k = if j = k then some y else aget t k := by
  induction t with
  | nil => simp [aput, aget]
  | cons h t ih =>
    obtain ⟨i, x⟩ := h
    unfold aput
    by_cases hij : i = j
    · subst hij; by_cases hik : i = k <;> simp [aget, hik]
    · simp only [hij, if_false, aget_cons, ih]
      by_cases hik : i = k
      · subst hik; have h2 : ¬ j = i := fun h => hij h.symm
        simp [h2]
      · simp [hik]
theorem aget_del (t : List (Nat × α)) (j k : Nat) : aget (adel t j) k = if j = k then none else aget t k := by
  induction t with
  | nil => simp [adel]
  | cons h t ih =>
    obtain ⟨i, x⟩ := h
    unfold adel
    by_cases hij : i = j
    · subst hij; simp only [if_true, ih, aget_cons]; by_cases hik : i = k <;> simp [hik]
    · simp only [hij, if_false, aget_cons, ih]
      by_cases hik : i = k
      · subst hik; have h2 : ¬ j = i := fun h => hij h.symm
        simp [h2]
      · simp [hik]
end akeys
end Go.Proofs.Ytpgelghkjiejlaa
