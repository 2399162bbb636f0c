/- Abstract values, an abstract heap, and how they stand for a world: the ground of the walks of these claims. The code that a walk goes over (sizes and zeros reckoned out), the abstract heap's blocks, and what it is for a world to bear them. Loads, stores and new rows of the model, as lists of cells. What an operation does to abstract values and the abstract heap; and the preparation of the program's code. New blocks, blocks laid anew, blocks let go, in a world that bears an abstract heap. Each operation's run, over whatever world bears the abstract state. -/
import Derived.CallsIn
import Derived.RangeFuncIn
import Derived.WalkKit
set_option linter.unusedVariables false
set_option linter.unusedSimpArgs false
section
namespace Go.Proofs.Ytpgelghkjiejlaa
open Go

/-- An abstract value: ids stand for blocks; capacities are not told, but whether a slice is full. -/
inductive V where
  | un
  | b (x : Bool)
  | i (k : IntKind) (n : Int)
  | s (x : List UInt8)
  | nilp
  | p (id off : Nat)
  | nils
  | sl (id off sz len : Nat) (full : Bool)
  | nilf
  | fn (f : FuncId) (first caps : List V)
  | yl (id : Nat)
  | nili
  | ifc (t : TypeId) (x : V)
  | ag (xs : List V)
  | tu (xs : List V)
  deriving Inhabited

def V.cells : V → List V
  | .ag xs => xs
  | v => [v]

/-- Which concrete block an id stands for, from which cell on, and how many cells that block has. -/
abbrev Ren := Nat → Option (Nat × Nat × Nat)

inductive VRel (ρ : Ren) : V → Value → Prop
  | un (v : Value) : VRel ρ .un v
  | b (x : Bool) : VRel ρ (.b x) (.bool x)
  | i (k : IntKind) (n : Int) : VRel ρ (.i k n) (.int k n)
  | s {l : List UInt8} {x : ByteArray} (h : x.data.toList = l) : VRel ρ (.s l) (.string x)
  | nilp : VRel ρ .nilp (.pointer none)
  | p {id off c d z o : Nat} (h : ρ id = some (c, d, z)) (ho : o = d + off) : VRel ρ (.p id off) (.pointer (some ⟨c, o, none⟩))
  | nils : VRel ρ .nils (.slice none 0 0)
  | sl {id off sz len : Nat} {full : Bool} {c d z o k : Nat} (h : ρ id = some (c, d, z)) (hk : len ≤ k) (hf : full = true → k = len)
      (ho : k ≠ 0 → o = d + off ∧ o + k * sz ≤ z) : VRel ρ (.sl id off sz len full) (.slice (some ⟨c, o, none⟩) len k)
  | nilf : VRel ρ .nilf .nilFunc
  | fn {f : FuncId} {xs us : List V} {ys vs : Array Value} (hl : xs.length = ys.size) (h : ∀ (j : Nat) x y, xs[j]? = some x → ys[j]? = some y → VRel ρ x y)
      (hl' : us.length = vs.size) (h' : ∀ (j : Nat) x y, us[j]? = some x → vs[j]? = some y → VRel ρ x y) : VRel ρ (.fn f xs us) (.func (.func f) ys vs)
  | yl {id c d z : Nat} (h : ρ id = some (c, d, z)) : VRel ρ (.yl id) (.func (.yield c) #[] #[])
  | nili : VRel ρ .nili .nilIface
  | ifc {t : TypeId} {x : V} {y : Value} (h : VRel ρ x y) : VRel ρ (.ifc t x) (.iface t y)
  | ag {xs : List V} {ys : Array Value} (hl : xs.length = ys.size) (h : ∀ (j : Nat) x y, xs[j]? = some x → ys[j]? = some y → VRel ρ x y) : VRel ρ (.ag xs) (.agg ys)
  | tu {xs : List V} {ys : Array Value} (hl : xs.length = ys.size) (h : ∀ (j : Nat) x y, xs[j]? = some x → ys[j]? = some y → VRel ρ x y) : VRel ρ (.tu xs) (.tuple ys)

/-- A value whose ids are all below n. -/
inductive VIn (n : Nat) : V → Prop
  | un : VIn n .un
  | b (x : Bool) : VIn n (.b x)
  | i (k : IntKind) (m : Int) : VIn n (.i k m)
  | s (l : List UInt8) : VIn n (.s l)
  | nilp : VIn n .nilp
  | p {id off : Nat} (h : id < n) : VIn n (.p id off)
  | nils : VIn n .nils
  | sl {id off sz len : Nat} {full : Bool} (h : id < n) : VIn n (.sl id off sz len full)
  | nilf : VIn n .nilf
  | fn {f : FuncId} {xs us : List V} (h : ∀ x ∈ xs, VIn n x) (h' : ∀ x ∈ us, VIn n x) : VIn n (.fn f xs us)
  | yl {id : Nat} (h : id < n) : VIn n (.yl id)
  | nili : VIn n .nili
  | ifc {t : TypeId} {x : V} (h : VIn n x) : VIn n (.ifc t x)
  | ag {xs : List V} (h : ∀ x ∈ xs, VIn n x) : VIn n (.ag xs)
  | tu {xs : List V} (h : ∀ x ∈ xs, VIn n x) : VIn n (.tu xs)

def Ren.le (ρ ρ' : Ren) : Prop := ∀ b x, ρ b = some x → ρ' b = some x
theorem Ren.le.refl (ρ : Ren) : ρ.le ρ := fun _ _ h => h
theorem Ren.le.trans {ρ ρ' ρ'' : Ren} (h : ρ.le ρ') (h' : ρ'.le ρ'') : ρ.le ρ'' := fun b x hb => h' b x (h b x hb)
def Ren.cut (ρ : Ren) (n : Nat) : Ren := fun b => if b < n then ρ b else none
def Ren.put (ρ : Ren) (n : Nat) (x : Nat × Nat × Nat) : Ren := fun b => if b = n then some x else ρ b
theorem Ren.le_put {ρ : Ren} {n : Nat} {x : Nat × Nat × Nat} (h : ρ n = none) : ρ.le (ρ.put n x) := by
  intro b y hb
  unfold Ren.put
  split
  · subst_vars; rw [h] at hb; cases hb
  · exact hb

theorem VRel.mono {ρ ρ' : Ren} (h : ρ.le ρ') {x : V} {y : Value} (r : VRel ρ x y) : VRel ρ' x y := by
  induction r with
  | un v => exact .un v
  | b x => exact .b x
  | i k n => exact .i k n
  | s e => exact .s e
  | nilp => exact .nilp
  | p e ho => exact .p (h _ _ e) ho
  | nils => exact .nils
  | sl e hk hf ho => exact .sl (h _ _ e) hk hf ho
  | nilf => exact .nilf
  | fn hl _ hl' _ ih ih' => exact .fn hl ih hl' ih'
  | yl e => exact .yl (h _ _ e)
  | nili => exact .nili
  | ifc _ ih => exact .ifc ih
  | ag hl _ ih => exact .ag hl ih
  | tu hl _ ih => exact .tu hl ih

theorem VRel.cut {ρ : Ren} {n : Nat} {x : V} {y : Value} (r : VRel ρ x y) (hin : VIn n x) : VRel (ρ.cut n) x y := by
  have hc : ∀ id c, ρ id = some c → id < n → ρ.cut n id = some c := fun id c e hlt => by simp [Ren.cut, hlt, e]
  induction r with
  | un v => exact .un v
  | b x => exact .b x
  | i k n => exact .i k n
  | s e => exact .s e
  | nilp => exact .nilp
  | p e ho => cases hin with | p hi => exact .p (hc _ _ e hi) ho
  | nils => exact .nils
  | sl e hk hf ho => cases hin with | sl hi => exact .sl (hc _ _ e hi) hk hf ho
  | nilf => exact .nilf
  | fn hl _ hl' _ ih ih' =>
    cases hin with
    | fn h1 h2 => exact .fn hl (fun j x y hx hy => ih j x y hx hy (h1 x (List.mem_of_getElem? hx))) hl' (fun j x y hx hy => ih' j x y hx hy (h2 x (List.mem_of_getElem? hx)))
  | yl e => cases hin with | yl hi => exact .yl (hc _ _ e hi)
  | nili => exact .nili
  | ifc _ ih => cases hin with | ifc h1 => exact .ifc (ih h1)
  | ag hl _ ih => cases hin with | ag h1 => exact .ag hl (fun j x y hx hy => ih j x y hx hy (h1 x (List.mem_of_getElem? hx)))
  | tu hl _ ih => cases hin with | tu h1 => exact .tu hl (fun j x y hx hy => ih j x y hx hy (h1 x (List.mem_of_getElem? hx)))

section vin
variable {n : Nat}
@[simp] theorem VIn_un : VIn n .un := .un
@[simp] theorem VIn_b {x : Bool} : VIn n (.b x) := .b x
@[simp] theorem VIn_i {k : IntKind} {m : Int} : VIn n (.i k m) := .i k m
@[simp] theorem VIn_s {l : List UInt8} : VIn n (.s l) := .s l
@[simp] theorem VIn_nilp : VIn n .nilp := .nilp
@[simp] theorem VIn_p {id off : Nat} : VIn n (.p id off) ↔ id < n := ⟨fun h => by cases h; assumption, .p⟩
@[simp] theorem VIn_nils : VIn n .nils := .nils
@[simp] theorem VIn_sl {id off sz len : Nat} {full : Bool} : VIn n (.sl id off sz len full) ↔ id < n := ⟨fun h => by cases h; assumption, .sl⟩
@[simp] theorem VIn_nilf : VIn n .nilf := .nilf
@[simp] theorem VIn_fn {f : FuncId} {xs us : List V} : VIn n (.fn f xs us) ↔ (∀ x ∈ xs, VIn n x) ∧ (∀ x ∈ us, VIn n x) := ⟨fun h => by cases h; exact ⟨by assumption, by assumption⟩, fun h => .fn h.1 h.2⟩
@[simp] theorem VIn_yl {id : Nat} : VIn n (.yl id) ↔ id < n := ⟨fun h => by cases h; assumption, .yl⟩
@[simp] theorem VIn_nili : VIn n .nili := .nili
@[simp] theorem VIn_ifc {t : TypeId} {x : V} : VIn n (.ifc t x) ↔ VIn n x := ⟨fun h => by cases h; assumption, .ifc⟩
@[simp] theorem VIn_ag {xs : List V} : VIn n (.ag xs) ↔ ∀ x ∈ xs, VIn n x := ⟨fun h => by cases h; assumption, .ag⟩
@[simp] theorem VIn_tu {xs : List V} : VIn n (.tu xs) ↔ ∀ x ∈ xs, VIn n x := ⟨fun h => by cases h; assumption, .tu⟩
end vin

/-- Lists of values, place by place. -/
def VRelL (ρ : Ren) (xs : List V) (ys : List Value) : Prop :=
  xs.length = ys.length ∧ ∀ (j : Nat) x y, xs[j]? = some x → ys[j]? = some y → VRel ρ x y
namespace VRelL
variable {ρ : Ren}
theorem mono {ρ' : Ren} (h : ρ.le ρ') {xs : List V} {ys : List Value} (r : VRelL ρ xs ys) : VRelL ρ' xs ys := ⟨r.1, fun j x y hx hy => (r.2 j x y hx hy).mono h⟩
theorem nil : VRelL ρ [] [] := ⟨rfl, fun j x y hx => by simp at hx⟩
theorem cons {x : V} {y : Value} {xs : List V} {ys : List Value} (h : VRel ρ x y) (t : VRelL ρ xs ys) : VRelL ρ (x :: xs) (y :: ys) :=
  ⟨by simp [t.1], fun j a b ha hb => by
    cases j with
    | zero => simp at ha hb; subst ha; subst hb; exact h
    | succ j => simp at ha hb; exact t.2 j a b ha hb⟩
theorem nil_inv {ys : List Value} (h : VRelL ρ [] ys) : ys = [] := List.eq_nil_of_length_eq_zero h.1.symm
theorem cons_inv {x : V} {xs : List V} {ys : List Value} (h : VRelL ρ (x :: xs) ys) : ∃ y ys', ys = y :: ys' ∧ VRel ρ x y ∧ VRelL ρ xs ys' := by
  cases ys with
  | nil => have := h.1; simp at this
  | cons y ys' =>
    refine ⟨y, ys', rfl, h.2 0 x y rfl rfl, by have := h.1; simpa using this, fun j a b ha hb => h.2 (j + 1) a b (by simpa using ha) (by simpa using hb)⟩
theorem one {x : V} {y : Value} (h : VRel ρ x y) : VRelL ρ [x] [y] := cons h nil
theorem append {xs xs' : List V} {ys ys' : List Value} (h : VRelL ρ xs ys) (h' : VRelL ρ xs' ys') : VRelL ρ (xs ++ xs') (ys ++ ys') := by
  refine ⟨by simp [h.1, h'.1], fun j a b ha hb => ?_⟩
  rcases Nat.lt_or_ge j xs.length with hj | hj
  · rw [List.getElem?_append_left hj] at ha
    rw [List.getElem?_append_left (h.1 ▸ hj)] at hb
    exact h.2 j a b ha hb
  · rw [List.getElem?_append_right hj] at ha
    rw [List.getElem?_append_right (h.1 ▸ hj)] at hb
    exact h'.2 _ a b ha (h.1 ▸ hb)
theorem drop {xs : List V} {ys : List Value} (h : VRelL ρ xs ys) (k : Nat) : VRelL ρ (xs.drop k) (ys.drop k) :=
  ⟨by simp [h.1], fun j a b ha hb => h.2 (k + j) a b (by simpa using ha) (by simpa using hb)⟩
theorem take {xs : List V} {ys : List Value} (h : VRelL ρ xs ys) (k : Nat) : VRelL ρ (xs.take k) (ys.take k) :=
  ⟨by simp [h.1], fun j a b ha hb => by
    rw [List.getElem?_take] at ha hb
    split at ha
    · simp_all; exact h.2 j a b ha hb
    · cases ha⟩
theorem set {xs : List V} {ys : List Value} (h : VRelL ρ xs ys) (k : Nat) {x : V} {y : Value} (r : VRel ρ x y) : VRelL ρ (xs.set k x) (ys.set k y) :=
  ⟨by simp [h.1], fun j a b ha hb => by
    rw [List.getElem?_set] at ha hb
    by_cases hk : k = j
    · subst hk
      simp only [if_true] at ha hb
      split at ha
      · split at hb
        · cases ha; cases hb; exact r
        · cases hb
      · cases ha
    · simp only [hk, if_false] at ha hb
      exact h.2 j a b ha hb⟩
theorem get {xs : List V} {ys : List Value} (h : VRelL ρ xs ys) {j : Nat} {x : V} (hx : xs[j]? = some x) : ∃ y, ys[j]? = some y ∧ VRel ρ x y := by
  have hj : j < xs.length := by
    rcases Nat.lt_or_ge j xs.length with hj | hj
    · exact hj
    · rw [List.getElem?_eq_none hj] at hx; cases hx
  have hj' : j < ys.length := h.1 ▸ hj
  exact ⟨ys[j], by simp [hj'], h.2 j x _ hx (by simp [hj'])⟩
theorem of_array {xs : List V} {ys : Array Value} (hl : xs.length = ys.size) (h : ∀ (j : Nat) x y, xs[j]? = some x → ys[j]? = some y → VRel ρ x y) : VRelL ρ xs ys.toList :=
  ⟨by simp [hl], fun j a b ha hb => h j a b ha (by simpa using hb)⟩
theorem to_ag {xs : List V} {ys : Array Value} (h : VRelL ρ xs ys.toList) : VRel ρ (.ag xs) (.agg ys) := .ag (by simpa using h.1) fun j a b ha hb => h.2 j a b ha (by simpa using hb)
theorem to_tu {xs : List V} {ys : Array Value} (h : VRelL ρ xs ys.toList) : VRel ρ (.tu xs) (.tuple ys) := .tu (by simpa using h.1) fun j a b ha hb => h.2 j a b ha (by simpa using hb)
theorem of_ag {xs : List V} {y : Value} (h : VRel ρ (.ag xs) y) : ∃ ys, y = .agg ys ∧ VRelL ρ xs ys.toList := by
  cases h with | ag hl h => exact ⟨_, rfl, of_array hl h⟩
theorem replicate {x : V} {y : Value} (r : VRel ρ x y) (k : Nat) : VRelL ρ (List.replicate k x) (List.replicate k y) :=
  ⟨by simp, fun j a b ha hb => by
    rw [List.getElem?_replicate] at ha hb
    split at ha
    · simp_all
    · cases ha⟩
theorem cut {n : Nat} {xs : List V} {ys : List Value} (h : VRelL ρ xs ys) (hin : ∀ x ∈ xs, VIn n x) : VRelL (ρ.cut n) xs ys :=
  ⟨h.1, fun j x y hx hy => (h.2 j x y hx hy).cut (hin x (List.mem_of_getElem? hx))⟩
end VRelL
theorem VRel.cells {ρ : Ren} {x : V} {y : Value} (hu : x ≠ .un) (h : VRel ρ x y) : VRelL ρ x.cells y.cells.toList := by
  cases h with
  | ag hl h => exact .of_array hl h
  | un => exact absurd rfl hu
  | b x => exact .one (.b x)
  | i k n => exact .one (.i k n)
  | s e => exact .one (.s e)
  | nilp => exact .one .nilp
  | p e ho => exact .one (.p e ho)
  | nils => exact .one .nils
  | sl e hk hf ho => exact .one (.sl e hk hf ho)
  | nilf => exact .one .nilf
  | fn hl h1 hl' h2 => exact .one (.fn hl h1 hl' h2)
  | yl e => exact .one (.yl e)
  | nili => exact .one .nili
  | ifc h => exact .one (.ifc h)
  | tu hl h => exact .one (.tu hl h)

/-! ### Lists with keys -/
def aget {α : Type} : List (Nat × α) → Nat → Option α
  | [], _ => none
  | (i, x) :: t, j => if i = j then some x else aget t j
def aput {α : Type} : List (Nat × α) → Nat → α → List (Nat × α)
  | [], j, y => [(j, y)]
  | (i, x) :: t, j, y => if i = j then (i, y) :: t else (i, x) :: aput t j y
def adel {α : Type} : List (Nat × α) → Nat → List (Nat × α)
  | [], _ => []
  | (i, x) :: t, j => if i = j then adel t j else (i, x) :: adel t j
section akeys
variable {α : Type}
@[simp] theorem aget_nil (j : Nat) : aget ([] : List (Nat × α)) j = none := rfl
theorem aget_cons (i : Nat) (x : α) (t : List (Nat × α)) (j : Nat) : aget ((i, x) :: t) j = if i = j then some x else aget t j := rfl
theorem aget_put (t : List (Nat × α)) (j k : Nat) (y : α) : aget (aput t j y) k = if j = k then some y else aget t k := by
  induction t with
  | nil => simp [aput, aget]
  | cons h t ih =>
    obtain ⟨i, x⟩ := h
    unfold aput
    by_cases hij : i = j
    · subst hij; by_cases hik : i = k <;> simp [aget, hik]
    · simp only [hij, if_false, aget_cons, ih]
      by_cases hik : i = k
      · subst hik; have h2 : ¬ j = i := fun h => hij h.symm
        simp [h2]
      · simp [hik]
theorem aget_del (t : List (Nat × α)) (j k : Nat) : aget (adel t j) k = if j = k then none else aget t k := by
  induction t with
  | nil => simp [adel]
  | cons h t ih =>
    obtain ⟨i, x⟩ := h
    unfold adel
    by_cases hij : i = j
    · subst hij; simp only [if_true, ih, aget_cons]; by_cases hik : i = k <;> simp [hik]
    · simp only [hij, if_false, aget_cons, ih]
      by_cases hik : i = k
      · subst hik; have h2 : ¬ j = i := fun h => hij h.symm
        simp [h2]
      · simp [hik]
end akeys
end Go.Proofs.Ytpgelghkjiejlaa
end
section
namespace Go.Proofs.Ytpgelghkjiejlaa
open Go

inductive AX where
  | t (i : Nat)
  | c (v : V)
  | f (g : FuncId)
  deriving Inhabited

inductive AOp where
  | mv (x : AX)
  | pick (c a b : AX)
  | new (z : List V)
  | box (x : AX)
  | build (z : List V) (ps : List (Nat × Nat × AX))
  | lit (sz len : Nat) (z : List V) (ps : List (Nat × AX))
  | ld (agg : Bool) (n : Nat) (a : AX)
  | st (n : Nat) (a x : AX)
  | bin (op : BinOp) (x y : AX)
  | eqs (neg : Bool) (ks : List Nat) (x y : AX)
  | eq1 (neg : Bool) (k : Nat) (x y : AX)
  | un (op : UnOp) (x : AX)
  | conv (k : IntKind) (x : AX)
  | mkf (g : FuncId) (first caps : List AX)
  | mks (sz bytes : Nat) (z : List V) (len cap : AX)
  | sls (sz : Nat) (x : AX) (lo hi mx : Option AX)
  | sla (n sz : Nat) (x : AX) (lo hi mx : Option AX)
  | sstr (x : AX) (lo hi : Option AX)
  | fa (off : Nat) (x : AX)
  | fld (agg : Bool) (off n : Nat) (x : AX)
  | ias (sz : Nat) (x i : AX)
  | iaa (len sz : Nat) (x i : AX)
  | ixs (x i : AX)
  | blen (str : Bool) (x : AX)
  | bmin (xs : List AX)
  | bmax (xs : List AX)
  | app (sz bytes : Nat) (z : List V) (s x : AX)
  | cpy (sz : Nat) (d s : AX)
  | clr (sz : Nat) (z : List V) (x : AX)
  | call (g : AX) (args : List AX)
  | nilc (x : AX)
  | ext (x : AX) (i : Nat)
  | b2s (x : AX)
  deriving Inhabited

structure AOper where
  dst : Option Nat
  op : AOp
  guard : Option (Option Nat × Bool)
  deriving Inhabited

/-- 'draw': for each operation of a region that draws its order, the numbers of those that come ahead of it in whatever order, as a number's bits. -/
inductive ACode where
  | skip
  | ops (draw : Option (List Nat)) (l : List AOper)
  | seq (a b : ACode)
  | cond (c : AX) (thn els : ACode)
  | block (id : Nat) (body : ACode)
  | loop (body : ACode)
  | rangeF (g : AX) (params : List Nat) (assign body : ACode)
  | exit (id : Nat)
  | ret
  | scope (body : ACode)
  deriving Inhabited

inductive AJump where
  | ret
  | exit (id : Nat)

structure ALoop where
  st : LoopState
  pend : Option AJump
  N : Nat
  T : List (Nat × V)
  params : List Nat
  assign : ACode
  body : ACode
  marks : Nat

inductive Blk where
  | row (own : Bool) (cs : List V)
  | loop (r : ALoop)
  | marks
def Blk.own : Blk → Bool
  | .row o _ => o
  | _ => true

abbrev Heap := List (Nat × Blk)
abbrev Temps := List (Nat × V)

def AX.val (T : Temps) : AX → V
  | .t i => (aget T i).getD .un
  | .c v => v
  | .f g => .fn g [] []

def TRel (ρ : Ren) (N : Nat) (T : Temps) (tmps : Array Value) : Prop :=
  tmps.size = N ∧ ∀ i v, aget T i = some v → ∃ y, tmps[i]? = some y ∧ VRel ρ v y

def AJump.code : AJump → Code
  | .ret => .ret
  | .exit id => .exit id

/-- What the preparation of a program's code says (a parameter here, so that blocks may speak of it). -/
abbrev PrepC := Nat → Code → Option ACode

structure LRel (pc : PrepC) (ρ : Ren) (r : ALoop) (L : Loop) : Prop where
  st : L.state = r.st
  pend : L.pending = r.pend.map AJump.code
  tm : TRel ρ r.N r.T L.tmps
  params : L.params.toList = r.params
  assign : pc r.N L.assign = some r.assign
  body : pc r.N L.body = some r.body
  marks : ∃ d z, ρ r.marks = some (L.defers, d, z)

def BRel (pc : PrepC) (ρ : Ren) (w : World) (c d z : Nat) : Blk → Prop
  | .row own cs => ∃ arr t fr, w.heap[c]? = some (.cells arr t fr) ∧ arr.size = z ∧ d + cs.length ≤ z ∧
      (∀ (j : Nat) x, cs[j]? = some x → ∃ y, arr[d + j]? = some y ∧ VRel ρ x y) ∧ (own = true → ∀ j, j < z → ¬ (fr.1 ≤ j ∧ j < fr.2))
  | .loop r => ∃ L, w.heap[c]? = some (.loop L) ∧ LRel pc ρ r L
  | .marks => w.heap[c]? = some (.deferred (some []))

structure Sim (pc : PrepC) (ρ : Ren) (n : Nat) (H : Heap) (w : World) : Prop where
  sup : ∀ b x, ρ b = some x → b < n ∧ x.1 < w.heap.size
  blk : ∀ b k, aget H b = some k → ∃ c d z, ρ b = some (c, d, z) ∧ BRel pc ρ w c d z k
  inj : ∀ b1 b2 k1 k2 x1 x2, aget H b1 = some k1 → aget H b2 = some k2 → ρ b1 = some x1 → ρ b2 = some x2 → x1.1 = x2.1 → k1.own = true → b1 = b2

def OwnC (ρ : Ren) (H : Heap) (c : Nat) : Prop := ∃ b k x, aget H b = some k ∧ k.own = true ∧ ρ b = some x ∧ x.1 = c

structure Ext (ρ : Ren) (n : Nat) (H : Heap) (w : World) (ρ' : Ren) (n' : Nat) (H' : Heap) (w' : World) : Prop where
  le : n ≤ n'
  ren : ρ.le ρ'
  old : ∀ b x, b < n → ρ' b = some x → ρ b = some x
  os : w'.os = w.os
  tape : w'.tape = w.tape
  output : w'.output = w.output
  drawn : w.drawn ≤ w'.drawn
  size : w.heap.size ≤ w'.heap.size
  frame : ∀ c, c < w.heap.size → ¬ OwnC ρ H c → w'.heap[c]? = w.heap[c]?
  own : ∀ c, OwnC ρ' H' c → OwnC ρ H c ∨ w.heap.size ≤ c

theorem TRel.mono {ρ ρ' : Ren} (h : ρ.le ρ') {N : Nat} {T : Temps} {tmps : Array Value} (r : TRel ρ N T tmps) : TRel ρ' N T tmps := ⟨r.1, fun i v hv => let ⟨y, hy, hr⟩ := r.2 i v hv; ⟨y, hy, hr.mono h⟩⟩
theorem LRel.mono {pc : PrepC} {ρ ρ' : Ren} (h : ρ.le ρ') {r : ALoop} {L : Loop} (l : LRel pc ρ r L) : LRel pc ρ' r L :=
  ⟨l.st, l.pend, l.tm.mono h, l.params, l.assign, l.body, let ⟨d, z, e⟩ := l.marks; ⟨d, z, h _ _ e⟩⟩
theorem BRel.mono {pc : PrepC} {ρ ρ' : Ren} {w w' : World} {c d z : Nat} {k : Blk} (h : ρ.le ρ') (hw : w'.heap[c]? = w.heap[c]?) (r : BRel pc ρ w c d z k) : BRel pc ρ' w' c d z k := by
  cases k with
  | row own cs =>
    obtain ⟨arr, t, fr, h1, h2, h3, h4, h5⟩ := r
    exact ⟨arr, t, fr, hw.trans h1, h2, h3, fun j x hx => let ⟨y, hy, hr⟩ := h4 j x hx; ⟨y, hy, hr.mono h⟩, h5⟩
  | loop r' => obtain ⟨L, h1, h2⟩ := r; exact ⟨L, hw.trans h1, h2.mono h⟩
  | marks => exact hw.trans r

theorem Ext.refl (ρ : Ren) (n : Nat) (H : Heap) (w : World) : Ext ρ n H w ρ n H w :=
  ⟨Nat.le_refl _, .refl _, fun _ _ _ h => h, rfl, rfl, rfl, Nat.le_refl _, Nat.le_refl _, fun _ _ _ => rfl, fun _ h => .inl h⟩
theorem Ext.trans {ρ ρ' ρ'' : Ren} {n n' n'' : Nat} {H H' H'' : Heap} {w w' w'' : World} (h : Ext ρ n H w ρ' n' H' w') (h' : Ext ρ' n' H' w' ρ'' n'' H'' w'') :
    Ext ρ n H w ρ'' n'' H'' w'' where
  le := Nat.le_trans h.le h'.le
  ren := h.ren.trans h'.ren
  old := fun b x hb hx => h.old b x hb (h'.old b x (Nat.lt_of_lt_of_le hb h.le) hx)
  os := h'.os.trans h.os
  tape := h'.tape.trans h.tape
  output := h'.output.trans h.output
  drawn := Nat.le_trans h.drawn h'.drawn
  size := Nat.le_trans h.size h'.size
  frame := fun c hc ho => by
    rw [h'.frame c (Nat.lt_of_lt_of_le hc h.size) fun hh => ?_, h.frame c hc ho]
    rcases h.own c hh with h1 | h1
    · exact ho h1
    · omega
  own := fun c hc => by
    rcases h'.own c hc with h1 | h1
    · exact h.own c h1
    · exact .inr (Nat.le_trans h.size h1)

/-- Draws leave everything as it stood. -/
theorem Sim.congr {pc : PrepC} {ρ : Ren} {n : Nat} {H : Heap} {w w' : World} (s : Sim pc ρ n H w) (h : w'.heap = w.heap) : Sim pc ρ n H w' :=
  ⟨fun b x hb => by rw [h]; exact s.sup b x hb, fun b k hb => let ⟨c, d, z, e, r⟩ := s.blk b k hb; ⟨c, d, z, e, r.mono (.refl _) (by rw [h])⟩, s.inj⟩
theorem Ext.of_draw {ρ : Ren} {n : Nat} {H : Heap} {w w' : World} (h : w'.heap = w.heap) (h1 : w'.os = w.os) (h2 : w'.tape = w.tape) (h3 : w'.output = w.output) (h4 : w.drawn ≤ w'.drawn) : Ext ρ n H w ρ n H w' :=
  ⟨Nat.le_refl _, .refl _, fun _ _ _ h => h, h1, h2, h3, h4, by rw [h]; exact Nat.le_refl _, fun c _ _ => by rw [h], fun _ h => .inl h⟩

/-- Less is known: fewer blocks, a smaller next id (everything that is kept lies below it). -/
structure Heap.less (n₀ : Nat) (H₀ : Heap) (n : Nat) (H : Heap) : Prop where
  le : n₀ ≤ n
  get : ∀ b k, aget H₀ b = some k → aget H b = some k
  clo : n₀ = n ∨ (∀ b k, aget H₀ b = some k → b < n₀ ∧ match k with
    | .row _ cs => ∀ x ∈ cs, VIn n₀ x
    | .loop r => r.marks < n₀ ∧ ∀ i v, aget r.T i = some v → VIn n₀ v
    | .marks => True)
def Temps.less (n₀ : Nat) (T₀ : Temps) (n : Nat) (T : Temps) : Prop := ∀ i v, aget T₀ i = some v → aget T i = some v ∧ (n₀ = n ∨ VIn n₀ v)

theorem Sim.cut_eq {pc : PrepC} {ρ : Ren} {n : Nat} {H : Heap} {w : World} (s : Sim pc ρ n H w) : ρ.cut n = ρ := by
  funext b
  unfold Ren.cut
  split
  · rfl
  · rename_i hb
    cases hr : ρ b with
    | none => rfl
    | some x => exact absurd (s.sup b x hr).1 hb
theorem TRel.less {ρ : Ren} {n n₀ N : Nat} {T T₀ : Temps} {tmps : Array Value} (hcut : ρ.cut n = ρ) (r : TRel ρ N T tmps) (h : Temps.less n₀ T₀ n T) : TRel (ρ.cut n₀) N T₀ tmps :=
  ⟨r.1, fun i v hv => by
    obtain ⟨h1, h2⟩ := h i v hv
    obtain ⟨y, hy, this⟩ := r.2 i v h1
    refine ⟨y, hy, ?_⟩
    rcases h2 with rfl | h2
    · rw [hcut]; exact this
    · exact this.cut h2⟩
theorem Sim.less {pc : PrepC} {ρ : Ren} {n n₀ : Nat} {H H₀ : Heap} {w : World} (s : Sim pc ρ n H w) (h : Heap.less n₀ H₀ n H) : Sim pc (ρ.cut n₀) n₀ H₀ w := by
  rcases h.clo with rfl | hclo
  · rw [s.cut_eq]
    exact ⟨s.sup, fun b k hb => s.blk b k (h.get b k hb), fun b1 b2 k1 k2 x1 x2 h1 h2 => s.inj b1 b2 k1 k2 x1 x2 (h.get _ _ h1) (h.get _ _ h2)⟩
  · have hcutle : ∀ b x, ρ.cut n₀ b = some x → ρ b = some x ∧ b < n₀ := fun b x hb => by
      unfold Ren.cut at hb
      split at hb
      · exact ⟨hb, by assumption⟩
      · cases hb
    refine ⟨fun b x hb => ⟨(hcutle b x hb).2, (s.sup b x (hcutle b x hb).1).2⟩, fun b k hb => ?_, fun b1 b2 k1 k2 x1 x2 h1 h2 e1 e2 => s.inj b1 b2 k1 k2 x1 x2 (h.get _ _ h1) (h.get _ _ h2) (hcutle _ _ e1).1 (hcutle _ _ e2).1⟩
    obtain ⟨hlt, hk⟩ := hclo b k hb
    obtain ⟨c, d, z, e, r⟩ := s.blk b k (h.get b k hb)
    refine ⟨c, d, z, by unfold Ren.cut; rw [if_pos hlt]; exact e, ?_⟩
    cases k with
    | row own cs =>
      obtain ⟨arr, t, fr, h1, h2, h3, h4, h5⟩ := r
      exact ⟨arr, t, fr, h1, h2, h3, fun j x hx => let ⟨y, hy, hr⟩ := h4 j x hx; ⟨y, hy, hr.cut (hk x (List.mem_of_getElem? hx))⟩, h5⟩
    | loop r' =>
      obtain ⟨L, h1, l⟩ := r
      refine ⟨L, h1, l.st, l.pend, ⟨l.tm.1, fun i v hv => let ⟨y, hy, hr⟩ := l.tm.2 i v hv; ⟨y, hy, hr.cut (hk.2 i v hv)⟩⟩, l.params, l.assign, l.body, ?_⟩
      obtain ⟨d, z, e⟩ := l.marks
      exact ⟨d, z, by unfold Ren.cut; rw [if_pos hk.1]; exact e⟩
    | marks => exact r
theorem Ext.less {pc : PrepC} {ρ ρ' : Ren} {n n' n₀ : Nat} {H H' H₀ : Heap} {w w' : World} (s : Sim pc ρ n H w) (h : Ext ρ n H w ρ' n' H' w') (hn : n ≤ n₀) (hl : Heap.less n₀ H₀ n' H') :
    Ext ρ n H w (ρ'.cut n₀) n₀ H₀ w' where
  le := hn
  ren := fun b x hb => by
    have := (s.sup b x hb).1
    unfold Ren.cut
    rw [if_pos (by omega)]
    exact h.ren b x hb
  old := fun b x hb hx => by
    unfold Ren.cut at hx
    split at hx
    · exact h.old b x hb hx
    · cases hx
  os := h.os
  tape := h.tape
  output := h.output
  drawn := h.drawn
  size := h.size
  frame := h.frame
  own := fun c ⟨b, k, x, h1, h2, h3, h4⟩ => by
    refine h.own c ⟨b, k, x, hl.get b k h1, h2, ?_, h4⟩
    unfold Ren.cut at h3
    split at h3
    · exact h3
    · cases h3
end Go.Proofs.Ytpgelghkjiejlaa
end
section
namespace Go.Proofs.Ytpgelghkjiejlaa
open Go

/-- Cells from one place on written over. -/
def setAll {α : Type} (cs : List α) (off : Nat) (vs : List α) : List α := cs.take off ++ (vs ++ cs.drop (off + vs.length))
theorem setAll_nil {α : Type} (cs : List α) (off : Nat) : setAll cs off [] = cs := by simp [setAll]
theorem setAll_length {α : Type} (cs : List α) (off : Nat) (vs : List α) (h : off + vs.length ≤ cs.length) : (setAll cs off vs).length = cs.length := by
  simp [setAll]; omega
theorem setAll_get {α : Type} (cs : List α) (off : Nat) (vs : List α) (h : off + vs.length ≤ cs.length) (j : Nat) :
    (setAll cs off vs)[j]? = if j < off then cs[j]? else if j < off + vs.length then vs[j - off]? else cs[j]? := by
  unfold setAll
  split
  · rename_i hj
    rw [List.getElem?_append_left (by simp; omega), List.getElem?_take, if_pos hj]
  · rename_i hj
    rw [List.getElem?_append_right (by simp; omega)]
    simp only [List.length_take]
    rw [Nat.min_eq_left (by omega)]
    split
    · rw [List.getElem?_append_left (by omega)]
    · rw [List.getElem?_append_right (by omega), List.getElem?_drop]
      congr 1
      omega
theorem setAll_cons {α : Type} (cs : List α) (off : Nat) (v : α) (vs : List α) (h : off + (vs.length + 1) ≤ cs.length) : setAll (cs.set off v) (off + 1) vs = setAll cs off (v :: vs) := by
  apply List.ext_getElem?
  intro j
  rw [setAll_get _ _ _ (by simp; omega), setAll_get _ _ _ (by simp; omega)]
  simp only [List.length_cons]
  by_cases h1 : j < off
  · rw [if_pos (by omega), if_pos h1, List.getElem?_set, if_neg (by omega)]
  · rw [if_neg h1]
    by_cases h2 : j = off
    · subst h2
      rw [if_pos (by omega), if_pos (by omega), List.getElem?_set]
      simp; omega
    · rw [if_neg (by omega)]
      by_cases h3 : j < off + 1 + vs.length
      · rw [if_pos h3, if_pos (by omega)]
        obtain ⟨i, rfl⟩ : ∃ i, j = off + 1 + i := ⟨j - off - 1, by omega⟩
        rw [show off + 1 + i - (off + 1) = i by omega, show off + 1 + i - off = i + 1 by omega]
        rfl
      · rw [if_neg h3, if_neg (by omega), List.getElem?_set, if_neg (by omega)]

/-- A block of the heap laid anew. -/
def setBlk (w : World) (c : Nat) (o : Obj) : World := { w with heap := w.heap.setIfInBounds c o }
@[simp] theorem setBlk_size (w : World) (c : Nat) (o : Obj) : (setBlk w c o).heap.size = w.heap.size := by simp [setBlk]
theorem setBlk_get (w : World) (c : Nat) (o : Obj) (e : Nat) (hc : c < w.heap.size) : (setBlk w c o).heap[e]? = if c = e then some o else w.heap[e]? := by
  unfold setBlk
  by_cases h : c = e
  · subst h; simp [hc]
  · simp [h, Array.getElem?_setIfInBounds_ne]
theorem lt_of_get {w : World} {c : Nat} {o : Obj} (h : w.heap[c]? = some o) : c < w.heap.size := (Array.getElem?_eq_some_iff.1 h).1
theorem setBlk_setBlk (w : World) (c : Nat) (o o' : Obj) : setBlk (setBlk w c o) c o' = setBlk w c o' := by
  simp [setBlk]
theorem setBlk_same (w : World) (c : Nat) (o : Obj) (h : w.heap[c]? = some o) : setBlk w c o = w := by
  unfold setBlk
  have hc := lt_of_get h
  have : w.heap.setIfInBounds c o = w.heap := by
    apply Array.ext_getElem?
    intro j
    by_cases hj : c = j
    · subst hj; rw [Array.getElem?_setIfInBounds_self_of_lt hc, h]
    · rw [Array.getElem?_setIfInBounds_ne hj]
  rw [this]

theorem add_off (c o n : Nat) : (⟨c, o, none⟩ : Addr).add n = ⟨c, o + n, none⟩ := by
  unfold Addr.add
  split
  · subst_vars; rfl
  · rfl

theorem run_load_at {P : Program} {w : World} {c o : Nat} {arr : Array Value} {t : TypeId} {fr : Nat × Nat} (h : w.heap[c]? = some (.cells arr t fr)) {v : Value} (hv : arr[o]? = some v) :
    (load ⟨c, o, none⟩).run P w = .ok v w := by
  have : w.cell? ⟨c, o, none⟩ = some v := by simp [World.cell?, h, hv]
  simp [load, Sem.run, this]
theorem run_loadCellsFrom_at {P : Program} {w : World} {c o : Nat} {arr : Array Value} {t : TypeId} {fr : Nat × Nat} (h : w.heap[c]? = some (.cells arr t fr)) :
    ∀ (n i : Nat) (acc : Array Value), o + i + n ≤ arr.size → (loadCellsFrom ⟨c, o, none⟩ i n acc).run P w = .ok (acc ++ arr.extract (o + i) (o + i + n)) w := by
  intro n
  induction n with
  | zero => intro i acc _; simp [loadCellsFrom, pure]; omega
  | succ n ih =>
    intro i acc hb
    have hlt : o + i < arr.size := by omega
    have h1 : (load ((⟨c, o, none⟩ : Addr).add i)).run P w = .ok arr[o + i] w := by
      rw [add_off]; exact run_load_at h (by simp [hlt])
    simp only [loadCellsFrom, Sem.run_bind, h1, Result.andThen_ok]
    rw [ih (i + 1) _ (by omega)]
    congr 1
    apply Array.ext'
    simp only [Array.toList_append, Array.toList_push, Array.toList_extract, List.append_assoc, List.extract_eq_take_drop, List.singleton_append]
    congr 1
    have e : o + i + (n + 1) - (o + i) = n + 1 := by omega
    have e' : o + (i + 1) + n - (o + (i + 1)) = n := by omega
    rw [e, e', ← Nat.add_assoc o i 1, List.drop_eq_getElem_cons (i := o + i) (by simpa using hlt), List.take_succ_cons, Array.getElem_toList]
theorem run_loadCells_at {P : Program} {w : World} {c o n : Nat} {arr : Array Value} {t : TypeId} {fr : Nat × Nat} (h : w.heap[c]? = some (.cells arr t fr)) (hb : o + n ≤ arr.size) :
    (loadCells ⟨c, o, none⟩ n).run P w = .ok (arr.extract o (o + n)) w := by
  unfold loadCells
  rw [run_loadCellsFrom_at h n 0 #[] (by omega)]
  simp

def flat : Value → Bool
  | .agg _ | .tuple _ => false
  | _ => true
theorem run_store_at {P : Program} {w : World} {c o : Nat} {arr : Array Value} {t : TypeId} {fr : Nat × Nat} (h : w.heap[c]? = some (.cells arr t fr)) (ho : o < arr.size) (hf : ¬ (fr.1 ≤ o ∧ o < fr.2)) (v : Value) (hv : flat v = true) :
    (store ⟨c, o, none⟩ v).run P w = .ok () (setBlk w c (.cells (arr.setIfInBounds o v) t fr)) := by
  have hc : w.cell? ⟨c, o, none⟩ = some arr[o] := by simp [World.cell?, h, ho]
  have hfz : w.frozen? ⟨c, o, none⟩ = false := by
    obtain ⟨lo, hi⟩ := fr
    simp only [World.frozen?, h]
    simp only at hf
    simp
    intro h1
    omega
  have hset : w.setCell ⟨c, o, none⟩ v = setBlk w c (.cells (arr.setIfInBounds o v) t fr) := by
    unfold World.setCell setBlk
    congr 1
    apply Array.ext_getElem?
    intro j
    have hlt := lt_of_get h
    rw [Array.getElem?_modify]
    by_cases hj : c = j
    · subst hj
      rw [if_pos rfl, h, Array.getElem?_setIfInBounds_self_of_lt hlt]
      rfl
    · rw [if_neg hj, Array.getElem?_setIfInBounds_ne hj]
  cases v <;> first | (simp [flat] at hv; done) | (simp [store, Sem.run, hc, hfz, hset])
theorem run_storeCells_at {P : Program} {t : TypeId} {fr : Nat × Nat} {c o : Nat} :
    ∀ (vs : List Value) (i : Nat) (w : World) (arr : Array Value), w.heap[c]? = some (.cells arr t fr) → o + i + vs.length ≤ arr.size → (∀ j, j < arr.size → ¬ (fr.1 ≤ j ∧ j < fr.2)) → (∀ v ∈ vs, flat v = true) →
      (storeCells ⟨c, o, none⟩ vs i).run P w = .ok () (setBlk w c (.cells (setAll arr.toList (o + i) vs).toArray t fr)) := by
  intro vs
  induction vs with
  | nil =>
    intro i w arr h _ _ _
    simp only [storeCells, setAll_nil, Array.toArray_toList]
    rw [setBlk_same _ _ _ h]
    rfl
  | cons v vs ih =>
    intro i w arr h hb hf hv
    simp only [List.length_cons] at hb
    have h1 := run_store_at (P := P) h (show o + i < arr.size by omega) (hf _ (by omega)) v (hv v (by simp))
    simp only [storeCells, Sem.run_bind, add_off, h1, Result.andThen_ok]
    rw [ih (i + 1) _ (arr.setIfInBounds (o + i) v) (by rw [setBlk_get _ _ _ _ (lt_of_get h), if_pos rfl]) (by simp; omega) (by simpa using hf) (fun v hm => hv v (by simp [hm]))]
    rw [setBlk_setBlk]
    congr 4
    rw [Array.toList_setIfInBounds, ← Nat.add_assoc]
    exact setAll_cons _ _ _ _ (by simp; omega)
end Go.Proofs.Ytpgelghkjiejlaa
end
section
namespace Go.Proofs.Ytpgelghkjiejlaa
open Go

def V.known : V → Bool
  | .un => false
  | _ => true
/-- A value of one cell. -/
def V.one : V → Bool
  | .un | .ag _ | .tu _ => false
  | _ => true

def fillA (cs : List V) : List (Nat × Nat × V) → Option (List V)
  | [] => some cs
  | (off, sz, v) :: r => if v.known && v.cells.length == sz && decide (off + sz ≤ cs.length) then fillA (setAll cs off v.cells) r else none
/-- The cells of n elements, each zero. -/
def zrep (z : List V) (n : Nat) : List V :=
  match z with
  | [x] => List.replicate n x
  | z => (List.replicate n z).flatten

abbrev Got := Option (V × Nat × Heap)
def evNew (n : Nat) (H : Heap) (cs : List V) : Got := some (.p n 0, n + 1, (n, .row true cs) :: H)
def evLd (n : Nat) (H : Heap) (agg : Bool) (sz : Nat) : V → Got
  | .p id off =>
    match aget H id with
    | some (.row _ cs) =>
      if agg then (if off + sz ≤ cs.length then some (.ag ((cs.drop off).take sz), n, H) else none)
      else match cs[off]? with
        | some v => some (v, n, H)
        | none => none
    | _ => none
  | _ => none
def evSt (n : Nat) (H : Heap) (sz : Nat) (a x : V) : Got :=
  match a with
  | .p id off =>
    match aget H id with
    | some (.row true cs) =>
      if x.known && x.cells.length == sz && x.cells.all V.one && decide (off + sz ≤ cs.length) then some (.un, n, aput H id (.row true (setAll cs off x.cells))) else none
    | _ => none
  | _ => none
def cmpI (op : BinOp) (a b : Int) : Option V :=
  match op with
  | .eql => some (.b (a == b))
  | .neq => some (.b (a != b))
  | .lss => some (.b (decide (a < b)))
  | .leq => some (.b (decide (a ≤ b)))
  | .gtr => some (.b (decide (a > b)))
  | .geq => some (.b (decide (a ≥ b)))
  | _ => none
def binI (op : BinOp) (k : IntKind) (a : Int) (k' : IntKind) (b : Int) : Option V :=
  match op with
  | .shl => if 0 ≤ b then some (.i k (k.wrap (a * 2 ^ (min b.toNat k.bits)))) else none
  | .shr => if 0 ≤ b then some (.i k (a.fdiv (2 ^ (min b.toNat k.bits)))) else none
  | .add => if k = k' then some (.i k (k.wrap (a + b))) else none
  | .sub => if k = k' then some (.i k (k.wrap (a - b))) else none
  | .mul => if k = k' then some (.i k (k.wrap (a * b))) else none
  | .quo => if k = k' ∧ b ≠ 0 then some (.i k (k.wrap (a.tdiv b))) else none
  | .rem => if k = k' ∧ b ≠ 0 then some (.i k (a.tmod b)) else none
  | .and => if k = k' then some (.i k (k.wrap (BitVec.ofInt k.bits a &&& BitVec.ofInt k.bits b).toNat)) else none
  | .or => if k = k' then some (.i k (k.wrap (BitVec.ofInt k.bits a ||| BitVec.ofInt k.bits b).toNat)) else none
  | .xor => if k = k' then some (.i k (k.wrap (BitVec.ofInt k.bits a ^^^ BitVec.ofInt k.bits b).toNat)) else none
  | .andNot => if k = k' then some (.i k (k.wrap (BitVec.ofInt k.bits a &&& ~~~ BitVec.ofInt k.bits b).toNat)) else none
  | op => if k = k' then cmpI op a b else none
def binS (op : BinOp) (a b : List UInt8) : Option V :=
  match op with
  | .eql => some (.b (a == b))
  | .neq => some (.b (!(a == b)))
  | .lss => some (.b (Op.bytesLess a b))
  | .leq => some (.b (Op.bytesLess a b || a == b))
  | .gtr => some (.b (!(Op.bytesLess a b || a == b)))
  | .geq => some (.b (!(Op.bytesLess a b)))
  | .add => if a.length + b.length ≤ 9223372036854775807 then some (.s (a ++ b)) else none
  | _ => none
def evBin (op : BinOp) : V → V → Option V
  | .i k a, .i k' b => binI op k a k' b
  | .s a, .s b => binS op a b
  | _, _ => none
/-- '==' of two cells, by the kind of their type: 0 bool, 1 number, 2 string, 3 pointer (against nil), 4 slice (against nil), 5 function (against nil). -/
def eqOne : Nat → V → V → Option Bool
  | 0, .b x, .b y => some (x == y)
  | 1, .i k x, .i k' y => if k = k' then some (x == y) else none
  | 2, .s x, .s y => some (x == y)
  | 3, .nilp, .nilp => some true
  | 3, .nilp, .p _ _ => some false
  | 3, .p _ _, .nilp => some false
  | 4, .nils, .nils => some true
  | 4, .nils, .sl .. => some false
  | 4, .sl .., .nils => some false
  | 5, .nilf, .nilf => some true
  | 5, .nilf, .fn .. => some false
  | 5, .fn .., .nilf => some false
  | _, _, _ => none
def EqT (P : Program) (t : TypeId) : Nat → Prop
  | 0 => P.underlying t = some .bool
  | 1 => ∃ q, P.underlying t = some (.int q)
  | 2 => P.underlying t = some .string
  | 3 => ∃ e, P.underlying t = some (.pointer e)
  | 4 => ∃ e, P.underlying t = some (.slice e)
  | _ => ∃ a b c, P.underlying t = some (.func a b c)
def eqAll : List Nat → List V → List V → Option Bool
  | [], [], [] => some true
  | k :: ks, x :: xs, y :: ys =>
    match eqOne k x y, eqAll ks xs ys with
    | some a, some b => some (a && b)
    | _, _ => none
  | _, _, _ => none
def evEqs (neg : Bool) (ks : List Nat) (x y : V) : Option V :=
  match x, y with
  | .ag xs, .ag ys => (eqAll ks xs ys).map fun r => .b (if neg then !r else r)
  | _, _ => none
def evEq1 (neg : Bool) (k : Nat) (x y : V) : Option V := (eqOne k x y).map fun r => .b (if neg then !r else r)
def evUn (op : UnOp) : V → Option V
  | .b x => match op with | .not => some (.b (!x)) | _ => none
  | .i k a => match op with
    | .neg => some (.i k (k.wrap (0 - a)))
    | .xor => some (.i k (k.wrap (BitVec.ofInt k.bits (if k.signed then -1 else k.max) ^^^ BitVec.ofInt k.bits a).toNat))
    | _ => none
  | _ => none
def evMks (n : Nat) (H : Heap) (sz bytes : Nat) (z : List V) : V → V → Got
  | .i _ l, .i _ c => if 0 ≤ l ∧ l ≤ c ∧ c * bytes ≤ 140737488355328 ∧ c ≤ 140737488355328 then some (.sl n 0 sz l.toNat (l == c), n + 1, (n, .row true (zrep z c.toNat)) :: H) else none
  | _, _ => none
def natOf : V → Option Nat
  | .i _ a => if 0 ≤ a then some a.toNat else none
  | _ => none
def bound (d : Nat) : Option V → Option Nat
  | none => some d
  | some v => natOf v
def evSls (sz : Nat) (x : V) (lo hi mx : Option V) : Option V :=
  match x with
  | .sl id off sz' len full =>
    match bound 0 lo, bound len hi, bound len mx with
    | some l, some h, some m => if sz' = sz ∧ l ≤ h ∧ h ≤ m ∧ m ≤ len then some (.sl id (off + l * sz) sz (h - l) (if mx.isSome then h == m else full && h == len)) else none
    | _, _, _ => none
  | .nils =>
    match bound 0 lo, bound 0 hi, bound 0 mx with
    | some 0, some 0, some 0 => some .nils
    | _, _, _ => none
  | _ => none
def evSla (H : Heap) (n sz : Nat) (x : V) (lo hi mx : Option V) : Option V :=
  match x with
  | .p id off =>
    match bound 0 lo, bound n hi, bound n mx, aget H id with
    | some l, some h, some m, some (.row _ cs) => if l ≤ h ∧ h ≤ m ∧ m ≤ n ∧ off + n * sz ≤ cs.length then some (.sl id (off + l * sz) sz (h - l) (h == m)) else none
    | _, _, _, _ => none
  | _ => none
def evStr (x : V) (lo hi : Option V) : Option V :=
  match x with
  | .s s =>
    match bound 0 lo, bound s.length hi with
    | some l, some h => if l ≤ h ∧ h ≤ s.length then some (.s ((s.drop l).take (h - l))) else none
    | _, _ => none
  | _ => none
def evFa (off : Nat) : V → Option V
  | .p id o => some (.p id (o + off))
  | _ => none
def evFld (agg : Bool) (off sz : Nat) : V → Option V
  | .ag cs => if agg then (if off + sz ≤ cs.length then some (.ag ((cs.drop off).take sz)) else none) else cs[off]?
  | _ => none
def evIas (sz : Nat) : V → V → Option V
  | .sl id off sz' len _, .i _ i => if sz' = sz ∧ 0 ≤ i ∧ i < len then some (.p id (off + i.toNat * sz)) else none
  | _, _ => none
def evIaa (len sz : Nat) : V → V → Option V
  | .p id off, .i _ i => if 0 ≤ i ∧ i < len then some (.p id (off + i.toNat * sz)) else none
  | _, _ => none
def evIxs : V → V → Option V
  | .s s, .i _ i => if 0 ≤ i then (s[i.toNat]?).map fun c => .i .u8 (c.toNat : Int) else none
  | _, _ => none
def evLen : Bool → V → Option V
  | true, .s s => some (.i .i64 s.length)
  | false, .sl _ _ _ len _ => some (.i .i64 len)
  | false, .nils => some (.i .i64 0)
  | _, _ => none
def minI : V → V → Option V
  | .i k a, .i _ b => some (.i k (if b < a then b else a))
  | _, _ => none
def maxI : V → V → Option V
  | .i k a, .i _ b => some (.i k (if a < b then b else a))
  | _, _ => none
def foldO (f : V → V → Option V) : V → List V → Option V
  | x, [] => some x
  | x, y :: r => match f x y with | some z => foldO f z r | none => none
def evFold (f : V → V → Option V) : List V → Option V
  | [] => none
  | x :: r => foldO f x r
/-- The cells of a slice. -/
def cellsOf (H : Heap) (sz : Nat) : V → Option (List V)
  | .nils => some []
  | .sl id off sz' len _ =>
    match aget H id with
    | some (.row _ cs) => if sz' = sz ∧ off + len * sz ≤ cs.length then some ((cs.drop off).take (len * sz)) else none
    | _ => none
  | _ => none
def lenS : V → Nat
  | .sl _ _ _ len _ => len
  | _ => 0
def evApp (n : Nat) (H : Heap) (sz bytes : Nat) (s x : V) : Got :=
  match cellsOf H sz x with
  | some new =>
    if new.all V.one then
    match s with
    | .nils => if lenS x = 0 then some (.nils, n, H) else if lenS x * bytes ≤ 140737488355328 then some (.sl n 0 sz (lenS x) false, n + 1, (n, .row true new) :: H) else none
    | .sl id off sz' len full =>
      match aget H id with
      | some (.row own cs) =>
        if sz' = sz ∧ off + len * sz ≤ cs.length ∧ (len + lenS x) * bytes ≤ 140737488355328 then
          if full then
            (if lenS x = 0 then some (.sl id off sz len true, n, H) else some (.sl n 0 sz (len + lenS x) false, n + 1, (n, .row true ((cs.drop off).take (len * sz) ++ new)) :: H))
          else if own then some (.sl n 0 sz (len + lenS x) false, n + 1, (n, .row true ((cs.drop off).take (len * sz) ++ new)) :: adel H id) else none
        else none
      | _ => none
    | _ => none
    else none
  | none => none
def evCpy (n : Nat) (H : Heap) (sz : Nat) (d s : V) : Got :=
  match cellsOf H sz s with
  | some new =>
    match d with
    | .nils => some (.i .i64 0, n, H)
    | .sl id off sz' len _ =>
      match aget H id with
      | some (.row true cs) =>
        if sz' = sz ∧ off + len * sz ≤ cs.length ∧ new.all V.one then some (.i .i64 (min (lenS s) len : Nat), n, aput H id (.row true (setAll cs off (new.take (min (lenS s) len * sz))))) else none
      | _ => none
    | _ => none
  | none => none
def evClr (n : Nat) (H : Heap) (sz : Nat) (z : List V) : V → Got
  | .nils => some (.tu [], n, H)
  | .sl id off sz' len _ =>
    if len = 0 then some (.tu [], n, H) else
    match aget H id with
    | some (.row true cs) => if sz' = sz ∧ z.length = sz ∧ off + len * sz ≤ cs.length ∧ z.all V.one then some (.tu [], n, aput H id (.row true (setAll cs off (zrep z len)))) else none
    | _ => none
  | _ => none
def byteOf : V → Option UInt8
  | .i .u8 a => some (UInt8.ofNat a.toNat)
  | _ => none
def bytesOf : List V → Option (List UInt8)
  | [] => some []
  | v :: r => match byteOf v, bytesOf r with | some b, some l => some (b :: l) | _, _ => none
def evB2s (H : Heap) (x : V) : Option V :=
  match cellsOf H 1 x with
  | some cs => (bytesOf cs).map .s
  | none => none
def evNil : V → Option V
  | .p id off => some (.p id off)
  | _ => none
def evExt (i : Nat) : V → Option V
  | .tu xs => xs[i]?
  | _ => none
def keep (n : Nat) (H : Heap) : Option V → Got
  | some v => some (v, n, H)
  | none => none

def evalOp (T : Temps) (n : Nat) (H : Heap) : AOp → Got
  | .mv x => some (x.val T, n, H)
  | .pick c a b => match c.val T with | .b t => some (if t then a.val T else b.val T, n, H) | _ => none
  | .new z => evNew n H z
  | .box x => if (x.val T).known then evNew n H (x.val T).cells else none
  | .build z ps => keep n H ((fillA z (ps.map fun (o, s, x) => (o, s, x.val T))).map .ag)
  | .lit sz len z ps =>
    match fillA z (ps.map fun (i, x) => (i * sz, sz, x.val T)) with
    | some cs => some (.sl n 0 sz len true, n + 1, (n, .row true cs) :: H)
    | none => none
  | .ld agg sz a => evLd n H agg sz (a.val T)
  | .st sz a x => evSt n H sz (a.val T) (x.val T)
  | .bin op x y => keep n H (evBin op (x.val T) (y.val T))
  | .eqs neg ks x y => keep n H (evEqs neg ks (x.val T) (y.val T))
  | .eq1 neg k x y => keep n H (evEq1 neg k (x.val T) (y.val T))
  | .un op x => keep n H (evUn op (x.val T))
  | .conv k x => match x.val T with | .i _ a => some (.i k (k.wrap a), n, H) | _ => none
  | .mkf g first caps => some (.fn g (first.map (·.val T)) (caps.map (·.val T)), n, H)
  | .mks sz bytes z l c => evMks n H sz bytes z (l.val T) (c.val T)
  | .sls sz x lo hi mx => keep n H (evSls sz (x.val T) (lo.map (·.val T)) (hi.map (·.val T)) (mx.map (·.val T)))
  | .sla m sz x lo hi mx => keep n H (evSla H m sz (x.val T) (lo.map (·.val T)) (hi.map (·.val T)) (mx.map (·.val T)))
  | .sstr x lo hi => keep n H (evStr (x.val T) (lo.map (·.val T)) (hi.map (·.val T)))
  | .fa off x => keep n H (evFa off (x.val T))
  | .fld agg off sz x => keep n H (evFld agg off sz (x.val T))
  | .ias sz x i => keep n H (evIas sz (x.val T) (i.val T))
  | .iaa len sz x i => keep n H (evIaa len sz (x.val T) (i.val T))
  | .ixs x i => keep n H (evIxs (x.val T) (i.val T))
  | .blen g x => keep n H (evLen g (x.val T))
  | .bmin xs => keep n H (evFold minI (xs.map (·.val T)))
  | .bmax xs => keep n H (evFold maxI (xs.map (·.val T)))
  | .app sz bytes _ s x => evApp n H sz bytes (s.val T) (x.val T)
  | .cpy sz d s => evCpy n H sz (d.val T) (s.val T)
  | .clr sz z x => evClr n H sz z (x.val T)
  | .call _ _ => none
  | .nilc x => keep n H (evNil (x.val T))
  | .ext x i => keep n H (evExt i (x.val T))
  | .b2s x => keep n H (evB2s H (x.val T))

/-! ### The preparation -/
def oneOf : Value → Option V
  | .bool x => some (.b x)
  | .int k n => some (.i k n)
  | .string s => some (.s s.data.toList)
  | .pointer none => some .nilp
  | .slice none 0 0 => some .nils
  | .nilFunc => some .nilf
  | .nilIface => some .nili
  | _ => none
def oneAll : List Value → Option (List V)
  | [] => some []
  | x :: r => match oneOf x, oneAll r with | some v, some l => some (v :: l) | _, _ => none
def ofConst : Value → Option V
  | .agg cs => (oneAll cs.toList).map .ag
  | .tuple cs => (oneAll cs.toList).map .tu
  | v => oneOf v
def prepX : Operand → Option AX
  | .tmp t => some (.t t)
  | .const v => (ofConst v).map .c
  | .func f => some (.f f)
  | .global _ => none
def prepXs : List Operand → Option (List AX)
  | [] => some []
  | x :: r => match prepX x, prepXs r with | some v, some l => some (v :: l) | _, _ => none
def prepO : Option Operand → Option (Option AX)
  | none => some none
  | some x => (prepX x).map some
def zeroL (P : Program) (t : TypeId) : Option (List V) :=
  match P.info? t with
  | some i => match i.zero with | some z => oneAll z.cells.toList | none => none
  | none => none
def sizeL (P : Program) (t : TypeId) : Option Nat := (P.info? t).map (·.size)
def aggL (P : Program) (t : TypeId) : Option Bool :=
  match P.underlying t with
  | some (.struct _) => some true
  | some (.array _ _) => some true
  | some _ => some false
  | none => none
def prepParts : List (Nat × Operand) → Option (List (Nat × AX))
  | [] => some []
  | (i, x) :: r => match prepX x, prepParts r with | some v, some l => some ((i, v) :: l) | _, _ => none
def placeL (P : Program) (fs : List Field) : List (Nat × AX) → Option (List (Nat × Nat × AX))
  | [] => some []
  | (i, x) :: r =>
    match fs[i]? with
    | some f => match sizeL P f.type, placeL P fs r with | some s, some l => some ((f.offset, s, x) :: l) | _, _ => none
    | none => none
def eqKind (P : Program) (t : TypeId) : Option Nat :=
  match P.underlying t with
  | some .bool => some 0
  | some (.int _) => some 1
  | some .string => some 2
  | _ => none
def eqKinds (P : Program) : List Field → Nat → Option (List Nat)
  | [], _ => some []
  | f :: r, off =>
    if f.offset = off ∧ f.name ≠ "_" then
      match eqKind P f.type, eqKinds P r (off + 1) with
      | some k, some l => some (k :: l)
      | _, _ => none
    else none
def eqStructT (P : Program) (t : TypeId) : Option (List Nat) :=
  match P.underlying t with
  | some (.struct fs) => if !(P.stoodInHeld t) && !(P.eqGuardType P.depth t) then eqKinds P fs.toList 0 else none
  | _ => none
def negOf : BinOp → Option Bool
  | .eql => some false
  | .neq => some true
  | _ => none
def prepBuiltin (P : Program) (b : Builtin) (argTypes : List TypeId) (args : List AX) : Option AOp :=
  match b, argTypes, args with
  | .len, [t], [x] => match P.underlying t with | some .string => some (.blen true x) | some (.slice _) => some (.blen false x) | _ => none
  | .min, _, xs => some (.bmin xs)
  | .max, _, xs => some (.bmax xs)
  | .append, [t, t'], [s, x] =>
    match P.underlying t, P.underlying t' with
    | some (.slice e), some (.slice _) => match P.info? e, zeroL P e with | some i, some z => if 0 < i.size ∧ 0 < i.bytes ∧ z.length = i.size then some (.app i.size i.bytes z s x) else none | _, _ => none
    | _, _ => none
  | .copy, [t, t'], [d, s] =>
    match P.underlying t, P.underlying t' with
    | some (.slice e), some (.slice _) => match sizeL P e with | some sz => if 0 < sz then some (.cpy sz d s) else none | _ => none
    | _, _ => none
  | .clear, [t], [x] =>
    match P.underlying t with
    | some (.slice e) => match sizeL P e, zeroL P e with | some sz, some z => if 0 < sz then some (.clr sz z x) else none | _, _ => none
    | _ => none
  | _, _, _ => none
def prepOp (P : Program) : Op → Option AOp
  | .move x => (prepX x).map .mv
  | .assign x => (prepX x).map .mv
  | .pick c a b => match prepX c, prepX a, prepX b with | some c, some a, some b => some (.pick c a b) | _, _, _ => none
  | .alloc t => (zeroL P t).map .new
  | .box _ x => (prepX x).map .box
  | .build t ps =>
    match P.underlying t, zeroL P t, prepParts ps.toList with
    | some (.struct fs), some z, some l => if fs.toList.all (fun f => (sizeL P f.type).isSome) then (placeL P fs.toList l).map (.build z) else none
    | _, _, _ => none
  | .buildSlice t len ps =>
    match P.underlying t, prepParts ps.toList with
    | some (.slice e), some l =>
      match sizeL P e, zeroL P e with
      | some sz, some z => if len * sz ≤ 2 ^ 24 ∧ z.length = sz ∧ 0 < sz then some (.lit sz len (zrep z len) l) else none
      | _, _ => none
    | _, _ => none
  | .load t a => match aggL P t, sizeL P t, prepX a with | some g, some s, some a => some (.ld g s a) | _, _, _ => none
  | .store t a x => match sizeL P t, prepX a, prepX x with | some s, some a, some x => some (.st s a x) | _, _, _ => none
  | .binOp op t x y _ =>
    match prepX x, prepX y, P.underlying t with
    | some x, some y, some (.int _) => some (.bin op x y)
    | some x, some y, some .string => some (.bin op x y)
    | some x, some y, some .bool => (negOf op).map fun g => .eq1 g 0 x y
    | some x, some y, some (.pointer _) => (negOf op).map fun g => .eq1 g 3 x y
    | some x, some y, some (.slice _) => (negOf op).map fun g => .eq1 g 4 x y
    | some x, some y, some (.func ..) => (negOf op).map fun g => .eq1 g 5 x y
    | some x, some y, some (.struct _) => match negOf op, eqStructT P t with | some g, some ks => some (.eqs g ks x y) | _, _ => none
    | _, _, _ => none
  | .unOp op _ x => (prepX x).map (.un op)
  | .convert src dst x =>
    match P.underlying src, P.underlying dst, prepX x with
    | some (.int _), some (.int k), some x => some (.conv k x)
    | some .string, some .string, some x => some (.sstr x none none)
    | some (.slice e), some .string, some x => match P.underlying e with | some (.int .u8) => some (.b2s x) | _ => none
    | _, _, _ => none
  | .makeFunc (.func g) first caps => match prepXs first.toList, prepXs caps.toList with | some a, some b => some (.mkf g a b) | _, _ => none
  | .makeSlice t l c =>
    match P.underlying t, prepX l, prepX c with
    | some (.slice e), some l, some c => match P.info? e, zeroL P e with | some i, some z => if 0 < i.size ∧ 0 < i.bytes ∧ z.length = i.size then some (.mks i.size i.bytes z l c) else none | _, _ => none
    | _, _, _ => none
  | .slice t x lo hi mx =>
    match P.underlying t, prepX x, prepO lo, prepO hi, prepO mx with
    | some .string, some x, some lo, some hi, some none => some (.sstr x lo hi)
    | some (.slice e), some x, some lo, some hi, some mx => if (mx.isSome → hi.isSome) then (sizeL P e).map fun s => .sls s x lo hi mx else none
    | some (.array n e), some x, some lo, some hi, some mx => if (mx.isSome → hi.isSome) then (sizeL P e).map fun s => .sla n s x lo hi mx else none
    | _, _, _, _, _ => none
  | .fieldAddr t x f =>
    match P.underlying t, prepX x with
    | some (.struct fs), some x => match fs[f]? with | none => none | some fd => match sizeL P fd.type with | some (_ + 1) => some (.fa fd.offset x) | _ => none
    | _, _ => none
  | .field t x f =>
    match P.underlying t, prepX x with
    | some (.struct fs), some x => match fs[f]? with | none => none | some fd => match sizeL P fd.type, aggL P fd.type with | some s, some g => some (.fld g fd.offset s x) | _, _ => none
    | _, _ => none
  | .indexAddr t x i =>
    match P.underlying t, prepX x, prepX i with
    | some (.slice e), some x, some i => (sizeL P e).map fun s => .ias s x i
    | some (.array n e), some x, some i => (sizeL P e).map fun s => .iaa n s x i
    | _, _, _ => none
  | .index t x i =>
    match P.underlying t, prepX x, prepX i with
    | some .string, some x, some i => some (.ixs x i)
    | _, _, _ => none
  | .call c =>
    match c.callee, prepXs c.args.toList with
    | .value f, some l => (prepX f).map fun g => .call g l
    | .builtin b, some l => prepBuiltin P b c.argTypes.toList l
    | _, _ => none
  | .nilCheck x => (prepX x).map .nilc
  | .extract x i => (prepX x).map fun x => .ext x i
  | _ => none
end Go.Proofs.Ytpgelghkjiejlaa
end
section
namespace Go.Proofs.Ytpgelghkjiejlaa
open Go

def pushW (w : World) (o : Obj) : World := { w with heap := w.heap.push o }
theorem pushW_get (w : World) (o : Obj) (c : Nat) (hc : c < w.heap.size) : (pushW w o).heap[c]? = w.heap[c]? := by
  show (w.heap.push o)[c]? = _
  rw [Array.getElem?_push, if_neg (Nat.ne_of_lt hc)]
theorem pushW_new (w : World) (o : Obj) : (pushW w o).heap[w.heap.size]? = some o := by
  show (w.heap.push o)[_]? = _
  rw [Array.getElem?_push, if_pos rfl]

variable {pc : PrepC} {ρ : Ren} {n : Nat} {H : Heap} {w : World}

theorem Sim.fresh (s : Sim pc ρ n H w) : ρ n = none := by
  cases h : ρ n with
  | none => rfl
  | some x => exact absurd (s.sup n x h).1 (Nat.lt_irrefl _)
theorem Sim.key (s : Sim pc ρ n H w) {b : Nat} {k : Blk} (h : aget H b = some k) : b < n := by
  obtain ⟨c, d, z, e, _⟩ := s.blk b k h
  exact (s.sup b _ e).1
theorem Sim.noKey (s : Sim pc ρ n H w) : aget H n = none := by
  cases h : aget H n with
  | none => rfl
  | some k => exact absurd (s.key h) (Nat.lt_irrefl _)

/-- A new block. -/
theorem Sim.alloc (s : Sim pc ρ n H w) (k : Blk) (o : Obj) (z : Nat) (hk : k.own = true) (hb : ∀ ρ' : Ren, ρ.le ρ' → ρ' n = some (w.heap.size, 0, z) → BRel pc ρ' (pushW w o) w.heap.size 0 z k) :
    ρ.le (ρ.put n (w.heap.size, 0, z)) ∧ (ρ.put n (w.heap.size, 0, z)) n = some (w.heap.size, 0, z) ∧ Sim pc (ρ.put n (w.heap.size, 0, z)) (n + 1) ((n, k) :: H) (pushW w o) ∧
      Ext ρ n H w (ρ.put n (w.heap.size, 0, z)) (n + 1) ((n, k) :: H) (pushW w o) := by
  have hle : ρ.le (ρ.put n (w.heap.size, 0, z)) := Ren.le_put s.fresh
  have hn : (ρ.put n (w.heap.size, 0, z)) n = some (w.heap.size, 0, z) := by simp [Ren.put]
  have hne : ∀ b, b ≠ n → (ρ.put n (w.heap.size, 0, z)) b = ρ b := fun b h => by simp [Ren.put, h]
  have hsz : (pushW w o).heap.size = w.heap.size + 1 := by simp [pushW]
  have hget : ∀ b j, aget ((n, k) :: H) b = some j → (b = n ∧ j = k) ∨ (b ≠ n ∧ aget H b = some j) := fun b j h => by
    rw [aget_cons] at h
    by_cases hb : n = b
    · subst hb; rw [if_pos rfl] at h; cases h; exact .inl ⟨rfl, rfl⟩
    · rw [if_neg hb] at h; exact .inr ⟨fun e => hb e.symm, h⟩
  refine ⟨hle, hn, ⟨fun b x hb' => ?_, fun b j hb' => ?_, fun b1 b2 k1 k2 x1 x2 h1 h2 e1 e2 he ho => ?_⟩, ⟨Nat.le_succ _, hle, fun b x hb hx => by rw [hne b (Nat.ne_of_lt hb)] at hx; exact hx, rfl, rfl, rfl, Nat.le_refl _, by rw [hsz]; omega, fun c hc _ => pushW_get w o c hc, ?_⟩⟩
  · by_cases hbn : b = n
    · subst hbn; rw [hn] at hb'; cases hb'; exact ⟨by omega, by rw [hsz]; simp⟩
    · rw [hne b hbn] at hb'; have := s.sup b x hb'; rw [hsz]; omega
  · rcases hget b j hb' with ⟨rfl, rfl⟩ | ⟨hbn, hb'⟩
    · exact ⟨_, _, _, hn, hb _ hle hn⟩
    · obtain ⟨c, d, z', e, r⟩ := s.blk b j hb'
      exact ⟨c, d, z', (hne b hbn).trans e, r.mono hle (pushW_get w o c (s.sup b _ e).2)⟩
  · rcases hget b1 k1 h1 with ⟨rfl, rfl⟩ | ⟨hb1, h1⟩ <;> rcases hget b2 k2 h2 with ⟨rfl, rfl⟩ | ⟨hb2, h2⟩
    · rfl
    · rw [hn] at e1; cases e1; rw [hne b2 hb2] at e2
      have := (s.sup b2 x2 e2).2; simp at he; omega
    · rw [hn] at e2; cases e2; rw [hne b1 hb1] at e1
      have := (s.sup b1 x1 e1).2; simp at he; omega
    · rw [hne b1 hb1] at e1; rw [hne b2 hb2] at e2
      exact s.inj b1 b2 k1 k2 x1 x2 h1 h2 e1 e2 he ho
  · rintro c ⟨b, j, x, h1, h2, h3, h4⟩
    rcases hget b j h1 with ⟨rfl, rfl⟩ | ⟨hbn, h1⟩
    · rw [hn] at h3; cases h3; exact .inr (by simp at h4; omega)
    · rw [hne b hbn] at h3; exact .inl ⟨b, j, x, h1, h2, h3, h4⟩

/-- A new row. -/
theorem Sim.allocRow (s : Sim pc ρ n H w) (cs : List V) (arr : Array Value) (t : TypeId) (hl : cs.length ≤ arr.size) (r : ∀ (j : Nat) x, cs[j]? = some x → ∃ y, arr[j]? = some y ∧ VRel ρ x y) :
    ρ.le (ρ.put n (w.heap.size, 0, arr.size)) ∧ (ρ.put n (w.heap.size, 0, arr.size)) n = some (w.heap.size, 0, arr.size) ∧ Sim pc (ρ.put n (w.heap.size, 0, arr.size)) (n + 1) ((n, .row true cs) :: H) (pushW w (.cells arr t)) ∧
      Ext ρ n H w (ρ.put n (w.heap.size, 0, arr.size)) (n + 1) ((n, .row true cs) :: H) (pushW w (.cells arr t)) :=
  s.alloc (.row true cs) (.cells arr t) arr.size rfl fun ρ' hle _ => ⟨arr, t, (0, 0), pushW_new w _, rfl, by omega, fun j x hx => by
    obtain ⟨y, hy, hr⟩ := r j x hx
    exact ⟨y, by rw [Nat.zero_add]; exact hy, hr.mono hle⟩, fun _ j _ => by simp⟩

/-- A block laid anew. -/
theorem Sim.update (s : Sim pc ρ n H w) {id c d z : Nat} {k k' : Blk} (hk : aget H id = some k) (ho : k.own = true) (ho' : k'.own = true) (hρ : ρ id = some (c, d, z)) (o : Obj)
    (hb : BRel pc ρ (setBlk w c o) c d z k') : Sim pc ρ n (aput H id k') (setBlk w c o) ∧ Ext ρ n H w ρ n (aput H id k') (setBlk w c o) := by
  have hc : c < w.heap.size := (s.sup id _ hρ).2
  have hget : ∀ b j, aget (aput H id k') b = some j → (b = id ∧ j = k') ∨ (b ≠ id ∧ aget H b = some j) := fun b j h => by
    rw [aget_put] at h
    by_cases hb : id = b
    · subst hb; rw [if_pos rfl] at h; cases h; exact .inl ⟨rfl, rfl⟩
    · rw [if_neg hb] at h; exact .inr ⟨fun e => hb e.symm, h⟩
  refine ⟨⟨fun b x hb' => by rw [setBlk_size]; exact s.sup b x hb', fun b j hb' => ?_, fun b1 b2 k1 k2 x1 x2 h1 h2 e1 e2 he ho1 => ?_⟩, ⟨Nat.le_refl _, .refl _, fun _ _ _ h => h, rfl, rfl, rfl, Nat.le_refl _, by simp, fun e he hno => ?_, ?_⟩⟩
  · rcases hget b j hb' with ⟨rfl, rfl⟩ | ⟨hbn, hb'⟩
    · exact ⟨c, d, z, hρ, hb⟩
    · obtain ⟨c', d', z', e, r⟩ := s.blk b j hb'
      refine ⟨c', d', z', e, r.mono (.refl _) ?_⟩
      rw [setBlk_get _ _ _ _ hc, if_neg]
      rintro rfl
      exact hbn (s.inj id b k j _ _ hk hb' hρ e rfl ho).symm
  · have h1' : ∃ j1, aget H b1 = some j1 ∧ j1.own = true := by
      rcases hget b1 k1 h1 with ⟨rfl, rfl⟩ | ⟨_, h1⟩
      · exact ⟨k, hk, ho⟩
      · exact ⟨k1, h1, ho1⟩
    have h2' : ∃ j2, aget H b2 = some j2 := by
      rcases hget b2 k2 h2 with ⟨rfl, rfl⟩ | ⟨_, h2⟩
      · exact ⟨k, hk⟩
      · exact ⟨k2, h2⟩
    obtain ⟨j1, h1', o1⟩ := h1'
    obtain ⟨j2, h2'⟩ := h2'
    exact s.inj b1 b2 j1 j2 x1 x2 h1' h2' e1 e2 he o1
  · rw [setBlk_get _ _ _ _ hc, if_neg]
    rintro rfl
    exact hno ⟨id, k, _, hk, ho, hρ, rfl⟩
  · rintro e ⟨b, j, x, h1, h2, h3, h4⟩
    rcases hget b j h1 with ⟨rfl, rfl⟩ | ⟨_, h1⟩
    · exact .inl ⟨_, k, x, hk, ho, h3, h4⟩
    · exact .inl ⟨b, j, x, h1, h2, h3, h4⟩

/-- A block let go. -/
theorem Sim.del (s : Sim pc ρ n H w) (id : Nat) : Sim pc ρ n (adel H id) w ∧ Ext ρ n H w ρ n (adel H id) w := by
  have hget : ∀ b j, aget (adel H id) b = some j → aget H b = some j := fun b j h => by
    rw [aget_del] at h
    split at h
    · cases h
    · exact h
  exact ⟨⟨s.sup, fun b j h => s.blk b j (hget b j h), fun b1 b2 k1 k2 x1 x2 h1 h2 => s.inj b1 b2 k1 k2 x1 x2 (hget _ _ h1) (hget _ _ h2)⟩,
    ⟨Nat.le_refl _, .refl _, fun _ _ _ h => h, rfl, rfl, rfl, Nat.le_refl _, Nat.le_refl _, fun _ _ _ => rfl, fun c ⟨b, k, x, h1, h2⟩ => .inl ⟨b, k, x, hget _ _ h1, h2⟩⟩⟩

/-- A row written in its own block's room and known by a new id from then on (an append that fits): the old id is let go. -/
theorem Sim.move (s : Sim pc ρ n H w) {id c d z off : Nat} {cs cs' : List V} (hk : aget H id = some (.row true cs)) (hρ : ρ id = some (c, d, z)) (arr' : Array Value) (t : TypeId) (fr : Nat × Nat) (hz : arr'.size = z)
    (hfr : ∀ j, j < z → ¬ (fr.1 ≤ j ∧ j < fr.2)) (hl : d + off + cs'.length ≤ z) (r : ∀ (j : Nat) x, cs'[j]? = some x → ∃ y, arr'[d + off + j]? = some y ∧ VRel ρ x y) :
    ρ.le (ρ.put n (c, d + off, z)) ∧ (ρ.put n (c, d + off, z)) n = some (c, d + off, z) ∧ Sim pc (ρ.put n (c, d + off, z)) (n + 1) ((n, .row true cs') :: adel H id) (setBlk w c (.cells arr' t fr)) ∧
      Ext ρ n H w (ρ.put n (c, d + off, z)) (n + 1) ((n, .row true cs') :: adel H id) (setBlk w c (.cells arr' t fr)) := by
  have hc : c < w.heap.size := (s.sup id _ hρ).2
  have hle : ρ.le (ρ.put n (c, d + off, z)) := Ren.le_put s.fresh
  have hn : (ρ.put n (c, d + off, z)) n = some (c, d + off, z) := by simp [Ren.put]
  have hne : ∀ b, b ≠ n → (ρ.put n (c, d + off, z)) b = ρ b := fun b h => by simp [Ren.put, h]
  have hget : ∀ b j, aget ((n, Blk.row true cs') :: adel H id) b = some j → (b = n ∧ j = .row true cs') ∨ (b ≠ n ∧ b ≠ id ∧ aget H b = some j) := fun b j h => by
    rw [aget_cons] at h
    by_cases hb : n = b
    · subst hb; rw [if_pos rfl] at h; cases h; exact .inl ⟨rfl, rfl⟩
    · rw [if_neg hb, aget_del] at h
      by_cases hi : id = b
      · rw [if_pos hi] at h; cases h
      · rw [if_neg hi] at h; exact .inr ⟨fun e => hb e.symm, fun e => hi e.symm, h⟩
  have hother : ∀ b j x, b ≠ id → aget H b = some j → ρ b = some x → x.1 ≠ c := fun b j x hb h e he => hb (s.inj id b _ j _ _ hk h hρ e (by simpa using he.symm) rfl).symm
  refine ⟨hle, hn, ⟨fun b x hb' => ?_, fun b j hb' => ?_, fun b1 b2 k1 k2 x1 x2 h1 h2 e1 e2 he ho => ?_⟩, ⟨Nat.le_succ _, hle, fun b x hb hx => by rw [hne b (Nat.ne_of_lt hb)] at hx; exact hx, rfl, rfl, rfl, Nat.le_refl _, by simp, fun e he hno => ?_, ?_⟩⟩
  · by_cases hbn : b = n
    · subst hbn; rw [hn] at hb'; cases hb'; exact ⟨by omega, by rw [setBlk_size]; exact hc⟩
    · rw [hne b hbn] at hb'; have := s.sup b x hb'; rw [setBlk_size]; omega
  · rcases hget b j hb' with ⟨rfl, rfl⟩ | ⟨hbn, hbi, hb'⟩
    · exact ⟨_, _, _, hn, arr', t, fr, by rw [setBlk_get _ _ _ _ hc, if_pos rfl], hz, hl, fun j x hx => let ⟨y, hy, hr⟩ := r j x hx; ⟨y, hy, hr.mono hle⟩, fun _ => hfr⟩
    · obtain ⟨c', d', z', e, r'⟩ := s.blk b j hb'
      refine ⟨c', d', z', (hne b hbn).trans e, r'.mono hle ?_⟩
      rw [setBlk_get _ _ _ _ hc, if_neg fun h => hother b j _ hbi hb' e h.symm]
  · rcases hget b1 k1 h1 with ⟨rfl, rfl⟩ | ⟨hb1, hi1, g1⟩ <;> rcases hget b2 k2 h2 with ⟨rfl, rfl⟩ | ⟨hb2, hi2, g2⟩
    · rfl
    · rw [hn] at e1; cases e1; rw [hne b2 hb2] at e2
      exact absurd he.symm (hother b2 k2 x2 hi2 g2 e2)
    · rw [hn] at e2; cases e2; rw [hne b1 hb1] at e1
      exact absurd he (hother b1 k1 x1 hi1 g1 e1)
    · rw [hne b1 hb1] at e1; rw [hne b2 hb2] at e2
      exact s.inj b1 b2 k1 k2 x1 x2 g1 g2 e1 e2 he ho
  · rw [setBlk_get _ _ _ _ hc, if_neg]
    rintro rfl
    exact hno ⟨id, _, _, hk, rfl, hρ, rfl⟩
  · rintro e ⟨b, j, x, h1, h2, h3, h4⟩
    rcases hget b j h1 with ⟨rfl, rfl⟩ | ⟨hbn, _, h1⟩
    · rw [hn] at h3; cases h3; exact .inl ⟨id, _, _, hk, rfl, hρ, h4⟩
    · rw [hne b hbn] at h3; exact .inl ⟨b, j, x, h1, h2, h3, h4⟩
end Go.Proofs.Ytpgelghkjiejlaa
end
section
namespace Go.Proofs.Ytpgelghkjiejlaa
open Go

theorem oneOf_rel {ρ : Ren} {y : Value} {v : V} (h : oneOf y = some v) : VRel ρ v y := by
  unfold oneOf at h
  split at h <;> cases h
  · exact .b _
  · exact .i _ _
  · exact .s rfl
  · exact .nilp
  · exact .nils
  · exact .nilf
  · exact .nili
theorem oneAll_rel {ρ : Ren} : ∀ {ys : List Value} {vs : List V}, oneAll ys = some vs → VRelL ρ vs ys := by
  intro ys
  induction ys with
  | nil => intro vs h; cases h; exact .nil
  | cons y ys ih =>
    intro vs h
    simp only [oneAll] at h
    split at h
    · rename_i v l h1 h2
      cases h
      exact .cons (oneOf_rel h1) (ih h2)
    · cases h
theorem ofConst_rel {ρ : Ren} {y : Value} {v : V} (h : ofConst y = some v) : VRel ρ v y := by
  unfold ofConst at h
  split at h
  · obtain ⟨l, h1, rfl⟩ := Option.map_eq_some_iff.1 h
    exact (oneAll_rel h1).to_ag
  · obtain ⟨l, h1, rfl⟩ := Option.map_eq_some_iff.1 h
    exact (oneAll_rel h1).to_tu
  · exact oneOf_rel h
theorem getD_undef (a : Act) (t : Nat) : a.eval (.tmp t) = a.tmps.getD t undef := rfl
theorem prepX_rel {ρ : Ren} {N : Nat} {T : Temps} {a : Act} (tr : TRel ρ N T a.tmps) {x : Operand} {ax : AX} (h : prepX x = some ax) : VRel ρ (ax.val T) (a.eval x) := by
  cases x with
  | tmp t =>
    simp only [prepX] at h
    cases h
    simp only [AX.val]
    cases hv : aget T t with
    | none => exact .un _
    | some v =>
      obtain ⟨y, hy, r⟩ := tr.2 t v hv
      rw [getD_undef, Array.getD_eq_getD_getElem?, hy]
      exact r
  | const v =>
    simp only [prepX] at h
    obtain ⟨u, h1, rfl⟩ := Option.map_eq_some_iff.1 h
    exact ofConst_rel h1
  | global g => simp [prepX] at h
  | func f =>
    simp only [prepX] at h
    cases h
    exact .fn rfl (fun j x y hx => by simp at hx) rfl (fun j x y hx => by simp at hx)
theorem prepXs_rel {ρ : Ren} {N : Nat} {T : Temps} {a : Act} (tr : TRel ρ N T a.tmps) : ∀ {xs : List Operand} {l : List AX}, prepXs xs = some l → VRelL ρ (l.map (·.val T)) (xs.map a.eval) := by
  intro xs
  induction xs with
  | nil => intro l h; cases h; exact .nil
  | cons x xs ih =>
    intro l h
    simp only [prepXs] at h
    split at h
    · rename_i v l' h1 h2
      cases h
      exact .cons (prepX_rel tr h1) (ih h2)
    · cases h

section runs
variable {P : Program} {w : World}
theorem run_info {t : TypeId} {i : TypeInfo} (h : P.info? t = some i) : (typeInfo t).run P w = .ok i w := by
  simp [typeInfo, program, Sem.run, h, pure]
theorem run_sizeL {t : TypeId} {s : Nat} (h : sizeL P t = some s) : (sizeOf t).run P w = .ok s w := by
  obtain ⟨i, h1, rfl⟩ := Option.map_eq_some_iff.1 h
  simp [sizeOf, run_info h1]
theorem run_under {t : TypeId} {d : TypeDesc} (h : P.underlying t = some d) : (underlying t).run P w = .ok d w := run_underlying h w
theorem run_aggL {t : TypeId} {g : Bool} (h : aggL P t = some g) : (isAgg t).run P w = .ok g w := by
  unfold aggL at h
  split at h
  · rename_i h1; cases h; simp [isAgg, run_under h1]
  · rename_i h1; cases h; simp [isAgg, run_under h1]
  · rename_i d hs ha h1
    cases h
    simp only [isAgg, Sem.run_bind, run_under h1, Result.andThen_ok]
    rfl
  · cases h
theorem zeroL_inv {ρ : Ren} {t : TypeId} {z : List V} (h : zeroL P t = some z) : ∃ zv, (zeroValue t).run P w = .ok zv w ∧ VRelL ρ z zv.cells.toList := by
  unfold zeroL at h
  split at h
  · rename_i i hi
    split at h
    · rename_i zv hz
      refine ⟨zv, ?_, oneAll_rel h⟩
      simp [zeroValue, run_info hi, hz]
    · cases h
  · cases h
end runs

/-- A Sem of a value that comes to v. -/
def Gets (pc : PrepC) (P : Program) (ρ : Ren) (n : Nat) (H : Heap) (w : World) (s : Sem Value) (v : V) (n' : Nat) (H' : Heap) : Prop :=
  ∃ y w' ρ', s.run P w = .ok y w' ∧ VRel ρ' v y ∧ Sim pc ρ' n' H' w' ∧ Ext ρ n H w ρ' n' H' w'
def GetsU (pc : PrepC) (P : Program) (ρ : Ren) (n : Nat) (H : Heap) (w : World) (s : Sem Unit) (n' : Nat) (H' : Heap) : Prop :=
  ∃ w' ρ', s.run P w = .ok () w' ∧ Sim pc ρ' n' H' w' ∧ Ext ρ n H w ρ' n' H' w'

section ops
variable {pc : PrepC} {P : Program} {ρ : Ren} {n : Nat} {H : Heap} {w : World}
theorem Gets.pure (s : Sim pc ρ n H w) {sem : Sem Value} {v : V} {y : Value} (h : sem.run P w = .ok y w) (r : VRel ρ v y) : Gets pc P ρ n H w sem v n H :=
  ⟨y, w, ρ, h, r, s, .refl _ _ _ _⟩

theorem run_newVar (t : TypeId) (y : Value) : (newVar t y).run P w = .ok ⟨w.heap.size, 0, none⟩ (pushW w (.cells y.cells t)) := by
  simp [newVar, newRow, newObj, Sem.run, pushW]
theorem run_newRow (t : TypeId) (cs : Array Value) : (newRow t cs).run P w = .ok ⟨w.heap.size, 0, none⟩ (pushW w (.cells cs t)) := by
  simp [newRow, newObj, Sem.run, pushW]
theorem rel_get {cs : List V} {arr : Array Value} (r : VRelL ρ cs arr.toList) : ∀ (j : Nat) x, cs[j]? = some x → ∃ y, arr[j]? = some y ∧ VRel ρ x y := fun j x hx => by
  obtain ⟨y, hy, hr⟩ := r.get hx
  exact ⟨y, by simpa using hy, hr⟩
theorem gets_newVar (s : Sim pc ρ n H w) {t : TypeId} {cs : List V} {y : Value} (r : VRelL ρ cs y.cells.toList) :
    Gets pc P ρ n H w (do pure (.pointer (some (← newVar t y)))) (.p n 0) (n + 1) ((n, .row true cs) :: H) := by
  obtain ⟨hle, hn, hs, he⟩ := s.allocRow cs y.cells t (by simp [r.1]) (rel_get r)
  exact ⟨_, _, _, by simp [run_newVar], .p hn rfl, hs, he⟩
theorem gets_new (s : Sim pc ρ n H w) {t : TypeId} {z : List V} (h : zeroL P t = some z) {v : V} {n' : Nat} {H' : Heap} (e : evNew n H z = some (v, n', H')) :
    Gets pc P ρ n H w (Instr.alloc t true (.tuple #[])) v n' H' := by
  cases e
  obtain ⟨zv, h1, h2⟩ := zeroL_inv (w := w) (ρ := ρ) h
  obtain ⟨y, w', ρ', hr, rest⟩ := gets_newVar (P := P) s (t := t) h2
  refine ⟨y, w', ρ', ?_, rest⟩
  simp only [Instr.alloc, Sem.run_bind, h1, Result.andThen_ok]
  simpa using hr
theorem known_ne {v : V} (h : v.known = true) : v ≠ .un := by rintro rfl; cases h
theorem gets_box (s : Sim pc ρ n H w) {t : TypeId} {x : V} {y : Value} (r : VRel ρ x y) {v : V} {n' : Nat} {H' : Heap} (e : (if x.known then evNew n H x.cells else none) = some (v, n', H')) :
    Gets pc P ρ n H w (Instr.box t y) v n' H' := by
  split at e
  · rename_i hk
    cases e
    simpa [Instr.box] using gets_newVar (P := P) s (t := t) (r.cells (known_ne hk))
  · cases e

/-- The block behind a row. -/
theorem Sim.row (s : Sim pc ρ n H w) {id : Nat} {own : Bool} {cs : List V} (h : aget H id = some (.row own cs)) {c d z : Nat} (hρ : ρ id = some (c, d, z)) :
    ∃ arr t fr, w.heap[c]? = some (.cells arr t fr) ∧ arr.size = z ∧ d + cs.length ≤ z ∧ VRelL ρ cs ((arr.toList.drop d).take cs.length) ∧ (own = true → ∀ j, j < z → ¬ (fr.1 ≤ j ∧ j < fr.2)) := by
  obtain ⟨c', d', z', e, arr, t, fr, h1, h2, h3, h4, h5⟩ := s.blk id _ h
  rw [hρ] at e
  cases e
  refine ⟨arr, t, fr, h1, h2, h3, ⟨by simp; omega, fun j x y hx hy => ?_⟩, h5⟩
  obtain ⟨y', hy', r⟩ := h4 j x hx
  rw [List.getElem?_take] at hy
  split at hy
  · rw [List.getElem?_drop] at hy
    simp only [Array.getElem?_toList] at hy
    rw [hy] at hy'
    cases hy'
    exact r
  · cases hy
theorem Sim.ren (s : Sim pc ρ n H w) {id : Nat} {k : Blk} (h : aget H id = some k) : ∃ c d z, ρ id = some (c, d, z) := let ⟨c, d, z, e, _⟩ := s.blk id k h; ⟨c, d, z, e⟩

theorem gets_ld_pure (s : Sim pc ρ n H w) {t : TypeId} {g : Bool} {sz : Nat} (hg : aggL P t = some g) (hs : sizeL P t = some sz) {x : V} {y : Value} (r : VRel ρ x y) {v : V} {n' : Nat} {H' : Heap}
    (e : evLd n H g sz x = some (v, n', H')) : ∃ y' w' ρ', (Instr.loadAt t y).run P w = .ok y' w' ∧ VRel ρ' v y' ∧ w' = w ∧ ρ' = ρ := by
  unfold evLd at e
  split at e
  · rename_i id off
    split at e
    · rename_i own cs hb
      cases r with
      | @p _ _ c d z o hρ ho =>
      obtain ⟨arr, ty, fr, h1, h2, h3, h4, _⟩ := s.row hb hρ
      split at e
      · rename_i hgt
        subst hgt
        split at e
        · rename_i hlen
          cases e
          refine ⟨.agg (arr.extract o (o + sz)), w, ρ, ?_, ?_, rfl, rfl⟩
          · simp [Instr.loadAt, Instr.sureAddr, loadVar, run_aggL hg, run_sizeL hs, run_loadCells_at h1 (show o + sz ≤ arr.size by omega)]
          · apply VRelL.to_ag
            have := (h4.drop off).take sz
            rw [List.drop_take, List.take_take, List.drop_drop] at this
            rw [Array.toList_extract, List.extract_eq_take_drop, ho]
            rw [Nat.min_eq_left (by omega)] at this
            rw [show d + off + sz - (d + off) = sz by omega]
            exact this
        · cases e
      · rename_i hgf
        split at e
        · rename_i v' hv
          cases e
          obtain ⟨yv, hy, hr⟩ := h4.get hv
          rw [List.getElem?_take] at hy
          split at hy
          · rw [List.getElem?_drop] at hy
            refine ⟨yv, w, ρ, ?_, hr, rfl, rfl⟩
            have hg' : g = false := by simpa using hgf
            subst hg'
            simp only [Instr.loadAt, Instr.sureAddr, loadVar, Sem.run_bind, Sem.run_pure, Result.andThen_ok, run_aggL hg]
            exact run_load_at h1 (by rw [ho]; simpa using hy)
          · cases hy
        · cases e
    · cases e
  · cases e
theorem gets_ld (s : Sim pc ρ n H w) {t : TypeId} {g : Bool} {sz : Nat} (hg : aggL P t = some g) (hs : sizeL P t = some sz) {x : V} {y : Value} (r : VRel ρ x y) {v : V} {n' : Nat} {H' : Heap}
    (e : evLd n H g sz x = some (v, n', H')) : Gets pc P ρ n H w (Instr.loadAt t y) v n' H' := by
  obtain ⟨y', w', ρ', h1, h2, rfl, rfl⟩ := gets_ld_pure s hg hs r e
  have hsame : n' = n ∧ H' = H := by
    unfold evLd at e
    split at e
    · split at e
      · split at e
        · split at e
          · cases e; exact ⟨rfl, rfl⟩
          · cases e
        · split at e
          · cases e; exact ⟨rfl, rfl⟩
          · cases e
      · cases e
    · cases e
  obtain ⟨rfl, rfl⟩ := hsame
  exact .pure s h1 h2
end ops
end Go.Proofs.Ytpgelghkjiejlaa
end
