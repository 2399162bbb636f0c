/- The code that a walk goes over (sizes and zeros reckoned out), the abstract heap's blocks, and what it is for a world to bear them. -/
import Derived.Test.YtpgelghkjiejlaaSmA
set_option linter.unusedVariables false
set_option linter.unusedSimpArgs false
namespace Go.Proofs.Ytpgelghkjiejlaa
open Go

inductive AX where
  | t (i : Nat)
  | c (v : V)
  | f (g : FuncId)
  deriving Inhabited

inductive AOp where
  | mv (x : AX)
  | pick (c a b : AX)
  | new (z : List V)
  | box (x : AX)
  | build (z : List V) (ps : List (Nat × Nat × AX))
  | lit (sz len : Nat) (z : List V) (ps : List (Nat × AX))
  | ld (agg : Bool) (n : Nat) (a : AX)
  | st (n : Nat) (a x : AX)
  | bin (op : BinOp) (x y : AX)
  | eqs (neg : Bool) (ks : List Nat) (x y : AX)
  | eq1 (neg : Bool) (k : Nat) (x y : AX)
  | un (op : UnOp) (x : AX)
  | conv (k : IntKind) (x : AX)
  | mkf (g : FuncId) (first caps : List AX)
  | mks (sz bytes : Nat) (z : List V) (len cap : AX)
  | sls (sz : Nat) (x : AX) (lo hi mx : Option AX)
  | sla (n sz : Nat) (x : AX) (lo hi mx : Option AX)
  | sstr (x : AX) (lo hi : Option AX)
  | fa (off : Nat) (x : AX)
  | fld (agg : Bool) (off n : Nat) (x : AX)
  | ias (sz : Nat) (x i : AX)
  | iaa (len sz : Nat) (x i : AX)
  | ixs (x i : AX)
  | blen (str : Bool) (x : AX)
  | bmin (xs : List AX)
  | bmax (xs : List AX)
  | app (sz bytes : Nat) (z : List V) (s x : AX)
  | cpy (sz : Nat) (d s : AX)
  | clr (sz : Nat) (z : List V) (x : AX)
  | call (g : AX) (args : List AX)
  | nilc (x : AX)
  | ext (x : AX) (i : Nat)
  | b2s (x : AX)
  deriving Inhabited

structure AOper where
  dst : Option Nat
  op : AOp
  guard : Option (Option Nat × Bool)
  deriving Inhabited

/-- 'draw': for each operation of a region that draws its order, the numbers of those that come ahead of it in whatever order, as a number's bits. -/
inductive ACode where
  | skip
  | ops (draw : Option (List Nat)) (l : List AOper)
  | seq (a b : ACode)
  | cond (c : AX) (thn els : ACode)
  | block (id : Nat) (body : ACode)
  | loop (body : ACode)
  | rangeF (g : AX) (params : List Nat) (assign body : ACode)
  | exit (id : Nat)
  | ret
  | scope (body : ACode)
  deriving Inhabited

inductive AJump where
  | ret
  | exit (id : Nat)

structure ALoop where
  st : LoopState
  pend : Option AJump
  N : Nat
  T : List (Nat × V)
  params : List Nat
  assign : ACode
  body : ACode
  marks : Nat

inductive Blk where
  | row (own : Bool) (cs : List V)
  | loop (r : ALoop)
  | marks
def Blk.own : Blk → Bool
  | .row o _ => o
  | _ => true

abbrev Heap := List (Nat × Blk)
abbrev Temps := List (Nat × V)

def AX.val (T : Temps) : AX → V
  | .t i => (aget T i).getD .un
  | .c v => v
  | .f g => .fn g [] []

def TRel (ρ : Ren) (N : Nat) (T : Temps) (tmps : Array Value) : Prop :=
  tmps.size = N ∧ ∀ i v, aget T i = some v → ∃ y, tmps[i]? = some y ∧ VRel ρ v y

def AJump.code : AJump → Code
  | .ret => .ret
  | .exit id => .exit id

/-- What the preparation of a program's code says (a parameter here, so that blocks may speak of it). -/
abbrev PrepC := Nat → Code → Option ACode

structure LRel (pc : PrepC) (ρ : Ren) (r : ALoop) (L : Loop) : Prop where
  st : L.state = r.st
  pend : L.pending = r.pend.map AJump.code
  tm : TRel ρ r.N r.T L.tmps
  params : L.params.toList = r.params
  assign : pc r.N L.assign = some r.assign
  body : pc r.N L.body = some r.body
  marks : ∃ d z, ρ r.marks = some (L.defers, d, z)

def BRel (pc : PrepC) (ρ : Ren) (w : World) (c d z : Nat) : Blk → Prop
  | .row own cs => ∃ arr t fr, w.heap[c]? = some (.cells arr t fr) ∧ arr.size = z ∧ d + cs.length ≤ z ∧
      (∀ (j : Nat) x, cs[j]? = some x → ∃ y, arr[d + j]? = some y ∧ VRel ρ x y) ∧ (own = true → ∀ j, j < z → ¬ (fr.1 ≤ j ∧ j < fr.2))
  | .loop r => ∃ L, w.heap[c]? = some (.loop L) ∧ LRel pc ρ r L
  | .marks => w.heap[c]? = some (.deferred (some []))

structure Sim (pc : PrepC) (ρ : Ren) (n : Nat) (H : Heap) (w : World) : Prop where
  sup : ∀ b x, ρ b = some x → b < n ∧ x.1 < w.heap.size
  blk : ∀ b k, aget H b = some k → ∃ c d z, ρ b = some (c, d, z) ∧ BRel pc ρ w c d z k
  inj : ∀ b1 b2 k1 k2 x1 x2, aget H b1 = some k1 → aget H b2 = some k2 → ρ b1 = some x1 → ρ b2 = some x2 → x1.1 = x2.1 → k1.own = true → b1 = b2

def OwnC (ρ : Ren) (H : Heap) (c : Nat) : Prop := ∃ b k x, aget H b = some k ∧ k.own = true ∧ ρ b = some x ∧ x.1 = c

structure Ext (ρ : Ren) (n : Nat) (H : Heap) (w : World) (ρ' : Ren) (n' : Nat) (H' : Heap) (w' : World) : Prop where
  le : n ≤ n'
  ren : ρ.le ρ'
  old : ∀ b x, b < n → ρ' b = some x → ρ b = some x
  os : w'.os = w.os
  tape : w'.tape = w.tape
  output : w'.output = w.output
  drawn : w.drawn ≤ w'.drawn
  size : w.heap.size ≤ w'.heap.size
  frame : ∀ c, c < w.heap.size → ¬ OwnC ρ H c → w'.heap[c]? = w.heap[c]?
  own : ∀ c, OwnC ρ' H' c → OwnC ρ H c ∨ w.heap.size ≤ c

theorem TRel.mono {ρ ρ' : Ren} (h : ρ.le ρ') {N : Nat} {T : Temps} {tmps : Array Value} (r : TRel ρ N T tmps) : TRel ρ' N T tmps := ⟨r.1, fun i v hv => let ⟨y, hy, hr⟩ := r.2 i v hv; ⟨y, hy, hr.mono h⟩⟩
theorem LRel.mono {pc : PrepC} {ρ ρ' : Ren} (h : ρ.le ρ') {r : ALoop} {L : Loop} (l : LRel pc ρ r L) : LRel pc ρ' r L :=
  ⟨l.st, l.pend, l.tm.mono h, l.params, l.assign, l.body, let ⟨d, z, e⟩ := l.marks; ⟨d, z, h _ _ e⟩⟩
theorem BRel.mono {pc : PrepC} {ρ ρ' : Ren} {w w' : World} {c d z : Nat} {k : Blk} (h : ρ.le ρ') (hw : w'.heap[c]? = w.heap[c]?) (r : BRel pc ρ w c d z k) : BRel pc ρ' w' c d z k := by
  cases k with
  | row own cs =>
    obtain ⟨arr, t, fr, h1, h2, h3, h4, h5⟩ := r
    exact ⟨arr, t, fr, hw.trans h1, h2, h3, fun j x hx => let ⟨y, hy, hr⟩ := h4 j x hx; ⟨y, hy, hr.mono h⟩, h5⟩
  | loop r' => obtain ⟨L, h1, h2⟩ := r; exact ⟨L, hw.trans h1, h2.mono h⟩
  | marks => exact hw.trans r

theorem Ext.refl (ρ : Ren) (n : Nat) (H : Heap) (w : World) : Ext ρ n H w ρ n H w :=
  ⟨Nat.le_refl _, .refl _, fun _ _ _ h => h, rfl, rfl, rfl, Nat.le_refl _, Nat.le_refl _, fun _ _ _ => rfl, fun _ h => .inl h⟩
theorem Ext.trans {ρ ρ' ρ'' : Ren} {n n' n'' : Nat} {H H' H'' : Heap} {w w' w'' : World} (h : Ext ρ n H w ρ' n' H' w') (h' : Ext ρ' n' H' w' ρ'' n'' H'' w'') :
    Ext ρ n H w ρ'' n'' H'' w'' where
  le := Nat.le_trans h.le h'.le
  ren := h.ren.trans h'.ren
  old := fun b x hb hx => h.old b x hb (h'.old b x (Nat.lt_of_lt_of_le hb h.le) hx)
  os := h'.os.trans h.os
  tape := h'.tape.trans h.tape
  output := h'.output.trans h.output
  drawn := Nat.le_trans h.drawn h'.drawn
  size := Nat.le_trans h.size h'.size
  frame := fun c hc ho => by
    rw [h'.frame c (Nat.lt_of_lt_of_le hc h.size) fun hh => ?_, h.frame c hc ho]
    rcases h.own c hh with h1 | h1
    · exact ho h1
    · omega
  own := fun c hc => by
    rcases h'.own c hc with h1 | h1
    · exact h.own c h1
    · exact .inr (Nat.le_trans h.size h1)

/-- Draws leave everything as it stood. -/
theorem Sim.congr {pc : PrepC} {ρ : Ren} {n : Nat} {H : Heap} {w w' : World} (s : Sim pc ρ n H w) (h : w'.heap = w.heap) : Sim pc ρ n H w' :=
  ⟨fun b x hb => by rw [h]; exact s.sup b x hb, fun b k hb => let ⟨c, d, z, e, r⟩ := s.blk b k hb; ⟨c, d, z, e, r.mono (.refl _) (by rw [h])⟩, s.inj⟩
theorem Ext.of_draw {ρ : Ren} {n : Nat} {H : Heap} {w w' : World} (h : w'.heap = w.heap) (h1 : w'.os = w.os) (h2 : w'.tape = w.tape) (h3 : w'.output = w.output) (h4 : w.drawn ≤ w'.drawn) : Ext ρ n H w ρ n H w' :=
  ⟨Nat.le_refl _, .refl _, fun _ _ _ h => h, h1, h2, h3, h4, by rw [h]; exact Nat.le_refl _, fun c _ _ => by rw [h], fun _ h => .inl h⟩

/-- Less is known: fewer blocks, a smaller next id (everything that is kept lies below it). -/
structure Heap.less (n₀ : Nat) (H₀ : Heap) (n : Nat) (H : Heap) : Prop where
  le : n₀ ≤ n
  get : ∀ b k, aget H₀ b = some k → aget H b = some k
  clo : n₀ = n ∨ (∀ b k, aget H₀ b = some k → b < n₀ ∧ match k with
    | .row _ cs => ∀ x ∈ cs, VIn n₀ x
    | .loop r => r.marks < n₀ ∧ ∀ i v, aget r.T i = some v → VIn n₀ v
    | .marks => True)
def Temps.less (n₀ : Nat) (T₀ : Temps) (n : Nat) (T : Temps) : Prop := ∀ i v, aget T₀ i = some v → aget T i = some v ∧ (n₀ = n ∨ VIn n₀ v)

theorem Sim.cut_eq {pc : PrepC} {ρ : Ren} {n : Nat} {H : Heap} {w : World} (s : Sim pc ρ n H w) : ρ.cut n = ρ := by
  funext b
  unfold Ren.cut
  split
  · rfl
  · rename_i hb
    cases hr : ρ b with
    | none => rfl
    | some x => exact absurd (s.sup b x hr).1 hb
theorem TRel.less {ρ : Ren} {n n₀ N : Nat} {T T₀ : Temps} {tmps : Array Value} (hcut : ρ.cut n = ρ) (r : TRel ρ N T tmps) (h : Temps.less n₀ T₀ n T) : TRel (ρ.cut n₀) N T₀ tmps :=
  ⟨r.1, fun i v hv => by
    obtain ⟨h1, h2⟩ := h i v hv
    obtain ⟨y, hy, this⟩ := r.2 i v h1
    refine ⟨y, hy, ?_⟩
    rcases h2 with rfl | h2
    · rw [hcut]; exact this
    · exact this.cut h2⟩
theorem Sim.less {pc : PrepC} {ρ : Ren} {n n₀ : Nat} {H H₀ : Heap} {w : World} (s : Sim pc ρ n H w) (h : Heap.less n₀ H₀ n H) : Sim pc (ρ.cut n₀) n₀ H₀ w := by
  rcases h.clo with rfl | hclo
  · rw [s.cut_eq]
    exact ⟨s.sup, fun b k hb => s.blk b k (h.get b k hb), fun b1 b2 k1 k2 x1 x2 h1 h2 => s.inj b1 b2 k1 k2 x1 x2 (h.get _ _ h1) (h.get _ _ h2)⟩
  · have hcutle : ∀ b x, ρ.cut n₀ b = some x → ρ b = some x ∧ b < n₀ := fun b x hb => by
      unfold Ren.cut at hb
      split at hb
      · exact ⟨hb, by assumption⟩
      · cases hb
    refine ⟨fun b x hb => ⟨(hcutle b x hb).2, (s.sup b x (hcutle b x hb).1).2⟩, fun b k hb => ?_, fun b1 b2 k1 k2 x1 x2 h1 h2 e1 e2 => s.inj b1 b2 k1 k2 x1 x2 (h.get _ _ h1) (h.get _ _ h2) (hcutle _ _ e1).1 (hcutle _ _ e2).1⟩
    obtain ⟨hlt, hk⟩ := hclo b k hb
    obtain ⟨c, d, z, e, r⟩ := s.blk b k (h.get b k hb)
    refine ⟨c, d, z, by unfold Ren.cut; rw [if_pos hlt]; exact e, ?_⟩
    cases k with
    | row own cs =>
      obtain ⟨arr, t, fr, h1, h2, h3, h4, h5⟩ := r
      exact ⟨arr, t, fr, h1, h2, h3, fun j x hx => let ⟨y, hy, hr⟩ := h4 j x hx; ⟨y, hy, hr.cut (hk x (List.mem_of_getElem? hx))⟩, h5⟩
    | loop r' =>
      obtain ⟨L, h1, l⟩ := r
      refine ⟨L, h1, l.st, l.pend, ⟨l.tm.1, fun i v hv => let ⟨y, hy, hr⟩ := l.tm.2 i v hv; ⟨y, hy, hr.cut (hk.2 i v hv)⟩⟩, l.params, l.assign, l.body, ?_⟩
      obtain ⟨d, z, e⟩ := l.marks
      exact ⟨d, z, by unfold Ren.cut; rw [if_pos hk.1]; exact e⟩
    | marks => exact r
theorem Ext.less {pc : PrepC} {ρ ρ' : Ren} {n n' n₀ : Nat} {H H' H₀ : Heap} {w w' : World} (s : Sim pc ρ n H w) (h : Ext ρ n H w ρ' n' H' w') (hn : n ≤ n₀) (hl : Heap.less n₀ H₀ n' H') :
    Ext ρ n H w (ρ'.cut n₀) n₀ H₀ w' where
  le := hn
  ren := fun b x hb => by
    have := (s.sup b x hb).1
    unfold Ren.cut
    rw [if_pos (by omega)]
    exact h.ren b x hb
  old := fun b x hb hx => by
    unfold Ren.cut at hx
    split at hx
    · exact h.old b x hb hx
    · cases hx
  os := h.os
  tape := h.tape
  output := h.output
  drawn := h.drawn
  size := h.size
  frame := h.frame
  own := fun c ⟨b, k, x, h1, h2, h3, h4⟩ => by
    refine h.own c ⟨b, k, x, hl.get b k h1, h2, ?_, h4⟩
    unfold Ren.cut at h3
    split at h3
    · exact h3
    · cases h3
end Go.Proofs.Ytpgelghkjiejlaa
