/- New blocks, blocks laid anew, blocks let go, in a world that bears an abstract heap. -/
import Derived.Test.YtpgelghkjiejlaaSmD
set_option linter.unusedVariables false
set_option linter.unusedSimpArgs false
namespace Go.Proofs.Ytpgelghkjiejlaa
open Go

def pushW (w : World) (o : Obj) : World := { w with heap := w.heap.push o }
theorem pushW_get (w : World) (o : Obj) (c : Nat) (hc : c < w.heap.size) : (pushW w o).heap[c]? = w.heap[c]? := by
  show (w.heap.push o)[c]? = _
  rw [Array.getElem?_push, if_neg (Nat.ne_of_lt hc)]
theorem pushW_new (w : World) (o : Obj) : (pushW w o).heap[w.heap.size]? = some o := by
  show (w.heap.push o)[_]? = _
  rw [Array.getElem?_push, if_pos rfl]

variable {pc : PrepC} {ρ : Ren} {n : Nat} {H : Heap} {w : World}

theorem Sim.fresh (s : Sim pc ρ n H w) : ρ n = none := by
  cases h : ρ n with
  | none => rfl
  | some x => exact absurd (s.sup n x h).1 (Nat.lt_irrefl _)
theorem Sim.key (s : Sim pc ρ n H w) {b : Nat} {k : Blk} (h : aget H b = some k) : b < n := by
  obtain ⟨c, d, z, e, _⟩ := s.blk b k h
  exact (s.sup b _ e).1
theorem Sim.noKey (s : Sim pc ρ n H w) : aget H n = none := by
  cases h : aget H n with
  | none => rfl
  | some k => exact absurd (s.key h) (Nat.lt_irrefl _)

/-- A new block. -/
theorem Sim.alloc (s : Sim pc ρ n H w) (k : Blk) (o : Obj) (z : Nat) (hk : k.own = true) (hb : ∀ ρ' : Ren, ρ.le ρ' → ρ' n = some (w.heap.size, 0, z) → BRel pc ρ' (pushW w o) w.heap.size 0 z k) :
    ρ.le (ρ.put n (w.heap.size, 0, z)) ∧ (ρ.put n (w.heap.size, 0, z)) n = some (w.heap.size, 0, z) ∧ Sim pc (ρ.put n (w.heap.size, 0, z)) (n + 1) ((n, k) :: H) (pushW w o) ∧
      Ext ρ n H w (ρ.put n (w.heap.size, 0, z)) (n + 1) ((n, k) :: H) (pushW w o) := by
  have hle : ρ.le (ρ.put n (w.heap.size, 0, z)) := Ren.le_put s.fresh
  have hn : (ρ.put n (w.heap.size, 0, z)) n = some (w.heap.size, 0, z) := by simp [Ren.put]
  have hne : ∀ b, b ≠ n → (ρ.put n (w.heap.size, 0, z)) b = ρ b := fun b h => by simp [Ren.put, h]
  have hsz : (pushW w o).heap.size = w.heap.size + 1 := by simp [pushW]
  have hget : ∀ b j, aget ((n, k) :: H) b = some j → (b = n ∧ j = k) ∨ (b ≠ n ∧ aget H b = some j) := fun b j h => by
    rw [aget_cons] at h
    by_cases hb : n = b
    · subst hb; rw [if_pos rfl] at h; cases h; exact .inl ⟨rfl, rfl⟩
    · rw [if_neg hb] at h; exact .inr ⟨fun e => hb e.symm, h⟩
  refine ⟨hle, hn, ⟨fun b x hb' => ?_, fun b j hb' => ?_, fun b1 b2 k1 k2 x1 x2 h1 h2 e1 e2 he ho => ?_⟩, ⟨Nat.le_succ _, hle, fun b x hb hx => by rw [hne b (Nat.ne_of_lt hb)] at hx; exact hx, rfl, rfl, rfl, Nat.le_refl _, by rw [hsz]; omega, fun c hc _ => pushW_get w o c hc, ?_⟩⟩
  · by_cases hbn : b = n
    · subst hbn; rw [hn] at hb'; cases hb'; exact ⟨by omega, by rw [hsz]; simp⟩
    · rw [hne b hbn] at hb'; have := s.sup b x hb'; rw [hsz]; omega
  · rcases hget b j hb' with ⟨rfl, rfl⟩ | ⟨hbn, hb'⟩
    · exact ⟨_, _, _, hn, hb _ hle hn⟩
    · obtain ⟨c, d, z', e, r⟩ := s.blk b j hb'
      exact ⟨c, d, z', (hne b hbn).trans e, r.mono hle (pushW_get w o c (s.sup b _ e).2)⟩
  · rcases hget b1 k1 h1 with ⟨rfl, rfl⟩ | ⟨hb1, h1⟩ <;> rcases hget b2 k2 h2 with ⟨rfl, rfl⟩ | ⟨hb2, h2⟩
    · rfl
    · rw [hn] at e1; cases e1; rw [hne b2 hb2] at e2
      have := (s.sup b2 x2 e2).2; simp at he; omega
    · rw [hn] at e2; cases e2; rw [hne b1 hb1] at e1
      have := (s.sup b1 x1 e1).2; simp at he; omega
    · rw [hne b1 hb1] at e1; rw [hne b2 hb2] at e2
      exact s.inj b1 b2 k1 k2 x1 x2 h1 h2 e1 e2 he ho
  · rintro c ⟨b, j, x, h1, h2, h3, h4⟩
    rcases hget b j h1 with ⟨rfl, rfl⟩ | ⟨hbn, h1⟩
    · rw [hn] at h3; cases h3; exact .inr (by simp at h4; omega)
    · rw [hne b hbn] at h3; exact .inl ⟨b, j, x, h1, h2, h3, h4⟩

/-- A new row. -/
theorem Sim.allocRow (s : Sim pc ρ n H w) (cs : List V) (arr : Array Value) (t : TypeId) (hl : cs.length ≤ arr.size) (r : ∀ (j : Nat) x, cs[j]? = some x → ∃ y, arr[j]? = some y ∧ VRel ρ x y) :
    ρ.le (ρ.put n (w.heap.size, 0, arr.size)) ∧ (ρ.put n (w.heap.size, 0, arr.size)) n = some (w.heap.size, 0, arr.size) ∧ Sim pc (ρ.put n (w.heap.size, 0, arr.size)) (n + 1) ((n, .row true cs) :: H) (pushW w (.cells arr t)) ∧
      Ext ρ n H w (ρ.put n (w.heap.size, 0, arr.size)) (n + 1) ((n, .row true cs) :: H) (pushW w (.cells arr t)) :=
  s.alloc (.row true cs) (.cells arr t) arr.size rfl fun ρ' hle _ => ⟨arr, t, (0, 0), pushW_new w _, rfl, by omega, fun j x hx => by
    obtain ⟨y, hy, hr⟩ := r j x hx
    exact ⟨y, by rw [Nat.zero_add]; exact hy, hr.mono hle⟩, fun _ j _ => by simp⟩

/-- A block laid anew. -/
theorem Sim.update (s : Sim pc ρ n H w) {id c d z : Nat} {k k' : Blk} (hk : aget H id = some k) (ho : k.own = true) (ho' : k'.own = true) (hρ : ρ id = some (c, d, z)) (o : Obj)
    (hb : BRel pc ρ (setBlk w c o) c d z k') : Sim pc ρ n (aput H id k') (setBlk w c o) ∧ Ext ρ n H w ρ n (aput H id k') (setBlk w c o) := by
  have hc : c < w.heap.size := (s.sup id _ hρ).2
  have hget : ∀ b j, aget (aput H id k') b = some j → (b = id ∧ j = k') ∨ (b ≠ id ∧ aget H b = some j) := fun b j h => by
    rw [aget_put] at h
    by_cases hb : id = b
    · subst hb; rw [if_pos rfl] at h; cases h; exact .inl ⟨rfl, rfl⟩
    · rw [if_neg hb] at h; exact .inr ⟨fun e => hb e.symm, h⟩
  refine ⟨⟨fun b x hb' => by rw [setBlk_size]; exact s.sup b x hb', fun b j hb' => ?_, fun b1 b2 k1 k2 x1 x2 h1 h2 e1 e2 he ho1 => ?_⟩, ⟨Nat.le_refl _, .refl _, fun _ _ _ h => h, rfl, rfl, rfl, Nat.le_refl _, by simp, fun e he hno => ?_, ?_⟩⟩
  · rcases hget b j hb' with ⟨rfl, rfl⟩ | ⟨hbn, hb'⟩
    · exact ⟨c, d, z, hρ, hb⟩
    · obtain ⟨c', d', z', e, r⟩ := s.blk b j hb'
      refine ⟨c', d', z', e, r.mono (.refl _) ?_⟩
      rw [setBlk_get _ _ _ _ hc, if_neg]
      rintro rfl
      exact hbn (s.inj id b k j _ _ hk hb' hρ e rfl ho).symm
  · have h1' : ∃ j1, aget H b1 = some j1 ∧ j1.own = true := by
      rcases hget b1 k1 h1 with ⟨rfl, rfl⟩ | ⟨_, h1⟩
      · exact ⟨k, hk, ho⟩
      · exact ⟨k1, h1, ho1⟩
    have h2' : ∃ j2, aget H b2 = some j2 := by
      rcases hget b2 k2 h2 with ⟨rfl, rfl⟩ | ⟨_, h2⟩
      · exact ⟨k, hk⟩
      · exact ⟨k2, h2⟩
    obtain ⟨j1, h1', o1⟩ := h1'
    obtain ⟨j2, h2'⟩ := h2'
    exact s.inj b1 b2 j1 j2 x1 x2 h1' h2' e1 e2 he o1
  · rw [setBlk_get _ _ _ _ hc, if_neg]
    rintro rfl
    exact hno ⟨id, k, _, hk, ho, hρ, rfl⟩
  · rintro e ⟨b, j, x, h1, h2, h3, h4⟩
    rcases hget b j h1 with ⟨rfl, rfl⟩ | ⟨_, h1⟩
    · exact .inl ⟨_, k, x, hk, ho, h3, h4⟩
    · exact .inl ⟨b, j, x, h1, h2, h3, h4⟩

/-- A block let go. -/
theorem Sim.del (s : Sim pc ρ n H w) (id : Nat) : Sim pc ρ n (adel H id) w ∧ Ext ρ n H w ρ n (adel H id) w := by
  have hget : ∀ b j, aget (adel H id) b = some j → aget H b = some j := fun b j h => by
    rw [aget_del] at h
    split at h
    · cases h
    · exact h
  exact ⟨⟨s.sup, fun b j h => s.blk b j (hget b j h), fun b1 b2 k1 k2 x1 x2 h1 h2 => s.inj b1 b2 k1 k2 x1 x2 (hget _ _ h1) (hget _ _ h2)⟩,
    ⟨Nat.le_refl _, .refl _, fun _ _ _ h => h, rfl, rfl, rfl, Nat.le_refl _, Nat.le_refl _, fun _ _ _ => rfl, fun c ⟨b, k, x, h1, h2⟩ => .inl ⟨b, k, x, hget _ _ h1, h2⟩⟩⟩

/-- A row written in its own block's room and known by a new id from then on (an append that fits): the old id is let go. -/
theorem Sim.move (s : Sim pc ρ n H w) {id c d z off : Nat} {cs cs' : List V} (hk : aget H id = some (.row true cs)) (hρ : ρ id = some (c, d, z)) (arr' : Array Value) (t : TypeId) (fr : Nat × Nat) (hz : arr'.size = z)
    (hfr : ∀ j, j < z → ¬ (fr.1 ≤ j ∧ j < fr.2)) (hl : d + off + cs'.length ≤ z) (r : ∀ (j : Nat) x, cs'[j]? = some x → ∃ y, arr'[d + off + j]? = some y ∧ VRel ρ x y) :
    ρ.le (ρ.put n (c, d + off, z)) ∧ (ρ.put n (c, d + off, z)) n = some (c, d + off, z) ∧ Sim pc (ρ.put n (c, d + off, z)) (n + 1) ((n, .row true cs') :: adel H id) (setBlk w c (.cells arr' t fr)) ∧
      Ext ρ n H w (ρ.put n (c, d + off, z)) (n + 1) ((n, .row true cs') :: adel H id) (setBlk w c (.cells arr' t fr)) := by
  have hc : c < w.heap.size := (s.sup id _ hρ).2
  have hle : ρ.le (ρ.put n (c, d + off, z)) := Ren.le_put s.fresh
  have hn : (ρ.put n (c, d + off, z)) n = some (c, d + off, z) := by simp [Ren.put]
  have hne : ∀ b, b ≠ n → (ρ.put n (c, d + off, z)) b = ρ b := fun b h => by simp [Ren.put, h]
  have hget : ∀ b j, aget ((n, Blk.row true cs') :: adel H id) b = some j → (b = n ∧ j = .row true cs') ∨ (b ≠ n ∧ b ≠ id ∧ aget H b = some j) := fun b j h => by
    rw [aget_cons] at h
    by_cases hb : n = b
    · subst hb; rw [if_pos rfl] at h; cases h; exact .inl ⟨rfl, rfl⟩
    · rw [if_neg hb, aget_del] at h
      by_cases hi : id = b
      · rw [if_pos hi] at h; cases h
      · rw [if_neg hi] at h; exact .inr ⟨fun e => hb e.symm, fun e => hi e.symm, h⟩
  have hother : ∀ b j x, b ≠ id → aget H b = some j → ρ b = some x → x.1 ≠ c := fun b j x hb h e he => hb (s.inj id b _ j _ _ hk h hρ e (by simpa using he.symm) rfl).symm
  refine ⟨hle, hn, ⟨fun b x hb' => ?_, fun b j hb' => ?_, fun b1 b2 k1 k2 x1 x2 h1 h2 e1 e2 he ho => ?_⟩, ⟨Nat.le_succ _, hle, fun b x hb hx => by rw [hne b (Nat.ne_of_lt hb)] at hx; exact hx, rfl, rfl, rfl, Nat.le_refl _, by simp, fun e he hno => ?_, ?_⟩⟩
  · by_cases hbn : b = n
    · subst hbn; rw [hn] at hb'; cases hb'; exact ⟨by omega, by rw [setBlk_size]; exact hc⟩
    · rw [hne b hbn] at hb'; have := s.sup b x hb'; rw [setBlk_size]; omega
  · rcases hget b j hb' with ⟨rfl, rfl⟩ | ⟨hbn, hbi, hb'⟩
    · exact ⟨_, _, _, hn, arr', t, fr, by rw [setBlk_get _ _ _ _ hc, if_pos rfl], hz, hl, fun j x hx => let ⟨y, hy, hr⟩ := r j x hx; ⟨y, hy, hr.mono hle⟩, fun _ => hfr⟩
    · obtain ⟨c', d', z', e, r'⟩ := s.blk b j hb'
      refine ⟨c', d', z', (hne b hbn).trans e, r'.mono hle ?_⟩
      rw [setBlk_get _ _ _ _ hc, if_neg fun h => hother b j _ hbi hb' e h.symm]
  · rcases hget b1 k1 h1 with ⟨rfl, rfl⟩ | ⟨hb1, hi1, g1⟩ <;> rcases hget b2 k2 h2 with ⟨rfl, rfl⟩ | ⟨hb2, hi2, g2⟩
    · rfl
    · rw [hn] at e1; cases e1; rw [hne b2 hb2] at e2
      exact absurd he.symm (hother b2 k2 x2 hi2 g2 e2)
    · rw [hn] at e2; cases e2; rw [hne b1 hb1] at e1
      exact absurd he (hother b1 k1 x1 hi1 g1 e1)
    · rw [hne b1 hb1] at e1; rw [hne b2 hb2] at e2
      exact s.inj b1 b2 k1 k2 x1 x2 g1 g2 e1 e2 he ho
  · rw [setBlk_get _ _ _ _ hc, if_neg]
    rintro rfl
    exact hno ⟨id, _, _, hk, rfl, hρ, rfl⟩
  · rintro e ⟨b, j, x, h1, h2, h3, h4⟩
    rcases hget b j h1 with ⟨rfl, rfl⟩ | ⟨hbn, _, h1⟩
    · rw [hn] at h3; cases h3; exact .inl ⟨id, _, _, hk, rfl, hρ, h4⟩
    · rw [hne b hbn] at h3; exact .inl ⟨b, j, x, h1, h2, h3, h4⟩
end Go.Proofs.Ytpgelghkjiejlaa
