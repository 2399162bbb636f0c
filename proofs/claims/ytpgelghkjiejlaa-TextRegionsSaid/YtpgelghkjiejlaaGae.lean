/- What is done on a part of the heap is done on the whole: operations, calls; states that answer alike. A run over abstract states that the kernel can reckon: temps and heap as trees. -/
import Derived.Test.YtpgelghkjiejlaaGad
set_option linter.unusedVariables false
set_option linter.unusedSimpArgs false
section
namespace Go.Proofs.Ytpgelghkjiejlaa
open Go

theorem restr_get_own {H : Heap} {fr fw : List Nat} {b : Nat} {k : Blk} (h : aget (restr H fr fw) b = some k) (ho : k.own = true) : b ∈ fw ∧ aget H b = some k := by
  rcases aget_restr h with h1 | ⟨_, o, cs, _, rfl⟩
  · exact h1
  · cases ho
theorem restr_sim {pc : PrepC} {ρ : Ren} {n : Nat} {H : Heap} {w : World} (s : Sim pc ρ n H w) (fr fw : List Nat) : Sim pc ρ n (restr H fr fw) w := by
  refine ⟨s.sup, fun b k hb => ?_, fun b1 b2 k1 k2 x1 x2 h1 h2 e1 e2 he ho => ?_⟩
  · rcases aget_restr hb with ⟨_, h1⟩ | ⟨_, o, cs, h1, rfl⟩
    · exact s.blk b k h1
    · obtain ⟨c, d, z, e, arr, t, fr', g1, g2, g3, g4, g5⟩ := s.blk b _ h1
      exact ⟨c, d, z, e, arr, t, fr', g1, g2, g3, g4, fun h => by cases h⟩
  · obtain ⟨_, g1⟩ := restr_get_own h1 ho
    have g2 : ∃ k, aget H b2 = some k := by
      rcases aget_restr h2 with ⟨_, g⟩ | ⟨_, o, cs, g, _⟩
      · exact ⟨_, g⟩
      · exact ⟨_, g⟩
    obtain ⟨k, g2⟩ := g2
    exact s.inj b1 b2 k1 k x1 x2 g1 g2 e1 e2 he ho
theorem OwnC.of_restr {ρ : Ren} {H : Heap} {fr fw : List Nat} {c : Nat} (h : OwnC ρ (restr H fr fw) c) : ∃ b k x, b ∈ fw ∧ aget H b = some k ∧ k.own = true ∧ ρ b = some x ∧ x.1 = c := by
  obtain ⟨b, k, x, h1, h2, h3, h4⟩ := h
  obtain ⟨g1, g2⟩ := restr_get_own h1 h2
  exact ⟨b, k, x, g1, g2, h2, h3, h4⟩
theorem frame_sim {pc : PrepC} {ρ ρ' : Ren} {n n1 : Nat} {H R : Heap} {w w' : World} {fr fw : List Nat} (hs : Sim pc ρ n H w) (hs' : Sim pc ρ' n1 R w') (hE : Ext ρ n (restr H fr fw) w ρ' n1 R w')
    (hown : ∀ b k, touch fw n n1 b = true → aget R b = some k → k.own = true) : Sim pc ρ' n1 (mergeH H fw n n1 R) w' ∧ Ext ρ n H w ρ' n1 (mergeH H fw n n1 R) w' := by
  have hfwt : ∀ b, b ∈ fw → touch fw n n1 b = true := fun b hb => by simp [touch, hb]
  have hnot : ∀ b k x, ¬ touch fw n n1 b = true → aget H b = some k → ρ b = some x → ¬ OwnC ρ (restr H fr fw) x.1 := by
    intro b k x ht hb hx ho
    obtain ⟨b', k', x', g1, g2, g3, g4, g5⟩ := ho.of_restr
    have := hs.inj b' b k' k x' x g2 hb g4 hx g5 g3
    subst this
    exact ht (hfwt _ g1)
  have hget : ∀ b k, aget (mergeH H fw n n1 R) b = some k → (touch fw n n1 b = true ∧ aget R b = some k) ∨ (¬ touch fw n n1 b = true ∧ aget H b = some k) := by
    intro b k hb
    rw [aget_mergeH] at hb
    by_cases ht : touch fw n n1 b = true
    · rw [if_pos ht] at hb; exact .inl ⟨ht, hb⟩
    · rw [if_neg ht] at hb; exact .inr ⟨ht, hb⟩
  have hold : ∀ b k x, aget H b = some k → ρ' b = some x → ρ b = some x ∧ x.1 < w.heap.size := by
    intro b k x hb hx
    obtain ⟨c, d, z, e, _⟩ := hs.blk b k hb
    have := hE.ren _ _ e
    rw [hx] at this
    cases this
    exact ⟨e, (hs.sup _ _ e).2⟩
  refine ⟨⟨hs'.sup, fun b k hb => ?_, fun b1 b2 k1 k2 x1 x2 h1 h2 e1 e2 he ho => ?_⟩, hE.le, hE.ren, hE.old, hE.os, hE.tape, hE.output, hE.drawn, hE.size, fun c hc hno => ?_, fun c hc => ?_⟩
  · rcases hget b k hb with ⟨_, h1⟩ | ⟨ht, h1⟩
    · exact hs'.blk b k h1
    · obtain ⟨c, d, z, e, r⟩ := hs.blk b k h1
      exact ⟨c, d, z, hE.ren _ _ e, r.mono hE.ren (hE.frame c (hs.sup _ _ e).2 (hnot b k _ ht h1 e))⟩
  · rcases hget b1 k1 h1 with ⟨t1, g1⟩ | ⟨t1, g1⟩ <;> rcases hget b2 k2 h2 with ⟨t2, g2⟩ | ⟨t2, g2⟩
    · exact hs'.inj b1 b2 k1 k2 x1 x2 g1 g2 e1 e2 he ho
    · obtain ⟨f1, f2⟩ := hold b2 k2 x2 g2 e2
      rcases hE.own x1.1 ⟨b1, k1, x1, g1, ho, e1, rfl⟩ with h3 | h3
      · rw [he] at h3; exact absurd h3 (hnot b2 k2 x2 t2 g2 f1)
      · rw [he] at h3; omega
    · obtain ⟨f1, f2⟩ := hold b1 k1 x1 g1 e1
      rcases hE.own x2.1 ⟨b2, k2, x2, g2, hown b2 k2 t2 g2, e2, rfl⟩ with h3 | h3
      · rw [← he] at h3; exact absurd h3 (hnot b1 k1 x1 t1 g1 f1)
      · rw [← he] at h3; omega
    · exact hs.inj b1 b2 k1 k2 x1 x2 g1 g2 (hold _ _ _ g1 e1).1 (hold _ _ _ g2 e2).1 he ho
  · exact hE.frame c hc fun h => by
      obtain ⟨b, k, x, _, g2, g3, g4, g5⟩ := h.of_restr
      exact hno ⟨b, k, x, g2, g3, g4, g5⟩
  · obtain ⟨b, k, x, h1, h2, h3, h4⟩ := hc
    rcases hget b k h1 with ⟨_, g1⟩ | ⟨_, g1⟩
    · rcases hE.own c ⟨b, k, x, g1, h2, h3, h4⟩ with h | h
      · obtain ⟨b', k', x', _, q2, q3, q4, q5⟩ := h.of_restr
        exact .inl ⟨b', k', x', q2, q3, q4, q5⟩
      · exact .inr h
    · exact .inl ⟨b, k, x, g1, h2, (hold _ _ _ g1 h3).1, h4⟩
section rules
variable {P : Program} {N : Nat}
/-- A call that is known on a part of the heap. -/
theorem ACalls.frame {f : FuncId} {args : List V} {n : Nat} {H : Heap} {fr fw : List Nat} {K : V → Nat → Heap → Prop} (h : ACalls P f args n (restr H fr fw) K)
    (hown : ∀ v n1 R, K v n1 R → ∀ b k, touch fw n n1 b = true → aget R b = some k → k.own = true) : ACalls P f args n H fun v n1 H' => ∃ R, K v n1 R ∧ H' = mergeH H fw n n1 R := by
  refine ⟨h.1, fun ρ w args' hs hr => (h.2 ρ w args' (restr_sim hs fr fw) hr).mono ?_⟩
  rintro e w' ⟨v, n1, R, ρ', y, h1, h2, h3, h4, h5⟩
  obtain ⟨g1, g2⟩ := frame_sim hs h4 h5 (hown v n1 R h1)
  exact ⟨v, n1, _, ρ', y, ⟨R, h1, rfl⟩, h2, h3, g1, g2⟩

/-! states that answer alike -/
structure St.alike (s t : St) : Prop where
  T : ∀ i, aget s.T i = aget t.T i
  D : s.D = t.D
  n : s.n = t.n
  H : ∀ i, aget s.H i = aget t.H i
theorem Sim.alike {pc : PrepC} {ρ : Ren} {n : Nat} {H H' : Heap} {w : World} (h : ∀ i, aget H i = aget H' i) (s : Sim pc ρ n H w) : Sim pc ρ n H' w :=
  ⟨s.sup, fun b k hb => s.blk b k ((h b).trans hb), fun b1 b2 k1 k2 x1 x2 h1 h2 => s.inj b1 b2 k1 k2 x1 x2 ((h _).trans h1) ((h _).trans h2)⟩
theorem OwnC.alike {ρ : Ren} {H H' : Heap} {c : Nat} (h : ∀ i, aget H i = aget H' i) (o : OwnC ρ H c) : OwnC ρ H' c := let ⟨b, k, x, h1, h2⟩ := o; ⟨b, k, x, (h b).symm.trans h1, h2⟩
theorem Ext.alike {ρ ρ' : Ren} {n n' : Nat} {H H1 H' : Heap} {w w' : World} (h : ∀ i, aget H i = aget H1 i) (e : Ext ρ n H w ρ' n' H' w') : Ext ρ n H1 w ρ' n' H' w' :=
  ⟨e.le, e.ren, e.old, e.os, e.tape, e.output, e.drawn, e.size, fun c hc hno => e.frame c hc fun ho => hno (ho.alike h), fun c hc => (e.own c hc).imp (fun ho => ho.alike h) id⟩
theorem TRel.alike {ρ : Ren} {T T' : Temps} {tmps : Array Value} (h : ∀ i, aget T i = aget T' i) (r : TRel ρ N T tmps) : TRel ρ N T' tmps := ⟨r.1, fun i v hv => r.2 i v ((h i).trans hv)⟩
theorem AWc.alike {rd : Option Nat} {ac : ACode} {s t : St} {Q : Exit → St → Prop} (h : s.alike t) (a : AWc P N rd ac s Q) : AWc P N rd ac t Q := by
  obtain ⟨T, D, n, H⟩ := s
  obtain ⟨T', D', n', H'⟩ := t
  obtain ⟨h1, h2, h3, h4⟩ := h
  simp only at h1 h2 h3 h4
  subst h2
  subst h3
  intro c hp ρ F m x w hF hA
  refine wpIn_mono (a c hp ρ F m x w hF ⟨hA.tm.alike fun i => (h1 i).symm, hA.mr, hA.sim.alike fun i => (h4 i).symm⟩) ?_
  rintro e a' w' ⟨st', ρ', g1, g2, g3⟩
  exact ⟨st', ρ', g1, g2, g3.alike h4⟩
theorem ACalls.alike {f : FuncId} {args : List V} {n : Nat} {H H' : Heap} {K : V → Nat → Heap → Prop} (h : ∀ i, aget H i = aget H' i) (a : ACalls P f args n H K) : ACalls P f args n H' K :=
  ⟨a.1, fun ρ w args' hs hr => (a.2 ρ w args' (hs.alike fun i => (h i).symm) hr).mono fun e w' ⟨v, n', H1, ρ', y, h1, h2, h3, h4, h5⟩ => ⟨v, n', H1, ρ', y, h1, h2, h3, h4, h5.alike h⟩⟩

/-! operations in the order of the text, each on the part of the heap that it needs -/
def opsS (P : Program) : List AOper → St → (St → Prop) → Prop
  | [], st, K => K st
  | o :: os, st, K =>
    match guardOf st.T o.guard with
    | some false => opsS P os { st with T := putT st.T o.dst .un } K
    | some true =>
      match o.op with
      | .call g args => callV P (g.val st.T) (args.map (·.val st.T)) st.n st.H fun v n' H' => opsS P os ⟨putT st.T o.dst v, st.D, n', H'⟩ K
      | op => ∃ fr fw v n1 R, evalOp st.T st.n (restr st.H fr fw) op = some (v, n1, R) ∧ (∀ p ∈ R, touch fw st.n n1 p.1 = true → p.2.own = true) ∧
          opsS P os ⟨putT st.T o.dst v, st.D, n1, mergeH st.H fw st.n n1 R⟩ K
    | none => False
theorem opsS_sound {ops : Array Oper} {rd : Option Nat} {ρ0 : Ren} {n0 : Nat} {H0 : Heap} {w0 : World} {K : St → Prop} : ∀ (os : List Oper) (l : List AOper) (k : Nat), (∀ j, os[j]? = ops[k + j]?) → prepOpers P N ops os = some l →
    ∀ (st : St) (ρ : Ren) (F : Fence) (m : Nat) (a : Act) (w : World), opsS P l st K → FRel ρ rd F → ARel P ρ N st a w → Ext ρ0 n0 H0 w0 ρ st.n st.H w →
      wpOpsIn F m P ops (PostX P N ρ0 n0 H0 w0 K) (List.range' k os.length) a w := by
  intro os
  induction os with
  | nil =>
    intro l k _ hp st ρ F m a w h hF hA hE
    cases hp
    exact ⟨rfl, st, ρ, h, hA, hE⟩
  | cons o os ih =>
    intro l k hk hp st ρ F m a w h hF hA hE
    simp only [prepOpers] at hp
    split at hp
    · rename_i ao l' h1 h2
      cases hp
      have hk0 : ops[k]? = some o := by simpa using (hk 0).symm
      have hk' : ∀ j, os[j]? = ops[k + 1 + j]? := fun j => by have := hk (j + 1); simpa [Nat.add_assoc, Nat.add_comm 1 j] using this
      obtain ⟨p1, p2, p3, p4⟩ := prepOper_inv h1
      rw [List.length_cons, List.range'_succ]
      simp only [wpOpsIn, hk0]
      unfold opsS at h
      split at h
      · rename_i hg
        rw [p4] at hg
        have hw := wanted_of hA.tm hg
        rw [hw]
        simp only [Bool.false_eq_true, if_false]
        refine ⟨fun f _ => hF.fn f, ih l' (k + 1) hk' h2 _ ρ F m _ w h hF ⟨?_, ?_, hA.sim⟩ hE⟩
        · rw [p2]; exact hA.tm.put (.un _) o.dst p3 a rfl
        · rw [put_defers]; exact hA.mr
      · rename_i hg
        rw [p4] at hg
        have hw := wanted_of hA.tm hg
        rw [hw]
        simp only [if_true, Oper.wpIn]
        refine ⟨fun f _ => hF.fn f, ?_⟩
        split at h
        · rename_i g args hop
          rw [hop] at p1
          obtain ⟨c, f, e1, e2, e3, e4⟩ := prepOp2_call p1
          rw [Oper.semAt_eq _ _ _ (by rw [e1]; intro c h; cases h)]
          refine callV_sound hF hA.tm hA.sim e1 e2 e3 e4 h _ _ ?_
          intro v n' H' ρ' y w' hK hv hs hx
          refine ih l' (k + 1) hk' h2 _ ρ' F m _ w' hK (hF.mono hx.ren) ⟨?_, ?_, hs⟩ (hE.trans hx)
          · rw [p2]; exact (hA.tm.mono hx.ren).put hv o.dst p3 a rfl
          · rw [put_defers]; exact hA.mr.mono hx.ren
        · rename_i hncall
          have p1' := prepOp2_other p1 hncall
          rw [Oper.semAt_eq _ _ _ (prepOp_ne_defer p1')]
          obtain ⟨fr, fw, v, n', R, hev, hown, h⟩ := h
          obtain ⟨nx, y, w', ρ', hrun, hnx, hv, hs0, hx0⟩ := evalOp_sound hA.tm (restr_sim hA.sim fr fw) p1' hev
          obtain ⟨hs, hx⟩ := frame_sim hA.sim hs0 hx0 fun b k ht hb => hown (b, k) (aget_mem hb) ht
          rw [hrun]
          have hgo : wpOpsIn F m P ops (PostX P N ρ0 n0 H0 w0 K) (List.range' (k + 1) os.length) (a.put o.dst y) w' := by
            refine ih l' (k + 1) hk' h2 _ ρ' F m _ w' h (hF.mono hx.ren) ⟨?_, ?_, hs⟩ (hE.trans hx)
            · rw [p2]; exact (hA.tm.mono hx.ren).put hv o.dst p3 a rfl
            · rw [put_defers]; exact hA.mr.mono hx.ren
          rcases hnx with rfl | ⟨rfl, rfl⟩
          · exact hgo
          · exact hgo
      · exact h.elim
    · cases hp
theorem AWc.opsS {rd : Option Nat} {st : St} {Q : Exit → St → Prop} {l : List AOper} (h : opsS P l st (Q .normal)) : AWc P N rd (.ops none l) st Q := by
  intro c hp ρ F m a w hF hA
  obtain ⟨id, ops, draw, rfl, h1, ⟨_, rfl⟩ | ⟨b, hb, _⟩⟩ := prepC_ops hp
  · refine wpIn_region ?_
    have := opsS_sound (ops := ops) (rd := rd) (K := Q .normal) ops.toList l 0 (fun j => by simp) h1 st ρ F m a w h hF hA (.refl _ _ _ _)
    rw [Array.length_toList, ← List.range_eq_range'] at this
    refine wpOpsIn_post ?_ this
    rintro e a' w' ⟨rfl, st', ρ', q1, q2, q3⟩
    exact ⟨st', ρ', q1, q2, q3⟩
  · cases hb
section one
variable {o : AOper} {os : List AOper} {st : St} {K : St → Prop}
theorem opsS_skip (hg : guardOf st.T o.guard = some false) (h : Go.Proofs.Ytpgelghkjiejlaa.opsS P os { st with T := putT st.T o.dst .un } K) : Go.Proofs.Ytpgelghkjiejlaa.opsS P (o :: os) st K := by
  unfold Go.Proofs.Ytpgelghkjiejlaa.opsS; rw [hg]; exact h
theorem opsS_call {g : AX} {args : List AX} (hg : guardOf st.T o.guard = some true) (ho : o.op = .call g args)
    (h : callV P (g.val st.T) (args.map (·.val st.T)) st.n st.H fun v n' H' => Go.Proofs.Ytpgelghkjiejlaa.opsS P os ⟨putT st.T o.dst v, st.D, n', H'⟩ K) : Go.Proofs.Ytpgelghkjiejlaa.opsS P (o :: os) st K := by
  unfold Go.Proofs.Ytpgelghkjiejlaa.opsS; rw [hg, ho]; exact h
theorem opsS_op (hg : guardOf st.T o.guard = some true) (ho : ∀ g l, o.op ≠ .call g l) {fr fw : List Nat} {v : V} {n1 : Nat} {R : Heap} (hev : evalOp st.T st.n (restr st.H fr fw) o.op = some (v, n1, R))
    (hown : ∀ p ∈ R, touch fw st.n n1 p.1 = true → p.2.own = true) (h : Go.Proofs.Ytpgelghkjiejlaa.opsS P os ⟨putT st.T o.dst v, st.D, n1, mergeH st.H fw st.n n1 R⟩ K) : Go.Proofs.Ytpgelghkjiejlaa.opsS P (o :: os) st K := by
  unfold Go.Proofs.Ytpgelghkjiejlaa.opsS; rw [hg]
  simp only
  exact ⟨fr, fw, v, n1, R, hev, hown, h⟩
end one
end rules
end Go.Proofs.Ytpgelghkjiejlaa
end
section
namespace Go.Proofs.Ytpgelghkjiejlaa
open Go

inductive Tr (α : Type) where
  | lf
  | nd (l : Tr α) (v : Option α) (r : Tr α)
namespace Tr
variable {α : Type}
def get : Tr α → Nat → Option α
  | lf, _ => none
  | nd l v r, k =>
    match k with
    | 0 => v
    | k' + 1 =>
      match k' % 2 with
      | 0 => get l (k' / 2)
      | _ => get r (k' / 2)
def setF : Nat → Tr α → Nat → Option α → Tr α
  | 0, t, _, _ => t
  | f + 1, lf, k, x =>
    match k with
    | 0 => nd lf x lf
    | k' + 1 =>
      match k' % 2 with
      | 0 => nd (setF f lf (k' / 2) x) none lf
      | _ => nd lf none (setF f lf (k' / 2) x)
  | f + 1, nd l v r, k, x =>
    match k with
    | 0 => nd l x r
    | k' + 1 =>
      match k' % 2 with
      | 0 => nd (setF f l (k' / 2) x) v r
      | _ => nd l v (setF f r (k' / 2) x)
def set (t : Tr α) (k : Nat) (x : Option α) : Tr α := setF (k + 1) t k x
theorem get_setF : ∀ (f : Nat) (t : Tr α) (k : Nat) (x : Option α) (j : Nat), k < f → get (setF f t k x) j = if j = k then x else get t j := by
  intro f
  induction f with
  | zero => intro t k x j h; omega
  | succ f ih =>
    intro t k x j h
    have key : ∀ (l : Tr α) (v : Option α) (r : Tr α), get (match k with | 0 => nd l x r | k' + 1 => match k' % 2 with | 0 => nd (setF f l (k' / 2) x) v r | _ => nd l v (setF f r (k' / 2) x)) j = if j = k then x else get (nd l v r) j := by
      intro l v r
      cases k with
      | zero =>
        simp only
        cases j with
        | zero => simp [get]
        | succ j => simp [get]
      | succ k' =>
        have hk : k' / 2 < f := by omega
        simp only
        cases hm : k' % 2 with
        | zero =>
          simp only
          cases j with
          | zero => simp [get]
          | succ j =>
            simp only [get]
            cases hj : j % 2 with
            | zero =>
              simp only
              rw [ih l _ x _ hk]
              by_cases he : j = k'
              · subst he; simp
              · rw [if_neg (by omega), if_neg (by omega)]
            | succ m =>
              simp only
              rw [if_neg (by intro he; have : j = k' := by omega
                             subst this; omega)]
        | succ m =>
          simp only
          cases j with
          | zero => simp [get]
          | succ j =>
            simp only [get]
            cases hj : j % 2 with
            | zero =>
              simp only
              rw [if_neg (by intro he; have : j = k' := by omega
                             subst this; omega)]
            | succ m' =>
              simp only
              rw [ih r _ x _ hk]
              by_cases he : j = k'
              · subst he; simp
              · rw [if_neg (by omega), if_neg (by omega)]
    cases t with
    | lf =>
      have := key lf none lf
      have e : get (nd (lf : Tr α) none lf) j = get lf j := by
        cases j with
        | zero => rfl
        | succ j => simp only [get]; cases j % 2 <;> rfl
      rw [e] at this
      exact this
    | nd l v r => exact key l v r
theorem get_set (t : Tr α) (k : Nat) (x : Option α) (j : Nat) : get (set t k x) j = if j = k then x else get t j := get_setF _ _ _ _ _ (by omega)
/-- The entries, by keys A * j + B. -/
def toL : Tr α → Nat → Nat → List (Nat × α)
  | lf, _, _ => []
  | nd l v r, A, B => (match v with | some x => [(B, x)] | none => []) ++ (toL l (2 * A) (A + B) ++ toL r (2 * A) (2 * A + B))
theorem aget_toL : ∀ (t : Tr α) (A B k : Nat), 0 < A → (∀ j, k = A * j + B → aget (toL t A B) k = get t j) ∧ ((∀ j, k ≠ A * j + B) → aget (toL t A B) k = none) := by
  intro t
  induction t with
  | lf => intro A B k _; exact ⟨fun j _ => rfl, fun _ => rfl⟩
  | nd l v r ihl ihr =>
    intro A B k hA
    obtain ⟨l1, l2⟩ := ihl (2 * A) (A + B) k (by omega)
    obtain ⟨r1, r2⟩ := ihr (2 * A) (2 * A + B) k (by omega)
    have hv : aget (match v with | some x => [(B, x)] | none => []) k = if B = k then v else none := by
      cases v with
      | none => simp
      | some x => simp [aget_cons]
    have hall : aget (toL (nd l v r) A B) k = match (if B = k then v else none) with | some x => some x | none => (match aget (toL l (2 * A) (A + B)) k with | some x => some x | none => aget (toL r (2 * A) (2 * A + B)) k) := by
      simp only [toL]
      rw [aget_append, hv, aget_append]
      try rfl
    have hlr : ∀ j, k = A * (2 * j + 1) + B → ∀ i, k ≠ 2 * A * i + (2 * A + B) := by
      intro j hj i hi
      have h1 : A * (2 * j + 1) = 2 * A * i + 2 * A := by omega
      have h2 : A * (2 * j + 1) = A * (2 * i + 2) := by
        have h3 : A * (2 * i + 2) = 2 * A * i + 2 * A := by rw [Nat.mul_add, Nat.mul_comm 2 A, Nat.mul_assoc, Nat.mul_left_comm]
        omega
      have := Nat.eq_of_mul_eq_mul_left hA h2
      omega
    have hrl : ∀ j, k = A * (2 * j + 2) + B → ∀ i, k ≠ 2 * A * i + (A + B) := by
      intro j hj i hi
      have h1 : A * (2 * j + 2) = 2 * A * i + A := by omega
      have h2 : A * (2 * j + 2) = A * (2 * i + 1) := by
        have h3 : A * (2 * i + 1) = 2 * A * i + A := by rw [Nat.mul_add, Nat.mul_comm 2 A, Nat.mul_assoc, Nat.mul_left_comm]; omega
        omega
      have := Nat.eq_of_mul_eq_mul_left hA h2
      omega
    have hl0 : ∀ i, B ≠ 2 * A * i + (A + B) := fun i => by omega
    have hr0 : ∀ i, B ≠ 2 * A * i + (2 * A + B) := fun i => by omega
    refine ⟨fun j hj => ?_, fun hno => ?_⟩
    · rw [hall]
      cases j with
      | zero =>
        have hk : B = k := by omega
        subst hk
        rw [if_pos rfl, l2 hl0, r2 hr0]
        simp only [get]
        cases v <;> rfl
      | succ j' =>
        have hne : ¬ B = k := by
          intro he
          have h1 := Nat.mul_succ A j'
          rw [Nat.succ_eq_add_one] at h1
          omega
        rw [if_neg hne]
        simp only [get]
        cases hm : j' % 2 with
        | zero =>
          simp only
          obtain ⟨i, rfl⟩ : ∃ i, j' = 2 * i := ⟨j' / 2, by omega⟩
          have e1 : k = 2 * A * i + (A + B) := by
            rw [hj, Nat.mul_add, Nat.mul_comm 2 A, Nat.mul_assoc]; omega
          rw [l1 i e1, r2 (hlr i (by rw [hj])), show 2 * i / 2 = i by omega]
          cases get l i <;> rfl
        | succ m =>
          simp only
          obtain ⟨i, rfl⟩ : ∃ i, j' = 2 * i + 1 := ⟨j' / 2, by omega⟩
          have e1 : k = 2 * A * i + (2 * A + B) := by
            rw [hj, show 2 * i + 1 + 1 = 2 * i + 2 by omega, Nat.mul_add, Nat.mul_comm 2 A, Nat.mul_assoc]; omega
          rw [r1 i e1, l2 (hrl i (by rw [hj])), show (2 * i + 1) / 2 = i by omega]
    · rw [hall]
      have hne : ¬ B = k := fun he => hno 0 (by omega)
      rw [if_neg hne, l2 (fun i hi => hno (2 * i + 1) (by rw [hi, Nat.mul_add, Nat.mul_comm 2 A, Nat.mul_assoc]; omega)),
        r2 (fun i hi => hno (2 * i + 2) (by rw [hi, Nat.mul_add, Nat.mul_comm 2 A, Nat.mul_assoc]; omega))]
def list (t : Tr α) : List (Nat × α) := toL t 1 0
theorem aget_list (t : Tr α) (k : Nat) : aget t.list k = t.get k := (aget_toL t 1 0 k (by omega)).1 k (by omega)
def ofL : List (Nat × α) → Tr α
  | [] => lf
  | (k, x) :: l => set (ofL l) k (some x)
theorem get_ofL (l : List (Nat × α)) (k : Nat) : get (ofL l) k = aget l k := by
  induction l with
  | nil => rfl
  | cons p l ih =>
    obtain ⟨i, x⟩ := p
    simp only [ofL, get_set, aget_cons, ih]
    by_cases h : k = i
    · subst h; simp
    · rw [if_neg h, if_neg fun e => h e.symm]
def put : Tr α → List (Nat × Option α) → Tr α
  | t, [] => t
  | t, (k, x) :: l => put (set t k x) l
end Tr

structure RSt where
  T : Tr V
  D : List Nat
  n : Nat
  H : Tr Blk
structure St.like (s : St) (r : RSt) : Prop where
  T : ∀ i, aget s.T i = r.T.get i
  D : s.D = r.D
  n : s.n = r.n
  H : ∀ i, aget s.H i = r.H.get i

def tslots (T : Tr V) : List Nat → Temps
  | [] => []
  | t :: l => match T.get t with | some v => (t, v) :: tslots T l | none => tslots T l
theorem aget_tslots (T : Tr V) (l : List Nat) (t : Nat) (h : t ∈ l) : aget (tslots T l) t = T.get t := by
  induction l with
  | nil => simp at h
  | cons i l ih =>
    unfold tslots
    cases hi : T.get i with
    | none =>
      simp only
      by_cases e : t = i
      · subst e
        have : ∀ l : List Nat, aget (tslots T l) t = none := by
          intro l
          induction l with
          | nil => rfl
          | cons j l ih2 =>
            unfold tslots
            cases hj : T.get j with
            | none => exact ih2
            | some v =>
              simp only
              rw [aget_cons, if_neg, ih2]
              rintro rfl
              rw [hi] at hj
              cases hj
        rw [this, hi]
      · exact ih (by simpa [e] using h)
    | some v =>
      simp only
      rw [aget_cons]
      by_cases e : i = t
      · subst e; rw [if_pos rfl, hi]
      · rw [if_neg e]
        exact ih ((List.mem_cons.1 h).resolve_left fun h1 => e h1.symm)
def pickT (H : Tr Blk) (f : Option Blk → Option Blk) : List Nat → Heap
  | [] => []
  | i :: r => match f (H.get i) with | some k => (i, k) :: pickT H f r | none => pickT H f r
def restrH (H : Tr Blk) (fr fw : List Nat) : Heap := pickT H id fw ++ pickT H roOf fr
theorem pickT_eq {H : Heap} {t : Tr Blk} (h : ∀ i, aget H i = t.get i) (f : Option Blk → Option Blk) (l : List Nat) : pickR H f l = pickT t f l := by
  induction l with
  | nil => rfl
  | cons i l ih => unfold pickR pickT; rw [h, ih]; cases f (t.get i) <;> rfl
theorem restrH_eq {H : Heap} {t : Tr Blk} (h : ∀ i, aget H i = t.get i) (fr fw : List Nat) : restr H fr fw = restrH t fr fw := by
  unfold restr restrH; rw [pickT_eq h, pickT_eq h]
/-- The blocks from n0 up to n0 + d, and those of fw, as R has them. -/
def mergeNew (R : Heap) : Nat → Nat → Tr Blk → Tr Blk
  | 0, _, t => t
  | d + 1, n0, t => mergeNew R d (n0 + 1) (t.set n0 (aget R n0))
def mergeOld (R : Heap) : List Nat → Tr Blk → Tr Blk
  | [], t => t
  | b :: l, t => mergeOld R l (t.set b (aget R b))
def mergeTr (t : Tr Blk) (fw : List Nat) (n0 n1 : Nat) (R : Heap) : Tr Blk := mergeNew R (n1 - n0) n0 (mergeOld R fw t)
theorem get_mergeNew (R : Heap) : ∀ (d n0 : Nat) (t : Tr Blk) (b : Nat), (mergeNew R d n0 t).get b = if n0 ≤ b ∧ b < n0 + d then aget R b else t.get b := by
  intro d
  induction d with
  | zero => intro n0 t b; rw [if_neg (by omega)]; rfl
  | succ d ih =>
    intro n0 t b
    unfold mergeNew
    rw [ih, Tr.get_set]
    by_cases h1 : b = n0
    · subst h1; rw [if_neg (by omega), if_pos rfl, if_pos (by omega)]
    · by_cases h2 : n0 + 1 ≤ b ∧ b < n0 + 1 + d
      · rw [if_pos h2, if_pos (by omega)]
      · rw [if_neg h2, if_neg h1, if_neg (by omega)]
theorem get_mergeOld (R : Heap) : ∀ (l : List Nat) (t : Tr Blk) (b : Nat), (mergeOld R l t).get b = if b ∈ l then aget R b else t.get b := by
  intro l
  induction l with
  | nil => intro t b; simp [mergeOld]
  | cons i l ih =>
    intro t b
    unfold mergeOld
    rw [ih, Tr.get_set]
    by_cases h1 : b ∈ l
    · simp [h1]
    · by_cases h2 : b = i
      · subst h2; simp
      · simp [h1, h2]
theorem get_mergeTr {H : Heap} {t : Tr Blk} (h : ∀ i, aget H i = t.get i) (fw : List Nat) (n0 n1 : Nat) (hle : n0 ≤ n1) (R : Heap) (b : Nat) : aget (mergeH H fw n0 n1 R) b = (mergeTr t fw n0 n1 R).get b := by
  unfold mergeTr
  rw [aget_mergeH, get_mergeNew, get_mergeOld, h]
  by_cases h1 : n0 ≤ b ∧ b < n0 + (n1 - n0)
  · rw [if_pos h1, if_pos]
    simp only [touch, Bool.or_eq_true, Bool.and_eq_true, decide_eq_true_eq]
    exact .inr (by omega)
  · rw [if_neg h1]
    by_cases h2 : b ∈ fw
    · rw [if_pos h2, if_pos]; simp [touch, h2]
    · rw [if_neg h2, if_neg]
      simp [touch, h2]
      omega

/-- The same, whole blocks taken as they stand. -/
def evFast (T : Temps) (n : Nat) (H : Heap) (op : AOp) : Got :=
  match op with
  | .ld true sz a =>
    match a.val T with
    | .p id off =>
      match aget H id with
      | some (.row _ cs) => if off = 0 ∧ cs.length = sz then some (.ag cs, n, H) else evalOp T n H op
      | _ => none
    | _ => none
  | .st sz a x =>
    match a.val T with
    | .p id off =>
      match aget H id with
      | some (.row true cs) =>
        if off = 0 ∧ cs.length = sz then
          (if (x.val T).known && (x.val T).cells.length == sz && (x.val T).cells.all V.one then some (.un, n, aput H id (.row true (x.val T).cells)) else none)
        else evalOp T n H op
      | _ => none
    | _ => none
  | op => evalOp T n H op
theorem evFast_eq (T : Temps) (n : Nat) (H : Heap) (op : AOp) : evFast T n H op = evalOp T n H op := by
  cases op with
  | ld agg sz a =>
    cases agg with
    | false => rfl
    | true =>
      simp only [evFast, evalOp]
      cases a.val T with
      | p id off =>
        simp only [evLd]
        cases aget H id with
        | none => rfl
        | some k =>
          cases k with
          | row o cs =>
            simp only
            split
            · rename_i h
              obtain ⟨rfl, rfl⟩ := h
              simp
            · rfl
          | _ => rfl
      | _ => rfl
  | st sz a x =>
    simp only [evFast, evalOp]
    cases a.val T with
    | p id off =>
      simp only [evSt]
      cases aget H id with
      | none => rfl
      | some k =>
        cases k with
        | row o cs =>
          cases o with
          | false => rfl
          | true =>
            simp only
            split
            · rename_i h
              obtain ⟨rfl, rfl⟩ := h
              by_cases hc : ((x.val T).known && (x.val T).cells.length == cs.length && (x.val T).cells.all V.one) = true
              · rw [if_pos hc, if_pos]
                · have hl : (x.val T).cells.length = cs.length := by
                    simp only [Bool.and_eq_true, beq_iff_eq] at hc; exact hc.1.2
                  have : setAll cs 0 (x.val T).cells = (x.val T).cells := by
                    simp [setAll, hl]
                  rw [this]
                · rw [hc]; simp
              · rw [if_neg hc, if_neg]
                intro h
                rw [Bool.and_eq_true] at h
                exact hc h.1
            · rfl
        | _ => rfl
    | _ => rfl
  | _ => rfl
/-! ### The run -/
abbrev RCode := Bool → Nat → Option Nat → ACode → RSt → Option (Exit × RSt)
abbrev RGot := Option (V × Nat × Tr Blk)
abbrev RCall := FuncId → List V → Nat → Tr Blk → RGot
def putR (T : Tr V) (dst : Option Nat) (v : V) : Tr V :=
  match dst with
  | some d => T.set d (some v)
  | none => T
def AX.valR (T : Tr V) : AX → V
  | .t i => (T.get i).getD .un
  | .c v => v
  | .f g => .fn g [] []
def guardR (T : Tr V) : Option (Option Nat × Bool) → Option Bool
  | none => some true
  | some (some t, want) => match T.get t with | some (.b x) => some (x == want) | _ => none
  | some (none, _) => none
def putAllR : Tr V → List Nat → List V → Tr V
  | T, d :: ds, v :: vs => putAllR (T.set d (some v)) ds vs
  | T, _, _ => T
def runYield (rc : RCode) (l : Nat) (args : List V) (n : Nat) (H : Tr Blk) : RGot :=
  match H.get l with
  | some (.loop r) =>
    if r.params.length = args.length ∧ r.params.all (· < r.N) then
      match rc false r.N (some l) r.assign ⟨putAllR (.ofL r.T) r.params args, [], n, H⟩ with
      | some (.normal, ⟨T1, [], n1, H1⟩) =>
        match H1.get l with
        | some (.loop r1) =>
          match r1.st with
          | .ready =>
            match rc false r.N (some l) r.body ⟨T1, [], n1, H1.set l (some (.loop { r1 with st := .busy }))⟩ with
            | some (e2, s2) =>
              match s2.H.get l with
              | some (.loop r2) =>
                match e2 with
                | .normal => some (.b true, s2.n, s2.H.set l (some (.loop { r2 with st := .ready, pend := none })))
                | .ret => some (.b false, s2.n, s2.H.set l (some (.loop { r2 with st := .done, pend := some .ret })))
                | .exit id => some (.b false, s2.n, s2.H.set l (some (.loop { r2 with st := .done, pend := some (.exit id) })))
                | _ => none
              | _ => none
            | none => none
          | _ => none
        | _ => none
      | _ => none
    else none
  | _ => none
def runV (rc : RCode) (rf : RCall) (g : V) (args : List V) (n : Nat) (H : Tr Blk) : RGot :=
  match g with
  | .fn f first caps => rf f (first ++ args ++ caps) n H
  | .yl l => runYield rc l args n H
  | _ => none
def ownB (R : Heap) (fw : List Nat) (n n1 : Nat) : Bool := R.all fun p => !touch fw n n1 p.1 || p.2.own
/-- The blocks that an operation looks at, and lays anew. -/
def frR (T : Temps) (op : AOp) : List Nat := (frOp T op).filter fun i => !(fwOp T op).contains i
def runOps (rc : RCode) (rf : RCall) : List AOper → RSt → Option RSt
  | [], st => some st
  | o :: os, st =>
    match guardR st.T o.guard with
    | some false => runOps rc rf os { st with T := putR st.T o.dst .un }
    | some true =>
      match o.op with
      | .call g args =>
        match runV rc rf (g.valR st.T) (args.map (·.valR st.T)) st.n st.H with
        | some (v, n', H') => runOps rc rf os ⟨putR st.T o.dst v, st.D, n', H'⟩
        | none => none
      | op =>
        let T := tslots st.T op.slots
        match evFast T st.n (restrH st.H (frR T op) (fwOp T op)) op with
        | some (v, n1, R) =>
          if decide (st.n ≤ n1) && ownB R (fwOp T op) st.n n1 then runOps rc rf os ⟨putR st.T o.dst v, st.D, n1, mergeTr st.H (fwOp T op) st.n n1 R⟩ else none
        | none => none
    | none => none
/-- The ids in a value. -/
def idsV : Nat → V → List Nat
  | 0, _ => []
  | _ + 1, .p id _ => [id]
  | _ + 1, .sl id _ _ _ _ => [id]
  | _ + 1, .yl id => [id]
  | d + 1, .fn _ xs us => xs.flatMap (idsV d) ++ us.flatMap (idsV d)
  | d + 1, .ifc _ x => idsV d x
  | d + 1, .ag xs => xs.flatMap (idsV d)
  | d + 1, .tu xs => xs.flatMap (idsV d)
  | _ + 1, _ => []
def reach (H : Tr Blk) : Nat → List Nat → List Nat → List Nat
  | 0, _, seen => seen
  | _ + 1, [], seen => seen
  | k + 1, i :: todo, seen =>
    if seen.contains i then reach H k todo seen else
    match H.get i with
    | some (.row _ cs) => reach H k (cs.flatMap (idsV 4) ++ todo) (i :: seen)
    | _ => reach H k todo seen
def okDB (n : Nat) (H : Tr Blk) (fr fw : List Nat) (n1 : Nat) (R : Heap) : Bool :=
  decide (n ≤ n1) && (fr ++ fw).all (fun b => decide (b < n)) && fw.all (fun b => match H.get b with | some (.row true _) => true | _ => false) && ownB R fw n n1
def binB (n : Nat) : Blk → Bool
  | .row _ cs => cs.all (vinB 6 n)
  | .loop _ => false
  | .marks => true
def inDB (n n1 : Nat) (fw : List Nat) (v : V) (R : Heap) : Bool := vinB 6 n1 v && R.all fun p => !touch fw n n1 p.1 || binB n1 p.2
def ownRow (H : Tr Blk) (i : Nat) : Bool := match H.get i with | some (.row true _) => true | _ => false
/-- What a call on the part of the heap answers, as a list: the blocks that it may have laid anew. -/
def gotNew (H : Tr Blk) : Nat → Nat → Heap
  | 0, _ => []
  | d + 1, n0 => match H.get n0 with | some k => (n0, k) :: gotNew H d (n0 + 1) | none => gotNew H d (n0 + 1)
def runD (rf : RCall) (f : FuncId) (vs : List V) (n : Nat) (H : Tr Blk) (ids : List Nat) : Option (List Nat × List Nat × V × Nat × Heap) :=
  match rf f vs n (.ofL (restrH H ids [])) with
  | some (v, n1, H1) => some (ids, [], v, n1, gotNew H1 (n1 - n) n)
  | none =>
    match rf f vs n (.ofL (restrH H (ids.filter fun i => !ownRow H i) (ids.filter (ownRow H)))) with
    | some (v, n1, H1) => some (ids.filter fun i => !ownRow H i, ids.filter (ownRow H), v, n1, pickT H1 id (ids.filter (ownRow H)) ++ gotNew H1 (n1 - n) n)
    | none => none
def consD (s : DStep) : Option (List DStep × RSt) → Option (List DStep × RSt)
  | some (l, st) => some (s :: l, st)
  | none => none
def runDraw (rf : RCall) : List AOper → RSt → Option (List DStep × RSt)
  | [], st => some ([], st)
  | o :: os, st =>
    match guardR st.T o.guard with
    | some false => consD ⟨gslots o.guard, o.dst, [], [], st.n, st.n, .un, []⟩ (runDraw rf os ⟨putR st.T o.dst .un, st.D, st.n, st.H⟩)
    | some true =>
      match o.op with
      | .call g args =>
        match g.valR st.T with
        | .fn f first caps =>
          match runD rf f (first ++ args.map (·.valR st.T) ++ caps) st.n st.H (reach st.H 100 ((first ++ args.map (·.valR st.T) ++ caps).flatMap (idsV 4)) []) with
          | some (fr, fw, v, n1, R) =>
            if okDB st.n st.H fr fw n1 R && inDB st.n n1 fw v R then
              consD ⟨(AOp.call g args).slots ++ gslots o.guard, o.dst, fr, fw, st.n, n1, v, R⟩ (runDraw rf os ⟨putR st.T o.dst v, st.D, n1, mergeTr st.H fw st.n n1 R⟩)
            else none
          | none => none
        | _ => none
      | op =>
        let T := tslots st.T op.slots
        match evFast T st.n (restrH st.H (frR T op) (fwOp T op)) op with
        | some (v, n1, R) =>
          if op.cok && okDB st.n st.H (frR T op) (fwOp T op) n1 R then
            consD ⟨op.slots ++ gslots o.guard, o.dst, frR T op, fwOp T op, st.n, n1, v, R⟩ (runDraw rf os ⟨putR st.T o.dst v, st.D, n1, mergeTr st.H (fwOp T op) st.n n1 R⟩)
          else none
        | none => none
    | none => none
/-- What two operations write and look at of the slots: told by the code alone. -/
def slotI (a b : AOper) : Bool :=
  (match a.dst with | some d => !(b.op.slots ++ gslots b.guard).contains d && b.dst != some d | none => true) &&
  (match b.dst with | some d => !(a.op.slots ++ gslots a.guard).contains d | none => true)
def slotRow (bj : Nat) (oj : AOper) : Nat → List AOper → Bool
  | _, [] => true
  | i, o :: r => (bj.testBit i || slotI o oj) && slotRow bj oj (i + 1) r
def slotsOk (befs : List Nat) (all : List AOper) : Nat → List AOper → Bool
  | _, [] => true
  | j, o :: r => slotRow (befs.getD j 0) o 0 (all.take j) && slotsOk befs all (j + 1) r
def heavy (s : DStep) : Bool := !s.fw.isEmpty || decide (s.n0 < s.n1)
def heapI (a b : DStep) : Bool :=
  a.fw.all (fun i => !b.fr.contains i && !b.fw.contains i) && b.fw.all (fun i => !a.fr.contains i && !a.fw.contains i) &&
  (b.fr ++ b.fw).all (fun i => !(decide (a.n0 ≤ i) && decide (i < a.n1)))
/-- The heavy one k beside all others. -/
def heapRow (befs : List Nat) (k : Nat) (s : DStep) : Nat → List DStep → Bool
  | _, [] => true
  | i, t :: r => (if i < k then (befs.getD k 0).testBit i || heapI t s else if k < i then (befs.getD i 0).testBit k || heapI s t else true) && heapRow befs k s (i + 1) r
def heapOk (befs : List Nat) (all : List DStep) : Nat → List DStep → Bool
  | _, [] => true
  | k, s :: r => (if heavy s then heapRow befs k s 0 all else true) && heapOk befs all (k + 1) r
def runEnd (l : Nat) (st : RSt) : RGot → Option (Exit × RSt)
  | some (_, n', H') =>
    match H'.get l with
    | some (.loop r) =>
      match r.st with
      | .busy => none
      | _ =>
        match r.pend with
        | none => some (.normal, { st with n := n', H := H'.set l none })
        | some .ret => some (.ret, { st with n := n', H := H'.set l none })
        | some (.exit id) => some (.exit id, { st with n := n', H := H'.set l none })
    | _ => none
  | none => none
def stepCode (rc : RCode) (rf : RCall) : RCode := fun rounds N rd ac st =>
  if rounds then
    match rc false N rd ac st with
    | some (.normal, s) => rc true N rd ac s
    | r => r
  else
    match ac with
    | .skip => some (.normal, st)
    | .ops none l => match runOps rc rf l st with | some s => some (.normal, s) | none => none
    | .ops (some b) l => match runDraw rf l st with | some (steps, s) => if slotsOk b l 0 l && heapOk b steps 0 steps then some (.normal, s) else none | none => none
    | .seq a b => match rc false N rd a st with | some (.normal, s) => rc false N rd b s | r => r
    | .cond c a b => match c.valR st.T with | .b t => rc false N rd (if t then a else b) st | _ => none
    | .block id c => match rc false N rd c st with | some (.exit id', s) => if id' = id then some (.normal, s) else some (.exit id', s) | r => r
    | .loop c => rc true N rd c st
    | .rangeF g ps x y =>
      match g.valR st.T with
      | .fn fid first caps =>
        match rd with
        | none => runEnd (st.n + 1) { st with D := st.n :: st.D } (rf fid (first ++ [.yl (st.n + 1)] ++ caps) (st.n + 2) ((st.H.set st.n (some .marks)).set (st.n + 1) (some (.loop ⟨.ready, none, N, st.T.list, ps, x, y, st.n⟩))))
        | some l₀ =>
          match st.H.get l₀ with
          | some (.loop r₀) => runEnd st.n st (rf fid (first ++ [.yl st.n] ++ caps) (st.n + 1) (st.H.set st.n (some (.loop ⟨.ready, none, N, st.T.list, ps, x, y, r₀.marks⟩))))
          | _ => none
      | _ => none
    | .exit id => some (.exit id, st)
    | .ret => some (.ret, st)
    | .scope c => match rc false N rd c st with | some (.goto _, _) => none | r => r
def nodupB : List Nat → Bool
  | [] => true
  | i :: l => !l.contains i && nodupB l
def okExit : Exit → Bool
  | .normal => true
  | .ret => true
  | _ => false
def resR (T : Tr V) (H : Tr Blk) : List ResA → Option (List V)
  | [] => some []
  | r :: rs =>
    match (match r with
      | .t i => T.get i
      | .cell g s a =>
        match T.get a with
        | some (.p id off) => ldV (restrH H [] [id]) g s (.p id off)
        | _ => none), resR T H rs with
    | some v, some l => some (v :: l)
    | _, _ => none
def delR : Tr Blk → List Nat → Tr Blk
  | H, [] => H
  | H, m :: ms => delR (H.set m none) ms
def stepCall (known : FuncId → List V → Option V) (tab : FuncId → Option AFun) (rc : RCode) : RCall := fun f args n H =>
  match known f args with
  | some v => some (v, n, H)
  | none =>
    match tab f with
    | some af =>
      if args.length ≤ af.N then
        match rc false af.N none af.body ⟨.ofL (argsT 0 args), [], n, H⟩ with
        | some (e, st) =>
          if okExit e && st.D.all (fun m => match st.H.get m with | some .marks => true | _ => false) && nodupB st.D then
            match resR st.T (delR st.H st.D) af.res with
            | some vs => some (resV vs, st.n, delR st.H st.D)
            | none => none
          else none
        | none => none
      else none
    | none => none
structure Rec where
  code : RCode
  call : RCall
def runAll (known : FuncId → List V → Option V) (tab : FuncId → Option AFun) (k : Nat) : Rec :=
  Nat.rec ⟨fun _ _ _ _ _ => none, fun _ _ _ _ => none⟩ (fun _ r => ⟨stepCode r.code r.call, stepCall known tab r.code⟩) k
end Go.Proofs.Ytpgelghkjiejlaa
end
