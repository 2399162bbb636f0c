/- What is done on a part of the heap is done on the whole: operations, calls; states that answer alike. -/
import Derived.Test.YtpgelghkjiejlaaSmV
set_option linter.unusedVariables false
set_option linter.unusedSimpArgs false
namespace Go.Proofs.Ytpgelghkjiejlaa
open Go

theorem restr_get_own {H : Heap} {fr fw : List Nat} {b : Nat} {k : Blk} (h : aget (restr H fr fw) b = some k) (ho : k.own = true) : b ∈ fw ∧ aget H b = some k := by
  rcases aget_restr h with h1 | ⟨_, o, cs, _, rfl⟩
  · exact h1
  · cases ho
theorem restr_sim {pc : PrepC} {ρ : Ren} {n : Nat} {H : Heap} {w : World} (s : Sim pc ρ n H w) (fr fw : List Nat) : Sim pc ρ n (restr H fr fw) w := by
  refine ⟨s.sup, fun b k hb => ?_, fun b1 b2 k1 k2 x1 x2 h1 h2 e1 e2 he ho => ?_⟩
  · rcases aget_restr hb with ⟨_, h1⟩ | ⟨_, o, cs, h1, rfl⟩
    · exact s.blk b k h1
    · obtain ⟨c, d, z, e, arr, t, fr', g1, g2, g3, g4, g5⟩ := s.blk b _ h1
      exact ⟨c, d, z, e, arr, t, fr', g1, g2, g3, g4, fun h => by cases h⟩
  · obtain ⟨_, g1⟩ := restr_get_own h1 ho
    have g2 : ∃ k, aget H b2 = some k := by
      rcases aget_restr h2 with ⟨_, g⟩ | ⟨_, o, cs, g, _⟩
      · exact ⟨_, g⟩
      · exact ⟨_, g⟩
    obtain ⟨k, g2⟩ := g2
    exact s.inj b1 b2 k1 k x1 x2 g1 g2 e1 e2 he ho
theorem OwnC.of_restr {ρ : Ren} {H : Heap} {fr fw : List Nat} {c : Nat} (h : OwnC ρ (restr H fr fw) c) : ∃ b k x, b ∈ fw ∧ aget H b = some k ∧ k.own = true ∧ ρ b = some x ∧ x.1 = c := by
  obtain ⟨b, k, x, h1, h2, h3, h4⟩ := h
  obtain ⟨g1, g2⟩ := restr_get_own h1 h2
  exact ⟨b, k, x, g1, g2, h2, h3, h4⟩
theorem frame_sim {pc : PrepC} {ρ ρ' : Ren} {n n1 : Nat} {H R : Heap} {w w' : World} {fr fw : List Nat} (hs : Sim pc ρ n H w) (hs' : Sim pc ρ' n1 R w') (hE : Ext ρ n (restr H fr fw) w ρ' n1 R w')
    (hown : ∀ b k, touch fw n n1 b = true → aget R b = some k → k.own = true) : Sim pc ρ' n1 (mergeH H fw n n1 R) w' ∧ Ext ρ n H w ρ' n1 (mergeH H fw n n1 R) w' := by
  have hfwt : ∀ b, b ∈ fw → touch fw n n1 b = true := fun b hb => by simp [touch, hb]
  have hnot : ∀ b k x, ¬ touch fw n n1 b = true → aget H b = some k → ρ b = some x → ¬ OwnC ρ (restr H fr fw) x.1 := by
    intro b k x ht hb hx ho
    obtain ⟨b', k', x', g1, g2, g3, g4, g5⟩ := ho.of_restr
    have := hs.inj b' b k' k x' x g2 hb g4 hx g5 g3
    subst this
    exact ht (hfwt _ g1)
  have hget : ∀ b k, aget (mergeH H fw n n1 R) b = some k → (touch fw n n1 b = true ∧ aget R b = some k) ∨ (¬ touch fw n n1 b = true ∧ aget H b = some k) := by
    intro b k hb
    rw [aget_mergeH] at hb
    by_cases ht : touch fw n n1 b = true
    · rw [if_pos ht] at hb; exact .inl ⟨ht, hb⟩
    · rw [if_neg ht] at hb; exact .inr ⟨ht, hb⟩
  have hold : ∀ b k x, aget H b = some k → ρ' b = some x → ρ b = some x ∧ x.1 < w.heap.size := by
    intro b k x hb hx
    obtain ⟨c, d, z, e, _⟩ := hs.blk b k hb
    have := hE.ren _ _ e
    rw [hx] at this
    cases this
    exact ⟨e, (hs.sup _ _ e).2⟩
  refine ⟨⟨hs'.sup, fun b k hb => ?_, fun b1 b2 k1 k2 x1 x2 h1 h2 e1 e2 he ho => ?_⟩, hE.le, hE.ren, hE.old, hE.os, hE.tape, hE.output, hE.drawn, hE.size, fun c hc hno => ?_, fun c hc => ?_⟩
  · rcases hget b k hb with ⟨_, h1⟩ | ⟨ht, h1⟩
    · exact hs'.blk b k h1
    · obtain ⟨c, d, z, e, r⟩ := hs.blk b k h1
      exact ⟨c, d, z, hE.ren _ _ e, r.mono hE.ren (hE.frame c (hs.sup _ _ e).2 (hnot b k _ ht h1 e))⟩
  · rcases hget b1 k1 h1 with ⟨t1, g1⟩ | ⟨t1, g1⟩ <;> rcases hget b2 k2 h2 with ⟨t2, g2⟩ | ⟨t2, g2⟩
    · exact hs'.inj b1 b2 k1 k2 x1 x2 g1 g2 e1 e2 he ho
    · obtain ⟨f1, f2⟩ := hold b2 k2 x2 g2 e2
      rcases hE.own x1.1 ⟨b1, k1, x1, g1, ho, e1, rfl⟩ with h3 | h3
      · rw [he] at h3; exact absurd h3 (hnot b2 k2 x2 t2 g2 f1)
      · rw [he] at h3; omega
    · obtain ⟨f1, f2⟩ := hold b1 k1 x1 g1 e1
      rcases hE.own x2.1 ⟨b2, k2, x2, g2, hown b2 k2 t2 g2, e2, rfl⟩ with h3 | h3
      · rw [← he] at h3; exact absurd h3 (hnot b1 k1 x1 t1 g1 f1)
      · rw [← he] at h3; omega
    · exact hs.inj b1 b2 k1 k2 x1 x2 g1 g2 (hold _ _ _ g1 e1).1 (hold _ _ _ g2 e2).1 he ho
  · exact hE.frame c hc fun h => by
      obtain ⟨b, k, x, _, g2, g3, g4, g5⟩ := h.of_restr
      exact hno ⟨b, k, x, g2, g3, g4, g5⟩
  · obtain ⟨b, k, x, h1, h2, h3, h4⟩ := hc
    rcases hget b k h1 with ⟨_, g1⟩ | ⟨_, g1⟩
    · rcases hE.own c ⟨b, k, x, g1, h2, h3, h4⟩ with h | h
      · obtain ⟨b', k', x', _, q2, q3, q4, q5⟩ := h.of_restr
        exact .inl ⟨b', k', x', q2, q3, q4, q5⟩
      · exact .inr h
    · exact .inl ⟨b, k, x, g1, h2, (hold _ _ _ g1 h3).1, h4⟩
section rules
variable {P : Program} {N : Nat}
/-- A call that is known on a part of the heap. -/
theorem ACalls.frame {f : FuncId} {args : List V} {n : Nat} {H : Heap} {fr fw : List Nat} {K : V → Nat → Heap → Prop} (h : ACalls P f args n (restr H fr fw) K)
    (hown : ∀ v n1 R, K v n1 R → ∀ b k, touch fw n n1 b = true → aget R b = some k → k.own = true) : ACalls P f args n H fun v n1 H' => ∃ R, K v n1 R ∧ H' = mergeH H fw n n1 R := by
  refine ⟨h.1, fun ρ w args' hs hr => (h.2 ρ w args' (restr_sim hs fr fw) hr).mono ?_⟩
  rintro e w' ⟨v, n1, R, ρ', y, h1, h2, h3, h4, h5⟩
  obtain ⟨g1, g2⟩ := frame_sim hs h4 h5 (hown v n1 R h1)
  exact ⟨v, n1, _, ρ', y, ⟨R, h1, rfl⟩, h2, h3, g1, g2⟩

/-! states that answer alike -/
structure St.alike (s t : St) : Prop where
  T : ∀ i, aget s.T i = aget t.T i
  D : s.D = t.D
  n : s.n = t.n
  H : ∀ i, aget s.H i = aget t.H i
theorem Sim.alike {pc : PrepC} {ρ : Ren} {n : Nat} {H H' : Heap} {w : World} (h : ∀ i, aget H i = aget H' i) (s : Sim pc ρ n H w) : Sim pc ρ n H' w :=
  ⟨s.sup, fun b k hb => s.blk b k ((h b).trans hb), fun b1 b2 k1 k2 x1 x2 h1 h2 => s.inj b1 b2 k1 k2 x1 x2 ((h _).trans h1) ((h _).trans h2)⟩
theorem OwnC.alike {ρ : Ren} {H H' : Heap} {c : Nat} (h : ∀ i, aget H i = aget H' i) (o : OwnC ρ H c) : OwnC ρ H' c := let ⟨b, k, x, h1, h2⟩ := o; ⟨b, k, x, (h b).symm.trans h1, h2⟩
theorem Ext.alike {ρ ρ' : Ren} {n n' : Nat} {H H1 H' : Heap} {w w' : World} (h : ∀ i, aget H i = aget H1 i) (e : Ext ρ n H w ρ' n' H' w') : Ext ρ n H1 w ρ' n' H' w' :=
  ⟨e.le, e.ren, e.old, e.os, e.tape, e.output, e.drawn, e.size, fun c hc hno => e.frame c hc fun ho => hno (ho.alike h), fun c hc => (e.own c hc).imp (fun ho => ho.alike h) id⟩
theorem TRel.alike {ρ : Ren} {T T' : Temps} {tmps : Array Value} (h : ∀ i, aget T i = aget T' i) (r : TRel ρ N T tmps) : TRel ρ N T' tmps := ⟨r.1, fun i v hv => r.2 i v ((h i).trans hv)⟩
theorem AWc.alike {rd : Option Nat} {ac : ACode} {s t : St} {Q : Exit → St → Prop} (h : s.alike t) (a : AWc P N rd ac s Q) : AWc P N rd ac t Q := by
  obtain ⟨T, D, n, H⟩ := s
  obtain ⟨T', D', n', H'⟩ := t
  obtain ⟨h1, h2, h3, h4⟩ := h
  simp only at h1 h2 h3 h4
  subst h2
  subst h3
  intro c hp ρ F m x w hF hA
  refine wpIn_mono (a c hp ρ F m x w hF ⟨hA.tm.alike fun i => (h1 i).symm, hA.mr, hA.sim.alike fun i => (h4 i).symm⟩) ?_
  rintro e a' w' ⟨st', ρ', g1, g2, g3⟩
  exact ⟨st', ρ', g1, g2, g3.alike h4⟩
theorem ACalls.alike {f : FuncId} {args : List V} {n : Nat} {H H' : Heap} {K : V → Nat → Heap → Prop} (h : ∀ i, aget H i = aget H' i) (a : ACalls P f args n H K) : ACalls P f args n H' K :=
  ⟨a.1, fun ρ w args' hs hr => (a.2 ρ w args' (hs.alike fun i => (h i).symm) hr).mono fun e w' ⟨v, n', H1, ρ', y, h1, h2, h3, h4, h5⟩ => ⟨v, n', H1, ρ', y, h1, h2, h3, h4, h5.alike h⟩⟩

/-! operations in the order of the text, each on the part of the heap that it needs -/
def opsS (P : Program) : List AOper → St → (St → Prop) → Prop
  | [], st, K => K st
  | o :: os, st, K =>
    match guardOf st.T o.guard with
    | some false => opsS P os { st with T := putT st.T o.dst .un } K
    | some true =>
      match o.op with
      | .call g args => callV P (g.val st.T) (args.map (·.val st.T)) st.n st.H fun v n' H' => opsS P os ⟨putT st.T o.dst v, st.D, n', H'⟩ K
      | op => ∃ fr fw v n1 R, evalOp st.T st.n (restr st.H fr fw) op = some (v, n1, R) ∧ (∀ p ∈ R, touch fw st.n n1 p.1 = true → p.2.own = true) ∧
          opsS P os ⟨putT st.T o.dst v, st.D, n1, mergeH st.H fw st.n n1 R⟩ K
    | none => False
theorem opsS_sound {ops : Array Oper} {rd : Option Nat} {ρ0 : Ren} {n0 : Nat} {H0 : Heap} {w0 : World} {K : St → Prop} : ∀ (os : List Oper) (l : List AOper) (k : Nat), (∀ j, os[j]? = ops[k + j]?) → prepOpers P N ops os = some l →
    ∀ (st : St) (ρ : Ren) (F : Fence) (m : Nat) (a : Act) (w : World), opsS P l st K → FRel ρ rd F → ARel P ρ N st a w → Ext ρ0 n0 H0 w0 ρ st.n st.H w →
      wpOpsIn F m P ops (PostX P N ρ0 n0 H0 w0 K) (List.range' k os.length) a w := by
  intro os
  induction os with
  | nil =>
    intro l k _ hp st ρ F m a w h hF hA hE
    cases hp
    exact ⟨rfl, st, ρ, h, hA, hE⟩
  | cons o os ih =>
    intro l k hk hp st ρ F m a w h hF hA hE
    simp only [prepOpers] at hp
    split at hp
    · rename_i ao l' h1 h2
      cases hp
      have hk0 : ops[k]? = some o := by simpa using (hk 0).symm
      have hk' : ∀ j, os[j]? = ops[k + 1 + j]? := fun j => by have := hk (j + 1); simpa [Nat.add_assoc, Nat.add_comm 1 j] using this
      obtain ⟨p1, p2, p3, p4⟩ := prepOper_inv h1
      rw [List.length_cons, List.range'_succ]
      simp only [wpOpsIn, hk0]
      unfold opsS at h
      split at h
      · rename_i hg
        rw [p4] at hg
        have hw := wanted_of hA.tm hg
        rw [hw]
        simp only [Bool.false_eq_true, if_false]
        refine ⟨fun f _ => hF.fn f, ih l' (k + 1) hk' h2 _ ρ F m _ w h hF ⟨?_, ?_, hA.sim⟩ hE⟩
        · rw [p2]; exact hA.tm.put (.un _) o.dst p3 a rfl
        · rw [put_defers]; exact hA.mr
      · rename_i hg
        rw [p4] at hg
        have hw := wanted_of hA.tm hg
        rw [hw]
        simp only [if_true, Oper.wpIn]
        refine ⟨fun f _ => hF.fn f, ?_⟩
        split at h
        · rename_i g args hop
          rw [hop] at p1
          obtain ⟨c, f, e1, e2, e3, e4⟩ := prepOp2_call p1
          rw [Oper.semAt_eq _ _ _ (by rw [e1]; intro c h; cases h)]
          refine callV_sound hF hA.tm hA.sim e1 e2 e3 e4 h _ _ ?_
          intro v n' H' ρ' y w' hK hv hs hx
          refine ih l' (k + 1) hk' h2 _ ρ' F m _ w' hK (hF.mono hx.ren) ⟨?_, ?_, hs⟩ (hE.trans hx)
          · rw [p2]; exact (hA.tm.mono hx.ren).put hv o.dst p3 a rfl
          · rw [put_defers]; exact hA.mr.mono hx.ren
        · rename_i hncall
          have p1' := prepOp2_other p1 hncall
          rw [Oper.semAt_eq _ _ _ (prepOp_ne_defer p1')]
          obtain ⟨fr, fw, v, n', R, hev, hown, h⟩ := h
          obtain ⟨nx, y, w', ρ', hrun, hnx, hv, hs0, hx0⟩ := evalOp_sound hA.tm (restr_sim hA.sim fr fw) p1' hev
          obtain ⟨hs, hx⟩ := frame_sim hA.sim hs0 hx0 fun b k ht hb => hown (b, k) (aget_mem hb) ht
          rw [hrun]
          have hgo : wpOpsIn F m P ops (PostX P N ρ0 n0 H0 w0 K) (List.range' (k + 1) os.length) (a.put o.dst y) w' := by
            refine ih l' (k + 1) hk' h2 _ ρ' F m _ w' h (hF.mono hx.ren) ⟨?_, ?_, hs⟩ (hE.trans hx)
            · rw [p2]; exact (hA.tm.mono hx.ren).put hv o.dst p3 a rfl
            · rw [put_defers]; exact hA.mr.mono hx.ren
          rcases hnx with rfl | ⟨rfl, rfl⟩
          · exact hgo
          · exact hgo
      · exact h.elim
    · cases hp
theorem AWc.opsS {rd : Option Nat} {st : St} {Q : Exit → St → Prop} {l : List AOper} (h : opsS P l st (Q .normal)) : AWc P N rd (.ops none l) st Q := by
  intro c hp ρ F m a w hF hA
  obtain ⟨id, ops, draw, rfl, h1, ⟨_, rfl⟩ | ⟨b, hb, _⟩⟩ := prepC_ops hp
  · refine wpIn_region ?_
    have := opsS_sound (ops := ops) (rd := rd) (K := Q .normal) ops.toList l 0 (fun j => by simp) h1 st ρ F m a w h hF hA (.refl _ _ _ _)
    rw [Array.length_toList, ← List.range_eq_range'] at this
    refine wpOpsIn_post ?_ this
    rintro e a' w' ⟨rfl, st', ρ', q1, q2, q3⟩
    exact ⟨st', ρ', q1, q2, q3⟩
  · cases hb
section one
variable {o : AOper} {os : List AOper} {st : St} {K : St → Prop}
theorem opsS_skip (hg : guardOf st.T o.guard = some false) (h : Go.Proofs.Ytpgelghkjiejlaa.opsS P os { st with T := putT st.T o.dst .un } K) : Go.Proofs.Ytpgelghkjiejlaa.opsS P (o :: os) st K := by
  unfold Go.Proofs.Ytpgelghkjiejlaa.opsS; rw [hg]; exact h
theorem opsS_call {g : AX} {args : List AX} (hg : guardOf st.T o.guard = some true) (ho : o.op = .call g args)
    (h : callV P (g.val st.T) (args.map (·.val st.T)) st.n st.H fun v n' H' => Go.Proofs.Ytpgelghkjiejlaa.opsS P os ⟨putT st.T o.dst v, st.D, n', H'⟩ K) : Go.Proofs.Ytpgelghkjiejlaa.opsS P (o :: os) st K := by
  unfold Go.Proofs.Ytpgelghkjiejlaa.opsS; rw [hg, ho]; exact h
theorem opsS_op (hg : guardOf st.T o.guard = some true) (ho : ∀ g l, o.op ≠ .call g l) {fr fw : List Nat} {v : V} {n1 : Nat} {R : Heap} (hev : evalOp st.T st.n (restr st.H fr fw) o.op = some (v, n1, R))
    (hown : ∀ p ∈ R, touch fw st.n n1 p.1 = true → p.2.own = true) (h : Go.Proofs.Ytpgelghkjiejlaa.opsS P os ⟨putT st.T o.dst v, st.D, n1, mergeH st.H fw st.n n1 R⟩ K) : Go.Proofs.Ytpgelghkjiejlaa.opsS P (o :: os) st K := by
  unfold Go.Proofs.Ytpgelghkjiejlaa.opsS; rw [hg]
  simp only
  exact ⟨fr, fw, v, n1, R, hev, hown, h⟩
end one
end rules
end Go.Proofs.Ytpgelghkjiejlaa
