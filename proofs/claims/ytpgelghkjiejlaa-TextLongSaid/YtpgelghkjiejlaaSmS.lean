/- Regions that draw their order: the theorem. -/
import Derived.Test.YtpgelghkjiejlaaSmR
set_option linter.unusedVariables false
set_option linter.unusedSimpArgs false
namespace Go.Proofs.Ytpgelghkjiejlaa
open Go

def indep (a b : DStep) : Bool :=
  (match a.dst with | some d => !b.rs.contains d && b.dst != some d | none => true) &&
  (match b.dst with | some d => !a.rs.contains d | none => true) &&
  a.fw.all (fun i => !b.fr.contains i && !b.fw.contains i) && b.fw.all (fun i => !a.fr.contains i && !a.fw.contains i) &&
  (b.fr ++ b.fw).all (fun i => !(decide (a.n0 ≤ i) && decide (i < a.n1)))

section draw
variable {P : Program} {N : Nat} {ops : Array Oper}
/-- One operation, run where it has just what it needs. -/
def LStep (P : Program) (N : Nat) (ops : Array Oper) (i : Nat) (T : Temps) (R : Heap) (s : DStep) : Prop :=
  ∀ (ρ : Ren) (rd : Option Nat) (F : Fence) (m : Nat) (a : Act) (w : World), FRel ρ rd F → TRel ρ N T a.tmps → Sim (prepC P) ρ s.n0 R w →
    ∀ (next : Act → World → Prop) (Q : Exit → Act → World → Prop), (∀ ρ' y w', VRel ρ' s.v y → Sim (prepC P) ρ' s.n1 s.R w' → Ext ρ s.n0 R w ρ' s.n1 s.R w' → next (a.put s.dst y) w') → wpOpIn F m P ops Q i next a w
structure Fact (P : Program) (N : Nat) (ops : Array Oper) (k : Nat) (x : TH) (s : DStep) : Prop where
  step : LStep P N ops k (restrT x.1 s.rs) (restr x.2 s.fr s.fw) s
  dstok : dstOk N s.dst = true
  cloT : ∀ t u, t ∈ s.rs → aget x.1 t = some u → VIn s.n0 u
  cloH : ∀ b o cs, b ∈ s.fr ∨ b ∈ s.fw → aget x.2 b = some (.row o cs) → ∀ v ∈ cs, VIn s.n0 v
  fwrow : ∀ b k, b ∈ s.fw → aget x.2 b = some k → ∃ cs, k = .row true cs
  fplt : ∀ b, b ∈ s.fr ∨ b ∈ s.fw → b < s.n0
  ownR : ∀ b k, s.tch b = true → aget s.R b = some k → k.own = true
  nle : s.n0 ≤ s.n1

theorem BRel.cut_row {pc : PrepC} {ρ : Ren} {w : World} {c d z n : Nat} {o o' : Bool} {cs : List V} (h : BRel pc ρ w c d z (.row o cs)) (hv : ∀ v ∈ cs, VIn n v) (ho : o' = true → o = true) : BRel pc (ρ.cut n) w c d z (.row o' cs) := by
  obtain ⟨arr, t, fr, h1, h2, h3, h4, h5⟩ := h
  exact ⟨arr, t, fr, h1, h2, h3, fun j x hx => let ⟨y, hy, hr⟩ := h4 j x hx; ⟨y, hy, hr.cut (hv x (List.mem_of_getElem? hx))⟩, fun h => h5 (ho h)⟩

structure Inv (P : Program) (N : Nat) (steps : List DStep) (st : St) (ρ0 : Ren) (w0 : World) (D : Nat → Bool) (ρ : Ren) (a : Act) (w : World) : Prop where
  tm : TRel ρ N (seqD D 0 steps (st.T, st.H)).1 a.tmps
  mr : MRel ρ st.D a.defers
  sup : ∀ b x, ρ b = some x → (b < st.n ∨ ∃ k s, D k = true ∧ steps[k]? = some s ∧ s.n0 ≤ b ∧ b < s.n1) ∧ x.1 < w.heap.size
  blk : ∀ b k, aget (seqD D 0 steps (st.T, st.H)).2 b = some k → ∃ c d z, ρ b = some (c, d, z) ∧ BRel (prepC P) ρ w c d z k
  inj : ∀ b1 b2 k1 k2 x1 x2, aget (seqD D 0 steps (st.T, st.H)).2 b1 = some k1 → aget (seqD D 0 steps (st.T, st.H)).2 b2 = some k2 → ρ b1 = some x1 → ρ b2 = some x2 → x1.1 = x2.1 → k1.own = true → b1 = b2
  ren : ρ0.le ρ
  old : ∀ b x, b < st.n → ρ b = some x → ρ0 b = some x
  os : w.os = w0.os
  tape : w.tape = w0.tape
  output : w.output = w0.output
  drawn : w0.drawn ≤ w.drawn
  size : w0.heap.size ≤ w.heap.size
  frame : ∀ c, c < w0.heap.size → ¬ OwnC ρ0 st.H c → w.heap[c]? = w0.heap[c]?
  own : ∀ c, OwnC ρ (seqD D 0 steps (st.T, st.H)).2 c → OwnC ρ0 st.H c ∨ w0.heap.size ≤ c

def addD (D : Nat → Bool) (k : Nat) : Nat → Bool := fun i => i == k || D i
theorem tch_or {s : DStep} {b : Nat} : s.tch b = true ↔ b ∈ s.fw ∨ (s.n0 ≤ b ∧ b < s.n1) := by simp [DStep.tch, touch]

theorem Inv.step {steps : List DStep} {st : St} {ρ0 : Ren} {w0 : World} {bef : Nat → List Nat} {rd : Option Nat} {F : Fence} (hF : FRel ρ0 rd F) (hs0 : Sim (prepC P) ρ0 st.n st.H w0)
    (facts : ∀ (k : Nat) s, steps[k]? = some s → Fact P N ops k (seqD (fun i => decide (i < k)) 0 steps (st.T, st.H)) s ∧ st.n ≤ s.n0)
    (chain : ∀ (i j : Nat) si sj, i < j → steps[i]? = some si → steps[j]? = some sj → si.n1 ≤ sj.n0)
    (compat : ∀ (i j : Nat) si sj, i < j → steps[i]? = some si → steps[j]? = some sj → i ∈ bef j ∨ indep si sj = true)
    {D : Nat → Bool} (down : ∀ i j, D j = true → i ∈ bef j → D i = true) {k : Nat} {s : DStep} (hk : steps[k]? = some s) (hnk : D k = false) (hready : ∀ i ∈ bef k, D i = true)
    {ρ : Ren} {m : Nat} {a : Act} {w : World} {Q : Exit → Act → World → Prop} (h : Inv P N steps st ρ0 w0 D ρ a w) :
    wpOpIn F m P ops Q k (fun a' w' => ∃ ρ', Inv P N steps st ρ0 w0 (addD D k) ρ' a' w') a w := by
  obtain ⟨fact, hbase⟩ := facts k s hk
  -- who may come between
  have hA : ∀ (i : Nat) si, steps[i]? = some si → i ≠ k → (D i = decide (i < k)) ∨ (i < k ∧ indep si s = true) ∨ (k < i ∧ D i = true ∧ indep s si = true) := by
    intro i si hi hik
    rcases Nat.lt_trichotomy i k with hlt | heq | hgt
    · rcases compat i k si s hlt hi hk with hb | hb
      · exact .inl (by rw [hready i hb]; simp [hlt])
      · exact .inr (.inl ⟨hlt, hb⟩)
    · exact absurd heq hik
    · cases hD : D i with
      | false => exact .inl (by simp; omega)
      | true =>
        rcases compat k i s si hgt hk hi with hb | hb
        · rw [down k i hD hb] at hnk; cases hnk
        · exact .inr (.inr ⟨hgt, rfl, hb⟩)
  have hslot : ∀ t, t ∈ s.rs → aget (seqD D 0 steps (st.T, st.H)).1 t = aget (seqD (fun i => decide (i < k)) 0 steps (st.T, st.H)).1 t := by
    intro t ht
    refine seqD_slot _ _ t steps 0 _ _ rfl fun i si hi hd => ?_
    rw [Nat.zero_add]
    by_cases hik : i = k
    · subst hik; rw [hnk]; simp
    · rcases hA i si hi hik with h1 | ⟨_, h1⟩ | ⟨_, _, h1⟩
      · exact h1
      · exfalso; simp only [indep, hd, Bool.and_eq_true] at h1; simp [ht] at h1
      · exfalso; simp only [indep, hd, Bool.and_eq_true] at h1; simp [ht] at h1
  have hind : ∀ (i : Nat) si b, steps[i]? = some si → i ≠ k → si.tch b = true → b ∈ s.fr ∨ b ∈ s.fw → D i = decide (i < k) := by
    intro i si b hi hik ht hb
    have hblt := fact.fplt b hb
    rcases hA i si hi hik with h1 | ⟨hlt, h1⟩ | ⟨hgt, hDi, h1⟩
    · exact h1
    · exfalso
      simp only [indep, Bool.and_eq_true, List.all_eq_true, List.mem_append, Bool.not_eq_true', Bool.and_eq_false_iff, decide_eq_false_iff_not, decide_eq_true_eq] at h1
      rcases tch_or.1 ht with h2 | h2
      · have := h1.1.1.2 b h2; rcases hb with hb | hb <;> simp [hb] at this
      · have := h1.2 b hb; omega
    · exfalso
      simp only [indep, Bool.and_eq_true, List.all_eq_true, List.mem_append, Bool.not_eq_true', Bool.and_eq_false_iff, decide_eq_false_iff_not, decide_eq_true_eq] at h1
      rcases tch_or.1 ht with h2 | h2
      · have := h1.1.2 b h2; rcases hb with hb | hb <;> simp [hb] at this
      · have := chain k i s si hgt hk hi; have := fact.nle; omega
  have hblk : ∀ b, b ∈ s.fr ∨ b ∈ s.fw → aget (seqD D 0 steps (st.T, st.H)).2 b = aget (seqD (fun i => decide (i < k)) 0 steps (st.T, st.H)).2 b := by
    intro b hb
    refine seqD_blk _ _ b steps 0 _ _ rfl fun i si hi ht => ?_
    rw [Nat.zero_add]
    by_cases hik : i = k
    · subst hik; rw [hnk]; simp
    · exact hind i si b hi hik ht hb
  have hfree : ∀ b, s.n0 ≤ b → b < s.n1 → ρ b = none := by
    intro b h1 h2
    cases hr : ρ b with
    | none => rfl
    | some x =>
      rcases (h.sup b x hr).1 with h3 | ⟨j, sj, hj, hsj, h4, h5⟩
      · omega
      · rcases Nat.lt_trichotomy j k with hlt | heq | hgt
        · have := chain j k sj s hlt hsj hk; omega
        · subst heq; rw [hj] at hnk; cases hnk
        · have := chain k j s sj hgt hk hsj; omega
  -- the world as the operation is to have it
  have hFc : FRel (ρ.cut s.n0) rd F := by
    cases rd with
    | none => exact hF
    | some l =>
      obtain ⟨c, d, z, h1, h2⟩ := hF
      exact ⟨c, d, z, by unfold Ren.cut; rw [if_pos (by have := (hs0.sup l _ h1).1; omega)]; exact h.ren _ _ h1, h2⟩
  have hT : TRel (ρ.cut s.n0) N (restrT (seqD (fun i => decide (i < k)) 0 steps (st.T, st.H)).1 s.rs) a.tmps := by
    refine ⟨h.tm.1, fun t u hu => ?_⟩
    rw [aget_restrT] at hu
    split at hu
    · rename_i hc
      have hc' : t ∈ s.rs := by simpa using hc
      obtain ⟨y, hy, hr⟩ := h.tm.2 t u ((hslot t hc').trans hu)
      exact ⟨y, hy, hr.cut (fact.cloT t u hc' hu)⟩
    · cases hu
  have hcut : ∀ b x, ρ.cut s.n0 b = some x → ρ b = some x ∧ b < s.n0 := fun b x hb => by
    unfold Ren.cut at hb
    split at hb
    · exact ⟨hb, by assumption⟩
    · cases hb
  have hRin : ∀ b kk, aget (restr (seqD (fun i => decide (i < k)) 0 steps (st.T, st.H)).2 s.fr s.fw) b = some kk → (b ∈ s.fr ∨ b ∈ s.fw) ∧ ∃ k0, aget (seqD D 0 steps (st.T, st.H)).2 b = some k0 ∧ (kk.own = true → b ∈ s.fw ∧ k0.own = true) := by
    intro b kk hb
    rcases aget_restr hb with ⟨h1, h2⟩ | ⟨h1, o, cs, h2, h3⟩
    · exact ⟨.inr h1, kk, (hblk b (.inr h1)).trans h2, fun ho => ⟨h1, ho⟩⟩
    · exact ⟨.inl h1, _, (hblk b (.inl h1)).trans h2, fun ho => by rw [h3] at ho; cases ho⟩
  have hS : Sim (prepC P) (ρ.cut s.n0) s.n0 (restr (seqD (fun i => decide (i < k)) 0 steps (st.T, st.H)).2 s.fr s.fw) w := by
    refine ⟨fun b x hb => ⟨(hcut b x hb).2, (h.sup b x (hcut b x hb).1).2⟩, fun b kk hb => ?_, fun b1 b2 k1 k2 x1 x2 h1 h2 e1 e2 he ho => ?_⟩
    · rcases aget_restr hb with ⟨h1, h2⟩ | ⟨h1, o, cs, h2, rfl⟩
      · obtain ⟨cs, rfl⟩ := fact.fwrow b kk h1 h2
        obtain ⟨c, d, z, e, r⟩ := h.blk b _ ((hblk b (.inr h1)).trans h2)
        exact ⟨c, d, z, by unfold Ren.cut; rw [if_pos (fact.fplt b (.inr h1))]; exact e, r.cut_row (fact.cloH b true cs (.inr h1) h2) id⟩
      · obtain ⟨c, d, z, e, r⟩ := h.blk b _ ((hblk b (.inl h1)).trans h2)
        exact ⟨c, d, z, by unfold Ren.cut; rw [if_pos (fact.fplt b (.inl h1))]; exact e, r.cut_row (fact.cloH b o cs (.inl h1) h2) (fun h => by cases h)⟩
    · obtain ⟨_, j1, q1, q2⟩ := hRin b1 k1 h1
      obtain ⟨_, j2, q3, _⟩ := hRin b2 k2 h2
      exact h.inj b1 b2 j1 j2 x1 x2 q1 q3 (hcut _ _ e1).1 (hcut _ _ e2).1 he (q2 ho).2
  refine fact.step (ρ.cut s.n0) rd F m a w hFc hT hS _ Q ?_
  intro ρ' y w' hv hs' hE
  -- the renaming put together
  let ρ2 : Ren := fun b => if s.n0 ≤ b ∧ b < s.n1 then ρ' b else ρ b
  have hin : ∀ b, s.n0 ≤ b → b < s.n1 → ρ2 b = ρ' b := fun b h1 h2 => by simp [ρ2, h1, h2]
  have hout : ∀ b, ¬ (s.n0 ≤ b ∧ b < s.n1) → ρ2 b = ρ b := fun b h1 => by simp only [ρ2]; rw [if_neg h1]
  have hle : ρ.le ρ2 := fun b x hb => by
    by_cases hr : s.n0 ≤ b ∧ b < s.n1
    · rw [hfree b hr.1 hr.2] at hb; cases hb
    · rw [hout b hr]; exact hb
  have hle' : ρ'.le ρ2 := fun b x hb => by
    by_cases hr : s.n0 ≤ b ∧ b < s.n1
    · rw [hin b hr.1 hr.2]; exact hb
    · rw [hout b hr]
      have hb1 := (hs'.sup b x hb).1
      have hb0 : b < s.n0 := by omega
      exact (hcut b x (hE.old b x hb0 hb)).1
  -- what the operation touches is its own
  have hlast : ∀ b, s.tch b = true → aget (seqD (addD D k) 0 steps (st.T, st.H)).2 b = aget s.R b := by
    intro b hb
    refine seqD_blk_last _ b steps 0 k s _ hk hb (by simp [addD]) fun i si hi hsi ht => ?_
    rw [Nat.zero_add]
    have hik : i ≠ k := by omega
    have hD : D i = false := by
      rcases tch_or.1 hb with h1 | ⟨h1, h2⟩
      · have := hind i si b hsi hik ht (.inr h1); rw [this]; simp; omega
      · rcases hA i si hsi hik with h3 | ⟨h3, _⟩ | ⟨_, _, h3⟩
        · rw [h3]; simp; omega
        · omega
        · exfalso
          simp only [indep, Bool.and_eq_true, List.all_eq_true, List.mem_append, Bool.not_eq_true', Bool.and_eq_false_iff, decide_eq_false_iff_not, decide_eq_true_eq] at h3
          rcases tch_or.1 ht with h4 | h4
          · have := h3.2 b (.inr h4); omega
          · have := chain k i s si hi hk hsi; omega
    simp [addD, hD, hik]
  have hother : ∀ b, ¬ s.tch b = true → aget (seqD (addD D k) 0 steps (st.T, st.H)).2 b = aget (seqD D 0 steps (st.T, st.H)).2 b := by
    intro b hb
    refine seqD_blk _ _ b steps 0 _ _ rfl fun i si hi ht => ?_
    rw [Nat.zero_add]
    have hik : i ≠ k := by rintro rfl; rw [hk] at hi; cases hi; exact hb ht
    simp [addD, hik]
  have hnt : ∀ b, ¬ s.tch b = true → ¬ (s.n0 ≤ b ∧ b < s.n1) ∧ b ∉ s.fw := fun b hb => by
    rw [tch_or] at hb
    exact ⟨fun h => hb (.inr h), fun h => hb (.inl h)⟩
  have hnotown : ∀ b kk x, ¬ s.tch b = true → aget (seqD D 0 steps (st.T, st.H)).2 b = some kk → ρ b = some x → ¬ OwnC (ρ.cut s.n0) (restr (seqD (fun i => decide (i < k)) 0 steps (st.T, st.H)).2 s.fr s.fw) x.1 := by
    rintro b kk x hb h1 h2 ⟨b', k', x', g1, g2, g3, g4⟩
    obtain ⟨_, j, q1, q2⟩ := hRin b' k' g1
    have := h.inj b' b j kk x' x q1 h1 (hcut _ _ g3).1 h2 g4 (q2 g2).2
    subst this
    exact (hnt _ hb).2 (q2 g2).1
  have hownR : ∀ c, OwnC (ρ.cut s.n0) (restr (seqD (fun i => decide (i < k)) 0 steps (st.T, st.H)).2 s.fr s.fw) c → OwnC ρ (seqD D 0 steps (st.T, st.H)).2 c := by
    rintro c ⟨b', k', x', g1, g2, g3, g4⟩
    obtain ⟨_, j, q1, q2⟩ := hRin b' k' g1
    exact ⟨b', j, x', q1, (q2 g2).2, (hcut _ _ g3).1, g4⟩
  have hRρ : ∀ b kk x, aget s.R b = some kk → ρ2 b = some x → ρ' b = some x := fun b kk x h1 h2 => by
    obtain ⟨c, d, z, e, _⟩ := hs'.blk b kk h1
    have := hle' b _ e
    rw [h2] at this
    rw [e, this]
  refine ⟨ρ2, ?_, ?_, ?_, ?_, ?_, h.ren.trans hle, ?_, hE.os.trans h.os, hE.tape.trans h.tape, hE.output.trans h.output, Nat.le_trans h.drawn hE.drawn, Nat.le_trans h.size hE.size, ?_, ?_⟩
  · -- slots
    have hsz : (a.put s.dst y).tmps.size = N := by cases hd : s.dst <;> simp [Act.put, h.tm.1]
    refine ⟨hsz, fun t u hu => ?_⟩
    by_cases ht : s.dst = some t
    · have hl := seqD_slot_last (addD D k) t steps 0 k s (st.T, st.H) hk ht (by simp [addD]) (fun i si hi hsi hd => by
        rw [Nat.zero_add]
        have hik : i ≠ k := by omega
        have hD : D i = false := by
          rcases hA i si hsi hik with h3 | ⟨h3, _⟩ | ⟨_, _, h3⟩
          · rw [h3]; simp; omega
          · omega
          · exfalso; simp only [indep, ht, hd, Bool.and_eq_true] at h3; simp at h3
        simp [addD, hD, hik])
      rw [hl] at hu
      cases hu
      have hlt : t < N := by have := fact.dstok; rw [ht] at this; simpa [dstOk] using this
      exact ⟨y, by rw [ht]; simp only [Act.put]; rw [Array.getElem?_setIfInBounds_self_of_lt (by rw [h.tm.1]; exact hlt)], hv.mono hle'⟩
    · have : aget (seqD (addD D k) 0 steps (st.T, st.H)).1 t = aget (seqD D 0 steps (st.T, st.H)).1 t := by
        refine seqD_slot _ _ t steps 0 _ _ rfl fun i si hi hd => ?_
        rw [Nat.zero_add]
        have hik : i ≠ k := by rintro rfl; rw [hk] at hi; cases hi; exact ht hd
        simp [addD, hik]
      rw [this] at hu
      obtain ⟨y2, hy2, hr2⟩ := h.tm.2 t u hu
      refine ⟨y2, ?_, hr2.mono hle⟩
      cases hd : s.dst with
      | none => exact hy2
      | some d =>
        simp only [Act.put]
        rw [Array.getElem?_setIfInBounds_ne (fun e => ht (by rw [hd, e]))]
        exact hy2
  · rw [put_defers]; exact h.mr.mono hle
  · intro b x hb
    by_cases hr : s.n0 ≤ b ∧ b < s.n1
    · rw [hin b hr.1 hr.2] at hb
      exact ⟨.inr ⟨k, s, by simp [addD], hk, hr.1, hr.2⟩, (hs'.sup b x hb).2⟩
    · rw [hout b hr] at hb
      obtain ⟨h1, h2⟩ := h.sup b x hb
      refine ⟨?_, Nat.lt_of_lt_of_le h2 hE.size⟩
      rcases h1 with h1 | ⟨j, sj, h3, h4⟩
      · exact .inl h1
      · exact .inr ⟨j, sj, by simp [addD, h3], h4⟩
  · intro b kk hb
    by_cases ht : s.tch b = true
    · rw [hlast b ht] at hb
      obtain ⟨c, d, z, e, r⟩ := hs'.blk b kk hb
      exact ⟨c, d, z, hle' _ _ e, r.mono hle' rfl⟩
    · rw [hother b ht] at hb
      obtain ⟨c, d, z, e, r⟩ := h.blk b kk hb
      exact ⟨c, d, z, hle _ _ e, r.mono hle (hE.frame c (h.sup b _ e).2 (hnotown b kk _ ht hb e))⟩
  · intro b1 b2 k1 k2 x1 x2 h1 h2 e1 e2 he ho
    have hmix : ∀ b1 b2 k1 k2 x1 x2, s.tch b1 = true → ¬ s.tch b2 = true → aget (seqD (addD D k) 0 steps (st.T, st.H)).2 b1 = some k1 → aget (seqD (addD D k) 0 steps (st.T, st.H)).2 b2 = some k2 → ρ2 b1 = some x1 → ρ2 b2 = some x2 → x1.1 = x2.1 → False := by
      intro b1 b2 k1 k2 x1 x2 t1 t2 h1 h2 e1 e2 he
      rw [hlast b1 t1] at h1
      rw [hother b2 t2] at h2
      rw [hout b2 (hnt b2 t2).1] at e2
      have hc := hE.own x1.1 ⟨b1, k1, x1, h1, fact.ownR b1 k1 t1 h1, hRρ _ _ _ h1 e1, rfl⟩
      rcases hc with hc | hc
      · rw [he] at hc; exact hnotown b2 k2 x2 t2 h2 e2 hc
      · have := (h.sup b2 x2 e2).2; omega
    by_cases t1 : s.tch b1 = true <;> by_cases t2 : s.tch b2 = true
    · rw [hlast b1 t1] at h1; rw [hlast b2 t2] at h2
      exact hs'.inj b1 b2 k1 k2 x1 x2 h1 h2 (hRρ _ _ _ h1 e1) (hRρ _ _ _ h2 e2) he ho
    · exact (hmix b1 b2 k1 k2 x1 x2 t1 t2 h1 h2 e1 e2 he).elim
    · exact (hmix b2 b1 k2 k1 x2 x1 t2 t1 h2 h1 e2 e1 he.symm).elim
    · rw [hother b1 t1] at h1; rw [hother b2 t2] at h2
      rw [hout b1 (hnt b1 t1).1] at e1; rw [hout b2 (hnt b2 t2).1] at e2
      exact h.inj b1 b2 k1 k2 x1 x2 h1 h2 e1 e2 he ho
  · intro b x hb hx
    rw [hout b (by omega)] at hx
    exact h.old b x hb hx
  · intro c hc hno
    rw [hE.frame c (Nat.lt_of_lt_of_le hc h.size) (fun hh => ?_), h.frame c hc hno]
    rcases h.own c (hownR c hh) with h1 | h1
    · exact hno h1
    · omega
  · rintro c ⟨b, kk, x, h1, h2, h3, h4⟩
    by_cases ht : s.tch b = true
    · rw [hlast b ht] at h1
      rcases hE.own c ⟨b, kk, x, h1, h2, hRρ _ _ _ h1 h3, h4⟩ with hc | hc
      · exact h.own c (hownR c hc)
      · exact .inr (Nat.le_trans h.size hc)
    · rw [hother b ht] at h1
      rw [hout b (hnt b ht).1] at h3
      exact h.own c ⟨b, kk, x, h1, h2, h3, h4⟩
end draw
end Go.Proofs.Ytpgelghkjiejlaa
