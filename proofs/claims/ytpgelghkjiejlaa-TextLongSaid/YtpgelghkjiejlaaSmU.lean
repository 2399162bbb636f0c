/- Regions that draw their order: the rule. -/
import Derived.Test.YtpgelghkjiejlaaSmT
set_option linter.unusedVariables false
set_option linter.unusedSimpArgs false
namespace Go.Proofs.Ytpgelghkjiejlaa
open Go

theorem fold_bits (acc : List Nat) (x : Nat) : ∀ (on : List Nat) (m : Nat), (on.foldl (fun m i => m ||| (1 <<< i) ||| acc.getD i 0) m).testBit x = true → m.testBit x = true ∨ x ∈ on ∨ ∃ e ∈ on, (acc.getD e 0).testBit x = true := by
  intro on
  induction on with
  | nil => intro m h; exact .inl h
  | cons e on ih =>
    intro m h
    rw [List.foldl_cons] at h
    rcases ih _ h with h1 | h1 | ⟨e', h1, h2⟩
    · simp only [Nat.testBit_or, Bool.or_eq_true] at h1
      rcases h1 with (h1 | h1) | h1
      · exact .inl h1
      · rw [Nat.testBit_shiftLeft] at h1
        simp only [Bool.and_eq_true, decide_eq_true_eq] at h1
        have hb : x - e = 0 := by
          by_cases h3 : x - e = 0
          · exact h3
          · have := h1.2; rw [Nat.testBit_one_eq_true_iff_self_eq_zero] at this; exact this
        exact .inr (.inl (by have : x = e := by omega
                             simp [this]))
      · exact .inr (.inr ⟨e, by simp, h1⟩)
    · exact .inr (.inl (by simp [h1]))
    · exact .inr (.inr ⟨e', by simp [h1], h2⟩)
theorem befores_spec : ∀ (os : List Oper) (acc b : List Nat), befores os acc = some b → b.length = acc.length + os.length ∧ (∀ i, i < acc.length → b.getD i 0 = acc.getD i 0) ∧
    ∀ (j : Nat) o, os[j]? = some o → ∃ on : List Nat, on = (o.after.toList.filter (Region.binds .any)).map (·.on) ∧ (∀ e ∈ on, e < acc.length + j) ∧ ∀ x, (b.getD (acc.length + j) 0).testBit x = true → x ∈ on ∨ ∃ e ∈ on, (b.getD e 0).testBit x = true := by
  intro os
  induction os with
  | nil => intro acc b h; cases h; exact ⟨rfl, fun _ _ => rfl, fun j o h => by simp at h⟩
  | cons o os ih =>
    intro acc b h
    simp only [befores] at h
    split at h
    · rename_i hall
      obtain ⟨h1, h2, h3⟩ := ih _ _ h
      simp only [List.length_append, List.length_cons, List.length_nil] at h1 h2 h3
      have hlt : ∀ e ∈ (o.after.toList.filter (Region.binds .any)).map (·.on), e < acc.length := fun e he => by
        have := List.all_eq_true.1 hall e he; simpa using this
      have hacc : ∀ i, i < acc.length → b.getD i 0 = acc.getD i 0 := fun i hi => by
        rw [h2 i (by omega)]
        simp only [List.getD_eq_getElem?_getD]
        rw [List.getElem?_append_left hi]
      refine ⟨by simp; omega, hacc, fun j o' hj => ?_⟩
      cases j with
      | zero =>
        simp at hj
        subst hj
        refine ⟨_, rfl, by simpa using hlt, fun x hx => ?_⟩
        rw [Nat.add_zero, h2 acc.length (by omega)] at hx
        simp only [List.getD_eq_getElem?_getD, List.getElem?_concat_length, Option.getD_some] at hx
        rcases fold_bits acc x _ 0 (by simpa only [List.getD_eq_getElem?_getD] using hx) with h4 | h4 | ⟨e, h4, h5⟩
        · simp at h4
        · exact .inl h4
        · exact .inr ⟨e, h4, by rw [hacc e (hlt e h4)]; exact h5⟩
      | succ j =>
        obtain ⟨on, g1, g2, g3⟩ := h3 j o' (by simpa using hj)
        refine ⟨on, g1, fun e he => by have := g2 e he; omega, ?_⟩
        rw [show acc.length + (j + 1) = acc.length + (0 + 1) + j by omega]
        exact g3
    · cases h

def cnt (D : Nat → Bool) : Nat → Nat
  | 0 => 0
  | n + 1 => cnt D n + if D n then 0 else 1
theorem cnt_zero {D : Nat → Bool} : ∀ {n : Nat}, cnt D n = 0 → ∀ i, i < n → D i = true := by
  intro n
  induction n with
  | zero => intro _ i hi; omega
  | succ n ih =>
    intro h i hi
    unfold cnt at h
    rcases Nat.lt_or_ge i n with h1 | h1
    · exact ih (by omega) i h1
    · obtain rfl : i = n := by omega
      cases hd : D i with
      | true => rfl
      | false => rw [hd] at h; simp at h
theorem cnt_le {D : Nat → Bool} {k : Nat} : ∀ n, cnt (addD D k) n ≤ cnt D n := by
  intro n
  induction n with
  | zero => exact Nat.le_refl _
  | succ n ih =>
    unfold cnt
    have : (if addD D k n then 0 else 1) ≤ (if D n then 0 else 1) := by
      unfold addD
      cases D n <;> cases (n == k) <;> simp
    omega
theorem cnt_lt {D : Nat → Bool} {k : Nat} (hk : D k = false) : ∀ n, k < n → cnt (addD D k) n < cnt D n := by
  intro n
  induction n with
  | zero => intro h; omega
  | succ n ih =>
    intro h
    unfold cnt
    by_cases hn : n = k
    · subst hn
      have := cnt_le (D := D) (k := n) n
      simp [addD, hk]
      omega
    · have := ih (by omega)
      simp [addD, hn]
      omega
theorem cnt_bound (D : Nat → Bool) : ∀ n, cnt D n ≤ n := by
  intro n
  induction n with
  | zero => exact Nat.le_refl _
  | succ n ih => unfold cnt; split <;> omega

section draw
variable {P : Program} {N : Nat}
theorem AWc.draw {rd : Option Nat} {st : St} {Q : Exit → St → Prop} {b : List Nat} {l : List AOper}
    (h : drawF P l st [] fun steps st' => compatB b steps 0 steps = true ∧ Q .normal st') : AWc P N rd (.ops (some b) l) st Q := by
  intro c hp ρ F m a w hF hA
  obtain ⟨id, ops, draw, rfl, h1, ⟨h2, _⟩ | ⟨b', hb, rfl, hmix, hbef⟩⟩ := prepC_ops hp
  · cases h2
  cases hb
  obtain ⟨steps, st', ⟨hcb, hQ⟩, hlen, hrun, hD, hn, hfacts, hchain⟩ := drawF_ok (ops := ops) (N := N) (x0 := (st.T, st.H)) ops.toList l [] st h1 (fun j => by simp) rfl (hA.tm.tin fun b x hb => (hA.sim.sup b x hb).1) hA.sim.hin h
  simp only [List.nil_append, List.length_nil, Nat.zero_add] at hcb hrun hfacts
  have hlen' : steps.length = ops.size := by simpa using hlen
  obtain ⟨hb1, _, hb3⟩ := befores_spec ops.toList [] b hbef
  simp only [List.length_nil, Nat.zero_add] at hb1 hb3
  have hcomp : ∀ (i j : Nat) si sj, i < j → steps[i]? = some si → steps[j]? = some sj → i ∈ (List.range j).filter (fun i => (b.getD j 0).testBit i) ∨ indep si sj = true := fun i j si sj hij hi hj => by
    rcases compatB_spec hcb (fun i => by simp) i j si sj (by omega) hi hj with h4 | h4
    · exact .inl (List.mem_filter.2 ⟨by simpa using hij, by simpa using h4⟩)
    · exact .inr h4
  have hfacts' : ∀ (k : Nat) s, steps[k]? = some s → Fact P N ops k (seqD (fun i => decide (i < k)) 0 steps (st.T, st.H)) s ∧ st.n ≤ s.n0 := fun k s hk => by
    obtain ⟨g1, g2, _⟩ := hfacts k s hk
    rw [seqD_lt, Nat.sub_zero]
    exact ⟨g1, g2⟩
  let w1 : World := { w with drawn := w.drawn + 1 }
  have hS1 : Sim (prepC P) ρ st.n st.H w1 := hA.sim.congr rfl
  have hE1 : Ext ρ st.n st.H w ρ st.n st.H w1 := .of_draw rfl rfl rfl rfl (Nat.le_succ _)
  -- the whole
  have fin : ∀ (D : Nat → Bool) (ρ' : Ren) (a' : Act) (w' : World), (∀ i, i < ops.size → D i = true) → Inv P N steps st ρ w1 D ρ' a' w' → Post P N ρ st w Q .normal a' w' := by
    intro D ρ' a' w' hall hI
    have hs : seqD D 0 steps (st.T, st.H) = (st'.T, st'.H) := by
      rw [seqD_all steps 0 _ (fun i hi => by rw [Nat.zero_add]; exact hall i (by omega)), hrun]
    have e1 : (seqD D 0 steps (st.T, st.H)).1 = st'.T := by rw [hs]
    have e2 : (seqD D 0 steps (st.T, st.H)).2 = st'.H := by rw [hs]
    obtain ⟨i1, i2, i3, i4, i5, i6, i7, i8, i9, i10, idr, i11, i12, i13⟩ := hI
    rw [e1] at i1
    rw [e2] at i4 i5 i13
    refine ⟨st', ρ', hQ, ⟨i1, by rw [hD]; exact i2, ⟨fun b x hb => ?_, i4, i5⟩⟩, hE1.trans ⟨hn, i6, i7, i8, i9, i10, idr, i11, i12, i13⟩⟩
    obtain ⟨g1, g2⟩ := i3 b x hb
    refine ⟨?_, g2⟩
    rcases g1 with g1 | ⟨k, s, _, hk, _, g4⟩
    · omega
    · have := (hfacts k s hk).2.2; omega
  have walk : ∀ (fuel : Nat) (listed : Array Bool) (ρ' : Ren) (a' : Act) (w' : World), listed.size = ops.size → (∀ i j, listed.getD j false = true → (b.getD j 0).testBit i = true → listed.getD i false = true) →
      cnt (fun i => listed.getD i false) ops.size ≤ fuel → Inv P N steps st ρ w1 (fun i => listed.getD i false) ρ' a' w' → wpAnyIn F m P .any ops (Post P N ρ st w Q) fuel listed a' w' := by
    intro fuel
    induction fuel with
    | zero =>
      intro listed ρ' a' w' hsz hdown hc hI
      have hall := cnt_zero (Nat.le_zero.1 hc)
      refine ⟨?_, fin _ ρ' a' w' hall hI⟩
      cases hr : Region.ready .any ops listed with
      | nil => rfl
      | cons k r =>
        have hk : k ∈ Region.ready .any ops listed := by rw [hr]; simp
        obtain ⟨g1, o, g2, _⟩ := mem_ready.1 hk
        have hlt := (Array.getElem?_eq_some_iff.1 g2).1
        have := hall k hlt
        simp only [Array.getD_eq_getD_getElem?] at this g1
        rw [Array.getElem?_eq_getElem (by omega)] at this g1
        simp at this g1
        rw [this] at g1
        cases g1
    | succ fuel ih =>
      intro listed ρ' a' w' hsz hdown hc hI
      refine ⟨fun hr => ?_, fun k hk => ?_⟩
      · refine fin _ ρ' a' w' (fun i hi => ?_) hI
        induction i using Nat.strongRecOn with
        | _ i ihi =>
          cases hd : listed.getD i false with
          | true => rfl
          | false =>
            exfalso
            have hmem : i ∈ Region.ready .any ops listed := by
              refine mem_ready.2 ⟨?_, ops[i], by simp [hi], fun e he hb => ?_⟩
              · simp only [Array.getD_eq_getD_getElem?] at hd ⊢
                rw [Array.getElem?_eq_getElem (by omega)] at hd ⊢
                simpa using hd
              · obtain ⟨on, q1, q2, q3⟩ := hb3 i ops[i] (by simp [hi])
                have hin : e.on ∈ on := by
                  rw [q1]
                  exact List.mem_map.2 ⟨e, List.mem_filter.2 ⟨by simpa using he, hb⟩, rfl⟩
                have := q2 _ hin
                exact ihi e.on this (by omega)
            rw [hr] at hmem
            simp at hmem
      · obtain ⟨g1, o, g2, g3⟩ := mem_ready.1 hk
        have hlt := (Array.getElem?_eq_some_iff.1 g2).1
        have hnk : listed.getD k false = false := by
          simp only [Array.getD_eq_getD_getElem?] at g1 ⊢
          rw [Array.getElem?_eq_getElem (by omega)] at g1 ⊢
          simpa using g1
        obtain ⟨s, hs⟩ : ∃ s, steps[k]? = some s := ⟨steps[k]'(by omega), by simp⟩
        have hready : ∀ i, (b.getD k 0).testBit i = true → listed.getD i false = true := by
          intro i hi
          obtain ⟨on, q1, q2, q3⟩ := hb3 k o (by simpa using g2)
          have hon : ∀ e ∈ on, listed.getD e false = true := fun e he => by
            rw [q1] at he
            obtain ⟨x, hx, rfl⟩ := List.mem_map.1 he
            obtain ⟨hx1, hx2⟩ := List.mem_filter.1 hx
            exact g3 x (by simpa using hx1) hx2
          rcases q3 i hi with h4 | ⟨j, h5, h6⟩
          · exact hon i h4
          · exact hdown i j (hon j h5) h6
        have hadd : (fun i => (listed.setIfInBounds k true).getD i false) = addD (fun i => listed.getD i false) k := by
          funext i
          unfold addD
          by_cases hik : k = i
          · subst hik
            have hl2 : k < listed.size := by omega
            simp [hl2]
          · rw [getD_set_ne false hik]
            have : (i == k) = false := by simpa using fun h => hik h.symm
            simp [this]
        refine wpOpIn_mono ?_ (Inv.step (bef := fun j => (List.range j).filter fun i => (b.getD j 0).testBit i) hF hS1 hfacts' hchain hcomp (fun i j hj hi => hdown i j hj (by have := (List.mem_filter.1 hi).2; simpa using this)) hs hnk (fun i hi => hready i (by have := (List.mem_filter.1 hi).2; simpa using this)) hI)
        rintro a2 w2 ⟨ρ2, hI2⟩
        refine ih _ ρ2 a2 w2 (by simpa using hsz) ?_ ?_ ?_
        · intro i j hj hi
          have hj' : addD (fun i => listed.getD i false) k j = true := by rw [← hadd]; exact hj
          have : addD (fun i => listed.getD i false) k i = true := by
            unfold addD at hj' ⊢
            simp only [Bool.or_eq_true, beq_iff_eq] at hj' ⊢
            rcases hj' with rfl | hj'
            · exact .inr (hready i hi)
            · exact .inr (hdown i j hj' hi)
          rw [← hadd] at this
          exact this
        · rw [hadd]
          have := cnt_lt (D := fun i => listed.getD i false) hnk ops.size hlt
          omega
        · rw [hadd]; exact hI2
  refine wpIn_region_any hmix (walk ops.size _ ρ a w1 (by simp) ?_ ?_ ?_)
  · intro i j hj
    exfalso
    simp only [Array.getD_eq_getD_getElem?, Array.getElem?_replicate] at hj
    split at hj <;> simp at hj
  · exact cnt_bound _ _
  · have hno : (fun i => (Array.replicate ops.size false).getD i false) = fun _ => false := by
      funext i
      simp only [Array.getD_eq_getD_getElem?, Array.getElem?_replicate]
      split <;> rfl
    rw [hno]
    refine ⟨?_, hA.mr, fun b x hb => ?_, ?_, ?_, .refl _, fun _ _ _ h => h, rfl, rfl, rfl, Nat.le_refl _, Nat.le_refl _, fun _ _ _ => rfl, ?_⟩ <;> (try rw [seqD_none])
    · exact hA.tm
    · exact ⟨.inl (hS1.sup b x hb).1, (hS1.sup b x hb).2⟩
    · exact hS1.blk
    · exact hS1.inj
    · exact fun c h => .inl h
end draw
end Go.Proofs.Ytpgelghkjiejlaa
