/- The plain law of band.Of: its rounds. A region's rectangles, walked from above, and from the left: row and across of package region. The rectangles that cross a row: (*walk).row of package region. Where stretches begin or end: cuts of package region. Regions taken together: what join of package region reckons; its columns. The plain law of regions taken together. -/
import Derived.Test.YtpgelghkjiejlaaGao
set_option linter.unusedVariables false
set_option linter.unusedSimpArgs false
section
namespace Go.Proofs.Ytpgelghkjiejlaa
open Go
theorem alikeL_law : ∀ {l m : List Rc}, alikeL l m = true → (∀ a ∈ l, ∃ b ∈ m, a.x = b.x ∧ a.w = b.w ∧ w64 (a.y + a.h) = b.y) ∧ ∀ b ∈ m, ∃ a ∈ l, a.x = b.x ∧ a.w = b.w ∧ w64 (a.y + a.h) = b.y
  | [], [], _ => by simp
  | a :: l, b :: m, h => by
    simp only [alikeL, Bool.and_eq_true] at h
    obtain ⟨h1, h2⟩ := h
    obtain ⟨i1, i2⟩ := alikeL_law h2
    have h3 : a.x = b.x ∧ a.w = b.w ∧ w64 (a.y + a.h) = b.y := by
      simp only [alikeV, Bool.and_eq_true, beq_iff_eq] at h1
      exact ⟨h1.1, h1.2.1, h1.2.2⟩
    refine ⟨fun c hc => ?_, fun c hc => ?_⟩
    · rcases List.mem_cons.1 hc with rfl | hc
      · exact ⟨b, by simp, h3⟩
      · obtain ⟨d, hd, q⟩ := i1 c hc; exact ⟨d, by simp [hd], q⟩
    · rcases List.mem_cons.1 hc with rfl | hc
      · exact ⟨a, by simp, h3⟩
      · obtain ⟨d, hd, q⟩ := i2 c hc; exact ⟨d, by simp [hd], q⟩
  | [], _ :: _, h => by cases h
  | _ :: _, [], h => by cases h
theorem spN_law (y b : Int) (hyb : y < b) (h1 : -1048576 ≤ y) (h2 : b ≤ 1048576) (row : List Rc) (hl : ∀ r ∈ row, OkRc r) (hs : row.Pairwise (fun p q => p.x ≤ q.x)) :
    (∀ r ∈ spN y b row, r.y = y ∧ r.h = b - y ∧ OkRc r) ∧ (spN y b row).Pairwise (fun p q => p.x + p.w < q.x) ∧ ∀ i j, Cov (spN y b row) i j ↔ (y ≤ j ∧ j < b) ∧ ∃ r ∈ row, r.x ≤ i ∧ i < r.x + r.w := by
  obtain ⟨i1, i2, i3⟩ := spanL_law row hl hs
  have hR : ∀ p ∈ spanL row, spanR y b p = ⟨p.1, y, p.2 - p.1, b - y⟩ := fun p hp => by
    have := i3 p hp
    unfold spanR
    rw [show w64 (p.2 - p.1) = p.2 - p.1 from IntWalk.i64_in _ (by omega), show w64 (b - y) = b - y from IntWalk.i64_in _ (by omega)]
  refine ⟨fun r hr => ?_, ?_, fun i j => ?_⟩
  · obtain ⟨p, hp, rfl⟩ := List.mem_map.1 hr
    have := i3 p hp
    rw [hR p hp]
    exact ⟨rfl, rfl, by dsimp only; omega, by dsimp only; omega, by dsimp only; omega, h1, by dsimp only; omega, by dsimp only; omega⟩
  · unfold spN
    rw [List.pairwise_map]
    refine List.Pairwise.imp_of_mem (fun {p q} hp hq hpq => ?_) i2
    rw [hR p hp, hR q hq]
    dsimp only
    omega
  · rw [← i1 i]
    constructor
    · rintro ⟨r, hr, hh⟩
      obtain ⟨p, hp, rfl⟩ := List.mem_map.1 hr
      rw [hR p hp] at hh
      unfold inR at hh
      dsimp only at hh
      exact ⟨by omega, p, hp, by omega, by omega⟩
    · rintro ⟨hj, p, hp, hh⟩
      refine ⟨spanR y b p, List.mem_map.2 ⟨p, hp, rfl⟩, ?_⟩
      rw [hR p hp]
      unfold inR
      dsimp only
      omega
theorem step_law (all : List Rc) (hok : ∀ r ∈ all, OkRc r) (hsrt : all.Pairwise (fun a b => a.y ≤ b.y)) (y b : Int) (hyb : y < b) (h1 : -1048576 ≤ y) (h2 : b ≤ 1048576) (hed : ∀ r ∈ all, (r.y ≤ y ∨ b ≤ r.y) ∧ (r.y + r.h ≤ y ∨ b ≤ r.y + r.h)) (s : OS) (h : JO all y s) : JO all b (ofStep all y b s) := by
  have hm := rowN_mem all hok hsrt y s h
  have hrs := rowN_srt all y s h
  have hrok : ∀ r ∈ rowN all y s, OkRc r := fun r hr => hok r ((hm r).1 hr).1
  obtain ⟨n1, n2⟩ := newL_law y (all.drop s.nx) (hsrt.sublist (List.drop_sublist _ _)) h.dr
  obtain ⟨p1, p2, p3⟩ := spN_law y b hyb h1 h2 (rowN all y s) hrok hrs
  have p3' : ∀ i j, Cov (spN y b (rowN all y s)) i j ↔ (y ≤ j ∧ j < b) ∧ Cov all i j := fun i j => by
    rw [p3]
    constructor
    · rintro ⟨hj, r, hr, hh⟩
      obtain ⟨q1, q2, q3⟩ := (hm r).1 hr
      have := hed r q1
      exact ⟨hj, r, q1, hh.1, hh.2, by omega, by omega⟩
    · rintro ⟨hj, r, hr, hh⟩
      unfold inR at hh
      have := hed r hr
      exact ⟨hj, r, (hm r).2 ⟨hr, by omega, by omega⟩, hh.1, hh.2.1⟩
  have hbase : ∀ (out : List Rc) (ab : Nat), Reg out → (∀ r ∈ out, r.y + r.h ≤ b) → (∀ i j, Cov out i j ↔ j < b ∧ Cov all i j) → ab ≤ out.length → (∀ a ∈ out.take ab, ∀ c ∈ out.drop ab, a.y + a.h ≤ c.y) → JO all b ⟨rowN all y s, out, ab, s.nx + (newL y (all.drop s.nx)).length⟩ := by
    intro out ab q1 q2 q3 q4 q5
    refine ⟨fun r hr => ?_, fun r hr => ?_, fun r hr => ?_, fun r hr hr1 hr2 => ?_, hrs, q1, q2, q3, q4, q5⟩
    · dsimp only at hr
      rw [List.take_add, List.mem_append] at hr
      rcases hr with hr | hr
      · have := h.tk r hr; omega
      · have ht : (all.drop s.nx).take (newL y (all.drop s.nx)).length = newL y (all.drop s.nx) := by
          have := (List.takeWhile_prefix (l := all.drop s.nx) (fun r => r.y == y))
          exact (List.prefix_iff_eq_take.1 this).symm
        rw [ht, n1] at hr
        omega
    · dsimp only at hr
      rw [← List.drop_drop] at hr
      have hy := n2 r hr
      have := (hed r (List.mem_of_mem_drop (List.mem_of_mem_drop hr))).1
      omega
    · have := (hm r).1 hr
      exact ⟨this.1, by omega⟩
    · have := hed r hr
      exact (hm r).2 ⟨hr, by omega, by omega⟩
  unfold ofStep
  generalize hsp : spN y b (rowN all y s) = sp at p1 p2 p3' ⊢
  have hlow := h.low
  have hcov := h.cov
  have hup := h.up
  have hab := h.ab
  have hreg := h.reg
  by_cases hg : goesOn s.out s.ab sp = true
  · have ho : outF y b s.out s.ab sp = s.out.take s.ab ++ (s.out.drop s.ab).map (tall y b) := by rw [outF, if_pos hg]
    have ha : abF s.out s.ab sp = s.ab := by rw [abF, if_pos hg]
    rw [ho, ha]
    unfold goesOn at hg
    simp only [Bool.and_eq_true] at hg
    obtain ⟨a1, a2⟩ := alikeL_law hg.2
    generalize hold : s.out.drop s.ab = old at a1 a2 hup
    generalize htk : s.out.take s.ab = tk at hup
    have hspl : s.out = tk ++ old := by rw [← htk, ← hold, List.take_append_drop]
    have htl : tk.length = s.ab := by rw [← htk, List.length_take]; omega
    have hoo : ∀ a ∈ old, OkRc a ∧ a.y + a.h = y := fun a ha => by
      have hok2 := hreg.ok a (by rw [hspl]; simp [ha])
      obtain ⟨c, hc, _, _, q⟩ := a1 a ha
      have hok3 := hok2
      unfold OkRc at hok3
      rw [show w64 (a.y + a.h) = a.y + a.h from IntWalk.i64_in _ (by omega), (p1 c hc).1] at q
      exact ⟨hok2, q⟩
    have ht : ∀ a ∈ old, tall y b a = ⟨a.x, a.y, a.w, a.h + (b - y)⟩ := fun a ha => by
      obtain ⟨q1, q2⟩ := hoo a ha
      unfold OkRc at q1
      unfold tall
      rw [show w64 (b - y) = b - y from IntWalk.i64_in _ (by omega), show w64 (a.h + (b - y)) = a.h + (b - y) from IntWalk.i64_in _ (by omega)]
    have hrel := hreg.rel
    rw [hspl, List.pairwise_append] at hrel
    refine hbase _ _ ⟨fun r hr => ?_, ?_⟩ (fun r hr => ?_) (fun i j => ?_) (by simp [htl]) ?_
    · rcases List.mem_append.1 hr with hr | hr
      · exact hreg.ok r (by rw [hspl]; simp [hr])
      · obtain ⟨a, ha, rfl⟩ := List.mem_map.1 hr
        obtain ⟨q1, q2⟩ := hoo a ha
        rw [ht a ha]
        unfold OkRc at q1 ⊢
        dsimp only
        omega
    · refine List.pairwise_append.2 ⟨hrel.1, ?_, fun a ha c hc => ?_⟩
      · rw [List.pairwise_map]
        refine List.Pairwise.imp_of_mem (fun {a c} ha hc hac => ?_) hrel.2.1
        rw [ht a ha, ht c hc]
        obtain ⟨q1, q2⟩ := hoo a ha
        obtain ⟨q3, q4⟩ := hoo c hc
        unfold OkRc at q3
        unfold Rel at hac ⊢
        dsimp only
        omega
      · obtain ⟨c0, hc0, rfl⟩ := List.mem_map.1 hc
        rw [ht c0 hc0]
        exact .inl (hup a ha c0 hc0)
    · rcases List.mem_append.1 hr with hr | hr
      · have := hlow r (by rw [hspl]; simp [hr]); omega
      · obtain ⟨a, ha, rfl⟩ := List.mem_map.1 hr
        obtain ⟨q1, q2⟩ := hoo a ha
        rw [ht a ha]
        dsimp only
        omega
    · have hct : Cov (old.map (tall y b)) i j ↔ Cov old i j ∨ Cov sp i j := by
        constructor
        · rintro ⟨r, hr, hh⟩
          obtain ⟨a, ha, rfl⟩ := List.mem_map.1 hr
          obtain ⟨q1, q2⟩ := hoo a ha
          rw [ht a ha] at hh
          unfold inR at hh
          dsimp only at hh
          by_cases hj : j < y
          · exact .inl ⟨a, ha, hh.1, hh.2.1, by omega, by omega⟩
          · obtain ⟨c, hc, e1, e2, _⟩ := a1 a ha
            obtain ⟨f1, f2, _⟩ := p1 c hc
            exact .inr ⟨c, hc, by omega, by omega, by omega, by omega⟩
        · rintro (⟨a, ha, hh⟩ | ⟨c, hc, hh⟩)
          · refine ⟨tall y b a, List.mem_map.2 ⟨a, ha, rfl⟩, ?_⟩
            rw [ht a ha]
            unfold inR at hh ⊢
            dsimp only
            omega
          · obtain ⟨a, ha, e1, e2, _⟩ := a2 c hc
            obtain ⟨q1, q2⟩ := hoo a ha
            obtain ⟨f1, f2, _⟩ := p1 c hc
            refine ⟨tall y b a, List.mem_map.2 ⟨a, ha, rfl⟩, ?_⟩
            rw [ht a ha]
            unfold inR at hh ⊢
            unfold OkRc at q1
            dsimp only
            omega
      have hc1 := hcov i j
      rw [hspl, Cov_append] at hc1
      rw [Cov_append, hct, p3']
      by_cases hc : Cov all i j
      · simp only [hc, and_true] at hc1 ⊢
        rw [← or_assoc, hc1]; omega
      · simp only [hc, and_false, or_false] at hc1 ⊢
        exact hc1
    · rw [List.take_left' htl, List.drop_left' htl]
      intro a ha c hc
      obtain ⟨c0, hc0, rfl⟩ := List.mem_map.1 hc
      rw [ht c0 hc0]
      exact hup a ha c0 hc0
  · have ho : outF y b s.out s.ab sp = s.out ++ sp := by rw [outF, if_neg hg]
    have ha : abF s.out s.ab sp = s.out.length := by rw [abF, if_neg hg]
    rw [ho, ha]
    refine hbase _ _ ⟨fun r hr => ?_, ?_⟩ (fun r hr => ?_) (fun i j => ?_) (by simp) ?_
    · rcases List.mem_append.1 hr with hr | hr
      · exact hreg.ok r hr
      · exact (p1 r hr).2.2
    · refine List.pairwise_append.2 ⟨hreg.rel, List.Pairwise.imp_of_mem (fun {a c} ha hc hac => ?_) p2, fun a ha c hc => ?_⟩
      · obtain ⟨q1, q2, _⟩ := p1 a ha
        obtain ⟨q3, q4, _⟩ := p1 c hc
        exact .inr ⟨by omega, by omega, hac⟩
      · have := hlow a ha
        have := (p1 c hc).1
        exact .inl (by omega)
    · rcases List.mem_append.1 hr with hr | hr
      · have := hlow r hr; omega
      · obtain ⟨q1, q2, _⟩ := p1 r hr; omega
    · rw [Cov_append, hcov, p3']
      by_cases hc : Cov all i j
      · simp only [hc, and_true]; omega
      · simp only [hc, and_false, or_false]
    · rw [List.take_left' rfl, List.drop_left' rfl]
      intro a ha c hc
      have := hlow a ha
      have := (p1 c hc).1
      omega
theorem run_law (all : List Rc) (hok : ∀ r ∈ all, OkRc r) (hsrt : all.Pairwise (fun a b => a.y ≤ b.y)) : ∀ (ys : List Int) (y : Int) (s : OS), (y :: ys).Pairwise (· < ·) → (∀ v ∈ y :: ys, -1048576 ≤ v ∧ v ≤ 1048576) → (∀ r ∈ all, (r.y ≤ y ∨ r.y ∈ ys) ∧ (r.y + r.h ≤ y ∨ r.y + r.h ∈ ys)) → JO all y s →
    ∃ y', JO all y' (ofRun all (y :: ys) s) ∧ ∀ r ∈ all, r.y + r.h ≤ y'
  | [], y, s, _, _, h3, h => ⟨y, h, fun r hr => by have := (h3 r hr).2; simpa using this⟩
  | b :: ys, y, s, h1, h2, h3, h => by
    have hp := List.pairwise_cons.1 h1
    have hp2 := List.pairwise_cons.1 hp.2
    have hyb := hp.1 b (by simp)
    have key : ∀ v : Int, (v ≤ y ∨ v ∈ b :: ys) → v ≤ y ∨ b ≤ v := fun v hv => by
      rcases hv with hv | hv
      · exact .inl hv
      · rcases List.mem_cons.1 hv with rfl | hv
        · exact .inr (Int.le_refl _)
        · exact .inr (by have := hp2.1 v hv; omega)
    have key2 : ∀ v : Int, (v ≤ y ∨ v ∈ b :: ys) → v ≤ b ∨ v ∈ ys := fun v hv => by
      rcases hv with hv | hv
      · exact .inl (by omega)
      · rcases List.mem_cons.1 hv with rfl | hv
        · exact .inl (Int.le_refl _)
        · exact .inr hv
    have hst := step_law all hok hsrt y b hyb (h2 y (by simp)).1 (h2 b (by simp)).2 (fun r hr => ⟨key _ (h3 r hr).1, key _ (h3 r hr).2⟩) s h
    exact run_law all hok hsrt ys b _ hp.2 (fun v hv => h2 v (by simp [List.mem_cons.1 hv])) (fun r hr => ⟨key2 _ (h3 r hr).1, key2 _ (h3 r hr).2⟩) hst
theorem edgeL_mem (l : List Rc) (v : Int) : v ∈ edgeL l ↔ ∃ r ∈ l, v = r.y ∨ v = r.y + r.h := by simp [edgeL]
/-- The region of the places that any of these rectangles has. -/
theorem ofL_law (l : List Rc) (hir : ∀ r ∈ l, InRc r) : Reg (ofL l) ∧ ∀ i j, Cov (ofL l) i j ↔ ∃ r ∈ l, OkRc r ∧ inR i j r := by
  have hok := allL_ok l hir
  have hmem : ∀ r, r ∈ allL l ↔ r ∈ l ∧ OkRc r := fun r => by
    unfold allL
    rw [(sortBy_spec cmpYX swoYX _).1.mem_iff, List.mem_filter]
    constructor
    · rintro ⟨h1, h2⟩; exact ⟨h1, (countsV_iff (hir r h1)).1 h2⟩
    · rintro ⟨h1, h2⟩; exact ⟨h1, (countsV_iff (hir r h1)).2 h2⟩
  have hsrt : (allL l).Pairwise (fun a b => a.y ≤ b.y) := (sortBy_spec cmpYX swoYX (l.filter countsV)).2.imp fun {a b} hh => by
    have : ¬ b.y < a.y := fun hlt => hh ((cmpYX_neg b a).2 (.inl hlt))
    omega
  have hcov : ∀ i j, Cov (allL l) i j ↔ ∃ r ∈ l, OkRc r ∧ inR i j r := fun i j => by
    constructor
    · rintro ⟨r, hr, hh⟩; obtain ⟨q1, q2⟩ := (hmem r).1 hr; exact ⟨r, q1, q2, hh⟩
    · rintro ⟨r, hr, q, hh⟩; exact ⟨r, (hmem r).2 ⟨hr, q⟩, hh⟩
  obtain ⟨e1, e2⟩ := sorted_once (edgeL (allL l))
  have e3 : ∀ v ∈ ysL (allL l), -1048576 ≤ v ∧ v ≤ 1048576 := fun v hv => by
    obtain ⟨r, hr, h1⟩ := (edgeL_mem _ _).1 ((e2 v).1 hv)
    have := hok r hr
    unfold OkRc at this
    omega
  have e4 : ∀ r ∈ allL l, r.y ∈ ysL (allL l) ∧ r.y + r.h ∈ ysL (allL l) := fun r hr => ⟨(e2 _).2 ((edgeL_mem _ _).2 ⟨r, hr, .inl rfl⟩), (e2 _).2 ((edgeL_mem _ _).2 ⟨r, hr, .inr rfl⟩)⟩
  have e1 : (ysL (allL l)).Pairwise (· < ·) := e1
  unfold ofL
  generalize ysL (allL l) = ys at e1 e3 e4
  cases ys with
  | nil =>
    have hnil : allL l = [] := by
      cases hh : allL l with
      | nil => rfl
      | cons r t => have := (e4 r (by rw [hh]; simp)).1; simp at this
    refine ⟨⟨by simp [ofRun], by simp [ofRun]⟩, fun i j => ?_⟩
    rw [← hcov, hnil]
    simp [ofRun, Cov]
  | cons y ys =>
    have hle : ∀ v ∈ y :: ys, y ≤ v := fun v hv => by
      rcases List.mem_cons.1 hv with rfl | hv
      · exact Int.le_refl _
      · have := (List.pairwise_cons.1 e1).1 v hv; omega
    have h0 : JO (allL l) y ⟨[], [], 0, 0⟩ := {
      tk := by simp
      dr := fun r hr => hle _ (e4 r (by simpa using hr)).1
      row := by simp
      cross := fun r hr h1 _ => by have := hle _ (e4 r hr).1; omega
      srt := by simp
      reg := ⟨by simp, by simp⟩
      low := by simp
      cov := fun i j => by
        constructor
        · rintro ⟨r, hr, _⟩; simp at hr
        · rintro ⟨h1, r, hr, hh⟩
          have := hle _ (e4 r hr).1
          unfold inR at hh
          omega
      ab := by simp
      up := by simp }
    have hmm : ∀ v : Int, v ∈ y :: ys → v ≤ y ∨ v ∈ ys := fun v hv => by
      rcases List.mem_cons.1 hv with rfl | hv
      · exact .inl (Int.le_refl _)
      · exact .inr hv
    obtain ⟨y', hJ, hle2⟩ := run_law (allL l) hok hsrt ys y _ e1 e3 (fun r hr => ⟨hmm _ (e4 r hr).1, hmm _ (e4 r hr).2⟩) h0
    refine ⟨hJ.reg, fun i j => ?_⟩
    rw [hJ.cov, ← hcov]
    constructor
    · exact fun h => h.2
    · rintro ⟨r, hr, hh⟩
      have := hle2 r hr
      unfold inR at hh
      exact ⟨by omega, r, hr, hh⟩
end Go.Proofs.Ytpgelghkjiejlaa
end
section
set_option maxRecDepth 4000
namespace Go.Proofs.Ytpgelghkjiejlaa
open Go
attribute [local irreducible] opsF drawF drawP
attribute [simp] evNil evExt
/-- A slice without its first elements; its first elements. -/
def dropV (k : Nat) : V → V
  | .sl id off sz len full => .sl id (off + k * sz) sz (len - k) full
  | v => v
def takeV (k : Nat) : V → V
  | .sl id off sz len full => .sl id off sz k (full && k == len)
  | v => v
theorem dropV_0 (S : V) : dropV 0 S = S := by cases S <;> simp [dropV]
theorem dropV_add (j k : Nat) (S : V) : dropV k (dropV j S) = dropV (j + k) S := by
  cases S <;> simp [dropV]
  constructor
  · rw [Nat.add_mul]
  · omega
theorem SlR.drop {H : Heap} {S : V} {l : List Rc} (h : SlR H S l) (k : Nat) (hk : k ≤ l.length) : SlR H (dropV k S) (l.drop k) := by
  rcases h with ⟨rfl, rfl⟩ | ⟨id, off, full, o, pre, post, rfl, hg, rfl⟩
  · exact .inl ⟨rfl, by simp⟩
  · refine .inr ⟨id, pre.length + k * 4, full, o, pre ++ rcs (l.take k), post, by simp [dropV], ?_, ?_⟩
    · rw [hg, List.append_assoc, ← List.append_assoc (rcs (l.take k)), ← rcs_append, List.take_append_drop]
    · rw [List.length_append, rcs_len, List.length_take, Nat.min_eq_left hk]; omega
theorem SlR.take {H : Heap} {S : V} {l : List Rc} (h : SlR H S l) (k : Nat) (hk : k ≤ l.length) : SlR H (takeV k S) (l.take k) := by
  rcases h with ⟨rfl, rfl⟩ | ⟨id, off, full, o, pre, post, rfl, hg, rfl⟩
  · exact .inl ⟨rfl, by simp⟩
  · refine .inr ⟨id, pre.length, full && k == l.length, o, pre, rcs (l.drop k) ++ post, by simp [takeV]; omega, ?_, rfl⟩
    rw [hg, ← List.append_assoc (rcs (l.take k)), ← rcs_append, List.take_append_drop]
theorem SlR.sls1 {H : Heap} {S : V} {r : Rc} {l : List Rc} (h : SlR H S (r :: l)) : evSls 4 S (some (.i .i64 1)) none none = some (dropV 1 S) := by
  rcases h with ⟨_, h⟩ | ⟨id, off, full, o, pre, post, rfl, hg, rfl⟩
  · cases h
  · simp [dropV]
theorem SlR.slsT {H : Heap} {S : V} {l : List Rc} (h : SlR H S l) {k : Nat} (hk : k ≤ l.length) : evSls 4 S none (some (.i .i64 k)) none = some (takeV k S) := by
  rcases h with ⟨rfl, rfl⟩ | ⟨id, off, full, o, pre, post, rfl, hg, rfl⟩
  · obtain rfl : k = 0 := by simpa using hk
    simp [takeV]
  · simp [takeV, hk]
theorem SlR.pos {H : Heap} {S : V} {l : List Rc} (h : SlR H S l) : evLen false S = some (.i .i64 l.length) := h.len
def endY (r : Rc) : Int := w64 (r.y + r.h)
def endX (r : Rc) : Int := w64 (r.x + r.w)
/-- How many of the first rectangles end at the row, or ahead of it. -/
def pastN (e : Rc → Int) (y : Int) : List Rc → Nat
  | [] => 0
  | r :: l => if e r ≤ y then pastN e y l + 1 else 0
def pastL (e : Rc → Int) (y : Int) (l : List Rc) : List Rc := l.drop (pastN e y l)
def rowK (y : Int) (l : List Rc) : Nat := (l.takeWhile fun r => decide (r.y ≤ y)).length
theorem pastN_le (e : Rc → Int) (y : Int) : ∀ l, pastN e y l ≤ l.length
  | [] => Nat.le_refl _
  | r :: l => by unfold pastN; split
                 · have := pastN_le e y l; simp; omega
                 · omega
theorem rowK_le (y : Int) (l : List Rc) : rowK y l ≤ l.length := (List.takeWhile_prefix _).length_le
theorem adel_get {H : Heap} {w b : Nat} {k : Blk} (h : aget (adel H w) b = some k) : b ≠ w ∧ aget H b = some k := by
  rw [aget_del] at h
  split at h
  · cases h
  · rename_i e; exact ⟨fun h' => e h'.symm, h⟩
theorem adel_put (H : Heap) (w : Nat) (k : Blk) : ∀ b, aget (adel (aput H w k) w) b = aget (adel H w) b := by
  intro b
  rw [aget_del, aget_del, aget_put]
  split
  · rfl
  · rfl
theorem SlR.same {H H' : Heap} {S : V} {l : List Rc} (h : SlR H S l) (hm : ∀ b, aget H b = aget H' b) : SlR H' S l := h.mono fun b k hb => (hm b).symm.trans hb
/-- What is asked of a call that walks on: the walk's place in c, the slice's in blocks of their own. -/
theorem across_ok (S : V) (l : List Rc) (hl : l.length ≤ 1000000000) (c : Nat) (x : Int) (n : Nat) (H : Heap) (hc : aget H c = some (.row true [S])) (hS : SlR (adel H c) S l) :
    ACalls Try.prog 77 [.p c 0, .i .i64 x] n H fun v n' H' => v = .b (match pastL endX x l with | [] => false | r :: _ => decide (r.x ≤ x)) ∧ n' = n ∧ H' = aput H c (.row true [dropV (pastN endX x l) S]) := by
  refine .withIn (ACalls.enters F77_ok trivial) fun hin hargs => ?_
  have hin : HIn n H := hin
  have hcn := (hin _ _ hc).1
  refine ACalls.weakenR (K := fun v n' H' => v = .b (match pastL endX x l with | [] => false | r :: _ => decide (r.x ≤ x)) ∧ n' = n ∧ ∀ b, aget H' b = aget (aput H c (.row true [dropV (pastN endX x l) S])) b) ?_ ?_
  · refine .enter0 F77_ok (by simp [F77]) ?_
    refine .seq (.ops (opsF_all (by simp; rfl) ?_))
    refine .seq (.block (.loop (k₀ := l.length) (s₀ := ⟨[(0, .p c 0), (1, .i .i64 x), (4, .b false)], [], n, H⟩)
      (fun k st => ∃ (j : Nat) (H' : Heap), j ≤ pastN endX x l ∧ k = l.length - j ∧ (∀ b, aget H' b = aget (aput H c (.row true [dropV j S])) b) ∧ pastN endX x (l.drop j) + j = pastN endX x l ∧ st = ⟨[(0, .p c 0), (1, .i .i64 x), (4, .b false)], [], n, H'⟩)
      ⟨0, H, by omega, rfl, fun b => ?_, rfl, rfl⟩ (St.less_F (by simp) (by simp)) (Nat.le_refl _) (fun k st ⟨j, H', h1, h2, h3, h4, h5⟩ => by rw [h5]; exact Nat.le_refl _) ?_))
    · rw [dropV_0, aget_put]
      split
      · rename_i e; subst e; exact hc
      · rfl
    rintro k st ⟨j, H', h1, rfl, h3, h4, rfl⟩
    have hpl := pastN_le endX x l
    have hc' : aget H' c = some (.row true [dropV j S]) := by rw [h3, aget_put, if_pos rfl]
    have hS' : SlR (adel H' c) (dropV j S) (l.drop j) := (hS.drop j (by omega)).same fun b => by rw [aget_del, aget_del, h3, aget_put]; split <;> rfl
    have hL := hS'.len
    generalize hd : l.drop j = m at h4 hS' hL
    cases m with
    | nil =>
      refine .seq (.seq (.drawP (by rfl) ?_))
      have hL : evLen false (dropV j S) = some (.i .i64 0) := hL
      refine drawP_run 4 (by rfl) (by simp [-evLen, hc', hcn, hL]; rfl) ?_
      refine drawP_run 2 (by rfl) (by simp; rfl) ?_
      refine drawP_run 5 (by rfl) (by simp; rfl) ?_
      refine drawP_run 5 (by rfl) (by simp; rfl) ?_
      refine drawP_all (by rfl) (by simp; rfl) ?_
      refine .cond (t := false) (by simp) (.exit ?_)
      have hj : j = pastN endX x l := by simpa [pastN] using h4
      refine AWc.forget (T0 := [(0, .p c 0), (1, .i .i64 x), (4, .b false)]) (by simp) ?_
      refine .seq (.ops (opsF_run 4 (by simp [-evLen, hc', hL]; rfl) ?_))
      refine opsF_all (by simp; rfl) ?_
      refine .ret ?_
      refine ⟨.inr rfl, rfl, _, rfl, ?_, rfl, fun b => by rw [← hj]; exact h3 b⟩
      rw [pastL, ← hj, hd]; simp
    | cons r m =>
      obtain ⟨id, q, o, cs, hA⟩ := hS'.at (show 0 < (r :: m).length by simp)
      have a1 := hA.ias
      obtain ⟨a0, a2⟩ := adel_get hA.get
      have c0 := hA.c0
      have c2 := hA.c2
      have a2' : aget H id = some (.row o cs) := by rw [h3, aget_put, if_neg (fun e => a0 e.symm)] at a2; exact a2
      have hid := (hin id _ a2').1
      have hz : (0 : Int) < ((m.length + 1 : Nat) : Int) := by omega
      simp only [List.getElem_cons_zero] at c0 c2
      have a1' : evIas 4 (dropV j S) (.i .i64 0) = some (.p id q) := a1
      have hsl := hS'.sls1
      by_cases hx : endX r ≤ x
      · have hx' : IntKind.i64.wrap (r.x + r.w) ≤ x := hx
        refine .seq (.seq (.drawP (by rfl) ?_))
        refine drawP_run 4 (by rfl) (by simp [-evLen, hc', hcn, hL]; rfl) ?_
        refine drawP_run 5 (by rfl) (by simp [hz, hc', hcn]; rfl) ?_
        refine drawP_run 1 (by rfl) (by simp [-evIas, a1']; rfl) ?_
        refine drawP_run 5 (by rfl) (by simp [a2, hid, c0, hc', hcn]; rfl) ?_
        refine drawP_run 1 (by rfl) (by simp [-evIas, a1']; rfl) ?_
        refine drawP_all (by rfl) (by simp [a2, hid, c2, hx']; rfl) ?_
        refine .cond (t := true) (by simp) (.skip ?_)
        refine .block (.ops (opsF_run 4 (by simp [hc']; rfl) ?_))
        refine opsF_run 1 (by simp [-evSls, hsl]; rfl) ?_
        refine opsF_run 1 (by simp; rfl) ?_
        refine opsF_cons_op (v := .un) (n' := n) (H' := aput H' c (.row true [dropV (j + 1) S])) rfl rfl ?_ ?_
        · have : (dropV (j + 1) S).known = true ∧ (dropV (j + 1) S).one = true ∧ (dropV (j + 1) S).cells = [dropV (j + 1) S] := by
            rcases hS with ⟨rfl, _⟩ | ⟨_, _, _, _, _, _, rfl, _⟩ <;> exact ⟨rfl, rfl, rfl⟩
          obtain ⟨k1, k2, k3⟩ := this
          simp only [dropV_add]
          simp [-V.cells, hc', k1, k2, k3, setAll]
        refine opsF_nil ?_
        have hpn : pastN endX x (r :: m) = pastN endX x m + 1 := by rw [pastN, if_pos hx]
        refine ⟨l.length - (j + 1), ⟨[(0, .p c 0), (1, .i .i64 x), (4, .b false)], [], n, _⟩, by omega, ⟨j + 1, aput H' c (.row true [dropV (j + 1) S]), by omega, rfl, fun b => ?_, ?_, rfl⟩, St.less_F (by simp) (by simp)⟩
        · rw [aget_put, aget_put, h3, aget_put]; split <;> rfl
        · rw [← List.drop_drop, hd]; simp; omega
      · have hx' : ¬ IntKind.i64.wrap (r.x + r.w) ≤ x := hx
        have hj : j = pastN endX x l := by rw [pastN, if_neg hx] at h4; omega
        refine .seq (.seq (.drawP (by rfl) ?_))
        refine drawP_run 4 (by rfl) (by simp [-evLen, hc', hcn, hL]; rfl) ?_
        refine drawP_run 5 (by rfl) (by simp [hz, hc', hcn]; rfl) ?_
        refine drawP_run 1 (by rfl) (by simp [-evIas, a1']; rfl) ?_
        refine drawP_run 5 (by rfl) (by simp [a2, hid, c0, hc', hcn]; rfl) ?_
        refine drawP_run 1 (by rfl) (by simp [-evIas, a1']; rfl) ?_
        refine drawP_all (by rfl) (by simp [a2, hid, c2, hx']; rfl) ?_
        refine .cond (t := false) (by simp) (.exit ?_)
        refine AWc.forget (T0 := [(0, .p c 0), (1, .i .i64 x), (4, .b false)]) (by simp) ?_
        refine .seq (.ops (opsF_run 4 (by simp [-evLen, hc', hL]; rfl) ?_))
        refine opsF_run 5 (by simp [hz, hc']; rfl) ?_
        refine opsF_run 1 (by simp [-evIas, a1']; rfl) ?_
        refine opsF_all (by simp [a2, c0]; rfl) ?_
        refine .ret ?_
        refine ⟨.inr rfl, rfl, _, rfl, ?_, rfl, fun b => by rw [← hj]; exact h3 b⟩
        rw [pastL, ← hj, hd]
        simp
  · rintro v n' H' ⟨rfl, rfl, h⟩
    have hd : VIn n' (dropV (pastN endX x l) S) := by
      have := (hS.drop _ (pastN_le endX x l)).vin (n := n') (fun b k hb => hin b k (adel_get hb).2)
      exact this
    refine ⟨_root_.id, _, n', aput H c (.row true [dropV (pastN endX x l) S]), fun _ _ => rfl, Nat.le_refl _, .id_of (.b _), ⟨fun b k hb => ?_, fun _ _ _ _ _ _ h => h⟩, rfl, rfl, rfl⟩
    have hb2 := hb
    rw [aget_put] at hb2
    split at hb2
    · rename_i e
      subst e
      cases hb2
      exact ⟨hcn, _, (h _).trans hb, .refl (by intro z hz; rw [List.mem_singleton.1 hz]; exact hd)⟩
    · exact ⟨(hin b k hb2).1, k, (h _).trans hb, .refl (hin b k hb2).2⟩
end Go.Proofs.Ytpgelghkjiejlaa
end
section
set_option maxRecDepth 4000
namespace Go.Proofs.Ytpgelghkjiejlaa
open Go
attribute [local irreducible] opsF drawF drawP
theorem SlR.shape {H : Heap} {S : V} {l : List Rc} (h : SlR H S l) (k : Nat) : (dropV k S).known = true ∧ (dropV k S).one = true ∧ (dropV k S).cells = [dropV k S] := by
  rcases h with ⟨rfl, _⟩ | ⟨_, _, _, _, _, _, rfl, _⟩ <;> exact ⟨rfl, rfl, rfl⟩
theorem rowK_cons_lt {y : Int} {l : List Rc} {i : Nat} (hi : i < l.length) (h : i ≤ rowK y l) : (l[i].y ≤ y ↔ i < rowK y l) := by
  induction l generalizing i with
  | nil => simp at hi
  | cons r l ih =>
    unfold rowK at h ⊢
    rw [List.takeWhile_cons] at h ⊢
    by_cases hr : r.y ≤ y
    · simp only [hr, decide_true, if_true, List.length_cons] at h ⊢
      cases i with
      | zero => simp [hr]
      | succ i =>
        simp only [List.length_cons] at hi
        have := ih (i := i) (by omega) (by unfold rowK; omega)
        simp only [List.getElem_cons_succ]
        unfold rowK at this
        rw [this]
        omega
    · simp only [hr, decide_false, Bool.false_eq_true, if_false, List.length_nil] at h ⊢
      obtain rfl : i = 0 := by omega
      simp [hr]
def rowDr : ACode := (.ops (some [0, 1, 3, 7, 15, 31, 63, 127, 255, 511, 1023, 2047, 4095, 8191, 127, 16511, 49279, 114815, 245887, 508031, 1032319, 2097151, 127, 8388607, 16777215]) [⟨(some 6), (.mv (.t 0)), none⟩,
      ⟨(some 7), (.nilc (.t 6)), none⟩,
      ⟨(some 8), (.fa 0 (.t 7)), none⟩,
      ⟨(some 9), (.ld false 1 (.t 8)), none⟩,
      ⟨(some 10), (.blen false (.t 9)), none⟩,
      ⟨(some 11), (.bin .gtr (.t 10) (.c (.i .i64 0))), none⟩,
      ⟨(some 12), (.mv (.t 11)), none⟩,
      ⟨(some 13), (.mv (.t 0)), (some ((some 12), true))⟩,
      ⟨(some 14), (.nilc (.t 13)), (some ((some 12), true))⟩,
      ⟨(some 15), (.fa 0 (.t 14)), (some ((some 12), true))⟩,
      ⟨(some 16), (.ld false 1 (.t 15)), (some ((some 12), true))⟩,
      ⟨(some 17), (.ias 4 (.t 16) (.c (.i .i64 0))), (some ((some 12), true))⟩,
      ⟨(some 18), (.fa 1 (.t 17)), (some ((some 12), true))⟩,
      ⟨(some 19), (.ld false 1 (.t 18)), (some ((some 12), true))⟩,
      ⟨(some 20), (.mv (.t 0)), (some ((some 12), true))⟩,
      ⟨(some 21), (.nilc (.t 20)), (some ((some 12), true))⟩,
      ⟨(some 22), (.fa 0 (.t 21)), (some ((some 12), true))⟩,
      ⟨(some 23), (.ld false 1 (.t 22)), (some ((some 12), true))⟩,
      ⟨(some 24), (.ias 4 (.t 23) (.c (.i .i64 0))), (some ((some 12), true))⟩,
      ⟨(some 25), (.fa 3 (.t 24)), (some ((some 12), true))⟩,
      ⟨(some 26), (.ld false 1 (.t 25)), (some ((some 12), true))⟩,
      ⟨(some 27), (.bin .add (.t 19) (.t 26)), (some ((some 12), true))⟩,
      ⟨(some 28), (.mv (.t 1)), (some ((some 12), true))⟩,
      ⟨(some 29), (.bin .leq (.t 27) (.t 28)), (some ((some 12), true))⟩,
      ⟨(some 30), (.pick (.t 12) (.t 29) (.c (.b false))), none⟩])
/-- Whether the first rectangle has ended. -/
def pastB (e : Rc → Int) (y : Int) : List Rc → Bool
  | [] => false
  | r :: _ => decide (e r ≤ y)
theorem rowG0 {N : Nat} {Q : Exit → St → Prop} {yc : ACode} (S : V) (c : Nat) (y : Int) (n : Nat) (H : Heap) (hcn : c < n) (hc : aget H c = some (.row true [S])) (hS : SlR (adel H c) S [])
    (hQ : AWc Try.prog N none yc ⟨[(0, .p c 0), (1, .i .i64 y), (4, .nils), (30, .b false)], [], n, H⟩ Q) :
    AWc Try.prog N none (.seq rowDr yc) ⟨[(0, .p c 0), (1, .i .i64 y), (4, .nils)], [], n, H⟩ Q := by
  have hL : evLen false S = some (.i .i64 0) := hS.len
  unfold rowDr
  refine .seq (.drawP (by rfl) ?_)
  refine drawP_run 5 (by rfl) (by simp [-evLen, hc, hcn, hL]; rfl) ?_
  refine drawP_run 2 (by rfl) (by simp; rfl) ?_
  refine drawP_run 5 (by rfl) (by simp; rfl) ?_
  refine drawP_run 5 (by rfl) (by simp; rfl) ?_
  refine drawP_run 5 (by rfl) (by simp; rfl) ?_
  refine drawP_all (by rfl) (by simp; rfl) ?_
  exact AWc.forget (T0 := [(0, .p c 0), (1, .i .i64 y), (4, .nils), (30, .b false)]) (by simp) hQ
theorem rowG1 {N : Nat} {Q : Exit → St → Prop} {yc : ACode} (S : V) (r : Rc) (m : List Rc) (c : Nat) (y : Int) (n : Nat) (H : Heap) (hcn : c < n) (hin : HIn n H) (hc : aget H c = some (.row true [S])) (hS : SlR (adel H c) S (r :: m))
    (g : Bool) (hg : decide (IntKind.i64.wrap (r.y + r.h) ≤ y) = g) (hQ : AWc Try.prog N none yc ⟨[(0, .p c 0), (1, .i .i64 y), (4, .nils), (30, .b g)], [], n, H⟩ Q) :
    AWc Try.prog N none (.seq rowDr yc) ⟨[(0, .p c 0), (1, .i .i64 y), (4, .nils)], [], n, H⟩ Q := by
  have hL := hS.len
  obtain ⟨id, q, o, cs, hA⟩ := hS.at (show 0 < (r :: m).length by simp)
  have a1 : evIas 4 S (.i .i64 0) = some (.p id q) := hA.ias
  obtain ⟨a0, a2⟩ := adel_get hA.get
  have c1 := hA.c1
  have c3 := hA.c3
  have hid := (hin id _ a2).1
  simp only [List.getElem_cons_zero] at c1 c3
  have hz : (0 : Int) < ((m.length + 1 : Nat) : Int) := by omega
  have hz' : (0 : Int) < (m.length : Int) + 1 := by omega
  rw [List.length_cons] at hL
  generalize ((m.length + 1 : Nat) : Int) = L at hL hz
  clear hA hS hin hz'
  unfold rowDr
  refine .seq (.drawP (by rfl) ?_)
  refine drawP_run 4 (by rfl) (by simp [hc, hcn]; rfl) ?_
  refine drawP_run 3 (by rfl) (by simp [-evLen, hL, hz]; rfl) ?_
  refine drawP_run 4 (by rfl) (by simp [hc, hcn]; rfl) ?_
  refine drawP_run 1 (by rfl) (by simp [-evIas, a1]; rfl) ?_
  refine drawP_run 2 (by rfl) (by simp [a2, hid, c1]; rfl) ?_
  refine drawP_run 4 (by rfl) (by simp [hc, hcn]; rfl) ?_
  refine drawP_run 1 (by rfl) (by simp [-evIas, a1]; rfl) ?_
  refine drawP_run 2 (by rfl) (by simp [a2, hid, c3]; rfl) ?_
  refine drawP_all (by rfl) (by simp [hg]; rfl) ?_
  exact AWc.forget (T0 := [(0, .p c 0), (1, .i .i64 y), (4, .nils), (30, .b g)]) (by simp) hQ
def rowFi : ACode := (.seq (.ops none [⟨(some 5), (.mv (.c (.i .i64 0))), none⟩])
   (.seq (.block 2 (.loop (.seq (.seq (.ops none [⟨(some 39), (.mv (.t 5)), none⟩,
       ⟨(some 40), (.mv (.t 0)), none⟩,
       ⟨(some 41), (.nilc (.t 40)), none⟩,
       ⟨(some 42), (.fa 0 (.t 41)), none⟩,
       ⟨(some 43), (.ld false 1 (.t 42)), none⟩,
       ⟨(some 44), (.blen false (.t 43)), none⟩,
       ⟨(some 45), (.bin .lss (.t 39) (.t 44)), none⟩,
       ⟨(some 46), (.mv (.t 45)), none⟩,
       ⟨(some 47), (.mv (.t 0)), (some ((some 46), true))⟩,
       ⟨(some 48), (.nilc (.t 47)), (some ((some 46), true))⟩,
       ⟨(some 49), (.fa 0 (.t 48)), (some ((some 46), true))⟩,
       ⟨(some 50), (.ld false 1 (.t 49)), (some ((some 46), true))⟩,
       ⟨(some 51), (.mv (.t 5)), (some ((some 46), true))⟩,
       ⟨(some 52), (.ias 4 (.t 50) (.t 51)), (some ((some 46), true))⟩,
       ⟨(some 53), (.fa 1 (.t 52)), (some ((some 46), true))⟩,
       ⟨(some 54), (.ld false 1 (.t 53)), (some ((some 46), true))⟩,
       ⟨(some 55), (.mv (.t 1)), (some ((some 46), true))⟩,
       ⟨(some 56), (.bin .leq (.t 54) (.t 55)), (some ((some 46), true))⟩,
       ⟨(some 57), (.pick (.t 46) (.t 56) (.c (.b false))), none⟩])
      (.cond (.t 57)
       (.skip)
       (.exit 2)))
     (.block 3 (.ops none [⟨(some 58), (.mv (.t 5)), none⟩,
       ⟨(some 59), (.bin .add (.t 58) (.c (.i .i64 1))), none⟩,
       ⟨(some 5), (.mv (.t 59)), none⟩])))))
    (.seq (.ops none [⟨(some 60), (.mv (.t 0)), none⟩,
      ⟨(some 61), (.nilc (.t 60)), none⟩,
      ⟨(some 62), (.fa 0 (.t 61)), none⟩,
      ⟨(some 63), (.ld false 1 (.t 62)), none⟩,
      ⟨(some 64), (.mv (.t 5)), none⟩,
      ⟨(some 65), (.sls 4 (.t 63) none (some (.t 64)) none), none⟩,
      ⟨(some 4), (.mv (.t 65)), none⟩])
    (.ret))))
def rowP (S2 : V) (l2 : List Rc) (y : Int) (c n : Nat) (H0 : Heap) : Exit → St → Prop := fun e st => (e = .normal ∨ e = .ret) ∧ st.D = [] ∧ ∃ vs, resAll st.T st.H F75.res = some vs ∧ (resV vs = takeV (rowK y l2) S2 ∧ st.n = n ∧ ∀ b, aget st.H b = aget H0 b)
theorem rowF (S2 : V) (l2 : List Rc) (hl : l2.length ≤ 1000000000) (c : Nat) (y : Int) (n : Nat) (H' H0 : Heap) (hH' : ∀ b, aget H' b = aget H0 b) (hc' : aget H' c = some (.row true [S2])) (hS' : SlR (adel H' c) S2 l2) :
    AWc Try.prog F75.N none rowFi ⟨[(0, .p c 0), (1, .i .i64 y), (4, .nils)], [], n, H'⟩ (rowP S2 l2 y c n H0) := by
  have hrk := rowK_le y l2
  have hL := hS'.len
  unfold rowFi
  refine .seq (.ops (opsF_all (by simp; rfl) ?_))
  refine .seq (.block (.loop (k₀ := l2.length) (s₀ := ⟨[(0, .p c 0), (1, .i .i64 y), (5, .i .i64 0)], [], n, H'⟩)
    (fun k st => ∃ i : Nat, i ≤ rowK y l2 ∧ k = l2.length - i ∧ st = ⟨[(0, .p c 0), (1, .i .i64 y), (5, .i .i64 i)], [], n, H'⟩)
    ⟨0, by omega, rfl, rfl⟩ (St.less_F (by simp) (by simp)) (Nat.le_refl _) (fun k st ⟨i, h1, h2, h3⟩ => by rw [h3]; exact Nat.le_refl _) ?_))
  rintro k st ⟨i, h1, rfl, rfl⟩
  have hstop : i = rowK y l2 → ∀ T : Temps, aget T 0 = some (.p c 0) → aget T 5 = some (.i .i64 i) → AWc Try.prog F75.N none (.seq (.ops none [⟨(some 60), (.mv (.t 0)), none⟩,
      ⟨(some 61), (.nilc (.t 60)), none⟩,
      ⟨(some 62), (.fa 0 (.t 61)), none⟩,
      ⟨(some 63), (.ld false 1 (.t 62)), none⟩,
      ⟨(some 64), (.mv (.t 5)), none⟩,
      ⟨(some 65), (.sls 4 (.t 63) none (some (.t 64)) none), none⟩,
      ⟨(some 4), (.mv (.t 65)), none⟩])
    (.ret)) ⟨T, [], n, H'⟩ (rowP S2 l2 y c n H0) := by
    intro hi T t0 t5
    refine AWc.forget (T0 := [(0, .p c 0), (5, .i .i64 i)]) (by simp [t0, t5]) ?_
    have hsl := hS'.slsT (k := i) (by omega)
    refine .seq (.ops (opsF_run 5 (by simp [hc']; rfl) ?_))
    refine opsF_run 1 (by simp [-evSls, hsl]; rfl) ?_
    refine opsF_all (by simp; rfl) ?_
    refine .ret ?_
    exact ⟨.inr rfl, rfl, _, rfl, by rw [← hi]; rfl, rfl, hH'⟩
  by_cases hi : i < l2.length
  · obtain ⟨id, q, o, cs, hA⟩ := hS'.at hi
    have a1 := hA.ias
    obtain ⟨a0, a2⟩ := adel_get hA.get
    have c1 := hA.c1
    have hi' : (i : Int) < l2.length := by omega
    have hwi : IntKind.i64.wrap ((i : Int) + 1) = ((i + 1 : Nat) : Int) := IntWalk.i64_in _ (by omega)
    have hcons := rowK_cons_lt hi h1
    generalize l2[i] = r at c1 hcons
    refine .seq (.seq (.ops (opsF_run 5 (by simp [hc']; rfl) ?_)))
    refine opsF_run 1 (by simp [-evLen, hL]; rfl) ?_
    refine opsF_run 7 (by simp [hc', hi']; rfl) ?_
    refine opsF_run 1 (by simp [-evIas, a1]; rfl) ?_
    by_cases hr : r.y ≤ y
    · refine opsF_all (by simp [a2, c1, hr]; rfl) ?_
      refine .cond (t := true) (by simp) (.skip ?_)
      refine .block (.ops (opsF_all (by simp [hwi]; rfl) ?_))
      exact ⟨l2.length - (i + 1), ⟨[(0, .p c 0), (1, .i .i64 y), (5, .i .i64 ((i + 1 : Nat)))], [], n, H'⟩, by omega, ⟨i + 1, by have := hcons.1 hr; omega, rfl, rfl⟩, St.less_F (by simp) (by simp)⟩
    · refine opsF_all (by simp [a2, c1, hr]; rfl) ?_
      refine .cond (t := false) (by simp) (.exit ?_)
      have : ¬ i < rowK y l2 := fun h => hr (hcons.2 h)
      exact hstop (by omega) _ (by simp) (by simp)
  · have hi' : ¬ (i : Int) < l2.length := by omega
    refine .seq (.seq (.ops (opsF_run 5 (by simp [hc']; rfl) ?_)))
    refine opsF_run 1 (by simp [-evLen, hL]; rfl) ?_
    refine opsF_all (by simp [hi']; rfl) ?_
    refine .cond (t := false) (by simp) (.exit ?_)
    exact hstop (by omega) _ (by simp) (by simp)
theorem row_ok (S : V) (l : List Rc) (hl : l.length ≤ 1000000000) (c : Nat) (y : Int) (n : Nat) (H : Heap) (hc : aget H c = some (.row true [S])) (hS : SlR (adel H c) S l) :
    ACalls Try.prog 75 [.p c 0, .i .i64 y] n H fun v n' H' => v = takeV (rowK y (pastL endY y l)) (dropV (pastN endY y l) S) ∧ n' = n ∧ H' = aput H c (.row true [dropV (pastN endY y l) S]) := by
  refine .withIn (ACalls.enters F75_ok trivial) fun hin hargs => ?_
  have hin : HIn n H := hin
  have hcn := (hin _ _ hc).1
  have hpl := pastN_le endY y l
  have hS2 : SlR (adel H c) (dropV (pastN endY y l) S) (pastL endY y l) := hS.drop _ hpl
  have hrk := rowK_le y (pastL endY y l)
  have hll : (pastL endY y l).length = l.length - pastN endY y l := by rw [pastL, List.length_drop]
  refine ACalls.weakenR (K := fun v n' H' => v = takeV (rowK y (pastL endY y l)) (dropV (pastN endY y l) S) ∧ n' = n ∧ ∀ b, aget H' b = aget (aput H c (.row true [dropV (pastN endY y l) S])) b) ?_ ?_
  · refine .enter0 F75_ok (by simp [F75]) ?_
    refine .seq (.ops (opsF_all (by simp; rfl) ?_))
    have hfin : ∀ H' : Heap, (∀ b, aget H' b = aget (aput H c (.row true [dropV (pastN endY y l) S])) b) → AWc Try.prog F75.N none rowFi ⟨[(0, .p c 0), (1, .i .i64 y), (4, .nils)], [], n, H'⟩ (rowP (dropV (pastN endY y l) S) (pastL endY y l) y c n (aput H c (.row true [dropV (pastN endY y l) S]))) := by
      intro H' hH'
      refine rowF _ _ (by omega) c y n H' _ hH' (by rw [hH', aget_put, if_pos rfl]) (hS2.same fun b => by rw [aget_del, aget_del, hH', aget_put]; split <;> rfl)
    refine .seq (.block (.loop (k₀ := l.length) (s₀ := ⟨[(0, .p c 0), (1, .i .i64 y), (4, .nils)], [], n, H⟩)
      (fun k st => ∃ (j : Nat) (H' : Heap), j ≤ pastN endY y l ∧ k = l.length - j ∧ (∀ b, aget H' b = aget (aput H c (.row true [dropV j S])) b) ∧ pastN endY y (l.drop j) + j = pastN endY y l ∧ st = ⟨[(0, .p c 0), (1, .i .i64 y), (4, .nils)], [], n, H'⟩)
      ⟨0, H, by omega, rfl, fun b => ?_, rfl, rfl⟩ (St.less_F (by simp) (by simp)) (Nat.le_refl _) (fun k st ⟨j, H', h1, h2, h3, h4, h5⟩ => by rw [h5]; exact Nat.le_refl _) ?_))
    · rw [dropV_0, aget_put]
      split
      · rename_i e; subst e; exact hc
      · rfl
    rintro k st ⟨j, H', h1, rfl, h3, h4, rfl⟩
    have hc' : aget H' c = some (.row true [dropV j S]) := by rw [h3, aget_put, if_pos rfl]
    have hS' : SlR (adel H' c) (dropV j S) (l.drop j) := (hS.drop j (by omega)).same fun b => by rw [aget_del, aget_del, h3, aget_put]; split <;> rfl
    generalize hd : l.drop j = m at h4 hS'
    cases m with
    | nil =>
      refine .seq (rowG0 _ c y n H' hcn hc' hS' ?_)
      refine .cond (t := false) (by simp) (.exit ?_)
      have hj : j = pastN endY y l := by simpa [pastN] using h4
      exact AWc.forget (T0 := [(0, .p c 0), (1, .i .i64 y), (4, .nils)]) (by simp) (hfin H' fun b => by rw [← hj]; exact h3 b)
    | cons r m =>
      refine AWc.withIn fun hin' => ?_
      refine .seq (rowG1 _ r m c y n H' hcn hin' hc' hS' (decide (endY r ≤ y)) rfl ?_)
      have hsl := hS'.sls1
      by_cases hx : endY r ≤ y
      · refine .cond (t := true) (by simp [hx]) (.skip ?_)
        refine .block (.ops (opsF_run 5 (by simp [hc']; rfl) ?_))
        refine opsF_run 1 (by simp [-evSls, hsl]; rfl) ?_
        refine opsF_run 2 (by simp; rfl) ?_
        obtain ⟨k1, k2, k3⟩ := hS.shape (j + 1)
        refine opsF_cons_op (v := .un) (n' := n) (H' := aput H' c (.row true [dropV (j + 1) S])) rfl rfl (by rw [← dropV_add] at k1 k2 k3 ⊢; exact evSt_one hc' rfl k1 k2 k3) ?_
        refine opsF_nil ?_
        have hpn : pastN endY y (r :: m) = pastN endY y m + 1 := by rw [pastN, if_pos hx]
        refine ⟨l.length - (j + 1), ⟨[(0, .p c 0), (1, .i .i64 y), (4, .nils)], [], n, _⟩, by omega, ⟨j + 1, aput H' c (.row true [dropV (j + 1) S]), by omega, rfl, fun b => ?_, ?_, rfl⟩, St.less_F (by simp) (by simp)⟩
        · rw [aget_put, aget_put, h3, aget_put]; split <;> rfl
        · rw [← List.drop_drop, hd]; simp; omega
      · have hj : j = pastN endY y l := by rw [pastN, if_neg hx] at h4; omega
        refine .cond (t := false) (by simp [hx]) (.exit ?_)
        exact AWc.forget (T0 := [(0, .p c 0), (1, .i .i64 y), (4, .nils)]) (by simp) (hfin H' fun b => by rw [← hj]; exact h3 b)
  · rintro v n' H' ⟨rfl, rfl, h⟩
    have hin2 : HIn n' (adel H c) := fun b k hb => hin b k (adel_get hb).2
    have hd : VIn n' (dropV (pastN endY y l) S) := hS2.vin hin2
    have hd2 : VIn n' (takeV (rowK y (pastL endY y l)) (dropV (pastN endY y l) S)) := (hS2.take _ hrk).vin hin2
    refine ⟨_root_.id, _, n', aput H c (.row true [dropV (pastN endY y l) S]), fun _ _ => rfl, Nat.le_refl _, .id_of hd2, ⟨fun b k hb => ?_, fun _ _ _ _ _ _ h => h⟩, rfl, rfl, rfl⟩
    have hb2 := hb
    rw [aget_put] at hb2
    split at hb2
    · rename_i e
      subst e
      cases hb2
      exact ⟨hcn, _, (h _).trans hb, .refl (by intro z hz; rw [List.mem_singleton.1 hz]; exact hd)⟩
    · exact ⟨(hin b k hb2).1, k, (h _).trans hb, .refl (hin b k hb2).2⟩
end Go.Proofs.Ytpgelghkjiejlaa
end
section
set_option maxRecDepth 4000
namespace Go.Proofs.Ytpgelghkjiejlaa
open Go
attribute [local irreducible] opsF drawF drawP
theorem sort66n (n : Nat) (H : Heap) : ACalls Try.prog 66 [.nils] n H fun v n' H' => v = .tu [] ∧ n' = n ∧ H' = H := by
  refine ⟨enters66, fun ρ w args' hs hr => ?_⟩
  obtain ⟨y, rfl, hy⟩ := args_one hr
  cases hy with
  | nils =>
    refine (Try.slices_Sort_int_none _ _ w).mono ?_
    rintro e w' ⟨rfl, rfl⟩
    exact ⟨.tu [], n, H, ρ, _, ⟨rfl, rfl, rfl⟩, rfl, .tu rfl (by simp), hs, .refl _ _ _ _⟩
theorem compact67n (n : Nat) (H : Heap) : ACalls Try.prog 67 [.nils] n H fun v n' H' => v = .nils ∧ n' = n ∧ H' = H := by
  refine ⟨enters67, fun ρ w args' hs hr => ?_⟩
  obtain ⟨y, rfl, hy⟩ := args_one hr
  cases hy with
  | nils =>
    refine (Try.slices_Compact_int_empty _ _ w).mono ?_
    rintro e w' ⟨rfl, rfl⟩
    exact ⟨.nils, n, H, ρ, _, ⟨rfl, rfl, rfl⟩, rfl, .nils, hs, .refl _ _ _ _⟩
def cutL (tf : Rc → Int × Int) (l : List Rc) : List Int := l.flatMap fun r => [(tf r).1, w64 ((tf r).1 + (tf r).2)]
theorem cutL_len (tf : Rc → Int × Int) (l : List Rc) : (cutL tf l).length = 2 * l.length := by
  induction l with
  | nil => rfl
  | cons r l ih => simp [cutL] at ih ⊢; omega
theorem cutL_append (tf : Rc → Int × Int) (a b : List Rc) : cutL tf (a ++ b) = cutL tf a ++ cutL tf b := by simp [cutL]
def cutS (tf : Rc → Int × Int) (l : List Rc) : List Int := Go.Lib.compact (sortI (cutL tf l))
/-- A slice of numbers that grows, and what stood before. -/
structure GI (n0 : Nat) (H0 H : Heap) (f : Bool) (m : Nat) (acc : List Int) : Prop where
  keep : ∀ b k, aget H0 b = some k → aget H b = some k ∧ b < n0
  off : f = false → acc = []
  on : f = true → acc ≠ [] ∧ n0 ≤ m ∧ aget H m = some (.row true (ints acc))
def cuT (g : FuncId) (Sa SL : V) (len j : Int) : Temps := [(0, .fn g [] []), (5, Sa), (12, SL), (13, .i .i64 len), (14, .i .i64 j)]
def cuIn : ACode := (.seq (.ops none [⟨(some 18), (.mv (.t 7)), none⟩,
         ⟨(some 19), (.blen false (.t 18)), none⟩,
         ⟨(some 20), (.mv (.c (.i .i64 0))), none⟩])
        (.block 2 (.loop (.seq (.ops none [⟨(some 21), (.bin .lss (.t 20) (.t 19)), none⟩])
         (.seq (.cond (.t 21)
           (.skip)
           (.exit 2))
          (.seq (.block 3 (.seq (.ops none [⟨(some 22), (.ias 4 (.t 18) (.t 20)), none⟩,
             ⟨(some 23), (.ld true 4 (.t 22)), none⟩,
             ⟨(some 9), (.new [(.i .i64 0), (.i .i64 0), (.i .i64 0), (.i .i64 0)]), none⟩,
             ⟨none, (.st 4 (.t 9) (.t 23)), none⟩])
           (.seq (.ops none [⟨(some 25), (.mv (.t 0)), none⟩,
             ⟨(some 26), (.ld true 4 (.t 9)), none⟩,
             ⟨(some 27), (.call (.t 25) [(.t 26)]), none⟩,
             ⟨(some 24), (.mv (.t 27)), none⟩,
             ⟨(some 28), (.ext (.t 24) 0), none⟩,
             ⟨(some 29), (.ext (.t 24) 1), none⟩,
             ⟨(some 10), (.mv (.t 28)), none⟩,
             ⟨(some 11), (.mv (.t 29)), none⟩])
            (.ops none [⟨(some 30), (.mv (.t 5)), none⟩,
             ⟨(some 31), (.mv (.t 10)), none⟩,
             ⟨(some 32), (.mv (.t 10)), none⟩,
             ⟨(some 33), (.mv (.t 11)), none⟩,
             ⟨(some 34), (.bin .add (.t 32) (.t 33)), none⟩,
             ⟨(some 35), (.lit 1 2 [(.i .i64 0), (.i .i64 0)] [(0, (.t 31)), (1, (.t 34))]), none⟩,
             ⟨(some 36), (.app 1 8 [(.i .i64 0)] (.t 30) (.t 35)), none⟩,
             ⟨(some 5), (.mv (.t 36)), none⟩]))))
          (.ops none [⟨(some 37), (.bin .add (.t 20) (.c (.i .i64 1))), none⟩,
            ⟨(some 20), (.mv (.t 37)), none⟩])))))))
theorem cutsIn {Q : Exit → St → Prop} (g : FuncId) (tf : Rc → Int × Int) (htf : ∀ r n H, Pure Try.prog g [rV r] n H (.tu [.i .i64 (tf r).1, .i .i64 (tf r).2])) (SL S : V) (len j : Int) (l : List Rc) (hl : l.length ≤ 1000000) (n0 : Nat) (H0 : Heap) (hS : SlR H0 S l) (f : Bool) (m : Nat) (acc : List Int) (hacc : acc.length ≤ 10000000) (n : Nat) (H : Heap) (hn : n0 ≤ n)
    (h : GI n0 H0 H f m acc)
    (hQ : ∀ T' n' H' f' m', n0 ≤ n' → GI n0 H0 H' f' m' (acc ++ cutL tf l) → ((cuT g (slB f' m' 1 (acc ++ cutL tf l).length) SL len j).map fun p => aget T' p.1) = ((cuT g (slB f' m' 1 (acc ++ cutL tf l).length) SL len j).map fun p => some p.2) → Q .normal ⟨T', [], n', H'⟩) :
    AWc Try.prog 43 none cuIn ⟨(7, S) :: cuT g (slB f m 1 acc.length) SL len j, [], n, H⟩ Q := by
  have hL := hS.len
  unfold cuIn
  refine .seq (.ops (opsF_all (by simp [cuT, -evLen, hL]; rfl) ?_))
  refine .block (.loop (k₀ := l.length) (s₀ := ⟨(18, S) :: (19, .i .i64 l.length) :: (20, .i .i64 0) :: cuT g (slB f m 1 acc.length) SL len j, [], n, H⟩)
    (fun k st => ∃ (i n' : Nat) (H' : Heap) (f' : Bool) (m' : Nat) (cur : List Int), i ≤ l.length ∧ k = l.length - i ∧ n ≤ n' ∧ GI n0 H0 H' f' m' cur ∧ cur.length = acc.length + 2 * i ∧ cur ++ cutL tf (l.drop i) = acc ++ cutL tf l ∧
      st = ⟨(18, S) :: (19, .i .i64 l.length) :: (20, .i .i64 i) :: cuT g (slB f' m' 1 cur.length) SL len j, [], n', H'⟩)
    ⟨0, n, H, f, m, acc, by omega, rfl, Nat.le_refl _, h, by omega, rfl, rfl⟩ (St.less_F (by simp) (by simp [cuT])) (Nat.le_refl _) (fun k st ⟨i, n', H', f', m', cur, h1, h2, h3, h4, h5, h6, h7⟩ => by rw [h7]; exact h3) ?_)
  rintro k st ⟨i, n', H', f', m', cur, h1, rfl, h3, h4, h5, h6, rfl⟩
  refine .withIn fun hin => ?_
  have hin : HIn n' H' := hin
  have hS' := hS.mono (fun b k hb => (h4.keep b k hb).1)
  by_cases hi : i < l.length
  · obtain ⟨id, q, o, cs, hA⟩ := hS'.at hi
    have a1 := hA.ias
    have a2 := hA.get
    have a3 := hA.len
    have a4 := hA.at4
    have hid := (hin id _ a2).1
    have hi' : (i : Int) < l.length := by omega
    have hwi : IntKind.i64.wrap ((i : Int) + 1) = ((i + 1 : Nat) : Int) := IntWalk.i64_in _ (by omega)
    have hd : l.drop i = l[i] :: l.drop (i + 1) := List.drop_eq_getElem_cons hi
    have hcall := htf l[i]
    rw [hd] at h6
    generalize l[i] = r at a4 h6 hcall
    have e1 : ¬ n' = id := by omega
    generalize htr : tf r = p at hcall
    obtain ⟨a, b⟩ := p
    have hcr : cutL tf (r :: l.drop (i + 1)) = [a, w64 (a + b)] ++ cutL tf (l.drop (i + 1)) := by simp [cutL, htr]
    rw [hcr, ← List.append_assoc] at h6
    refine .seq (.ops (opsF_all (by simp [cuT, hi']; rfl) ?_))
    refine .seq (.cond (t := true) (by simp) (.skip ?_))
    refine .seq (.block (.seq (.ops (opsF_run 1 (by simp [-evIas, a1]; rfl) ?_))))
    refine opsF_all (by simp [a2, a3, a4, rc4, setAll]; rfl) ?_
    refine .seq (.ops (opsF_run 2 (by simp [cuT, rc4]; rfl) ?_))
    refine opsF_cons_call rfl rfl rfl (v := .tu [.i .i64 a, .i .i64 b]) (by simpa [rV, rc4] using hcall _ _) ?_
    refine opsF_all (by simp; rfl) ?_
    refine AWc.forget (T0 := (10, .i .i64 a) :: (11, .i .i64 b) :: (18, S) :: (19, .i .i64 l.length) :: (20, .i .i64 i) :: cuT g (slB f' m' 1 cur.length) SL len j) (by simp [cuT]) ?_
    refine .ops (opsF_run 5 (by simp [cuT]; rfl) ?_)
    refine opsF_run 1 (by simp [setAll]; rfl) ?_
    have hm' : f' = true → m' < n' := fun hf => (hin _ _ (h4.on hf).2.2).1
    refine opsF_cons_app (f := f') (m := m') (len := cur.length) (cs := ints cur) (k := 2) (new := [.i .i64 a, .i .i64 (w64 (a + b))]) rfl rfl rfl (fun hf => by rw [h4.off hf]; exact ⟨rfl, rfl⟩) (fun hf => ⟨[], by have := hm' hf; rw [aget_cons, if_neg (by omega), aget_cons, if_neg (by omega), (h4.on hf).2.2]; simp⟩) (by rw [ints_len]; omega) rfl (by simp) (by simp) rfl (by omega) (by omega) ?_
    refine opsF_all (by simp; rfl) ?_
    have hln : (cur ++ [a, w64 (a + b)]).length = cur.length + 2 := by simp
    refine AWc.forget (T0 := (18, S) :: (19, .i .i64 l.length) :: (20, .i .i64 i) :: cuT g (slB true (n' + 2) 1 (cur ++ [a, w64 (a + b)]).length) SL len j) (by simp [cuT, slB]) ?_
    refine .ops (opsF_all (by simp [cuT, hwi]; rfl) ?_)
    refine ⟨l.length - (i + 1), ⟨(18, S) :: (19, .i .i64 l.length) :: (20, .i .i64 ((i + 1 : Nat))) :: cuT g (slB true (n' + 2) 1 (cur ++ [a, w64 (a + b)]).length) SL len j, [], n' + 3, _⟩, by omega, ⟨i + 1, n' + 3, _, true, n' + 2, cur ++ [a, w64 (a + b)], by omega, rfl, by omega, ⟨fun b k hk => ?_, by simp, fun _ => ⟨by simp, by omega, ?_⟩⟩, by omega, h6, rfl⟩, St.less_F (by simp) (by simp [cuT])⟩
    · obtain ⟨k1, k2⟩ := h4.keep b k hk
      refine ⟨?_, k2⟩
      have hbn := (hin _ _ k1).1
      rw [aget_cons, if_neg (by omega)]
      cases hf : f' with
      | false => rw [if_neg (by simp), aget_cons, if_neg (by omega), aget_cons, if_neg (by omega)]; exact k1
      | true =>
        have := (h4.on hf).2.1
        rw [if_pos rfl, aget_del, if_neg (by omega), aget_cons, if_neg (by omega), aget_cons, if_neg (by omega)]; exact k1
    · rw [aget_cons, if_pos rfl, ints_append]; simp [ints]
  · obtain rfl : i = l.length := by omega
    rw [List.drop_length, show cutL tf [] = [] from rfl, List.append_nil] at h6
    refine .seq (.ops (opsF_all (by simp [cuT]; rfl) ?_))
    refine .seq (.cond (t := false) (by simp) (.exit ?_))
    subst h6
    exact hQ _ n' H' f' m' (by omega) h4 (by simp [cuT])
theorem cuts_ok (g : FuncId) (tf : Rc → Int × Int) (htf : ∀ r n H, Pure Try.prog g [rV r] n H (.tu [.i .i64 (tf r).1, .i .i64 (tf r).2])) (L : Nat) (full o : Bool) (S1 S2 : V) (a b : List Rc) (ha : a.length ≤ 1000000) (hb : b.length ≤ 1000000) (n : Nat) (H : Heap) (hL : aget H L = some (.row o [S1, S2])) (h1 : SlR H S1 a) (h2 : SlR H S2 b) :
    ACalls Try.prog 73 [.fn g [] [], .sl L 0 1 2 full] n H (NewR (!(a ++ b).isEmpty) 1 (cutS tf (a ++ b)).length (ints (cutS tf (a ++ b))) n H) := by
  refine ACalls.newR (K := fun v n' H' => (∀ b k, b < n → aget H b = some k → aget H' b = some k) ∧ (((!(a ++ b).isEmpty) = false ∧ v = .nils) ∨ ((!(a ++ b).isEmpty) = true ∧ ∃ id full post, v = .sl id 0 1 (cutS tf (a ++ b)).length full ∧ n ≤ id ∧ aget H' id = some (.row true (ints (cutS tf (a ++ b)) ++ post))))) (!(a ++ b).isEmpty) 1 (cutS tf (a ++ b)).length (ints (cutS tf (a ++ b))) (.ints _) ?_ (fun v n' H' h => h)
  refine .withIn (ACalls.enters F73_ok trivial) fun hin hargs => ?_
  have hin : HIn n H := hin
  have hLn := (hin _ _ hL).1
  refine .enter0 F73_ok (by simp [F73]) ?_
  refine .seq (.ops (opsF_all (by simp; rfl) ?_))
  refine .seq (.ops (opsF_all (by simp; rfl) ?_))
  refine .seq (.seq (.ops (opsF_all (by simp; rfl) ?_)))
  have hca := cutL_len tf a
  have hcb := cutL_len tf b
  refine .block (.loop (k₀ := 2) (s₀ := ⟨cuT g .nils (.sl L 0 1 2 full) 2 0, [], n, H⟩)
    (fun k st => ∃ (n' : Nat) (H' : Heap) (f' : Bool) (m' : Nat) (cur : List Int), n ≤ n' ∧ GI n H H' f' m' cur ∧ ((k = 2 ∧ cur = [] ∧ st = ⟨cuT g (slB f' m' 1 cur.length) (.sl L 0 1 2 full) 2 0, [], n', H'⟩) ∨ (k = 1 ∧ cur = cutL tf a ∧ st = ⟨cuT g (slB f' m' 1 cur.length) (.sl L 0 1 2 full) 2 1, [], n', H'⟩) ∨ (k = 0 ∧ cur = cutL tf (a ++ b) ∧ st = ⟨cuT g (slB f' m' 1 cur.length) (.sl L 0 1 2 full) 2 2, [], n', H'⟩)))
    ⟨n, H, false, 0, [], Nat.le_refl _, ⟨fun b k hk => ⟨hk, (hin b k hk).1⟩, by simp, by simp⟩, .inl ⟨rfl, rfl, rfl⟩⟩ (St.less_F (by simp) (by simp [cuT])) (Nat.le_refl _) (fun k st ⟨n', H', f', m', cur, h1, h2, h3⟩ => by rcases h3 with ⟨_, _, h⟩ | ⟨_, _, h⟩ | ⟨_, _, h⟩ <;> (rw [h]; exact h1)) ?_)
  rintro k st ⟨n', H', f', m', cur, hn', hG, h3⟩
  have hL' := (hG.keep _ _ hL).1
  rcases h3 with ⟨rfl, rfl, rfl⟩ | ⟨rfl, rfl, rfl⟩ | ⟨rfl, hcur, rfl⟩
  · refine .seq (.ops (opsF_all (by simp [cuT]; rfl) ?_))
    refine .seq (.cond (t := true) (by simp) (.skip ?_))
    refine .seq (.block (.seq (.ops (opsF_all (by simp [hL']; rfl) ?_))))
    refine AWc.forget (T0 := (7, S1) :: cuT g (slB f' m' 1 ([] : List Int).length) (.sl L 0 1 2 full) 2 0) (by simp [cuT]) ?_
    refine cutsIn g tf htf _ S1 2 0 a ha n H h1 f' m' [] (by simp) n' H' hn' hG fun T2 n2 H2 f2 m2 hn2 hG2 hT2 => ?_
    refine AWc.forget hT2 ?_
    refine .ops (opsF_all (by simp [cuT]; rfl) ?_)
    exact ⟨1, ⟨cuT g (slB f2 m2 1 (cutL tf a).length) (.sl L 0 1 2 full) 2 1, [], n2, H2⟩, by omega, ⟨n2, H2, f2, m2, cutL tf a, hn2, hG2, .inr (.inl ⟨rfl, rfl, rfl⟩)⟩, St.less_F (by simp) (by simp [cuT]; decide)⟩
  · refine .seq (.ops (opsF_all (by simp [cuT]; rfl) ?_))
    refine .seq (.cond (t := true) (by simp) (.skip ?_))
    refine .seq (.block (.seq (.ops (opsF_all (by simp [hL']; rfl) ?_))))
    refine AWc.forget (T0 := (7, S2) :: cuT g (slB f' m' 1 (cutL tf a).length) (.sl L 0 1 2 full) 2 1) (by simp [cuT]) ?_
    refine cutsIn g tf htf _ S2 2 1 b hb n H h2 f' m' (cutL tf a) (by omega) n' H' hn' hG fun T2 n2 H2 f2 m2 hn2 hG2 hT2 => ?_
    refine AWc.forget hT2 ?_
    refine .ops (opsF_all (by simp [cuT]; rfl) ?_)
    rw [← cutL_append] at hG2
    exact ⟨0, ⟨cuT g (slB f2 m2 1 (cutL tf (a ++ b)).length) (.sl L 0 1 2 full) 2 2, [], n2, H2⟩, by omega, ⟨n2, H2, f2, m2, cutL tf (a ++ b), hn2, hG2, .inr (.inr ⟨rfl, rfl, rfl⟩)⟩, St.less_F (by simp) (by simp [cuT, cutL_append]; decide)⟩
  · refine .seq (.ops (opsF_all (by simp [cuT]; rfl) ?_))
    refine .seq (.cond (t := false) (by simp) (.exit ?_))
    refine AWc.forget (T0 := [(5, slB f' m' 1 cur.length)]) (by simp) ?_
    have hcl : cur.length = 2 * (a.length + b.length) := by rw [hcur, cutL_len]; simp
    cases f' with
    | false =>
      have hc0 := hG.off rfl
      have hab : (a ++ b).isEmpty = true := by
        rw [hc0, List.length_nil] at hcl
        have h0 : (a ++ b).length = 0 := by rw [List.length_append]; omega
        rw [List.eq_nil_of_length_eq_zero h0]; rfl
      refine AWc.seq (.ops (opsF_run 1 (by simp; rfl) ?_))
      refine opsF_cons_callX rfl rfl rfl (by simpa [slB] using sort66n n' H') ?_
      refine opsF_nil ?_
      refine AWc.seq (.ops (opsF_run 1 (by simp; rfl) ?_))
      refine opsF_cons_callX rfl rfl rfl (by simpa [slB] using compact67n n' H') ?_
      refine opsF_all (by simp; rfl) ?_
      refine .ret ⟨.inr rfl, rfl, _, rfl, fun b k _ hb => (hG.keep b k hb).1, .inl ⟨by rw [hab]; rfl, rfl⟩⟩
    | true =>
      obtain ⟨hc0, hm1, hm2⟩ := hG.on rfl
      have hab : (a ++ b).isEmpty = false := by
        cases hh : (a ++ b).isEmpty with
        | false => rfl
        | true =>
          rw [List.isEmpty_iff] at hh
          rw [hh] at hcur
          exact absurd hcur hc0
      have hs1 := sort66 m' false [] cur (by omega) n' H' (by simpa using hm2)
      rw [if_neg hc0] at hs1
      have hs0 : sortI cur ≠ [] := fun h => by have := sortI_len cur; rw [h] at this; exact hc0 (List.eq_nil_of_length_eq_zero this.symm)
      have hs2 := compact67 m' false [] (sortI cur) (by rw [sortI_len]; omega) n' (aput H' m' (.row true (ints (sortI cur) ++ []))) (by rw [aget_put, if_pos rfl])
      rw [if_neg hs0, sortI_len] at hs2
      refine AWc.seq (.ops (opsF_run 1 (by simp; rfl) ?_))
      refine opsF_cons_callX rfl rfl rfl (by simpa [slB] using hs1) ?_
      refine opsF_nil ?_
      refine AWc.seq (.ops (opsF_run 1 (by simp; rfl) ?_))
      refine opsF_cons_callX rfl rfl rfl (by simpa [slB] using hs2) ?_
      refine opsF_all (by simp; rfl) ?_
      refine .ret ⟨.inr rfl, rfl, _, rfl, fun b k _ hb => ?_, .inr ⟨by rw [hab]; rfl, m', _, List.replicate (cur.length - (Go.Lib.compact (sortI cur)).length) (.i .i64 0), by rw [cutS, ← hcur]; rfl, hm1, ?_⟩⟩
      · obtain ⟨k1, k2⟩ := hG.keep b k hb
        have : m' ≠ b := by omega
        simp [aget_put, this, k1]
      · simp [aget_put, cutS, ← hcur]
end Go.Proofs.Ytpgelghkjiejlaa
end
section
set_option maxRecDepth 4000
namespace Go.Proofs.Ytpgelghkjiejlaa
open Go
attribute [local irreducible] opsF drawF drawP
def tellY (r : Rc) : Int × Int := (r.y, r.h)
def tellX (r : Rc) : Int × Int := (r.x, r.w)
def hdB (x : Int) : List Rc → Bool
  | [] => false
  | r :: _ => decide (r.x ≤ x)
structure JS where
  a : List Rc
  b : List Rc
  out : List Rc
def colStep (kf : Bool → Bool → Bool) (y h x x2 : Int) (s : JS) : JS :=
  ⟨pastL endX x s.a, pastL endX x s.b, if kf (hdB x (pastL endX x s.a)) (hdB x (pastL endX x s.b)) then s.out ++ [⟨x, y, w64 (x2 - x), h⟩] else s.out⟩
def colRun (kf : Bool → Bool → Bool) (y h : Int) : List Int → JS → JS
  | x :: x2 :: xs, s => colRun kf y h (x2 :: xs) (colStep kf y h x x2 s)
  | _, s => s
def rowStep (kf : Bool → Bool → Bool) (y y2 : Int) (s : JS) : JS :=
  ⟨pastL endY y s.a, pastL endY y s.b, (colRun kf y (w64 (y2 - y)) (cutS tellX ((pastL endY y s.a).take (rowK y (pastL endY y s.a)) ++ (pastL endY y s.b).take (rowK y (pastL endY y s.b))))
    ⟨(pastL endY y s.a).take (rowK y (pastL endY y s.a)), (pastL endY y s.b).take (rowK y (pastL endY y s.b)), s.out⟩).out⟩
def rowRun (kf : Bool → Bool → Bool) : List Int → JS → JS
  | y :: y2 :: ys, s => rowRun kf (y2 :: ys) (rowStep kf y y2 s)
  | _, s => s
def joinC (kf : Bool → Bool → Bool) (a b : List Rc) : List Rc := (rowRun kf (cutS tellY (a ++ b)) ⟨a, b, []⟩).out
def joinL (kf : Bool → Bool → Bool) (a b : List Rc) : List Rc := ofL (joinC kf a b)
theorem colRun_out (kf : Bool → Bool → Bool) (y h : Int) : ∀ (xs : List Int) (s : JS), s.out.length ≤ (colRun kf y h xs s).out.length
  | x :: x2 :: xs, s => by
    have h1 := colRun_out kf y h (x2 :: xs) (colStep kf y h x x2 s)
    have h2 : s.out.length ≤ (colStep kf y h x x2 s).out.length := by unfold colStep; dsimp only; split <;> simp
    exact Nat.le_trans h2 h1
  | [_], s => Nat.le_refl _
  | [], s => Nat.le_refl _
theorem rowRun_out (kf : Bool → Bool → Bool) : ∀ (ys : List Int) (s : JS), s.out.length ≤ (rowRun kf ys s).out.length
  | y :: y2 :: ys, s => by
    have h1 := rowRun_out kf (y2 :: ys) (rowStep kf y y2 s)
    have h2 : s.out.length ≤ (rowStep kf y y2 s).out.length := by
      have hh : ∀ xs a b, s.out.length ≤ (colRun kf y (w64 (y2 - y)) xs ⟨a, b, s.out⟩).out.length := fun xs a b => colRun_out kf y (w64 (y2 - y)) xs ⟨a, b, s.out⟩
      exact hh _ _ _
    exact Nat.le_trans h2 h1
  | [_], s => Nat.le_refl _
  | [], s => Nat.le_refl _
/-- A slice of rectangles, or of numbers, in blocks that are kept. -/
def SlK (KP : Nat → Blk → Prop) (S : V) (l : List Rc) : Prop := ∀ H : Heap, (∀ b k, KP b k → aget H b = some k) → SlR H S l
def SlI (KP : Nat → Blk → Prop) (S : V) (l : List Int) : Prop := (S = .nils ∧ l = []) ∨ ∃ m full o post, S = .sl m 0 1 l.length full ∧ KP m (.row o (ints l ++ post))
theorem SlI.len {KP : Nat → Blk → Prop} {S : V} {l : List Int} (h : SlI KP S l) : evLen false S = some (.i .i64 l.length) := by
  rcases h with ⟨rfl, rfl⟩ | ⟨m, full, o, post, rfl, _⟩ <;> rfl
structure JI (KP : Nat → Blk → Prop) (H : Heap) (c1 : Nat) (S1 : V) (l1 : List Rc) (c2 : Nat) (S2 : V) (l2 : List Rc) (fo : Bool) (mo : Nat) (out : List Rc) : Prop where
  keep : ∀ b k, KP b k → aget H b = some k ∧ b ≠ c1 ∧ b ≠ c2 ∧ (fo = true → b ≠ mo)
  g1 : aget H c1 = some (.row true [S1])
  g2 : aget H c2 = some (.row true [S2])
  s1 : SlK KP S1 l1
  s2 : SlK KP S2 l2
  ne : c1 ≠ c2
  off : fo = false → out = []
  on : fo = true → mo ≠ c1 ∧ mo ≠ c2 ∧ aget H mo = some (.row true (rcs out))
def jT (c3 rc : Nat) (SY : V) (c10 c11 : Nat) (So : V) (i : Nat) (y h : Int) (c16 c17 : Nat) (SX : V) (j : Nat) : Temps := [(3, .p c3 0), (6, .p rc 0), (9, SY), (10, .p c10 0), (11, .p c11 0), (12, So), (13, .i .i64 i), (14, .i .i64 y), (15, .i .i64 h), (16, .p c16 0), (17, .p c17 0), (18, SX), (19, .i .i64 j)]
def jX : ACode := (.ops (some [0, 0, 3, 7, 0, 0, 32, 112, 240, 0, 0, 1536, 3584, 8176, 15, 32767]) [⟨(some 70), (.mv (.t 18)), none⟩,
              ⟨(some 71), (.mv (.t 19)), none⟩,
              ⟨(some 72), (.ias 1 (.t 70) (.t 71)), none⟩,
              ⟨(some 73), (.ld false 1 (.t 72)), none⟩,
              ⟨(some 74), (.mv (.t 18)), none⟩,
              ⟨(some 75), (.mv (.t 19)), none⟩,
              ⟨(some 76), (.bin .add (.t 75) (.c (.i .i64 1))), none⟩,
              ⟨(some 77), (.ias 1 (.t 74) (.t 76)), none⟩,
              ⟨(some 78), (.ld false 1 (.t 77)), none⟩,
              ⟨(some 79), (.mv (.t 18)), none⟩,
              ⟨(some 80), (.mv (.t 19)), none⟩,
              ⟨(some 81), (.ias 1 (.t 79) (.t 80)), none⟩,
              ⟨(some 82), (.ld false 1 (.t 81)), none⟩,
              ⟨(some 83), (.bin .sub (.t 78) (.t 82)), none⟩,
              ⟨(some 20), (.mv (.t 73)), none⟩,
              ⟨(some 21), (.mv (.t 83)), none⟩])
theorem jX_ok {N : Nat} {Q : Exit → St → Prop} {yc : ACode} (c3 rc : Nat) (SY : V) (c10 c11 : Nat) (So : V) (i : Nat) (y h : Int) (c16 c17 m : Nat) (full o : Bool) (j : Nat) (xs : List Int) (pxs : List V) (hj : j + 1 < xs.length) (hxl : xs.length ≤ 1000000000) (n : Nat) (H : Heap) (hm : aget H m = some (.row o (ints xs ++ pxs)))
    (hQ : AWc Try.prog N none yc ⟨(20, .i .i64 (xs[j]'(by omega))) :: (21, .i .i64 (w64 (xs[j + 1] - xs[j]'(by omega)))) :: jT c3 rc SY c10 c11 So i y h c16 c17 (.sl m 0 1 xs.length full) j, [], n, H⟩ Q) :
    AWc Try.prog N none (.seq jX yc) ⟨jT c3 rc SY c10 c11 So i y h c16 c17 (.sl m 0 1 xs.length full) j, [], n, H⟩ Q := by
  refine .withIn fun hin => ?_
  have hmn : m < n := (hin m _ hm).1
  have g1 : (ints xs ++ pxs)[j]? = some (.i .i64 (xs[j]'(by omega))) := ints_get xs pxs j (by omega)
  have g2 : (ints xs ++ pxs)[j + 1]? = some (.i .i64 xs[j + 1]) := ints_get xs pxs (j + 1) hj
  generalize xs[j]'(by omega) = x1 at g1 hQ
  generalize xs[j + 1] = x2 at g2 hQ
  generalize ints xs ++ pxs = cs at g1 g2 hm
  have hi1 : (j : Int) < xs.length := by omega
  have hi2 : ((j + 1 : Nat) : Int) < xs.length := by omega
  have hi0 : (0 : Int) ≤ ((j + 1 : Nat) : Int) := by omega
  have hwi : IntKind.i64.wrap ((j : Int) + 1) = ((j + 1 : Nat) : Int) := IntWalk.i64_in _ (by omega)
  have htn : ((j + 1 : Nat) : Int).toNat = j + 1 := by omega
  generalize ((j + 1 : Nat) : Int) = i1 at hi2 hi0 hwi htn
  unfold jX
  refine .seq (.drawP (by rfl) ?_)
  refine drawP_run 4 (by rfl) (by simp [jT, hi1, hm, hmn, g1]; rfl) ?_
  refine drawP_run 5 (by rfl) (by simp [hwi, hi2, hi0, htn, hm, hmn, g2]; rfl) ?_
  refine drawP_run 4 (by rfl) (by simp [hi1, hm, hmn, g1]; rfl) ?_
  refine drawP_all (by rfl) (by simp; rfl) ?_
  exact AWc.forget (T0 := (20, .i .i64 x1) :: (21, .i .i64 (w64 (x2 - x1))) :: jT c3 rc SY c10 c11 So i y h c16 c17 (.sl m 0 1 xs.length full) j) (by simp [jT]) hQ
/-- What a walk's call needs of the heap. -/
theorem SlR.restr {H : Heap} {S : V} {l : List Rc} {c n : Nat} (hin : HIn n H) (hc : aget H c = some (.row true [S])) (hS : SlR (adel H c) S l) :
    aget (restr H (idOf S) [c]) c = some (.row true [S]) ∧ SlR (adel (restr H (idOf S) [c]) c) S l ∧ (∀ b ∈ idOf S, b < n ∧ b ≠ c) := by
  rcases hS with ⟨rfl, rfl⟩ | ⟨id, off, full, o, pre, post, rfl, hg, rfl⟩
  · exact ⟨by simp [Go.Proofs.Ytpgelghkjiejlaa.restr, hc], .inl ⟨rfl, rfl⟩, by simp⟩
  · obtain ⟨h1, h2⟩ := adel_get hg
    have h1' : ¬ c = id := fun e => h1 e.symm
    refine ⟨by simp [Go.Proofs.Ytpgelghkjiejlaa.restr, hc], .inr ⟨id, pre.length, full, false, pre, post, rfl, ?_, rfl⟩, ?_⟩
    · rw [aget_del, if_neg h1']
      simp [Go.Proofs.Ytpgelghkjiejlaa.restr, hc, h2, h1']
    · intro b hb
      simp at hb
      subst hb
      exact ⟨(hin _ _ h2).1, h1⟩
/-- The heap behind a walk's call. -/
def acrH (H : Heap) (S : V) (c : Nat) (k : Nat) : Heap := (c, .row true [dropV k S]) :: pickR H roOf (idOf S)
theorem acrH_put {H : Heap} {S : V} {c : Nat} (hc : aget H c = some (.row true [S])) (k : Nat) : aput (restr H (idOf S) [c]) c (.row true [dropV k S]) = acrH H S c k := by
  unfold acrH restr
  simp only [pickR, hc, _root_.id, List.cons_append, List.nil_append, aput, if_true]
theorem pickR_mem {H : Heap} {f : Option Blk → Option Blk} : ∀ {l : List Nat} {p : Nat × Blk}, p ∈ pickR H f l → p.1 ∈ l
  | [], p, h => by simp [pickR] at h
  | i :: l, p, h => by
    unfold pickR at h
    split at h
    · rcases List.mem_cons.1 h with rfl | h
      · simp
      · exact List.mem_cons_of_mem _ (pickR_mem h)
    · exact List.mem_cons_of_mem _ (pickR_mem h)
theorem acrH_get (H : Heap) (S : V) (c k n b : Nat) : aget (mergeH H [c] n n (acrH H S c k)) b = if c = b then some (.row true [dropV k S]) else aget H b := by
  rw [aget_mergeH, acrH]
  by_cases hb : c = b
  · subst hb; simp [touch, aget_cons]
  · have hb' : ¬ b = c := fun h => hb h.symm
    simp [touch, hb, hb']
    intro h1 h2; omega
theorem drawF_across {o : AOper} {os : List AOper} {T : Temps} {D : List Nat} {n : Nat} {H : Heap} {acc : List DStep} {K : List DStep → St → Prop} {a1 a2 : AX} {S : V} {l : List Rc} {c : Nat} {x : Int} (hg : guardOf T o.guard = some true) (ho : o.op = .call (.f 77) [a1, a2]) (h1 : a1.val T = .p c 0) (h2 : a2.val T = .i .i64 x)
    (hl : l.length ≤ 1000000000) (hin : HIn n H) (hc : aget H c = some (.row true [S])) (hS : SlR (adel H c) S l)
    (h : drawF Try.prog os ⟨putT T o.dst (.b (hdB x (pastL endX x l))), D, n, mergeH H [c] n n (acrH H S c (pastN endX x l))⟩ (acc ++ [⟨(AOp.call (.f 77) [a1, a2]).slots ++ gslots o.guard, o.dst, idOf S, [c], n, n, .b (hdB x (pastL endX x l)), acrH H S c (pastN endX x l)⟩]) K) :
    drawF Try.prog (o :: os) ⟨T, D, n, H⟩ acc K := by
  obtain ⟨r1, r2, r3⟩ := hS.restr hin hc
  have hcn := (hin _ _ hc).1
  have hcall := across_ok S l hl c x n _ r1 r2
  have hv : VIn n (dropV (pastN endX x l) S) := (hS.drop _ (pastN_le endX x l)).vin (fun b k hb => hin b k (adel_get hb).2)
  have hmem : ∀ p ∈ acrH H S c (pastN endX x l), touch [c] n n p.1 = true → p.2 = .row true [dropV (pastN endX x l) S] := by
    intro p hp ht
    have hpc : p.1 = c := by
      simp [touch] at ht
      rcases ht with h | h
      · exact h
      · omega
    rcases List.mem_cons.1 hp with rfl | hp
    · rfl
    · exact absurd hpc (r3 _ (pickR_mem hp)).2
  refine drawF_call (fr := idOf S) (fw := [c]) (v := .b (hdB x (pastL endX x l))) (n1 := n) (R := acrH H S c (pastN endX x l)) hg ho rfl ?_ ⟨Nat.le_refl _, ?_, ?_, ?_⟩ ⟨.b _, ?_⟩ h
  · show ACalls Try.prog 77 ([] ++ [a1.val T, a2.val T] ++ []) n _ _
    rw [h1, h2]
    refine ACalls.mono hcall ?_
    rintro v n' H' ⟨rfl, rfl, rfl⟩
    exact ⟨rfl, rfl, acrH_put hc _⟩
  · intro b hb
    rcases List.mem_append.1 hb with hb | hb
    · exact (r3 b hb).1
    · rw [List.mem_singleton.1 hb]; exact hcn
  · intro b hb
    rw [List.mem_singleton.1 hb]
    exact ⟨_, hc⟩
  · intro p hp ht
    rw [hmem p hp ht]; rfl
  · intro p hp ht
    rw [hmem p hp ht]
    intro z hz
    rw [List.mem_singleton.1 hz]
    exact hv
end Go.Proofs.Ytpgelghkjiejlaa
end
section
namespace Go.Proofs.Ytpgelghkjiejlaa
open Go
theorem pastL_law (e en : Rc → Int) (y : Int) : ∀ (l : List Rc), l.Pairwise (fun a b => en a ≤ en b) → (∀ r ∈ l, e r = en r) → ∀ r, r ∈ pastL e y l ↔ r ∈ l ∧ y < en r
  | [], _, _, r => by simp [pastL]
  | q :: l, hm, he, r => by
    have h1 := (List.pairwise_cons.1 hm).1
    have ih := pastL_law e en y l (List.pairwise_cons.1 hm).2 (fun p hp => he p (by simp [hp])) r
    have hq := he q (by simp)
    by_cases hy : e q ≤ y
    · have : pastL e y (q :: l) = pastL e y l := by
        show (q :: l).drop (pastN e y (q :: l)) = l.drop (pastN e y l)
        rw [show pastN e y (q :: l) = pastN e y l + 1 from if_pos hy]; rfl
      rw [this, ih, List.mem_cons]
      constructor
      · rintro ⟨a, b⟩; exact ⟨.inr a, b⟩
      · rintro ⟨rfl | a, b⟩
        · omega
        · exact ⟨a, b⟩
    · have : pastL e y (q :: l) = q :: l := by
        show (q :: l).drop (pastN e y (q :: l)) = q :: l
        rw [show pastN e y (q :: l) = 0 from if_neg hy]; rfl
      rw [this]
      constructor
      · intro h
        refine ⟨h, ?_⟩
        rcases List.mem_cons.1 h with rfl | h
        · omega
        · have := h1 r h; omega
      · exact fun h => h.1
theorem rowK_law (y : Int) : ∀ (l : List Rc), l.Pairwise (fun a b => a.y ≤ b.y) → ∀ r, r ∈ l.take (rowK y l) ↔ r ∈ l ∧ r.y ≤ y
  | [], _, r => by simp [rowK]
  | q :: l, hm, r => by
    have h1 := (List.pairwise_cons.1 hm).1
    have ih := rowK_law y l (List.pairwise_cons.1 hm).2 r
    by_cases hy : q.y ≤ y
    · have : rowK y (q :: l) = rowK y l + 1 := by unfold rowK; simp [hy]
      rw [this, List.take_succ_cons, List.mem_cons, ih, List.mem_cons]
      constructor
      · rintro (rfl | ⟨a, b⟩)
        · exact ⟨.inl rfl, hy⟩
        · exact ⟨.inr a, b⟩
      · rintro ⟨rfl | a, b⟩
        · exact .inl rfl
        · exact .inr ⟨a, b⟩
    · have : rowK y (q :: l) = 0 := by unfold rowK; simp [hy]
      rw [this]
      constructor
      · intro h; simp at h
      · rintro ⟨h, b⟩
        rcases List.mem_cons.1 h with rfl | h
        · exact absurd b hy
        · have := h1 r h; omega
/-- Has a row's stretch the column? -/
def colB (p : List Rc) (i : Int) : Bool := p.any fun r => decide (r.x ≤ i) && decide (i < r.x + r.w)
theorem colB_iff (p : List Rc) (i : Int) : colB p i = true ↔ ∃ r ∈ p, r.x ≤ i ∧ i < r.x + r.w := by simp [colB]
def covB (l : List Rc) (i j : Int) : Bool := l.any fun r => decide (r.x ≤ i) && (decide (i < r.x + r.w) && (decide (r.y ≤ j) && decide (j < r.y + r.h)))
theorem covB_iff (l : List Rc) (i j : Int) : covB l i j = true ↔ Cov l i j := by simp [covB, Cov, inR]
theorem colB_congr {p : List Rc} {i k : Int} (h : ∀ r ∈ p, (r.x ≤ i ↔ r.x ≤ k) ∧ (i < r.x + r.w ↔ k < r.x + r.w)) : colB p i = colB p k := by
  rw [Bool.eq_iff_iff, colB_iff, colB_iff]
  constructor
  · rintro ⟨r, hr, a, b⟩; exact ⟨r, hr, (h r hr).1.1 a, (h r hr).2.1 b⟩
  · rintro ⟨r, hr, a, b⟩; exact ⟨r, hr, (h r hr).1.2 a, (h r hr).2.2 b⟩
/-- A row's stretches: from the left, with room between. -/
structure RowR (p : List Rc) : Prop where
  ok : ∀ r ∈ p, OkRc r
  sep : p.Pairwise (fun a b => a.x + a.w < b.x)
theorem RowR.ends {p : List Rc} (h : RowR p) : p.Pairwise (fun a b => a.x + a.w ≤ b.x + b.w) :=
  List.Pairwise.imp_of_mem (fun {a b} ha hb hab => by have := h.ok b hb; unfold OkRc at this; omega) h.sep
theorem endX_eq {r : Rc} (h : OkRc r) : endX r = r.x + r.w := by unfold OkRc at h; exact IntWalk.i64_in _ (by omega)
theorem endY_eq {r : Rc} (h : OkRc r) : endY r = r.y + r.h := by unfold OkRc at h; exact IntWalk.i64_in _ (by omega)
theorem RowR.drop {p : List Rc} (h : RowR p) (k : Nat) : RowR (p.drop k) := ⟨fun r hr => h.ok r (List.mem_of_mem_drop hr), h.sep.sublist (List.drop_sublist _ _)⟩
theorem RowR.hd {p : List Rc} (h : RowR p) (x : Int) (hx : ∀ r ∈ p, x < r.x + r.w) : hdB x p = true ↔ ∃ r ∈ p, r.x ≤ x ∧ x < r.x + r.w := by
  cases p with
  | nil => simp [hdB]
  | cons q p =>
    have hs := (List.pairwise_cons.1 h.sep).1
    have hq := h.ok q (by simp)
    unfold OkRc at hq
    simp only [hdB, decide_eq_true_eq]
    constructor
    · intro hh; exact ⟨q, by simp, hh, hx q (by simp)⟩
    · rintro ⟨r, hr, hh, _⟩
      rcases List.mem_cons.1 hr with rfl | hr
      · exact hh
      · have := hs r hr; omega
/-- What is left of a row at a column. -/
structure Left (p a : List Rc) (x : Int) : Prop where
  row : RowR a
  sub : ∀ r ∈ a, r ∈ p
  all : ∀ r ∈ p, x < r.x + r.w → r ∈ a
theorem Left.step {p a : List Rc} {x x2 : Int} (h : Left p a x) (hx : x ≤ x2) : Left p (pastL endX x a) x2 ∧ hdB x (pastL endX x a) = colB p x := by
  have hm := pastL_law endX (fun r => r.x + r.w) x a h.row.ends (fun r hr => endX_eq (h.row.ok r hr))
  have hr : RowR (pastL endX x a) := h.row.drop _
  refine ⟨⟨hr, fun r hr => h.sub r ((hm r).1 hr).1, fun r hr hlt => (hm r).2 ⟨h.all r hr (by omega), by omega⟩⟩, ?_⟩
  rw [Bool.eq_iff_iff, hr.hd x (fun r hr => ((hm r).1 hr).2), colB_iff]
  constructor
  · rintro ⟨r, hr, q⟩; exact ⟨r, h.sub r ((hm r).1 hr).1, q⟩
  · rintro ⟨r, hr, q⟩; exact ⟨r, (hm r).2 ⟨h.all r hr q.2, q.2⟩, q⟩
theorem colRun_law (kf : Bool → Bool → Bool) (hkf : kf false false = false) (y h : Int) (hy : -1048576 ≤ y ∧ 0 < h ∧ y + h ≤ 1048576) (p q : List Rc) : ∀ (xs : List Int) (x : Int) (s : JS), (x :: xs).Pairwise (· < ·) → (∀ v ∈ x :: xs, -1048576 ≤ v ∧ v ≤ 1048576) →
    (∀ r, r ∈ p ∨ r ∈ q → (r.x ≤ x ∨ r.x ∈ xs) ∧ (r.x + r.w ≤ x ∨ r.x + r.w ∈ xs)) → Left p s.a x → Left q s.b x →
    ∃ E, (colRun kf y h (x :: xs) s).out = s.out ++ E ∧ (∀ r ∈ E, OkRc r ∧ r.y = y ∧ r.h = h ∧ x ≤ r.x) ∧ E.Pairwise (fun a b => a.x < b.x) ∧ ∀ i j, Cov E i j ↔ (y ≤ j ∧ j < y + h) ∧ x ≤ i ∧ kf (colB p i) (colB q i) = true
  | [], x, s, _, _, h3, _, _ => by
    refine ⟨[], by simp [colRun], by simp, by simp, fun i j => ?_⟩
    constructor
    · rintro ⟨r, hr, _⟩; simp at hr
    · rintro ⟨_, hi, hk⟩
      have hno : ∀ l : List Rc, (∀ r ∈ l, r.x + r.w ≤ x) → colB l i = false := fun l hl => by
        rw [Bool.eq_false_iff]
        intro hh
        obtain ⟨r, hr, a, b⟩ := (colB_iff _ _).1 hh
        have := hl r hr
        omega
      rw [hno p (fun r hr => by simpa using (h3 r (.inl hr)).2), hno q (fun r hr => by simpa using (h3 r (.inr hr)).2), hkf] at hk
      cases hk
  | x2 :: xs, x, s, h1, h2, h3, ha, hb => by
    have hp := List.pairwise_cons.1 h1
    have hp2 := List.pairwise_cons.1 hp.2
    have hx := hp.1 x2 (by simp)
    have key : ∀ v : Int, (v ≤ x ∨ v ∈ x2 :: xs) → v ≤ x ∨ x2 ≤ v := fun v hv => by
      rcases hv with hv | hv
      · exact .inl hv
      · rcases List.mem_cons.1 hv with rfl | hv
        · exact .inr (Int.le_refl _)
        · exact .inr (by have := hp2.1 v hv; omega)
    have key2 : ∀ v : Int, (v ≤ x ∨ v ∈ x2 :: xs) → v ≤ x2 ∨ v ∈ xs := fun v hv => by
      rcases hv with hv | hv
      · exact .inl (by omega)
      · rcases List.mem_cons.1 hv with rfl | hv
        · exact .inl (Int.le_refl _)
        · exact .inr hv
    obtain ⟨a1, a2⟩ := ha.step (x2 := x2) (by omega)
    obtain ⟨b1, b2⟩ := hb.step (x2 := x2) (by omega)
    have hb1 := h2 x (by simp)
    have hb2 := h2 x2 (by simp)
    have hw : w64 (x2 - x) = x2 - x := IntWalk.i64_in _ (by omega)
    have hcs : colStep kf y h x x2 s = ⟨pastL endX x s.a, pastL endX x s.b, if kf (colB p x) (colB q x) then s.out ++ [⟨x, y, x2 - x, h⟩] else s.out⟩ := by unfold colStep; rw [a2, b2, hw]
    obtain ⟨E, e1, e2, e3, e4⟩ := colRun_law kf hkf y h hy p q xs x2 (colStep kf y h x x2 s) hp.2 (fun v hv => h2 v (by simp [List.mem_cons.1 hv])) (fun r hr => ⟨key2 _ (h3 r hr).1, key2 _ (h3 r hr).2⟩) (by rw [hcs]; exact a1) (by rw [hcs]; exact b1)
    have hsame : ∀ i, x ≤ i → i < x2 → colB p i = colB p x ∧ colB q i = colB q x := fun i hi1 hi2 => by
      constructor
      · refine colB_congr fun r hr => ?_
        have h5 := h3 r (.inl hr)
        have := key _ h5.1
        have := key _ h5.2
        omega
      · refine colB_congr fun r hr => ?_
        have h5 := h3 r (.inr hr)
        have := key _ h5.1
        have := key _ h5.2
        omega
    have hrun : (colRun kf y h (x :: x2 :: xs) s).out = (colStep kf y h x x2 s).out ++ E := e1
    by_cases hk : kf (colB p x) (colB q x) = true
    · have hso : (colStep kf y h x x2 s).out = s.out ++ [⟨x, y, x2 - x, h⟩] := by rw [hcs]; simp only; rw [if_pos hk]
      refine ⟨⟨x, y, x2 - x, h⟩ :: E, by rw [hrun, hso]; simp, fun r hr => ?_, List.pairwise_cons.2 ⟨fun r hr => by have := (e2 r hr).2.2.2; dsimp only; omega, e3⟩, fun i j => ?_⟩
      · rcases List.mem_cons.1 hr with rfl | hr
        · exact ⟨⟨by dsimp only; omega, by dsimp only; omega, by dsimp only; omega, hy.1, hy.2.1, hy.2.2⟩, rfl, rfl, Int.le_refl _⟩
        · obtain ⟨q1, q2, q3, q4⟩ := e2 r hr
          exact ⟨q1, q2, q3, by omega⟩
      · rw [Cov_cons, e4]
        unfold inR
        dsimp only
        by_cases hi : x ≤ i ∧ i < x2
        · rw [(hsame i hi.1 hi.2).1, (hsame i hi.1 hi.2).2, hk]
          simp only [and_true]
          omega
        · by_cases hi2 : x2 ≤ i
          · constructor
            · rintro (hh | hh)
              · omega
              · exact ⟨hh.1, by omega, hh.2.2⟩
            · rintro ⟨h5, h6, h7⟩
              exact .inr ⟨h5, hi2, h7⟩
          · constructor
            · rintro (hh | hh) <;> omega
            · rintro ⟨h5, h6, h7⟩; omega
    · have hso : (colStep kf y h x x2 s).out = s.out := by rw [hcs]; simp only; rw [if_neg hk]
      refine ⟨E, by rw [hrun, hso], fun r hr => ?_, e3, fun i j => ?_⟩
      · obtain ⟨q1, q2, q3, q4⟩ := e2 r hr
        exact ⟨q1, q2, q3, by omega⟩
      · rw [e4]
        constructor
        · rintro ⟨h5, h6, h7⟩; exact ⟨h5, by omega, h7⟩
        · rintro ⟨h5, h6, h7⟩
          refine ⟨h5, ?_, h7⟩
          rcases Int.lt_or_le i x2 with hlt | hge
          · rw [(hsame i h6 hlt).1, (hsame i h6 hlt).2] at h7; exact absurd h7 hk
          · exact hge
end Go.Proofs.Ytpgelghkjiejlaa
end
