/- The plain law of regions taken together: rows. How many rectangles a region may have; its area is how many places it has. Regions taken together: the columns of a row. Regions taken together: the rows. Regions taken together: join, Meet, Within of package region. Regions taken together: join, Meet, Within of package region. -/
import Derived.Test.YtpgelghkjiejlaaGap
set_option linter.unusedVariables false
set_option linter.unusedSimpArgs false
section
namespace Go.Proofs.Ytpgelghkjiejlaa
open Go
theorem Reg.ends {l : List Rc} (h : Reg l) : l.Pairwise (fun a b => a.y + a.h ≤ b.y + b.h) :=
  List.Pairwise.imp_of_mem (fun {a b} ha hb hab => by have := h.ok b hb; unfold OkRc at this; unfold Rel at hab; omega) h.rel
theorem Reg.tops {l : List Rc} (h : Reg l) : l.Pairwise (fun a b => a.y ≤ b.y) :=
  List.Pairwise.imp_of_mem (fun {a b} ha hb hab => by have := h.ok a ha; unfold OkRc at this; unfold Rel at hab; omega) h.rel
theorem Reg.sub {l m : List Rc} (h : Reg l) (hs : m.Sublist l) : Reg m := ⟨fun r hr => h.ok r (hs.subset hr), h.rel.sublist hs⟩
structure LeftY (A a : List Rc) (y : Int) : Prop where
  reg : Reg a
  sub : ∀ r ∈ a, r ∈ A
  all : ∀ r ∈ A, y < r.y + r.h → r ∈ a
/-- The rectangles that cross a row. -/
def crossL (y : Int) (a : List Rc) : List Rc := (pastL endY y a).take (rowK y (pastL endY y a))
theorem LeftY.step {A a : List Rc} {y y2 : Int} (h : LeftY A a y) (hy : y ≤ y2) : LeftY A (pastL endY y a) y2 ∧ RowR (crossL y a) ∧ ∀ r, r ∈ crossL y a ↔ r ∈ A ∧ r.y ≤ y ∧ y < r.y + r.h := by
  have hm := pastL_law endY (fun r => r.y + r.h) y a h.reg.ends (fun r hr => endY_eq (h.reg.ok r hr))
  have hr : Reg (pastL endY y a) := h.reg.sub (List.drop_sublist _ _)
  have hk := rowK_law y (pastL endY y a) hr.tops
  have hmem : ∀ r, r ∈ crossL y a ↔ r ∈ A ∧ r.y ≤ y ∧ y < r.y + r.h := fun r => by
    unfold crossL
    rw [hk, hm]
    constructor
    · rintro ⟨⟨a1, a2⟩, a3⟩; exact ⟨h.sub r a1, a3, a2⟩
    · rintro ⟨a1, a2, a3⟩; exact ⟨⟨h.all r a1 a3, a3⟩, a2⟩
  have hc : Reg (crossL y a) := hr.sub (List.take_sublist _ _)
  refine ⟨⟨hr, fun r hr => h.sub r ((hm r).1 hr).1, fun r hr hlt => (hm r).2 ⟨h.all r hr (by omega), by omega⟩⟩, ⟨hc.ok, List.Pairwise.imp_of_mem (fun {p q} hp hq hpq => ?_) hc.rel⟩, hmem⟩
  have h1 := (hmem p).1 hp
  have h2 := (hmem q).1 hq
  unfold Rel at hpq
  omega
theorem cutX_law (l : List Rc) (hl : ∀ r ∈ l, OkRc r) : (cutS tellX l).Pairwise (· < ·) ∧ (∀ v ∈ cutS tellX l, ∃ r ∈ l, v = r.x ∨ v = r.x + r.w) ∧ ∀ r ∈ l, r.x ∈ cutS tellX l ∧ r.x + r.w ∈ cutS tellX l := by
  obtain ⟨e1, e2⟩ := sorted_once (cutL tellX l)
  have hm : ∀ v, v ∈ cutL tellX l ↔ ∃ r ∈ l, v = r.x ∨ v = r.x + r.w := fun v => by
    unfold cutL
    rw [List.mem_flatMap]
    constructor
    · rintro ⟨r, hr, hv⟩
      have := endX_eq (hl r hr)
      unfold endX at this
      simp only [tellX, List.mem_cons, List.not_mem_nil, or_false] at hv
      rw [this] at hv
      exact ⟨r, hr, hv⟩
    · rintro ⟨r, hr, hv⟩
      have := endX_eq (hl r hr)
      unfold endX at this
      refine ⟨r, hr, ?_⟩
      simp only [tellX, List.mem_cons, List.not_mem_nil, or_false]
      rw [this]
      exact hv
  exact ⟨e1, fun v hv => (hm v).1 ((e2 v).1 hv), fun r hr => ⟨(e2 _).2 ((hm _).2 ⟨r, hr, .inl rfl⟩), (e2 _).2 ((hm _).2 ⟨r, hr, .inr rfl⟩)⟩⟩
theorem cutY_law (l : List Rc) (hl : ∀ r ∈ l, OkRc r) : (cutS tellY l).Pairwise (· < ·) ∧ (∀ v ∈ cutS tellY l, ∃ r ∈ l, v = r.y ∨ v = r.y + r.h) ∧ ∀ r ∈ l, r.y ∈ cutS tellY l ∧ r.y + r.h ∈ cutS tellY l := by
  obtain ⟨e1, e2⟩ := sorted_once (cutL tellY l)
  have hm : ∀ v, v ∈ cutL tellY l ↔ ∃ r ∈ l, v = r.y ∨ v = r.y + r.h := fun v => by
    unfold cutL
    rw [List.mem_flatMap]
    constructor
    · rintro ⟨r, hr, hv⟩
      have := endY_eq (hl r hr)
      unfold endY at this
      simp only [tellY, List.mem_cons, List.not_mem_nil, or_false] at hv
      rw [this] at hv
      exact ⟨r, hr, hv⟩
    · rintro ⟨r, hr, hv⟩
      have := endY_eq (hl r hr)
      unfold endY at this
      refine ⟨r, hr, ?_⟩
      simp only [tellY, List.mem_cons, List.not_mem_nil, or_false]
      rw [this]
      exact hv
  exact ⟨e1, fun v hv => (hm v).1 ((e2 v).1 hv), fun r hr => ⟨(e2 _).2 ((hm _).2 ⟨r, hr, .inl rfl⟩), (e2 _).2 ((hm _).2 ⟨r, hr, .inr rfl⟩)⟩⟩
theorem cols_law (kf : Bool → Bool → Bool) (hkf : kf false false = false) (y h : Int) (hy : -1048576 ≤ y ∧ 0 < h ∧ y + h ≤ 1048576) (p q : List Rc) (hp : RowR p) (hq : RowR q) (out : List Rc) :
    ∃ E, (colRun kf y h (cutS tellX (p ++ q)) ⟨p, q, out⟩).out = out ++ E ∧ (∀ r ∈ E, OkRc r ∧ r.y = y ∧ r.h = h) ∧ E.Pairwise (fun a b => a.x < b.x) ∧ ∀ i j, Cov E i j ↔ (y ≤ j ∧ j < y + h) ∧ kf (colB p i) (colB q i) = true := by
  obtain ⟨c1, c2, c3⟩ := cutX_law (p ++ q) (fun r hr => by rcases List.mem_append.1 hr with h | h; exact hp.ok r h; exact hq.ok r h)
  generalize cutS tellX (p ++ q) = xs at c1 c2 c3
  have hno : ∀ i, (∀ r, r ∈ p ∨ r ∈ q → ¬ (r.x ≤ i ∧ i < r.x + r.w)) → kf (colB p i) (colB q i) = false := fun i hi => by
    have e1 : colB p i = false := by
      rw [Bool.eq_false_iff]; intro hh
      obtain ⟨r, hr, a⟩ := (colB_iff _ _).1 hh
      exact hi r (.inl hr) a
    have e2 : colB q i = false := by
      rw [Bool.eq_false_iff]; intro hh
      obtain ⟨r, hr, a⟩ := (colB_iff _ _).1 hh
      exact hi r (.inr hr) a
    rw [e1, e2, hkf]
  cases xs with
  | nil =>
    refine ⟨[], by simp [colRun], by simp, by simp, fun i j => ?_⟩
    constructor
    · rintro ⟨r, hr, _⟩; simp at hr
    · rintro ⟨_, hk⟩
      rw [hno i (fun r hr => by have := (c3 r (by simpa using hr)).1; simp at this)] at hk
      cases hk
  | cons x xs =>
    have hle : ∀ v ∈ x :: xs, x ≤ v := fun v hv => by
      rcases List.mem_cons.1 hv with rfl | hv
      · exact Int.le_refl _
      · have := (List.pairwise_cons.1 c1).1 v hv; omega
    have hmm : ∀ v : Int, v ∈ x :: xs → v ≤ x ∨ v ∈ xs := fun v hv => by
      rcases List.mem_cons.1 hv with rfl | hv
      · exact .inl (Int.le_refl _)
      · exact .inr hv
    obtain ⟨E, e1, e2, e3, e4⟩ := colRun_law kf hkf y h hy p q xs x ⟨p, q, out⟩ c1 (fun v hv => by
        obtain ⟨r, hr, h1⟩ := c2 v hv
        have hok : OkRc r := by rcases List.mem_append.1 hr with h | h; exact hp.ok r h; exact hq.ok r h
        unfold OkRc at hok
        omega) (fun r hr => ⟨hmm _ (c3 r (by simpa using hr)).1, hmm _ (c3 r (by simpa using hr)).2⟩) ⟨hp, fun _ h => h, fun _ h _ => h⟩ ⟨hq, fun _ h => h, fun _ h _ => h⟩
    refine ⟨E, e1, fun r hr => ⟨(e2 r hr).1, (e2 r hr).2.1, (e2 r hr).2.2.1⟩, e3, fun i j => ?_⟩
    rw [e4]
    constructor
    · rintro ⟨a, _, b⟩; exact ⟨a, b⟩
    · rintro ⟨a, b⟩
      refine ⟨a, ?_, b⟩
      rcases Int.lt_or_le i x with hlt | hge
      · rw [hno i (fun r hr => by have := hle _ (c3 r (by simpa using hr)).1; omega)] at b; cases b
      · exact hge
def Lex (a b : Rc) : Prop := a.y < b.y ∨ (a.y = b.y ∧ a.x < b.x)
theorem covB_col {A p : List Rc} {y : Int} (hp : ∀ r, r ∈ p ↔ r ∈ A ∧ r.y ≤ y ∧ y < r.y + r.h) (i j : Int) (h : ∀ r ∈ A, (r.y ≤ j ∧ j < r.y + r.h) ↔ (r.y ≤ y ∧ y < r.y + r.h)) : covB A i j = colB p i := by
  rw [Bool.eq_iff_iff, covB_iff, colB_iff]
  constructor
  · rintro ⟨r, hr, hh⟩
    unfold inR at hh
    exact ⟨r, (hp r).2 ⟨hr, (h r hr).1 ⟨hh.2.2.1, hh.2.2.2⟩⟩, hh.1, hh.2.1⟩
  · rintro ⟨r, hr, a, b⟩
    obtain ⟨q1, q2⟩ := (hp r).1 hr
    have := (h r q1).2 q2
    exact ⟨r, q1, a, b, this.1, this.2⟩
theorem rowRun_law (kf : Bool → Bool → Bool) (hkf : kf false false = false) (A B : List Rc) : ∀ (ys : List Int) (y : Int) (s : JS), (y :: ys).Pairwise (· < ·) → (∀ v ∈ y :: ys, -1048576 ≤ v ∧ v ≤ 1048576) →
    (∀ r, r ∈ A ∨ r ∈ B → (r.y ≤ y ∨ r.y ∈ ys) ∧ (r.y + r.h ≤ y ∨ r.y + r.h ∈ ys)) → LeftY A s.a y → LeftY B s.b y →
    ∃ E, (rowRun kf (y :: ys) s).out = s.out ++ E ∧ (∀ r ∈ E, OkRc r ∧ y ≤ r.y) ∧ E.Pairwise Lex ∧ ∀ i j, Cov E i j ↔ y ≤ j ∧ kf (covB A i j) (covB B i j) = true
  | [], y, s, _, _, h3, _, _ => by
    refine ⟨[], by simp [rowRun], by simp, by simp, fun i j => ?_⟩
    constructor
    · rintro ⟨r, hr, _⟩; simp at hr
    · rintro ⟨hj, hk⟩
      have hno : ∀ l : List Rc, (∀ r ∈ l, r.y + r.h ≤ y) → covB l i j = false := fun l hl => by
        rw [Bool.eq_false_iff]
        intro hh
        obtain ⟨r, hr, a⟩ := (covB_iff _ _ _).1 hh
        have := hl r hr
        unfold inR at a
        omega
      rw [hno A (fun r hr => by simpa using (h3 r (.inl hr)).2), hno B (fun r hr => by simpa using (h3 r (.inr hr)).2), hkf] at hk
      cases hk
  | y2 :: ys, y, s, h1, h2, h3, ha, hb => by
    have hp := List.pairwise_cons.1 h1
    have hp2 := List.pairwise_cons.1 hp.2
    have hy := hp.1 y2 (by simp)
    have key : ∀ v : Int, (v ≤ y ∨ v ∈ y2 :: ys) → v ≤ y ∨ y2 ≤ v := fun v hv => by
      rcases hv with hv | hv
      · exact .inl hv
      · rcases List.mem_cons.1 hv with rfl | hv
        · exact .inr (Int.le_refl _)
        · exact .inr (by have := hp2.1 v hv; omega)
    have key2 : ∀ v : Int, (v ≤ y ∨ v ∈ y2 :: ys) → v ≤ y2 ∨ v ∈ ys := fun v hv => by
      rcases hv with hv | hv
      · exact .inl (by omega)
      · rcases List.mem_cons.1 hv with rfl | hv
        · exact .inl (Int.le_refl _)
        · exact .inr hv
    have hb1 := h2 y (by simp)
    have hb2 := h2 y2 (by simp)
    have hw : w64 (y2 - y) = y2 - y := IntWalk.i64_in _ (by omega)
    obtain ⟨a1, a2, a3⟩ := ha.step (y2 := y2) (by omega)
    obtain ⟨b1, b2, b3⟩ := hb.step (y2 := y2) (by omega)
    obtain ⟨E1, c1, c2, c3, c4⟩ := cols_law kf hkf y (y2 - y) (by omega) (crossL y s.a) (crossL y s.b) a2 b2 s.out
    have hso : (rowStep kf y y2 s).out = s.out ++ E1 := by
      have : (rowStep kf y y2 s).out = (colRun kf y (w64 (y2 - y)) (cutS tellX (crossL y s.a ++ crossL y s.b)) ⟨crossL y s.a, crossL y s.b, s.out⟩).out := rfl
      rw [this, hw, c1]
    obtain ⟨E, e1, e2, e3, e4⟩ := rowRun_law kf hkf A B ys y2 (rowStep kf y y2 s) hp.2 (fun v hv => h2 v (by simp [List.mem_cons.1 hv])) (fun r hr => ⟨key2 _ (h3 r hr).1, key2 _ (h3 r hr).2⟩) a1 b1
    have hrun : (rowRun kf (y :: y2 :: ys) s).out = (rowStep kf y y2 s).out ++ E := e1
    have hcov : ∀ i j, y ≤ j → j < y2 → covB A i j = colB (crossL y s.a) i ∧ covB B i j = colB (crossL y s.b) i := fun i j hj1 hj2 => by
      constructor
      · refine covB_col a3 i j fun r hr => ?_
        have h5 := h3 r (.inl hr)
        have := key _ h5.1
        have := key _ h5.2
        omega
      · refine covB_col b3 i j fun r hr => ?_
        have h5 := h3 r (.inr hr)
        have := key _ h5.1
        have := key _ h5.2
        omega
    refine ⟨E1 ++ E, by rw [hrun, hso, List.append_assoc], fun r hr => ?_, List.pairwise_append.2 ⟨List.Pairwise.imp_of_mem (fun {p q} hp hq hpq => ?_) c3, e3, fun p hp q hq => ?_⟩, fun i j => ?_⟩
    · rcases List.mem_append.1 hr with hr | hr
      · obtain ⟨q1, q2, q3⟩ := c2 r hr; exact ⟨q1, by omega⟩
      · obtain ⟨q1, q2⟩ := e2 r hr; exact ⟨q1, by omega⟩
    · have := (c2 p hp).2.1
      have := (c2 q hq).2.1
      exact .inr ⟨by omega, hpq⟩
    · have := (c2 p hp).2.1
      have := (e2 q hq).2
      exact .inl (by omega)
    · rw [Cov_append, c4, e4]
      by_cases hj : y ≤ j ∧ j < y2
      · rw [(hcov i j hj.1 hj.2).1, (hcov i j hj.1 hj.2).2]
        constructor
        · rintro (⟨_, hk⟩ | ⟨h5, _⟩)
          · exact ⟨hj.1, hk⟩
          · omega
        · rintro ⟨_, hk⟩; exact .inl ⟨by omega, hk⟩
      · constructor
        · rintro (⟨h5, _⟩ | ⟨h5, h6⟩)
          · omega
          · exact ⟨by omega, h6⟩
        · rintro ⟨h5, h6⟩; exact .inr ⟨by omega, h6⟩
theorem joinC_law (kf : Bool → Bool → Bool) (hkf : kf false false = false) (a b : List Rc) (ha : Reg a) (hb : Reg b) : (∀ r ∈ joinC kf a b, OkRc r) ∧ (joinC kf a b).Pairwise Lex ∧ ∀ i j, Cov (joinC kf a b) i j ↔ kf (covB a i j) (covB b i j) = true := by
  obtain ⟨c1, c2, c3⟩ := cutY_law (a ++ b) (fun r hr => by rcases List.mem_append.1 hr with h | h; exact ha.ok r h; exact hb.ok r h)
  unfold joinC
  generalize cutS tellY (a ++ b) = ys at c1 c2 c3
  have hno : ∀ i j, (∀ r, r ∈ a ∨ r ∈ b → ¬ (r.y ≤ j ∧ j < r.y + r.h)) → kf (covB a i j) (covB b i j) = false := fun i j hi => by
    have e : ∀ l : List Rc, (∀ r ∈ l, r ∈ a ∨ r ∈ b) → covB l i j = false := fun l hl => by
      rw [Bool.eq_false_iff]; intro hh
      obtain ⟨r, hr, q⟩ := (covB_iff _ _ _).1 hh
      exact hi r (hl r hr) ⟨q.2.2.1, q.2.2.2⟩
    rw [e a (fun r hr => .inl hr), e b (fun r hr => .inr hr), hkf]
  cases ys with
  | nil =>
    refine ⟨by simp [rowRun], by simp [rowRun], fun i j => ?_⟩
    constructor
    · rintro ⟨r, hr, _⟩; simp [rowRun] at hr
    · intro hk
      rw [hno i j (fun r hr => by have := (c3 r (by simpa using hr)).1; simp at this)] at hk
      cases hk
  | cons y ys =>
    have hle : ∀ v ∈ y :: ys, y ≤ v := fun v hv => by
      rcases List.mem_cons.1 hv with rfl | hv
      · exact Int.le_refl _
      · have := (List.pairwise_cons.1 c1).1 v hv; omega
    have hmm : ∀ v : Int, v ∈ y :: ys → v ≤ y ∨ v ∈ ys := fun v hv => by
      rcases List.mem_cons.1 hv with rfl | hv
      · exact .inl (Int.le_refl _)
      · exact .inr hv
    obtain ⟨E, e1, e2, e3, e4⟩ := rowRun_law kf hkf a b ys y ⟨a, b, []⟩ c1 (fun v hv => by
        obtain ⟨r, hr, h1⟩ := c2 v hv
        have hok : OkRc r := by rcases List.mem_append.1 hr with h | h; exact ha.ok r h; exact hb.ok r h
        unfold OkRc at hok
        omega) (fun r hr => ⟨hmm _ (c3 r (by simpa using hr)).1, hmm _ (c3 r (by simpa using hr)).2⟩) ⟨ha, fun _ h => h, fun _ h _ => h⟩ ⟨hb, fun _ h => h, fun _ h _ => h⟩
    have e1 : (rowRun kf (y :: ys) ⟨a, b, []⟩).out = E := by simpa using e1
    rw [e1]
    refine ⟨fun r hr => (e2 r hr).1, e3, fun i j => ?_⟩
    rw [e4]
    constructor
    · exact fun h => h.2
    · intro hk
      refine ⟨?_, hk⟩
      rcases Int.lt_or_le j y with hlt | hge
      · rw [hno i j (fun r hr => by have := hle _ (c3 r (by simpa using hr)).1; omega)] at hk; cases hk
      · exact hge
theorem OkRc.inRc {r : Rc} (h : OkRc r) : InRc r := by unfold OkRc at h; unfold InRc; omega
theorem joinL_law (kf : Bool → Bool → Bool) (hkf : kf false false = false) (a b : List Rc) (ha : Reg a) (hb : Reg b) : Reg (joinL kf a b) ∧ ∀ i j, Cov (joinL kf a b) i j ↔ kf (covB a i j) (covB b i j) = true := by
  obtain ⟨h1, _, h3⟩ := joinC_law kf hkf a b ha hb
  obtain ⟨g1, g2⟩ := ofL_law (joinC kf a b) (fun r hr => (h1 r hr).inRc)
  refine ⟨g1, fun i j => ?_⟩
  show Cov (ofL (joinC kf a b)) i j ↔ _
  rw [g2, ← h3]
  constructor
  · rintro ⟨r, hr, _, hh⟩; exact ⟨r, hr, hh⟩
  · rintro ⟨r, hr, hh⟩; exact ⟨r, hr, h1 r hr, hh⟩
end Go.Proofs.Ytpgelghkjiejlaa
end
section
namespace Go.Proofs.Ytpgelghkjiejlaa
open Go
theorem nodup_len : ∀ (N : Nat) (l : List Nat), l.Nodup → (∀ v ∈ l, v < N) → l.length ≤ N
  | 0, l, _, h => by
    cases l with
    | nil => simp
    | cons v l => have := h v (by simp); omega
  | N + 1, l, hn, h => by
    have ih := nodup_len N (l.erase N) (hn.erase N) (fun v hv => by
      have h1 := (hn.mem_erase_iff).1 hv
      have := h v h1.2
      have := h1.1
      omega)
    rw [List.length_erase] at ih
    split at ih <;> omega
theorem corner_len (l : List Rc) (hd : l.Pairwise (fun a b => a.x ≠ b.x ∨ a.y ≠ b.y)) (x0 y0 : Int) (W Hh : Nat) (h : ∀ r ∈ l, (x0 ≤ r.x ∧ r.x < x0 + W) ∧ y0 ≤ r.y ∧ r.y < y0 + Hh) : l.length ≤ Hh * W := by
  have h1 := nodup_len (Hh * W) (l.map fun r => (r.y - y0).toNat * W + (r.x - x0).toNat) ?_ ?_
  · simpa using h1
  · rw [List.nodup_iff_pairwise_ne, List.pairwise_map]
    refine List.Pairwise.imp_of_mem (fun {a b} ha hb hab => ?_) hd
    obtain ⟨⟨a1, a2⟩, a3, a4⟩ := h a ha
    obtain ⟨⟨b1, b2⟩, b3, b4⟩ := h b hb
    intro he
    have ea : (a.x - x0).toNat < W := by omega
    have eb : (b.x - x0).toNat < W := by omega
    have hmod : ((a.y - y0).toNat * W + (a.x - x0).toNat) % W = ((b.y - y0).toNat * W + (b.x - x0).toNat) % W := by rw [he]
    have key : ∀ a r : Nat, r < W → (a * W + r) % W = r := fun a r h => by rw [Nat.mul_comm, Nat.mul_add_mod, Nat.mod_eq_of_lt h]
    rw [key _ _ ea, key _ _ eb] at hmod
    have hdiv : (a.y - y0).toNat * W = (b.y - y0).toNat * W := by omega
    have := Nat.eq_of_mul_eq_mul_right (by omega) hdiv
    omega
  · intro v hv
    obtain ⟨r, hr, rfl⟩ := List.mem_map.1 hv
    obtain ⟨⟨a1, a2⟩, a3, a4⟩ := h r hr
    have e1 : (r.y - y0).toNat + 1 ≤ Hh := by omega
    have e2 := Nat.mul_le_mul_right W e1
    rw [Nat.add_mul] at e2
    omega
def cR (P : Int → Int → Bool) (x0 j : Int) : Nat → Nat
  | 0 => 0
  | k + 1 => cR P x0 j k + (if P (x0 + k) j then 1 else 0)
def cA (P : Int → Int → Bool) (x0 y0 : Int) (K : Nat) : Nat → Nat
  | 0 => 0
  | j + 1 => cA P x0 y0 K j + cR P x0 (y0 + j) K
theorem cR_add {P Q S : Int → Int → Bool} (h : ∀ i j, (if P i j then 1 else 0) = (if Q i j then 1 else 0) + (if S i j then 1 else 0 : Nat)) (x0 j : Int) : ∀ k, cR P x0 j k = cR Q x0 j k + cR S x0 j k
  | 0 => rfl
  | k + 1 => by unfold cR; rw [cR_add h x0 j k, h]; omega
theorem cA_add {P Q S : Int → Int → Bool} (h : ∀ i j, (if P i j then 1 else 0) = (if Q i j then 1 else 0) + (if S i j then 1 else 0 : Nat)) (x0 y0 : Int) (K : Nat) : ∀ j, cA P x0 y0 K j = cA Q x0 y0 K j + cA S x0 y0 K j
  | 0 => rfl
  | j + 1 => by unfold cA; rw [cA_add h x0 y0 K j, cR_add h]; omega
theorem cR_congr {P Q : Int → Int → Bool} (x0 j : Int) : ∀ k : Nat, (∀ i : Int, x0 ≤ i → i < x0 + (k : Int) → P i j = Q i j) → cR P x0 j k = cR Q x0 j k
  | 0, _ => rfl
  | k + 1, h => by unfold cR; rw [cR_congr x0 j k (fun i h1 h2 => h i h1 (by omega)), h (x0 + k) (by omega) (by omega)]
theorem cA_congr {P Q : Int → Int → Bool} (x0 y0 : Int) (K : Nat) : ∀ J : Nat, (∀ i j : Int, x0 ≤ i → i < x0 + (K : Int) → y0 ≤ j → j < y0 + (J : Int) → P i j = Q i j) → cA P x0 y0 K J = cA Q x0 y0 K J
  | 0, _ => rfl
  | J + 1, h => by unfold cA; rw [cA_congr x0 y0 K J (fun i j h1 h2 h3 h4 => h i j h1 h2 h3 (by omega)), cR_congr x0 (y0 + J) K (fun i h1 h2 => h i _ h1 h2 (by omega) (by omega))]
def inB4 (r : Rc) (i j : Int) : Bool := decide (r.x ≤ i) && (decide (i < r.x + r.w) && (decide (r.y ≤ j) && decide (j < r.y + r.h)))
theorem cR_one (r : Rc) (x0 j : Int) (h0 : x0 ≤ r.x) (hw : 0 < r.w) : ∀ k : Nat, (cR (inB4 r) x0 j k : Int) = if r.y ≤ j ∧ j < r.y + r.h then (if x0 + k ≤ r.x then 0 else if x0 + k ≤ r.x + r.w then x0 + k - r.x else r.w) else 0
  | 0 => by
    unfold cR
    split
    · rw [if_pos (by omega)]; rfl
    · rfl
  | k + 1 => by
    have ih := cR_one r x0 j h0 hw k
    unfold cR
    rw [Int.natCast_add, ih]
    unfold inB4
    by_cases hj : r.y ≤ j ∧ j < r.y + r.h
    · rw [if_pos hj, if_pos hj]
      by_cases c1 : r.x ≤ x0 + k <;> by_cases c2 : x0 + (k : Int) < r.x + r.w <;> simp [c1, c2, hj.1, hj.2] <;> (repeat' split) <;> omega
    · rw [if_neg hj, if_neg hj]
      have : (decide (r.y ≤ j) && decide (j < r.y + r.h)) = false := by
        rw [Bool.eq_false_iff]; intro hh; simp only [Bool.and_eq_true, decide_eq_true_eq] at hh; exact hj hh
      rw [this]
      simp
theorem cA_one (r : Rc) (x0 y0 : Int) (K : Nat) (h0 : x0 ≤ r.x) (hw : 0 < r.w) (h1 : r.x + r.w ≤ x0 + K) (h2 : y0 ≤ r.y) (hh : 0 < r.h) : ∀ J : Nat, (cA (inB4 r) x0 y0 K J : Int) = r.w * (if y0 + J ≤ r.y then 0 else if y0 + J ≤ r.y + r.h then y0 + J - r.y else r.h)
  | 0 => by unfold cA; rw [if_pos (by omega)]; simp
  | J + 1 => by
    have ih := cA_one r x0 y0 K h0 hw h1 h2 hh J
    unfold cA
    rw [Int.natCast_add, ih, cR_one r x0 (y0 + J) h0 hw K]
    rw [if_neg (show ¬ x0 + (K : Int) ≤ r.x by omega)]
    have e : (if x0 + (K : Int) ≤ r.x + r.w then x0 + (K : Int) - r.x else r.w) = r.w := by split <;> omega
    rw [e]
    by_cases hj : r.y ≤ y0 + J ∧ y0 + (J : Int) < r.y + r.h
    · rw [if_pos hj]
      have e2 : (if y0 + ((J + 1 : Nat) : Int) ≤ r.y then 0 else if y0 + ((J + 1 : Nat) : Int) ≤ r.y + r.h then y0 + ((J + 1 : Nat) : Int) - r.y else r.h) = (if y0 + (J : Int) ≤ r.y then 0 else if y0 + (J : Int) ≤ r.y + r.h then y0 + (J : Int) - r.y else r.h) + 1 := by
        (repeat' split) <;> omega
      rw [e2, Int.mul_add, Int.mul_one]
    · rw [if_neg hj, Int.add_zero]
      congr 1
      (repeat' split) <;> omega
def sumA : List Rc → Int
  | [] => 0
  | r :: l => r.w * r.h + sumA l
theorem sumA_count (x0 y0 : Int) (K J : Nat) : ∀ (l : List Rc), Reg l → (∀ r ∈ l, x0 ≤ r.x ∧ r.x + r.w ≤ x0 + K ∧ y0 ≤ r.y ∧ r.y + r.h ≤ y0 + J) → sumA l = (cA (covB l) x0 y0 K J : Int)
  | [], _, _ => by
    have hz : ∀ j k, cR (covB []) x0 j k = 0 := fun j k => by induction k with | zero => rfl | succ k ih => unfold cR; rw [ih]; rfl
    have : ∀ J, cA (covB []) x0 y0 K J = 0 := fun J => by induction J with | zero => rfl | succ J ih => unfold cA; rw [ih, hz]
    rw [this]; rfl
  | r :: l, h, hb => by
    have hl : Reg l := h.sub (List.sublist_cons_self _ _)
    have hr := h.ok r (by simp)
    have hrel := (List.pairwise_cons.1 h.rel).1
    obtain ⟨b1, b2, b3, b4⟩ := hb r (by simp)
    unfold OkRc at hr
    have ih := sumA_count x0 y0 K J l hl (fun q hq => hb q (by simp [hq]))
    have hadd : ∀ i j, (if covB (r :: l) i j then 1 else 0) = (if inB4 r i j then 1 else 0) + (if covB l i j then 1 else 0 : Nat) := fun i j => by
      have e : covB (r :: l) i j = (inB4 r i j || covB l i j) := rfl
      rw [e]
      cases h1 : inB4 r i j with
      | false => simp
      | true =>
        have : covB l i j = false := by
          rw [Bool.eq_false_iff]; intro hh
          obtain ⟨q, hq, hi⟩ := (covB_iff _ _ _).1 hh
          have := hrel q hq
          unfold inR at hi
          unfold Rel at this
          simp only [inB4, Bool.and_eq_true, decide_eq_true_eq] at h1
          omega
        rw [this]; rfl
    rw [cA_add hadd, Int.natCast_add, ← ih, cA_one r x0 y0 K b1 hr.2.1 b2 b3 hr.2.2.2.2.1 J]
    rw [if_neg (by omega)]
    have : (if y0 + (J : Int) ≤ r.y + r.h then y0 + (J : Int) - r.y else r.h) = r.h := by split <;> omega
    rw [this]
    rfl
theorem areaL_sum (l : List Rc) (hn : ∀ r ∈ l, 0 < r.w ∧ 0 < r.h) (hb : sumA l ≤ 1000000000) : areaL l = sumA l := by
  have key : ∀ (l : List Rc) (a : Int), 0 ≤ a → (∀ r ∈ l, 0 < r.w ∧ 0 < r.h) → a + sumA l ≤ 1000000000 → l.foldl (fun a r => IntKind.i64.wrap (a + IntKind.i64.wrap (r.w * r.h))) a = a + sumA l := by
    intro l
    induction l with
    | nil => intro a _ _ _; simp [sumA]
    | cons r l ih =>
      intro a ha hn hb
      have hr := hn r (by simp)
      have hp : 0 < r.w * r.h := Int.mul_pos hr.1 hr.2
      have hs : 0 ≤ sumA l := by
        have hn' : ∀ q ∈ l, 0 < q.w ∧ 0 < q.h := fun q hq => hn q (by simp [hq])
        clear ih hb hn
        induction l with
        | nil => exact Int.le_refl _
        | cons q l ih =>
          have := hn' q (by simp)
          have h1 : 0 < q.w * q.h := Int.mul_pos this.1 this.2
          have h2 := ih (fun p hp => hn' p (by simp [hp]))
          show 0 ≤ q.w * q.h + sumA l
          omega
      have hb' : a + (r.w * r.h + sumA l) ≤ 1000000000 := hb
      rw [List.foldl_cons, IntWalk.i64_in (r.w * r.h) (by omega), IntWalk.i64_in (a + r.w * r.h) (by omega), ih _ (by omega) (fun q hq => hn q (by simp [hq])) (by omega)]
      show a + r.w * r.h + sumA l = a + (r.w * r.h + sumA l)
      omega
  have := key l 0 (Int.le_refl _) hn (by omega)
  rw [areaL, this]; omega
end Go.Proofs.Ytpgelghkjiejlaa
end
section
set_option maxRecDepth 4000
namespace Go.Proofs.Ytpgelghkjiejlaa
open Go
attribute [local irreducible] opsF drawF drawP
def jK : ACode := (.ops (some [0, 1, 0, 4, 0, 28, 63]) [⟨(some 84), (.fa 0 (.t 3)), none⟩,
               ⟨(some 85), (.ld false 1 (.t 84)), none⟩,
               ⟨(some 86), (.mv (.t 20)), none⟩,
               ⟨(some 87), (.call (.f 77) [(.t 16), (.t 86)]), none⟩,
               ⟨(some 88), (.mv (.t 20)), none⟩,
               ⟨(some 89), (.call (.f 77) [(.t 17), (.t 88)]), none⟩,
               ⟨(some 90), (.call (.t 85) [(.t 87), (.t 89)]), none⟩])
theorem JI.walk {KP : Nat → Blk → Prop} {H : Heap} {c1 : Nat} {S1 : V} {l1 : List Rc} {c2 : Nat} {S2 : V} {l2 : List Rc} {fo : Bool} {mo : Nat} {out : List Rc} (h : JI KP H c1 S1 l1 c2 S2 l2 fo mo out) (k : Nat) (hk : k ≤ l1.length) {H' : Heap} (hH : ∀ b, aget H' b = if c1 = b then some (.row true [dropV k S1]) else aget H b) :
    JI KP H' c1 (dropV k S1) (l1.drop k) c2 S2 l2 fo mo out where
  keep := fun b u hb => let ⟨q1, q2, q3, q4⟩ := h.keep b u hb; ⟨by rw [hH, if_neg (fun e => q2 e.symm)]; exact q1, q2, q3, q4⟩
  g1 := by rw [hH, if_pos rfl]
  g2 := by rw [hH, if_neg h.ne]; exact h.g2
  s1 := fun G hG => (h.s1 G hG).drop k hk
  s2 := h.s2
  ne := h.ne
  off := h.off
  on := fun hf => let ⟨q1, q2, q3⟩ := h.on hf; ⟨q1, q2, by rw [hH, if_neg (fun e => q1 e.symm)]; exact q3⟩
theorem JI.swap {KP : Nat → Blk → Prop} {H : Heap} {c1 : Nat} {S1 : V} {l1 : List Rc} {c2 : Nat} {S2 : V} {l2 : List Rc} {fo : Bool} {mo : Nat} {out : List Rc} (h : JI KP H c1 S1 l1 c2 S2 l2 fo mo out) : JI KP H c2 S2 l2 c1 S1 l1 fo mo out where
  keep := fun b u hb => let ⟨q1, q2, q3, q4⟩ := h.keep b u hb; ⟨q1, q3, q2, q4⟩
  g1 := h.g2
  g2 := h.g1
  s1 := h.s2
  s2 := h.s1
  ne := fun e => h.ne e.symm
  off := h.off
  on := fun hf => let ⟨q1, q2, q3⟩ := h.on hf; ⟨q2, q1, q3⟩
theorem JI.sl1 {KP : Nat → Blk → Prop} {H : Heap} {c1 : Nat} {S1 : V} {l1 : List Rc} {c2 : Nat} {S2 : V} {l2 : List Rc} {fo : Bool} {mo : Nat} {out : List Rc} (h : JI KP H c1 S1 l1 c2 S2 l2 fo mo out) : SlR (adel H c1) S1 l1 :=
  h.s1 _ fun b u hb => let ⟨q1, q2, q3, q4⟩ := h.keep b u hb; by rw [aget_del, if_neg (fun e => q2 e.symm)]; exact q1
theorem JI.put {KP : Nat → Blk → Prop} {H : Heap} {c1 : Nat} {S1 : V} {l1 : List Rc} {c2 : Nat} {S2 : V} {l2 : List Rc} {fo : Bool} {mo : Nat} {out : List Rc} (h : JI KP H c1 S1 l1 c2 S2 l2 fo mo out) {H' : Heap} {mo' : Nat} {out' : List Rc} (hH : ∀ b k, (fo = true → b ≠ mo) → aget H b = some k → aget H' b = some k)
    (ho : aget H' mo' = some (.row true (rcs out'))) (hne : ∀ b k, aget H b = some k → b ≠ mo') : JI KP H' c1 S1 l1 c2 S2 l2 true mo' out' where
  keep := fun b u hb => let ⟨q1, q2, q3, q4⟩ := h.keep b u hb; ⟨hH _ _ q4 q1, q2, q3, fun _ => hne _ _ q1⟩
  g1 := hH _ _ (fun hf e => (h.on hf).1 e.symm) h.g1
  g2 := hH _ _ (fun hf e => (h.on hf).2.1 e.symm) h.g2
  s1 := h.s1
  s2 := h.s2
  ne := h.ne
  off := by simp
  on := fun _ => ⟨fun e => hne _ _ h.g1 e.symm, fun e => hne _ _ h.g2 e.symm, ho⟩
theorem idOf_cases {H : Heap} {S : V} {l : List Rc} (h : SlR H S l) : idOf S = [] ∨ ∃ i k, idOf S = [i] ∧ aget H i = some k := by
  rcases h with ⟨rfl, _⟩ | ⟨id, off, full, o, pre, post, rfl, hg, _⟩
  · exact .inl rfl
  · exact .inr ⟨id, _, rfl, hg⟩
theorem jK_ok {N : Nat} {Q : Exit → St → Prop} {yc : ACode} (g : FuncId) (kf : Bool → Bool → Bool) (hkf : ∀ p q n H, Pure Try.prog g [.b p, .b q] n H (.b (kf p q))) (c3 rc : Nat) (SY : V) (c10 c11 : Nat) (So : V) (i : Nat) (y h w x : Int) (c16 c17 : Nat) (SX : V) (j : Nat) {KP : Nat → Blk → Prop} {S1 S2 : V} {l1 l2 out : List Rc} {fo : Bool} {mo : Nat}
    (n : Nat) (H : Heap) (hJ : JI KP H c16 S1 l1 c17 S2 l2 fo mo out) (hc3 : KP c3 (.row true [.fn g [] []])) (hl1 : l1.length ≤ 1000000000) (hl2 : l2.length ≤ 1000000000)
    (hQ : ∀ H' S1' S2', JI KP H' c16 S1' (pastL endX x l1) c17 S2' (pastL endX x l2) fo mo out → AWc Try.prog N none yc ⟨(20, .i .i64 x) :: (21, .i .i64 w) :: (90, .b (kf (hdB x (pastL endX x l1)) (hdB x (pastL endX x l2)))) :: jT c3 rc SY c10 c11 So i y h c16 c17 SX j, [], n, H'⟩ Q) :
    AWc Try.prog N none (.seq jK yc) ⟨(20, .i .i64 x) :: (21, .i .i64 w) :: jT c3 rc SY c10 c11 So i y h c16 c17 SX j, [], n, H⟩ Q := by
  refine .withIn fun hin => ?_
  have hin : HIn n H := hin
  obtain ⟨k3, k3a, k3b, _⟩ := hJ.keep _ _ hc3
  have hc3n := (hin _ _ k3).1
  have h16n := (hin _ _ hJ.g1).1
  have h17n := (hin _ _ hJ.g2).1
  have hS1 := hJ.sl1
  have hv1 : VIn n (dropV (pastN endX x l1) S1) := (hS1.drop _ (pastN_le endX x l1)).vin (fun b k hb => hin b k (adel_get hb).2)
  have hJ1 := hJ.walk (pastN endX x l1) (pastN_le _ _ _) (acrH_get H S1 c16 (pastN endX x l1) n)
  have hin1 : HIn n (mergeH H [c16] n n (acrH H S1 c16 (pastN endX x l1))) := fun b k hb => by
    rw [acrH_get] at hb
    split at hb
    · rename_i e; subst e; cases hb
      exact ⟨h16n, by intro z hz; rw [List.mem_singleton.1 hz]; exact hv1⟩
    · exact hin b k hb
  generalize hH1 : mergeH H [c16] n n (acrH H S1 c16 (pastN endX x l1)) = H1 at hJ1 hin1
  have hJ1s := hJ1.swap
  have hS2 := hJ1s.sl1
  have hJ2 := hJ1s.walk (pastN endX x l2) (pastN_le _ _ _) (acrH_get H1 S2 c17 (pastN endX x l2) n)
  have hi1 : idOf S1 = [] ∨ ∃ i, idOf S1 = [i] ∧ i < n := (idOf_cases hS1).imp (fun h => h) fun ⟨i, k, h1, h2⟩ => ⟨i, h1, (hin _ _ (adel_get h2).2).1⟩
  have hi2 : idOf S2 = [] ∨ ∃ i, idOf S2 = [i] ∧ i < n := (idOf_cases hS2).imp (fun h => h) fun ⟨i, k, h1, h2⟩ => ⟨i, h1, (hin1 _ _ (adel_get h2).2).1⟩
  unfold jK
  refine .seq (.drawS (by rfl) ?_)
  refine drawF_run 3 (by rfl) (by simp [jT, k3, hc3n]; exact ⟨rfl, rfl⟩) ?_
  refine drawF_across (S := S1) (l := l1) (c := c16) (x := x) rfl rfl rfl rfl hl1 hin hJ.g1 hS1 ?_
  rw [hH1]
  refine drawF_run 1 (by rfl) (by simp; exact ⟨rfl, rfl⟩) ?_
  refine drawF_across (S := S2) (l := l2) (c := c17) (x := x) rfl rfl rfl rfl hl2 hin1 hJ1.g2 hS2 ?_
  refine drawF_callN (f := g) (first := []) (caps := []) (v := .b (kf (hdB x (pastL endX x l1)) (hdB x (pastL endX x l2)))) (n1 := n) (R := []) rfl rfl rfl (hkf _ _ n []) (Nat.le_refl _) rfl rfl ?_
  refine drawF_all (by rfl) (by simp; exact ⟨rfl, rfl⟩) ⟨?_, ?_⟩
  · have e1 : ¬ c16 = c3 := fun e => k3a e.symm
    have e2 : ¬ c17 = c3 := fun e => k3b e.symm
    have e3 : ¬ c16 = c17 := hJ.ne
    have e4 : ¬ c17 = c16 := fun e => hJ.ne e.symm
    have e5 : ¬ c3 = c16 := k3a
    have e6 : ¬ c3 = c17 := k3b
    rcases hi1 with q1 | ⟨i1, q1, p1⟩ <;> rcases hi2 with q2 | ⟨i2, q2, p2⟩ <;> (simp [-idOf, heapOk, heapRow, heavy, heapI, e1, e2, e3, e4, e5, e6, h16n, h17n, q1, q2, *]; try (first | decide | exact .inl (by decide)))
  · refine AWc.forget (T0 := (20, .i .i64 x) :: (21, .i .i64 w) :: (90, .b (kf (hdB x (pastL endX x l1)) (hdB x (pastL endX x l2)))) :: jT c3 rc SY c10 c11 So i y h c16 c17 SX j) (by simp [jT]) ?_
    refine AWc.alikeH (H := mergeH H1 [c17] n n (acrH H1 S2 c17 (pastN endX x l2))) (fun b => ?_) (hQ _ _ _ hJ2.swap)
    first | rfl | rw [merge_none]
def jCo : ACode := (.seq (.seq (.ops none [⟨(some 63), (.mv (.t 19)), none⟩,
             ⟨(some 64), (.bin .add (.t 63) (.c (.i .i64 1))), none⟩,
             ⟨(some 65), (.mv (.t 18)), none⟩,
             ⟨(some 66), (.blen false (.t 65)), none⟩,
             ⟨(some 67), (.bin .lss (.t 64) (.t 66)), none⟩])
            (.cond (.t 67)
             (.skip)
             (.exit 2)))
           (.seq (.block 3 (.seq jX
             (.seq jK
             (.cond (.t 90)
              (.ops none [⟨(some 91), (.mv (.t 12)), none⟩,
                ⟨(some 92), (.mv (.t 20)), none⟩,
                ⟨(some 93), (.mv (.t 14)), none⟩,
                ⟨(some 94), (.mv (.t 21)), none⟩,
                ⟨(some 95), (.mv (.t 15)), none⟩,
                ⟨(some 96), (.build [(.i .i64 0), (.i .i64 0), (.i .i64 0), (.i .i64 0)] [(0, 1, (.t 92)), (1, 1, (.t 93)), (2, 1, (.t 94)), (3, 1, (.t 95))]), none⟩,
                ⟨(some 97), (.lit 4 1 [(.i .i64 0), (.i .i64 0), (.i .i64 0), (.i .i64 0)] [(0, (.t 96))]), none⟩,
                ⟨(some 98), (.app 4 32 [(.i .i64 0), (.i .i64 0), (.i .i64 0), (.i .i64 0)] (.t 91) (.t 97)), none⟩,
                ⟨(some 12), (.mv (.t 98)), none⟩])
              (.skip)))))
            (.ops none [⟨(some 68), (.mv (.t 19)), none⟩,
             ⟨(some 69), (.bin .add (.t 68) (.c (.i .i64 1))), none⟩,
             ⟨(some 19), (.mv (.t 69)), none⟩])))
theorem pastL_len (e : Rc → Int) (y : Int) (l : List Rc) : (pastL e y l).length ≤ l.length := by rw [pastL, List.length_drop]; omega
theorem jCols {Q : Exit → St → Prop} (g : FuncId) (kf : Bool → Bool → Bool) (hkf : ∀ p q n H, Pure Try.prog g [.b p, .b q] n H (.b (kf p q))) (c3 rc : Nat) (SY : V) (c10 c11 i : Nat) (y h : Int) (c16 c17 : Nat) (SX : V) (xs : List Int) (hxl : xs.length ≤ 1000000000) {KP : Nat → Blk → Prop} {S1 S2 : V} {l1 l2 out : List Rc} {fo : Bool} {mo : Nat}
    (n : Nat) (H : Heap) (hJ : JI KP H c16 S1 l1 c17 S2 l2 fo mo out) (hX : SlI KP SX xs) (hc3 : KP c3 (.row true [.fn g [] []])) (hl1 : l1.length ≤ 1000000000) (hl2 : l2.length ≤ 1000000000) (hout : (colRun kf y h xs ⟨l1, l2, out⟩).out.length ≤ 1000000)
    (hQ : ∀ T' n' H' S1' S2' l1' l2' fo' mo', n ≤ n' → JI KP H' c16 S1' l1' c17 S2' l2' fo' mo' (colRun kf y h xs ⟨l1, l2, out⟩).out → (fo' = true → fo = true ∧ mo' = mo ∨ n ≤ mo') →
      (∀ z ∈ [(3, V.p c3 0), (6, V.p rc 0), (9, SY), (10, V.p c10 0), (11, V.p c11 0), (12, slB fo' mo' 4 (colRun kf y h xs ⟨l1, l2, out⟩).out.length), (13, V.i .i64 i)], aget T' z.1 = some z.2) → Q .normal ⟨T', [], n', H'⟩) :
    AWc Try.prog 101 none (.block 2 (.loop jCo)) ⟨jT c3 rc SY c10 c11 (slB fo mo 4 out.length) i y h c16 c17 SX 0, [], n, H⟩ Q := by
  have hlen := hX.len
  refine .block (.loop (k₀ := xs.length) (s₀ := ⟨jT c3 rc SY c10 c11 (slB fo mo 4 out.length) i y h c16 c17 SX 0, [], n, H⟩)
    (fun k st => ∃ (j n' : Nat) (H' : Heap) (S1' S2' : V) (s : JS) (fo' : Bool) (mo' : Nat), k = xs.length - j ∧ j ≤ xs.length ∧ n ≤ n' ∧ JI KP H' c16 S1' s.a c17 S2' s.b fo' mo' s.out ∧ s.a.length ≤ l1.length ∧ s.b.length ≤ l2.length ∧ colRun kf y h (xs.drop j) s = colRun kf y h xs ⟨l1, l2, out⟩ ∧ (fo' = true → fo = true ∧ mo' = mo ∨ n ≤ mo') ∧
      st = ⟨jT c3 rc SY c10 c11 (slB fo' mo' 4 s.out.length) i y h c16 c17 SX j, [], n', H'⟩)
    ⟨0, n, H, S1, S2, ⟨l1, l2, out⟩, fo, mo, rfl, Nat.zero_le _, Nat.le_refl _, hJ, Nat.le_refl _, Nat.le_refl _, rfl, fun hf => .inl ⟨hf, rfl⟩, rfl⟩ (St.less_F (by simp) (by simp [jT])) (Nat.le_refl _) (fun k st ⟨j, n', H', S1', S2', s, fo', mo', h1, h2, h3, h4, h5, h6, h7, h8, h9⟩ => by rw [h9]; exact h3) ?_)
  rintro k st ⟨j, n', H', S1', S2', s, fo', mo', rfl, h2, h3, h4, h5, h6, h7, h8, rfl⟩
  refine .withIn fun hin => ?_
  have hin : HIn n' H' := hin
  have hwj : IntKind.i64.wrap ((j : Int) + 1) = ((j + 1 : Nat) : Int) := IntWalk.i64_in _ (by omega)
  have hcol := colRun_out kf y h (xs.drop j) s
  rw [h7] at hcol
  unfold jCo
  by_cases hj : j + 1 < xs.length
  · have hdr : xs.drop j = xs[j] :: xs[j + 1] :: xs.drop (j + 2) := by
      rw [List.drop_eq_getElem_cons (by omega), List.drop_eq_getElem_cons hj]
    have hdr1 : xs.drop (j + 1) = xs[j + 1] :: xs.drop (j + 2) := List.drop_eq_getElem_cons hj
    rcases hX with ⟨rfl, rfl⟩ | ⟨m, full, o, post, rfl, hm⟩
    · simp at hj
    have hm' := (h4.keep _ _ hm).1
    refine .seq (.seq (.ops (opsF_all (by simp only [jT]; simp [hwj]; rfl) ?_)))
    refine .cond (t := true) (by simp; omega) (.skip ?_)
    refine AWc.forget (T0 := jT c3 rc SY c10 c11 (slB fo' mo' 4 s.out.length) i y h c16 c17 (.sl m 0 1 xs.length full) j) (by simp [jT]) ?_
    refine .seq (.block (jX_ok c3 rc SY c10 c11 _ i y h c16 c17 m full o j xs post hj hxl n' H' hm' ?_))
    have hrun : colRun kf y h (xs.drop (j + 1)) (colStep kf y h xs[j] xs[j + 1] s) = colRun kf y h xs ⟨l1, l2, out⟩ := by
      rw [← h7, hdr, hdr1]; rfl
    generalize xs[j] = x at hrun
    generalize xs[j + 1] = x2 at hrun
    refine jK_ok g kf hkf c3 rc SY c10 c11 _ i y h _ x c16 c17 _ j n' H' h4 hc3 (by omega) (by omega) fun H2 S1'' S2'' hJ2 => ?_
    have hp1 := pastL_len endX x s.a
    have hp2 := pastL_len endX x s.b
    have hco := colRun_out kf y h (xs.drop (j + 1)) (colStep kf y h x x2 s)
    rw [hrun] at hco
    cases hk : kf (hdB x (pastL endX x s.a)) (hdB x (pastL endX x s.b)) with
    | false =>
      have hst : colStep kf y h x x2 s = ⟨pastL endX x s.a, pastL endX x s.b, s.out⟩ := by unfold colStep; rw [hk]; rfl
      rw [hst] at hrun
      refine .cond (t := false) (by simp) (.skip ?_)
      refine AWc.forget (T0 := jT c3 rc SY c10 c11 (slB fo' mo' 4 s.out.length) i y h c16 c17 (.sl m 0 1 xs.length full) j) (by simp [jT]) ?_
      refine .ops (opsF_all (by simp only [jT]; simp [hwj]; rfl) ?_)
      exact ⟨xs.length - (j + 1), ⟨jT c3 rc SY c10 c11 (slB fo' mo' 4 s.out.length) i y h c16 c17 (.sl m 0 1 xs.length full) ((j + 1 : Nat)), [], n', H2⟩, by omega, ⟨j + 1, n', H2, S1'', S2'', ⟨pastL endX x s.a, pastL endX x s.b, s.out⟩, fo', mo', rfl, by omega, h3, hJ2, by dsimp only; omega, by dsimp only; omega, hrun, h8, rfl⟩, St.less_F (by simp) (by simp [jT])⟩
    | true =>
      have hst : colStep kf y h x x2 s = ⟨pastL endX x s.a, pastL endX x s.b, s.out ++ [⟨x, y, w64 (x2 - x), h⟩]⟩ := by unfold colStep; rw [hk]; rfl
      rw [hst] at hrun hco
      simp only [List.length_append, List.length_cons, List.length_nil] at hco
      refine .cond (t := true) (by simp) ?_
      refine AWc.withIn fun hin2 => ?_
      have hin2 : HIn n' H2 := hin2
      have hmn : fo' = true → mo' < n' := fun hf => (hin2 _ _ (hJ2.on hf).2.2).1
      generalize hr : (⟨x, y, w64 (x2 - x), h⟩ : Rc) = r at hrun
      have hr4 : [V.i .i64 x, .i .i64 y, .i .i64 (w64 (x2 - x)), .i .i64 h] = rc4 r := by rw [← hr]; rfl
      refine .ops (opsF_run 5 (by simp [jT]; rfl) ?_)
      refine opsF_run 2 (by simp [setAll]; rfl) ?_
      refine opsF_cons_app (f := fo') (m := mo') (len := s.out.length) (cs := rcs s.out) (k := 1) (new := rc4 r) rfl rfl rfl (fun hf => by rw [hJ2.off hf]; exact ⟨rfl, rfl⟩) (fun hf => ⟨[], by have := hmn hf; rw [aget_cons, if_neg (by omega), (hJ2.on hf).2.2]; simp⟩) (by rw [rcs_len]; omega) rfl (by rw [← hr4]; simp) (by simp [rc4]) rfl (by omega) (by omega) ?_
      refine opsF_all (by simp; rfl) ?_
      refine AWc.forget (T0 := jT c3 rc SY c10 c11 (slB true (n' + 1) 4 (s.out ++ [r]).length) i y h c16 c17 (.sl m 0 1 xs.length full) j) (by simp [jT, slB]) ?_
      refine .ops (opsF_all (by simp only [jT]; simp [hwj]; rfl) ?_)
      refine ⟨xs.length - (j + 1), ⟨jT c3 rc SY c10 c11 (slB true (n' + 1) 4 (s.out ++ [r]).length) i y h c16 c17 (.sl m 0 1 xs.length full) ((j + 1 : Nat)), [], n' + 2, _⟩, by omega, ⟨j + 1, n' + 2, _, S1'', S2'', ⟨pastL endX x s.a, pastL endX x s.b, s.out ++ [r]⟩, true, n' + 1, rfl, by omega, by omega, ?_, by dsimp only; omega, by dsimp only; omega, hrun, fun _ => .inr (by omega), rfl⟩, St.less_F (by simp) (by simp [jT])⟩
      refine JI.put hJ2 (fun b k hb hk => ?_) (by rw [aget_cons, if_pos rfl, rcs_append]; simp [rcs]) (fun b k hk => ?_)
      · have hbn := (hin2 _ _ hk).1
        rw [aget_cons, if_neg (by omega)]
        cases fo' with
        | false => rw [if_neg (by simp), aget_cons, if_neg (by omega)]; exact hk
        | true => rw [if_pos rfl, aget_del, if_neg (fun e => hb rfl e.symm), aget_cons, if_neg (by omega)]; exact hk
      · have := (hin2 _ _ hk).1; omega
  · have hfin : colRun kf y h (xs.drop j) s = s := by
      have : (xs.drop j).length ≤ 1 := by simp; omega
      match hd : xs.drop j, this with
      | [], _ => rfl
      | [_], _ => rfl
      | _ :: _ :: _, h => simp at h
    rw [hfin] at h7
    refine .seq (.seq (.ops (opsF_run 3 (by simp only [jT]; simp [hwj]; rfl) ?_)))
    refine opsF_run 1 (by simp [-evLen, hlen]; rfl) ?_
    refine opsF_all (by simp; rfl) ?_
    refine .cond (t := false) (by simp; omega) (.exit ?_)
    rw [h7] at h4
    refine hQ _ n' H' S1' S2' _ _ fo' mo' h3 h4 h8 ?_
    intro z hz
    simp only [List.mem_cons, List.not_mem_nil, or_false] at hz
    rcases hz with rfl | rfl | rfl | rfl | rfl | rfl | rfl <;> simp [← h7]
end Go.Proofs.Ytpgelghkjiejlaa
end
section
set_option maxRecDepth 4000
namespace Go.Proofs.Ytpgelghkjiejlaa
open Go
attribute [local irreducible] opsF drawF drawP
def rT (c3 rc : Nat) (SY : V) (c10 c11 : Nat) (So : V) (i : Nat) : Temps := [(3, .p c3 0), (6, .p rc 0), (9, SY), (10, .p c10 0), (11, .p c11 0), (12, So), (13, .i .i64 i)]
def jY : ACode := (.ops (some [0, 0, 3, 7, 0, 0, 32, 112, 240, 0, 0, 1536, 3584, 8176, 15, 32767]) [⟨(some 41), (.mv (.t 9)), none⟩,
          ⟨(some 42), (.mv (.t 13)), none⟩,
          ⟨(some 43), (.ias 1 (.t 41) (.t 42)), none⟩,
          ⟨(some 44), (.ld false 1 (.t 43)), none⟩,
          ⟨(some 45), (.mv (.t 9)), none⟩,
          ⟨(some 46), (.mv (.t 13)), none⟩,
          ⟨(some 47), (.bin .add (.t 46) (.c (.i .i64 1))), none⟩,
          ⟨(some 48), (.ias 1 (.t 45) (.t 47)), none⟩,
          ⟨(some 49), (.ld false 1 (.t 48)), none⟩,
          ⟨(some 50), (.mv (.t 9)), none⟩,
          ⟨(some 51), (.mv (.t 13)), none⟩,
          ⟨(some 52), (.ias 1 (.t 50) (.t 51)), none⟩,
          ⟨(some 53), (.ld false 1 (.t 52)), none⟩,
          ⟨(some 54), (.bin .sub (.t 49) (.t 53)), none⟩,
          ⟨(some 14), (.mv (.t 44)), none⟩,
          ⟨(some 15), (.mv (.t 54)), none⟩])
theorem jY_ok {N : Nat} {Q : Exit → St → Prop} {yc : ACode} (c3 rc c10 c11 : Nat) (So : V) (i m : Nat) (full o : Bool) (ys : List Int) (pys : List V) (hi : i + 1 < ys.length) (hyl : ys.length ≤ 1000000000) (n : Nat) (H : Heap) (hm : aget H m = some (.row o (ints ys ++ pys)))
    (hQ : AWc Try.prog N none yc ⟨(14, .i .i64 (ys[i]'(by omega))) :: (15, .i .i64 (w64 (ys[i + 1] - ys[i]'(by omega)))) :: rT c3 rc (.sl m 0 1 ys.length full) c10 c11 So i, [], n, H⟩ Q) :
    AWc Try.prog N none (.seq jY yc) ⟨rT c3 rc (.sl m 0 1 ys.length full) c10 c11 So i, [], n, H⟩ Q := by
  refine .withIn fun hin => ?_
  have hmn : m < n := (hin m _ hm).1
  have g1 : (ints ys ++ pys)[i]? = some (.i .i64 (ys[i]'(by omega))) := ints_get ys pys i (by omega)
  have g2 : (ints ys ++ pys)[i + 1]? = some (.i .i64 ys[i + 1]) := ints_get ys pys (i + 1) hi
  generalize ys[i]'(by omega) = x1 at g1 hQ
  generalize ys[i + 1] = x2 at g2 hQ
  generalize ints ys ++ pys = cs at g1 g2 hm
  have hi1 : (i : Int) < ys.length := by omega
  have hi2 : ((i + 1 : Nat) : Int) < ys.length := by omega
  have hi0 : (0 : Int) ≤ ((i + 1 : Nat) : Int) := by omega
  have hwi : IntKind.i64.wrap ((i : Int) + 1) = ((i + 1 : Nat) : Int) := IntWalk.i64_in _ (by omega)
  have htn : ((i + 1 : Nat) : Int).toNat = i + 1 := by omega
  generalize ((i + 1 : Nat) : Int) = i1 at hi2 hi0 hwi htn
  unfold jY
  refine .seq (.drawP (by rfl) ?_)
  refine drawP_run 4 (by rfl) (by simp [rT, hi1, hm, hmn, g1]; rfl) ?_
  refine drawP_run 5 (by rfl) (by simp [hwi, hi2, hi0, htn, hm, hmn, g2]; rfl) ?_
  refine drawP_run 4 (by rfl) (by simp [hi1, hm, hmn, g1]; rfl) ?_
  refine drawP_all (by rfl) (by simp; rfl) ?_
  exact AWc.forget (T0 := (14, .i .i64 x1) :: (15, .i .i64 (w64 (x2 - x1))) :: rT c3 rc (.sl m 0 1 ys.length full) c10 c11 So i) (by simp [rT]) hQ
theorem tellY_pure' (r : Rc) (n : Nat) (H : Heap) : Pure Try.prog 74 [rV r] n H (.tu [.i .i64 (tellY r).1, .i .i64 (tellY r).2]) := tellY_pure r n H
theorem tellX_pure' (r : Rc) (n : Nat) (H : Heap) : Pure Try.prog 76 [rV r] n H (.tu [.i .i64 (tellX r).1, .i .i64 (tellX r).2]) := tellX_pure r n H
theorem cutS_len (tf : Rc → Int × Int) (l : List Rc) : (cutS tf l).length ≤ 2 * l.length := by
  unfold cutS
  have h1 := Go.Lib.compact_length_le (sortI (cutL tf l))
  rw [sortI_len, cutL_len] at h1
  exact h1
def jRo : ACode := (.seq (.ops none [⟨(some 55), (.mv (.t 14)), none⟩,
          ⟨(some 56), (.call (.f 75) [(.t 10), (.t 55)]), none⟩,
          ⟨(some 57), (.mv (.t 14)), none⟩,
          ⟨(some 58), (.call (.f 75) [(.t 11), (.t 57)]), none⟩,
          ⟨(some 16), (.new [.nils]), none⟩,
          ⟨(some 17), (.new [.nils]), none⟩,
          ⟨none, (.st 1 (.t 16) (.t 56)), none⟩,
          ⟨none, (.st 1 (.t 17) (.t 58)), none⟩])
         (.seq (.ops none [⟨(some 59), (.ld false 1 (.t 16)), none⟩,
           ⟨(some 60), (.ld false 1 (.t 17)), none⟩,
           ⟨(some 61), (.lit 1 2 [.nils, .nils] [(0, (.t 59)), (1, (.t 60))]), none⟩,
           ⟨(some 62), (.call (.f 73) [(.f 76), (.t 61)]), none⟩,
           ⟨(some 18), (.mv (.t 62)), none⟩])
         (.seq (.ops none [⟨(some 19), (.mv (.c (.i .i64 0))), none⟩])
          (.block 2 (.loop jCo)))))
theorem jRow {Q : Exit → St → Prop} (g : FuncId) (kf : Bool → Bool → Bool) (hkf : ∀ p q n H, Pure Try.prog g [.b p, .b q] n H (.b (kf p q))) (c3 rc : Nat) (SY : V) (c10 c11 i : Nat) (y y2 : Int) {KP : Nat → Blk → Prop} {S1 S2 : V} (s : JS) {fo : Bool} {mo : Nat}
    (n : Nat) (H : Heap) (hJ : JI KP H c10 S1 s.a c11 S2 s.b fo mo s.out) (hc3 : KP c3 (.row true [.fn g [] []])) (hl1 : s.a.length ≤ 1000000) (hl2 : s.b.length ≤ 1000000) (hout : (rowStep kf y y2 s).out.length ≤ 1000000)
    (hQ : ∀ T' n' H' S1' S2' fo' mo', n ≤ n' → JI KP H' c10 S1' (rowStep kf y y2 s).a c11 S2' (rowStep kf y y2 s).b fo' mo' (rowStep kf y y2 s).out →
      ((rT c3 rc SY c10 c11 (slB fo' mo' 4 (rowStep kf y y2 s).out.length) i).map fun p => aget T' p.1) = ((rT c3 rc SY c10 c11 (slB fo' mo' 4 (rowStep kf y y2 s).out.length) i).map fun p => some p.2) → Q .normal ⟨T', [], n', H'⟩) :
    AWc Try.prog 101 none jRo ⟨(14, .i .i64 y) :: (15, .i .i64 (w64 (y2 - y))) :: rT c3 rc SY c10 c11 (slB fo mo 4 s.out.length) i, [], n, H⟩ Q := by
  refine .withIn fun hin => ?_
  have hin : HIn n H := hin
  have hr1 := row_ok S1 s.a (by omega) c10 y n H hJ.g1 hJ.sl1
  have hJ1 := hJ.walk (H' := aput H c10 (.row true [dropV (pastN endY y s.a) S1])) (pastN endY y s.a) (pastN_le _ _ _) (fun b => aget_put _ _ _ _)
  have hr2 := row_ok S2 s.b (by omega) c11 y n _ hJ1.g2 hJ1.swap.sl1
  have hJ2 := (hJ1.swap.walk (H' := aput (aput H c10 (.row true [dropV (pastN endY y s.a) S1])) c11 (.row true [dropV (pastN endY y s.b) S2])) (pastN endY y s.b) (pastN_le _ _ _) (fun b => aget_put _ _ _ _)).swap
  have k1 := rowK_le y (pastL endY y s.a)
  have k2 := rowK_le y (pastL endY y s.b)
  have hT1 : ∀ G : Heap, (∀ b k, KP b k → aget G b = some k) → SlR G (takeV (rowK y (pastL endY y s.a)) (dropV (pastN endY y s.a) S1)) ((pastL endY y s.a).take (rowK y (pastL endY y s.a))) := fun G hG => (hJ2.s1 G hG).take _ k1
  have hT2 : ∀ G : Heap, (∀ b k, KP b k → aget G b = some k) → SlR G (takeV (rowK y (pastL endY y s.b)) (dropV (pastN endY y s.b) S2)) ((pastL endY y s.b).take (rowK y (pastL endY y s.b))) := fun G hG => (hJ2.s2 G hG).take _ k2
  have hKP2 : ∀ b k, KP b k → aget (aput (aput H c10 (.row true [dropV (pastN endY y s.a) S1])) c11 (.row true [dropV (pastN endY y s.b) S2])) b = some k := fun b k hb => (hJ2.keep b k hb).1
  have sh1 := (hT1 _ hKP2).shape 0
  have sh2 := (hT2 _ hKP2).shape 0
  rw [dropV_0] at sh1 sh2
  obtain ⟨u1, u2, u3⟩ := sh1
  obtain ⟨w1, w2, w3⟩ := sh2
  have ha1 := pastL_len endY y s.a
  have hb1 := pastL_len endY y s.b
  have hta : ((pastL endY y s.a).take (rowK y (pastL endY y s.a))).length ≤ 1000000 := by simp; omega
  have htb : ((pastL endY y s.b).take (rowK y (pastL endY y s.b))).length ≤ 1000000 := by simp; omega
  have hro : (rowStep kf y y2 s) = ⟨pastL endY y s.a, pastL endY y s.b, (colRun kf y (w64 (y2 - y)) (cutS tellX ((pastL endY y s.a).take (rowK y (pastL endY y s.a)) ++ (pastL endY y s.b).take (rowK y (pastL endY y s.b)))) ⟨(pastL endY y s.a).take (rowK y (pastL endY y s.a)), (pastL endY y s.b).take (rowK y (pastL endY y s.b)), s.out⟩).out⟩ := rfl
  rw [hro] at hout hQ
  have ea : s.a.drop (pastN endY y s.a) = pastL endY y s.a := rfl
  have eb : s.b.drop (pastN endY y s.b) = pastL endY y s.b := rfl
  rw [ea, eb] at hJ2
  generalize (pastL endY y s.a).take (rowK y (pastL endY y s.a)) = p at hT1 hta hout hQ
  generalize (pastL endY y s.b).take (rowK y (pastL endY y s.b)) = q at hT2 htb hout hQ
  generalize takeV (rowK y (pastL endY y s.a)) (dropV (pastN endY y s.a) S1) = TA at hr1 hT1 u1 u2 u3
  generalize takeV (rowK y (pastL endY y s.b)) (dropV (pastN endY y s.b) S2) = TB at hr2 hT2 w1 w2 w3
  generalize dropV (pastN endY y s.a) S1 = D1 at hr1 hr2 hJ2 hKP2
  generalize dropV (pastN endY y s.b) S2 = D2 at hr2 hJ2 hKP2
  unfold jRo
  refine .seq (.ops (opsF_run 1 (by simp [rT]; rfl) ?_))
  refine opsF_cons_callX rfl rfl rfl (by simpa using hr1) ?_
  refine opsF_run 1 (by simp; rfl) ?_
  refine opsF_cons_callX rfl rfl rfl (by simpa using hr2) ?_
  generalize aput (aput H c10 (.row true [D1])) c11 (.row true [D2]) = H2 at hJ2 hKP2
  have hcn1 := (hin _ _ hJ.g1).1
  have hcn2 := (hin _ _ hJ.g2).1
  have hmon : fo = true → mo < n := fun hf => (hin _ _ (hJ.on hf).2.2).1
  have hkn : ∀ b k, KP b k → b < n := fun b k hb => (hin _ _ (hJ.keep b k hb).1).1
  obtain ⟨H3, hH3⟩ : ∃ H3 : Heap, H3 = (n + 1, .row true [TB]) :: (n, .row true [TA]) :: H2 := ⟨_, rfl⟩
  have e1 : evSt (n + 2) ((n + 1, Blk.row true [.nils]) :: (n, Blk.row true [.nils]) :: H2) 1 (.p n 0) TA = some (.un, n + 2, (n + 1, Blk.row true [.nils]) :: (n, Blk.row true [TA]) :: H2) := by
    rw [evSt_one (cs := [.nils]) (by simp) rfl u1 u2 u3]; simp [aput]
  have e2 : evSt (n + 2) ((n + 1, Blk.row true [.nils]) :: (n, Blk.row true [TA]) :: H2) 1 (.p (n + 1) 0) TB = some (.un, n + 2, H3) := by
    rw [evSt_one (cs := [.nils]) (by simp) rfl w1 w2 w3]; simp [aput, hH3]
  have g16 : aget H3 n = some (.row true [TA]) := by rw [hH3]; simp
  have g17 : aget H3 (n + 1) = some (.row true [TB]) := by rw [hH3]; simp
  have gk : ∀ b k, b < n → aget H2 b = some k → aget H3 b = some k := fun b k hb hk => by
    rw [hH3, aget_cons, if_neg (by omega), aget_cons, if_neg (by omega)]; exact hk
  refine opsF_run 2 (by simp; rfl) ?_
  refine opsF_cons_op (v := .un) (n' := n + 2) (H' := (n + 1, Blk.row true [.nils]) :: (n, Blk.row true [TA]) :: H2) rfl rfl e1 ?_
  refine opsF_cons_op (v := .un) (n' := n + 2) (H' := H3) rfl rfl e2 ?_
  refine opsF_nil ?_
  clear e1 e2
  refine AWc.forget (T0 := (14, .i .i64 y) :: (15, .i .i64 (w64 (y2 - y))) :: (16, .p n 0) :: (17, .p (n + 1) 0) :: rT c3 rc SY c10 c11 (slB fo mo 4 s.out.length) i) (by simp [rT]) ?_
  have hcu := cuts_ok 76 tellX tellX_pure' (n + 2) true true TA TB p q hta htb (n + 3) ((n + 2, .row true [TA, TB]) :: H3) (by simp) (hT1 _ fun b k hb => by have := hkn b k hb; rw [aget_cons, if_neg (by omega)]; exact gk b k this (hKP2 b k hb)) (hT2 _ fun b k hb => by have := hkn b k hb; rw [aget_cons, if_neg (by omega)]; exact gk b k this (hKP2 b k hb))
  have hxl := cutS_len tellX (p ++ q)
  rw [List.length_append] at hxl
  have hx0 : (!(p ++ q).isEmpty) = false → cutS tellX (p ++ q) = [] := fun h => by
    have h0 : p ++ q = [] := by simpa using h
    have hz : p.length + q.length = 0 := by rw [← List.length_append, h0]; rfl
    exact List.eq_nil_of_length_eq_zero (by omega)
  generalize (!(p ++ q).isEmpty) = fx at hcu hx0
  generalize cutS tellX (p ++ q) = xs at hcu hxl hx0 hout hQ
  refine .seq (.ops (opsF_run 2 (by simp [rT, g16, g17]; rfl) ?_))
  refine opsF_cons_op (v := .sl (n + 2) 0 1 2 true) (n' := n + 3) (H' := (n + 2, .row true [TA, TB]) :: H3) rfl rfl (by simp [-V.cells, u1, u3, w1, w3, setAll]) ?_
  refine opsF_cons_callX rfl rfl rfl (show ACalls Try.prog 73 _ _ _ (fun v' n' H' => v' = slB fx (n + 3) 1 xs.length ∧ n' = n + 3 + 1 ∧ H' = rowB fx (n + 3) (ints xs) ((n + 2, .row true [TA, TB]) :: H3)) from hcu) ?_
  refine opsF_all (by simp; rfl) ?_
  refine AWc.seq (.ops (opsF_all (by simp; rfl) ?_))
  refine AWc.forget (T0 := jT c3 rc SY c10 c11 (slB fo mo 4 s.out.length) i y (w64 (y2 - y)) n (n + 1) (slB fx (n + 3) 1 xs.length) 0) (by simp [jT]) ?_
  obtain ⟨H5, hH5⟩ : ∃ H5 : Heap, H5 = rowB fx (n + 3) (ints xs) ((n + 2, .row true [TA, TB]) :: H3) := ⟨_, rfl⟩
  have g5 : ∀ b k, b < n + 2 → aget H3 b = some k → aget H5 b = some k := fun b k hb hk => by
    rw [hH5, aget_rowB_ne (by omega), aget_cons, if_neg (by omega)]; exact hk
  obtain ⟨KP', hKP'⟩ : ∃ KP' : Nat → Blk → Prop, KP' = fun b k => KP b k ∨ (b = c10 ∧ k = .row true [D1]) ∨ (b = c11 ∧ k = .row true [D2]) ∨ (fx = true ∧ b = n + 3 ∧ k = .row true (ints xs)) := ⟨_, rfl⟩
  have hKK : ∀ b k, KP b k → KP' b k := fun b k h => by rw [hKP']; exact .inl h
  have hJ5 : JI KP' H5 n TA p (n + 1) TB q fo mo s.out := {
    keep := fun b k hk => by
      rw [hKP'] at hk
      rcases hk with hk | ⟨rfl, rfl⟩ | ⟨rfl, rfl⟩ | ⟨hf, rfl, rfl⟩
      · have := hkn b k hk
        obtain ⟨q1, q2, q3, q4⟩ := hJ2.keep b k hk
        exact ⟨g5 _ _ (by omega) (gk _ _ this q1), by omega, by omega, q4⟩
      · exact ⟨g5 _ _ (by omega) (gk _ _ hcn1 hJ2.g1), by omega, by omega, fun hf e => (hJ2.on hf).1 e.symm⟩
      · exact ⟨g5 _ _ (by omega) (gk _ _ hcn2 hJ2.g2), by omega, by omega, fun hf e => (hJ2.on hf).2.1 e.symm⟩
      · subst hf
        exact ⟨by rw [hH5, rowB_t, aget_cons, if_pos rfl], by omega, by omega, fun hf => by have := hmon hf; omega⟩
    g1 := g5 _ _ (by omega) g16
    g2 := g5 _ _ (by omega) g17
    s1 := fun G hG => hT1 G fun b k hb => hG b k (hKK b k hb)
    s2 := fun G hG => hT2 G fun b k hb => hG b k (hKK b k hb)
    ne := by omega
    off := hJ2.off
    on := fun hf => ⟨by have := hmon hf; omega, by have := hmon hf; omega, g5 _ _ (by have := hmon hf; omega) (gk _ _ (hmon hf) (hJ2.on hf).2.2)⟩ }
  have hX : SlI KP' (slB fx (n + 3) 1 xs.length) xs := by
    cases fx with
    | false => exact .inl ⟨rfl, hx0 rfl⟩
    | true => exact .inr ⟨n + 3, false, true, [], rfl, by rw [hKP', List.append_nil]; exact .inr (.inr (.inr ⟨rfl, rfl, rfl⟩))⟩
  refine AWc.alikeH (H := H5) (fun b => by rw [hH5]) ?_
  refine jCols g kf hkf c3 rc SY c10 c11 i y (w64 (y2 - y)) n (n + 1) _ xs (by omega) (n + 4) H5 hJ5 hX (hKK _ _ hc3) (by omega) (by omega) hout fun T' n' H' S1' S2' l1' l2' fo' mo' hn' hJ' _ hT' => ?_
  have hk10 := hJ'.keep c10 _ (by rw [hKP']; exact .inr (.inl ⟨rfl, rfl⟩))
  have hk11 := hJ'.keep c11 _ (by rw [hKP']; exact .inr (.inr (.inl ⟨rfl, rfl⟩)))
  refine hQ T' n' H' D1 D2 fo' mo' (by omega) {
    keep := fun b k hk => by
      obtain ⟨q1, q2, q3, q4⟩ := hJ'.keep b k (hKK b k hk)
      obtain ⟨p1, p2, p3, p4⟩ := hJ2.keep b k hk
      exact ⟨q1, p2, p3, q4⟩
    g1 := hk10.1
    g2 := hk11.1
    s1 := hJ2.s1
    s2 := hJ2.s2
    ne := hJ2.ne
    off := hJ'.off
    on := fun hf => ⟨fun e => hk10.2.2.2 hf e.symm, fun e => hk11.2.2.2 hf e.symm, (hJ'.on hf).2.2⟩ } ?_
  exact List.map_congr_left fun z hz => hT' z hz
end Go.Proofs.Ytpgelghkjiejlaa
end
section
set_option maxRecDepth 4000
namespace Go.Proofs.Ytpgelghkjiejlaa
open Go
attribute [local irreducible] opsF drawF drawP
theorem SlR.toF {H : Heap} {S : V} {l : List Rc} (h : SlR H S l) : ∃ f, SlF H S l f := by
  rcases h with ⟨rfl, rfl⟩ | h
  · exact ⟨false, .inl ⟨rfl, rfl, rfl⟩⟩
  · exact ⟨true, .inr ⟨rfl, h⟩⟩
theorem SlF.off {H : Heap} {S : V} {l : List Rc} {f : Bool} (h : SlF H S l f) (hf : f = false) : l = [] := by
  rcases h with ⟨_, _, h⟩ | ⟨h, _⟩
  · exact h
  · rw [hf] at h; cases h
theorem SlF.restr {H : Heap} {S : V} {l : List Rc} {f : Bool} {n : Nat} (hin : HIn n H) (h : SlF H S l f) : SlF (restr H (idOf S) []) S l f ∧ ∀ b ∈ idOf S, b < n := by
  rcases h with ⟨rfl, rfl, rfl⟩ | ⟨rfl, id, off, full, o, pre, post, rfl, hg, rfl⟩
  · exact ⟨.inl ⟨rfl, rfl, rfl⟩, by simp⟩
  · refine ⟨.inr ⟨rfl, id, pre.length, full, false, pre, post, rfl, by simp [Go.Proofs.Ytpgelghkjiejlaa.restr, hg], rfl⟩, fun b hb => ?_⟩
    simp at hb
    subst hb
    exact (hin _ _ hg).1
def recR (f : Bool) (n : Nat) (l : List Rc) (H : Heap) (S : V) : Heap := rowB f n (rcs l) (restr H (idOf S) [])
theorem recR_get (f : Bool) (n : Nat) (l : List Rc) (H : Heap) (S : V) (b : Nat) (hb : b ≠ n) : aget (mergeH H [] n (n + 1) (recR f n l H S)) b = aget H b := by
  rw [aget_mergeH]
  rw [if_neg]
  simp [touch]; omega
theorem recR_new (n : Nat) (l : List Rc) (H : Heap) (S : V) : aget (mergeH H [] n (n + 1) (recR true n l H S)) n = some (.row true (rcs l)) := by
  rw [aget_mergeH, if_pos (by simp [touch]), recR, rowB_t, aget_cons, if_pos rfl]
theorem drawF_rects {o : AOper} {os : List AOper} {T : Temps} {D : List Nat} {n : Nat} {H : Heap} {acc : List DStep} {K : List DStep → St → Prop} {a1 : AX} {S : V} {l : List Rc} {f : Bool} (hg : guardOf T o.guard = some true) (ho : o.op = .call (.f 72) [a1]) (h1 : a1.val T = .ag [S])
    (hl : l.length ≤ 1000000000) (hin : HIn n H) (hS : SlF H S l f)
    (h : drawF Try.prog os ⟨putT T o.dst (slB f n 4 l.length), D, n + 1, mergeH H [] n (n + 1) (recR f n l H S)⟩ (acc ++ [⟨(AOp.call (.f 72) [a1]).slots ++ gslots o.guard, o.dst, idOf S, [], n, n + 1, slB f n 4 l.length, recR f n l H S⟩]) K) :
    drawF Try.prog (o :: os) ⟨T, D, n, H⟩ acc K := by
  obtain ⟨r1, r2⟩ := hS.restr hin
  have hcall := rects_ok S l f hl n _ r1
  have hmem : ∀ p ∈ recR f n l H S, touch [] n (n + 1) p.1 = true → p.2 = .row true (rcs l) := by
    intro p hp ht
    have hpc : p.1 = n := by simp [touch] at ht; omega
    cases f with
    | false =>
      have hp : p ∈ restr H (idOf S) [] := hp
      unfold restr at hp
      simp only [pickR, List.nil_append] at hp
      have := r2 _ (pickR_mem hp)
      omega
    | true =>
      rcases List.mem_cons.1 hp with rfl | hp
      · rfl
      · unfold restr at hp
        simp only [pickR, List.nil_append] at hp
        have := r2 _ (pickR_mem hp)
        omega
  refine drawF_call (fr := idOf S) (fw := []) (v := slB f n 4 l.length) (n1 := n + 1) (R := recR f n l H S) hg ho rfl ?_ ⟨Nat.le_succ _, ?_, by simp, ?_⟩ ⟨slB_in (by omega), ?_⟩ h
  · show ACalls Try.prog 72 ([] ++ [a1.val T] ++ []) n _ _
    rw [h1]
    exact hcall
  · intro b hb
    rw [List.append_nil] at hb
    exact r2 b hb
  · intro p hp ht
    rw [hmem p hp ht]; rfl
  · intro p hp ht
    rw [hmem p hp ht]
    exact (NoId.rcs l).bin _
def jR2 : ACode := (.ops (some [0, 1, 0, 7, 15, 31]) [⟨(some 22), (.ld true 1 (.t 4)), none⟩,
    ⟨(some 23), (.call (.f 72) [(.t 22)]), none⟩,
    ⟨(some 24), (.ld true 1 (.t 5)), none⟩,
    ⟨(some 25), (.call (.f 72) [(.t 24)]), none⟩,
    ⟨(some 7), (.mv (.t 23)), none⟩,
    ⟨(some 8), (.mv (.t 25)), none⟩])
theorem jR2_ok {N : Nat} {Q : Exit → St → Prop} {yc : ACode} (g : FuncId) (Sa Sb : V) (a b : List Rc) (fa fb : Bool) (ha : a.length ≤ 1000000000) (hb : b.length ≤ 1000000000) (n : Nat) (H : Heap) (hinH : HIn n H) (hSa : SlF H Sa a fa) (hSb : SlF H Sb b fb)
    (hQ : ∀ H', (∀ q k, aget H q = some k → aget H' q = some k) → aget H' n = some (.row true [.fn g [] []]) → aget H' (n + 3) = some (.row true [.nils]) → (fa = true → aget H' (n + 4) = some (.row true (rcs a))) → (fb = true → aget H' (n + 5) = some (.row true (rcs b))) →
      AWc Try.prog N none yc ⟨[(3, .p n 0), (6, .p (n + 3) 0), (7, slB fa (n + 4) 4 a.length), (8, slB fb (n + 5) 4 b.length)], [], n + 6, H'⟩ Q) :
    AWc Try.prog N none (.seq jR2 yc) ⟨[(3, .p n 0), (4, .p (n + 1) 0), (5, .p (n + 2) 0), (6, .p (n + 3) 0)], [], n + 4, (n + 3, .row true [.nils]) :: (n + 2, .row true [Sb]) :: (n + 1, .row true [Sa]) :: (n, .row true [.fn g [] []]) :: H⟩ Q := by
  refine .withIn fun hin => ?_
  have hin : HIn (n + 4) ((n + 3, .row true [.nils]) :: (n + 2, .row true [Sb]) :: (n + 1, .row true [Sa]) :: (n, .row true [.fn g [] []]) :: H) := hin
  obtain ⟨H1, hH1⟩ : ∃ H1 : Heap, H1 = (n + 3, .row true [.nils]) :: (n + 2, .row true [Sb]) :: (n + 1, .row true [Sa]) :: (n, .row true [.fn g [] []]) :: H := ⟨_, rfl⟩
  rw [← hH1] at hin
  have g0 : aget H1 n = some (.row true [.fn g [] []]) := by rw [hH1]; simp
  have g1 : aget H1 (n + 1) = some (.row true [Sa]) := by rw [hH1]; simp
  have g2 : aget H1 (n + 2) = some (.row true [Sb]) := by rw [hH1]; simp
  have g3 : aget H1 (n + 3) = some (.row true [.nils]) := by rw [hH1]; simp
  have gk : ∀ q k, aget H q = some k → aget H1 q = some k := fun q k hq => by
    have := (hinH _ _ hq).1
    rw [hH1, aget_cons, if_neg (by omega), aget_cons, if_neg (by omega), aget_cons, if_neg (by omega), aget_cons, if_neg (by omega)]; exact hq
  have mono : ∀ {S : V} {l : List Rc} {f : Bool} {G G' : Heap}, SlF G S l f → (∀ q k, aget G q = some k → aget G' q = some k) → SlF G' S l f := by
    intro S l f G G' h hm
    rcases h with h | ⟨h, id, off, full, o, pre, post, h1, h2, h3⟩
    · exact .inl h
    · exact .inr ⟨h, id, off, full, o, pre, post, h1, hm _ _ h2, h3⟩
  have hSa1 := mono hSa gk
  have hSb1 := mono hSb gk
  rw [← hH1]
  clear hH1
  obtain ⟨H2, hH2⟩ : ∃ H2, H2 = mergeH H1 [] (n + 4) (n + 4 + 1) (recR fa (n + 4) a H1 Sa) := ⟨_, rfl⟩
  have m2 : ∀ q, q ≠ n + 4 → aget H2 q = aget H1 q := fun q hq => by rw [hH2]; exact recR_get _ _ _ _ _ _ hq
  have m2' : ∀ q k, aget H1 q = some k → aget H2 q = some k := fun q k hq => by have := (hin _ _ hq).1; rw [m2 q (by omega)]; exact hq
  have hSb2 := mono hSb1 m2'
  have h24 : fa = true → aget H2 (n + 4) = some (.row true (rcs a)) := fun hf => by subst hf; rw [hH2]; exact recR_new _ _ _ _
  have hin2 : HIn (n + 5) H2 := fun q k hq => by
    by_cases e : q = n + 4
    · subst e
      cases fa with
      | true => rw [h24 rfl] at hq; cases hq; exact ⟨by omega, (NoId.rcs a).bin _⟩
      | false =>
        rw [hH2, aget_mergeH, if_pos (by simp [touch]), recR, rowB_f] at hq
        unfold restr at hq
        simp only [pickR, List.nil_append] at hq
        have := (hSa1.restr hin).2 _ (pickR_mem (aget_mem hq))
        have : n + 4 < n + 4 := this
        omega
    · rw [m2 q e] at hq
      obtain ⟨q1, q2⟩ := hin _ _ hq
      exact ⟨by omega, q2.mono (by omega)⟩
  have hc1 : n + 1 < n + 4 := by omega
  have g2' : aget H2 (n + 2) = some (.row true [Sb]) := m2' _ _ g2
  unfold jR2
  refine .seq (.drawS (by rfl) ?_)
  refine drawF_run 1 (by rfl) (by simp [g1]; exact ⟨rfl, rfl⟩) ?_
  refine drawF_rects (S := Sa) (l := a) (f := fa) rfl rfl rfl ha hin hSa1 ?_
  rw [← hH2]
  refine drawF_run 1 (by rfl) (by simp [g2']; exact ⟨rfl, rfl⟩) ?_
  refine drawF_rects (S := Sb) (l := b) (f := fb) rfl rfl rfl hb hin2 hSb2 ?_
  refine drawF_all (by rfl) (by simp; exact ⟨rfl, rfl⟩) ⟨?_, ?_⟩
  · simp [-idOf, heapOk, heapRow, heavy, heapI]
    exact ⟨.inl (by decide), .inl (by decide)⟩
  · refine AWc.forget (T0 := [(3, .p n 0), (6, .p (n + 3) 0), (7, slB fa (n + 4) 4 a.length), (8, slB fb (n + 5) 4 b.length)]) (by simp) ?_
    have m3 : ∀ q, q ≠ n + 5 → aget (mergeH H2 [] (n + 5) (n + 5 + 1) (recR fb (n + 5) b H2 Sb)) q = aget H2 q := fun q hq => recR_get _ _ _ _ _ _ hq
    refine hQ _ (fun q k hq => ?_) ?_ ?_ (fun hf => ?_) (fun hf => ?_)
    · have := (hinH _ _ hq).1
      rw [m3 _ (by omega)]; exact m2' _ _ (gk _ _ hq)
    · rw [m3 _ (by omega)]; exact m2' _ _ g0
    · rw [m3 _ (by omega)]; exact m2' _ _ g3
    · rw [m3 _ (by omega)]; exact h24 hf
    · subst hf; exact recR_new _ _ _ _
end Go.Proofs.Ytpgelghkjiejlaa
end
section
set_option maxRecDepth 4000
namespace Go.Proofs.Ytpgelghkjiejlaa
open Go
attribute [local irreducible] opsF drawF drawP
def jLo : ACode := (.seq (.seq (.ops none [⟨(some 34), (.mv (.t 13)), none⟩,
         ⟨(some 35), (.bin .add (.t 34) (.c (.i .i64 1))), none⟩,
         ⟨(some 36), (.mv (.t 9)), none⟩,
         ⟨(some 37), (.blen false (.t 36)), none⟩,
         ⟨(some 38), (.bin .lss (.t 35) (.t 37)), none⟩])
       (.cond (.t 38)
        (.skip)
        (.exit 0)))
       (.seq (.block 1 (.seq jY jRo))
       (.ops none [⟨(some 39), (.mv (.t 13)), none⟩,
         ⟨(some 40), (.bin .add (.t 39) (.c (.i .i64 1))), none⟩,
         ⟨(some 13), (.mv (.t 40)), none⟩])))
theorem jRows {Q : Exit → St → Prop} (g : FuncId) (kf : Bool → Bool → Bool) (hkf : ∀ p q n H, Pure Try.prog g [.b p, .b q] n H (.b (kf p q))) (c3 rc : Nat) (SY : V) (c10 c11 : Nat) (ys : List Int) (hyl : ys.length ≤ 1000000000) {KP : Nat → Blk → Prop} {S1 S2 : V} {a b : List Rc}
    (n : Nat) (H : Heap) (hJ : JI KP H c10 S1 a c11 S2 b false 0 []) (hY : SlI KP SY ys) (hc3 : KP c3 (.row true [.fn g [] []])) (ha : a.length ≤ 1000000) (hb : b.length ≤ 1000000) (hout : (rowRun kf ys ⟨a, b, []⟩).out.length ≤ 1000000)
    (hQ : ∀ T' n' H' fo' mo', n ≤ n' → (∀ q k, KP q k → aget H' q = some k) → SlR H' (slB fo' mo' 4 (rowRun kf ys ⟨a, b, []⟩).out.length) (rowRun kf ys ⟨a, b, []⟩).out →
      (([(6, V.p rc 0), (12, slB fo' mo' 4 (rowRun kf ys ⟨a, b, []⟩).out.length)] : Temps).map fun p => aget T' p.1) = (([(6, V.p rc 0), (12, slB fo' mo' 4 (rowRun kf ys ⟨a, b, []⟩).out.length)] : Temps).map fun p => some p.2) → Q .normal ⟨T', [], n', H'⟩) :
    AWc Try.prog 101 none (.block 0 (.loop jLo)) ⟨rT c3 rc SY c10 c11 .nils 0, [], n, H⟩ Q := by
  have hlen := hY.len
  refine .block (.loop (k₀ := ys.length) (s₀ := ⟨rT c3 rc SY c10 c11 .nils 0, [], n, H⟩)
    (fun k st => ∃ (i n' : Nat) (H' : Heap) (S1' S2' : V) (s : JS) (fo' : Bool) (mo' : Nat), k = ys.length - i ∧ i ≤ ys.length ∧ n ≤ n' ∧ JI KP H' c10 S1' s.a c11 S2' s.b fo' mo' s.out ∧ s.a.length ≤ a.length ∧ s.b.length ≤ b.length ∧ rowRun kf (ys.drop i) s = rowRun kf ys ⟨a, b, []⟩ ∧
      st = ⟨rT c3 rc SY c10 c11 (slB fo' mo' 4 s.out.length) i, [], n', H'⟩)
    ⟨0, n, H, S1, S2, ⟨a, b, []⟩, false, 0, rfl, Nat.zero_le _, Nat.le_refl _, hJ, Nat.le_refl _, Nat.le_refl _, rfl, rfl⟩ (St.less_F (by simp) (by simp [rT])) (Nat.le_refl _) (fun k st ⟨i, n', H', S1', S2', s, fo', mo', h1, h2, h3, h4, h5, h6, h7, h8⟩ => by rw [h8]; exact h3) ?_)
  rintro k st ⟨i, n', H', S1', S2', s, fo', mo', rfl, h2, h3, h4, h5, h6, h7, rfl⟩
  have hwi : IntKind.i64.wrap ((i : Int) + 1) = ((i + 1 : Nat) : Int) := IntWalk.i64_in _ (by omega)
  unfold jLo
  by_cases hi : i + 1 < ys.length
  · have hdr : ys.drop i = ys[i] :: ys[i + 1] :: ys.drop (i + 2) := by
      rw [List.drop_eq_getElem_cons (by omega), List.drop_eq_getElem_cons hi]
    have hdr1 : ys.drop (i + 1) = ys[i + 1] :: ys.drop (i + 2) := List.drop_eq_getElem_cons hi
    rcases hY with ⟨rfl, rfl⟩ | ⟨m, full, o, post, rfl, hm⟩
    · simp at hi
    have hm' := (h4.keep _ _ hm).1
    refine .seq (.seq (.ops (opsF_all (by simp only [rT]; simp [hwi]; rfl) ?_)))
    refine .cond (t := true) (by simp; omega) (.skip ?_)
    refine AWc.forget (T0 := rT c3 rc (.sl m 0 1 ys.length full) c10 c11 (slB fo' mo' 4 s.out.length) i) (by simp [rT]) ?_
    refine .seq (.block (jY_ok c3 rc c10 c11 _ i m full o ys post hi hyl n' H' hm' ?_))
    have hrun : rowRun kf (ys.drop (i + 1)) (rowStep kf ys[i] ys[i + 1] s) = rowRun kf ys ⟨a, b, []⟩ := by
      rw [← h7, hdr, hdr1]; rfl
    generalize ys[i] = y at hrun
    generalize ys[i + 1] = y2 at hrun
    have hro := rowRun_out kf (ys.drop (i + 1)) (rowStep kf y y2 s)
    rw [hrun] at hro
    refine jRow g kf hkf c3 rc _ c10 c11 i y y2 s n' H' h4 hc3 (by omega) (by omega) (by omega) fun T2 n2 H2 S1'' S2'' fo2 mo2 hn2 hJ2 hT2 => ?_
    refine AWc.forget hT2 ?_
    have ha2 := pastL_len endY y s.a
    have hb2 := pastL_len endY y s.b
    refine .ops (opsF_all (by simp only [rT]; simp [hwi]; rfl) ?_)
    exact ⟨ys.length - (i + 1), ⟨rT c3 rc (.sl m 0 1 ys.length full) c10 c11 (slB fo2 mo2 4 (rowStep kf y y2 s).out.length) ((i + 1 : Nat)), [], n2, H2⟩, by omega, ⟨i + 1, n2, H2, S1'', S2'', rowStep kf y y2 s, fo2, mo2, rfl, by omega, by omega, hJ2, by show (pastL endY y s.a).length ≤ _; omega, by show (pastL endY y s.b).length ≤ _; omega, hrun, rfl⟩, St.less_F (by simp) (by simp [rT])⟩
  · have hfin : rowRun kf (ys.drop i) s = s := by
      have : (ys.drop i).length ≤ 1 := by simp; omega
      match hd : ys.drop i, this with
      | [], _ => rfl
      | [_], _ => rfl
      | _ :: _ :: _, h => simp at h
    rw [hfin] at h7
    refine .seq (.seq (.ops (opsF_run 3 (by simp only [rT]; simp [hwi]; rfl) ?_)))
    refine opsF_run 1 (by simp [-evLen, hlen]; rfl) ?_
    refine opsF_all (by simp; rfl) ?_
    refine .cond (t := false) (by simp; omega) (.exit ?_)
    refine hQ _ n' H' fo' mo' h3 (fun q k hk => (h4.keep q k hk).1) ?_ (by simp [← h7])
    rw [← h7]
    exact .ofB h4.off fun hf => ⟨true, [], by simpa using (h4.on hf).2.2⟩
theorem join_ok (g : FuncId) (kf : Bool → Bool → Bool) (hkf : ∀ p q n H, Pure Try.prog g [.b p, .b q] n H (.b (kf p q))) (Sa Sb : V) (a b : List Rc) (ha : a.length ≤ 1000000) (hb : b.length ≤ 1000000) (hout : (joinC kf a b).length ≤ 1000000) (hir : ∀ r ∈ joinC kf a b, InRc r) (n : Nat) (H : Heap) (hSa : SlR H Sa a) (hSb : SlR H Sb b) :
    ACalls Try.prog 61 [.ag [.fn g [] []], .ag [Sa], .ag [Sb]] n H (NewG (joinL kf a b) n H) := by
  obtain ⟨fa, hFa⟩ := hSa.toF
  obtain ⟨fb, hFb⟩ := hSb.toF
  refine ACalls.newG (K := fun v n' H' => (∀ b k, aget H b = some k → aget H' b = some k) ∧ ((joinL kf a b = [] ∧ v = .ag [.nils]) ∨ (joinL kf a b ≠ [] ∧ ∃ id full post, v = .ag [.sl id 0 4 (joinL kf a b).length full] ∧ (∀ b k, aget H b = some k → b ≠ id) ∧ aget H' id = some (.row true (rcs (joinL kf a b) ++ post))))) (joinL kf a b) ?_ (fun v n' H' h => h)
  refine .withIn (ACalls.enters F61_ok trivial) fun hin hargs => ?_
  have hin : HIn n H := hin
  refine .enter0 F61_ok (by simp [F61]) ?_
  refine .seq (.ops (opsF_all (by simp; rfl) ?_))
  refine AWc.forget (T0 := [(3, .p n 0), (4, .p (n + 1) 0), (5, .p (n + 2) 0), (6, .p (n + 3) 0)]) (by simp) ?_
  refine jR2_ok g Sa Sb a b fa fb (by omega) (by omega) n H hin hFa hFb fun H1 hk0 hk1 hk2 hk3 hk4 => ?_
  refine .withIn fun hin1 => ?_
  have hin1 : HIn (n + 6) H1 := hin1
  have hA1 : SlR H1 (slB fa (n + 4) 4 a.length) a := .ofB hFa.off fun hf => ⟨true, [], by simpa using hk3 hf⟩
  have hB1 : SlR H1 (slB fb (n + 5) 4 b.length) b := .ofB hFb.off fun hf => ⟨true, [], by simpa using hk4 hf⟩
  have hcu := cuts_ok 74 tellY tellY_pure' (n + 6) true true (slB fa (n + 4) 4 a.length) (slB fb (n + 5) 4 b.length) a b ha hb (n + 7) ((n + 6, .row true [slB fa (n + 4) 4 a.length, slB fb (n + 5) 4 b.length]) :: H1) (by simp)
    (hA1.mono fun q k hq => by have := (hin1 _ _ hq).1; rw [aget_cons, if_neg (by omega)]; exact hq) (hB1.mono fun q k hq => by have := (hin1 _ _ hq).1; rw [aget_cons, if_neg (by omega)]; exact hq)
  have hyl := cutS_len tellY (a ++ b)
  rw [List.length_append] at hyl
  have hy0 : (!(a ++ b).isEmpty) = false → cutS tellY (a ++ b) = [] := fun h => by
    have h0 : a ++ b = [] := by simpa using h
    have hz : a.length + b.length = 0 := by rw [← List.length_append, h0]; rfl
    exact List.eq_nil_of_length_eq_zero (by omega)
  have hjc : joinC kf a b = (rowRun kf (cutS tellY (a ++ b)) ⟨a, b, []⟩).out := rfl
  rw [hjc] at hout hir
  have hjl : joinL kf a b = ofL (rowRun kf (cutS tellY (a ++ b)) ⟨a, b, []⟩).out := rfl
  rw [hjl]
  generalize (!(a ++ b).isEmpty) = fy at hcu hy0
  generalize cutS tellY (a ++ b) = ys at hcu hyl hy0 hout hir ⊢
  refine .seq (.ops (opsF_run 2 (by simp; rfl) ?_))
  refine opsF_cons_op (v := .sl (n + 6) 0 1 2 true) (n' := n + 7) (H' := (n + 6, .row true [slB fa (n + 4) 4 a.length, slB fb (n + 5) 4 b.length]) :: H1) rfl rfl (by simp [-V.cells, slB_known, slB_cells, setAll]) ?_
  refine opsF_cons_callX rfl rfl rfl (show ACalls Try.prog 73 _ _ _ (fun v' n' H' => v' = slB fy (n + 7) 1 ys.length ∧ n' = n + 7 + 1 ∧ H' = rowB fy (n + 7) (ints ys) ((n + 6, .row true [slB fa (n + 4) 4 a.length, slB fb (n + 5) 4 b.length]) :: H1)) from hcu) ?_
  refine opsF_all (by simp; rfl) ?_
  obtain ⟨H2, hH2⟩ : ∃ H2 : Heap, H2 = rowB fy (n + 7) (ints ys) ((n + 6, .row true [slB fa (n + 4) 4 a.length, slB fb (n + 5) 4 b.length]) :: H1) := ⟨_, rfl⟩
  have g2 : ∀ q k, aget H1 q = some k → aget H2 q = some k := fun q k hq => by
    have := (hin1 _ _ hq).1
    rw [hH2, aget_rowB_ne (by omega), aget_cons, if_neg (by omega)]; exact hq
  refine AWc.alikeH (H := H2) (fun q => by rw [hH2]) ?_
  refine AWc.withIn fun hin2 => ?_
  have hin2 : HIn (n + 8) H2 := hin2
  refine AWc.forget (T0 := [(3, .p n 0), (6, .p (n + 3) 0), (7, slB fa (n + 4) 4 a.length), (8, slB fb (n + 5) 4 b.length), (9, slB fy (n + 7) 1 ys.length)]) (by simp) ?_
  refine AWc.seq (.ops (opsF_run 1 (by simp; rfl) ?_))
  refine opsF_cons_op (v := .ag [slB fa (n + 4) 4 a.length]) (n' := n + 8) (H' := H2) rfl rfl (by simp [-V.cells, slB_known, slB_cells, setAll]) ?_
  refine opsF_run 1 (by simp; rfl) ?_
  refine opsF_cons_op (v := .ag [slB fb (n + 5) 4 b.length]) (n' := n + 8) (H' := H2) rfl rfl (by simp [-V.cells, slB_known, slB_cells, setAll]) ?_
  refine opsF_run 2 (by simp; rfl) ?_
  obtain ⟨H3, hH3⟩ : ∃ H3 : Heap, H3 = (n + 9, .row true [slB fb (n + 5) 4 b.length]) :: (n + 8, .row true [slB fa (n + 4) 4 a.length]) :: H2 := ⟨_, rfl⟩
  have e1 : evSt (n + 10) ((n + 9, Blk.row true [.nils]) :: (n + 8, Blk.row true [.nils]) :: H2) 1 (.p (n + 8) 0) (.ag [slB fa (n + 4) 4 a.length]) = some (.un, n + 10, (n + 9, Blk.row true [.nils]) :: (n + 8, Blk.row true [slB fa (n + 4) 4 a.length]) :: H2) := by
    rw [evSt_ag (cs := [.nils]) (by simp) rfl (slB_one _ _ _ _)]; simp [aput]
  have e2 : evSt (n + 10) ((n + 9, Blk.row true [.nils]) :: (n + 8, Blk.row true [slB fa (n + 4) 4 a.length]) :: H2) 1 (.p (n + 9) 0) (.ag [slB fb (n + 5) 4 b.length]) = some (.un, n + 10, H3) := by
    rw [evSt_ag (cs := [.nils]) (by simp) rfl (slB_one _ _ _ _)]; simp [aput, hH3]
  refine opsF_cons_op (v := .un) (n' := n + 10) (H' := (n + 9, Blk.row true [.nils]) :: (n + 8, Blk.row true [slB fa (n + 4) 4 a.length]) :: H2) rfl rfl e1 ?_
  refine opsF_cons_op (v := .un) (n' := n + 10) (H' := H3) rfl rfl e2 ?_
  refine opsF_nil ?_
  refine AWc.seq (.ops (opsF_all (by simp; rfl) ?_))
  refine AWc.seq (.seq (.ops (opsF_all (by simp; rfl) ?_)))
  refine AWc.forget (T0 := rT n (n + 3) (slB fy (n + 7) 1 ys.length) (n + 8) (n + 9) .nils 0) (by simp [rT]) ?_
  have g3 : ∀ q k, aget H2 q = some k → aget H3 q = some k := fun q k hq => by
    have := (hin2 _ _ hq).1
    rw [hH3, aget_cons, if_neg (by omega), aget_cons, if_neg (by omega)]; exact hq
  have hJ : JI (fun q k => aget H2 q = some k) H3 (n + 8) (slB fa (n + 4) 4 a.length) a (n + 9) (slB fb (n + 5) 4 b.length) b false 0 [] := {
    keep := fun q k hq => by
      have := (hin2 _ _ hq).1
      exact ⟨g3 q k hq, by omega, by omega, by simp⟩
    g1 := by rw [hH3]; simp
    g2 := by rw [hH3]; simp
    s1 := fun G hG => (hA1.mono g2).mono hG
    s2 := fun G hG => (hB1.mono g2).mono hG
    ne := by omega
    off := by simp
    on := by simp }
  have hY : SlI (fun q k => aget H2 q = some k) (slB fy (n + 7) 1 ys.length) ys := by
    cases fy with
    | false => exact .inl ⟨rfl, hy0 rfl⟩
    | true => exact .inr ⟨n + 7, false, true, [], rfl, by show aget H2 (n + 7) = _; rw [hH2, List.append_nil, rowB_t, aget_cons, if_pos rfl]⟩
  refine jRows g kf hkf n (n + 3) _ (n + 8) (n + 9) ys (by omega) (n + 10) H3 hJ hY (g2 _ _ hk1) ha hb hout fun T' n' H' fo' mo' hn' hkeep hS' hT' => ?_
  refine AWc.forget hT' ?_
  have hof := of_ok (slB fo' mo' 4 (rowRun kf ys ⟨a, b, []⟩).out.length) _ hout hir n' H' hS'
  generalize (rowRun kf ys ⟨a, b, []⟩).out = jc at hof hS' hT' ⊢
  refine AWc.withIn fun hin' => ?_
  have hin' : HIn n' H' := hin'
  refine AWc.seq (.ops (opsF_run 1 (by simp; rfl) ?_))
  refine opsF_cons_callX rfl rfl rfl (show ACalls Try.prog 46 _ _ _ (fun v' n'' H'' => v' = .ag [slB (!(ofL jc).isEmpty) n' 4 (ofL jc).length] ∧ n'' = n' + 1 ∧ H'' = rowB (!(ofL jc).isEmpty) n' (rcs (ofL jc)) H') from hof) ?_
  have hrc : aget (rowB (!(ofL jc).isEmpty) n' (rcs (ofL jc)) H') (n + 3) = some (.row true [.nils]) := by
    rw [aget_rowB_ne (by omega)]; exact hkeep _ _ (g2 _ _ hk2)
  refine opsF_cons_op (v := .un) (n' := n' + 1) (H' := aput (rowB (!(ofL jc).isEmpty) n' (rcs (ofL jc)) H') (n + 3) (.row true [slB (!(ofL jc).isEmpty) n' 4 (ofL jc).length])) rfl rfl (evSt_ag hrc rfl (slB_one _ _ _ _)) ?_
  refine opsF_nil (.ret ⟨.inr rfl, rfl, [.ag [slB (!(ofL jc).isEmpty) n' 4 (ofL jc).length]], ?_, ?_, ?_⟩)
  · simp [F61, aget_put]
  · intro q k hq
    have hqn := (hin _ _ hq).1
    show aget (aput _ (n + 3) _) q = _
    rw [aget_put, if_neg (by omega), aget_rowB_ne (by omega)]
    exact hkeep _ _ (g2 _ _ (hk0 _ _ hq))
  · cases hl : ofL jc with
    | nil => exact .inl ⟨rfl, rfl⟩
    | cons r l =>
      refine .inr ⟨by simp, n', false, [], rfl, fun q k hq => ?_, ?_⟩
      · have := (hin _ _ hq).1; omega
      · show aget (aput _ (n + 3) _) n' = _
        rw [aget_put, if_neg (by omega)]
        simp [rowB]
end Go.Proofs.Ytpgelghkjiejlaa
end
