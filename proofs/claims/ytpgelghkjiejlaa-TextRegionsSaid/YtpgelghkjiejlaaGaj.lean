/- Contracts of the small functions of package font, and of text. Ids laid anew: what stood keeps its ids. Contracts of package font's functions. Regions that draw, run step by step over heaps that are written out. Contracts of laid, At and Fit of package text. Contracts of Width, and of the document's At and Fit. The contract of Of: a text's letters, as the document has them. -/
import Derived.Test.YtpgelghkjiejlaaGai
import Derived.Test.YtpgelghkjiejlaaGah
set_option linter.unusedVariables false
set_option linter.unusedSimpArgs false
section
set_option maxRecDepth 4000
namespace Go.Proofs.Ytpgelghkjiejlaa
open Go

/-- Where the letter of a byte stands. -/
def plc (b : UInt8) : Nat := if b.toNat < 32 ∨ 126 < b.toNat then 31 else b.toNat - 32
theorem plc_lt (b : UInt8) : plc b < 95 := by
  have := b.toNat_lt
  unfold plc; split <;> omega

theorem place_pure (b : UInt8) (n : Nat) (H : Heap) : Pure Try.prog 29 [.i .u8 b.toNat] n H (.i .i64 (plc b)) := by
  have hb := b.toNat_lt
  unfold plc
  generalize b.toNat = m at hb ⊢
  refine .of0 (.enter0 F29_ok (by simp [F29]) ?_) (by simp [VIn.i]) (.i _ _) n H
  refine .seq (.ops (opsF_all (by simp; rfl) ?_))
  by_cases h1 : m < 32
  · have h1' : (m : Int) < 32 := by omega
    refine .seq (.seq (.ops (opsF_all (by simp [h1']; rfl) ?_)))
    refine .cond (t := true) (by simp) (.ops (opsF_all (by simp; rfl) ?_))
    refine .seq (.ops (opsF_all (by simp; rfl) ?_))
    refine .ret ?_
    simp [F29, h1]
    decide
  · have h1' : ¬ (m : Int) < 32 := by omega
    by_cases h2 : 126 < m
    · have h2' : (126 : Int) < m := by omega
      refine .seq (.seq (.ops (opsF_all (by simp [h1', h2']; rfl) ?_)))
      refine .cond (t := true) (by simp) (.ops (opsF_all (by simp; rfl) ?_))
      refine .seq (.ops (opsF_all (by simp; rfl) ?_))
      refine .ret ?_
      simp [F29, h1, h2]
      decide
    · have h2' : ¬ (126 : Int) < m := by omega
      refine .seq (.seq (.ops (opsF_all (by simp [h1', h2']; rfl) ?_)))
      refine .cond (t := false) (by simp) (.skip ?_)
      refine .seq (.ops (opsF_all (by simp; rfl) ?_))
      refine .ret ?_
      simp [F29, h1, h2]
      rw [IntWalk.i64_in m (by omega), IntWalk.i64_in _ (by omega)]
      omega
end Go.Proofs.Ytpgelghkjiejlaa
end
section
namespace Go.Proofs.Ytpgelghkjiejlaa
open Go
theorem VRe.mono {φ : Nat → Nat} {n m : Nat} (hn : n ≤ m) {v v' : V} (h : VRe φ n v v') : VRe φ m v v' := by
  induction h with
  | un v => exact .un v
  | b x => exact .b x
  | i k n => exact .i k n
  | s l => exact .s l
  | nilp => exact .nilp
  | p h => exact .p (by omega)
  | nils => exact .nils
  | sl h hf => exact .sl (by omega) hf
  | nilf => exact .nilf
  | fn hl _ hl' _ ih ih' => exact .fn hl ih hl' ih'
  | yl h => exact .yl (by omega)
  | nili => exact .nili
  | ifc _ ih => exact .ifc ih
  | ag hl _ ih => exact .ag hl ih
  | tu hl _ ih => exact .tu hl ih
theorem VReL.mono {φ : Nat → Nat} {n m : Nat} (hn : n ≤ m) : ∀ {xs ys : List V}, VReL φ n xs ys → VReL φ m xs ys
  | [], [], _ => trivial
  | _ :: _, _ :: _, h => ⟨h.1.mono hn, VReL.mono hn h.2⟩
  | [], _ :: _, h => h.elim
  | _ :: _, [], h => h.elim
theorem BRe.old {φ : Nat → Nat} {n m : Nat} (hn : n ≤ m) (hφ : ∀ b, b < n → φ b = b) {k : Blk} (h : BIn n k) : BRe φ m k k := by
  cases k with
  | row o cs => exact .row (fun h => h) ((VReL.refl hφ h).mono hn)
  | loop r => exact .loop rfl rfl rfl rfl rfl rfl (by have := h.1; omega) (hφ _ h.1).symm fun i v hv => ⟨v, hv, (VRe.refl hφ (h.2 i v hv)).mono hn⟩
  | marks => exact .marks
/-- What stood below n keeps its ids; 'new' are those of the new blocks that are kept. -/
theorem HRe.keep {φ : Nat → Nat} {n m : Nat} {new H H' : Heap} (hin : HIn n H) (hn : n ≤ m) (hφ : ∀ b, b < n → φ b = b) (hφ' : ∀ b, n ≤ b → n ≤ φ b) (hold : ∀ b k, b < n → aget H b = some k → aget H' b = some k)
    (hnew : ∀ b k, aget new b = some k → n ≤ b ∧ b < m ∧ ∃ k', aget H' (φ b) = some k' ∧ BRe φ m k k')
    (hinj : ∀ b1 b2 k1 k2, aget new b1 = some k1 → aget new b2 = some k2 → φ b1 = φ b2 → b1 = b2) : HRe φ m (new ++ H) H' := by
  have hc : ∀ b k, aget (new ++ H) b = some k → aget new b = some k ∨ aget H b = some k := by
    intro b k hb
    rw [aget_append] at hb
    split at hb
    · rename_i k' hk; cases hb; exact .inl hk
    · exact .inr hb
  refine ⟨fun b k hb => ?_, fun b1 b2 k1 k2 h1 h2 he => ?_⟩
  · rcases hc b k hb with h1 | h1
    · exact ⟨(hnew b k h1).2.1, (hnew b k h1).2.2⟩
    · obtain ⟨h2, h3⟩ := hin b k h1
      exact ⟨by omega, k, by rw [hφ b h2]; exact hold b k h2 h1, .old hn hφ h3⟩
  · rcases hc b1 k1 h1 with g1 | g1 <;> rcases hc b2 k2 h2 with g2 | g2
    · exact hinj _ _ _ _ g1 g2 he
    · have a1 := hφ' b1 (hnew _ _ g1).1
      have a2 := (hin _ _ g2).1
      rw [hφ b2 a2] at he
      omega
    · have a1 := hφ' b2 (hnew _ _ g2).1
      have a2 := (hin _ _ g1).1
      rw [hφ b1 a2] at he
      omega
    · rw [hφ _ (hin _ _ g1).1, hφ _ (hin _ _ g2).1] at he
      exact he
theorem aget_one {α : Type} {i b : Nat} {x k : α} (h : aget [(i, x)] b = some k) : b = i ∧ k = x := by
  rw [aget_cons] at h
  by_cases e : i = b
  · rw [if_pos e] at h; cases h; exact ⟨e.symm, rfl⟩
  · rw [if_neg e] at h; cases h
end Go.Proofs.Ytpgelghkjiejlaa
end
section
set_option maxRecDepth 4000
namespace Go.Proofs.Ytpgelghkjiejlaa
open Go

@[simp] theorem fontC_len (w : Bool) : (fontC w).length = 1617 := by simp [fontC]
theorem fontC_get (w : Bool) {p : Nat} (h : p < 1617) : (fontC w)[p]? = some (.i .i64 (fC w p)) := by
  simp [fontC, List.getElem?_map, List.getElem?_range h]
theorem fontC_in (w : Bool) (n : Nat) : ∀ x ∈ fontC w, VIn n x := by
  intro x hx
  simp only [fontC, List.mem_map] at hx
  obtain ⟨p, _, rfl⟩ := hx
  exact .i _ _
@[simp] theorem fontC_take (w : Bool) : (fontC w).take 1617 = fontC w := List.take_of_length_le (by simp)
@[simp] theorem fontC_one (w : Bool) : (fontC w).all V.one = true := by
  rw [List.all_eq_true]
  intro x hx
  simp only [fontC, List.mem_map] at hx
  obtain ⟨p, _, rfl⟩ := hx
  rfl
theorem ag_in {n : Nat} {w : Bool} : VIn n (.ag (fontC w)) := .ag (fontC_in w n)
@[simp] theorem fontC_getE (w : Bool) {p : Nat} (h : p < (fontC w).length) : (fontC w)[p] = .i .i64 (fC w p) := by simp [fontC]
@[simp] theorem fC_0 (w : Bool) : fC w 0 = fA w := rfl
@[simp] theorem fC_1 (w : Bool) : fC w 1 = fD w := rfl
@[simp] theorem fA_fD_wrap (w : Bool) : IntKind.i64.wrap ((fA w : Int) + (fD w : Int)) = (fH w : Int) := by cases w <;> decide
theorem fC_w (w : Bool) {l : Nat} (hl : l < 95) : fC w (2 + l * 17) = fW w l := by
  unfold fC
  rw [if_neg (by omega), if_neg (by omega), if_pos (by omega)]
  congr 1
  omega
theorem fC_r (w : Bool) {l y : Nat} (hl : l < 95) (hy : y < fH w) : fC w (2 + l * 17 + 1 + y) = fR w l y := by
  have hh : fH w ≤ 9 := by cases w <;> decide
  unfold fC
  rw [if_neg (by omega), if_neg (by omega), if_neg (by omega), if_pos (by omega)]
  congr 1 <;> omega
theorem fA_fD (w : Bool) : fA w + fD w = fH w := by cases w <;> rfl

theorem ascent_pure (w : Bool) (n : Nat) (H : Heap) : Pure Try.prog 25 [.ag (fontC w)] n H (.i .i64 (fA w)) := by
  refine .of0 (.enter0 F25_ok (by simp [F25]) ?_) (by intro x hx; rw [List.mem_singleton.1 hx]; exact ag_in) (.i _ _) n H
  refine .seq (.ops (opsF_all (by simp; rfl) ?_))
  refine .seq (.ops (opsF_all (by simp; rfl) ?_))
  exact .ret (by simp [F25])
theorem descent_pure (w : Bool) (n : Nat) (H : Heap) : Pure Try.prog 26 [.ag (fontC w)] n H (.i .i64 (fD w)) := by
  refine .of0 (.enter0 F26_ok (by simp [F26]) ?_) (by intro x hx; rw [List.mem_singleton.1 hx]; exact ag_in) (.i _ _) n H
  refine .seq (.ops (opsF_all (by simp; rfl) ?_))
  refine .seq (.ops (opsF_all (by simp; rfl) ?_))
  exact .ret (by simp [F26])
theorem height_pure (w : Bool) (n : Nat) (H : Heap) : Pure Try.prog 41 [.ag (fontC w)] n H (.i .i64 (fH w)) := by
  refine .of0 (.enter0 F41_ok (by simp [F41]) ?_) (by intro x hx; rw [List.mem_singleton.1 hx]; exact ag_in) (.i _ _) n H
  refine .seq (.ops (opsF_all (by simp; rfl) ?_))
  refine .seq (.ops (opsF_all (by simp; rfl) ?_))
  exact .ret (by simp [F41])
theorem counted_pure (s : List UInt8) (n : Nat) (H : Heap) : Pure Try.prog 31 [.s s] n H (.s (s.take 4096)) := by
  refine .of0 (.enter0 F31_ok (by simp [F31]) ?_) (by simp [VIn.s]) (.s _) n H
  refine .seq (.ops (opsF_all (by simp; rfl) ?_))
  by_cases h : 4096 < s.length
  · have h' : (4096 : Int) < s.length := by omega
    refine .seq (.ops (opsF_all (by simp [h', Nat.le_of_lt h]; rfl) ?_))
    exact .ret (by simp [F31])
  · have h' : ¬ (4096 : Int) < s.length := by omega
    refine .seq (.ops (opsF_all (by simp [h']; rfl) ?_))
    refine .ret ?_
    simp [F31]
    rw [List.take_of_length_le (by omega)]

/-- The rows of a letter. -/
def rowsC (w : Bool) (l : Nat) : List V := (List.range (fH w)).map fun y => .i .i64 (fR w l y)
theorem glyph_ok (w : Bool) (b : UInt8) (n : Nat) (H : Heap) : ACalls Try.prog 27 [.ag (fontC w), .i .u8 b.toNat] n H fun v n' H' =>
    v = .ag [.i .i64 (fW w (plc b)), .sl n 0 1 (fH w) true] ∧ n' = n + 1 ∧ H' = (n, .row true (rowsC w (plc b))) :: H := by
  have hl := plc_lt b
  have hp := fun n H => place_pure b n H
  generalize plc b = l at hl hp ⊢
  have hH : ¬ fH w = 0 := by cases w <;> decide
  have hl1 : (l : Int) < 95 := by omega
  have hl2 : 2 + (l * 17 + 17) ≤ 1617 := by omega
  have hH0 : (0 : Int) ≤ (fH w : Int) := by omega
  have hHb : (fH w : Int) * 8 ≤ 140737488355328 ∧ (fH w : Int) ≤ 140737488355328 := by cases w <;> decide
  have h17 : (((fontC w).drop (2 + l * 17)).take 17).all V.one = true := by
    rw [List.all_eq_true]
    intro x hx
    exact List.all_eq_true.1 (fontC_one w) x (List.mem_of_mem_drop (List.mem_of_mem_take hx))
  have h17l : (((fontC w).drop (2 + l * 17)).take 17).length = 17 := by simp; omega
  generalize hc : ((fontC w).drop (2 + l * 17)).take 17 = c at h17 h17l
  have h17' : ∀ x ∈ c, x.one = true := fun x hx => List.all_eq_true.1 h17 x hx
  have hfull : setAll [V.i IntKind.i64 0, V.i IntKind.i64 0, V.i IntKind.i64 0, V.i IntKind.i64 0, V.i IntKind.i64 0, V.i IntKind.i64 0, V.i IntKind.i64 0, V.i IntKind.i64 0, V.i IntKind.i64 0, V.i IntKind.i64 0, V.i IntKind.i64 0, V.i IntKind.i64 0, V.i IntKind.i64 0, V.i IntKind.i64 0, V.i IntKind.i64 0, V.i IntKind.i64 0, V.i IntKind.i64 0] 0 c = c := setAll_full (by simp [h17l])
  have h16 : c.tail.take 16 = c.tail := List.take_of_length_le (by simp [h17l])
  have h16a : c.tail.all V.one = true := by
    rw [List.all_eq_true]
    exact fun x hx => h17' x (List.mem_of_mem_tail hx)
  have hmin : min 16 (fH w) = fH w := by cases w <;> decide
  have hrows : setAll (List.replicate (fH w) (V.i .i64 0)) 0 (c.tail.take (fH w)) = rowsC w l := by
    have hh : fH w ≤ 9 := by cases w <;> decide
    rw [setAll_full (by simp [h17l]; omega)]
    apply List.ext_getElem?
    intro y
    rw [List.getElem?_take]
    by_cases hy : y < fH w
    · rw [if_pos hy, List.getElem?_tail, ← hc, List.getElem?_take, if_pos (by omega), List.getElem?_drop, fontC_get w (by omega)]
      rw [show 2 + l * 17 + (y + 1) = 2 + l * 17 + 1 + y by omega, fC_r w hl hy]
      simp [rowsC, List.getElem?_range hy]
    · rw [if_neg hy, List.getElem?_eq_none (by simp [rowsC]; omega)]
  have hc0 : c[0]? = some (.i .i64 (fW w l)) := by
    rw [← hc, List.getElem?_take, if_pos (by omega), List.getElem?_drop, fontC_get w (by omega)]
    rw [show 2 + l * 17 + 0 = 2 + l * 17 by omega, fC_w w hl]
  have hc0' : c[0] = .i .i64 (fW w l) := by
    rw [List.getElem?_eq_getElem (by omega)] at hc0
    exact Option.some.inj hc0
  have base : ACalls Try.prog 27 [.ag (fontC w), .i .u8 b.toNat] n H fun v n' H' => v = .ag [.i .i64 (fW w l), .sl (n + 3) 0 1 (fH w) true] ∧ n' = n + 4 ∧ ∃ a b c, H' = (n + 3, .row true (rowsC w l)) :: (n + 2, a) :: (n + 1, b) :: (n, c) :: H := by
    refine .enter0 F27_ok (by simp [F27]) ?_
    refine .seq (.ops (opsF_all (by simp; rfl) ?_))
    refine .seq (.seq (.ops (opsF_run 1 (by simp; rfl) ?_)))
    refine opsF_cons_call rfl rfl rfl (v := .i .i64 (fH w)) (by simpa using height_pure w _ _) ?_
    refine opsF_all (by simp [hH]; rfl) ?_
    refine .cond (t := false) (by simp [hH]) (.skip ?_)
    refine .seq (.ops (opsF_run 1 (by simp; rfl) ?_))
    refine opsF_cons_call rfl rfl rfl (v := .i .i64 l) (by simpa using hp _ _) ?_
    refine opsF_all (by simp [-List.all_eq_true, hl1, hl2, hc, h17l, h17]; rfl) ?_
    refine .seq (.ops (opsF_run 1 (by simp; rfl) ?_))
    refine opsF_cons_call rfl rfl rfl (v := .i .i64 (fH w)) (by simpa using height_pure w _ _) ?_
    refine opsF_all (by simp [hH0, hHb]; rfl) ?_
    refine .seq (.ops (opsF_run 3 (by simp [h17l]; rfl) ?_))
    refine opsF_all (by simp [-List.all_eq_true, hfull, h16, h16a, hmin, hrows, h17l]; rfl) ?_
    refine .seq (.ops (opsF_all (by simp [hc0, setAll]; rfl) ?_))
    refine .ret ?_
    simp [F27]
  refine .withIn base.1 fun hin _ => base.weakenR ?_
  rintro v n' H' ⟨rfl, rfl, a, b', c', rfl⟩
  have hφ : ∀ b, b < n → (fun b => if b < n then b else b + 3) b = b := fun b hb => if_pos hb
  refine ⟨fun b => if b < n then b else b + 3, .ag [.i .i64 (fW w l), .sl n 0 1 (fH w) true], n + 1, [(n, .row true (rowsC w l))] ++ H, hφ, by omega, .agL ⟨.i _ _, ?_, trivial⟩, ?_, rfl, rfl, rfl⟩
  · have := VRe.sl (φ := fun b => if b < n then b else b + 3) (m := n + 1) (id := n) (off := 0) (sz := 1) (len := fH w) (full := true) (full' := true) (by omega) (fun h => h)
    simpa using this
  · refine .keep hin (by omega) hφ (fun b hb => ?_) (fun b k hb hk => ?_) (fun b k hb => ?_) (fun b1 b2 k1 k2 h1 h2 _ => ?_)
    · show n ≤ if b < n then b else b + 3
      split <;> omega
    · rw [aget_cons, aget_cons, aget_cons, aget_cons, if_neg (by omega), if_neg (by omega), if_neg (by omega), if_neg (by omega)]
      exact hk
    · obtain ⟨e, rfl⟩ := aget_one hb
      rw [e]
      refine ⟨by omega, by omega, .row true (rowsC w l), by simp, .row (fun h => h) (VReL.refl (m := n) hφ ?_ |>.mono (by omega))⟩
      intro x hx
      simp only [rowsC, List.mem_map] at hx
      obtain ⟨y, _, rfl⟩ := hx
      exact .i _ _
    · rw [(aget_one h1).1, (aget_one h2).1]
end Go.Proofs.Ytpgelghkjiejlaa
end
section
namespace Go.Proofs.Ytpgelghkjiejlaa
open Go
def okH (st : St) (fr fw : List Nat) (n1 : Nat) (R : Heap) : Bool :=
  decide (st.n ≤ n1) && (fr ++ fw).all (fun b => decide (b < st.n)) && fw.all (fun b => match aget st.H b with | some (.row true _) => true | _ => false) && ownB R fw st.n n1
def finH (o : AOper) (st : St) : V × Nat × Heap → Option (DStep × St)
  | (v, n1, R) =>
    if okH st (frR st.T o.op) (fwOp st.T o.op) n1 R then
      some (⟨o.op.slots ++ gslots o.guard, o.dst, frR st.T o.op, fwOp st.T o.op, st.n, n1, v, R⟩, ⟨putT st.T o.dst v, st.D, n1, mergeH st.H (fwOp st.T o.op) st.n n1 R⟩) else none
def stepH (o : AOper) (st : St) : Bool → Option (DStep × St)
  | false => some (⟨gslots o.guard, o.dst, [], [], st.n, st.n, .un, []⟩, ⟨putT st.T o.dst .un, st.D, st.n, st.H⟩)
  | true => (evalOp st.T st.n (restr st.H (frR st.T o.op) (fwOp st.T o.op)) o.op).bind (finH o st)
def consH (s : DStep) : List DStep × St → Option (List DStep × St)
  | (l, st) => some (s :: l, st)
mutual
def runH : List AOper → St → Option (List DStep × St)
  | [], st => some ([], st)
  | o :: os, st => ((guardOf st.T o.guard).bind (stepH o st)).bind (nextH os)
def nextH (os : List AOper) : DStep × St → Option (List DStep × St)
  | (s, st) => (runH os st).bind (consH s)
end
section rules
variable {P : Program} {N : Nat}
theorem okH_ok {st : St} {fr fw : List Nat} {n1 : Nat} {R : Heap} (h : okH st fr fw n1 R = true) : okD st fr fw n1 R := by
  simp only [okH, Bool.and_eq_true, List.all_eq_true, decide_eq_true_eq] at h
  obtain ⟨⟨⟨h1, h2⟩, h3⟩, h4⟩ := h
  refine ⟨h1, h2, fun b hb => ?_, ownB_ok h4⟩
  have := h3 b hb
  split at this
  · rename_i cs hcs; exact ⟨cs, hcs⟩
  · cases this
theorem runH_ok {K : List DStep → St → Prop} : ∀ {l l' : List AOper} {st st' : St} {acc steps : List DStep}, (l.all fun o => o.op.cok) = true → runH l st = some (steps, st') → drawF P l' st' (acc ++ steps) K → drawF P (l ++ l') st acc K := by
  intro l
  induction l with
  | nil => intro l' st st' acc steps _ h hk; simp only [runH, Option.some.injEq, Prod.mk.injEq] at h; obtain ⟨rfl, rfl⟩ := h; simpa using hk
  | cons o os ih =>
    intro l' st st' acc steps hc h hk
    rw [List.cons_append]
    simp only [List.all_cons, Bool.and_eq_true] at hc
    unfold runH at h
    cases hg : guardOf st.T o.guard with
    | none => rw [hg] at h; cases h
    | some b =>
      rw [hg] at h
      cases b with
      | false =>
        simp only [Option.bind_some, stepH, nextH] at h
        cases hr : runH os ⟨putT st.T o.dst .un, st.D, st.n, st.H⟩ with
        | none => rw [hr] at h; cases h
        | some x =>
          obtain ⟨l1, st1⟩ := x
          rw [hr] at h
          simp only [Option.bind_some, consH, Option.some.injEq, Prod.mk.injEq] at h
          obtain ⟨rfl, rfl⟩ := h
          exact drawF_skip hg (ih hc.2 hr (by simpa using hk))
      | true =>
        simp only [Option.bind_some, stepH] at h
        cases hev : evalOp st.T st.n (restr st.H (frR st.T o.op) (fwOp st.T o.op)) o.op with
        | none => rw [hev] at h; cases h
        | some x =>
          obtain ⟨v, n1, R⟩ := x
          rw [hev] at h
          simp only [Option.bind_some, finH] at h
          split at h
          · rename_i hok
            simp only [Option.bind_some, nextH] at h
            cases hr : runH os ⟨putT st.T o.dst v, st.D, n1, mergeH st.H (fwOp st.T o.op) st.n n1 R⟩ with
            | none => rw [hr] at h; cases h
            | some x =>
              obtain ⟨l1, st1⟩ := x
              rw [hr] at h
              simp only [Option.bind_some, consH, Option.some.injEq, Prod.mk.injEq] at h
              obtain ⟨rfl, rfl⟩ := h
              exact drawF_op hg (fun g l hx => by rw [hx] at hev; cases hev) hev hc.1 (okH_ok hok) (ih hc.2 hr (by simpa using hk))
          · cases h
theorem drawF_run (k : Nat) {l : List AOper} {st st' : St} {acc steps : List DStep} {K : List DStep → St → Prop} (hc : ((l.take k).all fun o => o.op.cok) = true) (h : runH (l.take k) st = some (steps, st')) (hk : drawF P (l.drop k) st' (acc ++ steps) K) : drawF P l st acc K := by
  have := runH_ok (P := P) hc h hk
  rwa [List.take_append_drop] at this
theorem drawF_all {l : List AOper} {st st' : St} {acc steps : List DStep} {K : List DStep → St → Prop} (hc : (l.all fun o => o.op.cok) = true) (h : runH l st = some (steps, st')) (hk : K (acc ++ steps) st') : drawF P l st acc K := by
  have := runH_ok (P := P) (l' := []) hc h hk
  rwa [List.append_nil] at this
/-- A call that lays blocks, and looks at none. -/
theorem drawF_callN {o : AOper} {os : List AOper} {st : St} {acc : List DStep} {K : List DStep → St → Prop} {g : AX} {args : List AX} {f : FuncId} {first caps : List V} {v : V} {n1 : Nat} {R : Heap} (hg : guardOf st.T o.guard = some true) (ho : o.op = .call g args) (hgv : g.val st.T = .fn f first caps)
    (hc : ACalls P f (first ++ args.map (·.val st.T) ++ caps) st.n [] (fun v' n' H' => v' = v ∧ n' = n1 ∧ H' = R)) (hn : st.n ≤ n1) (hown : ownB R [] st.n n1 = true) (hin : inDB st.n n1 [] v R = true)
    (h : drawF P os ⟨putT st.T o.dst v, st.D, n1, mergeH st.H [] st.n n1 R⟩ (acc ++ [⟨(AOp.call g args).slots ++ gslots o.guard, o.dst, [], [], st.n, n1, v, R⟩]) K) : drawF P (o :: os) st acc K :=
  drawF_call hg ho hgv (fr := []) (fw := []) hc ⟨hn, by simp, by simp, ownB_ok hown⟩ (inDB_ok hin) h
end rules
theorem AWc.alikeH {P : Program} {N : Nat} {rd : Option Nat} {ac : ACode} {T : Temps} {D : List Nat} {n : Nat} {H H' : Heap} {Q : Exit → St → Prop} (h : ∀ i, aget H i = aget H' i) (a : AWc P N rd ac ⟨T, D, n, H⟩ Q) : AWc P N rd ac ⟨T, D, n, H'⟩ Q :=
  AWc.alike (s := ⟨T, D, n, H⟩) (t := ⟨T, D, n, H'⟩) ⟨fun _ => rfl, rfl, rfl, h⟩ a
theorem callV_yl {P : Program} {l : Nat} {args : List V} {n : Nat} {H : Heap} {K : V → Nat → Heap → Prop} (h : YCalls P l args n H K) : callV P (.yl l) args n H K := h
theorem callV_fn {P : Program} {f : FuncId} {first caps args : List V} {n : Nat} {H : Heap} {K : V → Nat → Heap → Prop} (h : ACalls P f (first ++ args ++ caps) n H K) : callV P (.fn f first caps) args n H K := h
theorem ACalls.enters {P : Program} {f : FuncId} {af : AFun} (hf : prepF P f = some af) (h : True) : EntersF P f := by
  unfold prepF at hf
  split at hf
  · rename_i fn hfn
    split at hf
    · cases hf
    · rename_i hname
      split at hf
      · rename_i c hc
        intro args w
        have hnm : fn.name ≠ "runtime.NumGoroutine" := by simpa using hname
        simp [callFunc, hfn, hnm, hc]
      · cases hf
  · cases hf
/-- Some of what the slots hold is forgotten. -/
theorem AWc.forget {P : Program} {N : Nat} {rd : Option Nat} {ac : ACode} {T T0 : Temps} {D : List Nat} {n : Nat} {H : Heap} {Q : Exit → St → Prop} (hT : (T0.map fun p => aget T p.1) = T0.map fun p => some p.2) (a : AWc P N rd ac ⟨T0, D, n, H⟩ Q) : AWc P N rd ac ⟨T, D, n, H⟩ Q := by
  intro c hp ρ F m x w hF hA
  refine a c hp ρ F m x w hF ⟨⟨hA.tm.1, fun i v hv => hA.tm.2 i v ?_⟩, hA.mr, hA.sim⟩
  have hmem := aget_mem hv
  have := List.map_inj_left.1 hT (i, v) hmem
  exact this
def TReL (φ : Nat → Nat) (m : Nat) : Temps → Temps → Prop
  | [], _ => True
  | (i, v) :: r, T => (∃ v', aget T i = some v' ∧ VRe φ m v v') ∧ TReL φ m r T
theorem TReL.spec {φ : Nat → Nat} {m : Nat} {T : Temps} : ∀ {T0 : Temps}, TReL φ m T0 T → TRe φ m T0 T
  | [], _ => fun i v h => by simp at h
  | (j, u) :: r, h => fun i v hv => by
    rw [aget_cons] at hv
    split at hv
    · rename_i e; cases hv; subst e; exact h.1
    · exact TReL.spec h.2 i v hv
/-- What stood below m is left alone; what came is forgotten. -/
theorem HRe.same {m : Nat} {H0 H' : Heap} (hin : HIn m H0) (h : ∀ b, b < m → aget H' b = aget H0 b) : HRe id m H0 H' :=
  ⟨fun b k hb => ⟨(hin b k hb).1, k, (h b (hin b k hb).1).trans hb, .old (Nat.le_refl _) (fun _ _ => rfl) (hin b k hb).2⟩, fun _ _ _ _ _ _ h => h⟩
theorem VRe.id_of {m : Nat} {v : V} (h : VIn m v) : VRe id m v v := .refl (fun _ _ => rfl) h
theorem HIn.cons' {n : Nat} {H : Heap} {b : Nat} {k : Blk} (hb : b < n) (hk : BIn n k) (h : HIn n H) : HIn n ((b, k) :: H) := fun i u hu => by
  rw [aget_cons] at hu
  split at hu
  · rename_i e; cases hu; subst e; exact ⟨hb, hk⟩
  · exact h i u hu
theorem HIn.nil' (n : Nat) : HIn n [] := fun b k h => by simp at h
attribute [simp] runH nextH stepH finH consH okH ownB merge_none aget_mergeH touch frR AOp.slots gslots xslots AX.slots oslots
end Go.Proofs.Ytpgelghkjiejlaa
end
section
set_option maxRecDepth 4000
namespace Go.Proofs.Ytpgelghkjiejlaa
open Go

theorem laid_ok (w : Bool) (s : List UInt8) (n : Nat) (H : Heap) : ACalls Try.prog 28 [.ag (fontC w), .s s] n H fun v n' H' =>
    v = .fn 42 [] [.p (n + 1) 0, .p n 0] ∧ n' = n + 2 ∧ H' = (n + 1, .row true [.s s]) :: (n, .row true (fontC w)) :: H := by
  refine .enter0 F28_ok (by simp [F28]) ?_
  refine .seq (.ops (opsF_all (by simp; rfl) ?_))
  refine .seq (.ops (opsF_all (by simp; rfl) ?_))
  exact .ret (by simp [F28])
/-- How wide the letters are together. -/
def pw (w : Bool) (s : List UInt8) : Nat := (s.map fun b => fW w (plc b)).sum
/-- The first letter behind which the column lies no more. -/
def atF (w : Bool) (dx : Int) : Nat → Nat → List UInt8 → Nat
  | _, i, [] => i
  | acc, i, b :: bs => if dx < ((acc + fW w (plc b) : Nat) : Int) then i else atF w dx (acc + fW w (plc b)) (i + 1) bs
def atN (w : Bool) (s : List UInt8) (dx : Int) : Nat := if dx < 0 then 0 else atF w dx 0 0 (s.take 4096)
/-- The heap in a range over a text's letters: the loop's record, the marks, the text, the font; C is what the consumer has. -/
def hL (w : Bool) (s : List UInt8) (r : ALoop) (C : Heap) : Heap := (7, .loop r) :: (6, .marks) :: (5, .row true [.s s]) :: (4, .row true (fontC w)) :: C
theorem fW_le (w : Bool) (l : Nat) : fW w l ≤ 8 := by unfold fW; split <;> omega
theorem pw_cons (w : Bool) (b : UInt8) (s : List UInt8) : pw w (b :: s) = fW w (plc b) + pw w s := by simp [pw]
theorem pw_append (w : Bool) (s t : List UInt8) : pw w (s ++ t) = pw w s + pw w t := by simp [pw]
theorem pw_le (w : Bool) (s : List UInt8) : pw w s ≤ 8 * s.length := by
  induction s with
  | nil => simp [pw]
  | cons b s ih => have := fW_le w (plc b); rw [pw_cons, List.length_cons]; omega
theorem pw_succ (w : Bool) (s : List UInt8) (i : Nat) (h : i < s.length) : pw w (s.take (i + 1)) = pw w (s.take i) + fW w (plc s[i]) := by
  rw [List.take_add_one, List.getElem?_eq_getElem h, pw_append]
  simp [pw]
theorem laid1_ok (w : Bool) (s : List UInt8) (r : ALoop) (hr : BIn 8 (.loop r)) (C : Nat → Heap) (hC : ∀ i, HIn 4 (C i)) (I : Nat → Prop) (hI : I 0) (F : Nat → Heap → Prop)
    (hy : ∀ (i : Nat) (hi : i < s.length), i < 4096 → I i → YCalls Try.prog 7 [.i .i64 (pw w (s.take i)), .ag [.i .i64 (fW w (plc s[i])), .sl 8 0 1 (fH w) true]] 10
      ((9, .row true [.i .i64 (fW w (plc s[i])), .sl 8 0 1 (fH w) true]) :: (8, .row true (rowsC w (plc s[i]))) :: hL w s r (C i))
      fun v n' H' => (v = .b true ∧ I (i + 1) ∧ (∀ b, b < 8 → aget H' b = aget (hL w s r (C (i + 1))) b) ∧ aget H' 9 = some (.row true [.i .i64 (fW w (plc s[i])), .sl 8 0 1 (fH w) true])) ∨ (v = .b false ∧ F n' H')) :
    ACalls Try.prog 42 [.yl 7, .p 5 0, .p 4 0] 8 (hL w s r (C 0)) fun _ n' H' => (I (min 4096 s.length) ∧ ∀ b, b < 8 → aget H' b = aget (hL w s r (C (min 4096 s.length))) b) ∨ F n' H' := by
  have hin : ∀ i, HIn 8 (hL w s r (C i)) := fun i => .cons' (by omega) hr (.cons' (by omega) trivial (.cons' (by omega) (by intro x hx; rw [List.mem_singleton.1 hx]; exact .s _) (.cons' (by omega) (fontC_in w _) ((hC i).mono (by omega)))))
  have g5 : ∀ C, aget (hL w s r C) 5 = some (.row true [.s s]) := fun C => by simp [hL]
  have g4 : ∀ C, aget (hL w s r C) 4 = some (.row true (fontC w)) := fun C => by simp [hL]
  refine .enter0 F42_ok (by simp [F42]) ?_
  refine .seq (.ops (opsF_all (by simp; rfl) ?_))
  refine .seq (.ops (opsF_run 1 (by simp [g5]; rfl) ?_))
  refine opsF_cons_call rfl rfl rfl (v := .s (s.take 4096)) (by simpa using counted_pure s _ _) ?_
  refine opsF_all (by simp; rfl) ?_
  refine .block (.loopR (φ₀ := id) (k₀ := min 4096 s.length) (s₀ := ⟨[(0, .yl 7), (1, .p 5 0), (2, .p 4 0), (4, .i .i64 0), (9, .i .i64 (min 4096 s.length : Nat)), (10, .i .i64 0)], [], 8, hL w s r (C 0)⟩)
    (fun k st => ∃ i, i ≤ min 4096 s.length ∧ I i ∧ k = min 4096 s.length - i ∧ st = ⟨[(0, .yl 7), (1, .p 5 0), (2, .p 4 0), (4, .i .i64 (pw w (s.take i))), (9, .i .i64 (min 4096 s.length : Nat)), (10, .i .i64 i)], [], 8, hL w s r (C i)⟩)
    ⟨0, by omega, hI, by omega, by simp [pw]⟩ ⟨TReL.spec ?_, rfl, by simp, .same (hin 0) fun _ _ => rfl⟩ (fun b hb => rfl) (fun k st ⟨i, h1, _, h2, h3⟩ => by simp [h3]) ?_)
  · simp only [TReL, and_true]
    simp
    refine ⟨VRe.yl (φ := id) (by omega), VRe.p (φ := id) (by omega), VRe.p (φ := id) (by omega), .i _ _, .i _ _, .i _ _⟩
  rintro k st ⟨i, h1, hIi, rfl, rfl⟩
  by_cases hi : i < min 4096 s.length
  · have hi1 : i < s.length := by omega
    have hi2 : i < 4096 := by omega
    have hpb := pw_le w (s.take (i + 1))
    have hps := pw_succ w s i hi1
    have hwr : IntKind.i64.wrap ((pw w (s.take i) : Int) + (fW w (plc s[i]) : Int)) = (pw w (s.take (i + 1)) : Int) := by
      rw [hps, IntWalk.i64_in _ (by simp at hpb; omega)]
      simp
    have hwi : IntKind.i64.wrap ((i : Int) + 1) = ((i + 1 : Nat) : Int) := IntWalk.i64_in _ (by omega)
    have hi' : (i : Int) < (min 4096 s.length : Nat) := by omega
    refine .seq (.ops (opsF_all (by simp only [runS]; simp [hi']; rfl) ?_))
    refine .seq (.cond (t := true) (by simp) (.skip ?_))
    refine .seq (.block (.seq (.ops (opsF_all (by simp; rfl) ?_))))
    have hg : s[i]? = some s[i] := List.getElem?_eq_getElem hi1
    refine .seq (.draw (drawF_run 4 (by rfl) (by simp [g4, g5, hg]; exact ⟨rfl, rfl⟩) ?_))
    refine drawF_callN (v := .ag [.i .i64 (fW w (plc s[i])), .sl 8 0 1 (fH w) true]) (n1 := 9) (R := [(8, .row true (rowsC w (plc s[i])))]) rfl rfl rfl (glyph_ok w s[i] 8 []) (by simp) (by simp [Blk.own]) ?_ ?_
    · simp [inDB, vinB, binB, rowsC]
    refine drawF_all (by rfl) (by simp [setAll, Blk.own]; exact ⟨rfl, rfl⟩) ⟨by rfl, ?_⟩
    refine AWc.alikeH (H := (9, .row true [.i .i64 (fW w (plc s[i])), .sl 8 0 1 (fH w) true]) :: (8, .row true (rowsC w (plc s[i]))) :: hL w s r (C i)) (fun b => ?_) ?_
    · simp only [aget_mergeH, aget_cons, touch, aget_nil, List.contains_cons, List.contains_nil]
      by_cases e9 : b = 9
      · subst e9; simp
      · by_cases e8 : b = 8
        · subst e8; simp
        · simp only [Bool.or_eq_true, Bool.and_eq_true, decide_eq_true_eq, beq_iff_eq, Bool.or_false]
          repeat' split
          all_goals first | rfl | (simp_all; done) | (exfalso; simp_all; omega)
    refine .seq (.seq (.ops (opsF_run 3 (by simp; rfl) ?_)))
    refine opsF_call rfl rfl (callV_yl (YCalls.mono (hy i hi1 hi2 hIi) ?_))
    rintro v n' H' (⟨rfl, hI1, h8, h9⟩ | ⟨rfl, hF⟩)
    · refine opsF_all (by simp; rfl) ?_
      refine .cond (t := false) (by simp) (.skip ?_)
      refine .ops (opsF_all (by simp [h9, hwr]; rfl) ?_)
      refine .ops (opsF_all (by simp [hwi]; rfl) ?_)
      refine ⟨min 4096 s.length - (i + 1), id, _, by omega, ⟨i + 1, by omega, hI1, rfl, rfl⟩, fun _ _ => rfl, ⟨TReL.spec ?_, rfl, by simp, .same (hin (i + 1)) h8⟩⟩
      simp only [TReL, and_true]
      simp
      exact ⟨VRe.yl (φ := id) (by omega), VRe.p (φ := id) (by omega), VRe.p (φ := id) (by omega), .i _ _, .i _ _, .i _ _⟩
    · refine opsF_all (by simp; rfl) ?_
      refine .cond (t := true) (by simp) (.ret ?_)
      simp [F42, hF]
  · have hi' : ¬ (i : Int) < (min 4096 s.length : Nat) := by omega
    obtain rfl : i = min 4096 s.length := by omega
    refine .seq (.ops (opsF_all (by simp only [runS]; simp; rfl) ?_))
    refine .seq (.cond (t := false) (by simp) (.exit ?_))
    simp [F42, hIi]
theorem TIn_of {n : Nat} {T : Temps} (h : ∀ p ∈ T, VIn n p.2) : ∀ i v, aget T i = some v → VIn n v := fun i v hv => h (i, v) (aget_mem hv)
/-- Before letter i the answer is not yet given. -/
theorem atF_step (w : Bool) (dx : Int) (s : List UInt8) (i : Nat) (h : i < s.length) : atF w dx (pw w (s.take i)) i (s.drop i) = if dx < ((pw w (s.take (i + 1)) : Nat) : Int) then i else atF w dx (pw w (s.take (i + 1))) (i + 1) (s.drop (i + 1)) := by
  rw [List.drop_eq_getElem_cons h, atF, pw_succ w s i h]
def atAs : ACode := (.seq (.ops none [⟨(some 8), (.mv (.t 15)), none⟩])
      (.ops none [⟨(some 9), (.new [(.i .i64 0), .nils]), none⟩,
        ⟨none, (.st 2 (.t 9) (.t 16)), none⟩]))
def atBo : ACode := (.block 1 (.seq (.seq (.ops none [⟨(some 17), (.ld false 1 (.t 5)), none⟩,
         ⟨(some 18), (.mv (.t 8)), none⟩,
         ⟨(some 19), (.fa 0 (.t 9)), none⟩,
         ⟨(some 20), (.ld false 1 (.t 19)), none⟩,
         ⟨(some 21), (.bin .add (.t 18) (.t 20)), none⟩,
         ⟨(some 22), (.bin .lss (.t 17) (.t 21)), none⟩])
       (.cond (.t 22)
        (.seq (.ops none [⟨(some 23), (.ld false 1 (.t 7)), none⟩,
          ⟨none, (.st 1 (.t 6) (.t 23)), none⟩])
         (.ret))
        (.skip)))
       (.ops none [⟨(some 24), (.ld false 1 (.t 7)), none⟩,
        ⟨(some 25), (.bin .add (.t 24) (.c (.i .i64 1))), none⟩,
        ⟨none, (.st 1 (.t 7) (.t 25)), none⟩])))
def fitBo : ACode := (.block 1 (.seq (.seq (.ops none [⟨(some 17), (.mv (.t 8)), none⟩,
         ⟨(some 18), (.fa 0 (.t 9)), none⟩,
         ⟨(some 19), (.ld false 1 (.t 18)), none⟩,
         ⟨(some 20), (.bin .add (.t 17) (.t 19)), none⟩,
         ⟨(some 21), (.ld false 1 (.t 5)), none⟩,
         ⟨(some 22), (.bin .gtr (.t 20) (.t 21)), none⟩])
       (.cond (.t 22)
        (.seq (.ops none [⟨(some 23), (.ld false 1 (.t 7)), none⟩,
          ⟨none, (.st 1 (.t 6) (.t 23)), none⟩])
         (.ret))
        (.skip)))
       (.ops none [⟨(some 24), (.ld false 1 (.t 7)), none⟩,
        ⟨(some 25), (.bin .add (.t 24) (.c (.i .i64 1))), none⟩,
        ⟨none, (.st 1 (.t 7) (.t 25)), none⟩])))
def atT (w : Bool) (s : List UInt8) (dx : Int) : Temps := [(0, .ag (fontC w)), (1, .s s), (2, .i .i64 dx), (3, .p 0 0), (5, .p 1 0), (6, .p 2 0), (10, .i .i64 dx), (11, .b false), (7, .p 3 0), (12, .ag (fontC w)), (13, .s s), (14, .fn 42 [] [.p 5 0, .p 4 0])]
/-- The record of the range in At, and in Fit. -/
def atRec (w : Bool) (s : List UInt8) (dx : Int) (body : ACode) : ALoop := ⟨.ready, none, 27, atT w s dx, [15, 16], atAs, body, 6⟩
/-- What At and Fit have beside the range. -/
def atC (w : Bool) (dx : Int) (i : Nat) : Heap := [(3, .row true [.i .i64 i]), (2, .row true [.i .i64 0]), (1, .row true [.i .i64 dx]), (0, .row true (fontC w))]
def atF' (w : Bool) (s : List UInt8) (dx : Int) (n' : Nat) (H' : Heap) : Prop := (∃ r, aget H' 7 = some (.loop r) ∧ r.st ≠ .busy ∧ r.pend = some .ret) ∧ aget H' 6 = some .marks ∧ aget H' 2 = some (.row true [.i .i64 (atN w s dx)])
theorem at_yield (w : Bool) (s : List UInt8) (dx : Int) (i : Nat) (hi : i < s.length) (hi2 : i < 4096) (hI : atF w dx (pw w ((s.take 4096).take i)) i ((s.take 4096).drop i) = atN w s dx) :
    YCalls Try.prog 7 [.i .i64 (pw w (s.take i)), .ag [.i .i64 (fW w (plc s[i])), .sl 8 0 1 (fH w) true]] 10
      ((9, .row true [.i .i64 (fW w (plc s[i])), .sl 8 0 1 (fH w) true]) :: (8, .row true (rowsC w (plc s[i]))) :: hL w s (atRec w s dx atBo) (atC w dx i))
      fun v n' H' => (v = .b true ∧ atF w dx (pw w ((s.take 4096).take (i + 1))) (i + 1) ((s.take 4096).drop (i + 1)) = atN w s dx ∧ (∀ b, b < 8 → aget H' b = aget (hL w s (atRec w s dx atBo) (atC w dx (i + 1))) b) ∧ aget H' 9 = some (.row true [.i .i64 (fW w (plc s[i])), .sl 8 0 1 (fH w) true])) ∨ (v = .b false ∧ atF' w s dx n' H') := by
  have ht : (s.take 4096).take i = s.take i := by rw [List.take_take]; congr 1; omega
  have ht1 : (s.take 4096).take (i + 1) = s.take (i + 1) := by rw [List.take_take]; congr 1; omega
  have hst := atF_step w dx (s.take 4096) i (by simp; omega)
  rw [ht, ht1] at hst
  rw [ht1]
  rw [ht, hst] at hI
  have hpb := pw_le w (s.take (i + 1))
  have hps := pw_succ w s i hi
  have hwr : IntKind.i64.wrap ((pw w (s.take i) : Int) + (fW w (plc s[i]) : Int)) = (pw w (s.take (i + 1)) : Int) := by
    rw [hps, IntWalk.i64_in _ (by simp at hpb; omega)]
    simp
  have hwi : IntKind.i64.wrap ((i : Int) + 1) = ((i + 1 : Nat) : Int) := IntWalk.i64_in _ (by omega)
  generalize hp0 : pw w (s.take i) = p0 at hwr ⊢
  generalize hp1 : pw w (s.take (i + 1)) = p1 at hwr hI ⊢
  generalize fW w (plc s[i]) = g at hwr ⊢
  generalize rowsC w (plc s[i]) = rows
  refine ⟨atRec w s dx atBo, by simp [hL], by simp [atRec], by simp [atRec], ?_⟩
  refine AWc.seq (.ops (opsF_all (by simp [atRec, atT, putAll]; rfl) ?_))
  refine .ops (opsF_all (by simp [hL, setAll]; rfl) ?_)
  refine ⟨rfl, rfl, atRec w s dx atBo, by simp [atRec, atT], rfl, ?_⟩
  refine AWc.block (.seq (.seq (.ops (opsF_all (by simp [atC, hwr]; rfl) ?_))))
  by_cases hd : dx < (p1 : Int)
  · rw [if_pos hd] at hI
    refine .cond (t := true) (by simp [hd]) (.seq (.ops (opsF_all (by simp [setAll]; rfl) ?_)))
    exact .ret ⟨_, rfl, .inr ⟨rfl, ⟨_, rfl, by simp, rfl⟩, rfl, by rw [← hI]; rfl⟩⟩
  · rw [if_neg hd] at hI
    refine .cond (t := false) (by simp [hd]) (.skip ?_)
    refine .ops (opsF_all (by simp [setAll, hwi]; rfl) ?_)
    refine ⟨_, rfl, .inl ⟨rfl, hI, fun b hb => ?_, rfl⟩⟩
    have : b = 0 ∨ b = 1 ∨ b = 2 ∨ b = 3 ∨ b = 4 ∨ b = 5 ∨ b = 6 ∨ b = 7 := by omega
    rcases this with rfl | rfl | rfl | rfl | rfl | rfl | rfl | rfl <;> rfl
theorem fit_yield (w : Bool) (s : List UInt8) (dx : Int) (i : Nat) (hi : i < s.length) (hi2 : i < 4096) (hI : atF w dx (pw w ((s.take 4096).take i)) i ((s.take 4096).drop i) = atN w s dx) :
    YCalls Try.prog 7 [.i .i64 (pw w (s.take i)), .ag [.i .i64 (fW w (plc s[i])), .sl 8 0 1 (fH w) true]] 10
      ((9, .row true [.i .i64 (fW w (plc s[i])), .sl 8 0 1 (fH w) true]) :: (8, .row true (rowsC w (plc s[i]))) :: hL w s (atRec w s dx fitBo) (atC w dx i))
      fun v n' H' => (v = .b true ∧ atF w dx (pw w ((s.take 4096).take (i + 1))) (i + 1) ((s.take 4096).drop (i + 1)) = atN w s dx ∧ (∀ b, b < 8 → aget H' b = aget (hL w s (atRec w s dx fitBo) (atC w dx (i + 1))) b) ∧ aget H' 9 = some (.row true [.i .i64 (fW w (plc s[i])), .sl 8 0 1 (fH w) true])) ∨ (v = .b false ∧ atF' w s dx n' H') := by
  have ht : (s.take 4096).take i = s.take i := by rw [List.take_take]; congr 1; omega
  have ht1 : (s.take 4096).take (i + 1) = s.take (i + 1) := by rw [List.take_take]; congr 1; omega
  have hst := atF_step w dx (s.take 4096) i (by simp; omega)
  rw [ht, ht1] at hst
  rw [ht1]
  rw [ht, hst] at hI
  have hpb := pw_le w (s.take (i + 1))
  have hps := pw_succ w s i hi
  have hwr : IntKind.i64.wrap ((pw w (s.take i) : Int) + (fW w (plc s[i]) : Int)) = (pw w (s.take (i + 1)) : Int) := by
    rw [hps, IntWalk.i64_in _ (by simp at hpb; omega)]
    simp
  have hwi : IntKind.i64.wrap ((i : Int) + 1) = ((i + 1 : Nat) : Int) := IntWalk.i64_in _ (by omega)
  generalize hp0 : pw w (s.take i) = p0 at hwr ⊢
  generalize hp1 : pw w (s.take (i + 1)) = p1 at hwr hI ⊢
  generalize fW w (plc s[i]) = g at hwr ⊢
  generalize rowsC w (plc s[i]) = rows
  refine ⟨atRec w s dx fitBo, by simp [hL], by simp [atRec], by simp [atRec], ?_⟩
  refine AWc.seq (.ops (opsF_all (by simp [atRec, atT, putAll]; rfl) ?_))
  refine .ops (opsF_all (by simp [hL, setAll]; rfl) ?_)
  refine ⟨rfl, rfl, atRec w s dx fitBo, by simp [atRec, atT], rfl, ?_⟩
  refine AWc.block (.seq (.seq (.ops (opsF_all (by simp [atC, hwr]; rfl) ?_))))
  by_cases hd : dx < (p1 : Int)
  · rw [if_pos hd] at hI
    refine .cond (t := true) (by simp [hd]) (.seq (.ops (opsF_all (by simp [setAll]; rfl) ?_)))
    exact .ret ⟨_, rfl, .inr ⟨rfl, ⟨_, rfl, by simp, rfl⟩, rfl, by rw [← hI]; rfl⟩⟩
  · rw [if_neg hd] at hI
    refine .cond (t := false) (by simp [hd]) (.skip ?_)
    refine .ops (opsF_all (by simp [setAll, hwi]; rfl) ?_)
    refine ⟨_, rfl, .inl ⟨rfl, hI, fun b hb => ?_, rfl⟩⟩
    have : b = 0 ∨ b = 1 ∨ b = 2 ∨ b = 3 ∨ b = 4 ∨ b = 5 ∨ b = 6 ∨ b = 7 := by omega
    rcases this with rfl | rfl | rfl | rfl | rfl | rfl | rfl | rfl <;> rfl
theorem at_ok (w : Bool) (s : List UInt8) (dx : Int) : ACalls Try.prog 10 [.ag (fontC w), .s s, .i .i64 dx] 0 [] fun v _ _ => v = .i .i64 (atN w s dx) := by
  refine .enter F10_ok (by simp [F10]) ?_
  refine .seq (.ops (opsF_all (by simp; rfl) ?_))
  by_cases h0 : dx < 0
  · refine .seq (.seq (.ops (opsF_all (by simp [h0]; rfl) ?_)))
    refine .cond (t := true) (by simp [h0]) (.seq (.ops (opsF_all (by simp [setAll]; rfl) ?_)))
    exact .ret (by simp [F10, delAll, atN, h0])
  refine .seq (.seq (.ops (opsF_all (by simp [h0]; rfl) ?_)))
  refine .cond (t := false) (by simp [h0]) (.skip ?_)
  refine .seq (.ops (opsF_all (by simp [setAll]; rfl) ?_))
  refine .seq (.seq (.ops (opsF_run 2 (by simp; rfl) ?_)))
  refine opsF_call rfl rfl (callV_fn (ACalls.mono (laid_ok w s _ _) ?_))
  rintro _ _ _ ⟨rfl, rfl, rfl⟩
  refine opsF_nil ?_
  refine .block (.rangeF_top (by simp; exact ⟨rfl, rfl, rfl⟩) ?_)
  refine ACalls.mono (laid1_ok w s (atRec w s dx atBo) ⟨by simp [atRec], TIn_of ?_⟩ (fun i => atC w dx i) (fun i => ?_)
    (fun i => atF w dx (pw w ((s.take 4096).take i)) i ((s.take 4096).drop i) = atN w s dx) (by simp [atN, h0, pw]) (atF' w s dx) (fun i hi hi2 hI => at_yield w s dx i hi hi2 hI)) ?_
  · simp only [atRec, atT]
    intro p hp
    simp at hp
    rcases hp with rfl | rfl | rfl | rfl | rfl | rfl | rfl | rfl | rfl | rfl | rfl | rfl
    all_goals first | exact ag_in | exact .s _ | exact .i _ _ | exact .p (by omega) | exact .b _ | skip
    exact .fn (by simp) (by intro x hx; simp at hx; rcases hx with rfl | rfl <;> exact .p (by omega))
  · refine .cons' (by omega) (by simp [BIn, VIn.i]) (.cons' (by omega) (by simp [BIn, VIn.i]) (.cons' (by omega) (by simp [BIn, VIn.i]) (.cons' (by omega) (fontC_in w _) (.nil' _))))
  · rintro v n' H' (⟨hI, h8⟩ | ⟨⟨r, h7, hr, hp⟩, h6, h2⟩)
    · refine ⟨_, h8 7 (by omega), by simp [atRec], ?_⟩
      have g3 : aget (adel H' 7) 3 = some (.row true [.i .i64 (min 4096 s.length : Nat)]) := by rw [aget_del, if_neg (by omega)]; exact h8 3 (by omega)
      have g2 : aget (adel H' 7) 2 = some (.row true [.i .i64 0]) := by rw [aget_del, if_neg (by omega)]; exact h8 2 (by omega)
      have g6 : aget (adel H' 7) 6 = some .marks := by rw [aget_del, if_neg (by omega)]; exact h8 6 (by omega)
      have hend : atN w s dx = min 4096 s.length := by
        rw [← hI, List.drop_of_length_le (by simp)]
        rfl
      simp only [atRec]
      refine AWc.seq (.ops (opsF_all (by simp [g3, g2, setAll]; rfl) ?_))
      refine .ret ⟨.inr rfl, ?_, by simp, ?_⟩
      · simp [aget_put, g6]
      · simp [F10, delAll, aget_del, aget_put, hend]
    · refine ⟨r, h7, hr, ?_⟩
      rw [hp]
      refine ⟨.inr rfl, ?_, by simp, ?_⟩
      · simp [aget_del, h6]
      · simp [F10, delAll, aget_del, h2]
theorem at_pure (w : Bool) (s : List UInt8) (dx : Int) (n : Nat) (H : Heap) : Pure Try.prog 10 [.ag (fontC w), .s s, .i .i64 dx] n H (.i .i64 (atN w s dx)) :=
  .of0 (at_ok w s dx) (by
    intro x hx
    simp at hx
    rcases hx with rfl | rfl | rfl
    · exact ag_in
    · exact .s _
    · exact .i _ _) (.i _ _) n H
theorem fit_ok (w : Bool) (s : List UInt8) (dx : Int) : ACalls Try.prog 12 [.ag (fontC w), .s s, .i .i64 dx] 0 [] fun v _ _ => v = .i .i64 (atN w s dx) := by
  refine .enter F12_ok (by simp [F12]) ?_
  refine .seq (.ops (opsF_all (by simp; rfl) ?_))
  by_cases h0 : dx < 0
  · refine .seq (.seq (.ops (opsF_all (by simp [h0]; rfl) ?_)))
    refine .cond (t := true) (by simp [h0]) (.seq (.ops (opsF_all (by simp [setAll]; rfl) ?_)))
    exact .ret (by simp [F12, delAll, atN, h0])
  refine .seq (.seq (.ops (opsF_all (by simp [h0]; rfl) ?_)))
  refine .cond (t := false) (by simp [h0]) (.skip ?_)
  refine .seq (.ops (opsF_all (by simp [setAll]; rfl) ?_))
  refine .seq (.seq (.ops (opsF_run 2 (by simp; rfl) ?_)))
  refine opsF_call rfl rfl (callV_fn (ACalls.mono (laid_ok w s _ _) ?_))
  rintro _ _ _ ⟨rfl, rfl, rfl⟩
  refine opsF_nil ?_
  refine .block (.rangeF_top (by simp; exact ⟨rfl, rfl, rfl⟩) ?_)
  refine ACalls.mono (laid1_ok w s (atRec w s dx fitBo) ⟨by simp [atRec], TIn_of ?_⟩ (fun i => atC w dx i) (fun i => ?_)
    (fun i => atF w dx (pw w ((s.take 4096).take i)) i ((s.take 4096).drop i) = atN w s dx) (by simp [atN, h0, pw]) (atF' w s dx) (fun i hi hi2 hI => fit_yield w s dx i hi hi2 hI)) ?_
  · simp only [atRec, atT]
    intro p hp
    simp at hp
    rcases hp with rfl | rfl | rfl | rfl | rfl | rfl | rfl | rfl | rfl | rfl | rfl | rfl
    all_goals first | exact ag_in | exact .s _ | exact .i _ _ | exact .p (by omega) | exact .b _ | skip
    exact .fn (by simp) (by intro x hx; simp at hx; rcases hx with rfl | rfl <;> exact .p (by omega))
  · refine .cons' (by omega) (by simp [BIn, VIn.i]) (.cons' (by omega) (by simp [BIn, VIn.i]) (.cons' (by omega) (by simp [BIn, VIn.i]) (.cons' (by omega) (fontC_in w _) (.nil' _))))
  · rintro v n' H' (⟨hI, h8⟩ | ⟨⟨r, h7, hr, hp⟩, h6, h2⟩)
    · refine ⟨_, h8 7 (by omega), by simp [atRec], ?_⟩
      have g3 : aget (adel H' 7) 3 = some (.row true [.i .i64 (min 4096 s.length : Nat)]) := by rw [aget_del, if_neg (by omega)]; exact h8 3 (by omega)
      have g2 : aget (adel H' 7) 2 = some (.row true [.i .i64 0]) := by rw [aget_del, if_neg (by omega)]; exact h8 2 (by omega)
      have g6 : aget (adel H' 7) 6 = some .marks := by rw [aget_del, if_neg (by omega)]; exact h8 6 (by omega)
      have hend : atN w s dx = min 4096 s.length := by
        rw [← hI, List.drop_of_length_le (by simp)]
        rfl
      simp only [atRec]
      refine AWc.seq (.ops (opsF_all (by simp [g3, g2, setAll]; rfl) ?_))
      refine .ret ⟨.inr rfl, ?_, by simp, ?_⟩
      · simp [aget_put, g6]
      · simp [F12, delAll, aget_del, aget_put, hend]
    · refine ⟨r, h7, hr, ?_⟩
      rw [hp]
      refine ⟨.inr rfl, ?_, by simp, ?_⟩
      · simp [aget_del, h6]
      · simp [F12, delAll, aget_del, h2]
theorem fit_pure (w : Bool) (s : List UInt8) (dx : Int) (n : Nat) (H : Heap) : Pure Try.prog 12 [.ag (fontC w), .s s, .i .i64 dx] n H (.i .i64 (atN w s dx)) :=
  .of0 (fit_ok w s dx) (by
    intro x hx
    simp at hx
    rcases hx with rfl | rfl | rfl
    · exact ag_in
    · exact .s _
    · exact .i _ _) (.i _ _) n H
end Go.Proofs.Ytpgelghkjiejlaa
end
section
set_option maxRecDepth 4000
namespace Go.Proofs.Ytpgelghkjiejlaa
open Go

theorem HIn.self {n : Nat} {H : Heap} (h : HIn n H) : HRe id n H H := .same h fun _ _ => rfl
theorem font1_in (w : Bool) : HIn 1 [(0, .row true (fontC w))] := .cons' (by omega) (fontC_in w _) (.nil' _)
theorem width_pure (w : Bool) (s : List UInt8) (hs : s.length ≤ 100000) (n : Nat) (H : Heap) : Pure Try.prog 14 [.ag (fontC w), .s s] n H (.i .i64 (pw w s)) := by
  refine .of0 (.enter0 F14_ok (by simp [F14]) ?_) (by
    intro x hx
    simp at hx
    rcases hx with rfl | rfl
    · exact ag_in
    · exact .s _) (.i _ _) n H
  refine .seq (.ops (opsF_all (by simp; rfl) ?_))
  refine .seq (.ops (opsF_all (by simp; rfl) ?_))
  refine .seq (.seq (.ops (opsF_all (by simp; rfl) ?_)))
  refine .block (.loopR (φ₀ := id) (k₀ := s.length) (s₀ := ⟨[(1, .s s), (2, .p 0 0), (5, .i .i64 0), (8, .i .i64 s.length), (9, .i .i64 0)], [], 1, [(0, .row true (fontC w))]⟩)
    (fun k st => ∃ i, i ≤ s.length ∧ k = s.length - i ∧ st = ⟨[(1, .s s), (2, .p 0 0), (5, .i .i64 (pw w (s.take i))), (8, .i .i64 s.length), (9, .i .i64 i)], [], 1, [(0, .row true (fontC w))]⟩)
    ⟨0, by omega, by omega, by simp [pw]⟩ ⟨TReL.spec ?_, rfl, by simp, (font1_in w).self⟩ (fun b hb => rfl) (fun k st ⟨i, h1, h2, h3⟩ => by simp [h3]) ?_)
  · simp only [TReL, and_true]
    simp
    exact ⟨.s _, VRe.p (φ := id) (by omega), .i _ _, .i _ _, .i _ _⟩
  rintro k st ⟨i, h1, rfl, rfl⟩
  by_cases hi : i < s.length
  · have hpb := pw_le w (s.take (i + 1))
    have hps := pw_succ w s i hi
    have hwr : IntKind.i64.wrap ((pw w (s.take i) : Int) + (fW w (plc s[i]) : Int)) = (pw w (s.take (i + 1)) : Int) := by
      rw [hps, IntWalk.i64_in _ (by simp at hpb; omega)]
      simp
    have hwi : IntKind.i64.wrap ((i : Int) + 1) = ((i + 1 : Nat) : Int) := IntWalk.i64_in _ (by omega)
    have hi' : (i : Int) < s.length := by omega
    have hg : s[i]? = some s[i] := List.getElem?_eq_getElem hi
    have hpl := plc_lt s[i]
    have hpp := fun n H => place_pure s[i] n H
    generalize hl : plc s[i] = l at hpl hpp hwr
    have hc : (fontC w)[2 + l * 17]? = some (.i .i64 (fW w l)) := by rw [fontC_get w (by omega), fC_w w hpl]
    have hl1 : (l : Int) < 95 := by omega
    refine .seq (.ops (opsF_all (by simp [hi']; rfl) ?_))
    refine .seq (.cond (t := true) (by simp [hi']) (.skip ?_))
    refine .seq (.block (.seq (.ops (opsF_all (by simp; rfl) ?_))))
    refine .ops (opsF_run 4 (by simp [hg]; rfl) ?_)
    refine opsF_cons_call rfl rfl rfl (v := .i .i64 l) (by simpa using hpp _ _) ?_
    refine opsF_run 2 (by simp [hl1]; rfl) ?_
    refine opsF_all (by simp [hc, hwr]; rfl) ?_
    refine .ops (opsF_all (by simp [hwi]; rfl) ?_)
    refine ⟨s.length - (i + 1), id, _, by omega, ⟨i + 1, by omega, rfl, rfl⟩, fun _ _ => rfl, ⟨TReL.spec ?_, rfl, by simp, (font1_in w).self⟩⟩
    simp only [TReL, and_true]
    simp
    exact ⟨.s _, VRe.p (φ := id) (by omega), .i _ _, .i _ _, .i _ _⟩
  · have hi' : ¬ (i : Int) < s.length := by omega
    obtain rfl : i = s.length := by omega
    refine .seq (.ops (opsF_all (by simp; rfl) ?_))
    refine .seq (.cond (t := false) (by simp) (.exit ?_))
    refine AWc.seq (.ops (opsF_all (by simp; rfl) ?_))
    exact .ret (by simp [F14])
/-- A slice of so many cells, from a block's beginning. -/
def slW (id len : Nat) : V := if len = 0 then .nils else .sl id 0 1 len false
@[simp] theorem slW_known (id len : Nat) : (slW id len).known = true := by unfold slW; split <;> rfl
@[simp] theorem slW_one (id len : Nat) : (slW id len).one = true := by unfold slW; split <;> rfl
@[simp high] theorem slW_len (id len : Nat) : evLen false (slW id len) = some (.i .i64 len) := by
  unfold slW
  split
  · rename_i h; subst h; rfl
  · rfl
theorem slW_ias (id len i : Nat) (h : i < len) : evIas 1 (slW id len) (.i .i64 i) = some (.p id i) := by
  unfold slW
  rw [if_neg (by omega)]
  have h1 : (0 : Int) ≤ (i : Int) ∧ (i : Int) < (len : Int) := by omega
  simp [evIas, h1]
theorem slW_in {id len n : Nat} (h : len ≠ 0 → id < n) : VIn n (slW id len) := by
  unfold slW
  split
  · exact .nils
  · exact .sl (h (by assumption))
/-- The widths of a text's letters. -/
def cellsW (w : Bool) (s : List UInt8) : List V := s.map fun b => .i .i64 (fW w (plc b))
theorem cellsW_get (w : Bool) (s : List UInt8) (i : Nat) (h : i < s.length) : (cellsW w s)[i]? = some (.i .i64 (fW w (plc s[i]))) := by
  simp [cellsW, h]
theorem atF_neg (w : Bool) (dx : Int) (h : dx < 0) (s : List UInt8) : atF w dx 0 0 s = 0 := by
  cases s with
  | nil => rfl
  | cons b s => rw [atF, if_pos (by omega)]
theorem refAt_pure (w : Bool) (s : List UInt8) (hs : s.length ≤ 100000) (a : Nat) (R A B : V) (hR : R.known = true) (hA : A.known = true) (hB : B.known = true) (dx : Int) (n : Nat) (H : Heap) (ha : s ≠ [] → a < n ∧ ∃ o, aget H a = some (.row o (cellsW w s))) :
    Pure Try.prog 11 [.ag [slW a s.length, R, A, B], .i .i64 dx] n H (.i .i64 (atF w dx 0 0 s)) := by
  refine Pure.of_drop ?_ (.i _ _)
  suffices h : HIn n H → (∀ x ∈ [V.ag [slW a s.length, R, A, B], .i .i64 dx], VIn n x) → ACalls Try.prog 11 [.ag [slW a s.length, R, A, B], .i .i64 dx] n H (fun v' n' H' => v' = .i .i64 (atF w dx 0 0 s) ∧ ∀ b k, aget H b = some k → aget H' b = some k) from
    .withIn (ACalls.enters F11_ok trivial) h
  intro hin hargs
  have hbox : BIn (n + 1) (.row true [slW a s.length, R, A, B]) := by
    have := hargs (.ag [slW a s.length, R, A, B]) (by simp)
    cases this with
    | ag h => exact fun x hx => (h x hx).mono (by omega)
  have hinn : HIn (n + 1) ((n, .row true [slW a s.length, R, A, B]) :: H) := .cons' (by omega) hbox (hin.mono (by omega))
  have hold : ∀ b k, aget H b = some k → aget ((n, Blk.row true [slW a s.length, R, A, B]) :: H) b = some k := fun b k hb => by
    have := (hin b k hb).1
    rw [aget_cons, if_neg (by omega)]
    exact hb
  refine .enter0 F11_ok (by simp [F11]) ?_
  refine .seq (.ops (opsF_all (by simp [-evLen]; rfl) ?_))
  refine .seq (.ops (opsF_all (by simp [-evLen]; rfl) ?_))
  refine .seq (.seq (.ops (opsF_all (by simp [-evLen]; rfl) ?_)))
  refine .block (.loopR (φ₀ := id) (k₀ := s.length) (s₀ := ⟨[(1, .i .i64 dx), (2, .p n 0), (5, .i .i64 0), (6, .i .i64 0)], [], n + 1, (n, .row true [slW a s.length, R, A, B]) :: H⟩)
    (fun k st => ∃ i, i ≤ s.length ∧ atF w dx (pw w (s.take i)) i (s.drop i) = atF w dx 0 0 s ∧ k = s.length - i ∧ st = ⟨[(1, .i .i64 dx), (2, .p n 0), (5, .i .i64 (pw w (s.take i))), (6, .i .i64 i)], [], n + 1, (n, .row true [slW a s.length, R, A, B]) :: H⟩)
    ⟨0, by omega, by simp [pw], by omega, by simp [pw]⟩ ⟨TReL.spec ?_, rfl, by simp, hinn.self⟩ (fun b hb => rfl) (fun k st ⟨i, h1, _, h2, h3⟩ => by simp [h3]) ?_)
  · simp only [TReL, and_true]
    simp
    repeat' (first | exact VRe.i _ _ | exact VRe.p (φ := id) (by omega) | exact VRe.s _ | exact VRe.yl (φ := id) (by omega) | exact VRe.b _ | apply And.intro)
  rintro k st ⟨i, h1, hI, rfl, rfl⟩
  by_cases hi : i < s.length
  · obtain ⟨ha1, o, ha2⟩ := ha (by rintro rfl; simp at hi)
    have hst := atF_step w dx s i hi
    rw [hst] at hI
    have hpb := pw_le w (s.take (i + 1))
    have hps := pw_succ w s i hi
    have hwr : IntKind.i64.wrap ((pw w (s.take i) : Int) + (fW w (plc s[i]) : Int)) = (pw w (s.take (i + 1)) : Int) := by
      rw [hps, IntWalk.i64_in _ (by simp at hpb; omega)]
      simp
    have hwi : IntKind.i64.wrap ((i : Int) + 1) = ((i + 1 : Nat) : Int) := IntWalk.i64_in _ (by omega)
    have hi' : (i : Int) < s.length := by omega
    have hc := cellsW_get w s i hi
    have hias := slW_ias a s.length i hi
    have hna : ¬ n = a := by omega
    generalize hp0 : pw w (s.take i) = p0 at hwr ⊢
    generalize hp1 : pw w (s.take (i + 1)) = p1 at hwr hI ⊢
    generalize fW w (plc s[i]) = g at hwr hc ⊢
    refine .seq (.seq (.ops (opsF_all (by simp [-evLen, hi']; rfl) ?_)))
    refine .cond (t := true) (by simp [hi']) (.skip ?_)
    refine .seq (.block (.seq (.ops (opsF_run 4 (by simp; rfl) ?_))))
    refine opsF_all (by simp [-evIas, hias, hna, ha2, hc, hwr]; rfl) ?_
    by_cases hd : dx < (p1 : Int)
    · rw [if_pos hd] at hI
      refine .seq (.ops (opsF_all (by simp [hd]; rfl) ?_))
      refine .cond (t := true) (by simp) (.seq (.ops (opsF_all (by simp [-evLen]; rfl) ?_)))
      refine .ret ?_
      simp [F11, hI]
      exact hold
    · rw [if_neg hd] at hI
      refine .seq (.ops (opsF_all (by simp [hd]; rfl) ?_))
      refine .cond (t := false) (by simp) (.skip ?_)
      refine .ops (opsF_all (by simp [hwi]; rfl) ?_)
      refine ⟨s.length - (i + 1), id, _, by omega, ⟨i + 1, by omega, by rw [hp1]; exact hI, rfl, rfl⟩, fun _ _ => rfl, ⟨TReL.spec ?_, rfl, by simp, hinn.self⟩⟩
      simp only [TReL, and_true]
      simp
      rw [hp1]
      repeat' (first | exact VRe.i _ _ | exact VRe.p (φ := id) (by omega) | exact VRe.s _ | exact VRe.yl (φ := id) (by omega) | exact VRe.b _ | apply And.intro)
  · have hi' : ¬ (i : Int) < s.length := by omega
    obtain rfl : i = s.length := by omega
    have hend : atF w dx 0 0 s = s.length := by rw [← hI, List.drop_of_length_le (by omega)]; rfl
    refine .seq (.seq (.ops (opsF_all (by simp [-evLen]; rfl) ?_)))
    refine .cond (t := false) (by simp) (.exit ?_)
    refine AWc.seq (.ops (opsF_all (by simp [-evLen]; rfl) ?_))
    refine .ret ?_
    simp [F11, hend]
    exact hold
theorem refFit_pure (w : Bool) (s : List UInt8) (hs : s.length ≤ 100000) (a : Nat) (R A B : V) (hR : R.known = true) (hA : A.known = true) (hB : B.known = true) (dx : Int) (n : Nat) (H : Heap) (ha : s ≠ [] → a < n ∧ ∃ o, aget H a = some (.row o (cellsW w s))) :
    Pure Try.prog 13 [.ag [slW a s.length, R, A, B], .i .i64 dx] n H (.i .i64 (atF w dx 0 0 s)) := by
  refine Pure.of_drop ?_ (.i _ _)
  suffices h : HIn n H → (∀ x ∈ [V.ag [slW a s.length, R, A, B], .i .i64 dx], VIn n x) → ACalls Try.prog 13 [.ag [slW a s.length, R, A, B], .i .i64 dx] n H (fun v' n' H' => v' = .i .i64 (atF w dx 0 0 s) ∧ ∀ b k, aget H b = some k → aget H' b = some k) from
    .withIn (ACalls.enters F13_ok trivial) h
  intro hin hargs
  have hbox : BIn (n + 1) (.row true [slW a s.length, R, A, B]) := by
    have := hargs (.ag [slW a s.length, R, A, B]) (by simp)
    cases this with
    | ag h => exact fun x hx => (h x hx).mono (by omega)
  have hinn : HIn (n + 1) ((n, .row true [slW a s.length, R, A, B]) :: H) := .cons' (by omega) hbox (hin.mono (by omega))
  have hold : ∀ b k, aget H b = some k → aget ((n, Blk.row true [slW a s.length, R, A, B]) :: H) b = some k := fun b k hb => by
    have := (hin b k hb).1
    rw [aget_cons, if_neg (by omega)]
    exact hb
  refine .enter0 F13_ok (by simp [F13]) ?_
  refine .seq (.ops (opsF_all (by simp [-evLen]; rfl) ?_))
  refine .seq (.ops (opsF_all (by simp [-evLen]; rfl) ?_))
  refine .seq (.seq (.ops (opsF_all (by simp [-evLen]; rfl) ?_)))
  refine .block (.loopR (φ₀ := id) (k₀ := s.length) (s₀ := ⟨[(1, .i .i64 dx), (2, .p n 0), (5, .i .i64 0), (6, .i .i64 0)], [], n + 1, (n, .row true [slW a s.length, R, A, B]) :: H⟩)
    (fun k st => ∃ i, i ≤ s.length ∧ atF w dx (pw w (s.take i)) i (s.drop i) = atF w dx 0 0 s ∧ k = s.length - i ∧ st = ⟨[(1, .i .i64 dx), (2, .p n 0), (5, .i .i64 (pw w (s.take i))), (6, .i .i64 i)], [], n + 1, (n, .row true [slW a s.length, R, A, B]) :: H⟩)
    ⟨0, by omega, by simp [pw], by omega, by simp [pw]⟩ ⟨TReL.spec ?_, rfl, by simp, hinn.self⟩ (fun b hb => rfl) (fun k st ⟨i, h1, _, h2, h3⟩ => by simp [h3]) ?_)
  · simp only [TReL, and_true]
    simp
    repeat' (first | exact VRe.i _ _ | exact VRe.p (φ := id) (by omega) | exact VRe.s _ | exact VRe.yl (φ := id) (by omega) | exact VRe.b _ | apply And.intro)
  rintro k st ⟨i, h1, hI, rfl, rfl⟩
  by_cases hi : i < s.length
  · obtain ⟨ha1, o, ha2⟩ := ha (by rintro rfl; simp at hi)
    have hst := atF_step w dx s i hi
    rw [hst] at hI
    have hpb := pw_le w (s.take (i + 1))
    have hps := pw_succ w s i hi
    have hwr : IntKind.i64.wrap ((pw w (s.take i) : Int) + (fW w (plc s[i]) : Int)) = (pw w (s.take (i + 1)) : Int) := by
      rw [hps, IntWalk.i64_in _ (by simp at hpb; omega)]
      simp
    have hwi : IntKind.i64.wrap ((i : Int) + 1) = ((i + 1 : Nat) : Int) := IntWalk.i64_in _ (by omega)
    have hi' : (i : Int) < s.length := by omega
    have hc := cellsW_get w s i hi
    have hias := slW_ias a s.length i hi
    have hna : ¬ n = a := by omega
    generalize hp0 : pw w (s.take i) = p0 at hwr ⊢
    generalize hp1 : pw w (s.take (i + 1)) = p1 at hwr hI ⊢
    generalize fW w (plc s[i]) = g at hwr hc ⊢
    refine .seq (.seq (.ops (opsF_all (by simp [-evLen, hi']; rfl) ?_)))
    refine .cond (t := true) (by simp [hi']) (.skip ?_)
    refine .seq (.block (.seq (.ops (opsF_run 4 (by simp; rfl) ?_))))
    refine opsF_all (by simp [-evIas, hias, hna, ha2, hc, hwr]; rfl) ?_
    by_cases hd : dx < (p1 : Int)
    · rw [if_pos hd] at hI
      refine .seq (.ops (opsF_all (by simp [hd]; rfl) ?_))
      refine .cond (t := true) (by simp) (.seq (.ops (opsF_all (by simp [-evLen]; rfl) ?_)))
      refine .ret ?_
      simp [F13, hI]
      exact hold
    · rw [if_neg hd] at hI
      refine .seq (.ops (opsF_all (by simp [hd]; rfl) ?_))
      refine .cond (t := false) (by simp) (.skip ?_)
      refine .ops (opsF_all (by simp [hwi]; rfl) ?_)
      refine ⟨s.length - (i + 1), id, _, by omega, ⟨i + 1, by omega, by rw [hp1]; exact hI, rfl, rfl⟩, fun _ _ => rfl, ⟨TReL.spec ?_, rfl, by simp, hinn.self⟩⟩
      simp only [TReL, and_true]
      simp
      rw [hp1]
      repeat' (first | exact VRe.i _ _ | exact VRe.p (φ := id) (by omega) | exact VRe.s _ | exact VRe.yl (φ := id) (by omega) | exact VRe.b _ | apply And.intro)
  · have hi' : ¬ (i : Int) < s.length := by omega
    obtain rfl : i = s.length := by omega
    have hend : atF w dx 0 0 s = s.length := by rw [← hI, List.drop_of_length_le (by omega)]; rfl
    refine .seq (.seq (.ops (opsF_all (by simp [-evLen]; rfl) ?_)))
    refine .cond (t := false) (by simp) (.exit ?_)
    by_cases h0 : dx < 0
    · rw [atF_neg w dx h0] at hend
      refine AWc.seq (.seq (.ops (opsF_all (by simp [h0]; rfl) ?_)))
      refine .cond (t := true) (by simp) (.seq (.ops (opsF_all (by simp [-evLen]; rfl) ?_)))
      refine .ret ?_
      simp [F13, atF_neg w dx h0]
      exact hold
    · refine AWc.seq (.seq (.ops (opsF_all (by simp [h0]; rfl) ?_)))
      refine .cond (t := false) (by simp) (.skip ?_)
      refine .seq (.ops (opsF_all (by simp [-evLen]; rfl) ?_))
      refine .ret ?_
      simp [F13, hend]
      exact hold
end Go.Proofs.Ytpgelghkjiejlaa
end
section
set_option maxRecDepth 4000
namespace Go.Proofs.Ytpgelghkjiejlaa
open Go

@[simp] theorem slW_zero (a : Nat) : slW a 0 = .nils := rfl
@[simp] theorem slW_succ (a i : Nat) : slW a (i + 1) = .sl a 0 1 (i + 1) false := rfl
def hOfW (w : Bool) (s : List UInt8) (i : Nat) : Heap := if i = 0 then [] else [(5, .row true (List.replicate i .un)), (4, .row true (cellsW w (s.take i)))]
theorem hOfW_zero (w : Bool) (s : List UInt8) : hOfW w s 0 = [] := rfl
theorem slW_pos (a : Nat) {i : Nat} (h : i ≠ 0) : slW a i = .sl a 0 1 i false := if_neg h
def hOf (w : Bool) (s : List UInt8) (i : Nat) : Heap := hOfW w s i ++ [(3, .row true [slW 4 i, slW 5 i, .i .i64 (fA w), .i .i64 (fH w)]), (2, .row true [.nils, .nils, .i .i64 0, .i .i64 0]), (1, .row true (fontC w))]
theorem VReL.un {φ : Nat → Nat} {m : Nat} : ∀ {n : Nat} {ys : List V}, ys.length = n → VReL φ m (List.replicate n .un) ys
  | 0, [], _ => trivial
  | n + 1, y :: ys, h => ⟨.un _, VReL.un (by simpa using h)⟩
  | 0, _ :: _, h => by simp at h
  | _ + 1, [], h => by simp at h
theorem cellsW_in (w : Bool) (s : List UInt8) (n : Nat) : ∀ x ∈ cellsW w s, VIn n x := by
  intro x hx
  simp only [cellsW, List.mem_map] at hx
  obtain ⟨b, _, rfl⟩ := hx
  exact .i _ _
theorem rowsC_one (w : Bool) (l : Nat) : (rowsC w l).all V.one = true := by
  rw [List.all_eq_true]
  intro x hx
  simp only [rowsC, List.mem_map] at hx
  obtain ⟨p, _, rfl⟩ := hx
  rfl
@[simp] theorem rowsC_len (w : Bool) (l : Nat) : (rowsC w l).length = fH w := by simp [rowsC]
@[simp] theorem rowsC_take (w : Bool) (l : Nat) : (rowsC w l).take (fH w) = rowsC w l := List.take_of_length_le (by simp)
def ofBody : ACode := (.seq (.ops none [⟨(some 21), (.bin .lss (.t 20) (.t 19)), none⟩])
     (.seq (.cond (.t 21)
       (.skip)
       (.exit 0))
      (.seq (.block 1 (.seq (.ops none [⟨(some 22), (.mv (.t 20)), none⟩,
         ⟨(some 6), (.mv (.t 22)), none⟩])
       (.seq (.ops (some [0, 0, 0, 6, 15, 0, 63]) [⟨(some 23), (.ld true 1617 (.t 2)), none⟩,
         ⟨(some 24), (.mv (.t 1)), none⟩,
         ⟨(some 25), (.mv (.t 6)), none⟩,
         ⟨(some 26), (.ixs (.t 24) (.t 25)), none⟩,
         ⟨(some 27), (.call (.f 27) [(.t 23), (.t 26)]), none⟩,
         ⟨(some 7), (.new [(.i .i64 0), .nils]), none⟩,
         ⟨none, (.st 2 (.t 7) (.t 27)), none⟩])
        (.seq (.ops none [⟨(some 28), (.fa 3 (.t 5)), none⟩,
          ⟨(some 29), (.ld false 1 (.t 28)), none⟩,
          ⟨(some 30), (.mks 1 8 [(.i .i64 0)] (.t 29) (.t 29)), none⟩,
          ⟨(some 8), (.mv (.t 30)), none⟩])
        (.seq (.ops none [⟨(some 31), (.mv (.t 8)), none⟩,
          ⟨(some 32), (.fa 1 (.t 7)), none⟩,
          ⟨(some 33), (.ld false 1 (.t 32)), none⟩,
          ⟨(some 34), (.cpy 1 (.t 31) (.t 33)), none⟩])
         (.ops (some [0, 1, 0, 4, 12, 31, 0, 64, 0, 256, 1023, 255, 4095, 8191, 16383]) [⟨(some 35), (.fa 0 (.t 5)), none⟩,
          ⟨(some 36), (.ld false 1 (.t 35)), none⟩,
          ⟨(some 37), (.fa 0 (.t 7)), none⟩,
          ⟨(some 38), (.ld false 1 (.t 37)), none⟩,
          ⟨(some 39), (.lit 1 1 [(.i .i64 0)] [(0, (.t 38))]), none⟩,
          ⟨(some 40), (.app 1 8 [(.i .i64 0)] (.t 36) (.t 39)), none⟩,
          ⟨(some 41), (.fa 1 (.t 5)), none⟩,
          ⟨(some 42), (.ld false 1 (.t 41)), none⟩,
          ⟨(some 43), (.mv (.t 8)), none⟩,
          ⟨(some 44), (.lit 1 1 [.nils] [(0, (.t 43))]), none⟩,
          ⟨(some 45), (.app 1 24 [.nils] (.t 42) (.t 44)), none⟩,
          ⟨(some 46), (.fa 0 (.t 5)), none⟩,
          ⟨none, (.st 1 (.t 46) (.t 40)), none⟩,
          ⟨(some 47), (.fa 1 (.t 5)), none⟩,
          ⟨none, (.st 1 (.t 47) (.t 45)), none⟩]))))))
      (.ops none [⟨(some 48), (.bin .add (.t 20) (.c (.i .i64 1))), none⟩,
        ⟨(some 20), (.mv (.t 48)), none⟩]))))
def ofT (s : List UInt8) (i : Nat) : Temps := [(1, .s s), (2, .p 1 0), (4, .p 2 0), (5, .p 3 0), (19, .i .i64 s.length), (20, .i .i64 i)]
def ofφ (b : Nat) : Nat := if b = 4 then 10 else if b = 5 then 12 else b
theorem ofφ_lt {b : Nat} (h : b < 4) : ofφ b = b := by unfold ofφ; rw [if_neg (by omega), if_neg (by omega)]
theorem of_re (w : Bool) (s : List UInt8) (i : Nat) {T' : Temps} {n' : Nat} {H' : Heap} (hT : TReL ofφ 6 (ofT s (i + 1)) T') (a10 : aget H' 10 = some (.row true (cellsW w (s.take (i + 1))))) (a12 : ∃ X, X.length = i + 1 ∧ aget H' 12 = some (.row true X))
    (a3 : aget H' 3 = some (.row true [.sl 10 0 1 (i + 1) false, .sl 12 0 1 (i + 1) false, .i .i64 (fA w), .i .i64 (fH w)])) (a2 : aget H' 2 = some (.row true [.nils, .nils, .i .i64 0, .i .i64 0])) (a1 : aget H' 1 = some (.row true (fontC w))) :
    St.re ofφ ⟨ofT s (i + 1), [], 6, hOf w s (i + 1)⟩ ⟨T', [], n', H'⟩ := by
  refine ⟨hT.spec, rfl, by simp, ⟨fun b k hb => ?_, fun b1 b2 k1 k2 h1 h2 he => ?_⟩⟩
  · simp only [hOf, hOfW, Nat.add_one_ne_zero, if_false, List.cons_append, List.nil_append, aget_cons, slW_succ, aget_nil] at hb
    repeat' split at hb
    · rename_i e; cases hb; subst e
      obtain ⟨X, hX, h12⟩ := a12
      exact ⟨by simp, _, h12, .row (fun h => h) (VReL.un hX)⟩
    · rename_i e; cases hb; subst e
      exact ⟨by simp, _, a10, .row (fun h => h) ((VReL.refl (m := 0) (fun b hb => by omega) (cellsW_in w _ 0)).mono (by omega))⟩
    · rename_i e; cases hb; subst e
      exact ⟨by simp, _, a3, .row (fun h => h) ⟨VRe.sl (φ := ofφ) (id := 4) (by simp) (fun h => h), VRe.sl (φ := ofφ) (id := 5) (by simp) (fun h => h), .i _ _, .i _ _, trivial⟩⟩
    · rename_i e; cases hb; subst e
      exact ⟨by simp, _, a2, .row (fun h => h) ⟨.nils, .nils, .i _ _, .i _ _, trivial⟩⟩
    · rename_i e; cases hb; subst e
      exact ⟨by simp, _, a1, .row (fun h => h) ((VReL.refl (m := 0) (fun b hb => by omega) (fontC_in w 0)).mono (by omega))⟩
    · cases hb
  · have hlt : ∀ b k, aget (hOf w s (i + 1)) b = some k → b < 6 := fun b k hb => by
      simp only [hOf, hOfW, Nat.add_one_ne_zero, if_false, List.cons_append, List.nil_append, aget_cons, slW_succ, aget_nil] at hb
      repeat' split at hb
      all_goals first | omega | cases hb
    have l1 := hlt b1 k1 h1
    have l2 := hlt b2 k2 h2
    unfold ofφ at he
    repeat' split at he
    all_goals omega
set_option maxHeartbeats 2000000 in
theorem of_round (w : Bool) (s : List UInt8) (hs : s.length ≤ 4096) (i : Nat) (hi : i < s.length) (Q : Exit → St → Prop) : AWc Try.prog 50 none ofBody ⟨ofT s i, [], 6, hOf w s i⟩
    (onNormal (fun s' => St.re ofφ ⟨ofT s (i + 1), [], 6, hOf w s (i + 1)⟩ s') Q) := by
  have hi' : (i : Int) < s.length := by omega
  have hg : s[i]? = some s[i] := List.getElem?_eq_getElem hi
  have hwi : IntKind.i64.wrap ((i : Int) + 1) = ((i + 1 : Nat) : Int) := IntWalk.i64_in _ (by omega)
  have hcs : cellsW w (s.take (i + 1)) = cellsW w (s.take i) ++ [.i .i64 (fW w (plc s[i]))] := by
    rw [List.take_add_one, hg]
    simp only [cellsW, List.map_append, Option.toList_some, List.map_cons, List.map_nil]
  have hcl : (cellsW w (s.take i)).length = i := by simp [cellsW]; omega
  have hgl := glyph_ok w s[i] 6 []
  have hH0 : (0 : Int) ≤ (fH w : Int) := by omega
  have hHb : (fH w : Int) * 8 ≤ 140737488355328 ∧ (fH w : Int) ≤ 140737488355328 := by cases w <;> decide
  have hro := rowsC_one w (plc s[i])
  have hrl := rowsC_len w (plc s[i])
  have hrt := rowsC_take w (plc s[i])
  have hrin : inDB 6 7 [] (.ag [.i .i64 (fW w (plc s[i])), .sl 6 0 1 (fH w) true]) [(6, .row true (rowsC w (plc s[i])))] = true := by simp [inDB, vinB, binB, rowsC]
  have hset : setAll (List.replicate (fH w) (V.i .i64 0)) 0 (rowsC w (plc s[i])) = rowsC w (plc s[i]) := setAll_full (by simp)
  generalize rowsC w (plc s[i]) = rows at hgl hro hrl hrin hset hrt
  generalize fW w (plc s[i]) = g at hgl hcs hrin
  by_cases h0 : i = 0
  · subst h0
    have hw : hOf w s 0 = [(3, .row true [.nils, .nils, .i .i64 (fA w), .i .i64 (fH w)]), (2, .row true [.nils, .nils, .i .i64 0, .i .i64 0]), (1, .row true (fontC w))] := by
      simp [hOf, hOfW]
    rw [hw]
    clear hw
    have hi0 : 0 < s.length := hi
    have hwi : IntKind.i64.wrap ((0 : Int) + 1) = 1 := by decide
    have hcs : cellsW w (s.take 1) = [.i .i64 g] := by simpa [cellsW] using hcs
    refine .seq (.ops (opsF_all (by simp [ofT, hi0]; rfl) ?_))
    refine .seq (.cond (t := true) (by simp [hi0]) (.skip ?_))
    refine .seq (.block (.seq (.ops (opsF_all (by simp; rfl) ?_))))
    refine .seq (.draw (drawF_run 4 (by rfl) (by simp [hg]; exact ⟨rfl, rfl⟩) ?_))
    refine drawF_callN rfl rfl rfl hgl (by simp) (by simp [Blk.own]) hrin ?_
    refine drawF_all (by rfl) (by simp [setAll, Blk.own]; exact ⟨rfl, rfl⟩) ⟨by rfl, ?_⟩
    refine AWc.alikeH (H := (7, .row true [.i .i64 g, .sl 6 0 1 (fH w) true]) :: (6, .row true rows) :: (3, .row true [.nils, .nils, .i .i64 (fA w), .i .i64 (fH w)]) :: (2, .row true [.nils, .nils, .i .i64 0, .i .i64 0]) :: (1, .row true (fontC w)) :: []) (fun b => ?_) ?_
    · simp only [aget_mergeH, aget_cons, touch, aget_nil, List.contains_cons, List.contains_nil, hOf, hOfW, List.nil_append, List.cons_append]
      simp only [Bool.or_eq_true, Bool.and_eq_true, decide_eq_true_eq, beq_iff_eq, Bool.or_false]
      repeat' split
      all_goals first | rfl | (simp_all; done) | (exfalso; simp_all; omega)
    refine .seq (.ops (opsF_all (by simp [hH0, hHb]; rfl) ?_))
    refine .seq (.ops (opsF_all (by simp [-List.all_eq_true, hro, hrl, hrt, hset]; rfl) ?_))
    refine AWc.draw (drawF_run 5 (by rfl) (by simp [setAll, Blk.own]; exact ⟨rfl, rfl⟩) ?_)
    refine drawF_run 1 (by rfl) (by simp [adel, setAll, Blk.own]; exact ⟨rfl, rfl⟩) ?_
    refine drawF_run 4 (by rfl) (by simp [setAll, Blk.own]; exact ⟨rfl, rfl⟩) ?_
    refine drawF_run 1 (by rfl) (by simp [adel, setAll, Blk.own]; exact ⟨rfl, rfl⟩) ?_
    refine drawF_all (by rfl) (by simp [setAll, Blk.own]; exact ⟨rfl, rfl⟩) ⟨by rfl, ?_⟩
    refine AWc.ops (opsF_all (by simp [hwi]; rfl) ?_)
    refine of_re w s 0 ?_ ?_ ⟨_, ?_, by simp; rfl⟩ (by simp) (by simp) (by simp)
    · simp only [ofT, TReL, and_true]
      simp
      exact ⟨.s _, VRe.p (φ := ofφ) (id := 1) (by omega), VRe.p (φ := ofφ) (id := 2) (by omega), VRe.p (φ := ofφ) (id := 3) (by omega), .i _ _, .i _ _⟩
    · simp [hcs]
    · simp
  · have hw : hOf w s i = [(5, .row true (List.replicate i .un)), (4, .row true (cellsW w (s.take i))), (3, .row true [.sl 4 0 1 i false, .sl 5 0 1 i false, .i .i64 (fA w), .i .i64 (fH w)]), (2, .row true [.nils, .nils, .i .i64 0, .i .i64 0]), (1, .row true (fontC w))] := by
      simp [hOf, hOfW, h0, slW_pos _ h0]
    rw [hw]
    clear hw
    generalize cellsW w (s.take i) = cs at hcs hcl
    refine .seq (.ops (opsF_all (by simp [ofT, hi']; rfl) ?_))
    refine .seq (.cond (t := true) (by simp) (.skip ?_))
    refine .seq (.block (.seq (.ops (opsF_all (by simp; rfl) ?_))))
    refine .seq (.draw (drawF_run 4 (by rfl) (by simp [hg]; exact ⟨rfl, rfl⟩) ?_))
    refine drawF_callN rfl rfl rfl hgl (by simp) (by simp [Blk.own]) hrin ?_
    refine drawF_all (by rfl) (by simp [setAll, Blk.own]; exact ⟨rfl, rfl⟩) ⟨by rfl, ?_⟩
    refine AWc.alikeH (H := (7, .row true [.i .i64 g, .sl 6 0 1 (fH w) true]) :: (6, .row true rows) :: (5, .row true (List.replicate i .un)) :: (4, .row true cs) :: (3, .row true [.sl 4 0 1 i false, .sl 5 0 1 i false, .i .i64 (fA w), .i .i64 (fH w)]) :: (2, .row true [.nils, .nils, .i .i64 0, .i .i64 0]) :: (1, .row true (fontC w)) :: []) (fun b => ?_) ?_
    · simp only [aget_mergeH, aget_cons, touch, aget_nil, List.contains_cons, List.contains_nil, hOf, hOfW, List.nil_append, List.cons_append]
      simp only [Bool.or_eq_true, Bool.and_eq_true, decide_eq_true_eq, beq_iff_eq, Bool.or_false]
      repeat' split
      all_goals first | rfl | (simp_all; done) | (exfalso; simp_all; omega)
    refine .seq (.ops (opsF_all (by simp [hH0, hHb]; rfl) ?_))
    refine .seq (.ops (opsF_all (by simp [-List.all_eq_true, hro, hrl, hrt, hset]; rfl) ?_))
    have hb1 : i + 1 ≤ 17592186044416 := by omega
    have hb8 : (i + 1) * 8 ≤ 140737488355328 := by omega
    have hb24 : (i + 1) * 24 ≤ 140737488355328 := by omega
    refine AWc.draw (drawF_run 5 (by rfl) (by simp [setAll, Blk.own]; exact ⟨rfl, rfl⟩) ?_)
    refine drawF_run 1 (by rfl) (by simp [adel, setAll, Blk.own, hcl, hb8]; exact ⟨rfl, rfl⟩) ?_
    refine drawF_run 4 (by rfl) (by simp [setAll, Blk.own]; exact ⟨rfl, rfl⟩) ?_
    refine drawF_run 1 (by rfl) (by simp [adel, setAll, Blk.own, hb24]; exact ⟨rfl, rfl⟩) ?_
    refine drawF_all (by rfl) (by simp [setAll, Blk.own]; exact ⟨rfl, rfl⟩) ⟨by rfl, ?_⟩
    refine AWc.ops (opsF_all (by simp [hwi]; rfl) ?_)
    refine of_re w s i ?_ ?_ ⟨_, ?_, by simp; rfl⟩ (by simp) (by simp) (by simp)
    · simp only [ofT, TReL, and_true]
      simp
      exact ⟨.s _, VRe.p (φ := ofφ) (id := 1) (by omega), VRe.p (φ := ofφ) (id := 2) (by omega), VRe.p (φ := ofφ) (id := 3) (by omega), .i _ _, .i _ _⟩
    · have htk : List.take i cs = cs := List.take_of_length_le (by omega)
      simp [hcs, hcl, htk]
    · simp
set_option maxHeartbeats 2000000 in
theorem of_ok0 (w : Bool) (s : List UInt8) (hs : s.length ≤ 4096) : ACalls Try.prog 9 [.ag (fontC w), .s s] 1 [] fun v n' H' => v = .ag [slW 4 s.length, slW 5 s.length, .i .i64 (fA w), .i .i64 (fH w)] ∧
    (s ≠ [] → aget H' 4 = some (.row true (cellsW w s)) ∧ aget H' 5 = some (.row true (List.replicate s.length .un))) := by
  have hL : ((min 4096 s.length : Nat) : Int) = s.length := by omega
  refine .enter0 F9_ok (by simp [F9]) ?_
  refine .seq (.ops (opsF_all (by simp; rfl) ?_))
  refine .seq (.draw (drawF_run 1 (by rfl) (by simp; exact ⟨rfl, rfl⟩) ?_))
  refine drawF_callN (v := .i .i64 (fA w)) (n1 := 3) (R := []) rfl rfl rfl (ascent_pure w 3 []) (by simp) (by simp) rfl ?_
  refine drawF_run 1 (by rfl) (by simp; exact ⟨rfl, rfl⟩) ?_
  refine drawF_callN (v := .i .i64 (fA w)) (n1 := 3) (R := []) rfl rfl rfl (ascent_pure w 3 []) (by simp) (by simp) rfl ?_
  refine drawF_run 1 (by rfl) (by simp; exact ⟨rfl, rfl⟩) ?_
  refine drawF_callN (v := .i .i64 (fD w)) (n1 := 3) (R := []) rfl rfl rfl (descent_pure w 3 []) (by simp) (by simp) rfl ?_
  refine drawF_all (by rfl) (by simp [setAll, Blk.own]; exact ⟨rfl, rfl⟩) ⟨by rfl, ?_⟩
  refine AWc.alikeH (H := hOf w s 0) (fun b => ?_) ?_
  · simp only [aget_mergeH, aget_cons, touch, aget_nil, List.contains_cons, List.contains_nil, hOf, hOfW_zero, List.nil_append, slW_zero]
    simp only [Bool.or_eq_true, Bool.and_eq_true, decide_eq_true_eq, beq_iff_eq, Bool.or_false]
    repeat' split
    all_goals first | rfl | (simp_all; done) | (exfalso; simp_all; omega)
  have hmin : (if (s.length : Int) < 4096 then (s.length : Int) else 4096) = s.length := by split <;> omega
  refine .seq (.seq (.ops (opsF_all (by simp [hmin]; rfl) ?_)))
  refine .block (.loopR (φ₀ := id) (k₀ := s.length) (s₀ := ⟨ofT s 0, [], 6, hOf w s 0⟩)
    (fun k st => ∃ i, i ≤ s.length ∧ k = s.length - i ∧ st = ⟨ofT s i, [], 6, hOf w s i⟩)
    ⟨0, by omega, by omega, rfl⟩ ⟨TReL.spec ?_, rfl, by simp, ?_⟩ (fun b hb => rfl) (fun k st ⟨i, h1, h2, h3⟩ => by simp [h3]) ?_)
  · simp only [ofT, TReL, and_true]
    simp
    repeat' (first | exact VRe.i _ _ | exact VRe.p (φ := id) (by omega) | exact VRe.s _ | apply And.intro)
  · refine .same ?_ fun _ _ => rfl
    simp only [hOf, hOfW_zero, List.nil_append, slW_zero]
    exact .cons' (by simp) (by simp [BIn, VIn.i, VIn.nils]) (.cons' (by simp) (by simp [BIn, VIn.i, VIn.nils]) (.cons' (by simp) (fontC_in w _) (.nil' _)))
  rintro k st ⟨i, h1, rfl, rfl⟩
  by_cases hi : i < s.length
  · refine (of_round w s hs i hi fun _ _ => False).conseq ?_
    intro e st' he
    cases e with
    | normal => exact ⟨s.length - (i + 1), ofφ, _, by omega, ⟨i + 1, by omega, rfl, rfl⟩, fun b hb => ofφ_lt hb, he⟩
    | _ => exact he.elim
  · obtain rfl : i = s.length := by omega
    refine .seq (.ops (opsF_all (by simp [ofT]; rfl) ?_))
    refine .seq (.cond (t := false) (by simp) (.exit ?_))
    have g3 : aget (hOf w s s.length) 3 = some (.row true [slW 4 s.length, slW 5 s.length, .i .i64 (fA w), .i .i64 (fH w)]) := by
      unfold hOf hOfW; split <;> simp
    have g2 : aget (hOf w s s.length) 2 = some (.row true [.nils, .nils, .i .i64 0, .i .i64 0]) := by
      unfold hOf hOfW; split <;> simp
    refine AWc.seq (.ops (opsF_all (by simp [g3, g2, setAll]; rfl) ?_))
    refine .ret ⟨.inr rfl, rfl, _, by simp [F9, aget_put]; rfl, rfl, fun hne => ?_⟩
    have hl0 : s.length ≠ 0 := by simpa using hne
    refine ⟨?_, ?_⟩
    · simp [aget_put, hOf, hOfW, hl0]
    · simp [aget_put, hOf, hOfW, hl0]
end Go.Proofs.Ytpgelghkjiejlaa
end
