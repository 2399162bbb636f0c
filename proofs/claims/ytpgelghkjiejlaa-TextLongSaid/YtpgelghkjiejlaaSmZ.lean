/- The run over trees is sound. -/
import Derived.Test.YtpgelghkjiejlaaSmY
set_option linter.unusedVariables false
set_option linter.unusedSimpArgs false
namespace Go.Proofs.Ytpgelghkjiejlaa
open Go

def isL (e : Exit) (r : RSt) : Exit → St → Prop := fun e' s => e' = e ∧ s.like r
def isG (v : V) (n : Nat) (H : Tr Blk) : V → Nat → Heap → Prop := fun v' n' H' => v' = v ∧ n' = n ∧ ∀ i, aget H' i = H.get i
def okCode (P : Program) (rc : RCode) : Prop := ∀ rounds N rd ac r e r', rc rounds N rd ac r = some (e, r') → ∀ st : St, st.like r → if rounds then ∃ m, ARounds P N rd ac (isL e r') m st else AWc P N rd ac st (isL e r')
def okCall (P : Program) (rf : RCall) : Prop := ∀ f args n H v n' H', rf f args n H = some (v, n', H') → ∀ Hl : Heap, (∀ i, aget Hl i = H.get i) → ACalls P f args n Hl (isG v n' H')
def okKnown (P : Program) (known : FuncId → List V → Option V) : Prop := ∀ f args v, known f args = some v → ∀ n H, ACalls P f args n H fun v' n' H' => v' = v ∧ n' = n ∧ H' = H

section like
theorem valR_eq {T : Temps} {t : Tr V} (h : ∀ i, aget T i = t.get i) (x : AX) : x.val T = x.valR t := by cases x <;> simp [AX.val, AX.valR, h]
theorem guardR_eq {T : Temps} {t : Tr V} (h : ∀ i, aget T i = t.get i) (g : Option (Option Nat × Bool)) : guardOf T g = guardR t g := by
  unfold guardOf guardR
  split
  · rfl
  · rw [h]; rfl
  · rfl
theorem putR_eq {T : Temps} {t : Tr V} (h : ∀ i, aget T i = t.get i) (d : Option Nat) (v : V) (i : Nat) : aget (putT T d v) i = (putR t d v).get i := by
  cases d with
  | none => exact h i
  | some d =>
    simp only [putT, putR, aget_put, Tr.get_set, h]
    by_cases e : d = i
    · subst e; simp
    · rw [if_neg e, if_neg fun h => e h.symm]
theorem putAllR_eq : ∀ (ds : List Nat) (vs : List V) {T : Temps} {t : Tr V}, (∀ i, aget T i = t.get i) → ∀ i, aget (putAll T ds vs) i = (putAllR t ds vs).get i := by
  intro ds
  induction ds with
  | nil => intro vs T t h; cases vs <;> exact h
  | cons d ds ih =>
    intro vs T t h
    cases vs with
    | nil => exact h
    | cons v vs => exact ih vs fun i => putR_eq h (some d) v i
theorem St.like.put {st : St} {r : RSt} (h : st.like r) (d : Option Nat) (v : V) : St.like { st with T := putT st.T d v } { r with T := putR r.T d v } := ⟨putR_eq h.T d v, h.D, h.n, h.H⟩
theorem setH_eq {H : Heap} {t : Tr Blk} (h : ∀ i, aget H i = t.get i) (l : Nat) (k : Blk) (i : Nat) : aget (aput H l k) i = (t.set l (some k)).get i := by
  rw [aget_put, Tr.get_set, h]
  by_cases e : l = i
  · subst e; simp
  · rw [if_neg e, if_neg fun h => e h.symm]
theorem delH_eq {H : Heap} {t : Tr Blk} (h : ∀ i, aget H i = t.get i) (l : Nat) (i : Nat) : aget (adel H l) i = (t.set l none).get i := by
  rw [aget_del, Tr.get_set, h]
  by_cases e : l = i
  · subst e; simp
  · rw [if_neg e, if_neg fun h => e h.symm]
theorem delR_eq : ∀ (ms : List Nat) {H : Heap} {t : Tr Blk}, (∀ i, aget H i = t.get i) → ∀ i, aget (delAll H ms) i = (delR t ms).get i := by
  intro ms
  induction ms with
  | nil => intro H t h; exact h
  | cons m ms ih => intro H t h; exact ih (delH_eq h m)
end like

section sound
variable {P : Program}
theorem rounds_alike {N : Nat} {rd : Option Nat} {ac : ACode} {Q : Exit → St → Prop} {s t : St} (h : s.alike t) : ∀ m, ARounds P N rd ac Q m s → ARounds P N rd ac Q m t := by
  intro m
  cases m with
  | zero => exact id
  | succ m => exact fun g => AWc.alike h g
theorem opsS_mono {K K' : St → Prop} (hk : ∀ s, K s → K' s) : ∀ {l : List AOper} {st : St}, opsS P l st K → opsS P l st K' := by
  intro l
  induction l with
  | nil => intro st h; exact hk _ h
  | cons o os ih =>
    intro st h
    unfold opsS at h
    split at h
    · rename_i hg; exact opsS_skip hg (ih h)
    · rename_i hg
      split at h
      · rename_i g args hop; exact opsS_call hg hop (callV.mono h fun v n' H' hk => ih hk)
      · rename_i hnc
        obtain ⟨fr, fw, v, n1, R, h1, h2, h3⟩ := h
        exact opsS_op hg (fun g l hx => hnc g l hx) h1 h2 (ih h3)
    · exact h.elim
theorem runYield_ok {rc : RCode} (hc : okCode P rc) {l : Nat} {args : List V} {n : Nat} {H : Tr Blk} {v : V} {n' : Nat} {H' : Tr Blk} (h : runYield rc l args n H = some (v, n', H')) (Hl : Heap) (hH : ∀ i, aget Hl i = H.get i) : YCalls P l args n Hl (isG v n' H') := by
  unfold runYield at h
  split at h
  · rename_i r hr
    split at h
    · rename_i hp
      split at h
      · rename_i T1 n1 H1 h1
        split at h
        · rename_i r1 hr1
          split at h
          · rename_i hst
            split at h
            · rename_i e2 s2 h2
              split at h
              · rename_i r2 hr2
                have g1 := hc _ _ _ _ _ _ _ h1 ⟨putAll r.T r.params args, [], n, Hl⟩ ⟨putAllR_eq _ _ fun i => (Tr.get_ofL _ _).symm, rfl, rfl, hH⟩
                simp only [Bool.false_eq_true, if_false] at g1
                refine ⟨r, (hH l).trans hr, hp.1, fun d hd => by have := List.all_eq_true.1 hp.2 d hd; simpa using this, g1.conseq ?_⟩
                rintro e s ⟨rfl, hs⟩
                refine ⟨rfl, hs.D, r1, (hs.H l).trans hr1, hst, ?_⟩
                have g2 := hc _ _ _ _ _ _ _ h2 ⟨s.T, [], s.n, aput s.H l (.loop { r1 with st := .busy })⟩ ⟨hs.T, rfl, hs.n, setH_eq hs.H l _⟩
                simp only [Bool.false_eq_true, if_false] at g2
                refine g2.conseq ?_
                rintro e s' ⟨rfl, hs'⟩
                refine ⟨r2, (hs'.H l).trans hr2, ?_⟩
                split at h <;> first | (cases h; done) | (cases h; exact ⟨rfl, hs'.n, setH_eq hs'.H l _⟩)
              · cases h
            · cases h
          · cases h
        · cases h
      · cases h
    · cases h
  · cases h
theorem runV_ok {rc : RCode} {rf : RCall} (hc : okCode P rc) (hf : okCall P rf) {g : V} {args : List V} {n : Nat} {H : Tr Blk} {v : V} {n' : Nat} {H' : Tr Blk} (h : runV rc rf g args n H = some (v, n', H')) (Hl : Heap) (hH : ∀ i, aget Hl i = H.get i) : callV P g args n Hl (isG v n' H') := by
  unfold runV at h
  unfold callV
  split at h
  · exact hf _ _ _ _ _ _ _ h Hl hH
  · exact runYield_ok hc h Hl hH
  · cases h
theorem map_valR {T : Temps} {t : Tr V} (h : ∀ i, aget T i = t.get i) (args : List AX) : args.map (·.val T) = args.map (·.valR t) := List.map_congr_left fun x _ => valR_eq h x
theorem ev_of {T : Temps} {t : Tr V} (h : ∀ i, aget T i = t.get i) {n : Nat} {R : Heap} {op : AOp} {x : Got} (he : evFast (tslots t op.slots) n R op = x) : evalOp T n R op = x := by
  rw [evFast_eq] at he
  rw [← he]
  exact evalOp_congr _ _ _ fun i hi => by rw [aget_tslots _ _ _ hi, h]
theorem ownB_ok {R : Heap} {fw : List Nat} {n n1 : Nat} (h : ownB R fw n n1 = true) : ∀ p ∈ R, touch fw n n1 p.1 = true → p.2.own = true := by
  intro p hp ht
  have := List.all_eq_true.1 h p hp
  rw [ht] at this
  simpa using this
theorem runOps_ok {rc : RCode} {rf : RCall} (hc : okCode P rc) (hf : okCall P rf) : ∀ {l : List AOper} {r r' : RSt} {st : St}, runOps rc rf l r = some r' → st.like r → opsS P l st (fun s => s.like r') := by
  intro l
  induction l with
  | nil => intro r r' st h hl; cases h; exact hl
  | cons o os ih =>
    intro r r' st h hl
    unfold runOps at h
    split at h
    · rename_i hg; exact opsS_skip ((guardR_eq hl.T _).trans hg) (ih h (hl.put _ _))
    · rename_i hg
      have hg' := (guardR_eq hl.T o.guard).trans hg
      split at h
      · rename_i g args hop
        split at h
        · rename_i v n' H' hv
          refine opsS_call hg' hop (callV.mono (K := isG v n' H') ?_ ?_)
          · rw [valR_eq hl.T, map_valR hl.T, hl.n]
            exact runV_ok hc hf hv _ hl.H
          · rintro a b c ⟨rfl, rfl, h3⟩
            exact ih h ⟨putR_eq hl.T _ _, hl.D, rfl, h3⟩
        · cases h
      · rename_i hnc
        simp only at h
        split at h
        · rename_i v n1 R hev
          split at h
          · rename_i hok
            simp only [Bool.and_eq_true, decide_eq_true_eq] at hok
            obtain ⟨h1, h2⟩ := hok
            have hn := hl.n
            refine opsS_op hg' (fun g l hx => hnc g l hx) (fr := frR (tslots r.T o.op.slots) o.op) (fw := fwOp (tslots r.T o.op.slots) o.op) (v := v) (n1 := n1) (R := R) ?_ ?_ ?_
            · rw [restrH_eq hl.H, hn]; exact ev_of hl.T hev
            · rw [hn]; exact ownB_ok h2
            · refine ih h ⟨putR_eq hl.T _ _, hl.D, rfl, fun i => ?_⟩
              simp only [hn]
              exact get_mergeTr hl.H _ _ _ h1 _ _
          · cases h
        · cases h
    · cases h

/-- What a step took from an operation. -/
def stepOf (s : DStep) (o : AOper) : Prop := (∀ t ∈ s.rs, t ∈ o.op.slots ++ gslots o.guard) ∧ s.dst = o.dst ∧ s.n0 ≤ s.n1
def stepsOf : List DStep → List AOper → Prop
  | [], [] => True
  | s :: ss, o :: os => stepOf s o ∧ stepsOf ss os
  | _, _ => False
theorem okDB_ok {st : St} {r : RSt} (hl : st.like r) {fr fw : List Nat} {n1 : Nat} {R : Heap} (h : okDB r.n r.H fr fw n1 R = true) : okD st fr fw n1 R := by
  simp only [okDB, Bool.and_eq_true, List.all_eq_true, decide_eq_true_eq] at h
  obtain ⟨⟨⟨h1, h2⟩, h3⟩, h4⟩ := h
  refine ⟨by rw [hl.n]; exact h1, fun b hb => by rw [hl.n]; exact h2 b hb, fun b hb => ?_, fun p hp ht => ?_⟩
  · have := h3 b hb
    split at this
    · rename_i cs hcs; exact ⟨cs, (hl.H b).trans hcs⟩
    · cases this
  · rw [hl.n] at ht; exact ownB_ok h4 p hp ht
theorem okDB_le {n : Nat} {H : Tr Blk} {fr fw : List Nat} {n1 : Nat} {R : Heap} (h : okDB n H fr fw n1 R = true) : n ≤ n1 := by
  simp only [okDB, Bool.and_eq_true, decide_eq_true_eq] at h
  exact h.1.1.1
theorem binB_ok {n : Nat} {k : Blk} (h : binB n k = true) : BIn n k := by
  cases k with
  | row o cs => exact fun x hx => vinB_spec (List.all_eq_true.1 h x hx)
  | loop r => cases h
  | marks => trivial
theorem inDB_ok {n n1 : Nat} {fw : List Nat} {v : V} {R : Heap} (h : inDB n n1 fw v R = true) : inD n n1 fw v R := by
  simp only [inDB, Bool.and_eq_true, List.all_eq_true] at h
  refine ⟨vinB_spec h.1, fun p hp ht => ?_⟩
  have := h.2 p hp
  rw [ht] at this
  exact binB_ok (by simpa using this)
theorem gotNew_get (H : Tr Blk) : ∀ (d n0 b : Nat) (k : Blk), aget (gotNew H d n0) b = some k → H.get b = some k := by
  intro d
  induction d with
  | zero => intro n0 b k h; simp [gotNew] at h
  | succ d ih =>
    intro n0 b k h
    unfold gotNew at h
    split at h
    · rename_i k0 hk
      rw [aget_cons] at h
      by_cases e : n0 = b
      · subst e; rw [if_pos rfl] at h; rw [hk]; exact h
      · rw [if_neg e] at h; exact ih _ _ _ h
    · exact ih _ _ _ h
theorem pickT_get (H : Tr Blk) (l : List Nat) (b : Nat) (k : Blk) (h : aget (pickT H id l) b = some k) : H.get b = some k := by
  induction l with
  | nil => simp [pickT] at h
  | cons i l ih =>
    unfold pickT at h
    split at h
    · rename_i k0 hk
      rw [aget_cons] at h
      by_cases e : i = b
      · subst e; rw [if_pos rfl] at h; simp only [id] at hk; rw [hk]; exact h
      · rw [if_neg e] at h; exact ih h
    · exact ih h
theorem acalls_less {f : FuncId} {args : List V} {n : Nat} {Hl : Heap} {v : V} {n1 : Nat} {H1 : Tr Blk} {R : Heap} (h : ACalls P f args n Hl (isG v n1 H1)) (hn : n ≤ n1) (hv : VIn n1 v) (hR : ∀ b k, aget R b = some k → H1.get b = some k) :
    ACalls P f args n Hl fun v' n' H' => v' = v ∧ n' = n1 ∧ H' = R := by
  refine h.weaken ?_
  rintro v' n' H' ⟨rfl, rfl, h3⟩
  exact ⟨n', R, ⟨rfl, rfl, rfl⟩, hn, hv, ⟨Nat.le_refl _, fun b k hb => (h3 b).trans (hR b k hb), .inl rfl⟩⟩
theorem runD_ok {rf : RCall} (hf : okCall P rf) {f : FuncId} {vs : List V} {n : Nat} {H : Tr Blk} {ids fr fw : List Nat} {v : V} {n1 : Nat} {R : Heap} (h : runD rf f vs n H ids = some (fr, fw, v, n1, R)) (Hl : Heap) (hH : ∀ i, aget Hl i = H.get i) (hn : n ≤ n1) (hv : VIn n1 v) :
    ACalls P f vs n (restr Hl fr fw) fun v' n' H' => v' = v ∧ n' = n1 ∧ H' = R := by
  unfold runD at h
  split at h
  · rename_i v1 n2 H1 hx
    cases h
    refine acalls_less (hf _ _ _ _ _ _ _ hx _ fun i => ?_) hn hv (gotNew_get H1 _ _)
    rw [restrH_eq hH, Tr.get_ofL]
  · split at h
    · rename_i v1 n2 H1 hx
      cases h
      refine acalls_less (hf _ _ _ _ _ _ _ hx _ fun i => ?_) hn hv ?_
      · rw [restrH_eq hH, Tr.get_ofL]
      · intro b k hb
        rw [aget_append] at hb
        split at hb
        · rename_i k' hk
          cases hb
          exact pickT_get _ _ _ _ hk
        · exact gotNew_get H1 _ _ _ _ hb
    · cases h
theorem consD_inv {s : DStep} {x : Option (List DStep × RSt)} {steps : List DStep} {r' : RSt} (h : consD s x = some (steps, r')) : ∃ l, x = some (l, r') ∧ steps = s :: l := by
  cases x with
  | none => cases h
  | some p => obtain ⟨l, r⟩ := p; cases h; exact ⟨l, rfl, rfl⟩
theorem runDraw_ok {rf : RCall} (hf : okCall P rf) : ∀ {l : List AOper} {r r' : RSt} {st : St} {acc steps : List DStep}, runDraw rf l r = some (steps, r') → st.like r → drawF P l st acc (fun steps' s' => steps' = acc ++ steps ∧ s'.like r') ∧ stepsOf steps l := by
  intro l
  induction l with
  | nil => intro r r' st acc steps h hl; cases h; exact ⟨⟨(List.append_nil _).symm, hl⟩, trivial⟩
  | cons o os ih =>
    intro r r' st acc steps h hl
    have happ : ∀ (a : List DStep) (s : DStep) (b : List DStep), a ++ [s] ++ b = a ++ s :: b := fun a s b => by simp
    obtain ⟨sT, sD, sn, sH⟩ := st
    obtain ⟨rT, rD, rn, rH⟩ := r
    have hT : ∀ i, aget sT i = rT.get i := hl.T
    have hD : sD = rD := hl.D
    have hn : sn = rn := hl.n
    have hH : ∀ i, aget sH i = rH.get i := hl.H
    subst hD
    subst hn
    unfold runDraw at h
    split at h
    · rename_i hg
      obtain ⟨l', h', rfl⟩ := consD_inv h
      have hl' : St.like ⟨putT sT o.dst .un, sD, sn, sH⟩ ⟨putR rT o.dst .un, sD, sn, rH⟩ := ⟨putR_eq hT _ _, rfl, rfl, hH⟩
      refine ⟨drawF_skip ((guardR_eq hT _).trans hg) (drawF_mono (fun a s hx => ⟨by rw [hx.1]; exact happ _ _ _, hx.2⟩) (ih h' hl').1), ⟨fun t ht => by simpa using Or.inr ht, rfl, Nat.le_refl _⟩, (ih (acc := []) h' hl').2⟩
    · rename_i hg
      have hg' : guardOf sT o.guard = some true := (guardR_eq hT _).trans hg
      split at h
      · rename_i g args hop
        split at h
        · rename_i f first caps hgv
          split at h
          · rename_i fr fw v n1 R hfr
            split at h
            · rename_i hok
              simp only [Bool.and_eq_true] at hok
              obtain ⟨l', h', rfl⟩ := consD_inv h
              have hle := okDB_le hok.1
              have hin := inDB_ok hok.2
              have hl' : St.like ⟨putT sT o.dst v, sD, n1, mergeH sH fw sn n1 R⟩ ⟨putR rT o.dst v, sD, n1, mergeTr rH fw sn n1 R⟩ := ⟨putR_eq hT _ _, rfl, rfl, fun i => get_mergeTr hH _ _ _ hle _ _⟩
              refine ⟨drawF_call hg' hop ((valR_eq hT _).trans hgv) ?_ (okDB_ok hl hok.1) hin (drawF_mono (fun a s hx => ⟨by rw [hx.1]; exact happ _ _ _, hx.2⟩) (ih h' hl').1), ⟨fun t ht => by rw [hop]; exact ht, rfl, hle⟩, (ih (acc := []) h' hl').2⟩
              simp only
              rw [map_valR hT]
              exact runD_ok hf hfr _ hH hle hin.1
            · cases h
          · cases h
        · cases h
      · rename_i hnc
        simp only at h
        split at h
        · rename_i v n1 R hev
          split at h
          · rename_i hok
            simp only [Bool.and_eq_true] at hok
            obtain ⟨l', h', rfl⟩ := consD_inv h
            have hle := okDB_le hok.2
            have hl' : St.like ⟨putT sT o.dst v, sD, n1, mergeH sH (fwOp (tslots rT o.op.slots) o.op) sn n1 R⟩ ⟨putR rT o.dst v, sD, n1, mergeTr rH (fwOp (tslots rT o.op.slots) o.op) sn n1 R⟩ := ⟨putR_eq hT _ _, rfl, rfl, fun i => get_mergeTr hH _ _ _ hle _ _⟩
            refine ⟨drawF_op hg' (fun g l hx => hnc g l hx) ?_ hok.1 (okDB_ok hl hok.2) (drawF_mono (fun a s hx => ⟨by rw [hx.1]; exact happ _ _ _, hx.2⟩) (ih h' hl').1), ⟨fun t ht => ht, rfl, hle⟩, (ih (acc := []) h' hl').2⟩
            simp only
            rw [restrH_eq hH]
            exact ev_of hT hev
          · cases h
        · cases h
    · cases h
/-! what is checked of the code, and of the heap, beside each other -/
theorem slotRow_spec {bj : Nat} {oj : AOper} : ∀ {l : List AOper} {k : Nat}, slotRow bj oj k l = true → ∀ (i : Nat) o, l[i]? = some o → bj.testBit (k + i) = true ∨ slotI o oj = true := by
  intro l
  induction l with
  | nil => intro k _ i s h; simp at h
  | cons s0 l ih =>
    intro k h i s hi
    simp only [slotRow, Bool.and_eq_true, Bool.or_eq_true] at h
    cases i with
    | zero => simp at hi; subst hi; simpa using h.1
    | succ i => have := ih h.2 i s (by simpa using hi); rw [show k + (i + 1) = k + 1 + i by omega]; exact this
theorem slotsOk_spec {befs : List Nat} {all : List AOper} : ∀ {l : List AOper} {j : Nat}, slotsOk befs all j l = true → (∀ i, l[i]? = all[j + i]?) → ∀ (i i' : Nat) si sj, i < j + i' → all[i]? = some si → l[i']? = some sj → (befs.getD (j + i') 0).testBit i = true ∨ slotI si sj = true := by
  intro l
  induction l with
  | nil => intro j _ _ i i' si sj _ _ h; simp at h
  | cons s0 l ih =>
    intro j h hl i i' si sj hlt hi hj
    simp only [slotsOk, Bool.and_eq_true] at h
    cases i' with
    | zero =>
      simp at hj
      subst hj
      have := slotRow_spec h.1 i si (by rw [List.getElem?_take, if_pos (by omega)]; exact hi)
      simpa using this
    | succ i' =>
      have := ih h.2 (fun i => by have := hl (i + 1); rw [show j + 1 + i = j + (i + 1) by omega]; simpa using this) i i' si sj (by omega) hi (by simpa using hj)
      rw [show j + (i' + 1) = j + 1 + i' by omega]; exact this
theorem heapRow_spec {befs : List Nat} {k : Nat} {s : DStep} : ∀ {l : List DStep} {i : Nat}, heapRow befs k s i l = true → ∀ (j : Nat) t, l[j]? = some t → (i + j < k → (befs.getD k 0).testBit (i + j) = true ∨ heapI t s = true) ∧ (k < i + j → (befs.getD (i + j) 0).testBit k = true ∨ heapI s t = true) := by
  intro l
  induction l with
  | nil => intro i _ j t h; simp at h
  | cons t0 l ih =>
    intro i h j t hj
    simp only [heapRow, Bool.and_eq_true] at h
    cases j with
    | zero =>
      simp at hj
      subst hj
      have h1 := h.1
      refine ⟨fun hlt => ?_, fun hlt => ?_⟩
      · rw [if_pos (by simpa using hlt)] at h1
        simpa using h1
      · rw [if_neg (by omega), if_pos (by simpa using hlt)] at h1
        simpa using h1
    | succ j =>
      have := ih h.2 j t (by simpa using hj)
      rw [show i + (j + 1) = i + 1 + j by omega]
      exact this
theorem heapOk_spec {befs : List Nat} {all : List DStep} : ∀ {l : List DStep} {k : Nat}, heapOk befs all k l = true → ∀ (j : Nat) s, l[j]? = some s → heavy s = true → heapRow befs (k + j) s 0 all = true := by
  intro l
  induction l with
  | nil => intro k _ j s h; simp at h
  | cons s0 l ih =>
    intro k h j s hj hv
    simp only [heapOk, Bool.and_eq_true] at h
    cases j with
    | zero =>
      simp at hj
      subst hj
      have h1 := h.1
      rw [if_pos hv] at h1
      exact h1
    | succ j =>
      have := ih h.2 j s (by simpa using hj) hv
      rw [show k + (j + 1) = k + 1 + j by omega]
      exact this
theorem stepsOf_get : ∀ {ss : List DStep} {os : List AOper}, stepsOf ss os → ∀ (j : Nat) s, ss[j]? = some s → ∃ o, os[j]? = some o ∧ stepOf s o := by
  intro ss
  induction ss with
  | nil => intro os _ j s h; simp at h
  | cons s0 ss ih =>
    intro os h j s hj
    cases os with
    | nil => exact h.elim
    | cons o os =>
      cases j with
      | zero => simp at hj; subst hj; exact ⟨o, rfl, h.1⟩
      | succ j => exact ih h.2 j s hj
theorem heapI_light {a b : DStep} (ha : heavy a = false) (hb : heavy b = false) : heapI a b = true := by
  simp only [heavy, Bool.or_eq_false_iff, Bool.not_eq_false', List.isEmpty_iff, decide_eq_false_iff_not] at ha hb
  unfold heapI
  rw [ha.1, hb.1]
  simp
  intro x _
  omega
theorem indep_of {a b : DStep} {oa ob : AOper} (ha : stepOf a oa) (hb : stepOf b ob) (h1 : slotI oa ob = true) (h2 : heapI a b = true) : indep a b = true := by
  obtain ⟨a1, a2, _⟩ := ha
  obtain ⟨b1, b2, _⟩ := hb
  simp only [slotI, Bool.and_eq_true] at h1
  simp only [heapI, Bool.and_eq_true] at h2
  simp only [indep, Bool.and_eq_true]
  refine ⟨⟨⟨⟨?_, ?_⟩, h2.1.1⟩, h2.1.2⟩, h2.2⟩
  · rw [a2, b2]
    cases hd : oa.dst with
    | none => rfl
    | some d =>
      have := h1.1
      rw [hd] at this
      simp only [Bool.and_eq_true, Bool.not_eq_true', List.contains_eq_mem, decide_eq_false_iff_not] at this ⊢
      exact ⟨fun h => this.1 (b1 d h), this.2⟩
  · rw [b2]
    cases hd : ob.dst with
    | none => rfl
    | some d =>
      have := h1.2
      rw [hd] at this
      simp only [Bool.not_eq_true', List.contains_eq_mem, decide_eq_false_iff_not] at this ⊢
      exact fun h => this (a1 d h)
theorem compatRow_of {bj : Nat} {sj : DStep} : ∀ {l : List DStep} {k : Nat}, (∀ (i : Nat) s, l[i]? = some s → bj.testBit (k + i) = true ∨ indep s sj = true) → compatRow bj sj k l = true := by
  intro l
  induction l with
  | nil => intro k _; rfl
  | cons s0 l ih =>
    intro k h
    simp only [compatRow, Bool.and_eq_true, Bool.or_eq_true]
    refine ⟨by simpa using h 0 s0 rfl, ih fun i s hi => ?_⟩
    have := h (i + 1) s (by simpa using hi)
    rw [show k + 1 + i = k + (i + 1) by omega]; exact this
theorem compatB_of {befs : List Nat} {all : List DStep} : ∀ {l : List DStep} {j : Nat}, (∀ i, l[i]? = all[j + i]?) → (∀ (i i' : Nat) si sj, i < i' → all[i]? = some si → all[i']? = some sj → (befs.getD i' 0).testBit i = true ∨ indep si sj = true) → compatB befs all j l = true := by
  intro l
  induction l with
  | nil => intro j _ _; rfl
  | cons s0 l ih =>
    intro j hl h
    simp only [compatB, Bool.and_eq_true]
    refine ⟨compatRow_of fun i s hi => ?_, ih (fun i => by have := hl (i + 1); rw [show j + 1 + i = j + (i + 1) by omega]; simpa using this) h⟩
    rw [List.getElem?_take] at hi
    split at hi
    · rename_i hlt
      rw [Nat.zero_add]
      exact h i j s s0 hlt hi (by have := hl 0; simpa using this.symm)
    · cases hi
theorem compat_ok {befs : List Nat} {steps : List DStep} {l : List AOper} (hs : stepsOf steps l) (h1 : slotsOk befs l 0 l = true) (h2 : heapOk befs steps 0 steps = true) : compatB befs steps 0 steps = true := by
  refine compatB_of (by simp) fun i j si sj hlt hi hj => ?_
  obtain ⟨oi, a1, a2⟩ := stepsOf_get hs i si hi
  obtain ⟨oj, b1, b2⟩ := stepsOf_get hs j sj hj
  have g1 := slotsOk_spec h1 (by simp) i j oi oj (by omega) a1 b1
  rw [Nat.zero_add] at g1
  rcases g1 with g1 | g1
  · exact .inl g1
  have g2 : (befs.getD j 0).testBit i = true ∨ heapI si sj = true := by
    cases hvi : heavy si with
    | true =>
      have := heapRow_spec (heapOk_spec h2 i si hi hvi) j sj hj
      simp only [Nat.zero_add] at this
      exact this.2 hlt
    | false =>
      cases hvj : heavy sj with
      | true =>
        have := heapRow_spec (heapOk_spec h2 j sj hj hvj) i si hi
        simp only [Nat.zero_add] at this
        exact this.1 hlt
      | false => exact .inr (heapI_light hvi hvj)
  exact g2.imp id fun g => indep_of a2 b2 g1 g
theorem runEnd_ok {l : Nat} {st : St} {r : RSt} (hl : st.like r) {e : Exit} {s : RSt} {v : V} {n' : Nat} {H' : Tr Blk} (h : runEnd l r (some (v, n', H')) = some (e, s)) {Hl : Heap} (hH : ∀ i, aget Hl i = H'.get i) : endF l st (isL e s) n' Hl := by
  unfold runEnd at h
  split at h
  · rename_i n'' H'' heq
    cases heq
    split at h
    · rename_i r hr
      split at h
      · cases h
      · rename_i hst
        refine ⟨r, (hH l).trans hr, hst, ?_⟩
        split at h <;> (rename_i hp; rw [hp]; cases h; exact ⟨rfl, hl.T, hl.D, rfl, delH_eq hH l⟩)
    · cases h
  · cases h
theorem nodupB_ok : ∀ {l : List Nat}, nodupB l = true → l.Nodup := by
  intro l
  induction l with
  | nil => intro _; exact List.nodup_nil
  | cons i l ih =>
    intro h
    simp only [nodupB, Bool.and_eq_true, Bool.not_eq_true'] at h
    exact List.nodup_cons.2 ⟨by simpa using h.1, ih h.2⟩
theorem stepCode_ok {rc : RCode} {rf : RCall} (hc : okCode P rc) (hf : okCall P rf) : okCode P (stepCode rc rf) := by
  intro rounds N rd ac r e r' h st hl
  unfold stepCode at h
  cases rounds with
  | true =>
    simp only [if_true] at h ⊢
    split at h
    · rename_i s1 h1
      have g1 := hc _ _ _ _ _ _ _ h1 st hl
      simp only [Bool.false_eq_true, if_false] at g1
      -- the number of further rounds: told by one state, and by all that answer alike
      obtain ⟨m, g2⟩ := hc _ _ _ _ _ _ _ h ⟨s1.T.list, s1.D, s1.n, s1.H.list⟩ ⟨Tr.aget_list _, rfl, rfl, Tr.aget_list _⟩
      refine ⟨m + 1, g1.conseq ?_⟩
      rintro e' s' ⟨rfl, hs'⟩
      exact rounds_alike ⟨fun i => (Tr.aget_list _ i).trans (hs'.T i).symm, hs'.D.symm, hs'.n.symm, fun i => (Tr.aget_list _ i).trans (hs'.H i).symm⟩ m g2
    · rename_i hn
      have g1 := hc _ _ _ _ _ _ _ h st hl
      simp only [Bool.false_eq_true, if_false] at g1
      refine ⟨1, g1.conseq ?_⟩
      rintro e' s' ⟨rfl, hs'⟩
      cases e' with
      | normal => exact absurd h (hn r')
      | _ => exact ⟨rfl, hs'⟩
  | false =>
    simp only [Bool.false_eq_true, if_false] at h ⊢
    split at h
    · cases h; exact .skip ⟨rfl, hl⟩
    · split at h
      · rename_i s1 h1
        cases h
        exact .opsS (opsS_mono (fun x hx => ⟨rfl, hx⟩) (runOps_ok hc hf h1 hl))
      · cases h
    · split at h
      · rename_i steps s1 h1
        split at h
        · rename_i hcb
          cases h
          rw [Bool.and_eq_true] at hcb
          obtain ⟨g1, g2⟩ := runDraw_ok (acc := []) hf h1 hl
          refine .draw (drawF_mono ?_ g1)
          rintro a b ⟨rfl, h2⟩
          exact ⟨compat_ok g2 hcb.1 hcb.2, rfl, h2⟩
        · cases h
      · cases h
    · split at h
      · rename_i s1 h1
        have g1 := hc _ _ _ _ _ _ _ h1 st hl
        simp only [Bool.false_eq_true, if_false] at g1
        refine .seq (g1.conseq ?_)
        rintro e' s' ⟨rfl, hs'⟩
        have g2 := hc _ _ _ _ _ _ _ h s' hs'
        simp only [Bool.false_eq_true, if_false] at g2
        exact g2
      · rename_i hn
        have g1 := hc _ _ _ _ _ _ _ h st hl
        simp only [Bool.false_eq_true, if_false] at g1
        refine .seq (g1.conseq ?_)
        rintro e' s' ⟨rfl, hs'⟩
        cases e' with
        | normal => exact absurd h (hn r')
        | _ => exact ⟨rfl, hs'⟩
    · split at h
      · rename_i t ht
        have g1 := hc _ _ _ _ _ _ _ h st hl
        simp only [Bool.false_eq_true, if_false] at g1
        exact .cond ((valR_eq hl.T _).trans ht) g1
      · cases h
    · split at h
      · rename_i id' s1 h1
        have g1 := hc _ _ _ _ _ _ _ h1 st hl
        simp only [Bool.false_eq_true, if_false] at g1
        refine .block (g1.conseq ?_)
        rintro e' s' ⟨rfl, hs'⟩
        simp only [onBlock]
        split at h
        · rename_i he; cases h; rw [if_pos he]; exact ⟨rfl, hs'⟩
        · rename_i he; cases h; rw [if_neg he]; exact ⟨rfl, hs'⟩
      · rename_i hn
        have g1 := hc _ _ _ _ _ _ _ h st hl
        simp only [Bool.false_eq_true, if_false] at g1
        refine .block (g1.conseq ?_)
        rintro e' s' ⟨rfl, hs'⟩
        cases e' with
        | exit id => exact absurd h (hn id r')
        | _ => exact ⟨rfl, hs'⟩
    · obtain ⟨m, g⟩ := hc _ _ _ _ _ _ _ h st hl
      exact .rounds m g
    · rename_i g ps x y
      -- the state as the run has it
      obtain ⟨st0, hst0⟩ : ∃ st0 : St, st0 = ⟨r.T.list, st.D, st.n, st.H⟩ := ⟨_, rfl⟩
      have hal : St.alike st0 st := by subst hst0; exact ⟨fun i => (Tr.aget_list _ i).trans (hl.T i).symm, rfl, rfl, fun i => rfl⟩
      have hl0 : st0.like r := by subst hst0; exact ⟨Tr.aget_list _, hl.D, hl.n, hl.H⟩
      have hT0 : st0.T = r.T.list := by subst hst0; rfl
      refine AWc.alike hal ?_
      clear hal hl hst0
      split at h
      · rename_i fid first caps hg
        have hg0 : g.val st0.T = .fn fid first caps := (valR_eq hl0.T _).trans hg
        split at h
        · generalize hr : rf fid (first ++ [.yl (r.n + 1)] ++ caps) (r.n + 2) _ = x0 at h
          cases x0 with
          | none => cases h
          | some x1 =>
            obtain ⟨v, n', H'⟩ := x1
            refine .rangeF_top hg0 (ACalls.mono (K := isG v n' H') ?_ ?_)
            · rw [hl0.n, hT0]
              refine hf _ _ _ _ _ _ _ hr _ fun i => ?_
              rw [aget_cons, aget_cons, Tr.get_set, Tr.get_set, hl0.H]
              by_cases e1 : i = r.n + 1
              · subst e1; simp
              · rw [if_neg (fun h => e1 h.symm), if_neg e1]
                by_cases e2 : i = r.n
                · subst e2; simp
                · rw [if_neg (fun h => e2 h.symm), if_neg e2]
            · rintro a b c ⟨rfl, rfl, h3⟩
              rw [hl0.n]
              exact runEnd_ok (st := ⟨st0.T, r.n :: st0.D, r.n, st0.H⟩) (r := { r with D := r.n :: r.D }) ⟨hl0.T, congrArg (r.n :: ·) hl0.D, rfl, hl0.H⟩ h h3
        · rename_i l₀
          split at h
          · rename_i r₀ hl₀
            generalize hr : rf fid (first ++ [.yl r.n] ++ caps) (r.n + 1) _ = x0 at h
            cases x0 with
            | none => cases h
            | some x1 =>
              obtain ⟨v, n', H'⟩ := x1
              refine .rangeF_in ((hl0.H _).trans hl₀) hg0 (ACalls.mono (K := isG v n' H') ?_ ?_)
              · rw [hl0.n, hT0]
                refine hf _ _ _ _ _ _ _ hr _ fun i => ?_
                rw [aget_cons, Tr.get_set, hl0.H]
                by_cases e2 : i = r.n
                · subst e2; simp
                · rw [if_neg (fun h => e2 h.symm), if_neg e2]
              · rintro a b c ⟨rfl, rfl, h3⟩
                rw [hl0.n]
                exact runEnd_ok hl0 h h3
          · cases h
      · cases h
    · cases h; exact .exit ⟨rfl, hl⟩
    · cases h; exact .ret ⟨rfl, hl⟩
    · split at h
      · cases h
      · rename_i hn
        have g1 := hc _ _ _ _ _ _ _ h st hl
        simp only [Bool.false_eq_true, if_false] at g1
        refine .scope (g1.conseq ?_)
        rintro e' s' ⟨rfl, hs'⟩
        cases e' with
        | goto l => exact absurd h (hn l r')
        | _ => exact ⟨rfl, hs'⟩
theorem resR_ok {T : Temps} {t : Tr V} (hT : ∀ i, aget T i = t.get i) {H : Heap} {h : Tr Blk} (hH : ∀ i, aget H i = h.get i) (l : List ResA) : resAll T H l = resR t h l := by
  induction l with
  | nil => rfl
  | cons r rs ih =>
    unfold resAll resR
    rw [ih]
    have : resOne T H r = (match r with
      | .t i => t.get i
      | .cell g s a =>
        match t.get a with
        | some (.p id off) => ldV (restrH h [] [id]) g s (.p id off)
        | _ => none) := by
      cases r with
      | t i => exact hT i
      | cell g s a =>
        simp only [resOne, hT]
        cases t.get a with
        | none => rfl
        | some p =>
          cases p <;> try rfl
          rename_i id off
          simp only [ldV, hH]
          have e : aget (restrH h [] [id]) id = h.get id := by
            simp only [restrH, pickT]
            cases hx : h.get id <;> simp [aget_cons]
          rw [e]
    rw [this]
    rfl
theorem stepCall_ok {known : FuncId → List V → Option V} (hk : okKnown P known) {tab : FuncId → Option AFun} (htab : ∀ f af, tab f = some af → prepF P f = some af) {rc : RCode} (hc : okCode P rc) : okCall P (stepCall known tab rc) := by
  intro f args n H v n' H' h Hl hH
  unfold stepCall at h
  split at h
  · rename_i v0 hv
    cases h
    refine (hk _ _ _ hv n Hl).mono ?_
    rintro a b c ⟨rfl, rfl, rfl⟩
    exact ⟨rfl, rfl, hH⟩
  · split at h
    · rename_i af haf
      split at h
      · rename_i hlen
        split at h
        · rename_i e r1 h1
          split at h
          · rename_i hok
            simp only [Bool.and_eq_true, List.all_eq_true] at hok
            split at h
            · rename_i vs hvs
              cases h
              have g1 := hc _ _ _ _ _ _ _ h1 ⟨argsT 0 args, [], n, Hl⟩ ⟨fun i => (Tr.get_ofL _ _).symm, rfl, rfl, hH⟩
              simp only [Bool.false_eq_true, if_false] at g1
              refine ACalls.enter (htab _ _ haf) hlen (g1.conseq ?_)
              rintro e' s' ⟨rfl, hs'⟩
              refine ⟨?_, fun m hm => ?_, ?_, vs, ?_, rfl, hs'.n, ?_⟩
              · have := hok.1.1
                cases e' <;> simp [okExit] at this <;> simp
              · rw [hs'.D] at hm
                have := hok.1.2 m hm
                split at this
                · rename_i hx; exact (hs'.H m).trans hx
                · cases this
              · rw [hs'.D]; exact nodupB_ok hok.2
              · rw [hs'.D, resR_ok hs'.T (delR_eq _ hs'.H)]; exact hvs
              · rw [hs'.D]; exact delR_eq _ hs'.H
            · cases h
          · cases h
        · cases h
      · cases h
    · cases h
theorem runAll_ok {known : FuncId → List V → Option V} (hk : okKnown P known) {tab : FuncId → Option AFun} (htab : ∀ f af, tab f = some af → prepF P f = some af) : ∀ k, okCode P (runAll known tab k).code ∧ okCall P (runAll known tab k).call := by
  intro k
  induction k with
  | zero => exact ⟨fun rounds N rd ac r e r' h => by simp [runAll] at h, fun f args n H v n' H' h => by simp [runAll] at h⟩
  | succ k ih => exact ⟨stepCode_ok ih.1 ih.2, stepCall_ok hk htab ih.1⟩
end sound
end Go.Proofs.Ytpgelghkjiejlaa
