/- The run over trees is sound. Ids laid anew: what is known of a state is known of it under other ids, and less may be known. Regions that draw, where no operation lays anything; pure calls; names for the work on functions. What the steps of symbolic work unfold. -/
import Derived.Test.YtpgelghkjiejlaaGae
import Derived.IntWalk
set_option linter.unusedVariables false
set_option linter.unusedSimpArgs false
section
namespace Go.Proofs.Ytpgelghkjiejlaa
open Go

def isL (e : Exit) (r : RSt) : Exit → St → Prop := fun e' s => e' = e ∧ s.like r
def isG (v : V) (n : Nat) (H : Tr Blk) : V → Nat → Heap → Prop := fun v' n' H' => v' = v ∧ n' = n ∧ ∀ i, aget H' i = H.get i
def okCode (P : Program) (rc : RCode) : Prop := ∀ rounds N rd ac r e r', rc rounds N rd ac r = some (e, r') → ∀ st : St, st.like r → if rounds then ∃ m, ARounds P N rd ac (isL e r') m st else AWc P N rd ac st (isL e r')
def okCall (P : Program) (rf : RCall) : Prop := ∀ f args n H v n' H', rf f args n H = some (v, n', H') → ∀ Hl : Heap, (∀ i, aget Hl i = H.get i) → ACalls P f args n Hl (isG v n' H')
def okKnown (P : Program) (known : FuncId → List V → Option V) : Prop := ∀ f args v, known f args = some v → ∀ n H, ACalls P f args n H fun v' n' H' => v' = v ∧ n' = n ∧ H' = H

section like
theorem valR_eq {T : Temps} {t : Tr V} (h : ∀ i, aget T i = t.get i) (x : AX) : x.val T = x.valR t := by cases x <;> simp [AX.val, AX.valR, h]
theorem guardR_eq {T : Temps} {t : Tr V} (h : ∀ i, aget T i = t.get i) (g : Option (Option Nat × Bool)) : guardOf T g = guardR t g := by
  unfold guardOf guardR
  split
  · rfl
  · rw [h]; rfl
  · rfl
theorem putR_eq {T : Temps} {t : Tr V} (h : ∀ i, aget T i = t.get i) (d : Option Nat) (v : V) (i : Nat) : aget (putT T d v) i = (putR t d v).get i := by
  cases d with
  | none => exact h i
  | some d =>
    simp only [putT, putR, aget_put, Tr.get_set, h]
    by_cases e : d = i
    · subst e; simp
    · rw [if_neg e, if_neg fun h => e h.symm]
theorem putAllR_eq : ∀ (ds : List Nat) (vs : List V) {T : Temps} {t : Tr V}, (∀ i, aget T i = t.get i) → ∀ i, aget (putAll T ds vs) i = (putAllR t ds vs).get i := by
  intro ds
  induction ds with
  | nil => intro vs T t h; cases vs <;> exact h
  | cons d ds ih =>
    intro vs T t h
    cases vs with
    | nil => exact h
    | cons v vs => exact ih vs fun i => putR_eq h (some d) v i
theorem St.like.put {st : St} {r : RSt} (h : st.like r) (d : Option Nat) (v : V) : St.like { st with T := putT st.T d v } { r with T := putR r.T d v } := ⟨putR_eq h.T d v, h.D, h.n, h.H⟩
theorem setH_eq {H : Heap} {t : Tr Blk} (h : ∀ i, aget H i = t.get i) (l : Nat) (k : Blk) (i : Nat) : aget (aput H l k) i = (t.set l (some k)).get i := by
  rw [aget_put, Tr.get_set, h]
  by_cases e : l = i
  · subst e; simp
  · rw [if_neg e, if_neg fun h => e h.symm]
theorem delH_eq {H : Heap} {t : Tr Blk} (h : ∀ i, aget H i = t.get i) (l : Nat) (i : Nat) : aget (adel H l) i = (t.set l none).get i := by
  rw [aget_del, Tr.get_set, h]
  by_cases e : l = i
  · subst e; simp
  · rw [if_neg e, if_neg fun h => e h.symm]
theorem delR_eq : ∀ (ms : List Nat) {H : Heap} {t : Tr Blk}, (∀ i, aget H i = t.get i) → ∀ i, aget (delAll H ms) i = (delR t ms).get i := by
  intro ms
  induction ms with
  | nil => intro H t h; exact h
  | cons m ms ih => intro H t h; exact ih (delH_eq h m)
end like

section sound
variable {P : Program}
theorem rounds_alike {N : Nat} {rd : Option Nat} {ac : ACode} {Q : Exit → St → Prop} {s t : St} (h : s.alike t) : ∀ m, ARounds P N rd ac Q m s → ARounds P N rd ac Q m t := by
  intro m
  cases m with
  | zero => exact id
  | succ m => exact fun g => AWc.alike h g
theorem opsS_mono {K K' : St → Prop} (hk : ∀ s, K s → K' s) : ∀ {l : List AOper} {st : St}, opsS P l st K → opsS P l st K' := by
  intro l
  induction l with
  | nil => intro st h; exact hk _ h
  | cons o os ih =>
    intro st h
    unfold opsS at h
    split at h
    · rename_i hg; exact opsS_skip hg (ih h)
    · rename_i hg
      split at h
      · rename_i g args hop; exact opsS_call hg hop (callV.mono h fun v n' H' hk => ih hk)
      · rename_i hnc
        obtain ⟨fr, fw, v, n1, R, h1, h2, h3⟩ := h
        exact opsS_op hg (fun g l hx => hnc g l hx) h1 h2 (ih h3)
    · exact h.elim
theorem runYield_ok {rc : RCode} (hc : okCode P rc) {l : Nat} {args : List V} {n : Nat} {H : Tr Blk} {v : V} {n' : Nat} {H' : Tr Blk} (h : runYield rc l args n H = some (v, n', H')) (Hl : Heap) (hH : ∀ i, aget Hl i = H.get i) : YCalls P l args n Hl (isG v n' H') := by
  unfold runYield at h
  split at h
  · rename_i r hr
    split at h
    · rename_i hp
      split at h
      · rename_i T1 n1 H1 h1
        split at h
        · rename_i r1 hr1
          split at h
          · rename_i hst
            split at h
            · rename_i e2 s2 h2
              split at h
              · rename_i r2 hr2
                have g1 := hc _ _ _ _ _ _ _ h1 ⟨putAll r.T r.params args, [], n, Hl⟩ ⟨putAllR_eq _ _ fun i => (Tr.get_ofL _ _).symm, rfl, rfl, hH⟩
                simp only [Bool.false_eq_true, if_false] at g1
                refine ⟨r, (hH l).trans hr, hp.1, fun d hd => by have := List.all_eq_true.1 hp.2 d hd; simpa using this, g1.conseq ?_⟩
                rintro e s ⟨rfl, hs⟩
                refine ⟨rfl, hs.D, r1, (hs.H l).trans hr1, hst, ?_⟩
                have g2 := hc _ _ _ _ _ _ _ h2 ⟨s.T, [], s.n, aput s.H l (.loop { r1 with st := .busy })⟩ ⟨hs.T, rfl, hs.n, setH_eq hs.H l _⟩
                simp only [Bool.false_eq_true, if_false] at g2
                refine g2.conseq ?_
                rintro e s' ⟨rfl, hs'⟩
                refine ⟨r2, (hs'.H l).trans hr2, ?_⟩
                split at h <;> first | (cases h; done) | (cases h; exact ⟨rfl, hs'.n, setH_eq hs'.H l _⟩)
              · cases h
            · cases h
          · cases h
        · cases h
      · cases h
    · cases h
  · cases h
theorem runV_ok {rc : RCode} {rf : RCall} (hc : okCode P rc) (hf : okCall P rf) {g : V} {args : List V} {n : Nat} {H : Tr Blk} {v : V} {n' : Nat} {H' : Tr Blk} (h : runV rc rf g args n H = some (v, n', H')) (Hl : Heap) (hH : ∀ i, aget Hl i = H.get i) : callV P g args n Hl (isG v n' H') := by
  unfold runV at h
  unfold callV
  split at h
  · exact hf _ _ _ _ _ _ _ h Hl hH
  · exact runYield_ok hc h Hl hH
  · cases h
theorem map_valR {T : Temps} {t : Tr V} (h : ∀ i, aget T i = t.get i) (args : List AX) : args.map (·.val T) = args.map (·.valR t) := List.map_congr_left fun x _ => valR_eq h x
theorem ev_of {T : Temps} {t : Tr V} (h : ∀ i, aget T i = t.get i) {n : Nat} {R : Heap} {op : AOp} {x : Got} (he : evFast (tslots t op.slots) n R op = x) : evalOp T n R op = x := by
  rw [evFast_eq] at he
  rw [← he]
  exact evalOp_congr _ _ _ fun i hi => by rw [aget_tslots _ _ _ hi, h]
theorem ownB_ok {R : Heap} {fw : List Nat} {n n1 : Nat} (h : ownB R fw n n1 = true) : ∀ p ∈ R, touch fw n n1 p.1 = true → p.2.own = true := by
  intro p hp ht
  have := List.all_eq_true.1 h p hp
  rw [ht] at this
  simpa using this
theorem runOps_ok {rc : RCode} {rf : RCall} (hc : okCode P rc) (hf : okCall P rf) : ∀ {l : List AOper} {r r' : RSt} {st : St}, runOps rc rf l r = some r' → st.like r → opsS P l st (fun s => s.like r') := by
  intro l
  induction l with
  | nil => intro r r' st h hl; cases h; exact hl
  | cons o os ih =>
    intro r r' st h hl
    unfold runOps at h
    split at h
    · rename_i hg; exact opsS_skip ((guardR_eq hl.T _).trans hg) (ih h (hl.put _ _))
    · rename_i hg
      have hg' := (guardR_eq hl.T o.guard).trans hg
      split at h
      · rename_i g args hop
        split at h
        · rename_i v n' H' hv
          refine opsS_call hg' hop (callV.mono (K := isG v n' H') ?_ ?_)
          · rw [valR_eq hl.T, map_valR hl.T, hl.n]
            exact runV_ok hc hf hv _ hl.H
          · rintro a b c ⟨rfl, rfl, h3⟩
            exact ih h ⟨putR_eq hl.T _ _, hl.D, rfl, h3⟩
        · cases h
      · rename_i hnc
        simp only at h
        split at h
        · rename_i v n1 R hev
          split at h
          · rename_i hok
            simp only [Bool.and_eq_true, decide_eq_true_eq] at hok
            obtain ⟨h1, h2⟩ := hok
            have hn := hl.n
            refine opsS_op hg' (fun g l hx => hnc g l hx) (fr := frR (tslots r.T o.op.slots) o.op) (fw := fwOp (tslots r.T o.op.slots) o.op) (v := v) (n1 := n1) (R := R) ?_ ?_ ?_
            · rw [restrH_eq hl.H, hn]; exact ev_of hl.T hev
            · rw [hn]; exact ownB_ok h2
            · refine ih h ⟨putR_eq hl.T _ _, hl.D, rfl, fun i => ?_⟩
              simp only [hn]
              exact get_mergeTr hl.H _ _ _ h1 _ _
          · cases h
        · cases h
    · cases h

/-- What a step took from an operation. -/
def stepOf (s : DStep) (o : AOper) : Prop := (∀ t ∈ s.rs, t ∈ o.op.slots ++ gslots o.guard) ∧ s.dst = o.dst ∧ s.n0 ≤ s.n1
def stepsOf : List DStep → List AOper → Prop
  | [], [] => True
  | s :: ss, o :: os => stepOf s o ∧ stepsOf ss os
  | _, _ => False
theorem okDB_ok {st : St} {r : RSt} (hl : st.like r) {fr fw : List Nat} {n1 : Nat} {R : Heap} (h : okDB r.n r.H fr fw n1 R = true) : okD st fr fw n1 R := by
  simp only [okDB, Bool.and_eq_true, List.all_eq_true, decide_eq_true_eq] at h
  obtain ⟨⟨⟨h1, h2⟩, h3⟩, h4⟩ := h
  refine ⟨by rw [hl.n]; exact h1, fun b hb => by rw [hl.n]; exact h2 b hb, fun b hb => ?_, fun p hp ht => ?_⟩
  · have := h3 b hb
    split at this
    · rename_i cs hcs; exact ⟨cs, (hl.H b).trans hcs⟩
    · cases this
  · rw [hl.n] at ht; exact ownB_ok h4 p hp ht
theorem okDB_le {n : Nat} {H : Tr Blk} {fr fw : List Nat} {n1 : Nat} {R : Heap} (h : okDB n H fr fw n1 R = true) : n ≤ n1 := by
  simp only [okDB, Bool.and_eq_true, decide_eq_true_eq] at h
  exact h.1.1.1
theorem binB_ok {n : Nat} {k : Blk} (h : binB n k = true) : BIn n k := by
  cases k with
  | row o cs => exact fun x hx => vinB_spec (List.all_eq_true.1 h x hx)
  | loop r => cases h
  | marks => trivial
theorem inDB_ok {n n1 : Nat} {fw : List Nat} {v : V} {R : Heap} (h : inDB n n1 fw v R = true) : inD n n1 fw v R := by
  simp only [inDB, Bool.and_eq_true, List.all_eq_true] at h
  refine ⟨vinB_spec h.1, fun p hp ht => ?_⟩
  have := h.2 p hp
  rw [ht] at this
  exact binB_ok (by simpa using this)
theorem gotNew_get (H : Tr Blk) : ∀ (d n0 b : Nat) (k : Blk), aget (gotNew H d n0) b = some k → H.get b = some k := by
  intro d
  induction d with
  | zero => intro n0 b k h; simp [gotNew] at h
  | succ d ih =>
    intro n0 b k h
    unfold gotNew at h
    split at h
    · rename_i k0 hk
      rw [aget_cons] at h
      by_cases e : n0 = b
      · subst e; rw [if_pos rfl] at h; rw [hk]; exact h
      · rw [if_neg e] at h; exact ih _ _ _ h
    · exact ih _ _ _ h
theorem pickT_get (H : Tr Blk) (l : List Nat) (b : Nat) (k : Blk) (h : aget (pickT H id l) b = some k) : H.get b = some k := by
  induction l with
  | nil => simp [pickT] at h
  | cons i l ih =>
    unfold pickT at h
    split at h
    · rename_i k0 hk
      rw [aget_cons] at h
      by_cases e : i = b
      · subst e; rw [if_pos rfl] at h; simp only [id] at hk; rw [hk]; exact h
      · rw [if_neg e] at h; exact ih h
    · exact ih h
theorem acalls_less {f : FuncId} {args : List V} {n : Nat} {Hl : Heap} {v : V} {n1 : Nat} {H1 : Tr Blk} {R : Heap} (h : ACalls P f args n Hl (isG v n1 H1)) (hn : n ≤ n1) (hv : VIn n1 v) (hR : ∀ b k, aget R b = some k → H1.get b = some k) :
    ACalls P f args n Hl fun v' n' H' => v' = v ∧ n' = n1 ∧ H' = R := by
  refine h.weaken ?_
  rintro v' n' H' ⟨rfl, rfl, h3⟩
  exact ⟨n', R, ⟨rfl, rfl, rfl⟩, hn, hv, ⟨Nat.le_refl _, fun b k hb => (h3 b).trans (hR b k hb), .inl rfl⟩⟩
theorem runD_ok {rf : RCall} (hf : okCall P rf) {f : FuncId} {vs : List V} {n : Nat} {H : Tr Blk} {ids fr fw : List Nat} {v : V} {n1 : Nat} {R : Heap} (h : runD rf f vs n H ids = some (fr, fw, v, n1, R)) (Hl : Heap) (hH : ∀ i, aget Hl i = H.get i) (hn : n ≤ n1) (hv : VIn n1 v) :
    ACalls P f vs n (restr Hl fr fw) fun v' n' H' => v' = v ∧ n' = n1 ∧ H' = R := by
  unfold runD at h
  split at h
  · rename_i v1 n2 H1 hx
    cases h
    refine acalls_less (hf _ _ _ _ _ _ _ hx _ fun i => ?_) hn hv (gotNew_get H1 _ _)
    rw [restrH_eq hH, Tr.get_ofL]
  · split at h
    · rename_i v1 n2 H1 hx
      cases h
      refine acalls_less (hf _ _ _ _ _ _ _ hx _ fun i => ?_) hn hv ?_
      · rw [restrH_eq hH, Tr.get_ofL]
      · intro b k hb
        rw [aget_append] at hb
        split at hb
        · rename_i k' hk
          cases hb
          exact pickT_get _ _ _ _ hk
        · exact gotNew_get H1 _ _ _ _ hb
    · cases h
theorem consD_inv {s : DStep} {x : Option (List DStep × RSt)} {steps : List DStep} {r' : RSt} (h : consD s x = some (steps, r')) : ∃ l, x = some (l, r') ∧ steps = s :: l := by
  cases x with
  | none => cases h
  | some p => obtain ⟨l, r⟩ := p; cases h; exact ⟨l, rfl, rfl⟩
theorem runDraw_ok {rf : RCall} (hf : okCall P rf) : ∀ {l : List AOper} {r r' : RSt} {st : St} {acc steps : List DStep}, runDraw rf l r = some (steps, r') → st.like r → drawF P l st acc (fun steps' s' => steps' = acc ++ steps ∧ s'.like r') ∧ stepsOf steps l := by
  intro l
  induction l with
  | nil => intro r r' st acc steps h hl; cases h; exact ⟨⟨(List.append_nil _).symm, hl⟩, trivial⟩
  | cons o os ih =>
    intro r r' st acc steps h hl
    have happ : ∀ (a : List DStep) (s : DStep) (b : List DStep), a ++ [s] ++ b = a ++ s :: b := fun a s b => by simp
    obtain ⟨sT, sD, sn, sH⟩ := st
    obtain ⟨rT, rD, rn, rH⟩ := r
    have hT : ∀ i, aget sT i = rT.get i := hl.T
    have hD : sD = rD := hl.D
    have hn : sn = rn := hl.n
    have hH : ∀ i, aget sH i = rH.get i := hl.H
    subst hD
    subst hn
    unfold runDraw at h
    split at h
    · rename_i hg
      obtain ⟨l', h', rfl⟩ := consD_inv h
      have hl' : St.like ⟨putT sT o.dst .un, sD, sn, sH⟩ ⟨putR rT o.dst .un, sD, sn, rH⟩ := ⟨putR_eq hT _ _, rfl, rfl, hH⟩
      refine ⟨drawF_skip ((guardR_eq hT _).trans hg) (drawF_mono (fun a s hx => ⟨by rw [hx.1]; exact happ _ _ _, hx.2⟩) (ih h' hl').1), ⟨fun t ht => by simpa using Or.inr ht, rfl, Nat.le_refl _⟩, (ih (acc := []) h' hl').2⟩
    · rename_i hg
      have hg' : guardOf sT o.guard = some true := (guardR_eq hT _).trans hg
      split at h
      · rename_i g args hop
        split at h
        · rename_i f first caps hgv
          split at h
          · rename_i fr fw v n1 R hfr
            split at h
            · rename_i hok
              simp only [Bool.and_eq_true] at hok
              obtain ⟨l', h', rfl⟩ := consD_inv h
              have hle := okDB_le hok.1
              have hin := inDB_ok hok.2
              have hl' : St.like ⟨putT sT o.dst v, sD, n1, mergeH sH fw sn n1 R⟩ ⟨putR rT o.dst v, sD, n1, mergeTr rH fw sn n1 R⟩ := ⟨putR_eq hT _ _, rfl, rfl, fun i => get_mergeTr hH _ _ _ hle _ _⟩
              refine ⟨drawF_call hg' hop ((valR_eq hT _).trans hgv) ?_ (okDB_ok hl hok.1) hin (drawF_mono (fun a s hx => ⟨by rw [hx.1]; exact happ _ _ _, hx.2⟩) (ih h' hl').1), ⟨fun t ht => by rw [hop]; exact ht, rfl, hle⟩, (ih (acc := []) h' hl').2⟩
              simp only
              rw [map_valR hT]
              exact runD_ok hf hfr _ hH hle hin.1
            · cases h
          · cases h
        · cases h
      · rename_i hnc
        simp only at h
        split at h
        · rename_i v n1 R hev
          split at h
          · rename_i hok
            simp only [Bool.and_eq_true] at hok
            obtain ⟨l', h', rfl⟩ := consD_inv h
            have hle := okDB_le hok.2
            have hl' : St.like ⟨putT sT o.dst v, sD, n1, mergeH sH (fwOp (tslots rT o.op.slots) o.op) sn n1 R⟩ ⟨putR rT o.dst v, sD, n1, mergeTr rH (fwOp (tslots rT o.op.slots) o.op) sn n1 R⟩ := ⟨putR_eq hT _ _, rfl, rfl, fun i => get_mergeTr hH _ _ _ hle _ _⟩
            refine ⟨drawF_op hg' (fun g l hx => hnc g l hx) ?_ hok.1 (okDB_ok hl hok.2) (drawF_mono (fun a s hx => ⟨by rw [hx.1]; exact happ _ _ _, hx.2⟩) (ih h' hl').1), ⟨fun t ht => ht, rfl, hle⟩, (ih (acc := []) h' hl').2⟩
            simp only
            rw [restrH_eq hH]
            exact ev_of hT hev
          · cases h
        · cases h
    · cases h
/-! what is checked of the code, and of the heap, beside each other -/
theorem slotRow_spec {bj : Nat} {oj : AOper} : ∀ {l : List AOper} {k : Nat}, slotRow bj oj k l = true → ∀ (i : Nat) o, l[i]? = some o → bj.testBit (k + i) = true ∨ slotI o oj = true := by
  intro l
  induction l with
  | nil => intro k _ i s h; simp at h
  | cons s0 l ih =>
    intro k h i s hi
    simp only [slotRow, Bool.and_eq_true, Bool.or_eq_true] at h
    cases i with
    | zero => simp at hi; subst hi; simpa using h.1
    | succ i => have := ih h.2 i s (by simpa using hi); rw [show k + (i + 1) = k + 1 + i by omega]; exact this
theorem slotsOk_spec {befs : List Nat} {all : List AOper} : ∀ {l : List AOper} {j : Nat}, slotsOk befs all j l = true → (∀ i, l[i]? = all[j + i]?) → ∀ (i i' : Nat) si sj, i < j + i' → all[i]? = some si → l[i']? = some sj → (befs.getD (j + i') 0).testBit i = true ∨ slotI si sj = true := by
  intro l
  induction l with
  | nil => intro j _ _ i i' si sj _ _ h; simp at h
  | cons s0 l ih =>
    intro j h hl i i' si sj hlt hi hj
    simp only [slotsOk, Bool.and_eq_true] at h
    cases i' with
    | zero =>
      simp at hj
      subst hj
      have := slotRow_spec h.1 i si (by rw [List.getElem?_take, if_pos (by omega)]; exact hi)
      simpa using this
    | succ i' =>
      have := ih h.2 (fun i => by have := hl (i + 1); rw [show j + 1 + i = j + (i + 1) by omega]; simpa using this) i i' si sj (by omega) hi (by simpa using hj)
      rw [show j + (i' + 1) = j + 1 + i' by omega]; exact this
theorem heapRow_spec {befs : List Nat} {k : Nat} {s : DStep} : ∀ {l : List DStep} {i : Nat}, heapRow befs k s i l = true → ∀ (j : Nat) t, l[j]? = some t → (i + j < k → (befs.getD k 0).testBit (i + j) = true ∨ heapI t s = true) ∧ (k < i + j → (befs.getD (i + j) 0).testBit k = true ∨ heapI s t = true) := by
  intro l
  induction l with
  | nil => intro i _ j t h; simp at h
  | cons t0 l ih =>
    intro i h j t hj
    simp only [heapRow, Bool.and_eq_true] at h
    cases j with
    | zero =>
      simp at hj
      subst hj
      have h1 := h.1
      refine ⟨fun hlt => ?_, fun hlt => ?_⟩
      · rw [if_pos (by simpa using hlt)] at h1
        simpa using h1
      · rw [if_neg (by omega), if_pos (by simpa using hlt)] at h1
        simpa using h1
    | succ j =>
      have := ih h.2 j t (by simpa using hj)
      rw [show i + (j + 1) = i + 1 + j by omega]
      exact this
theorem heapOk_spec {befs : List Nat} {all : List DStep} : ∀ {l : List DStep} {k : Nat}, heapOk befs all k l = true → ∀ (j : Nat) s, l[j]? = some s → heavy s = true → heapRow befs (k + j) s 0 all = true := by
  intro l
  induction l with
  | nil => intro k _ j s h; simp at h
  | cons s0 l ih =>
    intro k h j s hj hv
    simp only [heapOk, Bool.and_eq_true] at h
    cases j with
    | zero =>
      simp at hj
      subst hj
      have h1 := h.1
      rw [if_pos hv] at h1
      exact h1
    | succ j =>
      have := ih h.2 j s (by simpa using hj) hv
      rw [show k + (j + 1) = k + 1 + j by omega]
      exact this
theorem stepsOf_get : ∀ {ss : List DStep} {os : List AOper}, stepsOf ss os → ∀ (j : Nat) s, ss[j]? = some s → ∃ o, os[j]? = some o ∧ stepOf s o := by
  intro ss
  induction ss with
  | nil => intro os _ j s h; simp at h
  | cons s0 ss ih =>
    intro os h j s hj
    cases os with
    | nil => exact h.elim
    | cons o os =>
      cases j with
      | zero => simp at hj; subst hj; exact ⟨o, rfl, h.1⟩
      | succ j => exact ih h.2 j s hj
theorem heapI_light {a b : DStep} (ha : heavy a = false) (hb : heavy b = false) : heapI a b = true := by
  simp only [heavy, Bool.or_eq_false_iff, Bool.not_eq_false', List.isEmpty_iff, decide_eq_false_iff_not] at ha hb
  unfold heapI
  rw [ha.1, hb.1]
  simp
  intro x _
  omega
theorem indep_of {a b : DStep} {oa ob : AOper} (ha : stepOf a oa) (hb : stepOf b ob) (h1 : slotI oa ob = true) (h2 : heapI a b = true) : indep a b = true := by
  obtain ⟨a1, a2, _⟩ := ha
  obtain ⟨b1, b2, _⟩ := hb
  simp only [slotI, Bool.and_eq_true] at h1
  simp only [heapI, Bool.and_eq_true] at h2
  simp only [indep, Bool.and_eq_true]
  refine ⟨⟨⟨⟨?_, ?_⟩, h2.1.1⟩, h2.1.2⟩, h2.2⟩
  · rw [a2, b2]
    cases hd : oa.dst with
    | none => rfl
    | some d =>
      have := h1.1
      rw [hd] at this
      simp only [Bool.and_eq_true, Bool.not_eq_true', List.contains_eq_mem, decide_eq_false_iff_not] at this ⊢
      exact ⟨fun h => this.1 (b1 d h), this.2⟩
  · rw [b2]
    cases hd : ob.dst with
    | none => rfl
    | some d =>
      have := h1.2
      rw [hd] at this
      simp only [Bool.not_eq_true', List.contains_eq_mem, decide_eq_false_iff_not] at this ⊢
      exact fun h => this (a1 d h)
theorem compatRow_of {bj : Nat} {sj : DStep} : ∀ {l : List DStep} {k : Nat}, (∀ (i : Nat) s, l[i]? = some s → bj.testBit (k + i) = true ∨ indep s sj = true) → compatRow bj sj k l = true := by
  intro l
  induction l with
  | nil => intro k _; rfl
  | cons s0 l ih =>
    intro k h
    simp only [compatRow, Bool.and_eq_true, Bool.or_eq_true]
    refine ⟨by simpa using h 0 s0 rfl, ih fun i s hi => ?_⟩
    have := h (i + 1) s (by simpa using hi)
    rw [show k + 1 + i = k + (i + 1) by omega]; exact this
theorem compatB_of {befs : List Nat} {all : List DStep} : ∀ {l : List DStep} {j : Nat}, (∀ i, l[i]? = all[j + i]?) → (∀ (i i' : Nat) si sj, i < i' → all[i]? = some si → all[i']? = some sj → (befs.getD i' 0).testBit i = true ∨ indep si sj = true) → compatB befs all j l = true := by
  intro l
  induction l with
  | nil => intro j _ _; rfl
  | cons s0 l ih =>
    intro j hl h
    simp only [compatB, Bool.and_eq_true]
    refine ⟨compatRow_of fun i s hi => ?_, ih (fun i => by have := hl (i + 1); rw [show j + 1 + i = j + (i + 1) by omega]; simpa using this) h⟩
    rw [List.getElem?_take] at hi
    split at hi
    · rename_i hlt
      rw [Nat.zero_add]
      exact h i j s s0 hlt hi (by have := hl 0; simpa using this.symm)
    · cases hi
theorem compat_ok {befs : List Nat} {steps : List DStep} {l : List AOper} (hs : stepsOf steps l) (h1 : slotsOk befs l 0 l = true) (h2 : heapOk befs steps 0 steps = true) : compatB befs steps 0 steps = true := by
  refine compatB_of (by simp) fun i j si sj hlt hi hj => ?_
  obtain ⟨oi, a1, a2⟩ := stepsOf_get hs i si hi
  obtain ⟨oj, b1, b2⟩ := stepsOf_get hs j sj hj
  have g1 := slotsOk_spec h1 (by simp) i j oi oj (by omega) a1 b1
  rw [Nat.zero_add] at g1
  rcases g1 with g1 | g1
  · exact .inl g1
  have g2 : (befs.getD j 0).testBit i = true ∨ heapI si sj = true := by
    cases hvi : heavy si with
    | true =>
      have := heapRow_spec (heapOk_spec h2 i si hi hvi) j sj hj
      simp only [Nat.zero_add] at this
      exact this.2 hlt
    | false =>
      cases hvj : heavy sj with
      | true =>
        have := heapRow_spec (heapOk_spec h2 j sj hj hvj) i si hi
        simp only [Nat.zero_add] at this
        exact this.1 hlt
      | false => exact .inr (heapI_light hvi hvj)
  exact g2.imp id fun g => indep_of a2 b2 g1 g
theorem runEnd_ok {l : Nat} {st : St} {r : RSt} (hl : st.like r) {e : Exit} {s : RSt} {v : V} {n' : Nat} {H' : Tr Blk} (h : runEnd l r (some (v, n', H')) = some (e, s)) {Hl : Heap} (hH : ∀ i, aget Hl i = H'.get i) : endF l st (isL e s) n' Hl := by
  unfold runEnd at h
  split at h
  · rename_i n'' H'' heq
    cases heq
    split at h
    · rename_i r hr
      split at h
      · cases h
      · rename_i hst
        refine ⟨r, (hH l).trans hr, hst, ?_⟩
        split at h <;> (rename_i hp; rw [hp]; cases h; exact ⟨rfl, hl.T, hl.D, rfl, delH_eq hH l⟩)
    · cases h
  · cases h
theorem nodupB_ok : ∀ {l : List Nat}, nodupB l = true → l.Nodup := by
  intro l
  induction l with
  | nil => intro _; exact List.nodup_nil
  | cons i l ih =>
    intro h
    simp only [nodupB, Bool.and_eq_true, Bool.not_eq_true'] at h
    exact List.nodup_cons.2 ⟨by simpa using h.1, ih h.2⟩
theorem stepCode_ok {rc : RCode} {rf : RCall} (hc : okCode P rc) (hf : okCall P rf) : okCode P (stepCode rc rf) := by
  intro rounds N rd ac r e r' h st hl
  unfold stepCode at h
  cases rounds with
  | true =>
    simp only [if_true] at h ⊢
    split at h
    · rename_i s1 h1
      have g1 := hc _ _ _ _ _ _ _ h1 st hl
      simp only [Bool.false_eq_true, if_false] at g1
      -- the number of further rounds: told by one state, and by all that answer alike
      obtain ⟨m, g2⟩ := hc _ _ _ _ _ _ _ h ⟨s1.T.list, s1.D, s1.n, s1.H.list⟩ ⟨Tr.aget_list _, rfl, rfl, Tr.aget_list _⟩
      refine ⟨m + 1, g1.conseq ?_⟩
      rintro e' s' ⟨rfl, hs'⟩
      exact rounds_alike ⟨fun i => (Tr.aget_list _ i).trans (hs'.T i).symm, hs'.D.symm, hs'.n.symm, fun i => (Tr.aget_list _ i).trans (hs'.H i).symm⟩ m g2
    · rename_i hn
      have g1 := hc _ _ _ _ _ _ _ h st hl
      simp only [Bool.false_eq_true, if_false] at g1
      refine ⟨1, g1.conseq ?_⟩
      rintro e' s' ⟨rfl, hs'⟩
      cases e' with
      | normal => exact absurd h (hn r')
      | _ => exact ⟨rfl, hs'⟩
  | false =>
    simp only [Bool.false_eq_true, if_false] at h ⊢
    split at h
    · cases h; exact .skip ⟨rfl, hl⟩
    · split at h
      · rename_i s1 h1
        cases h
        exact .opsS (opsS_mono (fun x hx => ⟨rfl, hx⟩) (runOps_ok hc hf h1 hl))
      · cases h
    · split at h
      · rename_i steps s1 h1
        split at h
        · rename_i hcb
          cases h
          rw [Bool.and_eq_true] at hcb
          obtain ⟨g1, g2⟩ := runDraw_ok (acc := []) hf h1 hl
          refine .draw (drawF_mono ?_ g1)
          rintro a b ⟨rfl, h2⟩
          exact ⟨compat_ok g2 hcb.1 hcb.2, rfl, h2⟩
        · cases h
      · cases h
    · split at h
      · rename_i s1 h1
        have g1 := hc _ _ _ _ _ _ _ h1 st hl
        simp only [Bool.false_eq_true, if_false] at g1
        refine .seq (g1.conseq ?_)
        rintro e' s' ⟨rfl, hs'⟩
        have g2 := hc _ _ _ _ _ _ _ h s' hs'
        simp only [Bool.false_eq_true, if_false] at g2
        exact g2
      · rename_i hn
        have g1 := hc _ _ _ _ _ _ _ h st hl
        simp only [Bool.false_eq_true, if_false] at g1
        refine .seq (g1.conseq ?_)
        rintro e' s' ⟨rfl, hs'⟩
        cases e' with
        | normal => exact absurd h (hn r')
        | _ => exact ⟨rfl, hs'⟩
    · split at h
      · rename_i t ht
        have g1 := hc _ _ _ _ _ _ _ h st hl
        simp only [Bool.false_eq_true, if_false] at g1
        exact .cond ((valR_eq hl.T _).trans ht) g1
      · cases h
    · split at h
      · rename_i id' s1 h1
        have g1 := hc _ _ _ _ _ _ _ h1 st hl
        simp only [Bool.false_eq_true, if_false] at g1
        refine .block (g1.conseq ?_)
        rintro e' s' ⟨rfl, hs'⟩
        simp only [onBlock]
        split at h
        · rename_i he; cases h; rw [if_pos he]; exact ⟨rfl, hs'⟩
        · rename_i he; cases h; rw [if_neg he]; exact ⟨rfl, hs'⟩
      · rename_i hn
        have g1 := hc _ _ _ _ _ _ _ h st hl
        simp only [Bool.false_eq_true, if_false] at g1
        refine .block (g1.conseq ?_)
        rintro e' s' ⟨rfl, hs'⟩
        cases e' with
        | exit id => exact absurd h (hn id r')
        | _ => exact ⟨rfl, hs'⟩
    · obtain ⟨m, g⟩ := hc _ _ _ _ _ _ _ h st hl
      exact .rounds m g
    · rename_i g ps x y
      -- the state as the run has it
      obtain ⟨st0, hst0⟩ : ∃ st0 : St, st0 = ⟨r.T.list, st.D, st.n, st.H⟩ := ⟨_, rfl⟩
      have hal : St.alike st0 st := by subst hst0; exact ⟨fun i => (Tr.aget_list _ i).trans (hl.T i).symm, rfl, rfl, fun i => rfl⟩
      have hl0 : st0.like r := by subst hst0; exact ⟨Tr.aget_list _, hl.D, hl.n, hl.H⟩
      have hT0 : st0.T = r.T.list := by subst hst0; rfl
      refine AWc.alike hal ?_
      clear hal hl hst0
      split at h
      · rename_i fid first caps hg
        have hg0 : g.val st0.T = .fn fid first caps := (valR_eq hl0.T _).trans hg
        split at h
        · generalize hr : rf fid (first ++ [.yl (r.n + 1)] ++ caps) (r.n + 2) _ = x0 at h
          cases x0 with
          | none => cases h
          | some x1 =>
            obtain ⟨v, n', H'⟩ := x1
            refine .rangeF_top hg0 (ACalls.mono (K := isG v n' H') ?_ ?_)
            · rw [hl0.n, hT0]
              refine hf _ _ _ _ _ _ _ hr _ fun i => ?_
              rw [aget_cons, aget_cons, Tr.get_set, Tr.get_set, hl0.H]
              by_cases e1 : i = r.n + 1
              · subst e1; simp
              · rw [if_neg (fun h => e1 h.symm), if_neg e1]
                by_cases e2 : i = r.n
                · subst e2; simp
                · rw [if_neg (fun h => e2 h.symm), if_neg e2]
            · rintro a b c ⟨rfl, rfl, h3⟩
              rw [hl0.n]
              exact runEnd_ok (st := ⟨st0.T, r.n :: st0.D, r.n, st0.H⟩) (r := { r with D := r.n :: r.D }) ⟨hl0.T, congrArg (r.n :: ·) hl0.D, rfl, hl0.H⟩ h h3
        · rename_i l₀
          split at h
          · rename_i r₀ hl₀
            generalize hr : rf fid (first ++ [.yl r.n] ++ caps) (r.n + 1) _ = x0 at h
            cases x0 with
            | none => cases h
            | some x1 =>
              obtain ⟨v, n', H'⟩ := x1
              refine .rangeF_in ((hl0.H _).trans hl₀) hg0 (ACalls.mono (K := isG v n' H') ?_ ?_)
              · rw [hl0.n, hT0]
                refine hf _ _ _ _ _ _ _ hr _ fun i => ?_
                rw [aget_cons, Tr.get_set, hl0.H]
                by_cases e2 : i = r.n
                · subst e2; simp
                · rw [if_neg (fun h => e2 h.symm), if_neg e2]
              · rintro a b c ⟨rfl, rfl, h3⟩
                rw [hl0.n]
                exact runEnd_ok hl0 h h3
          · cases h
      · cases h
    · cases h; exact .exit ⟨rfl, hl⟩
    · cases h; exact .ret ⟨rfl, hl⟩
    · split at h
      · cases h
      · rename_i hn
        have g1 := hc _ _ _ _ _ _ _ h st hl
        simp only [Bool.false_eq_true, if_false] at g1
        refine .scope (g1.conseq ?_)
        rintro e' s' ⟨rfl, hs'⟩
        cases e' with
        | goto l => exact absurd h (hn l r')
        | _ => exact ⟨rfl, hs'⟩
theorem resR_ok {T : Temps} {t : Tr V} (hT : ∀ i, aget T i = t.get i) {H : Heap} {h : Tr Blk} (hH : ∀ i, aget H i = h.get i) (l : List ResA) : resAll T H l = resR t h l := by
  induction l with
  | nil => rfl
  | cons r rs ih =>
    unfold resAll resR
    rw [ih]
    have : resOne T H r = (match r with
      | .t i => t.get i
      | .cell g s a =>
        match t.get a with
        | some (.p id off) => ldV (restrH h [] [id]) g s (.p id off)
        | _ => none) := by
      cases r with
      | t i => exact hT i
      | cell g s a =>
        simp only [resOne, hT]
        cases t.get a with
        | none => rfl
        | some p =>
          cases p <;> try rfl
          rename_i id off
          simp only [ldV, hH]
          have e : aget (restrH h [] [id]) id = h.get id := by
            simp only [restrH, pickT]
            cases hx : h.get id <;> simp [aget_cons]
          rw [e]
    rw [this]
    rfl
theorem stepCall_ok {known : FuncId → List V → Option V} (hk : okKnown P known) {tab : FuncId → Option AFun} (htab : ∀ f af, tab f = some af → prepF P f = some af) {rc : RCode} (hc : okCode P rc) : okCall P (stepCall known tab rc) := by
  intro f args n H v n' H' h Hl hH
  unfold stepCall at h
  split at h
  · rename_i v0 hv
    cases h
    refine (hk _ _ _ hv n Hl).mono ?_
    rintro a b c ⟨rfl, rfl, rfl⟩
    exact ⟨rfl, rfl, hH⟩
  · split at h
    · rename_i af haf
      split at h
      · rename_i hlen
        split at h
        · rename_i e r1 h1
          split at h
          · rename_i hok
            simp only [Bool.and_eq_true, List.all_eq_true] at hok
            split at h
            · rename_i vs hvs
              cases h
              have g1 := hc _ _ _ _ _ _ _ h1 ⟨argsT 0 args, [], n, Hl⟩ ⟨fun i => (Tr.get_ofL _ _).symm, rfl, rfl, hH⟩
              simp only [Bool.false_eq_true, if_false] at g1
              refine ACalls.enter (htab _ _ haf) hlen (g1.conseq ?_)
              rintro e' s' ⟨rfl, hs'⟩
              refine ⟨?_, fun m hm => ?_, ?_, vs, ?_, rfl, hs'.n, ?_⟩
              · have := hok.1.1
                cases e' <;> simp [okExit] at this <;> simp
              · rw [hs'.D] at hm
                have := hok.1.2 m hm
                split at this
                · rename_i hx; exact (hs'.H m).trans hx
                · cases this
              · rw [hs'.D]; exact nodupB_ok hok.2
              · rw [hs'.D, resR_ok hs'.T (delR_eq _ hs'.H)]; exact hvs
              · rw [hs'.D]; exact delR_eq _ hs'.H
            · cases h
          · cases h
        · cases h
      · cases h
    · cases h
theorem runAll_ok {known : FuncId → List V → Option V} (hk : okKnown P known) {tab : FuncId → Option AFun} (htab : ∀ f af, tab f = some af → prepF P f = some af) : ∀ k, okCode P (runAll known tab k).code ∧ okCall P (runAll known tab k).call := by
  intro k
  induction k with
  | zero => exact ⟨fun rounds N rd ac r e r' h => by simp [runAll] at h, fun f args n H v n' H' h => by simp [runAll] at h⟩
  | succ k ih => exact ⟨stepCode_ok ih.1 ih.2, stepCall_ok hk htab ih.1⟩
end sound
end Go.Proofs.Ytpgelghkjiejlaa
end
section
namespace Go.Proofs.Ytpgelghkjiejlaa
open Go

/-- The first value says of φ's ids what the second one says, or less. -/
inductive VRe (φ : Nat → Nat) (m : Nat) : V → V → Prop
  | un (v : V) : VRe φ m .un v
  | b (x : Bool) : VRe φ m (.b x) (.b x)
  | i (k : IntKind) (n : Int) : VRe φ m (.i k n) (.i k n)
  | s (l : List UInt8) : VRe φ m (.s l) (.s l)
  | nilp : VRe φ m .nilp .nilp
  | p {id off : Nat} (h : id < m) : VRe φ m (.p id off) (.p (φ id) off)
  | nils : VRe φ m .nils .nils
  | sl {id off sz len : Nat} {full full' : Bool} (h : id < m) (hf : full = true → full' = true) : VRe φ m (.sl id off sz len full) (.sl (φ id) off sz len full')
  | nilf : VRe φ m .nilf .nilf
  | fn {f : FuncId} {xs us xs' us' : List V} (hl : xs.length = xs'.length) (h : ∀ (j : Nat) x y, xs[j]? = some x → xs'[j]? = some y → VRe φ m x y)
      (hl' : us.length = us'.length) (h' : ∀ (j : Nat) x y, us[j]? = some x → us'[j]? = some y → VRe φ m x y) : VRe φ m (.fn f xs us) (.fn f xs' us')
  | yl {id : Nat} (h : id < m) : VRe φ m (.yl id) (.yl (φ id))
  | nili : VRe φ m .nili .nili
  | ifc {t : TypeId} {x y : V} (h : VRe φ m x y) : VRe φ m (.ifc t x) (.ifc t y)
  | ag {xs xs' : List V} (hl : xs.length = xs'.length) (h : ∀ (j : Nat) x y, xs[j]? = some x → xs'[j]? = some y → VRe φ m x y) : VRe φ m (.ag xs) (.ag xs')
  | tu {xs xs' : List V} (hl : xs.length = xs'.length) (h : ∀ (j : Nat) x y, xs[j]? = some x → xs'[j]? = some y → VRe φ m x y) : VRe φ m (.tu xs) (.tu xs')
def VReL (φ : Nat → Nat) (m : Nat) : List V → List V → Prop
  | [], [] => True
  | x :: xs, y :: ys => VRe φ m x y ∧ VReL φ m xs ys
  | _, _ => False
theorem VReL.spec {φ : Nat → Nat} {m : Nat} : ∀ {xs ys : List V}, VReL φ m xs ys → xs.length = ys.length ∧ ∀ (j : Nat) x y, xs[j]? = some x → ys[j]? = some y → VRe φ m x y
  | [], [], _ => ⟨rfl, fun j x y h => by simp at h⟩
  | x :: xs, y :: ys, h => by
    obtain ⟨h1, h2⟩ := VReL.spec h.2
    refine ⟨by simp [h1], fun j a b ha hb => ?_⟩
    cases j with
    | zero => simp at ha hb; subst ha; subst hb; exact h.1
    | succ j => exact h2 j a b (by simpa using ha) (by simpa using hb)
  | [], _ :: _, h => h.elim
  | _ :: _, [], h => h.elim
theorem VRe.agL {φ : Nat → Nat} {m : Nat} {xs ys : List V} (h : VReL φ m xs ys) : VRe φ m (.ag xs) (.ag ys) := .ag h.spec.1 h.spec.2
theorem VRe.tuL {φ : Nat → Nat} {m : Nat} {xs ys : List V} (h : VReL φ m xs ys) : VRe φ m (.tu xs) (.tu ys) := .tu h.spec.1 h.spec.2
theorem VRe.fnL {φ : Nat → Nat} {m : Nat} {f : FuncId} {xs ys us vs : List V} (h : VReL φ m xs ys) (h' : VReL φ m us vs) : VRe φ m (.fn f xs us) (.fn f ys vs) := .fn h.spec.1 h.spec.2 h'.spec.1 h'.spec.2
theorem VRe.refl {m : Nat} {φ : Nat → Nat} (hφ : ∀ b, b < m → φ b = b) {v : V} (h : VIn m v) : VRe φ m v v := by
  have key : ∀ {xs : List V}, (∀ x ∈ xs, VRe φ m x x) → ∀ (j : Nat) x y, xs[j]? = some x → xs[j]? = some y → VRe φ m x y := by
    intro xs hx j x y h1 h2
    rw [h1] at h2
    cases h2
    exact hx x (List.mem_of_getElem? h1)
  induction h with
  | un => exact .un _
  | b x => exact .b x
  | i k n => exact .i k n
  | s l => exact .s l
  | nilp => exact .nilp
  | @p id off h => have := VRe.p (φ := φ) (off := off) h; rwa [hφ id h] at this
  | nils => exact .nils
  | @sl id off sz len full h => have := VRe.sl (φ := φ) (off := off) (sz := sz) (len := len) (full := full) (full' := full) h (fun x => x); rwa [hφ id h] at this
  | nilf => exact .nilf
  | fn _ _ ih ih' => exact .fn rfl (key ih) rfl (key ih')
  | @yl id h => have := VRe.yl (φ := φ) h; rwa [hφ id h] at this
  | nili => exact .nili
  | ifc _ ih => exact .ifc ih
  | ag _ ih => exact .ag rfl (key ih)
  | tu _ ih => exact .tu rfl (key ih)
theorem VReL.refl {m : Nat} {φ : Nat → Nat} (hφ : ∀ b, b < m → φ b = b) : ∀ {xs : List V}, (∀ x ∈ xs, VIn m x) → VReL φ m xs xs
  | [], _ => trivial
  | x :: xs, h => ⟨.refl hφ (h x (by simp)), VReL.refl hφ fun y hy => h y (by simp [hy])⟩

def Ren.re (ρ : Ren) (φ : Nat → Nat) (m : Nat) : Ren := fun b => if b < m then ρ (φ b) else none
theorem Ren.re_lt {ρ : Ren} {φ : Nat → Nat} {m b : Nat} (h : b < m) : ρ.re φ m b = ρ (φ b) := by unfold Ren.re; rw [if_pos h]
theorem Ren.re_some {ρ : Ren} {φ : Nat → Nat} {m b : Nat} {x : Nat × Nat × Nat} (h : ρ.re φ m b = some x) : b < m ∧ ρ (φ b) = some x := by
  unfold Ren.re at h
  split at h
  · exact ⟨by assumption, h⟩
  · cases h
theorem VRel.re {ρ : Ren} {φ : Nat → Nat} {m : Nat} {v0 v : V} (h : VRe φ m v0 v) : ∀ {y : Value}, VRel ρ v y → VRel (ρ.re φ m) v0 y := by
  have key : ∀ {xs xs' : List V} {ys : Array Value}, xs.length = xs'.length → xs'.length = ys.size → (∀ (j : Nat) x y, xs[j]? = some x → xs'[j]? = some y → ∀ {z : Value}, VRel ρ y z → VRel (ρ.re φ m) x z) →
      (∀ (j : Nat) x y, xs'[j]? = some x → ys[j]? = some y → VRel ρ x y) → ∀ (j : Nat) x y, xs[j]? = some x → ys[j]? = some y → VRel (ρ.re φ m) x y := by
    intro xs xs' ys hl hl' ih hr j x y hx hy
    have : j < xs'.length := by rw [← hl]; exact (List.getElem?_eq_some_iff.1 hx).1
    exact ih j x xs'[j] hx (List.getElem?_eq_getElem this) (hr j _ y (List.getElem?_eq_getElem this) hy)
  induction h with
  | un v => intro y _; exact .un y
  | b x => intro y h; cases h; exact .b x
  | i k n => intro y h; cases h; exact .i k n
  | s l => intro y h; cases h with | s e => exact .s e
  | nilp => intro y h; cases h; exact .nilp
  | p hi => intro y h; cases h with | p e ho => exact .p (by rw [Ren.re_lt hi]; exact e) ho
  | nils => intro y h; cases h; exact .nils
  | sl hi hf => intro y h; cases h with | sl e hk hf' ho => exact .sl (by rw [Ren.re_lt hi]; exact e) hk (fun h => hf' (hf h)) ho
  | nilf => intro y h; cases h; exact .nilf
  | fn hl _ hl' _ ih ih' =>
    intro y h
    cases h with
    | fn a1 a2 a3 a4 => exact .fn (hl.trans a1) (key hl a1 ih a2) (hl'.trans a3) (key hl' a3 ih' a4)
  | yl hi => intro y h; cases h with | yl e => exact .yl (by rw [Ren.re_lt hi]; exact e)
  | nili => intro y h; cases h; exact .nili
  | ifc _ ih => intro y h; cases h with | ifc a => exact .ifc (ih a)
  | ag hl _ ih => intro y h; cases h with | ag a1 a2 => exact .ag (hl.trans a1) (key hl a1 ih a2)
  | tu hl _ ih => intro y h; cases h with | tu a1 a2 => exact .tu (hl.trans a1) (key hl a1 ih a2)

def TRe (φ : Nat → Nat) (m : Nat) (T0 T : Temps) : Prop := ∀ i v, aget T0 i = some v → ∃ v', aget T i = some v' ∧ VRe φ m v v'
inductive BRe (φ : Nat → Nat) (m : Nat) : Blk → Blk → Prop
  | rowP {o o' : Bool} {cs cs' : List V} (ho : o = true → o' = true) (h : VReL φ m cs (cs'.take cs.length)) : BRe φ m (.row o cs) (.row o' cs')
  | loop {r0 r : ALoop} (h1 : r.st = r0.st) (h2 : r.pend = r0.pend) (h3 : r.N = r0.N) (h4 : r.params = r0.params) (h5 : r.assign = r0.assign) (h6 : r.body = r0.body) (hm : r0.marks < m) (hm' : r.marks = φ r0.marks) (hT : TRe φ m r0.T r.T) : BRe φ m (.loop r0) (.loop r)
  | marks : BRe φ m .marks .marks
theorem BRe.row {φ : Nat → Nat} {m : Nat} {o o' : Bool} {cs cs' : List V} (ho : o = true → o' = true) (h : VReL φ m cs cs') : BRe φ m (.row o cs) (.row o' cs') :=
  .rowP ho (by rw [h.spec.1, List.take_length]; exact h)
theorem BRe.refl {m : Nat} {k : Blk} (h : BIn m k) : BRe id m k k := by
  cases k with
  | row o cs => exact .row id (VReL.refl (fun _ _ => rfl) h)
  | loop r => exact .loop rfl rfl rfl rfl rfl rfl h.1 rfl fun i v hv => ⟨v, hv, .refl (fun _ _ => rfl) (h.2 i v hv)⟩
  | marks => exact .marks
structure HRe (φ : Nat → Nat) (m : Nat) (H0 H : Heap) : Prop where
  get : ∀ b k, aget H0 b = some k → b < m ∧ ∃ k', aget H (φ b) = some k' ∧ BRe φ m k k'
  inj : ∀ b1 b2 k1 k2, aget H0 b1 = some k1 → aget H0 b2 = some k2 → φ b1 = φ b2 → b1 = b2
structure St.re (φ : Nat → Nat) (s0 s : St) : Prop where
  T : TRe φ s0.n s0.T s.T
  D : s.D = s0.D.map φ
  Dlt : ∀ m ∈ s0.D, m < s0.n
  H : HRe φ s0.n s0.H s.H
theorem TRel.re {ρ : Ren} {φ : Nat → Nat} {m N : Nat} {T0 T : Temps} {tmps : Array Value} (h : TRe φ m T0 T) (r : TRel ρ N T tmps) : TRel (ρ.re φ m) N T0 tmps :=
  ⟨r.1, fun i v hv => by
    obtain ⟨v', h1, h2⟩ := h i v hv
    obtain ⟨y, h3, h4⟩ := r.2 i v' h1
    exact ⟨y, h3, h4.re h2⟩⟩
theorem BRel.re {pc : PrepC} {ρ : Ren} {φ : Nat → Nat} {m : Nat} {w : World} {c d z : Nat} {k0 k : Blk} (h : BRe φ m k0 k) (r : BRel pc ρ w c d z k) : BRel pc (ρ.re φ m) w c d z k0 := by
  cases h with
  | rowP ho h =>
    obtain ⟨arr, t, fr, h1, h2, h3, h4, h5⟩ := r
    obtain ⟨q1, q2⟩ := h.spec
    rw [List.length_take] at q1
    refine ⟨arr, t, fr, h1, h2, by omega, fun j x hx => ?_, fun hh => h5 (ho hh)⟩
    have hj := (List.getElem?_eq_some_iff.1 hx).1
    obtain ⟨y, hy, hr⟩ := h4 j _ (List.getElem?_eq_getElem (by omega))
    exact ⟨y, hy, hr.re (q2 j x _ hx (by rw [List.getElem?_take, if_pos hj]; exact List.getElem?_eq_getElem (by omega)))⟩
  | loop h1 h2 h3 h4 h5 h6 hm hm' hT =>
    obtain ⟨L, g1, l⟩ := r
    refine ⟨L, g1, l.st.trans h1, by rw [← h2]; exact l.pend, ?_, l.params.trans h4, by rw [← h3, ← h5]; exact l.assign, by rw [← h3, ← h6]; exact l.body, ?_⟩
    · rw [← h3]; exact l.tm.re hT
    · obtain ⟨d', z', e⟩ := l.marks
      exact ⟨d', z', by rw [Ren.re_lt hm, ← hm']; exact e⟩
  | marks => exact r
theorem BRe.own {φ : Nat → Nat} {m : Nat} {k0 k : Blk} (h : BRe φ m k0 k) (ho : k0.own = true) : k.own = true := by
  cases h with
  | rowP h _ => exact h ho
  | loop => rfl
  | marks => rfl
theorem Sim.re {pc : PrepC} {ρ : Ren} {n m : Nat} {φ : Nat → Nat} {H0 H : Heap} {w : World} (s : Sim pc ρ n H w) (h : HRe φ m H0 H) : Sim pc (ρ.re φ m) m H0 w := by
  refine ⟨fun b x hb => ⟨(Ren.re_some hb).1, (s.sup _ _ (Ren.re_some hb).2).2⟩, fun b k hb => ?_, fun b1 b2 k1 k2 x1 x2 h1 h2 e1 e2 he ho => ?_⟩
  · obtain ⟨hlt, k', g1, g2⟩ := h.get b k hb
    obtain ⟨c, d, z, e, r⟩ := s.blk _ _ g1
    exact ⟨c, d, z, by rw [Ren.re_lt hlt]; exact e, r.re g2⟩
  · obtain ⟨_, k1', g1, g1'⟩ := h.get b1 k1 h1
    obtain ⟨_, k2', g2, g2'⟩ := h.get b2 k2 h2
    exact h.inj b1 b2 k1 k2 h1 h2 (s.inj _ _ _ _ x1 x2 g1 g2 (Ren.re_some e1).2 (Ren.re_some e2).2 he (g1'.own ho))
theorem Ext.re {pc : PrepC} {ρ ρ' : Ren} {n n' m : Nat} {φ : Nat → Nat} {H H' H0 : Heap} {w w' : World} (s : Sim pc ρ n H w) (h : Ext ρ n H w ρ' n' H' w') (hn : n ≤ m) (hφ : ∀ b, b < n → φ b = b) (hr : HRe φ m H0 H') :
    Ext ρ n H w (ρ'.re φ m) m H0 w' where
  le := hn
  ren := fun b x hb => by
    have := (s.sup b x hb).1
    rw [Ren.re_lt (by omega), hφ b this]
    exact h.ren b x hb
  old := fun b x hb hx => by
    have := (Ren.re_some hx).2
    rw [hφ b hb] at this
    exact h.old b x hb this
  os := h.os
  tape := h.tape
  output := h.output
  drawn := h.drawn
  size := h.size
  frame := h.frame
  own := fun c ⟨b, k, x, h1, h2, h3, h4⟩ => by
    obtain ⟨_, k', g1, g2⟩ := hr.get b k h1
    exact h.own c ⟨φ b, k', x, g1, g2.own h2, (Ren.re_some h3).2, h4⟩
theorem MRel.re {ρ : Ren} {φ : Nat → Nat} {m : Nat} : ∀ {D : List Nat} {ds : List Deferred}, MRel ρ (D.map φ) ds → (∀ i ∈ D, i < m) → MRel (ρ.re φ m) D ds
  | [], [], _, _ => trivial
  | i :: D, d :: ds, ⟨⟨c, e, z, h1, h2⟩, r⟩, h => ⟨⟨c, e, z, by rw [Ren.re_lt (h i (by simp))]; exact h1, h2⟩, MRel.re r fun j hj => h j (by simp [hj])⟩
  | [], _ :: _, h, _ => h.elim
  | _ :: _, [], h, _ => h.elim
section rules
variable {P : Program} {N : Nat}
theorem ARel.re {ρ : Ren} {a : Act} {w : World} {s0 s : St} {φ : Nat → Nat} (hA : ARel P ρ N s a w) (h : St.re φ s0 s) : ARel P (ρ.re φ s0.n) N s0 a w :=
  ⟨hA.tm.re h.T, (h.D ▸ hA.mr : MRel ρ (s0.D.map φ) a.defers).re h.Dlt, hA.sim.re h.H⟩
/-- What is left, under other ids. -/
theorem AWc.conseqR {rd : Option Nat} {ac : ACode} {st : St} {Q Q' : Exit → St → Prop} (h : AWc P N rd ac st Q) (hq : ∀ e s, Q e s → ∃ φ s0, (∀ b, b < st.n → φ b = b) ∧ st.n ≤ s0.n ∧ St.re φ s0 s ∧ Q' e s0) : AWc P N rd ac st Q' := by
  intro c hc ρ F m a w hF hA
  refine wpIn_mono (h c hc ρ F m a w hF hA) ?_
  rintro e a' w' ⟨st', ρ', h1, h2, h3⟩
  obtain ⟨φ, s0, g1, g2, g3, g4⟩ := hq e st' h1
  exact ⟨s0, ρ'.re φ s0.n, g4, h2.re g3, h3.re hA.sim g2 g1 g3.H⟩
/-- A loop: an invariant with a number that falls; the ids may be laid anew at each round's end. -/
theorem AWc.loopR {rd : Option Nat} {st : St} {Q : Exit → St → Prop} {x : ACode} (I : Nat → St → Prop) {k₀ : Nat} {s₀ : St} {φ₀ : Nat → Nat} (h₀ : I k₀ s₀) (hre : St.re φ₀ s₀ st) (hφ : ∀ b, b < st.n → φ₀ b = b) (hI : ∀ k s, I k s → st.n ≤ s.n)
    (round : ∀ k s, I k s → AWc P N rd x s (onNormal (fun s' => ∃ j φ s'', j < k ∧ I j s'' ∧ (∀ b, b < st.n → φ b = b) ∧ St.re φ s'' s') Q)) : AWc P N rd (.loop x) st Q := by
  intro c hp ρ F m a w hF hA
  obtain ⟨c1, rfl, h1⟩ := prepC_loop hp
  let J : Nat → Act → World → Prop := fun k a' w' => ∃ s ρ', I k s ∧ ARel P ρ' N s a' w' ∧ Ext ρ st.n st.H w ρ' s.n s.H w'
  refine wpIn_loop (fun a' w' => ∃ k, J k a' w') (fun a' w' => leastN fun k => J k a' w') ?_ ?_
  · exact ⟨k₀, s₀, _, h₀, hA.re hre, (Ext.refl ρ st.n st.H w).re hA.sim (hI _ _ h₀) hφ hre.H⟩
  · rintro a1 w1 hJ
    obtain ⟨⟨s, ρ1, hI1, hA1, hE1⟩, hmin⟩ := leastN_spec hJ
    refine wpIn_mono (round _ s hI1 c1 h1 ρ1 F m a1 w1 (hF.mono hE1.ren) hA1) ?_
    rintro e a2 w2 ⟨s2, ρ2, hq, hA2, hE2⟩
    have hE := hE1.trans hE2
    cases e with
    | normal =>
      obtain ⟨j, φ, s3, hj, hI3, hφ3, hl⟩ := hq
      have hJ2 : J j a2 w2 := ⟨s3, _, hI3, hA2.re hl, hE.re hA.sim (hI _ _ hI3) hφ3 hl.H⟩
      exact ⟨⟨j, hJ2⟩, Nat.lt_of_le_of_lt ((leastN_spec ⟨j, hJ2⟩).2 j hJ2) hj⟩
    | _ => exact ⟨s2, ρ2, hq, hA2, hE⟩
theorem ACalls.weakenR {f : FuncId} {args : List V} {n : Nat} {H : Heap} {K K' : V → Nat → Heap → Prop} (h : ACalls P f args n H K)
    (hk : ∀ v n' H', K v n' H' → ∃ φ v0 n0 H0, (∀ b, b < n → φ b = b) ∧ n ≤ n0 ∧ VRe φ n0 v0 v ∧ HRe φ n0 H0 H' ∧ K' v0 n0 H0) : ACalls P f args n H K' :=
  ⟨h.1, fun ρ w args' hs hr => (h.2 ρ w args' hs hr).mono fun e w' ⟨v, n', H', ρ', y, h1, h2, h3, h4, h5⟩ => by
    obtain ⟨φ, v0, n0, H0, g1, g2, g3, g4, g5⟩ := hk _ _ _ h1
    exact ⟨v0, n0, H0, ρ'.re φ n0, y, g5, h2, h3.re g3, h4.re g4, h5.re hs g2 g1 g4⟩⟩
/-- The ids that there are, known at a call's beginning. -/
theorem ACalls.withIn {f : FuncId} {args : List V} {n : Nat} {H : Heap} {K : V → Nat → Heap → Prop} (h1 : EntersF P f) (h : HIn n H → (∀ x ∈ args, VIn n x) → ACalls P f args n H K) : ACalls P f args n H K :=
  ⟨h1, fun ρ w args' hs hr => (h hs.hin (hr.vin fun b x hb => (hs.sup b x hb).1)).2 ρ w args' hs hr⟩
/-- What was laid in a call is forgotten; what stood still stands. -/
theorem ACalls.drop {f : FuncId} {args : List V} {n : Nat} {H : Heap} {v : V} {K : V → Nat → Heap → Prop} (h : ACalls P f args n H K) (hk : ∀ v' n' H', K v' n' H' → v' = v ∧ VIn n v ∧ ∀ b k, aget H b = some k → aget H' b = some k) :
    ACalls P f args n H fun v' n' H' => v' = v ∧ n' = n ∧ H' = H := by
  refine .withIn h.1 fun hin _ => h.weakenR fun v' n' H' hK => ?_
  obtain ⟨rfl, h2, h3⟩ := hk _ _ _ hK
  exact ⟨id, v', n, H, fun _ _ => rfl, Nat.le_refl _, .refl (fun _ _ => rfl) h2, ⟨fun b k hb => ⟨(hin b k hb).1, k, h3 b k hb, .refl (hin b k hb).2⟩, fun _ _ _ _ _ _ h => h⟩, rfl, rfl, rfl⟩
end rules
end Go.Proofs.Ytpgelghkjiejlaa
end
section
namespace Go.Proofs.Ytpgelghkjiejlaa
open Go

/-- A call that answers v, and after which everything that stood stands, and nothing else. -/
def Pure (P : Program) (f : FuncId) (args : List V) (n : Nat) (H : Heap) (v : V) : Prop := ACalls P f args n H fun v' n' H' => v' = v ∧ n' = n ∧ H' = H

section rules
variable {P : Program} {N : Nat}
def drawP (P : Program) : List AOper → St → (St → Prop) → Prop
  | [], st, K => K st
  | o :: os, st, K =>
    match guardOf st.T o.guard with
    | some false => drawP P os ⟨putT st.T o.dst .un, st.D, st.n, st.H⟩ K
    | some true =>
      match o.op with
      | .call g args =>
        match g.val st.T with
        | .fn f first caps => ∃ fr v, (∀ b ∈ fr, b < st.n) ∧ Pure P f (first ++ args.map (·.val st.T) ++ caps) st.n (restr st.H fr []) v ∧ VIn st.n v ∧ drawP P os ⟨putT st.T o.dst v, st.D, st.n, st.H⟩ K
        | _ => False
      | op => ∃ fr v, (∀ b ∈ fr, b < st.n) ∧ evalOp st.T st.n (restr st.H fr []) op = some (v, st.n, restr st.H fr []) ∧ op.cok = true ∧ drawP P os ⟨putT st.T o.dst v, st.D, st.n, st.H⟩ K
    | none => False
theorem merge_none (H R : Heap) (n : Nat) : mergeH H [] n n R = H := by
  have h1 : R.filter (fun x => touch [] n n x.1) = [] := by
    rw [List.filter_eq_nil_iff]
    intro x _
    simp [touch]
  have h2 : H.filter (fun x => !touch [] n n x.1) = H := List.filter_eq_self.2 fun x _ => by simp [touch]; omega
  simp [mergeH, h1, h2]
theorem touch_none (n b : Nat) : ¬ touch [] n n b = true := by simp [touch]
theorem drawP_F {K : St → Prop} : ∀ {l : List AOper} {st : St} {acc : List DStep}, drawP P l st K → drawF P l st acc fun steps s => ∃ more, steps = acc ++ more ∧ stepsOf more l ∧ (∀ t ∈ more, heavy t = false) ∧ K s := by
  intro l
  induction l with
  | nil => intro st acc h; exact ⟨[], by simp, trivial, by simp, h⟩
  | cons o os ih =>
    intro st acc h
    have hgo : ∀ (s0 : DStep) (st' : St), stepOf s0 o → heavy s0 = false → drawP P os st' K → drawF P os st' (acc ++ [s0]) fun steps s => ∃ more, steps = acc ++ more ∧ stepsOf more (o :: os) ∧ (∀ t ∈ more, heavy t = false) ∧ K s := by
      intro s0 st' h1 h2 h3
      refine drawF_mono ?_ (ih h3)
      rintro a s ⟨more, rfl, g1, g2, g3⟩
      refine ⟨s0 :: more, by simp, ⟨h1, g1⟩, ?_, g3⟩
      intro t ht
      rcases List.mem_cons.1 ht with rfl | ht
      · exact h2
      · exact g2 t ht
    have hl : ∀ rs fr v R, heavy ⟨rs, o.dst, fr, [], st.n, st.n, v, R⟩ = false := fun rs fr v R => by simp [heavy]
    unfold drawP at h
    split at h
    · rename_i hg
      exact drawF_skip hg (hgo _ _ ⟨fun t ht => by simpa using Or.inr ht, rfl, Nat.le_refl _⟩ (hl _ _ _ _) h)
    · rename_i hg
      split at h
      · rename_i g args hop
        split at h
        · rename_i f first caps hgv
          obtain ⟨fr, v, h1, h2, h3, h4⟩ := h
          refine drawF_call hg hop hgv (fr := fr) (fw := []) (v := v) (n1 := st.n) (R := restr st.H fr []) h2 ?_ ⟨h3, fun p _ ht => absurd ht (touch_none _ _)⟩ ?_
          · exact ⟨Nat.le_refl _, fun b hb => h1 b (by simpa using hb), fun b hb => by simp at hb, fun p _ ht => absurd ht (touch_none _ _)⟩
          · rw [merge_none]
            exact hgo _ _ ⟨fun t ht => by rw [hop]; exact ht, rfl, Nat.le_refl _⟩ (hl _ _ _ _) h4
        · exact h.elim
      · rename_i hnc
        obtain ⟨fr, v, h1, h2, h3, h4⟩ := h
        refine drawF_op hg (fun g l hx => hnc g l hx) (fr := fr) (fw := []) (v := v) (n1 := st.n) (R := restr st.H fr []) h2 h3 ?_ ?_
        · exact ⟨Nat.le_refl _, fun b hb => h1 b (by simpa using hb), fun b hb => by simp at hb, fun p _ ht => absurd ht (touch_none _ _)⟩
        · rw [merge_none]
          exact hgo _ _ ⟨fun t ht => ht, rfl, Nat.le_refl _⟩ (hl _ _ _ _) h4
    · exact h.elim
/-- A region that draws its order, where no operation lays anything. -/
theorem AWc.drawP {rd : Option Nat} {st : St} {Q : Exit → St → Prop} {b : List Nat} {l : List AOper} (hs : slotsOk b l 0 l = true) (h : Go.Proofs.Ytpgelghkjiejlaa.drawP P l st (Q .normal)) : AWc P N rd (.ops (some b) l) st Q := by
  refine .draw (drawF_mono ?_ (drawP_F (acc := []) h))
  rintro steps s ⟨more, rfl, h1, h2, h3⟩
  refine ⟨?_, h3⟩
  refine compat_ok h1 hs ?_
  have : ∀ (l : List DStep) (k : Nat), (∀ t ∈ l, heavy t = false) → heapOk b steps k l = true := by
    intro l
    induction l with
    | nil => intro k _; rfl
    | cons s0 l ih =>
      intro k hk
      simp only [heapOk, Bool.and_eq_true]
      refine ⟨by rw [hk s0 (by simp)]; rfl, ih _ fun t ht => hk t (by simp [ht])⟩
  exact this steps 0 h2
section one
variable {o : AOper} {os : List AOper} {st : St} {K : St → Prop}
theorem drawP_skip (hg : guardOf st.T o.guard = some false) (h : Go.Proofs.Ytpgelghkjiejlaa.drawP P os ⟨putT st.T o.dst .un, st.D, st.n, st.H⟩ K) : Go.Proofs.Ytpgelghkjiejlaa.drawP P (o :: os) st K := by
  unfold Go.Proofs.Ytpgelghkjiejlaa.drawP; rw [hg]; exact h
theorem drawP_call (fr : List Nat) {g : AX} {args : List AX} {f : FuncId} {first caps : List V} {v : V} (hg : guardOf st.T o.guard = some true) (ho : o.op = .call g args) (hgv : g.val st.T = .fn f first caps)
    (hc : Pure P f (first ++ args.map (·.val st.T) ++ caps) st.n (restr st.H fr []) v) (hfr : ∀ b ∈ fr, b < st.n) (hv : VIn st.n v) (h : Go.Proofs.Ytpgelghkjiejlaa.drawP P os ⟨putT st.T o.dst v, st.D, st.n, st.H⟩ K) : Go.Proofs.Ytpgelghkjiejlaa.drawP P (o :: os) st K := by
  unfold Go.Proofs.Ytpgelghkjiejlaa.drawP; rw [hg, ho]; simp only [hgv]; exact ⟨fr, v, hfr, hc, hv, h⟩
theorem drawP_op (fr : List Nat) {v : V} (hg : guardOf st.T o.guard = some true) (ho : o.op.isCall = false) (hev : evalOp st.T st.n (restr st.H fr []) o.op = some (v, st.n, restr st.H fr [])) (hfr : ∀ b ∈ fr, b < st.n) (hc : o.op.cok = true)
    (h : Go.Proofs.Ytpgelghkjiejlaa.drawP P os ⟨putT st.T o.dst v, st.D, st.n, st.H⟩ K) : Go.Proofs.Ytpgelghkjiejlaa.drawP P (o :: os) st K := by
  unfold Go.Proofs.Ytpgelghkjiejlaa.drawP; rw [hg]
  simp only
  split
  · rename_i heq; rw [heq] at ho; cases ho
  · exact ⟨fr, v, hfr, hev, hc, h⟩
theorem opsF_cons_op {v : V} {n' : Nat} {H' : Heap} (hg : guardOf st.T o.guard = some true) (ho : o.op.isCall = false) (hev : evalOp st.T st.n st.H o.op = some (v, n', H')) (h : opsF P os ⟨putT st.T o.dst v, st.D, n', H'⟩ K) : opsF P (o :: os) st K :=
  opsF_op hg (fun g l hx => by rw [hx] at ho; cases ho) hev h
theorem opsF_cons_call {g : AX} {args : List AX} {f : FuncId} {first caps : List V} {v : V} (hg : guardOf st.T o.guard = some true) (ho : o.op = .call g args) (hgv : g.val st.T = .fn f first caps)
    (hc : Pure P f (first ++ args.map (·.val st.T) ++ caps) st.n st.H v) (h : opsF P os ⟨putT st.T o.dst v, st.D, st.n, st.H⟩ K) : opsF P (o :: os) st K := by
  refine opsF_call hg ho ?_
  rw [hgv]
  refine ACalls.mono hc ?_
  rintro _ _ _ ⟨rfl, rfl, rfl⟩
  exact h
theorem opsF_nil (h : K st) : opsF P [] st K := h
theorem drawP_nil (h : K st) : Go.Proofs.Ytpgelghkjiejlaa.drawP P [] st K := h
end one
/-- A function of which neither the arguments nor the answer name blocks. -/
theorem Pure.of0 {f : FuncId} {args : List V} {v : V} (h : ACalls P f args 0 [] fun v' _ _ => v' = v) (ha : ∀ x ∈ args, VIn 0 x) (hv : VIn 0 v) (n : Nat) (H : Heap) : Pure P f args n H v :=
  ACalls.frame0 (K := fun v' => v' = v) (h.mono fun v' n' H' e => ⟨e, e ▸ hv⟩) ha n H
theorem Pure.of_drop {f : FuncId} {args : List V} {n : Nat} {H : Heap} {v : V} (h : ACalls P f args n H fun v' n' H' => v' = v ∧ ∀ b k, aget H b = some k → aget H' b = some k) (hv : VIn n v) : Pure P f args n H v :=
  h.drop fun v' n' H' hk => ⟨hk.1, hv, hk.2⟩
/-- A function without defers, entered. -/
theorem ACalls.enter0 {f : FuncId} {af : AFun} (hf : prepF P f = some af) {args : List V} {n : Nat} {H : Heap} {K : V → Nat → Heap → Prop} (hn : args.length ≤ af.N)
    (h : AWc P af.N none af.body ⟨argsT 0 args, [], n, H⟩ fun e st => (e = .normal ∨ e = .ret) ∧ st.D = [] ∧ ∃ vs, resAll st.T st.H af.res = some vs ∧ K (resV vs) st.n st.H) :
    ACalls P f args n H K :=
  .enter hf hn (h.conseq fun e st ⟨h1, h2, vs, h3, h4⟩ => by
    refine ⟨h1, by simp [h2], by simp [h2], vs, ?_, ?_⟩
    · rw [h2]; exact h3
    · rw [h2]; exact h4)
end rules
end Go.Proofs.Ytpgelghkjiejlaa
end
section
namespace Go.Proofs.Ytpgelghkjiejlaa
open Go
def finS (o : AOper) (st : St) : V × Nat × Heap → Option St
  | (v, n', H') => some ⟨putT st.T o.dst v, st.D, n', H'⟩
def stepG (o : AOper) (st : St) : Bool → Option St
  | false => some ⟨putT st.T o.dst .un, st.D, st.n, st.H⟩
  | true => (evalOp st.T st.n st.H o.op).bind (finS o st)
/-- Operations in their order, up to a call. -/
def runS : List AOper → St → Option St
  | [], st => some st
  | o :: os, st => ((guardOf st.T o.guard).bind (stepG o st)).bind (runS os)
def purOp : AOp → Bool
  | .new _ | .box _ | .lit .. | .st .. | .mks .. | .app .. | .cpy .. | .clr .. | .call .. => false
  | _ => true
def finP (o : AOper) (st : St) : V × Nat × Heap → Option St
  | (v, _, _) => some ⟨putT st.T o.dst v, st.D, st.n, st.H⟩
def stepP (o : AOper) (st : St) : Bool → Option St
  | false => some ⟨putT st.T o.dst .un, st.D, st.n, st.H⟩
  | true => if (frOp st.T o.op).all (fun b => decide (b < st.n)) then (evalOp st.T st.n (restr st.H (frOp st.T o.op) []) o.op).bind (finP o st) else none
def runP : List AOper → St → Option St
  | [], st => some st
  | o :: os, st => ((guardOf st.T o.guard).bind (stepP o st)).bind (runP os)
theorem keep_same {n : Nat} {H : Heap} {o : Option V} {v : V} {n' : Nat} {H' : Heap} (h : keep n H o = some (v, n', H')) : n' = n ∧ H' = H := by
  cases o with
  | none => cases h
  | some x => cases h; exact ⟨rfl, rfl⟩
theorem purOp_same {T : Temps} {n : Nat} {H : Heap} {op : AOp} (hp : purOp op = true) {v : V} {n' : Nat} {H' : Heap} (h : evalOp T n H op = some (v, n', H')) : n' = n ∧ H' = H := by
  cases op <;> first | (cases hp; done) | skip
  all_goals simp only [evalOp] at h
  all_goals first | exact keep_same h | skip
  all_goals first | (cases h; exact ⟨rfl, rfl⟩) | skip
  all_goals first | (split at h <;> cases h <;> exact ⟨rfl, rfl⟩) | skip
  rename_i g sz a
  rw [evLd_ldV] at h
  cases hx : ldV H g sz (a.val T) with
  | none => rw [hx] at h; cases h
  | some x => rw [hx] at h; cases h; exact ⟨rfl, rfl⟩
section rules
variable {P : Program} {N : Nat}
theorem runS_ok {K : St → Prop} : ∀ {l l' : List AOper} {st st' : St}, runS l st = some st' → opsF P l' st' K → opsF P (l ++ l') st K := by
  intro l
  induction l with
  | nil => intro l' st st' h hk; cases h; exact hk
  | cons o os ih =>
    intro l' st st' h hk
    rw [List.cons_append]
    unfold runS at h
    cases hg : guardOf st.T o.guard with
    | none => rw [hg] at h; cases h
    | some b =>
      rw [hg] at h
      cases b with
      | false => exact opsF_skip hg (ih h hk)
      | true =>
        simp only [Option.bind_some, stepG] at h
        cases hev : evalOp st.T st.n st.H o.op with
        | none => rw [hev] at h; cases h
        | some x =>
          obtain ⟨v, n', H'⟩ := x
          rw [hev] at h
          exact opsF_op hg (fun g l hx => by rw [hx] at hev; cases hev) hev (ih h hk)
theorem opsF_run (k : Nat) {l : List AOper} {st st' : St} {K : St → Prop} (h : runS (l.take k) st = some st') (hk : opsF P (l.drop k) st' K) : opsF P l st K := by
  have := runS_ok (P := P) h hk
  rwa [List.take_append_drop] at this
theorem opsF_all {l : List AOper} {st st' : St} {K : St → Prop} (h : runS l st = some st') (hk : K st') : opsF P l st K := by
  have := runS_ok (P := P) (l' := []) h hk
  rwa [List.append_nil] at this
theorem runP_ok {K : St → Prop} : ∀ {l l' : List AOper} {st st' : St}, (l.all fun o => purOp o.op && o.op.cok) = true → runP l st = some st' → drawP P l' st' K → drawP P (l ++ l') st K := by
  intro l
  induction l with
  | nil => intro l' st st' _ h hk; cases h; exact hk
  | cons o os ih =>
    intro l' st st' hc h hk
    rw [List.cons_append]
    simp only [List.all_cons, Bool.and_eq_true] at hc
    obtain ⟨⟨hp, hok⟩, hc⟩ := hc
    unfold runP at h
    cases hg : guardOf st.T o.guard with
    | none => rw [hg] at h; cases h
    | some b =>
      rw [hg] at h
      cases b with
      | false => exact drawP_skip hg (ih hc h hk)
      | true =>
        simp only [Option.bind_some, stepP] at h
        split at h
        · rename_i hfr
          cases hev : evalOp st.T st.n (restr st.H (frOp st.T o.op) []) o.op with
          | none => rw [hev] at h; cases h
          | some x =>
            obtain ⟨v, n', H'⟩ := x
            obtain ⟨rfl, rfl⟩ := purOp_same hp hev
            rw [hev] at h
            refine drawP_op (frOp st.T o.op) hg ?_ hev (fun b hb => by have := List.all_eq_true.1 hfr b hb; simpa using this) hok (ih hc h hk)
            cases hop : o.op <;> rw [hop] at hp <;> first | rfl | cases hp
        · cases h
theorem drawP_run (k : Nat) {l : List AOper} {st st' : St} {K : St → Prop} (hc : ((l.take k).all fun o => purOp o.op && o.op.cok) = true) (h : runP (l.take k) st = some st') (hk : drawP P (l.drop k) st' K) : drawP P l st K := by
  have := runP_ok (P := P) hc h hk
  rwa [List.take_append_drop] at this
theorem drawP_all {l : List AOper} {st st' : St} {K : St → Prop} (hc : (l.all fun o => purOp o.op && o.op.cok) = true) (h : runP l st = some st') (hk : K st') : drawP P l st K := by
  have := runP_ok (P := P) (l' := []) hc h hk
  rwa [List.append_nil] at this
theorem callV_pure {f : FuncId} {first caps args : List V} {n : Nat} {H : Heap} {v : V} {K : V → Nat → Heap → Prop} (h : Pure P f (first ++ args ++ caps) n H v) (hk : K v n H) : callV P (.fn f first caps) args n H K := by
  refine ACalls.mono h ?_
  rintro _ _ _ ⟨rfl, rfl, rfl⟩
  exact hk
end rules
theorem setAll_len {α : Type} (cs : List α) (off : Nat) (vs : List α) : (setAll cs off vs).length = min off cs.length + (vs.length + (cs.length - (off + vs.length))) := by simp [setAll]
@[simp] theorem zrep_sing (x : V) (n : Nat) : zrep [x] n = List.replicate n x := rfl
theorem setAll_full {α : Type} {cs vs : List α} (h : vs.length = cs.length) : setAll cs 0 vs = vs := by simp [setAll, h]
@[simp] theorem one_b (x : Bool) : V.one (.b x) = true := rfl
@[simp] theorem one_i (k : IntKind) (n : Int) : V.one (.i k n) = true := rfl
@[simp] theorem one_s (l : List UInt8) : V.one (.s l) = true := rfl
@[simp] theorem one_p (i o : Nat) : V.one (.p i o) = true := rfl
@[simp] theorem one_nilp : V.one .nilp = true := rfl
@[simp] theorem one_sl (a b c d : Nat) (f : Bool) : V.one (.sl a b c d f) = true := rfl
@[simp] theorem one_nils : V.one .nils = true := rfl
@[simp] theorem one_nilf : V.one .nilf = true := rfl
@[simp] theorem one_fn (f : FuncId) (a b : List V) : V.one (.fn f a b) = true := rfl
@[simp] theorem known_b (x : Bool) : V.known (.b x) = true := rfl
@[simp] theorem known_i (k : IntKind) (n : Int) : V.known (.i k n) = true := rfl
@[simp] theorem known_s (l : List UInt8) : V.known (.s l) = true := rfl
@[simp] theorem known_p (i o : Nat) : V.known (.p i o) = true := rfl
@[simp] theorem known_sl (a b c d : Nat) (f : Bool) : V.known (.sl a b c d f) = true := rfl
@[simp] theorem known_nils : V.known .nils = true := rfl
@[simp] theorem known_nilf : V.known .nilf = true := rfl
@[simp] theorem known_fn (f : FuncId) (a b : List V) : V.known (.fn f a b) = true := rfl
@[simp] theorem known_ag (l : List V) : V.known (.ag l) = true := rfl
attribute [simp] Nat.add_assoc aget_cons setAll_len runS stepG finS runP stepP finP guardOf putT aput aget argsT AX.val evalOp keep evNew evLd evSt evBin binI binS cmpI eqOne evEq1 evUn natOf bound evSls evSla evStr evFa evFld evIas evIaa evIxs evLen minI maxI foldO evFold cellsOf lenS evApp evCpy evExt evMks V.cells fillA resAll resOne ldV resV onNormal onBlock restr pickR roOf frOp fwOp idOf fullOf
end Go.Proofs.Ytpgelghkjiejlaa
end
