/- Rules: less told behind a call, rounds, one operation at a time, a call that sees no heap. -/
import Derived.Test.YtpgelghkjiejlaaSmU
import Derived.LoopNIn
set_option linter.unusedVariables false
set_option linter.unusedSimpArgs false
namespace Go.Proofs.Ytpgelghkjiejlaa
open Go

section rules
variable {P : Program} {N : Nat}
/-- Less is told of what a call leaves. -/
theorem ACalls.weaken {f : FuncId} {args : List V} {n : Nat} {H : Heap} {K K' : V → Nat → Heap → Prop} (h : ACalls P f args n H K)
    (hk : ∀ v n' H', K v n' H' → ∃ n'' H'', K' v n'' H'' ∧ n ≤ n'' ∧ VIn n'' v ∧ Heap.less n'' H'' n' H') : ACalls P f args n H K' :=
  ⟨h.1, fun ρ w args' hs hr => (h.2 ρ w args' hs hr).mono fun e w' ⟨v, n', H', ρ', y, h1, h2, h3, h4, h5⟩ => by
    obtain ⟨n'', H'', g1, g2, g3, g4⟩ := hk _ _ _ h1
    exact ⟨v, n'', H'', ρ'.cut n'', y, g1, h2, h3.cut g3, h4.less g4, h5.less hs g2 g4⟩⟩
theorem YCalls.mono {l : Nat} {args : List V} {n : Nat} {H : Heap} {K K' : V → Nat → Heap → Prop} (h : YCalls P l args n H K) (hk : ∀ v n' H', K v n' H' → K' v n' H') : YCalls P l args n H K' := by
  obtain ⟨r, h1, h2, h3, h4⟩ := h
  refine ⟨r, h1, h2, h3, h4.conseq ?_⟩
  rintro e s ⟨rfl, g1, r1, g2, g3, g4⟩
  refine ⟨rfl, g1, r1, g2, g3, g4.conseq ?_⟩
  rintro e2 s2 ⟨r2, q1, q2⟩
  refine ⟨r2, q1, ?_⟩
  cases e2 <;> first | exact hk _ _ _ q2 | exact q2
theorem callV.mono {g : V} {args : List V} {n : Nat} {H : Heap} {K K' : V → Nat → Heap → Prop} (h : callV P g args n H K) (hk : ∀ v n' H', K v n' H' → K' v n' H') : callV P g args n H K' := by
  unfold callV at h ⊢
  split at h
  · exact ACalls.mono h hk
  · exact YCalls.mono h hk
  · exact h.elim

/-- At most m rounds. -/
def ARounds (P : Program) (N : Nat) (rd : Option Nat) (x : ACode) (Q : Exit → St → Prop) : Nat → St → Prop
  | 0, _ => False
  | m + 1, s => AWc P N rd x s (onNormal (ARounds P N rd x Q m) Q)
theorem AWc.rounds {rd : Option Nat} {x : ACode} {Q : Exit → St → Prop} (m : Nat) {st : St} (h : ARounds P N rd x Q m st) : AWc P N rd (.loop x) st Q := by
  intro c hp ρ F k a w hF hA
  obtain ⟨c1, rfl, h1⟩ := prepC_loop hp
  refine wpIn_loop_rounds m ?_
  have key : ∀ (m : Nat) (s : St) (ρ' : Ren) (a' : Act) (w' : World), ARounds P N rd x Q m s → ARel P ρ' N s a' w' → Ext ρ st.n st.H w ρ' s.n s.H w' → Code.roundsIn F k P c1 (Post P N ρ st w Q) m a' w' := by
    intro m
    induction m with
    | zero => intro s ρ' a' w' h; exact h.elim
    | succ m ih =>
      intro s ρ' a' w' h hA' hE
      refine wpIn_mono (h c1 h1 ρ' F k a' w' (hF.mono hE.ren) hA') ?_
      rintro e a2 w2 ⟨s2, ρ2, hq, hA2, hE2⟩
      cases e with
      | normal => exact ih s2 ρ2 a2 w2 hq hA2 (hE.trans hE2)
      | _ => exact ⟨s2, ρ2, hq, hA2, hE.trans hE2⟩
  exact key m st ρ a w h hA (.refl _ _ _ _)
end rules

/-! one operation at a time -/
section one
variable {P : Program} {o : AOper} {os : List AOper} {st : St}
theorem opsF_skip {K : St → Prop} (hg : guardOf st.T o.guard = some false) (h : opsF P os { st with T := putT st.T o.dst .un } K) : opsF P (o :: os) st K := by
  unfold opsF; rw [hg]; exact h
theorem opsF_call {K : St → Prop} {g : AX} {args : List AX} (hg : guardOf st.T o.guard = some true) (ho : o.op = .call g args)
    (h : callV P (g.val st.T) (args.map (·.val st.T)) st.n st.H fun v n' H' => opsF P os ⟨putT st.T o.dst v, st.D, n', H'⟩ K) : opsF P (o :: os) st K := by
  unfold opsF; rw [hg, ho]; exact h
theorem opsF_op {K : St → Prop} (hg : guardOf st.T o.guard = some true) (ho : ∀ g l, o.op ≠ .call g l) {v : V} {n' : Nat} {H' : Heap} (hev : evalOp st.T st.n st.H o.op = some (v, n', H'))
    (h : opsF P os ⟨putT st.T o.dst v, st.D, n', H'⟩ K) : opsF P (o :: os) st K := by
  unfold opsF; rw [hg]
  simp only
  split
  · rename_i heq; rw [hev] at heq; cases heq; exact h
  · rename_i heq; rw [hev] at heq; cases heq
theorem opsF_mono {K K' : St → Prop} (hk : ∀ s, K s → K' s) : ∀ {l : List AOper} {st : St}, opsF P l st K → opsF P l st K' := by
  intro l
  induction l with
  | nil => intro st h; exact hk _ h
  | cons o os ih =>
    intro st h
    unfold opsF at h
    split at h
    · rename_i hg; exact opsF_skip hg (ih h)
    · rename_i hg
      split at h
      · rename_i g args hop; exact opsF_call hg hop (callV.mono h fun v n' H' hk => ih hk)
      · rename_i hnc
        split at h
        · rename_i hev; exact opsF_op hg (fun g l hx => hnc g l hx) hev (ih h)
        · exact h.elim
    · exact h.elim
theorem drawF_skip {K : List DStep → St → Prop} {acc : List DStep} (hg : guardOf st.T o.guard = some false) (h : drawF P os ⟨putT st.T o.dst .un, st.D, st.n, st.H⟩ (acc ++ [⟨gslots o.guard, o.dst, [], [], st.n, st.n, .un, []⟩]) K) : drawF P (o :: os) st acc K := by
  unfold drawF; rw [hg]; exact h
theorem drawF_call {K : List DStep → St → Prop} {acc : List DStep} {g : AX} {args : List AX} {f : FuncId} {first caps : List V} (hg : guardOf st.T o.guard = some true) (ho : o.op = .call g args) (hgv : g.val st.T = .fn f first caps)
    {fr fw : List Nat} {v : V} {n1 : Nat} {R : Heap} (hc : ACalls P f (first ++ args.map (·.val st.T) ++ caps) st.n (restr st.H fr fw) (fun v' n' H' => v' = v ∧ n' = n1 ∧ H' = R))
    (hok : okD st fr fw n1 R) (hin : inD st.n n1 fw v R)
    (h : drawF P os ⟨putT st.T o.dst v, st.D, n1, mergeH st.H fw st.n n1 R⟩ (acc ++ [⟨(AOp.call g args).slots ++ gslots o.guard, o.dst, fr, fw, st.n, n1, v, R⟩]) K) : drawF P (o :: os) st acc K := by
  unfold drawF; rw [hg, ho]; simp only [hgv]; exact ⟨fr, fw, v, n1, R, hc, hok, hin, h⟩
theorem drawF_op {K : List DStep → St → Prop} {acc : List DStep} (hg : guardOf st.T o.guard = some true) (ho : ∀ g l, o.op ≠ .call g l) {fr fw : List Nat} {v : V} {n1 : Nat} {R : Heap}
    (hev : evalOp st.T st.n (restr st.H fr fw) o.op = some (v, n1, R)) (hcok : o.op.cok = true) (hok : okD st fr fw n1 R)
    (h : drawF P os ⟨putT st.T o.dst v, st.D, n1, mergeH st.H fw st.n n1 R⟩ (acc ++ [⟨o.op.slots ++ gslots o.guard, o.dst, fr, fw, st.n, n1, v, R⟩]) K) : drawF P (o :: os) st acc K := by
  unfold drawF; rw [hg]
  simp only
  exact ⟨fr, fw, v, n1, R, hev, hcok, hok, h⟩
theorem drawF_mono {K K' : List DStep → St → Prop} (hk : ∀ a s, K a s → K' a s) : ∀ {l : List AOper} {st : St} {acc : List DStep}, drawF P l st acc K → drawF P l st acc K' := by
  intro l
  induction l with
  | nil => intro st acc h; exact hk _ _ h
  | cons o os ih =>
    intro st acc h
    unfold drawF at h
    split at h
    · rename_i hg; exact drawF_skip hg (ih h)
    · rename_i hg
      split at h
      · rename_i g args hop
        split at h
        · rename_i hgv
          obtain ⟨fr, fw, v, n1, R, q1, q2, q3, q4⟩ := h
          exact drawF_call hg hop hgv q1 q2 q3 (ih q4)
        · exact h.elim
      · rename_i hnc
        obtain ⟨fr, fw, v, n1, R, q1, q2, q3, q4⟩ := h
        exact drawF_op hg (fun g l hx => hnc g l hx) q1 q2 q3 (ih q4)
    · exact h.elim
end one

section frame
/-- A call of which the arguments name no block, and that answers no such value: whatever stood stays as it stood. -/
theorem ACalls.frame0 {P : Program} {f : FuncId} {args : List V} {K : V → Prop} (h : ACalls P f args 0 [] (fun v _ _ => K v ∧ VIn 0 v)) (ha : ∀ x ∈ args, VIn 0 x) (n : Nat) (H : Heap) :
    ACalls P f args n H fun v n' H' => K v ∧ n' = n ∧ H' = H := by
  refine ⟨h.1, fun ρ w args' hs hr => ?_⟩
  have h0 : ∀ b, ρ.cut 0 b = none := fun b => by unfold Ren.cut; rw [if_neg (by omega)]
  have hs0 : Sim (prepC P) (ρ.cut 0) 0 [] w := ⟨(fun b x hb => by rw [h0] at hb; cases hb), (fun b k hb => by simp at hb), (fun b1 b2 k1 k2 x1 x2 h => by simp at h)⟩
  refine (h.2 (ρ.cut 0) w args' hs0 (hr.cut ha)).mono ?_
  rintro e w' ⟨v, n', H', ρ', y, ⟨hK, hv⟩, rfl, h2, h3, h4⟩
  have hno : ∀ c, ¬ OwnC (ρ.cut 0) [] c := fun c ⟨b, k, x, g1, _⟩ => by simp at g1
  have hfr : ∀ c, c < w.heap.size → w'.heap[c]? = w.heap[c]? := fun c hc => h4.frame c hc (hno c)
  have hv0 : VRel ρ v y := by
    have := h2.cut hv
    refine this.mono fun b x hb => ?_
    unfold Ren.cut at hb
    rw [if_neg (by omega)] at hb
    cases hb
  have hsim : Sim (prepC P) ρ n H w' := ⟨fun b x hb => ⟨(hs.sup b x hb).1, Nat.lt_of_lt_of_le (hs.sup b x hb).2 h4.size⟩, fun b k hb => let ⟨c, d, z, e, r⟩ := hs.blk b k hb; ⟨c, d, z, e, r.mono (.refl _) (hfr c (hs.sup b _ e).2)⟩, hs.inj⟩
  exact ⟨v, n, H, ρ, y, ⟨hK, rfl, rfl⟩, rfl, hv0, hsim, Nat.le_refl _, .refl _, fun _ _ _ h => h, h4.os, h4.tape, h4.output, h4.drawn, h4.size, fun c hc _ => hfr c hc, fun _ h => .inl h⟩
end frame
end Go.Proofs.Ytpgelghkjiejlaa
