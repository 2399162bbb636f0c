/- Contracts of functions over abstract states; operations in the order of the text; a function's body and its contract. -/
import Derived.Test.YtpgelghkjiejlaaSmN
import Derived.RangeFuncRecord
set_option linter.unusedVariables false
set_option linter.unusedSimpArgs false
namespace Go.Proofs.Ytpgelghkjiejlaa
open Go

def EntersF (P : Program) (f : FuncId) : Prop := ∀ (args : Array Value) (w : World), (callFunc f args).run P w = .ok (.enter f args) w
/-- What a call answers: K of the value, the next id and the heap. -/
def ACalls (P : Program) (f : FuncId) (args : List V) (n : Nat) (H : Heap) (K : V → Nat → Heap → Prop) : Prop :=
  EntersF P f ∧ ∀ (ρ : Ren) (w : World) (args' : Array Value), Sim (prepC P) ρ n H w → VRelL ρ args args'.toList → Calls P f args' w fun e w' =>
    ∃ v n' H' ρ' y, K v n' H' ∧ e = .returned y ∧ VRel ρ' v y ∧ Sim (prepC P) ρ' n' H' w' ∧ Ext ρ n H w ρ' n' H' w'
theorem ACalls.mono {P : Program} {f : FuncId} {args : List V} {n : Nat} {H : Heap} {K K' : V → Nat → Heap → Prop} (h : ACalls P f args n H K) (hk : ∀ v n' H', K v n' H' → K' v n' H') : ACalls P f args n H K' :=
  ⟨h.1, fun ρ w args' hs hr => (h.2 ρ w args' hs hr).mono fun e w' ⟨v, n', H', ρ', y, h1, h2⟩ => ⟨v, n', H', ρ', y, hk _ _ _ h1, h2⟩⟩

def putT (T : Temps) (dst : Option Nat) (v : V) : Temps :=
  match dst with
  | some d => aput T d v
  | none => T
def putAll : Temps → List Nat → List V → Temps
  | T, d :: ds, v :: vs => putAll (aput T d v) ds vs
  | T, _, _ => T
/-- Does an operation run? -/
def guardOf (T : Temps) : Option (Option Nat × Bool) → Option Bool
  | none => some true
  | some (some t, want) => match aget T t with | some (.b x) => some (x == want) | _ => none
  | some (none, _) => none

/-- A call of yield: a round of the loop l. -/
def YCalls (P : Program) (l : Nat) (args : List V) (n : Nat) (H : Heap) (K : V → Nat → Heap → Prop) : Prop :=
  ∃ r, aget H l = some (.loop r) ∧ r.params.length = args.length ∧ (∀ d ∈ r.params, d < r.N) ∧
    AWc P r.N (some l) r.assign ⟨putAll r.T r.params args, [], n, H⟩ (fun e s => e = .normal ∧ s.D = [] ∧ ∃ r1, aget s.H l = some (.loop r1) ∧ r1.st = .ready ∧
      AWc P r.N (some l) r.body ⟨s.T, [], s.n, aput s.H l (.loop { r1 with st := .busy })⟩ (fun e2 s2 => ∃ r2, aget s2.H l = some (.loop r2) ∧
        match e2 with
        | .normal => K (.b true) s2.n (aput s2.H l (.loop { r2 with st := .ready, pend := none }))
        | .ret => K (.b false) s2.n (aput s2.H l (.loop { r2 with st := .done, pend := some .ret }))
        | .exit id => K (.b false) s2.n (aput s2.H l (.loop { r2 with st := .done, pend := some (.exit id) }))
        | _ => False))
def callV (P : Program) (g : V) (args : List V) (n : Nat) (H : Heap) (K : V → Nat → Heap → Prop) : Prop :=
  match g with
  | .fn f first caps => ACalls P f (first ++ args ++ caps) n H K
  | .yl l => YCalls P l args n H K
  | _ => False
def opsF (P : Program) : List AOper → St → (St → Prop) → Prop
  | [], st, K => K st
  | o :: os, st, K =>
    match guardOf st.T o.guard with
    | some false => opsF P os { st with T := putT st.T o.dst .un } K
    | some true =>
      match o.op with
      | .call g args => callV P (g.val st.T) (args.map (·.val st.T)) st.n st.H fun v n' H' => opsF P os ⟨putT st.T o.dst v, st.D, n', H'⟩ K
      | op =>
        match evalOp st.T st.n st.H op with
        | some (v, n', H') => opsF P os ⟨putT st.T o.dst v, st.D, n', H'⟩ K
        | none => False
    | none => False

section rules
variable {P : Program} {N : Nat}
theorem TRel.put {ρ : Ren} {T : Temps} {tmps : Array Value} (r : TRel ρ N T tmps) {v : V} {y : Value} (h : VRel ρ v y) (dst : Option Nat) (hd : dstOk N dst = true) (a : Act) (ha : a.tmps = tmps) :
    TRel ρ N (putT T dst v) (a.put dst y).tmps := by
  subst ha
  cases dst with
  | none => exact r
  | some d =>
    simp only [dstOk, decide_eq_true_eq] at hd
    refine ⟨by simp [Act.put, r.1], fun i v' hv => ?_⟩
    simp only [putT, aget_put] at hv
    simp only [Act.put]
    by_cases hi : d = i
    · subst hi
      rw [if_pos rfl] at hv
      cases hv
      exact ⟨y, by rw [Array.getElem?_setIfInBounds_self_of_lt (by rw [r.1]; exact hd)], h⟩
    · rw [if_neg hi] at hv
      rw [Array.getElem?_setIfInBounds_ne hi]
      exact r.2 i v' hv
theorem put_defers (a : Act) (dst : Option Nat) (y : Value) : (a.put dst y).defers = a.defers := by cases dst <;> rfl
theorem prepOp_ne_defer {o : Op} {ao : AOp} (h : prepOp P o = some ao) : ∀ c, o ≠ .defer c := by
  rintro c rfl
  cases h
theorem not_call_of_prep {o : Op} {ao : AOp} (h : prepOp P o = some ao) (hn : ∀ g l, ao ≠ .call g l) (hc : ∀ c, o = .call c → ∃ b, c.callee = .builtin b) : True := trivial
theorem evalOp_about {o : Oper} {ao : AOp} (h : prepOp P o.op = some ao) {w : World} {a : Act} {F : Fence} (hF : ∀ f, F.fn f) : ∀ f, o.about P w a.eval = some f → F.fn f := fun f _ => hF f

/-- What is asked at the calls: the rest, whatever they answer. -/
theorem callV_sound {ρ : Ren} {a : Act} {st : St} {w : World} {rd : Option Nat} {F : Fence} {m : Nat} (hF : FRel ρ rd F) (htm0 : TRel ρ N st.T a.tmps) (hsim0 : Sim (prepC P) ρ st.n st.H w) {o : Oper} {c : Call} {f : Operand} {g : AX} {l : List AX} (ho : o.op = .call c) (hcal : c.callee = .value f)
    (hf : prepX f = some g) (hl : prepXs c.args.toList = some l) {K : V → Nat → Heap → Prop} (h : callV P (g.val st.T) (l.map (·.val st.T)) st.n st.H K) (next : Act → World → Prop) (Q : Exit → Act → World → Prop)
    (hnext : ∀ v n' H' ρ' y w', K v n' H' → VRel ρ' v y → Sim (prepC P) ρ' n' H' w' → Ext ρ st.n st.H w ρ' n' H' w' → next (a.put o.dst y) w') :
    o.uponIn F m P a next Q ((execOp a.eval o).run P w) := by
  have hg := prepX_rel htm0 hf
  have hr := prepXs_rel htm0 hl
  have hex : (execOp a.eval o).run P w = (do let d ← resolve a.eval c o.type; invoke d.target d.args : Sem Next).run P w := by
    unfold execOp
    rw [ho]
  unfold callV at h
  split at h
  · -- a function
    rename_i fid first caps hgv
    rw [hgv] at hg
    generalize hfv : a.eval f = fv at hg
    cases hg with
    | @fn _ _ _ ys vs hl1 h1 hl2 h2 =>
    have hinv : (execOp a.eval o).run P w = .ok (.enter fid (ys ++ c.args.map a.eval ++ vs)) w := by
      rw [hex]
      simp only [resolve, hcal, hfv, Deferred.ofValue, Sem.run_bind, Sem.run_pure, Result.andThen_ok, invoke]
      exact h.1 _ w
    rw [hinv, Oper.uponIn_enter]
    refine ⟨(fun hd => by rw [hF.depth] at hd; cases hd), ?_⟩
    have hrel : VRelL ρ (first ++ l.map (·.val st.T) ++ caps) (ys ++ c.args.map a.eval ++ vs).toList := by
      simp only [Array.toList_append]
      exact ((VRelL.of_array hl1 h1).append (by simpa using hr)).append (VRelL.of_array hl2 h2)
    have hcall := (callsIn_wide (n := m - 1)).2 (h.2 ρ w _ hsim0 hrel)
    have hmono : ∀ e w', (∃ v n' H' ρ' y, K v n' H' ∧ e = Ending.returned y ∧ VRel ρ' v y ∧ Sim (prepC P) ρ' n' H' w' ∧ Ext ρ st.n st.H w ρ' n' H' w') →
        (match e, w' with
          | .returned v, w'' => next (a.put o.dst v) w''
          | .panicked chain, w'' => Q (.panic chain) a w''
          | .outgrown, _ => LetsOut Q) := by
      rintro e w' ⟨v, n', H', ρ', y, k1, rfl, k2, k3, k4⟩
      exact hnext v n' H' ρ' y w' k1 k2 k3 k4
    have hcall2 := CallsIn.mono hcall hmono
    cases rd with
    | none => cases hF; exact hcall2
    | some l0 => obtain ⟨c0, d0, z0, _, rfl⟩ := hF; exact hcall2
  · -- yield
    rename_i l0 hgv
    rw [hgv] at hg
    generalize hfv : a.eval f = fv at hg
    cases hg with
    | @yl _ cb d z hρ =>
    obtain ⟨r, hb, hlen, hpar, hassign⟩ := h
    obtain ⟨c', d', z', e', L, hL, lr⟩ := hsim0.blk l0 _ hb
    rw [hρ] at e'
    cases e'
    have hargs : (c.args.map a.eval).size = L.params.size := by
      have h1 := hr.1
      have h2 := lr.params
      have : L.params.size = r.params.length := by rw [← h2]; simp
      simp at h1 ⊢
      rw [List.length_map] at hlen
      omega
    have hgl : (Instr.getLoop cb).run P w = .ok L w := by
      simp [Instr.getLoop, getObj, Sem.run, hL]
    have hinv : (execOp a.eval o).run P w = .ok (.round cb L.fn ((L.params.zip (c.args.map a.eval)).foldl (fun tmps (t, a) => tmps.setIfInBounds t a) L.tmps) L.assign L.body) w := by
      rw [hex]
      simp only [resolve, hcal, hfv, Deferred.ofValue, Sem.run_bind, Sem.run_pure, Result.andThen_ok, invoke, Instr.yield, hgl, Array.empty_append]
      rw [if_neg (by simpa using hargs)]
      rfl
    rw [hinv, Oper.uponIn_round]
    refine ⟨(fun hd => by rw [hF.depth] at hd; cases hd), ?_⟩
    have hFl : F.inRound cb = Fence.wide.inRound cb := by
      cases rd with
      | none => cases hF; rfl
      | some l1 => obtain ⟨c0, d0, z0, _, rfl⟩ := hF; rfl
    refine roundIn_of_wpIn (hF.fn _) ?_
    rw [hFl]
    have hFR : FRel ρ (some l0) (Fence.wide.inRound cb) := ⟨cb, d, z, hρ, rfl⟩
    have htm : TRel ρ r.N (putAll r.T r.params (l.map (·.val st.T))) ((L.params.zip (c.args.map a.eval)).foldl (fun tmps (t, a) => tmps.setIfInBounds t a) L.tmps) := by
      have hgen : ∀ (ps : List Nat) (vs : List V) (ys : List Value) (T : Temps) (tmps : Array Value), VRelL ρ vs ys → (∀ d ∈ ps, d < r.N) → TRel ρ r.N T tmps → TRel ρ r.N (putAll T ps vs) ((ps.zip ys).foldl (fun tmps (t, a) => tmps.setIfInBounds t a) tmps) := by
        intro ps
        induction ps with
        | nil => intro vs ys T tmps _ _ h; cases vs <;> exact h
        | cons p ps ih =>
          intro vs ys T tmps hv hp h
          cases vs with
          | nil => obtain rfl := hv.nil_inv; exact h
          | cons v vs =>
            obtain ⟨y, yt, rfl, h1, h2⟩ := hv.cons_inv
            simp only [putAll, List.zip_cons_cons, List.foldl_cons]
            exact ih vs yt _ _ h2 (fun d hd => hp d (by simp [hd])) (TRel.put h h1 (some p) (by simpa [dstOk] using hp p (by simp)) { tmps, defers := [] } rfl)
      have := hgen r.params (l.map (·.val st.T)) (c.args.toList.map a.eval) r.T L.tmps hr hpar lr.tm
      have h2 : L.params.zip (c.args.map a.eval) = (r.params.zip (c.args.toList.map a.eval)).toArray := by
        apply Array.ext'
        simp [← lr.params, Array.toList_zip]
      rw [h2]
      simpa using this
    have hA1 : ARel P ρ r.N ⟨putAll r.T r.params (l.map (·.val st.T)), [], st.n, st.H⟩ { tmps := (L.params.zip (c.args.map a.eval)).foldl (fun tmps (t, a) => tmps.setIfInBounds t a) L.tmps, defers := [] } w := ⟨htm, trivial, hsim0⟩
    refine wpIn_mono (hassign L.assign lr.assign ρ _ (m - 1) _ w hFR hA1) ?_
    rintro e1 a1 w1 ⟨s1, ρ1, ⟨rfl, hD1, r1, hb1, hst1, hbody⟩, hA2, hE1⟩
    have hρ1 := hE1.ren _ _ hρ
    obtain ⟨c1, d1, z1, e1, L1, hL1, lr1⟩ := hA2.sim.blk l0 _ hb1
    rw [hρ1] at e1
    cases e1
    have hbr : (Instr.beginRound cb).run P w1 = .ok () (setBlk w1 cb (.loop { L1 with state := .busy })) := by
      have : L1.state = .ready := lr1.st.trans hst1
      simp [Instr.beginRound, Instr.getLoop, getObj, setObj, Sem.run, hL1, this, setBlk]
    refine ⟨_, hbr, ?_⟩
    obtain ⟨q1, q2⟩ := hA2.sim.update (k' := .loop { r1 with st := .busy }) hb1 rfl rfl hρ1 (.loop { L1 with state := .busy }) ⟨{ L1 with state := .busy }, by rw [setBlk_get _ _ _ _ (lt_of_get hL1), if_pos rfl], ⟨rfl, lr1.pend, lr1.tm, lr1.params, lr1.assign, lr1.body, lr1.marks⟩⟩
    have hmk1 : MRel ρ1 [] a1.defers := hD1 ▸ hA2.mr
    have hA3 : ARel P ρ1 r.N ⟨s1.T, [], s1.n, aput s1.H l0 (.loop { r1 with st := .busy })⟩ a1 (setBlk w1 cb (.loop { L1 with state := .busy })) := ⟨hA2.tm, hmk1, q1⟩
    have hFR1 : FRel ρ1 (some l0) (Fence.wide.inRound cb) := ⟨cb, d, z, hρ1, rfl⟩
    refine wpIn_mono (hbody L.body lr.body ρ1 _ (m - 1) a1 _ hFR1 hA3) ?_
    rintro e2 a2 w2 ⟨s2, ρ2, ⟨r2, hb2, hend⟩, hA4, hE2⟩
    have hρ2 := hE2.ren _ _ hρ1
    obtain ⟨c2, d2, z2, e2', L2, hL2, lr2⟩ := hA4.sim.blk l0 _ hb2
    rw [hρ2] at e2'
    cases e2'
    have hE := (hE1.trans q2).trans hE2
    have hendr : ∀ (j : Option AJump), (Instr.endRound cb (j.map AJump.code)).run P w2 = .ok (.bool (j.map AJump.code).isNone) (setBlk w2 cb (.loop { L2 with state := if (j.map AJump.code).isNone then .ready else .done, pending := j.map AJump.code })) := by
      intro j
      simp [Instr.endRound, Instr.getLoop, getObj, setObj, Sem.run, hL2, setBlk]
    have hupd : ∀ (j : Option AJump), Sim (prepC P) ρ2 s2.n (aput s2.H l0 (.loop { r2 with st := if j.isNone then .ready else .done, pend := j })) (setBlk w2 cb (.loop { L2 with state := if (j.map AJump.code).isNone then .ready else .done, pending := j.map AJump.code })) ∧
        Ext ρ2 s2.n s2.H w2 ρ2 s2.n (aput s2.H l0 (.loop { r2 with st := if j.isNone then .ready else .done, pend := j })) (setBlk w2 cb (.loop { L2 with state := if (j.map AJump.code).isNone then .ready else .done, pending := j.map AJump.code })) := by
      intro j
      refine hA4.sim.update (k' := .loop { r2 with st := if j.isNone then .ready else .done, pend := j }) hb2 rfl rfl hρ2 _ ⟨{ L2 with state := if (j.map AJump.code).isNone then .ready else .done, pending := j.map AJump.code }, by rw [setBlk_get _ _ _ _ (lt_of_get hL2), if_pos rfl], ⟨?_, rfl, lr2.tm, lr2.params, lr2.assign, lr2.body, lr2.marks⟩⟩
      cases j <;> rfl
    cases e2 with
    | normal =>
      obtain ⟨u1, u2⟩ := hupd none
      refine ⟨_, _, hendr none, ?_⟩
      exact hnext (.b true) _ _ ρ2 (.bool true) _ hend (.b true) u1 (hE.trans u2)
    | ret =>
      obtain ⟨u1, u2⟩ := hupd (some .ret)
      refine ⟨_, _, hendr (some .ret), ?_⟩
      exact hnext (.b false) _ _ ρ2 (.bool false) _ hend (.b false) u1 (hE.trans u2)
    | exit id =>
      obtain ⟨u1, u2⟩ := hupd (some (.exit id))
      refine ⟨_, _, hendr (some (.exit id)), ?_⟩
      exact hnext (.b false) _ _ ρ2 (.bool false) _ hend (.b false) u1 (hE.trans u2)
    | _ => exact hend.elim
  · exact h.elim

/-- What holds behind code that began in some state over w0, of which this is a later one. -/
def PostX (P : Program) (N : Nat) (ρ0 : Ren) (n0 : Nat) (H0 : Heap) (w0 : World) (K : St → Prop) (e : Exit) (a' : Act) (w' : World) : Prop :=
  e = .normal ∧ ∃ st' ρ', K st' ∧ ARel P ρ' N st' a' w' ∧ Ext ρ0 n0 H0 w0 ρ' st'.n st'.H w'
theorem wanted_of {ρ : Ren} {T : Temps} {tmps : Array Value} (tr : TRel ρ N T tmps) {ops : Array Oper} {o : Oper} {b : Bool} (h : guardOf T (o.guard.map fun (j, b) => ((ops[j]?).bind (·.dst), b)) = some b) : Region.wanted o (yielded ops tmps) = b := by
  unfold Region.wanted
  cases hg : o.guard with
  | none => rw [hg] at h; cases h; rfl
  | some g =>
    obtain ⟨j, want⟩ := g
    rw [hg] at h
    simp only [Option.map_some] at h
    unfold guardOf at h
    cases hd : (ops[j]?).bind (·.dst) with
    | none => rw [hd] at h; cases h
    | some t =>
      rw [hd] at h
      simp only at h
      split at h
      · rename_i x hx
        cases h
        obtain ⟨y, hy, hr⟩ := tr.2 t _ hx
        have hyb := b_inv hr
        subst hyb
        have : yielded ops tmps j = some x := by
          unfold yielded
          rw [hd]
          simp [hy]
        simp only [this]
        cases x <;> cases want <;> rfl
      · cases h
theorem prepOpers_get {ops : Array Oper} : ∀ {os : List Oper} {l : List AOper}, prepOpers P N ops os = some l → l.length = os.length ∧ ∀ (j : Nat) o ao, os[j]? = some o → l[j]? = some ao → prepOper P N ops o = some ao := by
  intro os
  induction os with
  | nil => intro l h; cases h; exact ⟨rfl, fun j o ao h => by simp at h⟩
  | cons o os ih =>
    intro l h
    simp only [prepOpers] at h
    split at h
    · rename_i x l' h1 h2
      cases h
      obtain ⟨q1, q2⟩ := ih h2
      refine ⟨by simp [q1], fun j o' ao ho ha => ?_⟩
      cases j with
      | zero => simp at ho ha; subst ho; subst ha; exact h1
      | succ j => exact q2 j o' ao (by simpa using ho) (by simpa using ha)
    · cases h
theorem prepOper_inv {ops : Array Oper} {o : Oper} {ao : AOper} (h : prepOper P N ops o = some ao) :
    prepOp2 P o.op = some ao.op ∧ ao.dst = o.dst ∧ dstOk N o.dst = true ∧ ao.guard = o.guard.map fun (j, b) => ((ops[j]?).bind (·.dst), b) := by
  unfold prepOper at h
  split at h
  · rename_i x hx
    split at h
    · rename_i hd
      cases h
      exact ⟨hx, rfl, hd, rfl⟩
    · cases h
  · cases h
/-- A call's preparation. -/
theorem prepOp2_call {o : Op} {g : AX} {l : List AX} (h : prepOp2 P o = some (.call g l)) : ∃ c f, o = .call c ∧ c.callee = .value f ∧ prepX f = some g ∧ prepXs c.args.toList = some l := by
  unfold prepOp2 at h
  split at h
  · rename_i f l' hv
    split at h
    · rename_i g' l2 h1 h2
      cases h
      unfold valCall at hv
      split at hv
      · rename_i c
        split at hv
        · rename_i f' hc
          cases hv
          exact ⟨c, _, rfl, hc, h1, h2⟩
        · cases hv
      · cases hv
    · cases h
  · split at h
    · rename_i ao ha
      split at h
      · cases h
      · rename_i hc; cases h; simp [AOp.isCall] at hc
    · cases h
theorem prepOp2_other {o : Op} {ao : AOp} (h : prepOp2 P o = some ao) (hn : ∀ g l, ao ≠ .call g l) : prepOp P o = some ao := by
  unfold prepOp2 at h
  split at h
  · split at h
    · cases h; exact absurd rfl (hn _ _)
    · cases h
  · split at h
    · rename_i ao' ha
      split at h
      · cases h
      · cases h; exact ha
    · cases h
theorem wpOpsIn_post {F : Fence} {m : Nat} {ops : Array Oper} {Q Q' : Exit → Act → World → Prop} (hq : ∀ e a w, Q e a w → Q' e a w) : ∀ {is : List Nat} {a : Act} {w : World}, wpOpsIn F m P ops Q is a w → wpOpsIn F m P ops Q' is a w := by
  intro is
  induction is with
  | nil => intro a w h; exact hq _ _ _ h
  | cons i is ih =>
    intro a w h
    simp only [wpOpsIn] at h ⊢
    cases hi : ops[i]? with
    | none => rw [hi] at h; exact ih h
    | some o =>
      rw [hi] at h
      simp only at h ⊢
      split
      · rename_i hw
        rw [if_pos hw] at h
        refine ⟨h.1, ?_⟩
        have h2 := h.2
        generalize (o.semAt F.round a.eval).run P w = r at h2
        have hlet : LetsOut Q → LetsOut Q' := fun ⟨a, w, h⟩ => ⟨a, w, hq _ _ _ h⟩
        cases r with
        | ok x w' =>
          cases x <;> simp only [Oper.uponIn] at h2 ⊢ <;>
            first
              | exact ih h2
              | exact ⟨h2.1, CallsIn.mono h2.2 (fun e w'' he => by cases e <;> first | exact ih he | exact hq _ _ _ he | exact hlet he)⟩
              | exact ⟨h2.1, RowsIn.mono h2.2 (fun _ _ he => ih he)⟩
              | exact ⟨h2.1, RoundIn.mono h2.2 (fun e w'' he => by cases e <;> first | exact ih he | exact hq _ _ _ he | exact hlet he)⟩
        | halt x w' => cases x <;> simp only [Oper.uponIn] at h2 ⊢ <;> exact hq _ _ _ h2
      · rename_i hw
        rw [if_neg hw] at h
        exact ⟨h.1, ih h.2⟩
theorem opsF_sound {ops : Array Oper} {rd : Option Nat} {ρ0 : Ren} {n0 : Nat} {H0 : Heap} {w0 : World} {K : St → Prop} : ∀ (os : List Oper) (l : List AOper) (k : Nat), (∀ j, os[j]? = ops[k + j]?) → prepOpers P N ops os = some l →
    ∀ (st : St) (ρ : Ren) (F : Fence) (m : Nat) (a : Act) (w : World), opsF P l st K → FRel ρ rd F → ARel P ρ N st a w → Ext ρ0 n0 H0 w0 ρ st.n st.H w →
      wpOpsIn F m P ops (PostX P N ρ0 n0 H0 w0 K) (List.range' k os.length) a w := by
  intro os
  induction os with
  | nil =>
    intro l k _ hp st ρ F m a w h hF hA hE
    cases hp
    exact ⟨rfl, st, ρ, h, hA, hE⟩
  | cons o os ih =>
    intro l k hk hp st ρ F m a w h hF hA hE
    simp only [prepOpers] at hp
    split at hp
    · rename_i ao l' h1 h2
      cases hp
      have hk0 : ops[k]? = some o := by simpa using (hk 0).symm
      have hk' : ∀ j, os[j]? = ops[k + 1 + j]? := fun j => by have := hk (j + 1); simpa [Nat.add_assoc, Nat.add_comm 1 j] using this
      obtain ⟨p1, p2, p3, p4⟩ := prepOper_inv h1
      rw [List.length_cons, List.range'_succ]
      simp only [wpOpsIn, hk0]
      unfold opsF at h
      split at h
      · -- not wanted
        rename_i hg
        rw [p4] at hg
        have hw := wanted_of hA.tm hg
        rw [hw]
        simp only [Bool.false_eq_true, if_false]
        refine ⟨fun f _ => hF.fn f, ih l' (k + 1) hk' h2 _ ρ F m _ w h hF ⟨?_, ?_, hA.sim⟩ hE⟩
        · rw [p2]; exact hA.tm.put (.un _) o.dst p3 a rfl
        · rw [put_defers]; exact hA.mr
      · rename_i hg
        rw [p4] at hg
        have hw := wanted_of hA.tm hg
        rw [hw]
        simp only [if_true, Oper.wpIn]
        refine ⟨fun f _ => hF.fn f, ?_⟩
        split at h
        · rename_i g args hop
          rw [hop] at p1
          obtain ⟨c, f, e1, e2, e3, e4⟩ := prepOp2_call p1
          rw [Oper.semAt_eq _ _ _ (by rw [e1]; intro c h; cases h)]
          refine callV_sound hF hA.tm hA.sim e1 e2 e3 e4 h _ _ ?_
          intro v n' H' ρ' y w' hK hv hs hx
          refine ih l' (k + 1) hk' h2 _ ρ' F m _ w' hK (hF.mono hx.ren) ⟨?_, ?_, hs⟩ (hE.trans hx)
          · rw [p2]; exact (hA.tm.mono hx.ren).put hv o.dst p3 a rfl
          · rw [put_defers]; exact hA.mr.mono hx.ren
        · rename_i hncall
          have p1' := prepOp2_other p1 hncall
          rw [Oper.semAt_eq _ _ _ (prepOp_ne_defer p1')]
          split at h
          · rename_i v n' H' hev
            obtain ⟨nx, y, w', ρ', hrun, hnx, hv, hs, hx⟩ := evalOp_sound hA.tm hA.sim p1' hev
            rw [hrun]
            have hgo : wpOpsIn F m P ops (PostX P N ρ0 n0 H0 w0 K) (List.range' (k + 1) os.length) (a.put o.dst y) w' := by
              refine ih l' (k + 1) hk' h2 _ ρ' F m _ w' h (hF.mono hx.ren) ⟨?_, ?_, hs⟩ (hE.trans hx)
              · rw [p2]; exact (hA.tm.mono hx.ren).put hv o.dst p3 a rfl
              · rw [put_defers]; exact hA.mr.mono hx.ren
            rcases hnx with rfl | ⟨rfl, rfl⟩
            · exact hgo
            · exact hgo
          · exact h.elim
      · exact h.elim
    · cases hp
theorem prepC_ops {c : Code} {dr : Option (List Nat)} {l : List AOper} (h : prepC P N c = some (.ops dr l)) : ∃ id ops draw, c = .region id ops draw ∧ prepOpers P N ops ops.toList = some l ∧
    (dr = none ∧ draw = false ∨ ∃ b, dr = some b ∧ draw = true ∧ P.follows .mixedOrders = true ∧ befores ops.toList [] = some b) := by
  cases c with
  | region id ops draw =>
    simp only [prepC] at h
    split at h
    · rename_i l' h1
      split at h
      · rename_i hd
        split at h
        · rename_i hm
          obtain ⟨b, h2, h3⟩ := map_inv h
          cases h3
          exact ⟨id, ops, draw, rfl, h1, .inr ⟨b, rfl, hd, hm, h2⟩⟩
        · cases h
      · rename_i hd
        cases h
        exact ⟨id, ops, draw, rfl, h1, .inl ⟨rfl, by simpa using hd⟩⟩
    · cases h
  | _ => simp only [prepC] at h <;> (try (split at h)) <;> (try (split at h)) <;> (try (cases h; done)) <;> (simp at h)
theorem AWc.ops {rd : Option Nat} {st : St} {Q : Exit → St → Prop} {l : List AOper} (h : opsF P l st (Q .normal)) : AWc P N rd (.ops none l) st Q := by
  intro c hp ρ F m a w hF hA
  obtain ⟨id, ops, draw, rfl, h1, ⟨_, rfl⟩ | ⟨b, hb, _⟩⟩ := prepC_ops hp
  · refine wpIn_region ?_
    have := opsF_sound (ops := ops) (rd := rd) (K := Q .normal) ops.toList l 0 (fun j => by simp) h1 st ρ F m a w h hF hA (.refl _ _ _ _)
    rw [Array.length_toList, ← List.range_eq_range'] at this
    have hmono : ∀ (is : List Nat) (a : Act) (w : World), wpOpsIn F m P ops (PostX P N ρ st.n st.H w (Q .normal)) is a w → True := fun _ _ _ _ => trivial
    refine wpOpsIn_post ?_ this
    rintro e a' w' ⟨rfl, st', ρ', q1, q2, q3⟩
    exact ⟨st', ρ', q1, q2, q3⟩
  · cases hb
end rules
end Go.Proofs.Ytpgelghkjiejlaa
