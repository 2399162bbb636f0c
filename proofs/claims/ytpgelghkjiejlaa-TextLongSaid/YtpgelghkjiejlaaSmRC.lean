/- What the steps of symbolic work unfold. -/
import Derived.Test.YtpgelghkjiejlaaSmRB
import Derived.IntWalk
set_option linter.unusedVariables false
set_option linter.unusedSimpArgs false
namespace Go.Proofs.Ytpgelghkjiejlaa
open Go
def finS (o : AOper) (st : St) : V × Nat × Heap → Option St
  | (v, n', H') => some ⟨putT st.T o.dst v, st.D, n', H'⟩
def stepG (o : AOper) (st : St) : Bool → Option St
  | false => some ⟨putT st.T o.dst .un, st.D, st.n, st.H⟩
  | true => (evalOp st.T st.n st.H o.op).bind (finS o st)
/-- Operations in their order, up to a call. -/
def runS : List AOper → St → Option St
  | [], st => some st
  | o :: os, st => ((guardOf st.T o.guard).bind (stepG o st)).bind (runS os)
def purOp : AOp → Bool
  | .new _ | .box _ | .lit .. | .st .. | .mks .. | .app .. | .cpy .. | .clr .. | .call .. => false
  | _ => true
def finP (o : AOper) (st : St) : V × Nat × Heap → Option St
  | (v, _, _) => some ⟨putT st.T o.dst v, st.D, st.n, st.H⟩
def stepP (o : AOper) (st : St) : Bool → Option St
  | false => some ⟨putT st.T o.dst .un, st.D, st.n, st.H⟩
  | true => if (frOp st.T o.op).all (fun b => decide (b < st.n)) then (evalOp st.T st.n (restr st.H (frOp st.T o.op) []) o.op).bind (finP o st) else none
def runP : List AOper → St → Option St
  | [], st => some st
  | o :: os, st => ((guardOf st.T o.guard).bind (stepP o st)).bind (runP os)
theorem keep_same {n : Nat} {H : Heap} {o : Option V} {v : V} {n' : Nat} {H' : Heap} (h : keep n H o = some (v, n', H')) : n' = n ∧ H' = H := by
  cases o with
  | none => cases h
  | some x => cases h; exact ⟨rfl, rfl⟩
theorem purOp_same {T : Temps} {n : Nat} {H : Heap} {op : AOp} (hp : purOp op = true) {v : V} {n' : Nat} {H' : Heap} (h : evalOp T n H op = some (v, n', H')) : n' = n ∧ H' = H := by
  cases op <;> first | (cases hp; done) | skip
  all_goals simp only [evalOp] at h
  all_goals first | exact keep_same h | skip
  all_goals first | (cases h; exact ⟨rfl, rfl⟩) | skip
  all_goals first | (split at h <;> cases h <;> exact ⟨rfl, rfl⟩) | skip
  rename_i g sz a
  rw [evLd_ldV] at h
  cases hx : ldV H g sz (a.val T) with
  | none => rw [hx] at h; cases h
  | some x => rw [hx] at h; cases h; exact ⟨rfl, rfl⟩
section rules
variable {P : Program} {N : Nat}
theorem runS_ok {K : St → Prop} : ∀ {l l' : List AOper} {st st' : St}, runS l st = some st' → opsF P l' st' K → opsF P (l ++ l') st K := by
  intro l
  induction l with
  | nil => intro l' st st' h hk; cases h; exact hk
  | cons o os ih =>
    intro l' st st' h hk
    rw [List.cons_append]
    unfold runS at h
    cases hg : guardOf st.T o.guard with
    | none => rw [hg] at h; cases h
    | some b =>
      rw [hg] at h
      cases b with
      | false => exact opsF_skip hg (ih h hk)
      | true =>
        simp only [Option.bind_some, stepG] at h
        cases hev : evalOp st.T st.n st.H o.op with
        | none => rw [hev] at h; cases h
        | some x =>
          obtain ⟨v, n', H'⟩ := x
          rw [hev] at h
          exact opsF_op hg (fun g l hx => by rw [hx] at hev; cases hev) hev (ih h hk)
theorem opsF_run (k : Nat) {l : List AOper} {st st' : St} {K : St → Prop} (h : runS (l.take k) st = some st') (hk : opsF P (l.drop k) st' K) : opsF P l st K := by
  have := runS_ok (P := P) h hk
  rwa [List.take_append_drop] at this
theorem opsF_all {l : List AOper} {st st' : St} {K : St → Prop} (h : runS l st = some st') (hk : K st') : opsF P l st K := by
  have := runS_ok (P := P) (l' := []) h hk
  rwa [List.append_nil] at this
theorem runP_ok {K : St → Prop} : ∀ {l l' : List AOper} {st st' : St}, (l.all fun o => purOp o.op && o.op.cok) = true → runP l st = some st' → drawP P l' st' K → drawP P (l ++ l') st K := by
  intro l
  induction l with
  | nil => intro l' st st' _ h hk; cases h; exact hk
  | cons o os ih =>
    intro l' st st' hc h hk
    rw [List.cons_append]
    simp only [List.all_cons, Bool.and_eq_true] at hc
    obtain ⟨⟨hp, hok⟩, hc⟩ := hc
    unfold runP at h
    cases hg : guardOf st.T o.guard with
    | none => rw [hg] at h; cases h
    | some b =>
      rw [hg] at h
      cases b with
      | false => exact drawP_skip hg (ih hc h hk)
      | true =>
        simp only [Option.bind_some, stepP] at h
        split at h
        · rename_i hfr
          cases hev : evalOp st.T st.n (restr st.H (frOp st.T o.op) []) o.op with
          | none => rw [hev] at h; cases h
          | some x =>
            obtain ⟨v, n', H'⟩ := x
            obtain ⟨rfl, rfl⟩ := purOp_same hp hev
            rw [hev] at h
            refine drawP_op (frOp st.T o.op) hg ?_ hev (fun b hb => by have := List.all_eq_true.1 hfr b hb; simpa using this) hok (ih hc h hk)
            cases hop : o.op <;> rw [hop] at hp <;> first | rfl | cases hp
        · cases h
theorem drawP_run (k : Nat) {l : List AOper} {st st' : St} {K : St → Prop} (hc : ((l.take k).all fun o => purOp o.op && o.op.cok) = true) (h : runP (l.take k) st = some st') (hk : drawP P (l.drop k) st' K) : drawP P l st K := by
  have := runP_ok (P := P) hc h hk
  rwa [List.take_append_drop] at this
theorem drawP_all {l : List AOper} {st st' : St} {K : St → Prop} (hc : (l.all fun o => purOp o.op && o.op.cok) = true) (h : runP l st = some st') (hk : K st') : drawP P l st K := by
  have := runP_ok (P := P) (l' := []) hc h hk
  rwa [List.append_nil] at this
theorem callV_pure {f : FuncId} {first caps args : List V} {n : Nat} {H : Heap} {v : V} {K : V → Nat → Heap → Prop} (h : Pure P f (first ++ args ++ caps) n H v) (hk : K v n H) : callV P (.fn f first caps) args n H K := by
  refine ACalls.mono h ?_
  rintro _ _ _ ⟨rfl, rfl, rfl⟩
  exact hk
end rules
theorem setAll_len {α : Type} (cs : List α) (off : Nat) (vs : List α) : (setAll cs off vs).length = min off cs.length + (vs.length + (cs.length - (off + vs.length))) := by simp [setAll]
@[simp] theorem zrep_sing (x : V) (n : Nat) : zrep [x] n = List.replicate n x := rfl
theorem setAll_full {α : Type} {cs vs : List α} (h : vs.length = cs.length) : setAll cs 0 vs = vs := by simp [setAll, h]
@[simp] theorem one_b (x : Bool) : V.one (.b x) = true := rfl
@[simp] theorem one_i (k : IntKind) (n : Int) : V.one (.i k n) = true := rfl
@[simp] theorem one_s (l : List UInt8) : V.one (.s l) = true := rfl
@[simp] theorem one_p (i o : Nat) : V.one (.p i o) = true := rfl
@[simp] theorem one_nilp : V.one .nilp = true := rfl
@[simp] theorem one_sl (a b c d : Nat) (f : Bool) : V.one (.sl a b c d f) = true := rfl
@[simp] theorem one_nils : V.one .nils = true := rfl
@[simp] theorem one_nilf : V.one .nilf = true := rfl
@[simp] theorem one_fn (f : FuncId) (a b : List V) : V.one (.fn f a b) = true := rfl
@[simp] theorem known_b (x : Bool) : V.known (.b x) = true := rfl
@[simp] theorem known_i (k : IntKind) (n : Int) : V.known (.i k n) = true := rfl
@[simp] theorem known_s (l : List UInt8) : V.known (.s l) = true := rfl
@[simp] theorem known_p (i o : Nat) : V.known (.p i o) = true := rfl
@[simp] theorem known_sl (a b c d : Nat) (f : Bool) : V.known (.sl a b c d f) = true := rfl
@[simp] theorem known_nils : V.known .nils = true := rfl
@[simp] theorem known_nilf : V.known .nilf = true := rfl
@[simp] theorem known_fn (f : FuncId) (a b : List V) : V.known (.fn f a b) = true := rfl
@[simp] theorem known_ag (l : List V) : V.known (.ag l) = true := rfl
attribute [simp] Nat.add_assoc aget_cons setAll_len runS stepG finS runP stepP finP guardOf putT aput aget argsT AX.val evalOp keep evNew evLd evSt evBin binI binS cmpI eqOne evEq1 evUn natOf bound evSls evSla evStr evFa evFld evIas evIaa evIxs evLen minI maxI foldO evFold cellsOf lenS evApp evCpy evExt evMks V.cells fillA resAll resOne ldV resV onNormal onBlock restr pickR roOf frOp fwOp idOf fullOf
end Go.Proofs.Ytpgelghkjiejlaa
