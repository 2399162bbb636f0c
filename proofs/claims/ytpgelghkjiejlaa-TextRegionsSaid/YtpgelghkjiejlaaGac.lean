/- All operations: what ours tells of one is what the model's does, over whatever world bears the abstract state. The preparation of code; triples on code over abstract states, and their rules but for operations. Contracts of functions over abstract states; operations in the order of the text; a function's body and its contract. A function's contract from its body; a range over a function. A range over a function. -/
import Derived.Test.YtpgelghkjiejlaaGab
import Derived.Laws.BytesString
import Derived.RangeFuncLeaves
import Derived.RangeFuncRecord
set_option linter.unusedVariables false
set_option linter.unusedSimpArgs false
section
namespace Go.Proofs.Ytpgelghkjiejlaa
open Go
section ops
variable {pc : PrepC} {P : Program} {ρ : Ren} {n : Nat} {H : Heap} {w : World}

/-- One operation of the model comes to v. -/
def OpGets (pc : PrepC) (P : Program) (ρ : Ren) (n : Nat) (H : Heap) (w : World) (r : Sem Next) (v : V) (n' : Nat) (H' : Heap) : Prop :=
  ∃ nx y w' ρ', r.run P w = .ok nx w' ∧ (nx = .value y ∨ nx = .skip ∧ y = undef) ∧ VRel ρ' v y ∧ Sim pc ρ' n' H' w' ∧ Ext ρ n H w ρ' n' H' w'
theorem Gets.op {sem : Sem Value} {v : V} {n' : Nat} {H' : Heap} (h : Gets pc P ρ n H w sem v n' H') : OpGets pc P ρ n H w (do Pure.pure (Next.value (← sem)) : Sem Next) v n' H' := by
  obtain ⟨y, w', ρ', h1, h2, h3, h4⟩ := h
  exact ⟨.value y, y, w', ρ', by simp [h1], .inl rfl, h2, h3, h4⟩
theorem GetsU.op {sem : Sem Unit} {n' : Nat} {H' : Heap} (h : GetsU pc P ρ n H w sem n' H') : OpGets pc P ρ n H w (do sem; Pure.pure Next.skip : Sem Next) .un n' H' := by
  obtain ⟨w', ρ', h1, h3, h4⟩ := h
  exact ⟨.skip, undef, w', ρ', by simp [h1], .inr ⟨rfl, rfl⟩, .un _, h3, h4⟩
theorem op_value {y : Value} {v : V} (s : Sim pc ρ n H w) (r : VRel ρ v y) : OpGets pc P ρ n H w (pure (Next.value y)) v n H :=
  ⟨.value y, y, w, ρ, rfl, .inl rfl, r, s, .refl _ _ _ _⟩

theorem map_inv {α β : Type} {f : α → β} {o : Option α} {y : β} (h : o.map f = some y) : ∃ x, o = some x ∧ y = f x := by
  obtain ⟨x, h1, h2⟩ := Option.map_eq_some_iff.1 h
  exact ⟨x, h1, h2.symm⟩

variable {N : Nat} {T : Temps} {a : Act}
theorem sound_builtin (tr : TRel ρ N T a.tmps) (s : Sim pc ρ n H w) {b : Builtin} {argTypes : Array TypeId} {args : Array Operand} {type : TypeId} {l : List AX} {ao : AOp} (hl : prepXs args.toList = some l) (hp : prepBuiltin P b argTypes.toList l = some ao)
    {v : V} {n' : Nat} {H' : Heap} (ev : evalOp T n H ao = some (v, n', H')) {consts : Array Bool} : OpGets pc P ρ n H w (builtin b argTypes type consts (args.map a.eval)) v n' H' := by
  have hr := prepXs_rel tr hl
  have hargs : (args.map a.eval).toList = args.toList.map a.eval := by simp
  unfold prepBuiltin at hp
  split at hp
  · -- len
    rename_i t x hts
    obtain ⟨x', t1, e1, r1, r2⟩ := hr.cons_inv
    obtain rfl := r2.nil_inv
    have hav : args.map a.eval = #[x'] := by apply Array.ext'; rw [hargs, e1]
    have ht : argTypes[0]? = some t := by rw [← Array.getElem?_toList, hts]; rfl
    split at hp
    · rename_i hu; cases hp; rw [hav]; exact (gets_len s ht (by simpa using hu) r1 ev).op
    · rename_i e hu; cases hp; rw [hav]; exact (gets_len s ht (by simpa using ⟨e, hu⟩) r1 ev).op
    · cases hp
  · cases hp; exact (gets_min s (by rw [hargs]; exact hr) ev).op
  · cases hp; exact (gets_max s (by rw [hargs]; exact hr) ev).op
  · -- append
    rename_i t t' x y hts
    obtain ⟨x', t1, e1, r1, r2⟩ := hr.cons_inv
    obtain ⟨y', t2, rfl, r3, r4⟩ := r2.cons_inv
    obtain rfl := r4.nil_inv
    have hav : args.map a.eval = #[x', y'] := by apply Array.ext'; rw [hargs, e1]
    have hat : argTypes = #[t, t'] := by apply Array.ext'; rw [hts]
    split at hp
    · rename_i e e' hu hu'
      split at hp
      · rename_i i z hi hz
        split at hp
        · rename_i hc
          cases hp
          rw [hav, hat]
          exact (gets_app s hu hu' hi hz hc.1 hc.2.1 hc.2.2 r1 r3 ev).op
        · cases hp
      · cases hp
    · cases hp
  · -- copy
    rename_i t t' x y hts
    obtain ⟨x', t1, e1, r1, r2⟩ := hr.cons_inv
    obtain ⟨y', t2, rfl, r3, r4⟩ := r2.cons_inv
    obtain rfl := r4.nil_inv
    have hav : args.map a.eval = #[x', y'] := by apply Array.ext'; rw [hargs, e1]
    have ht : argTypes[0]? = some t := by rw [← Array.getElem?_toList, hts]; rfl
    split at hp
    · rename_i e e' hu hu'
      split at hp
      · rename_i sz hs
        split at hp
        · cases hp
          rw [hav]
          exact (gets_cpy s ht hu hs r1 r3 ev).op
        · cases hp
      · cases hp
    · cases hp
  · -- clear
    rename_i t x hts
    obtain ⟨x', t1, e1, r1, r2⟩ := hr.cons_inv
    obtain rfl := r2.nil_inv
    have hav : args.map a.eval = #[x'] := by apply Array.ext'; rw [hargs, e1]
    have ht : argTypes[0]? = some t := by rw [← Array.getElem?_toList, hts]; rfl
    split at hp
    · rename_i e hu
      split at hp
      · rename_i sz z hs hz
        split at hp
        · cases hp
          rw [hav]
          exact (gets_clr s ht hu hs hz r1 ev).op
        · cases hp
      · cases hp
    · cases hp
  · cases hp

theorem bytesOf_rel {ρ : Ren} : ∀ {cs : List V} {l : List UInt8} {ys : List Value}, bytesOf cs = some l → VRelL ρ cs ys → ∃ ns : List Int, ys = ns.map (Value.int .u8) ∧ ns.map (fun n => UInt8.ofNat n.toNat) = l := by
  intro cs
  induction cs with
  | nil => intro l ys h r; cases h; obtain rfl := r.nil_inv; exact ⟨[], rfl, rfl⟩
  | cons v cs ih =>
    intro l ys h r
    obtain ⟨y, yt, rfl, r1, r2⟩ := r.cons_inv
    simp only [bytesOf] at h
    split at h
    · rename_i b l' h1 h2
      cases h
      obtain ⟨ns, rfl, h3⟩ := ih h2 r2
      unfold byteOf at h1
      split at h1
      · rename_i a
        cases h1
        cases i_inv r1
        exact ⟨a :: ns, rfl, by simp [h3]⟩
      · cases h1
    · cases h
theorem foldl_bytes : ∀ (ns : List Int) (s : ByteArray), (ns.foldl (fun r n => r.push (UInt8.ofNat n.toNat)) s).data.toList = s.data.toList ++ ns.map fun n => UInt8.ofNat n.toNat := by
  intro ns
  induction ns with
  | nil => intro s; simp
  | cons n ns ih => intro s; rw [List.foldl_cons, ih]; simp [ByteArray.push]
theorem gets_b2s {x : V} {x' : Value} {src dst e : TypeId} (s : Sim pc ρ n H w) (h1 : P.underlying src = some (.slice e)) (h2 : P.underlying dst = some .string) (he : P.underlying e = some (.int .u8)) (rx : VRel ρ x x') {v : V} (ev : evB2s H x = some v) :
    Gets pc P ρ n H w (convert src dst x') v n H := by
  unfold evB2s at ev
  split at ev
  · rename_i cs hcs
    obtain ⟨l, hl, rfl⟩ := map_inv ev
    obtain ⟨arr, q1, q2⟩ := run_firstCells (P := P) s rx hcs (m := lenS x) (Nat.le_refl _)
    have hlen := cellsOf_length hcs
    rw [List.take_of_length_le (by omega)] at q2
    obtain ⟨ns, hns, hnl⟩ := bytesOf_rel hl q2
    unfold cellsOf at hcs
    split at hcs
    · cases hcs
      cases rx
      cases hl
      refine Gets.pure s (y := .string ByteArray.empty) ?_ (.s rfl)
      rw [run_convert_bytes_string w src dst e _ _ _ h1 he h2]
      simp [Conv.bytesToString]
    · cases rx with
      | @sl _ _ _ _ _ c d z o k hρ hk hf ho =>
      refine Gets.pure s (y := .string (ns.foldl (fun r n => r.push (UInt8.ofNat n.toNat)) ByteArray.empty)) ?_ (.s ?_)
      · rw [run_convert_bytes_string w src dst e _ _ _ h1 he h2]
        refine run_bytesToString w _ _ _ ns ?_
        have harr : arr = (ns.map (Value.int .u8)).toArray := by rw [← hns]
        rw [← harr]
        simpa [Builtin.firstCells, lenS] using q1
      · rw [foldl_bytes, hnl]
        rfl
    · cases hcs
  · cases ev
theorem evalOp_sound (tr : TRel ρ N T a.tmps) (s : Sim pc ρ n H w) {o : Oper} {ao : AOp} (hp : prepOp P o.op = some ao) {v : V} {n' : Nat} {H' : Heap} (ev : evalOp T n H ao = some (v, n', H')) :
    OpGets pc P ρ n H w (execOp a.eval o) v n' H' := by
  obtain ⟨dst, op, type, pos, after, guard⟩ := o
  simp only at hp
  cases op with
  | move x =>
    obtain ⟨ax, h1, rfl⟩ := map_inv hp
    cases ev
    exact op_value s (prepX_rel tr h1)
  | assign x =>
    obtain ⟨ax, h1, rfl⟩ := map_inv hp
    cases ev
    exact op_value s (prepX_rel tr h1)
  | pick c x y =>
    simp only [prepOp] at hp
    split at hp
    · rename_i c' x' y' h1 h2 h3
      cases hp
      simp only [evalOp] at ev
      split at ev
      · rename_i b hb
        cases ev
        have hc := prepX_rel tr h1
        rw [hb] at hc
        have hcb := b_inv hc
        refine ⟨.value (if b then a.eval x else a.eval y), _, w, ρ, ?_, .inl rfl, ?_, s, .refl _ _ _ _⟩
        · simp [execOp, hcb, asBool]
        · cases b
          · exact prepX_rel tr h3
          · exact prepX_rel tr h2
      · cases ev
    · cases hp
  | alloc t =>
    obtain ⟨z, h1, rfl⟩ := map_inv hp
    exact (gets_new s h1 ev).op
  | box t x =>
    obtain ⟨ax, h1, rfl⟩ := map_inv hp
    exact (gets_box s (prepX_rel tr h1) ev).op
  | build t ps =>
    simp only [prepOp] at hp
    split at hp
    · rename_i fs z l hu hz hl
      split at hp
      · rename_i hall
        obtain ⟨l', h1, rfl⟩ := map_inv hp
        refine (gets_build tr s hu hz (fun f hf => ?_) hl h1 ev).op
        have := List.all_eq_true.1 hall f hf
        exact Option.isSome_iff_exists.1 this
      · cases hp
    · cases hp
  | buildSlice t len ps =>
    simp only [prepOp] at hp
    split at hp
    · rename_i e l hu hl
      split at hp
      · rename_i sz z hs hz
        split at hp
        · rename_i hc
          cases hp
          exact (gets_lit tr s hu hs hz hc.2.1 hc.2.2 hc.1 hl ev).op
        · cases hp
      · cases hp
    · cases hp
  | load t x =>
    simp only [prepOp] at hp
    split at hp
    · rename_i g sz ax h1 h2 h3
      cases hp
      exact (gets_ld s h1 h2 (prepX_rel tr h3) ev).op
    · cases hp
  | store t x y =>
    simp only [prepOp] at hp
    split at hp
    · rename_i sz ax ay h1 h2 h3
      cases hp
      obtain ⟨rfl, h4⟩ := gets_st s h1 (prepX_rel tr h2) (prepX_rel tr h3) ev
      exact h4.op
    · cases hp
  | binOp op t x y t2 =>
    have key : ∀ {ao : AOp} {ax ay : AX}, prepX x = some ax → prepX y = some ay → (∃ k, P.underlying t = some (.int k)) ∨ P.underlying t = some .string → evalOp T n H (.bin op ax ay) = some (v, n', H') →
        OpGets pc P ρ n H w (execOp a.eval { dst, op := .binOp op t x y t2, type, pos, after, guard }) v n' H' := by
      intro ao ax ay h1 h2 h3 ev
      have hx := prepX_rel tr h1
      have hy := prepX_rel tr h2
      have g := gets_bin (P := P) s (t := t) hx hy ev
      obtain ⟨y', w', ρ', g1, g2, g3, g4⟩ := g
      obtain ⟨e', _, _⟩ := keep_inv ev
      have hne : a.eval x ≠ .nilIface ∧ ∀ xs, a.eval x ≠ .agg xs := by
        unfold evBin at e'
        split at e'
        · rename_i q1 q2; rw [q1] at hx; rw [i_inv hx]; simp
        · rename_i q1 q2; rw [q1] at hx; obtain ⟨b, hb, _⟩ := s_inv hx; rw [hb]; simp
        · cases e'
      refine ⟨.value y', y', w', ρ', ?_, .inl rfl, g2, g3, g4⟩
      simp only [execOp, Sem.run_bind, run_eqGuard (P := P) (w := w) (a := a.eval x) (b := a.eval y) (fun ⟨xs, h⟩ => absurd h (hne.2 xs)) hne.1, Result.andThen_ok, g1, Sem.run_pure]
    have key1 : ∀ {g : Bool} {k : Nat} {ax ay : AX}, prepX x = some ax → prepX y = some ay → negOf op = some g → (k = 0 ∨ k = 3 ∨ k = 4 ∨ k = 5) → EqT P t k → evalOp T n H (.eq1 g k ax ay) = some (v, n', H') →
        OpGets pc P ρ n H w (execOp a.eval { dst, op := .binOp op t x y t2, type, pos, after, guard }) v n' H' := by
      intro g k ax ay h1 h2 h3 h4 h5 ev
      exact (gets_eq1 s h3 h4 h5 (prepX_rel tr h1) (prepX_rel tr h2) ev).op
    simp only [prepOp] at hp
    split at hp
    · rename_i ax ay k h1 h2 h3; cases hp; exact key (ao := .bin op ax ay) h1 h2 (.inl ⟨k, h3⟩) ev
    · rename_i ax ay h1 h2 h3; cases hp; exact key (ao := .bin op ax ay) h1 h2 (.inr h3) ev
    · rename_i ax ay h1 h2 h3; obtain ⟨g, hg, rfl⟩ := map_inv hp; exact key1 h1 h2 hg (.inl rfl) h3 ev
    · rename_i ax ay e h1 h2 h3; obtain ⟨g, hg, rfl⟩ := map_inv hp; exact key1 h1 h2 hg (.inr (.inl rfl)) ⟨e, h3⟩ ev
    · rename_i ax ay e h1 h2 h3; obtain ⟨g, hg, rfl⟩ := map_inv hp; exact key1 h1 h2 hg (.inr (.inr (.inl rfl))) ⟨e, h3⟩ ev
    · rename_i ax ay e e' e'' h1 h2 h3; obtain ⟨g, hg, rfl⟩ := map_inv hp; exact key1 h1 h2 hg (.inr (.inr (.inr rfl))) ⟨e, e', e'', h3⟩ ev
    · rename_i ax ay fs h1 h2 h3
      split at hp
      · rename_i g ks hg hk
        cases hp
        exact (gets_eqs s hg hk (prepX_rel tr h1) (prepX_rel tr h2) ev).op
      · cases hp
    · cases hp
  | unOp op t x =>
    obtain ⟨ax, h1, rfl⟩ := map_inv hp
    exact (gets_un s (prepX_rel tr h1) ev).op
  | convert src dst x =>
    simp only [prepOp] at hp
    split at hp
    · rename_i k k' ax h1 h2 h3
      cases hp
      simp only [evalOp] at ev
      split at ev
      · rename_i k2 m hm
        cases ev
        have hx := prepX_rel tr h3
        rw [hm] at hx
        refine (Gets.pure s (y := .int k' (k'.wrap m)) ?_ (.i _ _)).op
        rw [i_inv hx]
        simp [convert, run_under h1, run_under h2, Conv.intToInt]
      · cases ev
    · rename_i ax h1 h2 h3
      cases hp
      obtain ⟨e', rfl, rfl⟩ := keep_inv ev
      have hx := prepX_rel tr h3
      simp only [Option.map_none] at e'
      unfold evStr at e'
      split at e'
      · rename_i l hl
        rw [hl] at hx
        obtain ⟨b, hb, hbl⟩ := s_inv hx
        simp only [bound, Nat.zero_le, Nat.le_refl, and_self, if_true, List.drop_zero, Nat.sub_zero, List.take_length, Option.some.injEq] at e'
        subst e'
        refine (Gets.pure s (y := .string b) ?_ (.s hbl)).op
        rw [hb]
        simp [convert, run_under h1, run_under h2]
      · cases e'
    · rename_i e ax h1 h2 h3
      split at hp
      · rename_i he
        cases hp
        obtain ⟨e', rfl, rfl⟩ := keep_inv ev
        exact (gets_b2s s h1 h2 he (prepX_rel tr h3) e').op
      · cases hp
    · cases hp
  | makeFunc fn first caps =>
    cases fn with
    | func g =>
      simp only [prepOp] at hp
      split at hp
      · rename_i l1 l2 h1 h2
        cases hp
        cases ev
        have r1 := prepXs_rel tr h1
        have r2 := prepXs_rel tr h2
        refine (Gets.pure s (sem := Instr.makeFunc (.func g) (first.map a.eval) (caps.map a.eval)) (y := .func (.func g) (first.map a.eval) (caps.map a.eval)) rfl ?_).op
        exact .fn (by have := r1.1; simpa using this) (fun j x y hx hy => r1.2 j x y hx (by simpa using hy)) (by have := r2.1; simpa using this) (fun j x y hx hy => r2.2 j x y hx (by simpa using hy))
      · cases hp
    | _ => cases hp
  | makeSlice t l c =>
    simp only [prepOp] at hp
    split at hp
    · rename_i e al ac h1 h2 h3
      split at hp
      · rename_i i z hi hz
        split at hp
        · rename_i hc
          cases hp
          exact (gets_mks s h1 hi hz hc.1 hc.2.2 (prepX_rel tr h2) (prepX_rel tr h3) ev).op
        · cases hp
      · cases hp
    · cases hp
  | slice t x lo hi mx =>
    simp only [prepOp] at hp
    have hiso : ∀ {o : Option Operand} {ao : Option AX}, prepO o = some ao → (ao.map (·.val T)).isSome = ao.isSome := fun _ => by simp
    split at hp
    · rename_i ax al ah h1 h2 h3 h4 h5
      cases hp
      cases mx with
      | some m =>
        simp only [prepO] at h5
        obtain ⟨u, _, hu⟩ := map_inv h5
        cases hu
      | none => exact (gets_sstr s h1 (prepX_rel tr h2) (prepO_rel tr h3) (prepO_rel tr h4) ev).op
    · rename_i e ax al ah am h1 h2 h3 h4 h5
      split at hp
      · rename_i hc
        obtain ⟨sz, hs, rfl⟩ := map_inv hp
        exact (gets_sls s h1 hs (prepX_rel tr h2) (prepO_rel tr h3) (prepO_rel tr h4) (prepO_rel tr h5) (by simpa using hc) ev).op
      · cases hp
    · rename_i m0 e ax al ah am h1 h2 h3 h4 h5
      split at hp
      · rename_i hc
        obtain ⟨sz, hs, rfl⟩ := map_inv hp
        exact (gets_sla s h1 hs (prepX_rel tr h2) (prepO_rel tr h3) (prepO_rel tr h4) (prepO_rel tr h5) (by simpa using hc) ev).op
      · cases hp
    · cases hp
  | fieldAddr t x f =>
    simp only [prepOp] at hp
    split at hp
    · rename_i fs ax h1 h2
      split at hp
      · cases hp
      · rename_i fd hf
        split at hp
        · rename_i k hs
          cases hp
          exact (gets_fa s h1 hf hs (prepX_rel tr h2) ev).op
        · cases hp
    · cases hp
  | field t x f =>
    simp only [prepOp] at hp
    split at hp
    · rename_i fs ax h1 h2
      split at hp
      · cases hp
      · rename_i fd hf
        split at hp
        · rename_i sz g hs hg
          cases hp
          exact (gets_fld s h1 hf hs hg (prepX_rel tr h2) ev).op
        · cases hp
    · cases hp
  | indexAddr t x i =>
    simp only [prepOp] at hp
    split at hp
    · rename_i e ax ai h1 h2 h3
      obtain ⟨sz, hs, rfl⟩ := map_inv hp
      exact (gets_ias s h1 hs (prepX_rel tr h2) (prepX_rel tr h3) ev).op
    · rename_i m0 e ax ai h1 h2 h3
      obtain ⟨sz, hs, rfl⟩ := map_inv hp
      exact (gets_iaa s h1 hs (prepX_rel tr h2) (prepX_rel tr h3) ev).op
    · cases hp
  | index t x i =>
    simp only [prepOp] at hp
    split at hp
    · rename_i ax ai h1 h2 h3
      cases hp
      exact (gets_ixs s h1 (prepX_rel tr h2) (prepX_rel tr h3) ev).op
    · cases hp
  | call c =>
    obtain ⟨callee, args, argTypes⟩ := c
    simp only [prepOp] at hp
    split at hp
    · obtain ⟨g, h1, rfl⟩ := map_inv hp
      cases ev
    · rename_i b l h2
      have := sound_builtin (pc := pc) tr s (type := type) h2 hp ev (consts := args.map fun | .const _ => true | _ => false)
      exact this
    · cases hp
  | nilCheck x =>
    obtain ⟨ax, h1, rfl⟩ := map_inv hp
    obtain ⟨e', rfl, rfl⟩ := keep_inv ev
    unfold evNil at e'
    split at e'
    · rename_i id off hv
      cases e'
      have hx := prepX_rel tr h1
      rw [hv] at hx
      generalize hy : a.eval x = y at hx
      cases hx with
      | @p _ _ c d z o hρ ho =>
      refine ⟨.value (.pointer (some ⟨c, o, none⟩)), _, w, ρ, ?_, .inl rfl, .p hρ ho, s, .refl _ _ _ _⟩
      simp only [execOp]
      rw [hy]
      rfl
    · cases e'
  | extract x i =>
    obtain ⟨ax, h1, rfl⟩ := map_inv hp
    obtain ⟨e', rfl, rfl⟩ := keep_inv ev
    unfold evExt at e'
    split at e'
    · rename_i xs hv
      have hx := prepX_rel tr h1
      rw [hv] at hx
      generalize hy : a.eval x = y at hx
      cases hx with
      | @tu _ ys hl hh =>
      obtain ⟨y', hy', hr⟩ := (VRelL.of_array hl hh).get e'
      simp only [Array.getElem?_toList] at hy'
      have hrun : (Instr.extract (a.eval x) i).run P w = .ok y' w := by
        rw [hy]
        simp only [Instr.extract, hy']
        rfl
      exact (Gets.pure s hrun hr).op
    · cases e'
  | _ => cases hp
end ops
end Go.Proofs.Ytpgelghkjiejlaa
end
section
namespace Go.Proofs.Ytpgelghkjiejlaa
open Go

def dstOk (N : Nat) : Option Nat → Bool
  | some d => decide (d < N)
  | none => true
def AOp.isCall : AOp → Bool
  | .call _ _ => true
  | _ => false
def valCall : Op → Option (Operand × List Operand)
  | .call c => match c.callee with | .value f => some (f, c.args.toList) | _ => none
  | _ => none
def prepOp2 (P : Program) (o : Op) : Option AOp :=
  match valCall o with
  | some (f, l) => (match prepX f, prepXs l with | some g, some l => some (.call g l) | _, _ => none)
  | none => match prepOp P o with
    | some ao => if ao.isCall then none else some ao
    | none => none
def prepOper (P : Program) (N : Nat) (ops : Array Oper) (o : Oper) : Option AOper :=
  match prepOp2 P o.op with
  | some ao =>
    if dstOk N o.dst then
      some { dst := o.dst, op := ao, guard := o.guard.map fun (j, b) => ((ops[j]?).bind (·.dst), b) }
    else none
  | none => none
def prepOpers (P : Program) (N : Nat) (ops : Array Oper) : List Oper → Option (List AOper)
  | [] => some []
  | o :: r => match prepOper P N ops o, prepOpers P N ops r with | some x, some l => some (x :: l) | _, _ => none
/-- Those that come ahead of each operation, whatever order is drawn: by its own edges and theirs. -/
def befores : List Oper → List Nat → Option (List Nat)
  | [], acc => some acc
  | o :: r, acc =>
    let on := (o.after.toList.filter (Region.binds .any)).map (·.on)
    if on.all (· < acc.length) then befores r (acc ++ [on.foldl (fun m i => m ||| (1 <<< i) ||| acc.getD i 0) 0]) else none
def prepC (P : Program) : Nat → Code → Option ACode
  | _, .skip => some .skip
  | N, .region _ ops draw =>
    match prepOpers P N ops ops.toList with
    | some l => if draw then (if P.follows .mixedOrders then (befores ops.toList []).map fun b => .ops (some b) l else none) else some (.ops none l)
    | none => none
  | N, .seq a b => match prepC P N a, prepC P N b with | some x, some y => some (.seq x y) | _, _ => none
  | N, .cond c a b => match prepX c, prepC P N a, prepC P N b with | some c, some x, some y => some (.cond c x y) | _, _, _ => none
  | N, .block id c => (prepC P N c).map (.block id)
  | N, .loop c => (prepC P N c).map .loop
  | N, .rangeFunc f ps a b =>
    match prepX f, prepC P N a, prepC P N b with
    | some f, some x, some y => if ps.toList.all (· < N) then some (.rangeF f ps.toList x y) else none
    | _, _, _ => none
  | _, .exit id => some (.exit id)
  | N, .scope c => (prepC P N c).map .scope
  | _, .label _ => some .skip
  | _, .ret => some .ret
  | _, _ => none

structure St where
  T : Temps
  D : List Nat
  n : Nat
  H : Heap

def MRel (ρ : Ren) : List Nat → List Deferred → Prop
  | [], [] => True
  | m :: D, d :: ds => (∃ c e z, ρ m = some (c, e, z) ∧ d = { target := .collected c, args := #[] }) ∧ MRel ρ D ds
  | _, _ => False
theorem MRel.mono {ρ ρ' : Ren} (h : ρ.le ρ') : ∀ {D : List Nat} {ds : List Deferred}, MRel ρ D ds → MRel ρ' D ds
  | [], [], _ => trivial
  | _ :: _, _ :: _, ⟨⟨c, e, z, h1, h2⟩, r⟩ => ⟨⟨c, e, z, h _ _ h1, h2⟩, r.mono h⟩
structure ARel (P : Program) (ρ : Ren) (N : Nat) (st : St) (a : Act) (w : World) : Prop where
  tm : TRel ρ N st.T a.tmps
  mr : MRel ρ st.D a.defers
  sim : Sim (prepC P) ρ st.n st.H w
/-- The fence of an activation (of a round of the loop rd, if one is named). -/
def FRel (ρ : Ren) : Option Nat → Fence → Prop
  | none, F => F = Fence.wide
  | some l, F => ∃ c d z, ρ l = some (c, d, z) ∧ F = Fence.wide.inRound c
theorem FRel.mono {ρ ρ' : Ren} (h : ρ.le ρ') {rd : Option Nat} {F : Fence} (r : FRel ρ rd F) : FRel ρ' rd F := by
  cases rd with
  | none => exact r
  | some l => obtain ⟨c, d, z, h1, h2⟩ := r; exact ⟨c, d, z, h _ _ h1, h2⟩
theorem FRel.fn {ρ : Ren} {rd : Option Nat} {F : Fence} (r : FRel ρ rd F) (f : FuncId) : F.fn f := by
  cases rd with
  | none => cases r; trivial
  | some l => obtain ⟨c, d, z, h1, rfl⟩ := r; trivial
theorem FRel.depth {ρ : Ren} {rd : Option Nat} {F : Fence} (r : FRel ρ rd F) : F.depth = none := by
  cases rd with
  | none => cases r; rfl
  | some l => obtain ⟨c, d, z, h1, rfl⟩ := r; rfl

/-- What holds behind a piece of code that began in st over w. -/
def Post (P : Program) (N : Nat) (ρ : Ren) (st : St) (w : World) (Q : Exit → St → Prop) (e : Exit) (a' : Act) (w' : World) : Prop :=
  ∃ st' ρ', Q e st' ∧ ARel P ρ' N st' a' w' ∧ Ext ρ st.n st.H w ρ' st'.n st'.H w'
def AW (P : Program) (N : Nat) (rd : Option Nat) (c : Code) (st : St) (Q : Exit → St → Prop) : Prop :=
  ∀ (ρ : Ren) (F : Fence) (m : Nat) (a : Act) (w : World), FRel ρ rd F → ARel P ρ N st a w → c.wpIn F m P (Post P N ρ st w Q) a w
def AWc (P : Program) (N : Nat) (rd : Option Nat) (ac : ACode) (st : St) (Q : Exit → St → Prop) : Prop :=
  ∀ c, prepC P N c = some ac → AW P N rd c st Q

def onNormal (K : St → Prop) (Q : Exit → St → Prop) : Exit → St → Prop
  | .normal, s => K s
  | e, s => Q e s
def onBlock (id : Nat) (Q : Exit → St → Prop) : Exit → St → Prop
  | .exit id', s => if id' = id then Q .normal s else Q (.exit id') s
  | e, s => Q e s

section rules
variable {P : Program} {N : Nat} {rd : Option Nat} {st : St} {Q : Exit → St → Prop}
theorem AWc.conseq {ac : ACode} {Q' : Exit → St → Prop} (h : AWc P N rd ac st Q) (hq : ∀ e s, Q e s → Q' e s) : AWc P N rd ac st Q' :=
  fun c hc ρ F m a w hF hA => wpIn_mono (h c hc ρ F m a w hF hA) fun e a' w' ⟨st', ρ', h1, h2⟩ => ⟨st', ρ', hq _ _ h1, h2⟩
theorem Post.here {ρ : Ren} {a : Act} {w : World} {e : Exit} (hA : ARel P ρ N st a w) (h : Q e st) : Post P N ρ st w Q e a w := ⟨st, ρ, h, hA, .refl _ _ _ _⟩
theorem prepC_skip {c : Code} (h : prepC P N c = some .skip) : c = .skip ∨ ∃ l, c = .label l := by
  cases c with
  | skip => exact .inl rfl
  | label l => exact .inr ⟨l, rfl⟩
  | region id ops draw => simp only [prepC] at h; split at h <;> (try (split at h)) <;> (try (split at h)) <;> simp at h
  | _ => simp only [prepC] at h <;> (try (split at h)) <;> (try (split at h)) <;> (try (cases h; done)) <;> (simp at h)
theorem AWc.skip (h : Q .normal st) : AWc P N rd .skip st Q := by
  intro c hc ρ F m a w hF hA
  rcases prepC_skip hc with rfl | ⟨l, rfl⟩
  · exact wpIn_skip (.here hA h)
  · exact wpIn_label (.here hA h)
theorem prepC_seq {c : Code} {x y : ACode} (h : prepC P N c = some (.seq x y)) : ∃ a b, c = .seq a b ∧ prepC P N a = some x ∧ prepC P N b = some y := by
  cases c with
  | seq a b =>
    simp only [prepC] at h
    split at h
    · rename_i h1 h2; cases h; exact ⟨a, b, rfl, h1, h2⟩
    · cases h
  | region id ops draw => simp only [prepC] at h; split at h <;> (try (split at h)) <;> (try (split at h)) <;> simp at h
  | _ => simp only [prepC] at h <;> (try (split at h)) <;> (try (split at h)) <;> (try (cases h; done)) <;> (simp at h)
theorem AWc.seq {x y : ACode} (h : AWc P N rd x st (onNormal (fun s => AWc P N rd y s Q) Q)) : AWc P N rd (.seq x y) st Q := by
  intro c hc ρ F m a w hF hA
  obtain ⟨c1, c2, rfl, h1, h2⟩ := prepC_seq hc
  refine wpIn_seq (wpIn_mono (h c1 h1 ρ F m a w hF hA) ?_)
  rintro e a' w' ⟨st', ρ', hq, hA', hE⟩
  cases e with
  | normal =>
    refine wpIn_mono (hq c2 h2 ρ' F m a' w' (hF.mono hE.ren) hA') ?_
    rintro e2 a2 w2 ⟨st2, ρ2, hq2, hA2, hE2⟩
    exact ⟨st2, ρ2, hq2, hA2, hE.trans hE2⟩
  | _ => exact ⟨st', ρ', hq, hA', hE⟩
theorem prepC_cond {c : Code} {cx : AX} {x y : ACode} (h : prepC P N c = some (.cond cx x y)) : ∃ c0 a b, c = .cond c0 a b ∧ prepX c0 = some cx ∧ prepC P N a = some x ∧ prepC P N b = some y := by
  cases c with
  | cond c0 a b =>
    simp only [prepC] at h
    split at h
    · rename_i h1 h2 h3; cases h; exact ⟨c0, a, b, rfl, h1, h2, h3⟩
    · cases h
  | region id ops draw => simp only [prepC] at h; split at h <;> (try (split at h)) <;> (try (split at h)) <;> simp at h
  | _ => simp only [prepC] at h <;> (try (split at h)) <;> (try (split at h)) <;> (try (cases h; done)) <;> (simp at h)
theorem AWc.cond {cx : AX} {x y : ACode} {t : Bool} (hc : cx.val st.T = .b t) (h : AWc P N rd (if t then x else y) st Q) : AWc P N rd (.cond cx x y) st Q := by
  intro c hp ρ F m a w hF hA
  obtain ⟨c0, c1, c2, rfl, h0, h1, h2⟩ := prepC_cond hp
  have hv := prepX_rel hA.tm h0
  rw [hc] at hv
  refine wpIn_cond (b_inv hv) ?_
  cases t
  · exact h c2 h2 ρ F m a w hF hA
  · exact h c1 h1 ρ F m a w hF hA
theorem prepC_block {c : Code} {id : Nat} {x : ACode} (h : prepC P N c = some (.block id x)) : ∃ a, c = .block id a ∧ prepC P N a = some x := by
  cases c with
  | block id' a => simp only [prepC] at h; obtain ⟨y, h1, h2⟩ := Option.map_eq_some_iff.1 h; cases h2; exact ⟨a, rfl, h1⟩
  | region id ops draw => simp only [prepC] at h; split at h <;> (try (split at h)) <;> (try (split at h)) <;> simp at h
  | _ => simp only [prepC] at h <;> (try (split at h)) <;> (try (split at h)) <;> (try (cases h; done)) <;> (simp at h)
theorem AWc.block {id : Nat} {x : ACode} (h : AWc P N rd x st (onBlock id Q)) : AWc P N rd (.block id x) st Q := by
  intro c hp ρ F m a w hF hA
  obtain ⟨c1, rfl, h1⟩ := prepC_block hp
  refine wpIn_block (wpIn_mono (h c1 h1 ρ F m a w hF hA) ?_)
  rintro e a' w' ⟨st', ρ', hq, hA', hE⟩
  cases e with
  | exit id' =>
    simp only [onBlock] at hq
    simp only [Exit.inBlock]
    split
    · rename_i he; rw [if_pos he] at hq; exact ⟨st', ρ', hq, hA', hE⟩
    · rename_i he; rw [if_neg he] at hq; exact ⟨st', ρ', hq, hA', hE⟩
  | _ => exact ⟨st', ρ', hq, hA', hE⟩
theorem prepC_exit {c : Code} {id : Nat} (h : prepC P N c = some (.exit id)) : c = .exit id := by
  cases c with
  | exit id' => simp only [prepC] at h; cases h; rfl
  | region id ops draw => simp only [prepC] at h; split at h <;> (try (split at h)) <;> (try (split at h)) <;> simp at h
  | _ => simp only [prepC] at h <;> (try (split at h)) <;> (try (split at h)) <;> (try (cases h; done)) <;> (simp at h)
theorem AWc.exit {id : Nat} (h : Q (.exit id) st) : AWc P N rd (.exit id) st Q := by
  intro c hp ρ F m a w hF hA
  obtain rfl := prepC_exit hp
  exact wpIn_exit (.here hA h)
theorem prepC_ret {c : Code} (h : prepC P N c = some .ret) : c = .ret := by
  cases c with
  | ret => rfl
  | region id ops draw => simp only [prepC] at h; split at h <;> (try (split at h)) <;> (try (split at h)) <;> simp at h
  | _ => simp only [prepC] at h <;> (try (split at h)) <;> (try (split at h)) <;> (try (cases h; done)) <;> (simp at h)
theorem AWc.ret (h : Q .ret st) : AWc P N rd .ret st Q := by
  intro c hp ρ F m a w hF hA
  obtain rfl := prepC_ret hp
  exact wpIn_ret (.here hA h)

/-! A body with labels that nothing jumps to by goto. -/
theorem stepR_scope {b : Frame} {a : Act} {k : List Item} {cs : List Frame} {w : World} {c : Code} :
    step P (lone (b.atR a (.code (.scope c) :: k)) cs w) = .next (lone (b.atR a (.code c :: .inScope c :: k)) cs w) :=
  step_lone_go (by simp [stepG, stepG.exec, Frame.atR])
theorem stepR_inScope {b : Frame} {a : Act} {k : List Item} {cs : List Frame} {w : World} {c : Code} :
    step P (lone (b.atR a (.inScope c :: k)) cs w) = .next (lone (b.atR a k) cs w) :=
  step_lone_go (by simp [stepG, stepG.exec, Frame.atR])
theorem wpIn_scope' {F : Fence} {n : Nat} {c : Code} {Q' : Exit → Act → World → Prop} {a : Act} {w : World} (h : c.wpIn F n P Q' a w) (hg : ∀ l a w, ¬ Q' (.goto l) a w) : (Code.scope c).wpIn F n P Q' a w := by
  intro b k cs hro hb hr
  have h0 : (lone (b.atR a (.code (.scope c) :: k)) cs w).fenced P F := fenced_calm hb hr rfl
  obtain ⟨e, a₁, w₁, hq, harr⟩ := h b (.inScope c :: k) cs hro hb hr
  cases e with
  | normal => exact ⟨.normal, a₁, w₁, hq, .head h0 stepR_scope (StepsIn.trans harr (.one (fenced_calm hb hr rfl) stepR_inScope))⟩
  | exit id =>
    have hx : exitTo id (.inScope c :: k) = exitTo id k := by simp [exitTo]
    exact ⟨_, a₁, w₁, hq, fun k' hk => .head h0 stepR_scope (harr.1 k' (by rw [hx]; exact hk)),
      fun hr' hk => let ⟨k₁, h1, h2⟩ := harr.2 hr' (by rw [hx]; exact hk); ⟨k₁, h1, .head h0 stepR_scope h2⟩⟩
  | goto l => exact absurd hq (hg l _ _)
  | ret => exact ⟨_, a₁, w₁, hq, .of_steps (.one h0 stepR_scope) harr⟩
  | panic ch => exact ⟨_, a₁, w₁, hq, .of_steps (.one h0 stepR_scope) harr⟩
  | outgrown => exact ⟨_, a₁, w₁, hq, .of_steps (.one h0 stepR_scope) harr⟩
theorem prepC_scope {c : Code} {x : ACode} (h : prepC P N c = some (.scope x)) : ∃ a, c = .scope a ∧ prepC P N a = some x := by
  cases c with
  | scope a => simp only [prepC] at h; obtain ⟨y, h1, h2⟩ := Option.map_eq_some_iff.1 h; cases h2; exact ⟨a, rfl, h1⟩
  | region id ops draw => simp only [prepC] at h; split at h <;> (try (split at h)) <;> (try (split at h)) <;> simp at h
  | _ => simp only [prepC] at h <;> (try (split at h)) <;> (try (split at h)) <;> (try (cases h; done)) <;> (simp at h)
def noGoto (Q : Exit → St → Prop) : Exit → St → Prop
  | .goto _, _ => False
  | e, s => Q e s
theorem AWc.scope {x : ACode} (h : AWc P N rd x st (noGoto Q)) : AWc P N rd (.scope x) st Q := by
  intro c hp ρ F m a w hF hA
  obtain ⟨c1, rfl, h1⟩ := prepC_scope hp
  refine wpIn_mono (wpIn_scope' (h c1 h1 ρ F m a w hF hA) ?_) ?_
  · rintro l a' w' ⟨st', ρ', hq, _⟩; exact hq
  · rintro e a' w' ⟨st', ρ', hq, h2⟩
    cases e <;> first | exact ⟨st', ρ', hq, h2⟩ | exact hq.elim

/-! the least number -/
theorem least_ex (p : Nat → Prop) (h : ∃ k, p k) : ∃ k, p k ∧ ∀ j, p j → k ≤ j := by
  obtain ⟨k, hk⟩ := h
  induction k using Nat.strongRecOn with
  | _ k ih =>
    by_cases hj : ∃ j, j < k ∧ p j
    · obtain ⟨j, h1, h2⟩ := hj; exact ih j h1 h2
    · exact ⟨k, hk, fun j h2 => Nat.le_of_not_lt fun h1 => hj ⟨j, h1, h2⟩⟩

noncomputable def leastN (p : Nat → Prop) : Nat := @dite _ (∃ k, p k) (Classical.propDecidable _) (fun h => Classical.choose (least_ex p h)) (fun _ => 0)
theorem leastN_spec {p : Nat → Prop} (h : ∃ k, p k) : p (leastN p) ∧ ∀ j, p j → leastN p ≤ j := by
  unfold leastN
  rw [dif_pos h]
  exact Classical.choose_spec (least_ex p h)

/-- Less is known of a state. -/
structure St.less (s₀ s : St) : Prop where
  T : Temps.less s₀.n s₀.T s.n s.T
  D : s₀.D = s.D
  Dlt : ∀ m ∈ s₀.D, m < s₀.n
  H : Heap.less s₀.n s₀.H s.n s.H
theorem MRel.cut {ρ : Ren} {n : Nat} : ∀ {D : List Nat} {ds : List Deferred}, MRel ρ D ds → (∀ m ∈ D, m < n) → MRel (ρ.cut n) D ds
  | [], [], _, _ => trivial
  | m :: _, _ :: _, ⟨⟨c, e, z, h1, h2⟩, r⟩, h => ⟨⟨c, e, z, by unfold Ren.cut; rw [if_pos (h m (by simp))]; exact h1, h2⟩, r.cut fun m hm => h m (by simp [hm])⟩
theorem ARel.less {ρ : Ren} {a : Act} {w : World} {s₀ s : St} (hA : ARel P ρ N s a w) (h : St.less s₀ s) : ARel P (ρ.cut s₀.n) N s₀ a w :=
  ⟨hA.tm.less hA.sim.cut_eq h.T, (h.D ▸ hA.mr).cut h.Dlt, hA.sim.less h.H⟩
theorem Post.less {ρ : Ren} {a' : Act} {w w' : World} {e : Exit} {K : St → Prop} (hs : Sim (prepC P) ρ st.n st.H w) {s₀ s : St} {ρ' : Ren} (hA : ARel P ρ' N s a' w') (hE : Ext ρ st.n st.H w ρ' s.n s.H w') (h : St.less s₀ s) (hn : st.n ≤ s₀.n) :
    ARel P (ρ'.cut s₀.n) N s₀ a' w' ∧ Ext ρ st.n st.H w (ρ'.cut s₀.n) s₀.n s₀.H w' := ⟨hA.less h, hE.less hs hn h.H⟩

theorem prepC_loop {c : Code} {x : ACode} (h : prepC P N c = some (.loop x)) : ∃ a, c = .loop a ∧ prepC P N a = some x := by
  cases c with
  | loop a => simp only [prepC] at h; obtain ⟨y, h1, h2⟩ := Option.map_eq_some_iff.1 h; cases h2; exact ⟨a, rfl, h1⟩
  | region id ops draw => simp only [prepC] at h; split at h <;> (try (split at h)) <;> (try (split at h)) <;> simp at h
  | _ => simp only [prepC] at h <;> (try (split at h)) <;> (try (split at h)) <;> (try (cases h; done)) <;> (simp at h)
/-- A loop: an invariant with a number that falls; at a round's end less may be known again. -/
theorem AWc.loop {x : ACode} (I : Nat → St → Prop) {k₀ : Nat} {s₀ : St} (h₀ : I k₀ s₀) (hless : St.less s₀ st) (hn : st.n ≤ s₀.n) (hI : ∀ k s, I k s → st.n ≤ s.n)
    (round : ∀ k s, I k s → AWc P N rd x s (onNormal (fun s' => ∃ j s'', j < k ∧ I j s'' ∧ St.less s'' s') Q)) : AWc P N rd (.loop x) st Q := by
  intro c hp ρ F m a w hF hA
  obtain ⟨c1, rfl, h1⟩ := prepC_loop hp
  let J : Nat → Act → World → Prop := fun k a' w' => ∃ s ρ', I k s ∧ ARel P ρ' N s a' w' ∧ Ext ρ st.n st.H w ρ' s.n s.H w'
  refine wpIn_loop (fun a' w' => ∃ k, J k a' w') (fun a' w' => leastN fun k => J k a' w') ?_ ?_
  · obtain ⟨q1, q2⟩ := Post.less (K := fun _ => True) (e := .normal) hA.sim hA (.refl ρ st.n st.H w) hless hn
    exact ⟨k₀, s₀, _, h₀, q1, q2⟩
  · rintro a1 w1 hJ
    obtain ⟨⟨s, ρ1, hI1, hA1, hE1⟩, hmin⟩ := leastN_spec hJ
    refine wpIn_mono (round _ s hI1 c1 h1 ρ1 F m a1 w1 (hF.mono hE1.ren) hA1) ?_
    rintro e a2 w2 ⟨s2, ρ2, hq, hA2, hE2⟩
    have hE := hE1.trans hE2
    cases e with
    | normal =>
      obtain ⟨j, s3, hj, hI3, hl⟩ := hq
      obtain ⟨q1, q2⟩ := Post.less (K := fun _ => True) (e := .normal) hA.sim hA2 hE hl (hI _ _ hI3)
      have hJ2 : J j a2 w2 := ⟨s3, _, hI3, q1, q2⟩
      exact ⟨⟨j, hJ2⟩, Nat.lt_of_le_of_lt ((leastN_spec ⟨j, hJ2⟩).2 j hJ2) hj⟩
    | _ => exact ⟨s2, ρ2, hq, hA2, hE⟩
end rules
end Go.Proofs.Ytpgelghkjiejlaa
end
section
namespace Go.Proofs.Ytpgelghkjiejlaa
open Go

def EntersF (P : Program) (f : FuncId) : Prop := ∀ (args : Array Value) (w : World), (callFunc f args).run P w = .ok (.enter f args) w
/-- What a call answers: K of the value, the next id and the heap. -/
def ACalls (P : Program) (f : FuncId) (args : List V) (n : Nat) (H : Heap) (K : V → Nat → Heap → Prop) : Prop :=
  EntersF P f ∧ ∀ (ρ : Ren) (w : World) (args' : Array Value), Sim (prepC P) ρ n H w → VRelL ρ args args'.toList → Calls P f args' w fun e w' =>
    ∃ v n' H' ρ' y, K v n' H' ∧ e = .returned y ∧ VRel ρ' v y ∧ Sim (prepC P) ρ' n' H' w' ∧ Ext ρ n H w ρ' n' H' w'
theorem ACalls.mono {P : Program} {f : FuncId} {args : List V} {n : Nat} {H : Heap} {K K' : V → Nat → Heap → Prop} (h : ACalls P f args n H K) (hk : ∀ v n' H', K v n' H' → K' v n' H') : ACalls P f args n H K' :=
  ⟨h.1, fun ρ w args' hs hr => (h.2 ρ w args' hs hr).mono fun e w' ⟨v, n', H', ρ', y, h1, h2⟩ => ⟨v, n', H', ρ', y, hk _ _ _ h1, h2⟩⟩

def putT (T : Temps) (dst : Option Nat) (v : V) : Temps :=
  match dst with
  | some d => aput T d v
  | none => T
def putAll : Temps → List Nat → List V → Temps
  | T, d :: ds, v :: vs => putAll (aput T d v) ds vs
  | T, _, _ => T
/-- Does an operation run? -/
def guardOf (T : Temps) : Option (Option Nat × Bool) → Option Bool
  | none => some true
  | some (some t, want) => match aget T t with | some (.b x) => some (x == want) | _ => none
  | some (none, _) => none

/-- A call of yield: a round of the loop l. -/
def YCalls (P : Program) (l : Nat) (args : List V) (n : Nat) (H : Heap) (K : V → Nat → Heap → Prop) : Prop :=
  ∃ r, aget H l = some (.loop r) ∧ r.params.length = args.length ∧ (∀ d ∈ r.params, d < r.N) ∧
    AWc P r.N (some l) r.assign ⟨putAll r.T r.params args, [], n, H⟩ (fun e s => e = .normal ∧ s.D = [] ∧ ∃ r1, aget s.H l = some (.loop r1) ∧ r1.st = .ready ∧
      AWc P r.N (some l) r.body ⟨s.T, [], s.n, aput s.H l (.loop { r1 with st := .busy })⟩ (fun e2 s2 => ∃ r2, aget s2.H l = some (.loop r2) ∧
        match e2 with
        | .normal => K (.b true) s2.n (aput s2.H l (.loop { r2 with st := .ready, pend := none }))
        | .ret => K (.b false) s2.n (aput s2.H l (.loop { r2 with st := .done, pend := some .ret }))
        | .exit id => K (.b false) s2.n (aput s2.H l (.loop { r2 with st := .done, pend := some (.exit id) }))
        | _ => False))
def callV (P : Program) (g : V) (args : List V) (n : Nat) (H : Heap) (K : V → Nat → Heap → Prop) : Prop :=
  match g with
  | .fn f first caps => ACalls P f (first ++ args ++ caps) n H K
  | .yl l => YCalls P l args n H K
  | _ => False
def opsF (P : Program) : List AOper → St → (St → Prop) → Prop
  | [], st, K => K st
  | o :: os, st, K =>
    match guardOf st.T o.guard with
    | some false => opsF P os { st with T := putT st.T o.dst .un } K
    | some true =>
      match o.op with
      | .call g args => callV P (g.val st.T) (args.map (·.val st.T)) st.n st.H fun v n' H' => opsF P os ⟨putT st.T o.dst v, st.D, n', H'⟩ K
      | op =>
        match evalOp st.T st.n st.H op with
        | some (v, n', H') => opsF P os ⟨putT st.T o.dst v, st.D, n', H'⟩ K
        | none => False
    | none => False

section rules
variable {P : Program} {N : Nat}
theorem TRel.put {ρ : Ren} {T : Temps} {tmps : Array Value} (r : TRel ρ N T tmps) {v : V} {y : Value} (h : VRel ρ v y) (dst : Option Nat) (hd : dstOk N dst = true) (a : Act) (ha : a.tmps = tmps) :
    TRel ρ N (putT T dst v) (a.put dst y).tmps := by
  subst ha
  cases dst with
  | none => exact r
  | some d =>
    simp only [dstOk, decide_eq_true_eq] at hd
    refine ⟨by simp [Act.put, r.1], fun i v' hv => ?_⟩
    simp only [putT, aget_put] at hv
    simp only [Act.put]
    by_cases hi : d = i
    · subst hi
      rw [if_pos rfl] at hv
      cases hv
      exact ⟨y, by rw [Array.getElem?_setIfInBounds_self_of_lt (by rw [r.1]; exact hd)], h⟩
    · rw [if_neg hi] at hv
      rw [Array.getElem?_setIfInBounds_ne hi]
      exact r.2 i v' hv
theorem put_defers (a : Act) (dst : Option Nat) (y : Value) : (a.put dst y).defers = a.defers := by cases dst <;> rfl
theorem prepOp_ne_defer {o : Op} {ao : AOp} (h : prepOp P o = some ao) : ∀ c, o ≠ .defer c := by
  rintro c rfl
  cases h
theorem not_call_of_prep {o : Op} {ao : AOp} (h : prepOp P o = some ao) (hn : ∀ g l, ao ≠ .call g l) (hc : ∀ c, o = .call c → ∃ b, c.callee = .builtin b) : True := trivial
theorem evalOp_about {o : Oper} {ao : AOp} (h : prepOp P o.op = some ao) {w : World} {a : Act} {F : Fence} (hF : ∀ f, F.fn f) : ∀ f, o.about P w a.eval = some f → F.fn f := fun f _ => hF f

/-- What is asked at the calls: the rest, whatever they answer. -/
theorem callV_sound {ρ : Ren} {a : Act} {st : St} {w : World} {rd : Option Nat} {F : Fence} {m : Nat} (hF : FRel ρ rd F) (htm0 : TRel ρ N st.T a.tmps) (hsim0 : Sim (prepC P) ρ st.n st.H w) {o : Oper} {c : Call} {f : Operand} {g : AX} {l : List AX} (ho : o.op = .call c) (hcal : c.callee = .value f)
    (hf : prepX f = some g) (hl : prepXs c.args.toList = some l) {K : V → Nat → Heap → Prop} (h : callV P (g.val st.T) (l.map (·.val st.T)) st.n st.H K) (next : Act → World → Prop) (Q : Exit → Act → World → Prop)
    (hnext : ∀ v n' H' ρ' y w', K v n' H' → VRel ρ' v y → Sim (prepC P) ρ' n' H' w' → Ext ρ st.n st.H w ρ' n' H' w' → next (a.put o.dst y) w') :
    o.uponIn F m P a next Q ((execOp a.eval o).run P w) := by
  have hg := prepX_rel htm0 hf
  have hr := prepXs_rel htm0 hl
  have hex : (execOp a.eval o).run P w = (do let d ← resolve a.eval c o.type; invoke d.target d.args : Sem Next).run P w := by
    unfold execOp
    rw [ho]
  unfold callV at h
  split at h
  · -- a function
    rename_i fid first caps hgv
    rw [hgv] at hg
    generalize hfv : a.eval f = fv at hg
    cases hg with
    | @fn _ _ _ ys vs hl1 h1 hl2 h2 =>
    have hinv : (execOp a.eval o).run P w = .ok (.enter fid (ys ++ c.args.map a.eval ++ vs)) w := by
      rw [hex]
      simp only [resolve, hcal, hfv, Deferred.ofValue, Sem.run_bind, Sem.run_pure, Result.andThen_ok, invoke]
      exact h.1 _ w
    rw [hinv, Oper.uponIn_enter]
    refine ⟨(fun hd => by rw [hF.depth] at hd; cases hd), ?_⟩
    have hrel : VRelL ρ (first ++ l.map (·.val st.T) ++ caps) (ys ++ c.args.map a.eval ++ vs).toList := by
      simp only [Array.toList_append]
      exact ((VRelL.of_array hl1 h1).append (by simpa using hr)).append (VRelL.of_array hl2 h2)
    have hcall := (callsIn_wide (n := m - 1)).2 (h.2 ρ w _ hsim0 hrel)
    have hmono : ∀ e w', (∃ v n' H' ρ' y, K v n' H' ∧ e = Ending.returned y ∧ VRel ρ' v y ∧ Sim (prepC P) ρ' n' H' w' ∧ Ext ρ st.n st.H w ρ' n' H' w') →
        (match e, w' with
          | .returned v, w'' => next (a.put o.dst v) w''
          | .panicked chain, w'' => Q (.panic chain) a w''
          | .outgrown, _ => LetsOut Q) := by
      rintro e w' ⟨v, n', H', ρ', y, k1, rfl, k2, k3, k4⟩
      exact hnext v n' H' ρ' y w' k1 k2 k3 k4
    have hcall2 := CallsIn.mono hcall hmono
    cases rd with
    | none => cases hF; exact hcall2
    | some l0 => obtain ⟨c0, d0, z0, _, rfl⟩ := hF; exact hcall2
  · -- yield
    rename_i l0 hgv
    rw [hgv] at hg
    generalize hfv : a.eval f = fv at hg
    cases hg with
    | @yl _ cb d z hρ =>
    obtain ⟨r, hb, hlen, hpar, hassign⟩ := h
    obtain ⟨c', d', z', e', L, hL, lr⟩ := hsim0.blk l0 _ hb
    rw [hρ] at e'
    cases e'
    have hargs : (c.args.map a.eval).size = L.params.size := by
      have h1 := hr.1
      have h2 := lr.params
      have : L.params.size = r.params.length := by rw [← h2]; simp
      simp at h1 ⊢
      rw [List.length_map] at hlen
      omega
    have hgl : (Instr.getLoop cb).run P w = .ok L w := by
      simp [Instr.getLoop, getObj, Sem.run, hL]
    have hinv : (execOp a.eval o).run P w = .ok (.round cb L.fn ((L.params.zip (c.args.map a.eval)).foldl (fun tmps (t, a) => tmps.setIfInBounds t a) L.tmps) L.assign L.body) w := by
      rw [hex]
      simp only [resolve, hcal, hfv, Deferred.ofValue, Sem.run_bind, Sem.run_pure, Result.andThen_ok, invoke, Instr.yield, hgl, Array.empty_append]
      rw [if_neg (by simpa using hargs)]
      rfl
    rw [hinv, Oper.uponIn_round]
    refine ⟨(fun hd => by rw [hF.depth] at hd; cases hd), ?_⟩
    have hFl : F.inRound cb = Fence.wide.inRound cb := by
      cases rd with
      | none => cases hF; rfl
      | some l1 => obtain ⟨c0, d0, z0, _, rfl⟩ := hF; rfl
    refine roundIn_of_wpIn (hF.fn _) ?_
    rw [hFl]
    have hFR : FRel ρ (some l0) (Fence.wide.inRound cb) := ⟨cb, d, z, hρ, rfl⟩
    have htm : TRel ρ r.N (putAll r.T r.params (l.map (·.val st.T))) ((L.params.zip (c.args.map a.eval)).foldl (fun tmps (t, a) => tmps.setIfInBounds t a) L.tmps) := by
      have hgen : ∀ (ps : List Nat) (vs : List V) (ys : List Value) (T : Temps) (tmps : Array Value), VRelL ρ vs ys → (∀ d ∈ ps, d < r.N) → TRel ρ r.N T tmps → TRel ρ r.N (putAll T ps vs) ((ps.zip ys).foldl (fun tmps (t, a) => tmps.setIfInBounds t a) tmps) := by
        intro ps
        induction ps with
        | nil => intro vs ys T tmps _ _ h; cases vs <;> exact h
        | cons p ps ih =>
          intro vs ys T tmps hv hp h
          cases vs with
          | nil => obtain rfl := hv.nil_inv; exact h
          | cons v vs =>
            obtain ⟨y, yt, rfl, h1, h2⟩ := hv.cons_inv
            simp only [putAll, List.zip_cons_cons, List.foldl_cons]
            exact ih vs yt _ _ h2 (fun d hd => hp d (by simp [hd])) (TRel.put h h1 (some p) (by simpa [dstOk] using hp p (by simp)) { tmps, defers := [] } rfl)
      have := hgen r.params (l.map (·.val st.T)) (c.args.toList.map a.eval) r.T L.tmps hr hpar lr.tm
      have h2 : L.params.zip (c.args.map a.eval) = (r.params.zip (c.args.toList.map a.eval)).toArray := by
        apply Array.ext'
        simp [← lr.params, Array.toList_zip]
      rw [h2]
      simpa using this
    have hA1 : ARel P ρ r.N ⟨putAll r.T r.params (l.map (·.val st.T)), [], st.n, st.H⟩ { tmps := (L.params.zip (c.args.map a.eval)).foldl (fun tmps (t, a) => tmps.setIfInBounds t a) L.tmps, defers := [] } w := ⟨htm, trivial, hsim0⟩
    refine wpIn_mono (hassign L.assign lr.assign ρ _ (m - 1) _ w hFR hA1) ?_
    rintro e1 a1 w1 ⟨s1, ρ1, ⟨rfl, hD1, r1, hb1, hst1, hbody⟩, hA2, hE1⟩
    have hρ1 := hE1.ren _ _ hρ
    obtain ⟨c1, d1, z1, e1, L1, hL1, lr1⟩ := hA2.sim.blk l0 _ hb1
    rw [hρ1] at e1
    cases e1
    have hbr : (Instr.beginRound cb).run P w1 = .ok () (setBlk w1 cb (.loop { L1 with state := .busy })) := by
      have : L1.state = .ready := lr1.st.trans hst1
      simp [Instr.beginRound, Instr.getLoop, getObj, setObj, Sem.run, hL1, this, setBlk]
    refine ⟨_, hbr, ?_⟩
    obtain ⟨q1, q2⟩ := hA2.sim.update (k' := .loop { r1 with st := .busy }) hb1 rfl rfl hρ1 (.loop { L1 with state := .busy }) ⟨{ L1 with state := .busy }, by rw [setBlk_get _ _ _ _ (lt_of_get hL1), if_pos rfl], ⟨rfl, lr1.pend, lr1.tm, lr1.params, lr1.assign, lr1.body, lr1.marks⟩⟩
    have hmk1 : MRel ρ1 [] a1.defers := hD1 ▸ hA2.mr
    have hA3 : ARel P ρ1 r.N ⟨s1.T, [], s1.n, aput s1.H l0 (.loop { r1 with st := .busy })⟩ a1 (setBlk w1 cb (.loop { L1 with state := .busy })) := ⟨hA2.tm, hmk1, q1⟩
    have hFR1 : FRel ρ1 (some l0) (Fence.wide.inRound cb) := ⟨cb, d, z, hρ1, rfl⟩
    refine wpIn_mono (hbody L.body lr.body ρ1 _ (m - 1) a1 _ hFR1 hA3) ?_
    rintro e2 a2 w2 ⟨s2, ρ2, ⟨r2, hb2, hend⟩, hA4, hE2⟩
    have hρ2 := hE2.ren _ _ hρ1
    obtain ⟨c2, d2, z2, e2', L2, hL2, lr2⟩ := hA4.sim.blk l0 _ hb2
    rw [hρ2] at e2'
    cases e2'
    have hE := (hE1.trans q2).trans hE2
    have hendr : ∀ (j : Option AJump), (Instr.endRound cb (j.map AJump.code)).run P w2 = .ok (.bool (j.map AJump.code).isNone) (setBlk w2 cb (.loop { L2 with state := if (j.map AJump.code).isNone then .ready else .done, pending := j.map AJump.code })) := by
      intro j
      simp [Instr.endRound, Instr.getLoop, getObj, setObj, Sem.run, hL2, setBlk]
    have hupd : ∀ (j : Option AJump), Sim (prepC P) ρ2 s2.n (aput s2.H l0 (.loop { r2 with st := if j.isNone then .ready else .done, pend := j })) (setBlk w2 cb (.loop { L2 with state := if (j.map AJump.code).isNone then .ready else .done, pending := j.map AJump.code })) ∧
        Ext ρ2 s2.n s2.H w2 ρ2 s2.n (aput s2.H l0 (.loop { r2 with st := if j.isNone then .ready else .done, pend := j })) (setBlk w2 cb (.loop { L2 with state := if (j.map AJump.code).isNone then .ready else .done, pending := j.map AJump.code })) := by
      intro j
      refine hA4.sim.update (k' := .loop { r2 with st := if j.isNone then .ready else .done, pend := j }) hb2 rfl rfl hρ2 _ ⟨{ L2 with state := if (j.map AJump.code).isNone then .ready else .done, pending := j.map AJump.code }, by rw [setBlk_get _ _ _ _ (lt_of_get hL2), if_pos rfl], ⟨?_, rfl, lr2.tm, lr2.params, lr2.assign, lr2.body, lr2.marks⟩⟩
      cases j <;> rfl
    cases e2 with
    | normal =>
      obtain ⟨u1, u2⟩ := hupd none
      refine ⟨_, _, hendr none, ?_⟩
      exact hnext (.b true) _ _ ρ2 (.bool true) _ hend (.b true) u1 (hE.trans u2)
    | ret =>
      obtain ⟨u1, u2⟩ := hupd (some .ret)
      refine ⟨_, _, hendr (some .ret), ?_⟩
      exact hnext (.b false) _ _ ρ2 (.bool false) _ hend (.b false) u1 (hE.trans u2)
    | exit id =>
      obtain ⟨u1, u2⟩ := hupd (some (.exit id))
      refine ⟨_, _, hendr (some (.exit id)), ?_⟩
      exact hnext (.b false) _ _ ρ2 (.bool false) _ hend (.b false) u1 (hE.trans u2)
    | _ => exact hend.elim
  · exact h.elim

/-- What holds behind code that began in some state over w0, of which this is a later one. -/
def PostX (P : Program) (N : Nat) (ρ0 : Ren) (n0 : Nat) (H0 : Heap) (w0 : World) (K : St → Prop) (e : Exit) (a' : Act) (w' : World) : Prop :=
  e = .normal ∧ ∃ st' ρ', K st' ∧ ARel P ρ' N st' a' w' ∧ Ext ρ0 n0 H0 w0 ρ' st'.n st'.H w'
theorem wanted_of {ρ : Ren} {T : Temps} {tmps : Array Value} (tr : TRel ρ N T tmps) {ops : Array Oper} {o : Oper} {b : Bool} (h : guardOf T (o.guard.map fun (j, b) => ((ops[j]?).bind (·.dst), b)) = some b) : Region.wanted o (yielded ops tmps) = b := by
  unfold Region.wanted
  cases hg : o.guard with
  | none => rw [hg] at h; cases h; rfl
  | some g =>
    obtain ⟨j, want⟩ := g
    rw [hg] at h
    simp only [Option.map_some] at h
    unfold guardOf at h
    cases hd : (ops[j]?).bind (·.dst) with
    | none => rw [hd] at h; cases h
    | some t =>
      rw [hd] at h
      simp only at h
      split at h
      · rename_i x hx
        cases h
        obtain ⟨y, hy, hr⟩ := tr.2 t _ hx
        have hyb := b_inv hr
        subst hyb
        have : yielded ops tmps j = some x := by
          unfold yielded
          rw [hd]
          simp [hy]
        simp only [this]
        cases x <;> cases want <;> rfl
      · cases h
theorem prepOpers_get {ops : Array Oper} : ∀ {os : List Oper} {l : List AOper}, prepOpers P N ops os = some l → l.length = os.length ∧ ∀ (j : Nat) o ao, os[j]? = some o → l[j]? = some ao → prepOper P N ops o = some ao := by
  intro os
  induction os with
  | nil => intro l h; cases h; exact ⟨rfl, fun j o ao h => by simp at h⟩
  | cons o os ih =>
    intro l h
    simp only [prepOpers] at h
    split at h
    · rename_i x l' h1 h2
      cases h
      obtain ⟨q1, q2⟩ := ih h2
      refine ⟨by simp [q1], fun j o' ao ho ha => ?_⟩
      cases j with
      | zero => simp at ho ha; subst ho; subst ha; exact h1
      | succ j => exact q2 j o' ao (by simpa using ho) (by simpa using ha)
    · cases h
theorem prepOper_inv {ops : Array Oper} {o : Oper} {ao : AOper} (h : prepOper P N ops o = some ao) :
    prepOp2 P o.op = some ao.op ∧ ao.dst = o.dst ∧ dstOk N o.dst = true ∧ ao.guard = o.guard.map fun (j, b) => ((ops[j]?).bind (·.dst), b) := by
  unfold prepOper at h
  split at h
  · rename_i x hx
    split at h
    · rename_i hd
      cases h
      exact ⟨hx, rfl, hd, rfl⟩
    · cases h
  · cases h
/-- A call's preparation. -/
theorem prepOp2_call {o : Op} {g : AX} {l : List AX} (h : prepOp2 P o = some (.call g l)) : ∃ c f, o = .call c ∧ c.callee = .value f ∧ prepX f = some g ∧ prepXs c.args.toList = some l := by
  unfold prepOp2 at h
  split at h
  · rename_i f l' hv
    split at h
    · rename_i g' l2 h1 h2
      cases h
      unfold valCall at hv
      split at hv
      · rename_i c
        split at hv
        · rename_i f' hc
          cases hv
          exact ⟨c, _, rfl, hc, h1, h2⟩
        · cases hv
      · cases hv
    · cases h
  · split at h
    · rename_i ao ha
      split at h
      · cases h
      · rename_i hc; cases h; simp [AOp.isCall] at hc
    · cases h
theorem prepOp2_other {o : Op} {ao : AOp} (h : prepOp2 P o = some ao) (hn : ∀ g l, ao ≠ .call g l) : prepOp P o = some ao := by
  unfold prepOp2 at h
  split at h
  · split at h
    · cases h; exact absurd rfl (hn _ _)
    · cases h
  · split at h
    · rename_i ao' ha
      split at h
      · cases h
      · cases h; exact ha
    · cases h
theorem wpOpsIn_post {F : Fence} {m : Nat} {ops : Array Oper} {Q Q' : Exit → Act → World → Prop} (hq : ∀ e a w, Q e a w → Q' e a w) : ∀ {is : List Nat} {a : Act} {w : World}, wpOpsIn F m P ops Q is a w → wpOpsIn F m P ops Q' is a w := by
  intro is
  induction is with
  | nil => intro a w h; exact hq _ _ _ h
  | cons i is ih =>
    intro a w h
    simp only [wpOpsIn] at h ⊢
    cases hi : ops[i]? with
    | none => rw [hi] at h; exact ih h
    | some o =>
      rw [hi] at h
      simp only at h ⊢
      split
      · rename_i hw
        rw [if_pos hw] at h
        refine ⟨h.1, ?_⟩
        have h2 := h.2
        generalize (o.semAt F.round a.eval).run P w = r at h2
        have hlet : LetsOut Q → LetsOut Q' := fun ⟨a, w, h⟩ => ⟨a, w, hq _ _ _ h⟩
        cases r with
        | ok x w' =>
          cases x <;> simp only [Oper.uponIn] at h2 ⊢ <;>
            first
              | exact ih h2
              | exact ⟨h2.1, CallsIn.mono h2.2 (fun e w'' he => by cases e <;> first | exact ih he | exact hq _ _ _ he | exact hlet he)⟩
              | exact ⟨h2.1, RowsIn.mono h2.2 (fun _ _ he => ih he)⟩
              | exact ⟨h2.1, RoundIn.mono h2.2 (fun e w'' he => by cases e <;> first | exact ih he | exact hq _ _ _ he | exact hlet he)⟩
        | halt x w' => cases x <;> simp only [Oper.uponIn] at h2 ⊢ <;> exact hq _ _ _ h2
      · rename_i hw
        rw [if_neg hw] at h
        exact ⟨h.1, ih h.2⟩
theorem opsF_sound {ops : Array Oper} {rd : Option Nat} {ρ0 : Ren} {n0 : Nat} {H0 : Heap} {w0 : World} {K : St → Prop} : ∀ (os : List Oper) (l : List AOper) (k : Nat), (∀ j, os[j]? = ops[k + j]?) → prepOpers P N ops os = some l →
    ∀ (st : St) (ρ : Ren) (F : Fence) (m : Nat) (a : Act) (w : World), opsF P l st K → FRel ρ rd F → ARel P ρ N st a w → Ext ρ0 n0 H0 w0 ρ st.n st.H w →
      wpOpsIn F m P ops (PostX P N ρ0 n0 H0 w0 K) (List.range' k os.length) a w := by
  intro os
  induction os with
  | nil =>
    intro l k _ hp st ρ F m a w h hF hA hE
    cases hp
    exact ⟨rfl, st, ρ, h, hA, hE⟩
  | cons o os ih =>
    intro l k hk hp st ρ F m a w h hF hA hE
    simp only [prepOpers] at hp
    split at hp
    · rename_i ao l' h1 h2
      cases hp
      have hk0 : ops[k]? = some o := by simpa using (hk 0).symm
      have hk' : ∀ j, os[j]? = ops[k + 1 + j]? := fun j => by have := hk (j + 1); simpa [Nat.add_assoc, Nat.add_comm 1 j] using this
      obtain ⟨p1, p2, p3, p4⟩ := prepOper_inv h1
      rw [List.length_cons, List.range'_succ]
      simp only [wpOpsIn, hk0]
      unfold opsF at h
      split at h
      · -- not wanted
        rename_i hg
        rw [p4] at hg
        have hw := wanted_of hA.tm hg
        rw [hw]
        simp only [Bool.false_eq_true, if_false]
        refine ⟨fun f _ => hF.fn f, ih l' (k + 1) hk' h2 _ ρ F m _ w h hF ⟨?_, ?_, hA.sim⟩ hE⟩
        · rw [p2]; exact hA.tm.put (.un _) o.dst p3 a rfl
        · rw [put_defers]; exact hA.mr
      · rename_i hg
        rw [p4] at hg
        have hw := wanted_of hA.tm hg
        rw [hw]
        simp only [if_true, Oper.wpIn]
        refine ⟨fun f _ => hF.fn f, ?_⟩
        split at h
        · rename_i g args hop
          rw [hop] at p1
          obtain ⟨c, f, e1, e2, e3, e4⟩ := prepOp2_call p1
          rw [Oper.semAt_eq _ _ _ (by rw [e1]; intro c h; cases h)]
          refine callV_sound hF hA.tm hA.sim e1 e2 e3 e4 h _ _ ?_
          intro v n' H' ρ' y w' hK hv hs hx
          refine ih l' (k + 1) hk' h2 _ ρ' F m _ w' hK (hF.mono hx.ren) ⟨?_, ?_, hs⟩ (hE.trans hx)
          · rw [p2]; exact (hA.tm.mono hx.ren).put hv o.dst p3 a rfl
          · rw [put_defers]; exact hA.mr.mono hx.ren
        · rename_i hncall
          have p1' := prepOp2_other p1 hncall
          rw [Oper.semAt_eq _ _ _ (prepOp_ne_defer p1')]
          split at h
          · rename_i v n' H' hev
            obtain ⟨nx, y, w', ρ', hrun, hnx, hv, hs, hx⟩ := evalOp_sound hA.tm hA.sim p1' hev
            rw [hrun]
            have hgo : wpOpsIn F m P ops (PostX P N ρ0 n0 H0 w0 K) (List.range' (k + 1) os.length) (a.put o.dst y) w' := by
              refine ih l' (k + 1) hk' h2 _ ρ' F m _ w' h (hF.mono hx.ren) ⟨?_, ?_, hs⟩ (hE.trans hx)
              · rw [p2]; exact (hA.tm.mono hx.ren).put hv o.dst p3 a rfl
              · rw [put_defers]; exact hA.mr.mono hx.ren
            rcases hnx with rfl | ⟨rfl, rfl⟩
            · exact hgo
            · exact hgo
          · exact h.elim
      · exact h.elim
    · cases hp
theorem prepC_ops {c : Code} {dr : Option (List Nat)} {l : List AOper} (h : prepC P N c = some (.ops dr l)) : ∃ id ops draw, c = .region id ops draw ∧ prepOpers P N ops ops.toList = some l ∧
    (dr = none ∧ draw = false ∨ ∃ b, dr = some b ∧ draw = true ∧ P.follows .mixedOrders = true ∧ befores ops.toList [] = some b) := by
  cases c with
  | region id ops draw =>
    simp only [prepC] at h
    split at h
    · rename_i l' h1
      split at h
      · rename_i hd
        split at h
        · rename_i hm
          obtain ⟨b, h2, h3⟩ := map_inv h
          cases h3
          exact ⟨id, ops, draw, rfl, h1, .inr ⟨b, rfl, hd, hm, h2⟩⟩
        · cases h
      · rename_i hd
        cases h
        exact ⟨id, ops, draw, rfl, h1, .inl ⟨rfl, by simpa using hd⟩⟩
    · cases h
  | _ => simp only [prepC] at h <;> (try (split at h)) <;> (try (split at h)) <;> (try (cases h; done)) <;> (simp at h)
theorem AWc.ops {rd : Option Nat} {st : St} {Q : Exit → St → Prop} {l : List AOper} (h : opsF P l st (Q .normal)) : AWc P N rd (.ops none l) st Q := by
  intro c hp ρ F m a w hF hA
  obtain ⟨id, ops, draw, rfl, h1, ⟨_, rfl⟩ | ⟨b, hb, _⟩⟩ := prepC_ops hp
  · refine wpIn_region ?_
    have := opsF_sound (ops := ops) (rd := rd) (K := Q .normal) ops.toList l 0 (fun j => by simp) h1 st ρ F m a w h hF hA (.refl _ _ _ _)
    rw [Array.length_toList, ← List.range_eq_range'] at this
    have hmono : ∀ (is : List Nat) (a : Act) (w : World), wpOpsIn F m P ops (PostX P N ρ st.n st.H w (Q .normal)) is a w → True := fun _ _ _ _ => trivial
    refine wpOpsIn_post ?_ this
    rintro e a' w' ⟨rfl, st', ρ', q1, q2, q3⟩
    exact ⟨st', ρ', q1, q2, q3⟩
  · cases hb
end rules
end Go.Proofs.Ytpgelghkjiejlaa
end
section
namespace Go.Proofs.Ytpgelghkjiejlaa
open Go

inductive ResA where
  | t (i : Nat)
  | cell (agg : Bool) (sz : Nat) (a : Nat)
structure AFun where
  N : Nat
  res : List ResA
  body : ACode
def prepRes (P : Program) : List ResultVar → Option (List ResA)
  | [] => some []
  | .tmp t :: r => (prepRes P r).map (.t t :: ·)
  | .cell a t :: r =>
    match aggL P t, sizeL P t, prepRes P r with
    | some g, some s, some l => some (.cell g s a :: l)
    | _, _, _ => none
def prepF (P : Program) (f : FuncId) : Option AFun :=
  match P.funcs[f]? with
  | some fn =>
    if fn.name == "runtime.NumGoroutine" then none else
    match fn.body with
    | some c => match prepC P fn.ntmps c, prepRes P fn.results.toList with | some ac, some r => some ⟨fn.ntmps, r, ac⟩ | _, _ => none
    | none => none
  | none => none
def argsT : Nat → List V → Temps
  | _, [] => []
  | k, v :: r => (k, v) :: argsT (k + 1) r
def ldV (H : Heap) (agg : Bool) (sz : Nat) : V → Option V
  | .p id off =>
    match aget H id with
    | some (.row _ cs) => if agg then (if off + sz ≤ cs.length then some (.ag ((cs.drop off).take sz)) else none) else cs[off]?
    | _ => none
  | _ => none
theorem evLd_ldV (n : Nat) (H : Heap) (g : Bool) (sz : Nat) (p : V) : evLd n H g sz p = (ldV H g sz p).map fun v => (v, n, H) := by
  cases p <;> try rfl
  rename_i id off
  simp only [evLd, ldV]
  cases aget H id with
  | none => rfl
  | some k =>
    cases k with
    | row own cs =>
      simp only
      cases g
      · simp only [Bool.false_eq_true, if_false]
        cases cs[off]? <;> rfl
      · simp only [if_true]
        split <;> rfl
    | _ => rfl
def resOne (T : Temps) (H : Heap) : ResA → Option V
  | .t i => aget T i
  | .cell g s a =>
    match aget T a with
    | some p => ldV H g s p
    | none => none
def resAll (T : Temps) (H : Heap) : List ResA → Option (List V)
  | [] => some []
  | r :: rs => match resOne T H r, resAll T H rs with | some v, some l => some (v :: l) | _, _ => none
def resV : List V → V
  | [v] => v
  | vs => .tu vs
def delAll : Heap → List Nat → Heap
  | H, [] => H
  | H, m :: ms => delAll (adel H m) ms

section rules
variable {P : Program} {N : Nat}
theorem Sim.take {pc : PrepC} {ρ : Ren} {n : Nat} {H : Heap} {w : World} (s : Sim pc ρ n H w) {m c d z : Nat} {k : Blk} (hm : aget H m = some k) (hk : k.own = true) (hρ : ρ m = some (c, d, z)) (o : Obj) :
    Sim pc ρ n (adel H m) (setBlk w c o) ∧ Ext ρ n H w ρ n (adel H m) (setBlk w c o) := by
  have hc : c < w.heap.size := (s.sup m _ hρ).2
  have hget : ∀ b j, aget (adel H m) b = some j → b ≠ m ∧ aget H b = some j := fun b j h => by
    rw [aget_del] at h
    split at h
    · cases h
    · rename_i hb; exact ⟨fun e => hb e.symm, h⟩
  refine ⟨⟨fun b x hb => by rw [setBlk_size]; exact s.sup b x hb, fun b j hb => ?_, fun b1 b2 k1 k2 x1 x2 h1 h2 => s.inj b1 b2 k1 k2 x1 x2 (hget _ _ h1).2 (hget _ _ h2).2⟩, ⟨Nat.le_refl _, .refl _, fun _ _ _ h => h, rfl, rfl, rfl, Nat.le_refl _, by simp, fun e he hno => ?_, fun e ⟨b, k, x, h1, h2⟩ => .inl ⟨b, k, x, (hget _ _ h1).2, h2⟩⟩⟩
  · obtain ⟨hb1, hb2⟩ := hget b j hb
    obtain ⟨c', d', z', e, r⟩ := s.blk b j hb2
    refine ⟨c', d', z', e, r.mono (.refl _) ?_⟩
    rw [setBlk_get _ _ _ _ hc, if_neg]
    rintro rfl
    exact hb1 (s.inj m b _ j _ _ hm hb2 hρ e rfl hk).symm
  · rw [setBlk_get _ _ _ _ hc, if_neg]
    rintro rfl
    exact hno ⟨m, _, _, hm, hk, hρ, rfl⟩

theorem resOne_run {ρ : Ren} {T : Temps} {H : Heap} {n : Nat} {w : World} {tmps : Array Value} (tr : TRel ρ N T tmps) (s : Sim (prepC P) ρ n H w) {rv : ResultVar} {ra : ResA} {v : V} (hp : prepRes P [rv] = some [ra]) (h : resOne T H ra = some v)
    (g : ResultVar → Sem Value) (hg1 : ∀ t, g (.tmp t) = pure (tmps.getD t undef)) (hg2 : ∀ a t, g (.cell a t) = (do loadVar t (← asAddr (tmps.getD a undef)))) : ∃ y w' ρ', (g rv).run P w = .ok y w' ∧ VRel ρ' v y ∧ w' = w ∧ ρ' = ρ := by
  cases rv with
  | tmp t =>
    simp only [prepRes, Option.map_some, Option.some.injEq, List.cons.injEq, and_true] at hp
    subst hp
    simp only [resOne] at h
    obtain ⟨y, hy, hr⟩ := tr.2 t v h
    exact ⟨y, w, ρ, by rw [hg1]; simp [Array.getD_eq_getD_getElem?, hy], hr, rfl, rfl⟩
  | cell a t =>
    simp only [prepRes] at hp
    split at hp
    · rename_i g' sz l h1 h2 h3
      cases h3
      simp only [Option.some.injEq, List.cons.injEq, and_true] at hp
      subst hp
      simp only [resOne] at h
      split at h
      · rename_i p hpv
        have hev : evLd n H g' sz p = some (v, n, H) := by rw [evLd_ldV, h]; rfl
        obtain ⟨y, hy, hr⟩ := tr.2 a p hpv
        obtain ⟨yy, w', ρ', g1, g2, g3⟩ := gets_ld_pure s h1 h2 hr hev
        have hya : ∃ ad, y = .pointer (some ad) := by
          unfold ldV at h
          split at h
          · cases hr; exact ⟨_, rfl⟩
          · cases h
        obtain ⟨ad, rfl⟩ := hya
        refine ⟨yy, w', ρ', ?_, g2, g3⟩
        rw [hg2]
        simp only [Array.getD_eq_getD_getElem?, hy, Option.getD_some, Sem.run_bind, asAddr, Sem.run_pure, Result.andThen_ok]
        simpa [Instr.loadAt, Instr.sureAddr] using g1
      · cases h
    · cases hp
theorem prepRes_cons {rv : ResultVar} {rs : List ResultVar} {l : List ResA} (h : prepRes P (rv :: rs) = some l) : ∃ ra l', l = ra :: l' ∧ prepRes P [rv] = some [ra] ∧ prepRes P rs = some l' := by
  cases rv with
  | tmp t =>
    simp only [prepRes] at h
    obtain ⟨l', h1, rfl⟩ := map_inv h
    exact ⟨_, l', rfl, rfl, h1⟩
  | cell a t =>
    simp only [prepRes] at h
    split at h
    · rename_i g s l' h1 h2 h3
      cases h
      exact ⟨_, l', rfl, by simp [prepRes, h1, h2], h3⟩
    · cases h
theorem resAll_run {ρ : Ren} {T : Temps} {H : Heap} {n : Nat} {w : World} {tmps : Array Value} (tr : TRel ρ N T tmps) (s : Sim (prepC P) ρ n H w)
    (g : ResultVar → Sem Value) (hg1 : ∀ t, g (.tmp t) = pure (tmps.getD t undef)) (hg2 : ∀ a t, g (.cell a t) = (do loadVar t (← asAddr (tmps.getD a undef)))) : ∀ {rs : List ResultVar} {l : List ResA} {vs : List V}, prepRes P rs = some l → resAll T H l = some vs →
    ∃ ys : List Value, (rs.mapM g).run P w = .ok ys w ∧ VRelL ρ vs ys := by
  intro rs
  induction rs with
  | nil => intro l vs hp h; cases hp; cases h; exact ⟨[], rfl, .nil⟩
  | cons rv rs ih =>
    intro l vs hp h
    obtain ⟨ra, l', rfl, h1, h2⟩ := prepRes_cons hp
    simp only [resAll] at h
    split at h
    · rename_i v vl hv hl
      cases h
      obtain ⟨y, _, _, hy, hr, rfl, rfl⟩ := resOne_run tr s h1 hv g hg1 hg2
      obtain ⟨ys, hys, hrs⟩ := ih h2 hl
      refine ⟨y :: ys, ?_, .cons hr hrs⟩
      rw [List.mapM_cons]
      simp only [Sem.run_bind, hy, Result.andThen_ok, hys, Sem.run_pure]
    · cases h
theorem results_run {ρ : Ren} {T : Temps} {H : Heap} {n : Nat} {w : World} {tmps : Array Value} (tr : TRel ρ N T tmps) (s : Sim (prepC P) ρ n H w) {fn : Func} {l : List ResA} {vs : List V} (hp : prepRes P fn.results.toList = some l) (h : resAll T H l = some vs) :
    ∃ y, (results fn tmps).run P w = .ok y w ∧ VRel ρ (resV vs) y := by
  have e : ∃ g : ResultVar → Sem Value, results fn tmps = (do let vs ← fn.results.mapM g; pure (if h : vs.size = 1 then vs[0] else .tuple vs)) ∧ (∀ t, g (.tmp t) = pure (tmps.getD t undef)) ∧ (∀ a t, g (.cell a t) = (do loadVar t (← asAddr (tmps.getD a undef)))) :=
    ⟨_, rfl, fun _ => rfl, fun _ _ => rfl⟩
  obtain ⟨g, hg, hg1, hg2⟩ := e
  obtain ⟨ys, hys, hr⟩ := resAll_run (P := P) tr s g hg1 hg2 hp h
  have hm : (fn.results.mapM g).run P w = .ok ys.toArray w := by
    rw [show fn.results = fn.results.toList.toArray by simp, List.mapM_toArray, Sem.run_map, hys]
    rfl
  refine ⟨if h : ys.toArray.size = 1 then ys.toArray[0] else .tuple ys.toArray, ?_, ?_⟩
  · rw [hg]
    simp only [Sem.run_bind, hm, Result.andThen_ok, Sem.run_pure]
  · cases vs with
    | nil => obtain rfl := hr.nil_inv; exact .tu rfl fun j x y hx => by simp at hx
    | cons v vs =>
      obtain ⟨y, yt, rfl, h1, h2⟩ := hr.cons_inv
      cases vs with
      | nil => obtain rfl := h2.nil_inv; exact h1
      | cons v2 vs =>
        obtain ⟨y2, yt2, rfl, h3, h4⟩ := h2.cons_inv
        rw [dif_neg (by simp)]
        exact VRelL.to_tu (by simpa using VRelL.cons h1 (.cons h3 h4))

theorem argsT_get : ∀ (vs : List V) (k i : Nat), aget (argsT k vs) i = if k ≤ i then vs[i - k]? else none := by
  intro vs
  induction vs with
  | nil => intro k i; simp [argsT]
  | cons v vs ih =>
    intro k i
    simp only [argsT, aget_cons, ih]
    by_cases h : k = i
    · subst h; simp
    · rw [if_neg h]
      by_cases h2 : k ≤ i
      · rw [if_pos h2, if_pos (by omega)]
        obtain ⟨j, rfl⟩ : ∃ j, i = k + 1 + j := ⟨i - k - 1, by omega⟩
        rw [show k + 1 + j - (k + 1) = j by omega, show k + 1 + j - k = j + 1 by omega]
        rfl
      · rw [if_neg h2, if_neg (by omega)]
/-- A FUNCTION's CONTRACT FROM ITS BODY. -/
theorem ACalls.enter {f : FuncId} {af : AFun} (hf : prepF P f = some af) {args : List V} {n : Nat} {H : Heap} {K : V → Nat → Heap → Prop} (hn : args.length ≤ af.N)
    (h : AWc P af.N none af.body ⟨argsT 0 args, [], n, H⟩ fun e st => (e = .normal ∨ e = .ret) ∧ (∀ m ∈ st.D, aget st.H m = some .marks) ∧ st.D.Nodup ∧ ∃ vs, resAll st.T (delAll st.H st.D) af.res = some vs ∧ K (resV vs) st.n (delAll st.H st.D)) :
    ACalls P f args n H K := by
  unfold prepF at hf
  split at hf
  · rename_i fn hfn
    split at hf
    · cases hf
    · rename_i hname
      split at hf
      · rename_i c hc
        split at hf
        · rename_i ac r h1 h2
          cases hf
          refine ⟨fun args w => by
            have hnm : fn.name ≠ "runtime.NumGoroutine" := by simpa using hname
            simp [callFunc, hfn, hnm, hc], fun ρ w args' hs hr => ?_⟩
          refine (callsIn_wide (n := 0)).1 ?_
          refine callsIn_of_wp_marks hfn hc trivial ?_
          have htm : TRel ρ fn.ntmps (argsT 0 args) (args' ++ Array.replicate (fn.ntmps - args'.size) undef) := by
            have hsz : args'.size = args.length := by have := hr.1; simp at this; omega
            have hn' : args.length ≤ fn.ntmps := hn
            refine ⟨by simp; omega, fun i v hv => ?_⟩
            rw [argsT_get] at hv
            simp only [Nat.zero_le, if_true, Nat.sub_zero] at hv
            obtain ⟨y, hy, hyr⟩ := hr.get hv
            simp only [Array.getElem?_toList] at hy
            refine ⟨y, ?_, hyr⟩
            rw [Array.getElem?_append_left (by have := (Array.getElem?_eq_some_iff.1 hy).1; exact this)]
            exact hy
          refine wpIn_mono (h c h1 ρ Fence.wide 0 { tmps := args' ++ Array.replicate (fn.ntmps - args'.size) undef, defers := [] } w rfl ⟨htm, trivial, hs⟩) ?_
          rintro e a1 w1 ⟨st1, ρ1, ⟨he, hmk, hnd, vs, hres, hK⟩, hA1, hE1⟩
          have key : ∀ (D : List Nat) (ds : List Deferred) (H1 : Heap) (w1 : World), MRel ρ1 D ds → (∀ m ∈ D, aget H1 m = some .marks) → D.Nodup → Sim (prepC P) ρ1 st1.n H1 w1 → Ext ρ n H w ρ1 st1.n H1 w1 → delAll H1 D = delAll st1.H st1.D →
              LeavesInM Fence.wide 0 P fn a1.tmps (fun e w' => ∃ v n' H' ρ' y, K v n' H' ∧ e = .returned y ∧ VRel ρ' v y ∧ Sim (prepC P) ρ' n' H' w' ∧ Ext ρ n H w ρ' n' H' w') ds .returning w1 := by
            intro D
            induction D with
            | nil =>
              intro ds H1 w1 hm _ _ hs1 hE1 hdel
              cases ds with
              | cons _ _ => exact hm.elim
              | nil =>
                simp only [delAll] at hdel
                subst hdel
                obtain ⟨y, hy, hyr⟩ := results_run hA1.tm hs1 h2 hres
                exact ⟨y, hy, _, _, _, ρ1, y, hK, rfl, hyr, hs1, hE1⟩
            | cons m D ih =>
              intro ds H1 w1 hm hmk hnd hs1 hE1 hdel
              cases ds with
              | nil => exact hm.elim
              | cons d ds =>
                obtain ⟨⟨c0, e0, z0, hρ0, rfl⟩, hm'⟩ := hm
                have hmm := hmk m (by simp)
                obtain ⟨c2, d2, z2, e2, hb2⟩ := hs1.blk m _ hmm
                rw [hρ0] at e2
                cases e2
                obtain ⟨q1, q2⟩ := hs1.take hmm rfl hρ0 (.deferred none)
                refine ⟨by simp, .inl ⟨c0, setBlk w1 c0 (.deferred none), rfl, ?_, ?_⟩⟩
                · rw [run_takeDeferred hb2]
                  rfl
                · refine ih ds (adel H1 m) _ hm' (fun m' hm'' => ?_) (List.nodup_cons.1 hnd).2 q1 (hE1.trans q2) hdel
                  rw [aget_del, if_neg]
                  · exact hmk m' (by simp [hm''])
                  · rintro rfl; exact (List.nodup_cons.1 hnd).1 hm''
          have hgo := key st1.D a1.defers st1.H w1 hA1.mr hmk hnd hA1.sim hE1 rfl
          rcases he with rfl | rfl <;> exact hgo
        · cases hf
      · cases hf
  · cases hf
end rules
end Go.Proofs.Ytpgelghkjiejlaa
end
section
namespace Go.Proofs.Ytpgelghkjiejlaa
open Go
section rules
variable {P : Program} {N : Nat}
theorem prepC_rangeF {c : Code} {g : AX} {ps : List Nat} {x y : ACode} (h : prepC P N c = some (.rangeF g ps x y)) : ∃ f ps' a b, c = .rangeFunc f ps' a b ∧ prepX f = some g ∧ ps'.toList = ps ∧ prepC P N a = some x ∧ prepC P N b = some y ∧ ∀ d ∈ ps, d < N := by
  cases c with
  | rangeFunc f ps' a b =>
    simp only [prepC] at h
    split at h
    · rename_i f' x' y' h1 h2 h3
      split at h
      · rename_i hd
        cases h
        refine ⟨f, ps', a, b, rfl, h1, rfl, h2, h3, fun d hd' => ?_⟩
        have := List.all_eq_true.1 hd d hd'
        simpa using this
      · cases h
    · cases h
  | region id ops draw => simp only [prepC] at h; split at h <;> (try (split at h)) <;> (try (split at h)) <;> simp at h
  | _ => simp only [prepC] at h <;> (try (split at h)) <;> (try (split at h)) <;> (try (cases h; done)) <;> (simp at h)

/-- What is asked when the function that was ranged over has ended: the record l is not busy; the jump that is pending is made. -/
def endF (l : Nat) (st : St) (Q : Exit → St → Prop) (n' : Nat) (H' : Heap) : Prop :=
  ∃ r, aget H' l = some (.loop r) ∧ r.st ≠ .busy ∧
    match r.pend with
    | none => Q .normal { st with n := n', H := adel H' l }
    | some .ret => Q .ret { st with n := n', H := adel H' l }
    | some (.exit id) => Q (.exit id) { st with n := n', H := adel H' l }

theorem rangeF_end {rd : Option Nat} {st st1 : St} {Q : Exit → St → Prop} {fid : FuncId} {args : List V} {l n1 : Nat} {H1 : Heap} {ρ ρ1 : Ren} {F : Fence} {m : Nat} {a' : Act} {w w1 : World} {cl : Nat} {args' : Array Value} (hF : FRel ρ1 rd F)
    (hcall : ACalls P fid args n1 H1 (fun _ n' H' => endF l st1 Q n' H')) (hs : Sim (prepC P) ρ1 n1 H1 w1) (hE : Ext ρ st.n st.H w ρ1 n1 H1 w1) (hr : VRelL ρ1 args args'.toList) (htm : TRel ρ1 N st1.T a'.tmps) (hmk : MRel ρ1 st1.D a'.defers)
    {d z : Nat} (hl : ρ1 l = some (cl, d, z)) : CallsIn F (m - 1) P fid args' w1 (rangePost F m P cl (Post P N ρ st w Q) a') := by
  have h0 := (callsIn_wide (n := m - 1)).2 (hcall.2 ρ1 w1 args' hs hr)
  have hmono : ∀ e w', (∃ v n' H' ρ' y, endF l st1 Q n' H' ∧ e = Ending.returned y ∧ VRel ρ' v y ∧ Sim (prepC P) ρ' n' H' w' ∧ Ext ρ1 n1 H1 w1 ρ' n' H' w') → rangePost F m P cl (Post P N ρ st w Q) a' e w' := by
    rintro e w3 ⟨v, n', H', ρ', y, ⟨r, hb, hst, hj⟩, rfl, hv, hs3, hE3⟩
    have hl3 := hE3.ren _ _ hl
    obtain ⟨c3, d3, z3, e3, L, hL, lr⟩ := hs3.blk l _ hb
    rw [hl3] at e3
    cases e3
    have hne : L.state ≠ .busy := by rw [lr.st]; exact hst
    have hend := run_endLoop (P := P) hL hne
    obtain ⟨q1, q2⟩ := hs3.take hb rfl hl3 (.loop { L with state := .exhausted })
    have hEE := (hE.trans hE3).trans q2
    have hA : ARel P ρ' N { st1 with n := n', H := adel H' l } a' (setBlk w3 cl (.loop { L with state := .exhausted })) := ⟨htm.mono hE3.ren, hmk.mono hE3.ren, q1⟩
    refine ⟨L.pending, setBlk w3 cl (.loop { L with state := .exhausted }), hend, ?_⟩
    generalize setBlk w3 cl (.loop { L with state := .exhausted }) = w4 at hA hEE
    rw [lr.pend]
    cases hp : r.pend with
    | none => rw [hp] at hj; exact ⟨_, ρ', hj, hA, hEE⟩
    | some j =>
      rw [hp] at hj
      cases j with
      | ret => exact wpIn_ret ⟨_, ρ', hj, hA, hEE⟩
      | exit id => exact wpIn_exit ⟨_, ρ', hj, hA, hEE⟩
  have h1 := CallsIn.mono h0 hmono
  cases rd with
  | none => cases hF; exact h1
  | some l0 => obtain ⟨c0, d0, z0, _, rfl⟩ := hF; exact h1

theorem fnv_inv {ρ : Ren} {fid : FuncId} {first caps : List V} {y : Value} (h : VRel ρ (.fn fid first caps) y) : ∃ ys vs, y = .func (.func fid) ys vs ∧ VRelL ρ first ys.toList ∧ VRelL ρ caps vs.toList := by
  cases h with
  | fn hl h1 hl' h2 => exact ⟨_, _, rfl, .of_array hl h1, .of_array hl' h2⟩
/-- 'for .. := range g { .. }' outside any round. -/
theorem AWc.rangeF_top {st : St} {Q : Exit → St → Prop} {g : AX} {ps : List Nat} {x y : ACode} {fid : FuncId} {first caps : List V} (hg : g.val st.T = .fn fid first caps)
    (h : ACalls P fid (first ++ [.yl (st.n + 1)] ++ caps) (st.n + 2) ((st.n + 1, .loop ⟨.ready, none, N, st.T, ps, x, y, st.n⟩) :: (st.n, .marks) :: st.H) fun _ n' H' => endF (st.n + 1) { st with D := st.n :: st.D } Q n' H') :
    AWc P N none (.rangeF g ps x y) st Q := by
  intro c hp ρ F m a w hF hA
  obtain ⟨f, ps', c1, c2, rfl, h1, hps, h3, h4, _⟩ := prepC_rangeF hp
  cases hF
  have hgv := prepX_rel hA.tm h1
  rw [hg] at hgv
  obtain ⟨ys, vs, hfv, r1, r2⟩ := fnv_inv hgv
  refine wpIn_rangeFunc fun fn _ => ?_
  -- the two blocks
  obtain ⟨a1, a2, a3, a4⟩ := hA.sim.alloc .marks (.deferred (some [])) 0 rfl (fun ρ' _ _ => pushW_new w _)
  have hsz1 : (pushW w (.deferred (some []))).heap.size = w.heap.size + 1 := by simp [pushW]
  obtain ⟨b1, b2, b3, b4⟩ := a3.alloc (.loop ⟨.ready, none, N, st.T, ps, x, y, st.n⟩) (.loop { state := .ready, pending := none, fn, tmps := a.tmps, params := ps', assign := c1, body := c2, defers := w.heap.size }) 0 rfl (fun ρ' hle hn =>
    ⟨_, pushW_new _ _, ⟨rfl, rfl, hA.tm.mono (a1.trans hle), hps, h3, h4, ⟨0, 0, hle _ _ a2⟩⟩⟩)
  rw [hsz1] at b1 b2 b3 b4
  have hE := a4.trans b4
  have hle := a1.trans b1
  have hent := run_enterLoop_outer (P := P) (w := w) fn a.tmps ps' c1 c2
  obtain ⟨W, hW⟩ : ∃ W, pushW (pushW w (.deferred (some []))) (.loop { state := .ready, pending := none, fn, tmps := a.tmps, params := ps', assign := c1, body := c2, defers := w.heap.size }) = W := ⟨_, rfl⟩
  have hent' : (Instr.enterLoop fn a.tmps ps' c1 c2 none).run P w = .ok (w.heap.size + 1, [{ target := .collected w.heap.size, args := #[] }]) W := by rw [← hW]; exact hent
  rw [hW] at b3 hE
  refine ⟨w.heap.size + 1, [{ target := .collected w.heap.size, args := #[] }], W, { target := .fn (.func fid) vs, args := ys ++ #[.func (.yield (w.heap.size + 1)) #[] #[]] }, W, fid, ys ++ #[.func (.yield (w.heap.size + 1)) #[] #[]] ++ vs, W, hent', ?_, fun _ _ => trivial, ?_, (fun hd => by cases hd), ?_⟩
  · simp only [resolve, rangeCall, hfv, Deferred.ofValue, Sem.run_pure]
    simp [Act.eval]
  · simp only [invoke]
    exact h.1 _ _
  · refine rangeF_end (rd := none) (st1 := { st with D := st.n :: st.D }) rfl h b3 hE ?_ (hA.tm.mono hle) ⟨⟨_, _, _, b1 _ _ a2, rfl⟩, hA.mr.mono hle⟩ b2
    simp only [Array.toList_append]
    exact ((r1.mono hle).append (.one (.yl b2))).append (r2.mono hle)
/-- The same within a round of the loop l₀. -/
theorem AWc.rangeF_in {l₀ : Nat} {r₀ : ALoop} {st : St} {Q : Exit → St → Prop} {g : AX} {ps : List Nat} {x y : ACode} {fid : FuncId} {first caps : List V} (hl₀ : aget st.H l₀ = some (.loop r₀)) (hg : g.val st.T = .fn fid first caps)
    (h : ACalls P fid (first ++ [.yl st.n] ++ caps) (st.n + 1) ((st.n, .loop ⟨.ready, none, N, st.T, ps, x, y, r₀.marks⟩) :: st.H) fun _ n' H' => endF st.n st Q n' H') :
    AWc P N (some l₀) (.rangeF g ps x y) st Q := by
  intro c hp ρ F m a w hF hA
  obtain ⟨f, ps', c1, c2, rfl, h1, hps, h3, h4, _⟩ := prepC_rangeF hp
  obtain ⟨c0, d0, z0, hρ0, rfl⟩ := hF
  have hgv := prepX_rel hA.tm h1
  rw [hg] at hgv
  obtain ⟨ys, vs, hfv, r1, r2⟩ := fnv_inv hgv
  obtain ⟨c0', d0', z0', e0, L₀, hL₀, lr₀⟩ := hA.sim.blk l₀ _ hl₀
  rw [hρ0] at e0
  cases e0
  refine wpIn_rangeFunc fun fn _ => ?_
  obtain ⟨dm, zm, hm⟩ := lr₀.marks
  obtain ⟨b1, b2, b3, b4⟩ := hA.sim.alloc (.loop ⟨.ready, none, N, st.T, ps, x, y, r₀.marks⟩) (.loop { state := .ready, pending := none, fn, tmps := a.tmps, params := ps', assign := c1, body := c2, defers := L₀.defers }) 0 rfl (fun ρ' hle hn =>
    ⟨_, pushW_new _ _, ⟨rfl, rfl, hA.tm.mono hle, hps, h3, h4, ⟨dm, zm, hle _ _ hm⟩⟩⟩)
  have hent : (Instr.enterLoop fn a.tmps ps' c1 c2 (some c0)).run P w = .ok (w.heap.size, []) (pushW w (.loop { state := .ready, pending := none, fn, tmps := a.tmps, params := ps', assign := c1, body := c2, defers := L₀.defers })) := by
    unfold Instr.enterLoop
    simp only [Sem.run_bind, run_getLoop hL₀, Result.andThen_ok, Sem.run_pure]
    simp [newObj, Sem.run, pushW]
  obtain ⟨W, hW⟩ : ∃ W, pushW w (.loop { state := .ready, pending := none, fn, tmps := a.tmps, params := ps', assign := c1, body := c2, defers := L₀.defers }) = W := ⟨_, rfl⟩
  rw [hW] at b3 b4 hent
  refine ⟨w.heap.size, [], W, { target := .fn (.func fid) vs, args := ys ++ #[.func (.yield w.heap.size) #[] #[]] }, W, fid, ys ++ #[.func (.yield w.heap.size) #[] #[]] ++ vs, W, hent, ?_, fun _ _ => trivial, ?_, (fun hd => by cases hd), ?_⟩
  · simp only [resolve, rangeCall, hfv, Deferred.ofValue, Sem.run_pure]
    simp [Act.eval]
  · simp only [invoke]
    exact h.1 _ _
  · refine rangeF_end (rd := some l₀) (st1 := st) ⟨c0, d0, z0, b1 _ _ hρ0, rfl⟩ h b3 b4 ?_ (hA.tm.mono b1) (hA.mr.mono b1) b2
    simp only [Array.toList_append]
    exact ((r1.mono b1).append (.one (.yl b2))).append (r2.mono b1)
end rules
end Go.Proofs.Ytpgelghkjiejlaa
end
