/- All operations: what ours tells of one is what the model's does, over whatever world bears the abstract state. -/
import Derived.Test.YtpgelghkjiejlaaSmL
import Derived.Laws.BytesString
set_option linter.unusedVariables false
set_option linter.unusedSimpArgs false
namespace Go.Proofs.Ytpgelghkjiejlaa
open Go
section ops
variable {pc : PrepC} {P : Program} {ρ : Ren} {n : Nat} {H : Heap} {w : World}

/-- One operation of the model comes to v. -/
def OpGets (pc : PrepC) (P : Program) (ρ : Ren) (n : Nat) (H : Heap) (w : World) (r : Sem Next) (v : V) (n' : Nat) (H' : Heap) : Prop :=
  ∃ nx y w' ρ', r.run P w = .ok nx w' ∧ (nx = .value y ∨ nx = .skip ∧ y = undef) ∧ VRel ρ' v y ∧ Sim pc ρ' n' H' w' ∧ Ext ρ n H w ρ' n' H' w'
theorem Gets.op {sem : Sem Value} {v : V} {n' : Nat} {H' : Heap} (h : Gets pc P ρ n H w sem v n' H') : OpGets pc P ρ n H w (do Pure.pure (Next.value (← sem)) : Sem Next) v n' H' := by
  obtain ⟨y, w', ρ', h1, h2, h3, h4⟩ := h
  exact ⟨.value y, y, w', ρ', by simp [h1], .inl rfl, h2, h3, h4⟩
theorem GetsU.op {sem : Sem Unit} {n' : Nat} {H' : Heap} (h : GetsU pc P ρ n H w sem n' H') : OpGets pc P ρ n H w (do sem; Pure.pure Next.skip : Sem Next) .un n' H' := by
  obtain ⟨w', ρ', h1, h3, h4⟩ := h
  exact ⟨.skip, undef, w', ρ', by simp [h1], .inr ⟨rfl, rfl⟩, .un _, h3, h4⟩
theorem op_value {y : Value} {v : V} (s : Sim pc ρ n H w) (r : VRel ρ v y) : OpGets pc P ρ n H w (pure (Next.value y)) v n H :=
  ⟨.value y, y, w, ρ, rfl, .inl rfl, r, s, .refl _ _ _ _⟩

theorem map_inv {α β : Type} {f : α → β} {o : Option α} {y : β} (h : o.map f = some y) : ∃ x, o = some x ∧ y = f x := by
  obtain ⟨x, h1, h2⟩ := Option.map_eq_some_iff.1 h
  exact ⟨x, h1, h2.symm⟩

variable {N : Nat} {T : Temps} {a : Act}
theorem sound_builtin (tr : TRel ρ N T a.tmps) (s : Sim pc ρ n H w) {b : Builtin} {argTypes : Array TypeId} {args : Array Operand} {type : TypeId} {l : List AX} {ao : AOp} (hl : prepXs args.toList = some l) (hp : prepBuiltin P b argTypes.toList l = some ao)
    {v : V} {n' : Nat} {H' : Heap} (ev : evalOp T n H ao = some (v, n', H')) {consts : Array Bool} : OpGets pc P ρ n H w (builtin b argTypes type consts (args.map a.eval)) v n' H' := by
  have hr := prepXs_rel tr hl
  have hargs : (args.map a.eval).toList = args.toList.map a.eval := by simp
  unfold prepBuiltin at hp
  split at hp
  · -- len
    rename_i t x hts
    obtain ⟨x', t1, e1, r1, r2⟩ := hr.cons_inv
    obtain rfl := r2.nil_inv
    have hav : args.map a.eval = #[x'] := by apply Array.ext'; rw [hargs, e1]
    have ht : argTypes[0]? = some t := by rw [← Array.getElem?_toList, hts]; rfl
    split at hp
    · rename_i hu; cases hp; rw [hav]; exact (gets_len s ht (by simpa using hu) r1 ev).op
    · rename_i e hu; cases hp; rw [hav]; exact (gets_len s ht (by simpa using ⟨e, hu⟩) r1 ev).op
    · cases hp
  · cases hp; exact (gets_min s (by rw [hargs]; exact hr) ev).op
  · cases hp; exact (gets_max s (by rw [hargs]; exact hr) ev).op
  · -- append
    rename_i t t' x y hts
    obtain ⟨x', t1, e1, r1, r2⟩ := hr.cons_inv
    obtain ⟨y', t2, rfl, r3, r4⟩ := r2.cons_inv
    obtain rfl := r4.nil_inv
    have hav : args.map a.eval = #[x', y'] := by apply Array.ext'; rw [hargs, e1]
    have hat : argTypes = #[t, t'] := by apply Array.ext'; rw [hts]
    split at hp
    · rename_i e e' hu hu'
      split at hp
      · rename_i i z hi hz
        split at hp
        · rename_i hc
          cases hp
          rw [hav, hat]
          exact (gets_app s hu hu' hi hz hc.1 hc.2.1 hc.2.2 r1 r3 ev).op
        · cases hp
      · cases hp
    · cases hp
  · -- copy
    rename_i t t' x y hts
    obtain ⟨x', t1, e1, r1, r2⟩ := hr.cons_inv
    obtain ⟨y', t2, rfl, r3, r4⟩ := r2.cons_inv
    obtain rfl := r4.nil_inv
    have hav : args.map a.eval = #[x', y'] := by apply Array.ext'; rw [hargs, e1]
    have ht : argTypes[0]? = some t := by rw [← Array.getElem?_toList, hts]; rfl
    split at hp
    · rename_i e e' hu hu'
      split at hp
      · rename_i sz hs
        split at hp
        · cases hp
          rw [hav]
          exact (gets_cpy s ht hu hs r1 r3 ev).op
        · cases hp
      · cases hp
    · cases hp
  · -- clear
    rename_i t x hts
    obtain ⟨x', t1, e1, r1, r2⟩ := hr.cons_inv
    obtain rfl := r2.nil_inv
    have hav : args.map a.eval = #[x'] := by apply Array.ext'; rw [hargs, e1]
    have ht : argTypes[0]? = some t := by rw [← Array.getElem?_toList, hts]; rfl
    split at hp
    · rename_i e hu
      split at hp
      · rename_i sz z hs hz
        split at hp
        · cases hp
          rw [hav]
          exact (gets_clr s ht hu hs hz r1 ev).op
        · cases hp
      · cases hp
    · cases hp
  · cases hp

theorem bytesOf_rel {ρ : Ren} : ∀ {cs : List V} {l : List UInt8} {ys : List Value}, bytesOf cs = some l → VRelL ρ cs ys → ∃ ns : List Int, ys = ns.map (Value.int .u8) ∧ ns.map (fun n => UInt8.ofNat n.toNat) = l := by
  intro cs
  induction cs with
  | nil => intro l ys h r; cases h; obtain rfl := r.nil_inv; exact ⟨[], rfl, rfl⟩
  | cons v cs ih =>
    intro l ys h r
    obtain ⟨y, yt, rfl, r1, r2⟩ := r.cons_inv
    simp only [bytesOf] at h
    split at h
    · rename_i b l' h1 h2
      cases h
      obtain ⟨ns, rfl, h3⟩ := ih h2 r2
      unfold byteOf at h1
      split at h1
      · rename_i a
        cases h1
        cases i_inv r1
        exact ⟨a :: ns, rfl, by simp [h3]⟩
      · cases h1
    · cases h
theorem foldl_bytes : ∀ (ns : List Int) (s : ByteArray), (ns.foldl (fun r n => r.push (UInt8.ofNat n.toNat)) s).data.toList = s.data.toList ++ ns.map fun n => UInt8.ofNat n.toNat := by
  intro ns
  induction ns with
  | nil => intro s; simp
  | cons n ns ih => intro s; rw [List.foldl_cons, ih]; simp [ByteArray.push]
theorem gets_b2s {x : V} {x' : Value} {src dst e : TypeId} (s : Sim pc ρ n H w) (h1 : P.underlying src = some (.slice e)) (h2 : P.underlying dst = some .string) (he : P.underlying e = some (.int .u8)) (rx : VRel ρ x x') {v : V} (ev : evB2s H x = some v) :
    Gets pc P ρ n H w (convert src dst x') v n H := by
  unfold evB2s at ev
  split at ev
  · rename_i cs hcs
    obtain ⟨l, hl, rfl⟩ := map_inv ev
    obtain ⟨arr, q1, q2⟩ := run_firstCells (P := P) s rx hcs (m := lenS x) (Nat.le_refl _)
    have hlen := cellsOf_length hcs
    rw [List.take_of_length_le (by omega)] at q2
    obtain ⟨ns, hns, hnl⟩ := bytesOf_rel hl q2
    unfold cellsOf at hcs
    split at hcs
    · cases hcs
      cases rx
      cases hl
      refine Gets.pure s (y := .string ByteArray.empty) ?_ (.s rfl)
      rw [run_convert_bytes_string w src dst e _ _ _ h1 he h2]
      simp [Conv.bytesToString]
    · cases rx with
      | @sl _ _ _ _ _ c d z o k hρ hk hf ho =>
      refine Gets.pure s (y := .string (ns.foldl (fun r n => r.push (UInt8.ofNat n.toNat)) ByteArray.empty)) ?_ (.s ?_)
      · rw [run_convert_bytes_string w src dst e _ _ _ h1 he h2]
        refine run_bytesToString w _ _ _ ns ?_
        have harr : arr = (ns.map (Value.int .u8)).toArray := by rw [← hns]
        rw [← harr]
        simpa [Builtin.firstCells, lenS] using q1
      · rw [foldl_bytes, hnl]
        rfl
    · cases hcs
  · cases ev
theorem evalOp_sound (tr : TRel ρ N T a.tmps) (s : Sim pc ρ n H w) {o : Oper} {ao : AOp} (hp : prepOp P o.op = some ao) {v : V} {n' : Nat} {H' : Heap} (ev : evalOp T n H ao = some (v, n', H')) :
    OpGets pc P ρ n H w (execOp a.eval o) v n' H' := by
  obtain ⟨dst, op, type, pos, after, guard⟩ := o
  simp only at hp
  cases op with
  | move x =>
    obtain ⟨ax, h1, rfl⟩ := map_inv hp
    cases ev
    exact op_value s (prepX_rel tr h1)
  | assign x =>
    obtain ⟨ax, h1, rfl⟩ := map_inv hp
    cases ev
    exact op_value s (prepX_rel tr h1)
  | pick c x y =>
    simp only [prepOp] at hp
    split at hp
    · rename_i c' x' y' h1 h2 h3
      cases hp
      simp only [evalOp] at ev
      split at ev
      · rename_i b hb
        cases ev
        have hc := prepX_rel tr h1
        rw [hb] at hc
        have hcb := b_inv hc
        refine ⟨.value (if b then a.eval x else a.eval y), _, w, ρ, ?_, .inl rfl, ?_, s, .refl _ _ _ _⟩
        · simp [execOp, hcb, asBool]
        · cases b
          · exact prepX_rel tr h3
          · exact prepX_rel tr h2
      · cases ev
    · cases hp
  | alloc t =>
    obtain ⟨z, h1, rfl⟩ := map_inv hp
    exact (gets_new s h1 ev).op
  | box t x =>
    obtain ⟨ax, h1, rfl⟩ := map_inv hp
    exact (gets_box s (prepX_rel tr h1) ev).op
  | build t ps =>
    simp only [prepOp] at hp
    split at hp
    · rename_i fs z l hu hz hl
      split at hp
      · rename_i hall
        obtain ⟨l', h1, rfl⟩ := map_inv hp
        refine (gets_build tr s hu hz (fun f hf => ?_) hl h1 ev).op
        have := List.all_eq_true.1 hall f hf
        exact Option.isSome_iff_exists.1 this
      · cases hp
    · cases hp
  | buildSlice t len ps =>
    simp only [prepOp] at hp
    split at hp
    · rename_i e l hu hl
      split at hp
      · rename_i sz z hs hz
        split at hp
        · rename_i hc
          cases hp
          exact (gets_lit tr s hu hs hz hc.2.1 hc.2.2 hc.1 hl ev).op
        · cases hp
      · cases hp
    · cases hp
  | load t x =>
    simp only [prepOp] at hp
    split at hp
    · rename_i g sz ax h1 h2 h3
      cases hp
      exact (gets_ld s h1 h2 (prepX_rel tr h3) ev).op
    · cases hp
  | store t x y =>
    simp only [prepOp] at hp
    split at hp
    · rename_i sz ax ay h1 h2 h3
      cases hp
      obtain ⟨rfl, h4⟩ := gets_st s h1 (prepX_rel tr h2) (prepX_rel tr h3) ev
      exact h4.op
    · cases hp
  | binOp op t x y t2 =>
    have key : ∀ {ao : AOp} {ax ay : AX}, prepX x = some ax → prepX y = some ay → (∃ k, P.underlying t = some (.int k)) ∨ P.underlying t = some .string → evalOp T n H (.bin op ax ay) = some (v, n', H') →
        OpGets pc P ρ n H w (execOp a.eval { dst, op := .binOp op t x y t2, type, pos, after, guard }) v n' H' := by
      intro ao ax ay h1 h2 h3 ev
      have hx := prepX_rel tr h1
      have hy := prepX_rel tr h2
      have g := gets_bin (P := P) s (t := t) hx hy ev
      obtain ⟨y', w', ρ', g1, g2, g3, g4⟩ := g
      obtain ⟨e', _, _⟩ := keep_inv ev
      have hne : a.eval x ≠ .nilIface ∧ ∀ xs, a.eval x ≠ .agg xs := by
        unfold evBin at e'
        split at e'
        · rename_i q1 q2; rw [q1] at hx; rw [i_inv hx]; simp
        · rename_i q1 q2; rw [q1] at hx; obtain ⟨b, hb, _⟩ := s_inv hx; rw [hb]; simp
        · cases e'
      refine ⟨.value y', y', w', ρ', ?_, .inl rfl, g2, g3, g4⟩
      simp only [execOp, Sem.run_bind, run_eqGuard (P := P) (w := w) (a := a.eval x) (b := a.eval y) (fun ⟨xs, h⟩ => absurd h (hne.2 xs)) hne.1, Result.andThen_ok, g1, Sem.run_pure]
    have key1 : ∀ {g : Bool} {k : Nat} {ax ay : AX}, prepX x = some ax → prepX y = some ay → negOf op = some g → (k = 0 ∨ k = 3 ∨ k = 4 ∨ k = 5) → EqT P t k → evalOp T n H (.eq1 g k ax ay) = some (v, n', H') →
        OpGets pc P ρ n H w (execOp a.eval { dst, op := .binOp op t x y t2, type, pos, after, guard }) v n' H' := by
      intro g k ax ay h1 h2 h3 h4 h5 ev
      exact (gets_eq1 s h3 h4 h5 (prepX_rel tr h1) (prepX_rel tr h2) ev).op
    simp only [prepOp] at hp
    split at hp
    · rename_i ax ay k h1 h2 h3; cases hp; exact key (ao := .bin op ax ay) h1 h2 (.inl ⟨k, h3⟩) ev
    · rename_i ax ay h1 h2 h3; cases hp; exact key (ao := .bin op ax ay) h1 h2 (.inr h3) ev
    · rename_i ax ay h1 h2 h3; obtain ⟨g, hg, rfl⟩ := map_inv hp; exact key1 h1 h2 hg (.inl rfl) h3 ev
    · rename_i ax ay e h1 h2 h3; obtain ⟨g, hg, rfl⟩ := map_inv hp; exact key1 h1 h2 hg (.inr (.inl rfl)) ⟨e, h3⟩ ev
    · rename_i ax ay e h1 h2 h3; obtain ⟨g, hg, rfl⟩ := map_inv hp; exact key1 h1 h2 hg (.inr (.inr (.inl rfl))) ⟨e, h3⟩ ev
    · rename_i ax ay e e' e'' h1 h2 h3; obtain ⟨g, hg, rfl⟩ := map_inv hp; exact key1 h1 h2 hg (.inr (.inr (.inr rfl))) ⟨e, e', e'', h3⟩ ev
    · rename_i ax ay fs h1 h2 h3
      split at hp
      · rename_i g ks hg hk
        cases hp
        exact (gets_eqs s hg hk (prepX_rel tr h1) (prepX_rel tr h2) ev).op
      · cases hp
    · cases hp
  | unOp op t x =>
    obtain ⟨ax, h1, rfl⟩ := map_inv hp
    exact (gets_un s (prepX_rel tr h1) ev).op
  | convert src dst x =>
    simp only [prepOp] at hp
    split at hp
    · rename_i k k' ax h1 h2 h3
      cases hp
      simp only [evalOp] at ev
      split at ev
      · rename_i k2 m hm
        cases ev
        have hx := prepX_rel tr h3
        rw [hm] at hx
        refine (Gets.pure s (y := .int k' (k'.wrap m)) ?_ (.i _ _)).op
        rw [i_inv hx]
        simp [convert, run_under h1, run_under h2, Conv.intToInt]
      · cases ev
    · rename_i ax h1 h2 h3
      cases hp
      obtain ⟨e', rfl, rfl⟩ := keep_inv ev
      have hx := prepX_rel tr h3
      simp only [Option.map_none] at e'
      unfold evStr at e'
      split at e'
      · rename_i l hl
        rw [hl] at hx
        obtain ⟨b, hb, hbl⟩ := s_inv hx
        simp only [bound, Nat.zero_le, Nat.le_refl, and_self, if_true, List.drop_zero, Nat.sub_zero, List.take_length, Option.some.injEq] at e'
        subst e'
        refine (Gets.pure s (y := .string b) ?_ (.s hbl)).op
        rw [hb]
        simp [convert, run_under h1, run_under h2]
      · cases e'
    · rename_i e ax h1 h2 h3
      split at hp
      · rename_i he
        cases hp
        obtain ⟨e', rfl, rfl⟩ := keep_inv ev
        exact (gets_b2s s h1 h2 he (prepX_rel tr h3) e').op
      · cases hp
    · cases hp
  | makeFunc fn first caps =>
    cases fn with
    | func g =>
      simp only [prepOp] at hp
      split at hp
      · rename_i l1 l2 h1 h2
        cases hp
        cases ev
        have r1 := prepXs_rel tr h1
        have r2 := prepXs_rel tr h2
        refine (Gets.pure s (sem := Instr.makeFunc (.func g) (first.map a.eval) (caps.map a.eval)) (y := .func (.func g) (first.map a.eval) (caps.map a.eval)) rfl ?_).op
        exact .fn (by have := r1.1; simpa using this) (fun j x y hx hy => r1.2 j x y hx (by simpa using hy)) (by have := r2.1; simpa using this) (fun j x y hx hy => r2.2 j x y hx (by simpa using hy))
      · cases hp
    | _ => cases hp
  | makeSlice t l c =>
    simp only [prepOp] at hp
    split at hp
    · rename_i e al ac h1 h2 h3
      split at hp
      · rename_i i z hi hz
        split at hp
        · rename_i hc
          cases hp
          exact (gets_mks s h1 hi hz hc.1 hc.2.2 (prepX_rel tr h2) (prepX_rel tr h3) ev).op
        · cases hp
      · cases hp
    · cases hp
  | slice t x lo hi mx =>
    simp only [prepOp] at hp
    have hiso : ∀ {o : Option Operand} {ao : Option AX}, prepO o = some ao → (ao.map (·.val T)).isSome = ao.isSome := fun _ => by simp
    split at hp
    · rename_i ax al ah h1 h2 h3 h4 h5
      cases hp
      cases mx with
      | some m =>
        simp only [prepO] at h5
        obtain ⟨u, _, hu⟩ := map_inv h5
        cases hu
      | none => exact (gets_sstr s h1 (prepX_rel tr h2) (prepO_rel tr h3) (prepO_rel tr h4) ev).op
    · rename_i e ax al ah am h1 h2 h3 h4 h5
      split at hp
      · rename_i hc
        obtain ⟨sz, hs, rfl⟩ := map_inv hp
        exact (gets_sls s h1 hs (prepX_rel tr h2) (prepO_rel tr h3) (prepO_rel tr h4) (prepO_rel tr h5) (by simpa using hc) ev).op
      · cases hp
    · rename_i m0 e ax al ah am h1 h2 h3 h4 h5
      split at hp
      · rename_i hc
        obtain ⟨sz, hs, rfl⟩ := map_inv hp
        exact (gets_sla s h1 hs (prepX_rel tr h2) (prepO_rel tr h3) (prepO_rel tr h4) (prepO_rel tr h5) (by simpa using hc) ev).op
      · cases hp
    · cases hp
  | fieldAddr t x f =>
    simp only [prepOp] at hp
    split at hp
    · rename_i fs ax h1 h2
      split at hp
      · cases hp
      · rename_i fd hf
        split at hp
        · rename_i k hs
          cases hp
          exact (gets_fa s h1 hf hs (prepX_rel tr h2) ev).op
        · cases hp
    · cases hp
  | field t x f =>
    simp only [prepOp] at hp
    split at hp
    · rename_i fs ax h1 h2
      split at hp
      · cases hp
      · rename_i fd hf
        split at hp
        · rename_i sz g hs hg
          cases hp
          exact (gets_fld s h1 hf hs hg (prepX_rel tr h2) ev).op
        · cases hp
    · cases hp
  | indexAddr t x i =>
    simp only [prepOp] at hp
    split at hp
    · rename_i e ax ai h1 h2 h3
      obtain ⟨sz, hs, rfl⟩ := map_inv hp
      exact (gets_ias s h1 hs (prepX_rel tr h2) (prepX_rel tr h3) ev).op
    · rename_i m0 e ax ai h1 h2 h3
      obtain ⟨sz, hs, rfl⟩ := map_inv hp
      exact (gets_iaa s h1 hs (prepX_rel tr h2) (prepX_rel tr h3) ev).op
    · cases hp
  | index t x i =>
    simp only [prepOp] at hp
    split at hp
    · rename_i ax ai h1 h2 h3
      cases hp
      exact (gets_ixs s h1 (prepX_rel tr h2) (prepX_rel tr h3) ev).op
    · cases hp
  | call c =>
    obtain ⟨callee, args, argTypes⟩ := c
    simp only [prepOp] at hp
    split at hp
    · obtain ⟨g, h1, rfl⟩ := map_inv hp
      cases ev
    · rename_i b l h2
      have := sound_builtin (pc := pc) tr s (type := type) h2 hp ev (consts := args.map fun | .const _ => true | _ => false)
      exact this
    · cases hp
  | nilCheck x =>
    obtain ⟨ax, h1, rfl⟩ := map_inv hp
    obtain ⟨e', rfl, rfl⟩ := keep_inv ev
    unfold evNil at e'
    split at e'
    · rename_i id off hv
      cases e'
      have hx := prepX_rel tr h1
      rw [hv] at hx
      generalize hy : a.eval x = y at hx
      cases hx with
      | @p _ _ c d z o hρ ho =>
      refine ⟨.value (.pointer (some ⟨c, o, none⟩)), _, w, ρ, ?_, .inl rfl, .p hρ ho, s, .refl _ _ _ _⟩
      simp only [execOp]
      rw [hy]
      rfl
    · cases e'
  | extract x i =>
    obtain ⟨ax, h1, rfl⟩ := map_inv hp
    obtain ⟨e', rfl, rfl⟩ := keep_inv ev
    unfold evExt at e'
    split at e'
    · rename_i xs hv
      have hx := prepX_rel tr h1
      rw [hv] at hx
      generalize hy : a.eval x = y at hx
      cases hx with
      | @tu _ ys hl hh =>
      obtain ⟨y', hy', hr⟩ := (VRelL.of_array hl hh).get e'
      simp only [Array.getElem?_toList] at hy'
      have hrun : (Instr.extract (a.eval x) i).run P w = .ok y' w := by
        rw [hy]
        simp only [Instr.extract, hy']
        rfl
      exact (Gets.pure s hrun hr).op
    · cases e'
  | _ => cases hp
end ops
end Go.Proofs.Ytpgelghkjiejlaa
