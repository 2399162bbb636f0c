/- What ids a value, and a block, may have; operations keep to them. -/
import Derived.Test.YtpgelghkjiejlaaSmS
set_option linter.unusedVariables false
set_option linter.unusedSimpArgs false
namespace Go.Proofs.Ytpgelghkjiejlaa
open Go

def BIn (n : Nat) : Blk → Prop
  | .row _ cs => ∀ x ∈ cs, VIn n x
  | .loop r => r.marks < n ∧ ∀ i v, aget r.T i = some v → VIn n v
  | .marks => True
def HIn (n : Nat) (H : Heap) : Prop := ∀ b k, aget H b = some k → b < n ∧ BIn n k
def TIn (n : Nat) (T : Temps) : Prop := ∀ i v, aget T i = some v → VIn n v
theorem VIn.mono {n n' : Nat} (h : n ≤ n') {v : V} (r : VIn n v) : VIn n' v := by
  induction r with
  | p h1 => exact .p (by omega)
  | sl h1 => exact .sl (by omega)
  | fn _ _ ih ih' => exact .fn ih ih'
  | yl h1 => exact .yl (by omega)
  | ifc _ ih => exact .ifc ih
  | ag _ ih => exact .ag ih
  | tu _ ih => exact .tu ih
  | _ => constructor
theorem VRel.vin {ρ : Ren} {n : Nat} (hs : ∀ b x, ρ b = some x → b < n) {v : V} {y : Value} (r : VRel ρ v y) : VIn n v := by
  induction r with
  | p e ho => exact .p (hs _ _ e)
  | sl e _ _ _ => exact .sl (hs _ _ e)
  | fn hl h1 hl' h2 ih ih' =>
    refine .fn (fun x hx => ?_) (fun x hx => ?_)
    · obtain ⟨j, hj, rfl⟩ := List.getElem_of_mem hx
      exact ih j _ _ (by simp [hj]) (by simp [show j < _ from hl ▸ hj]; rfl)
    · obtain ⟨j, hj, rfl⟩ := List.getElem_of_mem hx
      exact ih' j _ _ (by simp [hj]) (by simp [show j < _ from hl' ▸ hj]; rfl)
  | yl e => exact .yl (hs _ _ e)
  | ifc _ ih => exact .ifc ih
  | ag hl h1 ih =>
    refine .ag fun x hx => ?_
    obtain ⟨j, hj, rfl⟩ := List.getElem_of_mem hx
    exact ih j _ _ (by simp [hj]) (by simp [show j < _ from hl ▸ hj]; rfl)
  | tu hl h1 ih =>
    refine .tu fun x hx => ?_
    obtain ⟨j, hj, rfl⟩ := List.getElem_of_mem hx
    exact ih j _ _ (by simp [hj]) (by simp [show j < _ from hl ▸ hj]; rfl)
  | _ => constructor
theorem BIn.mono {n n' : Nat} (h : n ≤ n') {k : Blk} (r : BIn n k) : BIn n' k := by
  cases k with
  | row o cs => exact fun x hx => (r x hx).mono h
  | loop l => exact ⟨Nat.lt_of_lt_of_le r.1 h, fun i v hv => (r.2 i v hv).mono h⟩
  | marks => trivial
theorem HIn.mono {n n' : Nat} (h : n ≤ n') {H : Heap} (r : HIn n H) : HIn n' H := fun b k hb => ⟨Nat.lt_of_lt_of_le (r b k hb).1 h, (r b k hb).2.mono h⟩
theorem TIn.mono {n n' : Nat} (h : n ≤ n') {T : Temps} (r : TIn n T) : TIn n' T := fun i v hi => (r i v hi).mono h
theorem VRelL.vin {ρ : Ren} {n : Nat} (hs : ∀ b x, ρ b = some x → b < n) {xs : List V} {ys : List Value} (r : VRelL ρ xs ys) : ∀ x ∈ xs, VIn n x := fun x hx => by
  obtain ⟨j, hj, rfl⟩ := List.getElem_of_mem hx
  obtain ⟨y, hy, hr⟩ := r.get (j := j) (x := xs[j]) (by simp [hj])
  exact hr.vin hs
theorem TRel.tin {ρ : Ren} {n N : Nat} (hs : ∀ b x, ρ b = some x → b < n) {T : Temps} {tmps : Array Value} (r : TRel ρ N T tmps) : TIn n T := fun i v hi => by
  obtain ⟨y, _, hr⟩ := r.2 i v hi
  exact hr.vin hs
theorem Sim.hin {pc : PrepC} {ρ : Ren} {n : Nat} {H : Heap} {w : World} (s : Sim pc ρ n H w) : HIn n H := fun b k hb => by
  obtain ⟨c, d, z, e, r⟩ := s.blk b k hb
  have hs := fun b x h => (s.sup b x h).1
  refine ⟨hs _ _ e, ?_⟩
  cases k with
  | row o cs =>
    obtain ⟨arr, t, fr, h1, h2, h3, h4, h5⟩ := r
    intro x hx
    obtain ⟨j, hj, rfl⟩ := List.getElem_of_mem hx
    obtain ⟨y, _, hr⟩ := h4 j cs[j] (by simp [hj])
    exact hr.vin hs
  | loop l =>
    obtain ⟨L, h1, lr⟩ := r
    obtain ⟨d', z', e'⟩ := lr.marks
    exact ⟨hs _ _ e', lr.tm.tin hs⟩
  | marks => trivial

def AOp.axs : AOp → List AX
  | .mv x | .box x | .ld _ _ x | .un _ x | .conv _ x | .fa _ x | .fld _ _ _ x | .blen _ x | .clr _ _ x | .nilc x | .b2s x | .ext x _ => [x]
  | .pick a b c => [a, b, c]
  | .new _ => []
  | .build _ ps => ps.map (·.2.2)
  | .lit _ _ _ ps => ps.map (·.2)
  | .st _ x y | .bin _ x y | .eqs _ _ x y | .eq1 _ _ x y | .mks _ _ _ x y | .ias _ x y | .iaa _ _ x y | .ixs x y | .app _ _ _ x y | .cpy _ x y => [x, y]
  | .mkf _ xs ys => xs ++ ys
  | .sls _ x _ _ _ | .sla _ _ x _ _ _ => [x]
  | .sstr x _ _ => [x]
  | .bmin xs | .bmax xs => xs
  | .call g xs => g :: xs
def AOp.zs : AOp → List V
  | .new z | .build z _ | .lit _ _ z _ | .mks _ _ z _ _ | .clr _ z _ => z
  | _ => []
def vinB : Nat → Nat → V → Bool
  | 0, _, _ => false
  | _ + 1, n, .p id _ => decide (id < n)
  | _ + 1, n, .sl id _ _ _ _ => decide (id < n)
  | _ + 1, n, .yl id => decide (id < n)
  | d + 1, n, .fn _ xs us => xs.all (vinB d n) && us.all (vinB d n)
  | d + 1, n, .ifc _ x => vinB d n x
  | d + 1, n, .ag xs => xs.all (vinB d n)
  | d + 1, n, .tu xs => xs.all (vinB d n)
  | _ + 1, _, _ => true
theorem vinB_spec : ∀ {d n : Nat} {v : V}, vinB d n v = true → VIn n v := by
  intro d
  induction d with
  | zero => intro n v h; simp [vinB] at h
  | succ d ih =>
    intro n v h
    cases v <;> simp [vinB] at h
    case p => exact .p h
    case sl => exact .sl h
    case yl => exact .yl h
    case fn => exact .fn (fun x hx => ih (h.1 x hx)) (fun x hx => ih (h.2 x hx))
    case ifc => exact .ifc (ih h)
    case ag => exact .ag fun x hx => ih (h x hx)
    case tu => exact .tu fun x hx => ih (h x hx)
    all_goals constructor
def AX.cok : AX → Bool
  | .c v => vinB 4 0 v
  | _ => true
/-- Constants, and zeros, name no ids. -/
def AOp.cok (o : AOp) : Bool := o.axs.all AX.cok && o.zs.all (vinB 4 0)
theorem AX.cok_val {x : AX} (h : x.cok = true) {n : Nat} {T : Temps} (hT : TIn n T) : VIn n (x.val T) := by
  cases x with
  | t i =>
    simp only [AX.val]
    cases hi : aget T i with
    | none => exact .un
    | some v => exact hT i v hi
  | c v => exact (vinB_spec h).mono (Nat.zero_le _)
  | f g => exact .fn (by simp) (by simp)

section ops
variable {n : Nat} {H : Heap}
theorem HIn.cons {n' : Nat} {i : Nat} {k : Blk} (h : HIn n H) (hn : n ≤ n') (hi : i < n') (hk : BIn n' k) : HIn n' ((i, k) :: H) := fun b j hb => by
  rw [aget_cons] at hb
  split at hb
  · rename_i e; cases hb; subst e; exact ⟨hi, hk⟩
  · exact (h.mono hn) b j hb
theorem HIn.put {i : Nat} {k k0 : Blk} (h : HIn n H) (hi : aget H i = some k0) (hk : BIn n k) : HIn n (aput H i k) := fun b j hb => by
  rw [aget_put] at hb
  split at hb
  · rename_i e; cases hb; subst e; exact ⟨(h _ _ hi).1, hk⟩
  · exact h b j hb
theorem HIn.del (h : HIn n H) (i : Nat) : HIn n (adel H i) := fun b j hb => by
  rw [aget_del] at hb
  split at hb
  · cases hb
  · exact h b j hb
theorem setAll_in {cs vs : List V} {off : Nat} (h : ∀ x ∈ cs, VIn n x) (hv : ∀ x ∈ vs, VIn n x) : ∀ x ∈ setAll cs off vs, VIn n x := by
  intro x hx
  unfold setAll at hx
  rcases List.mem_append.1 hx with h1 | h1
  · exact h x (List.mem_of_mem_take h1)
  · rcases List.mem_append.1 h1 with h2 | h2
    · exact hv x h2
    · exact h x (List.mem_of_mem_drop h2)
theorem cells_in {v : V} (h : VIn n v) : ∀ x ∈ v.cells, VIn n x := by
  cases v <;> intro x hx <;> simp [V.cells] at hx
  case ag => simp at h; exact h x hx
  all_goals (subst hx; exact h)
theorem fillA_in : ∀ {ps : List (Nat × Nat × V)} {cs out : List V}, fillA cs ps = some out → (∀ x ∈ cs, VIn n x) → (∀ p ∈ ps, VIn n p.2.2) → ∀ x ∈ out, VIn n x := by
  intro ps
  induction ps with
  | nil => intro cs out h hc _; cases h; exact hc
  | cons p ps ih =>
    obtain ⟨o, s, v⟩ := p
    intro cs out h hc hp
    simp only [fillA] at h
    split at h
    · exact ih h (setAll_in hc (cells_in (hp (o, s, v) (by simp)))) (fun p hp' => hp p (by simp [hp']))
    · cases h
theorem zrep_in {z : List V} (h : ∀ x ∈ z, VIn n x) (m : Nat) : ∀ x ∈ zrep z m, VIn n x := by
  intro x hx
  unfold zrep at hx
  split at hx
  · obtain ⟨_, rfl⟩ := List.mem_replicate.1 hx; exact h _ (by simp)
  · obtain ⟨l, h1, h2⟩ := List.mem_flatten.1 hx
    obtain ⟨_, rfl⟩ := List.mem_replicate.1 h1
    exact h x h2
theorem cellsOf_in (hH : HIn n H) {sz : Nat} {v : V} {cs : List V} (h : cellsOf H sz v = some cs) : ∀ x ∈ cs, VIn n x := by
  unfold cellsOf at h
  split at h
  · cases h; simp
  · split at h
    · rename_i ho
      split at h
      · cases h
        intro x hx
        exact (hH _ _ ho).2 x (List.mem_of_mem_drop (List.mem_of_mem_take hx))
      · cases h
    · cases h
  · cases h
theorem keep_in {o : Option V} {v : V} {n' : Nat} {H' : Heap} (h : keep n H o = some (v, n', H')) (hH : HIn n H) (ho : ∀ x, o = some x → VIn n x) : n ≤ n' ∧ VIn n' v ∧ HIn n' H' := by
  unfold keep at h
  split at h
  · cases h; exact ⟨Nat.le_refl _, ho _ rfl, hH⟩
  · cases h
theorem evalOp_in {T : Temps} {op : AOp} {v : V} {n' : Nat} {H' : Heap} (hT : TIn n T) (hH : HIn n H) (hc : op.cok = true) (h : evalOp T n H op = some (v, n', H')) : n ≤ n' ∧ VIn n' v ∧ HIn n' H' := by
  simp only [AOp.cok, Bool.and_eq_true, List.all_eq_true] at hc
  obtain ⟨hcx, hcz⟩ := hc
  have hx : ∀ x ∈ op.axs, VIn n (x.val T) := fun x h => AX.cok_val (hcx x h) hT
  have hz : ∀ x ∈ op.zs, VIn n x := fun x h => (vinB_spec (hcz x h)).mono (Nat.zero_le _)
  cases op <;> simp only [AOp.axs, AOp.zs] at hx hz <;> simp only [evalOp] at h
  case mv x => cases h; exact ⟨Nat.le_refl _, hx x (by simp), hH⟩
  case pick c a b =>
    split at h
    · rename_i t _
      cases h
      refine ⟨Nat.le_refl _, ?_, hH⟩
      cases t
      · exact hx b (by simp)
      · exact hx a (by simp)
    · cases h
  case new z => cases h; exact ⟨by omega, .p (by omega), hH.cons (by omega) (by omega) fun x h => (hz x h).mono (by omega)⟩
  case box x =>
    split at h
    · cases h
      exact ⟨by omega, .p (by omega), hH.cons (by omega) (by omega) fun y h => (cells_in (hx x (by simp)) y h).mono (by omega)⟩
    · cases h
  case build z ps =>
    refine keep_in h hH fun x hx' => ?_
    obtain ⟨cs, h1, rfl⟩ := Option.map_eq_some_iff.1 hx'
    refine .ag (fillA_in h1 hz fun p hp => ?_)
    obtain ⟨q, hq, rfl⟩ := List.mem_map.1 hp
    exact hx _ (List.mem_map.2 ⟨q, hq, rfl⟩)
  case lit sz len z ps =>
    split at h
    · rename_i cs h1
      cases h
      refine ⟨by omega, .sl (by omega), hH.cons (by omega) (by omega) fun x hx' => (fillA_in h1 hz (fun p hp => ?_) x hx').mono (by omega)⟩
      obtain ⟨q, hq, rfl⟩ := List.mem_map.1 hp
      exact hx _ (List.mem_map.2 ⟨q, hq, rfl⟩)
    · cases h
  case ld agg sz a =>
    unfold evLd at h
    split at h
    · split at h
      · rename_i ho
        have := (hH _ _ ho).2
        split at h
        · split at h
          · cases h; exact ⟨Nat.le_refl _, .ag fun x hx' => this x (List.mem_of_mem_drop (List.mem_of_mem_take hx')), hH⟩
          · cases h
        · split at h
          · rename_i v' hv; cases h; exact ⟨Nat.le_refl _, this _ (List.mem_of_getElem? hv), hH⟩
          · cases h
      · cases h
    · cases h
  case st sz a x =>
    unfold evSt at h
    split at h
    · split at h
      · rename_i ho
        split at h
        · cases h
          exact ⟨Nat.le_refl _, .un, hH.put ho (setAll_in (hH _ _ ho).2 (cells_in (hx x (by simp))))⟩
        · cases h
      · cases h
    · cases h
  case bin op x y =>
    refine keep_in h hH fun z hz' => ?_
    unfold evBin at hz'
    split at hz'
    · unfold binI at hz'
      have hcmp : ∀ op a b z, cmpI op a b = some z → VIn n z := by
        intro op a b z hz; cases op <;> simp [cmpI] at hz <;> (subst hz; constructor)
      cases op <;> simp only at hz' <;> (try split at hz') <;> first | (cases hz'; done) | (cases hz'; constructor) | exact hcmp _ _ _ _ hz'
    · cases op <;> simp only [binS] at hz' <;> (try split at hz') <;> first | (cases hz'; done) | (cases hz'; constructor)
    · cases hz'
  case eqs neg ks x y =>
    refine keep_in h hH fun z hz' => ?_
    unfold evEqs at hz'
    split at hz'
    · obtain ⟨r, _, rfl⟩ := Option.map_eq_some_iff.1 hz'; constructor
    · cases hz'
  case eq1 neg k x y =>
    refine keep_in h hH fun z hz' => ?_
    obtain ⟨r, _, rfl⟩ := Option.map_eq_some_iff.1 hz'; constructor
  case un op x =>
    refine keep_in h hH fun z hz' => ?_
    unfold evUn at hz'
    split at hz' <;> (try split at hz') <;> first | (cases hz'; done) | (cases hz'; constructor)
  case conv k x =>
    split at h
    · cases h; exact ⟨Nat.le_refl _, .i _ _, hH⟩
    · cases h
  case mkf g a b =>
    cases h
    refine ⟨Nat.le_refl _, .fn (fun x hx' => ?_) (fun x hx' => ?_), hH⟩
    · obtain ⟨q, hq, rfl⟩ := List.mem_map.1 hx'; exact hx q (by simp [hq])
    · obtain ⟨q, hq, rfl⟩ := List.mem_map.1 hx'; exact hx q (by simp [hq])
  case mks sz bytes z l c =>
    unfold evMks at h
    split at h
    · split at h
      · cases h
        exact ⟨by omega, .sl (by omega), hH.cons (by omega) (by omega) fun x hx' => (zrep_in hz _ x hx').mono (by omega)⟩
      · cases h
    · cases h
  case sls sz x lo hi mx =>
    refine keep_in h hH fun z hz' => ?_
    have hxx := hx x (by simp)
    unfold evSls at hz'
    split at hz'
    · rename_i hv
      rw [hv] at hxx
      split at hz'
      · split at hz'
        · cases hz'; simp at hxx ⊢; exact hxx
        · cases hz'
      · cases hz'
    · split at hz'
      · cases hz'; constructor
      · cases hz'
    · cases hz'
  case sla m sz x lo hi mx =>
    refine keep_in h hH fun z hz' => ?_
    have hxx := hx x (by simp)
    unfold evSla at hz'
    split at hz'
    · rename_i hv
      rw [hv] at hxx
      split at hz'
      · split at hz'
        · cases hz'; simp at hxx ⊢; exact hxx
        · cases hz'
      · cases hz'
    · cases hz'
  case sstr x lo hi =>
    refine keep_in h hH fun z hz' => ?_
    unfold evStr at hz'
    split at hz'
    · split at hz'
      · split at hz'
        · cases hz'; constructor
        · cases hz'
      · cases hz'
    · cases hz'
  case fa off x =>
    refine keep_in h hH fun z hz' => ?_
    have hxx := hx x (by simp)
    unfold evFa at hz'
    split at hz'
    · rename_i hv; rw [hv] at hxx; cases hz'; simp at hxx ⊢; exact hxx
    · cases hz'
  case fld agg off sz x =>
    refine keep_in h hH fun z hz' => ?_
    have hxx := hx x (by simp)
    unfold evFld at hz'
    split at hz'
    · rename_i cs hv
      rw [hv] at hxx
      simp at hxx
      split at hz'
      · split at hz'
        · cases hz'; exact .ag fun y hy => hxx y (List.mem_of_mem_drop (List.mem_of_mem_take hy))
        · cases hz'
      · exact hxx _ (List.mem_of_getElem? hz')
    · cases hz'
  case ias sz x i =>
    refine keep_in h hH fun z hz' => ?_
    have hxx := hx x (by simp)
    unfold evIas at hz'
    split at hz'
    · rename_i hv _
      rw [hv] at hxx
      split at hz'
      · cases hz'; simp at hxx ⊢; exact hxx
      · cases hz'
    · cases hz'
  case iaa len sz x i =>
    refine keep_in h hH fun z hz' => ?_
    have hxx := hx x (by simp)
    unfold evIaa at hz'
    split at hz'
    · rename_i hv _
      rw [hv] at hxx
      split at hz'
      · cases hz'; simp at hxx ⊢; exact hxx
      · cases hz'
    · cases hz'
  case ixs x i =>
    refine keep_in h hH fun z hz' => ?_
    unfold evIxs at hz'
    split at hz'
    · split at hz'
      · obtain ⟨c, _, rfl⟩ := Option.map_eq_some_iff.1 hz'; constructor
      · cases hz'
    · cases hz'
  case blen g x =>
    refine keep_in h hH fun z hz' => ?_
    unfold evLen at hz'
    split at hz' <;> first | (cases hz'; done) | (cases hz'; constructor)
  case bmin xs =>
    refine keep_in h hH fun z hz' => ?_
    unfold evFold at hz'
    split at hz'
    · cases hz'
    · rename_i x r hxr
      have hm : ∀ (r : List V) (x z : V), VIn n x → foldO minI x r = some z → VIn n z := by
        intro r
        induction r with
        | nil => intro x z hx h; cases h; exact hx
        | cons y r ih =>
          intro x z hx h
          simp only [foldO] at h
          split at h
          · rename_i z' hz'
            refine ih z' z ?_ h
            unfold minI at hz'
            split at hz'
            · cases hz'; constructor
            · cases hz'
          · cases h
      refine hm r x z ?_ hz'
      cases xs with
      | nil => simp at hxr
      | cons a xs => simp at hxr; rw [← hxr.1]; exact hx a (by simp)
  case bmax xs =>
    refine keep_in h hH fun z hz' => ?_
    unfold evFold at hz'
    split at hz'
    · cases hz'
    · rename_i x r hxr
      have hm : ∀ (r : List V) (x z : V), VIn n x → foldO maxI x r = some z → VIn n z := by
        intro r
        induction r with
        | nil => intro x z hx h; cases h; exact hx
        | cons y r ih =>
          intro x z hx h
          simp only [foldO] at h
          split at h
          · rename_i z' hz'
            refine ih z' z ?_ h
            unfold maxI at hz'
            split at hz'
            · cases hz'; constructor
            · cases hz'
          · cases h
      refine hm r x z ?_ hz'
      cases xs with
      | nil => simp at hxr
      | cons a xs => simp at hxr; rw [← hxr.1]; exact hx a (by simp)
  case app sz bytes z s x =>
    have hs := hx s (by simp)
    unfold evApp at h
    split at h
    · rename_i new hnew
      have hnew' := cellsOf_in hH hnew
      split at h
      · split at h
        · split at h
          · cases h; exact ⟨Nat.le_refl _, .nils, hH⟩
          · split at h
            · cases h; exact ⟨by omega, .sl (by omega), hH.cons (by omega) (by omega) fun x hx' => (hnew' x hx').mono (by omega)⟩
            · cases h
        · rename_i hv
          rw [hv] at hs
          simp at hs
          split at h
          · rename_i ho
            have hold := (hH _ _ ho).2
            have hrow : ∀ (l o : Nat), ∀ x ∈ (List.take l (List.drop o _)) ++ new, VIn n x := fun l o x hx' => by
              rcases List.mem_append.1 hx' with h1 | h1
              · exact hold x (List.mem_of_mem_drop (List.mem_of_mem_take h1))
              · exact hnew' x h1
            split at h
            · split at h
              · split at h
                · cases h; exact ⟨Nat.le_refl _, .sl hs, hH⟩
                · cases h; exact ⟨by omega, .sl (by omega), hH.cons (by omega) (by omega) fun x hx' => (hrow _ _ x hx').mono (by omega)⟩
              · split at h
                · cases h; exact ⟨by omega, .sl (by omega), (hH.del _).cons (by omega) (by omega) fun x hx' => (hrow _ _ x hx').mono (by omega)⟩
                · cases h
            · cases h
          · cases h
        · cases h
      · cases h
    · cases h
  case cpy sz d s =>
    unfold evCpy at h
    split at h
    · rename_i new hnew
      have hnew' := cellsOf_in hH hnew
      split at h
      · cases h; exact ⟨Nat.le_refl _, .i _ _, hH⟩
      · split at h
        · rename_i ho
          split at h
          · cases h; exact ⟨Nat.le_refl _, .i _ _, hH.put ho (setAll_in (hH _ _ ho).2 fun x hx' => hnew' x (List.mem_of_mem_take hx'))⟩
          · cases h
        · cases h
      · cases h
    · cases h
  case clr sz z x =>
    unfold evClr at h
    split at h
    · cases h; exact ⟨Nat.le_refl _, .tu (by simp), hH⟩
    · split at h
      · cases h; exact ⟨Nat.le_refl _, .tu (by simp), hH⟩
      · split at h
        · rename_i ho
          split at h
          · cases h; exact ⟨Nat.le_refl _, .tu (by simp), hH.put ho (setAll_in (hH _ _ ho).2 (zrep_in hz _))⟩
          · cases h
        · cases h
    · cases h
  case call g xs => cases h
  case nilc x =>
    refine keep_in h hH fun z hz' => ?_
    have hxx := hx x (by simp)
    unfold evNil at hz'
    split at hz'
    · rename_i hv; rw [hv] at hxx; cases hz'; exact hxx
    · cases hz'
  case ext x i =>
    refine keep_in h hH fun z hz' => ?_
    have hxx := hx x (by simp)
    unfold evExt at hz'
    split at hz'
    · rename_i cs hv; rw [hv] at hxx; simp at hxx; exact hxx _ (List.mem_of_getElem? hz')
    · cases hz'
  case b2s x =>
    refine keep_in h hH fun z hz' => ?_
    unfold evB2s at hz'
    split at hz'
    · obtain ⟨l, _, rfl⟩ := Option.map_eq_some_iff.1 hz'; constructor
    · cases hz'
end ops
end Go.Proofs.Ytpgelghkjiejlaa
