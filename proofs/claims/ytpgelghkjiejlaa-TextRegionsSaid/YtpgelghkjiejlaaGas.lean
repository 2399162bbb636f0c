/- A text's ink: ink of package text. A text's ink, and its region: ink and Region of package text. Regions that draw: a slice to which another one's elements are appended, of any size; the verifier's Of, with its rows. The verifier's Of: a text's letters, with their rows. The verifier's Of, as a whole. The verifier's Of, its contract; widths of a text. The verifier's Fits, Width, Counts, Box. The verifier's Box. -/
import Derived.Test.YtpgelghkjiejlaaGar
set_option linter.unusedVariables false
set_option linter.unusedSimpArgs false
section
set_option maxRecDepth 4000
namespace Go.Proofs.Ytpgelghkjiejlaa
open Go
attribute [local irreducible] opsF drawF drawP fontC shV
def inkC (w : Bool) (x y : Int) (c : Rc) (s : List UInt8) : Nat → List Rc
  | 0 => []
  | i + 1 => inkLet w (plc (s.getD i 0)) (w64 (x + (pw w (s.take i) : Nat))) y c (inkC w x y c s i)
theorem inkLet_len (w : Bool) (l : Nat) (left y : Int) (c : Rc) (out : List Rc) : (inkLet w l left y c out).length ≤ out.length + 72 := by
  unfold inkLet
  have := inkRows_len w l left y c (fH w) out
  have := fH_le w
  split <;> omega
theorem inkC_len (w : Bool) (x y : Int) (c : Rc) (s : List UInt8) : ∀ i, (inkC w x y c s i).length ≤ 72 * i
  | 0 => by simp [inkC]
  | i + 1 => by
    have h1 := inkC_len w x y c s i
    have h2 := inkLet_len w (plc (s.getD i 0)) (w64 (x + (pw w (s.take i) : Nat))) y c (inkC w x y c s i)
    unfold inkC
    omega
/-- What must be known of sizes for a region cut by a rectangle. -/
structure CutOk (l : List Rc) (c : Rc) : Prop where
  hl : l.length ≤ 1000000
  hil : ∀ r ∈ l, InRc r
  h1 : (ofL l).length ≤ 1000000
  hc : InRc c
  h2 : (ofL [c]).length ≤ 1000000
  h3 : (joinC (fun p q => p && q) (ofL l) (ofL [c])).length ≤ 1000000
  h4 : ∀ r ∈ joinC (fun p q => p && q) (ofL l) (ofL [c]), InRc r
theorem drawF_stA {P : Program} {o : AOper} {os : List AOper} {T : Temps} {D : List Nat} {n : Nat} {H : Heap} {acc : List DStep} {K : List DStep → St → Prop} {a x : AX} {c : Nat} {u0 u : V} (hg : guardOf T o.guard = some true) (ho : o.op = .st 1 a x) (ha : a.val T = .p c 0) (hc : aget H c = some (.row true [u0])) (hcn : c < n) (hok : o.op.cok = true) (hx : x.val T = .ag [u]) (h2 : u.one = true)
    (h : drawF P os ⟨putT T o.dst .un, D, n, mergeH H [c] n n [(c, .row true [u])]⟩ (acc ++ [⟨(AOp.st 1 a x).slots ++ gslots o.guard, o.dst, [], [c], n, n, .un, [(c, .row true [u])]⟩]) K) : drawF P (o :: os) ⟨T, D, n, H⟩ acc K := by
  have hres : restr H [] [c] = [(c, .row true [u0])] := by unfold restr; simp only [pickR, hc, _root_.id, List.append_nil]
  have hev : evalOp T n (restr H [] [c]) o.op = some (.un, n, [(c, .row true [u])]) := by
    rw [ho, hres]
    show evSt n [(c, .row true [u0])] 1 (a.val T) (x.val T) = _
    rw [ha, hx, evSt_ag (cs := [u0]) (by simp) rfl h2]
    simp [aput]
  have hd := drawF_op (P := P) (o := o) (os := os) (st := ⟨T, D, n, H⟩) (acc := acc) (K := K) (fr := []) (fw := [c]) hg (fun g l hx => by rw [ho] at hx; cases hx) hev hok ⟨Nat.le_refl _, by simpa using hcn, fun b hb => by rw [List.mem_singleton.1 hb]; exact ⟨_, hc⟩, fun p hp _ => by rw [List.mem_singleton.1 hp]; rfl⟩
  rw [ho] at hd
  exact hd h
def iEnd : ACode := (.ops (some [0, 1, 0, 7, 15]) [⟨(some 78), (.ld false 1 (.t 11)), none⟩,
     ⟨(some 79), (.call (.f 46) [(.t 78)]), none⟩,
     ⟨(some 80), (.ld true 4 (.t 9)), none⟩,
     ⟨(some 81), (.call (.f 45) [(.t 79), (.t 80)]), none⟩,
     ⟨none, (.st 1 (.t 10) (.t 81)), none⟩])
theorem idOf_slB {f : Bool} {m len b : Nat} (h : b ∈ idOf (slB f m 4 len)) : b = m ∧ f = true := by
  cases f
  · simp [slB] at h
  · simpa [slB] using h
theorem iEnd_ok {Q : Exit → St → Prop} (c5 c6 c7 c9 c10 c11 q q4 : Nat) (c : Rc) (out : List Rc) (hC : CutOk out c) (D : List Nat) (n : Nat) (H : Heap) (fo : Bool) (mo : Nat) (hcell : aget H c11 = some (.row true [slB fo mo 4 out.length])) (hS : SlR H (slB fo mo 4 out.length) out) (h9 : aget H c9 = some (.row true (rc4 c))) (h10 : aget H c10 = some (.row true [.nils])) (hne : c9 ≠ c10 ∧ c11 ≠ c10 ∧ (fo = true → mo ≠ c10))
    (hQ : ∀ T' H' f' m', let wl := withinL (ofL out) c; (∀ b k, b ≠ c10 → b < n → aget H b = some k → aget H' b = some k) → f' = (!wl.isEmpty) → aget H' c10 = some (.row true [slB f' m' 4 wl.length]) → (f' = true → aget H' m' = some (.row true (rcs wl))) → n ≤ m' → aget T' 10 = some (.p c10 0) → Q .normal ⟨T', D, n + 2, H'⟩) :
    AWc Try.prog 82 none iEnd ⟨iG c5 c6 c7 c9 c10 c11 q q4, D, n, H⟩ Q := by
  refine .withIn fun hin => ?_
  have hin : HIn n H := hin
  have n11 := (hin _ _ hcell).1
  have n9 := (hin _ _ h9).1
  have n10 := (hin _ _ h10).1
  have hmo : ∀ b ∈ idOf (slB fo mo 4 out.length), b < n ∧ b ≠ c10 := fun b hb => by
    obtain ⟨rfl, hf⟩ := idOf_slB hb
    refine ⟨?_, hne.2.2 hf⟩
    rcases hS with ⟨h1, _⟩ | ⟨id, off, full, o, pre, post, h1, h2, _⟩
    · subst hf; cases h1
    · subst hf; cases h1; exact (hin _ _ h2).1
  have hof := of_ok (slB fo mo 4 out.length) out hC.hl hC.hil n (restr H (idOf (slB fo mo 4 out.length)) []) (hS.restrL (fun b hb => hb))
  obtain ⟨H1, hH1⟩ : ∃ H1, H1 = mergeH H [] n (n + 1) (newH (ofL out) n H (idOf (slB fo mo 4 out.length))) := ⟨_, rfl⟩
  have m1 : ∀ b, b ≠ n → aget H1 b = aget H b := fun b hb => by rw [hH1]; exact newH_old _ _ _ _ _ hb
  have hS1 : SlR H1 (slB (!(ofL out).isEmpty) n 4 (ofL out).length) (ofL out) := by rw [hH1]; exact newH_slR _ _ _ _
  have hin1 : HIn (n + 1) H1 := by rw [hH1]; exact newH_in hin (fun b hb => (hmo b hb).1)
  have hwi := within_ok (slB (!(ofL out).isEmpty) n 4 (ofL out).length) (ofL out) c hC.h1 hC.hc hC.h2 hC.h3 hC.h4 (n + 1) (restr H1 (idOf (slB (!(ofL out).isEmpty) n 4 (ofL out).length)) []) (hS1.restrL (fun b hb => hb))
  have hfr : ∀ b ∈ idOf (slB (!(ofL out).isEmpty) n 4 (ofL out).length), b < n + 1 ∧ b ≠ c10 := fun b hb => by
    obtain ⟨rfl, _⟩ := idOf_slB hb; omega
  generalize withinL (ofL out) c = wl at hwi hQ
  obtain ⟨H2, hH2⟩ : ∃ H2, H2 = mergeH H1 [] (n + 1) (n + 1 + 1) (newH wl (n + 1) H1 (idOf (slB (!(ofL out).isEmpty) n 4 (ofL out).length))) := ⟨_, rfl⟩
  have m2 : ∀ b, b ≠ n + 1 → aget H2 b = aget H1 b := fun b hb => by rw [hH2]; exact newH_old _ _ _ _ _ hb
  have m2n : (!wl.isEmpty) = true → aget H2 (n + 1) = some (.row true (rcs wl)) := fun h => by
    rw [hH2, mergeN, if_pos (by omega), newH, h, rowB_t, aget_cons, if_pos rfl]
  have g9 : aget H1 c9 = some (.row true (rc4 c)) := by rw [m1 _ (by omega)]; exact h9
  have g10 : aget H2 c10 = some (.row true [.nils]) := by rw [m2 _ (by omega), m1 _ (by omega)]; exact h10
  have n9' : c9 < n + 1 := by omega
  have hl4 : (rc4 c).length = 4 := rfl
  have hd4 : (rc4 c).take 4 = rc4 c := rfl
  unfold iEnd
  refine .drawS (by rfl) ?_
  refine drawF_run 1 (by rfl) (by simp [iG, hcell, n11]; exact ⟨rfl, rfl⟩) ?_
  refine drawF_newG (idOf (slB fo mo 4 out.length)) (ofL out) rfl rfl rfl hof (fun b hb => (hmo b hb).1) ?_
  rw [← hH1]
  refine drawF_run 1 (by rfl) (by simp [g9, n9', hl4, hd4]; exact ⟨rfl, rfl⟩) ?_
  refine drawF_newG _ wl rfl rfl rfl hwi (fun b hb => (hfr b hb).1) ?_
  rw [← hH2]
  refine drawF_stA (c := c10) rfl rfl rfl g10 (by omega) rfl rfl (slB_one _ _ _ _) ?_
  refine drawF_all (by rfl) (by simp; exact ⟨rfl, rfl⟩) ⟨?_, ?_⟩
  · have e1 : ¬ c10 = c9 := fun e => hne.1 e.symm
    have e2 : ¬ c10 = c11 := fun e => hne.2.1 e.symm
    simp [-idOf, heapOk, heapRow, heavy, heapI]
    repeat' (first | apply And.intro | intro _)
    all_goals first | decide | exact .inl (by decide) | omega
  · have m3 : ∀ b, b ≠ c10 → aget (mergeH H2 [c10] (n + 1 + 1) (n + 1 + 1) [(c10, .row true [slB (!wl.isEmpty) (n + 1) 4 wl.length])]) b = aget H2 b := fun b hb => by
      rw [mergeW, if_neg]; omega
    refine hQ _ _ (!wl.isEmpty) (n + 1) (fun b k h1 h2 h3 => ?_) rfl ?_ (fun hf => ?_) (by omega) (by simp)
    · rw [m3 b h1, m2 _ (by omega), m1 _ (by omega)]; exact h3
    · rw [mergeW, if_pos (.inl rfl)]; simp
    · rw [m3 _ (by omega)]; exact m2n hf
end Go.Proofs.Ytpgelghkjiejlaa
end
section
set_option maxRecDepth 4000
namespace Go.Proofs.Ytpgelghkjiejlaa
open Go
attribute [local irreducible] opsF drawF drawP fontC shV
theorem ink_ok (w : Bool) (x y : Int) (s : List UInt8) (c : Rc) (hs : s.length ≤ 4096) (hC : CutOk (inkC w x y c s s.length) c) (n : Nat) (H : Heap) :
    ACalls Try.prog 33 [.ag (fontC w), .i .i64 x, .i .i64 y, .s s, rV c] n H (NewG (withinL (ofL (inkC w x y c s s.length)) c) n H) := by
  refine ACalls.newG (K := fun v n' H' => (∀ q k, aget H q = some k → aget H' q = some k) ∧ ((withinL (ofL (inkC w x y c s s.length)) c = [] ∧ v = .ag [.nils]) ∨ (withinL (ofL (inkC w x y c s s.length)) c ≠ [] ∧ ∃ id full post, v = .ag [.sl id 0 4 (withinL (ofL (inkC w x y c s s.length)) c).length full] ∧ (∀ q k, aget H q = some k → q ≠ id) ∧ aget H' id = some (.row true (rcs (withinL (ofL (inkC w x y c s s.length)) c) ++ post))))) (withinL (ofL (inkC w x y c s s.length)) c) ?_ (fun v n' H' h => h)
  refine .withIn (ACalls.enters F33_ok trivial) fun hin hargs => ?_
  have hin : HIn n H := hin
  refine .enter F33_ok (by simp [F33]) ?_
  refine .seq (.ops (opsF_all (by simp [rV, rc4]; rfl) ?_))
  refine .seq (.ops (opsF_all (by simp; rfl) ?_))
  have hr4 : [V.i .i64 c.x, .i .i64 c.y, .i .i64 c.w, .i .i64 c.h] = rc4 c := rfl
  rw [hr4]
  have hset : (fontC w).length = 1617 := fontC_len w
  refine AWc.seq (.seq (.ops (opsF_run 2 (by simp; rfl) ?_)))
  refine opsF_call rfl rfl (callV_fn (ACalls.mono (laid_ok w s _ _) ?_))
  rintro _ _ _ ⟨rfl, rfl, rfl⟩
  refine opsF_nil ?_
  obtain ⟨H6, hH6⟩ : ∃ H6 : Heap, H6 = (n + 7, .row true [.s s]) :: (n + 6, .row true (fontC w)) :: (n + 5, .row true [.nils]) :: (n + 4, .row true [.nils]) :: (n + 3, .row true (rc4 c)) :: (n + 2, .row true [.i .i64 y]) :: (n + 1, .row true [.i .i64 x]) :: (n, .row true (fontC w)) :: H := ⟨_, rfl⟩
  have g0 : aget H6 n = some (.row true (fontC w)) := by rw [hH6]; simp
  have g1 : aget H6 (n + 1) = some (.row true [.i .i64 x]) := by rw [hH6]; simp
  have g2 : aget H6 (n + 2) = some (.row true [.i .i64 y]) := by rw [hH6]; simp
  have g3 : aget H6 (n + 3) = some (.row true (rc4 c)) := by rw [hH6]; simp
  have g4 : aget H6 (n + 4) = some (.row true [.nils]) := by rw [hH6]; simp
  have g5 : aget H6 (n + 5) = some (.row true [.nils]) := by rw [hH6]; simp
  have g6 : aget H6 (n + 6) = some (.row true (fontC w)) := by rw [hH6]; simp
  have g7 : aget H6 (n + 7) = some (.row true [.s s]) := by rw [hH6]; simp
  have gk : ∀ q k, aget H q = some k → aget H6 q = some k := fun q k hq => by
    have := (hin _ _ hq).1
    rw [hH6]
    simp [show ¬ n + 7 = q by omega, show ¬ n + 6 = q by omega, show ¬ n + 5 = q by omega, show ¬ n + 4 = q by omega, show ¬ n + 3 = q by omega, show ¬ n + 2 = q by omega, show ¬ n + 1 = q by omega, show ¬ n = q by omega, hq]
  refine AWc.alikeH (H := H6) (fun q => by rw [hH6]) ?_
  clear hH6
  refine AWc.withIn fun hin6 => ?_
  have hin6 : HIn (n + 8) H6 := hin6
  refine AWc.forget (T0 := iG n (n + 1) (n + 2) (n + 3) (n + 4) (n + 5) (n + 7) (n + 6)) (by simp [iG]) ?_
  obtain ⟨r0, hr0⟩ : ∃ r0 : ALoop, r0 = ⟨.ready, none, 82, iG n (n + 1) (n + 2) (n + 3) (n + 4) (n + 5) (n + 7) (n + 6), [21, 22], iAs, iBo, n + 8⟩ := ⟨_, rfl⟩
  obtain ⟨KP, hKP⟩ : ∃ KP : Nat → Blk → Prop, KP = fun b k => (aget H6 b = some k ∧ b ≠ n + 5) ∨ (b = n + 8 ∧ k = .marks) := ⟨_, rfl⟩
  have hKL : ∀ k, ¬ KP (n + 9) k := fun k hk => by
    rw [hKP] at hk
    rcases hk with ⟨hk, _⟩ | ⟨hk, _⟩
    · have := (hin6 _ _ hk).1; omega
    · omega
  have hKn : ∀ b k, KP b k → b < n + 10 := fun b k hk => by
    rw [hKP] at hk
    rcases hk with ⟨hk, _⟩ | ⟨hk, _⟩
    · have := (hin6 _ _ hk).1; omega
    · omega
  obtain ⟨H1, hH1⟩ : ∃ H1 : Heap, H1 = (n + 9, .loop r0) :: (n + 8, .marks) :: H6 := ⟨_, rfl⟩
  have k1 : ∀ b k, aget H6 b = some k → aget H1 b = some k := fun b k hb => by
    have := (hin6 _ _ hb).1
    rw [hH1, aget_cons, if_neg (by omega), aget_cons, if_neg (by omega)]; exact hb
  have hI0 : InvG (n + 5) (n + 9) r0 KP (n + 10) H1 false 0 [] [] := by
    refine ⟨false, 0, {
      cell := k1 _ _ g5
      keep := fun b k hk => by
        rw [hKP] at hk
        rcases hk with ⟨hk, hk2⟩ | ⟨rfl, rfl⟩
        · exact ⟨k1 _ _ hk, hk2, by simp, by simp⟩
        · exact ⟨by rw [hH1]; simp, by omega, by simp, by simp⟩
      frn := by simp
      fon := by simp
      fot := by simp
      rowb := by simp
      outb := by simp
      ne := by simp }, by rw [hH1]; simp, by omega, by simp, by simp, by omega, by omega, by simp, by simp, hKn⟩
  have kf : ∀ b k, aget H6 b = some k → b ≠ n + 5 → KP b k := fun b k h1 h2 => by rw [hKP]; exact .inl ⟨h1, h2⟩
  have hcall := laidG_ok w s hs (n + 9) (n + 7) (n + 6) (fun i n' H' => n + 10 ≤ n' ∧ InvG (n + 5) (n + 9) r0 KP n' H' false 0 [] (inkC w x y c s i))
    (fun i n' H' ⟨_, fo, mo, g, _⟩ => ⟨⟨true, (g.keep _ _ (kf _ _ g7 (by omega))).1⟩, true, (g.keep _ _ (kf _ _ g6 (by omega))).1⟩)
    (fun i hi n' H' ⟨hn', hI⟩ => by
      have hl := inkC_len w x y c s i
      refine YCalls.mono (ink_yield w (n + 9) r0 n (n + 1) (n + 2) (n + 3) (n + 4) (n + 5) (n + 7) (n + 6) (n + 8) hr0 KP hKL x y c (kf _ _ g0 (by omega)) (kf _ _ g1 (by omega)) (kf _ _ g2 (by omega)) (kf _ _ g3 (by omega)) (plc s[i]) (pw w (s.take i)) (inkC w x y c s i) n' H' (by omega) hI) ?_
      rintro v n2 H2 ⟨rfl, q1, q2, q3⟩
      refine ⟨rfl, q1, ⟨by omega, ?_⟩, q3⟩
      have : s.getD i 0 = s[i] := by simp [List.getD, List.getElem?_eq_getElem hi]
      unfold inkC
      rw [this]
      exact q2)
    (n + 10) H1 ⟨Nat.le_refl _, hI0⟩
  refine .block (AWc.rangeF_top (fid := 42) (first := []) (caps := [.p (n + 7) 0, .p (n + 6) 0]) (by simp [iG]) ?_)
  rw [hH1, hr0] at hcall
  refine ACalls.mono hcall ?_
  rintro v n' H' ⟨hn', fo, mo, g, gL, gLc, _, gLo, _, _, _, gmo, _⟩
  refine ⟨_, gL, by simp, ?_⟩
  have kg : ∀ b k, aget H6 b = some k → b ≠ n + 5 → aget (adel H' (n + 9)) b = some k := fun b k h1 h2 => by
    have := (hin6 _ _ h1).1
    rw [aget_del, if_neg (by omega)]; exact (g.keep _ _ (kf b k h1 h2)).1
  have hmk := (g.keep (n + 8) .marks (by rw [hKP]; exact .inr ⟨rfl, rfl⟩))
  have hcell : aget (adel H' (n + 9)) (n + 5) = some (.row true [slB fo mo 4 (inkC w x y c s s.length).length]) := by rw [aget_del, if_neg (by omega)]; exact g.cell
  have hS : SlR (adel H' (n + 9)) (slB fo mo 4 (inkC w x y c s s.length).length) (inkC w x y c s s.length) := .ofB g.fon fun hf => by
    obtain ⟨_, p, _, hp⟩ := g.outb hf
    exact ⟨true, p, by rw [aget_del, if_neg (fun e => gLo hf e)]; exact hp⟩
  have hm4 := (g.keep _ _ (kf _ _ g4 (by omega))).2.2.2
  have hmk2 : aget (adel H' (n + 9)) (n + 8) = some .marks := by rw [aget_del, if_neg (by omega)]; exact hmk.1
  generalize adel H' (n + 9) = H5 at kg hcell hS hmk2
  refine AWc.seq (iEnd_ok n (n + 1) (n + 2) (n + 3) (n + 4) (n + 5) (n + 7) (n + 6) c (inkC w x y c s s.length) hC [n + 8] n' H5 fo mo hcell hS (kg _ _ g3 (by omega)) (kg _ _ g4 (by omega)) ⟨by omega, by omega, fun hf e => hm4 hf e.symm⟩ fun T2 H2 f' m' hk2 hf' hc2 hm2 hnm hT2 => ?_)
  refine AWc.forget (T0 := [(10, .p (n + 4) 0)]) (by simp [hT2]) (.ret ⟨.inr rfl, fun m hm => ?_, by simp, [.ag [slB f' m' 4 (withinL (ofL (inkC w x y c s s.length)) c).length]], ?_, ?_, ?_⟩)
  · rw [List.mem_singleton.1 hm]
    exact hk2 _ _ (by omega) (by omega) hmk2
  · have : aget (delAll H2 [n + 8]) (n + 4) = some (.row true [slB f' m' 4 (withinL (ofL (inkC w x y c s s.length)) c).length]) := by rw [aget_delAll _ _ _ (by simp)]; exact hc2
    simp [F33, this]
  · intro q k hq
    have hqn := (hin _ _ hq).1
    show aget (delAll H2 [n + 8]) q = _
    rw [aget_delAll _ _ _ (by simp; omega)]
    exact hk2 _ _ (by omega) (by omega) (kg _ _ (gk _ _ hq) (by omega))
  · generalize withinL (ofL (inkC w x y c s s.length)) c = wl at hf' hc2 hm2 ⊢
    cases wl with
    | nil => exact .inl ⟨rfl, by rw [hf']; rfl⟩
    | cons r l =>
      refine .inr ⟨by simp, m', false, [], by rw [hf']; rfl, fun q k hq => ?_, ?_⟩
      · have := (hin _ _ hq).1; omega
      · show aget (delAll H2 [n + 8]) m' = _
        rw [aget_delAll _ _ _ (by simp; omega), hm2 (by rw [hf']; rfl), List.append_nil]
/-- As far as places may go. -/
def allRc : Rc := ⟨-1048576, -1048576, 2097152, 2097152⟩
def regL (w : Bool) (x y : Int) (s : List UInt8) : List Rc := if coordV x && coordV y then withinL (ofL (inkC w x y allRc s s.length)) allRc else []
theorem region_ok (w : Bool) (x y : Int) (s : List UInt8) (hs : s.length ≤ 4096) (hC : (coordV x && coordV y) = true → CutOk (inkC w x y allRc s s.length) allRc) (n : Nat) (H : Heap) :
    ACalls Try.prog 16 [.ag (fontC w), .i .i64 x, .i .i64 y, .s s] n H (NewG (regL w x y s) n H) := by
  refine ACalls.newG (K := fun v n' H' => (∀ q k, aget H q = some k → aget H' q = some k) ∧ ((regL w x y s = [] ∧ v = .ag [.nils]) ∨ (regL w x y s ≠ [] ∧ ∃ id full post, v = .ag [.sl id 0 4 (regL w x y s).length full] ∧ (∀ q k, aget H q = some k → q ≠ id) ∧ aget H' id = some (.row true (rcs (regL w x y s) ++ post))))) (regL w x y s) ?_ (fun v n' H' h => h)
  refine .withIn (ACalls.enters F16_ok trivial) fun hin hargs => ?_
  have hin : HIn n H := hin
  have hset : (fontC w).length = 1617 := fontC_len w
  refine .enter0 F16_ok (by simp [F16]) ?_
  refine .seq (.ops (opsF_all (by simp; rfl) ?_))
  have gk : ∀ q k, aget H q = some k → aget ((n + 1, Blk.row true [.nils]) :: (n, Blk.row true (fontC w)) :: H) q = some k := fun q k hq => by
    have := (hin _ _ hq).1
    rw [aget_cons, if_neg (by omega), aget_cons, if_neg (by omega)]; exact hq
  have hno : (coordV x && coordV y) = false → ∀ T : Temps, aget T 8 = some (.p (n + 1) 0) → aget T 17 = some (.b true) → AWc Try.prog F16.N none (.cond (.t 17)
    (.seq (.ops none [⟨(some 18), (.build [.nils] []), none⟩,
      ⟨none, (.st 1 (.t 8) (.t 18)), none⟩])
     (.ret))
    (.skip)) ⟨T, [], n + 2, (n + 1, Blk.row true [.nils]) :: (n, Blk.row true (fontC w)) :: H⟩ (onNormal (fun s => False) fun e st => (e = .normal ∨ e = .ret) ∧ st.D = [] ∧ ∃ vs, resAll st.T st.H F16.res = some vs ∧ ((∀ q k, aget H q = some k → aget st.H q = some k) ∧ ((regL w x y s = [] ∧ resV vs = .ag [.nils]) ∨ (regL w x y s ≠ [] ∧ ∃ id full post, resV vs = .ag [.sl id 0 4 (regL w x y s).length full] ∧ (∀ q k, aget H q = some k → q ≠ id) ∧ aget st.H id = some (.row true (rcs (regL w x y s) ++ post)))))) := by
    intro hc T t8 t17
    have hr : regL w x y s = [] := by unfold regL; rw [hc]; rfl
    refine AWc.forget (T0 := [(8, .p (n + 1) 0), (17, .b true)]) (by simp [t8, t17]) ?_
    refine .cond (t := true) (by simp) (.seq (.ops (opsF_all (by simp [setAll]; rfl) ?_)))
    refine .ret ⟨.inr rfl, rfl, [.ag [.nils]], by simp [F16], fun q k hq => ?_, .inl ⟨hr, rfl⟩⟩
    exact gk q k hq
  cases hx : coordV x with
  | false =>
    refine .seq (.seq (.ops (opsF_run 1 (by simp; rfl) ?_)))
    refine opsF_cons_call rfl rfl rfl (v := .b false) (by simpa [hx] using coord_pure x _ _) ?_
    refine opsF_run 3 (by simp; rfl) ?_
    refine opsF_all (by simp; rfl) ?_
    refine (hno (by rw [hx]; rfl) _ (by simp) (by simp)).conseq fun e st h => ?_
    cases e <;> first | exact h.elim | exact h
  | true =>
    cases hy : coordV y with
    | false =>
      refine .seq (.seq (.ops (opsF_run 1 (by simp; rfl) ?_)))
      refine opsF_cons_call rfl rfl rfl (v := .b true) (by simpa [hx] using coord_pure x _ _) ?_
      refine opsF_run 3 (by simp; rfl) ?_
      refine opsF_cons_call rfl rfl rfl (v := .b false) (by simpa [hy] using coord_pure y _ _) ?_
      refine opsF_all (by simp; rfl) ?_
      refine (hno (by rw [hx, hy]; rfl) _ (by simp) (by simp)).conseq fun e st h => ?_
      cases e <;> first | exact h.elim | exact h
    | true =>
      have hr : regL w x y s = withinL (ofL (inkC w x y allRc s s.length)) allRc := by unfold regL; rw [hx, hy]; rfl
      have hC' := hC (by rw [hx, hy]; rfl)
      refine .seq (.seq (.ops (opsF_run 1 (by simp; rfl) ?_)))
      refine opsF_cons_call rfl rfl rfl (v := .b true) (by simpa [hx] using coord_pure x _ _) ?_
      refine opsF_run 3 (by simp; rfl) ?_
      refine opsF_cons_call rfl rfl rfl (v := .b true) (by simpa [hy] using coord_pure y _ _) ?_
      refine opsF_all (by simp; rfl) ?_
      refine .cond (t := false) (by simp) (.skip ?_)
      refine AWc.forget (T0 := [(1, .i .i64 x), (2, .i .i64 y), (3, .s s), (4, .p n 0), (8, .p (n + 1) 0)]) (by simp) ?_
      refine AWc.seq (.ops (opsF_run 2 (by simp [setAll]; rfl) ?_))
      refine opsF_all (by simp [setAll]; rfl) ?_
      obtain ⟨H2, hH2⟩ : ∃ H2 : Heap, H2 = (n + 2, Blk.row true (rc4 allRc)) :: (n + 1, Blk.row true [.nils]) :: (n, Blk.row true (fontC w)) :: H := ⟨_, rfl⟩
      have g2 : aget H2 (n + 2) = some (.row true (rc4 allRc)) := by rw [hH2]; simp
      have g1 : aget H2 (n + 1) = some (.row true [.nils]) := by rw [hH2]; simp
      have g0 : aget H2 n = some (.row true (fontC w)) := by rw [hH2]; simp
      have gk2 : ∀ q k, aget H q = some k → aget H2 q = some k := fun q k hq => by
        have := (hin _ _ hq).1
        rw [hH2, aget_cons, if_neg (by omega)]; exact gk q k hq
      refine AWc.alikeH (H := H2) (fun q => by rw [hH2]; rfl) ?_
      have hin2 := ink_ok w x y s allRc hs hC' (n + 3) H2
      rw [← hr] at hin2
      generalize regL w x y s = rl at hin2 ⊢
      have hl4 : (rc4 allRc).length = 4 := rfl
      have hd4 : (rc4 allRc).take 4 = rc4 allRc := rfl
      refine AWc.forget (T0 := [(1, .i .i64 x), (2, .i .i64 y), (3, .s s), (4, .p n 0), (8, .p (n + 1) 0), (9, .p (n + 2) 0)]) (by simp) ?_
      refine AWc.seq (.ops (opsF_run 4 (by simp [g0]; rfl) ?_))
      refine opsF_run 1 (by simp [g2, hl4, hd4]; rfl) ?_
      refine opsF_cons_callX rfl rfl rfl (show ACalls Try.prog 33 _ _ _ (fun v' n'' H'' => v' = .ag [slB (!rl.isEmpty) (n + 3) 4 rl.length] ∧ n'' = n + 3 + 1 ∧ H'' = rowB (!rl.isEmpty) (n + 3) (rcs rl) H2) from hin2) ?_
      have hrc : aget (rowB (!rl.isEmpty) (n + 3) (rcs rl) H2) (n + 1) = some (.row true [.nils]) := by rw [aget_rowB_ne (by omega)]; exact g1
      refine opsF_cons_op (v := .un) (n' := n + 4) (H' := aput (rowB (!rl.isEmpty) (n + 3) (rcs rl) H2) (n + 1) (.row true [slB (!rl.isEmpty) (n + 3) 4 rl.length])) rfl rfl (evSt_ag hrc rfl (slB_one _ _ _ _)) ?_
      refine opsF_nil (.ret ⟨.inr rfl, rfl, [.ag [slB (!rl.isEmpty) (n + 3) 4 rl.length]], ?_, ?_, ?_⟩)
      · simp [F16, aget_put]
      · intro q k hq
        have hqn := (hin _ _ hq).1
        show aget (aput _ (n + 1) _) q = _
        rw [aget_put, if_neg (by omega), aget_rowB_ne (by omega)]
        exact gk2 _ _ hq
      · cases rl with
        | nil => exact .inl ⟨rfl, rfl⟩
        | cons r l =>
          refine .inr ⟨by simp, n + 3, false, [], rfl, fun q k hq => ?_, ?_⟩
          · have := (hin _ _ hq).1; omega
          · show aget (aput _ (n + 1) _) (n + 3) = _
            rw [aget_put, if_neg (by omega)]
            simp [rowB]
end Go.Proofs.Ytpgelghkjiejlaa
end
section
set_option maxRecDepth 4000
namespace Go.Proofs.Ytpgelghkjiejlaa
open Go
attribute [local irreducible] opsF drawF drawP fontC shV
/-- A slice of rectangles of its own, to which another one's are appended: what comes of it. -/
structure AppS (sz n : Nat) (fo : Bool) (len : Nat) (cs new : List V) (k : Nat) (v : V) (n1 : Nat) (R : Heap) : Prop where
  v_eq : ∃ f', v = slB f' n sz (len + k) ∧ (f' = false → n1 = n ∧ fo = false ∧ k = 0) ∧ (f' = true → n1 = n + 1 ∧ (fo = true ∨ k ≠ 0) ∧ aget R n = some (.row true (cs ++ new)))
  old : ∀ p ∈ R, p.1 ≠ n → p.2.own = true ∨ p.1 < n
theorem drawF_appS {P : Program} {o : AOper} {os : List AOper} {T : Temps} {D : List Nat} {n : Nat} {H : Heap} {acc : List DStep} {K : List DStep → St → Prop} {sz bytes : Nat} {z : List V} {s x : AX} {fo : Bool} {mo len k m2 : Nat} {f2 : Bool} {cs new post : List V} (hg : guardOf T o.guard = some true) (ho : o.op = .app sz bytes z s x) (hok : o.op.cok = true) (hs : s.val T = slB fo mo sz len) (fx : Bool) (hx : x.val T = if f2 then .sl m2 0 sz k fx else .nils)
    (hf : fo = false → len = 0 ∧ cs = []) (hgm : fo = true → mo < n ∧ ∃ post, aget H mo = some (.row true (cs ++ post))) (hl : cs.length = len * sz) (hf2 : f2 = false → k = 0 ∧ new = []) (hg2 : f2 = true → k ≠ 0 ∧ m2 < n ∧ ∃ o, aget H m2 = some (.row o new)) (hl2 : new.length = k * sz) (hone : new.all V.one = true) (hne : fo = true → f2 = true → mo ≠ m2) (hb : (len + k) * bytes ≤ 140737488355328)
    (h : ∀ v n1 R, AppS sz n fo len cs new k v n1 R → n ≤ n1 → drawF P os ⟨putT T o.dst v, D, n1, mergeH H (if fo then [mo] else []) n n1 R⟩ (acc ++ [⟨(AOp.app sz bytes z s x).slots ++ gslots o.guard, o.dst, if f2 then [m2] else [], if fo then [mo] else [], n, n1, v, R⟩]) K) : drawF P (o :: os) ⟨T, D, n, H⟩ acc K := by
  have hgo : ∀ v n1 R, evApp n (restr H (if f2 then [m2] else []) (if fo then [mo] else [])) sz bytes (slB fo mo sz len) (if f2 then .sl m2 0 sz k fx else .nils) = some (v, n1, R) → n ≤ n1 → AppS sz n fo len cs new k v n1 R → (∀ p ∈ R, touch (if fo then [mo] else []) n n1 p.1 = true → p.2.own = true) → drawF P (o :: os) ⟨T, D, n, H⟩ acc K := by
    intro v n1 R hev hn hA hown
    have hd := drawF_op (P := P) (o := o) (os := os) (st := ⟨T, D, n, H⟩) (acc := acc) (K := K) (fr := if f2 then [m2] else []) (fw := if fo then [mo] else []) (v := v) (n1 := n1) (R := R) hg (fun g l hx => by rw [ho] at hx; cases hx) (by rw [ho]; show evApp n _ sz bytes (s.val T) (x.val T) = _; rw [hs, hx]; exact hev) hok ⟨hn, ?_, ?_, hown⟩
    · rw [ho] at hd
      exact hd (h v n1 R hA hn)
    · intro b hb
      rcases List.mem_append.1 hb with hb | hb
      · cases f2 with
        | false => simp at hb
        | true => simp at hb; subst hb; exact (hg2 rfl).2.1
      · cases fo with
        | false => simp at hb
        | true => simp at hb; subst hb; exact (hgm rfl).1
    · intro b hb
      cases fo with
      | false => simp at hb
      | true => simp at hb; subst hb; obtain ⟨_, p, hp⟩ := hgm rfl; exact ⟨_, hp⟩
  cases f2 with
  | false =>
    obtain ⟨rfl, rfl⟩ := hf2 rfl
    cases fo with
    | false =>
      obtain ⟨rfl, rfl⟩ := hf rfl
      exact hgo .nils n [] (by simp [slB, restr, pickR, evApp]) (Nat.le_refl _) ⟨⟨false, rfl, fun _ => ⟨rfl, rfl, rfl⟩, by simp⟩, by simp⟩ (by simp)
    | true =>
      obtain ⟨hmn, p, hp⟩ := hgm rfl
      refine hgo (.sl n 0 sz len false) (n + 1) [(n, .row true cs)] ?_ (Nat.le_succ _) ⟨⟨true, rfl, by simp, fun _ => ⟨rfl, .inl rfl, by simp⟩⟩, by simp⟩ (by simp [Blk.own])
      simp only [slB, if_true, Bool.false_eq_true, if_false, restr, pickR, hp, _root_.id, List.append_nil]
      simp [evApp, cellsOf, lenS, adel]
      simp [← hl, List.take_append_of_le_length]
      omega
  | true =>
    obtain ⟨hk0, hm2n, o2, hp2⟩ := hg2 rfl
    cases fo with
    | false =>
      obtain ⟨rfl, rfl⟩ := hf rfl
      refine hgo (.sl n 0 sz k false) (n + 1) [(n, .row true new), (m2, .row false new)] ?_ (Nat.le_succ _) ⟨⟨true, by simp [slB], by simp, fun _ => ⟨rfl, .inr hk0, by simp⟩⟩, ?_⟩ ?_
      · have hr : restr H (if true = true then [m2] else []) (if false = true then [mo] else []) = [(m2, .row false new)] := by
          simp only [if_true, Bool.false_eq_true, if_false, restr, pickR, hp2, roOf, List.nil_append]
        have hc : cellsOf [(m2, Blk.row false new)] sz (if true = true then .sl m2 0 sz k fx else .nils) = some new := by
          have ht : new.take (k * sz) = new := List.take_of_length_le (by omega)
          simp [slB, hl2, ht]
        rw [hr, evApp_B (f := false) (m := mo) (len := 0) (cs := []) (k := k) (fun _ => ⟨rfl, rfl⟩) (by simp) (by simp) hc hone rfl hk0 hb]
        simp
      · intro p hp hpn
        simp at hp
        rcases hp with rfl | rfl
        · exact absurd rfl hpn
        · exact .inr hm2n
      · intro p hp ht
        simp at hp
        rcases hp with rfl | rfl
        · rfl
        · simp [touch] at ht; omega
    | true =>
      obtain ⟨hmn, p, hp⟩ := hgm rfl
      have hne' := hne rfl rfl
      refine hgo (.sl n 0 sz (len + k) false) (n + 1) [(n, .row true (cs ++ new)), (m2, .row false new)] ?_ (Nat.le_succ _) ⟨⟨true, rfl, by simp, fun _ => ⟨rfl, .inl rfl, by simp⟩⟩, ?_⟩ ?_
      · have e1 : ¬ m2 = mo := fun e => hne' e.symm
        have hr : restr H (if true = true then [m2] else []) (if true = true then [mo] else []) = [(mo, .row true (cs ++ p)), (m2, .row false new)] := by
          simp only [if_true, restr, pickR, hp, hp2, roOf, _root_.id, List.cons_append, List.nil_append]
        have hc : cellsOf [(mo, Blk.row true (cs ++ p)), (m2, Blk.row false new)] sz (if true = true then .sl m2 0 sz k fx else .nils) = some new := by
          have ht : new.take (k * sz) = new := List.take_of_length_le (by omega)
          simp [slB, hl2, ht, hne']
        rw [hr, evApp_B (f := true) (m := mo) (len := len) (cs := cs) (k := k) (by simp) (fun _ => ⟨p, by simp⟩) hl hc hone rfl hk0 hb]
        simp [adel, e1]
      · intro p hp hpn
        simp at hp
        rcases hp with rfl | rfl
        · exact absurd rfl hpn
        · exact .inr hm2n
      · intro p hp ht
        simp at hp
        rcases hp with rfl | rfl
        · rfl
        · simp [touch] at ht
          rcases ht with e | ht
          · exact absurd e.symm hne'
          · omega
theorem drawF_stC {P : Program} {o : AOper} {os : List AOper} {T : Temps} {D : List Nat} {n : Nat} {H : Heap} {acc : List DStep} {K : List DStep → St → Prop} {a x : AX} {c off : Nat} {cs : List V} (hg : guardOf T o.guard = some true) (ho : o.op = .st 1 a x) (ha : a.val T = .p c off) (hc : aget H c = some (.row true cs)) (hcn : c < n) (hl : off + 1 ≤ cs.length) (hok : o.op.cok = true) (h1 : (x.val T).known = true) (h2 : (x.val T).one = true) (h3 : (x.val T).cells = [x.val T])
    (h : drawF P os ⟨putT T o.dst .un, D, n, mergeH H [c] n n [(c, .row true (setAll cs off [x.val T]))]⟩ (acc ++ [⟨(AOp.st 1 a x).slots ++ gslots o.guard, o.dst, [], [c], n, n, .un, [(c, .row true (setAll cs off [x.val T]))]⟩]) K) : drawF P (o :: os) ⟨T, D, n, H⟩ acc K := by
  have hres : restr H [] [c] = [(c, .row true cs)] := by unfold restr; simp only [pickR, hc, _root_.id, List.append_nil]
  have hev : evalOp T n (restr H [] [c]) o.op = some (.un, n, [(c, .row true (setAll cs off [x.val T]))]) := by
    rw [ho, hres]
    show evSt n [(c, .row true cs)] 1 (a.val T) (x.val T) = _
    rw [ha]
    generalize x.val T = xv at h1 h2 h3
    simp only [evSt, aget_cons, if_true, h1, h3]
    simp [h2, hl, aput]
  have hd := drawF_op (P := P) (o := o) (os := os) (st := ⟨T, D, n, H⟩) (acc := acc) (K := K) (fr := []) (fw := [c]) hg (fun g l hx => by rw [ho] at hx; cases hx) hev hok ⟨Nat.le_refl _, by simpa using hcn, fun b hb => by rw [List.mem_singleton.1 hb]; exact ⟨_, hc⟩, fun p hp _ => by rw [List.mem_singleton.1 hp]; rfl⟩
  rw [ho] at hd
  exact hd h
end Go.Proofs.Ytpgelghkjiejlaa
end
section
set_option maxRecDepth 4000
namespace Go.Proofs.Ytpgelghkjiejlaa
open Go
attribute [local irreducible] opsF drawF drawP fontC shV
def KPr (KP : Nat → Blk → Prop) (w : Bool) (s : List UInt8) (ids : List Nat) : Nat → Blk → Prop := fun b k => KP b k ∨ ∃ j, ids[j]? = some b ∧ k = .row true (rowsC w (plc (s.getD j 0)))
def slRow (w : Bool) (id : Nat) : V := .sl id 0 1 (fH w) true
structure OfI (KP : Nat → Blk → Prop) (w : Bool) (s : List UInt8) (c5 : Nat) (H : Heap) (i : Nat) (f : Bool) (mw mr : Nat) (ids : List Nat) : Prop where
  cell : aget H c5 = some (.row true [slB f mw 1 i, slB f mr 1 i, .i .i64 (fA w : Nat), .i .i64 (fH w : Nat)])
  keep : ∀ b k, KPr KP w s ids b k → aget H b = some k ∧ b ≠ c5 ∧ (f = true → b ≠ mw ∧ b ≠ mr)
  len : ids.length = i
  off : f = false → i = 0
  on : f = true → mw ≠ c5 ∧ mr ≠ c5 ∧ mw ≠ mr ∧ aget H mw = some (.row true (cellsW w (s.take i))) ∧ aget H mr = some (.row true (ids.map (slRow w)))
def oD1 : ACode := (.ops (some [0, 0, 0, 6, 15, 0, 63]) [⟨(some 23), (.ld true 1617 (.t 2)), none⟩,
         ⟨(some 24), (.mv (.t 1)), none⟩,
         ⟨(some 25), (.mv (.t 6)), none⟩,
         ⟨(some 26), (.ixs (.t 24) (.t 25)), none⟩,
         ⟨(some 27), (.call (.f 27) [(.t 23), (.t 26)]), none⟩,
         ⟨(some 7), (.new [(.i .i64 0), .nils]), none⟩,
         ⟨none, (.st 2 (.t 7) (.t 27)), none⟩])
def oD2 : ACode := (.ops (some [0, 1, 0, 4, 12, 31, 0, 64, 0, 256, 1023, 255, 4095, 8191, 16383]) [⟨(some 35), (.fa 0 (.t 5)), none⟩,
          ⟨(some 36), (.ld false 1 (.t 35)), none⟩,
          ⟨(some 37), (.fa 0 (.t 7)), none⟩,
          ⟨(some 38), (.ld false 1 (.t 37)), none⟩,
          ⟨(some 39), (.lit 1 1 [(.i .i64 0)] [(0, (.t 38))]), none⟩,
          ⟨(some 40), (.app 1 8 [(.i .i64 0)] (.t 36) (.t 39)), none⟩,
          ⟨(some 41), (.fa 1 (.t 5)), none⟩,
          ⟨(some 42), (.ld false 1 (.t 41)), none⟩,
          ⟨(some 43), (.mv (.t 8)), none⟩,
          ⟨(some 44), (.lit 1 1 [.nils] [(0, (.t 43))]), none⟩,
          ⟨(some 45), (.app 1 24 [.nils] (.t 42) (.t 44)), none⟩,
          ⟨(some 46), (.fa 0 (.t 5)), none⟩,
          ⟨none, (.st 1 (.t 46) (.t 40)), none⟩,
          ⟨(some 47), (.fa 1 (.t 5)), none⟩,
          ⟨none, (.st 1 (.t 47) (.t 45)), none⟩])
def o9 (s : List UInt8) (c2 c4 c5 : Nat) (i : Nat) : Temps := [(1, .s s), (2, .p c2 0), (4, .p c4 0), (5, .p c5 0), (19, .i .i64 s.length), (20, .i .i64 i)]
theorem KPr_mono {KP : Nat → Blk → Prop} {w : Bool} {s : List UInt8} {ids : List Nat} {a : Nat} {b : Nat} {k : Blk} (h : KPr KP w s (ids ++ [a]) b k) : KPr KP w s ids b k ∨ (b = a ∧ k = .row true (rowsC w (plc (s.getD ids.length 0)))) := by
  rcases h with h | ⟨j, hj, hk⟩
  · exact .inl (.inl h)
  · rcases Nat.lt_or_ge j ids.length with hlt | hge
    · rw [List.getElem?_append_left hlt] at hj
      exact .inl (.inr ⟨j, hj, hk⟩)
    · rw [List.getElem?_append_right hge] at hj
      have hj0 : j - ids.length = 0 := by
        rcases Nat.eq_zero_or_pos (j - ids.length) with h0 | h0
        · exact h0
        · rw [List.getElem?_eq_none (by simp; omega)] at hj; cases hj
      rw [hj0] at hj
      have : j = ids.length := by omega
      subst this
      simp at hj
      exact .inr ⟨hj.symm, hk⟩
theorem oD2_ok {Q : Exit → St → Prop} (KP : Nat → Blk → Prop) (w : Bool) (s : List UInt8) (hs : s.length ≤ 4096) (c2 c4 c5 : Nat) (i : Nat) (hi : i < s.length) (f : Bool) (mw mr : Nat) (ids : List Nat) (n : Nat) (H : Heap) (h : OfI KP w s c5 H i f mw mr ids) (c7 r8 : Nat)
    (h7 : aget H c7 = some (.row true [.i .i64 (fW w (plc (s.getD i 0)) : Nat), .sl n 0 1 (fH w) true] )∨ ∃ X, aget H c7 = some (.row true [.i .i64 (fW w (plc (s.getD i 0)) : Nat), X])) (h8 : aget H r8 = some (.row true (rowsC w (plc (s.getD i 0))))) (h85 : r8 ≠ c5) (h8m : f = true → r8 ≠ mw ∧ r8 ≠ mr) (h75 : c7 ≠ c5) (h7m : f = true → c7 ≠ mw ∧ c7 ≠ mr)
    (hQ : ∀ T' n' H' f' mw' mr', n ≤ n' → OfI KP w s c5 H' (i + 1) f' mw' mr' (ids ++ [r8]) → ((o9 s c2 c4 c5 i).map fun p => aget T' p.1) = ((o9 s c2 c4 c5 i).map fun p => some p.2) → Q .normal ⟨T', [], n', H'⟩) :
    AWc Try.prog 50 none oD2 ⟨(7, .p c7 0) :: (8, slRow w r8) :: o9 s c2 c4 c5 i, [], n, H⟩ Q := by
  refine .withIn fun hin => ?_
  have hin : HIn n H := hin
  have hcell := h.cell
  have n5 := (hin _ _ hcell).1
  obtain ⟨X, g7⟩ : ∃ X, aget H c7 = some (.row true [.i .i64 (fW w (plc (s.getD i 0)) : Nat), X]) := by
    rcases h7 with h7 | h7
    · exact ⟨_, h7⟩
    · exact h7
  have n7 := (hin _ _ g7).1
  have n8 := (hin _ _ h8).1
  have hcw : (cellsW w (s.take i)).length = i := by simp [cellsW]; omega
  have hcs : cellsW w (s.take (i + 1)) = cellsW w (s.take i) ++ [.i .i64 (fW w (plc (s.getD i 0)) : Nat)] := by
    have hgd : s.getD i 0 = s[i] := by simp [List.getD, List.getElem?_eq_getElem hi]
    rw [List.take_add_one, List.getElem?_eq_getElem hi, hgd]
    simp only [cellsW, List.map_append, Option.toList_some, List.map_cons, List.map_nil]
  have hmwn : f = true → mw < n := fun hf => (hin _ _ (h.on hf).2.2.2.1).1
  have hmrn : f = true → mr < n := fun hf => (hin _ _ (h.on hf).2.2.2.2).1
  generalize (fW w (plc (s.getD i 0)) : Nat) = W at g7 hcs h7
  generalize hcwe : cellsW w (s.take i) = cw at hcs hcw
  have hsw : f = false → cw = [] := fun hf => by
    have := h.off hf
    exact List.eq_nil_of_length_eq_zero (by omega)
  have hrr : f = false → ids = [] := fun hf => List.eq_nil_of_length_eq_zero (by rw [h.len]; exact h.off hf)
  unfold oD2
  refine .drawS (by rfl) ?_
  refine drawF_run 4 (by rfl) (by simp [o9, hcell, n5, g7, n7]; exact ⟨rfl, rfl⟩) ?_
  refine drawF_run 1 (by rfl) (by simp [setAll, Blk.own]; exact ⟨rfl, rfl⟩) ?_
  obtain ⟨H1, hH1⟩ : ∃ H1, H1 = mergeH H [] n (n + 1) [(n, Blk.row true [V.i .i64 (W : Nat)])] := ⟨_, rfl⟩
  have m1 : ∀ b, b ≠ n → aget H1 b = aget H b := fun b hb => by rw [hH1, mergeN, if_neg (by omega)]
  have m1n : aget H1 n = some (.row true [.i .i64 (W : Nat)]) := by rw [hH1, mergeN, if_pos (by omega)]; simp
  rw [← hH1]
  refine drawF_appS (sz := 1) (bytes := 8) (fo := f) (mo := mw) (len := i) (k := 1) (m2 := n) (f2 := true) (cs := cw) (new := [.i .i64 (W : Nat)]) (post := []) rfl rfl rfl rfl true rfl (fun hf => ⟨h.off hf, hsw hf⟩) (fun hf => ⟨by have := hmwn hf; omega, [], ?_⟩) (by omega) (by simp) (fun _ => ⟨by omega, by omega, true, m1n⟩) rfl rfl (fun hf _ => by have := hmwn hf; omega) (by omega) ?_
  · rw [m1 _ (by have := hmwn hf; omega), List.append_nil, ← hcwe]; exact (h.on hf).2.2.2.1
  intro v n1 R1 hA hn1
  obtain ⟨⟨f', rfl, hf0, hf1⟩, _⟩ := hA
  have hft : f' = true := by
    cases f' with
    | true => rfl
    | false => have := (hf0 rfl).2.2; omega
  subst hft
  obtain ⟨hn1e, _, hR1⟩ := hf1 rfl
  subst hn1e
  obtain ⟨H2, hH2⟩ : ∃ H2, H2 = mergeH H1 (if f then [mw] else []) (n + 1) (n + 1 + 1) R1 := ⟨_, rfl⟩
  have m2 : ∀ b, b ≠ n + 1 → (f = true → b ≠ mw) → aget H2 b = aget H1 b := fun b hb hne => by
    rw [hH2]
    cases f with
    | false => rw [if_neg (by simp), mergeN, if_neg (by omega)]
    | true => rw [if_pos rfl, mergeW, if_neg (by have := hne rfl; omega)]
  have m2n : aget H2 (n + 1) = some (.row true (cw ++ [.i .i64 (W : Nat)])) := by
    rw [hH2]
    cases f with
    | false => rw [if_neg (by simp), mergeN, if_pos (by omega)]; exact hR1
    | true => rw [if_pos rfl, mergeW, if_pos (by omega)]; exact hR1
  have hold2 : ∀ b k, (f = true → b ≠ mw) → aget H b = some k → aget H2 b = some k := fun b k hb hk => by
    have := (hin _ _ hk).1
    rw [m2 b (by omega) hb, m1 b (by omega)]; exact hk
  have h5w : f = true → c5 ≠ mw := fun hf e => (h.on hf).1 e.symm
  have h5r : f = true → c5 ≠ mr := fun hf e => (h.on hf).2.1 e.symm
  have c2 := hold2 _ _ h5w hcell
  rw [← hH2]
  have n52 : c5 < n + 1 + 1 := by omega
  refine drawF_run 3 (by rfl) (by simp [o9, c2, n52, slRow]; exact ⟨rfl, rfl⟩) ?_
  refine drawF_run 1 (by rfl) (by simp [setAll, Blk.own]; exact ⟨rfl, rfl⟩) ?_
  obtain ⟨H3, hH3⟩ : ∃ H3, H3 = mergeH H2 [] (n + 2) (n + 3) [(n + 2, Blk.row true [.sl r8 0 1 (fH w) true])] := ⟨_, rfl⟩
  have m3 : ∀ b, b ≠ n + 2 → aget H3 b = aget H2 b := fun b hb => by rw [hH3, mergeN, if_neg (by omega)]
  have m3n : aget H3 (n + 2) = some (.row true [.sl r8 0 1 (fH w) true]) := by rw [hH3, mergeN, if_pos (by omega)]; simp
  have m3n' : aget H3 (n + 1) = some (.row true (cw ++ [.i .i64 (W : Nat)])) := by rw [m3 _ (by omega)]; exact m2n
  have hold3 : ∀ b k, (f = true → b ≠ mw) → aget H b = some k → aget H3 b = some k := fun b k hb hk => by
    have := (hin _ _ hk).1
    rw [m3 b (by omega)]; exact hold2 b k hb hk
  rw [← hH3]
  refine drawF_appS (sz := 1) (bytes := 24) (fo := f) (mo := mr) (len := i) (k := 1) (m2 := n + 2) (f2 := true) (cs := ids.map (slRow w)) (new := [.sl r8 0 1 (fH w) true]) (post := []) rfl rfl rfl rfl true rfl (fun hf => ⟨h.off hf, by rw [hrr hf]; rfl⟩) (fun hf => ⟨by have := hmrn hf; show mr < n + 3; omega, [], ?_⟩) (by rw [List.length_map, h.len]; omega) (by simp) (fun _ => ⟨by omega, by show n + 2 < n + 3; omega, true, m3n⟩) rfl rfl (fun hf _ => by have := hmrn hf; omega) (by omega) ?_
  · rw [List.append_nil]; exact hold3 _ _ (fun hf e => (h.on hf).2.2.1 e.symm) (h.on hf).2.2.2.2
  intro v n1 R2 hA hn1
  obtain ⟨⟨f', rfl, hf0, hf1⟩, _⟩ := hA
  have hft : f' = true := by
    cases f' with
    | true => rfl
    | false => have := (hf0 rfl).2.2; omega
  subst hft
  obtain ⟨hn1e, _, hR2⟩ := hf1 rfl
  have hn1e : n1 = n + 4 := hn1e
  subst hn1e
  have hR2 : aget R2 (n + 3) = some (.row true (ids.map (slRow w) ++ [.sl r8 0 1 (fH w) true])) := hR2
  obtain ⟨H4, hH4⟩ : ∃ H4, H4 = mergeH H3 (if f then [mr] else []) (n + 3) (n + 4) R2 := ⟨_, rfl⟩
  have m4 : ∀ b, b ≠ n + 3 → (f = true → b ≠ mr) → aget H4 b = aget H3 b := fun b hb hne => by
    rw [hH4]
    cases f with
    | false => rw [if_neg (by simp), mergeN, if_neg (by omega)]
    | true => rw [if_pos rfl, mergeW, if_neg (by have := hne rfl; omega)]
  have m4n : aget H4 (n + 3) = some (.row true (ids.map (slRow w) ++ [.sl r8 0 1 (fH w) true])) := by
    rw [hH4]
    cases f with
    | false => rw [if_neg (by simp), mergeN, if_pos (by omega)]; exact hR2
    | true => rw [if_pos rfl, mergeW, if_pos (by omega)]; exact hR2
  have m4n' : aget H4 (n + 1) = some (.row true (cw ++ [.i .i64 (W : Nat)])) := by rw [m4 _ (by omega) (fun hf => by have := hmrn hf; omega)]; exact m3n'
  have hold4 : ∀ b k, (f = true → b ≠ mw ∧ b ≠ mr) → aget H b = some k → aget H4 b = some k := fun b k hb hk => by
    have := (hin _ _ hk).1
    rw [m4 b (by omega) (fun hf => (hb hf).2)]; exact hold3 b k (fun hf => (hb hf).1) hk
  have c4' := hold4 _ _ (fun hf => ⟨h5w hf, h5r hf⟩) hcell
  have hmm : mergeH H3 (if f = true then [mr] else []) (n + 1 + 1 + 1) (n + 4) R2 = H4 := hH4.symm
  rw [hmm]
  refine drawF_run 1 (by rfl) (by simp; exact ⟨rfl, rfl⟩) ?_
  refine drawF_stC (c := c5) (off := 0) rfl rfl rfl c4' (by show c5 < n + 4; omega) (by simp) rfl rfl rfl rfl ?_
  obtain ⟨H5, hH5⟩ : ∃ H5, H5 = mergeH H4 [c5] (n + 4) (n + 4) [(c5, Blk.row true (setAll [slB f mw 1 i, slB f mr 1 i, .i .i64 (fA w : Nat), .i .i64 (fH w : Nat)] 0 [V.sl (n + 1) 0 1 (i + 1) false]))] := ⟨_, rfl⟩
  have m5 : ∀ b, b ≠ c5 → aget H5 b = aget H4 b := fun b hb => by rw [hH5, mergeW, if_neg (by omega)]
  have c5' : aget H5 c5 = some (.row true [.sl (n + 1) 0 1 (i + 1) false, slB f mr 1 i, .i .i64 (fA w : Nat), .i .i64 (fH w : Nat)]) := by rw [hH5, mergeW, if_pos (.inl rfl)]; simp [setAll]
  refine drawF_run 1 (by rfl) (by simp; exact ⟨rfl, rfl⟩) ?_
  refine drawF_stC (c := c5) (off := 1) (cs := [.sl (n + 1) 0 1 (i + 1) false, slB f mr 1 i, .i .i64 (fA w : Nat), .i .i64 (fH w : Nat)]) rfl rfl rfl (by rw [hH5] at c5'; exact c5') (by show c5 < n + 4; omega) (by simp) rfl rfl rfl rfl ?_
  refine drawF_all (by rfl) (by simp; exact ⟨rfl, rfl⟩) ⟨?_, ?_⟩
  · have hlt : c5 < n + 4 := by omega
    have e1 : ∀ hf : f = true, ¬ mw = c5 := fun hf => (h.on hf).1
    cases f with
    | false =>
      simp [-idOf, heapOk, heapRow, heavy, heapI]
      repeat' (first | apply And.intro | intro _)
      all_goals first | decide | exact .inl (by decide) | omega | (right; omega)
    | true =>
      have e1' := e1 rfl
      have e2' := hmwn rfl
      have e3' := hmrn rfl
      have e4' := (h.on rfl).2.1
      have e5' := (h.on rfl).2.2.1
      have e6' := (h7m rfl).1
      have e7' := (h7m rfl).2
      simp [-idOf, heapOk, heapRow, heavy, heapI]
      repeat' (first | apply And.intro | intro _)
      all_goals first | decide | exact .inl (by decide) | omega | (right; omega)
  · have m6 : ∀ b, b ≠ c5 → aget (mergeH H5 [c5] (n + 4) (n + 4) [(c5, Blk.row true (setAll [.sl (n + 1) 0 1 (i + 1) false, slB f mr 1 i, .i .i64 (fA w : Nat), .i .i64 (fH w : Nat)] 1 [V.sl (n + 3) 0 1 (i + 1) false]))]) b = aget H5 b := fun b hb => by rw [mergeW, if_neg (by omega)]
    have c6' : aget (mergeH H5 [c5] (n + 4) (n + 4) [(c5, Blk.row true (setAll [.sl (n + 1) 0 1 (i + 1) false, slB f mr 1 i, .i .i64 (fA w : Nat), .i .i64 (fH w : Nat)] 1 [V.sl (n + 3) 0 1 (i + 1) false]))]) c5 = some (.row true [.sl (n + 1) 0 1 (i + 1) false, .sl (n + 3) 0 1 (i + 1) false, .i .i64 (fA w : Nat), .i .i64 (fH w : Nat)]) := by
      rw [mergeW, if_pos (.inl rfl)]; simp [setAll]
    simp only [slB_t]
    rw [← hH5]
    refine hQ _ (n + 4) _ true (n + 1) (n + 3) (by omega) {
      cell := c6'
      keep := fun b k hk => by
        rcases KPr_mono hk with hk | ⟨rfl, rfl⟩
        · obtain ⟨q1, q2, q3⟩ := h.keep b k hk
          have := (hin _ _ q1).1
          exact ⟨by rw [m6 b q2, m5 b q2]; exact hold4 b k q3 q1, q2, fun _ => by omega⟩
        · rw [h.len]
          exact ⟨by rw [m6 _ h85, m5 _ h85]; exact hold4 _ _ h8m h8, h85, fun _ => by omega⟩
      len := by simp [h.len]
      off := by simp
      on := fun _ => ⟨by omega, by omega, by omega, by rw [m6 _ (by omega), m5 _ (by omega), hcs]; exact m4n', by rw [m6 _ (by omega), m5 _ (by omega), List.map_append]; exact m4n⟩ } (by simp [o9])
end Go.Proofs.Ytpgelghkjiejlaa
end
section
set_option maxRecDepth 4000
namespace Go.Proofs.Ytpgelghkjiejlaa
open Go
attribute [local irreducible] opsF drawF drawP fontC shV
def SlW (H : Heap) (S : V) (w : Bool) (s : List UInt8) : Prop := (s = [] ∧ S = .nils) ∨ ∃ m full o, S = .sl m 0 1 s.length full ∧ aget H m = some (.row o (cellsW w s))
def SlO (H : Heap) (S : V) (w : Bool) (s : List UInt8) : Prop := (s = [] ∧ S = .nils) ∨ ∃ m full o ids, S = .sl m 0 1 s.length full ∧ aget H m = some (.row o (List.map (slRow w) ids)) ∧ ids.length = s.length ∧ ∀ (j id : Nat), ids[j]? = some id → ∃ o', aget H id = some (.row o' (rowsC w (plc (s.getD j 0))))
/-- The document's font of a text. -/
def RefF (H : Heap) (v : V) (w : Bool) (s : List UInt8) : Prop := ∃ SW SR, v = .ag [SW, SR, .i .i64 (fA w : Nat), .i .i64 (fH w : Nat)] ∧ SlW H SW w s ∧ SlO H SR w s
def oBo : ACode := (.seq (.ops none [⟨(some 21), (.bin .lss (.t 20) (.t 19)), none⟩])
     (.seq (.cond (.t 21)
       (.skip)
       (.exit 0))
      (.seq (.block 1 (.seq (.ops none [⟨(some 22), (.mv (.t 20)), none⟩,
         ⟨(some 6), (.mv (.t 22)), none⟩])
       (.seq oD1
        (.seq (.ops none [⟨(some 28), (.fa 3 (.t 5)), none⟩,
          ⟨(some 29), (.ld false 1 (.t 28)), none⟩,
          ⟨(some 30), (.mks 1 8 [(.i .i64 0)] (.t 29) (.t 29)), none⟩,
          ⟨(some 8), (.mv (.t 30)), none⟩])
        (.seq (.ops none [⟨(some 31), (.mv (.t 8)), none⟩,
          ⟨(some 32), (.fa 1 (.t 7)), none⟩,
          ⟨(some 33), (.ld false 1 (.t 32)), none⟩,
          ⟨(some 34), (.cpy 1 (.t 31) (.t 33)), none⟩]) oD2)))))
      (.ops none [⟨(some 48), (.bin .add (.t 20) (.c (.i .i64 1))), none⟩,
        ⟨(some 20), (.mv (.t 48)), none⟩]))))
theorem oLoop {Q : Exit → St → Prop} (w : Bool) (s : List UInt8) (hs : s.length ≤ 4096) (c2 c4 c5 : Nat) (n : Nat) (H : Heap) (KP : Nat → Blk → Prop) (h2 : KP c2 (.row true (fontC w))) (h : OfI KP w s c5 H 0 false 0 0 [])
    (hQ : ∀ T' n' H' f mw mr ids, n ≤ n' → OfI KP w s c5 H' s.length f mw mr ids → (([(4, V.p c4 0), (5, V.p c5 0)] : Temps).map fun p => aget T' p.1) = (([(4, V.p c4 0), (5, V.p c5 0)] : Temps).map fun p => some p.2) → Q .normal ⟨T', [], n', H'⟩) :
    AWc Try.prog 50 none (.block 0 (.loop oBo)) ⟨o9 s c2 c4 c5 0, [], n, H⟩ Q := by
  refine .block (.loop (k₀ := s.length) (s₀ := ⟨o9 s c2 c4 c5 0, [], n, H⟩)
    (fun k st => ∃ (i n' : Nat) (H' : Heap) (f : Bool) (mw mr : Nat) (ids : List Nat), i ≤ s.length ∧ k = s.length - i ∧ n ≤ n' ∧ OfI KP w s c5 H' i f mw mr ids ∧ st = ⟨o9 s c2 c4 c5 i, [], n', H'⟩)
    ⟨0, n, H, false, 0, 0, [], by omega, rfl, Nat.le_refl _, h, rfl⟩ (St.less_F (by simp) (by simp [o9])) (Nat.le_refl _) (fun k st ⟨i, n', H', f, mw, mr, ids, h1, h2, h3, h4, h5⟩ => by rw [h5]; exact h3) ?_)
  rintro k st ⟨i, n', H', f, mw, mr, ids, h1, rfl, h3, h4, rfl⟩
  refine .withIn fun hin => ?_
  have hin : HIn n' H' := hin
  unfold oBo
  by_cases hi : i < s.length
  · have hi' : (i : Int) < s.length := by omega
    have hwi : IntKind.i64.wrap ((i : Int) + 1) = ((i + 1 : Nat) : Int) := IntWalk.i64_in _ (by omega)
    have hg : s[i]? = some s[i] := List.getElem?_eq_getElem hi
    have hgd : s.getD i 0 = s[i] := by simp [List.getD, hg]
    obtain ⟨k2, k25, k2m⟩ := h4.keep c2 _ (.inl h2)
    have n2 := (hin _ _ k2).1
    have n5 := (hin _ _ h4.cell).1
    have hcell := h4.cell
    have hgl := glyph_ok w s[i] n' []
    have hro := rowsC_one w (plc s[i])
    have hrl := rowsC_len w (plc s[i])
    have hrt := rowsC_take w (plc s[i])
    have hrin : inDB n' (n' + 1) [] (.ag [.i .i64 (fW w (plc s[i])), .sl n' 0 1 (fH w) true]) [(n', .row true (rowsC w (plc s[i])))] = true := by simp [inDB, vinB, binB, rowsC]
    have hset : setAll (List.replicate (fH w) (V.i .i64 0)) 0 (rowsC w (plc s[i])) = rowsC w (plc s[i]) := setAll_full (by simp)
    have hH0 : (0 : Int) ≤ (fH w : Int) := by omega
    have hHb : (fH w : Int) * 8 ≤ 140737488355328 ∧ (fH w : Int) ≤ 140737488355328 := by cases w <;> decide
    refine .seq (.ops (opsF_all (by simp only [o9]; simp [hi']; rfl) ?_))
    refine .seq (.cond (t := true) (by simp) (.skip ?_))
    refine .seq (.block (.seq (.ops (opsF_all (by simp; rfl) ?_))))
    refine AWc.forget (T0 := (6, .i .i64 (i : Nat)) :: o9 s c2 c4 c5 i) (by simp [o9]) ?_
    unfold oD1
    refine .seq (.drawS (by rfl) (drawF_run 4 (by rfl) (by simp [o9, k2, n2, hg]; exact ⟨rfl, rfl⟩) ?_))
    refine drawF_callN rfl rfl rfl hgl (by simp) (by simp [Blk.own]) hrin ?_
    refine drawF_all (by rfl) (by simp [setAll, Blk.own]; exact ⟨rfl, rfl⟩) ⟨?_, ?_⟩
    · have e1 : ¬ n' ≤ c2 := by omega
      simp [-idOf, heapOk, heapRow, heavy, heapI, e1]
      repeat' (first | apply And.intro | intro _)
      all_goals first | decide | exact .inl (by decide) | omega | (right; omega)
    refine AWc.forget (T0 := (7, .p (n' + 1) 0) :: o9 s c2 c4 c5 i) (by simp [o9]) ?_
    obtain ⟨H1, hH1⟩ : ∃ H1 : Heap, H1 = (n' + 1, .row true [.i .i64 (fW w (plc s[i])), .sl n' 0 1 (fH w) true]) :: (n', .row true (rowsC w (plc s[i]))) :: H' := ⟨_, rfl⟩
    refine AWc.alikeH (H := H1) (fun b => ?_) ?_
    · rw [hH1]
      simp only [aget_mergeH, aget_cons, touch, aget_nil, List.contains_cons, List.contains_nil]
      by_cases e9 : n' + 1 = b
      · subst e9; simp
      · by_cases e8 : n' = b
        · subst e8; simp
        · have q1 : ¬ (b = n') := fun h => e8 h.symm
          have q2 : ¬ (b = n' + 1) := fun h => e9 h.symm
          simp [e8, e9, q1, q2]
          repeat' split
          all_goals first | rfl | (exfalso; omega)
    have a0 : aget H1 n' = some (.row true (rowsC w (plc s[i]))) := by rw [hH1]; simp
    have a1 : aget H1 (n' + 1) = some (.row true [.i .i64 (fW w (plc s[i])), .sl n' 0 1 (fH w) true]) := by rw [hH1]; simp
    have ak : ∀ b k, aget H' b = some k → aget H1 b = some k := fun b k hb => by
      have := (hin _ _ hb).1
      rw [hH1, aget_cons, if_neg (by omega), aget_cons, if_neg (by omega)]; exact hb
    clear hH1
    have ac := ak _ _ hcell
    have e1 : ¬ n' + 2 = n' + 1 := by omega
    refine .seq (.ops (opsF_all (by simp [o9, ac, hH0, hHb]; rfl) ?_))
    refine .seq (.ops (opsF_run 3 (by simp [a1]; rfl) ?_))
    refine opsF_cons_op (v := .i .i64 (fH w : Nat)) (n' := n' + 3) (H' := (n' + 2, .row true (rowsC w (plc s[i]))) :: H1) rfl rfl ?_ ?_
    · simp only [evalOp, AX.val]
      simp [-List.all_eq_true, a0, hro, hrl, hrt, hset, aput]
    refine opsF_nil ?_
    have hbn : ∀ b k, aget H1 b = some k → b < n' + 2 → aget ((n' + 2, Blk.row true (rowsC w (plc s[i]))) :: H1) b = some k := fun b k hb hlt => by
      rw [aget_cons, if_neg (by omega)]; exact hb
    have hkb : ∀ b k, KPr KP w s ids b k → b < n' := fun b k hk => (hin _ _ (h4.keep b k hk).1).1
    have h5 : OfI KP w s c5 ((n' + 2, Blk.row true (rowsC w (plc s[i]))) :: H1) i f mw mr ids := {
      cell := hbn _ _ ac (by omega)
      keep := fun b k hk => by
        obtain ⟨q1, q2, q3⟩ := h4.keep b k hk
        have := (hin _ _ q1).1
        exact ⟨hbn _ _ (ak _ _ q1) (by omega), q2, q3⟩
      len := h4.len
      off := h4.off
      on := fun hf => by
        obtain ⟨q1, q2, q3, q4, q5⟩ := h4.on hf
        have := (hin _ _ q4).1
        have := (hin _ _ q5).1
        exact ⟨q1, q2, q3, hbn _ _ (ak _ _ q4) (by omega), hbn _ _ (ak _ _ q5) (by omega)⟩ }
    refine AWc.forget (T0 := (7, .p (n' + 1) 0) :: (8, slRow w (n' + 2)) :: o9 s c2 c4 c5 i) (by simp [o9, slRow]) ?_
    refine oD2_ok KP w s hs c2 c4 c5 i hi f mw mr ids (n' + 3) _ h5 (n' + 1) (n' + 2) (.inr ⟨_, by rw [hgd]; exact hbn _ _ a1 (by omega)⟩) (by rw [hgd, aget_cons, if_pos rfl]) (by omega) (fun hf => ?_) (by omega) (fun hf => ?_) fun T2 n2 H2 f2 mw2 mr2 hn2 hO hT => ?_
    · obtain ⟨_, _, _, q4, q5⟩ := h4.on hf
      have := (hin _ _ q4).1
      have := (hin _ _ q5).1
      omega
    · obtain ⟨_, _, _, q4, q5⟩ := h4.on hf
      have := (hin _ _ q4).1
      have := (hin _ _ q5).1
      omega
    refine AWc.forget hT (.ops (opsF_all (by simp only [o9]; simp [hwi]; rfl) ?_))
    exact ⟨s.length - (i + 1), ⟨o9 s c2 c4 c5 (i + 1), [], n2, H2⟩, by omega, ⟨i + 1, n2, H2, f2, mw2, mr2, _, by omega, rfl, by omega, hO, rfl⟩, St.less_F (by simp) (by simp [o9])⟩
  · obtain rfl : i = s.length := by omega
    refine .seq (.ops (opsF_all (by simp only [o9]; simp; rfl) ?_))
    refine .seq (.cond (t := false) (by simp) (.exit ?_))
    exact hQ _ n' H' f mw mr ids h3 h4 (by simp)
end Go.Proofs.Ytpgelghkjiejlaa
end
section
set_option maxRecDepth 4000
namespace Go.Proofs.Ytpgelghkjiejlaa
open Go
attribute [local irreducible] opsF drawF drawP fontC shV
theorem fH_pos (w : Bool) : 0 < fH w := by cases w <;> decide
theorem ofN_ok (w : Bool) (s : List UInt8) (hs : s.length ≤ 4096) (n : Nat) (H : Heap) : ACalls Try.prog 9 [.ag (fontC w), .s s] n H fun v n' H' => (∀ b k, aget H b = some k → aget H' b = some k) ∧ RefF H' v w s := by
  refine .withIn (ACalls.enters F9_ok trivial) fun hin hargs => ?_
  have hin : HIn n H := hin
  have hfl : (fontC w).length = 1617 := fontC_len w
  have hL : ((min 4096 s.length : Nat) : Int) = s.length := by omega
  refine .enter0 F9_ok (by simp [F9]) ?_
  refine .seq (.ops (opsF_all (by simp; rfl) ?_))
  refine AWc.forget (T0 := [(1, .s s), (2, .p n 0), (4, .p (n + 1) 0)]) (by simp) ?_
  obtain ⟨H1, hH1⟩ : ∃ H1 : Heap, H1 = (n + 1, .row true [.nils, .nils, .i .i64 0, .i .i64 0]) :: (n, .row true (fontC w)) :: H := ⟨_, rfl⟩
  refine AWc.alikeH (H := H1) (fun b => by rw [hH1]) ?_
  have g0 : aget H1 n = some (.row true (fontC w)) := by rw [hH1]; simp
  have g1 : aget H1 (n + 1) = some (.row true [.nils, .nils, .i .i64 0, .i .i64 0]) := by rw [hH1]; simp
  have gk : ∀ b k, aget H b = some k → aget H1 b = some k := fun b k hb => by
    have := (hin _ _ hb).1
    rw [hH1, aget_cons, if_neg (by omega), aget_cons, if_neg (by omega)]; exact hb
  clear hH1
  refine .withIn fun hin1 => ?_
  have hin1 : HIn (n + 2) H1 := hin1
  have n0 : n < n + 2 := by omega
  refine .seq (.drawS (by rfl) (drawF_run 1 (by rfl) (by simp [g0]; exact ⟨rfl, rfl⟩) ?_))
  refine drawF_callN (v := .i .i64 (fA w)) (n1 := n + 2) (R := []) rfl rfl rfl (ascent_pure w (n + 2) []) (by simp) (by simp) rfl ?_
  refine drawF_run 1 (by rfl) (by simp [g0]; exact ⟨rfl, rfl⟩) ?_
  refine drawF_callN (v := .i .i64 (fA w)) (n1 := n + 2) (R := []) rfl rfl rfl (ascent_pure w (n + 2) []) (by simp) (by simp) rfl ?_
  refine drawF_run 1 (by rfl) (by simp [g0]; exact ⟨rfl, rfl⟩) ?_
  refine drawF_callN (v := .i .i64 (fD w)) (n1 := n + 2) (R := []) rfl rfl rfl (descent_pure w (n + 2) []) (by simp) (by simp) rfl ?_
  refine drawF_all (by rfl) (by simp [setAll, Blk.own]; exact ⟨rfl, rfl⟩) ⟨?_, ?_⟩
  · simp [-idOf, heapOk, heapRow, heavy, heapI]
    repeat' (first | apply And.intro | intro _)
    all_goals first | decide | exact .inl (by decide) | omega | (right; omega)
  refine AWc.forget (T0 := [(1, .s s), (2, .p n 0), (4, .p (n + 1) 0), (5, .p (n + 2) 0)]) (by simp) ?_
  obtain ⟨H2, hH2⟩ : ∃ H2 : Heap, H2 = (n + 2, .row true [.nils, .nils, .i .i64 (fA w : Nat), .i .i64 (fH w : Nat)]) :: H1 := ⟨_, rfl⟩
  refine AWc.alikeH (H := H2) (fun b => ?_) ?_
  · rw [hH2]
    simp only [aget_mergeH, aget_cons, touch, aget_nil, List.contains_cons, List.contains_nil]
    by_cases e9 : n + 2 = b
    · subst e9; simp
    · have q1 : ¬ (b = n + 2) := fun h => e9 h.symm
      simp [e9, q1]
      repeat' split
      all_goals first | rfl | (exfalso; omega)
  have g5 : aget H2 (n + 2) = some (.row true [.nils, .nils, .i .i64 (fA w : Nat), .i .i64 (fH w : Nat)]) := by rw [hH2]; simp
  have gk2 : ∀ b k, aget H1 b = some k → aget H2 b = some k := fun b k hb => by
    have := (hin1 _ _ hb).1
    rw [hH2, aget_cons, if_neg (by omega)]; exact hb
  clear hH2
  have hmin : (if (s.length : Int) < 4096 then (s.length : Int) else 4096) = s.length := by split <;> omega
  refine .seq (.seq (.ops (opsF_all (by simp [hmin]; rfl) ?_)))
  refine AWc.forget (T0 := o9 s n (n + 1) (n + 2) 0) (by simp [o9]) ?_
  refine oLoop w s hs n (n + 1) (n + 2) (n + 3) H2 (fun b k => aget H1 b = some k) g0 {
    cell := g5
    keep := fun b k hk => by
      rcases hk with hk | ⟨j, hj, _⟩
      · have := (hin1 _ _ hk).1
        exact ⟨gk2 _ _ hk, by omega, by simp⟩
      · simp at hj
    len := rfl
    off := fun _ => rfl
    on := by simp } fun T' n' H' f mw mr ids hn' hO hT => ?_
  refine AWc.forget hT ?_
  have hcell := hO.cell
  obtain ⟨q1, q15, q1m⟩ := hO.keep (n + 1) _ (.inl g1)
  refine AWc.seq (.ops (opsF_run 1 (by simp [hcell]; rfl) ?_))
  refine opsF_cons_op (v := .un) (n' := n') (H' := aput H' (n + 1) (.row true [slB f mw 1 s.length, slB f mr 1 s.length, .i .i64 (fA w : Nat), .i .i64 (fH w : Nat)])) rfl rfl ?_ ?_
  · simp [q1, setAll, slB_one]
  refine opsF_nil (.ret ⟨.inr rfl, rfl, [.ag [slB f mw 1 s.length, slB f mr 1 s.length, .i .i64 (fA w : Nat), .i .i64 (fH w : Nat)]], by simp [F9, aget_put], ?_, ?_⟩)
  · intro b k hb
    have hbn := (hin _ _ hb).1
    show aget (aput H' (n + 1) _) b = _
    rw [aget_put, if_neg (by omega)]
    exact (hO.keep b k (.inl (gk _ _ hb))).1
  · have hg : ∀ b k, b ≠ n + 1 → aget H' b = some k → aget (aput H' (n + 1) (.row true [slB f mw 1 s.length, slB f mr 1 s.length, .i .i64 (fA w : Nat), .i .i64 (fH w : Nat)])) b = some k := fun b k hb hk => by
      rw [aget_put, if_neg (fun e => hb e.symm)]; exact hk
    cases f with
    | false =>
      have h0 := List.eq_nil_of_length_eq_zero (hO.off rfl)
      exact ⟨_, _, rfl, .inl ⟨h0, rfl⟩, .inl ⟨h0, rfl⟩⟩
    | true =>
      obtain ⟨p1, p2, p3, p4, p5⟩ := hO.on rfl
      obtain ⟨r1, r2⟩ := q1m rfl
      rw [List.take_length] at p4
      refine ⟨_, _, rfl, .inr ⟨mw, false, true, rfl, hg _ _ (fun e => r1 e.symm) p4⟩, .inr ⟨mr, false, true, ids, rfl, hg _ _ (fun e => r2 e.symm) p5, hO.len, fun j id hj => ?_⟩⟩
      obtain ⟨t1, t2, t3⟩ := hO.keep id _ (.inr ⟨j, hj, rfl⟩)
      refine ⟨true, hg _ _ (fun e => ?_) t1⟩
      subst e
      rw [q1] at t1
      have hlen := congrArg (fun o => match o with | some (.row _ cs) => cs | _ => []) t1
      simp only at hlen
      have hh := congrArg (fun cs => cs[0]?) hlen
      have h9 := fH_pos w
      simp only [List.getElem?_cons_zero, rowsC_get w _ h9] at hh
      cases hh
end Go.Proofs.Ytpgelghkjiejlaa
end
section
set_option maxRecDepth 4000
namespace Go.Proofs.Ytpgelghkjiejlaa
open Go
attribute [local irreducible] opsF drawF drawP fontC shV
theorem fits18_pure (x y : Int) (n : Nat) (H : Heap) : Pure Try.prog 18 [.i .i64 x, .i .i64 y] n H (.b (coordV x && coordV y)) := by
  refine .of0 (.enter0 F18_ok (by simp [F18]) ?_) (by simp [VIn.i]) (.b _) n H
  refine .seq (.ops (opsF_all (by simp; rfl) ?_))
  unfold coordV
  by_cases h1 : -1048576 ≤ x
  · by_cases h2 : x ≤ 1048576
    · by_cases h3 : -1048576 ≤ y
      · by_cases h4 : y ≤ 1048576
        · refine .seq (.ops (opsF_run 4 (by simp [h1, h2, h3, h4]; rfl) ?_))
          refine opsF_run 4 (by simp [h1, h2, h3, h4]; rfl) ?_
          refine opsF_run 4 (by simp [h1, h2, h3, h4]; rfl) ?_
          refine opsF_all (by simp [h1, h2, h3, h4]; rfl) ?_
          exact .ret (by simp [F18, h1, h2, h3, h4])
        · refine .seq (.ops (opsF_run 4 (by simp [h1, h2, h3, h4]; rfl) ?_))
          refine opsF_run 4 (by simp [h1, h2, h3, h4]; rfl) ?_
          refine opsF_run 4 (by simp [h1, h2, h3, h4]; rfl) ?_
          refine opsF_all (by simp [h1, h2, h3, h4]; rfl) ?_
          exact .ret (by simp [F18, h1, h2, h3, h4])
      · refine .seq (.ops (opsF_run 4 (by simp [h1, h2, h3]; rfl) ?_))
        refine opsF_run 4 (by simp [h1, h2, h3]; rfl) ?_
        refine opsF_run 4 (by simp [h1, h2, h3]; rfl) ?_
        refine opsF_all (by simp [h1, h2, h3]; rfl) ?_
        exact .ret (by simp [F18, h1, h2, h3])
    · refine .seq (.ops (opsF_run 4 (by simp [h1, h2]; rfl) ?_))
      refine opsF_run 4 (by simp [h1, h2]; rfl) ?_
      refine opsF_run 4 (by simp [h1, h2]; rfl) ?_
      refine opsF_all (by simp [h1, h2]; rfl) ?_
      exact .ret (by simp [F18, h1, h2])
  · refine .seq (.ops (opsF_run 4 (by simp [h1]; rfl) ?_))
    refine opsF_run 4 (by simp [h1]; rfl) ?_
    refine opsF_run 4 (by simp [h1]; rfl) ?_
    refine opsF_all (by simp [h1]; rfl) ?_
    exact .ret (by simp [F18, h1])
theorem cellsW_at (w : Bool) (s : List UInt8) {i : Nat} (h : i < s.length) : (cellsW w s)[i]? = some (.i .i64 (fW w (plc s[i]) : Nat)) := by
  simp [cellsW, h]
theorem SlW.len {H : Heap} {S : V} {w : Bool} {s : List UInt8} (h : SlW H S w s) : evLen false S = some (.i .i64 s.length) := by
  rcases h with ⟨rfl, rfl⟩ | ⟨m, full, o, rfl, _⟩ <;> rfl
theorem SlW.known {H : Heap} {S : V} {w : Bool} {s : List UInt8} (h : SlW H S w s) : S.known = true ∧ S.one = true := by
  rcases h with ⟨rfl, rfl⟩ | ⟨m, full, o, rfl, _⟩ <;> exact ⟨rfl, rfl⟩
theorem SlO.known {H : Heap} {S : V} {w : Bool} {s : List UInt8} (h : SlO H S w s) : S.known = true ∧ S.one = true := by
  rcases h with ⟨_, rfl⟩ | ⟨m, full, o, ids, rfl, _⟩ <;> exact ⟨rfl, rfl⟩
theorem width20_pure (w : Bool) (s : List UInt8) (hs : s.length ≤ 4096) (SW SR a b : V) (ha : a.known = true) (hb : b.known = true) (n : Nat) (H : Heap) (hW : SlW H SW w s) : Pure Try.prog 20 [.ag [SW, SR, a, b]] n H (.i .i64 (pw w s : Nat)) := by
  refine .withIn (ACalls.enters F20_ok trivial) fun hin _ => ?_
  have hin : HIn n H := hin
  refine Pure.of_drop ?_ (.i _ _)
  have hL := hW.len
  refine .enter0 F20_ok (by simp [F20]) ?_
  refine .seq (.ops (opsF_all (by simp; rfl) ?_))
  refine .seq (.ops (opsF_all (by simp; rfl) ?_))
  refine .seq (.seq (.ops (opsF_all (by simp; rfl) ?_)))
  have gk : ∀ q k, aget H q = some k → aget ((n, Blk.row true [SW, SR, a, b]) :: H) q = some k := fun q k hq => by
    have := (hin _ _ hq).1
    rw [aget_cons, if_neg (by omega)]; exact hq
  refine .block (.loop (k₀ := s.length) (s₀ := ⟨[(1, .p n 0), (3, .i .i64 0), (4, .i .i64 0)], [], n + 1, (n, .row true [SW, SR, a, b]) :: H⟩)
    (fun k st => ∃ i : Nat, i ≤ s.length ∧ k = s.length - i ∧ st = ⟨[(1, .p n 0), (3, .i .i64 (pw w (s.take i) : Nat)), (4, .i .i64 i)], [], n + 1, (n, .row true [SW, SR, a, b]) :: H⟩)
    ⟨0, by omega, rfl, by simp [pw]⟩ (St.less_F (by simp) (by simp)) (Nat.le_refl _) (fun k st ⟨i, h1, h2, h3⟩ => by rw [h3]; exact Nat.le_refl _) ?_)
  rintro k st ⟨i, h1, rfl, rfl⟩
  by_cases hi : i < s.length
  · rcases hW with ⟨rfl, _⟩ | ⟨m, full, o, rfl, hm⟩
    · simp at hi
    have hmn := (hin _ _ hm).1
    have e1 : ¬ n = m := by omega
    have hi' : (i : Int) < s.length := by omega
    have hwi : IntKind.i64.wrap ((i : Int) + 1) = ((i + 1 : Nat) : Int) := IntWalk.i64_in _ (by omega)
    have hps := pw_succ w s i hi
    have hpb := pw_le w (s.take (i + 1))
    have hg := cellsW_at w s hi
    have hwr : IntKind.i64.wrap ((pw w (s.take i) : Int) + (fW w (plc s[i]) : Int)) = (pw w (s.take (i + 1)) : Int) := by
      rw [hps, IntWalk.i64_in _ (by simp at hpb; omega)]
      simp
    refine .seq (.seq (.ops (opsF_all (by simp only [runS]; simp [hi']; rfl) ?_)))
    refine .cond (t := true) (by simp [hi']) (.skip ?_)
    refine .seq (.block (.ops (opsF_run 5 (by simp [hi']; rfl) ?_)))
    refine opsF_all (by simp [e1, hm, hg, hwr]; rfl) ?_
    refine .ops (opsF_all (by simp [hwi]; rfl) ?_)
    exact ⟨s.length - (i + 1), ⟨[(1, .p n 0), (3, .i .i64 (pw w (s.take (i + 1)) : Nat)), (4, .i .i64 ((i + 1 : Nat)))], [], n + 1, _⟩, by omega, ⟨i + 1, by omega, rfl, rfl⟩, St.less_F (by simp) (by simp)⟩
  · obtain rfl : i = s.length := by omega
    refine .seq (.seq (.ops (opsF_run 3 (by simp; rfl) ?_)))
    refine opsF_run 1 (by simp [-evLen, hL]; rfl) ?_
    refine opsF_all (by simp; rfl) ?_
    refine .cond (t := false) (by simp) (.exit ?_)
    refine .seq (.ops (opsF_all (by simp; rfl) ?_))
    refine .ret ⟨.inr rfl, rfl, [.i .i64 (pw w s : Nat)], by simp [F20, List.take_length], rfl, gk⟩
theorem counts34_pure (x y w h : Int) (h1 : -1048576 ≤ x ∧ x ≤ 1048576) (h2 : -2000000 ≤ y ∧ y ≤ 1048576) (h3 : 0 ≤ w ∧ w ≤ 2097152) (h4 : 1 ≤ h ∧ h ≤ 2097152) (n : Nat) (H : Heap) :
    Pure Try.prog 34 [rectV x y w h] n H (.b (decide (-1048576 ≤ y) && (decide (1 ≤ w) && (decide (x + w ≤ 1048576) && decide (y + h ≤ 1048576))))) := by
  refine .of0 (.enter0 F34_ok (by simp [F34]) ?_) (by intro z hz; rw [List.mem_singleton.1 hz]; exact rectV_in) (.b _) n H
  have a1 : ¬ x < -1048576 := by omega
  have a2 : ¬ 1048576 < x := by omega
  have a3 : ¬ 1048576 < y := by omega
  have a4 : ¬ h < 1 := by omega
  have a5 : ¬ 2097152 < w := by omega
  have a6 : ¬ 2097152 < h := by omega
  have w1 : IntKind.i64.wrap (x + w) = x + w := IntWalk.i64_in _ (by omega)
  have w2 : IntKind.i64.wrap (y + h) = y + h := IntWalk.i64_in _ (by omega)
  refine .seq (.ops (opsF_all (by simp [rectV]; rfl) ?_))
  by_cases b1 : y < -1048576
  · have b1' : ¬ -1048576 ≤ y := by omega
    refine .seq (.seq (.ops (opsF_run 4 (by simp [a1]; rfl) ?_)))
    refine opsF_run 5 (by simp [a2]; rfl) ?_
    refine opsF_run 5 (by simp [b1]; rfl) ?_
    refine opsF_run 5 (by simp; rfl) ?_
    refine opsF_run 5 (by simp; rfl) ?_
    refine opsF_run 5 (by simp; rfl) ?_
    refine opsF_run 5 (by simp; rfl) ?_
    refine opsF_all (by simp; rfl) ?_
    refine .cond (t := true) (by simp) (.seq (.ops (opsF_all (by simp; rfl) ?_)))
    exact .ret (by simp [F34, b1'])
  · have b1' : -1048576 ≤ y := by omega
    by_cases b2 : w < 1
    · have b2' : ¬ 1 ≤ w := by omega
      refine .seq (.seq (.ops (opsF_run 4 (by simp [a1]; rfl) ?_)))
      refine opsF_run 5 (by simp [a2]; rfl) ?_
      refine opsF_run 5 (by simp [b1]; rfl) ?_
      refine opsF_run 5 (by simp [a3]; rfl) ?_
      refine opsF_run 5 (by simp [b2]; rfl) ?_
      refine opsF_run 5 (by simp; rfl) ?_
      refine opsF_run 5 (by simp; rfl) ?_
      refine opsF_all (by simp; rfl) ?_
      refine .cond (t := true) (by simp) (.seq (.ops (opsF_all (by simp; rfl) ?_)))
      exact .ret (by simp [F34, b1', b2'])
    · have b2' : 1 ≤ w := by omega
      refine .seq (.seq (.ops (opsF_run 4 (by simp [a1]; rfl) ?_)))
      refine opsF_run 5 (by simp [a2]; rfl) ?_
      refine opsF_run 5 (by simp [b1]; rfl) ?_
      refine opsF_run 5 (by simp [a3]; rfl) ?_
      refine opsF_run 5 (by simp [b2]; rfl) ?_
      refine opsF_run 5 (by simp [a4]; rfl) ?_
      refine opsF_run 5 (by simp [a5]; rfl) ?_
      refine opsF_all (by simp [a6]; rfl) ?_
      refine .cond (t := false) (by simp) (.skip ?_)
      refine AWc.forget (T0 := [(1, .p 0 0)]) (by simp) ?_
      by_cases b3 : x + w ≤ 1048576
      · by_cases b4 : y + h ≤ 1048576
        · refine .seq (.ops (opsF_run 5 (by simp [w1]; rfl) ?_))
          refine opsF_run 5 (by simp [b3]; rfl) ?_
          refine opsF_all (by simp [w2, b4]; rfl) ?_
          exact .ret (by simp [F34, b1', b2', b3, b4])
        · refine .seq (.ops (opsF_run 5 (by simp [w1]; rfl) ?_))
          refine opsF_run 5 (by simp [b3]; rfl) ?_
          refine opsF_all (by simp [w2, b4]; rfl) ?_
          exact .ret (by simp [F34, b1', b2', b3, b4])
      · refine .seq (.ops (opsF_run 5 (by simp [w1]; rfl) ?_))
        refine opsF_run 5 (by simp [b3]; rfl) ?_
        refine opsF_all (by simp; rfl) ?_
        exact .ret (by simp [F34, b1', b2', b3])
end Go.Proofs.Ytpgelghkjiejlaa
end
section
set_option maxRecDepth 4000
namespace Go.Proofs.Ytpgelghkjiejlaa
open Go
attribute [local irreducible] opsF drawF drawP fontC shV
theorem SlW.restrL {H : Heap} {S : V} {w : Bool} {s : List UInt8} {fr : List Nat} (h : SlW H S w s) (hf : ∀ b ∈ idOf S, b ∈ fr) : SlW (restr H fr []) S w s := by
  rcases h with ⟨h1, h2⟩ | ⟨m, full, o, rfl, hm⟩
  · exact .inl ⟨h1, h2⟩
  · refine .inr ⟨m, full, false, rfl, ?_⟩
    unfold restr
    simp only [pickR, List.nil_append]
    exact pickR_ro hm (hf m (by simp))
theorem SlW.mono {H H' : Heap} {S : V} {w : Bool} {s : List UInt8} (h : SlW H S w s) (hm : ∀ b k, aget H b = some k → aget H' b = some k) : SlW H' S w s := by
  rcases h with h | ⟨m, full, o, h1, h2⟩
  · exact .inl h
  · exact .inr ⟨m, full, o, h1, hm _ _ h2⟩
theorem SlW.ids {H : Heap} {S : V} {w : Bool} {s : List UInt8} {n : Nat} (h : SlW H S w s) (hin : HIn n H) : (∀ b ∈ idOf S, b < n) ∧ VIn n S := by
  rcases h with ⟨_, rfl⟩ | ⟨m, full, o, rfl, hm⟩
  · exact ⟨by simp, .nils⟩
  · exact ⟨fun b hb => by simp at hb; subst hb; exact (hin _ _ hm).1, .sl (hin _ _ hm).1⟩
theorem boxV_eq (w : Bool) (x y : Int) (s : List UInt8) (hs : s.length ≤ 4096) (hc : (coordV x && coordV y) = true) :
    boxV w x y s = if (decide (-1048576 ≤ y - (fA w : Nat)) && (decide (1 ≤ ((pw w s : Nat) : Int)) && (decide (x + (pw w s : Nat) ≤ 1048576) && decide (y - (fA w : Nat) + (fH w : Nat) ≤ 1048576)))) then rectV x (y - (fA w : Nat)) (pw w s : Nat) (fH w : Nat) else rectV 0 0 0 0 := by
  have ht : s.take 4096 = s := List.take_of_length_le hs
  unfold boxV
  rw [if_pos hc, ht]
  simp only [coordV, Bool.and_eq_true, decide_eq_true_eq] at hc
  have hp := fH_pos w
  have h9 := fH_le w
  have hA : fA w ≤ 7 := by cases w <;> decide
  have hpb := pw_le w s
  congr 1
  unfold rfitsV
  rw [IntWalk.i64_in (1048576 - x) (by omega), IntWalk.i64_in (1048576 - (y - (fA w : Nat))) (by omega)]
  simp only [Bool.and_eq_true, decide_eq_true_eq, eq_iff_iff]
  omega
theorem refBox_pure (w : Bool) (x y : Int) (s : List UInt8) (hs : s.length ≤ 4096) (SW SR : V) (n : Nat) (H : Heap) (hW : SlW H SW w s) (hR : SR.known = true ∧ SR.one = true) :
    Pure Try.prog 17 [.ag [SW, SR, .i .i64 (fA w : Nat), .i .i64 (fH w : Nat)], .i .i64 x, .i .i64 y] n H (boxV w x y s) := by
  refine .withIn (ACalls.enters F17_ok trivial) fun hin ha => ?_
  have hin : HIn n H := hin
  refine Pure.of_drop ?_ boxV_in
  have hWk := hW.known
  obtain ⟨hWi, _⟩ := hW.ids hin
  have hRid : ∀ b ∈ idOf SR, b < n := fun b hb => by
    have hv : VIn n SR := by
      have := ha _ (List.mem_cons_self ..)
      cases this with
      | ag h => exact h SR (by simp)
    cases SR <;> simp at hb
    all_goals (subst hb; first | (cases hv; assumption) | skip)
  have hp := fH_pos w
  have h9 := fH_le w
  have hA : fA w ≤ 7 := by cases w <;> decide
  have hpb := pw_le w s
  refine .enter0 F17_ok (by simp [F17]) ?_
  refine .seq (.ops (opsF_all (by simp; rfl) ?_))
  refine AWc.forget (T0 := [(1, .i .i64 x), (2, .i .i64 y), (3, .p n 0), (6, .p (n + 1) 0)]) (by simp) ?_
  obtain ⟨H1, hH1⟩ : ∃ H1 : Heap, H1 = (n + 1, .row true [.i .i64 0, .i .i64 0, .i .i64 0, .i .i64 0]) :: (n, .row true [SW, SR, .i .i64 (fA w : Nat), .i .i64 (fH w : Nat)]) :: H := ⟨_, rfl⟩
  refine AWc.alikeH (H := H1) (fun b => by rw [hH1]) ?_
  have g0 : aget H1 n = some (.row true [SW, SR, .i .i64 (fA w : Nat), .i .i64 (fH w : Nat)]) := by rw [hH1]; simp
  have g1 : aget H1 (n + 1) = some (.row true [.i .i64 0, .i .i64 0, .i .i64 0, .i .i64 0]) := by rw [hH1]; simp
  have gk : ∀ b k, aget H b = some k → aget H1 b = some k := fun b k hb => by
    have := (hin _ _ hb).1
    rw [hH1, aget_cons, if_neg (by omega), aget_cons, if_neg (by omega)]; exact hb
  clear hH1
  have hW1 := hW.mono gk
  have n0 : n < n + 2 := by omega
  refine .withIn fun hin1 => ?_
  have hin1 : HIn (n + 2) H1 := hin1
  refine .seq (.drawS (by rfl) (drawF_run 3 (by rfl) (by simp; exact ⟨rfl, rfl⟩) ?_))
  refine drawF_run 3 (by rfl) (by simp [g0, n0]; exact ⟨rfl, rfl⟩) ?_
  refine drawF_call (f := 20) (first := []) (caps := []) (fr := idOf SW) (fw := []) (v := .i .i64 (pw w s : Nat)) (n1 := n + 2) (R := restr H1 (idOf SW) []) rfl rfl rfl (width20_pure w s hs SW SR _ _ rfl rfl (n + 2) _ (hW1.restrL (fun b hb => hb))) ⟨Nat.le_refl _, by simp only [List.append_nil]; intro b hb; have := hWi b hb; show b < n + 2; omega, by simp, fun p hp ht => by simp [touch] at ht; omega⟩ ⟨.i _ _, fun p hp ht => by simp [touch] at ht; omega⟩ ?_
  rw [merge_none]
  refine drawF_run 2 (by rfl) (by simp [g0, n0]; exact ⟨rfl, rfl⟩) ?_
  refine drawF_run 1 (by rfl) (by simp [setAll]; exact ⟨rfl, rfl⟩) ?_
  refine drawF_all (by rfl) (by simp [setAll, Blk.own]; exact ⟨rfl, rfl⟩) ⟨?_, ?_⟩
  · have hd : ∀ b ∈ idOf SW, b ≠ n + 2 := fun b hb => by have := hWi b hb; omega
    simp [-idOf, heapOk, heapRow, heavy, heapI]
    repeat' (first | apply And.intro | intro _)
    all_goals first | decide | exact .inl (by decide) | omega | (right; omega)
  refine AWc.forget (T0 := [(1, .i .i64 x), (2, .i .i64 y), (6, .p (n + 1) 0), (7, .p (n + 2) 0)]) (by simp) ?_
  obtain ⟨H2, hH2⟩ : ∃ H2 : Heap, H2 = (n + 2, .row true [.i .i64 x, .i .i64 (w64 (y - (fA w : Nat))), .i .i64 (pw w s : Nat), .i .i64 (fH w : Nat)]) :: H1 := ⟨_, rfl⟩
  refine AWc.alikeH (H := H2) (fun b => ?_) ?_
  · rw [hH2]
    simp only [aget_mergeH, aget_cons, touch, aget_nil, List.contains_cons, List.contains_nil]
    by_cases e9 : n + 2 = b
    · subst e9; simp
    · have q1 : ¬ (b = n + 2) := fun h => e9 h.symm
      simp [e9, q1]
      repeat' split
      all_goals first | rfl | (exfalso; omega)
  have k2 : aget H2 (n + 2) = some (.row true [.i .i64 x, .i .i64 (w64 (y - (fA w : Nat))), .i .i64 (pw w s : Nat), .i .i64 (fH w : Nat)]) := by rw [hH2]; simp
  have k1 : aget H2 (n + 1) = some (.row true [.i .i64 0, .i .i64 0, .i .i64 0, .i .i64 0]) := by rw [hH2, aget_cons, if_neg (by omega)]; exact g1
  have kk : ∀ b k, aget H b = some k → aget H2 b = some k := fun b k hb => by
    have := (hin _ _ hb).1
    rw [hH2, aget_cons, if_neg (by omega)]; exact gk _ _ hb
  clear hH2
  have hno : ∀ (v : V), v = rectV 0 0 0 0 → boxV w x y s = v → ∀ T : Temps, aget T 6 = some (.p (n + 1) 0) → aget T 26 = some (.b true) → AWc Try.prog F17.N none (.cond (.t 26)
     (.seq (.ops none [⟨(some 27), (.build [(.i .i64 0), (.i .i64 0), (.i .i64 0), (.i .i64 0)] []), none⟩,
       ⟨none, (.st 4 (.t 6) (.t 27)), none⟩])
     (.ret))
     (.skip)) ⟨T, [], n + 3, H2⟩ (onNormal (fun s => False) fun e st => (e = .normal ∨ e = .ret) ∧ st.D = [] ∧ ∃ vs, resAll st.T st.H F17.res = some vs ∧ (resV vs = boxV w x y s ∧ ∀ b k, aget H b = some k → aget st.H b = some k)) := by
    intro v hv hb T t6 t26
    refine AWc.forget (T0 := [(6, .p (n + 1) 0), (26, .b true)]) (by simp [t6, t26]) ?_
    refine .cond (t := true) (by simp) (.seq (.ops (opsF_all (by simp [k1, setAll]; rfl) ?_)))
    refine .ret ⟨.inr rfl, rfl, [rectV 0 0 0 0], by simp [F17, rectV, aget_put], by rw [hb, hv]; rfl, fun b k hq => ?_⟩
    have := (hin _ _ hq).1
    show aget (aput H2 (n + 1) _) b = _
    rw [aget_put, if_neg (by omega)]; exact kk _ _ hq
  cases hc : (coordV x && coordV y) with
  | false =>
    have hbx : boxV w x y s = rectV 0 0 0 0 := by unfold boxV; rw [hc]; rfl
    refine .seq (.seq (.ops (opsF_run 2 (by simp; rfl) ?_)))
    refine opsF_cons_call rfl rfl rfl (v := .b false) (by simpa [hc] using fits18_pure x y _ _) ?_
    refine opsF_run 3 (by simp; rfl) ?_
    refine opsF_all (by simp; rfl) ?_
    refine (hno _ rfl hbx _ (by simp) (by simp)).conseq fun e st h => ?_
    cases e <;> first | exact h.elim | exact h
  | true =>
    have hbe := boxV_eq w x y s hs hc
    have hc' := hc
    simp only [coordV, Bool.and_eq_true, decide_eq_true_eq] at hc'
    have hwy : w64 (y - (fA w : Nat)) = y - (fA w : Nat) := IntWalk.i64_in _ (by omega)
    rw [hwy] at k2
    have hcp := fun m G => counts34_pure x (y - (fA w : Nat)) (pw w s : Nat) (fH w : Nat) (by omega) (by omega) (by omega) (by omega) m G
    generalize (decide (-1048576 ≤ y - (fA w : Nat)) && (decide (1 ≤ ((pw w s : Nat) : Int)) && (decide (x + (pw w s : Nat) ≤ 1048576) && decide (y - (fA w : Nat) + (fH w : Nat) ≤ 1048576)))) = g at hbe hcp
    refine .seq (.seq (.ops (opsF_run 2 (by simp; rfl) ?_)))
    refine opsF_cons_call rfl rfl rfl (v := .b true) (by simpa [hc] using fits18_pure x y _ _) ?_
    refine opsF_run 3 (by simp [k2]; rfl) ?_
    refine opsF_cons_call rfl rfl rfl (v := .b g) (by simpa [rectV] using hcp _ _) ?_
    cases g with
    | false =>
      refine opsF_all (by simp; rfl) ?_
      refine (hno _ rfl hbe _ (by simp) (by simp)).conseq fun e st h => ?_
      cases e <;> first | exact h.elim | exact h
    | true =>
      refine opsF_all (by simp; rfl) ?_
      refine .cond (t := false) (by simp) (.skip ?_)
      refine AWc.forget (T0 := [(6, .p (n + 1) 0), (7, .p (n + 2) 0)]) (by simp) ?_
      refine .seq (.ops (opsF_all (by simp [k2, k1, setAll]; rfl) ?_))
      refine .ret ⟨.inr rfl, rfl, [rectV x (y - (fA w : Nat)) (pw w s : Nat) (fH w : Nat)], by simp [F17, rectV, aget_put], by rw [hbe]; rfl, fun b k hq => ?_⟩
      have := (hin _ _ hq).1
      show aget (aput H2 (n + 1) _) b = _
      rw [aget_put, if_neg (by omega)]; exact kk _ _ hq
end Go.Proofs.Ytpgelghkjiejlaa
end
