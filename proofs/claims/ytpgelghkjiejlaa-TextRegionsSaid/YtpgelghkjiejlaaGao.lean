/- Of of package band: the range over the row's stretches. Of of package band: the range over the row's stretches, as a whole; the last pieces of a round. Of of package band: a band that goes on in the next one. Of of package band: its rounds. Of of package band. The plain law of rectangles in bands: edges. The plain law of band.Of. -/
import Derived.Test.YtpgelghkjiejlaaGan
set_option linter.unusedVariables false
set_option linter.unusedSimpArgs false
section
set_option maxRecDepth 4000
namespace Go.Proofs.Ytpgelghkjiejlaa
open Go
attribute [local irreducible] opsF drawF drawP
def spanR (y b : Int) (p : Int × Int) : Rc := ⟨p.1, y, w64 (p.2 - p.1), w64 (b - y)⟩
def gAs : ACode := (.ops none [⟨(some 16), (.new [(.i .i64 0), (.i .i64 0)]), none⟩,
                ⟨none, (.st 2 (.t 16) (.t 86)), none⟩])
def gBo : ACode := (.block 7 (.ops none [⟨(some 87), (.ld false 1 (.t 7)), none⟩,
                 ⟨(some 88), (.fa 0 (.t 16)), none⟩,
                 ⟨(some 89), (.ld false 1 (.t 88)), none⟩,
                 ⟨(some 90), (.ld false 1 (.t 12)), none⟩,
                 ⟨(some 91), (.fa 1 (.t 16)), none⟩,
                 ⟨(some 92), (.ld false 1 (.t 91)), none⟩,
                 ⟨(some 93), (.fa 0 (.t 16)), none⟩,
                 ⟨(some 94), (.ld false 1 (.t 93)), none⟩,
                 ⟨(some 95), (.bin .sub (.t 92) (.t 94)), none⟩,
                 ⟨(some 96), (.ld false 1 (.t 13)), none⟩,
                 ⟨(some 97), (.ld false 1 (.t 12)), none⟩,
                 ⟨(some 98), (.bin .sub (.t 96) (.t 97)), none⟩,
                 ⟨(some 99), (.build [(.i .i64 0), (.i .i64 0), (.i .i64 0), (.i .i64 0)] [(0, 1, (.t 89)), (1, 1, (.t 90)), (2, 1, (.t 95)), (3, 1, (.t 98))]), none⟩,
                 ⟨(some 100), (.lit 4 1 [(.i .i64 0), (.i .i64 0), (.i .i64 0), (.i .i64 0)] [(0, (.t 99))]), none⟩,
                 ⟨(some 101), (.app 4 32 [(.i .i64 0), (.i .i64 0), (.i .i64 0), (.i .i64 0)] (.t 87) (.t 100)), none⟩,
                 ⟨none, (.st 1 (.t 7) (.t 101)), none⟩]))
def gT (rc : Nat) (SA SY : V) (c7 : Nat) (Sr : V) (ab nx i c12 c13 ca from' q : Nat) : Temps := (85, .fn 69 [] [.p q 0]) :: (15, .i .i64 from') :: oR rc SA SY c7 Sr ab nx i c12 c13 ca
/-- What holds of the heap in the range, between the rounds. -/
def InvG (c7 L : Nat) (r0 : ALoop) (KP : Nat → Blk → Prop) (n : Nat) (H : Heap) (fr : Bool) (mr : Nat) (row out : List Rc) : Prop :=
  ∃ fo mo, OfH c7 KP n H fr mr row fo mo out ∧ aget H L = some (.loop r0) ∧ L ≠ c7 ∧ (fr = true → L ≠ mr) ∧ (fo = true → L ≠ mo) ∧ c7 < n ∧ L < n ∧ (fr = true → mr < n) ∧ (fo = true → mo < n) ∧ ∀ b k, KP b k → b < n
theorem evSt_one {n : Nat} {H : Heap} {c : Nat} {cs : List V} {x : V} (h : aget H c = some (.row true cs)) (hl : cs.length = 1) (h1 : x.known = true) (h2 : x.one = true) (h3 : x.cells = [x]) : evSt n H 1 (.p c 0) x = some (.un, n, aput H c (.row true [x])) := by
  obtain ⟨y, rfl⟩ : ∃ y, cs = [y] := by
    match cs, hl with
    | [y], _ => exact ⟨y, rfl⟩
  simp only [evSt, h, h1, h2, h3]
  simp [setAll, h2]
theorem ofG_yield (L : Nat) (r0 : ALoop) (rc : Nat) (SA SY : V) (c7 : Nat) (Sr : V) (ab nx i c12 c13 ca from' q mk : Nat) (hr0 : r0 = ⟨.ready, none, 134, gT rc SA SY c7 Sr ab nx i c12 c13 ca from' q, [86], gAs, gBo, mk⟩) (KP : Nat → Blk → Prop) (hKL : ∀ k, ¬ KP L k)
    (y b : Int) (h12 : KP c12 (.row true [.i .i64 y])) (h13 : KP c13 (.row true [.i .i64 b])) (fr : Bool) (mr : Nat) (row out : List Rc) (a to : Int) (n : Nat) (H : Heap) (hob : out.length + 1 ≤ 4000000000000)
    (h : InvG c7 L r0 KP n H fr mr row out) :
    YCalls Try.prog L [.ag [.i .i64 a, .i .i64 to]] (n + 1) ((n, .row true [.i .i64 a, .i .i64 to]) :: H) fun v n' H' => v = .b true ∧ n ≤ n' ∧ InvG c7 L r0 KP n' H' fr mr row (out ++ [spanR y b (a, to)]) := by
  obtain ⟨fo, mo, h, hL0, hLc, hLr, hLo, hcn, hLn, hrn, hon, hkn⟩ := h
  have e1 : ¬ n = L := by omega
  have e2 : ¬ n + 1 = L := by omega
  refine ⟨r0, by rw [aget_cons, if_neg e1]; exact hL0, by rw [hr0]; rfl, by rw [hr0]; simp, ?_⟩
  have hT : r0.T = gT rc SA SY c7 Sr ab nx i c12 c13 ca from' q := by rw [hr0]
  have hPs : r0.params = [86] := by rw [hr0]
  have hAs : r0.assign = gAs := by rw [hr0]
  have hBo : r0.body = gBo := by rw [hr0]
  have hN : r0.N = 134 := by rw [hr0]
  have hst : r0.st = .ready := by rw [hr0]
  have hpd : r0.pend = none := by rw [hr0]
  rw [hT, hPs, hAs, hN]
  refine AWc.ops (opsF_all (by simp [gT, oR, putAll, setAll]; rfl) ?_)
  refine ⟨rfl, rfl, r0, by simp [e1, e2, hL0], hst, ?_⟩
  refine AWc.forget (T0 := [(7, .p c7 0), (12, .p c12 0), (13, .p c13 0), (16, .p (n + 1) 0)]) (by simp) ?_
  have hagL : ∀ (k : Blk) (G : Heap) b, b ≠ L → aget (aput G L k) b = aget G b := fun k G b hb => by rw [aget_put, if_neg (fun e => hb e.symm)]
  obtain ⟨H3, hH3⟩ : ∃ H3, H3 = aput ((n + 1, Blk.row true [.i .i64 a, .i .i64 to]) :: (n, Blk.row true [.i .i64 a, .i .i64 to]) :: H) L (.loop { r0 with st := .busy }) := ⟨_, rfl⟩
  have hg16 : aget H3 (n + 1) = some (.row true [.i .i64 a, .i .i64 to]) := by rw [hH3, hagL _ _ _ (by omega)]; simp
  have hgL : aget H3 L = some (.loop { r0 with st := .busy }) := by rw [hH3, aget_put, if_pos rfl]
  have h3 : OfH c7 KP (n + 2) H3 fr mr row fo mo out := by
    have hcon : ∀ (G : Heap) (k : Nat) (u : Blk), OfH c7 KP (n + 2) G fr mr row fo mo out → n ≤ k → OfH c7 KP (n + 2) ((k, u) :: G) fr mr row fo mo out := fun G k u hG hk =>
      hG.chg (b0 := k) (fun b k' hb hb' => by rw [aget_cons, if_neg (fun e => hb e.symm)]; exact hb') (by omega) (fun hf => by have := hrn hf; omega) (fun hf => by have := hon hf; omega) (fun k' hk' => by have := hkn _ _ hk'; omega)
    rw [hH3]
    exact (hcon _ (n + 1) _ (hcon _ n _ (h.grow fun b k hb => hb) (Nat.le_refl _)) (by omega)).chg (b0 := L) (fun b k hb hb' => by rw [hagL _ _ _ hb]; exact hb') hLc hLr hLo hKL
  have hgo : AWc Try.prog 134 (some L) gBo ⟨[(7, .p c7 0), (12, .p c12 0), (13, .p c13 0), (16, .p (n + 1) 0)], [], n + 2, H3⟩ (fun e2 s2 => ∃ r2, aget s2.H L = some (.loop r2) ∧
        match e2 with
        | .normal => (V.b true = .b true ∧ n ≤ s2.n ∧ InvG c7 L r0 KP s2.n (aput s2.H L (.loop { r2 with st := .ready, pend := none })) fr mr row (out ++ [spanR y b (a, to)]))
        | _ => False) := by
    clear hH3
    have hcell := h3.cell
    have k12 := (h3.keep _ _ h12).1
    have k13 := (h3.keep _ _ h13).1
    refine .block (.ops (opsF_run 8 (by simp [hcell, hg16, k12]; rfl) ?_))
    refine opsF_run 5 (by simp [hg16, k12, k13]; rfl) ?_
    refine opsF_run 1 (by simp [setAll]; rfl) ?_
    have hln : ¬ n + 2 = c7 := by omega
    refine opsF_cons_app (f := fo) (m := mo) (len := out.length) (cs := rcs out) (k := 1) (new := rc4 (spanR y b (a, to))) rfl rfl rfl (fun hf => by rw [h3.fon hf]; exact ⟨rfl, rfl⟩) (fun hf => ?_) (by rw [rcs_len]; omega) rfl (by simp [rc4, spanR]) (by simp [rc4]) rfl (by omega) (by omega) ?_
    · have := hon hf
      obtain ⟨_, p, _, hp⟩ := h3.outb hf
      exact ⟨p, by rw [aget_cons, if_neg (by omega)]; exact hp⟩
    obtain ⟨H4, hH4⟩ : ∃ H4, H4 = (n + 3, Blk.row true (rcs out ++ rc4 (spanR y b (a, to)))) :: (if fo = true then adel ((n + 2, Blk.row true (rc4 (spanR y b (a, to)))) :: H3) mo else ((n + 2, Blk.row true (rc4 (spanR y b (a, to)))) :: H3)) := ⟨_, rfl⟩
    have hk4 : ∀ b k, b < n + 2 → (fo = true → b ≠ mo) → aget H3 b = some k → aget H4 b = some k := by
      intro b k hb1 hb2 hb3
      rw [hH4, aget_cons, if_neg (by omega)]
      cases fo with
      | false => rw [if_neg (by simp), aget_cons, if_neg (by omega)]; exact hb3
      | true => rw [if_pos rfl, aget_del, if_neg (fun e => hb2 rfl e.symm), aget_cons, if_neg (by omega)]; exact hb3
    have hc4 : aget H4 c7 = some (.row true [slB fo mo 4 out.length]) := hk4 _ _ (by omega) (fun hf e => (h3.outb hf).1 e.symm) hcell
    have ho4 : aget H4 (n + 3) = some (.row true (rcs out ++ rc4 (spanR y b (a, to)))) := by rw [hH4, aget_cons, if_pos rfl]
    have hL4 : aget H4 L = some (.loop { r0 with st := .busy }) := hk4 _ _ (by omega) hLo hgL
    refine opsF_cons_op (v := .un) (n' := n + 4) (H' := aput H4 c7 (.row true [.sl (n + 3) 0 4 (out.length + 1) false])) rfl rfl ?_ ?_
    · rw [hH4] at hc4 ⊢
      exact evSt_one hc4 rfl rfl rfl rfl
    refine opsF_nil ?_
    refine ⟨{ r0 with st := .busy }, by show aget (aput H4 c7 _) L = _; rw [aget_put, if_neg (fun e => hLc e.symm)]; exact hL4, rfl, by show n ≤ n + 4; omega, true, n + 3, ?_, ?_, hLc, hLr, fun _ => by omega, by show c7 < n + 4; omega, by show L < n + 4; omega, fun hf => by have := hrn hf; show mr < n + 4; omega, fun _ => by show n + 3 < n + 4; omega, fun b k hk => by have := hkn b k hk; show b < n + 4; omega⟩
    · refine OfH.chg (n := n + 4) (b0 := L) (H := aput H4 c7 (.row true [.sl (n + 3) 0 4 (out.length + 1) false])) ?_ (fun b k hb hb' => by rw [hagL _ _ _ hb]; exact hb') hLc hLr (fun _ => by omega) hKL
      have hlt : ∀ b k, (b ≠ c7) → (b = mr ∧ fr = true ∨ KP b k) → b < n + 2 := fun b k _ h' => by
        rcases h' with ⟨rfl, hf⟩ | h'
        · have := hrn hf; omega
        · have := hkn _ _ h'; omega
      exact {
        cell := by rw [aget_put, if_pos rfl]; simp [slB]
        keep := fun b k hk => by
          obtain ⟨q1, q2, q3, q4⟩ := h3.keep b k hk
          have := hkn _ _ hk
          exact ⟨by rw [aget_put, if_neg (fun e => q2 e.symm)]; exact hk4 _ _ (by omega) q4 q1, q2, q3, fun _ => by omega⟩
        frn := h3.frn
        fon := by simp
        fot := by simp
        rowb := fun hf => by
          obtain ⟨q1, q2⟩ := h3.rowb hf
          have := hrn hf
          exact ⟨q1, by rw [aget_put, if_neg (fun e => q1 e.symm)]; exact hk4 _ _ (by omega) (fun ho => h3.ne hf ho) q2⟩
        outb := fun _ => ⟨by omega, [], by simp [NoId], by rw [aget_put, if_neg (by omega), ho4, rcs_append]; simp [rcs]⟩
        ne := fun hf _ => by have := hrn hf; omega }
    · show aget (aput (aput H4 c7 _) L _) L = _
      rw [aget_put, if_pos rfl]
      rw [hr0]
  have hgo2 := hgo
  rw [← hBo, hH3] at hgo2
  refine hgo2.conseq fun e s hs => ?_
  obtain ⟨r2, g1, g2⟩ := hs
  refine ⟨r2, g1, ?_⟩
  cases e <;> first | exact g2 | exact g2.elim
end Go.Proofs.Ytpgelghkjiejlaa
end
section
set_option maxRecDepth 4000
namespace Go.Proofs.Ytpgelghkjiejlaa
open Go
attribute [local irreducible] opsF drawF drawP
theorem slB_cells (f : Bool) (m sz len : Nat) : (slB f m sz len).cells = [slB f m sz len] := by cases f <;> rfl
theorem ofG {Q : Exit → St → Prop} {yc : ACode} (rc : Nat) (SA SY : V) (c7 ab nx i c12 c13 ca from' : Nat) (y b : Int) {KP : Nat → Blk → Prop} {fr : Bool} {mr : Nat} {row : List Rc} {fo : Bool} {mo : Nat} {out : List Rc} (D : List Nat) (n : Nat) (H : Heap)
    (h : OfH c7 KP n H fr mr row fo mo out) (h12 : KP c12 (.row true [.i .i64 y])) (h13 : KP c13 (.row true [.i .i64 b])) (hok : ∀ r ∈ row, OkRc r) (hl : row.length ≤ 1000000000) (hob : out.length + (spanL row).length ≤ 4000000000000)
    (hQ : ∀ n' H' fo' mo' mk, n ≤ n' → n ≤ mk → mk < n' → OfH c7 (fun b k => KP b k ∨ (b = mk ∧ k = .marks)) n' H' fr mr row fo' mo' (out ++ (spanL row).map (spanR y b)) →
      AWc Try.prog 134 none yc ⟨(15, .i .i64 from') :: oR rc SA SY c7 (slB fr mr 4 row.length) ab nx i c12 c13 ca, mk :: D, n', H'⟩ Q) :
    AWc Try.prog 134 none (.seq (.seq (.ops none [⟨(some 84), (.mv (.t 8)), none⟩,
               ⟨(some 85), (.call (.f 57) [(.t 84)]), none⟩])
             (.block 6 (.rangeF (.t 85) [86] gAs gBo))) yc) ⟨(15, .i .i64 from') :: oR rc SA SY c7 (slB fr mr 4 row.length) ab nx i c12 c13 ca, D, n, H⟩ Q := by
  refine .withIn fun hin => ?_
  have hin : HIn n H := hin
  have hsp := spans_pure (slB fr mr 4 row.length) (slB_known _ _ _ _) n H
  rw [slB_cells] at hsp
  have hcn := h.c7_lt hin
  have hrn := fun hf => h.mr_lt hin hf
  have hon := fun hf => h.mo_lt hin hf
  have hkn : ∀ b k, KP b k → b < n := fun b k hk => h.kp_lt hin hk
  refine AWc.seq (.seq (.ops (opsF_run 1 (by simp [oR]; rfl) ?_)))
  refine opsF_cons_callX rfl rfl rfl (by simpa using hsp) ?_
  refine opsF_nil ?_
  refine AWc.forget (T0 := gT rc SA SY c7 (slB fr mr 4 row.length) ab nx i c12 c13 ca from' n) (by simp [gT, oR]) ?_
  obtain ⟨KP1, hKP1⟩ : ∃ KP1 : Nat → Blk → Prop, KP1 = fun b k => KP b k ∨ (b = n + 1 ∧ k = .marks) ∨ (b = n ∧ k = .row true [slB fr mr 4 row.length]) := ⟨_, rfl⟩
  have hKL : ∀ k, ¬ KP1 (n + 2) k := by
    intro k hk
    rw [hKP1] at hk
    rcases hk with hk | ⟨hk, _⟩ | ⟨hk, _⟩
    · have := hkn _ _ hk; omega
    · omega
    · omega
  obtain ⟨r0, hr0⟩ : ∃ r0 : ALoop, r0 = ⟨.ready, none, 134, gT rc SA SY c7 (slB fr mr 4 row.length) ab nx i c12 c13 ca from' n, [86], gAs, gBo, n + 1⟩ := ⟨_, rfl⟩
  obtain ⟨H1, hH1⟩ : ∃ H1 : Heap, H1 = (n + 2, .loop r0) :: (n + 1, .marks) :: (n, .row true [slB fr mr 4 row.length]) :: H := ⟨_, rfl⟩
  have hin0 : InvG c7 (n + 2) r0 KP1 (n + 3) H1 fr mr row out := by
    refine ⟨fo, mo, (h.grow (n' := n + 3) (H' := H1) fun b k hb => ?_).kp fun b k hk => ?_, by rw [hH1, aget_cons, if_pos rfl], by omega, fun hf => by have := hrn hf; omega, fun hf => by have := hon hf; omega, by omega, by omega, fun hf => by have := hrn hf; omega, fun hf => by have := hon hf; omega, fun b k hk => ?_⟩
    · have := (hin _ _ hb).1
      rw [hH1, aget_cons, if_neg (by omega), aget_cons, if_neg (by omega), aget_cons, if_neg (by omega)]
      exact hb
    · rw [hKP1] at hk
      rcases hk with hk | ⟨rfl, rfl⟩ | ⟨rfl, rfl⟩
      · exact .inl hk
      · exact .inr ⟨by rw [hH1]; simp, by omega, fun hf => by have := hrn hf; omega, fun hf => by have := hon hf; omega⟩
      · exact .inr ⟨by rw [hH1]; simp, by omega, fun hf => by have := hrn hf; omega, fun hf => by have := hon hf; omega⟩
    · rw [hKP1] at hk
      rcases hk with hk | ⟨rfl, rfl⟩ | ⟨rfl, rfl⟩
      · have := hkn _ _ hk; omega
      · omega
      · omega
  have hcall := spans1_ok (n + 2) n (slB fr mr 4 row.length) row hok hl (fun j n' H' => n + 3 ≤ n' ∧ InvG c7 (n + 2) r0 KP1 n' H' fr mr row (out ++ ((spanL row).take j).map (spanR y b)))
    (fun j n' H' ⟨_, fo', mo', g, _⟩ => ⟨⟨true, (g.keep n _ (by rw [hKP1]; exact .inr (.inr ⟨rfl, rfl⟩))).1⟩, g.slRow⟩)
    (fun j a to n' H' ⟨hn', hI⟩ hj => by
      have hjl := (List.getElem?_eq_some_iff.1 hj).1
      refine YCalls.mono (ofG_yield (n + 2) r0 rc SA SY c7 (slB fr mr 4 row.length) ab nx i c12 c13 ca from' n (n + 1) hr0 KP1 hKL y b (by rw [hKP1]; exact .inl h12) (by rw [hKP1]; exact .inl h13) fr mr row _ a to n' H' ?_ hI) ?_
      · simp; omega
      · rintro v n2 H2 ⟨rfl, g1, g2⟩
        refine ⟨rfl, g1, by omega, ?_⟩
        rw [List.take_add_one, hj, List.map_append, ← List.append_assoc]
        exact g2)
    (n + 3) (by omega) H1 ⟨by omega, by simpa using hin0⟩
  refine .block (AWc.rangeF_top (fid := 69) (first := []) (caps := [.p n 0]) (by simp [gT]) ?_)
  rw [hH1, hr0] at hcall
  refine ACalls.mono hcall ?_
  rintro v n' H' ⟨hn', fo', mo', g, gL, gLc, gLr, gLo, _⟩
  rw [List.take_length] at g
  refine ⟨_, gL, by simp, ?_⟩
  show onBlock 6 _ .normal _
  refine AWc.forget (T0 := (15, .i .i64 from') :: oR rc SA SY c7 (slB fr mr 4 row.length) ab nx i c12 c13 ca) (by simp [gT, oR]) ?_
  refine hQ n' _ fo' mo' (n + 1) (by omega) (by omega) (by omega) ?_
  refine OfH.kp (KP := KP1) (g.chg (b0 := n + 2) (fun b k hb hb' => by rw [aget_del, if_neg (fun e => hb e.symm)]; exact hb') gLc gLr gLo hKL) fun b k hk => .inl ?_
  rw [hKP1]
  rcases hk with hk | hk
  · exact .inl hk
  · exact .inr (.inl hk)
end Go.Proofs.Ytpgelghkjiejlaa
end
section
set_option maxRecDepth 4000
namespace Go.Proofs.Ytpgelghkjiejlaa
open Go
attribute [local irreducible] opsF drawF drawP
theorem SlR.sub {H : Heap} {id : Nat} {out : List Rc} {post : List V} {o full : Bool} (hg : aget H id = some (.row o (rcs out ++ post))) {a c : Nat} (hac : a ≤ c) (hc : c ≤ out.length) : SlR H (.sl id (a * 4) 4 (c - a) full) ((out.take c).drop a) := by
  refine .inr ⟨id, a * 4, full, o, rcs (out.take a), rcs (out.drop c) ++ post, ?_, ?_, ?_⟩
  · rw [List.length_drop, List.length_take, Nat.min_eq_left hc]
  · rw [hg]
    have e : out = out.take a ++ ((out.take c).drop a ++ out.drop c) := by
      conv => lhs; rw [← List.take_append_drop c out, ← List.take_append_drop a (out.take c)]
      rw [List.take_take, Nat.min_eq_left hac, List.append_assoc]
    conv => lhs; rw [e, rcs_append, rcs_append]
    simp [List.append_assoc]
  · rw [rcs_len, List.length_take, Nat.min_eq_left (by omega)]; omega
theorem rcs_setH (A B : List Rc) (r : Rc) (post : List V) (v : Int) : setAll (rcs (A ++ r :: B) ++ post) (A.length * 4 + 3) [.i .i64 v] = rcs (A ++ { r with h := v } :: B) ++ post := by
  have h1 : (rcs A).length = A.length * 4 := by rw [rcs_len]; omega
  rw [rcs_append, rcs_append, rcs, rcs, setAll]
  simp only [List.append_assoc, List.length_cons, List.length_nil]
  rw [List.take_append, List.drop_append, ← h1, List.take_of_length_le (by omega), List.drop_of_length_le (by omega)]
  simp [rc4, show (rcs A).length + 3 - (rcs A).length = 3 by omega, show (rcs A).length + 3 + (0 + 1) - (rcs A).length = 4 by omega]
theorem rcs_getH (A B : List Rc) (r : Rc) (post : List V) : (rcs (A ++ r :: B) ++ post)[A.length * 4 + 3]? = some (.i .i64 r.h) := by
  have h1 : (rcs A).length = A.length * 4 := by rw [rcs_len]; omega
  rw [rcs_append, rcs, List.append_assoc, List.getElem?_append_right (by omega), h1]
  simp [rc4, show A.length * 4 + 3 - A.length * 4 = 3 by omega]
  rfl
def tall (y b : Int) (r : Rc) : Rc := { r with h := w64 (r.h + w64 (b - y)) }
def goesOn (out : List Rc) (ab : Nat) (sp : List Rc) : Bool := !(out.drop ab).isEmpty && alikeL (out.drop ab) sp
def outF (y b : Int) (out : List Rc) (ab : Nat) (sp : List Rc) : List Rc := if goesOn out ab sp then out.take ab ++ (out.drop ab).map (tall y b) else out ++ sp
def abF (out : List Rc) (ab : Nat) (sp : List Rc) : Nat := if goesOn out ab sp then ab else out.length
def hCo : ACode := (.seq (.seq (.ops none [⟨(some 110), (.mv (.t 9)), none⟩,
                 ⟨(some 17), (.mv (.t 110)), none⟩])
               (.block 8 (.loop (.seq (.seq (.ops none [⟨(some 111), (.mv (.t 17)), none⟩,
                   ⟨(some 112), (.mv (.t 15)), none⟩,
                   ⟨(some 113), (.bin .lss (.t 111) (.t 112)), none⟩])
                 (.cond (.t 113)
                  (.skip)
                  (.exit 8)))
                 (.seq (.block 9 (.ops (some [0, 0, 3, 7, 15, 0, 0, 96, 255, 511, 1023, 2047]) [⟨(some 116), (.ld false 1 (.t 7)), none⟩,
                   ⟨(some 117), (.mv (.t 17)), none⟩,
                   ⟨(some 118), (.ias 4 (.t 116) (.t 117)), none⟩,
                   ⟨(some 119), (.fa 3 (.t 118)), none⟩,
                   ⟨(some 120), (.ld false 1 (.t 119)), none⟩,
                   ⟨(some 121), (.ld false 1 (.t 13)), none⟩,
                   ⟨(some 122), (.ld false 1 (.t 12)), none⟩,
                   ⟨(some 123), (.bin .sub (.t 121) (.t 122)), none⟩,
                   ⟨(some 124), (.bin .add (.t 120) (.t 123)), none⟩,
                   ⟨(some 125), (.ias 4 (.t 116) (.t 117)), none⟩,
                   ⟨(some 126), (.fa 3 (.t 125)), none⟩,
                   ⟨none, (.st 1 (.t 126) (.t 124)), none⟩]))
                 (.ops none [⟨(some 114), (.mv (.t 17)), none⟩,
                   ⟨(some 115), (.bin .add (.t 114) (.c (.i .i64 1))), none⟩,
                   ⟨(some 17), (.mv (.t 115)), none⟩]))))))
               (.ops none [⟨(some 127), (.ld false 1 (.t 7)), none⟩,
                ⟨(some 128), (.mv (.t 15)), none⟩,
                ⟨(some 129), (.sls 4 (.t 127) none (some (.t 128)) none), none⟩,
                ⟨none, (.st 1 (.t 7) (.t 129)), none⟩]))
theorem ofI {N : Nat} {Q : Exit → St → Prop} (rc : Nat) (SA SY : V) (c7 ab nx i c12 c13 ca : Nat) (Sr : V) (y b : Int) {KP : Nat → Blk → Prop} {fr : Bool} {mr : Nat} {row : List Rc} {mo : Nat} {out sp : List Rc} (D : List Nat) (n : Nat) (H : Heap)
    (h : OfH c7 KP n H fr mr row true mo (out ++ sp)) (h12 : KP c12 (.row true [.i .i64 y])) (h13 : KP c13 (.row true [.i .i64 b])) (hD : ∀ m ∈ D, KP m .marks) (hab : ab < out.length) (hob : (out ++ sp).length ≤ 4000000000000)
    (hQ : ∀ H' T', OfH c7 KP n H' fr mr row true mo (out.take ab ++ (out.drop ab).map (tall y b)) → ((oT rc SA SY c7 Sr ab nx i).map fun p => aget T' p.1) = ((oT rc SA SY c7 Sr ab nx i).map fun p => some p.2) → Q .normal ⟨T', D, n, H'⟩) :
    AWc Try.prog N none hCo ⟨(15, .i .i64 out.length) :: oR rc SA SY c7 Sr ab nx i c12 c13 ca, D, n, H⟩ Q := by
  refine .withIn fun hin0 => ?_
  have hin0 : HIn n H := hin0
  have hDn : ∀ m ∈ D, m < n := fun m hm => h.kp_lt hin0 (hD m hm)
  have hc7n := h.c7_lt hin0
  have hmon := h.mo_lt hin0 rfl
  have hl2 : (out ++ sp).length = out.length + sp.length := List.length_append
  have hTd : ∀ j, ab ≤ j → j ≤ out.length → (out.take ab ++ ((out.take j).drop ab).map (tall y b)).length = j := by
    intro j h1 h2
    simp
    omega
  unfold hCo
  refine .seq (.seq (.ops (opsF_all (by simp [oR]; rfl) ?_)))
  refine .block (.loop (k₀ := out.length - ab) (s₀ := ⟨(17, .i .i64 ab) :: (15, .i .i64 out.length) :: oR rc SA SY c7 Sr ab nx i c12 c13 ca, D, n, H⟩)
    (fun k st => ∃ (j : Nat) (H' : Heap), ab ≤ j ∧ j ≤ out.length ∧ k = out.length - j ∧ OfH c7 KP n H' fr mr row true mo (out.take ab ++ ((out.take j).drop ab).map (tall y b) ++ (out.drop j ++ sp)) ∧ st = ⟨(17, .i .i64 j) :: (15, .i .i64 out.length) :: oR rc SA SY c7 Sr ab nx i c12 c13 ca, D, n, H'⟩)
    ⟨ab, H, Nat.le_refl _, by omega, rfl, ?_, rfl⟩ (St.less_F hDn (by simp [oR])) (Nat.le_refl _) (fun k st ⟨j, H', h1, h2, h3, h4, h5⟩ => by rw [h5]; exact Nat.le_refl _) ?_)
  · have : (out.take ab).drop ab = [] := List.drop_of_length_le (by simp; omega)
    rw [this, List.map_nil, List.append_nil, ← List.append_assoc, List.take_append_drop]
    exact h
  rintro k st ⟨j, H', h1, h2, rfl, h4, rfl⟩
  refine .withIn fun hin => ?_
  have hin : HIn n H' := hin
  have hcell := h4.cell
  have hll : (out.take ab ++ ((out.take j).drop ab).map (tall y b) ++ (out.drop j ++ sp)).length = out.length + sp.length := by
    rw [List.length_append, hTd j h1 h2]; simp; omega
  rw [hll] at hcell
  by_cases hj : j < out.length
  · have hj' : (j : Int) < out.length := by omega
    have hj2 : (j : Int) < (out.length : Int) + sp.length := by omega
    have hwj : IntKind.i64.wrap ((j : Int) + 1) = ((j + 1 : Nat) : Int) := IntWalk.i64_in _ (by omega)
    have hd : out.drop j = out[j] :: out.drop (j + 1) := List.drop_eq_getElem_cons hj
    have htk : (out.take (j + 1)).drop ab = (out.take j).drop ab ++ [out[j]] := by
      rw [List.take_add_one, List.getElem?_eq_getElem hj, List.drop_append_of_le_length (by simp; omega)]
      rfl
    have hA := hTd j h1 h2
    obtain ⟨hm1, post, hpost, hm2⟩ := h4.outb rfl
    have k12 := (h4.keep _ _ h12).1
    have k13 := (h4.keep _ _ h13).1
    have hc12 := (hin _ _ k12).1
    have hc13 := (hin _ _ k13).1
    have hnext : ∀ H2, OfH c7 KP n H2 fr mr row true mo (out.take ab ++ ((out.take j).drop ab).map (tall y b) ++ (tall y b out[j] :: (out.drop (j + 1) ++ sp))) → OfH c7 KP n H2 fr mr row true mo (out.take ab ++ ((out.take (j + 1)).drop ab).map (tall y b) ++ (out.drop (j + 1) ++ sp)) := by
      intro H2 hh
      rw [htk]
      simpa using hh
    rw [hd] at h4 hm2
    generalize out[j] = r at h4 hm2 hnext
    generalize out.take ab ++ ((out.take j).drop ab).map (tall y b) = A at h4 hm2 hA hnext
    rw [List.cons_append] at h4 hm2
    generalize hB : out.drop (j + 1) ++ sp = B at h4 hm2 hnext
    have hset := rcs_setH A B r post (w64 (r.h + w64 (b - y)))
    have hget := rcs_getH A B r post
    have hlen : j * 4 + 3 + 1 ≤ (rcs (A ++ r :: B) ++ post).length := by simp [rcs_len]; omega
    rw [hA] at hset hget
    generalize rcs (A ++ r :: B) ++ post = cs at hm2 hset hget hlen
    have hlen2 : j * 4 + 4 ≤ cs.length := by omega
    refine .seq (.seq (.ops (opsF_all (by simp [oR, hj']; rfl) ?_)))
    refine .cond (t := true) (by simp) (.skip ?_)
    refine AWc.forget (T0 := (17, .i .i64 j) :: (15, .i .i64 out.length) :: oR rc SA SY c7 Sr ab nx i c12 c13 ca) (by simp [oR]) ?_
    refine .seq (.block (.drawS (by rfl) ?_))
    refine drawF_run 4 (by rfl) (by simp [oR, hcell, hc7n, slB, hj2]; exact ⟨rfl, rfl⟩) ?_
    refine drawF_run 1 (by rfl) (by simp [hm2, hmon, hget]; exact ⟨rfl, rfl⟩) ?_
    refine drawF_run 4 (by rfl) (by simp [k12, k13, hc12, hc13]; exact ⟨rfl, rfl⟩) ?_
    refine drawF_run 2 (by rfl) (by simp [hj2]; exact ⟨rfl, rfl⟩) ?_
    refine drawF_all (by rfl) (by simp [hm2, hmon, hlen2, Blk.own]; exact ⟨rfl, rfl⟩) ⟨?_, ?_⟩
    · have e1 : ¬ c7 = mo := fun e => hm1 e.symm
      have e2 : ¬ mo = c7 := hm1
      have e3 := (h4.keep _ _ h12).2.2.2 rfl
      have e4 := (h4.keep _ _ h13).2.2.2 rfl
      have e5 : ¬ mo = c12 := fun e => e3 e.symm
      have e6 : ¬ mo = c13 := fun e => e4 e.symm
      simp [heapOk, heapRow, heavy, heapI, e1, e2, e3, e4, e5, e6, hmon]
      try decide
    refine AWc.forget (T0 := (17, .i .i64 j) :: (15, .i .i64 out.length) :: oR rc SA SY c7 Sr ab nx i c12 c13 ca) (by simp [oR]) ?_
    refine AWc.alikeH (H := aput H' mo (.row true (rcs (A ++ { r with h := w64 (r.h + w64 (b - y)) } :: B) ++ post))) (fun q => ?_) ?_
    · rw [← hset]
      simp only [aget_mergeH, aget_cons, touch, aget_nil, List.contains_cons, List.contains_nil, aget_put]
      by_cases hq : mo = q
      · subst hq; simp
      · have hq' : ¬ (q = mo) := fun h => hq h.symm
        simp [hq, hq']
        try (intros; omega)
    refine .ops (opsF_all (by simp [oR, hwj]; rfl) ?_)
    have h5 : OfH c7 KP n (aput H' mo (.row true (rcs (A ++ { r with h := w64 (r.h + w64 (b - y)) } :: B) ++ post))) fr mr row true mo (A ++ (tall y b r :: B)) := by
      refine h4.outS (fun q k hq1 hq2 hk => by rw [aget_put, if_neg (fun e => hq2 rfl e.symm)]; exact hk) ?_ (by simp) (by simp) (fun _ => ⟨hm1, post, hpost, by rw [aget_put, if_pos rfl]; rfl⟩) h4.ne (fun _ q k hk => (h4.keep q k hk).2.2.2 rfl)
      rw [aget_put, if_neg hm1, h4.cell]
      simp
    have h6 := hnext _ h5
    rw [← hB] at h6
    exact ⟨out.length - (j + 1), ⟨(17, .i .i64 ((j + 1 : Nat) : Int)) :: (15, .i .i64 out.length) :: oR rc SA SY c7 Sr ab nx i c12 c13 ca, D, n, _⟩, by omega, ⟨j + 1, _, by omega, by omega, rfl, h6, by rw [hB]⟩, St.less_F hDn (by simp [oR])⟩
  · obtain rfl : j = out.length := by omega
    refine .seq (.seq (.ops (opsF_all (by simp [oR]; rfl) ?_)))
    refine .cond (t := false) (by simp) (.exit ?_)
    have hA := hTd out.length h1 h2
    obtain ⟨hm1, post, hpost, hm2⟩ := h4.outb rfl
    rw [List.drop_length, List.nil_append, List.take_length] at h4 hm2
    rw [List.take_length] at hA
    generalize out.take ab ++ (out.drop ab).map (tall y b) = A at h4 hm2 hA hQ
    refine AWc.ops (opsF_run 3 (by simp [hcell, slB]; rfl) ?_)
    refine opsF_cons_op (v := .un) (n' := n) (H' := aput H' c7 (.row true [.sl mo 0 4 out.length false])) rfl rfl (by simp [hcell, setAll]) ?_
    refine opsF_nil (hQ _ _ ?_ (by simp [oT]))
    refine h4.outS (fun q k hq1 hq2 hk => by rw [aget_put, if_neg (fun e => hq1 e.symm)]; exact hk) (by rw [aget_put, if_pos rfl, hA]; rfl) (by simp) (fun _ hh => by rw [hh] at hA; simp at hA; omega) (fun _ => ⟨hm1, rcs sp ++ post, (NoId.rcs _).append hpost, by rw [aget_put, if_neg (fun e => hm1 e.symm), hm2, rcs_append, List.append_assoc]⟩) h4.ne (fun _ q k hk => (h4.keep q k hk).2.2.2 rfl)
def hBo : ACode := (.seq (.ops (some [0, 0, 0, 7, 0, 0, 48, 127]) [⟨(some 102), (.ld false 1 (.t 7)), none⟩,
               ⟨(some 103), (.mv (.t 9)), none⟩,
               ⟨(some 104), (.mv (.t 15)), none⟩,
               ⟨(some 105), (.sls 4 (.t 102) (some (.t 103)) (some (.t 104)) none), none⟩,
               ⟨(some 106), (.ld false 1 (.t 7)), none⟩,
               ⟨(some 107), (.mv (.t 15)), none⟩,
               ⟨(some 108), (.sls 4 (.t 106) (some (.t 107)) none none), none⟩,
               ⟨(some 109), (.call (.f 58) [(.t 105), (.t 108)]), none⟩])
             (.cond (.t 109) hCo
              (.ops none [⟨(some 130), (.mv (.t 15)), none⟩,
                ⟨(some 9), (.mv (.t 130)), none⟩])))
theorem ofHH {N : Nat} {Q : Exit → St → Prop} (rc : Nat) (SA SY : V) (c7 ab nx i c12 c13 ca : Nat) (Sr : V) (y b : Int) {KP : Nat → Blk → Prop} {fr : Bool} {mr : Nat} {row : List Rc} {fo : Bool} {mo : Nat} {out sp : List Rc} (D : List Nat) (n : Nat) (H : Heap)
    (h : OfH c7 KP n H fr mr row fo mo (out ++ sp)) (h12 : KP c12 (.row true [.i .i64 y])) (h13 : KP c13 (.row true [.i .i64 b])) (hD : ∀ m ∈ D, KP m .marks) (hab : ab ≤ out.length) (hol : (out.drop ab).length ≤ 1000000000) (hob : (out ++ sp).length ≤ 4000000000000)
    (hQ : ∀ H' T' fo' mo', OfH c7 KP n H' fr mr row fo' mo' (outF y b out ab sp) → ((oT rc SA SY c7 Sr (abF out ab sp) nx i).map fun p => aget T' p.1) = ((oT rc SA SY c7 Sr (abF out ab sp) nx i).map fun p => some p.2) → Q .normal ⟨T', D, n, H'⟩) :
    AWc Try.prog N none hBo ⟨(15, .i .i64 out.length) :: oR rc SA SY c7 Sr ab nx i c12 c13 ca, D, n, H⟩ Q := by
  refine .withIn fun hin => ?_
  have hin : HIn n H := hin
  have hc7n := h.c7_lt hin
  have hcell := h.cell
  have hno : goesOn out ab sp = false → AWc Try.prog N none (.cond (.t 109) hCo
              (.ops none [⟨(some 130), (.mv (.t 15)), none⟩,
                ⟨(some 9), (.mv (.t 130)), none⟩])) ⟨(109, .b false) :: (15, .i .i64 out.length) :: oR rc SA SY c7 Sr ab nx i c12 c13 ca, D, n, H⟩ Q := by
    intro hg
    refine .cond (t := false) (by simp) (.ops (opsF_all (by simp [oR]; rfl) ?_))
    refine hQ _ _ fo mo (by rw [outF, hg]; exact h) (by simp [oT, abF, hg])
  unfold hBo
  cases fo with
  | false =>
    have he := h.fon rfl
    have ho : out = [] := (List.append_eq_nil_iff.1 he).1
    have hs : sp = [] := (List.append_eq_nil_iff.1 he).2
    subst ho hs
    obtain rfl : ab = 0 := by simpa using hab
    refine .seq (.drawP (by rfl) ?_)
    refine drawP_run 4 (by rfl) (by simp [oR, hcell, hc7n, slB]; rfl) ?_
    refine drawP_run 3 (by rfl) (by simp [hcell, hc7n, slB]; rfl) ?_
    have ha := alike_ok .nils .nils [] [] (by simp) n [] (.inl ⟨rfl, rfl⟩) (.inl ⟨rfl, rfl⟩)
    refine drawP_call [] (v := .b false) rfl rfl rfl (by simpa using ha) (by simp) (by simp) ?_
    refine drawP_nil (AWc.forget (T0 := (109, .b false) :: (15, .i .i64 ([] : List Rc).length) :: oR rc SA SY c7 Sr 0 nx i c12 c13 ca) (by simp [oR]) (hno rfl))
  | true =>
    obtain ⟨hm1, post, hpost, hm2⟩ := h.outb rfl
    have hmon := h.mo_lt hin rfl
    have hl2 : (out ++ sp).length = out.length + sp.length := List.length_append
    have hg1 : aget (restr H [mo] []) mo = some (.row false (rcs (out ++ sp) ++ post)) := by simp [hm2]
    have s1 := SlR.sub (full := false) hg1 hab (show out.length ≤ (out ++ sp).length by simp)
    have s2 := SlR.sub (full := false) hg1 (show out.length ≤ (out ++ sp).length by simp) (Nat.le_refl _)
    rw [List.take_left' rfl] at s1
    rw [List.take_length, List.drop_left' rfl] at s2
    have ha := alike_ok _ _ _ _ hol n _ s1 s2
    rw [hl2] at ha hcell
    have hsub : out.length + sp.length - out.length = sp.length := by omega
    have hle2 : out.length ≤ out.length + sp.length := by omega
    refine .seq (.drawP (by rfl) ?_)
    refine drawP_run 4 (by rfl) (by simp [oR, hcell, hc7n, slB, hab]; rfl) ?_
    refine drawP_run 3 (by rfl) (by simp [hcell, hc7n, slB]; rfl) ?_
    refine drawP_call [mo] (v := .b (goesOn out ab sp)) rfl rfl rfl (by simpa [goesOn, hsub] using ha) (by simpa using hmon) (by simp) ?_
    refine drawP_nil (AWc.forget (T0 := (109, .b (goesOn out ab sp)) :: (15, .i .i64 out.length) :: oR rc SA SY c7 Sr ab nx i c12 c13 ca) (by simp [oR]) ?_)
    cases hg : goesOn out ab sp with
    | false => exact hno hg
    | true =>
      have hab2 : ab < out.length := by
        rcases Nat.lt_or_ge ab out.length with hh | hh
        · exact hh
        · rw [goesOn, List.drop_of_length_le hh] at hg; simp at hg
      refine .cond (t := true) (by simp) ?_
      refine AWc.forget (T0 := (15, .i .i64 out.length) :: oR rc SA SY c7 Sr ab nx i c12 c13 ca) (by simp [oR]) ?_
      refine ofI rc SA SY c7 ab nx i c12 c13 ca Sr y b D n H h h12 h13 hD hab2 hob fun H' T' hH hT => hQ H' T' true mo (by rw [outF, hg]; exact hH) (by rw [abF, hg]; exact hT)
end Go.Proofs.Ytpgelghkjiejlaa
end
section
set_option maxRecDepth 4000
namespace Go.Proofs.Ytpgelghkjiejlaa
open Go
attribute [local irreducible] opsF drawF drawP
structure OS where
  row : List Rc
  out : List Rc
  ab : Nat
  nx : Nat
def spN (y b : Int) (row : List Rc) : List Rc := (spanL row).map (spanR y b)
def rowN (all : List Rc) (y : Int) (s : OS) : List Rc := ordL (keepV y s.row) (newL y (all.drop s.nx))
def ofStep (all : List Rc) (y b : Int) (s : OS) : OS :=
  ⟨rowN all y s, outF y b s.out s.ab (spN y b (rowN all y s)), abF s.out s.ab (spN y b (rowN all y s)), s.nx + (newL y (all.drop s.nx)).length⟩
def ofRun (all : List Rc) : List Int → OS → OS
  | y :: b :: ys, s => ofRun all (b :: ys) (ofStep all y b s)
  | _, s => s
def allL (l : List Rc) : List Rc := sortBy cmpYX (l.filter countsV)
def ofL (l : List Rc) : List Rc := (ofRun (allL l) (ysL (allL l)) ⟨[], [], 0, 0⟩).out
theorem spanF_len : ∀ (l : List Rc) (a to : Int), (spanF a to l).length ≤ l.length + 1
  | [], _, _ => by simp [spanF]
  | r :: l, a, to => by
    unfold spanF
    split
    · have := spanF_len l a (if to < r.x + r.w then r.x + r.w else to); simp; omega
    · have := spanF_len l r.x (r.x + r.w); simp; omega
theorem spanL_len : ∀ (l : List Rc), (spanL l).length ≤ l.length
  | [] => by simp [spanL]
  | r :: l => spanF_len l _ _
theorem ordL_mem {row new : List Rc} {r : Rc} (h : r ∈ ordL row new) : r ∈ row ∨ r ∈ new := by
  unfold ordL at h
  split at h
  · simpa using h
  · have := ((sortBy_spec cmpX swoX (row ++ new)).1.mem_iff).1 h
    simpa using this
theorem newL_len (y : Int) (l : List Rc) : (newL y l).length ≤ l.length := (List.takeWhile_prefix _).length_le
theorem newL_mem {y : Int} {l : List Rc} {r : Rc} (h : r ∈ newL y l) : r ∈ l := (List.takeWhile_prefix _).subset h
/-- What holds of the rounds' states. -/
structure OkS (all : List Rc) (i : Nat) (s : OS) : Prop where
  nx : s.nx ≤ all.length
  row : s.row.length ≤ s.nx
  ab : s.ab ≤ s.out.length
  old : (s.out.drop s.ab).length ≤ all.length
  out : s.out.length ≤ i * all.length
  ok : ∀ r ∈ s.row, OkRc r
theorem rowN_len (all : List Rc) (y : Int) (s : OS) (i : Nat) (h : OkS all i s) : (rowN all y s).length ≤ s.nx + (newL y (all.drop s.nx)).length := by
  have h1 := List.length_filter_le (fun r => !goneV y r) s.row
  have h2 := h.row
  rw [rowN, ordL_len]
  have : (keepV y s.row).length ≤ s.row.length := h1
  omega
theorem rowN_ok (all : List Rc) (hok : ∀ r ∈ all, OkRc r) (y : Int) (s : OS) (i : Nat) (h : OkS all i s) : ∀ r ∈ rowN all y s, OkRc r := by
  intro r hr
  rcases ordL_mem hr with h1 | h1
  · exact h.ok r (List.mem_filter.1 h1).1
  · exact hok r (List.mem_of_mem_drop (newL_mem h1))
theorem spN_len (y b : Int) (row : List Rc) : (spN y b row).length ≤ row.length := by rw [spN, List.length_map]; exact spanL_len _
theorem okS_step {all : List Rc} (hok : ∀ r ∈ all, OkRc r) {i : Nat} {s : OS} (h : OkS all i s) (y b : Int) : OkS all (i + 1) (ofStep all y b s) := by
  have h1 := rowN_len all y s i h
  have h2 := spN_len y b (rowN all y s)
  have h3 := newL_len y (all.drop s.nx)
  have h4 := h.nx
  have h5 := h.ab
  have h6 := h.old
  have h7 := h.out
  rw [List.length_drop] at h3 h6
  have h8 : (i + 1) * all.length = i * all.length + all.length := by rw [Nat.add_mul]; omega
  have hsp : (spN y b (rowN all y s)).length ≤ all.length := by omega
  unfold ofStep
  refine ⟨by dsimp only; omega, h1, ?_, ?_, ?_, rowN_ok all hok y s i h⟩
  · dsimp only; unfold abF outF; split <;> simp <;> omega
  · dsimp only; unfold abF outF
    split
    · rw [List.drop_left' (by simp; omega)]; simp; omega
    · rw [List.drop_left' rfl]; exact hsp
  · dsimp only; unfold outF; split <;> simp <;> omega
theorem sort49n (g : FuncId) (n : Nat) (H : Heap) : ACalls Try.prog 49 [.nils, .fn g [] []] n H fun v n' H' => v = .tu [] ∧ n' = n ∧ H' = H := by
  refine ⟨enters49, fun ρ w args' hs hr => ?_⟩
  obtain ⟨y, y2, rfl, hy, hy2⟩ := args_two hr
  obtain ⟨ys, vs, rfl, e1, e2⟩ := fnv_inv hy2
  cases hy with
  | nils =>
    refine (AnyF.slices_SortFunc_none Try.sortRc _ _ _ w).mono ?_
    rintro e w' ⟨rfl, rfl⟩
    exact ⟨.tu [], n, H, ρ, _, ⟨rfl, rfl, rfl⟩, rfl, .tu rfl (by simp), hs, .refl _ _ _ _⟩
def lCo : ACode := (.seq (.seq (.ops none [⟨(some 35), (.mv (.t 11)), none⟩,
          ⟨(some 36), (.bin .add (.t 35) (.c (.i .i64 1))), none⟩,
          ⟨(some 37), (.mv (.t 6)), none⟩,
          ⟨(some 38), (.blen false (.t 37)), none⟩,
          ⟨(some 39), (.bin .lss (.t 36) (.t 38)), none⟩])
         (.cond (.t 39)
          (.skip)
          (.exit 2)))
        (.seq (.block 3 (.seq (.ops (some [0, 0, 3, 7, 0, 0, 32, 112, 240, 0, 0, 1551, 4095]) [⟨(some 42), (.mv (.t 6)), none⟩,
           ⟨(some 43), (.mv (.t 11)), none⟩,
           ⟨(some 44), (.ias 1 (.t 42) (.t 43)), none⟩,
           ⟨(some 45), (.ld false 1 (.t 44)), none⟩,
           ⟨(some 46), (.mv (.t 6)), none⟩,
           ⟨(some 47), (.mv (.t 11)), none⟩,
           ⟨(some 48), (.bin .add (.t 47) (.c (.i .i64 1))), none⟩,
           ⟨(some 49), (.ias 1 (.t 46) (.t 48)), none⟩,
           ⟨(some 50), (.ld false 1 (.t 49)), none⟩,
           ⟨(some 12), (.new [(.i .i64 0)]), none⟩,
           ⟨(some 13), (.new [(.i .i64 0)]), none⟩,
           ⟨none, (.st 1 (.t 12) (.t 45)), none⟩,
           ⟨none, (.st 1 (.t 13) (.t 50)), none⟩])
          (.seq (.ops none [⟨(some 51), (.mv (.t 8)), none⟩,
            ⟨(some 52), (.mkf 55 [] [(.t 12)]), none⟩,
            ⟨(some 53), (.call (.f 54) [(.t 51), (.t 52)]), none⟩,
            ⟨(some 8), (.mv (.t 53)), none⟩])
          (.seq (.ops none [⟨(some 54), (.mv (.t 10)), none⟩,
            ⟨(some 14), (.mv (.t 54)), none⟩])
           (.seq (.block 4 (.loop (.seq (.seq (.ops (some [0, 0, 2, 7, 15, 31, 31, 127, 255, 511, 31, 2047, 4095]) [⟨(some 55), (.mv (.t 10)), none⟩,
               ⟨(some 56), (.mv (.t 3)), none⟩,
               ⟨(some 57), (.blen false (.t 56)), none⟩,
               ⟨(some 58), (.bin .lss (.t 55) (.t 57)), none⟩,
               ⟨(some 59), (.mv (.t 58)), none⟩,
               ⟨(some 60), (.mv (.t 3)), (some ((some 59), true))⟩,
               ⟨(some 61), (.mv (.t 10)), (some ((some 59), true))⟩,
               ⟨(some 62), (.ias 4 (.t 60) (.t 61)), (some ((some 59), true))⟩,
               ⟨(some 63), (.fa 1 (.t 62)), (some ((some 59), true))⟩,
               ⟨(some 64), (.ld false 1 (.t 63)), (some ((some 59), true))⟩,
               ⟨(some 65), (.ld false 1 (.t 12)), (some ((some 59), true))⟩,
               ⟨(some 66), (.bin .eql (.t 64) (.t 65)), (some ((some 59), true))⟩,
               ⟨(some 67), (.pick (.t 59) (.t 66) (.c (.b false))), none⟩])
             (.cond (.t 67)
              (.skip)
              (.exit 4)))
             (.block 5 (.seq (.ops none [⟨(some 68), (.mv (.t 8)), none⟩,
               ⟨(some 69), (.mv (.t 3)), none⟩,
               ⟨(some 70), (.mv (.t 10)), none⟩,
               ⟨(some 71), (.ias 4 (.t 69) (.t 70)), none⟩,
               ⟨(some 72), (.ld true 4 (.t 71)), none⟩,
               ⟨(some 73), (.lit 4 1 [(.i .i64 0), (.i .i64 0), (.i .i64 0), (.i .i64 0)] [(0, (.t 72))]), none⟩,
               ⟨(some 74), (.app 4 32 [(.i .i64 0), (.i .i64 0), (.i .i64 0), (.i .i64 0)] (.t 68) (.t 73)), none⟩,
               ⟨(some 8), (.mv (.t 74)), none⟩])
              (.ops none [⟨(some 75), (.mv (.t 10)), none⟩,
               ⟨(some 76), (.bin .add (.t 75) (.c (.i .i64 1))), none⟩,
               ⟨(some 10), (.mv (.t 76)), none⟩]))))))
           (.seq (.seq (.ops none [⟨(some 77), (.mv (.t 10)), none⟩,
              ⟨(some 78), (.mv (.t 14)), none⟩,
              ⟨(some 79), (.bin .gtr (.t 77) (.t 78)), none⟩])
            (.cond (.t 79)
             (.ops none [⟨(some 80), (.mv (.t 8)), none⟩,
               ⟨(some 81), (.call (.f 49) [(.t 80), (.f 56)]), none⟩])
             (.skip)))
            (.seq (.ops none [⟨(some 82), (.ld false 1 (.t 7)), none⟩,
              ⟨(some 83), (.blen false (.t 82)), none⟩,
              ⟨(some 15), (.mv (.t 83)), none⟩])
            (.seq (.seq (.ops none [⟨(some 84), (.mv (.t 8)), none⟩,
               ⟨(some 85), (.call (.f 57) [(.t 84)]), none⟩])
             (.block 6 (.rangeF (.t 85) [86] gAs gBo)))
             hBo))))))))
         (.ops none [⟨(some 40), (.mv (.t 11)), none⟩,
          ⟨(some 41), (.bin .add (.t 40) (.c (.i .i64 1))), none⟩,
          ⟨(some 11), (.mv (.t 41)), none⟩])))
theorem ofRounds {Q : Exit → St → Prop} (rc c7 my : Nat) (SA : V) (full : Bool) (all : List Rc) (ys : List Int) (pys : List V) (o : Bool) (n0 : Nat) (H0 : Heap) (hin0 : HIn n0 H0) (hc7 : n0 = c7) (hok : ∀ r ∈ all, OkRc r) (hall : all.length ≤ 1000000) (hys : ys.length ≤ 2 * all.length)
    (hSA : SlR H0 SA all) (hmy : aget H0 my = some (.row o (ints ys ++ pys)))
    (hQ : ∀ T' D' n' H' fo mo, let out := (ofRun all ys ⟨[], [], 0, 0⟩).out; OfH c7 (fun b k => aget H0 b = some k ∨ (b ∈ D' ∧ k = .marks)) n' H' false 0 [] fo mo out → D'.Nodup → n0 ≤ n' → c7 < n' →
      ([(2, V.p rc 0), (7, V.p c7 0)].map fun p => aget T' p.1) = ([(2, V.p rc 0), (7, V.p c7 0)].map fun p => some p.2) → (∀ m ∈ D', n0 ≤ m) → Q .normal ⟨T', D', n', H'⟩) :
    AWc Try.prog 134 none (.block 2 (.loop lCo)) ⟨oT rc SA (.sl my 0 1 ys.length full) c7 .nils 0 0 0, [], n0 + 1, (n0, .row true [.nils]) :: H0⟩ Q := by
  subst hc7
  have hb0 : ∀ b k, aget H0 b = some k → b < n0 := fun b k hb => (hin0 b k hb).1
  refine .block (.loop (k₀ := ys.length) (s₀ := ⟨oT rc SA (.sl my 0 1 ys.length full) n0 .nils 0 0 0, [], n0 + 1, (n0, .row true [.nils]) :: H0⟩)
    (fun k st => ∃ (i : Nat) (s : OS) (D : List Nat) (n : Nat) (H : Heap) (fr : Bool) (mr : Nat) (fo : Bool) (mo : Nat), k = ys.length - i ∧ i ≤ ys.length ∧ n0 + 1 ≤ n ∧ OfH n0 (fun b k => aget H0 b = some k ∨ (b ∈ D ∧ k = .marks)) n H fr mr s.row fo mo s.out ∧ D.Nodup ∧ (∀ m ∈ D, n0 < m) ∧ OkS all i s ∧ ofRun all (ys.drop i) s = ofRun all ys ⟨[], [], 0, 0⟩ ∧
      st = ⟨oT rc SA (.sl my 0 1 ys.length full) n0 (slB fr mr 4 s.row.length) s.ab s.nx i, D, n, H⟩)
    ⟨0, ⟨[], [], 0, 0⟩, [], n0 + 1, _, false, 0, false, 0, rfl, Nat.zero_le _, Nat.le_refl _, ?_, by simp, by simp, ⟨by simp, by simp, by simp, by simp, by simp, by simp⟩, rfl, rfl⟩ (St.less_F (by simp) (by simp [oT])) (Nat.le_refl _) (fun k st ⟨i, s, D, n, H, fr, mr, fo, mo, h1, h2, h3, h4⟩ => by rw [h4.2.2.2.2.2]; exact h3) ?_)
  · exact {
      cell := by simp [slB]
      keep := fun b k hk => by
        rcases hk with hk | ⟨hk, _⟩
        · have := hb0 b k hk
          exact ⟨by rw [aget_cons, if_neg (by omega)]; exact hk, by omega, by simp, by simp⟩
        · simp at hk
      frn := by simp
      fon := by simp
      fot := by simp
      rowb := by simp
      outb := by simp
      ne := by simp }
  rintro k st ⟨i, s, D, n, H, fr, mr, fo, mo, rfl, hi, hn, h, hnd, hDn, hS, hrun, rfl⟩
  refine .withIn fun hin => ?_
  have hin : HIn n H := hin
  have hwi : IntKind.i64.wrap ((i : Int) + 1) = ((i + 1 : Nat) : Int) := IntWalk.i64_in _ (by omega)
  unfold lCo
  by_cases hi2 : i + 1 < ys.length
  · have hi2' : ((i + 1 : Nat) : Int) < ys.length := by omega
    refine .seq (.seq (.ops (opsF_all (by simp only [oT]; simp [hwi]; rfl) ?_)))
    refine .cond (t := true) (by simp; omega) (.skip ?_)
    refine AWc.forget (T0 := oT rc SA (.sl my 0 1 ys.length full) n0 (slB fr mr 4 s.row.length) s.ab s.nx i) (by simp [oT]) ?_
    have hdr : ys.drop i = ys[i] :: ys[i + 1] :: ys.drop (i + 2) := by
      rw [List.drop_eq_getElem_cons (by omega), List.drop_eq_getElem_cons hi2]
    have hdr1 : ys.drop (i + 1) = ys[i + 1] :: ys.drop (i + 2) := List.drop_eq_getElem_cons hi2
    refine .seq (.block (ofA rc SA my n0 full _ s.ab s.nx i ys pys hi2 (by omega) D n H o (h.keep my _ (.inl hmy)).1 ?_))
    have hrun2 : ofRun all (ys.drop (i + 1)) (ofStep all ys[i] ys[i + 1] s) = ofRun all ys ⟨[], [], 0, 0⟩ := by
      rw [← hrun, hdr, hdr1]; rfl
    generalize hy1 : ys[i] = y at hrun2
    generalize hy2 : ys[i + 1] = b at hrun2
    have hbn : ∀ q k, (aget H0 q = some k ∨ (q ∈ D ∧ k = .marks)) → q < n := fun q k hk => h.kp_lt hin hk
    obtain ⟨KP, hKP⟩ : ∃ KP : Nat → Blk → Prop, KP = fun q k => (aget H0 q = some k ∨ (q ∈ D ∧ k = .marks)) ∨ (q = n ∧ k = .row true [.i .i64 y]) ∨ (q = n + 1 ∧ k = .row true [.i .i64 b]) := ⟨_, rfl⟩
    have hA : OfH n0 KP (n + 2) ((n + 1, .row true [.i .i64 b]) :: (n, .row true [.i .i64 y]) :: H) fr mr s.row fo mo s.out := by
      refine (h.grow (n' := n + 2) (H' := (n + 1, .row true [.i .i64 b]) :: (n, .row true [.i .i64 y]) :: H) fun q k hq => ?_).kp fun q k hk => ?_
      · have := (hin _ _ hq).1
        rw [aget_cons, if_neg (by omega), aget_cons, if_neg (by omega)]; exact hq
      · rw [hKP] at hk
        rcases hk with hk | ⟨rfl, rfl⟩ | ⟨rfl, rfl⟩
        · exact .inl hk
        · exact .inr ⟨by simp, by omega, fun hf => by have := h.mr_lt hin hf; omega, fun hf => by have := h.mo_lt hin hf; omega⟩
        · exact .inr ⟨by simp, by omega, fun hf => by have := h.mr_lt hin hf; omega, fun hf => by have := h.mo_lt hin hf; omega⟩
    have k12 : KP n (.row true [.i .i64 y]) := by rw [hKP]; exact .inr (.inl ⟨rfl, rfl⟩)
    have k13 : KP (n + 1) (.row true [.i .i64 b]) := by rw [hKP]; exact .inr (.inr ⟨rfl, rfl⟩)
    have hD : ∀ m ∈ D, KP m .marks := fun m hm => by rw [hKP]; exact .inl (.inr ⟨hm, rfl⟩)
    have hSAk : ∀ G : Heap, (∀ q k, KP q k → aget G q = some k) → SlR G SA all := fun G hG => hSA.mono fun q k hq => hG q k (by rw [hKP]; exact .inl (.inl hq))
    have hrl := hS.row
    have hnxl := hS.nx
    have habl := hS.ab
    have holdl := hS.old
    have houtl := hS.out
    have hkl : (keepV y s.row).length ≤ s.row.length := List.length_filter_le _ _
    refine ofB rc SA _ n0 s.ab s.nx i n (n + 1) y D (n + 2) _ hA k12 (by omega) fun H2 h2 => ?_
    refine ofD rc SA _ n0 s.ab s.nx i n (n + 1) y all D (n + 2) H2 h2 k12 hD hSAk hall hS.nx (by omega) fun n3 H3 fr3 mr3 hn3 h3 => ?_
    have hnl := newL_len y (all.drop s.nx)
    rw [List.length_drop] at hnl
    refine ofE rc SA _ n0 s.ab s.nx i n (n + 1) D n3 H3 h3 (by simp; omega) fun H4 h4 => ?_
    have hrn := rowN_len all y s i hS
    have hsl := spanL_len (rowN all y s)
    have hmul : i * all.length ≤ 2000000 * 1000000 := Nat.mul_le_mul (by omega) hall
    refine ofG rc SA _ n0 s.ab _ i n (n + 1) _ _ y b D n3 H4 h4 k12 k13 (rowN_ok all hok y s i hS) (show (rowN all y s).length ≤ _ by omega) (show s.out.length + (spanL (rowN all y s)).length ≤ _ by omega) fun n5 H5 fo5 mo5 mk hn5 hmk hmk5 h5 => ?_
    have hmkD : mk ∉ D := fun hm => by have := hbn mk .marks (.inr ⟨hm, rfl⟩); omega
    refine ofHH rc SA _ n0 s.ab _ i n (n + 1) _ _ y b (mk :: D) n5 H5 h5 (.inl k12) (.inl k13) (fun m hm => ?_) habl (by omega) ?_ fun H6 T6 fo6 mo6 h6 hT6 => ?_
    · rcases List.mem_cons.1 hm with rfl | hm
      · exact .inr ⟨rfl, rfl⟩
      · exact .inl (hD m hm)
    · have := spN_len y b (rowN all y s)
      rw [List.length_append]
      show s.out.length + (spN y b (rowN all y s)).length ≤ _
      omega
    · refine AWc.forget (T0 := oT rc SA (.sl my 0 1 ys.length full) n0 (slB fr3 mr3 4 (rowN all y s).length) (abF s.out s.ab (spN y b (rowN all y s))) (s.nx + (newL y (all.drop s.nx)).length) i) hT6 ?_
      refine .ops (opsF_all (by simp only [oT]; simp [hwi]; rfl) ?_)
      have hn6 : ∀ m ∈ mk :: D, m < n5 := fun m hm => by
        rcases List.mem_cons.1 hm with rfl | hm
        · exact hmk5
        · have := hbn m .marks (.inr ⟨hm, rfl⟩); omega
      refine ⟨ys.length - (i + 1), ⟨oT rc SA (.sl my 0 1 ys.length full) n0 (slB fr3 mr3 4 (rowN all y s).length) (abF s.out s.ab (spN y b (rowN all y s))) (s.nx + (newL y (all.drop s.nx)).length) ((i + 1 : Nat)), mk :: D, n5, H6⟩, by omega, ⟨i + 1, ofStep all y b s, mk :: D, n5, H6, fr3, mr3, fo6, mo6, rfl, by omega, by omega, ?_, List.nodup_cons.2 ⟨hmkD, hnd⟩, fun m hm => ?_, okS_step hok hS y b, hrun2, rfl⟩, St.less_F hn6 (by simp [oT])⟩
      · refine OfH.kp (KP := fun q k => KP q k ∨ (q = mk ∧ k = .marks)) h6 fun q k hk => .inl ?_
        rw [hKP]
        rcases hk with hk | ⟨hk, rfl⟩
        · exact .inl (.inl (.inl hk))
        · rcases List.mem_cons.1 hk with rfl | hk
          · exact .inr ⟨rfl, rfl⟩
          · exact .inl (.inl (.inr ⟨hk, rfl⟩))
      · rcases List.mem_cons.1 hm with rfl | hm
        · omega
        · exact hDn m hm
  · have hi2' : ¬ ((i + 1 : Nat) : Int) < ys.length := by omega
    refine .seq (.seq (.ops (opsF_all (by simp only [oT]; simp [hwi]; rfl) ?_)))
    refine .cond (t := false) (by simp; omega) (.exit ?_)
    have hfin : ofRun all (ys.drop i) s = s := by
      have : (ys.drop i).length ≤ 1 := by simp; omega
      match hd : ys.drop i, this with
      | [], _ => rfl
      | [_], _ => rfl
      | _ :: _ :: _, h => simp at h
    refine hQ _ D n H fo mo ?_ hnd (by omega) (by omega) (by simp [oT]) (fun m hm => by have := hDn m hm; omega)
    rw [← hrun, hfin]
    exact {
      cell := h.cell
      keep := fun q k hk => let ⟨a, b, c, d⟩ := h.keep q k hk; ⟨a, b, by simp, d⟩
      frn := by simp
      fon := h.fon
      fot := h.fot
      rowb := by simp
      outb := h.outb
      ne := by simp }
end Go.Proofs.Ytpgelghkjiejlaa
end
section
set_option maxRecDepth 4000
namespace Go.Proofs.Ytpgelghkjiejlaa
open Go
attribute [local irreducible] opsF drawF drawP
/-- A rectangle whose place is a number of the machine's. -/
def InRc (r : Rc) : Prop := r.x ≤ 9223372036854775807 ∧ r.y ≤ 9223372036854775807
theorem fitsV_ok {a n : Int} (ha : a ≤ 9223372036854775807) : fitsV a n = true ↔ -1048576 ≤ a ∧ 0 < n ∧ a + n ≤ 1048576 := by
  unfold fitsV
  simp only [Bool.and_eq_true, decide_eq_true_eq]
  constructor
  · rintro ⟨h1, h2, h3⟩
    rw [IntWalk.i64_in _ (by omega)] at h3
    omega
  · rintro ⟨h1, h2, h3⟩
    rw [IntWalk.i64_in _ (by omega)]
    omega
theorem countsV_iff {r : Rc} (hr : InRc r) : countsV r = true ↔ OkRc r := by
  unfold countsV OkRc
  rw [Bool.and_eq_true, fitsV_ok hr.1, fitsV_ok hr.2]
  constructor
  · rintro ⟨⟨a, b, c⟩, d, e, f⟩; exact ⟨a, b, c, d, e, f⟩
  · rintro ⟨a, b, c, d, e, f⟩; exact ⟨⟨a, b, c⟩, d, e, f⟩
theorem countsV_ok {r : Rc} (hr : InRc r) (h : countsV r = true) : OkRc r := (countsV_iff hr).1 h
theorem allL_ok (l : List Rc) (hl : ∀ r ∈ l, InRc r) : ∀ r ∈ allL l, OkRc r := by
  intro r hr
  have := ((sortBy_spec cmpYX swoYX (l.filter countsV)).1.mem_iff).1 hr
  have h2 := List.mem_filter.1 this
  exact countsV_ok (hl r h2.1) h2.2
theorem allL_len (l : List Rc) : (allL l).length ≤ l.length := by
  unfold allL
  rw [sortBy_len _ swoYX]
  exact List.length_filter_le _ _
theorem ysL_len (l : List Rc) : (ysL l).length ≤ 2 * l.length := by
  unfold ysL
  have h1 := Go.Lib.compact_length_le (sortI (edgeL l))
  rw [sortI_len, edgeL_len] at h1
  exact h1
/-- A new region of these rectangles. -/
def NewG (l : List Rc) (n : Nat) (H : Heap) : V → Nat → Heap → Prop := fun v n' H' => v = .ag [slB (!l.isEmpty) n 4 l.length] ∧ n' = n + 1 ∧ H' = rowB (!l.isEmpty) n (rcs l) H
theorem HRe.oneN {n m m1 i1 : Nat} {H H' : Heap} {cs : List V} (hin : HIn n H) (hn : n ≤ m) (h1 : n ≤ m1) (h1' : m1 < m) (g1 : ∀ b k, aget H b = some k → b ≠ i1) (hold : ∀ b k, aget H b = some k → aget H' b = some k)
    (hnew : ∃ k', aget H' i1 = some k' ∧ BRe (φ1 m1 i1) m (.row true cs) k') : HRe (φ1 m1 i1) m ((m1, .row true cs) :: H) H' := by
  refine ⟨fun b k hb => ?_, fun b1 b2 k1 k2 e1 e2 he => ?_⟩
  · rw [aget_cons] at hb
    split at hb
    · rename_i e; subst e; cases hb
      exact ⟨h1', by rw [φ1_self]; exact hnew⟩
    · obtain ⟨h2, h3⟩ := hin b k hb
      exact ⟨by omega, k, by rw [φ1_lt h1 b h2]; exact hold b k hb, .old hn (φ1_lt h1) h3⟩
  · rw [aget_cons] at e1 e2
    split at e1 <;> split at e2
    · subst_vars; rfl
    · rename_i a1 a2
      subst a1
      rw [φ1_self, φ1_lt h1 b2 (hin _ _ e2).1] at he
      exact absurd he.symm (g1 _ _ e2)
    · rename_i a1 a2
      subst a2
      rw [φ1_self, φ1_lt h1 b1 (hin _ _ e1).1] at he
      exact absurd he (g1 _ _ e1)
    · rwa [φ1_lt h1 b1 (hin _ _ e1).1, φ1_lt h1 b2 (hin _ _ e2).1] at he
theorem ACalls.newG {P : Program} {g : FuncId} {args : List V} {n : Nat} {H : Heap} {K : V → Nat → Heap → Prop} (l : List Rc) (h : ACalls P g args n H K)
    (hk : ∀ v n' H', K v n' H' → (∀ b k, aget H b = some k → aget H' b = some k) ∧ ((l = [] ∧ v = .ag [.nils]) ∨ (l ≠ [] ∧ ∃ id full post, v = .ag [.sl id 0 4 l.length full] ∧ (∀ b k, aget H b = some k → b ≠ id) ∧ aget H' id = some (.row true (rcs l ++ post))))) :
    ACalls P g args n H (NewG l n H) := by
  refine .withIn h.1 fun hin _ => h.weakenR fun v n' H' hK => ?_
  obtain ⟨h1, h2⟩ := hk _ _ _ hK
  rcases h2 with ⟨rfl, rfl⟩ | ⟨hl, id, full, post, rfl, hid, hget⟩
  · exact ⟨φ1 n n, .ag [slB false n 4 0], n + 1, rowB false n [] H, φ1_lt (Nat.le_refl _), by omega, .agL ⟨.nils, trivial⟩, .one hin (by omega) (Nat.le_refl _) (by omega) (by simp) (fun b k _ => h1 b k) (by simp), rfl, rfl, rfl⟩
  · have he : (!l.isEmpty) = true := by cases l <;> simp_all
    refine ⟨φ1 n id, .ag [slB true n 4 l.length], n + 1, rowB true n (rcs l) H, φ1_lt (Nat.le_refl _), by omega, .agL ⟨.B1 (full := full) (by omega) rfl, trivial⟩, .oneN hin (by omega) (Nat.le_refl _) (by omega) hid h1 ⟨_, hget, (NoId.rcs l).bre _ _ _⟩, ?_, rfl, ?_⟩ <;> rw [he]
theorem aget_delAll : ∀ (D : List Nat) (H : Heap) (b : Nat), b ∉ D → aget (delAll H D) b = aget H b
  | [], H, b, _ => rfl
  | m :: D, H, b, h => by
    rw [delAll, aget_delAll D _ b (fun hh => h (by simp [hh])), aget_del, if_neg (fun e => h (by simp [e]))]
theorem evSt_ag {n : Nat} {H : Heap} {c : Nat} {cs : List V} {u : V} (h : aget H c = some (.row true cs)) (hl : cs.length = 1) (h2 : u.one = true) : evSt n H 1 (.p c 0) (.ag [u]) = some (.un, n, aput H c (.row true [u])) := by
  obtain ⟨y, rfl⟩ : ∃ y, cs = [y] := by
    match cs, hl with
    | [y], _ => exact ⟨y, rfl⟩
  simp only [evSt, h]
  simp [setAll, h2]
theorem ofS {N : Nat} {Q : Exit → St → Prop} {yc : ACode} (l : List Rc) (c7 : Nat) {KP : Nat → Blk → Prop} {fa : Bool} {ma : Nat} (n : Nat) (H : Heap) (hl : l.length ≤ 1000000) (h : OfH c7 KP n H fa ma (l.filter countsV) false 0 [])
    (hQ : ∀ H', OfH c7 KP n H' fa ma (allL l) false 0 [] → AWc Try.prog N none yc ⟨[(2, .p c7 0), (3, slB fa ma 4 (allL l).length)], [], n, H'⟩ Q) :
    AWc Try.prog N none (.seq (.ops none [⟨(some 31), (.mv (.t 3)), none⟩,
     ⟨(some 32), (.call (.f 49) [(.t 31), (.f 50)]), none⟩]) yc) ⟨[(2, .p c7 0), (3, slB fa ma 4 (l.filter countsV).length)], [], n, H⟩ Q := by
  have hsl : (allL l).length = (l.filter countsV).length := sortBy_len _ swoYX _
  have hfl := List.length_filter_le countsV l
  rw [hsl] at hQ
  cases fa with
  | false =>
    have he := h.frn rfl
    have ha : allL l = l.filter countsV := by rw [he] at hsl ⊢; exact List.eq_nil_of_length_eq_zero (by simpa using hsl)
    refine .seq (.ops (opsF_run 1 (by simp; rfl) ?_))
    refine opsF_cons_callX rfl rfl rfl (by simpa [slB] using sort49n 50 n H) ?_
    refine opsF_nil (AWc.forget (T0 := [(2, .p c7 0), (3, slB false ma 4 (l.filter countsV).length)]) (by simp) (hQ _ (by rw [ha]; exact h)))
  | true =>
    obtain ⟨hm1, hm2⟩ := h.rowb rfl
    have hs := sort49 50 cmpYX cmpYX_pure swoYX ma false [] (l.filter countsV) (by omega) n H (by simpa using hm2)
    refine .seq (.ops (opsF_run 1 (by simp; rfl) ?_))
    refine opsF_cons_callX rfl rfl rfl (by simpa [slB] using hs) ?_
    refine opsF_nil (AWc.forget (T0 := [(2, .p c7 0), (3, slB true ma 4 (l.filter countsV).length)]) (by simp) (hQ _ ?_))
    refine h.rowS (fun b k hb hk => ?_) (by simp) (fun _ => ⟨hm1, ?_⟩) (by simp) (fun hf b k hk => (h.keep b k hk).2.2.1 hf)
    · split
      · exact hk
      · rw [aget_put, if_neg (fun e => hb rfl e.symm)]; exact hk
    · split
      · rename_i he
        have he' : l.filter countsV = [] := by rw [List.filter_eq_nil_iff]; intro a ha; simp [he a ha]
        rw [show allL l = sortBy cmpYX (l.filter countsV) from rfl]
        have hs0 : sortBy cmpYX [] = [] := List.eq_nil_of_length_eq_zero (by rw [sortBy_len _ swoYX]; rfl)
        rw [he'] at hm2 ⊢
        rw [hs0]
        exact hm2
      · rw [aget_put, if_pos rfl]; simp [allL]
def eCo : ACode := (.seq (.ops none [⟨(some 33), (.mv (.t 3)), none⟩,
      ⟨(some 34), (.call (.f 53) [(.t 33)]), none⟩,
      ⟨(some 6), (.mv (.t 34)), none⟩])
    (.seq (.ops none [⟨(some 7), (.new [.nils]), none⟩,
      ⟨(some 8), (.mv (.c .nils)), none⟩])
     (.seq (.ops none [⟨(some 9), (.mv (.c (.i .i64 0))), none⟩])
     (.seq (.ops none [⟨(some 10), (.mv (.c (.i .i64 0))), none⟩])
      (.seq (.seq (.ops none [⟨(some 11), (.mv (.c (.i .i64 0))), none⟩])
       (.block 2 (.loop lCo)))
      (.seq (.ops none [⟨(some 131), (.ld false 1 (.t 7)), none⟩,
        ⟨(some 132), (.call (.f 59) [(.t 131)]), none⟩,
        ⟨(some 133), (.build [.nils] [(0, 1, (.t 132))]), none⟩,
        ⟨none, (.st 1 (.t 2) (.t 133)), none⟩])
       (.ret)))))))
def ofPost (l : List Rc) (H : Heap) : Exit → St → Prop := fun e st => (e = .normal ∨ e = .ret) ∧ (∀ m ∈ st.D, aget st.H m = some .marks) ∧ st.D.Nodup ∧ ∃ vs, resAll st.T (delAll st.H st.D) F46.res = some vs ∧
  ((∀ b k, aget H b = some k → aget (delAll st.H st.D) b = some k) ∧ ((ofL l = [] ∧ resV vs = .ag [.nils]) ∨ (ofL l ≠ [] ∧ ∃ id full post, resV vs = .ag [.sl id 0 4 (ofL l).length full] ∧ (∀ b k, aget H b = some k → b ≠ id) ∧ aget (delAll st.H st.D) id = some (.row true (rcs (ofL l) ++ post)))))
theorem ofTT (l : List Rc) (rc : Nat) (H : Heap) {fa : Bool} {ma : Nat} (n : Nat) (H1 : Heap) (hl : l.length ≤ 1000000) (hir : ∀ r ∈ l, InRc r) (hrc : rc < n) (h : OfH rc (fun b k => aget H b = some k) n H1 fa ma (allL l) false 0 []) :
    AWc Try.prog 134 none eCo ⟨[(2, .p rc 0), (3, slB fa ma 4 (allL l).length)], [], n, H1⟩ (ofPost l H) := by
  refine .withIn fun hin => ?_
  have hin : HIn n H1 := hin
  have hal := allL_len l
  have hyl := ysL_len (allL l)
  have hed := edges_ok (slB fa ma 4 (allL l).length) (allL l) (allL_ok l hir) (by omega) n H1 h.slRow
  unfold eCo
  refine .seq (.ops (opsF_run 1 (by simp; rfl) ?_))
  refine opsF_cons_callX rfl rfl rfl (show ACalls Try.prog 53 _ n H1 (fun v' n' H' => v' = slB true n 1 (ysL (allL l)).length ∧ n' = n + 1 ∧ H' = rowB true n (ints (ysL (allL l))) H1) from hed) ?_
  refine opsF_all (by simp; rfl) ?_
  refine AWc.forget (T0 := [(2, .p rc 0), (3, slB fa ma 4 (allL l).length), (6, .sl n 0 1 (ysL (allL l)).length false)]) (by simp [slB]) ?_
  rw [rowB_t]
  obtain ⟨H3, hH3⟩ : ∃ H3, H3 = (n, Blk.row true (ints (ysL (allL l)))) :: H1 := ⟨_, rfl⟩
  have hmy : aget H3 n = some (.row true (ints (ysL (allL l)) ++ [])) := by rw [hH3]; simp
  have hin3 : HIn (n + 1) H3 := by rw [hH3]; exact .cons' (by omega) ((NoId.ints _).bin _) (hin.mono (by omega))
  have hg : ∀ b k, aget H1 b = some k → aget H3 b = some k := fun b k hb => by
    have := (hin b k hb).1
    rw [hH3, aget_cons, if_neg (by omega)]; exact hb
  rw [← hH3]
  refine .seq (.ops (opsF_all (by simp; rfl) ?_))
  refine .seq (.ops (opsF_all (by simp; rfl) ?_))
  refine .seq (.ops (opsF_all (by simp; rfl) ?_))
  refine .seq (.seq (.ops (opsF_all (by simp; rfl) ?_)))
  refine AWc.forget (T0 := oT rc (slB fa ma 4 (allL l).length) (.sl n 0 1 (ysL (allL l)).length false) (n + 1) .nils 0 0 0) (by simp [oT]) ?_
  refine ofRounds rc (n + 1) n _ false (allL l) (ysL (allL l)) [] true (n + 1) H3 hin3 rfl (allL_ok l hir) (by omega) hyl (h.slRow.mono hg) hmy fun T' D' n' H' fo mo h' hnd hn' hc' hT' hD' => ?_
  refine AWc.forget hT' ?_
  have hcell := h'.cell
  have hrcg : ∀ b k, aget H1 b = some k → aget H' b = some k ∧ b ∉ D' ∧ (fo = true → b ≠ mo) := fun b k hb => by
    obtain ⟨g1, g2, g3, g4⟩ := h'.keep b k (.inl (hg b k hb))
    exact ⟨g1, fun hm => by have := hD' _ hm; have := (hin b k hb).1; omega, g4⟩
  obtain ⟨c1, c2, c3⟩ := hrcg _ _ h.cell
  have hcl := clip_pure fo mo (ofL l).length n' H'
  have hcell : aget H' (n + 1) = some (.row true [slB fo mo 4 (ofL l).length]) := hcell
  have hfon : fo = false → ofL l = [] := h'.fon
  have hcv : (clipV fo mo (ofL l).length).known = true ∧ (clipV fo mo (ofL l).length).one = true ∧ (clipV fo mo (ofL l).length).cells = [clipV fo mo (ofL l).length] := by cases fo <;> exact ⟨rfl, rfl, rfl⟩
  obtain ⟨v1, v2, v3⟩ := hcv
  generalize hCV : clipV fo mo (ofL l).length = CV at hcl v1 v2 v3
  refine .seq (.ops (opsF_run 1 (by simp [hcell]; rfl) ?_))
  refine opsF_cons_call rfl rfl rfl (by simpa using hcl) ?_
  refine opsF_cons_op (v := .ag [CV]) (n' := n') (H' := H') rfl rfl (by simp [-V.cells, v1, v3, setAll]) ?_
  refine opsF_cons_op (v := .un) (n' := n') (H' := aput H' rc (.row true [CV])) rfl rfl (evSt_ag c1 rfl v2) ?_
  refine opsF_nil (.ret ⟨.inr rfl, fun m hm => ?_, hnd, [.ag [CV]], ?_, ?_, ?_⟩)
  · show aget (aput H' rc _) m = _
    rw [aget_put, if_neg (fun e : rc = m => c2 (e ▸ hm))]
    exact (h'.keep m .marks (.inr ⟨hm, rfl⟩)).1
  · simp [F46, aget_delAll _ _ _ c2, aget_put]
  · intro b k hb
    obtain ⟨q1, q2, q3, q4⟩ := h.keep b k hb
    obtain ⟨g1, g2, g3⟩ := hrcg b k q1
    show aget (delAll (aput H' rc _) D') b = _
    rw [aget_delAll _ _ _ g2, aget_put, if_neg (fun e => q2 e.symm)]
    exact g1
  · cases fo with
    | false => exact .inl ⟨h'.fon rfl, by rw [← hCV]; rfl⟩
    | true =>
      obtain ⟨o1, post, _, o2⟩ := h'.outb rfl
      refine .inr ⟨h'.fot rfl, mo, true, post, by rw [← hCV]; rfl, fun b k hb => ?_, ?_⟩
      · exact (hrcg b k (h.keep b k hb).1).2.2 rfl
      · show aget (delAll (aput H' rc _) D') mo = _
        rw [aget_delAll _ _ _ (fun hm => (h'.keep mo .marks (.inr ⟨hm, rfl⟩)).2.2.2 rfl rfl), aget_put, if_neg (fun e => c3 rfl e)]
        exact o2
theorem of_ok (S : V) (l : List Rc) (hl : l.length ≤ 1000000) (hir : ∀ r ∈ l, InRc r) (n : Nat) (H : Heap) (hS : SlR H S l) : ACalls Try.prog 46 [S] n H (NewG (ofL l) n H) := by
  refine ACalls.newG (K := fun v n' H' => (∀ b k, aget H b = some k → aget H' b = some k) ∧ ((ofL l = [] ∧ v = .ag [.nils]) ∨ (ofL l ≠ [] ∧ ∃ id full post, v = .ag [.sl id 0 4 (ofL l).length full] ∧ (∀ b k, aget H b = some k → b ≠ id) ∧ aget H' id = some (.row true (rcs (ofL l) ++ post))))) (ofL l) ?_ (fun v n' H' h => h)
  refine .withIn (ACalls.enters F46_ok trivial) fun hin hargs => ?_
  have hin : HIn n H := hin
  have hSin := hS.vin hin
  have hL := hS.len
  refine .enter F46_ok (by simp [F46]) ?_
  refine .seq (.ops (opsF_all (by simp; rfl) ?_))
  refine .seq (.ops (opsF_all (by simp; rfl) ?_))
  refine .seq (.seq (.ops (opsF_all (by simp [-evLen, hL]; rfl) ?_)))
  refine .block (.loop (k₀ := l.length) (s₀ := ⟨[(2, .p n 0), (3, .nils), (18, S), (19, .i .i64 l.length), (20, .i .i64 0)], [], n + 1, (n, .row true [.nils]) :: H⟩)
    (fun k st => ∃ (i n' : Nat) (H' : Heap) (fa : Bool) (ma : Nat), i ≤ l.length ∧ k = l.length - i ∧ n + 1 ≤ n' ∧ OfH n (fun b k => aget H b = some k) n' H' fa ma ((l.take i).filter countsV) false 0 [] ∧ (fa = true → n < ma) ∧
      st = ⟨[(2, .p n 0), (3, slB fa ma 4 ((l.take i).filter countsV).length), (18, S), (19, .i .i64 l.length), (20, .i .i64 i)], [], n', H'⟩)
    ⟨0, n + 1, _, false, 0, by omega, rfl, Nat.le_refl _, ?_, by simp, rfl⟩ (St.less_F (by simp) (by simp)) (Nat.le_refl _) (fun k st ⟨i, n', H', fa, ma, h1, h2, h3, h4, h5, h6⟩ => by rw [h6]; exact h3) ?_)
  · exact {
      cell := by simp [slB]
      keep := fun b k hk => by
        have := (hin b k hk).1
        exact ⟨by rw [aget_cons, if_neg (by omega)]; exact hk, by omega, by simp, by simp⟩
      frn := by simp
      fon := by simp
      fot := by simp
      rowb := by simp
      outb := by simp
      ne := by simp }
  rintro k st ⟨i, n', H', fa, ma, h1, rfl, h3, h4, h5, rfl⟩
  refine .withIn fun hin' => ?_
  have hin' : HIn n' H' := hin'
  have hS' := hS.mono (fun b k hb => (h4.keep b k hb).1)
  by_cases hi : i < l.length
  · obtain ⟨id, q, o, cs, hA⟩ := hS'.at hi
    have a1 := hA.ias
    have a2 := hA.get
    have a3 := hA.len
    have a4 := hA.at4
    have hid := (hin' id _ a2).1
    have hi' : (i : Int) < l.length := by omega
    have hwi : IntKind.i64.wrap ((i : Int) + 1) = ((i + 1 : Nat) : Int) := IntWalk.i64_in _ (by omega)
    have hfl : ((l.take i).filter countsV).length ≤ 1000000 := by
      have := List.length_filter_le countsV (l.take i)
      simp at this
      omega
    have htk : (l.take (i + 1)).filter countsV = (l.take i).filter countsV ++ (if countsV l[i] then [l[i]] else []) := by
      rw [List.take_add_one, List.getElem?_eq_getElem hi, List.filter_append]
      by_cases hc : countsV l[i] <;> simp [hc]
    have hcall := counts_pure l[i]
    generalize l[i] = r at a4 htk hcall
    generalize hcur : (l.take i).filter countsV = cur at h4 htk hfl ⊢
    have e1 : ¬ n' = id := by omega
    refine .seq (.ops (opsF_all (by simp [hi']; rfl) ?_))
    refine .seq (.cond (t := true) (by simp) (.skip ?_))
    refine .seq (.block (.seq (.ops (opsF_run 1 (by simp [-evIas, a1]; rfl) ?_))))
    refine opsF_all (by simp [a2, a3, a4, rc4, setAll]; rfl) ?_
    refine .seq (.ops (opsF_run 1 (by simp [rc4]; rfl) ?_))
    refine opsF_cons_call rfl rfl rfl (v := .b (countsV r)) (by simpa [rV, rc4] using hcall _ _) ?_
    refine opsF_nil ?_
    have hbase : OfH n (fun b k => aget H b = some k) (n' + 1) ((n', .row true (rc4 r)) :: H') fa ma cur false 0 [] := h4.grow fun b k hb => by
      have := (hin' b k hb).1
      rw [aget_cons, if_neg (by omega)]; exact hb
    have hma := fun hf => h4.mr_lt hin' hf
    cases hc : countsV r with
    | false =>
      rw [hc] at htk
      refine .cond (t := false) (by simp) (.skip ?_)
      refine AWc.forget (T0 := [(2, .p n 0), (3, slB fa ma 4 cur.length), (18, S), (19, .i .i64 l.length), (20, .i .i64 i)]) (by simp) ?_
      refine .ops (opsF_all (by simp [hwi]; rfl) ?_)
      have htk' : (l.take (i + 1)).filter countsV = cur := by simpa using htk
      refine ⟨l.length - (i + 1), ⟨[(2, .p n 0), (3, slB fa ma 4 ((l.take (i + 1)).filter countsV).length), (18, S), (19, .i .i64 l.length), (20, .i .i64 ((i + 1 : Nat)))], [], n' + 1, _⟩, by omega, ⟨i + 1, n' + 1, _, fa, ma, by omega, rfl, by omega, by rw [htk']; simpa [rc4] using hbase, h5, rfl⟩, St.less_F (by simp) (by simp [htk'])⟩
    | true =>
      rw [hc] at htk
      refine .cond (t := true) (by simp) ?_
      refine .ops (opsF_run 2 (by simp; rfl) ?_)
      refine opsF_run 1 (by simp [setAll]; rfl) ?_
      refine opsF_cons_app (f := fa) (m := ma) (len := cur.length) (cs := rcs cur) (k := 1) (new := rc4 r) rfl rfl rfl (fun hf => by rw [h4.frn hf]; exact ⟨rfl, rfl⟩) (fun hf => ⟨[], by have := hma hf; rw [aget_cons, if_neg (by omega), aget_cons, if_neg (by omega), (h4.rowb hf).2]; simp⟩) (by rw [rcs_len]; omega) rfl (by simp [rc4]) (by simp [rc4]) rfl (by omega) (by omega) ?_
      refine opsF_all (by simp; rfl) ?_
      have htk' : (l.take (i + 1)).filter countsV = cur ++ [r] := by simpa using htk
      refine AWc.forget (T0 := [(2, .p n 0), (3, slB true (n' + 2) 4 (cur ++ [r]).length), (18, S), (19, .i .i64 l.length), (20, .i .i64 i)]) (by simp [slB]) ?_
      refine .ops (opsF_all (by simp [hwi]; rfl) ?_)
      refine ⟨l.length - (i + 1), ⟨[(2, .p n 0), (3, slB true (n' + 2) 4 ((l.take (i + 1)).filter countsV).length), (18, S), (19, .i .i64 l.length), (20, .i .i64 ((i + 1 : Nat)))], [], n' + 3, _⟩, by omega, ⟨i + 1, n' + 3, _, true, n' + 2, by omega, rfl, by omega, ?_, by omega, rfl⟩, St.less_F (by simp) (by simp [htk', slB])⟩
      rw [htk']
      refine h4.rowS (fun b k hb hk => ?_) (by simp) (fun _ => ⟨by omega, ?_⟩) (by simp) (fun _ b k hk => ?_)
      · have hbn := (hin' _ _ hk).1
        rw [aget_cons, if_neg (by omega)]
        cases fa with
        | false => rw [if_neg (by simp), aget_cons, if_neg (by omega), aget_cons, if_neg (by omega)]; exact hk
        | true => rw [if_pos rfl, aget_del, if_neg (fun e => hb rfl e.symm), aget_cons, if_neg (by omega), aget_cons, if_neg (by omega)]; exact hk
      · rw [aget_cons, if_pos rfl, rcs_append]; simp [rcs]
      · have := h4.kp_lt hin' hk; omega
  · obtain rfl : i = l.length := by omega
    refine .seq (.ops (opsF_all (by simp; rfl) ?_))
    refine .seq (.cond (t := false) (by simp) (.exit ?_))
    refine AWc.forget (T0 := [(2, .p n 0), (3, slB fa ma 4 ((l.take l.length).filter countsV).length)]) (by simp) ?_
    rw [List.take_length] at h4 ⊢
    refine ofS l n n' H' hl h4 fun H2 h2 => ?_
    refine (ofTT l n H n' H2 hl hir (by omega) h2).conseq fun e st h => h
end Go.Proofs.Ytpgelghkjiejlaa
end
section
namespace Go.Proofs.Ytpgelghkjiejlaa
open Go
theorem compact_sorted (d : Array Int) (hd : ∀ i j, i ≤ j → j < d.size → d[i]! ≤ d[j]!) : ∀ m, m ≤ d.size → (Go.Lib.compactUpTo d m).Pairwise (· < ·) ∧ (∀ v, v ∈ Go.Lib.compactUpTo d m ↔ ∃ i, i < m ∧ d[i]! = v)
  | 0, _ => by simp [Go.Lib.compactUpTo]
  | m + 1, h => by
    obtain ⟨h1, h2⟩ := compact_sorted d hd m (by omega)
    rw [Go.Lib.compactUpTo_succ]
    by_cases hk : Go.Lib.keeps d m = true
    · rw [if_pos hk]
      have hne : m = 0 ∨ d[m]! ≠ d[m - 1]! := by
        by_cases h0 : m = 0
        · exact .inl h0
        · by_cases he : d[m]! = d[m - 1]!
          · rw [Go.Lib.keeps_neg (by omega) he] at hk; cases hk
          · exact .inr he
      refine ⟨List.pairwise_append.2 ⟨h1, by simp, fun a ha b hb => ?_⟩, fun v => ?_⟩
      · rw [List.mem_singleton.1 hb]
        obtain ⟨i, hi, rfl⟩ := (h2 a).1 ha
        have e1 := hd i (m - 1) (by omega) (by omega)
        have e2 := hd (m - 1) m (by omega) (by omega)
        rcases hne with h0 | hne
        · omega
        · omega
      · rw [List.mem_append, h2, List.mem_singleton]
        constructor
        · rintro (⟨i, hi, rfl⟩ | rfl)
          · exact ⟨i, by omega, rfl⟩
          · exact ⟨m, by omega, rfl⟩
        · rintro ⟨i, hi, rfl⟩
          by_cases e : i = m
          · subst e; exact .inr rfl
          · exact .inl ⟨i, by omega, rfl⟩
    · rw [if_neg hk, List.append_nil]
      refine ⟨h1, fun v => ?_⟩
      rw [h2]
      constructor
      · rintro ⟨i, hi, rfl⟩; exact ⟨i, by omega, rfl⟩
      · rintro ⟨i, hi, rfl⟩
        by_cases e : i = m
        · subst e
          have h0 : i ≠ 0 := fun h0 => by subst h0; exact hk (Go.Lib.keeps_lt_one d 0 (by omega))
          have he : d[i]! = d[i - 1]! := by
            by_cases he : d[i]! = d[i - 1]!
            · exact he
            · exact absurd (Go.Lib.keeps_pos he) hk
          exact ⟨i - 1, by omega, he.symm⟩
        · exact ⟨i, by omega, rfl⟩
/-- Sorted, each once. -/
theorem sorted_once (l : List Int) : (Go.Lib.compact (sortI l)).Pairwise (· < ·) ∧ ∀ v, v ∈ Go.Lib.compact (sortI l) ↔ v ∈ l := by
  have hs : (sortI l).Pairwise (fun a b => decide (a ≤ b) = true) := List.pairwise_mergeSort (fun a b c h1 h2 => by simp at *; omega) (fun a b => by simp; omega) l
  have hp : (sortI l).Perm l := List.mergeSort_perm l _
  have hm : ∀ i, i < (sortI l).length → (sortI l).toArray[i]! = (sortI l)[i]! := fun i hi => by simp
  obtain ⟨h1, h2⟩ := compact_sorted (sortI l).toArray (fun i j hij hj => by
    have hj' : j < (sortI l).length := by simpa using hj
    rcases Nat.lt_or_ge i j with h | h
    · have := List.pairwise_iff_getElem.1 hs i j (by omega) hj' h
      simpa [getElem!_pos, hj', show i < (sortI l).length by omega] using this
    · obtain rfl : i = j := by omega
      exact Int.le_refl _) (sortI l).length (by simp)
  refine ⟨h1, fun v => ?_⟩
  rw [← hp.mem_iff]
  show v ∈ Go.Lib.compactUpTo _ _ ↔ _
  rw [h2, List.mem_iff_getElem]
  constructor
  · rintro ⟨i, hi, rfl⟩; exact ⟨i, hi, by simp [getElem!_pos, hi]⟩
  · rintro ⟨i, hi, rfl⟩; exact ⟨i, hi, by simp [getElem!_pos, hi]⟩
/-- A place that a rectangle has. -/
def inR (i j : Int) (r : Rc) : Prop := r.x ≤ i ∧ i < r.x + r.w ∧ r.y ≤ j ∧ j < r.y + r.h
def Cov (l : List Rc) (i j : Int) : Prop := ∃ r ∈ l, inR i j r
/-- In the order of bands. -/
def Rel (a b : Rc) : Prop := a.y + a.h ≤ b.y ∨ (a.y = b.y ∧ a.h = b.h ∧ a.x + a.w < b.x)
structure Reg (l : List Rc) : Prop where
  ok : ∀ r ∈ l, OkRc r
  rel : l.Pairwise Rel
theorem Cov_cons (r : Rc) (l : List Rc) (i j : Int) : Cov (r :: l) i j ↔ inR i j r ∨ Cov l i j := by simp [Cov]
theorem Cov_append (a b : List Rc) (i j : Int) : Cov (a ++ b) i j ↔ Cov a i j ∨ Cov b i j := by
  simp only [Cov, List.mem_append]
  constructor
  · rintro ⟨r, h1 | h1, h2⟩
    · exact .inl ⟨r, h1, h2⟩
    · exact .inr ⟨r, h1, h2⟩
  · rintro (⟨r, h1, h2⟩ | ⟨r, h1, h2⟩)
    · exact ⟨r, .inl h1, h2⟩
    · exact ⟨r, .inr h1, h2⟩
theorem hasL_iff (x y : Int) : ∀ (l : List Rc), Reg l → (hasL x y l = true ↔ Cov l x y)
  | [], _ => by simp [hasL, Cov]
  | r :: l, h => by
    have hok := h.ok r (by simp)
    unfold OkRc at hok
    have hl : Reg l := ⟨fun q hq => h.ok q (by simp [hq]), (List.pairwise_cons.1 h.rel).2⟩
    have hr := (List.pairwise_cons.1 h.rel).1
    have ih := hasL_iff x y l hl
    rw [Cov_cons]
    unfold hasL
    rw [IntWalk.i64_in (r.y + r.h) (by omega), IntWalk.i64_in (r.x + r.w) (by omega)]
    by_cases h1 : y < r.y
    · rw [if_pos h1]
      constructor
      · intro hh; cases hh
      · rintro (hh | ⟨q, hq, hh⟩)
        · unfold inR at hh; omega
        · have := hr q hq
          have hq2 := h.ok q (by simp [hq])
          unfold Rel at this
          unfold inR at hh
          unfold OkRc at hq2
          omega
    · rw [if_neg h1]
      by_cases h2 : r.y + r.h ≤ y
      · rw [if_pos h2, ih]
        constructor
        · exact .inr
        · rintro (hh | hh)
          · unfold inR at hh; omega
          · exact hh
      · rw [if_neg h2]
        by_cases h3 : r.x + r.w ≤ x
        · rw [if_pos h3, ih]
          constructor
          · exact .inr
          · rintro (hh | hh)
            · unfold inR at hh; omega
            · exact hh
        · rw [if_neg h3]
          by_cases h4 : r.x ≤ x
          · rw [if_pos h4]
            exact ⟨fun _ => .inl ⟨h4, by omega, by omega, by omega⟩, fun _ => rfl⟩
          · rw [if_neg h4, ih]
            constructor
            · exact .inr
            · rintro (hh | hh)
              · unfold inR at hh; omega
              · exact hh
end Go.Proofs.Ytpgelghkjiejlaa
end
section
namespace Go.Proofs.Ytpgelghkjiejlaa
open Go
theorem spanF_law : ∀ (l : List Rc) (a to : Int), a < to → (∀ r ∈ l, a ≤ r.x ∧ 0 < r.w) → l.Pairwise (fun p q => p.x ≤ q.x) →
    (∀ c : Int, (∃ p ∈ spanF a to l, p.1 ≤ c ∧ c < p.2) ↔ (a ≤ c ∧ c < to) ∨ ∃ r ∈ l, r.x ≤ c ∧ c < r.x + r.w) ∧ (spanF a to l).Pairwise (fun p q => p.2 < q.1) ∧ ∀ p ∈ spanF a to l, a ≤ p.1 ∧ p.1 < p.2
  | [], a, to, h, _, _ => by
    refine ⟨fun c => ?_, by simp [spanF], by simp [spanF]; exact h⟩
    simp [spanF]
  | r :: l, a, to, h, hl, hs => by
    have hr := hl r (by simp)
    have hs1 := (List.pairwise_cons.1 hs).1
    have hs2 := (List.pairwise_cons.1 hs).2
    unfold spanF
    by_cases hx : r.x ≤ to
    · rw [if_pos hx]
      obtain ⟨i1, i2, i3⟩ := spanF_law l a (if to < r.x + r.w then r.x + r.w else to) (by split <;> omega) (fun q hq => hl q (by simp [hq])) hs2
      refine ⟨fun c => ?_, i2, i3⟩
      rw [i1]
      constructor
      · rintro (hh | ⟨q, hq, hh⟩)
        · by_cases e : c < to
          · exact .inl ⟨hh.1, e⟩
          · right
            refine ⟨r, by simp, ?_⟩
            split at hh <;> omega
        · exact .inr ⟨q, by simp [hq], hh⟩
      · rintro (hh | ⟨q, hq, hh⟩)
        · left; split <;> omega
        · rcases List.mem_cons.1 hq with rfl | hq
          · left; split <;> omega
          · exact .inr ⟨q, hq, hh⟩
    · rw [if_neg hx]
      obtain ⟨i1, i2, i3⟩ := spanF_law l r.x (r.x + r.w) (by omega) (fun q hq => ⟨hs1 q hq, (hl q (by simp [hq])).2⟩) hs2
      refine ⟨fun c => ?_, List.pairwise_cons.2 ⟨fun p hp => by have := i3 p hp; show to < p.1; omega, i2⟩, fun p hp => ?_⟩
      · constructor
        · rintro ⟨p, hp, hh⟩
          rcases List.mem_cons.1 hp with rfl | hp
          · exact .inl hh
          · rcases (i1 c).1 ⟨p, hp, hh⟩ with h1 | ⟨q, hq, h1⟩
            · exact .inr ⟨r, by simp, h1⟩
            · exact .inr ⟨q, by simp [hq], h1⟩
        · rintro (hh | ⟨q, hq, hh⟩)
          · exact ⟨(a, to), by simp, hh⟩
          · have : ∃ p ∈ spanF r.x (r.x + r.w) l, p.1 ≤ c ∧ c < p.2 := by
              rw [i1]
              rcases List.mem_cons.1 hq with rfl | hq
              · exact .inl hh
              · exact .inr ⟨q, hq, hh⟩
            obtain ⟨p, hp, hh⟩ := this
            exact ⟨p, by simp [hp], hh⟩
      · rcases List.mem_cons.1 hp with rfl | hp
        · exact ⟨Int.le_refl _, h⟩
        · have := i3 p hp; exact ⟨by omega, this.2⟩
theorem spanL_law (l : List Rc) (hl : ∀ r ∈ l, OkRc r) (hs : l.Pairwise (fun p q => p.x ≤ q.x)) :
    (∀ c : Int, (∃ p ∈ spanL l, p.1 ≤ c ∧ c < p.2) ↔ ∃ r ∈ l, r.x ≤ c ∧ c < r.x + r.w) ∧ (spanL l).Pairwise (fun p q => p.2 < q.1) ∧ ∀ p ∈ spanL l, -1048576 ≤ p.1 ∧ p.1 < p.2 ∧ p.2 ≤ 1048576 := by
  cases l with
  | nil => simp [spanL]
  | cons r l =>
    have hs1 := (List.pairwise_cons.1 hs).1
    have hr := hl r (by simp)
    unfold OkRc at hr
    obtain ⟨i1, i2, i3⟩ := spanF_law l r.x (r.x + r.w) (by omega) (fun q hq => ⟨hs1 q hq, (hl q (by simp [hq])).2.1⟩) (List.pairwise_cons.1 hs).2
    have i1' : ∀ c : Int, (∃ p ∈ spanL (r :: l), p.1 ≤ c ∧ c < p.2) ↔ ∃ q ∈ r :: l, q.x ≤ c ∧ c < q.x + q.w := fun c => by
      show (∃ p ∈ spanF r.x (r.x + r.w) l, _) ↔ _
      rw [i1]
      simp
    refine ⟨i1', i2, fun p hp => ?_⟩
    have h3 := i3 p hp
    refine ⟨by omega, h3.2, ?_⟩
    obtain ⟨q, hq, h4⟩ := (i1' (p.2 - 1)).1 ⟨p, hp, by omega, by omega⟩
    have := hl q hq
    unfold OkRc at this
    omega
theorem newL_law (y : Int) : ∀ (l : List Rc), l.Pairwise (fun a b => a.y ≤ b.y) → (∀ r ∈ l, y ≤ r.y) → (∀ r, r ∈ newL y l ↔ r ∈ l ∧ r.y = y) ∧ ∀ r ∈ l.drop (newL y l).length, y < r.y
  | [], _, _ => by simp [newL]
  | r :: l, hs, hl => by
    have hs1 := (List.pairwise_cons.1 hs).1
    by_cases hr : r.y = y
    · obtain ⟨i1, i2⟩ := newL_law y l (List.pairwise_cons.1 hs).2 fun q hq => hl q (by simp [hq])
      rw [newL_cons hr]
      refine ⟨fun q => ?_, by simpa using i2⟩
      rw [List.mem_cons, List.mem_cons, i1]
      constructor
      · rintro (rfl | h)
        · exact ⟨.inl rfl, hr⟩
        · exact ⟨.inr h.1, h.2⟩
      · rintro ⟨rfl | h, h2⟩
        · exact .inl rfl
        · exact .inr ⟨h, h2⟩
    · rw [newL_stop hr]
      have hlt : y < r.y := by have := hl r (by simp); omega
      refine ⟨fun q => ?_, fun q hq => ?_⟩
      · constructor
        · intro h; simp at h
        · rintro ⟨h, h2⟩
          rcases List.mem_cons.1 h with rfl | h
          · exact absurd h2 hr
          · have := hs1 q h; omega
      · rcases List.mem_cons.1 (by simpa using hq) with rfl | h
        · exact hlt
        · have := hs1 q h; omega
structure JO (all : List Rc) (y : Int) (s : OS) : Prop where
  tk : ∀ r ∈ all.take s.nx, r.y < y
  dr : ∀ r ∈ all.drop s.nx, y ≤ r.y
  row : ∀ r ∈ s.row, r ∈ all ∧ r.y < y
  cross : ∀ r ∈ all, r.y < y → y < r.y + r.h → r ∈ s.row
  srt : s.row.Pairwise (fun p q => p.x ≤ q.x)
  reg : Reg s.out
  low : ∀ r ∈ s.out, r.y + r.h ≤ y
  cov : ∀ i j, Cov s.out i j ↔ j < y ∧ Cov all i j
  ab : s.ab ≤ s.out.length
  up : ∀ a ∈ s.out.take s.ab, ∀ b ∈ s.out.drop s.ab, a.y + a.h ≤ b.y
theorem rowN_mem (all : List Rc) (hok : ∀ r ∈ all, OkRc r) (hsrt : all.Pairwise (fun a b => a.y ≤ b.y)) (y : Int) (s : OS) (h : JO all y s) (r : Rc) : r ∈ rowN all y s ↔ r ∈ all ∧ r.y ≤ y ∧ y < r.y + r.h := by
  have hn := (newL_law y (all.drop s.nx) (hsrt.sublist (List.drop_sublist _ _)) h.dr).1
  have hm : r ∈ rowN all y s ↔ r ∈ keepV y s.row ∨ r ∈ newL y (all.drop s.nx) := by
    unfold rowN ordL
    split
    · rw [List.mem_append]
    · rw [(sortBy_spec cmpX swoX _).1.mem_iff, List.mem_append]
  rw [hm, hn, keepV, List.mem_filter]
  have hg : ∀ r ∈ all, ((!goneV y r) = true ↔ y < r.y + r.h) := fun r hr => by
    have := hok r hr
    unfold OkRc at this
    unfold goneV
    rw [IntWalk.i64_in _ (by omega)]
    simp
  constructor
  · rintro (⟨h1, h2⟩ | ⟨h1, h2⟩)
    · obtain ⟨q1, q2⟩ := h.row r h1
      exact ⟨q1, by omega, (hg r q1).1 h2⟩
    · have hr := List.mem_of_mem_drop h1
      have := hok r hr
      unfold OkRc at this
      exact ⟨hr, by omega, by omega⟩
  · rintro ⟨h1, h2, h3⟩
    rcases Int.lt_or_eq_of_le h2 with hlt | heq
    · exact .inl ⟨h.cross r h1 hlt h3, (hg r h1).2 h3⟩
    · right
      refine ⟨?_, heq⟩
      rw [← List.take_append_drop s.nx all, List.mem_append] at h1
      rcases h1 with h1 | h1
      · have := h.tk r h1; omega
      · exact h1
theorem rowN_srt (all : List Rc) (y : Int) (s : OS) (h : JO all y s) : (rowN all y s).Pairwise (fun p q => p.x ≤ q.x) := by
  unfold rowN ordL
  split
  · rename_i h0
    rw [List.eq_nil_of_length_eq_zero h0, List.append_nil]
    exact h.srt.sublist List.filter_sublist
  · refine (sortBy_spec cmpX swoX _).2.imp fun {a b} hh => ?_
    have : ¬ b.x < a.x := fun hlt => hh ((cmpV_neg b.x a.x).2 hlt)
    omega
end Go.Proofs.Ytpgelghkjiejlaa
end
