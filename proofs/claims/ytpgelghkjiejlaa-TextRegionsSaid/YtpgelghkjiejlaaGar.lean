/- Meet and Within of package region. The letters of a text, handed to a loop's body, over any heap; the stretches of ink of a letter's row. The stretches of ink of a letter's row: runs of package text. The stretches of ink of a letter's row: runs of package text, as a whole. A text's ink: a letter's rows. A text's ink: a letter. A text's ink: its letters, one after the other. -/
import Derived.Test.YtpgelghkjiejlaaGaq
set_option linter.unusedVariables false
set_option linter.unusedSimpArgs false
section
set_option maxRecDepth 4000
namespace Go.Proofs.Ytpgelghkjiejlaa
open Go
attribute [local irreducible] opsF drawF drawP
theorem pickR_ro {H : Heap} {i : Nat} {o : Bool} {cs : List V} (h : aget H i = some (.row o cs)) : ∀ {fr : List Nat}, i ∈ fr → aget (pickR H roOf fr) i = some (.row false cs)
  | j :: fr, hi => by
    unfold pickR
    by_cases e : j = i
    · subst e; rw [h]; simp [roOf]
    · have hi' : i ∈ fr := by
        rcases List.mem_cons.1 hi with h' | h'
        · exact absurd h'.symm e
        · exact h'
      split
      · rw [aget_cons, if_neg e]; exact pickR_ro h hi'
      · exact pickR_ro h hi'
theorem SlR.restrL {H : Heap} {S : V} {l : List Rc} {fr : List Nat} (h : SlR H S l) (hf : ∀ b ∈ idOf S, b ∈ fr) : SlR (Go.Proofs.Ytpgelghkjiejlaa.restr H fr []) S l := by
  rcases h with ⟨rfl, rfl⟩ | ⟨id, off, full, o, pre, post, rfl, hg, rfl⟩
  · exact .inl ⟨rfl, rfl⟩
  · refine .inr ⟨id, pre.length, full, false, pre, post, rfl, ?_, rfl⟩
    unfold Go.Proofs.Ytpgelghkjiejlaa.restr
    simp only [pickR, List.nil_append]
    exact pickR_ro hg (hf id (by simp))
def newH (l : List Rc) (n : Nat) (H : Heap) (fr : List Nat) : Heap := rowB (!l.isEmpty) n (rcs l) (restr H fr [])
theorem newH_old (l : List Rc) (n : Nat) (H : Heap) (fr : List Nat) (b : Nat) (hb : b ≠ n) : aget (mergeH H [] n (n + 1) (newH l n H fr)) b = aget H b := by
  rw [aget_mergeH, if_neg]
  simp [touch]; omega
theorem newH_slR (l : List Rc) (n : Nat) (H : Heap) (fr : List Nat) : SlR (mergeH H [] n (n + 1) (newH l n H fr)) (slB (!l.isEmpty) n 4 l.length) l := by
  refine .ofB (fun h => by simpa using h) fun h => ⟨true, [], ?_⟩
  rw [aget_mergeH, if_pos (by simp [touch]), newH, h, rowB_t, aget_cons, if_pos rfl, List.append_nil]
theorem newH_in {l : List Rc} {n : Nat} {H : Heap} {fr : List Nat} (hin : HIn n H) (hfr : ∀ b ∈ fr, b < n) : HIn (n + 1) (mergeH H [] n (n + 1) (newH l n H fr)) := fun q k hq => by
  by_cases e : q = n
  · subst e
    rw [aget_mergeH, if_pos (by simp [touch]), newH, aget_rowB] at hq
    split at hq
    · cases hq; exact ⟨by omega, (NoId.rcs l).bin _⟩
    · unfold restr at hq
      simp only [pickR, List.nil_append] at hq
      have := hfr _ (pickR_mem (aget_mem hq))
      have : q < q := this
      omega
  · rw [newH_old _ _ _ _ _ e] at hq
    obtain ⟨q1, q2⟩ := hin _ _ hq
    exact ⟨by omega, q2.mono (by omega)⟩
theorem drawF_newG {o : AOper} {os : List AOper} {T : Temps} {D : List Nat} {n : Nat} {H : Heap} {acc : List DStep} {K : List DStep → St → Prop} {g : FuncId} {args : List AX} {vs : List V} (fr : List Nat) (l : List Rc) (hg : guardOf T o.guard = some true) (ho : o.op = .call (.f g) args) (hv : args.map (·.val T) = vs)
    (hc : ACalls Try.prog g vs n (restr H fr []) (NewG l n (restr H fr []))) (hfr : ∀ b ∈ fr, b < n)
    (h : drawF Try.prog os ⟨putT T o.dst (.ag [slB (!l.isEmpty) n 4 l.length]), D, n + 1, mergeH H [] n (n + 1) (newH l n H fr)⟩ (acc ++ [⟨(AOp.call (.f g) args).slots ++ gslots o.guard, o.dst, fr, [], n, n + 1, .ag [slB (!l.isEmpty) n 4 l.length], newH l n H fr⟩]) K) :
    drawF Try.prog (o :: os) ⟨T, D, n, H⟩ acc K := by
  have hmem : ∀ p ∈ newH l n H fr, touch [] n (n + 1) p.1 = true → p.2 = .row true (rcs l) := by
    intro p hp ht
    have hpc : p.1 = n := by simp [touch] at ht; omega
    have hres : ∀ p ∈ restr H fr [], p.1 < n := fun p hp => by
      unfold restr at hp
      simp only [pickR, List.nil_append] at hp
      exact hfr _ (pickR_mem hp)
    unfold newH at hp
    cases hl : (!l.isEmpty) with
    | false => rw [hl] at hp; have := hres p hp; omega
    | true =>
      rw [hl] at hp
      rcases List.mem_cons.1 hp with rfl | hp
      · rfl
      · have := hres p hp; omega
  refine drawF_call (fr := fr) (fw := []) (v := .ag [slB (!l.isEmpty) n 4 l.length]) (n1 := n + 1) (R := newH l n H fr) hg ho rfl ?_ ⟨Nat.le_succ _, ?_, by simp, ?_⟩ ⟨.ag (by intro x hx; rw [List.mem_singleton.1 hx]; exact slB_in (by omega)), ?_⟩ h
  · show ACalls Try.prog g ([] ++ args.map (·.val T) ++ []) n _ _
    rw [hv, List.append_nil, List.nil_append]
    exact hc
  · intro b hb
    rw [List.append_nil] at hb
    exact hfr b hb
  · intro p hp ht
    rw [hmem p hp ht]; rfl
  · intro p hp ht
    rw [hmem p hp ht]
    exact (NoId.rcs l).bin _
/-- The end of a function that answers a new region. -/
theorem NewG.cell {l : List Rc} {n : Nat} {H : Heap} {v : V} {n' : Nat} {H' : Heap} (h : NewG l n H v n' H') : v = .ag [slB (!l.isEmpty) n 4 l.length] ∧ n' = n + 1 ∧ H' = rowB (!l.isEmpty) n (rcs l) H := h
theorem meet_ok (Sa Sb : V) (a b : List Rc) (ha : a.length ≤ 1000000) (hb : b.length ≤ 1000000) (hout : (joinC (fun p q => p && q) a b).length ≤ 1000000) (hir : ∀ r ∈ joinC (fun p q => p && q) a b, InRc r) (n : Nat) (H : Heap) (hSa : SlR H Sa a) (hSb : SlR H Sb b) :
    ACalls Try.prog 47 [.ag [Sa], .ag [Sb]] n H (NewG (joinL (fun p q => p && q) a b) n H) := by
  refine ACalls.newG (K := fun v n' H' => (∀ q k, aget H q = some k → aget H' q = some k) ∧ ((joinL (fun p q => p && q) a b = [] ∧ v = .ag [.nils]) ∨ (joinL (fun p q => p && q) a b ≠ [] ∧ ∃ id full post, v = .ag [.sl id 0 4 (joinL (fun p q => p && q) a b).length full] ∧ (∀ q k, aget H q = some k → q ≠ id) ∧ aget H' id = some (.row true (rcs (joinL (fun p q => p && q) a b) ++ post))))) (joinL (fun p q => p && q) a b) ?_ (fun v n' H' h => h)
  refine .withIn (ACalls.enters F47_ok trivial) fun hin hargs => ?_
  have hin : HIn n H := hin
  have gk : ∀ q k, aget H q = some k → aget ((n + 2, Blk.row true [.nils]) :: (n + 1, Blk.row true [Sb]) :: (n, Blk.row true [Sa]) :: H) q = some k := fun q k hq => by
    have := (hin _ _ hq).1
    rw [aget_cons, if_neg (by omega), aget_cons, if_neg (by omega), aget_cons, if_neg (by omega)]; exact hq
  have hj := join_ok 60 (fun p q => p && q) and_pure Sa Sb a b ha hb hout hir (n + 3) ((n + 2, Blk.row true [.nils]) :: (n + 1, Blk.row true [Sb]) :: (n, Blk.row true [Sa]) :: H) (hSa.mono gk) (hSb.mono gk)
  generalize joinL (fun p q => p && q) a b = jl at hj ⊢
  refine .enter0 F47_ok (by simp [F47]) ?_
  refine .seq (.ops (opsF_all (by simp; rfl) ?_))
  refine AWc.seq (.ops (opsF_run 3 (by simp [setAll]; rfl) ?_))
  refine opsF_cons_callX rfl rfl rfl (show ACalls Try.prog 61 _ _ _ (fun v' n' H' => v' = .ag [slB (!jl.isEmpty) (n + 3) 4 jl.length] ∧ n' = n + 3 + 1 ∧ H' = rowB (!jl.isEmpty) (n + 3) (rcs jl) ((n + 2, Blk.row true [.nils]) :: (n + 1, Blk.row true [Sb]) :: (n, Blk.row true [Sa]) :: H)) from hj) ?_
  have hrc : aget (rowB (!jl.isEmpty) (n + 3) (rcs jl) ((n + 2, Blk.row true [.nils]) :: (n + 1, Blk.row true [Sb]) :: (n, Blk.row true [Sa]) :: H)) (n + 2) = some (.row true [.nils]) := by
    rw [aget_rowB_ne (by omega)]; simp
  refine opsF_cons_op (v := .un) (n' := n + 4) (H' := aput (rowB (!jl.isEmpty) (n + 3) (rcs jl) ((n + 2, Blk.row true [.nils]) :: (n + 1, Blk.row true [Sb]) :: (n, Blk.row true [Sa]) :: H)) (n + 2) (.row true [slB (!jl.isEmpty) (n + 3) 4 jl.length])) rfl rfl (evSt_ag hrc rfl (slB_one _ _ _ _)) ?_
  refine opsF_nil (.ret ⟨.inr rfl, rfl, [.ag [slB (!jl.isEmpty) (n + 3) 4 jl.length]], ?_, ?_, ?_⟩)
  · simp [F47, aget_put]
  · intro q k hq
    have hqn := (hin _ _ hq).1
    show aget (aput _ (n + 2) _) q = _
    rw [aget_put, if_neg (by omega), aget_rowB_ne (by omega)]
    exact gk q k hq
  · cases jl with
    | nil => exact .inl ⟨rfl, rfl⟩
    | cons r l =>
      refine .inr ⟨by simp, n + 3, false, [], rfl, fun q k hq => ?_, ?_⟩
      · have := (hin _ _ hq).1; omega
      · show aget (aput _ (n + 2) _) (n + 3) = _
        rw [aget_put, if_neg (by omega)]
        simp [rowB]
def withinL (l : List Rc) (r : Rc) : List Rc := joinL (fun p q => p && q) l (ofL [r])
theorem within_ok (S : V) (l : List Rc) (r : Rc) (hl : l.length ≤ 1000000) (hr : InRc r) (hrl : (ofL [r]).length ≤ 1000000) (hout : (joinC (fun p q => p && q) l (ofL [r])).length ≤ 1000000) (hir : ∀ q ∈ joinC (fun p q => p && q) l (ofL [r]), InRc q) (n : Nat) (H : Heap) (hS : SlR H S l) :
    ACalls Try.prog 45 [.ag [S], rV r] n H (NewG (withinL l r) n H) := by
  refine ACalls.newG (K := fun v n' H' => (∀ q k, aget H q = some k → aget H' q = some k) ∧ ((withinL l r = [] ∧ v = .ag [.nils]) ∨ (withinL l r ≠ [] ∧ ∃ id full post, v = .ag [.sl id 0 4 (withinL l r).length full] ∧ (∀ q k, aget H q = some k → q ≠ id) ∧ aget H' id = some (.row true (rcs (withinL l r) ++ post))))) (withinL l r) ?_ (fun v n' H' h => h)
  refine .withIn (ACalls.enters F45_ok trivial) fun hin hargs => ?_
  have hin : HIn n H := hin
  refine .enter0 F45_ok (by simp [F45]) ?_
  refine .seq (.ops (opsF_all (by simp [rV, rc4]; rfl) ?_))
  refine AWc.forget (T0 := [(2, .p n 0), (3, .p (n + 1) 0), (4, .p (n + 2) 0)]) (by simp) ?_
  have hr4 : [V.i .i64 r.x, .i .i64 r.y, .i .i64 r.w, .i .i64 r.h] = rc4 r := rfl
  rw [hr4]
  refine AWc.withIn fun hin1 => ?_
  have hin1 : HIn (n + 3) ((n + 2, Blk.row true [.nils]) :: (n + 1, Blk.row true (rc4 r)) :: (n, Blk.row true [S]) :: H) := hin1
  obtain ⟨H1, hH1⟩ : ∃ H1 : Heap, H1 = (n + 2, Blk.row true [.nils]) :: (n + 1, Blk.row true (rc4 r)) :: (n, Blk.row true [S]) :: H := ⟨_, rfl⟩
  have g0 : aget H1 n = some (.row true [S]) := by rw [hH1]; simp
  have g1 : aget H1 (n + 1) = some (.row true (rc4 r)) := by rw [hH1]; simp
  have g2 : aget H1 (n + 2) = some (.row true [.nils]) := by rw [hH1]; simp
  have gk : ∀ q k, aget H q = some k → aget H1 q = some k := fun q k hq => by
    have := (hin _ _ hq).1
    rw [hH1, aget_cons, if_neg (by omega), aget_cons, if_neg (by omega), aget_cons, if_neg (by omega)]; exact hq
  have hS1 := hS.mono gk
  have hSid : ∀ b ∈ idOf S, b < n := (hS.toF.elim fun f hf => (hf.restr hin).2)
  rw [← hH1] at hin1 ⊢
  clear hH1
  obtain ⟨H2, hH2⟩ : ∃ H2, H2 = mergeH H1 [] (n + 3) (n + 4) [(n + 3, Blk.row true (rc4 r))] := ⟨_, rfl⟩
  have m2 : ∀ q, q ≠ n + 3 → aget H2 q = aget H1 q := fun q hq => by
    rw [hH2, aget_mergeH, if_neg]; simp [touch]; omega
  have m2n : aget H2 (n + 3) = some (.row true (rc4 r)) := by rw [hH2, aget_mergeH, if_pos (by simp [touch])]; simp
  have m2' : ∀ q k, aget H1 q = some k → aget H2 q = some k := fun q k hq => by have := (hin1 _ _ hq).1; rw [m2 q (by omega)]; exact hq
  have hS2 : SlR H2 (.sl (n + 3) 0 4 1 true) [r] := .inr ⟨n + 3, 0, true, true, [], [], rfl, by rw [m2n]; simp [rcs], rfl⟩
  have hin2 : HIn (n + 4) H2 := fun q k hq => by
    by_cases e : q = n + 3
    · subst e; rw [m2n] at hq; cases hq; exact ⟨by omega, by intro x hx; simp [rc4] at hx; rcases hx with rfl | rfl | rfl | rfl <;> exact .i _ _⟩
    · rw [m2 q e] at hq; obtain ⟨q1, q2⟩ := hin1 _ _ hq; exact ⟨by omega, q2.mono (by omega)⟩
  have hof := of_ok (.sl (n + 3) 0 4 1 true) [r] (by simp) (by simpa using hr) (n + 4) (restr H2 [n + 3] []) (hS2.restrL (fr := [n + 3]) (by simp))
  obtain ⟨H3, hH3⟩ : ∃ H3, H3 = mergeH H2 [] (n + 4) (n + 4 + 1) (newH (ofL [r]) (n + 4) H2 [n + 3]) := ⟨_, rfl⟩
  have m3 : ∀ q, q ≠ n + 4 → aget H3 q = aget H2 q := fun q hq => by rw [hH3]; exact newH_old _ _ _ _ _ hq
  have hS3 : SlR H3 (slB (!(ofL [r]).isEmpty) (n + 4) 4 (ofL [r]).length) (ofL [r]) := by rw [hH3]; exact newH_slR _ _ _ _
  have hin3 : HIn (n + 5) H3 := by rw [hH3]; exact newH_in hin2 (by simp)
  have m3' : ∀ q k, aget H1 q = some k → aget H3 q = some k := fun q k hq => by have := (hin1 _ _ hq).1; rw [m3 q (by omega)]; exact m2' _ _ hq
  have hme := meet_ok S (slB (!(ofL [r]).isEmpty) (n + 4) 4 (ofL [r]).length) l (ofL [r]) hl hrl hout hir (n + 5) (restr H3 (idOf S ++ idOf (slB (!(ofL [r]).isEmpty) (n + 4) 4 (ofL [r]).length)) []) ((hS1.mono m3').restrL (fun b hb => List.mem_append_left _ hb)) (hS3.restrL (fun b hb => List.mem_append_right _ hb))
  have hfr : ∀ b ∈ idOf S ++ idOf (slB (!(ofL [r]).isEmpty) (n + 4) 4 (ofL [r]).length), b < n + 5 := by
    intro b hb
    rcases List.mem_append.1 hb with hb | hb
    · have := hSid b hb; omega
    · cases hh : (!(ofL [r]).isEmpty) <;> rw [hh] at hb <;> simp [slB] at hb
      omega
  have hfr2 : ∀ b ∈ idOf S ++ idOf (slB (!(ofL [r]).isEmpty) (n + 4) 4 (ofL [r]).length), b ≠ n + 2 ∧ b ≠ n + 1 := by
    intro b hb
    rcases List.mem_append.1 hb with hb | hb
    · have := hSid b hb; omega
    · cases hh : (!(ofL [r]).isEmpty) <;> rw [hh] at hb <;> simp [slB] at hb
      omega
  generalize idOf S ++ idOf (slB (!(ofL [r]).isEmpty) (n + 4) 4 (ofL [r]).length) = fr at hme hfr hfr2
  have hwl : joinL (fun p q => p && q) l (ofL [r]) = withinL l r := rfl
  rw [hwl] at hme
  generalize withinL l r = wl at hme ⊢
  have hl4 : (0 : Nat) + 4 ≤ (rc4 r).length := by simp [rc4]
  have hl4' : (rc4 r).length = 4 := rfl
  have hd4 : (rc4 r).take 4 = rc4 r := rfl
  have hone : (rc4 r).all V.one = true := rfl
  have n1lt : n + 1 < n + 3 := by omega
  refine .seq (.drawS (by rfl) ?_)
  refine drawF_run 1 (by rfl) (by simp [g0]; exact ⟨rfl, rfl⟩) ?_
  refine drawF_run 1 (by rfl) (by simp [g1, hl4', hd4]; exact ⟨rfl, rfl⟩) ?_
  refine drawF_run 1 (by rfl) (by simp [hl4', setAll, Blk.own]; exact ⟨rfl, rfl⟩) ?_
  refine drawF_newG [n + 3] (ofL [r]) rfl rfl rfl (by rw [hH2] at hof; exact hof) (by simp) ?_
  rw [← hH2, ← hH3]
  refine drawF_newG fr wl rfl rfl rfl hme hfr ?_
  have m4 : ∀ q, q ≠ n + 5 → aget (mergeH H3 [] (n + 5) (n + 5 + 1) (newH wl (n + 5) H3 fr)) q = aget H3 q := fun q hq => newH_old _ _ _ _ _ hq
  have hS4 := newH_slR wl (n + 5) H3 fr
  have hm4n : wl ≠ [] → aget (mergeH H3 [] (n + 5) (n + 5 + 1) (newH wl (n + 5) H3 fr)) (n + 5) = some (.row true (rcs wl)) := fun h => by
    have : (!wl.isEmpty) = true := by cases wl <;> simp_all
    rw [aget_mergeH, if_pos (by simp [touch]), newH, this, rowB_t, aget_cons, if_pos rfl]
  generalize mergeH H3 [] (n + 5) (n + 5 + 1) (newH wl (n + 5) H3 fr) = H4 at m4 hS4 hm4n
  have g42 : aget H4 (n + 2) = some (.row true [.nils]) := by rw [m4 _ (by omega)]; exact m3' _ _ g2
  have hkn := slB_known (!wl.isEmpty) (n + 5) 4 wl.length
  have hon := slB_one (!wl.isEmpty) (n + 5) 4 wl.length
  have hf0 : (!wl.isEmpty) = false → wl = [] := fun h => by simpa using h
  generalize hSB : slB (!wl.isEmpty) (n + 5) 4 wl.length = SB at hkn hon hS4
  refine drawF_all (by rfl) (by simp [g42, hon, setAll, Blk.own]; exact ⟨rfl, rfl⟩) ⟨?_, ?_⟩
  · simp [-idOf, heapOk, heapRow, heavy, heapI]
    repeat' apply And.intro
    all_goals first | decide | exact .inl (by decide)
  · have hmg : ∀ q, aget (mergeH H4 [n + 2] (n + 6) (n + 6) [(n + 2, Blk.row true [SB])]) q = if n + 2 = q then some (.row true [SB]) else aget H4 q := fun q => by
      rw [aget_mergeH]
      by_cases e : n + 2 = q
      · subst e; simp [touch]
      · have e' : ¬ q = n + 2 := fun h => e h.symm
        simp [touch, e, e']; omega
    generalize mergeH H4 [n + 2] (n + 6) (n + 6) [(n + 2, Blk.row true [SB])] = H5 at hmg ⊢
    have g52 : aget H5 (n + 2) = some (.row true [SB]) := by rw [hmg, if_pos rfl]
    refine AWc.forget (T0 := [(4, .p (n + 2) 0)]) (by simp) (.ret ⟨.inr rfl, rfl, [.ag [SB]], ?_, ?_, ?_⟩)
    · simp [F45, g52]
    · intro q k hq
      have hqn := (hin _ _ hq).1
      show aget H5 q = _
      rw [hmg, if_neg (by omega), m4 _ (by omega)]
      exact m3' _ _ (gk _ _ hq)
    · cases wl with
      | nil => exact .inl ⟨rfl, by rw [← hSB]; rfl⟩
      | cons r l =>
        refine .inr ⟨by simp, n + 5, false, [], by rw [← hSB]; rfl, fun q k hq => ?_, ?_⟩
        · have := (hin _ _ hq).1; omega
        · show aget H5 (n + 5) = _
          rw [hmg, if_neg (by omega), hm4n (by simp), List.append_nil]
end Go.Proofs.Ytpgelghkjiejlaa
end
section
set_option maxRecDepth 4000
namespace Go.Proofs.Ytpgelghkjiejlaa
open Go
attribute [local irreducible] opsF drawF drawP fontC
theorem laidG_ok (w : Bool) (s : List UInt8) (hs : s.length ≤ 4096) (L q q4 : Nat) (Inv : Nat → Nat → Heap → Prop)
    (hI : ∀ j n H, Inv j n H → (∃ o, aget H q = some (.row o [.s s])) ∧ ∃ o, aget H q4 = some (.row o (fontC w)))
    (hy : ∀ (i : Nat) (hi : i < s.length) n H, Inv i n H → YCalls Try.prog L [.i .i64 (pw w (s.take i)), .ag [.i .i64 (fW w (plc s[i])), .sl n 0 1 (fH w) true]] (n + 2)
      ((n + 1, .row true [.i .i64 (fW w (plc s[i])), .sl n 0 1 (fH w) true]) :: (n, .row true (rowsC w (plc s[i]))) :: H)
      fun v n' H' => v = .b true ∧ n ≤ n' ∧ Inv (i + 1) n' H' ∧ aget H' (n + 1) = some (.row true [.i .i64 (fW w (plc s[i])), .sl n 0 1 (fH w) true]))
    (n0 : Nat) (H0 : Heap) (h0 : Inv 0 n0 H0) : ACalls Try.prog 42 [.yl L, .p q 0, .p q4 0] n0 H0 fun _ n' H' => Inv s.length n' H' := by
  have hmin : min 4096 s.length = s.length := by omega
  obtain ⟨⟨o1, hq⟩, _⟩ := hI _ _ _ h0
  refine .enter0 F42_ok (by simp [F42]) ?_
  refine .seq (.ops (opsF_all (by simp; rfl) ?_))
  refine .seq (.ops (opsF_run 1 (by simp [hq]; rfl) ?_))
  refine opsF_cons_call rfl rfl rfl (v := .s (s.take 4096)) (by simpa using counted_pure s _ _) ?_
  refine opsF_all (by simp; rfl) ?_
  refine .block (.loop (k₀ := s.length) (s₀ := ⟨[(0, .yl L), (1, .p q 0), (2, .p q4 0), (4, .i .i64 0), (9, .i .i64 s.length), (10, .i .i64 0)], [], n0, H0⟩)
    (fun k st => ∃ (i n : Nat) (H : Heap), i ≤ s.length ∧ k = s.length - i ∧ n0 ≤ n ∧ Inv i n H ∧ st = ⟨[(0, .yl L), (1, .p q 0), (2, .p q4 0), (4, .i .i64 (pw w (s.take i))), (9, .i .i64 s.length), (10, .i .i64 i)], [], n, H⟩)
    ⟨0, n0, H0, by omega, rfl, Nat.le_refl _, h0, by simp [pw]⟩ (St.less_F (by simp) (by simp; omega)) (Nat.le_refl _) (fun k st ⟨i, n, H, h1, h2, h3, h4, h5⟩ => by rw [h5]; exact h3) ?_)
  rintro k st ⟨i, n, H, h1, rfl, h3, h4, rfl⟩
  refine .withIn fun hin => ?_
  have hin : HIn n H := hin
  obtain ⟨⟨o1, hq⟩, o2, hq4⟩ := hI _ _ _ h4
  have hqn := (hin _ _ hq).1
  have hq4n := (hin _ _ hq4).1
  by_cases hi1 : i < s.length
  · have hpb := pw_le w (s.take (i + 1))
    have hps := pw_succ w s i hi1
    have hwr : IntKind.i64.wrap ((pw w (s.take i) : Int) + (fW w (plc s[i]) : Int)) = (pw w (s.take (i + 1)) : Int) := by
      rw [hps, IntWalk.i64_in _ (by simp at hpb; omega)]
      simp
    have hwi : IntKind.i64.wrap ((i : Int) + 1) = ((i + 1 : Nat) : Int) := IntWalk.i64_in _ (by omega)
    have hi' : (i : Int) < s.length := by omega
    refine .seq (.ops (opsF_all (by simp only [runS]; simp [hi']; rfl) ?_))
    refine .seq (.cond (t := true) (by simp) (.skip ?_))
    refine .seq (.block (.seq (.ops (opsF_all (by simp; rfl) ?_))))
    have hg : s[i]? = some s[i] := List.getElem?_eq_getElem hi1
    refine .seq (.drawS (by rfl) (drawF_run 4 (by rfl) (by simp [hq, hqn, hq4, hq4n, hg]; exact ⟨rfl, rfl⟩) ?_))
    refine drawF_callN (v := .ag [.i .i64 (fW w (plc s[i])), .sl n 0 1 (fH w) true]) (n1 := n + 1) (R := [(n, .row true (rowsC w (plc s[i])))]) rfl rfl rfl (glyph_ok w s[i] n []) (by simp) (by simp [Blk.own]) ?_ ?_
    · simp [inDB, vinB, binB, rowsC]
    refine drawF_all (by rfl) (by simp [setAll, Blk.own]; exact ⟨rfl, rfl⟩) ⟨?_, ?_⟩
    · have e1 : ¬ n ≤ q := by omega
      have e2 : ¬ n ≤ q4 := by omega
      simp [-idOf, heapOk, heapRow, heavy, heapI, e1, e2]
      repeat' apply And.intro
      all_goals first | decide | exact .inl (by decide) | (right; omega) | omega
    refine AWc.forget (T0 := [(0, .yl L), (1, .p q 0), (2, .p q4 0), (4, .i .i64 (pw w (s.take i))), (6, .p (n + 1) 0), (9, .i .i64 s.length), (10, .i .i64 i)]) (by simp) ?_
    refine AWc.alikeH (H := (n + 1, .row true [.i .i64 (fW w (plc s[i])), .sl n 0 1 (fH w) true]) :: (n, .row true (rowsC w (plc s[i]))) :: H) (fun b => ?_) ?_
    · simp only [aget_mergeH, aget_cons, touch, aget_nil, List.contains_cons, List.contains_nil]
      by_cases e9 : n + 1 = b
      · subst e9; simp
      · by_cases e8 : n = b
        · subst e8; simp
        · have q1 : ¬ (b = n) := fun h => e8 h.symm
          have q2 : ¬ (b = n + 1) := fun h => e9 h.symm
          simp [e8, e9, q1, q2]
          repeat' split
          all_goals first | rfl | (exfalso; omega)
    refine .seq (.seq (.ops (opsF_run 3 (by simp; rfl) ?_)))
    refine opsF_call rfl rfl (callV_yl (YCalls.mono (hy i hi1 n H h4) ?_))
    rintro v n' H' ⟨rfl, hn', hI1, h9⟩
    refine opsF_all (by simp; rfl) ?_
    refine .cond (t := false) (by simp) (.skip ?_)
    refine .ops (opsF_all (by simp [h9, hwr]; rfl) ?_)
    refine .ops (opsF_all (by simp [hwi]; rfl) ?_)
    exact ⟨s.length - (i + 1), ⟨[(0, .yl L), (1, .p q 0), (2, .p q4 0), (4, .i .i64 (pw w (s.take (i + 1)))), (9, .i .i64 s.length), (10, .i .i64 ((i + 1 : Nat)))], [], n', H'⟩, by omega, ⟨i + 1, n', H', by omega, rfl, by omega, hI1, rfl⟩, St.less_F (by simp) (by simp)⟩
  · obtain rfl : i = s.length := by omega
    refine .seq (.ops (opsF_all (by simp only [runS]; simp; rfl) ?_))
    refine .seq (.cond (t := false) (by simp) (.exit ?_))
    exact ⟨.inl rfl, rfl, [], rfl, h4⟩
end Go.Proofs.Ytpgelghkjiejlaa
end
section
set_option maxRecDepth 4000
namespace Go.Proofs.Ytpgelghkjiejlaa
open Go
attribute [local irreducible] opsF drawF drawP fontC
theorem rcs_setW (A B : List Rc) (r : Rc) (post : List V) (v : Int) : setAll (rcs (A ++ r :: B) ++ post) (A.length * 4 + 2) [.i .i64 v] = rcs (A ++ { r with w := v } :: B) ++ post := by
  have h1 : (rcs A).length = A.length * 4 := by rw [rcs_len]; omega
  rw [rcs_append, rcs_append, rcs, rcs, setAll]
  simp only [List.append_assoc, List.length_cons, List.length_nil]
  rw [List.take_append, List.drop_append, ← h1, List.take_of_length_le (by omega), List.drop_of_length_le (by omega)]
  simp [rc4, show (rcs A).length + 2 - (rcs A).length = 2 by omega, show (rcs A).length + 2 + (0 + 1) - (rcs A).length = 3 by omega]
theorem rcs_getW (A B : List Rc) (r : Rc) (post : List V) : (rcs (A ++ r :: B) ++ post)[A.length * 4 + 2]? = some (.i .i64 r.w) := by
  have h1 : (rcs A).length = A.length * 4 := by rw [rcs_len]; omega
  rw [rcs_append, rcs, List.append_assoc, List.getElem?_append_right (by omega), h1]
  simp [rc4, show A.length * 4 + 2 - A.length * 4 = 2 by omega]
  rfl
theorem rcs_getX (A B : List Rc) (r : Rc) (post : List V) : (rcs (A ++ r :: B) ++ post)[A.length * 4]? = some (.i .i64 r.x) := by
  have h1 : (rcs A).length = A.length * 4 := by rw [rcs_len]; omega
  rw [rcs_append, rcs, List.append_assoc, List.getElem?_append_right (by omega), h1]
  simp [rc4]
  rfl
/-- A row's bit, as the machine reckons it. -/
def shV (row : Int) (c : Nat) : Int := IntKind.i64.wrap ((BitVec.ofInt 64 (row.fdiv (2 ^ (min c 64))) &&& BitVec.ofInt 64 1).toNat : Int)
def runOff (row left : Int) (c : Nat) : Bool := shV row c == 0 || decide (w64 (left + c) < -1048576) || decide (1048576 ≤ w64 (left + c))
def runAdd (x y : Int) (out : List Rc) : List Rc :=
  match out.getLast? with
  | some r => if w64 (r.x + r.w) = x then out.dropLast ++ [{ r with w := w64 (r.w + 1) }] else out ++ [⟨x, y, 1, 1⟩]
  | none => [⟨x, y, 1, 1⟩]
def runStep (row left y : Int) (c : Nat) (out : List Rc) : List Rc := if runOff row left c then out else runAdd (w64 (left + c)) y out
def runsN (row left y : Int) : Nat → List Rc
  | 0 => []
  | c + 1 => runStep row left y c (runsN row left y c)
theorem runAdd_len (x y : Int) (out : List Rc) : (runAdd x y out).length ≤ out.length + 1 := by
  unfold runAdd
  split
  · split <;> simp
  · simp
theorem runsN_len (row left y : Int) : ∀ c, (runsN row left y c).length ≤ c
  | 0 => Nat.le_refl _
  | c + 1 => by
    have := runsN_len row left y c
    unfold runsN runStep
    split
    · omega
    · have := runAdd_len (w64 (left + c)) y (runsN row left y c); omega
/-- A slice of rectangles that grows, and what stood before. -/
structure GR (n0 : Nat) (H0 H : Heap) (f : Bool) (m : Nat) (out : List Rc) : Prop where
  keep : ∀ b k, aget H0 b = some k → aget H b = some k ∧ b < n0
  off : f = false → out = []
  on : f = true → out ≠ [] ∧ n0 ≤ m ∧ aget H m = some (.row true (rcs out))
def ruT (row w left y : Int) (So : V) (c : Nat) : Temps := [(0, .i .i64 row), (1, .i .i64 w), (2, .i .i64 left), (3, .i .i64 y), (9, So), (10, .i .i64 c)]
def ruD : ACode := (.ops (some [0, 1, 3, 7, 7, 23, 63, 127, 255, 7, 7, 1031, 3591, 7687, 15879, 32767, 7, 131071, 262143]) [⟨(some 36), (.mv (.t 12)), none⟩,
          ⟨(some 37), (.bin .gtr (.t 36) (.c (.i .i64 0))), none⟩,
          ⟨(some 38), (.mv (.t 37)), none⟩,
          ⟨(some 39), (.mv (.t 9)), (some ((some 38), true))⟩,
          ⟨(some 40), (.mv (.t 12)), (some ((some 38), true))⟩,
          ⟨(some 41), (.bin .sub (.t 40) (.c (.i .i64 1))), (some ((some 38), true))⟩,
          ⟨(some 42), (.ias 4 (.t 39) (.t 41)), (some ((some 38), true))⟩,
          ⟨(some 43), (.fa 0 (.t 42)), (some ((some 38), true))⟩,
          ⟨(some 44), (.ld false 1 (.t 43)), (some ((some 38), true))⟩,
          ⟨(some 45), (.mv (.t 9)), (some ((some 38), true))⟩,
          ⟨(some 46), (.mv (.t 12)), (some ((some 38), true))⟩,
          ⟨(some 47), (.bin .sub (.t 46) (.c (.i .i64 1))), (some ((some 38), true))⟩,
          ⟨(some 48), (.ias 4 (.t 45) (.t 47)), (some ((some 38), true))⟩,
          ⟨(some 49), (.fa 2 (.t 48)), (some ((some 38), true))⟩,
          ⟨(some 50), (.ld false 1 (.t 49)), (some ((some 38), true))⟩,
          ⟨(some 51), (.bin .add (.t 44) (.t 50)), (some ((some 38), true))⟩,
          ⟨(some 52), (.mv (.t 11)), (some ((some 38), true))⟩,
          ⟨(some 53), (.bin .eql (.t 51) (.t 52)), (some ((some 38), true))⟩,
          ⟨(some 54), (.pick (.t 38) (.t 53) (.c (.b false))), none⟩])
def ruAdd : ACode := (.seq (.seq (.ops none [⟨(some 34), (.mv (.t 9)), none⟩,
          ⟨(some 35), (.blen false (.t 34)), none⟩,
          ⟨(some 12), (.mv (.t 35)), none⟩])
        (.seq ruD
         (.cond (.t 54)
          (.seq (.ops none [⟨(some 55), (.mv (.t 9)), none⟩,
            ⟨(some 56), (.mv (.t 12)), none⟩,
            ⟨(some 57), (.bin .sub (.t 56) (.c (.i .i64 1))), none⟩,
            ⟨(some 58), (.ias 4 (.t 55) (.t 57)), none⟩,
            ⟨(some 59), (.fa 2 (.t 58)), none⟩,
            ⟨(some 60), (.ld false 1 (.t 59)), none⟩,
            ⟨(some 61), (.bin .add (.t 60) (.c (.i .i64 1))), none⟩,
            ⟨(some 62), (.ias 4 (.t 55) (.t 57)), none⟩,
            ⟨(some 63), (.fa 2 (.t 62)), none⟩,
            ⟨none, (.st 1 (.t 63) (.t 61)), none⟩])
          (.exit 1))
          (.skip))))
        (.ops none [⟨(some 64), (.mv (.t 9)), none⟩,
         ⟨(some 65), (.mv (.t 11)), none⟩,
         ⟨(some 66), (.mv (.t 3)), none⟩,
         ⟨(some 67), (.build [(.i .i64 0), (.i .i64 0), (.i .i64 0), (.i .i64 0)] [(0, 1, (.t 65)), (1, 1, (.t 66)), (2, 1, (.c (.i .i64 1))), (3, 1, (.c (.i .i64 1)))]), none⟩,
         ⟨(some 68), (.lit 4 1 [(.i .i64 0), (.i .i64 0), (.i .i64 0), (.i .i64 0)] [(0, (.t 67))]), none⟩,
         ⟨(some 69), (.app 4 32 [(.i .i64 0), (.i .i64 0), (.i .i64 0), (.i .i64 0)] (.t 64) (.t 68)), none⟩,
         ⟨(some 9), (.mv (.t 69)), none⟩]))
theorem ruAdd_ok {Q : Exit → St → Prop} (row w left y x : Int) (c : Nat) (n0 : Nat) (H0 : Heap) (f : Bool) (m : Nat) (out : List Rc) (hol : out.length ≤ 1000000) (n : Nat) (H : Heap) (hn : n0 ≤ n) (h : GR n0 H0 H f m out)
    (hQ : ∀ e T' n' H' f' m', (e = .normal ∨ e = .exit 1) → n0 ≤ n' → GR n0 H0 H' f' m' (runAdd x y out) → ((ruT row w left y (slB f' m' 4 (runAdd x y out).length) c).map fun p => aget T' p.1) = ((ruT row w left y (slB f' m' 4 (runAdd x y out).length) c).map fun p => some p.2) → Q e ⟨T', [], n', H'⟩) :
    AWc Try.prog 71 none ruAdd ⟨(11, .i .i64 x) :: ruT row w left y (slB f m 4 out.length) c, [], n, H⟩ Q := by
  refine .withIn fun hin => ?_
  have hin : HIn n H := hin
  have happ : ∀ (hr : runAdd x y out = out ++ [⟨x, y, 1, 1⟩]), AWc Try.prog 71 none (.ops none [⟨(some 64), (.mv (.t 9)), none⟩,
         ⟨(some 65), (.mv (.t 11)), none⟩,
         ⟨(some 66), (.mv (.t 3)), none⟩,
         ⟨(some 67), (.build [(.i .i64 0), (.i .i64 0), (.i .i64 0), (.i .i64 0)] [(0, 1, (.t 65)), (1, 1, (.t 66)), (2, 1, (.c (.i .i64 1))), (3, 1, (.c (.i .i64 1)))]), none⟩,
         ⟨(some 68), (.lit 4 1 [(.i .i64 0), (.i .i64 0), (.i .i64 0), (.i .i64 0)] [(0, (.t 67))]), none⟩,
         ⟨(some 69), (.app 4 32 [(.i .i64 0), (.i .i64 0), (.i .i64 0), (.i .i64 0)] (.t 64) (.t 68)), none⟩,
         ⟨(some 9), (.mv (.t 69)), none⟩]) ⟨(11, .i .i64 x) :: ruT row w left y (slB f m 4 out.length) c, [], n, H⟩ Q := by
    intro hr
    have hm : f = true → m < n := fun hf => (hin _ _ (h.on hf).2.2).1
    refine .ops (opsF_run 3 (by simp [ruT]; rfl) ?_)
    refine opsF_run 2 (by simp [setAll]; rfl) ?_
    refine opsF_cons_app (f := f) (m := m) (len := out.length) (cs := rcs out) (k := 1) (new := rc4 ⟨x, y, 1, 1⟩) rfl rfl rfl (fun hf => by rw [h.off hf]; exact ⟨rfl, rfl⟩) (fun hf => ⟨[], by have := hm hf; rw [aget_cons, if_neg (by omega), (h.on hf).2.2]; simp⟩) (by rw [rcs_len]; omega) rfl (by simp [rc4]) (by simp [rc4]) rfl (by omega) (by omega) ?_
    refine opsF_all (by simp; rfl) ?_
    refine hQ .normal _ (n + 2) _ true (n + 1) (.inl rfl) (by omega) ⟨fun b k hk => ?_, by simp, fun _ => ⟨by rw [hr]; simp, by omega, ?_⟩⟩ (by rw [hr]; simp [ruT, slB])
    · obtain ⟨k1, k2⟩ := h.keep b k hk
      refine ⟨?_, k2⟩
      have hbn := (hin _ _ k1).1
      rw [aget_cons, if_neg (by omega)]
      cases hf : f with
      | false => rw [if_neg (by simp), aget_cons, if_neg (by omega)]; exact k1
      | true =>
        have := (h.on hf).2.1
        rw [if_pos rfl, aget_del, if_neg (by omega), aget_cons, if_neg (by omega)]; exact k1
    · rw [aget_cons, if_pos rfl, hr, rcs_append]; simp [rcs]
  unfold ruAdd
  cases f with
  | false =>
    have he := h.off rfl
    subst he
    refine .seq (.seq (.ops (opsF_all (by simp [ruT, slB]; rfl) ?_)))
    unfold ruD
    refine .seq (.drawP (by rfl) ?_)
    refine drawP_run 3 (by rfl) (by simp; rfl) ?_
    refine drawP_run 5 (by rfl) (by simp; rfl) ?_
    refine drawP_run 5 (by rfl) (by simp; rfl) ?_
    refine drawP_run 5 (by rfl) (by simp; rfl) ?_
    refine drawP_all (by rfl) (by simp; rfl) ?_
    refine .cond (t := false) (by simp) (.skip ?_)
    exact AWc.forget (T0 := (11, .i .i64 x) :: ruT row w left y (slB false m 4 ([] : List Rc).length) c) (by simp [ruT, slB]) (happ rfl)
  | true =>
    obtain ⟨hne, hmn0, hm2⟩ := h.on rfl
    have hmn := (hin _ _ hm2).1
    obtain ⟨A, r, rfl⟩ : ∃ A r, out = A ++ [r] := ⟨out.dropLast, out.getLast hne, (List.dropLast_concat_getLast hne).symm⟩
    have hgl : (A ++ [r]).getLast? = some r := by simp
    have hdl : (A ++ [r]).dropLast = A := by simp
    have hgx := rcs_getX A [] r []
    have hgw := rcs_getW A [] r []
    have hsw := rcs_setW A [] r [] (w64 (r.w + 1))
    simp only [List.append_nil] at hgx hgw hsw
    have hll : (A ++ [r]).length = A.length + 1 := by simp
    have hlen : A.length * 4 + 2 + 1 ≤ (rcs (A ++ [r])).length := by rw [rcs_len, hll]; omega
    rw [hll] at hol happ ⊢
    have hz : (0 : Int) < (A.length : Int) + 1 := by omega
    have hA0 : (0 : Int) ≤ A.length := by omega
    have hws : IntKind.i64.wrap ((A.length : Int) + 1 - 1) = A.length := by rw [IntWalk.i64_in _ (by omega)]; omega
    have hws' : IntKind.i64.wrap (A.length : Int) = A.length := IntWalk.i64_in _ (by omega)
    have hlt : (A.length : Int) < (A.length : Int) + 1 := by omega
    have hlen' : A.length * 4 + 3 ≤ (rcs (A ++ [r])).length := by omega
    generalize hcs : rcs (A ++ [r]) = cs at hm2 hgx hgw hsw hlen hlen'
    refine .seq (.seq (.ops (opsF_all (by simp [ruT, slB]; rfl) ?_)))
    have hbr : AWc Try.prog 71 none (.cond (.t 54)
          (.seq (.ops none [⟨(some 55), (.mv (.t 9)), none⟩,
            ⟨(some 56), (.mv (.t 12)), none⟩,
            ⟨(some 57), (.bin .sub (.t 56) (.c (.i .i64 1))), none⟩,
            ⟨(some 58), (.ias 4 (.t 55) (.t 57)), none⟩,
            ⟨(some 59), (.fa 2 (.t 58)), none⟩,
            ⟨(some 60), (.ld false 1 (.t 59)), none⟩,
            ⟨(some 61), (.bin .add (.t 60) (.c (.i .i64 1))), none⟩,
            ⟨(some 62), (.ias 4 (.t 55) (.t 57)), none⟩,
            ⟨(some 63), (.fa 2 (.t 62)), none⟩,
            ⟨none, (.st 1 (.t 63) (.t 61)), none⟩])
          (.exit 1))
          (.skip)) ⟨(54, .b (IntKind.i64.wrap (r.x + r.w) == x)) :: (12, .i .i64 ((A.length : Int) + 1)) :: (11, .i .i64 x) :: ruT row w left y (slB true m 4 (A.length + 1)) c, [], n, H⟩
          (onNormal (fun s => AWc Try.prog 71 none (.ops none [⟨(some 64), (.mv (.t 9)), none⟩,
         ⟨(some 65), (.mv (.t 11)), none⟩,
         ⟨(some 66), (.mv (.t 3)), none⟩,
         ⟨(some 67), (.build [(.i .i64 0), (.i .i64 0), (.i .i64 0), (.i .i64 0)] [(0, 1, (.t 65)), (1, 1, (.t 66)), (2, 1, (.c (.i .i64 1))), (3, 1, (.c (.i .i64 1)))]), none⟩,
         ⟨(some 68), (.lit 4 1 [(.i .i64 0), (.i .i64 0), (.i .i64 0), (.i .i64 0)] [(0, (.t 67))]), none⟩,
         ⟨(some 69), (.app 4 32 [(.i .i64 0), (.i .i64 0), (.i .i64 0), (.i .i64 0)] (.t 64) (.t 68)), none⟩,
         ⟨(some 9), (.mv (.t 69)), none⟩]) s Q) Q) := by
      by_cases hx : IntKind.i64.wrap (r.x + r.w) = x
      · have hra : runAdd x y (A ++ [r]) = A ++ [{ r with w := w64 (r.w + 1) }] := by unfold runAdd; rw [hgl, hdl]; simp only; rw [if_pos hx]
        rw [hra] at hQ
        have hQ := hQ
        refine .cond (t := true) (by simp [hx]) (.seq (.ops (opsF_run 4 (by simp [ruT, slB, hws, hws', hlt]; rfl) ?_)))
        refine opsF_run 3 (by simp [hm2, hgw]; rfl) ?_
        refine opsF_run 2 (by simp [hws, hws', hlt]; rfl) ?_
        refine opsF_cons_op (v := .un) (n' := n) (H' := aput H m (.row true (rcs (A ++ [{ r with w := w64 (r.w + 1) }])))) rfl rfl ?_ ?_
        · rw [← hsw]; simp [hm2, hlen']
        refine opsF_nil (.exit ?_)
        refine hQ (.exit 1) _ n _ true m (.inr rfl) hn ⟨fun b k hk => ?_, by simp, fun _ => ⟨by simp, hmn0, by rw [aget_put, if_pos rfl]⟩⟩ (by simp [ruT, slB])
        obtain ⟨k1, k2⟩ := h.keep b k hk
        exact ⟨by rw [aget_put, if_neg (by omega)]; exact k1, k2⟩
      · have hra : runAdd x y (A ++ [r]) = (A ++ [r]) ++ [⟨x, y, 1, 1⟩] := by unfold runAdd; rw [hgl]; simp only; rw [if_neg hx]
        refine .cond (t := false) (by simp [hx]) (.skip ?_)
        exact AWc.forget (T0 := (11, .i .i64 x) :: ruT row w left y (slB true m 4 (A.length + 1)) c) (by simp [ruT]) (happ hra)
    unfold ruD
    refine .seq (.drawP (by rfl) ?_)
    refine drawP_run 3 (by rfl) (by simp [hz]; rfl) ?_
    refine drawP_run 5 (by rfl) (by simp [hws, hws', hlt]; rfl) ?_
    refine drawP_run 4 (by rfl) (by simp [hm2, hmn, hgx, hws, hws']; rfl) ?_
    refine drawP_run 3 (by rfl) (by simp [hlt, hm2, hmn, hgw]; rfl) ?_
    refine drawP_all (by rfl) (by simp; rfl) ?_
    exact AWc.forget (by simp [ruT, slB]) hbr
end Go.Proofs.Ytpgelghkjiejlaa
end
section
set_option maxRecDepth 4000
namespace Go.Proofs.Ytpgelghkjiejlaa
open Go
attribute [local irreducible] opsF drawF drawP fontC shV
theorem runs_ok (row left y : Int) (w : Nat) (hw : w ≤ 100000) (n : Nat) (H : Heap) : ACalls Try.prog 44 [.i .i64 row, .i .i64 w, .i .i64 left, .i .i64 y] n H (NewR (!(runsN row left y w).isEmpty) 4 (runsN row left y w).length (rcs (runsN row left y w)) n H) := by
  refine ACalls.newR (K := fun v n' H' => (∀ b k, b < n → aget H b = some k → aget H' b = some k) ∧ (((!(runsN row left y w).isEmpty) = false ∧ v = .nils) ∨ ((!(runsN row left y w).isEmpty) = true ∧ ∃ id full post, v = .sl id 0 4 (runsN row left y w).length full ∧ n ≤ id ∧ aget H' id = some (.row true (rcs (runsN row left y w) ++ post))))) (!(runsN row left y w).isEmpty) 4 (runsN row left y w).length (rcs (runsN row left y w)) (.rcs _) ?_ (fun v n' H' h => h)
  refine .withIn (ACalls.enters F44_ok trivial) fun hin hargs => ?_
  have hin : HIn n H := hin
  refine .enter0 F44_ok (by simp [F44]) ?_
  refine .seq (.ops (opsF_all (by simp; rfl) ?_))
  refine .seq (.ops (opsF_all (by simp; rfl) ?_))
  refine .seq (.seq (.ops (opsF_all (by simp; rfl) ?_)))
  refine .block (.loop (k₀ := w) (s₀ := ⟨ruT row w left y .nils 0, [], n, H⟩)
    (fun k st => ∃ (c n' : Nat) (H' : Heap) (f : Bool) (m : Nat), c ≤ w ∧ k = w - c ∧ n ≤ n' ∧ GR n H H' f m (runsN row left y c) ∧ st = ⟨ruT row w left y (slB f m 4 (runsN row left y c).length) c, [], n', H'⟩)
    ⟨0, n, H, false, 0, by omega, rfl, Nat.le_refl _, ⟨fun b k hk => ⟨hk, (hin b k hk).1⟩, fun _ => rfl, by simp⟩, rfl⟩ (St.less_F (by simp) (by simp [ruT])) (Nat.le_refl _) (fun k st ⟨c, n', H', f, m, h1, h2, h3, h4, h5⟩ => by rw [h5]; exact h3) ?_)
  rintro k st ⟨c, n', H', f, m, h1, rfl, h3, h4, rfl⟩
  have hlen := runsN_len row left y c
  by_cases hc : c < w
  · have hc' : (c : Int) < w := by omega
    have hwc : IntKind.i64.wrap ((c : Int) + 1) = ((c + 1 : Nat) : Int) := IntWalk.i64_in _ (by omega)
    have hnext : ∀ (e : Exit) (T' : Temps) (n2 : Nat) (H2 : Heap) (f2 : Bool) (m2 : Nat), n ≤ n2 → GR n H H2 f2 m2 (runsN row left y (c + 1)) → ((ruT row w left y (slB f2 m2 4 (runsN row left y (c + 1)).length) c).map fun p => aget T' p.1) = ((ruT row w left y (slB f2 m2 4 (runsN row left y (c + 1)).length) c).map fun p => some p.2) →
        AWc Try.prog 71 none (.ops none [⟨(some 16), (.mv (.t 10)), none⟩,
       ⟨(some 17), (.bin .add (.t 16) (.c (.i .i64 1))), none⟩,
       ⟨(some 10), (.mv (.t 17)), none⟩]) ⟨T', [], n2, H2⟩ (fun e s => e = .normal ∧ ∃ j s'', j < w - c ∧ (∃ (c n' : Nat) (H' : Heap) (f : Bool) (m : Nat), c ≤ w ∧ j = w - c ∧ n ≤ n' ∧ GR n H H' f m (runsN row left y c) ∧ s'' = ⟨ruT row w left y (slB f m 4 (runsN row left y c).length) c, [], n', H'⟩) ∧ St.less s'' s) := by
      intro e T' n2 H2 f2 m2 hn2 hG hT
      refine AWc.forget hT (.ops (opsF_all (by simp only [ruT]; simp [hwc]; rfl) ?_))
      exact ⟨rfl, w - (c + 1), ⟨ruT row w left y (slB f2 m2 4 (runsN row left y (c + 1)).length) ((c + 1 : Nat)), [], n2, H2⟩, by omega, ⟨c + 1, n2, H2, f2, m2, by omega, rfl, hn2, hG, rfl⟩, St.less_F (by simp) (by simp [ruT])⟩
    have hmin : (min c 64) = min (c : Int).toNat IntKind.i64.bits := rfl
    refine .seq (.seq (.ops (opsF_all (by simp only [ruT]; simp [hc']; rfl) ?_)))
    refine .cond (t := true) (by simp [hc']) (.skip ?_)
    refine AWc.forget (T0 := ruT row w left y (slB f m 4 (runsN row left y c).length) c) (by simp [ruT]) ?_
    refine .seq (.block (.seq (.ops (opsF_all (by simp only [ruT]; simp; rfl) ?_))))
    refine AWc.forget (T0 := (11, .i .i64 (w64 (left + c))) :: ruT row w left y (slB f m 4 (runsN row left y c).length) c) (by simp [ruT]) ?_
    refine .seq (.seq (.ops (opsF_run 2 (by simp [ruT]; rfl) ?_)))
    refine opsF_cons_op (v := .i .i64 (row.fdiv (2 ^ (min c 64)))) (n' := n') (H' := H') rfl rfl (by simp [hmin]) ?_
    refine opsF_cons_op (v := .i .i64 (shV row c)) (n' := n') (H' := H') rfl rfl (by unfold shV; rfl) ?_
    have hrs : runsN row left y (c + 1) = if runOff row left c then runsN row left y c else runAdd (w64 (left + c)) y (runsN row left y c) := rfl
    have hoff : runOff row left c = (shV row c == 0 || decide (w64 (left + c) < -1048576) || decide (1048576 ≤ w64 (left + c))) := rfl
    generalize shV row c = sh at hoff ⊢
    generalize hx : w64 (left + c) = x at hoff hrs
    by_cases b1 : sh = 0
    · have ho : runOff row left c = true := by rw [hoff, b1]; rfl
      have b1' : (sh == 0) = true := by simp [b1]
      refine opsF_run 3 (by simp [b1']; rfl) ?_
      refine opsF_run 4 (by simp; rfl) ?_
      refine opsF_all (by simp; rfl) ?_
      refine .cond (t := true) (by simp) (.exit ?_)
      exact (hnext .normal _ n' H' f m h3 (by rw [hrs, if_pos ho]; exact h4) (by rw [hrs, if_pos ho]; simp [ruT])).conseq fun e s hs => by
        obtain ⟨rfl, j, s'', q1, q2, q3⟩ := hs
        exact ⟨j, s'', q1, q2, q3⟩
    · have b1' : (sh == 0) = false := by simpa using b1
      by_cases b2 : x < -1048576
      · have ho : runOff row left c = true := by rw [hoff]; simp [b2]
        refine opsF_run 3 (by simp [b1']; rfl) ?_
        refine opsF_run 4 (by simp [b2]; rfl) ?_
        refine opsF_all (by simp; rfl) ?_
        refine .cond (t := true) (by simp) (.exit ?_)
        exact (hnext .normal _ n' H' f m h3 (by rw [hrs, if_pos ho]; exact h4) (by rw [hrs, if_pos ho]; simp [ruT])).conseq fun e s hs => by
          obtain ⟨rfl, j, s'', q1, q2, q3⟩ := hs
          exact ⟨j, s'', q1, q2, q3⟩
      · by_cases b3 : 1048576 ≤ x
        · have ho : runOff row left c = true := by rw [hoff]; simp [b3]
          refine opsF_run 3 (by simp [b1']; rfl) ?_
          refine opsF_run 4 (by simp [b2]; rfl) ?_
          refine opsF_all (by simp [b3]; rfl) ?_
          refine .cond (t := true) (by simp) (.exit ?_)
          exact (hnext .normal _ n' H' f m h3 (by rw [hrs, if_pos ho]; exact h4) (by rw [hrs, if_pos ho]; simp [ruT])).conseq fun e s hs => by
            obtain ⟨rfl, j, s'', q1, q2, q3⟩ := hs
            exact ⟨j, s'', q1, q2, q3⟩
        · have ho : ¬ runOff row left c = true := by rw [hoff]; simp [b1, b2, b3]
          refine opsF_run 3 (by simp [b1']; rfl) ?_
          refine opsF_run 4 (by simp [b2]; rfl) ?_
          refine opsF_all (by simp [b3]; rfl) ?_
          refine .cond (t := false) (by simp) (.skip ?_)
          refine AWc.forget (T0 := (11, .i .i64 x) :: ruT row w left y (slB f m 4 (runsN row left y c).length) c) (by simp [ruT]) ?_
          refine ruAdd_ok row w left y x c n H f m (runsN row left y c) (by omega) n' H' h3 h4 fun e T' n2 H2 f2 m2 he hn2 hG hT => ?_
          have hrs2 : runAdd x y (runsN row left y c) = runsN row left y (c + 1) := by rw [hrs, if_neg ho]
          rw [hrs2] at hG hT
          rcases he with rfl | rfl
          · exact (hnext .normal _ n2 H2 f2 m2 hn2 hG hT).conseq fun e s hs => by
              obtain ⟨rfl, j, s'', q1, q2, q3⟩ := hs
              exact ⟨j, s'', q1, q2, q3⟩
          · exact (hnext .normal _ n2 H2 f2 m2 hn2 hG hT).conseq fun e s hs => by
              obtain ⟨rfl, j, s'', q1, q2, q3⟩ := hs
              exact ⟨j, s'', q1, q2, q3⟩
  · obtain rfl : c = w := by omega
    have hc' : ¬ (c : Int) < c := by omega
    refine .seq (.seq (.ops (opsF_all (by simp only [ruT]; simp; rfl) ?_)))
    refine .cond (t := false) (by simp) (.exit ?_)
    refine .seq (.ops (opsF_all (by simp; rfl) ?_))
    refine .ret ⟨.inr rfl, rfl, [slB f m 4 (runsN row left y c).length], by simp [F44], fun b k _ hb => (h4.keep b k hb).1, ?_⟩
    cases f with
    | false => exact .inl ⟨by rw [h4.off rfl]; rfl, rfl⟩
    | true =>
      obtain ⟨q1, q2, q3⟩ := h4.on rfl
      exact .inr ⟨by cases hh : runsN row left y c with | nil => exact absurd hh q1 | cons _ _ => rfl, m, false, [], rfl, q2, by rw [List.append_nil]; exact q3⟩
end Go.Proofs.Ytpgelghkjiejlaa
end
section
set_option maxRecDepth 4000
namespace Go.Proofs.Ytpgelghkjiejlaa
open Go
attribute [local irreducible] opsF drawF drawP fontC shV
def iT (c5 c7 c9 c11 c13 : Nat) (left : Int) (Sr : V) (len j : Int) : Temps := [(5, .p c5 0), (7, .p c7 0), (9, .p c9 0), (11, .p c11 0), (13, .p c13 0), (14, .i .i64 left), (43, Sr), (44, .i .i64 len), (45, .i .i64 j)]
def iApp : ACode := (.ops (some [0, 0, 0, 4, 0, 0, 62, 127, 255]) [⟨(some 69), (.ld false 1 (.t 11)), none⟩,
              ⟨(some 70), (.mv (.t 16)), none⟩,
              ⟨(some 71), (.fa 0 (.t 13)), none⟩,
              ⟨(some 72), (.ld false 1 (.t 71)), none⟩,
              ⟨(some 73), (.mv (.t 14)), none⟩,
              ⟨(some 74), (.mv (.t 17)), none⟩,
              ⟨(some 75), (.call (.f 44) [(.t 70), (.t 72), (.t 73), (.t 74)]), none⟩,
              ⟨(some 76), (.app 4 32 [(.i .i64 0), (.i .i64 0), (.i .i64 0), (.i .i64 0)] (.t 69) (.t 75)), none⟩,
              ⟨none, (.st 1 (.t 11) (.t 76)), none⟩])
theorem mergeW (H : Heap) (i n0 n1 : Nat) (R : Heap) (b : Nat) : aget (mergeH H [i] n0 n1 R) b = if b = i ∨ (n0 ≤ b ∧ b < n1) then aget R b else aget H b := by
  rw [aget_mergeH]; simp [touch]
theorem mergeN (H : Heap) (n0 n1 : Nat) (R : Heap) (b : Nat) : aget (mergeH H [] n0 n1 R) b = if n0 ≤ b ∧ b < n1 then aget R b else aget H b := by
  rw [aget_mergeH]; simp [touch]
theorem drawF_st1 {P : Program} {o : AOper} {os : List AOper} {T : Temps} {D : List Nat} {n : Nat} {H : Heap} {acc : List DStep} {K : List DStep → St → Prop} {a x : AX} {c : Nat} {u0 : V} (hg : guardOf T o.guard = some true) (ho : o.op = .st 1 a x) (ha : a.val T = .p c 0) (hc : aget H c = some (.row true [u0])) (hcn : c < n) (hok : o.op.cok = true) (h1 : (x.val T).known = true) (h2 : (x.val T).one = true) (h3 : (x.val T).cells = [x.val T])
    (h : drawF P os ⟨putT T o.dst .un, D, n, mergeH H [c] n n [(c, .row true [x.val T])]⟩ (acc ++ [⟨(AOp.st 1 a x).slots ++ gslots o.guard, o.dst, [], [c], n, n, .un, [(c, .row true [x.val T])]⟩]) K) : drawF P (o :: os) ⟨T, D, n, H⟩ acc K := by
  have hres : restr H [] [c] = [(c, .row true [u0])] := by unfold restr; simp only [pickR, hc, _root_.id, List.append_nil]
  have hev : evalOp T n (restr H [] [c]) o.op = some (.un, n, [(c, .row true [x.val T])]) := by
    rw [ho, hres]
    show evSt n [(c, .row true [u0])] 1 (a.val T) (x.val T) = _
    rw [ha, evSt_one (cs := [u0]) (by simp) rfl h1 h2 h3]
    simp [aput]
  have hd := drawF_op (P := P) (o := o) (os := os) (st := ⟨T, D, n, H⟩) (acc := acc) (K := K) (fr := []) (fw := [c]) hg (fun g l hx => by rw [ho] at hx; cases hx) hev hok ⟨Nat.le_refl _, by simpa using hcn, fun b hb => by rw [List.mem_singleton.1 hb]; exact ⟨_, hc⟩, fun p hp _ => by rw [List.mem_singleton.1 hp]; rfl⟩
  rw [ho] at hd
  exact hd h
/-- A slice of rectangles of its own, to which another one's are appended: what comes of it. -/
structure AppR (n : Nat) (fo : Bool) (len : Nat) (cs new : List V) (k : Nat) (v : V) (n1 : Nat) (R : Heap) : Prop where
  v_eq : ∃ f', v = slB f' n 4 (len + k) ∧ (f' = false → n1 = n ∧ fo = false ∧ k = 0) ∧ (f' = true → n1 = n + 1 ∧ (fo = true ∨ k ≠ 0) ∧ aget R n = some (.row true (cs ++ new)))
  old : ∀ p ∈ R, p.1 ≠ n → p.2.own = true ∨ p.1 < n
theorem drawF_app {P : Program} {o : AOper} {os : List AOper} {T : Temps} {D : List Nat} {n : Nat} {H : Heap} {acc : List DStep} {K : List DStep → St → Prop} {z : List V} {s x : AX} {fo : Bool} {mo len k m2 : Nat} {f2 : Bool} {cs new post : List V} (hg : guardOf T o.guard = some true) (ho : o.op = .app 4 32 z s x) (hok : o.op.cok = true) (hs : s.val T = slB fo mo 4 len) (hx : x.val T = slB f2 m2 4 k)
    (hf : fo = false → len = 0 ∧ cs = []) (hgm : fo = true → mo < n ∧ ∃ post, aget H mo = some (.row true (cs ++ post))) (hl : cs.length = len * 4) (hf2 : f2 = false → k = 0 ∧ new = []) (hg2 : f2 = true → k ≠ 0 ∧ m2 < n ∧ ∃ o, aget H m2 = some (.row o new)) (hl2 : new.length = k * 4) (hone : new.all V.one = true) (hne : fo = true → f2 = true → mo ≠ m2) (hb : (len + k) * 32 ≤ 140737488355328)
    (h : ∀ v n1 R, AppR n fo len cs new k v n1 R → n ≤ n1 → drawF P os ⟨putT T o.dst v, D, n1, mergeH H (if fo then [mo] else []) n n1 R⟩ (acc ++ [⟨(AOp.app 4 32 z s x).slots ++ gslots o.guard, o.dst, if f2 then [m2] else [], if fo then [mo] else [], n, n1, v, R⟩]) K) : drawF P (o :: os) ⟨T, D, n, H⟩ acc K := by
  have hgo : ∀ v n1 R, evApp n (restr H (if f2 then [m2] else []) (if fo then [mo] else [])) 4 32 (slB fo mo 4 len) (slB f2 m2 4 k) = some (v, n1, R) → n ≤ n1 → AppR n fo len cs new k v n1 R → (∀ p ∈ R, touch (if fo then [mo] else []) n n1 p.1 = true → p.2.own = true) → drawF P (o :: os) ⟨T, D, n, H⟩ acc K := by
    intro v n1 R hev hn hA hown
    have hd := drawF_op (P := P) (o := o) (os := os) (st := ⟨T, D, n, H⟩) (acc := acc) (K := K) (fr := if f2 then [m2] else []) (fw := if fo then [mo] else []) (v := v) (n1 := n1) (R := R) hg (fun g l hx => by rw [ho] at hx; cases hx) (by rw [ho]; show evApp n _ 4 32 (s.val T) (x.val T) = _; rw [hs, hx]; exact hev) hok ⟨hn, ?_, ?_, hown⟩
    · rw [ho] at hd
      exact hd (h v n1 R hA hn)
    · intro b hb
      rcases List.mem_append.1 hb with hb | hb
      · cases f2 with
        | false => simp at hb
        | true => simp at hb; subst hb; exact (hg2 rfl).2.1
      · cases fo with
        | false => simp at hb
        | true => simp at hb; subst hb; exact (hgm rfl).1
    · intro b hb
      cases fo with
      | false => simp at hb
      | true => simp at hb; subst hb; obtain ⟨_, p, hp⟩ := hgm rfl; exact ⟨_, hp⟩
  cases f2 with
  | false =>
    obtain ⟨rfl, rfl⟩ := hf2 rfl
    cases fo with
    | false =>
      obtain ⟨rfl, rfl⟩ := hf rfl
      exact hgo .nils n [] (by simp [slB, restr, pickR, evApp]) (Nat.le_refl _) ⟨⟨false, rfl, fun _ => ⟨rfl, rfl, rfl⟩, by simp⟩, by simp⟩ (by simp)
    | true =>
      obtain ⟨hmn, p, hp⟩ := hgm rfl
      refine hgo (.sl n 0 4 len false) (n + 1) [(n, .row true cs)] ?_ (Nat.le_succ _) ⟨⟨true, rfl, by simp, fun _ => ⟨rfl, .inl rfl, by simp⟩⟩, by simp⟩ (by simp [Blk.own])
      simp only [slB, if_true, Bool.false_eq_true, if_false, restr, pickR, hp, _root_.id, List.append_nil]
      simp [evApp, cellsOf, lenS, adel]
      simp [← hl, List.take_append_of_le_length]
      omega
  | true =>
    obtain ⟨hk0, hm2n, o2, hp2⟩ := hg2 rfl
    cases fo with
    | false =>
      obtain ⟨rfl, rfl⟩ := hf rfl
      refine hgo (.sl n 0 4 k false) (n + 1) [(n, .row true new), (m2, .row false new)] ?_ (Nat.le_succ _) ⟨⟨true, by simp [slB], by simp, fun _ => ⟨rfl, .inr hk0, by simp⟩⟩, ?_⟩ ?_
      · have hr : restr H (if true = true then [m2] else []) (if false = true then [mo] else []) = [(m2, .row false new)] := by
          simp only [if_true, Bool.false_eq_true, if_false, restr, pickR, hp2, roOf, List.nil_append]
        have hc : cellsOf [(m2, Blk.row false new)] 4 (slB true m2 4 k) = some new := by
          have ht : new.take (k * 4) = new := List.take_of_length_le (by omega)
          simp [slB, hl2, ht]
        rw [hr, evApp_B (f := false) (m := mo) (len := 0) (cs := []) (k := k) (fun _ => ⟨rfl, rfl⟩) (by simp) rfl hc hone rfl hk0 hb]
        simp
      · intro p hp hpn
        simp at hp
        rcases hp with rfl | rfl
        · exact absurd rfl hpn
        · exact .inr hm2n
      · intro p hp ht
        simp at hp
        rcases hp with rfl | rfl
        · rfl
        · simp [touch] at ht; omega
    | true =>
      obtain ⟨hmn, p, hp⟩ := hgm rfl
      have hne' := hne rfl rfl
      refine hgo (.sl n 0 4 (len + k) false) (n + 1) [(n, .row true (cs ++ new)), (m2, .row false new)] ?_ (Nat.le_succ _) ⟨⟨true, rfl, by simp, fun _ => ⟨rfl, .inl rfl, by simp⟩⟩, ?_⟩ ?_
      · have e1 : ¬ m2 = mo := fun e => hne' e.symm
        have hr : restr H (if true = true then [m2] else []) (if true = true then [mo] else []) = [(mo, .row true (cs ++ p)), (m2, .row false new)] := by
          simp only [if_true, restr, pickR, hp, hp2, roOf, _root_.id, List.cons_append, List.nil_append]
        have hc : cellsOf [(mo, Blk.row true (cs ++ p)), (m2, Blk.row false new)] 4 (slB true m2 4 k) = some new := by
          have ht : new.take (k * 4) = new := List.take_of_length_le (by omega)
          simp [slB, hl2, ht, hne']
        rw [hr, evApp_B (f := true) (m := mo) (len := len) (cs := cs) (k := k) (by simp) (fun _ => ⟨p, by simp⟩) hl hc hone rfl hk0 hb]
        simp [adel, e1]
      · intro p hp hpn
        simp at hp
        rcases hp with rfl | rfl
        · exact absurd rfl hpn
        · exact .inr hm2n
      · intro p hp ht
        simp at hp
        rcases hp with rfl | rfl
        · rfl
        · simp [touch] at ht
          rcases ht with e | ht
          · exact absurd e.symm hne'
          · omega
theorem drawF_newR {o : AOper} {os : List AOper} {T : Temps} {D : List Nat} {n : Nat} {H : Heap} {acc : List DStep} {K : List DStep → St → Prop} {g : FuncId} {args : List AX} {vs : List V} (f : Bool) (l : List Rc) (hg : guardOf T o.guard = some true) (ho : o.op = .call (.f g) args) (hv : args.map (·.val T) = vs)
    (hc : ACalls Try.prog g vs n [] (NewR f 4 l.length (rcs l) n []))
    (h : drawF Try.prog os ⟨putT T o.dst (slB f n 4 l.length), D, n + 1, mergeH H [] n (n + 1) (rowB f n (rcs l) [])⟩ (acc ++ [⟨(AOp.call (.f g) args).slots ++ gslots o.guard, o.dst, [], [], n, n + 1, slB f n 4 l.length, rowB f n (rcs l) []⟩]) K) :
    drawF Try.prog (o :: os) ⟨T, D, n, H⟩ acc K := by
  have hmem : ∀ p ∈ rowB f n (rcs l) [], p.2 = .row true (rcs l) := by
    intro p hp
    cases f with
    | false => simp [rowB] at hp
    | true => rw [List.mem_singleton.1 hp]
  refine drawF_call (fr := []) (fw := []) (v := slB f n 4 l.length) (n1 := n + 1) (R := rowB f n (rcs l) []) hg ho rfl ?_ ⟨Nat.le_succ _, by simp, by simp, fun p hp _ => by rw [hmem p hp]; rfl⟩ ⟨slB_in (by omega), fun p hp _ => by rw [hmem p hp]; exact (NoId.rcs l).bin _⟩ h
  show ACalls Try.prog g ([] ++ args.map (·.val T) ++ []) n _ _
  rw [hv, List.append_nil, List.nil_append]
  exact hc
theorem iApp_ok {N : Nat} {rd : Option Nat} {Q : Exit → St → Prop} (c5 c7 c9 c11 c13 : Nat) (left : Int) (Sr : V) (len j row py : Int) (W : Nat) (hW : W ≤ 100000) (X : V) {KP : Nat → Blk → Prop} {fo : Bool} {mo : Nat} {out : List Rc} (n : Nat) (H : Heap) (h : OfH c11 KP n H false 0 [] fo mo out) (h13 : KP c13 (.row true [.i .i64 W, X])) (hob : out.length + W ≤ 4000000000000)
    (hQ : ∀ T' n' H' fo' mo', n ≤ n' → OfH c11 KP n' H' false 0 [] fo' mo' (out ++ runsN row left py W) → (fo' = true → mo' < n') → ((iT c5 c7 c9 c11 c13 left Sr len j).map fun p => aget T' p.1) = ((iT c5 c7 c9 c11 c13 left Sr len j).map fun p => some p.2) → (∀ b k, b ≠ c11 → (fo = true → b ≠ mo) → aget H b = some k → aget H' b = some k) → Q .normal ⟨T', [], n', H'⟩) :
    AWc Try.prog N rd iApp ⟨(16, .i .i64 row) :: (17, .i .i64 py) :: iT c5 c7 c9 c11 c13 left Sr len j, [], n, H⟩ Q := by
  refine .withIn fun hin => ?_
  have hin : HIn n H := hin
  have hcell := h.cell
  have hcn := h.c7_lt hin
  have hmon := fun hf => h.mo_lt hin hf
  obtain ⟨k13, k13a, _, k13b⟩ := h.keep _ _ h13
  have h13n := (hin _ _ k13).1
  have hr := fun m G => runs_ok row left py W hW m G
  have hrl := runsN_len row left py W
  generalize runsN row left py W = R at hr hrl hQ
  unfold iApp
  refine .drawS (by rfl) ?_
  refine drawF_run 2 (by rfl) (by simp [iT, hcell, hcn]; exact ⟨rfl, rfl⟩) ?_
  refine drawF_run 4 (by rfl) (by simp [k13, h13n]; exact ⟨rfl, rfl⟩) ?_
  have hRe : (!R.isEmpty) = false → R = [] := fun h => by simpa using h
  have hRt : (!R.isEmpty) = true → R.length ≠ 0 := fun h => by cases R with | nil => cases h | cons _ _ => simp
  have hfe : (!R.isEmpty) = false → R.length = 0 ∧ rcs R = [] := fun h => by rw [hRe h]; exact ⟨rfl, rfl⟩
  refine drawF_newR (g := 44) (!R.isEmpty) R rfl rfl rfl (hr n []) ?_
  obtain ⟨H1, hH1⟩ : ∃ H1, H1 = mergeH H [] n (n + 1) (rowB (!R.isEmpty) n (rcs R) []) := ⟨_, rfl⟩
  have m1 : ∀ b, b < n → aget H1 b = aget H b := fun b hb => by rw [hH1, mergeN, if_neg (by omega)]
  have m1n : (!R.isEmpty) = true → aget H1 n = some (.row true (rcs R)) := fun hf => by rw [hH1, mergeN, if_pos (by omega), hf, rowB_t, aget_cons, if_pos rfl]
  rw [← hH1]
  refine drawF_app (fo := fo) (mo := mo) (len := out.length) (k := R.length) (m2 := n) (f2 := !R.isEmpty) (cs := rcs out) (new := rcs R) (post := []) rfl rfl rfl rfl rfl (fun hf => by rw [h.fon hf]; exact ⟨rfl, rfl⟩) (fun hf => ⟨by have := hmon hf; omega, by obtain ⟨_, p, _, hp⟩ := h.outb hf; exact ⟨p, by rw [m1 _ (hmon hf)]; exact hp⟩⟩) (by rw [rcs_len]; omega) hfe (fun hf => ⟨hRt hf, by omega, _, m1n hf⟩) (by rw [rcs_len]; omega) (rcs_one R) (fun hf _ => by have := hmon hf; omega) (by omega) ?_
  intro v n1 R1 hA hn1
  obtain ⟨⟨f', rfl, hf0, hf1⟩, _⟩ := hA
  have hn1' : n1 ≤ n + 2 := by cases f' with | false => have := (hf0 rfl).1; omega | true => have := (hf1 rfl).1; omega
  obtain ⟨H2, hH2⟩ : ∃ H2, H2 = mergeH H1 (if fo then [mo] else []) (n + 1) n1 R1 := ⟨_, rfl⟩
  have m2 : ∀ b, b < n → (fo = true → b ≠ mo) → aget H2 b = aget H b := fun b hb hne => by
    rw [hH2]
    cases fo with
    | false => rw [if_neg (by simp), mergeN, if_neg (by omega)]; exact m1 b hb
    | true => rw [if_pos rfl, mergeW, if_neg (by have := hne rfl; omega)]; exact m1 b hb
  have m2n : f' = true → aget H2 (n + 1) = some (.row true (rcs out ++ rcs R)) := fun hf => by
    obtain ⟨q1, q2, q3⟩ := hf1 hf
    rw [hH2]
    cases fo with
    | false => rw [if_neg (by simp), mergeN, if_pos (by omega)]; exact q3
    | true => rw [if_pos rfl, mergeW, if_pos (by omega)]; exact q3
  rw [← hH2]
  have hc2 : aget H2 c11 = some (.row true [slB fo mo 4 out.length]) := by rw [m2 _ hcn (fun hf e => (h.outb hf).1 e.symm)]; exact hcell
  refine drawF_st1 (c := c11) rfl rfl rfl hc2 (by omega) rfl (slB_known _ _ _ _) (slB_one _ _ _ _) (slB_cells _ _ _ _) ?_
  refine drawF_all (by rfl) (by simp; exact ⟨rfl, rfl⟩) ⟨?_, ?_⟩
  · generalize (!R.isEmpty) = f2
    have hcl : c11 < n1 := by omega
    cases fo <;> cases f2 <;> simp [-idOf, heapOk, heapRow, heavy, heapI] <;> (repeat' (first | apply And.intro | intro _)) <;> first | decide | exact .inl (by decide) | exact .inr ⟨by decide, .inl (by decide)⟩ | omega
  · have m3 : ∀ b, b ≠ c11 → aget (mergeH H2 [c11] n1 n1 [(c11, .row true [slB f' (n + 1) 4 (out.length + R.length)])]) b = aget H2 b := fun b hb => by
      rw [mergeW, if_neg]; omega
    have m3c : aget (mergeH H2 [c11] n1 n1 [(c11, .row true [slB f' (n + 1) 4 (out.length + R.length)])]) c11 = some (.row true [slB f' (n + 1) 4 (out.length + R.length)]) := by
      rw [mergeW, if_pos (.inl rfl)]; simp
    have hgen : ∀ b k, b ≠ c11 → (fo = true → b ≠ mo) → aget H b = some k → aget (mergeH H2 [c11] n1 n1 [(c11, .row true [slB f' (n + 1) 4 (out.length + R.length)])]) b = some k := fun b k h1 h2 h3 => by
      rw [m3 b h1, m2 b (hin _ _ h3).1 h2]; exact h3
    refine hQ _ n1 _ f' (n + 1) (by omega) (h.outS (fun b k h1 h2 h3 => hgen b k h1 h2 h3) (by rw [List.length_append]; exact m3c) (fun hf => ?_) (fun hf => ?_) (fun hf => ⟨by omega, [], by simp [NoId], ?_⟩) (by simp) (fun hf b k hk => by have := h.kp_lt hin hk; omega)) (fun hf => by have := (hf1 hf).1; omega) (by simp [iT]) hgen
    · obtain ⟨_, q2, q3⟩ := hf0 hf
      rw [h.fon q2, List.eq_nil_of_length_eq_zero q3]; rfl
    · obtain ⟨_, q2, _⟩ := hf1 hf
      rcases q2 with q2 | q2
      · intro he; exact h.fot q2 (List.append_eq_nil_iff.1 he).1
      · intro he; rw [(List.append_eq_nil_iff.1 he).2] at q2; exact q2 rfl
    · rw [m3 _ (by omega), m2n hf, rcs_append, List.append_nil]
end Go.Proofs.Ytpgelghkjiejlaa
end
section
set_option maxRecDepth 4000
namespace Go.Proofs.Ytpgelghkjiejlaa
open Go
attribute [local irreducible] opsF drawF drawP fontC shV
def rowY (w : Bool) (y : Int) (j : Nat) : Int := w64 (w64 (y - (fA w : Nat)) + (j : Nat))
def inkRow (w : Bool) (l : Nat) (left y : Int) (c : Rc) (j : Nat) (out : List Rc) : List Rc :=
  if c.y ≤ rowY w y j ∧ rowY w y j < w64 (c.y + c.h) then out ++ runsN (fR w l j) left (rowY w y j) (fW w l) else out
def inkRows (w : Bool) (l : Nat) (left y : Int) (c : Rc) : Nat → List Rc → List Rc
  | 0, out => out
  | j + 1, out => inkRow w l left y c j (inkRows w l left y c j out)
def inkLet (w : Bool) (l : Nat) (left y : Int) (c : Rc) (out : List Rc) : List Rc :=
  if w64 (left + (fW w l : Nat)) ≤ c.x ∨ w64 (c.x + c.w) ≤ left then out else inkRows w l left y c (fH w) out
theorem inkRow_len (w : Bool) (l : Nat) (left y : Int) (c : Rc) (j : Nat) (out : List Rc) : (inkRow w l left y c j out).length ≤ out.length + 8 := by
  unfold inkRow
  have := runsN_len (fR w l j) left (rowY w y j) (fW w l)
  have := fW_le w l
  split
  · rw [List.length_append]; omega
  · omega
theorem inkRows_len (w : Bool) (l : Nat) (left y : Int) (c : Rc) : ∀ j (out : List Rc), (inkRows w l left y c j out).length ≤ out.length + 8 * j
  | 0, out => by simp [inkRows]
  | j + 1, out => by
    have h1 := inkRows_len w l left y c j out
    have h2 := inkRow_len w l left y c j (inkRows w l left y c j out)
    unfold inkRows
    omega
theorem fH_le (w : Bool) : fH w ≤ 9 := by cases w <;> decide
theorem rowsC_get (w : Bool) (l : Nat) {j : Nat} (h : j < fH w) : (rowsC w l)[j]? = some (.i .i64 (fR w l j)) := by
  simp [rowsC, h]
def iLoop : ACode := (.seq (.ops none [⟨(some 42), (.fa 1 (.t 13)), none⟩,
         ⟨(some 43), (.ld false 1 (.t 42)), none⟩,
         ⟨(some 44), (.blen false (.t 43)), none⟩,
         ⟨(some 45), (.mv (.c (.i .i64 0))), none⟩])
       (.block 2 (.loop (.seq (.ops none [⟨(some 46), (.bin .lss (.t 45) (.t 44)), none⟩])
         (.seq (.cond (.t 46)
          (.skip)
          (.exit 2))
         (.seq (.block 3 (.seq (.ops none [⟨(some 47), (.mv (.t 45)), none⟩,
            ⟨(some 48), (.ias 1 (.t 43) (.t 45)), none⟩,
            ⟨(some 49), (.ld false 1 (.t 48)), none⟩,
            ⟨(some 15), (.mv (.t 47)), none⟩,
            ⟨(some 16), (.mv (.t 49)), none⟩])
           (.seq (.ops (some [0, 0, 2, 7, 0, 31, 63]) [⟨(some 50), (.ld false 1 (.t 7)), none⟩,
             ⟨(some 51), (.ld true 1617 (.t 5)), none⟩,
             ⟨(some 52), (.call (.f 25) [(.t 51)]), none⟩,
             ⟨(some 53), (.bin .sub (.t 50) (.t 52)), none⟩,
             ⟨(some 54), (.mv (.t 15)), none⟩,
             ⟨(some 55), (.bin .add (.t 53) (.t 54)), none⟩,
             ⟨(some 17), (.mv (.t 55)), none⟩])
           (.seq (.ops none [⟨(some 56), (.mv (.t 17)), none⟩,
             ⟨(some 57), (.fa 1 (.t 9)), none⟩,
             ⟨(some 58), (.ld false 1 (.t 57)), none⟩,
             ⟨(some 59), (.bin .geq (.t 56) (.t 58)), none⟩,
             ⟨(some 60), (.mv (.t 59)), none⟩,
             ⟨(some 61), (.mv (.t 17)), (some ((some 60), true))⟩,
             ⟨(some 62), (.fa 1 (.t 9)), (some ((some 60), true))⟩,
             ⟨(some 63), (.ld false 1 (.t 62)), (some ((some 60), true))⟩,
             ⟨(some 64), (.fa 3 (.t 9)), (some ((some 60), true))⟩,
             ⟨(some 65), (.ld false 1 (.t 64)), (some ((some 60), true))⟩,
             ⟨(some 66), (.bin .add (.t 63) (.t 65)), (some ((some 60), true))⟩,
             ⟨(some 67), (.bin .lss (.t 61) (.t 66)), (some ((some 60), true))⟩,
             ⟨(some 68), (.pick (.t 60) (.t 67) (.c (.b false))), none⟩])
            (.cond (.t 68) iApp
             (.skip))))))
          (.ops none [⟨(some 77), (.bin .add (.t 45) (.c (.i .i64 1))), none⟩,
           ⟨(some 45), (.mv (.t 77)), none⟩])))))))
theorem iLoop_ok {rd : Option Nat} {Q : Exit → St → Prop} (w : Bool) (l : Nat) (c5 c7 c9 c11 c13 m13 : Nat) (left y : Int) (c : Rc) {KP : Nat → Blk → Prop} {fo : Bool} {mo : Nat} {out : List Rc} (n : Nat) (H : Heap) (h : OfH c11 KP n H false 0 [] fo mo out) (hob : out.length ≤ 1000000000000)
    (h5 : KP c5 (.row true (fontC w))) (h7 : KP c7 (.row true [.i .i64 y])) (h9 : KP c9 (.row true (rc4 c))) (h13 : KP c13 (.row true [.i .i64 (fW w l : Nat), .sl m13 0 1 (fH w) true])) (hm13 : KP m13 (.row true (rowsC w l)))
    (hQ : ∀ T' n' H' fo' mo', n ≤ n' → OfH c11 KP n' H' false 0 [] fo' mo' (inkRows w l left y c (fH w) out) → (fo' = true → mo' < n') → Q .normal ⟨T', [], n', H'⟩) :
    AWc Try.prog 82 rd iLoop ⟨[(5, .p c5 0), (7, .p c7 0), (9, .p c9 0), (11, .p c11 0), (13, .p c13 0), (14, .i .i64 left)], [], n, H⟩ Q := by
  have hfh := fH_le w
  have k13 := (h.keep _ _ h13).1
  unfold iLoop
  refine .seq (.ops (opsF_all (by simp [k13]; rfl) ?_))
  refine .block (.loop (k₀ := fH w) (s₀ := ⟨iT c5 c7 c9 c11 c13 left (.sl m13 0 1 (fH w) true) (fH w : Nat) 0, [], n, H⟩)
    (fun k st => ∃ (j n' : Nat) (H' : Heap) (fo' : Bool) (mo' : Nat), j ≤ fH w ∧ k = fH w - j ∧ n ≤ n' ∧ OfH c11 KP n' H' false 0 [] fo' mo' (inkRows w l left y c j out) ∧ st = ⟨iT c5 c7 c9 c11 c13 left (.sl m13 0 1 (fH w) true) (fH w : Nat) (j : Nat), [], n', H'⟩)
    ⟨0, n, H, fo, mo, by omega, rfl, Nat.le_refl _, h, rfl⟩ (St.less_F (by simp) (by simp [iT])) (Nat.le_refl _) (fun k st ⟨j, n', H', fo', mo', h1, h2, h3, h4, h5⟩ => by rw [h5]; exact h3) ?_)
  rintro k st ⟨j, n', H', fo', mo', h1, rfl, h3, h4, rfl⟩
  refine .withIn fun hin => ?_
  have hin : HIn n' H' := hin
  by_cases hj : j < fH w
  · have hj' : (j : Int) < (fH w : Nat) := by omega
    have hwj : IntKind.i64.wrap ((j : Int) + 1) = ((j + 1 : Nat) : Int) := IntWalk.i64_in _ (by omega)
    have g5 := (h4.keep _ _ h5).1
    have g7 := (h4.keep _ _ h7).1
    have g9 := (h4.keep _ _ h9).1
    have gm := (h4.keep _ _ hm13).1
    have n5 := (hin _ _ g5).1
    have n7 := (hin _ _ g7).1
    have hrg := rowsC_get w l hj
    have hrows : inkRows w l left y c (j + 1) out = inkRow w l left y c j (inkRows w l left y c j out) := rfl
    have hlen := inkRows_len w l left y c j out
    have hfw := fW_le w l
    generalize inkRows w l left y c j out = cur at h4 hrows hlen ⊢
    have hnext : ∀ (T' : Temps) (n2 : Nat) (H2 : Heap) (fo2 : Bool) (mo2 : Nat), n ≤ n2 → OfH c11 KP n2 H2 false 0 [] fo2 mo2 (inkRows w l left y c (j + 1) out) → ((iT c5 c7 c9 c11 c13 left (.sl m13 0 1 (fH w) true) (fH w : Nat) (j : Nat)).map fun p => aget T' p.1) = ((iT c5 c7 c9 c11 c13 left (.sl m13 0 1 (fH w) true) (fH w : Nat) (j : Nat)).map fun p => some p.2) →
        AWc Try.prog 82 rd (.ops none [⟨(some 77), (.bin .add (.t 45) (.c (.i .i64 1))), none⟩,
           ⟨(some 45), (.mv (.t 77)), none⟩]) ⟨T', [], n2, H2⟩ (fun e s => e = .normal ∧ ∃ k s'', k < fH w - j ∧ (∃ (j n' : Nat) (H' : Heap) (fo' : Bool) (mo' : Nat), j ≤ fH w ∧ k = fH w - j ∧ n ≤ n' ∧ OfH c11 KP n' H' false 0 [] fo' mo' (inkRows w l left y c j out) ∧ s'' = ⟨iT c5 c7 c9 c11 c13 left (.sl m13 0 1 (fH w) true) (fH w : Nat) (j : Nat), [], n', H'⟩) ∧ St.less s'' s) := by
      intro T' n2 H2 fo2 mo2 hn2 hO hT
      refine AWc.forget hT (.ops (opsF_all (by simp only [iT]; simp [hwj]; rfl) ?_))
      exact ⟨rfl, fH w - (j + 1), ⟨iT c5 c7 c9 c11 c13 left (.sl m13 0 1 (fH w) true) (fH w : Nat) ((j + 1 : Nat) : Int), [], n2, H2⟩, by omega, ⟨j + 1, n2, H2, fo2, mo2, by omega, rfl, hn2, hO, rfl⟩, St.less_F (by simp) (by simp [iT])⟩
    refine .seq (.ops (opsF_all (by simp only [iT]; simp [hj']; rfl) ?_))
    refine .seq (.cond (t := true) (by simp [hj']) (.skip ?_))
    refine .seq (.block (.seq (.ops (opsF_run 2 (by simp [hj']; rfl) ?_))))
    refine opsF_all (by simp [gm, hrg]; rfl) ?_
    refine AWc.forget (T0 := (15, .i .i64 (j : Nat)) :: (16, .i .i64 (fR w l j : Nat)) :: iT c5 c7 c9 c11 c13 left (.sl m13 0 1 (fH w) true) (fH w : Nat) (j : Nat)) (by simp [iT]) ?_
    refine .seq (.drawP (by rfl) ?_)
    refine drawP_run 2 (by rfl) (by simp [iT, g5, g7, n5, n7]; rfl) ?_
    refine drawP_call [] rfl rfl rfl (v := .i .i64 (fA w : Nat)) (by simpa using ascent_pure w n' []) (by simp) (.i _ _) ?_
    refine drawP_all (by rfl) (by simp; rfl) ?_
    have hry : IntKind.i64.wrap (IntKind.i64.wrap (y - (fA w : Nat)) + (j : Nat)) = rowY w y j := rfl
    rw [hry]
    refine AWc.forget (T0 := (16, .i .i64 (fR w l j : Nat)) :: (17, .i .i64 (rowY w y j)) :: iT c5 c7 c9 c11 c13 left (.sl m13 0 1 (fH w) true) (fH w : Nat) (j : Nat)) (by simp [iT]) ?_
    unfold inkRow at hrows
    generalize rowY w y j = py at hrows ⊢
    by_cases b1 : c.y ≤ py
    · by_cases b2 : py < IntKind.i64.wrap (c.y + c.h)
      · rw [if_pos ⟨b1, b2⟩] at hrows
        refine .seq (.ops (opsF_run 5 (by simp [iT, g9, rc4, b1]; rfl) ?_))
        refine opsF_run 5 (by simp [g9, rc4]; rfl) ?_
        refine opsF_all (by simp [b2]; rfl) ?_
        refine .cond (t := true) (by simp) ?_
        refine AWc.forget (T0 := (16, .i .i64 (fR w l j : Nat)) :: (17, .i .i64 py) :: iT c5 c7 c9 c11 c13 left (.sl m13 0 1 (fH w) true) (fH w : Nat) (j : Nat)) (by simp [iT]) ?_
        refine iApp_ok c5 c7 c9 c11 c13 left _ _ _ (fR w l j : Nat) py (fW w l) (by omega) _ n' H' h4 h13 (by omega) fun T' n2 H2 fo2 mo2 hn2 hO hmo hT _ => ?_
        exact (hnext T' n2 H2 fo2 mo2 (by omega) (by rw [hrows]; exact hO) hT).conseq fun e s hs => by
          obtain ⟨rfl, j, s'', q1, q2, q3⟩ := hs
          exact ⟨j, s'', q1, q2, q3⟩
      · rw [if_neg (fun hh => b2 hh.2)] at hrows
        refine .seq (.ops (opsF_run 5 (by simp [iT, g9, rc4, b1]; rfl) ?_))
        refine opsF_run 5 (by simp [g9, rc4]; rfl) ?_
        refine opsF_all (by simp [b2]; rfl) ?_
        refine .cond (t := false) (by simp) (.skip ?_)
        exact (hnext _ n' H' fo' mo' h3 (by rw [hrows]; exact h4) (by simp [iT])).conseq fun e s hs => by
          obtain ⟨rfl, j, s'', q1, q2, q3⟩ := hs
          exact ⟨j, s'', q1, q2, q3⟩
    · rw [if_neg (fun hh => b1 hh.1)] at hrows
      refine .seq (.ops (opsF_run 5 (by simp [iT, g9, rc4, b1]; rfl) ?_))
      refine opsF_run 5 (by simp; rfl) ?_
      refine opsF_all (by simp; rfl) ?_
      refine .cond (t := false) (by simp) (.skip ?_)
      exact (hnext _ n' H' fo' mo' h3 (by rw [hrows]; exact h4) (by simp [iT])).conseq fun e s hs => by
        obtain ⟨rfl, j, s'', q1, q2, q3⟩ := hs
        exact ⟨j, s'', q1, q2, q3⟩
  · obtain rfl : j = fH w := by omega
    refine .seq (.ops (opsF_all (by simp only [iT]; simp; rfl) ?_))
    refine .seq (.cond (t := false) (by simp) (.exit ?_))
    exact hQ _ n' H' fo' mo' h3 h4 (fun hf => h4.mo_lt hin hf)
end Go.Proofs.Ytpgelghkjiejlaa
end
section
set_option maxRecDepth 4000
namespace Go.Proofs.Ytpgelghkjiejlaa
open Go
attribute [local irreducible] opsF drawF drawP fontC shV
def iAs : ACode := (.seq (.ops none [⟨(some 12), (.mv (.t 21)), none⟩])
      (.ops none [⟨(some 13), (.new [(.i .i64 0), .nils]), none⟩,
       ⟨none, (.st 2 (.t 13) (.t 22)), none⟩]))
def iBo : ACode := (.block 1 (.seq (.ops none [⟨(some 23), (.ld false 1 (.t 6)), none⟩,
        ⟨(some 24), (.mv (.t 12)), none⟩,
        ⟨(some 25), (.bin .add (.t 23) (.t 24)), none⟩,
        ⟨(some 14), (.mv (.t 25)), none⟩])
      (.seq (.seq (.ops none [⟨(some 26), (.mv (.t 14)), none⟩,
         ⟨(some 27), (.fa 0 (.t 13)), none⟩,
         ⟨(some 28), (.ld false 1 (.t 27)), none⟩,
         ⟨(some 29), (.bin .add (.t 26) (.t 28)), none⟩,
         ⟨(some 30), (.fa 0 (.t 9)), none⟩,
         ⟨(some 31), (.ld false 1 (.t 30)), none⟩,
         ⟨(some 32), (.bin .leq (.t 29) (.t 31)), none⟩,
         ⟨(some 33), (.mv (.t 32)), none⟩,
         ⟨(some 34), (.mv (.t 14)), (some ((some 33), false))⟩,
         ⟨(some 35), (.fa 0 (.t 9)), (some ((some 33), false))⟩,
         ⟨(some 36), (.ld false 1 (.t 35)), (some ((some 33), false))⟩,
         ⟨(some 37), (.fa 2 (.t 9)), (some ((some 33), false))⟩,
         ⟨(some 38), (.ld false 1 (.t 37)), (some ((some 33), false))⟩,
         ⟨(some 39), (.bin .add (.t 36) (.t 38)), (some ((some 33), false))⟩,
         ⟨(some 40), (.bin .geq (.t 34) (.t 39)), (some ((some 33), false))⟩,
         ⟨(some 41), (.pick (.t 33) (.c (.b true)) (.t 40)), none⟩])
       (.cond (.t 41)
        (.exit 1)
        (.skip)))
       iLoop)))
def iG (c5 c6 c7 c9 c10 c11 q q4 : Nat) : Temps := [(5, .p c5 0), (6, .p c6 0), (7, .p c7 0), (9, .p c9 0), (10, .p c10 0), (11, .p c11 0), (20, .fn 42 [] [.p q 0, .p q4 0])]
theorem ink_yield (w : Bool) (L : Nat) (r0 : ALoop) (c5 c6 c7 c9 c10 c11 q q4 mk : Nat) (hr0 : r0 = ⟨.ready, none, 82, iG c5 c6 c7 c9 c10 c11 q q4, [21, 22], iAs, iBo, mk⟩) (KP : Nat → Blk → Prop) (hKL : ∀ k, ¬ KP L k)
    (x y : Int) (c : Rc) (h5 : KP c5 (.row true (fontC w))) (h6 : KP c6 (.row true [.i .i64 x])) (h7 : KP c7 (.row true [.i .i64 y])) (h9 : KP c9 (.row true (rc4 c))) (l p : Nat) (out : List Rc) (n : Nat) (H : Heap) (hob : out.length ≤ 1000000000000)
    (h : InvG c11 L r0 KP n H false 0 [] out) :
    YCalls Try.prog L [.i .i64 p, .ag [.i .i64 (fW w l : Nat), .sl n 0 1 (fH w) true]] (n + 2) ((n + 1, .row true [.i .i64 (fW w l : Nat), .sl n 0 1 (fH w) true]) :: (n, .row true (rowsC w l)) :: H) fun v n' H' => v = .b true ∧ n ≤ n' ∧ InvG c11 L r0 KP n' H' false 0 [] (inkLet w l (w64 (x + p)) y c out) ∧ aget H' (n + 1) = some (.row true [.i .i64 (fW w l : Nat), .sl n 0 1 (fH w) true]) := by
  obtain ⟨fo, mo, h, hL0, hLc, _, hLo, hcn, hLn, _, hon, hkn⟩ := h
  have e0 : ¬ n = L := by omega
  have e1 : ¬ n + 1 = L := by omega
  have e2 : ¬ n + 2 = L := by omega
  refine ⟨r0, by rw [aget_cons, if_neg e1, aget_cons, if_neg e0]; exact hL0, by rw [hr0]; rfl, by rw [hr0]; simp, ?_⟩
  have hT : r0.T = iG c5 c6 c7 c9 c10 c11 q q4 := by rw [hr0]
  have hPs : r0.params = [21, 22] := by rw [hr0]
  have hAs : r0.assign = iAs := by rw [hr0]
  have hBo : r0.body = iBo := by rw [hr0]
  have hN : r0.N = 82 := by rw [hr0]
  have hst : r0.st = .ready := by rw [hr0]
  rw [hT, hPs, hAs, hN]
  unfold iAs
  refine AWc.seq (.ops (opsF_all (by simp [iG, putAll]; rfl) ?_))
  refine AWc.ops (opsF_all (by simp [setAll]; rfl) ?_)
  refine ⟨rfl, rfl, r0, by simp [e0, e1, e2, hL0], hst, ?_⟩
  refine AWc.forget (T0 := [(5, .p c5 0), (6, .p c6 0), (7, .p c7 0), (9, .p c9 0), (11, .p c11 0), (12, .i .i64 p), (13, .p (n + 2) 0)]) (by simp) ?_
  have hagL : ∀ (k : Blk) (G : Heap) b, b ≠ L → aget (aput G L k) b = aget G b := fun k G b hb => by rw [aget_put, if_neg (fun e => hb e.symm)]
  obtain ⟨H3, hH3⟩ : ∃ H3, H3 = aput ((n + 2, Blk.row true [.i .i64 (fW w l : Nat), .sl n 0 1 (fH w) true]) :: (n + 1, Blk.row true [.i .i64 (fW w l : Nat), .sl n 0 1 (fH w) true]) :: (n, Blk.row true (rowsC w l)) :: H) L (.loop { r0 with st := .busy }) := ⟨_, rfl⟩
  have g0 : aget H3 n = some (.row true (rowsC w l)) := by rw [hH3, hagL _ _ _ e0]; simp
  have g1 : aget H3 (n + 1) = some (.row true [.i .i64 (fW w l : Nat), .sl n 0 1 (fH w) true]) := by rw [hH3, hagL _ _ _ e1]; simp
  have g2 : aget H3 (n + 2) = some (.row true [.i .i64 (fW w l : Nat), .sl n 0 1 (fH w) true]) := by rw [hH3, hagL _ _ _ e2]; simp
  have gL : aget H3 L = some (.loop { r0 with st := .busy }) := by rw [hH3, aget_put, if_pos rfl]
  have gk : ∀ b k, b < n → b ≠ L → aget H b = some k → aget H3 b = some k := fun b k hb hb2 hb3 => by
    rw [hH3, hagL _ _ _ hb2, aget_cons, if_neg (by omega), aget_cons, if_neg (by omega), aget_cons, if_neg (by omega)]; exact hb3
  have hKne : ∀ b k, KP b k → b ≠ L := fun b k hk e => hKL k (e ▸ hk)
  obtain ⟨KP3, hKP3⟩ : ∃ KP3 : Nat → Blk → Prop, KP3 = fun b k => KP b k ∨ (b = L ∧ k = .loop { r0 with st := .busy }) ∨ (b = n ∧ k = .row true (rowsC w l)) ∨ (b = n + 1 ∧ k = .row true [.i .i64 (fW w l : Nat), .sl n 0 1 (fH w) true]) ∨ (b = n + 2 ∧ k = .row true [.i .i64 (fW w l : Nat), .sl n 0 1 (fH w) true]) := ⟨_, rfl⟩
  have h3 : OfH c11 KP3 (n + 3) H3 false 0 [] fo mo out := {
    cell := gk _ _ hcn (fun e => hLc e.symm) h.cell
    keep := fun b k hk => by
      rw [hKP3] at hk
      rcases hk with hk | ⟨rfl, rfl⟩ | ⟨rfl, rfl⟩ | ⟨rfl, rfl⟩ | ⟨rfl, rfl⟩
      · obtain ⟨q1, q2, q3, q4⟩ := h.keep b k hk
        exact ⟨gk _ _ (hkn b k hk) (hKne b k hk) q1, q2, by simp, q4⟩
      · exact ⟨gL, hLc, by simp, hLo⟩
      · exact ⟨g0, by omega, by simp, fun hf => by have := hon hf; omega⟩
      · exact ⟨g1, by omega, by simp, fun hf => by have := hon hf; omega⟩
      · exact ⟨g2, by omega, by simp, fun hf => by have := hon hf; omega⟩
    frn := by simp
    fon := h.fon
    fot := h.fot
    rowb := by simp
    outb := fun hf => let ⟨q1, p, q2, q3⟩ := h.outb hf; ⟨q1, p, q2, gk _ _ (hon hf) (fun e => hLo hf e.symm) q3⟩
    ne := by simp }
  have hfinal : ∀ (n2 : Nat) (H2 : Heap) (fo2 : Bool) (mo2 : Nat) (out2 : List Rc), n + 3 ≤ n2 → OfH c11 KP3 n2 H2 false 0 [] fo2 mo2 out2 → (fo2 = true → mo2 < n2) → n ≤ n2 ∧ InvG c11 L r0 KP n2 (aput H2 L (.loop { { r0 with st := .busy } with st := .ready, pend := none })) false 0 [] out2 ∧ aget (aput H2 L (.loop { { r0 with st := .busy } with st := .ready, pend := none })) (n + 1) = some (.row true [.i .i64 (fW w l : Nat), .sl n 0 1 (fH w) true]) := by
    intro n2 H2 fo2 mo2 out2 hn2 hO hmo2
    have hkL := hO.keep L _ (by rw [hKP3]; exact .inr (.inl ⟨rfl, rfl⟩))
    have hO2 : OfH c11 KP n2 H2 false 0 [] fo2 mo2 out2 := hO.kp fun b k hk => .inl (by rw [hKP3]; exact .inl hk)
    refine ⟨by omega, ⟨fo2, mo2, hO2.chg (b0 := L) (fun b k hb hb' => by rw [hagL _ _ _ hb]; exact hb') hLc (by simp) hkL.2.2.2 hKL, ?_, hLc, by simp, hkL.2.2.2, by omega, by omega, by simp, hmo2, fun b k hk => by have := hkn b k hk; omega⟩, ?_⟩
    · rw [aget_put, if_pos rfl, hr0]
    · rw [hagL _ _ _ e1]; exact (hO.keep (n + 1) _ (by rw [hKP3]; exact .inr (.inr (.inr (.inl ⟨rfl, rfl⟩))))).1
  have hgo : AWc Try.prog 82 (some L) iBo ⟨[(5, .p c5 0), (6, .p c6 0), (7, .p c7 0), (9, .p c9 0), (11, .p c11 0), (12, .i .i64 p), (13, .p (n + 2) 0)], [], n + 3, H3⟩ (fun e2 s2 => ∃ r2, aget s2.H L = some (.loop r2) ∧
        match e2 with
        | .normal => (V.b true = .b true ∧ n ≤ s2.n ∧ InvG c11 L r0 KP s2.n (aput s2.H L (.loop { r2 with st := .ready, pend := none })) false 0 [] (inkLet w l (w64 (x + p)) y c out) ∧ aget (aput s2.H L (.loop { r2 with st := .ready, pend := none })) (n + 1) = some (.row true [.i .i64 (fW w l : Nat), .sl n 0 1 (fH w) true]))
        | _ => False) := by
    have k5 : KP3 c5 (.row true (fontC w)) := by rw [hKP3]; exact .inl h5
    have k6 : KP3 c6 (.row true [.i .i64 x]) := by rw [hKP3]; exact .inl h6
    have k7 : KP3 c7 (.row true [.i .i64 y]) := by rw [hKP3]; exact .inl h7
    have k9 : KP3 c9 (.row true (rc4 c)) := by rw [hKP3]; exact .inl h9
    have k13 : KP3 (n + 2) (.row true [.i .i64 (fW w l : Nat), .sl n 0 1 (fH w) true]) := by rw [hKP3]; exact .inr (.inr (.inr (.inr ⟨rfl, rfl⟩)))
    have km : KP3 n (.row true (rowsC w l)) := by rw [hKP3]; exact .inr (.inr (.inl ⟨rfl, rfl⟩))
    have q6 := (h3.keep _ _ k6).1
    have q9 := (h3.keep _ _ k9).1
    have q13 := (h3.keep _ _ k13).1
    have hinL : inkLet w l (w64 (x + p)) y c out = if w64 (w64 (x + p) + (fW w l : Nat)) ≤ c.x ∨ w64 (c.x + c.w) ≤ w64 (x + p) then out else inkRows w l (w64 (x + p)) y c (fH w) out := rfl
    unfold iBo
    refine .block (.seq (.ops (opsF_all (by simp [q6]; rfl) ?_)))
    have hleft : IntKind.i64.wrap (x + (p : Int)) = w64 (x + p) := rfl
    rw [hleft]
    refine AWc.forget (T0 := [(5, .p c5 0), (7, .p c7 0), (9, .p c9 0), (11, .p c11 0), (13, .p (n + 2) 0), (14, .i .i64 (w64 (x + p)))]) (by simp) ?_
    generalize w64 (x + p) = left at hinL ⊢
    have hskip : inkLet w l left y c out = out → ∀ T : Temps, (∃ r2, aget H3 L = some (.loop r2) ∧ (V.b true = .b true ∧ n ≤ n + 3 ∧ InvG c11 L r0 KP (n + 3) (aput H3 L (.loop { r2 with st := .ready, pend := none })) false 0 [] (inkLet w l left y c out) ∧ aget (aput H3 L (.loop { r2 with st := .ready, pend := none })) (n + 1) = some (.row true [.i .i64 (fW w l : Nat), .sl n 0 1 (fH w) true]))) := by
      intro he T
      rw [he]
      obtain ⟨a1, a2, a3⟩ := hfinal (n + 3) H3 fo mo out (Nat.le_refl _) h3 (fun hf => by have := hon hf; omega)
      exact ⟨_, gL, rfl, a1, a2, a3⟩
    by_cases b1 : IntKind.i64.wrap (left + (fW w l : Nat)) ≤ c.x
    · rw [if_pos (.inl b1)] at hinL
      refine .seq (.seq (.ops (opsF_run 4 (by simp [q13]; rfl) ?_)))
      refine opsF_run 4 (by simp [q9, rc4, b1]; rfl) ?_
      refine opsF_run 4 (by simp; rfl) ?_
      refine opsF_all (by simp; rfl) ?_
      refine .cond (t := true) (by simp) (.exit ?_)
      exact hskip hinL []
    · by_cases b2 : IntKind.i64.wrap (c.x + c.w) ≤ left
      · rw [if_pos (.inr b2)] at hinL
        refine .seq (.seq (.ops (opsF_run 4 (by simp [q13]; rfl) ?_)))
        refine opsF_run 4 (by simp [q9, rc4, b1]; rfl) ?_
        refine opsF_run 3 (by simp [q9, rc4]; rfl) ?_
        refine opsF_run 3 (by simp [q9, rc4]; rfl) ?_
        refine opsF_all (by simp [b2]; rfl) ?_
        refine .cond (t := true) (by simp) (.exit ?_)
        exact hskip hinL []
      · rw [if_neg (fun hh => hh.elim b1 b2)] at hinL
        refine .seq (.seq (.ops (opsF_run 4 (by simp [q13]; rfl) ?_)))
        refine opsF_run 4 (by simp [q9, rc4, b1]; rfl) ?_
        refine opsF_run 3 (by simp [q9, rc4]; rfl) ?_
        refine opsF_run 3 (by simp [q9, rc4]; rfl) ?_
        refine opsF_all (by simp [b2]; rfl) ?_
        refine .cond (t := false) (by simp) (.skip ?_)
        refine AWc.forget (T0 := [(5, .p c5 0), (7, .p c7 0), (9, .p c9 0), (11, .p c11 0), (13, .p (n + 2) 0), (14, .i .i64 left)]) (by simp) ?_
        refine iLoop_ok w l c5 c7 c9 c11 (n + 2) n left y c (n + 3) H3 h3 hob k5 k7 k9 k13 km fun T' n2 H2 fo2 mo2 hn2 hO hmo2 => ?_
        rw [hinL]
        obtain ⟨a1, a2, a3⟩ := hfinal n2 H2 fo2 mo2 _ hn2 hO hmo2
        exact ⟨_, (hO.keep L _ (by rw [hKP3]; exact .inr (.inl ⟨rfl, rfl⟩))).1, rfl, a1, a2, a3⟩
  have hgo2 := hgo
  rw [← hBo, hH3] at hgo2
  refine hgo2.conseq fun e s hs => ?_
  obtain ⟨r2, g1, g2⟩ := hs
  refine ⟨r2, g1, ?_⟩
  cases e <;> first | exact g2 | exact g2.elim
end Go.Proofs.Ytpgelghkjiejlaa
end
