/- The library's contracts at this program: Sort, Compact and SortFunc of package slices. Written by the kit's tools lay-shelf and lay-plain. The library's Sort, Compact and SortFunc as contracts over abstract heaps. SortFunc of package slices at rectangles, as a contract over abstract heaps; what it sorts by. The rows at which rectangles begin or end: edges of package band. Regions that draw: what their slots are is told by the code; what is left to show is the heap's part. spans of package band: the stretches of a row, handed to a loop's body. Of of package band: what is known of the heap in its rounds; the first pieces of a round. -/
import Derived.Shelf.SlGeneric
import Derived.Shelf.Small.Bits
import Derived.Shelf.Sort.Plain
import Derived.Ground.Names2Prog
import Derived.Ground.SlsfProg
import Derived.Shelf.Slices.CompactI
import Derived.Shelf.Slices.In.SortNone
import Derived.Shelf.SlSortCmp.WholeK
import Derived.Shelf.SlSortCmp.NoneTotal
import Derived.Test.YtpgelghkjiejlaaGam
import Derived.Test.YtpgelghkjiejlaaProg
import Derived.Lib.RowBridge
import Derived.Test.YtpgelghkjiejlaaGaj
set_option linter.unusedVariables false
set_option linter.unusedSimpArgs false
section
namespace Go.Proofs.Ytpgelghkjiejlaa
open Go Go.Shelf
def Try.lays189_ren : Go.Shelf.Ren := ⟨fun | 189 => 66 | 125 => 64 | 257 => 88 | 128 => 86 | 129 => 87 | 294 => 95 | 295 => 96 | 296 => 97 | 297 => 98 | 298 => 99 | 299 => 100 | 216 => 101 | 300 => 102 | 301 => 103 | 328 => 105 | 329 => 91 | 330 => 92 | 331 => 106 | 332 => 107 | 215 => 65 | 343 => 108 | n => n, fun | 28 => 30 | 3 => 3 | 46 => 95 | 0 => 0 | 51 => 119 | 53 => 121 | 4 => 4 | 183 => 112 | 182 => 111 | 131 => 116 | 5 => 5 | 9 => 9 | 218 => 126 | 222 => 130 | 228 => 137 | 229 => 124 | n => n, fun | n => n⟩
theorem Try.lays189 : Go.Proofs.Lays.n189 Try.prog Try.lays189_ren := {
  mixed := by kernel_rfl
  f125 := Try.func64.trans (congrArg some (by kernel_rfl))
  f128 := Try.func86.trans (congrArg some (by kernel_rfl))
  f129 := Try.func87.trans (congrArg some (by kernel_rfl))
  f189 := Try.func66.trans (congrArg some (by kernel_rfl))
  f215 := Try.func65.trans (congrArg some (by kernel_rfl))
  f216 := Try.func101.trans (congrArg some (by kernel_rfl))
  f257 := Try.func88.trans (congrArg some (by kernel_rfl))
  f294 := Try.func95.trans (congrArg some (by kernel_rfl))
  f295 := Try.func96.trans (congrArg some (by kernel_rfl))
  f296 := Try.func97.trans (congrArg some (by kernel_rfl))
  f297 := Try.func98.trans (congrArg some (by kernel_rfl))
  f298 := Try.func99.trans (congrArg some (by kernel_rfl))
  f299 := Try.func100.trans (congrArg some (by kernel_rfl))
  f300 := Try.func102.trans (congrArg some (by kernel_rfl))
  f301 := Try.func103.trans (congrArg some (by kernel_rfl))
  f328 := Try.func105.trans (congrArg some (by kernel_rfl))
  f329 := Try.func91.trans (congrArg some (by kernel_rfl))
  f330 := Try.func92.trans (congrArg some (by kernel_rfl))
  f331 := Try.func106.trans (congrArg some (by kernel_rfl))
  f332 := Try.func107.trans (congrArg some (by kernel_rfl))
  f343 := Try.func108.trans (congrArg some (by kernel_rfl))
  t0 := Try.underlying0
  a0 := Try.isAgg0
  z0 := Try.sizeOf0
  v0 := Try.zeroValue0
  t3 := Try.underlying3
  a3 := Try.isAgg3
  z3 := Try.sizeOf3
  v3 := Try.zeroValue3
  t4 := Try.underlying4
  a4 := Try.isAgg4
  z4 := Try.sizeOf4
  v4 := Try.zeroValue4
  t5 := Try.underlying5
  a5 := Try.isAgg5
  z5 := Try.sizeOf5
  v5 := Try.zeroValue5
  t9 := Try.underlying9
  a9 := Try.isAgg9
  z9 := Try.sizeOf9
  v9 := Try.zeroValue9
  t28 := Try.underlying30
  a28 := Try.isAgg30
  z28 := Try.sizeOf30
  v28 := Try.zeroValue30
  t46 := Try.underlying95
  a46 := Try.isAgg95
  z46 := Try.sizeOf95
  v46 := Try.zeroValue95
  t51 := Try.underlying119
  a51 := Try.isAgg119
  z51 := Try.sizeOf119
  v51 := Try.zeroValue119
  t53 := Try.underlying121
  a53 := Try.isAgg121
  z53 := Try.sizeOf121
  v53 := Try.zeroValue121
  t131 := Try.underlying116
  a131 := Try.isAgg116
  z131 := Try.sizeOf116
  v131 := Try.zeroValue116
  t182 := Try.underlying111
  a182 := Try.isAgg111
  z182 := Try.sizeOf111
  v182 := Try.zeroValue111
  t183 := Try.underlying112
  a183 := Try.isAgg112
  z183 := Try.sizeOf112
  v183 := Try.zeroValue112
  t218 := Try.underlying126
  a218 := Try.isAgg126
  z218 := Try.sizeOf126
  v218 := Try.zeroValue126
  t222 := Try.underlying130
  a222 := Try.isAgg130
  z222 := Try.sizeOf130
  v222 := Try.zeroValue130
  t228 := Try.underlying137
  a228 := Try.isAgg137
  z228 := Try.sizeOf137
  v228 := Try.zeroValue137
  t229 := Try.underlying124
  a229 := Try.isAgg124
  z229 := Try.sizeOf124
  v229 := Try.zeroValue124 }
open Go.Sort Go.RowKit in
theorem Try.slices_Sort_int (blk off cap : Nat) (zs : List Int) (w : World) (hH : Holds (Value.int .i64) w blk off zs.toArray) (hblk : blk < w.heap.size) (hsz : zs.length < 4611686018427387904) :
    Calls Try.prog 66 #[.slice (some ⟨blk, off, none⟩) zs.length cap] w fun e w' =>
      e = .returned (.tuple #[]) ∧ ∃ n os, w' = grow (putRow (Value.int .i64) (Sort.ahead w n) blk off (zs.mergeSort fun x y => decide (x ≤ y)).toArray) os := Any.slices_Sort_int Try.lays189 blk off cap zs w hH hblk hsz
def Try.laysNm220_ren : Go.Shelf.Ren := ⟨fun | 20 => 67 | n => n, fun | 22 => 30 | 3 => 3 | 4 => 4 | 0 => 0 | n => n, fun | n => n⟩
theorem Try.laysNm220 : Go.Proofs.Lays2.n20 Try.prog Try.laysNm220_ren := {
  mixed := by kernel_rfl
  f20 := Try.func67.trans (congrArg some (by kernel_rfl))
  t0 := Try.underlying0
  a0 := Try.isAgg0
  z0 := Try.sizeOf0
  v0 := Try.zeroValue0
  t3 := Try.underlying3
  a3 := Try.isAgg3
  z3 := Try.sizeOf3
  v3 := Try.zeroValue3
  t4 := Try.underlying4
  a4 := Try.isAgg4
  z4 := Try.sizeOf4
  v4 := Try.zeroValue4
  t22 := Try.underlying30
  a22 := Try.isAgg30
  z22 := Try.sizeOf30
  v22 := Try.zeroValue30
  i3 := by kernel_rfl }
open Go.RowKit Go.Lib Go.Sort in
/-- slices.Compact at []int: "Compact replaces consecutive runs of equal elements with a single copy. This is like the uniq command found on Unix. Compact modifies the contents of the slice s and returns the modified slice, which may have a smaller length. Compact zeroes the elements between the new length and the original length. The result preserves the nilness of s.": IT RETURNS THE SLICE CUT TO 'Lib.compact zs'; ITS CELLS HOLD 'Lib.compact zs', THEN ZERO VALUES up to the old length; all else is as it was, but for the count of draws. IN THE WORDS OF slices.Sort's CONTRACT ('Holds', 'putRow'): so the everyday 'slices.Sort(xs); xs = slices.Compact(xs)' goes from the one contract to the other. It asks 'zs.length ≤ cap' (every slice's: the reslicing 's[:k]' looks at it). Length 0, nil: '.._empty'. (LAID: no walk: one application.) -/
theorem Try.slices_Compact_int (blk off cap : Nat) (zs : List Int) (w : World) (hH : Holds (Value.int .i64) w blk off zs.toArray) (hsz : zs.length ≤ 9223372036854775807) (hcap : zs.length ≤ cap) :
    Calls Try.prog 67 #[.slice (some ⟨blk, off, none⟩) zs.length cap] w fun e w' => e = .returned (.slice (some ⟨blk, off, none⟩) (Lib.compact zs).length cap) ∧ ∃ q, w' = putRow (Value.int .i64) (Sort.ahead w q) blk off (Lib.compact zs ++ List.replicate (zs.length - (Lib.compact zs).length) 0).toArray := Any.slices_Compact_int Try.laysNm220 blk off cap zs w hH hsz hcap
open Go.RowKit Go.Lib Go.Sort in
/-- The same at a slice of length 0, a nil one too: it comes back as it is. (LAID: no walk: one application.) -/
theorem Try.slices_Compact_int_empty (a : Option Addr) (cap : Nat) (w : World) :
    Calls Try.prog 67 #[.slice a 0 cap] w fun e w' => e = .returned (.slice a 0 cap) ∧ w' = w := Any.slices_Compact_int_empty Try.laysNm220 a cap w
open Go.RowKit Go.Sort in
/-- .. and plain. (LAID: no walk: one application.) -/
theorem Try.slices_Sort_int_none (p : Option Addr) (cap : Nat) (w : World) :
    Calls Try.prog 66 #[.slice p 0 cap] w fun e w' => e = .returned (.tuple #[]) ∧ w' = w := Any.slices_Sort_int_none Try.lays189 p cap w
def Try.sortRc_ren : Go.Shelf.Ren := ⟨fun | 6 => 49 | 15 => 64 | 14 => 63 | 28 => 86 | 29 => 87 | 20 => 78 | 21 => 79 | 22 => 80 | 23 => 81 | 24 => 82 | 25 => 83 | 26 => 84 | 27 => 85 | 46 => 90 | 47 => 91 | 48 => 92 | 49 => 93 | 50 => 94 | 57 => 104 | n => n, fun | 22 => 45 | 24 => 43 | 25 => 80 | 3 => 3 | 39 => 95 | 0 => 0 | 53 => 119 | 55 => 121 | 4 => 4 | 46 => 112 | 45 => 111 | 50 => 116 | 5 => 5 | 9 => 9 | 66 => 126 | 70 => 130 | 76 => 137 | 77 => 124 | n => n, fun | n => n⟩
theorem Try.sortRc : Go.Proofs.SlLaysF0.n6 Try.prog Try.sortRc_ren := {
  mixed := by kernel_rfl
  f6 := ⟨Try.f49.name, by decide, Try.func49.trans (congrArg some (by kernel_rfl))⟩
  f14 := ⟨Try.f63.name, by decide, Try.func63.trans (congrArg some (by kernel_rfl))⟩
  f15 := Try.func64.trans (congrArg some (by kernel_rfl))
  f20 := ⟨Try.f78.name, by decide, Try.func78.trans (congrArg some (by kernel_rfl))⟩
  f21 := ⟨Try.f79.name, by decide, Try.func79.trans (congrArg some (by kernel_rfl))⟩
  f22 := ⟨Try.f80.name, by decide, Try.func80.trans (congrArg some (by kernel_rfl))⟩
  f23 := ⟨Try.f81.name, by decide, Try.func81.trans (congrArg some (by kernel_rfl))⟩
  f24 := ⟨Try.f82.name, by decide, Try.func82.trans (congrArg some (by kernel_rfl))⟩
  f25 := ⟨Try.f83.name, by decide, Try.func83.trans (congrArg some (by kernel_rfl))⟩
  f26 := ⟨Try.f84.name, by decide, Try.func84.trans (congrArg some (by kernel_rfl))⟩
  f27 := ⟨Try.f85.name, by decide, Try.func85.trans (congrArg some (by kernel_rfl))⟩
  f28 := Try.func86.trans (congrArg some (by kernel_rfl))
  f29 := Try.func87.trans (congrArg some (by kernel_rfl))
  f46 := ⟨Try.f90.name, by decide, Try.func90.trans (congrArg some (by kernel_rfl))⟩
  f47 := Try.func91.trans (congrArg some (by kernel_rfl))
  f48 := Try.func92.trans (congrArg some (by kernel_rfl))
  f49 := ⟨Try.f93.name, by decide, Try.func93.trans (congrArg some (by kernel_rfl))⟩
  f50 := ⟨Try.f94.name, by decide, Try.func94.trans (congrArg some (by kernel_rfl))⟩
  f57 := ⟨Try.f104.name, by decide, Try.func104.trans (congrArg some (by kernel_rfl))⟩
  t0 := Try.underlying0
  a0 := Try.isAgg0
  z0 := Try.sizeOf0
  v0 := Try.zeroValue0
  t3 := Try.underlying3
  a3 := Try.isAgg3
  z3 := Try.sizeOf3
  v3 := Try.zeroValue3
  t4 := Try.underlying4
  a4 := Try.isAgg4
  z4 := Try.sizeOf4
  v4 := Try.zeroValue4
  t5 := Try.underlying5
  a5 := Try.isAgg5
  z5 := Try.sizeOf5
  v5 := Try.zeroValue5
  t9 := Try.underlying9
  a9 := Try.isAgg9
  z9 := Try.sizeOf9
  v9 := Try.zeroValue9
  t22 := Try.underlying45
  a22 := Try.isAgg45
  z22 := Try.sizeOf45
  v22 := Try.zeroValue45
  t25 := Try.underlying80
  a25 := Try.isAgg80
  z25 := Try.sizeOf80
  v25 := Try.zeroValue80
  t39 := Try.underlying95
  a39 := Try.isAgg95
  z39 := Try.sizeOf95
  v39 := Try.zeroValue95
  t45 := Try.underlying111
  a45 := Try.isAgg111
  z45 := Try.sizeOf111
  v45 := Try.zeroValue111
  t46 := Try.underlying112
  a46 := Try.isAgg112
  z46 := Try.sizeOf112
  v46 := Try.zeroValue112
  t50 := Try.underlying116
  a50 := Try.isAgg116
  z50 := Try.sizeOf116
  v50 := Try.zeroValue116
  t53 := Try.underlying119
  a53 := Try.isAgg119
  z53 := Try.sizeOf119
  v53 := Try.zeroValue119
  t55 := Try.underlying121
  a55 := Try.isAgg121
  z55 := Try.sizeOf121
  v55 := Try.zeroValue121
  t66 := Try.underlying126
  a66 := Try.isAgg126
  z66 := Try.sizeOf126
  v66 := Try.zeroValue126
  t70 := Try.underlying130
  a70 := Try.isAgg130
  z70 := Try.sizeOf130
  v70 := Try.zeroValue130
  t76 := Try.underlying137
  a76 := Try.isAgg137
  z76 := Try.sizeOf137
  v76 := Try.zeroValue137
  t77 := Try.underlying124
  a77 := Try.isAgg124
  z77 := Try.sizeOf124
  v77 := Try.zeroValue124 }
end Go.Proofs.Ytpgelghkjiejlaa
end
section
set_option maxRecDepth 4000
namespace Go.Proofs.Ytpgelghkjiejlaa
open Go Go.Shelf Go.RowKit Go.Lib Go.Sort
section bridge
variable {pc : PrepC} {ρ : Go.Proofs.Ytpgelghkjiejlaa.Ren} {n : Nat} {H : Go.Proofs.Ytpgelghkjiejlaa.Heap} {w : World}
theorem mapBlock_get (w : World) (c : Nat) (f : Array Value → Array Value) (e : Nat) : (mapBlock w c f).heap[e]? = if c = e then (w.heap[e]?).map (onCells f) else w.heap[e]? := by
  simp only [mapBlock]
  rw [Array.getElem?_modify]
/-- A row that a function of the library has laid anew, in a world that has grown beside. -/
theorem Sim.putRow {β : Type} [Inhabited β] (s : Sim pc ρ n H w) {id : Nat} {cs : List V} (hb : aget H id = some (.row true cs)) {c d z : Nat} (hρ : ρ id = some (c, d, z)) {a : Nat} {vs : List V} (ha : a + vs.length ≤ cs.length)
    (enc : β → Value) (F : Array β) (hF : F.size = vs.length) (hv : ∀ (j : Nat) x, vs[j]? = some x → VRel ρ x (enc F[j]!)) (m : Nat) (os : Array Obj) :
    Sim pc ρ n (aput H id (.row true (setAll cs a vs))) (grow (Go.Sort.putRow enc (Go.Sort.ahead w m) c (d + a) F) os) ∧ Ext ρ n H w ρ n (aput H id (.row true (setAll cs a vs))) (grow (Go.Sort.putRow enc (Go.Sort.ahead w m) c (d + a) F) os) := by
  obtain ⟨arr, ty, fr, h1, h2, h3, h4, h5⟩ := s.row hb hρ
  have hc := lt_of_get h1
  have hrow : ∀ (j : Nat) x, (setAll cs a vs)[j]? = some x → ∃ y, (putCells enc (d + a) F arr)[d + j]? = some y ∧ VRel ρ x y := fun j x hx => by
    rw [setAll_get _ _ _ ha] at hx
    have hj : j < cs.length := by
      rcases Nat.lt_or_ge j cs.length with h | h
      · exact h
      · rw [if_neg (by omega), if_neg (by omega), List.getElem?_eq_none h] at hx; cases hx
    have harr : d + j < arr.size := by omega
    simp only [putCells, Array.getElem?_mapIdx, Array.getElem?_eq_getElem harr, Option.map_some]
    have hold : cs[j]? = some x → ∃ y, arr[d + j]? = some y ∧ VRel ρ x y := fun hx => by
      obtain ⟨y, hy, hr⟩ := h4.get hx
      rw [List.getElem?_take, if_pos hj, List.getElem?_drop, Array.getElem?_toList] at hy
      exact ⟨y, hy, hr⟩
    by_cases g1 : j < a
    · rw [if_pos g1] at hx
      obtain ⟨y, hy, hr⟩ := hold hx
      rw [Array.getElem?_eq_getElem harr] at hy
      cases hy
      exact ⟨_, rfl, by rw [if_neg (by omega)]; exact hr⟩
    · rw [if_neg g1] at hx
      by_cases g2 : j < a + vs.length
      · rw [if_pos g2] at hx
        refine ⟨_, rfl, ?_⟩
        rw [if_pos (by omega), show d + j - (d + a) = j - a by omega]
        exact hv _ _ hx
      · rw [if_neg g2] at hx
        obtain ⟨y, hy, hr⟩ := hold hx
        rw [Array.getElem?_eq_getElem harr] at hy
        cases hy
        exact ⟨_, rfl, by rw [if_neg (by omega)]; exact hr⟩
  obtain ⟨q1, q2⟩ := s.update hb (k' := .row true (setAll cs a vs)) rfl rfl hρ (.cells (putCells enc (d + a) F arr) ty fr) ⟨_, ty, fr, by rw [setBlk_get _ _ _ _ hc, if_pos rfl], by simpa [putCells] using h2, by rw [setAll_length _ _ _ ha]; exact h3, hrow, h5⟩
  have hw : ∀ e, e < w.heap.size → (grow (Go.Sort.putRow enc (Go.Sort.ahead w m) c (d + a) F) os).heap[e]? = (setBlk w c (.cells (putCells enc (d + a) F arr) ty fr)).heap[e]? := fun e he => by
    rw [setBlk_get _ _ _ _ hc]
    simp only [grow]
    rw [Array.getElem?_append_left (by simp [Go.Sort.putRow, mapBlock, Go.Sort.ahead]; exact he)]
    unfold Go.Sort.putRow
    rw [mapBlock_get]
    simp only [Go.Sort.ahead]
    by_cases hce : c = e
    · subst hce; rw [if_pos rfl, if_pos rfl, h1]; rfl
    · rw [if_neg hce, if_neg hce]
  have hsz : (setBlk w c (.cells (putCells enc (d + a) F arr) ty fr)).heap.size ≤ (grow (Go.Sort.putRow enc (Go.Sort.ahead w m) c (d + a) F) os).heap.size := by
    simp [grow, Go.Sort.putRow, mapBlock, Go.Sort.ahead]
  refine ⟨q1.grown (fun e he => hw e (by simpa using he)) hsz, q2.trans (Ext.grown (fun e he => hw e (by simpa using he)) hsz rfl rfl rfl ?_)⟩
  show w.drawn ≤ w.drawn + m
  omega
/-- What a row of the world holds. -/
theorem Sim.holds {β : Type} [Inhabited β] (s : Sim pc ρ n H w) {id : Nat} {cs : List V} (hb : aget H id = some (.row true cs)) {c d z : Nat} (hρ : ρ id = some (c, d, z)) {a : Nat} (enc : β → Value) (F : Array β) (ha : a + F.size ≤ cs.length)
    (hv : ∀ j, j < F.size → ∃ x, cs[a + j]? = some x ∧ ∀ y, VRel ρ x y → y = enc F[j]!) : Holds enc w c (d + a) F := fun j hj => by
  obtain ⟨arr, ty, fr, h1, h2, h3, h4, h5⟩ := s.row hb hρ
  obtain ⟨x, hx, hxy⟩ := hv j hj
  obtain ⟨y, hy, hr⟩ := h4.get hx
  rw [List.getElem?_take, if_pos (by omega), List.getElem?_drop, Array.getElem?_toList] at hy
  have h6 := h5 rfl (d + (a + j)) (by omega)
  refine ⟨?_, ?_⟩
  · simp [World.cell?, h1, Nat.add_assoc, hy, hxy y hr]
  · simp only [World.frozen?, h1]
    obtain ⟨lo, hi⟩ := fr
    simp only at h6
    simp
    intro g
    omega
end bridge
def ints (l : List Int) : List V := l.map (.i .i64)
theorem EntersF.of {P : Program} {f : FuncId} (h : (P.funcs[f]?).map (fun fn => (fn.name == "runtime.NumGoroutine", fn.body.isSome)) = some (false, true)) : EntersF P f := by
  cases hf : P.funcs[f]? with
  | none => rw [hf] at h; cases h
  | some fn =>
    rw [hf] at h
    simp only [Option.map_some, Option.some.injEq, Prod.mk.injEq] at h
    obtain ⟨c, hc⟩ := Option.isSome_iff_exists.1 h.2
    have hnm : fn.name ≠ "runtime.NumGoroutine" := by simpa using h.1
    intro args w
    simp [callFunc, hf, hnm, hc]
theorem enters66 : EntersF Try.prog 66 := .of (by kernel_rfl)
theorem enters67 : EntersF Try.prog 67 := .of (by kernel_rfl)
theorem enters49 : EntersF Try.prog 49 := .of (by kernel_rfl)
theorem args_one {ρ : Go.Proofs.Ytpgelghkjiejlaa.Ren} {x : V} {args' : Array Value} (h : VRelL ρ [x] args'.toList) : ∃ y, args' = #[y] ∧ VRel ρ x y := by
  obtain ⟨y, ys, e, h1, h2⟩ := h.cons_inv
  obtain rfl := h2.nil_inv
  exact ⟨y, by rw [← Array.toArray_toList (xs := args'), e], h1⟩
theorem args_two {ρ : Go.Proofs.Ytpgelghkjiejlaa.Ren} {x x2 : V} {args' : Array Value} (h : VRelL ρ [x, x2] args'.toList) : ∃ y y2, args' = #[y, y2] ∧ VRel ρ x y ∧ VRel ρ x2 y2 := by
  obtain ⟨y, ys, e, h1, h2⟩ := h.cons_inv
  obtain ⟨y2, ys2, rfl, h3, h4⟩ := h2.cons_inv
  obtain rfl := h4.nil_inv
  exact ⟨y, y2, by rw [← Array.toArray_toList (xs := args'), e], h1, h3⟩
theorem ints_get (l : List Int) (post : List V) (j : Nat) (hj : j < l.length) : (ints l ++ post)[j]? = some (.i .i64 l[j]) := by
  rw [List.getElem?_append_left (by simpa [ints] using hj)]
  simp [ints, hj]
/-- A slice of numbers of its own. -/
def OwI (H : Go.Proofs.Ytpgelghkjiejlaa.Heap) (S : V) (l : List Int) : Prop := (S = .nils ∧ l = []) ∨ ∃ id full post, S = .sl id 0 1 l.length full ∧ aget H id = some (.row true (ints l ++ post))
def idV : V → Nat
  | .sl id .. => id
  | _ => 0
def sortI (l : List Int) : List Int := l.mergeSort fun x y => decide (x ≤ y)
theorem sortI_len (l : List Int) : (sortI l).length = l.length := List.length_mergeSort _
theorem setAll_head {α : Type} {cs vs : List α} (post : List α) (h : vs.length = cs.length) : setAll (cs ++ post) 0 vs = vs ++ post := by
  simp [setAll, h]
theorem sort66 (id : Nat) (full : Bool) (post : List V) (l : List Int) (hl : l.length < 4611686018427387904) (n : Nat) (H : Go.Proofs.Ytpgelghkjiejlaa.Heap) (hb : aget H id = some (.row true (ints l ++ post))) :
    ACalls Try.prog 66 [.sl id 0 1 l.length full] n H fun v n' H' => v = .tu [] ∧ n' = n ∧ H' = (if l = [] then H else aput H id (.row true (ints (sortI l) ++ post))) := by
  refine ⟨enters66, fun ρ w args' hs hr => ?_⟩
  obtain ⟨y, rfl, hy⟩ := args_one hr
  cases hy with
  | sl hρ hk hf ho =>
    rename_i c d z o k
    by_cases hl0 : l = []
    · subst hl0
      refine (Try.slices_Sort_int_none _ _ w).mono ?_
      rintro e w' ⟨rfl, rfl⟩
      exact ⟨.tu [], n, H, ρ, _, ⟨rfl, rfl, by simp⟩, rfl, .tu rfl (by simp), hs, .refl _ _ _ _⟩
    · have hlen : 0 < l.length := List.length_pos_iff.2 hl0
      obtain ⟨rfl, hz⟩ := ho (by omega)
      have hH : Holds (Value.int .i64) w c (o + 0) l.toArray := hs.holds hb hρ (Value.int .i64) l.toArray (by simp [ints]) fun j hj => by
        have hj' : j < l.length := by simpa using hj
        refine ⟨_, by rw [Nat.zero_add]; exact ints_get l post j hj', fun y hy => ?_⟩
        cases hy
        simp [getElem!_pos, hj']
      refine (Try.slices_Sort_int c (o + 0) k l w hH (hs.sup id _ hρ).2 hl).mono ?_
      rintro e w' ⟨rfl, m, os, rfl⟩
      have hvl : (ints (sortI l)).length = l.length := by simp [ints, sortI_len]
      obtain ⟨q1, q2⟩ := hs.putRow hb hρ (a := 0) (vs := ints (sortI l)) (by rw [hvl]; simp [ints]) (Value.int .i64) (sortI l).toArray (by simp [ints]) (fun j x hx => by
        have hj : j < (sortI l).length := by have := (List.getElem?_eq_some_iff.1 hx).1; simpa [ints] using this
        simp [ints, hj] at hx
        subst hx
        rw [getElem!_pos _ _ (by simpa using hj)]
        simp
        exact .i _ _) m os
      rw [setAll_head post (by rw [hvl]; simp [ints])] at q1 q2
      refine ⟨.tu [], n, _, ρ, _, ⟨rfl, rfl, by rw [if_neg hl0]⟩, rfl, .tu rfl (by simp), q1, q2⟩
theorem compact67 (id : Nat) (full : Bool) (post : List V) (l : List Int) (hl : l.length < 4611686018427387904) (n : Nat) (H : Go.Proofs.Ytpgelghkjiejlaa.Heap) (hb : aget H id = some (.row true (ints l ++ post))) :
    ACalls Try.prog 67 [.sl id 0 1 l.length full] n H fun v n' H' => v = .sl id 0 1 (compact l).length (decide (l = []) && full) ∧ n' = n ∧ H' = (if l = [] then H else aput H id (.row true (ints (compact l) ++ (List.replicate (l.length - (compact l).length) (.i .i64 0) ++ post)))) := by
  refine ⟨enters67, fun ρ w args' hs hr => ?_⟩
  obtain ⟨y, rfl, hy⟩ := args_one hr
  cases hy with
  | sl hρ hk hf ho =>
    rename_i c d z o k
    by_cases hl0 : l = []
    · subst hl0
      refine (Try.slices_Compact_int_empty _ _ w).mono ?_
      rintro e w' ⟨rfl, rfl⟩
      exact ⟨_, n, H, ρ, _, ⟨rfl, rfl, by simp⟩, rfl, .sl hρ hk (fun h => hf (by simpa using h)) ho, hs, .refl _ _ _ _⟩
    · have hlen : 0 < l.length := List.length_pos_iff.2 hl0
      obtain ⟨rfl, hz⟩ := ho (by omega)
      have hcl := compact_length_le l
      have hH : Holds (Value.int .i64) w c (o + 0) l.toArray := hs.holds hb hρ (Value.int .i64) l.toArray (by simp [ints]) fun j hj => by
        have hj' : j < l.length := by simpa using hj
        refine ⟨_, by rw [Nat.zero_add]; exact ints_get l post j hj', fun y hy => ?_⟩
        cases hy
        simp [getElem!_pos, hj']
      refine (Try.slices_Compact_int c (o + 0) k l w hH (by omega) hk).mono ?_
      rintro e w' ⟨rfl, m, rfl⟩
      obtain ⟨q1, q2⟩ := hs.putRow hb hρ (a := 0) (vs := ints (compact l ++ List.replicate (l.length - (compact l).length) 0)) (by simp [ints]; omega) (Value.int .i64) (compact l ++ List.replicate (l.length - (compact l).length) 0).toArray (by simp [ints]) (fun j x hx => by
        generalize compact l ++ List.replicate (l.length - (compact l).length) 0 = L at hx ⊢
        have hj : j < L.length := by have := (List.getElem?_eq_some_iff.1 hx).1; simpa [ints] using this
        simp [ints, hj] at hx
        subst hx
        rw [getElem!_pos _ _ (by simpa using hj)]
        simp
        exact .i _ _) m #[]
      rw [setAll_head post (by simp [ints]; omega), grow_empty] at q1 q2
      have e1 : ints (compact l ++ List.replicate (l.length - (compact l).length) 0) ++ post = ints (compact l) ++ (List.replicate (l.length - (compact l).length) (.i .i64 0) ++ post) := by simp [ints]
      rw [e1] at q1 q2
      refine ⟨_, n, _, ρ, _, ⟨rfl, rfl, by rw [if_neg hl0]⟩, rfl, .sl hρ (by omega) (by simp [hl0]) (fun _ => ⟨rfl, hz⟩), q1, q2⟩
end Go.Proofs.Ytpgelghkjiejlaa
end
section
set_option maxRecDepth 4000
namespace Go.Proofs.Ytpgelghkjiejlaa
open Go Go.Shelf Go.RowKit Go.Lib Go.Sort
def encR (r : Rc) : List Value := [.int .i64 r.x, .int .i64 r.y, .int .i64 r.w, .int .i64 r.h]
def sortBy (cf : Rc → Rc → Int) (l : List Rc) : List Rc := (pdq (ltOf cf) l.toArray 0 l.toArray.size (Lib.bitLen l.toArray.size) true true).toList
theorem sortBy_spec (cf : Rc → Rc → Int) (hO : SWO (ltOf cf)) (l : List Rc) : (sortBy cf l).Perm l ∧ (sortBy cf l).Pairwise (fun a b => ¬ cf b a < 0) := by
  have h := pdq_sorts (ltOf cf) hO l.toArray 0 l.toArray.size (Lib.bitLen l.toArray.size) true true (Nat.zero_le _) (Nat.le_refl _) (Or.inl rfl)
  unfold sortBy
  generalize pdq (ltOf cf) l.toArray 0 l.toArray.size (Lib.bitLen l.toArray.size) true true = D at h ⊢
  obtain ⟨⟨h1, _, h2⟩, h3⟩ := h
  have hp : D.toList.Perm l := by
    have e1 : D.extract 0 l.toArray.size = D := by rw [← h1]; exact Array.extract_size
    rw [e1] at h2
    simpa using h2
  refine ⟨hp, ?_⟩
  rw [List.pairwise_iff_getElem]
  intro i j hi hj hij
  have := h3 i j (Nat.zero_le _) hij (by have := hp.length_eq; simp at this hj ⊢; omega)
  rw [getElem!_pos D j (by simpa using hj), getElem!_pos D i (by simpa using hi)] at this
  simpa [ltOf] using this
theorem sortBy_len (cf : Rc → Rc → Int) (hO : SWO (ltOf cf)) (l : List Rc) : (sortBy cf l).length = l.length := (sortBy_spec cf hO l).1.length_eq
theorem rcs_get (l : List Rc) (t : Nat) (ht : t < l.length * 4) : (rcs l)[t]? = (rc4 (l[t / 4]'(by omega)))[t % 4]? := by
  have h := rcs_at l (t / 4) (by omega) []
  rw [← h, List.getElem?_take, if_pos (by omega), List.getElem?_drop, List.append_nil]
  congr 1
  omega
theorem encR_get (r : Rc) (j : Nat) (hj : j < 4) : ∃ v : Int, (encR r)[j]! = .int .i64 v ∧ (rc4 r)[j]? = some (.i .i64 v) := by
  rcases (by omega : j = 0 ∨ j = 1 ∨ j = 2 ∨ j = 3) with rfl | rfl | rfl | rfl <;> exact ⟨_, rfl, rfl⟩
theorem flat_get (l : List Rc) (t : Nat) (ht : t < l.length * 4) : ∃ v : Int, (flatK encR 4 l.toArray)[t]! = .int .i64 v ∧ (rcs l)[t]? = some (.i .i64 v) := by
  rw [get_flatK _ _ _ _ (by simpa using ht), rcs_get l t ht]
  have hq : t / 4 < l.length := by omega
  rw [getElem!_pos l.toArray (t / 4) (by simpa using hq)]
  simp only [List.getElem_toArray]
  exact encR_get _ _ (by omega)
theorem sim_none {pc : PrepC} (w : World) : Sim pc (fun _ => none) 0 [] w := ⟨fun _ _ h => by simp at h, fun _ _ h => by simp at h, fun _ _ _ _ _ _ h => by simp at h⟩
theorem rV_rel (ρ : Go.Proofs.Ytpgelghkjiejlaa.Ren) (r : Rc) : VRel ρ (rV r) (.agg (encR r).toArray) :=
  VRelL.to_ag (by simpa [encR, rc4] using VRelL.cons (.i _ _) (.cons (.i _ _) (.cons (.i _ _) (.one (.i _ _)))))
theorem cmpLays (g : FuncId) (cf : Rc → Rc → Int) (hcf : ∀ a b n H, Pure Try.prog g [rV a, rV b] n H (.i .i64 (cf a b))) (blk off size : Nat) (w : World) : CmpLays Try.prog g #[] encR 4 cf blk off size w := by
  intro m os dk _ x y
  refine ((hcf x y 0 []).2 (fun _ => none) _ _ (sim_none _) (by simpa using VRelL.cons (rV_rel _ x) (.one (rV_rel _ y)))).mono ?_
  rintro e w' ⟨v, n', H', ρ', y', ⟨rfl, rfl, rfl⟩, rfl, hy, hs, hE⟩
  cases hy
  exact ⟨rfl, hE.grow⟩
theorem sort49 (g : FuncId) (cf : Rc → Rc → Int) (hcf : ∀ a b n H, Pure Try.prog g [rV a, rV b] n H (.i .i64 (cf a b))) (hO : SWO (ltOf cf)) (id : Nat) (full : Bool) (post : List V) (l : List Rc) (hl : l.length < 4611686018427387904) (n : Nat) (H : Go.Proofs.Ytpgelghkjiejlaa.Heap) (hb : aget H id = some (.row true (rcs l ++ post))) :
    ACalls Try.prog 49 [.sl id 0 4 l.length full, .fn g [] []] n H fun v n' H' => v = .tu [] ∧ n' = n ∧ H' = (if l = [] then H else aput H id (.row true (rcs (sortBy cf l) ++ post))) := by
  refine ⟨enters49, fun ρ w args' hs hr => ?_⟩
  obtain ⟨y, y2, rfl, hy, hy2⟩ := args_two hr
  obtain ⟨ys, vs, rfl, e1, e2⟩ := fnv_inv hy2
  have e1' : ys = #[] := by have := e1.nil_inv; simpa using this
  have e2' : vs = #[] := by have := e2.nil_inv; simpa using this
  subst e1' e2'
  cases hy with
  | sl hρ hk hf ho =>
    rename_i c d z o k
    by_cases hl0 : l = []
    · subst hl0
      refine (AnyF.slices_SortFunc_none Try.sortRc _ _ _ w).mono ?_
      rintro e w' ⟨rfl, rfl⟩
      exact ⟨.tu [], n, H, ρ, _, ⟨rfl, rfl, by simp⟩, rfl, .tu rfl (by simp), hs, .refl _ _ _ _⟩
    · have hlen : 0 < l.length := List.length_pos_iff.2 hl0
      obtain ⟨rfl, hz⟩ := ho (by omega)
      have hH : HoldsK encR 4 w c (o + 0) l.toArray := hs.holds hb hρ (β := Value) _root_.id (flatK encR 4 l.toArray) (by simp [rcs_len]; omega) fun j hj => by
        have hj' : j < l.length * 4 := by simpa using hj
        obtain ⟨v, h1, h2⟩ := flat_get l j hj'
        refine ⟨_, by rw [Nat.zero_add, List.getElem?_append_left (by rw [rcs_len]; omega)]; exact h2, fun y hy => ?_⟩
        cases hy
        exact h1.symm
      refine (AnyQ.slices_SortFunc_eq Try.sortRc 4 Try.isAgg43 Try.sizeOf43 encR (fun _ => rfl) (fun x v hv => by simp [encR] at hv; rcases hv with rfl | rfl | rfl | rfl <;> rfl) cf hO g #[] c (o + 0) k l.toArray w (fun args w => (hcf default default 0 []).1 args w) (cmpLays g cf hcf c (o + 0) _ w) hH (hs.sup id _ hρ).2 (by simpa using hl)).mono ?_
      rintro e w' ⟨rfl, m, os, rfl⟩
      have hsl := sortBy_len cf hO l
      have harr : pdq (ltOf cf) l.toArray 0 l.toArray.size (Lib.bitLen l.toArray.size) true true = (sortBy cf l).toArray := by simp [sortBy]
      rw [harr]
      have hvl : (rcs (sortBy cf l)).length = (rcs l).length := by rw [rcs_len, rcs_len, hsl]
      obtain ⟨q1, q2⟩ := hs.putRow hb hρ (a := 0) (vs := rcs (sortBy cf l)) (by rw [hvl]; simp) (β := Value) _root_.id (flatK encR 4 (sortBy cf l).toArray) (by simp [rcs_len]; omega) (fun j x hx => by
        have hj : j < (sortBy cf l).length * 4 := by have := (List.getElem?_eq_some_iff.1 hx).1; rw [rcs_len] at this; omega
        obtain ⟨v, h1, h2⟩ := flat_get _ j hj
        rw [h2] at hx
        cases hx
        rw [h1]
        exact .i _ _) m os
      rw [setAll_head post hvl] at q1 q2
      exact ⟨.tu [], n, _, ρ, _, ⟨rfl, rfl, by rw [if_neg hl0]⟩, rfl, .tu rfl (by simp), q1, q2⟩
theorem cmpV_neg (a b : Int) : cmpV a b < 0 ↔ a < b := by unfold cmpV; split <;> (try split) <;> simp <;> omega
theorem cmpV_zero (a b : Int) : cmpV a b = 0 ↔ a = b := by unfold cmpV; split <;> (try split) <;> simp <;> omega
def cmpX (a b : Rc) : Int := cmpV a.x b.x
theorem swoX : SWO (ltOf cmpX) where
  irrefl x := by simp [ltOf, cmpX, cmpV]
  trans x y z h1 h2 := by simp only [ltOf, cmpX, cmpV_neg, decide_eq_true_eq] at *; omega
  ntrans x y z h1 h2 := by simp only [ltOf, cmpX, cmpV_neg, decide_eq_false_iff_not] at *; omega
theorem cmpYX_neg (a b : Rc) : cmpYX a b < 0 ↔ a.y < b.y ∨ (a.y = b.y ∧ a.x < b.x) := by
  unfold cmpYX
  have h1 := cmpV_neg a.y b.y
  have h2 := cmpV_zero a.y b.y
  have h3 := cmpV_neg a.x b.x
  split <;> omega
theorem swoYX : SWO (ltOf cmpYX) where
  irrefl x := by simp only [ltOf, cmpYX_neg, decide_eq_false_iff_not]; omega
  trans x y z h1 h2 := by simp only [ltOf, cmpYX_neg, decide_eq_true_eq] at *; omega
  ntrans x y z h1 h2 := by simp only [ltOf, cmpYX_neg, decide_eq_false_iff_not] at *; omega
end Go.Proofs.Ytpgelghkjiejlaa
end
section
set_option maxRecDepth 4000
namespace Go.Proofs.Ytpgelghkjiejlaa
open Go
attribute [local irreducible] opsF drawF drawP
/-- A rectangle within bounds. -/
def OkRc (r : Rc) : Prop := -1048576 ≤ r.x ∧ 0 < r.w ∧ r.x + r.w ≤ 1048576 ∧ -1048576 ≤ r.y ∧ 0 < r.h ∧ r.y + r.h ≤ 1048576
def edgeL (l : List Rc) : List Int := l.flatMap fun r => [r.y, r.y + r.h]
theorem edgeL_len (l : List Rc) : (edgeL l).length = 2 * l.length := by
  induction l with
  | nil => rfl
  | cons r l ih => simp [edgeL] at ih ⊢; omega
def ysL (l : List Rc) : List Int := Go.Lib.compact (sortI (edgeL l))
theorem sort66h (m : Nat) (full : Bool) (L : List Int) (hl : L.length < 4611686018427387904) (n : Nat) (H : Heap) : ACalls Try.prog 66 [.sl m 0 1 L.length full] n ((m, .row true (ints L)) :: H) fun v n' H' => v = .tu [] ∧ n' = n ∧ H' = (m, .row true (ints (sortI L))) :: H := by
  refine (sort66 m full [] L hl n _ (by simp)).mono ?_
  rintro v n' H' ⟨rfl, rfl, rfl⟩
  refine ⟨rfl, rfl, ?_⟩
  split
  · rename_i h; subst h; simp [sortI]
  · simp [aput]
theorem compact67h (m : Nat) (full : Bool) (L : List Int) (hl : L.length < 4611686018427387904) (n : Nat) (H : Heap) : ACalls Try.prog 67 [.sl m 0 1 L.length full] n ((m, .row true (ints L)) :: H) fun v n' H' => v = .sl m 0 1 (Go.Lib.compact L).length (decide (L = []) && full) ∧ n' = n ∧ H' = (m, .row true (ints (Go.Lib.compact L) ++ List.replicate (L.length - (Go.Lib.compact L).length) (.i .i64 0))) :: H := by
  refine (compact67 m full [] L hl n _ (by simp)).mono ?_
  rintro v n' H' ⟨rfl, rfl, rfl⟩
  refine ⟨rfl, rfl, ?_⟩
  split
  · rename_i h; subst h; rfl
  · simp [aput]
theorem ints_append (a b : List Int) : ints (a ++ b) = ints a ++ ints b := by simp [ints]
theorem ints_len (a : List Int) : (ints a).length = a.length := by simp [ints]
theorem edges_ok (S : V) (l : List Rc) (hok : ∀ r ∈ l, OkRc r) (hl : l.length ≤ 1000000000) (n : Nat) (H : Heap) (hS : SlR H S l) : ACalls Try.prog 53 [S] n H (NewR true 1 (ysL l).length (ints (ysL l)) n H) := by
  refine ACalls.newR (K := fun v n' H' => (∀ b k, b < n → aget H b = some k → aget H' b = some k) ∧ ((true = false ∧ v = .nils) ∨ (true = true ∧ ∃ id full post, v = .sl id 0 1 (ysL l).length full ∧ n ≤ id ∧ aget H' id = some (.row true (ints (ysL l) ++ post))))) true 1 (ysL l).length (ints (ysL l)) (.ints _) ?_ (fun v n' H' h => h)
  refine .withIn (ACalls.enters F53_ok trivial) fun hin hargs => ?_
  have hSin := hS.vin hin
  have hL := hS.len
  have hw2 : IntKind.i64.wrap (2 * (l.length : Int)) = ((2 * l.length : Nat) : Int) := by rw [IntWalk.i64_in _ (by omega)]; simp
  have hcap : (0 : Int) ≤ ((2 * l.length : Nat) : Int) ∧ ((2 * l.length : Nat) : Int) * 8 ≤ 140737488355328 ∧ ((2 * l.length : Nat) : Int) ≤ 140737488355328 := by omega
  refine .enter0 F53_ok (by simp [F53]) ?_
  refine .seq (.ops (opsF_all (by simp; rfl) ?_))
  refine .seq (.ops (opsF_run 2 (by simp [-evLen, hL]; rfl) ?_))
  refine opsF_cons_op (v := .i .i64 ((2 * l.length : Nat) : Int)) (n' := n) (H' := H) rfl rfl (by simp [← hw2]) ?_
  refine opsF_cons_op (v := .sl n 0 1 0 ((0 : Int) == ((2 * l.length : Nat) : Int))) (n' := n + 1) (H' := (n, .row true (List.replicate (2 * l.length) (.i .i64 0))) :: H) rfl rfl ?_ ?_
  · simp only [evalOp, AX.val]
    simp only [evMks, putT, aput, aget]
    simp
    omega
  generalize ((0 : Int) == ((2 * l.length : Nat) : Int)) = full0
  refine opsF_all (by simp; rfl) ?_
  refine .seq (.seq (.ops (opsF_all (by simp [-evLen, hL]; rfl) ?_)))
  refine .block (.loopR (φ₀ := φ1 (n + 1) n) (k₀ := l.length) (s₀ := ⟨[(3, slB true (n + 1) 1 0), (10, S), (11, .i .i64 l.length), (12, .i .i64 0)], [], n + 2, rowB true (n + 1) [] H⟩)
    (fun k st => ∃ i : Nat, i ≤ l.length ∧ k = l.length - i ∧ st = ⟨[(3, slB true (n + 1) 1 (2 * i)), (10, S), (11, .i .i64 l.length), (12, .i .i64 i)], [], n + 2, rowB true (n + 1) (ints (edgeL (l.take i))) H⟩)
    ⟨0, by omega, by omega, rfl⟩ ⟨TReL.spec ?_, rfl, by simp, ?_⟩ (φ1_lt (Nat.le_refl (n + 1))) (fun k st ⟨i, h1, h2, h3⟩ => by rw [h3]; exact Nat.le_succ _) ?_)
  · simp only [TReL, and_true]
    simp
    exact ⟨.B1 (full := full0) (by omega) rfl, VRe.mono (n := n) (by omega) (VRe.refl (φ1_lt (by omega)) hSin), .i _ _, .i _ _⟩
  · show HRe (φ1 (n + 1) n) (n + 2) (rowB true (n + 1) [] H) _
    refine HRe.one (n := n) hin (by omega) (by omega) (by omega) (fun _ => Nat.le_refl n) ?_ ?_
    · intro b k hb h
      rw [aget_cons, if_neg (by omega)]
      exact h
    intro _
    exact ⟨_, by rw [aget_cons, if_pos rfl], by simpa using NoId.bre (cs := []) (post := List.replicate (2 * l.length) (.i .i64 0)) (by simp [NoId]) (φ1 (n + 1) n) (n + 2) true⟩
  rintro k st ⟨i, h1, rfl, rfl⟩
  by_cases hi : i < l.length
  · obtain ⟨id, q, o, cs, hA⟩ := hS.at hi
    have a1 := hA.ias
    have a2 := hA.get
    have a3 := hA.len
    have a4 := hA.at4
    have hidn := (hin id _ a2).1
    have hi' : (i : Int) < l.length := by omega
    have hwi : IntKind.i64.wrap ((i : Int) + 1) = ((i + 1 : Nat) : Int) := IntWalk.i64_in _ (by omega)
    have hr := hok l[i] (List.getElem_mem _)
    have hstep : ints (edgeL (l.take (i + 1))) = ints (edgeL (l.take i)) ++ [.i .i64 l[i].y, .i .i64 (l[i].y + l[i].h)] := by
      rw [List.take_add_one, List.getElem?_eq_getElem hi, edgeL, edgeL, List.flatMap_append, ints, List.map_append]
      rfl
    have hL0 : (ints (edgeL (l.take i))).length = 2 * i := by rw [ints_len, edgeL_len, List.length_take, Nat.min_eq_left h1]
    generalize l[i] = r at a4 hr hstep
    have hwr : IntKind.i64.wrap (r.y + r.h) = r.y + r.h := IntWalk.i64_in _ (by unfold OkRc at hr; omega)
    have ne1 : ¬ n + 1 = id := by omega
    have ne2 : ¬ n + 2 = id := by omega
    have hget : aget (rowB true (n + 1) (ints (edgeL (l.take i))) H) id = some (.row o cs) := by rw [aget_rowB_ne ne1]; exact a2
    have hn0 := NoId.ints (edgeL (l.take (i + 1)))
    rw [show List.map (V.i IntKind.i64) (edgeL (l.take (i + 1))) = ints (edgeL (l.take (i + 1))) from rfl, hstep] at hn0
    rw [hstep.symm] at hn0
    generalize ints (edgeL (l.take i)) = E at hstep hL0 hget ⊢
    refine .seq (.ops (opsF_all (by simp [hi']; rfl) ?_))
    refine .seq (.cond (t := true) (by simp) (.skip ?_))
    refine .seq (.block (.seq (.ops (opsF_run 1 (by simp [-evIas, a1]; rfl) ?_))))
    refine opsF_all (by simp [hget, a3, a4, rc4, setAll]; rfl) ?_
    refine .ops (opsF_run 9 (by simp [hwr]; rfl) ?_)
    refine opsF_cons_app (f := true) (m := n + 1) (len := 2 * i) (cs := E) (k := 2) (new := [.i .i64 r.y, .i .i64 (r.y + r.h)]) rfl rfl rfl (by simp) (fun _ => ⟨[], by simp [rowB]⟩) (by omega) rfl (by simp [setAll]) (by simp) rfl (by omega) (by omega) ?_
    refine opsF_all (by simp; rfl) ?_
    refine AWc.forget (T0 := [(3, .sl (n + 4) 0 1 (2 * i + 2) false), (10, S), (11, .i .i64 l.length), (12, .i .i64 i)]) (by simp) ?_
    refine .ops (opsF_all (by simp [hwi]; rfl) ?_)
    refine ⟨l.length - (i + 1), φ1 (n + 1) (n + 4), ⟨[(3, slB true (n + 1) 1 (2 * (i + 1))), (10, S), (11, .i .i64 l.length), (12, .i .i64 ((i + 1 : Nat) : Int))], [], n + 2, rowB true (n + 1) (ints (edgeL (l.take (i + 1)))) H⟩, by omega, ⟨i + 1, by omega, rfl, rfl⟩, φ1_lt (Nat.le_refl (n + 1)), ⟨TReL.spec ?_, rfl, by simp, ?_⟩⟩
    · simp only [TReL, and_true]
      simp
      exact ⟨.B1 (full := false) (by omega) rfl, VRe.mono (n := n) (by omega) (VRe.refl (φ1_lt (by omega)) hSin), .i _ _, .i _ _⟩
    · show HRe (φ1 (n + 1) (n + 4)) (n + 2) (rowB true (n + 1) (ints (edgeL (l.take (i + 1)))) H) _
      refine HRe.one (n := n) hin (by omega) (by omega) (by omega) (fun _ => by omega) ?_ ?_
      · intro b k hb h
        have : ¬ n + 4 = b ∧ ¬ n + 3 = b ∧ ¬ n + 2 = b ∧ ¬ n + 1 = b ∧ ¬ n = b := by omega
        simp [aget_cons, aget_del, aget_rowB, this, h]
      intro _
      refine ⟨_, by rw [aget_cons, if_pos rfl], ?_⟩
      rw [← hstep]
      simpa using hn0.bre (post := []) (φ1 (n + 1) (n + 4)) (n + 2) true
  · obtain rfl : i = l.length := by omega
    refine .seq (.ops (opsF_all (by simp; rfl) ?_))
    refine .seq (.cond (t := false) (by simp) (.exit ?_))
    have hlen := edgeL_len l
    have hs1 := sort66h (n + 1) false (edgeL l) (by omega) (n + 2) H
    have hs2 := compact67h (n + 1) false (sortI (edgeL l)) (by rw [sortI_len]; omega) (n + 2) H
    rw [sortI_len, hlen] at hs2
    rw [hlen] at hs1
    refine AWc.seq (.ops (opsF_run 1 (by simp [slB, rowB]; rfl) ?_))
    refine opsF_cons_callX rfl rfl rfl hs1 ?_
    refine opsF_nil ?_
    refine AWc.seq (.ops (opsF_run 1 (by simp; rfl) ?_))
    refine opsF_cons_callX rfl rfl rfl hs2 ?_
    refine opsF_all (by simp; rfl) ?_
    refine .ret ?_
    simp [F53]
    refine ⟨fun b k hb h => by rw [if_neg (by omega)]; exact h, n + 1, ?_⟩
    exact ⟨⟨rfl, rfl⟩, by omega, _, by rw [if_pos rfl]; rfl⟩
end Go.Proofs.Ytpgelghkjiejlaa
end
section
namespace Go.Proofs.Ytpgelghkjiejlaa
open Go
section rules
variable {P : Program} {N : Nat}
theorem drawF_steps {K : List DStep → St → Prop} : ∀ {l : List AOper} {st : St} {acc : List DStep}, drawF P l st acc K → drawF P l st acc fun steps s => K steps s ∧ ∃ more, steps = acc ++ more ∧ stepsOf more l := by
  intro l
  induction l with
  | nil => intro st acc h; exact ⟨h, [], by simp, trivial⟩
  | cons o os ih =>
    intro st acc h
    have hgo : ∀ (s0 : DStep) (st' : St), stepOf s0 o → drawF P os st' (acc ++ [s0]) K → drawF P os st' (acc ++ [s0]) fun steps s => K steps s ∧ ∃ more, steps = acc ++ more ∧ stepsOf more (o :: os) := by
      intro s0 st' h1 h3
      refine drawF_mono ?_ (ih h3)
      rintro a s ⟨hk, more, rfl, g1⟩
      exact ⟨hk, s0 :: more, by simp, h1, g1⟩
    unfold drawF at h
    split at h
    · rename_i hg
      exact drawF_skip hg (hgo _ _ ⟨fun t ht => by simpa using Or.inr ht, rfl, Nat.le_refl _⟩ h)
    · rename_i hg
      split at h
      · rename_i g args hop
        split at h
        · rename_i hgv
          obtain ⟨fr, fw, v, n1, R, q1, q2, q3, q4⟩ := h
          exact drawF_call hg hop hgv q1 q2 q3 (hgo _ _ ⟨fun t ht => by rw [hop]; exact ht, rfl, q2.1⟩ q4)
        · exact h.elim
      · rename_i hnc
        obtain ⟨fr, fw, v, n1, R, q1, q2, q3, q4⟩ := h
        exact drawF_op hg (fun g l hx => hnc g l hx) q1 q2 q3 (hgo _ _ ⟨fun t ht => ht, rfl, q3.1⟩ q4)
    · exact h.elim
theorem AWc.drawS {rd : Option Nat} {st : St} {Q : Exit → St → Prop} {b : List Nat} {l : List AOper} (hs : slotsOk b l 0 l = true) (h : drawF P l st [] fun steps st' => heapOk b steps 0 steps = true ∧ Q .normal st') : AWc P N rd (.ops (some b) l) st Q := by
  refine .draw (drawF_mono ?_ (drawF_steps h))
  rintro steps s ⟨⟨h1, h2⟩, more, rfl, h3⟩
  exact ⟨compat_ok h3 hs (by simpa using h1), h2⟩
end rules
end Go.Proofs.Ytpgelghkjiejlaa
end
section
set_option maxRecDepth 4000
namespace Go.Proofs.Ytpgelghkjiejlaa
open Go
attribute [local irreducible] opsF drawF drawP
def spanF (a to : Int) : List Rc → List (Int × Int)
  | [] => [(a, to)]
  | r :: l => if r.x ≤ to then spanF a (if to < r.x + r.w then r.x + r.w else to) l else (a, to) :: spanF r.x (r.x + r.w) l
def spanL : List Rc → List (Int × Int)
  | [] => []
  | r :: l => spanF r.x (r.x + r.w) l
theorem AWc.withIn {P : Program} {N : Nat} {rd : Option Nat} {ac : ACode} {st : St} {Q : Exit → St → Prop} (h : HIn st.n st.H → AWc P N rd ac st Q) : AWc P N rd ac st Q :=
  fun c hp ρ F m x w hF hA => h hA.sim.hin c hp ρ F m x w hF hA
theorem opsF_cons_callV {P : Program} {o : AOper} {os : List AOper} {st : St} {K : St → Prop} {g : AX} {args : List AX} (hg : guardOf st.T o.guard = some true) (ho : o.op = .call g args) {K0 : V → Nat → Heap → Prop}
    (hc : callV P (g.val st.T) (args.map (·.val st.T)) st.n st.H K0) (h : ∀ v n1 R, K0 v n1 R → opsF P os ⟨putT st.T o.dst v, st.D, n1, R⟩ K) : opsF P (o :: os) st K :=
  opsF_call hg ho (callV.mono hc h)
theorem St.less_T {T T0 : Temps} {D : List Nat} {n : Nat} {H : Heap} (hD : D = []) (h : ∀ i v, aget T0 i = some v → aget T i = some v) : St.less ⟨T0, D, n, H⟩ ⟨T, D, n, H⟩ :=
  ⟨fun i v hv => ⟨h i v hv, .inl rfl⟩, rfl, by subst hD; simp, ⟨Nat.le_refl _, fun _ _ h => h, .inl rfl⟩⟩
theorem spans_pure (S : V) (hK : S.known = true) (n : Nat) (H : Heap) : ACalls Try.prog 57 [S] n H fun v n' H' => v = .fn 69 [] [.p n 0] ∧ n' = n + 1 ∧ H' = (n, .row true S.cells) :: H := by
  refine .enter0 F57_ok (by simp [F57]) ?_
  refine .seq (.ops (opsF_all (by simp [hK]; rfl) ?_))
  refine .seq (.ops (opsF_all (by simp; rfl) ?_))
  refine .ret ?_
  simp [F57]
theorem spans1_ok (L q : Nat) (S : V) (l : List Rc) (hok : ∀ r ∈ l, OkRc r) (hl : l.length ≤ 1000000000) (Inv : Nat → Nat → Heap → Prop)
    (hI : ∀ j n H, Inv j n H → (∃ o, aget H q = some (.row o [S])) ∧ SlR H S l)
    (hy : ∀ j a to n H, Inv j n H → (spanL l)[j]? = some (a, to) → YCalls Try.prog L [.ag [.i .i64 a, .i .i64 to]] (n + 1) ((n, .row true [.i .i64 a, .i .i64 to]) :: H) fun v n' H' => v = .b true ∧ n ≤ n' ∧ Inv (j + 1) n' H')
    (n0 : Nat) (hLn : L < n0) (H0 : Heap) (h0 : Inv 0 n0 H0) : ACalls Try.prog 69 [.yl L, .p q 0] n0 H0 fun _ n' H' => Inv (spanL l).length n' H' := by
  refine .enter0 F69_ok (by simp [F69]) ?_
  refine .seq (.ops (opsF_all (by simp; rfl) ?_))
  refine .block (.loop (k₀ := l.length) (s₀ := ⟨[(0, .yl L), (1, .p q 0), (3, .i .i64 0)], [], n0, H0⟩)
    (fun k st => ∃ (i j n : Nat) (H : Heap), i ≤ l.length ∧ k = l.length - i ∧ n0 ≤ n ∧ Inv j n H ∧ (j ≤ (spanL l).length ∧ spanL (l.drop i) = (spanL l).drop j) ∧ st = ⟨[(0, .yl L), (1, .p q 0), (3, .i .i64 i)], [], n, H⟩)
    ⟨0, 0, n0, H0, by omega, by omega, Nat.le_refl _, h0, ⟨by omega, rfl⟩, rfl⟩ (St.less_T rfl ?_) (Nat.le_refl _) (fun k st ⟨i, j, n, H, h1, h2, h3, h4, h5, h6⟩ => by rw [h6]; exact h3) ?_)
  · intro i v hv
    simp only [aget_cons, aget_nil] at hv
    have : i = 0 ∨ i = 1 ∨ i = 3 := by
      by_cases e0 : 0 = i
      · exact .inl e0.symm
      · by_cases e1 : 1 = i
        · exact .inr (.inl e1.symm)
        · by_cases e3 : 3 = i
          · exact .inr (.inr e3.symm)
          · simp [e0, e1, e3] at hv
    rcases this with rfl | rfl | rfl <;> simpa using hv
  rintro k st ⟨i, j, n, H, h1, rfl, hn, hinv, ⟨hjl, hspan⟩, rfl⟩
  refine .withIn fun hin => ?_
  have hin : HIn n H := hin
  obtain ⟨⟨o, hq⟩, hS⟩ := hI _ _ _ hinv
  have hqn := (hin q _ hq).1
  have hL := hS.len
  by_cases hi : i < l.length
  · obtain ⟨id, qq, o2, cs, hA⟩ := hS.at hi
    have a1 := hA.ias
    have a2 := hA.get
    have a3 := hA.len
    have c0 := hA.c0
    have c2 := hA.c2
    have hid := (hin id _ a2).1
    have hi' : (i : Int) < l.length := by omega
    have hwi : IntKind.i64.wrap ((i : Int) + 1) = ((i + 1 : Nat) : Int) := IntWalk.i64_in _ (by omega)
    have hr := hok l[i] (List.getElem_mem _)
    have hsp : spanF l[i].x (l[i].x + l[i].w) (l.drop (i + 1)) = (spanL l).drop j := by rw [← hspan, List.drop_eq_getElem_cons hi]; rfl
    generalize l[i] = r at c0 c2 hr hsp
    have hwr : IntKind.i64.wrap (r.x + r.w) = r.x + r.w := IntWalk.i64_in _ (by unfold OkRc at hr; omega)
    have e1 : ¬ n ≤ q := by omega
    have e2 : ¬ n ≤ id := by omega
    have e3 : ¬ n = q := by omega
    have e4 : ¬ n = id := by omega
    refine .seq (.seq (.ops (opsF_run 2 (by simp [hq]; rfl) ?_)))
    refine opsF_all (by simp [-evLen, hL, hi']; rfl) ?_
    refine .cond (t := true) (by simp) (.skip ?_)
    refine .block (.seq (.drawS (by rfl) ?_))
    refine drawF_run 2 (by rfl) (by simp [hq, hqn]; exact ⟨rfl, rfl⟩) ?_
    refine drawF_run 1 (by rfl) (by simp [-evIas, a1]; exact ⟨rfl, rfl⟩) ?_
    refine drawF_run 4 (by rfl) (by simp [hq, hqn, a2, hid, c0]; exact ⟨rfl, rfl⟩) ?_
    refine drawF_run 1 (by rfl) (by simp [-evIas, a1]; exact ⟨rfl, rfl⟩) ?_
    refine drawF_run 4 (by rfl) (by simp [hq, hqn, a2, hid, c0]; exact ⟨rfl, rfl⟩) ?_
    refine drawF_run 1 (by rfl) (by simp [-evIas, a1]; exact ⟨rfl, rfl⟩) ?_
    refine drawF_run 4 (by rfl) (by simp [hq, hqn, a2, hid, c2, hwr]; exact ⟨rfl, rfl⟩) ?_
    refine drawF_all (by rfl) (by simp [setAll, Blk.own, e1, e2]; exact ⟨rfl, rfl⟩) ⟨?_, ?_⟩
    · simp [heapOk, heapRow, heavy, heapI, e1, e2, e3, e4]
      decide
    refine AWc.forget (T0 := [(0, .yl L), (1, .p q 0), (3, .i .i64 i), (4, .p n 0)]) (by simp) ?_
    refine AWc.alikeH (H := (n, .row true [.i .i64 r.x, .i .i64 (r.x + r.w)]) :: H) (fun b => ?_) ?_
    · simp only [aget_mergeH, aget_cons, touch, aget_nil, List.contains_cons, List.contains_nil]
      by_cases hb : n = b
      · subst hb; simp
      · have hb' : ¬ (b = n) := fun h => hb h.symm
        simp [hb, hb']
        rw [if_neg (by omega), if_neg (by omega)]
    refine .seq (.seq (.ops (opsF_all (by simp [hwi]; rfl) ?_)))
    have hinn : ∀ a to, HIn (n + 1) ((n, .row true [.i .i64 a, .i .i64 to]) :: H) := fun a to => .cons' (by omega) (by simp [BIn]) (hin.mono (by omega))
    refine .block (.loopR (φ₀ := _root_.id) (k₀ := l.length - (i + 1)) (s₀ := ⟨[(0, .yl L), (1, .p q 0), (3, .i .i64 ((i + 1 : Nat) : Int)), (4, .p n 0)], [], n + 1, (n, .row true [.i .i64 r.x, .i .i64 (r.x + r.w)]) :: H⟩)
      (fun k st => ∃ (i2 : Nat) (a to : Int), i < i2 ∧ i2 ≤ l.length ∧ k = l.length - i2 ∧ to ≤ 1048576 ∧ spanF a to (l.drop i2) = (spanL l).drop j ∧ st = ⟨[(0, .yl L), (1, .p q 0), (3, .i .i64 i2), (4, .p n 0)], [], n + 1, (n, .row true [.i .i64 a, .i .i64 to]) :: H⟩)
      ⟨i + 1, r.x, r.x + r.w, by omega, by omega, rfl, by unfold OkRc at hr; omega, hsp, rfl⟩ ⟨TReL.spec ?_, rfl, by simp, .same (hinn _ _) fun b hb => rfl⟩ (fun b hb => rfl) (fun k st ⟨i, a, to, h1, h2, h3, h4, h5, h6⟩ => by rw [h6]; exact Nat.le_refl _) ?_)
    · simp only [TReL, and_true]
      simp
      exact ⟨.id_of (.yl (by omega)), .id_of (.p (by omega)), .i _ _, .id_of (.p (by omega))⟩
    rintro k st ⟨i2, a, to, g1, g2, rfl, g3, g4, rfl⟩
    have fin : ∀ {Q : Exit → St → Prop} (T : Temps), (a, to) :: spanL (l.drop i2) = (spanL l).drop j → aget T 0 = some (.yl L) → aget T 1 = some (.p q 0) → aget T 3 = some (.i .i64 i2) → aget T 4 = some (.p n 0) →
        (∀ s, (∃ j_1 s'', j_1 < l.length - i ∧ (∃ (i j n : Nat) (H : Heap), i ≤ l.length ∧ j_1 = l.length - i ∧ n0 ≤ n ∧ Inv j n H ∧ (j ≤ (spanL l).length ∧ spanL (l.drop i) = (spanL l).drop j) ∧ s'' = ⟨[(0, .yl L), (1, .p q 0), (3, .i .i64 i)], [], n, H⟩) ∧ St.less s'' s) → Q .normal s) →
        AWc Try.prog F69.N none (.seq (.ops none [⟨(some 59), (.mv (.t 0)), none⟩,
       ⟨(some 60), (.ld true 2 (.t 4)), none⟩,
       ⟨(some 61), (.call (.t 59) [(.t 60)]), none⟩,
       ⟨(some 62), (.un .not (.t 61)), none⟩])
      (.cond (.t 62)
       (.ret)
       (.skip))) ⟨T, [], n + 1, (n, .row true [.i .i64 a, .i .i64 to]) :: H⟩ Q := by
      intro Q T hcut t0 t1 t3 t4 hQ
      have hat : (spanL l)[j]? = some (a, to) := by
        have := congrArg (fun x => x[0]?) hcut
        simp at this
        exact this.symm
      have hjl2 : j < (spanL l).length := (List.getElem?_eq_some_iff.1 hat).1
      refine AWc.forget (T0 := [(0, .yl L), (1, .p q 0), (3, .i .i64 i2), (4, .p n 0)]) (by simp [t0, t1, t3, t4]) ?_
      refine .seq (.ops (opsF_run 2 (by simp; rfl) ?_))
      refine opsF_cons_callV rfl rfl (callV_yl (by simpa using hy j a to n H hinv hat)) ?_
      rintro v n1 R ⟨rfl, hn1, hinv1⟩
      refine opsF_all (by simp; rfl) ?_
      refine .cond (t := false) (by simp) (.skip ?_)
      refine hQ _ ⟨l.length - i2, ⟨[(0, .yl L), (1, .p q 0), (3, .i .i64 i2)], [], n1, R⟩, by omega, ⟨i2, j + 1, n1, R, g2, rfl, by omega, hinv1, ⟨by omega, ?_⟩, rfl⟩, St.less_T rfl ?_⟩
      · have := congrArg List.tail hcut
        simpa [List.tail_drop] using this
      · intro i v hv
        simp only [aget_cons, aget_nil] at hv
        have : i = 0 ∨ i = 1 ∨ i = 3 := by
          by_cases e0 : 0 = i
          · exact .inl e0.symm
          · by_cases e1 : 1 = i
            · exact .inr (.inl e1.symm)
            · by_cases e3 : 3 = i
              · exact .inr (.inr e3.symm)
              · simp [e0, e1, e3] at hv
        rcases this with rfl | rfl | rfl <;> simpa using hv
    by_cases hi2 : i2 < l.length
    · obtain ⟨id2, qq2, o3, cs2, hB⟩ := hS.at hi2
      have b1 := hB.ias
      have b2 := hB.get
      have b3 := hB.len
      have d0 := hB.c0
      have d2 := hB.c2
      have hid2 := (hin id2 _ b2).1
      have hi2' : (i2 : Int) < l.length := by omega
      have hwi2 : IntKind.i64.wrap ((i2 : Int) + 1) = ((i2 + 1 : Nat) : Int) := IntWalk.i64_in _ (by omega)
      have hr2 := hok l[i2] (List.getElem_mem _)
      have hd2 : l.drop i2 = l[i2] :: l.drop (i2 + 1) := List.drop_eq_getElem_cons hi2
      generalize l[i2] = r2 at d0 d2 hr2 hd2
      have hwr2 : IntKind.i64.wrap (r2.x + r2.w) = r2.x + r2.w := IntWalk.i64_in _ (by unfold OkRc at hr2; omega)
      have e5 : ¬ n = id2 := by omega
      have e6 : q < n + 1 := by omega
      have e7 : id2 < n + 1 := by omega
      rw [hd2] at g4 fin
      by_cases hx : r2.x ≤ to
      · refine .seq (.seq (.drawP (by rfl) ?_))
        refine drawP_run 2 (by rfl) (by simp [hq, e3, e6]; rfl) ?_
        refine drawP_run 1 (by rfl) (by simp [-evLen, hL]; rfl) ?_
        refine drawP_run 4 (by rfl) (by simp [hq, e3, e6, hi2']; rfl) ?_
        refine drawP_run 1 (by rfl) (by simp [-evIas, b1]; rfl) ?_
        refine drawP_all (by rfl) (by simp [b2, e5, e7, d0, hx]; rfl) ?_
        refine .cond (t := true) (by simp) (.skip ?_)
        refine AWc.forget (T0 := [(0, .yl L), (1, .p q 0), (3, .i .i64 i2), (4, .p n 0)]) (by simp) ?_
        refine .seq (.block (.drawS (by rfl) ?_))
        refine drawF_run 4 (by rfl) (by simp [hq, e3, e6]; exact ⟨rfl, rfl⟩) ?_
        refine drawF_run 1 (by rfl) (by simp [-evIas, b1]; exact ⟨rfl, rfl⟩) ?_
        refine drawF_run 4 (by rfl) (by simp [hq, e3, e6, b2, e5, e7, d0]; exact ⟨rfl, rfl⟩) ?_
        refine drawF_run 1 (by rfl) (by simp [-evIas, b1]; exact ⟨rfl, rfl⟩) ?_
        refine drawF_all (by rfl) (by simp [b2, e5, e7, d2, hwr2, setAll, Blk.own]; exact ⟨rfl, rfl⟩) ⟨?_, ?_⟩
        · simp [heapOk, heapRow, heavy, heapI, e3, e5]
          try decide
        refine AWc.forget (T0 := [(0, .yl L), (1, .p q 0), (3, .i .i64 i2), (4, .p n 0)]) (by simp) ?_
        refine AWc.alikeH (H := (n, .row true [.i .i64 a, .i .i64 (if to < r2.x + r2.w then r2.x + r2.w else to)]) :: H) (fun b => ?_) ?_
        · simp only [aget_mergeH, aget_cons, touch, aget_nil, List.contains_cons, List.contains_nil]
          by_cases hb : n = b
          · subst hb; simp
          · have hb' : ¬ (b = n) := fun h => hb h.symm
            simp [hb, hb']
            intros; omega
        refine .ops (opsF_all (by simp [hwi2]; rfl) ?_)
        refine ⟨l.length - (i2 + 1), _root_.id, ⟨[(0, .yl L), (1, .p q 0), (3, .i .i64 ((i2 + 1 : Nat) : Int)), (4, .p n 0)], [], n + 1, (n, .row true [.i .i64 a, .i .i64 (if to < r2.x + r2.w then r2.x + r2.w else to)]) :: H⟩, by omega, ⟨i2 + 1, a, _, by omega, by omega, rfl, by unfold OkRc at hr2; split <;> omega, by rw [← g4, spanF, if_pos hx], rfl⟩, fun _ _ => rfl, ⟨TReL.spec ?_, rfl, by simp, .same (hinn _ _) fun b hb => rfl⟩⟩
        simp only [TReL, and_true]
        simp
        exact ⟨.id_of (.yl (by omega)), .id_of (.p (by omega)), .i _ _, .id_of (.p (by omega))⟩
      · refine .seq (.seq (.drawP (by rfl) ?_))
        refine drawP_run 2 (by rfl) (by simp [hq, e3, e6]; rfl) ?_
        refine drawP_run 1 (by rfl) (by simp [-evLen, hL]; rfl) ?_
        refine drawP_run 4 (by rfl) (by simp [hq, e3, e6, hi2']; rfl) ?_
        refine drawP_run 1 (by rfl) (by simp [-evIas, b1]; rfl) ?_
        refine drawP_all (by rfl) (by simp [b2, e5, e7, d0, hx]; rfl) ?_
        refine .cond (t := false) (by simp) (.exit ?_)
        refine fin _ ?_ (by simp) (by simp) (by simp) (by simp) (fun s h => h)
        rw [← g4, spanF, if_neg hx]
        rfl
    · obtain rfl : i2 = l.length := by omega
      refine .seq (.seq (.drawP (by rfl) ?_))
      refine drawP_run 2 (by rfl) (by simp [hq, e3, show q < n + 1 by omega]; rfl) ?_
      refine drawP_run 1 (by rfl) (by simp [-evLen, hL]; rfl) ?_
      refine drawP_all (by rfl) (by simp; rfl) ?_
      refine .cond (t := false) (by simp) (.exit ?_)
      refine fin _ ?_ (by simp) (by simp) (by simp) (by simp) (fun s h => h)
      rw [← g4, List.drop_length]
      rfl
  · obtain rfl : i = l.length := by omega
    refine .seq (.seq (.ops (opsF_run 2 (by simp [hq]; rfl) ?_)))
    refine opsF_all (by simp [-evLen, hL]; rfl) ?_
    refine .cond (t := false) (by simp) (.exit ?_)
    rw [List.drop_length] at hspan
    have hspan : [] = (spanL l).drop j := hspan
    have hlen : j = (spanL l).length := by
      have := congrArg List.length hspan
      rw [List.length_nil, List.length_drop] at this
      omega
    refine ⟨.inl rfl, rfl, [], by simp [F69], ?_⟩
    rw [← hlen]
    exact hinv
end Go.Proofs.Ytpgelghkjiejlaa
end
section
set_option maxRecDepth 4000
namespace Go.Proofs.Ytpgelghkjiejlaa
open Go
attribute [local irreducible] opsF drawF drawP
structure OfH (c7 : Nat) (KP : Nat → Blk → Prop) (n : Nat) (H : Heap) (fr : Bool) (mr : Nat) (row : List Rc) (fo : Bool) (mo : Nat) (out : List Rc) : Prop where
  cell : aget H c7 = some (.row true [slB fo mo 4 out.length])
  keep : ∀ b k, KP b k → aget H b = some k ∧ b ≠ c7 ∧ (fr = true → b ≠ mr) ∧ (fo = true → b ≠ mo)
  frn : fr = false → row = []
  fon : fo = false → out = []
  fot : fo = true → out ≠ []
  rowb : fr = true → mr ≠ c7 ∧ aget H mr = some (.row true (rcs row))
  outb : fo = true → mo ≠ c7 ∧ ∃ post, NoId post ∧ aget H mo = some (.row true (rcs out ++ post))
  ne : fr = true → fo = true → mr ≠ mo
namespace OfH
variable {c7 : Nat} {KP : Nat → Blk → Prop} {n n' : Nat} {H H' : Heap} {fr : Bool} {mr : Nat} {row : List Rc} {fo : Bool} {mo : Nat} {out : List Rc}
theorem grow (h : OfH c7 KP n H fr mr row fo mo out) (hH : ∀ b k, aget H b = some k → aget H' b = some k) : OfH c7 KP n' H' fr mr row fo mo out where
  cell := hH _ _ h.cell
  keep := fun b k hk => let ⟨a, r⟩ := h.keep b k hk; ⟨hH _ _ a, r⟩
  frn := h.frn
  fon := h.fon
  fot := h.fot
  rowb := fun hf => ⟨(h.rowb hf).1, hH _ _ (h.rowb hf).2⟩
  outb := fun hf => let ⟨a, p, hp, b⟩ := h.outb hf; ⟨a, p, hp, hH _ _ b⟩
  ne := h.ne
theorem rowS (h : OfH c7 KP n H fr mr row fo mo out) {fr' : Bool} {mr' : Nat} {row' : List Rc} (hH : ∀ b k, (fr = true → b ≠ mr) → aget H b = some k → aget H' b = some k) (h1 : fr' = false → row' = [])
    (h2 : fr' = true → mr' ≠ c7 ∧ aget H' mr' = some (.row true (rcs row'))) (h3 : fr' = true → fo = true → mr' ≠ mo) (h4 : fr' = true → ∀ b k, KP b k → b ≠ mr') : OfH c7 KP n' H' fr' mr' row' fo mo out where
  cell := hH _ _ (fun hf e => (h.rowb hf).1 e.symm) h.cell
  keep := fun b k hk => let ⟨a, r1, r2, r3⟩ := h.keep b k hk; ⟨hH _ _ r2 a, r1, fun hf => h4 hf b k hk, r3⟩
  frn := h1
  fon := h.fon
  fot := h.fot
  rowb := h2
  outb := fun hf => let ⟨a, p, hp, b⟩ := h.outb hf; ⟨a, p, hp, hH _ _ (fun hr e => h.ne hr hf e.symm) b⟩
  ne := h3
theorem outS (h : OfH c7 KP n H fr mr row fo mo out) {fo' : Bool} {mo' : Nat} {out' : List Rc} (hH : ∀ b k, b ≠ c7 → (fo = true → b ≠ mo) → aget H b = some k → aget H' b = some k) (hc : aget H' c7 = some (.row true [slB fo' mo' 4 out'.length])) (h1 : fo' = false → out' = []) (h1' : fo' = true → out' ≠ [])
    (h2 : fo' = true → mo' ≠ c7 ∧ ∃ post, NoId post ∧ aget H' mo' = some (.row true (rcs out' ++ post))) (h3 : fr = true → fo' = true → mr ≠ mo') (h4 : fo' = true → ∀ b k, KP b k → b ≠ mo') : OfH c7 KP n' H' fr mr row fo' mo' out' where
  cell := hc
  keep := fun b k hk => let ⟨a, r1, r2, r3⟩ := h.keep b k hk; ⟨hH _ _ r1 r3 a, r1, r2, fun hf => h4 hf b k hk⟩
  frn := h.frn
  fon := h1
  fot := h1'
  rowb := fun hf => ⟨(h.rowb hf).1, hH _ _ (h.rowb hf).1 (fun ho e => h.ne hf ho e) (h.rowb hf).2⟩
  outb := h2
  ne := h3
theorem kp (h : OfH c7 KP n H fr mr row fo mo out) {KP' : Nat → Blk → Prop} (hk : ∀ b k, KP' b k → KP b k ∨ (aget H b = some k ∧ b ≠ c7 ∧ (fr = true → b ≠ mr) ∧ (fo = true → b ≠ mo))) : OfH c7 KP' n H fr mr row fo mo out where
  cell := h.cell
  keep := fun b k hb => (hk b k hb).elim (h.keep b k) fun h => h
  frn := h.frn
  fon := h.fon
  fot := h.fot
  rowb := h.rowb
  outb := h.outb
  ne := h.ne
/-- A block that has just been laid is kept, too. -/
theorem add (h : OfH c7 KP n H fr mr row fo mo out) (hin : HIn n H) {b0 : Nat} {k0 : Blk} (hb : aget H' b0 = some k0) (hn : n ≤ b0) (hH : ∀ b k, aget H b = some k → aget H' b = some k) : OfH c7 (fun b k => KP b k ∨ (b = b0 ∧ k = k0)) n' H' fr mr row fo mo out :=
  (h.grow (n' := n') hH).kp fun b k hk => hk.imp (fun h => h) fun ⟨e1, e2⟩ => by
    subst e1 e2
    refine ⟨hb, ?_, fun hf => ?_, fun hf => ?_⟩
    · have := (hin _ _ h.cell).1; omega
    · have := (hin _ _ (h.rowb hf).2).1; omega
    · obtain ⟨_, p, _, hp⟩ := h.outb hf
      have := (hin _ _ hp).1; omega
/-- One block that is not spoken of is laid anew, or goes. -/
theorem chg (h : OfH c7 KP n H fr mr row fo mo out) {b0 : Nat} (hH : ∀ b k, b ≠ b0 → aget H b = some k → aget H' b = some k) (h1 : b0 ≠ c7) (h2 : fr = true → b0 ≠ mr) (h3 : fo = true → b0 ≠ mo) (h4 : ∀ k, ¬ KP b0 k) : OfH c7 KP n' H' fr mr row fo mo out where
  cell := hH _ _ (fun e => h1 e.symm) h.cell
  keep := fun b k hk => let ⟨a, r⟩ := h.keep b k hk; ⟨hH _ _ (fun e => h4 k (e ▸ hk)) a, r⟩
  frn := h.frn
  fon := h.fon
  fot := h.fot
  rowb := fun hf => ⟨(h.rowb hf).1, hH _ _ (fun e => h2 hf e.symm) (h.rowb hf).2⟩
  outb := fun hf => let ⟨a, p, hp, b⟩ := h.outb hf; ⟨a, p, hp, hH _ _ (fun e => h3 hf e.symm) b⟩
  ne := h.ne
theorem slRow (h : OfH c7 KP n H fr mr row fo mo out) : SlR H (slB fr mr 4 row.length) row := .ofB h.frn fun hf => ⟨true, [], by simpa using (h.rowb hf).2⟩
theorem slOut (h : OfH c7 KP n H fr mr row fo mo out) : SlR H (slB fo mo 4 out.length) out := .ofB h.fon fun hf => let ⟨_, p, _, hp⟩ := h.outb hf; ⟨true, p, hp⟩
theorem mr_lt (h : OfH c7 KP n H fr mr row fo mo out) (hin : HIn n H) (hf : fr = true) : mr < n := (hin _ _ (h.rowb hf).2).1
theorem mo_lt (h : OfH c7 KP n H fr mr row fo mo out) (hin : HIn n H) (hf : fo = true) : mo < n := let ⟨_, p, _, hp⟩ := h.outb hf; (hin _ _ hp).1
theorem c7_lt (h : OfH c7 KP n H fr mr row fo mo out) (hin : HIn n H) : c7 < n := (hin _ _ h.cell).1
theorem kp_lt (h : OfH c7 KP n H fr mr row fo mo out) (hin : HIn n H) {b : Nat} {k : Blk} (hk : KP b k) : b < n := (hin _ _ (h.keep b k hk).1).1
end OfH
def oT (rc : Nat) (SA SY : V) (c7 : Nat) (Sr : V) (ab nx i : Nat) : Temps := [(2, .p rc 0), (3, SA), (6, SY), (7, .p c7 0), (8, Sr), (9, .i .i64 ab), (10, .i .i64 nx), (11, .i .i64 i)]
theorem ints_at (l : List Int) (i : Nat) (h : i < l.length) : (ints l)[i]? = some (.i .i64 l[i]) := by simp [ints, h]
/-- The slots in a round. -/
def oR (rc : Nat) (SA SY : V) (c7 : Nat) (Sr : V) (ab nx i c12 c13 ca : Nat) : Temps := [(2, .p rc 0), (3, SA), (6, SY), (7, .p c7 0), (8, Sr), (9, .i .i64 ab), (10, .i .i64 nx), (11, .i .i64 i), (12, .p c12 0), (13, .p c13 0), (14, .i .i64 ca)]
theorem St.less_F {T T0 : Temps} {D : List Nat} {n : Nat} {H : Heap} (hD : ∀ m ∈ D, m < n) (hT : (T0.map fun p => aget T p.1) = T0.map fun p => some p.2) : St.less ⟨T0, D, n, H⟩ ⟨T, D, n, H⟩ :=
  ⟨fun i v hv => ⟨List.map_inj_left.1 hT (i, v) (aget_mem hv), .inl rfl⟩, rfl, hD, ⟨Nat.le_refl _, fun _ _ h => h, .inl rfl⟩⟩
/-- The round's row, and the one below. -/
theorem ofA {N : Nat} {Q : Exit → St → Prop} {yc : ACode} (rc : Nat) (SA : V) (my c7 : Nat) (full : Bool) (Sr : V) (ab nx i : Nat) (ys : List Int) (pys : List V) (hi : i + 1 < ys.length) (hyl : ys.length ≤ 1000000000) (D : List Nat) (n : Nat) (H : Heap) (o : Bool) (hmy : aget H my = some (.row o (ints ys ++ pys)))
    (hQ : AWc Try.prog N none yc ⟨(13, .p (n + 1) 0) :: (12, .p n 0) :: oT rc SA (.sl my 0 1 ys.length full) c7 Sr ab nx i, D, n + 2, (n + 1, .row true [.i .i64 ys[i + 1]]) :: (n, .row true [.i .i64 (ys[i]'(by omega))]) :: H⟩ Q) :
    AWc Try.prog N none (.seq (.ops (some [0, 0, 3, 7, 0, 0, 32, 112, 240, 0, 0, 1551, 4095]) [⟨(some 42), (.mv (.t 6)), none⟩,
           ⟨(some 43), (.mv (.t 11)), none⟩,
           ⟨(some 44), (.ias 1 (.t 42) (.t 43)), none⟩,
           ⟨(some 45), (.ld false 1 (.t 44)), none⟩,
           ⟨(some 46), (.mv (.t 6)), none⟩,
           ⟨(some 47), (.mv (.t 11)), none⟩,
           ⟨(some 48), (.bin .add (.t 47) (.c (.i .i64 1))), none⟩,
           ⟨(some 49), (.ias 1 (.t 46) (.t 48)), none⟩,
           ⟨(some 50), (.ld false 1 (.t 49)), none⟩,
           ⟨(some 12), (.new [(.i .i64 0)]), none⟩,
           ⟨(some 13), (.new [(.i .i64 0)]), none⟩,
           ⟨none, (.st 1 (.t 12) (.t 45)), none⟩,
           ⟨none, (.st 1 (.t 13) (.t 50)), none⟩]) yc) ⟨oT rc SA (.sl my 0 1 ys.length full) c7 Sr ab nx i, D, n, H⟩ Q := by
  refine .withIn fun hin => ?_
  have hmn := (hin my _ hmy).1
  have g1 : (ints ys ++ pys)[i]? = some (.i .i64 (ys[i]'(by omega))) := ints_get ys pys i (by omega)
  have g2 : (ints ys ++ pys)[i + 1]? = some (.i .i64 ys[i + 1]) := ints_get ys pys (i + 1) hi
  generalize ys[i]'(by omega) = y1 at g1 hQ
  generalize ys[i + 1] = y2 at g2 hQ
  generalize ints ys ++ pys = cs at g1 g2 hmy
  have hi1 : (i : Int) < ys.length := by omega
  have hi2 : ((i + 1 : Nat) : Int) < ys.length := by omega
  have hi0 : (0 : Int) ≤ ((i + 1 : Nat) : Int) := by omega
  have hwi : IntKind.i64.wrap ((i : Int) + 1) = ((i + 1 : Nat) : Int) := IntWalk.i64_in _ (by omega)
  have htn : ((i + 1 : Nat) : Int).toNat = i + 1 := by omega
  generalize ((i + 1 : Nat) : Int) = i1 at hi2 hi0 hwi htn
  have hmn' : my < n := hmn
  have e1 : ¬ n = my := by omega
  have e2 : ¬ n + 1 = my := by omega
  have e3 : ¬ n ≤ my := by omega
  refine .seq (.drawS (by rfl) ?_)
  refine drawF_run 4 (by rfl) (by simp [oT, hi1, hmy, hmn', g1]; exact ⟨rfl, rfl⟩) ?_
  refine drawF_run 5 (by rfl) (by simp [hwi, hi2, hi0, htn, hmy, hmn', g2]; exact ⟨rfl, rfl⟩) ?_
  have e4 : ¬ n + 1 ≤ n := by omega
  refine drawF_all (by rfl) (by simp [setAll, Blk.own, e3, e4]; exact ⟨rfl, rfl⟩) ⟨?_, ?_⟩
  · simp [heapOk, heapRow, heavy, heapI, e1, e2, e3]
    try decide
  refine AWc.forget (T0 := (13, .p (n + 1) 0) :: (12, .p n 0) :: oT rc SA (.sl my 0 1 ys.length full) c7 Sr ab nx i) (by simp [oT]) ?_
  refine AWc.alikeH (H := (n + 1, .row true [.i .i64 y2]) :: (n, .row true [.i .i64 y1]) :: H) (fun b => ?_) hQ
  simp only [aget_mergeH, aget_cons, touch, aget_nil, List.contains_cons, List.contains_nil]
  by_cases hb : n = b
  · subst hb; simp
  · by_cases hb' : n + 1 = b
    · subst hb'; simp
    · have q1 : ¬ (b = n) := fun h => hb h.symm
      have q2 : ¬ (b = n + 1) := fun h => hb' h.symm
      simp [hb, hb', q1, q2]
      repeat' split
      all_goals first | rfl | (exfalso; omega)
/-- The rectangles that have ended leave the row. -/
theorem ofB {N : Nat} {Q : Exit → St → Prop} {yc : ACode} (rc : Nat) (SA SY : V) (c7 ab nx i c12 c13 : Nat) (y : Int) {KP : Nat → Blk → Prop} {fr : Bool} {mr : Nat} {row : List Rc} {fo : Bool} {mo : Nat} {out : List Rc} (D : List Nat) (n : Nat) (H : Heap)
    (h : OfH c7 KP n H fr mr row fo mo out) (h12 : KP c12 (.row true [.i .i64 y])) (hl : row.length ≤ 1000000000)
    (hQ : ∀ H', OfH c7 KP n H' fr mr (keepV y row) fo mo out → AWc Try.prog N none yc ⟨oR rc SA SY c7 (slB fr mr 4 (keepV y row).length) ab nx i c12 c13 nx, D, n, H'⟩ Q) :
    AWc Try.prog N none (.seq (.ops none [⟨(some 51), (.mv (.t 8)), none⟩,
            ⟨(some 52), (.mkf 55 [] [(.t 12)]), none⟩,
            ⟨(some 53), (.call (.f 54) [(.t 51), (.t 52)]), none⟩,
            ⟨(some 8), (.mv (.t 53)), none⟩]) (.seq (.ops none [⟨(some 54), (.mv (.t 10)), none⟩,
            ⟨(some 14), (.mv (.t 54)), none⟩]) yc)) ⟨(13, .p c13 0) :: (12, .p c12 0) :: oT rc SA SY c7 (slB fr mr 4 row.length) ab nx i, D, n, H⟩ Q := by
  obtain ⟨k1, k2, k3, k4⟩ := h.keep _ _ h12
  have hd := delete_ok fr mr row [] (by simp [NoId]) c12 y true hl n H h.frn (fun hf => by simpa using (h.rowb hf).2) (fun hf e => k3 hf e.symm) k1
  refine AWc.seq (.ops (opsF_run 2 (by simp [oT]; rfl) ?_))
  refine opsF_cons_callX rfl rfl rfl (by simpa using hd) ?_
  refine opsF_all (by simp; rfl) ?_
  refine AWc.seq (.ops (opsF_all (by simp; rfl) ?_))
  refine AWc.forget (T0 := oR rc SA SY c7 (slB fr mr 4 (keepV y row).length) ab nx i c12 c13 nx) (by simp [oR]) (hQ _ ?_)
  refine h.rowS (fun b k hb hk => ?_) (fun hf => by rw [h.frn hf]; rfl) (fun hf => ⟨(h.rowb hf).1, ?_⟩) h.ne (fun hf b k hk => (h.keep b k hk).2.2.1 hf)
  · cases fr with
    | false => exact hk
    | true => rw [if_pos rfl, aget_put, if_neg (fun e => hb rfl e.symm)]; exact hk
  · subst hf
    rw [if_pos rfl, aget_put, if_pos rfl]
/-- The rectangles that begin at the row. -/
def newL (y : Int) (l : List Rc) : List Rc := l.takeWhile fun r => r.y == y
theorem newL_cons {y : Int} {r : Rc} {l : List Rc} (h : r.y = y) : newL y (r :: l) = r :: newL y l := by simp [newL, h]
theorem newL_stop {y : Int} {r : Rc} {l : List Rc} (h : ¬ r.y = y) : newL y (r :: l) = [] := by simp [newL, h]
theorem ofD {N : Nat} {Q : Exit → St → Prop} {yc : ACode} (rc : Nat) (SA SY : V) (c7 ab nx i c12 c13 : Nat) (y : Int) (all : List Rc) {KP : Nat → Blk → Prop} {fr : Bool} {mr : Nat} {row : List Rc} {fo : Bool} {mo : Nat} {out : List Rc} (D : List Nat) (n : Nat) (H : Heap)
    (h : OfH c7 KP n H fr mr row fo mo out) (h12 : KP c12 (.row true [.i .i64 y])) (hD : ∀ m ∈ D, KP m .marks) (hSA : ∀ H, (∀ b k, KP b k → aget H b = some k) → SlR H SA all) (hall : all.length ≤ 1000000) (hnx : nx ≤ all.length) (hrow : row.length ≤ nx)
    (hQ : ∀ n' H' fr' mr', n ≤ n' → OfH c7 KP n' H' fr' mr' (row ++ newL y (all.drop nx)) fo mo out → AWc Try.prog N none yc ⟨oR rc SA SY c7 (slB fr' mr' 4 (row ++ newL y (all.drop nx)).length) ab (nx + (newL y (all.drop nx)).length) i c12 c13 nx, D, n', H'⟩ Q) :
    AWc Try.prog N none (.seq (.block 4 (.loop (.seq (.seq (.ops (some [0, 0, 2, 7, 15, 31, 31, 127, 255, 511, 31, 2047, 4095]) [⟨(some 55), (.mv (.t 10)), none⟩,
               ⟨(some 56), (.mv (.t 3)), none⟩,
               ⟨(some 57), (.blen false (.t 56)), none⟩,
               ⟨(some 58), (.bin .lss (.t 55) (.t 57)), none⟩,
               ⟨(some 59), (.mv (.t 58)), none⟩,
               ⟨(some 60), (.mv (.t 3)), (some ((some 59), true))⟩,
               ⟨(some 61), (.mv (.t 10)), (some ((some 59), true))⟩,
               ⟨(some 62), (.ias 4 (.t 60) (.t 61)), (some ((some 59), true))⟩,
               ⟨(some 63), (.fa 1 (.t 62)), (some ((some 59), true))⟩,
               ⟨(some 64), (.ld false 1 (.t 63)), (some ((some 59), true))⟩,
               ⟨(some 65), (.ld false 1 (.t 12)), (some ((some 59), true))⟩,
               ⟨(some 66), (.bin .eql (.t 64) (.t 65)), (some ((some 59), true))⟩,
               ⟨(some 67), (.pick (.t 59) (.t 66) (.c (.b false))), none⟩])
             (.cond (.t 67)
              (.skip)
              (.exit 4)))
             (.block 5 (.seq (.ops none [⟨(some 68), (.mv (.t 8)), none⟩,
               ⟨(some 69), (.mv (.t 3)), none⟩,
               ⟨(some 70), (.mv (.t 10)), none⟩,
               ⟨(some 71), (.ias 4 (.t 69) (.t 70)), none⟩,
               ⟨(some 72), (.ld true 4 (.t 71)), none⟩,
               ⟨(some 73), (.lit 4 1 [(.i .i64 0), (.i .i64 0), (.i .i64 0), (.i .i64 0)] [(0, (.t 72))]), none⟩,
               ⟨(some 74), (.app 4 32 [(.i .i64 0), (.i .i64 0), (.i .i64 0), (.i .i64 0)] (.t 68) (.t 73)), none⟩,
               ⟨(some 8), (.mv (.t 74)), none⟩])
              (.ops none [⟨(some 75), (.mv (.t 10)), none⟩,
               ⟨(some 76), (.bin .add (.t 75) (.c (.i .i64 1))), none⟩,
               ⟨(some 10), (.mv (.t 76)), none⟩])))))) yc) ⟨oR rc SA SY c7 (slB fr mr 4 row.length) ab nx i c12 c13 nx, D, n, H⟩ Q := by
  refine .withIn fun hin0 => ?_
  refine .seq (.block (.loop (k₀ := all.length - nx) (s₀ := ⟨oR rc SA SY c7 (slB fr mr 4 row.length) ab nx i c12 c13 nx, D, n, H⟩)
    (fun k st => ∃ (j n' : Nat) (H' : Heap) (fr' : Bool) (mr' : Nat) (cur : List Rc), nx ≤ j ∧ j ≤ all.length ∧ cur.length ≤ j ∧ k = all.length - j ∧ n ≤ n' ∧ OfH c7 KP n' H' fr' mr' cur fo mo out ∧ (cur ++ newL y (all.drop j) = row ++ newL y (all.drop nx)) ∧ (j + (newL y (all.drop j)).length = nx + (newL y (all.drop nx)).length) ∧
      st = ⟨oR rc SA SY c7 (slB fr' mr' 4 cur.length) ab j i c12 c13 nx, D, n', H'⟩)
    ⟨nx, n, H, fr, mr, row, Nat.le_refl _, hnx, hrow, rfl, Nat.le_refl _, h, rfl, rfl, rfl⟩ (St.less_F (fun m hm => h.kp_lt hin0 (hD m hm)) (by simp [oR])) (Nat.le_refl _) (fun k st ⟨j, n', H', fr', mr', cur, h1, h2, h3, h4, h5, h6, h7, h8, h9⟩ => by rw [h9]; exact h5) ?_))
  rintro k st ⟨j, n', H', fr', mr', cur, h1, h2, h3, rfl, h5, h6, h7, h8, rfl⟩
  refine .withIn fun hin => ?_
  have hin : HIn n' H' := hin
  have hS := hSA H' (fun b k hk => (h6.keep b k hk).1)
  have hL := hS.len
  obtain ⟨k12, k12a, k12b, k12c⟩ := h6.keep _ _ h12
  have hc12 := (hin _ _ k12).1
  have hDn : ∀ m ∈ D, m < n' := fun m hm => h6.kp_lt hin (hD m hm)
  by_cases hj : j < all.length
  · obtain ⟨id, q, o, cs, hA⟩ := hS.at hj
    have a1 := hA.ias
    have a2 := hA.get
    have a3 := hA.len
    have a4 := hA.at4
    have c1 := hA.c1
    have hid := (hin id _ a2).1
    have hj' : (j : Int) < all.length := by omega
    have hwj : IntKind.i64.wrap ((j : Int) + 1) = ((j + 1 : Nat) : Int) := IntWalk.i64_in _ (by omega)
    have hd : all.drop j = all[j] :: all.drop (j + 1) := List.drop_eq_getElem_cons hj
    rw [hd] at h7 h8
    generalize all[j] = r at a4 c1 h7 h8
    refine .seq (.seq (.drawP (by rfl) ?_))
    refine drawP_run 5 (by rfl) (by simp [oR, -evLen, hL, hj']; rfl) ?_
    refine drawP_run 3 (by rfl) (by simp [-evIas, a1]; rfl) ?_
    refine drawP_run 3 (by rfl) (by simp [a2, hid, c1, k12, hc12]; rfl) ?_
    by_cases hy : r.y = y
    · have hyb : (r.y == y) = true := by simp [hy]
      refine drawP_all (by rfl) (by simp [hyb]; rfl) ?_
      refine .cond (t := true) (by simp) (.skip ?_)
      refine AWc.forget (T0 := oR rc SA SY c7 (slB fr' mr' 4 cur.length) ab j i c12 c13 nx) (by simp [oR]) ?_
      rw [newL_cons hy] at h7 h8
      have e1 : ¬ n' = id := by omega
      refine .block (.seq (.ops (opsF_run 4 (by simp [oR, -evIas, a1]; rfl) ?_)))
      refine opsF_run 2 (by simp [a2, a3, a4, rc4, setAll]; rfl) ?_
      have hrb : fr' = true → mr' < n' := fun hf => h6.mr_lt hin hf
      refine opsF_cons_app (f := fr') (m := mr') (len := cur.length) (cs := rcs cur) (k := 1) (new := rc4 r) rfl rfl rfl (fun hf => by rw [h6.frn hf]; exact ⟨rfl, rfl⟩) (fun hf => ⟨[], by have := hrb hf; simp [aget_cons, show ¬ n' = mr' by omega, (h6.rowb hf).2]⟩) (by rw [rcs_len]; omega) rfl (by simp [rc4]) (by simp [rc4]) rfl (by omega) (by omega) ?_
      refine opsF_all (by simp; rfl) ?_
      refine .ops (opsF_all (by simp [hwj]; rfl) ?_)
      refine ⟨all.length - (j + 1), ⟨oR rc SA SY c7 (slB true (n' + 1) 4 (cur ++ [r]).length) ab (j + 1) i c12 c13 nx, D, n' + 2, _⟩, by omega, ⟨j + 1, n' + 2, _, true, n' + 1, cur ++ [r], by omega, by omega, by simp; omega, rfl, by omega, ?_, by simpa using h7, by simp at h8; omega, rfl⟩, St.less_F (fun m hm => by have := hDn m hm; omega) (by simp [oR, slB])⟩
      refine h6.rowS (fun b k hb hk => ?_) (by simp) (fun _ => ⟨?_, ?_⟩) (fun _ hf => ?_) (fun _ b k hk => ?_)
      · have hbn := (hin _ _ hk).1
        rw [aget_cons, if_neg (by omega)]
        cases fr' with
        | false => rw [if_neg (by simp), aget_cons, if_neg (by omega)]; exact hk
        | true => rw [if_pos rfl, aget_del, if_neg (fun e => hb rfl e.symm), aget_cons, if_neg (by omega)]; exact hk
      · have := h6.c7_lt hin; omega
      · rw [aget_cons, if_pos rfl, rcs_append]; simp [rcs]
      · have := h6.mo_lt hin hf; omega
      · have := h6.kp_lt hin hk; omega
    · have hyb : (r.y == y) = false := by simp [hy]
      refine drawP_all (by rfl) (by simp [hyb]; rfl) ?_
      refine .cond (t := false) (by simp) (.exit ?_)
      rw [newL_stop hy] at h7 h8
      refine AWc.forget (T0 := oR rc SA SY c7 (slB fr' mr' 4 cur.length) ab j i c12 c13 nx) (by simp [oR]) ?_
      have := hQ n' H' fr' mr' h5 (by rw [← h7]; simpa using h6)
      rw [← h7, ← h8] at this
      simpa using this
  · obtain rfl : j = all.length := by omega
    rw [List.drop_length] at h7 h8
    refine .seq (.seq (.drawP (by rfl) ?_))
    refine drawP_run 5 (by rfl) (by simp [oR, -evLen, hL]; rfl) ?_
    refine drawP_all (by rfl) (by simp; rfl) ?_
    refine .cond (t := false) (by simp) (.exit ?_)
    refine AWc.forget (T0 := oR rc SA SY c7 (slB fr' mr' 4 cur.length) ab all.length i c12 c13 nx) (by simp [oR]) ?_
    have := hQ n' H' fr' mr' h5 (by rw [← h7]; simpa [newL] using h6)
    rw [← h7, ← h8] at this
    simpa [newL] using this
/-- The row is put in order, if any came. -/
def ordL (row new : List Rc) : List Rc := if new.length = 0 then row ++ new else sortBy cmpX (row ++ new)
theorem ordL_len (row new : List Rc) : (ordL row new).length = row.length + new.length := by
  unfold ordL
  split
  · simp
  · rw [sortBy_len _ swoX]; simp
theorem ofE {N : Nat} {Q : Exit → St → Prop} {yc : ACode} (rc : Nat) (SA SY : V) (c7 ab nx i c12 c13 : Nat) {KP : Nat → Blk → Prop} {fr : Bool} {mr : Nat} {row new : List Rc} {fo : Bool} {mo : Nat} {out : List Rc} (D : List Nat) (n : Nat) (H : Heap)
    (h : OfH c7 KP n H fr mr (row ++ new) fo mo out) (hl : (row ++ new).length ≤ 1000000000)
    (hQ : ∀ H', OfH c7 KP n H' fr mr (ordL row new) fo mo out → AWc Try.prog N none yc ⟨(15, .i .i64 out.length) :: oR rc SA SY c7 (slB fr mr 4 (ordL row new).length) ab (nx + new.length) i c12 c13 nx, D, n, H'⟩ Q) :
    AWc Try.prog N none (.seq (.seq (.ops none [⟨(some 77), (.mv (.t 10)), none⟩,
              ⟨(some 78), (.mv (.t 14)), none⟩,
              ⟨(some 79), (.bin .gtr (.t 77) (.t 78)), none⟩])
            (.cond (.t 79)
             (.ops none [⟨(some 80), (.mv (.t 8)), none⟩,
               ⟨(some 81), (.call (.f 49) [(.t 80), (.f 56)]), none⟩])
             (.skip)))
            (.seq (.ops none [⟨(some 82), (.ld false 1 (.t 7)), none⟩,
              ⟨(some 83), (.blen false (.t 82)), none⟩,
              ⟨(some 15), (.mv (.t 83)), none⟩]) yc)) ⟨oR rc SA SY c7 (slB fr mr 4 (row ++ new).length) ab (nx + new.length) i c12 c13 nx, D, n, H⟩ Q := by
  have hend : ∀ H', OfH c7 KP n H' fr mr (ordL row new) fo mo out → AWc Try.prog N none (.seq (.ops none [⟨(some 82), (.ld false 1 (.t 7)), none⟩,
              ⟨(some 83), (.blen false (.t 82)), none⟩,
              ⟨(some 15), (.mv (.t 83)), none⟩]) yc) ⟨oR rc SA SY c7 (slB fr mr 4 (ordL row new).length) ab (nx + new.length) i c12 c13 nx, D, n, H'⟩ Q := by
    intro H' h'
    have hc := h'.cell
    have hL := h'.slOut.len
    refine AWc.seq (.ops (opsF_all (by simp [oR, -evLen, hc, hL]; rfl) ?_))
    exact AWc.forget (T0 := (15, .i .i64 out.length) :: oR rc SA SY c7 (slB fr mr 4 (ordL row new).length) ab (nx + new.length) i c12 c13 nx) (by simp [oR]) (hQ _ h')
  by_cases hn : new.length = 0
  · have e : ordL row new = row ++ new := by rw [ordL, if_pos hn]
    rw [e] at hend
    have hg : ¬ ((nx : Int) < ((nx + new.length : Nat) : Int)) := by omega
    refine AWc.seq (.seq (.ops (opsF_all (by simp only [oR]; simp; rfl) ?_)))
    refine .cond (t := false) (by simp [hn]) (.skip ?_)
    exact AWc.forget (T0 := oR rc SA SY c7 (slB fr mr 4 (row ++ new).length) ab (nx + new.length) i c12 c13 nx) (by simp [oR]) (hend _ h)
  · have e : ordL row new = sortBy cmpX (row ++ new) := by rw [ordL, if_neg hn]
    have e2 : (ordL row new).length = (row ++ new).length := by rw [ordL_len]; simp
    rw [e2] at hend
    have hne : row ++ new ≠ [] := by intro hh; simp at hh; exact hn (by rw [hh.2]; rfl)
    have hft : fr = true := by
      cases fr with
      | false => exact absurd (h.frn rfl) hne
      | true => rfl
    subst hft
    obtain ⟨hm1, hm2⟩ := h.rowb rfl
    have hs := sort49 56 cmpX cmpX_pure swoX mr false [] (row ++ new) (by omega) n H (by simpa using hm2)
    rw [if_neg hne] at hs
    refine AWc.seq (.seq (.ops (opsF_all (by simp only [oR]; simp; rfl) ?_)))
    refine .cond (t := true) (by simp; omega) (.ops (opsF_run 1 (by simp; rfl) ?_))
    refine opsF_cons_callX rfl rfl rfl (by simpa [slB] using hs) ?_
    refine opsF_nil ?_
    refine AWc.forget (T0 := oR rc SA SY c7 (slB true mr 4 (row ++ new).length) ab (nx + new.length) i c12 c13 nx) (by simp [oR]) (hend _ ?_)
    refine h.rowS (fun b k hb hk => ?_) (by simp) (fun _ => ⟨hm1, ?_⟩) h.ne (fun hf b k hk => (h.keep b k hk).2.2.1 hf)
    · rw [aget_put, if_neg (fun e => hb rfl e.symm)]; exact hk
    · rw [aget_put, if_pos rfl, e]
end Go.Proofs.Ytpgelghkjiejlaa
end
