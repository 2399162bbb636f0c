/-
  No cell of these rows narrows 'for every input' (looked for: loops, veiled, ifaces, maps, wideKeys, modest, calm, conditions, laid).
  DERIVED. THE GIVEN ROWS OF THIS SEAT. 4 by the template 'for every input the law returns true; each argument reads behind the call as it read before'; 0 by the template 'total and deterministic' (their statements: YtpgelghkjiejlaaTotals.lean).
  GIVEN WITH THE SEED: the statements are not yours to turn. If you find one false, say at which input.
  Laid BY PROGRAM, IN A SANDBOX (cutbox-rows.mjs): the forced cells as the released guide's own fill.sh prints them over the translation d73103ef9825aeda… (all of the seat's roots in one cut). By AI agents, Wed Nov 11 2026. No macro, syntax, notation, axiom, sorry.
-/
import Derived.Test.YtpgelghkjiejlaaChecked
import GoSem.Claim
import GoSem.ClaimJoined
import GoSem.ClaimMapViews
import Derived.JoinedTies
import Derived.KernelRfl
namespace Go.Proofs.Ytpgelghkjiejlaa
/- THE CELL 'sum', in the pinned program and in every row, IS THE sha256 OF THE DUMP (.gsa) THAT YtpgelghkjiejlaaProg.lean LOADS. Nothing in Lean hashes anything: it is a label: what it is worth is what the hold of that sum in a sandbox is worth. -/
noncomputable def Try.pinned : Pinned := { name := "ytpgelghkjiejlaa", sum := "d73103ef9825aedad4402d249146b564a6829793adec5c776aa7d3efe97c2577", checked := Try.checked }
namespace Rows
def none {H : Type} : Left H := { results := [], args := [] }

/-- 'glazierlaw27.TextPlaces': WHATEVER THE INPUT: true; the input reads as it did. -/
def textPlacesSpec : ChangeSpec := { name := "textPlaces", fn := fun _ => fun
  | [d1, d2, d3, d4] => { results := [.lit (.bool true)], args := [d1, d2, d3, d4] }
  | _ => none }
def textPlacesRow : OpenClaim := { program := "ytpgelghkjiejlaa", sum := "d73103ef9825aedad4402d249146b564a6829793adec5c776aa7d3efe97c2577", func := "glazier/glazierlaw27.TextPlaces", spec := "textPlaces", unfollowed := true, recurses := true, apart := false }
def TextPlacesSaid : Prop := textPlacesRow.holds Try.pinned (OpenSpec.ofChange textPlacesSpec)

/-- ITS FALSE NEIGHBOUR: 'it returns false'. Refute it at one input. -/
def textPlacesWrong : ChangeSpec := { name := "textPlaces", fn := fun _ => fun
  | [d1, d2, d3, d4] => { results := [.lit (.bool false)], args := [d1, d2, d3, d4] }
  | _ => none }
def TextPlacesWrongFalsely : Prop := textPlacesRow.holds Try.pinned (OpenSpec.ofChange textPlacesWrong)

/-- 'glazierlaw27.TextFinds': WHATEVER THE INPUT: true; the input reads as it did. -/
def textFindsSpec : ChangeSpec := { name := "textFinds", fn := fun _ => fun
  | [d1, d2, d3] => { results := [.lit (.bool true)], args := [d1, d2, d3] }
  | _ => none }
def textFindsRow : OpenClaim := { program := "ytpgelghkjiejlaa", sum := "d73103ef9825aedad4402d249146b564a6829793adec5c776aa7d3efe97c2577", func := "glazier/glazierlaw27.TextFinds", spec := "textFinds", unfollowed := true, recurses := true, apart := false }
def TextFindsSaid : Prop := textFindsRow.holds Try.pinned (OpenSpec.ofChange textFindsSpec)

/-- ITS FALSE NEIGHBOUR: 'it returns false'. Refute it at one input. -/
def textFindsWrong : ChangeSpec := { name := "textFinds", fn := fun _ => fun
  | [d1, d2, d3] => { results := [.lit (.bool false)], args := [d1, d2, d3] }
  | _ => none }
def TextFindsWrongFalsely : Prop := textFindsRow.holds Try.pinned (OpenSpec.ofChange textFindsWrong)

/-- 'glazierlaw27.TextLong': WHATEVER THE INPUT: true; the input reads as it did. -/
def textLongSpec : ChangeSpec := { name := "textLong", fn := fun _ => fun
  | [] => { results := [.lit (.bool true)], args := [] }
  | _ => none }
def textLongRow : OpenClaim := { program := "ytpgelghkjiejlaa", sum := "d73103ef9825aedad4402d249146b564a6829793adec5c776aa7d3efe97c2577", func := "glazier/glazierlaw27.TextLong", spec := "textLong", unfollowed := true, recurses := true, apart := false }
def TextLongSaid : Prop := textLongRow.holds Try.pinned (OpenSpec.ofChange textLongSpec)

/-- ITS FALSE NEIGHBOUR: 'it returns false'. Refute it at one input. -/
def textLongWrong : ChangeSpec := { name := "textLong", fn := fun _ => fun
  | [] => { results := [.lit (.bool false)], args := [] }
  | _ => none }
def TextLongWrongFalsely : Prop := textLongRow.holds Try.pinned (OpenSpec.ofChange textLongWrong)

/-- 'glazierlaw27.TextRegions': WHATEVER THE INPUT: true; the input reads as it did. -/
def textRegionsSpec : ChangeSpec := { name := "textRegions", fn := fun _ => fun
  | [d1, d2, d3, d4] => { results := [.lit (.bool true)], args := [d1, d2, d3, d4] }
  | _ => none }
def textRegionsRow : OpenClaim := { program := "ytpgelghkjiejlaa", sum := "d73103ef9825aedad4402d249146b564a6829793adec5c776aa7d3efe97c2577", func := "glazier/glazierlaw27.TextRegions", spec := "textRegions", unfollowed := true, recurses := true, apart := false }
def TextRegionsSaid : Prop := textRegionsRow.holds Try.pinned (OpenSpec.ofChange textRegionsSpec)

/-- ITS FALSE NEIGHBOUR: 'it returns false'. Refute it at one input. -/
def textRegionsWrong : ChangeSpec := { name := "textRegions", fn := fun _ => fun
  | [d1, d2, d3, d4] => { results := [.lit (.bool false)], args := [d1, d2, d3, d4] }
  | _ => none }
def TextRegionsWrongFalsely : Prop := textRegionsRow.holds Try.pinned (OpenSpec.ofChange textRegionsWrong)

/- THE SECOND FORM. 'bulk': how many values and letters a reading holds, each counted each time it is reached (what is shared counts as often as it is met; a slice's spare places count too). A statement '..UptoSaid' is the law's where the arguments, and the package variables that the reading takes, are together of bulk at most 1048576: NARROWER than '..Said'. Prove '..Said' where nothing that the law and all that it calls make is longer than what came in: it says more and counts as full. Else prove '..UptoSaid'. A law counts once. -/
mutual
def uptoBulk {H : Type} : DataW H → Nat
  | .lit (.string bytes) => bytes.length + 1
  | .lit _ => 1
  | .nil => 1
  | .ptr d => uptoBulk d + 1
  | .slice elems spare => uptoBulkAll elems + uptoBulkAll spare + 1
  | .agg parts => uptoBulkAll parts + 1
  | .iface _ d => uptoBulk d + 1
  | .map entries => uptoBulkEntries entries + 1
  | .held _ => 1
def uptoBulkAll {H : Type} : List (DataW H) → Nat
  | [] => 0
  | d :: r => uptoBulk d + uptoBulkAll r
def uptoBulkEntries {H : Type} : List (Lit × DataW H) → Nat
  | [] => 0
  | x :: r => uptoBulkEntry x + uptoBulkEntries r
def uptoBulkEntry {H : Type} : Lit × DataW H → Nat
  | (.string bytes, d) => bytes.length + uptoBulk d + 1
  | (_, d) => uptoBulk d + 1
 end
def uptoSmall : (H : Type) → List (DataW H) → Bool := fun _ ds => decide (uptoBulkAll ds ≤ 1048576)
def OpenSpec.upto (s : _root_.Go.ChangeSpec) : _root_.Go.OpenSpec := { _root_.Go.OpenSpec.ofChange s with cond := some uptoSmall }

/-- 'glazierlaw27.TextPlaces', WHERE WHAT IT READS IS OF BULK AT MOST 1048576: true; the input reads as it did. -/
def textPlacesUptoRow : OpenClaim := { program := "ytpgelghkjiejlaa", sum := "d73103ef9825aedad4402d249146b564a6829793adec5c776aa7d3efe97c2577", func := "glazier/glazierlaw27.TextPlaces", spec := "textPlaces", unfollowed := true, recurses := true, apart := false, narrowed := true }
def TextPlacesUptoSaid : Prop := textPlacesUptoRow.holds Try.pinned (OpenSpec.upto textPlacesSpec)

/-- 'glazierlaw27.TextFinds', WHERE WHAT IT READS IS OF BULK AT MOST 1048576: true; the input reads as it did. -/
def textFindsUptoRow : OpenClaim := { program := "ytpgelghkjiejlaa", sum := "d73103ef9825aedad4402d249146b564a6829793adec5c776aa7d3efe97c2577", func := "glazier/glazierlaw27.TextFinds", spec := "textFinds", unfollowed := true, recurses := true, apart := false, narrowed := true }
def TextFindsUptoSaid : Prop := textFindsUptoRow.holds Try.pinned (OpenSpec.upto textFindsSpec)

/-- 'glazierlaw27.TextLong', WHERE WHAT IT READS IS OF BULK AT MOST 1048576: true; the input reads as it did. -/
def textLongUptoRow : OpenClaim := { program := "ytpgelghkjiejlaa", sum := "d73103ef9825aedad4402d249146b564a6829793adec5c776aa7d3efe97c2577", func := "glazier/glazierlaw27.TextLong", spec := "textLong", unfollowed := true, recurses := true, apart := false, narrowed := true }
def TextLongUptoSaid : Prop := textLongUptoRow.holds Try.pinned (OpenSpec.upto textLongSpec)

/-- 'glazierlaw27.TextRegions', WHERE WHAT IT READS IS OF BULK AT MOST 1048576: true; the input reads as it did. -/
def textRegionsUptoRow : OpenClaim := { program := "ytpgelghkjiejlaa", sum := "d73103ef9825aedad4402d249146b564a6829793adec5c776aa7d3efe97c2577", func := "glazier/glazierlaw27.TextRegions", spec := "textRegions", unfollowed := true, recurses := true, apart := false, narrowed := true }
def TextRegionsUptoSaid : Prop := textRegionsUptoRow.holds Try.pinned (OpenSpec.upto textRegionsSpec)

end Rows
end Go.Proofs.Ytpgelghkjiejlaa
