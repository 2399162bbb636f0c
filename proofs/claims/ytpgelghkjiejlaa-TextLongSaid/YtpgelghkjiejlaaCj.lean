/- The closed calls of the chapter's examples, by the run; awake. -/
import Derived.Test.YtpgelghkjiejlaaCn
import Derived.KernelRfl
set_option linter.unusedVariables false
set_option linter.unusedSimpArgs false
set_option maxRecDepth 100000
namespace Go.Proofs.Ytpgelghkjiejlaa
open Go

def int64 : V → Option Int
  | .i .i64 n => some n
  | _ => none
def ints : List V → Option (List Int)
  | [] => some []
  | v :: l => match int64 v, ints l with | some a, some b => some (a :: b) | _, _ => none
theorem ints_ok : ∀ {l : List V} {m : List Int}, ints l = some m → l = m.map (V.i .i64) := by
  intro l
  induction l with
  | nil => intro m h; cases h; rfl
  | cons v l ih =>
    intro m h
    simp only [ints] at h
    split at h
    · rename_i a b h1 h2
      cases h
      rw [List.map_cons, ← ih h2]
      congr 1
      unfold int64 at h1
      split at h1
      · cases h1; rfl
      · cases h1
    · cases h
/-- The six rectangles of the letter's ink. -/
def regI : List Int := [0, 0, 2, 1, 0, 1, 1, 1, 2, 1, 1, 1, 0, 2, 3, 1, 0, 3, 1, 1, 0, 4, 2, 1]
def rowIs (o : Bool) : Option Blk → Bool
  | some (.row o' cs) => (o == o') && (match ints cs with | some m => m == regI | none => false)
  | _ => false
theorem rowIs_ok {o : Bool} {k : Option Blk} (h : rowIs o k = true) : k = some (.row o (regI.map (V.i .i64))) := by
  unfold rowIs at h
  split at h
  · rename_i o' cs
    simp only [Bool.and_eq_true, beq_iff_eq] at h
    obtain ⟨rfl, h2⟩ := h
    split at h2
    · rename_i m hm
      have : m = regI := by simpa using h2
      rw [ints_ok hm, this]
    · cases h2
  · cases h
def isReg : RGot → Bool
  | some (.ag [.sl 470 0 4 6 true], _, H) => rowIs true (H.get 470)
  | _ => false
def isInt (m : Int) : RGot → Bool
  | some (v, _, H) => (match int64 v with | some a => a == m | none => false) && rowIs false (H.get 1)
  | _ => false
def isBool (x : Bool) : RGot → Bool
  | some (.b y, _, H) => (x == y) && rowIs false (H.get 1)
  | _ => false
def isBox : RGot → Bool
  | some (.ag l, _, _) => (match ints l with | some m => m == [0, 0, 4, 6] | none => false)
  | _ => false
def regH : Tr Blk := .ofL [(1, .row false (regI.map (V.i .i64)))]
theorem run_box : isBox ((runAll known1 tabF 300).call 15 [.ag (fontC false), .i .i64 0, .i .i64 5, .s [65]] 0 .lf) = true := by kernel_rfl
theorem run_area : isInt 10 ((runAll known1 tabF 300).call 23 [.ag [.sl 1 0 4 6 true]] 3 regH) = true := by kernel_rfl
theorem run_has1 : isBool true ((runAll known1 tabF 300).call 21 [.ag [.sl 1 0 4 6 true], .i .i64 2, .i .i64 1] 3 regH) = true := by kernel_rfl
theorem run_has2 : isBool false ((runAll known1 tabF 300).call 21 [.ag [.sl 1 0 4 6 true], .i .i64 1, .i .i64 1] 3 regH) = true := by kernel_rfl
theorem call_ok : okCall Try.prog (runAll known1 tabF 300).call := (runAll_ok known1_ok tabF_ok 300).2
end Go.Proofs.Ytpgelghkjiejlaa
