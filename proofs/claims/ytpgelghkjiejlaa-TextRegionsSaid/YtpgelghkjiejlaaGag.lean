/- The prepared bodies of functions of the program, as the preparation gives them (printed by a program of mine). -/
import Derived.Test.YtpgelghkjiejlaaGae
import Derived.Test.YtpgelghkjiejlaaProg
import Derived.KernelRfl
set_option linter.unusedVariables false
set_option linter.unusedSimpArgs false
set_option maxRecDepth 100000
namespace Go.Proofs.Ytpgelghkjiejlaa
open Go
/-- slices.heapSortOrdered[int] -/
def F96 : AFun := ⟨56, [],
 .seq (.ops none [⟨(some 11), (.mv (.t 1)), none⟩,
 ⟨(some 6), (.mv (.t 11)), none⟩])
 (.seq (.ops none [⟨(some 7), (.mv (.c (.i .i64 0))), none⟩])
 (.seq (.ops none [⟨(some 12), (.mv (.t 2)), none⟩,
 ⟨(some 13), (.mv (.t 1)), none⟩,
 ⟨(some 14), (.bin .sub (.t 12) (.t 13)), none⟩,
 ⟨(some 8), (.mv (.t 14)), none⟩])
 (.seq (.seq (.ops none [⟨(some 15), (.mv (.t 8)), none⟩,
 ⟨(some 16), (.bin .sub (.t 15) (.c (.i .i64 1))), none⟩,
 ⟨(some 17), (.bin .quo (.t 16) (.c (.i .i64 2))), none⟩,
 ⟨(some 9), (.mv (.t 17)), none⟩])
 (.block 0 (.loop (.seq (.seq (.ops none [⟨(some 18), (.mv (.t 9)), none⟩,
 ⟨(some 19), (.bin .geq (.t 18) (.c (.i .i64 0))), none⟩])
 (.cond (.t 19)
 (.skip)
 (.exit 0)))
 (.seq (.block 1 (.ops none [⟨(some 22), (.mv (.t 0)), none⟩,
 ⟨(some 23), (.mv (.t 9)), none⟩,
 ⟨(some 24), (.mv (.t 8)), none⟩,
 ⟨(some 25), (.mv (.t 6)), none⟩,
 ⟨(some 26), (.call (.f 105) [(.t 22), (.t 23), (.t 24), (.t 25)]), none⟩]))
 (.ops none [⟨(some 20), (.mv (.t 9)), none⟩,
 ⟨(some 21), (.bin .sub (.t 20) (.c (.i .i64 1))), none⟩,
 ⟨(some 9), (.mv (.t 21)), none⟩]))))))
 (.seq (.ops none [⟨(some 27), (.mv (.t 8)), none⟩,
 ⟨(some 28), (.bin .sub (.t 27) (.c (.i .i64 1))), none⟩,
 ⟨(some 10), (.mv (.t 28)), none⟩])
 (.block 2 (.loop (.seq (.seq (.ops none [⟨(some 29), (.mv (.t 10)), none⟩,
 ⟨(some 30), (.bin .geq (.t 29) (.c (.i .i64 0))), none⟩])
 (.cond (.t 30)
 (.skip)
 (.exit 2)))
 (.seq (.block 3 (.seq (.ops (some [0, 0, 0, 0, 0, 24, 0, 0, 0, 384, 960, 1984, 0, 0, 12288, 28672, 65475, 131011, 262143, 524287]) [⟨(some 33), (.mv (.t 0)), none⟩,
 ⟨(some 34), (.mv (.t 6)), none⟩,
 ⟨(some 35), (.mv (.t 0)), none⟩,
 ⟨(some 36), (.mv (.t 6)), none⟩,
 ⟨(some 37), (.mv (.t 10)), none⟩,
 ⟨(some 38), (.bin .add (.t 36) (.t 37)), none⟩,
 ⟨(some 39), (.mv (.t 0)), none⟩,
 ⟨(some 40), (.mv (.t 6)), none⟩,
 ⟨(some 41), (.mv (.t 10)), none⟩,
 ⟨(some 42), (.bin .add (.t 40) (.t 41)), none⟩,
 ⟨(some 43), (.ias 1 (.t 39) (.t 42)), none⟩,
 ⟨(some 44), (.ld false 1 (.t 43)), none⟩,
 ⟨(some 45), (.mv (.t 0)), none⟩,
 ⟨(some 46), (.mv (.t 6)), none⟩,
 ⟨(some 47), (.ias 1 (.t 45) (.t 46)), none⟩,
 ⟨(some 48), (.ld false 1 (.t 47)), none⟩,
 ⟨(some 49), (.ias 1 (.t 33) (.t 34)), none⟩,
 ⟨none, (.st 1 (.t 49) (.t 44)), none⟩,
 ⟨(some 50), (.ias 1 (.t 35) (.t 38)), none⟩,
 ⟨none, (.st 1 (.t 50) (.t 48)), none⟩])
 (.ops none [⟨(some 51), (.mv (.t 0)), none⟩,
 ⟨(some 52), (.mv (.t 7)), none⟩,
 ⟨(some 53), (.mv (.t 10)), none⟩,
 ⟨(some 54), (.mv (.t 6)), none⟩,
 ⟨(some 55), (.call (.f 105) [(.t 51), (.t 52), (.t 53), (.t 54)]), none⟩])))
 (.ops none [⟨(some 31), (.mv (.t 10)), none⟩,
 ⟨(some 32), (.bin .sub (.t 31) (.c (.i .i64 1))), none⟩,
 ⟨(some 10), (.mv (.t 32)), none⟩])))))))))⟩
theorem F96_ok : prepF Try.prog 96 = some F96 := by kernel_rfl
/-- slices.breakPatternsOrdered[int] -/
def F97 : AFun := ⟨65, [],
 .seq (.ops none [⟨(some 11), (.mv (.t 2)), none⟩,
 ⟨(some 12), (.mv (.t 1)), none⟩,
 ⟨(some 13), (.bin .sub (.t 11) (.t 12)), none⟩,
 ⟨(some 6), (.mv (.t 13)), none⟩])
 (.seq (.ops none [⟨(some 14), (.mv (.t 6)), none⟩,
 ⟨(some 15), (.bin .geq (.t 14) (.c (.i .i64 8))), none⟩])
 (.cond (.t 15)
 (.seq (.ops none [⟨(some 16), (.mv (.t 6)), none⟩,
 ⟨(some 17), (.conv .u64 (.t 16)), none⟩,
 ⟨(some 7), (.new [(.i .u64 0)]), none⟩,
 ⟨none, (.st 1 (.t 7) (.t 17)), none⟩])
 (.seq (.ops none [⟨(some 18), (.mv (.t 6)), none⟩,
 ⟨(some 19), (.call (.f 91) [(.t 18)]), none⟩,
 ⟨(some 8), (.mv (.t 19)), none⟩])
 (.seq (.ops none [⟨(some 20), (.mv (.t 1)), none⟩,
 ⟨(some 21), (.mv (.t 6)), none⟩,
 ⟨(some 22), (.bin .quo (.t 21) (.c (.i .i64 4))), none⟩,
 ⟨(some 23), (.bin .mul (.t 22) (.c (.i .i64 2))), none⟩,
 ⟨(some 24), (.bin .add (.t 20) (.t 23)), none⟩,
 ⟨(some 25), (.bin .sub (.t 24) (.c (.i .i64 1))), none⟩,
 ⟨(some 9), (.mv (.t 25)), none⟩])
 (.block 0 (.loop (.seq (.seq (.ops none [⟨(some 26), (.mv (.t 9)), none⟩,
 ⟨(some 27), (.mv (.t 1)), none⟩,
 ⟨(some 28), (.mv (.t 6)), none⟩,
 ⟨(some 29), (.bin .quo (.t 28) (.c (.i .i64 4))), none⟩,
 ⟨(some 30), (.bin .mul (.t 29) (.c (.i .i64 2))), none⟩,
 ⟨(some 31), (.bin .add (.t 27) (.t 30)), none⟩,
 ⟨(some 32), (.bin .add (.t 31) (.c (.i .i64 1))), none⟩,
 ⟨(some 33), (.bin .leq (.t 26) (.t 32)), none⟩])
 (.cond (.t 33)
 (.skip)
 (.exit 0)))
 (.seq (.block 1 (.seq (.ops none [⟨(some 36), (.call (.f 92) [(.t 7)]), none⟩,
 ⟨(some 37), (.mv (.t 8)), none⟩,
 ⟨(some 38), (.bin .sub (.t 37) (.c (.i .u64 1))), none⟩,
 ⟨(some 39), (.bin .and (.t 36) (.t 38)), none⟩,
 ⟨(some 40), (.conv .i64 (.t 39)), none⟩,
 ⟨(some 10), (.mv (.t 40)), none⟩])
 (.seq (.seq (.ops none [⟨(some 41), (.mv (.t 10)), none⟩,
 ⟨(some 42), (.mv (.t 6)), none⟩,
 ⟨(some 43), (.bin .geq (.t 41) (.t 42)), none⟩])
 (.cond (.t 43)
 (.ops none [⟨(some 44), (.mv (.t 10)), none⟩,
 ⟨(some 45), (.mv (.t 6)), none⟩,
 ⟨(some 46), (.bin .sub (.t 44) (.t 45)), none⟩,
 ⟨(some 10), (.mv (.t 46)), none⟩])
 (.skip)))
 (.ops (some [0, 0, 0, 0, 0, 24, 0, 0, 0, 384, 960, 1984, 0, 0, 12288, 28672, 65475, 131011, 262143, 524287]) [⟨(some 47), (.mv (.t 0)), none⟩,
 ⟨(some 48), (.mv (.t 9)), none⟩,
 ⟨(some 49), (.mv (.t 0)), none⟩,
 ⟨(some 50), (.mv (.t 1)), none⟩,
 ⟨(some 51), (.mv (.t 10)), none⟩,
 ⟨(some 52), (.bin .add (.t 50) (.t 51)), none⟩,
 ⟨(some 53), (.mv (.t 0)), none⟩,
 ⟨(some 54), (.mv (.t 1)), none⟩,
 ⟨(some 55), (.mv (.t 10)), none⟩,
 ⟨(some 56), (.bin .add (.t 54) (.t 55)), none⟩,
 ⟨(some 57), (.ias 1 (.t 53) (.t 56)), none⟩,
 ⟨(some 58), (.ld false 1 (.t 57)), none⟩,
 ⟨(some 59), (.mv (.t 0)), none⟩,
 ⟨(some 60), (.mv (.t 9)), none⟩,
 ⟨(some 61), (.ias 1 (.t 59) (.t 60)), none⟩,
 ⟨(some 62), (.ld false 1 (.t 61)), none⟩,
 ⟨(some 63), (.ias 1 (.t 47) (.t 48)), none⟩,
 ⟨none, (.st 1 (.t 63) (.t 58)), none⟩,
 ⟨(some 64), (.ias 1 (.t 49) (.t 52)), none⟩,
 ⟨none, (.st 1 (.t 64) (.t 62)), none⟩]))))
 (.ops none [⟨(some 34), (.mv (.t 9)), none⟩,
 ⟨(some 35), (.bin .add (.t 34) (.c (.i .i64 1))), none⟩,
 ⟨(some 9), (.mv (.t 35)), none⟩]))))))))
 (.skip)))⟩
theorem F97_ok : prepF Try.prog 97 = some F97 := by kernel_rfl
/-- slices.choosePivotOrdered[int] -/
def F98 : AFun := ⟨57, [.t 6, .t 7],
 .seq (.ops none [⟨(some 6), (.mv (.c (.i .i64 0))), none⟩,
 ⟨(some 7), (.mv (.c (.i .i64 0))), none⟩])
 (.seq (.ops none [⟨(some 13), (.mv (.t 2)), none⟩,
 ⟨(some 14), (.mv (.t 1)), none⟩,
 ⟨(some 15), (.bin .sub (.t 13) (.t 14)), none⟩,
 ⟨(some 8), (.mv (.t 15)), none⟩])
 (.seq (.ops none [⟨(some 9), (.new [(.i .i64 0)]), none⟩])
 (.seq (.ops none [⟨(some 16), (.mv (.t 1)), none⟩,
 ⟨(some 17), (.mv (.t 8)), none⟩,
 ⟨(some 18), (.bin .quo (.t 17) (.c (.i .i64 4))), none⟩,
 ⟨(some 19), (.bin .mul (.t 18) (.c (.i .i64 1))), none⟩,
 ⟨(some 20), (.bin .add (.t 16) (.t 19)), none⟩,
 ⟨(some 10), (.mv (.t 20)), none⟩])
 (.seq (.ops none [⟨(some 21), (.mv (.t 1)), none⟩,
 ⟨(some 22), (.mv (.t 8)), none⟩,
 ⟨(some 23), (.bin .quo (.t 22) (.c (.i .i64 4))), none⟩,
 ⟨(some 24), (.bin .mul (.t 23) (.c (.i .i64 2))), none⟩,
 ⟨(some 25), (.bin .add (.t 21) (.t 24)), none⟩,
 ⟨(some 11), (.mv (.t 25)), none⟩])
 (.seq (.ops none [⟨(some 26), (.mv (.t 1)), none⟩,
 ⟨(some 27), (.mv (.t 8)), none⟩,
 ⟨(some 28), (.bin .quo (.t 27) (.c (.i .i64 4))), none⟩,
 ⟨(some 29), (.bin .mul (.t 28) (.c (.i .i64 3))), none⟩,
 ⟨(some 30), (.bin .add (.t 26) (.t 29)), none⟩,
 ⟨(some 12), (.mv (.t 30)), none⟩])
 (.seq (.seq (.ops none [⟨(some 31), (.mv (.t 8)), none⟩,
 ⟨(some 32), (.bin .geq (.t 31) (.c (.i .i64 8))), none⟩])
 (.cond (.t 32)
 (.seq (.seq (.ops none [⟨(some 33), (.mv (.t 8)), none⟩,
 ⟨(some 34), (.bin .geq (.t 33) (.c (.i .i64 50))), none⟩])
 (.cond (.t 34)
 (.seq (.ops none [⟨(some 35), (.mv (.t 0)), none⟩,
 ⟨(some 36), (.mv (.t 10)), none⟩,
 ⟨(some 37), (.call (.f 106) [(.t 35), (.t 36), (.t 9)]), none⟩,
 ⟨(some 10), (.mv (.t 37)), none⟩])
 (.seq (.ops none [⟨(some 38), (.mv (.t 0)), none⟩,
 ⟨(some 39), (.mv (.t 11)), none⟩,
 ⟨(some 40), (.call (.f 106) [(.t 38), (.t 39), (.t 9)]), none⟩,
 ⟨(some 11), (.mv (.t 40)), none⟩])
 (.ops none [⟨(some 41), (.mv (.t 0)), none⟩,
 ⟨(some 42), (.mv (.t 12)), none⟩,
 ⟨(some 43), (.call (.f 106) [(.t 41), (.t 42), (.t 9)]), none⟩,
 ⟨(some 12), (.mv (.t 43)), none⟩])))
 (.skip)))
 (.ops none [⟨(some 44), (.mv (.t 0)), none⟩,
 ⟨(some 45), (.mv (.t 10)), none⟩,
 ⟨(some 46), (.mv (.t 11)), none⟩,
 ⟨(some 47), (.mv (.t 12)), none⟩,
 ⟨(some 48), (.call (.f 107) [(.t 44), (.t 45), (.t 46), (.t 47), (.t 9)]), none⟩,
 ⟨(some 11), (.mv (.t 48)), none⟩]))
 (.skip)))
 (.seq (.ops none [⟨(some 49), (.ld false 1 (.t 9)), none⟩])
 (.block 0 (.seq (.ops none [⟨(some 52), (.bin .eql (.t 49) (.c (.i .i64 0))), none⟩,
 ⟨(some 51), (.mv (.t 52)), none⟩])
 (.cond (.t 51)
 (.seq (.ops none [⟨(some 53), (.mv (.t 11)), none⟩,
 ⟨(some 6), (.mv (.t 53)), none⟩,
 ⟨(some 7), (.mv (.c (.i .i64 1))), none⟩])
 (.ret))
 (.seq (.ops none [⟨(some 55), (.bin .eql (.t 49) (.c (.i .i64 12))), none⟩,
 ⟨(some 54), (.mv (.t 55)), none⟩])
 (.cond (.t 54)
 (.seq (.ops none [⟨(some 56), (.mv (.t 11)), none⟩,
 ⟨(some 6), (.mv (.t 56)), none⟩,
 ⟨(some 7), (.mv (.c (.i .i64 2))), none⟩])
 (.ret))
 (.seq (.ops none [⟨(some 50), (.mv (.t 11)), none⟩,
 ⟨(some 6), (.mv (.t 50)), none⟩,
 ⟨(some 7), (.mv (.c (.i .i64 0))), none⟩])
 (.ret))))))))))))))⟩
theorem F98_ok : prepF Try.prog 98 = some F98 := by kernel_rfl
/-- slices.reverseRangeOrdered[int] -/
def F99 : AFun := ⟨32, [],
 .seq (.ops none [⟨(some 8), (.mv (.t 1)), none⟩,
 ⟨(some 6), (.mv (.t 8)), none⟩])
 (.seq (.ops none [⟨(some 9), (.mv (.t 2)), none⟩,
 ⟨(some 10), (.bin .sub (.t 9) (.c (.i .i64 1))), none⟩,
 ⟨(some 7), (.mv (.t 10)), none⟩])
 (.block 0 (.loop (.seq (.seq (.ops none [⟨(some 11), (.mv (.t 6)), none⟩,
 ⟨(some 12), (.mv (.t 7)), none⟩,
 ⟨(some 13), (.bin .lss (.t 11) (.t 12)), none⟩])
 (.cond (.t 13)
 (.skip)
 (.exit 0)))
 (.block 1 (.seq (.ops (some [0, 0, 0, 0, 0, 0, 48, 112, 0, 0, 768, 1792, 4083, 8179, 16383, 32767]) [⟨(some 14), (.mv (.t 0)), none⟩,
 ⟨(some 15), (.mv (.t 6)), none⟩,
 ⟨(some 16), (.mv (.t 0)), none⟩,
 ⟨(some 17), (.mv (.t 7)), none⟩,
 ⟨(some 18), (.mv (.t 0)), none⟩,
 ⟨(some 19), (.mv (.t 7)), none⟩,
 ⟨(some 20), (.ias 1 (.t 18) (.t 19)), none⟩,
 ⟨(some 21), (.ld false 1 (.t 20)), none⟩,
 ⟨(some 22), (.mv (.t 0)), none⟩,
 ⟨(some 23), (.mv (.t 6)), none⟩,
 ⟨(some 24), (.ias 1 (.t 22) (.t 23)), none⟩,
 ⟨(some 25), (.ld false 1 (.t 24)), none⟩,
 ⟨(some 26), (.ias 1 (.t 14) (.t 15)), none⟩,
 ⟨none, (.st 1 (.t 26) (.t 21)), none⟩,
 ⟨(some 27), (.ias 1 (.t 16) (.t 17)), none⟩,
 ⟨none, (.st 1 (.t 27) (.t 25)), none⟩])
 (.seq (.ops none [⟨(some 28), (.mv (.t 6)), none⟩,
 ⟨(some 29), (.bin .add (.t 28) (.c (.i .i64 1))), none⟩,
 ⟨(some 6), (.mv (.t 29)), none⟩])
 (.ops none [⟨(some 30), (.mv (.t 7)), none⟩,
 ⟨(some 31), (.bin .sub (.t 30) (.c (.i .i64 1))), none⟩,
 ⟨(some 7), (.mv (.t 31)), none⟩]))))))))⟩
theorem F99_ok : prepF Try.prog 99 = some F99 := by kernel_rfl
/-- slices.partialInsertionSortOrdered[int] -/
def F100 : AFun := ⟨133, [.t 6],
 .seq (.ops none [⟨(some 6), (.mv (.c (.b false))), none⟩])
 (.seq (.ops none [⟨(some 11), (.mv (.t 1)), none⟩,
 ⟨(some 12), (.bin .add (.t 11) (.c (.i .i64 1))), none⟩,
 ⟨(some 7), (.mv (.t 12)), none⟩])
 (.seq (.seq (.ops none [⟨(some 8), (.mv (.c (.i .i64 0))), none⟩])
 (.block 0 (.loop (.seq (.seq (.ops none [⟨(some 13), (.mv (.t 8)), none⟩,
 ⟨(some 14), (.bin .lss (.t 13) (.c (.i .i64 5))), none⟩])
 (.cond (.t 14)
 (.skip)
 (.exit 0)))
 (.seq (.block 1 (.seq (.block 2 (.loop (.seq (.seq (.ops (some [0, 0, 3, 7, 15, 15, 63, 127, 15, 15, 527, 1807, 3855, 8191, 16383, 32767]) [⟨(some 17), (.mv (.t 7)), none⟩,
 ⟨(some 18), (.mv (.t 2)), none⟩,
 ⟨(some 19), (.bin .lss (.t 17) (.t 18)), none⟩,
 ⟨(some 20), (.mv (.t 19)), none⟩,
 ⟨(some 21), (.mv (.t 0)), (some ((some 20), true))⟩,
 ⟨(some 22), (.mv (.t 7)), (some ((some 20), true))⟩,
 ⟨(some 23), (.ias 1 (.t 21) (.t 22)), (some ((some 20), true))⟩,
 ⟨(some 24), (.ld false 1 (.t 23)), (some ((some 20), true))⟩,
 ⟨(some 25), (.mv (.t 0)), (some ((some 20), true))⟩,
 ⟨(some 26), (.mv (.t 7)), (some ((some 20), true))⟩,
 ⟨(some 27), (.bin .sub (.t 26) (.c (.i .i64 1))), (some ((some 20), true))⟩,
 ⟨(some 28), (.ias 1 (.t 25) (.t 27)), (some ((some 20), true))⟩,
 ⟨(some 29), (.ld false 1 (.t 28)), (some ((some 20), true))⟩,
 ⟨(some 30), (.call (.f 101) [(.t 24), (.t 29)]), (some ((some 20), true))⟩,
 ⟨(some 31), (.un .not (.t 30)), (some ((some 20), true))⟩,
 ⟨(some 32), (.pick (.t 20) (.t 31) (.c (.b false))), none⟩])
 (.cond (.t 32)
 (.skip)
 (.exit 2)))
 (.block 3 (.ops none [⟨(some 33), (.mv (.t 7)), none⟩,
 ⟨(some 34), (.bin .add (.t 33) (.c (.i .i64 1))), none⟩,
 ⟨(some 7), (.mv (.t 34)), none⟩])))))
 (.seq (.seq (.ops none [⟨(some 35), (.mv (.t 7)), none⟩,
 ⟨(some 36), (.mv (.t 2)), none⟩,
 ⟨(some 37), (.bin .eql (.t 35) (.t 36)), none⟩])
 (.cond (.t 37)
 (.seq (.ops none [⟨(some 6), (.mv (.c (.b true))), none⟩])
 (.ret))
 (.skip)))
 (.seq (.seq (.ops none [⟨(some 38), (.mv (.t 2)), none⟩,
 ⟨(some 39), (.mv (.t 1)), none⟩,
 ⟨(some 40), (.bin .sub (.t 38) (.t 39)), none⟩,
 ⟨(some 41), (.bin .lss (.t 40) (.c (.i .i64 50))), none⟩])
 (.cond (.t 41)
 (.seq (.ops none [⟨(some 6), (.mv (.c (.b false))), none⟩])
 (.ret))
 (.skip)))
 (.seq (.ops (some [0, 0, 0, 0, 8, 0, 0, 64, 224, 480, 0, 0, 3072, 7168, 16355, 32739, 65535, 131071]) [⟨(some 42), (.mv (.t 0)), none⟩,
 ⟨(some 43), (.mv (.t 7)), none⟩,
 ⟨(some 44), (.mv (.t 0)), none⟩,
 ⟨(some 45), (.mv (.t 7)), none⟩,
 ⟨(some 46), (.bin .sub (.t 45) (.c (.i .i64 1))), none⟩,
 ⟨(some 47), (.mv (.t 0)), none⟩,
 ⟨(some 48), (.mv (.t 7)), none⟩,
 ⟨(some 49), (.bin .sub (.t 48) (.c (.i .i64 1))), none⟩,
 ⟨(some 50), (.ias 1 (.t 47) (.t 49)), none⟩,
 ⟨(some 51), (.ld false 1 (.t 50)), none⟩,
 ⟨(some 52), (.mv (.t 0)), none⟩,
 ⟨(some 53), (.mv (.t 7)), none⟩,
 ⟨(some 54), (.ias 1 (.t 52) (.t 53)), none⟩,
 ⟨(some 55), (.ld false 1 (.t 54)), none⟩,
 ⟨(some 56), (.ias 1 (.t 42) (.t 43)), none⟩,
 ⟨none, (.st 1 (.t 56) (.t 51)), none⟩,
 ⟨(some 57), (.ias 1 (.t 44) (.t 46)), none⟩,
 ⟨none, (.st 1 (.t 57) (.t 55)), none⟩])
 (.seq (.seq (.ops none [⟨(some 58), (.mv (.t 7)), none⟩,
 ⟨(some 59), (.mv (.t 1)), none⟩,
 ⟨(some 60), (.bin .sub (.t 58) (.t 59)), none⟩,
 ⟨(some 61), (.bin .geq (.t 60) (.c (.i .i64 2))), none⟩])
 (.cond (.t 61)
 (.seq (.ops none [⟨(some 62), (.mv (.t 7)), none⟩,
 ⟨(some 63), (.bin .sub (.t 62) (.c (.i .i64 1))), none⟩,
 ⟨(some 9), (.mv (.t 63)), none⟩])
 (.block 4 (.loop (.seq (.seq (.ops none [⟨(some 64), (.mv (.t 9)), none⟩,
 ⟨(some 65), (.bin .geq (.t 64) (.c (.i .i64 1))), none⟩])
 (.cond (.t 65)
 (.skip)
 (.exit 4)))
 (.seq (.block 5 (.seq (.seq (.ops (some [0, 0, 3, 7, 0, 0, 32, 112, 240, 511, 1023]) [⟨(some 68), (.mv (.t 0)), none⟩,
 ⟨(some 69), (.mv (.t 9)), none⟩,
 ⟨(some 70), (.ias 1 (.t 68) (.t 69)), none⟩,
 ⟨(some 71), (.ld false 1 (.t 70)), none⟩,
 ⟨(some 72), (.mv (.t 0)), none⟩,
 ⟨(some 73), (.mv (.t 9)), none⟩,
 ⟨(some 74), (.bin .sub (.t 73) (.c (.i .i64 1))), none⟩,
 ⟨(some 75), (.ias 1 (.t 72) (.t 74)), none⟩,
 ⟨(some 76), (.ld false 1 (.t 75)), none⟩,
 ⟨(some 77), (.call (.f 101) [(.t 71), (.t 76)]), none⟩,
 ⟨(some 78), (.un .not (.t 77)), none⟩])
 (.cond (.t 78)
 (.exit 4)
 (.skip)))
 (.ops (some [0, 0, 0, 0, 8, 0, 0, 64, 224, 480, 0, 0, 3072, 7168, 16355, 32739, 65535, 131071]) [⟨(some 79), (.mv (.t 0)), none⟩,
 ⟨(some 80), (.mv (.t 9)), none⟩,
 ⟨(some 81), (.mv (.t 0)), none⟩,
 ⟨(some 82), (.mv (.t 9)), none⟩,
 ⟨(some 83), (.bin .sub (.t 82) (.c (.i .i64 1))), none⟩,
 ⟨(some 84), (.mv (.t 0)), none⟩,
 ⟨(some 85), (.mv (.t 9)), none⟩,
 ⟨(some 86), (.bin .sub (.t 85) (.c (.i .i64 1))), none⟩,
 ⟨(some 87), (.ias 1 (.t 84) (.t 86)), none⟩,
 ⟨(some 88), (.ld false 1 (.t 87)), none⟩,
 ⟨(some 89), (.mv (.t 0)), none⟩,
 ⟨(some 90), (.mv (.t 9)), none⟩,
 ⟨(some 91), (.ias 1 (.t 89) (.t 90)), none⟩,
 ⟨(some 92), (.ld false 1 (.t 91)), none⟩,
 ⟨(some 93), (.ias 1 (.t 79) (.t 80)), none⟩,
 ⟨none, (.st 1 (.t 93) (.t 88)), none⟩,
 ⟨(some 94), (.ias 1 (.t 81) (.t 83)), none⟩,
 ⟨none, (.st 1 (.t 94) (.t 92)), none⟩])))
 (.ops none [⟨(some 66), (.mv (.t 9)), none⟩,
 ⟨(some 67), (.bin .sub (.t 66) (.c (.i .i64 1))), none⟩,
 ⟨(some 9), (.mv (.t 67)), none⟩]))))))
 (.skip)))
 (.seq (.ops none [⟨(some 95), (.mv (.t 2)), none⟩,
 ⟨(some 96), (.mv (.t 7)), none⟩,
 ⟨(some 97), (.bin .sub (.t 95) (.t 96)), none⟩,
 ⟨(some 98), (.bin .geq (.t 97) (.c (.i .i64 2))), none⟩])
 (.cond (.t 98)
 (.seq (.ops none [⟨(some 99), (.mv (.t 7)), none⟩,
 ⟨(some 100), (.bin .add (.t 99) (.c (.i .i64 1))), none⟩,
 ⟨(some 10), (.mv (.t 100)), none⟩])
 (.block 6 (.loop (.seq (.seq (.ops none [⟨(some 101), (.mv (.t 10)), none⟩,
 ⟨(some 102), (.mv (.t 2)), none⟩,
 ⟨(some 103), (.bin .lss (.t 101) (.t 102)), none⟩])
 (.cond (.t 103)
 (.skip)
 (.exit 6)))
 (.seq (.block 7 (.seq (.seq (.ops (some [0, 0, 3, 7, 0, 0, 32, 112, 240, 511, 1023]) [⟨(some 106), (.mv (.t 0)), none⟩,
 ⟨(some 107), (.mv (.t 10)), none⟩,
 ⟨(some 108), (.ias 1 (.t 106) (.t 107)), none⟩,
 ⟨(some 109), (.ld false 1 (.t 108)), none⟩,
 ⟨(some 110), (.mv (.t 0)), none⟩,
 ⟨(some 111), (.mv (.t 10)), none⟩,
 ⟨(some 112), (.bin .sub (.t 111) (.c (.i .i64 1))), none⟩,
 ⟨(some 113), (.ias 1 (.t 110) (.t 112)), none⟩,
 ⟨(some 114), (.ld false 1 (.t 113)), none⟩,
 ⟨(some 115), (.call (.f 101) [(.t 109), (.t 114)]), none⟩,
 ⟨(some 116), (.un .not (.t 115)), none⟩])
 (.cond (.t 116)
 (.exit 6)
 (.skip)))
 (.ops (some [0, 0, 0, 0, 8, 0, 0, 64, 224, 480, 0, 0, 3072, 7168, 16355, 32739, 65535, 131071]) [⟨(some 117), (.mv (.t 0)), none⟩,
 ⟨(some 118), (.mv (.t 10)), none⟩,
 ⟨(some 119), (.mv (.t 0)), none⟩,
 ⟨(some 120), (.mv (.t 10)), none⟩,
 ⟨(some 121), (.bin .sub (.t 120) (.c (.i .i64 1))), none⟩,
 ⟨(some 122), (.mv (.t 0)), none⟩,
 ⟨(some 123), (.mv (.t 10)), none⟩,
 ⟨(some 124), (.bin .sub (.t 123) (.c (.i .i64 1))), none⟩,
 ⟨(some 125), (.ias 1 (.t 122) (.t 124)), none⟩,
 ⟨(some 126), (.ld false 1 (.t 125)), none⟩,
 ⟨(some 127), (.mv (.t 0)), none⟩,
 ⟨(some 128), (.mv (.t 10)), none⟩,
 ⟨(some 129), (.ias 1 (.t 127) (.t 128)), none⟩,
 ⟨(some 130), (.ld false 1 (.t 129)), none⟩,
 ⟨(some 131), (.ias 1 (.t 117) (.t 118)), none⟩,
 ⟨none, (.st 1 (.t 131) (.t 126)), none⟩,
 ⟨(some 132), (.ias 1 (.t 119) (.t 121)), none⟩,
 ⟨none, (.st 1 (.t 132) (.t 130)), none⟩])))
 (.ops none [⟨(some 104), (.mv (.t 10)), none⟩,
 ⟨(some 105), (.bin .add (.t 104) (.c (.i .i64 1))), none⟩,
 ⟨(some 10), (.mv (.t 105)), none⟩]))))))
 (.skip)))))))))
 (.ops none [⟨(some 15), (.mv (.t 8)), none⟩,
 ⟨(some 16), (.bin .add (.t 15) (.c (.i .i64 1))), none⟩,
 ⟨(some 8), (.mv (.t 16)), none⟩]))))))
 (.seq (.ops none [⟨(some 6), (.mv (.c (.b false))), none⟩])
 (.ret))))⟩
theorem F100_ok : prepF Try.prog 100 = some F100 := by kernel_rfl
/-- cmp.Less[int] -/
def F101 : AFun := ⟨17, [.t 4],
 .seq (.ops none [⟨(some 4), (.mv (.c (.b false))), none⟩])
 (.seq (.ops none [⟨(some 5), (.mv (.t 0)), none⟩,
 ⟨(some 6), (.call (.f 65) [(.t 5)]), none⟩,
 ⟨(some 7), (.mv (.t 6)), none⟩,
 ⟨(some 8), (.mv (.t 1)), (some ((some 7), true))⟩,
 ⟨(some 9), (.call (.f 65) [(.t 8)]), (some ((some 7), true))⟩,
 ⟨(some 10), (.un .not (.t 9)), (some ((some 7), true))⟩,
 ⟨(some 11), (.pick (.t 7) (.t 10) (.c (.b false))), none⟩,
 ⟨(some 12), (.mv (.t 11)), none⟩,
 ⟨(some 13), (.mv (.t 0)), (some ((some 12), false))⟩,
 ⟨(some 14), (.mv (.t 1)), (some ((some 12), false))⟩,
 ⟨(some 15), (.bin .lss (.t 13) (.t 14)), (some ((some 12), false))⟩,
 ⟨(some 16), (.pick (.t 12) (.c (.b true)) (.t 15)), none⟩,
 ⟨(some 4), (.mv (.t 16)), none⟩])
 (.ret))⟩
theorem F101_ok : prepF Try.prog 101 = some F101 := by kernel_rfl
/-- slices.partitionEqualOrdered[int] -/
def F102 : AFun := ⟨84, [.t 8],
 .seq (.ops none [⟨(some 8), (.mv (.c (.i .i64 0))), none⟩])
 (.seq (.ops (some [0, 0, 0, 0, 0, 0, 48, 112, 0, 0, 768, 1792, 4083, 8179, 16383, 32767]) [⟨(some 11), (.mv (.t 0)), none⟩,
 ⟨(some 12), (.mv (.t 1)), none⟩,
 ⟨(some 13), (.mv (.t 0)), none⟩,
 ⟨(some 14), (.mv (.t 3)), none⟩,
 ⟨(some 15), (.mv (.t 0)), none⟩,
 ⟨(some 16), (.mv (.t 3)), none⟩,
 ⟨(some 17), (.ias 1 (.t 15) (.t 16)), none⟩,
 ⟨(some 18), (.ld false 1 (.t 17)), none⟩,
 ⟨(some 19), (.mv (.t 0)), none⟩,
 ⟨(some 20), (.mv (.t 1)), none⟩,
 ⟨(some 21), (.ias 1 (.t 19) (.t 20)), none⟩,
 ⟨(some 22), (.ld false 1 (.t 21)), none⟩,
 ⟨(some 23), (.ias 1 (.t 11) (.t 12)), none⟩,
 ⟨none, (.st 1 (.t 23) (.t 18)), none⟩,
 ⟨(some 24), (.ias 1 (.t 13) (.t 14)), none⟩,
 ⟨none, (.st 1 (.t 24) (.t 22)), none⟩])
 (.seq (.ops none [⟨(some 25), (.mv (.t 1)), none⟩,
 ⟨(some 26), (.bin .add (.t 25) (.c (.i .i64 1))), none⟩,
 ⟨(some 27), (.mv (.t 2)), none⟩,
 ⟨(some 28), (.bin .sub (.t 27) (.c (.i .i64 1))), none⟩,
 ⟨(some 9), (.mv (.t 26)), none⟩,
 ⟨(some 10), (.mv (.t 28)), none⟩])
 (.seq (.block 0 (.loop (.block 1 (.seq (.block 2 (.loop (.seq (.seq (.ops (some [0, 0, 3, 7, 15, 15, 63, 127, 15, 15, 783, 1807, 4095, 8191, 16383]) [⟨(some 29), (.mv (.t 9)), none⟩,
 ⟨(some 30), (.mv (.t 10)), none⟩,
 ⟨(some 31), (.bin .leq (.t 29) (.t 30)), none⟩,
 ⟨(some 32), (.mv (.t 31)), none⟩,
 ⟨(some 33), (.mv (.t 0)), (some ((some 32), true))⟩,
 ⟨(some 34), (.mv (.t 1)), (some ((some 32), true))⟩,
 ⟨(some 35), (.ias 1 (.t 33) (.t 34)), (some ((some 32), true))⟩,
 ⟨(some 36), (.ld false 1 (.t 35)), (some ((some 32), true))⟩,
 ⟨(some 37), (.mv (.t 0)), (some ((some 32), true))⟩,
 ⟨(some 38), (.mv (.t 9)), (some ((some 32), true))⟩,
 ⟨(some 39), (.ias 1 (.t 37) (.t 38)), (some ((some 32), true))⟩,
 ⟨(some 40), (.ld false 1 (.t 39)), (some ((some 32), true))⟩,
 ⟨(some 41), (.call (.f 101) [(.t 36), (.t 40)]), (some ((some 32), true))⟩,
 ⟨(some 42), (.un .not (.t 41)), (some ((some 32), true))⟩,
 ⟨(some 43), (.pick (.t 32) (.t 42) (.c (.b false))), none⟩])
 (.cond (.t 43)
 (.skip)
 (.exit 2)))
 (.block 3 (.ops none [⟨(some 44), (.mv (.t 9)), none⟩,
 ⟨(some 45), (.bin .add (.t 44) (.c (.i .i64 1))), none⟩,
 ⟨(some 9), (.mv (.t 45)), none⟩])))))
 (.seq (.block 4 (.loop (.seq (.seq (.ops (some [0, 0, 3, 7, 15, 15, 63, 127, 15, 15, 783, 1807, 4095, 8191]) [⟨(some 46), (.mv (.t 9)), none⟩,
 ⟨(some 47), (.mv (.t 10)), none⟩,
 ⟨(some 48), (.bin .leq (.t 46) (.t 47)), none⟩,
 ⟨(some 49), (.mv (.t 48)), none⟩,
 ⟨(some 50), (.mv (.t 0)), (some ((some 49), true))⟩,
 ⟨(some 51), (.mv (.t 1)), (some ((some 49), true))⟩,
 ⟨(some 52), (.ias 1 (.t 50) (.t 51)), (some ((some 49), true))⟩,
 ⟨(some 53), (.ld false 1 (.t 52)), (some ((some 49), true))⟩,
 ⟨(some 54), (.mv (.t 0)), (some ((some 49), true))⟩,
 ⟨(some 55), (.mv (.t 10)), (some ((some 49), true))⟩,
 ⟨(some 56), (.ias 1 (.t 54) (.t 55)), (some ((some 49), true))⟩,
 ⟨(some 57), (.ld false 1 (.t 56)), (some ((some 49), true))⟩,
 ⟨(some 58), (.call (.f 101) [(.t 53), (.t 57)]), (some ((some 49), true))⟩,
 ⟨(some 59), (.pick (.t 49) (.t 58) (.c (.b false))), none⟩])
 (.cond (.t 59)
 (.skip)
 (.exit 4)))
 (.block 5 (.ops none [⟨(some 60), (.mv (.t 10)), none⟩,
 ⟨(some 61), (.bin .sub (.t 60) (.c (.i .i64 1))), none⟩,
 ⟨(some 10), (.mv (.t 61)), none⟩])))))
 (.seq (.seq (.ops none [⟨(some 62), (.mv (.t 9)), none⟩,
 ⟨(some 63), (.mv (.t 10)), none⟩,
 ⟨(some 64), (.bin .gtr (.t 62) (.t 63)), none⟩])
 (.cond (.t 64)
 (.exit 0)
 (.skip)))
 (.seq (.ops (some [0, 0, 0, 0, 0, 0, 48, 112, 0, 0, 768, 1792, 4083, 8179, 16383, 32767]) [⟨(some 65), (.mv (.t 0)), none⟩,
 ⟨(some 66), (.mv (.t 9)), none⟩,
 ⟨(some 67), (.mv (.t 0)), none⟩,
 ⟨(some 68), (.mv (.t 10)), none⟩,
 ⟨(some 69), (.mv (.t 0)), none⟩,
 ⟨(some 70), (.mv (.t 10)), none⟩,
 ⟨(some 71), (.ias 1 (.t 69) (.t 70)), none⟩,
 ⟨(some 72), (.ld false 1 (.t 71)), none⟩,
 ⟨(some 73), (.mv (.t 0)), none⟩,
 ⟨(some 74), (.mv (.t 9)), none⟩,
 ⟨(some 75), (.ias 1 (.t 73) (.t 74)), none⟩,
 ⟨(some 76), (.ld false 1 (.t 75)), none⟩,
 ⟨(some 77), (.ias 1 (.t 65) (.t 66)), none⟩,
 ⟨none, (.st 1 (.t 77) (.t 72)), none⟩,
 ⟨(some 78), (.ias 1 (.t 67) (.t 68)), none⟩,
 ⟨none, (.st 1 (.t 78) (.t 76)), none⟩])
 (.seq (.ops none [⟨(some 79), (.mv (.t 9)), none⟩,
 ⟨(some 80), (.bin .add (.t 79) (.c (.i .i64 1))), none⟩,
 ⟨(some 9), (.mv (.t 80)), none⟩])
 (.ops none [⟨(some 81), (.mv (.t 10)), none⟩,
 ⟨(some 82), (.bin .sub (.t 81) (.c (.i .i64 1))), none⟩,
 ⟨(some 10), (.mv (.t 82)), none⟩])))))))))
 (.seq (.ops none [⟨(some 83), (.mv (.t 9)), none⟩,
 ⟨(some 8), (.mv (.t 83)), none⟩])
 (.ret)))))⟩
theorem F102_ok : prepF Try.prog 102 = some F102 := by kernel_rfl
/-- slices.partitionOrdered[int] -/
def F103 : AFun := ⟨168, [.t 8, .t 9],
 .seq (.ops none [⟨(some 8), (.mv (.c (.i .i64 0))), none⟩,
 ⟨(some 9), (.mv (.c (.b false))), none⟩])
 (.seq (.ops (some [0, 0, 0, 0, 0, 0, 48, 112, 0, 0, 768, 1792, 4083, 8179, 16383, 32767]) [⟨(some 12), (.mv (.t 0)), none⟩,
 ⟨(some 13), (.mv (.t 1)), none⟩,
 ⟨(some 14), (.mv (.t 0)), none⟩,
 ⟨(some 15), (.mv (.t 3)), none⟩,
 ⟨(some 16), (.mv (.t 0)), none⟩,
 ⟨(some 17), (.mv (.t 3)), none⟩,
 ⟨(some 18), (.ias 1 (.t 16) (.t 17)), none⟩,
 ⟨(some 19), (.ld false 1 (.t 18)), none⟩,
 ⟨(some 20), (.mv (.t 0)), none⟩,
 ⟨(some 21), (.mv (.t 1)), none⟩,
 ⟨(some 22), (.ias 1 (.t 20) (.t 21)), none⟩,
 ⟨(some 23), (.ld false 1 (.t 22)), none⟩,
 ⟨(some 24), (.ias 1 (.t 12) (.t 13)), none⟩,
 ⟨none, (.st 1 (.t 24) (.t 19)), none⟩,
 ⟨(some 25), (.ias 1 (.t 14) (.t 15)), none⟩,
 ⟨none, (.st 1 (.t 25) (.t 23)), none⟩])
 (.seq (.ops none [⟨(some 26), (.mv (.t 1)), none⟩,
 ⟨(some 27), (.bin .add (.t 26) (.c (.i .i64 1))), none⟩,
 ⟨(some 28), (.mv (.t 2)), none⟩,
 ⟨(some 29), (.bin .sub (.t 28) (.c (.i .i64 1))), none⟩,
 ⟨(some 10), (.mv (.t 27)), none⟩,
 ⟨(some 11), (.mv (.t 29)), none⟩])
 (.seq (.block 0 (.loop (.seq (.seq (.ops (some [0, 0, 3, 7, 15, 15, 63, 127, 15, 15, 783, 1807, 4095, 8191]) [⟨(some 30), (.mv (.t 10)), none⟩,
 ⟨(some 31), (.mv (.t 11)), none⟩,
 ⟨(some 32), (.bin .leq (.t 30) (.t 31)), none⟩,
 ⟨(some 33), (.mv (.t 32)), none⟩,
 ⟨(some 34), (.mv (.t 0)), (some ((some 33), true))⟩,
 ⟨(some 35), (.mv (.t 10)), (some ((some 33), true))⟩,
 ⟨(some 36), (.ias 1 (.t 34) (.t 35)), (some ((some 33), true))⟩,
 ⟨(some 37), (.ld false 1 (.t 36)), (some ((some 33), true))⟩,
 ⟨(some 38), (.mv (.t 0)), (some ((some 33), true))⟩,
 ⟨(some 39), (.mv (.t 1)), (some ((some 33), true))⟩,
 ⟨(some 40), (.ias 1 (.t 38) (.t 39)), (some ((some 33), true))⟩,
 ⟨(some 41), (.ld false 1 (.t 40)), (some ((some 33), true))⟩,
 ⟨(some 42), (.call (.f 101) [(.t 37), (.t 41)]), (some ((some 33), true))⟩,
 ⟨(some 43), (.pick (.t 33) (.t 42) (.c (.b false))), none⟩])
 (.cond (.t 43)
 (.skip)
 (.exit 0)))
 (.block 1 (.ops none [⟨(some 44), (.mv (.t 10)), none⟩,
 ⟨(some 45), (.bin .add (.t 44) (.c (.i .i64 1))), none⟩,
 ⟨(some 10), (.mv (.t 45)), none⟩])))))
 (.seq (.block 2 (.loop (.seq (.seq (.ops (some [0, 0, 3, 7, 15, 15, 63, 127, 15, 15, 783, 1807, 4095, 8191, 16383]) [⟨(some 46), (.mv (.t 10)), none⟩,
 ⟨(some 47), (.mv (.t 11)), none⟩,
 ⟨(some 48), (.bin .leq (.t 46) (.t 47)), none⟩,
 ⟨(some 49), (.mv (.t 48)), none⟩,
 ⟨(some 50), (.mv (.t 0)), (some ((some 49), true))⟩,
 ⟨(some 51), (.mv (.t 11)), (some ((some 49), true))⟩,
 ⟨(some 52), (.ias 1 (.t 50) (.t 51)), (some ((some 49), true))⟩,
 ⟨(some 53), (.ld false 1 (.t 52)), (some ((some 49), true))⟩,
 ⟨(some 54), (.mv (.t 0)), (some ((some 49), true))⟩,
 ⟨(some 55), (.mv (.t 1)), (some ((some 49), true))⟩,
 ⟨(some 56), (.ias 1 (.t 54) (.t 55)), (some ((some 49), true))⟩,
 ⟨(some 57), (.ld false 1 (.t 56)), (some ((some 49), true))⟩,
 ⟨(some 58), (.call (.f 101) [(.t 53), (.t 57)]), (some ((some 49), true))⟩,
 ⟨(some 59), (.un .not (.t 58)), (some ((some 49), true))⟩,
 ⟨(some 60), (.pick (.t 49) (.t 59) (.c (.b false))), none⟩])
 (.cond (.t 60)
 (.skip)
 (.exit 2)))
 (.block 3 (.ops none [⟨(some 61), (.mv (.t 11)), none⟩,
 ⟨(some 62), (.bin .sub (.t 61) (.c (.i .i64 1))), none⟩,
 ⟨(some 11), (.mv (.t 62)), none⟩])))))
 (.seq (.seq (.ops none [⟨(some 63), (.mv (.t 10)), none⟩,
 ⟨(some 64), (.mv (.t 11)), none⟩,
 ⟨(some 65), (.bin .gtr (.t 63) (.t 64)), none⟩])
 (.cond (.t 65)
 (.seq (.ops (some [0, 0, 0, 0, 0, 0, 48, 112, 0, 0, 768, 1792, 4083, 8179, 16383, 32767]) [⟨(some 66), (.mv (.t 0)), none⟩,
 ⟨(some 67), (.mv (.t 11)), none⟩,
 ⟨(some 68), (.mv (.t 0)), none⟩,
 ⟨(some 69), (.mv (.t 1)), none⟩,
 ⟨(some 70), (.mv (.t 0)), none⟩,
 ⟨(some 71), (.mv (.t 1)), none⟩,
 ⟨(some 72), (.ias 1 (.t 70) (.t 71)), none⟩,
 ⟨(some 73), (.ld false 1 (.t 72)), none⟩,
 ⟨(some 74), (.mv (.t 0)), none⟩,
 ⟨(some 75), (.mv (.t 11)), none⟩,
 ⟨(some 76), (.ias 1 (.t 74) (.t 75)), none⟩,
 ⟨(some 77), (.ld false 1 (.t 76)), none⟩,
 ⟨(some 78), (.ias 1 (.t 66) (.t 67)), none⟩,
 ⟨none, (.st 1 (.t 78) (.t 73)), none⟩,
 ⟨(some 79), (.ias 1 (.t 68) (.t 69)), none⟩,
 ⟨none, (.st 1 (.t 79) (.t 77)), none⟩])
 (.seq (.ops none [⟨(some 80), (.mv (.t 11)), none⟩,
 ⟨(some 8), (.mv (.t 80)), none⟩,
 ⟨(some 9), (.mv (.c (.b true))), none⟩])
 (.ret)))
 (.skip)))
 (.seq (.ops (some [0, 0, 0, 0, 0, 0, 48, 112, 0, 0, 768, 1792, 4083, 8179, 16383, 32767]) [⟨(some 81), (.mv (.t 0)), none⟩,
 ⟨(some 82), (.mv (.t 10)), none⟩,
 ⟨(some 83), (.mv (.t 0)), none⟩,
 ⟨(some 84), (.mv (.t 11)), none⟩,
 ⟨(some 85), (.mv (.t 0)), none⟩,
 ⟨(some 86), (.mv (.t 11)), none⟩,
 ⟨(some 87), (.ias 1 (.t 85) (.t 86)), none⟩,
 ⟨(some 88), (.ld false 1 (.t 87)), none⟩,
 ⟨(some 89), (.mv (.t 0)), none⟩,
 ⟨(some 90), (.mv (.t 10)), none⟩,
 ⟨(some 91), (.ias 1 (.t 89) (.t 90)), none⟩,
 ⟨(some 92), (.ld false 1 (.t 91)), none⟩,
 ⟨(some 93), (.ias 1 (.t 81) (.t 82)), none⟩,
 ⟨none, (.st 1 (.t 93) (.t 88)), none⟩,
 ⟨(some 94), (.ias 1 (.t 83) (.t 84)), none⟩,
 ⟨none, (.st 1 (.t 94) (.t 92)), none⟩])
 (.seq (.ops none [⟨(some 95), (.mv (.t 10)), none⟩,
 ⟨(some 96), (.bin .add (.t 95) (.c (.i .i64 1))), none⟩,
 ⟨(some 10), (.mv (.t 96)), none⟩])
 (.seq (.ops none [⟨(some 97), (.mv (.t 11)), none⟩,
 ⟨(some 98), (.bin .sub (.t 97) (.c (.i .i64 1))), none⟩,
 ⟨(some 11), (.mv (.t 98)), none⟩])
 (.seq (.block 4 (.loop (.block 5 (.seq (.block 6 (.loop (.seq (.seq (.ops (some [0, 0, 3, 7, 15, 15, 63, 127, 15, 15, 783, 1807, 4095, 8191]) [⟨(some 99), (.mv (.t 10)), none⟩,
 ⟨(some 100), (.mv (.t 11)), none⟩,
 ⟨(some 101), (.bin .leq (.t 99) (.t 100)), none⟩,
 ⟨(some 102), (.mv (.t 101)), none⟩,
 ⟨(some 103), (.mv (.t 0)), (some ((some 102), true))⟩,
 ⟨(some 104), (.mv (.t 10)), (some ((some 102), true))⟩,
 ⟨(some 105), (.ias 1 (.t 103) (.t 104)), (some ((some 102), true))⟩,
 ⟨(some 106), (.ld false 1 (.t 105)), (some ((some 102), true))⟩,
 ⟨(some 107), (.mv (.t 0)), (some ((some 102), true))⟩,
 ⟨(some 108), (.mv (.t 1)), (some ((some 102), true))⟩,
 ⟨(some 109), (.ias 1 (.t 107) (.t 108)), (some ((some 102), true))⟩,
 ⟨(some 110), (.ld false 1 (.t 109)), (some ((some 102), true))⟩,
 ⟨(some 111), (.call (.f 101) [(.t 106), (.t 110)]), (some ((some 102), true))⟩,
 ⟨(some 112), (.pick (.t 102) (.t 111) (.c (.b false))), none⟩])
 (.cond (.t 112)
 (.skip)
 (.exit 6)))
 (.block 7 (.ops none [⟨(some 113), (.mv (.t 10)), none⟩,
 ⟨(some 114), (.bin .add (.t 113) (.c (.i .i64 1))), none⟩,
 ⟨(some 10), (.mv (.t 114)), none⟩])))))
 (.seq (.block 8 (.loop (.seq (.seq (.ops (some [0, 0, 3, 7, 15, 15, 63, 127, 15, 15, 783, 1807, 4095, 8191, 16383]) [⟨(some 115), (.mv (.t 10)), none⟩,
 ⟨(some 116), (.mv (.t 11)), none⟩,
 ⟨(some 117), (.bin .leq (.t 115) (.t 116)), none⟩,
 ⟨(some 118), (.mv (.t 117)), none⟩,
 ⟨(some 119), (.mv (.t 0)), (some ((some 118), true))⟩,
 ⟨(some 120), (.mv (.t 11)), (some ((some 118), true))⟩,
 ⟨(some 121), (.ias 1 (.t 119) (.t 120)), (some ((some 118), true))⟩,
 ⟨(some 122), (.ld false 1 (.t 121)), (some ((some 118), true))⟩,
 ⟨(some 123), (.mv (.t 0)), (some ((some 118), true))⟩,
 ⟨(some 124), (.mv (.t 1)), (some ((some 118), true))⟩,
 ⟨(some 125), (.ias 1 (.t 123) (.t 124)), (some ((some 118), true))⟩,
 ⟨(some 126), (.ld false 1 (.t 125)), (some ((some 118), true))⟩,
 ⟨(some 127), (.call (.f 101) [(.t 122), (.t 126)]), (some ((some 118), true))⟩,
 ⟨(some 128), (.un .not (.t 127)), (some ((some 118), true))⟩,
 ⟨(some 129), (.pick (.t 118) (.t 128) (.c (.b false))), none⟩])
 (.cond (.t 129)
 (.skip)
 (.exit 8)))
 (.block 9 (.ops none [⟨(some 130), (.mv (.t 11)), none⟩,
 ⟨(some 131), (.bin .sub (.t 130) (.c (.i .i64 1))), none⟩,
 ⟨(some 11), (.mv (.t 131)), none⟩])))))
 (.seq (.seq (.ops none [⟨(some 132), (.mv (.t 10)), none⟩,
 ⟨(some 133), (.mv (.t 11)), none⟩,
 ⟨(some 134), (.bin .gtr (.t 132) (.t 133)), none⟩])
 (.cond (.t 134)
 (.exit 4)
 (.skip)))
 (.seq (.ops (some [0, 0, 0, 0, 0, 0, 48, 112, 0, 0, 768, 1792, 4083, 8179, 16383, 32767]) [⟨(some 135), (.mv (.t 0)), none⟩,
 ⟨(some 136), (.mv (.t 10)), none⟩,
 ⟨(some 137), (.mv (.t 0)), none⟩,
 ⟨(some 138), (.mv (.t 11)), none⟩,
 ⟨(some 139), (.mv (.t 0)), none⟩,
 ⟨(some 140), (.mv (.t 11)), none⟩,
 ⟨(some 141), (.ias 1 (.t 139) (.t 140)), none⟩,
 ⟨(some 142), (.ld false 1 (.t 141)), none⟩,
 ⟨(some 143), (.mv (.t 0)), none⟩,
 ⟨(some 144), (.mv (.t 10)), none⟩,
 ⟨(some 145), (.ias 1 (.t 143) (.t 144)), none⟩,
 ⟨(some 146), (.ld false 1 (.t 145)), none⟩,
 ⟨(some 147), (.ias 1 (.t 135) (.t 136)), none⟩,
 ⟨none, (.st 1 (.t 147) (.t 142)), none⟩,
 ⟨(some 148), (.ias 1 (.t 137) (.t 138)), none⟩,
 ⟨none, (.st 1 (.t 148) (.t 146)), none⟩])
 (.seq (.ops none [⟨(some 149), (.mv (.t 10)), none⟩,
 ⟨(some 150), (.bin .add (.t 149) (.c (.i .i64 1))), none⟩,
 ⟨(some 10), (.mv (.t 150)), none⟩])
 (.ops none [⟨(some 151), (.mv (.t 11)), none⟩,
 ⟨(some 152), (.bin .sub (.t 151) (.c (.i .i64 1))), none⟩,
 ⟨(some 11), (.mv (.t 152)), none⟩])))))))))
 (.seq (.ops (some [0, 0, 0, 0, 0, 0, 48, 112, 0, 0, 768, 1792, 4083, 8179, 16383, 32767]) [⟨(some 153), (.mv (.t 0)), none⟩,
 ⟨(some 154), (.mv (.t 11)), none⟩,
 ⟨(some 155), (.mv (.t 0)), none⟩,
 ⟨(some 156), (.mv (.t 1)), none⟩,
 ⟨(some 157), (.mv (.t 0)), none⟩,
 ⟨(some 158), (.mv (.t 1)), none⟩,
 ⟨(some 159), (.ias 1 (.t 157) (.t 158)), none⟩,
 ⟨(some 160), (.ld false 1 (.t 159)), none⟩,
 ⟨(some 161), (.mv (.t 0)), none⟩,
 ⟨(some 162), (.mv (.t 11)), none⟩,
 ⟨(some 163), (.ias 1 (.t 161) (.t 162)), none⟩,
 ⟨(some 164), (.ld false 1 (.t 163)), none⟩,
 ⟨(some 165), (.ias 1 (.t 153) (.t 154)), none⟩,
 ⟨none, (.st 1 (.t 165) (.t 160)), none⟩,
 ⟨(some 166), (.ias 1 (.t 155) (.t 156)), none⟩,
 ⟨none, (.st 1 (.t 166) (.t 164)), none⟩])
 (.seq (.ops none [⟨(some 167), (.mv (.t 11)), none⟩,
 ⟨(some 8), (.mv (.t 167)), none⟩,
 ⟨(some 9), (.mv (.c (.b false))), none⟩])
 (.ret))))))))))))⟩
theorem F103_ok : prepF Try.prog 103 = some F103 := by kernel_rfl
/-- slices.order2CmpFunc[glazier/api.Rect] -/
def F104 : AFun := ⟨32, [.t 10, .t 11],
 .seq (.ops none [⟨(some 10), (.mv (.c (.i .i64 0))), none⟩,
 ⟨(some 11), (.mv (.c (.i .i64 0))), none⟩])
 (.seq (.seq (.ops (some [0, 0, 0, 6, 14, 0, 0, 96, 224, 511, 1023]) [⟨(some 12), (.mv (.t 4)), none⟩,
 ⟨(some 13), (.mv (.t 0)), none⟩,
 ⟨(some 14), (.mv (.t 2)), none⟩,
 ⟨(some 15), (.ias 4 (.t 13) (.t 14)), none⟩,
 ⟨(some 16), (.ld true 4 (.t 15)), none⟩,
 ⟨(some 17), (.mv (.t 0)), none⟩,
 ⟨(some 18), (.mv (.t 1)), none⟩,
 ⟨(some 19), (.ias 4 (.t 17) (.t 18)), none⟩,
 ⟨(some 20), (.ld true 4 (.t 19)), none⟩,
 ⟨(some 21), (.call (.t 12) [(.t 16), (.t 20)]), none⟩,
 ⟨(some 22), (.bin .lss (.t 21) (.c (.i .i64 0))), none⟩])
 (.cond (.t 22)
 (.seq (.ops none [⟨(some 23), (.mv (.t 3)), none⟩,
 ⟨(some 24), (.nilc (.t 23)), none⟩,
 ⟨(some 25), (.ld false 1 (.t 24)), none⟩,
 ⟨(some 26), (.bin .add (.t 25) (.c (.i .i64 1))), none⟩,
 ⟨(some 27), (.nilc (.t 23)), none⟩,
 ⟨none, (.st 1 (.t 27) (.t 26)), none⟩])
 (.seq (.ops none [⟨(some 28), (.mv (.t 2)), none⟩,
 ⟨(some 29), (.mv (.t 1)), none⟩,
 ⟨(some 10), (.mv (.t 28)), none⟩,
 ⟨(some 11), (.mv (.t 29)), none⟩])
 (.ret)))
 (.skip)))
 (.seq (.ops none [⟨(some 30), (.mv (.t 1)), none⟩,
 ⟨(some 31), (.mv (.t 2)), none⟩,
 ⟨(some 10), (.mv (.t 30)), none⟩,
 ⟨(some 11), (.mv (.t 31)), none⟩])
 (.ret)))⟩
theorem F104_ok : prepF Try.prog 104 = some F104 := by kernel_rfl
/-- slices.siftDownOrdered[int] -/
def F105 : AFun := ⟨76, [],
 .seq (.ops none [⟨(some 10), (.mv (.t 1)), none⟩,
 ⟨(some 8), (.mv (.t 10)), none⟩])
 (.block 0 (.loop (.block 1 (.seq (.ops none [⟨(some 11), (.mv (.t 8)), none⟩,
 ⟨(some 12), (.bin .mul (.c (.i .i64 2)) (.t 11)), none⟩,
 ⟨(some 13), (.bin .add (.t 12) (.c (.i .i64 1))), none⟩,
 ⟨(some 9), (.mv (.t 13)), none⟩])
 (.seq (.seq (.ops none [⟨(some 14), (.mv (.t 9)), none⟩,
 ⟨(some 15), (.mv (.t 2)), none⟩,
 ⟨(some 16), (.bin .geq (.t 14) (.t 15)), none⟩])
 (.cond (.t 16)
 (.exit 0)
 (.skip)))
 (.seq (.seq (.ops (some [0, 1, 0, 7, 15, 31, 31, 31, 223, 511, 1023, 31, 31, 31, 12319, 28703, 63519, 129055, 262143, 524287]) [⟨(some 17), (.mv (.t 9)), none⟩,
 ⟨(some 18), (.bin .add (.t 17) (.c (.i .i64 1))), none⟩,
 ⟨(some 19), (.mv (.t 2)), none⟩,
 ⟨(some 20), (.bin .lss (.t 18) (.t 19)), none⟩,
 ⟨(some 21), (.mv (.t 20)), none⟩,
 ⟨(some 22), (.mv (.t 0)), (some ((some 21), true))⟩,
 ⟨(some 23), (.mv (.t 3)), (some ((some 21), true))⟩,
 ⟨(some 24), (.mv (.t 9)), (some ((some 21), true))⟩,
 ⟨(some 25), (.bin .add (.t 23) (.t 24)), (some ((some 21), true))⟩,
 ⟨(some 26), (.ias 1 (.t 22) (.t 25)), (some ((some 21), true))⟩,
 ⟨(some 27), (.ld false 1 (.t 26)), (some ((some 21), true))⟩,
 ⟨(some 28), (.mv (.t 0)), (some ((some 21), true))⟩,
 ⟨(some 29), (.mv (.t 3)), (some ((some 21), true))⟩,
 ⟨(some 30), (.mv (.t 9)), (some ((some 21), true))⟩,
 ⟨(some 31), (.bin .add (.t 29) (.t 30)), (some ((some 21), true))⟩,
 ⟨(some 32), (.bin .add (.t 31) (.c (.i .i64 1))), (some ((some 21), true))⟩,
 ⟨(some 33), (.ias 1 (.t 28) (.t 32)), (some ((some 21), true))⟩,
 ⟨(some 34), (.ld false 1 (.t 33)), (some ((some 21), true))⟩,
 ⟨(some 35), (.call (.f 101) [(.t 27), (.t 34)]), (some ((some 21), true))⟩,
 ⟨(some 36), (.pick (.t 21) (.t 35) (.c (.b false))), none⟩])
 (.cond (.t 36)
 (.ops none [⟨(some 37), (.mv (.t 9)), none⟩,
 ⟨(some 38), (.bin .add (.t 37) (.c (.i .i64 1))), none⟩,
 ⟨(some 9), (.mv (.t 38)), none⟩])
 (.skip)))
 (.seq (.seq (.ops (some [0, 0, 0, 6, 15, 31, 0, 0, 0, 384, 960, 1984, 4095, 8191]) [⟨(some 39), (.mv (.t 0)), none⟩,
 ⟨(some 40), (.mv (.t 3)), none⟩,
 ⟨(some 41), (.mv (.t 8)), none⟩,
 ⟨(some 42), (.bin .add (.t 40) (.t 41)), none⟩,
 ⟨(some 43), (.ias 1 (.t 39) (.t 42)), none⟩,
 ⟨(some 44), (.ld false 1 (.t 43)), none⟩,
 ⟨(some 45), (.mv (.t 0)), none⟩,
 ⟨(some 46), (.mv (.t 3)), none⟩,
 ⟨(some 47), (.mv (.t 9)), none⟩,
 ⟨(some 48), (.bin .add (.t 46) (.t 47)), none⟩,
 ⟨(some 49), (.ias 1 (.t 45) (.t 48)), none⟩,
 ⟨(some 50), (.ld false 1 (.t 49)), none⟩,
 ⟨(some 51), (.call (.f 101) [(.t 44), (.t 50)]), none⟩,
 ⟨(some 52), (.un .not (.t 51)), none⟩])
 (.cond (.t 52)
 (.ret)
 (.skip)))
 (.seq (.ops (some [0, 0, 0, 6, 0, 0, 0, 96, 0, 0, 0, 1536, 3840, 7936, 0, 0, 0, 98304, 245760, 507904, 1048335, 2096911, 4194303, 8388607]) [⟨(some 53), (.mv (.t 0)), none⟩,
 ⟨(some 54), (.mv (.t 3)), none⟩,
 ⟨(some 55), (.mv (.t 8)), none⟩,
 ⟨(some 56), (.bin .add (.t 54) (.t 55)), none⟩,
 ⟨(some 57), (.mv (.t 0)), none⟩,
 ⟨(some 58), (.mv (.t 3)), none⟩,
 ⟨(some 59), (.mv (.t 9)), none⟩,
 ⟨(some 60), (.bin .add (.t 58) (.t 59)), none⟩,
 ⟨(some 61), (.mv (.t 0)), none⟩,
 ⟨(some 62), (.mv (.t 3)), none⟩,
 ⟨(some 63), (.mv (.t 9)), none⟩,
 ⟨(some 64), (.bin .add (.t 62) (.t 63)), none⟩,
 ⟨(some 65), (.ias 1 (.t 61) (.t 64)), none⟩,
 ⟨(some 66), (.ld false 1 (.t 65)), none⟩,
 ⟨(some 67), (.mv (.t 0)), none⟩,
 ⟨(some 68), (.mv (.t 3)), none⟩,
 ⟨(some 69), (.mv (.t 8)), none⟩,
 ⟨(some 70), (.bin .add (.t 68) (.t 69)), none⟩,
 ⟨(some 71), (.ias 1 (.t 67) (.t 70)), none⟩,
 ⟨(some 72), (.ld false 1 (.t 71)), none⟩,
 ⟨(some 73), (.ias 1 (.t 53) (.t 56)), none⟩,
 ⟨none, (.st 1 (.t 73) (.t 66)), none⟩,
 ⟨(some 74), (.ias 1 (.t 57) (.t 60)), none⟩,
 ⟨none, (.st 1 (.t 74) (.t 72)), none⟩])
 (.ops none [⟨(some 75), (.mv (.t 9)), none⟩,
 ⟨(some 8), (.mv (.t 75)), none⟩])))))))))⟩
theorem F105_ok : prepF Try.prog 105 = some F105 := by kernel_rfl
/-- slices.medianAdjacentOrdered[int] -/
def F106 : AFun := ⟨15, [.t 6],
 .seq (.ops none [⟨(some 6), (.mv (.c (.i .i64 0))), none⟩])
 (.seq (.ops none [⟨(some 7), (.mv (.t 0)), none⟩,
 ⟨(some 8), (.mv (.t 1)), none⟩,
 ⟨(some 9), (.bin .sub (.t 8) (.c (.i .i64 1))), none⟩,
 ⟨(some 10), (.mv (.t 1)), none⟩,
 ⟨(some 11), (.mv (.t 1)), none⟩,
 ⟨(some 12), (.bin .add (.t 11) (.c (.i .i64 1))), none⟩,
 ⟨(some 13), (.mv (.t 2)), none⟩,
 ⟨(some 14), (.call (.f 107) [(.t 7), (.t 9), (.t 10), (.t 12), (.t 13)]), none⟩,
 ⟨(some 6), (.mv (.t 14)), none⟩])
 (.ret))⟩
theorem F106_ok : prepF Try.prog 106 = some F106 := by kernel_rfl
/-- slices.medianOrdered[int] -/
def F107 : AFun := ⟨36, [.t 10],
 .seq (.ops none [⟨(some 10), (.mv (.c (.i .i64 0))), none⟩])
 (.seq (.ops none [⟨(some 12), (.mv (.t 0)), none⟩,
 ⟨(some 13), (.mv (.t 1)), none⟩,
 ⟨(some 14), (.mv (.t 2)), none⟩,
 ⟨(some 15), (.mv (.t 4)), none⟩,
 ⟨(some 16), (.call (.f 108) [(.t 12), (.t 13), (.t 14), (.t 15)]), none⟩,
 ⟨(some 11), (.mv (.t 16)), none⟩,
 ⟨(some 17), (.ext (.t 11) 0), none⟩,
 ⟨(some 18), (.ext (.t 11) 1), none⟩,
 ⟨(some 1), (.mv (.t 17)), none⟩,
 ⟨(some 2), (.mv (.t 18)), none⟩])
 (.seq (.ops none [⟨(some 20), (.mv (.t 0)), none⟩,
 ⟨(some 21), (.mv (.t 2)), none⟩,
 ⟨(some 22), (.mv (.t 3)), none⟩,
 ⟨(some 23), (.mv (.t 4)), none⟩,
 ⟨(some 24), (.call (.f 108) [(.t 20), (.t 21), (.t 22), (.t 23)]), none⟩,
 ⟨(some 19), (.mv (.t 24)), none⟩,
 ⟨(some 25), (.ext (.t 19) 0), none⟩,
 ⟨(some 26), (.ext (.t 19) 1), none⟩,
 ⟨(some 2), (.mv (.t 25)), none⟩,
 ⟨(some 3), (.mv (.t 26)), none⟩])
 (.seq (.ops none [⟨(some 28), (.mv (.t 0)), none⟩,
 ⟨(some 29), (.mv (.t 1)), none⟩,
 ⟨(some 30), (.mv (.t 2)), none⟩,
 ⟨(some 31), (.mv (.t 4)), none⟩,
 ⟨(some 32), (.call (.f 108) [(.t 28), (.t 29), (.t 30), (.t 31)]), none⟩,
 ⟨(some 27), (.mv (.t 32)), none⟩,
 ⟨(some 33), (.ext (.t 27) 0), none⟩,
 ⟨(some 34), (.ext (.t 27) 1), none⟩,
 ⟨(some 1), (.mv (.t 33)), none⟩,
 ⟨(some 2), (.mv (.t 34)), none⟩])
 (.seq (.ops none [⟨(some 35), (.mv (.t 2)), none⟩,
 ⟨(some 10), (.mv (.t 35)), none⟩])
 (.ret)))))⟩
theorem F107_ok : prepF Try.prog 107 = some F107 := by kernel_rfl
/-- slices.order2Ordered[int] -/
def F108 : AFun := ⟨28, [.t 8, .t 9],
 .seq (.ops none [⟨(some 8), (.mv (.c (.i .i64 0))), none⟩,
 ⟨(some 9), (.mv (.c (.i .i64 0))), none⟩])
 (.seq (.seq (.ops (some [0, 0, 3, 7, 0, 0, 48, 112, 255]) [⟨(some 10), (.mv (.t 0)), none⟩,
 ⟨(some 11), (.mv (.t 2)), none⟩,
 ⟨(some 12), (.ias 1 (.t 10) (.t 11)), none⟩,
 ⟨(some 13), (.ld false 1 (.t 12)), none⟩,
 ⟨(some 14), (.mv (.t 0)), none⟩,
 ⟨(some 15), (.mv (.t 1)), none⟩,
 ⟨(some 16), (.ias 1 (.t 14) (.t 15)), none⟩,
 ⟨(some 17), (.ld false 1 (.t 16)), none⟩,
 ⟨(some 18), (.call (.f 101) [(.t 13), (.t 17)]), none⟩])
 (.cond (.t 18)
 (.seq (.ops none [⟨(some 19), (.mv (.t 3)), none⟩,
 ⟨(some 20), (.nilc (.t 19)), none⟩,
 ⟨(some 21), (.ld false 1 (.t 20)), none⟩,
 ⟨(some 22), (.bin .add (.t 21) (.c (.i .i64 1))), none⟩,
 ⟨(some 23), (.nilc (.t 19)), none⟩,
 ⟨none, (.st 1 (.t 23) (.t 22)), none⟩])
 (.seq (.ops none [⟨(some 24), (.mv (.t 2)), none⟩,
 ⟨(some 25), (.mv (.t 1)), none⟩,
 ⟨(some 8), (.mv (.t 24)), none⟩,
 ⟨(some 9), (.mv (.t 25)), none⟩])
 (.ret)))
 (.skip)))
 (.seq (.ops none [⟨(some 26), (.mv (.t 1)), none⟩,
 ⟨(some 27), (.mv (.t 2)), none⟩,
 ⟨(some 8), (.mv (.t 26)), none⟩,
 ⟨(some 9), (.mv (.t 27)), none⟩])
 (.ret)))⟩
theorem F108_ok : prepF Try.prog 108 = some F108 := by kernel_rfl
end Go.Proofs.Ytpgelghkjiejlaa
