/- The prepared bodies of functions of the program, as the preparation gives them (printed by a program of mine). -/
import Derived.Test.YtpgelghkjiejlaaGae
import Derived.Test.YtpgelghkjiejlaaProg
import Derived.KernelRfl
set_option linter.unusedVariables false
set_option linter.unusedSimpArgs false
set_option maxRecDepth 100000
namespace Go.Proofs.Ytpgelghkjiejlaa
open Go
/-- gosem.cut.init -/
def F2 : AFun := ⟨1, [],
 .ops none [⟨(some 0), (.call (.f 1) []), none⟩]⟩
theorem F2_ok : prepF Try.prog 2 = some F2 := by kernel_rfl
/-- glazier/glazierlaw27.TextPlaces -/
def F3 : AFun := ⟨41, [.t 8],
 .seq (.ops none [⟨(some 8), (.mv (.c (.b false))), none⟩])
 (.seq (.seq (.ops none [⟨(some 11), (.mv (.t 1)), none⟩,
 ⟨(some 12), (.blen true (.t 11)), none⟩,
 ⟨(some 13), (.bin .gtr (.t 12) (.c (.i .i64 60))), none⟩])
 (.cond (.t 13)
 (.seq (.ops none [⟨(some 14), (.call (.f 7) []), none⟩,
 ⟨(some 8), (.mv (.t 14)), none⟩])
 (.ret))
 (.skip)))
 (.seq (.ops none [⟨(some 15), (.mv (.t 0)), none⟩,
 ⟨(some 16), (.call (.f 8) [(.t 15)]), none⟩,
 ⟨(some 9), (.new (List.replicate 1617 (.i .i64 0))), none⟩,
 ⟨none, (.st 1617 (.t 9) (.t 16)), none⟩])
 (.seq (.ops none [⟨(some 17), (.ld true 1617 (.t 9)), none⟩,
 ⟨(some 18), (.mv (.t 1)), none⟩,
 ⟨(some 19), (.call (.f 9) [(.t 17), (.t 18)]), none⟩,
 ⟨(some 10), (.new [.nils, .nils, (.i .i64 0), (.i .i64 0)]), none⟩,
 ⟨none, (.st 4 (.t 10) (.t 19)), none⟩])
 (.seq (.ops (some [0, 0, 0, 7, 0, 0, 63, 127, 255, 511, 511, 511, 4095, 511, 511, 32767, 65535, 131071, 262143, 524287, 1048575, 2097151]) [⟨(some 20), (.ld true 1617 (.t 9)), none⟩,
 ⟨(some 21), (.mv (.t 1)), none⟩,
 ⟨(some 22), (.mv (.t 2)), none⟩,
 ⟨(some 23), (.call (.f 10) [(.t 20), (.t 21), (.t 22)]), none⟩,
 ⟨(some 24), (.ld true 4 (.t 10)), none⟩,
 ⟨(some 25), (.mv (.t 2)), none⟩,
 ⟨(some 26), (.call (.f 11) [(.t 24), (.t 25)]), none⟩,
 ⟨(some 27), (.bin .eql (.t 23) (.t 26)), none⟩,
 ⟨(some 28), (.mv (.t 27)), none⟩,
 ⟨(some 29), (.ld true 1617 (.t 9)), (some ((some 28), true))⟩,
 ⟨(some 30), (.mv (.t 1)), (some ((some 28), true))⟩,
 ⟨(some 31), (.mv (.t 3)), (some ((some 28), true))⟩,
 ⟨(some 32), (.call (.f 12) [(.t 29), (.t 30), (.t 31)]), (some ((some 28), true))⟩,
 ⟨(some 33), (.ld true 4 (.t 10)), (some ((some 28), true))⟩,
 ⟨(some 34), (.mv (.t 3)), (some ((some 28), true))⟩,
 ⟨(some 35), (.call (.f 13) [(.t 33), (.t 34)]), (some ((some 28), true))⟩,
 ⟨(some 36), (.bin .eql (.t 32) (.t 35)), (some ((some 28), true))⟩,
 ⟨(some 37), (.pick (.t 28) (.t 36) (.c (.b false))), none⟩,
 ⟨(some 38), (.mv (.t 37)), none⟩,
 ⟨(some 39), (.call (.f 7) []), (some ((some 38), true))⟩,
 ⟨(some 40), (.pick (.t 38) (.t 39) (.c (.b false))), none⟩,
 ⟨(some 8), (.mv (.t 40)), none⟩])
 (.ret)))))⟩
theorem F3_ok : prepF Try.prog 3 = some F3 := by kernel_rfl
/-- glazier/glazierlaw27.TextFinds -/
def F4 : AFun := ⟨116, [.t 6],
 .seq (.ops none [⟨(some 6), (.mv (.c (.b false))), none⟩])
 (.seq (.seq (.ops none [⟨(some 11), (.mv (.t 1)), none⟩,
 ⟨(some 12), (.blen true (.t 11)), none⟩,
 ⟨(some 13), (.bin .gtr (.t 12) (.c (.i .i64 60))), none⟩])
 (.cond (.t 13)
 (.seq (.ops none [⟨(some 14), (.call (.f 7) []), none⟩,
 ⟨(some 6), (.mv (.t 14)), none⟩])
 (.ret))
 (.skip)))
 (.seq (.ops none [⟨(some 15), (.mv (.t 0)), none⟩,
 ⟨(some 16), (.call (.f 8) [(.t 15)]), none⟩,
 ⟨(some 7), (.new (List.replicate 1617 (.i .i64 0))), none⟩,
 ⟨none, (.st 1617 (.t 7) (.t 16)), none⟩])
 (.seq (.ops none [⟨(some 17), (.mv (.t 2)), none⟩,
 ⟨(some 18), (.conv .i64 (.t 17)), none⟩,
 ⟨(some 19), (.ld true 1617 (.t 7)), none⟩,
 ⟨(some 20), (.mv (.t 1)), none⟩,
 ⟨(some 21), (.call (.f 14) [(.t 19), (.t 20)]), none⟩,
 ⟨(some 22), (.bin .add (.t 21) (.c (.i .i64 9))), none⟩,
 ⟨(some 23), (.bin .rem (.t 18) (.t 22)), none⟩,
 ⟨(some 8), (.mv (.t 23)), none⟩])
 (.seq (.ops (some [0, 0, 0, 7, 0, 0, 0, 127, 255, 511]) [⟨(some 24), (.ld true 1617 (.t 7)), none⟩,
 ⟨(some 25), (.mv (.t 1)), none⟩,
 ⟨(some 26), (.mv (.t 8)), none⟩,
 ⟨(some 27), (.call (.f 10) [(.t 24), (.t 25), (.t 26)]), none⟩,
 ⟨(some 28), (.ld true 1617 (.t 7)), none⟩,
 ⟨(some 29), (.mv (.t 1)), none⟩,
 ⟨(some 30), (.mv (.t 8)), none⟩,
 ⟨(some 31), (.call (.f 12) [(.t 28), (.t 29), (.t 30)]), none⟩,
 ⟨(some 9), (.mv (.t 27)), none⟩,
 ⟨(some 10), (.mv (.t 31)), none⟩])
 (.seq (.seq (.ops (some [0, 1, 3, 7, 7, 23, 63, 127, 255, 511, 1023, 2047, 4095, 8191, 8191, 24575, 65535, 131071, 262143, 524287, 524287, 524287, 3670015, 8388607, 524287, 33554431, 67108863, 134217727, 268435455, 268435455, 268435455, 1879048191, 4294967295, 268435455, 17179869183, 34359738367]) [⟨(some 32), (.mv (.t 9)), none⟩,
 ⟨(some 33), (.bin .lss (.t 32) (.c (.i .i64 0))), none⟩,
 ⟨(some 34), (.mv (.t 33)), none⟩,
 ⟨(some 35), (.mv (.t 9)), (some ((some 34), false))⟩,
 ⟨(some 36), (.mv (.t 1)), (some ((some 34), false))⟩,
 ⟨(some 37), (.blen true (.t 36)), (some ((some 34), false))⟩,
 ⟨(some 38), (.bin .gtr (.t 35) (.t 37)), (some ((some 34), false))⟩,
 ⟨(some 39), (.pick (.t 34) (.c (.b true)) (.t 38)), none⟩,
 ⟨(some 40), (.mv (.t 39)), none⟩,
 ⟨(some 41), (.mv (.t 10)), (some ((some 40), false))⟩,
 ⟨(some 42), (.bin .lss (.t 41) (.c (.i .i64 0))), (some ((some 40), false))⟩,
 ⟨(some 43), (.pick (.t 40) (.c (.b true)) (.t 42)), none⟩,
 ⟨(some 44), (.mv (.t 43)), none⟩,
 ⟨(some 45), (.mv (.t 10)), (some ((some 44), false))⟩,
 ⟨(some 46), (.mv (.t 1)), (some ((some 44), false))⟩,
 ⟨(some 47), (.blen true (.t 46)), (some ((some 44), false))⟩,
 ⟨(some 48), (.bin .gtr (.t 45) (.t 47)), (some ((some 44), false))⟩,
 ⟨(some 49), (.pick (.t 44) (.c (.b true)) (.t 48)), none⟩,
 ⟨(some 50), (.mv (.t 49)), none⟩,
 ⟨(some 51), (.ld true 1617 (.t 7)), (some ((some 50), false))⟩,
 ⟨(some 52), (.mv (.t 1)), (some ((some 50), false))⟩,
 ⟨(some 53), (.mv (.t 9)), (some ((some 50), false))⟩,
 ⟨(some 54), (.sstr (.t 52) none (some (.t 53))), (some ((some 50), false))⟩,
 ⟨(some 55), (.call (.f 14) [(.t 51), (.t 54)]), (some ((some 50), false))⟩,
 ⟨(some 56), (.mv (.t 8)), (some ((some 50), false))⟩,
 ⟨(some 57), (.bin .gtr (.t 55) (.t 56)), (some ((some 50), false))⟩,
 ⟨(some 58), (.pick (.t 50) (.c (.b true)) (.t 57)), none⟩,
 ⟨(some 59), (.mv (.t 58)), none⟩,
 ⟨(some 60), (.ld true 1617 (.t 7)), (some ((some 59), false))⟩,
 ⟨(some 61), (.mv (.t 1)), (some ((some 59), false))⟩,
 ⟨(some 62), (.mv (.t 10)), (some ((some 59), false))⟩,
 ⟨(some 63), (.sstr (.t 61) none (some (.t 62))), (some ((some 59), false))⟩,
 ⟨(some 64), (.call (.f 14) [(.t 60), (.t 63)]), (some ((some 59), false))⟩,
 ⟨(some 65), (.mv (.t 8)), (some ((some 59), false))⟩,
 ⟨(some 66), (.bin .gtr (.t 64) (.t 65)), (some ((some 59), false))⟩,
 ⟨(some 67), (.pick (.t 59) (.c (.b true)) (.t 66)), none⟩])
 (.cond (.t 67)
 (.seq (.ops none [⟨(some 6), (.mv (.c (.b false))), none⟩])
 (.ret))
 (.skip)))
 (.seq (.seq (.ops (some [0, 0, 2, 7, 15, 31, 31, 31, 159, 479, 1023, 31, 4095, 8191, 16383, 32767, 32767, 98303, 262143, 524287, 1048575, 1048575, 1048575, 5242879, 15728639, 33554431, 1048575, 134217727, 268435455, 536870911]) [⟨(some 68), (.mv (.t 9)), none⟩,
 ⟨(some 69), (.mv (.t 1)), none⟩,
 ⟨(some 70), (.blen true (.t 69)), none⟩,
 ⟨(some 71), (.bin .lss (.t 68) (.t 70)), none⟩,
 ⟨(some 72), (.mv (.t 71)), none⟩,
 ⟨(some 73), (.ld true 1617 (.t 7)), (some ((some 72), true))⟩,
 ⟨(some 74), (.mv (.t 1)), (some ((some 72), true))⟩,
 ⟨(some 75), (.mv (.t 9)), (some ((some 72), true))⟩,
 ⟨(some 76), (.bin .add (.t 75) (.c (.i .i64 1))), (some ((some 72), true))⟩,
 ⟨(some 77), (.sstr (.t 74) none (some (.t 76))), (some ((some 72), true))⟩,
 ⟨(some 78), (.call (.f 14) [(.t 73), (.t 77)]), (some ((some 72), true))⟩,
 ⟨(some 79), (.mv (.t 8)), (some ((some 72), true))⟩,
 ⟨(some 80), (.bin .leq (.t 78) (.t 79)), (some ((some 72), true))⟩,
 ⟨(some 81), (.pick (.t 72) (.t 80) (.c (.b false))), none⟩,
 ⟨(some 82), (.mv (.t 81)), none⟩,
 ⟨(some 83), (.mv (.t 10)), (some ((some 82), false))⟩,
 ⟨(some 84), (.mv (.t 1)), (some ((some 82), false))⟩,
 ⟨(some 85), (.blen true (.t 84)), (some ((some 82), false))⟩,
 ⟨(some 86), (.bin .lss (.t 83) (.t 85)), (some ((some 82), false))⟩,
 ⟨(some 87), (.mv (.t 86)), (some ((some 82), false))⟩,
 ⟨(some 88), (.ld true 1617 (.t 7)), (some ((some 87), true))⟩,
 ⟨(some 89), (.mv (.t 1)), (some ((some 87), true))⟩,
 ⟨(some 90), (.mv (.t 10)), (some ((some 87), true))⟩,
 ⟨(some 91), (.bin .add (.t 90) (.c (.i .i64 1))), (some ((some 87), true))⟩,
 ⟨(some 92), (.sstr (.t 89) none (some (.t 91))), (some ((some 87), true))⟩,
 ⟨(some 93), (.call (.f 14) [(.t 88), (.t 92)]), (some ((some 87), true))⟩,
 ⟨(some 94), (.mv (.t 8)), (some ((some 87), true))⟩,
 ⟨(some 95), (.bin .leq (.t 93) (.t 94)), (some ((some 87), true))⟩,
 ⟨(some 96), (.pick (.t 87) (.t 95) (.c (.b false))), (some ((some 82), false))⟩,
 ⟨(some 97), (.pick (.t 82) (.c (.b true)) (.t 96)), none⟩])
 (.cond (.t 97)
 (.seq (.ops none [⟨(some 6), (.mv (.c (.b false))), none⟩])
 (.ret))
 (.skip)))
 (.seq (.ops none [⟨(some 98), (.mv (.t 9)), none⟩,
 ⟨(some 99), (.mv (.t 1)), none⟩,
 ⟨(some 100), (.blen true (.t 99)), none⟩,
 ⟨(some 101), (.bin .lss (.t 98) (.t 100)), none⟩,
 ⟨(some 102), (.mv (.t 8)), none⟩,
 ⟨(some 103), (.ld true 1617 (.t 7)), none⟩,
 ⟨(some 104), (.mv (.t 1)), none⟩,
 ⟨(some 105), (.call (.f 14) [(.t 103), (.t 104)]), none⟩,
 ⟨(some 106), (.bin .lss (.t 102) (.t 105)), none⟩,
 ⟨(some 107), (.eq1 false 0 (.t 101) (.t 106)), none⟩,
 ⟨(some 108), (.mv (.t 107)), none⟩,
 ⟨(some 109), (.mv (.t 9)), (some ((some 108), true))⟩,
 ⟨(some 110), (.mv (.t 10)), (some ((some 108), true))⟩,
 ⟨(some 111), (.bin .eql (.t 109) (.t 110)), (some ((some 108), true))⟩,
 ⟨(some 112), (.pick (.t 108) (.t 111) (.c (.b false))), none⟩,
 ⟨(some 113), (.mv (.t 112)), none⟩,
 ⟨(some 114), (.call (.f 7) []), (some ((some 113), true))⟩,
 ⟨(some 115), (.pick (.t 113) (.t 114) (.c (.b false))), none⟩,
 ⟨(some 6), (.mv (.t 115)), none⟩])
 (.ret))))))))⟩
theorem F4_ok : prepF Try.prog 4 = some F4 := by kernel_rfl
/-- glazier/glazierlaw27.TextLong -/
def F5 : AFun := ⟨38, [.t 0],
 .seq (.ops none [⟨(some 0), (.mv (.c (.b false))), none⟩])
 (.seq (.ops none [⟨(some 4), (.mks 1 1 [(.i .u8 0)] (.c (.i .i64 5000)) (.c (.i .i64 5000))), none⟩,
 ⟨(some 1), (.mv (.t 4)), none⟩])
 (.seq (.seq (.ops none [⟨(some 5), (.mv (.t 1)), none⟩,
 ⟨(some 6), (.blen false (.t 5)), none⟩,
 ⟨(some 7), (.mv (.c (.i .i64 0))), none⟩])
 (.block 0 (.loop (.seq (.ops none [⟨(some 8), (.bin .lss (.t 7) (.t 6)), none⟩])
 (.seq (.cond (.t 8)
 (.skip)
 (.exit 0))
 (.seq (.block 1 (.seq (.ops none [⟨(some 9), (.mv (.t 7)), none⟩,
 ⟨(some 2), (.mv (.t 9)), none⟩])
 (.ops none [⟨(some 10), (.mv (.t 1)), none⟩,
 ⟨(some 11), (.mv (.t 2)), none⟩,
 ⟨(some 12), (.ias 1 (.t 10) (.t 11)), none⟩,
 ⟨none, (.st 1 (.t 12) (.c (.i .u8 65))), none⟩])))
 (.ops none [⟨(some 13), (.bin .add (.t 7) (.c (.i .i64 1))), none⟩,
 ⟨(some 7), (.mv (.t 13)), none⟩])))))))
 (.seq (.ops none [⟨(some 14), (.call (.f 8) [(.c (.b false))]), none⟩,
 ⟨(some 3), (.new (List.replicate 1617 (.i .i64 0))), none⟩,
 ⟨none, (.st 1617 (.t 3) (.t 14)), none⟩])
 (.seq (.ops none [⟨(some 15), (.ld true 1617 (.t 3)), none⟩,
 ⟨(some 16), (.mv (.t 1)), none⟩,
 ⟨(some 17), (.b2s (.t 16)), none⟩,
 ⟨(some 18), (.call (.f 15) [(.t 15), (.c (.i .i64 0)), (.c (.i .i64 5)), (.t 17)]), none⟩,
 ⟨(some 19), (.build [(.i .i64 0), (.i .i64 0), (.i .i64 0), (.i .i64 0)] [(2, 1, (.c (.i .i64 16384))), (3, 1, (.c (.i .i64 6)))]), none⟩,
 ⟨(some 20), (.eqs false [1, 1, 1, 1] (.t 18) (.t 19)), none⟩,
 ⟨(some 21), (.mv (.t 20)), none⟩,
 ⟨(some 22), (.ld true 1617 (.t 3)), (some ((some 21), true))⟩,
 ⟨(some 23), (.mv (.t 1)), (some ((some 21), true))⟩,
 ⟨(some 24), (.b2s (.t 23)), (some ((some 21), true))⟩,
 ⟨(some 25), (.call (.f 10) [(.t 22), (.t 24), (.c (.i .i64 1099511627776))]), (some ((some 21), true))⟩,
 ⟨(some 26), (.bin .eql (.t 25) (.c (.i .i64 4096))), (some ((some 21), true))⟩,
 ⟨(some 27), (.pick (.t 21) (.t 26) (.c (.b false))), none⟩,
 ⟨(some 28), (.mv (.t 27)), none⟩,
 ⟨(some 29), (.ld true 1617 (.t 3)), (some ((some 28), true))⟩,
 ⟨(some 30), (.mv (.t 1)), (some ((some 28), true))⟩,
 ⟨(some 31), (.b2s (.t 30)), (some ((some 28), true))⟩,
 ⟨(some 32), (.call (.f 12) [(.t 29), (.t 31), (.c (.i .i64 1099511627776))]), (some ((some 28), true))⟩,
 ⟨(some 33), (.bin .eql (.t 32) (.c (.i .i64 4096))), (some ((some 28), true))⟩,
 ⟨(some 34), (.pick (.t 28) (.t 33) (.c (.b false))), none⟩,
 ⟨(some 35), (.mv (.t 34)), none⟩,
 ⟨(some 36), (.call (.f 7) []), (some ((some 35), true))⟩,
 ⟨(some 37), (.pick (.t 35) (.t 36) (.c (.b false))), none⟩,
 ⟨(some 0), (.mv (.t 37)), none⟩])
 (.ret)))))⟩
theorem F5_ok : prepF Try.prog 5 = some F5 := by kernel_rfl
/-- glazier/glazierlaw27.TextRegions -/
def F6 : AFun := ⟨95, [.t 8],
 .seq (.ops none [⟨(some 8), (.mv (.c (.b false))), none⟩])
 (.seq (.seq (.ops none [⟨(some 16), (.mv (.t 3)), none⟩,
 ⟨(some 17), (.blen true (.t 16)), none⟩,
 ⟨(some 18), (.bin .gtr (.t 17) (.c (.i .i64 12))), none⟩])
 (.cond (.t 18)
 (.seq (.ops none [⟨(some 19), (.call (.f 7) []), none⟩,
 ⟨(some 8), (.mv (.t 19)), none⟩])
 (.ret))
 (.skip)))
 (.seq (.ops none [⟨(some 20), (.mv (.t 0)), none⟩,
 ⟨(some 21), (.call (.f 8) [(.t 20)]), none⟩,
 ⟨(some 9), (.new (List.replicate 1617 (.i .i64 0))), none⟩,
 ⟨none, (.st 1617 (.t 9) (.t 21)), none⟩])
 (.seq (.ops none [⟨(some 22), (.ld true 1617 (.t 9)), none⟩,
 ⟨(some 23), (.mv (.t 3)), none⟩,
 ⟨(some 24), (.call (.f 9) [(.t 22), (.t 23)]), none⟩,
 ⟨(some 10), (.new [.nils, .nils, (.i .i64 0), (.i .i64 0)]), none⟩,
 ⟨none, (.st 4 (.t 10) (.t 24)), none⟩])
 (.seq (.ops (some [0, 0, 0, 0, 15, 0, 0, 0, 0, 511, 0, 0, 4095, 8191]) [⟨(some 25), (.ld true 1617 (.t 9)), none⟩,
 ⟨(some 26), (.mv (.t 1)), none⟩,
 ⟨(some 27), (.mv (.t 2)), none⟩,
 ⟨(some 28), (.mv (.t 3)), none⟩,
 ⟨(some 29), (.call (.f 16) [(.t 25), (.t 26), (.t 27), (.t 28)]), none⟩,
 ⟨(some 30), (.ld true 1617 (.t 9)), none⟩,
 ⟨(some 31), (.mv (.t 1)), none⟩,
 ⟨(some 32), (.mv (.t 2)), none⟩,
 ⟨(some 33), (.mv (.t 3)), none⟩,
 ⟨(some 34), (.call (.f 15) [(.t 30), (.t 31), (.t 32), (.t 33)]), none⟩,
 ⟨(some 11), (.new [.nils]), none⟩,
 ⟨(some 12), (.new [(.i .i64 0), (.i .i64 0), (.i .i64 0), (.i .i64 0)]), none⟩,
 ⟨none, (.st 1 (.t 11) (.t 29)), none⟩,
 ⟨none, (.st 4 (.t 12) (.t 34)), none⟩])
 (.seq (.seq (.ops (some [0, 0, 0, 0, 14, 31]) [⟨(some 35), (.ld true 4 (.t 12)), none⟩,
 ⟨(some 36), (.ld true 4 (.t 10)), none⟩,
 ⟨(some 37), (.mv (.t 1)), none⟩,
 ⟨(some 38), (.mv (.t 2)), none⟩,
 ⟨(some 39), (.call (.f 17) [(.t 36), (.t 37), (.t 38)]), none⟩,
 ⟨(some 40), (.eqs true [1, 1, 1, 1] (.t 35) (.t 39)), none⟩])
 (.cond (.t 40)
 (.seq (.ops none [⟨(some 8), (.mv (.c (.b false))), none⟩])
 (.ret))
 (.skip)))
 (.seq (.seq (.ops none [⟨(some 41), (.mv (.t 1)), none⟩,
 ⟨(some 42), (.mv (.t 2)), none⟩,
 ⟨(some 43), (.call (.f 18) [(.t 41), (.t 42)]), none⟩,
 ⟨(some 44), (.un .not (.t 43)), none⟩])
 (.cond (.t 44)
 (.seq (.ops none [⟨(some 45), (.ld true 1 (.t 11)), none⟩,
 ⟨(some 46), (.call (.f 19) [(.t 45)]), none⟩,
 ⟨(some 47), (.mv (.t 46)), none⟩,
 ⟨(some 48), (.call (.f 7) []), (some ((some 47), true))⟩,
 ⟨(some 49), (.pick (.t 47) (.t 48) (.c (.b false))), none⟩,
 ⟨(some 8), (.mv (.t 49)), none⟩])
 (.ret))
 (.skip)))
 (.seq (.ops none [⟨(some 13), (.mv (.c (.i .i64 0))), none⟩])
 (.seq (.seq (.ops none [⟨(some 50), (.mv (.t 2)), none⟩,
 ⟨(some 51), (.bin .sub (.t 50) (.c (.i .i64 10))), none⟩,
 ⟨(some 14), (.mv (.t 51)), none⟩])
 (.block 0 (.loop (.seq (.seq (.ops none [⟨(some 52), (.mv (.t 14)), none⟩,
 ⟨(some 53), (.mv (.t 2)), none⟩,
 ⟨(some 54), (.bin .add (.t 53) (.c (.i .i64 6))), none⟩,
 ⟨(some 55), (.bin .lss (.t 52) (.t 54)), none⟩])
 (.cond (.t 55)
 (.skip)
 (.exit 0)))
 (.seq (.block 1 (.seq (.ops none [⟨(some 58), (.mv (.t 1)), none⟩,
 ⟨(some 59), (.bin .sub (.t 58) (.c (.i .i64 2))), none⟩,
 ⟨(some 15), (.mv (.t 59)), none⟩])
 (.block 2 (.loop (.seq (.seq (.ops none [⟨(some 60), (.mv (.t 15)), none⟩,
 ⟨(some 61), (.mv (.t 1)), none⟩,
 ⟨(some 62), (.ld true 4 (.t 10)), none⟩,
 ⟨(some 63), (.call (.f 20) [(.t 62)]), none⟩,
 ⟨(some 64), (.bin .add (.t 61) (.t 63)), none⟩,
 ⟨(some 65), (.bin .add (.t 64) (.c (.i .i64 2))), none⟩,
 ⟨(some 66), (.bin .lss (.t 60) (.t 65)), none⟩])
 (.cond (.t 66)
 (.skip)
 (.exit 2)))
 (.seq (.block 3 (.seq (.seq (.ops (some [0, 0, 0, 7, 0, 0, 0, 0, 0, 511, 1023]) [⟨(some 69), (.ld true 1 (.t 11)), none⟩,
 ⟨(some 70), (.mv (.t 15)), none⟩,
 ⟨(some 71), (.mv (.t 14)), none⟩,
 ⟨(some 72), (.call (.f 21) [(.t 69), (.t 70), (.t 71)]), none⟩,
 ⟨(some 73), (.ld true 4 (.t 10)), none⟩,
 ⟨(some 74), (.mv (.t 1)), none⟩,
 ⟨(some 75), (.mv (.t 2)), none⟩,
 ⟨(some 76), (.mv (.t 15)), none⟩,
 ⟨(some 77), (.mv (.t 14)), none⟩,
 ⟨(some 78), (.call (.f 22) [(.t 73), (.t 74), (.t 75), (.t 76), (.t 77)]), none⟩,
 ⟨(some 79), (.eq1 true 0 (.t 72) (.t 78)), none⟩])
 (.cond (.t 79)
 (.seq (.ops none [⟨(some 8), (.mv (.c (.b false))), none⟩])
 (.ret))
 (.skip)))
 (.seq (.ops none [⟨(some 80), (.ld true 4 (.t 10)), none⟩,
 ⟨(some 81), (.mv (.t 1)), none⟩,
 ⟨(some 82), (.mv (.t 2)), none⟩,
 ⟨(some 83), (.mv (.t 15)), none⟩,
 ⟨(some 84), (.mv (.t 14)), none⟩,
 ⟨(some 85), (.call (.f 22) [(.t 80), (.t 81), (.t 82), (.t 83), (.t 84)]), none⟩])
 (.cond (.t 85)
 (.ops none [⟨(some 86), (.mv (.t 13)), none⟩,
 ⟨(some 87), (.bin .add (.t 86) (.c (.i .i64 1))), none⟩,
 ⟨(some 13), (.mv (.t 87)), none⟩])
 (.skip)))))
 (.ops none [⟨(some 67), (.mv (.t 15)), none⟩,
 ⟨(some 68), (.bin .add (.t 67) (.c (.i .i64 1))), none⟩,
 ⟨(some 15), (.mv (.t 68)), none⟩])))))))
 (.ops none [⟨(some 56), (.mv (.t 14)), none⟩,
 ⟨(some 57), (.bin .add (.t 56) (.c (.i .i64 1))), none⟩,
 ⟨(some 14), (.mv (.t 57)), none⟩]))))))
 (.seq (.ops none [⟨(some 88), (.ld true 1 (.t 11)), none⟩,
 ⟨(some 89), (.call (.f 23) [(.t 88)]), none⟩,
 ⟨(some 90), (.mv (.t 13)), none⟩,
 ⟨(some 91), (.bin .eql (.t 89) (.t 90)), none⟩,
 ⟨(some 92), (.mv (.t 91)), none⟩,
 ⟨(some 93), (.call (.f 7) []), (some ((some 92), true))⟩,
 ⟨(some 94), (.pick (.t 92) (.t 93) (.c (.b false))), none⟩,
 ⟨(some 8), (.mv (.t 94)), none⟩])
 (.ret))))))))))⟩
theorem F6_ok : prepF Try.prog 6 = some F6 := by kernel_rfl
/-- glazier/glazierlaw27.awake -/
def F7 : AFun := ⟨34, [.t 0],
 .seq (.ops none [⟨(some 0), (.mv (.c (.b false))), none⟩])
 (.seq (.ops none [⟨(some 3), (.call (.f 8) [(.c (.b false))]), none⟩,
 ⟨(some 1), (.new (List.replicate 1617 (.i .i64 0))), none⟩,
 ⟨none, (.st 1617 (.t 1) (.t 3)), none⟩])
 (.seq (.ops none [⟨(some 4), (.ld true 1617 (.t 1)), none⟩,
 ⟨(some 5), (.call (.f 16) [(.t 4), (.c (.i .i64 0)), (.c (.i .i64 5)), (.c (.s [65]))]), none⟩,
 ⟨(some 2), (.new [.nils]), none⟩,
 ⟨none, (.st 1 (.t 2) (.t 5)), none⟩])
 (.seq (.ops none [⟨(some 6), (.ld true 1 (.t 2)), none⟩,
 ⟨(some 7), (.call (.f 23) [(.t 6)]), none⟩,
 ⟨(some 8), (.bin .eql (.t 7) (.c (.i .i64 10))), none⟩,
 ⟨(some 9), (.mv (.t 8)), none⟩,
 ⟨(some 10), (.ld true 1 (.t 2)), (some ((some 9), true))⟩,
 ⟨(some 11), (.call (.f 21) [(.t 10), (.c (.i .i64 2)), (.c (.i .i64 1))]), (some ((some 9), true))⟩,
 ⟨(some 12), (.pick (.t 9) (.t 11) (.c (.b false))), none⟩,
 ⟨(some 13), (.mv (.t 12)), none⟩,
 ⟨(some 14), (.ld true 1 (.t 2)), (some ((some 13), true))⟩,
 ⟨(some 15), (.call (.f 21) [(.t 14), (.c (.i .i64 1)), (.c (.i .i64 1))]), (some ((some 13), true))⟩,
 ⟨(some 16), (.un .not (.t 15)), (some ((some 13), true))⟩,
 ⟨(some 17), (.pick (.t 13) (.t 16) (.c (.b false))), none⟩,
 ⟨(some 18), (.mv (.t 17)), none⟩,
 ⟨(some 19), (.ld true 1617 (.t 1)), (some ((some 18), true))⟩,
 ⟨(some 20), (.call (.f 15) [(.t 19), (.c (.i .i64 0)), (.c (.i .i64 5)), (.c (.s [65]))]), (some ((some 18), true))⟩,
 ⟨(some 21), (.build [(.i .i64 0), (.i .i64 0), (.i .i64 0), (.i .i64 0)] [(2, 1, (.c (.i .i64 4))), (3, 1, (.c (.i .i64 6)))]), (some ((some 18), true))⟩,
 ⟨(some 22), (.eqs false [1, 1, 1, 1] (.t 20) (.t 21)), (some ((some 18), true))⟩,
 ⟨(some 23), (.pick (.t 18) (.t 22) (.c (.b false))), none⟩,
 ⟨(some 24), (.mv (.t 23)), none⟩,
 ⟨(some 25), (.ld true 1617 (.t 1)), (some ((some 24), true))⟩,
 ⟨(some 26), (.call (.f 10) [(.t 25), (.c (.s [65, 66])), (.c (.i .i64 5))]), (some ((some 24), true))⟩,
 ⟨(some 27), (.bin .eql (.t 26) (.c (.i .i64 1))), (some ((some 24), true))⟩,
 ⟨(some 28), (.pick (.t 24) (.t 27) (.c (.b false))), none⟩,
 ⟨(some 29), (.mv (.t 28)), none⟩,
 ⟨(some 30), (.ld true 1617 (.t 1)), (some ((some 29), true))⟩,
 ⟨(some 31), (.call (.f 12) [(.t 30), (.c (.s [65, 66])), (.c (.i .i64 7))]), (some ((some 29), true))⟩,
 ⟨(some 32), (.bin .eql (.t 31) (.c (.i .i64 1))), (some ((some 29), true))⟩,
 ⟨(some 33), (.pick (.t 29) (.t 32) (.c (.b false))), none⟩,
 ⟨(some 0), (.mv (.t 33)), none⟩])
 (.ret))))⟩
theorem F7_ok : prepF Try.prog 7 = some F7 := by kernel_rfl
/-- glazier/glazierlaw27.Font -/
def F8 : AFun := ⟨13, [.cell true 1617 2],
 .seq (.ops none [⟨(some 2), (.new (List.replicate 1617 (.i .i64 0))), none⟩])
 (.seq (.ops none [⟨(some 3), (.mv (.c (.s [116, 105, 110, 121]))), none⟩])
 (.seq (.seq (.ops none [⟨(some 6), (.mv (.t 0)), none⟩])
 (.cond (.t 6)
 (.ops none [⟨(some 3), (.mv (.c (.s [119, 105, 100, 101]))), none⟩])
 (.skip)))
 (.seq (.ops none [⟨(some 8), (.mv (.t 3)), none⟩,
 ⟨(some 9), (.call (.f 24) [(.t 8)]), none⟩,
 ⟨(some 7), (.mv (.t 9)), none⟩,
 ⟨(some 10), (.ext (.t 7) 0), none⟩,
 ⟨(some 11), (.ext (.t 7) 1), none⟩,
 ⟨(some 4), (.new (List.replicate 1617 (.i .i64 0))), none⟩,
 ⟨none, (.st 1617 (.t 4) (.t 10)), none⟩,
 ⟨(some 5), (.mv (.t 11)), none⟩])
 (.seq (.ops none [⟨(some 12), (.ld true 1617 (.t 4)), none⟩,
 ⟨none, (.st 1617 (.t 2) (.t 12)), none⟩])
 (.ret)))))⟩
theorem F8_ok : prepF Try.prog 8 = some F8 := by kernel_rfl
/-- glazier/glazierlaw27.Of -/
def F9 : AFun := ⟨50, [.cell true 4 4],
 .seq (.ops none [⟨(some 2), (.box (.t 0)), none⟩,
 ⟨(some 4), (.new [.nils, .nils, (.i .i64 0), (.i .i64 0)]), none⟩])
 (.seq (.ops (some [0, 1, 0, 7, 0, 31, 63, 127, 0, 511]) [⟨(some 9), (.ld true 1617 (.t 2)), none⟩,
 ⟨(some 10), (.call (.f 25) [(.t 9)]), none⟩,
 ⟨(some 11), (.ld true 1617 (.t 2)), none⟩,
 ⟨(some 12), (.call (.f 25) [(.t 11)]), none⟩,
 ⟨(some 13), (.ld true 1617 (.t 2)), none⟩,
 ⟨(some 14), (.call (.f 26) [(.t 13)]), none⟩,
 ⟨(some 15), (.bin .add (.t 12) (.t 14)), none⟩,
 ⟨(some 16), (.build [.nils, .nils, (.i .i64 0), (.i .i64 0)] [(2, 1, (.t 10)), (3, 1, (.t 15))]), none⟩,
 ⟨(some 5), (.new [.nils, .nils, (.i .i64 0), (.i .i64 0)]), none⟩,
 ⟨none, (.st 4 (.t 5) (.t 16)), none⟩])
 (.seq (.seq (.ops none [⟨(some 17), (.mv (.t 1)), none⟩,
 ⟨(some 18), (.blen true (.t 17)), none⟩,
 ⟨(some 19), (.bmin [(.c (.i .i64 4096)), (.t 18)]), none⟩,
 ⟨(some 20), (.mv (.c (.i .i64 0))), none⟩])
 (.block 0 (.loop (.seq (.ops none [⟨(some 21), (.bin .lss (.t 20) (.t 19)), none⟩])
 (.seq (.cond (.t 21)
 (.skip)
 (.exit 0))
 (.seq (.block 1 (.seq (.ops none [⟨(some 22), (.mv (.t 20)), none⟩,
 ⟨(some 6), (.mv (.t 22)), none⟩])
 (.seq (.ops (some [0, 0, 0, 6, 15, 0, 63]) [⟨(some 23), (.ld true 1617 (.t 2)), none⟩,
 ⟨(some 24), (.mv (.t 1)), none⟩,
 ⟨(some 25), (.mv (.t 6)), none⟩,
 ⟨(some 26), (.ixs (.t 24) (.t 25)), none⟩,
 ⟨(some 27), (.call (.f 27) [(.t 23), (.t 26)]), none⟩,
 ⟨(some 7), (.new [(.i .i64 0), .nils]), none⟩,
 ⟨none, (.st 2 (.t 7) (.t 27)), none⟩])
 (.seq (.ops none [⟨(some 28), (.fa 3 (.t 5)), none⟩,
 ⟨(some 29), (.ld false 1 (.t 28)), none⟩,
 ⟨(some 30), (.mks 1 8 [(.i .i64 0)] (.t 29) (.t 29)), none⟩,
 ⟨(some 8), (.mv (.t 30)), none⟩])
 (.seq (.ops none [⟨(some 31), (.mv (.t 8)), none⟩,
 ⟨(some 32), (.fa 1 (.t 7)), none⟩,
 ⟨(some 33), (.ld false 1 (.t 32)), none⟩,
 ⟨(some 34), (.cpy 1 (.t 31) (.t 33)), none⟩])
 (.ops (some [0, 1, 0, 4, 12, 31, 0, 64, 0, 256, 1023, 255, 4095, 8191, 16383]) [⟨(some 35), (.fa 0 (.t 5)), none⟩,
 ⟨(some 36), (.ld false 1 (.t 35)), none⟩,
 ⟨(some 37), (.fa 0 (.t 7)), none⟩,
 ⟨(some 38), (.ld false 1 (.t 37)), none⟩,
 ⟨(some 39), (.lit 1 1 [(.i .i64 0)] [(0, (.t 38))]), none⟩,
 ⟨(some 40), (.app 1 8 [(.i .i64 0)] (.t 36) (.t 39)), none⟩,
 ⟨(some 41), (.fa 1 (.t 5)), none⟩,
 ⟨(some 42), (.ld false 1 (.t 41)), none⟩,
 ⟨(some 43), (.mv (.t 8)), none⟩,
 ⟨(some 44), (.lit 1 1 [.nils] [(0, (.t 43))]), none⟩,
 ⟨(some 45), (.app 1 24 [.nils] (.t 42) (.t 44)), none⟩,
 ⟨(some 46), (.fa 0 (.t 5)), none⟩,
 ⟨none, (.st 1 (.t 46) (.t 40)), none⟩,
 ⟨(some 47), (.fa 1 (.t 5)), none⟩,
 ⟨none, (.st 1 (.t 47) (.t 45)), none⟩]))))))
 (.ops none [⟨(some 48), (.bin .add (.t 20) (.c (.i .i64 1))), none⟩,
 ⟨(some 20), (.mv (.t 48)), none⟩])))))))
 (.seq (.ops none [⟨(some 49), (.ld true 4 (.t 5)), none⟩,
 ⟨none, (.st 4 (.t 4) (.t 49)), none⟩])
 (.ret))))⟩
theorem F9_ok : prepF Try.prog 9 = some F9 := by kernel_rfl
/-- glazier/text.At -/
def F10 : AFun := ⟨27, [.cell false 1 6],
 .seq (.ops none [⟨(some 3), (.box (.t 0)), none⟩,
 ⟨(some 5), (.box (.t 2)), none⟩,
 ⟨(some 6), (.new [(.i .i64 0)]), none⟩])
 (.seq (.seq (.ops none [⟨(some 10), (.ld false 1 (.t 5)), none⟩,
 ⟨(some 11), (.bin .lss (.t 10) (.c (.i .i64 0))), none⟩])
 (.cond (.t 11)
 (.seq (.ops none [⟨none, (.st 1 (.t 6) (.c (.i .i64 0))), none⟩])
 (.ret))
 (.skip)))
 (.seq (.ops none [⟨(some 7), (.new [(.i .i64 0)]), none⟩,
 ⟨none, (.st 1 (.t 7) (.c (.i .i64 0))), none⟩])
 (.seq (.seq (.ops none [⟨(some 12), (.ld true 1617 (.t 3)), none⟩,
 ⟨(some 13), (.mv (.t 1)), none⟩,
 ⟨(some 14), (.call (.f 28) [(.t 12), (.t 13)]), none⟩])
 (.block 0 (.rangeF (.t 14) [15, 16]
 (.seq (.ops none [⟨(some 8), (.mv (.t 15)), none⟩])
 (.ops none [⟨(some 9), (.new [(.i .i64 0), .nils]), none⟩,
 ⟨none, (.st 2 (.t 9) (.t 16)), none⟩]))
 (.block 1 (.seq (.seq (.ops none [⟨(some 17), (.ld false 1 (.t 5)), none⟩,
 ⟨(some 18), (.mv (.t 8)), none⟩,
 ⟨(some 19), (.fa 0 (.t 9)), none⟩,
 ⟨(some 20), (.ld false 1 (.t 19)), none⟩,
 ⟨(some 21), (.bin .add (.t 18) (.t 20)), none⟩,
 ⟨(some 22), (.bin .lss (.t 17) (.t 21)), none⟩])
 (.cond (.t 22)
 (.seq (.ops none [⟨(some 23), (.ld false 1 (.t 7)), none⟩,
 ⟨none, (.st 1 (.t 6) (.t 23)), none⟩])
 (.ret))
 (.skip)))
 (.ops none [⟨(some 24), (.ld false 1 (.t 7)), none⟩,
 ⟨(some 25), (.bin .add (.t 24) (.c (.i .i64 1))), none⟩,
 ⟨none, (.st 1 (.t 7) (.t 25)), none⟩]))))))
 (.seq (.ops none [⟨(some 26), (.ld false 1 (.t 7)), none⟩,
 ⟨none, (.st 1 (.t 6) (.t 26)), none⟩])
 (.ret)))))⟩
theorem F10_ok : prepF Try.prog 10 = some F10 := by kernel_rfl
/-- glazier/glazierref27.At -/
def F11 : AFun := ⟨28, [.t 4],
 .seq (.ops none [⟨(some 2), (.box (.t 0)), none⟩,
 ⟨(some 4), (.mv (.c (.i .i64 0))), none⟩])
 (.seq (.ops none [⟨(some 5), (.mv (.c (.i .i64 0))), none⟩])
 (.seq (.seq (.ops none [⟨(some 6), (.mv (.c (.i .i64 0))), none⟩])
 (.block 0 (.loop (.seq (.seq (.ops none [⟨(some 7), (.mv (.t 6)), none⟩,
 ⟨(some 8), (.fa 0 (.t 2)), none⟩,
 ⟨(some 9), (.ld false 1 (.t 8)), none⟩,
 ⟨(some 10), (.blen false (.t 9)), none⟩,
 ⟨(some 11), (.bin .lss (.t 7) (.t 10)), none⟩])
 (.cond (.t 11)
 (.skip)
 (.exit 0)))
 (.seq (.block 1 (.seq (.ops none [⟨(some 14), (.mv (.t 5)), none⟩,
 ⟨(some 15), (.fa 0 (.t 2)), none⟩,
 ⟨(some 16), (.ld false 1 (.t 15)), none⟩,
 ⟨(some 17), (.mv (.t 6)), none⟩,
 ⟨(some 18), (.ias 1 (.t 16) (.t 17)), none⟩,
 ⟨(some 19), (.ld false 1 (.t 18)), none⟩,
 ⟨(some 20), (.bin .add (.t 14) (.t 19)), none⟩,
 ⟨(some 5), (.mv (.t 20)), none⟩])
 (.seq (.ops none [⟨(some 21), (.mv (.t 1)), none⟩,
 ⟨(some 22), (.mv (.t 5)), none⟩,
 ⟨(some 23), (.bin .lss (.t 21) (.t 22)), none⟩])
 (.cond (.t 23)
 (.seq (.ops none [⟨(some 24), (.mv (.t 6)), none⟩,
 ⟨(some 4), (.mv (.t 24)), none⟩])
 (.ret))
 (.skip)))))
 (.ops none [⟨(some 12), (.mv (.t 6)), none⟩,
 ⟨(some 13), (.bin .add (.t 12) (.c (.i .i64 1))), none⟩,
 ⟨(some 6), (.mv (.t 13)), none⟩]))))))
 (.seq (.ops none [⟨(some 25), (.fa 0 (.t 2)), none⟩,
 ⟨(some 26), (.ld false 1 (.t 25)), none⟩,
 ⟨(some 27), (.blen false (.t 26)), none⟩,
 ⟨(some 4), (.mv (.t 27)), none⟩])
 (.ret))))⟩
theorem F11_ok : prepF Try.prog 11 = some F11 := by kernel_rfl
/-- glazier/text.Fit -/
def F12 : AFun := ⟨27, [.cell false 1 6],
 .seq (.ops none [⟨(some 3), (.box (.t 0)), none⟩,
 ⟨(some 5), (.box (.t 2)), none⟩,
 ⟨(some 6), (.new [(.i .i64 0)]), none⟩])
 (.seq (.seq (.ops none [⟨(some 10), (.ld false 1 (.t 5)), none⟩,
 ⟨(some 11), (.bin .lss (.t 10) (.c (.i .i64 0))), none⟩])
 (.cond (.t 11)
 (.seq (.ops none [⟨none, (.st 1 (.t 6) (.c (.i .i64 0))), none⟩])
 (.ret))
 (.skip)))
 (.seq (.ops none [⟨(some 7), (.new [(.i .i64 0)]), none⟩,
 ⟨none, (.st 1 (.t 7) (.c (.i .i64 0))), none⟩])
 (.seq (.seq (.ops none [⟨(some 12), (.ld true 1617 (.t 3)), none⟩,
 ⟨(some 13), (.mv (.t 1)), none⟩,
 ⟨(some 14), (.call (.f 28) [(.t 12), (.t 13)]), none⟩])
 (.block 0 (.rangeF (.t 14) [15, 16]
 (.seq (.ops none [⟨(some 8), (.mv (.t 15)), none⟩])
 (.ops none [⟨(some 9), (.new [(.i .i64 0), .nils]), none⟩,
 ⟨none, (.st 2 (.t 9) (.t 16)), none⟩]))
 (.block 1 (.seq (.seq (.ops none [⟨(some 17), (.mv (.t 8)), none⟩,
 ⟨(some 18), (.fa 0 (.t 9)), none⟩,
 ⟨(some 19), (.ld false 1 (.t 18)), none⟩,
 ⟨(some 20), (.bin .add (.t 17) (.t 19)), none⟩,
 ⟨(some 21), (.ld false 1 (.t 5)), none⟩,
 ⟨(some 22), (.bin .gtr (.t 20) (.t 21)), none⟩])
 (.cond (.t 22)
 (.seq (.ops none [⟨(some 23), (.ld false 1 (.t 7)), none⟩,
 ⟨none, (.st 1 (.t 6) (.t 23)), none⟩])
 (.ret))
 (.skip)))
 (.ops none [⟨(some 24), (.ld false 1 (.t 7)), none⟩,
 ⟨(some 25), (.bin .add (.t 24) (.c (.i .i64 1))), none⟩,
 ⟨none, (.st 1 (.t 7) (.t 25)), none⟩]))))))
 (.seq (.ops none [⟨(some 26), (.ld false 1 (.t 7)), none⟩,
 ⟨none, (.st 1 (.t 6) (.t 26)), none⟩])
 (.ret)))))⟩
theorem F12_ok : prepF Try.prog 12 = some F12 := by kernel_rfl
/-- glazier/glazierref27.Fit -/
def F13 : AFun := ⟨30, [.t 4],
 .seq (.ops none [⟨(some 2), (.box (.t 0)), none⟩,
 ⟨(some 4), (.mv (.c (.i .i64 0))), none⟩])
 (.seq (.ops none [⟨(some 5), (.mv (.c (.i .i64 0))), none⟩])
 (.seq (.seq (.ops none [⟨(some 6), (.mv (.c (.i .i64 0))), none⟩])
 (.block 0 (.loop (.seq (.seq (.ops none [⟨(some 7), (.mv (.t 6)), none⟩,
 ⟨(some 8), (.fa 0 (.t 2)), none⟩,
 ⟨(some 9), (.ld false 1 (.t 8)), none⟩,
 ⟨(some 10), (.blen false (.t 9)), none⟩,
 ⟨(some 11), (.bin .lss (.t 7) (.t 10)), none⟩])
 (.cond (.t 11)
 (.skip)
 (.exit 0)))
 (.seq (.block 1 (.seq (.ops none [⟨(some 14), (.mv (.t 5)), none⟩,
 ⟨(some 15), (.fa 0 (.t 2)), none⟩,
 ⟨(some 16), (.ld false 1 (.t 15)), none⟩,
 ⟨(some 17), (.mv (.t 6)), none⟩,
 ⟨(some 18), (.ias 1 (.t 16) (.t 17)), none⟩,
 ⟨(some 19), (.ld false 1 (.t 18)), none⟩,
 ⟨(some 20), (.bin .add (.t 14) (.t 19)), none⟩,
 ⟨(some 5), (.mv (.t 20)), none⟩])
 (.seq (.ops none [⟨(some 21), (.mv (.t 5)), none⟩,
 ⟨(some 22), (.mv (.t 1)), none⟩,
 ⟨(some 23), (.bin .gtr (.t 21) (.t 22)), none⟩])
 (.cond (.t 23)
 (.seq (.ops none [⟨(some 24), (.mv (.t 6)), none⟩,
 ⟨(some 4), (.mv (.t 24)), none⟩])
 (.ret))
 (.skip)))))
 (.ops none [⟨(some 12), (.mv (.t 6)), none⟩,
 ⟨(some 13), (.bin .add (.t 12) (.c (.i .i64 1))), none⟩,
 ⟨(some 6), (.mv (.t 13)), none⟩]))))))
 (.seq (.seq (.ops none [⟨(some 25), (.mv (.t 1)), none⟩,
 ⟨(some 26), (.bin .lss (.t 25) (.c (.i .i64 0))), none⟩])
 (.cond (.t 26)
 (.seq (.ops none [⟨(some 4), (.mv (.c (.i .i64 0))), none⟩])
 (.ret))
 (.skip)))
 (.seq (.ops none [⟨(some 27), (.fa 0 (.t 2)), none⟩,
 ⟨(some 28), (.ld false 1 (.t 27)), none⟩,
 ⟨(some 29), (.blen false (.t 28)), none⟩,
 ⟨(some 4), (.mv (.t 29)), none⟩])
 (.ret)))))⟩
theorem F13_ok : prepF Try.prog 13 = some F13 := by kernel_rfl
/-- (glazier/font.Font).Width -/
def F14 : AFun := ⟨24, [.t 4],
 .seq (.ops none [⟨(some 2), (.box (.t 0)), none⟩,
 ⟨(some 4), (.mv (.c (.i .i64 0))), none⟩])
 (.seq (.ops none [⟨(some 5), (.mv (.c (.i .i64 0))), none⟩])
 (.seq (.seq (.ops none [⟨(some 7), (.mv (.t 1)), none⟩,
 ⟨(some 8), (.blen true (.t 7)), none⟩,
 ⟨(some 9), (.mv (.c (.i .i64 0))), none⟩])
 (.block 0 (.loop (.seq (.ops none [⟨(some 10), (.bin .lss (.t 9) (.t 8)), none⟩])
 (.seq (.cond (.t 10)
 (.skip)
 (.exit 0))
 (.seq (.block 1 (.seq (.ops none [⟨(some 11), (.mv (.t 9)), none⟩,
 ⟨(some 6), (.mv (.t 11)), none⟩])
 (.ops none [⟨(some 12), (.mv (.t 5)), none⟩,
 ⟨(some 13), (.mv (.t 1)), none⟩,
 ⟨(some 14), (.mv (.t 6)), none⟩,
 ⟨(some 15), (.ixs (.t 13) (.t 14)), none⟩,
 ⟨(some 16), (.call (.f 29) [(.t 15)]), none⟩,
 ⟨(some 17), (.fa 2 (.t 2)), none⟩,
 ⟨(some 18), (.iaa 95 17 (.t 17) (.t 16)), none⟩,
 ⟨(some 19), (.fa 0 (.t 18)), none⟩,
 ⟨(some 20), (.ld false 1 (.t 19)), none⟩,
 ⟨(some 21), (.bin .add (.t 12) (.t 20)), none⟩,
 ⟨(some 5), (.mv (.t 21)), none⟩])))
 (.ops none [⟨(some 22), (.bin .add (.t 9) (.c (.i .i64 1))), none⟩,
 ⟨(some 9), (.mv (.t 22)), none⟩])))))))
 (.seq (.ops none [⟨(some 23), (.mv (.t 5)), none⟩,
 ⟨(some 4), (.mv (.t 23)), none⟩])
 (.ret))))⟩
theorem F14_ok : prepF Try.prog 14 = some F14 := by kernel_rfl
/-- glazier/text.Box -/
def F15 : AFun := ⟨39, [.cell true 4 8],
 .seq (.ops none [⟨(some 4), (.box (.t 0)), none⟩,
 ⟨(some 8), (.new [(.i .i64 0), (.i .i64 0), (.i .i64 0), (.i .i64 0)]), none⟩])
 (.seq (.seq (.ops none [⟨(some 10), (.mv (.t 1)), none⟩,
 ⟨(some 11), (.call (.f 30) [(.t 10)]), none⟩,
 ⟨(some 12), (.un .not (.t 11)), none⟩,
 ⟨(some 13), (.mv (.t 12)), none⟩,
 ⟨(some 14), (.mv (.t 2)), (some ((some 13), false))⟩,
 ⟨(some 15), (.call (.f 30) [(.t 14)]), (some ((some 13), false))⟩,
 ⟨(some 16), (.un .not (.t 15)), (some ((some 13), false))⟩,
 ⟨(some 17), (.pick (.t 13) (.c (.b true)) (.t 16)), none⟩])
 (.cond (.t 17)
 (.seq (.ops none [⟨(some 18), (.build [(.i .i64 0), (.i .i64 0), (.i .i64 0), (.i .i64 0)] []), none⟩,
 ⟨none, (.st 4 (.t 8) (.t 18)), none⟩])
 (.ret))
 (.skip)))
 (.seq (.ops (some [0, 0, 0, 4, 14, 0, 0, 76, 236, 0, 1004, 0, 4076, 8172, 16383, 0, 65535]) [⟨(some 19), (.mv (.t 1)), none⟩,
 ⟨(some 20), (.mv (.t 2)), none⟩,
 ⟨(some 21), (.ld true 1617 (.t 4)), none⟩,
 ⟨(some 22), (.call (.f 25) [(.t 21)]), none⟩,
 ⟨(some 23), (.bin .sub (.t 20) (.t 22)), none⟩,
 ⟨(some 24), (.ld true 1617 (.t 4)), none⟩,
 ⟨(some 25), (.mv (.t 3)), none⟩,
 ⟨(some 26), (.call (.f 31) [(.t 25)]), none⟩,
 ⟨(some 27), (.call (.f 14) [(.t 24), (.t 26)]), none⟩,
 ⟨(some 28), (.ld true 1617 (.t 4)), none⟩,
 ⟨(some 29), (.call (.f 25) [(.t 28)]), none⟩,
 ⟨(some 30), (.ld true 1617 (.t 4)), none⟩,
 ⟨(some 31), (.call (.f 26) [(.t 30)]), none⟩,
 ⟨(some 32), (.bin .add (.t 29) (.t 31)), none⟩,
 ⟨(some 33), (.build [(.i .i64 0), (.i .i64 0), (.i .i64 0), (.i .i64 0)] [(0, 1, (.t 19)), (1, 1, (.t 23)), (2, 1, (.t 27)), (3, 1, (.t 32))]), none⟩,
 ⟨(some 9), (.new [(.i .i64 0), (.i .i64 0), (.i .i64 0), (.i .i64 0)]), none⟩,
 ⟨none, (.st 4 (.t 9) (.t 33)), none⟩])
 (.seq (.seq (.ops none [⟨(some 34), (.ld true 4 (.t 9)), none⟩,
 ⟨(some 35), (.call (.f 32) [(.t 34)]), none⟩,
 ⟨(some 36), (.bin .neq (.t 35) (.c (.i .i64 0))), none⟩])
 (.cond (.t 36)
 (.seq (.ops none [⟨(some 37), (.build [(.i .i64 0), (.i .i64 0), (.i .i64 0), (.i .i64 0)] []), none⟩,
 ⟨none, (.st 4 (.t 8) (.t 37)), none⟩])
 (.ret))
 (.skip)))
 (.seq (.ops none [⟨(some 38), (.ld true 4 (.t 9)), none⟩,
 ⟨none, (.st 4 (.t 8) (.t 38)), none⟩])
 (.ret)))))⟩
theorem F15_ok : prepF Try.prog 15 = some F15 := by kernel_rfl
/-- glazier/text.Region -/
def F16 : AFun := ⟨26, [.cell true 1 8],
 .seq (.ops none [⟨(some 4), (.box (.t 0)), none⟩,
 ⟨(some 8), (.new [.nils]), none⟩])
 (.seq (.seq (.ops none [⟨(some 10), (.mv (.t 1)), none⟩,
 ⟨(some 11), (.call (.f 30) [(.t 10)]), none⟩,
 ⟨(some 12), (.un .not (.t 11)), none⟩,
 ⟨(some 13), (.mv (.t 12)), none⟩,
 ⟨(some 14), (.mv (.t 2)), (some ((some 13), false))⟩,
 ⟨(some 15), (.call (.f 30) [(.t 14)]), (some ((some 13), false))⟩,
 ⟨(some 16), (.un .not (.t 15)), (some ((some 13), false))⟩,
 ⟨(some 17), (.pick (.t 13) (.c (.b true)) (.t 16)), none⟩])
 (.cond (.t 17)
 (.seq (.ops none [⟨(some 18), (.build [.nils] []), none⟩,
 ⟨none, (.st 1 (.t 8) (.t 18)), none⟩])
 (.ret))
 (.skip)))
 (.seq (.ops none [⟨(some 19), (.build [(.i .i64 0), (.i .i64 0), (.i .i64 0), (.i .i64 0)] [(0, 1, (.c (.i .i64 (-1048576)))), (1, 1, (.c (.i .i64 (-1048576)))), (2, 1, (.c (.i .i64 2097152))), (3, 1, (.c (.i .i64 2097152)))]), none⟩,
 ⟨(some 9), (.new [(.i .i64 0), (.i .i64 0), (.i .i64 0), (.i .i64 0)]), none⟩,
 ⟨none, (.st 4 (.t 9) (.t 19)), none⟩])
 (.seq (.ops none [⟨(some 20), (.ld true 1617 (.t 4)), none⟩,
 ⟨(some 21), (.mv (.t 1)), none⟩,
 ⟨(some 22), (.mv (.t 2)), none⟩,
 ⟨(some 23), (.mv (.t 3)), none⟩,
 ⟨(some 24), (.ld true 4 (.t 9)), none⟩,
 ⟨(some 25), (.call (.f 33) [(.t 20), (.t 21), (.t 22), (.t 23), (.t 24)]), none⟩,
 ⟨none, (.st 1 (.t 8) (.t 25)), none⟩])
 (.ret))))⟩
theorem F16_ok : prepF Try.prog 16 = some F16 := by kernel_rfl
/-- glazier/glazierref27.Box -/
def F17 : AFun := ⟨29, [.cell true 4 6],
 .seq (.ops none [⟨(some 3), (.box (.t 0)), none⟩,
 ⟨(some 6), (.new [(.i .i64 0), (.i .i64 0), (.i .i64 0), (.i .i64 0)]), none⟩])
 (.seq (.ops (some [0, 0, 0, 4, 14, 0, 32, 0, 128, 511, 0, 2047]) [⟨(some 8), (.mv (.t 1)), none⟩,
 ⟨(some 9), (.mv (.t 2)), none⟩,
 ⟨(some 10), (.fa 2 (.t 3)), none⟩,
 ⟨(some 11), (.ld false 1 (.t 10)), none⟩,
 ⟨(some 12), (.bin .sub (.t 9) (.t 11)), none⟩,
 ⟨(some 13), (.ld true 4 (.t 3)), none⟩,
 ⟨(some 14), (.call (.f 20) [(.t 13)]), none⟩,
 ⟨(some 15), (.fa 3 (.t 3)), none⟩,
 ⟨(some 16), (.ld false 1 (.t 15)), none⟩,
 ⟨(some 17), (.build [(.i .i64 0), (.i .i64 0), (.i .i64 0), (.i .i64 0)] [(0, 1, (.t 8)), (1, 1, (.t 12)), (2, 1, (.t 14)), (3, 1, (.t 16))]), none⟩,
 ⟨(some 7), (.new [(.i .i64 0), (.i .i64 0), (.i .i64 0), (.i .i64 0)]), none⟩,
 ⟨none, (.st 4 (.t 7) (.t 17)), none⟩])
 (.seq (.seq (.ops none [⟨(some 18), (.mv (.t 1)), none⟩,
 ⟨(some 19), (.mv (.t 2)), none⟩,
 ⟨(some 20), (.call (.f 18) [(.t 18), (.t 19)]), none⟩,
 ⟨(some 21), (.un .not (.t 20)), none⟩,
 ⟨(some 22), (.mv (.t 21)), none⟩,
 ⟨(some 23), (.ld true 4 (.t 7)), (some ((some 22), false))⟩,
 ⟨(some 24), (.call (.f 34) [(.t 23)]), (some ((some 22), false))⟩,
 ⟨(some 25), (.un .not (.t 24)), (some ((some 22), false))⟩,
 ⟨(some 26), (.pick (.t 22) (.c (.b true)) (.t 25)), none⟩])
 (.cond (.t 26)
 (.seq (.ops none [⟨(some 27), (.build [(.i .i64 0), (.i .i64 0), (.i .i64 0), (.i .i64 0)] []), none⟩,
 ⟨none, (.st 4 (.t 6) (.t 27)), none⟩])
 (.ret))
 (.skip)))
 (.seq (.ops none [⟨(some 28), (.ld true 4 (.t 7)), none⟩,
 ⟨none, (.st 4 (.t 6) (.t 28)), none⟩])
 (.ret))))⟩
theorem F17_ok : prepF Try.prog 17 = some F17 := by kernel_rfl
/-- glazier/glazierref27.Fits -/
def F18 : AFun := ⟨19, [.t 4],
 .seq (.ops none [⟨(some 4), (.mv (.c (.b false))), none⟩])
 (.seq (.ops none [⟨(some 5), (.mv (.t 0)), none⟩,
 ⟨(some 6), (.bin .geq (.t 5) (.c (.i .i64 (-1048576)))), none⟩,
 ⟨(some 7), (.mv (.t 6)), none⟩,
 ⟨(some 8), (.mv (.t 0)), (some ((some 7), true))⟩,
 ⟨(some 9), (.bin .leq (.t 8) (.c (.i .i64 1048576))), (some ((some 7), true))⟩,
 ⟨(some 10), (.pick (.t 7) (.t 9) (.c (.b false))), none⟩,
 ⟨(some 11), (.mv (.t 10)), none⟩,
 ⟨(some 12), (.mv (.t 1)), (some ((some 11), true))⟩,
 ⟨(some 13), (.bin .geq (.t 12) (.c (.i .i64 (-1048576)))), (some ((some 11), true))⟩,
 ⟨(some 14), (.pick (.t 11) (.t 13) (.c (.b false))), none⟩,
 ⟨(some 15), (.mv (.t 14)), none⟩,
 ⟨(some 16), (.mv (.t 1)), (some ((some 15), true))⟩,
 ⟨(some 17), (.bin .leq (.t 16) (.c (.i .i64 1048576))), (some ((some 15), true))⟩,
 ⟨(some 18), (.pick (.t 15) (.t 17) (.c (.b false))), none⟩,
 ⟨(some 4), (.mv (.t 18)), none⟩])
 (.ret))⟩
theorem F18_ok : prepF Try.prog 18 = some F18 := by kernel_rfl
/-- (glazier/band.Region).Empty -/
def F19 : AFun := ⟨7, [.t 2],
 .seq (.ops none [⟨(some 1), (.box (.t 0)), none⟩,
 ⟨(some 2), (.mv (.c (.b false))), none⟩])
 (.seq (.ops none [⟨(some 3), (.fa 0 (.t 1)), none⟩,
 ⟨(some 4), (.ld false 1 (.t 3)), none⟩,
 ⟨(some 5), (.blen false (.t 4)), none⟩,
 ⟨(some 6), (.bin .eql (.t 5) (.c (.i .i64 0))), none⟩,
 ⟨(some 2), (.mv (.t 6)), none⟩])
 (.ret))⟩
theorem F19_ok : prepF Try.prog 19 = some F19 := by kernel_rfl
/-- glazier/glazierref27.Width -/
def F20 : AFun := ⟨20, [.t 2],
 .seq (.ops none [⟨(some 1), (.box (.t 0)), none⟩,
 ⟨(some 2), (.mv (.c (.i .i64 0))), none⟩])
 (.seq (.ops none [⟨(some 3), (.mv (.c (.i .i64 0))), none⟩])
 (.seq (.seq (.ops none [⟨(some 4), (.mv (.c (.i .i64 0))), none⟩])
 (.block 0 (.loop (.seq (.seq (.ops none [⟨(some 5), (.mv (.t 4)), none⟩,
 ⟨(some 6), (.fa 0 (.t 1)), none⟩,
 ⟨(some 7), (.ld false 1 (.t 6)), none⟩,
 ⟨(some 8), (.blen false (.t 7)), none⟩,
 ⟨(some 9), (.bin .lss (.t 5) (.t 8)), none⟩])
 (.cond (.t 9)
 (.skip)
 (.exit 0)))
 (.seq (.block 1 (.ops none [⟨(some 12), (.mv (.t 3)), none⟩,
 ⟨(some 13), (.fa 0 (.t 1)), none⟩,
 ⟨(some 14), (.ld false 1 (.t 13)), none⟩,
 ⟨(some 15), (.mv (.t 4)), none⟩,
 ⟨(some 16), (.ias 1 (.t 14) (.t 15)), none⟩,
 ⟨(some 17), (.ld false 1 (.t 16)), none⟩,
 ⟨(some 18), (.bin .add (.t 12) (.t 17)), none⟩,
 ⟨(some 3), (.mv (.t 18)), none⟩]))
 (.ops none [⟨(some 10), (.mv (.t 4)), none⟩,
 ⟨(some 11), (.bin .add (.t 10) (.c (.i .i64 1))), none⟩,
 ⟨(some 4), (.mv (.t 11)), none⟩]))))))
 (.seq (.ops none [⟨(some 19), (.mv (.t 3)), none⟩,
 ⟨(some 2), (.mv (.t 19)), none⟩])
 (.ret))))⟩
theorem F20_ok : prepF Try.prog 20 = some F20 := by kernel_rfl
/-- (glazier/band.Region).Has -/
def F21 : AFun := ⟨46, [.t 6],
 .seq (.ops none [⟨(some 3), (.box (.t 0)), none⟩,
 ⟨(some 6), (.mv (.c (.b false))), none⟩])
 (.scope (.seq (.ops none [⟨(some 7), (.mv (.c (.b false))), none⟩])
 (.seq (.skip)
 (.seq (.seq (.ops none [⟨(some 10), (.fa 0 (.t 3)), none⟩,
 ⟨(some 11), (.ld false 1 (.t 10)), none⟩,
 ⟨(some 12), (.blen false (.t 11)), none⟩,
 ⟨(some 13), (.mv (.c (.i .i64 0))), none⟩])
 (.block 0 (.loop (.seq (.ops none [⟨(some 14), (.bin .lss (.t 13) (.t 12)), none⟩])
 (.seq (.cond (.t 14)
 (.skip)
 (.exit 0))
 (.seq (.block 1 (.seq (.ops none [⟨(some 15), (.ias 4 (.t 11) (.t 13)), none⟩,
 ⟨(some 16), (.ld true 4 (.t 15)), none⟩,
 ⟨(some 9), (.new [(.i .i64 0), (.i .i64 0), (.i .i64 0), (.i .i64 0)]), none⟩,
 ⟨none, (.st 4 (.t 9) (.t 16)), none⟩])
 (.block 2 (.seq (.ops none [⟨(some 18), (.mv (.t 2)), none⟩,
 ⟨(some 19), (.fa 1 (.t 9)), none⟩,
 ⟨(some 20), (.ld false 1 (.t 19)), none⟩,
 ⟨(some 21), (.bin .lss (.t 18) (.t 20)), none⟩,
 ⟨(some 17), (.mv (.t 21)), none⟩])
 (.cond (.t 17)
 (.exit 0)
 (.seq (.ops none [⟨(some 23), (.mv (.t 2)), none⟩,
 ⟨(some 24), (.fa 1 (.t 9)), none⟩,
 ⟨(some 25), (.ld false 1 (.t 24)), none⟩,
 ⟨(some 26), (.fa 3 (.t 9)), none⟩,
 ⟨(some 27), (.ld false 1 (.t 26)), none⟩,
 ⟨(some 28), (.bin .add (.t 25) (.t 27)), none⟩,
 ⟨(some 29), (.bin .geq (.t 23) (.t 28)), none⟩,
 ⟨(some 30), (.mv (.t 29)), none⟩,
 ⟨(some 31), (.mv (.t 1)), (some ((some 30), false))⟩,
 ⟨(some 32), (.fa 0 (.t 9)), (some ((some 30), false))⟩,
 ⟨(some 33), (.ld false 1 (.t 32)), (some ((some 30), false))⟩,
 ⟨(some 34), (.fa 2 (.t 9)), (some ((some 30), false))⟩,
 ⟨(some 35), (.ld false 1 (.t 34)), (some ((some 30), false))⟩,
 ⟨(some 36), (.bin .add (.t 33) (.t 35)), (some ((some 30), false))⟩,
 ⟨(some 37), (.bin .geq (.t 31) (.t 36)), (some ((some 30), false))⟩,
 ⟨(some 38), (.pick (.t 30) (.c (.b true)) (.t 37)), none⟩,
 ⟨(some 22), (.mv (.t 38)), none⟩])
 (.cond (.t 22)
 (.exit 1)
 (.seq (.ops none [⟨(some 40), (.mv (.t 1)), none⟩,
 ⟨(some 41), (.fa 0 (.t 9)), none⟩,
 ⟨(some 42), (.ld false 1 (.t 41)), none⟩,
 ⟨(some 43), (.bin .geq (.t 40) (.t 42)), none⟩,
 ⟨(some 39), (.mv (.t 43)), none⟩])
 (.cond (.t 39)
 (.seq (.ops none [⟨(some 7), (.mv (.c (.b true))), none⟩])
 (.exit 0))
 (.skip))))))))))
 (.ops none [⟨(some 44), (.bin .add (.t 13) (.c (.i .i64 1))), none⟩,
 ⟨(some 13), (.mv (.t 44)), none⟩])))))))
 (.seq (.ops none [⟨(some 45), (.mv (.t 7)), none⟩,
 ⟨(some 6), (.mv (.t 45)), none⟩])
 (.ret))))))⟩
theorem F21_ok : prepF Try.prog 21 = some F21 := by kernel_rfl
/-- glazier/glazierref27.Ink -/
def F22 : AFun := ⟨89, [.t 10],
 .seq (.ops none [⟨(some 5), (.box (.t 0)), none⟩,
 ⟨(some 10), (.mv (.c (.b false))), none⟩])
 (.seq (.seq (.ops none [⟨(some 14), (.mv (.t 1)), none⟩,
 ⟨(some 15), (.mv (.t 2)), none⟩,
 ⟨(some 16), (.call (.f 18) [(.t 14), (.t 15)]), none⟩,
 ⟨(some 17), (.un .not (.t 16)), none⟩,
 ⟨(some 18), (.mv (.t 17)), none⟩,
 ⟨(some 19), (.mv (.t 3)), (some ((some 18), false))⟩,
 ⟨(some 20), (.bin .geq (.t 19) (.c (.i .i64 1048576))), (some ((some 18), false))⟩,
 ⟨(some 21), (.pick (.t 18) (.c (.b true)) (.t 20)), none⟩,
 ⟨(some 22), (.mv (.t 21)), none⟩,
 ⟨(some 23), (.mv (.t 4)), (some ((some 22), false))⟩,
 ⟨(some 24), (.bin .geq (.t 23) (.c (.i .i64 1048576))), (some ((some 22), false))⟩,
 ⟨(some 25), (.pick (.t 22) (.c (.b true)) (.t 24)), none⟩,
 ⟨(some 26), (.mv (.t 25)), none⟩,
 ⟨(some 27), (.mv (.t 3)), (some ((some 26), false))⟩,
 ⟨(some 28), (.bin .lss (.t 27) (.c (.i .i64 (-1048576)))), (some ((some 26), false))⟩,
 ⟨(some 29), (.pick (.t 26) (.c (.b true)) (.t 28)), none⟩,
 ⟨(some 30), (.mv (.t 29)), none⟩,
 ⟨(some 31), (.mv (.t 4)), (some ((some 30), false))⟩,
 ⟨(some 32), (.bin .lss (.t 31) (.c (.i .i64 (-1048576)))), (some ((some 30), false))⟩,
 ⟨(some 33), (.pick (.t 30) (.c (.b true)) (.t 32)), none⟩])
 (.cond (.t 33)
 (.seq (.ops none [⟨(some 10), (.mv (.c (.b false))), none⟩])
 (.ret))
 (.skip)))
 (.seq (.ops none [⟨(some 34), (.mv (.t 4)), none⟩,
 ⟨(some 35), (.mv (.t 2)), none⟩,
 ⟨(some 36), (.bin .sub (.t 34) (.t 35)), none⟩,
 ⟨(some 37), (.fa 2 (.t 5)), none⟩,
 ⟨(some 38), (.ld false 1 (.t 37)), none⟩,
 ⟨(some 39), (.bin .add (.t 36) (.t 38)), none⟩,
 ⟨(some 11), (.mv (.t 39)), none⟩])
 (.seq (.seq (.ops none [⟨(some 40), (.mv (.t 11)), none⟩,
 ⟨(some 41), (.bin .lss (.t 40) (.c (.i .i64 0))), none⟩,
 ⟨(some 42), (.mv (.t 41)), none⟩,
 ⟨(some 43), (.mv (.t 11)), (some ((some 42), false))⟩,
 ⟨(some 44), (.fa 3 (.t 5)), (some ((some 42), false))⟩,
 ⟨(some 45), (.ld false 1 (.t 44)), (some ((some 42), false))⟩,
 ⟨(some 46), (.bin .geq (.t 43) (.t 45)), (some ((some 42), false))⟩,
 ⟨(some 47), (.pick (.t 42) (.c (.b true)) (.t 46)), none⟩])
 (.cond (.t 47)
 (.seq (.ops none [⟨(some 10), (.mv (.c (.b false))), none⟩])
 (.ret))
 (.skip)))
 (.seq (.ops none [⟨(some 48), (.mv (.t 1)), none⟩,
 ⟨(some 12), (.mv (.t 48)), none⟩])
 (.seq (.seq (.ops none [⟨(some 13), (.mv (.c (.i .i64 0))), none⟩])
 (.block 0 (.loop (.seq (.seq (.ops none [⟨(some 49), (.mv (.t 13)), none⟩,
 ⟨(some 50), (.fa 0 (.t 5)), none⟩,
 ⟨(some 51), (.ld false 1 (.t 50)), none⟩,
 ⟨(some 52), (.blen false (.t 51)), none⟩,
 ⟨(some 53), (.bin .lss (.t 49) (.t 52)), none⟩])
 (.cond (.t 53)
 (.skip)
 (.exit 0)))
 (.seq (.block 1 (.seq (.seq (.ops none [⟨(some 56), (.mv (.t 3)), none⟩,
 ⟨(some 57), (.mv (.t 12)), none⟩,
 ⟨(some 58), (.bin .geq (.t 56) (.t 57)), none⟩,
 ⟨(some 59), (.mv (.t 58)), none⟩,
 ⟨(some 60), (.mv (.t 3)), (some ((some 59), true))⟩,
 ⟨(some 61), (.mv (.t 12)), (some ((some 59), true))⟩,
 ⟨(some 62), (.fa 0 (.t 5)), (some ((some 59), true))⟩,
 ⟨(some 63), (.ld false 1 (.t 62)), (some ((some 59), true))⟩,
 ⟨(some 64), (.mv (.t 13)), (some ((some 59), true))⟩,
 ⟨(some 65), (.ias 1 (.t 63) (.t 64)), (some ((some 59), true))⟩,
 ⟨(some 66), (.ld false 1 (.t 65)), (some ((some 59), true))⟩,
 ⟨(some 67), (.bin .add (.t 61) (.t 66)), (some ((some 59), true))⟩,
 ⟨(some 68), (.bin .lss (.t 60) (.t 67)), (some ((some 59), true))⟩,
 ⟨(some 69), (.pick (.t 59) (.t 68) (.c (.b false))), none⟩])
 (.cond (.t 69)
 (.seq (.ops none [⟨(some 70), (.fa 1 (.t 5)), none⟩,
 ⟨(some 71), (.ld false 1 (.t 70)), none⟩,
 ⟨(some 72), (.mv (.t 13)), none⟩,
 ⟨(some 73), (.ias 1 (.t 71) (.t 72)), none⟩,
 ⟨(some 74), (.ld false 1 (.t 73)), none⟩,
 ⟨(some 75), (.mv (.t 11)), none⟩,
 ⟨(some 76), (.ias 1 (.t 74) (.t 75)), none⟩,
 ⟨(some 77), (.ld false 1 (.t 76)), none⟩,
 ⟨(some 78), (.mv (.t 3)), none⟩,
 ⟨(some 79), (.mv (.t 12)), none⟩,
 ⟨(some 80), (.bin .sub (.t 78) (.t 79)), none⟩,
 ⟨(some 81), (.call (.f 35) [(.t 77), (.t 80)]), none⟩,
 ⟨(some 10), (.mv (.t 81)), none⟩])
 (.ret))
 (.skip)))
 (.ops none [⟨(some 82), (.mv (.t 12)), none⟩,
 ⟨(some 83), (.fa 0 (.t 5)), none⟩,
 ⟨(some 84), (.ld false 1 (.t 83)), none⟩,
 ⟨(some 85), (.mv (.t 13)), none⟩,
 ⟨(some 86), (.ias 1 (.t 84) (.t 85)), none⟩,
 ⟨(some 87), (.ld false 1 (.t 86)), none⟩,
 ⟨(some 88), (.bin .add (.t 82) (.t 87)), none⟩,
 ⟨(some 12), (.mv (.t 88)), none⟩])))
 (.ops none [⟨(some 54), (.mv (.t 13)), none⟩,
 ⟨(some 55), (.bin .add (.t 54) (.c (.i .i64 1))), none⟩,
 ⟨(some 13), (.mv (.t 55)), none⟩]))))))
 (.seq (.ops none [⟨(some 10), (.mv (.c (.b false))), none⟩])
 (.ret)))))))⟩
theorem F22_ok : prepF Try.prog 22 = some F22 := by kernel_rfl
/-- (glazier/band.Region).Area -/
def F23 : AFun := ⟨22, [.t 2],
 .seq (.ops none [⟨(some 1), (.box (.t 0)), none⟩,
 ⟨(some 2), (.mv (.c (.i .i64 0))), none⟩])
 (.seq (.ops none [⟨(some 3), (.mv (.c (.i .i64 0))), none⟩])
 (.seq (.seq (.ops none [⟨(some 6), (.fa 0 (.t 1)), none⟩,
 ⟨(some 7), (.ld false 1 (.t 6)), none⟩,
 ⟨(some 8), (.blen false (.t 7)), none⟩,
 ⟨(some 9), (.mv (.c (.i .i64 0))), none⟩])
 (.block 0 (.loop (.seq (.ops none [⟨(some 10), (.bin .lss (.t 9) (.t 8)), none⟩])
 (.seq (.cond (.t 10)
 (.skip)
 (.exit 0))
 (.seq (.block 1 (.seq (.ops none [⟨(some 11), (.ias 4 (.t 7) (.t 9)), none⟩,
 ⟨(some 12), (.ld true 4 (.t 11)), none⟩,
 ⟨(some 5), (.new [(.i .i64 0), (.i .i64 0), (.i .i64 0), (.i .i64 0)]), none⟩,
 ⟨none, (.st 4 (.t 5) (.t 12)), none⟩])
 (.ops none [⟨(some 13), (.mv (.t 3)), none⟩,
 ⟨(some 14), (.fa 2 (.t 5)), none⟩,
 ⟨(some 15), (.ld false 1 (.t 14)), none⟩,
 ⟨(some 16), (.fa 3 (.t 5)), none⟩,
 ⟨(some 17), (.ld false 1 (.t 16)), none⟩,
 ⟨(some 18), (.bin .mul (.t 15) (.t 17)), none⟩,
 ⟨(some 19), (.bin .add (.t 13) (.t 18)), none⟩,
 ⟨(some 3), (.mv (.t 19)), none⟩])))
 (.ops none [⟨(some 20), (.bin .add (.t 9) (.c (.i .i64 1))), none⟩,
 ⟨(some 9), (.mv (.t 20)), none⟩])))))))
 (.seq (.ops none [⟨(some 21), (.mv (.t 3)), none⟩,
 ⟨(some 2), (.mv (.t 21)), none⟩])
 (.ret))))⟩
theorem F23_ok : prepF Try.prog 23 = some F23 := by kernel_rfl
/-- glazier/font.Builtin -/
def F24 : AFun := ⟨15, [.cell true 1617 2, .t 3],
 .seq (.ops none [⟨(some 2), (.new (List.replicate 1617 (.i .i64 0))), none⟩,
 ⟨(some 3), (.mv (.c (.b false))), none⟩])
 (.seq (.seq (.ops none [⟨(some 5), (.mv (.t 0)), none⟩])
 (.block 0 (.seq (.ops none [⟨(some 7), (.bin .eql (.t 5) (.c (.s [116, 105, 110, 121]))), none⟩,
 ⟨(some 6), (.mv (.t 7)), none⟩])
 (.cond (.t 6)
 (.seq (.ops none [⟨(some 8), (.call (.f 36) [(.c (.i .i64 5)), (.c (.i .i64 1)), (.f 37), (.f 38)]), none⟩,
 ⟨none, (.st 1617 (.t 2) (.t 8)), none⟩,
 ⟨(some 3), (.mv (.c (.b true))), none⟩])
 (.ret))
 (.seq (.ops none [⟨(some 10), (.bin .eql (.t 5) (.c (.s [119, 105, 100, 101]))), none⟩,
 ⟨(some 9), (.mv (.t 10)), none⟩])
 (.cond (.t 9)
 (.seq (.ops none [⟨(some 4), (.new [.nilf]), none⟩,
 ⟨none, (.st 1 (.t 4) (.f 39)), none⟩])
 (.seq (.ops none [⟨(some 11), (.ld false 1 (.t 4)), none⟩,
 ⟨(some 12), (.mkf 40 [] [(.t 4)]), none⟩,
 ⟨(some 13), (.call (.f 36) [(.c (.i .i64 7)), (.c (.i .i64 2)), (.t 11), (.t 12)]), none⟩,
 ⟨none, (.st 1617 (.t 2) (.t 13)), none⟩,
 ⟨(some 3), (.mv (.c (.b true))), none⟩])
 (.ret)))
 (.skip)))))))
 (.seq (.ops none [⟨(some 14), (.build (List.replicate 1617 (.i .i64 0)) []), none⟩,
 ⟨none, (.st 1617 (.t 2) (.t 14)), none⟩,
 ⟨(some 3), (.mv (.c (.b false))), none⟩])
 (.ret)))⟩
theorem F24_ok : prepF Try.prog 24 = some F24 := by kernel_rfl
/-- (glazier/font.Font).Ascent -/
def F25 : AFun := ⟨5, [.t 2],
 .seq (.ops none [⟨(some 1), (.box (.t 0)), none⟩,
 ⟨(some 2), (.mv (.c (.i .i64 0))), none⟩])
 (.seq (.ops none [⟨(some 3), (.fa 0 (.t 1)), none⟩,
 ⟨(some 4), (.ld false 1 (.t 3)), none⟩,
 ⟨(some 2), (.mv (.t 4)), none⟩])
 (.ret))⟩
theorem F25_ok : prepF Try.prog 25 = some F25 := by kernel_rfl
/-- (glazier/font.Font).Descent -/
def F26 : AFun := ⟨5, [.t 2],
 .seq (.ops none [⟨(some 1), (.box (.t 0)), none⟩,
 ⟨(some 2), (.mv (.c (.i .i64 0))), none⟩])
 (.seq (.ops none [⟨(some 3), (.fa 1 (.t 1)), none⟩,
 ⟨(some 4), (.ld false 1 (.t 3)), none⟩,
 ⟨(some 2), (.mv (.t 4)), none⟩])
 (.ret))⟩
theorem F26_ok : prepF Try.prog 26 = some F26 := by kernel_rfl
/-- (glazier/font.Font).Glyph -/
def F27 : AFun := ⟨27, [.cell true 2 4],
 .seq (.ops none [⟨(some 2), (.box (.t 0)), none⟩,
 ⟨(some 4), (.new [(.i .i64 0), .nils]), none⟩])
 (.seq (.seq (.ops none [⟨(some 7), (.ld true 1617 (.t 2)), none⟩,
 ⟨(some 8), (.call (.f 41) [(.t 7)]), none⟩,
 ⟨(some 9), (.bin .eql (.t 8) (.c (.i .i64 0))), none⟩])
 (.cond (.t 9)
 (.seq (.ops none [⟨(some 10), (.build [(.i .i64 0), .nils] []), none⟩,
 ⟨none, (.st 2 (.t 4) (.t 10)), none⟩])
 (.ret))
 (.skip)))
 (.seq (.ops none [⟨(some 11), (.mv (.t 1)), none⟩,
 ⟨(some 12), (.call (.f 29) [(.t 11)]), none⟩,
 ⟨(some 13), (.fa 2 (.t 2)), none⟩,
 ⟨(some 14), (.iaa 95 17 (.t 13) (.t 12)), none⟩,
 ⟨(some 15), (.ld true 17 (.t 14)), none⟩,
 ⟨(some 5), (.new [(.i .i64 0), (.i .i64 0), (.i .i64 0), (.i .i64 0), (.i .i64 0), (.i .i64 0), (.i .i64 0), (.i .i64 0), (.i .i64 0), (.i .i64 0), (.i .i64 0), (.i .i64 0), (.i .i64 0), (.i .i64 0), (.i .i64 0), (.i .i64 0), (.i .i64 0)]), none⟩,
 ⟨none, (.st 17 (.t 5) (.t 15)), none⟩])
 (.seq (.ops none [⟨(some 16), (.ld true 1617 (.t 2)), none⟩,
 ⟨(some 17), (.call (.f 41) [(.t 16)]), none⟩,
 ⟨(some 18), (.mks 1 8 [(.i .i64 0)] (.t 17) (.t 17)), none⟩,
 ⟨(some 6), (.mv (.t 18)), none⟩])
 (.seq (.ops none [⟨(some 19), (.mv (.t 6)), none⟩,
 ⟨(some 20), (.fa 1 (.t 5)), none⟩,
 ⟨(some 21), (.sla 16 1 (.t 20) none none none), none⟩,
 ⟨(some 22), (.cpy 1 (.t 19) (.t 21)), none⟩])
 (.seq (.ops none [⟨(some 23), (.fa 0 (.t 5)), none⟩,
 ⟨(some 24), (.ld false 1 (.t 23)), none⟩,
 ⟨(some 25), (.mv (.t 6)), none⟩,
 ⟨(some 26), (.build [(.i .i64 0), .nils] [(0, 1, (.t 24)), (1, 1, (.t 25))]), none⟩,
 ⟨none, (.st 2 (.t 4) (.t 26)), none⟩])
 (.ret))))))⟩
theorem F27_ok : prepF Try.prog 27 = some F27 := by kernel_rfl
/-- glazier/text.laid -/
def F28 : AFun := ⟨6, [.t 4],
 .seq (.ops none [⟨(some 2), (.box (.t 0)), none⟩,
 ⟨(some 3), (.box (.t 1)), none⟩,
 ⟨(some 4), (.mv (.c .nilf)), none⟩])
 (.seq (.ops none [⟨(some 5), (.mkf 42 [] [(.t 3), (.t 2)]), none⟩,
 ⟨(some 4), (.mv (.t 5)), none⟩])
 (.ret))⟩
theorem F28_ok : prepF Try.prog 28 = some F28 := by kernel_rfl
/-- glazier/font.place -/
def F29 : AFun := ⟨12, [.t 2],
 .seq (.ops none [⟨(some 2), (.mv (.c (.i .i64 0))), none⟩])
 (.seq (.seq (.ops none [⟨(some 3), (.mv (.t 0)), none⟩,
 ⟨(some 4), (.bin .lss (.t 3) (.c (.i .u8 32))), none⟩,
 ⟨(some 5), (.mv (.t 4)), none⟩,
 ⟨(some 6), (.mv (.t 0)), (some ((some 5), false))⟩,
 ⟨(some 7), (.bin .gtr (.t 6) (.c (.i .u8 126))), (some ((some 5), false))⟩,
 ⟨(some 8), (.pick (.t 5) (.c (.b true)) (.t 7)), none⟩])
 (.cond (.t 8)
 (.ops none [⟨(some 0), (.mv (.c (.i .u8 63))), none⟩])
 (.skip)))
 (.seq (.ops none [⟨(some 9), (.mv (.t 0)), none⟩,
 ⟨(some 10), (.conv .i64 (.t 9)), none⟩,
 ⟨(some 11), (.bin .sub (.t 10) (.c (.i .i64 32))), none⟩,
 ⟨(some 2), (.mv (.t 11)), none⟩])
 (.ret)))⟩
theorem F29_ok : prepF Try.prog 29 = some F29 := by kernel_rfl
/-- glazier/text.coord -/
def F30 : AFun := ⟨9, [.t 2],
 .seq (.ops none [⟨(some 2), (.mv (.c (.b false))), none⟩])
 (.seq (.ops none [⟨(some 3), (.mv (.t 0)), none⟩,
 ⟨(some 4), (.bin .geq (.t 3) (.c (.i .i64 (-1048576)))), none⟩,
 ⟨(some 5), (.mv (.t 4)), none⟩,
 ⟨(some 6), (.mv (.t 0)), (some ((some 5), true))⟩,
 ⟨(some 7), (.bin .leq (.t 6) (.c (.i .i64 1048576))), (some ((some 5), true))⟩,
 ⟨(some 8), (.pick (.t 5) (.t 7) (.c (.b false))), none⟩,
 ⟨(some 2), (.mv (.t 8)), none⟩])
 (.ret))⟩
theorem F30_ok : prepF Try.prog 30 = some F30 := by kernel_rfl
/-- glazier/text.counted -/
def F31 : AFun := ⟨8, [.t 2],
 .seq (.ops none [⟨(some 2), (.mv (.c (.s []))), none⟩])
 (.seq (.ops none [⟨(some 3), (.mv (.t 0)), none⟩,
 ⟨(some 4), (.mv (.t 0)), none⟩,
 ⟨(some 5), (.blen true (.t 4)), none⟩,
 ⟨(some 6), (.bmin [(.t 5), (.c (.i .i64 4096))]), none⟩,
 ⟨(some 7), (.sstr (.t 3) none (some (.t 6))), none⟩,
 ⟨(some 2), (.mv (.t 7)), none⟩])
 (.ret))⟩
theorem F31_ok : prepF Try.prog 31 = some F31 := by kernel_rfl
/-- glazier/rect.Check -/
def F32 : AFun := ⟨20, [.t 2],
 .seq (.ops none [⟨(some 1), (.box (.t 0)), none⟩,
 ⟨(some 2), (.mv (.c (.i .i64 0))), none⟩])
 (.seq (.seq (.ops none [⟨(some 3), (.ld true 4 (.t 1)), none⟩,
 ⟨(some 4), (.build [(.i .i64 0), (.i .i64 0), (.i .i64 0), (.i .i64 0)] []), none⟩,
 ⟨(some 5), (.eqs false [1, 1, 1, 1] (.t 3) (.t 4)), none⟩,
 ⟨(some 6), (.mv (.t 5)), none⟩,
 ⟨(some 7), (.fa 0 (.t 1)), (some ((some 6), false))⟩,
 ⟨(some 8), (.ld false 1 (.t 7)), (some ((some 6), false))⟩,
 ⟨(some 9), (.fa 2 (.t 1)), (some ((some 6), false))⟩,
 ⟨(some 10), (.ld false 1 (.t 9)), (some ((some 6), false))⟩,
 ⟨(some 11), (.call (.f 43) [(.t 8), (.t 10)]), (some ((some 6), false))⟩,
 ⟨(some 12), (.mv (.t 11)), (some ((some 6), false))⟩,
 ⟨(some 13), (.fa 1 (.t 1)), (some ((some 12), true))⟩,
 ⟨(some 14), (.ld false 1 (.t 13)), (some ((some 12), true))⟩,
 ⟨(some 15), (.fa 3 (.t 1)), (some ((some 12), true))⟩,
 ⟨(some 16), (.ld false 1 (.t 15)), (some ((some 12), true))⟩,
 ⟨(some 17), (.call (.f 43) [(.t 14), (.t 16)]), (some ((some 12), true))⟩,
 ⟨(some 18), (.pick (.t 12) (.t 17) (.c (.b false))), (some ((some 6), false))⟩,
 ⟨(some 19), (.pick (.t 6) (.c (.b true)) (.t 18)), none⟩])
 (.cond (.t 19)
 (.seq (.ops none [⟨(some 2), (.mv (.c (.i .i64 0))), none⟩])
 (.ret))
 (.skip)))
 (.seq (.ops none [⟨(some 2), (.mv (.c (.i .i64 1))), none⟩])
 (.ret)))⟩
theorem F32_ok : prepF Try.prog 32 = some F32 := by kernel_rfl
/-- glazier/text.ink -/
def F33 : AFun := ⟨82, [.cell true 1 10],
 .seq (.ops none [⟨(some 5), (.box (.t 0)), none⟩,
 ⟨(some 6), (.box (.t 1)), none⟩,
 ⟨(some 7), (.box (.t 2)), none⟩,
 ⟨(some 9), (.box (.t 4)), none⟩,
 ⟨(some 10), (.new [.nils]), none⟩])
 (.seq (.ops none [⟨(some 11), (.new [.nils]), none⟩])
 (.seq (.seq (.ops none [⟨(some 18), (.ld true 1617 (.t 5)), none⟩,
 ⟨(some 19), (.mv (.t 3)), none⟩,
 ⟨(some 20), (.call (.f 28) [(.t 18), (.t 19)]), none⟩])
 (.block 0 (.rangeF (.t 20) [21, 22]
 (.seq (.ops none [⟨(some 12), (.mv (.t 21)), none⟩])
 (.ops none [⟨(some 13), (.new [(.i .i64 0), .nils]), none⟩,
 ⟨none, (.st 2 (.t 13) (.t 22)), none⟩]))
 (.block 1 (.seq (.ops none [⟨(some 23), (.ld false 1 (.t 6)), none⟩,
 ⟨(some 24), (.mv (.t 12)), none⟩,
 ⟨(some 25), (.bin .add (.t 23) (.t 24)), none⟩,
 ⟨(some 14), (.mv (.t 25)), none⟩])
 (.seq (.seq (.ops none [⟨(some 26), (.mv (.t 14)), none⟩,
 ⟨(some 27), (.fa 0 (.t 13)), none⟩,
 ⟨(some 28), (.ld false 1 (.t 27)), none⟩,
 ⟨(some 29), (.bin .add (.t 26) (.t 28)), none⟩,
 ⟨(some 30), (.fa 0 (.t 9)), none⟩,
 ⟨(some 31), (.ld false 1 (.t 30)), none⟩,
 ⟨(some 32), (.bin .leq (.t 29) (.t 31)), none⟩,
 ⟨(some 33), (.mv (.t 32)), none⟩,
 ⟨(some 34), (.mv (.t 14)), (some ((some 33), false))⟩,
 ⟨(some 35), (.fa 0 (.t 9)), (some ((some 33), false))⟩,
 ⟨(some 36), (.ld false 1 (.t 35)), (some ((some 33), false))⟩,
 ⟨(some 37), (.fa 2 (.t 9)), (some ((some 33), false))⟩,
 ⟨(some 38), (.ld false 1 (.t 37)), (some ((some 33), false))⟩,
 ⟨(some 39), (.bin .add (.t 36) (.t 38)), (some ((some 33), false))⟩,
 ⟨(some 40), (.bin .geq (.t 34) (.t 39)), (some ((some 33), false))⟩,
 ⟨(some 41), (.pick (.t 33) (.c (.b true)) (.t 40)), none⟩])
 (.cond (.t 41)
 (.exit 1)
 (.skip)))
 (.seq (.ops none [⟨(some 42), (.fa 1 (.t 13)), none⟩,
 ⟨(some 43), (.ld false 1 (.t 42)), none⟩,
 ⟨(some 44), (.blen false (.t 43)), none⟩,
 ⟨(some 45), (.mv (.c (.i .i64 0))), none⟩])
 (.block 2 (.loop (.seq (.ops none [⟨(some 46), (.bin .lss (.t 45) (.t 44)), none⟩])
 (.seq (.cond (.t 46)
 (.skip)
 (.exit 2))
 (.seq (.block 3 (.seq (.ops none [⟨(some 47), (.mv (.t 45)), none⟩,
 ⟨(some 48), (.ias 1 (.t 43) (.t 45)), none⟩,
 ⟨(some 49), (.ld false 1 (.t 48)), none⟩,
 ⟨(some 15), (.mv (.t 47)), none⟩,
 ⟨(some 16), (.mv (.t 49)), none⟩])
 (.seq (.ops (some [0, 0, 2, 7, 0, 31, 63]) [⟨(some 50), (.ld false 1 (.t 7)), none⟩,
 ⟨(some 51), (.ld true 1617 (.t 5)), none⟩,
 ⟨(some 52), (.call (.f 25) [(.t 51)]), none⟩,
 ⟨(some 53), (.bin .sub (.t 50) (.t 52)), none⟩,
 ⟨(some 54), (.mv (.t 15)), none⟩,
 ⟨(some 55), (.bin .add (.t 53) (.t 54)), none⟩,
 ⟨(some 17), (.mv (.t 55)), none⟩])
 (.seq (.ops none [⟨(some 56), (.mv (.t 17)), none⟩,
 ⟨(some 57), (.fa 1 (.t 9)), none⟩,
 ⟨(some 58), (.ld false 1 (.t 57)), none⟩,
 ⟨(some 59), (.bin .geq (.t 56) (.t 58)), none⟩,
 ⟨(some 60), (.mv (.t 59)), none⟩,
 ⟨(some 61), (.mv (.t 17)), (some ((some 60), true))⟩,
 ⟨(some 62), (.fa 1 (.t 9)), (some ((some 60), true))⟩,
 ⟨(some 63), (.ld false 1 (.t 62)), (some ((some 60), true))⟩,
 ⟨(some 64), (.fa 3 (.t 9)), (some ((some 60), true))⟩,
 ⟨(some 65), (.ld false 1 (.t 64)), (some ((some 60), true))⟩,
 ⟨(some 66), (.bin .add (.t 63) (.t 65)), (some ((some 60), true))⟩,
 ⟨(some 67), (.bin .lss (.t 61) (.t 66)), (some ((some 60), true))⟩,
 ⟨(some 68), (.pick (.t 60) (.t 67) (.c (.b false))), none⟩])
 (.cond (.t 68)
 (.ops (some [0, 0, 0, 4, 0, 0, 62, 127, 255]) [⟨(some 69), (.ld false 1 (.t 11)), none⟩,
 ⟨(some 70), (.mv (.t 16)), none⟩,
 ⟨(some 71), (.fa 0 (.t 13)), none⟩,
 ⟨(some 72), (.ld false 1 (.t 71)), none⟩,
 ⟨(some 73), (.mv (.t 14)), none⟩,
 ⟨(some 74), (.mv (.t 17)), none⟩,
 ⟨(some 75), (.call (.f 44) [(.t 70), (.t 72), (.t 73), (.t 74)]), none⟩,
 ⟨(some 76), (.app 4 32 [(.i .i64 0), (.i .i64 0), (.i .i64 0), (.i .i64 0)] (.t 69) (.t 75)), none⟩,
 ⟨none, (.st 1 (.t 11) (.t 76)), none⟩])
 (.skip))))))
 (.ops none [⟨(some 77), (.bin .add (.t 45) (.c (.i .i64 1))), none⟩,
 ⟨(some 45), (.mv (.t 77)), none⟩])))))))))))))
 (.seq (.ops (some [0, 1, 0, 7, 15]) [⟨(some 78), (.ld false 1 (.t 11)), none⟩,
 ⟨(some 79), (.call (.f 46) [(.t 78)]), none⟩,
 ⟨(some 80), (.ld true 4 (.t 9)), none⟩,
 ⟨(some 81), (.call (.f 45) [(.t 79), (.t 80)]), none⟩,
 ⟨none, (.st 1 (.t 10) (.t 81)), none⟩])
 (.ret))))⟩
theorem F33_ok : prepF Try.prog 33 = some F33 := by kernel_rfl
/-- glazier/glazierref14.Counts -/
def F34 : AFun := ⟨55, [.t 2],
 .seq (.ops none [⟨(some 1), (.box (.t 0)), none⟩,
 ⟨(some 2), (.mv (.c (.b false))), none⟩])
 (.seq (.seq (.ops none [⟨(some 3), (.fa 0 (.t 1)), none⟩,
 ⟨(some 4), (.ld false 1 (.t 3)), none⟩,
 ⟨(some 5), (.bin .lss (.t 4) (.c (.i .i64 (-1048576)))), none⟩,
 ⟨(some 6), (.mv (.t 5)), none⟩,
 ⟨(some 7), (.fa 0 (.t 1)), (some ((some 6), false))⟩,
 ⟨(some 8), (.ld false 1 (.t 7)), (some ((some 6), false))⟩,
 ⟨(some 9), (.bin .gtr (.t 8) (.c (.i .i64 1048576))), (some ((some 6), false))⟩,
 ⟨(some 10), (.pick (.t 6) (.c (.b true)) (.t 9)), none⟩,
 ⟨(some 11), (.mv (.t 10)), none⟩,
 ⟨(some 12), (.fa 1 (.t 1)), (some ((some 11), false))⟩,
 ⟨(some 13), (.ld false 1 (.t 12)), (some ((some 11), false))⟩,
 ⟨(some 14), (.bin .lss (.t 13) (.c (.i .i64 (-1048576)))), (some ((some 11), false))⟩,
 ⟨(some 15), (.pick (.t 11) (.c (.b true)) (.t 14)), none⟩,
 ⟨(some 16), (.mv (.t 15)), none⟩,
 ⟨(some 17), (.fa 1 (.t 1)), (some ((some 16), false))⟩,
 ⟨(some 18), (.ld false 1 (.t 17)), (some ((some 16), false))⟩,
 ⟨(some 19), (.bin .gtr (.t 18) (.c (.i .i64 1048576))), (some ((some 16), false))⟩,
 ⟨(some 20), (.pick (.t 16) (.c (.b true)) (.t 19)), none⟩,
 ⟨(some 21), (.mv (.t 20)), none⟩,
 ⟨(some 22), (.fa 2 (.t 1)), (some ((some 21), false))⟩,
 ⟨(some 23), (.ld false 1 (.t 22)), (some ((some 21), false))⟩,
 ⟨(some 24), (.bin .lss (.t 23) (.c (.i .i64 1))), (some ((some 21), false))⟩,
 ⟨(some 25), (.pick (.t 21) (.c (.b true)) (.t 24)), none⟩,
 ⟨(some 26), (.mv (.t 25)), none⟩,
 ⟨(some 27), (.fa 3 (.t 1)), (some ((some 26), false))⟩,
 ⟨(some 28), (.ld false 1 (.t 27)), (some ((some 26), false))⟩,
 ⟨(some 29), (.bin .lss (.t 28) (.c (.i .i64 1))), (some ((some 26), false))⟩,
 ⟨(some 30), (.pick (.t 26) (.c (.b true)) (.t 29)), none⟩,
 ⟨(some 31), (.mv (.t 30)), none⟩,
 ⟨(some 32), (.fa 2 (.t 1)), (some ((some 31), false))⟩,
 ⟨(some 33), (.ld false 1 (.t 32)), (some ((some 31), false))⟩,
 ⟨(some 34), (.bin .gtr (.t 33) (.c (.i .i64 2097152))), (some ((some 31), false))⟩,
 ⟨(some 35), (.pick (.t 31) (.c (.b true)) (.t 34)), none⟩,
 ⟨(some 36), (.mv (.t 35)), none⟩,
 ⟨(some 37), (.fa 3 (.t 1)), (some ((some 36), false))⟩,
 ⟨(some 38), (.ld false 1 (.t 37)), (some ((some 36), false))⟩,
 ⟨(some 39), (.bin .gtr (.t 38) (.c (.i .i64 2097152))), (some ((some 36), false))⟩,
 ⟨(some 40), (.pick (.t 36) (.c (.b true)) (.t 39)), none⟩])
 (.cond (.t 40)
 (.seq (.ops none [⟨(some 2), (.mv (.c (.b false))), none⟩])
 (.ret))
 (.skip)))
 (.seq (.ops none [⟨(some 41), (.fa 0 (.t 1)), none⟩,
 ⟨(some 42), (.ld false 1 (.t 41)), none⟩,
 ⟨(some 43), (.fa 2 (.t 1)), none⟩,
 ⟨(some 44), (.ld false 1 (.t 43)), none⟩,
 ⟨(some 45), (.bin .add (.t 42) (.t 44)), none⟩,
 ⟨(some 46), (.bin .leq (.t 45) (.c (.i .i64 1048576))), none⟩,
 ⟨(some 47), (.mv (.t 46)), none⟩,
 ⟨(some 48), (.fa 1 (.t 1)), (some ((some 47), true))⟩,
 ⟨(some 49), (.ld false 1 (.t 48)), (some ((some 47), true))⟩,
 ⟨(some 50), (.fa 3 (.t 1)), (some ((some 47), true))⟩,
 ⟨(some 51), (.ld false 1 (.t 50)), (some ((some 47), true))⟩,
 ⟨(some 52), (.bin .add (.t 49) (.t 51)), (some ((some 47), true))⟩,
 ⟨(some 53), (.bin .leq (.t 52) (.c (.i .i64 1048576))), (some ((some 47), true))⟩,
 ⟨(some 54), (.pick (.t 47) (.t 53) (.c (.b false))), none⟩,
 ⟨(some 2), (.mv (.t 54)), none⟩])
 (.ret)))⟩
theorem F34_ok : prepF Try.prog 34 = some F34 := by kernel_rfl
/-- glazier/glazierref27.bit -/
def F35 : AFun := ⟨16, [.t 4],
 .seq (.ops none [⟨(some 4), (.mv (.c (.b false))), none⟩])
 (.seq (.seq (.ops none [⟨(some 5), (.mv (.c (.i .i64 0))), none⟩])
 (.block 0 (.loop (.seq (.seq (.ops none [⟨(some 6), (.mv (.t 5)), none⟩,
 ⟨(some 7), (.mv (.t 1)), none⟩,
 ⟨(some 8), (.bin .lss (.t 6) (.t 7)), none⟩])
 (.cond (.t 8)
 (.skip)
 (.exit 0)))
 (.seq (.block 1 (.ops none [⟨(some 11), (.mv (.t 0)), none⟩,
 ⟨(some 12), (.bin .quo (.t 11) (.c (.i .i64 2))), none⟩,
 ⟨(some 0), (.mv (.t 12)), none⟩]))
 (.ops none [⟨(some 9), (.mv (.t 5)), none⟩,
 ⟨(some 10), (.bin .add (.t 9) (.c (.i .i64 1))), none⟩,
 ⟨(some 5), (.mv (.t 10)), none⟩]))))))
 (.seq (.ops none [⟨(some 13), (.mv (.t 0)), none⟩,
 ⟨(some 14), (.bin .rem (.t 13) (.c (.i .i64 2))), none⟩,
 ⟨(some 15), (.bin .eql (.t 14) (.c (.i .i64 1))), none⟩,
 ⟨(some 4), (.mv (.t 15)), none⟩])
 (.ret)))⟩
theorem F35_ok : prepF Try.prog 35 = some F35 := by kernel_rfl
/-- glazier/font.build -/
def F36 : AFun := ⟨48, [.cell true 1617 8],
 .seq (.ops none [⟨(some 8), (.new (List.replicate 1617 (.i .i64 0))), none⟩])
 (.seq (.ops none [⟨(some 13), (.mv (.t 0)), none⟩,
 ⟨(some 14), (.mv (.t 1)), none⟩,
 ⟨(some 15), (.build (List.replicate 1617 (.i .i64 0)) [(0, 1, (.t 13)), (1, 1, (.t 14))]), none⟩,
 ⟨(some 9), (.new (List.replicate 1617 (.i .i64 0))), none⟩,
 ⟨none, (.st 1617 (.t 9) (.t 15)), none⟩])
 (.seq (.seq (.ops none [⟨(some 16), (.mv (.c (.i .i64 0))), none⟩])
 (.block 0 (.loop (.seq (.ops none [⟨(some 17), (.bin .lss (.t 16) (.c (.i .i64 95))), none⟩])
 (.seq (.cond (.t 17)
 (.skip)
 (.exit 0))
 (.seq (.block 1 (.seq (.ops none [⟨(some 18), (.mv (.t 16)), none⟩,
 ⟨(some 10), (.mv (.t 18)), none⟩])
 (.seq (.ops none [⟨(some 19), (.mv (.t 10)), none⟩,
 ⟨(some 20), (.bin .add (.c (.i .i64 32)) (.t 19)), none⟩,
 ⟨(some 11), (.mv (.t 20)), none⟩])
 (.seq (.ops none [⟨(some 21), (.mv (.t 10)), none⟩,
 ⟨(some 22), (.mv (.t 2)), none⟩,
 ⟨(some 23), (.mv (.t 11)), none⟩,
 ⟨(some 24), (.call (.t 22) [(.t 23)]), none⟩,
 ⟨(some 25), (.fa 2 (.t 9)), none⟩,
 ⟨(some 26), (.iaa 95 17 (.t 25) (.t 21)), none⟩,
 ⟨(some 27), (.fa 0 (.t 26)), none⟩,
 ⟨none, (.st 1 (.t 27) (.t 24)), none⟩])
 (.seq (.seq (.ops none [⟨(some 28), (.mv (.t 10)), none⟩,
 ⟨(some 29), (.bin .eql (.t 28) (.c (.i .i64 0))), none⟩])
 (.cond (.t 29)
 (.exit 1)
 (.skip)))
 (.seq (.ops none [⟨(some 30), (.ld true 1617 (.t 9)), none⟩,
 ⟨(some 31), (.call (.f 41) [(.t 30)]), none⟩,
 ⟨(some 32), (.mv (.c (.i .i64 0))), none⟩])
 (.block 2 (.loop (.seq (.ops none [⟨(some 33), (.bin .lss (.t 32) (.t 31)), none⟩])
 (.seq (.cond (.t 33)
 (.skip)
 (.exit 2))
 (.seq (.block 3 (.seq (.ops none [⟨(some 34), (.mv (.t 32)), none⟩,
 ⟨(some 12), (.mv (.t 34)), none⟩])
 (.ops (some [0, 0, 0, 0, 0, 28, 0, 65, 193, 511, 1023]) [⟨(some 35), (.mv (.t 10)), none⟩,
 ⟨(some 36), (.mv (.t 12)), none⟩,
 ⟨(some 37), (.mv (.t 3)), none⟩,
 ⟨(some 38), (.mv (.t 11)), none⟩,
 ⟨(some 39), (.mv (.t 12)), none⟩,
 ⟨(some 40), (.call (.t 37) [(.t 38), (.t 39)]), none⟩,
 ⟨(some 41), (.fa 2 (.t 9)), none⟩,
 ⟨(some 42), (.iaa 95 17 (.t 41) (.t 35)), none⟩,
 ⟨(some 43), (.fa 1 (.t 42)), none⟩,
 ⟨(some 44), (.iaa 16 1 (.t 43) (.t 36)), none⟩,
 ⟨none, (.st 1 (.t 44) (.t 40)), none⟩])))
 (.ops none [⟨(some 45), (.bin .add (.t 32) (.c (.i .i64 1))), none⟩,
 ⟨(some 32), (.mv (.t 45)), none⟩]))))))))))))
 (.ops none [⟨(some 46), (.bin .add (.t 16) (.c (.i .i64 1))), none⟩,
 ⟨(some 16), (.mv (.t 46)), none⟩])))))))
 (.seq (.ops none [⟨(some 47), (.ld true 1617 (.t 9)), none⟩,
 ⟨none, (.st 1617 (.t 8) (.t 47)), none⟩])
 (.ret))))⟩
theorem F36_ok : prepF Try.prog 36 = some F36 := by kernel_rfl
/-- glazier/font.Builtin$1 -/
def F37 : AFun := ⟨3, [.t 2],
 .seq (.ops none [⟨(some 2), (.mv (.c (.i .i64 0))), none⟩])
 (.seq (.ops none [⟨(some 2), (.mv (.c (.i .i64 4))), none⟩])
 (.ret))⟩
theorem F37_ok : prepF Try.prog 37 = some F37 := by kernel_rfl
/-- glazier/font.Builtin$2 -/
def F38 : AFun := ⟨14, [.t 4],
 .seq (.ops none [⟨(some 4), (.mv (.c (.i .i64 0))), none⟩])
 (.seq (.seq (.ops none [⟨(some 5), (.mv (.t 1)), none⟩,
 ⟨(some 6), (.bin .eql (.t 5) (.c (.i .i64 5))), none⟩])
 (.cond (.t 6)
 (.seq (.ops none [⟨(some 4), (.mv (.c (.i .i64 0))), none⟩])
 (.ret))
 (.skip)))
 (.seq (.ops none [⟨(some 7), (.mv (.t 0)), none⟩,
 ⟨(some 8), (.mv (.t 1)), none⟩,
 ⟨(some 9), (.bin .add (.t 8) (.c (.i .i64 3))), none⟩,
 ⟨(some 10), (.bin .mul (.t 7) (.t 9)), none⟩,
 ⟨(some 11), (.mv (.t 1)), none⟩,
 ⟨(some 12), (.bin .add (.t 10) (.t 11)), none⟩,
 ⟨(some 13), (.bin .rem (.t 12) (.c (.i .i64 8))), none⟩,
 ⟨(some 4), (.mv (.t 13)), none⟩])
 (.ret)))⟩
theorem F38_ok : prepF Try.prog 38 = some F38 := by kernel_rfl
/-- glazier/font.Builtin$3 -/
def F39 : AFun := ⟨6, [.t 2],
 .seq (.ops none [⟨(some 2), (.mv (.c (.i .i64 0))), none⟩])
 (.seq (.ops none [⟨(some 3), (.mv (.t 0)), none⟩,
 ⟨(some 4), (.bin .rem (.t 3) (.c (.i .i64 4))), none⟩,
 ⟨(some 5), (.bin .add (.c (.i .i64 5)) (.t 4)), none⟩,
 ⟨(some 2), (.mv (.t 5)), none⟩])
 (.ret))⟩
theorem F39_ok : prepF Try.prog 39 = some F39 := by kernel_rfl
/-- glazier/font.Builtin$4 -/
def F40 : AFun := ⟨20, [.t 5],
 .seq (.ops none [⟨(some 5), (.mv (.c (.i .i64 0))), none⟩])
 (.seq (.ops none [⟨(some 6), (.mv (.t 0)), none⟩,
 ⟨(some 7), (.mv (.t 1)), none⟩,
 ⟨(some 8), (.bin .mul (.c (.i .i64 2)) (.t 7)), none⟩,
 ⟨(some 9), (.bin .add (.t 8) (.c (.i .i64 5))), none⟩,
 ⟨(some 10), (.bin .mul (.t 6) (.t 9)), none⟩,
 ⟨(some 11), (.mv (.t 1)), none⟩,
 ⟨(some 12), (.bin .mul (.c (.i .i64 7)) (.t 11)), none⟩,
 ⟨(some 13), (.bin .add (.t 10) (.t 12)), none⟩,
 ⟨(some 14), (.ld false 1 (.t 2)), none⟩,
 ⟨(some 15), (.mv (.t 0)), none⟩,
 ⟨(some 16), (.call (.t 14) [(.t 15)]), none⟩,
 ⟨(some 17), (.bin .sub (.t 16) (.c (.i .i64 1))), none⟩,
 ⟨(some 18), (.bin .shl (.c (.i .i64 1)) (.t 17)), none⟩,
 ⟨(some 19), (.bin .rem (.t 13) (.t 18)), none⟩,
 ⟨(some 5), (.mv (.t 19)), none⟩])
 (.ret))⟩
theorem F40_ok : prepF Try.prog 40 = some F40 := by kernel_rfl
/-- (glazier/font.Font).height -/
def F41 : AFun := ⟨8, [.t 2],
 .seq (.ops none [⟨(some 1), (.box (.t 0)), none⟩,
 ⟨(some 2), (.mv (.c (.i .i64 0))), none⟩])
 (.seq (.ops none [⟨(some 3), (.fa 0 (.t 1)), none⟩,
 ⟨(some 4), (.ld false 1 (.t 3)), none⟩,
 ⟨(some 5), (.fa 1 (.t 1)), none⟩,
 ⟨(some 6), (.ld false 1 (.t 5)), none⟩,
 ⟨(some 7), (.bin .add (.t 4) (.t 6)), none⟩,
 ⟨(some 2), (.mv (.t 7)), none⟩])
 (.ret))⟩
theorem F41_ok : prepF Try.prog 41 = some F41 := by kernel_rfl
/-- glazier/text.laid$1 -/
def F42 : AFun := ⟨28, [],
 .seq (.ops none [⟨(some 4), (.mv (.c (.i .i64 0))), none⟩])
 (.seq (.ops none [⟨(some 7), (.ld false 1 (.t 1)), none⟩,
 ⟨(some 8), (.call (.f 31) [(.t 7)]), none⟩,
 ⟨(some 9), (.blen true (.t 8)), none⟩,
 ⟨(some 10), (.mv (.c (.i .i64 0))), none⟩])
 (.block 0 (.loop (.seq (.ops none [⟨(some 11), (.bin .lss (.t 10) (.t 9)), none⟩])
 (.seq (.cond (.t 11)
 (.skip)
 (.exit 0))
 (.seq (.block 1 (.seq (.ops none [⟨(some 12), (.mv (.t 10)), none⟩,
 ⟨(some 5), (.mv (.t 12)), none⟩])
 (.seq (.ops (some [0, 0, 0, 6, 15, 0, 63]) [⟨(some 13), (.ld true 1617 (.t 2)), none⟩,
 ⟨(some 14), (.ld false 1 (.t 1)), none⟩,
 ⟨(some 15), (.mv (.t 5)), none⟩,
 ⟨(some 16), (.ixs (.t 14) (.t 15)), none⟩,
 ⟨(some 17), (.call (.f 27) [(.t 13), (.t 16)]), none⟩,
 ⟨(some 6), (.new [(.i .i64 0), .nils]), none⟩,
 ⟨none, (.st 2 (.t 6) (.t 17)), none⟩])
 (.seq (.seq (.ops none [⟨(some 18), (.mv (.t 0)), none⟩,
 ⟨(some 19), (.mv (.t 4)), none⟩,
 ⟨(some 20), (.ld true 2 (.t 6)), none⟩,
 ⟨(some 21), (.call (.t 18) [(.t 19), (.t 20)]), none⟩,
 ⟨(some 22), (.un .not (.t 21)), none⟩])
 (.cond (.t 22)
 (.ret)
 (.skip)))
 (.ops none [⟨(some 23), (.mv (.t 4)), none⟩,
 ⟨(some 24), (.fa 0 (.t 6)), none⟩,
 ⟨(some 25), (.ld false 1 (.t 24)), none⟩,
 ⟨(some 26), (.bin .add (.t 23) (.t 25)), none⟩,
 ⟨(some 4), (.mv (.t 26)), none⟩])))))
 (.ops none [⟨(some 27), (.bin .add (.t 10) (.c (.i .i64 1))), none⟩,
 ⟨(some 10), (.mv (.t 27)), none⟩])))))))⟩
theorem F42_ok : prepF Try.prog 42 = some F42 := by kernel_rfl
/-- glazier/rect.fits -/
def F43 : AFun := ⟨17, [.t 4],
 .seq (.ops none [⟨(some 4), (.mv (.c (.b false))), none⟩])
 (.seq (.ops none [⟨(some 5), (.mv (.t 0)), none⟩,
 ⟨(some 6), (.bin .geq (.t 5) (.c (.i .i64 (-1048576)))), none⟩,
 ⟨(some 7), (.mv (.t 6)), none⟩,
 ⟨(some 8), (.mv (.t 1)), (some ((some 7), true))⟩,
 ⟨(some 9), (.bin .geq (.t 8) (.c (.i .i64 1))), (some ((some 7), true))⟩,
 ⟨(some 10), (.pick (.t 7) (.t 9) (.c (.b false))), none⟩,
 ⟨(some 11), (.mv (.t 10)), none⟩,
 ⟨(some 12), (.mv (.t 1)), (some ((some 11), true))⟩,
 ⟨(some 13), (.mv (.t 0)), (some ((some 11), true))⟩,
 ⟨(some 14), (.bin .sub (.c (.i .i64 1048576)) (.t 13)), (some ((some 11), true))⟩,
 ⟨(some 15), (.bin .leq (.t 12) (.t 14)), (some ((some 11), true))⟩,
 ⟨(some 16), (.pick (.t 11) (.t 15) (.c (.b false))), none⟩,
 ⟨(some 4), (.mv (.t 16)), none⟩])
 (.ret))⟩
theorem F43_ok : prepF Try.prog 43 = some F43 := by kernel_rfl
/-- glazier/text.runs -/
def F44 : AFun := ⟨71, [.t 8],
 .seq (.ops none [⟨(some 8), (.mv (.c .nils)), none⟩])
 (.seq (.ops none [⟨(some 9), (.mv (.c .nils)), none⟩])
 (.seq (.seq (.ops none [⟨(some 10), (.mv (.c (.i .i64 0))), none⟩])
 (.block 0 (.loop (.seq (.seq (.ops none [⟨(some 13), (.mv (.t 10)), none⟩,
 ⟨(some 14), (.mv (.t 1)), none⟩,
 ⟨(some 15), (.bin .lss (.t 13) (.t 14)), none⟩])
 (.cond (.t 15)
 (.skip)
 (.exit 0)))
 (.seq (.block 1 (.seq (.ops none [⟨(some 18), (.mv (.t 2)), none⟩,
 ⟨(some 19), (.mv (.t 10)), none⟩,
 ⟨(some 20), (.bin .add (.t 18) (.t 19)), none⟩,
 ⟨(some 11), (.mv (.t 20)), none⟩])
 (.seq (.seq (.ops none [⟨(some 21), (.mv (.t 0)), none⟩,
 ⟨(some 22), (.mv (.t 10)), none⟩,
 ⟨(some 23), (.bin .shr (.t 21) (.t 22)), none⟩,
 ⟨(some 24), (.bin .and (.t 23) (.c (.i .i64 1))), none⟩,
 ⟨(some 25), (.bin .eql (.t 24) (.c (.i .i64 0))), none⟩,
 ⟨(some 26), (.mv (.t 25)), none⟩,
 ⟨(some 27), (.mv (.t 11)), (some ((some 26), false))⟩,
 ⟨(some 28), (.bin .lss (.t 27) (.c (.i .i64 (-1048576)))), (some ((some 26), false))⟩,
 ⟨(some 29), (.pick (.t 26) (.c (.b true)) (.t 28)), none⟩,
 ⟨(some 30), (.mv (.t 29)), none⟩,
 ⟨(some 31), (.mv (.t 11)), (some ((some 30), false))⟩,
 ⟨(some 32), (.bin .geq (.t 31) (.c (.i .i64 1048576))), (some ((some 30), false))⟩,
 ⟨(some 33), (.pick (.t 30) (.c (.b true)) (.t 32)), none⟩])
 (.cond (.t 33)
 (.exit 1)
 (.skip)))
 (.seq (.seq (.ops none [⟨(some 34), (.mv (.t 9)), none⟩,
 ⟨(some 35), (.blen false (.t 34)), none⟩,
 ⟨(some 12), (.mv (.t 35)), none⟩])
 (.seq (.ops (some [0, 1, 3, 7, 7, 23, 63, 127, 255, 7, 7, 1031, 3591, 7687, 15879, 32767, 7, 131071, 262143]) [⟨(some 36), (.mv (.t 12)), none⟩,
 ⟨(some 37), (.bin .gtr (.t 36) (.c (.i .i64 0))), none⟩,
 ⟨(some 38), (.mv (.t 37)), none⟩,
 ⟨(some 39), (.mv (.t 9)), (some ((some 38), true))⟩,
 ⟨(some 40), (.mv (.t 12)), (some ((some 38), true))⟩,
 ⟨(some 41), (.bin .sub (.t 40) (.c (.i .i64 1))), (some ((some 38), true))⟩,
 ⟨(some 42), (.ias 4 (.t 39) (.t 41)), (some ((some 38), true))⟩,
 ⟨(some 43), (.fa 0 (.t 42)), (some ((some 38), true))⟩,
 ⟨(some 44), (.ld false 1 (.t 43)), (some ((some 38), true))⟩,
 ⟨(some 45), (.mv (.t 9)), (some ((some 38), true))⟩,
 ⟨(some 46), (.mv (.t 12)), (some ((some 38), true))⟩,
 ⟨(some 47), (.bin .sub (.t 46) (.c (.i .i64 1))), (some ((some 38), true))⟩,
 ⟨(some 48), (.ias 4 (.t 45) (.t 47)), (some ((some 38), true))⟩,
 ⟨(some 49), (.fa 2 (.t 48)), (some ((some 38), true))⟩,
 ⟨(some 50), (.ld false 1 (.t 49)), (some ((some 38), true))⟩,
 ⟨(some 51), (.bin .add (.t 44) (.t 50)), (some ((some 38), true))⟩,
 ⟨(some 52), (.mv (.t 11)), (some ((some 38), true))⟩,
 ⟨(some 53), (.bin .eql (.t 51) (.t 52)), (some ((some 38), true))⟩,
 ⟨(some 54), (.pick (.t 38) (.t 53) (.c (.b false))), none⟩])
 (.cond (.t 54)
 (.seq (.ops none [⟨(some 55), (.mv (.t 9)), none⟩,
 ⟨(some 56), (.mv (.t 12)), none⟩,
 ⟨(some 57), (.bin .sub (.t 56) (.c (.i .i64 1))), none⟩,
 ⟨(some 58), (.ias 4 (.t 55) (.t 57)), none⟩,
 ⟨(some 59), (.fa 2 (.t 58)), none⟩,
 ⟨(some 60), (.ld false 1 (.t 59)), none⟩,
 ⟨(some 61), (.bin .add (.t 60) (.c (.i .i64 1))), none⟩,
 ⟨(some 62), (.ias 4 (.t 55) (.t 57)), none⟩,
 ⟨(some 63), (.fa 2 (.t 62)), none⟩,
 ⟨none, (.st 1 (.t 63) (.t 61)), none⟩])
 (.exit 1))
 (.skip))))
 (.ops none [⟨(some 64), (.mv (.t 9)), none⟩,
 ⟨(some 65), (.mv (.t 11)), none⟩,
 ⟨(some 66), (.mv (.t 3)), none⟩,
 ⟨(some 67), (.build [(.i .i64 0), (.i .i64 0), (.i .i64 0), (.i .i64 0)] [(0, 1, (.t 65)), (1, 1, (.t 66)), (2, 1, (.c (.i .i64 1))), (3, 1, (.c (.i .i64 1)))]), none⟩,
 ⟨(some 68), (.lit 4 1 [(.i .i64 0), (.i .i64 0), (.i .i64 0), (.i .i64 0)] [(0, (.t 67))]), none⟩,
 ⟨(some 69), (.app 4 32 [(.i .i64 0), (.i .i64 0), (.i .i64 0), (.i .i64 0)] (.t 64) (.t 68)), none⟩,
 ⟨(some 9), (.mv (.t 69)), none⟩])))))
 (.ops none [⟨(some 16), (.mv (.t 10)), none⟩,
 ⟨(some 17), (.bin .add (.t 16) (.c (.i .i64 1))), none⟩,
 ⟨(some 10), (.mv (.t 17)), none⟩]))))))
 (.seq (.ops none [⟨(some 70), (.mv (.t 9)), none⟩,
 ⟨(some 8), (.mv (.t 70)), none⟩])
 (.ret))))⟩
theorem F44_ok : prepF Try.prog 44 = some F44 := by kernel_rfl
/-- glazier/region.Within -/
def F45 : AFun := ⟨10, [.cell true 1 4],
 .seq (.ops none [⟨(some 2), (.box (.t 0)), none⟩,
 ⟨(some 3), (.box (.t 1)), none⟩,
 ⟨(some 4), (.new [.nils]), none⟩])
 (.seq (.ops (some [0, 0, 2, 6, 15, 31]) [⟨(some 5), (.ld true 1 (.t 2)), none⟩,
 ⟨(some 6), (.ld true 4 (.t 3)), none⟩,
 ⟨(some 7), (.lit 4 1 [(.i .i64 0), (.i .i64 0), (.i .i64 0), (.i .i64 0)] [(0, (.t 6))]), none⟩,
 ⟨(some 8), (.call (.f 46) [(.t 7)]), none⟩,
 ⟨(some 9), (.call (.f 47) [(.t 5), (.t 8)]), none⟩,
 ⟨none, (.st 1 (.t 4) (.t 9)), none⟩])
 (.ret))⟩
theorem F45_ok : prepF Try.prog 45 = some F45 := by kernel_rfl
/-- glazier/band.Of -/
def F46 : AFun := ⟨134, [.cell true 1 2],
 .seq (.ops none [⟨(some 2), (.new [.nils]), none⟩])
 (.seq (.ops none [⟨(some 3), (.mv (.c .nils)), none⟩])
 (.seq (.seq (.ops none [⟨(some 18), (.mv (.t 0)), none⟩,
 ⟨(some 19), (.blen false (.t 18)), none⟩,
 ⟨(some 20), (.mv (.c (.i .i64 0))), none⟩])
 (.block 0 (.loop (.seq (.ops none [⟨(some 21), (.bin .lss (.t 20) (.t 19)), none⟩])
 (.seq (.cond (.t 21)
 (.skip)
 (.exit 0))
 (.seq (.block 1 (.seq (.ops none [⟨(some 22), (.ias 4 (.t 18) (.t 20)), none⟩,
 ⟨(some 23), (.ld true 4 (.t 22)), none⟩,
 ⟨(some 5), (.new [(.i .i64 0), (.i .i64 0), (.i .i64 0), (.i .i64 0)]), none⟩,
 ⟨none, (.st 4 (.t 5) (.t 23)), none⟩])
 (.seq (.ops none [⟨(some 24), (.ld true 4 (.t 5)), none⟩,
 ⟨(some 25), (.call (.f 48) [(.t 24)]), none⟩])
 (.cond (.t 25)
 (.ops none [⟨(some 26), (.mv (.t 3)), none⟩,
 ⟨(some 27), (.ld true 4 (.t 5)), none⟩,
 ⟨(some 28), (.lit 4 1 [(.i .i64 0), (.i .i64 0), (.i .i64 0), (.i .i64 0)] [(0, (.t 27))]), none⟩,
 ⟨(some 29), (.app 4 32 [(.i .i64 0), (.i .i64 0), (.i .i64 0), (.i .i64 0)] (.t 26) (.t 28)), none⟩,
 ⟨(some 3), (.mv (.t 29)), none⟩])
 (.skip)))))
 (.ops none [⟨(some 30), (.bin .add (.t 20) (.c (.i .i64 1))), none⟩,
 ⟨(some 20), (.mv (.t 30)), none⟩])))))))
 (.seq (.ops none [⟨(some 31), (.mv (.t 3)), none⟩,
 ⟨(some 32), (.call (.f 49) [(.t 31), (.f 50)]), none⟩])
 (.seq (.ops none [⟨(some 33), (.mv (.t 3)), none⟩,
 ⟨(some 34), (.call (.f 53) [(.t 33)]), none⟩,
 ⟨(some 6), (.mv (.t 34)), none⟩])
 (.seq (.ops none [⟨(some 7), (.new [.nils]), none⟩,
 ⟨(some 8), (.mv (.c .nils)), none⟩])
 (.seq (.ops none [⟨(some 9), (.mv (.c (.i .i64 0))), none⟩])
 (.seq (.ops none [⟨(some 10), (.mv (.c (.i .i64 0))), none⟩])
 (.seq (.seq (.ops none [⟨(some 11), (.mv (.c (.i .i64 0))), none⟩])
 (.block 2 (.loop (.seq (.seq (.ops none [⟨(some 35), (.mv (.t 11)), none⟩,
 ⟨(some 36), (.bin .add (.t 35) (.c (.i .i64 1))), none⟩,
 ⟨(some 37), (.mv (.t 6)), none⟩,
 ⟨(some 38), (.blen false (.t 37)), none⟩,
 ⟨(some 39), (.bin .lss (.t 36) (.t 38)), none⟩])
 (.cond (.t 39)
 (.skip)
 (.exit 2)))
 (.seq (.block 3 (.seq (.ops (some [0, 0, 3, 7, 0, 0, 32, 112, 240, 0, 0, 1551, 4095]) [⟨(some 42), (.mv (.t 6)), none⟩,
 ⟨(some 43), (.mv (.t 11)), none⟩,
 ⟨(some 44), (.ias 1 (.t 42) (.t 43)), none⟩,
 ⟨(some 45), (.ld false 1 (.t 44)), none⟩,
 ⟨(some 46), (.mv (.t 6)), none⟩,
 ⟨(some 47), (.mv (.t 11)), none⟩,
 ⟨(some 48), (.bin .add (.t 47) (.c (.i .i64 1))), none⟩,
 ⟨(some 49), (.ias 1 (.t 46) (.t 48)), none⟩,
 ⟨(some 50), (.ld false 1 (.t 49)), none⟩,
 ⟨(some 12), (.new [(.i .i64 0)]), none⟩,
 ⟨(some 13), (.new [(.i .i64 0)]), none⟩,
 ⟨none, (.st 1 (.t 12) (.t 45)), none⟩,
 ⟨none, (.st 1 (.t 13) (.t 50)), none⟩])
 (.seq (.ops none [⟨(some 51), (.mv (.t 8)), none⟩,
 ⟨(some 52), (.mkf 55 [] [(.t 12)]), none⟩,
 ⟨(some 53), (.call (.f 54) [(.t 51), (.t 52)]), none⟩,
 ⟨(some 8), (.mv (.t 53)), none⟩])
 (.seq (.ops none [⟨(some 54), (.mv (.t 10)), none⟩,
 ⟨(some 14), (.mv (.t 54)), none⟩])
 (.seq (.block 4 (.loop (.seq (.seq (.ops (some [0, 0, 2, 7, 15, 31, 31, 127, 255, 511, 31, 2047, 4095]) [⟨(some 55), (.mv (.t 10)), none⟩,
 ⟨(some 56), (.mv (.t 3)), none⟩,
 ⟨(some 57), (.blen false (.t 56)), none⟩,
 ⟨(some 58), (.bin .lss (.t 55) (.t 57)), none⟩,
 ⟨(some 59), (.mv (.t 58)), none⟩,
 ⟨(some 60), (.mv (.t 3)), (some ((some 59), true))⟩,
 ⟨(some 61), (.mv (.t 10)), (some ((some 59), true))⟩,
 ⟨(some 62), (.ias 4 (.t 60) (.t 61)), (some ((some 59), true))⟩,
 ⟨(some 63), (.fa 1 (.t 62)), (some ((some 59), true))⟩,
 ⟨(some 64), (.ld false 1 (.t 63)), (some ((some 59), true))⟩,
 ⟨(some 65), (.ld false 1 (.t 12)), (some ((some 59), true))⟩,
 ⟨(some 66), (.bin .eql (.t 64) (.t 65)), (some ((some 59), true))⟩,
 ⟨(some 67), (.pick (.t 59) (.t 66) (.c (.b false))), none⟩])
 (.cond (.t 67)
 (.skip)
 (.exit 4)))
 (.block 5 (.seq (.ops none [⟨(some 68), (.mv (.t 8)), none⟩,
 ⟨(some 69), (.mv (.t 3)), none⟩,
 ⟨(some 70), (.mv (.t 10)), none⟩,
 ⟨(some 71), (.ias 4 (.t 69) (.t 70)), none⟩,
 ⟨(some 72), (.ld true 4 (.t 71)), none⟩,
 ⟨(some 73), (.lit 4 1 [(.i .i64 0), (.i .i64 0), (.i .i64 0), (.i .i64 0)] [(0, (.t 72))]), none⟩,
 ⟨(some 74), (.app 4 32 [(.i .i64 0), (.i .i64 0), (.i .i64 0), (.i .i64 0)] (.t 68) (.t 73)), none⟩,
 ⟨(some 8), (.mv (.t 74)), none⟩])
 (.ops none [⟨(some 75), (.mv (.t 10)), none⟩,
 ⟨(some 76), (.bin .add (.t 75) (.c (.i .i64 1))), none⟩,
 ⟨(some 10), (.mv (.t 76)), none⟩]))))))
 (.seq (.seq (.ops none [⟨(some 77), (.mv (.t 10)), none⟩,
 ⟨(some 78), (.mv (.t 14)), none⟩,
 ⟨(some 79), (.bin .gtr (.t 77) (.t 78)), none⟩])
 (.cond (.t 79)
 (.ops none [⟨(some 80), (.mv (.t 8)), none⟩,
 ⟨(some 81), (.call (.f 49) [(.t 80), (.f 56)]), none⟩])
 (.skip)))
 (.seq (.ops none [⟨(some 82), (.ld false 1 (.t 7)), none⟩,
 ⟨(some 83), (.blen false (.t 82)), none⟩,
 ⟨(some 15), (.mv (.t 83)), none⟩])
 (.seq (.seq (.ops none [⟨(some 84), (.mv (.t 8)), none⟩,
 ⟨(some 85), (.call (.f 57) [(.t 84)]), none⟩])
 (.block 6 (.rangeF (.t 85) [86]
 (.ops none [⟨(some 16), (.new [(.i .i64 0), (.i .i64 0)]), none⟩,
 ⟨none, (.st 2 (.t 16) (.t 86)), none⟩])
 (.block 7 (.ops none [⟨(some 87), (.ld false 1 (.t 7)), none⟩,
 ⟨(some 88), (.fa 0 (.t 16)), none⟩,
 ⟨(some 89), (.ld false 1 (.t 88)), none⟩,
 ⟨(some 90), (.ld false 1 (.t 12)), none⟩,
 ⟨(some 91), (.fa 1 (.t 16)), none⟩,
 ⟨(some 92), (.ld false 1 (.t 91)), none⟩,
 ⟨(some 93), (.fa 0 (.t 16)), none⟩,
 ⟨(some 94), (.ld false 1 (.t 93)), none⟩,
 ⟨(some 95), (.bin .sub (.t 92) (.t 94)), none⟩,
 ⟨(some 96), (.ld false 1 (.t 13)), none⟩,
 ⟨(some 97), (.ld false 1 (.t 12)), none⟩,
 ⟨(some 98), (.bin .sub (.t 96) (.t 97)), none⟩,
 ⟨(some 99), (.build [(.i .i64 0), (.i .i64 0), (.i .i64 0), (.i .i64 0)] [(0, 1, (.t 89)), (1, 1, (.t 90)), (2, 1, (.t 95)), (3, 1, (.t 98))]), none⟩,
 ⟨(some 100), (.lit 4 1 [(.i .i64 0), (.i .i64 0), (.i .i64 0), (.i .i64 0)] [(0, (.t 99))]), none⟩,
 ⟨(some 101), (.app 4 32 [(.i .i64 0), (.i .i64 0), (.i .i64 0), (.i .i64 0)] (.t 87) (.t 100)), none⟩,
 ⟨none, (.st 1 (.t 7) (.t 101)), none⟩])))))
 (.seq (.ops (some [0, 0, 0, 7, 0, 0, 48, 127]) [⟨(some 102), (.ld false 1 (.t 7)), none⟩,
 ⟨(some 103), (.mv (.t 9)), none⟩,
 ⟨(some 104), (.mv (.t 15)), none⟩,
 ⟨(some 105), (.sls 4 (.t 102) (some (.t 103)) (some (.t 104)) none), none⟩,
 ⟨(some 106), (.ld false 1 (.t 7)), none⟩,
 ⟨(some 107), (.mv (.t 15)), none⟩,
 ⟨(some 108), (.sls 4 (.t 106) (some (.t 107)) none none), none⟩,
 ⟨(some 109), (.call (.f 58) [(.t 105), (.t 108)]), none⟩])
 (.cond (.t 109)
 (.seq (.seq (.ops none [⟨(some 110), (.mv (.t 9)), none⟩,
 ⟨(some 17), (.mv (.t 110)), none⟩])
 (.block 8 (.loop (.seq (.seq (.ops none [⟨(some 111), (.mv (.t 17)), none⟩,
 ⟨(some 112), (.mv (.t 15)), none⟩,
 ⟨(some 113), (.bin .lss (.t 111) (.t 112)), none⟩])
 (.cond (.t 113)
 (.skip)
 (.exit 8)))
 (.seq (.block 9 (.ops (some [0, 0, 3, 7, 15, 0, 0, 96, 255, 511, 1023, 2047]) [⟨(some 116), (.ld false 1 (.t 7)), none⟩,
 ⟨(some 117), (.mv (.t 17)), none⟩,
 ⟨(some 118), (.ias 4 (.t 116) (.t 117)), none⟩,
 ⟨(some 119), (.fa 3 (.t 118)), none⟩,
 ⟨(some 120), (.ld false 1 (.t 119)), none⟩,
 ⟨(some 121), (.ld false 1 (.t 13)), none⟩,
 ⟨(some 122), (.ld false 1 (.t 12)), none⟩,
 ⟨(some 123), (.bin .sub (.t 121) (.t 122)), none⟩,
 ⟨(some 124), (.bin .add (.t 120) (.t 123)), none⟩,
 ⟨(some 125), (.ias 4 (.t 116) (.t 117)), none⟩,
 ⟨(some 126), (.fa 3 (.t 125)), none⟩,
 ⟨none, (.st 1 (.t 126) (.t 124)), none⟩]))
 (.ops none [⟨(some 114), (.mv (.t 17)), none⟩,
 ⟨(some 115), (.bin .add (.t 114) (.c (.i .i64 1))), none⟩,
 ⟨(some 17), (.mv (.t 115)), none⟩]))))))
 (.ops none [⟨(some 127), (.ld false 1 (.t 7)), none⟩,
 ⟨(some 128), (.mv (.t 15)), none⟩,
 ⟨(some 129), (.sls 4 (.t 127) none (some (.t 128)) none), none⟩,
 ⟨none, (.st 1 (.t 7) (.t 129)), none⟩]))
 (.ops none [⟨(some 130), (.mv (.t 15)), none⟩,
 ⟨(some 9), (.mv (.t 130)), none⟩])))))))))))
 (.ops none [⟨(some 40), (.mv (.t 11)), none⟩,
 ⟨(some 41), (.bin .add (.t 40) (.c (.i .i64 1))), none⟩,
 ⟨(some 11), (.mv (.t 41)), none⟩]))))))
 (.seq (.ops none [⟨(some 131), (.ld false 1 (.t 7)), none⟩,
 ⟨(some 132), (.call (.f 59) [(.t 131)]), none⟩,
 ⟨(some 133), (.build [.nils] [(0, 1, (.t 132))]), none⟩,
 ⟨none, (.st 1 (.t 2) (.t 133)), none⟩])
 (.ret))))))))))⟩
theorem F46_ok : prepF Try.prog 46 = some F46 := by kernel_rfl
/-- glazier/region.Meet -/
def F47 : AFun := ⟨9, [.cell true 1 4],
 .seq (.ops none [⟨(some 2), (.box (.t 0)), none⟩,
 ⟨(some 3), (.box (.t 1)), none⟩,
 ⟨(some 4), (.new [.nils]), none⟩])
 (.seq (.ops none [⟨(some 5), (.build [.nilf] [(0, 1, (.f 60))]), none⟩,
 ⟨(some 6), (.ld true 1 (.t 2)), none⟩,
 ⟨(some 7), (.ld true 1 (.t 3)), none⟩,
 ⟨(some 8), (.call (.f 61) [(.t 5), (.t 6), (.t 7)]), none⟩,
 ⟨none, (.st 1 (.t 4) (.t 8)), none⟩])
 (.ret))⟩
theorem F47_ok : prepF Try.prog 47 = some F47 := by kernel_rfl
/-- glazier/band.counts -/
def F48 : AFun := ⟨15, [.t 2],
 .seq (.ops none [⟨(some 1), (.box (.t 0)), none⟩,
 ⟨(some 2), (.mv (.c (.b false))), none⟩])
 (.seq (.ops none [⟨(some 3), (.fa 0 (.t 1)), none⟩,
 ⟨(some 4), (.ld false 1 (.t 3)), none⟩,
 ⟨(some 5), (.fa 2 (.t 1)), none⟩,
 ⟨(some 6), (.ld false 1 (.t 5)), none⟩,
 ⟨(some 7), (.call (.f 62) [(.t 4), (.t 6)]), none⟩,
 ⟨(some 8), (.mv (.t 7)), none⟩,
 ⟨(some 9), (.fa 1 (.t 1)), (some ((some 8), true))⟩,
 ⟨(some 10), (.ld false 1 (.t 9)), (some ((some 8), true))⟩,
 ⟨(some 11), (.fa 3 (.t 1)), (some ((some 8), true))⟩,
 ⟨(some 12), (.ld false 1 (.t 11)), (some ((some 8), true))⟩,
 ⟨(some 13), (.call (.f 62) [(.t 10), (.t 12)]), (some ((some 8), true))⟩,
 ⟨(some 14), (.pick (.t 8) (.t 13) (.c (.b false))), none⟩,
 ⟨(some 2), (.mv (.t 14)), none⟩])
 (.ret))⟩
theorem F48_ok : prepF Try.prog 48 = some F48 := by kernel_rfl
/-- slices.SortFunc[[]glazier/api.Rect,glazier/api.Rect] -/
def F49 : AFun := ⟨14, [],
 .seq (.ops none [⟨(some 5), (.mv (.t 0)), none⟩,
 ⟨(some 6), (.blen false (.t 5)), none⟩,
 ⟨(some 4), (.mv (.t 6)), none⟩])
 (.ops none [⟨(some 7), (.mv (.t 0)), none⟩,
 ⟨(some 8), (.mv (.t 4)), none⟩,
 ⟨(some 9), (.mv (.t 4)), none⟩,
 ⟨(some 10), (.conv .u64 (.t 9)), none⟩,
 ⟨(some 11), (.call (.f 64) [(.t 10)]), none⟩,
 ⟨(some 12), (.mv (.t 1)), none⟩,
 ⟨(some 13), (.call (.f 63) [(.t 7), (.c (.i .i64 0)), (.t 8), (.t 11), (.t 12)]), none⟩])⟩
theorem F49_ok : prepF Try.prog 49 = some F49 := by kernel_rfl
/-- glazier/band.Of$1 -/
def F50 : AFun := ⟨17, [.t 4],
 .seq (.ops none [⟨(some 2), (.box (.t 0)), none⟩,
 ⟨(some 3), (.box (.t 1)), none⟩,
 ⟨(some 4), (.mv (.c (.i .i64 0))), none⟩])
 (.seq (.ops (some [0, 1, 0, 4, 15, 0, 32, 0, 128, 511, 1023, 2047, 4095]) [⟨(some 5), (.fa 1 (.t 2)), none⟩,
 ⟨(some 6), (.ld false 1 (.t 5)), none⟩,
 ⟨(some 7), (.fa 1 (.t 3)), none⟩,
 ⟨(some 8), (.ld false 1 (.t 7)), none⟩,
 ⟨(some 9), (.call (.f 52) [(.t 6), (.t 8)]), none⟩,
 ⟨(some 10), (.fa 0 (.t 2)), none⟩,
 ⟨(some 11), (.ld false 1 (.t 10)), none⟩,
 ⟨(some 12), (.fa 0 (.t 3)), none⟩,
 ⟨(some 13), (.ld false 1 (.t 12)), none⟩,
 ⟨(some 14), (.call (.f 52) [(.t 11), (.t 13)]), none⟩,
 ⟨(some 15), (.lit 1 2 [(.i .i64 0), (.i .i64 0)] [(0, (.t 9)), (1, (.t 14))]), none⟩,
 ⟨(some 16), (.call (.f 51) [(.t 15)]), none⟩,
 ⟨(some 4), (.mv (.t 16)), none⟩])
 (.ret))⟩
theorem F50_ok : prepF Try.prog 50 = some F50 := by kernel_rfl
/-- cmp.Or[int] -/
def F51 : AFun := ⟨18, [.t 2],
 .seq (.ops none [⟨(some 2), (.mv (.c (.i .i64 0))), none⟩])
 (.seq (.ops none [⟨(some 3), (.mv (.c (.i .i64 0))), none⟩])
 (.seq (.seq (.ops none [⟨(some 6), (.mv (.t 0)), none⟩,
 ⟨(some 7), (.blen false (.t 6)), none⟩,
 ⟨(some 8), (.mv (.c (.i .i64 0))), none⟩])
 (.block 0 (.loop (.seq (.ops none [⟨(some 9), (.bin .lss (.t 8) (.t 7)), none⟩])
 (.seq (.cond (.t 9)
 (.skip)
 (.exit 0))
 (.seq (.block 1 (.seq (.ops none [⟨(some 10), (.ias 1 (.t 6) (.t 8)), none⟩,
 ⟨(some 11), (.ld false 1 (.t 10)), none⟩,
 ⟨(some 5), (.mv (.t 11)), none⟩])
 (.seq (.ops none [⟨(some 12), (.mv (.t 5)), none⟩,
 ⟨(some 13), (.mv (.t 3)), none⟩,
 ⟨(some 14), (.bin .neq (.t 12) (.t 13)), none⟩])
 (.cond (.t 14)
 (.seq (.ops none [⟨(some 15), (.mv (.t 5)), none⟩,
 ⟨(some 2), (.mv (.t 15)), none⟩])
 (.ret))
 (.skip)))))
 (.ops none [⟨(some 16), (.bin .add (.t 8) (.c (.i .i64 1))), none⟩,
 ⟨(some 8), (.mv (.t 16)), none⟩])))))))
 (.seq (.ops none [⟨(some 17), (.mv (.t 3)), none⟩,
 ⟨(some 2), (.mv (.t 17)), none⟩])
 (.ret))))⟩
theorem F51_ok : prepF Try.prog 51 = some F51 := by kernel_rfl
/-- cmp.Compare[int] -/
def F52 : AFun := ⟨20, [.t 4],
 .seq (.ops none [⟨(some 4), (.mv (.c (.i .i64 0))), none⟩])
 (.seq (.ops none [⟨(some 7), (.mv (.t 0)), none⟩,
 ⟨(some 8), (.call (.f 65) [(.t 7)]), none⟩,
 ⟨(some 5), (.mv (.t 8)), none⟩])
 (.seq (.ops none [⟨(some 9), (.mv (.t 1)), none⟩,
 ⟨(some 10), (.call (.f 65) [(.t 9)]), none⟩,
 ⟨(some 6), (.mv (.t 10)), none⟩])
 (.seq (.seq (.ops none [⟨(some 11), (.mv (.t 5)), none⟩])
 (.cond (.t 11)
 (.seq (.seq (.ops none [⟨(some 12), (.mv (.t 6)), none⟩])
 (.cond (.t 12)
 (.seq (.ops none [⟨(some 4), (.mv (.c (.i .i64 0))), none⟩])
 (.ret))
 (.skip)))
 (.seq (.ops none [⟨(some 4), (.mv (.c (.i .i64 (-1)))), none⟩])
 (.ret)))
 (.skip)))
 (.seq (.seq (.ops none [⟨(some 13), (.mv (.t 6)), none⟩])
 (.cond (.t 13)
 (.seq (.ops none [⟨(some 4), (.mv (.c (.i .i64 1))), none⟩])
 (.ret))
 (.skip)))
 (.seq (.seq (.ops none [⟨(some 14), (.mv (.t 0)), none⟩,
 ⟨(some 15), (.mv (.t 1)), none⟩,
 ⟨(some 16), (.bin .lss (.t 14) (.t 15)), none⟩])
 (.cond (.t 16)
 (.seq (.ops none [⟨(some 4), (.mv (.c (.i .i64 (-1)))), none⟩])
 (.ret))
 (.skip)))
 (.seq (.seq (.ops none [⟨(some 17), (.mv (.t 0)), none⟩,
 ⟨(some 18), (.mv (.t 1)), none⟩,
 ⟨(some 19), (.bin .gtr (.t 17) (.t 18)), none⟩])
 (.cond (.t 19)
 (.seq (.ops none [⟨(some 4), (.mv (.c (.i .i64 1))), none⟩])
 (.ret))
 (.skip)))
 (.seq (.ops none [⟨(some 4), (.mv (.c (.i .i64 0))), none⟩])
 (.ret))))))))⟩
theorem F52_ok : prepF Try.prog 52 = some F52 := by kernel_rfl
/-- glazier/band.edges -/
def F53 : AFun := ⟨31, [.t 2],
 .seq (.ops none [⟨(some 2), (.mv (.c .nils)), none⟩])
 (.seq (.ops none [⟨(some 6), (.mv (.t 0)), none⟩,
 ⟨(some 7), (.blen false (.t 6)), none⟩,
 ⟨(some 8), (.bin .mul (.c (.i .i64 2)) (.t 7)), none⟩,
 ⟨(some 9), (.mks 1 8 [(.i .i64 0)] (.c (.i .i64 0)) (.t 8)), none⟩,
 ⟨(some 3), (.mv (.t 9)), none⟩])
 (.seq (.seq (.ops none [⟨(some 10), (.mv (.t 0)), none⟩,
 ⟨(some 11), (.blen false (.t 10)), none⟩,
 ⟨(some 12), (.mv (.c (.i .i64 0))), none⟩])
 (.block 0 (.loop (.seq (.ops none [⟨(some 13), (.bin .lss (.t 12) (.t 11)), none⟩])
 (.seq (.cond (.t 13)
 (.skip)
 (.exit 0))
 (.seq (.block 1 (.seq (.ops none [⟨(some 14), (.ias 4 (.t 10) (.t 12)), none⟩,
 ⟨(some 15), (.ld true 4 (.t 14)), none⟩,
 ⟨(some 5), (.new [(.i .i64 0), (.i .i64 0), (.i .i64 0), (.i .i64 0)]), none⟩,
 ⟨none, (.st 4 (.t 5) (.t 15)), none⟩])
 (.ops none [⟨(some 16), (.mv (.t 3)), none⟩,
 ⟨(some 17), (.fa 1 (.t 5)), none⟩,
 ⟨(some 18), (.ld false 1 (.t 17)), none⟩,
 ⟨(some 19), (.fa 1 (.t 5)), none⟩,
 ⟨(some 20), (.ld false 1 (.t 19)), none⟩,
 ⟨(some 21), (.fa 3 (.t 5)), none⟩,
 ⟨(some 22), (.ld false 1 (.t 21)), none⟩,
 ⟨(some 23), (.bin .add (.t 20) (.t 22)), none⟩,
 ⟨(some 24), (.lit 1 2 [(.i .i64 0), (.i .i64 0)] [(0, (.t 18)), (1, (.t 23))]), none⟩,
 ⟨(some 25), (.app 1 8 [(.i .i64 0)] (.t 16) (.t 24)), none⟩,
 ⟨(some 3), (.mv (.t 25)), none⟩])))
 (.ops none [⟨(some 26), (.bin .add (.t 12) (.c (.i .i64 1))), none⟩,
 ⟨(some 12), (.mv (.t 26)), none⟩])))))))
 (.seq (.ops none [⟨(some 27), (.mv (.t 3)), none⟩,
 ⟨(some 28), (.call (.f 66) [(.t 27)]), none⟩])
 (.seq (.ops none [⟨(some 29), (.mv (.t 3)), none⟩,
 ⟨(some 30), (.call (.f 67) [(.t 29)]), none⟩,
 ⟨(some 2), (.mv (.t 30)), none⟩])
 (.ret)))))⟩
theorem F53_ok : prepF Try.prog 53 = some F53 := by kernel_rfl
/-- slices.DeleteFunc[[]glazier/api.Rect,glazier/api.Rect] -/
def F54 : AFun := ⟨42, [.t 4],
 .seq (.ops none [⟨(some 4), (.mv (.c .nils)), none⟩])
 (.seq (.ops none [⟨(some 8), (.mv (.t 0)), none⟩,
 ⟨(some 9), (.mv (.t 1)), none⟩,
 ⟨(some 10), (.call (.f 68) [(.t 8), (.t 9)]), none⟩,
 ⟨(some 5), (.mv (.t 10)), none⟩])
 (.seq (.seq (.ops none [⟨(some 11), (.mv (.t 5)), none⟩,
 ⟨(some 12), (.bin .eql (.t 11) (.c (.i .i64 (-1)))), none⟩])
 (.cond (.t 12)
 (.seq (.ops none [⟨(some 13), (.mv (.t 0)), none⟩,
 ⟨(some 4), (.mv (.t 13)), none⟩])
 (.ret))
 (.skip)))
 (.seq (.seq (.ops none [⟨(some 14), (.mv (.t 5)), none⟩,
 ⟨(some 15), (.bin .add (.t 14) (.c (.i .i64 1))), none⟩,
 ⟨(some 6), (.mv (.t 15)), none⟩])
 (.block 0 (.loop (.seq (.seq (.ops none [⟨(some 16), (.mv (.t 6)), none⟩,
 ⟨(some 17), (.mv (.t 0)), none⟩,
 ⟨(some 18), (.blen false (.t 17)), none⟩,
 ⟨(some 19), (.bin .lss (.t 16) (.t 18)), none⟩])
 (.cond (.t 19)
 (.skip)
 (.exit 0)))
 (.seq (.block 1 (.seq (.ops none [⟨(some 22), (.mv (.t 0)), none⟩,
 ⟨(some 23), (.mv (.t 6)), none⟩,
 ⟨(some 24), (.ias 4 (.t 22) (.t 23)), none⟩,
 ⟨(some 25), (.ld true 4 (.t 24)), none⟩,
 ⟨(some 7), (.new [(.i .i64 0), (.i .i64 0), (.i .i64 0), (.i .i64 0)]), none⟩,
 ⟨none, (.st 4 (.t 7) (.t 25)), none⟩])
 (.seq (.ops none [⟨(some 26), (.mv (.t 1)), none⟩,
 ⟨(some 27), (.ld true 4 (.t 7)), none⟩,
 ⟨(some 28), (.call (.t 26) [(.t 27)]), none⟩,
 ⟨(some 29), (.un .not (.t 28)), none⟩])
 (.cond (.t 29)
 (.seq (.ops none [⟨(some 30), (.mv (.t 0)), none⟩,
 ⟨(some 31), (.mv (.t 5)), none⟩,
 ⟨(some 32), (.ld true 4 (.t 7)), none⟩,
 ⟨(some 33), (.ias 4 (.t 30) (.t 31)), none⟩,
 ⟨none, (.st 4 (.t 33) (.t 32)), none⟩])
 (.ops none [⟨(some 34), (.mv (.t 5)), none⟩,
 ⟨(some 35), (.bin .add (.t 34) (.c (.i .i64 1))), none⟩,
 ⟨(some 5), (.mv (.t 35)), none⟩]))
 (.skip)))))
 (.ops none [⟨(some 20), (.mv (.t 6)), none⟩,
 ⟨(some 21), (.bin .add (.t 20) (.c (.i .i64 1))), none⟩,
 ⟨(some 6), (.mv (.t 21)), none⟩]))))))
 (.seq (.ops none [⟨(some 36), (.mv (.t 0)), none⟩,
 ⟨(some 37), (.mv (.t 5)), none⟩,
 ⟨(some 38), (.sls 4 (.t 36) (some (.t 37)) none none), none⟩,
 ⟨none, (.clr 4 [(.i .i64 0), (.i .i64 0), (.i .i64 0), (.i .i64 0)] (.t 38)), none⟩])
 (.seq (.ops none [⟨(some 39), (.mv (.t 0)), none⟩,
 ⟨(some 40), (.mv (.t 5)), none⟩,
 ⟨(some 41), (.sls 4 (.t 39) none (some (.t 40)) none), none⟩,
 ⟨(some 4), (.mv (.t 41)), none⟩])
 (.ret))))))⟩
theorem F54_ok : prepF Try.prog 54 = some F54 := by kernel_rfl
/-- glazier/band.Of$2 -/
def F55 : AFun := ⟨11, [.t 3],
 .seq (.ops none [⟨(some 2), (.box (.t 0)), none⟩,
 ⟨(some 3), (.mv (.c (.b false))), none⟩])
 (.seq (.ops none [⟨(some 4), (.fa 1 (.t 2)), none⟩,
 ⟨(some 5), (.ld false 1 (.t 4)), none⟩,
 ⟨(some 6), (.fa 3 (.t 2)), none⟩,
 ⟨(some 7), (.ld false 1 (.t 6)), none⟩,
 ⟨(some 8), (.bin .add (.t 5) (.t 7)), none⟩,
 ⟨(some 9), (.ld false 1 (.t 1)), none⟩,
 ⟨(some 10), (.bin .leq (.t 8) (.t 9)), none⟩,
 ⟨(some 3), (.mv (.t 10)), none⟩])
 (.ret))⟩
theorem F55_ok : prepF Try.prog 55 = some F55 := by kernel_rfl
/-- glazier/band.Of$3 -/
def F56 : AFun := ⟨10, [.t 4],
 .seq (.ops none [⟨(some 2), (.box (.t 0)), none⟩,
 ⟨(some 3), (.box (.t 1)), none⟩,
 ⟨(some 4), (.mv (.c (.i .i64 0))), none⟩])
 (.seq (.ops none [⟨(some 5), (.fa 0 (.t 2)), none⟩,
 ⟨(some 6), (.ld false 1 (.t 5)), none⟩,
 ⟨(some 7), (.fa 0 (.t 3)), none⟩,
 ⟨(some 8), (.ld false 1 (.t 7)), none⟩,
 ⟨(some 9), (.call (.f 52) [(.t 6), (.t 8)]), none⟩,
 ⟨(some 4), (.mv (.t 9)), none⟩])
 (.ret))⟩
theorem F56_ok : prepF Try.prog 56 = some F56 := by kernel_rfl
/-- glazier/band.spans -/
def F57 : AFun := ⟨4, [.t 2],
 .seq (.ops none [⟨(some 1), (.box (.t 0)), none⟩,
 ⟨(some 2), (.mv (.c .nilf)), none⟩])
 (.seq (.ops none [⟨(some 3), (.mkf 69 [] [(.t 1)]), none⟩,
 ⟨(some 2), (.mv (.t 3)), none⟩])
 (.ret))⟩
theorem F57_ok : prepF Try.prog 57 = some F57 := by kernel_rfl
/-- glazier/band.alike -/
def F58 : AFun := ⟨13, [.t 4],
 .seq (.ops none [⟨(some 4), (.mv (.c (.b false))), none⟩])
 (.seq (.ops none [⟨(some 5), (.mv (.t 0)), none⟩,
 ⟨(some 6), (.blen false (.t 5)), none⟩,
 ⟨(some 7), (.bin .gtr (.t 6) (.c (.i .i64 0))), none⟩,
 ⟨(some 8), (.mv (.t 7)), none⟩,
 ⟨(some 9), (.mv (.t 0)), (some ((some 8), true))⟩,
 ⟨(some 10), (.mv (.t 1)), (some ((some 8), true))⟩,
 ⟨(some 11), (.call (.f 70) [(.t 9), (.t 10), (.f 71)]), (some ((some 8), true))⟩,
 ⟨(some 12), (.pick (.t 8) (.t 11) (.c (.b false))), none⟩,
 ⟨(some 4), (.mv (.t 12)), none⟩])
 (.ret))⟩
theorem F58_ok : prepF Try.prog 58 = some F58 := by kernel_rfl
/-- slices.Clip[[]glazier/api.Rect,glazier/api.Rect] -/
def F59 : AFun := ⟨9, [.t 2],
 .seq (.ops none [⟨(some 2), (.mv (.c .nils)), none⟩])
 (.seq (.ops none [⟨(some 3), (.mv (.t 0)), none⟩,
 ⟨(some 4), (.mv (.t 0)), none⟩,
 ⟨(some 5), (.blen false (.t 4)), none⟩,
 ⟨(some 6), (.mv (.t 0)), none⟩,
 ⟨(some 7), (.blen false (.t 6)), none⟩,
 ⟨(some 8), (.sls 4 (.t 3) none (some (.t 5)) (some (.t 7))), none⟩,
 ⟨(some 2), (.mv (.t 8)), none⟩])
 (.ret))⟩
theorem F59_ok : prepF Try.prog 59 = some F59 := by kernel_rfl
/-- glazier/region.Meet$1 -/
def F60 : AFun := ⟨9, [.t 4],
 .seq (.ops none [⟨(some 4), (.mv (.c (.b false))), none⟩])
 (.seq (.ops none [⟨(some 5), (.mv (.t 0)), none⟩,
 ⟨(some 6), (.mv (.t 5)), none⟩,
 ⟨(some 7), (.mv (.t 1)), (some ((some 6), true))⟩,
 ⟨(some 8), (.pick (.t 6) (.t 7) (.c (.b false))), none⟩,
 ⟨(some 4), (.mv (.t 8)), none⟩])
 (.ret))⟩
theorem F60_ok : prepF Try.prog 60 = some F60 := by kernel_rfl
/-- (glazier/region.rule).join -/
def F61 : AFun := ⟨101, [.cell true 1 6],
 .seq (.ops none [⟨(some 3), (.box (.t 0)), none⟩,
 ⟨(some 4), (.box (.t 1)), none⟩,
 ⟨(some 5), (.box (.t 2)), none⟩,
 ⟨(some 6), (.new [.nils]), none⟩])
 (.seq (.ops (some [0, 1, 0, 7, 15, 31]) [⟨(some 22), (.ld true 1 (.t 4)), none⟩,
 ⟨(some 23), (.call (.f 72) [(.t 22)]), none⟩,
 ⟨(some 24), (.ld true 1 (.t 5)), none⟩,
 ⟨(some 25), (.call (.f 72) [(.t 24)]), none⟩,
 ⟨(some 7), (.mv (.t 23)), none⟩,
 ⟨(some 8), (.mv (.t 25)), none⟩])
 (.seq (.ops none [⟨(some 26), (.mv (.t 7)), none⟩,
 ⟨(some 27), (.mv (.t 8)), none⟩,
 ⟨(some 28), (.lit 1 2 [.nils, .nils] [(0, (.t 26)), (1, (.t 27))]), none⟩,
 ⟨(some 29), (.call (.f 73) [(.f 74), (.t 28)]), none⟩,
 ⟨(some 9), (.mv (.t 29)), none⟩])
 (.seq (.ops none [⟨(some 30), (.mv (.t 7)), none⟩,
 ⟨(some 31), (.build [.nils] [(0, 1, (.t 30))]), none⟩,
 ⟨(some 32), (.mv (.t 8)), none⟩,
 ⟨(some 33), (.build [.nils] [(0, 1, (.t 32))]), none⟩,
 ⟨(some 10), (.new [.nils]), none⟩,
 ⟨(some 11), (.new [.nils]), none⟩,
 ⟨none, (.st 1 (.t 10) (.t 31)), none⟩,
 ⟨none, (.st 1 (.t 11) (.t 33)), none⟩])
 (.seq (.ops none [⟨(some 12), (.mv (.c .nils)), none⟩])
 (.seq (.seq (.ops none [⟨(some 13), (.mv (.c (.i .i64 0))), none⟩])
 (.block 0 (.loop (.seq (.seq (.ops none [⟨(some 34), (.mv (.t 13)), none⟩,
 ⟨(some 35), (.bin .add (.t 34) (.c (.i .i64 1))), none⟩,
 ⟨(some 36), (.mv (.t 9)), none⟩,
 ⟨(some 37), (.blen false (.t 36)), none⟩,
 ⟨(some 38), (.bin .lss (.t 35) (.t 37)), none⟩])
 (.cond (.t 38)
 (.skip)
 (.exit 0)))
 (.seq (.block 1 (.seq (.ops (some [0, 0, 3, 7, 0, 0, 32, 112, 240, 0, 0, 1536, 3584, 8176, 15, 32767]) [⟨(some 41), (.mv (.t 9)), none⟩,
 ⟨(some 42), (.mv (.t 13)), none⟩,
 ⟨(some 43), (.ias 1 (.t 41) (.t 42)), none⟩,
 ⟨(some 44), (.ld false 1 (.t 43)), none⟩,
 ⟨(some 45), (.mv (.t 9)), none⟩,
 ⟨(some 46), (.mv (.t 13)), none⟩,
 ⟨(some 47), (.bin .add (.t 46) (.c (.i .i64 1))), none⟩,
 ⟨(some 48), (.ias 1 (.t 45) (.t 47)), none⟩,
 ⟨(some 49), (.ld false 1 (.t 48)), none⟩,
 ⟨(some 50), (.mv (.t 9)), none⟩,
 ⟨(some 51), (.mv (.t 13)), none⟩,
 ⟨(some 52), (.ias 1 (.t 50) (.t 51)), none⟩,
 ⟨(some 53), (.ld false 1 (.t 52)), none⟩,
 ⟨(some 54), (.bin .sub (.t 49) (.t 53)), none⟩,
 ⟨(some 14), (.mv (.t 44)), none⟩,
 ⟨(some 15), (.mv (.t 54)), none⟩])
 (.seq (.ops none [⟨(some 55), (.mv (.t 14)), none⟩,
 ⟨(some 56), (.call (.f 75) [(.t 10), (.t 55)]), none⟩,
 ⟨(some 57), (.mv (.t 14)), none⟩,
 ⟨(some 58), (.call (.f 75) [(.t 11), (.t 57)]), none⟩,
 ⟨(some 16), (.new [.nils]), none⟩,
 ⟨(some 17), (.new [.nils]), none⟩,
 ⟨none, (.st 1 (.t 16) (.t 56)), none⟩,
 ⟨none, (.st 1 (.t 17) (.t 58)), none⟩])
 (.seq (.ops none [⟨(some 59), (.ld false 1 (.t 16)), none⟩,
 ⟨(some 60), (.ld false 1 (.t 17)), none⟩,
 ⟨(some 61), (.lit 1 2 [.nils, .nils] [(0, (.t 59)), (1, (.t 60))]), none⟩,
 ⟨(some 62), (.call (.f 73) [(.f 76), (.t 61)]), none⟩,
 ⟨(some 18), (.mv (.t 62)), none⟩])
 (.seq (.ops none [⟨(some 19), (.mv (.c (.i .i64 0))), none⟩])
 (.block 2 (.loop (.seq (.seq (.ops none [⟨(some 63), (.mv (.t 19)), none⟩,
 ⟨(some 64), (.bin .add (.t 63) (.c (.i .i64 1))), none⟩,
 ⟨(some 65), (.mv (.t 18)), none⟩,
 ⟨(some 66), (.blen false (.t 65)), none⟩,
 ⟨(some 67), (.bin .lss (.t 64) (.t 66)), none⟩])
 (.cond (.t 67)
 (.skip)
 (.exit 2)))
 (.seq (.block 3 (.seq (.ops (some [0, 0, 3, 7, 0, 0, 32, 112, 240, 0, 0, 1536, 3584, 8176, 15, 32767]) [⟨(some 70), (.mv (.t 18)), none⟩,
 ⟨(some 71), (.mv (.t 19)), none⟩,
 ⟨(some 72), (.ias 1 (.t 70) (.t 71)), none⟩,
 ⟨(some 73), (.ld false 1 (.t 72)), none⟩,
 ⟨(some 74), (.mv (.t 18)), none⟩,
 ⟨(some 75), (.mv (.t 19)), none⟩,
 ⟨(some 76), (.bin .add (.t 75) (.c (.i .i64 1))), none⟩,
 ⟨(some 77), (.ias 1 (.t 74) (.t 76)), none⟩,
 ⟨(some 78), (.ld false 1 (.t 77)), none⟩,
 ⟨(some 79), (.mv (.t 18)), none⟩,
 ⟨(some 80), (.mv (.t 19)), none⟩,
 ⟨(some 81), (.ias 1 (.t 79) (.t 80)), none⟩,
 ⟨(some 82), (.ld false 1 (.t 81)), none⟩,
 ⟨(some 83), (.bin .sub (.t 78) (.t 82)), none⟩,
 ⟨(some 20), (.mv (.t 73)), none⟩,
 ⟨(some 21), (.mv (.t 83)), none⟩])
 (.seq (.ops (some [0, 1, 0, 4, 0, 28, 63]) [⟨(some 84), (.fa 0 (.t 3)), none⟩,
 ⟨(some 85), (.ld false 1 (.t 84)), none⟩,
 ⟨(some 86), (.mv (.t 20)), none⟩,
 ⟨(some 87), (.call (.f 77) [(.t 16), (.t 86)]), none⟩,
 ⟨(some 88), (.mv (.t 20)), none⟩,
 ⟨(some 89), (.call (.f 77) [(.t 17), (.t 88)]), none⟩,
 ⟨(some 90), (.call (.t 85) [(.t 87), (.t 89)]), none⟩])
 (.cond (.t 90)
 (.ops none [⟨(some 91), (.mv (.t 12)), none⟩,
 ⟨(some 92), (.mv (.t 20)), none⟩,
 ⟨(some 93), (.mv (.t 14)), none⟩,
 ⟨(some 94), (.mv (.t 21)), none⟩,
 ⟨(some 95), (.mv (.t 15)), none⟩,
 ⟨(some 96), (.build [(.i .i64 0), (.i .i64 0), (.i .i64 0), (.i .i64 0)] [(0, 1, (.t 92)), (1, 1, (.t 93)), (2, 1, (.t 94)), (3, 1, (.t 95))]), none⟩,
 ⟨(some 97), (.lit 4 1 [(.i .i64 0), (.i .i64 0), (.i .i64 0), (.i .i64 0)] [(0, (.t 96))]), none⟩,
 ⟨(some 98), (.app 4 32 [(.i .i64 0), (.i .i64 0), (.i .i64 0), (.i .i64 0)] (.t 91) (.t 97)), none⟩,
 ⟨(some 12), (.mv (.t 98)), none⟩])
 (.skip)))))
 (.ops none [⟨(some 68), (.mv (.t 19)), none⟩,
 ⟨(some 69), (.bin .add (.t 68) (.c (.i .i64 1))), none⟩,
 ⟨(some 19), (.mv (.t 69)), none⟩]))))))))))
 (.ops none [⟨(some 39), (.mv (.t 13)), none⟩,
 ⟨(some 40), (.bin .add (.t 39) (.c (.i .i64 1))), none⟩,
 ⟨(some 13), (.mv (.t 40)), none⟩]))))))
 (.seq (.ops none [⟨(some 99), (.mv (.t 12)), none⟩,
 ⟨(some 100), (.call (.f 46) [(.t 99)]), none⟩,
 ⟨none, (.st 1 (.t 6) (.t 100)), none⟩])
 (.ret)))))))⟩
theorem F61_ok : prepF Try.prog 61 = some F61 := by kernel_rfl
/-- glazier/band.fits -/
def F62 : AFun := ⟨17, [.t 4],
 .seq (.ops none [⟨(some 4), (.mv (.c (.b false))), none⟩])
 (.seq (.ops none [⟨(some 5), (.mv (.t 0)), none⟩,
 ⟨(some 6), (.bin .geq (.t 5) (.c (.i .i64 (-1048576)))), none⟩,
 ⟨(some 7), (.mv (.t 6)), none⟩,
 ⟨(some 8), (.mv (.t 1)), (some ((some 7), true))⟩,
 ⟨(some 9), (.bin .gtr (.t 8) (.c (.i .i64 0))), (some ((some 7), true))⟩,
 ⟨(some 10), (.pick (.t 7) (.t 9) (.c (.b false))), none⟩,
 ⟨(some 11), (.mv (.t 10)), none⟩,
 ⟨(some 12), (.mv (.t 1)), (some ((some 11), true))⟩,
 ⟨(some 13), (.mv (.t 0)), (some ((some 11), true))⟩,
 ⟨(some 14), (.bin .sub (.c (.i .i64 1048576)) (.t 13)), (some ((some 11), true))⟩,
 ⟨(some 15), (.bin .leq (.t 12) (.t 14)), (some ((some 11), true))⟩,
 ⟨(some 16), (.pick (.t 11) (.t 15) (.c (.b false))), none⟩,
 ⟨(some 4), (.mv (.t 16)), none⟩])
 (.ret))⟩
theorem F62_ok : prepF Try.prog 62 = some F62 := by kernel_rfl
/-- slices.pdqsortCmpFunc[glazier/api.Rect] -/
def F63 : AFun := ⟨148, [],
 .seq (.ops none [⟨(some 10), (.mv (.c (.b true))), none⟩])
 (.seq (.ops none [⟨(some 11), (.mv (.c (.b true))), none⟩])
 (.block 0 (.loop (.block 1 (.seq (.ops none [⟨(some 21), (.mv (.t 2)), none⟩,
 ⟨(some 22), (.mv (.t 1)), none⟩,
 ⟨(some 23), (.bin .sub (.t 21) (.t 22)), none⟩,
 ⟨(some 12), (.mv (.t 23)), none⟩])
 (.seq (.seq (.ops none [⟨(some 24), (.mv (.t 12)), none⟩,
 ⟨(some 25), (.bin .leq (.t 24) (.c (.i .i64 12))), none⟩])
 (.cond (.t 25)
 (.seq (.ops none [⟨(some 26), (.mv (.t 0)), none⟩,
 ⟨(some 27), (.mv (.t 1)), none⟩,
 ⟨(some 28), (.mv (.t 2)), none⟩,
 ⟨(some 29), (.mv (.t 4)), none⟩,
 ⟨(some 30), (.call (.f 78) [(.t 26), (.t 27), (.t 28), (.t 29)]), none⟩])
 (.ret))
 (.skip)))
 (.seq (.seq (.ops none [⟨(some 31), (.mv (.t 3)), none⟩,
 ⟨(some 32), (.bin .eql (.t 31) (.c (.i .i64 0))), none⟩])
 (.cond (.t 32)
 (.seq (.ops none [⟨(some 33), (.mv (.t 0)), none⟩,
 ⟨(some 34), (.mv (.t 1)), none⟩,
 ⟨(some 35), (.mv (.t 2)), none⟩,
 ⟨(some 36), (.mv (.t 4)), none⟩,
 ⟨(some 37), (.call (.f 79) [(.t 33), (.t 34), (.t 35), (.t 36)]), none⟩])
 (.ret))
 (.skip)))
 (.seq (.seq (.ops none [⟨(some 38), (.mv (.t 10)), none⟩,
 ⟨(some 39), (.un .not (.t 38)), none⟩])
 (.cond (.t 39)
 (.seq (.ops none [⟨(some 40), (.mv (.t 0)), none⟩,
 ⟨(some 41), (.mv (.t 1)), none⟩,
 ⟨(some 42), (.mv (.t 2)), none⟩,
 ⟨(some 43), (.mv (.t 4)), none⟩,
 ⟨(some 44), (.call (.f 80) [(.t 40), (.t 41), (.t 42), (.t 43)]), none⟩])
 (.ops none [⟨(some 45), (.mv (.t 3)), none⟩,
 ⟨(some 46), (.bin .sub (.t 45) (.c (.i .i64 1))), none⟩,
 ⟨(some 3), (.mv (.t 46)), none⟩]))
 (.skip)))
 (.seq (.ops none [⟨(some 48), (.mv (.t 0)), none⟩,
 ⟨(some 49), (.mv (.t 1)), none⟩,
 ⟨(some 50), (.mv (.t 2)), none⟩,
 ⟨(some 51), (.mv (.t 4)), none⟩,
 ⟨(some 52), (.call (.f 81) [(.t 48), (.t 49), (.t 50), (.t 51)]), none⟩,
 ⟨(some 47), (.mv (.t 52)), none⟩,
 ⟨(some 53), (.ext (.t 47) 0), none⟩,
 ⟨(some 54), (.ext (.t 47) 1), none⟩,
 ⟨(some 13), (.mv (.t 53)), none⟩,
 ⟨(some 14), (.mv (.t 54)), none⟩])
 (.seq (.seq (.ops none [⟨(some 55), (.mv (.t 14)), none⟩,
 ⟨(some 56), (.bin .eql (.t 55) (.c (.i .i64 2))), none⟩])
 (.cond (.t 56)
 (.seq (.ops none [⟨(some 57), (.mv (.t 0)), none⟩,
 ⟨(some 58), (.mv (.t 1)), none⟩,
 ⟨(some 59), (.mv (.t 2)), none⟩,
 ⟨(some 60), (.mv (.t 4)), none⟩,
 ⟨(some 61), (.call (.f 82) [(.t 57), (.t 58), (.t 59), (.t 60)]), none⟩])
 (.seq (.ops none [⟨(some 62), (.mv (.t 2)), none⟩,
 ⟨(some 63), (.bin .sub (.t 62) (.c (.i .i64 1))), none⟩,
 ⟨(some 64), (.mv (.t 13)), none⟩,
 ⟨(some 65), (.mv (.t 1)), none⟩,
 ⟨(some 66), (.bin .sub (.t 64) (.t 65)), none⟩,
 ⟨(some 67), (.bin .sub (.t 63) (.t 66)), none⟩,
 ⟨(some 13), (.mv (.t 67)), none⟩])
 (.ops none [⟨(some 14), (.mv (.c (.i .i64 1))), none⟩])))
 (.skip)))
 (.seq (.seq (.ops none [⟨(some 68), (.mv (.t 10)), none⟩,
 ⟨(some 69), (.mv (.t 68)), none⟩,
 ⟨(some 70), (.mv (.t 11)), (some ((some 69), true))⟩,
 ⟨(some 71), (.pick (.t 69) (.t 70) (.c (.b false))), none⟩,
 ⟨(some 72), (.mv (.t 71)), none⟩,
 ⟨(some 73), (.mv (.t 14)), (some ((some 72), true))⟩,
 ⟨(some 74), (.bin .eql (.t 73) (.c (.i .i64 1))), (some ((some 72), true))⟩,
 ⟨(some 75), (.pick (.t 72) (.t 74) (.c (.b false))), none⟩])
 (.cond (.t 75)
 (.seq (.ops none [⟨(some 76), (.mv (.t 0)), none⟩,
 ⟨(some 77), (.mv (.t 1)), none⟩,
 ⟨(some 78), (.mv (.t 2)), none⟩,
 ⟨(some 79), (.mv (.t 4)), none⟩,
 ⟨(some 80), (.call (.f 83) [(.t 76), (.t 77), (.t 78), (.t 79)]), none⟩])
 (.cond (.t 80)
 (.ret)
 (.skip)))
 (.skip)))
 (.seq (.seq (.ops (some [0, 1, 3, 7, 7, 7, 39, 119, 247, 7, 7, 1543, 3591, 8191, 16383, 32767, 65535]) [⟨(some 81), (.mv (.t 1)), none⟩,
 ⟨(some 82), (.bin .gtr (.t 81) (.c (.i .i64 0))), none⟩,
 ⟨(some 83), (.mv (.t 82)), none⟩,
 ⟨(some 84), (.mv (.t 4)), (some ((some 83), true))⟩,
 ⟨(some 85), (.mv (.t 0)), (some ((some 83), true))⟩,
 ⟨(some 86), (.mv (.t 1)), (some ((some 83), true))⟩,
 ⟨(some 87), (.bin .sub (.t 86) (.c (.i .i64 1))), (some ((some 83), true))⟩,
 ⟨(some 88), (.ias 4 (.t 85) (.t 87)), (some ((some 83), true))⟩,
 ⟨(some 89), (.ld true 4 (.t 88)), (some ((some 83), true))⟩,
 ⟨(some 90), (.mv (.t 0)), (some ((some 83), true))⟩,
 ⟨(some 91), (.mv (.t 13)), (some ((some 83), true))⟩,
 ⟨(some 92), (.ias 4 (.t 90) (.t 91)), (some ((some 83), true))⟩,
 ⟨(some 93), (.ld true 4 (.t 92)), (some ((some 83), true))⟩,
 ⟨(some 94), (.call (.t 84) [(.t 89), (.t 93)]), (some ((some 83), true))⟩,
 ⟨(some 95), (.bin .lss (.t 94) (.c (.i .i64 0))), (some ((some 83), true))⟩,
 ⟨(some 96), (.un .not (.t 95)), (some ((some 83), true))⟩,
 ⟨(some 97), (.pick (.t 83) (.t 96) (.c (.b false))), none⟩])
 (.cond (.t 97)
 (.seq (.ops none [⟨(some 98), (.mv (.t 0)), none⟩,
 ⟨(some 99), (.mv (.t 1)), none⟩,
 ⟨(some 100), (.mv (.t 2)), none⟩,
 ⟨(some 101), (.mv (.t 13)), none⟩,
 ⟨(some 102), (.mv (.t 4)), none⟩,
 ⟨(some 103), (.call (.f 84) [(.t 98), (.t 99), (.t 100), (.t 101), (.t 102)]), none⟩,
 ⟨(some 15), (.mv (.t 103)), none⟩])
 (.seq (.ops none [⟨(some 104), (.mv (.t 15)), none⟩,
 ⟨(some 1), (.mv (.t 104)), none⟩])
 (.exit 1)))
 (.skip)))
 (.seq (.ops none [⟨(some 106), (.mv (.t 0)), none⟩,
 ⟨(some 107), (.mv (.t 1)), none⟩,
 ⟨(some 108), (.mv (.t 2)), none⟩,
 ⟨(some 109), (.mv (.t 13)), none⟩,
 ⟨(some 110), (.mv (.t 4)), none⟩,
 ⟨(some 111), (.call (.f 85) [(.t 106), (.t 107), (.t 108), (.t 109), (.t 110)]), none⟩,
 ⟨(some 105), (.mv (.t 111)), none⟩,
 ⟨(some 112), (.ext (.t 105) 0), none⟩,
 ⟨(some 113), (.ext (.t 105) 1), none⟩,
 ⟨(some 16), (.mv (.t 112)), none⟩,
 ⟨(some 17), (.mv (.t 113)), none⟩])
 (.seq (.ops none [⟨(some 114), (.mv (.t 17)), none⟩,
 ⟨(some 11), (.mv (.t 114)), none⟩])
 (.seq (.ops none [⟨(some 115), (.mv (.t 16)), none⟩,
 ⟨(some 116), (.mv (.t 1)), none⟩,
 ⟨(some 117), (.bin .sub (.t 115) (.t 116)), none⟩,
 ⟨(some 118), (.mv (.t 2)), none⟩,
 ⟨(some 119), (.mv (.t 16)), none⟩,
 ⟨(some 120), (.bin .sub (.t 118) (.t 119)), none⟩,
 ⟨(some 18), (.mv (.t 117)), none⟩,
 ⟨(some 19), (.mv (.t 120)), none⟩])
 (.seq (.ops none [⟨(some 121), (.mv (.t 12)), none⟩,
 ⟨(some 122), (.bin .quo (.t 121) (.c (.i .i64 8))), none⟩,
 ⟨(some 20), (.mv (.t 122)), none⟩])
 (.seq (.ops none [⟨(some 123), (.mv (.t 18)), none⟩,
 ⟨(some 124), (.mv (.t 19)), none⟩,
 ⟨(some 125), (.bin .lss (.t 123) (.t 124)), none⟩])
 (.cond (.t 125)
 (.seq (.ops none [⟨(some 126), (.mv (.t 18)), none⟩,
 ⟨(some 127), (.mv (.t 20)), none⟩,
 ⟨(some 128), (.bin .geq (.t 126) (.t 127)), none⟩,
 ⟨(some 10), (.mv (.t 128)), none⟩])
 (.seq (.ops none [⟨(some 129), (.mv (.t 0)), none⟩,
 ⟨(some 130), (.mv (.t 1)), none⟩,
 ⟨(some 131), (.mv (.t 16)), none⟩,
 ⟨(some 132), (.mv (.t 3)), none⟩,
 ⟨(some 133), (.mv (.t 4)), none⟩,
 ⟨(some 134), (.call (.f 63) [(.t 129), (.t 130), (.t 131), (.t 132), (.t 133)]), none⟩])
 (.ops none [⟨(some 135), (.mv (.t 16)), none⟩,
 ⟨(some 136), (.bin .add (.t 135) (.c (.i .i64 1))), none⟩,
 ⟨(some 1), (.mv (.t 136)), none⟩])))
 (.seq (.ops none [⟨(some 137), (.mv (.t 19)), none⟩,
 ⟨(some 138), (.mv (.t 20)), none⟩,
 ⟨(some 139), (.bin .geq (.t 137) (.t 138)), none⟩,
 ⟨(some 10), (.mv (.t 139)), none⟩])
 (.seq (.ops none [⟨(some 140), (.mv (.t 0)), none⟩,
 ⟨(some 141), (.mv (.t 16)), none⟩,
 ⟨(some 142), (.bin .add (.t 141) (.c (.i .i64 1))), none⟩,
 ⟨(some 143), (.mv (.t 2)), none⟩,
 ⟨(some 144), (.mv (.t 3)), none⟩,
 ⟨(some 145), (.mv (.t 4)), none⟩,
 ⟨(some 146), (.call (.f 63) [(.t 140), (.t 142), (.t 143), (.t 144), (.t 145)]), none⟩])
 (.ops none [⟨(some 147), (.mv (.t 16)), none⟩,
 ⟨(some 2), (.mv (.t 147)), none⟩])))))))))))))))))))))⟩
theorem F63_ok : prepF Try.prog 63 = some F63 := by kernel_rfl
/-- math/bits.Len -/
def F64 : AFun := ⟨8, [.t 2],
 .seq (.ops none [⟨(some 2), (.mv (.c (.i .i64 0))), none⟩])
 (.seq (.cond (.c (.b false))
 (.seq (.ops none [⟨(some 3), (.mv (.t 0)), none⟩,
 ⟨(some 4), (.conv .u32 (.t 3)), none⟩,
 ⟨(some 5), (.call (.f 86) [(.t 4)]), none⟩,
 ⟨(some 2), (.mv (.t 5)), none⟩])
 (.ret))
 (.skip))
 (.seq (.ops none [⟨(some 6), (.mv (.t 0)), none⟩,
 ⟨(some 7), (.call (.f 87) [(.t 6)]), none⟩,
 ⟨(some 2), (.mv (.t 7)), none⟩])
 (.ret)))⟩
theorem F64_ok : prepF Try.prog 64 = some F64 := by kernel_rfl
/-- cmp.isNaN[int] -/
def F65 : AFun := ⟨6, [.t 2],
 .seq (.ops none [⟨(some 2), (.mv (.c (.b false))), none⟩])
 (.seq (.ops none [⟨(some 3), (.mv (.t 0)), none⟩,
 ⟨(some 4), (.mv (.t 0)), none⟩,
 ⟨(some 5), (.bin .neq (.t 3) (.t 4)), none⟩,
 ⟨(some 2), (.mv (.t 5)), none⟩])
 (.ret))⟩
theorem F65_ok : prepF Try.prog 65 = some F65 := by kernel_rfl
/-- slices.Sort[[]int,int] -/
def F66 : AFun := ⟨11, [],
 .seq (.ops none [⟨(some 3), (.mv (.t 0)), none⟩,
 ⟨(some 4), (.blen false (.t 3)), none⟩,
 ⟨(some 2), (.mv (.t 4)), none⟩])
 (.ops none [⟨(some 5), (.mv (.t 0)), none⟩,
 ⟨(some 6), (.mv (.t 2)), none⟩,
 ⟨(some 7), (.mv (.t 2)), none⟩,
 ⟨(some 8), (.conv .u64 (.t 7)), none⟩,
 ⟨(some 9), (.call (.f 64) [(.t 8)]), none⟩,
 ⟨(some 10), (.call (.f 88) [(.t 5), (.c (.i .i64 0)), (.t 6), (.t 9)]), none⟩])⟩
theorem F66_ok : prepF Try.prog 66 = some F66 := by kernel_rfl
/-- slices.Compact[[]int,int] -/
def F67 : AFun := ⟨61, [.t 2],
 .seq (.ops none [⟨(some 2), (.mv (.c .nils)), none⟩])
 (.seq (.seq (.ops none [⟨(some 6), (.mv (.t 0)), none⟩,
 ⟨(some 7), (.blen false (.t 6)), none⟩,
 ⟨(some 8), (.bin .lss (.t 7) (.c (.i .i64 2))), none⟩])
 (.cond (.t 8)
 (.seq (.ops none [⟨(some 9), (.mv (.t 0)), none⟩,
 ⟨(some 2), (.mv (.t 9)), none⟩])
 (.ret))
 (.skip)))
 (.seq (.seq (.ops none [⟨(some 3), (.mv (.c (.i .i64 1))), none⟩])
 (.block 0 (.loop (.seq (.seq (.ops none [⟨(some 10), (.mv (.t 3)), none⟩,
 ⟨(some 11), (.mv (.t 0)), none⟩,
 ⟨(some 12), (.blen false (.t 11)), none⟩,
 ⟨(some 13), (.bin .lss (.t 10) (.t 12)), none⟩])
 (.cond (.t 13)
 (.skip)
 (.exit 0)))
 (.seq (.block 1 (.seq (.ops (some [0, 0, 3, 7, 0, 0, 32, 112, 240, 511]) [⟨(some 16), (.mv (.t 0)), none⟩,
 ⟨(some 17), (.mv (.t 3)), none⟩,
 ⟨(some 18), (.ias 1 (.t 16) (.t 17)), none⟩,
 ⟨(some 19), (.ld false 1 (.t 18)), none⟩,
 ⟨(some 20), (.mv (.t 0)), none⟩,
 ⟨(some 21), (.mv (.t 3)), none⟩,
 ⟨(some 22), (.bin .sub (.t 21) (.c (.i .i64 1))), none⟩,
 ⟨(some 23), (.ias 1 (.t 20) (.t 22)), none⟩,
 ⟨(some 24), (.ld false 1 (.t 23)), none⟩,
 ⟨(some 25), (.bin .eql (.t 19) (.t 24)), none⟩])
 (.cond (.t 25)
 (.seq (.ops none [⟨(some 26), (.mv (.t 0)), none⟩,
 ⟨(some 27), (.mv (.t 3)), none⟩,
 ⟨(some 28), (.sls 1 (.t 26) (some (.t 27)) none none), none⟩,
 ⟨(some 4), (.mv (.t 28)), none⟩])
 (.seq (.seq (.ops none [⟨(some 5), (.mv (.c (.i .i64 1))), none⟩])
 (.block 2 (.loop (.seq (.seq (.ops none [⟨(some 29), (.mv (.t 5)), none⟩,
 ⟨(some 30), (.mv (.t 4)), none⟩,
 ⟨(some 31), (.blen false (.t 30)), none⟩,
 ⟨(some 32), (.bin .lss (.t 29) (.t 31)), none⟩])
 (.cond (.t 32)
 (.skip)
 (.exit 2)))
 (.seq (.block 3 (.seq (.ops (some [0, 0, 3, 7, 0, 0, 32, 112, 240, 511]) [⟨(some 35), (.mv (.t 4)), none⟩,
 ⟨(some 36), (.mv (.t 5)), none⟩,
 ⟨(some 37), (.ias 1 (.t 35) (.t 36)), none⟩,
 ⟨(some 38), (.ld false 1 (.t 37)), none⟩,
 ⟨(some 39), (.mv (.t 4)), none⟩,
 ⟨(some 40), (.mv (.t 5)), none⟩,
 ⟨(some 41), (.bin .sub (.t 40) (.c (.i .i64 1))), none⟩,
 ⟨(some 42), (.ias 1 (.t 39) (.t 41)), none⟩,
 ⟨(some 43), (.ld false 1 (.t 42)), none⟩,
 ⟨(some 44), (.bin .neq (.t 38) (.t 43)), none⟩])
 (.cond (.t 44)
 (.seq (.ops none [⟨(some 45), (.mv (.t 0)), none⟩,
 ⟨(some 46), (.mv (.t 3)), none⟩,
 ⟨(some 47), (.mv (.t 4)), none⟩,
 ⟨(some 48), (.mv (.t 5)), none⟩,
 ⟨(some 49), (.ias 1 (.t 47) (.t 48)), none⟩,
 ⟨(some 50), (.ld false 1 (.t 49)), none⟩,
 ⟨(some 51), (.ias 1 (.t 45) (.t 46)), none⟩,
 ⟨none, (.st 1 (.t 51) (.t 50)), none⟩])
 (.ops none [⟨(some 52), (.mv (.t 3)), none⟩,
 ⟨(some 53), (.bin .add (.t 52) (.c (.i .i64 1))), none⟩,
 ⟨(some 3), (.mv (.t 53)), none⟩]))
 (.skip))))
 (.ops none [⟨(some 33), (.mv (.t 5)), none⟩,
 ⟨(some 34), (.bin .add (.t 33) (.c (.i .i64 1))), none⟩,
 ⟨(some 5), (.mv (.t 34)), none⟩]))))))
 (.seq (.ops none [⟨(some 54), (.mv (.t 0)), none⟩,
 ⟨(some 55), (.mv (.t 3)), none⟩,
 ⟨(some 56), (.sls 1 (.t 54) (some (.t 55)) none none), none⟩,
 ⟨none, (.clr 1 [(.i .i64 0)] (.t 56)), none⟩])
 (.seq (.ops none [⟨(some 57), (.mv (.t 0)), none⟩,
 ⟨(some 58), (.mv (.t 3)), none⟩,
 ⟨(some 59), (.sls 1 (.t 57) none (some (.t 58)) none), none⟩,
 ⟨(some 2), (.mv (.t 59)), none⟩])
 (.ret)))))
 (.skip))))
 (.ops none [⟨(some 14), (.mv (.t 3)), none⟩,
 ⟨(some 15), (.bin .add (.t 14) (.c (.i .i64 1))), none⟩,
 ⟨(some 3), (.mv (.t 15)), none⟩]))))))
 (.seq (.ops none [⟨(some 60), (.mv (.t 0)), none⟩,
 ⟨(some 2), (.mv (.t 60)), none⟩])
 (.ret))))⟩
theorem F67_ok : prepF Try.prog 67 = some F67 := by kernel_rfl
/-- slices.IndexFunc[[]glazier/api.Rect,glazier/api.Rect] -/
def F68 : AFun := ⟨19, [.t 4],
 .seq (.ops none [⟨(some 4), (.mv (.c (.i .i64 0))), none⟩])
 (.seq (.seq (.ops none [⟨(some 6), (.mv (.t 0)), none⟩,
 ⟨(some 7), (.blen false (.t 6)), none⟩,
 ⟨(some 8), (.mv (.c (.i .i64 0))), none⟩])
 (.block 0 (.loop (.seq (.ops none [⟨(some 9), (.bin .lss (.t 8) (.t 7)), none⟩])
 (.seq (.cond (.t 9)
 (.skip)
 (.exit 0))
 (.seq (.block 1 (.seq (.ops none [⟨(some 10), (.mv (.t 8)), none⟩,
 ⟨(some 5), (.mv (.t 10)), none⟩])
 (.seq (.ops none [⟨(some 11), (.mv (.t 1)), none⟩,
 ⟨(some 12), (.mv (.t 0)), none⟩,
 ⟨(some 13), (.mv (.t 5)), none⟩,
 ⟨(some 14), (.ias 4 (.t 12) (.t 13)), none⟩,
 ⟨(some 15), (.ld true 4 (.t 14)), none⟩,
 ⟨(some 16), (.call (.t 11) [(.t 15)]), none⟩])
 (.cond (.t 16)
 (.seq (.ops none [⟨(some 17), (.mv (.t 5)), none⟩,
 ⟨(some 4), (.mv (.t 17)), none⟩])
 (.ret))
 (.skip)))))
 (.ops none [⟨(some 18), (.bin .add (.t 8) (.c (.i .i64 1))), none⟩,
 ⟨(some 8), (.mv (.t 18)), none⟩])))))))
 (.seq (.ops none [⟨(some 4), (.mv (.c (.i .i64 (-1)))), none⟩])
 (.ret)))⟩
theorem F68_ok : prepF Try.prog 68 = some F68 := by kernel_rfl
/-- glazier/band.spans$1 -/
def F69 : AFun := ⟨63, [],
 .seq (.ops none [⟨(some 3), (.mv (.c (.i .i64 0))), none⟩])
 (.block 0 (.loop (.seq (.seq (.ops none [⟨(some 5), (.mv (.t 3)), none⟩,
 ⟨(some 6), (.ld false 1 (.t 1)), none⟩,
 ⟨(some 7), (.blen false (.t 6)), none⟩,
 ⟨(some 8), (.bin .lss (.t 5) (.t 7)), none⟩])
 (.cond (.t 8)
 (.skip)
 (.exit 0)))
 (.block 1 (.seq (.ops (some [0, 0, 3, 7, 15, 0, 0, 96, 224, 480, 0, 0, 3072, 7168, 15360, 32736, 65535, 0, 262143]) [⟨(some 9), (.ld false 1 (.t 1)), none⟩,
 ⟨(some 10), (.mv (.t 3)), none⟩,
 ⟨(some 11), (.ias 4 (.t 9) (.t 10)), none⟩,
 ⟨(some 12), (.fa 0 (.t 11)), none⟩,
 ⟨(some 13), (.ld false 1 (.t 12)), none⟩,
 ⟨(some 14), (.ld false 1 (.t 1)), none⟩,
 ⟨(some 15), (.mv (.t 3)), none⟩,
 ⟨(some 16), (.ias 4 (.t 14) (.t 15)), none⟩,
 ⟨(some 17), (.fa 0 (.t 16)), none⟩,
 ⟨(some 18), (.ld false 1 (.t 17)), none⟩,
 ⟨(some 19), (.ld false 1 (.t 1)), none⟩,
 ⟨(some 20), (.mv (.t 3)), none⟩,
 ⟨(some 21), (.ias 4 (.t 19) (.t 20)), none⟩,
 ⟨(some 22), (.fa 2 (.t 21)), none⟩,
 ⟨(some 23), (.ld false 1 (.t 22)), none⟩,
 ⟨(some 24), (.bin .add (.t 18) (.t 23)), none⟩,
 ⟨(some 25), (.build [(.i .i64 0), (.i .i64 0)] [(0, 1, (.t 13)), (1, 1, (.t 24))]), none⟩,
 ⟨(some 4), (.new [(.i .i64 0), (.i .i64 0)]), none⟩,
 ⟨none, (.st 2 (.t 4) (.t 25)), none⟩])
 (.seq (.seq (.ops none [⟨(some 26), (.mv (.t 3)), none⟩,
 ⟨(some 27), (.bin .add (.t 26) (.c (.i .i64 1))), none⟩,
 ⟨(some 3), (.mv (.t 27)), none⟩])
 (.block 2 (.loop (.seq (.seq (.ops (some [0, 0, 2, 7, 15, 31, 31, 127, 255, 511, 31, 1055, 4095, 8191]) [⟨(some 28), (.mv (.t 3)), none⟩,
 ⟨(some 29), (.ld false 1 (.t 1)), none⟩,
 ⟨(some 30), (.blen false (.t 29)), none⟩,
 ⟨(some 31), (.bin .lss (.t 28) (.t 30)), none⟩,
 ⟨(some 32), (.mv (.t 31)), none⟩,
 ⟨(some 33), (.ld false 1 (.t 1)), (some ((some 32), true))⟩,
 ⟨(some 34), (.mv (.t 3)), (some ((some 32), true))⟩,
 ⟨(some 35), (.ias 4 (.t 33) (.t 34)), (some ((some 32), true))⟩,
 ⟨(some 36), (.fa 0 (.t 35)), (some ((some 32), true))⟩,
 ⟨(some 37), (.ld false 1 (.t 36)), (some ((some 32), true))⟩,
 ⟨(some 38), (.fa 1 (.t 4)), (some ((some 32), true))⟩,
 ⟨(some 39), (.ld false 1 (.t 38)), (some ((some 32), true))⟩,
 ⟨(some 40), (.bin .leq (.t 37) (.t 39)), (some ((some 32), true))⟩,
 ⟨(some 41), (.pick (.t 32) (.t 40) (.c (.b false))), none⟩])
 (.cond (.t 41)
 (.skip)
 (.exit 2)))
 (.seq (.block 3 (.ops (some [0, 1, 0, 0, 12, 28, 60, 0, 0, 384, 896, 1920, 4092, 8191, 16383, 32767]) [⟨(some 44), (.fa 1 (.t 4)), none⟩,
 ⟨(some 45), (.ld false 1 (.t 44)), none⟩,
 ⟨(some 46), (.ld false 1 (.t 1)), none⟩,
 ⟨(some 47), (.mv (.t 3)), none⟩,
 ⟨(some 48), (.ias 4 (.t 46) (.t 47)), none⟩,
 ⟨(some 49), (.fa 0 (.t 48)), none⟩,
 ⟨(some 50), (.ld false 1 (.t 49)), none⟩,
 ⟨(some 51), (.ld false 1 (.t 1)), none⟩,
 ⟨(some 52), (.mv (.t 3)), none⟩,
 ⟨(some 53), (.ias 4 (.t 51) (.t 52)), none⟩,
 ⟨(some 54), (.fa 2 (.t 53)), none⟩,
 ⟨(some 55), (.ld false 1 (.t 54)), none⟩,
 ⟨(some 56), (.bin .add (.t 50) (.t 55)), none⟩,
 ⟨(some 57), (.bmax [(.t 45), (.t 56)]), none⟩,
 ⟨(some 58), (.fa 1 (.t 4)), none⟩,
 ⟨none, (.st 1 (.t 58) (.t 57)), none⟩]))
 (.ops none [⟨(some 42), (.mv (.t 3)), none⟩,
 ⟨(some 43), (.bin .add (.t 42) (.c (.i .i64 1))), none⟩,
 ⟨(some 3), (.mv (.t 43)), none⟩]))))))
 (.seq (.ops none [⟨(some 59), (.mv (.t 0)), none⟩,
 ⟨(some 60), (.ld true 2 (.t 4)), none⟩,
 ⟨(some 61), (.call (.t 59) [(.t 60)]), none⟩,
 ⟨(some 62), (.un .not (.t 61)), none⟩])
 (.cond (.t 62)
 (.ret)
 (.skip)))))))))⟩
theorem F69_ok : prepF Try.prog 69 = some F69 := by kernel_rfl
/-- slices.EqualFunc[[]glazier/api.Rect,[]glazier/api.Rect,glazier/api.Rect,glazier/api.Rect] -/
def F70 : AFun := ⟨32, [.t 6],
 .seq (.ops none [⟨(some 6), (.mv (.c (.b false))), none⟩])
 (.seq (.seq (.ops none [⟨(some 10), (.mv (.t 0)), none⟩,
 ⟨(some 11), (.blen false (.t 10)), none⟩,
 ⟨(some 12), (.mv (.t 1)), none⟩,
 ⟨(some 13), (.blen false (.t 12)), none⟩,
 ⟨(some 14), (.bin .neq (.t 11) (.t 13)), none⟩])
 (.cond (.t 14)
 (.seq (.ops none [⟨(some 6), (.mv (.c (.b false))), none⟩])
 (.ret))
 (.skip)))
 (.seq (.seq (.ops none [⟨(some 15), (.mv (.t 0)), none⟩,
 ⟨(some 16), (.blen false (.t 15)), none⟩,
 ⟨(some 17), (.mv (.c (.i .i64 0))), none⟩])
 (.block 0 (.loop (.seq (.ops none [⟨(some 18), (.bin .lss (.t 17) (.t 16)), none⟩])
 (.seq (.cond (.t 18)
 (.skip)
 (.exit 0))
 (.seq (.block 1 (.seq (.ops none [⟨(some 19), (.mv (.t 17)), none⟩,
 ⟨(some 20), (.ias 4 (.t 15) (.t 17)), none⟩,
 ⟨(some 21), (.ld true 4 (.t 20)), none⟩,
 ⟨(some 8), (.new [(.i .i64 0), (.i .i64 0), (.i .i64 0), (.i .i64 0)]), none⟩,
 ⟨(some 7), (.mv (.t 19)), none⟩,
 ⟨none, (.st 4 (.t 8) (.t 21)), none⟩])
 (.seq (.ops none [⟨(some 22), (.mv (.t 1)), none⟩,
 ⟨(some 23), (.mv (.t 7)), none⟩,
 ⟨(some 24), (.ias 4 (.t 22) (.t 23)), none⟩,
 ⟨(some 25), (.ld true 4 (.t 24)), none⟩,
 ⟨(some 9), (.new [(.i .i64 0), (.i .i64 0), (.i .i64 0), (.i .i64 0)]), none⟩,
 ⟨none, (.st 4 (.t 9) (.t 25)), none⟩])
 (.seq (.ops none [⟨(some 26), (.mv (.t 2)), none⟩,
 ⟨(some 27), (.ld true 4 (.t 8)), none⟩,
 ⟨(some 28), (.ld true 4 (.t 9)), none⟩,
 ⟨(some 29), (.call (.t 26) [(.t 27), (.t 28)]), none⟩,
 ⟨(some 30), (.un .not (.t 29)), none⟩])
 (.cond (.t 30)
 (.seq (.ops none [⟨(some 6), (.mv (.c (.b false))), none⟩])
 (.ret))
 (.skip))))))
 (.ops none [⟨(some 31), (.bin .add (.t 17) (.c (.i .i64 1))), none⟩,
 ⟨(some 17), (.mv (.t 31)), none⟩])))))))
 (.seq (.ops none [⟨(some 6), (.mv (.c (.b true))), none⟩])
 (.ret))))⟩
theorem F70_ok : prepF Try.prog 70 = some F70 := by kernel_rfl
/-- glazier/band.alike$1 -/
def F71 : AFun := ⟨27, [.t 4],
 .seq (.ops none [⟨(some 2), (.box (.t 0)), none⟩,
 ⟨(some 3), (.box (.t 1)), none⟩,
 ⟨(some 4), (.mv (.c (.b false))), none⟩])
 (.seq (.ops none [⟨(some 5), (.fa 0 (.t 2)), none⟩,
 ⟨(some 6), (.ld false 1 (.t 5)), none⟩,
 ⟨(some 7), (.fa 0 (.t 3)), none⟩,
 ⟨(some 8), (.ld false 1 (.t 7)), none⟩,
 ⟨(some 9), (.bin .eql (.t 6) (.t 8)), none⟩,
 ⟨(some 10), (.mv (.t 9)), none⟩,
 ⟨(some 11), (.fa 2 (.t 2)), (some ((some 10), true))⟩,
 ⟨(some 12), (.ld false 1 (.t 11)), (some ((some 10), true))⟩,
 ⟨(some 13), (.fa 2 (.t 3)), (some ((some 10), true))⟩,
 ⟨(some 14), (.ld false 1 (.t 13)), (some ((some 10), true))⟩,
 ⟨(some 15), (.bin .eql (.t 12) (.t 14)), (some ((some 10), true))⟩,
 ⟨(some 16), (.pick (.t 10) (.t 15) (.c (.b false))), none⟩,
 ⟨(some 17), (.mv (.t 16)), none⟩,
 ⟨(some 18), (.fa 1 (.t 2)), (some ((some 17), true))⟩,
 ⟨(some 19), (.ld false 1 (.t 18)), (some ((some 17), true))⟩,
 ⟨(some 20), (.fa 3 (.t 2)), (some ((some 17), true))⟩,
 ⟨(some 21), (.ld false 1 (.t 20)), (some ((some 17), true))⟩,
 ⟨(some 22), (.bin .add (.t 19) (.t 21)), (some ((some 17), true))⟩,
 ⟨(some 23), (.fa 1 (.t 3)), (some ((some 17), true))⟩,
 ⟨(some 24), (.ld false 1 (.t 23)), (some ((some 17), true))⟩,
 ⟨(some 25), (.bin .eql (.t 22) (.t 24)), (some ((some 17), true))⟩,
 ⟨(some 26), (.pick (.t 17) (.t 25) (.c (.b false))), none⟩,
 ⟨(some 4), (.mv (.t 26)), none⟩])
 (.ret))⟩
theorem F71_ok : prepF Try.prog 71 = some F71 := by kernel_rfl
/-- (glazier/band.Region).Rects -/
def F72 : AFun := ⟨6, [.t 2],
 .seq (.ops none [⟨(some 1), (.box (.t 0)), none⟩,
 ⟨(some 2), (.mv (.c .nils)), none⟩])
 (.seq (.ops none [⟨(some 3), (.fa 0 (.t 1)), none⟩,
 ⟨(some 4), (.ld false 1 (.t 3)), none⟩,
 ⟨(some 5), (.call (.f 89) [(.t 4)]), none⟩,
 ⟨(some 2), (.mv (.t 5)), none⟩])
 (.ret))⟩
theorem F72_ok : prepF Try.prog 72 = some F72 := by kernel_rfl
/-- glazier/region.cuts -/
def F73 : AFun := ⟨43, [.t 4],
 .seq (.ops none [⟨(some 4), (.mv (.c .nils)), none⟩])
 (.seq (.ops none [⟨(some 5), (.mv (.c .nils)), none⟩])
 (.seq (.seq (.ops none [⟨(some 12), (.mv (.t 1)), none⟩,
 ⟨(some 13), (.blen false (.t 12)), none⟩,
 ⟨(some 14), (.mv (.c (.i .i64 0))), none⟩])
 (.block 0 (.loop (.seq (.ops none [⟨(some 15), (.bin .lss (.t 14) (.t 13)), none⟩])
 (.seq (.cond (.t 15)
 (.skip)
 (.exit 0))
 (.seq (.block 1 (.seq (.ops none [⟨(some 16), (.ias 1 (.t 12) (.t 14)), none⟩,
 ⟨(some 17), (.ld false 1 (.t 16)), none⟩,
 ⟨(some 7), (.mv (.t 17)), none⟩])
 (.seq (.ops none [⟨(some 18), (.mv (.t 7)), none⟩,
 ⟨(some 19), (.blen false (.t 18)), none⟩,
 ⟨(some 20), (.mv (.c (.i .i64 0))), none⟩])
 (.block 2 (.loop (.seq (.ops none [⟨(some 21), (.bin .lss (.t 20) (.t 19)), none⟩])
 (.seq (.cond (.t 21)
 (.skip)
 (.exit 2))
 (.seq (.block 3 (.seq (.ops none [⟨(some 22), (.ias 4 (.t 18) (.t 20)), none⟩,
 ⟨(some 23), (.ld true 4 (.t 22)), none⟩,
 ⟨(some 9), (.new [(.i .i64 0), (.i .i64 0), (.i .i64 0), (.i .i64 0)]), none⟩,
 ⟨none, (.st 4 (.t 9) (.t 23)), none⟩])
 (.seq (.ops none [⟨(some 25), (.mv (.t 0)), none⟩,
 ⟨(some 26), (.ld true 4 (.t 9)), none⟩,
 ⟨(some 27), (.call (.t 25) [(.t 26)]), none⟩,
 ⟨(some 24), (.mv (.t 27)), none⟩,
 ⟨(some 28), (.ext (.t 24) 0), none⟩,
 ⟨(some 29), (.ext (.t 24) 1), none⟩,
 ⟨(some 10), (.mv (.t 28)), none⟩,
 ⟨(some 11), (.mv (.t 29)), none⟩])
 (.ops none [⟨(some 30), (.mv (.t 5)), none⟩,
 ⟨(some 31), (.mv (.t 10)), none⟩,
 ⟨(some 32), (.mv (.t 10)), none⟩,
 ⟨(some 33), (.mv (.t 11)), none⟩,
 ⟨(some 34), (.bin .add (.t 32) (.t 33)), none⟩,
 ⟨(some 35), (.lit 1 2 [(.i .i64 0), (.i .i64 0)] [(0, (.t 31)), (1, (.t 34))]), none⟩,
 ⟨(some 36), (.app 1 8 [(.i .i64 0)] (.t 30) (.t 35)), none⟩,
 ⟨(some 5), (.mv (.t 36)), none⟩]))))
 (.ops none [⟨(some 37), (.bin .add (.t 20) (.c (.i .i64 1))), none⟩,
 ⟨(some 20), (.mv (.t 37)), none⟩])))))))))
 (.ops none [⟨(some 38), (.bin .add (.t 14) (.c (.i .i64 1))), none⟩,
 ⟨(some 14), (.mv (.t 38)), none⟩])))))))
 (.seq (.ops none [⟨(some 39), (.mv (.t 5)), none⟩,
 ⟨(some 40), (.call (.f 66) [(.t 39)]), none⟩])
 (.seq (.ops none [⟨(some 41), (.mv (.t 5)), none⟩,
 ⟨(some 42), (.call (.f 67) [(.t 41)]), none⟩,
 ⟨(some 4), (.mv (.t 42)), none⟩])
 (.ret)))))⟩
theorem F73_ok : prepF Try.prog 73 = some F73 := by kernel_rfl
/-- (glazier/region.rule).join$1 -/
def F74 : AFun := ⟨8, [.t 2, .t 3],
 .seq (.ops none [⟨(some 1), (.box (.t 0)), none⟩,
 ⟨(some 2), (.mv (.c (.i .i64 0))), none⟩,
 ⟨(some 3), (.mv (.c (.i .i64 0))), none⟩])
 (.seq (.ops (some [0, 1, 0, 4, 3, 31]) [⟨(some 4), (.fa 1 (.t 1)), none⟩,
 ⟨(some 5), (.ld false 1 (.t 4)), none⟩,
 ⟨(some 6), (.fa 3 (.t 1)), none⟩,
 ⟨(some 7), (.ld false 1 (.t 6)), none⟩,
 ⟨(some 2), (.mv (.t 5)), none⟩,
 ⟨(some 3), (.mv (.t 7)), none⟩])
 (.ret))⟩
theorem F74_ok : prepF Try.prog 74 = some F74 := by kernel_rfl
/-- (*glazier/region.walk).row -/
def F75 : AFun := ⟨66, [.t 4],
 .seq (.ops none [⟨(some 4), (.mv (.c .nils)), none⟩])
 (.seq (.block 0 (.loop (.seq (.seq (.ops (some [0, 1, 3, 7, 15, 31, 63, 127, 255, 511, 1023, 2047, 4095, 8191, 127, 16511, 49279, 114815, 245887, 508031, 1032319, 2097151, 127, 8388607, 16777215]) [⟨(some 6), (.mv (.t 0)), none⟩,
 ⟨(some 7), (.nilc (.t 6)), none⟩,
 ⟨(some 8), (.fa 0 (.t 7)), none⟩,
 ⟨(some 9), (.ld false 1 (.t 8)), none⟩,
 ⟨(some 10), (.blen false (.t 9)), none⟩,
 ⟨(some 11), (.bin .gtr (.t 10) (.c (.i .i64 0))), none⟩,
 ⟨(some 12), (.mv (.t 11)), none⟩,
 ⟨(some 13), (.mv (.t 0)), (some ((some 12), true))⟩,
 ⟨(some 14), (.nilc (.t 13)), (some ((some 12), true))⟩,
 ⟨(some 15), (.fa 0 (.t 14)), (some ((some 12), true))⟩,
 ⟨(some 16), (.ld false 1 (.t 15)), (some ((some 12), true))⟩,
 ⟨(some 17), (.ias 4 (.t 16) (.c (.i .i64 0))), (some ((some 12), true))⟩,
 ⟨(some 18), (.fa 1 (.t 17)), (some ((some 12), true))⟩,
 ⟨(some 19), (.ld false 1 (.t 18)), (some ((some 12), true))⟩,
 ⟨(some 20), (.mv (.t 0)), (some ((some 12), true))⟩,
 ⟨(some 21), (.nilc (.t 20)), (some ((some 12), true))⟩,
 ⟨(some 22), (.fa 0 (.t 21)), (some ((some 12), true))⟩,
 ⟨(some 23), (.ld false 1 (.t 22)), (some ((some 12), true))⟩,
 ⟨(some 24), (.ias 4 (.t 23) (.c (.i .i64 0))), (some ((some 12), true))⟩,
 ⟨(some 25), (.fa 3 (.t 24)), (some ((some 12), true))⟩,
 ⟨(some 26), (.ld false 1 (.t 25)), (some ((some 12), true))⟩,
 ⟨(some 27), (.bin .add (.t 19) (.t 26)), (some ((some 12), true))⟩,
 ⟨(some 28), (.mv (.t 1)), (some ((some 12), true))⟩,
 ⟨(some 29), (.bin .leq (.t 27) (.t 28)), (some ((some 12), true))⟩,
 ⟨(some 30), (.pick (.t 12) (.t 29) (.c (.b false))), none⟩])
 (.cond (.t 30)
 (.skip)
 (.exit 0)))
 (.block 1 (.ops none [⟨(some 31), (.mv (.t 0)), none⟩,
 ⟨(some 32), (.mv (.t 0)), none⟩,
 ⟨(some 33), (.nilc (.t 32)), none⟩,
 ⟨(some 34), (.fa 0 (.t 33)), none⟩,
 ⟨(some 35), (.ld false 1 (.t 34)), none⟩,
 ⟨(some 36), (.sls 4 (.t 35) (some (.c (.i .i64 1))) none none), none⟩,
 ⟨(some 37), (.nilc (.t 31)), none⟩,
 ⟨(some 38), (.fa 0 (.t 37)), none⟩,
 ⟨none, (.st 1 (.t 38) (.t 36)), none⟩])))))
 (.seq (.ops none [⟨(some 5), (.mv (.c (.i .i64 0))), none⟩])
 (.seq (.block 2 (.loop (.seq (.seq (.ops none [⟨(some 39), (.mv (.t 5)), none⟩,
 ⟨(some 40), (.mv (.t 0)), none⟩,
 ⟨(some 41), (.nilc (.t 40)), none⟩,
 ⟨(some 42), (.fa 0 (.t 41)), none⟩,
 ⟨(some 43), (.ld false 1 (.t 42)), none⟩,
 ⟨(some 44), (.blen false (.t 43)), none⟩,
 ⟨(some 45), (.bin .lss (.t 39) (.t 44)), none⟩,
 ⟨(some 46), (.mv (.t 45)), none⟩,
 ⟨(some 47), (.mv (.t 0)), (some ((some 46), true))⟩,
 ⟨(some 48), (.nilc (.t 47)), (some ((some 46), true))⟩,
 ⟨(some 49), (.fa 0 (.t 48)), (some ((some 46), true))⟩,
 ⟨(some 50), (.ld false 1 (.t 49)), (some ((some 46), true))⟩,
 ⟨(some 51), (.mv (.t 5)), (some ((some 46), true))⟩,
 ⟨(some 52), (.ias 4 (.t 50) (.t 51)), (some ((some 46), true))⟩,
 ⟨(some 53), (.fa 1 (.t 52)), (some ((some 46), true))⟩,
 ⟨(some 54), (.ld false 1 (.t 53)), (some ((some 46), true))⟩,
 ⟨(some 55), (.mv (.t 1)), (some ((some 46), true))⟩,
 ⟨(some 56), (.bin .leq (.t 54) (.t 55)), (some ((some 46), true))⟩,
 ⟨(some 57), (.pick (.t 46) (.t 56) (.c (.b false))), none⟩])
 (.cond (.t 57)
 (.skip)
 (.exit 2)))
 (.block 3 (.ops none [⟨(some 58), (.mv (.t 5)), none⟩,
 ⟨(some 59), (.bin .add (.t 58) (.c (.i .i64 1))), none⟩,
 ⟨(some 5), (.mv (.t 59)), none⟩])))))
 (.seq (.ops none [⟨(some 60), (.mv (.t 0)), none⟩,
 ⟨(some 61), (.nilc (.t 60)), none⟩,
 ⟨(some 62), (.fa 0 (.t 61)), none⟩,
 ⟨(some 63), (.ld false 1 (.t 62)), none⟩,
 ⟨(some 64), (.mv (.t 5)), none⟩,
 ⟨(some 65), (.sls 4 (.t 63) none (some (.t 64)) none), none⟩,
 ⟨(some 4), (.mv (.t 65)), none⟩])
 (.ret)))))⟩
theorem F75_ok : prepF Try.prog 75 = some F75 := by kernel_rfl
/-- (glazier/region.rule).join$2 -/
def F76 : AFun := ⟨8, [.t 2, .t 3],
 .seq (.ops none [⟨(some 1), (.box (.t 0)), none⟩,
 ⟨(some 2), (.mv (.c (.i .i64 0))), none⟩,
 ⟨(some 3), (.mv (.c (.i .i64 0))), none⟩])
 (.seq (.ops (some [0, 1, 0, 4, 3, 31]) [⟨(some 4), (.fa 0 (.t 1)), none⟩,
 ⟨(some 5), (.ld false 1 (.t 4)), none⟩,
 ⟨(some 6), (.fa 2 (.t 1)), none⟩,
 ⟨(some 7), (.ld false 1 (.t 6)), none⟩,
 ⟨(some 2), (.mv (.t 5)), none⟩,
 ⟨(some 3), (.mv (.t 7)), none⟩])
 (.ret))⟩
theorem F76_ok : prepF Try.prog 76 = some F76 := by kernel_rfl
/-- glazier/region.across -/
def F77 : AFun := ⟨48, [.t 4],
 .seq (.ops none [⟨(some 4), (.mv (.c (.b false))), none⟩])
 (.seq (.block 0 (.loop (.seq (.seq (.ops (some [0, 1, 3, 7, 15, 31, 63, 127, 255, 511, 1023, 2047, 63, 4159, 12351, 28735, 61503, 127039, 262143, 63, 1048575, 2097151]) [⟨(some 5), (.mv (.t 0)), none⟩,
 ⟨(some 6), (.nilc (.t 5)), none⟩,
 ⟨(some 7), (.ld false 1 (.t 6)), none⟩,
 ⟨(some 8), (.blen false (.t 7)), none⟩,
 ⟨(some 9), (.bin .gtr (.t 8) (.c (.i .i64 0))), none⟩,
 ⟨(some 10), (.mv (.t 9)), none⟩,
 ⟨(some 11), (.mv (.t 0)), (some ((some 10), true))⟩,
 ⟨(some 12), (.nilc (.t 11)), (some ((some 10), true))⟩,
 ⟨(some 13), (.ld false 1 (.t 12)), (some ((some 10), true))⟩,
 ⟨(some 14), (.ias 4 (.t 13) (.c (.i .i64 0))), (some ((some 10), true))⟩,
 ⟨(some 15), (.fa 0 (.t 14)), (some ((some 10), true))⟩,
 ⟨(some 16), (.ld false 1 (.t 15)), (some ((some 10), true))⟩,
 ⟨(some 17), (.mv (.t 0)), (some ((some 10), true))⟩,
 ⟨(some 18), (.nilc (.t 17)), (some ((some 10), true))⟩,
 ⟨(some 19), (.ld false 1 (.t 18)), (some ((some 10), true))⟩,
 ⟨(some 20), (.ias 4 (.t 19) (.c (.i .i64 0))), (some ((some 10), true))⟩,
 ⟨(some 21), (.fa 2 (.t 20)), (some ((some 10), true))⟩,
 ⟨(some 22), (.ld false 1 (.t 21)), (some ((some 10), true))⟩,
 ⟨(some 23), (.bin .add (.t 16) (.t 22)), (some ((some 10), true))⟩,
 ⟨(some 24), (.mv (.t 1)), (some ((some 10), true))⟩,
 ⟨(some 25), (.bin .leq (.t 23) (.t 24)), (some ((some 10), true))⟩,
 ⟨(some 26), (.pick (.t 10) (.t 25) (.c (.b false))), none⟩])
 (.cond (.t 26)
 (.skip)
 (.exit 0)))
 (.block 1 (.ops none [⟨(some 27), (.mv (.t 0)), none⟩,
 ⟨(some 28), (.mv (.t 0)), none⟩,
 ⟨(some 29), (.nilc (.t 28)), none⟩,
 ⟨(some 30), (.ld false 1 (.t 29)), none⟩,
 ⟨(some 31), (.sls 4 (.t 30) (some (.c (.i .i64 1))) none none), none⟩,
 ⟨(some 32), (.nilc (.t 27)), none⟩,
 ⟨none, (.st 1 (.t 32) (.t 31)), none⟩])))))
 (.seq (.ops none [⟨(some 33), (.mv (.t 0)), none⟩,
 ⟨(some 34), (.nilc (.t 33)), none⟩,
 ⟨(some 35), (.ld false 1 (.t 34)), none⟩,
 ⟨(some 36), (.blen false (.t 35)), none⟩,
 ⟨(some 37), (.bin .gtr (.t 36) (.c (.i .i64 0))), none⟩,
 ⟨(some 38), (.mv (.t 37)), none⟩,
 ⟨(some 39), (.mv (.t 0)), (some ((some 38), true))⟩,
 ⟨(some 40), (.nilc (.t 39)), (some ((some 38), true))⟩,
 ⟨(some 41), (.ld false 1 (.t 40)), (some ((some 38), true))⟩,
 ⟨(some 42), (.ias 4 (.t 41) (.c (.i .i64 0))), (some ((some 38), true))⟩,
 ⟨(some 43), (.fa 0 (.t 42)), (some ((some 38), true))⟩,
 ⟨(some 44), (.ld false 1 (.t 43)), (some ((some 38), true))⟩,
 ⟨(some 45), (.mv (.t 1)), (some ((some 38), true))⟩,
 ⟨(some 46), (.bin .leq (.t 44) (.t 45)), (some ((some 38), true))⟩,
 ⟨(some 47), (.pick (.t 38) (.t 46) (.c (.b false))), none⟩,
 ⟨(some 4), (.mv (.t 47)), none⟩])
 (.ret)))⟩
theorem F77_ok : prepF Try.prog 77 = some F77 := by kernel_rfl
/-- slices.insertionSortCmpFunc[glazier/api.Rect] -/
def F78 : AFun := ⟨53, [],
 .seq (.ops none [⟨(some 10), (.mv (.t 1)), none⟩,
 ⟨(some 11), (.bin .add (.t 10) (.c (.i .i64 1))), none⟩,
 ⟨(some 8), (.mv (.t 11)), none⟩])
 (.block 0 (.loop (.seq (.seq (.ops none [⟨(some 12), (.mv (.t 8)), none⟩,
 ⟨(some 13), (.mv (.t 2)), none⟩,
 ⟨(some 14), (.bin .lss (.t 12) (.t 13)), none⟩])
 (.cond (.t 14)
 (.skip)
 (.exit 0)))
 (.seq (.block 1 (.seq (.ops none [⟨(some 17), (.mv (.t 8)), none⟩,
 ⟨(some 9), (.mv (.t 17)), none⟩])
 (.block 2 (.loop (.seq (.seq (.ops (some [0, 0, 3, 7, 15, 15, 15, 111, 239, 15, 15, 1039, 3599, 7695, 16383, 32767, 65535]) [⟨(some 18), (.mv (.t 9)), none⟩,
 ⟨(some 19), (.mv (.t 1)), none⟩,
 ⟨(some 20), (.bin .gtr (.t 18) (.t 19)), none⟩,
 ⟨(some 21), (.mv (.t 20)), none⟩,
 ⟨(some 22), (.mv (.t 3)), (some ((some 21), true))⟩,
 ⟨(some 23), (.mv (.t 0)), (some ((some 21), true))⟩,
 ⟨(some 24), (.mv (.t 9)), (some ((some 21), true))⟩,
 ⟨(some 25), (.ias 4 (.t 23) (.t 24)), (some ((some 21), true))⟩,
 ⟨(some 26), (.ld true 4 (.t 25)), (some ((some 21), true))⟩,
 ⟨(some 27), (.mv (.t 0)), (some ((some 21), true))⟩,
 ⟨(some 28), (.mv (.t 9)), (some ((some 21), true))⟩,
 ⟨(some 29), (.bin .sub (.t 28) (.c (.i .i64 1))), (some ((some 21), true))⟩,
 ⟨(some 30), (.ias 4 (.t 27) (.t 29)), (some ((some 21), true))⟩,
 ⟨(some 31), (.ld true 4 (.t 30)), (some ((some 21), true))⟩,
 ⟨(some 32), (.call (.t 22) [(.t 26), (.t 31)]), (some ((some 21), true))⟩,
 ⟨(some 33), (.bin .lss (.t 32) (.c (.i .i64 0))), (some ((some 21), true))⟩,
 ⟨(some 34), (.pick (.t 21) (.t 33) (.c (.b false))), none⟩])
 (.cond (.t 34)
 (.skip)
 (.exit 2)))
 (.seq (.block 3 (.ops (some [0, 0, 0, 0, 8, 0, 0, 64, 224, 480, 0, 0, 3072, 7168, 16355, 32739, 65535, 131071]) [⟨(some 37), (.mv (.t 0)), none⟩,
 ⟨(some 38), (.mv (.t 9)), none⟩,
 ⟨(some 39), (.mv (.t 0)), none⟩,
 ⟨(some 40), (.mv (.t 9)), none⟩,
 ⟨(some 41), (.bin .sub (.t 40) (.c (.i .i64 1))), none⟩,
 ⟨(some 42), (.mv (.t 0)), none⟩,
 ⟨(some 43), (.mv (.t 9)), none⟩,
 ⟨(some 44), (.bin .sub (.t 43) (.c (.i .i64 1))), none⟩,
 ⟨(some 45), (.ias 4 (.t 42) (.t 44)), none⟩,
 ⟨(some 46), (.ld true 4 (.t 45)), none⟩,
 ⟨(some 47), (.mv (.t 0)), none⟩,
 ⟨(some 48), (.mv (.t 9)), none⟩,
 ⟨(some 49), (.ias 4 (.t 47) (.t 48)), none⟩,
 ⟨(some 50), (.ld true 4 (.t 49)), none⟩,
 ⟨(some 51), (.ias 4 (.t 37) (.t 38)), none⟩,
 ⟨none, (.st 4 (.t 51) (.t 46)), none⟩,
 ⟨(some 52), (.ias 4 (.t 39) (.t 41)), none⟩,
 ⟨none, (.st 4 (.t 52) (.t 50)), none⟩]))
 (.ops none [⟨(some 35), (.mv (.t 9)), none⟩,
 ⟨(some 36), (.bin .sub (.t 35) (.c (.i .i64 1))), none⟩,
 ⟨(some 9), (.mv (.t 36)), none⟩])))))))
 (.ops none [⟨(some 15), (.mv (.t 8)), none⟩,
 ⟨(some 16), (.bin .add (.t 15) (.c (.i .i64 1))), none⟩,
 ⟨(some 8), (.mv (.t 16)), none⟩])))))⟩
theorem F78_ok : prepF Try.prog 78 = some F78 := by kernel_rfl
/-- slices.heapSortCmpFunc[glazier/api.Rect] -/
def F79 : AFun := ⟨60, [],
 .seq (.ops none [⟨(some 13), (.mv (.t 1)), none⟩,
 ⟨(some 8), (.mv (.t 13)), none⟩])
 (.seq (.ops none [⟨(some 9), (.mv (.c (.i .i64 0))), none⟩])
 (.seq (.ops none [⟨(some 14), (.mv (.t 2)), none⟩,
 ⟨(some 15), (.mv (.t 1)), none⟩,
 ⟨(some 16), (.bin .sub (.t 14) (.t 15)), none⟩,
 ⟨(some 10), (.mv (.t 16)), none⟩])
 (.seq (.seq (.ops none [⟨(some 17), (.mv (.t 10)), none⟩,
 ⟨(some 18), (.bin .sub (.t 17) (.c (.i .i64 1))), none⟩,
 ⟨(some 19), (.bin .quo (.t 18) (.c (.i .i64 2))), none⟩,
 ⟨(some 11), (.mv (.t 19)), none⟩])
 (.block 0 (.loop (.seq (.seq (.ops none [⟨(some 20), (.mv (.t 11)), none⟩,
 ⟨(some 21), (.bin .geq (.t 20) (.c (.i .i64 0))), none⟩])
 (.cond (.t 21)
 (.skip)
 (.exit 0)))
 (.seq (.block 1 (.ops none [⟨(some 24), (.mv (.t 0)), none⟩,
 ⟨(some 25), (.mv (.t 11)), none⟩,
 ⟨(some 26), (.mv (.t 10)), none⟩,
 ⟨(some 27), (.mv (.t 8)), none⟩,
 ⟨(some 28), (.mv (.t 3)), none⟩,
 ⟨(some 29), (.call (.f 90) [(.t 24), (.t 25), (.t 26), (.t 27), (.t 28)]), none⟩]))
 (.ops none [⟨(some 22), (.mv (.t 11)), none⟩,
 ⟨(some 23), (.bin .sub (.t 22) (.c (.i .i64 1))), none⟩,
 ⟨(some 11), (.mv (.t 23)), none⟩]))))))
 (.seq (.ops none [⟨(some 30), (.mv (.t 10)), none⟩,
 ⟨(some 31), (.bin .sub (.t 30) (.c (.i .i64 1))), none⟩,
 ⟨(some 12), (.mv (.t 31)), none⟩])
 (.block 2 (.loop (.seq (.seq (.ops none [⟨(some 32), (.mv (.t 12)), none⟩,
 ⟨(some 33), (.bin .geq (.t 32) (.c (.i .i64 0))), none⟩])
 (.cond (.t 33)
 (.skip)
 (.exit 2)))
 (.seq (.block 3 (.seq (.ops (some [0, 0, 0, 0, 0, 24, 0, 0, 0, 384, 960, 1984, 0, 0, 12288, 28672, 65475, 131011, 262143, 524287]) [⟨(some 36), (.mv (.t 0)), none⟩,
 ⟨(some 37), (.mv (.t 8)), none⟩,
 ⟨(some 38), (.mv (.t 0)), none⟩,
 ⟨(some 39), (.mv (.t 8)), none⟩,
 ⟨(some 40), (.mv (.t 12)), none⟩,
 ⟨(some 41), (.bin .add (.t 39) (.t 40)), none⟩,
 ⟨(some 42), (.mv (.t 0)), none⟩,
 ⟨(some 43), (.mv (.t 8)), none⟩,
 ⟨(some 44), (.mv (.t 12)), none⟩,
 ⟨(some 45), (.bin .add (.t 43) (.t 44)), none⟩,
 ⟨(some 46), (.ias 4 (.t 42) (.t 45)), none⟩,
 ⟨(some 47), (.ld true 4 (.t 46)), none⟩,
 ⟨(some 48), (.mv (.t 0)), none⟩,
 ⟨(some 49), (.mv (.t 8)), none⟩,
 ⟨(some 50), (.ias 4 (.t 48) (.t 49)), none⟩,
 ⟨(some 51), (.ld true 4 (.t 50)), none⟩,
 ⟨(some 52), (.ias 4 (.t 36) (.t 37)), none⟩,
 ⟨none, (.st 4 (.t 52) (.t 47)), none⟩,
 ⟨(some 53), (.ias 4 (.t 38) (.t 41)), none⟩,
 ⟨none, (.st 4 (.t 53) (.t 51)), none⟩])
 (.ops none [⟨(some 54), (.mv (.t 0)), none⟩,
 ⟨(some 55), (.mv (.t 9)), none⟩,
 ⟨(some 56), (.mv (.t 12)), none⟩,
 ⟨(some 57), (.mv (.t 8)), none⟩,
 ⟨(some 58), (.mv (.t 3)), none⟩,
 ⟨(some 59), (.call (.f 90) [(.t 54), (.t 55), (.t 56), (.t 57), (.t 58)]), none⟩])))
 (.ops none [⟨(some 34), (.mv (.t 12)), none⟩,
 ⟨(some 35), (.bin .sub (.t 34) (.c (.i .i64 1))), none⟩,
 ⟨(some 12), (.mv (.t 35)), none⟩])))))))))⟩
theorem F79_ok : prepF Try.prog 79 = some F79 := by kernel_rfl
/-- slices.breakPatternsCmpFunc[glazier/api.Rect] -/
def F80 : AFun := ⟨67, [],
 .seq (.ops none [⟨(some 13), (.mv (.t 2)), none⟩,
 ⟨(some 14), (.mv (.t 1)), none⟩,
 ⟨(some 15), (.bin .sub (.t 13) (.t 14)), none⟩,
 ⟨(some 8), (.mv (.t 15)), none⟩])
 (.seq (.ops none [⟨(some 16), (.mv (.t 8)), none⟩,
 ⟨(some 17), (.bin .geq (.t 16) (.c (.i .i64 8))), none⟩])
 (.cond (.t 17)
 (.seq (.ops none [⟨(some 18), (.mv (.t 8)), none⟩,
 ⟨(some 19), (.conv .u64 (.t 18)), none⟩,
 ⟨(some 9), (.new [(.i .u64 0)]), none⟩,
 ⟨none, (.st 1 (.t 9) (.t 19)), none⟩])
 (.seq (.ops none [⟨(some 20), (.mv (.t 8)), none⟩,
 ⟨(some 21), (.call (.f 91) [(.t 20)]), none⟩,
 ⟨(some 10), (.mv (.t 21)), none⟩])
 (.seq (.ops none [⟨(some 22), (.mv (.t 1)), none⟩,
 ⟨(some 23), (.mv (.t 8)), none⟩,
 ⟨(some 24), (.bin .quo (.t 23) (.c (.i .i64 4))), none⟩,
 ⟨(some 25), (.bin .mul (.t 24) (.c (.i .i64 2))), none⟩,
 ⟨(some 26), (.bin .add (.t 22) (.t 25)), none⟩,
 ⟨(some 27), (.bin .sub (.t 26) (.c (.i .i64 1))), none⟩,
 ⟨(some 11), (.mv (.t 27)), none⟩])
 (.block 0 (.loop (.seq (.seq (.ops none [⟨(some 28), (.mv (.t 11)), none⟩,
 ⟨(some 29), (.mv (.t 1)), none⟩,
 ⟨(some 30), (.mv (.t 8)), none⟩,
 ⟨(some 31), (.bin .quo (.t 30) (.c (.i .i64 4))), none⟩,
 ⟨(some 32), (.bin .mul (.t 31) (.c (.i .i64 2))), none⟩,
 ⟨(some 33), (.bin .add (.t 29) (.t 32)), none⟩,
 ⟨(some 34), (.bin .add (.t 33) (.c (.i .i64 1))), none⟩,
 ⟨(some 35), (.bin .leq (.t 28) (.t 34)), none⟩])
 (.cond (.t 35)
 (.skip)
 (.exit 0)))
 (.seq (.block 1 (.seq (.ops none [⟨(some 38), (.call (.f 92) [(.t 9)]), none⟩,
 ⟨(some 39), (.mv (.t 10)), none⟩,
 ⟨(some 40), (.bin .sub (.t 39) (.c (.i .u64 1))), none⟩,
 ⟨(some 41), (.bin .and (.t 38) (.t 40)), none⟩,
 ⟨(some 42), (.conv .i64 (.t 41)), none⟩,
 ⟨(some 12), (.mv (.t 42)), none⟩])
 (.seq (.seq (.ops none [⟨(some 43), (.mv (.t 12)), none⟩,
 ⟨(some 44), (.mv (.t 8)), none⟩,
 ⟨(some 45), (.bin .geq (.t 43) (.t 44)), none⟩])
 (.cond (.t 45)
 (.ops none [⟨(some 46), (.mv (.t 12)), none⟩,
 ⟨(some 47), (.mv (.t 8)), none⟩,
 ⟨(some 48), (.bin .sub (.t 46) (.t 47)), none⟩,
 ⟨(some 12), (.mv (.t 48)), none⟩])
 (.skip)))
 (.ops (some [0, 0, 0, 0, 0, 24, 0, 0, 0, 384, 960, 1984, 0, 0, 12288, 28672, 65475, 131011, 262143, 524287]) [⟨(some 49), (.mv (.t 0)), none⟩,
 ⟨(some 50), (.mv (.t 11)), none⟩,
 ⟨(some 51), (.mv (.t 0)), none⟩,
 ⟨(some 52), (.mv (.t 1)), none⟩,
 ⟨(some 53), (.mv (.t 12)), none⟩,
 ⟨(some 54), (.bin .add (.t 52) (.t 53)), none⟩,
 ⟨(some 55), (.mv (.t 0)), none⟩,
 ⟨(some 56), (.mv (.t 1)), none⟩,
 ⟨(some 57), (.mv (.t 12)), none⟩,
 ⟨(some 58), (.bin .add (.t 56) (.t 57)), none⟩,
 ⟨(some 59), (.ias 4 (.t 55) (.t 58)), none⟩,
 ⟨(some 60), (.ld true 4 (.t 59)), none⟩,
 ⟨(some 61), (.mv (.t 0)), none⟩,
 ⟨(some 62), (.mv (.t 11)), none⟩,
 ⟨(some 63), (.ias 4 (.t 61) (.t 62)), none⟩,
 ⟨(some 64), (.ld true 4 (.t 63)), none⟩,
 ⟨(some 65), (.ias 4 (.t 49) (.t 50)), none⟩,
 ⟨none, (.st 4 (.t 65) (.t 60)), none⟩,
 ⟨(some 66), (.ias 4 (.t 51) (.t 54)), none⟩,
 ⟨none, (.st 4 (.t 66) (.t 64)), none⟩]))))
 (.ops none [⟨(some 36), (.mv (.t 11)), none⟩,
 ⟨(some 37), (.bin .add (.t 36) (.c (.i .i64 1))), none⟩,
 ⟨(some 11), (.mv (.t 37)), none⟩]))))))))
 (.skip)))⟩
theorem F80_ok : prepF Try.prog 80 = some F80 := by kernel_rfl
/-- slices.choosePivotCmpFunc[glazier/api.Rect] -/
def F81 : AFun := ⟨63, [.t 8, .t 9],
 .seq (.ops none [⟨(some 8), (.mv (.c (.i .i64 0))), none⟩,
 ⟨(some 9), (.mv (.c (.i .i64 0))), none⟩])
 (.seq (.ops none [⟨(some 15), (.mv (.t 2)), none⟩,
 ⟨(some 16), (.mv (.t 1)), none⟩,
 ⟨(some 17), (.bin .sub (.t 15) (.t 16)), none⟩,
 ⟨(some 10), (.mv (.t 17)), none⟩])
 (.seq (.ops none [⟨(some 11), (.new [(.i .i64 0)]), none⟩])
 (.seq (.ops none [⟨(some 18), (.mv (.t 1)), none⟩,
 ⟨(some 19), (.mv (.t 10)), none⟩,
 ⟨(some 20), (.bin .quo (.t 19) (.c (.i .i64 4))), none⟩,
 ⟨(some 21), (.bin .mul (.t 20) (.c (.i .i64 1))), none⟩,
 ⟨(some 22), (.bin .add (.t 18) (.t 21)), none⟩,
 ⟨(some 12), (.mv (.t 22)), none⟩])
 (.seq (.ops none [⟨(some 23), (.mv (.t 1)), none⟩,
 ⟨(some 24), (.mv (.t 10)), none⟩,
 ⟨(some 25), (.bin .quo (.t 24) (.c (.i .i64 4))), none⟩,
 ⟨(some 26), (.bin .mul (.t 25) (.c (.i .i64 2))), none⟩,
 ⟨(some 27), (.bin .add (.t 23) (.t 26)), none⟩,
 ⟨(some 13), (.mv (.t 27)), none⟩])
 (.seq (.ops none [⟨(some 28), (.mv (.t 1)), none⟩,
 ⟨(some 29), (.mv (.t 10)), none⟩,
 ⟨(some 30), (.bin .quo (.t 29) (.c (.i .i64 4))), none⟩,
 ⟨(some 31), (.bin .mul (.t 30) (.c (.i .i64 3))), none⟩,
 ⟨(some 32), (.bin .add (.t 28) (.t 31)), none⟩,
 ⟨(some 14), (.mv (.t 32)), none⟩])
 (.seq (.seq (.ops none [⟨(some 33), (.mv (.t 10)), none⟩,
 ⟨(some 34), (.bin .geq (.t 33) (.c (.i .i64 8))), none⟩])
 (.cond (.t 34)
 (.seq (.seq (.ops none [⟨(some 35), (.mv (.t 10)), none⟩,
 ⟨(some 36), (.bin .geq (.t 35) (.c (.i .i64 50))), none⟩])
 (.cond (.t 36)
 (.seq (.ops none [⟨(some 37), (.mv (.t 0)), none⟩,
 ⟨(some 38), (.mv (.t 12)), none⟩,
 ⟨(some 39), (.mv (.t 3)), none⟩,
 ⟨(some 40), (.call (.f 93) [(.t 37), (.t 38), (.t 11), (.t 39)]), none⟩,
 ⟨(some 12), (.mv (.t 40)), none⟩])
 (.seq (.ops none [⟨(some 41), (.mv (.t 0)), none⟩,
 ⟨(some 42), (.mv (.t 13)), none⟩,
 ⟨(some 43), (.mv (.t 3)), none⟩,
 ⟨(some 44), (.call (.f 93) [(.t 41), (.t 42), (.t 11), (.t 43)]), none⟩,
 ⟨(some 13), (.mv (.t 44)), none⟩])
 (.ops none [⟨(some 45), (.mv (.t 0)), none⟩,
 ⟨(some 46), (.mv (.t 14)), none⟩,
 ⟨(some 47), (.mv (.t 3)), none⟩,
 ⟨(some 48), (.call (.f 93) [(.t 45), (.t 46), (.t 11), (.t 47)]), none⟩,
 ⟨(some 14), (.mv (.t 48)), none⟩])))
 (.skip)))
 (.ops none [⟨(some 49), (.mv (.t 0)), none⟩,
 ⟨(some 50), (.mv (.t 12)), none⟩,
 ⟨(some 51), (.mv (.t 13)), none⟩,
 ⟨(some 52), (.mv (.t 14)), none⟩,
 ⟨(some 53), (.mv (.t 3)), none⟩,
 ⟨(some 54), (.call (.f 94) [(.t 49), (.t 50), (.t 51), (.t 52), (.t 11), (.t 53)]), none⟩,
 ⟨(some 13), (.mv (.t 54)), none⟩]))
 (.skip)))
 (.seq (.ops none [⟨(some 55), (.ld false 1 (.t 11)), none⟩])
 (.block 0 (.seq (.ops none [⟨(some 58), (.bin .eql (.t 55) (.c (.i .i64 0))), none⟩,
 ⟨(some 57), (.mv (.t 58)), none⟩])
 (.cond (.t 57)
 (.seq (.ops none [⟨(some 59), (.mv (.t 13)), none⟩,
 ⟨(some 8), (.mv (.t 59)), none⟩,
 ⟨(some 9), (.mv (.c (.i .i64 1))), none⟩])
 (.ret))
 (.seq (.ops none [⟨(some 61), (.bin .eql (.t 55) (.c (.i .i64 12))), none⟩,
 ⟨(some 60), (.mv (.t 61)), none⟩])
 (.cond (.t 60)
 (.seq (.ops none [⟨(some 62), (.mv (.t 13)), none⟩,
 ⟨(some 8), (.mv (.t 62)), none⟩,
 ⟨(some 9), (.mv (.c (.i .i64 2))), none⟩])
 (.ret))
 (.seq (.ops none [⟨(some 56), (.mv (.t 13)), none⟩,
 ⟨(some 8), (.mv (.t 56)), none⟩,
 ⟨(some 9), (.mv (.c (.i .i64 0))), none⟩])
 (.ret))))))))))))))⟩
theorem F81_ok : prepF Try.prog 81 = some F81 := by kernel_rfl
/-- slices.reverseRangeCmpFunc[glazier/api.Rect] -/
def F82 : AFun := ⟨34, [],
 .seq (.ops none [⟨(some 10), (.mv (.t 1)), none⟩,
 ⟨(some 8), (.mv (.t 10)), none⟩])
 (.seq (.ops none [⟨(some 11), (.mv (.t 2)), none⟩,
 ⟨(some 12), (.bin .sub (.t 11) (.c (.i .i64 1))), none⟩,
 ⟨(some 9), (.mv (.t 12)), none⟩])
 (.block 0 (.loop (.seq (.seq (.ops none [⟨(some 13), (.mv (.t 8)), none⟩,
 ⟨(some 14), (.mv (.t 9)), none⟩,
 ⟨(some 15), (.bin .lss (.t 13) (.t 14)), none⟩])
 (.cond (.t 15)
 (.skip)
 (.exit 0)))
 (.block 1 (.seq (.ops (some [0, 0, 0, 0, 0, 0, 48, 112, 0, 0, 768, 1792, 4083, 8179, 16383, 32767]) [⟨(some 16), (.mv (.t 0)), none⟩,
 ⟨(some 17), (.mv (.t 8)), none⟩,
 ⟨(some 18), (.mv (.t 0)), none⟩,
 ⟨(some 19), (.mv (.t 9)), none⟩,
 ⟨(some 20), (.mv (.t 0)), none⟩,
 ⟨(some 21), (.mv (.t 9)), none⟩,
 ⟨(some 22), (.ias 4 (.t 20) (.t 21)), none⟩,
 ⟨(some 23), (.ld true 4 (.t 22)), none⟩,
 ⟨(some 24), (.mv (.t 0)), none⟩,
 ⟨(some 25), (.mv (.t 8)), none⟩,
 ⟨(some 26), (.ias 4 (.t 24) (.t 25)), none⟩,
 ⟨(some 27), (.ld true 4 (.t 26)), none⟩,
 ⟨(some 28), (.ias 4 (.t 16) (.t 17)), none⟩,
 ⟨none, (.st 4 (.t 28) (.t 23)), none⟩,
 ⟨(some 29), (.ias 4 (.t 18) (.t 19)), none⟩,
 ⟨none, (.st 4 (.t 29) (.t 27)), none⟩])
 (.seq (.ops none [⟨(some 30), (.mv (.t 8)), none⟩,
 ⟨(some 31), (.bin .add (.t 30) (.c (.i .i64 1))), none⟩,
 ⟨(some 8), (.mv (.t 31)), none⟩])
 (.ops none [⟨(some 32), (.mv (.t 9)), none⟩,
 ⟨(some 33), (.bin .sub (.t 32) (.c (.i .i64 1))), none⟩,
 ⟨(some 9), (.mv (.t 33)), none⟩]))))))))⟩
theorem F82_ok : prepF Try.prog 82 = some F82 := by kernel_rfl
/-- slices.partialInsertionSortCmpFunc[glazier/api.Rect] -/
def F83 : AFun := ⟨141, [.t 8],
 .seq (.ops none [⟨(some 8), (.mv (.c (.b false))), none⟩])
 (.seq (.ops none [⟨(some 13), (.mv (.t 1)), none⟩,
 ⟨(some 14), (.bin .add (.t 13) (.c (.i .i64 1))), none⟩,
 ⟨(some 9), (.mv (.t 14)), none⟩])
 (.seq (.seq (.ops none [⟨(some 10), (.mv (.c (.i .i64 0))), none⟩])
 (.block 0 (.loop (.seq (.seq (.ops none [⟨(some 15), (.mv (.t 10)), none⟩,
 ⟨(some 16), (.bin .lss (.t 15) (.c (.i .i64 5))), none⟩])
 (.cond (.t 16)
 (.skip)
 (.exit 0)))
 (.seq (.block 1 (.seq (.block 2 (.loop (.seq (.seq (.ops (some [0, 0, 3, 7, 15, 15, 15, 111, 239, 15, 15, 1039, 3599, 7695, 16383, 32767, 65535, 131071]) [⟨(some 19), (.mv (.t 9)), none⟩,
 ⟨(some 20), (.mv (.t 2)), none⟩,
 ⟨(some 21), (.bin .lss (.t 19) (.t 20)), none⟩,
 ⟨(some 22), (.mv (.t 21)), none⟩,
 ⟨(some 23), (.mv (.t 3)), (some ((some 22), true))⟩,
 ⟨(some 24), (.mv (.t 0)), (some ((some 22), true))⟩,
 ⟨(some 25), (.mv (.t 9)), (some ((some 22), true))⟩,
 ⟨(some 26), (.ias 4 (.t 24) (.t 25)), (some ((some 22), true))⟩,
 ⟨(some 27), (.ld true 4 (.t 26)), (some ((some 22), true))⟩,
 ⟨(some 28), (.mv (.t 0)), (some ((some 22), true))⟩,
 ⟨(some 29), (.mv (.t 9)), (some ((some 22), true))⟩,
 ⟨(some 30), (.bin .sub (.t 29) (.c (.i .i64 1))), (some ((some 22), true))⟩,
 ⟨(some 31), (.ias 4 (.t 28) (.t 30)), (some ((some 22), true))⟩,
 ⟨(some 32), (.ld true 4 (.t 31)), (some ((some 22), true))⟩,
 ⟨(some 33), (.call (.t 23) [(.t 27), (.t 32)]), (some ((some 22), true))⟩,
 ⟨(some 34), (.bin .lss (.t 33) (.c (.i .i64 0))), (some ((some 22), true))⟩,
 ⟨(some 35), (.un .not (.t 34)), (some ((some 22), true))⟩,
 ⟨(some 36), (.pick (.t 22) (.t 35) (.c (.b false))), none⟩])
 (.cond (.t 36)
 (.skip)
 (.exit 2)))
 (.block 3 (.ops none [⟨(some 37), (.mv (.t 9)), none⟩,
 ⟨(some 38), (.bin .add (.t 37) (.c (.i .i64 1))), none⟩,
 ⟨(some 9), (.mv (.t 38)), none⟩])))))
 (.seq (.seq (.ops none [⟨(some 39), (.mv (.t 9)), none⟩,
 ⟨(some 40), (.mv (.t 2)), none⟩,
 ⟨(some 41), (.bin .eql (.t 39) (.t 40)), none⟩])
 (.cond (.t 41)
 (.seq (.ops none [⟨(some 8), (.mv (.c (.b true))), none⟩])
 (.ret))
 (.skip)))
 (.seq (.seq (.ops none [⟨(some 42), (.mv (.t 2)), none⟩,
 ⟨(some 43), (.mv (.t 1)), none⟩,
 ⟨(some 44), (.bin .sub (.t 42) (.t 43)), none⟩,
 ⟨(some 45), (.bin .lss (.t 44) (.c (.i .i64 50))), none⟩])
 (.cond (.t 45)
 (.seq (.ops none [⟨(some 8), (.mv (.c (.b false))), none⟩])
 (.ret))
 (.skip)))
 (.seq (.ops (some [0, 0, 0, 0, 8, 0, 0, 64, 224, 480, 0, 0, 3072, 7168, 16355, 32739, 65535, 131071]) [⟨(some 46), (.mv (.t 0)), none⟩,
 ⟨(some 47), (.mv (.t 9)), none⟩,
 ⟨(some 48), (.mv (.t 0)), none⟩,
 ⟨(some 49), (.mv (.t 9)), none⟩,
 ⟨(some 50), (.bin .sub (.t 49) (.c (.i .i64 1))), none⟩,
 ⟨(some 51), (.mv (.t 0)), none⟩,
 ⟨(some 52), (.mv (.t 9)), none⟩,
 ⟨(some 53), (.bin .sub (.t 52) (.c (.i .i64 1))), none⟩,
 ⟨(some 54), (.ias 4 (.t 51) (.t 53)), none⟩,
 ⟨(some 55), (.ld true 4 (.t 54)), none⟩,
 ⟨(some 56), (.mv (.t 0)), none⟩,
 ⟨(some 57), (.mv (.t 9)), none⟩,
 ⟨(some 58), (.ias 4 (.t 56) (.t 57)), none⟩,
 ⟨(some 59), (.ld true 4 (.t 58)), none⟩,
 ⟨(some 60), (.ias 4 (.t 46) (.t 47)), none⟩,
 ⟨none, (.st 4 (.t 60) (.t 55)), none⟩,
 ⟨(some 61), (.ias 4 (.t 48) (.t 50)), none⟩,
 ⟨none, (.st 4 (.t 61) (.t 59)), none⟩])
 (.seq (.seq (.ops none [⟨(some 62), (.mv (.t 9)), none⟩,
 ⟨(some 63), (.mv (.t 1)), none⟩,
 ⟨(some 64), (.bin .sub (.t 62) (.t 63)), none⟩,
 ⟨(some 65), (.bin .geq (.t 64) (.c (.i .i64 2))), none⟩])
 (.cond (.t 65)
 (.seq (.ops none [⟨(some 66), (.mv (.t 9)), none⟩,
 ⟨(some 67), (.bin .sub (.t 66) (.c (.i .i64 1))), none⟩,
 ⟨(some 11), (.mv (.t 67)), none⟩])
 (.block 4 (.loop (.seq (.seq (.ops none [⟨(some 68), (.mv (.t 11)), none⟩,
 ⟨(some 69), (.bin .geq (.t 68) (.c (.i .i64 1))), none⟩])
 (.cond (.t 69)
 (.skip)
 (.exit 4)))
 (.seq (.block 5 (.seq (.seq (.ops (some [0, 0, 0, 6, 14, 0, 0, 64, 224, 480, 1023, 2047, 4095]) [⟨(some 72), (.mv (.t 3)), none⟩,
 ⟨(some 73), (.mv (.t 0)), none⟩,
 ⟨(some 74), (.mv (.t 11)), none⟩,
 ⟨(some 75), (.ias 4 (.t 73) (.t 74)), none⟩,
 ⟨(some 76), (.ld true 4 (.t 75)), none⟩,
 ⟨(some 77), (.mv (.t 0)), none⟩,
 ⟨(some 78), (.mv (.t 11)), none⟩,
 ⟨(some 79), (.bin .sub (.t 78) (.c (.i .i64 1))), none⟩,
 ⟨(some 80), (.ias 4 (.t 77) (.t 79)), none⟩,
 ⟨(some 81), (.ld true 4 (.t 80)), none⟩,
 ⟨(some 82), (.call (.t 72) [(.t 76), (.t 81)]), none⟩,
 ⟨(some 83), (.bin .lss (.t 82) (.c (.i .i64 0))), none⟩,
 ⟨(some 84), (.un .not (.t 83)), none⟩])
 (.cond (.t 84)
 (.exit 4)
 (.skip)))
 (.ops (some [0, 0, 0, 0, 8, 0, 0, 64, 224, 480, 0, 0, 3072, 7168, 16355, 32739, 65535, 131071]) [⟨(some 85), (.mv (.t 0)), none⟩,
 ⟨(some 86), (.mv (.t 11)), none⟩,
 ⟨(some 87), (.mv (.t 0)), none⟩,
 ⟨(some 88), (.mv (.t 11)), none⟩,
 ⟨(some 89), (.bin .sub (.t 88) (.c (.i .i64 1))), none⟩,
 ⟨(some 90), (.mv (.t 0)), none⟩,
 ⟨(some 91), (.mv (.t 11)), none⟩,
 ⟨(some 92), (.bin .sub (.t 91) (.c (.i .i64 1))), none⟩,
 ⟨(some 93), (.ias 4 (.t 90) (.t 92)), none⟩,
 ⟨(some 94), (.ld true 4 (.t 93)), none⟩,
 ⟨(some 95), (.mv (.t 0)), none⟩,
 ⟨(some 96), (.mv (.t 11)), none⟩,
 ⟨(some 97), (.ias 4 (.t 95) (.t 96)), none⟩,
 ⟨(some 98), (.ld true 4 (.t 97)), none⟩,
 ⟨(some 99), (.ias 4 (.t 85) (.t 86)), none⟩,
 ⟨none, (.st 4 (.t 99) (.t 94)), none⟩,
 ⟨(some 100), (.ias 4 (.t 87) (.t 89)), none⟩,
 ⟨none, (.st 4 (.t 100) (.t 98)), none⟩])))
 (.ops none [⟨(some 70), (.mv (.t 11)), none⟩,
 ⟨(some 71), (.bin .sub (.t 70) (.c (.i .i64 1))), none⟩,
 ⟨(some 11), (.mv (.t 71)), none⟩]))))))
 (.skip)))
 (.seq (.ops none [⟨(some 101), (.mv (.t 2)), none⟩,
 ⟨(some 102), (.mv (.t 9)), none⟩,
 ⟨(some 103), (.bin .sub (.t 101) (.t 102)), none⟩,
 ⟨(some 104), (.bin .geq (.t 103) (.c (.i .i64 2))), none⟩])
 (.cond (.t 104)
 (.seq (.ops none [⟨(some 105), (.mv (.t 9)), none⟩,
 ⟨(some 106), (.bin .add (.t 105) (.c (.i .i64 1))), none⟩,
 ⟨(some 12), (.mv (.t 106)), none⟩])
 (.block 6 (.loop (.seq (.seq (.ops none [⟨(some 107), (.mv (.t 12)), none⟩,
 ⟨(some 108), (.mv (.t 2)), none⟩,
 ⟨(some 109), (.bin .lss (.t 107) (.t 108)), none⟩])
 (.cond (.t 109)
 (.skip)
 (.exit 6)))
 (.seq (.block 7 (.seq (.seq (.ops (some [0, 0, 0, 6, 14, 0, 0, 64, 224, 480, 1023, 2047, 4095]) [⟨(some 112), (.mv (.t 3)), none⟩,
 ⟨(some 113), (.mv (.t 0)), none⟩,
 ⟨(some 114), (.mv (.t 12)), none⟩,
 ⟨(some 115), (.ias 4 (.t 113) (.t 114)), none⟩,
 ⟨(some 116), (.ld true 4 (.t 115)), none⟩,
 ⟨(some 117), (.mv (.t 0)), none⟩,
 ⟨(some 118), (.mv (.t 12)), none⟩,
 ⟨(some 119), (.bin .sub (.t 118) (.c (.i .i64 1))), none⟩,
 ⟨(some 120), (.ias 4 (.t 117) (.t 119)), none⟩,
 ⟨(some 121), (.ld true 4 (.t 120)), none⟩,
 ⟨(some 122), (.call (.t 112) [(.t 116), (.t 121)]), none⟩,
 ⟨(some 123), (.bin .lss (.t 122) (.c (.i .i64 0))), none⟩,
 ⟨(some 124), (.un .not (.t 123)), none⟩])
 (.cond (.t 124)
 (.exit 6)
 (.skip)))
 (.ops (some [0, 0, 0, 0, 8, 0, 0, 64, 224, 480, 0, 0, 3072, 7168, 16355, 32739, 65535, 131071]) [⟨(some 125), (.mv (.t 0)), none⟩,
 ⟨(some 126), (.mv (.t 12)), none⟩,
 ⟨(some 127), (.mv (.t 0)), none⟩,
 ⟨(some 128), (.mv (.t 12)), none⟩,
 ⟨(some 129), (.bin .sub (.t 128) (.c (.i .i64 1))), none⟩,
 ⟨(some 130), (.mv (.t 0)), none⟩,
 ⟨(some 131), (.mv (.t 12)), none⟩,
 ⟨(some 132), (.bin .sub (.t 131) (.c (.i .i64 1))), none⟩,
 ⟨(some 133), (.ias 4 (.t 130) (.t 132)), none⟩,
 ⟨(some 134), (.ld true 4 (.t 133)), none⟩,
 ⟨(some 135), (.mv (.t 0)), none⟩,
 ⟨(some 136), (.mv (.t 12)), none⟩,
 ⟨(some 137), (.ias 4 (.t 135) (.t 136)), none⟩,
 ⟨(some 138), (.ld true 4 (.t 137)), none⟩,
 ⟨(some 139), (.ias 4 (.t 125) (.t 126)), none⟩,
 ⟨none, (.st 4 (.t 139) (.t 134)), none⟩,
 ⟨(some 140), (.ias 4 (.t 127) (.t 129)), none⟩,
 ⟨none, (.st 4 (.t 140) (.t 138)), none⟩])))
 (.ops none [⟨(some 110), (.mv (.t 12)), none⟩,
 ⟨(some 111), (.bin .add (.t 110) (.c (.i .i64 1))), none⟩,
 ⟨(some 12), (.mv (.t 111)), none⟩]))))))
 (.skip)))))))))
 (.ops none [⟨(some 17), (.mv (.t 10)), none⟩,
 ⟨(some 18), (.bin .add (.t 17) (.c (.i .i64 1))), none⟩,
 ⟨(some 10), (.mv (.t 18)), none⟩]))))))
 (.seq (.ops none [⟨(some 8), (.mv (.c (.b false))), none⟩])
 (.ret))))⟩
theorem F83_ok : prepF Try.prog 83 = some F83 := by kernel_rfl
/-- slices.partitionEqualCmpFunc[glazier/api.Rect] -/
def F84 : AFun := ⟨90, [.t 10],
 .seq (.ops none [⟨(some 10), (.mv (.c (.i .i64 0))), none⟩])
 (.seq (.ops (some [0, 0, 0, 0, 0, 0, 48, 112, 0, 0, 768, 1792, 4083, 8179, 16383, 32767]) [⟨(some 13), (.mv (.t 0)), none⟩,
 ⟨(some 14), (.mv (.t 1)), none⟩,
 ⟨(some 15), (.mv (.t 0)), none⟩,
 ⟨(some 16), (.mv (.t 3)), none⟩,
 ⟨(some 17), (.mv (.t 0)), none⟩,
 ⟨(some 18), (.mv (.t 3)), none⟩,
 ⟨(some 19), (.ias 4 (.t 17) (.t 18)), none⟩,
 ⟨(some 20), (.ld true 4 (.t 19)), none⟩,
 ⟨(some 21), (.mv (.t 0)), none⟩,
 ⟨(some 22), (.mv (.t 1)), none⟩,
 ⟨(some 23), (.ias 4 (.t 21) (.t 22)), none⟩,
 ⟨(some 24), (.ld true 4 (.t 23)), none⟩,
 ⟨(some 25), (.ias 4 (.t 13) (.t 14)), none⟩,
 ⟨none, (.st 4 (.t 25) (.t 20)), none⟩,
 ⟨(some 26), (.ias 4 (.t 15) (.t 16)), none⟩,
 ⟨none, (.st 4 (.t 26) (.t 24)), none⟩])
 (.seq (.ops none [⟨(some 27), (.mv (.t 1)), none⟩,
 ⟨(some 28), (.bin .add (.t 27) (.c (.i .i64 1))), none⟩,
 ⟨(some 29), (.mv (.t 2)), none⟩,
 ⟨(some 30), (.bin .sub (.t 29) (.c (.i .i64 1))), none⟩,
 ⟨(some 11), (.mv (.t 28)), none⟩,
 ⟨(some 12), (.mv (.t 30)), none⟩])
 (.seq (.block 0 (.loop (.block 1 (.seq (.block 2 (.loop (.seq (.seq (.ops (some [0, 0, 3, 7, 15, 15, 15, 111, 239, 15, 15, 1551, 3599, 8191, 16383, 32767, 65535]) [⟨(some 31), (.mv (.t 11)), none⟩,
 ⟨(some 32), (.mv (.t 12)), none⟩,
 ⟨(some 33), (.bin .leq (.t 31) (.t 32)), none⟩,
 ⟨(some 34), (.mv (.t 33)), none⟩,
 ⟨(some 35), (.mv (.t 4)), (some ((some 34), true))⟩,
 ⟨(some 36), (.mv (.t 0)), (some ((some 34), true))⟩,
 ⟨(some 37), (.mv (.t 1)), (some ((some 34), true))⟩,
 ⟨(some 38), (.ias 4 (.t 36) (.t 37)), (some ((some 34), true))⟩,
 ⟨(some 39), (.ld true 4 (.t 38)), (some ((some 34), true))⟩,
 ⟨(some 40), (.mv (.t 0)), (some ((some 34), true))⟩,
 ⟨(some 41), (.mv (.t 11)), (some ((some 34), true))⟩,
 ⟨(some 42), (.ias 4 (.t 40) (.t 41)), (some ((some 34), true))⟩,
 ⟨(some 43), (.ld true 4 (.t 42)), (some ((some 34), true))⟩,
 ⟨(some 44), (.call (.t 35) [(.t 39), (.t 43)]), (some ((some 34), true))⟩,
 ⟨(some 45), (.bin .lss (.t 44) (.c (.i .i64 0))), (some ((some 34), true))⟩,
 ⟨(some 46), (.un .not (.t 45)), (some ((some 34), true))⟩,
 ⟨(some 47), (.pick (.t 34) (.t 46) (.c (.b false))), none⟩])
 (.cond (.t 47)
 (.skip)
 (.exit 2)))
 (.block 3 (.ops none [⟨(some 48), (.mv (.t 11)), none⟩,
 ⟨(some 49), (.bin .add (.t 48) (.c (.i .i64 1))), none⟩,
 ⟨(some 11), (.mv (.t 49)), none⟩])))))
 (.seq (.block 4 (.loop (.seq (.seq (.ops (some [0, 0, 3, 7, 15, 15, 15, 111, 239, 15, 15, 1551, 3599, 8191, 16383, 32767]) [⟨(some 50), (.mv (.t 11)), none⟩,
 ⟨(some 51), (.mv (.t 12)), none⟩,
 ⟨(some 52), (.bin .leq (.t 50) (.t 51)), none⟩,
 ⟨(some 53), (.mv (.t 52)), none⟩,
 ⟨(some 54), (.mv (.t 4)), (some ((some 53), true))⟩,
 ⟨(some 55), (.mv (.t 0)), (some ((some 53), true))⟩,
 ⟨(some 56), (.mv (.t 1)), (some ((some 53), true))⟩,
 ⟨(some 57), (.ias 4 (.t 55) (.t 56)), (some ((some 53), true))⟩,
 ⟨(some 58), (.ld true 4 (.t 57)), (some ((some 53), true))⟩,
 ⟨(some 59), (.mv (.t 0)), (some ((some 53), true))⟩,
 ⟨(some 60), (.mv (.t 12)), (some ((some 53), true))⟩,
 ⟨(some 61), (.ias 4 (.t 59) (.t 60)), (some ((some 53), true))⟩,
 ⟨(some 62), (.ld true 4 (.t 61)), (some ((some 53), true))⟩,
 ⟨(some 63), (.call (.t 54) [(.t 58), (.t 62)]), (some ((some 53), true))⟩,
 ⟨(some 64), (.bin .lss (.t 63) (.c (.i .i64 0))), (some ((some 53), true))⟩,
 ⟨(some 65), (.pick (.t 53) (.t 64) (.c (.b false))), none⟩])
 (.cond (.t 65)
 (.skip)
 (.exit 4)))
 (.block 5 (.ops none [⟨(some 66), (.mv (.t 12)), none⟩,
 ⟨(some 67), (.bin .sub (.t 66) (.c (.i .i64 1))), none⟩,
 ⟨(some 12), (.mv (.t 67)), none⟩])))))
 (.seq (.seq (.ops none [⟨(some 68), (.mv (.t 11)), none⟩,
 ⟨(some 69), (.mv (.t 12)), none⟩,
 ⟨(some 70), (.bin .gtr (.t 68) (.t 69)), none⟩])
 (.cond (.t 70)
 (.exit 0)
 (.skip)))
 (.seq (.ops (some [0, 0, 0, 0, 0, 0, 48, 112, 0, 0, 768, 1792, 4083, 8179, 16383, 32767]) [⟨(some 71), (.mv (.t 0)), none⟩,
 ⟨(some 72), (.mv (.t 11)), none⟩,
 ⟨(some 73), (.mv (.t 0)), none⟩,
 ⟨(some 74), (.mv (.t 12)), none⟩,
 ⟨(some 75), (.mv (.t 0)), none⟩,
 ⟨(some 76), (.mv (.t 12)), none⟩,
 ⟨(some 77), (.ias 4 (.t 75) (.t 76)), none⟩,
 ⟨(some 78), (.ld true 4 (.t 77)), none⟩,
 ⟨(some 79), (.mv (.t 0)), none⟩,
 ⟨(some 80), (.mv (.t 11)), none⟩,
 ⟨(some 81), (.ias 4 (.t 79) (.t 80)), none⟩,
 ⟨(some 82), (.ld true 4 (.t 81)), none⟩,
 ⟨(some 83), (.ias 4 (.t 71) (.t 72)), none⟩,
 ⟨none, (.st 4 (.t 83) (.t 78)), none⟩,
 ⟨(some 84), (.ias 4 (.t 73) (.t 74)), none⟩,
 ⟨none, (.st 4 (.t 84) (.t 82)), none⟩])
 (.seq (.ops none [⟨(some 85), (.mv (.t 11)), none⟩,
 ⟨(some 86), (.bin .add (.t 85) (.c (.i .i64 1))), none⟩,
 ⟨(some 11), (.mv (.t 86)), none⟩])
 (.ops none [⟨(some 87), (.mv (.t 12)), none⟩,
 ⟨(some 88), (.bin .sub (.t 87) (.c (.i .i64 1))), none⟩,
 ⟨(some 12), (.mv (.t 88)), none⟩])))))))))
 (.seq (.ops none [⟨(some 89), (.mv (.t 11)), none⟩,
 ⟨(some 10), (.mv (.t 89)), none⟩])
 (.ret)))))⟩
theorem F84_ok : prepF Try.prog 84 = some F84 := by kernel_rfl
/-- slices.partitionCmpFunc[glazier/api.Rect] -/
def F85 : AFun := ⟨178, [.t 10, .t 11],
 .seq (.ops none [⟨(some 10), (.mv (.c (.i .i64 0))), none⟩,
 ⟨(some 11), (.mv (.c (.b false))), none⟩])
 (.seq (.ops (some [0, 0, 0, 0, 0, 0, 48, 112, 0, 0, 768, 1792, 4083, 8179, 16383, 32767]) [⟨(some 14), (.mv (.t 0)), none⟩,
 ⟨(some 15), (.mv (.t 1)), none⟩,
 ⟨(some 16), (.mv (.t 0)), none⟩,
 ⟨(some 17), (.mv (.t 3)), none⟩,
 ⟨(some 18), (.mv (.t 0)), none⟩,
 ⟨(some 19), (.mv (.t 3)), none⟩,
 ⟨(some 20), (.ias 4 (.t 18) (.t 19)), none⟩,
 ⟨(some 21), (.ld true 4 (.t 20)), none⟩,
 ⟨(some 22), (.mv (.t 0)), none⟩,
 ⟨(some 23), (.mv (.t 1)), none⟩,
 ⟨(some 24), (.ias 4 (.t 22) (.t 23)), none⟩,
 ⟨(some 25), (.ld true 4 (.t 24)), none⟩,
 ⟨(some 26), (.ias 4 (.t 14) (.t 15)), none⟩,
 ⟨none, (.st 4 (.t 26) (.t 21)), none⟩,
 ⟨(some 27), (.ias 4 (.t 16) (.t 17)), none⟩,
 ⟨none, (.st 4 (.t 27) (.t 25)), none⟩])
 (.seq (.ops none [⟨(some 28), (.mv (.t 1)), none⟩,
 ⟨(some 29), (.bin .add (.t 28) (.c (.i .i64 1))), none⟩,
 ⟨(some 30), (.mv (.t 2)), none⟩,
 ⟨(some 31), (.bin .sub (.t 30) (.c (.i .i64 1))), none⟩,
 ⟨(some 12), (.mv (.t 29)), none⟩,
 ⟨(some 13), (.mv (.t 31)), none⟩])
 (.seq (.block 0 (.loop (.seq (.seq (.ops (some [0, 0, 3, 7, 15, 15, 15, 111, 239, 15, 15, 1551, 3599, 8191, 16383, 32767]) [⟨(some 32), (.mv (.t 12)), none⟩,
 ⟨(some 33), (.mv (.t 13)), none⟩,
 ⟨(some 34), (.bin .leq (.t 32) (.t 33)), none⟩,
 ⟨(some 35), (.mv (.t 34)), none⟩,
 ⟨(some 36), (.mv (.t 4)), (some ((some 35), true))⟩,
 ⟨(some 37), (.mv (.t 0)), (some ((some 35), true))⟩,
 ⟨(some 38), (.mv (.t 12)), (some ((some 35), true))⟩,
 ⟨(some 39), (.ias 4 (.t 37) (.t 38)), (some ((some 35), true))⟩,
 ⟨(some 40), (.ld true 4 (.t 39)), (some ((some 35), true))⟩,
 ⟨(some 41), (.mv (.t 0)), (some ((some 35), true))⟩,
 ⟨(some 42), (.mv (.t 1)), (some ((some 35), true))⟩,
 ⟨(some 43), (.ias 4 (.t 41) (.t 42)), (some ((some 35), true))⟩,
 ⟨(some 44), (.ld true 4 (.t 43)), (some ((some 35), true))⟩,
 ⟨(some 45), (.call (.t 36) [(.t 40), (.t 44)]), (some ((some 35), true))⟩,
 ⟨(some 46), (.bin .lss (.t 45) (.c (.i .i64 0))), (some ((some 35), true))⟩,
 ⟨(some 47), (.pick (.t 35) (.t 46) (.c (.b false))), none⟩])
 (.cond (.t 47)
 (.skip)
 (.exit 0)))
 (.block 1 (.ops none [⟨(some 48), (.mv (.t 12)), none⟩,
 ⟨(some 49), (.bin .add (.t 48) (.c (.i .i64 1))), none⟩,
 ⟨(some 12), (.mv (.t 49)), none⟩])))))
 (.seq (.block 2 (.loop (.seq (.seq (.ops (some [0, 0, 3, 7, 15, 15, 15, 111, 239, 15, 15, 1551, 3599, 8191, 16383, 32767, 65535]) [⟨(some 50), (.mv (.t 12)), none⟩,
 ⟨(some 51), (.mv (.t 13)), none⟩,
 ⟨(some 52), (.bin .leq (.t 50) (.t 51)), none⟩,
 ⟨(some 53), (.mv (.t 52)), none⟩,
 ⟨(some 54), (.mv (.t 4)), (some ((some 53), true))⟩,
 ⟨(some 55), (.mv (.t 0)), (some ((some 53), true))⟩,
 ⟨(some 56), (.mv (.t 13)), (some ((some 53), true))⟩,
 ⟨(some 57), (.ias 4 (.t 55) (.t 56)), (some ((some 53), true))⟩,
 ⟨(some 58), (.ld true 4 (.t 57)), (some ((some 53), true))⟩,
 ⟨(some 59), (.mv (.t 0)), (some ((some 53), true))⟩,
 ⟨(some 60), (.mv (.t 1)), (some ((some 53), true))⟩,
 ⟨(some 61), (.ias 4 (.t 59) (.t 60)), (some ((some 53), true))⟩,
 ⟨(some 62), (.ld true 4 (.t 61)), (some ((some 53), true))⟩,
 ⟨(some 63), (.call (.t 54) [(.t 58), (.t 62)]), (some ((some 53), true))⟩,
 ⟨(some 64), (.bin .lss (.t 63) (.c (.i .i64 0))), (some ((some 53), true))⟩,
 ⟨(some 65), (.un .not (.t 64)), (some ((some 53), true))⟩,
 ⟨(some 66), (.pick (.t 53) (.t 65) (.c (.b false))), none⟩])
 (.cond (.t 66)
 (.skip)
 (.exit 2)))
 (.block 3 (.ops none [⟨(some 67), (.mv (.t 13)), none⟩,
 ⟨(some 68), (.bin .sub (.t 67) (.c (.i .i64 1))), none⟩,
 ⟨(some 13), (.mv (.t 68)), none⟩])))))
 (.seq (.seq (.ops none [⟨(some 69), (.mv (.t 12)), none⟩,
 ⟨(some 70), (.mv (.t 13)), none⟩,
 ⟨(some 71), (.bin .gtr (.t 69) (.t 70)), none⟩])
 (.cond (.t 71)
 (.seq (.ops (some [0, 0, 0, 0, 0, 0, 48, 112, 0, 0, 768, 1792, 4083, 8179, 16383, 32767]) [⟨(some 72), (.mv (.t 0)), none⟩,
 ⟨(some 73), (.mv (.t 13)), none⟩,
 ⟨(some 74), (.mv (.t 0)), none⟩,
 ⟨(some 75), (.mv (.t 1)), none⟩,
 ⟨(some 76), (.mv (.t 0)), none⟩,
 ⟨(some 77), (.mv (.t 1)), none⟩,
 ⟨(some 78), (.ias 4 (.t 76) (.t 77)), none⟩,
 ⟨(some 79), (.ld true 4 (.t 78)), none⟩,
 ⟨(some 80), (.mv (.t 0)), none⟩,
 ⟨(some 81), (.mv (.t 13)), none⟩,
 ⟨(some 82), (.ias 4 (.t 80) (.t 81)), none⟩,
 ⟨(some 83), (.ld true 4 (.t 82)), none⟩,
 ⟨(some 84), (.ias 4 (.t 72) (.t 73)), none⟩,
 ⟨none, (.st 4 (.t 84) (.t 79)), none⟩,
 ⟨(some 85), (.ias 4 (.t 74) (.t 75)), none⟩,
 ⟨none, (.st 4 (.t 85) (.t 83)), none⟩])
 (.seq (.ops none [⟨(some 86), (.mv (.t 13)), none⟩,
 ⟨(some 10), (.mv (.t 86)), none⟩,
 ⟨(some 11), (.mv (.c (.b true))), none⟩])
 (.ret)))
 (.skip)))
 (.seq (.ops (some [0, 0, 0, 0, 0, 0, 48, 112, 0, 0, 768, 1792, 4083, 8179, 16383, 32767]) [⟨(some 87), (.mv (.t 0)), none⟩,
 ⟨(some 88), (.mv (.t 12)), none⟩,
 ⟨(some 89), (.mv (.t 0)), none⟩,
 ⟨(some 90), (.mv (.t 13)), none⟩,
 ⟨(some 91), (.mv (.t 0)), none⟩,
 ⟨(some 92), (.mv (.t 13)), none⟩,
 ⟨(some 93), (.ias 4 (.t 91) (.t 92)), none⟩,
 ⟨(some 94), (.ld true 4 (.t 93)), none⟩,
 ⟨(some 95), (.mv (.t 0)), none⟩,
 ⟨(some 96), (.mv (.t 12)), none⟩,
 ⟨(some 97), (.ias 4 (.t 95) (.t 96)), none⟩,
 ⟨(some 98), (.ld true 4 (.t 97)), none⟩,
 ⟨(some 99), (.ias 4 (.t 87) (.t 88)), none⟩,
 ⟨none, (.st 4 (.t 99) (.t 94)), none⟩,
 ⟨(some 100), (.ias 4 (.t 89) (.t 90)), none⟩,
 ⟨none, (.st 4 (.t 100) (.t 98)), none⟩])
 (.seq (.ops none [⟨(some 101), (.mv (.t 12)), none⟩,
 ⟨(some 102), (.bin .add (.t 101) (.c (.i .i64 1))), none⟩,
 ⟨(some 12), (.mv (.t 102)), none⟩])
 (.seq (.ops none [⟨(some 103), (.mv (.t 13)), none⟩,
 ⟨(some 104), (.bin .sub (.t 103) (.c (.i .i64 1))), none⟩,
 ⟨(some 13), (.mv (.t 104)), none⟩])
 (.seq (.block 4 (.loop (.block 5 (.seq (.block 6 (.loop (.seq (.seq (.ops (some [0, 0, 3, 7, 15, 15, 15, 111, 239, 15, 15, 1551, 3599, 8191, 16383, 32767]) [⟨(some 105), (.mv (.t 12)), none⟩,
 ⟨(some 106), (.mv (.t 13)), none⟩,
 ⟨(some 107), (.bin .leq (.t 105) (.t 106)), none⟩,
 ⟨(some 108), (.mv (.t 107)), none⟩,
 ⟨(some 109), (.mv (.t 4)), (some ((some 108), true))⟩,
 ⟨(some 110), (.mv (.t 0)), (some ((some 108), true))⟩,
 ⟨(some 111), (.mv (.t 12)), (some ((some 108), true))⟩,
 ⟨(some 112), (.ias 4 (.t 110) (.t 111)), (some ((some 108), true))⟩,
 ⟨(some 113), (.ld true 4 (.t 112)), (some ((some 108), true))⟩,
 ⟨(some 114), (.mv (.t 0)), (some ((some 108), true))⟩,
 ⟨(some 115), (.mv (.t 1)), (some ((some 108), true))⟩,
 ⟨(some 116), (.ias 4 (.t 114) (.t 115)), (some ((some 108), true))⟩,
 ⟨(some 117), (.ld true 4 (.t 116)), (some ((some 108), true))⟩,
 ⟨(some 118), (.call (.t 109) [(.t 113), (.t 117)]), (some ((some 108), true))⟩,
 ⟨(some 119), (.bin .lss (.t 118) (.c (.i .i64 0))), (some ((some 108), true))⟩,
 ⟨(some 120), (.pick (.t 108) (.t 119) (.c (.b false))), none⟩])
 (.cond (.t 120)
 (.skip)
 (.exit 6)))
 (.block 7 (.ops none [⟨(some 121), (.mv (.t 12)), none⟩,
 ⟨(some 122), (.bin .add (.t 121) (.c (.i .i64 1))), none⟩,
 ⟨(some 12), (.mv (.t 122)), none⟩])))))
 (.seq (.block 8 (.loop (.seq (.seq (.ops (some [0, 0, 3, 7, 15, 15, 15, 111, 239, 15, 15, 1551, 3599, 8191, 16383, 32767, 65535]) [⟨(some 123), (.mv (.t 12)), none⟩,
 ⟨(some 124), (.mv (.t 13)), none⟩,
 ⟨(some 125), (.bin .leq (.t 123) (.t 124)), none⟩,
 ⟨(some 126), (.mv (.t 125)), none⟩,
 ⟨(some 127), (.mv (.t 4)), (some ((some 126), true))⟩,
 ⟨(some 128), (.mv (.t 0)), (some ((some 126), true))⟩,
 ⟨(some 129), (.mv (.t 13)), (some ((some 126), true))⟩,
 ⟨(some 130), (.ias 4 (.t 128) (.t 129)), (some ((some 126), true))⟩,
 ⟨(some 131), (.ld true 4 (.t 130)), (some ((some 126), true))⟩,
 ⟨(some 132), (.mv (.t 0)), (some ((some 126), true))⟩,
 ⟨(some 133), (.mv (.t 1)), (some ((some 126), true))⟩,
 ⟨(some 134), (.ias 4 (.t 132) (.t 133)), (some ((some 126), true))⟩,
 ⟨(some 135), (.ld true 4 (.t 134)), (some ((some 126), true))⟩,
 ⟨(some 136), (.call (.t 127) [(.t 131), (.t 135)]), (some ((some 126), true))⟩,
 ⟨(some 137), (.bin .lss (.t 136) (.c (.i .i64 0))), (some ((some 126), true))⟩,
 ⟨(some 138), (.un .not (.t 137)), (some ((some 126), true))⟩,
 ⟨(some 139), (.pick (.t 126) (.t 138) (.c (.b false))), none⟩])
 (.cond (.t 139)
 (.skip)
 (.exit 8)))
 (.block 9 (.ops none [⟨(some 140), (.mv (.t 13)), none⟩,
 ⟨(some 141), (.bin .sub (.t 140) (.c (.i .i64 1))), none⟩,
 ⟨(some 13), (.mv (.t 141)), none⟩])))))
 (.seq (.seq (.ops none [⟨(some 142), (.mv (.t 12)), none⟩,
 ⟨(some 143), (.mv (.t 13)), none⟩,
 ⟨(some 144), (.bin .gtr (.t 142) (.t 143)), none⟩])
 (.cond (.t 144)
 (.exit 4)
 (.skip)))
 (.seq (.ops (some [0, 0, 0, 0, 0, 0, 48, 112, 0, 0, 768, 1792, 4083, 8179, 16383, 32767]) [⟨(some 145), (.mv (.t 0)), none⟩,
 ⟨(some 146), (.mv (.t 12)), none⟩,
 ⟨(some 147), (.mv (.t 0)), none⟩,
 ⟨(some 148), (.mv (.t 13)), none⟩,
 ⟨(some 149), (.mv (.t 0)), none⟩,
 ⟨(some 150), (.mv (.t 13)), none⟩,
 ⟨(some 151), (.ias 4 (.t 149) (.t 150)), none⟩,
 ⟨(some 152), (.ld true 4 (.t 151)), none⟩,
 ⟨(some 153), (.mv (.t 0)), none⟩,
 ⟨(some 154), (.mv (.t 12)), none⟩,
 ⟨(some 155), (.ias 4 (.t 153) (.t 154)), none⟩,
 ⟨(some 156), (.ld true 4 (.t 155)), none⟩,
 ⟨(some 157), (.ias 4 (.t 145) (.t 146)), none⟩,
 ⟨none, (.st 4 (.t 157) (.t 152)), none⟩,
 ⟨(some 158), (.ias 4 (.t 147) (.t 148)), none⟩,
 ⟨none, (.st 4 (.t 158) (.t 156)), none⟩])
 (.seq (.ops none [⟨(some 159), (.mv (.t 12)), none⟩,
 ⟨(some 160), (.bin .add (.t 159) (.c (.i .i64 1))), none⟩,
 ⟨(some 12), (.mv (.t 160)), none⟩])
 (.ops none [⟨(some 161), (.mv (.t 13)), none⟩,
 ⟨(some 162), (.bin .sub (.t 161) (.c (.i .i64 1))), none⟩,
 ⟨(some 13), (.mv (.t 162)), none⟩])))))))))
 (.seq (.ops (some [0, 0, 0, 0, 0, 0, 48, 112, 0, 0, 768, 1792, 4083, 8179, 16383, 32767]) [⟨(some 163), (.mv (.t 0)), none⟩,
 ⟨(some 164), (.mv (.t 13)), none⟩,
 ⟨(some 165), (.mv (.t 0)), none⟩,
 ⟨(some 166), (.mv (.t 1)), none⟩,
 ⟨(some 167), (.mv (.t 0)), none⟩,
 ⟨(some 168), (.mv (.t 1)), none⟩,
 ⟨(some 169), (.ias 4 (.t 167) (.t 168)), none⟩,
 ⟨(some 170), (.ld true 4 (.t 169)), none⟩,
 ⟨(some 171), (.mv (.t 0)), none⟩,
 ⟨(some 172), (.mv (.t 13)), none⟩,
 ⟨(some 173), (.ias 4 (.t 171) (.t 172)), none⟩,
 ⟨(some 174), (.ld true 4 (.t 173)), none⟩,
 ⟨(some 175), (.ias 4 (.t 163) (.t 164)), none⟩,
 ⟨none, (.st 4 (.t 175) (.t 170)), none⟩,
 ⟨(some 176), (.ias 4 (.t 165) (.t 166)), none⟩,
 ⟨none, (.st 4 (.t 176) (.t 174)), none⟩])
 (.seq (.ops none [⟨(some 177), (.mv (.t 13)), none⟩,
 ⟨(some 10), (.mv (.t 177)), none⟩,
 ⟨(some 11), (.mv (.c (.b false))), none⟩])
 (.ret))))))))))))⟩
theorem F85_ok : prepF Try.prog 85 = some F85 := by kernel_rfl
/-- math/bits.Len32 -/
def F86 : AFun := ⟨19, [.t 2],
 .seq (.ops none [⟨(some 2), (.mv (.c (.i .i64 0))), none⟩])
 (.seq (.seq (.ops none [⟨(some 3), (.mv (.t 0)), none⟩,
 ⟨(some 4), (.bin .geq (.t 3) (.c (.i .u32 65536))), none⟩])
 (.cond (.t 4)
 (.seq (.ops none [⟨(some 5), (.mv (.t 0)), none⟩,
 ⟨(some 6), (.bin .shr (.t 5) (.c (.i .u64 16))), none⟩,
 ⟨(some 0), (.mv (.t 6)), none⟩])
 (.ops none [⟨(some 2), (.mv (.c (.i .i64 16))), none⟩]))
 (.skip)))
 (.seq (.seq (.ops none [⟨(some 7), (.mv (.t 0)), none⟩,
 ⟨(some 8), (.bin .geq (.t 7) (.c (.i .u32 256))), none⟩])
 (.cond (.t 8)
 (.seq (.ops none [⟨(some 9), (.mv (.t 0)), none⟩,
 ⟨(some 10), (.bin .shr (.t 9) (.c (.i .u64 8))), none⟩,
 ⟨(some 0), (.mv (.t 10)), none⟩])
 (.ops none [⟨(some 11), (.mv (.t 2)), none⟩,
 ⟨(some 12), (.bin .add (.t 11) (.c (.i .i64 8))), none⟩,
 ⟨(some 2), (.mv (.t 12)), none⟩]))
 (.skip)))
 (.seq (.ops none [⟨(some 13), (.mv (.t 2)), none⟩,
 ⟨(some 14), (.mv (.t 0)), none⟩,
 ⟨(some 15), (.conv .u8 (.t 14)), none⟩,
 ⟨(some 16), (.ixs (.c (.s [0, 1, 2, 2, 3, 3, 3, 3, 4, 4, 4, 4, 4, 4, 4, 4, 5, 5, 5, 5, 5, 5, 5, 5, 5, 5, 5, 5, 5, 5, 5, 5, 6, 6, 6, 6, 6, 6, 6, 6, 6, 6, 6, 6, 6, 6, 6, 6, 6, 6, 6, 6, 6, 6, 6, 6, 6, 6, 6, 6, 6, 6, 6, 6, 7, 7, 7, 7, 7, 7, 7, 7, 7, 7, 7, 7, 7, 7, 7, 7, 7, 7, 7, 7, 7, 7, 7, 7, 7, 7, 7, 7, 7, 7, 7, 7, 7, 7, 7, 7, 7, 7, 7, 7, 7, 7, 7, 7, 7, 7, 7, 7, 7, 7, 7, 7, 7, 7, 7, 7, 7, 7, 7, 7, 7, 7, 7, 7, 8, 8, 8, 8, 8, 8, 8, 8, 8, 8, 8, 8, 8, 8, 8, 8, 8, 8, 8, 8, 8, 8, 8, 8, 8, 8, 8, 8, 8, 8, 8, 8, 8, 8, 8, 8, 8, 8, 8, 8, 8, 8, 8, 8, 8, 8, 8, 8, 8, 8, 8, 8, 8, 8, 8, 8, 8, 8, 8, 8, 8, 8, 8, 8, 8, 8, 8, 8, 8, 8, 8, 8, 8, 8, 8, 8, 8, 8, 8, 8, 8, 8, 8, 8, 8, 8, 8, 8, 8, 8, 8, 8, 8, 8, 8, 8, 8, 8, 8, 8, 8, 8, 8, 8, 8, 8, 8, 8, 8, 8, 8, 8, 8, 8, 8, 8, 8, 8, 8, 8, 8, 8, 8, 8, 8, 8, 8, 8])) (.t 15)), none⟩,
 ⟨(some 17), (.conv .i64 (.t 16)), none⟩,
 ⟨(some 18), (.bin .add (.t 13) (.t 17)), none⟩,
 ⟨(some 2), (.mv (.t 18)), none⟩])
 (.ret))))⟩
theorem F86_ok : prepF Try.prog 86 = some F86 := by kernel_rfl
/-- math/bits.Len64 -/
def F87 : AFun := ⟨25, [.t 2],
 .seq (.ops none [⟨(some 2), (.mv (.c (.i .i64 0))), none⟩])
 (.seq (.seq (.ops none [⟨(some 3), (.mv (.t 0)), none⟩,
 ⟨(some 4), (.bin .geq (.t 3) (.c (.i .u64 4294967296))), none⟩])
 (.cond (.t 4)
 (.seq (.ops none [⟨(some 5), (.mv (.t 0)), none⟩,
 ⟨(some 6), (.bin .shr (.t 5) (.c (.i .u64 32))), none⟩,
 ⟨(some 0), (.mv (.t 6)), none⟩])
 (.ops none [⟨(some 2), (.mv (.c (.i .i64 32))), none⟩]))
 (.skip)))
 (.seq (.seq (.ops none [⟨(some 7), (.mv (.t 0)), none⟩,
 ⟨(some 8), (.bin .geq (.t 7) (.c (.i .u64 65536))), none⟩])
 (.cond (.t 8)
 (.seq (.ops none [⟨(some 9), (.mv (.t 0)), none⟩,
 ⟨(some 10), (.bin .shr (.t 9) (.c (.i .u64 16))), none⟩,
 ⟨(some 0), (.mv (.t 10)), none⟩])
 (.ops none [⟨(some 11), (.mv (.t 2)), none⟩,
 ⟨(some 12), (.bin .add (.t 11) (.c (.i .i64 16))), none⟩,
 ⟨(some 2), (.mv (.t 12)), none⟩]))
 (.skip)))
 (.seq (.seq (.ops none [⟨(some 13), (.mv (.t 0)), none⟩,
 ⟨(some 14), (.bin .geq (.t 13) (.c (.i .u64 256))), none⟩])
 (.cond (.t 14)
 (.seq (.ops none [⟨(some 15), (.mv (.t 0)), none⟩,
 ⟨(some 16), (.bin .shr (.t 15) (.c (.i .u64 8))), none⟩,
 ⟨(some 0), (.mv (.t 16)), none⟩])
 (.ops none [⟨(some 17), (.mv (.t 2)), none⟩,
 ⟨(some 18), (.bin .add (.t 17) (.c (.i .i64 8))), none⟩,
 ⟨(some 2), (.mv (.t 18)), none⟩]))
 (.skip)))
 (.seq (.ops none [⟨(some 19), (.mv (.t 2)), none⟩,
 ⟨(some 20), (.mv (.t 0)), none⟩,
 ⟨(some 21), (.conv .u8 (.t 20)), none⟩,
 ⟨(some 22), (.ixs (.c (.s [0, 1, 2, 2, 3, 3, 3, 3, 4, 4, 4, 4, 4, 4, 4, 4, 5, 5, 5, 5, 5, 5, 5, 5, 5, 5, 5, 5, 5, 5, 5, 5, 6, 6, 6, 6, 6, 6, 6, 6, 6, 6, 6, 6, 6, 6, 6, 6, 6, 6, 6, 6, 6, 6, 6, 6, 6, 6, 6, 6, 6, 6, 6, 6, 7, 7, 7, 7, 7, 7, 7, 7, 7, 7, 7, 7, 7, 7, 7, 7, 7, 7, 7, 7, 7, 7, 7, 7, 7, 7, 7, 7, 7, 7, 7, 7, 7, 7, 7, 7, 7, 7, 7, 7, 7, 7, 7, 7, 7, 7, 7, 7, 7, 7, 7, 7, 7, 7, 7, 7, 7, 7, 7, 7, 7, 7, 7, 7, 8, 8, 8, 8, 8, 8, 8, 8, 8, 8, 8, 8, 8, 8, 8, 8, 8, 8, 8, 8, 8, 8, 8, 8, 8, 8, 8, 8, 8, 8, 8, 8, 8, 8, 8, 8, 8, 8, 8, 8, 8, 8, 8, 8, 8, 8, 8, 8, 8, 8, 8, 8, 8, 8, 8, 8, 8, 8, 8, 8, 8, 8, 8, 8, 8, 8, 8, 8, 8, 8, 8, 8, 8, 8, 8, 8, 8, 8, 8, 8, 8, 8, 8, 8, 8, 8, 8, 8, 8, 8, 8, 8, 8, 8, 8, 8, 8, 8, 8, 8, 8, 8, 8, 8, 8, 8, 8, 8, 8, 8, 8, 8, 8, 8, 8, 8, 8, 8, 8, 8, 8, 8, 8, 8, 8, 8, 8, 8])) (.t 21)), none⟩,
 ⟨(some 23), (.conv .i64 (.t 22)), none⟩,
 ⟨(some 24), (.bin .add (.t 19) (.t 23)), none⟩,
 ⟨(some 2), (.mv (.t 24)), none⟩])
 (.ret)))))⟩
theorem F87_ok : prepF Try.prog 87 = some F87 := by kernel_rfl
/-- slices.pdqsortOrdered[int] -/
def F88 : AFun := ⟨134, [],
 .seq (.ops none [⟨(some 8), (.mv (.c (.b true))), none⟩])
 (.seq (.ops none [⟨(some 9), (.mv (.c (.b true))), none⟩])
 (.block 0 (.loop (.block 1 (.seq (.ops none [⟨(some 19), (.mv (.t 2)), none⟩,
 ⟨(some 20), (.mv (.t 1)), none⟩,
 ⟨(some 21), (.bin .sub (.t 19) (.t 20)), none⟩,
 ⟨(some 10), (.mv (.t 21)), none⟩])
 (.seq (.seq (.ops none [⟨(some 22), (.mv (.t 10)), none⟩,
 ⟨(some 23), (.bin .leq (.t 22) (.c (.i .i64 12))), none⟩])
 (.cond (.t 23)
 (.seq (.ops none [⟨(some 24), (.mv (.t 0)), none⟩,
 ⟨(some 25), (.mv (.t 1)), none⟩,
 ⟨(some 26), (.mv (.t 2)), none⟩,
 ⟨(some 27), (.call (.f 95) [(.t 24), (.t 25), (.t 26)]), none⟩])
 (.ret))
 (.skip)))
 (.seq (.seq (.ops none [⟨(some 28), (.mv (.t 3)), none⟩,
 ⟨(some 29), (.bin .eql (.t 28) (.c (.i .i64 0))), none⟩])
 (.cond (.t 29)
 (.seq (.ops none [⟨(some 30), (.mv (.t 0)), none⟩,
 ⟨(some 31), (.mv (.t 1)), none⟩,
 ⟨(some 32), (.mv (.t 2)), none⟩,
 ⟨(some 33), (.call (.f 96) [(.t 30), (.t 31), (.t 32)]), none⟩])
 (.ret))
 (.skip)))
 (.seq (.seq (.ops none [⟨(some 34), (.mv (.t 8)), none⟩,
 ⟨(some 35), (.un .not (.t 34)), none⟩])
 (.cond (.t 35)
 (.seq (.ops none [⟨(some 36), (.mv (.t 0)), none⟩,
 ⟨(some 37), (.mv (.t 1)), none⟩,
 ⟨(some 38), (.mv (.t 2)), none⟩,
 ⟨(some 39), (.call (.f 97) [(.t 36), (.t 37), (.t 38)]), none⟩])
 (.ops none [⟨(some 40), (.mv (.t 3)), none⟩,
 ⟨(some 41), (.bin .sub (.t 40) (.c (.i .i64 1))), none⟩,
 ⟨(some 3), (.mv (.t 41)), none⟩]))
 (.skip)))
 (.seq (.ops none [⟨(some 43), (.mv (.t 0)), none⟩,
 ⟨(some 44), (.mv (.t 1)), none⟩,
 ⟨(some 45), (.mv (.t 2)), none⟩,
 ⟨(some 46), (.call (.f 98) [(.t 43), (.t 44), (.t 45)]), none⟩,
 ⟨(some 42), (.mv (.t 46)), none⟩,
 ⟨(some 47), (.ext (.t 42) 0), none⟩,
 ⟨(some 48), (.ext (.t 42) 1), none⟩,
 ⟨(some 11), (.mv (.t 47)), none⟩,
 ⟨(some 12), (.mv (.t 48)), none⟩])
 (.seq (.seq (.ops none [⟨(some 49), (.mv (.t 12)), none⟩,
 ⟨(some 50), (.bin .eql (.t 49) (.c (.i .i64 2))), none⟩])
 (.cond (.t 50)
 (.seq (.ops none [⟨(some 51), (.mv (.t 0)), none⟩,
 ⟨(some 52), (.mv (.t 1)), none⟩,
 ⟨(some 53), (.mv (.t 2)), none⟩,
 ⟨(some 54), (.call (.f 99) [(.t 51), (.t 52), (.t 53)]), none⟩])
 (.seq (.ops none [⟨(some 55), (.mv (.t 2)), none⟩,
 ⟨(some 56), (.bin .sub (.t 55) (.c (.i .i64 1))), none⟩,
 ⟨(some 57), (.mv (.t 11)), none⟩,
 ⟨(some 58), (.mv (.t 1)), none⟩,
 ⟨(some 59), (.bin .sub (.t 57) (.t 58)), none⟩,
 ⟨(some 60), (.bin .sub (.t 56) (.t 59)), none⟩,
 ⟨(some 11), (.mv (.t 60)), none⟩])
 (.ops none [⟨(some 12), (.mv (.c (.i .i64 1))), none⟩])))
 (.skip)))
 (.seq (.seq (.ops none [⟨(some 61), (.mv (.t 8)), none⟩,
 ⟨(some 62), (.mv (.t 61)), none⟩,
 ⟨(some 63), (.mv (.t 9)), (some ((some 62), true))⟩,
 ⟨(some 64), (.pick (.t 62) (.t 63) (.c (.b false))), none⟩,
 ⟨(some 65), (.mv (.t 64)), none⟩,
 ⟨(some 66), (.mv (.t 12)), (some ((some 65), true))⟩,
 ⟨(some 67), (.bin .eql (.t 66) (.c (.i .i64 1))), (some ((some 65), true))⟩,
 ⟨(some 68), (.pick (.t 65) (.t 67) (.c (.b false))), none⟩])
 (.cond (.t 68)
 (.seq (.ops none [⟨(some 69), (.mv (.t 0)), none⟩,
 ⟨(some 70), (.mv (.t 1)), none⟩,
 ⟨(some 71), (.mv (.t 2)), none⟩,
 ⟨(some 72), (.call (.f 100) [(.t 69), (.t 70), (.t 71)]), none⟩])
 (.cond (.t 72)
 (.ret)
 (.skip)))
 (.skip)))
 (.seq (.seq (.ops (some [0, 1, 3, 7, 7, 23, 63, 127, 7, 7, 775, 1799, 4095, 8191, 16383]) [⟨(some 73), (.mv (.t 1)), none⟩,
 ⟨(some 74), (.bin .gtr (.t 73) (.c (.i .i64 0))), none⟩,
 ⟨(some 75), (.mv (.t 74)), none⟩,
 ⟨(some 76), (.mv (.t 0)), (some ((some 75), true))⟩,
 ⟨(some 77), (.mv (.t 1)), (some ((some 75), true))⟩,
 ⟨(some 78), (.bin .sub (.t 77) (.c (.i .i64 1))), (some ((some 75), true))⟩,
 ⟨(some 79), (.ias 1 (.t 76) (.t 78)), (some ((some 75), true))⟩,
 ⟨(some 80), (.ld false 1 (.t 79)), (some ((some 75), true))⟩,
 ⟨(some 81), (.mv (.t 0)), (some ((some 75), true))⟩,
 ⟨(some 82), (.mv (.t 11)), (some ((some 75), true))⟩,
 ⟨(some 83), (.ias 1 (.t 81) (.t 82)), (some ((some 75), true))⟩,
 ⟨(some 84), (.ld false 1 (.t 83)), (some ((some 75), true))⟩,
 ⟨(some 85), (.call (.f 101) [(.t 80), (.t 84)]), (some ((some 75), true))⟩,
 ⟨(some 86), (.un .not (.t 85)), (some ((some 75), true))⟩,
 ⟨(some 87), (.pick (.t 75) (.t 86) (.c (.b false))), none⟩])
 (.cond (.t 87)
 (.seq (.ops none [⟨(some 88), (.mv (.t 0)), none⟩,
 ⟨(some 89), (.mv (.t 1)), none⟩,
 ⟨(some 90), (.mv (.t 2)), none⟩,
 ⟨(some 91), (.mv (.t 11)), none⟩,
 ⟨(some 92), (.call (.f 102) [(.t 88), (.t 89), (.t 90), (.t 91)]), none⟩,
 ⟨(some 13), (.mv (.t 92)), none⟩])
 (.seq (.ops none [⟨(some 93), (.mv (.t 13)), none⟩,
 ⟨(some 1), (.mv (.t 93)), none⟩])
 (.exit 1)))
 (.skip)))
 (.seq (.ops none [⟨(some 95), (.mv (.t 0)), none⟩,
 ⟨(some 96), (.mv (.t 1)), none⟩,
 ⟨(some 97), (.mv (.t 2)), none⟩,
 ⟨(some 98), (.mv (.t 11)), none⟩,
 ⟨(some 99), (.call (.f 103) [(.t 95), (.t 96), (.t 97), (.t 98)]), none⟩,
 ⟨(some 94), (.mv (.t 99)), none⟩,
 ⟨(some 100), (.ext (.t 94) 0), none⟩,
 ⟨(some 101), (.ext (.t 94) 1), none⟩,
 ⟨(some 14), (.mv (.t 100)), none⟩,
 ⟨(some 15), (.mv (.t 101)), none⟩])
 (.seq (.ops none [⟨(some 102), (.mv (.t 15)), none⟩,
 ⟨(some 9), (.mv (.t 102)), none⟩])
 (.seq (.ops none [⟨(some 103), (.mv (.t 14)), none⟩,
 ⟨(some 104), (.mv (.t 1)), none⟩,
 ⟨(some 105), (.bin .sub (.t 103) (.t 104)), none⟩,
 ⟨(some 106), (.mv (.t 2)), none⟩,
 ⟨(some 107), (.mv (.t 14)), none⟩,
 ⟨(some 108), (.bin .sub (.t 106) (.t 107)), none⟩,
 ⟨(some 16), (.mv (.t 105)), none⟩,
 ⟨(some 17), (.mv (.t 108)), none⟩])
 (.seq (.ops none [⟨(some 109), (.mv (.t 10)), none⟩,
 ⟨(some 110), (.bin .quo (.t 109) (.c (.i .i64 8))), none⟩,
 ⟨(some 18), (.mv (.t 110)), none⟩])
 (.seq (.ops none [⟨(some 111), (.mv (.t 16)), none⟩,
 ⟨(some 112), (.mv (.t 17)), none⟩,
 ⟨(some 113), (.bin .lss (.t 111) (.t 112)), none⟩])
 (.cond (.t 113)
 (.seq (.ops none [⟨(some 114), (.mv (.t 16)), none⟩,
 ⟨(some 115), (.mv (.t 18)), none⟩,
 ⟨(some 116), (.bin .geq (.t 114) (.t 115)), none⟩,
 ⟨(some 8), (.mv (.t 116)), none⟩])
 (.seq (.ops none [⟨(some 117), (.mv (.t 0)), none⟩,
 ⟨(some 118), (.mv (.t 1)), none⟩,
 ⟨(some 119), (.mv (.t 14)), none⟩,
 ⟨(some 120), (.mv (.t 3)), none⟩,
 ⟨(some 121), (.call (.f 88) [(.t 117), (.t 118), (.t 119), (.t 120)]), none⟩])
 (.ops none [⟨(some 122), (.mv (.t 14)), none⟩,
 ⟨(some 123), (.bin .add (.t 122) (.c (.i .i64 1))), none⟩,
 ⟨(some 1), (.mv (.t 123)), none⟩])))
 (.seq (.ops none [⟨(some 124), (.mv (.t 17)), none⟩,
 ⟨(some 125), (.mv (.t 18)), none⟩,
 ⟨(some 126), (.bin .geq (.t 124) (.t 125)), none⟩,
 ⟨(some 8), (.mv (.t 126)), none⟩])
 (.seq (.ops none [⟨(some 127), (.mv (.t 0)), none⟩,
 ⟨(some 128), (.mv (.t 14)), none⟩,
 ⟨(some 129), (.bin .add (.t 128) (.c (.i .i64 1))), none⟩,
 ⟨(some 130), (.mv (.t 2)), none⟩,
 ⟨(some 131), (.mv (.t 3)), none⟩,
 ⟨(some 132), (.call (.f 88) [(.t 127), (.t 129), (.t 130), (.t 131)]), none⟩])
 (.ops none [⟨(some 133), (.mv (.t 14)), none⟩,
 ⟨(some 2), (.mv (.t 133)), none⟩])))))))))))))))))))))⟩
theorem F88_ok : prepF Try.prog 88 = some F88 := by kernel_rfl
/-- slices.Clone[[]glazier/api.Rect,glazier/api.Rect] -/
def F89 : AFun := ⟨8, [.t 2],
 .seq (.ops none [⟨(some 2), (.mv (.c .nils)), none⟩])
 (.seq (.seq (.ops none [⟨(some 3), (.mv (.t 0)), none⟩,
 ⟨(some 4), (.eq1 false 4 (.t 3) (.c .nils)), none⟩])
 (.cond (.t 4)
 (.seq (.ops none [⟨(some 2), (.mv (.c .nils)), none⟩])
 (.ret))
 (.skip)))
 (.seq (.ops none [⟨(some 5), (.lit 4 0 [] []), none⟩,
 ⟨(some 6), (.mv (.t 0)), none⟩,
 ⟨(some 7), (.app 4 32 [(.i .i64 0), (.i .i64 0), (.i .i64 0), (.i .i64 0)] (.t 5) (.t 6)), none⟩,
 ⟨(some 2), (.mv (.t 7)), none⟩])
 (.ret)))⟩
theorem F89_ok : prepF Try.prog 89 = some F89 := by kernel_rfl
/-- slices.siftDownCmpFunc[glazier/api.Rect] -/
def F90 : AFun := ⟨82, [],
 .seq (.ops none [⟨(some 12), (.mv (.t 1)), none⟩,
 ⟨(some 10), (.mv (.t 12)), none⟩])
 (.block 0 (.loop (.block 1 (.seq (.ops none [⟨(some 13), (.mv (.t 10)), none⟩,
 ⟨(some 14), (.bin .mul (.c (.i .i64 2)) (.t 13)), none⟩,
 ⟨(some 15), (.bin .add (.t 14) (.c (.i .i64 1))), none⟩,
 ⟨(some 11), (.mv (.t 15)), none⟩])
 (.seq (.seq (.ops none [⟨(some 16), (.mv (.t 11)), none⟩,
 ⟨(some 17), (.mv (.t 2)), none⟩,
 ⟨(some 18), (.bin .geq (.t 16) (.t 17)), none⟩])
 (.cond (.t 18)
 (.exit 0)
 (.skip)))
 (.seq (.seq (.ops (some [0, 1, 0, 7, 15, 31, 31, 31, 31, 415, 991, 2015, 31, 31, 31, 24607, 57375, 127007, 258079, 524287, 1048575, 2097151]) [⟨(some 19), (.mv (.t 11)), none⟩,
 ⟨(some 20), (.bin .add (.t 19) (.c (.i .i64 1))), none⟩,
 ⟨(some 21), (.mv (.t 2)), none⟩,
 ⟨(some 22), (.bin .lss (.t 20) (.t 21)), none⟩,
 ⟨(some 23), (.mv (.t 22)), none⟩,
 ⟨(some 24), (.mv (.t 4)), (some ((some 23), true))⟩,
 ⟨(some 25), (.mv (.t 0)), (some ((some 23), true))⟩,
 ⟨(some 26), (.mv (.t 3)), (some ((some 23), true))⟩,
 ⟨(some 27), (.mv (.t 11)), (some ((some 23), true))⟩,
 ⟨(some 28), (.bin .add (.t 26) (.t 27)), (some ((some 23), true))⟩,
 ⟨(some 29), (.ias 4 (.t 25) (.t 28)), (some ((some 23), true))⟩,
 ⟨(some 30), (.ld true 4 (.t 29)), (some ((some 23), true))⟩,
 ⟨(some 31), (.mv (.t 0)), (some ((some 23), true))⟩,
 ⟨(some 32), (.mv (.t 3)), (some ((some 23), true))⟩,
 ⟨(some 33), (.mv (.t 11)), (some ((some 23), true))⟩,
 ⟨(some 34), (.bin .add (.t 32) (.t 33)), (some ((some 23), true))⟩,
 ⟨(some 35), (.bin .add (.t 34) (.c (.i .i64 1))), (some ((some 23), true))⟩,
 ⟨(some 36), (.ias 4 (.t 31) (.t 35)), (some ((some 23), true))⟩,
 ⟨(some 37), (.ld true 4 (.t 36)), (some ((some 23), true))⟩,
 ⟨(some 38), (.call (.t 24) [(.t 30), (.t 37)]), (some ((some 23), true))⟩,
 ⟨(some 39), (.bin .lss (.t 38) (.c (.i .i64 0))), (some ((some 23), true))⟩,
 ⟨(some 40), (.pick (.t 23) (.t 39) (.c (.b false))), none⟩])
 (.cond (.t 40)
 (.ops none [⟨(some 41), (.mv (.t 11)), none⟩,
 ⟨(some 42), (.bin .add (.t 41) (.c (.i .i64 1))), none⟩,
 ⟨(some 11), (.mv (.t 42)), none⟩])
 (.skip)))
 (.seq (.seq (.ops (some [0, 0, 0, 0, 12, 30, 62, 0, 0, 0, 768, 1920, 3968, 8191, 16383, 32767]) [⟨(some 43), (.mv (.t 4)), none⟩,
 ⟨(some 44), (.mv (.t 0)), none⟩,
 ⟨(some 45), (.mv (.t 3)), none⟩,
 ⟨(some 46), (.mv (.t 10)), none⟩,
 ⟨(some 47), (.bin .add (.t 45) (.t 46)), none⟩,
 ⟨(some 48), (.ias 4 (.t 44) (.t 47)), none⟩,
 ⟨(some 49), (.ld true 4 (.t 48)), none⟩,
 ⟨(some 50), (.mv (.t 0)), none⟩,
 ⟨(some 51), (.mv (.t 3)), none⟩,
 ⟨(some 52), (.mv (.t 11)), none⟩,
 ⟨(some 53), (.bin .add (.t 51) (.t 52)), none⟩,
 ⟨(some 54), (.ias 4 (.t 50) (.t 53)), none⟩,
 ⟨(some 55), (.ld true 4 (.t 54)), none⟩,
 ⟨(some 56), (.call (.t 43) [(.t 49), (.t 55)]), none⟩,
 ⟨(some 57), (.bin .lss (.t 56) (.c (.i .i64 0))), none⟩,
 ⟨(some 58), (.un .not (.t 57)), none⟩])
 (.cond (.t 58)
 (.ret)
 (.skip)))
 (.seq (.ops (some [0, 0, 0, 6, 0, 0, 0, 96, 0, 0, 0, 1536, 3840, 7936, 0, 0, 0, 98304, 245760, 507904, 1048335, 2096911, 4194303, 8388607]) [⟨(some 59), (.mv (.t 0)), none⟩,
 ⟨(some 60), (.mv (.t 3)), none⟩,
 ⟨(some 61), (.mv (.t 10)), none⟩,
 ⟨(some 62), (.bin .add (.t 60) (.t 61)), none⟩,
 ⟨(some 63), (.mv (.t 0)), none⟩,
 ⟨(some 64), (.mv (.t 3)), none⟩,
 ⟨(some 65), (.mv (.t 11)), none⟩,
 ⟨(some 66), (.bin .add (.t 64) (.t 65)), none⟩,
 ⟨(some 67), (.mv (.t 0)), none⟩,
 ⟨(some 68), (.mv (.t 3)), none⟩,
 ⟨(some 69), (.mv (.t 11)), none⟩,
 ⟨(some 70), (.bin .add (.t 68) (.t 69)), none⟩,
 ⟨(some 71), (.ias 4 (.t 67) (.t 70)), none⟩,
 ⟨(some 72), (.ld true 4 (.t 71)), none⟩,
 ⟨(some 73), (.mv (.t 0)), none⟩,
 ⟨(some 74), (.mv (.t 3)), none⟩,
 ⟨(some 75), (.mv (.t 10)), none⟩,
 ⟨(some 76), (.bin .add (.t 74) (.t 75)), none⟩,
 ⟨(some 77), (.ias 4 (.t 73) (.t 76)), none⟩,
 ⟨(some 78), (.ld true 4 (.t 77)), none⟩,
 ⟨(some 79), (.ias 4 (.t 59) (.t 62)), none⟩,
 ⟨none, (.st 4 (.t 79) (.t 72)), none⟩,
 ⟨(some 80), (.ias 4 (.t 63) (.t 66)), none⟩,
 ⟨none, (.st 4 (.t 80) (.t 78)), none⟩])
 (.ops none [⟨(some 81), (.mv (.t 11)), none⟩,
 ⟨(some 10), (.mv (.t 81)), none⟩])))))))))⟩
theorem F90_ok : prepF Try.prog 90 = some F90 := by kernel_rfl
/-- slices.nextPowerOfTwo -/
def F91 : AFun := ⟨7, [.t 2],
 .seq (.ops none [⟨(some 2), (.mv (.c (.i .u64 0))), none⟩])
 (.seq (.ops none [⟨(some 3), (.mv (.t 0)), none⟩,
 ⟨(some 4), (.conv .u64 (.t 3)), none⟩,
 ⟨(some 5), (.call (.f 64) [(.t 4)]), none⟩,
 ⟨(some 6), (.bin .shl (.c (.i .u64 1)) (.t 5)), none⟩,
 ⟨(some 2), (.mv (.t 6)), none⟩])
 (.ret))⟩
theorem F91_ok : prepF Try.prog 91 = some F91 := by kernel_rfl
/-- (*slices.xorshift).Next -/
def F92 : AFun := ⟨33, [.t 2],
 .seq (.ops none [⟨(some 2), (.mv (.c (.i .u64 0))), none⟩])
 (.seq (.ops (some [0, 1, 3, 0, 8, 24, 56, 127, 255, 511]) [⟨(some 3), (.mv (.t 0)), none⟩,
 ⟨(some 4), (.nilc (.t 3)), none⟩,
 ⟨(some 5), (.ld false 1 (.t 4)), none⟩,
 ⟨(some 6), (.mv (.t 0)), none⟩,
 ⟨(some 7), (.nilc (.t 6)), none⟩,
 ⟨(some 8), (.ld false 1 (.t 7)), none⟩,
 ⟨(some 9), (.bin .shl (.t 8) (.c (.i .u64 13))), none⟩,
 ⟨(some 10), (.bin .xor (.t 5) (.t 9)), none⟩,
 ⟨(some 11), (.nilc (.t 3)), none⟩,
 ⟨none, (.st 1 (.t 11) (.t 10)), none⟩])
 (.seq (.ops (some [0, 1, 3, 0, 8, 24, 56, 127, 255, 511]) [⟨(some 12), (.mv (.t 0)), none⟩,
 ⟨(some 13), (.nilc (.t 12)), none⟩,
 ⟨(some 14), (.ld false 1 (.t 13)), none⟩,
 ⟨(some 15), (.mv (.t 0)), none⟩,
 ⟨(some 16), (.nilc (.t 15)), none⟩,
 ⟨(some 17), (.ld false 1 (.t 16)), none⟩,
 ⟨(some 18), (.bin .shr (.t 17) (.c (.i .u64 7))), none⟩,
 ⟨(some 19), (.bin .xor (.t 14) (.t 18)), none⟩,
 ⟨(some 20), (.nilc (.t 12)), none⟩,
 ⟨none, (.st 1 (.t 20) (.t 19)), none⟩])
 (.seq (.ops (some [0, 1, 3, 0, 8, 24, 56, 127, 255, 511]) [⟨(some 21), (.mv (.t 0)), none⟩,
 ⟨(some 22), (.nilc (.t 21)), none⟩,
 ⟨(some 23), (.ld false 1 (.t 22)), none⟩,
 ⟨(some 24), (.mv (.t 0)), none⟩,
 ⟨(some 25), (.nilc (.t 24)), none⟩,
 ⟨(some 26), (.ld false 1 (.t 25)), none⟩,
 ⟨(some 27), (.bin .shl (.t 26) (.c (.i .u64 17))), none⟩,
 ⟨(some 28), (.bin .xor (.t 23) (.t 27)), none⟩,
 ⟨(some 29), (.nilc (.t 21)), none⟩,
 ⟨none, (.st 1 (.t 29) (.t 28)), none⟩])
 (.seq (.ops none [⟨(some 30), (.mv (.t 0)), none⟩,
 ⟨(some 31), (.nilc (.t 30)), none⟩,
 ⟨(some 32), (.ld false 1 (.t 31)), none⟩,
 ⟨(some 2), (.mv (.t 32)), none⟩])
 (.ret)))))⟩
theorem F92_ok : prepF Try.prog 92 = some F92 := by kernel_rfl
/-- slices.medianAdjacentCmpFunc[glazier/api.Rect] -/
def F93 : AFun := ⟨18, [.t 8],
 .seq (.ops none [⟨(some 8), (.mv (.c (.i .i64 0))), none⟩])
 (.seq (.ops none [⟨(some 9), (.mv (.t 0)), none⟩,
 ⟨(some 10), (.mv (.t 1)), none⟩,
 ⟨(some 11), (.bin .sub (.t 10) (.c (.i .i64 1))), none⟩,
 ⟨(some 12), (.mv (.t 1)), none⟩,
 ⟨(some 13), (.mv (.t 1)), none⟩,
 ⟨(some 14), (.bin .add (.t 13) (.c (.i .i64 1))), none⟩,
 ⟨(some 15), (.mv (.t 2)), none⟩,
 ⟨(some 16), (.mv (.t 3)), none⟩,
 ⟨(some 17), (.call (.f 94) [(.t 9), (.t 11), (.t 12), (.t 14), (.t 15), (.t 16)]), none⟩,
 ⟨(some 8), (.mv (.t 17)), none⟩])
 (.ret))⟩
theorem F93_ok : prepF Try.prog 93 = some F93 := by kernel_rfl
/-- slices.medianCmpFunc[glazier/api.Rect] -/
def F94 : AFun := ⟨41, [.t 12],
 .seq (.ops none [⟨(some 12), (.mv (.c (.i .i64 0))), none⟩])
 (.seq (.ops none [⟨(some 14), (.mv (.t 0)), none⟩,
 ⟨(some 15), (.mv (.t 1)), none⟩,
 ⟨(some 16), (.mv (.t 2)), none⟩,
 ⟨(some 17), (.mv (.t 4)), none⟩,
 ⟨(some 18), (.mv (.t 5)), none⟩,
 ⟨(some 19), (.call (.f 104) [(.t 14), (.t 15), (.t 16), (.t 17), (.t 18)]), none⟩,
 ⟨(some 13), (.mv (.t 19)), none⟩,
 ⟨(some 20), (.ext (.t 13) 0), none⟩,
 ⟨(some 21), (.ext (.t 13) 1), none⟩,
 ⟨(some 1), (.mv (.t 20)), none⟩,
 ⟨(some 2), (.mv (.t 21)), none⟩])
 (.seq (.ops none [⟨(some 23), (.mv (.t 0)), none⟩,
 ⟨(some 24), (.mv (.t 2)), none⟩,
 ⟨(some 25), (.mv (.t 3)), none⟩,
 ⟨(some 26), (.mv (.t 4)), none⟩,
 ⟨(some 27), (.mv (.t 5)), none⟩,
 ⟨(some 28), (.call (.f 104) [(.t 23), (.t 24), (.t 25), (.t 26), (.t 27)]), none⟩,
 ⟨(some 22), (.mv (.t 28)), none⟩,
 ⟨(some 29), (.ext (.t 22) 0), none⟩,
 ⟨(some 30), (.ext (.t 22) 1), none⟩,
 ⟨(some 2), (.mv (.t 29)), none⟩,
 ⟨(some 3), (.mv (.t 30)), none⟩])
 (.seq (.ops none [⟨(some 32), (.mv (.t 0)), none⟩,
 ⟨(some 33), (.mv (.t 1)), none⟩,
 ⟨(some 34), (.mv (.t 2)), none⟩,
 ⟨(some 35), (.mv (.t 4)), none⟩,
 ⟨(some 36), (.mv (.t 5)), none⟩,
 ⟨(some 37), (.call (.f 104) [(.t 32), (.t 33), (.t 34), (.t 35), (.t 36)]), none⟩,
 ⟨(some 31), (.mv (.t 37)), none⟩,
 ⟨(some 38), (.ext (.t 31) 0), none⟩,
 ⟨(some 39), (.ext (.t 31) 1), none⟩,
 ⟨(some 1), (.mv (.t 38)), none⟩,
 ⟨(some 2), (.mv (.t 39)), none⟩])
 (.seq (.ops none [⟨(some 40), (.mv (.t 2)), none⟩,
 ⟨(some 12), (.mv (.t 40)), none⟩])
 (.ret)))))⟩
theorem F94_ok : prepF Try.prog 94 = some F94 := by kernel_rfl
/-- slices.insertionSortOrdered[int] -/
def F95 : AFun := ⟨49, [],
 .seq (.ops none [⟨(some 8), (.mv (.t 1)), none⟩,
 ⟨(some 9), (.bin .add (.t 8) (.c (.i .i64 1))), none⟩,
 ⟨(some 6), (.mv (.t 9)), none⟩])
 (.block 0 (.loop (.seq (.seq (.ops none [⟨(some 10), (.mv (.t 6)), none⟩,
 ⟨(some 11), (.mv (.t 2)), none⟩,
 ⟨(some 12), (.bin .lss (.t 10) (.t 11)), none⟩])
 (.cond (.t 12)
 (.skip)
 (.exit 0)))
 (.seq (.block 1 (.seq (.ops none [⟨(some 15), (.mv (.t 6)), none⟩,
 ⟨(some 7), (.mv (.t 15)), none⟩])
 (.block 2 (.loop (.seq (.seq (.ops (some [0, 0, 3, 7, 15, 15, 63, 127, 15, 15, 527, 1807, 3855, 8191, 16383]) [⟨(some 16), (.mv (.t 7)), none⟩,
 ⟨(some 17), (.mv (.t 1)), none⟩,
 ⟨(some 18), (.bin .gtr (.t 16) (.t 17)), none⟩,
 ⟨(some 19), (.mv (.t 18)), none⟩,
 ⟨(some 20), (.mv (.t 0)), (some ((some 19), true))⟩,
 ⟨(some 21), (.mv (.t 7)), (some ((some 19), true))⟩,
 ⟨(some 22), (.ias 1 (.t 20) (.t 21)), (some ((some 19), true))⟩,
 ⟨(some 23), (.ld false 1 (.t 22)), (some ((some 19), true))⟩,
 ⟨(some 24), (.mv (.t 0)), (some ((some 19), true))⟩,
 ⟨(some 25), (.mv (.t 7)), (some ((some 19), true))⟩,
 ⟨(some 26), (.bin .sub (.t 25) (.c (.i .i64 1))), (some ((some 19), true))⟩,
 ⟨(some 27), (.ias 1 (.t 24) (.t 26)), (some ((some 19), true))⟩,
 ⟨(some 28), (.ld false 1 (.t 27)), (some ((some 19), true))⟩,
 ⟨(some 29), (.call (.f 101) [(.t 23), (.t 28)]), (some ((some 19), true))⟩,
 ⟨(some 30), (.pick (.t 19) (.t 29) (.c (.b false))), none⟩])
 (.cond (.t 30)
 (.skip)
 (.exit 2)))
 (.seq (.block 3 (.ops (some [0, 0, 0, 0, 8, 0, 0, 64, 224, 480, 0, 0, 3072, 7168, 16355, 32739, 65535, 131071]) [⟨(some 33), (.mv (.t 0)), none⟩,
 ⟨(some 34), (.mv (.t 7)), none⟩,
 ⟨(some 35), (.mv (.t 0)), none⟩,
 ⟨(some 36), (.mv (.t 7)), none⟩,
 ⟨(some 37), (.bin .sub (.t 36) (.c (.i .i64 1))), none⟩,
 ⟨(some 38), (.mv (.t 0)), none⟩,
 ⟨(some 39), (.mv (.t 7)), none⟩,
 ⟨(some 40), (.bin .sub (.t 39) (.c (.i .i64 1))), none⟩,
 ⟨(some 41), (.ias 1 (.t 38) (.t 40)), none⟩,
 ⟨(some 42), (.ld false 1 (.t 41)), none⟩,
 ⟨(some 43), (.mv (.t 0)), none⟩,
 ⟨(some 44), (.mv (.t 7)), none⟩,
 ⟨(some 45), (.ias 1 (.t 43) (.t 44)), none⟩,
 ⟨(some 46), (.ld false 1 (.t 45)), none⟩,
 ⟨(some 47), (.ias 1 (.t 33) (.t 34)), none⟩,
 ⟨none, (.st 1 (.t 47) (.t 42)), none⟩,
 ⟨(some 48), (.ias 1 (.t 35) (.t 37)), none⟩,
 ⟨none, (.st 1 (.t 48) (.t 46)), none⟩]))
 (.ops none [⟨(some 31), (.mv (.t 7)), none⟩,
 ⟨(some 32), (.bin .sub (.t 31) (.c (.i .i64 1))), none⟩,
 ⟨(some 7), (.mv (.t 32)), none⟩])))))))
 (.ops none [⟨(some 13), (.mv (.t 6)), none⟩,
 ⟨(some 14), (.bin .add (.t 13) (.c (.i .i64 1))), none⟩,
 ⟨(some 6), (.mv (.t 14)), none⟩])))))⟩
theorem F95_ok : prepF Try.prog 95 = some F95 := by kernel_rfl
end Go.Proofs.Ytpgelghkjiejlaa
