/- The table of the program's functions, and the fonts' cells. -/
import Derived.Test.YtpgelghkjiejlaaGaf
import Derived.Test.YtpgelghkjiejlaaGag
import Derived.Test.YtpgelghkjiejlaaGah
set_option linter.unusedVariables false
set_option linter.unusedSimpArgs false
set_option maxRecDepth 100000
namespace Go.Proofs.Ytpgelghkjiejlaa
open Go

/-- How wide the letter at a place is. -/
def fW (wide : Bool) (l : Nat) : Nat := if wide then 5 + (l + 32) % 4 else 4
/-- A letter's row. -/
def fR (wide : Bool) (l y : Nat) : Nat :=
  if l = 0 then 0 else if wide then ((l + 32) * (2 * y + 5) + 7 * y) % 2 ^ (fW true l - 1) else if y = 5 then 0 else ((l + 32) * (y + 3) + y) % 8
def fA (wide : Bool) : Nat := if wide then 7 else 5
def fD (wide : Bool) : Nat := if wide then 2 else 1
def fH (wide : Bool) : Nat := if wide then 9 else 6
def fC (wide : Bool) (p : Nat) : Nat :=
  if p = 0 then fA wide else if p = 1 then fD wide else if (p - 2) % 17 = 0 then fW wide ((p - 2) / 17) else if (p - 2) % 17 ≤ fH wide then fR wide ((p - 2) / 17) ((p - 2) % 17 - 1) else 0
/-- A font's cells. -/
def fontC (wide : Bool) : List V := (List.range 1617).map fun p => .i .i64 (fC wide p)
def known0 (f : FuncId) (args : List V) : Option V :=
  match f, args with
  | 8, [.b w] => some (.ag (fontC w))
  | _, _ => none
def tabL : List (Nat × AFun) := [(7, F7), (8, F8), (9, F9), (10, F10), (11, F11), (12, F12), (13, F13), (14, F14), (15, F15), (16, F16), (17, F17), (18, F18), (19, F19), (20, F20), (21, F21), (22, F22), (23, F23), (24, F24), (25, F25), (26, F26), (27, F27), (28, F28), (29, F29), (30, F30), (31, F31), (32, F32), (33, F33), (34, F34), (35, F35), (36, F36), (37, F37), (38, F38), (39, F39), (40, F40), (41, F41), (42, F42), (43, F43), (44, F44), (45, F45), (46, F46), (47, F47), (48, F48), (49, F49), (50, F50), (51, F51), (52, F52), (53, F53), (54, F54), (55, F55), (56, F56), (57, F57), (58, F58), (59, F59), (60, F60), (61, F61), (62, F62), (63, F63), (64, F64), (65, F65), (66, F66), (67, F67), (68, F68), (69, F69), (70, F70), (71, F71), (72, F72), (73, F73), (74, F74), (75, F75), (76, F76), (77, F77), (78, F78), (79, F79), (80, F80), (81, F81), (82, F82), (83, F83), (84, F84), (85, F85), (86, F86), (87, F87), (88, F88), (89, F89), (90, F90), (91, F91), (92, F92), (93, F93), (94, F94), (95, F95), (96, F96), (97, F97), (98, F98), (99, F99), (100, F100), (101, F101), (102, F102), (103, F103), (104, F104), (105, F105), (106, F106), (107, F107), (108, F108)]
def tabF (f : FuncId) : Option AFun := aget tabL f
theorem tab_all : ∀ p ∈ tabL, prepF Try.prog p.1 = some p.2 := by
  intro p hp
  simp only [tabL, List.mem_cons, List.not_mem_nil, or_false] at hp
  rcases hp with rfl | rfl | rfl | rfl | rfl | rfl | rfl | rfl | rfl | rfl | rfl | rfl | rfl | rfl | rfl | rfl | rfl | rfl | rfl | rfl | rfl | rfl | rfl | rfl | rfl | rfl | rfl | rfl | rfl | rfl | rfl | rfl | rfl | rfl | rfl | rfl | rfl | rfl | rfl | rfl | rfl | rfl | rfl | rfl | rfl | rfl | rfl | rfl | rfl | rfl | rfl | rfl | rfl | rfl | rfl | rfl | rfl | rfl | rfl | rfl | rfl | rfl | rfl | rfl | rfl | rfl | rfl | rfl | rfl | rfl | rfl | rfl | rfl | rfl | rfl | rfl | rfl | rfl | rfl | rfl | rfl | rfl | rfl | rfl | rfl | rfl | rfl | rfl | rfl | rfl | rfl | rfl | rfl | rfl | rfl | rfl | rfl | rfl | rfl | rfl | rfl | rfl
  · exact F7_ok
  · exact F8_ok
  · exact F9_ok
  · exact F10_ok
  · exact F11_ok
  · exact F12_ok
  · exact F13_ok
  · exact F14_ok
  · exact F15_ok
  · exact F16_ok
  · exact F17_ok
  · exact F18_ok
  · exact F19_ok
  · exact F20_ok
  · exact F21_ok
  · exact F22_ok
  · exact F23_ok
  · exact F24_ok
  · exact F25_ok
  · exact F26_ok
  · exact F27_ok
  · exact F28_ok
  · exact F29_ok
  · exact F30_ok
  · exact F31_ok
  · exact F32_ok
  · exact F33_ok
  · exact F34_ok
  · exact F35_ok
  · exact F36_ok
  · exact F37_ok
  · exact F38_ok
  · exact F39_ok
  · exact F40_ok
  · exact F41_ok
  · exact F42_ok
  · exact F43_ok
  · exact F44_ok
  · exact F45_ok
  · exact F46_ok
  · exact F47_ok
  · exact F48_ok
  · exact F49_ok
  · exact F50_ok
  · exact F51_ok
  · exact F52_ok
  · exact F53_ok
  · exact F54_ok
  · exact F55_ok
  · exact F56_ok
  · exact F57_ok
  · exact F58_ok
  · exact F59_ok
  · exact F60_ok
  · exact F61_ok
  · exact F62_ok
  · exact F63_ok
  · exact F64_ok
  · exact F65_ok
  · exact F66_ok
  · exact F67_ok
  · exact F68_ok
  · exact F69_ok
  · exact F70_ok
  · exact F71_ok
  · exact F72_ok
  · exact F73_ok
  · exact F74_ok
  · exact F75_ok
  · exact F76_ok
  · exact F77_ok
  · exact F78_ok
  · exact F79_ok
  · exact F80_ok
  · exact F81_ok
  · exact F82_ok
  · exact F83_ok
  · exact F84_ok
  · exact F85_ok
  · exact F86_ok
  · exact F87_ok
  · exact F88_ok
  · exact F89_ok
  · exact F90_ok
  · exact F91_ok
  · exact F92_ok
  · exact F93_ok
  · exact F94_ok
  · exact F95_ok
  · exact F96_ok
  · exact F97_ok
  · exact F98_ok
  · exact F99_ok
  · exact F100_ok
  · exact F101_ok
  · exact F102_ok
  · exact F103_ok
  · exact F104_ok
  · exact F105_ok
  · exact F106_ok
  · exact F107_ok
  · exact F108_ok
theorem tabF_ok (f : FuncId) (af : AFun) (h : tabF f = some af) : prepF Try.prog f = some af := tab_all (f, af) (aget_mem h)
end Go.Proofs.Ytpgelghkjiejlaa
