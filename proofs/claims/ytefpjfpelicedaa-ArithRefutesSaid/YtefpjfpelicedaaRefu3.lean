/- Part 3 of 11 of what the proof of Refu needs. -/
import Derived.Test.YtefpjfpelicedaaRefu2
import Derived.Test.YtefpjfpelicedaaProg
import Derived.KernelRfl
section
/- The code of some functions, in a form of our own, and facts on types: made by gen.py. -/
set_option maxRecDepth 100000
namespace Go.PV.Ytefpjfpelicedaa
open Go Go.Proofs
theorem mixed : Try.prog.follows .mixedOrders = true := by kernel_rfl
theorem en_7 : enterable Try.prog 7 = true := by kernel_rfl
theorem en_8 : enterable Try.prog 8 = true := by kernel_rfl
theorem en_9 : enterable Try.prog 9 = true := by kernel_rfl
theorem elT_22 : elT Try.prog 22 = some (39, 2, 32) := by kernel_rfl
theorem en_10 : enterable Try.prog 10 = true := by kernel_rfl
theorem en_12 : enterable Try.prog 12 = true := by kernel_rfl
theorem en_11 : enterable Try.prog 11 = true := by kernel_rfl
theorem elT_28 : elT Try.prog 28 = some (52, 5, 40) := by kernel_rfl
theorem en_13 : enterable Try.prog 13 = true := by kernel_rfl
theorem en_15 : enterable Try.prog 15 = true := by kernel_rfl
theorem en_14 : enterable Try.prog 14 = true := by kernel_rfl
theorem ldT_39 : ldT Try.prog 39 = some (2, true) := by kernel_rfl
theorem zeroT_39 : zeroT Try.prog 39 = some [(.slice none 0 0), (.int .i64 0)] := by kernel_rfl
theorem szT_39 : szT Try.prog 39 = some 2 := by kernel_rfl
theorem flT_39_1 : flT Try.prog 39 1 = some (1, 1, false) := by kernel_rfl
theorem ldT_3 : ldT Try.prog 3 = some (1, false) := by kernel_rfl
theorem flT_39_0 : flT Try.prog 39 0 = some (0, 1, false) := by kernel_rfl
theorem ldT_37 : ldT Try.prog 37 = some (1, false) := by kernel_rfl
theorem en_16 : enterable Try.prog 16 = true := by kernel_rfl
theorem en_17 : enterable Try.prog 17 = true := by kernel_rfl
theorem en_18 : enterable Try.prog 18 = true := by kernel_rfl
theorem en_19 : enterable Try.prog 19 = true := by kernel_rfl
theorem en_20 : enterable Try.prog 20 = true := by kernel_rfl
theorem elT_31 : elT Try.prog 31 = some (50, 2, 32) := by kernel_rfl
theorem zeroT_50 : zeroT Try.prog 50 = some [(.slice none 0 0), (.int .i64 0)] := by kernel_rfl
theorem en_22 : enterable Try.prog 22 = true := by kernel_rfl
theorem flT_50_1 : flT Try.prog 50 1 = some (1, 1, false) := by kernel_rfl
theorem ldT_52 : ldT Try.prog 52 = some (5, true) := by kernel_rfl
theorem zeroT_52 : zeroT Try.prog 52 = some [(.int .i64 0), (.int .i64 0), (.int .i64 0), (.int .i64 0), (.int .i64 0)] := by kernel_rfl
theorem szT_52 : szT Try.prog 52 = some 5 := by kernel_rfl
theorem flT_52_0 : flT Try.prog 52 0 = some (0, 1, false) := by kernel_rfl
theorem flT_52_1 : flT Try.prog 52 1 = some (1, 1, false) := by kernel_rfl
theorem elT_35 : elT Try.prog 35 = some (83, 5, 40) := by kernel_rfl
theorem flT_52_2 : flT Try.prog 52 2 = some (2, 1, false) := by kernel_rfl
theorem szT_3 : szT Try.prog 3 = some 1 := by kernel_rfl
theorem stT_52 : stT Try.prog 52 = some ([(.int .i64 0), (.int .i64 0), (.int .i64 0), (.int .i64 0), (.int .i64 0)], [(0, 1), (1, 1), (2, 1), (3, 1), (4, 1)]) := by kernel_rfl
theorem en_25 : enterable Try.prog 25 = true := by kernel_rfl
theorem ldT_50 : ldT Try.prog 50 = some (2, true) := by kernel_rfl
theorem szT_50 : szT Try.prog 50 = some 2 := by kernel_rfl
theorem flT_50_0 : flT Try.prog 50 0 = some (0, 1, false) := by kernel_rfl
theorem elT_37 : elT Try.prog 37 = some (3, 1, 8) := by kernel_rfl
theorem und_37 : Try.prog.underlying 37 = some (.slice 3) := by kernel_rfl
theorem en_26 : enterable Try.prog 26 = true := by kernel_rfl
theorem en_27 : enterable Try.prog 27 = true := by kernel_rfl
theorem en_31 : enterable Try.prog 31 = true := by kernel_rfl
theorem en_32 : enterable Try.prog 32 = true := by kernel_rfl
theorem en_33 : enterable Try.prog 33 = true := by kernel_rfl
theorem en_34 : enterable Try.prog 34 = true := by kernel_rfl
theorem zeroT_3 : zeroT Try.prog 3 = some [(.int .i64 0)] := by kernel_rfl
theorem stT_50 : stT Try.prog 50 = some ([(.slice none 0 0), (.int .i64 0)], [(0, 1), (1, 1)]) := by kernel_rfl
theorem en_35 : enterable Try.prog 35 = true := by kernel_rfl
theorem zeroT_28 : zeroT Try.prog 28 = some [(.slice none 0 0)] := by kernel_rfl
theorem zeroT_4 : zeroT Try.prog 4 = some [(.bool false)] := by kernel_rfl
theorem zeroT_25 : zeroT Try.prog 25 = some [(.int .i64 0)] := by kernel_rfl
theorem en_36 : enterable Try.prog 36 = true := by kernel_rfl
theorem szT_28 : szT Try.prog 28 = some 1 := by kernel_rfl
theorem szT_4 : szT Try.prog 4 = some 1 := by kernel_rfl
theorem szT_25 : szT Try.prog 25 = some 1 := by kernel_rfl
theorem en_37 : enterable Try.prog 37 = true := by kernel_rfl
theorem stT_74 : stT Try.prog 74 = some ([(.slice none 0 0), (.int .i64 0), (.slice none 0 0)], [(0, 1), (1, 1), (2, 1)]) := by kernel_rfl
theorem stT_77 : stT Try.prog 77 = some ([(.slice none 0 0), (.int .i64 0), (.slice none 0 0), (.slice none 0 0), (.int .i64 0), (.map none)], [(0, 3), (3, 1), (4, 1), (5, 1)]) := by kernel_rfl
theorem zeroT_71 : zeroT Try.prog 71 = some [(.pointer none)] := by kernel_rfl
theorem szT_71 : szT Try.prog 71 = some 1 := by kernel_rfl
theorem ldT_71 : ldT Try.prog 71 = some (1, false) := by kernel_rfl
theorem en_40 : enterable Try.prog 40 = true := by kernel_rfl
theorem en_41 : enterable Try.prog 41 = true := by kernel_rfl
theorem zeroT_83 : zeroT Try.prog 83 = some [(.int .i64 0), (.int .i64 0), (.int .i64 0), (.int .i64 0), (.int .i64 0)] := by kernel_rfl
theorem en_42 : enterable Try.prog 42 = true := by kernel_rfl
theorem en_43 : enterable Try.prog 43 = true := by kernel_rfl
theorem en_44 : enterable Try.prog 44 = true := by kernel_rfl
theorem stT_39 : stT Try.prog 39 = some ([(.slice none 0 0), (.int .i64 0)], [(0, 1), (1, 1)]) := by kernel_rfl
theorem en_45 : enterable Try.prog 45 = true := by kernel_rfl
theorem szT_37 : szT Try.prog 37 = some 1 := by kernel_rfl
theorem en_46 : enterable Try.prog 46 = true := by kernel_rfl
theorem ldT_83 : ldT Try.prog 83 = some (5, true) := by kernel_rfl
theorem en_47 : enterable Try.prog 47 = true := by kernel_rfl
theorem ldT_31 : ldT Try.prog 31 = some (1, false) := by kernel_rfl
theorem flT_74_2 : flT Try.prog 74 2 = some (2, 1, false) := by kernel_rfl
theorem szT_31 : szT Try.prog 31 = some 1 := by kernel_rfl
theorem en_49 : enterable Try.prog 49 = true := by kernel_rfl
theorem en_50 : enterable Try.prog 50 = true := by kernel_rfl
theorem zeroT_37 : zeroT Try.prog 37 = some [(.slice none 0 0)] := by kernel_rfl
theorem en_53 : enterable Try.prog 53 = true := by kernel_rfl
theorem en_54 : enterable Try.prog 54 = true := by kernel_rfl
theorem en_55 : enterable Try.prog 55 = true := by kernel_rfl
theorem en_56 : enterable Try.prog 56 = true := by kernel_rfl
theorem zeroT_79 : zeroT Try.prog 79 = some [] := by kernel_rfl
theorem szT_79 : szT Try.prog 79 = some 0 := by kernel_rfl
theorem flT_77_1 : flT Try.prog 77 1 = some (3, 1, false) := by kernel_rfl
theorem ldT_28 : ldT Try.prog 28 = some (1, false) := by kernel_rfl
theorem en_39 : enterable Try.prog 39 = true := by kernel_rfl
theorem zeroT_82 : zeroT Try.prog 82 = some [(.int .i64 0)] := by kernel_rfl
theorem szT_82 : szT Try.prog 82 = some 1 := by kernel_rfl
theorem ldT_25 : ldT Try.prog 25 = some (1, false) := by kernel_rfl
theorem flT_82_0 : flT Try.prog 82 0 = some (0, 1, false) := by kernel_rfl
theorem elT_103 : elT Try.prog 103 = some (4, 1, 1) := by kernel_rfl
theorem ldT_4 : ldT Try.prog 4 = some (1, false) := by kernel_rfl
theorem flT_77_0 : flT Try.prog 77 0 = some (0, 3, true) := by kernel_rfl
theorem flT_74_0 : flT Try.prog 74 0 = some (0, 1, false) := by kernel_rfl
theorem en_58 : enterable Try.prog 58 = true := by kernel_rfl
theorem flT_74_1 : flT Try.prog 74 1 = some (1, 1, false) := by kernel_rfl
theorem en_59 : enterable Try.prog 59 = true := by kernel_rfl
theorem en_60 : enterable Try.prog 60 = true := by kernel_rfl
theorem en_61 : enterable Try.prog 61 = true := by kernel_rfl
theorem en_62 : enterable Try.prog 62 = true := by kernel_rfl
theorem en_63 : enterable Try.prog 63 = true := by kernel_rfl
theorem en_64 : enterable Try.prog 64 = true := by kernel_rfl
theorem en_65 : enterable Try.prog 65 = true := by kernel_rfl
theorem en_66 : enterable Try.prog 66 = true := by kernel_rfl
theorem ldT_90 : ldT Try.prog 90 = some (1, false) := by kernel_rfl
theorem en_67 : enterable Try.prog 67 = true := by kernel_rfl
theorem flT_52_3 : flT Try.prog 52 3 = some (3, 1, false) := by kernel_rfl
theorem flT_52_4 : flT Try.prog 52 4 = some (4, 1, false) := by kernel_rfl
theorem en_68 : enterable Try.prog 68 = true := by kernel_rfl
theorem en_69 : enterable Try.prog 69 = true := by kernel_rfl
theorem en_71 : enterable Try.prog 71 = true := by kernel_rfl
theorem en_70 : enterable Try.prog 70 = true := by kernel_rfl
theorem flT_83_0 : flT Try.prog 83 0 = some (0, 1, false) := by kernel_rfl
theorem flT_83_1 : flT Try.prog 83 1 = some (1, 1, false) := by kernel_rfl
theorem flT_83_2 : flT Try.prog 83 2 = some (2, 1, false) := by kernel_rfl
theorem flT_83_3 : flT Try.prog 83 3 = some (3, 1, false) := by kernel_rfl
theorem flT_83_4 : flT Try.prog 83 4 = some (4, 1, false) := by kernel_rfl
theorem en_72 : enterable Try.prog 72 = true := by kernel_rfl
theorem en_57 : enterable Try.prog 57 = true := by kernel_rfl
theorem en_74 : enterable Try.prog 74 = true := by kernel_rfl
theorem en_75 : enterable Try.prog 75 = true := by kernel_rfl
theorem ldT_75 : ldT Try.prog 75 = some (1, false) := by kernel_rfl
theorem flT_77_3 : flT Try.prog 77 3 = some (5, 1, false) := by kernel_rfl
theorem en_76 : enterable Try.prog 76 = true := by kernel_rfl
theorem zeroT_112 : zeroT Try.prog 112 = some [.nilFunc] := by kernel_rfl
theorem szT_112 : szT Try.prog 112 = some 1 := by kernel_rfl
theorem ldT_112 : ldT Try.prog 112 = some (1, false) := by kernel_rfl
theorem en_79 : enterable Try.prog 79 = true := by kernel_rfl
theorem en_80 : enterable Try.prog 80 = true := by kernel_rfl
theorem flT_77_2 : flT Try.prog 77 2 = some (4, 1, false) := by kernel_rfl
theorem stT_82 : stT Try.prog 82 = some ([(.int .i64 0)], [(0, 1)]) := by kernel_rfl
theorem stT_79 : stT Try.prog 79 = some ([], []) := by kernel_rfl
theorem zeroT_118 : zeroT Try.prog 118 = some [(.int .i64 0), (.int .i64 0), (.int .i64 0), (.int .i64 0), (.int .i64 0), (.int .i64 0), (.int .i64 0), (.int .i64 0), (.int .i64 0), (.int .i64 0), (.int .i64 0), (.int .i64 0)] := by kernel_rfl
theorem arT_118 : arT Try.prog 118 = some (12, 3, 1) := by kernel_rfl
theorem ldT_118 : ldT Try.prog 118 = some (12, true) := by kernel_rfl
theorem szT_118 : szT Try.prog 118 = some 12 := by kernel_rfl
/-! f3 triforium/triforiumlaw24.ArithRefutes -/
def c3 : ACode := (.seq (.reg [⟨some 4, (.assign (.const (.bool false))), none⟩])
 (.seq (.seq (.reg [⟨some 15, (.move (.tmp 0)), none⟩,
  ⟨some 16, (.call { callee := (.value (.func 7)), args := #[(.tmp 15), (.const (.slice none 0 0)), (.const (.int .i64 0))], argTypes := #[22, 35, 3] }), none⟩,
  ⟨some 17, (.unOp .not 4 (.tmp 16)), none⟩])
 (.cond (.tmp 17) (.seq (.reg [⟨some 18, (.call { callee := (.value (.func 8)), args := #[], argTypes := #[] }), none⟩,
  ⟨some 4, (.assign (.tmp 18)), none⟩])
 .ret) .skip))
 (.seq (.reg [⟨some 19, (.move (.tmp 0)), none⟩,
  ⟨some 20, (.move (.tmp 1)), none⟩,
  ⟨some 21, (.call { callee := (.value (.func 9)), args := #[(.tmp 19), (.tmp 20)], argTypes := #[22, 3] }), none⟩,
  ⟨some 5, (.assign (.tmp 21)), none⟩])
 (.seq (.seq (.reg [⟨some 22, (.move (.tmp 5)), none⟩,
  ⟨some 23, (.binOp .eql 25 (.tmp 22) (.const (.int .i64 0)) 25), none⟩,
  ⟨some 24, (.move (.tmp 23)), none⟩,
  ⟨some 25, (.move (.tmp 0)), some (24, true)⟩,
  ⟨some 26, (.call { callee := (.builtin .len), args := #[(.tmp 25)], argTypes := #[22] }), some (24, true)⟩,
  ⟨some 27, (.binOp .gtr 3 (.tmp 26) (.const (.int .i64 20)) 3), some (24, true)⟩,
  ⟨some 28, (.move (.tmp 27)), some (24, true)⟩,
  ⟨some 29, (.move (.tmp 0)), some (28, false)⟩,
  ⟨some 30, (.call { callee := (.value (.func 10)), args := #[(.tmp 29)], argTypes := #[22] }), some (28, false)⟩,
  ⟨some 31, (.binOp .gtr 3 (.tmp 30) (.const (.int .i64 6)) 3), some (28, false)⟩,
  ⟨some 32, (.pick (.tmp 28) (.const (.bool true)) (.tmp 31)), some (24, true)⟩,
  ⟨some 33, (.pick (.tmp 24) (.tmp 32) (.const (.bool false))), none⟩])
 (.cond (.tmp 33) (.seq (.reg [⟨some 34, (.call { callee := (.value (.func 8)), args := #[], argTypes := #[] }), none⟩,
  ⟨some 4, (.assign (.tmp 34)), none⟩])
 .ret) .skip))
 (.seq (.reg [⟨some 36, (.move (.tmp 0)), none⟩,
  ⟨some 37, (.call { callee := (.value (.func 12)), args := #[(.tmp 36)], argTypes := #[22] }), none⟩,
  ⟨some 38, (.move (.tmp 1)), none⟩,
  ⟨some 39, (.call { callee := (.value (.func 11)), args := #[(.tmp 37), (.tmp 38)], argTypes := #[31, 3] }), none⟩,
  ⟨some 35, (.move (.tmp 39)), none⟩,
  ⟨some 40, (.extract (.tmp 35) 0), none⟩,
  ⟨some 41, (.extract (.tmp 35) 1), none⟩,
  ⟨some 42, (.extract (.tmp 35) 2), none⟩,
  ⟨some 6, (.assign (.tmp 40)), none⟩,
  ⟨some 7, (.assign (.tmp 41)), none⟩,
  ⟨some 8, (.assign (.tmp 42)), none⟩])
 (.seq (.seq (.reg [⟨some 43, (.move (.tmp 5)), none⟩,
  ⟨some 44, (.binOp .neq 25 (.tmp 43) (.const (.int .i64 0)) 25), none⟩])
 (.cond (.tmp 44) (.seq (.reg [⟨some 45, (.move (.tmp 8)), none⟩,
  ⟨some 46, (.move (.tmp 5)), none⟩,
  ⟨some 47, (.binOp .eql 25 (.tmp 45) (.tmp 46) 25), none⟩,
  ⟨some 48, (.move (.tmp 47)), none⟩,
  ⟨some 49, (.move (.tmp 7)), some (48, true)⟩,
  ⟨some 50, (.unOp .not 4 (.tmp 49)), some (48, true)⟩,
  ⟨some 51, (.pick (.tmp 48) (.tmp 50) (.const (.bool false))), none⟩,
  ⟨some 52, (.move (.tmp 51)), none⟩,
  ⟨some 53, (.move (.tmp 6)), some (52, true)⟩,
  ⟨some 54, (.call { callee := (.builtin .len), args := #[(.tmp 53)], argTypes := #[28] }), some (52, true)⟩,
  ⟨some 55, (.binOp .eql 3 (.tmp 54) (.const (.int .i64 0)) 3), some (52, true)⟩,
  ⟨some 56, (.pick (.tmp 52) (.tmp 55) (.const (.bool false))), none⟩,
  ⟨some 57, (.move (.tmp 56)), none⟩,
  ⟨some 58, (.call { callee := (.value (.func 8)), args := #[], argTypes := #[] }), some (57, true)⟩,
  ⟨some 59, (.pick (.tmp 57) (.tmp 58) (.const (.bool false))), none⟩,
  ⟨some 4, (.assign (.tmp 59)), none⟩])
 .ret) .skip))
 (.seq (.seq (.reg [⟨some 60, (.move (.tmp 8)), none⟩,
  ⟨some 61, (.binOp .eql 25 (.tmp 60) (.const (.int .i64 0)) 25), none⟩,
  ⟨some 62, (.move (.tmp 61)), none⟩,
  ⟨some 63, (.move (.tmp 7)), some (62, true)⟩,
  ⟨some 64, (.pick (.tmp 62) (.tmp 63) (.const (.bool false))), none⟩,
  ⟨some 65, (.move (.tmp 64)), none⟩,
  ⟨some 66, (.move (.tmp 6)), some (65, true)⟩,
  ⟨some 67, (.call { callee := (.builtin .len), args := #[(.tmp 66)], argTypes := #[28] }), some (65, true)⟩,
  ⟨some 68, (.move (.tmp 1)), some (65, true)⟩,
  ⟨some 69, (.binOp .gtr 3 (.tmp 67) (.tmp 68) 3), some (65, true)⟩,
  ⟨some 70, (.move (.tmp 69)), some (65, true)⟩,
  ⟨some 71, (.move (.tmp 0)), some (70, false)⟩,
  ⟨some 72, (.call { callee := (.value (.func 12)), args := #[(.tmp 71)], argTypes := #[22] }), some (70, false)⟩,
  ⟨some 73, (.move (.tmp 6)), some (70, false)⟩,
  ⟨some 74, (.call { callee := (.value (.func 13)), args := #[(.tmp 72), (.tmp 73)], argTypes := #[31, 28] }), some (70, false)⟩,
  ⟨some 75, (.binOp .neq 25 (.tmp 74) (.const (.int .i64 0)) 25), some (70, false)⟩,
  ⟨some 76, (.pick (.tmp 70) (.const (.bool true)) (.tmp 75)), some (65, true)⟩,
  ⟨some 77, (.move (.tmp 76)), some (65, true)⟩,
  ⟨some 78, (.move (.tmp 0)), some (77, false)⟩,
  ⟨some 79, (.move (.tmp 6)), some (77, false)⟩,
  ⟨some 80, (.call { callee := (.value (.func 15)), args := #[(.tmp 79)], argTypes := #[28] }), some (77, false)⟩,
  ⟨some 81, (.call { callee := (.value (.func 14)), args := #[(.tmp 78), (.tmp 80)], argTypes := #[22, 35] }), some (77, false)⟩,
  ⟨some 82, (.binOp .neq 25 (.tmp 81) (.const (.int .i64 0)) 25), some (77, false)⟩,
  ⟨some 83, (.pick (.tmp 77) (.const (.bool true)) (.tmp 82)), some (65, true)⟩,
  ⟨some 84, (.pick (.tmp 65) (.tmp 83) (.const (.bool false))), none⟩,
  ⟨some 85, (.move (.tmp 84)), none⟩,
  ⟨some 86, (.move (.tmp 7)), some (85, false)⟩,
  ⟨some 87, (.unOp .not 4 (.tmp 86)), some (85, false)⟩,
  ⟨some 88, (.move (.tmp 87)), some (85, false)⟩,
  ⟨some 89, (.move (.tmp 6)), some (88, true)⟩,
  ⟨some 90, (.call { callee := (.builtin .len), args := #[(.tmp 89)], argTypes := #[28] }), some (88, true)⟩,
  ⟨some 91, (.binOp .gtr 3 (.tmp 90) (.const (.int .i64 0)) 3), some (88, true)⟩,
  ⟨some 92, (.pick (.tmp 88) (.tmp 91) (.const (.bool false))), some (85, false)⟩,
  ⟨some 93, (.pick (.tmp 85) (.const (.bool true)) (.tmp 92)), none⟩])
 (.cond (.tmp 93) (.seq (.reg [⟨some 4, (.assign (.const (.bool false))), none⟩])
 .ret) .skip))
 (.seq (.reg [⟨some 94, (.move (.tmp 0)), none⟩,
  ⟨some 95, (.call { callee := (.builtin .len), args := #[(.tmp 94)], argTypes := #[22] }), none⟩,
  ⟨some 96, (.binOp .leq 3 (.tmp 95) (.const (.int .i64 5)) 3), none⟩,
  ⟨some 97, (.move (.tmp 96)), none⟩,
  ⟨some 98, (.move (.tmp 0)), some (97, true)⟩,
  ⟨some 99, (.call { callee := (.value (.func 10)), args := #[(.tmp 98)], argTypes := #[22] }), some (97, true)⟩,
  ⟨some 100, (.binOp .leq 3 (.tmp 99) (.const (.int .i64 3)) 3), some (97, true)⟩,
  ⟨some 101, (.pick (.tmp 97) (.tmp 100) (.const (.bool false))), none⟩,
  ⟨some 102, (.move (.tmp 101)), none⟩,
  ⟨some 103, (.move (.tmp 1)), some (102, true)⟩,
  ⟨some 104, (.binOp .eql 3 (.tmp 103) (.const (.int .i64 5000)) 3), some (102, true)⟩,
  ⟨some 105, (.pick (.tmp 102) (.tmp 104) (.const (.bool false))), none⟩,
  ⟨some 9, (.assign (.tmp 105)), none⟩])
 (.seqL (.seq (.reg [⟨some 106, (.move (.tmp 0)), none⟩,
  ⟨some 107, (.call { callee := (.builtin .len), args := #[(.tmp 106)], argTypes := #[22] }), none⟩,
  ⟨some 108, (.move (.const (.int .i64 0))), none⟩])
 (.block 0 (.loop (.seq (.reg [⟨some 109, (.binOp .lss 3 (.tmp 108) (.tmp 107) 3), none⟩])
 (.seq (.cond (.tmp 109) .skip (.exit 0))
 (.seq (.block 1 (.seq (.reg [⟨some 110, (.indexAddr 22 (.tmp 106) (.tmp 108)), none⟩,
  ⟨some 111, (.load 39 (.tmp 110)), none⟩,
  ⟨some 11, (.alloc 39), none⟩,
  ⟨none, (.store 39 (.tmp 11) (.tmp 111)), none⟩])
 (.reg [⟨some 112, (.move (.tmp 9)), none⟩,
  ⟨some 113, (.move (.tmp 112)), none⟩,
  ⟨some 114, (.fieldAddr 39 (.tmp 11) 1), some (113, true)⟩,
  ⟨some 115, (.load 3 (.tmp 114)), some (113, true)⟩,
  ⟨some 116, (.binOp .geq 3 (.tmp 115) (.const (.int .i64 (-100))) 3), some (113, true)⟩,
  ⟨some 117, (.pick (.tmp 113) (.tmp 116) (.const (.bool false))), none⟩,
  ⟨some 118, (.move (.tmp 117)), none⟩,
  ⟨some 119, (.fieldAddr 39 (.tmp 11) 1), some (118, true)⟩,
  ⟨some 120, (.load 3 (.tmp 119)), some (118, true)⟩,
  ⟨some 121, (.binOp .leq 3 (.tmp 120) (.const (.int .i64 100)) 3), some (118, true)⟩,
  ⟨some 122, (.pick (.tmp 118) (.tmp 121) (.const (.bool false))), none⟩,
  ⟨some 123, (.move (.tmp 122)), none⟩,
  ⟨some 124, (.fieldAddr 39 (.tmp 11) 0), some (123, true)⟩,
  ⟨some 125, (.load 37 (.tmp 124)), some (123, true)⟩,
  ⟨some 126, (.call { callee := (.value (.func 16)), args := #[(.tmp 125), (.func 17)], argTypes := #[37, 41] }), some (123, true)⟩,
  ⟨some 127, (.unOp .not 4 (.tmp 126)), some (123, true)⟩,
  ⟨some 128, (.pick (.tmp 123) (.tmp 127) (.const (.bool false))), none⟩,
  ⟨some 9, (.assign (.tmp 128)), none⟩])))
 (.reg [⟨some 129, (.binOp .add 3 (.tmp 108) (.const (.int .i64 1)) 3), none⟩,
  ⟨some 108, (.move (.tmp 129)), none⟩])))))))
 (.seq (.seq (.reg [⟨some 130, (.move (.tmp 9)), none⟩,
  ⟨some 131, (.unOp .not 4 (.tmp 130)), none⟩])
 (.cond (.tmp 131) (.seq (.reg [⟨some 132, (.move (.tmp 8)), none⟩,
  ⟨some 133, (.binOp .eql 25 (.tmp 132) (.const (.int .i64 0)) 25), none⟩,
  ⟨some 134, (.move (.tmp 133)), none⟩,
  ⟨some 135, (.move (.tmp 8)), some (134, false)⟩,
  ⟨some 136, (.binOp .eql 25 (.tmp 135) (.const (.int .i64 8)) 25), some (134, false)⟩,
  ⟨some 137, (.pick (.tmp 134) (.const (.bool true)) (.tmp 136)), none⟩,
  ⟨some 138, (.move (.tmp 137)), none⟩,
  ⟨some 139, (.move (.tmp 8)), some (138, false)⟩,
  ⟨some 140, (.call { callee := (.value (.func 18)), args := #[(.tmp 139)], argTypes := #[25] }), some (138, false)⟩,
  ⟨some 141, (.pick (.tmp 138) (.const (.bool true)) (.tmp 140)), none⟩,
  ⟨some 142, (.move (.tmp 141)), none⟩,
  ⟨some 143, (.call { callee := (.value (.func 8)), args := #[], argTypes := #[] }), some (142, true)⟩,
  ⟨some 144, (.pick (.tmp 142) (.tmp 143) (.const (.bool false))), none⟩,
  ⟨some 4, (.assign (.tmp 144)), none⟩])
 .ret) .skip))
 (.seq (.reg [⟨some 146, (.move (.tmp 0)), none⟩,
  ⟨some 147, (.call { callee := (.value (.func 19)), args := #[(.tmp 146), (.const (.int .i64 6))], argTypes := #[22, 3] }), none⟩,
  ⟨some 145, (.move (.tmp 147)), none⟩,
  ⟨some 148, (.extract (.tmp 145) 0), none⟩,
  ⟨some 149, (.extract (.tmp 145) 1), none⟩,
  ⟨some 150, (.extract (.tmp 145) 2), none⟩,
  ⟨some 12, (.assign (.tmp 148)), none⟩,
  ⟨some 13, (.assign (.tmp 149)), none⟩,
  ⟨some 14, (.assign (.tmp 150)), none⟩])
 (.seq (.reg [⟨some 151, (.move (.tmp 8)), none⟩,
  ⟨some 152, (.binOp .eql 25 (.tmp 151) (.const (.int .i64 0)) 25), none⟩,
  ⟨some 153, (.move (.tmp 152)), none⟩,
  ⟨some 154, (.move (.tmp 7)), some (153, true)⟩,
  ⟨some 155, (.move (.tmp 154)), some (153, true)⟩,
  ⟨some 156, (.move (.tmp 0)), some (155, false)⟩,
  ⟨some 157, (.call { callee := (.value (.func 20)), args := #[(.tmp 156)], argTypes := #[22] }), some (155, false)⟩,
  ⟨some 158, (.pick (.tmp 155) (.const (.bool true)) (.tmp 157)), some (153, true)⟩,
  ⟨some 159, (.pick (.tmp 153) (.tmp 158) (.const (.bool false))), none⟩,
  ⟨some 160, (.move (.tmp 159)), none⟩,
  ⟨some 161, (.move (.tmp 7)), some (160, true)⟩,
  ⟨some 162, (.move (.tmp 161)), some (160, true)⟩,
  ⟨some 163, (.move (.tmp 13)), some (162, true)⟩,
  ⟨some 164, (.pick (.tmp 162) (.tmp 163) (.const (.bool false))), some (160, true)⟩,
  ⟨some 165, (.unOp .not 4 (.tmp 164)), some (160, true)⟩,
  ⟨some 166, (.pick (.tmp 160) (.tmp 165) (.const (.bool false))), none⟩,
  ⟨some 167, (.move (.tmp 166)), none⟩,
  ⟨some 168, (.call { callee := (.value (.func 8)), args := #[], argTypes := #[] }), some (167, true)⟩,
  ⟨some 169, (.pick (.tmp 167) (.tmp 168) (.const (.bool false))), none⟩,
  ⟨some 4, (.assign (.tmp 169)), none⟩])
 .ret))))))))))))
theorem fd3 : FnD Try.prog 3 170 [(.tmp 4)] c3 := ⟨⟨Try.f3, Try.f3.body.getD .skip, Try.func3, by kernel_rfl, by kernel_rfl, by kernel_rfl, by kernel_rfl⟩⟩
/-! f4 triforium/triforiumlaw24.ArithMore -/
def c4 : ACode := (.seq (.reg [⟨some 8, (.assign (.const (.bool false))), none⟩])
 (.seq (.seq (.reg [⟨some 20, (.move (.tmp 0)), none⟩,
  ⟨some 21, (.move (.tmp 2)), none⟩,
  ⟨some 22, (.call { callee := (.value (.func 7)), args := #[(.tmp 20), (.tmp 21), (.const (.int .i64 200))], argTypes := #[22, 35, 3] }), none⟩,
  ⟨some 23, (.unOp .not 4 (.tmp 22)), none⟩,
  ⟨some 24, (.move (.tmp 23)), none⟩,
  ⟨some 25, (.move (.tmp 1)), some (24, false)⟩,
  ⟨some 26, (.move (.tmp 3)), some (24, false)⟩,
  ⟨some 27, (.call { callee := (.value (.func 7)), args := #[(.tmp 25), (.tmp 26), (.const (.int .i64 200))], argTypes := #[22, 35, 3] }), some (24, false)⟩,
  ⟨some 28, (.unOp .not 4 (.tmp 27)), some (24, false)⟩,
  ⟨some 29, (.pick (.tmp 24) (.const (.bool true)) (.tmp 28)), none⟩,
  ⟨some 30, (.move (.tmp 29)), none⟩,
  ⟨some 31, (.move (.tmp 0)), some (30, false)⟩,
  ⟨some 32, (.call { callee := (.builtin .len), args := #[(.tmp 31)], argTypes := #[22] }), some (30, false)⟩,
  ⟨some 33, (.move (.tmp 1)), some (30, false)⟩,
  ⟨some 34, (.call { callee := (.builtin .len), args := #[(.tmp 33)], argTypes := #[22] }), some (30, false)⟩,
  ⟨some 35, (.binOp .add 3 (.tmp 32) (.tmp 34) 3), some (30, false)⟩,
  ⟨some 36, (.binOp .gtr 3 (.tmp 35) (.const (.int .i64 50)) 3), some (30, false)⟩,
  ⟨some 37, (.pick (.tmp 30) (.const (.bool true)) (.tmp 36)), none⟩])
 (.cond (.tmp 37) (.seq (.reg [⟨some 38, (.call { callee := (.value (.func 8)), args := #[], argTypes := #[] }), none⟩,
  ⟨some 8, (.assign (.tmp 38)), none⟩])
 .ret) .skip))
 (.seq (.seq (.reg [⟨some 39, (.move (.tmp 0)), none⟩,
  ⟨some 40, (.call { callee := (.value (.func 12)), args := #[(.tmp 39)], argTypes := #[22] }), none⟩,
  ⟨some 41, (.move (.tmp 2)), none⟩,
  ⟨some 42, (.call { callee := (.value (.func 21)), args := #[(.tmp 41)], argTypes := #[35] }), none⟩,
  ⟨some 43, (.call { callee := (.value (.func 13)), args := #[(.tmp 40), (.tmp 42)], argTypes := #[31, 28] }), none⟩,
  ⟨some 44, (.binOp .neq 25 (.tmp 43) (.const (.int .i64 0)) 25), none⟩])
 (.cond (.tmp 44) (.seq (.reg [⟨some 45, (.call { callee := (.value (.func 8)), args := #[], argTypes := #[] }), none⟩,
  ⟨some 8, (.assign (.tmp 45)), none⟩])
 .ret) .skip))
 (.seq (.reg [⟨some 46, (.move (.tmp 0)), none⟩,
  ⟨some 47, (.call { callee := (.value (.func 12)), args := #[(.tmp 46)], argTypes := #[22] }), none⟩,
  ⟨some 48, (.move (.tmp 1)), none⟩,
  ⟨some 49, (.call { callee := (.value (.func 12)), args := #[(.tmp 48)], argTypes := #[22] }), none⟩,
  ⟨some 50, (.call { callee := (.builtin .append), args := #[(.tmp 47), (.tmp 49)], argTypes := #[31, 31] }), none⟩,
  ⟨some 9, (.assign (.tmp 50)), none⟩])
 (.seq (.seq (.reg [⟨some 51, (.move (.tmp 9)), none⟩,
  ⟨some 52, (.move (.tmp 2)), none⟩,
  ⟨some 53, (.call { callee := (.value (.func 21)), args := #[(.tmp 52)], argTypes := #[35] }), none⟩,
  ⟨some 54, (.call { callee := (.value (.func 13)), args := #[(.tmp 51), (.tmp 53)], argTypes := #[31, 28] }), none⟩,
  ⟨some 10, (.assign (.tmp 54)), none⟩])
 (.seq (.reg [⟨some 55, (.move (.tmp 10)), none⟩,
  ⟨some 56, (.binOp .neq 25 (.tmp 55) (.const (.int .i64 0)) 25), none⟩])
 (.cond (.tmp 56) (.seq (.reg [⟨some 58, (.move (.tmp 1)), none⟩,
  ⟨some 59, (.call { callee := (.value (.func 12)), args := #[(.tmp 58)], argTypes := #[22] }), none⟩,
  ⟨some 60, (.call { callee := (.value (.func 22)), args := #[(.tmp 59), (.const (.slice none 0 0))], argTypes := #[31, 28] }), none⟩,
  ⟨some 57, (.move (.tmp 60)), none⟩,
  ⟨some 61, (.extract (.tmp 57) 0), none⟩,
  ⟨some 62, (.extract (.tmp 57) 1), none⟩,
  ⟨some 11, (.assign (.tmp 61)), none⟩,
  ⟨some 12, (.assign (.tmp 62)), none⟩])
 (.seq (.reg [⟨some 63, (.move (.tmp 10)), none⟩,
  ⟨some 64, (.move (.tmp 12)), none⟩,
  ⟨some 65, (.binOp .eql 25 (.tmp 63) (.tmp 64) 25), none⟩,
  ⟨some 66, (.move (.tmp 65)), none⟩,
  ⟨some 67, (.call { callee := (.value (.func 8)), args := #[], argTypes := #[] }), some (66, true)⟩,
  ⟨some 68, (.pick (.tmp 66) (.tmp 67) (.const (.bool false))), none⟩,
  ⟨some 8, (.assign (.tmp 68)), none⟩])
 .ret)) .skip)))
 (.seq (.reg [⟨some 70, (.move (.tmp 9)), none⟩,
  ⟨some 71, (.move (.tmp 2)), none⟩,
  ⟨some 72, (.call { callee := (.value (.func 21)), args := #[(.tmp 71)], argTypes := #[35] }), none⟩,
  ⟨some 73, (.call { callee := (.value (.func 22)), args := #[(.tmp 70), (.tmp 72)], argTypes := #[31, 28] }), none⟩,
  ⟨some 69, (.move (.tmp 73)), none⟩,
  ⟨some 74, (.extract (.tmp 69) 0), none⟩,
  ⟨some 75, (.extract (.tmp 69) 1), none⟩,
  ⟨some 13, (.assign (.tmp 74)), none⟩,
  ⟨some 14, (.assign (.tmp 75)), none⟩])
 (.seq (.reg [⟨some 77, (.move (.tmp 9)), none⟩,
  ⟨some 78, (.move (.tmp 3)), none⟩,
  ⟨some 79, (.call { callee := (.value (.func 21)), args := #[(.tmp 78)], argTypes := #[35] }), none⟩,
  ⟨some 80, (.call { callee := (.value (.func 22)), args := #[(.tmp 77), (.tmp 79)], argTypes := #[31, 28] }), none⟩,
  ⟨some 76, (.move (.tmp 80)), none⟩,
  ⟨some 81, (.extract (.tmp 76) 0), none⟩,
  ⟨some 82, (.extract (.tmp 76) 1), none⟩,
  ⟨some 15, (.assign (.tmp 81)), none⟩,
  ⟨some 16, (.assign (.tmp 82)), none⟩])
 (.seq (.seq (.dreg (.tk ⟨some 83, (.move (.tmp 14)), none⟩
  (.tk ⟨some 84, (.binOp .neq 25 (.tmp 83) (.const (.int .i64 0)) 25), none⟩
  (.tk ⟨some 85, (.move (.tmp 84)), none⟩
  (.tk ⟨some 86, (.move (.tmp 16)), some (85, false)⟩
  (.tk ⟨some 87, (.binOp .neq 25 (.tmp 86) (.const (.int .i64 0)) 25), some (85, false)⟩
  (.tk ⟨some 88, (.pick (.tmp 85) (.const (.bool true)) (.tmp 87)), none⟩
  (.tk ⟨some 89, (.move (.tmp 88)), none⟩
  (.tk ⟨some 90, (.move (.tmp 9)), some (89, false)⟩
  (.tk ⟨some 91, (.move (.tmp 3)), some (89, false)⟩
  (.one ⟨some 92, (.call { callee := (.value (.func 21)), args := #[(.tmp 91)], argTypes := #[35] }), some (89, false)⟩
  (.one ⟨some 93, (.call { callee := (.value (.func 13)), args := #[(.tmp 90), (.tmp 92)], argTypes := #[31, 28] }), some (89, false)⟩
  (.tk ⟨some 94, (.binOp .neq 25 (.tmp 93) (.const (.int .i64 0)) 25), some (89, false)⟩
  (.tk ⟨some 95, (.pick (.tmp 89) (.const (.bool true)) (.tmp 94)), none⟩
  (.tk ⟨some 96, (.move (.tmp 95)), none⟩
  (.tk ⟨some 97, (.move (.tmp 13)), some (96, false)⟩
  (.tk ⟨some 98, (.call { callee := (.builtin .len), args := #[(.tmp 97)], argTypes := #[31] }), some (96, false)⟩
  (.tk ⟨some 99, (.binOp .eql 3 (.tmp 98) (.const (.int .i64 0)) 3), some (96, false)⟩
  (.tk ⟨some 100, (.pick (.tmp 96) (.const (.bool true)) (.tmp 99)), none⟩
  (.tk ⟨some 101, (.move (.tmp 100)), none⟩
  (.tk ⟨some 102, (.move (.tmp 15)), some (101, false)⟩
  (.tk ⟨some 103, (.call { callee := (.builtin .len), args := #[(.tmp 102)], argTypes := #[31] }), some (101, false)⟩
  (.tk ⟨some 104, (.binOp .eql 3 (.tmp 103) (.const (.int .i64 0)) 3), some (101, false)⟩
  (.tk ⟨some 105, (.pick (.tmp 101) (.const (.bool true)) (.tmp 104)), none⟩
  (.tk ⟨some 106, (.move (.tmp 105)), none⟩
  (.tk ⟨some 107, (.move (.tmp 13)), some (106, false)⟩
  (.tk ⟨some 108, (.move (.tmp 13)), some (106, false)⟩
  (.tk ⟨some 109, (.call { callee := (.builtin .len), args := #[(.tmp 108)], argTypes := #[31] }), some (106, false)⟩
  (.tk ⟨some 110, (.binOp .sub 3 (.tmp 109) (.const (.int .i64 1)) 3), some (106, false)⟩
  (.tk ⟨some 111, (.indexAddr 31 (.tmp 107) (.tmp 110)), some (106, false)⟩
  (.tk ⟨some 112, (.fieldAddr 50 (.tmp 111) 1), some (106, false)⟩
  (.tk ⟨some 113, (.load 3 (.tmp 112)), some (106, false)⟩
  (.tk ⟨some 114, (.move (.tmp 15)), some (106, false)⟩
  (.tk ⟨some 115, (.move (.tmp 15)), some (106, false)⟩
  (.tk ⟨some 116, (.call { callee := (.builtin .len), args := #[(.tmp 115)], argTypes := #[31] }), some (106, false)⟩
  (.tk ⟨some 117, (.binOp .sub 3 (.tmp 116) (.const (.int .i64 1)) 3), some (106, false)⟩
  (.tk ⟨some 118, (.indexAddr 31 (.tmp 114) (.tmp 117)), some (106, false)⟩
  (.tk ⟨some 119, (.fieldAddr 50 (.tmp 118) 1), some (106, false)⟩
  (.tk ⟨some 120, (.load 3 (.tmp 119)), some (106, false)⟩
  .fin)))))))))))))))))))))))))))))))))))))) [⟨some 121, (.binOp .add 3 (.tmp 113) (.tmp 120) 3), some (106, false)⟩,
  ⟨some 122, (.binOp .lss 3 (.tmp 121) (.const (.int .i64 (-1000000000000))) 3), some (106, false)⟩,
  ⟨some 123, (.pick (.tmp 106) (.const (.bool true)) (.tmp 122)), none⟩])
 (.cond (.tmp 123) (.seq (.reg [⟨some 124, (.call { callee := (.value (.func 8)), args := #[], argTypes := #[] }), none⟩,
  ⟨some 8, (.assign (.tmp 124)), none⟩])
 .ret) .skip))
 (.seq (.reg [⟨some 125, (.move (.tmp 2)), none⟩,
  ⟨some 126, (.call { callee := (.value (.func 21)), args := #[(.tmp 125)], argTypes := #[35] }), none⟩,
  ⟨some 17, (.assign (.tmp 126)), none⟩])
 (.seqL (.seq (.reg [⟨some 127, (.move (.tmp 3)), none⟩,
  ⟨some 128, (.call { callee := (.value (.func 21)), args := #[(.tmp 127)], argTypes := #[35] }), none⟩,
  ⟨some 129, (.call { callee := (.builtin .len), args := #[(.tmp 128)], argTypes := #[28] }), none⟩,
  ⟨some 130, (.move (.const (.int .i64 0))), none⟩])
 (.block 0 (.loop (.seq (.reg [⟨some 131, (.binOp .lss 3 (.tmp 130) (.tmp 129) 3), none⟩])
 (.seq (.cond (.tmp 131) .skip (.exit 0))
 (.seq (.block 1 (.seq (.reg [⟨some 132, (.indexAddr 28 (.tmp 128) (.tmp 130)), none⟩,
  ⟨some 133, (.load 52 (.tmp 132)), none⟩,
  ⟨some 19, (.alloc 52), none⟩,
  ⟨none, (.store 52 (.tmp 19) (.tmp 133)), none⟩])
 (.seq (.seq (.reg [⟨some 134, (.fieldAddr 52 (.tmp 19) 0), none⟩,
  ⟨some 135, (.load 3 (.tmp 134)), none⟩])
 (.block 2 (.seq (.reg [⟨some 137, (.binOp .eql 3 (.tmp 135) (.const (.int .i64 3)) 3), none⟩,
  ⟨some 136, (.assign (.tmp 137)), none⟩])
 (.cond (.tmp 136) (.reg [⟨some 138, (.fieldAddr 52 (.tmp 19) 1), none⟩,
  ⟨some 139, (.load 3 (.tmp 138)), none⟩,
  ⟨some 140, (.move (.tmp 2)), none⟩,
  ⟨some 141, (.call { callee := (.builtin .len), args := #[(.tmp 140)], argTypes := #[35] }), none⟩,
  ⟨some 142, (.binOp .add 3 (.tmp 139) (.tmp 141) 3), none⟩,
  ⟨some 143, (.fieldAddr 52 (.tmp 19) 2), none⟩,
  ⟨some 144, (.load 3 (.tmp 143)), none⟩,
  ⟨some 145, (.move (.tmp 2)), none⟩,
  ⟨some 146, (.call { callee := (.builtin .len), args := #[(.tmp 145)], argTypes := #[35] }), none⟩,
  ⟨some 147, (.binOp .add 3 (.tmp 144) (.tmp 146) 3), none⟩,
  ⟨some 148, (.fieldAddr 52 (.tmp 19) 1), none⟩,
  ⟨none, (.store 3 (.tmp 148) (.tmp 142)), none⟩,
  ⟨some 149, (.fieldAddr 52 (.tmp 19) 2), none⟩,
  ⟨none, (.store 3 (.tmp 149) (.tmp 147)), none⟩]) (.seq (.reg [⟨some 151, (.binOp .eql 3 (.tmp 135) (.const (.int .i64 4)) 3), none⟩,
  ⟨some 150, (.assign (.tmp 151)), none⟩])
 (.cond (.tmp 150) (.reg [⟨some 152, (.fieldAddr 52 (.tmp 19) 1), none⟩,
  ⟨some 153, (.load 3 (.tmp 152)), none⟩,
  ⟨some 154, (.move (.tmp 2)), none⟩,
  ⟨some 155, (.call { callee := (.builtin .len), args := #[(.tmp 154)], argTypes := #[35] }), none⟩,
  ⟨some 156, (.binOp .add 3 (.tmp 153) (.tmp 155) 3), none⟩,
  ⟨some 157, (.fieldAddr 52 (.tmp 19) 1), none⟩,
  ⟨none, (.store 3 (.tmp 157) (.tmp 156)), none⟩]) .skip))))))
 (.reg [⟨some 158, (.move (.tmp 17)), none⟩,
  ⟨some 159, (.load 52 (.tmp 19)), none⟩,
  ⟨some 160, (.buildSlice 28 1 #[(0, (.tmp 159))]), none⟩,
  ⟨some 161, (.call { callee := (.builtin .append), args := #[(.tmp 158), (.tmp 160)], argTypes := #[28, 28] }), none⟩,
  ⟨some 17, (.assign (.tmp 161)), none⟩]))))
 (.reg [⟨some 162, (.binOp .add 3 (.tmp 130) (.const (.int .i64 1)) 3), none⟩,
  ⟨some 130, (.move (.tmp 162)), none⟩])))))))
 (.seq (.reg [⟨some 163, (.move (.tmp 17)), none⟩,
  ⟨some 164, (.move (.tmp 2)), none⟩,
  ⟨some 165, (.call { callee := (.builtin .len), args := #[(.tmp 164)], argTypes := #[35] }), none⟩,
  ⟨some 166, (.binOp .sub 3 (.tmp 165) (.const (.int .i64 1)) 3), none⟩,
  ⟨some 167, (.move (.tmp 17)), none⟩,
  ⟨some 168, (.call { callee := (.builtin .len), args := #[(.tmp 167)], argTypes := #[28] }), none⟩,
  ⟨some 169, (.binOp .sub 3 (.tmp 168) (.const (.int .i64 1)) 3), none⟩,
  ⟨some 170, (.build 52 #[(0, (.const (.int .i64 3))), (1, (.tmp 166)), (2, (.tmp 169)), (3, (.const (.int .i64 1))), (4, (.const (.int .i64 1)))]), none⟩,
  ⟨some 171, (.buildSlice 28 1 #[(0, (.tmp 170))]), none⟩,
  ⟨some 172, (.call { callee := (.builtin .append), args := #[(.tmp 163), (.tmp 171)], argTypes := #[28, 28] }), none⟩,
  ⟨some 17, (.assign (.tmp 172)), none⟩])
 (.seq (.reg [⟨some 173, (.move (.tmp 9)), none⟩,
  ⟨some 174, (.move (.tmp 17)), none⟩,
  ⟨some 175, (.call { callee := (.value (.func 13)), args := #[(.tmp 173), (.tmp 174)], argTypes := #[31, 28] }), none⟩,
  ⟨some 176, (.binOp .eql 25 (.tmp 175) (.const (.int .i64 0)) 25), none⟩,
  ⟨some 177, (.move (.tmp 176)), none⟩,
  ⟨some 178, (.call { callee := (.value (.func 8)), args := #[], argTypes := #[] }), some (177, true)⟩,
  ⟨some 179, (.pick (.tmp 177) (.tmp 178) (.const (.bool false))), none⟩,
  ⟨some 8, (.assign (.tmp 179)), none⟩])
 .ret))))))))))))
/-! f5 triforium/triforiumlaw24.ArithSound -/
def c5 : ACode := (.seq (.reg [⟨some 6, (.assign (.const (.bool false))), none⟩])
 (.seq (.seq (.reg [⟨some 13, (.move (.tmp 0)), none⟩,
  ⟨some 14, (.move (.tmp 1)), none⟩,
  ⟨some 15, (.call { callee := (.value (.func 7)), args := #[(.tmp 13), (.tmp 14), (.const (.int .i64 500))], argTypes := #[22, 35, 3] }), none⟩,
  ⟨some 16, (.unOp .not 4 (.tmp 15)), none⟩,
  ⟨some 17, (.move (.tmp 16)), none⟩,
  ⟨some 18, (.move (.tmp 2)), some (17, false)⟩,
  ⟨some 19, (.call { callee := (.value (.func 16)), args := #[(.tmp 18), (.func 23)], argTypes := #[37, 41] }), some (17, false)⟩,
  ⟨some 20, (.pick (.tmp 17) (.const (.bool true)) (.tmp 19)), none⟩])
 (.cond (.tmp 20) (.seq (.reg [⟨some 21, (.call { callee := (.value (.func 8)), args := #[], argTypes := #[] }), none⟩,
  ⟨some 6, (.assign (.tmp 21)), none⟩])
 .ret) .skip))
 (.seq (.reg [⟨some 23, (.move (.tmp 0)), none⟩,
  ⟨some 24, (.call { callee := (.value (.func 12)), args := #[(.tmp 23)], argTypes := #[22] }), none⟩,
  ⟨some 25, (.move (.tmp 2)), none⟩,
  ⟨some 26, (.call { callee := (.value (.func 25)), args := #[(.tmp 25)], argTypes := #[37] }), none⟩,
  ⟨some 27, (.call { callee := (.value (.func 24)), args := #[(.tmp 24), (.tmp 26)], argTypes := #[31, 37] }), none⟩,
  ⟨some 22, (.move (.tmp 27)), none⟩,
  ⟨some 28, (.extract (.tmp 22) 0), none⟩,
  ⟨some 29, (.extract (.tmp 22) 1), none⟩,
  ⟨some 7, (.assign (.tmp 28)), none⟩,
  ⟨some 8, (.assign (.tmp 29)), none⟩])
 (.seq (.reg [⟨some 31, (.move (.tmp 0)), none⟩,
  ⟨some 32, (.call { callee := (.value (.func 12)), args := #[(.tmp 31)], argTypes := #[22] }), none⟩,
  ⟨some 33, (.move (.tmp 1)), none⟩,
  ⟨some 34, (.call { callee := (.value (.func 21)), args := #[(.tmp 33)], argTypes := #[35] }), none⟩,
  ⟨some 35, (.call { callee := (.value (.func 22)), args := #[(.tmp 32), (.tmp 34)], argTypes := #[31, 28] }), none⟩,
  ⟨some 30, (.move (.tmp 35)), none⟩,
  ⟨some 36, (.extract (.tmp 30) 0), none⟩,
  ⟨some 37, (.extract (.tmp 30) 1), none⟩,
  ⟨some 9, (.assign (.tmp 36)), none⟩,
  ⟨some 10, (.assign (.tmp 37)), none⟩])
 (.seq (.seq (.reg [⟨some 38, (.move (.tmp 8)), none⟩,
  ⟨some 39, (.binOp .neq 25 (.tmp 38) (.const (.int .i64 0)) 25), none⟩,
  ⟨some 40, (.move (.tmp 39)), none⟩,
  ⟨some 41, (.move (.tmp 10)), some (40, false)⟩,
  ⟨some 42, (.binOp .neq 25 (.tmp 41) (.const (.int .i64 0)) 25), some (40, false)⟩,
  ⟨some 43, (.pick (.tmp 40) (.const (.bool true)) (.tmp 42)), none⟩,
  ⟨some 44, (.move (.tmp 43)), none⟩,
  ⟨some 45, (.move (.tmp 7)), some (44, false)⟩,
  ⟨some 46, (.unOp .not 4 (.tmp 45)), some (44, false)⟩,
  ⟨some 47, (.pick (.tmp 44) (.const (.bool true)) (.tmp 46)), none⟩])
 (.cond (.tmp 47) (.seq (.reg [⟨some 48, (.call { callee := (.value (.func 8)), args := #[], argTypes := #[] }), none⟩,
  ⟨some 6, (.assign (.tmp 48)), none⟩])
 .ret) .skip))
 (.seqL (.seq (.reg [⟨some 49, (.move (.tmp 9)), none⟩,
  ⟨some 50, (.call { callee := (.builtin .len), args := #[(.tmp 49)], argTypes := #[31] }), none⟩,
  ⟨some 51, (.move (.const (.int .i64 0))), none⟩])
 (.block 0 (.loop (.seq (.reg [⟨some 52, (.binOp .lss 3 (.tmp 51) (.tmp 50) 3), none⟩])
 (.seq (.cond (.tmp 52) .skip (.exit 0))
 (.seq (.block 1 (.seq (.reg [⟨some 53, (.indexAddr 31 (.tmp 49) (.tmp 51)), none⟩,
  ⟨some 54, (.load 50 (.tmp 53)), none⟩,
  ⟨some 12, (.alloc 50), none⟩,
  ⟨none, (.store 50 (.tmp 12) (.tmp 54)), none⟩])
 (.seq (.reg [⟨some 55, (.fieldAddr 50 (.tmp 12) 0), none⟩,
  ⟨some 56, (.load 37 (.tmp 55)), none⟩,
  ⟨some 57, (.call { callee := (.builtin .len), args := #[(.tmp 56)], argTypes := #[37] }), none⟩,
  ⟨some 58, (.move (.tmp 2)), none⟩,
  ⟨some 59, (.call { callee := (.builtin .len), args := #[(.tmp 58)], argTypes := #[37] }), none⟩,
  ⟨some 60, (.binOp .gtr 3 (.tmp 57) (.tmp 59) 3), none⟩,
  ⟨some 61, (.move (.tmp 60)), none⟩,
  ⟨some 62, (.load 50 (.tmp 12)), some (61, false)⟩,
  ⟨some 63, (.move (.tmp 2)), some (61, false)⟩,
  ⟨some 64, (.call { callee := (.value (.func 26)), args := #[(.tmp 62), (.tmp 63)], argTypes := #[39, 37] }), some (61, false)⟩,
  ⟨some 65, (.unOp .not 4 (.tmp 64)), some (61, false)⟩,
  ⟨some 66, (.pick (.tmp 61) (.const (.bool true)) (.tmp 65)), none⟩])
 (.cond (.tmp 66) (.seq (.reg [⟨some 6, (.assign (.const (.bool false))), none⟩])
 .ret) .skip))))
 (.reg [⟨some 67, (.binOp .add 3 (.tmp 51) (.const (.int .i64 1)) 3), none⟩,
  ⟨some 51, (.move (.tmp 67)), none⟩])))))))
 (.seq (.reg [⟨some 68, (.move (.tmp 0)), none⟩,
  ⟨some 69, (.call { callee := (.value (.func 12)), args := #[(.tmp 68)], argTypes := #[22] }), none⟩,
  ⟨some 70, (.move (.tmp 1)), none⟩,
  ⟨some 71, (.call { callee := (.value (.func 21)), args := #[(.tmp 70)], argTypes := #[35] }), none⟩,
  ⟨some 72, (.call { callee := (.value (.func 13)), args := #[(.tmp 69), (.tmp 71)], argTypes := #[31, 28] }), none⟩,
  ⟨some 73, (.binOp .neq 25 (.tmp 72) (.const (.int .i64 0)) 25), none⟩,
  ⟨some 74, (.move (.tmp 73)), none⟩,
  ⟨some 75, (.call { callee := (.value (.func 8)), args := #[], argTypes := #[] }), some (74, true)⟩,
  ⟨some 76, (.pick (.tmp 74) (.tmp 75) (.const (.bool false))), none⟩,
  ⟨some 6, (.assign (.tmp 76)), none⟩])
 .ret)))))))
/-! f6 triforium/triforiumlaw24.ArithDerives -/
def c6 : ACode := (.seq (.reg [⟨some 8, (.assign (.const (.bool false))), none⟩])
 (.seq (.seq (.reg [⟨some 17, (.move (.tmp 0)), none⟩,
  ⟨some 18, (.move (.tmp 1)), none⟩,
  ⟨some 19, (.call { callee := (.value (.func 7)), args := #[(.tmp 17), (.tmp 18), (.const (.int .i64 5010))], argTypes := #[22, 35, 3] }), none⟩,
  ⟨some 20, (.unOp .not 4 (.tmp 19)), none⟩,
  ⟨some 21, (.move (.tmp 20)), none⟩,
  ⟨some 22, (.move (.tmp 2)), some (21, false)⟩,
  ⟨some 23, (.call { callee := (.builtin .len), args := #[(.tmp 22)], argTypes := #[37] }), some (21, false)⟩,
  ⟨some 24, (.binOp .gtr 3 (.tmp 23) (.const (.int .i64 30)) 3), some (21, false)⟩,
  ⟨some 25, (.pick (.tmp 21) (.const (.bool true)) (.tmp 24)), none⟩])
 (.cond (.tmp 25) (.seq (.reg [⟨some 26, (.call { callee := (.value (.func 8)), args := #[], argTypes := #[] }), none⟩,
  ⟨some 8, (.assign (.tmp 26)), none⟩])
 .ret) .skip))
 (.seq (.reg [⟨some 28, (.move (.tmp 0)), none⟩,
  ⟨some 29, (.call { callee := (.value (.func 12)), args := #[(.tmp 28)], argTypes := #[22] }), none⟩,
  ⟨some 30, (.move (.tmp 1)), none⟩,
  ⟨some 31, (.call { callee := (.value (.func 21)), args := #[(.tmp 30)], argTypes := #[35] }), none⟩,
  ⟨some 32, (.call { callee := (.value (.func 22)), args := #[(.tmp 29), (.tmp 31)], argTypes := #[31, 28] }), none⟩,
  ⟨some 27, (.move (.tmp 32)), none⟩,
  ⟨some 33, (.extract (.tmp 27) 0), none⟩,
  ⟨some 34, (.extract (.tmp 27) 1), none⟩,
  ⟨some 9, (.assign (.tmp 33)), none⟩,
  ⟨some 10, (.assign (.tmp 34)), none⟩])
 (.seq (.reg [⟨some 36, (.move (.tmp 0)), none⟩,
  ⟨some 37, (.move (.tmp 1)), none⟩,
  ⟨some 38, (.call { callee := (.value (.func 27)), args := #[(.tmp 36), (.tmp 37)], argTypes := #[22, 35] }), none⟩,
  ⟨some 35, (.move (.tmp 38)), none⟩,
  ⟨some 39, (.extract (.tmp 35) 0), none⟩,
  ⟨some 40, (.extract (.tmp 35) 1), none⟩,
  ⟨some 11, (.assign (.tmp 39)), none⟩,
  ⟨some 12, (.assign (.tmp 40)), none⟩])
 (.seq (.seq (.reg [⟨some 41, (.move (.tmp 10)), none⟩,
  ⟨some 42, (.move (.tmp 12)), none⟩,
  ⟨some 43, (.binOp .neq 25 (.tmp 41) (.tmp 42) 25), none⟩,
  ⟨some 44, (.move (.tmp 43)), none⟩,
  ⟨some 45, (.move (.tmp 9)), some (44, false)⟩,
  ⟨some 46, (.call { callee := (.value (.func 29)), args := #[(.tmp 45)], argTypes := #[31] }), some (44, false)⟩,
  ⟨some 47, (.move (.tmp 11)), some (44, false)⟩,
  ⟨some 48, (.call { callee := (.value (.func 28)), args := #[(.tmp 46), (.tmp 47)], argTypes := #[22, 22] }), some (44, false)⟩,
  ⟨some 49, (.unOp .not 4 (.tmp 48)), some (44, false)⟩,
  ⟨some 50, (.pick (.tmp 44) (.const (.bool true)) (.tmp 49)), none⟩,
  ⟨some 51, (.move (.tmp 50)), none⟩,
  ⟨some 52, (.move (.tmp 0)), some (51, false)⟩,
  ⟨some 53, (.call { callee := (.value (.func 12)), args := #[(.tmp 52)], argTypes := #[22] }), some (51, false)⟩,
  ⟨some 54, (.move (.tmp 1)), some (51, false)⟩,
  ⟨some 55, (.call { callee := (.value (.func 21)), args := #[(.tmp 54)], argTypes := #[35] }), some (51, false)⟩,
  ⟨some 56, (.call { callee := (.value (.func 13)), args := #[(.tmp 53), (.tmp 55)], argTypes := #[31, 28] }), some (51, false)⟩,
  ⟨some 57, (.move (.tmp 0)), some (51, false)⟩,
  ⟨some 58, (.move (.tmp 1)), some (51, false)⟩,
  ⟨some 59, (.call { callee := (.value (.func 14)), args := #[(.tmp 57), (.tmp 58)], argTypes := #[22, 35] }), some (51, false)⟩,
  ⟨some 60, (.binOp .neq 25 (.tmp 56) (.tmp 59) 25), some (51, false)⟩,
  ⟨some 61, (.pick (.tmp 51) (.const (.bool true)) (.tmp 60)), none⟩])
 (.cond (.tmp 61) (.seq (.reg [⟨some 8, (.assign (.const (.bool false))), none⟩])
 .ret) .skip))
 (.seq (.reg [⟨some 63, (.move (.tmp 0)), none⟩,
  ⟨some 64, (.call { callee := (.value (.func 12)), args := #[(.tmp 63)], argTypes := #[22] }), none⟩,
  ⟨some 65, (.move (.tmp 2)), none⟩,
  ⟨some 66, (.call { callee := (.value (.func 25)), args := #[(.tmp 65)], argTypes := #[37] }), none⟩,
  ⟨some 67, (.call { callee := (.value (.func 24)), args := #[(.tmp 64), (.tmp 66)], argTypes := #[31, 37] }), none⟩,
  ⟨some 62, (.move (.tmp 67)), none⟩,
  ⟨some 68, (.extract (.tmp 62) 0), none⟩,
  ⟨some 69, (.extract (.tmp 62) 1), none⟩,
  ⟨some 13, (.assign (.tmp 68)), none⟩,
  ⟨some 10, (.assign (.tmp 69)), none⟩])
 (.seq (.reg [⟨some 71, (.move (.tmp 0)), none⟩,
  ⟨some 72, (.move (.tmp 2)), none⟩,
  ⟨some 73, (.call { callee := (.value (.func 30)), args := #[(.tmp 71), (.tmp 72)], argTypes := #[22, 37] }), none⟩,
  ⟨some 70, (.move (.tmp 73)), none⟩,
  ⟨some 74, (.extract (.tmp 70) 0), none⟩,
  ⟨some 75, (.extract (.tmp 70) 1), none⟩,
  ⟨some 14, (.assign (.tmp 74)), none⟩,
  ⟨some 12, (.assign (.tmp 75)), none⟩])
 (.seq (.seq (.reg [⟨some 76, (.move (.tmp 13)), none⟩,
  ⟨some 77, (.move (.tmp 14)), none⟩,
  ⟨some 78, (.binOp .neq 4 (.tmp 76) (.tmp 77) 4), none⟩,
  ⟨some 79, (.move (.tmp 78)), none⟩,
  ⟨some 80, (.move (.tmp 10)), some (79, false)⟩,
  ⟨some 81, (.move (.tmp 12)), some (79, false)⟩,
  ⟨some 82, (.binOp .neq 25 (.tmp 80) (.tmp 81) 25), some (79, false)⟩,
  ⟨some 83, (.pick (.tmp 79) (.const (.bool true)) (.tmp 82)), none⟩])
 (.cond (.tmp 83) (.seq (.reg [⟨some 8, (.assign (.const (.bool false))), none⟩])
 .ret) .skip))
 (.seq (.seq (.reg [⟨some 84, (.move (.tmp 3)), none⟩,
  ⟨some 85, (.binOp .gtr 3 (.tmp 84) (.const (.int .i64 8)) 3), none⟩,
  ⟨some 86, (.move (.tmp 85)), none⟩,
  ⟨some 87, (.move (.tmp 3)), some (86, true)⟩,
  ⟨some 88, (.binOp .leq 3 (.tmp 87) (.const (.int .i64 100)) 3), some (86, true)⟩,
  ⟨some 89, (.pick (.tmp 86) (.tmp 88) (.const (.bool false))), none⟩])
 (.cond (.tmp 89) (.seq (.reg [⟨some 90, (.call { callee := (.value (.func 8)), args := #[], argTypes := #[] }), none⟩,
  ⟨some 8, (.assign (.tmp 90)), none⟩])
 .ret) .skip))
 (.seq (.reg [⟨some 92, (.move (.tmp 0)), none⟩,
  ⟨some 93, (.call { callee := (.value (.func 12)), args := #[(.tmp 92)], argTypes := #[22] }), none⟩,
  ⟨some 94, (.move (.tmp 3)), none⟩,
  ⟨some 95, (.call { callee := (.value (.func 31)), args := #[(.tmp 93), (.tmp 94)], argTypes := #[31, 3] }), none⟩,
  ⟨some 91, (.move (.tmp 95)), none⟩,
  ⟨some 96, (.extract (.tmp 91) 0), none⟩,
  ⟨some 97, (.extract (.tmp 91) 1), none⟩,
  ⟨some 98, (.extract (.tmp 91) 2), none⟩,
  ⟨some 15, (.assign (.tmp 96)), none⟩,
  ⟨some 13, (.assign (.tmp 97)), none⟩,
  ⟨some 10, (.assign (.tmp 98)), none⟩])
 (.seq (.reg [⟨some 100, (.move (.tmp 0)), none⟩,
  ⟨some 101, (.move (.tmp 3)), none⟩,
  ⟨some 102, (.call { callee := (.value (.func 19)), args := #[(.tmp 100), (.tmp 101)], argTypes := #[22, 3] }), none⟩,
  ⟨some 99, (.move (.tmp 102)), none⟩,
  ⟨some 103, (.extract (.tmp 99) 0), none⟩,
  ⟨some 104, (.extract (.tmp 99) 1), none⟩,
  ⟨some 105, (.extract (.tmp 99) 2), none⟩,
  ⟨some 16, (.assign (.tmp 103)), none⟩,
  ⟨some 14, (.assign (.tmp 104)), none⟩,
  ⟨some 12, (.assign (.tmp 105)), none⟩])
 (.seq (.reg [⟨some 106, (.move (.tmp 13)), none⟩,
  ⟨some 107, (.move (.tmp 14)), none⟩,
  ⟨some 108, (.binOp .eql 4 (.tmp 106) (.tmp 107) 4), none⟩,
  ⟨some 109, (.move (.tmp 108)), none⟩,
  ⟨some 110, (.move (.tmp 10)), some (109, true)⟩,
  ⟨some 111, (.move (.tmp 12)), some (109, true)⟩,
  ⟨some 112, (.binOp .eql 25 (.tmp 110) (.tmp 111) 25), some (109, true)⟩,
  ⟨some 113, (.pick (.tmp 109) (.tmp 112) (.const (.bool false))), none⟩,
  ⟨some 114, (.move (.tmp 113)), none⟩,
  ⟨some 115, (.move (.tmp 15)), some (114, true)⟩,
  ⟨some 116, (.move (.tmp 16)), some (114, true)⟩,
  ⟨some 117, (.call { callee := (.value (.func 32)), args := #[(.tmp 115), (.tmp 116)], argTypes := #[37, 37] }), some (114, true)⟩,
  ⟨some 118, (.pick (.tmp 114) (.tmp 117) (.const (.bool false))), none⟩,
  ⟨some 119, (.move (.tmp 118)), none⟩,
  ⟨some 120, (.call { callee := (.value (.func 8)), args := #[], argTypes := #[] }), some (119, true)⟩,
  ⟨some 121, (.pick (.tmp 119) (.tmp 120) (.const (.bool false))), none⟩,
  ⟨some 8, (.assign (.tmp 121)), none⟩])
 .ret))))))))))))
/-! f7 triforium/triforiumlaw24.few -/
def c7 : ACode := (.seq (.reg [⟨some 6, (.assign (.const (.bool false))), none⟩])
 (.seq (.reg [⟨some 7, (.move (.tmp 0)), none⟩,
  ⟨some 8, (.call { callee := (.builtin .len), args := #[(.tmp 7)], argTypes := #[22] }), none⟩,
  ⟨some 9, (.binOp .leq 3 (.tmp 8) (.const (.int .i64 110)) 3), none⟩,
  ⟨some 10, (.move (.tmp 9)), none⟩,
  ⟨some 11, (.move (.tmp 1)), some (10, true)⟩,
  ⟨some 12, (.call { callee := (.builtin .len), args := #[(.tmp 11)], argTypes := #[35] }), some (10, true)⟩,
  ⟨some 13, (.move (.tmp 2)), some (10, true)⟩,
  ⟨some 14, (.binOp .leq 3 (.tmp 12) (.tmp 13) 3), some (10, true)⟩,
  ⟨some 15, (.pick (.tmp 10) (.tmp 14) (.const (.bool false))), none⟩,
  ⟨some 16, (.move (.tmp 15)), none⟩,
  ⟨some 17, (.move (.tmp 0)), some (16, true)⟩,
  ⟨some 18, (.call { callee := (.value (.func 33)), args := #[(.tmp 17), (.func 34)], argTypes := #[22, 68] }), some (16, true)⟩,
  ⟨some 19, (.unOp .not 4 (.tmp 18)), some (16, true)⟩,
  ⟨some 20, (.pick (.tmp 16) (.tmp 19) (.const (.bool false))), none⟩,
  ⟨some 6, (.assign (.tmp 20)), none⟩])
 .ret))
theorem fd7 : FnD Try.prog 7 21 [(.tmp 6)] c7 := ⟨⟨Try.f7, Try.f7.body.getD .skip, Try.func7, by kernel_rfl, by kernel_rfl, by kernel_rfl, by kernel_rfl⟩⟩
/-! f8 triforium/triforiumlaw24.awake -/
def c8 : ACode := (.seq (.reg [⟨some 0, (.assign (.const (.bool false))), none⟩])
 (.seq (.reg [⟨some 11, (.buildSlice 37 2 #[(0, (.const (.int .i64 1))), (1, (.const (.int .i64 1)))]), none⟩,
  ⟨some 12, (.build 50 #[(0, (.tmp 11)), (1, (.const (.int .i64 1)))]), none⟩,
  ⟨some 13, (.buildSlice 37 1 #[(0, (.const (.int .i64 (-1))))]), none⟩,
  ⟨some 14, (.build 50 #[(0, (.tmp 13)), (1, (.const (.int .i64 (-2))))]), none⟩,
  ⟨some 15, (.buildSlice 31 2 #[(0, (.tmp 12)), (1, (.tmp 14))]), none⟩,
  ⟨some 1, (.assign (.tmp 15)), none⟩])
 (.seq (.reg [⟨some 16, (.build 52 #[(0, (.const (.int .i64 1)))]), none⟩,
  ⟨some 17, (.build 52 #[(0, (.const (.int .i64 1))), (1, (.const (.int .i64 1)))]), none⟩,
  ⟨some 18, (.build 52 #[(0, (.const (.int .i64 2))), (1, (.const (.int .i64 1)))]), none⟩,
  ⟨some 19, (.build 52 #[(0, (.const (.int .i64 3))), (1, (.const (.int .i64 0))), (2, (.const (.int .i64 1))), (3, (.const (.int .i64 1))), (4, (.const (.int .i64 1)))]), none⟩,
  ⟨some 20, (.build 52 #[(0, (.const (.int .i64 3))), (1, (.const (.int .i64 3))), (2, (.const (.int .i64 2))), (3, (.const (.int .i64 1))), (4, (.const (.int .i64 1)))]), none⟩,
  ⟨some 21, (.buildSlice 28 5 #[(0, (.tmp 16)), (1, (.tmp 17)), (2, (.tmp 18)), (3, (.tmp 19)), (4, (.tmp 20))]), none⟩,
  ⟨some 2, (.assign (.tmp 21)), none⟩])
 (.seq (.reg [⟨some 23, (.move (.tmp 1)), none⟩,
  ⟨some 24, (.move (.tmp 2)), none⟩,
  ⟨some 25, (.call { callee := (.value (.func 22)), args := #[(.tmp 23), (.tmp 24)], argTypes := #[31, 28] }), none⟩,
  ⟨some 22, (.move (.tmp 25)), none⟩,
  ⟨some 26, (.extract (.tmp 22) 0), none⟩,
  ⟨some 27, (.extract (.tmp 22) 1), none⟩,
  ⟨some 3, (.assign (.tmp 26)), none⟩,
  ⟨some 4, (.assign (.tmp 27)), none⟩])
 (.seq (.reg [⟨some 29, (.move (.tmp 1)), none⟩,
  ⟨some 30, (.call { callee := (.value (.func 11)), args := #[(.tmp 29), (.const (.int .i64 100))], argTypes := #[31, 3] }), none⟩,
  ⟨some 28, (.move (.tmp 30)), none⟩,
  ⟨some 31, (.extract (.tmp 28) 0), none⟩,
  ⟨some 32, (.extract (.tmp 28) 1), none⟩,
  ⟨some 33, (.extract (.tmp 28) 2), none⟩,
  ⟨some 5, (.assign (.tmp 31)), none⟩,
  ⟨some 6, (.assign (.tmp 32)), none⟩,
  ⟨some 7, (.assign (.tmp 33)), none⟩])
 (.seq (.reg [⟨some 35, (.move (.tmp 1)), none⟩,
  ⟨some 36, (.slice 31 (.tmp 35) none (some (.const (.int .i64 1))) none), none⟩,
  ⟨some 37, (.call { callee := (.value (.func 31)), args := #[(.tmp 36), (.const (.int .i64 3))], argTypes := #[31, 3] }), none⟩,
  ⟨some 34, (.move (.tmp 37)), none⟩,
  ⟨some 38, (.extract (.tmp 34) 0), none⟩,
  ⟨some 39, (.extract (.tmp 34) 1), none⟩,
  ⟨some 40, (.extract (.tmp 34) 2), none⟩,
  ⟨some 8, (.assign (.tmp 38)), none⟩,
  ⟨some 9, (.assign (.tmp 39)), none⟩,
  ⟨some 10, (.assign (.tmp 40)), none⟩])
 (.seq (.reg [⟨some 41, (.move (.tmp 4)), none⟩,
  ⟨some 42, (.binOp .eql 25 (.tmp 41) (.const (.int .i64 0)) 25), none⟩,
  ⟨some 43, (.move (.tmp 42)), none⟩,
  ⟨some 44, (.move (.tmp 3)), some (43, true)⟩,
  ⟨some 45, (.call { callee := (.builtin .len), args := #[(.tmp 44)], argTypes := #[31] }), some (43, true)⟩,
  ⟨some 46, (.binOp .eql 3 (.tmp 45) (.const (.int .i64 5)) 3), some (43, true)⟩,
  ⟨some 47, (.pick (.tmp 43) (.tmp 46) (.const (.bool false))), none⟩,
  ⟨some 48, (.move (.tmp 47)), none⟩,
  ⟨some 49, (.move (.tmp 3)), some (48, true)⟩,
  ⟨some 50, (.indexAddr 31 (.tmp 49) (.const (.int .i64 4))), some (48, true)⟩,
  ⟨some 51, (.fieldAddr 50 (.tmp 50) 1), some (48, true)⟩,
  ⟨some 52, (.load 3 (.tmp 51)), some (48, true)⟩,
  ⟨some 53, (.binOp .eql 3 (.tmp 52) (.const (.int .i64 (-1))) 3), some (48, true)⟩,
  ⟨some 54, (.pick (.tmp 48) (.tmp 53) (.const (.bool false))), none⟩,
  ⟨some 55, (.move (.tmp 54)), none⟩,
  ⟨some 56, (.move (.tmp 1)), some (55, true)⟩,
  ⟨some 57, (.move (.tmp 2)), some (55, true)⟩,
  ⟨some 58, (.call { callee := (.value (.func 13)), args := #[(.tmp 56), (.tmp 57)], argTypes := #[31, 28] }), some (55, true)⟩,
  ⟨some 59, (.binOp .eql 25 (.tmp 58) (.const (.int .i64 0)) 25), some (55, true)⟩,
  ⟨some 60, (.pick (.tmp 55) (.tmp 59) (.const (.bool false))), none⟩,
  ⟨some 61, (.move (.tmp 60)), none⟩,
  ⟨some 62, (.move (.tmp 7)), some (61, true)⟩,
  ⟨some 63, (.binOp .eql 25 (.tmp 62) (.const (.int .i64 0)) 25), some (61, true)⟩,
  ⟨some 64, (.pick (.tmp 61) (.tmp 63) (.const (.bool false))), none⟩,
  ⟨some 65, (.move (.tmp 64)), none⟩,
  ⟨some 66, (.move (.tmp 6)), some (65, true)⟩,
  ⟨some 67, (.pick (.tmp 65) (.tmp 66) (.const (.bool false))), none⟩,
  ⟨some 68, (.move (.tmp 67)), none⟩,
  ⟨some 69, (.move (.tmp 1)), some (68, true)⟩,
  ⟨some 70, (.move (.tmp 5)), some (68, true)⟩,
  ⟨some 71, (.call { callee := (.value (.func 13)), args := #[(.tmp 69), (.tmp 70)], argTypes := #[31, 28] }), some (68, true)⟩,
  ⟨some 72, (.binOp .eql 25 (.tmp 71) (.const (.int .i64 0)) 25), some (68, true)⟩,
  ⟨some 73, (.pick (.tmp 68) (.tmp 72) (.const (.bool false))), none⟩,
  ⟨some 74, (.move (.tmp 73)), none⟩,
  ⟨some 75, (.move (.tmp 10)), some (74, true)⟩,
  ⟨some 76, (.binOp .eql 25 (.tmp 75) (.const (.int .i64 0)) 25), some (74, true)⟩,
  ⟨some 77, (.pick (.tmp 74) (.tmp 76) (.const (.bool false))), none⟩,
  ⟨some 78, (.move (.tmp 77)), none⟩,
  ⟨some 79, (.move (.tmp 9)), some (78, true)⟩,
  ⟨some 80, (.pick (.tmp 78) (.tmp 79) (.const (.bool false))), none⟩,
  ⟨some 81, (.move (.tmp 80)), none⟩,
  ⟨some 82, (.move (.tmp 8)), some (81, true)⟩,
  ⟨some 83, (.buildSlice 37 2 #[(0, (.const (.int .i64 0))), (1, (.const (.int .i64 0)))]), some (81, true)⟩,
  ⟨some 84, (.call { callee := (.value (.func 32)), args := #[(.tmp 82), (.tmp 83)], argTypes := #[37, 37] }), some (81, true)⟩,
  ⟨some 85, (.pick (.tmp 81) (.tmp 84) (.const (.bool false))), none⟩,
  ⟨some 0, (.assign (.tmp 85)), none⟩])
 .ret)))))))
theorem fd8 : FnD Try.prog 8 86 [(.tmp 0)] c8 := ⟨⟨Try.f8, Try.f8.body.getD .skip, Try.func8, by kernel_rfl, by kernel_rfl, by kernel_rfl, by kernel_rfl⟩⟩
/-! f9 triforium/triforiumref24.Asked -/
def c9 : ACode := (.seq (.reg [⟨some 4, (.assign (.const (.int .i64 0))), none⟩])
 (.seq (.seq (.reg [⟨some 6, (.move (.tmp 0)), none⟩,
  ⟨some 7, (.call { callee := (.value (.func 35)), args := #[(.tmp 6)], argTypes := #[22] }), none⟩,
  ⟨some 5, (.assign (.tmp 7)), none⟩])
 (.seq (.reg [⟨some 8, (.move (.tmp 5)), none⟩,
  ⟨some 9, (.binOp .neq 25 (.tmp 8) (.const (.int .i64 0)) 25), none⟩])
 (.cond (.tmp 9) (.seq (.reg [⟨some 10, (.move (.tmp 5)), none⟩,
  ⟨some 4, (.assign (.tmp 10)), none⟩])
 .ret) .skip)))
 (.seq (.seq (.reg [⟨some 11, (.move (.tmp 1)), none⟩,
  ⟨some 12, (.binOp .lss 3 (.tmp 11) (.const (.int .i64 0)) 3), none⟩,
  ⟨some 13, (.move (.tmp 12)), none⟩,
  ⟨some 14, (.move (.tmp 1)), some (13, false)⟩,
  ⟨some 15, (.binOp .gtr 3 (.tmp 14) (.const (.int .i64 5000)) 3), some (13, false)⟩,
  ⟨some 16, (.pick (.tmp 13) (.const (.bool true)) (.tmp 15)), none⟩])
 (.cond (.tmp 16) (.seq (.reg [⟨some 4, (.assign (.const (.int .i64 4))), none⟩])
 .ret) .skip))
 (.seq (.reg [⟨some 4, (.assign (.const (.int .i64 0))), none⟩])
 .ret))))
theorem fd9 : FnD Try.prog 9 17 [(.tmp 4)] c9 := ⟨⟨Try.f9, Try.f9.body.getD .skip, Try.func9, by kernel_rfl, by kernel_rfl, by kernel_rfl, by kernel_rfl⟩⟩
/-! f10 triforium/triforiumref24.Unknowns -/
def c10 : ACode := (.seq (.reg [⟨some 2, (.assign (.const (.int .i64 0))), none⟩])
 (.seq (.reg [⟨some 3, (.assign (.const (.int .i64 0))), none⟩])
 (.seqL (.seq (.reg [⟨some 4, (.assign (.const (.int .i64 0))), none⟩])
 (.block 0 (.loop (.seq (.seq (.reg [⟨some 5, (.move (.tmp 4)), none⟩,
  ⟨some 6, (.move (.tmp 0)), none⟩,
  ⟨some 7, (.call { callee := (.builtin .len), args := #[(.tmp 6)], argTypes := #[22] }), none⟩,
  ⟨some 8, (.binOp .lss 3 (.tmp 5) (.tmp 7) 3), none⟩])
 (.cond (.tmp 8) .skip (.exit 0)))
 (.seq (.block 1 (.reg [⟨some 11, (.move (.tmp 3)), none⟩,
  ⟨some 12, (.move (.tmp 0)), none⟩,
  ⟨some 13, (.move (.tmp 4)), none⟩,
  ⟨some 14, (.indexAddr 22 (.tmp 12) (.tmp 13)), none⟩,
  ⟨some 15, (.fieldAddr 39 (.tmp 14) 0), none⟩,
  ⟨some 16, (.load 37 (.tmp 15)), none⟩,
  ⟨some 17, (.call { callee := (.builtin .len), args := #[(.tmp 16)], argTypes := #[37] }), none⟩,
  ⟨some 18, (.call { callee := (.builtin .max), args := #[(.tmp 11), (.tmp 17)], argTypes := #[3, 3] }), none⟩,
  ⟨some 3, (.assign (.tmp 18)), none⟩]))
 (.reg [⟨some 9, (.move (.tmp 4)), none⟩,
  ⟨some 10, (.binOp .add 3 (.tmp 9) (.const (.int .i64 1)) 3), none⟩,
  ⟨some 4, (.assign (.tmp 10)), none⟩]))))))
 (.seq (.reg [⟨some 19, (.move (.tmp 3)), none⟩,
  ⟨some 2, (.assign (.tmp 19)), none⟩])
 .ret))))
theorem fd10 : FnD Try.prog 10 20 [(.tmp 2)] c10 := ⟨⟨Try.f10, Try.f10.body.getD .skip, Try.func10, by kernel_rfl, by kernel_rfl, by kernel_rfl, by kernel_rfl⟩⟩
/-! f11 triforium/arith.Refute -/
def c11 : ACode := (.seq (.reg [⟨some 4, (.alloc 28), none⟩,
  ⟨some 5, (.alloc 4), none⟩,
  ⟨some 6, (.alloc 25), none⟩])
 (.seq (.seq (.reg [⟨some 9, (.move (.tmp 0)), none⟩,
  ⟨some 10, (.call { callee := (.value (.func 36)), args := #[(.tmp 9)], argTypes := #[31] }), none⟩,
  ⟨some 7, (.assign (.tmp 10)), none⟩])
 (.seq (.reg [⟨some 11, (.move (.tmp 7)), none⟩,
  ⟨some 12, (.binOp .neq 25 (.tmp 11) (.const (.int .i64 0)) 25), none⟩])
 (.cond (.tmp 12) (.seq (.reg [⟨some 13, (.move (.tmp 7)), none⟩,
  ⟨none, (.store 28 (.tmp 4) (.const (.slice none 0 0))), none⟩,
  ⟨none, (.store 4 (.tmp 5) (.const (.bool false))), none⟩,
  ⟨none, (.store 25 (.tmp 6) (.tmp 13)), none⟩])
 .ret) .skip)))
 (.seq (.seq (.reg [⟨some 14, (.move (.tmp 1)), none⟩,
  ⟨some 15, (.binOp .lss 3 (.tmp 14) (.const (.int .i64 0)) 3), none⟩,
  ⟨some 16, (.move (.tmp 15)), none⟩,
  ⟨some 17, (.move (.tmp 1)), some (16, false)⟩,
  ⟨some 18, (.binOp .gtr 3 (.tmp 17) (.const (.int .i64 5000)) 3), some (16, false)⟩,
  ⟨some 19, (.pick (.tmp 16) (.const (.bool true)) (.tmp 18)), none⟩])
 (.cond (.tmp 19) (.seq (.reg [⟨none, (.store 28 (.tmp 4) (.const (.slice none 0 0))), none⟩,
  ⟨none, (.store 4 (.tmp 5) (.const (.bool false))), none⟩,
  ⟨none, (.store 25 (.tmp 6) (.const (.int .i64 4))), none⟩])
 .ret) .skip))
 (.seq (.reg [⟨some 20, (.move (.tmp 0)), none⟩,
  ⟨some 21, (.move (.tmp 0)), none⟩,
  ⟨some 22, (.call { callee := (.value (.func 37)), args := #[(.tmp 21)], argTypes := #[31] }), none⟩,
  ⟨some 23, (.build 74 #[(0, (.tmp 20)), (1, (.tmp 22))]), none⟩,
  ⟨some 24, (.move (.tmp 1)), none⟩,
  ⟨some 25, (.makeMap 75 none), none⟩,
  ⟨some 26, (.build 77 #[(0, (.tmp 23)), (2, (.tmp 24)), (3, (.tmp 25))]), none⟩,
  ⟨some 27, (.box 77 (.tmp 26)), none⟩,
  ⟨some 8, (.alloc 71), none⟩,
  ⟨none, (.store 71 (.tmp 8) (.tmp 27)), none⟩])
 (.seq (.reg [⟨some 28, (.makeFunc (.func 38) #[] #[(.tmp 8), (.tmp 4), (.tmp 5), (.tmp 6)]), none⟩,
  ⟨none, (.defer { callee := (.value (.tmp 28)), args := #[], argTypes := #[] }), none⟩])
 (.seq (.reg [⟨some 29, (.load 71 (.tmp 8)), none⟩,
  ⟨some 30, (.call { callee := (.value (.func 40)), args := #[(.tmp 29)], argTypes := #[71] }), none⟩])
 (.seq (.reg [⟨none, (.store 28 (.tmp 4) (.const (.slice none 0 0))), none⟩,
  ⟨none, (.store 4 (.tmp 5) (.const (.bool false))), none⟩,
  ⟨none, (.store 25 (.tmp 6) (.const (.int .i64 0))), none⟩])
 .ret)))))))
theorem fd11 : FnD Try.prog 11 31 [(.cell 4 28), (.cell 5 4), (.cell 6 25)] c11 := ⟨⟨Try.f11, Try.f11.body.getD .skip, Try.func11, by kernel_rfl, by kernel_rfl, by kernel_rfl, by kernel_rfl⟩⟩
/-! f12 triforium/triforiumlaw24.Rows -/
def c12 : ACode := (.seq (.reg [⟨some 2, (.assign (.const (.slice none 0 0))), none⟩])
 (.seq (.reg [⟨some 3, (.assign (.const (.slice none 0 0))), none⟩])
 (.seqL (.seq (.reg [⟨some 6, (.move (.tmp 0)), none⟩,
  ⟨some 7, (.call { callee := (.builtin .len), args := #[(.tmp 6)], argTypes := #[22] }), none⟩,
  ⟨some 8, (.move (.const (.int .i64 0))), none⟩])
 (.block 0 (.loop (.seq (.reg [⟨some 9, (.binOp .lss 3 (.tmp 8) (.tmp 7) 3), none⟩])
 (.seq (.cond (.tmp 9) .skip (.exit 0))
 (.seq (.block 1 (.seq (.reg [⟨some 10, (.indexAddr 22 (.tmp 6) (.tmp 8)), none⟩,
  ⟨some 11, (.load 39 (.tmp 10)), none⟩,
  ⟨some 5, (.alloc 39), none⟩,
  ⟨none, (.store 39 (.tmp 5) (.tmp 11)), none⟩])
 (.dreg (.tk ⟨some 12, (.move (.tmp 3)), none⟩
  (.tk ⟨some 13, (.fieldAddr 39 (.tmp 5) 0), none⟩
  (.tk ⟨some 14, (.load 37 (.tmp 13)), none⟩
  (.tk ⟨some 16, (.fieldAddr 39 (.tmp 5) 1), none⟩
  (.tk ⟨some 17, (.load 3 (.tmp 16)), none⟩
  (.one ⟨some 15, (.call { callee := (.value (.func 25)), args := #[(.tmp 14)], argTypes := #[37] }), none⟩
  (.tk ⟨some 18, (.build 50 #[(0, (.tmp 15)), (1, (.tmp 17))]), none⟩
  (.cut ⟨some 19, (.buildSlice 31 1 #[(0, (.tmp 18))]), none⟩
  .fin)))))))) [⟨some 20, (.call { callee := (.builtin .append), args := #[(.tmp 12), (.tmp 19)], argTypes := #[31, 31] }), none⟩,
  ⟨some 3, (.assign (.tmp 20)), none⟩])))
 (.reg [⟨some 21, (.binOp .add 3 (.tmp 8) (.const (.int .i64 1)) 3), none⟩,
  ⟨some 8, (.move (.tmp 21)), none⟩])))))))
 (.seq (.reg [⟨some 22, (.move (.tmp 3)), none⟩,
  ⟨some 2, (.assign (.tmp 22)), none⟩])
 .ret))))
theorem fd12 : FnD Try.prog 12 23 [(.tmp 2)] c12 := ⟨⟨Try.f12, Try.f12.body.getD .skip, Try.func12, by kernel_rfl, by kernel_rfl, by kernel_rfl, by kernel_rfl⟩⟩
/-! f13 triforium/arith.Check -/
def c13 : ACode := (.seq (.reg [⟨some 4, (.assign (.const (.int .i64 0))), none⟩])
 (.seq (.reg [⟨some 8, (.move (.tmp 0)), none⟩,
  ⟨some 9, (.move (.tmp 1)), none⟩,
  ⟨some 10, (.call { callee := (.value (.func 22)), args := #[(.tmp 8), (.tmp 9)], argTypes := #[31, 28] }), none⟩,
  ⟨some 7, (.move (.tmp 10)), none⟩,
  ⟨some 11, (.extract (.tmp 7) 0), none⟩,
  ⟨some 12, (.extract (.tmp 7) 1), none⟩,
  ⟨some 5, (.assign (.tmp 11)), none⟩,
  ⟨some 6, (.assign (.tmp 12)), none⟩])
 (.seq (.seq (.reg [⟨some 13, (.move (.tmp 6)), none⟩,
  ⟨some 14, (.binOp .neq 25 (.tmp 13) (.const (.int .i64 0)) 25), none⟩])
 (.cond (.tmp 14) (.seq (.reg [⟨some 15, (.move (.tmp 6)), none⟩,
  ⟨some 4, (.assign (.tmp 15)), none⟩])
 .ret) .skip))
 (.seq (.seq (.reg [⟨some 16, (.move (.tmp 5)), none⟩,
  ⟨some 17, (.call { callee := (.builtin .len), args := #[(.tmp 16)], argTypes := #[31] }), none⟩,
  ⟨some 18, (.binOp .eql 3 (.tmp 17) (.const (.int .i64 0)) 3), none⟩,
  ⟨some 19, (.move (.tmp 18)), none⟩,
  ⟨some 20, (.move (.tmp 5)), some (19, false)⟩,
  ⟨some 21, (.move (.tmp 5)), some (19, false)⟩,
  ⟨some 22, (.call { callee := (.builtin .len), args := #[(.tmp 21)], argTypes := #[31] }), some (19, false)⟩,
  ⟨some 23, (.binOp .sub 3 (.tmp 22) (.const (.int .i64 1)) 3), some (19, false)⟩,
  ⟨some 24, (.indexAddr 31 (.tmp 20) (.tmp 23)), some (19, false)⟩,
  ⟨some 25, (.load 50 (.tmp 24)), some (19, false)⟩,
  ⟨some 26, (.call { callee := (.value (.func 41)), args := #[(.tmp 25)], argTypes := #[50] }), some (19, false)⟩,
  ⟨some 27, (.unOp .not 4 (.tmp 26)), some (19, false)⟩,
  ⟨some 28, (.pick (.tmp 19) (.const (.bool true)) (.tmp 27)), none⟩])
 (.cond (.tmp 28) (.seq (.reg [⟨some 4, (.assign (.const (.int .i64 260))), none⟩])
 .ret) .skip))
 (.seq (.reg [⟨some 4, (.assign (.const (.int .i64 0))), none⟩])
 .ret)))))
theorem fd13 : FnD Try.prog 13 29 [(.tmp 4)] c13 := ⟨⟨Try.f13, Try.f13.body.getD .skip, Try.func13, by kernel_rfl, by kernel_rfl, by kernel_rfl, by kernel_rfl⟩⟩
/-! f14 triforium/triforiumref24.Check -/
def c14 : ACode := (.seq (.reg [⟨some 4, (.assign (.const (.int .i64 0))), none⟩])
 (.seq (.reg [⟨some 10, (.move (.tmp 0)), none⟩,
  ⟨some 11, (.move (.tmp 1)), none⟩,
  ⟨some 12, (.call { callee := (.value (.func 27)), args := #[(.tmp 10), (.tmp 11)], argTypes := #[22, 35] }), none⟩,
  ⟨some 9, (.move (.tmp 12)), none⟩,
  ⟨some 13, (.extract (.tmp 9) 0), none⟩,
  ⟨some 14, (.extract (.tmp 9) 1), none⟩,
  ⟨some 5, (.assign (.tmp 13)), none⟩,
  ⟨some 6, (.assign (.tmp 14)), none⟩])
 (.seq (.seq (.reg [⟨some 15, (.move (.tmp 6)), none⟩,
  ⟨some 16, (.binOp .neq 25 (.tmp 15) (.const (.int .i64 0)) 25), none⟩])
 (.cond (.tmp 16) (.seq (.reg [⟨some 17, (.move (.tmp 6)), none⟩,
  ⟨some 4, (.assign (.tmp 17)), none⟩])
 .ret) .skip))
 (.seq (.seq (.reg [⟨some 18, (.move (.tmp 5)), none⟩,
  ⟨some 19, (.call { callee := (.builtin .len), args := #[(.tmp 18)], argTypes := #[22] }), none⟩,
  ⟨some 20, (.binOp .eql 3 (.tmp 19) (.const (.int .i64 0)) 3), none⟩])
 (.cond (.tmp 20) (.seq (.reg [⟨some 4, (.assign (.const (.int .i64 260))), none⟩])
 .ret) .skip))
 (.seq (.reg [⟨some 21, (.move (.tmp 5)), none⟩,
  ⟨some 22, (.move (.tmp 5)), none⟩,
  ⟨some 23, (.call { callee := (.builtin .len), args := #[(.tmp 22)], argTypes := #[22] }), none⟩,
  ⟨some 24, (.binOp .sub 3 (.tmp 23) (.const (.int .i64 1)) 3), none⟩,
  ⟨some 25, (.indexAddr 22 (.tmp 21) (.tmp 24)), none⟩,
  ⟨some 26, (.load 39 (.tmp 25)), none⟩,
  ⟨some 7, (.alloc 39), none⟩,
  ⟨none, (.store 39 (.tmp 7) (.tmp 26)), none⟩])
 (.seqL (.seq (.reg [⟨some 8, (.assign (.const (.int .i64 0))), none⟩])
 (.block 0 (.loop (.seq (.seq (.reg [⟨some 27, (.move (.tmp 8)), none⟩,
  ⟨some 28, (.fieldAddr 39 (.tmp 7) 0), none⟩,
  ⟨some 29, (.load 37 (.tmp 28)), none⟩,
  ⟨some 30, (.call { callee := (.builtin .len), args := #[(.tmp 29)], argTypes := #[37] }), none⟩,
  ⟨some 31, (.binOp .lss 3 (.tmp 27) (.tmp 30) 3), none⟩])
 (.cond (.tmp 31) .skip (.exit 0)))
 (.seq (.block 1 (.seq (.reg [⟨some 34, (.fieldAddr 39 (.tmp 7) 0), none⟩,
  ⟨some 35, (.load 37 (.tmp 34)), none⟩,
  ⟨some 36, (.move (.tmp 8)), none⟩,
  ⟨some 37, (.indexAddr 37 (.tmp 35) (.tmp 36)), none⟩,
  ⟨some 38, (.load 3 (.tmp 37)), none⟩,
  ⟨some 39, (.binOp .neq 3 (.tmp 38) (.const (.int .i64 0)) 3), none⟩])
 (.cond (.tmp 39) (.seq (.reg [⟨some 4, (.assign (.const (.int .i64 260))), none⟩])
 .ret) .skip)))
 (.reg [⟨some 32, (.move (.tmp 8)), none⟩,
  ⟨some 33, (.binOp .add 3 (.tmp 32) (.const (.int .i64 1)) 3), none⟩,
  ⟨some 8, (.assign (.tmp 33)), none⟩]))))))
 (.seq (.seq (.reg [⟨some 40, (.fieldAddr 39 (.tmp 7) 1), none⟩,
  ⟨some 41, (.load 3 (.tmp 40)), none⟩,
  ⟨some 42, (.binOp .geq 3 (.tmp 41) (.const (.int .i64 0)) 3), none⟩])
 (.cond (.tmp 42) (.seq (.reg [⟨some 4, (.assign (.const (.int .i64 260))), none⟩])
 .ret) .skip))
 (.seq (.reg [⟨some 4, (.assign (.const (.int .i64 0))), none⟩])
 .ret))))))))
theorem fd14 : FnD Try.prog 14 43 [(.tmp 4)] c14 := ⟨⟨Try.f14, Try.f14.body.getD .skip, Try.func14, by kernel_rfl, by kernel_rfl, by kernel_rfl, by kernel_rfl⟩⟩
/-! f15 triforium/triforiumlaw24.lines -/
def c15 : ACode := (.seq (.reg [⟨some 2, (.assign (.const (.slice none 0 0))), none⟩])
 (.seq (.reg [⟨some 3, (.assign (.const (.slice none 0 0))), none⟩])
 (.seqL (.seq (.reg [⟨some 6, (.move (.tmp 0)), none⟩,
  ⟨some 7, (.call { callee := (.builtin .len), args := #[(.tmp 6)], argTypes := #[28] }), none⟩,
  ⟨some 8, (.move (.const (.int .i64 0))), none⟩])
 (.block 0 (.loop (.seq (.reg [⟨some 9, (.binOp .lss 3 (.tmp 8) (.tmp 7) 3), none⟩])
 (.seq (.cond (.tmp 9) .skip (.exit 0))
 (.seq (.block 1 (.seq (.reg [⟨some 10, (.indexAddr 28 (.tmp 6) (.tmp 8)), none⟩,
  ⟨some 11, (.load 52 (.tmp 10)), none⟩,
  ⟨some 5, (.alloc 52), none⟩,
  ⟨none, (.store 52 (.tmp 5) (.tmp 11)), none⟩])
 (.reg [⟨some 12, (.move (.tmp 3)), none⟩,
  ⟨some 13, (.load 52 (.tmp 5)), none⟩,
  ⟨some 14, (.buildSlice 35 1 #[(0, (.tmp 13))]), none⟩,
  ⟨some 15, (.call { callee := (.builtin .append), args := #[(.tmp 12), (.tmp 14)], argTypes := #[35, 35] }), none⟩,
  ⟨some 3, (.assign (.tmp 15)), none⟩])))
 (.reg [⟨some 16, (.binOp .add 3 (.tmp 8) (.const (.int .i64 1)) 3), none⟩,
  ⟨some 8, (.move (.tmp 16)), none⟩])))))))
 (.seq (.reg [⟨some 17, (.move (.tmp 3)), none⟩,
  ⟨some 2, (.assign (.tmp 17)), none⟩])
 .ret))))
theorem fd15 : FnD Try.prog 15 18 [(.tmp 2)] c15 := ⟨⟨Try.f15, Try.f15.body.getD .skip, Try.func15, by kernel_rfl, by kernel_rfl, by kernel_rfl, by kernel_rfl⟩⟩
/-! f16 slices.ContainsFunc[[]int,int] -/
def c16 : ACode := (.seq (.reg [⟨some 4, (.assign (.const (.bool false))), none⟩])
 (.seq (.reg [⟨some 5, (.move (.tmp 0)), none⟩,
  ⟨some 6, (.move (.tmp 1)), none⟩,
  ⟨some 7, (.call { callee := (.value (.func 42)), args := #[(.tmp 5), (.tmp 6)], argTypes := #[37, 41] }), none⟩,
  ⟨some 8, (.binOp .geq 3 (.tmp 7) (.const (.int .i64 0)) 3), none⟩,
  ⟨some 4, (.assign (.tmp 8)), none⟩])
 .ret))
theorem fd16 : FnD Try.prog 16 9 [(.tmp 4)] c16 := ⟨⟨Try.f16, Try.f16.body.getD .skip, Try.func16, by kernel_rfl, by kernel_rfl, by kernel_rfl, by kernel_rfl⟩⟩
/-! f17 triforium/triforiumlaw24.ArithRefutes$1 -/
def c17 : ACode := (.seq (.reg [⟨some 2, (.assign (.const (.bool false))), none⟩])
 (.seq (.reg [⟨some 3, (.move (.tmp 0)), none⟩,
  ⟨some 4, (.binOp .lss 3 (.tmp 3) (.const (.int .i64 (-10))) 3), none⟩,
  ⟨some 5, (.move (.tmp 4)), none⟩,
  ⟨some 6, (.move (.tmp 0)), some (5, false)⟩,
  ⟨some 7, (.binOp .gtr 3 (.tmp 6) (.const (.int .i64 10)) 3), some (5, false)⟩,
  ⟨some 8, (.pick (.tmp 5) (.const (.bool true)) (.tmp 7)), none⟩,
  ⟨some 2, (.assign (.tmp 8)), none⟩])
 .ret))
theorem fd17 : FnD Try.prog 17 9 [(.tmp 2)] c17 := ⟨⟨Try.f17, Try.f17.body.getD .skip, Try.func17, by kernel_rfl, by kernel_rfl, by kernel_rfl, by kernel_rfl⟩⟩
/-! f18 triforium/triforiumlaw06.Limit -/
def c18 : ACode := (.seq (.reg [⟨some 2, (.assign (.const (.bool false))), none⟩])
 (.seq (.reg [⟨some 3, (.move (.tmp 0)), none⟩,
  ⟨some 4, (.binOp .eql 25 (.tmp 3) (.const (.int .i64 7)) 25), none⟩,
  ⟨some 5, (.move (.tmp 4)), none⟩,
  ⟨some 6, (.move (.tmp 0)), some (5, false)⟩,
  ⟨some 7, (.binOp .eql 25 (.tmp 6) (.const (.int .i64 6)) 25), some (5, false)⟩,
  ⟨some 8, (.pick (.tmp 5) (.const (.bool true)) (.tmp 7)), none⟩,
  ⟨some 9, (.move (.tmp 8)), none⟩,
  ⟨some 10, (.move (.tmp 0)), some (9, false)⟩,
  ⟨some 11, (.binOp .eql 25 (.tmp 10) (.const (.int .i64 5)) 25), some (9, false)⟩,
  ⟨some 12, (.pick (.tmp 9) (.const (.bool true)) (.tmp 11)), none⟩,
  ⟨some 2, (.assign (.tmp 12)), none⟩])
 .ret))
theorem fd18 : FnD Try.prog 18 13 [(.tmp 2)] c18 := ⟨⟨Try.f18, Try.f18.body.getD .skip, Try.func18, by kernel_rfl, by kernel_rfl, by kernel_rfl, by kernel_rfl⟩⟩
/-! f19 triforium/triforiumref24.Point -/
def b19_1 : ACode := (.seq (.seq (.reg [⟨some 26, (.move (.tmp 10)), none⟩,
  ⟨some 27, (.move (.tmp 8)), none⟩,
  ⟨some 28, (.binOp .lss 3 (.tmp 26) (.tmp 27) 3), none⟩])
 (.cond (.tmp 28) .skip (.exit 0)))
 (.seq (.block 1 (.reg [⟨some 31, (.move (.tmp 9)), none⟩,
  ⟨some 32, (.move (.tmp 1)), none⟩,
  ⟨some 33, (.binOp .add 3 (.tmp 32) (.const (.int .i64 1)) 3), none⟩,
  ⟨some 34, (.binOp .mul 3 (.tmp 31) (.tmp 33) 3), none⟩,
  ⟨some 35, (.call { callee := (.builtin .min), args := #[(.tmp 34), (.const (.int .i64 100001))], argTypes := #[3, 3] }), none⟩,
  ⟨some 9, (.assign (.tmp 35)), none⟩]))
 (.reg [⟨some 29, (.move (.tmp 10)), none⟩,
  ⟨some 30, (.binOp .add 3 (.tmp 29) (.const (.int .i64 1)) 3), none⟩,
  ⟨some 10, (.assign (.tmp 30)), none⟩])))
def b19_2 : ACode := (.seq (.seq (.reg [⟨some 40, (.move (.tmp 12)), none⟩])
 (.cond (.tmp 40) .skip (.exit 2)))
 (.block 3 (.seq (.seq (.reg [⟨some 41, (.move (.tmp 0)), none⟩,
  ⟨some 42, (.move (.tmp 11)), none⟩,
  ⟨some 43, (.call { callee := (.value (.func 43)), args := #[(.tmp 41), (.tmp 42)], argTypes := #[22, 37] }), none⟩])
 (.cond (.tmp 43) (.seq (.reg [⟨some 44, (.move (.tmp 11)), none⟩,
  ⟨some 4, (.assign (.tmp 44)), none⟩,
  ⟨some 5, (.assign (.const (.bool true))), none⟩,
  ⟨some 6, (.assign (.const (.int .i64 0))), none⟩])
 .ret) .skip))
 (.reg [⟨some 46, (.move (.tmp 11)), none⟩,
  ⟨some 47, (.move (.tmp 1)), none⟩,
  ⟨some 48, (.call { callee := (.value (.func 44)), args := #[(.tmp 46), (.tmp 47)], argTypes := #[37, 3] }), none⟩,
  ⟨some 45, (.move (.tmp 48)), none⟩,
  ⟨some 49, (.extract (.tmp 45) 0), none⟩,
  ⟨some 50, (.extract (.tmp 45) 1), none⟩,
  ⟨some 11, (.assign (.tmp 49)), none⟩,
  ⟨some 12, (.assign (.tmp 50)), none⟩]))))
def c19_1 : ACode := (.seq (.reg [⟨some 4, (.assign (.const (.slice none 0 0))), none⟩,
  ⟨some 5, (.assign (.const (.bool false))), none⟩,
  ⟨some 6, (.assign (.const (.int .i64 0))), none⟩])
 .ret)
def c19_2 : ACode := (.seq (.seq (.reg [⟨some 36, (.move (.tmp 9)), none⟩,
  ⟨some 37, (.binOp .gtr 3 (.tmp 36) (.const (.int .i64 100000)) 3), none⟩])
 (.cond (.tmp 37) (.seq (.reg [⟨some 4, (.assign (.const (.slice none 0 0))), none⟩,
  ⟨some 5, (.assign (.const (.bool false))), none⟩,
  ⟨some 6, (.assign (.const (.int .i64 7))), none⟩])
 .ret) .skip))
 (.seq (.reg [⟨some 38, (.move (.tmp 8)), none⟩,
  ⟨some 39, (.makeSlice 37 (.tmp 38) (.tmp 38)), none⟩,
  ⟨some 11, (.assign (.tmp 39)), none⟩,
  ⟨some 12, (.assign (.const (.bool true))), none⟩])
 (.seqL (.block 2 (.loop b19_2))
 c19_1)))
def c19 : ACode := (.seq (.reg [⟨some 4, (.assign (.const (.slice none 0 0))), none⟩,
  ⟨some 5, (.assign (.const (.bool false))), none⟩,
  ⟨some 6, (.assign (.const (.int .i64 0))), none⟩])
 (.seq (.seq (.reg [⟨some 13, (.move (.tmp 0)), none⟩,
  ⟨some 14, (.call { callee := (.value (.func 35)), args := #[(.tmp 13)], argTypes := #[22] }), none⟩,
  ⟨some 7, (.assign (.tmp 14)), none⟩])
 (.seq (.reg [⟨some 15, (.move (.tmp 7)), none⟩,
  ⟨some 16, (.binOp .neq 25 (.tmp 15) (.const (.int .i64 0)) 25), none⟩])
 (.cond (.tmp 16) (.seq (.reg [⟨some 17, (.move (.tmp 7)), none⟩,
  ⟨some 4, (.assign (.const (.slice none 0 0))), none⟩,
  ⟨some 5, (.assign (.const (.bool false))), none⟩,
  ⟨some 6, (.assign (.tmp 17)), none⟩])
 .ret) .skip)))
 (.seq (.seq (.reg [⟨some 18, (.move (.tmp 1)), none⟩,
  ⟨some 19, (.binOp .lss 3 (.tmp 18) (.const (.int .i64 0)) 3), none⟩,
  ⟨some 20, (.move (.tmp 19)), none⟩,
  ⟨some 21, (.move (.tmp 1)), some (20, false)⟩,
  ⟨some 22, (.binOp .gtr 3 (.tmp 21) (.const (.int .i64 100)) 3), some (20, false)⟩,
  ⟨some 23, (.pick (.tmp 20) (.const (.bool true)) (.tmp 22)), none⟩])
 (.cond (.tmp 23) (.seq (.reg [⟨some 4, (.assign (.const (.slice none 0 0))), none⟩,
  ⟨some 5, (.assign (.const (.bool false))), none⟩,
  ⟨some 6, (.assign (.const (.int .i64 4))), none⟩])
 .ret) .skip))
 (.seq (.reg [⟨some 24, (.move (.tmp 0)), none⟩,
  ⟨some 25, (.call { callee := (.value (.func 10)), args := #[(.tmp 24)], argTypes := #[22] }), none⟩,
  ⟨some 8, (.assign (.tmp 25)), none⟩,
  ⟨some 9, (.assign (.const (.int .i64 1))), none⟩])
 (.seqL (.seq (.reg [⟨some 10, (.assign (.const (.int .i64 0))), none⟩])
 (.block 0 (.loop b19_1)))
 c19_2)))))
theorem fd19 : FnD Try.prog 19 51 [(.tmp 4), (.tmp 5), (.tmp 6)] c19 := ⟨⟨Try.f19, Try.f19.body.getD .skip, Try.func19, by kernel_rfl, by kernel_rfl, by kernel_rfl, by kernel_rfl⟩⟩
/-! f20 triforium/triforiumref24.Rational -/
def c20_1 : ACode := (.reg [⟨some 46, (.move (.tmp 4)), none⟩,
  ⟨some 47, (.load 39 (.tmp 6)), none⟩,
  ⟨some 48, (.buildSlice 22 1 #[(0, (.tmp 47))]), none⟩,
  ⟨some 49, (.call { callee := (.builtin .append), args := #[(.tmp 46), (.tmp 48)], argTypes := #[22, 22] }), none⟩,
  ⟨some 4, (.assign (.tmp 49)), none⟩])
def c20_2 : ACode := (.reg [⟨some 22, (.move (.tmp 5)), none⟩,
  ⟨some 23, (.binOp .add 3 (.tmp 22) (.const (.int .i64 1)) 3), none⟩,
  ⟨some 5, (.assign (.tmp 23)), none⟩])
def c20_3 : ACode := (.reg [⟨some 76, (.move (.tmp 12)), none⟩,
  ⟨some 77, (.binOp .add 3 (.tmp 76) (.const (.int .i64 1)) 3), none⟩,
  ⟨some 12, (.assign (.tmp 77)), none⟩])
def c20_4 : ACode := (.reg [⟨some 133, (.move (.tmp 11)), none⟩,
  ⟨some 4, (.assign (.tmp 133)), none⟩])
def c20_5 : ACode := (.reg [⟨some 69, (.move (.tmp 10)), none⟩,
  ⟨some 70, (.binOp .add 3 (.tmp 69) (.const (.int .i64 1)) 3), none⟩,
  ⟨some 10, (.assign (.tmp 70)), none⟩])
def c20_6 : ACode := (.seq (.reg [⟨some 2, (.assign (.const (.bool true))), none⟩])
 .ret)
def c20_7 : ACode := (.seqL (.seq (.reg [⟨some 14, (.assign (.const (.int .i64 0))), none⟩])
 (.block 12 (.loop (.seq (.seq (.reg [⟨some 134, (.move (.tmp 14)), none⟩,
  ⟨some 135, (.move (.tmp 4)), none⟩,
  ⟨some 136, (.call { callee := (.builtin .len), args := #[(.tmp 135)], argTypes := #[22] }), none⟩,
  ⟨some 137, (.binOp .lss 3 (.tmp 134) (.tmp 136) 3), none⟩])
 (.cond (.tmp 137) .skip (.exit 12)))
 (.seq (.block 13 (.seq (.reg [⟨some 140, (.move (.tmp 4)), none⟩,
  ⟨some 141, (.move (.tmp 14)), none⟩,
  ⟨some 142, (.indexAddr 22 (.tmp 140) (.tmp 141)), none⟩,
  ⟨some 143, (.fieldAddr 39 (.tmp 142) 1), none⟩,
  ⟨some 144, (.load 3 (.tmp 143)), none⟩,
  ⟨some 145, (.binOp .lss 3 (.tmp 144) (.const (.int .i64 0)) 3), none⟩])
 (.cond (.tmp 145) (.seq (.reg [⟨some 2, (.assign (.const (.bool false))), none⟩])
 .ret) .skip)))
 (.reg [⟨some 138, (.move (.tmp 14)), none⟩,
  ⟨some 139, (.binOp .add 3 (.tmp 138) (.const (.int .i64 1)) 3), none⟩,
  ⟨some 14, (.assign (.tmp 139)), none⟩]))))))
 c20_6)
def c20_8 : ACode := (.seqL (.seq (.reg [⟨some 10, (.assign (.const (.int .i64 0))), none⟩])
 (.block 6 (.loop (.seq (.seq (.reg [⟨some 66, (.move (.tmp 10)), none⟩,
  ⟨some 67, (.move (.tmp 3)), none⟩,
  ⟨some 68, (.binOp .lss 3 (.tmp 66) (.tmp 67) 3), none⟩])
 (.cond (.tmp 68) .skip (.exit 6)))
 (.seqL (.block 7 (.seq (.reg [⟨some 71, (.buildSlice 22 0 #[]), none⟩,
  ⟨some 11, (.assign (.tmp 71)), none⟩])
 (.seqL (.seq (.reg [⟨some 12, (.assign (.const (.int .i64 0))), none⟩])
 (.block 8 (.loop (.seq (.seq (.reg [⟨some 72, (.move (.tmp 12)), none⟩,
  ⟨some 73, (.move (.tmp 4)), none⟩,
  ⟨some 74, (.call { callee := (.builtin .len), args := #[(.tmp 73)], argTypes := #[22] }), none⟩,
  ⟨some 75, (.binOp .lss 3 (.tmp 72) (.tmp 74) 3), none⟩])
 (.cond (.tmp 75) .skip (.exit 8)))
 (.seqL (.block 9 (.seq (.seq (.reg [⟨some 78, (.move (.tmp 4)), none⟩,
  ⟨some 79, (.move (.tmp 12)), none⟩,
  ⟨some 80, (.indexAddr 22 (.tmp 78) (.tmp 79)), none⟩,
  ⟨some 81, (.fieldAddr 39 (.tmp 80) 0), none⟩,
  ⟨some 82, (.load 37 (.tmp 81)), none⟩,
  ⟨some 83, (.move (.tmp 10)), none⟩,
  ⟨some 84, (.indexAddr 37 (.tmp 82) (.tmp 83)), none⟩,
  ⟨some 85, (.load 3 (.tmp 84)), none⟩,
  ⟨some 86, (.binOp .eql 3 (.tmp 85) (.const (.int .i64 0)) 3), none⟩])
 (.cond (.tmp 86) (.reg [⟨some 87, (.move (.tmp 11)), none⟩,
  ⟨some 88, (.move (.tmp 4)), none⟩,
  ⟨some 89, (.move (.tmp 12)), none⟩,
  ⟨some 90, (.indexAddr 22 (.tmp 88) (.tmp 89)), none⟩,
  ⟨some 91, (.load 39 (.tmp 90)), none⟩,
  ⟨some 92, (.buildSlice 22 1 #[(0, (.tmp 91))]), none⟩,
  ⟨some 93, (.call { callee := (.builtin .append), args := #[(.tmp 87), (.tmp 92)], argTypes := #[22, 22] }), none⟩,
  ⟨some 11, (.assign (.tmp 93)), none⟩]) .skip))
 (.seq (.reg [⟨some 13, (.assign (.const (.int .i64 0))), none⟩])
 (.block 10 (.loop (.seq (.seq (.reg [⟨some 94, (.move (.tmp 13)), none⟩,
  ⟨some 95, (.move (.tmp 4)), none⟩,
  ⟨some 96, (.call { callee := (.builtin .len), args := #[(.tmp 95)], argTypes := #[22] }), none⟩,
  ⟨some 97, (.binOp .lss 3 (.tmp 94) (.tmp 96) 3), none⟩])
 (.cond (.tmp 97) .skip (.exit 10)))
 (.seq (.block 11 (.seq (.reg [⟨some 100, (.move (.tmp 4)), none⟩,
  ⟨some 101, (.move (.tmp 12)), none⟩,
  ⟨some 102, (.indexAddr 22 (.tmp 100) (.tmp 101)), none⟩,
  ⟨some 103, (.fieldAddr 39 (.tmp 102) 0), none⟩,
  ⟨some 104, (.load 37 (.tmp 103)), none⟩,
  ⟨some 105, (.move (.tmp 10)), none⟩,
  ⟨some 106, (.indexAddr 37 (.tmp 104) (.tmp 105)), none⟩,
  ⟨some 107, (.load 3 (.tmp 106)), none⟩,
  ⟨some 108, (.binOp .gtr 3 (.tmp 107) (.const (.int .i64 0)) 3), none⟩,
  ⟨some 109, (.move (.tmp 108)), none⟩,
  ⟨some 110, (.move (.tmp 4)), some (109, true)⟩,
  ⟨some 111, (.move (.tmp 13)), some (109, true)⟩,
  ⟨some 112, (.indexAddr 22 (.tmp 110) (.tmp 111)), some (109, true)⟩,
  ⟨some 113, (.fieldAddr 39 (.tmp 112) 0), some (109, true)⟩,
  ⟨some 114, (.load 37 (.tmp 113)), some (109, true)⟩,
  ⟨some 115, (.move (.tmp 10)), some (109, true)⟩,
  ⟨some 116, (.indexAddr 37 (.tmp 114) (.tmp 115)), some (109, true)⟩,
  ⟨some 117, (.load 3 (.tmp 116)), some (109, true)⟩,
  ⟨some 118, (.binOp .lss 3 (.tmp 117) (.const (.int .i64 0)) 3), some (109, true)⟩,
  ⟨some 119, (.pick (.tmp 109) (.tmp 118) (.const (.bool false))), none⟩])
 (.cond (.tmp 119) (.dreg (.tk ⟨some 120, (.move (.tmp 11)), none⟩
  (.tk ⟨some 121, (.move (.tmp 4)), none⟩
  (.tk ⟨some 122, (.move (.tmp 12)), none⟩
  (.tk ⟨some 123, (.indexAddr 22 (.tmp 121) (.tmp 122)), none⟩
  (.tk ⟨some 124, (.load 39 (.tmp 123)), none⟩
  (.tk ⟨some 125, (.move (.tmp 4)), none⟩
  (.tk ⟨some 126, (.move (.tmp 13)), none⟩
  (.tk ⟨some 127, (.indexAddr 22 (.tmp 125) (.tmp 126)), none⟩
  (.tk ⟨some 128, (.load 39 (.tmp 127)), none⟩
  (.tk ⟨some 129, (.move (.tmp 10)), none⟩
  (.one ⟨some 130, (.call { callee := (.value (.func 46)), args := #[(.tmp 124), (.tmp 128), (.tmp 129)], argTypes := #[39, 39, 3] }), none⟩
  (.cut ⟨some 131, (.buildSlice 22 1 #[(0, (.tmp 130))]), none⟩
  .fin)))))))))))) [⟨some 132, (.call { callee := (.builtin .append), args := #[(.tmp 120), (.tmp 131)], argTypes := #[22, 22] }), none⟩,
  ⟨some 11, (.assign (.tmp 132)), none⟩]) .skip)))
 (.reg [⟨some 98, (.move (.tmp 13)), none⟩,
  ⟨some 99, (.binOp .add 3 (.tmp 98) (.const (.int .i64 1)) 3), none⟩,
  ⟨some 13, (.assign (.tmp 99)), none⟩]))))))))
 c20_3)))))
 c20_4)))
 c20_5)))))
 c20_7)
def c20_9 : ACode := (.seqL (.seq (.reg [⟨some 8, (.assign (.const (.int .i64 0))), none⟩])
 (.block 4 (.loop (.seq (.seq (.reg [⟨some 50, (.move (.tmp 8)), none⟩,
  ⟨some 51, (.move (.tmp 3)), none⟩,
  ⟨some 52, (.binOp .lss 3 (.tmp 50) (.tmp 51) 3), none⟩])
 (.cond (.tmp 52) .skip (.exit 4)))
 (.seq (.block 5 (.seq (.reg [⟨some 55, (.move (.tmp 3)), none⟩,
  ⟨some 56, (.makeSlice 37 (.tmp 55) (.tmp 55)), none⟩,
  ⟨some 57, (.build 39 #[(0, (.tmp 56))]), none⟩,
  ⟨some 9, (.alloc 39), none⟩,
  ⟨none, (.store 39 (.tmp 9) (.tmp 57)), none⟩])
 (.seq (.reg [⟨some 58, (.fieldAddr 39 (.tmp 9) 0), none⟩,
  ⟨some 59, (.load 37 (.tmp 58)), none⟩,
  ⟨some 60, (.move (.tmp 8)), none⟩,
  ⟨some 61, (.indexAddr 37 (.tmp 59) (.tmp 60)), none⟩,
  ⟨none, (.store 3 (.tmp 61) (.const (.int .i64 (-1)))), none⟩])
 (.reg [⟨some 62, (.move (.tmp 4)), none⟩,
  ⟨some 63, (.load 39 (.tmp 9)), none⟩,
  ⟨some 64, (.buildSlice 22 1 #[(0, (.tmp 63))]), none⟩,
  ⟨some 65, (.call { callee := (.builtin .append), args := #[(.tmp 62), (.tmp 64)], argTypes := #[22, 22] }), none⟩,
  ⟨some 4, (.assign (.tmp 65)), none⟩]))))
 (.reg [⟨some 53, (.move (.tmp 8)), none⟩,
  ⟨some 54, (.binOp .add 3 (.tmp 53) (.const (.int .i64 1)) 3), none⟩,
  ⟨some 8, (.assign (.tmp 54)), none⟩]))))))
 c20_8)
def c20 : ACode := (.seq (.reg [⟨some 2, (.assign (.const (.bool false))), none⟩])
 (.seq (.reg [⟨some 15, (.move (.tmp 0)), none⟩,
  ⟨some 16, (.call { callee := (.value (.func 10)), args := #[(.tmp 15)], argTypes := #[22] }), none⟩,
  ⟨some 3, (.assign (.tmp 16)), none⟩])
 (.seq (.reg [⟨some 17, (.buildSlice 22 0 #[]), none⟩,
  ⟨some 4, (.assign (.tmp 17)), none⟩])
 (.seqL (.seq (.reg [⟨some 5, (.assign (.const (.int .i64 0))), none⟩])
 (.block 0 (.loop (.seq (.seq (.reg [⟨some 18, (.move (.tmp 5)), none⟩,
  ⟨some 19, (.move (.tmp 0)), none⟩,
  ⟨some 20, (.call { callee := (.builtin .len), args := #[(.tmp 19)], argTypes := #[22] }), none⟩,
  ⟨some 21, (.binOp .lss 3 (.tmp 18) (.tmp 20) 3), none⟩])
 (.cond (.tmp 21) .skip (.exit 0)))
 (.seqL (.block 1 (.seq (.reg [⟨some 24, (.move (.tmp 0)), none⟩,
  ⟨some 25, (.move (.tmp 5)), none⟩,
  ⟨some 26, (.indexAddr 22 (.tmp 24) (.tmp 25)), none⟩,
  ⟨some 27, (.fieldAddr 39 (.tmp 26) 1), none⟩,
  ⟨some 28, (.load 3 (.tmp 27)), none⟩,
  ⟨some 29, (.build 39 #[(1, (.tmp 28))]), none⟩,
  ⟨some 6, (.alloc 39), none⟩,
  ⟨none, (.store 39 (.tmp 6) (.tmp 29)), none⟩])
 (.seqL (.seq (.reg [⟨some 7, (.assign (.const (.int .i64 0))), none⟩])
 (.block 2 (.loop (.seq (.seq (.reg [⟨some 30, (.move (.tmp 7)), none⟩,
  ⟨some 31, (.move (.tmp 3)), none⟩,
  ⟨some 32, (.binOp .lss 3 (.tmp 30) (.tmp 31) 3), none⟩])
 (.cond (.tmp 32) .skip (.exit 2)))
 (.seq (.block 3 (.dreg (.tk ⟨some 35, (.fieldAddr 39 (.tmp 6) 0), none⟩
  (.tk ⟨some 36, (.load 37 (.tmp 35)), none⟩
  (.tk ⟨some 37, (.move (.tmp 0)), none⟩
  (.tk ⟨some 38, (.move (.tmp 5)), none⟩
  (.tk ⟨some 39, (.indexAddr 22 (.tmp 37) (.tmp 38)), none⟩
  (.tk ⟨some 40, (.load 39 (.tmp 39)), none⟩
  (.tk ⟨some 41, (.move (.tmp 7)), none⟩
  (.one ⟨some 42, (.call { callee := (.value (.func 45)), args := #[(.tmp 40), (.tmp 41)], argTypes := #[39, 3] }), none⟩
  (.one ⟨some 43, (.buildSlice 37 1 #[(0, (.tmp 42))]), none⟩
  .fin))))))))) [⟨some 44, (.call { callee := (.builtin .append), args := #[(.tmp 36), (.tmp 43)], argTypes := #[37, 37] }), none⟩,
  ⟨some 45, (.fieldAddr 39 (.tmp 6) 0), none⟩,
  ⟨none, (.store 37 (.tmp 45) (.tmp 44)), none⟩]))
 (.reg [⟨some 33, (.move (.tmp 7)), none⟩,
  ⟨some 34, (.binOp .add 3 (.tmp 33) (.const (.int .i64 1)) 3), none⟩,
  ⟨some 7, (.assign (.tmp 34)), none⟩]))))))
 c20_1)))
 c20_2)))))
 c20_9))))
theorem fd20 : FnD Try.prog 20 146 [(.tmp 2)] c20 := ⟨⟨Try.f20, Try.f20.body.getD .skip, Try.func20, by kernel_rfl, by kernel_rfl, by kernel_rfl, by kernel_rfl⟩⟩
/-! f21 triforium/triforiumlaw24.Lines -/
/-! f22 triforium/arith.Derive -/
def c22 : ACode := (.seq (.reg [⟨some 4, (.assign (.const (.slice none 0 0))), none⟩,
  ⟨some 5, (.assign (.const (.int .i64 0))), none⟩])
 (.seq (.seq (.reg [⟨some 12, (.move (.tmp 0)), none⟩,
  ⟨some 13, (.call { callee := (.value (.func 36)), args := #[(.tmp 12)], argTypes := #[31] }), none⟩,
  ⟨some 6, (.assign (.tmp 13)), none⟩])
 (.seq (.reg [⟨some 14, (.move (.tmp 6)), none⟩,
  ⟨some 15, (.binOp .neq 25 (.tmp 14) (.const (.int .i64 0)) 25), none⟩])
 (.cond (.tmp 15) (.seq (.reg [⟨some 16, (.move (.tmp 6)), none⟩,
  ⟨some 4, (.assign (.const (.slice none 0 0))), none⟩,
  ⟨some 5, (.assign (.tmp 16)), none⟩])
 .ret) .skip)))
 (.seq (.seq (.reg [⟨some 17, (.move (.tmp 1)), none⟩,
  ⟨some 18, (.call { callee := (.builtin .len), args := #[(.tmp 17)], argTypes := #[28] }), none⟩,
  ⟨some 19, (.binOp .gtr 3 (.tmp 18) (.const (.int .i64 5000)) 3), none⟩])
 (.cond (.tmp 19) (.seq (.reg [⟨some 4, (.assign (.const (.slice none 0 0))), none⟩,
  ⟨some 5, (.assign (.const (.int .i64 5))), none⟩])
 .ret) .skip))
 (.seq (.reg [⟨some 20, (.move (.tmp 0)), none⟩,
  ⟨some 21, (.move (.tmp 0)), none⟩,
  ⟨some 22, (.call { callee := (.value (.func 37)), args := #[(.tmp 21)], argTypes := #[31] }), none⟩,
  ⟨some 23, (.build 74 #[(0, (.tmp 20)), (1, (.tmp 22))]), none⟩,
  ⟨some 24, (.box 74 (.tmp 23)), none⟩,
  ⟨some 7, (.assign (.tmp 24)), none⟩])
 (.seqL (.seq (.reg [⟨some 25, (.move (.tmp 1)), none⟩,
  ⟨some 26, (.call { callee := (.builtin .len), args := #[(.tmp 25)], argTypes := #[28] }), none⟩,
  ⟨some 27, (.move (.const (.int .i64 0))), none⟩])
 (.block 0 (.loop (.seq (.reg [⟨some 28, (.binOp .lss 3 (.tmp 27) (.tmp 26) 3), none⟩])
 (.seq (.cond (.tmp 28) .skip (.exit 0))
 (.seq (.block 1 (.seq (.reg [⟨some 29, (.indexAddr 28 (.tmp 25) (.tmp 27)), none⟩,
  ⟨some 30, (.load 52 (.tmp 29)), none⟩,
  ⟨some 9, (.alloc 52), none⟩,
  ⟨none, (.store 52 (.tmp 9) (.tmp 30)), none⟩])
 (.seq (.reg [⟨some 32, (.move (.tmp 7)), none⟩,
  ⟨some 33, (.load 52 (.tmp 9)), none⟩,
  ⟨some 34, (.call { callee := (.value (.func 47)), args := #[(.tmp 32), (.tmp 33)], argTypes := #[90, 52] }), none⟩,
  ⟨some 31, (.move (.tmp 34)), none⟩,
  ⟨some 35, (.extract (.tmp 31) 0), none⟩,
  ⟨some 36, (.extract (.tmp 31) 1), none⟩,
  ⟨some 10, (.alloc 50), none⟩,
  ⟨none, (.store 50 (.tmp 10) (.tmp 35)), none⟩,
  ⟨some 11, (.assign (.tmp 36)), none⟩])
 (.seq (.seq (.reg [⟨some 37, (.move (.tmp 11)), none⟩,
  ⟨some 38, (.binOp .neq 25 (.tmp 37) (.const (.int .i64 0)) 25), none⟩])
 (.cond (.tmp 38) (.seq (.reg [⟨some 39, (.move (.tmp 11)), none⟩,
  ⟨some 4, (.assign (.const (.slice none 0 0))), none⟩,
  ⟨some 5, (.assign (.tmp 39)), none⟩])
 .ret) .skip))
 (.dreg (.tk ⟨some 40, (.move (.tmp 7)), none⟩
  (.tk ⟨some 41, (.move (.tmp 7)), none⟩
  (.tk ⟨some 42, (.nilCheck (.tmp 41)), none⟩
  (.tk ⟨some 43, (.fieldAddr 74 (.tmp 42) 2), none⟩
  (.tk ⟨some 44, (.load 31 (.tmp 43)), none⟩
  (.tk ⟨some 45, (.load 50 (.tmp 10)), none⟩
  (.one ⟨some 46, (.buildSlice 31 1 #[(0, (.tmp 45))]), none⟩
  (.cut ⟨some 47, (.call { callee := (.builtin .append), args := #[(.tmp 44), (.tmp 46)], argTypes := #[31, 31] }), none⟩
  .fin)))))))) [⟨some 48, (.nilCheck (.tmp 40)), none⟩,
  ⟨some 49, (.fieldAddr 74 (.tmp 48) 2), none⟩,
  ⟨none, (.store 31 (.tmp 49) (.tmp 47)), none⟩])))))
 (.reg [⟨some 50, (.binOp .add 3 (.tmp 27) (.const (.int .i64 1)) 3), none⟩,
  ⟨some 27, (.move (.tmp 50)), none⟩])))))))
 (.seq (.reg [⟨some 51, (.move (.tmp 7)), none⟩,
  ⟨some 52, (.nilCheck (.tmp 51)), none⟩,
  ⟨some 53, (.fieldAddr 74 (.tmp 52) 2), none⟩,
  ⟨some 54, (.load 31 (.tmp 53)), none⟩,
  ⟨some 4, (.assign (.tmp 54)), none⟩,
  ⟨some 5, (.assign (.const (.int .i64 0))), none⟩])
 .ret))))))
theorem fd22 : FnD Try.prog 22 55 [(.tmp 4), (.tmp 5)] c22 := ⟨⟨Try.f22, Try.f22.body.getD .skip, Try.func22, by kernel_rfl, by kernel_rfl, by kernel_rfl, by kernel_rfl⟩⟩
/-! f23 triforium/triforiumlaw24.ArithSound$1 -/
/-! f24 triforium/arith.Holds -/
/-! f25 slices.Clone[[]int,int] -/
def c25 : ACode := (.seq (.reg [⟨some 2, (.assign (.const (.slice none 0 0))), none⟩])
 (.seq (.seq (.reg [⟨some 3, (.move (.tmp 0)), none⟩,
  ⟨some 4, (.binOp .eql 37 (.tmp 3) (.const (.slice none 0 0)) 37), none⟩])
 (.cond (.tmp 4) (.seq (.reg [⟨some 2, (.assign (.const (.slice none 0 0))), none⟩])
 .ret) .skip))
 (.seq (.reg [⟨some 5, (.buildSlice 37 0 #[]), none⟩,
  ⟨some 6, (.move (.tmp 0)), none⟩,
  ⟨some 7, (.call { callee := (.builtin .append), args := #[(.tmp 5), (.tmp 6)], argTypes := #[37, 37] }), none⟩,
  ⟨some 2, (.assign (.tmp 7)), none⟩])
 .ret)))
theorem fd25 : FnD Try.prog 25 8 [(.tmp 2)] c25 := ⟨⟨Try.f25, Try.f25.body.getD .skip, Try.func25, by kernel_rfl, by kernel_rfl, by kernel_rfl, by kernel_rfl⟩⟩
/-! f26 triforium/triforiumref24.Fulfils -/
def c26 : ACode := (.seq (.reg [⟨some 2, (.box 39 (.tmp 0)), none⟩,
  ⟨some 4, (.assign (.const (.bool false))), none⟩])
 (.seq (.reg [⟨some 5, (.assign (.const (.int .i64 0))), none⟩])
 (.seqL (.seq (.reg [⟨some 6, (.assign (.const (.int .i64 0))), none⟩])
 (.block 0 (.loop (.seq (.seq (.reg [⟨some 7, (.move (.tmp 6)), none⟩,
  ⟨some 8, (.move (.tmp 1)), none⟩,
  ⟨some 9, (.call { callee := (.builtin .len), args := #[(.tmp 8)], argTypes := #[37] }), none⟩,
  ⟨some 10, (.binOp .lss 3 (.tmp 7) (.tmp 9) 3), none⟩])
 (.cond (.tmp 10) .skip (.exit 0)))
 (.seq (.block 1 (.dreg (.tk ⟨some 13, (.move (.tmp 5)), none⟩
  (.tk ⟨some 14, (.load 39 (.tmp 2)), none⟩
  (.tk ⟨some 15, (.move (.tmp 6)), none⟩
  (.tk ⟨some 17, (.move (.tmp 1)), none⟩
  (.tk ⟨some 18, (.move (.tmp 6)), none⟩
  (.tk ⟨some 19, (.indexAddr 37 (.tmp 17) (.tmp 18)), none⟩
  (.tk ⟨some 20, (.load 3 (.tmp 19)), none⟩
  (.one ⟨some 16, (.call { callee := (.value (.func 45)), args := #[(.tmp 14), (.tmp 15)], argTypes := #[39, 3] }), none⟩
  (.cut ⟨some 21, (.binOp .mul 3 (.tmp 16) (.tmp 20) 3), none⟩
  .fin))))))))) [⟨some 22, (.binOp .add 3 (.tmp 13) (.tmp 21) 3), none⟩,
  ⟨some 5, (.assign (.tmp 22)), none⟩]))
 (.reg [⟨some 11, (.move (.tmp 6)), none⟩,
  ⟨some 12, (.binOp .add 3 (.tmp 11) (.const (.int .i64 1)) 3), none⟩,
  ⟨some 6, (.assign (.tmp 12)), none⟩]))))))
 (.seq (.reg [⟨some 23, (.move (.tmp 5)), none⟩,
  ⟨some 24, (.fieldAddr 39 (.tmp 2) 1), none⟩,
  ⟨some 25, (.load 3 (.tmp 24)), none⟩,
  ⟨some 26, (.binOp .leq 3 (.tmp 23) (.tmp 25) 3), none⟩,
  ⟨some 4, (.assign (.tmp 26)), none⟩])
 .ret))))
theorem fd26 : FnD Try.prog 26 27 [(.tmp 4)] c26 := ⟨⟨Try.f26, Try.f26.body.getD .skip, Try.func26, by kernel_rfl, by kernel_rfl, by kernel_rfl, by kernel_rfl⟩⟩
/-! f27 triforium/triforiumref24.Derive -/
def b27_1 : ACode := (.seq (.seq (.reg [⟨some 23, (.move (.tmp 9)), none⟩,
  ⟨some 24, (.move (.tmp 1)), none⟩,
  ⟨some 25, (.call { callee := (.builtin .len), args := #[(.tmp 24)], argTypes := #[35] }), none⟩,
  ⟨some 26, (.binOp .lss 3 (.tmp 23) (.tmp 25) 3), none⟩])
 (.cond (.tmp 26) .skip (.exit 0)))
 (.seq (.block 1 (.seq (.reg [⟨some 30, (.move (.tmp 0)), none⟩,
  ⟨some 31, (.move (.tmp 8)), none⟩,
  ⟨some 32, (.move (.tmp 1)), none⟩,
  ⟨some 33, (.move (.tmp 9)), none⟩,
  ⟨some 34, (.indexAddr 35 (.tmp 32) (.tmp 33)), none⟩,
  ⟨some 35, (.load 83 (.tmp 34)), none⟩,
  ⟨some 36, (.move (.tmp 7)), none⟩,
  ⟨some 37, (.call { callee := (.value (.func 50)), args := #[(.tmp 30), (.tmp 31), (.tmp 35), (.tmp 36)], argTypes := #[22, 22, 83, 3] }), none⟩,
  ⟨some 29, (.move (.tmp 37)), none⟩,
  ⟨some 38, (.extract (.tmp 29) 0), none⟩,
  ⟨some 39, (.extract (.tmp 29) 1), none⟩,
  ⟨some 10, (.alloc 39), none⟩,
  ⟨none, (.store 39 (.tmp 10) (.tmp 38)), none⟩,
  ⟨some 11, (.assign (.tmp 39)), none⟩])
 (.seq (.seq (.reg [⟨some 40, (.move (.tmp 11)), none⟩,
  ⟨some 41, (.binOp .neq 25 (.tmp 40) (.const (.int .i64 0)) 25), none⟩])
 (.cond (.tmp 41) (.seq (.reg [⟨some 42, (.move (.tmp 11)), none⟩,
  ⟨some 4, (.assign (.const (.slice none 0 0))), none⟩,
  ⟨some 5, (.assign (.tmp 42)), none⟩])
 .ret) .skip))
 (.reg [⟨some 43, (.move (.tmp 8)), none⟩,
  ⟨some 44, (.load 39 (.tmp 10)), none⟩,
  ⟨some 45, (.buildSlice 22 1 #[(0, (.tmp 44))]), none⟩,
  ⟨some 46, (.call { callee := (.builtin .append), args := #[(.tmp 43), (.tmp 45)], argTypes := #[22, 22] }), none⟩,
  ⟨some 8, (.assign (.tmp 46)), none⟩]))))
 (.reg [⟨some 27, (.move (.tmp 9)), none⟩,
  ⟨some 28, (.binOp .add 3 (.tmp 27) (.const (.int .i64 1)) 3), none⟩,
  ⟨some 9, (.assign (.tmp 28)), none⟩])))
def c27_1 : ACode := (.seq (.reg [⟨some 47, (.move (.tmp 8)), none⟩,
  ⟨some 4, (.assign (.tmp 47)), none⟩,
  ⟨some 5, (.assign (.const (.int .i64 0))), none⟩])
 .ret)
def c27 : ACode := (.seq (.reg [⟨some 4, (.assign (.const (.slice none 0 0))), none⟩,
  ⟨some 5, (.assign (.const (.int .i64 0))), none⟩])
 (.seq (.seq (.reg [⟨some 12, (.move (.tmp 0)), none⟩,
  ⟨some 13, (.call { callee := (.value (.func 35)), args := #[(.tmp 12)], argTypes := #[22] }), none⟩,
  ⟨some 6, (.assign (.tmp 13)), none⟩])
 (.seq (.reg [⟨some 14, (.move (.tmp 6)), none⟩,
  ⟨some 15, (.binOp .neq 25 (.tmp 14) (.const (.int .i64 0)) 25), none⟩])
 (.cond (.tmp 15) (.seq (.reg [⟨some 16, (.move (.tmp 6)), none⟩,
  ⟨some 4, (.assign (.const (.slice none 0 0))), none⟩,
  ⟨some 5, (.assign (.tmp 16)), none⟩])
 .ret) .skip)))
 (.seq (.seq (.reg [⟨some 17, (.move (.tmp 1)), none⟩,
  ⟨some 18, (.call { callee := (.builtin .len), args := #[(.tmp 17)], argTypes := #[35] }), none⟩,
  ⟨some 19, (.binOp .gtr 3 (.tmp 18) (.const (.int .i64 5000)) 3), none⟩])
 (.cond (.tmp 19) (.seq (.reg [⟨some 4, (.assign (.const (.slice none 0 0))), none⟩,
  ⟨some 5, (.assign (.const (.int .i64 5))), none⟩])
 .ret) .skip))
 (.seq (.reg [⟨some 20, (.move (.tmp 0)), none⟩,
  ⟨some 21, (.call { callee := (.value (.func 10)), args := #[(.tmp 20)], argTypes := #[22] }), none⟩,
  ⟨some 7, (.assign (.tmp 21)), none⟩])
 (.seq (.reg [⟨some 22, (.buildSlice 22 0 #[]), none⟩,
  ⟨some 8, (.assign (.tmp 22)), none⟩])
 (.seqL (.seq (.reg [⟨some 9, (.assign (.const (.int .i64 0))), none⟩])
 (.block 0 (.loop b27_1)))
 c27_1))))))
theorem fd27 : FnD Try.prog 27 48 [(.tmp 4), (.tmp 5)] c27 := ⟨⟨Try.f27, Try.f27.body.getD .skip, Try.func27, by kernel_rfl, by kernel_rfl, by kernel_rfl, by kernel_rfl⟩⟩
/-! f28 triforium/triforiumlaw24.same -/
/-! f29 triforium/triforiumlaw24.back -/
/-! f30 triforium/triforiumref24.Holds -/
/-! f31 triforium/arith.Point -/
def b31_1 : ACode := (.seq (.reg [⟨some 26, (.binOp .lss 3 (.tmp 25) (.tmp 24) 3), none⟩])
 (.seq (.cond (.tmp 26) .skip (.exit 0))
 (.seq (.block 1 (.seq (.reg [⟨some 27, (.move (.tmp 9)), none⟩,
  ⟨some 28, (.move (.tmp 1)), none⟩,
  ⟨some 29, (.binOp .add 3 (.tmp 28) (.const (.int .i64 1)) 3), none⟩,
  ⟨some 30, (.binOp .mul 3 (.tmp 27) (.tmp 29) 3), none⟩,
  ⟨some 9, (.assign (.tmp 30)), none⟩])
 (.seq (.reg [⟨some 31, (.move (.tmp 9)), none⟩,
  ⟨some 32, (.binOp .gtr 3 (.tmp 31) (.const (.int .i64 100000)) 3), none⟩])
 (.cond (.tmp 32) (.seq (.reg [⟨none, (.store 37 (.tmp 4) (.const (.slice none 0 0))), none⟩,
  ⟨none, (.store 4 (.tmp 5) (.const (.bool false))), none⟩,
  ⟨none, (.store 25 (.tmp 6) (.const (.int .i64 7))), none⟩])
 .ret) .skip))))
 (.reg [⟨some 33, (.binOp .add 3 (.tmp 25) (.const (.int .i64 1)) 3), none⟩,
  ⟨some 25, (.move (.tmp 33)), none⟩]))))
def c31_1 : ACode := (.seq (.reg [⟨none, (.store 37 (.tmp 4) (.const (.slice none 0 0))), none⟩,
  ⟨none, (.store 4 (.tmp 5) (.const (.bool false))), none⟩,
  ⟨none, (.store 25 (.tmp 6) (.const (.int .i64 0))), none⟩])
 .ret)
def c31_2 : ACode := (.seqL (.seq (.reg [⟨some 34, (.move (.tmp 8)), none⟩,
  ⟨some 35, (.move (.tmp 1)), none⟩,
  ⟨some 36, (.call { callee := (.value (.func 53)), args := #[(.tmp 34), (.tmp 35)], argTypes := #[3, 3] }), none⟩])
 (.block 2 (.rfunc (.tmp 36) #[37] (.reg [⟨some 10, (.assign (.tmp 37)), none⟩])
 (.block 3 (.seq (.reg [⟨some 38, (.load 31 (.tmp 2)), none⟩,
  ⟨some 39, (.move (.tmp 10)), none⟩,
  ⟨some 40, (.call { callee := (.value (.func 49)), args := #[(.tmp 38), (.tmp 39)], argTypes := #[31, 37] }), none⟩])
 (.cond (.tmp 40) (.seq (.reg [⟨some 41, (.move (.tmp 10)), none⟩,
  ⟨none, (.store 37 (.tmp 4) (.tmp 41)), none⟩,
  ⟨none, (.store 4 (.tmp 5) (.const (.bool true))), none⟩,
  ⟨none, (.store 25 (.tmp 6) (.const (.int .i64 0))), none⟩])
 .ret) .skip))))))
 c31_1)
def c31 : ACode := (.seq (.reg [⟨some 2, (.box 31 (.tmp 0)), none⟩,
  ⟨some 4, (.alloc 37), none⟩,
  ⟨some 5, (.alloc 4), none⟩,
  ⟨some 6, (.alloc 25), none⟩])
 (.seq (.seq (.reg [⟨some 11, (.load 31 (.tmp 2)), none⟩,
  ⟨some 12, (.call { callee := (.value (.func 36)), args := #[(.tmp 11)], argTypes := #[31] }), none⟩,
  ⟨some 7, (.assign (.tmp 12)), none⟩])
 (.seq (.reg [⟨some 13, (.move (.tmp 7)), none⟩,
  ⟨some 14, (.binOp .neq 25 (.tmp 13) (.const (.int .i64 0)) 25), none⟩])
 (.cond (.tmp 14) (.seq (.reg [⟨some 15, (.move (.tmp 7)), none⟩,
  ⟨none, (.store 37 (.tmp 4) (.const (.slice none 0 0))), none⟩,
  ⟨none, (.store 4 (.tmp 5) (.const (.bool false))), none⟩,
  ⟨none, (.store 25 (.tmp 6) (.tmp 15)), none⟩])
 .ret) .skip)))
 (.seq (.seq (.reg [⟨some 16, (.move (.tmp 1)), none⟩,
  ⟨some 17, (.binOp .lss 3 (.tmp 16) (.const (.int .i64 0)) 3), none⟩,
  ⟨some 18, (.move (.tmp 17)), none⟩,
  ⟨some 19, (.move (.tmp 1)), some (18, false)⟩,
  ⟨some 20, (.binOp .gtr 3 (.tmp 19) (.const (.int .i64 100)) 3), some (18, false)⟩,
  ⟨some 21, (.pick (.tmp 18) (.const (.bool true)) (.tmp 20)), none⟩])
 (.cond (.tmp 21) (.seq (.reg [⟨none, (.store 37 (.tmp 4) (.const (.slice none 0 0))), none⟩,
  ⟨none, (.store 4 (.tmp 5) (.const (.bool false))), none⟩,
  ⟨none, (.store 25 (.tmp 6) (.const (.int .i64 4))), none⟩])
 .ret) .skip))
 (.seq (.reg [⟨some 22, (.load 31 (.tmp 2)), none⟩,
  ⟨some 23, (.call { callee := (.value (.func 37)), args := #[(.tmp 22)], argTypes := #[31] }), none⟩,
  ⟨some 8, (.assign (.tmp 23)), none⟩,
  ⟨some 9, (.assign (.const (.int .i64 1))), none⟩])
 (.seqL (.seq (.reg [⟨some 24, (.move (.tmp 8)), none⟩,
  ⟨some 25, (.move (.const (.int .i64 0))), none⟩])
 (.block 0 (.loop b31_1)))
 c31_2)))))
theorem fd31 : FnD Try.prog 31 42 [(.cell 4 37), (.cell 5 4), (.cell 6 25)] c31 := ⟨⟨Try.f31, Try.f31.body.getD .skip, Try.func31, by kernel_rfl, by kernel_rfl, by kernel_rfl, by kernel_rfl⟩⟩
/-! f32 slices.Equal[[]int,int] -/
def c32 : ACode := (.seq (.reg [⟨some 4, (.assign (.const (.bool false))), none⟩])
 (.seq (.seq (.reg [⟨some 6, (.move (.tmp 0)), none⟩,
  ⟨some 7, (.call { callee := (.builtin .len), args := #[(.tmp 6)], argTypes := #[37] }), none⟩,
  ⟨some 8, (.move (.tmp 1)), none⟩,
  ⟨some 9, (.call { callee := (.builtin .len), args := #[(.tmp 8)], argTypes := #[37] }), none⟩,
  ⟨some 10, (.binOp .neq 3 (.tmp 7) (.tmp 9) 3), none⟩])
 (.cond (.tmp 10) (.seq (.reg [⟨some 4, (.assign (.const (.bool false))), none⟩])
 .ret) .skip))
 (.seqL (.seq (.reg [⟨some 11, (.move (.tmp 0)), none⟩,
  ⟨some 12, (.call { callee := (.builtin .len), args := #[(.tmp 11)], argTypes := #[37] }), none⟩,
  ⟨some 13, (.move (.const (.int .i64 0))), none⟩])
 (.block 0 (.loop (.seq (.reg [⟨some 14, (.binOp .lss 3 (.tmp 13) (.tmp 12) 3), none⟩])
 (.seq (.cond (.tmp 14) .skip (.exit 0))
 (.seq (.block 1 (.seq (.reg [⟨some 15, (.move (.tmp 13)), none⟩,
  ⟨some 5, (.assign (.tmp 15)), none⟩])
 (.seq (.dreg (.tk ⟨some 16, (.move (.tmp 0)), none⟩
  (.tk ⟨some 17, (.move (.tmp 5)), none⟩
  (.tk ⟨some 18, (.indexAddr 37 (.tmp 16) (.tmp 17)), none⟩
  (.tk ⟨some 19, (.load 3 (.tmp 18)), none⟩
  (.tk ⟨some 20, (.move (.tmp 1)), none⟩
  (.tk ⟨some 21, (.move (.tmp 5)), none⟩
  (.tk ⟨some 22, (.indexAddr 37 (.tmp 20) (.tmp 21)), none⟩
  (.tk ⟨some 23, (.load 3 (.tmp 22)), none⟩
  .fin)))))))) [⟨some 24, (.binOp .neq 3 (.tmp 19) (.tmp 23) 3), none⟩])
 (.cond (.tmp 24) (.seq (.reg [⟨some 4, (.assign (.const (.bool false))), none⟩])
 .ret) .skip))))
 (.reg [⟨some 25, (.binOp .add 3 (.tmp 13) (.const (.int .i64 1)) 3), none⟩,
  ⟨some 13, (.move (.tmp 25)), none⟩])))))))
 (.seq (.reg [⟨some 4, (.assign (.const (.bool true))), none⟩])
 .ret))))
theorem fd32 : FnD Try.prog 32 26 [(.tmp 4)] c32 := ⟨⟨Try.f32, Try.f32.body.getD .skip, Try.func32, by kernel_rfl, by kernel_rfl, by kernel_rfl, by kernel_rfl⟩⟩
/-! f33 slices.ContainsFunc[[]triforium/triforiumref24.Row,triforium/triforiumref24.Row] -/
def c33 : ACode := (.seq (.reg [⟨some 4, (.assign (.const (.bool false))), none⟩])
 (.seq (.reg [⟨some 5, (.move (.tmp 0)), none⟩,
  ⟨some 6, (.move (.tmp 1)), none⟩,
  ⟨some 7, (.call { callee := (.value (.func 54)), args := #[(.tmp 5), (.tmp 6)], argTypes := #[22, 68] }), none⟩,
  ⟨some 8, (.binOp .geq 3 (.tmp 7) (.const (.int .i64 0)) 3), none⟩,
  ⟨some 4, (.assign (.tmp 8)), none⟩])
 .ret))
theorem fd33 : FnD Try.prog 33 9 [(.tmp 4)] c33 := ⟨⟨Try.f33, Try.f33.body.getD .skip, Try.func33, by kernel_rfl, by kernel_rfl, by kernel_rfl, by kernel_rfl⟩⟩
/-! f34 triforium/triforiumlaw24.few$1 -/
def c34 : ACode := (.seq (.reg [⟨some 1, (.box 39 (.tmp 0)), none⟩,
  ⟨some 2, (.assign (.const (.bool false))), none⟩])
 (.seq (.reg [⟨some 3, (.fieldAddr 39 (.tmp 1) 0), none⟩,
  ⟨some 4, (.load 37 (.tmp 3)), none⟩,
  ⟨some 5, (.call { callee := (.builtin .len), args := #[(.tmp 4)], argTypes := #[37] }), none⟩,
  ⟨some 6, (.binOp .gtr 3 (.tmp 5) (.const (.int .i64 20)) 3), none⟩,
  ⟨some 2, (.assign (.tmp 6)), none⟩])
 .ret))
theorem fd34 : FnD Try.prog 34 7 [(.tmp 2)] c34 := ⟨⟨Try.f34, Try.f34.body.getD .skip, Try.func34, by kernel_rfl, by kernel_rfl, by kernel_rfl, by kernel_rfl⟩⟩
/-! f35 triforium/triforiumref24.Right -/
def b35_1 : ACode := (.seq (.seq (.reg [⟨some 28, (.move (.tmp 4)), none⟩,
  ⟨some 29, (.move (.tmp 0)), none⟩,
  ⟨some 30, (.move (.tmp 3)), none⟩,
  ⟨some 31, (.indexAddr 22 (.tmp 29) (.tmp 30)), none⟩,
  ⟨some 32, (.fieldAddr 39 (.tmp 31) 0), none⟩,
  ⟨some 33, (.load 37 (.tmp 32)), none⟩,
  ⟨some 34, (.call { callee := (.builtin .len), args := #[(.tmp 33)], argTypes := #[37] }), none⟩,
  ⟨some 35, (.binOp .lss 3 (.tmp 28) (.tmp 34) 3), none⟩])
 (.cond (.tmp 35) .skip (.exit 2)))
 (.seq (.block 3 (.seq (.reg [⟨some 38, (.move (.tmp 0)), none⟩,
  ⟨some 39, (.move (.tmp 3)), none⟩,
  ⟨some 40, (.indexAddr 22 (.tmp 38) (.tmp 39)), none⟩,
  ⟨some 41, (.fieldAddr 39 (.tmp 40) 0), none⟩,
  ⟨some 42, (.load 37 (.tmp 41)), none⟩,
  ⟨some 43, (.move (.tmp 4)), none⟩,
  ⟨some 44, (.indexAddr 37 (.tmp 42) (.tmp 43)), none⟩,
  ⟨some 45, (.load 3 (.tmp 44)), none⟩,
  ⟨some 46, (.call { callee := (.value (.func 55)), args := #[(.tmp 45), (.const (.int .i64 1000000))], argTypes := #[3, 3] }), none⟩,
  ⟨some 47, (.unOp .not 4 (.tmp 46)), none⟩])
 (.cond (.tmp 47) (.seq (.reg [⟨some 2, (.assign (.const (.int .i64 4))), none⟩])
 .ret) .skip)))
 (.reg [⟨some 36, (.move (.tmp 4)), none⟩,
  ⟨some 37, (.binOp .add 3 (.tmp 36) (.const (.int .i64 1)) 3), none⟩,
  ⟨some 4, (.assign (.tmp 37)), none⟩])))
def c35_1 : ACode := (.reg [⟨some 12, (.move (.tmp 3)), none⟩,
  ⟨some 13, (.binOp .add 3 (.tmp 12) (.const (.int .i64 1)) 3), none⟩,
  ⟨some 3, (.assign (.tmp 13)), none⟩])
def b35_2 : ACode := (.seq (.seq (.reg [⟨some 8, (.move (.tmp 3)), none⟩,
  ⟨some 9, (.move (.tmp 0)), none⟩,
  ⟨some 10, (.call { callee := (.builtin .len), args := #[(.tmp 9)], argTypes := #[22] }), none⟩,
  ⟨some 11, (.binOp .lss 3 (.tmp 8) (.tmp 10) 3), none⟩])
 (.cond (.tmp 11) .skip (.exit 0)))
 (.seqL (.block 1 (.seq (.seq (.reg [⟨some 14, (.move (.tmp 0)), none⟩,
  ⟨some 15, (.move (.tmp 3)), none⟩,
  ⟨some 16, (.indexAddr 22 (.tmp 14) (.tmp 15)), none⟩,
  ⟨some 17, (.fieldAddr 39 (.tmp 16) 0), none⟩,
  ⟨some 18, (.load 37 (.tmp 17)), none⟩,
  ⟨some 19, (.call { callee := (.builtin .len), args := #[(.tmp 18)], argTypes := #[37] }), none⟩,
  ⟨some 20, (.binOp .gtr 3 (.tmp 19) (.const (.int .i64 12)) 3), none⟩])
 (.cond (.tmp 20) (.seq (.reg [⟨some 2, (.assign (.const (.int .i64 5))), none⟩])
 .ret) .skip))
 (.seq (.seq (.reg [⟨some 21, (.move (.tmp 0)), none⟩,
  ⟨some 22, (.move (.tmp 3)), none⟩,
  ⟨some 23, (.indexAddr 22 (.tmp 21) (.tmp 22)), none⟩,
  ⟨some 24, (.fieldAddr 39 (.tmp 23) 1), none⟩,
  ⟨some 25, (.load 3 (.tmp 24)), none⟩,
  ⟨some 26, (.call { callee := (.value (.func 55)), args := #[(.tmp 25), (.const (.int .i64 1000000))], argTypes := #[3, 3] }), none⟩,
  ⟨some 27, (.unOp .not 4 (.tmp 26)), none⟩])
 (.cond (.tmp 27) (.seq (.reg [⟨some 2, (.assign (.const (.int .i64 4))), none⟩])
 .ret) .skip))
 (.seq (.reg [⟨some 4, (.assign (.const (.int .i64 0))), none⟩])
 (.block 2 (.loop b35_1))))))
 c35_1))
def c35_2 : ACode := (.seq (.reg [⟨some 2, (.assign (.const (.int .i64 0))), none⟩])
 .ret)
def c35 : ACode := (.seq (.reg [⟨some 2, (.assign (.const (.int .i64 0))), none⟩])
 (.seq (.seq (.reg [⟨some 5, (.move (.tmp 0)), none⟩,
  ⟨some 6, (.call { callee := (.builtin .len), args := #[(.tmp 5)], argTypes := #[22] }), none⟩,
  ⟨some 7, (.binOp .gtr 3 (.tmp 6) (.const (.int .i64 100)) 3), none⟩])
 (.cond (.tmp 7) (.seq (.reg [⟨some 2, (.assign (.const (.int .i64 5))), none⟩])
 .ret) .skip))
 (.seqL (.seq (.reg [⟨some 3, (.assign (.const (.int .i64 0))), none⟩])
 (.block 0 (.loop b35_2)))
 c35_2)))
theorem fd35 : FnD Try.prog 35 48 [(.tmp 2)] c35 := ⟨⟨Try.f35, Try.f35.body.getD .skip, Try.func35, by kernel_rfl, by kernel_rfl, by kernel_rfl, by kernel_rfl⟩⟩
/-! f36 triforium/arith.right -/
def c36 : ACode := (.seq (.reg [⟨some 2, (.assign (.const (.int .i64 0))), none⟩])
 (.seq (.seq (.reg [⟨some 6, (.move (.tmp 0)), none⟩,
  ⟨some 7, (.call { callee := (.builtin .len), args := #[(.tmp 6)], argTypes := #[31] }), none⟩,
  ⟨some 8, (.binOp .gtr 3 (.tmp 7) (.const (.int .i64 100)) 3), none⟩])
 (.cond (.tmp 8) (.seq (.reg [⟨some 2, (.assign (.const (.int .i64 5))), none⟩])
 .ret) .skip))
 (.seq (.reg [⟨some 3, (.assign (.func 56)), none⟩])
 (.seqL (.seq (.reg [⟨some 9, (.move (.tmp 0)), none⟩,
  ⟨some 10, (.call { callee := (.builtin .len), args := #[(.tmp 9)], argTypes := #[31] }), none⟩,
  ⟨some 11, (.move (.const (.int .i64 0))), none⟩])
 (.block 0 (.loop (.seq (.reg [⟨some 12, (.binOp .lss 3 (.tmp 11) (.tmp 10) 3), none⟩])
 (.seq (.cond (.tmp 12) .skip (.exit 0))
 (.seq (.block 1 (.seq (.reg [⟨some 13, (.indexAddr 31 (.tmp 9) (.tmp 11)), none⟩,
  ⟨some 14, (.load 50 (.tmp 13)), none⟩,
  ⟨some 5, (.alloc 50), none⟩,
  ⟨none, (.store 50 (.tmp 5) (.tmp 14)), none⟩])
 (.seq (.seq (.reg [⟨some 15, (.fieldAddr 50 (.tmp 5) 0), none⟩,
  ⟨some 16, (.load 37 (.tmp 15)), none⟩,
  ⟨some 17, (.call { callee := (.builtin .len), args := #[(.tmp 16)], argTypes := #[37] }), none⟩,
  ⟨some 18, (.binOp .gtr 3 (.tmp 17) (.const (.int .i64 12)) 3), none⟩])
 (.cond (.tmp 18) (.seq (.reg [⟨some 2, (.assign (.const (.int .i64 5))), none⟩])
 .ret) .skip))
 (.seq (.reg [⟨some 19, (.move (.tmp 3)), none⟩,
  ⟨some 20, (.fieldAddr 50 (.tmp 5) 1), none⟩,
  ⟨some 21, (.load 3 (.tmp 20)), none⟩,
  ⟨some 22, (.call { callee := (.value (.tmp 19)), args := #[(.tmp 21)], argTypes := #[3] }), none⟩,
  ⟨some 23, (.move (.tmp 22)), none⟩,
  ⟨some 24, (.fieldAddr 50 (.tmp 5) 0), some (23, false)⟩,
  ⟨some 25, (.load 37 (.tmp 24)), some (23, false)⟩,
  ⟨some 26, (.move (.tmp 3)), some (23, false)⟩,
  ⟨some 27, (.call { callee := (.value (.func 16)), args := #[(.tmp 25), (.tmp 26)], argTypes := #[37, 41] }), some (23, false)⟩,
  ⟨some 28, (.pick (.tmp 23) (.const (.bool true)) (.tmp 27)), none⟩])
 (.cond (.tmp 28) (.seq (.reg [⟨some 2, (.assign (.const (.int .i64 4))), none⟩])
 .ret) .skip)))))
 (.reg [⟨some 29, (.binOp .add 3 (.tmp 11) (.const (.int .i64 1)) 3), none⟩,
  ⟨some 11, (.move (.tmp 29)), none⟩])))))))
 (.seq (.reg [⟨some 2, (.assign (.const (.int .i64 0))), none⟩])
 .ret)))))
theorem fd36 : FnD Try.prog 36 30 [(.tmp 2)] c36 := ⟨⟨Try.f36, Try.f36.body.getD .skip, Try.func36, by kernel_rfl, by kernel_rfl, by kernel_rfl, by kernel_rfl⟩⟩
/-! f37 triforium/arith.unknowns -/
def c37 : ACode := (.seq (.reg [⟨some 2, (.assign (.const (.int .i64 0))), none⟩])
 (.seq (.reg [⟨some 3, (.assign (.const (.int .i64 0))), none⟩])
 (.seqL (.seq (.reg [⟨some 6, (.move (.tmp 0)), none⟩,
  ⟨some 7, (.call { callee := (.builtin .len), args := #[(.tmp 6)], argTypes := #[31] }), none⟩,
  ⟨some 8, (.move (.const (.int .i64 0))), none⟩])
 (.block 0 (.loop (.seq (.reg [⟨some 9, (.binOp .lss 3 (.tmp 8) (.tmp 7) 3), none⟩])
 (.seq (.cond (.tmp 9) .skip (.exit 0))
 (.seq (.block 1 (.seq (.reg [⟨some 10, (.indexAddr 31 (.tmp 6) (.tmp 8)), none⟩,
  ⟨some 11, (.load 50 (.tmp 10)), none⟩,
  ⟨some 5, (.alloc 50), none⟩,
  ⟨none, (.store 50 (.tmp 5) (.tmp 11)), none⟩])
 (.reg [⟨some 12, (.move (.tmp 3)), none⟩,
  ⟨some 13, (.fieldAddr 50 (.tmp 5) 0), none⟩,
  ⟨some 14, (.load 37 (.tmp 13)), none⟩,
  ⟨some 15, (.call { callee := (.builtin .len), args := #[(.tmp 14)], argTypes := #[37] }), none⟩,
  ⟨some 16, (.call { callee := (.builtin .max), args := #[(.tmp 12), (.tmp 15)], argTypes := #[3, 3] }), none⟩,
  ⟨some 3, (.assign (.tmp 16)), none⟩])))
 (.reg [⟨some 17, (.binOp .add 3 (.tmp 8) (.const (.int .i64 1)) 3), none⟩,
  ⟨some 8, (.move (.tmp 17)), none⟩])))))))
 (.seq (.reg [⟨some 18, (.move (.tmp 3)), none⟩,
  ⟨some 2, (.assign (.tmp 18)), none⟩])
 .ret))))
theorem fd37 : FnD Try.prog 37 19 [(.tmp 2)] c37 := ⟨⟨Try.f37, Try.f37.body.getD .skip, Try.func37, by kernel_rfl, by kernel_rfl, by kernel_rfl, by kernel_rfl⟩⟩
/-! f38 triforium/arith.Refute$1 -/
def c38 : ACode := (.seq (.reg [⟨some 8, (.call { callee := (.builtin .recover), args := #[], argTypes := #[] }), none⟩])
 (.block 0 (.seq (.reg [⟨some 10, (.binOp .eql 20 (.tmp 8) (.const .nilIface) 20), none⟩])
 (.cond (.tmp 10) (.reg [⟨some 4, (.assign (.tmp 8)), none⟩]) (.seq (.reg [⟨some 11, (.typeAssert (.tmp 8) 20 79 true), none⟩,
  ⟨some 12, (.extract (.tmp 11) 1), none⟩,
  ⟨some 13, (.extract (.tmp 11) 0), none⟩])
 (.cond (.tmp 12) (.seq (.reg [⟨some 5, (.alloc 79), none⟩,
  ⟨none, (.store 79 (.tmp 5) (.tmp 13)), none⟩])
 (.reg [⟨some 14, (.load 71 (.tmp 0)), none⟩,
  ⟨some 15, (.nilCheck (.tmp 14)), none⟩,
  ⟨some 16, (.fieldAddr 77 (.tmp 15) 1), none⟩,
  ⟨some 17, (.load 28 (.tmp 16)), none⟩,
  ⟨some 18, (.call { callee := (.value (.func 39)), args := #[(.tmp 17)], argTypes := #[28] }), none⟩,
  ⟨none, (.store 28 (.tmp 1) (.tmp 18)), none⟩,
  ⟨none, (.store 4 (.tmp 2) (.const (.bool true))), none⟩,
  ⟨none, (.store 25 (.tmp 3) (.const (.int .i64 0))), none⟩])) (.seq (.reg [⟨some 19, (.typeAssert (.tmp 8) 20 82 true), none⟩,
  ⟨some 20, (.extract (.tmp 19) 1), none⟩,
  ⟨some 21, (.extract (.tmp 19) 0), none⟩])
 (.cond (.tmp 20) (.seq (.reg [⟨some 6, (.alloc 82), none⟩,
  ⟨none, (.store 82 (.tmp 6) (.tmp 21)), none⟩])
 (.dreg (.tk ⟨some 22, (.fieldAddr 82 (.tmp 6) 0), none⟩
  (.tk ⟨some 23, (.load 25 (.tmp 22)), none⟩
  (.one ⟨none, (.store 28 (.tmp 1) (.const (.slice none 0 0))), none⟩
  (.one ⟨none, (.store 4 (.tmp 2) (.const (.bool false))), none⟩
  .fin)))) [⟨none, (.store 25 (.tmp 3) (.tmp 23)), none⟩])) (.seq (.reg [⟨some 7, (.assign (.tmp 8)), none⟩])
 (.reg [⟨some 9, (.move (.tmp 7)), none⟩,
  ⟨none, (.panic (.tmp 9)), none⟩]))))))))))
theorem fd38 : FnD Try.prog 38 24 [] c38 := ⟨⟨Try.f38, Try.f38.body.getD .skip, Try.func38, by kernel_rfl, by kernel_rfl, by kernel_rfl, by kernel_rfl⟩⟩
/-! f39 triforium/arith.needed -/
def b39_1 : ACode := (.seq (.seq (.reg [⟨some 21, (.move (.tmp 4)), none⟩,
  ⟨some 22, (.binOp .geq 3 (.tmp 21) (.const (.int .i64 0)) 3), none⟩])
 (.cond (.tmp 22) .skip (.exit 0)))
 (.seq (.block 1 (.seq (.reg [⟨some 25, (.move (.tmp 0)), none⟩,
  ⟨some 26, (.move (.tmp 4)), none⟩,
  ⟨some 27, (.indexAddr 28 (.tmp 25) (.tmp 26)), none⟩,
  ⟨some 28, (.load 52 (.tmp 27)), none⟩,
  ⟨some 5, (.alloc 52), none⟩,
  ⟨none, (.store 52 (.tmp 5) (.tmp 28)), none⟩])
 (.seq (.reg [⟨some 29, (.move (.tmp 3)), none⟩,
  ⟨some 30, (.move (.tmp 4)), none⟩,
  ⟨some 31, (.indexAddr 103 (.tmp 29) (.tmp 30)), none⟩,
  ⟨some 32, (.load 4 (.tmp 31)), none⟩,
  ⟨some 33, (.move (.tmp 32)), none⟩,
  ⟨some 34, (.fieldAddr 52 (.tmp 5) 0), some (33, true)⟩,
  ⟨some 35, (.load 3 (.tmp 34)), some (33, true)⟩,
  ⟨some 36, (.binOp .geq 3 (.tmp 35) (.const (.int .i64 3)) 3), some (33, true)⟩,
  ⟨some 37, (.pick (.tmp 33) (.tmp 36) (.const (.bool false))), none⟩])
 (.cond (.tmp 37) (.seq (.reg [⟨some 38, (.move (.tmp 3)), none⟩,
  ⟨some 39, (.fieldAddr 52 (.tmp 5) 1), none⟩,
  ⟨some 40, (.load 3 (.tmp 39)), none⟩,
  ⟨some 41, (.indexAddr 103 (.tmp 38) (.tmp 40)), none⟩,
  ⟨none, (.store 4 (.tmp 41) (.const (.bool true))), none⟩])
 (.dreg (.tk ⟨some 42, (.move (.tmp 3)), none⟩
  (.tk ⟨some 43, (.fieldAddr 52 (.tmp 5) 2), none⟩
  (.tk ⟨some 44, (.load 3 (.tmp 43)), none⟩
  (.tk ⟨some 45, (.move (.tmp 3)), none⟩
  (.tk ⟨some 46, (.fieldAddr 52 (.tmp 5) 2), none⟩
  (.tk ⟨some 47, (.load 3 (.tmp 46)), none⟩
  (.tk ⟨some 48, (.indexAddr 103 (.tmp 45) (.tmp 47)), none⟩
  (.tk ⟨some 49, (.load 4 (.tmp 48)), none⟩
  (.tk ⟨some 50, (.move (.tmp 49)), none⟩
  (.tk ⟨some 51, (.fieldAddr 52 (.tmp 5) 0), some (50, false)⟩
  (.tk ⟨some 52, (.load 3 (.tmp 51)), some (50, false)⟩
  (.tk ⟨some 53, (.binOp .eql 3 (.tmp 52) (.const (.int .i64 3)) 3), some (50, false)⟩
  (.tk ⟨some 54, (.pick (.tmp 50) (.const (.bool true)) (.tmp 53)), none⟩
  .fin))))))))))))) [⟨some 55, (.indexAddr 103 (.tmp 42) (.tmp 44)), none⟩,
  ⟨none, (.store 4 (.tmp 55) (.tmp 54)), none⟩])) .skip))))
 (.reg [⟨some 23, (.move (.tmp 4)), none⟩,
  ⟨some 24, (.binOp .sub 3 (.tmp 23) (.const (.int .i64 1)) 3), none⟩,
  ⟨some 4, (.assign (.tmp 24)), none⟩])))
def b39_2 : ACode := (.seq (.reg [⟨some 62, (.binOp .lss 3 (.tmp 61) (.tmp 60) 3), none⟩])
 (.seq (.cond (.tmp 62) .skip (.exit 2))
 (.seq (.block 3 (.seq (.reg [⟨some 63, (.move (.tmp 61)), none⟩,
  ⟨some 64, (.indexAddr 28 (.tmp 59) (.tmp 61)), none⟩,
  ⟨some 65, (.load 52 (.tmp 64)), none⟩,
  ⟨some 9, (.alloc 52), none⟩,
  ⟨some 8, (.assign (.tmp 63)), none⟩,
  ⟨none, (.store 52 (.tmp 9) (.tmp 65)), none⟩])
 (.seq (.seq (.reg [⟨some 66, (.move (.tmp 3)), none⟩,
  ⟨some 67, (.move (.tmp 8)), none⟩,
  ⟨some 68, (.indexAddr 103 (.tmp 66) (.tmp 67)), none⟩,
  ⟨some 69, (.load 4 (.tmp 68)), none⟩,
  ⟨some 70, (.unOp .not 4 (.tmp 69)), none⟩])
 (.cond (.tmp 70) (.exit 3) .skip))
 (.seq (.reg [⟨some 71, (.move (.tmp 7)), none⟩,
  ⟨some 72, (.move (.tmp 8)), none⟩,
  ⟨some 73, (.move (.tmp 6)), none⟩,
  ⟨some 74, (.call { callee := (.builtin .len), args := #[(.tmp 73)], argTypes := #[28] }), none⟩,
  ⟨some 75, (.indexAddr 37 (.tmp 71) (.tmp 72)), none⟩,
  ⟨none, (.store 3 (.tmp 75) (.tmp 74)), none⟩])
 (.seq (.seq (.reg [⟨some 76, (.fieldAddr 52 (.tmp 9) 0), none⟩,
  ⟨some 77, (.load 3 (.tmp 76)), none⟩,
  ⟨some 78, (.binOp .geq 3 (.tmp 77) (.const (.int .i64 3)) 3), none⟩])
 (.cond (.tmp 78) (.reg [⟨some 79, (.move (.tmp 7)), none⟩,
  ⟨some 80, (.fieldAddr 52 (.tmp 9) 1), none⟩,
  ⟨some 81, (.load 3 (.tmp 80)), none⟩,
  ⟨some 82, (.indexAddr 37 (.tmp 79) (.tmp 81)), none⟩,
  ⟨some 83, (.load 3 (.tmp 82)), none⟩,
  ⟨some 84, (.fieldAddr 52 (.tmp 9) 1), none⟩,
  ⟨none, (.store 3 (.tmp 84) (.tmp 83)), none⟩]) .skip))
 (.seq (.seq (.reg [⟨some 85, (.fieldAddr 52 (.tmp 9) 0), none⟩,
  ⟨some 86, (.load 3 (.tmp 85)), none⟩,
  ⟨some 87, (.binOp .eql 3 (.tmp 86) (.const (.int .i64 3)) 3), none⟩])
 (.cond (.tmp 87) (.reg [⟨some 88, (.move (.tmp 7)), none⟩,
  ⟨some 89, (.fieldAddr 52 (.tmp 9) 2), none⟩,
  ⟨some 90, (.load 3 (.tmp 89)), none⟩,
  ⟨some 91, (.indexAddr 37 (.tmp 88) (.tmp 90)), none⟩,
  ⟨some 92, (.load 3 (.tmp 91)), none⟩,
  ⟨some 93, (.fieldAddr 52 (.tmp 9) 2), none⟩,
  ⟨none, (.store 3 (.tmp 93) (.tmp 92)), none⟩]) .skip))
 (.reg [⟨some 94, (.move (.tmp 6)), none⟩,
  ⟨some 95, (.load 52 (.tmp 9)), none⟩,
  ⟨some 96, (.buildSlice 28 1 #[(0, (.tmp 95))]), none⟩,
  ⟨some 97, (.call { callee := (.builtin .append), args := #[(.tmp 94), (.tmp 96)], argTypes := #[28, 28] }), none⟩,
  ⟨some 6, (.assign (.tmp 97)), none⟩])))))))
 (.reg [⟨some 98, (.binOp .add 3 (.tmp 61) (.const (.int .i64 1)) 3), none⟩,
  ⟨some 61, (.move (.tmp 98)), none⟩]))))
def c39_1 : ACode := (.seq (.reg [⟨some 99, (.move (.tmp 6)), none⟩,
  ⟨some 2, (.assign (.tmp 99)), none⟩])
 .ret)
def c39_2 : ACode := (.seq (.reg [⟨some 6, (.assign (.const (.slice none 0 0))), none⟩])
 (.seq (.reg [⟨some 56, (.move (.tmp 0)), none⟩,
  ⟨some 57, (.call { callee := (.builtin .len), args := #[(.tmp 56)], argTypes := #[28] }), none⟩,
  ⟨some 58, (.makeSlice 37 (.tmp 57) (.tmp 57)), none⟩,
  ⟨some 7, (.assign (.tmp 58)), none⟩])
 (.seqL (.seq (.reg [⟨some 59, (.move (.tmp 0)), none⟩,
  ⟨some 60, (.call { callee := (.builtin .len), args := #[(.tmp 59)], argTypes := #[28] }), none⟩,
  ⟨some 61, (.move (.const (.int .i64 0))), none⟩])
 (.block 2 (.loop b39_2)))
 c39_1)))
def c39 : ACode := (.seq (.reg [⟨some 2, (.assign (.const (.slice none 0 0))), none⟩])
 (.seq (.reg [⟨some 10, (.move (.tmp 0)), none⟩,
  ⟨some 11, (.call { callee := (.builtin .len), args := #[(.tmp 10)], argTypes := #[28] }), none⟩,
  ⟨some 12, (.makeSlice 103 (.tmp 11) (.tmp 11)), none⟩,
  ⟨some 3, (.assign (.tmp 12)), none⟩])
 (.seq (.reg [⟨some 13, (.move (.tmp 3)), none⟩,
  ⟨some 14, (.move (.tmp 0)), none⟩,
  ⟨some 15, (.call { callee := (.builtin .len), args := #[(.tmp 14)], argTypes := #[28] }), none⟩,
  ⟨some 16, (.binOp .sub 3 (.tmp 15) (.const (.int .i64 1)) 3), none⟩,
  ⟨some 17, (.indexAddr 103 (.tmp 13) (.tmp 16)), none⟩,
  ⟨none, (.store 4 (.tmp 17) (.const (.bool true))), none⟩])
 (.seqL (.seq (.reg [⟨some 18, (.move (.tmp 0)), none⟩,
  ⟨some 19, (.call { callee := (.builtin .len), args := #[(.tmp 18)], argTypes := #[28] }), none⟩,
  ⟨some 20, (.binOp .sub 3 (.tmp 19) (.const (.int .i64 1)) 3), none⟩,
  ⟨some 4, (.assign (.tmp 20)), none⟩])
 (.block 0 (.loop b39_1)))
 c39_2))))
theorem fd39 : FnD Try.prog 39 100 [(.tmp 2)] c39 := ⟨⟨Try.f39, Try.f39.body.getD .skip, Try.func39, by kernel_rfl, by kernel_rfl, by kernel_rfl, by kernel_rfl⟩⟩
/-! f40 (*triforium/arith.refuter).search -/
def b40_1 : ACode := (.seq (.reg [⟨some 22, (.binOp .lss 3 (.tmp 21) (.tmp 20) 3), none⟩])
 (.seq (.cond (.tmp 22) .skip (.exit 0))
 (.seq (.block 1 (.seq (.reg [⟨some 23, (.move (.tmp 21)), none⟩,
  ⟨some 3, (.assign (.tmp 23)), none⟩])
 (.reg [⟨some 24, (.move (.tmp 2)), none⟩,
  ⟨some 25, (.load 71 (.tmp 1)), none⟩,
  ⟨some 26, (.move (.tmp 3)), none⟩,
  ⟨some 27, (.build 52 #[(0, (.const (.int .i64 1))), (1, (.tmp 26))]), none⟩,
  ⟨some 28, (.call { callee := (.value (.func 58)), args := #[(.tmp 25), (.tmp 27)], argTypes := #[71, 52] }), none⟩,
  ⟨some 29, (.buildSlice 37 1 #[(0, (.tmp 28))]), none⟩,
  ⟨some 30, (.call { callee := (.builtin .append), args := #[(.tmp 24), (.tmp 29)], argTypes := #[37, 37] }), none⟩,
  ⟨some 2, (.assign (.tmp 30)), none⟩])))
 (.reg [⟨some 31, (.binOp .add 3 (.tmp 21) (.const (.int .i64 1)) 3), none⟩,
  ⟨some 21, (.move (.tmp 31)), none⟩]))))
def b40_2 : ACode := (.seq (.reg [⟨some 38, (.binOp .lss 3 (.tmp 37) (.tmp 36) 3), none⟩])
 (.seq (.cond (.tmp 38) .skip (.exit 2))
 (.seq (.block 3 (.seq (.reg [⟨some 39, (.move (.tmp 37)), none⟩,
  ⟨some 4, (.assign (.tmp 39)), none⟩])
 (.reg [⟨some 40, (.move (.tmp 2)), none⟩,
  ⟨some 41, (.load 71 (.tmp 1)), none⟩,
  ⟨some 42, (.move (.tmp 4)), none⟩,
  ⟨some 43, (.build 52 #[(0, (.const (.int .i64 2))), (1, (.tmp 42))]), none⟩,
  ⟨some 44, (.call { callee := (.value (.func 58)), args := #[(.tmp 41), (.tmp 43)], argTypes := #[71, 52] }), none⟩,
  ⟨some 45, (.buildSlice 37 1 #[(0, (.tmp 44))]), none⟩,
  ⟨some 46, (.call { callee := (.builtin .append), args := #[(.tmp 40), (.tmp 45)], argTypes := #[37, 37] }), none⟩,
  ⟨some 2, (.assign (.tmp 46)), none⟩])))
 (.reg [⟨some 47, (.binOp .add 3 (.tmp 37) (.const (.int .i64 1)) 3), none⟩,
  ⟨some 37, (.move (.tmp 47)), none⟩]))))
def b40_3 : ACode := (.seq (.reg [⟨some 74, (.binOp .lss 3 (.tmp 73) (.tmp 72) 3), none⟩])
 (.seq (.cond (.tmp 74) .skip (.exit 6))
 (.seq (.block 7 (.seq (.reg [⟨some 75, (.indexAddr 37 (.tmp 71) (.tmp 73)), none⟩,
  ⟨some 76, (.load 3 (.tmp 75)), none⟩,
  ⟨some 9, (.assign (.tmp 76)), none⟩])
 (.seq (.dreg (.tk ⟨some 77, (.load 71 (.tmp 1)), none⟩
  (.tk ⟨some 78, (.nilCheck (.tmp 77)), none⟩
  (.tk ⟨some 79, (.fieldAddr 77 (.tmp 78) 0), none⟩
  (.tk ⟨some 80, (.fieldAddr 74 (.tmp 79) 2), none⟩
  (.tk ⟨some 81, (.load 31 (.tmp 80)), none⟩
  (.tk ⟨some 82, (.move (.tmp 9)), none⟩
  (.tk ⟨some 83, (.indexAddr 31 (.tmp 81) (.tmp 82)), none⟩
  (.tk ⟨some 84, (.fieldAddr 50 (.tmp 83) 0), none⟩
  (.tk ⟨some 85, (.load 37 (.tmp 84)), none⟩
  (.tk ⟨some 86, (.load 3 (.tmp 6)), none⟩
  .fin)))))))))) [⟨some 87, (.indexAddr 37 (.tmp 85) (.tmp 86)), none⟩,
  ⟨some 88, (.load 3 (.tmp 87)), none⟩,
  ⟨some 89, (.binOp .eql 3 (.tmp 88) (.const (.int .i64 0)) 3), none⟩])
 (.cond (.tmp 89) (.reg [⟨some 90, (.load 37 (.tmp 7)), none⟩,
  ⟨some 91, (.move (.tmp 9)), none⟩,
  ⟨some 92, (.buildSlice 37 1 #[(0, (.tmp 91))]), none⟩,
  ⟨some 93, (.call { callee := (.builtin .append), args := #[(.tmp 90), (.tmp 92)], argTypes := #[37, 37] }), none⟩,
  ⟨none, (.store 37 (.tmp 7) (.tmp 93)), none⟩]) .skip))))
 (.reg [⟨some 94, (.binOp .add 3 (.tmp 73) (.const (.int .i64 1)) 3), none⟩,
  ⟨some 73, (.move (.tmp 94)), none⟩]))))
def c40_1 : ACode := (.reg [⟨some 145, (.load 37 (.tmp 7)), none⟩,
  ⟨some 2, (.assign (.tmp 145)), none⟩])
def c40_2 : ACode := (.seqL (.seq (.reg [⟨some 95, (.load 71 (.tmp 1)), none⟩,
  ⟨some 96, (.move (.tmp 2)), none⟩,
  ⟨some 97, (.load 3 (.tmp 6)), none⟩,
  ⟨some 98, (.call { callee := (.value (.func 61)), args := #[(.tmp 95), (.tmp 96), (.tmp 97)], argTypes := #[71, 37, 3] }), none⟩])
 (.block 8 (.rfunc (.tmp 98) #[99, 100] (.seq (.reg [⟨some 10, (.assign (.tmp 99)), none⟩])
 (.reg [⟨some 11, (.assign (.tmp 100)), none⟩]))
 (.block 9 (.seq (.dreg (.tk ⟨some 101, (.load 71 (.tmp 1)), none⟩
  (.tk ⟨some 102, (.nilCheck (.tmp 101)), none⟩
  (.tk ⟨some 103, (.fieldAddr 77 (.tmp 102) 0), none⟩
  (.tk ⟨some 104, (.fieldAddr 74 (.tmp 103) 2), none⟩
  (.tk ⟨some 105, (.load 31 (.tmp 104)), none⟩
  (.tk ⟨some 106, (.move (.tmp 11)), none⟩
  (.tk ⟨some 107, (.indexAddr 31 (.tmp 105) (.tmp 106)), none⟩
  (.tk ⟨some 108, (.fieldAddr 50 (.tmp 107) 0), none⟩
  (.tk ⟨some 109, (.load 37 (.tmp 108)), none⟩
  (.tk ⟨some 110, (.load 3 (.tmp 6)), none⟩
  (.tk ⟨some 111, (.indexAddr 37 (.tmp 109) (.tmp 110)), none⟩
  (.tk ⟨some 112, (.load 3 (.tmp 111)), none⟩
  (.tk ⟨some 113, (.unOp .neg 3 (.tmp 112)), none⟩
  (.tk ⟨some 114, (.load 71 (.tmp 1)), none⟩
  (.tk ⟨some 115, (.nilCheck (.tmp 114)), none⟩
  (.tk ⟨some 116, (.fieldAddr 77 (.tmp 115) 0), none⟩
  (.tk ⟨some 117, (.fieldAddr 74 (.tmp 116) 2), none⟩
  (.tk ⟨some 118, (.load 31 (.tmp 117)), none⟩
  (.tk ⟨some 119, (.move (.tmp 10)), none⟩
  (.tk ⟨some 120, (.indexAddr 31 (.tmp 118) (.tmp 119)), none⟩
  (.tk ⟨some 121, (.fieldAddr 50 (.tmp 120) 0), none⟩
  (.tk ⟨some 122, (.load 37 (.tmp 121)), none⟩
  (.tk ⟨some 123, (.load 3 (.tmp 6)), none⟩
  (.tk ⟨some 124, (.indexAddr 37 (.tmp 122) (.tmp 123)), none⟩
  (.tk ⟨some 125, (.load 3 (.tmp 124)), none⟩
  (.tk ⟨some 12, (.assign (.tmp 113)), none⟩
  .fin)))))))))))))))))))))))))) [⟨some 13, (.assign (.tmp 125)), none⟩])
 (.seq (.reg [⟨some 126, (.move (.tmp 12)), none⟩,
  ⟨some 127, (.move (.tmp 13)), none⟩,
  ⟨some 128, (.buildSlice 37 2 #[(0, (.tmp 126)), (1, (.tmp 127))]), none⟩,
  ⟨some 129, (.build 50 #[(0, (.tmp 128))]), none⟩,
  ⟨some 130, (.call { callee := (.value (.func 62)), args := #[(.tmp 129)], argTypes := #[50] }), none⟩,
  ⟨some 14, (.assign (.tmp 130)), none⟩])
 (.dreg (.tk ⟨some 131, (.load 37 (.tmp 7)), none⟩
  (.tk ⟨some 132, (.load 71 (.tmp 1)), none⟩
  (.tk ⟨some 133, (.move (.tmp 10)), none⟩
  (.tk ⟨some 134, (.move (.tmp 11)), none⟩
  (.tk ⟨some 135, (.move (.tmp 12)), none⟩
  (.tk ⟨some 136, (.move (.tmp 14)), none⟩
  (.tk ⟨some 137, (.binOp .quo 3 (.tmp 135) (.tmp 136) 3), none⟩
  (.tk ⟨some 138, (.move (.tmp 13)), none⟩
  (.tk ⟨some 139, (.move (.tmp 14)), none⟩
  (.tk ⟨some 140, (.binOp .quo 3 (.tmp 138) (.tmp 139) 3), none⟩
  (.tk ⟨some 141, (.build 52 #[(0, (.const (.int .i64 3))), (1, (.tmp 133)), (2, (.tmp 134)), (3, (.tmp 137)), (4, (.tmp 140))]), none⟩
  (.one ⟨some 142, (.call { callee := (.value (.func 58)), args := #[(.tmp 132), (.tmp 141)], argTypes := #[71, 52] }), none⟩
  (.one ⟨some 143, (.buildSlice 37 1 #[(0, (.tmp 142))]), none⟩
  .fin))))))))))))) [⟨some 144, (.call { callee := (.builtin .append), args := #[(.tmp 131), (.tmp 143)], argTypes := #[37, 37] }), none⟩,
  ⟨none, (.store 37 (.tmp 7) (.tmp 144)), none⟩])))))))
 c40_1)
def c40_3 : ACode := (.reg [⟨some 146, (.binOp .add 3 (.tmp 59) (.const (.int .i64 1)) 3), none⟩,
  ⟨some 59, (.move (.tmp 146)), none⟩])
def b40_4 : ACode := (.seq (.reg [⟨some 60, (.binOp .lss 3 (.tmp 59) (.tmp 58) 3), none⟩])
 (.seq (.cond (.tmp 60) .skip (.exit 4))
 (.seqL (.block 5 (.seq (.reg [⟨some 61, (.load 71 (.tmp 1)), none⟩,
  ⟨some 62, (.move (.tmp 2)), none⟩,
  ⟨some 63, (.call { callee := (.value (.func 59)), args := #[(.tmp 61), (.tmp 62)], argTypes := #[71, 37] }), none⟩,
  ⟨some 2, (.assign (.tmp 63)), none⟩])
 (.seq (.reg [⟨some 64, (.load 71 (.tmp 1)), none⟩,
  ⟨some 65, (.move (.tmp 2)), none⟩,
  ⟨some 66, (.move (.tmp 5)), none⟩,
  ⟨some 67, (.call { callee := (.value (.func 60)), args := #[(.tmp 64), (.tmp 65), (.tmp 66)], argTypes := #[71, 37, 103] }), none⟩,
  ⟨some 6, (.alloc 3), none⟩,
  ⟨none, (.store 3 (.tmp 6) (.tmp 67)), none⟩])
 (.seq (.reg [⟨some 68, (.move (.tmp 5)), none⟩,
  ⟨some 69, (.load 3 (.tmp 6)), none⟩,
  ⟨some 70, (.indexAddr 103 (.tmp 68) (.tmp 69)), none⟩,
  ⟨none, (.store 4 (.tmp 70) (.const (.bool true))), none⟩])
 (.seq (.reg [⟨some 7, (.alloc 37), none⟩])
 (.seqL (.seq (.reg [⟨some 71, (.move (.tmp 2)), none⟩,
  ⟨some 72, (.call { callee := (.builtin .len), args := #[(.tmp 71)], argTypes := #[37] }), none⟩,
  ⟨some 73, (.move (.const (.int .i64 0))), none⟩])
 (.block 6 (.loop b40_3)))
 c40_2))))))
 c40_3)))
def c40_4 : ACode := (.seq (.reg [⟨some 48, (.load 71 (.tmp 1)), none⟩,
  ⟨some 49, (.nilCheck (.tmp 48)), none⟩,
  ⟨some 50, (.fieldAddr 77 (.tmp 49) 0), none⟩,
  ⟨some 51, (.fieldAddr 74 (.tmp 50) 1), none⟩,
  ⟨some 52, (.load 3 (.tmp 51)), none⟩,
  ⟨some 53, (.makeSlice 103 (.tmp 52) (.tmp 52)), none⟩,
  ⟨some 5, (.assign (.tmp 53)), none⟩])
 (.seq (.reg [⟨some 54, (.load 71 (.tmp 1)), none⟩,
  ⟨some 55, (.nilCheck (.tmp 54)), none⟩,
  ⟨some 56, (.fieldAddr 77 (.tmp 55) 0), none⟩,
  ⟨some 57, (.fieldAddr 74 (.tmp 56) 1), none⟩,
  ⟨some 58, (.load 3 (.tmp 57)), none⟩,
  ⟨some 59, (.move (.const (.int .i64 0))), none⟩])
 (.block 4 (.loop b40_4))))
def c40_5 : ACode := (.seqL (.seq (.reg [⟨some 32, (.load 71 (.tmp 1)), none⟩,
  ⟨some 33, (.nilCheck (.tmp 32)), none⟩,
  ⟨some 34, (.fieldAddr 77 (.tmp 33) 0), none⟩,
  ⟨some 35, (.fieldAddr 74 (.tmp 34) 1), none⟩,
  ⟨some 36, (.load 3 (.tmp 35)), none⟩,
  ⟨some 37, (.move (.const (.int .i64 0))), none⟩])
 (.block 2 (.loop b40_2)))
 c40_4)
def c40 : ACode := (.seq (.reg [⟨some 1, (.box 71 (.tmp 0)), none⟩])
 (.seq (.reg [⟨some 2, (.assign (.const (.slice none 0 0))), none⟩])
 (.seqL (.seq (.reg [⟨some 15, (.load 71 (.tmp 1)), none⟩,
  ⟨some 16, (.nilCheck (.tmp 15)), none⟩,
  ⟨some 17, (.fieldAddr 77 (.tmp 16) 0), none⟩,
  ⟨some 18, (.fieldAddr 74 (.tmp 17) 0), none⟩,
  ⟨some 19, (.load 31 (.tmp 18)), none⟩,
  ⟨some 20, (.call { callee := (.builtin .len), args := #[(.tmp 19)], argTypes := #[31] }), none⟩,
  ⟨some 21, (.move (.const (.int .i64 0))), none⟩])
 (.block 0 (.loop b40_1)))
 c40_5)))
theorem fd40 : FnD Try.prog 40 147 [] c40 := ⟨⟨Try.f40, Try.f40.body.getD .skip, Try.func40, by kernel_rfl, by kernel_rfl, by kernel_rfl, by kernel_rfl⟩⟩
/-! f41 (triforium/arith.Row).absurd -/
def c41 : ACode := (.seq (.reg [⟨some 1, (.box 50 (.tmp 0)), none⟩,
  ⟨some 2, (.assign (.const (.bool false))), none⟩])
 (.seq (.reg [⟨some 3, (.fieldAddr 50 (.tmp 1) 1), none⟩,
  ⟨some 4, (.load 3 (.tmp 3)), none⟩,
  ⟨some 5, (.binOp .lss 3 (.tmp 4) (.const (.int .i64 0)) 3), none⟩,
  ⟨some 6, (.move (.tmp 5)), none⟩,
  ⟨some 7, (.fieldAddr 50 (.tmp 1) 0), some (6, true)⟩,
  ⟨some 8, (.load 37 (.tmp 7)), some (6, true)⟩,
  ⟨some 9, (.call { callee := (.value (.func 16)), args := #[(.tmp 8), (.func 63)], argTypes := #[37, 41] }), some (6, true)⟩,
  ⟨some 10, (.unOp .not 4 (.tmp 9)), some (6, true)⟩,
  ⟨some 11, (.pick (.tmp 6) (.tmp 10) (.const (.bool false))), none⟩,
  ⟨some 2, (.assign (.tmp 11)), none⟩])
 .ret))
theorem fd41 : FnD Try.prog 41 12 [(.tmp 2)] c41 := ⟨⟨Try.f41, Try.f41.body.getD .skip, Try.func41, by kernel_rfl, by kernel_rfl, by kernel_rfl, by kernel_rfl⟩⟩
/-! f42 slices.IndexFunc[[]int,int] -/
def c42 : ACode := (.seq (.reg [⟨some 4, (.assign (.const (.int .i64 0))), none⟩])
 (.seqL (.seq (.reg [⟨some 6, (.move (.tmp 0)), none⟩,
  ⟨some 7, (.call { callee := (.builtin .len), args := #[(.tmp 6)], argTypes := #[37] }), none⟩,
  ⟨some 8, (.move (.const (.int .i64 0))), none⟩])
 (.block 0 (.loop (.seq (.reg [⟨some 9, (.binOp .lss 3 (.tmp 8) (.tmp 7) 3), none⟩])
 (.seq (.cond (.tmp 9) .skip (.exit 0))
 (.seq (.block 1 (.seq (.reg [⟨some 10, (.move (.tmp 8)), none⟩,
  ⟨some 5, (.assign (.tmp 10)), none⟩])
 (.seq (.reg [⟨some 11, (.move (.tmp 1)), none⟩,
  ⟨some 12, (.move (.tmp 0)), none⟩,
  ⟨some 13, (.move (.tmp 5)), none⟩,
  ⟨some 14, (.indexAddr 37 (.tmp 12) (.tmp 13)), none⟩,
  ⟨some 15, (.load 3 (.tmp 14)), none⟩,
  ⟨some 16, (.call { callee := (.value (.tmp 11)), args := #[(.tmp 15)], argTypes := #[3] }), none⟩])
 (.cond (.tmp 16) (.seq (.reg [⟨some 17, (.move (.tmp 5)), none⟩,
  ⟨some 4, (.assign (.tmp 17)), none⟩])
 .ret) .skip))))
 (.reg [⟨some 18, (.binOp .add 3 (.tmp 8) (.const (.int .i64 1)) 3), none⟩,
  ⟨some 8, (.move (.tmp 18)), none⟩])))))))
 (.seq (.reg [⟨some 4, (.assign (.const (.int .i64 (-1)))), none⟩])
 .ret)))
theorem fd42 : FnD Try.prog 42 19 [(.tmp 4)] c42 := ⟨⟨Try.f42, Try.f42.body.getD .skip, Try.func42, by kernel_rfl, by kernel_rfl, by kernel_rfl, by kernel_rfl⟩⟩
/-! f43 triforium/triforiumref24.all -/
def c43 : ACode := (.seq (.reg [⟨some 4, (.assign (.const (.bool false))), none⟩])
 (.seqL (.seq (.reg [⟨some 5, (.assign (.const (.int .i64 0))), none⟩])
 (.block 0 (.loop (.seq (.seq (.reg [⟨some 6, (.move (.tmp 5)), none⟩,
  ⟨some 7, (.move (.tmp 0)), none⟩,
  ⟨some 8, (.call { callee := (.builtin .len), args := #[(.tmp 7)], argTypes := #[22] }), none⟩,
  ⟨some 9, (.binOp .lss 3 (.tmp 6) (.tmp 8) 3), none⟩])
 (.cond (.tmp 9) .skip (.exit 0)))
 (.seq (.block 1 (.seq (.reg [⟨some 12, (.move (.tmp 0)), none⟩,
  ⟨some 13, (.move (.tmp 5)), none⟩,
  ⟨some 14, (.indexAddr 22 (.tmp 12) (.tmp 13)), none⟩,
  ⟨some 15, (.load 39 (.tmp 14)), none⟩,
  ⟨some 16, (.move (.tmp 1)), none⟩,
  ⟨some 17, (.call { callee := (.value (.func 26)), args := #[(.tmp 15), (.tmp 16)], argTypes := #[39, 37] }), none⟩,
  ⟨some 18, (.unOp .not 4 (.tmp 17)), none⟩])
 (.cond (.tmp 18) (.seq (.reg [⟨some 4, (.assign (.const (.bool false))), none⟩])
 .ret) .skip)))
 (.reg [⟨some 10, (.move (.tmp 5)), none⟩,
  ⟨some 11, (.binOp .add 3 (.tmp 10) (.const (.int .i64 1)) 3), none⟩,
  ⟨some 5, (.assign (.tmp 11)), none⟩]))))))
 (.seq (.reg [⟨some 4, (.assign (.const (.bool true))), none⟩])
 .ret)))
theorem fd43 : FnD Try.prog 43 19 [(.tmp 4)] c43 := ⟨⟨Try.f43, Try.f43.body.getD .skip, Try.func43, by kernel_rfl, by kernel_rfl, by kernel_rfl, by kernel_rfl⟩⟩
/-! f44 triforium/triforiumref24.Next -/
def b44_1 : ACode := (.seq (.seq (.reg [⟨some 14, (.move (.tmp 7)), none⟩,
  ⟨some 15, (.binOp .geq 3 (.tmp 14) (.const (.int .i64 0)) 3), none⟩])
 (.cond (.tmp 15) .skip (.exit 0)))
 (.seq (.block 1 (.seq (.seq (.reg [⟨some 18, (.move (.tmp 6)), none⟩,
  ⟨some 19, (.move (.tmp 7)), none⟩,
  ⟨some 20, (.indexAddr 37 (.tmp 18) (.tmp 19)), none⟩,
  ⟨some 21, (.load 3 (.tmp 20)), none⟩,
  ⟨some 22, (.move (.tmp 1)), none⟩,
  ⟨some 23, (.binOp .lss 3 (.tmp 21) (.tmp 22) 3), none⟩])
 (.cond (.tmp 23) (.seq (.reg [⟨some 24, (.move (.tmp 6)), none⟩,
  ⟨some 25, (.move (.tmp 7)), none⟩,
  ⟨some 26, (.indexAddr 37 (.tmp 24) (.tmp 25)), none⟩,
  ⟨some 27, (.load 3 (.tmp 26)), none⟩,
  ⟨some 28, (.binOp .add 3 (.tmp 27) (.const (.int .i64 1)) 3), none⟩,
  ⟨some 29, (.indexAddr 37 (.tmp 24) (.tmp 25)), none⟩,
  ⟨none, (.store 3 (.tmp 29) (.tmp 28)), none⟩])
 (.seq (.reg [⟨some 30, (.move (.tmp 6)), none⟩,
  ⟨some 4, (.assign (.tmp 30)), none⟩,
  ⟨some 5, (.assign (.const (.bool true))), none⟩])
 .ret)) .skip))
 (.reg [⟨some 31, (.move (.tmp 6)), none⟩,
  ⟨some 32, (.move (.tmp 7)), none⟩,
  ⟨some 33, (.indexAddr 37 (.tmp 31) (.tmp 32)), none⟩,
  ⟨none, (.store 3 (.tmp 33) (.const (.int .i64 0))), none⟩])))
 (.reg [⟨some 16, (.move (.tmp 7)), none⟩,
  ⟨some 17, (.binOp .sub 3 (.tmp 16) (.const (.int .i64 1)) 3), none⟩,
  ⟨some 7, (.assign (.tmp 17)), none⟩])))
def c44_1 : ACode := (.seq (.reg [⟨some 34, (.move (.tmp 6)), none⟩,
  ⟨some 4, (.assign (.tmp 34)), none⟩,
  ⟨some 5, (.assign (.const (.bool false))), none⟩])
 .ret)
def c44 : ACode := (.seq (.reg [⟨some 4, (.assign (.const (.slice none 0 0))), none⟩,
  ⟨some 5, (.assign (.const (.bool false))), none⟩])
 (.seq (.reg [⟨some 8, (.buildSlice 37 0 #[]), none⟩,
  ⟨some 9, (.move (.tmp 0)), none⟩,
  ⟨some 10, (.call { callee := (.builtin .append), args := #[(.tmp 8), (.tmp 9)], argTypes := #[37, 37] }), none⟩,
  ⟨some 6, (.assign (.tmp 10)), none⟩])
 (.seqL (.seq (.reg [⟨some 11, (.move (.tmp 6)), none⟩,
  ⟨some 12, (.call { callee := (.builtin .len), args := #[(.tmp 11)], argTypes := #[37] }), none⟩,
  ⟨some 13, (.binOp .sub 3 (.tmp 12) (.const (.int .i64 1)) 3), none⟩,
  ⟨some 7, (.assign (.tmp 13)), none⟩])
 (.block 0 (.loop b44_1)))
 c44_1)))
theorem fd44 : FnD Try.prog 44 35 [(.tmp 4), (.tmp 5)] c44 := ⟨⟨Try.f44, Try.f44.body.getD .skip, Try.func44, by kernel_rfl, by kernel_rfl, by kernel_rfl, by kernel_rfl⟩⟩
/-! f45 triforium/triforiumref24.coeff -/
def c45 : ACode := (.seq (.reg [⟨some 2, (.box 39 (.tmp 0)), none⟩,
  ⟨some 4, (.assign (.const (.int .i64 0))), none⟩])
 (.seq (.seq (.reg [⟨some 5, (.move (.tmp 1)), none⟩,
  ⟨some 6, (.fieldAddr 39 (.tmp 2) 0), none⟩,
  ⟨some 7, (.load 37 (.tmp 6)), none⟩,
  ⟨some 8, (.call { callee := (.builtin .len), args := #[(.tmp 7)], argTypes := #[37] }), none⟩,
  ⟨some 9, (.binOp .lss 3 (.tmp 5) (.tmp 8) 3), none⟩])
 (.cond (.tmp 9) (.seq (.reg [⟨some 10, (.fieldAddr 39 (.tmp 2) 0), none⟩,
  ⟨some 11, (.load 37 (.tmp 10)), none⟩,
  ⟨some 12, (.move (.tmp 1)), none⟩,
  ⟨some 13, (.indexAddr 37 (.tmp 11) (.tmp 12)), none⟩,
  ⟨some 14, (.load 3 (.tmp 13)), none⟩,
  ⟨some 4, (.assign (.tmp 14)), none⟩])
 .ret) .skip))
 (.seq (.reg [⟨some 4, (.assign (.const (.int .i64 0))), none⟩])
 .ret)))
theorem fd45 : FnD Try.prog 45 15 [(.tmp 4)] c45 := ⟨⟨Try.f45, Try.f45.body.getD .skip, Try.func45, by kernel_rfl, by kernel_rfl, by kernel_rfl, by kernel_rfl⟩⟩
/-! f46 triforium/triforiumref24.combined -/
def c46 : ACode := (.seq (.reg [⟨some 3, (.box 39 (.tmp 0)), none⟩,
  ⟨some 4, (.box 39 (.tmp 1)), none⟩,
  ⟨some 6, (.alloc 39), none⟩])
 (.seq (.dreg (.tk ⟨some 11, (.fieldAddr 39 (.tmp 4) 0), none⟩
  (.tk ⟨some 12, (.load 37 (.tmp 11)), none⟩
  (.tk ⟨some 13, (.move (.tmp 2)), none⟩
  (.tk ⟨some 14, (.indexAddr 37 (.tmp 12) (.tmp 13)), none⟩
  (.tk ⟨some 15, (.load 3 (.tmp 14)), none⟩
  (.tk ⟨some 16, (.unOp .neg 3 (.tmp 15)), none⟩
  (.tk ⟨some 17, (.fieldAddr 39 (.tmp 3) 0), none⟩
  (.tk ⟨some 18, (.load 37 (.tmp 17)), none⟩
  (.tk ⟨some 19, (.move (.tmp 2)), none⟩
  (.tk ⟨some 20, (.indexAddr 37 (.tmp 18) (.tmp 19)), none⟩
  (.tk ⟨some 21, (.load 3 (.tmp 20)), none⟩
  (.tk ⟨some 7, (.assign (.tmp 16)), none⟩
  .fin)))))))))))) [⟨some 8, (.assign (.tmp 21)), none⟩])
 (.seq (.reg [⟨some 22, (.fieldAddr 39 (.tmp 3) 1), none⟩,
  ⟨some 23, (.load 3 (.tmp 22)), none⟩,
  ⟨some 24, (.move (.tmp 7)), none⟩,
  ⟨some 25, (.binOp .mul 3 (.tmp 23) (.tmp 24) 3), none⟩,
  ⟨some 26, (.fieldAddr 39 (.tmp 4) 1), none⟩,
  ⟨some 27, (.load 3 (.tmp 26)), none⟩,
  ⟨some 28, (.move (.tmp 8)), none⟩,
  ⟨some 29, (.binOp .mul 3 (.tmp 27) (.tmp 28) 3), none⟩,
  ⟨some 30, (.binOp .add 3 (.tmp 25) (.tmp 29) 3), none⟩,
  ⟨some 31, (.build 39 #[(1, (.tmp 30))]), none⟩,
  ⟨some 9, (.alloc 39), none⟩,
  ⟨none, (.store 39 (.tmp 9) (.tmp 31)), none⟩])
 (.seqL (.seq (.reg [⟨some 10, (.assign (.const (.int .i64 0))), none⟩])
 (.block 0 (.loop (.seq (.seq (.reg [⟨some 32, (.move (.tmp 10)), none⟩,
  ⟨some 33, (.fieldAddr 39 (.tmp 3) 0), none⟩,
  ⟨some 34, (.load 37 (.tmp 33)), none⟩,
  ⟨some 35, (.call { callee := (.builtin .len), args := #[(.tmp 34)], argTypes := #[37] }), none⟩,
  ⟨some 36, (.binOp .lss 3 (.tmp 32) (.tmp 35) 3), none⟩])
 (.cond (.tmp 36) .skip (.exit 0)))
 (.seq (.block 1 (.dreg (.tk ⟨some 39, (.fieldAddr 39 (.tmp 9) 0), none⟩
  (.tk ⟨some 40, (.load 37 (.tmp 39)), none⟩
  (.tk ⟨some 41, (.fieldAddr 39 (.tmp 3) 0), none⟩
  (.tk ⟨some 42, (.load 37 (.tmp 41)), none⟩
  (.tk ⟨some 43, (.move (.tmp 10)), none⟩
  (.tk ⟨some 44, (.indexAddr 37 (.tmp 42) (.tmp 43)), none⟩
  (.tk ⟨some 45, (.load 3 (.tmp 44)), none⟩
  (.tk ⟨some 46, (.move (.tmp 7)), none⟩
  (.tk ⟨some 47, (.binOp .mul 3 (.tmp 45) (.tmp 46) 3), none⟩
  (.tk ⟨some 48, (.fieldAddr 39 (.tmp 4) 0), none⟩
  (.tk ⟨some 49, (.load 37 (.tmp 48)), none⟩
  (.tk ⟨some 50, (.move (.tmp 10)), none⟩
  (.tk ⟨some 51, (.indexAddr 37 (.tmp 49) (.tmp 50)), none⟩
  (.tk ⟨some 52, (.load 3 (.tmp 51)), none⟩
  (.tk ⟨some 53, (.move (.tmp 8)), none⟩
  (.tk ⟨some 54, (.binOp .mul 3 (.tmp 52) (.tmp 53) 3), none⟩
  (.tk ⟨some 55, (.binOp .add 3 (.tmp 47) (.tmp 54) 3), none⟩
  (.one ⟨some 56, (.buildSlice 37 1 #[(0, (.tmp 55))]), none⟩
  .fin)))))))))))))))))) [⟨some 57, (.call { callee := (.builtin .append), args := #[(.tmp 40), (.tmp 56)], argTypes := #[37, 37] }), none⟩,
  ⟨some 58, (.fieldAddr 39 (.tmp 9) 0), none⟩,
  ⟨none, (.store 37 (.tmp 58) (.tmp 57)), none⟩]))
 (.reg [⟨some 37, (.move (.tmp 10)), none⟩,
  ⟨some 38, (.binOp .add 3 (.tmp 37) (.const (.int .i64 1)) 3), none⟩,
  ⟨some 10, (.assign (.tmp 38)), none⟩]))))))
 (.seq (.reg [⟨some 59, (.load 39 (.tmp 9)), none⟩,
  ⟨some 60, (.call { callee := (.value (.func 64)), args := #[(.tmp 59)], argTypes := #[39] }), none⟩,
  ⟨none, (.store 39 (.tmp 6) (.tmp 60)), none⟩])
 .ret)))))
theorem fd46 : FnD Try.prog 46 61 [(.cell 6 39)] c46 := ⟨⟨Try.f46, Try.f46.body.getD .skip, Try.func46, by kernel_rfl, by kernel_rfl, by kernel_rfl, by kernel_rfl⟩⟩
/-! f47 (*triforium/arith.derivation).make -/
def b47_1 : ACode := (.seq (.reg [⟨some 141, (.binOp .lss 3 (.tmp 140) (.tmp 139) 3), none⟩])
 (.seq (.cond (.tmp 141) .skip (.exit 1))
 (.seq (.block 2 (.seq (.reg [⟨some 142, (.move (.tmp 140)), none⟩,
  ⟨some 11, (.assign (.tmp 142)), none⟩])
 (.dreg (.tk ⟨some 143, (.fieldAddr 50 (.tmp 8) 0), none⟩
  (.tk ⟨some 144, (.load 37 (.tmp 143)), none⟩
  (.tk ⟨some 145, (.move (.tmp 11)), none⟩
  (.tk ⟨some 146, (.fieldAddr 50 (.tmp 9) 0), none⟩
  (.tk ⟨some 147, (.load 37 (.tmp 146)), none⟩
  (.tk ⟨some 148, (.move (.tmp 11)), none⟩
  (.tk ⟨some 149, (.indexAddr 37 (.tmp 147) (.tmp 148)), none⟩
  (.tk ⟨some 150, (.load 3 (.tmp 149)), none⟩
  (.tk ⟨some 151, (.fieldAddr 52 (.tmp 3) 3), none⟩
  (.tk ⟨some 152, (.load 3 (.tmp 151)), none⟩
  (.tk ⟨some 153, (.binOp .mul 3 (.tmp 150) (.tmp 152) 3), none⟩
  (.tk ⟨some 154, (.fieldAddr 50 (.tmp 10) 0), none⟩
  (.tk ⟨some 155, (.load 37 (.tmp 154)), none⟩
  (.tk ⟨some 156, (.move (.tmp 11)), none⟩
  (.tk ⟨some 157, (.indexAddr 37 (.tmp 155) (.tmp 156)), none⟩
  (.tk ⟨some 158, (.load 3 (.tmp 157)), none⟩
  (.tk ⟨some 159, (.fieldAddr 52 (.tmp 3) 4), none⟩
  (.tk ⟨some 160, (.load 3 (.tmp 159)), none⟩
  (.tk ⟨some 161, (.binOp .mul 3 (.tmp 158) (.tmp 160) 3), none⟩
  (.tk ⟨some 162, (.binOp .add 3 (.tmp 153) (.tmp 161) 3), none⟩
  .fin)))))))))))))))))))) [⟨some 163, (.indexAddr 37 (.tmp 144) (.tmp 145)), none⟩,
  ⟨none, (.store 3 (.tmp 163) (.tmp 162)), none⟩])))
 (.reg [⟨some 164, (.binOp .add 3 (.tmp 140) (.const (.int .i64 1)) 3), none⟩,
  ⟨some 140, (.move (.tmp 164)), none⟩]))))
def c47_1 : ACode := (.reg [⟨some 165, (.fieldAddr 50 (.tmp 9) 1), none⟩,
  ⟨some 166, (.load 3 (.tmp 165)), none⟩,
  ⟨some 167, (.fieldAddr 52 (.tmp 3) 3), none⟩,
  ⟨some 168, (.load 3 (.tmp 167)), none⟩,
  ⟨some 169, (.binOp .mul 3 (.tmp 166) (.tmp 168) 3), none⟩,
  ⟨some 170, (.fieldAddr 50 (.tmp 10) 1), none⟩,
  ⟨some 171, (.load 3 (.tmp 170)), none⟩,
  ⟨some 172, (.fieldAddr 52 (.tmp 3) 4), none⟩,
  ⟨some 173, (.load 3 (.tmp 172)), none⟩,
  ⟨some 174, (.binOp .mul 3 (.tmp 171) (.tmp 173) 3), none⟩,
  ⟨some 175, (.binOp .add 3 (.tmp 169) (.tmp 174) 3), none⟩,
  ⟨some 176, (.fieldAddr 50 (.tmp 8) 1), none⟩,
  ⟨none, (.store 3 (.tmp 176) (.tmp 175)), none⟩])
def b47_2 : ACode := (.seq (.reg [⟨some 215, (.binOp .lss 3 (.tmp 214) (.tmp 213) 3), none⟩])
 (.seq (.cond (.tmp 215) .skip (.exit 3))
 (.seq (.block 4 (.seq (.reg [⟨some 216, (.move (.tmp 214)), none⟩,
  ⟨some 217, (.indexAddr 37 (.tmp 212) (.tmp 214)), none⟩,
  ⟨some 218, (.load 3 (.tmp 217)), none⟩,
  ⟨some 13, (.assign (.tmp 216)), none⟩,
  ⟨some 14, (.assign (.tmp 218)), none⟩])
 (.seq (.seq (.reg [⟨some 219, (.move (.tmp 14)), none⟩,
  ⟨some 220, (.fieldAddr 52 (.tmp 3) 3), none⟩,
  ⟨some 221, (.load 3 (.tmp 220)), none⟩,
  ⟨some 222, (.binOp .rem 3 (.tmp 219) (.tmp 221) 3), none⟩,
  ⟨some 223, (.binOp .neq 3 (.tmp 222) (.const (.int .i64 0)) 3), none⟩])
 (.cond (.tmp 223) (.seq (.reg [⟨some 224, (.build 50 #[]), none⟩,
  ⟨none, (.store 50 (.tmp 4) (.tmp 224)), none⟩,
  ⟨some 5, (.assign (.const (.int .i64 260))), none⟩])
 .ret) .skip))
 (.dreg (.tk ⟨some 225, (.fieldAddr 50 (.tmp 8) 0), none⟩
  (.tk ⟨some 226, (.load 37 (.tmp 225)), none⟩
  (.tk ⟨some 227, (.move (.tmp 13)), none⟩
  (.tk ⟨some 228, (.move (.tmp 14)), none⟩
  (.tk ⟨some 229, (.fieldAddr 52 (.tmp 3) 3), none⟩
  (.tk ⟨some 230, (.load 3 (.tmp 229)), none⟩
  (.tk ⟨some 231, (.binOp .quo 3 (.tmp 228) (.tmp 230) 3), none⟩
  .fin))))))) [⟨some 232, (.indexAddr 37 (.tmp 226) (.tmp 227)), none⟩,
  ⟨none, (.store 3 (.tmp 232) (.tmp 231)), none⟩]))))
 (.reg [⟨some 233, (.binOp .add 3 (.tmp 214) (.const (.int .i64 1)) 3), none⟩,
  ⟨some 214, (.move (.tmp 233)), none⟩]))))
def c47_2 : ACode := (.reg [⟨some 234, (.fieldAddr 50 (.tmp 12) 1), none⟩,
  ⟨some 235, (.load 3 (.tmp 234)), none⟩,
  ⟨some 236, (.fieldAddr 52 (.tmp 3) 3), none⟩,
  ⟨some 237, (.load 3 (.tmp 236)), none⟩,
  ⟨some 238, (.call { callee := (.value (.func 68)), args := #[(.tmp 235), (.tmp 237)], argTypes := #[3, 3] }), none⟩,
  ⟨some 239, (.fieldAddr 50 (.tmp 8) 1), none⟩,
  ⟨none, (.store 3 (.tmp 239) (.tmp 238)), none⟩])
def c47_3 : ACode := (.seq (.reg [⟨some 15, (.assign (.func 69)), none⟩])
 (.seq (.seq (.reg [⟨some 240, (.move (.tmp 15)), none⟩,
  ⟨some 241, (.fieldAddr 50 (.tmp 8) 1), none⟩,
  ⟨some 242, (.load 3 (.tmp 241)), none⟩,
  ⟨some 243, (.call { callee := (.value (.tmp 240)), args := #[(.tmp 242)], argTypes := #[3] }), none⟩,
  ⟨some 244, (.move (.tmp 243)), none⟩,
  ⟨some 245, (.fieldAddr 50 (.tmp 8) 0), some (244, false)⟩,
  ⟨some 246, (.load 37 (.tmp 245)), some (244, false)⟩,
  ⟨some 247, (.move (.tmp 15)), some (244, false)⟩,
  ⟨some 248, (.call { callee := (.value (.func 16)), args := #[(.tmp 246), (.tmp 247)], argTypes := #[37, 41] }), some (244, false)⟩,
  ⟨some 249, (.pick (.tmp 244) (.const (.bool true)) (.tmp 248)), none⟩])
 (.cond (.tmp 249) (.seq (.reg [⟨some 250, (.build 50 #[]), none⟩,
  ⟨none, (.store 50 (.tmp 4) (.tmp 250)), none⟩,
  ⟨some 5, (.assign (.const (.int .i64 7))), none⟩])
 .ret) .skip))
 (.seq (.reg [⟨some 251, (.load 50 (.tmp 8)), none⟩,
  ⟨none, (.store 50 (.tmp 4) (.tmp 251)), none⟩,
  ⟨some 5, (.assign (.const (.int .i64 0))), none⟩])
 .ret)))
def c47 : ACode := (.seq (.reg [⟨some 2, (.box 90 (.tmp 0)), none⟩,
  ⟨some 3, (.box 52 (.tmp 1)), none⟩,
  ⟨some 4, (.alloc 50), none⟩,
  ⟨some 5, (.assign (.const (.int .i64 0))), none⟩])
 (.seq (.reg [⟨some 16, (.makeFunc (.func 65) #[] #[(.tmp 2)]), none⟩,
  ⟨some 6, (.assign (.tmp 16)), none⟩])
 (.seq (.reg [⟨some 7, (.assign (.func 66)), none⟩])
 (.seq (.reg [⟨some 17, (.load 90 (.tmp 2)), none⟩,
  ⟨some 18, (.nilCheck (.tmp 17)), none⟩,
  ⟨some 19, (.fieldAddr 74 (.tmp 18) 1), none⟩,
  ⟨some 20, (.load 3 (.tmp 19)), none⟩,
  ⟨some 21, (.makeSlice 37 (.tmp 20) (.tmp 20)), none⟩,
  ⟨some 22, (.build 50 #[(0, (.tmp 21))]), none⟩,
  ⟨some 8, (.alloc 50), none⟩,
  ⟨none, (.store 50 (.tmp 8) (.tmp 22)), none⟩])
 (.seqL (.block 0 (.seq (.dreg (.tk ⟨some 25, (.fieldAddr 52 (.tmp 3) 0), none⟩
  (.tk ⟨some 26, (.load 3 (.tmp 25)), none⟩
  (.tk ⟨some 27, (.binOp .eql 3 (.tmp 26) (.const (.int .i64 1)) 3), none⟩
  (.tk ⟨some 28, (.move (.tmp 27)), none⟩
  (.tk ⟨some 29, (.load 52 (.tmp 3)), some (28, true)⟩
  (.tk ⟨some 30, (.fieldAddr 52 (.tmp 3) 1), some (28, true)⟩
  (.tk ⟨some 31, (.load 3 (.tmp 30)), some (28, true)⟩
  (.tk ⟨some 32, (.build 52 #[(0, (.const (.int .i64 1))), (1, (.tmp 31))]), some (28, true)⟩
  (.tk ⟨some 33, (.binOp .eql 52 (.tmp 29) (.tmp 32) 52), some (28, true)⟩
  (.tk ⟨some 34, (.pick (.tmp 28) (.tmp 33) (.const (.bool false))), none⟩
  (.tk ⟨some 35, (.move (.tmp 34)), none⟩
  (.tk ⟨some 36, (.fieldAddr 52 (.tmp 3) 1), some (35, true)⟩
  (.tk ⟨some 37, (.load 3 (.tmp 36)), some (35, true)⟩
  (.tk ⟨some 38, (.binOp .geq 3 (.tmp 37) (.const (.int .i64 0)) 3), some (35, true)⟩
  (.tk ⟨some 39, (.pick (.tmp 35) (.tmp 38) (.const (.bool false))), none⟩
  (.tk ⟨some 40, (.move (.tmp 39)), none⟩
  (.tk ⟨some 41, (.fieldAddr 52 (.tmp 3) 1), some (40, true)⟩
  (.tk ⟨some 42, (.load 3 (.tmp 41)), some (40, true)⟩
  (.tk ⟨some 43, (.load 90 (.tmp 2)), some (40, true)⟩
  (.tk ⟨some 44, (.nilCheck (.tmp 43)), some (40, true)⟩
  (.tk ⟨some 45, (.fieldAddr 74 (.tmp 44) 0), some (40, true)⟩
  (.tk ⟨some 46, (.load 31 (.tmp 45)), some (40, true)⟩
  (.tk ⟨some 47, (.call { callee := (.builtin .len), args := #[(.tmp 46)], argTypes := #[31] }), some (40, true)⟩
  .fin))))))))))))))))))))))) [⟨some 48, (.binOp .lss 3 (.tmp 42) (.tmp 47) 3), some (40, true)⟩,
  ⟨some 49, (.pick (.tmp 40) (.tmp 48) (.const (.bool false))), none⟩,
  ⟨some 24, (.assign (.tmp 49)), none⟩])
 (.cond (.tmp 24) (.dreg (.tk ⟨some 50, (.load 90 (.tmp 2)), none⟩
  (.tk ⟨some 51, (.nilCheck (.tmp 50)), none⟩
  (.tk ⟨some 52, (.fieldAddr 74 (.tmp 51) 0), none⟩
  (.tk ⟨some 53, (.load 31 (.tmp 52)), none⟩
  (.tk ⟨some 54, (.fieldAddr 52 (.tmp 3) 1), none⟩
  (.tk ⟨some 55, (.load 3 (.tmp 54)), none⟩
  (.tk ⟨some 56, (.indexAddr 31 (.tmp 53) (.tmp 55)), none⟩
  (.tk ⟨some 57, (.load 50 (.tmp 56)), none⟩
  (.tk ⟨some 58, (.load 90 (.tmp 2)), none⟩
  (.tk ⟨some 59, (.nilCheck (.tmp 58)), none⟩
  (.tk ⟨some 60, (.fieldAddr 74 (.tmp 59) 1), none⟩
  (.tk ⟨some 61, (.load 3 (.tmp 60)), none⟩
  .fin)))))))))))) [⟨some 62, (.call { callee := (.value (.func 67)), args := #[(.tmp 57), (.tmp 61)], argTypes := #[50, 3] }), none⟩,
  ⟨none, (.store 50 (.tmp 8) (.tmp 62)), none⟩]) (.seq (.dreg (.tk ⟨some 64, (.fieldAddr 52 (.tmp 3) 0), none⟩
  (.tk ⟨some 65, (.load 3 (.tmp 64)), none⟩
  (.tk ⟨some 66, (.binOp .eql 3 (.tmp 65) (.const (.int .i64 2)) 3), none⟩
  (.tk ⟨some 67, (.move (.tmp 66)), none⟩
  (.tk ⟨some 68, (.load 52 (.tmp 3)), some (67, true)⟩
  (.tk ⟨some 69, (.fieldAddr 52 (.tmp 3) 1), some (67, true)⟩
  (.tk ⟨some 70, (.load 3 (.tmp 69)), some (67, true)⟩
  (.tk ⟨some 71, (.build 52 #[(0, (.const (.int .i64 2))), (1, (.tmp 70))]), some (67, true)⟩
  (.tk ⟨some 72, (.binOp .eql 52 (.tmp 68) (.tmp 71) 52), some (67, true)⟩
  (.tk ⟨some 73, (.pick (.tmp 67) (.tmp 72) (.const (.bool false))), none⟩
  (.tk ⟨some 74, (.move (.tmp 73)), none⟩
  (.tk ⟨some 75, (.fieldAddr 52 (.tmp 3) 1), some (74, true)⟩
  (.tk ⟨some 76, (.load 3 (.tmp 75)), some (74, true)⟩
  (.tk ⟨some 77, (.binOp .geq 3 (.tmp 76) (.const (.int .i64 0)) 3), some (74, true)⟩
  (.tk ⟨some 78, (.pick (.tmp 74) (.tmp 77) (.const (.bool false))), none⟩
  (.tk ⟨some 79, (.move (.tmp 78)), none⟩
  (.tk ⟨some 80, (.fieldAddr 52 (.tmp 3) 1), some (79, true)⟩
  (.tk ⟨some 81, (.load 3 (.tmp 80)), some (79, true)⟩
  (.tk ⟨some 82, (.load 90 (.tmp 2)), some (79, true)⟩
  (.tk ⟨some 83, (.nilCheck (.tmp 82)), some (79, true)⟩
  (.tk ⟨some 84, (.fieldAddr 74 (.tmp 83) 1), some (79, true)⟩
  (.tk ⟨some 85, (.load 3 (.tmp 84)), some (79, true)⟩
  .fin)))))))))))))))))))))) [⟨some 86, (.binOp .lss 3 (.tmp 81) (.tmp 85) 3), some (79, true)⟩,
  ⟨some 87, (.pick (.tmp 79) (.tmp 86) (.const (.bool false))), none⟩,
  ⟨some 63, (.assign (.tmp 87)), none⟩])
 (.cond (.tmp 63) (.reg [⟨some 88, (.fieldAddr 50 (.tmp 8) 0), none⟩,
  ⟨some 89, (.load 37 (.tmp 88)), none⟩,
  ⟨some 90, (.fieldAddr 52 (.tmp 3) 1), none⟩,
  ⟨some 91, (.load 3 (.tmp 90)), none⟩,
  ⟨some 92, (.indexAddr 37 (.tmp 89) (.tmp 91)), none⟩,
  ⟨none, (.store 3 (.tmp 92) (.const (.int .i64 (-1)))), none⟩]) (.seq (.reg [⟨some 94, (.fieldAddr 52 (.tmp 3) 0), none⟩,
  ⟨some 95, (.load 3 (.tmp 94)), none⟩,
  ⟨some 96, (.binOp .eql 3 (.tmp 95) (.const (.int .i64 3)) 3), none⟩,
  ⟨some 97, (.move (.tmp 96)), none⟩,
  ⟨some 98, (.move (.tmp 6)), some (97, true)⟩,
  ⟨some 99, (.fieldAddr 52 (.tmp 3) 1), some (97, true)⟩,
  ⟨some 100, (.load 3 (.tmp 99)), some (97, true)⟩,
  ⟨some 101, (.call { callee := (.value (.tmp 98)), args := #[(.tmp 100)], argTypes := #[3] }), some (97, true)⟩,
  ⟨some 102, (.pick (.tmp 97) (.tmp 101) (.const (.bool false))), none⟩,
  ⟨some 103, (.move (.tmp 102)), none⟩,
  ⟨some 104, (.move (.tmp 6)), some (103, true)⟩,
  ⟨some 105, (.fieldAddr 52 (.tmp 3) 2), some (103, true)⟩,
  ⟨some 106, (.load 3 (.tmp 105)), some (103, true)⟩,
  ⟨some 107, (.call { callee := (.value (.tmp 104)), args := #[(.tmp 106)], argTypes := #[3] }), some (103, true)⟩,
  ⟨some 108, (.pick (.tmp 103) (.tmp 107) (.const (.bool false))), none⟩,
  ⟨some 109, (.move (.tmp 108)), none⟩,
  ⟨some 110, (.move (.tmp 7)), some (109, true)⟩,
  ⟨some 111, (.fieldAddr 52 (.tmp 3) 3), some (109, true)⟩,
  ⟨some 112, (.load 3 (.tmp 111)), some (109, true)⟩,
  ⟨some 113, (.call { callee := (.value (.tmp 110)), args := #[(.tmp 112)], argTypes := #[3] }), some (109, true)⟩,
  ⟨some 114, (.pick (.tmp 109) (.tmp 113) (.const (.bool false))), none⟩,
  ⟨some 115, (.move (.tmp 114)), none⟩,
  ⟨some 116, (.move (.tmp 7)), some (115, true)⟩,
  ⟨some 117, (.fieldAddr 52 (.tmp 3) 4), some (115, true)⟩,
  ⟨some 118, (.load 3 (.tmp 117)), some (115, true)⟩,
  ⟨some 119, (.call { callee := (.value (.tmp 116)), args := #[(.tmp 118)], argTypes := #[3] }), some (115, true)⟩,
  ⟨some 120, (.pick (.tmp 115) (.tmp 119) (.const (.bool false))), none⟩,
  ⟨some 93, (.assign (.tmp 120)), none⟩])
 (.cond (.tmp 93) (.seq (.dreg (.tk ⟨some 121, (.load 90 (.tmp 2)), none⟩
  (.tk ⟨some 122, (.nilCheck (.tmp 121)), none⟩
  (.tk ⟨some 123, (.fieldAddr 74 (.tmp 122) 2), none⟩
  (.tk ⟨some 124, (.load 31 (.tmp 123)), none⟩
  (.tk ⟨some 125, (.fieldAddr 52 (.tmp 3) 1), none⟩
  (.tk ⟨some 126, (.load 3 (.tmp 125)), none⟩
  (.tk ⟨some 127, (.indexAddr 31 (.tmp 124) (.tmp 126)), none⟩
  (.tk ⟨some 128, (.load 50 (.tmp 127)), none⟩
  (.tk ⟨some 129, (.load 90 (.tmp 2)), none⟩
  (.tk ⟨some 130, (.nilCheck (.tmp 129)), none⟩
  (.tk ⟨some 131, (.fieldAddr 74 (.tmp 130) 2), none⟩
  (.tk ⟨some 132, (.load 31 (.tmp 131)), none⟩
  (.tk ⟨some 133, (.fieldAddr 52 (.tmp 3) 2), none⟩
  (.tk ⟨some 134, (.load 3 (.tmp 133)), none⟩
  (.tk ⟨some 135, (.indexAddr 31 (.tmp 132) (.tmp 134)), none⟩
  (.tk ⟨some 136, (.load 50 (.tmp 135)), none⟩
  (.two ⟨some 9, (.alloc 50), none⟩
  (.one ⟨some 10, (.alloc 50), none⟩
  (.one ⟨none, (.store 50 (.tmp 9) (.tmp 128)), none⟩
  .fin))
  ⟨some 10, (.alloc 50), none⟩
  (.one ⟨some 9, (.alloc 50), none⟩
  (.one ⟨none, (.store 50 (.tmp 9) (.tmp 128)), none⟩
  .fin))))))))))))))))))) [⟨none, (.store 50 (.tmp 10) (.tmp 136)), none⟩])
 (.seqL (.seq (.reg [⟨some 137, (.fieldAddr 50 (.tmp 8) 0), none⟩,
  ⟨some 138, (.load 37 (.tmp 137)), none⟩,
  ⟨some 139, (.call { callee := (.builtin .len), args := #[(.tmp 138)], argTypes := #[37] }), none⟩,
  ⟨some 140, (.move (.const (.int .i64 0))), none⟩])
 (.block 1 (.loop b47_1)))
 c47_1)) (.seq (.reg [⟨some 178, (.fieldAddr 52 (.tmp 3) 0), none⟩,
  ⟨some 179, (.load 3 (.tmp 178)), none⟩,
  ⟨some 180, (.binOp .eql 3 (.tmp 179) (.const (.int .i64 4)) 3), none⟩,
  ⟨some 181, (.move (.tmp 180)), none⟩,
  ⟨some 182, (.move (.tmp 6)), some (181, true)⟩,
  ⟨some 183, (.fieldAddr 52 (.tmp 3) 1), some (181, true)⟩,
  ⟨some 184, (.load 3 (.tmp 183)), some (181, true)⟩,
  ⟨some 185, (.call { callee := (.value (.tmp 182)), args := #[(.tmp 184)], argTypes := #[3] }), some (181, true)⟩,
  ⟨some 186, (.pick (.tmp 181) (.tmp 185) (.const (.bool false))), none⟩,
  ⟨some 187, (.move (.tmp 186)), none⟩,
  ⟨some 188, (.move (.tmp 7)), some (187, true)⟩,
  ⟨some 189, (.fieldAddr 52 (.tmp 3) 3), some (187, true)⟩,
  ⟨some 190, (.load 3 (.tmp 189)), some (187, true)⟩,
  ⟨some 191, (.call { callee := (.value (.tmp 188)), args := #[(.tmp 190)], argTypes := #[3] }), some (187, true)⟩,
  ⟨some 192, (.pick (.tmp 187) (.tmp 191) (.const (.bool false))), none⟩,
  ⟨some 193, (.move (.tmp 192)), none⟩,
  ⟨some 194, (.fieldAddr 52 (.tmp 3) 2), some (193, true)⟩,
  ⟨some 195, (.load 3 (.tmp 194)), some (193, true)⟩,
  ⟨some 196, (.binOp .eql 3 (.tmp 195) (.const (.int .i64 0)) 3), some (193, true)⟩,
  ⟨some 197, (.pick (.tmp 193) (.tmp 196) (.const (.bool false))), none⟩,
  ⟨some 198, (.move (.tmp 197)), none⟩,
  ⟨some 199, (.fieldAddr 52 (.tmp 3) 4), some (198, true)⟩,
  ⟨some 200, (.load 3 (.tmp 199)), some (198, true)⟩,
  ⟨some 201, (.binOp .eql 3 (.tmp 200) (.const (.int .i64 0)) 3), some (198, true)⟩,
  ⟨some 202, (.pick (.tmp 198) (.tmp 201) (.const (.bool false))), none⟩,
  ⟨some 177, (.assign (.tmp 202)), none⟩])
 (.cond (.tmp 177) (.seq (.dreg (.tk ⟨some 203, (.load 90 (.tmp 2)), none⟩
  (.tk ⟨some 204, (.nilCheck (.tmp 203)), none⟩
  (.tk ⟨some 205, (.fieldAddr 74 (.tmp 204) 2), none⟩
  (.tk ⟨some 206, (.load 31 (.tmp 205)), none⟩
  (.tk ⟨some 207, (.fieldAddr 52 (.tmp 3) 1), none⟩
  (.tk ⟨some 208, (.load 3 (.tmp 207)), none⟩
  (.tk ⟨some 209, (.indexAddr 31 (.tmp 206) (.tmp 208)), none⟩
  (.tk ⟨some 210, (.load 50 (.tmp 209)), none⟩
  (.one ⟨some 12, (.alloc 50), none⟩
  .fin))))))))) [⟨none, (.store 50 (.tmp 12) (.tmp 210)), none⟩])
 (.seqL (.seq (.reg [⟨some 211, (.fieldAddr 50 (.tmp 12) 0), none⟩,
  ⟨some 212, (.load 37 (.tmp 211)), none⟩,
  ⟨some 213, (.call { callee := (.builtin .len), args := #[(.tmp 212)], argTypes := #[37] }), none⟩,
  ⟨some 214, (.move (.const (.int .i64 0))), none⟩])
 (.block 3 (.loop b47_2)))
 c47_2)) (.seq (.reg [⟨some 23, (.build 50 #[]), none⟩,
  ⟨none, (.store 50 (.tmp 4) (.tmp 23)), none⟩,
  ⟨some 5, (.assign (.const (.int .i64 260))), none⟩])
 .ret))))))))))
 c47_3)))))
theorem fd47 : FnD Try.prog 47 252 [(.cell 4 50), (.tmp 5)] c47 := ⟨⟨Try.f47, Try.f47.body.getD .skip, Try.func47, by kernel_rfl, by kernel_rfl, by kernel_rfl, by kernel_rfl⟩⟩
/-! f48 triforium/arith.Holds$1 -/
/-! f49 triforium/arith.fulfilled -/
def c49 : ACode := (.seq (.reg [⟨some 3, (.box 37 (.tmp 1)), none⟩,
  ⟨some 4, (.assign (.const (.bool false))), none⟩])
 (.seq (.reg [⟨some 5, (.move (.tmp 0)), none⟩,
  ⟨some 6, (.makeFunc (.func 71) #[] #[(.tmp 3)]), none⟩,
  ⟨some 7, (.call { callee := (.value (.func 70)), args := #[(.tmp 5), (.tmp 6)], argTypes := #[31, 114] }), none⟩,
  ⟨some 8, (.unOp .not 4 (.tmp 7)), none⟩,
  ⟨some 4, (.assign (.tmp 8)), none⟩])
 .ret))
theorem fd49 : FnD Try.prog 49 9 [(.tmp 4)] c49 := ⟨⟨Try.f49, Try.f49.body.getD .skip, Try.func49, by kernel_rfl, by kernel_rfl, by kernel_rfl, by kernel_rfl⟩⟩
/-! f50 triforium/triforiumref24.made -/
def b50_1 : ACode := (.seq (.seq (.reg [⟨some 53, (.move (.tmp 12)), none⟩,
  ⟨some 54, (.move (.tmp 3)), none⟩,
  ⟨some 55, (.binOp .lss 3 (.tmp 53) (.tmp 54) 3), none⟩])
 (.cond (.tmp 55) .skip (.exit 1)))
 (.seq (.block 2 (.dreg (.tk ⟨some 58, (.fieldAddr 39 (.tmp 10) 0), none⟩
  (.tk ⟨some 59, (.load 37 (.tmp 58)), none⟩
  (.tk ⟨some 60, (.move (.tmp 0)), none⟩
  (.tk ⟨some 61, (.fieldAddr 83 (.tmp 6) 1), none⟩
  (.tk ⟨some 62, (.load 3 (.tmp 61)), none⟩
  (.tk ⟨some 63, (.indexAddr 22 (.tmp 60) (.tmp 62)), none⟩
  (.tk ⟨some 64, (.load 39 (.tmp 63)), none⟩
  (.tk ⟨some 65, (.move (.tmp 12)), none⟩
  (.one ⟨some 66, (.call { callee := (.value (.func 45)), args := #[(.tmp 64), (.tmp 65)], argTypes := #[39, 3] }), none⟩
  (.one ⟨some 67, (.buildSlice 37 1 #[(0, (.tmp 66))]), none⟩
  .fin)))))))))) [⟨some 68, (.call { callee := (.builtin .append), args := #[(.tmp 59), (.tmp 67)], argTypes := #[37, 37] }), none⟩,
  ⟨some 69, (.fieldAddr 39 (.tmp 10) 0), none⟩,
  ⟨none, (.store 37 (.tmp 69) (.tmp 68)), none⟩]))
 (.reg [⟨some 56, (.move (.tmp 12)), none⟩,
  ⟨some 57, (.binOp .add 3 (.tmp 56) (.const (.int .i64 1)) 3), none⟩,
  ⟨some 12, (.assign (.tmp 57)), none⟩])))
def c50_1 : ACode := (.reg [⟨some 70, (.move (.tmp 0)), none⟩,
  ⟨some 71, (.fieldAddr 83 (.tmp 6) 1), none⟩,
  ⟨some 72, (.load 3 (.tmp 71)), none⟩,
  ⟨some 73, (.indexAddr 22 (.tmp 70) (.tmp 72)), none⟩,
  ⟨some 74, (.fieldAddr 39 (.tmp 73) 1), none⟩,
  ⟨some 75, (.load 3 (.tmp 74)), none⟩,
  ⟨some 76, (.fieldAddr 39 (.tmp 10) 1), none⟩,
  ⟨none, (.store 3 (.tmp 76) (.tmp 75)), none⟩])
def b50_2 : ACode := (.seq (.seq (.reg [⟨some 104, (.move (.tmp 13)), none⟩,
  ⟨some 105, (.move (.tmp 3)), none⟩,
  ⟨some 106, (.binOp .lss 3 (.tmp 104) (.tmp 105) 3), none⟩])
 (.cond (.tmp 106) .skip (.exit 3)))
 (.seq (.block 4 (.seq (.reg [⟨some 14, (.assign (.const (.int .i64 0))), none⟩])
 (.seq (.seq (.reg [⟨some 109, (.move (.tmp 13)), none⟩,
  ⟨some 110, (.fieldAddr 83 (.tmp 6) 1), none⟩,
  ⟨some 111, (.load 3 (.tmp 110)), none⟩,
  ⟨some 112, (.binOp .eql 3 (.tmp 109) (.tmp 111) 3), none⟩])
 (.cond (.tmp 112) (.reg [⟨some 14, (.assign (.const (.int .i64 (-1)))), none⟩]) .skip))
 (.reg [⟨some 113, (.fieldAddr 39 (.tmp 10) 0), none⟩,
  ⟨some 114, (.load 37 (.tmp 113)), none⟩,
  ⟨some 115, (.move (.tmp 14)), none⟩,
  ⟨some 116, (.buildSlice 37 1 #[(0, (.tmp 115))]), none⟩,
  ⟨some 117, (.call { callee := (.builtin .append), args := #[(.tmp 114), (.tmp 116)], argTypes := #[37, 37] }), none⟩,
  ⟨some 118, (.fieldAddr 39 (.tmp 10) 0), none⟩,
  ⟨none, (.store 37 (.tmp 118) (.tmp 117)), none⟩]))))
 (.reg [⟨some 107, (.move (.tmp 13)), none⟩,
  ⟨some 108, (.binOp .add 3 (.tmp 107) (.const (.int .i64 1)) 3), none⟩,
  ⟨some 13, (.assign (.tmp 108)), none⟩])))
def b50_3 : ACode := (.seq (.seq (.reg [⟨some 162, (.move (.tmp 15)), none⟩,
  ⟨some 163, (.move (.tmp 3)), none⟩,
  ⟨some 164, (.binOp .lss 3 (.tmp 162) (.tmp 163) 3), none⟩])
 (.cond (.tmp 164) .skip (.exit 5)))
 (.seq (.block 6 (.dreg (.tk ⟨some 167, (.fieldAddr 39 (.tmp 10) 0), none⟩
  (.tk ⟨some 168, (.load 37 (.tmp 167)), none⟩
  (.tk ⟨some 169, (.move (.tmp 1)), none⟩
  (.tk ⟨some 170, (.fieldAddr 83 (.tmp 6) 1), none⟩
  (.tk ⟨some 171, (.load 3 (.tmp 170)), none⟩
  (.tk ⟨some 172, (.indexAddr 22 (.tmp 169) (.tmp 171)), none⟩
  (.tk ⟨some 173, (.fieldAddr 39 (.tmp 172) 0), none⟩
  (.tk ⟨some 174, (.load 37 (.tmp 173)), none⟩
  (.tk ⟨some 175, (.move (.tmp 15)), none⟩
  (.tk ⟨some 176, (.indexAddr 37 (.tmp 174) (.tmp 175)), none⟩
  (.tk ⟨some 177, (.load 3 (.tmp 176)), none⟩
  (.tk ⟨some 178, (.fieldAddr 83 (.tmp 6) 3), none⟩
  (.tk ⟨some 179, (.load 3 (.tmp 178)), none⟩
  (.tk ⟨some 180, (.binOp .mul 3 (.tmp 177) (.tmp 179) 3), none⟩
  (.tk ⟨some 181, (.move (.tmp 1)), none⟩
  (.tk ⟨some 182, (.fieldAddr 83 (.tmp 6) 2), none⟩
  (.tk ⟨some 183, (.load 3 (.tmp 182)), none⟩
  (.tk ⟨some 184, (.indexAddr 22 (.tmp 181) (.tmp 183)), none⟩
  (.tk ⟨some 185, (.fieldAddr 39 (.tmp 184) 0), none⟩
  (.tk ⟨some 186, (.load 37 (.tmp 185)), none⟩
  (.tk ⟨some 187, (.move (.tmp 15)), none⟩
  (.tk ⟨some 188, (.indexAddr 37 (.tmp 186) (.tmp 187)), none⟩
  (.tk ⟨some 189, (.load 3 (.tmp 188)), none⟩
  (.tk ⟨some 190, (.fieldAddr 83 (.tmp 6) 4), none⟩
  (.tk ⟨some 191, (.load 3 (.tmp 190)), none⟩
  (.tk ⟨some 192, (.binOp .mul 3 (.tmp 189) (.tmp 191) 3), none⟩
  (.tk ⟨some 193, (.binOp .add 3 (.tmp 180) (.tmp 192) 3), none⟩
  (.one ⟨some 194, (.buildSlice 37 1 #[(0, (.tmp 193))]), none⟩
  .fin)))))))))))))))))))))))))))) [⟨some 195, (.call { callee := (.builtin .append), args := #[(.tmp 168), (.tmp 194)], argTypes := #[37, 37] }), none⟩,
  ⟨some 196, (.fieldAddr 39 (.tmp 10) 0), none⟩,
  ⟨none, (.store 37 (.tmp 196) (.tmp 195)), none⟩]))
 (.reg [⟨some 165, (.move (.tmp 15)), none⟩,
  ⟨some 166, (.binOp .add 3 (.tmp 165) (.const (.int .i64 1)) 3), none⟩,
  ⟨some 15, (.assign (.tmp 166)), none⟩])))
def c50_2 : ACode := (.dreg (.tk ⟨some 197, (.move (.tmp 1)), none⟩
  (.tk ⟨some 198, (.fieldAddr 83 (.tmp 6) 1), none⟩
  (.tk ⟨some 199, (.load 3 (.tmp 198)), none⟩
  (.tk ⟨some 200, (.indexAddr 22 (.tmp 197) (.tmp 199)), none⟩
  (.tk ⟨some 201, (.fieldAddr 39 (.tmp 200) 1), none⟩
  (.tk ⟨some 202, (.load 3 (.tmp 201)), none⟩
  (.tk ⟨some 203, (.fieldAddr 83 (.tmp 6) 3), none⟩
  (.tk ⟨some 204, (.load 3 (.tmp 203)), none⟩
  (.tk ⟨some 205, (.binOp .mul 3 (.tmp 202) (.tmp 204) 3), none⟩
  (.tk ⟨some 206, (.move (.tmp 1)), none⟩
  (.tk ⟨some 207, (.fieldAddr 83 (.tmp 6) 2), none⟩
  (.tk ⟨some 208, (.load 3 (.tmp 207)), none⟩
  (.tk ⟨some 209, (.indexAddr 22 (.tmp 206) (.tmp 208)), none⟩
  (.tk ⟨some 210, (.fieldAddr 39 (.tmp 209) 1), none⟩
  (.tk ⟨some 211, (.load 3 (.tmp 210)), none⟩
  (.tk ⟨some 212, (.fieldAddr 83 (.tmp 6) 4), none⟩
  (.tk ⟨some 213, (.load 3 (.tmp 212)), none⟩
  (.tk ⟨some 214, (.binOp .mul 3 (.tmp 211) (.tmp 213) 3), none⟩
  .fin)))))))))))))))))) [⟨some 215, (.binOp .add 3 (.tmp 205) (.tmp 214) 3), none⟩,
  ⟨some 216, (.fieldAddr 39 (.tmp 10) 1), none⟩,
  ⟨none, (.store 3 (.tmp 216) (.tmp 215)), none⟩])
def b50_4 : ACode := (.seq (.seq (.reg [⟨some 249, (.move (.tmp 16)), none⟩,
  ⟨some 250, (.move (.tmp 3)), none⟩,
  ⟨some 251, (.binOp .lss 3 (.tmp 249) (.tmp 250) 3), none⟩])
 (.cond (.tmp 251) .skip (.exit 7)))
 (.seq (.block 8 (.seq (.reg [⟨some 254, (.move (.tmp 1)), none⟩,
  ⟨some 255, (.fieldAddr 83 (.tmp 6) 1), none⟩,
  ⟨some 256, (.load 3 (.tmp 255)), none⟩,
  ⟨some 257, (.indexAddr 22 (.tmp 254) (.tmp 256)), none⟩,
  ⟨some 258, (.fieldAddr 39 (.tmp 257) 0), none⟩,
  ⟨some 259, (.load 37 (.tmp 258)), none⟩,
  ⟨some 260, (.move (.tmp 16)), none⟩,
  ⟨some 261, (.indexAddr 37 (.tmp 259) (.tmp 260)), none⟩,
  ⟨some 262, (.load 3 (.tmp 261)), none⟩,
  ⟨some 17, (.assign (.tmp 262)), none⟩])
 (.seq (.seq (.reg [⟨some 263, (.move (.tmp 17)), none⟩,
  ⟨some 264, (.fieldAddr 83 (.tmp 6) 3), none⟩,
  ⟨some 265, (.load 3 (.tmp 264)), none⟩,
  ⟨some 266, (.binOp .rem 3 (.tmp 263) (.tmp 265) 3), none⟩,
  ⟨some 267, (.binOp .neq 3 (.tmp 266) (.const (.int .i64 0)) 3), none⟩])
 (.cond (.tmp 267) (.seq (.reg [⟨some 268, (.build 39 #[]), none⟩,
  ⟨none, (.store 39 (.tmp 8) (.tmp 268)), none⟩,
  ⟨some 9, (.assign (.const (.int .i64 260))), none⟩])
 .ret) .skip))
 (.dreg (.tk ⟨some 269, (.fieldAddr 39 (.tmp 10) 0), none⟩
  (.tk ⟨some 270, (.load 37 (.tmp 269)), none⟩
  (.tk ⟨some 271, (.move (.tmp 17)), none⟩
  (.tk ⟨some 272, (.fieldAddr 83 (.tmp 6) 3), none⟩
  (.tk ⟨some 273, (.load 3 (.tmp 272)), none⟩
  (.tk ⟨some 274, (.binOp .quo 3 (.tmp 271) (.tmp 273) 3), none⟩
  (.one ⟨some 275, (.buildSlice 37 1 #[(0, (.tmp 274))]), none⟩
  .fin))))))) [⟨some 276, (.call { callee := (.builtin .append), args := #[(.tmp 270), (.tmp 275)], argTypes := #[37, 37] }), none⟩,
  ⟨some 277, (.fieldAddr 39 (.tmp 10) 0), none⟩,
  ⟨none, (.store 37 (.tmp 277) (.tmp 276)), none⟩]))))
 (.reg [⟨some 252, (.move (.tmp 16)), none⟩,
  ⟨some 253, (.binOp .add 3 (.tmp 252) (.const (.int .i64 1)) 3), none⟩,
  ⟨some 16, (.assign (.tmp 253)), none⟩])))
def c50_3 : ACode := (.dreg (.tk ⟨some 278, (.move (.tmp 1)), none⟩
  (.tk ⟨some 279, (.fieldAddr 83 (.tmp 6) 1), none⟩
  (.tk ⟨some 280, (.load 3 (.tmp 279)), none⟩
  (.tk ⟨some 281, (.indexAddr 22 (.tmp 278) (.tmp 280)), none⟩
  (.tk ⟨some 282, (.fieldAddr 39 (.tmp 281) 1), none⟩
  (.tk ⟨some 283, (.load 3 (.tmp 282)), none⟩
  (.tk ⟨some 284, (.fieldAddr 83 (.tmp 6) 3), none⟩
  (.tk ⟨some 285, (.load 3 (.tmp 284)), none⟩
  .fin)))))))) [⟨some 286, (.call { callee := (.value (.func 72)), args := #[(.tmp 283), (.tmp 285)], argTypes := #[3, 3] }), none⟩,
  ⟨some 287, (.fieldAddr 39 (.tmp 10) 1), none⟩,
  ⟨none, (.store 3 (.tmp 287) (.tmp 286)), none⟩])
def b50_5 : ACode := (.seq (.seq (.reg [⟨some 293, (.move (.tmp 18)), none⟩,
  ⟨some 294, (.move (.tmp 3)), none⟩,
  ⟨some 295, (.binOp .lss 3 (.tmp 293) (.tmp 294) 3), none⟩])
 (.cond (.tmp 295) .skip (.exit 9)))
 (.seq (.block 10 (.seq (.reg [⟨some 298, (.fieldAddr 39 (.tmp 10) 0), none⟩,
  ⟨some 299, (.load 37 (.tmp 298)), none⟩,
  ⟨some 300, (.move (.tmp 18)), none⟩,
  ⟨some 301, (.indexAddr 37 (.tmp 299) (.tmp 300)), none⟩,
  ⟨some 302, (.load 3 (.tmp 301)), none⟩,
  ⟨some 303, (.call { callee := (.value (.func 55)), args := #[(.tmp 302), (.const (.int .i64 1000000000000))], argTypes := #[3, 3] }), none⟩,
  ⟨some 304, (.unOp .not 4 (.tmp 303)), none⟩])
 (.cond (.tmp 304) (.seq (.reg [⟨some 305, (.build 39 #[]), none⟩,
  ⟨none, (.store 39 (.tmp 8) (.tmp 305)), none⟩,
  ⟨some 9, (.assign (.const (.int .i64 7))), none⟩])
 .ret) .skip)))
 (.reg [⟨some 296, (.move (.tmp 18)), none⟩,
  ⟨some 297, (.binOp .add 3 (.tmp 296) (.const (.int .i64 1)) 3), none⟩,
  ⟨some 18, (.assign (.tmp 297)), none⟩])))
def c50_4 : ACode := (.seq (.reg [⟨some 306, (.load 39 (.tmp 10)), none⟩,
  ⟨none, (.store 39 (.tmp 8) (.tmp 306)), none⟩,
  ⟨some 9, (.assign (.const (.int .i64 0))), none⟩])
 .ret)
def c50_5 : ACode := (.seq (.seq (.reg [⟨some 288, (.fieldAddr 39 (.tmp 10) 1), none⟩,
  ⟨some 289, (.load 3 (.tmp 288)), none⟩,
  ⟨some 290, (.call { callee := (.value (.func 55)), args := #[(.tmp 289), (.const (.int .i64 1000000000000))], argTypes := #[3, 3] }), none⟩,
  ⟨some 291, (.unOp .not 4 (.tmp 290)), none⟩])
 (.cond (.tmp 291) (.seq (.reg [⟨some 292, (.build 39 #[]), none⟩,
  ⟨none, (.store 39 (.tmp 8) (.tmp 292)), none⟩,
  ⟨some 9, (.assign (.const (.int .i64 7))), none⟩])
 .ret) .skip))
 (.seqL (.seq (.reg [⟨some 18, (.assign (.const (.int .i64 0))), none⟩])
 (.block 9 (.loop b50_5)))
 c50_4))
def c50 : ACode := (.seq (.reg [⟨some 6, (.box 83 (.tmp 2)), none⟩,
  ⟨some 8, (.alloc 39), none⟩,
  ⟨some 9, (.assign (.const (.int .i64 0))), none⟩])
 (.seq (.reg [⟨some 19, (.build 39 #[]), none⟩,
  ⟨some 10, (.alloc 39), none⟩,
  ⟨none, (.store 39 (.tmp 10) (.tmp 19)), none⟩])
 (.seq (.reg [⟨some 20, (.move (.tmp 1)), none⟩,
  ⟨some 21, (.call { callee := (.builtin .len), args := #[(.tmp 20)], argTypes := #[22] }), none⟩,
  ⟨some 11, (.assign (.tmp 21)), none⟩])
 (.seqL (.seq (.reg [⟨some 22, (.fieldAddr 83 (.tmp 6) 0), none⟩,
  ⟨some 23, (.load 3 (.tmp 22)), none⟩])
 (.block 0 (.seq (.reg [⟨some 26, (.binOp .eql 3 (.tmp 23) (.const (.int .i64 1)) 3), none⟩,
  ⟨some 25, (.assign (.tmp 26)), none⟩])
 (.cond (.tmp 25) (.seq (.seq (.reg [⟨some 27, (.fieldAddr 83 (.tmp 6) 1), none⟩,
  ⟨some 28, (.load 3 (.tmp 27)), none⟩,
  ⟨some 29, (.binOp .lss 3 (.tmp 28) (.const (.int .i64 0)) 3), none⟩,
  ⟨some 30, (.move (.tmp 29)), none⟩,
  ⟨some 31, (.fieldAddr 83 (.tmp 6) 1), some (30, false)⟩,
  ⟨some 32, (.load 3 (.tmp 31)), some (30, false)⟩,
  ⟨some 33, (.move (.tmp 0)), some (30, false)⟩,
  ⟨some 34, (.call { callee := (.builtin .len), args := #[(.tmp 33)], argTypes := #[22] }), some (30, false)⟩,
  ⟨some 35, (.binOp .geq 3 (.tmp 32) (.tmp 34) 3), some (30, false)⟩,
  ⟨some 36, (.pick (.tmp 30) (.const (.bool true)) (.tmp 35)), none⟩,
  ⟨some 37, (.move (.tmp 36)), none⟩,
  ⟨some 38, (.fieldAddr 83 (.tmp 6) 2), some (37, false)⟩,
  ⟨some 39, (.load 3 (.tmp 38)), some (37, false)⟩,
  ⟨some 40, (.binOp .neq 3 (.tmp 39) (.const (.int .i64 0)) 3), some (37, false)⟩,
  ⟨some 41, (.pick (.tmp 37) (.const (.bool true)) (.tmp 40)), none⟩,
  ⟨some 42, (.move (.tmp 41)), none⟩,
  ⟨some 43, (.fieldAddr 83 (.tmp 6) 3), some (42, false)⟩,
  ⟨some 44, (.load 3 (.tmp 43)), some (42, false)⟩,
  ⟨some 45, (.binOp .neq 3 (.tmp 44) (.const (.int .i64 0)) 3), some (42, false)⟩,
  ⟨some 46, (.pick (.tmp 42) (.const (.bool true)) (.tmp 45)), none⟩,
  ⟨some 47, (.move (.tmp 46)), none⟩,
  ⟨some 48, (.fieldAddr 83 (.tmp 6) 4), some (47, false)⟩,
  ⟨some 49, (.load 3 (.tmp 48)), some (47, false)⟩,
  ⟨some 50, (.binOp .neq 3 (.tmp 49) (.const (.int .i64 0)) 3), some (47, false)⟩,
  ⟨some 51, (.pick (.tmp 47) (.const (.bool true)) (.tmp 50)), none⟩])
 (.cond (.tmp 51) (.seq (.reg [⟨some 52, (.build 39 #[]), none⟩,
  ⟨none, (.store 39 (.tmp 8) (.tmp 52)), none⟩,
  ⟨some 9, (.assign (.const (.int .i64 260))), none⟩])
 .ret) .skip))
 (.seqL (.seq (.reg [⟨some 12, (.assign (.const (.int .i64 0))), none⟩])
 (.block 1 (.loop b50_1)))
 c50_1)) (.seq (.reg [⟨some 78, (.binOp .eql 3 (.tmp 23) (.const (.int .i64 2)) 3), none⟩,
  ⟨some 77, (.assign (.tmp 78)), none⟩])
 (.cond (.tmp 77) (.seq (.seq (.reg [⟨some 79, (.fieldAddr 83 (.tmp 6) 1), none⟩,
  ⟨some 80, (.load 3 (.tmp 79)), none⟩,
  ⟨some 81, (.binOp .lss 3 (.tmp 80) (.const (.int .i64 0)) 3), none⟩,
  ⟨some 82, (.move (.tmp 81)), none⟩,
  ⟨some 83, (.fieldAddr 83 (.tmp 6) 1), some (82, false)⟩,
  ⟨some 84, (.load 3 (.tmp 83)), some (82, false)⟩,
  ⟨some 85, (.move (.tmp 3)), some (82, false)⟩,
  ⟨some 86, (.binOp .geq 3 (.tmp 84) (.tmp 85) 3), some (82, false)⟩,
  ⟨some 87, (.pick (.tmp 82) (.const (.bool true)) (.tmp 86)), none⟩,
  ⟨some 88, (.move (.tmp 87)), none⟩,
  ⟨some 89, (.fieldAddr 83 (.tmp 6) 2), some (88, false)⟩,
  ⟨some 90, (.load 3 (.tmp 89)), some (88, false)⟩,
  ⟨some 91, (.binOp .neq 3 (.tmp 90) (.const (.int .i64 0)) 3), some (88, false)⟩,
  ⟨some 92, (.pick (.tmp 88) (.const (.bool true)) (.tmp 91)), none⟩,
  ⟨some 93, (.move (.tmp 92)), none⟩,
  ⟨some 94, (.fieldAddr 83 (.tmp 6) 3), some (93, false)⟩,
  ⟨some 95, (.load 3 (.tmp 94)), some (93, false)⟩,
  ⟨some 96, (.binOp .neq 3 (.tmp 95) (.const (.int .i64 0)) 3), some (93, false)⟩,
  ⟨some 97, (.pick (.tmp 93) (.const (.bool true)) (.tmp 96)), none⟩,
  ⟨some 98, (.move (.tmp 97)), none⟩,
  ⟨some 99, (.fieldAddr 83 (.tmp 6) 4), some (98, false)⟩,
  ⟨some 100, (.load 3 (.tmp 99)), some (98, false)⟩,
  ⟨some 101, (.binOp .neq 3 (.tmp 100) (.const (.int .i64 0)) 3), some (98, false)⟩,
  ⟨some 102, (.pick (.tmp 98) (.const (.bool true)) (.tmp 101)), none⟩])
 (.cond (.tmp 102) (.seq (.reg [⟨some 103, (.build 39 #[]), none⟩,
  ⟨none, (.store 39 (.tmp 8) (.tmp 103)), none⟩,
  ⟨some 9, (.assign (.const (.int .i64 260))), none⟩])
 .ret) .skip))
 (.seq (.reg [⟨some 13, (.assign (.const (.int .i64 0))), none⟩])
 (.block 3 (.loop b50_2)))) (.seq (.reg [⟨some 120, (.binOp .eql 3 (.tmp 23) (.const (.int .i64 3)) 3), none⟩,
  ⟨some 119, (.assign (.tmp 120)), none⟩])
 (.cond (.tmp 119) (.seq (.seq (.reg [⟨some 121, (.fieldAddr 83 (.tmp 6) 1), none⟩,
  ⟨some 122, (.load 3 (.tmp 121)), none⟩,
  ⟨some 123, (.binOp .lss 3 (.tmp 122) (.const (.int .i64 0)) 3), none⟩,
  ⟨some 124, (.move (.tmp 123)), none⟩,
  ⟨some 125, (.fieldAddr 83 (.tmp 6) 1), some (124, false)⟩,
  ⟨some 126, (.load 3 (.tmp 125)), some (124, false)⟩,
  ⟨some 127, (.move (.tmp 11)), some (124, false)⟩,
  ⟨some 128, (.binOp .geq 3 (.tmp 126) (.tmp 127) 3), some (124, false)⟩,
  ⟨some 129, (.pick (.tmp 124) (.const (.bool true)) (.tmp 128)), none⟩,
  ⟨some 130, (.move (.tmp 129)), none⟩,
  ⟨some 131, (.fieldAddr 83 (.tmp 6) 2), some (130, false)⟩,
  ⟨some 132, (.load 3 (.tmp 131)), some (130, false)⟩,
  ⟨some 133, (.binOp .lss 3 (.tmp 132) (.const (.int .i64 0)) 3), some (130, false)⟩,
  ⟨some 134, (.pick (.tmp 130) (.const (.bool true)) (.tmp 133)), none⟩,
  ⟨some 135, (.move (.tmp 134)), none⟩,
  ⟨some 136, (.fieldAddr 83 (.tmp 6) 2), some (135, false)⟩,
  ⟨some 137, (.load 3 (.tmp 136)), some (135, false)⟩,
  ⟨some 138, (.move (.tmp 11)), some (135, false)⟩,
  ⟨some 139, (.binOp .geq 3 (.tmp 137) (.tmp 138) 3), some (135, false)⟩,
  ⟨some 140, (.pick (.tmp 135) (.const (.bool true)) (.tmp 139)), none⟩,
  ⟨some 141, (.move (.tmp 140)), none⟩,
  ⟨some 142, (.fieldAddr 83 (.tmp 6) 3), some (141, false)⟩,
  ⟨some 143, (.load 3 (.tmp 142)), some (141, false)⟩,
  ⟨some 144, (.binOp .lss 3 (.tmp 143) (.const (.int .i64 1)) 3), some (141, false)⟩,
  ⟨some 145, (.pick (.tmp 141) (.const (.bool true)) (.tmp 144)), none⟩,
  ⟨some 146, (.move (.tmp 145)), none⟩,
  ⟨some 147, (.fieldAddr 83 (.tmp 6) 3), some (146, false)⟩,
  ⟨some 148, (.load 3 (.tmp 147)), some (146, false)⟩,
  ⟨some 149, (.binOp .gtr 3 (.tmp 148) (.const (.int .i64 1000000)) 3), some (146, false)⟩,
  ⟨some 150, (.pick (.tmp 146) (.const (.bool true)) (.tmp 149)), none⟩,
  ⟨some 151, (.move (.tmp 150)), none⟩,
  ⟨some 152, (.fieldAddr 83 (.tmp 6) 4), some (151, false)⟩,
  ⟨some 153, (.load 3 (.tmp 152)), some (151, false)⟩,
  ⟨some 154, (.binOp .lss 3 (.tmp 153) (.const (.int .i64 1)) 3), some (151, false)⟩,
  ⟨some 155, (.pick (.tmp 151) (.const (.bool true)) (.tmp 154)), none⟩,
  ⟨some 156, (.move (.tmp 155)), none⟩,
  ⟨some 157, (.fieldAddr 83 (.tmp 6) 4), some (156, false)⟩,
  ⟨some 158, (.load 3 (.tmp 157)), some (156, false)⟩,
  ⟨some 159, (.binOp .gtr 3 (.tmp 158) (.const (.int .i64 1000000)) 3), some (156, false)⟩,
  ⟨some 160, (.pick (.tmp 156) (.const (.bool true)) (.tmp 159)), none⟩])
 (.cond (.tmp 160) (.seq (.reg [⟨some 161, (.build 39 #[]), none⟩,
  ⟨none, (.store 39 (.tmp 8) (.tmp 161)), none⟩,
  ⟨some 9, (.assign (.const (.int .i64 260))), none⟩])
 .ret) .skip))
 (.seqL (.seq (.reg [⟨some 15, (.assign (.const (.int .i64 0))), none⟩])
 (.block 5 (.loop b50_3)))
 c50_2)) (.seq (.reg [⟨some 218, (.binOp .eql 3 (.tmp 23) (.const (.int .i64 4)) 3), none⟩,
  ⟨some 217, (.assign (.tmp 218)), none⟩])
 (.cond (.tmp 217) (.seq (.seq (.reg [⟨some 219, (.fieldAddr 83 (.tmp 6) 1), none⟩,
  ⟨some 220, (.load 3 (.tmp 219)), none⟩,
  ⟨some 221, (.binOp .lss 3 (.tmp 220) (.const (.int .i64 0)) 3), none⟩,
  ⟨some 222, (.move (.tmp 221)), none⟩,
  ⟨some 223, (.fieldAddr 83 (.tmp 6) 1), some (222, false)⟩,
  ⟨some 224, (.load 3 (.tmp 223)), some (222, false)⟩,
  ⟨some 225, (.move (.tmp 11)), some (222, false)⟩,
  ⟨some 226, (.binOp .geq 3 (.tmp 224) (.tmp 225) 3), some (222, false)⟩,
  ⟨some 227, (.pick (.tmp 222) (.const (.bool true)) (.tmp 226)), none⟩,
  ⟨some 228, (.move (.tmp 227)), none⟩,
  ⟨some 229, (.fieldAddr 83 (.tmp 6) 3), some (228, false)⟩,
  ⟨some 230, (.load 3 (.tmp 229)), some (228, false)⟩,
  ⟨some 231, (.binOp .lss 3 (.tmp 230) (.const (.int .i64 1)) 3), some (228, false)⟩,
  ⟨some 232, (.pick (.tmp 228) (.const (.bool true)) (.tmp 231)), none⟩,
  ⟨some 233, (.move (.tmp 232)), none⟩,
  ⟨some 234, (.fieldAddr 83 (.tmp 6) 3), some (233, false)⟩,
  ⟨some 235, (.load 3 (.tmp 234)), some (233, false)⟩,
  ⟨some 236, (.binOp .gtr 3 (.tmp 235) (.const (.int .i64 1000000)) 3), some (233, false)⟩,
  ⟨some 237, (.pick (.tmp 233) (.const (.bool true)) (.tmp 236)), none⟩,
  ⟨some 238, (.move (.tmp 237)), none⟩,
  ⟨some 239, (.fieldAddr 83 (.tmp 6) 2), some (238, false)⟩,
  ⟨some 240, (.load 3 (.tmp 239)), some (238, false)⟩,
  ⟨some 241, (.binOp .neq 3 (.tmp 240) (.const (.int .i64 0)) 3), some (238, false)⟩,
  ⟨some 242, (.pick (.tmp 238) (.const (.bool true)) (.tmp 241)), none⟩,
  ⟨some 243, (.move (.tmp 242)), none⟩,
  ⟨some 244, (.fieldAddr 83 (.tmp 6) 4), some (243, false)⟩,
  ⟨some 245, (.load 3 (.tmp 244)), some (243, false)⟩,
  ⟨some 246, (.binOp .neq 3 (.tmp 245) (.const (.int .i64 0)) 3), some (243, false)⟩,
  ⟨some 247, (.pick (.tmp 243) (.const (.bool true)) (.tmp 246)), none⟩])
 (.cond (.tmp 247) (.seq (.reg [⟨some 248, (.build 39 #[]), none⟩,
  ⟨none, (.store 39 (.tmp 8) (.tmp 248)), none⟩,
  ⟨some 9, (.assign (.const (.int .i64 260))), none⟩])
 .ret) .skip))
 (.seqL (.seq (.reg [⟨some 16, (.assign (.const (.int .i64 0))), none⟩])
 (.block 7 (.loop b50_4)))
 c50_3)) (.seq (.reg [⟨some 24, (.build 39 #[]), none⟩,
  ⟨none, (.store 39 (.tmp 8) (.tmp 24)), none⟩,
  ⟨some 9, (.assign (.const (.int .i64 260))), none⟩])
 .ret)))))))))))
 c50_5))))
theorem fd50 : FnD Try.prog 50 307 [(.cell 8 39), (.tmp 9)] c50 := ⟨⟨Try.f50, Try.f50.body.getD .skip, Try.func50, by kernel_rfl, by kernel_rfl, by kernel_rfl, by kernel_rfl⟩⟩
/-! f51 slices.EqualFunc[[]triforium/triforiumref24.Row,[]triforium/triforiumref24.Row,triforium/triforiumref24.Row,triforium/triforiumref24.Row] -/
/-! f52 triforium/triforiumlaw24.same$1 -/
/-! f53 triforium/arith.lists -/
def c53 : ACode := (.seq (.reg [⟨some 2, (.box 3 (.tmp 0)), none⟩,
  ⟨some 3, (.box 3 (.tmp 1)), none⟩,
  ⟨some 4, (.assign (.const .nilFunc)), none⟩])
 (.seq (.reg [⟨some 5, (.makeFunc (.func 73) #[] #[(.tmp 2), (.tmp 3)]), none⟩,
  ⟨some 4, (.assign (.tmp 5)), none⟩])
 .ret))
theorem fd53 : FnD Try.prog 53 6 [(.tmp 4)] c53 := ⟨⟨Try.f53, Try.f53.body.getD .skip, Try.func53, by kernel_rfl, by kernel_rfl, by kernel_rfl, by kernel_rfl⟩⟩
/-! f54 slices.IndexFunc[[]triforium/triforiumref24.Row,triforium/triforiumref24.Row] -/
def c54 : ACode := (.seq (.reg [⟨some 4, (.assign (.const (.int .i64 0))), none⟩])
 (.seqL (.seq (.reg [⟨some 6, (.move (.tmp 0)), none⟩,
  ⟨some 7, (.call { callee := (.builtin .len), args := #[(.tmp 6)], argTypes := #[22] }), none⟩,
  ⟨some 8, (.move (.const (.int .i64 0))), none⟩])
 (.block 0 (.loop (.seq (.reg [⟨some 9, (.binOp .lss 3 (.tmp 8) (.tmp 7) 3), none⟩])
 (.seq (.cond (.tmp 9) .skip (.exit 0))
 (.seq (.block 1 (.seq (.reg [⟨some 10, (.move (.tmp 8)), none⟩,
  ⟨some 5, (.assign (.tmp 10)), none⟩])
 (.seq (.reg [⟨some 11, (.move (.tmp 1)), none⟩,
  ⟨some 12, (.move (.tmp 0)), none⟩,
  ⟨some 13, (.move (.tmp 5)), none⟩,
  ⟨some 14, (.indexAddr 22 (.tmp 12) (.tmp 13)), none⟩,
  ⟨some 15, (.load 39 (.tmp 14)), none⟩,
  ⟨some 16, (.call { callee := (.value (.tmp 11)), args := #[(.tmp 15)], argTypes := #[39] }), none⟩])
 (.cond (.tmp 16) (.seq (.reg [⟨some 17, (.move (.tmp 5)), none⟩,
  ⟨some 4, (.assign (.tmp 17)), none⟩])
 .ret) .skip))))
 (.reg [⟨some 18, (.binOp .add 3 (.tmp 8) (.const (.int .i64 1)) 3), none⟩,
  ⟨some 8, (.move (.tmp 18)), none⟩])))))))
 (.seq (.reg [⟨some 4, (.assign (.const (.int .i64 (-1)))), none⟩])
 .ret)))
theorem fd54 : FnD Try.prog 54 19 [(.tmp 4)] c54 := ⟨⟨Try.f54, Try.f54.body.getD .skip, Try.func54, by kernel_rfl, by kernel_rfl, by kernel_rfl, by kernel_rfl⟩⟩
/-! f55 triforium/triforiumref24.within -/
def c55 : ACode := (.seq (.reg [⟨some 4, (.assign (.const (.bool false))), none⟩])
 (.seq (.reg [⟨some 5, (.move (.tmp 0)), none⟩,
  ⟨some 6, (.move (.tmp 1)), none⟩,
  ⟨some 7, (.unOp .neg 3 (.tmp 6)), none⟩,
  ⟨some 8, (.binOp .geq 3 (.tmp 5) (.tmp 7) 3), none⟩,
  ⟨some 9, (.move (.tmp 8)), none⟩,
  ⟨some 10, (.move (.tmp 0)), some (9, true)⟩,
  ⟨some 11, (.move (.tmp 1)), some (9, true)⟩,
  ⟨some 12, (.binOp .leq 3 (.tmp 10) (.tmp 11) 3), some (9, true)⟩,
  ⟨some 13, (.pick (.tmp 9) (.tmp 12) (.const (.bool false))), none⟩,
  ⟨some 4, (.assign (.tmp 13)), none⟩])
 .ret))
theorem fd55 : FnD Try.prog 55 14 [(.tmp 4)] c55 := ⟨⟨Try.f55, Try.f55.body.getD .skip, Try.func55, by kernel_rfl, by kernel_rfl, by kernel_rfl, by kernel_rfl⟩⟩
/-! f56 triforium/arith.right$1 -/
def c56 : ACode := (.seq (.reg [⟨some 2, (.assign (.const (.bool false))), none⟩])
 (.seq (.reg [⟨some 3, (.move (.tmp 0)), none⟩,
  ⟨some 4, (.call { callee := (.value (.func 57)), args := #[(.tmp 3), (.const (.int .i64 1000000))], argTypes := #[3, 3] }), none⟩,
  ⟨some 5, (.unOp .not 4 (.tmp 4)), none⟩,
  ⟨some 2, (.assign (.tmp 5)), none⟩])
 .ret))
theorem fd56 : FnD Try.prog 56 6 [(.tmp 2)] c56 := ⟨⟨Try.f56, Try.f56.body.getD .skip, Try.func56, by kernel_rfl, by kernel_rfl, by kernel_rfl, by kernel_rfl⟩⟩
/-! f57 triforium/arith.within -/
def c57 : ACode := (.seq (.reg [⟨some 4, (.assign (.const (.bool false))), none⟩])
 (.seq (.reg [⟨some 5, (.move (.tmp 0)), none⟩,
  ⟨some 6, (.move (.tmp 1)), none⟩,
  ⟨some 7, (.unOp .neg 3 (.tmp 6)), none⟩,
  ⟨some 8, (.binOp .geq 3 (.tmp 5) (.tmp 7) 3), none⟩,
  ⟨some 9, (.move (.tmp 8)), none⟩,
  ⟨some 10, (.move (.tmp 0)), some (9, true)⟩,
  ⟨some 11, (.move (.tmp 1)), some (9, true)⟩,
  ⟨some 12, (.binOp .leq 3 (.tmp 10) (.tmp 11) 3), some (9, true)⟩,
  ⟨some 13, (.pick (.tmp 9) (.tmp 12) (.const (.bool false))), none⟩,
  ⟨some 4, (.assign (.tmp 13)), none⟩])
 .ret))
theorem fd57 : FnD Try.prog 57 14 [(.tmp 4)] c57 := ⟨⟨Try.f57, Try.f57.body.getD .skip, Try.func57, by kernel_rfl, by kernel_rfl, by kernel_rfl, by kernel_rfl⟩⟩
/-! f58 (*triforium/arith.refuter).keep -/
def c58 : ACode := (.seq (.reg [⟨some 3, (.box 52 (.tmp 1)), none⟩,
  ⟨some 4, (.assign (.const (.int .i64 0))), none⟩])
 (.seq (.reg [⟨some 10, (.move (.tmp 0)), none⟩,
  ⟨some 11, (.load 52 (.tmp 3)), none⟩,
  ⟨some 12, (.call { callee := (.value (.func 74)), args := #[(.tmp 10), (.tmp 11)], argTypes := #[71, 52] }), none⟩,
  ⟨some 5, (.assign (.tmp 12)), none⟩])
 (.seq (.seq (.reg [⟨some 13, (.move (.tmp 0)), none⟩,
  ⟨some 14, (.nilCheck (.tmp 13)), none⟩,
  ⟨some 15, (.fieldAddr 77 (.tmp 14) 0), none⟩,
  ⟨some 16, (.fieldAddr 74 (.tmp 15) 2), none⟩,
  ⟨some 17, (.load 31 (.tmp 16)), none⟩,
  ⟨some 18, (.move (.tmp 5)), none⟩,
  ⟨some 19, (.indexAddr 31 (.tmp 17) (.tmp 18)), none⟩,
  ⟨some 20, (.load 50 (.tmp 19)), none⟩,
  ⟨some 21, (.call { callee := (.value (.func 62)), args := #[(.tmp 20)], argTypes := #[50] }), none⟩,
  ⟨some 6, (.assign (.tmp 21)), none⟩])
 (.block 0 (.seq (.reg [⟨some 23, (.move (.tmp 6)), none⟩,
  ⟨some 24, (.binOp .eql 3 (.tmp 23) (.const (.int .i64 0)) 3), none⟩,
  ⟨some 22, (.assign (.tmp 24)), none⟩])
 (.cond (.tmp 22) (.seq (.reg [⟨some 4, (.assign (.const (.int .i64 (-1)))), none⟩])
 .ret) (.seq (.reg [⟨some 26, (.move (.tmp 6)), none⟩,
  ⟨some 27, (.binOp .gtr 3 (.tmp 26) (.const (.int .i64 1)) 3), none⟩,
  ⟨some 28, (.move (.tmp 27)), none⟩,
  ⟨some 29, (.move (.tmp 6)), some (28, true)⟩,
  ⟨some 30, (.binOp .leq 3 (.tmp 29) (.const (.int .i64 1000000)) 3), some (28, true)⟩,
  ⟨some 31, (.pick (.tmp 28) (.tmp 30) (.const (.bool false))), none⟩,
  ⟨some 25, (.assign (.tmp 31)), none⟩])
 (.cond (.tmp 25) (.reg [⟨some 32, (.move (.tmp 0)), none⟩,
  ⟨some 33, (.move (.tmp 5)), none⟩,
  ⟨some 34, (.move (.tmp 6)), none⟩,
  ⟨some 35, (.build 52 #[(0, (.const (.int .i64 4))), (1, (.tmp 33)), (3, (.tmp 34))]), none⟩,
  ⟨some 36, (.call { callee := (.value (.func 74)), args := #[(.tmp 32), (.tmp 35)], argTypes := #[71, 52] }), none⟩,
  ⟨some 5, (.assign (.tmp 36)), none⟩]) .skip))))))
 (.seq (.reg [⟨some 37, (.move (.tmp 0)), none⟩,
  ⟨some 38, (.nilCheck (.tmp 37)), none⟩,
  ⟨some 39, (.fieldAddr 77 (.tmp 38) 0), none⟩,
  ⟨some 40, (.fieldAddr 74 (.tmp 39) 2), none⟩,
  ⟨some 41, (.load 31 (.tmp 40)), none⟩,
  ⟨some 42, (.move (.tmp 5)), none⟩,
  ⟨some 43, (.indexAddr 31 (.tmp 41) (.tmp 42)), none⟩,
  ⟨some 44, (.load 50 (.tmp 43)), none⟩,
  ⟨some 7, (.alloc 50), none⟩,
  ⟨none, (.store 50 (.tmp 7) (.tmp 44)), none⟩])
 (.seq (.seq (.dreg (.tk ⟨some 46, (.move (.tmp 0)), none⟩
  (.tk ⟨some 47, (.nilCheck (.tmp 46)), none⟩
  (.tk ⟨some 48, (.fieldAddr 77 (.tmp 47) 3), none⟩
  (.tk ⟨some 49, (.load 75 (.tmp 48)), none⟩
  (.tk ⟨some 50, (.load 50 (.tmp 7)), none⟩
  (.one ⟨some 51, (.call { callee := (.value (.func 75)), args := #[(.tmp 50)], argTypes := #[50] }), none⟩
  (.one ⟨some 52, (.lookup 75 (.tmp 49) (.tmp 51) true), none⟩
  (.tk ⟨some 45, (.move (.tmp 52)), none⟩
  (.tk ⟨some 53, (.extract (.tmp 45) 0), none⟩
  (.tk ⟨some 54, (.extract (.tmp 45) 1), none⟩
  (.tk ⟨some 8, (.assign (.tmp 53)), none⟩
  .fin))))))))))) [⟨some 9, (.assign (.tmp 54)), none⟩])
 (.seq (.dreg (.tk ⟨some 55, (.move (.tmp 9)), none⟩
  (.tk ⟨some 56, (.move (.tmp 55)), none⟩
  (.tk ⟨some 57, (.move (.tmp 0)), some (56, true)⟩
  (.tk ⟨some 58, (.nilCheck (.tmp 57)), some (56, true)⟩
  (.tk ⟨some 59, (.fieldAddr 77 (.tmp 58) 0), some (56, true)⟩
  (.tk ⟨some 60, (.fieldAddr 74 (.tmp 59) 2), some (56, true)⟩
  (.tk ⟨some 61, (.load 31 (.tmp 60)), some (56, true)⟩
  (.tk ⟨some 62, (.move (.tmp 8)), some (56, true)⟩
  (.tk ⟨some 63, (.indexAddr 31 (.tmp 61) (.tmp 62)), some (56, true)⟩
  (.tk ⟨some 64, (.fieldAddr 50 (.tmp 63) 1), some (56, true)⟩
  (.tk ⟨some 65, (.load 3 (.tmp 64)), some (56, true)⟩
  (.tk ⟨some 66, (.fieldAddr 50 (.tmp 7) 1), some (56, true)⟩
  (.tk ⟨some 67, (.load 3 (.tmp 66)), some (56, true)⟩
  .fin))))))))))))) [⟨some 68, (.binOp .leq 3 (.tmp 65) (.tmp 67) 3), some (56, true)⟩,
  ⟨some 69, (.pick (.tmp 56) (.tmp 68) (.const (.bool false))), none⟩])
 (.cond (.tmp 69) (.seq (.reg [⟨some 4, (.assign (.const (.int .i64 (-1)))), none⟩])
 .ret) .skip)))
 (.seq (.dreg (.tk ⟨some 70, (.move (.tmp 0)), none⟩
  (.tk ⟨some 71, (.nilCheck (.tmp 70)), none⟩
  (.tk ⟨some 72, (.fieldAddr 77 (.tmp 71) 3), none⟩
  (.tk ⟨some 73, (.load 75 (.tmp 72)), none⟩
  (.tk ⟨some 74, (.load 50 (.tmp 7)), none⟩
  (.tk ⟨some 76, (.move (.tmp 5)), none⟩
  (.one ⟨some 75, (.call { callee := (.value (.func 75)), args := #[(.tmp 74)], argTypes := #[50] }), none⟩
  .fin))))))) [⟨none, (.mapUpdate 75 (.tmp 73) (.tmp 75) (.tmp 76)), none⟩])
 (.seq (.reg [⟨some 77, (.move (.tmp 5)), none⟩,
  ⟨some 4, (.assign (.tmp 77)), none⟩])
 .ret)))))))
theorem fd58 : FnD Try.prog 58 78 [(.tmp 4)] c58 := ⟨⟨Try.f58, Try.f58.body.getD .skip, Try.func58, by kernel_rfl, by kernel_rfl, by kernel_rfl, by kernel_rfl⟩⟩
/-! f59 (*triforium/arith.refuter).current -/
def c59 : ACode := (.seq (.reg [⟨some 4, (.assign (.const (.slice none 0 0))), none⟩])
 (.seq (.reg [⟨some 5, (.assign (.const (.slice none 0 0))), none⟩])
 (.seqL (.seq (.reg [⟨some 8, (.move (.tmp 1)), none⟩,
  ⟨some 9, (.call { callee := (.builtin .len), args := #[(.tmp 8)], argTypes := #[37] }), none⟩,
  ⟨some 10, (.move (.const (.int .i64 0))), none⟩])
 (.block 0 (.loop (.seq (.reg [⟨some 11, (.binOp .lss 3 (.tmp 10) (.tmp 9) 3), none⟩])
 (.seq (.cond (.tmp 11) .skip (.exit 0))
 (.seq (.block 1 (.seq (.reg [⟨some 12, (.indexAddr 37 (.tmp 8) (.tmp 10)), none⟩,
  ⟨some 13, (.load 3 (.tmp 12)), none⟩,
  ⟨some 7, (.assign (.tmp 13)), none⟩])
 (.seq (.dreg (.tk ⟨some 14, (.move (.tmp 7)), none⟩
  (.tk ⟨some 15, (.binOp .geq 3 (.tmp 14) (.const (.int .i64 0)) 3), none⟩
  (.tk ⟨some 16, (.move (.tmp 15)), none⟩
  (.tk ⟨some 17, (.move (.tmp 0)), some (16, true)⟩
  (.tk ⟨some 18, (.nilCheck (.tmp 17)), some (16, true)⟩
  (.tk ⟨some 19, (.fieldAddr 77 (.tmp 18) 3), some (16, true)⟩
  (.tk ⟨some 20, (.load 75 (.tmp 19)), some (16, true)⟩
  (.tk ⟨some 21, (.move (.tmp 0)), some (16, true)⟩
  (.tk ⟨some 22, (.nilCheck (.tmp 21)), some (16, true)⟩
  (.tk ⟨some 23, (.fieldAddr 77 (.tmp 22) 0), some (16, true)⟩
  (.tk ⟨some 24, (.fieldAddr 74 (.tmp 23) 2), some (16, true)⟩
  (.tk ⟨some 25, (.load 31 (.tmp 24)), some (16, true)⟩
  (.tk ⟨some 26, (.move (.tmp 7)), some (16, true)⟩
  (.tk ⟨some 27, (.indexAddr 31 (.tmp 25) (.tmp 26)), some (16, true)⟩
  (.tk ⟨some 28, (.load 50 (.tmp 27)), some (16, true)⟩
  (.tk ⟨some 31, (.move (.tmp 7)), some (16, true)⟩
  (.one ⟨some 29, (.call { callee := (.value (.func 75)), args := #[(.tmp 28)], argTypes := #[50] }), some (16, true)⟩
  (.one ⟨some 30, (.lookup 75 (.tmp 20) (.tmp 29) false), some (16, true)⟩
  .fin)))))))))))))))))) [⟨some 32, (.binOp .eql 3 (.tmp 30) (.tmp 31) 3), some (16, true)⟩,
  ⟨some 33, (.pick (.tmp 16) (.tmp 32) (.const (.bool false))), none⟩])
 (.cond (.tmp 33) (.reg [⟨some 34, (.move (.tmp 5)), none⟩,
  ⟨some 35, (.move (.tmp 7)), none⟩,
  ⟨some 36, (.buildSlice 37 1 #[(0, (.tmp 35))]), none⟩,
  ⟨some 37, (.call { callee := (.builtin .append), args := #[(.tmp 34), (.tmp 36)], argTypes := #[37, 37] }), none⟩,
  ⟨some 5, (.assign (.tmp 37)), none⟩]) .skip))))
 (.reg [⟨some 38, (.binOp .add 3 (.tmp 10) (.const (.int .i64 1)) 3), none⟩,
  ⟨some 10, (.move (.tmp 38)), none⟩])))))))
 (.seq (.reg [⟨some 39, (.move (.tmp 5)), none⟩,
  ⟨some 4, (.assign (.tmp 39)), none⟩])
 .ret))))
theorem fd59 : FnD Try.prog 59 40 [(.tmp 4)] c59 := ⟨⟨Try.f59, Try.f59.body.getD .skip, Try.func59, by kernel_rfl, by kernel_rfl, by kernel_rfl, by kernel_rfl⟩⟩
/-! f60 (*triforium/arith.refuter).easiest -/
def b60_1 : ACode := (.seq (.reg [⟨some 16, (.binOp .lss 3 (.tmp 15) (.tmp 14) 3), none⟩])
 (.seq (.cond (.tmp 16) .skip (.exit 0))
 (.seq (.block 1 (.seq (.reg [⟨some 17, (.move (.tmp 15)), none⟩,
  ⟨some 18, (.indexAddr 103 (.tmp 13) (.tmp 15)), none⟩,
  ⟨some 19, (.load 4 (.tmp 18)), none⟩,
  ⟨some 9, (.assign (.tmp 17)), none⟩,
  ⟨some 10, (.assign (.tmp 19)), none⟩])
 (.seq (.seq (.reg [⟨some 20, (.move (.tmp 10)), none⟩])
 (.cond (.tmp 20) (.exit 1) .skip))
 (.seq (.reg [⟨some 22, (.move (.tmp 0)), none⟩,
  ⟨some 23, (.move (.tmp 1)), none⟩,
  ⟨some 24, (.move (.tmp 9)), none⟩,
  ⟨some 25, (.call { callee := (.value (.func 76)), args := #[(.tmp 22), (.tmp 23), (.tmp 24)], argTypes := #[71, 37, 3] }), none⟩,
  ⟨some 21, (.move (.tmp 25)), none⟩,
  ⟨some 26, (.extract (.tmp 21) 0), none⟩,
  ⟨some 27, (.extract (.tmp 21) 1), none⟩,
  ⟨some 11, (.assign (.tmp 26)), none⟩,
  ⟨some 12, (.assign (.tmp 27)), none⟩])
 (.seq (.reg [⟨some 28, (.move (.tmp 7)), none⟩,
  ⟨some 29, (.binOp .lss 3 (.tmp 28) (.const (.int .i64 0)) 3), none⟩,
  ⟨some 30, (.move (.tmp 29)), none⟩,
  ⟨some 31, (.move (.tmp 11)), some (30, false)⟩,
  ⟨some 32, (.move (.tmp 12)), some (30, false)⟩,
  ⟨some 33, (.binOp .mul 3 (.tmp 31) (.tmp 32) 3), some (30, false)⟩,
  ⟨some 34, (.move (.tmp 8)), some (30, false)⟩,
  ⟨some 35, (.binOp .lss 3 (.tmp 33) (.tmp 34) 3), some (30, false)⟩,
  ⟨some 36, (.pick (.tmp 30) (.const (.bool true)) (.tmp 35)), none⟩])
 (.cond (.tmp 36) (.reg [⟨some 37, (.move (.tmp 9)), none⟩,
  ⟨some 38, (.move (.tmp 11)), none⟩,
  ⟨some 39, (.move (.tmp 12)), none⟩,
  ⟨some 40, (.binOp .mul 3 (.tmp 38) (.tmp 39) 3), none⟩,
  ⟨some 7, (.assign (.tmp 37)), none⟩,
  ⟨some 8, (.assign (.tmp 40)), none⟩]) .skip))))))
 (.reg [⟨some 41, (.binOp .add 3 (.tmp 15) (.const (.int .i64 1)) 3), none⟩,
  ⟨some 15, (.move (.tmp 41)), none⟩]))))
def c60_1 : ACode := (.seq (.reg [⟨some 42, (.move (.tmp 7)), none⟩,
  ⟨some 6, (.assign (.tmp 42)), none⟩])
 .ret)
def c60 : ACode := (.seq (.reg [⟨some 6, (.assign (.const (.int .i64 0))), none⟩])
 (.seq (.reg [⟨some 7, (.assign (.const (.int .i64 (-1)))), none⟩,
  ⟨some 8, (.assign (.const (.int .i64 0))), none⟩])
 (.seqL (.seq (.reg [⟨some 13, (.move (.tmp 2)), none⟩,
  ⟨some 14, (.call { callee := (.builtin .len), args := #[(.tmp 13)], argTypes := #[103] }), none⟩,
  ⟨some 15, (.move (.const (.int .i64 0))), none⟩])
 (.block 0 (.loop b60_1)))
 c60_1)))
theorem fd60 : FnD Try.prog 60 43 [(.tmp 6)] c60 := ⟨⟨Try.f60, Try.f60.body.getD .skip, Try.func60, by kernel_rfl, by kernel_rfl, by kernel_rfl, by kernel_rfl⟩⟩
/-! f61 (*triforium/arith.refuter).pairs -/
def c61 : ACode := (.seq (.reg [⟨some 3, (.box 71 (.tmp 0)), none⟩,
  ⟨some 4, (.box 37 (.tmp 1)), none⟩,
  ⟨some 5, (.box 3 (.tmp 2)), none⟩,
  ⟨some 6, (.assign (.const .nilFunc)), none⟩])
 (.seq (.reg [⟨some 7, (.makeFunc (.func 77) #[] #[(.tmp 4), (.tmp 3), (.tmp 5)]), none⟩,
  ⟨some 6, (.assign (.tmp 7)), none⟩])
 .ret))
theorem fd61 : FnD Try.prog 61 8 [(.tmp 6)] c61 := ⟨⟨Try.f61, Try.f61.body.getD .skip, Try.func61, by kernel_rfl, by kernel_rfl, by kernel_rfl, by kernel_rfl⟩⟩
/-! f62 triforium/arith.common -/
def b62_1 : ACode := (.seq (.reg [⟨some 12, (.binOp .lss 3 (.tmp 11) (.tmp 10) 3), none⟩])
 (.seq (.cond (.tmp 12) .skip (.exit 0))
 (.seq (.block 1 (.seq (.reg [⟨some 13, (.indexAddr 37 (.tmp 9) (.tmp 11)), none⟩,
  ⟨some 14, (.load 3 (.tmp 13)), none⟩,
  ⟨some 6, (.assign (.tmp 14)), none⟩])
 (.reg [⟨some 15, (.load 112 (.tmp 3)), none⟩,
  ⟨some 16, (.move (.tmp 4)), none⟩,
  ⟨some 17, (.move (.tmp 6)), none⟩,
  ⟨some 18, (.call { callee := (.value (.tmp 15)), args := #[(.tmp 16), (.tmp 17)], argTypes := #[3, 3] }), none⟩,
  ⟨some 4, (.assign (.tmp 18)), none⟩])))
 (.reg [⟨some 19, (.binOp .add 3 (.tmp 11) (.const (.int .i64 1)) 3), none⟩,
  ⟨some 11, (.move (.tmp 19)), none⟩]))))
def c62_1 : ACode := (.seq (.reg [⟨some 20, (.move (.tmp 4)), none⟩,
  ⟨some 2, (.assign (.tmp 20)), none⟩])
 .ret)
def c62 : ACode := (.seq (.reg [⟨some 1, (.box 50 (.tmp 0)), none⟩,
  ⟨some 2, (.assign (.const (.int .i64 0))), none⟩])
 (.seq (.reg [⟨some 3, (.alloc 112), none⟩])
 (.seq (.reg [⟨some 7, (.makeFunc (.func 78) #[] #[(.tmp 3)]), none⟩,
  ⟨none, (.store 112 (.tmp 3) (.tmp 7)), none⟩])
 (.seq (.reg [⟨some 4, (.assign (.const (.int .i64 0))), none⟩])
 (.seqL (.seq (.reg [⟨some 8, (.fieldAddr 50 (.tmp 1) 0), none⟩,
  ⟨some 9, (.load 37 (.tmp 8)), none⟩,
  ⟨some 10, (.call { callee := (.builtin .len), args := #[(.tmp 9)], argTypes := #[37] }), none⟩,
  ⟨some 11, (.move (.const (.int .i64 0))), none⟩])
 (.block 0 (.loop b62_1)))
 c62_1)))))
theorem fd62 : FnD Try.prog 62 21 [(.tmp 2)] c62 := ⟨⟨Try.f62, Try.f62.body.getD .skip, Try.func62, by kernel_rfl, by kernel_rfl, by kernel_rfl, by kernel_rfl⟩⟩
/-! f63 (triforium/arith.Row).absurd$1 -/
def c63 : ACode := (.seq (.reg [⟨some 2, (.assign (.const (.bool false))), none⟩])
 (.seq (.reg [⟨some 3, (.move (.tmp 0)), none⟩,
  ⟨some 4, (.binOp .neq 3 (.tmp 3) (.const (.int .i64 0)) 3), none⟩,
  ⟨some 2, (.assign (.tmp 4)), none⟩])
 .ret))
theorem fd63 : FnD Try.prog 63 5 [(.tmp 2)] c63 := ⟨⟨Try.f63, Try.f63.body.getD .skip, Try.func63, by kernel_rfl, by kernel_rfl, by kernel_rfl, by kernel_rfl⟩⟩
/-! f64 triforium/triforiumref24.reduced -/
def c64 : ACode := (.seq (.reg [⟨some 1, (.box 39 (.tmp 0)), none⟩,
  ⟨some 2, (.alloc 39), none⟩])
 (.seq (.reg [⟨some 7, (.fieldAddr 39 (.tmp 1) 1), none⟩,
  ⟨some 8, (.load 3 (.tmp 7)), none⟩,
  ⟨some 3, (.assign (.tmp 8)), none⟩])
 (.seqL (.seq (.reg [⟨some 4, (.assign (.const (.int .i64 0))), none⟩])
 (.block 0 (.loop (.seq (.seq (.reg [⟨some 9, (.move (.tmp 4)), none⟩,
  ⟨some 10, (.fieldAddr 39 (.tmp 1) 0), none⟩,
  ⟨some 11, (.load 37 (.tmp 10)), none⟩,
  ⟨some 12, (.call { callee := (.builtin .len), args := #[(.tmp 11)], argTypes := #[37] }), none⟩,
  ⟨some 13, (.binOp .lss 3 (.tmp 9) (.tmp 12) 3), none⟩])
 (.cond (.tmp 13) .skip (.exit 0)))
 (.seq (.block 1 (.reg [⟨some 16, (.move (.tmp 3)), none⟩,
  ⟨some 17, (.fieldAddr 39 (.tmp 1) 0), none⟩,
  ⟨some 18, (.load 37 (.tmp 17)), none⟩,
  ⟨some 19, (.move (.tmp 4)), none⟩,
  ⟨some 20, (.indexAddr 37 (.tmp 18) (.tmp 19)), none⟩,
  ⟨some 21, (.load 3 (.tmp 20)), none⟩,
  ⟨some 22, (.call { callee := (.value (.func 79)), args := #[(.tmp 16), (.tmp 21)], argTypes := #[3, 3] }), none⟩,
  ⟨some 3, (.assign (.tmp 22)), none⟩]))
 (.reg [⟨some 14, (.move (.tmp 4)), none⟩,
  ⟨some 15, (.binOp .add 3 (.tmp 14) (.const (.int .i64 1)) 3), none⟩,
  ⟨some 4, (.assign (.tmp 15)), none⟩]))))))
 (.seq (.seq (.reg [⟨some 23, (.move (.tmp 3)), none⟩,
  ⟨some 24, (.binOp .eql 3 (.tmp 23) (.const (.int .i64 0)) 3), none⟩])
 (.cond (.tmp 24) (.seq (.reg [⟨some 25, (.load 39 (.tmp 1)), none⟩,
  ⟨none, (.store 39 (.tmp 2) (.tmp 25)), none⟩])
 .ret) .skip))
 (.seq (.reg [⟨some 26, (.move (.tmp 3)), none⟩,
  ⟨some 27, (.move (.tmp 3)), none⟩,
  ⟨some 28, (.unOp .neg 3 (.tmp 27)), none⟩,
  ⟨some 29, (.call { callee := (.builtin .max), args := #[(.tmp 26), (.tmp 28)], argTypes := #[3, 3] }), none⟩,
  ⟨some 3, (.assign (.tmp 29)), none⟩])
 (.seq (.reg [⟨some 30, (.fieldAddr 39 (.tmp 1) 1), none⟩,
  ⟨some 31, (.load 3 (.tmp 30)), none⟩,
  ⟨some 32, (.move (.tmp 3)), none⟩,
  ⟨some 33, (.binOp .quo 3 (.tmp 31) (.tmp 32) 3), none⟩,
  ⟨some 34, (.build 39 #[(1, (.tmp 33))]), none⟩,
  ⟨some 5, (.alloc 39), none⟩,
  ⟨none, (.store 39 (.tmp 5) (.tmp 34)), none⟩])
 (.seqL (.seq (.reg [⟨some 6, (.assign (.const (.int .i64 0))), none⟩])
 (.block 2 (.loop (.seq (.seq (.reg [⟨some 35, (.move (.tmp 6)), none⟩,
  ⟨some 36, (.fieldAddr 39 (.tmp 1) 0), none⟩,
  ⟨some 37, (.load 37 (.tmp 36)), none⟩,
  ⟨some 38, (.call { callee := (.builtin .len), args := #[(.tmp 37)], argTypes := #[37] }), none⟩,
  ⟨some 39, (.binOp .lss 3 (.tmp 35) (.tmp 38) 3), none⟩])
 (.cond (.tmp 39) .skip (.exit 2)))
 (.seq (.block 3 (.dreg (.tk ⟨some 42, (.fieldAddr 39 (.tmp 5) 0), none⟩
  (.tk ⟨some 43, (.load 37 (.tmp 42)), none⟩
  (.tk ⟨some 44, (.fieldAddr 39 (.tmp 1) 0), none⟩
  (.tk ⟨some 45, (.load 37 (.tmp 44)), none⟩
  (.tk ⟨some 46, (.move (.tmp 6)), none⟩
  (.tk ⟨some 47, (.indexAddr 37 (.tmp 45) (.tmp 46)), none⟩
  (.tk ⟨some 48, (.load 3 (.tmp 47)), none⟩
  (.tk ⟨some 49, (.move (.tmp 3)), none⟩
  (.tk ⟨some 50, (.binOp .quo 3 (.tmp 48) (.tmp 49) 3), none⟩
  (.one ⟨some 51, (.buildSlice 37 1 #[(0, (.tmp 50))]), none⟩
  .fin)))))))))) [⟨some 52, (.call { callee := (.builtin .append), args := #[(.tmp 43), (.tmp 51)], argTypes := #[37, 37] }), none⟩,
  ⟨some 53, (.fieldAddr 39 (.tmp 5) 0), none⟩,
  ⟨none, (.store 37 (.tmp 53) (.tmp 52)), none⟩]))
 (.reg [⟨some 40, (.move (.tmp 6)), none⟩,
  ⟨some 41, (.binOp .add 3 (.tmp 40) (.const (.int .i64 1)) 3), none⟩,
  ⟨some 6, (.assign (.tmp 41)), none⟩]))))))
 (.seq (.reg [⟨some 54, (.load 39 (.tmp 5)), none⟩,
  ⟨none, (.store 39 (.tmp 2) (.tmp 54)), none⟩])
 .ret))))))))
theorem fd64 : FnD Try.prog 64 55 [(.cell 2 39)] c64 := ⟨⟨Try.f64, Try.f64.body.getD .skip, Try.func64, by kernel_rfl, by kernel_rfl, by kernel_rfl, by kernel_rfl⟩⟩
/-! f65 (*triforium/arith.derivation).make$1 -/
def c65 : ACode := (.seq (.reg [⟨some 3, (.assign (.const (.bool false))), none⟩])
 (.seq (.reg [⟨some 4, (.move (.tmp 0)), none⟩,
  ⟨some 5, (.binOp .geq 3 (.tmp 4) (.const (.int .i64 0)) 3), none⟩,
  ⟨some 6, (.move (.tmp 5)), none⟩,
  ⟨some 7, (.move (.tmp 0)), some (6, true)⟩,
  ⟨some 8, (.load 90 (.tmp 1)), some (6, true)⟩,
  ⟨some 9, (.nilCheck (.tmp 8)), some (6, true)⟩,
  ⟨some 10, (.fieldAddr 74 (.tmp 9) 2), some (6, true)⟩,
  ⟨some 11, (.load 31 (.tmp 10)), some (6, true)⟩,
  ⟨some 12, (.call { callee := (.builtin .len), args := #[(.tmp 11)], argTypes := #[31] }), some (6, true)⟩,
  ⟨some 13, (.binOp .lss 3 (.tmp 7) (.tmp 12) 3), some (6, true)⟩,
  ⟨some 14, (.pick (.tmp 6) (.tmp 13) (.const (.bool false))), none⟩,
  ⟨some 3, (.assign (.tmp 14)), none⟩])
 .ret))
theorem fd65 : FnD Try.prog 65 15 [(.tmp 3)] c65 := ⟨⟨Try.f65, Try.f65.body.getD .skip, Try.func65, by kernel_rfl, by kernel_rfl, by kernel_rfl, by kernel_rfl⟩⟩
/-! f66 (*triforium/arith.derivation).make$2 -/
def c66 : ACode := (.seq (.reg [⟨some 2, (.assign (.const (.bool false))), none⟩])
 (.seq (.reg [⟨some 3, (.move (.tmp 0)), none⟩,
  ⟨some 4, (.binOp .geq 3 (.tmp 3) (.const (.int .i64 1)) 3), none⟩,
  ⟨some 5, (.move (.tmp 4)), none⟩,
  ⟨some 6, (.move (.tmp 0)), some (5, true)⟩,
  ⟨some 7, (.binOp .leq 3 (.tmp 6) (.const (.int .i64 1000000)) 3), some (5, true)⟩,
  ⟨some 8, (.pick (.tmp 5) (.tmp 7) (.const (.bool false))), none⟩,
  ⟨some 2, (.assign (.tmp 8)), none⟩])
 .ret))
theorem fd66 : FnD Try.prog 66 9 [(.tmp 2)] c66 := ⟨⟨Try.f66, Try.f66.body.getD .skip, Try.func66, by kernel_rfl, by kernel_rfl, by kernel_rfl, by kernel_rfl⟩⟩
/-! f67 (triforium/arith.Row).wide -/
def c67 : ACode := (.seq (.reg [⟨some 2, (.box 50 (.tmp 0)), none⟩,
  ⟨some 4, (.alloc 50), none⟩])
 (.seq (.dreg (.tk ⟨some 6, (.move (.tmp 1)), none⟩
  (.tk ⟨some 8, (.fieldAddr 50 (.tmp 2) 1), none⟩
  (.tk ⟨some 9, (.load 3 (.tmp 8)), none⟩
  (.two ⟨some 7, (.makeSlice 37 (.tmp 6) (.tmp 6)), none⟩
  (.tk ⟨some 10, (.build 50 #[(0, (.tmp 7)), (1, (.tmp 9))]), none⟩
  (.one ⟨some 5, (.alloc 50), none⟩
  .fin))
  ⟨some 5, (.alloc 50), none⟩
  (.one ⟨some 7, (.makeSlice 37 (.tmp 6) (.tmp 6)), none⟩
  (.tk ⟨some 10, (.build 50 #[(0, (.tmp 7)), (1, (.tmp 9))]), none⟩
  .fin)))))) [⟨none, (.store 50 (.tmp 5) (.tmp 10)), none⟩])
 (.seq (.reg [⟨some 11, (.fieldAddr 50 (.tmp 5) 0), none⟩,
  ⟨some 12, (.load 37 (.tmp 11)), none⟩,
  ⟨some 13, (.fieldAddr 50 (.tmp 2) 0), none⟩,
  ⟨some 14, (.load 37 (.tmp 13)), none⟩,
  ⟨some 15, (.call { callee := (.builtin .copy), args := #[(.tmp 12), (.tmp 14)], argTypes := #[37, 37] }), none⟩])
 (.seq (.reg [⟨some 16, (.load 50 (.tmp 5)), none⟩,
  ⟨none, (.store 50 (.tmp 4) (.tmp 16)), none⟩])
 .ret))))
theorem fd67 : FnD Try.prog 67 17 [(.cell 4 50)] c67 := ⟨⟨Try.f67, Try.f67.body.getD .skip, Try.func67, by kernel_rfl, by kernel_rfl, by kernel_rfl, by kernel_rfl⟩⟩
/-! f68 triforium/arith.floor -/
def c68 : ACode := (.seq (.reg [⟨some 4, (.assign (.const (.int .i64 0))), none⟩])
 (.seq (.reg [⟨some 6, (.move (.tmp 0)), none⟩,
  ⟨some 7, (.move (.tmp 1)), none⟩,
  ⟨some 8, (.binOp .quo 3 (.tmp 6) (.tmp 7) 3), none⟩,
  ⟨some 5, (.assign (.tmp 8)), none⟩])
 (.seq (.seq (.reg [⟨some 9, (.move (.tmp 5)), none⟩,
  ⟨some 10, (.move (.tmp 1)), none⟩,
  ⟨some 11, (.binOp .mul 3 (.tmp 9) (.tmp 10) 3), none⟩,
  ⟨some 12, (.move (.tmp 0)), none⟩,
  ⟨some 13, (.binOp .gtr 3 (.tmp 11) (.tmp 12) 3), none⟩])
 (.cond (.tmp 13) (.reg [⟨some 14, (.move (.tmp 5)), none⟩,
  ⟨some 15, (.binOp .sub 3 (.tmp 14) (.const (.int .i64 1)) 3), none⟩,
  ⟨some 5, (.assign (.tmp 15)), none⟩]) .skip))
 (.seq (.reg [⟨some 16, (.move (.tmp 5)), none⟩,
  ⟨some 4, (.assign (.tmp 16)), none⟩])
 .ret))))
theorem fd68 : FnD Try.prog 68 17 [(.tmp 4)] c68 := ⟨⟨Try.f68, Try.f68.body.getD .skip, Try.func68, by kernel_rfl, by kernel_rfl, by kernel_rfl, by kernel_rfl⟩⟩
/-! f69 (*triforium/arith.derivation).make$3 -/
def c69 : ACode := (.seq (.reg [⟨some 2, (.assign (.const (.bool false))), none⟩])
 (.seq (.reg [⟨some 3, (.move (.tmp 0)), none⟩,
  ⟨some 4, (.call { callee := (.value (.func 57)), args := #[(.tmp 3), (.const (.int .i64 1000000000000))], argTypes := #[3, 3] }), none⟩,
  ⟨some 5, (.unOp .not 4 (.tmp 4)), none⟩,
  ⟨some 2, (.assign (.tmp 5)), none⟩])
 .ret))
theorem fd69 : FnD Try.prog 69 6 [(.tmp 2)] c69 := ⟨⟨Try.f69, Try.f69.body.getD .skip, Try.func69, by kernel_rfl, by kernel_rfl, by kernel_rfl, by kernel_rfl⟩⟩
/-! f70 slices.ContainsFunc[[]triforium/arith.Row,triforium/arith.Row] -/
def c70 : ACode := (.seq (.reg [⟨some 4, (.assign (.const (.bool false))), none⟩])
 (.seq (.reg [⟨some 5, (.move (.tmp 0)), none⟩,
  ⟨some 6, (.move (.tmp 1)), none⟩,
  ⟨some 7, (.call { callee := (.value (.func 80)), args := #[(.tmp 5), (.tmp 6)], argTypes := #[31, 114] }), none⟩,
  ⟨some 8, (.binOp .geq 3 (.tmp 7) (.const (.int .i64 0)) 3), none⟩,
  ⟨some 4, (.assign (.tmp 8)), none⟩])
 .ret))
theorem fd70 : FnD Try.prog 70 9 [(.tmp 4)] c70 := ⟨⟨Try.f70, Try.f70.body.getD .skip, Try.func70, by kernel_rfl, by kernel_rfl, by kernel_rfl, by kernel_rfl⟩⟩
/-! f71 triforium/arith.fulfilled$1 -/
def c71 : ACode := (.seq (.reg [⟨some 2, (.box 50 (.tmp 0)), none⟩,
  ⟨some 3, (.assign (.const (.bool false))), none⟩])
 (.seq (.reg [⟨some 4, (.assign (.const (.int .i64 0))), none⟩])
 (.seqL (.seq (.reg [⟨some 7, (.fieldAddr 50 (.tmp 2) 0), none⟩,
  ⟨some 8, (.load 37 (.tmp 7)), none⟩,
  ⟨some 9, (.call { callee := (.builtin .len), args := #[(.tmp 8)], argTypes := #[37] }), none⟩,
  ⟨some 10, (.move (.const (.int .i64 0))), none⟩])
 (.block 0 (.loop (.seq (.reg [⟨some 11, (.binOp .lss 3 (.tmp 10) (.tmp 9) 3), none⟩])
 (.seq (.cond (.tmp 11) .skip (.exit 0))
 (.seq (.block 1 (.seq (.reg [⟨some 12, (.move (.tmp 10)), none⟩,
  ⟨some 13, (.indexAddr 37 (.tmp 8) (.tmp 10)), none⟩,
  ⟨some 14, (.load 3 (.tmp 13)), none⟩,
  ⟨some 5, (.assign (.tmp 12)), none⟩,
  ⟨some 6, (.assign (.tmp 14)), none⟩])
 (.reg [⟨some 15, (.move (.tmp 4)), none⟩,
  ⟨some 16, (.move (.tmp 6)), none⟩,
  ⟨some 17, (.load 37 (.tmp 1)), none⟩,
  ⟨some 18, (.move (.tmp 5)), none⟩,
  ⟨some 19, (.indexAddr 37 (.tmp 17) (.tmp 18)), none⟩,
  ⟨some 20, (.load 3 (.tmp 19)), none⟩,
  ⟨some 21, (.binOp .mul 3 (.tmp 16) (.tmp 20) 3), none⟩,
  ⟨some 22, (.binOp .add 3 (.tmp 15) (.tmp 21) 3), none⟩,
  ⟨some 4, (.assign (.tmp 22)), none⟩])))
 (.reg [⟨some 23, (.binOp .add 3 (.tmp 10) (.const (.int .i64 1)) 3), none⟩,
  ⟨some 10, (.move (.tmp 23)), none⟩])))))))
 (.seq (.reg [⟨some 24, (.move (.tmp 4)), none⟩,
  ⟨some 25, (.fieldAddr 50 (.tmp 2) 1), none⟩,
  ⟨some 26, (.load 3 (.tmp 25)), none⟩,
  ⟨some 27, (.binOp .gtr 3 (.tmp 24) (.tmp 26) 3), none⟩,
  ⟨some 3, (.assign (.tmp 27)), none⟩])
 .ret))))
theorem fd71 : FnD Try.prog 71 28 [(.tmp 3)] c71 := ⟨⟨Try.f71, Try.f71.body.getD .skip, Try.func71, by kernel_rfl, by kernel_rfl, by kernel_rfl, by kernel_rfl⟩⟩
/-! f72 triforium/triforiumref24.floor -/
def c72 : ACode := (.seq (.reg [⟨some 4, (.assign (.const (.int .i64 0))), none⟩])
 (.seq (.reg [⟨some 6, (.move (.tmp 0)), none⟩,
  ⟨some 7, (.move (.tmp 1)), none⟩,
  ⟨some 8, (.binOp .quo 3 (.tmp 6) (.tmp 7) 3), none⟩,
  ⟨some 5, (.assign (.tmp 8)), none⟩])
 (.seq (.seq (.reg [⟨some 9, (.move (.tmp 0)), none⟩,
  ⟨some 10, (.move (.tmp 1)), none⟩,
  ⟨some 11, (.binOp .rem 3 (.tmp 9) (.tmp 10) 3), none⟩,
  ⟨some 12, (.binOp .lss 3 (.tmp 11) (.const (.int .i64 0)) 3), none⟩])
 (.cond (.tmp 12) (.reg [⟨some 13, (.move (.tmp 5)), none⟩,
  ⟨some 14, (.binOp .sub 3 (.tmp 13) (.const (.int .i64 1)) 3), none⟩,
  ⟨some 5, (.assign (.tmp 14)), none⟩]) .skip))
 (.seq (.reg [⟨some 15, (.move (.tmp 5)), none⟩,
  ⟨some 4, (.assign (.tmp 15)), none⟩])
 .ret))))
theorem fd72 : FnD Try.prog 72 16 [(.tmp 4)] c72 := ⟨⟨Try.f72, Try.f72.body.getD .skip, Try.func72, by kernel_rfl, by kernel_rfl, by kernel_rfl, by kernel_rfl⟩⟩
/-! f73 triforium/arith.lists$1 -/
def b73_1 : ACode := (.seq (.seq (.dreg (.tk ⟨some 14, (.move (.tmp 5)), none⟩
  (.tk ⟨some 15, (.binOp .geq 3 (.tmp 14) (.const (.int .i64 0)) 3), none⟩
  (.tk ⟨some 16, (.move (.tmp 15)), none⟩
  (.tk ⟨some 17, (.move (.tmp 4)), some (16, true)⟩
  (.tk ⟨some 18, (.move (.tmp 5)), some (16, true)⟩
  (.tk ⟨some 19, (.indexAddr 37 (.tmp 17) (.tmp 18)), some (16, true)⟩
  (.tk ⟨some 20, (.load 3 (.tmp 19)), some (16, true)⟩
  (.tk ⟨some 21, (.load 3 (.tmp 2)), some (16, true)⟩
  .fin)))))))) [⟨some 22, (.binOp .eql 3 (.tmp 20) (.tmp 21) 3), some (16, true)⟩,
  ⟨some 23, (.pick (.tmp 16) (.tmp 22) (.const (.bool false))), none⟩])
 (.cond (.tmp 23) .skip (.exit 2)))
 (.seq (.block 3 (.reg [⟨some 26, (.move (.tmp 4)), none⟩,
  ⟨some 27, (.move (.tmp 5)), none⟩,
  ⟨some 28, (.indexAddr 37 (.tmp 26) (.tmp 27)), none⟩,
  ⟨none, (.store 3 (.tmp 28) (.const (.int .i64 0))), none⟩]))
 (.reg [⟨some 24, (.move (.tmp 5)), none⟩,
  ⟨some 25, (.binOp .sub 3 (.tmp 24) (.const (.int .i64 1)) 3), none⟩,
  ⟨some 5, (.assign (.tmp 25)), none⟩])))
def c73_1 : ACode := (.seq (.seq (.reg [⟨some 29, (.move (.tmp 5)), none⟩,
  ⟨some 30, (.binOp .lss 3 (.tmp 29) (.const (.int .i64 0)) 3), none⟩])
 (.cond (.tmp 30) .ret .skip))
 (.reg [⟨some 31, (.move (.tmp 4)), none⟩,
  ⟨some 32, (.move (.tmp 5)), none⟩,
  ⟨some 33, (.indexAddr 37 (.tmp 31) (.tmp 32)), none⟩,
  ⟨some 34, (.load 3 (.tmp 33)), none⟩,
  ⟨some 35, (.binOp .add 3 (.tmp 34) (.const (.int .i64 1)) 3), none⟩,
  ⟨some 36, (.indexAddr 37 (.tmp 31) (.tmp 32)), none⟩,
  ⟨none, (.store 3 (.tmp 36) (.tmp 35)), none⟩]))
def b73_2 : ACode := (.block 1 (.seq (.seq (.reg [⟨some 8, (.move (.tmp 0)), none⟩,
  ⟨some 9, (.move (.tmp 4)), none⟩,
  ⟨some 10, (.call { callee := (.value (.tmp 8)), args := #[(.tmp 9)], argTypes := #[37] }), none⟩,
  ⟨some 11, (.unOp .not 4 (.tmp 10)), none⟩])
 (.cond (.tmp 11) .ret .skip))
 (.seq (.reg [⟨some 12, (.load 3 (.tmp 1)), none⟩,
  ⟨some 13, (.binOp .sub 3 (.tmp 12) (.const (.int .i64 1)) 3), none⟩,
  ⟨some 5, (.assign (.tmp 13)), none⟩])
 (.seqL (.block 2 (.loop b73_1))
 c73_1))))
def c73 : ACode := (.seq (.reg [⟨some 6, (.load 3 (.tmp 1)), none⟩,
  ⟨some 7, (.makeSlice 37 (.tmp 6) (.tmp 6)), none⟩,
  ⟨some 4, (.assign (.tmp 7)), none⟩])
 (.block 0 (.loop b73_2)))
theorem fd73 : FnD Try.prog 73 37 [] c73 := ⟨⟨Try.f73, Try.f73.body.getD .skip, Try.func73, by kernel_rfl, by kernel_rfl, by kernel_rfl, by kernel_rfl⟩⟩
/-! f74 (*triforium/arith.refuter).line -/
def c74 : ACode := (.seq (.reg [⟨some 3, (.box 52 (.tmp 1)), none⟩,
  ⟨some 4, (.assign (.const (.int .i64 0))), none⟩])
 (.seq (.seq (.dreg (.tk ⟨some 7, (.move (.tmp 0)), none⟩
  (.tk ⟨some 8, (.nilCheck (.tmp 7)), none⟩
  (.tk ⟨some 9, (.fieldAddr 77 (.tmp 8) 1), none⟩
  (.tk ⟨some 10, (.load 28 (.tmp 9)), none⟩
  (.tk ⟨some 11, (.call { callee := (.builtin .len), args := #[(.tmp 10)], argTypes := #[28] }), none⟩
  (.tk ⟨some 12, (.move (.tmp 0)), none⟩
  (.tk ⟨some 13, (.nilCheck (.tmp 12)), none⟩
  (.tk ⟨some 14, (.fieldAddr 77 (.tmp 13) 2), none⟩
  (.tk ⟨some 15, (.load 3 (.tmp 14)), none⟩
  .fin))))))))) [⟨some 16, (.binOp .eql 3 (.tmp 11) (.tmp 15) 3), none⟩])
 (.cond (.tmp 16) (.reg [⟨some 17, (.build 82 #[(0, (.const (.int .i64 8)))]), none⟩,
  ⟨some 18, (.makeInterface 82 (.tmp 17)), none⟩,
  ⟨none, (.panic (.tmp 18)), none⟩]) .skip))
 (.seq (.dreg (.tk ⟨some 20, (.move (.tmp 0)), none⟩
  (.tk ⟨some 21, (.nilCheck (.tmp 20)), none⟩
  (.tk ⟨some 22, (.fieldAddr 77 (.tmp 21) 0), none⟩
  (.tk ⟨some 23, (.load 52 (.tmp 3)), none⟩
  (.two ⟨some 24, (.call { callee := (.value (.func 47)), args := #[(.tmp 22), (.tmp 23)], argTypes := #[74, 52] }), none⟩
  (.tk ⟨some 19, (.move (.tmp 24)), none⟩
  (.tk ⟨some 25, (.extract (.tmp 19) 0), none⟩
  (.tk ⟨some 26, (.extract (.tmp 19) 1), none⟩
  (.one ⟨some 5, (.alloc 50), none⟩
  (.one ⟨none, (.store 50 (.tmp 5) (.tmp 25)), none⟩
  .fin)))))
  ⟨some 5, (.alloc 50), none⟩
  (.one ⟨some 24, (.call { callee := (.value (.func 47)), args := #[(.tmp 22), (.tmp 23)], argTypes := #[74, 52] }), none⟩
  (.tk ⟨some 19, (.move (.tmp 24)), none⟩
  (.tk ⟨some 25, (.extract (.tmp 19) 0), none⟩
  (.tk ⟨some 26, (.extract (.tmp 19) 1), none⟩
  (.one ⟨none, (.store 50 (.tmp 5) (.tmp 25)), none⟩
  .fin)))))))))) [⟨some 6, (.assign (.tmp 26)), none⟩])
 (.seq (.seq (.reg [⟨some 27, (.move (.tmp 6)), none⟩,
  ⟨some 28, (.binOp .eql 25 (.tmp 27) (.const (.int .i64 260)) 25), none⟩])
 (.cond (.tmp 28) (.reg [⟨some 6, (.assign (.const (.int .i64 7))), none⟩]) .skip))
 (.seq (.seq (.reg [⟨some 29, (.move (.tmp 6)), none⟩,
  ⟨some 30, (.binOp .neq 25 (.tmp 29) (.const (.int .i64 0)) 25), none⟩])
 (.cond (.tmp 30) (.reg [⟨some 31, (.move (.tmp 6)), none⟩,
  ⟨some 32, (.build 82 #[(0, (.tmp 31))]), none⟩,
  ⟨some 33, (.makeInterface 82 (.tmp 32)), none⟩,
  ⟨none, (.panic (.tmp 33)), none⟩]) .skip))
 (.seq (.dreg (.tk ⟨some 34, (.move (.tmp 0)), none⟩
  (.tk ⟨some 35, (.move (.tmp 0)), none⟩
  (.tk ⟨some 36, (.move (.tmp 0)), none⟩
  (.tk ⟨some 37, (.nilCheck (.tmp 36)), none⟩
  (.tk ⟨some 38, (.fieldAddr 77 (.tmp 37) 1), none⟩
  (.tk ⟨some 39, (.load 28 (.tmp 38)), none⟩
  (.tk ⟨some 40, (.load 52 (.tmp 3)), none⟩
  (.tk ⟨some 43, (.move (.tmp 0)), none⟩
  (.tk ⟨some 44, (.nilCheck (.tmp 43)), none⟩
  (.tk ⟨some 45, (.fieldAddr 77 (.tmp 44) 0), none⟩
  (.tk ⟨some 46, (.fieldAddr 74 (.tmp 45) 2), none⟩
  (.tk ⟨some 47, (.load 31 (.tmp 46)), none⟩
  (.tk ⟨some 48, (.load 50 (.tmp 5)), none⟩
  (.two ⟨some 41, (.buildSlice 28 1 #[(0, (.tmp 40))]), none⟩
  (.two ⟨some 42, (.call { callee := (.builtin .append), args := #[(.tmp 39), (.tmp 41)], argTypes := #[28, 28] }), none⟩
  (.one ⟨some 49, (.buildSlice 31 1 #[(0, (.tmp 48))]), none⟩
  (.one ⟨some 50, (.call { callee := (.builtin .append), args := #[(.tmp 47), (.tmp 49)], argTypes := #[31, 31] }), none⟩
  (.tk ⟨some 51, (.nilCheck (.tmp 34)), none⟩
  (.tk ⟨some 52, (.fieldAddr 77 (.tmp 51) 1), none⟩
  (.cut ⟨none, (.store 28 (.tmp 52) (.tmp 42)), none⟩
  .fin)))))
  ⟨some 49, (.buildSlice 31 1 #[(0, (.tmp 48))]), none⟩
  (.one ⟨some 42, (.call { callee := (.builtin .append), args := #[(.tmp 39), (.tmp 41)], argTypes := #[28, 28] }), none⟩
  (.one ⟨some 50, (.call { callee := (.builtin .append), args := #[(.tmp 47), (.tmp 49)], argTypes := #[31, 31] }), none⟩
  (.tk ⟨some 51, (.nilCheck (.tmp 34)), none⟩
  (.tk ⟨some 52, (.fieldAddr 77 (.tmp 51) 1), none⟩
  (.cut ⟨none, (.store 28 (.tmp 52) (.tmp 42)), none⟩
  .fin))))))
  ⟨some 49, (.buildSlice 31 1 #[(0, (.tmp 48))]), none⟩
  (.one ⟨some 41, (.buildSlice 28 1 #[(0, (.tmp 40))]), none⟩
  (.one ⟨some 42, (.call { callee := (.builtin .append), args := #[(.tmp 39), (.tmp 41)], argTypes := #[28, 28] }), none⟩
  (.one ⟨some 50, (.call { callee := (.builtin .append), args := #[(.tmp 47), (.tmp 49)], argTypes := #[31, 31] }), none⟩
  (.tk ⟨some 51, (.nilCheck (.tmp 34)), none⟩
  (.tk ⟨some 52, (.fieldAddr 77 (.tmp 51) 1), none⟩
  (.cut ⟨none, (.store 28 (.tmp 52) (.tmp 42)), none⟩
  .fin)))))))))))))))))))) [⟨some 53, (.nilCheck (.tmp 35)), none⟩,
  ⟨some 54, (.fieldAddr 77 (.tmp 53) 0), none⟩,
  ⟨some 55, (.fieldAddr 74 (.tmp 54) 2), none⟩,
  ⟨none, (.store 31 (.tmp 55) (.tmp 50)), none⟩])
 (.seq (.seq (.reg [⟨some 56, (.load 50 (.tmp 5)), none⟩,
  ⟨some 57, (.call { callee := (.value (.func 41)), args := #[(.tmp 56)], argTypes := #[50] }), none⟩])
 (.cond (.tmp 57) (.reg [⟨some 58, (.build 79 #[]), none⟩,
  ⟨some 59, (.makeInterface 79 (.tmp 58)), none⟩,
  ⟨none, (.panic (.tmp 59)), none⟩]) .skip))
 (.seq (.reg [⟨some 60, (.move (.tmp 0)), none⟩,
  ⟨some 61, (.nilCheck (.tmp 60)), none⟩,
  ⟨some 62, (.fieldAddr 77 (.tmp 61) 1), none⟩,
  ⟨some 63, (.load 28 (.tmp 62)), none⟩,
  ⟨some 64, (.call { callee := (.builtin .len), args := #[(.tmp 63)], argTypes := #[28] }), none⟩,
  ⟨some 65, (.binOp .sub 3 (.tmp 64) (.const (.int .i64 1)) 3), none⟩,
  ⟨some 4, (.assign (.tmp 65)), none⟩])
 .ret))))))))
theorem fd74 : FnD Try.prog 74 66 [(.tmp 4)] c74 := ⟨⟨Try.f74, Try.f74.body.getD .skip, Try.func74, by kernel_rfl, by kernel_rfl, by kernel_rfl, by kernel_rfl⟩⟩
/-! f75 triforium/arith.keyOf -/
def c75 : ACode := (.seq (.reg [⟨some 1, (.box 50 (.tmp 0)), none⟩,
  ⟨some 2, (.alloc 118), none⟩])
 (.seq (.reg [⟨some 3, (.alloc 118), none⟩])
 (.seq (.dreg (.tk ⟨some 4, (.slice 118 (.tmp 3) none none none), none⟩
  (.tk ⟨some 5, (.fieldAddr 50 (.tmp 1) 0), none⟩
  (.tk ⟨some 6, (.load 37 (.tmp 5)), none⟩
  .fin))) [⟨some 7, (.call { callee := (.builtin .copy), args := #[(.tmp 4), (.tmp 6)], argTypes := #[37, 37] }), none⟩])
 (.seq (.reg [⟨some 8, (.load 118 (.tmp 3)), none⟩,
  ⟨none, (.store 118 (.tmp 2) (.tmp 8)), none⟩])
 .ret))))
theorem fd75 : FnD Try.prog 75 9 [(.cell 2 118)] c75 := ⟨⟨Try.f75, Try.f75.body.getD .skip, Try.func75, by kernel_rfl, by kernel_rfl, by kernel_rfl, by kernel_rfl⟩⟩
/-! f76 (*triforium/arith.refuter).signs -/
def b76_1 : ACode := (.seq (.reg [⟨some 14, (.binOp .lss 3 (.tmp 13) (.tmp 12) 3), none⟩])
 (.seq (.cond (.tmp 14) .skip (.exit 0))
 (.seq (.block 1 (.seq (.reg [⟨some 15, (.indexAddr 37 (.tmp 11) (.tmp 13)), none⟩,
  ⟨some 16, (.load 3 (.tmp 15)), none⟩,
  ⟨some 9, (.assign (.tmp 16)), none⟩])
 (.seq (.reg [⟨some 17, (.move (.tmp 0)), none⟩,
  ⟨some 18, (.nilCheck (.tmp 17)), none⟩,
  ⟨some 19, (.fieldAddr 77 (.tmp 18) 0), none⟩,
  ⟨some 20, (.fieldAddr 74 (.tmp 19) 2), none⟩,
  ⟨some 21, (.load 31 (.tmp 20)), none⟩,
  ⟨some 22, (.move (.tmp 9)), none⟩,
  ⟨some 23, (.indexAddr 31 (.tmp 21) (.tmp 22)), none⟩,
  ⟨some 24, (.fieldAddr 50 (.tmp 23) 0), none⟩,
  ⟨some 25, (.load 37 (.tmp 24)), none⟩,
  ⟨some 26, (.move (.tmp 2)), none⟩,
  ⟨some 27, (.indexAddr 37 (.tmp 25) (.tmp 26)), none⟩,
  ⟨some 28, (.load 3 (.tmp 27)), none⟩,
  ⟨some 10, (.assign (.tmp 28)), none⟩])
 (.block 2 (.seq (.reg [⟨some 30, (.move (.tmp 10)), none⟩,
  ⟨some 31, (.binOp .gtr 3 (.tmp 30) (.const (.int .i64 0)) 3), none⟩,
  ⟨some 29, (.assign (.tmp 31)), none⟩])
 (.cond (.tmp 29) (.reg [⟨some 32, (.move (.tmp 6)), none⟩,
  ⟨some 33, (.binOp .add 3 (.tmp 32) (.const (.int .i64 1)) 3), none⟩,
  ⟨some 6, (.assign (.tmp 33)), none⟩]) (.seq (.reg [⟨some 35, (.move (.tmp 10)), none⟩,
  ⟨some 36, (.binOp .lss 3 (.tmp 35) (.const (.int .i64 0)) 3), none⟩,
  ⟨some 34, (.assign (.tmp 36)), none⟩])
 (.cond (.tmp 34) (.reg [⟨some 37, (.move (.tmp 7)), none⟩,
  ⟨some 38, (.binOp .add 3 (.tmp 37) (.const (.int .i64 1)) 3), none⟩,
  ⟨some 7, (.assign (.tmp 38)), none⟩]) .skip))))))))
 (.reg [⟨some 39, (.binOp .add 3 (.tmp 13) (.const (.int .i64 1)) 3), none⟩,
  ⟨some 13, (.move (.tmp 39)), none⟩]))))
def c76_1 : ACode := (.seq (.reg [⟨some 40, (.move (.tmp 6)), none⟩,
  ⟨some 41, (.move (.tmp 7)), none⟩,
  ⟨some 6, (.assign (.tmp 40)), none⟩,
  ⟨some 7, (.assign (.tmp 41)), none⟩])
 .ret)
def c76 : ACode := (.seq (.reg [⟨some 6, (.assign (.const (.int .i64 0))), none⟩,
  ⟨some 7, (.assign (.const (.int .i64 0))), none⟩])
 (.seqL (.seq (.reg [⟨some 11, (.move (.tmp 1)), none⟩,
  ⟨some 12, (.call { callee := (.builtin .len), args := #[(.tmp 11)], argTypes := #[37] }), none⟩,
  ⟨some 13, (.move (.const (.int .i64 0))), none⟩])
 (.block 0 (.loop b76_1)))
 c76_1))
theorem fd76 : FnD Try.prog 76 42 [(.tmp 6), (.tmp 7)] c76 := ⟨⟨Try.f76, Try.f76.body.getD .skip, Try.func76, by kernel_rfl, by kernel_rfl, by kernel_rfl, by kernel_rfl⟩⟩
/-! f77 (*triforium/arith.refuter).pairs$1 -/
def b77_1 : ACode := (.seq (.reg [⟨some 18, (.binOp .lss 3 (.tmp 17) (.tmp 16) 3), none⟩])
 (.seq (.cond (.tmp 18) .skip (.exit 2))
 (.seq (.block 3 (.seq (.reg [⟨some 19, (.indexAddr 37 (.tmp 15) (.tmp 17)), none⟩,
  ⟨some 20, (.load 3 (.tmp 19)), none⟩,
  ⟨some 8, (.assign (.tmp 20)), none⟩])
 (.seq (.dreg (.tk ⟨some 21, (.load 71 (.tmp 2)), none⟩
  (.tk ⟨some 22, (.nilCheck (.tmp 21)), none⟩
  (.tk ⟨some 23, (.fieldAddr 77 (.tmp 22) 0), none⟩
  (.tk ⟨some 24, (.fieldAddr 74 (.tmp 23) 2), none⟩
  (.tk ⟨some 25, (.load 31 (.tmp 24)), none⟩
  (.tk ⟨some 26, (.move (.tmp 6)), none⟩
  (.tk ⟨some 27, (.indexAddr 31 (.tmp 25) (.tmp 26)), none⟩
  (.tk ⟨some 28, (.fieldAddr 50 (.tmp 27) 0), none⟩
  (.tk ⟨some 29, (.load 37 (.tmp 28)), none⟩
  (.tk ⟨some 30, (.load 3 (.tmp 3)), none⟩
  (.tk ⟨some 31, (.indexAddr 37 (.tmp 29) (.tmp 30)), none⟩
  (.tk ⟨some 32, (.load 3 (.tmp 31)), none⟩
  (.tk ⟨some 33, (.binOp .gtr 3 (.tmp 32) (.const (.int .i64 0)) 3), none⟩
  (.tk ⟨some 34, (.move (.tmp 33)), none⟩
  (.tk ⟨some 35, (.load 71 (.tmp 2)), some (34, true)⟩
  (.tk ⟨some 36, (.nilCheck (.tmp 35)), some (34, true)⟩
  (.tk ⟨some 37, (.fieldAddr 77 (.tmp 36) 0), some (34, true)⟩
  (.tk ⟨some 38, (.fieldAddr 74 (.tmp 37) 2), some (34, true)⟩
  (.tk ⟨some 39, (.load 31 (.tmp 38)), some (34, true)⟩
  (.tk ⟨some 40, (.move (.tmp 8)), some (34, true)⟩
  (.tk ⟨some 41, (.indexAddr 31 (.tmp 39) (.tmp 40)), some (34, true)⟩
  (.tk ⟨some 42, (.fieldAddr 50 (.tmp 41) 0), some (34, true)⟩
  (.tk ⟨some 43, (.load 37 (.tmp 42)), some (34, true)⟩
  (.tk ⟨some 44, (.load 3 (.tmp 3)), some (34, true)⟩
  (.tk ⟨some 45, (.indexAddr 37 (.tmp 43) (.tmp 44)), some (34, true)⟩
  (.tk ⟨some 46, (.load 3 (.tmp 45)), some (34, true)⟩
  (.tk ⟨some 47, (.binOp .lss 3 (.tmp 46) (.const (.int .i64 0)) 3), some (34, true)⟩
  (.tk ⟨some 48, (.pick (.tmp 34) (.tmp 47) (.const (.bool false))), none⟩
  (.tk ⟨some 49, (.move (.tmp 48)), none⟩
  (.tk ⟨some 50, (.move (.tmp 0)), some (49, true)⟩
  (.tk ⟨some 51, (.move (.tmp 6)), some (49, true)⟩
  (.cut ⟨some 52, (.move (.tmp 8)), some (49, true)⟩
  .fin)))))))))))))))))))))))))))))))) [⟨some 53, (.call { callee := (.value (.tmp 50)), args := #[(.tmp 51), (.tmp 52)], argTypes := #[3, 3] }), some (49, true)⟩,
  ⟨some 54, (.unOp .not 4 (.tmp 53)), some (49, true)⟩,
  ⟨some 55, (.pick (.tmp 49) (.tmp 54) (.const (.bool false))), none⟩])
 (.cond (.tmp 55) .ret .skip))))
 (.reg [⟨some 56, (.binOp .add 3 (.tmp 17) (.const (.int .i64 1)) 3), none⟩,
  ⟨some 17, (.move (.tmp 56)), none⟩]))))
def c77_1 : ACode := (.reg [⟨some 57, (.binOp .add 3 (.tmp 11) (.const (.int .i64 1)) 3), none⟩,
  ⟨some 11, (.move (.tmp 57)), none⟩])
def b77_2 : ACode := (.seq (.reg [⟨some 12, (.binOp .lss 3 (.tmp 11) (.tmp 10) 3), none⟩])
 (.seq (.cond (.tmp 12) .skip (.exit 0))
 (.seqL (.block 1 (.seq (.reg [⟨some 13, (.indexAddr 37 (.tmp 9) (.tmp 11)), none⟩,
  ⟨some 14, (.load 3 (.tmp 13)), none⟩,
  ⟨some 6, (.assign (.tmp 14)), none⟩])
 (.seq (.reg [⟨some 15, (.load 37 (.tmp 1)), none⟩,
  ⟨some 16, (.call { callee := (.builtin .len), args := #[(.tmp 15)], argTypes := #[37] }), none⟩,
  ⟨some 17, (.move (.const (.int .i64 0))), none⟩])
 (.block 2 (.loop b77_1)))))
 c77_1)))
def c77 : ACode := (.seq (.reg [⟨some 9, (.load 37 (.tmp 1)), none⟩,
  ⟨some 10, (.call { callee := (.builtin .len), args := #[(.tmp 9)], argTypes := #[37] }), none⟩,
  ⟨some 11, (.move (.const (.int .i64 0))), none⟩])
 (.block 0 (.loop b77_2)))
theorem fd77 : FnD Try.prog 77 58 [] c77 := ⟨⟨Try.f77, Try.f77.body.getD .skip, Try.func77, by kernel_rfl, by kernel_rfl, by kernel_rfl, by kernel_rfl⟩⟩
/-! f78 triforium/arith.common$1 -/
def c78 : ACode := (.seq (.reg [⟨some 5, (.assign (.const (.int .i64 0))), none⟩])
 (.seq (.seq (.reg [⟨some 6, (.move (.tmp 1)), none⟩,
  ⟨some 7, (.binOp .eql 3 (.tmp 6) (.const (.int .i64 0)) 3), none⟩])
 (.cond (.tmp 7) (.seq (.reg [⟨some 8, (.move (.tmp 0)), none⟩,
  ⟨some 9, (.move (.tmp 0)), none⟩,
  ⟨some 10, (.unOp .neg 3 (.tmp 9)), none⟩,
  ⟨some 11, (.call { callee := (.builtin .max), args := #[(.tmp 8), (.tmp 10)], argTypes := #[3, 3] }), none⟩,
  ⟨some 5, (.assign (.tmp 11)), none⟩])
 .ret) .skip))
 (.seq (.dreg (.tk ⟨some 12, (.load 112 (.tmp 2)), none⟩
  (.tk ⟨some 13, (.move (.tmp 1)), none⟩
  (.tk ⟨some 14, (.move (.tmp 0)), none⟩
  (.tk ⟨some 15, (.move (.tmp 1)), none⟩
  (.tk ⟨some 16, (.binOp .rem 3 (.tmp 14) (.tmp 15) 3), none⟩
  .fin))))) [⟨some 17, (.call { callee := (.value (.tmp 12)), args := #[(.tmp 13), (.tmp 16)], argTypes := #[3, 3] }), none⟩,
  ⟨some 5, (.assign (.tmp 17)), none⟩])
 .ret)))
theorem fd78 : FnD Try.prog 78 18 [(.tmp 5)] c78 := ⟨⟨Try.f78, Try.f78.body.getD .skip, Try.func78, by kernel_rfl, by kernel_rfl, by kernel_rfl, by kernel_rfl⟩⟩
/-! f79 triforium/triforiumref24.gcd -/
def b79_1 : ACode := (.seq (.seq (.reg [⟨some 5, (.move (.tmp 1)), none⟩,
  ⟨some 6, (.binOp .neq 3 (.tmp 5) (.const (.int .i64 0)) 3), none⟩])
 (.cond (.tmp 6) .skip (.exit 0)))
 (.block 1 (.dreg (.tk ⟨some 7, (.move (.tmp 1)), none⟩
  (.tk ⟨some 8, (.move (.tmp 0)), none⟩
  (.tk ⟨some 9, (.move (.tmp 1)), none⟩
  (.tk ⟨some 10, (.binOp .rem 3 (.tmp 8) (.tmp 9) 3), none⟩
  (.tk ⟨some 0, (.assign (.tmp 7)), none⟩
  .fin))))) [⟨some 1, (.assign (.tmp 10)), none⟩])))
def c79_1 : ACode := (.seq (.reg [⟨some 11, (.move (.tmp 0)), none⟩,
  ⟨some 12, (.move (.tmp 0)), none⟩,
  ⟨some 13, (.unOp .neg 3 (.tmp 12)), none⟩,
  ⟨some 14, (.call { callee := (.builtin .max), args := #[(.tmp 11), (.tmp 13)], argTypes := #[3, 3] }), none⟩,
  ⟨some 4, (.assign (.tmp 14)), none⟩])
 .ret)
def c79 : ACode := (.seq (.reg [⟨some 4, (.assign (.const (.int .i64 0))), none⟩])
 (.seqL (.block 0 (.loop b79_1))
 c79_1))
theorem fd79 : FnD Try.prog 79 15 [(.tmp 4)] c79 := ⟨⟨Try.f79, Try.f79.body.getD .skip, Try.func79, by kernel_rfl, by kernel_rfl, by kernel_rfl, by kernel_rfl⟩⟩
/-! f80 slices.IndexFunc[[]triforium/arith.Row,triforium/arith.Row] -/
def c80 : ACode := (.seq (.reg [⟨some 4, (.assign (.const (.int .i64 0))), none⟩])
 (.seqL (.seq (.reg [⟨some 6, (.move (.tmp 0)), none⟩,
  ⟨some 7, (.call { callee := (.builtin .len), args := #[(.tmp 6)], argTypes := #[31] }), none⟩,
  ⟨some 8, (.move (.const (.int .i64 0))), none⟩])
 (.block 0 (.loop (.seq (.reg [⟨some 9, (.binOp .lss 3 (.tmp 8) (.tmp 7) 3), none⟩])
 (.seq (.cond (.tmp 9) .skip (.exit 0))
 (.seq (.block 1 (.seq (.reg [⟨some 10, (.move (.tmp 8)), none⟩,
  ⟨some 5, (.assign (.tmp 10)), none⟩])
 (.seq (.reg [⟨some 11, (.move (.tmp 1)), none⟩,
  ⟨some 12, (.move (.tmp 0)), none⟩,
  ⟨some 13, (.move (.tmp 5)), none⟩,
  ⟨some 14, (.indexAddr 31 (.tmp 12) (.tmp 13)), none⟩,
  ⟨some 15, (.load 50 (.tmp 14)), none⟩,
  ⟨some 16, (.call { callee := (.value (.tmp 11)), args := #[(.tmp 15)], argTypes := #[50] }), none⟩])
 (.cond (.tmp 16) (.seq (.reg [⟨some 17, (.move (.tmp 5)), none⟩,
  ⟨some 4, (.assign (.tmp 17)), none⟩])
 .ret) .skip))))
 (.reg [⟨some 18, (.binOp .add 3 (.tmp 8) (.const (.int .i64 1)) 3), none⟩,
  ⟨some 8, (.move (.tmp 18)), none⟩])))))))
 (.seq (.reg [⟨some 4, (.assign (.const (.int .i64 (-1)))), none⟩])
 .ret)))
theorem fd80 : FnD Try.prog 80 19 [(.tmp 4)] c80 := ⟨⟨Try.f80, Try.f80.body.getD .skip, Try.func80, by kernel_rfl, by kernel_rfl, by kernel_rfl, by kernel_rfl⟩⟩
end Go.PV.Ytefpjfpelicedaa
end
