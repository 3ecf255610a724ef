/- Part 3 of 9 of what the proof of Matches needs. -/
import Derived.Test.YtglpmlbbaedbiaaMatches2
import Derived.Test.YtglpmlbbaedbiaaProg
import Derived.KernelRfl
section
/- The code of some functions, in a form of our own, and facts on types: made by gen.py. -/
set_option maxRecDepth 100000
namespace Go.PV.Ytglpmlbbaedbiaa
open Go Go.Proofs
theorem mixed : Try.prog.follows .mixedOrders = true := by kernel_rfl
theorem ldT_24 : ldT Try.prog 24 = some (3, true) := by kernel_rfl
theorem en_7 : enterable Try.prog 7 = true := by kernel_rfl
theorem elT_25 : elT Try.prog 25 = some (28, 3, 48) := by kernel_rfl
theorem ldT_28 : ldT Try.prog 28 = some (3, true) := by kernel_rfl
theorem zeroT_28 : zeroT Try.prog 28 = some [(.int .i64 0), (.string ⟨#[]⟩), (.slice none 0 0)] := by kernel_rfl
theorem szT_28 : szT Try.prog 28 = some 3 := by kernel_rfl
theorem en_8 : enterable Try.prog 8 = true := by kernel_rfl
theorem en_9 : enterable Try.prog 9 = true := by kernel_rfl
theorem en_11 : enterable Try.prog 11 = true := by kernel_rfl
theorem en_12 : enterable Try.prog 12 = true := by kernel_rfl
theorem en_10 : enterable Try.prog 10 = true := by kernel_rfl
theorem zeroT_34 : zeroT Try.prog 34 = some [(.int .i64 0), (.string ⟨#[]⟩), (.slice none 0 0)] := by kernel_rfl
theorem szT_34 : szT Try.prog 34 = some 3 := by kernel_rfl
theorem flT_24_2 : flT Try.prog 24 2 = some (2, 1, false) := by kernel_rfl
theorem ldT_22 : ldT Try.prog 22 = some (1, false) := by kernel_rfl
theorem elT_22 : elT Try.prog 22 = some (46, 4, 72) := by kernel_rfl
theorem zeroT_46 : zeroT Try.prog 46 = some [(.slice none 0 0), (.int .i64 0), (.string ⟨#[]⟩), (.slice none 0 0)] := by kernel_rfl
theorem ldT_3 : ldT Try.prog 3 = some (1, false) := by kernel_rfl
theorem flT_24_1 : flT Try.prog 24 1 = some (1, 1, false) := by kernel_rfl
theorem ldT_9 : ldT Try.prog 9 = some (1, false) := by kernel_rfl
theorem flT_24_0 : flT Try.prog 24 0 = some (0, 1, false) := by kernel_rfl
theorem ldT_34 : ldT Try.prog 34 = some (3, true) := by kernel_rfl
theorem en_15 : enterable Try.prog 15 = true := by kernel_rfl
theorem ldT_50 : ldT Try.prog 50 = some (3, true) := by kernel_rfl
theorem en_16 : enterable Try.prog 16 = true := by kernel_rfl
theorem en_18 : enterable Try.prog 18 = true := by kernel_rfl
theorem en_17 : enterable Try.prog 17 = true := by kernel_rfl
theorem en_19 : enterable Try.prog 19 = true := by kernel_rfl
theorem en_20 : enterable Try.prog 20 = true := by kernel_rfl
theorem en_21 : enterable Try.prog 21 = true := by kernel_rfl
theorem en_22 : enterable Try.prog 22 = true := by kernel_rfl
theorem en_23 : enterable Try.prog 23 = true := by kernel_rfl
theorem en_25 : enterable Try.prog 25 = true := by kernel_rfl
theorem ldT_46 : ldT Try.prog 46 = some (4, true) := by kernel_rfl
theorem szT_46 : szT Try.prog 46 = some 4 := by kernel_rfl
theorem flT_46_1 : flT Try.prog 46 1 = some (1, 3, true) := by kernel_rfl
theorem flT_46_0 : flT Try.prog 46 0 = some (0, 1, false) := by kernel_rfl
theorem ldT_44 : ldT Try.prog 44 = some (1, false) := by kernel_rfl
theorem elT_44 : elT Try.prog 44 = some (50, 3, 48) := by kernel_rfl
theorem zeroT_50 : zeroT Try.prog 50 = some [(.bool false), (.string ⟨#[]⟩), (.slice none 0 0)] := by kernel_rfl
theorem szT_50 : szT Try.prog 50 = some 3 := by kernel_rfl
theorem en_29 : enterable Try.prog 29 = true := by kernel_rfl
theorem en_30 : enterable Try.prog 30 = true := by kernel_rfl
theorem en_31 : enterable Try.prog 31 = true := by kernel_rfl
theorem en_32 : enterable Try.prog 32 = true := by kernel_rfl
theorem stT_57 : stT Try.prog 57 = some ([(.bool false), (.string ⟨#[]⟩), (.slice none 0 0)], [(0, 1), (1, 1), (2, 1)]) := by kernel_rfl
theorem zeroT_57 : zeroT Try.prog 57 = some [(.bool false), (.string ⟨#[]⟩), (.slice none 0 0)] := by kernel_rfl
theorem szT_57 : szT Try.prog 57 = some 3 := by kernel_rfl
theorem zeroT_40 : zeroT Try.prog 40 = some [(.string ⟨#[]⟩), (.int .i64 0), (.slice none 0 0)] := by kernel_rfl
theorem stT_40 : stT Try.prog 40 = some ([(.string ⟨#[]⟩), (.int .i64 0), (.slice none 0 0)], [(0, 1), (1, 1), (2, 1)]) := by kernel_rfl
theorem elT_38 : elT Try.prog 38 = some (93, 4, 72) := by kernel_rfl
theorem zeroT_93 : zeroT Try.prog 93 = some [(.slice none 0 0), (.int .i64 0), (.string ⟨#[]⟩), (.slice none 0 0)] := by kernel_rfl
theorem stT_93 : stT Try.prog 93 = some ([(.slice none 0 0), (.int .i64 0), (.string ⟨#[]⟩), (.slice none 0 0)], [(0, 1), (1, 3)]) := by kernel_rfl
theorem elT_32 : elT Try.prog 32 = some (34, 3, 48) := by kernel_rfl
theorem elT_55 : elT Try.prog 55 = some (57, 3, 48) := by kernel_rfl
theorem ldT_57 : ldT Try.prog 57 = some (3, true) := by kernel_rfl
theorem flT_34_1 : flT Try.prog 34 1 = some (1, 1, false) := by kernel_rfl
theorem flT_34_2 : flT Try.prog 34 2 = some (2, 1, false) := by kernel_rfl
theorem ldT_32 : ldT Try.prog 32 = some (1, false) := by kernel_rfl
theorem flT_40_1 : flT Try.prog 40 1 = some (1, 1, false) := by kernel_rfl
theorem stT_34 : stT Try.prog 34 = some ([(.int .i64 0), (.string ⟨#[]⟩), (.slice none 0 0)], [(0, 1), (1, 1), (2, 1)]) := by kernel_rfl
theorem flT_40_2 : flT Try.prog 40 2 = some (2, 1, false) := by kernel_rfl
theorem ldT_38 : ldT Try.prog 38 = some (1, false) := by kernel_rfl
theorem ldT_93 : ldT Try.prog 93 = some (4, true) := by kernel_rfl
theorem szT_93 : szT Try.prog 93 = some 4 := by kernel_rfl
theorem flT_93_0 : flT Try.prog 93 0 = some (0, 1, false) := by kernel_rfl
theorem ldT_55 : ldT Try.prog 55 = some (1, false) := by kernel_rfl
theorem en_34 : enterable Try.prog 34 = true := by kernel_rfl
theorem en_33 : enterable Try.prog 33 = true := by kernel_rfl
theorem en_35 : enterable Try.prog 35 = true := by kernel_rfl
theorem flT_93_1 : flT Try.prog 93 1 = some (1, 3, true) := by kernel_rfl
theorem en_36 : enterable Try.prog 36 = true := by kernel_rfl
theorem szT_40 : szT Try.prog 40 = some 3 := by kernel_rfl
theorem szT_55 : szT Try.prog 55 = some 1 := by kernel_rfl
theorem szT_38 : szT Try.prog 38 = some 1 := by kernel_rfl
theorem ldT_40 : ldT Try.prog 40 = some (3, true) := by kernel_rfl
theorem flT_34_0 : flT Try.prog 34 0 = some (0, 1, false) := by kernel_rfl
theorem flT_50_2 : flT Try.prog 50 2 = some (2, 1, false) := by kernel_rfl
theorem elT_96 : elT Try.prog 96 = some (102, 4, 64) := by kernel_rfl
theorem und_96 : Try.prog.underlying 96 = some (.slice 102) := by kernel_rfl
theorem ldT_102 : ldT Try.prog 102 = some (4, true) := by kernel_rfl
theorem zeroT_102 : zeroT Try.prog 102 = some [(.string ⟨#[]⟩), (.int .i64 0), (.string ⟨#[]⟩), (.slice none 0 0)] := by kernel_rfl
theorem szT_102 : szT Try.prog 102 = some 4 := by kernel_rfl
theorem elT_52 : elT Try.prog 52 = some (9, 1, 16) := by kernel_rfl
theorem zeroT_9 : zeroT Try.prog 9 = some [(.string ⟨#[]⟩)] := by kernel_rfl
theorem flT_102_1 : flT Try.prog 102 1 = some (1, 3, true) := by kernel_rfl
theorem flT_102_0 : flT Try.prog 102 0 = some (0, 1, false) := by kernel_rfl
theorem flT_50_0 : flT Try.prog 50 0 = some (0, 1, false) := by kernel_rfl
theorem ldT_4 : ldT Try.prog 4 = some (1, false) := by kernel_rfl
theorem flT_50_1 : flT Try.prog 50 1 = some (1, 1, false) := by kernel_rfl
theorem flT_57_2 : flT Try.prog 57 2 = some (2, 1, false) := by kernel_rfl
theorem flT_28_0 : flT Try.prog 28 0 = some (0, 1, false) := by kernel_rfl
theorem flT_28_1 : flT Try.prog 28 1 = some (1, 1, false) := by kernel_rfl
theorem flT_28_2 : flT Try.prog 28 2 = some (2, 1, false) := by kernel_rfl
theorem ldT_25 : ldT Try.prog 25 = some (1, false) := by kernel_rfl
theorem szT_32 : szT Try.prog 32 = some 1 := by kernel_rfl
theorem en_39 : enterable Try.prog 39 = true := by kernel_rfl
theorem en_38 : enterable Try.prog 38 = true := by kernel_rfl
theorem en_40 : enterable Try.prog 40 = true := by kernel_rfl
theorem elT_104 : elT Try.prog 104 = some (108, 4, 64) := by kernel_rfl
theorem flT_108_0 : flT Try.prog 108 0 = some (0, 1, false) := by kernel_rfl
theorem flT_108_1 : flT Try.prog 108 1 = some (1, 3, true) := by kernel_rfl
theorem stT_28 : stT Try.prog 28 = some ([(.int .i64 0), (.string ⟨#[]⟩), (.slice none 0 0)], [(0, 1), (1, 1), (2, 1)]) := by kernel_rfl
theorem en_41 : enterable Try.prog 41 = true := by kernel_rfl
theorem en_42 : enterable Try.prog 42 = true := by kernel_rfl
theorem en_43 : enterable Try.prog 43 = true := by kernel_rfl
theorem en_44 : enterable Try.prog 44 = true := by kernel_rfl
theorem en_45 : enterable Try.prog 45 = true := by kernel_rfl
theorem en_46 : enterable Try.prog 46 = true := by kernel_rfl
theorem en_47 : enterable Try.prog 47 = true := by kernel_rfl
theorem en_49 : enterable Try.prog 49 = true := by kernel_rfl
theorem en_51 : enterable Try.prog 51 = true := by kernel_rfl
theorem flT_57_0 : flT Try.prog 57 0 = some (0, 1, false) := by kernel_rfl
theorem flT_57_1 : flT Try.prog 57 1 = some (1, 1, false) := by kernel_rfl
theorem stT_102 : stT Try.prog 102 = some ([(.string ⟨#[]⟩), (.int .i64 0), (.string ⟨#[]⟩), (.slice none 0 0)], [(0, 1), (1, 3)]) := by kernel_rfl
theorem en_52 : enterable Try.prog 52 = true := by kernel_rfl
theorem en_54 : enterable Try.prog 54 = true := by kernel_rfl
theorem en_55 : enterable Try.prog 55 = true := by kernel_rfl
theorem en_53 : enterable Try.prog 53 = true := by kernel_rfl
theorem en_56 : enterable Try.prog 56 = true := by kernel_rfl
theorem zeroT_108 : zeroT Try.prog 108 = some [(.string ⟨#[]⟩), (.int .i64 0), (.string ⟨#[]⟩), (.slice none 0 0)] := by kernel_rfl
theorem stT_108 : stT Try.prog 108 = some ([(.string ⟨#[]⟩), (.int .i64 0), (.string ⟨#[]⟩), (.slice none 0 0)], [(0, 1), (1, 3)]) := by kernel_rfl
theorem en_57 : enterable Try.prog 57 = true := by kernel_rfl
theorem en_58 : enterable Try.prog 58 = true := by kernel_rfl
theorem en_59 : enterable Try.prog 59 = true := by kernel_rfl
theorem en_60 : enterable Try.prog 60 = true := by kernel_rfl
theorem en_61 : enterable Try.prog 61 = true := by kernel_rfl
theorem en_62 : enterable Try.prog 62 = true := by kernel_rfl
theorem en_63 : enterable Try.prog 63 = true := by kernel_rfl
theorem en_64 : enterable Try.prog 64 = true := by kernel_rfl
theorem en_65 : enterable Try.prog 65 = true := by kernel_rfl
theorem en_66 : enterable Try.prog 66 = true := by kernel_rfl
theorem en_76 : enterable Try.prog 76 = true := by kernel_rfl
theorem ldT_108 : ldT Try.prog 108 = some (4, true) := by kernel_rfl
theorem szT_25 : szT Try.prog 25 = some 1 := by kernel_rfl
theorem en_77 : enterable Try.prog 77 = true := by kernel_rfl
theorem en_78 : enterable Try.prog 78 = true := by kernel_rfl
theorem en_79 : enterable Try.prog 79 = true := by kernel_rfl
theorem en_80 : enterable Try.prog 80 = true := by kernel_rfl
theorem en_81 : enterable Try.prog 81 = true := by kernel_rfl
theorem en_82 : enterable Try.prog 82 = true := by kernel_rfl
theorem en_83 : enterable Try.prog 83 = true := by kernel_rfl
theorem en_84 : enterable Try.prog 84 = true := by kernel_rfl
theorem en_85 : enterable Try.prog 85 = true := by kernel_rfl
theorem en_86 : enterable Try.prog 86 = true := by kernel_rfl
theorem ldT_96 : ldT Try.prog 96 = some (1, false) := by kernel_rfl
theorem en_88 : enterable Try.prog 88 = true := by kernel_rfl
theorem en_89 : enterable Try.prog 89 = true := by kernel_rfl
theorem en_90 : enterable Try.prog 90 = true := by kernel_rfl
theorem en_93 : enterable Try.prog 93 = true := by kernel_rfl
theorem en_92 : enterable Try.prog 92 = true := by kernel_rfl
theorem en_95 : enterable Try.prog 95 = true := by kernel_rfl
theorem en_94 : enterable Try.prog 94 = true := by kernel_rfl
theorem en_96 : enterable Try.prog 96 = true := by kernel_rfl
theorem en_97 : enterable Try.prog 97 = true := by kernel_rfl
theorem en_98 : enterable Try.prog 98 = true := by kernel_rfl
theorem en_100 : enterable Try.prog 100 = true := by kernel_rfl
theorem en_99 : enterable Try.prog 99 = true := by kernel_rfl
theorem en_101 : enterable Try.prog 101 = true := by kernel_rfl
theorem en_102 : enterable Try.prog 102 = true := by kernel_rfl
theorem en_103 : enterable Try.prog 103 = true := by kernel_rfl
theorem en_105 : enterable Try.prog 105 = true := by kernel_rfl
theorem en_91 : enterable Try.prog 91 = true := by kernel_rfl
theorem en_106 : enterable Try.prog 106 = true := by kernel_rfl
theorem en_107 : enterable Try.prog 107 = true := by kernel_rfl
theorem en_108 : enterable Try.prog 108 = true := by kernel_rfl
theorem en_109 : enterable Try.prog 109 = true := by kernel_rfl
theorem en_110 : enterable Try.prog 110 = true := by kernel_rfl
theorem en_111 : enterable Try.prog 111 = true := by kernel_rfl
theorem en_112 : enterable Try.prog 112 = true := by kernel_rfl
theorem en_114 : enterable Try.prog 114 = true := by kernel_rfl
theorem en_113 : enterable Try.prog 113 = true := by kernel_rfl
theorem en_115 : enterable Try.prog 115 = true := by kernel_rfl
/-! f3 triforium/triforiumlaw40.EvaluateClauses -/
def b3_1 : ACode := (.seq (.reg [⟨some 25, (.binOp .lss 3 (.tmp 24) (.tmp 23) 3), none⟩])
 (.seq (.cond (.tmp 25) .skip (.exit 0))
 (.seq (.block 1 (.seq (.reg [⟨some 26, (.indexAddr 25 (.tmp 22) (.tmp 24)), none⟩,
  ⟨some 27, (.load 28 (.tmp 26)), none⟩,
  ⟨some 9, (.alloc 28), none⟩,
  ⟨none, (.store 28 (.tmp 9) (.tmp 27)), none⟩])
 (.seq (.reg [⟨some 29, (.load 28 (.tmp 9)), none⟩,
  ⟨some 30, (.call { callee := (.value (.func 8)), args := #[(.tmp 29)], argTypes := #[28] }), none⟩,
  ⟨some 28, (.move (.tmp 30)), none⟩,
  ⟨some 31, (.extract (.tmp 28) 0), none⟩,
  ⟨some 32, (.extract (.tmp 28) 1), none⟩,
  ⟨some 10, (.assign (.tmp 31)), none⟩,
  ⟨some 11, (.assign (.tmp 32)), none⟩])
 (.reg [⟨some 33, (.move (.tmp 7)), none⟩,
  ⟨some 34, (.move (.tmp 10)), none⟩,
  ⟨some 35, (.binOp .add 3 (.tmp 33) (.tmp 34) 3), none⟩,
  ⟨some 7, (.assign (.tmp 35)), none⟩]))))
 (.reg [⟨some 36, (.binOp .add 3 (.tmp 24) (.const (.int .i64 1)) 3), none⟩,
  ⟨some 24, (.move (.tmp 36)), none⟩]))))
def c3_1 : ACode := (.seq (.seq (.reg [⟨some 37, (.move (.tmp 7)), none⟩,
  ⟨some 38, (.binOp .gtr 3 (.tmp 37) (.const (.int .i64 300)) 3), none⟩])
 (.cond (.tmp 38) (.seq (.reg [⟨some 39, (.call { callee := (.value (.func 9)), args := #[], argTypes := #[] }), none⟩,
  ⟨some 6, (.assign (.tmp 39)), none⟩])
 .ret) .skip))
 (.seq (.reg [⟨some 41, (.load 24 (.tmp 3)), none⟩,
  ⟨some 42, (.call { callee := (.value (.func 11)), args := #[(.tmp 41)], argTypes := #[24] }), none⟩,
  ⟨some 43, (.move (.tmp 1)), none⟩,
  ⟨some 44, (.call { callee := (.value (.func 12)), args := #[(.tmp 43)], argTypes := #[25] }), none⟩,
  ⟨some 45, (.call { callee := (.value (.func 10)), args := #[(.tmp 42), (.tmp 44)], argTypes := #[40, 32] }), none⟩,
  ⟨some 40, (.move (.tmp 45)), none⟩,
  ⟨some 46, (.extract (.tmp 40) 0), none⟩,
  ⟨some 47, (.extract (.tmp 40) 1), none⟩,
  ⟨some 48, (.extract (.tmp 40) 2), none⟩,
  ⟨some 13, (.alloc 34), none⟩,
  ⟨some 12, (.assign (.tmp 46)), none⟩,
  ⟨none, (.store 34 (.tmp 13) (.tmp 47)), none⟩,
  ⟨some 14, (.assign (.tmp 48)), none⟩])
 (.seq (.seq (.reg [⟨some 49, (.move (.tmp 14)), none⟩,
  ⟨some 50, (.binOp .neq 35 (.tmp 49) (.const (.int .i64 0)) 35), none⟩,
  ⟨some 51, (.move (.tmp 50)), none⟩,
  ⟨some 52, (.move (.tmp 12)), some (51, false)⟩,
  ⟨some 53, (.fieldAddr 24 (.tmp 3) 2), some (51, false)⟩,
  ⟨some 54, (.load 22 (.tmp 53)), some (51, false)⟩,
  ⟨some 55, (.call { callee := (.builtin .len), args := #[(.tmp 54)], argTypes := #[22] }), some (51, false)⟩,
  ⟨some 56, (.binOp .sub 3 (.tmp 55) (.const (.int .i64 1)) 3), some (51, false)⟩,
  ⟨some 57, (.binOp .geq 3 (.tmp 52) (.tmp 56) 3), some (51, false)⟩,
  ⟨some 58, (.pick (.tmp 51) (.const (.bool true)) (.tmp 57)), none⟩,
  ⟨some 59, (.move (.tmp 58)), none⟩,
  ⟨some 60, (.move (.tmp 12)), some (59, false)⟩,
  ⟨some 61, (.binOp .lss 3 (.tmp 60) (.const (.int .i64 0)) 3), some (59, false)⟩,
  ⟨some 62, (.pick (.tmp 59) (.const (.bool true)) (.tmp 61)), none⟩])
 (.cond (.tmp 62) (.seq (.reg [⟨some 63, (.call { callee := (.value (.func 9)), args := #[], argTypes := #[] }), none⟩,
  ⟨some 6, (.assign (.tmp 63)), none⟩])
 .ret) .skip))
 (.seq (.reg [⟨some 64, (.move (.tmp 12)), none⟩,
  ⟨some 65, (.binOp .add 3 (.tmp 64) (.const (.int .i64 1)) 3), none⟩,
  ⟨some 66, (.move (.tmp 2)), none⟩,
  ⟨some 67, (.convert 5 3 (.tmp 66)), none⟩,
  ⟨some 68, (.fieldAddr 24 (.tmp 3) 2), none⟩,
  ⟨some 69, (.load 22 (.tmp 68)), none⟩,
  ⟨some 70, (.call { callee := (.builtin .len), args := #[(.tmp 69)], argTypes := #[22] }), none⟩,
  ⟨some 71, (.move (.tmp 12)), none⟩,
  ⟨some 72, (.binOp .sub 3 (.tmp 70) (.tmp 71) 3), none⟩,
  ⟨some 73, (.binOp .sub 3 (.tmp 72) (.const (.int .i64 1)) 3), none⟩,
  ⟨some 74, (.binOp .rem 3 (.tmp 67) (.tmp 73) 3), none⟩,
  ⟨some 75, (.binOp .add 3 (.tmp 65) (.tmp 74) 3), none⟩,
  ⟨some 15, (.assign (.tmp 75)), none⟩])
 (.seq (.dreg (.tk 0 ⟨some 76, (.fieldAddr 24 (.tmp 3) 0), none⟩
  (.tk 1 ⟨some 77, (.load 9 (.tmp 76)), none⟩
  (.tk 2 ⟨some 78, (.fieldAddr 24 (.tmp 3) 1), none⟩
  (.tk 3 ⟨some 79, (.load 3 (.tmp 78)), none⟩
  (.tk 4 ⟨some 80, (.fieldAddr 24 (.tmp 3) 2), none⟩
  (.tk 5 ⟨some 81, (.load 22 (.tmp 80)), none⟩
  (.tk 6 ⟨some 82, (.move (.tmp 15)), none⟩
  (.tk 7 ⟨some 83, (.slice 22 (.tmp 81) none (some (.tmp 82)) none), none⟩
  (.tk 9 ⟨some 85, (.fieldAddr 24 (.tmp 3) 2), none⟩
  (.tk 10 ⟨some 86, (.load 22 (.tmp 85)), none⟩
  (.tk 11 ⟨some 87, (.move (.tmp 15)), none⟩
  (.tk 12 ⟨some 88, (.binOp .add 3 (.tmp 87) (.const (.int .i64 1)) 3), none⟩
  (.tk 13 ⟨some 89, (.slice 22 (.tmp 86) (some (.tmp 88)) none none), none⟩
  (.two [0, 1, 2, 3, 8, 9, 10, 11, 12, 13, 14, 15, 16, 17] ⟨some 84, (.call { callee := (.value (.func 13)), args := #[(.tmp 83)], argTypes := #[22] }), none⟩
  (.two [0, 1, 2, 3, 14, 15, 16, 17] ⟨some 90, (.call { callee := (.builtin .append), args := #[(.tmp 84), (.tmp 89)], argTypes := #[22, 22] }), none⟩
  (.tk 15 ⟨some 91, (.build 24 #[(0, (.tmp 77)), (1, (.tmp 79)), (2, (.tmp 90))]), none⟩
  (.one [0, 1, 2, 3, 4, 5, 6, 7, 8, 9, 10, 11, 12, 13, 14, 15, 16, 17] ⟨some 16, (.alloc 24), none⟩
  .fin))
  [0, 1, 2, 3, 4, 5, 6, 7, 8, 9, 10, 11, 12, 13, 14, 15, 16, 17] ⟨some 16, (.alloc 24), none⟩
  (.one [0, 1, 2, 3, 14, 15, 16, 17] ⟨some 90, (.call { callee := (.builtin .append), args := #[(.tmp 84), (.tmp 89)], argTypes := #[22, 22] }), none⟩
  (.tk 15 ⟨some 91, (.build 24 #[(0, (.tmp 77)), (1, (.tmp 79)), (2, (.tmp 90))]), none⟩
  .fin)))
  [0, 1, 2, 3, 4, 5, 6, 7, 8, 9, 10, 11, 12, 13, 14, 15, 16, 17] ⟨some 16, (.alloc 24), none⟩
  (.one [0, 1, 2, 3, 8, 9, 10, 11, 12, 13, 14, 15, 16, 17] ⟨some 84, (.call { callee := (.value (.func 13)), args := #[(.tmp 83)], argTypes := #[22] }), none⟩
  (.one [0, 1, 2, 3, 14, 15, 16, 17] ⟨some 90, (.call { callee := (.builtin .append), args := #[(.tmp 84), (.tmp 89)], argTypes := #[22, 22] }), none⟩
  (.tk 15 ⟨some 91, (.build 24 #[(0, (.tmp 77)), (1, (.tmp 79)), (2, (.tmp 90))]), none⟩
  .fin))))))))))))))))) [⟨none, (.store 24 (.tmp 16) (.tmp 91)), none⟩])
 (.seq (.reg [⟨some 93, (.load 24 (.tmp 16)), none⟩,
  ⟨some 94, (.call { callee := (.value (.func 11)), args := #[(.tmp 93)], argTypes := #[24] }), none⟩,
  ⟨some 95, (.move (.tmp 1)), none⟩,
  ⟨some 96, (.call { callee := (.value (.func 12)), args := #[(.tmp 95)], argTypes := #[25] }), none⟩,
  ⟨some 97, (.call { callee := (.value (.func 10)), args := #[(.tmp 94), (.tmp 96)], argTypes := #[40, 32] }), none⟩,
  ⟨some 92, (.move (.tmp 97)), none⟩,
  ⟨some 98, (.extract (.tmp 92) 0), none⟩,
  ⟨some 99, (.extract (.tmp 92) 1), none⟩,
  ⟨some 100, (.extract (.tmp 92) 2), none⟩,
  ⟨some 18, (.alloc 34), none⟩,
  ⟨some 17, (.assign (.tmp 98)), none⟩,
  ⟨none, (.store 34 (.tmp 18) (.tmp 99)), none⟩,
  ⟨some 19, (.assign (.tmp 100)), none⟩])
 (.seq (.reg [⟨some 101, (.move (.tmp 19)), none⟩,
  ⟨some 102, (.binOp .eql 35 (.tmp 101) (.const (.int .i64 0)) 35), none⟩,
  ⟨some 103, (.move (.tmp 102)), none⟩,
  ⟨some 104, (.move (.tmp 17)), some (103, true)⟩,
  ⟨some 105, (.move (.tmp 12)), some (103, true)⟩,
  ⟨some 106, (.binOp .eql 3 (.tmp 104) (.tmp 105) 3), some (103, true)⟩,
  ⟨some 107, (.pick (.tmp 103) (.tmp 106) (.const (.bool false))), none⟩,
  ⟨some 108, (.move (.tmp 107)), none⟩,
  ⟨some 109, (.load 34 (.tmp 18)), some (108, true)⟩,
  ⟨some 110, (.load 34 (.tmp 13)), some (108, true)⟩,
  ⟨some 111, (.call { callee := (.value (.func 14)), args := #[(.tmp 109), (.tmp 110)], argTypes := #[34, 34] }), some (108, true)⟩,
  ⟨some 112, (.pick (.tmp 108) (.tmp 111) (.const (.bool false))), none⟩,
  ⟨some 113, (.move (.tmp 112)), none⟩,
  ⟨some 114, (.call { callee := (.value (.func 9)), args := #[], argTypes := #[] }), some (113, true)⟩,
  ⟨some 115, (.pick (.tmp 113) (.tmp 114) (.const (.bool false))), none⟩,
  ⟨some 6, (.assign (.tmp 115)), none⟩])
 .ret)))))))
def c3 : ACode := (.seq (.reg [⟨some 3, (.box 24 (.tmp 0)), none⟩,
  ⟨some 6, (.assign (.const (.bool false))), none⟩])
 (.seq (.reg [⟨some 20, (.load 24 (.tmp 3)), none⟩,
  ⟨some 21, (.call { callee := (.value (.func 7)), args := #[(.tmp 20)], argTypes := #[24] }), none⟩,
  ⟨some 7, (.assign (.tmp 21)), none⟩])
 (.seqL (.seq (.reg [⟨some 22, (.move (.tmp 1)), none⟩,
  ⟨some 23, (.call { callee := (.builtin .len), args := #[(.tmp 22)], argTypes := #[25] }), none⟩,
  ⟨some 24, (.move (.const (.int .i64 0))), none⟩])
 (.block 0 (.loop b3_1)))
 c3_1)))
/-! f4 triforium/triforiumlaw40.EvaluateMatches -/
def b4_1 : ACode := (.seq (.reg [⟨some 36, (.binOp .lss 3 (.tmp 35) (.tmp 34) 3), none⟩])
 (.seq (.cond (.tmp 36) .skip (.exit 0))
 (.seq (.block 1 (.seq (.reg [⟨some 37, (.indexAddr 25 (.tmp 33) (.tmp 35)), none⟩,
  ⟨some 38, (.load 28 (.tmp 37)), none⟩,
  ⟨some 9, (.alloc 28), none⟩,
  ⟨none, (.store 28 (.tmp 9) (.tmp 38)), none⟩])
 (.seq (.reg [⟨some 40, (.load 28 (.tmp 9)), none⟩,
  ⟨some 41, (.call { callee := (.value (.func 8)), args := #[(.tmp 40)], argTypes := #[28] }), none⟩,
  ⟨some 39, (.move (.tmp 41)), none⟩,
  ⟨some 42, (.extract (.tmp 39) 0), none⟩,
  ⟨some 43, (.extract (.tmp 39) 1), none⟩,
  ⟨some 10, (.assign (.tmp 42)), none⟩,
  ⟨some 11, (.assign (.tmp 43)), none⟩])
 (.reg [⟨some 44, (.move (.tmp 7)), none⟩,
  ⟨some 45, (.move (.tmp 10)), none⟩,
  ⟨some 46, (.binOp .add 3 (.tmp 44) (.tmp 45) 3), none⟩,
  ⟨some 7, (.assign (.tmp 46)), none⟩]))))
 (.reg [⟨some 47, (.binOp .add 3 (.tmp 35) (.const (.int .i64 1)) 3), none⟩,
  ⟨some 35, (.move (.tmp 47)), none⟩]))))
def b4_2 : ACode := (.seq (.reg [⟨some 54, (.binOp .lss 3 (.tmp 53) (.tmp 52) 3), none⟩])
 (.seq (.cond (.tmp 54) .skip (.exit 2))
 (.seq (.block 3 (.seq (.reg [⟨some 55, (.indexAddr 25 (.tmp 51) (.tmp 53)), none⟩,
  ⟨some 56, (.load 28 (.tmp 55)), none⟩,
  ⟨some 13, (.alloc 28), none⟩,
  ⟨none, (.store 28 (.tmp 13) (.tmp 56)), none⟩])
 (.seq (.dreg (.tk 0 ⟨some 58, (.load 50 (.tmp 3)), none⟩
  (.tk 2 ⟨some 60, (.load 28 (.tmp 13)), none⟩
  (.one [1, 2, 3, 4, 5, 6, 7, 8, 9, 10, 11, 12, 13] ⟨some 59, (.call { callee := (.value (.func 17)), args := #[(.tmp 58)], argTypes := #[50] }), none⟩
  (.one [3, 4, 5, 6, 7, 8, 9, 10, 11, 12, 13] ⟨some 61, (.call { callee := (.value (.func 18)), args := #[(.tmp 60)], argTypes := #[28] }), none⟩
  (.one [4, 5, 6, 7, 8, 9, 10, 11, 12, 13] ⟨some 62, (.call { callee := (.value (.func 16)), args := #[(.tmp 59), (.tmp 61)], argTypes := #[57, 34] }), none⟩
  (.tk 5 ⟨some 57, (.move (.tmp 62)), none⟩
  (.tk 6 ⟨some 63, (.extract (.tmp 57) 0), none⟩
  (.tk 7 ⟨some 64, (.extract (.tmp 57) 1), none⟩
  (.tk 8 ⟨some 65, (.extract (.tmp 57) 2), none⟩
  (.tk 9 ⟨some 66, (.extract (.tmp 57) 3), none⟩
  (.tk 10 ⟨some 14, (.assign (.tmp 63)), none⟩
  (.tk 11 ⟨some 15, (.assign (.tmp 64)), none⟩
  (.tk 12 ⟨some 16, (.assign (.tmp 65)), none⟩
  .fin))))))))))))) [⟨some 17, (.assign (.tmp 66)), none⟩])
 (.seq (.reg [⟨some 68, (.load 50 (.tmp 3)), none⟩,
  ⟨some 69, (.load 28 (.tmp 13)), none⟩,
  ⟨some 70, (.call { callee := (.value (.func 19)), args := #[(.tmp 68), (.tmp 69)], argTypes := #[50, 28] }), none⟩,
  ⟨some 67, (.move (.tmp 70)), none⟩,
  ⟨some 71, (.extract (.tmp 67) 0), none⟩,
  ⟨some 72, (.extract (.tmp 67) 1), none⟩,
  ⟨some 73, (.extract (.tmp 67) 2), none⟩,
  ⟨some 74, (.extract (.tmp 67) 3), none⟩,
  ⟨some 18, (.assign (.tmp 71)), none⟩,
  ⟨some 19, (.assign (.tmp 72)), none⟩,
  ⟨some 20, (.assign (.tmp 73)), none⟩,
  ⟨some 21, (.assign (.tmp 74)), none⟩])
 (.seq (.reg [⟨some 75, (.move (.tmp 14)), none⟩,
  ⟨some 76, (.move (.tmp 18)), none⟩,
  ⟨some 77, (.call { callee := (.value (.func 20)), args := #[(.tmp 75), (.tmp 76)], argTypes := #[52, 52] }), none⟩,
  ⟨some 78, (.unOp .not 4 (.tmp 77)), none⟩,
  ⟨some 79, (.move (.tmp 78)), none⟩,
  ⟨some 80, (.move (.tmp 15)), some (79, false)⟩,
  ⟨some 81, (.move (.tmp 19)), some (79, false)⟩,
  ⟨some 82, (.call { callee := (.value (.func 21)), args := #[(.tmp 80), (.tmp 81), (.func 22)], argTypes := #[32, 25, 64] }), some (79, false)⟩,
  ⟨some 83, (.unOp .not 4 (.tmp 82)), some (79, false)⟩,
  ⟨some 84, (.pick (.tmp 79) (.const (.bool true)) (.tmp 83)), none⟩,
  ⟨some 85, (.move (.tmp 84)), none⟩,
  ⟨some 86, (.move (.tmp 16)), some (85, false)⟩,
  ⟨some 87, (.move (.tmp 20)), some (85, false)⟩,
  ⟨some 88, (.binOp .neq 4 (.tmp 86) (.tmp 87) 4), some (85, false)⟩,
  ⟨some 89, (.pick (.tmp 85) (.const (.bool true)) (.tmp 88)), none⟩,
  ⟨some 90, (.move (.tmp 89)), none⟩,
  ⟨some 91, (.move (.tmp 17)), some (90, false)⟩,
  ⟨some 92, (.move (.tmp 21)), some (90, false)⟩,
  ⟨some 93, (.binOp .neq 35 (.tmp 91) (.tmp 92) 35), some (90, false)⟩,
  ⟨some 94, (.pick (.tmp 90) (.const (.bool true)) (.tmp 93)), none⟩])
 (.cond (.tmp 94) (.seq (.reg [⟨some 6, (.assign (.const (.bool false))), none⟩])
 .ret) .skip))))))
 (.reg [⟨some 95, (.binOp .add 3 (.tmp 53) (.const (.int .i64 1)) 3), none⟩,
  ⟨some 53, (.move (.tmp 95)), none⟩]))))
def c4_1 : ACode := (.seq (.reg [⟨some 97, (.load 24 (.tmp 4)), none⟩,
  ⟨some 98, (.call { callee := (.value (.func 11)), args := #[(.tmp 97)], argTypes := #[24] }), none⟩,
  ⟨some 99, (.move (.tmp 2)), none⟩,
  ⟨some 100, (.call { callee := (.value (.func 12)), args := #[(.tmp 99)], argTypes := #[25] }), none⟩,
  ⟨some 101, (.call { callee := (.value (.func 10)), args := #[(.tmp 98), (.tmp 100)], argTypes := #[40, 32] }), none⟩,
  ⟨some 96, (.move (.tmp 101)), none⟩,
  ⟨some 102, (.extract (.tmp 96) 0), none⟩,
  ⟨some 103, (.extract (.tmp 96) 1), none⟩,
  ⟨some 104, (.extract (.tmp 96) 2), none⟩,
  ⟨some 23, (.alloc 34), none⟩,
  ⟨some 22, (.assign (.tmp 102)), none⟩,
  ⟨none, (.store 34 (.tmp 23) (.tmp 103)), none⟩,
  ⟨some 24, (.assign (.tmp 104)), none⟩])
 (.seq (.reg [⟨some 106, (.load 24 (.tmp 4)), none⟩,
  ⟨some 107, (.move (.tmp 2)), none⟩,
  ⟨some 108, (.call { callee := (.value (.func 23)), args := #[(.tmp 106), (.tmp 107)], argTypes := #[24, 25] }), none⟩,
  ⟨some 105, (.move (.tmp 108)), none⟩,
  ⟨some 109, (.extract (.tmp 105) 0), none⟩,
  ⟨some 110, (.extract (.tmp 105) 1), none⟩,
  ⟨some 111, (.extract (.tmp 105) 2), none⟩,
  ⟨some 26, (.alloc 28), none⟩,
  ⟨some 25, (.assign (.tmp 109)), none⟩,
  ⟨none, (.store 28 (.tmp 26) (.tmp 110)), none⟩,
  ⟨some 27, (.assign (.tmp 111)), none⟩])
 (.seq (.reg [⟨some 112, (.move (.tmp 22)), none⟩,
  ⟨some 113, (.move (.tmp 25)), none⟩,
  ⟨some 114, (.binOp .eql 3 (.tmp 112) (.tmp 113) 3), none⟩,
  ⟨some 115, (.move (.tmp 114)), none⟩,
  ⟨some 116, (.load 34 (.tmp 23)), some (115, true)⟩,
  ⟨some 117, (.load 28 (.tmp 26)), some (115, true)⟩,
  ⟨some 118, (.call { callee := (.value (.func 22)), args := #[(.tmp 116), (.tmp 117)], argTypes := #[34, 28] }), some (115, true)⟩,
  ⟨some 119, (.pick (.tmp 115) (.tmp 118) (.const (.bool false))), none⟩,
  ⟨some 120, (.move (.tmp 119)), none⟩,
  ⟨some 121, (.move (.tmp 24)), some (120, true)⟩,
  ⟨some 122, (.move (.tmp 27)), some (120, true)⟩,
  ⟨some 123, (.binOp .eql 35 (.tmp 121) (.tmp 122) 35), some (120, true)⟩,
  ⟨some 124, (.pick (.tmp 120) (.tmp 123) (.const (.bool false))), none⟩,
  ⟨some 125, (.move (.tmp 124)), none⟩,
  ⟨some 126, (.call { callee := (.value (.func 9)), args := #[], argTypes := #[] }), some (125, true)⟩,
  ⟨some 127, (.pick (.tmp 125) (.tmp 126) (.const (.bool false))), none⟩,
  ⟨some 6, (.assign (.tmp 127)), none⟩])
 .ret)))
def c4_2 : ACode := (.seq (.seq (.reg [⟨some 48, (.move (.tmp 7)), none⟩,
  ⟨some 49, (.binOp .gtr 3 (.tmp 48) (.const (.int .i64 300)) 3), none⟩])
 (.cond (.tmp 49) (.seq (.reg [⟨some 50, (.call { callee := (.value (.func 9)), args := #[], argTypes := #[] }), none⟩,
  ⟨some 6, (.assign (.tmp 50)), none⟩])
 .ret) .skip))
 (.seqL (.seq (.reg [⟨some 51, (.move (.tmp 2)), none⟩,
  ⟨some 52, (.call { callee := (.builtin .len), args := #[(.tmp 51)], argTypes := #[25] }), none⟩,
  ⟨some 53, (.move (.const (.int .i64 0))), none⟩])
 (.block 2 (.loop b4_2)))
 c4_1))
def c4 : ACode := (.seq (.reg [⟨some 3, (.box 50 (.tmp 0)), none⟩,
  ⟨some 4, (.box 24 (.tmp 1)), none⟩,
  ⟨some 6, (.assign (.const (.bool false))), none⟩])
 (.seq (.dreg (.tk 0 ⟨some 28, (.load 50 (.tmp 3)), none⟩
  (.tk 2 ⟨some 30, (.load 24 (.tmp 4)), none⟩
  (.one [1, 2, 3, 4, 5] ⟨some 29, (.call { callee := (.value (.func 15)), args := #[(.tmp 28)], argTypes := #[50] }), none⟩
  .fin))) [⟨some 31, (.call { callee := (.value (.func 7)), args := #[(.tmp 30)], argTypes := #[24] }), none⟩,
  ⟨some 32, (.binOp .add 3 (.tmp 29) (.tmp 31) 3), none⟩,
  ⟨some 7, (.assign (.tmp 32)), none⟩])
 (.seqL (.seq (.reg [⟨some 33, (.move (.tmp 2)), none⟩,
  ⟨some 34, (.call { callee := (.builtin .len), args := #[(.tmp 33)], argTypes := #[25] }), none⟩,
  ⟨some 35, (.move (.const (.int .i64 0))), none⟩])
 (.block 0 (.loop b4_1)))
 c4_2)))
theorem fd4 : FnD Try.prog 4 128 [(.tmp 6)] c4 := ⟨⟨Try.f4, Try.f4.body.getD .skip, Try.func4, by kernel_rfl, by kernel_rfl, by kernel_rfl, by kernel_rfl⟩⟩
/-! f5 triforium/triforiumlaw40.EvaluateStep -/
/-! f6 triforium/triforiumlaw40.EvaluateRoads -/
/-! f7 triforium/triforiumlaw40.funNodes -/
def b7_1 : ACode := (.seq (.reg [⟨some 31, (.binOp .lss 3 (.tmp 30) (.tmp 29) 3), none⟩])
 (.seq (.cond (.tmp 31) .skip (.exit 2))
 (.seq (.block 3 (.seq (.reg [⟨some 32, (.indexAddr 44 (.tmp 28) (.tmp 30)), none⟩,
  ⟨some 33, (.load 50 (.tmp 32)), none⟩,
  ⟨some 9, (.alloc 50), none⟩,
  ⟨none, (.store 50 (.tmp 9) (.tmp 33)), none⟩])
 (.reg [⟨some 34, (.move (.tmp 3)), none⟩,
  ⟨some 35, (.load 50 (.tmp 9)), none⟩,
  ⟨some 36, (.call { callee := (.value (.func 15)), args := #[(.tmp 35)], argTypes := #[50] }), none⟩,
  ⟨some 37, (.binOp .add 3 (.tmp 34) (.tmp 36) 3), none⟩,
  ⟨some 3, (.assign (.tmp 37)), none⟩])))
 (.reg [⟨some 38, (.binOp .add 3 (.tmp 30) (.const (.int .i64 1)) 3), none⟩,
  ⟨some 30, (.move (.tmp 38)), none⟩]))))
def c7_1 : ACode := (.reg [⟨some 39, (.binOp .add 3 (.tmp 13) (.const (.int .i64 1)) 3), none⟩,
  ⟨some 13, (.move (.tmp 39)), none⟩])
def b7_2 : ACode := (.seq (.reg [⟨some 14, (.binOp .lss 3 (.tmp 13) (.tmp 12) 3), none⟩])
 (.seq (.cond (.tmp 14) .skip (.exit 0))
 (.seqL (.block 1 (.seq (.reg [⟨some 15, (.indexAddr 22 (.tmp 11) (.tmp 13)), none⟩,
  ⟨some 16, (.load 46 (.tmp 15)), none⟩,
  ⟨some 5, (.alloc 46), none⟩,
  ⟨none, (.store 46 (.tmp 5) (.tmp 16)), none⟩])
 (.seq (.reg [⟨some 18, (.fieldAddr 46 (.tmp 5) 1), none⟩,
  ⟨some 19, (.load 28 (.tmp 18)), none⟩,
  ⟨some 20, (.call { callee := (.value (.func 8)), args := #[(.tmp 19)], argTypes := #[28] }), none⟩,
  ⟨some 17, (.move (.tmp 20)), none⟩,
  ⟨some 21, (.extract (.tmp 17) 0), none⟩,
  ⟨some 22, (.extract (.tmp 17) 1), none⟩,
  ⟨some 6, (.assign (.tmp 21)), none⟩,
  ⟨some 7, (.assign (.tmp 22)), none⟩])
 (.seq (.reg [⟨some 23, (.move (.tmp 3)), none⟩,
  ⟨some 24, (.move (.tmp 6)), none⟩,
  ⟨some 25, (.binOp .add 3 (.const (.int .i64 1)) (.tmp 24) 3), none⟩,
  ⟨some 26, (.binOp .add 3 (.tmp 23) (.tmp 25) 3), none⟩,
  ⟨some 3, (.assign (.tmp 26)), none⟩])
 (.seq (.reg [⟨some 27, (.fieldAddr 46 (.tmp 5) 0), none⟩,
  ⟨some 28, (.load 44 (.tmp 27)), none⟩,
  ⟨some 29, (.call { callee := (.builtin .len), args := #[(.tmp 28)], argTypes := #[44] }), none⟩,
  ⟨some 30, (.move (.const (.int .i64 0))), none⟩])
 (.block 2 (.loop b7_1)))))))
 c7_1)))
def c7_2 : ACode := (.seq (.reg [⟨some 40, (.move (.tmp 3)), none⟩,
  ⟨some 2, (.assign (.tmp 40)), none⟩])
 .ret)
def c7 : ACode := (.seq (.reg [⟨some 1, (.box 24 (.tmp 0)), none⟩,
  ⟨some 2, (.assign (.const (.int .i64 0))), none⟩])
 (.seq (.reg [⟨some 3, (.assign (.const (.int .i64 1))), none⟩])
 (.seqL (.seq (.reg [⟨some 10, (.fieldAddr 24 (.tmp 1) 2), none⟩,
  ⟨some 11, (.load 22 (.tmp 10)), none⟩,
  ⟨some 12, (.call { callee := (.builtin .len), args := #[(.tmp 11)], argTypes := #[22] }), none⟩,
  ⟨some 13, (.move (.const (.int .i64 0))), none⟩])
 (.block 0 (.loop b7_2)))
 c7_2)))
theorem fd7 : FnD Try.prog 7 41 [(.tmp 2)] c7 := ⟨⟨Try.f7, Try.f7.body.getD .skip, Try.func7, by kernel_rfl, by kernel_rfl, by kernel_rfl, by kernel_rfl⟩⟩
/-! f8 triforium/triforiumlaw40.nodes -/
def c8 : ACode := (.seq (.reg [⟨some 1, (.box 28 (.tmp 0)), none⟩,
  ⟨some 2, (.assign (.const (.int .i64 0))), none⟩,
  ⟨some 3, (.assign (.const (.int .i64 0))), none⟩])
 (.seq (.reg [⟨some 4, (.load 28 (.tmp 1)), none⟩,
  ⟨some 5, (.call { callee := (.value (.func 29)), args := #[(.tmp 4)], argTypes := #[28] }), none⟩,
  ⟨some 6, (.extract (.tmp 5) 0), none⟩,
  ⟨some 7, (.extract (.tmp 5) 1), none⟩,
  ⟨some 2, (.assign (.tmp 6)), none⟩,
  ⟨some 3, (.assign (.tmp 7)), none⟩])
 .ret))
theorem fd8 : FnD Try.prog 8 8 [(.tmp 2), (.tmp 3)] c8 := ⟨⟨Try.f8, Try.f8.body.getD .skip, Try.func8, by kernel_rfl, by kernel_rfl, by kernel_rfl, by kernel_rfl⟩⟩
/-! f9 triforium/triforiumlaw40.awake -/
def c9 : ACode := (.seq (.reg [⟨some 0, (.assign (.const (.bool false))), none⟩])
 (.seq (.reg [⟨some 1, (.assign (.func 30)), none⟩])
 (.seq (.reg [⟨some 2, (.assign (.func 31)), none⟩])
 (.seq (.reg [⟨some 3, (.assign (.func 32)), none⟩])
 (.seq (.reg [⟨some 8, (.build 57 #[(1, (.const (.string { data := #[121] })))]), none⟩,
  ⟨some 4, (.alloc 57), none⟩,
  ⟨none, (.store 57 (.tmp 4) (.tmp 8)), none⟩])
 (.seq (.dreg (.tk 0 ⟨some 9, (.build 91 #[(0, (.const (.string { data := #[90, 101, 114, 111] })))]), none⟩
  (.tk 1 ⟨some 10, (.build 91 #[(0, (.const (.string { data := #[83, 117, 99] }))), (1, (.const (.int .i64 1)))]), none⟩
  (.tk 2 ⟨some 11, (.buildSlice 77 2 #[(0, (.tmp 9)), (1, (.tmp 10))]), none⟩
  (.tk 3 ⟨some 12, (.build 57 #[(0, (.const (.bool true))), (1, (.const (.string { data := #[90, 101, 114, 111] })))]), none⟩
  (.tk 4 ⟨some 13, (.load 57 (.tmp 4)), none⟩
  (.tk 5 ⟨some 14, (.buildSlice 55 2 #[(0, (.tmp 12)), (1, (.tmp 13))]), none⟩
  (.tk 6 ⟨some 15, (.move (.tmp 1)), none⟩
  (.tk 9 ⟨some 18, (.build 57 #[(1, (.const (.string { data := #[120] })))]), none⟩
  (.tk 10 ⟨some 19, (.buildSlice 55 1 #[(0, (.tmp 18))]), none⟩
  (.tk 11 ⟨some 20, (.build 57 #[(0, (.const (.bool true))), (1, (.const (.string { data := #[83, 117, 99] }))), (2, (.tmp 19))]), none⟩
  (.tk 12 ⟨some 21, (.load 57 (.tmp 4)), none⟩
  (.tk 13 ⟨some 22, (.buildSlice 55 2 #[(0, (.tmp 20)), (1, (.tmp 21))]), none⟩
  (.tk 14 ⟨some 23, (.move (.tmp 2)), none⟩
  (.tk 15 ⟨some 24, (.move (.tmp 3)), none⟩
  (.tk 16 ⟨some 25, (.move (.tmp 1)), none⟩
  (.tk 18 ⟨some 27, (.move (.tmp 1)), none⟩
  (.two [0, 1, 2, 3, 4, 5, 7, 8, 9, 10, 11, 12, 13, 14, 15, 16, 17, 18, 19, 20, 21, 22, 23, 24, 25, 26, 27, 28, 29] ⟨some 16, (.call { callee := (.value (.tmp 15)), args := #[(.const (.string { data := #[121] }))], argTypes := #[9] }), none⟩
  (.tk 8 ⟨some 17, (.build 93 #[(0, (.tmp 14)), (1, (.tmp 16))]), none⟩
  (.two [0, 1, 2, 3, 4, 5, 8, 9, 10, 11, 12, 13, 14, 15, 17, 18, 19, 20, 21, 22, 23, 24, 25, 26, 27, 28, 29] ⟨some 26, (.call { callee := (.value (.tmp 25)), args := #[(.const (.string { data := #[120] }))], argTypes := #[9] }), none⟩
  (.two [0, 1, 2, 3, 4, 5, 8, 9, 10, 11, 12, 13, 14, 15, 19, 20, 21, 22, 23, 24, 25, 26, 27, 28, 29] ⟨some 28, (.call { callee := (.value (.tmp 27)), args := #[(.const (.string { data := #[121] }))], argTypes := #[9] }), none⟩
  (.two [0, 1, 2, 3, 4, 5, 8, 9, 10, 11, 12, 13, 14, 20, 21, 22, 23, 24, 25, 26, 27, 28, 29] ⟨some 29, (.call { callee := (.value (.tmp 24)), args := #[(.tmp 26), (.tmp 28)], argTypes := #[34, 34] }), none⟩
  (.tk 21 ⟨some 30, (.buildSlice 32 1 #[(0, (.tmp 29))]), none⟩
  (.two [0, 1, 2, 3, 4, 5, 8, 9, 10, 11, 12, 13, 22, 23, 24, 25, 26, 27, 28, 29] ⟨some 31, (.call { callee := (.value (.tmp 23)), args := #[(.const (.string { data := #[83, 117, 99] })), (.tmp 30)], argTypes := #[9, 32] }), none⟩
  (.tk 23 ⟨some 32, (.build 93 #[(0, (.tmp 22)), (1, (.tmp 31))]), none⟩
  (.tk 24 ⟨some 33, (.buildSlice 38 2 #[(0, (.tmp 17)), (1, (.tmp 32))]), none⟩
  (.tk 25 ⟨some 34, (.build 40 #[(0, (.const (.string { data := #[97, 100, 100] }))), (1, (.const (.int .i64 2))), (2, (.tmp 33))]), none⟩
  (.tk 26 ⟨some 35, (.buildSlice 78 1 #[(0, (.tmp 34))]), none⟩
  (.tk 27 ⟨some 36, (.build 80 #[(0, (.tmp 11)), (1, (.tmp 35))]), none⟩
  (.one [0, 1, 2, 3, 4, 5, 6, 7, 8, 9, 10, 11, 12, 13, 14, 15, 16, 17, 18, 19, 20, 21, 22, 23, 24, 25, 26, 27, 28, 29] ⟨some 5, (.alloc 80), none⟩
  .fin))))))
  [0, 1, 2, 3, 4, 5, 6, 7, 8, 9, 10, 11, 12, 13, 14, 15, 16, 17, 18, 19, 20, 21, 22, 23, 24, 25, 26, 27, 28, 29] ⟨some 5, (.alloc 80), none⟩
  (.one [0, 1, 2, 3, 4, 5, 8, 9, 10, 11, 12, 13, 22, 23, 24, 25, 26, 27, 28, 29] ⟨some 31, (.call { callee := (.value (.tmp 23)), args := #[(.const (.string { data := #[83, 117, 99] })), (.tmp 30)], argTypes := #[9, 32] }), none⟩
  (.tk 23 ⟨some 32, (.build 93 #[(0, (.tmp 22)), (1, (.tmp 31))]), none⟩
  (.tk 24 ⟨some 33, (.buildSlice 38 2 #[(0, (.tmp 17)), (1, (.tmp 32))]), none⟩
  (.tk 25 ⟨some 34, (.build 40 #[(0, (.const (.string { data := #[97, 100, 100] }))), (1, (.const (.int .i64 2))), (2, (.tmp 33))]), none⟩
  (.tk 26 ⟨some 35, (.buildSlice 78 1 #[(0, (.tmp 34))]), none⟩
  (.tk 27 ⟨some 36, (.build 80 #[(0, (.tmp 11)), (1, (.tmp 35))]), none⟩
  .fin))))))))
  [0, 1, 2, 3, 4, 5, 6, 7, 8, 9, 10, 11, 12, 13, 14, 15, 16, 17, 18, 19, 20, 21, 22, 23, 24, 25, 26, 27, 28, 29] ⟨some 5, (.alloc 80), none⟩
  (.one [0, 1, 2, 3, 4, 5, 8, 9, 10, 11, 12, 13, 14, 20, 21, 22, 23, 24, 25, 26, 27, 28, 29] ⟨some 29, (.call { callee := (.value (.tmp 24)), args := #[(.tmp 26), (.tmp 28)], argTypes := #[34, 34] }), none⟩
  (.tk 21 ⟨some 30, (.buildSlice 32 1 #[(0, (.tmp 29))]), none⟩
  (.one [0, 1, 2, 3, 4, 5, 8, 9, 10, 11, 12, 13, 22, 23, 24, 25, 26, 27, 28, 29] ⟨some 31, (.call { callee := (.value (.tmp 23)), args := #[(.const (.string { data := #[83, 117, 99] })), (.tmp 30)], argTypes := #[9, 32] }), none⟩
  (.tk 23 ⟨some 32, (.build 93 #[(0, (.tmp 22)), (1, (.tmp 31))]), none⟩
  (.tk 24 ⟨some 33, (.buildSlice 38 2 #[(0, (.tmp 17)), (1, (.tmp 32))]), none⟩
  (.tk 25 ⟨some 34, (.build 40 #[(0, (.const (.string { data := #[97, 100, 100] }))), (1, (.const (.int .i64 2))), (2, (.tmp 33))]), none⟩
  (.tk 26 ⟨some 35, (.buildSlice 78 1 #[(0, (.tmp 34))]), none⟩
  (.tk 27 ⟨some 36, (.build 80 #[(0, (.tmp 11)), (1, (.tmp 35))]), none⟩
  .fin)))))))))
  [0, 1, 2, 3, 4, 5, 6, 7, 8, 9, 10, 11, 12, 13, 14, 15, 16, 17, 18, 19, 20, 21, 22, 23, 24, 25, 26, 27, 28, 29] ⟨some 5, (.alloc 80), none⟩
  (.one [0, 1, 2, 3, 4, 5, 8, 9, 10, 11, 12, 13, 14, 15, 19, 20, 21, 22, 23, 24, 25, 26, 27, 28, 29] ⟨some 28, (.call { callee := (.value (.tmp 27)), args := #[(.const (.string { data := #[121] }))], argTypes := #[9] }), none⟩
  (.one [0, 1, 2, 3, 4, 5, 8, 9, 10, 11, 12, 13, 14, 20, 21, 22, 23, 24, 25, 26, 27, 28, 29] ⟨some 29, (.call { callee := (.value (.tmp 24)), args := #[(.tmp 26), (.tmp 28)], argTypes := #[34, 34] }), none⟩
  (.tk 21 ⟨some 30, (.buildSlice 32 1 #[(0, (.tmp 29))]), none⟩
  (.one [0, 1, 2, 3, 4, 5, 8, 9, 10, 11, 12, 13, 22, 23, 24, 25, 26, 27, 28, 29] ⟨some 31, (.call { callee := (.value (.tmp 23)), args := #[(.const (.string { data := #[83, 117, 99] })), (.tmp 30)], argTypes := #[9, 32] }), none⟩
  (.tk 23 ⟨some 32, (.build 93 #[(0, (.tmp 22)), (1, (.tmp 31))]), none⟩
  (.tk 24 ⟨some 33, (.buildSlice 38 2 #[(0, (.tmp 17)), (1, (.tmp 32))]), none⟩
  (.tk 25 ⟨some 34, (.build 40 #[(0, (.const (.string { data := #[97, 100, 100] }))), (1, (.const (.int .i64 2))), (2, (.tmp 33))]), none⟩
  (.tk 26 ⟨some 35, (.buildSlice 78 1 #[(0, (.tmp 34))]), none⟩
  (.tk 27 ⟨some 36, (.build 80 #[(0, (.tmp 11)), (1, (.tmp 35))]), none⟩
  .fin))))))))))
  [0, 1, 2, 3, 4, 5, 6, 7, 8, 9, 10, 11, 12, 13, 14, 15, 16, 17, 18, 19, 20, 21, 22, 23, 24, 25, 26, 27, 28, 29] ⟨some 5, (.alloc 80), none⟩
  (.one [0, 1, 2, 3, 4, 5, 8, 9, 10, 11, 12, 13, 14, 15, 17, 18, 19, 20, 21, 22, 23, 24, 25, 26, 27, 28, 29] ⟨some 26, (.call { callee := (.value (.tmp 25)), args := #[(.const (.string { data := #[120] }))], argTypes := #[9] }), none⟩
  (.one [0, 1, 2, 3, 4, 5, 8, 9, 10, 11, 12, 13, 14, 15, 19, 20, 21, 22, 23, 24, 25, 26, 27, 28, 29] ⟨some 28, (.call { callee := (.value (.tmp 27)), args := #[(.const (.string { data := #[121] }))], argTypes := #[9] }), none⟩
  (.one [0, 1, 2, 3, 4, 5, 8, 9, 10, 11, 12, 13, 14, 20, 21, 22, 23, 24, 25, 26, 27, 28, 29] ⟨some 29, (.call { callee := (.value (.tmp 24)), args := #[(.tmp 26), (.tmp 28)], argTypes := #[34, 34] }), none⟩
  (.tk 21 ⟨some 30, (.buildSlice 32 1 #[(0, (.tmp 29))]), none⟩
  (.one [0, 1, 2, 3, 4, 5, 8, 9, 10, 11, 12, 13, 22, 23, 24, 25, 26, 27, 28, 29] ⟨some 31, (.call { callee := (.value (.tmp 23)), args := #[(.const (.string { data := #[83, 117, 99] })), (.tmp 30)], argTypes := #[9, 32] }), none⟩
  (.tk 23 ⟨some 32, (.build 93 #[(0, (.tmp 22)), (1, (.tmp 31))]), none⟩
  (.tk 24 ⟨some 33, (.buildSlice 38 2 #[(0, (.tmp 17)), (1, (.tmp 32))]), none⟩
  (.tk 25 ⟨some 34, (.build 40 #[(0, (.const (.string { data := #[97, 100, 100] }))), (1, (.const (.int .i64 2))), (2, (.tmp 33))]), none⟩
  (.tk 26 ⟨some 35, (.buildSlice 78 1 #[(0, (.tmp 34))]), none⟩
  (.tk 27 ⟨some 36, (.build 80 #[(0, (.tmp 11)), (1, (.tmp 35))]), none⟩
  .fin))))))))))))
  [0, 1, 2, 3, 4, 5, 6, 7, 8, 9, 10, 11, 12, 13, 14, 15, 16, 17, 18, 19, 20, 21, 22, 23, 24, 25, 26, 27, 28, 29] ⟨some 5, (.alloc 80), none⟩
  (.one [0, 1, 2, 3, 4, 5, 7, 8, 9, 10, 11, 12, 13, 14, 15, 16, 17, 18, 19, 20, 21, 22, 23, 24, 25, 26, 27, 28, 29] ⟨some 16, (.call { callee := (.value (.tmp 15)), args := #[(.const (.string { data := #[121] }))], argTypes := #[9] }), none⟩
  (.tk 8 ⟨some 17, (.build 93 #[(0, (.tmp 14)), (1, (.tmp 16))]), none⟩
  (.one [0, 1, 2, 3, 4, 5, 8, 9, 10, 11, 12, 13, 14, 15, 17, 18, 19, 20, 21, 22, 23, 24, 25, 26, 27, 28, 29] ⟨some 26, (.call { callee := (.value (.tmp 25)), args := #[(.const (.string { data := #[120] }))], argTypes := #[9] }), none⟩
  (.one [0, 1, 2, 3, 4, 5, 8, 9, 10, 11, 12, 13, 14, 15, 19, 20, 21, 22, 23, 24, 25, 26, 27, 28, 29] ⟨some 28, (.call { callee := (.value (.tmp 27)), args := #[(.const (.string { data := #[121] }))], argTypes := #[9] }), none⟩
  (.one [0, 1, 2, 3, 4, 5, 8, 9, 10, 11, 12, 13, 14, 20, 21, 22, 23, 24, 25, 26, 27, 28, 29] ⟨some 29, (.call { callee := (.value (.tmp 24)), args := #[(.tmp 26), (.tmp 28)], argTypes := #[34, 34] }), none⟩
  (.tk 21 ⟨some 30, (.buildSlice 32 1 #[(0, (.tmp 29))]), none⟩
  (.one [0, 1, 2, 3, 4, 5, 8, 9, 10, 11, 12, 13, 22, 23, 24, 25, 26, 27, 28, 29] ⟨some 31, (.call { callee := (.value (.tmp 23)), args := #[(.const (.string { data := #[83, 117, 99] })), (.tmp 30)], argTypes := #[9, 32] }), none⟩
  (.tk 23 ⟨some 32, (.build 93 #[(0, (.tmp 22)), (1, (.tmp 31))]), none⟩
  (.tk 24 ⟨some 33, (.buildSlice 38 2 #[(0, (.tmp 17)), (1, (.tmp 32))]), none⟩
  (.tk 25 ⟨some 34, (.build 40 #[(0, (.const (.string { data := #[97, 100, 100] }))), (1, (.const (.int .i64 2))), (2, (.tmp 33))]), none⟩
  (.tk 26 ⟨some 35, (.buildSlice 78 1 #[(0, (.tmp 34))]), none⟩
  (.tk 27 ⟨some 36, (.build 80 #[(0, (.tmp 11)), (1, (.tmp 35))]), none⟩
  .fin))))))))))))))))))))))))))))) [⟨none, (.store 80 (.tmp 5) (.tmp 36)), none⟩])
 (.seq (.dreg (.tk 0 ⟨some 38, (.load 80 (.tmp 5)), none⟩
  (.tk 1 ⟨some 39, (.move (.tmp 3)), none⟩
  (.tk 2 ⟨some 40, (.move (.tmp 2)), none⟩
  (.tk 3 ⟨some 41, (.move (.tmp 2)), none⟩
  (.tk 7 ⟨some 45, (.move (.tmp 2)), none⟩
  (.two [0, 1, 2, 4, 5, 6, 7, 8, 9, 10, 11, 12, 13, 14, 15, 16] ⟨some 42, (.call { callee := (.value (.tmp 41)), args := #[(.const (.string { data := #[90, 101, 114, 111] })), (.const (.slice none 0 0))], argTypes := #[9, 32] }), none⟩
  (.tk 5 ⟨some 43, (.buildSlice 32 1 #[(0, (.tmp 42))]), none⟩
  (.two [0, 1, 6, 7, 8, 9, 10, 11, 12, 13, 14, 15, 16] ⟨some 44, (.call { callee := (.value (.tmp 40)), args := #[(.const (.string { data := #[83, 117, 99] })), (.tmp 43)], argTypes := #[9, 32] }), none⟩
  (.two [0, 1, 8, 9, 10, 11, 12, 13, 14, 15, 16] ⟨some 46, (.call { callee := (.value (.tmp 45)), args := #[(.const (.string { data := #[90, 101, 114, 111] })), (.const (.slice none 0 0))], argTypes := #[9, 32] }), none⟩
  (.two [0, 9, 10, 11, 12, 13, 14, 15, 16] ⟨some 47, (.call { callee := (.value (.tmp 39)), args := #[(.tmp 44), (.tmp 46)], argTypes := #[34, 34] }), none⟩
  (.two [10, 11, 12, 13, 14, 15, 16] ⟨some 48, (.call { callee := (.value (.func 25)), args := #[(.tmp 38), (.tmp 47), (.const (.int .i64 10))], argTypes := #[80, 34, 3] }), none⟩
  (.tk 11 ⟨some 37, (.move (.tmp 48)), none⟩
  (.tk 12 ⟨some 49, (.extract (.tmp 37) 0), none⟩
  (.tk 13 ⟨some 50, (.extract (.tmp 37) 1), none⟩
  (.one [0, 1, 2, 3, 4, 5, 6, 7, 8, 9, 10, 11, 12, 13, 14, 15, 16] ⟨some 6, (.alloc 74), none⟩
  (.one [13, 15, 16] ⟨none, (.store 74 (.tmp 6) (.tmp 49)), none⟩
  .fin)))))
  [0, 1, 2, 3, 4, 5, 6, 7, 8, 9, 10, 11, 12, 13, 14, 15, 16] ⟨some 6, (.alloc 74), none⟩
  (.one [10, 11, 12, 13, 14, 15, 16] ⟨some 48, (.call { callee := (.value (.func 25)), args := #[(.tmp 38), (.tmp 47), (.const (.int .i64 10))], argTypes := #[80, 34, 3] }), none⟩
  (.tk 11 ⟨some 37, (.move (.tmp 48)), none⟩
  (.tk 12 ⟨some 49, (.extract (.tmp 37) 0), none⟩
  (.tk 13 ⟨some 50, (.extract (.tmp 37) 1), none⟩
  (.one [13, 15, 16] ⟨none, (.store 74 (.tmp 6) (.tmp 49)), none⟩
  .fin))))))
  [0, 1, 2, 3, 4, 5, 6, 7, 8, 9, 10, 11, 12, 13, 14, 15, 16] ⟨some 6, (.alloc 74), none⟩
  (.one [0, 9, 10, 11, 12, 13, 14, 15, 16] ⟨some 47, (.call { callee := (.value (.tmp 39)), args := #[(.tmp 44), (.tmp 46)], argTypes := #[34, 34] }), none⟩
  (.one [10, 11, 12, 13, 14, 15, 16] ⟨some 48, (.call { callee := (.value (.func 25)), args := #[(.tmp 38), (.tmp 47), (.const (.int .i64 10))], argTypes := #[80, 34, 3] }), none⟩
  (.tk 11 ⟨some 37, (.move (.tmp 48)), none⟩
  (.tk 12 ⟨some 49, (.extract (.tmp 37) 0), none⟩
  (.tk 13 ⟨some 50, (.extract (.tmp 37) 1), none⟩
  (.one [13, 15, 16] ⟨none, (.store 74 (.tmp 6) (.tmp 49)), none⟩
  .fin)))))))
  [0, 1, 2, 3, 4, 5, 6, 7, 8, 9, 10, 11, 12, 13, 14, 15, 16] ⟨some 6, (.alloc 74), none⟩
  (.one [0, 1, 8, 9, 10, 11, 12, 13, 14, 15, 16] ⟨some 46, (.call { callee := (.value (.tmp 45)), args := #[(.const (.string { data := #[90, 101, 114, 111] })), (.const (.slice none 0 0))], argTypes := #[9, 32] }), none⟩
  (.one [0, 9, 10, 11, 12, 13, 14, 15, 16] ⟨some 47, (.call { callee := (.value (.tmp 39)), args := #[(.tmp 44), (.tmp 46)], argTypes := #[34, 34] }), none⟩
  (.one [10, 11, 12, 13, 14, 15, 16] ⟨some 48, (.call { callee := (.value (.func 25)), args := #[(.tmp 38), (.tmp 47), (.const (.int .i64 10))], argTypes := #[80, 34, 3] }), none⟩
  (.tk 11 ⟨some 37, (.move (.tmp 48)), none⟩
  (.tk 12 ⟨some 49, (.extract (.tmp 37) 0), none⟩
  (.tk 13 ⟨some 50, (.extract (.tmp 37) 1), none⟩
  (.one [13, 15, 16] ⟨none, (.store 74 (.tmp 6) (.tmp 49)), none⟩
  .fin))))))))
  [0, 1, 2, 3, 4, 5, 6, 7, 8, 9, 10, 11, 12, 13, 14, 15, 16] ⟨some 6, (.alloc 74), none⟩
  (.one [0, 1, 6, 7, 8, 9, 10, 11, 12, 13, 14, 15, 16] ⟨some 44, (.call { callee := (.value (.tmp 40)), args := #[(.const (.string { data := #[83, 117, 99] })), (.tmp 43)], argTypes := #[9, 32] }), none⟩
  (.one [0, 1, 8, 9, 10, 11, 12, 13, 14, 15, 16] ⟨some 46, (.call { callee := (.value (.tmp 45)), args := #[(.const (.string { data := #[90, 101, 114, 111] })), (.const (.slice none 0 0))], argTypes := #[9, 32] }), none⟩
  (.one [0, 9, 10, 11, 12, 13, 14, 15, 16] ⟨some 47, (.call { callee := (.value (.tmp 39)), args := #[(.tmp 44), (.tmp 46)], argTypes := #[34, 34] }), none⟩
  (.one [10, 11, 12, 13, 14, 15, 16] ⟨some 48, (.call { callee := (.value (.func 25)), args := #[(.tmp 38), (.tmp 47), (.const (.int .i64 10))], argTypes := #[80, 34, 3] }), none⟩
  (.tk 11 ⟨some 37, (.move (.tmp 48)), none⟩
  (.tk 12 ⟨some 49, (.extract (.tmp 37) 0), none⟩
  (.tk 13 ⟨some 50, (.extract (.tmp 37) 1), none⟩
  (.one [13, 15, 16] ⟨none, (.store 74 (.tmp 6) (.tmp 49)), none⟩
  .fin))))))))))
  [0, 1, 2, 3, 4, 5, 6, 7, 8, 9, 10, 11, 12, 13, 14, 15, 16] ⟨some 6, (.alloc 74), none⟩
  (.one [0, 1, 2, 4, 5, 6, 7, 8, 9, 10, 11, 12, 13, 14, 15, 16] ⟨some 42, (.call { callee := (.value (.tmp 41)), args := #[(.const (.string { data := #[90, 101, 114, 111] })), (.const (.slice none 0 0))], argTypes := #[9, 32] }), none⟩
  (.tk 5 ⟨some 43, (.buildSlice 32 1 #[(0, (.tmp 42))]), none⟩
  (.one [0, 1, 6, 7, 8, 9, 10, 11, 12, 13, 14, 15, 16] ⟨some 44, (.call { callee := (.value (.tmp 40)), args := #[(.const (.string { data := #[83, 117, 99] })), (.tmp 43)], argTypes := #[9, 32] }), none⟩
  (.one [0, 1, 8, 9, 10, 11, 12, 13, 14, 15, 16] ⟨some 46, (.call { callee := (.value (.tmp 45)), args := #[(.const (.string { data := #[90, 101, 114, 111] })), (.const (.slice none 0 0))], argTypes := #[9, 32] }), none⟩
  (.one [0, 9, 10, 11, 12, 13, 14, 15, 16] ⟨some 47, (.call { callee := (.value (.tmp 39)), args := #[(.tmp 44), (.tmp 46)], argTypes := #[34, 34] }), none⟩
  (.one [10, 11, 12, 13, 14, 15, 16] ⟨some 48, (.call { callee := (.value (.func 25)), args := #[(.tmp 38), (.tmp 47), (.const (.int .i64 10))], argTypes := #[80, 34, 3] }), none⟩
  (.tk 11 ⟨some 37, (.move (.tmp 48)), none⟩
  (.tk 12 ⟨some 49, (.extract (.tmp 37) 0), none⟩
  (.tk 13 ⟨some 50, (.extract (.tmp 37) 1), none⟩
  (.one [13, 15, 16] ⟨none, (.store 74 (.tmp 6) (.tmp 49)), none⟩
  .fin)))))))))))))))) [⟨some 7, (.assign (.tmp 50)), none⟩])
 (.seq (.reg [⟨some 51, (.move (.tmp 7)), none⟩,
  ⟨some 52, (.binOp .eql 35 (.tmp 51) (.const (.int .i64 0)) 35), none⟩,
  ⟨some 53, (.move (.tmp 52)), none⟩,
  ⟨some 54, (.fieldAddr 74 (.tmp 6) 1), some (53, true)⟩,
  ⟨some 55, (.load 3 (.tmp 54)), some (53, true)⟩,
  ⟨some 56, (.binOp .eql 3 (.tmp 55) (.const (.int .i64 2)) 3), some (53, true)⟩,
  ⟨some 57, (.pick (.tmp 53) (.tmp 56) (.const (.bool false))), none⟩,
  ⟨some 58, (.move (.tmp 57)), none⟩,
  ⟨some 59, (.fieldAddr 74 (.tmp 6) 0), some (58, true)⟩,
  ⟨some 60, (.fieldAddr 34 (.tmp 59) 1), some (58, true)⟩,
  ⟨some 61, (.load 9 (.tmp 60)), some (58, true)⟩,
  ⟨some 62, (.binOp .eql 9 (.tmp 61) (.const (.string { data := #[83, 117, 99] })) 9), some (58, true)⟩,
  ⟨some 63, (.pick (.tmp 58) (.tmp 62) (.const (.bool false))), none⟩,
  ⟨some 64, (.move (.tmp 63)), none⟩,
  ⟨some 65, (.fieldAddr 74 (.tmp 6) 0), some (64, true)⟩,
  ⟨some 66, (.fieldAddr 34 (.tmp 65) 2), some (64, true)⟩,
  ⟨some 67, (.load 32 (.tmp 66)), some (64, true)⟩,
  ⟨some 68, (.call { callee := (.builtin .len), args := #[(.tmp 67)], argTypes := #[32] }), some (64, true)⟩,
  ⟨some 69, (.binOp .eql 3 (.tmp 68) (.const (.int .i64 1)) 3), some (64, true)⟩,
  ⟨some 70, (.pick (.tmp 64) (.tmp 69) (.const (.bool false))), none⟩,
  ⟨some 71, (.move (.tmp 70)), none⟩,
  ⟨some 72, (.fieldAddr 74 (.tmp 6) 0), some (71, true)⟩,
  ⟨some 73, (.fieldAddr 34 (.tmp 72) 2), some (71, true)⟩,
  ⟨some 74, (.load 32 (.tmp 73)), some (71, true)⟩,
  ⟨some 75, (.indexAddr 32 (.tmp 74) (.const (.int .i64 0))), some (71, true)⟩,
  ⟨some 76, (.fieldAddr 34 (.tmp 75) 1), some (71, true)⟩,
  ⟨some 77, (.load 9 (.tmp 76)), some (71, true)⟩,
  ⟨some 78, (.binOp .eql 9 (.tmp 77) (.const (.string { data := #[90, 101, 114, 111] })) 9), some (71, true)⟩,
  ⟨some 79, (.pick (.tmp 71) (.tmp 78) (.const (.bool false))), none⟩,
  ⟨some 0, (.assign (.tmp 79)), none⟩])
 .ret))))))))
theorem fd9 : FnD Try.prog 9 80 [(.tmp 0)] c9 := ⟨⟨Try.f9, Try.f9.body.getD .skip, Try.func9, by kernel_rfl, by kernel_rfl, by kernel_rfl, by kernel_rfl⟩⟩
/-! f10 triforium/evaluate.Select -/
def b10_1 : ACode := (.seq (.reg [⟨some 24, (.binOp .lss 3 (.tmp 23) (.tmp 22) 3), none⟩])
 (.seq (.cond (.tmp 24) .skip (.exit 0))
 (.seq (.block 1 (.seq (.reg [⟨some 25, (.indexAddr 38 (.tmp 21) (.tmp 23)), none⟩,
  ⟨some 26, (.load 93 (.tmp 25)), none⟩,
  ⟨some 8, (.alloc 93), none⟩,
  ⟨none, (.store 93 (.tmp 8) (.tmp 26)), none⟩])
 (.seq (.seq (.reg [⟨some 27, (.fieldAddr 93 (.tmp 8) 0), none⟩,
  ⟨some 28, (.load 55 (.tmp 27)), none⟩,
  ⟨some 29, (.call { callee := (.builtin .len), args := #[(.tmp 28)], argTypes := #[55] }), none⟩,
  ⟨some 30, (.fieldAddr 40 (.tmp 2) 1), none⟩,
  ⟨some 31, (.load 3 (.tmp 30)), none⟩,
  ⟨some 32, (.binOp .neq 3 (.tmp 29) (.tmp 31) 3), none⟩])
 (.cond (.tmp 32) (.seq (.reg [⟨some 33, (.build 34 #[]), none⟩,
  ⟨some 4, (.assign (.const (.int .i64 0))), none⟩,
  ⟨none, (.store 34 (.tmp 5) (.tmp 33)), none⟩,
  ⟨some 6, (.assign (.const (.int .i64 5))), none⟩])
 .ret) .skip))
 (.seq (.reg [⟨some 34, (.fieldAddr 93 (.tmp 8) 0), none⟩,
  ⟨some 35, (.load 55 (.tmp 34)), none⟩,
  ⟨some 36, (.call { callee := (.value (.func 34)), args := #[(.tmp 35)], argTypes := #[55] }), none⟩,
  ⟨some 37, (.call { callee := (.value (.func 33)), args := #[(.tmp 36)], argTypes := #[52] }), none⟩])
 (.cond (.tmp 37) (.seq (.reg [⟨some 38, (.build 34 #[]), none⟩,
  ⟨some 4, (.assign (.const (.int .i64 0))), none⟩,
  ⟨none, (.store 34 (.tmp 5) (.tmp 38)), none⟩,
  ⟨some 6, (.assign (.const (.int .i64 10))), none⟩])
 .ret) .skip)))))
 (.reg [⟨some 39, (.binOp .add 3 (.tmp 23) (.const (.int .i64 1)) 3), none⟩,
  ⟨some 23, (.move (.tmp 39)), none⟩]))))
def b10_2 : ACode := (.seq (.seq (.reg [⟨some 48, (.move (.tmp 13)), none⟩,
  ⟨some 49, (.move (.tmp 1)), none⟩,
  ⟨some 50, (.call { callee := (.builtin .len), args := #[(.tmp 49)], argTypes := #[32] }), none⟩,
  ⟨some 51, (.binOp .lss 3 (.tmp 48) (.tmp 50) 3), none⟩,
  ⟨some 52, (.move (.tmp 51)), none⟩,
  ⟨some 53, (.move (.tmp 12)), some (52, true)⟩,
  ⟨some 54, (.pick (.tmp 52) (.tmp 53) (.const (.bool false))), none⟩])
 (.cond (.tmp 54) .skip (.exit 4)))
 (.seq (.block 5 (.dreg (.tk 0 ⟨some 58, (.fieldAddr 93 (.tmp 10) 0), none⟩
  (.tk 1 ⟨some 59, (.load 55 (.tmp 58)), none⟩
  (.tk 2 ⟨some 60, (.move (.tmp 13)), none⟩
  (.tk 3 ⟨some 61, (.indexAddr 55 (.tmp 59) (.tmp 60)), none⟩
  (.tk 4 ⟨some 62, (.load 57 (.tmp 61)), none⟩
  (.tk 5 ⟨some 63, (.move (.tmp 1)), none⟩
  (.tk 6 ⟨some 64, (.move (.tmp 13)), none⟩
  (.tk 7 ⟨some 65, (.indexAddr 32 (.tmp 63) (.tmp 64)), none⟩
  (.tk 8 ⟨some 66, (.load 34 (.tmp 65)), none⟩
  (.tk 9 ⟨some 67, (.move (.tmp 11)), none⟩
  (.one [10, 11, 12, 13, 14, 15] ⟨some 68, (.call { callee := (.value (.func 35)), args := #[(.tmp 62), (.tmp 66), (.tmp 67)], argTypes := #[57, 34, 96] }), none⟩
  (.tk 11 ⟨some 57, (.move (.tmp 68)), none⟩
  (.tk 12 ⟨some 69, (.extract (.tmp 57) 0), none⟩
  (.tk 13 ⟨some 70, (.extract (.tmp 57) 1), none⟩
  (.tk 14 ⟨some 11, (.assign (.tmp 69)), none⟩
  .fin))))))))))))))) [⟨some 12, (.assign (.tmp 70)), none⟩]))
 (.reg [⟨some 55, (.move (.tmp 13)), none⟩,
  ⟨some 56, (.binOp .add 3 (.tmp 55) (.const (.int .i64 1)) 3), none⟩,
  ⟨some 13, (.assign (.tmp 56)), none⟩])))
def c10_1 : ACode := (.seq (.reg [⟨some 71, (.move (.tmp 12)), none⟩])
 (.cond (.tmp 71) (.seq (.reg [⟨some 72, (.move (.tmp 9)), none⟩,
  ⟨some 73, (.fieldAddr 93 (.tmp 10) 1), none⟩,
  ⟨some 74, (.load 34 (.tmp 73)), none⟩,
  ⟨some 75, (.move (.tmp 11)), none⟩,
  ⟨some 76, (.call { callee := (.value (.func 36)), args := #[(.tmp 74), (.tmp 75)], argTypes := #[34, 96] }), none⟩,
  ⟨some 4, (.assign (.tmp 72)), none⟩,
  ⟨none, (.store 34 (.tmp 5) (.tmp 76)), none⟩,
  ⟨some 6, (.assign (.const (.int .i64 0))), none⟩])
 .ret) .skip))
def c10_2 : ACode := (.reg [⟨some 77, (.binOp .add 3 (.tmp 43) (.const (.int .i64 1)) 3), none⟩,
  ⟨some 43, (.move (.tmp 77)), none⟩])
def b10_3 : ACode := (.seq (.reg [⟨some 44, (.binOp .lss 3 (.tmp 43) (.tmp 42) 3), none⟩])
 (.seq (.cond (.tmp 44) .skip (.exit 2))
 (.seqL (.block 3 (.seq (.reg [⟨some 45, (.move (.tmp 43)), none⟩,
  ⟨some 46, (.indexAddr 38 (.tmp 41) (.tmp 43)), none⟩,
  ⟨some 47, (.load 93 (.tmp 46)), none⟩,
  ⟨some 10, (.alloc 93), none⟩,
  ⟨some 9, (.assign (.tmp 45)), none⟩,
  ⟨none, (.store 93 (.tmp 10) (.tmp 47)), none⟩])
 (.seq (.reg [⟨some 11, (.assign (.const (.slice none 0 0))), none⟩])
 (.seq (.reg [⟨some 12, (.assign (.const (.bool true))), none⟩])
 (.seqL (.seq (.reg [⟨some 13, (.assign (.const (.int .i64 0))), none⟩])
 (.block 4 (.loop b10_2)))
 c10_1)))))
 c10_2)))
def c10_3 : ACode := (.seq (.reg [⟨some 78, (.build 34 #[]), none⟩,
  ⟨some 4, (.assign (.const (.int .i64 0))), none⟩,
  ⟨none, (.store 34 (.tmp 5) (.tmp 78)), none⟩,
  ⟨some 6, (.assign (.const (.int .i64 420))), none⟩])
 .ret)
def c10_4 : ACode := (.seqL (.seq (.reg [⟨some 40, (.fieldAddr 40 (.tmp 2) 2), none⟩,
  ⟨some 41, (.load 38 (.tmp 40)), none⟩,
  ⟨some 42, (.call { callee := (.builtin .len), args := #[(.tmp 41)], argTypes := #[38] }), none⟩,
  ⟨some 43, (.move (.const (.int .i64 0))), none⟩])
 (.block 2 (.loop b10_3)))
 c10_3)
def c10 : ACode := (.seq (.reg [⟨some 2, (.box 40 (.tmp 0)), none⟩,
  ⟨some 4, (.assign (.const (.int .i64 0))), none⟩,
  ⟨some 5, (.alloc 34), none⟩,
  ⟨some 6, (.assign (.const (.int .i64 0))), none⟩])
 (.seq (.seq (.reg [⟨some 14, (.move (.tmp 1)), none⟩,
  ⟨some 15, (.call { callee := (.builtin .len), args := #[(.tmp 14)], argTypes := #[32] }), none⟩,
  ⟨some 16, (.fieldAddr 40 (.tmp 2) 1), none⟩,
  ⟨some 17, (.load 3 (.tmp 16)), none⟩,
  ⟨some 18, (.binOp .neq 3 (.tmp 15) (.tmp 17) 3), none⟩])
 (.cond (.tmp 18) (.seq (.reg [⟨some 19, (.build 34 #[]), none⟩,
  ⟨some 4, (.assign (.const (.int .i64 0))), none⟩,
  ⟨none, (.store 34 (.tmp 5) (.tmp 19)), none⟩,
  ⟨some 6, (.assign (.const (.int .i64 5))), none⟩])
 .ret) .skip))
 (.seqL (.seq (.reg [⟨some 20, (.fieldAddr 40 (.tmp 2) 2), none⟩,
  ⟨some 21, (.load 38 (.tmp 20)), none⟩,
  ⟨some 22, (.call { callee := (.builtin .len), args := #[(.tmp 21)], argTypes := #[38] }), none⟩,
  ⟨some 23, (.move (.const (.int .i64 0))), none⟩])
 (.block 0 (.loop b10_1)))
 c10_4)))
theorem fd10 : FnD Try.prog 10 79 [(.tmp 4), (.cell 5 34), (.tmp 6)] c10 := ⟨⟨Try.f10, Try.f10.body.getD .skip, Try.func10, by kernel_rfl, by kernel_rfl, by kernel_rfl, by kernel_rfl⟩⟩
/-! f11 triforium/triforiumlaw40.fun -/
def b11_1 : ACode := (.seq (.reg [⟨some 29, (.binOp .lss 3 (.tmp 28) (.tmp 27) 3), none⟩])
 (.seq (.cond (.tmp 29) .skip (.exit 2))
 (.seq (.block 3 (.seq (.reg [⟨some 30, (.indexAddr 44 (.tmp 26) (.tmp 28)), none⟩,
  ⟨some 31, (.load 50 (.tmp 30)), none⟩,
  ⟨some 8, (.alloc 50), none⟩,
  ⟨none, (.store 50 (.tmp 8) (.tmp 31)), none⟩])
 (.dreg (.tk 0 ⟨some 32, (.fieldAddr 93 (.tmp 6) 0), none⟩
  (.tk 1 ⟨some 33, (.load 55 (.tmp 32)), none⟩
  (.tk 2 ⟨some 34, (.load 50 (.tmp 8)), none⟩
  (.one [0, 1, 3, 4, 5, 6, 7] ⟨some 35, (.call { callee := (.value (.func 17)), args := #[(.tmp 34)], argTypes := #[50] }), none⟩
  (.tk 4 ⟨some 36, (.buildSlice 55 1 #[(0, (.tmp 35))]), none⟩
  .fin))))) [⟨some 37, (.call { callee := (.builtin .append), args := #[(.tmp 33), (.tmp 36)], argTypes := #[55, 55] }), none⟩,
  ⟨some 38, (.fieldAddr 93 (.tmp 6) 0), none⟩,
  ⟨none, (.store 55 (.tmp 38) (.tmp 37)), none⟩])))
 (.reg [⟨some 39, (.binOp .add 3 (.tmp 28) (.const (.int .i64 1)) 3), none⟩,
  ⟨some 28, (.move (.tmp 39)), none⟩]))))
def c11_1 : ACode := (.reg [⟨some 40, (.fieldAddr 40 (.tmp 3) 2), none⟩,
  ⟨some 41, (.load 38 (.tmp 40)), none⟩,
  ⟨some 42, (.load 93 (.tmp 6)), none⟩,
  ⟨some 43, (.buildSlice 38 1 #[(0, (.tmp 42))]), none⟩,
  ⟨some 44, (.call { callee := (.builtin .append), args := #[(.tmp 41), (.tmp 43)], argTypes := #[38, 38] }), none⟩,
  ⟨some 45, (.fieldAddr 40 (.tmp 3) 2), none⟩,
  ⟨none, (.store 38 (.tmp 45) (.tmp 44)), none⟩])
def c11_2 : ACode := (.reg [⟨some 46, (.binOp .add 3 (.tmp 17) (.const (.int .i64 1)) 3), none⟩,
  ⟨some 17, (.move (.tmp 46)), none⟩])
def b11_2 : ACode := (.seq (.reg [⟨some 18, (.binOp .lss 3 (.tmp 17) (.tmp 16) 3), none⟩])
 (.seq (.cond (.tmp 18) .skip (.exit 0))
 (.seqL (.block 1 (.seq (.reg [⟨some 19, (.indexAddr 22 (.tmp 15) (.tmp 17)), none⟩,
  ⟨some 20, (.load 46 (.tmp 19)), none⟩,
  ⟨some 5, (.alloc 46), none⟩,
  ⟨none, (.store 46 (.tmp 5) (.tmp 20)), none⟩])
 (.seq (.reg [⟨some 21, (.fieldAddr 46 (.tmp 5) 1), none⟩,
  ⟨some 22, (.load 28 (.tmp 21)), none⟩,
  ⟨some 23, (.call { callee := (.value (.func 18)), args := #[(.tmp 22)], argTypes := #[28] }), none⟩,
  ⟨some 24, (.build 93 #[(1, (.tmp 23))]), none⟩,
  ⟨some 6, (.alloc 93), none⟩,
  ⟨none, (.store 93 (.tmp 6) (.tmp 24)), none⟩])
 (.seqL (.seq (.reg [⟨some 25, (.fieldAddr 46 (.tmp 5) 0), none⟩,
  ⟨some 26, (.load 44 (.tmp 25)), none⟩,
  ⟨some 27, (.call { callee := (.builtin .len), args := #[(.tmp 26)], argTypes := #[44] }), none⟩,
  ⟨some 28, (.move (.const (.int .i64 0))), none⟩])
 (.block 2 (.loop b11_1)))
 c11_1))))
 c11_2)))
def c11_3 : ACode := (.seq (.reg [⟨some 47, (.load 40 (.tmp 3)), none⟩,
  ⟨none, (.store 40 (.tmp 2) (.tmp 47)), none⟩])
 .ret)
def c11 : ACode := (.seq (.reg [⟨some 1, (.box 24 (.tmp 0)), none⟩,
  ⟨some 2, (.alloc 40), none⟩])
 (.seq (.reg [⟨some 9, (.fieldAddr 24 (.tmp 1) 0), none⟩,
  ⟨some 10, (.load 9 (.tmp 9)), none⟩,
  ⟨some 11, (.fieldAddr 24 (.tmp 1) 1), none⟩,
  ⟨some 12, (.load 3 (.tmp 11)), none⟩,
  ⟨some 13, (.build 40 #[(0, (.tmp 10)), (1, (.tmp 12))]), none⟩,
  ⟨some 3, (.alloc 40), none⟩,
  ⟨none, (.store 40 (.tmp 3) (.tmp 13)), none⟩])
 (.seqL (.seq (.reg [⟨some 14, (.fieldAddr 24 (.tmp 1) 2), none⟩,
  ⟨some 15, (.load 22 (.tmp 14)), none⟩,
  ⟨some 16, (.call { callee := (.builtin .len), args := #[(.tmp 15)], argTypes := #[22] }), none⟩,
  ⟨some 17, (.move (.const (.int .i64 0))), none⟩])
 (.block 0 (.loop b11_2)))
 c11_3)))
theorem fd11 : FnD Try.prog 11 48 [(.cell 2 40)] c11 := ⟨⟨Try.f11, Try.f11.body.getD .skip, Try.func11, by kernel_rfl, by kernel_rfl, by kernel_rfl, by kernel_rfl⟩⟩
/-! f12 triforium/triforiumlaw40.exprs -/
def b12_1 : ACode := (.seq (.reg [⟨some 9, (.binOp .lss 3 (.tmp 8) (.tmp 7) 3), none⟩])
 (.seq (.cond (.tmp 9) .skip (.exit 0))
 (.seq (.block 1 (.seq (.reg [⟨some 10, (.indexAddr 25 (.tmp 6) (.tmp 8)), none⟩,
  ⟨some 11, (.load 28 (.tmp 10)), none⟩,
  ⟨some 5, (.alloc 28), none⟩,
  ⟨none, (.store 28 (.tmp 5) (.tmp 11)), none⟩])
 (.reg [⟨some 12, (.move (.tmp 3)), none⟩,
  ⟨some 13, (.load 28 (.tmp 5)), none⟩,
  ⟨some 14, (.call { callee := (.value (.func 18)), args := #[(.tmp 13)], argTypes := #[28] }), none⟩,
  ⟨some 15, (.buildSlice 32 1 #[(0, (.tmp 14))]), none⟩,
  ⟨some 16, (.call { callee := (.builtin .append), args := #[(.tmp 12), (.tmp 15)], argTypes := #[32, 32] }), none⟩,
  ⟨some 3, (.assign (.tmp 16)), none⟩])))
 (.reg [⟨some 17, (.binOp .add 3 (.tmp 8) (.const (.int .i64 1)) 3), none⟩,
  ⟨some 8, (.move (.tmp 17)), none⟩]))))
def c12_1 : ACode := (.seq (.reg [⟨some 18, (.move (.tmp 3)), none⟩,
  ⟨some 2, (.assign (.tmp 18)), none⟩])
 .ret)
def c12 : ACode := (.seq (.reg [⟨some 2, (.assign (.const (.slice none 0 0))), none⟩])
 (.seq (.reg [⟨some 3, (.assign (.const (.slice none 0 0))), none⟩])
 (.seqL (.seq (.reg [⟨some 6, (.move (.tmp 0)), none⟩,
  ⟨some 7, (.call { callee := (.builtin .len), args := #[(.tmp 6)], argTypes := #[25] }), none⟩,
  ⟨some 8, (.move (.const (.int .i64 0))), none⟩])
 (.block 0 (.loop b12_1)))
 c12_1)))
theorem fd12 : FnD Try.prog 12 19 [(.tmp 2)] c12 := ⟨⟨Try.f12, Try.f12.body.getD .skip, Try.func12, by kernel_rfl, by kernel_rfl, by kernel_rfl, by kernel_rfl⟩⟩
/-! f13 slices.Clone[[]triforium/triforiumref39.Clause,triforium/triforiumref39.Clause] -/
/-! f14 triforium/triforiumlaw40.equal -/
/-! f15 triforium/triforiumlaw40.patternNodes -/
def b15_1 : ACode := (.seq (.reg [⟨some 10, (.binOp .lss 3 (.tmp 9) (.tmp 8) 3), none⟩])
 (.seq (.cond (.tmp 10) .skip (.exit 0))
 (.seq (.block 1 (.seq (.reg [⟨some 11, (.indexAddr 44 (.tmp 7) (.tmp 9)), none⟩,
  ⟨some 12, (.load 50 (.tmp 11)), none⟩,
  ⟨some 5, (.alloc 50), none⟩,
  ⟨none, (.store 50 (.tmp 5) (.tmp 12)), none⟩])
 (.reg [⟨some 13, (.move (.tmp 3)), none⟩,
  ⟨some 14, (.load 50 (.tmp 5)), none⟩,
  ⟨some 15, (.call { callee := (.value (.func 15)), args := #[(.tmp 14)], argTypes := #[50] }), none⟩,
  ⟨some 16, (.binOp .add 3 (.tmp 13) (.tmp 15) 3), none⟩,
  ⟨some 3, (.assign (.tmp 16)), none⟩])))
 (.reg [⟨some 17, (.binOp .add 3 (.tmp 9) (.const (.int .i64 1)) 3), none⟩,
  ⟨some 9, (.move (.tmp 17)), none⟩]))))
def c15_1 : ACode := (.seq (.reg [⟨some 18, (.move (.tmp 3)), none⟩,
  ⟨some 2, (.assign (.tmp 18)), none⟩])
 .ret)
def c15 : ACode := (.seq (.reg [⟨some 1, (.box 50 (.tmp 0)), none⟩,
  ⟨some 2, (.assign (.const (.int .i64 0))), none⟩])
 (.seq (.reg [⟨some 3, (.assign (.const (.int .i64 1))), none⟩])
 (.seqL (.seq (.reg [⟨some 6, (.fieldAddr 50 (.tmp 1) 2), none⟩,
  ⟨some 7, (.load 44 (.tmp 6)), none⟩,
  ⟨some 8, (.call { callee := (.builtin .len), args := #[(.tmp 7)], argTypes := #[44] }), none⟩,
  ⟨some 9, (.move (.const (.int .i64 0))), none⟩])
 (.block 0 (.loop b15_1)))
 c15_1)))
theorem fd15 : FnD Try.prog 15 19 [(.tmp 2)] c15 := ⟨⟨Try.f15, Try.f15.body.getD .skip, Try.func15, by kernel_rfl, by kernel_rfl, by kernel_rfl, by kernel_rfl⟩⟩
/-! f16 triforium/evaluate.Match -/
def b16_1 : ACode := (.seq (.reg [⟨some 29, (.binOp .lss 3 (.tmp 28) (.tmp 27) 3), none⟩])
 (.seq (.cond (.tmp 29) .skip (.exit 0))
 (.seq (.block 1 (.seq (.reg [⟨some 30, (.indexAddr 96 (.tmp 26) (.tmp 28)), none⟩,
  ⟨some 31, (.load 102 (.tmp 30)), none⟩,
  ⟨some 13, (.alloc 102), none⟩,
  ⟨none, (.store 102 (.tmp 13) (.tmp 31)), none⟩])
 (.dreg (.tk 0 ⟨some 32, (.move (.tmp 10)), none⟩
  (.tk 1 ⟨some 33, (.fieldAddr 102 (.tmp 13) 0), none⟩
  (.tk 2 ⟨some 34, (.load 9 (.tmp 33)), none⟩
  (.tk 3 ⟨some 35, (.buildSlice 52 1 #[(0, (.tmp 34))]), none⟩
  (.tk 5 ⟨some 37, (.move (.tmp 11)), none⟩
  (.tk 6 ⟨some 38, (.fieldAddr 102 (.tmp 13) 1), none⟩
  (.tk 7 ⟨some 39, (.load 34 (.tmp 38)), none⟩
  (.tk 8 ⟨some 40, (.buildSlice 32 1 #[(0, (.tmp 39))]), none⟩
  (.one [4, 5, 6, 7, 8, 9, 10, 11] ⟨some 36, (.call { callee := (.builtin .append), args := #[(.tmp 32), (.tmp 35)], argTypes := #[52, 52] }), none⟩
  .fin))))))))) [⟨some 41, (.call { callee := (.builtin .append), args := #[(.tmp 37), (.tmp 40)], argTypes := #[32, 32] }), none⟩,
  ⟨some 10, (.assign (.tmp 36)), none⟩,
  ⟨some 11, (.assign (.tmp 41)), none⟩])))
 (.reg [⟨some 42, (.binOp .add 3 (.tmp 28) (.const (.int .i64 1)) 3), none⟩,
  ⟨some 28, (.move (.tmp 42)), none⟩]))))
def c16_1 : ACode := (.seq (.reg [⟨some 43, (.move (.tmp 10)), none⟩,
  ⟨some 44, (.move (.tmp 11)), none⟩,
  ⟨some 4, (.assign (.tmp 43)), none⟩,
  ⟨some 5, (.assign (.tmp 44)), none⟩,
  ⟨some 6, (.assign (.const (.bool true))), none⟩,
  ⟨some 7, (.assign (.const (.int .i64 0))), none⟩])
 .ret)
def c16 : ACode := (.seq (.reg [⟨some 2, (.box 57 (.tmp 0)), none⟩,
  ⟨some 3, (.box 34 (.tmp 1)), none⟩,
  ⟨some 4, (.assign (.const (.slice none 0 0))), none⟩,
  ⟨some 5, (.assign (.const (.slice none 0 0))), none⟩,
  ⟨some 6, (.assign (.const (.bool false))), none⟩,
  ⟨some 7, (.assign (.const (.int .i64 0))), none⟩])
 (.seq (.seq (.reg [⟨some 14, (.load 57 (.tmp 2)), none⟩,
  ⟨some 15, (.buildSlice 55 1 #[(0, (.tmp 14))]), none⟩,
  ⟨some 16, (.call { callee := (.value (.func 34)), args := #[(.tmp 15)], argTypes := #[55] }), none⟩,
  ⟨some 17, (.call { callee := (.value (.func 33)), args := #[(.tmp 16)], argTypes := #[52] }), none⟩])
 (.cond (.tmp 17) (.seq (.reg [⟨some 4, (.assign (.const (.slice none 0 0))), none⟩,
  ⟨some 5, (.assign (.const (.slice none 0 0))), none⟩,
  ⟨some 6, (.assign (.const (.bool false))), none⟩,
  ⟨some 7, (.assign (.const (.int .i64 10))), none⟩])
 .ret) .skip))
 (.seq (.reg [⟨some 19, (.load 57 (.tmp 2)), none⟩,
  ⟨some 20, (.load 34 (.tmp 3)), none⟩,
  ⟨some 21, (.call { callee := (.value (.func 35)), args := #[(.tmp 19), (.tmp 20), (.const (.slice none 0 0))], argTypes := #[57, 34, 96] }), none⟩,
  ⟨some 18, (.move (.tmp 21)), none⟩,
  ⟨some 22, (.extract (.tmp 18) 0), none⟩,
  ⟨some 23, (.extract (.tmp 18) 1), none⟩,
  ⟨some 8, (.assign (.tmp 22)), none⟩,
  ⟨some 9, (.assign (.tmp 23)), none⟩])
 (.seq (.seq (.reg [⟨some 24, (.move (.tmp 9)), none⟩,
  ⟨some 25, (.unOp .not 4 (.tmp 24)), none⟩])
 (.cond (.tmp 25) (.seq (.reg [⟨some 4, (.assign (.const (.slice none 0 0))), none⟩,
  ⟨some 5, (.assign (.const (.slice none 0 0))), none⟩,
  ⟨some 6, (.assign (.const (.bool false))), none⟩,
  ⟨some 7, (.assign (.const (.int .i64 0))), none⟩])
 .ret) .skip))
 (.seq (.reg [⟨some 10, (.assign (.const (.slice none 0 0))), none⟩])
 (.seq (.reg [⟨some 11, (.assign (.const (.slice none 0 0))), none⟩])
 (.seqL (.seq (.reg [⟨some 26, (.move (.tmp 8)), none⟩,
  ⟨some 27, (.call { callee := (.builtin .len), args := #[(.tmp 26)], argTypes := #[96] }), none⟩,
  ⟨some 28, (.move (.const (.int .i64 0))), none⟩])
 (.block 0 (.loop b16_1)))
 c16_1)))))))
theorem fd16 : FnD Try.prog 16 45 [(.tmp 4), (.tmp 5), (.tmp 6), (.tmp 7)] c16 := ⟨⟨Try.f16, Try.f16.body.getD .skip, Try.func16, by kernel_rfl, by kernel_rfl, by kernel_rfl, by kernel_rfl⟩⟩
/-! f17 triforium/triforiumlaw40.pattern -/
def b17_1 : ACode := (.seq (.reg [⟨some 15, (.binOp .lss 3 (.tmp 14) (.tmp 13) 3), none⟩])
 (.seq (.cond (.tmp 15) .skip (.exit 0))
 (.seq (.block 1 (.seq (.reg [⟨some 16, (.indexAddr 44 (.tmp 12) (.tmp 14)), none⟩,
  ⟨some 17, (.load 50 (.tmp 16)), none⟩,
  ⟨some 5, (.alloc 50), none⟩,
  ⟨none, (.store 50 (.tmp 5) (.tmp 17)), none⟩])
 (.dreg (.tk 0 ⟨some 18, (.fieldAddr 57 (.tmp 3) 2), none⟩
  (.tk 1 ⟨some 19, (.load 55 (.tmp 18)), none⟩
  (.tk 2 ⟨some 20, (.load 50 (.tmp 5)), none⟩
  (.one [0, 1, 3, 4, 5, 6, 7] ⟨some 21, (.call { callee := (.value (.func 17)), args := #[(.tmp 20)], argTypes := #[50] }), none⟩
  (.tk 4 ⟨some 22, (.buildSlice 55 1 #[(0, (.tmp 21))]), none⟩
  .fin))))) [⟨some 23, (.call { callee := (.builtin .append), args := #[(.tmp 19), (.tmp 22)], argTypes := #[55, 55] }), none⟩,
  ⟨some 24, (.fieldAddr 57 (.tmp 3) 2), none⟩,
  ⟨none, (.store 55 (.tmp 24) (.tmp 23)), none⟩])))
 (.reg [⟨some 25, (.binOp .add 3 (.tmp 14) (.const (.int .i64 1)) 3), none⟩,
  ⟨some 14, (.move (.tmp 25)), none⟩]))))
def c17_1 : ACode := (.seq (.reg [⟨some 26, (.load 57 (.tmp 3)), none⟩,
  ⟨none, (.store 57 (.tmp 2) (.tmp 26)), none⟩])
 .ret)
def c17 : ACode := (.seq (.reg [⟨some 1, (.box 50 (.tmp 0)), none⟩,
  ⟨some 2, (.alloc 57), none⟩])
 (.seq (.reg [⟨some 6, (.fieldAddr 50 (.tmp 1) 0), none⟩,
  ⟨some 7, (.load 4 (.tmp 6)), none⟩,
  ⟨some 8, (.fieldAddr 50 (.tmp 1) 1), none⟩,
  ⟨some 9, (.load 9 (.tmp 8)), none⟩,
  ⟨some 10, (.build 57 #[(0, (.tmp 7)), (1, (.tmp 9))]), none⟩,
  ⟨some 3, (.alloc 57), none⟩,
  ⟨none, (.store 57 (.tmp 3) (.tmp 10)), none⟩])
 (.seqL (.seq (.reg [⟨some 11, (.fieldAddr 50 (.tmp 1) 2), none⟩,
  ⟨some 12, (.load 44 (.tmp 11)), none⟩,
  ⟨some 13, (.call { callee := (.builtin .len), args := #[(.tmp 12)], argTypes := #[44] }), none⟩,
  ⟨some 14, (.move (.const (.int .i64 0))), none⟩])
 (.block 0 (.loop b17_1)))
 c17_1)))
theorem fd17 : FnD Try.prog 17 27 [(.cell 2 57)] c17 := ⟨⟨Try.f17, Try.f17.body.getD .skip, Try.func17, by kernel_rfl, by kernel_rfl, by kernel_rfl, by kernel_rfl⟩⟩
/-! f18 triforium/triforiumlaw40.Expr -/
def b18_1 : ACode := (.seq (.reg [⟨some 15, (.binOp .lss 3 (.tmp 14) (.tmp 13) 3), none⟩])
 (.seq (.cond (.tmp 15) .skip (.exit 0))
 (.seq (.block 1 (.seq (.reg [⟨some 16, (.indexAddr 25 (.tmp 12) (.tmp 14)), none⟩,
  ⟨some 17, (.load 28 (.tmp 16)), none⟩,
  ⟨some 5, (.alloc 28), none⟩,
  ⟨none, (.store 28 (.tmp 5) (.tmp 17)), none⟩])
 (.dreg (.tk 0 ⟨some 18, (.fieldAddr 34 (.tmp 3) 2), none⟩
  (.tk 1 ⟨some 19, (.load 32 (.tmp 18)), none⟩
  (.tk 2 ⟨some 20, (.load 28 (.tmp 5)), none⟩
  (.one [0, 1, 3, 4, 5, 6, 7] ⟨some 21, (.call { callee := (.value (.func 18)), args := #[(.tmp 20)], argTypes := #[28] }), none⟩
  (.tk 4 ⟨some 22, (.buildSlice 32 1 #[(0, (.tmp 21))]), none⟩
  .fin))))) [⟨some 23, (.call { callee := (.builtin .append), args := #[(.tmp 19), (.tmp 22)], argTypes := #[32, 32] }), none⟩,
  ⟨some 24, (.fieldAddr 34 (.tmp 3) 2), none⟩,
  ⟨none, (.store 32 (.tmp 24) (.tmp 23)), none⟩])))
 (.reg [⟨some 25, (.binOp .add 3 (.tmp 14) (.const (.int .i64 1)) 3), none⟩,
  ⟨some 14, (.move (.tmp 25)), none⟩]))))
def c18_1 : ACode := (.seq (.reg [⟨some 26, (.load 34 (.tmp 3)), none⟩,
  ⟨none, (.store 34 (.tmp 2) (.tmp 26)), none⟩])
 .ret)
def c18 : ACode := (.seq (.reg [⟨some 1, (.box 28 (.tmp 0)), none⟩,
  ⟨some 2, (.alloc 34), none⟩])
 (.seq (.reg [⟨some 6, (.fieldAddr 28 (.tmp 1) 0), none⟩,
  ⟨some 7, (.load 3 (.tmp 6)), none⟩,
  ⟨some 8, (.fieldAddr 28 (.tmp 1) 1), none⟩,
  ⟨some 9, (.load 9 (.tmp 8)), none⟩,
  ⟨some 10, (.build 34 #[(0, (.tmp 7)), (1, (.tmp 9))]), none⟩,
  ⟨some 3, (.alloc 34), none⟩,
  ⟨none, (.store 34 (.tmp 3) (.tmp 10)), none⟩])
 (.seqL (.seq (.reg [⟨some 11, (.fieldAddr 28 (.tmp 1) 2), none⟩,
  ⟨some 12, (.load 25 (.tmp 11)), none⟩,
  ⟨some 13, (.call { callee := (.builtin .len), args := #[(.tmp 12)], argTypes := #[25] }), none⟩,
  ⟨some 14, (.move (.const (.int .i64 0))), none⟩])
 (.block 0 (.loop b18_1)))
 c18_1)))
theorem fd18 : FnD Try.prog 18 27 [(.cell 2 34)] c18 := ⟨⟨Try.f18, Try.f18.body.getD .skip, Try.func18, by kernel_rfl, by kernel_rfl, by kernel_rfl, by kernel_rfl⟩⟩
/-! f19 triforium/triforiumref40.Match -/
def b19_1 : ACode := (.seq (.seq (.reg [⟨some 26, (.move (.tmp 12)), none⟩,
  ⟨some 27, (.move (.tmp 8)), none⟩,
  ⟨some 28, (.call { callee := (.builtin .len), args := #[(.tmp 27)], argTypes := #[104] }), none⟩,
  ⟨some 29, (.binOp .lss 3 (.tmp 26) (.tmp 28) 3), none⟩])
 (.cond (.tmp 29) .skip (.exit 0)))
 (.seq (.block 1 (.seq (.reg [⟨some 32, (.move (.tmp 10)), none⟩,
  ⟨some 33, (.move (.tmp 8)), none⟩,
  ⟨some 34, (.move (.tmp 12)), none⟩,
  ⟨some 35, (.indexAddr 104 (.tmp 33) (.tmp 34)), none⟩,
  ⟨some 36, (.fieldAddr 108 (.tmp 35) 0), none⟩,
  ⟨some 37, (.load 9 (.tmp 36)), none⟩,
  ⟨some 38, (.buildSlice 52 1 #[(0, (.tmp 37))]), none⟩,
  ⟨some 39, (.call { callee := (.builtin .append), args := #[(.tmp 32), (.tmp 38)], argTypes := #[52, 52] }), none⟩,
  ⟨some 10, (.assign (.tmp 39)), none⟩])
 (.reg [⟨some 40, (.move (.tmp 11)), none⟩,
  ⟨some 41, (.move (.tmp 8)), none⟩,
  ⟨some 42, (.move (.tmp 12)), none⟩,
  ⟨some 43, (.indexAddr 104 (.tmp 41) (.tmp 42)), none⟩,
  ⟨some 44, (.fieldAddr 108 (.tmp 43) 1), none⟩,
  ⟨some 45, (.load 28 (.tmp 44)), none⟩,
  ⟨some 46, (.buildSlice 25 1 #[(0, (.tmp 45))]), none⟩,
  ⟨some 47, (.call { callee := (.builtin .append), args := #[(.tmp 40), (.tmp 46)], argTypes := #[25, 25] }), none⟩,
  ⟨some 11, (.assign (.tmp 47)), none⟩])))
 (.reg [⟨some 30, (.move (.tmp 12)), none⟩,
  ⟨some 31, (.binOp .add 3 (.tmp 30) (.const (.int .i64 1)) 3), none⟩,
  ⟨some 12, (.assign (.tmp 31)), none⟩])))
def c19_1 : ACode := (.seq (.reg [⟨some 48, (.move (.tmp 10)), none⟩,
  ⟨some 49, (.move (.tmp 11)), none⟩,
  ⟨some 4, (.assign (.tmp 48)), none⟩,
  ⟨some 5, (.assign (.tmp 49)), none⟩,
  ⟨some 6, (.assign (.const (.bool true))), none⟩,
  ⟨some 7, (.assign (.const (.int .i64 0))), none⟩])
 .ret)
def c19 : ACode := (.seq (.reg [⟨some 2, (.box 50 (.tmp 0)), none⟩,
  ⟨some 3, (.box 28 (.tmp 1)), none⟩,
  ⟨some 4, (.assign (.const (.slice none 0 0))), none⟩,
  ⟨some 5, (.assign (.const (.slice none 0 0))), none⟩,
  ⟨some 6, (.assign (.const (.bool false))), none⟩,
  ⟨some 7, (.assign (.const (.int .i64 0))), none⟩])
 (.seq (.seq (.reg [⟨some 13, (.load 50 (.tmp 2)), none⟩,
  ⟨some 14, (.call { callee := (.value (.func 39)), args := #[(.tmp 13)], argTypes := #[50] }), none⟩,
  ⟨some 15, (.call { callee := (.value (.func 38)), args := #[(.tmp 14)], argTypes := #[52] }), none⟩])
 (.cond (.tmp 15) (.seq (.reg [⟨some 4, (.assign (.const (.slice none 0 0))), none⟩,
  ⟨some 5, (.assign (.const (.slice none 0 0))), none⟩,
  ⟨some 6, (.assign (.const (.bool false))), none⟩,
  ⟨some 7, (.assign (.const (.int .i64 10))), none⟩])
 .ret) .skip))
 (.seq (.reg [⟨some 17, (.load 50 (.tmp 2)), none⟩,
  ⟨some 18, (.load 28 (.tmp 3)), none⟩,
  ⟨some 19, (.call { callee := (.value (.func 40)), args := #[(.tmp 17), (.tmp 18), (.const (.slice none 0 0))], argTypes := #[50, 28, 104] }), none⟩,
  ⟨some 16, (.move (.tmp 19)), none⟩,
  ⟨some 20, (.extract (.tmp 16) 0), none⟩,
  ⟨some 21, (.extract (.tmp 16) 1), none⟩,
  ⟨some 8, (.assign (.tmp 20)), none⟩,
  ⟨some 9, (.assign (.tmp 21)), none⟩])
 (.seq (.seq (.reg [⟨some 22, (.move (.tmp 9)), none⟩,
  ⟨some 23, (.unOp .not 4 (.tmp 22)), none⟩])
 (.cond (.tmp 23) (.seq (.reg [⟨some 4, (.assign (.const (.slice none 0 0))), none⟩,
  ⟨some 5, (.assign (.const (.slice none 0 0))), none⟩,
  ⟨some 6, (.assign (.const (.bool false))), none⟩,
  ⟨some 7, (.assign (.const (.int .i64 0))), none⟩])
 .ret) .skip))
 (.seq (.reg [⟨some 24, (.buildSlice 52 0 #[]), none⟩,
  ⟨some 10, (.assign (.tmp 24)), none⟩])
 (.seq (.reg [⟨some 25, (.buildSlice 25 0 #[]), none⟩,
  ⟨some 11, (.assign (.tmp 25)), none⟩])
 (.seqL (.seq (.reg [⟨some 12, (.assign (.const (.int .i64 0))), none⟩])
 (.block 0 (.loop b19_1)))
 c19_1)))))))
theorem fd19 : FnD Try.prog 19 50 [(.tmp 4), (.tmp 5), (.tmp 6), (.tmp 7)] c19 := ⟨⟨Try.f19, Try.f19.body.getD .skip, Try.func19, by kernel_rfl, by kernel_rfl, by kernel_rfl, by kernel_rfl⟩⟩
/-! f20 slices.Equal[[]string,string] -/
def b20_1 : ACode := (.seq (.reg [⟨some 14, (.binOp .lss 3 (.tmp 13) (.tmp 12) 3), none⟩])
 (.seq (.cond (.tmp 14) .skip (.exit 0))
 (.seq (.block 1 (.seq (.reg [⟨some 15, (.move (.tmp 13)), none⟩,
  ⟨some 5, (.assign (.tmp 15)), none⟩])
 (.seq (.dreg (.tk 0 ⟨some 16, (.move (.tmp 0)), none⟩
  (.tk 1 ⟨some 17, (.move (.tmp 5)), none⟩
  (.tk 2 ⟨some 18, (.indexAddr 52 (.tmp 16) (.tmp 17)), none⟩
  (.tk 3 ⟨some 19, (.load 9 (.tmp 18)), none⟩
  (.tk 4 ⟨some 20, (.move (.tmp 1)), none⟩
  (.tk 5 ⟨some 21, (.move (.tmp 5)), none⟩
  (.tk 6 ⟨some 22, (.indexAddr 52 (.tmp 20) (.tmp 21)), none⟩
  (.tk 7 ⟨some 23, (.load 9 (.tmp 22)), none⟩
  .fin)))))))) [⟨some 24, (.binOp .neq 9 (.tmp 19) (.tmp 23) 9), none⟩])
 (.cond (.tmp 24) (.seq (.reg [⟨some 4, (.assign (.const (.bool false))), none⟩])
 .ret) .skip))))
 (.reg [⟨some 25, (.binOp .add 3 (.tmp 13) (.const (.int .i64 1)) 3), none⟩,
  ⟨some 13, (.move (.tmp 25)), none⟩]))))
def c20_1 : ACode := (.seq (.reg [⟨some 4, (.assign (.const (.bool true))), none⟩])
 .ret)
def c20 : ACode := (.seq (.reg [⟨some 4, (.assign (.const (.bool false))), none⟩])
 (.seq (.seq (.reg [⟨some 6, (.move (.tmp 0)), none⟩,
  ⟨some 7, (.call { callee := (.builtin .len), args := #[(.tmp 6)], argTypes := #[52] }), none⟩,
  ⟨some 8, (.move (.tmp 1)), none⟩,
  ⟨some 9, (.call { callee := (.builtin .len), args := #[(.tmp 8)], argTypes := #[52] }), none⟩,
  ⟨some 10, (.binOp .neq 3 (.tmp 7) (.tmp 9) 3), none⟩])
 (.cond (.tmp 10) (.seq (.reg [⟨some 4, (.assign (.const (.bool false))), none⟩])
 .ret) .skip))
 (.seqL (.seq (.reg [⟨some 11, (.move (.tmp 0)), none⟩,
  ⟨some 12, (.call { callee := (.builtin .len), args := #[(.tmp 11)], argTypes := #[52] }), none⟩,
  ⟨some 13, (.move (.const (.int .i64 0))), none⟩])
 (.block 0 (.loop b20_1)))
 c20_1)))
theorem fd20 : FnD Try.prog 20 26 [(.tmp 4)] c20 := ⟨⟨Try.f20, Try.f20.body.getD .skip, Try.func20, by kernel_rfl, by kernel_rfl, by kernel_rfl, by kernel_rfl⟩⟩
/-! f21 slices.EqualFunc[[]triforium/codegen.Expr,[]triforium/triforiumref39.Expr,triforium/codegen.Expr,triforium/triforiumref39.Expr] -/
def b21_1 : ACode := (.seq (.reg [⟨some 18, (.binOp .lss 3 (.tmp 17) (.tmp 16) 3), none⟩])
 (.seq (.cond (.tmp 18) .skip (.exit 0))
 (.seq (.block 1 (.seq (.reg [⟨some 19, (.move (.tmp 17)), none⟩,
  ⟨some 20, (.indexAddr 32 (.tmp 15) (.tmp 17)), none⟩,
  ⟨some 21, (.load 34 (.tmp 20)), none⟩,
  ⟨some 8, (.alloc 34), none⟩,
  ⟨some 7, (.assign (.tmp 19)), none⟩,
  ⟨none, (.store 34 (.tmp 8) (.tmp 21)), none⟩])
 (.seq (.reg [⟨some 22, (.move (.tmp 1)), none⟩,
  ⟨some 23, (.move (.tmp 7)), none⟩,
  ⟨some 24, (.indexAddr 25 (.tmp 22) (.tmp 23)), none⟩,
  ⟨some 25, (.load 28 (.tmp 24)), none⟩,
  ⟨some 9, (.alloc 28), none⟩,
  ⟨none, (.store 28 (.tmp 9) (.tmp 25)), none⟩])
 (.seq (.reg [⟨some 26, (.move (.tmp 2)), none⟩,
  ⟨some 27, (.load 34 (.tmp 8)), none⟩,
  ⟨some 28, (.load 28 (.tmp 9)), none⟩,
  ⟨some 29, (.call { callee := (.value (.tmp 26)), args := #[(.tmp 27), (.tmp 28)], argTypes := #[34, 28] }), none⟩,
  ⟨some 30, (.unOp .not 4 (.tmp 29)), none⟩])
 (.cond (.tmp 30) (.seq (.reg [⟨some 6, (.assign (.const (.bool false))), none⟩])
 .ret) .skip)))))
 (.reg [⟨some 31, (.binOp .add 3 (.tmp 17) (.const (.int .i64 1)) 3), none⟩,
  ⟨some 17, (.move (.tmp 31)), none⟩]))))
def c21_1 : ACode := (.seq (.reg [⟨some 6, (.assign (.const (.bool true))), none⟩])
 .ret)
def c21 : ACode := (.seq (.reg [⟨some 6, (.assign (.const (.bool false))), none⟩])
 (.seq (.seq (.reg [⟨some 10, (.move (.tmp 0)), none⟩,
  ⟨some 11, (.call { callee := (.builtin .len), args := #[(.tmp 10)], argTypes := #[32] }), none⟩,
  ⟨some 12, (.move (.tmp 1)), none⟩,
  ⟨some 13, (.call { callee := (.builtin .len), args := #[(.tmp 12)], argTypes := #[25] }), none⟩,
  ⟨some 14, (.binOp .neq 3 (.tmp 11) (.tmp 13) 3), none⟩])
 (.cond (.tmp 14) (.seq (.reg [⟨some 6, (.assign (.const (.bool false))), none⟩])
 .ret) .skip))
 (.seqL (.seq (.reg [⟨some 15, (.move (.tmp 0)), none⟩,
  ⟨some 16, (.call { callee := (.builtin .len), args := #[(.tmp 15)], argTypes := #[32] }), none⟩,
  ⟨some 17, (.move (.const (.int .i64 0))), none⟩])
 (.block 0 (.loop b21_1)))
 c21_1)))
theorem fd21 : FnD Try.prog 21 32 [(.tmp 6)] c21 := ⟨⟨Try.f21, Try.f21.body.getD .skip, Try.func21, by kernel_rfl, by kernel_rfl, by kernel_rfl, by kernel_rfl⟩⟩
/-! f22 triforium/triforiumlaw40.Same -/
def c22 : ACode := (.seq (.reg [⟨some 2, (.box 34 (.tmp 0)), none⟩,
  ⟨some 3, (.box 28 (.tmp 1)), none⟩,
  ⟨some 4, (.assign (.const (.bool false))), none⟩])
 (.seq (.reg [⟨some 5, (.fieldAddr 34 (.tmp 2) 0), none⟩,
  ⟨some 6, (.load 3 (.tmp 5)), none⟩,
  ⟨some 7, (.fieldAddr 28 (.tmp 3) 0), none⟩,
  ⟨some 8, (.load 3 (.tmp 7)), none⟩,
  ⟨some 9, (.binOp .eql 3 (.tmp 6) (.tmp 8) 3), none⟩,
  ⟨some 10, (.move (.tmp 9)), none⟩,
  ⟨some 11, (.fieldAddr 34 (.tmp 2) 1), some (10, true)⟩,
  ⟨some 12, (.load 9 (.tmp 11)), some (10, true)⟩,
  ⟨some 13, (.fieldAddr 28 (.tmp 3) 1), some (10, true)⟩,
  ⟨some 14, (.load 9 (.tmp 13)), some (10, true)⟩,
  ⟨some 15, (.binOp .eql 9 (.tmp 12) (.tmp 14) 9), some (10, true)⟩,
  ⟨some 16, (.pick (.tmp 10) (.tmp 15) (.const (.bool false))), none⟩,
  ⟨some 17, (.move (.tmp 16)), none⟩,
  ⟨some 18, (.fieldAddr 34 (.tmp 2) 2), some (17, true)⟩,
  ⟨some 19, (.load 32 (.tmp 18)), some (17, true)⟩,
  ⟨some 20, (.fieldAddr 28 (.tmp 3) 2), some (17, true)⟩,
  ⟨some 21, (.load 25 (.tmp 20)), some (17, true)⟩,
  ⟨some 22, (.call { callee := (.value (.func 21)), args := #[(.tmp 19), (.tmp 21), (.func 22)], argTypes := #[32, 25, 64] }), some (17, true)⟩,
  ⟨some 23, (.pick (.tmp 17) (.tmp 22) (.const (.bool false))), none⟩,
  ⟨some 4, (.assign (.tmp 23)), none⟩])
 .ret))
theorem fd22 : FnD Try.prog 22 24 [(.tmp 4)] c22 := ⟨⟨Try.f22, Try.f22.body.getD .skip, Try.func22, by kernel_rfl, by kernel_rfl, by kernel_rfl, by kernel_rfl⟩⟩
/-! f23 triforium/triforiumref40.Select -/
def b23_1 : ACode := (.seq (.seq (.reg [⟨some 37, (.move (.tmp 9)), none⟩,
  ⟨some 38, (.fieldAddr 24 (.tmp 2) 2), none⟩,
  ⟨some 39, (.load 22 (.tmp 38)), none⟩,
  ⟨some 40, (.move (.tmp 7)), none⟩,
  ⟨some 41, (.indexAddr 22 (.tmp 39) (.tmp 40)), none⟩,
  ⟨some 42, (.fieldAddr 46 (.tmp 41) 0), none⟩,
  ⟨some 43, (.load 44 (.tmp 42)), none⟩,
  ⟨some 44, (.call { callee := (.builtin .len), args := #[(.tmp 43)], argTypes := #[44] }), none⟩,
  ⟨some 45, (.binOp .lss 3 (.tmp 37) (.tmp 44) 3), none⟩])
 (.cond (.tmp 45) .skip (.exit 2)))
 (.seq (.block 3 (.reg [⟨some 48, (.move (.tmp 8)), none⟩,
  ⟨some 49, (.fieldAddr 24 (.tmp 2) 2), none⟩,
  ⟨some 50, (.load 22 (.tmp 49)), none⟩,
  ⟨some 51, (.move (.tmp 7)), none⟩,
  ⟨some 52, (.indexAddr 22 (.tmp 50) (.tmp 51)), none⟩,
  ⟨some 53, (.fieldAddr 46 (.tmp 52) 0), none⟩,
  ⟨some 54, (.load 44 (.tmp 53)), none⟩,
  ⟨some 55, (.move (.tmp 9)), none⟩,
  ⟨some 56, (.indexAddr 44 (.tmp 54) (.tmp 55)), none⟩,
  ⟨some 57, (.load 50 (.tmp 56)), none⟩,
  ⟨some 58, (.call { callee := (.value (.func 39)), args := #[(.tmp 57)], argTypes := #[50] }), none⟩,
  ⟨some 59, (.call { callee := (.builtin .append), args := #[(.tmp 48), (.tmp 58)], argTypes := #[52, 52] }), none⟩,
  ⟨some 8, (.assign (.tmp 59)), none⟩]))
 (.reg [⟨some 46, (.move (.tmp 9)), none⟩,
  ⟨some 47, (.binOp .add 3 (.tmp 46) (.const (.int .i64 1)) 3), none⟩,
  ⟨some 9, (.assign (.tmp 47)), none⟩])))
def c23_1 : ACode := (.seq (.reg [⟨some 60, (.move (.tmp 8)), none⟩,
  ⟨some 61, (.call { callee := (.value (.func 38)), args := #[(.tmp 60)], argTypes := #[52] }), none⟩])
 (.cond (.tmp 61) (.seq (.reg [⟨some 62, (.build 28 #[]), none⟩,
  ⟨some 4, (.assign (.const (.int .i64 0))), none⟩,
  ⟨none, (.store 28 (.tmp 5) (.tmp 62)), none⟩,
  ⟨some 6, (.assign (.const (.int .i64 10))), none⟩])
 .ret) .skip))
def c23_2 : ACode := (.reg [⟨some 23, (.move (.tmp 7)), none⟩,
  ⟨some 24, (.binOp .add 3 (.tmp 23) (.const (.int .i64 1)) 3), none⟩,
  ⟨some 7, (.assign (.tmp 24)), none⟩])
def b23_2 : ACode := (.seq (.seq (.reg [⟨some 18, (.move (.tmp 7)), none⟩,
  ⟨some 19, (.fieldAddr 24 (.tmp 2) 2), none⟩,
  ⟨some 20, (.load 22 (.tmp 19)), none⟩,
  ⟨some 21, (.call { callee := (.builtin .len), args := #[(.tmp 20)], argTypes := #[22] }), none⟩,
  ⟨some 22, (.binOp .lss 3 (.tmp 18) (.tmp 21) 3), none⟩])
 (.cond (.tmp 22) .skip (.exit 0)))
 (.seqL (.block 1 (.seq (.seq (.dreg (.tk 0 ⟨some 25, (.fieldAddr 24 (.tmp 2) 2), none⟩
  (.tk 1 ⟨some 26, (.load 22 (.tmp 25)), none⟩
  (.tk 2 ⟨some 27, (.move (.tmp 7)), none⟩
  (.tk 3 ⟨some 28, (.indexAddr 22 (.tmp 26) (.tmp 27)), none⟩
  (.tk 4 ⟨some 29, (.fieldAddr 46 (.tmp 28) 0), none⟩
  (.tk 5 ⟨some 30, (.load 44 (.tmp 29)), none⟩
  (.tk 6 ⟨some 31, (.call { callee := (.builtin .len), args := #[(.tmp 30)], argTypes := #[44] }), none⟩
  (.tk 7 ⟨some 32, (.fieldAddr 24 (.tmp 2) 1), none⟩
  (.tk 8 ⟨some 33, (.load 3 (.tmp 32)), none⟩
  .fin))))))))) [⟨some 34, (.binOp .neq 3 (.tmp 31) (.tmp 33) 3), none⟩])
 (.cond (.tmp 34) (.seq (.reg [⟨some 35, (.build 28 #[]), none⟩,
  ⟨some 4, (.assign (.const (.int .i64 0))), none⟩,
  ⟨none, (.store 28 (.tmp 5) (.tmp 35)), none⟩,
  ⟨some 6, (.assign (.const (.int .i64 5))), none⟩])
 .ret) .skip))
 (.seq (.reg [⟨some 36, (.buildSlice 52 0 #[]), none⟩,
  ⟨some 8, (.assign (.tmp 36)), none⟩])
 (.seqL (.seq (.reg [⟨some 9, (.assign (.const (.int .i64 0))), none⟩])
 (.block 2 (.loop b23_1)))
 c23_1))))
 c23_2))
def c23_3 : ACode := (.seq (.reg [⟨some 64, (.load 24 (.tmp 2)), none⟩,
  ⟨some 65, (.move (.tmp 1)), none⟩,
  ⟨some 66, (.call { callee := (.value (.func 41)), args := #[(.tmp 64), (.tmp 65)], argTypes := #[24, 25] }), none⟩,
  ⟨some 63, (.move (.tmp 66)), none⟩,
  ⟨some 67, (.extract (.tmp 63) 0), none⟩,
  ⟨some 68, (.extract (.tmp 63) 1), none⟩,
  ⟨some 10, (.assign (.tmp 67)), none⟩,
  ⟨some 11, (.assign (.tmp 68)), none⟩])
 (.seq (.seq (.reg [⟨some 69, (.move (.tmp 10)), none⟩,
  ⟨some 70, (.binOp .lss 3 (.tmp 69) (.const (.int .i64 0)) 3), none⟩])
 (.cond (.tmp 70) (.seq (.reg [⟨some 71, (.build 28 #[]), none⟩,
  ⟨some 4, (.assign (.const (.int .i64 0))), none⟩,
  ⟨none, (.store 28 (.tmp 5) (.tmp 71)), none⟩,
  ⟨some 6, (.assign (.const (.int .i64 420))), none⟩])
 .ret) .skip))
 (.seq (.reg [⟨some 72, (.move (.tmp 10)), none⟩,
  ⟨some 73, (.fieldAddr 24 (.tmp 2) 2), none⟩,
  ⟨some 74, (.load 22 (.tmp 73)), none⟩,
  ⟨some 75, (.move (.tmp 10)), none⟩,
  ⟨some 76, (.indexAddr 22 (.tmp 74) (.tmp 75)), none⟩,
  ⟨some 77, (.fieldAddr 46 (.tmp 76) 1), none⟩,
  ⟨some 78, (.load 28 (.tmp 77)), none⟩,
  ⟨some 79, (.move (.tmp 11)), none⟩,
  ⟨some 80, (.call { callee := (.value (.func 42)), args := #[(.tmp 78), (.tmp 79)], argTypes := #[28, 104] }), none⟩,
  ⟨some 4, (.assign (.tmp 72)), none⟩,
  ⟨none, (.store 28 (.tmp 5) (.tmp 80)), none⟩,
  ⟨some 6, (.assign (.const (.int .i64 0))), none⟩])
 .ret)))
def c23 : ACode := (.seq (.reg [⟨some 2, (.box 24 (.tmp 0)), none⟩,
  ⟨some 4, (.assign (.const (.int .i64 0))), none⟩,
  ⟨some 5, (.alloc 28), none⟩,
  ⟨some 6, (.assign (.const (.int .i64 0))), none⟩])
 (.seq (.seq (.reg [⟨some 12, (.move (.tmp 1)), none⟩,
  ⟨some 13, (.call { callee := (.builtin .len), args := #[(.tmp 12)], argTypes := #[25] }), none⟩,
  ⟨some 14, (.fieldAddr 24 (.tmp 2) 1), none⟩,
  ⟨some 15, (.load 3 (.tmp 14)), none⟩,
  ⟨some 16, (.binOp .neq 3 (.tmp 13) (.tmp 15) 3), none⟩])
 (.cond (.tmp 16) (.seq (.reg [⟨some 17, (.build 28 #[]), none⟩,
  ⟨some 4, (.assign (.const (.int .i64 0))), none⟩,
  ⟨none, (.store 28 (.tmp 5) (.tmp 17)), none⟩,
  ⟨some 6, (.assign (.const (.int .i64 5))), none⟩])
 .ret) .skip))
 (.seqL (.seq (.reg [⟨some 7, (.assign (.const (.int .i64 0))), none⟩])
 (.block 0 (.loop b23_2)))
 c23_3)))
theorem fd23 : FnD Try.prog 23 81 [(.tmp 4), (.cell 5 28), (.tmp 6)] c23 := ⟨⟨Try.f23, Try.f23.body.getD .skip, Try.func23, by kernel_rfl, by kernel_rfl, by kernel_rfl, by kernel_rfl⟩⟩
/-! f24 triforium/triforiumlaw40.Small -/
/-! f25 triforium/evaluate.Run -/
def c25 : ACode := (.seq (.reg [⟨some 3, (.box 80 (.tmp 0)), none⟩,
  ⟨some 4, (.box 34 (.tmp 1)), none⟩,
  ⟨some 6, (.alloc 74), none⟩,
  ⟨some 7, (.alloc 35), none⟩])
 (.seq (.reg [⟨some 13, (.load 80 (.tmp 3)), none⟩,
  ⟨some 14, (.load 34 (.tmp 4)), none⟩,
  ⟨some 15, (.call { callee := (.value (.func 43)), args := #[(.tmp 13), (.tmp 14)], argTypes := #[80, 34] }), none⟩,
  ⟨some 12, (.move (.tmp 15)), none⟩,
  ⟨some 16, (.extract (.tmp 12) 0), none⟩,
  ⟨some 17, (.extract (.tmp 12) 1), none⟩,
  ⟨some 8, (.alloc 115), none⟩,
  ⟨none, (.store 115 (.tmp 8) (.tmp 16)), none⟩,
  ⟨none, (.store 35 (.tmp 7) (.tmp 17)), none⟩])
 (.seq (.seq (.reg [⟨some 18, (.load 35 (.tmp 7)), none⟩,
  ⟨some 19, (.binOp .eql 35 (.tmp 18) (.const (.int .i64 0)) 35), none⟩,
  ⟨some 20, (.move (.tmp 19)), none⟩,
  ⟨some 21, (.move (.tmp 2)), some (20, true)⟩,
  ⟨some 22, (.binOp .lss 3 (.tmp 21) (.const (.int .i64 0)) 3), some (20, true)⟩,
  ⟨some 23, (.move (.tmp 22)), some (20, true)⟩,
  ⟨some 24, (.move (.tmp 2)), some (23, false)⟩,
  ⟨some 25, (.binOp .gtr 3 (.tmp 24) (.const (.int .i64 100000)) 3), some (23, false)⟩,
  ⟨some 26, (.pick (.tmp 23) (.const (.bool true)) (.tmp 25)), some (20, true)⟩,
  ⟨some 27, (.pick (.tmp 20) (.tmp 26) (.const (.bool false))), none⟩])
 (.cond (.tmp 27) (.reg [⟨none, (.store 35 (.tmp 7) (.const (.int .i64 4))), none⟩]) .skip))
 (.seq (.seq (.reg [⟨some 28, (.load 35 (.tmp 7)), none⟩,
  ⟨some 29, (.binOp .neq 35 (.tmp 28) (.const (.int .i64 0)) 35), none⟩])
 (.cond (.tmp 29) (.seq (.dreg (.tk 0 ⟨some 30, (.build 74 #[]), none⟩
  (.tk 1 ⟨some 31, (.load 35 (.tmp 7)), none⟩
  (.one [1, 2, 3] ⟨none, (.store 74 (.tmp 6) (.tmp 30)), none⟩
  .fin))) [⟨none, (.store 35 (.tmp 7) (.tmp 31)), none⟩])
 .ret) .skip))
 (.seq (.reg [⟨some 32, (.makeFunc (.func 44) #[] #[(.tmp 6), (.tmp 7)]), none⟩,
  ⟨none, (.defer { callee := (.value (.tmp 32)), args := #[], argTypes := #[] }), none⟩])
 (.seq (.reg [⟨some 33, (.load 115 (.tmp 8)), none⟩,
  ⟨some 34, (.move (.tmp 2)), none⟩,
  ⟨some 35, (.build 123 #[(0, (.tmp 33)), (1, (.tmp 34))]), none⟩,
  ⟨some 36, (.box 123 (.tmp 35)), none⟩,
  ⟨some 9, (.assign (.tmp 36)), none⟩])
 (.seq (.reg [⟨some 37, (.move (.tmp 9)), none⟩,
  ⟨some 38, (.load 34 (.tmp 4)), none⟩,
  ⟨some 39, (.call { callee := (.value (.func 45)), args := #[(.tmp 37), (.tmp 38), (.const (.pointer none))], argTypes := #[121, 34, 150] }), none⟩,
  ⟨some 10, (.assign (.tmp 39)), none⟩])
 (.seq (.reg [⟨some 40, (.build 129 #[(0, (.const (.int .i64 5000)))]), none⟩,
  ⟨some 41, (.box 129 (.tmp 40)), none⟩,
  ⟨some 11, (.assign (.tmp 41)), none⟩])
 (.seq (.seq (.reg [⟨some 42, (.move (.tmp 11)), none⟩,
  ⟨some 43, (.move (.tmp 10)), none⟩,
  ⟨some 44, (.call { callee := (.value (.func 46)), args := #[(.tmp 42), (.tmp 43)], argTypes := #[127, 125] }), none⟩])
 (.seq (.reg [⟨some 45, (.move (.tmp 11)), none⟩,
  ⟨some 46, (.nilCheck (.tmp 45)), none⟩,
  ⟨some 47, (.fieldAddr 129 (.tmp 46) 0), none⟩,
  ⟨some 48, (.load 3 (.tmp 47)), none⟩,
  ⟨some 49, (.binOp .lss 3 (.tmp 48) (.const (.int .i64 0)) 3), none⟩])
 (.cond (.tmp 49) (.reg [⟨some 50, (.build 119 #[(0, (.const (.int .i64 7)))]), none⟩,
  ⟨some 51, (.makeInterface 119 (.tmp 50)), none⟩,
  ⟨none, (.panic (.tmp 51)), none⟩]) .skip)))
 (.seq (.dreg (.tk 0 ⟨some 52, (.move (.tmp 10)), none⟩
  (.tk 2 ⟨some 54, (.move (.tmp 9)), none⟩
  (.tk 3 ⟨some 55, (.nilCheck (.tmp 54)), none⟩
  (.tk 4 ⟨some 56, (.fieldAddr 123 (.tmp 55) 2), none⟩
  (.tk 5 ⟨some 57, (.load 3 (.tmp 56)), none⟩
  (.one [1, 2, 3, 4, 5, 6, 7, 8] ⟨some 53, (.call { callee := (.value (.func 47)), args := #[(.tmp 52)], argTypes := #[125] }), none⟩
  .fin)))))) [⟨some 58, (.build 74 #[(0, (.tmp 53)), (1, (.tmp 57))]), none⟩,
  ⟨none, (.store 74 (.tmp 6) (.tmp 58)), none⟩,
  ⟨none, (.store 35 (.tmp 7) (.const (.int .i64 0))), none⟩])
 .ret))))))))))
theorem fd25 : FnD Try.prog 25 59 [(.cell 6 74), (.cell 7 35)] c25 := ⟨⟨Try.f25, Try.f25.body.getD .skip, Try.func25, by kernel_rfl, by kernel_rfl, by kernel_rfl, by kernel_rfl⟩⟩
/-! f26 triforium/triforiumlaw40.Program -/
/-! f27 triforium/evaluate.Step -/
/-! f28 triforium/evaluate.Steps -/
/-! f29 triforium/triforiumref40.Size -/
def b29_1 : ACode := (.seq (.seq (.reg [⟨some 9, (.move (.tmp 6)), none⟩,
  ⟨some 10, (.fieldAddr 28 (.tmp 1) 2), none⟩,
  ⟨some 11, (.load 25 (.tmp 10)), none⟩,
  ⟨some 12, (.call { callee := (.builtin .len), args := #[(.tmp 11)], argTypes := #[25] }), none⟩,
  ⟨some 13, (.binOp .lss 3 (.tmp 9) (.tmp 12) 3), none⟩])
 (.cond (.tmp 13) .skip (.exit 0)))
 (.seq (.block 1 (.seq (.reg [⟨some 17, (.fieldAddr 28 (.tmp 1) 2), none⟩,
  ⟨some 18, (.load 25 (.tmp 17)), none⟩,
  ⟨some 19, (.move (.tmp 6)), none⟩,
  ⟨some 20, (.indexAddr 25 (.tmp 18) (.tmp 19)), none⟩,
  ⟨some 21, (.load 28 (.tmp 20)), none⟩,
  ⟨some 22, (.call { callee := (.value (.func 29)), args := #[(.tmp 21)], argTypes := #[28] }), none⟩,
  ⟨some 16, (.move (.tmp 22)), none⟩,
  ⟨some 23, (.extract (.tmp 16) 0), none⟩,
  ⟨some 24, (.extract (.tmp 16) 1), none⟩,
  ⟨some 7, (.assign (.tmp 23)), none⟩,
  ⟨some 8, (.assign (.tmp 24)), none⟩])
 (.seq (.reg [⟨some 25, (.move (.tmp 4)), none⟩,
  ⟨some 26, (.move (.tmp 7)), none⟩,
  ⟨some 27, (.binOp .add 3 (.tmp 25) (.tmp 26) 3), none⟩,
  ⟨some 4, (.assign (.tmp 27)), none⟩])
 (.reg [⟨some 28, (.move (.tmp 5)), none⟩,
  ⟨some 29, (.move (.tmp 8)), none⟩,
  ⟨some 30, (.call { callee := (.builtin .max), args := #[(.tmp 28), (.tmp 29)], argTypes := #[3, 3] }), none⟩,
  ⟨some 5, (.assign (.tmp 30)), none⟩]))))
 (.reg [⟨some 14, (.move (.tmp 6)), none⟩,
  ⟨some 15, (.binOp .add 3 (.tmp 14) (.const (.int .i64 1)) 3), none⟩,
  ⟨some 6, (.assign (.tmp 15)), none⟩])))
def c29_1 : ACode := (.seq (.reg [⟨some 31, (.move (.tmp 4)), none⟩,
  ⟨some 32, (.move (.tmp 5)), none⟩,
  ⟨some 33, (.binOp .add 3 (.tmp 32) (.const (.int .i64 1)) 3), none⟩,
  ⟨some 2, (.assign (.tmp 31)), none⟩,
  ⟨some 3, (.assign (.tmp 33)), none⟩])
 .ret)
def c29 : ACode := (.seq (.reg [⟨some 1, (.box 28 (.tmp 0)), none⟩,
  ⟨some 2, (.assign (.const (.int .i64 0))), none⟩,
  ⟨some 3, (.assign (.const (.int .i64 0))), none⟩])
 (.seq (.reg [⟨some 4, (.assign (.const (.int .i64 1))), none⟩,
  ⟨some 5, (.assign (.const (.int .i64 0))), none⟩])
 (.seqL (.seq (.reg [⟨some 6, (.assign (.const (.int .i64 0))), none⟩])
 (.block 0 (.loop b29_1)))
 c29_1)))
theorem fd29 : FnD Try.prog 29 34 [(.tmp 2), (.tmp 3)] c29 := ⟨⟨Try.f29, Try.f29.body.getD .skip, Try.func29, by kernel_rfl, by kernel_rfl, by kernel_rfl, by kernel_rfl⟩⟩
/-! f30 triforium/triforiumlaw40.awake$1 -/
def c30 : ACode := (.seq (.reg [⟨some 2, (.alloc 34), none⟩])
 (.seq (.reg [⟨some 3, (.move (.tmp 0)), none⟩,
  ⟨some 4, (.build 34 #[(0, (.const (.int .i64 1))), (1, (.tmp 3))]), none⟩,
  ⟨none, (.store 34 (.tmp 2) (.tmp 4)), none⟩])
 .ret))
theorem fd30 : FnD Try.prog 30 5 [(.cell 2 34)] c30 := ⟨⟨Try.f30, Try.f30.body.getD .skip, Try.func30, by kernel_rfl, by kernel_rfl, by kernel_rfl, by kernel_rfl⟩⟩
/-! f31 triforium/triforiumlaw40.awake$2 -/
def c31 : ACode := (.seq (.reg [⟨some 4, (.alloc 34), none⟩])
 (.seq (.reg [⟨some 5, (.move (.tmp 0)), none⟩,
  ⟨some 6, (.move (.tmp 1)), none⟩,
  ⟨some 7, (.build 34 #[(0, (.const (.int .i64 3))), (1, (.tmp 5)), (2, (.tmp 6))]), none⟩,
  ⟨none, (.store 34 (.tmp 4) (.tmp 7)), none⟩])
 .ret))
theorem fd31 : FnD Try.prog 31 8 [(.cell 4 34)] c31 := ⟨⟨Try.f31, Try.f31.body.getD .skip, Try.func31, by kernel_rfl, by kernel_rfl, by kernel_rfl, by kernel_rfl⟩⟩
/-! f32 triforium/triforiumlaw40.awake$3 -/
def c32 : ACode := (.seq (.reg [⟨some 2, (.box 34 (.tmp 0)), none⟩,
  ⟨some 3, (.box 34 (.tmp 1)), none⟩,
  ⟨some 4, (.alloc 34), none⟩])
 (.seq (.reg [⟨some 5, (.build 34 #[(0, (.const (.int .i64 2))), (1, (.const (.string { data := #[97, 100, 100] })))]), none⟩,
  ⟨some 6, (.load 34 (.tmp 2)), none⟩,
  ⟨some 7, (.load 34 (.tmp 3)), none⟩,
  ⟨some 8, (.buildSlice 32 3 #[(0, (.tmp 5)), (1, (.tmp 6)), (2, (.tmp 7))]), none⟩,
  ⟨some 9, (.build 34 #[(0, (.const (.int .i64 4))), (2, (.tmp 8))]), none⟩,
  ⟨none, (.store 34 (.tmp 4) (.tmp 9)), none⟩])
 .ret))
theorem fd32 : FnD Try.prog 32 10 [(.cell 4 34)] c32 := ⟨⟨Try.f32, Try.f32.body.getD .skip, Try.func32, by kernel_rfl, by kernel_rfl, by kernel_rfl, by kernel_rfl⟩⟩
/-! f33 triforium/evaluate.twice -/
def b33_1 : ACode := (.seq (.reg [⟨some 10, (.binOp .lss 3 (.tmp 9) (.tmp 8) 3), none⟩])
 (.seq (.cond (.tmp 10) .skip (.exit 0))
 (.seq (.block 1 (.seq (.reg [⟨some 11, (.indexAddr 52 (.tmp 7) (.tmp 9)), none⟩,
  ⟨some 12, (.load 9 (.tmp 11)), none⟩,
  ⟨some 5, (.assign (.tmp 12)), none⟩])
 (.seq (.seq (.reg [⟨some 13, (.move (.tmp 3)), none⟩,
  ⟨some 14, (.move (.tmp 5)), none⟩,
  ⟨some 15, (.lookup 138 (.tmp 13) (.tmp 14) false), none⟩])
 (.cond (.tmp 15) (.seq (.reg [⟨some 2, (.assign (.const (.bool true))), none⟩])
 .ret) .skip))
 (.reg [⟨some 16, (.move (.tmp 3)), none⟩,
  ⟨some 17, (.move (.tmp 5)), none⟩,
  ⟨none, (.mapUpdate 138 (.tmp 16) (.tmp 17) (.const (.bool true))), none⟩]))))
 (.reg [⟨some 18, (.binOp .add 3 (.tmp 9) (.const (.int .i64 1)) 3), none⟩,
  ⟨some 9, (.move (.tmp 18)), none⟩]))))
def c33_1 : ACode := (.seq (.reg [⟨some 2, (.assign (.const (.bool false))), none⟩])
 .ret)
def c33 : ACode := (.seq (.reg [⟨some 2, (.assign (.const (.bool false))), none⟩])
 (.seq (.reg [⟨some 6, (.makeMap 138 none), none⟩,
  ⟨some 3, (.assign (.tmp 6)), none⟩])
 (.seqL (.seq (.reg [⟨some 7, (.move (.tmp 0)), none⟩,
  ⟨some 8, (.call { callee := (.builtin .len), args := #[(.tmp 7)], argTypes := #[52] }), none⟩,
  ⟨some 9, (.move (.const (.int .i64 0))), none⟩])
 (.block 0 (.loop b33_1)))
 c33_1)))
theorem fd33 : FnD Try.prog 33 19 [(.tmp 2)] c33 := ⟨⟨Try.f33, Try.f33.body.getD .skip, Try.func33, by kernel_rfl, by kernel_rfl, by kernel_rfl, by kernel_rfl⟩⟩
/-! f34 triforium/evaluate.names -/
def b34_1 : ACode := (.seq (.reg [⟨some 9, (.binOp .lss 3 (.tmp 8) (.tmp 7) 3), none⟩])
 (.seq (.cond (.tmp 9) .skip (.exit 0))
 (.seq (.block 1 (.seq (.reg [⟨some 10, (.indexAddr 55 (.tmp 6) (.tmp 8)), none⟩,
  ⟨some 11, (.load 57 (.tmp 10)), none⟩,
  ⟨some 5, (.alloc 57), none⟩,
  ⟨none, (.store 57 (.tmp 5) (.tmp 11)), none⟩])
 (.seq (.reg [⟨some 12, (.fieldAddr 57 (.tmp 5) 0), none⟩,
  ⟨some 13, (.load 4 (.tmp 12)), none⟩])
 (.cond (.tmp 13) (.reg [⟨some 14, (.move (.tmp 3)), none⟩,
  ⟨some 15, (.fieldAddr 57 (.tmp 5) 2), none⟩,
  ⟨some 16, (.load 55 (.tmp 15)), none⟩,
  ⟨some 17, (.call { callee := (.value (.func 34)), args := #[(.tmp 16)], argTypes := #[55] }), none⟩,
  ⟨some 18, (.call { callee := (.builtin .append), args := #[(.tmp 14), (.tmp 17)], argTypes := #[52, 52] }), none⟩,
  ⟨some 3, (.assign (.tmp 18)), none⟩]) (.reg [⟨some 19, (.move (.tmp 3)), none⟩,
  ⟨some 20, (.fieldAddr 57 (.tmp 5) 1), none⟩,
  ⟨some 21, (.load 9 (.tmp 20)), none⟩,
  ⟨some 22, (.buildSlice 52 1 #[(0, (.tmp 21))]), none⟩,
  ⟨some 23, (.call { callee := (.builtin .append), args := #[(.tmp 19), (.tmp 22)], argTypes := #[52, 52] }), none⟩,
  ⟨some 3, (.assign (.tmp 23)), none⟩])))))
 (.reg [⟨some 24, (.binOp .add 3 (.tmp 8) (.const (.int .i64 1)) 3), none⟩,
  ⟨some 8, (.move (.tmp 24)), none⟩]))))
def c34_1 : ACode := (.seq (.reg [⟨some 25, (.move (.tmp 3)), none⟩,
  ⟨some 2, (.assign (.tmp 25)), none⟩])
 .ret)
def c34 : ACode := (.seq (.reg [⟨some 2, (.assign (.const (.slice none 0 0))), none⟩])
 (.seq (.reg [⟨some 3, (.assign (.const (.slice none 0 0))), none⟩])
 (.seqL (.seq (.reg [⟨some 6, (.move (.tmp 0)), none⟩,
  ⟨some 7, (.call { callee := (.builtin .len), args := #[(.tmp 6)], argTypes := #[55] }), none⟩,
  ⟨some 8, (.move (.const (.int .i64 0))), none⟩])
 (.block 0 (.loop b34_1)))
 c34_1)))
theorem fd34 : FnD Try.prog 34 26 [(.tmp 2)] c34 := ⟨⟨Try.f34, Try.f34.body.getD .skip, Try.func34, by kernel_rfl, by kernel_rfl, by kernel_rfl, by kernel_rfl⟩⟩
/-! f35 triforium/evaluate.parts -/
def b35_1 : ACode := (.seq (.seq (.reg [⟨some 45, (.move (.tmp 9)), none⟩,
  ⟨some 46, (.fieldAddr 57 (.tmp 3) 2), none⟩,
  ⟨some 47, (.load 55 (.tmp 46)), none⟩,
  ⟨some 48, (.call { callee := (.builtin .len), args := #[(.tmp 47)], argTypes := #[55] }), none⟩,
  ⟨some 49, (.binOp .lss 3 (.tmp 45) (.tmp 48) 3), none⟩,
  ⟨some 50, (.move (.tmp 49)), none⟩,
  ⟨some 51, (.move (.tmp 8)), some (50, true)⟩,
  ⟨some 52, (.pick (.tmp 50) (.tmp 51) (.const (.bool false))), none⟩])
 (.cond (.tmp 52) .skip (.exit 0)))
 (.seq (.block 1 (.dreg (.tk 0 ⟨some 56, (.fieldAddr 57 (.tmp 3) 2), none⟩
  (.tk 1 ⟨some 57, (.load 55 (.tmp 56)), none⟩
  (.tk 2 ⟨some 58, (.move (.tmp 9)), none⟩
  (.tk 3 ⟨some 59, (.indexAddr 55 (.tmp 57) (.tmp 58)), none⟩
  (.tk 4 ⟨some 60, (.load 57 (.tmp 59)), none⟩
  (.tk 5 ⟨some 61, (.fieldAddr 34 (.tmp 4) 2), none⟩
  (.tk 6 ⟨some 62, (.load 32 (.tmp 61)), none⟩
  (.tk 7 ⟨some 63, (.move (.tmp 9)), none⟩
  (.tk 8 ⟨some 64, (.indexAddr 32 (.tmp 62) (.tmp 63)), none⟩
  (.tk 9 ⟨some 65, (.load 34 (.tmp 64)), none⟩
  (.tk 10 ⟨some 66, (.move (.tmp 2)), none⟩
  (.one [11, 12, 13, 14, 15, 16] ⟨some 67, (.call { callee := (.value (.func 35)), args := #[(.tmp 60), (.tmp 65), (.tmp 66)], argTypes := #[57, 34, 96] }), none⟩
  (.tk 12 ⟨some 55, (.move (.tmp 67)), none⟩
  (.tk 13 ⟨some 68, (.extract (.tmp 55) 0), none⟩
  (.tk 14 ⟨some 69, (.extract (.tmp 55) 1), none⟩
  (.tk 15 ⟨some 2, (.assign (.tmp 68)), none⟩
  .fin)))))))))))))))) [⟨some 8, (.assign (.tmp 69)), none⟩]))
 (.reg [⟨some 53, (.move (.tmp 9)), none⟩,
  ⟨some 54, (.binOp .add 3 (.tmp 53) (.const (.int .i64 1)) 3), none⟩,
  ⟨some 9, (.assign (.tmp 54)), none⟩])))
def c35_1 : ACode := (.seq (.reg [⟨some 70, (.move (.tmp 2)), none⟩,
  ⟨some 71, (.move (.tmp 8)), none⟩,
  ⟨some 6, (.assign (.tmp 70)), none⟩,
  ⟨some 7, (.assign (.tmp 71)), none⟩])
 .ret)
def c35 : ACode := (.seq (.reg [⟨some 3, (.box 57 (.tmp 0)), none⟩,
  ⟨some 4, (.box 34 (.tmp 1)), none⟩,
  ⟨some 6, (.assign (.const (.slice none 0 0))), none⟩,
  ⟨some 7, (.assign (.const (.bool false))), none⟩])
 (.seq (.seq (.reg [⟨some 10, (.fieldAddr 57 (.tmp 3) 0), none⟩,
  ⟨some 11, (.load 4 (.tmp 10)), none⟩,
  ⟨some 12, (.unOp .not 4 (.tmp 11)), none⟩])
 (.cond (.tmp 12) (.seq (.dreg (.tk 0 ⟨some 13, (.move (.tmp 2)), none⟩
  (.tk 1 ⟨some 14, (.move (.tmp 2)), none⟩
  (.tk 2 ⟨some 15, (.call { callee := (.builtin .len), args := #[(.tmp 14)], argTypes := #[96] }), none⟩
  (.tk 3 ⟨some 16, (.move (.tmp 2)), none⟩
  (.tk 4 ⟨some 17, (.call { callee := (.builtin .len), args := #[(.tmp 16)], argTypes := #[96] }), none⟩
  (.tk 5 ⟨some 18, (.slice 96 (.tmp 13) none (some (.tmp 15)) (some (.tmp 17))), none⟩
  (.tk 6 ⟨some 19, (.fieldAddr 57 (.tmp 3) 1), none⟩
  (.tk 7 ⟨some 20, (.load 9 (.tmp 19)), none⟩
  (.tk 8 ⟨some 21, (.load 34 (.tmp 4)), none⟩
  (.one [0, 1, 2, 3, 4, 5, 6, 7, 9, 10, 11, 12, 13, 14] ⟨some 22, (.call { callee := (.value (.func 49)), args := #[(.tmp 21)], argTypes := #[34] }), none⟩
  (.tk 10 ⟨some 23, (.build 102 #[(0, (.tmp 20)), (1, (.tmp 22))]), none⟩
  (.tk 11 ⟨some 24, (.buildSlice 96 1 #[(0, (.tmp 23))]), none⟩
  .fin)))))))))))) [⟨some 25, (.call { callee := (.builtin .append), args := #[(.tmp 18), (.tmp 24)], argTypes := #[96, 96] }), none⟩,
  ⟨some 6, (.assign (.tmp 25)), none⟩,
  ⟨some 7, (.assign (.const (.bool true))), none⟩])
 .ret) .skip))
 (.seq (.reg [⟨some 26, (.fieldAddr 34 (.tmp 4) 0), none⟩,
  ⟨some 27, (.load 3 (.tmp 26)), none⟩,
  ⟨some 28, (.binOp .eql 3 (.tmp 27) (.const (.int .i64 3)) 3), none⟩,
  ⟨some 29, (.move (.tmp 28)), none⟩,
  ⟨some 30, (.fieldAddr 34 (.tmp 4) 1), some (29, true)⟩,
  ⟨some 31, (.load 9 (.tmp 30)), some (29, true)⟩,
  ⟨some 32, (.fieldAddr 57 (.tmp 3) 1), some (29, true)⟩,
  ⟨some 33, (.load 9 (.tmp 32)), some (29, true)⟩,
  ⟨some 34, (.binOp .eql 9 (.tmp 31) (.tmp 33) 9), some (29, true)⟩,
  ⟨some 35, (.pick (.tmp 29) (.tmp 34) (.const (.bool false))), none⟩,
  ⟨some 36, (.move (.tmp 35)), none⟩,
  ⟨some 37, (.fieldAddr 34 (.tmp 4) 2), some (36, true)⟩,
  ⟨some 38, (.load 32 (.tmp 37)), some (36, true)⟩,
  ⟨some 39, (.call { callee := (.builtin .len), args := #[(.tmp 38)], argTypes := #[32] }), some (36, true)⟩,
  ⟨some 40, (.fieldAddr 57 (.tmp 3) 2), some (36, true)⟩,
  ⟨some 41, (.load 55 (.tmp 40)), some (36, true)⟩,
  ⟨some 42, (.call { callee := (.builtin .len), args := #[(.tmp 41)], argTypes := #[55] }), some (36, true)⟩,
  ⟨some 43, (.binOp .eql 3 (.tmp 39) (.tmp 42) 3), some (36, true)⟩,
  ⟨some 44, (.pick (.tmp 36) (.tmp 43) (.const (.bool false))), none⟩,
  ⟨some 8, (.assign (.tmp 44)), none⟩])
 (.seqL (.seq (.reg [⟨some 9, (.assign (.const (.int .i64 0))), none⟩])
 (.block 0 (.loop b35_1)))
 c35_1))))
theorem fd35 : FnD Try.prog 35 72 [(.tmp 6), (.tmp 7)] c35 := ⟨⟨Try.f35, Try.f35.body.getD .skip, Try.func35, by kernel_rfl, by kernel_rfl, by kernel_rfl, by kernel_rfl⟩⟩
/-! f36 triforium/evaluate.put -/
def b36_1 : ACode := (.seq (.reg [⟨some 40, (.binOp .lss 3 (.tmp 39) (.tmp 38) 3), none⟩])
 (.seq (.cond (.tmp 40) .skip (.exit 3))
 (.seq (.block 4 (.seq (.reg [⟨some 41, (.indexAddr 32 (.tmp 37) (.tmp 39)), none⟩,
  ⟨some 42, (.load 34 (.tmp 41)), none⟩,
  ⟨some 9, (.alloc 34), none⟩,
  ⟨none, (.store 34 (.tmp 9) (.tmp 42)), none⟩])
 (.dreg (.tk 0 ⟨some 43, (.fieldAddr 34 (.tmp 7) 2), none⟩
  (.tk 1 ⟨some 44, (.load 32 (.tmp 43)), none⟩
  (.tk 2 ⟨some 45, (.load 34 (.tmp 9)), none⟩
  (.tk 3 ⟨some 46, (.move (.tmp 1)), none⟩
  (.one [0, 1, 4, 5, 6, 7, 8] ⟨some 47, (.call { callee := (.value (.func 36)), args := #[(.tmp 45), (.tmp 46)], argTypes := #[34, 96] }), none⟩
  (.tk 5 ⟨some 48, (.buildSlice 32 1 #[(0, (.tmp 47))]), none⟩
  .fin)))))) [⟨some 49, (.call { callee := (.builtin .append), args := #[(.tmp 44), (.tmp 48)], argTypes := #[32, 32] }), none⟩,
  ⟨some 50, (.fieldAddr 34 (.tmp 7) 2), none⟩,
  ⟨none, (.store 32 (.tmp 50) (.tmp 49)), none⟩])))
 (.reg [⟨some 51, (.binOp .add 3 (.tmp 39) (.const (.int .i64 1)) 3), none⟩,
  ⟨some 39, (.move (.tmp 51)), none⟩]))))
def c36_1 : ACode := (.seq (.reg [⟨some 52, (.load 34 (.tmp 7)), none⟩,
  ⟨none, (.store 34 (.tmp 4) (.tmp 52)), none⟩])
 .ret)
def c36_2 : ACode := (.seq (.reg [⟨some 31, (.fieldAddr 34 (.tmp 2) 0), none⟩,
  ⟨some 32, (.load 3 (.tmp 31)), none⟩,
  ⟨some 33, (.fieldAddr 34 (.tmp 2) 1), none⟩,
  ⟨some 34, (.load 9 (.tmp 33)), none⟩,
  ⟨some 35, (.build 34 #[(0, (.tmp 32)), (1, (.tmp 34))]), none⟩,
  ⟨some 7, (.alloc 34), none⟩,
  ⟨none, (.store 34 (.tmp 7) (.tmp 35)), none⟩])
 (.seqL (.seq (.reg [⟨some 36, (.fieldAddr 34 (.tmp 2) 2), none⟩,
  ⟨some 37, (.load 32 (.tmp 36)), none⟩,
  ⟨some 38, (.call { callee := (.builtin .len), args := #[(.tmp 37)], argTypes := #[32] }), none⟩,
  ⟨some 39, (.move (.const (.int .i64 0))), none⟩])
 (.block 3 (.loop b36_1)))
 c36_1))
def c36 : ACode := (.seq (.reg [⟨some 2, (.box 34 (.tmp 0)), none⟩,
  ⟨some 4, (.alloc 34), none⟩])
 (.seqL (.seq (.reg [⟨some 10, (.fieldAddr 34 (.tmp 2) 0), none⟩,
  ⟨some 11, (.load 3 (.tmp 10)), none⟩])
 (.block 0 (.seq (.reg [⟨some 13, (.binOp .eql 3 (.tmp 11) (.const (.int .i64 1)) 3), none⟩,
  ⟨some 12, (.assign (.tmp 13)), none⟩])
 (.cond (.tmp 12) (.seq (.reg [⟨some 14, (.move (.tmp 1)), none⟩,
  ⟨some 15, (.call { callee := (.value (.func 52)), args := #[(.tmp 14)], argTypes := #[96] }), none⟩])
 (.block 1 (.rfunc (.tmp 15) #[16, 17] (.reg [⟨some 6, (.alloc 102), none⟩,
  ⟨none, (.store 102 (.tmp 6) (.tmp 17)), none⟩])
 (.block 2 (.seq (.reg [⟨some 18, (.fieldAddr 102 (.tmp 6) 0), none⟩,
  ⟨some 19, (.load 9 (.tmp 18)), none⟩,
  ⟨some 20, (.fieldAddr 34 (.tmp 2) 1), none⟩,
  ⟨some 21, (.load 9 (.tmp 20)), none⟩,
  ⟨some 22, (.binOp .eql 9 (.tmp 19) (.tmp 21) 9), none⟩])
 (.cond (.tmp 22) (.seq (.reg [⟨some 23, (.fieldAddr 102 (.tmp 6) 1), none⟩,
  ⟨some 24, (.load 34 (.tmp 23)), none⟩,
  ⟨none, (.store 34 (.tmp 4) (.tmp 24)), none⟩])
 .ret) .skip)))))) (.seq (.reg [⟨some 26, (.binOp .eql 3 (.tmp 11) (.const (.int .i64 5)) 3), none⟩,
  ⟨some 25, (.assign (.tmp 26)), none⟩])
 (.cond (.tmp 25) (.reg [⟨some 27, (.move (.tmp 1)), none⟩,
  ⟨some 28, (.call { callee := (.value (.func 54)), args := #[(.tmp 27)], argTypes := #[96] }), none⟩,
  ⟨some 29, (.makeFunc (.func 55) #[] #[(.tmp 2)]), none⟩,
  ⟨some 30, (.call { callee := (.value (.func 53)), args := #[(.tmp 28), (.tmp 29)], argTypes := #[96, 144] }), none⟩,
  ⟨some 1, (.assign (.tmp 30)), none⟩]) .skip))))))
 c36_2))
theorem fd36 : FnD Try.prog 36 53 [(.cell 4 34)] c36 := ⟨⟨Try.f36, Try.f36.body.getD .skip, Try.func36, by kernel_rfl, by kernel_rfl, by kernel_rfl, by kernel_rfl⟩⟩
/-! f37 slices.EqualFunc[[]triforium/codegen.Expr,[]triforium/codegen.Expr,triforium/codegen.Expr,triforium/codegen.Expr] -/
/-! f38 triforium/triforiumref40.twice -/
def b38_1 : ACode := (.seq (.seq (.reg [⟨some 4, (.move (.tmp 3)), none⟩,
  ⟨some 5, (.move (.tmp 0)), none⟩,
  ⟨some 6, (.call { callee := (.builtin .len), args := #[(.tmp 5)], argTypes := #[52] }), none⟩,
  ⟨some 7, (.binOp .lss 3 (.tmp 4) (.tmp 6) 3), none⟩])
 (.cond (.tmp 7) .skip (.exit 0)))
 (.seq (.block 1 (.seq (.dreg (.tk 0 ⟨some 10, (.move (.tmp 0)), none⟩
  (.tk 1 ⟨some 11, (.move (.tmp 3)), none⟩
  (.tk 2 ⟨some 12, (.slice 52 (.tmp 10) none (some (.tmp 11)) none), none⟩
  (.tk 3 ⟨some 13, (.move (.tmp 0)), none⟩
  (.tk 4 ⟨some 14, (.move (.tmp 3)), none⟩
  (.tk 5 ⟨some 15, (.indexAddr 52 (.tmp 13) (.tmp 14)), none⟩
  (.tk 6 ⟨some 16, (.load 9 (.tmp 15)), none⟩
  .fin))))))) [⟨some 17, (.call { callee := (.value (.func 56)), args := #[(.tmp 12), (.tmp 16)], argTypes := #[52, 9] }), none⟩])
 (.cond (.tmp 17) (.seq (.reg [⟨some 2, (.assign (.const (.bool true))), none⟩])
 .ret) .skip)))
 (.reg [⟨some 8, (.move (.tmp 3)), none⟩,
  ⟨some 9, (.binOp .add 3 (.tmp 8) (.const (.int .i64 1)) 3), none⟩,
  ⟨some 3, (.assign (.tmp 9)), none⟩])))
def c38_1 : ACode := (.seq (.reg [⟨some 2, (.assign (.const (.bool false))), none⟩])
 .ret)
def c38 : ACode := (.seq (.reg [⟨some 2, (.assign (.const (.bool false))), none⟩])
 (.seqL (.seq (.reg [⟨some 3, (.assign (.const (.int .i64 0))), none⟩])
 (.block 0 (.loop b38_1)))
 c38_1))
theorem fd38 : FnD Try.prog 38 18 [(.tmp 2)] c38 := ⟨⟨Try.f38, Try.f38.body.getD .skip, Try.func38, by kernel_rfl, by kernel_rfl, by kernel_rfl, by kernel_rfl⟩⟩
/-! f39 triforium/triforiumref40.names -/
def b39_1 : ACode := (.seq (.seq (.reg [⟨some 12, (.move (.tmp 4)), none⟩,
  ⟨some 13, (.fieldAddr 50 (.tmp 1) 2), none⟩,
  ⟨some 14, (.load 44 (.tmp 13)), none⟩,
  ⟨some 15, (.call { callee := (.builtin .len), args := #[(.tmp 14)], argTypes := #[44] }), none⟩,
  ⟨some 16, (.binOp .lss 3 (.tmp 12) (.tmp 15) 3), none⟩])
 (.cond (.tmp 16) .skip (.exit 0)))
 (.seq (.block 1 (.reg [⟨some 19, (.move (.tmp 3)), none⟩,
  ⟨some 20, (.fieldAddr 50 (.tmp 1) 2), none⟩,
  ⟨some 21, (.load 44 (.tmp 20)), none⟩,
  ⟨some 22, (.move (.tmp 4)), none⟩,
  ⟨some 23, (.indexAddr 44 (.tmp 21) (.tmp 22)), none⟩,
  ⟨some 24, (.load 50 (.tmp 23)), none⟩,
  ⟨some 25, (.call { callee := (.value (.func 39)), args := #[(.tmp 24)], argTypes := #[50] }), none⟩,
  ⟨some 26, (.call { callee := (.builtin .append), args := #[(.tmp 19), (.tmp 25)], argTypes := #[52, 52] }), none⟩,
  ⟨some 3, (.assign (.tmp 26)), none⟩]))
 (.reg [⟨some 17, (.move (.tmp 4)), none⟩,
  ⟨some 18, (.binOp .add 3 (.tmp 17) (.const (.int .i64 1)) 3), none⟩,
  ⟨some 4, (.assign (.tmp 18)), none⟩])))
def c39_1 : ACode := (.seq (.reg [⟨some 27, (.move (.tmp 3)), none⟩,
  ⟨some 2, (.assign (.tmp 27)), none⟩])
 .ret)
def c39 : ACode := (.seq (.reg [⟨some 1, (.box 50 (.tmp 0)), none⟩,
  ⟨some 2, (.assign (.const (.slice none 0 0))), none⟩])
 (.seq (.seq (.reg [⟨some 5, (.fieldAddr 50 (.tmp 1) 0), none⟩,
  ⟨some 6, (.load 4 (.tmp 5)), none⟩,
  ⟨some 7, (.unOp .not 4 (.tmp 6)), none⟩])
 (.cond (.tmp 7) (.seq (.reg [⟨some 8, (.fieldAddr 50 (.tmp 1) 1), none⟩,
  ⟨some 9, (.load 9 (.tmp 8)), none⟩,
  ⟨some 10, (.buildSlice 52 1 #[(0, (.tmp 9))]), none⟩,
  ⟨some 2, (.assign (.tmp 10)), none⟩])
 .ret) .skip))
 (.seq (.reg [⟨some 11, (.buildSlice 52 0 #[]), none⟩,
  ⟨some 3, (.assign (.tmp 11)), none⟩])
 (.seqL (.seq (.reg [⟨some 4, (.assign (.const (.int .i64 0))), none⟩])
 (.block 0 (.loop b39_1)))
 c39_1))))
theorem fd39 : FnD Try.prog 39 28 [(.tmp 2)] c39 := ⟨⟨Try.f39, Try.f39.body.getD .skip, Try.func39, by kernel_rfl, by kernel_rfl, by kernel_rfl, by kernel_rfl⟩⟩
/-! f40 triforium/triforiumref40.matched -/
def b40_1 : ACode := (.seq (.seq (.reg [⟨some 43, (.move (.tmp 8)), none⟩,
  ⟨some 44, (.fieldAddr 50 (.tmp 3) 2), none⟩,
  ⟨some 45, (.load 44 (.tmp 44)), none⟩,
  ⟨some 46, (.call { callee := (.builtin .len), args := #[(.tmp 45)], argTypes := #[44] }), none⟩,
  ⟨some 47, (.binOp .lss 3 (.tmp 43) (.tmp 46) 3), none⟩])
 (.cond (.tmp 47) .skip (.exit 0)))
 (.seq (.block 1 (.seq (.dreg (.tk 0 ⟨some 51, (.fieldAddr 50 (.tmp 3) 2), none⟩
  (.tk 1 ⟨some 52, (.load 44 (.tmp 51)), none⟩
  (.tk 2 ⟨some 53, (.move (.tmp 8)), none⟩
  (.tk 3 ⟨some 54, (.indexAddr 44 (.tmp 52) (.tmp 53)), none⟩
  (.tk 4 ⟨some 55, (.load 50 (.tmp 54)), none⟩
  (.tk 5 ⟨some 56, (.fieldAddr 28 (.tmp 4) 2), none⟩
  (.tk 6 ⟨some 57, (.load 25 (.tmp 56)), none⟩
  (.tk 7 ⟨some 58, (.move (.tmp 8)), none⟩
  (.tk 8 ⟨some 59, (.indexAddr 25 (.tmp 57) (.tmp 58)), none⟩
  (.tk 9 ⟨some 60, (.load 28 (.tmp 59)), none⟩
  (.tk 10 ⟨some 61, (.move (.tmp 2)), none⟩
  (.one [11, 12, 13, 14, 15, 16] ⟨some 62, (.call { callee := (.value (.func 40)), args := #[(.tmp 55), (.tmp 60), (.tmp 61)], argTypes := #[50, 28, 104] }), none⟩
  (.tk 12 ⟨some 50, (.move (.tmp 62)), none⟩
  (.tk 13 ⟨some 63, (.extract (.tmp 50) 0), none⟩
  (.tk 14 ⟨some 64, (.extract (.tmp 50) 1), none⟩
  (.tk 15 ⟨some 9, (.assign (.tmp 63)), none⟩
  .fin)))))))))))))))) [⟨some 10, (.assign (.tmp 64)), none⟩])
 (.seq (.seq (.reg [⟨some 65, (.move (.tmp 10)), none⟩,
  ⟨some 66, (.unOp .not 4 (.tmp 65)), none⟩])
 (.cond (.tmp 66) (.seq (.reg [⟨some 67, (.move (.tmp 2)), none⟩,
  ⟨some 6, (.assign (.tmp 67)), none⟩,
  ⟨some 7, (.assign (.const (.bool false))), none⟩])
 .ret) .skip))
 (.reg [⟨some 68, (.move (.tmp 9)), none⟩,
  ⟨some 2, (.assign (.tmp 68)), none⟩]))))
 (.reg [⟨some 48, (.move (.tmp 8)), none⟩,
  ⟨some 49, (.binOp .add 3 (.tmp 48) (.const (.int .i64 1)) 3), none⟩,
  ⟨some 8, (.assign (.tmp 49)), none⟩])))
def c40_1 : ACode := (.seq (.reg [⟨some 69, (.move (.tmp 2)), none⟩,
  ⟨some 6, (.assign (.tmp 69)), none⟩,
  ⟨some 7, (.assign (.const (.bool true))), none⟩])
 .ret)
def c40 : ACode := (.seq (.reg [⟨some 3, (.box 50 (.tmp 0)), none⟩,
  ⟨some 4, (.box 28 (.tmp 1)), none⟩,
  ⟨some 6, (.assign (.const (.slice none 0 0))), none⟩,
  ⟨some 7, (.assign (.const (.bool false))), none⟩])
 (.seq (.seq (.reg [⟨some 11, (.fieldAddr 50 (.tmp 3) 0), none⟩,
  ⟨some 12, (.load 4 (.tmp 11)), none⟩,
  ⟨some 13, (.unOp .not 4 (.tmp 12)), none⟩])
 (.cond (.tmp 13) (.seq (.dreg (.tk 0 ⟨some 14, (.buildSlice 104 0 #[]), none⟩
  (.tk 1 ⟨some 15, (.move (.tmp 2)), none⟩
  (.tk 3 ⟨some 17, (.fieldAddr 50 (.tmp 3) 1), none⟩
  (.tk 4 ⟨some 18, (.load 9 (.tmp 17)), none⟩
  (.tk 5 ⟨some 19, (.load 28 (.tmp 4)), none⟩
  (.tk 6 ⟨some 20, (.build 108 #[(0, (.tmp 18)), (1, (.tmp 19))]), none⟩
  (.tk 7 ⟨some 21, (.buildSlice 104 1 #[(0, (.tmp 20))]), none⟩
  (.one [2, 3, 4, 5, 6, 7, 8, 9, 10] ⟨some 16, (.call { callee := (.builtin .append), args := #[(.tmp 14), (.tmp 15)], argTypes := #[104, 104] }), none⟩
  .fin)))))))) [⟨some 22, (.call { callee := (.builtin .append), args := #[(.tmp 16), (.tmp 21)], argTypes := #[104, 104] }), none⟩,
  ⟨some 6, (.assign (.tmp 22)), none⟩,
  ⟨some 7, (.assign (.const (.bool true))), none⟩])
 .ret) .skip))
 (.seq (.seq (.reg [⟨some 23, (.fieldAddr 28 (.tmp 4) 0), none⟩,
  ⟨some 24, (.load 3 (.tmp 23)), none⟩,
  ⟨some 25, (.binOp .neq 3 (.tmp 24) (.const (.int .i64 3)) 3), none⟩,
  ⟨some 26, (.move (.tmp 25)), none⟩,
  ⟨some 27, (.fieldAddr 28 (.tmp 4) 1), some (26, false)⟩,
  ⟨some 28, (.load 9 (.tmp 27)), some (26, false)⟩,
  ⟨some 29, (.fieldAddr 50 (.tmp 3) 1), some (26, false)⟩,
  ⟨some 30, (.load 9 (.tmp 29)), some (26, false)⟩,
  ⟨some 31, (.binOp .neq 9 (.tmp 28) (.tmp 30) 9), some (26, false)⟩,
  ⟨some 32, (.pick (.tmp 26) (.const (.bool true)) (.tmp 31)), none⟩,
  ⟨some 33, (.move (.tmp 32)), none⟩,
  ⟨some 34, (.fieldAddr 28 (.tmp 4) 2), some (33, false)⟩,
  ⟨some 35, (.load 25 (.tmp 34)), some (33, false)⟩,
  ⟨some 36, (.call { callee := (.builtin .len), args := #[(.tmp 35)], argTypes := #[25] }), some (33, false)⟩,
  ⟨some 37, (.fieldAddr 50 (.tmp 3) 2), some (33, false)⟩,
  ⟨some 38, (.load 44 (.tmp 37)), some (33, false)⟩,
  ⟨some 39, (.call { callee := (.builtin .len), args := #[(.tmp 38)], argTypes := #[44] }), some (33, false)⟩,
  ⟨some 40, (.binOp .neq 3 (.tmp 36) (.tmp 39) 3), some (33, false)⟩,
  ⟨some 41, (.pick (.tmp 33) (.const (.bool true)) (.tmp 40)), none⟩])
 (.cond (.tmp 41) (.seq (.reg [⟨some 42, (.move (.tmp 2)), none⟩,
  ⟨some 6, (.assign (.tmp 42)), none⟩,
  ⟨some 7, (.assign (.const (.bool false))), none⟩])
 .ret) .skip))
 (.seqL (.seq (.reg [⟨some 8, (.assign (.const (.int .i64 0))), none⟩])
 (.block 0 (.loop b40_1)))
 c40_1))))
theorem fd40 : FnD Try.prog 40 70 [(.tmp 6), (.tmp 7)] c40 := ⟨⟨Try.f40, Try.f40.body.getD .skip, Try.func40, by kernel_rfl, by kernel_rfl, by kernel_rfl, by kernel_rfl⟩⟩
/-! f41 triforium/triforiumref40.clause -/
def b41_1 : ACode := (.seq (.seq (.reg [⟨some 18, (.move (.tmp 9)), none⟩,
  ⟨some 19, (.fieldAddr 24 (.tmp 2) 2), none⟩,
  ⟨some 20, (.load 22 (.tmp 19)), none⟩,
  ⟨some 21, (.move (.tmp 6)), none⟩,
  ⟨some 22, (.indexAddr 22 (.tmp 20) (.tmp 21)), none⟩,
  ⟨some 23, (.fieldAddr 46 (.tmp 22) 0), none⟩,
  ⟨some 24, (.load 44 (.tmp 23)), none⟩,
  ⟨some 25, (.call { callee := (.builtin .len), args := #[(.tmp 24)], argTypes := #[44] }), none⟩,
  ⟨some 26, (.binOp .lss 3 (.tmp 18) (.tmp 25) 3), none⟩,
  ⟨some 27, (.move (.tmp 26)), none⟩,
  ⟨some 28, (.move (.tmp 8)), some (27, true)⟩,
  ⟨some 29, (.pick (.tmp 27) (.tmp 28) (.const (.bool false))), none⟩])
 (.cond (.tmp 29) .skip (.exit 2)))
 (.seq (.block 3 (.dreg (.tk 0 ⟨some 33, (.fieldAddr 24 (.tmp 2) 2), none⟩
  (.tk 1 ⟨some 34, (.load 22 (.tmp 33)), none⟩
  (.tk 2 ⟨some 35, (.move (.tmp 6)), none⟩
  (.tk 3 ⟨some 36, (.indexAddr 22 (.tmp 34) (.tmp 35)), none⟩
  (.tk 4 ⟨some 37, (.fieldAddr 46 (.tmp 36) 0), none⟩
  (.tk 5 ⟨some 38, (.load 44 (.tmp 37)), none⟩
  (.tk 6 ⟨some 39, (.move (.tmp 9)), none⟩
  (.tk 7 ⟨some 40, (.indexAddr 44 (.tmp 38) (.tmp 39)), none⟩
  (.tk 8 ⟨some 41, (.load 50 (.tmp 40)), none⟩
  (.tk 9 ⟨some 42, (.move (.tmp 1)), none⟩
  (.tk 10 ⟨some 43, (.move (.tmp 9)), none⟩
  (.tk 11 ⟨some 44, (.indexAddr 25 (.tmp 42) (.tmp 43)), none⟩
  (.tk 12 ⟨some 45, (.load 28 (.tmp 44)), none⟩
  (.tk 13 ⟨some 46, (.move (.tmp 7)), none⟩
  (.one [14, 15, 16, 17, 18, 19] ⟨some 47, (.call { callee := (.value (.func 40)), args := #[(.tmp 41), (.tmp 45), (.tmp 46)], argTypes := #[50, 28, 104] }), none⟩
  (.tk 15 ⟨some 32, (.move (.tmp 47)), none⟩
  (.tk 16 ⟨some 48, (.extract (.tmp 32) 0), none⟩
  (.tk 17 ⟨some 49, (.extract (.tmp 32) 1), none⟩
  (.tk 18 ⟨some 7, (.assign (.tmp 48)), none⟩
  .fin))))))))))))))))))) [⟨some 8, (.assign (.tmp 49)), none⟩]))
 (.reg [⟨some 30, (.move (.tmp 9)), none⟩,
  ⟨some 31, (.binOp .add 3 (.tmp 30) (.const (.int .i64 1)) 3), none⟩,
  ⟨some 9, (.assign (.tmp 31)), none⟩])))
def c41_1 : ACode := (.seq (.reg [⟨some 50, (.move (.tmp 8)), none⟩])
 (.cond (.tmp 50) (.seq (.reg [⟨some 51, (.move (.tmp 6)), none⟩,
  ⟨some 52, (.move (.tmp 7)), none⟩,
  ⟨some 4, (.assign (.tmp 51)), none⟩,
  ⟨some 5, (.assign (.tmp 52)), none⟩])
 .ret) .skip))
def c41_2 : ACode := (.reg [⟨some 15, (.move (.tmp 6)), none⟩,
  ⟨some 16, (.binOp .add 3 (.tmp 15) (.const (.int .i64 1)) 3), none⟩,
  ⟨some 6, (.assign (.tmp 16)), none⟩])
def b41_2 : ACode := (.seq (.seq (.reg [⟨some 10, (.move (.tmp 6)), none⟩,
  ⟨some 11, (.fieldAddr 24 (.tmp 2) 2), none⟩,
  ⟨some 12, (.load 22 (.tmp 11)), none⟩,
  ⟨some 13, (.call { callee := (.builtin .len), args := #[(.tmp 12)], argTypes := #[22] }), none⟩,
  ⟨some 14, (.binOp .lss 3 (.tmp 10) (.tmp 13) 3), none⟩])
 (.cond (.tmp 14) .skip (.exit 0)))
 (.seqL (.block 1 (.seq (.reg [⟨some 17, (.buildSlice 104 0 #[]), none⟩,
  ⟨some 7, (.assign (.tmp 17)), none⟩])
 (.seq (.reg [⟨some 8, (.assign (.const (.bool true))), none⟩])
 (.seqL (.seq (.reg [⟨some 9, (.assign (.const (.int .i64 0))), none⟩])
 (.block 2 (.loop b41_1)))
 c41_1))))
 c41_2))
def c41_3 : ACode := (.seq (.reg [⟨some 4, (.assign (.const (.int .i64 (-1)))), none⟩,
  ⟨some 5, (.assign (.const (.slice none 0 0))), none⟩])
 .ret)
def c41 : ACode := (.seq (.reg [⟨some 2, (.box 24 (.tmp 0)), none⟩,
  ⟨some 4, (.assign (.const (.int .i64 0))), none⟩,
  ⟨some 5, (.assign (.const (.slice none 0 0))), none⟩])
 (.seqL (.seq (.reg [⟨some 6, (.assign (.const (.int .i64 0))), none⟩])
 (.block 0 (.loop b41_2)))
 c41_3))
theorem fd41 : FnD Try.prog 41 53 [(.tmp 4), (.tmp 5)] c41 := ⟨⟨Try.f41, Try.f41.body.getD .skip, Try.func41, by kernel_rfl, by kernel_rfl, by kernel_rfl, by kernel_rfl⟩⟩
/-! f42 triforium/triforiumref40.Put -/
def c42 : ACode := (.seq (.reg [⟨some 2, (.box 28 (.tmp 0)), none⟩,
  ⟨some 4, (.alloc 28), none⟩])
 (.seq (.reg [⟨some 5, (.load 28 (.tmp 2)), none⟩,
  ⟨some 6, (.move (.tmp 1)), none⟩,
  ⟨some 7, (.call { callee := (.value (.func 57)), args := #[(.tmp 5), (.tmp 6), (.const (.bool false))], argTypes := #[28, 104, 4] }), none⟩,
  ⟨none, (.store 28 (.tmp 4) (.tmp 7)), none⟩])
 .ret))
theorem fd42 : FnD Try.prog 42 8 [(.cell 4 28)] c42 := ⟨⟨Try.f42, Try.f42.body.getD .skip, Try.func42, by kernel_rfl, by kernel_rfl, by kernel_rfl, by kernel_rfl⟩⟩
/-! f43 triforium/evaluate.right -/
def c43 : ACode := (.seq (.reg [⟨some 2, (.box 80 (.tmp 0)), none⟩,
  ⟨some 3, (.box 34 (.tmp 1)), none⟩,
  ⟨some 4, (.alloc 115), none⟩,
  ⟨some 5, (.assign (.const (.int .i64 0))), none⟩])
 (.seq (.seq (.reg [⟨some 10, (.load 80 (.tmp 2)), none⟩,
  ⟨some 11, (.call { callee := (.value (.func 58)), args := #[(.tmp 10)], argTypes := #[80] }), none⟩,
  ⟨some 6, (.assign (.tmp 11)), none⟩])
 (.seq (.reg [⟨some 12, (.move (.tmp 6)), none⟩,
  ⟨some 13, (.binOp .neq 35 (.tmp 12) (.const (.int .i64 0)) 35), none⟩])
 (.cond (.tmp 13) (.seq (.reg [⟨some 14, (.build 115 #[]), none⟩,
  ⟨some 15, (.move (.tmp 6)), none⟩,
  ⟨none, (.store 115 (.tmp 4) (.tmp 14)), none⟩,
  ⟨some 5, (.assign (.tmp 15)), none⟩])
 .ret) .skip)))
 (.seq (.seq (.reg [⟨some 17, (.load 34 (.tmp 3)), none⟩,
  ⟨some 18, (.call { callee := (.value (.func 51)), args := #[(.tmp 17)], argTypes := #[34] }), none⟩,
  ⟨some 16, (.move (.tmp 18)), none⟩,
  ⟨some 19, (.extract (.tmp 16) 0), none⟩,
  ⟨some 20, (.extract (.tmp 16) 1), none⟩,
  ⟨some 7, (.assign (.tmp 19)), none⟩,
  ⟨some 8, (.assign (.tmp 20)), none⟩])
 (.block 0 (.seq (.reg [⟨some 22, (.move (.tmp 7)), none⟩,
  ⟨some 23, (.binOp .gtr 3 (.tmp 22) (.const (.int .i64 5000)) 3), none⟩,
  ⟨some 21, (.assign (.tmp 23)), none⟩])
 (.cond (.tmp 21) (.seq (.reg [⟨some 24, (.build 115 #[]), none⟩,
  ⟨none, (.store 115 (.tmp 4) (.tmp 24)), none⟩,
  ⟨some 5, (.assign (.const (.int .i64 7))), none⟩])
 .ret) (.seq (.reg [⟨some 26, (.move (.tmp 8)), none⟩,
  ⟨some 27, (.binOp .gtr 3 (.tmp 26) (.const (.int .i64 200)) 3), none⟩,
  ⟨some 25, (.assign (.tmp 27)), none⟩])
 (.cond (.tmp 25) (.seq (.reg [⟨some 28, (.build 115 #[]), none⟩,
  ⟨none, (.store 115 (.tmp 4) (.tmp 28)), none⟩,
  ⟨some 5, (.assign (.const (.int .i64 6))), none⟩])
 .ret) .skip))))))
 (.seq (.reg [⟨some 29, (.load 80 (.tmp 2)), none⟩,
  ⟨some 30, (.call { callee := (.value (.func 59)), args := #[(.tmp 29)], argTypes := #[80] }), none⟩,
  ⟨some 9, (.alloc 115), none⟩,
  ⟨none, (.store 115 (.tmp 9) (.tmp 30)), none⟩])
 (.seq (.dreg (.tk 0 ⟨some 31, (.load 115 (.tmp 9)), none⟩
  (.tk 1 ⟨some 32, (.load 115 (.tmp 9)), none⟩
  (.tk 2 ⟨some 33, (.load 34 (.tmp 3)), none⟩
  (.one [0, 3, 4, 5] ⟨some 34, (.call { callee := (.value (.func 60)), args := #[(.tmp 32), (.tmp 33), (.const (.slice none 0 0))], argTypes := #[115, 34, 52] }), none⟩
  .fin)))) [⟨none, (.store 115 (.tmp 4) (.tmp 31)), none⟩,
  ⟨some 5, (.assign (.tmp 34)), none⟩])
 .ret)))))
theorem fd43 : FnD Try.prog 43 35 [(.cell 4 115), (.tmp 5)] c43 := ⟨⟨Try.f43, Try.f43.body.getD .skip, Try.func43, by kernel_rfl, by kernel_rfl, by kernel_rfl, by kernel_rfl⟩⟩
/-! f44 triforium/evaluate.Run$1 -/
def c44 : ACode := (.seq (.reg [⟨some 5, (.call { callee := (.builtin .recover), args := #[], argTypes := #[] }), none⟩,
  ⟨some 2, (.assign (.tmp 5)), none⟩])
 (.seq (.reg [⟨some 6, (.move (.tmp 2)), none⟩,
  ⟨some 7, (.binOp .neq 20 (.tmp 6) (.const .nilIface) 20), none⟩])
 (.cond (.tmp 7) (.seq (.reg [⟨some 9, (.move (.tmp 2)), none⟩,
  ⟨some 10, (.typeAssert (.tmp 9) 20 119 true), none⟩,
  ⟨some 8, (.move (.tmp 10)), none⟩,
  ⟨some 11, (.extract (.tmp 8) 0), none⟩,
  ⟨some 12, (.extract (.tmp 8) 1), none⟩,
  ⟨some 3, (.alloc 119), none⟩,
  ⟨none, (.store 119 (.tmp 3) (.tmp 11)), none⟩,
  ⟨some 4, (.assign (.tmp 12)), none⟩])
 (.seq (.seq (.reg [⟨some 13, (.move (.tmp 4)), none⟩,
  ⟨some 14, (.unOp .not 4 (.tmp 13)), none⟩])
 (.cond (.tmp 14) (.reg [⟨some 15, (.move (.tmp 2)), none⟩,
  ⟨none, (.panic (.tmp 15)), none⟩]) .skip))
 (.dreg (.tk 0 ⟨some 16, (.build 74 #[]), none⟩
  (.tk 1 ⟨some 17, (.fieldAddr 119 (.tmp 3) 0), none⟩
  (.tk 2 ⟨some 18, (.load 35 (.tmp 17)), none⟩
  (.one [1, 2, 3, 4] ⟨none, (.store 74 (.tmp 0) (.tmp 16)), none⟩
  .fin)))) [⟨none, (.store 35 (.tmp 1) (.tmp 18)), none⟩]))) .skip)))
theorem fd44 : FnD Try.prog 44 19 [] c44 := ⟨⟨Try.f44, Try.f44.body.getD .skip, Try.func44, by kernel_rfl, by kernel_rfl, by kernel_rfl, by kernel_rfl⟩⟩
/-! f45 (*triforium/evaluate.machine).eval -/
def c45 : ACode := (.seq (.reg [⟨some 3, (.box 121 (.tmp 0)), none⟩,
  ⟨some 4, (.box 34 (.tmp 1)), none⟩,
  ⟨some 5, (.box 150 (.tmp 2)), none⟩,
  ⟨some 6, (.assign (.const .nilIface)), none⟩])
 (.seq (.reg [⟨some 10, (.makeFunc (.func 61) #[] #[(.tmp 4), (.tmp 3), (.tmp 5)]), none⟩,
  ⟨some 7, (.assign (.tmp 10)), none⟩])
 (.seq (.seq (.reg [⟨some 11, (.fieldAddr 34 (.tmp 4) 0), none⟩,
  ⟨some 12, (.load 3 (.tmp 11)), none⟩])
 (.block 0 (.seq (.reg [⟨some 14, (.binOp .eql 3 (.tmp 12) (.const (.int .i64 1)) 3), none⟩,
  ⟨some 13, (.assign (.tmp 14)), none⟩])
 (.cond (.tmp 13) (.seq (.reg [⟨some 15, (.load 150 (.tmp 5)), none⟩,
  ⟨some 16, (.fieldAddr 34 (.tmp 4) 1), none⟩,
  ⟨some 17, (.load 9 (.tmp 16)), none⟩,
  ⟨some 18, (.call { callee := (.value (.func 62)), args := #[(.tmp 15), (.tmp 17)], argTypes := #[150, 9] }), none⟩,
  ⟨some 6, (.assign (.tmp 18)), none⟩])
 .ret) (.seq (.reg [⟨some 20, (.binOp .eql 3 (.tmp 12) (.const (.int .i64 5)) 3), none⟩,
  ⟨some 19, (.assign (.tmp 20)), none⟩])
 (.cond (.tmp 19) (.seq (.reg [⟨some 21, (.load 34 (.tmp 4)), none⟩,
  ⟨some 22, (.load 150 (.tmp 5)), none⟩,
  ⟨some 23, (.build 155 #[(0, (.tmp 21)), (1, (.tmp 22))]), none⟩,
  ⟨some 24, (.makeInterface 155 (.tmp 23)), none⟩,
  ⟨some 6, (.assign (.tmp 24)), none⟩])
 .ret) (.seq (.reg [⟨some 26, (.binOp .eql 3 (.tmp 12) (.const (.int .i64 2)) 3), none⟩,
  ⟨some 25, (.assign (.tmp 26)), none⟩])
 (.cond (.tmp 25) (.seq (.seq (.dreg (.tk 0 ⟨some 27, (.load 121 (.tmp 3)), none⟩
  (.tk 1 ⟨some 28, (.nilCheck (.tmp 27)), none⟩
  (.tk 2 ⟨some 29, (.fieldAddr 123 (.tmp 28) 0), none⟩
  (.tk 3 ⟨some 30, (.fieldAddr 115 (.tmp 29) 0), none⟩
  (.tk 4 ⟨some 31, (.load 112 (.tmp 30)), none⟩
  (.tk 5 ⟨some 32, (.fieldAddr 34 (.tmp 4) 1), none⟩
  (.tk 6 ⟨some 33, (.load 9 (.tmp 32)), none⟩
  .fin))))))) [⟨some 34, (.lookup 112 (.tmp 31) (.tmp 33) false), none⟩,
  ⟨some 8, (.assign (.tmp 34)), none⟩])
 (.seq (.reg [⟨some 35, (.move (.tmp 8)), none⟩,
  ⟨some 36, (.nilCheck (.tmp 35)), none⟩,
  ⟨some 37, (.fieldAddr 40 (.tmp 36) 1), none⟩,
  ⟨some 38, (.load 3 (.tmp 37)), none⟩,
  ⟨some 39, (.binOp .gtr 3 (.tmp 38) (.const (.int .i64 0)) 3), none⟩])
 (.cond (.tmp 39) (.seq (.reg [⟨some 40, (.move (.tmp 8)), none⟩,
  ⟨some 41, (.build 158 #[(0, (.tmp 40)), (1, (.const (.slice none 0 0)))]), none⟩,
  ⟨some 42, (.makeInterface 158 (.tmp 41)), none⟩,
  ⟨some 6, (.assign (.tmp 42)), none⟩])
 .ret) .skip)))
 (.seq (.dreg (.tk 0 ⟨some 43, (.load 121 (.tmp 3)), none⟩
  (.tk 1 ⟨some 44, (.load 121 (.tmp 3)), none⟩
  (.tk 2 ⟨some 45, (.nilCheck (.tmp 44)), none⟩
  (.tk 3 ⟨some 46, (.fieldAddr 123 (.tmp 45) 0), none⟩
  (.tk 4 ⟨some 47, (.fieldAddr 115 (.tmp 46) 0), none⟩
  (.tk 5 ⟨some 48, (.load 112 (.tmp 47)), none⟩
  (.tk 6 ⟨some 49, (.fieldAddr 34 (.tmp 4) 1), none⟩
  (.tk 7 ⟨some 50, (.load 9 (.tmp 49)), none⟩
  (.one [0, 8, 9, 10] ⟨some 51, (.lookup 112 (.tmp 48) (.tmp 50) false), none⟩
  .fin))))))))) [⟨some 52, (.call { callee := (.value (.func 63)), args := #[(.tmp 43), (.tmp 51), (.const (.slice none 0 0))], argTypes := #[121, 156, 151] }), none⟩,
  ⟨some 6, (.assign (.tmp 52)), none⟩])
 .ret)) (.seq (.reg [⟨some 54, (.binOp .eql 3 (.tmp 12) (.const (.int .i64 3)) 3), none⟩,
  ⟨some 53, (.assign (.tmp 54)), none⟩])
 (.cond (.tmp 53) (.seq (.dreg (.tk 0 ⟨some 55, (.fieldAddr 34 (.tmp 4) 1), none⟩
  (.tk 1 ⟨some 56, (.load 9 (.tmp 55)), none⟩
  (.tk 2 ⟨some 57, (.move (.tmp 7)), none⟩
  (.one [0, 1, 3, 4, 5, 6] ⟨some 58, (.call { callee := (.value (.tmp 57)), args := #[], argTypes := #[] }), none⟩
  .fin)))) [⟨some 59, (.build 161 #[(0, (.tmp 56)), (1, (.tmp 58))]), none⟩,
  ⟨some 60, (.makeInterface 161 (.tmp 59)), none⟩,
  ⟨some 6, (.assign (.tmp 60)), none⟩])
 .ret) .skip))))))))))
 (.seq (.reg [⟨some 61, (.move (.tmp 7)), none⟩,
  ⟨some 62, (.call { callee := (.value (.tmp 61)), args := #[], argTypes := #[] }), none⟩,
  ⟨some 9, (.assign (.tmp 62)), none⟩])
 (.seq (.dreg (.tk 0 ⟨some 63, (.load 121 (.tmp 3)), none⟩
  (.tk 1 ⟨some 64, (.move (.tmp 9)), none⟩
  (.tk 2 ⟨some 65, (.indexAddr 151 (.tmp 64) (.const (.int .i64 0))), none⟩
  (.tk 3 ⟨some 66, (.load 125 (.tmp 65)), none⟩
  (.tk 4 ⟨some 67, (.move (.tmp 9)), none⟩
  (.tk 5 ⟨some 68, (.slice 151 (.tmp 67) (some (.const (.int .i64 1))) none none), none⟩
  .fin)))))) [⟨some 69, (.call { callee := (.value (.func 64)), args := #[(.tmp 63), (.tmp 66), (.tmp 68)], argTypes := #[121, 125, 151] }), none⟩,
  ⟨some 6, (.assign (.tmp 69)), none⟩])
 .ret)))))
theorem fd45 : FnD Try.prog 45 70 [(.tmp 6)] c45 := ⟨⟨Try.f45, Try.f45.body.getD .skip, Try.func45, by kernel_rfl, by kernel_rfl, by kernel_rfl, by kernel_rfl⟩⟩
/-! f46 (*triforium/evaluate.tally).value -/
def c46 : ACode := (.seq (.seq (.reg [⟨some 7, (.move (.tmp 0)), none⟩,
  ⟨some 8, (.nilCheck (.tmp 7)), none⟩,
  ⟨some 9, (.fieldAddr 129 (.tmp 8) 0), none⟩,
  ⟨some 10, (.load 3 (.tmp 9)), none⟩,
  ⟨some 11, (.binOp .lss 3 (.tmp 10) (.const (.int .i64 0)) 3), none⟩])
 (.cond (.tmp 11) .ret .skip))
 (.seq (.reg [⟨some 12, (.move (.tmp 1)), none⟩])
 (.block 0 (.seq (.reg [⟨some 13, (.typeAssert (.tmp 12) 125 161 true), none⟩,
  ⟨some 14, (.extract (.tmp 13) 1), none⟩,
  ⟨some 15, (.extract (.tmp 13) 0), none⟩])
 (.cond (.tmp 14) (.seq (.reg [⟨some 4, (.alloc 161), none⟩,
  ⟨none, (.store 161 (.tmp 4) (.tmp 15)), none⟩])
 (.seq (.reg [⟨some 16, (.move (.tmp 0)), none⟩,
  ⟨some 17, (.nilCheck (.tmp 16)), none⟩,
  ⟨some 18, (.fieldAddr 129 (.tmp 17) 0), none⟩,
  ⟨some 19, (.load 3 (.tmp 18)), none⟩,
  ⟨some 20, (.binOp .sub 3 (.tmp 19) (.const (.int .i64 1)) 3), none⟩,
  ⟨some 21, (.nilCheck (.tmp 16)), none⟩,
  ⟨some 22, (.fieldAddr 129 (.tmp 21) 0), none⟩,
  ⟨none, (.store 3 (.tmp 22) (.tmp 20)), none⟩])
 (.reg [⟨some 23, (.move (.tmp 0)), none⟩,
  ⟨some 24, (.fieldAddr 161 (.tmp 4) 1), none⟩,
  ⟨some 25, (.load 151 (.tmp 24)), none⟩,
  ⟨some 26, (.call { callee := (.value (.func 65)), args := #[(.tmp 23), (.tmp 25)], argTypes := #[127, 151] }), none⟩]))) (.seq (.reg [⟨some 27, (.typeAssert (.tmp 12) 125 155 true), none⟩,
  ⟨some 28, (.extract (.tmp 27) 1), none⟩,
  ⟨some 29, (.extract (.tmp 27) 0), none⟩])
 (.cond (.tmp 28) (.seq (.reg [⟨some 5, (.alloc 155), none⟩,
  ⟨none, (.store 155 (.tmp 5) (.tmp 29)), none⟩])
 (.reg [⟨some 30, (.move (.tmp 0)), none⟩,
  ⟨some 31, (.fieldAddr 155 (.tmp 5) 0), none⟩,
  ⟨some 32, (.load 34 (.tmp 31)), none⟩,
  ⟨some 33, (.fieldAddr 155 (.tmp 5) 1), none⟩,
  ⟨some 34, (.load 150 (.tmp 33)), none⟩,
  ⟨some 35, (.call { callee := (.value (.func 66)), args := #[(.tmp 30), (.tmp 32), (.tmp 34)], argTypes := #[127, 34, 150] }), none⟩])) (.seq (.reg [⟨some 36, (.typeAssert (.tmp 12) 125 158 true), none⟩,
  ⟨some 37, (.extract (.tmp 36) 1), none⟩,
  ⟨some 38, (.extract (.tmp 36) 0), none⟩])
 (.cond (.tmp 37) (.seq (.reg [⟨some 6, (.alloc 158), none⟩,
  ⟨none, (.store 158 (.tmp 6) (.tmp 38)), none⟩])
 (.seq (.reg [⟨some 39, (.move (.tmp 0)), none⟩,
  ⟨some 40, (.nilCheck (.tmp 39)), none⟩,
  ⟨some 41, (.fieldAddr 129 (.tmp 40) 0), none⟩,
  ⟨some 42, (.load 3 (.tmp 41)), none⟩,
  ⟨some 43, (.binOp .sub 3 (.tmp 42) (.const (.int .i64 1)) 3), none⟩,
  ⟨some 44, (.nilCheck (.tmp 39)), none⟩,
  ⟨some 45, (.fieldAddr 129 (.tmp 44) 0), none⟩,
  ⟨none, (.store 3 (.tmp 45) (.tmp 43)), none⟩])
 (.seq (.seq (.reg [⟨some 46, (.fieldAddr 158 (.tmp 6) 1), none⟩,
  ⟨some 47, (.load 151 (.tmp 46)), none⟩,
  ⟨some 48, (.call { callee := (.builtin .len), args := #[(.tmp 47)], argTypes := #[151] }), none⟩,
  ⟨some 49, (.binOp .gtr 3 (.tmp 48) (.const (.int .i64 0)) 3), none⟩])
 (.cond (.tmp 49) (.reg [⟨some 50, (.move (.tmp 0)), none⟩,
  ⟨some 51, (.nilCheck (.tmp 50)), none⟩,
  ⟨some 52, (.fieldAddr 129 (.tmp 51) 0), none⟩,
  ⟨some 53, (.load 3 (.tmp 52)), none⟩,
  ⟨some 54, (.binOp .sub 3 (.tmp 53) (.const (.int .i64 1)) 3), none⟩,
  ⟨some 55, (.nilCheck (.tmp 50)), none⟩,
  ⟨some 56, (.fieldAddr 129 (.tmp 55) 0), none⟩,
  ⟨none, (.store 3 (.tmp 56) (.tmp 54)), none⟩]) .skip))
 (.reg [⟨some 57, (.move (.tmp 0)), none⟩,
  ⟨some 58, (.fieldAddr 158 (.tmp 6) 1), none⟩,
  ⟨some 59, (.load 151 (.tmp 58)), none⟩,
  ⟨some 60, (.call { callee := (.value (.func 65)), args := #[(.tmp 57), (.tmp 59)], argTypes := #[127, 151] }), none⟩])))) .skip)))))))))
theorem fd46 : FnD Try.prog 46 61 [] c46 := ⟨⟨Try.f46, Try.f46.body.getD .skip, Try.func46, by kernel_rfl, by kernel_rfl, by kernel_rfl, by kernel_rfl⟩⟩
/-! f47 triforium/evaluate.plain -/
def b47_1 : ACode := (.seq (.reg [⟨some 24, (.binOp .lss 3 (.tmp 23) (.tmp 22) 3), none⟩])
 (.seq (.cond (.tmp 24) .skip (.exit 0))
 (.seq (.block 1 (.seq (.reg [⟨some 25, (.indexAddr 151 (.tmp 21) (.tmp 23)), none⟩,
  ⟨some 26, (.load 125 (.tmp 25)), none⟩,
  ⟨some 7, (.assign (.tmp 26)), none⟩])
 (.dreg (.tk 0 ⟨some 27, (.fieldAddr 34 (.tmp 5) 2), none⟩
  (.tk 1 ⟨some 28, (.load 32 (.tmp 27)), none⟩
  (.tk 2 ⟨some 29, (.move (.tmp 7)), none⟩
  (.one [0, 1, 3, 4, 5, 6, 7] ⟨some 30, (.call { callee := (.value (.func 47)), args := #[(.tmp 29)], argTypes := #[125] }), none⟩
  (.tk 4 ⟨some 31, (.buildSlice 32 1 #[(0, (.tmp 30))]), none⟩
  .fin))))) [⟨some 32, (.call { callee := (.builtin .append), args := #[(.tmp 28), (.tmp 31)], argTypes := #[32, 32] }), none⟩,
  ⟨some 33, (.fieldAddr 34 (.tmp 5) 2), none⟩,
  ⟨none, (.store 32 (.tmp 33) (.tmp 32)), none⟩])))
 (.reg [⟨some 34, (.binOp .add 3 (.tmp 23) (.const (.int .i64 1)) 3), none⟩,
  ⟨some 23, (.move (.tmp 34)), none⟩]))))
def c47_1 : ACode := (.seq (.reg [⟨some 35, (.load 34 (.tmp 5)), none⟩,
  ⟨none, (.store 34 (.tmp 2) (.tmp 35)), none⟩])
 .ret)
def c47 : ACode := (.seq (.reg [⟨some 2, (.alloc 34), none⟩])
 (.seq (.reg [⟨some 9, (.move (.tmp 0)), none⟩,
  ⟨some 10, (.typeAssert (.tmp 9) 125 161 true), none⟩,
  ⟨some 8, (.move (.tmp 10)), none⟩,
  ⟨some 11, (.extract (.tmp 8) 0), none⟩,
  ⟨some 12, (.extract (.tmp 8) 1), none⟩,
  ⟨some 3, (.alloc 161), none⟩,
  ⟨none, (.store 161 (.tmp 3) (.tmp 11)), none⟩,
  ⟨some 4, (.assign (.tmp 12)), none⟩])
 (.seq (.seq (.reg [⟨some 13, (.move (.tmp 4)), none⟩,
  ⟨some 14, (.unOp .not 4 (.tmp 13)), none⟩])
 (.cond (.tmp 14) (.reg [⟨some 15, (.build 119 #[(0, (.const (.int .i64 423)))]), none⟩,
  ⟨some 16, (.makeInterface 119 (.tmp 15)), none⟩,
  ⟨none, (.panic (.tmp 16)), none⟩]) .skip))
 (.seq (.reg [⟨some 17, (.fieldAddr 161 (.tmp 3) 0), none⟩,
  ⟨some 18, (.load 9 (.tmp 17)), none⟩,
  ⟨some 19, (.build 34 #[(0, (.const (.int .i64 3))), (1, (.tmp 18))]), none⟩,
  ⟨some 5, (.alloc 34), none⟩,
  ⟨none, (.store 34 (.tmp 5) (.tmp 19)), none⟩])
 (.seqL (.seq (.reg [⟨some 20, (.fieldAddr 161 (.tmp 3) 1), none⟩,
  ⟨some 21, (.load 151 (.tmp 20)), none⟩,
  ⟨some 22, (.call { callee := (.builtin .len), args := #[(.tmp 21)], argTypes := #[151] }), none⟩,
  ⟨some 23, (.move (.const (.int .i64 0))), none⟩])
 (.block 0 (.loop b47_1)))
 c47_1)))))
theorem fd47 : FnD Try.prog 47 36 [(.cell 2 34)] c47 := ⟨⟨Try.f47, Try.f47.body.getD .skip, Try.func47, by kernel_rfl, by kernel_rfl, by kernel_rfl, by kernel_rfl⟩⟩
/-! f48 (triforium/evaluate.tables).isValue -/
/-! f49 triforium/evaluate.copied -/
def c49 : ACode := (.seq (.reg [⟨some 1, (.box 34 (.tmp 0)), none⟩,
  ⟨some 2, (.alloc 34), none⟩])
 (.seq (.reg [⟨some 3, (.load 34 (.tmp 1)), none⟩,
  ⟨some 4, (.call { callee := (.value (.func 36)), args := #[(.tmp 3), (.const (.slice none 0 0))], argTypes := #[34, 96] }), none⟩,
  ⟨none, (.store 34 (.tmp 2) (.tmp 4)), none⟩])
 .ret))
theorem fd49 : FnD Try.prog 49 5 [(.cell 2 34)] c49 := ⟨⟨Try.f49, Try.f49.body.getD .skip, Try.func49, by kernel_rfl, by kernel_rfl, by kernel_rfl, by kernel_rfl⟩⟩
/-! f50 (triforium/evaluate.tables).step -/
/-! f51 triforium/evaluate.size -/
def b51_1 : ACode := (.seq (.reg [⟨some 12, (.binOp .lss 3 (.tmp 11) (.tmp 10) 3), none⟩])
 (.seq (.cond (.tmp 12) .skip (.exit 0))
 (.seq (.block 1 (.seq (.reg [⟨some 13, (.indexAddr 32 (.tmp 9) (.tmp 11)), none⟩,
  ⟨some 14, (.load 34 (.tmp 13)), none⟩,
  ⟨some 5, (.alloc 34), none⟩,
  ⟨none, (.store 34 (.tmp 5) (.tmp 14)), none⟩])
 (.seq (.reg [⟨some 16, (.load 34 (.tmp 5)), none⟩,
  ⟨some 17, (.call { callee := (.value (.func 51)), args := #[(.tmp 16)], argTypes := #[34] }), none⟩,
  ⟨some 15, (.move (.tmp 17)), none⟩,
  ⟨some 18, (.extract (.tmp 15) 0), none⟩,
  ⟨some 19, (.extract (.tmp 15) 1), none⟩,
  ⟨some 6, (.assign (.tmp 18)), none⟩,
  ⟨some 7, (.assign (.tmp 19)), none⟩])
 (.seq (.reg [⟨some 20, (.move (.tmp 2)), none⟩,
  ⟨some 21, (.move (.tmp 6)), none⟩,
  ⟨some 22, (.binOp .add 3 (.tmp 20) (.tmp 21) 3), none⟩,
  ⟨some 2, (.assign (.tmp 22)), none⟩])
 (.reg [⟨some 23, (.move (.tmp 3)), none⟩,
  ⟨some 24, (.move (.tmp 7)), none⟩,
  ⟨some 25, (.call { callee := (.builtin .max), args := #[(.tmp 23), (.tmp 24)], argTypes := #[3, 3] }), none⟩,
  ⟨some 3, (.assign (.tmp 25)), none⟩])))))
 (.reg [⟨some 26, (.binOp .add 3 (.tmp 11) (.const (.int .i64 1)) 3), none⟩,
  ⟨some 11, (.move (.tmp 26)), none⟩]))))
def c51_1 : ACode := (.seq (.reg [⟨some 27, (.move (.tmp 2)), none⟩,
  ⟨some 28, (.binOp .add 3 (.tmp 27) (.const (.int .i64 1)) 3), none⟩,
  ⟨some 29, (.move (.tmp 3)), none⟩,
  ⟨some 30, (.binOp .add 3 (.tmp 29) (.const (.int .i64 1)) 3), none⟩,
  ⟨some 2, (.assign (.tmp 28)), none⟩,
  ⟨some 3, (.assign (.tmp 30)), none⟩])
 .ret)
def c51 : ACode := (.seq (.reg [⟨some 1, (.box 34 (.tmp 0)), none⟩,
  ⟨some 2, (.assign (.const (.int .i64 0))), none⟩,
  ⟨some 3, (.assign (.const (.int .i64 0))), none⟩])
 (.seqL (.seq (.reg [⟨some 8, (.fieldAddr 34 (.tmp 1) 2), none⟩,
  ⟨some 9, (.load 32 (.tmp 8)), none⟩,
  ⟨some 10, (.call { callee := (.builtin .len), args := #[(.tmp 9)], argTypes := #[32] }), none⟩,
  ⟨some 11, (.move (.const (.int .i64 0))), none⟩])
 (.block 0 (.loop b51_1)))
 c51_1))
theorem fd51 : FnD Try.prog 51 31 [(.tmp 2), (.tmp 3)] c51 := ⟨⟨Try.f51, Try.f51.body.getD .skip, Try.func51, by kernel_rfl, by kernel_rfl, by kernel_rfl, by kernel_rfl⟩⟩
/-! f52 slices.Backward[[]triforium/evaluate.bind,triforium/evaluate.bind] -/
def c52 : ACode := (.seq (.reg [⟨some 1, (.box 96 (.tmp 0)), none⟩,
  ⟨some 2, (.assign (.const .nilFunc)), none⟩])
 (.seq (.reg [⟨some 3, (.makeFunc (.func 75) #[] #[(.tmp 1)]), none⟩,
  ⟨some 2, (.assign (.tmp 3)), none⟩])
 .ret))
theorem fd52 : FnD Try.prog 52 4 [(.tmp 2)] c52 := ⟨⟨Try.f52, Try.f52.body.getD .skip, Try.func52, by kernel_rfl, by kernel_rfl, by kernel_rfl, by kernel_rfl⟩⟩
/-! f53 slices.DeleteFunc[[]triforium/evaluate.bind,triforium/evaluate.bind] -/
def b53_1 : ACode := (.seq (.seq (.reg [⟨some 16, (.move (.tmp 6)), none⟩,
  ⟨some 17, (.move (.tmp 0)), none⟩,
  ⟨some 18, (.call { callee := (.builtin .len), args := #[(.tmp 17)], argTypes := #[96] }), none⟩,
  ⟨some 19, (.binOp .lss 3 (.tmp 16) (.tmp 18) 3), none⟩])
 (.cond (.tmp 19) .skip (.exit 0)))
 (.seq (.block 1 (.seq (.reg [⟨some 22, (.move (.tmp 0)), none⟩,
  ⟨some 23, (.move (.tmp 6)), none⟩,
  ⟨some 24, (.indexAddr 96 (.tmp 22) (.tmp 23)), none⟩,
  ⟨some 25, (.load 102 (.tmp 24)), none⟩,
  ⟨some 7, (.alloc 102), none⟩,
  ⟨none, (.store 102 (.tmp 7) (.tmp 25)), none⟩])
 (.seq (.reg [⟨some 26, (.move (.tmp 1)), none⟩,
  ⟨some 27, (.load 102 (.tmp 7)), none⟩,
  ⟨some 28, (.call { callee := (.value (.tmp 26)), args := #[(.tmp 27)], argTypes := #[102] }), none⟩,
  ⟨some 29, (.unOp .not 4 (.tmp 28)), none⟩])
 (.cond (.tmp 29) (.seq (.reg [⟨some 30, (.move (.tmp 0)), none⟩,
  ⟨some 31, (.move (.tmp 5)), none⟩,
  ⟨some 32, (.load 102 (.tmp 7)), none⟩,
  ⟨some 33, (.indexAddr 96 (.tmp 30) (.tmp 31)), none⟩,
  ⟨none, (.store 102 (.tmp 33) (.tmp 32)), none⟩])
 (.reg [⟨some 34, (.move (.tmp 5)), none⟩,
  ⟨some 35, (.binOp .add 3 (.tmp 34) (.const (.int .i64 1)) 3), none⟩,
  ⟨some 5, (.assign (.tmp 35)), none⟩])) .skip))))
 (.reg [⟨some 20, (.move (.tmp 6)), none⟩,
  ⟨some 21, (.binOp .add 3 (.tmp 20) (.const (.int .i64 1)) 3), none⟩,
  ⟨some 6, (.assign (.tmp 21)), none⟩])))
def c53_1 : ACode := (.seq (.reg [⟨some 36, (.move (.tmp 0)), none⟩,
  ⟨some 37, (.move (.tmp 5)), none⟩,
  ⟨some 38, (.slice 96 (.tmp 36) (some (.tmp 37)) none none), none⟩,
  ⟨none, (.call { callee := (.builtin .clear), args := #[(.tmp 38)], argTypes := #[96] }), none⟩])
 (.seq (.reg [⟨some 39, (.move (.tmp 0)), none⟩,
  ⟨some 40, (.move (.tmp 5)), none⟩,
  ⟨some 41, (.slice 96 (.tmp 39) none (some (.tmp 40)) none), none⟩,
  ⟨some 4, (.assign (.tmp 41)), none⟩])
 .ret))
def c53 : ACode := (.seq (.reg [⟨some 4, (.assign (.const (.slice none 0 0))), none⟩])
 (.seq (.reg [⟨some 8, (.move (.tmp 0)), none⟩,
  ⟨some 9, (.move (.tmp 1)), none⟩,
  ⟨some 10, (.call { callee := (.value (.func 76)), args := #[(.tmp 8), (.tmp 9)], argTypes := #[96, 144] }), none⟩,
  ⟨some 5, (.assign (.tmp 10)), none⟩])
 (.seq (.seq (.reg [⟨some 11, (.move (.tmp 5)), none⟩,
  ⟨some 12, (.binOp .eql 3 (.tmp 11) (.const (.int .i64 (-1))) 3), none⟩])
 (.cond (.tmp 12) (.seq (.reg [⟨some 13, (.move (.tmp 0)), none⟩,
  ⟨some 4, (.assign (.tmp 13)), none⟩])
 .ret) .skip))
 (.seqL (.seq (.reg [⟨some 14, (.move (.tmp 5)), none⟩,
  ⟨some 15, (.binOp .add 3 (.tmp 14) (.const (.int .i64 1)) 3), none⟩,
  ⟨some 6, (.assign (.tmp 15)), none⟩])
 (.block 0 (.loop b53_1)))
 c53_1))))
theorem fd53 : FnD Try.prog 53 42 [(.tmp 4)] c53 := ⟨⟨Try.f53, Try.f53.body.getD .skip, Try.func53, by kernel_rfl, by kernel_rfl, by kernel_rfl, by kernel_rfl⟩⟩
/-! f54 slices.Clone[[]triforium/evaluate.bind,triforium/evaluate.bind] -/
def c54 : ACode := (.seq (.reg [⟨some 2, (.assign (.const (.slice none 0 0))), none⟩])
 (.seq (.seq (.reg [⟨some 3, (.move (.tmp 0)), none⟩,
  ⟨some 4, (.binOp .eql 96 (.tmp 3) (.const (.slice none 0 0)) 96), none⟩])
 (.cond (.tmp 4) (.seq (.reg [⟨some 2, (.assign (.const (.slice none 0 0))), none⟩])
 .ret) .skip))
 (.seq (.reg [⟨some 5, (.buildSlice 96 0 #[]), none⟩,
  ⟨some 6, (.move (.tmp 0)), none⟩,
  ⟨some 7, (.call { callee := (.builtin .append), args := #[(.tmp 5), (.tmp 6)], argTypes := #[96, 96] }), none⟩,
  ⟨some 2, (.assign (.tmp 7)), none⟩])
 .ret)))
theorem fd54 : FnD Try.prog 54 8 [(.tmp 2)] c54 := ⟨⟨Try.f54, Try.f54.body.getD .skip, Try.func54, by kernel_rfl, by kernel_rfl, by kernel_rfl, by kernel_rfl⟩⟩
/-! f55 triforium/evaluate.put$1 -/
def c55 : ACode := (.seq (.reg [⟨some 2, (.box 102 (.tmp 0)), none⟩,
  ⟨some 3, (.assign (.const (.bool false))), none⟩])
 (.seq (.reg [⟨some 4, (.fieldAddr 102 (.tmp 2) 0), none⟩,
  ⟨some 5, (.load 9 (.tmp 4)), none⟩,
  ⟨some 6, (.fieldAddr 34 (.tmp 1) 1), none⟩,
  ⟨some 7, (.load 9 (.tmp 6)), none⟩,
  ⟨some 8, (.binOp .eql 9 (.tmp 5) (.tmp 7) 9), none⟩,
  ⟨some 3, (.assign (.tmp 8)), none⟩])
 .ret))
theorem fd55 : FnD Try.prog 55 9 [(.tmp 3)] c55 := ⟨⟨Try.f55, Try.f55.body.getD .skip, Try.func55, by kernel_rfl, by kernel_rfl, by kernel_rfl, by kernel_rfl⟩⟩
/-! f56 triforium/triforiumref40.has -/
def b56_1 : ACode := (.seq (.seq (.reg [⟨some 6, (.move (.tmp 5)), none⟩,
  ⟨some 7, (.move (.tmp 0)), none⟩,
  ⟨some 8, (.call { callee := (.builtin .len), args := #[(.tmp 7)], argTypes := #[52] }), none⟩,
  ⟨some 9, (.binOp .lss 3 (.tmp 6) (.tmp 8) 3), none⟩])
 (.cond (.tmp 9) .skip (.exit 0)))
 (.seq (.block 1 (.seq (.reg [⟨some 12, (.move (.tmp 0)), none⟩,
  ⟨some 13, (.move (.tmp 5)), none⟩,
  ⟨some 14, (.indexAddr 52 (.tmp 12) (.tmp 13)), none⟩,
  ⟨some 15, (.load 9 (.tmp 14)), none⟩,
  ⟨some 16, (.move (.tmp 1)), none⟩,
  ⟨some 17, (.binOp .eql 9 (.tmp 15) (.tmp 16) 9), none⟩])
 (.cond (.tmp 17) (.seq (.reg [⟨some 4, (.assign (.const (.bool true))), none⟩])
 .ret) .skip)))
 (.reg [⟨some 10, (.move (.tmp 5)), none⟩,
  ⟨some 11, (.binOp .add 3 (.tmp 10) (.const (.int .i64 1)) 3), none⟩,
  ⟨some 5, (.assign (.tmp 11)), none⟩])))
def c56_1 : ACode := (.seq (.reg [⟨some 4, (.assign (.const (.bool false))), none⟩])
 .ret)
def c56 : ACode := (.seq (.reg [⟨some 4, (.assign (.const (.bool false))), none⟩])
 (.seqL (.seq (.reg [⟨some 5, (.assign (.const (.int .i64 0))), none⟩])
 (.block 0 (.loop b56_1)))
 c56_1))
theorem fd56 : FnD Try.prog 56 18 [(.tmp 4)] c56 := ⟨⟨Try.f56, Try.f56.body.getD .skip, Try.func56, by kernel_rfl, by kernel_rfl, by kernel_rfl, by kernel_rfl⟩⟩
/-! f57 triforium/triforiumref40.put -/
def b57_1 : ACode := (.seq (.seq (.reg [⟨some 25, (.move (.tmp 7)), none⟩,
  ⟨some 26, (.binOp .geq 3 (.tmp 25) (.const (.int .i64 0)) 3), none⟩])
 (.cond (.tmp 26) .skip (.exit 0)))
 (.seq (.block 1 (.seq (.seq (.dreg (.tk 0 ⟨some 29, (.move (.tmp 1)), none⟩
  (.tk 1 ⟨some 30, (.move (.tmp 7)), none⟩
  (.tk 2 ⟨some 31, (.indexAddr 104 (.tmp 29) (.tmp 30)), none⟩
  (.tk 3 ⟨some 32, (.fieldAddr 108 (.tmp 31) 0), none⟩
  (.tk 4 ⟨some 33, (.load 9 (.tmp 32)), none⟩
  (.tk 5 ⟨some 34, (.fieldAddr 28 (.tmp 3) 1), none⟩
  (.tk 6 ⟨some 35, (.load 9 (.tmp 34)), none⟩
  .fin))))))) [⟨some 36, (.binOp .eql 9 (.tmp 33) (.tmp 35) 9), none⟩,
  ⟨some 37, (.move (.tmp 36)), none⟩,
  ⟨some 38, (.move (.tmp 2)), some (37, true)⟩,
  ⟨some 39, (.pick (.tmp 37) (.tmp 38) (.const (.bool false))), none⟩])
 (.cond (.tmp 39) (.seq (.reg [⟨some 40, (.move (.tmp 1)), none⟩,
  ⟨some 41, (.move (.tmp 7)), none⟩,
  ⟨some 42, (.indexAddr 104 (.tmp 40) (.tmp 41)), none⟩,
  ⟨some 43, (.fieldAddr 108 (.tmp 42) 1), none⟩,
  ⟨some 44, (.load 28 (.tmp 43)), none⟩,
  ⟨some 45, (.buildSlice 25 1 #[(0, (.tmp 44))]), none⟩,
  ⟨some 46, (.build 28 #[(0, (.const (.int .i64 9))), (2, (.tmp 45))]), none⟩,
  ⟨none, (.store 28 (.tmp 6) (.tmp 46)), none⟩])
 .ret) .skip))
 (.seq (.dreg (.tk 0 ⟨some 47, (.move (.tmp 1)), none⟩
  (.tk 1 ⟨some 48, (.move (.tmp 7)), none⟩
  (.tk 2 ⟨some 49, (.indexAddr 104 (.tmp 47) (.tmp 48)), none⟩
  (.tk 3 ⟨some 50, (.fieldAddr 108 (.tmp 49) 0), none⟩
  (.tk 4 ⟨some 51, (.load 9 (.tmp 50)), none⟩
  (.tk 5 ⟨some 52, (.fieldAddr 28 (.tmp 3) 1), none⟩
  (.tk 6 ⟨some 53, (.load 9 (.tmp 52)), none⟩
  .fin))))))) [⟨some 54, (.binOp .eql 9 (.tmp 51) (.tmp 53) 9), none⟩])
 (.cond (.tmp 54) (.seq (.reg [⟨some 55, (.move (.tmp 1)), none⟩,
  ⟨some 56, (.move (.tmp 7)), none⟩,
  ⟨some 57, (.indexAddr 104 (.tmp 55) (.tmp 56)), none⟩,
  ⟨some 58, (.fieldAddr 108 (.tmp 57) 1), none⟩,
  ⟨some 59, (.load 28 (.tmp 58)), none⟩,
  ⟨none, (.store 28 (.tmp 6) (.tmp 59)), none⟩])
 .ret) .skip))))
 (.reg [⟨some 27, (.move (.tmp 7)), none⟩,
  ⟨some 28, (.binOp .sub 3 (.tmp 27) (.const (.int .i64 1)) 3), none⟩,
  ⟨some 7, (.assign (.tmp 28)), none⟩])))
def b57_2 : ACode := (.seq (.seq (.reg [⟨some 64, (.move (.tmp 9)), none⟩,
  ⟨some 65, (.move (.tmp 1)), none⟩,
  ⟨some 66, (.call { callee := (.builtin .len), args := #[(.tmp 65)], argTypes := #[104] }), none⟩,
  ⟨some 67, (.binOp .lss 3 (.tmp 64) (.tmp 66) 3), none⟩])
 (.cond (.tmp 67) .skip (.exit 2)))
 (.seq (.block 3 (.seq (.dreg (.tk 0 ⟨some 70, (.move (.tmp 1)), none⟩
  (.tk 1 ⟨some 71, (.move (.tmp 9)), none⟩
  (.tk 2 ⟨some 72, (.indexAddr 104 (.tmp 70) (.tmp 71)), none⟩
  (.tk 3 ⟨some 73, (.fieldAddr 108 (.tmp 72) 0), none⟩
  (.tk 4 ⟨some 74, (.load 9 (.tmp 73)), none⟩
  (.tk 5 ⟨some 75, (.fieldAddr 28 (.tmp 3) 1), none⟩
  (.tk 6 ⟨some 76, (.load 9 (.tmp 75)), none⟩
  .fin))))))) [⟨some 77, (.binOp .neq 9 (.tmp 74) (.tmp 76) 9), none⟩])
 (.cond (.tmp 77) (.reg [⟨some 78, (.move (.tmp 8)), none⟩,
  ⟨some 79, (.move (.tmp 1)), none⟩,
  ⟨some 80, (.move (.tmp 9)), none⟩,
  ⟨some 81, (.indexAddr 104 (.tmp 79) (.tmp 80)), none⟩,
  ⟨some 82, (.load 108 (.tmp 81)), none⟩,
  ⟨some 83, (.buildSlice 104 1 #[(0, (.tmp 82))]), none⟩,
  ⟨some 84, (.call { callee := (.builtin .append), args := #[(.tmp 78), (.tmp 83)], argTypes := #[104, 104] }), none⟩,
  ⟨some 8, (.assign (.tmp 84)), none⟩]) .skip)))
 (.reg [⟨some 68, (.move (.tmp 9)), none⟩,
  ⟨some 69, (.binOp .add 3 (.tmp 68) (.const (.int .i64 1)) 3), none⟩,
  ⟨some 9, (.assign (.tmp 69)), none⟩])))
def c57_1 : ACode := (.reg [⟨some 85, (.move (.tmp 8)), none⟩,
  ⟨some 1, (.assign (.tmp 85)), none⟩])
def b57_3 : ACode := (.seq (.seq (.reg [⟨some 91, (.move (.tmp 11)), none⟩,
  ⟨some 92, (.fieldAddr 28 (.tmp 3) 2), none⟩,
  ⟨some 93, (.load 25 (.tmp 92)), none⟩,
  ⟨some 94, (.call { callee := (.builtin .len), args := #[(.tmp 93)], argTypes := #[25] }), none⟩,
  ⟨some 95, (.binOp .lss 3 (.tmp 91) (.tmp 94) 3), none⟩])
 (.cond (.tmp 95) .skip (.exit 4)))
 (.seq (.block 5 (.dreg (.tk 0 ⟨some 98, (.fieldAddr 28 (.tmp 10) 2), none⟩
  (.tk 1 ⟨some 99, (.load 25 (.tmp 98)), none⟩
  (.tk 2 ⟨some 100, (.fieldAddr 28 (.tmp 3) 2), none⟩
  (.tk 3 ⟨some 101, (.load 25 (.tmp 100)), none⟩
  (.tk 4 ⟨some 102, (.move (.tmp 11)), none⟩
  (.tk 5 ⟨some 103, (.indexAddr 25 (.tmp 101) (.tmp 102)), none⟩
  (.tk 6 ⟨some 104, (.load 28 (.tmp 103)), none⟩
  (.tk 7 ⟨some 105, (.move (.tmp 1)), none⟩
  (.tk 8 ⟨some 106, (.move (.tmp 2)), none⟩
  (.one [0, 1, 9, 10, 11, 12, 13] ⟨some 107, (.call { callee := (.value (.func 57)), args := #[(.tmp 104), (.tmp 105), (.tmp 106)], argTypes := #[28, 104, 4] }), none⟩
  (.tk 10 ⟨some 108, (.buildSlice 25 1 #[(0, (.tmp 107))]), none⟩
  .fin))))))))))) [⟨some 109, (.call { callee := (.builtin .append), args := #[(.tmp 99), (.tmp 108)], argTypes := #[25, 25] }), none⟩,
  ⟨some 110, (.fieldAddr 28 (.tmp 10) 2), none⟩,
  ⟨none, (.store 25 (.tmp 110) (.tmp 109)), none⟩]))
 (.reg [⟨some 96, (.move (.tmp 11)), none⟩,
  ⟨some 97, (.binOp .add 3 (.tmp 96) (.const (.int .i64 1)) 3), none⟩,
  ⟨some 11, (.assign (.tmp 97)), none⟩])))
def c57_2 : ACode := (.seq (.reg [⟨some 111, (.load 28 (.tmp 10)), none⟩,
  ⟨none, (.store 28 (.tmp 6) (.tmp 111)), none⟩])
 .ret)
def c57_3 : ACode := (.seq (.reg [⟨some 86, (.fieldAddr 28 (.tmp 3) 0), none⟩,
  ⟨some 87, (.load 3 (.tmp 86)), none⟩,
  ⟨some 88, (.fieldAddr 28 (.tmp 3) 1), none⟩,
  ⟨some 89, (.load 9 (.tmp 88)), none⟩,
  ⟨some 90, (.build 28 #[(0, (.tmp 87)), (1, (.tmp 89))]), none⟩,
  ⟨some 10, (.alloc 28), none⟩,
  ⟨none, (.store 28 (.tmp 10) (.tmp 90)), none⟩])
 (.seqL (.seq (.reg [⟨some 11, (.assign (.const (.int .i64 0))), none⟩])
 (.block 4 (.loop b57_3)))
 c57_2))
def c57_4 : ACode := (.seqL (.seq (.reg [⟨some 60, (.fieldAddr 28 (.tmp 3) 0), none⟩,
  ⟨some 61, (.load 3 (.tmp 60)), none⟩,
  ⟨some 62, (.binOp .eql 3 (.tmp 61) (.const (.int .i64 5)) 3), none⟩])
 (.cond (.tmp 62) (.seq (.reg [⟨some 63, (.buildSlice 104 0 #[]), none⟩,
  ⟨some 8, (.assign (.tmp 63)), none⟩])
 (.seqL (.seq (.reg [⟨some 9, (.assign (.const (.int .i64 0))), none⟩])
 (.block 2 (.loop b57_2)))
 c57_1)) .skip))
 c57_3)
def c57 : ACode := (.seq (.reg [⟨some 3, (.box 28 (.tmp 0)), none⟩,
  ⟨some 6, (.alloc 28), none⟩])
 (.seq (.seq (.reg [⟨some 12, (.move (.tmp 2)), none⟩,
  ⟨some 13, (.move (.tmp 12)), none⟩,
  ⟨some 14, (.fieldAddr 28 (.tmp 3) 0), some (13, true)⟩,
  ⟨some 15, (.load 3 (.tmp 14)), some (13, true)⟩,
  ⟨some 16, (.binOp .eql 3 (.tmp 15) (.const (.int .i64 9)) 3), some (13, true)⟩,
  ⟨some 17, (.pick (.tmp 13) (.tmp 16) (.const (.bool false))), none⟩])
 (.cond (.tmp 17) (.seq (.reg [⟨some 18, (.load 28 (.tmp 3)), none⟩,
  ⟨none, (.store 28 (.tmp 6) (.tmp 18)), none⟩])
 .ret) .skip))
 (.seqL (.seq (.reg [⟨some 19, (.fieldAddr 28 (.tmp 3) 0), none⟩,
  ⟨some 20, (.load 3 (.tmp 19)), none⟩,
  ⟨some 21, (.binOp .eql 3 (.tmp 20) (.const (.int .i64 1)) 3), none⟩])
 (.cond (.tmp 21) (.seq (.reg [⟨some 22, (.move (.tmp 1)), none⟩,
  ⟨some 23, (.call { callee := (.builtin .len), args := #[(.tmp 22)], argTypes := #[104] }), none⟩,
  ⟨some 24, (.binOp .sub 3 (.tmp 23) (.const (.int .i64 1)) 3), none⟩,
  ⟨some 7, (.assign (.tmp 24)), none⟩])
 (.block 0 (.loop b57_1))) .skip))
 c57_4)))
theorem fd57 : FnD Try.prog 57 112 [(.cell 6 28)] c57 := ⟨⟨Try.f57, Try.f57.body.getD .skip, Try.func57, by kernel_rfl, by kernel_rfl, by kernel_rfl, by kernel_rfl⟩⟩
/-! f58 triforium/codegen.Check -/
def b58_1 : ACode := (.seq (.reg [⟨some 25, (.binOp .lss 3 (.tmp 24) (.tmp 23) 3), none⟩])
 (.seq (.cond (.tmp 25) .skip (.exit 0))
 (.seq (.block 1 (.seq (.reg [⟨some 26, (.move (.tmp 24)), none⟩,
  ⟨some 27, (.indexAddr 78 (.tmp 22) (.tmp 24)), none⟩,
  ⟨some 28, (.load 40 (.tmp 27)), none⟩,
  ⟨some 5, (.alloc 40), none⟩,
  ⟨some 4, (.assign (.tmp 26)), none⟩,
  ⟨none, (.store 40 (.tmp 5) (.tmp 28)), none⟩])
 (.block 2 (.seq (.reg [⟨some 30, (.fieldAddr 40 (.tmp 5) 0), none⟩,
  ⟨some 31, (.load 9 (.tmp 30)), none⟩,
  ⟨some 32, (.call { callee := (.value (.func 78)), args := #[(.tmp 31)], argTypes := #[9] }), none⟩,
  ⟨some 33, (.unOp .not 4 (.tmp 32)), none⟩,
  ⟨some 29, (.assign (.tmp 33)), none⟩])
 (.cond (.tmp 29) (.seq (.reg [⟨some 2, (.assign (.const (.int .i64 411))), none⟩])
 .ret) (.seq (.dreg (.tk 0 ⟨some 35, (.fieldAddr 80 (.tmp 1) 0), none⟩
  (.tk 1 ⟨some 36, (.load 77 (.tmp 35)), none⟩
  (.tk 2 ⟨some 37, (.fieldAddr 40 (.tmp 5) 0), none⟩
  (.tk 3 ⟨some 38, (.load 9 (.tmp 37)), none⟩
  (.one [4, 5, 6, 7, 8, 9, 10, 11, 12, 13, 14, 15, 16] ⟨some 39, (.call { callee := (.value (.func 79)), args := #[(.tmp 36), (.tmp 38)], argTypes := #[77, 9] }), none⟩
  (.tk 5 ⟨some 40, (.binOp .geq 3 (.tmp 39) (.const (.int .i64 0)) 3), none⟩
  (.tk 6 ⟨some 41, (.move (.tmp 40)), none⟩
  (.tk 7 ⟨some 42, (.fieldAddr 80 (.tmp 1) 1), some (41, false)⟩
  (.tk 8 ⟨some 43, (.load 78 (.tmp 42)), some (41, false)⟩
  (.tk 9 ⟨some 44, (.move (.tmp 4)), some (41, false)⟩
  (.tk 10 ⟨some 45, (.slice 78 (.tmp 43) none (some (.tmp 44)) none), some (41, false)⟩
  (.tk 11 ⟨some 46, (.fieldAddr 40 (.tmp 5) 0), some (41, false)⟩
  (.tk 12 ⟨some 47, (.load 9 (.tmp 46)), some (41, false)⟩
  .fin))))))))))))) [⟨some 48, (.call { callee := (.value (.func 80)), args := #[(.tmp 45), (.tmp 47)], argTypes := #[78, 9] }), some (41, false)⟩,
  ⟨some 49, (.binOp .geq 3 (.tmp 48) (.const (.int .i64 0)) 3), some (41, false)⟩,
  ⟨some 50, (.pick (.tmp 41) (.const (.bool true)) (.tmp 49)), none⟩,
  ⟨some 34, (.assign (.tmp 50)), none⟩])
 (.cond (.tmp 34) (.seq (.reg [⟨some 2, (.assign (.const (.int .i64 10))), none⟩])
 .ret) (.seq (.reg [⟨some 52, (.fieldAddr 40 (.tmp 5) 1), none⟩,
  ⟨some 53, (.load 3 (.tmp 52)), none⟩,
  ⟨some 54, (.binOp .lss 3 (.tmp 53) (.const (.int .i64 0)) 3), none⟩,
  ⟨some 55, (.move (.tmp 54)), none⟩,
  ⟨some 56, (.fieldAddr 40 (.tmp 5) 1), some (55, false)⟩,
  ⟨some 57, (.load 3 (.tmp 56)), some (55, false)⟩,
  ⟨some 58, (.binOp .gtr 3 (.tmp 57) (.const (.int .i64 10)) 3), some (55, false)⟩,
  ⟨some 59, (.pick (.tmp 55) (.const (.bool true)) (.tmp 58)), none⟩,
  ⟨some 51, (.assign (.tmp 59)), none⟩])
 (.cond (.tmp 51) (.seq (.reg [⟨some 2, (.assign (.const (.int .i64 4))), none⟩])
 .ret) (.seq (.reg [⟨some 61, (.fieldAddr 40 (.tmp 5) 2), none⟩,
  ⟨some 62, (.load 38 (.tmp 61)), none⟩,
  ⟨some 63, (.call { callee := (.builtin .len), args := #[(.tmp 62)], argTypes := #[38] }), none⟩,
  ⟨some 64, (.binOp .lss 3 (.tmp 63) (.const (.int .i64 1)) 3), none⟩,
  ⟨some 65, (.move (.tmp 64)), none⟩,
  ⟨some 66, (.fieldAddr 40 (.tmp 5) 2), some (65, false)⟩,
  ⟨some 67, (.load 38 (.tmp 66)), some (65, false)⟩,
  ⟨some 68, (.call { callee := (.builtin .len), args := #[(.tmp 67)], argTypes := #[38] }), some (65, false)⟩,
  ⟨some 69, (.binOp .gtr 3 (.tmp 68) (.const (.int .i64 100)) 3), some (65, false)⟩,
  ⟨some 70, (.pick (.tmp 65) (.const (.bool true)) (.tmp 69)), none⟩,
  ⟨some 60, (.assign (.tmp 70)), none⟩])
 (.cond (.tmp 60) (.seq (.reg [⟨some 2, (.assign (.const (.int .i64 5))), none⟩])
 .ret) .skip)))))))))))
 (.reg [⟨some 71, (.binOp .add 3 (.tmp 24) (.const (.int .i64 1)) 3), none⟩,
  ⟨some 24, (.move (.tmp 71)), none⟩]))))
def b58_2 : ACode := (.seq (.reg [⟨some 83, (.binOp .lss 3 (.tmp 82) (.tmp 81) 3), none⟩])
 (.seq (.cond (.tmp 83) .skip (.exit 5))
 (.seq (.block 6 (.seq (.reg [⟨some 84, (.indexAddr 38 (.tmp 80) (.tmp 82)), none⟩,
  ⟨some 85, (.load 93 (.tmp 84)), none⟩,
  ⟨some 9, (.alloc 93), none⟩,
  ⟨none, (.store 93 (.tmp 9) (.tmp 85)), none⟩])
 (.seq (.reg [⟨some 86, (.load 80 (.tmp 1)), none⟩,
  ⟨some 87, (.load 40 (.tmp 7)), none⟩,
  ⟨some 88, (.load 93 (.tmp 9)), none⟩,
  ⟨some 89, (.call { callee := (.value (.func 81)), args := #[(.tmp 86), (.tmp 87), (.tmp 88)], argTypes := #[80, 40, 93] }), none⟩,
  ⟨some 10, (.assign (.tmp 89)), none⟩])
 (.seq (.reg [⟨some 90, (.move (.tmp 10)), none⟩,
  ⟨some 91, (.binOp .neq 35 (.tmp 90) (.const (.int .i64 0)) 35), none⟩])
 (.cond (.tmp 91) (.seq (.reg [⟨some 92, (.move (.tmp 10)), none⟩,
  ⟨some 2, (.assign (.tmp 92)), none⟩])
 .ret) .skip)))))
 (.reg [⟨some 93, (.binOp .add 3 (.tmp 82) (.const (.int .i64 1)) 3), none⟩,
  ⟨some 82, (.move (.tmp 93)), none⟩]))))
def c58_1 : ACode := (.reg [⟨some 94, (.binOp .add 3 (.tmp 75) (.const (.int .i64 1)) 3), none⟩,
  ⟨some 75, (.move (.tmp 94)), none⟩])
def b58_3 : ACode := (.seq (.reg [⟨some 76, (.binOp .lss 3 (.tmp 75) (.tmp 74) 3), none⟩])
 (.seq (.cond (.tmp 76) .skip (.exit 3))
 (.seqL (.block 4 (.seq (.reg [⟨some 77, (.indexAddr 78 (.tmp 73) (.tmp 75)), none⟩,
  ⟨some 78, (.load 40 (.tmp 77)), none⟩,
  ⟨some 7, (.alloc 40), none⟩,
  ⟨none, (.store 40 (.tmp 7) (.tmp 78)), none⟩])
 (.seq (.reg [⟨some 79, (.fieldAddr 40 (.tmp 7) 2), none⟩,
  ⟨some 80, (.load 38 (.tmp 79)), none⟩,
  ⟨some 81, (.call { callee := (.builtin .len), args := #[(.tmp 80)], argTypes := #[38] }), none⟩,
  ⟨some 82, (.move (.const (.int .i64 0))), none⟩])
 (.block 5 (.loop b58_2)))))
 c58_1)))
def c58_2 : ACode := (.seq (.reg [⟨some 2, (.assign (.const (.int .i64 0))), none⟩])
 .ret)
def c58_3 : ACode := (.seqL (.seq (.reg [⟨some 72, (.fieldAddr 80 (.tmp 1) 1), none⟩,
  ⟨some 73, (.load 78 (.tmp 72)), none⟩,
  ⟨some 74, (.call { callee := (.builtin .len), args := #[(.tmp 73)], argTypes := #[78] }), none⟩,
  ⟨some 75, (.move (.const (.int .i64 0))), none⟩])
 (.block 3 (.loop b58_3)))
 c58_2)
def c58 : ACode := (.seq (.reg [⟨some 1, (.box 80 (.tmp 0)), none⟩,
  ⟨some 2, (.assign (.const (.int .i64 0))), none⟩])
 (.seq (.seq (.reg [⟨some 11, (.fieldAddr 80 (.tmp 1) 1), none⟩,
  ⟨some 12, (.load 78 (.tmp 11)), none⟩,
  ⟨some 13, (.call { callee := (.builtin .len), args := #[(.tmp 12)], argTypes := #[78] }), none⟩,
  ⟨some 14, (.binOp .gtr 3 (.tmp 13) (.const (.int .i64 100)) 3), none⟩])
 (.cond (.tmp 14) (.seq (.reg [⟨some 2, (.assign (.const (.int .i64 5))), none⟩])
 .ret) .skip))
 (.seq (.seq (.reg [⟨some 15, (.fieldAddr 80 (.tmp 1) 0), none⟩,
  ⟨some 16, (.load 77 (.tmp 15)), none⟩,
  ⟨some 17, (.call { callee := (.value (.func 77)), args := #[(.tmp 16)], argTypes := #[77] }), none⟩,
  ⟨some 3, (.assign (.tmp 17)), none⟩])
 (.seq (.reg [⟨some 18, (.move (.tmp 3)), none⟩,
  ⟨some 19, (.binOp .neq 35 (.tmp 18) (.const (.int .i64 0)) 35), none⟩])
 (.cond (.tmp 19) (.seq (.reg [⟨some 20, (.move (.tmp 3)), none⟩,
  ⟨some 2, (.assign (.tmp 20)), none⟩])
 .ret) .skip)))
 (.seqL (.seq (.reg [⟨some 21, (.fieldAddr 80 (.tmp 1) 1), none⟩,
  ⟨some 22, (.load 78 (.tmp 21)), none⟩,
  ⟨some 23, (.call { callee := (.builtin .len), args := #[(.tmp 22)], argTypes := #[78] }), none⟩,
  ⟨some 24, (.move (.const (.int .i64 0))), none⟩])
 (.block 0 (.loop b58_1)))
 c58_3))))
theorem fd58 : FnD Try.prog 58 95 [(.tmp 2)] c58 := ⟨⟨Try.f58, Try.f58.body.getD .skip, Try.func58, by kernel_rfl, by kernel_rfl, by kernel_rfl, by kernel_rfl⟩⟩
/-! f59 triforium/evaluate.tabled -/
def b59_1 : ACode := (.seq (.reg [⟨some 14, (.binOp .lss 3 (.tmp 13) (.tmp 12) 3), none⟩])
 (.seq (.cond (.tmp 14) .skip (.exit 0))
 (.seq (.block 1 (.seq (.reg [⟨some 15, (.move (.tmp 13)), none⟩,
  ⟨some 4, (.assign (.tmp 15)), none⟩])
 (.dreg (.tk 0 ⟨some 16, (.fieldAddr 115 (.tmp 3) 0), none⟩
  (.tk 1 ⟨some 17, (.load 112 (.tmp 16)), none⟩
  (.tk 2 ⟨some 18, (.fieldAddr 80 (.tmp 1) 1), none⟩
  (.tk 3 ⟨some 19, (.load 78 (.tmp 18)), none⟩
  (.tk 4 ⟨some 20, (.move (.tmp 4)), none⟩
  (.tk 5 ⟨some 21, (.indexAddr 78 (.tmp 19) (.tmp 20)), none⟩
  (.tk 6 ⟨some 22, (.fieldAddr 40 (.tmp 21) 0), none⟩
  (.tk 7 ⟨some 23, (.load 9 (.tmp 22)), none⟩
  (.tk 8 ⟨some 24, (.fieldAddr 80 (.tmp 1) 1), none⟩
  (.tk 9 ⟨some 25, (.load 78 (.tmp 24)), none⟩
  (.tk 10 ⟨some 26, (.move (.tmp 4)), none⟩
  (.tk 11 ⟨some 27, (.indexAddr 78 (.tmp 25) (.tmp 26)), none⟩
  .fin)))))))))))) [⟨none, (.mapUpdate 112 (.tmp 17) (.tmp 23) (.tmp 27)), none⟩])))
 (.reg [⟨some 28, (.binOp .add 3 (.tmp 13) (.const (.int .i64 1)) 3), none⟩,
  ⟨some 13, (.move (.tmp 28)), none⟩]))))
def b59_2 : ACode := (.seq (.reg [⟨some 33, (.binOp .lss 3 (.tmp 32) (.tmp 31) 3), none⟩])
 (.seq (.cond (.tmp 33) .skip (.exit 2))
 (.seq (.block 3 (.seq (.reg [⟨some 34, (.indexAddr 77 (.tmp 30) (.tmp 32)), none⟩,
  ⟨some 35, (.load 91 (.tmp 34)), none⟩,
  ⟨some 6, (.alloc 91), none⟩,
  ⟨none, (.store 91 (.tmp 6) (.tmp 35)), none⟩])
 (.reg [⟨some 36, (.fieldAddr 115 (.tmp 3) 1), none⟩,
  ⟨some 37, (.load 113 (.tmp 36)), none⟩,
  ⟨some 38, (.fieldAddr 91 (.tmp 6) 0), none⟩,
  ⟨some 39, (.load 9 (.tmp 38)), none⟩,
  ⟨some 40, (.fieldAddr 91 (.tmp 6) 1), none⟩,
  ⟨some 41, (.load 3 (.tmp 40)), none⟩,
  ⟨none, (.mapUpdate 113 (.tmp 37) (.tmp 39) (.tmp 41)), none⟩])))
 (.reg [⟨some 42, (.binOp .add 3 (.tmp 32) (.const (.int .i64 1)) 3), none⟩,
  ⟨some 32, (.move (.tmp 42)), none⟩]))))
def c59_1 : ACode := (.seq (.reg [⟨some 43, (.load 115 (.tmp 3)), none⟩,
  ⟨none, (.store 115 (.tmp 2) (.tmp 43)), none⟩])
 .ret)
def c59_2 : ACode := (.seqL (.seq (.reg [⟨some 29, (.fieldAddr 80 (.tmp 1) 0), none⟩,
  ⟨some 30, (.load 77 (.tmp 29)), none⟩,
  ⟨some 31, (.call { callee := (.builtin .len), args := #[(.tmp 30)], argTypes := #[77] }), none⟩,
  ⟨some 32, (.move (.const (.int .i64 0))), none⟩])
 (.block 2 (.loop b59_2)))
 c59_1)
def c59 : ACode := (.seq (.reg [⟨some 1, (.box 80 (.tmp 0)), none⟩,
  ⟨some 2, (.alloc 115), none⟩])
 (.seq (.reg [⟨some 7, (.makeMap 112 none), none⟩,
  ⟨some 8, (.makeMap 113 none), none⟩,
  ⟨some 9, (.build 115 #[(0, (.tmp 7)), (1, (.tmp 8))]), none⟩,
  ⟨some 3, (.alloc 115), none⟩,
  ⟨none, (.store 115 (.tmp 3) (.tmp 9)), none⟩])
 (.seqL (.seq (.reg [⟨some 10, (.fieldAddr 80 (.tmp 1) 1), none⟩,
  ⟨some 11, (.load 78 (.tmp 10)), none⟩,
  ⟨some 12, (.call { callee := (.builtin .len), args := #[(.tmp 11)], argTypes := #[78] }), none⟩,
  ⟨some 13, (.move (.const (.int .i64 0))), none⟩])
 (.block 0 (.loop b59_1)))
 c59_2)))
theorem fd59 : FnD Try.prog 59 44 [(.cell 2 115)] c59 := ⟨⟨Try.f59, Try.f59.body.getD .skip, Try.func59, by kernel_rfl, by kernel_rfl, by kernel_rfl, by kernel_rfl⟩⟩
/-! f60 (triforium/evaluate.tables).shaped -/
def b60_1 : ACode := (.seq (.reg [⟨some 98, (.binOp .lss 3 (.tmp 97) (.tmp 96) 3), none⟩])
 (.seq (.cond (.tmp 98) .skip (.exit 2))
 (.seq (.block 3 (.seq (.reg [⟨some 99, (.indexAddr 32 (.tmp 95) (.tmp 97)), none⟩,
  ⟨some 100, (.load 34 (.tmp 99)), none⟩,
  ⟨some 12, (.alloc 34), none⟩,
  ⟨none, (.store 34 (.tmp 12) (.tmp 100)), none⟩])
 (.seq (.reg [⟨some 101, (.load 115 (.tmp 3)), none⟩,
  ⟨some 102, (.load 34 (.tmp 12)), none⟩,
  ⟨some 103, (.move (.tmp 2)), none⟩,
  ⟨some 104, (.call { callee := (.value (.func 60)), args := #[(.tmp 101), (.tmp 102), (.tmp 103)], argTypes := #[115, 34, 52] }), none⟩,
  ⟨some 13, (.assign (.tmp 104)), none⟩])
 (.seq (.reg [⟨some 105, (.move (.tmp 13)), none⟩,
  ⟨some 106, (.binOp .neq 35 (.tmp 105) (.const (.int .i64 0)) 35), none⟩])
 (.cond (.tmp 106) (.seq (.reg [⟨some 107, (.move (.tmp 13)), none⟩,
  ⟨some 6, (.assign (.tmp 107)), none⟩])
 .ret) .skip)))))
 (.reg [⟨some 108, (.binOp .add 3 (.tmp 97) (.const (.int .i64 1)) 3), none⟩,
  ⟨some 97, (.move (.tmp 108)), none⟩]))))
def c60_1 : ACode := (.seq (.reg [⟨some 6, (.assign (.const (.int .i64 0))), none⟩])
 .ret)
def c60 : ACode := (.seq (.reg [⟨some 3, (.box 115 (.tmp 0)), none⟩,
  ⟨some 4, (.box 34 (.tmp 1)), none⟩,
  ⟨some 6, (.assign (.const (.int .i64 0))), none⟩])
 (.seq (.dreg (.tk 0 ⟨some 14, (.fieldAddr 34 (.tmp 4) 2), none⟩
  (.tk 1 ⟨some 15, (.load 32 (.tmp 14)), none⟩
  (.tk 2 ⟨some 16, (.call { callee := (.builtin .len), args := #[(.tmp 15)], argTypes := #[32] }), none⟩
  (.tk 3 ⟨some 17, (.fieldAddr 34 (.tmp 4) 1), none⟩
  (.tk 4 ⟨some 18, (.load 9 (.tmp 17)), none⟩
  (.tk 5 ⟨some 19, (.binOp .neq 9 (.tmp 18) (.const (.string { data := #[] })) 9), none⟩
  (.tk 6 ⟨some 7, (.assign (.tmp 16)), none⟩
  .fin))))))) [⟨some 8, (.assign (.tmp 19)), none⟩])
 (.seq (.seq (.reg [⟨some 20, (.fieldAddr 34 (.tmp 4) 0), none⟩,
  ⟨some 21, (.load 3 (.tmp 20)), none⟩])
 (.block 0 (.seq (.seq (.reg [⟨some 23, (.binOp .eql 3 (.tmp 21) (.const (.int .i64 1)) 3), none⟩,
  ⟨some 22, (.assign (.tmp 23)), none⟩])
 (.cond (.tmp 22) .skip (.reg [⟨some 24, (.binOp .eql 3 (.tmp 21) (.const (.int .i64 2)) 3), none⟩,
  ⟨some 22, (.assign (.tmp 24)), none⟩])))
 (.cond (.tmp 22) (.seq (.reg [⟨some 25, (.move (.tmp 7)), none⟩,
  ⟨some 26, (.binOp .gtr 3 (.tmp 25) (.const (.int .i64 0)) 3), none⟩,
  ⟨some 27, (.move (.tmp 26)), none⟩,
  ⟨some 28, (.move (.tmp 8)), some (27, false)⟩,
  ⟨some 29, (.unOp .not 4 (.tmp 28)), some (27, false)⟩,
  ⟨some 30, (.pick (.tmp 27) (.const (.bool true)) (.tmp 29)), none⟩])
 (.cond (.tmp 30) (.seq (.reg [⟨some 6, (.assign (.const (.int .i64 2))), none⟩])
 .ret) .skip)) (.seq (.reg [⟨some 32, (.binOp .eql 3 (.tmp 21) (.const (.int .i64 5)) 3), none⟩,
  ⟨some 31, (.assign (.tmp 32)), none⟩])
 (.cond (.tmp 31) (.seq (.reg [⟨some 33, (.move (.tmp 7)), none⟩,
  ⟨some 34, (.binOp .neq 3 (.tmp 33) (.const (.int .i64 1)) 3), none⟩,
  ⟨some 35, (.move (.tmp 34)), none⟩,
  ⟨some 36, (.move (.tmp 8)), some (35, false)⟩,
  ⟨some 37, (.unOp .not 4 (.tmp 36)), some (35, false)⟩,
  ⟨some 38, (.pick (.tmp 35) (.const (.bool true)) (.tmp 37)), none⟩])
 (.cond (.tmp 38) (.seq (.reg [⟨some 6, (.assign (.const (.int .i64 2))), none⟩])
 .ret) .skip)) (.seq (.reg [⟨some 40, (.binOp .eql 3 (.tmp 21) (.const (.int .i64 4)) 3), none⟩,
  ⟨some 39, (.assign (.tmp 40)), none⟩])
 (.cond (.tmp 39) (.seq (.reg [⟨some 41, (.move (.tmp 7)), none⟩,
  ⟨some 42, (.binOp .lss 3 (.tmp 41) (.const (.int .i64 2)) 3), none⟩,
  ⟨some 43, (.move (.tmp 42)), none⟩,
  ⟨some 44, (.move (.tmp 8)), some (43, false)⟩,
  ⟨some 45, (.pick (.tmp 43) (.const (.bool true)) (.tmp 44)), none⟩])
 (.cond (.tmp 45) (.seq (.reg [⟨some 6, (.assign (.const (.int .i64 2))), none⟩])
 .ret) .skip)) (.seq (.reg [⟨some 47, (.binOp .eql 3 (.tmp 21) (.const (.int .i64 3)) 3), none⟩,
  ⟨some 46, (.assign (.tmp 47)), none⟩])
 (.cond (.tmp 46) (.seq (.reg [⟨some 48, (.move (.tmp 8)), none⟩,
  ⟨some 49, (.unOp .not 4 (.tmp 48)), none⟩])
 (.cond (.tmp 49) (.seq (.reg [⟨some 6, (.assign (.const (.int .i64 2))), none⟩])
 .ret) .skip)) (.seq (.reg [⟨some 6, (.assign (.const (.int .i64 2))), none⟩])
 .ret)))))))))))
 (.seq (.seq (.reg [⟨some 50, (.fieldAddr 34 (.tmp 4) 0), none⟩,
  ⟨some 51, (.load 3 (.tmp 50)), none⟩])
 (.block 1 (.seq (.reg [⟨some 53, (.binOp .eql 3 (.tmp 51) (.const (.int .i64 2)) 3), none⟩,
  ⟨some 52, (.assign (.tmp 53)), none⟩])
 (.cond (.tmp 52) (.seq (.reg [⟨some 54, (.fieldAddr 115 (.tmp 3) 0), none⟩,
  ⟨some 55, (.load 112 (.tmp 54)), none⟩,
  ⟨some 56, (.fieldAddr 34 (.tmp 4) 1), none⟩,
  ⟨some 57, (.load 9 (.tmp 56)), none⟩,
  ⟨some 58, (.lookup 112 (.tmp 55) (.tmp 57) false), none⟩,
  ⟨some 59, (.binOp .eql 156 (.tmp 58) (.const (.pointer none)) 156), none⟩])
 (.cond (.tmp 59) (.seq (.reg [⟨some 6, (.assign (.const (.int .i64 9))), none⟩])
 .ret) .skip)) (.seq (.reg [⟨some 61, (.binOp .eql 3 (.tmp 51) (.const (.int .i64 3)) 3), none⟩,
  ⟨some 60, (.assign (.tmp 61)), none⟩])
 (.cond (.tmp 60) (.seq (.reg [⟨some 63, (.fieldAddr 115 (.tmp 3) 1), none⟩,
  ⟨some 64, (.load 113 (.tmp 63)), none⟩,
  ⟨some 65, (.fieldAddr 34 (.tmp 4) 1), none⟩,
  ⟨some 66, (.load 9 (.tmp 65)), none⟩,
  ⟨some 67, (.lookup 113 (.tmp 64) (.tmp 66) true), none⟩,
  ⟨some 62, (.move (.tmp 67)), none⟩,
  ⟨some 68, (.extract (.tmp 62) 0), none⟩,
  ⟨some 69, (.extract (.tmp 62) 1), none⟩,
  ⟨some 9, (.assign (.tmp 68)), none⟩,
  ⟨some 10, (.assign (.tmp 69)), none⟩])
 (.seq (.seq (.reg [⟨some 70, (.move (.tmp 10)), none⟩,
  ⟨some 71, (.unOp .not 4 (.tmp 70)), none⟩])
 (.cond (.tmp 71) (.seq (.reg [⟨some 6, (.assign (.const (.int .i64 9))), none⟩])
 .ret) .skip))
 (.seq (.reg [⟨some 72, (.move (.tmp 7)), none⟩,
  ⟨some 73, (.move (.tmp 9)), none⟩,
  ⟨some 74, (.binOp .neq 3 (.tmp 72) (.tmp 73) 3), none⟩])
 (.cond (.tmp 74) (.seq (.reg [⟨some 6, (.assign (.const (.int .i64 5))), none⟩])
 .ret) .skip)))) (.seq (.reg [⟨some 76, (.binOp .eql 3 (.tmp 51) (.const (.int .i64 1)) 3), none⟩,
  ⟨some 75, (.assign (.tmp 76)), none⟩])
 (.cond (.tmp 75) (.seq (.reg [⟨some 77, (.move (.tmp 2)), none⟩,
  ⟨some 78, (.fieldAddr 34 (.tmp 4) 1), none⟩,
  ⟨some 79, (.load 9 (.tmp 78)), none⟩,
  ⟨some 80, (.call { callee := (.value (.func 82)), args := #[(.tmp 77), (.tmp 79)], argTypes := #[52, 9] }), none⟩,
  ⟨some 81, (.unOp .not 4 (.tmp 80)), none⟩])
 (.cond (.tmp 81) (.seq (.reg [⟨some 6, (.assign (.const (.int .i64 422))), none⟩])
 .ret) .skip)) (.seq (.reg [⟨some 83, (.binOp .eql 3 (.tmp 51) (.const (.int .i64 5)) 3), none⟩,
  ⟨some 82, (.assign (.tmp 83)), none⟩])
 (.cond (.tmp 82) (.dreg (.tk 0 ⟨some 84, (.move (.tmp 2)), none⟩
  (.tk 1 ⟨some 85, (.move (.tmp 2)), none⟩
  (.tk 2 ⟨some 86, (.call { callee := (.builtin .len), args := #[(.tmp 85)], argTypes := #[52] }), none⟩
  (.tk 3 ⟨some 87, (.move (.tmp 2)), none⟩
  (.tk 4 ⟨some 88, (.call { callee := (.builtin .len), args := #[(.tmp 87)], argTypes := #[52] }), none⟩
  (.tk 5 ⟨some 89, (.slice 52 (.tmp 84) none (some (.tmp 86)) (some (.tmp 88))), none⟩
  (.tk 6 ⟨some 90, (.fieldAddr 34 (.tmp 4) 1), none⟩
  (.tk 7 ⟨some 91, (.load 9 (.tmp 90)), none⟩
  (.tk 8 ⟨some 92, (.buildSlice 52 1 #[(0, (.tmp 91))]), none⟩
  .fin))))))))) [⟨some 93, (.call { callee := (.builtin .append), args := #[(.tmp 89), (.tmp 92)], argTypes := #[52, 52] }), none⟩,
  ⟨some 2, (.assign (.tmp 93)), none⟩]) .skip))))))))))
 (.seqL (.seq (.reg [⟨some 94, (.fieldAddr 34 (.tmp 4) 2), none⟩,
  ⟨some 95, (.load 32 (.tmp 94)), none⟩,
  ⟨some 96, (.call { callee := (.builtin .len), args := #[(.tmp 95)], argTypes := #[32] }), none⟩,
  ⟨some 97, (.move (.const (.int .i64 0))), none⟩])
 (.block 2 (.loop b60_1)))
 c60_1)))))
theorem fd60 : FnD Try.prog 60 109 [(.tmp 6)] c60 := ⟨⟨Try.f60, Try.f60.body.getD .skip, Try.func60, by kernel_rfl, by kernel_rfl, by kernel_rfl, by kernel_rfl⟩⟩
/-! f61 (*triforium/evaluate.machine).eval$1 -/
def b61_1 : ACode := (.seq (.reg [⟨some 11, (.binOp .lss 3 (.tmp 10) (.tmp 9) 3), none⟩])
 (.seq (.cond (.tmp 11) .skip (.exit 0))
 (.seq (.block 1 (.seq (.reg [⟨some 12, (.indexAddr 32 (.tmp 8) (.tmp 10)), none⟩,
  ⟨some 13, (.load 34 (.tmp 12)), none⟩,
  ⟨some 6, (.alloc 34), none⟩,
  ⟨none, (.store 34 (.tmp 6) (.tmp 13)), none⟩])
 (.reg [⟨some 14, (.move (.tmp 4)), none⟩,
  ⟨some 15, (.load 121 (.tmp 1)), none⟩,
  ⟨some 16, (.load 34 (.tmp 6)), none⟩,
  ⟨some 17, (.load 150 (.tmp 2)), none⟩,
  ⟨some 18, (.call { callee := (.value (.func 45)), args := #[(.tmp 15), (.tmp 16), (.tmp 17)], argTypes := #[121, 34, 150] }), none⟩,
  ⟨some 19, (.buildSlice 151 1 #[(0, (.tmp 18))]), none⟩,
  ⟨some 20, (.call { callee := (.builtin .append), args := #[(.tmp 14), (.tmp 19)], argTypes := #[151, 151] }), none⟩,
  ⟨some 4, (.assign (.tmp 20)), none⟩])))
 (.reg [⟨some 21, (.binOp .add 3 (.tmp 10) (.const (.int .i64 1)) 3), none⟩,
  ⟨some 10, (.move (.tmp 21)), none⟩]))))
def c61_1 : ACode := (.seq (.reg [⟨some 22, (.move (.tmp 4)), none⟩,
  ⟨some 3, (.assign (.tmp 22)), none⟩])
 .ret)
def c61 : ACode := (.seq (.reg [⟨some 3, (.assign (.const (.slice none 0 0))), none⟩])
 (.seq (.reg [⟨some 4, (.assign (.const (.slice none 0 0))), none⟩])
 (.seqL (.seq (.reg [⟨some 7, (.fieldAddr 34 (.tmp 0) 2), none⟩,
  ⟨some 8, (.load 32 (.tmp 7)), none⟩,
  ⟨some 9, (.call { callee := (.builtin .len), args := #[(.tmp 8)], argTypes := #[32] }), none⟩,
  ⟨some 10, (.move (.const (.int .i64 0))), none⟩])
 (.block 0 (.loop b61_1)))
 c61_1)))
theorem fd61 : FnD Try.prog 61 23 [(.tmp 3)] c61 := ⟨⟨Try.f61, Try.f61.body.getD .skip, Try.func61, by kernel_rfl, by kernel_rfl, by kernel_rfl, by kernel_rfl⟩⟩
/-! f62 (*triforium/evaluate.scope).find -/
def b62_1 : ACode := (.seq (.seq (.reg [⟨some 5, (.move (.tmp 0)), none⟩,
  ⟨some 6, (.binOp .neq 150 (.tmp 5) (.const (.pointer none)) 150), none⟩])
 (.cond (.tmp 6) .skip (.exit 0)))
 (.seq (.block 1 (.seq (.reg [⟨some 11, (.move (.tmp 0)), none⟩,
  ⟨some 12, (.nilCheck (.tmp 11)), none⟩,
  ⟨some 13, (.fieldAddr 180 (.tmp 12) 0), none⟩,
  ⟨some 14, (.load 9 (.tmp 13)), none⟩,
  ⟨some 15, (.move (.tmp 1)), none⟩,
  ⟨some 16, (.binOp .eql 9 (.tmp 14) (.tmp 15) 9), none⟩])
 (.cond (.tmp 16) (.seq (.reg [⟨some 17, (.move (.tmp 0)), none⟩,
  ⟨some 18, (.nilCheck (.tmp 17)), none⟩,
  ⟨some 19, (.fieldAddr 180 (.tmp 18) 1), none⟩,
  ⟨some 20, (.load 125 (.tmp 19)), none⟩,
  ⟨some 4, (.assign (.tmp 20)), none⟩])
 .ret) .skip)))
 (.reg [⟨some 7, (.move (.tmp 0)), none⟩,
  ⟨some 8, (.nilCheck (.tmp 7)), none⟩,
  ⟨some 9, (.fieldAddr 180 (.tmp 8) 2), none⟩,
  ⟨some 10, (.load 150 (.tmp 9)), none⟩,
  ⟨some 0, (.assign (.tmp 10)), none⟩])))
def c62_1 : ACode := (.seq (.reg [⟨some 4, (.assign (.const .nilIface)), none⟩])
 .ret)
def c62 : ACode := (.seq (.reg [⟨some 4, (.assign (.const .nilIface)), none⟩])
 (.seqL (.block 0 (.loop b62_1))
 c62_1))
theorem fd62 : FnD Try.prog 62 21 [(.tmp 4)] c62 := ⟨⟨Try.f62, Try.f62.body.getD .skip, Try.func62, by kernel_rfl, by kernel_rfl, by kernel_rfl, by kernel_rfl⟩⟩
/-! f63 (*triforium/evaluate.machine).call -/
def b63_1 : ACode := (.seq (.reg [⟨some 30, (.binOp .lss 3 (.tmp 29) (.tmp 28) 3), none⟩])
 (.seq (.cond (.tmp 30) .skip (.exit 2))
 (.seq (.block 3 (.seq (.reg [⟨some 31, (.move (.tmp 29)), none⟩,
  ⟨some 32, (.indexAddr 55 (.tmp 27) (.tmp 29)), none⟩,
  ⟨some 33, (.load 57 (.tmp 32)), none⟩,
  ⟨some 11, (.alloc 57), none⟩,
  ⟨some 10, (.assign (.tmp 31)), none⟩,
  ⟨none, (.store 57 (.tmp 11) (.tmp 33)), none⟩])
 (.seq (.dreg (.tk 0 ⟨some 35, (.load 57 (.tmp 11)), none⟩
  (.tk 1 ⟨some 36, (.move (.tmp 2)), none⟩
  (.tk 2 ⟨some 37, (.move (.tmp 10)), none⟩
  (.tk 3 ⟨some 38, (.indexAddr 151 (.tmp 36) (.tmp 37)), none⟩
  (.tk 4 ⟨some 39, (.load 125 (.tmp 38)), none⟩
  (.tk 5 ⟨some 40, (.move (.tmp 9)), none⟩
  (.one [6, 7, 8, 9, 10, 11] ⟨some 41, (.call { callee := (.value (.func 84)), args := #[(.tmp 35), (.tmp 39), (.tmp 40)], argTypes := #[57, 125, 150] }), none⟩
  (.tk 7 ⟨some 34, (.move (.tmp 41)), none⟩
  (.tk 8 ⟨some 42, (.extract (.tmp 34) 0), none⟩
  (.tk 9 ⟨some 43, (.extract (.tmp 34) 1), none⟩
  (.tk 10 ⟨some 12, (.assign (.tmp 42)), none⟩
  .fin))))))))))) [⟨some 13, (.assign (.tmp 43)), none⟩])
 (.seq (.seq (.reg [⟨some 44, (.move (.tmp 13)), none⟩,
  ⟨some 45, (.unOp .not 4 (.tmp 44)), none⟩])
 (.cond (.tmp 45) (.exit 1) .skip))
 (.reg [⟨some 46, (.move (.tmp 12)), none⟩,
  ⟨some 9, (.assign (.tmp 46)), none⟩])))))
 (.reg [⟨some 47, (.binOp .add 3 (.tmp 29) (.const (.int .i64 1)) 3), none⟩,
  ⟨some 29, (.move (.tmp 47)), none⟩]))))
def c63_1 : ACode := (.seq (.reg [⟨some 48, (.move (.tmp 0)), none⟩,
  ⟨some 49, (.fieldAddr 93 (.tmp 8) 1), none⟩,
  ⟨some 50, (.load 34 (.tmp 49)), none⟩,
  ⟨some 51, (.move (.tmp 9)), none⟩,
  ⟨some 52, (.call { callee := (.value (.func 85)), args := #[(.tmp 48), (.tmp 50), (.tmp 51)], argTypes := #[121, 34, 150] }), none⟩,
  ⟨some 6, (.assign (.tmp 52)), none⟩])
 .ret)
def c63_2 : ACode := (.reg [⟨some 53, (.binOp .add 3 (.tmp 22) (.const (.int .i64 1)) 3), none⟩,
  ⟨some 22, (.move (.tmp 53)), none⟩])
def b63_2 : ACode := (.seq (.reg [⟨some 23, (.binOp .lss 3 (.tmp 22) (.tmp 21) 3), none⟩])
 (.seq (.cond (.tmp 23) .skip (.exit 0))
 (.seqL (.block 1 (.seq (.reg [⟨some 24, (.indexAddr 38 (.tmp 20) (.tmp 22)), none⟩,
  ⟨some 25, (.load 93 (.tmp 24)), none⟩,
  ⟨some 8, (.alloc 93), none⟩,
  ⟨none, (.store 93 (.tmp 8) (.tmp 25)), none⟩])
 (.seq (.reg [⟨some 9, (.assign (.const (.pointer none))), none⟩])
 (.seqL (.seq (.reg [⟨some 26, (.fieldAddr 93 (.tmp 8) 0), none⟩,
  ⟨some 27, (.load 55 (.tmp 26)), none⟩,
  ⟨some 28, (.call { callee := (.builtin .len), args := #[(.tmp 27)], argTypes := #[55] }), none⟩,
  ⟨some 29, (.move (.const (.int .i64 0))), none⟩])
 (.block 2 (.loop b63_1)))
 c63_1))))
 c63_2)))
def c63_3 : ACode := (.reg [⟨some 54, (.build 119 #[(0, (.const (.int .i64 420)))]), none⟩,
  ⟨some 55, (.makeInterface 119 (.tmp 54)), none⟩,
  ⟨none, (.panic (.tmp 55)), none⟩])
def c63 : ACode := (.seq (.reg [⟨some 6, (.assign (.const .nilIface)), none⟩])
 (.scope (.seq (.reg [⟨some 14, (.move (.tmp 0)), none⟩,
  ⟨some 15, (.move (.tmp 2)), none⟩,
  ⟨some 16, (.call { callee := (.value (.func 83)), args := #[(.tmp 14), (.tmp 15)], argTypes := #[121, 151] }), none⟩])
 (.seq .skip
 (.seqL (.seq (.reg [⟨some 17, (.move (.tmp 1)), none⟩,
  ⟨some 18, (.nilCheck (.tmp 17)), none⟩,
  ⟨some 19, (.fieldAddr 40 (.tmp 18) 2), none⟩,
  ⟨some 20, (.load 38 (.tmp 19)), none⟩,
  ⟨some 21, (.call { callee := (.builtin .len), args := #[(.tmp 20)], argTypes := #[38] }), none⟩,
  ⟨some 22, (.move (.const (.int .i64 0))), none⟩])
 (.block 0 (.loop b63_2)))
 c63_3)))))
theorem fd63 : FnD Try.prog 63 56 [(.tmp 6)] c63 := ⟨⟨Try.f63, Try.f63.body.getD .skip, Try.func63, by kernel_rfl, by kernel_rfl, by kernel_rfl, by kernel_rfl⟩⟩
/-! f64 (*triforium/evaluate.machine).apply -/
def b64_1 : ACode := (.seq (.seq (.reg [⟨some 12, (.move (.tmp 2)), none⟩,
  ⟨some 13, (.call { callee := (.builtin .len), args := #[(.tmp 12)], argTypes := #[151] }), none⟩,
  ⟨some 14, (.binOp .gtr 3 (.tmp 13) (.const (.int .i64 0)) 3), none⟩])
 (.cond (.tmp 14) .skip (.exit 0)))
 (.block 1 (.seq (.reg [⟨some 15, (.move (.tmp 1)), none⟩])
 (.block 2 (.seq (.reg [⟨some 18, (.typeAssert (.tmp 15) 125 155 true), none⟩,
  ⟨some 19, (.extract (.tmp 18) 1), none⟩,
  ⟨some 20, (.extract (.tmp 18) 0), none⟩])
 (.cond (.tmp 19) (.seq (.reg [⟨some 7, (.alloc 155), none⟩,
  ⟨none, (.store 155 (.tmp 7) (.tmp 20)), none⟩])
 (.seq (.reg [⟨some 21, (.move (.tmp 0)), none⟩,
  ⟨some 22, (.move (.tmp 2)), none⟩,
  ⟨some 23, (.indexAddr 151 (.tmp 22) (.const (.int .i64 0))), none⟩,
  ⟨some 24, (.load 125 (.tmp 23)), none⟩,
  ⟨some 25, (.buildSlice 151 1 #[(0, (.tmp 24))]), none⟩,
  ⟨some 26, (.call { callee := (.value (.func 83)), args := #[(.tmp 21), (.tmp 25)], argTypes := #[121, 151] }), none⟩])
 (.seq (.dreg (.tk 0 ⟨some 27, (.move (.tmp 0)), none⟩
  (.tk 1 ⟨some 28, (.fieldAddr 155 (.tmp 7) 0), none⟩
  (.tk 2 ⟨some 29, (.fieldAddr 34 (.tmp 28) 2), none⟩
  (.tk 3 ⟨some 30, (.load 32 (.tmp 29)), none⟩
  (.tk 4 ⟨some 31, (.indexAddr 32 (.tmp 30) (.const (.int .i64 0))), none⟩
  (.tk 5 ⟨some 32, (.load 34 (.tmp 31)), none⟩
  (.tk 6 ⟨some 33, (.fieldAddr 155 (.tmp 7) 0), none⟩
  (.tk 7 ⟨some 34, (.fieldAddr 34 (.tmp 33) 1), none⟩
  (.tk 8 ⟨some 35, (.load 9 (.tmp 34)), none⟩
  (.tk 9 ⟨some 36, (.move (.tmp 2)), none⟩
  (.tk 10 ⟨some 37, (.indexAddr 151 (.tmp 36) (.const (.int .i64 0))), none⟩
  (.tk 11 ⟨some 38, (.load 125 (.tmp 37)), none⟩
  (.tk 12 ⟨some 39, (.fieldAddr 155 (.tmp 7) 1), none⟩
  (.tk 13 ⟨some 40, (.load 150 (.tmp 39)), none⟩
  (.tk 14 ⟨some 41, (.build 180 #[(0, (.tmp 35)), (1, (.tmp 38)), (2, (.tmp 40))]), none⟩
  (.one [0, 1, 2, 3, 4, 5, 15, 16, 17] ⟨some 42, (.box 180 (.tmp 41)), none⟩
  .fin)))))))))))))))) [⟨some 43, (.call { callee := (.value (.func 85)), args := #[(.tmp 27), (.tmp 32), (.tmp 42)], argTypes := #[121, 34, 150] }), none⟩,
  ⟨some 1, (.assign (.tmp 43)), none⟩])
 (.reg [⟨some 44, (.move (.tmp 2)), none⟩,
  ⟨some 45, (.slice 151 (.tmp 44) (some (.const (.int .i64 1))) none none), none⟩,
  ⟨some 2, (.assign (.tmp 45)), none⟩])))) (.seq (.reg [⟨some 46, (.typeAssert (.tmp 15) 125 158 true), none⟩,
  ⟨some 47, (.extract (.tmp 46) 1), none⟩,
  ⟨some 48, (.extract (.tmp 46) 0), none⟩])
 (.cond (.tmp 47) (.seq (.reg [⟨some 8, (.alloc 158), none⟩,
  ⟨none, (.store 158 (.tmp 8) (.tmp 48)), none⟩])
 (.seq (.dreg (.tk 0 ⟨some 49, (.fieldAddr 158 (.tmp 8) 0), none⟩
  (.tk 1 ⟨some 50, (.load 156 (.tmp 49)), none⟩
  (.tk 2 ⟨some 51, (.nilCheck (.tmp 50)), none⟩
  (.tk 3 ⟨some 52, (.fieldAddr 40 (.tmp 51) 1), none⟩
  (.tk 4 ⟨some 53, (.load 3 (.tmp 52)), none⟩
  (.tk 5 ⟨some 54, (.fieldAddr 158 (.tmp 8) 1), none⟩
  (.tk 6 ⟨some 55, (.load 151 (.tmp 54)), none⟩
  (.tk 7 ⟨some 56, (.call { callee := (.builtin .len), args := #[(.tmp 55)], argTypes := #[151] }), none⟩
  .fin)))))))) [⟨some 57, (.binOp .sub 3 (.tmp 53) (.tmp 56) 3), none⟩,
  ⟨some 9, (.assign (.tmp 57)), none⟩])
 (.seq (.dreg (.tk 0 ⟨some 58, (.fieldAddr 158 (.tmp 8) 1), none⟩
  (.tk 1 ⟨some 59, (.load 151 (.tmp 58)), none⟩
  (.tk 3 ⟨some 61, (.move (.tmp 2)), none⟩
  (.tk 4 ⟨some 62, (.move (.tmp 9)), none⟩
  (.tk 5 ⟨some 63, (.move (.tmp 2)), none⟩
  (.tk 6 ⟨some 64, (.call { callee := (.builtin .len), args := #[(.tmp 63)], argTypes := #[151] }), none⟩
  (.tk 7 ⟨some 65, (.call { callee := (.builtin .min), args := #[(.tmp 62), (.tmp 64)], argTypes := #[3, 3] }), none⟩
  (.tk 8 ⟨some 66, (.slice 151 (.tmp 61) none (some (.tmp 65)) none), none⟩
  (.one [2, 3, 4, 5, 6, 7, 8, 9, 10] ⟨some 60, (.call { callee := (.value (.func 86)), args := #[(.tmp 59)], argTypes := #[151] }), none⟩
  .fin))))))))) [⟨some 67, (.call { callee := (.builtin .append), args := #[(.tmp 60), (.tmp 66)], argTypes := #[151, 151] }), none⟩,
  ⟨some 10, (.assign (.tmp 67)), none⟩])
 (.seq (.seq (.reg [⟨some 68, (.move (.tmp 2)), none⟩,
  ⟨some 69, (.call { callee := (.builtin .len), args := #[(.tmp 68)], argTypes := #[151] }), none⟩,
  ⟨some 70, (.move (.tmp 9)), none⟩,
  ⟨some 71, (.binOp .lss 3 (.tmp 69) (.tmp 70) 3), none⟩])
 (.cond (.tmp 71) (.seq (.reg [⟨some 72, (.fieldAddr 158 (.tmp 8) 0), none⟩,
  ⟨some 73, (.load 156 (.tmp 72)), none⟩,
  ⟨some 74, (.move (.tmp 10)), none⟩,
  ⟨some 75, (.build 158 #[(0, (.tmp 73)), (1, (.tmp 74))]), none⟩,
  ⟨some 76, (.makeInterface 158 (.tmp 75)), none⟩,
  ⟨some 6, (.assign (.tmp 76)), none⟩])
 .ret) .skip))
 (.seq (.reg [⟨some 77, (.move (.tmp 0)), none⟩,
  ⟨some 78, (.fieldAddr 158 (.tmp 8) 0), none⟩,
  ⟨some 79, (.load 156 (.tmp 78)), none⟩,
  ⟨some 80, (.move (.tmp 10)), none⟩,
  ⟨some 81, (.call { callee := (.value (.func 63)), args := #[(.tmp 77), (.tmp 79), (.tmp 80)], argTypes := #[121, 156, 151] }), none⟩,
  ⟨some 1, (.assign (.tmp 81)), none⟩])
 (.reg [⟨some 82, (.move (.tmp 2)), none⟩,
  ⟨some 83, (.move (.tmp 9)), none⟩,
  ⟨some 84, (.slice 151 (.tmp 82) (some (.tmp 83)) none none), none⟩,
  ⟨some 2, (.assign (.tmp 84)), none⟩])))))) (.seq (.reg [⟨some 11, (.assign (.tmp 15)), none⟩])
 (.reg [⟨some 16, (.build 119 #[(0, (.const (.int .i64 421)))]), none⟩,
  ⟨some 17, (.makeInterface 119 (.tmp 16)), none⟩,
  ⟨none, (.panic (.tmp 17)), none⟩]))))))))))
def c64_1 : ACode := (.seq (.reg [⟨some 85, (.move (.tmp 1)), none⟩,
  ⟨some 6, (.assign (.tmp 85)), none⟩])
 .ret)
def c64 : ACode := (.seq (.reg [⟨some 6, (.assign (.const .nilIface)), none⟩])
 (.seqL (.block 0 (.loop b64_1))
 c64_1))
theorem fd64 : FnD Try.prog 64 86 [(.tmp 6)] c64 := ⟨⟨Try.f64, Try.f64.body.getD .skip, Try.func64, by kernel_rfl, by kernel_rfl, by kernel_rfl, by kernel_rfl⟩⟩
/-! f65 (*triforium/evaluate.tally).values -/
def b65_1 : ACode := (.seq (.reg [⟨some 9, (.binOp .lss 3 (.tmp 8) (.tmp 7) 3), none⟩])
 (.seq (.cond (.tmp 9) .skip (.exit 0))
 (.seq (.block 1 (.seq (.reg [⟨some 10, (.indexAddr 151 (.tmp 6) (.tmp 8)), none⟩,
  ⟨some 11, (.load 125 (.tmp 10)), none⟩,
  ⟨some 5, (.assign (.tmp 11)), none⟩])
 (.reg [⟨some 12, (.move (.tmp 0)), none⟩,
  ⟨some 13, (.move (.tmp 5)), none⟩,
  ⟨some 14, (.call { callee := (.value (.func 46)), args := #[(.tmp 12), (.tmp 13)], argTypes := #[127, 125] }), none⟩])))
 (.reg [⟨some 15, (.binOp .add 3 (.tmp 8) (.const (.int .i64 1)) 3), none⟩,
  ⟨some 8, (.move (.tmp 15)), none⟩]))))
def c65 : ACode := (.seq (.reg [⟨some 6, (.move (.tmp 1)), none⟩,
  ⟨some 7, (.call { callee := (.builtin .len), args := #[(.tmp 6)], argTypes := #[151] }), none⟩,
  ⟨some 8, (.move (.const (.int .i64 0))), none⟩])
 (.block 0 (.loop b65_1)))
theorem fd65 : FnD Try.prog 65 16 [] c65 := ⟨⟨Try.f65, Try.f65.body.getD .skip, Try.func65, by kernel_rfl, by kernel_rfl, by kernel_rfl, by kernel_rfl⟩⟩
/-! f66 (*triforium/evaluate.tally).written -/
def b66_1 : ACode := (.seq (.reg [⟨some 45, (.binOp .lss 3 (.tmp 44) (.tmp 43) 3), none⟩])
 (.seq (.cond (.tmp 45) .skip (.exit 0))
 (.seq (.block 1 (.seq (.reg [⟨some 46, (.indexAddr 32 (.tmp 42) (.tmp 44)), none⟩,
  ⟨some 47, (.load 34 (.tmp 46)), none⟩,
  ⟨some 8, (.alloc 34), none⟩,
  ⟨none, (.store 34 (.tmp 8) (.tmp 47)), none⟩])
 (.reg [⟨some 48, (.move (.tmp 0)), none⟩,
  ⟨some 49, (.load 34 (.tmp 8)), none⟩,
  ⟨some 50, (.move (.tmp 2)), none⟩,
  ⟨some 51, (.call { callee := (.value (.func 66)), args := #[(.tmp 48), (.tmp 49), (.tmp 50)], argTypes := #[127, 34, 150] }), none⟩])))
 (.reg [⟨some 52, (.binOp .add 3 (.tmp 44) (.const (.int .i64 1)) 3), none⟩,
  ⟨some 44, (.move (.tmp 52)), none⟩]))))
def c66 : ACode := (.seq (.reg [⟨some 4, (.box 34 (.tmp 1)), none⟩])
 (.seq (.seq (.reg [⟨some 9, (.move (.tmp 0)), none⟩,
  ⟨some 10, (.nilCheck (.tmp 9)), none⟩,
  ⟨some 11, (.fieldAddr 129 (.tmp 10) 0), none⟩,
  ⟨some 12, (.load 3 (.tmp 11)), none⟩,
  ⟨some 13, (.binOp .lss 3 (.tmp 12) (.const (.int .i64 0)) 3), none⟩])
 (.cond (.tmp 13) .ret .skip))
 (.seq (.seq (.reg [⟨some 14, (.fieldAddr 34 (.tmp 4) 0), none⟩,
  ⟨some 15, (.load 3 (.tmp 14)), none⟩,
  ⟨some 16, (.binOp .eql 3 (.tmp 15) (.const (.int .i64 1)) 3), none⟩])
 (.cond (.tmp 16) (.seq (.reg [⟨some 17, (.move (.tmp 2)), none⟩,
  ⟨some 18, (.fieldAddr 34 (.tmp 4) 1), none⟩,
  ⟨some 19, (.load 9 (.tmp 18)), none⟩,
  ⟨some 20, (.call { callee := (.value (.func 62)), args := #[(.tmp 17), (.tmp 19)], argTypes := #[150, 9] }), none⟩,
  ⟨some 6, (.assign (.tmp 20)), none⟩])
 (.seq (.reg [⟨some 21, (.move (.tmp 6)), none⟩,
  ⟨some 22, (.binOp .neq 125 (.tmp 21) (.const .nilIface) 125), none⟩])
 (.cond (.tmp 22) (.seq (.reg [⟨some 23, (.move (.tmp 0)), none⟩,
  ⟨some 24, (.move (.tmp 6)), none⟩,
  ⟨some 25, (.call { callee := (.value (.func 46)), args := #[(.tmp 23), (.tmp 24)], argTypes := #[127, 125] }), none⟩])
 .ret) .skip))) .skip))
 (.seq (.reg [⟨some 26, (.move (.tmp 0)), none⟩,
  ⟨some 27, (.nilCheck (.tmp 26)), none⟩,
  ⟨some 28, (.fieldAddr 129 (.tmp 27) 0), none⟩,
  ⟨some 29, (.load 3 (.tmp 28)), none⟩,
  ⟨some 30, (.binOp .sub 3 (.tmp 29) (.const (.int .i64 1)) 3), none⟩,
  ⟨some 31, (.nilCheck (.tmp 26)), none⟩,
  ⟨some 32, (.fieldAddr 129 (.tmp 31) 0), none⟩,
  ⟨none, (.store 3 (.tmp 32) (.tmp 30)), none⟩])
 (.seq (.seq (.reg [⟨some 33, (.fieldAddr 34 (.tmp 4) 0), none⟩,
  ⟨some 34, (.load 3 (.tmp 33)), none⟩,
  ⟨some 35, (.binOp .eql 3 (.tmp 34) (.const (.int .i64 5)) 3), none⟩])
 (.cond (.tmp 35) (.reg [⟨some 36, (.fieldAddr 34 (.tmp 4) 1), none⟩,
  ⟨some 37, (.load 9 (.tmp 36)), none⟩,
  ⟨some 38, (.move (.tmp 2)), none⟩,
  ⟨some 39, (.build 180 #[(0, (.tmp 37)), (1, (.const .nilIface)), (2, (.tmp 38))]), none⟩,
  ⟨some 40, (.box 180 (.tmp 39)), none⟩,
  ⟨some 2, (.assign (.tmp 40)), none⟩]) .skip))
 (.seq (.reg [⟨some 41, (.fieldAddr 34 (.tmp 4) 2), none⟩,
  ⟨some 42, (.load 32 (.tmp 41)), none⟩,
  ⟨some 43, (.call { callee := (.builtin .len), args := #[(.tmp 42)], argTypes := #[32] }), none⟩,
  ⟨some 44, (.move (.const (.int .i64 0))), none⟩])
 (.block 0 (.loop b66_1))))))))
theorem fd66 : FnD Try.prog 66 53 [] c66 := ⟨⟨Try.f66, Try.f66.body.getD .skip, Try.func66, by kernel_rfl, by kernel_rfl, by kernel_rfl, by kernel_rfl⟩⟩
/-! f67 (triforium/evaluate.tables).isValue$1 -/
/-! f68 slices.ContainsFunc[[]triforium/codegen.Expr,triforium/codegen.Expr] -/
/-! f69 (triforium/evaluate.tables).isValue$1$1 -/
/-! f70 triforium/evaluate.flat -/
/-! f71 slices.IndexFunc[[]triforium/codegen.Expr,triforium/codegen.Expr] -/
/-! f72 (triforium/evaluate.tables).step$1 -/
/-! f73 slices.Clone[[]triforium/codegen.Expr,triforium/codegen.Expr] -/
/-! f74 triforium/evaluate.applied -/
/-! f75 slices.Backward[[]triforium/evaluate.bind,triforium/evaluate.bind]$1 -/
def b75_1 : ACode := (.seq (.seq (.reg [⟨some 7, (.move (.tmp 3)), none⟩,
  ⟨some 8, (.binOp .geq 3 (.tmp 7) (.const (.int .i64 0)) 3), none⟩])
 (.cond (.tmp 8) .skip (.exit 0)))
 (.seq (.block 1 (.seq (.reg [⟨some 11, (.move (.tmp 0)), none⟩,
  ⟨some 12, (.move (.tmp 3)), none⟩,
  ⟨some 13, (.load 96 (.tmp 1)), none⟩,
  ⟨some 14, (.move (.tmp 3)), none⟩,
  ⟨some 15, (.indexAddr 96 (.tmp 13) (.tmp 14)), none⟩,
  ⟨some 16, (.load 102 (.tmp 15)), none⟩,
  ⟨some 17, (.call { callee := (.value (.tmp 11)), args := #[(.tmp 12), (.tmp 16)], argTypes := #[3, 102] }), none⟩,
  ⟨some 18, (.unOp .not 4 (.tmp 17)), none⟩])
 (.cond (.tmp 18) .ret .skip)))
 (.reg [⟨some 9, (.move (.tmp 3)), none⟩,
  ⟨some 10, (.binOp .sub 3 (.tmp 9) (.const (.int .i64 1)) 3), none⟩,
  ⟨some 3, (.assign (.tmp 10)), none⟩])))
def c75 : ACode := (.seq (.reg [⟨some 4, (.load 96 (.tmp 1)), none⟩,
  ⟨some 5, (.call { callee := (.builtin .len), args := #[(.tmp 4)], argTypes := #[96] }), none⟩,
  ⟨some 6, (.binOp .sub 3 (.tmp 5) (.const (.int .i64 1)) 3), none⟩,
  ⟨some 3, (.assign (.tmp 6)), none⟩])
 (.block 0 (.loop b75_1)))
theorem fd75 : FnD Try.prog 75 19 [] c75 := ⟨⟨Try.f75, Try.f75.body.getD .skip, Try.func75, by kernel_rfl, by kernel_rfl, by kernel_rfl, by kernel_rfl⟩⟩
/-! f76 slices.IndexFunc[[]triforium/evaluate.bind,triforium/evaluate.bind] -/
def b76_1 : ACode := (.seq (.reg [⟨some 9, (.binOp .lss 3 (.tmp 8) (.tmp 7) 3), none⟩])
 (.seq (.cond (.tmp 9) .skip (.exit 0))
 (.seq (.block 1 (.seq (.reg [⟨some 10, (.move (.tmp 8)), none⟩,
  ⟨some 5, (.assign (.tmp 10)), none⟩])
 (.seq (.reg [⟨some 11, (.move (.tmp 1)), none⟩,
  ⟨some 12, (.move (.tmp 0)), none⟩,
  ⟨some 13, (.move (.tmp 5)), none⟩,
  ⟨some 14, (.indexAddr 96 (.tmp 12) (.tmp 13)), none⟩,
  ⟨some 15, (.load 102 (.tmp 14)), none⟩,
  ⟨some 16, (.call { callee := (.value (.tmp 11)), args := #[(.tmp 15)], argTypes := #[102] }), none⟩])
 (.cond (.tmp 16) (.seq (.reg [⟨some 17, (.move (.tmp 5)), none⟩,
  ⟨some 4, (.assign (.tmp 17)), none⟩])
 .ret) .skip))))
 (.reg [⟨some 18, (.binOp .add 3 (.tmp 8) (.const (.int .i64 1)) 3), none⟩,
  ⟨some 8, (.move (.tmp 18)), none⟩]))))
def c76_1 : ACode := (.seq (.reg [⟨some 4, (.assign (.const (.int .i64 (-1)))), none⟩])
 .ret)
def c76 : ACode := (.seq (.reg [⟨some 4, (.assign (.const (.int .i64 0))), none⟩])
 (.seqL (.seq (.reg [⟨some 6, (.move (.tmp 0)), none⟩,
  ⟨some 7, (.call { callee := (.builtin .len), args := #[(.tmp 6)], argTypes := #[96] }), none⟩,
  ⟨some 8, (.move (.const (.int .i64 0))), none⟩])
 (.block 0 (.loop b76_1)))
 c76_1))
theorem fd76 : FnD Try.prog 76 19 [(.tmp 4)] c76 := ⟨⟨Try.f76, Try.f76.body.getD .skip, Try.func76, by kernel_rfl, by kernel_rfl, by kernel_rfl, by kernel_rfl⟩⟩
/-! f77 triforium/codegen.checkCons -/
def b77_1 : ACode := (.seq (.reg [⟨some 11, (.binOp .lss 3 (.tmp 10) (.tmp 9) 3), none⟩])
 (.seq (.cond (.tmp 11) .skip (.exit 0))
 (.seq (.block 1 (.seq (.reg [⟨some 12, (.move (.tmp 10)), none⟩,
  ⟨some 13, (.indexAddr 77 (.tmp 8) (.tmp 10)), none⟩,
  ⟨some 14, (.load 91 (.tmp 13)), none⟩,
  ⟨some 4, (.alloc 91), none⟩,
  ⟨some 3, (.assign (.tmp 12)), none⟩,
  ⟨none, (.store 91 (.tmp 4) (.tmp 14)), none⟩])
 (.block 2 (.seq (.reg [⟨some 16, (.fieldAddr 91 (.tmp 4) 0), none⟩,
  ⟨some 17, (.load 9 (.tmp 16)), none⟩,
  ⟨some 18, (.call { callee := (.value (.func 78)), args := #[(.tmp 17)], argTypes := #[9] }), none⟩,
  ⟨some 19, (.unOp .not 4 (.tmp 18)), none⟩,
  ⟨some 15, (.assign (.tmp 19)), none⟩])
 (.cond (.tmp 15) (.seq (.reg [⟨some 2, (.assign (.const (.int .i64 411))), none⟩])
 .ret) (.seq (.reg [⟨some 21, (.fieldAddr 91 (.tmp 4) 1), none⟩,
  ⟨some 22, (.load 3 (.tmp 21)), none⟩,
  ⟨some 23, (.binOp .lss 3 (.tmp 22) (.const (.int .i64 0)) 3), none⟩,
  ⟨some 24, (.move (.tmp 23)), none⟩,
  ⟨some 25, (.fieldAddr 91 (.tmp 4) 1), some (24, false)⟩,
  ⟨some 26, (.load 3 (.tmp 25)), some (24, false)⟩,
  ⟨some 27, (.binOp .gtr 3 (.tmp 26) (.const (.int .i64 10)) 3), some (24, false)⟩,
  ⟨some 28, (.pick (.tmp 24) (.const (.bool true)) (.tmp 27)), none⟩,
  ⟨some 20, (.assign (.tmp 28)), none⟩])
 (.cond (.tmp 20) (.seq (.reg [⟨some 2, (.assign (.const (.int .i64 4))), none⟩])
 .ret) (.seq (.dreg (.tk 0 ⟨some 30, (.move (.tmp 0)), none⟩
  (.tk 1 ⟨some 31, (.move (.tmp 3)), none⟩
  (.tk 2 ⟨some 32, (.slice 77 (.tmp 30) none (some (.tmp 31)) none), none⟩
  (.tk 3 ⟨some 33, (.fieldAddr 91 (.tmp 4) 0), none⟩
  (.tk 4 ⟨some 34, (.load 9 (.tmp 33)), none⟩
  .fin))))) [⟨some 35, (.call { callee := (.value (.func 79)), args := #[(.tmp 32), (.tmp 34)], argTypes := #[77, 9] }), none⟩,
  ⟨some 36, (.binOp .geq 3 (.tmp 35) (.const (.int .i64 0)) 3), none⟩,
  ⟨some 29, (.assign (.tmp 36)), none⟩])
 (.cond (.tmp 29) (.seq (.reg [⟨some 2, (.assign (.const (.int .i64 10))), none⟩])
 .ret) .skip)))))))))
 (.reg [⟨some 37, (.binOp .add 3 (.tmp 10) (.const (.int .i64 1)) 3), none⟩,
  ⟨some 10, (.move (.tmp 37)), none⟩]))))
def c77_1 : ACode := (.seq (.reg [⟨some 2, (.assign (.const (.int .i64 0))), none⟩])
 .ret)
def c77 : ACode := (.seq (.reg [⟨some 2, (.assign (.const (.int .i64 0))), none⟩])
 (.seq (.seq (.reg [⟨some 5, (.move (.tmp 0)), none⟩,
  ⟨some 6, (.call { callee := (.builtin .len), args := #[(.tmp 5)], argTypes := #[77] }), none⟩,
  ⟨some 7, (.binOp .gtr 3 (.tmp 6) (.const (.int .i64 100)) 3), none⟩])
 (.cond (.tmp 7) (.seq (.reg [⟨some 2, (.assign (.const (.int .i64 5))), none⟩])
 .ret) .skip))
 (.seqL (.seq (.reg [⟨some 8, (.move (.tmp 0)), none⟩,
  ⟨some 9, (.call { callee := (.builtin .len), args := #[(.tmp 8)], argTypes := #[77] }), none⟩,
  ⟨some 10, (.move (.const (.int .i64 0))), none⟩])
 (.block 0 (.loop b77_1)))
 c77_1)))
theorem fd77 : FnD Try.prog 77 38 [(.tmp 2)] c77 := ⟨⟨Try.f77, Try.f77.body.getD .skip, Try.func77, by kernel_rfl, by kernel_rfl, by kernel_rfl, by kernel_rfl⟩⟩
/-! f78 triforium/sort.IsName -/
def c78 : ACode := (.seq (.reg [⟨some 2, (.assign (.const (.bool false))), none⟩])
 (.seq (.seq (.reg [⟨some 3, (.move (.tmp 0)), none⟩,
  ⟨some 4, (.binOp .eql 9 (.tmp 3) (.const (.string { data := #[] })) 9), none⟩,
  ⟨some 5, (.move (.tmp 4)), none⟩,
  ⟨some 6, (.move (.tmp 0)), some (5, false)⟩,
  ⟨some 7, (.call { callee := (.builtin .len), args := #[(.tmp 6)], argTypes := #[9] }), some (5, false)⟩,
  ⟨some 8, (.binOp .gtr 3 (.tmp 7) (.const (.int .i64 40)) 3), some (5, false)⟩,
  ⟨some 9, (.pick (.tmp 5) (.const (.bool true)) (.tmp 8)), none⟩,
  ⟨some 10, (.move (.tmp 9)), none⟩,
  ⟨some 11, (.move (.tmp 0)), some (10, false)⟩,
  ⟨some 12, (.index 9 (.tmp 11) (.const (.int .i64 0))), some (10, false)⟩,
  ⟨some 13, (.call { callee := (.value (.func 88)), args := #[(.tmp 12)], argTypes := #[5] }), some (10, false)⟩,
  ⟨some 14, (.unOp .not 4 (.tmp 13)), some (10, false)⟩,
  ⟨some 15, (.move (.tmp 14)), some (10, false)⟩,
  ⟨some 16, (.move (.tmp 0)), some (15, true)⟩,
  ⟨some 17, (.index 9 (.tmp 16) (.const (.int .i64 0))), some (15, true)⟩,
  ⟨some 18, (.binOp .neq 5 (.tmp 17) (.const (.int .u8 95)) 5), some (15, true)⟩,
  ⟨some 19, (.pick (.tmp 15) (.tmp 18) (.const (.bool false))), some (10, false)⟩,
  ⟨some 20, (.pick (.tmp 10) (.const (.bool true)) (.tmp 19)), none⟩])
 (.cond (.tmp 20) (.seq (.reg [⟨some 2, (.assign (.const (.bool false))), none⟩])
 .ret) .skip))
 (.seq (.reg [⟨some 21, (.move (.tmp 0)), none⟩,
  ⟨some 22, (.convert 9 188 (.tmp 21)), none⟩,
  ⟨some 23, (.call { callee := (.value (.func 89)), args := #[(.tmp 22), (.func 90)], argTypes := #[188, 186] }), none⟩,
  ⟨some 24, (.unOp .not 4 (.tmp 23)), none⟩,
  ⟨some 2, (.assign (.tmp 24)), none⟩])
 .ret)))
theorem fd78 : FnD Try.prog 78 25 [(.tmp 2)] c78 := ⟨⟨Try.f78, Try.f78.body.getD .skip, Try.func78, by kernel_rfl, by kernel_rfl, by kernel_rfl, by kernel_rfl⟩⟩
/-! f79 triforium/codegen.con -/
def c79 : ACode := (.seq (.reg [⟨some 3, (.box 9 (.tmp 1)), none⟩,
  ⟨some 4, (.assign (.const (.int .i64 0))), none⟩])
 (.seq (.reg [⟨some 5, (.move (.tmp 0)), none⟩,
  ⟨some 6, (.makeFunc (.func 93) #[] #[(.tmp 3)]), none⟩,
  ⟨some 7, (.call { callee := (.value (.func 92)), args := #[(.tmp 5), (.tmp 6)], argTypes := #[77, 190] }), none⟩,
  ⟨some 4, (.assign (.tmp 7)), none⟩])
 .ret))
theorem fd79 : FnD Try.prog 79 8 [(.tmp 4)] c79 := ⟨⟨Try.f79, Try.f79.body.getD .skip, Try.func79, by kernel_rfl, by kernel_rfl, by kernel_rfl, by kernel_rfl⟩⟩
/-! f80 triforium/codegen.fun -/
def c80 : ACode := (.seq (.reg [⟨some 3, (.box 9 (.tmp 1)), none⟩,
  ⟨some 4, (.assign (.const (.int .i64 0))), none⟩])
 (.seq (.reg [⟨some 5, (.move (.tmp 0)), none⟩,
  ⟨some 6, (.makeFunc (.func 95) #[] #[(.tmp 3)]), none⟩,
  ⟨some 7, (.call { callee := (.value (.func 94)), args := #[(.tmp 5), (.tmp 6)], argTypes := #[78, 192] }), none⟩,
  ⟨some 4, (.assign (.tmp 7)), none⟩])
 .ret))
theorem fd80 : FnD Try.prog 80 8 [(.tmp 4)] c80 := ⟨⟨Try.f80, Try.f80.body.getD .skip, Try.func80, by kernel_rfl, by kernel_rfl, by kernel_rfl, by kernel_rfl⟩⟩
/-! f81 (triforium/codegen.Program).clause -/
def b81_1 : ACode := (.seq (.reg [⟨some 26, (.binOp .lss 3 (.tmp 25) (.tmp 24) 3), none⟩])
 (.seq (.cond (.tmp 26) .skip (.exit 0))
 (.seq (.block 1 (.seq (.reg [⟨some 27, (.indexAddr 55 (.tmp 23) (.tmp 25)), none⟩,
  ⟨some 28, (.load 57 (.tmp 27)), none⟩,
  ⟨some 8, (.alloc 57), none⟩,
  ⟨none, (.store 57 (.tmp 8) (.tmp 28)), none⟩])
 (.seq (.reg [⟨some 29, (.load 57 (.tmp 8)), none⟩,
  ⟨some 30, (.fieldAddr 80 (.tmp 3) 0), none⟩,
  ⟨some 31, (.load 77 (.tmp 30)), none⟩,
  ⟨some 32, (.call { callee := (.value (.func 96)), args := #[(.tmp 29), (.tmp 31)], argTypes := #[57, 77] }), none⟩,
  ⟨some 9, (.assign (.tmp 32)), none⟩])
 (.seq (.reg [⟨some 33, (.move (.tmp 9)), none⟩,
  ⟨some 34, (.binOp .neq 35 (.tmp 33) (.const (.int .i64 0)) 35), none⟩])
 (.cond (.tmp 34) (.seq (.reg [⟨some 35, (.move (.tmp 9)), none⟩,
  ⟨some 6, (.assign (.tmp 35)), none⟩])
 .ret) .skip)))))
 (.reg [⟨some 36, (.binOp .add 3 (.tmp 25) (.const (.int .i64 1)) 3), none⟩,
  ⟨some 25, (.move (.tmp 36)), none⟩]))))
def b81_2 : ACode := (.seq (.reg [⟨some 43, (.binOp .lss 3 (.tmp 42) (.tmp 41) 3), none⟩])
 (.seq (.cond (.tmp 43) .skip (.exit 2))
 (.seq (.block 3 (.seq (.reg [⟨some 44, (.move (.tmp 42)), none⟩,
  ⟨some 45, (.indexAddr 52 (.tmp 40) (.tmp 42)), none⟩,
  ⟨some 46, (.load 9 (.tmp 45)), none⟩,
  ⟨some 11, (.assign (.tmp 44)), none⟩,
  ⟨some 12, (.assign (.tmp 46)), none⟩])
 (.seq (.reg [⟨some 47, (.move (.tmp 10)), none⟩,
  ⟨some 48, (.move (.tmp 11)), none⟩,
  ⟨some 49, (.slice 52 (.tmp 47) none (some (.tmp 48)) none), none⟩,
  ⟨some 50, (.move (.tmp 12)), none⟩,
  ⟨some 51, (.call { callee := (.value (.func 82)), args := #[(.tmp 49), (.tmp 50)], argTypes := #[52, 9] }), none⟩])
 (.cond (.tmp 51) (.seq (.reg [⟨some 6, (.assign (.const (.int .i64 10))), none⟩])
 .ret) .skip))))
 (.reg [⟨some 52, (.binOp .add 3 (.tmp 42) (.const (.int .i64 1)) 3), none⟩,
  ⟨some 42, (.move (.tmp 52)), none⟩]))))
def c81_1 : ACode := (.seq (.seq (.reg [⟨some 54, (.fieldAddr 93 (.tmp 5) 1), none⟩,
  ⟨some 55, (.load 34 (.tmp 54)), none⟩,
  ⟨some 56, (.call { callee := (.value (.func 98)), args := #[(.tmp 55)], argTypes := #[34] }), none⟩,
  ⟨some 53, (.move (.tmp 56)), none⟩,
  ⟨some 57, (.extract (.tmp 53) 0), none⟩,
  ⟨some 58, (.extract (.tmp 53) 1), none⟩,
  ⟨some 13, (.assign (.tmp 57)), none⟩,
  ⟨some 14, (.assign (.tmp 58)), none⟩])
 (.block 4 (.seq (.reg [⟨some 60, (.move (.tmp 13)), none⟩,
  ⟨some 61, (.binOp .gtr 3 (.tmp 60) (.const (.int .i64 1000)) 3), none⟩,
  ⟨some 59, (.assign (.tmp 61)), none⟩])
 (.cond (.tmp 59) (.seq (.reg [⟨some 6, (.assign (.const (.int .i64 7))), none⟩])
 .ret) (.seq (.reg [⟨some 63, (.move (.tmp 14)), none⟩,
  ⟨some 64, (.binOp .gtr 3 (.tmp 63) (.const (.int .i64 100)) 3), none⟩,
  ⟨some 62, (.assign (.tmp 64)), none⟩])
 (.cond (.tmp 62) (.seq (.reg [⟨some 6, (.assign (.const (.int .i64 6))), none⟩])
 .ret) .skip))))))
 (.seq (.reg [⟨some 15, (.assign (.const (.pointer none))), none⟩])
 (.seq (.dreg (.tk 0 ⟨some 65, (.load 80 (.tmp 3)), none⟩
  (.tk 1 ⟨some 66, (.fieldAddr 93 (.tmp 5) 1), none⟩
  (.tk 2 ⟨some 67, (.load 34 (.tmp 66)), none⟩
  (.tk 3 ⟨some 68, (.move (.tmp 15)), none⟩
  (.tk 4 ⟨some 69, (.move (.tmp 10)), none⟩
  (.one [0, 1, 2, 5, 6, 7] ⟨some 70, (.call { callee := (.value (.func 100)), args := #[(.tmp 68), (.tmp 69)], argTypes := #[195, 52] }), none⟩
  .fin)))))) [⟨some 71, (.call { callee := (.value (.func 99)), args := #[(.tmp 65), (.tmp 67), (.tmp 70)], argTypes := #[80, 34, 195] }), none⟩,
  ⟨some 6, (.assign (.tmp 71)), none⟩])
 .ret)))
def c81_2 : ACode := (.seq (.reg [⟨some 37, (.fieldAddr 93 (.tmp 5) 0), none⟩,
  ⟨some 38, (.load 55 (.tmp 37)), none⟩,
  ⟨some 39, (.call { callee := (.value (.func 97)), args := #[(.tmp 38)], argTypes := #[55] }), none⟩,
  ⟨some 10, (.assign (.tmp 39)), none⟩])
 (.seqL (.seq (.reg [⟨some 40, (.move (.tmp 10)), none⟩,
  ⟨some 41, (.call { callee := (.builtin .len), args := #[(.tmp 40)], argTypes := #[52] }), none⟩,
  ⟨some 42, (.move (.const (.int .i64 0))), none⟩])
 (.block 2 (.loop b81_2)))
 c81_1))
def c81 : ACode := (.seq (.reg [⟨some 3, (.box 80 (.tmp 0)), none⟩,
  ⟨some 4, (.box 40 (.tmp 1)), none⟩,
  ⟨some 5, (.box 93 (.tmp 2)), none⟩,
  ⟨some 6, (.assign (.const (.int .i64 0))), none⟩])
 (.seq (.seq (.reg [⟨some 16, (.fieldAddr 93 (.tmp 5) 0), none⟩,
  ⟨some 17, (.load 55 (.tmp 16)), none⟩,
  ⟨some 18, (.call { callee := (.builtin .len), args := #[(.tmp 17)], argTypes := #[55] }), none⟩,
  ⟨some 19, (.fieldAddr 40 (.tmp 4) 1), none⟩,
  ⟨some 20, (.load 3 (.tmp 19)), none⟩,
  ⟨some 21, (.binOp .neq 3 (.tmp 18) (.tmp 20) 3), none⟩])
 (.cond (.tmp 21) (.seq (.reg [⟨some 6, (.assign (.const (.int .i64 5))), none⟩])
 .ret) .skip))
 (.seqL (.seq (.reg [⟨some 22, (.fieldAddr 93 (.tmp 5) 0), none⟩,
  ⟨some 23, (.load 55 (.tmp 22)), none⟩,
  ⟨some 24, (.call { callee := (.builtin .len), args := #[(.tmp 23)], argTypes := #[55] }), none⟩,
  ⟨some 25, (.move (.const (.int .i64 0))), none⟩])
 (.block 0 (.loop b81_1)))
 c81_2)))
theorem fd81 : FnD Try.prog 81 72 [(.tmp 6)] c81 := ⟨⟨Try.f81, Try.f81.body.getD .skip, Try.func81, by kernel_rfl, by kernel_rfl, by kernel_rfl, by kernel_rfl⟩⟩
/-! f82 slices.Contains[[]string,string] -/
def c82 : ACode := (.seq (.reg [⟨some 4, (.assign (.const (.bool false))), none⟩])
 (.seq (.reg [⟨some 5, (.move (.tmp 0)), none⟩,
  ⟨some 6, (.move (.tmp 1)), none⟩,
  ⟨some 7, (.call { callee := (.value (.func 101)), args := #[(.tmp 5), (.tmp 6)], argTypes := #[52, 9] }), none⟩,
  ⟨some 8, (.binOp .geq 3 (.tmp 7) (.const (.int .i64 0)) 3), none⟩,
  ⟨some 4, (.assign (.tmp 8)), none⟩])
 .ret))
theorem fd82 : FnD Try.prog 82 9 [(.tmp 4)] c82 := ⟨⟨Try.f82, Try.f82.body.getD .skip, Try.func82, by kernel_rfl, by kernel_rfl, by kernel_rfl, by kernel_rfl⟩⟩
/-! f83 (*triforium/evaluate.machine).counted -/
def c83 : ACode := (.seq (.block 0 (.seq (.reg [⟨some 5, (.move (.tmp 1)), none⟩,
  ⟨some 6, (.call { callee := (.value (.func 102)), args := #[(.tmp 5)], argTypes := #[151] }), none⟩,
  ⟨some 7, (.binOp .gtr 3 (.tmp 6) (.const (.int .i64 5000)) 3), none⟩,
  ⟨some 4, (.assign (.tmp 7)), none⟩])
 (.cond (.tmp 4) (.reg [⟨some 8, (.build 119 #[(0, (.const (.int .i64 7)))]), none⟩,
  ⟨some 9, (.makeInterface 119 (.tmp 8)), none⟩,
  ⟨none, (.panic (.tmp 9)), none⟩]) (.seq (.dreg (.tk 0 ⟨some 11, (.move (.tmp 0)), none⟩
  (.tk 1 ⟨some 12, (.nilCheck (.tmp 11)), none⟩
  (.tk 2 ⟨some 13, (.fieldAddr 123 (.tmp 12) 2), none⟩
  (.tk 3 ⟨some 14, (.load 3 (.tmp 13)), none⟩
  (.tk 4 ⟨some 15, (.move (.tmp 0)), none⟩
  (.tk 5 ⟨some 16, (.nilCheck (.tmp 15)), none⟩
  (.tk 6 ⟨some 17, (.fieldAddr 123 (.tmp 16) 1), none⟩
  (.tk 7 ⟨some 18, (.load 3 (.tmp 17)), none⟩
  .fin)))))))) [⟨some 19, (.binOp .eql 3 (.tmp 14) (.tmp 18) 3), none⟩,
  ⟨some 10, (.assign (.tmp 19)), none⟩])
 (.cond (.tmp 10) (.reg [⟨some 20, (.build 119 #[(0, (.const (.int .i64 8)))]), none⟩,
  ⟨some 21, (.makeInterface 119 (.tmp 20)), none⟩,
  ⟨none, (.panic (.tmp 21)), none⟩]) .skip)))))
 (.seq (.reg [⟨some 22, (.move (.tmp 0)), none⟩,
  ⟨some 23, (.nilCheck (.tmp 22)), none⟩,
  ⟨some 24, (.fieldAddr 123 (.tmp 23) 2), none⟩,
  ⟨some 25, (.load 3 (.tmp 24)), none⟩,
  ⟨some 26, (.binOp .add 3 (.tmp 25) (.const (.int .i64 1)) 3), none⟩,
  ⟨some 27, (.nilCheck (.tmp 22)), none⟩,
  ⟨some 28, (.fieldAddr 123 (.tmp 27) 2), none⟩,
  ⟨none, (.store 3 (.tmp 28) (.tmp 26)), none⟩])
 (.seq (.reg [⟨some 29, (.move (.tmp 0)), none⟩,
  ⟨some 30, (.nilCheck (.tmp 29)), none⟩,
  ⟨some 31, (.fieldAddr 123 (.tmp 30) 3), none⟩,
  ⟨some 32, (.load 3 (.tmp 31)), none⟩,
  ⟨some 33, (.binOp .geq 3 (.tmp 32) (.const (.int .i64 2000)) 3), none⟩])
 (.cond (.tmp 33) (.reg [⟨some 34, (.build 119 #[(0, (.const (.int .i64 6)))]), none⟩,
  ⟨some 35, (.makeInterface 119 (.tmp 34)), none⟩,
  ⟨none, (.panic (.tmp 35)), none⟩]) .skip))))
theorem fd83 : FnD Try.prog 83 36 [] c83 := ⟨⟨Try.f83, Try.f83.body.getD .skip, Try.func83, by kernel_rfl, by kernel_rfl, by kernel_rfl, by kernel_rfl⟩⟩
/-! f84 triforium/evaluate.matches -/
def b84_1 : ACode := (.seq (.reg [⟨some 49, (.binOp .lss 3 (.tmp 48) (.tmp 47) 3), none⟩])
 (.seq (.cond (.tmp 49) .skip (.exit 0))
 (.seq (.block 1 (.seq (.reg [⟨some 50, (.move (.tmp 48)), none⟩,
  ⟨some 51, (.indexAddr 55 (.tmp 46) (.tmp 48)), none⟩,
  ⟨some 52, (.load 57 (.tmp 51)), none⟩,
  ⟨some 11, (.alloc 57), none⟩,
  ⟨some 10, (.assign (.tmp 50)), none⟩,
  ⟨none, (.store 57 (.tmp 11) (.tmp 52)), none⟩])
 (.seq (.dreg (.tk 0 ⟨some 54, (.load 57 (.tmp 11)), none⟩
  (.tk 1 ⟨some 55, (.fieldAddr 161 (.tmp 8) 1), none⟩
  (.tk 2 ⟨some 56, (.load 151 (.tmp 55)), none⟩
  (.tk 3 ⟨some 57, (.move (.tmp 10)), none⟩
  (.tk 4 ⟨some 58, (.indexAddr 151 (.tmp 56) (.tmp 57)), none⟩
  (.tk 5 ⟨some 59, (.load 125 (.tmp 58)), none⟩
  (.tk 6 ⟨some 60, (.move (.tmp 2)), none⟩
  (.one [7, 8, 9, 10, 11, 12] ⟨some 61, (.call { callee := (.value (.func 84)), args := #[(.tmp 54), (.tmp 59), (.tmp 60)], argTypes := #[57, 125, 150] }), none⟩
  (.tk 8 ⟨some 53, (.move (.tmp 61)), none⟩
  (.tk 9 ⟨some 62, (.extract (.tmp 53) 0), none⟩
  (.tk 10 ⟨some 63, (.extract (.tmp 53) 1), none⟩
  (.tk 11 ⟨some 2, (.assign (.tmp 62)), none⟩
  .fin)))))))))))) [⟨some 9, (.assign (.tmp 63)), none⟩])
 (.seq (.reg [⟨some 64, (.move (.tmp 9)), none⟩,
  ⟨some 65, (.unOp .not 4 (.tmp 64)), none⟩])
 (.cond (.tmp 65) (.seq (.reg [⟨some 66, (.move (.tmp 2)), none⟩,
  ⟨some 6, (.assign (.tmp 66)), none⟩,
  ⟨some 7, (.assign (.const (.bool false))), none⟩])
 .ret) .skip)))))
 (.reg [⟨some 67, (.binOp .add 3 (.tmp 48) (.const (.int .i64 1)) 3), none⟩,
  ⟨some 48, (.move (.tmp 67)), none⟩]))))
def c84_1 : ACode := (.seq (.reg [⟨some 68, (.move (.tmp 2)), none⟩,
  ⟨some 6, (.assign (.tmp 68)), none⟩,
  ⟨some 7, (.assign (.const (.bool true))), none⟩])
 .ret)
def c84 : ACode := (.seq (.reg [⟨some 3, (.box 57 (.tmp 0)), none⟩,
  ⟨some 6, (.assign (.const (.pointer none))), none⟩,
  ⟨some 7, (.assign (.const (.bool false))), none⟩])
 (.seq (.seq (.reg [⟨some 12, (.fieldAddr 57 (.tmp 3) 0), none⟩,
  ⟨some 13, (.load 4 (.tmp 12)), none⟩,
  ⟨some 14, (.unOp .not 4 (.tmp 13)), none⟩])
 (.cond (.tmp 14) (.seq (.reg [⟨some 15, (.fieldAddr 57 (.tmp 3) 1), none⟩,
  ⟨some 16, (.load 9 (.tmp 15)), none⟩,
  ⟨some 17, (.move (.tmp 1)), none⟩,
  ⟨some 18, (.move (.tmp 2)), none⟩,
  ⟨some 19, (.build 180 #[(0, (.tmp 16)), (1, (.tmp 17)), (2, (.tmp 18))]), none⟩,
  ⟨some 20, (.box 180 (.tmp 19)), none⟩,
  ⟨some 6, (.assign (.tmp 20)), none⟩,
  ⟨some 7, (.assign (.const (.bool true))), none⟩])
 .ret) .skip))
 (.seq (.reg [⟨some 22, (.move (.tmp 1)), none⟩,
  ⟨some 23, (.typeAssert (.tmp 22) 125 161 true), none⟩,
  ⟨some 21, (.move (.tmp 23)), none⟩,
  ⟨some 24, (.extract (.tmp 21) 0), none⟩,
  ⟨some 25, (.extract (.tmp 21) 1), none⟩,
  ⟨some 8, (.alloc 161), none⟩,
  ⟨none, (.store 161 (.tmp 8) (.tmp 24)), none⟩,
  ⟨some 9, (.assign (.tmp 25)), none⟩])
 (.seq (.seq (.reg [⟨some 26, (.move (.tmp 9)), none⟩,
  ⟨some 27, (.unOp .not 4 (.tmp 26)), none⟩,
  ⟨some 28, (.move (.tmp 27)), none⟩,
  ⟨some 29, (.fieldAddr 161 (.tmp 8) 0), some (28, false)⟩,
  ⟨some 30, (.load 9 (.tmp 29)), some (28, false)⟩,
  ⟨some 31, (.fieldAddr 57 (.tmp 3) 1), some (28, false)⟩,
  ⟨some 32, (.load 9 (.tmp 31)), some (28, false)⟩,
  ⟨some 33, (.binOp .neq 9 (.tmp 30) (.tmp 32) 9), some (28, false)⟩,
  ⟨some 34, (.pick (.tmp 28) (.const (.bool true)) (.tmp 33)), none⟩,
  ⟨some 35, (.move (.tmp 34)), none⟩,
  ⟨some 36, (.fieldAddr 161 (.tmp 8) 1), some (35, false)⟩,
  ⟨some 37, (.load 151 (.tmp 36)), some (35, false)⟩,
  ⟨some 38, (.call { callee := (.builtin .len), args := #[(.tmp 37)], argTypes := #[151] }), some (35, false)⟩,
  ⟨some 39, (.fieldAddr 57 (.tmp 3) 2), some (35, false)⟩,
  ⟨some 40, (.load 55 (.tmp 39)), some (35, false)⟩,
  ⟨some 41, (.call { callee := (.builtin .len), args := #[(.tmp 40)], argTypes := #[55] }), some (35, false)⟩,
  ⟨some 42, (.binOp .neq 3 (.tmp 38) (.tmp 41) 3), some (35, false)⟩,
  ⟨some 43, (.pick (.tmp 35) (.const (.bool true)) (.tmp 42)), none⟩])
 (.cond (.tmp 43) (.seq (.reg [⟨some 44, (.move (.tmp 2)), none⟩,
  ⟨some 6, (.assign (.tmp 44)), none⟩,
  ⟨some 7, (.assign (.const (.bool false))), none⟩])
 .ret) .skip))
 (.seqL (.seq (.reg [⟨some 45, (.fieldAddr 57 (.tmp 3) 2), none⟩,
  ⟨some 46, (.load 55 (.tmp 45)), none⟩,
  ⟨some 47, (.call { callee := (.builtin .len), args := #[(.tmp 46)], argTypes := #[55] }), none⟩,
  ⟨some 48, (.move (.const (.int .i64 0))), none⟩])
 (.block 0 (.loop b84_1)))
 c84_1)))))
theorem fd84 : FnD Try.prog 84 69 [(.tmp 6), (.tmp 7)] c84 := ⟨⟨Try.f84, Try.f84.body.getD .skip, Try.func84, by kernel_rfl, by kernel_rfl, by kernel_rfl, by kernel_rfl⟩⟩
/-! f85 (*triforium/evaluate.machine).within -/
def c85 : ACode := (.seq (.reg [⟨some 3, (.box 121 (.tmp 0)), none⟩,
  ⟨some 4, (.box 34 (.tmp 1)), none⟩,
  ⟨some 6, (.assign (.const .nilIface)), none⟩])
 (.seq (.reg [⟨some 7, (.load 121 (.tmp 3)), none⟩,
  ⟨some 8, (.nilCheck (.tmp 7)), none⟩,
  ⟨some 9, (.fieldAddr 123 (.tmp 8) 3), none⟩,
  ⟨some 10, (.load 3 (.tmp 9)), none⟩,
  ⟨some 11, (.binOp .add 3 (.tmp 10) (.const (.int .i64 1)) 3), none⟩,
  ⟨some 12, (.nilCheck (.tmp 7)), none⟩,
  ⟨some 13, (.fieldAddr 123 (.tmp 12) 3), none⟩,
  ⟨none, (.store 3 (.tmp 13) (.tmp 11)), none⟩])
 (.seq (.reg [⟨some 14, (.makeFunc (.func 103) #[] #[(.tmp 3)]), none⟩,
  ⟨none, (.defer { callee := (.value (.tmp 14)), args := #[], argTypes := #[] }), none⟩])
 (.seq (.reg [⟨some 15, (.load 121 (.tmp 3)), none⟩,
  ⟨some 16, (.load 34 (.tmp 4)), none⟩,
  ⟨some 17, (.move (.tmp 2)), none⟩,
  ⟨some 18, (.call { callee := (.value (.func 45)), args := #[(.tmp 15), (.tmp 16), (.tmp 17)], argTypes := #[121, 34, 150] }), none⟩,
  ⟨some 6, (.assign (.tmp 18)), none⟩])
 .ret))))
theorem fd85 : FnD Try.prog 85 19 [(.tmp 6)] c85 := ⟨⟨Try.f85, Try.f85.body.getD .skip, Try.func85, by kernel_rfl, by kernel_rfl, by kernel_rfl, by kernel_rfl⟩⟩
/-! f86 slices.Clone[[]triforium/evaluate.value,triforium/evaluate.value] -/
def c86 : ACode := (.seq (.reg [⟨some 2, (.assign (.const (.slice none 0 0))), none⟩])
 (.seq (.seq (.reg [⟨some 3, (.move (.tmp 0)), none⟩,
  ⟨some 4, (.binOp .eql 151 (.tmp 3) (.const (.slice none 0 0)) 151), none⟩])
 (.cond (.tmp 4) (.seq (.reg [⟨some 2, (.assign (.const (.slice none 0 0))), none⟩])
 .ret) .skip))
 (.seq (.reg [⟨some 5, (.buildSlice 151 0 #[]), none⟩,
  ⟨some 6, (.move (.tmp 0)), none⟩,
  ⟨some 7, (.call { callee := (.builtin .append), args := #[(.tmp 5), (.tmp 6)], argTypes := #[151, 151] }), none⟩,
  ⟨some 2, (.assign (.tmp 7)), none⟩])
 .ret)))
theorem fd86 : FnD Try.prog 86 8 [(.tmp 2)] c86 := ⟨⟨Try.f86, Try.f86.body.getD .skip, Try.func86, by kernel_rfl, by kernel_rfl, by kernel_rfl, by kernel_rfl⟩⟩
/-! f87 slices.Concat[[]triforium/codegen.Expr,triforium/codegen.Expr] -/
/-! f88 triforium/sort.letter -/
def c88 : ACode := (.seq (.reg [⟨some 2, (.assign (.const (.bool false))), none⟩])
 (.seq (.reg [⟨some 3, (.move (.tmp 0)), none⟩,
  ⟨some 4, (.binOp .geq 5 (.tmp 3) (.const (.int .u8 97)) 5), none⟩,
  ⟨some 5, (.move (.tmp 4)), none⟩,
  ⟨some 6, (.move (.tmp 0)), some (5, true)⟩,
  ⟨some 7, (.binOp .leq 5 (.tmp 6) (.const (.int .u8 122)) 5), some (5, true)⟩,
  ⟨some 8, (.pick (.tmp 5) (.tmp 7) (.const (.bool false))), none⟩,
  ⟨some 9, (.move (.tmp 8)), none⟩,
  ⟨some 10, (.move (.tmp 0)), some (9, false)⟩,
  ⟨some 11, (.binOp .geq 5 (.tmp 10) (.const (.int .u8 65)) 5), some (9, false)⟩,
  ⟨some 12, (.move (.tmp 11)), some (9, false)⟩,
  ⟨some 13, (.move (.tmp 0)), some (12, true)⟩,
  ⟨some 14, (.binOp .leq 5 (.tmp 13) (.const (.int .u8 90)) 5), some (12, true)⟩,
  ⟨some 15, (.pick (.tmp 12) (.tmp 14) (.const (.bool false))), some (9, false)⟩,
  ⟨some 16, (.pick (.tmp 9) (.const (.bool true)) (.tmp 15)), none⟩,
  ⟨some 2, (.assign (.tmp 16)), none⟩])
 .ret))
theorem fd88 : FnD Try.prog 88 17 [(.tmp 2)] c88 := ⟨⟨Try.f88, Try.f88.body.getD .skip, Try.func88, by kernel_rfl, by kernel_rfl, by kernel_rfl, by kernel_rfl⟩⟩
/-! f89 slices.ContainsFunc[[]byte,byte] -/
def c89 : ACode := (.seq (.reg [⟨some 4, (.assign (.const (.bool false))), none⟩])
 (.seq (.reg [⟨some 5, (.move (.tmp 0)), none⟩,
  ⟨some 6, (.move (.tmp 1)), none⟩,
  ⟨some 7, (.call { callee := (.value (.func 105)), args := #[(.tmp 5), (.tmp 6)], argTypes := #[188, 186] }), none⟩,
  ⟨some 8, (.binOp .geq 3 (.tmp 7) (.const (.int .i64 0)) 3), none⟩,
  ⟨some 4, (.assign (.tmp 8)), none⟩])
 .ret))
theorem fd89 : FnD Try.prog 89 9 [(.tmp 4)] c89 := ⟨⟨Try.f89, Try.f89.body.getD .skip, Try.func89, by kernel_rfl, by kernel_rfl, by kernel_rfl, by kernel_rfl⟩⟩
/-! f90 triforium/sort.IsName$1 -/
def c90 : ACode := (.seq (.reg [⟨some 2, (.assign (.const (.bool false))), none⟩])
 (.seq (.reg [⟨some 3, (.move (.tmp 0)), none⟩,
  ⟨some 4, (.call { callee := (.value (.func 88)), args := #[(.tmp 3)], argTypes := #[5] }), none⟩,
  ⟨some 5, (.unOp .not 4 (.tmp 4)), none⟩,
  ⟨some 6, (.move (.tmp 5)), none⟩,
  ⟨some 7, (.move (.tmp 0)), some (6, true)⟩,
  ⟨some 8, (.call { callee := (.value (.func 91)), args := #[(.tmp 7)], argTypes := #[5] }), some (6, true)⟩,
  ⟨some 9, (.unOp .not 4 (.tmp 8)), some (6, true)⟩,
  ⟨some 10, (.pick (.tmp 6) (.tmp 9) (.const (.bool false))), none⟩,
  ⟨some 11, (.move (.tmp 10)), none⟩,
  ⟨some 12, (.move (.tmp 0)), some (11, true)⟩,
  ⟨some 13, (.binOp .neq 5 (.tmp 12) (.const (.int .u8 95)) 5), some (11, true)⟩,
  ⟨some 14, (.pick (.tmp 11) (.tmp 13) (.const (.bool false))), none⟩,
  ⟨some 15, (.move (.tmp 14)), none⟩,
  ⟨some 16, (.move (.tmp 0)), some (15, true)⟩,
  ⟨some 17, (.binOp .neq 5 (.tmp 16) (.const (.int .u8 39)) 5), some (15, true)⟩,
  ⟨some 18, (.pick (.tmp 15) (.tmp 17) (.const (.bool false))), none⟩,
  ⟨some 19, (.move (.tmp 18)), none⟩,
  ⟨some 20, (.move (.tmp 0)), some (19, true)⟩,
  ⟨some 21, (.binOp .neq 5 (.tmp 20) (.const (.int .u8 46)) 5), some (19, true)⟩,
  ⟨some 22, (.pick (.tmp 19) (.tmp 21) (.const (.bool false))), none⟩,
  ⟨some 2, (.assign (.tmp 22)), none⟩])
 .ret))
theorem fd90 : FnD Try.prog 90 23 [(.tmp 2)] c90 := ⟨⟨Try.f90, Try.f90.body.getD .skip, Try.func90, by kernel_rfl, by kernel_rfl, by kernel_rfl, by kernel_rfl⟩⟩
/-! f91 triforium/sort.digit -/
def c91 : ACode := (.seq (.reg [⟨some 2, (.assign (.const (.bool false))), none⟩])
 (.seq (.reg [⟨some 3, (.move (.tmp 0)), none⟩,
  ⟨some 4, (.binOp .geq 5 (.tmp 3) (.const (.int .u8 48)) 5), none⟩,
  ⟨some 5, (.move (.tmp 4)), none⟩,
  ⟨some 6, (.move (.tmp 0)), some (5, true)⟩,
  ⟨some 7, (.binOp .leq 5 (.tmp 6) (.const (.int .u8 57)) 5), some (5, true)⟩,
  ⟨some 8, (.pick (.tmp 5) (.tmp 7) (.const (.bool false))), none⟩,
  ⟨some 2, (.assign (.tmp 8)), none⟩])
 .ret))
theorem fd91 : FnD Try.prog 91 9 [(.tmp 2)] c91 := ⟨⟨Try.f91, Try.f91.body.getD .skip, Try.func91, by kernel_rfl, by kernel_rfl, by kernel_rfl, by kernel_rfl⟩⟩
/-! f92 slices.IndexFunc[[]triforium/codegen.Con,triforium/codegen.Con] -/
def b92_1 : ACode := (.seq (.reg [⟨some 9, (.binOp .lss 3 (.tmp 8) (.tmp 7) 3), none⟩])
 (.seq (.cond (.tmp 9) .skip (.exit 0))
 (.seq (.block 1 (.seq (.reg [⟨some 10, (.move (.tmp 8)), none⟩,
  ⟨some 5, (.assign (.tmp 10)), none⟩])
 (.seq (.reg [⟨some 11, (.move (.tmp 1)), none⟩,
  ⟨some 12, (.move (.tmp 0)), none⟩,
  ⟨some 13, (.move (.tmp 5)), none⟩,
  ⟨some 14, (.indexAddr 77 (.tmp 12) (.tmp 13)), none⟩,
  ⟨some 15, (.load 91 (.tmp 14)), none⟩,
  ⟨some 16, (.call { callee := (.value (.tmp 11)), args := #[(.tmp 15)], argTypes := #[91] }), none⟩])
 (.cond (.tmp 16) (.seq (.reg [⟨some 17, (.move (.tmp 5)), none⟩,
  ⟨some 4, (.assign (.tmp 17)), none⟩])
 .ret) .skip))))
 (.reg [⟨some 18, (.binOp .add 3 (.tmp 8) (.const (.int .i64 1)) 3), none⟩,
  ⟨some 8, (.move (.tmp 18)), none⟩]))))
def c92_1 : ACode := (.seq (.reg [⟨some 4, (.assign (.const (.int .i64 (-1)))), none⟩])
 .ret)
def c92 : ACode := (.seq (.reg [⟨some 4, (.assign (.const (.int .i64 0))), none⟩])
 (.seqL (.seq (.reg [⟨some 6, (.move (.tmp 0)), none⟩,
  ⟨some 7, (.call { callee := (.builtin .len), args := #[(.tmp 6)], argTypes := #[77] }), none⟩,
  ⟨some 8, (.move (.const (.int .i64 0))), none⟩])
 (.block 0 (.loop b92_1)))
 c92_1))
theorem fd92 : FnD Try.prog 92 19 [(.tmp 4)] c92 := ⟨⟨Try.f92, Try.f92.body.getD .skip, Try.func92, by kernel_rfl, by kernel_rfl, by kernel_rfl, by kernel_rfl⟩⟩
/-! f93 triforium/codegen.con$1 -/
def c93 : ACode := (.seq (.reg [⟨some 2, (.box 91 (.tmp 0)), none⟩,
  ⟨some 3, (.assign (.const (.bool false))), none⟩])
 (.seq (.reg [⟨some 4, (.fieldAddr 91 (.tmp 2) 0), none⟩,
  ⟨some 5, (.load 9 (.tmp 4)), none⟩,
  ⟨some 6, (.load 9 (.tmp 1)), none⟩,
  ⟨some 7, (.binOp .eql 9 (.tmp 5) (.tmp 6) 9), none⟩,
  ⟨some 3, (.assign (.tmp 7)), none⟩])
 .ret))
theorem fd93 : FnD Try.prog 93 8 [(.tmp 3)] c93 := ⟨⟨Try.f93, Try.f93.body.getD .skip, Try.func93, by kernel_rfl, by kernel_rfl, by kernel_rfl, by kernel_rfl⟩⟩
/-! f94 slices.IndexFunc[[]triforium/codegen.Fun,triforium/codegen.Fun] -/
def b94_1 : ACode := (.seq (.reg [⟨some 9, (.binOp .lss 3 (.tmp 8) (.tmp 7) 3), none⟩])
 (.seq (.cond (.tmp 9) .skip (.exit 0))
 (.seq (.block 1 (.seq (.reg [⟨some 10, (.move (.tmp 8)), none⟩,
  ⟨some 5, (.assign (.tmp 10)), none⟩])
 (.seq (.reg [⟨some 11, (.move (.tmp 1)), none⟩,
  ⟨some 12, (.move (.tmp 0)), none⟩,
  ⟨some 13, (.move (.tmp 5)), none⟩,
  ⟨some 14, (.indexAddr 78 (.tmp 12) (.tmp 13)), none⟩,
  ⟨some 15, (.load 40 (.tmp 14)), none⟩,
  ⟨some 16, (.call { callee := (.value (.tmp 11)), args := #[(.tmp 15)], argTypes := #[40] }), none⟩])
 (.cond (.tmp 16) (.seq (.reg [⟨some 17, (.move (.tmp 5)), none⟩,
  ⟨some 4, (.assign (.tmp 17)), none⟩])
 .ret) .skip))))
 (.reg [⟨some 18, (.binOp .add 3 (.tmp 8) (.const (.int .i64 1)) 3), none⟩,
  ⟨some 8, (.move (.tmp 18)), none⟩]))))
def c94_1 : ACode := (.seq (.reg [⟨some 4, (.assign (.const (.int .i64 (-1)))), none⟩])
 .ret)
def c94 : ACode := (.seq (.reg [⟨some 4, (.assign (.const (.int .i64 0))), none⟩])
 (.seqL (.seq (.reg [⟨some 6, (.move (.tmp 0)), none⟩,
  ⟨some 7, (.call { callee := (.builtin .len), args := #[(.tmp 6)], argTypes := #[78] }), none⟩,
  ⟨some 8, (.move (.const (.int .i64 0))), none⟩])
 (.block 0 (.loop b94_1)))
 c94_1))
theorem fd94 : FnD Try.prog 94 19 [(.tmp 4)] c94 := ⟨⟨Try.f94, Try.f94.body.getD .skip, Try.func94, by kernel_rfl, by kernel_rfl, by kernel_rfl, by kernel_rfl⟩⟩
/-! f95 triforium/codegen.fun$1 -/
def c95 : ACode := (.seq (.reg [⟨some 2, (.box 40 (.tmp 0)), none⟩,
  ⟨some 3, (.assign (.const (.bool false))), none⟩])
 (.seq (.reg [⟨some 4, (.fieldAddr 40 (.tmp 2) 0), none⟩,
  ⟨some 5, (.load 9 (.tmp 4)), none⟩,
  ⟨some 6, (.load 9 (.tmp 1)), none⟩,
  ⟨some 7, (.binOp .eql 9 (.tmp 5) (.tmp 6) 9), none⟩,
  ⟨some 3, (.assign (.tmp 7)), none⟩])
 .ret))
theorem fd95 : FnD Try.prog 95 8 [(.tmp 3)] c95 := ⟨⟨Try.f95, Try.f95.body.getD .skip, Try.func95, by kernel_rfl, by kernel_rfl, by kernel_rfl, by kernel_rfl⟩⟩
/-! f96 (triforium/codegen.Pattern).check -/
def c96_1 : ACode := (.seq (.reg [⟨none, (.store 35 (.tmp 4) (.const (.int .i64 0))), none⟩])
 .ret)
def c96_2 : ACode := (.seq (.block 2 (.seq (.reg [⟨some 21, (.load 3 (.tmp 5)), none⟩,
  ⟨some 22, (.binOp .gtr 3 (.tmp 21) (.const (.int .i64 100)) 3), none⟩,
  ⟨some 20, (.assign (.tmp 22)), none⟩])
 (.cond (.tmp 20) (.seq (.reg [⟨none, (.store 35 (.tmp 4) (.const (.int .i64 7))), none⟩])
 .ret) (.seq (.reg [⟨some 24, (.load 3 (.tmp 6)), none⟩,
  ⟨some 25, (.binOp .gtr 3 (.tmp 24) (.const (.int .i64 50)) 3), none⟩,
  ⟨some 23, (.assign (.tmp 25)), none⟩])
 (.cond (.tmp 23) (.seq (.reg [⟨none, (.store 35 (.tmp 4) (.const (.int .i64 6))), none⟩])
 .ret) .skip)))))
 (.seqL (.seq (.reg [⟨some 26, (.load 57 (.tmp 2)), none⟩,
  ⟨some 27, (.call { callee := (.value (.func 106)), args := #[(.tmp 26)], argTypes := #[57] }), none⟩])
 (.block 3 (.rfunc (.tmp 27) #[28] (.reg [⟨some 8, (.alloc 207), none⟩,
  ⟨none, (.store 207 (.tmp 8) (.tmp 28)), none⟩])
 (.block 4 (.seq (.reg [⟨some 29, (.load 77 (.tmp 3)), none⟩,
  ⟨some 30, (.fieldAddr 207 (.tmp 8) 0), none⟩,
  ⟨some 31, (.fieldAddr 57 (.tmp 30) 1), none⟩,
  ⟨some 32, (.load 9 (.tmp 31)), none⟩,
  ⟨some 33, (.call { callee := (.value (.func 79)), args := #[(.tmp 29), (.tmp 32)], argTypes := #[77, 9] }), none⟩,
  ⟨some 9, (.assign (.tmp 33)), none⟩])
 (.block 5 (.seq (.reg [⟨some 35, (.fieldAddr 207 (.tmp 8) 0), none⟩,
  ⟨some 36, (.fieldAddr 57 (.tmp 35) 1), none⟩,
  ⟨some 37, (.load 9 (.tmp 36)), none⟩,
  ⟨some 38, (.call { callee := (.value (.func 78)), args := #[(.tmp 37)], argTypes := #[9] }), none⟩,
  ⟨some 39, (.unOp .not 4 (.tmp 38)), none⟩,
  ⟨some 40, (.move (.tmp 39)), none⟩,
  ⟨some 41, (.fieldAddr 207 (.tmp 8) 0), some (40, false)⟩,
  ⟨some 42, (.load 57 (.tmp 41)), some (40, false)⟩,
  ⟨some 43, (.call { callee := (.value (.func 107)), args := #[(.tmp 42)], argTypes := #[57] }), some (40, false)⟩,
  ⟨some 44, (.move (.tmp 43)), some (40, false)⟩,
  ⟨some 45, (.fieldAddr 207 (.tmp 8) 0), some (44, true)⟩,
  ⟨some 46, (.fieldAddr 57 (.tmp 45) 2), some (44, true)⟩,
  ⟨some 47, (.load 55 (.tmp 46)), some (44, true)⟩,
  ⟨some 48, (.call { callee := (.builtin .len), args := #[(.tmp 47)], argTypes := #[55] }), some (44, true)⟩,
  ⟨some 49, (.binOp .gtr 3 (.tmp 48) (.const (.int .i64 0)) 3), some (44, true)⟩,
  ⟨some 50, (.pick (.tmp 44) (.tmp 49) (.const (.bool false))), some (40, false)⟩,
  ⟨some 51, (.pick (.tmp 40) (.const (.bool true)) (.tmp 50)), none⟩,
  ⟨some 34, (.assign (.tmp 51)), none⟩])
 (.cond (.tmp 34) (.seq (.reg [⟨none, (.store 35 (.tmp 4) (.const (.int .i64 411))), none⟩])
 .ret) (.seq (.reg [⟨some 53, (.fieldAddr 207 (.tmp 8) 0), none⟩,
  ⟨some 54, (.load 57 (.tmp 53)), none⟩,
  ⟨some 55, (.call { callee := (.value (.func 108)), args := #[(.tmp 54)], argTypes := #[57] }), none⟩,
  ⟨some 56, (.move (.tmp 55)), none⟩,
  ⟨some 57, (.move (.tmp 9)), some (56, true)⟩,
  ⟨some 58, (.binOp .lss 3 (.tmp 57) (.const (.int .i64 0)) 3), some (56, true)⟩,
  ⟨some 59, (.pick (.tmp 56) (.tmp 58) (.const (.bool false))), none⟩,
  ⟨some 52, (.assign (.tmp 59)), none⟩])
 (.cond (.tmp 52) (.seq (.reg [⟨none, (.store 35 (.tmp 4) (.const (.int .i64 9))), none⟩])
 .ret) (.seq (.dreg (.tk 0 ⟨some 61, (.fieldAddr 207 (.tmp 8) 0), none⟩
  (.tk 1 ⟨some 62, (.load 57 (.tmp 61)), none⟩
  (.one [2, 3, 4, 5, 6, 7, 8, 9, 10, 11, 12, 13, 14, 15] ⟨some 63, (.call { callee := (.value (.func 108)), args := #[(.tmp 62)], argTypes := #[57] }), none⟩
  (.tk 3 ⟨some 64, (.move (.tmp 63)), none⟩
  (.tk 4 ⟨some 65, (.fieldAddr 207 (.tmp 8) 0), some (64, true)⟩
  (.tk 5 ⟨some 66, (.fieldAddr 57 (.tmp 65) 2), some (64, true)⟩
  (.tk 6 ⟨some 67, (.load 55 (.tmp 66)), some (64, true)⟩
  (.tk 7 ⟨some 68, (.call { callee := (.builtin .len), args := #[(.tmp 67)], argTypes := #[55] }), some (64, true)⟩
  (.tk 8 ⟨some 69, (.load 77 (.tmp 3)), some (64, true)⟩
  (.tk 9 ⟨some 70, (.move (.tmp 9)), some (64, true)⟩
  (.tk 10 ⟨some 71, (.indexAddr 77 (.tmp 69) (.tmp 70)), some (64, true)⟩
  (.tk 11 ⟨some 72, (.fieldAddr 91 (.tmp 71) 1), some (64, true)⟩
  (.tk 12 ⟨some 73, (.load 3 (.tmp 72)), some (64, true)⟩
  .fin))))))))))))) [⟨some 74, (.binOp .neq 3 (.tmp 68) (.tmp 73) 3), some (64, true)⟩,
  ⟨some 75, (.pick (.tmp 64) (.tmp 74) (.const (.bool false))), none⟩,
  ⟨some 60, (.assign (.tmp 75)), none⟩])
 (.cond (.tmp 60) (.seq (.reg [⟨none, (.store 35 (.tmp 4) (.const (.int .i64 5))), none⟩])
 .ret) .skip))))))))))))
 c96_1))
def c96 : ACode := (.seq (.reg [⟨some 2, (.box 57 (.tmp 0)), none⟩,
  ⟨some 3, (.box 77 (.tmp 1)), none⟩,
  ⟨some 4, (.alloc 35), none⟩])
 (.seq (.reg [⟨some 5, (.alloc 3), none⟩,
  ⟨some 6, (.alloc 3), none⟩,
  ⟨none, (.store 3 (.tmp 5) (.const (.int .i64 0))), none⟩,
  ⟨none, (.store 3 (.tmp 6) (.const (.int .i64 0))), none⟩])
 (.seqL (.seq (.reg [⟨some 10, (.load 57 (.tmp 2)), none⟩,
  ⟨some 11, (.call { callee := (.value (.func 106)), args := #[(.tmp 10)], argTypes := #[57] }), none⟩])
 (.block 0 (.rfunc (.tmp 11) #[12] (.reg [⟨some 7, (.alloc 207), none⟩,
  ⟨none, (.store 207 (.tmp 7) (.tmp 12)), none⟩])
 (.block 1 (.dreg (.tk 0 ⟨some 13, (.load 3 (.tmp 5)), none⟩
  (.tk 1 ⟨some 14, (.binOp .add 3 (.tmp 13) (.const (.int .i64 1)) 3), none⟩
  (.tk 2 ⟨some 15, (.load 3 (.tmp 6)), none⟩
  (.tk 3 ⟨some 16, (.fieldAddr 207 (.tmp 7) 1), none⟩
  (.tk 4 ⟨some 17, (.load 3 (.tmp 16)), none⟩
  (.tk 5 ⟨some 18, (.binOp .add 3 (.tmp 17) (.const (.int .i64 1)) 3), none⟩
  (.tk 6 ⟨some 19, (.call { callee := (.builtin .max), args := #[(.tmp 15), (.tmp 18)], argTypes := #[3, 3] }), none⟩
  (.one [2, 3, 4, 5, 6, 7, 8] ⟨none, (.store 3 (.tmp 5) (.tmp 14)), none⟩
  .fin)))))))) [⟨none, (.store 3 (.tmp 6) (.tmp 19)), none⟩])))))
 c96_2)))
theorem fd96 : FnD Try.prog 96 76 [(.cell 4 35)] c96 := ⟨⟨Try.f96, Try.f96.body.getD .skip, Try.func96, by kernel_rfl, by kernel_rfl, by kernel_rfl, by kernel_rfl⟩⟩
/-! f97 triforium/codegen.variables -/
def c97_1 : ACode := (.reg [⟨some 25, (.binOp .add 3 (.tmp 9) (.const (.int .i64 1)) 3), none⟩,
  ⟨some 9, (.move (.tmp 25)), none⟩])
def b97_1 : ACode := (.seq (.reg [⟨some 10, (.binOp .lss 3 (.tmp 9) (.tmp 8) 3), none⟩])
 (.seq (.cond (.tmp 10) .skip (.exit 0))
 (.seqL (.block 1 (.seq (.reg [⟨some 11, (.indexAddr 55 (.tmp 7) (.tmp 9)), none⟩,
  ⟨some 12, (.load 57 (.tmp 11)), none⟩,
  ⟨some 5, (.alloc 57), none⟩,
  ⟨none, (.store 57 (.tmp 5) (.tmp 12)), none⟩])
 (.seq (.reg [⟨some 13, (.load 57 (.tmp 5)), none⟩,
  ⟨some 14, (.call { callee := (.value (.func 106)), args := #[(.tmp 13)], argTypes := #[57] }), none⟩])
 (.block 2 (.rfunc (.tmp 14) #[15] (.reg [⟨some 6, (.alloc 207), none⟩,
  ⟨none, (.store 207 (.tmp 6) (.tmp 15)), none⟩])
 (.block 3 (.seq (.reg [⟨some 16, (.fieldAddr 207 (.tmp 6) 0), none⟩,
  ⟨some 17, (.load 57 (.tmp 16)), none⟩,
  ⟨some 18, (.call { callee := (.value (.func 107)), args := #[(.tmp 17)], argTypes := #[57] }), none⟩])
 (.cond (.tmp 18) (.reg [⟨some 19, (.load 52 (.tmp 3)), none⟩,
  ⟨some 20, (.fieldAddr 207 (.tmp 6) 0), none⟩,
  ⟨some 21, (.fieldAddr 57 (.tmp 20) 1), none⟩,
  ⟨some 22, (.load 9 (.tmp 21)), none⟩,
  ⟨some 23, (.buildSlice 52 1 #[(0, (.tmp 22))]), none⟩,
  ⟨some 24, (.call { callee := (.builtin .append), args := #[(.tmp 19), (.tmp 23)], argTypes := #[52, 52] }), none⟩,
  ⟨none, (.store 52 (.tmp 3) (.tmp 24)), none⟩]) .skip))))))))
 c97_1)))
def c97_2 : ACode := (.seq (.reg [⟨some 26, (.load 52 (.tmp 3)), none⟩,
  ⟨some 2, (.assign (.tmp 26)), none⟩])
 .ret)
def c97 : ACode := (.seq (.reg [⟨some 2, (.assign (.const (.slice none 0 0))), none⟩])
 (.seq (.reg [⟨some 3, (.alloc 52), none⟩])
 (.seqL (.seq (.reg [⟨some 7, (.move (.tmp 0)), none⟩,
  ⟨some 8, (.call { callee := (.builtin .len), args := #[(.tmp 7)], argTypes := #[55] }), none⟩,
  ⟨some 9, (.move (.const (.int .i64 0))), none⟩])
 (.block 0 (.loop b97_1)))
 c97_2)))
theorem fd97 : FnD Try.prog 97 27 [(.tmp 2)] c97 := ⟨⟨Try.f97, Try.f97.body.getD .skip, Try.func97, by kernel_rfl, by kernel_rfl, by kernel_rfl, by kernel_rfl⟩⟩
/-! f98 (triforium/codegen.Expr).size -/
def b98_1 : ACode := (.seq (.reg [⟨some 12, (.binOp .lss 3 (.tmp 11) (.tmp 10) 3), none⟩])
 (.seq (.cond (.tmp 12) .skip (.exit 0))
 (.seq (.block 1 (.seq (.reg [⟨some 13, (.indexAddr 32 (.tmp 9) (.tmp 11)), none⟩,
  ⟨some 14, (.load 34 (.tmp 13)), none⟩,
  ⟨some 5, (.alloc 34), none⟩,
  ⟨none, (.store 34 (.tmp 5) (.tmp 14)), none⟩])
 (.seq (.reg [⟨some 16, (.load 34 (.tmp 5)), none⟩,
  ⟨some 17, (.call { callee := (.value (.func 98)), args := #[(.tmp 16)], argTypes := #[34] }), none⟩,
  ⟨some 15, (.move (.tmp 17)), none⟩,
  ⟨some 18, (.extract (.tmp 15) 0), none⟩,
  ⟨some 19, (.extract (.tmp 15) 1), none⟩,
  ⟨some 6, (.assign (.tmp 18)), none⟩,
  ⟨some 7, (.assign (.tmp 19)), none⟩])
 (.reg [⟨some 20, (.move (.tmp 2)), none⟩,
  ⟨some 21, (.move (.tmp 6)), none⟩,
  ⟨some 22, (.binOp .add 3 (.tmp 20) (.tmp 21) 3), none⟩,
  ⟨some 23, (.move (.tmp 3)), none⟩,
  ⟨some 24, (.move (.tmp 7)), none⟩,
  ⟨some 25, (.call { callee := (.builtin .max), args := #[(.tmp 23), (.tmp 24)], argTypes := #[3, 3] }), none⟩,
  ⟨some 2, (.assign (.tmp 22)), none⟩,
  ⟨some 3, (.assign (.tmp 25)), none⟩]))))
 (.reg [⟨some 26, (.binOp .add 3 (.tmp 11) (.const (.int .i64 1)) 3), none⟩,
  ⟨some 11, (.move (.tmp 26)), none⟩]))))
def c98_1 : ACode := (.seq (.reg [⟨some 27, (.move (.tmp 2)), none⟩,
  ⟨some 28, (.move (.tmp 3)), none⟩,
  ⟨some 29, (.binOp .add 3 (.tmp 28) (.const (.int .i64 1)) 3), none⟩,
  ⟨some 2, (.assign (.tmp 27)), none⟩,
  ⟨some 3, (.assign (.tmp 29)), none⟩])
 .ret)
def c98 : ACode := (.seq (.reg [⟨some 1, (.box 34 (.tmp 0)), none⟩,
  ⟨some 2, (.assign (.const (.int .i64 0))), none⟩,
  ⟨some 3, (.assign (.const (.int .i64 0))), none⟩])
 (.seq (.reg [⟨some 2, (.assign (.const (.int .i64 1))), none⟩])
 (.seqL (.seq (.reg [⟨some 8, (.fieldAddr 34 (.tmp 1) 2), none⟩,
  ⟨some 9, (.load 32 (.tmp 8)), none⟩,
  ⟨some 10, (.call { callee := (.builtin .len), args := #[(.tmp 9)], argTypes := #[32] }), none⟩,
  ⟨some 11, (.move (.const (.int .i64 0))), none⟩])
 (.block 0 (.loop b98_1)))
 c98_1)))
theorem fd98 : FnD Try.prog 98 30 [(.tmp 2), (.tmp 3)] c98 := ⟨⟨Try.f98, Try.f98.body.getD .skip, Try.func98, by kernel_rfl, by kernel_rfl, by kernel_rfl, by kernel_rfl⟩⟩
/-! f99 (triforium/codegen.Program).shape -/
def b99_1 : ACode := (.seq (.reg [⟨some 77, (.binOp .lss 3 (.tmp 76) (.tmp 75) 3), none⟩])
 (.seq (.cond (.tmp 77) .skip (.exit 1))
 (.seq (.block 2 (.seq (.reg [⟨some 78, (.indexAddr 32 (.tmp 74) (.tmp 76)), none⟩,
  ⟨some 79, (.load 34 (.tmp 78)), none⟩,
  ⟨some 9, (.alloc 34), none⟩,
  ⟨none, (.store 34 (.tmp 9) (.tmp 79)), none⟩])
 (.seq (.reg [⟨some 80, (.load 80 (.tmp 3)), none⟩,
  ⟨some 81, (.load 34 (.tmp 9)), none⟩,
  ⟨some 82, (.move (.tmp 2)), none⟩,
  ⟨some 83, (.call { callee := (.value (.func 99)), args := #[(.tmp 80), (.tmp 81), (.tmp 82)], argTypes := #[80, 34, 195] }), none⟩,
  ⟨some 10, (.assign (.tmp 83)), none⟩])
 (.seq (.reg [⟨some 84, (.move (.tmp 10)), none⟩,
  ⟨some 85, (.binOp .neq 35 (.tmp 84) (.const (.int .i64 0)) 35), none⟩])
 (.cond (.tmp 85) (.seq (.reg [⟨some 86, (.move (.tmp 10)), none⟩,
  ⟨some 6, (.assign (.tmp 86)), none⟩])
 .ret) .skip)))))
 (.reg [⟨some 87, (.binOp .add 3 (.tmp 76) (.const (.int .i64 1)) 3), none⟩,
  ⟨some 76, (.move (.tmp 87)), none⟩]))))
def c99_1 : ACode := (.seq (.reg [⟨some 6, (.assign (.const (.int .i64 0))), none⟩])
 .ret)
def c99 : ACode := (.seq (.reg [⟨some 3, (.box 80 (.tmp 0)), none⟩,
  ⟨some 4, (.box 34 (.tmp 1)), none⟩,
  ⟨some 6, (.assign (.const (.int .i64 0))), none⟩])
 (.seq (.seq (.reg [⟨some 11, (.load 34 (.tmp 4)), none⟩,
  ⟨some 12, (.call { callee := (.value (.func 109)), args := #[(.tmp 11)], argTypes := #[34] }), none⟩])
 (.cond (.tmp 12) (.seq (.reg [⟨some 6, (.assign (.const (.int .i64 411))), none⟩])
 .ret) .skip))
 (.seq (.reg [⟨some 13, (.fieldAddr 80 (.tmp 3) 0), none⟩,
  ⟨some 14, (.load 77 (.tmp 13)), none⟩,
  ⟨some 15, (.fieldAddr 34 (.tmp 4) 1), none⟩,
  ⟨some 16, (.load 9 (.tmp 15)), none⟩,
  ⟨some 17, (.call { callee := (.value (.func 79)), args := #[(.tmp 14), (.tmp 16)], argTypes := #[77, 9] }), none⟩,
  ⟨some 7, (.assign (.tmp 17)), none⟩])
 (.seq (.block 0 (.seq (.seq (.reg [⟨some 19, (.fieldAddr 34 (.tmp 4) 0), none⟩,
  ⟨some 20, (.load 3 (.tmp 19)), none⟩,
  ⟨some 21, (.binOp .eql 3 (.tmp 20) (.const (.int .i64 2)) 3), none⟩,
  ⟨some 22, (.move (.tmp 21)), none⟩,
  ⟨some 23, (.fieldAddr 80 (.tmp 3) 1), some (22, true)⟩,
  ⟨some 24, (.load 78 (.tmp 23)), some (22, true)⟩,
  ⟨some 25, (.fieldAddr 34 (.tmp 4) 1), some (22, true)⟩,
  ⟨some 26, (.load 9 (.tmp 25)), some (22, true)⟩,
  ⟨some 27, (.call { callee := (.value (.func 80)), args := #[(.tmp 24), (.tmp 26)], argTypes := #[78, 9] }), some (22, true)⟩,
  ⟨some 28, (.binOp .lss 3 (.tmp 27) (.const (.int .i64 0)) 3), some (22, true)⟩,
  ⟨some 29, (.pick (.tmp 22) (.tmp 28) (.const (.bool false))), none⟩,
  ⟨some 18, (.assign (.tmp 29)), none⟩])
 (.cond (.tmp 18) .skip (.reg [⟨some 30, (.fieldAddr 34 (.tmp 4) 0), none⟩,
  ⟨some 31, (.load 3 (.tmp 30)), none⟩,
  ⟨some 32, (.binOp .eql 3 (.tmp 31) (.const (.int .i64 3)) 3), none⟩,
  ⟨some 33, (.move (.tmp 32)), none⟩,
  ⟨some 34, (.move (.tmp 7)), some (33, true)⟩,
  ⟨some 35, (.binOp .lss 3 (.tmp 34) (.const (.int .i64 0)) 3), some (33, true)⟩,
  ⟨some 36, (.pick (.tmp 33) (.tmp 35) (.const (.bool false))), none⟩,
  ⟨some 18, (.assign (.tmp 36)), none⟩])))
 (.cond (.tmp 18) (.seq (.reg [⟨some 6, (.assign (.const (.int .i64 9))), none⟩])
 .ret) (.seq (.dreg (.tk 0 ⟨some 38, (.fieldAddr 34 (.tmp 4) 0), none⟩
  (.tk 1 ⟨some 39, (.load 3 (.tmp 38)), none⟩
  (.tk 2 ⟨some 40, (.binOp .eql 3 (.tmp 39) (.const (.int .i64 3)) 3), none⟩
  (.tk 3 ⟨some 41, (.move (.tmp 40)), none⟩
  (.tk 4 ⟨some 42, (.fieldAddr 34 (.tmp 4) 2), some (41, true)⟩
  (.tk 5 ⟨some 43, (.load 32 (.tmp 42)), some (41, true)⟩
  (.tk 6 ⟨some 44, (.call { callee := (.builtin .len), args := #[(.tmp 43)], argTypes := #[32] }), some (41, true)⟩
  (.tk 7 ⟨some 45, (.fieldAddr 80 (.tmp 3) 0), some (41, true)⟩
  (.tk 8 ⟨some 46, (.load 77 (.tmp 45)), some (41, true)⟩
  (.tk 9 ⟨some 47, (.move (.tmp 7)), some (41, true)⟩
  (.tk 10 ⟨some 48, (.indexAddr 77 (.tmp 46) (.tmp 47)), some (41, true)⟩
  (.tk 11 ⟨some 49, (.fieldAddr 91 (.tmp 48) 1), some (41, true)⟩
  (.tk 12 ⟨some 50, (.load 3 (.tmp 49)), some (41, true)⟩
  .fin))))))))))))) [⟨some 51, (.binOp .neq 3 (.tmp 44) (.tmp 50) 3), some (41, true)⟩,
  ⟨some 52, (.pick (.tmp 41) (.tmp 51) (.const (.bool false))), none⟩,
  ⟨some 37, (.assign (.tmp 52)), none⟩])
 (.cond (.tmp 37) (.seq (.reg [⟨some 6, (.assign (.const (.int .i64 5))), none⟩])
 .ret) (.seq (.reg [⟨some 54, (.fieldAddr 34 (.tmp 4) 0), none⟩,
  ⟨some 55, (.load 3 (.tmp 54)), none⟩,
  ⟨some 56, (.binOp .eql 3 (.tmp 55) (.const (.int .i64 1)) 3), none⟩,
  ⟨some 57, (.move (.tmp 56)), none⟩,
  ⟨some 58, (.move (.tmp 2)), some (57, true)⟩,
  ⟨some 59, (.fieldAddr 34 (.tmp 4) 1), some (57, true)⟩,
  ⟨some 60, (.load 9 (.tmp 59)), some (57, true)⟩,
  ⟨some 61, (.call { callee := (.value (.func 110)), args := #[(.tmp 58), (.tmp 60)], argTypes := #[195, 9] }), some (57, true)⟩,
  ⟨some 62, (.unOp .not 4 (.tmp 61)), some (57, true)⟩,
  ⟨some 63, (.pick (.tmp 57) (.tmp 62) (.const (.bool false))), none⟩,
  ⟨some 53, (.assign (.tmp 63)), none⟩])
 (.cond (.tmp 53) (.seq (.reg [⟨some 6, (.assign (.const (.int .i64 411))), none⟩])
 .ret) (.seq (.reg [⟨some 65, (.fieldAddr 34 (.tmp 4) 0), none⟩,
  ⟨some 66, (.load 3 (.tmp 65)), none⟩,
  ⟨some 67, (.binOp .eql 3 (.tmp 66) (.const (.int .i64 5)) 3), none⟩,
  ⟨some 64, (.assign (.tmp 67)), none⟩])
 (.cond (.tmp 64) (.reg [⟨some 68, (.move (.tmp 2)), none⟩,
  ⟨some 69, (.fieldAddr 34 (.tmp 4) 1), none⟩,
  ⟨some 70, (.load 9 (.tmp 69)), none⟩,
  ⟨some 71, (.buildSlice 52 1 #[(0, (.tmp 70))]), none⟩,
  ⟨some 72, (.call { callee := (.value (.func 100)), args := #[(.tmp 68), (.tmp 71)], argTypes := #[195, 52] }), none⟩,
  ⟨some 2, (.assign (.tmp 72)), none⟩]) .skip)))))))))
 (.seqL (.seq (.reg [⟨some 73, (.fieldAddr 34 (.tmp 4) 2), none⟩,
  ⟨some 74, (.load 32 (.tmp 73)), none⟩,
  ⟨some 75, (.call { callee := (.builtin .len), args := #[(.tmp 74)], argTypes := #[32] }), none⟩,
  ⟨some 76, (.move (.const (.int .i64 0))), none⟩])
 (.block 1 (.loop b99_1)))
 c99_1)))))
theorem fd99 : FnD Try.prog 99 88 [(.tmp 6)] c99 := ⟨⟨Try.f99, Try.f99.body.getD .skip, Try.func99, by kernel_rfl, by kernel_rfl, by kernel_rfl, by kernel_rfl⟩⟩
/-! f100 (*triforium/codegen.scope).with -/
def b100_1 : ACode := (.seq (.reg [⟨some 10, (.binOp .lss 3 (.tmp 9) (.tmp 8) 3), none⟩])
 (.seq (.cond (.tmp 10) .skip (.exit 0))
 (.seq (.block 1 (.seq (.reg [⟨some 11, (.indexAddr 52 (.tmp 7) (.tmp 9)), none⟩,
  ⟨some 12, (.load 9 (.tmp 11)), none⟩,
  ⟨some 6, (.assign (.tmp 12)), none⟩])
 (.reg [⟨some 13, (.move (.tmp 6)), none⟩,
  ⟨some 14, (.move (.tmp 0)), none⟩,
  ⟨some 15, (.build 209 #[(0, (.tmp 13)), (1, (.tmp 14))]), none⟩,
  ⟨some 16, (.box 209 (.tmp 15)), none⟩,
  ⟨some 0, (.assign (.tmp 16)), none⟩])))
 (.reg [⟨some 17, (.binOp .add 3 (.tmp 9) (.const (.int .i64 1)) 3), none⟩,
  ⟨some 9, (.move (.tmp 17)), none⟩]))))
def c100_1 : ACode := (.seq (.reg [⟨some 18, (.move (.tmp 0)), none⟩,
  ⟨some 4, (.assign (.tmp 18)), none⟩])
 .ret)
def c100 : ACode := (.seq (.reg [⟨some 4, (.assign (.const (.pointer none))), none⟩])
 (.seqL (.seq (.reg [⟨some 7, (.move (.tmp 1)), none⟩,
  ⟨some 8, (.call { callee := (.builtin .len), args := #[(.tmp 7)], argTypes := #[52] }), none⟩,
  ⟨some 9, (.move (.const (.int .i64 0))), none⟩])
 (.block 0 (.loop b100_1)))
 c100_1))
theorem fd100 : FnD Try.prog 100 19 [(.tmp 4)] c100 := ⟨⟨Try.f100, Try.f100.body.getD .skip, Try.func100, by kernel_rfl, by kernel_rfl, by kernel_rfl, by kernel_rfl⟩⟩
/-! f101 slices.Index[[]string,string] -/
def b101_1 : ACode := (.seq (.reg [⟨some 9, (.binOp .lss 3 (.tmp 8) (.tmp 7) 3), none⟩])
 (.seq (.cond (.tmp 9) .skip (.exit 0))
 (.seq (.block 1 (.seq (.reg [⟨some 10, (.move (.tmp 8)), none⟩,
  ⟨some 5, (.assign (.tmp 10)), none⟩])
 (.seq (.reg [⟨some 11, (.move (.tmp 1)), none⟩,
  ⟨some 12, (.move (.tmp 0)), none⟩,
  ⟨some 13, (.move (.tmp 5)), none⟩,
  ⟨some 14, (.indexAddr 52 (.tmp 12) (.tmp 13)), none⟩,
  ⟨some 15, (.load 9 (.tmp 14)), none⟩,
  ⟨some 16, (.binOp .eql 9 (.tmp 11) (.tmp 15) 9), none⟩])
 (.cond (.tmp 16) (.seq (.reg [⟨some 17, (.move (.tmp 5)), none⟩,
  ⟨some 4, (.assign (.tmp 17)), none⟩])
 .ret) .skip))))
 (.reg [⟨some 18, (.binOp .add 3 (.tmp 8) (.const (.int .i64 1)) 3), none⟩,
  ⟨some 8, (.move (.tmp 18)), none⟩]))))
def c101_1 : ACode := (.seq (.reg [⟨some 4, (.assign (.const (.int .i64 (-1)))), none⟩])
 .ret)
def c101 : ACode := (.seq (.reg [⟨some 4, (.assign (.const (.int .i64 0))), none⟩])
 (.seqL (.seq (.reg [⟨some 6, (.move (.tmp 0)), none⟩,
  ⟨some 7, (.call { callee := (.builtin .len), args := #[(.tmp 6)], argTypes := #[52] }), none⟩,
  ⟨some 8, (.move (.const (.int .i64 0))), none⟩])
 (.block 0 (.loop b101_1)))
 c101_1))
theorem fd101 : FnD Try.prog 101 19 [(.tmp 4)] c101 := ⟨⟨Try.f101, Try.f101.body.getD .skip, Try.func101, by kernel_rfl, by kernel_rfl, by kernel_rfl, by kernel_rfl⟩⟩
/-! f102 triforium/evaluate.total -/
def b102_1 : ACode := (.seq (.reg [⟨some 9, (.binOp .lss 3 (.tmp 8) (.tmp 7) 3), none⟩])
 (.seq (.cond (.tmp 9) .skip (.exit 0))
 (.seq (.block 1 (.seq (.reg [⟨some 10, (.indexAddr 151 (.tmp 6) (.tmp 8)), none⟩,
  ⟨some 11, (.load 125 (.tmp 10)), none⟩,
  ⟨some 5, (.assign (.tmp 11)), none⟩])
 (.reg [⟨some 12, (.move (.tmp 3)), none⟩,
  ⟨some 13, (.move (.tmp 5)), none⟩,
  ⟨some 14, (.call { callee := (.invoke (.tmp 13) "triforium/evaluate.nodes"), args := #[], argTypes := #[] }), none⟩,
  ⟨some 15, (.binOp .add 3 (.tmp 12) (.tmp 14) 3), none⟩,
  ⟨some 3, (.assign (.tmp 15)), none⟩])))
 (.reg [⟨some 16, (.binOp .add 3 (.tmp 8) (.const (.int .i64 1)) 3), none⟩,
  ⟨some 8, (.move (.tmp 16)), none⟩]))))
def c102_1 : ACode := (.seq (.reg [⟨some 17, (.move (.tmp 3)), none⟩,
  ⟨some 2, (.assign (.tmp 17)), none⟩])
 .ret)
def c102 : ACode := (.seq (.reg [⟨some 2, (.assign (.const (.int .i64 0))), none⟩])
 (.seq (.reg [⟨some 3, (.assign (.const (.int .i64 0))), none⟩])
 (.seqL (.seq (.reg [⟨some 6, (.move (.tmp 0)), none⟩,
  ⟨some 7, (.call { callee := (.builtin .len), args := #[(.tmp 6)], argTypes := #[151] }), none⟩,
  ⟨some 8, (.move (.const (.int .i64 0))), none⟩])
 (.block 0 (.loop b102_1)))
 c102_1)))
theorem fd102 : FnD Try.prog 102 18 [(.tmp 2)] c102 := ⟨⟨Try.f102, Try.f102.body.getD .skip, Try.func102, by kernel_rfl, by kernel_rfl, by kernel_rfl, by kernel_rfl⟩⟩
/-! f103 (*triforium/evaluate.machine).within$1 -/
def c103 : ACode := (.reg [⟨some 1, (.load 121 (.tmp 0)), none⟩,
  ⟨some 2, (.nilCheck (.tmp 1)), none⟩,
  ⟨some 3, (.fieldAddr 123 (.tmp 2) 3), none⟩,
  ⟨some 4, (.load 3 (.tmp 3)), none⟩,
  ⟨some 5, (.binOp .sub 3 (.tmp 4) (.const (.int .i64 1)) 3), none⟩,
  ⟨some 6, (.nilCheck (.tmp 1)), none⟩,
  ⟨some 7, (.fieldAddr 123 (.tmp 6) 3), none⟩,
  ⟨none, (.store 3 (.tmp 7) (.tmp 5)), none⟩])
theorem fd103 : FnD Try.prog 103 8 [] c103 := ⟨⟨Try.f103, Try.f103.body.getD .skip, Try.func103, by kernel_rfl, by kernel_rfl, by kernel_rfl, by kernel_rfl⟩⟩
/-! f104 slices.Grow[[]triforium/codegen.Expr,triforium/codegen.Expr] -/
/-! f105 slices.IndexFunc[[]byte,byte] -/
def b105_1 : ACode := (.seq (.reg [⟨some 9, (.binOp .lss 3 (.tmp 8) (.tmp 7) 3), none⟩])
 (.seq (.cond (.tmp 9) .skip (.exit 0))
 (.seq (.block 1 (.seq (.reg [⟨some 10, (.move (.tmp 8)), none⟩,
  ⟨some 5, (.assign (.tmp 10)), none⟩])
 (.seq (.reg [⟨some 11, (.move (.tmp 1)), none⟩,
  ⟨some 12, (.move (.tmp 0)), none⟩,
  ⟨some 13, (.move (.tmp 5)), none⟩,
  ⟨some 14, (.indexAddr 188 (.tmp 12) (.tmp 13)), none⟩,
  ⟨some 15, (.load 5 (.tmp 14)), none⟩,
  ⟨some 16, (.call { callee := (.value (.tmp 11)), args := #[(.tmp 15)], argTypes := #[5] }), none⟩])
 (.cond (.tmp 16) (.seq (.reg [⟨some 17, (.move (.tmp 5)), none⟩,
  ⟨some 4, (.assign (.tmp 17)), none⟩])
 .ret) .skip))))
 (.reg [⟨some 18, (.binOp .add 3 (.tmp 8) (.const (.int .i64 1)) 3), none⟩,
  ⟨some 8, (.move (.tmp 18)), none⟩]))))
def c105_1 : ACode := (.seq (.reg [⟨some 4, (.assign (.const (.int .i64 (-1)))), none⟩])
 .ret)
def c105 : ACode := (.seq (.reg [⟨some 4, (.assign (.const (.int .i64 0))), none⟩])
 (.seqL (.seq (.reg [⟨some 6, (.move (.tmp 0)), none⟩,
  ⟨some 7, (.call { callee := (.builtin .len), args := #[(.tmp 6)], argTypes := #[188] }), none⟩,
  ⟨some 8, (.move (.const (.int .i64 0))), none⟩])
 (.block 0 (.loop b105_1)))
 c105_1))
theorem fd105 : FnD Try.prog 105 19 [(.tmp 4)] c105 := ⟨⟨Try.f105, Try.f105.body.getD .skip, Try.func105, by kernel_rfl, by kernel_rfl, by kernel_rfl, by kernel_rfl⟩⟩
/-! f106 (triforium/codegen.Pattern).all -/
def c106 : ACode := (.seq (.reg [⟨some 1, (.box 57 (.tmp 0)), none⟩,
  ⟨some 2, (.assign (.const .nilFunc)), none⟩])
 (.seq (.reg [⟨some 3, (.makeFunc (.func 111) #[] #[(.tmp 1)]), none⟩,
  ⟨some 2, (.assign (.tmp 3)), none⟩])
 .ret))
theorem fd106 : FnD Try.prog 106 4 [(.tmp 2)] c106 := ⟨⟨Try.f106, Try.f106.body.getD .skip, Try.func106, by kernel_rfl, by kernel_rfl, by kernel_rfl, by kernel_rfl⟩⟩
/-! f107 (triforium/codegen.Pattern).isVariable -/
def c107 : ACode := (.seq (.reg [⟨some 1, (.box 57 (.tmp 0)), none⟩,
  ⟨some 2, (.assign (.const (.bool false))), none⟩])
 (.seq (.reg [⟨some 3, (.fieldAddr 57 (.tmp 1) 0), none⟩,
  ⟨some 4, (.load 4 (.tmp 3)), none⟩,
  ⟨some 5, (.unOp .not 4 (.tmp 4)), none⟩,
  ⟨some 2, (.assign (.tmp 5)), none⟩])
 .ret))
theorem fd107 : FnD Try.prog 107 6 [(.tmp 2)] c107 := ⟨⟨Try.f107, Try.f107.body.getD .skip, Try.func107, by kernel_rfl, by kernel_rfl, by kernel_rfl, by kernel_rfl⟩⟩
/-! f108 (triforium/codegen.Pattern).isCon -/
def c108 : ACode := (.seq (.reg [⟨some 1, (.box 57 (.tmp 0)), none⟩,
  ⟨some 2, (.assign (.const (.bool false))), none⟩])
 (.seq (.reg [⟨some 3, (.fieldAddr 57 (.tmp 1) 0), none⟩,
  ⟨some 4, (.load 4 (.tmp 3)), none⟩,
  ⟨some 2, (.assign (.tmp 4)), none⟩])
 .ret))
theorem fd108 : FnD Try.prog 108 5 [(.tmp 2)] c108 := ⟨⟨Try.f108, Try.f108.body.getD .skip, Try.func108, by kernel_rfl, by kernel_rfl, by kernel_rfl, by kernel_rfl⟩⟩
/-! f109 (triforium/codegen.Expr).misshaped -/
def c109 : ACode := (.seq (.reg [⟨some 1, (.box 34 (.tmp 0)), none⟩,
  ⟨some 2, (.assign (.const (.bool false))), none⟩])
 (.seq (.reg [⟨some 4, (.fieldAddr 34 (.tmp 1) 2), none⟩,
  ⟨some 5, (.load 32 (.tmp 4)), none⟩,
  ⟨some 6, (.call { callee := (.builtin .len), args := #[(.tmp 5)], argTypes := #[32] }), none⟩,
  ⟨some 3, (.assign (.tmp 6)), none⟩])
 (.seq (.seq (.reg [⟨some 7, (.fieldAddr 34 (.tmp 1) 0), none⟩,
  ⟨some 8, (.load 3 (.tmp 7)), none⟩])
 (.block 0 (.seq (.seq (.reg [⟨some 10, (.binOp .eql 3 (.tmp 8) (.const (.int .i64 1)) 3), none⟩,
  ⟨some 9, (.assign (.tmp 10)), none⟩])
 (.cond (.tmp 9) .skip (.reg [⟨some 11, (.binOp .eql 3 (.tmp 8) (.const (.int .i64 2)) 3), none⟩,
  ⟨some 9, (.assign (.tmp 11)), none⟩])))
 (.cond (.tmp 9) (.seq (.reg [⟨some 12, (.move (.tmp 3)), none⟩,
  ⟨some 13, (.binOp .gtr 3 (.tmp 12) (.const (.int .i64 0)) 3), none⟩,
  ⟨some 14, (.move (.tmp 13)), none⟩,
  ⟨some 15, (.fieldAddr 34 (.tmp 1) 1), some (14, false)⟩,
  ⟨some 16, (.load 9 (.tmp 15)), some (14, false)⟩,
  ⟨some 17, (.call { callee := (.value (.func 78)), args := #[(.tmp 16)], argTypes := #[9] }), some (14, false)⟩,
  ⟨some 18, (.unOp .not 4 (.tmp 17)), some (14, false)⟩,
  ⟨some 19, (.pick (.tmp 14) (.const (.bool true)) (.tmp 18)), none⟩,
  ⟨some 2, (.assign (.tmp 19)), none⟩])
 .ret) (.seq (.reg [⟨some 21, (.binOp .eql 3 (.tmp 8) (.const (.int .i64 3)) 3), none⟩,
  ⟨some 20, (.assign (.tmp 21)), none⟩])
 (.cond (.tmp 20) (.seq (.reg [⟨some 22, (.fieldAddr 34 (.tmp 1) 1), none⟩,
  ⟨some 23, (.load 9 (.tmp 22)), none⟩,
  ⟨some 24, (.call { callee := (.value (.func 78)), args := #[(.tmp 23)], argTypes := #[9] }), none⟩,
  ⟨some 25, (.unOp .not 4 (.tmp 24)), none⟩,
  ⟨some 2, (.assign (.tmp 25)), none⟩])
 .ret) (.seq (.reg [⟨some 27, (.binOp .eql 3 (.tmp 8) (.const (.int .i64 4)) 3), none⟩,
  ⟨some 26, (.assign (.tmp 27)), none⟩])
 (.cond (.tmp 26) (.seq (.reg [⟨some 28, (.move (.tmp 3)), none⟩,
  ⟨some 29, (.binOp .lss 3 (.tmp 28) (.const (.int .i64 2)) 3), none⟩,
  ⟨some 30, (.move (.tmp 29)), none⟩,
  ⟨some 31, (.fieldAddr 34 (.tmp 1) 1), some (30, false)⟩,
  ⟨some 32, (.load 9 (.tmp 31)), some (30, false)⟩,
  ⟨some 33, (.binOp .neq 9 (.tmp 32) (.const (.string { data := #[] })) 9), some (30, false)⟩,
  ⟨some 34, (.pick (.tmp 30) (.const (.bool true)) (.tmp 33)), none⟩,
  ⟨some 2, (.assign (.tmp 34)), none⟩])
 .ret) (.seq (.reg [⟨some 36, (.binOp .eql 3 (.tmp 8) (.const (.int .i64 5)) 3), none⟩,
  ⟨some 35, (.assign (.tmp 36)), none⟩])
 (.cond (.tmp 35) (.seq (.reg [⟨some 37, (.move (.tmp 3)), none⟩,
  ⟨some 38, (.binOp .neq 3 (.tmp 37) (.const (.int .i64 1)) 3), none⟩,
  ⟨some 39, (.move (.tmp 38)), none⟩,
  ⟨some 40, (.fieldAddr 34 (.tmp 1) 1), some (39, false)⟩,
  ⟨some 41, (.load 9 (.tmp 40)), some (39, false)⟩,
  ⟨some 42, (.call { callee := (.value (.func 78)), args := #[(.tmp 41)], argTypes := #[9] }), some (39, false)⟩,
  ⟨some 43, (.unOp .not 4 (.tmp 42)), some (39, false)⟩,
  ⟨some 44, (.pick (.tmp 39) (.const (.bool true)) (.tmp 43)), none⟩,
  ⟨some 2, (.assign (.tmp 44)), none⟩])
 .ret) .skip))))))))))
 (.seq (.reg [⟨some 2, (.assign (.const (.bool true))), none⟩])
 .ret))))
theorem fd109 : FnD Try.prog 109 45 [(.tmp 2)] c109 := ⟨⟨Try.f109, Try.f109.body.getD .skip, Try.func109, by kernel_rfl, by kernel_rfl, by kernel_rfl, by kernel_rfl⟩⟩
/-! f110 (*triforium/codegen.scope).has -/
def b110_1 : ACode := (.seq (.seq (.reg [⟨some 5, (.move (.tmp 0)), none⟩,
  ⟨some 6, (.binOp .neq 195 (.tmp 5) (.const (.pointer none)) 195), none⟩])
 (.cond (.tmp 6) .skip (.exit 0)))
 (.seq (.block 1 (.seq (.reg [⟨some 11, (.move (.tmp 0)), none⟩,
  ⟨some 12, (.nilCheck (.tmp 11)), none⟩,
  ⟨some 13, (.fieldAddr 209 (.tmp 12) 0), none⟩,
  ⟨some 14, (.load 9 (.tmp 13)), none⟩,
  ⟨some 15, (.move (.tmp 1)), none⟩,
  ⟨some 16, (.binOp .eql 9 (.tmp 14) (.tmp 15) 9), none⟩])
 (.cond (.tmp 16) (.seq (.reg [⟨some 4, (.assign (.const (.bool true))), none⟩])
 .ret) .skip)))
 (.reg [⟨some 7, (.move (.tmp 0)), none⟩,
  ⟨some 8, (.nilCheck (.tmp 7)), none⟩,
  ⟨some 9, (.fieldAddr 209 (.tmp 8) 1), none⟩,
  ⟨some 10, (.load 195 (.tmp 9)), none⟩,
  ⟨some 0, (.assign (.tmp 10)), none⟩])))
def c110_1 : ACode := (.seq (.reg [⟨some 4, (.assign (.const (.bool false))), none⟩])
 .ret)
def c110 : ACode := (.seq (.reg [⟨some 4, (.assign (.const (.bool false))), none⟩])
 (.seqL (.block 0 (.loop b110_1))
 c110_1))
theorem fd110 : FnD Try.prog 110 17 [(.tmp 4)] c110 := ⟨⟨Try.f110, Try.f110.body.getD .skip, Try.func110, by kernel_rfl, by kernel_rfl, by kernel_rfl, by kernel_rfl⟩⟩
/-! f111 (triforium/codegen.Pattern).all$1 -/
def c111 : ACode := (.seq (.reg [⟨some 2, (.box 211 (.tmp 0)), none⟩])
 (.seq (.reg [⟨some 3, (.alloc 212), none⟩])
 (.seq (.reg [⟨some 4, (.makeFunc (.func 112) #[] #[(.tmp 2), (.tmp 3)]), none⟩,
  ⟨none, (.store 212 (.tmp 3) (.tmp 4)), none⟩])
 (.reg [⟨some 5, (.load 212 (.tmp 3)), none⟩,
  ⟨some 6, (.load 57 (.tmp 1)), none⟩,
  ⟨some 7, (.call { callee := (.value (.tmp 5)), args := #[(.tmp 6), (.const (.int .i64 0))], argTypes := #[57, 3] }), none⟩]))))
theorem fd111 : FnD Try.prog 111 8 [] c111 := ⟨⟨Try.f111, Try.f111.body.getD .skip, Try.func111, by kernel_rfl, by kernel_rfl, by kernel_rfl, by kernel_rfl⟩⟩
/-! f112 (triforium/codegen.Pattern).all$1$1 -/
def c112 : ACode := (.seq (.reg [⟨some 4, (.box 57 (.tmp 0)), none⟩,
  ⟨some 5, (.box 3 (.tmp 1)), none⟩,
  ⟨some 6, (.assign (.const (.bool false))), none⟩])
 (.seq (.reg [⟨some 7, (.load 211 (.tmp 2)), none⟩,
  ⟨some 8, (.load 57 (.tmp 4)), none⟩,
  ⟨some 9, (.load 3 (.tmp 5)), none⟩,
  ⟨some 10, (.build 207 #[(0, (.tmp 8)), (1, (.tmp 9))]), none⟩,
  ⟨some 11, (.call { callee := (.value (.tmp 7)), args := #[(.tmp 10)], argTypes := #[207] }), none⟩,
  ⟨some 12, (.move (.tmp 11)), none⟩,
  ⟨some 13, (.fieldAddr 57 (.tmp 4) 2), some (12, true)⟩,
  ⟨some 14, (.load 55 (.tmp 13)), some (12, true)⟩,
  ⟨some 15, (.makeFunc (.func 114) #[] #[(.tmp 3), (.tmp 5)]), some (12, true)⟩,
  ⟨some 16, (.call { callee := (.value (.func 113)), args := #[(.tmp 14), (.tmp 15)], argTypes := #[55, 214] }), some (12, true)⟩,
  ⟨some 17, (.unOp .not 4 (.tmp 16)), some (12, true)⟩,
  ⟨some 18, (.pick (.tmp 12) (.tmp 17) (.const (.bool false))), none⟩,
  ⟨some 6, (.assign (.tmp 18)), none⟩])
 .ret))
theorem fd112 : FnD Try.prog 112 19 [(.tmp 6)] c112 := ⟨⟨Try.f112, Try.f112.body.getD .skip, Try.func112, by kernel_rfl, by kernel_rfl, by kernel_rfl, by kernel_rfl⟩⟩
/-! f113 slices.ContainsFunc[[]triforium/codegen.Pattern,triforium/codegen.Pattern] -/
def c113 : ACode := (.seq (.reg [⟨some 4, (.assign (.const (.bool false))), none⟩])
 (.seq (.reg [⟨some 5, (.move (.tmp 0)), none⟩,
  ⟨some 6, (.move (.tmp 1)), none⟩,
  ⟨some 7, (.call { callee := (.value (.func 115)), args := #[(.tmp 5), (.tmp 6)], argTypes := #[55, 214] }), none⟩,
  ⟨some 8, (.binOp .geq 3 (.tmp 7) (.const (.int .i64 0)) 3), none⟩,
  ⟨some 4, (.assign (.tmp 8)), none⟩])
 .ret))
theorem fd113 : FnD Try.prog 113 9 [(.tmp 4)] c113 := ⟨⟨Try.f113, Try.f113.body.getD .skip, Try.func113, by kernel_rfl, by kernel_rfl, by kernel_rfl, by kernel_rfl⟩⟩
/-! f114 (triforium/codegen.Pattern).all$1$1$1 -/
def c114 : ACode := (.seq (.reg [⟨some 3, (.box 57 (.tmp 0)), none⟩,
  ⟨some 4, (.assign (.const (.bool false))), none⟩])
 (.seq (.reg [⟨some 5, (.load 212 (.tmp 1)), none⟩,
  ⟨some 6, (.load 57 (.tmp 3)), none⟩,
  ⟨some 7, (.load 3 (.tmp 2)), none⟩,
  ⟨some 8, (.binOp .add 3 (.tmp 7) (.const (.int .i64 1)) 3), none⟩,
  ⟨some 9, (.call { callee := (.value (.tmp 5)), args := #[(.tmp 6), (.tmp 8)], argTypes := #[57, 3] }), none⟩,
  ⟨some 10, (.unOp .not 4 (.tmp 9)), none⟩,
  ⟨some 4, (.assign (.tmp 10)), none⟩])
 .ret))
theorem fd114 : FnD Try.prog 114 11 [(.tmp 4)] c114 := ⟨⟨Try.f114, Try.f114.body.getD .skip, Try.func114, by kernel_rfl, by kernel_rfl, by kernel_rfl, by kernel_rfl⟩⟩
/-! f115 slices.IndexFunc[[]triforium/codegen.Pattern,triforium/codegen.Pattern] -/
def b115_1 : ACode := (.seq (.reg [⟨some 9, (.binOp .lss 3 (.tmp 8) (.tmp 7) 3), none⟩])
 (.seq (.cond (.tmp 9) .skip (.exit 0))
 (.seq (.block 1 (.seq (.reg [⟨some 10, (.move (.tmp 8)), none⟩,
  ⟨some 5, (.assign (.tmp 10)), none⟩])
 (.seq (.reg [⟨some 11, (.move (.tmp 1)), none⟩,
  ⟨some 12, (.move (.tmp 0)), none⟩,
  ⟨some 13, (.move (.tmp 5)), none⟩,
  ⟨some 14, (.indexAddr 55 (.tmp 12) (.tmp 13)), none⟩,
  ⟨some 15, (.load 57 (.tmp 14)), none⟩,
  ⟨some 16, (.call { callee := (.value (.tmp 11)), args := #[(.tmp 15)], argTypes := #[57] }), none⟩])
 (.cond (.tmp 16) (.seq (.reg [⟨some 17, (.move (.tmp 5)), none⟩,
  ⟨some 4, (.assign (.tmp 17)), none⟩])
 .ret) .skip))))
 (.reg [⟨some 18, (.binOp .add 3 (.tmp 8) (.const (.int .i64 1)) 3), none⟩,
  ⟨some 8, (.move (.tmp 18)), none⟩]))))
def c115_1 : ACode := (.seq (.reg [⟨some 4, (.assign (.const (.int .i64 (-1)))), none⟩])
 .ret)
def c115 : ACode := (.seq (.reg [⟨some 4, (.assign (.const (.int .i64 0))), none⟩])
 (.seqL (.seq (.reg [⟨some 6, (.move (.tmp 0)), none⟩,
  ⟨some 7, (.call { callee := (.builtin .len), args := #[(.tmp 6)], argTypes := #[55] }), none⟩,
  ⟨some 8, (.move (.const (.int .i64 0))), none⟩])
 (.block 0 (.loop b115_1)))
 c115_1))
theorem fd115 : FnD Try.prog 115 19 [(.tmp 4)] c115 := ⟨⟨Try.f115, Try.f115.body.getD .skip, Try.func115, by kernel_rfl, by kernel_rfl, by kernel_rfl, by kernel_rfl⟩⟩
/-! f132 (triforium/evaluate.closure).nodes -/
def c132 : ACode := (.seq (.reg [⟨some 1, (.box 155 (.tmp 0)), none⟩,
  ⟨some 2, (.assign (.const (.int .i64 0))), none⟩])
 (.seq (.reg [⟨some 2, (.assign (.const (.int .i64 1))), none⟩])
 .ret))
theorem fd132 : FnD Try.prog 132 3 [(.tmp 2)] c132 := ⟨⟨Try.f132, Try.f132.body.getD .skip, Try.func132, by kernel_rfl, by kernel_rfl, by kernel_rfl, by kernel_rfl⟩⟩
/-! f133 (triforium/evaluate.partial).nodes -/
def c133 : ACode := (.seq (.reg [⟨some 1, (.box 158 (.tmp 0)), none⟩,
  ⟨some 2, (.assign (.const (.int .i64 0))), none⟩])
 (.seq (.seq (.reg [⟨some 3, (.fieldAddr 158 (.tmp 1) 1), none⟩,
  ⟨some 4, (.load 151 (.tmp 3)), none⟩,
  ⟨some 5, (.call { callee := (.builtin .len), args := #[(.tmp 4)], argTypes := #[151] }), none⟩,
  ⟨some 6, (.binOp .eql 3 (.tmp 5) (.const (.int .i64 0)) 3), none⟩])
 (.cond (.tmp 6) (.seq (.reg [⟨some 2, (.assign (.const (.int .i64 1))), none⟩])
 .ret) .skip))
 (.seq (.reg [⟨some 7, (.fieldAddr 158 (.tmp 1) 1), none⟩,
  ⟨some 8, (.load 151 (.tmp 7)), none⟩,
  ⟨some 9, (.call { callee := (.value (.func 102)), args := #[(.tmp 8)], argTypes := #[151] }), none⟩,
  ⟨some 10, (.binOp .add 3 (.const (.int .i64 2)) (.tmp 9) 3), none⟩,
  ⟨some 2, (.assign (.tmp 10)), none⟩])
 .ret)))
theorem fd133 : FnD Try.prog 133 11 [(.tmp 2)] c133 := ⟨⟨Try.f133, Try.f133.body.getD .skip, Try.func133, by kernel_rfl, by kernel_rfl, by kernel_rfl, by kernel_rfl⟩⟩
/-! f134 (triforium/evaluate.built).nodes -/
def c134 : ACode := (.seq (.reg [⟨some 1, (.box 161 (.tmp 0)), none⟩,
  ⟨some 2, (.assign (.const (.int .i64 0))), none⟩])
 (.seq (.reg [⟨some 3, (.fieldAddr 161 (.tmp 1) 1), none⟩,
  ⟨some 4, (.load 151 (.tmp 3)), none⟩,
  ⟨some 5, (.call { callee := (.value (.func 102)), args := #[(.tmp 4)], argTypes := #[151] }), none⟩,
  ⟨some 6, (.binOp .add 3 (.const (.int .i64 1)) (.tmp 5) 3), none⟩,
  ⟨some 2, (.assign (.tmp 6)), none⟩])
 .ret))
theorem fd134 : FnD Try.prog 134 7 [(.tmp 2)] c134 := ⟨⟨Try.f134, Try.f134.body.getD .skip, Try.func134, by kernel_rfl, by kernel_rfl, by kernel_rfl, by kernel_rfl⟩⟩
end Go.PV.Ytglpmlbbaedbiaa
end
