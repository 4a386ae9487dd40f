/- The abstract code of the functions that this seat reaches: printed by a program (wip/tools/zabprint.py), held to the loaded program by the kernel. -/
import Derived.Test.YtcebddjidpbhgaaDoorProg
import Derived.Test.YtcebddjidpbhgaaDoorZabCode
import Derived.KernelRfl
import Derived.Test.YtcebddjidpbhgaaDoorBAbsP0
namespace Zab.YtcebddjidpbhgaaDoorB
open Go Go.Proofs
set_option maxRecDepth 100000
/- alembic/round.up -/
def X67 : FnAnn := ⟨[], [(1, [], [2, 1, 0], []), (0, [], [2, 1, 0], [])], []⟩
def A67 : AFun := ⟨.seq (.pre [] [2, 1, 0] [] (.reg [⟨some 6, .move (.const (.int .i64 0)), none⟩])) (.seq (.pre [] [2, 1, 0] [] (.reg [⟨some 7, .move (.tmp 0), none⟩, ⟨some 8, .move (.tmp 2), none⟩, ⟨some 9, .bin .no .mul (.tmp 7) (.tmp 8), none⟩, ⟨some 10, .move (.tmp 1), none⟩, ⟨some 11, .bin .no .sub (.tmp 10) (.const (.int .i64 1)), none⟩, ⟨some 12, .bin .no .shl (.const (.int .i64 1)) (.tmp 11), none⟩, ⟨some 13, .bin .no .add (.tmp 9) (.tmp 12), none⟩, ⟨some 14, .move (.tmp 1), none⟩, ⟨some 15, .bin .no .shr (.tmp 13) (.tmp 14), none⟩, ⟨some 6, .move (.tmp 15), none⟩])) .ret), 3, [.t 6]⟩
theorem ok67 : cFun Tryd.prog 99 [0, 1] X67 Tryd.f67 = some A67 := by kernel_rfl
/- alembic/ring.both -/
def X72 : FnAnn := ⟨[], [(8, [], [], []), (7, [], [10, 9, 8, 2], [2]), (6, [], [7], []), (5, [], [10, 9, 8, 7, 2], [2]), (4, [], [10, 9, 8, 6, 2], [2]), (3, [], [10, 9, 8, 2], [2]), (2, [], [10, 9, 8, 2], [2]), (1, [], [2, 1], [2]), (0, [], [1, 0], [])], [([10, 9, 8, 2], [2])]⟩
def A72 : AFun := ⟨.seq (.pre [] [1, 0] [] (.reg [⟨some 2, .box 2 (.tmp 0), none⟩, ⟨some 4, .move (.const .nilIface), none⟩])) (.seq (.seq (.pre [] [2, 1] [2] (.reg [⟨some 8, .move (.tmp 1), none⟩, ⟨some 9, .len false (.tmp 8), none⟩, ⟨some 10, .move (.const (.int .i64 0)), none⟩])) (.block 0 (.loop [10, 9, 8, 2] [2] (.seq (.pre [] [10, 9, 8, 2] [2] (.reg [⟨some 11, .bin .no .lss (.tmp 10) (.tmp 9), none⟩])) (.seq (.cond (.tmp 11) .skip (.exit 0)) (.seq (.block 1 (.seq (.pre [] [10, 9, 8, 2] [2] (.reg [⟨some 12, .ixS 1 (.tmp 8) (.tmp 10), none⟩, ⟨some 13, .load none (.tmp 12), none⟩, ⟨some 6, .move (.tmp 13), none⟩])) (.seq (.pre [] [10, 9, 8, 6, 2] [2] (.reg [⟨some 14, .load (some 2) (.tmp 2), none⟩, ⟨some 15, .move (.tmp 6), none⟩, ⟨some 16, .call (.func 45) [.tmp 14, .tmp 15], none⟩, ⟨some 7, .move (.tmp 16), none⟩])) (.seq (.pre [] [10, 9, 8, 7, 2] [2] (.reg [⟨some 17, .move (.tmp 7), none⟩, ⟨some 18, .bin .ifaceC .neq (.tmp 17) (.const .nilIface), none⟩])) (.cond (.tmp 18) (.seq (.pre [] [7] [] (.reg [⟨some 19, .move (.tmp 7), none⟩, ⟨some 4, .move (.tmp 19), none⟩])) .ret) .skip))))) (.pre [] [10, 9, 8, 2] [2] (.reg [⟨some 20, .bin .no .add (.tmp 10) (.const (.int .i64 1)), none⟩, ⟨some 10, .move (.tmp 20), none⟩])))))))) (.seq (.pre [] [] [] (.reg [⟨some 4, .move (.const .nilIface), none⟩])) .ret)), 2, [.t 4]⟩
theorem ok72 : cFun Tryd.prog 99 [0, 1] X72 Tryd.f72 = some A72 := by kernel_rfl
/- alembic/alembicref1.Mod -/
def X73 : FnAnn := ⟨[], [(4, [], [5], []), (3, [], [5, 1], []), (2, [], [5, 1], []), (1, [], [1, 0], []), (0, [], [1, 0], [])], []⟩
def A73 : AFun := ⟨.seq (.pre [] [1, 0] [] (.reg [⟨some 4, .move (.const (.int .i64 0)), none⟩])) (.seq (.pre [] [1, 0] [] (.reg [⟨some 6, .move (.tmp 0), none⟩, ⟨some 7, .move (.tmp 1), none⟩, ⟨some 8, .bin .no .rem (.tmp 6) (.tmp 7), none⟩, ⟨some 5, .move (.tmp 8), none⟩])) (.seq (.seq (.pre [] [5, 1] [] (.reg [⟨some 9, .move (.tmp 5), none⟩, ⟨some 10, .bin .no .lss (.tmp 9) (.const (.int .i64 0)), none⟩])) (.cond (.tmp 10) (.pre [] [5, 1] [] (.reg [⟨some 11, .move (.tmp 5), none⟩, ⟨some 12, .move (.tmp 1), none⟩, ⟨some 13, .bin .no .add (.tmp 11) (.tmp 12), none⟩, ⟨some 5, .move (.tmp 13), none⟩])) .skip)) (.seq (.pre [] [5] [] (.reg [⟨some 14, .move (.tmp 5), none⟩, ⟨some 4, .move (.tmp 14), none⟩])) .ret))), 2, [.t 4]⟩
theorem ok73 : cFun Tryd.prog 99 [0, 1] X73 Tryd.f73 = some A73 := by kernel_rfl
/- alembic/ntt.Rev -/
def X74 : FnAnn := ⟨[], [(9, [], [5], []), (8, [], [13, 12, 5, 0], []), (7, [], [13, 12, 5, 0], []), (6, [], [13, 12, 5, 0], []), (5, [], [13, 12, 5, 0], []), (4, [], [5, 1, 0], []), (3, [], [1, 0], []), (2, [], [], []), (1, [], [1, 0], []), (0, [], [1, 0], [])], [([13, 12, 5, 0], [])]⟩
def A74 : AFun := ⟨.seq (.pre [] [1, 0] [] (.reg [⟨some 4, .move (.const (.int .i64 0)), none⟩])) (.seq (.seq (.pre [] [1, 0] [] (.reg [⟨some 6, .move (.tmp 1), none⟩, ⟨some 7, .bin .no .lss (.tmp 6) (.const (.int .i64 0)), none⟩, ⟨some 8, .move (.tmp 7), none⟩, ⟨some 9, .move (.tmp 1), some (8, false)⟩, ⟨some 10, .bin .no .gtr (.tmp 9) (.const (.int .i64 20)), some (8, false)⟩, ⟨some 11, .pick (.tmp 8) (.const (.bool true)) (.tmp 10), none⟩])) (.cond (.tmp 11) (.seq (.pre [] [] [] (.reg [⟨some 4, .move (.const (.int .i64 0)), none⟩])) .ret) .skip)) (.seq (.pre [] [1, 0] [] (.reg [⟨some 5, .move (.const (.int .i64 0)), none⟩])) (.seq (.seq (.pre [] [5, 1, 0] [] (.reg [⟨some 12, .move (.tmp 1), none⟩, ⟨some 13, .move (.const (.int .i64 0)), none⟩])) (.block 0 (.loop [13, 12, 5, 0] [] (.seq (.pre [] [13, 12, 5, 0] [] (.reg [⟨some 14, .bin .no .lss (.tmp 13) (.tmp 12), none⟩])) (.seq (.cond (.tmp 14) .skip (.exit 0)) (.seq (.block 1 (.seq (.pre [] [13, 12, 5, 0] [] (.reg [⟨some 15, .move (.tmp 5), none⟩, ⟨some 16, .bin .no .shl (.tmp 15) (.const (.int .u64 1)), none⟩, ⟨some 17, .move (.tmp 0), none⟩, ⟨some 18, .bin .no .and (.tmp 17) (.const (.int .i64 1)), none⟩, ⟨some 19, .bin .no .or (.tmp 16) (.tmp 18), none⟩, ⟨some 5, .move (.tmp 19), none⟩])) (.pre [] [13, 12, 5, 0] [] (.reg [⟨some 20, .move (.tmp 0), none⟩, ⟨some 21, .bin .no .shr (.tmp 20) (.const (.int .u64 1)), none⟩, ⟨some 0, .move (.tmp 21), none⟩])))) (.pre [] [13, 12, 5, 0] [] (.reg [⟨some 22, .bin .no .add (.tmp 13) (.const (.int .i64 1)), none⟩, ⟨some 13, .move (.tmp 22), none⟩])))))))) (.seq (.pre [] [5] [] (.reg [⟨some 23, .move (.tmp 5), none⟩, ⟨some 4, .move (.tmp 23), none⟩])) .ret)))), 2, [.t 4]⟩
theorem ok74 : cFun Tryd.prog 99 [0, 1] X74 Tryd.f74 = some A74 := by kernel_rfl
/- alembic/zq.Pow -/
def X75 : FnAnn := ⟨[], [(10, [], [7], []), (6, [], [8, 7, 2, 1], []), (9, [], [8, 7, 2, 1], []), (8, [], [8, 7, 2, 1], []), (7, [], [8, 7, 2, 1], []), (5, [], [8, 7, 2, 1], []), (4, [], [7, 2, 1, 0], []), (3, [], [2, 1, 0], []), (2, [], [], []), (1, [], [2, 1, 0], []), (0, [], [2, 1, 0], [])], [([8, 7, 2, 1], [])]⟩
def A75 : AFun := ⟨.seq (.pre [] [2, 1, 0] [] (.reg [⟨some 6, .move (.const (.int .i64 0)), none⟩])) (.seq (.seq (.pre [] [2, 1, 0] [] (.reg [⟨some 9, .move (.tmp 1), none⟩, ⟨some 10, .bin .no .lss (.tmp 9) (.const (.int .i64 0)), none⟩, ⟨some 11, .move (.tmp 10), none⟩, ⟨some 12, .move (.tmp 2), some (11, false)⟩, ⟨some 13, .call (.func 83) [.tmp 12], some (11, false)⟩, ⟨some 14, .un .not (.tmp 13), some (11, false)⟩, ⟨some 15, .pick (.tmp 11) (.const (.bool true)) (.tmp 14), none⟩])) (.cond (.tmp 15) (.seq (.pre [] [] [] (.reg [⟨some 6, .move (.const (.int .i64 0)), none⟩])) .ret) .skip)) (.seq (.pre [] [2, 1, 0] [] (.reg [⟨some 7, .move (.const (.int .i64 1)), none⟩])) (.seq (.seq (.pre [] [7, 2, 1, 0] [] (.reg [⟨some 16, .move (.tmp 0), none⟩, ⟨some 17, .move (.tmp 2), none⟩, ⟨some 18, .call (.func 80) [.tmp 16, .tmp 17], none⟩, ⟨some 8, .move (.tmp 18), none⟩])) (.block 0 (.loop [8, 7, 2, 1] [] (.seq (.seq (.pre [] [8, 7, 2, 1] [] (.reg [⟨some 19, .move (.tmp 1), none⟩, ⟨some 20, .bin .no .gtr (.tmp 19) (.const (.int .i64 0)), none⟩])) (.cond (.tmp 20) .skip (.exit 0))) (.seq (.block 1 (.seq (.seq (.pre [] [8, 7, 2, 1] [] (.reg [⟨some 23, .move (.tmp 1), none⟩, ⟨some 24, .bin .no .rem (.tmp 23) (.const (.int .i64 2)), none⟩, ⟨some 25, .bin .no .eql (.tmp 24) (.const (.int .i64 1)), none⟩])) (.cond (.tmp 25) (.pre [] [8, 7, 2, 1] [] (.reg [⟨some 26, .move (.tmp 7), none⟩, ⟨some 27, .move (.tmp 8), none⟩, ⟨some 28, .move (.tmp 2), none⟩, ⟨some 29, .call (.func 81) [.tmp 26, .tmp 27, .tmp 28], none⟩, ⟨some 7, .move (.tmp 29), none⟩])) .skip)) (.pre [] [8, 7, 2, 1] [] (.reg [⟨some 30, .move (.tmp 8), none⟩, ⟨some 31, .move (.tmp 8), none⟩, ⟨some 32, .move (.tmp 2), none⟩, ⟨some 33, .call (.func 81) [.tmp 30, .tmp 31, .tmp 32], none⟩, ⟨some 8, .move (.tmp 33), none⟩])))) (.pre [] [8, 7, 2, 1] [] (.reg [⟨some 21, .move (.tmp 1), none⟩, ⟨some 22, .bin .no .quo (.tmp 21) (.const (.int .i64 2)), none⟩, ⟨some 1, .move (.tmp 22), none⟩]))))))) (.seq (.pre [] [7] [] (.reg [⟨some 34, .move (.tmp 7), none⟩, ⟨some 6, .move (.tmp 34), none⟩])) .ret)))), 3, [.t 6]⟩
theorem ok75 : cFun Tryd.prog 99 [0, 1] X75 Tryd.f75 = some A75 := by kernel_rfl
/- alembic/alembicref1.Mul -/
def X76 : FnAnn := ⟨[], [(1, [], [2, 1, 0], []), (0, [], [2, 1, 0], [])], []⟩
def A76 : AFun := ⟨.seq (.pre [] [2, 1, 0] [] (.reg [⟨some 6, .move (.const (.int .i64 0)), none⟩])) (.seq (.pre [] [2, 1, 0] [] (.reg [⟨some 7, .move (.tmp 0), none⟩, ⟨some 8, .move (.tmp 1), none⟩, ⟨some 9, .bin .no .mul (.tmp 7) (.tmp 8), none⟩, ⟨some 10, .move (.tmp 2), none⟩, ⟨some 11, .bin .no .rem (.tmp 9) (.tmp 10), none⟩, ⟨some 6, .move (.tmp 11), none⟩])) .ret), 3, [.t 6]⟩
theorem ok76 : cFun Tryd.prog 99 [0, 1] X76 Tryd.f76 = some A76 := by kernel_rfl
/- alembic/zq.Center -/
def X77 : FnAnn := ⟨[], [(6, [], [5], []), (5, [], [5, 1], []), (4, [], [5, 1], []), (3, [], [1, 0], []), (2, [], [], []), (1, [], [1, 0], []), (0, [], [1, 0], [])], []⟩
def A77 : AFun := ⟨.seq (.pre [] [1, 0] [] (.reg [⟨some 4, .move (.const (.int .i64 0)), none⟩])) (.seq (.seq (.pre [] [1, 0] [] (.reg [⟨some 6, .move (.tmp 1), none⟩, ⟨some 7, .call (.func 83) [.tmp 6], none⟩, ⟨some 8, .un .not (.tmp 7), none⟩])) (.cond (.tmp 8) (.seq (.pre [] [] [] (.reg [⟨some 4, .move (.const (.int .i64 0)), none⟩])) .ret) .skip)) (.seq (.pre [] [1, 0] [] (.reg [⟨some 9, .move (.tmp 0), none⟩, ⟨some 10, .move (.tmp 1), none⟩, ⟨some 11, .call (.func 80) [.tmp 9, .tmp 10], none⟩, ⟨some 5, .move (.tmp 11), none⟩])) (.seq (.seq (.pre [] [5, 1] [] (.reg [⟨some 12, .move (.tmp 5), none⟩, ⟨some 13, .move (.tmp 1), none⟩, ⟨some 14, .bin .no .sub (.tmp 13) (.const (.int .i64 1)), none⟩, ⟨some 15, .bin .no .quo (.tmp 14) (.const (.int .i64 2)), none⟩, ⟨some 16, .bin .no .gtr (.tmp 12) (.tmp 15), none⟩])) (.cond (.tmp 16) (.seq (.pre [] [5, 1] [] (.reg [⟨some 17, .move (.tmp 5), none⟩, ⟨some 18, .move (.tmp 1), none⟩, ⟨some 19, .bin .no .sub (.tmp 17) (.tmp 18), none⟩, ⟨some 4, .move (.tmp 19), none⟩])) .ret) .skip)) (.seq (.pre [] [5] [] (.reg [⟨some 20, .move (.tmp 5), none⟩, ⟨some 4, .move (.tmp 20), none⟩])) .ret)))), 2, [.t 4]⟩
theorem ok77 : cFun Tryd.prog 99 [0, 1] X77 Tryd.f77 = some A77 := by kernel_rfl
/- alembic/ring.each -/
def X78 : FnAnn := ⟨[(23, [(0, 1)])], [(10, [], [11], [23]), (9, [], [26, 25, 11, 4, 3, 2, 1], [23, 4]), (8, [], [26, 25, 12, 11, 4, 3, 2, 1], [23, 4]), (7, [], [26, 25, 11, 4, 3, 2, 1], [23, 4]), (6, [], [26, 25, 11, 4, 3, 2, 1], [23, 4]), (5, [], [11, 4, 3, 2, 1], [23, 4]), (4, [], [4, 3, 2, 1], [4]), (3, [], [10], []), (2, [], [10, 4, 3, 2, 1], [4]), (1, [], [4, 3, 2, 1], [4]), (0, [], [3, 2, 1, 0], [])], [([26, 25, 11, 4, 3, 2, 1], [23, 4])]⟩
def A78 : AFun := ⟨.seq (.pre [] [3, 2, 1, 0] [] (.reg [⟨some 4, .box 2 (.tmp 0), none⟩, ⟨some 8, .move (.const (.slice none 0 0)), none⟩, ⟨some 9, .move (.const .nilIface), none⟩])) (.seq (.seq (.pre [] [4, 3, 2, 1] [4] (.reg [⟨some 13, .load (some 2) (.tmp 4), none⟩, ⟨some 14, .move (.tmp 1), none⟩, ⟨some 15, .move (.tmp 2), none⟩, ⟨some 16, .bsl 2 [.z] [(0, (1, .tmp 14)), (1, (1, .tmp 15))], none⟩, ⟨some 17, .call (.func 72) [.tmp 13, .tmp 16], none⟩, ⟨some 10, .move (.tmp 17), none⟩])) (.seq (.pre [] [10, 4, 3, 2, 1] [4] (.reg [⟨some 18, .move (.tmp 10), none⟩, ⟨some 19, .bin .ifaceC .neq (.tmp 18) (.const .nilIface), none⟩])) (.cond (.tmp 19) (.seq (.pre [] [10] [] (.reg [⟨some 20, .move (.tmp 10), none⟩, ⟨some 8, .move (.const (.slice none 0 0)), none⟩, ⟨some 9, .move (.tmp 20), none⟩])) .ret) .skip))) (.seq (.pre [] [4, 3, 2, 1] [4] (.reg [⟨some 21, .addr 1 (.tmp 4), none⟩, ⟨some 22, .load none (.tmp 21), none⟩, ⟨some 23, .mkR [.i .i64 0] 8 (.tmp 22) (.tmp 22), none⟩, ⟨some 11, .move (.tmp 23), none⟩])) (.seq (.seq (.pre [] [11, 4, 3, 2, 1] [23, 4] (.reg [⟨some 24, .move (.tmp 11), none⟩, ⟨some 25, .len false (.tmp 24), none⟩, ⟨some 26, .move (.const (.int .i64 0)), none⟩])) (.block 0 (.loop [26, 25, 11, 4, 3, 2, 1] [23, 4] (.seq (.pre [] [26, 25, 11, 4, 3, 2, 1] [23, 4] (.reg [⟨some 27, .bin .no .lss (.tmp 26) (.tmp 25), none⟩])) (.seq (.cond (.tmp 27) .skip (.exit 0)) (.seq (.block 1 (.seq (.pre [] [26, 25, 11, 4, 3, 2, 1] [23, 4] (.reg [⟨some 28, .move (.tmp 26), none⟩, ⟨some 12, .move (.tmp 28), none⟩])) (.pre [] [26, 25, 12, 11, 4, 3, 2, 1] [23, 4] (.reg [⟨some 29, .move (.tmp 11), none⟩, ⟨some 30, .move (.tmp 12), none⟩, ⟨some 31, .move (.tmp 3), none⟩, ⟨some 32, .move (.tmp 1), none⟩, ⟨some 33, .move (.tmp 12), none⟩, ⟨some 34, .ixS 1 (.tmp 32) (.tmp 33), none⟩, ⟨some 35, .load none (.tmp 34), none⟩, ⟨some 36, .move (.tmp 2), none⟩, ⟨some 37, .move (.tmp 12), none⟩, ⟨some 38, .ixS 1 (.tmp 36) (.tmp 37), none⟩, ⟨some 39, .load none (.tmp 38), none⟩, ⟨some 40, .addr 0 (.tmp 4), none⟩, ⟨some 41, .load none (.tmp 40), none⟩, ⟨some 42, .call (.tmp 31) [.tmp 35, .tmp 39, .tmp 41], none⟩, ⟨some 43, .ixS 1 (.tmp 29) (.tmp 30), none⟩, ⟨none, .store 1 (.tmp 43) (.tmp 42), none⟩])))) (.pre [] [26, 25, 11, 4, 3, 2, 1] [23, 4] (.reg [⟨some 44, .bin .no .add (.tmp 26) (.const (.int .i64 1)), none⟩, ⟨some 26, .move (.tmp 44), none⟩])))))))) (.seq (.pre [] [11] [23] (.reg [⟨some 45, .move (.tmp 11), none⟩, ⟨some 8, .move (.tmp 45), none⟩, ⟨some 9, .move (.const .nilIface), none⟩])) .ret)))), 4, [.t 8, .t 9]⟩
theorem ok78 : cFun Tryd.prog 99 [0, 1] X78 Tryd.f78 = some A78 := by kernel_rfl
/- alembic/zq.Add -/
def X79 : FnAnn := ⟨[], [(1, [], [2, 1, 0], []), (0, [], [2, 1, 0], [])], []⟩
def A79 : AFun := ⟨.seq (.pre [] [2, 1, 0] [] (.reg [⟨some 6, .move (.const (.int .i64 0)), none⟩])) (.seq (.pre [] [2, 1, 0] [] (.reg [⟨some 7, .move (.tmp 0), none⟩, ⟨some 8, .move (.tmp 2), none⟩, ⟨some 9, .call (.func 80) [.tmp 7, .tmp 8], none⟩, ⟨some 10, .move (.tmp 1), none⟩, ⟨some 11, .move (.tmp 2), none⟩, ⟨some 12, .call (.func 80) [.tmp 10, .tmp 11], none⟩, ⟨some 13, .bin .no .add (.tmp 9) (.tmp 12), none⟩, ⟨some 14, .move (.tmp 2), none⟩, ⟨some 15, .call (.func 80) [.tmp 13, .tmp 14], none⟩, ⟨some 6, .move (.tmp 15), none⟩])) .ret), 3, [.t 6]⟩
theorem ok79 : cFun Tryd.prog 99 [0, 1] X79 Tryd.f79 = some A79 := by kernel_rfl
/- alembic/zq.Mod -/
def X80 : FnAnn := ⟨[], [(6, [], [5], []), (5, [], [5, 1], []), (4, [], [5, 1], []), (3, [], [1, 0], []), (2, [], [], []), (1, [], [1, 0], []), (0, [], [1, 0], [])], []⟩
def A80 : AFun := ⟨.seq (.pre [] [1, 0] [] (.reg [⟨some 4, .move (.const (.int .i64 0)), none⟩])) (.seq (.seq (.pre [] [1, 0] [] (.reg [⟨some 6, .move (.tmp 1), none⟩, ⟨some 7, .call (.func 83) [.tmp 6], none⟩, ⟨some 8, .un .not (.tmp 7), none⟩])) (.cond (.tmp 8) (.seq (.pre [] [] [] (.reg [⟨some 4, .move (.const (.int .i64 0)), none⟩])) .ret) .skip)) (.seq (.pre [] [1, 0] [] (.reg [⟨some 9, .move (.tmp 0), none⟩, ⟨some 10, .move (.tmp 1), none⟩, ⟨some 11, .bin .no .rem (.tmp 9) (.tmp 10), none⟩, ⟨some 5, .move (.tmp 11), none⟩])) (.seq (.seq (.pre [] [5, 1] [] (.reg [⟨some 12, .move (.tmp 5), none⟩, ⟨some 13, .bin .no .lss (.tmp 12) (.const (.int .i64 0)), none⟩])) (.cond (.tmp 13) (.pre [] [5, 1] [] (.reg [⟨some 14, .move (.tmp 5), none⟩, ⟨some 15, .move (.tmp 1), none⟩, ⟨some 16, .bin .no .add (.tmp 14) (.tmp 15), none⟩, ⟨some 5, .move (.tmp 16), none⟩])) .skip)) (.seq (.pre [] [5] [] (.reg [⟨some 17, .move (.tmp 5), none⟩, ⟨some 4, .move (.tmp 17), none⟩])) .ret)))), 2, [.t 4]⟩
theorem ok80 : cFun Tryd.prog 99 [0, 1] X80 Tryd.f80 = some A80 := by kernel_rfl
/- alembic/zq.Mul -/
def X81 : FnAnn := ⟨[], [(1, [], [2, 1, 0], []), (0, [], [2, 1, 0], [])], []⟩
def A81 : AFun := ⟨.seq (.pre [] [2, 1, 0] [] (.reg [⟨some 6, .move (.const (.int .i64 0)), none⟩])) (.seq (.pre [] [2, 1, 0] [] (.reg [⟨some 7, .move (.tmp 0), none⟩, ⟨some 8, .move (.tmp 2), none⟩, ⟨some 9, .call (.func 80) [.tmp 7, .tmp 8], none⟩, ⟨some 10, .move (.tmp 1), none⟩, ⟨some 11, .move (.tmp 2), none⟩, ⟨some 12, .call (.func 80) [.tmp 10, .tmp 11], none⟩, ⟨some 13, .bin .no .mul (.tmp 9) (.tmp 12), none⟩, ⟨some 14, .move (.tmp 2), none⟩, ⟨some 15, .call (.func 80) [.tmp 13, .tmp 14], none⟩, ⟨some 6, .move (.tmp 15), none⟩])) .ret), 3, [.t 6]⟩
theorem ok81 : cFun Tryd.prog 99 [0, 1] X81 Tryd.f81 = some A81 := by kernel_rfl
/- alembic/zq.Sub -/
def X82 : FnAnn := ⟨[], [(1, [], [2, 1, 0], []), (0, [], [2, 1, 0], [])], []⟩
def A82 : AFun := ⟨.seq (.pre [] [2, 1, 0] [] (.reg [⟨some 6, .move (.const (.int .i64 0)), none⟩])) (.seq (.pre [] [2, 1, 0] [] (.reg [⟨some 7, .move (.tmp 0), none⟩, ⟨some 8, .move (.tmp 2), none⟩, ⟨some 9, .call (.func 80) [.tmp 7, .tmp 8], none⟩, ⟨some 10, .move (.tmp 1), none⟩, ⟨some 11, .move (.tmp 2), none⟩, ⟨some 12, .call (.func 80) [.tmp 10, .tmp 11], none⟩, ⟨some 13, .bin .no .sub (.tmp 9) (.tmp 12), none⟩, ⟨some 14, .move (.tmp 2), none⟩, ⟨some 15, .call (.func 80) [.tmp 13, .tmp 14], none⟩, ⟨some 6, .move (.tmp 15), none⟩])) .ret), 3, [.t 6]⟩
theorem ok82 : cFun Tryd.prog 99 [0, 1] X82 Tryd.f82 = some A82 := by kernel_rfl
/- alembic/zq.Is -/
def X83 : FnAnn := ⟨[], [(10, [], [], []), (9, [], [], []), (8, [], [3], []), (7, [], [3], []), (6, [], [3], []), (5, [], [3], []), (4, [], [3], []), (3, [], [3], []), (2, [], [3], []), (1, [], [0], []), (0, [], [0], [])], []⟩
def A83 : AFun := ⟨.seq (.pre [] [0] [] (.reg [⟨some 2, .move (.const (.bool false)), none⟩])) (.seq (.seq (.pre [] [0] [] (.reg [⟨some 3, .move (.tmp 0), none⟩])) (.block 0 (.seq (.seq (.pre [] [3] [] (.reg [⟨some 5, .bin .no .eql (.tmp 3) (.const (.int .i64 17)), none⟩, ⟨some 4, .move (.tmp 5), none⟩])) (.cond (.tmp 4) .skip (.seq (.pre [] [3] [] (.reg [⟨some 6, .bin .no .eql (.tmp 3) (.const (.int .i64 97)), none⟩, ⟨some 4, .move (.tmp 6), none⟩])) (.cond (.tmp 4) .skip (.seq (.pre [] [3] [] (.reg [⟨some 7, .bin .no .eql (.tmp 3) (.const (.int .i64 257)), none⟩, ⟨some 4, .move (.tmp 7), none⟩])) (.cond (.tmp 4) .skip (.seq (.pre [] [3] [] (.reg [⟨some 8, .bin .no .eql (.tmp 3) (.const (.int .i64 3329)), none⟩, ⟨some 4, .move (.tmp 8), none⟩])) (.cond (.tmp 4) .skip (.seq (.pre [] [3] [] (.reg [⟨some 9, .bin .no .eql (.tmp 3) (.const (.int .i64 7681)), none⟩, ⟨some 4, .move (.tmp 9), none⟩])) (.cond (.tmp 4) .skip (.seq (.pre [] [3] [] (.reg [⟨some 10, .bin .no .eql (.tmp 3) (.const (.int .i64 12289)), none⟩, ⟨some 4, .move (.tmp 10), none⟩])) (.cond (.tmp 4) .skip (.pre [] [3] [] (.reg [⟨some 11, .bin .no .eql (.tmp 3) (.const (.int .i64 8380417)), none⟩, ⟨some 4, .move (.tmp 11), none⟩])))))))))))))) (.cond (.tmp 4) (.seq (.pre [] [] [] (.reg [⟨some 2, .move (.const (.bool true)), none⟩])) .ret) .skip)))) (.seq (.pre [] [] [] (.reg [⟨some 2, .move (.const (.bool false)), none⟩])) .ret)), 1, [.t 2]⟩
theorem ok83 : cFun Tryd.prog 99 [0, 1] X83 Tryd.f83 = some A83 := by kernel_rfl
/- alembic/ntt.roots -/
def X84 : FnAnn := ⟨[(8, [(0, 1)])], [(10, [], [8, 6], [8]), (9, [], [21, 20, 8, 6, 5, 1], [8, 1]), (8, [], [21, 20, 9, 8, 6, 5, 1], [8, 1]), (7, [], [21, 20, 8, 6, 5, 1], [8, 1]), (6, [], [21, 20, 8, 6, 5, 1], [8, 1]), (5, [], [8, 6, 5, 1], [8, 1]), (4, [], [6, 5, 1], [1]), (3, [], [7], []), (2, [], [7, 6, 5, 1], [1]), (1, [], [1], [1]), (0, [], [0], [])], [([21, 20, 8, 6, 5, 1], [8, 1])]⟩
def A84 : AFun := ⟨.seq (.pre [] [0] [] (.reg [⟨some 1, .box 2 (.tmp 0), none⟩, ⟨some 2, .move (.const (.slice none 0 0)), none⟩, ⟨some 3, .move (.const (.int .i64 0)), none⟩, ⟨some 4, .move (.const .nilIface), none⟩])) (.seq (.pre [] [1] [1] (.reg [⟨some 11, .load (some 2) (.tmp 1), none⟩, ⟨some 12, .call (.func 36) [.tmp 11], none⟩, ⟨some 10, .move (.tmp 12), none⟩, ⟨some 13, .ext 0 (.tmp 10), none⟩, ⟨some 14, .ext 1 (.tmp 10), none⟩, ⟨some 15, .ext 2 (.tmp 10), none⟩, ⟨some 5, .move (.tmp 13), none⟩, ⟨some 6, .move (.tmp 14), none⟩, ⟨some 7, .move (.tmp 15), none⟩])) (.seq (.seq (.pre [] [7, 6, 5, 1] [1] (.reg [⟨some 16, .move (.tmp 7), none⟩, ⟨some 17, .bin .ifaceC .neq (.tmp 16) (.const .nilIface), none⟩])) (.cond (.tmp 17) (.seq (.pre [] [7] [] (.reg [⟨some 18, .move (.tmp 7), none⟩, ⟨some 2, .move (.const (.slice none 0 0)), none⟩, ⟨some 3, .move (.const (.int .i64 0)), none⟩, ⟨some 4, .move (.tmp 18), none⟩])) .ret) .skip)) (.seq (.pre [] [6, 5, 1] [1] (.reg [⟨some 8, .nilR 1 (.const (.slice none 0 0)), none⟩])) (.seq (.seq (.pre [] [8, 6, 5, 1] [8, 1] (.reg [⟨some 19, .move (.tmp 6), none⟩, ⟨some 20, .bin .no .shl (.const (.int .i64 1)) (.tmp 19), none⟩, ⟨some 21, .move (.const (.int .i64 0)), none⟩])) (.block 0 (.loop [21, 20, 8, 6, 5, 1] [8, 1] (.seq (.pre [] [21, 20, 8, 6, 5, 1] [8, 1] (.reg [⟨some 22, .bin .no .lss (.tmp 21) (.tmp 20), none⟩])) (.seq (.cond (.tmp 22) .skip (.exit 0)) (.seq (.block 1 (.seq (.pre [] [21, 20, 8, 6, 5, 1] [8, 1] (.reg [⟨some 23, .move (.tmp 21), none⟩, ⟨some 9, .move (.tmp 23), none⟩])) (.pre [] [21, 20, 9, 8, 6, 5, 1] [8, 1] (.reg [⟨some 24, .move (.tmp 8), none⟩, ⟨some 25, .move (.tmp 5), none⟩, ⟨some 26, .move (.tmp 9), none⟩, ⟨some 27, .move (.tmp 6), none⟩, ⟨some 28, .call (.func 74) [.tmp 26, .tmp 27], none⟩, ⟨some 29, .addr 0 (.tmp 1), none⟩, ⟨some 30, .load none (.tmp 29), none⟩, ⟨some 31, .call (.func 75) [.tmp 25, .tmp 28, .tmp 30], none⟩, ⟨some 32, .bsl 1 [.i .i64 0] [(0, (1, .tmp 31))], none⟩, ⟨some 33, .app 1 8 (.tmp 24) (.tmp 32), none⟩, ⟨some 8, .move (.tmp 33), none⟩])))) (.pre [] [21, 20, 8, 6, 5, 1] [8, 1] (.reg [⟨some 34, .bin .no .add (.tmp 21) (.const (.int .i64 1)), none⟩, ⟨some 21, .move (.tmp 34), none⟩])))))))) (.seq (.pre [] [8, 6] [8] (.reg [⟨some 35, .move (.tmp 8), none⟩, ⟨some 36, .move (.tmp 6), none⟩, ⟨some 2, .move (.tmp 35), none⟩, ⟨some 3, .move (.tmp 36), none⟩, ⟨some 4, .move (.const .nilIface), none⟩])) .ret))))), 1, [.t 2, .t 3, .t 4]⟩
theorem ok84 : cFun Tryd.prog 99 [0, 1] X84 Tryd.f84 = some A84 := by kernel_rfl
/- slices.Clone[[]int,int] -/
def X85 : FnAnn := ⟨[(5, [(0, 1)])], [(3, [], [0], []), (2, [], [], []), (1, [], [0], []), (0, [], [0], [])], []⟩
def A85 : AFun := ⟨.seq (.pre [] [0] [] (.reg [⟨some 2, .move (.const (.slice none 0 0)), none⟩])) (.seq (.seq (.pre [] [0] [] (.reg [⟨some 3, .move (.tmp 0), none⟩, ⟨some 4, .bin .slc .eql (.tmp 3) (.const (.slice none 0 0)), none⟩])) (.cond (.tmp 4) (.seq (.pre [] [] [] (.reg [⟨some 2, .move (.const (.slice none 0 0)), none⟩])) .ret) .skip)) (.seq (.pre [] [0] [] (.reg [⟨some 5, .bslR 0 [.i .i64 0] [], none⟩, ⟨some 6, .move (.tmp 0), none⟩, ⟨some 7, .app 1 8 (.tmp 5) (.tmp 6), none⟩, ⟨some 2, .move (.tmp 7), none⟩])) .ret)), 1, [.t 2]⟩
theorem ok85 : cFun Tryd.prog 99 [0, 1] X85 Tryd.f85 = some A85 := by kernel_rfl
/- alembic/zq.Inv -/
def X86 : FnAnn := ⟨[], [(3, [], [1, 0], []), (2, [], [], []), (1, [], [1, 0], []), (0, [], [1, 0], [])], []⟩
def A86 : AFun := ⟨.seq (.pre [] [1, 0] [] (.reg [⟨some 4, .move (.const (.int .i64 0)), none⟩, ⟨some 5, .move (.const .nilIface), none⟩])) (.seq (.seq (.pre [] [1, 0] [] (.reg [⟨some 6, .move (.tmp 1), none⟩, ⟨some 7, .call (.func 83) [.tmp 6], none⟩, ⟨some 8, .un .not (.tmp 7), none⟩, ⟨some 9, .move (.tmp 8), none⟩, ⟨some 10, .move (.tmp 0), some (9, false)⟩, ⟨some 11, .move (.tmp 1), some (9, false)⟩, ⟨some 12, .call (.func 80) [.tmp 10, .tmp 11], some (9, false)⟩, ⟨some 13, .bin .no .eql (.tmp 12) (.const (.int .i64 0)), some (9, false)⟩, ⟨some 14, .pick (.tmp 9) (.const (.bool true)) (.tmp 13), none⟩])) (.cond (.tmp 14) (.seq (.pre [] [] [] (.reg [⟨some 15, .load none (.global 1), none⟩, ⟨some 4, .move (.const (.int .i64 0)), none⟩, ⟨some 5, .move (.tmp 15), none⟩])) .ret) .skip)) (.seq (.pre [] [1, 0] [] (.reg [⟨some 16, .move (.tmp 0), none⟩, ⟨some 17, .move (.tmp 1), none⟩, ⟨some 18, .bin .no .sub (.tmp 17) (.const (.int .i64 2)), none⟩, ⟨some 19, .move (.tmp 1), none⟩, ⟨some 20, .call (.func 75) [.tmp 16, .tmp 18, .tmp 19], none⟩, ⟨some 4, .move (.tmp 20), none⟩, ⟨some 5, .move (.const .nilIface), none⟩])) .ret)), 2, [.t 4, .t 5]⟩
theorem ok86 : cFun Tryd.prog 99 [0, 1] X86 Tryd.f86 = some A86 := by kernel_rfl
/- alembic/alembicref1.Depth -/
def X87 : FnAnn := ⟨[], [(4, [], [3], []), (3, [], [3, 1], [1]), (2, [], [3, 1], [1]), (1, [], [1], [1]), (0, [], [0], [])], [([3, 1], [1])]⟩
def A87 : AFun := ⟨.seq (.pre [] [0] [] (.reg [⟨some 1, .box 2 (.tmp 0), none⟩, ⟨some 2, .move (.const (.int .i64 0)), none⟩])) (.seq (.pre [] [1] [1] (.reg [⟨some 3, .move (.const (.int .i64 1)), none⟩])) (.seq (.block 0 (.loop [3, 1] [1] (.seq (.seq (.pre [] [3, 1] [1] (.reg [⟨some 4, .addr 0 (.tmp 1), none⟩, ⟨some 5, .load none (.tmp 4), none⟩, ⟨some 6, .bin .no .sub (.tmp 5) (.const (.int .i64 1)), none⟩, ⟨some 7, .move (.tmp 3), none⟩, ⟨some 8, .bin .no .add (.tmp 7) (.const (.int .i64 2)), none⟩, ⟨some 9, .conv .u64 (.tmp 8), none⟩, ⟨some 10, .bin .no .shl (.const (.int .i64 1)) (.tmp 9), none⟩, ⟨some 11, .bin .no .rem (.tmp 6) (.tmp 10), none⟩, ⟨some 12, .bin .no .eql (.tmp 11) (.const (.int .i64 0)), none⟩, ⟨some 13, .move (.tmp 12), none⟩, ⟨some 14, .move (.tmp 3), some (13, true)⟩, ⟨some 15, .bin .no .add (.tmp 14) (.const (.int .i64 1)), some (13, true)⟩, ⟨some 16, .conv .u64 (.tmp 15), some (13, true)⟩, ⟨some 17, .bin .no .shl (.const (.int .i64 1)) (.tmp 16), some (13, true)⟩, ⟨some 18, .addr 1 (.tmp 1), some (13, true)⟩, ⟨some 19, .load none (.tmp 18), some (13, true)⟩, ⟨some 20, .bin .no .leq (.tmp 17) (.tmp 19), some (13, true)⟩, ⟨some 21, .pick (.tmp 13) (.tmp 20) (.const (.bool false)), none⟩])) (.cond (.tmp 21) .skip (.exit 0))) (.block 1 (.pre [] [3, 1] [1] (.reg [⟨some 22, .move (.tmp 3), none⟩, ⟨some 23, .bin .no .add (.tmp 22) (.const (.int .i64 1)), none⟩, ⟨some 3, .move (.tmp 23), none⟩])))))) (.seq (.pre [] [3] [] (.reg [⟨some 24, .move (.tmp 3), none⟩, ⟨some 2, .move (.tmp 24), none⟩])) .ret))), 1, [.t 2]⟩
theorem ok87 : cFun Tryd.prog 99 [0, 1] X87 Tryd.f87 = some A87 := by kernel_rfl
/- alembic/alembicref1.powers -/
def X88 : FnAnn := ⟨[(5, [(0, 1)])], [(9, [], [5], [5]), (6, [], [6, 5, 4, 3, 1], [5, 1]), (8, [], [6, 5, 4, 3, 1], [5, 1]), (7, [], [6, 5, 4, 3, 1], [5, 1]), (5, [], [6, 5, 4, 3, 1], [5, 1]), (4, [], [5, 4, 3, 1], [5, 1]), (3, [], [4, 3, 1], [1]), (2, [], [3, 1], [1]), (1, [], [1], [1]), (0, [], [0], [])], [([6, 5, 4, 3, 1], [5, 1])]⟩
def A88 : AFun := ⟨.seq (.pre [] [0] [] (.reg [⟨some 1, .box 2 (.tmp 0), none⟩, ⟨some 2, .move (.const (.slice none 0 0)), none⟩])) (.seq (.pre [] [1] [1] (.reg [⟨some 7, .load (some 2) (.tmp 1), none⟩, ⟨some 8, .call (.func 91) [.tmp 7], none⟩, ⟨some 3, .move (.tmp 8), none⟩])) (.seq (.pre [] [3, 1] [1] (.reg [⟨some 4, .move (.const (.int .i64 1)), none⟩])) (.seq (.pre [] [4, 3, 1] [1] (.reg [⟨some 5, .nilR 1 (.const (.slice none 0 0)), none⟩])) (.seq (.seq (.pre [] [5, 4, 3, 1] [5, 1] (.reg [⟨some 6, .move (.const (.int .i64 0)), none⟩])) (.block 0 (.loop [6, 5, 4, 3, 1] [5, 1] (.seq (.seq (.pre [] [6, 5, 4, 3, 1] [5, 1] (.reg [⟨some 9, .move (.tmp 6), none⟩, ⟨some 10, .load (some 2) (.tmp 1), none⟩, ⟨some 11, .call (.func 87) [.tmp 10], none⟩, ⟨some 12, .conv .u64 (.tmp 11), none⟩, ⟨some 13, .bin .no .shl (.const (.int .i64 2)) (.tmp 12), none⟩, ⟨some 14, .bin .no .lss (.tmp 9) (.tmp 13), none⟩])) (.cond (.tmp 14) .skip (.exit 0))) (.seq (.block 1 (.seq (.pre [] [6, 5, 4, 3, 1] [5, 1] (.reg [⟨some 17, .move (.tmp 5), none⟩, ⟨some 18, .move (.tmp 4), none⟩, ⟨some 19, .bsl 1 [.i .i64 0] [(0, (1, .tmp 18))], none⟩, ⟨some 20, .app 1 8 (.tmp 17) (.tmp 19), none⟩, ⟨some 5, .move (.tmp 20), none⟩])) (.pre [] [6, 5, 4, 3, 1] [5, 1] (.reg [⟨some 21, .move (.tmp 4), none⟩, ⟨some 22, .move (.tmp 3), none⟩, ⟨some 23, .addr 0 (.tmp 1), none⟩, ⟨some 24, .load none (.tmp 23), none⟩, ⟨some 25, .call (.func 76) [.tmp 21, .tmp 22, .tmp 24], none⟩, ⟨some 4, .move (.tmp 25), none⟩])))) (.pre [] [6, 5, 4, 3, 1] [5, 1] (.reg [⟨some 15, .move (.tmp 6), none⟩, ⟨some 16, .bin .no .add (.tmp 15) (.const (.int .i64 1)), none⟩, ⟨some 6, .move (.tmp 16), none⟩]))))))) (.seq (.pre [] [5] [5] (.reg [⟨some 26, .move (.tmp 5), none⟩, ⟨some 2, .move (.tmp 26), none⟩])) .ret))))), 1, [.t 2]⟩
theorem ok88 : cFun Tryd.prog 99 [0, 1] X88 Tryd.f88 = some A88 := by kernel_rfl
/- alembic/alembicref1.Rev -/
def X89 : FnAnn := ⟨[], [(8, [], [5], []), (6, [], [6, 5, 1, 0], []), (7, [], [6, 5, 1, 0], []), (5, [], [6, 5, 1, 0], []), (4, [], [5, 1, 0], []), (3, [], [1, 0], []), (2, [], [], []), (1, [], [1, 0], []), (0, [], [1, 0], [])], [([6, 5, 1, 0], [])]⟩
def A89 : AFun := ⟨.seq (.pre [] [1, 0] [] (.reg [⟨some 4, .move (.const (.int .i64 0)), none⟩])) (.seq (.seq (.pre [] [1, 0] [] (.reg [⟨some 7, .move (.tmp 1), none⟩, ⟨some 8, .bin .no .lss (.tmp 7) (.const (.int .i64 0)), none⟩, ⟨some 9, .move (.tmp 8), none⟩, ⟨some 10, .move (.tmp 1), some (9, false)⟩, ⟨some 11, .bin .no .gtr (.tmp 10) (.const (.int .i64 20)), some (9, false)⟩, ⟨some 12, .pick (.tmp 9) (.const (.bool true)) (.tmp 11), none⟩])) (.cond (.tmp 12) (.seq (.pre [] [] [] (.reg [⟨some 4, .move (.const (.int .i64 0)), none⟩])) .ret) .skip)) (.seq (.pre [] [1, 0] [] (.reg [⟨some 5, .move (.const (.int .i64 0)), none⟩])) (.seq (.seq (.pre [] [5, 1, 0] [] (.reg [⟨some 6, .move (.const (.int .i64 0)), none⟩])) (.block 0 (.loop [6, 5, 1, 0] [] (.seq (.seq (.pre [] [6, 5, 1, 0] [] (.reg [⟨some 13, .move (.tmp 6), none⟩, ⟨some 14, .move (.tmp 1), none⟩, ⟨some 15, .bin .no .lss (.tmp 13) (.tmp 14), none⟩])) (.cond (.tmp 15) .skip (.exit 0))) (.seq (.block 1 (.pre [] [6, 5, 1, 0] [] (.reg [⟨some 18, .move (.tmp 5), none⟩, ⟨some 19, .bin .no .mul (.const (.int .i64 2)) (.tmp 18), none⟩, ⟨some 20, .move (.tmp 0), none⟩, ⟨some 21, .move (.tmp 6), none⟩, ⟨some 22, .conv .u64 (.tmp 21), none⟩, ⟨some 23, .bin .no .shr (.tmp 20) (.tmp 22), none⟩, ⟨some 24, .bin .no .and (.tmp 23) (.const (.int .i64 1)), none⟩, ⟨some 25, .bin .no .add (.tmp 19) (.tmp 24), none⟩, ⟨some 5, .move (.tmp 25), none⟩]))) (.pre [] [6, 5, 1, 0] [] (.reg [⟨some 16, .move (.tmp 6), none⟩, ⟨some 17, .bin .no .add (.tmp 16) (.const (.int .i64 1)), none⟩, ⟨some 6, .move (.tmp 17), none⟩]))))))) (.seq (.pre [] [5] [] (.reg [⟨some 26, .move (.tmp 5), none⟩, ⟨some 4, .move (.tmp 26), none⟩])) .ret)))), 2, [.t 4]⟩
theorem ok89 : cFun Tryd.prog 99 [0, 1] X89 Tryd.f89 = some A89 := by kernel_rfl
/- alembic/alembicref1.Inv -/
def X90 : FnAnn := ⟨[], [(1, [], [1, 0], []), (0, [], [1, 0], [])], []⟩
def A90 : AFun := ⟨.seq (.pre [] [1, 0] [] (.reg [⟨some 4, .move (.const (.int .i64 0)), none⟩])) (.seq (.pre [] [1, 0] [] (.reg [⟨some 5, .move (.tmp 0), none⟩, ⟨some 6, .move (.tmp 1), none⟩, ⟨some 7, .bin .no .sub (.tmp 6) (.const (.int .i64 2)), none⟩, ⟨some 8, .move (.tmp 1), none⟩, ⟨some 9, .call (.func 37) [.tmp 5, .tmp 7, .tmp 8], none⟩, ⟨some 4, .move (.tmp 9), none⟩])) .ret), 2, [.t 4]⟩
theorem ok90 : cFun Tryd.prog 99 [0, 1] X90 Tryd.f90 = some A90 := by kernel_rfl
/- alembic/alembicref1.Root -/
def X91 : FnAnn := ⟨[], [(9, [], [4], []), (8, [], [4, 3, 1], [1]), (7, [], [4, 3, 1], [1]), (6, [], [3, 1], [1]), (5, [], [1], [1]), (4, [], [], []), (3, [], [1], [1]), (2, [], [], []), (1, [], [1], [1]), (0, [], [0], [])], [([4, 3, 1], [1])]⟩
def A91 : AFun := ⟨.seq (.pre [] [0] [] (.reg [⟨some 1, .box 2 (.tmp 0), none⟩, ⟨some 2, .move (.const (.int .i64 0)), none⟩])) (.seq (.seq (.pre [] [1] [1] (.reg [⟨some 5, .addr 1 (.tmp 1), none⟩, ⟨some 6, .load none (.tmp 5), none⟩, ⟨some 7, .bin .no .eql (.tmp 6) (.const (.int .i64 256)), none⟩, ⟨some 8, .move (.tmp 7), none⟩, ⟨some 9, .addr 0 (.tmp 1), some (8, true)⟩, ⟨some 10, .load none (.tmp 9), some (8, true)⟩, ⟨some 11, .bin .no .eql (.tmp 10) (.const (.int .i64 3329)), some (8, true)⟩, ⟨some 12, .pick (.tmp 8) (.tmp 11) (.const (.bool false)), none⟩])) (.cond (.tmp 12) (.seq (.pre [] [] [] (.reg [⟨some 2, .move (.const (.int .i64 17)), none⟩])) .ret) .skip)) (.seq (.seq (.pre [] [1] [1] (.reg [⟨some 13, .addr 1 (.tmp 1), none⟩, ⟨some 14, .load none (.tmp 13), none⟩, ⟨some 15, .bin .no .eql (.tmp 14) (.const (.int .i64 256)), none⟩, ⟨some 16, .move (.tmp 15), none⟩, ⟨some 17, .addr 0 (.tmp 1), some (16, true)⟩, ⟨some 18, .load none (.tmp 17), some (16, true)⟩, ⟨some 19, .bin .no .eql (.tmp 18) (.const (.int .i64 8380417)), some (16, true)⟩, ⟨some 20, .pick (.tmp 16) (.tmp 19) (.const (.bool false)), none⟩])) (.cond (.tmp 20) (.seq (.pre [] [] [] (.reg [⟨some 2, .move (.const (.int .i64 1753)), none⟩])) .ret) .skip)) (.seq (.pre [] [1] [1] (.reg [⟨some 21, .load (some 2) (.tmp 1), none⟩, ⟨some 22, .call (.func 87) [.tmp 21], none⟩, ⟨some 3, .move (.tmp 22), none⟩])) (.seq (.pre [] [3, 1] [1] (.reg [⟨some 4, .move (.const (.int .i64 2)), none⟩])) (.seq (.block 0 (.loop [4, 3, 1] [1] (.seq (.seq (.pre [] [4, 3, 1] [1] (.reg [⟨some 23, .move (.tmp 4), none⟩, ⟨some 24, .move (.tmp 3), none⟩, ⟨some 25, .conv .u64 (.tmp 24), none⟩, ⟨some 26, .bin .no .shl (.const (.int .i64 1)) (.tmp 25), none⟩, ⟨some 27, .addr 0 (.tmp 1), none⟩, ⟨some 28, .load none (.tmp 27), none⟩, ⟨some 29, .call (.func 37) [.tmp 23, .tmp 26, .tmp 28], none⟩, ⟨some 30, .addr 0 (.tmp 1), none⟩, ⟨some 31, .load none (.tmp 30), none⟩, ⟨some 32, .bin .no .sub (.tmp 31) (.const (.int .i64 1)), none⟩, ⟨some 33, .bin .no .neq (.tmp 29) (.tmp 32), none⟩])) (.cond (.tmp 33) .skip (.exit 0))) (.block 1 (.pre [] [4, 3, 1] [1] (.reg [⟨some 34, .move (.tmp 4), none⟩, ⟨some 35, .bin .no .add (.tmp 34) (.const (.int .i64 1)), none⟩, ⟨some 4, .move (.tmp 35), none⟩])))))) (.seq (.pre [] [4] [] (.reg [⟨some 36, .move (.tmp 4), none⟩, ⟨some 2, .move (.tmp 36), none⟩])) .ret)))))), 1, [.t 2]⟩
theorem ok91 : cFun Tryd.prog 99 [0, 1] X91 Tryd.f91 = some A91 := by kernel_rfl
/- alembic/alembicref1.Primes -/
def X92 : FnAnn := ⟨[], [(1, [], [], []), (0, [], [], [])], []⟩
def A92 : AFun := ⟨.seq (.pre [] [] [] (.reg [⟨some 0, .move (.const (.slice none 0 0)), none⟩])) (.seq (.pre [] [] [] (.reg [⟨some 1, .bsl 7 [.i .i64 0] [(0, (1, .const (.int .i64 17))), (1, (1, .const (.int .i64 97))), (2, (1, .const (.int .i64 257))), (3, (1, .const (.int .i64 3329))), (4, (1, .const (.int .i64 7681))), (5, (1, .const (.int .i64 12289))), (6, (1, .const (.int .i64 8380417)))], none⟩, ⟨some 0, .move (.tmp 1), none⟩])) .ret), 0, [.t 0]⟩
theorem ok92 : cFun Tryd.prog 99 [0, 1] X92 Tryd.f92 = some A92 := by kernel_rfl
def tab : Nat → Option AFun
  | 3 => some A3
  | 6 => some A6
  | 9 => some A9
  | 10 => some A10
  | 13 => some A13
  | 14 => some A14
  | 15 => some A15
  | 17 => some A17
  | 18 => some A18
  | 19 => some A19
  | 20 => some A20
  | 21 => some A21
  | 23 => some A23
  | 24 => some A24
  | 26 => some A26
  | 29 => some A29
  | 32 => some A32
  | 34 => some A34
  | 35 => some A35
  | 36 => some A36
  | 37 => some A37
  | 38 => some A38
  | 40 => some A40
  | 41 => some A41
  | 42 => some A42
  | 43 => some A43
  | 44 => some A44
  | 45 => some A45
  | 46 => some A46
  | 47 => some A47
  | 48 => some A48
  | 49 => some A49
  | 50 => some A50
  | 56 => some A56
  | 57 => some A57
  | 58 => some A58
  | 59 => some A59
  | 60 => some A60
  | 61 => some A61
  | 63 => some A63
  | 64 => some A64
  | 65 => some A65
  | 66 => some A66
  | 67 => some A67
  | 72 => some A72
  | 73 => some A73
  | 74 => some A74
  | 75 => some A75
  | 76 => some A76
  | 77 => some A77
  | 78 => some A78
  | 79 => some A79
  | 80 => some A80
  | 81 => some A81
  | 82 => some A82
  | 83 => some A83
  | 84 => some A84
  | 85 => some A85
  | 86 => some A86
  | 87 => some A87
  | 88 => some A88
  | 89 => some A89
  | 90 => some A90
  | 91 => some A91
  | 92 => some A92
  | _ => none
theorem htab (f : Nat) (F : AFun) (h : tab f = some F) : ∃ fn x, Tryd.prog.funcs[f]? = some fn ∧ cFun Tryd.prog 99 [0, 1] x fn = some F := by
  unfold tab at h
  split at h
  · cases h; exact ⟨Tryd.f3, X3, Tryd.func3, ok3⟩
  · cases h; exact ⟨Tryd.f6, X6, Tryd.func6, ok6⟩
  · cases h; exact ⟨Tryd.f9, X9, Tryd.func9, ok9⟩
  · cases h; exact ⟨Tryd.f10, X10, Tryd.func10, ok10⟩
  · cases h; exact ⟨Tryd.f13, X13, Tryd.func13, ok13⟩
  · cases h; exact ⟨Tryd.f14, X14, Tryd.func14, ok14⟩
  · cases h; exact ⟨Tryd.f15, X15, Tryd.func15, ok15⟩
  · cases h; exact ⟨Tryd.f17, X17, Tryd.func17, ok17⟩
  · cases h; exact ⟨Tryd.f18, X18, Tryd.func18, ok18⟩
  · cases h; exact ⟨Tryd.f19, X19, Tryd.func19, ok19⟩
  · cases h; exact ⟨Tryd.f20, X20, Tryd.func20, ok20⟩
  · cases h; exact ⟨Tryd.f21, X21, Tryd.func21, ok21⟩
  · cases h; exact ⟨Tryd.f23, X23, Tryd.func23, ok23⟩
  · cases h; exact ⟨Tryd.f24, X24, Tryd.func24, ok24⟩
  · cases h; exact ⟨Tryd.f26, X26, Tryd.func26, ok26⟩
  · cases h; exact ⟨Tryd.f29, X29, Tryd.func29, ok29⟩
  · cases h; exact ⟨Tryd.f32, X32, Tryd.func32, ok32⟩
  · cases h; exact ⟨Tryd.f34, X34, Tryd.func34, ok34⟩
  · cases h; exact ⟨Tryd.f35, X35, Tryd.func35, ok35⟩
  · cases h; exact ⟨Tryd.f36, X36, Tryd.func36, ok36⟩
  · cases h; exact ⟨Tryd.f37, X37, Tryd.func37, ok37⟩
  · cases h; exact ⟨Tryd.f38, X38, Tryd.func38, ok38⟩
  · cases h; exact ⟨Tryd.f40, X40, Tryd.func40, ok40⟩
  · cases h; exact ⟨Tryd.f41, X41, Tryd.func41, ok41⟩
  · cases h; exact ⟨Tryd.f42, X42, Tryd.func42, ok42⟩
  · cases h; exact ⟨Tryd.f43, X43, Tryd.func43, ok43⟩
  · cases h; exact ⟨Tryd.f44, X44, Tryd.func44, ok44⟩
  · cases h; exact ⟨Tryd.f45, X45, Tryd.func45, ok45⟩
  · cases h; exact ⟨Tryd.f46, X46, Tryd.func46, ok46⟩
  · cases h; exact ⟨Tryd.f47, X47, Tryd.func47, ok47⟩
  · cases h; exact ⟨Tryd.f48, X48, Tryd.func48, ok48⟩
  · cases h; exact ⟨Tryd.f49, X49, Tryd.func49, ok49⟩
  · cases h; exact ⟨Tryd.f50, X50, Tryd.func50, ok50⟩
  · cases h; exact ⟨Tryd.f56, X56, Tryd.func56, ok56⟩
  · cases h; exact ⟨Tryd.f57, X57, Tryd.func57, ok57⟩
  · cases h; exact ⟨Tryd.f58, X58, Tryd.func58, ok58⟩
  · cases h; exact ⟨Tryd.f59, X59, Tryd.func59, ok59⟩
  · cases h; exact ⟨Tryd.f60, X60, Tryd.func60, ok60⟩
  · cases h; exact ⟨Tryd.f61, X61, Tryd.func61, ok61⟩
  · cases h; exact ⟨Tryd.f63, X63, Tryd.func63, ok63⟩
  · cases h; exact ⟨Tryd.f64, X64, Tryd.func64, ok64⟩
  · cases h; exact ⟨Tryd.f65, X65, Tryd.func65, ok65⟩
  · cases h; exact ⟨Tryd.f66, X66, Tryd.func66, ok66⟩
  · cases h; exact ⟨Tryd.f67, X67, Tryd.func67, ok67⟩
  · cases h; exact ⟨Tryd.f72, X72, Tryd.func72, ok72⟩
  · cases h; exact ⟨Tryd.f73, X73, Tryd.func73, ok73⟩
  · cases h; exact ⟨Tryd.f74, X74, Tryd.func74, ok74⟩
  · cases h; exact ⟨Tryd.f75, X75, Tryd.func75, ok75⟩
  · cases h; exact ⟨Tryd.f76, X76, Tryd.func76, ok76⟩
  · cases h; exact ⟨Tryd.f77, X77, Tryd.func77, ok77⟩
  · cases h; exact ⟨Tryd.f78, X78, Tryd.func78, ok78⟩
  · cases h; exact ⟨Tryd.f79, X79, Tryd.func79, ok79⟩
  · cases h; exact ⟨Tryd.f80, X80, Tryd.func80, ok80⟩
  · cases h; exact ⟨Tryd.f81, X81, Tryd.func81, ok81⟩
  · cases h; exact ⟨Tryd.f82, X82, Tryd.func82, ok82⟩
  · cases h; exact ⟨Tryd.f83, X83, Tryd.func83, ok83⟩
  · cases h; exact ⟨Tryd.f84, X84, Tryd.func84, ok84⟩
  · cases h; exact ⟨Tryd.f85, X85, Tryd.func85, ok85⟩
  · cases h; exact ⟨Tryd.f86, X86, Tryd.func86, ok86⟩
  · cases h; exact ⟨Tryd.f87, X87, Tryd.func87, ok87⟩
  · cases h; exact ⟨Tryd.f88, X88, Tryd.func88, ok88⟩
  · cases h; exact ⟨Tryd.f89, X89, Tryd.func89, ok89⟩
  · cases h; exact ⟨Tryd.f90, X90, Tryd.func90, ok90⟩
  · cases h; exact ⟨Tryd.f91, X91, Tryd.func91, ok91⟩
  · cases h; exact ⟨Tryd.f92, X92, Tryd.func92, ok92⟩
  · cases h
end Zab.YtcebddjidpbhgaaDoorB
