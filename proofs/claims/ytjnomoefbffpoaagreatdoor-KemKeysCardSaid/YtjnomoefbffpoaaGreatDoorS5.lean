/- Parts of the proof, in order. -/
import Derived.Test.YtjnomoefbffpoaaGreatDoorProg
import Derived.Test.YtjnomoefbffpoaaGreatDoorS2
import Derived.KernelRfl
import Derived.Test.YtjnomoefbffpoaaGreatDoorS3
namespace Zab.YtjnomoefbffpoaaGreatDoorB
open Go Go.Proofs
set_option maxRecDepth 100000
set_option maxHeartbeats 0
/- alembic/alembiclaw10.KemKeys -/
def X3 : FnAnn := ⟨[], [(17, [], [19, 18, 17, 16, 15, 14, 13, 12, 11, 10, 9, 8, 7], []), (14, [], [22, 21, 20, 19, 18, 17, 16, 15, 14, 13, 12, 11, 10, 9, 8, 7], []), (16, [], [], []), (15, [], [22, 21, 20, 19, 18, 17, 16, 15, 14, 13, 12, 11, 10, 9, 8, 7], []), (13, [], [22, 21, 20, 19, 18, 17, 16, 15, 14, 13, 12, 11, 10, 9, 8, 7], []), (12, [], [21, 20, 19, 18, 17, 16, 15, 14, 13, 12, 11, 10, 9, 8, 7], []), (11, [], [20, 19, 18, 17, 16, 15, 14, 13, 12, 11, 10, 9, 8, 7], []), (10, [], [19, 18, 17, 16, 15, 14, 13, 12, 11, 10, 9, 8, 7], []), (9, [], [16, 15, 14, 13, 12, 11, 10, 9, 8, 7, 0], []), (8, [], [13, 12, 11, 10, 9, 8, 7, 0], []), (7, [], [10, 9, 8, 7, 2, 1, 0], []), (6, [], [7, 2, 1, 0], []), (5, [], [7], []), (4, [], [7, 2, 1, 0], []), (3, [], [], []), (2, [], [7, 2, 1, 0], []), (1, [], [2, 1, 0], []), (0, [], [2, 1, 0], [])], [([22, 21, 20, 19, 18, 17, 16, 15, 14, 13, 12, 11, 10, 9, 8, 7], [])]⟩
def A3 : AFun := ⟨.seq (.pre [] [2, 1, 0] [] (.reg [⟨some 6, .move (.const (.bool false)), none⟩])) (.seq (.pre [] [2, 1, 0] [] (.reg [⟨some 23, .call (.func 7) [], none⟩, ⟨some 7, .move (.tmp 23), none⟩])) (.seq (.seq (.pre [] [7, 2, 1, 0] [] (.reg [⟨some 24, .move (.tmp 7), none⟩, ⟨some 25, .un .not (.tmp 24), none⟩])) (.cond (.tmp 25) (.seq (.pre [] [] [] (.reg [⟨some 6, .move (.const (.bool false)), none⟩])) .ret) .skip)) (.seq (.seq (.pre [] [7, 2, 1, 0] [] (.reg [⟨some 26, .move (.tmp 1), none⟩, ⟨some 27, .len false (.tmp 26), none⟩, ⟨some 28, .bin .no .gtr (.tmp 27) (.const (.int .i64 40)), none⟩, ⟨some 29, .move (.tmp 28), none⟩, ⟨some 30, .move (.tmp 2), some (29, false)⟩, ⟨some 31, .len false (.tmp 30), some (29, false)⟩, ⟨some 32, .bin .no .gtr (.tmp 31) (.const (.int .i64 40)), some (29, false)⟩, ⟨some 33, .pick (.tmp 29) (.const (.bool true)) (.tmp 32), none⟩])) (.cond (.tmp 33) (.seq (.pre [] [7] [] (.reg [⟨some 34, .move (.tmp 7), none⟩, ⟨some 6, .move (.tmp 34), none⟩])) .ret) .skip)) (.seq (.pre [] [7, 2, 1, 0] [] (.reg [⟨some 36, .move (.tmp 0), none⟩, ⟨some 37, .move (.tmp 1), none⟩, ⟨some 38, .move (.tmp 2), none⟩, ⟨some 39, .call (.func 8) [.tmp 36, .tmp 37, .tmp 38], none⟩, ⟨some 35, .move (.tmp 39), none⟩, ⟨some 40, .ext 0 (.tmp 35), none⟩, ⟨some 41, .ext 1 (.tmp 35), none⟩, ⟨some 42, .ext 2 (.tmp 35), none⟩, ⟨some 8, .move (.tmp 40), none⟩, ⟨some 9, .move (.tmp 41), none⟩, ⟨some 10, .move (.tmp 42), none⟩])) (.seq (.pre [] [10, 9, 8, 7, 2, 1, 0] [] (.reg [⟨some 44, .move (.tmp 0), none⟩, ⟨some 45, .move (.tmp 1), none⟩, ⟨some 46, .move (.tmp 2), none⟩, ⟨some 47, .call (.func 9) [.tmp 44, .tmp 45, .tmp 46], none⟩, ⟨some 43, .move (.tmp 47), none⟩, ⟨some 48, .ext 0 (.tmp 43), none⟩, ⟨some 49, .ext 1 (.tmp 43), none⟩, ⟨some 50, .ext 2 (.tmp 43), none⟩, ⟨some 11, .move (.tmp 48), none⟩, ⟨some 12, .move (.tmp 49), none⟩, ⟨some 13, .move (.tmp 50), none⟩])) (.seq (.pre [] [13, 12, 11, 10, 9, 8, 7, 0] [] (.reg [⟨some 52, .move (.tmp 0), none⟩, ⟨some 53, .call (.func 10) [.tmp 52], none⟩, ⟨some 51, .move (.tmp 53), none⟩, ⟨some 54, .ext 0 (.tmp 51), none⟩, ⟨some 55, .ext 1 (.tmp 51), none⟩, ⟨some 56, .ext 2 (.tmp 51), none⟩, ⟨some 14, .move (.tmp 54), none⟩, ⟨some 15, .move (.tmp 55), none⟩, ⟨some 16, .move (.tmp 56), none⟩])) (.seq (.pre [] [16, 15, 14, 13, 12, 11, 10, 9, 8, 7, 0] [] (.reg [⟨some 58, .move (.tmp 0), none⟩, ⟨some 59, .call (.func 11) [.tmp 58], none⟩, ⟨some 57, .move (.tmp 59), none⟩, ⟨some 60, .ext 0 (.tmp 57), none⟩, ⟨some 61, .ext 1 (.tmp 57), none⟩, ⟨some 62, .ext 2 (.tmp 57), none⟩, ⟨some 17, .move (.tmp 60), none⟩, ⟨some 18, .move (.tmp 61), none⟩, ⟨some 19, .move (.tmp 62), none⟩])) (.seq (.pre [] [19, 18, 17, 16, 15, 14, 13, 12, 11, 10, 9, 8, 7] [] (.reg [⟨some 63, .call (.func 12) [], none⟩, ⟨some 20, .move (.tmp 63), none⟩])) (.seq (.pre [] [20, 19, 18, 17, 16, 15, 14, 13, 12, 11, 10, 9, 8, 7] [] (.reg [⟨some 64, .call (.func 13) [], none⟩, ⟨some 21, .move (.tmp 64), none⟩])) (.seq (.seq (.pre [] [21, 20, 19, 18, 17, 16, 15, 14, 13, 12, 11, 10, 9, 8, 7] [] (.reg [⟨some 22, .move (.const (.int .i64 0)), none⟩])) (.block 0 (.loop [22, 21, 20, 19, 18, 17, 16, 15, 14, 13, 12, 11, 10, 9, 8, 7] [] (.seq (.seq (.pre [] [22, 21, 20, 19, 18, 17, 16, 15, 14, 13, 12, 11, 10, 9, 8, 7] [] (.reg [⟨some 65, .move (.tmp 22), none⟩, ⟨some 66, .bin .no .lss (.tmp 65) (.const (.int .i64 3)), none⟩])) (.cond (.tmp 66) .skip (.exit 0))) (.seq (.block 1 (.seq (.pre [] [22, 21, 20, 19, 18, 17, 16, 15, 14, 13, 12, 11, 10, 9, 8, 7] [] (.reg [⟨some 69, .move (.tmp 20), none⟩, ⟨some 70, .move (.tmp 22), none⟩, ⟨some 71, .ixS 5 (.tmp 69) (.tmp 70), none⟩, ⟨some 72, .addr 0 (.tmp 71), none⟩, ⟨some 73, .load none (.tmp 72), none⟩, ⟨some 74, .move (.tmp 21), none⟩, ⟨some 75, .move (.tmp 22), none⟩, ⟨some 76, .ixS 5 (.tmp 74) (.tmp 75), none⟩, ⟨some 77, .addr 0 (.tmp 76), none⟩, ⟨some 78, .load none (.tmp 77), none⟩, ⟨some 79, .bin .no .neq (.tmp 73) (.tmp 78), none⟩, ⟨some 80, .move (.tmp 79), none⟩, ⟨some 81, .move (.tmp 20), some (80, false)⟩, ⟨some 82, .move (.tmp 22), some (80, false)⟩, ⟨some 83, .ixS 5 (.tmp 81) (.tmp 82), some (80, false)⟩, ⟨some 84, .addr 1 (.tmp 83), some (80, false)⟩, ⟨some 85, .load none (.tmp 84), some (80, false)⟩, ⟨some 86, .move (.tmp 21), some (80, false)⟩, ⟨some 87, .move (.tmp 22), some (80, false)⟩, ⟨some 88, .ixS 5 (.tmp 86) (.tmp 87), some (80, false)⟩, ⟨some 89, .addr 1 (.tmp 88), some (80, false)⟩, ⟨some 90, .load none (.tmp 89), some (80, false)⟩, ⟨some 91, .bin .no .neq (.tmp 85) (.tmp 90), some (80, false)⟩, ⟨some 92, .pick (.tmp 80) (.const (.bool true)) (.tmp 91), none⟩, ⟨some 93, .move (.tmp 92), none⟩, ⟨some 94, .move (.tmp 20), some (93, false)⟩, ⟨some 95, .move (.tmp 22), some (93, false)⟩, ⟨some 96, .ixS 5 (.tmp 94) (.tmp 95), some (93, false)⟩, ⟨some 97, .addr 2 (.tmp 96), some (93, false)⟩, ⟨some 98, .load none (.tmp 97), some (93, false)⟩, ⟨some 99, .move (.tmp 21), some (93, false)⟩, ⟨some 100, .move (.tmp 22), some (93, false)⟩, ⟨some 101, .ixS 5 (.tmp 99) (.tmp 100), some (93, false)⟩, ⟨some 102, .addr 2 (.tmp 101), some (93, false)⟩, ⟨some 103, .load none (.tmp 102), some (93, false)⟩, ⟨some 104, .bin .no .neq (.tmp 98) (.tmp 103), some (93, false)⟩, ⟨some 105, .pick (.tmp 93) (.const (.bool true)) (.tmp 104), none⟩, ⟨some 106, .move (.tmp 105), none⟩, ⟨some 107, .move (.tmp 20), some (106, false)⟩, ⟨some 108, .move (.tmp 22), some (106, false)⟩, ⟨some 109, .ixS 5 (.tmp 107) (.tmp 108), some (106, false)⟩, ⟨some 110, .addr 3 (.tmp 109), some (106, false)⟩, ⟨some 111, .load none (.tmp 110), some (106, false)⟩, ⟨some 112, .move (.tmp 21), some (106, false)⟩, ⟨some 113, .move (.tmp 22), some (106, false)⟩, ⟨some 114, .ixS 5 (.tmp 112) (.tmp 113), some (106, false)⟩, ⟨some 115, .addr 3 (.tmp 114), some (106, false)⟩, ⟨some 116, .load none (.tmp 115), some (106, false)⟩, ⟨some 117, .bin .no .neq (.tmp 111) (.tmp 116), some (106, false)⟩, ⟨some 118, .pick (.tmp 106) (.const (.bool true)) (.tmp 117), none⟩, ⟨some 119, .move (.tmp 118), none⟩, ⟨some 120, .move (.tmp 20), some (119, false)⟩, ⟨some 121, .move (.tmp 22), some (119, false)⟩, ⟨some 122, .ixS 5 (.tmp 120) (.tmp 121), some (119, false)⟩, ⟨some 123, .addr 4 (.tmp 122), some (119, false)⟩, ⟨some 124, .load none (.tmp 123), some (119, false)⟩, ⟨some 125, .move (.tmp 21), some (119, false)⟩, ⟨some 126, .move (.tmp 22), some (119, false)⟩, ⟨some 127, .ixS 5 (.tmp 125) (.tmp 126), some (119, false)⟩, ⟨some 128, .addr 4 (.tmp 127), some (119, false)⟩, ⟨some 129, .load none (.tmp 128), some (119, false)⟩, ⟨some 130, .bin .no .neq (.tmp 124) (.tmp 129), some (119, false)⟩, ⟨some 131, .pick (.tmp 119) (.const (.bool true)) (.tmp 130), none⟩])) (.cond (.tmp 131) (.seq (.pre [] [] [] (.reg [⟨some 6, .move (.const (.bool false)), none⟩])) .ret) .skip))) (.pre [] [22, 21, 20, 19, 18, 17, 16, 15, 14, 13, 12, 11, 10, 9, 8, 7] [] (.reg [⟨some 67, .move (.tmp 22), none⟩, ⟨some 68, .bin .no .add (.tmp 67) (.const (.int .i64 1)), none⟩, ⟨some 22, .move (.tmp 68), none⟩]))))))) (.seq (.pre [] [19, 18, 17, 16, 15, 14, 13, 12, 11, 10, 9, 8, 7] [] (.reg [⟨some 132, .move (.tmp 7), none⟩, ⟨some 133, .move (.tmp 132), none⟩, ⟨some 134, .move (.tmp 8), some (133, true)⟩, ⟨some 135, .move (.tmp 11), some (133, true)⟩, ⟨some 136, .call (.func 14) [.tmp 134, .tmp 135], some (133, true)⟩, ⟨some 137, .pick (.tmp 133) (.tmp 136) (.const (.bool false)), none⟩, ⟨some 138, .move (.tmp 137), none⟩, ⟨some 139, .move (.tmp 9), some (138, true)⟩, ⟨some 140, .move (.tmp 12), some (138, true)⟩, ⟨some 141, .call (.func 14) [.tmp 139, .tmp 140], some (138, true)⟩, ⟨some 142, .pick (.tmp 138) (.tmp 141) (.const (.bool false)), none⟩, ⟨some 143, .move (.tmp 142), none⟩, ⟨some 144, .move (.tmp 10), some (143, true)⟩, ⟨some 145, .move (.tmp 13), some (143, true)⟩, ⟨some 146, .call (.func 15) [.tmp 144, .tmp 145], some (143, true)⟩, ⟨some 147, .pick (.tmp 143) (.tmp 146) (.const (.bool false)), none⟩, ⟨some 148, .move (.tmp 147), none⟩, ⟨some 149, .move (.tmp 14), some (148, true)⟩, ⟨some 150, .move (.tmp 17), some (148, true)⟩, ⟨some 151, .bin .no .eql (.tmp 149) (.tmp 150), some (148, true)⟩, ⟨some 152, .pick (.tmp 148) (.tmp 151) (.const (.bool false)), none⟩, ⟨some 153, .move (.tmp 152), none⟩, ⟨some 154, .move (.tmp 15), some (153, true)⟩, ⟨some 155, .move (.tmp 18), some (153, true)⟩, ⟨some 156, .bin .no .eql (.tmp 154) (.tmp 155), some (153, true)⟩, ⟨some 157, .pick (.tmp 153) (.tmp 156) (.const (.bool false)), none⟩, ⟨some 158, .move (.tmp 157), none⟩, ⟨some 159, .move (.tmp 16), some (158, true)⟩, ⟨some 160, .move (.tmp 19), some (158, true)⟩, ⟨some 161, .bin .no .eql (.tmp 159) (.tmp 160), some (158, true)⟩, ⟨some 162, .pick (.tmp 158) (.tmp 161) (.const (.bool false)), none⟩, ⟨some 6, .move (.tmp 162), none⟩])) .ret))))))))))), 3, [.t 6]⟩
theorem ok3 : cFun Tryz.prog 183 [0, 1, 2, 3, 4, 5, 6, 7, 8, 9, 10, 11, 12, 13] X3 Tryz.f3 = some A3 := by kernel_rfl
/- alembic/alembiclaw10.first -/
def X7 : FnAnn := ⟨[], [(2, [], [3, 2, 1], []), (1, [], [], []), (0, [], [], [])], []⟩
def A7 : AFun := by
  refine (fun x (_ : cFun Tryz.prog 183 [0, 1, 2, 3, 4, 5, 6, 7, 8, 9, 10, 11, 12, 13] X7 Tryz.f7 = some x) => x) ?_ ?_
  rotate_left
  · conv => lhs; cbv
theorem ok7 : cFun Tryz.prog 183 [0, 1, 2, 3, 4, 5, 6, 7, 8, 9, 10, 11, 12, 13] X7 Tryz.f7 = some A7 := by kernel_rfl
/- alembic/kem.Keys -/
def X8 : FnAnn := ⟨[(14, [(0, 1)]), (16, [(0, 1)]), (17, [(0, 1)]), (56, []), (57, []), (80, []), (81, []), (88, []), (90, []), (91, []), (99, [])], [(23, [17, 16], [17, 16, 2], []), (22, [], [13], [43]), (21, [], [17, 16, 13, 2], [43, 17, 16]), (20, [], [17, 16, 13, 11, 2], [43, 17, 16]), (19, [], [66, 65, 64, 17, 16, 14, 13, 12, 11, 9, 2], [43, 17, 16, 14, 9]), (18, [], [66, 65, 64, 18, 17, 16, 14, 13, 12, 11, 9, 2], [43, 17, 16, 14, 9]), (17, [], [66, 65, 64, 20, 19, 18, 17, 16, 14, 13, 12, 11, 9, 2], [43, 17, 16, 14, 9]), (16, [], [66, 65, 64, 19, 18, 17, 16, 14, 13, 12, 11, 9, 2], [43, 17, 16, 14, 9]), (15, [], [66, 65, 64, 17, 16, 14, 13, 12, 11, 9, 2], [43, 17, 16, 14, 9]), (14, [], [66, 65, 64, 17, 16, 14, 13, 12, 11, 9, 2], [43, 17, 16, 14, 9]), (13, [14], [17, 16, 14, 13, 12, 11, 9, 2], [43, 17, 16, 9]), (12, [], [14, 13, 12, 11, 9, 2], [43, 14, 9]), (11, [], [46, 45, 14, 13, 12, 11, 9, 2], [43, 14, 9]), (10, [], [46, 45, 15, 14, 13, 12, 11, 9, 2], [43, 14, 9]), (9, [], [46, 45, 14, 13, 12, 11, 9, 2], [43, 14, 9]), (8, [], [46, 45, 14, 13, 12, 11, 9, 2], [43, 14, 9]), (7, [], [14, 13, 12, 11, 9, 2], [43, 14, 9]), (6, [], [13, 12, 11, 9, 2], [43, 9]), (5, [], [12, 11, 9, 2], [9]), (4, [], [9, 2, 1], [9]), (3, [], [10], []), (2, [], [10, 9, 2, 1], [9]), (1, [], [2, 1, 0], []), (0, [], [2, 1, 0], [])], [([46, 45, 14, 13, 12, 11, 9, 2], [43, 14, 9]), ([66, 65, 64, 17, 16, 14, 13, 12, 11, 9, 2], [43, 17, 16, 14, 9])]⟩
def A8 : AFun := by
  refine (fun x (_ : cFun Tryz.prog 183 [0, 1, 2, 3, 4, 5, 6, 7, 8, 9, 10, 11, 12, 13] X8 Tryz.f8 = some x) => x) ?_ ?_
  rotate_left
  · conv => lhs; cbv
theorem ok8 : cFun Tryz.prog 183 [0, 1, 2, 3, 4, 5, 6, 7, 8, 9, 10, 11, 12, 13] X8 Tryz.f8 = some A8 := by kernel_rfl
/- alembic/alembicref10.KemKeys -/
def X9 : FnAnn := ⟨[(15, [(0, 1)]), (16, [(0, 1)]), (20, [(0, 1)]), (21, [(0, 1)]), (43, [(0, 0)]), (45, [(9, 9)]), (49, [(8, 8)])], [(27, [], [21, 20], [21, 20]), (26, [20], [21, 20, 2], [21]), (25, [], [21, 20, 13, 2], [9049, 21, 20]), (22, [], [22, 21, 20, 19, 18, 14, 13, 11, 10, 2], [9049, 21, 20, 11, 10]), (24, [], [22, 21, 20, 19, 18, 14, 13, 11, 10, 2], [9049, 21, 20, 11, 10]), (23, [], [22, 21, 20, 19, 18, 14, 13, 11, 10, 2], [9049, 21, 20, 11, 10]), (21, [], [22, 21, 20, 19, 18, 14, 13, 11, 10, 2], [9049, 21, 20, 11, 10]), (20, [], [21, 20, 19, 18, 14, 13, 11, 10, 2], [9049, 21, 20, 11, 10]), (19, [], [19, 18, 14, 13, 11, 10, 2], [9049, 11, 10]), (18, [16], [18, 16, 14, 13, 11, 10, 2], [9049, 11, 10]), (17, [15], [16, 15, 14, 13, 11, 10, 2], [9049, 16, 11, 10]), (14, [], [17, 16, 15, 14, 13, 12, 11, 10, 2], [9049, 16, 15, 11, 10]), (16, [], [17, 16, 15, 14, 13, 12, 11, 10, 2], [9049, 16, 15, 11, 10]), (15, [], [17, 16, 15, 14, 13, 12, 11, 10, 2], [9049, 16, 15, 11, 10]), (13, [], [17, 16, 15, 14, 13, 12, 11, 10, 2], [9049, 16, 15, 11, 10]), (12, [], [16, 15, 14, 13, 12, 11, 10, 2], [9049, 16, 15, 11, 10]), (11, [], [14, 13, 12, 11, 10, 2], [9049, 11, 10]), (10, [], [13, 12, 11, 10, 2], [9049, 11, 10]), (9, [], [12, 11, 10, 2], [9049, 11, 10]), (8, [10], [11, 10, 2, 1], [11]), (7, [], [10, 2, 1], [10]), (6, [], [2, 1, 0], []), (5, [], [9], []), (4, [], [9, 2, 1, 0], []), (3, [], [2, 1, 0], []), (2, [], [], []), (1, [], [2, 1, 0], []), (0, [], [2, 1, 0], [])], [([17, 16, 15, 14, 13, 12, 11, 10, 2], [9049, 16, 15, 11, 10]), ([22, 21, 20, 19, 18, 14, 13, 11, 10, 2], [9049, 21, 20, 11, 10])]⟩
def A9 : AFun := by
  refine (fun x (_ : cFun Tryz.prog 183 [0, 1, 2, 3, 4, 5, 6, 7, 8, 9, 10, 11, 12, 13] X9 Tryz.f9 = some x) => x) ?_ ?_
  rotate_left
  · conv => lhs; cbv
theorem ok9 : cFun Tryz.prog 183 [0, 1, 2, 3, 4, 5, 6, 7, 8, 9, 10, 11, 12, 13] X9 Tryz.f9 = some A9 := by kernel_rfl
/- alembic/kem.Sizes -/
def X10 : FnAnn := ⟨[], [(4, [], [5], [5]), (3, [], [], []), (2, [], [6, 5], [5]), (1, [], [0], []), (0, [], [0], [])], []⟩
def A10 : AFun := by
  refine (fun x (_ : cFun Tryz.prog 183 [0, 1, 2, 3, 4, 5, 6, 7, 8, 9, 10, 11, 12, 13] X10 Tryz.f10 = some x) => x) ?_ ?_
  rotate_left
  · conv => lhs; cbv
theorem ok10 : cFun Tryz.prog 183 [0, 1, 2, 3, 4, 5, 6, 7, 8, 9, 10, 11, 12, 13] X10 Tryz.f10 = some A10 := by kernel_rfl
/- alembic/alembicref10.KemSizes -/
def X11 : FnAnn := ⟨[], [(4, [], [5], [5]), (3, [], [0], []), (2, [], [], []), (1, [], [0], []), (0, [], [0], [])], []⟩
def A11 : AFun := by
  refine (fun x (_ : cFun Tryz.prog 183 [0, 1, 2, 3, 4, 5, 6, 7, 8, 9, 10, 11, 12, 13] X11 Tryz.f11 = some x) => x) ?_ ?_
  rotate_left
  · conv => lhs; cbv
theorem ok11 : cFun Tryz.prog 183 [0, 1, 2, 3, 4, 5, 6, 7, 8, 9, 10, 11, 12, 13] X11 Tryz.f11 = some A11 := by kernel_rfl
/- alembic/kem.Sets -/
def X12 : FnAnn := ⟨[], [(1, [], [], []), (0, [], [], [])], []⟩
def A12 : AFun := by
  refine (fun x (_ : cFun Tryz.prog 183 [0, 1, 2, 3, 4, 5, 6, 7, 8, 9, 10, 11, 12, 13] X12 Tryz.f12 = some x) => x) ?_ ?_
  rotate_left
  · conv => lhs; cbv
theorem ok12 : cFun Tryz.prog 183 [0, 1, 2, 3, 4, 5, 6, 7, 8, 9, 10, 11, 12, 13] X12 Tryz.f12 = some A12 := by kernel_rfl
/- alembic/alembicref10.KemSets -/
def X13 : FnAnn := ⟨[], [(1, [], [], []), (0, [], [], [])], []⟩
def A13 : AFun := by
  refine (fun x (_ : cFun Tryz.prog 183 [0, 1, 2, 3, 4, 5, 6, 7, 8, 9, 10, 11, 12, 13] X13 Tryz.f13 = some x) => x) ?_ ?_
  rotate_left
  · conv => lhs; cbv
theorem ok13 : cFun Tryz.prog 183 [0, 1, 2, 3, 4, 5, 6, 7, 8, 9, 10, 11, 12, 13] X13 Tryz.f13 = some A13 := by kernel_rfl
/- alembic/alembicref.SameBytes -/
def X14 : FnAnn := ⟨[], [(9, [], [], []), (5, [], [5, 1, 0], []), (8, [], [], []), (7, [], [6, 5, 1, 0], []), (6, [], [5, 1, 0], []), (4, [], [5, 1, 0], []), (3, [], [1, 0], []), (2, [], [], []), (1, [], [1, 0], []), (0, [], [1, 0], [])], [([5, 1, 0], [])]⟩
def A14 : AFun := by
  refine (fun x (_ : cFun Tryz.prog 183 [0, 1, 2, 3, 4, 5, 6, 7, 8, 9, 10, 11, 12, 13] X14 Tryz.f14 = some x) => x) ?_ ?_
  rotate_left
  · conv => lhs; cbv
theorem ok14 : cFun Tryz.prog 183 [0, 1, 2, 3, 4, 5, 6, 7, 8, 9, 10, 11, 12, 13] X14 Tryz.f14 = some A14 := by kernel_rfl
/- alembic/alembicsee.Is -/
def X15 : FnAnn := ⟨[], [(1, [], [1, 0], []), (0, [], [1, 0], [])], []⟩
def A15 : AFun := ⟨.seq (.pre [] [1, 0] [] (.reg [⟨some 4, .move (.const (.bool false)), none⟩])) (.seq (.pre [] [1, 0] [] (.reg [⟨some 5, .move (.tmp 0), none⟩, ⟨some 6, .move (.tmp 1), none⟩, ⟨some 7, .call (.func 52) [.tmp 6], none⟩, ⟨some 8, .call (.func 51) [.tmp 5, .tmp 7], none⟩, ⟨some 4, .move (.tmp 8), none⟩])) .ret), 2, [.t 4]⟩
theorem ok15 : cFun Tryz.prog 183 [0, 1, 2, 3, 4, 5, 6, 7, 8, 9, 10, 11, 12, 13] X15 Tryz.f15 = some A15 := by kernel_rfl
/- alembic/alembicref.Bytes -/
def X26 : FnAnn := ⟨[(7, [(0, 1)])], [(6, [], [3], [7]), (4, [], [4, 3, 0], [7]), (5, [], [4, 3, 0], [7]), (3, [], [4, 3, 0], [7]), (2, [], [3, 0], [7]), (1, [], [0], []), (0, [], [0], [])], [([4, 3, 0], [7])]⟩
def A26 : AFun := by
  refine (fun x (_ : cFun Tryz.prog 183 [0, 1, 2, 3, 4, 5, 6, 7, 8, 9, 10, 11, 12, 13] X26 Tryz.f26 = some x) => x) ?_ ?_
  rotate_left
  · conv => lhs; cbv
theorem ok26 : cFun Tryz.prog 183 [0, 1, 2, 3, 4, 5, 6, 7, 8, 9, 10, 11, 12, 13] X26 Tryz.f26 = some A26 := by kernel_rfl
/- alembic/kem.asked -/
def X28 : FnAnn := ⟨[(23, [(7, 7)])], [(10, [], [8, 6], [8, 6]), (9, [], [25, 24, 23, 8, 6, 2], [8, 6]), (8, [], [6], [6]), (7, [], [25, 24, 23, 11, 10, 8, 6, 2], [8, 6]), (6, [], [25, 24, 23, 8, 6, 2], [8, 6]), (5, [], [25, 24, 23, 8, 6, 2], [8, 6]), (4, [], [8, 6, 2, 1], [8, 6]), (3, [], [6], [6]), (2, [], [9, 8, 6, 2, 1], [8, 6]), (1, [], [6, 2, 1, 0], [6]), (0, [], [2, 1, 0], [])], [([25, 24, 23, 8, 6, 2], [8, 6])]⟩
def A28 : AFun := by
  refine (fun x (_ : cFun Tryz.prog 183 [0, 1, 2, 3, 4, 5, 6, 7, 8, 9, 10, 11, 12, 13] X28 Tryz.f28 = some x) => x) ?_ ?_
  rotate_left
  · conv => lhs; cbv
theorem ok28 : cFun Tryz.prog 183 [0, 1, 2, 3, 4, 5, 6, 7, 8, 9, 10, 11, 12, 13] X28 Tryz.f28 = some A28 := by kernel_rfl
/- alembic/kem.Keys$1 -/
def X29 : FnAnn := ⟨[], [(1, [], [], []), (0, [], [0], [])], []⟩
def A29 : AFun := ⟨.seq (.pre [] [0] [] (.reg [⟨some 1, .box 5 (.tmp 0), none⟩, ⟨some 2, .move (.const (.slice none 0 0)), none⟩])) (.seq (.pre [] [] [] (.reg [⟨some 3, .bsl 2 [.i .i64 0] [(0, (1, .const (.int .i64 32))), (1, (1, .const (.int .i64 32)))], none⟩, ⟨some 2, .move (.tmp 3), none⟩])) .ret), 1, [.t 2]⟩
theorem ok29 : cFun Tryz.prog 183 [0, 1, 2, 3, 4, 5, 6, 7, 8, 9, 10, 11, 12, 13] X29 Tryz.f29 = some A29 := by kernel_rfl
/- alembic/kem.halves -/
def X30 : FnAnn := ⟨[], [(2, [], [4], []), (1, [], [0], []), (0, [], [0], [])], []⟩
def A30 : AFun := by
  refine (fun x (_ : cFun Tryz.prog 183 [0, 1, 2, 3, 4, 5, 6, 7, 8, 9, 10, 11, 12, 13] X30 Tryz.f30 = some x) => x) ?_ ?_
  rotate_left
  · conv => lhs; cbv
theorem ok30 : cFun Tryz.prog 183 [0, 1, 2, 3, 4, 5, 6, 7, 8, 9, 10, 11, 12, 13] X30 Tryz.f30 = some A30 := by kernel_rfl
/- (*alembic/kem.work).to -/
def X31 : FnAnn := ⟨[(15, [])], [(3, [], [5], [0]), (2, [], [6, 5, 0], [0]), (1, [], [1, 0], [0]), (0, [], [1, 0], [0])], []⟩
def A31 : AFun := by
  refine (fun x (_ : cFun Tryz.prog 183 [0, 1, 2, 3, 4, 5, 6, 7, 8, 9, 10, 11, 12, 13] X31 Tryz.f31 = some x) => x) ?_ ?_
  rotate_left
  · conv => lhs; cbv
theorem ok31 : cFun Tryz.prog 183 [0, 1, 2, 3, 4, 5, 6, 7, 8, 9, 10, 11, 12, 13] X31 Tryz.f31 = some A31 := by kernel_rfl
/- (*alembic/kem.work).small -/
def X32 : FnAnn := ⟨[(25, []), (34, [])], [(5, [], [11], [0]), (4, [], [11, 10, 0], [0]), (3, [], [9, 1, 0], [0]), (2, [], [10, 9, 1, 0], [0]), (1, [], [3, 2, 1, 0], [0]), (0, [], [3, 2, 1, 0], [0])], []⟩
def A32 : AFun := by
  refine (fun x (_ : cFun Tryz.prog 183 [0, 1, 2, 3, 4, 5, 6, 7, 8, 9, 10, 11, 12, 13] X32 Tryz.f32 = some x) => x) ?_ ?_
  rotate_left
  · conv => lhs; cbv
theorem ok32 : cFun Tryz.prog 183 [0, 1, 2, 3, 4, 5, 6, 7, 8, 9, 10, 11, 12, 13] X32 Tryz.f32 = some A32 := by kernel_rfl
/- alembic/kem.matrix -/
def X33 : FnAnn := ⟨[(7, [(0, 1)]), (9, [(0, 1)])], [(16, [], [7], [7]), (15, [], [14, 13, 7, 2, 1, 0], [7]), (14, [9], [14, 13, 9, 7, 2, 1, 0], [7]), (13, [], [18, 17, 14, 13, 9, 8, 7, 2, 1, 0], [9, 7]), (12, [], [18, 17, 14, 13, 12, 11, 9, 8, 7, 2, 1, 0], [9, 7]), (11, [], [18, 17, 14, 13, 10, 9, 8, 7, 2, 1, 0], [9, 7]), (10, [], [18, 17, 14, 13, 12, 11, 10, 9, 8, 7, 2, 1, 0], [9, 7]), (9, [], [18, 17, 14, 13, 10, 9, 8, 7, 2, 1, 0], [9, 7]), (8, [], [18, 17, 14, 13, 9, 8, 7, 2, 1, 0], [9, 7]), (7, [], [18, 17, 14, 13, 9, 8, 7, 2, 1, 0], [9, 7]), (6, [], [14, 13, 9, 8, 7, 2, 1, 0], [9, 7]), (5, [], [14, 13, 8, 7, 2, 1, 0], [7]), (4, [], [14, 13, 7, 2, 1, 0], [7]), (3, [], [14, 13, 7, 2, 1, 0], [7]), (2, [], [7, 2, 1, 0], [7]), (1, [], [2, 1, 0], []), (0, [], [2, 1, 0], [])], [([14, 13, 7, 2, 1, 0], [7]), ([18, 17, 14, 13, 9, 8, 7, 2, 1, 0], [9, 7])]⟩
def A33 : AFun := by
  refine (fun x (_ : cFun Tryz.prog 183 [0, 1, 2, 3, 4, 5, 6, 7, 8, 9, 10, 11, 12, 13] X33 Tryz.f33 = some x) => x) ?_ ?_
  rotate_left
  · conv => lhs; cbv
theorem ok33 : cFun Tryz.prog 183 [0, 1, 2, 3, 4, 5, 6, 7, 8, 9, 10, 11, 12, 13] X33 Tryz.f33 = some A33 := by kernel_rfl
/- (*alembic/kem.work).pack -/
def X34 : FnAnn := ⟨[(17, [])], [(3, [], [7], [0]), (2, [], [8, 7, 0], [0]), (1, [], [2, 1, 0], [0]), (0, [], [2, 1, 0], [0])], []⟩
def A34 : AFun := by
  refine (fun x (_ : cFun Tryz.prog 183 [0, 1, 2, 3, 4, 5, 6, 7, 8, 9, 10, 11, 12, 13] X34 Tryz.f34 = some x) => x) ?_ ?_
  rotate_left
  · conv => lhs; cbv
theorem ok34 : cFun Tryz.prog 183 [0, 1, 2, 3, 4, 5, 6, 7, 8, 9, 10, 11, 12, 13] X34 Tryz.f34 = some A34 := by kernel_rfl
/- (*alembic/kem.work).add -/
def X35 : FnAnn := ⟨[(18, [])], [(3, [], [7], [0]), (2, [], [8, 7, 0], [0]), (1, [], [2, 1, 0], [0]), (0, [], [2, 1, 0], [0])], []⟩
def A35 : AFun := by
  refine (fun x (_ : cFun Tryz.prog 183 [0, 1, 2, 3, 4, 5, 6, 7, 8, 9, 10, 11, 12, 13] X35 Tryz.f35 = some x) => x) ?_ ?_
  rotate_left
  · conv => lhs; cbv
theorem ok35 : cFun Tryz.prog 183 [0, 1, 2, 3, 4, 5, 6, 7, 8, 9, 10, 11, 12, 13] X35 Tryz.f35 = some A35 := by kernel_rfl
/- (*alembic/kem.work).dot -/
def X36 : FnAnn := ⟨[(32, []), (36, [])], [(9, [], [7], [0]), (8, [], [14, 13, 7, 2, 1, 0], [0]), (7, [], [14, 13, 9, 7, 2, 1, 0], [0]), (6, [], [14, 13, 10, 9, 7, 2, 1, 0], [0]), (5, [], [14, 13, 8, 7, 2, 1, 0], [0]), (4, [], [14, 13, 7, 2, 1, 0], [0]), (3, [], [14, 13, 7, 2, 1, 0], [0]), (2, [], [7, 2, 1, 0], [0]), (1, [], [2, 1, 0], [0]), (0, [], [2, 1, 0], [0])], [([14, 13, 7, 2, 1, 0], [0])]⟩
def A36 : AFun := by
  refine (fun x (_ : cFun Tryz.prog 183 [0, 1, 2, 3, 4, 5, 6, 7, 8, 9, 10, 11, 12, 13] X36 Tryz.f36 = some x) => x) ?_ ?_
  rotate_left
  · conv => lhs; cbv
theorem ok36 : cFun Tryz.prog 183 [0, 1, 2, 3, 4, 5, 6, 7, 8, 9, 10, 11, 12, 13] X36 Tryz.f36 = some A36 := by kernel_rfl
/- slices.Concat[[]byte,byte] -/
def X37 : FnAnn := ⟨[(24, [(0, 0)])], [(15, [], [6], [24]), (14, [], [27, 26, 25, 6], [24]), (13, [], [27, 26, 25, 8, 6], [24]), (12, [], [27, 26, 25, 6], [24]), (11, [], [27, 26, 25, 6], [24]), (10, [], [6, 0], [24]), (9, [], [3, 0], []), (8, [], [11, 10, 9, 3, 0], []), (7, [], [11, 10, 9, 3, 0], []), (6, [], [11, 10, 9, 3, 0], []), (5, [], [11, 10, 9, 5, 3, 0], []), (4, [], [11, 10, 9, 3, 0], []), (3, [], [11, 10, 9, 3, 0], []), (2, [], [3, 0], []), (1, [], [0], []), (0, [], [0], [])], [([11, 10, 9, 3, 0], []), ([27, 26, 25, 6], [24])]⟩
def A37 : AFun := by
  refine (fun x (_ : cFun Tryz.prog 183 [0, 1, 2, 3, 4, 5, 6, 7, 8, 9, 10, 11, 12, 13] X37 Tryz.f37 = some x) => x) ?_ ?_
  rotate_left
  · conv => lhs; cbv
theorem ok37 : cFun Tryz.prog 183 [0, 1, 2, 3, 4, 5, 6, 7, 8, 9, 10, 11, 12, 13] X37 Tryz.f37 = some A37 := by kernel_rfl
/- alembic/shake.Sum256 -/
def X38 : FnAnn := ⟨[], [(4, [], [3], []), (3, [], [], []), (2, [], [4, 3], []), (1, [], [0], []), (0, [], [0], [])], []⟩
def A38 : AFun := by
  refine (fun x (_ : cFun Tryz.prog 183 [0, 1, 2, 3, 4, 5, 6, 7, 8, 9, 10, 11, 12, 13] X38 Tryz.f38 = some x) => x) ?_ ?_
  rotate_left
  · conv => lhs; cbv
theorem ok38 : cFun Tryz.prog 183 [0, 1, 2, 3, 4, 5, 6, 7, 8, 9, 10, 11, 12, 13] X38 Tryz.f38 = some A38 := by kernel_rfl
/- alembic/alembicref10.long -/
def X39 : FnAnn := ⟨[], [(6, [], [], []), (3, [], [5, 1, 0], []), (5, [], [], []), (4, [], [5, 1, 0], []), (2, [], [5, 1, 0], []), (1, [], [1, 0], []), (0, [], [1, 0], [])], [([5, 1, 0], [])]⟩
def A39 : AFun := by
  refine (fun x (_ : cFun Tryz.prog 183 [0, 1, 2, 3, 4, 5, 6, 7, 8, 9, 10, 11, 12, 13] X39 Tryz.f39 = some x) => x) ?_ ?_
  rotate_left
  · conv => lhs; cbv
theorem ok39 : cFun Tryz.prog 183 [0, 1, 2, 3, 4, 5, 6, 7, 8, 9, 10, 11, 12, 13] X39 Tryz.f39 = some A39 := by kernel_rfl
/- alembic/alembicref10.kemRing -/
def X40 : FnAnn := ⟨[], [(1, [], [0], [0]), (0, [], [], [])], []⟩
def A40 : AFun := ⟨.seq (.pre [] [] [] (.reg [⟨some 0, .alloc [.i .i64 0, .i .i64 0], none⟩])) (.seq (.pre [] [0] [0] (.reg [⟨some 1, .build [.i .i64 0, .i .i64 0] [(0, (1, .const (.int .i64 3329))), (1, (1, .const (.int .i64 256)))], none⟩, ⟨none, .store 2 (.tmp 0) (.tmp 1), none⟩])) .ret), 0, [.c 0 (some 2)]⟩
theorem ok40 : cFun Tryz.prog 183 [0, 1, 2, 3, 4, 5, 6, 7, 8, 9, 10, 11, 12, 13] X40 Tryz.f40 = some A40 := by kernel_rfl
/- alembic/alembicref4.Sum512 -/
def X41 : FnAnn := ⟨[], [(1, [], [0], []), (0, [], [0], [])], []⟩
def A41 : AFun := ⟨.seq (.pre [] [0] [] (.reg [⟨some 2, .move (.const (.slice none 0 0)), none⟩])) (.seq (.pre [] [0] [] (.reg [⟨some 3, .move (.tmp 0), none⟩, ⟨some 4, .bsl 1 [.z] [(0, (1, .tmp 3))], none⟩, ⟨some 5, .call (.func 82) [.const (.int .i64 72), .const (.int .u8 6), .const (.int .i64 64), .tmp 4], none⟩, ⟨some 2, .move (.tmp 5), none⟩])) .ret), 1, [.t 2]⟩
theorem ok41 : cFun Tryz.prog 183 [0, 1, 2, 3, 4, 5, 6, 7, 8, 9, 10, 11, 12, 13] X41 Tryz.f41 = some A41 := by kernel_rfl
/- alembic/alembicref10.kemMatrix -/
def X42 : FnAnn := ⟨[(5, [(0, 1)]), (7, [(0, 1)])], [(11, [], [5], [5]), (4, [], [6, 5, 1, 0], [5]), (10, [7], [7, 6, 5, 1, 0], [5]), (8, [], [8, 7, 6, 5, 1, 0], [7, 5]), (9, [], [8, 7, 6, 5, 1, 0], [7, 5]), (7, [], [8, 7, 6, 5, 1, 0], [7, 5]), (6, [], [7, 6, 5, 1, 0], [7, 5]), (5, [], [6, 5, 1, 0], [5]), (3, [], [6, 5, 1, 0], [5]), (2, [], [5, 1, 0], [5]), (1, [], [1, 0], []), (0, [], [1, 0], [])], [([6, 5, 1, 0], [5]), ([8, 7, 6, 5, 1, 0], [7, 5])]⟩
def A42 : AFun := by
  refine (fun x (_ : cFun Tryz.prog 183 [0, 1, 2, 3, 4, 5, 6, 7, 8, 9, 10, 11, 12, 13] X42 Tryz.f42 = some x) => x) ?_ ?_
  rotate_left
  · conv => lhs; cbv
theorem ok42 : cFun Tryz.prog 183 [0, 1, 2, 3, 4, 5, 6, 7, 8, 9, 10, 11, 12, 13] X42 Tryz.f42 = some A42 := by kernel_rfl
/- alembic/alembicref10.prf -/
def X43 : FnAnn := ⟨[], [(1, [], [2, 1, 0], []), (0, [], [2, 1, 0], [])], []⟩
def A43 : AFun := by
  refine (fun x (_ : cFun Tryz.prog 183 [0, 1, 2, 3, 4, 5, 6, 7, 8, 9, 10, 11, 12, 13] X43 Tryz.f43 = some x) => x) ?_ ?_
  rotate_left
  · conv => lhs; cbv
theorem ok43 : cFun Tryz.prog 183 [0, 1, 2, 3, 4, 5, 6, 7, 8, 9, 10, 11, 12, 13] X43 Tryz.f43 = some A43 := by kernel_rfl
/- alembic/alembicref10.to -/
def X44 : FnAnn := ⟨[(5, [(0, 1)])], [(6, [], [5], [5]), (4, [], [6, 5, 2, 1], [5, 2]), (5, [], [6, 5, 2, 1], [5, 2]), (3, [], [6, 5, 2, 1], [5, 2]), (2, [], [5, 2, 1], [5, 2]), (1, [], [2, 1], [2]), (0, [], [1, 0], [])], [([6, 5, 2, 1], [5, 2])]⟩
def A44 : AFun := by
  refine (fun x (_ : cFun Tryz.prog 183 [0, 1, 2, 3, 4, 5, 6, 7, 8, 9, 10, 11, 12, 13] X44 Tryz.f44 = some x) => x) ?_ ?_
  rotate_left
  · conv => lhs; cbv
theorem ok44 : cFun Tryz.prog 183 [0, 1, 2, 3, 4, 5, 6, 7, 8, 9, 10, 11, 12, 13] X44 Tryz.f44 = some A44 := by kernel_rfl
/- alembic/alembicref10.bytes -/
def X45 : FnAnn := ⟨[], [(2, [], [5], []), (1, [], [1, 0], []), (0, [], [1, 0], [])], []⟩
def A45 : AFun := by
  refine (fun x (_ : cFun Tryz.prog 183 [0, 1, 2, 3, 4, 5, 6, 7, 8, 9, 10, 11, 12, 13] X45 Tryz.f45 = some x) => x) ?_ ?_
  rotate_left
  · conv => lhs; cbv
theorem ok45 : cFun Tryz.prog 183 [0, 1, 2, 3, 4, 5, 6, 7, 8, 9, 10, 11, 12, 13] X45 Tryz.f45 = some A45 := by kernel_rfl
/- alembic/alembicref1.Add -/
def X46 : FnAnn := ⟨[(7, [(0, 1)])], [(6, [], [7], [7]), (4, [], [8, 7, 3, 2, 1], [7, 3]), (5, [], [8, 7, 3, 2, 1], [7, 3]), (3, [], [8, 7, 3, 2, 1], [7, 3]), (2, [], [7, 3, 2, 1], [7, 3]), (1, [], [3, 2, 1], [3]), (0, [], [2, 1, 0], [])], [([8, 7, 3, 2, 1], [7, 3])]⟩
def A46 : AFun := by
  refine (fun x (_ : cFun Tryz.prog 183 [0, 1, 2, 3, 4, 5, 6, 7, 8, 9, 10, 11, 12, 13] X46 Tryz.f46 = some x) => x) ?_ ?_
  rotate_left
  · conv => lhs; cbv
theorem ok46 : cFun Tryz.prog 183 [0, 1, 2, 3, 4, 5, 6, 7, 8, 9, 10, 11, 12, 13] X46 Tryz.f46 = some A46 := by kernel_rfl
/- alembic/alembicref10.dot -/
def X47 : FnAnn := ⟨[], [(6, [], [7], []), (4, [], [8, 7, 3, 2, 1], [3]), (5, [], [8, 7, 3, 2, 1], [3]), (3, [], [8, 7, 3, 2, 1], [3]), (2, [], [7, 3, 2, 1], [3]), (1, [], [3, 2, 1], [3]), (0, [], [2, 1, 0], [])], [([8, 7, 3, 2, 1], [3])]⟩
def A47 : AFun := by
  refine (fun x (_ : cFun Tryz.prog 183 [0, 1, 2, 3, 4, 5, 6, 7, 8, 9, 10, 11, 12, 13] X47 Tryz.f47 = some x) => x) ?_ ?_
  rotate_left
  · conv => lhs; cbv
theorem ok47 : cFun Tryz.prog 183 [0, 1, 2, 3, 4, 5, 6, 7, 8, 9, 10, 11, 12, 13] X47 Tryz.f47 = some A47 := by kernel_rfl
/- alembic/alembicref4.Sum256 -/
def X48 : FnAnn := ⟨[], [(1, [], [0], []), (0, [], [0], [])], []⟩
def A48 : AFun := ⟨.seq (.pre [] [0] [] (.reg [⟨some 2, .move (.const (.slice none 0 0)), none⟩])) (.seq (.pre [] [0] [] (.reg [⟨some 3, .move (.tmp 0), none⟩, ⟨some 4, .bsl 1 [.z] [(0, (1, .tmp 3))], none⟩, ⟨some 5, .call (.func 82) [.const (.int .i64 136), .const (.int .u8 6), .const (.int .i64 32), .tmp 4], none⟩, ⟨some 2, .move (.tmp 5), none⟩])) .ret), 1, [.t 2]⟩
theorem ok48 : cFun Tryz.prog 183 [0, 1, 2, 3, 4, 5, 6, 7, 8, 9, 10, 11, 12, 13] X48 Tryz.f48 = some A48 := by kernel_rfl
/- alembic/kem.of -/
def X49 : FnAnn := ⟨[], [(4, [], [4, 2, 0], [2]), (3, [], [2], [2]), (2, [], [4, 2, 0], [2]), (1, [], [2, 0], [2]), (0, [], [0], [])], []⟩
def A49 : AFun := by
  refine (fun x (_ : cFun Tryz.prog 183 [0, 1, 2, 3, 4, 5, 6, 7, 8, 9, 10, 11, 12, 13] X49 Tryz.f49 = some x) => x) ?_ ?_
  rotate_left
  · conv => lhs; cbv
theorem ok49 : cFun Tryz.prog 183 [0, 1, 2, 3, 4, 5, 6, 7, 8, 9, 10, 11, 12, 13] X49 Tryz.f49 = some A49 := by kernel_rfl
/- (alembic/kem.Set).sizes -/
def X50 : FnAnn := ⟨[], [(2, [], [5, 1], [1]), (1, [], [1], [1]), (0, [], [0], [])], []⟩
def A50 : AFun := by
  refine (fun x (_ : cFun Tryz.prog 183 [0, 1, 2, 3, 4, 5, 6, 7, 8, 9, 10, 11, 12, 13] X50 Tryz.f50 = some x) => x) ?_ ?_
  rotate_left
  · conv => lhs; cbv
theorem ok50 : cFun Tryz.prog 183 [0, 1, 2, 3, 4, 5, 6, 7, 8, 9, 10, 11, 12, 13] X50 Tryz.f50 = some A50 := by kernel_rfl
/- alembic/alembicsee.Same -/
def X51 : FnAnn := ⟨[], [(1, [], [3, 0], [3]), (0, [], [1, 0], [])], []⟩
def A51 : AFun := ⟨.seq (.pre [] [1, 0] [] (.reg [⟨some 3, .box 3 (.tmp 1), none⟩, ⟨some 4, .move (.const (.bool false)), none⟩])) (.seq (.pre [] [3, 0] [3] (.reg [⟨some 5, .move (.tmp 0), none⟩, ⟨some 6, .call (.func 89) [.tmp 5], none⟩, ⟨some 7, .load (some 3) (.tmp 3), none⟩, ⟨some 8, .call (.func 88) [.tmp 6, .tmp 7], none⟩, ⟨some 4, .move (.tmp 8), none⟩])) .ret), 2, [.t 4]⟩
theorem ok51 : cFun Tryz.prog 183 [0, 1, 2, 3, 4, 5, 6, 7, 8, 9, 10, 11, 12, 13] X51 Tryz.f51 = some A51 := by kernel_rfl
/- alembic/alembicref.Bare -/
def X52 : FnAnn := ⟨[], [(1, [], [2, 0], [2]), (0, [], [0], [])], []⟩
def A52 : AFun := ⟨.seq (.pre [] [0] [] (.reg [⟨some 2, .alloc [.i .i64 0, .b false, .i .i64 0], none⟩])) (.seq (.pre [] [2, 0] [2] (.reg [⟨some 3, .move (.tmp 0), none⟩, ⟨some 4, .build [.i .i64 0, .b false, .i .i64 0] [(0, (1, .tmp 3))], none⟩, ⟨none, .store 3 (.tmp 2) (.tmp 4), none⟩])) .ret), 1, [.c 2 (some 3)]⟩
theorem ok52 : cFun Tryz.prog 183 [0, 1, 2, 3, 4, 5, 6, 7, 8, 9, 10, 11, 12, 13] X52 Tryz.f52 = some A52 := by kernel_rfl
/- alembic/shake.Shake256 -/
def X69 : FnAnn := ⟨[], [(1, [], [1, 0], []), (0, [], [1, 0], [])], []⟩
def A69 : AFun := by
  refine (fun x (_ : cFun Tryz.prog 183 [0, 1, 2, 3, 4, 5, 6, 7, 8, 9, 10, 11, 12, 13] X69 Tryz.f69 = some x) => x) ?_ ?_
  rotate_left
  · conv => lhs; cbv
theorem ok69 : cFun Tryz.prog 183 [0, 1, 2, 3, 4, 5, 6, 7, 8, 9, 10, 11, 12, 13] X69 Tryz.f69 = some A69 := by kernel_rfl
/- alembic/alembicref4.Shake256 -/
def X70 : FnAnn := ⟨[], [(1, [], [1, 0], []), (0, [], [1, 0], [])], []⟩
def A70 : AFun := ⟨.seq (.pre [] [1, 0] [] (.reg [⟨some 4, .move (.const (.slice none 0 0)), none⟩])) (.seq (.pre [] [1, 0] [] (.reg [⟨some 5, .move (.tmp 0), none⟩, ⟨some 6, .move (.tmp 1), none⟩, ⟨some 7, .call (.func 82) [.const (.int .i64 136), .const (.int .u8 31), .tmp 5, .tmp 6], none⟩, ⟨some 4, .move (.tmp 7), none⟩])) .ret), 2, [.t 4]⟩
theorem ok70 : cFun Tryz.prog 183 [0, 1, 2, 3, 4, 5, 6, 7, 8, 9, 10, 11, 12, 13] X70 Tryz.f70 = some A70 := by kernel_rfl
/- alembic/shake.Sum512 -/
def X71 : FnAnn := ⟨[], [(4, [], [3], []), (3, [], [], []), (2, [], [4, 3], []), (1, [], [0], []), (0, [], [0], [])], []⟩
def A71 : AFun := by
  refine (fun x (_ : cFun Tryz.prog 183 [0, 1, 2, 3, 4, 5, 6, 7, 8, 9, 10, 11, 12, 13] X71 Tryz.f71 = some x) => x) ?_ ?_
  rotate_left
  · conv => lhs; cbv
theorem ok71 : cFun Tryz.prog 183 [0, 1, 2, 3, 4, 5, 6, 7, 8, 9, 10, 11, 12, 13] X71 Tryz.f71 = some A71 := by kernel_rfl
/- alembic/ntt.To -/
def X72 : FnAnn := ⟨[(33, [(0, 0)])], [(23, [], [10], [33]), (22, [], [35, 34, 10, 7, 2], [33, 2]), (21, [], [45, 44, 35, 34, 12, 11, 10, 7, 2], [33, 2]), (18, [], [45, 44, 35, 34, 15, 14, 13, 12, 11, 10, 7, 2], [33, 2]), (20, [], [45, 44, 35, 34, 16, 15, 14, 13, 12, 11, 10, 7, 2], [33, 2]), (19, [], [45, 44, 35, 34, 15, 14, 13, 12, 11, 10, 7, 2], [33, 2]), (17, [], [45, 44, 35, 34, 15, 14, 13, 12, 11, 10, 7, 2], [33, 2]), (16, [], [45, 44, 35, 34, 14, 13, 12, 11, 10, 7, 2], [33, 2]), (15, [], [45, 44, 35, 34, 13, 12, 11, 10, 7, 2], [33, 2]), (14, [], [45, 44, 35, 34, 12, 11, 10, 7, 2], [33, 2]), (13, [], [45, 44, 35, 34, 12, 11, 10, 7, 2], [33, 2]), (12, [], [35, 34, 12, 11, 10, 7, 2], [33, 2]), (11, [], [35, 34, 11, 10, 7, 2], [33, 2]), (10, [], [35, 34, 10, 7, 2], [33, 2]), (9, [], [35, 34, 10, 7, 2], [33, 2]), (8, [], [10, 8, 7, 2], [33, 2]), (7, [], [8, 7, 2, 1], [2]), (6, [], [9], []), (5, [], [9, 8, 7, 2, 1], [2]), (4, [], [2, 1], [2]), (3, [], [6], []), (2, [], [6, 2, 1], [2]), (1, [], [2, 1], [2]), (0, [], [1, 0], [])], [([35, 34, 10, 7, 2], [33, 2]), ([45, 44, 35, 34, 12, 11, 10, 7, 2], [33, 2]), ([45, 44, 35, 34, 15, 14, 13, 12, 11, 10, 7, 2], [33, 2])]⟩
def A72 : AFun := by
  refine (fun x (_ : cFun Tryz.prog 183 [0, 1, 2, 3, 4, 5, 6, 7, 8, 9, 10, 11, 12, 13] X72 Tryz.f72 = some x) => x) ?_ ?_
  rotate_left
  · conv => lhs; cbv
theorem ok72 : cFun Tryz.prog 183 [0, 1, 2, 3, 4, 5, 6, 7, 8, 9, 10, 11, 12, 13] X72 Tryz.f72 = some A72 := by kernel_rfl
/- alembic/kem.rings -/
def X73 : FnAnn := ⟨[], [(1, [], [0], [0]), (0, [], [], [])], []⟩
def A73 : AFun := ⟨.seq (.pre [] [] [] (.reg [⟨some 0, .alloc [.i .i64 0, .i .i64 0], none⟩])) (.seq (.pre [] [0] [0] (.reg [⟨some 1, .build [.i .i64 0, .i .i64 0] [(0, (1, .const (.int .i64 3329))), (1, (1, .const (.int .i64 256)))], none⟩, ⟨none, .store 2 (.tmp 0) (.tmp 1), none⟩])) .ret), 0, [.c 0 (some 2)]⟩
theorem ok73 : cFun Tryz.prog 183 [0, 1, 2, 3, 4, 5, 6, 7, 8, 9, 10, 11, 12, 13] X73 Tryz.f73 = some A73 := by kernel_rfl
/- (*alembic/kem.work).ok -/
def X74 : FnAnn := ⟨[], [(1, [], [1, 0], [0]), (0, [], [1, 0], [0])], []⟩
def A74 : AFun := by
  refine (fun x (_ : cFun Tryz.prog 183 [0, 1, 2, 3, 4, 5, 6, 7, 8, 9, 10, 11, 12, 13] X74 Tryz.f74 = some x) => x) ?_ ?_
  rotate_left
  · conv => lhs; cbv
theorem ok74 : cFun Tryz.prog 183 [0, 1, 2, 3, 4, 5, 6, 7, 8, 9, 10, 11, 12, 13] X74 Tryz.f74 = some A74 := by kernel_rfl
/- alembic/draw.Centered -/
def X75 : FnAnn := ⟨[(27, [(0, 1)]), (45, []), (55, [])], [(18, [], [7], [27]), (17, [], [30, 29, 7, 6, 0], [27, 3]), (16, [], [30, 29, 9, 8, 7, 6, 0], [27, 3]), (15, [], [34, 33, 30, 29, 9, 8, 7, 6, 0], [27, 3]), (14, [], [34, 33, 30, 29, 10, 9, 8, 7, 6, 0], [27, 3]), (13, [], [34, 33, 30, 29, 9, 8, 7, 6, 0], [27, 3]), (12, [], [34, 33, 30, 29, 9, 8, 7, 6, 0], [27, 3]), (11, [], [30, 29, 9, 8, 7, 6, 0], [27, 3]), (10, [], [30, 29, 8, 7, 6, 0], [27, 3]), (9, [], [30, 29, 7, 6, 0], [27, 3]), (8, [], [30, 29, 7, 6, 0], [27, 3]), (7, [], [7, 6, 0], [27, 3]), (6, [], [6, 0], [3]), (5, [], [3, 0], [3]), (2, [], [], []), (4, [], [], []), (3, [], [3, 0], [3]), (1, [], [3, 0], [3]), (0, [], [1, 0], [])], [([30, 29, 7, 6, 0], [27, 3]), ([34, 33, 30, 29, 9, 8, 7, 6, 0], [27, 3])]⟩
def A75 : AFun := by
  refine (fun x (_ : cFun Tryz.prog 183 [0, 1, 2, 3, 4, 5, 6, 7, 8, 9, 10, 11, 12, 13] X75 Tryz.f75 = some x) => x) ?_ ?_
  rotate_left
  · conv => lhs; cbv
theorem ok75 : cFun Tryz.prog 183 [0, 1, 2, 3, 4, 5, 6, 7, 8, 9, 10, 11, 12, 13] X75 Tryz.f75 = some A75 := by kernel_rfl
/- alembic/draw.Uniform -/
def X76 : FnAnn := ⟨[(18, [(0, 0)]), (19, [(0, 1)]), (24, [(7, 7)]), (27, [(7, 7)]), (30, [(7, 7)])], [(11, [], [8], [19]), (10, [], [44, 43, 42, 8, 7], [19, 18]), (9, [], [44, 43, 42, 13, 8, 7], [19, 18]), (8, [], [44, 43, 42, 13, 8, 7], [19, 18]), (7, [], [44, 43, 42, 8, 7], [19, 18]), (6, [], [44, 43, 42, 8, 7], [19, 18]), (5, [], [11, 10, 9, 8, 7], [19, 18]), (4, [], [8, 7], [19, 18]), (3, [], [8, 7], [19, 18]), (2, [], [7], [18]), (1, [], [2, 1, 0], []), (0, [], [2, 1, 0], [])], [([8, 7], [19, 18]), ([44, 43, 42, 8, 7], [19, 18])]⟩
def A76 : AFun := by
  refine (fun x (_ : cFun Tryz.prog 183 [0, 1, 2, 3, 4, 5, 6, 7, 8, 9, 10, 11, 12, 13] X76 Tryz.f76 = some x) => x) ?_ ?_
  rotate_left
  · conv => lhs; cbv
theorem ok76 : cFun Tryz.prog 183 [0, 1, 2, 3, 4, 5, 6, 7, 8, 9, 10, 11, 12, 13] X76 Tryz.f76 = some A76 := by kernel_rfl
/- alembic/pack.Bits -/
def X77 : FnAnn := ⟨[(35, [(0, 1)])], [(19, [], [6], [35]), (18, [], [38, 37, 36, 8, 7, 6, 0], [35]), (15, [], [38, 37, 36, 8, 7, 6, 0], [35]), (17, [], [38, 37, 36, 8, 7, 6, 0], [35]), (16, [], [38, 37, 36, 8, 7, 6, 0], [35]), (14, [], [38, 37, 36, 8, 7, 6, 0], [35]), (13, [], [38, 37, 36, 8, 7, 6, 0], [35]), (12, [], [38, 37, 36, 10, 8, 7, 6, 0], [35]), (11, [], [], []), (10, [], [38, 37, 36, 10, 8, 7, 6, 0], [35]), (9, [], [38, 37, 36, 8, 7, 6, 0], [35]), (8, [], [38, 37, 36, 8, 7, 6, 0], [35]), (7, [], [8, 7, 6, 1, 0], [35]), (6, [], [6, 1, 0], [35]), (5, [], [1, 0], []), (2, [], [], []), (4, [], [], []), (3, [], [1, 0], []), (1, [], [1, 0], []), (0, [], [1, 0], [])], [([38, 37, 36, 8, 7, 6, 0], [35]), ([38, 37, 36, 8, 7, 6, 0], [35])]⟩
def A77 : AFun := by
  refine (fun x (_ : cFun Tryz.prog 183 [0, 1, 2, 3, 4, 5, 6, 7, 8, 9, 10, 11, 12, 13] X77 Tryz.f77 = some x) => x) ?_ ?_
  rotate_left
  · conv => lhs; cbv
theorem ok77 : cFun Tryz.prog 183 [0, 1, 2, 3, 4, 5, 6, 7, 8, 9, 10, 11, 12, 13] X77 Tryz.f77 = some A77 := by kernel_rfl
/- alembic/ring.Add -/
def X78 : FnAnn := ⟨[], [(1, [], [3, 2, 1], [3]), (0, [], [2, 1, 0], [])], []⟩
def A78 : AFun := by
  refine (fun x (_ : cFun Tryz.prog 183 [0, 1, 2, 3, 4, 5, 6, 7, 8, 9, 10, 11, 12, 13] X78 Tryz.f78 = some x) => x) ?_ ?_
  rotate_left
  · conv => lhs; cbv
theorem ok78 : cFun Tryz.prog 183 [0, 1, 2, 3, 4, 5, 6, 7, 8, 9, 10, 11, 12, 13] X78 Tryz.f78 = some A78 := by kernel_rfl
/- alembic/ntt.Times -/
def X79 : FnAnn := ⟨[(52, [(0, 1)]), (68, [(0, 1)])], [(32, [], [15], [52]), (31, [], [55, 54, 15, 14, 12, 11, 3, 2, 1], [52, 3]), (30, [], [55, 54, 18, 15, 14, 12, 11, 3, 2, 1], [68, 52, 3]), (29, [], [70, 69, 55, 54, 18, 17, 16, 15, 14, 12, 11, 3, 2, 1], [68, 52, 3]), (28, [], [74, 73, 70, 69, 55, 54, 19, 18, 17, 16, 15, 14, 12, 11, 3, 2, 1], [68, 52, 3]), (27, [], [74, 73, 70, 69, 55, 54, 21, 20, 19, 18, 17, 16, 15, 14, 12, 11, 3, 2, 1], [68, 52, 3]), (26, [], [74, 73, 70, 69, 55, 54, 21, 20, 19, 18, 17, 16, 15, 14, 12, 11, 3, 2, 1], [68, 52, 3]), (25, [], [74, 73, 70, 69, 55, 54, 21, 20, 19, 18, 17, 16, 15, 14, 12, 11, 3, 2, 1], [68, 52, 3]), (24, [], [74, 73, 70, 69, 55, 54, 20, 19, 18, 17, 16, 15, 14, 12, 11, 3, 2, 1], [68, 52, 3]), (23, [], [74, 73, 70, 69, 55, 54, 19, 18, 17, 16, 15, 14, 12, 11, 3, 2, 1], [68, 52, 3]), (22, [], [74, 73, 70, 69, 55, 54, 19, 18, 17, 16, 15, 14, 12, 11, 3, 2, 1], [68, 52, 3]), (21, [], [70, 69, 55, 54, 19, 18, 17, 16, 15, 14, 12, 11, 3, 2, 1], [68, 52, 3]), (20, [], [70, 69, 55, 54, 18, 17, 16, 15, 14, 12, 11, 3, 2, 1], [68, 52, 3]), (19, [], [70, 69, 55, 54, 18, 17, 16, 15, 14, 12, 11, 3, 2, 1], [68, 52, 3]), (18, [], [55, 54, 18, 17, 16, 15, 14, 12, 11, 3, 2, 1], [68, 52, 3]), (17, [], [55, 54, 17, 16, 15, 14, 12, 11, 3, 2, 1], [52, 3]), (16, [], [55, 54, 16, 15, 14, 12, 11, 3, 2, 1], [52, 3]), (15, [], [55, 54, 15, 14, 12, 11, 3, 2, 1], [52, 3]), (14, [], [55, 54, 15, 14, 12, 11, 3, 2, 1], [52, 3]), (13, [], [15, 14, 12, 11, 3, 2, 1], [52, 3]), (12, [], [14, 12, 11, 3, 2, 1], [3]), (11, [], [12, 11, 3, 2, 1], [3]), (10, [], [13], []), (9, [], [13, 12, 11, 3, 2, 1], [3]), (8, [], [3, 2, 1], [3]), (7, [], [26, 25, 24, 3, 2, 1], [3]), (6, [], [10], []), (5, [], [26, 25, 24, 10, 3, 2, 1], [3]), (4, [], [26, 25, 24, 9, 3, 2, 1], [3]), (3, [], [26, 25, 24, 3, 2, 1], [3]), (2, [], [26, 25, 24, 3, 2, 1], [3]), (1, [], [3, 2, 1], [3]), (0, [], [2, 1, 0], [])], [([26, 25, 24, 3, 2, 1], [3]), ([55, 54, 15, 14, 12, 11, 3, 2, 1], [52, 3]), ([70, 69, 55, 54, 18, 17, 16, 15, 14, 12, 11, 3, 2, 1], [68, 52, 3]), ([74, 73, 70, 69, 55, 54, 19, 18, 17, 16, 15, 14, 12, 11, 3, 2, 1], [68, 52, 3])]⟩
def A79 : AFun := by
  refine (fun x (_ : cFun Tryz.prog 183 [0, 1, 2, 3, 4, 5, 6, 7, 8, 9, 10, 11, 12, 13] X79 Tryz.f79 = some x) => x) ?_ ?_
  rotate_left
  · conv => lhs; cbv
theorem ok79 : cFun Tryz.prog 183 [0, 1, 2, 3, 4, 5, 6, 7, 8, 9, 10, 11, 12, 13] X79 Tryz.f79 = some A79 := by kernel_rfl
/- slices.Grow[[]byte,byte] -/
def X80 : FnAnn := ⟨[], [(6, [], [0], [22]), (5, [], [1, 0], [22]), (4, [], [1, 0], [22]), (3, [], [1, 0], [22]), (2, [], [1, 0], [22]), (1, [], [1, 0], [22]), (0, [], [1, 0], [22])], []⟩
def A80 : AFun := by
  refine (fun x (_ : cFun Tryz.prog 183 [0, 1, 2, 3, 4, 5, 6, 7, 8, 9, 10, 11, 12, 13] X80 Tryz.f80 = some x) => x) ?_ ?_
  rotate_left
  · conv => lhs; cbv
theorem ok80 : cFun Tryz.prog 183 [0, 1, 2, 3, 4, 5, 6, 7, 8, 9, 10, 11, 12, 13] X80 Tryz.f80 = some A80 := by kernel_rfl
/- alembic/shake.all -/
def X81 : FnAnn := ⟨[(25, []), (29, [])], [(7, [], [10, 2], [16]), (6, [], [19, 18, 17, 10, 2], [16]), (5, [], [19, 18, 17, 12, 10, 2], [16]), (4, [], [19, 18, 17, 10, 2], [16]), (3, [], [19, 18, 17, 10, 2], [16]), (2, [], [10, 3, 2], [16]), (1, [], [3, 2, 1, 0], []), (0, [], [3, 2, 1, 0], [])], [([19, 18, 17, 10, 2], [16])]⟩
def A81 : AFun := by
  refine (fun x (_ : cFun Tryz.prog 183 [0, 1, 2, 3, 4, 5, 6, 7, 8, 9, 10, 11, 12, 13] X81 Tryz.f81 = some x) => x) ?_ ?_
  rotate_left
  · conv => lhs; cbv
theorem ok81 : cFun Tryz.prog 183 [0, 1, 2, 3, 4, 5, 6, 7, 8, 9, 10, 11, 12, 13] X81 Tryz.f81 = some A81 := by kernel_rfl
/- alembic/alembicref4.some -/
def X82 : FnAnn := ⟨[(15, [(0, 0)]), (27, []), (31, [])], [(7, [], [11], []), (6, [], [9, 2], [15]), (4, [], [10, 9, 3, 2], [15]), (5, [], [10, 9, 3, 2], [15]), (3, [], [10, 9, 3, 2], [15]), (2, [], [9, 3, 2], [15]), (1, [], [3, 2, 1, 0], []), (0, [], [3, 2, 1, 0], [])], [([10, 9, 3, 2], [15])]⟩
def A82 : AFun := by
  refine (fun x (_ : cFun Tryz.prog 183 [0, 1, 2, 3, 4, 5, 6, 7, 8, 9, 10, 11, 12, 13] X82 Tryz.f82 = some x) => x) ?_ ?_
  rotate_left
  · conv => lhs; cbv
theorem ok82 : cFun Tryz.prog 183 [0, 1, 2, 3, 4, 5, 6, 7, 8, 9, 10, 11, 12, 13] X82 Tryz.f82 = some A82 := by kernel_rfl
/- alembic/alembicref4.Uniform -/
def X83 : FnAnn := ⟨[(7, [(7, 7)]), (8, [(0, 1)]), (19, [(0, 0)]), (24, [(7, 7)]), (26, [(7, 7)]), (28, [(7, 7)])], [(13, [], [8], [8]), (12, [], [13, 8, 7], [19, 8]), (11, [], [13, 8, 7], [19, 8]), (10, [], [13, 12, 8, 7], [19, 8]), (9, [], [13, 12, 8, 7], [19, 8]), (8, [], [12, 11, 10, 8, 7], [19, 8]), (7, [], [11, 10, 9, 8, 7], [19, 8]), (6, [], [10, 9, 8, 7], [19, 8]), (5, [], [9, 8, 7], [19, 8]), (4, [], [8, 7], [19, 8]), (3, [], [8, 7], [19, 8]), (2, [], [7], [19]), (1, [], [2, 1, 0], []), (0, [], [2, 1, 0], [])], [([8, 7], [19, 8])]⟩
def A83 : AFun := by
  refine (fun x (_ : cFun Tryz.prog 183 [0, 1, 2, 3, 4, 5, 6, 7, 8, 9, 10, 11, 12, 13] X83 Tryz.f83 = some x) => x) ?_ ?_
  rotate_left
  · conv => lhs; cbv
theorem ok83 : cFun Tryz.prog 183 [0, 1, 2, 3, 4, 5, 6, 7, 8, 9, 10, 11, 12, 13] X83 Tryz.f83 = some A83 := by kernel_rfl
/- alembic/alembicref4.Centered -/
def X84 : FnAnn := ⟨[(5, [(0, 1)])], [(11, [], [5], [5]), (4, [], [6, 5, 1, 0], [5]), (10, [], [7, 6, 5, 1, 0], [5]), (8, [], [8, 7, 6, 5, 1, 0], [5]), (9, [], [8, 7, 6, 5, 1, 0], [5]), (7, [], [8, 7, 6, 5, 1, 0], [5]), (6, [], [7, 6, 5, 1, 0], [5]), (5, [], [6, 5, 1, 0], [5]), (3, [], [6, 5, 1, 0], [5]), (2, [], [5, 1, 0], [5]), (1, [], [1, 0], []), (0, [], [1, 0], [])], [([6, 5, 1, 0], [5]), ([8, 7, 6, 5, 1, 0], [5])]⟩
def A84 : AFun := by
  refine (fun x (_ : cFun Tryz.prog 183 [0, 1, 2, 3, 4, 5, 6, 7, 8, 9, 10, 11, 12, 13] X84 Tryz.f84 = some x) => x) ?_ ?_
  rotate_left
  · conv => lhs; cbv
theorem ok84 : cFun Tryz.prog 183 [0, 1, 2, 3, 4, 5, 6, 7, 8, 9, 10, 11, 12, 13] X84 Tryz.f84 = some A84 := by kernel_rfl
/- alembic/alembicref1.To -/
def X85 : FnAnn := ⟨[(8, [(0, 1)])], [(18, [], [8], [8]), (7, [], [9, 8, 7, 6, 5, 2, 1], [8, 2]), (11, [], [11, 10, 9, 8, 7, 6, 5, 2, 1], [8, 2]), (17, [], [12, 11, 10, 9, 8, 7, 6, 5, 2, 1], [8, 2]), (15, [], [13, 12, 11, 10, 9, 8, 7, 6, 5, 2, 1], [8, 2]), (16, [], [13, 12, 11, 10, 9, 8, 7, 6, 5, 2, 1], [8, 2]), (14, [], [13, 12, 11, 10, 9, 8, 7, 6, 5, 2, 1], [8, 2]), (13, [], [12, 11, 10, 9, 8, 7, 6, 5, 2, 1], [8, 2]), (12, [], [11, 10, 9, 8, 7, 6, 5, 2, 1], [8, 2]), (10, [], [11, 10, 9, 8, 7, 6, 5, 2, 1], [8, 2]), (9, [], [10, 9, 8, 7, 6, 5, 2, 1], [8, 2]), (8, [], [9, 8, 7, 6, 5, 2, 1], [8, 2]), (6, [], [9, 8, 7, 6, 5, 2, 1], [8, 2]), (5, [], [8, 7, 6, 5, 2, 1], [8, 2]), (4, [], [7, 6, 5, 2, 1], [2]), (3, [], [6, 5, 2, 1], [2]), (2, [], [5, 2, 1], [2]), (1, [], [2, 1], [2]), (0, [], [1, 0], [])], [([9, 8, 7, 6, 5, 2, 1], [8, 2]), ([11, 10, 9, 8, 7, 6, 5, 2, 1], [8, 2]), ([13, 12, 11, 10, 9, 8, 7, 6, 5, 2, 1], [8, 2])]⟩
def A85 : AFun := by
  refine (fun x (_ : cFun Tryz.prog 183 [0, 1, 2, 3, 4, 5, 6, 7, 8, 9, 10, 11, 12, 13] X85 Tryz.f85 = some x) => x) ?_ ?_
  rotate_left
  · conv => lhs; cbv
theorem ok85 : cFun Tryz.prog 183 [0, 1, 2, 3, 4, 5, 6, 7, 8, 9, 10, 11, 12, 13] X85 Tryz.f85 = some A85 := by kernel_rfl
/- alembic/alembicref4.Bits -/
def X86 : FnAnn := ⟨[(27, [(0, 1)])], [(16, [], [6], [27]), (8, [], [7, 6, 1, 0], [27]), (13, [], [8, 7, 6, 1, 0], [27]), (15, [], [9, 8, 7, 6, 1, 0], [27]), (14, [], [8, 7, 6, 1, 0], [27]), (12, [], [8, 7, 6, 1, 0], [27]), (11, [], [7, 6, 1, 0], [27]), (10, [], [], []), (9, [], [7, 6, 1, 0], [27]), (7, [], [7, 6, 1, 0], [27]), (6, [], [6, 1, 0], [27]), (5, [], [1, 0], []), (4, [], [], []), (3, [], [1, 0], []), (2, [], [], []), (1, [], [1, 0], []), (0, [], [1, 0], [])], [([7, 6, 1, 0], [27]), ([8, 7, 6, 1, 0], [27])]⟩
def A86 : AFun := by
  refine (fun x (_ : cFun Tryz.prog 183 [0, 1, 2, 3, 4, 5, 6, 7, 8, 9, 10, 11, 12, 13] X86 Tryz.f86 = some x) => x) ?_ ?_
  rotate_left
  · conv => lhs; cbv
theorem ok86 : cFun Tryz.prog 183 [0, 1, 2, 3, 4, 5, 6, 7, 8, 9, 10, 11, 12, 13] X86 Tryz.f86 = some A86 := by kernel_rfl
/- alembic/alembicref1.Times -/
def X87 : FnAnn := ⟨[(10, [(0, 1)]), (44, [(0, 1)])], [(23, [], [10], [10]), (7, [], [11, 10, 9, 8, 7, 3, 2, 1], [10, 3]), (22, [], [13, 11, 10, 9, 8, 7, 3, 2, 1], [44, 10, 3]), (12, [], [14, 13, 12, 11, 10, 9, 8, 7, 3, 2, 1], [44, 10, 3]), (15, [], [15, 14, 13, 12, 11, 10, 9, 8, 7, 3, 2, 1], [44, 10, 3]), (21, [], [17, 16, 15, 14, 13, 12, 11, 10, 9, 8, 7, 3, 2, 1], [44, 10, 3]), (20, [], [17, 16, 15, 14, 13, 12, 11, 10, 9, 8, 7, 3, 2, 1], [44, 10, 3]), (19, [], [17, 16, 15, 14, 13, 12, 11, 10, 9, 8, 7, 3, 2, 1], [44, 10, 3]), (18, [], [17, 16, 15, 14, 13, 12, 11, 10, 9, 8, 7, 3, 2, 1], [44, 10, 3]), (17, [], [16, 15, 14, 13, 12, 11, 10, 9, 8, 7, 3, 2, 1], [44, 10, 3]), (16, [], [15, 14, 13, 12, 11, 10, 9, 8, 7, 3, 2, 1], [44, 10, 3]), (14, [], [15, 14, 13, 12, 11, 10, 9, 8, 7, 3, 2, 1], [44, 10, 3]), (13, [], [14, 13, 12, 11, 10, 9, 8, 7, 3, 2, 1], [44, 10, 3]), (11, [], [14, 13, 12, 11, 10, 9, 8, 7, 3, 2, 1], [44, 10, 3]), (10, [], [13, 12, 11, 10, 9, 8, 7, 3, 2, 1], [44, 10, 3]), (9, [], [12, 11, 10, 9, 8, 7, 3, 2, 1], [10, 3]), (8, [], [11, 10, 9, 8, 7, 3, 2, 1], [10, 3]), (6, [], [11, 10, 9, 8, 7, 3, 2, 1], [10, 3]), (5, [], [10, 9, 8, 7, 3, 2, 1], [10, 3]), (4, [], [9, 8, 7, 3, 2, 1], [3]), (3, [], [8, 7, 3, 2, 1], [3]), (2, [], [7, 3, 2, 1], [3]), (1, [], [3, 2, 1], [3]), (0, [], [2, 1, 0], [])], [([11, 10, 9, 8, 7, 3, 2, 1], [10, 3]), ([14, 13, 12, 11, 10, 9, 8, 7, 3, 2, 1], [44, 10, 3]), ([15, 14, 13, 12, 11, 10, 9, 8, 7, 3, 2, 1], [44, 10, 3])]⟩
def A87 : AFun := by
  refine (fun x (_ : cFun Tryz.prog 183 [0, 1, 2, 3, 4, 5, 6, 7, 8, 9, 10, 11, 12, 13] X87 Tryz.f87 = some x) => x) ?_ ?_
  rotate_left
  · conv => lhs; cbv
theorem ok87 : cFun Tryz.prog 183 [0, 1, 2, 3, 4, 5, 6, 7, 8, 9, 10, 11, 12, 13] X87 Tryz.f87 = some A87 := by kernel_rfl
/- alembic/alembicref.SameFault -/
def X88 : FnAnn := ⟨[], [(1, [], [3, 2], [3, 2]), (0, [], [1, 0], [])], []⟩
def A88 : AFun := by
  refine (fun x (_ : cFun Tryz.prog 183 [0, 1, 2, 3, 4, 5, 6, 7, 8, 9, 10, 11, 12, 13] X88 Tryz.f88 = some x) => x) ?_ ?_
  rotate_left
  · conv => lhs; cbv
theorem ok88 : cFun Tryz.prog 183 [0, 1, 2, 3, 4, 5, 6, 7, 8, 9, 10, 11, 12, 13] X88 Tryz.f88 = some A88 := by kernel_rfl
/- alembic/alembicsee.Fault -/
def X89 : FnAnn := ⟨[], [(8, [], [3, 2], [2]), (7, [], [2], [2]), (6, [], [3, 2], [2]), (5, [], [2, 0], [2]), (4, [], [4, 3, 2, 0], [2]), (3, [], [2, 0], [2]), (2, [], [2], [2]), (1, [], [2, 0], [2]), (0, [], [0], [])], []⟩
def A89 : AFun := by
  refine (fun x (_ : cFun Tryz.prog 183 [0, 1, 2, 3, 4, 5, 6, 7, 8, 9, 10, 11, 12, 13] X89 Tryz.f89 = some x) => x) ?_ ?_
  rotate_left
  · conv => lhs; cbv
theorem ok89 : cFun Tryz.prog 183 [0, 1, 2, 3, 4, 5, 6, 7, 8, 9, 10, 11, 12, 13] X89 Tryz.f89 = some A89 := by kernel_rfl
/- alembic/alembicref1.Depth -/
def X95 : FnAnn := ⟨[], [(4, [], [3], []), (3, [], [3, 1], [1]), (2, [], [3, 1], [1]), (1, [], [1], [1]), (0, [], [0], [])], [([3, 1], [1])]⟩
def A95 : AFun := by
  refine (fun x (_ : cFun Tryz.prog 183 [0, 1, 2, 3, 4, 5, 6, 7, 8, 9, 10, 11, 12, 13] X95 Tryz.f95 = some x) => x) ?_ ?_
  rotate_left
  · conv => lhs; cbv
theorem ok95 : cFun Tryz.prog 183 [0, 1, 2, 3, 4, 5, 6, 7, 8, 9, 10, 11, 12, 13] X95 Tryz.f95 = some A95 := by kernel_rfl
/- alembic/alembicref1.powers -/
def X96 : FnAnn := ⟨[(5, [(0, 1)])], [(9, [], [5], [5]), (6, [], [6, 5, 4, 3, 1], [5, 1]), (8, [], [6, 5, 4, 3, 1], [5, 1]), (7, [], [6, 5, 4, 3, 1], [5, 1]), (5, [], [6, 5, 4, 3, 1], [5, 1]), (4, [], [5, 4, 3, 1], [5, 1]), (3, [], [4, 3, 1], [1]), (2, [], [3, 1], [1]), (1, [], [1], [1]), (0, [], [0], [])], [([6, 5, 4, 3, 1], [5, 1])]⟩
def A96 : AFun := by
  refine (fun x (_ : cFun Tryz.prog 183 [0, 1, 2, 3, 4, 5, 6, 7, 8, 9, 10, 11, 12, 13] X96 Tryz.f96 = some x) => x) ?_ ?_
  rotate_left
  · conv => lhs; cbv
theorem ok96 : cFun Tryz.prog 183 [0, 1, 2, 3, 4, 5, 6, 7, 8, 9, 10, 11, 12, 13] X96 Tryz.f96 = some A96 := by kernel_rfl
/- alembic/alembicref1.Rev -/
def X98 : FnAnn := ⟨[], [(8, [], [5], []), (6, [], [6, 5, 1, 0], []), (7, [], [6, 5, 1, 0], []), (5, [], [6, 5, 1, 0], []), (4, [], [5, 1, 0], []), (3, [], [1, 0], []), (2, [], [], []), (1, [], [1, 0], []), (0, [], [1, 0], [])], [([6, 5, 1, 0], [])]⟩
def A98 : AFun := by
  refine (fun x (_ : cFun Tryz.prog 183 [0, 1, 2, 3, 4, 5, 6, 7, 8, 9, 10, 11, 12, 13] X98 Tryz.f98 = some x) => x) ?_ ?_
  rotate_left
  · conv => lhs; cbv
theorem ok98 : cFun Tryz.prog 183 [0, 1, 2, 3, 4, 5, 6, 7, 8, 9, 10, 11, 12, 13] X98 Tryz.f98 = some A98 := by kernel_rfl
/- alembic/alembicref1.Mul -/
def X99 : FnAnn := ⟨[], [(1, [], [2, 1, 0], []), (0, [], [2, 1, 0], [])], []⟩
def A99 : AFun := ⟨.seq (.pre [] [2, 1, 0] [] (.reg [⟨some 6, .move (.const (.int .i64 0)), none⟩])) (.seq (.pre [] [2, 1, 0] [] (.reg [⟨some 7, .move (.tmp 0), none⟩, ⟨some 8, .move (.tmp 1), none⟩, ⟨some 9, .bin .no .mul (.tmp 7) (.tmp 8), none⟩, ⟨some 10, .move (.tmp 2), none⟩, ⟨some 11, .bin .no .rem (.tmp 9) (.tmp 10), none⟩, ⟨some 6, .move (.tmp 11), none⟩])) .ret), 3, [.t 6]⟩
theorem ok99 : cFun Tryz.prog 183 [0, 1, 2, 3, 4, 5, 6, 7, 8, 9, 10, 11, 12, 13] X99 Tryz.f99 = some A99 := by kernel_rfl
/- alembic/alembicref1.Mod -/
def X100 : FnAnn := ⟨[], [(4, [], [5], []), (3, [], [5, 1], []), (2, [], [5, 1], []), (1, [], [1, 0], []), (0, [], [1, 0], [])], []⟩
def A100 : AFun := by
  refine (fun x (_ : cFun Tryz.prog 183 [0, 1, 2, 3, 4, 5, 6, 7, 8, 9, 10, 11, 12, 13] X100 Tryz.f100 = some x) => x) ?_ ?_
  rotate_left
  · conv => lhs; cbv
theorem ok100 : cFun Tryz.prog 183 [0, 1, 2, 3, 4, 5, 6, 7, 8, 9, 10, 11, 12, 13] X100 Tryz.f100 = some A100 := by kernel_rfl
/- alembic/zq.Mod -/
def X103 : FnAnn := ⟨[], [(6, [], [5], []), (5, [], [5, 1], []), (4, [], [5, 1], []), (3, [], [1, 0], []), (2, [], [], []), (1, [], [1, 0], []), (0, [], [1, 0], [])], []⟩
def A103 : AFun := by
  refine (fun x (_ : cFun Tryz.prog 183 [0, 1, 2, 3, 4, 5, 6, 7, 8, 9, 10, 11, 12, 13] X103 Tryz.f103 = some x) => x) ?_ ?_
  rotate_left
  · conv => lhs; cbv
theorem ok103 : cFun Tryz.prog 183 [0, 1, 2, 3, 4, 5, 6, 7, 8, 9, 10, 11, 12, 13] X103 Tryz.f103 = some A103 := by kernel_rfl
/- alembic/ring.Vector -/
def X105 : FnAnn := ⟨[], [(12, [], [], []), (11, [], [21, 20, 19, 2], [2]), (10, [], [], []), (9, [], [21, 20, 19, 7, 2], [2]), (8, [], [21, 20, 19, 2], [2]), (7, [], [21, 20, 19, 2], [2]), (6, [], [2, 1], [2]), (5, [], [], []), (4, [], [2, 1], [2]), (3, [], [5], []), (2, [], [5, 2, 1], [2]), (1, [], [2, 1], [2]), (0, [], [1, 0], [])], [([21, 20, 19, 2], [2])]⟩
def A105 : AFun := by
  refine (fun x (_ : cFun Tryz.prog 183 [0, 1, 2, 3, 4, 5, 6, 7, 8, 9, 10, 11, 12, 13] X105 Tryz.f105 = some x) => x) ?_ ?_
  rotate_left
  · conv => lhs; cbv
theorem ok105 : cFun Tryz.prog 183 [0, 1, 2, 3, 4, 5, 6, 7, 8, 9, 10, 11, 12, 13] X105 Tryz.f105 = some A105 := by kernel_rfl
/- alembic/ntt.roots -/
def X106 : FnAnn := ⟨[(8, [(0, 1)])], [(10, [], [8, 6], [8]), (9, [], [21, 20, 8, 6, 5, 1], [8, 1]), (8, [], [21, 20, 9, 8, 6, 5, 1], [8, 1]), (7, [], [21, 20, 8, 6, 5, 1], [8, 1]), (6, [], [21, 20, 8, 6, 5, 1], [8, 1]), (5, [], [8, 6, 5, 1], [8, 1]), (4, [], [6, 5, 1], [1]), (3, [], [7], []), (2, [], [7, 6, 5, 1], [1]), (1, [], [1], [1]), (0, [], [0], [])], [([21, 20, 8, 6, 5, 1], [8, 1])]⟩
def A106 : AFun := by
  refine (fun x (_ : cFun Tryz.prog 183 [0, 1, 2, 3, 4, 5, 6, 7, 8, 9, 10, 11, 12, 13] X106 Tryz.f106 = some x) => x) ?_ ?_
  rotate_left
  · conv => lhs; cbv
theorem ok106 : cFun Tryz.prog 183 [0, 1, 2, 3, 4, 5, 6, 7, 8, 9, 10, 11, 12, 13] X106 Tryz.f106 = some A106 := by kernel_rfl
/- slices.Clone[[]int,int] -/
def X107 : FnAnn := ⟨[(5, [(0, 1)])], [(3, [], [0], []), (2, [], [], []), (1, [], [0], []), (0, [], [0], [])], []⟩
def A107 : AFun := by
  refine (fun x (_ : cFun Tryz.prog 183 [0, 1, 2, 3, 4, 5, 6, 7, 8, 9, 10, 11, 12, 13] X107 Tryz.f107 = some x) => x) ?_ ?_
  rotate_left
  · conv => lhs; cbv
theorem ok107 : cFun Tryz.prog 183 [0, 1, 2, 3, 4, 5, 6, 7, 8, 9, 10, 11, 12, 13] X107 Tryz.f107 = some A107 := by kernel_rfl
/- alembic/zq.Mul -/
def X108 : FnAnn := ⟨[], [(1, [], [2, 1, 0], []), (0, [], [2, 1, 0], [])], []⟩
def A108 : AFun := by
  refine (fun x (_ : cFun Tryz.prog 183 [0, 1, 2, 3, 4, 5, 6, 7, 8, 9, 10, 11, 12, 13] X108 Tryz.f108 = some x) => x) ?_ ?_
  rotate_left
  · conv => lhs; cbv
theorem ok108 : cFun Tryz.prog 183 [0, 1, 2, 3, 4, 5, 6, 7, 8, 9, 10, 11, 12, 13] X108 Tryz.f108 = some A108 := by kernel_rfl
/- alembic/zq.Add -/
def X109 : FnAnn := ⟨[], [(1, [], [2, 1, 0], []), (0, [], [2, 1, 0], [])], []⟩
def A109 : AFun := by
  refine (fun x (_ : cFun Tryz.prog 183 [0, 1, 2, 3, 4, 5, 6, 7, 8, 9, 10, 11, 12, 13] X109 Tryz.f109 = some x) => x) ?_ ?_
  rotate_left
  · conv => lhs; cbv
theorem ok109 : cFun Tryz.prog 183 [0, 1, 2, 3, 4, 5, 6, 7, 8, 9, 10, 11, 12, 13] X109 Tryz.f109 = some A109 := by kernel_rfl
/- alembic/zq.Sub -/
def X110 : FnAnn := ⟨[], [(1, [], [2, 1, 0], []), (0, [], [2, 1, 0], [])], []⟩
def A110 : AFun := by
  refine (fun x (_ : cFun Tryz.prog 183 [0, 1, 2, 3, 4, 5, 6, 7, 8, 9, 10, 11, 12, 13] X110 Tryz.f110 = some x) => x) ?_ ?_
  rotate_left
  · conv => lhs; cbv
theorem ok110 : cFun Tryz.prog 183 [0, 1, 2, 3, 4, 5, 6, 7, 8, 9, 10, 11, 12, 13] X110 Tryz.f110 = some A110 := by kernel_rfl
/- alembic/draw.Centered$1 -/
def X111 : FnAnn := ⟨[], [(1, [], [1, 0], [1]), (0, [], [1, 0], [1])], []⟩
def A111 : AFun := by
  refine (fun x (_ : cFun Tryz.prog 183 [0, 1, 2, 3, 4, 5, 6, 7, 8, 9, 10, 11, 12, 13] X111 Tryz.f111 = some x) => x) ?_ ?_
  rotate_left
  · conv => lhs; cbv
theorem ok111 : cFun Tryz.prog 183 [0, 1, 2, 3, 4, 5, 6, 7, 8, 9, 10, 11, 12, 13] X111 Tryz.f111 = some A111 := by kernel_rfl
/- alembic/draw.open -/
def X112 : FnAnn := ⟨[(13, [(0, 1)]), (18, [(6, 6)]), (19, [(7, 7)]), (30, []), (32, [(6, 6)]), (33, [(7, 7)]), (36, [(6, 6)]), (37, [(7, 7)])], [(10, [], [7], [1013]), (9, [], [24, 23, 22, 7], [1013]), (8, [], [], []), (7, [], [24, 23, 22, 10, 7], [1013]), (6, [], [24, 23, 22, 7], [1013]), (5, [], [24, 23, 22, 7], [1013]), (4, [], [7, 2, 1], [1013]), (3, [], [], []), (2, [], [8, 7, 2, 1], [1013]), (1, [], [2, 1, 0], []), (0, [], [2, 1, 0], [])], [([24, 23, 22, 7], [1013])]⟩
def A112 : AFun := by
  refine (fun x (_ : cFun Tryz.prog 183 [0, 1, 2, 3, 4, 5, 6, 7, 8, 9, 10, 11, 12, 13] X112 Tryz.f112 = some x) => x) ?_ ?_
  rotate_left
  · conv => lhs; cbv
theorem ok112 : cFun Tryz.prog 183 [0, 1, 2, 3, 4, 5, 6, 7, 8, 9, 10, 11, 12, 13] X112 Tryz.f112 = some A112 := by kernel_rfl
/- (*alembic/draw.stream).next -/
def X113 : FnAnn := ⟨[(26, [])], [(9, [], [5], []), (8, [], [5, 0], []), (7, [], [0], []), (6, [], [3, 0], []), (5, [], [4, 3, 0], []), (4, [], [0], []), (3, [], [0], []), (2, [], [0], []), (1, [], [0], []), (0, [], [0], [])], []⟩
def A113 : AFun := by
  refine (fun x (_ : cFun Tryz.prog 183 [0, 1, 2, 3, 4, 5, 6, 7, 8, 9, 10, 11, 12, 13] X113 Tryz.f113 = some x) => x) ?_ ?_
  rotate_left
  · conv => lhs; cbv
theorem ok113 : cFun Tryz.prog 183 [0, 1, 2, 3, 4, 5, 6, 7, 8, 9, 10, 11, 12, 13] X113 Tryz.f113 = some A113 := by kernel_rfl
/- alembic/ring.each -/
def X114 : FnAnn := ⟨[(23, [(0, 1)])], [(10, [], [11], [23]), (9, [], [26, 25, 11, 4, 3, 2, 1], [23, 4]), (8, [], [26, 25, 12, 11, 4, 3, 2, 1], [23, 4]), (7, [], [26, 25, 11, 4, 3, 2, 1], [23, 4]), (6, [], [26, 25, 11, 4, 3, 2, 1], [23, 4]), (5, [], [11, 4, 3, 2, 1], [23, 4]), (4, [], [4, 3, 2, 1], [4]), (3, [], [10], []), (2, [], [10, 4, 3, 2, 1], [4]), (1, [], [4, 3, 2, 1], [4]), (0, [], [3, 2, 1, 0], [])], [([26, 25, 11, 4, 3, 2, 1], [23, 4])]⟩
def A114 : AFun := by
  refine (fun x (_ : cFun Tryz.prog 183 [0, 1, 2, 3, 4, 5, 6, 7, 8, 9, 10, 11, 12, 13] X114 Tryz.f114 = some x) => x) ?_ ?_
  rotate_left
  · conv => lhs; cbv
theorem ok114 : cFun Tryz.prog 183 [0, 1, 2, 3, 4, 5, 6, 7, 8, 9, 10, 11, 12, 13] X114 Tryz.f114 = some A114 := by kernel_rfl
/- alembic/ntt.Root -/
def X115 : FnAnn := ⟨[], [(12, [], [7, 6], []), (11, [], [7, 6, 1], [1]), (10, [], [7, 6, 1], [1]), (9, [], [6, 1], [1]), (6, [], [6], []), (8, [], [6], []), (7, [], [6, 1], [1]), (5, [], [6, 1], [1]), (4, [], [1], [1]), (3, [], [5], []), (2, [], [5, 1], [1]), (1, [], [1], [1]), (0, [], [0], [])], [([7, 6, 1], [1])]⟩
def A115 : AFun := by
  refine (fun x (_ : cFun Tryz.prog 183 [0, 1, 2, 3, 4, 5, 6, 7, 8, 9, 10, 11, 12, 13] X115 Tryz.f115 = some x) => x) ?_ ?_
  rotate_left
  · conv => lhs; cbv
theorem ok115 : cFun Tryz.prog 183 [0, 1, 2, 3, 4, 5, 6, 7, 8, 9, 10, 11, 12, 13] X115 Tryz.f115 = some A115 := by kernel_rfl
end Zab.YtjnomoefbffpoaaGreatDoorB
namespace Zab.YtjnomoefbffpoaaGreatDoorB
open Go Go.Proofs
set_option maxRecDepth 100000
set_option maxHeartbeats 0
/- alembic/zq.Pow -/
def X116 : FnAnn := ⟨[], [(10, [], [7], []), (6, [], [8, 7, 2, 1], []), (9, [], [8, 7, 2, 1], []), (8, [], [8, 7, 2, 1], []), (7, [], [8, 7, 2, 1], []), (5, [], [8, 7, 2, 1], []), (4, [], [7, 2, 1, 0], []), (3, [], [2, 1, 0], []), (2, [], [], []), (1, [], [2, 1, 0], []), (0, [], [2, 1, 0], [])], [([8, 7, 2, 1], [])]⟩
def A116 : AFun := by
  refine (fun x (_ : cFun Tryz.prog 183 [0, 1, 2, 3, 4, 5, 6, 7, 8, 9, 10, 11, 12, 13] X116 Tryz.f116 = some x) => x) ?_ ?_
  rotate_left
  · conv => lhs; cbv
theorem ok116 : cFun Tryz.prog 183 [0, 1, 2, 3, 4, 5, 6, 7, 8, 9, 10, 11, 12, 13] X116 Tryz.f116 = some A116 := by kernel_rfl
/- alembic/ntt.Rev -/
def X117 : FnAnn := ⟨[], [(9, [], [5], []), (8, [], [13, 12, 5, 0], []), (7, [], [13, 12, 5, 0], []), (6, [], [13, 12, 5, 0], []), (5, [], [13, 12, 5, 0], []), (4, [], [5, 1, 0], []), (3, [], [1, 0], []), (2, [], [], []), (1, [], [1, 0], []), (0, [], [1, 0], [])], [([13, 12, 5, 0], [])]⟩
def A117 : AFun := by
  refine (fun x (_ : cFun Tryz.prog 183 [0, 1, 2, 3, 4, 5, 6, 7, 8, 9, 10, 11, 12, 13] X117 Tryz.f117 = some x) => x) ?_ ?_
  rotate_left
  · conv => lhs; cbv
theorem ok117 : cFun Tryz.prog 183 [0, 1, 2, 3, 4, 5, 6, 7, 8, 9, 10, 11, 12, 13] X117 Tryz.f117 = some A117 := by kernel_rfl
/- (*alembic/shake.Sponge).take -/
def X118 : FnAnn := ⟨[(18, [])], [(7, [], [8, 7, 6, 0], [0]), (6, [], [8, 7, 6, 0], [0]), (5, [], [8, 7, 6, 0], [0]), (4, [], [8, 7, 6, 0], [0]), (3, [], [8, 7, 6, 5, 0], [0]), (2, [], [8, 7, 6, 0], [0]), (1, [], [8, 7, 6, 0], [0]), (0, [], [1, 0], [0])], [([8, 7, 6, 0], [0])]⟩
def A118 : AFun := by
  refine (fun x (_ : cFun Tryz.prog 183 [0, 1, 2, 3, 4, 5, 6, 7, 8, 9, 10, 11, 12, 13] X118 Tryz.f118 = some x) => x) ?_ ?_
  rotate_left
  · conv => lhs; cbv
theorem ok118 : cFun Tryz.prog 183 [0, 1, 2, 3, 4, 5, 6, 7, 8, 9, 10, 11, 12, 13] X118 Tryz.f118 = some A118 := by kernel_rfl
/- (*alembic/shake.Sponge).Squeeze -/
def X119 : FnAnn := ⟨[(29, []), (36, []), (52, [(0, 1)])], [(16, [], [6], [52, 0]), (15, [], [55, 54, 6, 0], [52, 0]), (14, [], [55, 54, 6, 0], [52, 0]), (13, [], [55, 54, 7, 6, 0], [52, 0]), (12, [], [55, 54, 7, 6, 0], [52, 0]), (11, [], [55, 54, 7, 6, 0], [52, 0]), (10, [], [55, 54, 6, 0], [52, 0]), (9, [], [55, 54, 6, 0], [52, 0]), (8, [], [6, 0], [52, 0]), (7, [], [1, 0], [0]), (6, [], [1, 0], [0]), (5, [], [1, 0], [0]), (4, [], [1, 0], [0]), (3, [], [1, 0], [0]), (2, [], [], [0]), (1, [], [1, 0], [0]), (0, [], [1, 0], [0])], [([55, 54, 6, 0], [52, 0])]⟩
def A119 : AFun := by
  refine (fun x (_ : cFun Tryz.prog 183 [0, 1, 2, 3, 4, 5, 6, 7, 8, 9, 10, 11, 12, 13] X119 Tryz.f119 = some x) => x) ?_ ?_
  rotate_left
  · conv => lhs; cbv
theorem ok119 : cFun Tryz.prog 183 [0, 1, 2, 3, 4, 5, 6, 7, 8, 9, 10, 11, 12, 13] X119 Tryz.f119 = some A119 := by kernel_rfl
/- alembic/alembicref4.NewSponge -/
def X120 : FnAnn := ⟨[], [(1, [], [1, 0], []), (0, [], [1, 0], [])], []⟩
def A120 : AFun := by
  refine (fun x (_ : cFun Tryz.prog 183 [0, 1, 2, 3, 4, 5, 6, 7, 8, 9, 10, 11, 12, 13] X120 Tryz.f120 = some x) => x) ?_ ?_
  rotate_left
  · conv => lhs; cbv
theorem ok120 : cFun Tryz.prog 183 [0, 1, 2, 3, 4, 5, 6, 7, 8, 9, 10, 11, 12, 13] X120 Tryz.f120 = some A120 := by kernel_rfl
/- (*alembic/alembicref4.Sponge).Absorb -/
def X121 : FnAnn := ⟨[(25, [])], [(11, [], [], [0]), (5, [], [5, 1, 0], [0]), (10, [], [5, 1, 0], [0]), (9, [], [5, 1, 0], [0]), (8, [], [5, 1, 0], [0]), (7, [], [5, 1, 0], [0]), (6, [], [5, 1, 0], [0]), (4, [], [5, 1, 0], [0]), (3, [], [1, 0], [0]), (2, [], [], [0]), (1, [], [1, 0], [0]), (0, [], [1, 0], [0])], [([5, 1, 0], [0])]⟩
def A121 : AFun := by
  refine (fun x (_ : cFun Tryz.prog 183 [0, 1, 2, 3, 4, 5, 6, 7, 8, 9, 10, 11, 12, 13] X121 Tryz.f121 = some x) => x) ?_ ?_
  rotate_left
  · conv => lhs; cbv
theorem ok121 : cFun Tryz.prog 183 [0, 1, 2, 3, 4, 5, 6, 7, 8, 9, 10, 11, 12, 13] X121 Tryz.f121 = some A121 := by kernel_rfl
/- (*alembic/alembicref4.Sponge).Squeeze -/
def X122 : FnAnn := ⟨[(28, []), (35, []), (51, [(0, 1)])], [(18, [], [6], [51, 0]), (12, [], [7, 6, 1, 0], [51, 0]), (17, [], [7, 6, 1, 0], [51, 0]), (16, [], [7, 6, 1, 0], [51, 0]), (15, [], [7, 6, 1, 0], [51, 0]), (14, [], [7, 6, 1, 0], [51, 0]), (13, [], [7, 6, 1, 0], [51, 0]), (11, [], [7, 6, 1, 0], [51, 0]), (10, [], [6, 1, 0], [51, 0]), (9, [], [1, 0], [0]), (8, [], [1, 0], [0]), (7, [], [1, 0], [0]), (6, [], [1, 0], [0]), (5, [], [1, 0], [0]), (4, [], [1, 0], [0]), (3, [], [1, 0], [0]), (2, [], [], [0]), (1, [], [1, 0], [0]), (0, [], [1, 0], [0])], [([7, 6, 1, 0], [51, 0])]⟩
def A122 : AFun := by
  refine (fun x (_ : cFun Tryz.prog 183 [0, 1, 2, 3, 4, 5, 6, 7, 8, 9, 10, 11, 12, 13] X122 Tryz.f122 = some x) => x) ?_ ?_
  rotate_left
  · conv => lhs; cbv
theorem ok122 : cFun Tryz.prog 183 [0, 1, 2, 3, 4, 5, 6, 7, 8, 9, 10, 11, 12, 13] X122 Tryz.f122 = some A122 := by kernel_rfl
/- alembic/alembicref4.open -/
def X123 : FnAnn := ⟨[(4, [(7, 7)]), (8, [(0, 0)]), (20, []), (22, [(6, 6)])], [(6, [], [5, 4], [8]), (4, [], [6, 5, 4, 1], [8]), (5, [], [6, 5, 4, 1], [8]), (3, [], [6, 5, 4, 1], [8]), (2, [], [5, 4, 1], [8]), (1, [], [4, 1, 0], [8]), (0, [], [1, 0], [])], [([6, 5, 4, 1], [8])]⟩
def A123 : AFun := by
  refine (fun x (_ : cFun Tryz.prog 183 [0, 1, 2, 3, 4, 5, 6, 7, 8, 9, 10, 11, 12, 13] X123 Tryz.f123 = some x) => x) ?_ ?_
  rotate_left
  · conv => lhs; cbv
theorem ok123 : cFun Tryz.prog 183 [0, 1, 2, 3, 4, 5, 6, 7, 8, 9, 10, 11, 12, 13] X123 Tryz.f123 = some A123 := by kernel_rfl
/- (alembic/alembicref4.stream).next -/
def X124 : FnAnn := ⟨[(1, [(7, 7)]), (8, [(7, 7)])], [(2, [], [3], []), (1, [], [1], []), (0, [], [0], [])], []⟩
def A124 : AFun := by
  refine (fun x (_ : cFun Tryz.prog 183 [0, 1, 2, 3, 4, 5, 6, 7, 8, 9, 10, 11, 12, 13] X124 Tryz.f124 = some x) => x) ?_ ?_
  rotate_left
  · conv => lhs; cbv
theorem ok124 : cFun Tryz.prog 183 [0, 1, 2, 3, 4, 5, 6, 7, 8, 9, 10, 11, 12, 13] X124 Tryz.f124 = some A124 := by kernel_rfl
/- alembic/alembicref4.bit -/
def X125 : FnAnn := ⟨[], [(1, [], [1, 0], []), (0, [], [1, 0], [])], []⟩
def A125 : AFun := by
  refine (fun x (_ : cFun Tryz.prog 183 [0, 1, 2, 3, 4, 5, 6, 7, 8, 9, 10, 11, 12, 13] X125 Tryz.f125 = some x) => x) ?_ ?_
  rotate_left
  · conv => lhs; cbv
theorem ok125 : cFun Tryz.prog 183 [0, 1, 2, 3, 4, 5, 6, 7, 8, 9, 10, 11, 12, 13] X125 Tryz.f125 = some A125 := by kernel_rfl
/- alembic/alembicref1.Root -/
def X126 : FnAnn := ⟨[], [(9, [], [4], []), (8, [], [4, 3, 1], [1]), (7, [], [4, 3, 1], [1]), (6, [], [3, 1], [1]), (5, [], [1], [1]), (4, [], [], []), (3, [], [1], [1]), (2, [], [], []), (1, [], [1], [1]), (0, [], [0], [])], [([4, 3, 1], [1])]⟩
def A126 : AFun := by
  refine (fun x (_ : cFun Tryz.prog 183 [0, 1, 2, 3, 4, 5, 6, 7, 8, 9, 10, 11, 12, 13] X126 Tryz.f126 = some x) => x) ?_ ?_
  rotate_left
  · conv => lhs; cbv
theorem ok126 : cFun Tryz.prog 183 [0, 1, 2, 3, 4, 5, 6, 7, 8, 9, 10, 11, 12, 13] X126 Tryz.f126 = some A126 := by kernel_rfl
/- alembic/alembicref1.Pow -/
def X127 : FnAnn := ⟨[], [(10, [], [7], []), (9, [], [8, 7, 2, 1], []), (8, [], [8, 7, 2, 1], []), (7, [], [8, 7, 2, 1], []), (6, [], [8, 7, 2, 1], []), (5, [], [8, 7, 2, 1], []), (4, [], [7, 2, 1, 0], []), (3, [], [2, 1, 0], []), (2, [], [], []), (1, [], [2, 1, 0], []), (0, [], [2, 1, 0], [])], [([8, 7, 2, 1], [])]⟩
def A127 : AFun := by
  refine (fun x (_ : cFun Tryz.prog 183 [0, 1, 2, 3, 4, 5, 6, 7, 8, 9, 10, 11, 12, 13] X127 Tryz.f127 = some x) => x) ?_ ?_
  rotate_left
  · conv => lhs; cbv
theorem ok127 : cFun Tryz.prog 183 [0, 1, 2, 3, 4, 5, 6, 7, 8, 9, 10, 11, 12, 13] X127 Tryz.f127 = some A127 := by kernel_rfl
/- alembic/alembicref.None -/
def X128 : FnAnn := ⟨[], [(1, [], [0], [0]), (0, [], [], [])], []⟩
def A128 : AFun := ⟨.seq (.pre [] [] [] (.reg [⟨some 0, .alloc [.i .i64 0, .b false, .i .i64 0], none⟩])) (.seq (.pre [] [0] [0] (.reg [⟨some 1, .build [.i .i64 0, .b false, .i .i64 0] [], none⟩, ⟨none, .store 3 (.tmp 0) (.tmp 1), none⟩])) .ret), 0, [.c 0 (some 3)]⟩
theorem ok128 : cFun Tryz.prog 183 [0, 1, 2, 3, 4, 5, 6, 7, 8, 9, 10, 11, 12, 13] X128 Tryz.f128 = some A128 := by kernel_rfl
/- alembic/alembicsee.sentinel -/
def X129 : FnAnn := ⟨[], [(7, [], [], []), (4, [], [4, 3, 0], []), (6, [], [4], []), (5, [], [4, 3, 0], []), (3, [], [4, 3, 0], []), (2, [], [3, 0], []), (1, [], [0], []), (0, [], [0], [])], [([4, 3, 0], [])]⟩
def A129 : AFun := by
  refine (fun x (_ : cFun Tryz.prog 183 [0, 1, 2, 3, 4, 5, 6, 7, 8, 9, 10, 11, 12, 13] X129 Tryz.f129 = some x) => x) ?_ ?_
  rotate_left
  · conv => lhs; cbv
theorem ok129 : cFun Tryz.prog 183 [0, 1, 2, 3, 4, 5, 6, 7, 8, 9, 10, 11, 12, 13] X129 Tryz.f129 = some A129 := by kernel_rfl
/- alembic/alembicref.Placed -/
def X130 : FnAnn := ⟨[], [(3, [], [4, 1, 0], [4]), (2, [], [4], [4]), (1, [], [4, 1, 0], [4]), (0, [], [1, 0], [])], []⟩
def A130 : AFun := by
  refine (fun x (_ : cFun Tryz.prog 183 [0, 1, 2, 3, 4, 5, 6, 7, 8, 9, 10, 11, 12, 13] X130 Tryz.f130 = some x) => x) ?_ ?_
  rotate_left
  · conv => lhs; cbv
theorem ok130 : cFun Tryz.prog 183 [0, 1, 2, 3, 4, 5, 6, 7, 8, 9, 10, 11, 12, 13] X130 Tryz.f130 = some A130 := by kernel_rfl
/- alembic/zq.Is -/
def X137 : FnAnn := ⟨[], [(10, [], [], []), (9, [], [], []), (8, [], [3], []), (7, [], [3], []), (6, [], [3], []), (5, [], [3], []), (4, [], [3], []), (3, [], [3], []), (2, [], [3], []), (1, [], [0], []), (0, [], [0], [])], []⟩
def A137 : AFun := by
  refine (fun x (_ : cFun Tryz.prog 183 [0, 1, 2, 3, 4, 5, 6, 7, 8, 9, 10, 11, 12, 13] X137 Tryz.f137 = some x) => x) ?_ ?_
  rotate_left
  · conv => lhs; cbv
theorem ok137 : cFun Tryz.prog 183 [0, 1, 2, 3, 4, 5, 6, 7, 8, 9, 10, 11, 12, 13] X137 Tryz.f137 = some A137 := by kernel_rfl
/- alembic/ring.Valid -/
def X138 : FnAnn := ⟨[], [(12, [], [], []), (11, [], [], []), (10, [], [1], [1]), (2, [], [], []), (9, [], [4, 1], [1]), (8, [], [4, 1], [1]), (7, [], [4, 1], [1]), (6, [], [4, 1], [1]), (5, [], [4, 1], [1]), (4, [], [4, 1], [1]), (3, [], [4, 1], [1]), (1, [], [1], [1]), (0, [], [0], [])], []⟩
def A138 : AFun := by
  refine (fun x (_ : cFun Tryz.prog 183 [0, 1, 2, 3, 4, 5, 6, 7, 8, 9, 10, 11, 12, 13] X138 Tryz.f138 = some x) => x) ?_ ?_
  rotate_left
  · conv => lhs; cbv
theorem ok138 : cFun Tryz.prog 183 [0, 1, 2, 3, 4, 5, 6, 7, 8, 9, 10, 11, 12, 13] X138 Tryz.f138 = some A138 := by kernel_rfl
/- alembic/shake.New -/
def X139 : FnAnn := ⟨[], [(3, [], [1, 0], []), (2, [], [], []), (1, [], [1, 0], []), (0, [], [1, 0], [])], []⟩
def A139 : AFun := by
  refine (fun x (_ : cFun Tryz.prog 183 [0, 1, 2, 3, 4, 5, 6, 7, 8, 9, 10, 11, 12, 13] X139 Tryz.f139 = some x) => x) ?_ ?_
  rotate_left
  · conv => lhs; cbv
theorem ok139 : cFun Tryz.prog 183 [0, 1, 2, 3, 4, 5, 6, 7, 8, 9, 10, 11, 12, 13] X139 Tryz.f139 = some A139 := by kernel_rfl
/- (*alembic/shake.Sponge).Absorb -/
def X140 : FnAnn := ⟨[(12, [])], [(4, [], [], [0]), (3, [], [1, 0], [0]), (2, [], [], [0]), (1, [], [1, 0], [0]), (0, [], [1, 0], [0])], []⟩
def A140 : AFun := by
  refine (fun x (_ : cFun Tryz.prog 183 [0, 1, 2, 3, 4, 5, 6, 7, 8, 9, 10, 11, 12, 13] X140 Tryz.f140 = some x) => x) ?_ ?_
  rotate_left
  · conv => lhs; cbv
theorem ok140 : cFun Tryz.prog 183 [0, 1, 2, 3, 4, 5, 6, 7, 8, 9, 10, 11, 12, 13] X140 Tryz.f140 = some A140 := by kernel_rfl
/- alembic/ring.both -/
def X141 : FnAnn := ⟨[], [(8, [], [], []), (7, [], [10, 9, 8, 2], [2]), (6, [], [7], []), (5, [], [10, 9, 8, 7, 2], [2]), (4, [], [10, 9, 8, 6, 2], [2]), (3, [], [10, 9, 8, 2], [2]), (2, [], [10, 9, 8, 2], [2]), (1, [], [2, 1], [2]), (0, [], [1, 0], [])], [([10, 9, 8, 2], [2])]⟩
def A141 : AFun := by
  refine (fun x (_ : cFun Tryz.prog 183 [0, 1, 2, 3, 4, 5, 6, 7, 8, 9, 10, 11, 12, 13] X141 Tryz.f141 = some x) => x) ?_ ?_
  rotate_left
  · conv => lhs; cbv
theorem ok141 : cFun Tryz.prog 183 [0, 1, 2, 3, 4, 5, 6, 7, 8, 9, 10, 11, 12, 13] X141 Tryz.f141 = some A141 := by kernel_rfl
/- alembic/ntt.Depth -/
def X142 : FnAnn := ⟨[], [(6, [], [3], []), (5, [], [3, 1], [1]), (4, [], [3, 1], [1]), (3, [], [1], [1]), (2, [], [], []), (1, [], [1], [1]), (0, [], [0], [])], [([3, 1], [1])]⟩
def A142 : AFun := by
  refine (fun x (_ : cFun Tryz.prog 183 [0, 1, 2, 3, 4, 5, 6, 7, 8, 9, 10, 11, 12, 13] X142 Tryz.f142 = some x) => x) ?_ ?_
  rotate_left
  · conv => lhs; cbv
theorem ok142 : cFun Tryz.prog 183 [0, 1, 2, 3, 4, 5, 6, 7, 8, 9, 10, 11, 12, 13] X142 Tryz.f142 = some A142 := by kernel_rfl
/- (*alembic/shake.Sponge).mix -/
def X143 : FnAnn := ⟨[], [(0, [], [2, 1, 0], [0])], []⟩
def A143 : AFun := by
  refine (fun x (_ : cFun Tryz.prog 183 [0, 1, 2, 3, 4, 5, 6, 7, 8, 9, 10, 11, 12, 13] X143 Tryz.f143 = some x) => x) ?_ ?_
  rotate_left
  · conv => lhs; cbv
theorem ok143 : cFun Tryz.prog 183 [0, 1, 2, 3, 4, 5, 6, 7, 8, 9, 10, 11, 12, 13] X143 Tryz.f143 = some A143 := by kernel_rfl
/- alembic/keccak.Permute -/
def X144 : FnAnn := ⟨[], [(6, [], [2, 1], [2, 1]), (5, [], [4, 2, 1], [2, 1]), (4, [], [4, 3, 2, 1], [2, 1]), (3, [], [4, 2, 1], [2, 1]), (2, [], [4, 2, 1], [2, 1]), (1, [], [2, 1], [2, 1]), (0, [], [0], [])], [([4, 2, 1], [2, 1])]⟩
def A144 : AFun := by
  refine (fun x (_ : cFun Tryz.prog 183 [0, 1, 2, 3, 4, 5, 6, 7, 8, 9, 10, 11, 12, 13] X144 Tryz.f144 = some x) => x) ?_ ?_
  rotate_left
  · conv => lhs; cbv
theorem ok144 : cFun Tryz.prog 183 [0, 1, 2, 3, 4, 5, 6, 7, 8, 9, 10, 11, 12, 13] X144 Tryz.f144 = some A144 := by kernel_rfl
/- (*alembic/alembicref4.Sponge).xor -/
def X145 : FnAnn := ⟨[], [(0, [], [2, 1, 0], [0])], []⟩
def A145 : AFun := by
  refine (fun x (_ : cFun Tryz.prog 183 [0, 1, 2, 3, 4, 5, 6, 7, 8, 9, 10, 11, 12, 13] X145 Tryz.f145 = some x) => x) ?_ ?_
  rotate_left
  · conv => lhs; cbv
theorem ok145 : cFun Tryz.prog 183 [0, 1, 2, 3, 4, 5, 6, 7, 8, 9, 10, 11, 12, 13] X145 Tryz.f145 = some A145 := by kernel_rfl
/- alembic/alembicref4.Permute -/
def X146 : FnAnn := ⟨[], [(5, [], [2, 1], [2, 1]), (3, [], [3, 2, 1], [2, 1]), (4, [], [3, 2, 1], [2, 1]), (2, [], [3, 2, 1], [2, 1]), (1, [], [2, 1], [2, 1]), (0, [], [0], [])], [([3, 2, 1], [2, 1])]⟩
def A146 : AFun := by
  refine (fun x (_ : cFun Tryz.prog 183 [0, 1, 2, 3, 4, 5, 6, 7, 8, 9, 10, 11, 12, 13] X146 Tryz.f146 = some x) => x) ?_ ?_
  rotate_left
  · conv => lhs; cbv
theorem ok146 : cFun Tryz.prog 183 [0, 1, 2, 3, 4, 5, 6, 7, 8, 9, 10, 11, 12, 13] X146 Tryz.f146 = some A146 := by kernel_rfl
/- alembic/alembicsee.sentinels -/
def X147 : FnAnn := ⟨[], [(1, [], [], []), (0, [], [], [])], []⟩
def A147 : AFun := by
  refine (fun x (_ : cFun Tryz.prog 183 [0, 1, 2, 3, 4, 5, 6, 7, 8, 9, 10, 11, 12, 13] X147 Tryz.f147 = some x) => x) ?_ ?_
  rotate_left
  · conv => lhs; cbv
theorem ok147 : cFun Tryz.prog 183 [0, 1, 2, 3, 4, 5, 6, 7, 8, 9, 10, 11, 12, 13] X147 Tryz.f147 = some A147 := by kernel_rfl
/- alembic/alembicsee.Alike -/
def X148 : FnAnn := ⟨[], [(3, [], [1, 0], []), (2, [], [1, 0], []), (1, [], [1, 0], []), (0, [], [1, 0], [])], []⟩
def A148 : AFun := by
  refine (fun x (_ : cFun Tryz.prog 183 [0, 1, 2, 3, 4, 5, 6, 7, 8, 9, 10, 11, 12, 13] X148 Tryz.f148 = some x) => x) ?_ ?_
  rotate_left
  · conv => lhs; cbv
theorem ok148 : cFun Tryz.prog 183 [0, 1, 2, 3, 4, 5, 6, 7, 8, 9, 10, 11, 12, 13] X148 Tryz.f148 = some A148 := by kernel_rfl
/- alembic/keccak.Round -/
def X153 : FnAnn := ⟨[], [(23, [], [13, 4], [13, 4]), (22, [], [13, 4, 1], [13, 4]), (21, [], [69, 13, 8, 4, 1], [13, 8, 4]), (20, [], [69, 16, 15, 14, 13, 8, 4, 1], [13, 8, 4]), (19, [], [69, 14, 13, 8, 4, 1], [13, 8, 4]), (18, [], [69, 13, 8, 4, 1], [13, 8, 4]), (17, [], [69, 13, 8, 4, 1], [13, 8, 4]), (16, [], [13, 8, 4, 1], [13, 8, 4]), (15, [], [8, 4, 1], [8, 4]), (14, [], [31, 30, 8, 5, 4, 1], [8, 5, 4]), (13, [], [31, 30, 12, 11, 10, 8, 5, 4, 1], [8, 5, 4]), (12, [], [31, 30, 12, 11, 10, 8, 5, 4, 1], [8, 5, 4]), (11, [], [31, 30, 10, 9, 8, 5, 4, 1], [8, 5, 4]), (10, [], [31, 30, 8, 5, 4, 1], [8, 5, 4]), (9, [], [31, 30, 8, 5, 4, 1], [8, 5, 4]), (8, [], [8, 5, 4, 2, 1], [8, 5, 4, 2]), (7, [], [5, 4, 2, 1], [5, 4, 2]), (6, [], [18, 17, 5, 4, 2, 1], [5, 4, 2]), (5, [], [18, 17, 7, 6, 5, 4, 2, 1], [5, 4, 2]), (4, [], [18, 17, 5, 4, 2, 1], [5, 4, 2]), (3, [], [18, 17, 5, 4, 2, 1], [5, 4, 2]), (2, [], [5, 4, 2, 1], [5, 4, 2]), (1, [], [4, 2, 1], [4, 2]), (0, [], [1, 0], [])], [([18, 17, 5, 4, 2, 1], [5, 4, 2]), ([31, 30, 8, 5, 4, 1], [8, 5, 4]), ([69, 13, 8, 4, 1], [13, 8, 4])]⟩
def A153 : AFun := by
  refine (fun x (_ : cFun Tryz.prog 183 [0, 1, 2, 3, 4, 5, 6, 7, 8, 9, 10, 11, 12, 13] X153 Tryz.f153 = some x) => x) ?_ ?_
  rotate_left
  · conv => lhs; cbv
theorem ok153 : cFun Tryz.prog 183 [0, 1, 2, 3, 4, 5, 6, 7, 8, 9, 10, 11, 12, 13] X153 Tryz.f153 = some A153 := by kernel_rfl
/- alembic/alembicref4.Round -/
def X154 : FnAnn := ⟨[], [(27, [], [12, 4], [12, 4]), (26, [], [12, 4, 1], [12, 4]), (21, [], [13, 12, 8, 4, 1], [12, 8, 4]), (24, [], [14, 13, 12, 8, 4, 1], [12, 8, 4]), (25, [], [14, 13, 12, 8, 4, 1], [12, 8, 4]), (23, [], [14, 13, 12, 8, 4, 1], [12, 8, 4]), (22, [], [13, 12, 8, 4, 1], [12, 8, 4]), (20, [], [13, 12, 8, 4, 1], [12, 8, 4]), (19, [], [12, 8, 4, 1], [12, 8, 4]), (18, [], [8, 4, 1], [8, 4]), (12, [], [9, 8, 5, 4, 2, 1], [8, 5, 4, 2]), (16, [], [11, 10, 9, 8, 5, 4, 2, 1], [8, 5, 4, 2]), (17, [], [11, 10, 9, 8, 5, 4, 2, 1], [8, 5, 4, 2]), (15, [], [11, 10, 9, 8, 5, 4, 2, 1], [8, 5, 4, 2]), (14, [], [10, 9, 8, 5, 4, 2, 1], [8, 5, 4, 2]), (13, [], [9, 8, 5, 4, 2, 1], [8, 5, 4, 2]), (11, [], [9, 8, 5, 4, 2, 1], [8, 5, 4, 2]), (10, [], [8, 5, 4, 2, 1], [8, 5, 4, 2]), (9, [], [5, 4, 2, 1], [5, 4, 2]), (4, [], [6, 5, 4, 2, 1], [5, 4, 2]), (7, [], [7, 6, 5, 4, 2, 1], [5, 4, 2]), (8, [], [7, 6, 5, 4, 2, 1], [5, 4, 2]), (6, [], [7, 6, 5, 4, 2, 1], [5, 4, 2]), (5, [], [6, 5, 4, 2, 1], [5, 4, 2]), (3, [], [6, 5, 4, 2, 1], [5, 4, 2]), (2, [], [5, 4, 2, 1], [5, 4, 2]), (1, [], [4, 2, 1], [4, 2]), (0, [], [1, 0], [])], [([6, 5, 4, 2, 1], [5, 4, 2]), ([7, 6, 5, 4, 2, 1], [5, 4, 2]), ([9, 8, 5, 4, 2, 1], [8, 5, 4, 2]), ([11, 10, 9, 8, 5, 4, 2, 1], [8, 5, 4, 2]), ([13, 12, 8, 4, 1], [12, 8, 4]), ([14, 13, 12, 8, 4, 1], [12, 8, 4])]⟩
def A154 : AFun := ⟨.seq (.pre [] [1, 0] [] (.reg [⟨some 2, .box 25 (.tmp 0), none⟩, ⟨some 4, .alloc [.i .u64 0, .i .u64 0, .i .u64 0, .i .u64 0, .i .u64 0, .i .u64 0, .i .u64 0, .i .u64 0, .i .u64 0, .i .u64 0, .i .u64 0, .i .u64 0, .i .u64 0, .i .u64 0, .i .u64 0, .i .u64 0, .i .u64 0, .i .u64 0, .i .u64 0, .i .u64 0, .i .u64 0, .i .u64 0, .i .u64 0, .i .u64 0, .i .u64 0], none⟩])) (.seq (.pre [] [4, 2, 1] [4, 2] (.reg [⟨some 5, .alloc [.i .u64 0, .i .u64 0, .i .u64 0, .i .u64 0, .i .u64 0], none⟩])) (.seq (.seq (.pre [] [5, 4, 2, 1] [5, 4, 2] (.reg [⟨some 6, .move (.const (.int .i64 0)), none⟩])) (.block 0 (.loop [6, 5, 4, 2, 1] [5, 4, 2] (.seq (.seq (.pre [] [6, 5, 4, 2, 1] [5, 4, 2] (.reg [⟨some 15, .move (.tmp 6), none⟩, ⟨some 16, .bin .no .lss (.tmp 15) (.const (.int .i64 5)), none⟩])) (.cond (.tmp 16) .skip (.exit 0))) (.seq (.block 1 (.seq (.pre [] [6, 5, 4, 2, 1] [5, 4, 2] (.reg [⟨some 7, .move (.const (.int .i64 0)), none⟩])) (.block 2 (.loop [7, 6, 5, 4, 2, 1] [5, 4, 2] (.seq (.seq (.pre [] [7, 6, 5, 4, 2, 1] [5, 4, 2] (.reg [⟨some 19, .move (.tmp 7), none⟩, ⟨some 20, .bin .no .lss (.tmp 19) (.const (.int .i64 5)), none⟩])) (.cond (.tmp 20) .skip (.exit 2))) (.seq (.block 3 (.pre [] [7, 6, 5, 4, 2, 1] [5, 4, 2] (.reg [⟨some 23, .move (.tmp 6), none⟩, ⟨some 24, .move (.tmp 6), none⟩, ⟨some 25, .ixA 5 1 (.tmp 5) (.tmp 24), none⟩, ⟨some 26, .load none (.tmp 25), none⟩, ⟨some 27, .move (.tmp 6), none⟩, ⟨some 28, .move (.tmp 7), none⟩, ⟨some 29, .bin .no .mul (.const (.int .i64 5)) (.tmp 28), none⟩, ⟨some 30, .bin .no .add (.tmp 27) (.tmp 29), none⟩, ⟨some 31, .ixA 25 1 (.tmp 2) (.tmp 30), none⟩, ⟨some 32, .load none (.tmp 31), none⟩, ⟨some 33, .bin .no .xor (.tmp 26) (.tmp 32), none⟩, ⟨some 34, .ixA 5 1 (.tmp 5) (.tmp 23), none⟩, ⟨none, .store 1 (.tmp 34) (.tmp 33), none⟩]))) (.pre [] [7, 6, 5, 4, 2, 1] [5, 4, 2] (.reg [⟨some 21, .move (.tmp 7), none⟩, ⟨some 22, .bin .no .add (.tmp 21) (.const (.int .i64 1)), none⟩, ⟨some 7, .move (.tmp 22), none⟩])))))))) (.pre [] [6, 5, 4, 2, 1] [5, 4, 2] (.reg [⟨some 17, .move (.tmp 6), none⟩, ⟨some 18, .bin .no .add (.tmp 17) (.const (.int .i64 1)), none⟩, ⟨some 6, .move (.tmp 18), none⟩]))))))) (.seq (.pre [] [5, 4, 2, 1] [5, 4, 2] (.reg [⟨some 8, .alloc [.i .u64 0, .i .u64 0, .i .u64 0, .i .u64 0, .i .u64 0, .i .u64 0, .i .u64 0, .i .u64 0, .i .u64 0, .i .u64 0, .i .u64 0, .i .u64 0, .i .u64 0, .i .u64 0, .i .u64 0, .i .u64 0, .i .u64 0, .i .u64 0, .i .u64 0, .i .u64 0, .i .u64 0, .i .u64 0, .i .u64 0, .i .u64 0, .i .u64 0], none⟩])) (.seq (.seq (.pre [] [8, 5, 4, 2, 1] [8, 5, 4, 2] (.reg [⟨some 9, .move (.const (.int .i64 0)), none⟩])) (.block 4 (.loop [9, 8, 5, 4, 2, 1] [8, 5, 4, 2] (.seq (.seq (.pre [] [9, 8, 5, 4, 2, 1] [8, 5, 4, 2] (.reg [⟨some 35, .move (.tmp 9), none⟩, ⟨some 36, .bin .no .lss (.tmp 35) (.const (.int .i64 5)), none⟩])) (.cond (.tmp 36) .skip (.exit 4))) (.seq (.block 5 (.seq (.pre [] [9, 8, 5, 4, 2, 1] [8, 5, 4, 2] (.reg [⟨some 39, .move (.tmp 9), none⟩, ⟨some 40, .bin .no .add (.tmp 39) (.const (.int .i64 4)), none⟩, ⟨some 41, .bin .no .rem (.tmp 40) (.const (.int .i64 5)), none⟩, ⟨some 42, .ixA 5 1 (.tmp 5) (.tmp 41), none⟩, ⟨some 43, .load none (.tmp 42), none⟩, ⟨some 44, .move (.tmp 9), none⟩, ⟨some 45, .bin .no .add (.tmp 44) (.const (.int .i64 1)), none⟩, ⟨some 46, .bin .no .rem (.tmp 45) (.const (.int .i64 5)), none⟩, ⟨some 47, .ixA 5 1 (.tmp 5) (.tmp 46), none⟩, ⟨some 48, .load none (.tmp 47), none⟩, ⟨some 49, .call (.func 158) [.tmp 48, .const (.int .i64 1)], none⟩, ⟨some 50, .bin .no .xor (.tmp 43) (.tmp 49), none⟩, ⟨some 10, .move (.tmp 50), none⟩])) (.seq (.pre [] [10, 9, 8, 5, 4, 2, 1] [8, 5, 4, 2] (.reg [⟨some 11, .move (.const (.int .i64 0)), none⟩])) (.block 6 (.loop [11, 10, 9, 8, 5, 4, 2, 1] [8, 5, 4, 2] (.seq (.seq (.pre [] [11, 10, 9, 8, 5, 4, 2, 1] [8, 5, 4, 2] (.reg [⟨some 51, .move (.tmp 11), none⟩, ⟨some 52, .bin .no .lss (.tmp 51) (.const (.int .i64 5)), none⟩])) (.cond (.tmp 52) .skip (.exit 6))) (.seq (.block 7 (.pre [] [11, 10, 9, 8, 5, 4, 2, 1] [8, 5, 4, 2] (.reg [⟨some 55, .move (.tmp 11), none⟩, ⟨some 56, .move (.tmp 9), none⟩, ⟨some 57, .bin .no .mul (.const (.int .i64 2)) (.tmp 56), none⟩, ⟨some 58, .move (.tmp 11), none⟩, ⟨some 59, .bin .no .mul (.const (.int .i64 3)) (.tmp 58), none⟩, ⟨some 60, .bin .no .add (.tmp 57) (.tmp 59), none⟩, ⟨some 61, .bin .no .rem (.tmp 60) (.const (.int .i64 5)), none⟩, ⟨some 62, .bin .no .mul (.const (.int .i64 5)) (.tmp 61), none⟩, ⟨some 63, .bin .no .add (.tmp 55) (.tmp 62), none⟩, ⟨some 64, .move (.tmp 9), none⟩, ⟨some 65, .move (.tmp 11), none⟩, ⟨some 66, .bin .no .mul (.const (.int .i64 5)) (.tmp 65), none⟩, ⟨some 67, .bin .no .add (.tmp 64) (.tmp 66), none⟩, ⟨some 68, .ixA 25 1 (.tmp 2) (.tmp 67), none⟩, ⟨some 69, .load none (.tmp 68), none⟩, ⟨some 70, .move (.tmp 10), none⟩, ⟨some 71, .bin .no .xor (.tmp 69) (.tmp 70), none⟩, ⟨some 72, .move (.tmp 9), none⟩, ⟨some 73, .move (.tmp 11), none⟩, ⟨some 74, .call (.func 159) [.tmp 72, .tmp 73], none⟩, ⟨some 75, .call (.func 158) [.tmp 71, .tmp 74], none⟩, ⟨some 76, .ixA 25 1 (.tmp 8) (.tmp 63), none⟩, ⟨none, .store 1 (.tmp 76) (.tmp 75), none⟩]))) (.pre [] [11, 10, 9, 8, 5, 4, 2, 1] [8, 5, 4, 2] (.reg [⟨some 53, .move (.tmp 11), none⟩, ⟨some 54, .bin .no .add (.tmp 53) (.const (.int .i64 1)), none⟩, ⟨some 11, .move (.tmp 54), none⟩]))))))))) (.pre [] [9, 8, 5, 4, 2, 1] [8, 5, 4, 2] (.reg [⟨some 37, .move (.tmp 9), none⟩, ⟨some 38, .bin .no .add (.tmp 37) (.const (.int .i64 1)), none⟩, ⟨some 9, .move (.tmp 38), none⟩]))))))) (.seq (.pre [] [8, 4, 1] [8, 4] (.reg [⟨some 12, .alloc [.i .u64 0, .i .u64 0, .i .u64 0, .i .u64 0, .i .u64 0, .i .u64 0, .i .u64 0, .i .u64 0, .i .u64 0, .i .u64 0, .i .u64 0, .i .u64 0, .i .u64 0, .i .u64 0, .i .u64 0, .i .u64 0, .i .u64 0, .i .u64 0, .i .u64 0, .i .u64 0, .i .u64 0, .i .u64 0, .i .u64 0, .i .u64 0, .i .u64 0], none⟩])) (.seq (.seq (.pre [] [12, 8, 4, 1] [12, 8, 4] (.reg [⟨some 13, .move (.const (.int .i64 0)), none⟩])) (.block 8 (.loop [13, 12, 8, 4, 1] [12, 8, 4] (.seq (.seq (.pre [] [13, 12, 8, 4, 1] [12, 8, 4] (.reg [⟨some 77, .move (.tmp 13), none⟩, ⟨some 78, .bin .no .lss (.tmp 77) (.const (.int .i64 5)), none⟩])) (.cond (.tmp 78) .skip (.exit 8))) (.seq (.block 9 (.seq (.pre [] [13, 12, 8, 4, 1] [12, 8, 4] (.reg [⟨some 14, .move (.const (.int .i64 0)), none⟩])) (.block 10 (.loop [14, 13, 12, 8, 4, 1] [12, 8, 4] (.seq (.seq (.pre [] [14, 13, 12, 8, 4, 1] [12, 8, 4] (.reg [⟨some 81, .move (.tmp 14), none⟩, ⟨some 82, .bin .no .lss (.tmp 81) (.const (.int .i64 5)), none⟩])) (.cond (.tmp 82) .skip (.exit 10))) (.seq (.block 11 (.pre [] [14, 13, 12, 8, 4, 1] [12, 8, 4] (.reg [⟨some 85, .move (.tmp 13), none⟩, ⟨some 86, .move (.tmp 14), none⟩, ⟨some 87, .bin .no .mul (.const (.int .i64 5)) (.tmp 86), none⟩, ⟨some 88, .bin .no .add (.tmp 85) (.tmp 87), none⟩, ⟨some 89, .move (.tmp 13), none⟩, ⟨some 90, .move (.tmp 14), none⟩, ⟨some 91, .bin .no .mul (.const (.int .i64 5)) (.tmp 90), none⟩, ⟨some 92, .bin .no .add (.tmp 89) (.tmp 91), none⟩, ⟨some 93, .ixA 25 1 (.tmp 8) (.tmp 92), none⟩, ⟨some 94, .load none (.tmp 93), none⟩, ⟨some 95, .move (.tmp 13), none⟩, ⟨some 96, .bin .no .add (.tmp 95) (.const (.int .i64 1)), none⟩, ⟨some 97, .bin .no .rem (.tmp 96) (.const (.int .i64 5)), none⟩, ⟨some 98, .move (.tmp 14), none⟩, ⟨some 99, .bin .no .mul (.const (.int .i64 5)) (.tmp 98), none⟩, ⟨some 100, .bin .no .add (.tmp 97) (.tmp 99), none⟩, ⟨some 101, .ixA 25 1 (.tmp 8) (.tmp 100), none⟩, ⟨some 102, .load none (.tmp 101), none⟩, ⟨some 103, .un .xor (.tmp 102), none⟩, ⟨some 104, .move (.tmp 13), none⟩, ⟨some 105, .bin .no .add (.tmp 104) (.const (.int .i64 2)), none⟩, ⟨some 106, .bin .no .rem (.tmp 105) (.const (.int .i64 5)), none⟩, ⟨some 107, .move (.tmp 14), none⟩, ⟨some 108, .bin .no .mul (.const (.int .i64 5)) (.tmp 107), none⟩, ⟨some 109, .bin .no .add (.tmp 106) (.tmp 108), none⟩, ⟨some 110, .ixA 25 1 (.tmp 8) (.tmp 109), none⟩, ⟨some 111, .load none (.tmp 110), none⟩, ⟨some 112, .bin .no .and (.tmp 103) (.tmp 111), none⟩, ⟨some 113, .bin .no .xor (.tmp 94) (.tmp 112), none⟩, ⟨some 114, .ixA 25 1 (.tmp 12) (.tmp 88), none⟩, ⟨none, .store 1 (.tmp 114) (.tmp 113), none⟩]))) (.pre [] [14, 13, 12, 8, 4, 1] [12, 8, 4] (.reg [⟨some 83, .move (.tmp 14), none⟩, ⟨some 84, .bin .no .add (.tmp 83) (.const (.int .i64 1)), none⟩, ⟨some 14, .move (.tmp 84), none⟩])))))))) (.pre [] [13, 12, 8, 4, 1] [12, 8, 4] (.reg [⟨some 79, .move (.tmp 13), none⟩, ⟨some 80, .bin .no .add (.tmp 79) (.const (.int .i64 1)), none⟩, ⟨some 13, .move (.tmp 80), none⟩]))))))) (.seq (.pre [] [12, 4, 1] [12, 4] (.reg [⟨some 115, .ixA 25 1 (.tmp 12) (.const (.int .i64 0)), none⟩, ⟨some 116, .load none (.tmp 115), none⟩, ⟨some 117, .move (.tmp 1), none⟩, ⟨some 118, .call (.func 160) [.tmp 117], none⟩, ⟨some 119, .bin .no .xor (.tmp 116) (.tmp 118), none⟩, ⟨some 120, .ixA 25 1 (.tmp 12) (.const (.int .i64 0)), none⟩, ⟨none, .store 1 (.tmp 120) (.tmp 119), none⟩])) (.seq (.pre [] [12, 4] [12, 4] (.reg [⟨some 121, .load (some 25) (.tmp 12), none⟩, ⟨none, .store 25 (.tmp 4) (.tmp 121), none⟩])) .ret)))))))), 2, [.c 4 (some 25)]⟩
theorem ok154 : cFun Tryz.prog 183 [0, 1, 2, 3, 4, 5, 6, 7, 8, 9, 10, 11, 12, 13] X154 Tryz.f154 = some A154 := by kernel_rfl
/- math/bits.RotateLeft64 -/
def X155 : FnAnn := ⟨[], [(2, [], [5, 0], []), (1, [], [1, 0], []), (0, [], [1, 0], [])], []⟩
def A155 : AFun := by
  refine (fun x (_ : cFun Tryz.prog 183 [0, 1, 2, 3, 4, 5, 6, 7, 8, 9, 10, 11, 12, 13] X155 Tryz.f155 = some x) => x) ?_ ?_
  rotate_left
  · conv => lhs; cbv
theorem ok155 : cFun Tryz.prog 183 [0, 1, 2, 3, 4, 5, 6, 7, 8, 9, 10, 11, 12, 13] X155 Tryz.f155 = some A155 := by kernel_rfl
/- alembic/keccak.Turn -/
def X156 : FnAnn := ⟨[], [(9, [], [], []), (8, [], [8, 6, 5, 1, 0], []), (7, [], [8, 6, 5, 1, 0], []), (6, [], [7], []), (5, [], [8, 7, 6, 5, 1, 0], []), (4, [], [8, 6, 5, 1, 0], []), (3, [], [8, 6, 5, 1, 0], []), (2, [], [6, 5, 1, 0], []), (1, [], [1, 0], []), (0, [], [1, 0], [])], [([8, 6, 5, 1, 0], [])]⟩
def A156 : AFun := by
  refine (fun x (_ : cFun Tryz.prog 183 [0, 1, 2, 3, 4, 5, 6, 7, 8, 9, 10, 11, 12, 13] X156 Tryz.f156 = some x) => x) ?_ ?_
  rotate_left
  · conv => lhs; cbv
theorem ok156 : cFun Tryz.prog 183 [0, 1, 2, 3, 4, 5, 6, 7, 8, 9, 10, 11, 12, 13] X156 Tryz.f156 = some A156 := by kernel_rfl
/- alembic/keccak.Constant -/
def X157 : FnAnn := ⟨[], [(16, [], [3], []), (15, [], [17, 16, 4, 3, 0], []), (14, [], [17, 16, 4, 3, 0], []), (13, [], [17, 16, 7, 4, 3, 0], []), (12, [], [17, 16, 7, 4, 3, 0], []), (11, [], [17, 16, 4, 3, 0], []), (10, [], [17, 16, 6, 4, 3, 0], []), (9, [], [17, 16, 6, 4, 3, 0], []), (8, [], [17, 16, 5, 4, 3, 0], []), (7, [], [17, 16, 4, 3, 0], []), (6, [], [17, 16, 4, 3, 0], []), (5, [], [4, 3, 0], []), (4, [], [3, 0], []), (3, [], [0], []), (2, [], [], []), (1, [], [0], []), (0, [], [0], [])], [([17, 16, 4, 3, 0], [])]⟩
def A157 : AFun := by
  refine (fun x (_ : cFun Tryz.prog 183 [0, 1, 2, 3, 4, 5, 6, 7, 8, 9, 10, 11, 12, 13] X157 Tryz.f157 = some x) => x) ?_ ?_
  rotate_left
  · conv => lhs; cbv
theorem ok157 : cFun Tryz.prog 183 [0, 1, 2, 3, 4, 5, 6, 7, 8, 9, 10, 11, 12, 13] X157 Tryz.f157 = some A157 := by kernel_rfl
/- alembic/alembicref4.turned -/
def X158 : FnAnn := ⟨[], [(1, [], [1, 0], []), (0, [], [1, 0], [])], []⟩
def A158 : AFun := by
  refine (fun x (_ : cFun Tryz.prog 183 [0, 1, 2, 3, 4, 5, 6, 7, 8, 9, 10, 11, 12, 13] X158 Tryz.f158 = some x) => x) ?_ ?_
  rotate_left
  · conv => lhs; cbv
theorem ok158 : cFun Tryz.prog 183 [0, 1, 2, 3, 4, 5, 6, 7, 8, 9, 10, 11, 12, 13] X158 Tryz.f158 = some A158 := by kernel_rfl
/- alembic/alembicref4.Turn -/
def X159 : FnAnn := ⟨[], [(11, [], [], []), (5, [], [7, 6, 5, 1, 0], []), (10, [], [8, 7, 5, 1, 0], []), (9, [], [8, 7, 6, 1, 0], []), (8, [], [7, 6, 5, 1, 0], []), (7, [], [7], []), (6, [], [7, 6, 5, 1, 0], []), (4, [], [7, 6, 5, 1, 0], []), (3, [], [6, 5, 1, 0], []), (2, [], [5, 1, 0], []), (1, [], [1, 0], []), (0, [], [1, 0], [])], [([7, 6, 5, 1, 0], [])]⟩
def A159 : AFun := by
  refine (fun x (_ : cFun Tryz.prog 183 [0, 1, 2, 3, 4, 5, 6, 7, 8, 9, 10, 11, 12, 13] X159 Tryz.f159 = some x) => x) ?_ ?_
  rotate_left
  · conv => lhs; cbv
theorem ok159 : cFun Tryz.prog 183 [0, 1, 2, 3, 4, 5, 6, 7, 8, 9, 10, 11, 12, 13] X159 Tryz.f159 = some A159 := by kernel_rfl
/- alembic/alembicref4.Constant -/
def X160 : FnAnn := ⟨[], [(13, [], [3], []), (7, [], [5, 4, 3, 0], []), (11, [], [5, 4, 3, 0], []), (12, [], [5, 4, 3, 0], []), (10, [], [5, 4, 3, 0], []), (9, [], [5, 4, 3, 0], []), (8, [], [5, 4, 3, 0], []), (6, [], [5, 4, 3, 0], []), (5, [], [4, 3, 0], []), (4, [], [3, 0], []), (3, [], [0], []), (2, [], [], []), (1, [], [0], []), (0, [], [0], [])], [([5, 4, 3, 0], [])]⟩
def A160 : AFun := by
  refine (fun x (_ : cFun Tryz.prog 183 [0, 1, 2, 3, 4, 5, 6, 7, 8, 9, 10, 11, 12, 13] X160 Tryz.f160 = some x) => x) ?_ ?_
  rotate_left
  · conv => lhs; cbv
theorem ok160 : cFun Tryz.prog 183 [0, 1, 2, 3, 4, 5, 6, 7, 8, 9, 10, 11, 12, 13] X160 Tryz.f160 = some A160 := by kernel_rfl
def tab : Nat → Option AFun
  | 3 => some A3
  | 7 => some A7
  | 8 => some A8
  | 9 => some A9
  | 10 => some A10
  | 11 => some A11
  | 12 => some A12
  | 13 => some A13
  | 14 => some A14
  | 15 => some A15
  | 26 => some A26
  | 28 => some A28
  | 29 => some A29
  | 30 => some A30
  | 31 => some A31
  | 32 => some A32
  | 33 => some A33
  | 34 => some A34
  | 35 => some A35
  | 36 => some A36
  | 37 => some A37
  | 38 => some A38
  | 39 => some A39
  | 40 => some A40
  | 41 => some A41
  | 42 => some A42
  | 43 => some A43
  | 44 => some A44
  | 45 => some A45
  | 46 => some A46
  | 47 => some A47
  | 48 => some A48
  | 49 => some A49
  | 50 => some A50
  | 51 => some A51
  | 52 => some A52
  | 69 => some A69
  | 70 => some A70
  | 71 => some A71
  | 72 => some A72
  | 73 => some A73
  | 74 => some A74
  | 75 => some A75
  | 76 => some A76
  | 77 => some A77
  | 78 => some A78
  | 79 => some A79
  | 80 => some A80
  | 81 => some A81
  | 82 => some A82
  | 83 => some A83
  | 84 => some A84
  | 85 => some A85
  | 86 => some A86
  | 87 => some A87
  | 88 => some A88
  | 89 => some A89
  | 95 => some A95
  | 96 => some A96
  | 98 => some A98
  | 99 => some A99
  | 100 => some A100
  | 103 => some A103
  | 105 => some A105
  | 106 => some A106
  | 107 => some A107
  | 108 => some A108
  | 109 => some A109
  | 110 => some A110
  | 111 => some A111
  | 112 => some A112
  | 113 => some A113
  | 114 => some A114
  | 115 => some A115
  | 116 => some A116
  | 117 => some A117
  | 118 => some A118
  | 119 => some A119
  | 120 => some A120
  | 121 => some A121
  | 122 => some A122
  | 123 => some A123
  | 124 => some A124
  | 125 => some A125
  | 126 => some A126
  | 127 => some A127
  | 128 => some A128
  | 129 => some A129
  | 130 => some A130
  | 137 => some A137
  | 138 => some A138
  | 139 => some A139
  | 140 => some A140
  | 141 => some A141
  | 142 => some A142
  | 143 => some A143
  | 144 => some A144
  | 145 => some A145
  | 146 => some A146
  | 147 => some A147
  | 148 => some A148
  | 153 => some A153
  | 154 => some A154
  | 155 => some A155
  | 156 => some A156
  | 157 => some A157
  | 158 => some A158
  | 159 => some A159
  | 160 => some A160
  | _ => none
theorem htab (f : Nat) (F : AFun) (h : tab f = some F) : ∃ fn x, Tryz.prog.funcs[f]? = some fn ∧ cFun Tryz.prog 183 [0, 1, 2, 3, 4, 5, 6, 7, 8, 9, 10, 11, 12, 13] x fn = some F := by
  unfold tab at h
  split at h
  · cases h; exact ⟨Tryz.f3, X3, Tryz.func3, ok3⟩
  · cases h; exact ⟨Tryz.f7, X7, Tryz.func7, ok7⟩
  · cases h; exact ⟨Tryz.f8, X8, Tryz.func8, ok8⟩
  · cases h; exact ⟨Tryz.f9, X9, Tryz.func9, ok9⟩
  · cases h; exact ⟨Tryz.f10, X10, Tryz.func10, ok10⟩
  · cases h; exact ⟨Tryz.f11, X11, Tryz.func11, ok11⟩
  · cases h; exact ⟨Tryz.f12, X12, Tryz.func12, ok12⟩
  · cases h; exact ⟨Tryz.f13, X13, Tryz.func13, ok13⟩
  · cases h; exact ⟨Tryz.f14, X14, Tryz.func14, ok14⟩
  · cases h; exact ⟨Tryz.f15, X15, Tryz.func15, ok15⟩
  · cases h; exact ⟨Tryz.f26, X26, Tryz.func26, ok26⟩
  · cases h; exact ⟨Tryz.f28, X28, Tryz.func28, ok28⟩
  · cases h; exact ⟨Tryz.f29, X29, Tryz.func29, ok29⟩
  · cases h; exact ⟨Tryz.f30, X30, Tryz.func30, ok30⟩
  · cases h; exact ⟨Tryz.f31, X31, Tryz.func31, ok31⟩
  · cases h; exact ⟨Tryz.f32, X32, Tryz.func32, ok32⟩
  · cases h; exact ⟨Tryz.f33, X33, Tryz.func33, ok33⟩
  · cases h; exact ⟨Tryz.f34, X34, Tryz.func34, ok34⟩
  · cases h; exact ⟨Tryz.f35, X35, Tryz.func35, ok35⟩
  · cases h; exact ⟨Tryz.f36, X36, Tryz.func36, ok36⟩
  · cases h; exact ⟨Tryz.f37, X37, Tryz.func37, ok37⟩
  · cases h; exact ⟨Tryz.f38, X38, Tryz.func38, ok38⟩
  · cases h; exact ⟨Tryz.f39, X39, Tryz.func39, ok39⟩
  · cases h; exact ⟨Tryz.f40, X40, Tryz.func40, ok40⟩
  · cases h; exact ⟨Tryz.f41, X41, Tryz.func41, ok41⟩
  · cases h; exact ⟨Tryz.f42, X42, Tryz.func42, ok42⟩
  · cases h; exact ⟨Tryz.f43, X43, Tryz.func43, ok43⟩
  · cases h; exact ⟨Tryz.f44, X44, Tryz.func44, ok44⟩
  · cases h; exact ⟨Tryz.f45, X45, Tryz.func45, ok45⟩
  · cases h; exact ⟨Tryz.f46, X46, Tryz.func46, ok46⟩
  · cases h; exact ⟨Tryz.f47, X47, Tryz.func47, ok47⟩
  · cases h; exact ⟨Tryz.f48, X48, Tryz.func48, ok48⟩
  · cases h; exact ⟨Tryz.f49, X49, Tryz.func49, ok49⟩
  · cases h; exact ⟨Tryz.f50, X50, Tryz.func50, ok50⟩
  · cases h; exact ⟨Tryz.f51, X51, Tryz.func51, ok51⟩
  · cases h; exact ⟨Tryz.f52, X52, Tryz.func52, ok52⟩
  · cases h; exact ⟨Tryz.f69, X69, Tryz.func69, ok69⟩
  · cases h; exact ⟨Tryz.f70, X70, Tryz.func70, ok70⟩
  · cases h; exact ⟨Tryz.f71, X71, Tryz.func71, ok71⟩
  · cases h; exact ⟨Tryz.f72, X72, Tryz.func72, ok72⟩
  · cases h; exact ⟨Tryz.f73, X73, Tryz.func73, ok73⟩
  · cases h; exact ⟨Tryz.f74, X74, Tryz.func74, ok74⟩
  · cases h; exact ⟨Tryz.f75, X75, Tryz.func75, ok75⟩
  · cases h; exact ⟨Tryz.f76, X76, Tryz.func76, ok76⟩
  · cases h; exact ⟨Tryz.f77, X77, Tryz.func77, ok77⟩
  · cases h; exact ⟨Tryz.f78, X78, Tryz.func78, ok78⟩
  · cases h; exact ⟨Tryz.f79, X79, Tryz.func79, ok79⟩
  · cases h; exact ⟨Tryz.f80, X80, Tryz.func80, ok80⟩
  · cases h; exact ⟨Tryz.f81, X81, Tryz.func81, ok81⟩
  · cases h; exact ⟨Tryz.f82, X82, Tryz.func82, ok82⟩
  · cases h; exact ⟨Tryz.f83, X83, Tryz.func83, ok83⟩
  · cases h; exact ⟨Tryz.f84, X84, Tryz.func84, ok84⟩
  · cases h; exact ⟨Tryz.f85, X85, Tryz.func85, ok85⟩
  · cases h; exact ⟨Tryz.f86, X86, Tryz.func86, ok86⟩
  · cases h; exact ⟨Tryz.f87, X87, Tryz.func87, ok87⟩
  · cases h; exact ⟨Tryz.f88, X88, Tryz.func88, ok88⟩
  · cases h; exact ⟨Tryz.f89, X89, Tryz.func89, ok89⟩
  · cases h; exact ⟨Tryz.f95, X95, Tryz.func95, ok95⟩
  · cases h; exact ⟨Tryz.f96, X96, Tryz.func96, ok96⟩
  · cases h; exact ⟨Tryz.f98, X98, Tryz.func98, ok98⟩
  · cases h; exact ⟨Tryz.f99, X99, Tryz.func99, ok99⟩
  · cases h; exact ⟨Tryz.f100, X100, Tryz.func100, ok100⟩
  · cases h; exact ⟨Tryz.f103, X103, Tryz.func103, ok103⟩
  · cases h; exact ⟨Tryz.f105, X105, Tryz.func105, ok105⟩
  · cases h; exact ⟨Tryz.f106, X106, Tryz.func106, ok106⟩
  · cases h; exact ⟨Tryz.f107, X107, Tryz.func107, ok107⟩
  · cases h; exact ⟨Tryz.f108, X108, Tryz.func108, ok108⟩
  · cases h; exact ⟨Tryz.f109, X109, Tryz.func109, ok109⟩
  · cases h; exact ⟨Tryz.f110, X110, Tryz.func110, ok110⟩
  · cases h; exact ⟨Tryz.f111, X111, Tryz.func111, ok111⟩
  · cases h; exact ⟨Tryz.f112, X112, Tryz.func112, ok112⟩
  · cases h; exact ⟨Tryz.f113, X113, Tryz.func113, ok113⟩
  · cases h; exact ⟨Tryz.f114, X114, Tryz.func114, ok114⟩
  · cases h; exact ⟨Tryz.f115, X115, Tryz.func115, ok115⟩
  · cases h; exact ⟨Tryz.f116, X116, Tryz.func116, ok116⟩
  · cases h; exact ⟨Tryz.f117, X117, Tryz.func117, ok117⟩
  · cases h; exact ⟨Tryz.f118, X118, Tryz.func118, ok118⟩
  · cases h; exact ⟨Tryz.f119, X119, Tryz.func119, ok119⟩
  · cases h; exact ⟨Tryz.f120, X120, Tryz.func120, ok120⟩
  · cases h; exact ⟨Tryz.f121, X121, Tryz.func121, ok121⟩
  · cases h; exact ⟨Tryz.f122, X122, Tryz.func122, ok122⟩
  · cases h; exact ⟨Tryz.f123, X123, Tryz.func123, ok123⟩
  · cases h; exact ⟨Tryz.f124, X124, Tryz.func124, ok124⟩
  · cases h; exact ⟨Tryz.f125, X125, Tryz.func125, ok125⟩
  · cases h; exact ⟨Tryz.f126, X126, Tryz.func126, ok126⟩
  · cases h; exact ⟨Tryz.f127, X127, Tryz.func127, ok127⟩
  · cases h; exact ⟨Tryz.f128, X128, Tryz.func128, ok128⟩
  · cases h; exact ⟨Tryz.f129, X129, Tryz.func129, ok129⟩
  · cases h; exact ⟨Tryz.f130, X130, Tryz.func130, ok130⟩
  · cases h; exact ⟨Tryz.f137, X137, Tryz.func137, ok137⟩
  · cases h; exact ⟨Tryz.f138, X138, Tryz.func138, ok138⟩
  · cases h; exact ⟨Tryz.f139, X139, Tryz.func139, ok139⟩
  · cases h; exact ⟨Tryz.f140, X140, Tryz.func140, ok140⟩
  · cases h; exact ⟨Tryz.f141, X141, Tryz.func141, ok141⟩
  · cases h; exact ⟨Tryz.f142, X142, Tryz.func142, ok142⟩
  · cases h; exact ⟨Tryz.f143, X143, Tryz.func143, ok143⟩
  · cases h; exact ⟨Tryz.f144, X144, Tryz.func144, ok144⟩
  · cases h; exact ⟨Tryz.f145, X145, Tryz.func145, ok145⟩
  · cases h; exact ⟨Tryz.f146, X146, Tryz.func146, ok146⟩
  · cases h; exact ⟨Tryz.f147, X147, Tryz.func147, ok147⟩
  · cases h; exact ⟨Tryz.f148, X148, Tryz.func148, ok148⟩
  · cases h; exact ⟨Tryz.f153, X153, Tryz.func153, ok153⟩
  · cases h; exact ⟨Tryz.f154, X154, Tryz.func154, ok154⟩
  · cases h; exact ⟨Tryz.f155, X155, Tryz.func155, ok155⟩
  · cases h; exact ⟨Tryz.f156, X156, Tryz.func156, ok156⟩
  · cases h; exact ⟨Tryz.f157, X157, Tryz.func157, ok157⟩
  · cases h; exact ⟨Tryz.f158, X158, Tryz.func158, ok158⟩
  · cases h; exact ⟨Tryz.f159, X159, Tryz.func159, ok159⟩
  · cases h; exact ⟨Tryz.f160, X160, Tryz.func160, ok160⟩
  · cases h
end Zab.YtjnomoefbffpoaaGreatDoorB
namespace Zab.YtjnomoefbffpoaaGreatDoorB
open Go
open Go.IntWalk (i64_in)
set_option maxRecDepth 100000
set_option linter.unusedSimpArgs false
set_option linter.unusedVariables false
attribute [-simp] getElem?_pos
theorem RotL (x : Ln) {n : Nat} (h : n < 64) : FF tab 155 [.i .u64 (iv x), .i .i64 (n : Int)] = some ⟨.i .u64 (iv (rot x n)), []⟩ := by
  refine call_by (A := A155) rfl rfl ?_
  have e1 : IntKind.u64.wrap (n : Int) = (n : Int) := by
    unfold IntKind.wrap
    simp only [IntKind.signed, IntKind.bits]
    simp
    omega
  have e2 : bitV .and .u64 (n : Int) 63 = some (.i .u64 (n : Int)) := by
    have e : (n : Int) = iv (BitVec.ofNat 64 n) := by unfold iv; simp; omega
    rw [show (63 : Int) = iv 63#64 from rfl]
    conv => lhs; rw [e]
    rw [bitV_and]
    congr 2
    have : ((BitVec.ofNat 64 n) &&& 63#64).toNat = n := by
      rw [BitVec.toNat_and]
      simp only [BitVec.toNat_ofNat]
      rw [Nat.mod_eq_of_lt (by omega), show (63 % 2 ^ 64) = 2 ^ 6 - 1 from rfl, Nat.and_two_pow_sub_one_eq_mod]
      omega
    exact congrArg _ this
  have e3 : IntKind.u64.wrap (64 - (n : Int)) = ((64 - n : Nat) : Int) := by
    unfold IntKind.wrap
    simp only [IntKind.signed, IntKind.bits]
    simp
    omega
  simp (disch := omega) [A155, e1, e2, e3, shl_u64 x (show n ≤ 64 by omega), shr_u64 x (show 64 - n ≤ 64 by omega), bitV_or]
  rfl
theorem ab_bound : ∀ t, 0 ≤ (ab t).1 ∧ (ab t).1 < 5 ∧ 0 ≤ (ab t).2 ∧ (ab t).2 < 5
  | 0 => by simp [ab]
  | t + 1 => by
    obtain ⟨h1, h2, h3, h4⟩ := ab_bound t
    simp only [ab]
    omega
theorem Turn (x y : Int) : FF tab 156 [.i .i64 x, .i .i64 y] = some ⟨.i .i64 (turn x y), []⟩ := by
  refine call_by (A := A156) rfl rfl ?_
  simp (disch := omega) [A156]
  refine w_headsP 24 (fun i => ⟨[(8, .i .i64 i), (6, .i .i64 (ab i).2), (5, .i .i64 (ab i).1), (1, .i .i64 y), (0, .i .i64 x)], []⟩) (fun i => turn x y = turnF x y i (24 - i)) (by simp [ab]) rfl ?_ ?_
  · intro i hi hp
    obtain ⟨h1, h2, h3, h4⟩ := ab_bound i
    have e : 24 - i = (24 - (i + 1)) + 1 := by omega
    rw [e, turnF] at hp
    have hlt : (i : Int) < 24 := by omega
    have w1 : IntKind.i64.wrap ((i : Int) + 1) = (i : Int) + 1 := i64_in _ (by omega)
    have w2 : IntKind.i64.wrap ((i : Int) + 2) = (i : Int) + 2 := i64_in _ (by omega)
    have w3 : IntKind.i64.wrap (2 * (ab i).1) = 2 * (ab i).1 := i64_in _ (by omega)
    have w4 : IntKind.i64.wrap (3 * (ab i).2) = 3 * (ab i).2 := i64_in _ (by omega)
    have w5 : IntKind.i64.wrap (2 * (ab i).1 + 3 * (ab i).2) = 2 * (ab i).1 + 3 * (ab i).2 := i64_in _ (by omega)
    have w6 : (2 * (ab i).1 + 3 * (ab i).2).tmod 5 = (2 * (ab i).1 + 3 * (ab i).2) % 5 := Int.tmod_eq_emod_of_nonneg (by omega)
    by_cases ha : (ab i).1 = x
    · by_cases hb : (ab i).2 = y
      · rw [if_pos ⟨ha, hb⟩] at hp
        have k1 : ((i : Int) + 1) * ((i : Int) + 2) ≤ 24 * 25 := Int.mul_le_mul (by omega) (by omega) (by omega) (by omega)
        have k0 : 0 ≤ ((i : Int) + 1) * ((i : Int) + 2) := Int.mul_nonneg (by omega) (by omega)
        have w7 : IntKind.i64.wrap (((i : Int) + 1) * ((i : Int) + 2)) = ((i : Int) + 1) * ((i : Int) + 2) := i64_in _ (by omega)
        have w8 : (((i : Int) + 1) * ((i : Int) + 2)).tdiv 2 = ((i : Int) + 1) * ((i : Int) + 2) / 2 := Int.tdiv_eq_ediv_of_nonneg k0
        have w9 : IntKind.i64.wrap (((i : Int) + 1) * ((i : Int) + 2) / 2) = ((i : Int) + 1) * ((i : Int) + 2) / 2 := i64_in _ (by omega)
        have w10 : (((i : Int) + 1) * ((i : Int) + 2) / 2).tmod 64 = ((i : Int) + 1) * ((i : Int) + 2) / 2 % 64 := Int.tmod_eq_emod_of_nonneg (by omega)
        simp [hlt, ha, hb, w1, w2, w7, w8, w9, w10]
        rw [hp]; rfl
      · rw [if_neg (fun h => hb h.2)] at hp
        simp [hlt, ha, hb]
        rw [ha] at w3 w5 w6
        simp [w1, w3, w4, w5, w6]
        exact ⟨by simp [ab, ha], by rw [hp]; congr 1; omega⟩
    · rw [if_neg (fun h => ha h.1)] at hp
      simp [hlt, ha, w1, w3, w4, w5, w6]
      exact ⟨⟨rfl, rfl⟩, by rw [hp]; congr 1; omega⟩
  · intro hp
    simp []
    rw [hp]; rfl
theorem turn_ok : ∀ x y : Nat, x < 5 → y < 5 → turn x y = (tn x y : Int) ∧ tn x y < 64 := by
  intro x y hx hy
  have h : ∀ a : Fin 5, ∀ b : Fin 5, turn (a.val : Int) (b.val : Int) = (tn a.val b.val : Int) ∧ tn a.val b.val < 64 := by decide +kernel
  exact h ⟨x, hx⟩ ⟨y, hy⟩
set_option maxHeartbeats 4000000 in
theorem Constant (i : Int) : FF tab 157 [.i .i64 i] = some ⟨.i .u64 (iv (con i)), []⟩ := by
  refine call_by (A := A157) rfl rfl ?_
  by_cases h : i < 0 ∨ 24 ≤ i
  · rw [show con i = 0 from if_pos h]
    by_cases h1 : i < 0
    · simp (disch := omega) [A157, h1]; rfl
    · have h2 : 24 ≤ i := by omega
      simp (disch := omega) [A157, h1, h2]; rfl
  · obtain ⟨n, rfl⟩ : ∃ n : Nat, i = n := ⟨i.toNat, by omega⟩
    have hn : n < 24 := by omega
    have h1 : ¬ (n : Int) < 0 := by omega
    have h2 : ¬ 24 ≤ (n : Int) := by omega
    have w1 : IntKind.i64.wrap ((n : Int) + 1) = (n : Int) + 1 := i64_in _ (by omega)
    have w2 : IntKind.i64.wrap (7 * ((n : Int) + 1)) = 7 * ((n : Int) + 1) := i64_in _ (by omega)
    have w3 : IntKind.i64.wrap (7 * (n : Int)) = 7 * (n : Int) := i64_in _ (by omega)
    have hc : con (n : Int) = outC n (7 * (n + 1)) := by unfold con; rw [if_neg h, Int.toNat_natCast]
    rw [hc]
    have hN : 0 ≤ (n : Int) ∧ (n : Int) < 24 := by omega
    generalize hT0 : (n : Int) = N at *
    simp (disch := omega) [A157, h1, h2, w1, w2]
    refine w_heads (7 * (n + 1)) (fun t => ⟨[(17, .i .i64 t), (16, .i .i64 (7 * (N + 1))), (4, .i .u8 (ib (row t))), (3, .i .u64 (iv (outC n t))), (0, .i .i64 N)], []⟩) (by simp [row, outC, iv, ib]) ?_ ?_
    · intro t ht
      have er : row (t + 1) = nextB (row t) := rfl
      have e1 := u8_and1 (row t)
      have e2 := u8_shl (row t)
      have e3 := u8_xor (row t <<< 1)
      have e4 := u8_top (row t)
      have hlt : (t : Int) < 7 * (N + 1) := by omega
      by_cases ha : 7 * n ≤ t
      · have hj : t - 7 * n ≤ 6 := by omega
        have hJ : (t : Int) - 7 * N = ((t - 7 * n : Nat) : Int) := by omega
        have eo : outC n (t + 1) = if low (row t) = true then outC n t ||| ((1#64) <<< (2 ^ (t - 7 * n) - 1)) else outC n t := by
          simp only [outC, ha, true_and]
        obtain ⟨s1, s2, s3⟩ := shl1 hj
        have s4 := shl1' s3
        rw [← hJ] at s1
        generalize ((2 ^ (t - 7 * n) : Nat) : Int) = P at *
        generalize ((2 ^ (t - 7 * n) - 1 : Nat) : Int) = P' at *
        generalize hT : (t : Int) = T at *
        have a1 : (0 : Int) ≤ T - 7 * N := by omega
        have w4 : IntKind.i64.wrap (T + 1) = T + 1 := i64_in _ (by omega)
        have w5 : IntKind.i64.wrap (T - 7 * N) = T - 7 * N := i64_in _ (by omega)
        generalize row t = r at *
        generalize outC n t = o at *
        cases hb : low r <;> cases hh : top r <;> simp [hb, hh, bI, nextB] at e1 e4 eo er <;>
          simp (disch := omega) [hlt, a1, w3, w4, w5, e1, e2, e3, e4, s1, s2, s4, bitV_or, eo, er, hT]
      · have eo : outC n (t + 1) = outC n t := by simp only [outC]; rw [if_neg (fun h => ha h.1)]
        generalize hT : (t : Int) = T at *
        have a1 : ¬ (0 : Int) ≤ T - 7 * N := by omega
        have a2 : T - 7 * N < 0 := by omega
        have w4 : IntKind.i64.wrap (T + 1) = T + 1 := i64_in _ (by omega)
        have w5 : IntKind.i64.wrap (T - 7 * N) = T - 7 * N := i64_in _ (by omega)
        generalize row t = r at *
        cases hh : top r <;> simp [hh, nextB] at e4 er <;>
          simp (disch := omega) [hlt, a1, a2, w3, w4, w5, e1, e2, e3, e4, eo, er, hT]
    · have e : ((7 * (n + 1) : Nat) : Int) = 7 * (N + 1) := by omega
      simp only [e]
      simp []
end Zab.YtjnomoefbffpoaaGreatDoorB
namespace Zab.YtjnomoefbffpoaaGreatDoorB
open Go
open Go.IntWalk (i64_in)
set_option maxRecDepth 100000
set_option linter.unusedSimpArgs false
set_option linter.unusedVariables false
attribute [-simp] getElem?_pos
theorem place_lt (x y : Nat) (hx : x < 5) (hy : y < 5) : place x y < 25 := by unfold place; omega
set_option maxHeartbeats 8000000 in
theorem Round (L : List Ln) (hL : L.length = 25) (i : Int) : FF tab 153 [.ag (lanes L), .i .i64 i] = some ⟨.ag (lanes (rnd L (con i))), []⟩ := by
  refine call_by (A := A153) rfl rfl ?_
  have hLL : (lanes L).length = 25 := by rw [lanes_length, hL]
  have hZ : (lanes (zL 25)).length = 25 := by rw [lanes_length, zL_len]
  simp (disch := omega) [A153, ↓z25, ↓z5]
  refine w_heads 25 (fun k => ⟨[(18, .i .i64 k), (17, .ag (lanes L)), (5, .rf 5 0), (4, .rf 4 0), (2, .rf 2 0), (1, .i .i64 i)], [(5, lanes (theC L k)), (4, lanes (zL 25)), (2, lanes L)]⟩) (by simp [theC]) ?_ ?_
  · intro k hk
    have hl := theC_len L k
    have hl2 : (lanes (theC L k)).length = 5 := by rw [lanes_length, hl]
    have er : theC L (k + 1) = (theC L k).set (k % 5) (nl (theC L k) (k % 5) ^^^ nl L k) := rfl
    have hX : (k : Int).tmod 5 = ((k % 5 : Nat) : Int) := rfl
    have hX2 : ((k % 5 : Nat) : Int).toNat = k % 5 := Int.toNat_natCast _
    have hT2 : (k : Int).toNat = k := Int.toNat_natCast _
    have h5 : k % 5 < 5 := by omega
    generalize hXX : ((k % 5 : Nat) : Int) = X at *
    generalize hT : (k : Int) = T at *
    have w1 : IntKind.i64.wrap (T + 1) = T + 1 := i64_in _ (by omega)
    generalize theC L k = C at *
    simp (disch := omega) [hX, hX2, hT, hT2, w1, lanes_get, lanes_set, bitV_xor, er]
  · simp (disch := omega) [↓z25]
    have hC5 := theC_len L 25
    unfold rnd base
    generalize theC L 25 = C at *
    have hC5' : (lanes C).length = 5 := by rw [lanes_length, hC5]
    refine w_heads 25 (fun k => ⟨[(31, .i .i64 k), (30, .ag (lanes L)), (8, .rf 8 0), (5, .rf 5 0), (4, .rf 4 0), (1, .i .i64 i)], [(8, lanes (theB L C k)), (5, lanes C), (4, lanes (zL 25))]⟩) (by simp [theB]) ?_ ?_
    · intro k hk
      have hl := theB_len L C k
      have hl2 : (lanes (theB L C k)).length = 25 := by rw [lanes_length, hl]
      have er : theB L C (k + 1) = (theB L C k).set (place (k % 5) (k / 5)) (rot (nl L k ^^^ theD C (k % 5)) (tn (k % 5) (k / 5))) := rfl
      have hx5 : k % 5 < 5 := by omega
      have hy5 : k / 5 < 5 := by omega
      have hX : (k : Int).tmod 5 = ((k % 5 : Nat) : Int) := rfl
      have hY : (k : Int).tdiv 5 = ((k / 5 : Nat) : Int) := rfl
      have hX2 : ((k % 5 : Nat) : Int).toNat = k % 5 := Int.toNat_natCast _
      have hT2 : (k : Int).toNat = k := Int.toNat_natCast _
      obtain ⟨t1, t2⟩ := turn_ok (k % 5) (k / 5) hx5 hy5
      have t3 := Turn ((k % 5 : Nat) : Int) ((k / 5 : Nat) : Int)
      rw [t1] at t3
      have r1 := RotL (nl L k ^^^ theD C (k % 5)) t2
      have r2 := RotL (nl C ((k % 5 + 1) % 5)) (n := 1) (by omega)
      have r2' : FF tab 155 [.i .u64 (iv (nl C ((k % 5 + 1) % 5))), .i .i64 1] = some ⟨.i .u64 (iv (rot (nl C ((k % 5 + 1) % 5)) 1)), []⟩ := r2
      have hp := place_lt (k % 5) (k / 5) hx5 hy5
      have hT1 : (k : Int) < 25 := by omega
      have d0 : theD C (k % 5) = nl C ((k % 5 + 4) % 5) ^^^ rot (nl C ((k % 5 + 1) % 5)) 1 := rfl
      have pl : place (k % 5) (k / 5) = k / 5 + 5 * ((2 * (k % 5) + 3 * (k / 5)) % 5) := rfl
      generalize rot (nl L k ^^^ theD C (k % 5)) (tn (k % 5) (k / 5)) = V at *
      generalize ((tn (k % 5) (k / 5) : Nat) : Int) = TN at *
      generalize k % 5 = x at *
      generalize k / 5 = y at *
      have m1 : ((x : Int) + 4).tmod 5 = (((x + 4) % 5 : Nat) : Int) := rfl
      have m2 : ((x : Int) + 1).tmod 5 = (((x + 1) % 5 : Nat) : Int) := rfl
      have m3 : (2 * (x : Int) + 3 * (y : Int)).tmod 5 = (((2 * x + 3 * y) % 5 : Nat) : Int) := rfl
      have w1 : IntKind.i64.wrap ((k : Int) + 1) = (k : Int) + 1 := i64_in _ (by omega)
      have wY : IntKind.i64.wrap (y : Int) = (y : Int) := i64_in _ (by omega)
      have w2 : IntKind.i64.wrap ((x : Int) + 4) = (x : Int) + 4 := i64_in _ (by omega)
      have w3 : IntKind.i64.wrap ((x : Int) + 1) = (x : Int) + 1 := i64_in _ (by omega)
      have w4 : IntKind.i64.wrap (2 * (x : Int)) = 2 * (x : Int) := i64_in _ (by omega)
      have w5 : IntKind.i64.wrap (3 * (y : Int)) = 3 * (y : Int) := i64_in _ (by omega)
      have w6 : IntKind.i64.wrap (2 * (x : Int) + 3 * (y : Int)) = 2 * (x : Int) + 3 * (y : Int) := i64_in _ (by omega)
      have i1 : ((((x + 4) % 5 : Nat) : Int)).toNat = (x + 4) % 5 := Int.toNat_natCast _
      have i2 : ((((x + 1) % 5 : Nat) : Int)).toNat = (x + 1) % 5 := Int.toNat_natCast _
      have w7 : IntKind.i64.wrap (5 * (((2 * x + 3 * y) % 5 : Nat) : Int)) = 5 * (((2 * x + 3 * y) % 5 : Nat) : Int) := i64_in _ (by omega)
      have w8 : IntKind.i64.wrap ((y : Int) + 5 * (((2 * x + 3 * y) % 5 : Nat) : Int)) = (place x y : Int) := by rw [i64_in _ (by omega)]; omega
      have i3 : ((place x y : Nat) : Int).toNat = place x y := Int.toNat_natCast _
      have h4 : (x + 4) % 5 < 5 := by omega
      have h1 : (x + 1) % 5 < 5 := by omega
      have q1 : (((x + 4) % 5 : Nat) : Int) < 5 ∧ (0 : Int) ≤ (((x + 4) % 5 : Nat) : Int) := by omega
      have q2 : (((x + 1) % 5 : Nat) : Int) < 5 ∧ (0 : Int) ≤ (((x + 1) % 5 : Nat) : Int) := by omega
      have q3 : ((place x y : Nat) : Int) < 25 ∧ (0 : Int) ≤ ((place x y : Nat) : Int) := by omega
      have e0 : (0 : Int) ≤ (k : Int) := by omega
      generalize (((x + 4) % 5 : Nat) : Int) = X4 at *
      generalize (((x + 1) % 5 : Nat) : Int) = X1 at *
      generalize (((2 * x + 3 * y) % 5 : Nat) : Int) = P5 at *
      generalize ((place x y : Nat) : Int) = PL at *
      generalize (x : Int) = X at *
      generalize (y : Int) = Y at *
      generalize hT : (k : Int) = T at *
      generalize theB L C k = B at *
      rw [d0] at r1
      clear t1 t2 r2 d0 pl hx5 hy5
      simp (disch := omega) [hX, hY, hX2, hT, hT2, m1, m2, m3, wY, w1, w2, w3, w4, w5, w6, w7, w8, i1, i2, i3, r1, r2', t3, lanes_get, lanes_set, bitV_xor, er]
    · have hB := theB_len L C 25
      generalize theB L C 25 = B at *
      have hB' : (lanes B).length = 25 := by rw [lanes_length, hB]
      simp (disch := omega) [↓z25]
      refine w_heads 25 (fun k => ⟨[(69, .i .i64 k), (13, .rf 13 0), (8, .rf 8 0), (4, .rf 4 0), (1, .i .i64 i)], [(13, lanes (theO B k)), (8, lanes B), (4, lanes (zL 25))]⟩) (by simp [theO]) ?_ ?_
      · intro k hk
        have hl := theO_len B k
        have hl2 : (lanes (theO B k)).length = 25 := by rw [lanes_length, hl]
        have er : theO B (k + 1) = (theO B k).set k (chi B (k % 5) (k / 5)) := rfl
        have ec : chi B (k % 5) (k / 5) = nl B k ^^^ (~~~ nl B ((k % 5 + 1) % 5 + 5 * (k / 5)) &&& nl B ((k % 5 + 2) % 5 + 5 * (k / 5))) := by
          unfold chi
          rw [show k % 5 + 5 * (k / 5) = k by omega]
        have hX : (k : Int).tmod 5 = ((k % 5 : Nat) : Int) := rfl
        have hY : (k : Int).tdiv 5 = ((k / 5 : Nat) : Int) := rfl
        have hT2 : (k : Int).toNat = k := Int.toNat_natCast _
        have hx5 : k % 5 < 5 := by omega
        have hy5 : k / 5 < 5 := by omega
        generalize chi B (k % 5) (k / 5) = V at *
        generalize k % 5 = x at *
        generalize k / 5 = y at *
        have m1 : ((x : Int) + 1).tmod 5 = (((x + 1) % 5 : Nat) : Int) := rfl
        have m2 : ((x : Int) + 2).tmod 5 = (((x + 2) % 5 : Nat) : Int) := rfl
        have w1 : IntKind.i64.wrap ((k : Int) + 1) = (k : Int) + 1 := i64_in _ (by omega)
        have wY : IntKind.i64.wrap (y : Int) = (y : Int) := i64_in _ (by omega)
        have w2 : IntKind.i64.wrap ((x : Int) + 1) = (x : Int) + 1 := i64_in _ (by omega)
        have w3 : IntKind.i64.wrap ((x : Int) + 2) = (x : Int) + 2 := i64_in _ (by omega)
        have w4 : IntKind.i64.wrap (5 * (y : Int)) = 5 * (y : Int) := i64_in _ (by omega)
        have p1 : (x + 1) % 5 + 5 * y < 25 := by omega
        have p2 : (x + 2) % 5 + 5 * y < 25 := by omega
        have w5 : IntKind.i64.wrap ((((x + 1) % 5 : Nat) : Int) + 5 * (y : Int)) = (((x + 1) % 5 + 5 * y : Nat) : Int) := by rw [i64_in _ (by omega)]; omega
        have w6 : IntKind.i64.wrap ((((x + 2) % 5 : Nat) : Int) + 5 * (y : Int)) = (((x + 2) % 5 + 5 * y : Nat) : Int) := by rw [i64_in _ (by omega)]; omega
        generalize hp1 : (x + 1) % 5 + 5 * y = P1 at *
        generalize hp2 : (x + 2) % 5 + 5 * y = P2 at *
        have i1 : ((P1 : Nat) : Int).toNat = P1 := Int.toNat_natCast _
        have i2 : ((P2 : Nat) : Int).toNat = P2 := Int.toNat_natCast _
        have q1 : (P1 : Int) < 25 ∧ (0 : Int) ≤ (P1 : Int) := by omega
        have q2 : (P2 : Int) < 25 ∧ (0 : Int) ≤ (P2 : Int) := by omega
        have q3 : (k : Int) < 25 ∧ (0 : Int) ≤ (k : Int) := by omega
        generalize (((x + 1) % 5 : Nat) : Int) = X1 at *
        generalize (((x + 2) % 5 : Nat) : Int) = X2 at *
        generalize (P1 : Int) = Q1 at *
        generalize (P2 : Int) = Q2 at *
        generalize (x : Int) = X at *
        generalize (y : Int) = Y at *
        generalize hT : (k : Int) = T at *
        generalize theO B k = O at *
        clear hp1 hp2 hx5 hy5
        simp (disch := omega) [hX, hY, hT, hT2, m1, m2, wY, w1, w2, w3, w4, w5, w6, i1, i2, lanes_get, lanes_set, bitV_xor, bitV_and, bitV_not, er, ec]
      · have hO := theO_len B 25
        generalize theO B 25 = O at *
        have hO' : (lanes O).length = 25 := by rw [lanes_length, hO]
        have hO2 : (lanes (O.set 0 (nl O 0 ^^^ con i))).length = 25 := by simp [lanes_length, hO]
        have hk := Constant i
        have e0 : (O.set 0 (nl O 0 ^^^ con i)).length = 25 := by simp [hO]
        simp (disch := omega) [hk, lanes_get, lanes_set, bitV_xor, hO', hO2]
set_option maxHeartbeats 8000000 in
theorem Permute (L : List Ln) (hL : L.length = 25) : FF tab 144 [.ag (lanes L)] = some ⟨.ag (lanes (rnds L 24)), []⟩ := by
  refine call_by (A := A144) rfl rfl ?_
  have hLL : (lanes L).length = 25 := by rw [lanes_length, hL]
  have hZ : (lanes (zL 25)).length = 25 := by rw [lanes_length, zL_len]
  simp (disch := omega) [A144, ↓z25]
  refine w_heads 24 (fun k => ⟨[(4, .i .i64 k), (2, .rf 2 0), (1, .rf 1 0)], [(2, lanes (zL 25)), (1, lanes (rnds L k))]⟩) (by simp [rnds]) ?_ ?_
  · intro k hk
    have hr := Round (rnds L k) (rnds_len hL k) k
    have hl : (lanes (rnds L k)).length = 25 := by rw [lanes_length, rnds_len hL]
    have hl' : (lanes (rnd (rnds L k) (con k))).length = 25 := by rw [lanes_length, rnd_len]
    have er : rnds L (k + 1) = rnd (rnds L k) (con k) := rfl
    have w1 : IntKind.i64.wrap ((k : Int) + 1) = (k : Int) + 1 := i64_in _ (by omega)
    generalize hT : (k : Int) = T at *
    generalize rnds L k = M at *
    simp (disch := omega) [hr, hT, w1, er, hl, hl']
  · have hl : (lanes (rnds L 24)).length = 25 := by rw [lanes_length, rnds_len hL]
    generalize rnds L 24 = M at *
    simp (disch := omega) [hl]
end Zab.YtjnomoefbffpoaaGreatDoorB
namespace Zab.YtjnomoefbffpoaaGreatDoorB
open Go
open Go.IntWalk (i64_in)
set_option maxRecDepth 100000
set_option linter.unusedSimpArgs false
set_option linter.unusedVariables false
attribute [-simp] getElem?_pos
attribute [local simp] sees_nil sees_rf sees_i sees_sl sees_z sees_rs sees_fl
theorem pPermute (L : List Ln) (hL : L.length = 25) : FF tab 144 [.ag (lanes L)] = some ⟨.ag (lanes (perm L)), []⟩ := by
  rw [← perm_def]; exact Permute L hL
set_option maxHeartbeats 4000000 in
theorem sMix {A : List Ln} (hA : A.length = 25) (r x p : Int) (s : Bool) {j : Nat} (hj : j < 192) {y : Int} (y0 : 0 ≤ y) (y1 : y < 256) :
    FF tab 143 [.op (spC A r x p s), .i .i64 j, .i .u8 y] = some ⟨.tp [], [spC (mixA A j y) r x p s]⟩ := by
  refine call_by (A := A143) rfl rfl ?_
  have h1 : (j : Int).tdiv 8 = ((j / 8 : Nat) : Int) := rfl
  have h2 : (j : Int).tmod 8 = ((j % 8 : Nat) : Int) := rfl
  have w1 : IntKind.i64.wrap ((j / 8 : Nat) : Int) = ((j / 8 : Nat) : Int) := i64_in _ (by omega)
  have w2 : IntKind.i64.wrap (8 * ((j % 8 : Nat) : Int)) = ((8 * (j % 8) : Nat) : Int) := by rw [i64_in _ (by omega)]; omega
  have t1 : ((j / 8 : Nat) : Int).toNat = j / 8 := Int.toNat_natCast _
  have b1 : 0 ≤ ((j / 8 : Nat) : Int) ∧ ((j / 8 : Nat) : Int) < 25 := by omega
  have b2 : j / 8 < 25 := by omega
  obtain ⟨y2, y3⟩ := shl_byte y y0 y1 (n := 8 * (j % 8)) (by omega)
  have g := spC_lane (r := r) (x := x) (p := p) (s := s) hA b2
  have hx := bitV_xor (nl A (j / 8)) (BitVec.ofInt 64 y <<< (8 * (j % 8)))
  have hs := spC_setl (r := r) (x := x) (p := p) (s := s) hA b2 (nl A (j / 8) ^^^ (BitVec.ofInt 64 y <<< (8 * (j % 8))))
  have hl := spC_len (r := r) (x := x) (p := p) (s := s) hA
  have hm : mixA A j y = A.set (j / 8) (nl A (j / 8) ^^^ (BitVec.ofInt 64 y <<< (8 * (j % 8)))) := rfl
  rw [hm]
  generalize nl A (j / 8) ^^^ (BitVec.ofInt 64 y <<< (8 * (j % 8))) = V at *
  generalize BitVec.ofInt 64 y <<< (8 * (j % 8)) = U at *
  generalize ((8 * (j % 8) : Nat) : Int) = E at *
  generalize ((j % 8 : Nat) : Int) = M at *
  generalize ((j / 8 : Nat) : Int) = D at *
  generalize j / 8 = J at *
  simp (disch := first | assumption | omega | (simp only [List.length_cons, List.length_nil, List.length_set, List.length_append, List.length_replicate, List.length_map, List.length_range, List.length_take, List.length_drop, nums_length, bools_length, vecs_length]; first | done | omega)) [A143, h1, h2, w1, w2, t1, y2, y3, g, hx, hs, -shiftV_shl, -shiftV_shr]
theorem lent_one (C D : List AV) {x : AV} (fx : x.flat = true) : lentOf [(0, C)] 0 [.op D, x] = some ([C], []) := by
  cases x <;> first | rfl | cases fx
theorem byte_at {L : List Int} (h : ∀ y ∈ L, inK .u8 y) {j : Nat} (hj : j < L.length) : 0 ≤ ni L j ∧ ni L j < 256 := by
  have := h (ni L j) (by rw [ni_get hj]; exact List.getElem_mem _)
  obtain ⟨p, q⟩ := this
  have p' : 0 ≤ ni L j := p
  have q' : ni L j ≤ 255 := q
  omega
theorem take_step (R : Nat) (S : List Ln × Nat) (L : List Int) {j : Nat} (hj : j < L.length) : takeL R S (L.take (j + 1)) = tk1 R (takeL R S (L.take j)) (ni L j) := by
  rw [List.take_succ_eq_append_getElem hj, takeL_app, ni_get hj]; rfl
set_option maxHeartbeats 4000000 in
theorem sTake {A : List Ln} (hA : A.length = 25) {R p : Nat} (hR : R ≤ 192) (hp : p < R) (X : Int) (s : Bool) {x : AV} {L : List Int} (hx : IsL .u8 x L) (hB : ∀ y ∈ L, inK .u8 y) (hs : L.length < 9223372036854775807) :
    FF tab 118 [.op (spC A R X p s), x] = some ⟨.tp [], [spC (takeL R (A, p) L).1 R X (takeL R (A, p) L).2 s]⟩ := by
  refine call_by (A := A118) rfl rfl ?_
  have fx := hx.flat
  have lx := lenV_isL hx
  simp (disch := first | assumption | omega | (simp only [List.length_cons, List.length_nil, List.length_set, List.length_append, List.length_replicate, List.length_map, List.length_range, List.length_take, List.length_drop, nums_length, bools_length, vecs_length]; first | done | omega)) [A118, lx]
  refine w_heads L.length (fun k => ⟨[(8, .i .i64 k), (7, .i .i64 L.length), (6, x), (0, .rf 0 0)], [(0, spC (takeL R (A, p) (L.take k)).1 R X (takeL R (A, p) (L.take k)).2 s)]⟩) (by simp (disch := first | assumption | omega | (simp only [List.length_cons, List.length_nil, List.length_set, List.length_append, List.length_replicate, List.length_map, List.length_range, List.length_take, List.length_drop, nums_length, bools_length, vecs_length]; first | done | omega)) [takeL_nil]) ?_ ?_
  · intro k hk
    have wk : IntKind.i64.wrap ((k : Int) + 1) = (k : Int) + 1 := i64_in _ (by omega)
    have hkn : (k : Int).toNat = k := Int.toNat_natCast _
    have hkL : (k : Int) < (L.length : Int) := by omega
    have ix := ixSV_isL hx (k' := .i64) (j := (k : Int)) (by omega) (by omega)
    rw [hkn] at ix
    have gx := nums_get (k := .u8) (L := L) (j := k) (by omega)
    obtain ⟨y0, y1⟩ := byte_at hB hk
    obtain ⟨a1, a2⟩ := takeL_ok (R := R) (L.take k) (S := (A, p)) hA hp
    have hstep := take_step R (A, p) L hk
    rw [hstep]
    generalize takeL R (A, p) (L.take k) = S at *
    obtain ⟨B, q⟩ := S
    simp only at a1 a2 ⊢
    have hM := sMix a1 R X q s (j := q) (by omega) y0 y1
    have hm1 : (mixA B q (ni L k)).length = 25 := by rw [mixA_len]; exact a1
    have hP := pPermute (mixA B q (ni L k)) hm1
    have hpl := perm_len hm1
    have wq : IntKind.i64.wrap ((q : Int) + 1) = ((q + 1 : Nat) : Int) := i64_in _ (by omega)
    have g25 := spC_25 (r := R) (x := X) (p := ((q + 1 : Nat) : Int)) (s := s) hm1
    have g27 := spC_27 (r := R) (x := X) (p := (q : Int)) (s := s) hm1
    have g27' := spC_27 (r := R) (x := X) (p := ((q + 1 : Nat) : Int)) (s := s) hm1
    have s27 := spC_set27 (r := R) (x := X) (p := (q : Int)) (s := s) hm1 ((q + 1 : Nat) : Int)
    have s27' := spC_set27 (r := R) (x := X) (p := ((q + 1 : Nat) : Int)) (s := s) hpl 0
    have h27 := spC_27 (r := R) (x := X) (p := (q : Int)) (s := s) a1
    have pt := spC_part (r := R) (x := X) (p := ((q + 1 : Nat) : Int)) (s := s) hm1
    have ov := spC_over (r := R) (x := X) (p := ((q + 1 : Nat) : Int)) (s := s) hm1 hpl
    have l0 := spC_len (r := R) (x := X) (p := (q : Int)) (s := s) a1
    have l1 := spC_len (r := R) (x := X) (p := (q : Int)) (s := s) hm1
    have l2 := spC_len (r := R) (x := X) (p := ((q + 1 : Nat) : Int)) (s := s) hm1
    have l3 := spC_len (r := R) (x := X) (p := ((q + 1 : Nat) : Int)) (s := s) hpl
    have hl25 := lanes_25 hpl
    by_cases hq : q + 1 = R
    · have ht : tk1 R (B, q) (ni L k) = (perm (mixA B q (ni L k)), 0) := by unfold tk1; exact if_pos hq
      rw [ht]
      simp only
      have hqI : ((q + 1 : Nat) : Int) = (R : Int) := by omega
      have hqd : decide (((q + 1 : Nat) : Int) = (R : Int)) = true := decide_eq_true hqI
      clear hqI hq ht hstep hB
      generalize ((q + 1 : Nat) : Int) = Q1 at *
      generalize perm (mixA B q (ni L k)) = PB at *
      generalize mixA B q (ni L k) = MB at *
      generalize ni L k = Y at *
      generalize hT : (k : Int) = T at *
      simp (disch := first | assumption | omega | (simp only [List.length_cons, List.length_nil, List.length_set, List.length_append, List.length_replicate, List.length_map, List.length_range, List.length_take, List.length_drop, nums_length, bools_length, vecs_length]; first | done | omega)) [hkL, ix, gx, hkn, h27, hM, g27, wq, s27, g27', g25, hqd, pt, hP, ov, s27', wk, hT]
    · have ht : tk1 R (B, q) (ni L k) = (mixA B q (ni L k), q + 1) := by unfold tk1; exact if_neg hq
      rw [ht]
      simp only
      have hqI : ¬ ((q + 1 : Nat) : Int) = (R : Int) := by omega
      clear hq ht hstep hB
      generalize ((q + 1 : Nat) : Int) = Q1 at *
      generalize mixA B q (ni L k) = MB at *
      generalize ni L k = Y at *
      generalize hT : (k : Int) = T at *
      simp (disch := first | assumption | omega | (simp only [List.length_cons, List.length_nil, List.length_set, List.length_append, List.length_replicate, List.length_map, List.length_range, List.length_take, List.length_drop, nums_length, bools_length, vecs_length]; first | done | omega)) [hkL, ix, gx, hkn, h27, hM, g27, wq, s27, g27', g25, hqI, wk, hT]
  · rw [List.take_length]
    generalize takeL R (A, p) L = S at *
    have lo := lent_one (spC S.1 R X S.2 s) (spC A R X p s) fx
    simp (disch := first | assumption | omega | (simp only [List.length_cons, List.length_nil, List.length_set, List.length_append, List.length_replicate, List.length_map, List.length_range, List.length_take, List.length_drop, nums_length, bools_length, vecs_length]; first | done | omega)) [lo]
theorem lent_one2 (C D E : List AV) (n : Int) : lentOf [(52, E), (0, C)] 0 [.op D, .i .i64 n] = some ([C], []) := rfl
set_option maxHeartbeats 8000000 in
theorem sSqueezeT {A : List Ln} (hA : A.length = 25) {R p : Nat} (hR0 : 0 < R) (hR : R ≤ 192) (hp : p ≤ R) (X : Int) {n : Int} (n0 : 0 ≤ n) (n1 : n ≤ 1048576) :
    FF tab 119 [.op (spC A R X p true), .i .i64 n] = some ⟨.tp [.os (nums .u8 (outL R (A, p) n.toNat)) n.toNat 1, .nl], [spC (nextN R (A, p) n.toNat).1 R X (nextN R (A, p) n.toNat).2 true]⟩ := by
  refine call_by (A := A119) rfl rfl ?_
  obtain ⟨S, hS⟩ : ∃ S : List Ln × Nat, S = (A, p) := ⟨_, rfl⟩
  rw [← hS]
  have hS0 : S.1 = A ∧ S.2 = p := by rw [hS]; exact ⟨rfl, rfl⟩
  have hSl : S.1.length = 25 := by rw [hS0.1]; exact hA
  have hSp : S.2 ≤ R := by rw [hS0.2]; exact hp
  have h28 := spC_28 (r := R) (x := X) (p := (p : Int)) (s := true) hA
  have ll := spC_len (r := R) (x := X) (p := (p : Int)) (s := true) hA
  have hlt : ¬ n < 0 := by omega
  have hgt : ¬ 1048576 < n := by omega
  have hnn : ((n.toNat : Nat) : Int) = n := by omega
  clear hS
  let V : Nat → Int := fun i => outB (outS R (nextN R S i))
  have hz := fillTo_zero V n.toNat
  simp (disch := first | assumption | omega | (simp only [List.length_cons, List.length_nil, List.length_set, List.length_append, List.length_replicate, List.length_map, List.length_range, List.length_take, List.length_drop, nums_length, bools_length, vecs_length]; first | done | omega)) [A119, hlt, hgt, h28, hnn]
  refine w_heads n.toNat (fun k => ⟨[(55, .i .i64 k), (54, .i .i64 n), (6, .rs 52 0 n.toNat 1), (0, .rf 0 0)], [(52, nums .u8 (fillTo V n.toNat k)), (0, spC (nextN R S k).1 R X (nextN R S k).2 true)]⟩) (by rw [hz]; simp (disch := first | assumption | omega | (simp only [List.length_cons, List.length_nil, List.length_set, List.length_append, List.length_replicate, List.length_map, List.length_range, List.length_take, List.length_drop, nums_length, bools_length, vecs_length]; first | done | omega)) [hnn, nextN, hS0]) ?_ ?_
  · intro k hk
    have wk : IntKind.i64.wrap ((k : Int) + 1) = (k : Int) + 1 := i64_in _ (by omega)
    have hkn : (k : Int).toNat = k := Int.toNat_natCast _
    have hkL : (k : Int) < n := by omega
    have hkb : 0 ≤ (k : Int) ∧ (k : Int) < (n.toNat : Int) := by omega
    have hset := fillTo_set V (show k < n.toNat by omega)
    have hfl := fillTo_len V n.toNat k
    obtain ⟨a1, a2⟩ := nextN_ok hR0 hSl hSp k
    obtain ⟨b1, b2⟩ := outS_ok hR0 a1 a2
    have hV : V k = outB (outS R (nextN R S k)) := rfl
    have hnx : nextN R S (k + 1) = ((outS R (nextN R S k)).1, (outS R (nextN R S k)).2 + 1) := rfl
    rw [hnx]
    simp only
    rw [hV] at hset
    clear hV hnx hz hS0
    generalize nextN R S k = Z at *
    obtain ⟨B, q⟩ := Z
    simp only at a1 a2 b1 b2 ⊢
    have hqp : q = R → outS R (B, q) = (perm B, 0) := fun h => if_pos h
    have hqn : q ≠ R → outS R (B, q) = (B, q) := fun h => if_neg h
    have hP := pPermute B a1
    have hpl := perm_len a1
    have hl25 := lanes_25 hpl
    have g25 := spC_25 (r := R) (x := X) (p := (q : Int)) (s := true) a1
    have g27 := spC_27 (r := R) (x := X) (p := (q : Int)) (s := true) a1
    have l0 := spC_len (r := R) (x := X) (p := (q : Int)) (s := true) a1
    by_cases hq : q = R
    · have e := hqp hq
      rw [e] at hset b1 b2 ⊢
      simp only at hset b1 b2 ⊢
      have hqd : decide ((q : Int) = (R : Int)) = true := decide_eq_true (by omega)
      have pt := spC_part (r := R) (x := X) (p := (q : Int)) (s := true) a1
      have ov := spC_over (r := R) (x := X) (p := (q : Int)) (s := true) a1 hpl
      have l1 := spC_len (r := R) (x := X) (p := (q : Int)) (s := true) hpl
      have l2 := spC_len (r := R) (x := X) (p := (0 : Int)) (s := true) hpl
      have s27 := spC_set27 (r := R) (x := X) (p := (q : Int)) (s := true) hpl 0
      have s27' := spC_set27 (r := R) (x := X) (p := (0 : Int)) (s := true) hpl 1
      have g27' := spC_27 (r := R) (x := X) (p := (0 : Int)) (s := true) hpl
      have gl := spC_lane (r := R) (x := X) (p := (0 : Int)) (s := true) hpl (j := 0) (by omega)
      have sh := shr_u64 (nl (perm B) 0) (n := 0) (by omega)
      have hO : outB (perm B, 0) = IntKind.u8.wrap (iv (nl (perm B) 0 >>> 0)) := by simp only [outB, Nat.zero_div, Nat.zero_mod, Nat.mul_zero]
      rw [hO] at hset
      have z1 : IntKind.i64.wrap 0 = 0 := rfl
      have z2 : IntKind.i64.wrap 1 = 1 := rfl
      have z3 : (0 : Int).tdiv 8 = 0 := rfl
      have z4 : (0 : Int).tmod 8 = 0 := rfl
      have e01 : ((0 + 1 : Nat) : Int) = 1 := rfl
      rw [e01]
      rw [Int.natCast_zero] at sh
      clear hqp hqn e hO
      generalize nl (perm B) 0 >>> 0 = W at *
      generalize perm B = PB at *
      generalize hT : (k : Int) = T at *
      generalize fillTo V n.toNat k = F at *
      simp (disch := first | assumption | omega | (simp only [List.length_cons, List.length_nil, List.length_set, List.length_append, List.length_replicate, List.length_map, List.length_range, List.length_take, List.length_drop, nums_length, bools_length, vecs_length]; first | done | omega)) [hkL, hkn, hkb, g27, g25, hqd, pt, hP, ov, s27, g27', gl, sh, z1, z2, z3, z4, nums_set, hset, s27', wk, hT, -shiftV_shl, -shiftV_shr]
    · have e := hqn hq
      rw [e] at hset b1 b2 ⊢
      simp only at hset b1 b2 ⊢
      have hqd : ¬ ((q : Int) = (R : Int)) := by omega
      have q8 : q / 8 < 25 := by omega
      have gl := spC_lane (r := R) (x := X) (p := (q : Int)) (s := true) a1 q8
      have sh := shr_u64 (nl B (q / 8)) (n := 8 * (q % 8)) (by omega)
      have hO : outB (B, q) = IntKind.u8.wrap (iv (nl B (q / 8) >>> (8 * (q % 8)))) := rfl
      rw [hO] at hset
      have z1 : (q : Int).tdiv 8 = ((q / 8 : Nat) : Int) := rfl
      have z2 : (q : Int).tmod 8 = ((q % 8 : Nat) : Int) := rfl
      have z3 : IntKind.i64.wrap ((q / 8 : Nat) : Int) = ((q / 8 : Nat) : Int) := i64_in _ (by omega)
      have z4 : IntKind.i64.wrap (8 * ((q % 8 : Nat) : Int)) = ((8 * (q % 8) : Nat) : Int) := by rw [i64_in _ (by omega)]; omega
      have z5 : ((q / 8 : Nat) : Int).toNat = q / 8 := Int.toNat_natCast _
      have z6 : 0 ≤ ((q / 8 : Nat) : Int) ∧ ((q / 8 : Nat) : Int) < 25 := by omega
      have wq : IntKind.i64.wrap ((q : Int) + 1) = ((q + 1 : Nat) : Int) := i64_in _ (by omega)
      have s27 := spC_set27 (r := R) (x := X) (p := (q : Int)) (s := true) a1 ((q + 1 : Nat) : Int)
      clear hqp hqn e hO hP hpl hl25 hq
      generalize nl B (q / 8) >>> (8 * (q % 8)) = W at *
      generalize ((8 * (q % 8) : Nat) : Int) = E at *
      generalize ((q % 8 : Nat) : Int) = M at *
      generalize ((q / 8 : Nat) : Int) = D at *
      generalize q / 8 = J at *
      generalize ((q + 1 : Nat) : Int) = Q1 at *
      generalize hT : (k : Int) = T at *
      generalize fillTo V n.toNat k = F at *
      simp (disch := first | assumption | omega | (simp only [List.length_cons, List.length_nil, List.length_set, List.length_append, List.length_replicate, List.length_map, List.length_range, List.length_take, List.length_drop, nums_length, bools_length, vecs_length]; first | done | omega)) [hkL, hkn, hkb, g27, g25, hqd, gl, sh, z1, z2, z3, z4, z5, nums_set, hset, s27, wq, wk, hT, -shiftV_shl, -shiftV_shr]
  · rw [fillTo_all]
    have ho : (List.range n.toNat).map V = outL R S n.toNat := rfl
    rw [ho]
    have hol := outL_len R S n.toNat
    have hnl := nums_length .u8 (outL R S n.toNat)
    have lo := fun C => lent_one2 C (spC A R X p true) (nums .u8 (outL R S n.toNat)) n
    generalize nextN R S n.toNat = S1 at *
    generalize outL R S n.toNat = F at *
    simp (disch := first | assumption | omega | (simp only [List.length_cons, List.length_nil, List.length_set, List.length_append, List.length_replicate, List.length_map, List.length_range, List.length_take, List.length_drop, nums_length, bools_length, vecs_length]; first | done | omega)) [hol, hnl, lo]
set_option maxHeartbeats 8000000 in
theorem sSqueeze {A : List Ln} (hA : A.length = 25) {R p : Nat} (hR0 : 0 < R) (hR : R ≤ 192) (hp : p < R) {X : Int} (x0 : 0 ≤ X) (x1 : X < 256) {n : Int} (n0 : 0 ≤ n) (n1 : n ≤ 1048576) :
    FF tab 119 [.op (spC A R X p false), .i .i64 n] = some ⟨.tp [.os (nums .u8 (outL R (padS R X (A, p)) n.toNat)) n.toNat 1, .nl], [spC (nextN R (padS R X (A, p)) n.toNat).1 R X (nextN R (padS R X (A, p)) n.toNat).2 true]⟩ := by
  refine call_by (A := A119) rfl rfl ?_
  have hm1 : (mixA A p X).length = 25 := by rw [mixA_len]; exact hA
  have hm2 : (mixA (mixA A p X) (R - 1) 128).length = 25 := by rw [mixA_len]; exact hm1
  have hM1 := sMix hA R X p false (j := p) (by omega) x0 x1
  have hM2 := sMix hm1 R X p false (j := R - 1) (by omega) (show (0 : Int) ≤ 128 by omega) (by omega)
  have eR : ((R - 1 : Nat) : Int) = (R : Int) - 1 := by omega
  rw [eR] at hM2
  have wR : IntKind.i64.wrap ((R : Int) - 1) = (R : Int) - 1 := i64_in _ (by omega)
  have hP := pPermute _ hm2
  have hpl := perm_len hm2
  have hl25 := lanes_25 hpl
  obtain ⟨S, hS⟩ : ∃ S : List Ln × Nat, S = padS R X (A, p) := ⟨_, rfl⟩
  rw [← hS]
  have hS0 : S.1 = perm (mixA (mixA A p X) (R - 1) 128) ∧ S.2 = 0 := by rw [hS]; exact ⟨rfl, rfl⟩
  have hSl : S.1.length = 25 := by rw [hS0.1]; exact hpl
  have hSp : S.2 ≤ R := by rw [hS0.2]; omega
  have h28 := spC_28 (r := R) (x := X) (p := (p : Int)) (s := false) hA
  have h27 := spC_27 (r := R) (x := X) (p := (p : Int)) (s := false) hA
  have h26 := spC_26 (r := R) (x := X) (p := (p : Int)) (s := false) hA
  have h25 := spC_25 (r := R) (x := X) (p := (p : Int)) (s := false) hm1
  have ll := spC_len (r := R) (x := X) (p := (p : Int)) (s := false) hA
  have ll1 := spC_len (r := R) (x := X) (p := (p : Int)) (s := false) hm1
  have ll2 := spC_len (r := R) (x := X) (p := (p : Int)) (s := false) hm2
  have ll3 := spC_len (r := R) (x := X) (p := (p : Int)) (s := false) hpl
  have ll4 := spC_len (r := R) (x := X) (p := (0 : Int)) (s := false) hpl
  have pt := spC_part (r := R) (x := X) (p := (p : Int)) (s := false) hm2
  have ov := spC_over (r := R) (x := X) (p := (p : Int)) (s := false) hm2 hpl
  have st1 := spC_set27 (r := R) (x := X) (p := (p : Int)) (s := false) hpl 0
  have st2 := spC_set28 (r := R) (x := X) (p := (0 : Int)) (s := false) hpl true
  have hlt : ¬ n < 0 := by omega
  have hgt : ¬ 1048576 < n := by omega
  have hnn : ((n.toNat : Nat) : Int) = n := by omega
  clear hS
  let V : Nat → Int := fun i => outB (outS R (nextN R S i))
  have hz := fillTo_zero V n.toNat
  generalize perm (mixA (mixA A p X) (R - 1) 128) = PB at *
  generalize mixA (mixA A p X) (R - 1) 128 = MB at *
  generalize mixA A p X = MA at *
  simp (disch := first | assumption | omega | (simp only [List.length_cons, List.length_nil, List.length_set, List.length_append, List.length_replicate, List.length_map, List.length_range, List.length_take, List.length_drop, nums_length, bools_length, vecs_length]; first | done | omega)) [A119, hlt, hgt, h28, h27, h26, h25, hM1, hM2, wR, hP, pt, ov, st1, st2, hnn]
  refine w_heads n.toNat (fun k => ⟨[(55, .i .i64 k), (54, .i .i64 n), (6, .rs 52 0 n.toNat 1), (0, .rf 0 0)], [(52, nums .u8 (fillTo V n.toNat k)), (0, spC (nextN R S k).1 R X (nextN R S k).2 true)]⟩) (by rw [hz]; simp (disch := first | assumption | omega | (simp only [List.length_cons, List.length_nil, List.length_set, List.length_append, List.length_replicate, List.length_map, List.length_range, List.length_take, List.length_drop, nums_length, bools_length, vecs_length]; first | done | omega)) [hnn, nextN, hS0]) ?_ ?_
  · intro k hk
    have wk : IntKind.i64.wrap ((k : Int) + 1) = (k : Int) + 1 := i64_in _ (by omega)
    have hkn : (k : Int).toNat = k := Int.toNat_natCast _
    have hkL : (k : Int) < n := by omega
    have hkb : 0 ≤ (k : Int) ∧ (k : Int) < (n.toNat : Int) := by omega
    have hset := fillTo_set V (show k < n.toNat by omega)
    have hfl := fillTo_len V n.toNat k
    obtain ⟨a1, a2⟩ := nextN_ok hR0 hSl hSp k
    obtain ⟨b1, b2⟩ := outS_ok hR0 a1 a2
    have hV : V k = outB (outS R (nextN R S k)) := rfl
    have hnx : nextN R S (k + 1) = ((outS R (nextN R S k)).1, (outS R (nextN R S k)).2 + 1) := rfl
    rw [hnx]
    simp only
    rw [hV] at hset
    clear hV hnx hz hS0
    generalize nextN R S k = Z at *
    obtain ⟨B, q⟩ := Z
    simp only at a1 a2 b1 b2 ⊢
    have hqp : q = R → outS R (B, q) = (perm B, 0) := fun h => if_pos h
    have hqn : q ≠ R → outS R (B, q) = (B, q) := fun h => if_neg h
    have hP := pPermute B a1
    have hpl := perm_len a1
    have hl25 := lanes_25 hpl
    have g25 := spC_25 (r := R) (x := X) (p := (q : Int)) (s := true) a1
    have g27 := spC_27 (r := R) (x := X) (p := (q : Int)) (s := true) a1
    have l0 := spC_len (r := R) (x := X) (p := (q : Int)) (s := true) a1
    by_cases hq : q = R
    · have e := hqp hq
      rw [e] at hset b1 b2 ⊢
      simp only at hset b1 b2 ⊢
      have hqd : decide ((q : Int) = (R : Int)) = true := decide_eq_true (by omega)
      have pt := spC_part (r := R) (x := X) (p := (q : Int)) (s := true) a1
      have ov := spC_over (r := R) (x := X) (p := (q : Int)) (s := true) a1 hpl
      have l1 := spC_len (r := R) (x := X) (p := (q : Int)) (s := true) hpl
      have l2 := spC_len (r := R) (x := X) (p := (0 : Int)) (s := true) hpl
      have s27 := spC_set27 (r := R) (x := X) (p := (q : Int)) (s := true) hpl 0
      have s27' := spC_set27 (r := R) (x := X) (p := (0 : Int)) (s := true) hpl 1
      have g27' := spC_27 (r := R) (x := X) (p := (0 : Int)) (s := true) hpl
      have gl := spC_lane (r := R) (x := X) (p := (0 : Int)) (s := true) hpl (j := 0) (by omega)
      have sh := shr_u64 (nl (perm B) 0) (n := 0) (by omega)
      have hO : outB (perm B, 0) = IntKind.u8.wrap (iv (nl (perm B) 0 >>> 0)) := by simp only [outB, Nat.zero_div, Nat.zero_mod, Nat.mul_zero]
      rw [hO] at hset
      have z1 : IntKind.i64.wrap 0 = 0 := rfl
      have z2 : IntKind.i64.wrap 1 = 1 := rfl
      have z3 : (0 : Int).tdiv 8 = 0 := rfl
      have z4 : (0 : Int).tmod 8 = 0 := rfl
      have e01 : ((0 + 1 : Nat) : Int) = 1 := rfl
      rw [e01]
      rw [Int.natCast_zero] at sh
      clear hqp hqn e hO
      generalize nl (perm B) 0 >>> 0 = W at *
      generalize perm B = PB at *
      generalize hT : (k : Int) = T at *
      generalize fillTo V n.toNat k = F at *
      simp (disch := first | assumption | omega | (simp only [List.length_cons, List.length_nil, List.length_set, List.length_append, List.length_replicate, List.length_map, List.length_range, List.length_take, List.length_drop, nums_length, bools_length, vecs_length]; first | done | omega)) [hkL, hkn, hkb, g27, g25, hqd, pt, hP, ov, s27, g27', gl, sh, z1, z2, z3, z4, nums_set, hset, s27', wk, hT, -shiftV_shl, -shiftV_shr]
    · have e := hqn hq
      rw [e] at hset b1 b2 ⊢
      simp only at hset b1 b2 ⊢
      have hqd : ¬ ((q : Int) = (R : Int)) := by omega
      have q8 : q / 8 < 25 := by omega
      have gl := spC_lane (r := R) (x := X) (p := (q : Int)) (s := true) a1 q8
      have sh := shr_u64 (nl B (q / 8)) (n := 8 * (q % 8)) (by omega)
      have hO : outB (B, q) = IntKind.u8.wrap (iv (nl B (q / 8) >>> (8 * (q % 8)))) := rfl
      rw [hO] at hset
      have z1 : (q : Int).tdiv 8 = ((q / 8 : Nat) : Int) := rfl
      have z2 : (q : Int).tmod 8 = ((q % 8 : Nat) : Int) := rfl
      have z3 : IntKind.i64.wrap ((q / 8 : Nat) : Int) = ((q / 8 : Nat) : Int) := i64_in _ (by omega)
      have z4 : IntKind.i64.wrap (8 * ((q % 8 : Nat) : Int)) = ((8 * (q % 8) : Nat) : Int) := by rw [i64_in _ (by omega)]; omega
      have z5 : ((q / 8 : Nat) : Int).toNat = q / 8 := Int.toNat_natCast _
      have z6 : 0 ≤ ((q / 8 : Nat) : Int) ∧ ((q / 8 : Nat) : Int) < 25 := by omega
      have wq : IntKind.i64.wrap ((q : Int) + 1) = ((q + 1 : Nat) : Int) := i64_in _ (by omega)
      have s27 := spC_set27 (r := R) (x := X) (p := (q : Int)) (s := true) a1 ((q + 1 : Nat) : Int)
      clear hqp hqn e hO hP hpl hl25 hq
      generalize nl B (q / 8) >>> (8 * (q % 8)) = W at *
      generalize ((8 * (q % 8) : Nat) : Int) = E at *
      generalize ((q % 8 : Nat) : Int) = M at *
      generalize ((q / 8 : Nat) : Int) = D at *
      generalize q / 8 = J at *
      generalize ((q + 1 : Nat) : Int) = Q1 at *
      generalize hT : (k : Int) = T at *
      generalize fillTo V n.toNat k = F at *
      simp (disch := first | assumption | omega | (simp only [List.length_cons, List.length_nil, List.length_set, List.length_append, List.length_replicate, List.length_map, List.length_range, List.length_take, List.length_drop, nums_length, bools_length, vecs_length]; first | done | omega)) [hkL, hkn, hkb, g27, g25, hqd, gl, sh, z1, z2, z3, z4, z5, nums_set, hset, s27, wq, wk, hT, -shiftV_shl, -shiftV_shr]
  · rw [fillTo_all]
    have ho : (List.range n.toNat).map V = outL R S n.toNat := rfl
    rw [ho]
    have hol := outL_len R S n.toNat
    have hnl := nums_length .u8 (outL R S n.toNat)
    have lo := fun C => lent_one2 C (spC A R X p false) (nums .u8 (outL R S n.toNat)) n
    generalize nextN R S n.toNat = S1 at *
    generalize outL R S n.toNat = F at *
    simp (disch := first | assumption | omega | (simp only [List.length_cons, List.length_nil, List.length_set, List.length_append, List.length_replicate, List.length_map, List.length_range, List.length_take, List.length_drop, nums_length, bools_length, vecs_length]; first | done | omega)) [hol, hnl, lo]
end Zab.YtjnomoefbffpoaaGreatDoorB
namespace Zab.YtjnomoefbffpoaaGreatDoorB
open Go
open Go.IntWalk (i64_in)
set_option maxRecDepth 100000
set_option linter.unusedSimpArgs false
set_option linter.unusedVariables false
attribute [-simp] getElem?_pos
attribute [local simp] sees_nil sees_rf sees_i sees_sl sees_z sees_rs sees_fl
theorem nj_ext {L M : List Int} (h1 : L.length = M.length) (h : ∀ j, j < L.length → ni L j = ni M j) : L = M := by
  apply List.ext_getElem h1
  intro j p q
  have := h j p
  rwa [ni_get p, ni_get q] at this
theorem SameBytes {x y : AV} {L M : List Int} (hx : IsL .u8 x L) (hy : IsL .u8 y M) (hs : L.length < 9223372036854775807) : FF tab 14 [x, y] = some ⟨.b (decide (L = M)), []⟩ := by
  refine call_by (A := A14) rfl rfl ?_
  have fx := hx.flat
  have fy := hy.flat
  have lx := lenV_isL hx
  have ly := lenV_isL hy
  by_cases hl : L.length = M.length
  · simp (disch := first | assumption | omega | (simp only [List.length_cons, List.length_nil, List.length_set, List.length_append, List.length_replicate, List.length_map, List.length_range, List.length_take, List.length_drop, nums_length, bools_length, vecs_length]; first | done | omega)) [A14, lx, ly, hl]
    refine w_headsP L.length (fun k => ⟨[(5, .i .i64 k), (1, y), (0, x)], []⟩) (fun k => ∀ j, j < k → ni L j = ni M j) (by simp (disch := first | assumption | omega | (simp only [List.length_cons, List.length_nil, List.length_set, List.length_append, List.length_replicate, List.length_map, List.length_range, List.length_take, List.length_drop, nums_length, bools_length, vecs_length]; first | done | omega)) []) (fun j h => by omega) ?_ ?_
    · intro k hk hp
      have w1 : IntKind.i64.wrap ((k : Int) + 1) = (k : Int) + 1 := i64_in _ (by omega)
      have hkn : (k : Int).toNat = k := Int.toNat_natCast _
      have hix := ixSV_isL hx (k' := .i64) (j := (k : Int)) (by omega) (by omega)
      have hiy := ixSV_isL hy (k' := .i64) (j := (k : Int)) (by omega) (by omega)
      rw [hkn] at hix hiy
      have hgx := nums_get (k := .u8) hk
      have hgy := nums_get (k := .u8) (L := M) (j := k) (by omega)
      have hlt : (k : Int) < (L.length : Int) := by omega
      generalize hT : (k : Int) = T at *
      by_cases he : ni L k = ni M k
      · simp (disch := first | assumption | omega | (simp only [List.length_cons, List.length_nil, List.length_set, List.length_append, List.length_replicate, List.length_map, List.length_range, List.length_take, List.length_drop, nums_length, bools_length, vecs_length]; first | done | omega)) [lx, hix, hiy, hgx, hgy, he, w1, hT]
        intro j hj
        by_cases e : j = k
        · subst e; exact he
        · exact hp j (by omega)
      · have hne : ¬ L = M := fun h => he (by rw [h])
        simp (disch := first | assumption | omega | (simp only [List.length_cons, List.length_nil, List.length_set, List.length_append, List.length_replicate, List.length_map, List.length_range, List.length_take, List.length_drop, nums_length, bools_length, vecs_length]; first | done | omega)) [lx, hix, hiy, hgx, hgy, he, hne, w1, hT]
    · intro hp
      have : L = M := nj_ext hl hp
      simp (disch := first | assumption | omega | (simp only [List.length_cons, List.length_nil, List.length_set, List.length_append, List.length_replicate, List.length_map, List.length_range, List.length_take, List.length_drop, nums_length, bools_length, vecs_length]; first | done | omega)) [lx, this]
  · have hne : ¬ L = M := fun h => hl (by rw [h])
    have hl' : ¬ (L.length : Int) = (M.length : Int) := by omega
    simp (disch := first | assumption | omega | (simp only [List.length_cons, List.length_nil, List.length_set, List.length_append, List.length_replicate, List.length_map, List.length_range, List.length_take, List.length_drop, nums_length, bools_length, vecs_length]; first | done | omega)) [A14, lx, ly, hl', hne]
structure Bys (L : List Int) : Prop where
  byte : ∀ y ∈ L, inK .u8 y
  short : L.length < 9223372036854775807
theorem sNew {R : Nat} (h0 : 8 ≤ R) (h1 : R ≤ 192) (h8 : R % 8 = 0) {X : Int} (x0 : 1 ≤ X) (x1 : X ≤ 127) : FF tab 139 [.i .i64 R, .i .u8 X] = some ⟨.tp [.op (spC (zL 25) R X 0 false), .nl], []⟩ := by
  rw [← spC_new]
  refine call_by (A := A139) rfl rfl ?_
  have a1 : ¬ (R : Int) < 8 := by omega
  have a2 : ¬ (192 : Int) < R := by omega
  have a3 : (R : Int).tmod 8 = 0 := by rw [Int.tmod_eq_emod_of_nonneg (by omega)]; omega
  have a4 : ¬ X = 0 := by omega
  have a5 : ¬ 127 < X := by omega
  simp (disch := first | assumption | omega | (simp only [List.length_cons, List.length_nil, List.length_set, List.length_append, List.length_replicate, List.length_map, List.length_range, List.length_take, List.length_drop, nums_length, bools_length, vecs_length]; first | done | omega)) [A139, a1, a2, a3, a4, a5]
theorem sAbsorb {A : List Ln} (hA : A.length = 25) {R p : Nat} (hR : R ≤ 192) (hp : p < R) (X : Int) {x : AV} {L : List Int} (hx : IsL .u8 x L) (hB : Bys L) :
    FF tab 140 [.op (spC A R X p false), x] = some ⟨.nl, [spC (takeL R (A, p) L).1 R X (takeL R (A, p) L).2 false]⟩ := by
  refine call_by (A := A140) rfl rfl ?_
  have fx := hx.flat
  have h28 := spC_28 (r := R) (x := X) (p := (p : Int)) (s := false) hA
  have ll := spC_len (r := R) (x := X) (p := (p : Int)) (s := false) hA
  have hT := sTake hA hR hp X false hx hB.byte hB.short
  generalize takeL R (A, p) L = S at *
  have lo := lent_one (spC S.1 R X S.2 false) (spC A R X p false) fx
  simp (disch := first | assumption | omega | (simp only [List.length_cons, List.length_nil, List.length_set, List.length_append, List.length_replicate, List.length_map, List.length_range, List.length_take, List.length_drop, nums_length, bools_length, vecs_length]; first | done | omega)) [A140, h28, hT, lo]
set_option maxHeartbeats 4000000 in
theorem sAll {R : Nat} (hR0 : 0 < R) (hR : R ≤ 192) {X : Int} (x0 : 0 ≤ X) (x1 : X < 256) {n : Int} (n0 : 0 ≤ n) (n1 : n ≤ 1048576) {xs : List AV} {Ls : List (List Int)} (hx : IsLs .u8 xs Ls) (hB : ∀ L ∈ Ls, Bys L) (hm : xs.length < 9223372036854775807) :
    FF tab 81 [.i .i64 R, .i .u8 X, .i .i64 n, .sl xs xs.length] = some ⟨.tp [.sl (nums .u8 (outL R (padS R X (takeL R (zL 25, 0) Ls.flatten)) n.toNat)) n.toNat, .nl], []⟩ := by
  refine call_by (A := A81) rfl rfl ?_
  have hZ : (zL 25).length = 25 := zL_len 25
  simp (disch := first | assumption | omega | (simp only [List.length_cons, List.length_nil, List.length_set, List.length_append, List.length_replicate, List.length_map, List.length_range, List.length_take, List.length_drop, nums_length, bools_length, vecs_length]; first | done | omega)) [A81]
  refine w_heads xs.length (fun k => ⟨[(19, .i .i64 k), (18, .i .i64 xs.length), (17, .sl xs xs.length), (10, .rf 16 0), (2, .i .i64 n)], [(16, spC (takeL R (zL 25, 0) (Ls.take k).flatten).1 R X (takeL R (zL 25, 0) (Ls.take k).flatten).2 false)]⟩) (by simp (disch := first | assumption | omega | (simp only [List.length_cons, List.length_nil, List.length_set, List.length_append, List.length_replicate, List.length_map, List.length_range, List.length_take, List.length_drop, nums_length, bools_length, vecs_length]; first | done | omega)) [← spC_new, takeL_nil]) ?_ ?_
  · intro k hk
    have hkL : k < Ls.length := by rw [← hx.1]; exact hk
    have hl := hx.2 k hk hkL
    have hget : xs[k]? = some xs[k] := List.getElem?_eq_getElem hk
    have w1 : IntKind.i64.wrap ((k : Int) + 1) = (k : Int) + 1 := i64_in _ (by omega)
    have hkn : (k : Int).toNat = k := Int.toNat_natCast _
    have hlt : (k : Int) < (xs.length : Int) := by omega
    have fx := hl.flat
    obtain ⟨a1, a2⟩ := takeL_ok (R := R) (Ls.take k).flatten (S := (zL 25, 0)) hZ hR0
    have hs : takeL R (zL 25, 0) (Ls.take (k + 1)).flatten = takeL R (takeL R (zL 25, 0) (Ls.take k).flatten) Ls[k] := by
      rw [List.take_succ_eq_append_getElem hkL, List.flatten_append, takeL_app]; simp
    rw [hs]
    generalize takeL R (zL 25, 0) (Ls.take k).flatten = S at *
    obtain ⟨B, q⟩ := S
    simp only at a1 a2 ⊢
    have hT := sTake a1 hR a2 X false hl (hB _ (List.getElem_mem hkL)).byte (hB _ (List.getElem_mem hkL)).short
    have ll := spC_len (r := R) (x := X) (p := (q : Int)) (s := false) a1
    generalize takeL R (B, q) Ls[k] = S1 at *
    generalize xs[k] = x at *
    clear hs hl
    generalize hT' : (k : Int) = T at *
    simp (disch := first | assumption | omega | (simp only [List.length_cons, List.length_nil, List.length_set, List.length_append, List.length_replicate, List.length_map, List.length_range, List.length_take, List.length_drop, nums_length, bools_length, vecs_length]; first | done | omega)) [hkn, hget, hT, w1, hT']
  · have e : Ls.take xs.length = Ls := by rw [hx.1]; exact List.take_length
    rw [e]
    obtain ⟨a1, a2⟩ := takeL_ok (R := R) Ls.flatten (S := (zL 25, 0)) hZ hR0
    generalize takeL R (zL 25, 0) Ls.flatten = S at *
    obtain ⟨B, q⟩ := S
    simp only at a1 a2 ⊢
    have hQ := sSqueeze a1 hR0 hR a2 x0 x1 n0 n1
    have hnl := nums_length .u8 (outL R (padS R X (B, q)) n.toNat)
    generalize outL R (padS R X (B, q)) n.toNat = O at *
    generalize nextN R (padS R X (B, q)) n.toNat = N1 at *
    simp (disch := first | assumption | omega | (simp only [List.length_cons, List.length_nil, List.length_set, List.length_append, List.length_replicate, List.length_map, List.length_range, List.length_take, List.length_drop, nums_length, bools_length, vecs_length]; first | done | omega)) [hQ]
theorem sSum256 {x : AV} {L : List Int} (hx : IsL .u8 x L) (hB : Bys L) : FF tab 38 [x] = some ⟨.sl (nums .u8 (outL 136 (padS 136 6 (takeL 136 (zL 25, 0) L)) 32)) 32, []⟩ := by
  refine call_by (A := A38) rfl rfl ?_
  have fx := hx.flat
  have h := sAll (R := 136) (by omega) (by omega) (X := 6) (by omega) (by omega) (n := 32) (by omega) (by omega) (IsLs.one hx) (by intro K hK; rcases List.mem_cons.1 hK with rfl | hK; exact hB; cases hK) (by simp)
  rw [show [L].flatten = L by simp, show [x].length = 1 from rfl, show (32 : Int).toNat = 32 from rfl, show ((136 : Nat) : Int) = 136 from rfl] at h
  generalize outL 136 (padS 136 6 (takeL 136 (zL 25, 0) L)) 32 = O at *
  simp (disch := first | assumption | omega | (simp only [List.length_cons, List.length_nil, List.length_set, List.length_append, List.length_replicate, List.length_map, List.length_range, List.length_take, List.length_drop, nums_length, bools_length, vecs_length]; first | done | omega)) [A38, h]
end Zab.YtjnomoefbffpoaaGreatDoorB
namespace Zab.YtjnomoefbffpoaaGreatDoorB
open Go
open Go.IntWalk (i64_in)
set_option maxRecDepth 100000
set_option linter.unusedSimpArgs false
set_option linter.unusedVariables false
attribute [-simp] getElem?_pos
theorem fTurned (x : Ln) {n : Nat} (h : n < 64) : FF tab 158 [.i .u64 (iv x), .i .i64 (n : Int)] = some ⟨.i .u64 (iv (rot x n)), []⟩ := by
  refine call_by (A := A158) rfl rfl ?_
  have e1 : IntKind.u64.wrap (n : Int) = (n : Int) := by
    unfold IntKind.wrap
    simp only [IntKind.signed, IntKind.bits]
    simp
    omega
  have e2 : IntKind.i64.wrap (64 - (n : Int)) = ((64 - n : Nat) : Int) := by rw [i64_in _ (by omega)]; omega
  have e3 : IntKind.u64.wrap ((64 - n : Nat) : Int) = ((64 - n : Nat) : Int) := by
    unfold IntKind.wrap
    simp only [IntKind.signed, IntKind.bits]
    simp
    omega
  have s1 := shl_u64 x (show n ≤ 64 by omega)
  have s2 := shr_u64 x (show 64 - n ≤ 64 by omega)
  generalize ((64 - n : Nat) : Int) = M at *
  generalize (n : Int) = N at *
  simp [A158, e1, e2, e3, s1, s2, bitV_or]
  rfl
theorem fTurn (x y : Int) : FF tab 159 [.i .i64 x, .i .i64 y] = some ⟨.i .i64 (turn x y), []⟩ := by
  refine call_by (A := A159) rfl rfl ?_
  simp [A159]
  refine w_headsP 24 (fun i => ⟨[(7, .i .i64 i), (6, .i .i64 (ab i).2), (5, .i .i64 (ab i).1), (1, .i .i64 y), (0, .i .i64 x)], []⟩) (fun i => turn x y = turnF x y i (24 - i)) (by simp [ab]) rfl ?_ ?_
  · intro i hi hp
    obtain ⟨h1, h2, h3, h4⟩ := ab_bound i
    have e : 24 - i = (24 - (i + 1)) + 1 := by omega
    rw [e, turnF] at hp
    have hlt : (i : Int) < 24 := by omega
    have w1 : IntKind.i64.wrap ((i : Int) + 1) = (i : Int) + 1 := i64_in _ (by omega)
    have w2 : IntKind.i64.wrap ((i : Int) + 2) = (i : Int) + 2 := i64_in _ (by omega)
    have w3 : IntKind.i64.wrap (2 * (ab i).1) = 2 * (ab i).1 := i64_in _ (by omega)
    have w4 : IntKind.i64.wrap (3 * (ab i).2) = 3 * (ab i).2 := i64_in _ (by omega)
    have w5 : IntKind.i64.wrap (2 * (ab i).1 + 3 * (ab i).2) = 2 * (ab i).1 + 3 * (ab i).2 := i64_in _ (by omega)
    have w6 : (2 * (ab i).1 + 3 * (ab i).2).tmod 5 = (2 * (ab i).1 + 3 * (ab i).2) % 5 := Int.tmod_eq_emod_of_nonneg (by omega)
    by_cases ha : (ab i).1 = x
    · by_cases hb : (ab i).2 = y
      · rw [if_pos ⟨ha, hb⟩] at hp
        have k1 : ((i : Int) + 1) * ((i : Int) + 2) ≤ 24 * 25 := Int.mul_le_mul (by omega) (by omega) (by omega) (by omega)
        have k0 : 0 ≤ ((i : Int) + 1) * ((i : Int) + 2) := Int.mul_nonneg (by omega) (by omega)
        have w7 : IntKind.i64.wrap (((i : Int) + 1) * ((i : Int) + 2)) = ((i : Int) + 1) * ((i : Int) + 2) := i64_in _ (by omega)
        have w8 : (((i : Int) + 1) * ((i : Int) + 2)).tdiv 2 = ((i : Int) + 1) * ((i : Int) + 2) / 2 := Int.tdiv_eq_ediv_of_nonneg k0
        have w9 : IntKind.i64.wrap (((i : Int) + 1) * ((i : Int) + 2) / 2) = ((i : Int) + 1) * ((i : Int) + 2) / 2 := i64_in _ (by omega)
        have w10 : (((i : Int) + 1) * ((i : Int) + 2) / 2).tmod 64 = ((i : Int) + 1) * ((i : Int) + 2) / 2 % 64 := Int.tmod_eq_emod_of_nonneg (by omega)
        simp [hlt, ha, hb, w1, w2, w7, w8, w9, w10]
        rw [hp]; rfl
      · rw [if_neg (fun h => hb h.2)] at hp
        simp [hlt, ha, hb]
        rw [ha] at w3 w5 w6
        simp [w1, w3, w4, w5, w6]
        exact ⟨by simp [ab, ha], by rw [hp]; congr 1; omega⟩
    · rw [if_neg (fun h => ha h.1)] at hp
      simp [hlt, ha, w1, w3, w4, w5, w6]
      exact ⟨⟨rfl, rfl⟩, by rw [hp]; congr 1; omega⟩
  · intro hp
    simp []
    rw [hp]; rfl
set_option maxHeartbeats 4000000 in
theorem fConstant (i : Int) : FF tab 160 [.i .i64 i] = some ⟨.i .u64 (iv (con i)), []⟩ := by
  refine call_by (A := A160) rfl rfl ?_
  by_cases h : i < 0 ∨ 24 ≤ i
  · rw [show con i = 0 from if_pos h]
    by_cases h1 : i < 0
    · simp (disch := omega) [A160, h1]; rfl
    · have h2 : 24 ≤ i := by omega
      simp (disch := omega) [A160]; rfl
  · obtain ⟨n, rfl⟩ : ∃ n : Nat, i = n := ⟨i.toNat, by omega⟩
    have hn : n < 24 := by omega
    have w1 : IntKind.i64.wrap ((n : Int) + 1) = (n : Int) + 1 := i64_in _ (by omega)
    have w2 : IntKind.i64.wrap (7 * ((n : Int) + 1)) = 7 * ((n : Int) + 1) := i64_in _ (by omega)
    have w3 : IntKind.i64.wrap (7 * (n : Int)) = 7 * (n : Int) := i64_in _ (by omega)
    have hc : con (n : Int) = outC n (7 * (n + 1)) := by unfold con; rw [if_neg h, Int.toNat_natCast]
    rw [hc]
    have hN : 0 ≤ (n : Int) ∧ (n : Int) < 24 := by omega
    generalize hT0 : (n : Int) = N at *
    simp (disch := omega) [A160, w1, w2]
    refine w_heads (7 * (n + 1)) (fun t => ⟨[(5, .i .i64 t), (4, .i .i64 (ib (row t))), (3, .i .u64 (iv (outC n t))), (0, .i .i64 N)], []⟩) (by simp [row, outC, iv, ib]) ?_ ?_
    · intro t ht
      have er : row (t + 1) = nextB (row t) := rfl
      have e1 := by_low (row t)
      have e1' : (ib (row t)).tmod 2 = ib (row t) % 2 := Int.tmod_eq_emod_of_nonneg (ib_ok _).1
      rw [e1] at e1'
      have e2 := i64_and (row t)
      have e3 := i64_xor (row t <<< 1)
      have e4 := u8_top (row t)
      have e5 := by_shl (row t)
      have hrr := ib_ok (row t)
      have w6 : IntKind.i64.wrap (2 * ib (row t)) = 2 * ib (row t) := i64_in _ (by omega)
      have w7 : IntKind.i64.wrap (ib (row t <<< 1)) = ib (row t <<< 1) := i64_in _ (by have := ib_ok (row t <<< 1); omega)
      by_cases ha : 7 * n ≤ t
      · have hj : t - 7 * n ≤ 6 := by omega
        have hJ : (t : Int) - 7 * N = ((t - 7 * n : Nat) : Int) := by omega
        have eo : outC n (t + 1) = if low (row t) = true then outC n t ||| ((1#64) <<< (2 ^ (t - 7 * n) - 1)) else outC n t := by
          simp only [outC, ha, true_and]
        obtain ⟨s1, s2, s3⟩ := shl1 hj
        have s4 := shl1' s3
        have wj : IntKind.u64.wrap ((t - 7 * n : Nat) : Int) = ((t - 7 * n : Nat) : Int) := by
          unfold IntKind.wrap
          simp only [IntKind.signed, IntKind.bits]
          simp
          omega
        rw [← hJ] at s1 wj
        generalize ((2 ^ (t - 7 * n) : Nat) : Int) = P at *
        generalize ((2 ^ (t - 7 * n) - 1 : Nat) : Int) = P' at *
        generalize hT : (t : Int) = T at *
        have a1 : T < 7 * (N + 1) ∧ 7 * N ≤ T := by omega
        have w4 : IntKind.i64.wrap (T + 1) = T + 1 := i64_in _ (by omega)
        have w5 : IntKind.i64.wrap (T - 7 * N) = T - 7 * N := i64_in _ (by omega)
        generalize row t = r at *
        generalize outC n t = o at *
        clear h hc s3 hj hJ ha ht e1
        cases hb : low r <;> cases hh : top r <;> simp [hb, hh, bI, nextB] at e1' e4 e5 eo er <;>
          simp (disch := omega) [w1, w2, w3, w4, w5, w6, w7, wj, e1', e2, e3, e5, s1, s2, s4, bitV_or, eo, er, hT]
      · have eo : outC n (t + 1) = outC n t := by simp only [outC]; rw [if_neg (fun h => ha h.1)]
        generalize hT : (t : Int) = T at *
        have a1 : T < 7 * (N + 1) ∧ T < 7 * N := by omega
        have w4 : IntKind.i64.wrap (T + 1) = T + 1 := i64_in _ (by omega)
        generalize row t = r at *
        clear h hc ha ht e1
        cases hh : top r <;> simp [hh, nextB] at e4 e5 er <;>
          simp (disch := omega) [w1, w2, w3, w4, w6, w7, e2, e3, e5, eo, er, hT]
    · have e : ((7 * (n + 1) : Nat) : Int) = 7 * (N + 1) := by omega
      simp only [e]
      simp [w1, w2]
set_option maxHeartbeats 16000000 in
theorem fRound (L : List Ln) (hL : L.length = 25) (i : Int) : FF tab 154 [.ag (lanes L), .i .i64 i] = some ⟨.ag (lanes (rnd L (con i))), []⟩ := by
  refine call_by (A := A154) rfl rfl ?_
  have hLL : (lanes L).length = 25 := by rw [lanes_length, hL]
  have hZ : (lanes (zL 25)).length = 25 := by rw [lanes_length, zL_len]
  simp (disch := omega) [A154, ↓z25, ↓z5]
  refine w_heads 5 (fun x => ⟨[(6, .i .i64 x), (5, .rf 5 0), (4, .rf 4 0), (2, .rf 2 0), (1, .i .i64 i)], [(5, lanes (refC L (5 * x))), (4, lanes (zL 25)), (2, lanes L)]⟩) (by simp [refC]) ?_ ?_
  · intro x hx
    have w1 : IntKind.i64.wrap ((x : Int) + 1) = (x : Int) + 1 := i64_in _ (by omega)
    have hXn : (x : Int).toNat = x := Int.toNat_natCast _
    generalize hX : (x : Int) = X at *
    simp (disch := omega) []
    refine w_heads 5 (fun y => ⟨[(7, .i .i64 y), (6, .i .i64 X), (5, .rf 5 0), (4, .rf 4 0), (2, .rf 2 0), (1, .i .i64 i)], [(5, lanes (refC L (5 * x + y))), (4, lanes (zL 25)), (2, lanes L)]⟩) (by simp []) ?_ ?_
    · intro y hy
      have hl := refC_len L (5 * x + y)
      have hl2 : (lanes (refC L (5 * x + y))).length = 5 := by rw [lanes_length, hl]
      have er : refC L (5 * x + (y + 1)) = (refC L (5 * x + y)).set x (nl (refC L (5 * x + y)) x ^^^ nl L (x + 5 * y)) := by
        have e0 : ∀ m, refC L (m + 1) = (refC L m).set (m / 5) (nl (refC L m) (m / 5) ^^^ nl L (m / 5 + 5 * (m % 5))) := fun _ => rfl
        rw [show 5 * x + (y + 1) = (5 * x + y) + 1 by omega, e0, show (5 * x + y) / 5 = x by omega, show (5 * x + y) % 5 = y by omega]
      have w2 : IntKind.i64.wrap ((y : Int) + 1) = (y : Int) + 1 := i64_in _ (by omega)
      have w3 : IntKind.i64.wrap (5 * (y : Int)) = 5 * (y : Int) := i64_in _ (by omega)
      have w4 : IntKind.i64.wrap (X + 5 * (y : Int)) = ((x + 5 * y : Nat) : Int) := by rw [i64_in _ (by omega)]; omega
      have hpn : ((x + 5 * y : Nat) : Int).toNat = x + 5 * y := Int.toNat_natCast _
      have hp : ((x + 5 * y : Nat) : Int) < 25 ∧ 0 ≤ ((x + 5 * y : Nat) : Int) := by omega
      have hp2 : x + 5 * y < 25 := by omega
      generalize ((x + 5 * y : Nat) : Int) = P at *
      generalize hY : (y : Int) = Y at *
      generalize refC L (5 * x + y) = C at *
      simp (disch := omega) [hXn, hpn, hY, w2, w3, w4, lanes_get, lanes_set, bitV_xor, er]
    · simp (disch := omega) [w1, hX]
      rfl
  · simp (disch := omega) [↓z25, refC_eq]
    have hC5 := theC_len L 25
    unfold rnd base
    generalize theC L 25 = C at *
    have hC5' : (lanes C).length = 5 := by rw [lanes_length, hC5]
    refine w_heads 5 (fun x => ⟨[(9, .i .i64 x), (8, .rf 8 0), (5, .rf 5 0), (4, .rf 4 0), (2, .rf 2 0), (1, .i .i64 i)], [(8, lanes (refB L C (5 * x))), (5, lanes C), (4, lanes (zL 25)), (2, lanes L)]⟩) (by simp [refB]) ?_ ?_
    · intro x hx
      have hx5 : x < 5 := hx
      have w1 : IntKind.i64.wrap ((x : Int) + 1) = (x : Int) + 1 := i64_in _ (by omega)
      have hXn : (x : Int).toNat = x := Int.toNat_natCast _
      have m1 : ((x : Int) + 4).tmod 5 = (((x + 4) % 5 : Nat) : Int) := rfl
      have m2 : ((x : Int) + 1).tmod 5 = (((x + 1) % 5 : Nat) : Int) := rfl
      have w2 : IntKind.i64.wrap ((x : Int) + 4) = (x : Int) + 4 := i64_in _ (by omega)
      have i1 : ((((x + 4) % 5 : Nat) : Int)).toNat = (x + 4) % 5 := Int.toNat_natCast _
      have i2 : ((((x + 1) % 5 : Nat) : Int)).toNat = (x + 1) % 5 := Int.toNat_natCast _
      have h4 : (x + 4) % 5 < 5 := by omega
      have h1 : (x + 1) % 5 < 5 := by omega
      have q1 : (((x + 4) % 5 : Nat) : Int) < 5 ∧ (0 : Int) ≤ (((x + 4) % 5 : Nat) : Int) := by omega
      have q2 : (((x + 1) % 5 : Nat) : Int) < 5 ∧ (0 : Int) ≤ (((x + 1) % 5 : Nat) : Int) := by omega
      have r2 : FF tab 158 [.i .u64 (iv (nl C ((x + 1) % 5))), .i .i64 1] = some ⟨.i .u64 (iv (rot (nl C ((x + 1) % 5)) 1)), []⟩ := fTurned _ (n := 1) (by omega)
      have d0 : nl C ((x + 4) % 5) ^^^ rot (nl C ((x + 1) % 5)) 1 = theD C x := rfl
      have dd : ∃ d, theD C x = d := ⟨_, rfl⟩
      have turnX : ∀ y : Nat, y < 5 → turn (x : Int) (y : Int) = (tn x y : Int) ∧ tn x y < 64 := fun y hy => turn_ok x y hx hy
      have w4 : IntKind.i64.wrap (2 * (x : Int)) = 2 * (x : Int) := i64_in _ (by omega)
      have hm3 : ∀ y : Nat, (2 * (x : Int) + 3 * (y : Int)).tmod 5 = (((2 * x + 3 * y) % 5 : Nat) : Int) := fun _ => rfl
      generalize (((x + 4) % 5 : Nat) : Int) = X4 at *
      generalize (((x + 1) % 5 : Nat) : Int) = X1 at *
      generalize hX : (x : Int) = X at *
      simp (disch := omega) [w1, w2, m1, m2, i1, i2, r2, d0, lanes_get, bitV_xor]
      refine w_heads 5 (fun y => ⟨[(11, .i .i64 y), (10, .i .u64 (iv (theD C x))), (9, .i .i64 X), (8, .rf 8 0), (5, .rf 5 0), (4, .rf 4 0), (2, .rf 2 0), (1, .i .i64 i)], [(8, lanes (refB L C (5 * x + y))), (5, lanes C), (4, lanes (zL 25)), (2, lanes L)]⟩) (by simp []) ?_ ?_
      · intro y hy
        have hl := refB_len L C (5 * x + y)
        have hl2 : (lanes (refB L C (5 * x + y))).length = 25 := by rw [lanes_length, hl]
        have er : refB L C (5 * x + (y + 1)) = (refB L C (5 * x + y)).set (place x y) (rot (nl L (x + 5 * y) ^^^ theD C x) (tn x y)) := by
          have e0 : ∀ m, refB L C (m + 1) = (refB L C m).set (place (m / 5) (m % 5)) (rot (nl L (m / 5 + 5 * (m % 5)) ^^^ theD C (m / 5)) (tn (m / 5) (m % 5))) := fun _ => rfl
          rw [show 5 * x + (y + 1) = (5 * x + y) + 1 by omega, e0, show (5 * x + y) / 5 = x by omega, show (5 * x + y) % 5 = y by omega]
        obtain ⟨t1, t2⟩ := turnX y hy
        have t3 := fTurn X (y : Int)
        rw [t1] at t3
        have r1 := fTurned (nl L (x + 5 * y) ^^^ theD C x) t2
        have hp := place_lt x y hx hy
        have pl : place x y = y + 5 * ((2 * x + 3 * y) % 5) := rfl
        have m3 := hm3 y
        have w3 : IntKind.i64.wrap ((y : Int) + 1) = (y : Int) + 1 := i64_in _ (by omega)
        have w5 : IntKind.i64.wrap (3 * (y : Int)) = 3 * (y : Int) := i64_in _ (by omega)
        have w6 : IntKind.i64.wrap (2 * X + 3 * (y : Int)) = 2 * X + 3 * (y : Int) := i64_in _ (by omega)
        have w7 : IntKind.i64.wrap (5 * (((2 * x + 3 * y) % 5 : Nat) : Int)) = 5 * (((2 * x + 3 * y) % 5 : Nat) : Int) := i64_in _ (by omega)
        have w8 : IntKind.i64.wrap ((y : Int) + 5 * (((2 * x + 3 * y) % 5 : Nat) : Int)) = (place x y : Int) := by rw [i64_in _ (by omega)]; omega
        have i3 : ((place x y : Nat) : Int).toNat = place x y := Int.toNat_natCast _
        have q3 : ((place x y : Nat) : Int) < 25 ∧ (0 : Int) ≤ ((place x y : Nat) : Int) := by omega
        have w9 : IntKind.i64.wrap (5 * (y : Int)) = 5 * (y : Int) := i64_in _ (by omega)
        have w10 : IntKind.i64.wrap (X + 5 * (y : Int)) = ((x + 5 * y : Nat) : Int) := by rw [i64_in _ (by omega)]; omega
        have i4 : ((x + 5 * y : Nat) : Int).toNat = x + 5 * y := Int.toNat_natCast _
        have q4 : ((x + 5 * y : Nat) : Int) < 25 ∧ 0 ≤ ((x + 5 * y : Nat) : Int) := by omega
        have hp2 : x + 5 * y < 25 := by omega
        generalize rot (nl L (x + 5 * y) ^^^ theD C x) (tn x y) = V at *
        generalize ((tn x y : Nat) : Int) = TN at *
        generalize (((2 * x + 3 * y) % 5 : Nat) : Int) = P5 at *
        generalize ((place x y : Nat) : Int) = PL at *
        generalize ((x + 5 * y : Nat) : Int) = P at *
        generalize hY : (y : Int) = Y at *
        generalize refB L C (5 * x + y) = B at *
        clear turnX hm3 t1 t2 pl
        simp (disch := omega) [hY, w3, w4, w5, w6, w7, w8, w9, w10, m3, i3, i4, r1, t3, lanes_get, lanes_set, bitV_xor, er]
      · simp (disch := omega) [w1, hX]
        rfl
    · simp (disch := omega) [↓z25, refB_eq]
      have hB := theB_len L C 25
      generalize theB L C 25 = B at *
      have hB' : (lanes B).length = 25 := by rw [lanes_length, hB]
      refine w_heads 5 (fun x => ⟨[(13, .i .i64 x), (12, .rf 12 0), (8, .rf 8 0), (4, .rf 4 0), (1, .i .i64 i)], [(12, lanes (refO B (5 * x))), (8, lanes B), (4, lanes (zL 25))]⟩) (by simp [refO]) ?_ ?_
      · intro x hx
        have w1 : IntKind.i64.wrap ((x : Int) + 1) = (x : Int) + 1 := i64_in _ (by omega)
        have w2 : IntKind.i64.wrap ((x : Int) + 2) = (x : Int) + 2 := i64_in _ (by omega)
        have m1 : ((x : Int) + 1).tmod 5 = (((x + 1) % 5 : Nat) : Int) := rfl
        have m2 : ((x : Int) + 2).tmod 5 = (((x + 2) % 5 : Nat) : Int) := rfl
        have hX1 : (((x + 1) % 5 : Nat) : Int) < 5 := by omega
        generalize hX : (x : Int) = X at *
        simp (disch := omega) []
        refine w_heads 5 (fun y => ⟨[(14, .i .i64 y), (13, .i .i64 X), (12, .rf 12 0), (8, .rf 8 0), (4, .rf 4 0), (1, .i .i64 i)], [(12, lanes (refO B (5 * x + y))), (8, lanes B), (4, lanes (zL 25))]⟩) (by simp []) ?_ ?_
        · intro y hy
          have hl := refO_len B (5 * x + y)
          have hl2 : (lanes (refO B (5 * x + y))).length = 25 := by rw [lanes_length, hl]
          have er : refO B (5 * x + (y + 1)) = (refO B (5 * x + y)).set (x + 5 * y) (nl B (x + 5 * y) ^^^ (~~~ nl B ((x + 1) % 5 + 5 * y) &&& nl B ((x + 2) % 5 + 5 * y))) := by
            have e0 : ∀ m, refO B (m + 1) = (refO B m).set (m / 5 + 5 * (m % 5)) (chi B (m / 5) (m % 5)) := fun _ => rfl
            rw [show 5 * x + (y + 1) = (5 * x + y) + 1 by omega, e0, show (5 * x + y) / 5 = x by omega, show (5 * x + y) % 5 = y by omega]
            rfl
          have w3 : IntKind.i64.wrap ((y : Int) + 1) = (y : Int) + 1 := i64_in _ (by omega)
          have w4 : IntKind.i64.wrap (5 * (y : Int)) = 5 * (y : Int) := i64_in _ (by omega)
          have w5 : IntKind.i64.wrap (X + 5 * (y : Int)) = ((x + 5 * y : Nat) : Int) := by rw [i64_in _ (by omega)]; omega
          have w6 : IntKind.i64.wrap ((((x + 1) % 5 : Nat) : Int) + 5 * (y : Int)) = (((x + 1) % 5 + 5 * y : Nat) : Int) := by rw [i64_in _ (by omega)]; omega
          have w7 : IntKind.i64.wrap ((((x + 2) % 5 : Nat) : Int) + 5 * (y : Int)) = (((x + 2) % 5 + 5 * y : Nat) : Int) := by rw [i64_in _ (by omega)]; omega
          have p0 : x + 5 * y < 25 := by omega
          have p1 : (x + 1) % 5 + 5 * y < 25 := by omega
          have p2 : (x + 2) % 5 + 5 * y < 25 := by omega
          generalize hp0 : x + 5 * y = P0 at *
          generalize hp1 : (x + 1) % 5 + 5 * y = P1 at *
          generalize hp2 : (x + 2) % 5 + 5 * y = P2 at *
          have i0 : ((P0 : Nat) : Int).toNat = P0 := Int.toNat_natCast _
          have i1 : ((P1 : Nat) : Int).toNat = P1 := Int.toNat_natCast _
          have i2 : ((P2 : Nat) : Int).toNat = P2 := Int.toNat_natCast _
          have q0 : (P0 : Int) < 25 ∧ (0 : Int) ≤ (P0 : Int) := by omega
          have q1 : (P1 : Int) < 25 ∧ (0 : Int) ≤ (P1 : Int) := by omega
          have q2 : (P2 : Int) < 25 ∧ (0 : Int) ≤ (P2 : Int) := by omega
          generalize (((x + 1) % 5 : Nat) : Int) = X1 at *
          generalize (((x + 2) % 5 : Nat) : Int) = X2 at *
          generalize (P0 : Int) = Q0 at *
          generalize (P1 : Int) = Q1 at *
          generalize (P2 : Int) = Q2 at *
          generalize hY : (y : Int) = Y at *
          generalize refO B (5 * x + y) = O at *
          clear hp0 hp1 hp2
          simp (disch := omega) [hY, m1, m2, w1, w2, w3, w4, w5, w6, w7, i0, i1, i2, lanes_get, lanes_set, bitV_xor, bitV_and, bitV_not, er]
        · simp (disch := omega) [w1, hX]
          rfl
      · simp (disch := omega) [refO_eq]
        have hO := theO_len B 25
        generalize theO B 25 = O at *
        have hO' : (lanes O).length = 25 := by rw [lanes_length, hO]
        have hO2 : (lanes (O.set 0 (nl O 0 ^^^ con i))).length = 25 := by simp [lanes_length, hO]
        have hk := fConstant i
        simp (disch := omega) [hk, lanes_get, lanes_set, bitV_xor, hO', hO2]
set_option maxHeartbeats 8000000 in
theorem fPermute (L : List Ln) (hL : L.length = 25) : FF tab 146 [.ag (lanes L)] = some ⟨.ag (lanes (rnds L 24)), []⟩ := by
  refine call_by (A := A146) rfl rfl ?_
  have hLL : (lanes L).length = 25 := by rw [lanes_length, hL]
  have hZ : (lanes (zL 25)).length = 25 := by rw [lanes_length, zL_len]
  simp (disch := omega) [A146, ↓z25]
  refine w_heads 24 (fun k => ⟨[(3, .i .i64 k), (2, .rf 2 0), (1, .rf 1 0)], [(2, lanes (zL 25)), (1, lanes (rnds L k))]⟩) (by simp [rnds]) ?_ ?_
  · intro k hk
    have hr := fRound (rnds L k) (rnds_len hL k) k
    have hl : (lanes (rnds L k)).length = 25 := by rw [lanes_length, rnds_len hL]
    have hl' : (lanes (rnd (rnds L k) (con k))).length = 25 := by rw [lanes_length, rnd_len]
    have er : rnds L (k + 1) = rnd (rnds L k) (con k) := rfl
    have w1 : IntKind.i64.wrap ((k : Int) + 1) = (k : Int) + 1 := i64_in _ (by omega)
    generalize hT : (k : Int) = T at *
    generalize rnds L k = M at *
    simp (disch := omega) [hr, hT, w1, er, hl, hl']
  · have hl : (lanes (rnds L 24)).length = 25 := by rw [lanes_length, rnds_len hL]
    generalize rnds L 24 = M at *
    simp (disch := omega) [hl]
end Zab.YtjnomoefbffpoaaGreatDoorB
namespace Zab.YtjnomoefbffpoaaGreatDoorB
open Go
open Go.IntWalk (i64_in)
set_option maxRecDepth 100000
set_option linter.unusedSimpArgs false
set_option linter.unusedVariables false
attribute [-simp] getElem?_pos
attribute [local simp] sees_nil sees_rf sees_i sees_sl sees_z sees_rs sees_fl
theorem pfPermute (L : List Ln) (hL : L.length = 25) : FF tab 146 [.ag (lanes L)] = some ⟨.ag (lanes (perm L)), []⟩ := by
  rw [← perm_def]; exact fPermute L hL
theorem u64_i {n : Nat} (h : n < 1000) : IntKind.u64.wrap (n : Int) = n := by
  have : IntKind.u64.wrap (n : Int) = (n : Int) % 18446744073709551616 := rfl
  rw [this]; omega
set_option maxHeartbeats 4000000 in
theorem dMix {A : List Ln} (hA : A.length = 25) (r x p : Int) (s : Bool) {j : Nat} (hj : j < 192) {y : Int} (y0 : 0 ≤ y) (y1 : y < 256) :
    FF tab 145 [.op (spD A r x p s), .i .i64 j, .i .u8 y] = some ⟨.tp [], [spD (mixA A j y) r x p s]⟩ := by
  refine call_by (A := A145) rfl rfl ?_
  have h1 : (j : Int).tdiv 8 = ((j / 8 : Nat) : Int) := rfl
  have h2 : (j : Int).tmod 8 = ((j % 8 : Nat) : Int) := rfl
  have w1 : IntKind.i64.wrap ((j / 8 : Nat) : Int) = ((j / 8 : Nat) : Int) := i64_in _ (by omega)
  have w2 : IntKind.i64.wrap (((j % 8 : Nat) : Int) * 8) = ((8 * (j % 8) : Nat) : Int) := by rw [i64_in _ (by omega)]; omega
  have w3 := u64_i (n := 8 * (j % 8)) (by omega)
  have t1 : ((j / 8 : Nat) : Int).toNat = j / 8 := Int.toNat_natCast _
  have b1 : 0 ≤ ((j / 8 : Nat) : Int) ∧ ((j / 8 : Nat) : Int) < 25 := by omega
  have b2 : j / 8 < 25 := by omega
  obtain ⟨y2, y3⟩ := shl_byte y y0 y1 (n := 8 * (j % 8)) (by omega)
  have g := spD_lane (r := r) (x := x) (p := p) (s := s) hA b2
  have hx := bitV_xor (nl A (j / 8)) (BitVec.ofInt 64 y <<< (8 * (j % 8)))
  have hs := spD_setl (r := r) (x := x) (p := p) (s := s) hA b2 (nl A (j / 8) ^^^ (BitVec.ofInt 64 y <<< (8 * (j % 8))))
  have hl := spD_len (r := r) (x := x) (p := p) (s := s) hA
  have hm : mixA A j y = A.set (j / 8) (nl A (j / 8) ^^^ (BitVec.ofInt 64 y <<< (8 * (j % 8)))) := rfl
  rw [hm]
  generalize nl A (j / 8) ^^^ (BitVec.ofInt 64 y <<< (8 * (j % 8))) = V at *
  generalize BitVec.ofInt 64 y <<< (8 * (j % 8)) = U at *
  generalize ((8 * (j % 8) : Nat) : Int) = E at *
  generalize ((j % 8 : Nat) : Int) = M at *
  generalize ((j / 8 : Nat) : Int) = D at *
  generalize j / 8 = J at *
  simp (disch := first | assumption | omega | (simp only [List.length_cons, List.length_nil, List.length_set, List.length_append, List.length_replicate, List.length_map, List.length_range, List.length_take, List.length_drop, nums_length, bools_length, vecs_length]; first | done | omega)) [A145, h1, h2, w1, w2, w3, t1, y2, y3, g, hx, hs, -shiftV_shl, -shiftV_shr]
set_option maxHeartbeats 4000000 in
theorem dAbsorb {A : List Ln} (hA : A.length = 25) {R p : Nat} (hR : R ≤ 192) (hp : p < R) (X : Int) {x : AV} {L : List Int} (hx : IsL .u8 x L) (hBL : Bys L) :
    FF tab 121 [.op (spD A R X p false), x] = some ⟨.i .i64 0, [spD (takeL R (A, p) L).1 R X (takeL R (A, p) L).2 false]⟩ := by
  refine call_by (A := A121) rfl rfl ?_
  have hB := hBL.byte
  have hs := hBL.short
  have fx := hx.flat
  have lx := lenV_isL hx
  have h28 := spD_28 (r := R) (x := X) (p := (p : Int)) (s := false) hA
  have ll := spD_len (r := R) (x := X) (p := (p : Int)) (s := false) hA
  simp (disch := first | assumption | omega | (simp only [List.length_cons, List.length_nil, List.length_set, List.length_append, List.length_replicate, List.length_map, List.length_range, List.length_take, List.length_drop, nums_length, bools_length, vecs_length]; first | done | omega)) [A121, lx, h28]
  refine w_heads L.length (fun k => ⟨[(5, .i .i64 k), (1, x), (0, .rf 0 0)], [(0, spD (takeL R (A, p) (L.take k)).1 R X (takeL R (A, p) (L.take k)).2 false)]⟩) (by simp (disch := first | assumption | omega | (simp only [List.length_cons, List.length_nil, List.length_set, List.length_append, List.length_replicate, List.length_map, List.length_range, List.length_take, List.length_drop, nums_length, bools_length, vecs_length]; first | done | omega)) [takeL_nil]) ?_ ?_
  · intro k hk
    have wk : IntKind.i64.wrap ((k : Int) + 1) = (k : Int) + 1 := i64_in _ (by omega)
    have hkn : (k : Int).toNat = k := Int.toNat_natCast _
    have hkL : (k : Int) < (L.length : Int) := by omega
    have ix := ixSV_isL hx (k' := .i64) (j := (k : Int)) (by omega) (by omega)
    rw [hkn] at ix
    have gx := nums_get (k := .u8) (L := L) (j := k) (by omega)
    obtain ⟨y0, y1⟩ := byte_at hB hk
    obtain ⟨a1, a2⟩ := takeL_ok (R := R) (L.take k) (S := (A, p)) hA hp
    have hstep := take_step R (A, p) L hk
    rw [hstep]
    generalize takeL R (A, p) (L.take k) = S at *
    obtain ⟨B, q⟩ := S
    simp only at a1 a2 ⊢
    have hM := dMix a1 R X q false (j := q) (by omega) y0 y1
    have hm1 : (mixA B q (ni L k)).length = 25 := by rw [mixA_len]; exact a1
    have hP := pfPermute (mixA B q (ni L k)) hm1
    have hpl := perm_len hm1
    have wq : IntKind.i64.wrap ((q : Int) + 1) = ((q + 1 : Nat) : Int) := i64_in _ (by omega)
    have g0 := spD_0 (A := mixA B q (ni L k)) (r := R) (x := X) (p := ((q + 1 : Nat) : Int)) (s := false)
    have g27 := spD_27 (r := R) (x := X) (p := (q : Int)) (s := false) hm1
    have g27' := spD_27 (r := R) (x := X) (p := ((q + 1 : Nat) : Int)) (s := false) hm1
    have s27 := spD_set27 (r := R) (x := X) (p := (q : Int)) (s := false) hm1 ((q + 1 : Nat) : Int)
    have s27' := spD_set27 (r := R) (x := X) (p := ((q + 1 : Nat) : Int)) (s := false) hpl 0
    have h27 := spD_27 (r := R) (x := X) (p := (q : Int)) (s := false) a1
    have pt := spD_part (r := R) (x := X) (p := ((q + 1 : Nat) : Int)) (s := false) hm1
    have ov := spD_over (r := R) (x := X) (p := ((q + 1 : Nat) : Int)) (s := false) hm1 hpl
    have l0 := spD_len (r := R) (x := X) (p := (q : Int)) (s := false) a1
    have l1 := spD_len (r := R) (x := X) (p := (q : Int)) (s := false) hm1
    have l2 := spD_len (r := R) (x := X) (p := ((q + 1 : Nat) : Int)) (s := false) hm1
    have l3 := spD_len (r := R) (x := X) (p := ((q + 1 : Nat) : Int)) (s := false) hpl
    have hl25 := lanes_25 hpl
    by_cases hq : q + 1 = R
    · have ht : tk1 R (B, q) (ni L k) = (perm (mixA B q (ni L k)), 0) := by unfold tk1; exact if_pos hq
      rw [ht]
      simp only
      have hqI : ((q + 1 : Nat) : Int) = (R : Int) := by omega
      have hqd : decide (((q + 1 : Nat) : Int) = (R : Int)) = true := decide_eq_true hqI
      clear hqI hq ht hstep hB hBL ll h28
      generalize ((q + 1 : Nat) : Int) = Q1 at *
      generalize perm (mixA B q (ni L k)) = PB at *
      generalize mixA B q (ni L k) = MB at *
      generalize ni L k = Y at *
      generalize hT : (k : Int) = T at *
      simp (disch := first | assumption | omega | (simp only [List.length_cons, List.length_nil, List.length_set, List.length_append, List.length_replicate, List.length_map, List.length_range, List.length_take, List.length_drop, nums_length, bools_length, vecs_length]; first | done | omega)) [lx, hkL, ix, gx, hkn, h27, hM, g27, wq, s27, g27', g0, hqd, pt, hP, ov, s27', wk, hT]
    · have ht : tk1 R (B, q) (ni L k) = (mixA B q (ni L k), q + 1) := by unfold tk1; exact if_neg hq
      rw [ht]
      simp only
      have hqI : ¬ ((q + 1 : Nat) : Int) = (R : Int) := by omega
      clear hq ht hstep hB hBL ll h28
      generalize ((q + 1 : Nat) : Int) = Q1 at *
      generalize mixA B q (ni L k) = MB at *
      generalize ni L k = Y at *
      generalize hT : (k : Int) = T at *
      simp (disch := first | assumption | omega | (simp only [List.length_cons, List.length_nil, List.length_set, List.length_append, List.length_replicate, List.length_map, List.length_range, List.length_take, List.length_drop, nums_length, bools_length, vecs_length]; first | done | omega)) [lx, hkL, ix, gx, hkn, h27, hM, g27, wq, s27, g27', g0, hqI, wk, hT]
  · rw [List.take_length]
    generalize takeL R (A, p) L = S at *
    have lo := lent_one (spD S.1 R X S.2 false) (spD A R X p false) fx
    simp (disch := first | assumption | omega | (simp only [List.length_cons, List.length_nil, List.length_set, List.length_append, List.length_replicate, List.length_map, List.length_range, List.length_take, List.length_drop, nums_length, bools_length, vecs_length]; first | done | omega)) [lx, lo]
theorem lent_one3 (C D E : List AV) (n : Int) : lentOf [(51, E), (0, C)] 0 [.op D, .i .i64 n] = some ([C], []) := rfl
set_option maxHeartbeats 8000000 in
theorem dSqueeze {A : List Ln} (hA : A.length = 25) {R p : Nat} (hR0 : 0 < R) (hR : R ≤ 192) (hp : p < R) {X : Int} (x0 : 0 ≤ X) (x1 : X < 256) {n : Int} (n0 : 0 ≤ n) (n1 : n ≤ 1048576) :
    FF tab 122 [.op (spD A R X p false), .i .i64 n] = some ⟨.tp [.os (nums .u8 (outL R (padS R X (A, p)) n.toNat)) n.toNat 1, .i .i64 0], [spD (nextN R (padS R X (A, p)) n.toNat).1 R X (nextN R (padS R X (A, p)) n.toNat).2 true]⟩ := by
  refine call_by (A := A122) rfl rfl ?_
  have hm1 : (mixA A p X).length = 25 := by rw [mixA_len]; exact hA
  have hm2 : (mixA (mixA A p X) (R - 1) 128).length = 25 := by rw [mixA_len]; exact hm1
  have hM1 := dMix hA R X p false (j := p) (by omega) x0 x1
  have hM2 := dMix hm1 R X p false (j := R - 1) (by omega) (show (0 : Int) ≤ 128 by omega) (by omega)
  have eR : ((R - 1 : Nat) : Int) = (R : Int) - 1 := by omega
  rw [eR] at hM2
  have wR : IntKind.i64.wrap ((R : Int) - 1) = (R : Int) - 1 := i64_in _ (by omega)
  have hP := pfPermute _ hm2
  have hpl := perm_len hm2
  have hl25 := lanes_25 hpl
  obtain ⟨S, hS⟩ : ∃ S : List Ln × Nat, S = padS R X (A, p) := ⟨_, rfl⟩
  rw [← hS]
  have hS0 : S.1 = perm (mixA (mixA A p X) (R - 1) 128) ∧ S.2 = 0 := by rw [hS]; exact ⟨rfl, rfl⟩
  have hSl : S.1.length = 25 := by rw [hS0.1]; exact hpl
  have hSp : S.2 ≤ R := by rw [hS0.2]; omega
  have h28 := spD_28 (r := R) (x := X) (p := (p : Int)) (s := false) hA
  have h27 := spD_27 (r := R) (x := X) (p := (p : Int)) (s := false) hA
  have h26 := spD_1 (A := A) (r := R) (x := X) (p := (p : Int)) (s := false)
  have h25 := spD_0 (A := mixA A p X) (r := R) (x := X) (p := (p : Int)) (s := false)
  have ll := spD_len (r := R) (x := X) (p := (p : Int)) (s := false) hA
  have ll1 := spD_len (r := R) (x := X) (p := (p : Int)) (s := false) hm1
  have ll2 := spD_len (r := R) (x := X) (p := (p : Int)) (s := false) hm2
  have ll3 := spD_len (r := R) (x := X) (p := (p : Int)) (s := false) hpl
  have ll4 := spD_len (r := R) (x := X) (p := (0 : Int)) (s := false) hpl
  have pt := spD_part (r := R) (x := X) (p := (p : Int)) (s := false) hm2
  have ov := spD_over (r := R) (x := X) (p := (p : Int)) (s := false) hm2 hpl
  have st1 := spD_set27 (r := R) (x := X) (p := (p : Int)) (s := false) hpl 0
  have st2 := spD_set28 (r := R) (x := X) (p := (0 : Int)) (s := false) hpl true
  have hlt : ¬ n < 0 := by omega
  have hgt : ¬ 1048576 < n := by omega
  have hnn : ((n.toNat : Nat) : Int) = n := by omega
  have zz : zrep [AV.i .u8 0] 0 = [] := rfl
  clear hS
  generalize perm (mixA (mixA A p X) (R - 1) 128) = PB at *
  generalize mixA (mixA A p X) (R - 1) 128 = MB at *
  generalize mixA A p X = MA at *
  simp (disch := first | assumption | omega | (simp only [List.length_cons, List.length_nil, List.length_set, List.length_append, List.length_replicate, List.length_map, List.length_range, List.length_take, List.length_drop, nums_length, bools_length, vecs_length]; first | done | omega)) [A122, hlt, hgt, h28, h27, h26, h25, hM1, hM2, wR, hP, pt, ov, st1, st2, hnn, zz]
  refine w_heads n.toNat (fun k => ⟨[(7, .i .i64 k), (6, .rs 51 0 k 1), (1, .i .i64 n), (0, .rf 0 0)], [(51, nums .u8 (outL R S k)), (0, spD (nextN R S k).1 R X (nextN R S k).2 true)]⟩) (by simp (disch := first | assumption | omega | (simp only [List.length_cons, List.length_nil, List.length_set, List.length_append, List.length_replicate, List.length_map, List.length_range, List.length_take, List.length_drop, nums_length, bools_length, vecs_length]; first | done | omega)) [hnn, nextN, hS0, outL, nums_nil]) ?_ ?_
  · intro k hk
    have wk : IntKind.i64.wrap ((k : Int) + 1) = (k : Int) + 1 := i64_in _ (by omega)
    have hkn : (k : Int).toNat = k := Int.toNat_natCast _
    have hkL : (k : Int) < n := by omega
    obtain ⟨a1, a2⟩ := nextN_ok hR0 hSl hSp k
    obtain ⟨b1, b2⟩ := outS_ok hR0 a1 a2
    have hsu := outL_succ R S k
    have hol := outL_len R S k
    have hnx : nextN R S (k + 1) = ((outS R (nextN R S k)).1, (outS R (nextN R S k)).2 + 1) := rfl
    rw [hnx, hsu]
    simp only
    clear hnx hsu hS0 hM1 hM2 hP pt ov st1 st2 ll ll1 ll2 ll3 ll4 h28 h27 h26 h25 hl25 hpl hm1 hm2
    generalize outL R S k = O0 at *
    generalize nextN R S k = Z at *
    obtain ⟨B, q⟩ := Z
    simp only at a1 a2 b1 b2 ⊢
    have hqp : q = R → outS R (B, q) = (perm B, 0) := fun h => if_pos h
    have hqn : q ≠ R → outS R (B, q) = (B, q) := fun h => if_neg h
    have hP := pfPermute B a1
    have hpl := perm_len a1
    have hl25 := lanes_25 hpl
    have g0 := spD_0 (A := B) (r := R) (x := X) (p := (q : Int)) (s := true)
    have g27 := spD_27 (r := R) (x := X) (p := (q : Int)) (s := true) a1
    have l0 := spD_len (r := R) (x := X) (p := (q : Int)) (s := true) a1
    by_cases hq : q = R
    · have e := hqp hq
      rw [e] at b1 b2 ⊢
      simp only at b1 b2 ⊢
      have hqd : decide ((q : Int) = (R : Int)) = true := decide_eq_true (by omega)
      have pt := spD_part (r := R) (x := X) (p := (q : Int)) (s := true) a1
      have ov := spD_over (r := R) (x := X) (p := (q : Int)) (s := true) a1 hpl
      have l1 := spD_len (r := R) (x := X) (p := (q : Int)) (s := true) hpl
      have l2 := spD_len (r := R) (x := X) (p := (0 : Int)) (s := true) hpl
      have s27 := spD_set27 (r := R) (x := X) (p := (q : Int)) (s := true) hpl 0
      have s27' := spD_set27 (r := R) (x := X) (p := (0 : Int)) (s := true) hpl 1
      have g27' := spD_27 (r := R) (x := X) (p := (0 : Int)) (s := true) hpl
      have gl := spD_lane (r := R) (x := X) (p := (0 : Int)) (s := true) hpl (j := 0) (by omega)
      have sh := shr_u64 (nl (perm B) 0) (n := 0) (by omega)
      have hO : outB (perm B, 0) = IntKind.u8.wrap (iv (nl (perm B) 0 >>> 0)) := by simp only [outB, Nat.zero_div, Nat.zero_mod, Nat.mul_zero]
      rw [hO]
      have z1 : IntKind.i64.wrap 0 = 0 := rfl
      have z2 : IntKind.i64.wrap 1 = 1 := rfl
      have z3 : (0 : Int).tdiv 8 = 0 := rfl
      have z4 : (0 : Int).tmod 8 = 0 := rfl
      have z5 : IntKind.u64.wrap 0 = 0 := rfl
      have e01 : ((0 + 1 : Nat) : Int) = 1 := rfl
      rw [e01]
      rw [Int.natCast_zero] at sh
      rw [show 2 + 0 = 2 from rfl] at gl
      clear hqp hqn e hO
      generalize nl (perm B) 0 >>> 0 = W at *
      generalize perm B = PB at *
      generalize hT : (k : Int) = T at *
      simp (disch := first | assumption | omega | (simp only [List.length_cons, List.length_nil, List.length_set, List.length_append, List.length_replicate, List.length_map, List.length_range, List.length_take, List.length_drop, nums_length, bools_length, vecs_length]; first | done | omega)) [hkL, hkn, hol, g27, g0, hqd, pt, hP, ov, s27, g27', gl, sh, z1, z2, z3, z4, z5, nums_snoc, s27', wk, hT, -shiftV_shl, -shiftV_shr]
    · have e := hqn hq
      rw [e] at b1 b2 ⊢
      simp only at b1 b2 ⊢
      have hqd : ¬ ((q : Int) = (R : Int)) := by omega
      have q8 : q / 8 < 25 := by omega
      have gl := spD_lane (r := R) (x := X) (p := (q : Int)) (s := true) a1 q8
      have sh := shr_u64 (nl B (q / 8)) (n := 8 * (q % 8)) (by omega)
      have hO : outB (B, q) = IntKind.u8.wrap (iv (nl B (q / 8) >>> (8 * (q % 8)))) := rfl
      rw [hO]
      have z1 : (q : Int).tdiv 8 = ((q / 8 : Nat) : Int) := rfl
      have z2 : (q : Int).tmod 8 = ((q % 8 : Nat) : Int) := rfl
      have z3 : IntKind.i64.wrap ((q / 8 : Nat) : Int) = ((q / 8 : Nat) : Int) := i64_in _ (by omega)
      have z4 : IntKind.i64.wrap (((q % 8 : Nat) : Int) * 8) = ((8 * (q % 8) : Nat) : Int) := by rw [i64_in _ (by omega)]; omega
      have z5 : ((q / 8 : Nat) : Int).toNat = q / 8 := Int.toNat_natCast _
      have z6 : 0 ≤ ((q / 8 : Nat) : Int) ∧ ((q / 8 : Nat) : Int) < 25 := by omega
      have z7 := u64_i (n := 8 * (q % 8)) (by omega)
      have wq : IntKind.i64.wrap ((q : Int) + 1) = ((q + 1 : Nat) : Int) := i64_in _ (by omega)
      have s27 := spD_set27 (r := R) (x := X) (p := (q : Int)) (s := true) a1 ((q + 1 : Nat) : Int)
      clear hqp hqn e hO hP hpl hl25 hq
      generalize nl B (q / 8) >>> (8 * (q % 8)) = W at *
      generalize ((8 * (q % 8) : Nat) : Int) = E at *
      generalize ((q % 8 : Nat) : Int) = M at *
      generalize ((q / 8 : Nat) : Int) = D at *
      generalize q / 8 = J at *
      generalize ((q + 1 : Nat) : Int) = Q1 at *
      generalize hT : (k : Int) = T at *
      simp (disch := first | assumption | omega | (simp only [List.length_cons, List.length_nil, List.length_set, List.length_append, List.length_replicate, List.length_map, List.length_range, List.length_take, List.length_drop, nums_length, bools_length, vecs_length]; first | done | omega)) [hkL, hkn, hol, g27, g0, hqd, gl, sh, z1, z2, z3, z4, z5, z7, nums_snoc, s27, wq, wk, hT, -shiftV_shl, -shiftV_shr]
  · have hol := outL_len R S n.toNat
    have hnl := nums_length .u8 (outL R S n.toNat)
    have lo := fun C => lent_one3 C (spD A R X p false) (nums .u8 (outL R S n.toNat)) n
    generalize nextN R S n.toNat = S1 at *
    generalize outL R S n.toNat = F at *
    simp (disch := first | assumption | omega | (simp only [List.length_cons, List.length_nil, List.length_set, List.length_append, List.length_replicate, List.length_map, List.length_range, List.length_take, List.length_drop, nums_length, bools_length, vecs_length]; first | done | omega)) [hol, hnl, hnn, lo]
end Zab.YtjnomoefbffpoaaGreatDoorB
namespace Zab.YtjnomoefbffpoaaGreatDoorB
open Go
open Go.IntWalk (i64_in)
set_option maxRecDepth 100000
set_option linter.unusedSimpArgs false
set_option linter.unusedVariables false
attribute [-simp] getElem?_pos
def Right (p : Int) : Prop := p = 17 ∨ p = 97 ∨ p = 257 ∨ p = 3329 ∨ p = 7681 ∨ p = 12289 ∨ p = 8380417
theorem Right.lo {p : Int} (h : Right p) : 17 ≤ p := by unfold Right at h; omega
theorem Right.hi {p : Int} (h : Right p) : p ≤ 8380417 := by unfold Right at h; omega
theorem Is {p : Int} (h : Right p) : FF tab 137 [.i .i64 p] = some ⟨.b true, []⟩ := by
  refine call_by (A := A137) rfl rfl ?_
  rcases h with rfl | rfl | rfl | rfl | rfl | rfl | rfl <;> simp (disch := first | assumption | omega | (simp only [List.length_cons, List.length_nil, List.length_set, List.length_append, List.length_replicate, List.length_map, List.length_range, List.length_take, List.length_drop, nums_length, bools_length, vecs_length]; first | done | omega)) [A137]
theorem tmod_two (a : Int) {p : Int} (h : 0 < p) : (0 ≤ a.tmod p ∧ a.tmod p = a % p) ∨ (a.tmod p < 0 ∧ a.tmod p + p = a % p) := by
  have h1 := Int.emod_nonneg a (show p ≠ 0 by omega)
  have h2 := Int.emod_lt_of_pos a h
  have h3 := Int.emod_nonneg (-a) (show p ≠ 0 by omega)
  have h4 := Int.emod_lt_of_pos (-a) h
  have e : (-a) % p = if a % p = 0 then 0 else p - a % p := by
    split
    · rename_i h
      exact Int.emod_eq_zero_of_dvd (Int.dvd_neg.2 (Int.dvd_of_emod_eq_zero h))
    · rename_i hne
      have h5 : (-a) = (p - a % p) + p * (-(a / p) - 1) := by
        have := Int.mul_ediv_add_emod a p
        have e1 : p * (-(a / p) - 1) = -(p * (a / p)) - p := by rw [Int.mul_sub, Int.mul_neg]; omega
        omega
      rw [h5, Int.add_mul_emod_self_left]
      exact Int.emod_eq_of_lt (by omega) (by omega)
  rw [tmod_eq]
  by_cases ha : 0 ≤ a
  · rw [if_pos ha]; left; exact ⟨h1, rfl⟩
  · rw [if_neg ha, e]
    by_cases h0 : a % p = 0
    · rw [if_pos h0]; left; omega
    · rw [if_neg h0]; right; omega
theorem Mod (a : Int) {p : Int} (h : Right p) : FF tab 103 [.i .i64 a, .i .i64 p] = some ⟨.i .i64 (a % p), []⟩ := by
  refine call_by (A := A103) rfl rfl ?_
  have lo := h.lo
  have hi := h.hi
  have h0 : p ≠ 0 := by omega
  have h1 := Int.emod_nonneg a h0
  have h2 := Int.emod_lt_of_pos a (show 0 < p by omega)
  rcases tmod_two a (show 0 < p by omega) with ⟨g1, g2⟩ | ⟨g1, g2⟩
  · simp (disch := first | assumption | omega | (simp only [List.length_cons, List.length_nil, List.length_set, List.length_append, List.length_replicate, List.length_map, List.length_range, List.length_take, List.length_drop, nums_length, bools_length, vecs_length]; first | done | omega)) [A103, Is h, h0, g2, i64_in]
  · have w : IntKind.i64.wrap (a.tmod p) = a.tmod p := i64_in _ (by omega)
    have w2 : IntKind.i64.wrap (a % p) = a % p := i64_in _ (by omega)
    simp (disch := first | assumption | omega | (simp only [List.length_cons, List.length_nil, List.length_set, List.length_append, List.length_replicate, List.length_map, List.length_range, List.length_take, List.length_drop, nums_length, bools_length, vecs_length]; first | done | omega)) [A103, Is h, h0, w, g2, w2]
theorem prod_bound {x y p : Int} (h : Right p) (x0 : 0 ≤ x) (x1 : x < p) (y0 : 0 ≤ y) (y1 : y < p) : 0 ≤ x * y ∧ x * y ≤ 70231389093889 := by
  have hi := h.hi
  have h1 : x * y ≤ 8380417 * 8380417 := Int.mul_le_mul (by omega) (by omega) y0 (by omega)
  exact ⟨Int.mul_nonneg x0 y0, by omega⟩
theorem Mul (a b : Int) {p : Int} (h : Right p) : FF tab 108 [.i .i64 a, .i .i64 b, .i .i64 p] = some ⟨.i .i64 (a * b % p), []⟩ := by
  refine call_by (A := A108) rfl rfl ?_
  have lo := h.lo
  have hb := prod_bound h (Int.emod_nonneg a (by omega)) (Int.emod_lt_of_pos a (by omega)) (Int.emod_nonneg b (by omega)) (Int.emod_lt_of_pos b (by omega))
  have e1 : IntKind.i64.wrap (a % p * (b % p)) = a % p * (b % p) := i64_in _ (by omega)
  have e2 : a % p * (b % p) % p = a * b % p := (Int.mul_emod a b p).symm
  have hM := Mod (a % p * (b % p)) h
  rw [e2] at hM
  simp (disch := first | assumption | omega | (simp only [List.length_cons, List.length_nil, List.length_set, List.length_append, List.length_replicate, List.length_map, List.length_range, List.length_take, List.length_drop, nums_length, bools_length, vecs_length]; first | done | omega)) [A108, Mod _ h, e1]
  exact e2
theorem Add (a b : Int) {p : Int} (h : Right p) : FF tab 109 [.i .i64 a, .i .i64 b, .i .i64 p] = some ⟨.i .i64 ((a + b) % p), []⟩ := by
  refine call_by (A := A109) rfl rfl ?_
  have lo := h.lo
  have hi := h.hi
  have a0 := Int.emod_nonneg a (show p ≠ 0 by omega)
  have a1 := Int.emod_lt_of_pos a (show 0 < p by omega)
  have b0 := Int.emod_nonneg b (show p ≠ 0 by omega)
  have b1 := Int.emod_lt_of_pos b (show 0 < p by omega)
  have e1 : IntKind.i64.wrap (a % p + b % p) = a % p + b % p := i64_in _ (by omega)
  have hM := Mod (a % p + b % p) h
  rw [← Int.add_emod] at hM
  simp (disch := first | assumption | omega | (simp only [List.length_cons, List.length_nil, List.length_set, List.length_append, List.length_replicate, List.length_map, List.length_range, List.length_take, List.length_drop, nums_length, bools_length, vecs_length]; first | done | omega)) [A109, Mod _ h, e1, hM]
theorem Sub (a b : Int) {p : Int} (h : Right p) : FF tab 110 [.i .i64 a, .i .i64 b, .i .i64 p] = some ⟨.i .i64 ((a - b) % p), []⟩ := by
  refine call_by (A := A110) rfl rfl ?_
  have lo := h.lo
  have hi := h.hi
  have a0 := Int.emod_nonneg a (show p ≠ 0 by omega)
  have a1 := Int.emod_lt_of_pos a (show 0 < p by omega)
  have b0 := Int.emod_nonneg b (show p ≠ 0 by omega)
  have b1 := Int.emod_lt_of_pos b (show 0 < p by omega)
  have e1 : IntKind.i64.wrap (a % p - b % p) = a % p - b % p := i64_in _ (by omega)
  have hM := Mod (a % p - b % p) h
  rw [← Int.sub_emod] at hM
  simp (disch := first | assumption | omega | (simp only [List.length_cons, List.length_nil, List.length_set, List.length_append, List.length_replicate, List.length_map, List.length_range, List.length_take, List.length_drop, nums_length, bools_length, vecs_length]; first | done | omega)) [A110, Mod _ h, e1, hM]
theorem pow_mod (a p : Int) : ∀ n : Nat, (a % p) ^ n % p = a ^ n % p
  | 0 => by simp
  | n + 1 => by
    rw [Int.pow_succ, Int.pow_succ, Int.mul_emod, pow_mod a p n, Int.emod_emod, ← Int.mul_emod]
theorem sq_pow (x : Int) : ∀ n : Nat, (x * x) ^ n = x ^ (2 * n)
  | 0 => by simp
  | n + 1 => by
    rw [Int.pow_succ, sq_pow x n, show 2 * (n + 1) = 2 * n + 1 + 1 by omega, Int.pow_succ, Int.pow_succ, Int.mul_assoc]
theorem odd_round (x out p : Int) (n : Nat) (h : n % 2 = 1) : (out * x % p) * (x * x % p) ^ (n / 2) % p = out * x ^ n % p := by
  rw [Int.mul_emod, pow_mod, Int.emod_emod, ← Int.mul_emod, sq_pow]
  have e : n = 2 * (n / 2) + 1 := by omega
  conv => rhs; rw [e, Int.pow_succ]
  congr 1
  rw [Int.mul_assoc, Int.mul_comm x]
theorem even_round (x out p : Int) (n : Nat) (h : n % 2 = 0) : out * (x * x % p) ^ (n / 2) % p = out * x ^ n % p := by
  rw [Int.mul_emod, pow_mod, ← Int.mul_emod, sq_pow]
  have e : n = 2 * (n / 2) := by omega
  conv => rhs; rw [e]
theorem Pow (a : Int) {e p : Int} (h : Right p) (he : 0 ≤ e) (he2 : e ≤ 9223372036854775807) : FF tab 116 [.i .i64 a, .i .i64 e, .i .i64 p] = some ⟨.i .i64 (a ^ e.toNat % p), []⟩ := by
  refine call_by (A := A116) rfl rfl ?_
  have lo := h.lo
  have hn : ¬ e < 0 := by omega
  simp (disch := first | assumption | omega | (simp only [List.length_cons, List.length_nil, List.length_set, List.length_append, List.length_replicate, List.length_map, List.length_range, List.length_take, List.length_drop, nums_length, bools_length, vecs_length]; first | done | omega)) [A116, Is h, hn, Mod _ h]
  refine w_rounds (I := fun m S => ∃ x out f : Int, S.clean [8, 7, 2, 1] [] = ⟨[(8, .i .i64 x), (7, .i .i64 out), (2, .i .i64 p), (1, .i .i64 f)], []⟩ ∧ 0 ≤ f ∧ f ≤ 9223372036854775807 ∧ m = f.toNat ∧
    0 ≤ out ∧ out < p ∧ (out * x ^ f.toNat) % p = a ^ e.toNat % p) (m := e.toNat) ?_ ?_
  · rintro m S ⟨x, out, f, hS, f0, f1, rfl, o0, o1, hx⟩
    rw [hS]
    have q1 : f.tmod 2 = f % 2 := Int.tmod_eq_emod_of_nonneg f0
    have q2 : f.tdiv 2 = f / 2 := Int.tdiv_eq_ediv_of_nonneg f0
    have q3 : IntKind.i64.wrap (f / 2) = f / 2 := i64_in _ (by omega)
    have q4 : (f / 2).toNat = f.toNat / 2 := by omega
    have m1 := Mul out x h
    have m2 := Mul x x h
    by_cases hf : 0 < f
    · by_cases hb : f % 2 = 1
      · simp (disch := first | assumption | omega | (simp only [List.length_cons, List.length_nil, List.length_set, List.length_append, List.length_replicate, List.length_map, List.length_range, List.length_take, List.length_drop, nums_length, bools_length, vecs_length]; first | done | omega)) [hf, hb, q1, q2, q3, m1, m2]
        refine ⟨(f / 2).toNat, by omega, _, _, _, ⟨rfl, rfl, rfl⟩, by omega, by omega, rfl, Int.emod_nonneg _ (by omega), Int.emod_lt_of_pos _ (by omega), ?_⟩
        rw [q4, odd_round _ _ _ _ (by omega), hx]
      · simp (disch := first | assumption | omega | (simp only [List.length_cons, List.length_nil, List.length_set, List.length_append, List.length_replicate, List.length_map, List.length_range, List.length_take, List.length_drop, nums_length, bools_length, vecs_length]; first | done | omega)) [hf, hb, q1, q2, q3, m1, m2]
        refine ⟨(f / 2).toNat, by omega, _, _, _, ⟨rfl, rfl, rfl⟩, by omega, by omega, rfl, o0, o1, ?_⟩
        rw [q4, even_round _ _ _ _ (by omega), hx]
    · simp (disch := first | assumption | omega | (simp only [List.length_cons, List.length_nil, List.length_set, List.length_append, List.length_replicate, List.length_map, List.length_range, List.length_take, List.length_drop, nums_length, bools_length, vecs_length]; first | done | omega)) [hf]
      have : f = 0 := by omega
      subst this
      rw [← hx]
      simp only [Int.toNat_zero, Int.pow_zero, Int.mul_one]
      exact (Int.emod_eq_of_lt o0 o1).symm
  · refine ⟨a % p, 1, e, ?_, he, he2, rfl, by omega, by omega, ?_⟩
    · simp []
    · rw [Int.one_mul, pow_mod]
end Zab.YtjnomoefbffpoaaGreatDoorB
namespace Zab.YtjnomoefbffpoaaGreatDoorB
open Go
open Go.IntWalk (i64_in)
set_option maxRecDepth 100000
set_option linter.unusedSimpArgs false
set_option linter.unusedVariables false
attribute [-simp] getElem?_pos
end Zab.YtjnomoefbffpoaaGreatDoorB
namespace Zab.YtjnomoefbffpoaaGreatDoorB
open Go
open Go.IntWalk (i64_in)
set_option maxRecDepth 100000
set_option linter.unusedSimpArgs false
set_option linter.unusedVariables false
attribute [-simp] getElem?_pos
attribute [local simp] sees_nil sees_rf sees_i sees_sl sees_z sees_rs sees_fl
end Zab.YtjnomoefbffpoaaGreatDoorB
namespace Zab.YtjnomoefbffpoaaGreatDoorB
open Go
open Go.IntWalk (i64_in)
set_option maxRecDepth 100000
set_option linter.unusedSimpArgs false
set_option linter.unusedVariables false
attribute [-simp] getElem?_pos
def errV : Nat → AV
  | 101 => .er 1
  | 102 => .er 2
  | 103 => .er 3
  | 104 => .er 0
  | 105 => .er 4
  | 106 => .er 5
  | 107 => .er 6
  | 108 => .er 7
  | _ => .nl
theorem errV_flat (c : Nat) : (errV c).flat = true := by unfold errV; split <;> rfl
def Code (c : Nat) : Prop := c = 0 ∨ c = 101 ∨ c = 102 ∨ c = 103 ∨ c = 104 ∨ c = 105 ∨ c = 106 ∨ c = 107 ∨ c = 108
theorem errV_ne {c : Nat} (h : Code c) : binV .ifaceC .neq (errV c) .nl = some (.b (!decide (c = 0))) := by
  rcases h with rfl | rfl | rfl | rfl | rfl | rfl | rfl | rfl | rfl <;> rfl
def Deg (n : Int) : Prop := n = 4 ∨ n = 8 ∨ n = 16 ∨ n = 32 ∨ n = 64 ∨ n = 128 ∨ n = 256
theorem Deg.lo {n : Int} (h : Deg n) : 4 ≤ n := by unfold Deg at h; omega
theorem Deg.hi {n : Int} (h : Deg n) : n ≤ 256 := by unfold Deg at h; omega
instance (n : Int) : Decidable (Deg n) := by unfold Deg; infer_instance
instance (p : Int) : Decidable (Right p) := by unfold Right; infer_instance
theorem IsNot {p : Int} (h : ¬ Right p) : FF tab 137 [.i .i64 p] = some ⟨.b false, []⟩ := by
  refine call_by (A := A137) rfl rfl ?_
  unfold Right at h
  have h1 : ¬ p = 17 := by omega
  have h2 : ¬ p = 97 := by omega
  have h3 : ¬ p = 257 := by omega
  have h4 : ¬ p = 3329 := by omega
  have h5 : ¬ p = 7681 := by omega
  have h6 : ¬ p = 12289 := by omega
  have h7 : ¬ p = 8380417 := by omega
  simp [A137, h1, h2, h3, h4, h5, h6, h7, ↓W_loop, ↓W_seq, ↓W_skip, ↓W_ret, ↓W_exit, ↓W_reg, ↓W_cond, ↓W_block, ↓W_pre, ↓cleanO_some, ↓freezes_nil, ↓freezes_cons, ↓frzO_some, ↓andThen_normal, ↓andThen_ret, ↓andThen_exit, ↓unblock_normal, ↓unblock_ret, ↓unblock_exit, ↓Ends_normal, ↓Ends_ret, ↓steps_nil, ↓steps_cons, ↓step_some, ↓st_move, ↓st_pick, ↓st_bin, ↓st_un, ↓st_conv, ↓st_addr, ↓st_ixA, ↓st_ixS, ↓st_fld, ↓st_ixV, ↓st_ixStr, ↓st_ext, ↓st_build, ↓st_bsl, ↓st_mkS, ↓st_mkfn, ↓st_len, ↓st_mn, ↓st_mx, ↓st_nilChk, ↓st_tas, ↓st_slc, ↓st_load, ↓st_call, ↓st_store, ↓st_box, ↓st_alloc, ↓st_mkR, ↓st_bslR, ↓st_nilR, ↓st_app, ↓st_callK, ↓stepsAt_some, ↓onSome_some, ↓onB_true, ↓onB_false, ↓onG_tt, ↓onG_tf, ↓onG_ft, ↓onG_ff, ↓onG_un, ↓optPut_some, ↓optMem_some, enterS, enterL, evalO, evalL, constAV, get_cons, get_nil, put_cons, put_nil, look_cons, look_nil, putD_some, clean_mk, freeze_mk, mapS, AV.mapR, frz1, del_cons, del_nil, kill1, keepS_cons, keepS_nil, keepL_cons, keepL_nil, memb_cons, memb_nil, binV, intV, unV, eqlV, pureV, readV, writeV, stepK, convV_i, addrV, toArgs, toArg, anyRs, isRs, hasSl, hasSl2, hasSl1, hasSl2L, fromRet, fromRetL, fromRet1, finR, resL, resV, toRets, toRet, lentOf, one, Nat.beq, Nat.blt, Nat.ble, shiftV_shr, shiftV_shl, IntKind.bits, fillV, partV, cellsOf, AV.flat, zrep, List.getElem?_cons_zero, List.getElem?_cons_succ, List.length_cons, List.length_nil, List.set_cons_zero, List.set_cons_succ, stepsAt_some, onSome_some, onB_true, onB_false, onG_tt, onG_tf, onG_ft, onG_ff, onG_un, optPut_some, optMem_some]
def valid (q n : Int) : Nat := if Right q ∧ Deg n then 0 else 101
set_option maxHeartbeats 2000000 in
theorem rValid (q n : Int) : FF tab 138 [(.ag [.i .i64 (q), .i .i64 (n)])] = some ⟨errV (valid q n), []⟩ := by
  refine call_by (A := A138) rfl rfl ?_
  by_cases hq : Right q
  · have hI := Is hq
    by_cases hn : Deg n
    · rw [show valid q n = 0 from if_pos ⟨hq, hn⟩]
      rcases hn with rfl | rfl | rfl | rfl | rfl | rfl | rfl <;> simp (disch := first | assumption | omega | (simp only [List.length_cons, List.length_nil, List.length_set, List.length_append, List.length_replicate, List.length_map, List.length_range, List.length_take, List.length_drop, nums_length, bools_length, vecs_length]; first | done | omega)) [A138, hI, errV]
    · rw [show valid q n = 101 from if_neg (fun h => hn h.2)]
      unfold Deg at hn
      have h1 : ¬ n = 4 := by omega
      have h2 : ¬ n = 8 := by omega
      have h3 : ¬ n = 16 := by omega
      have h4 : ¬ n = 32 := by omega
      have h5 : ¬ n = 64 := by omega
      have h6 : ¬ n = 128 := by omega
      have h7 : ¬ n = 256 := by omega
      simp (disch := first | assumption | omega | (simp only [List.length_cons, List.length_nil, List.length_set, List.length_append, List.length_replicate, List.length_map, List.length_range, List.length_take, List.length_drop, nums_length, bools_length, vecs_length]; first | done | omega)) [A138, h1, h2, h3, h4, h5, h6, h7, errV]
  · have hI := IsNot hq
    rw [show valid q n = 101 from if_neg (fun h => hq h.1)]
    by_cases hn : Deg n
    · rcases hn with rfl | rfl | rfl | rfl | rfl | rfl | rfl <;> simp (disch := first | assumption | omega | (simp only [List.length_cons, List.length_nil, List.length_set, List.length_append, List.length_replicate, List.length_map, List.length_range, List.length_take, List.length_drop, nums_length, bools_length, vecs_length]; first | done | omega)) [A138, hI, errV]
    · unfold Deg at hn
      have h1 : ¬ n = 4 := by omega
      have h2 : ¬ n = 8 := by omega
      have h3 : ¬ n = 16 := by omega
      have h4 : ¬ n = 32 := by omega
      have h5 : ¬ n = 64 := by omega
      have h6 : ¬ n = 128 := by omega
      have h7 : ¬ n = 256 := by omega
      simp (disch := first | assumption | omega | (simp only [List.length_cons, List.length_nil, List.length_set, List.length_append, List.length_replicate, List.length_map, List.length_range, List.length_take, List.length_drop, nums_length, bools_length, vecs_length]; first | done | omega)) [A138, h1, h2, h3, h4, h5, h6, h7, errV]
def Mods (q : Int) (L : List Int) : Prop := ∀ x ∈ L, 0 ≤ x ∧ x < q
instance (q : Int) (L : List Int) : Decidable (Mods q L) := by unfold Mods; infer_instance
def vecBad (q n : Int) (L : List Int) : Nat := if valid q n ≠ 0 then 101 else if (L.length : Int) ≠ n then 102 else if Mods q L then 0 else 101
theorem vecBad_code (q n : Int) (L : List Int) : Code (vecBad q n L) := by unfold vecBad Code; split <;> (try split) <;> (try split) <;> simp
theorem vecBad_zero {q n : Int} {L : List Int} : vecBad q n L = 0 ↔ Right q ∧ Deg n ∧ (L.length : Int) = n ∧ Mods q L := by
  unfold vecBad valid
  by_cases h1 : Right q ∧ Deg n
  · by_cases h2 : (L.length : Int) = n
    · by_cases h3 : Mods q L
      · simp [h1, h2, h3]
      · simp [h1, h2, h3]
    · simp [h1, h2]
  · simp [h1]
    intro a b
    exact absurd ⟨a, b⟩ h1
theorem mods_step {q : Int} {L : List Int} (h : ∀ j, j < L.length → 0 ≤ ni L j ∧ ni L j < q) : Mods q L := by
  intro x hx
  obtain ⟨j, hj, rfl⟩ := List.mem_iff_getElem.1 hx
  have := h j hj
  rwa [ni_get hj] at this
theorem mods_at {q : Int} {L : List Int} (h : Mods q L) {j : Nat} (hj : j < L.length) : 0 ≤ ni L j ∧ ni L j < q := by
  rw [ni_get hj]
  exact h _ (List.getElem_mem hj)
set_option maxHeartbeats 1000000 in
theorem rVector (q n : Int) {x : AV} {L : List Int} (hx : IsL .i64 x L) (hL : L.length < 9223372036854775807) : FF tab 105 [(.ag [.i .i64 (q), .i .i64 (n)]), x] = some ⟨errV (vecBad q n L), []⟩ := by
  refine call_by (A := A105) rfl rfl ?_
  have fx := hx.flat
  have hV := rValid q n
  have hlen := lenV_isL hx
  by_cases hv : valid q n = 0
  · rw [hv] at hV
    rw [show errV 0 = .nl from rfl] at hV
    by_cases hn : (L.length : Int) = n
    · have hb : vecBad q n L = if Mods q L then 0 else 101 := by simp [vecBad, hv, hn]
      simp (disch := first | assumption | omega | (simp only [List.length_cons, List.length_nil, List.length_set, List.length_append, List.length_replicate, List.length_map, List.length_range, List.length_take, List.length_drop, nums_length, bools_length, vecs_length]; first | done | omega)) [A105, hV, hlen, hn]
      refine w_headsP L.length (fun k => ⟨[(21, .i .i64 k), (20, .i .i64 n), (19, x), (2, .rf 2 0)], [(2, [.i .i64 q, .i .i64 n])]⟩) (fun k => ∀ j, j < k → 0 ≤ ni L j ∧ ni L j < q) (by simp (disch := first | assumption | omega | (simp only [List.length_cons, List.length_nil, List.length_set, List.length_append, List.length_replicate, List.length_map, List.length_range, List.length_take, List.length_drop, nums_length, bools_length, vecs_length]; first | done | omega)) []) (fun j h => by omega) ?_ ?_
      · intro k hk hp
        have w1 : IntKind.i64.wrap ((k : Int) + 1) = (k : Int) + 1 := i64_in _ (by omega)
        have hkn : (k : Int).toNat = k := Int.toNat_natCast _
        have hix := ixSV_isL hx (k' := .i64) (j := (k : Int)) (by omega) (by omega)
        rw [hkn] at hix
        have hget := nums_get (k := .i64) hk
        have hlt : (k : Int) < n := by omega
        generalize hT : (k : Int) = T at *
        by_cases h1 : ni L k < 0
        · have hm : ¬ Mods q L := fun h => by have := mods_at h hk; omega
          rw [hb, if_neg hm]
          simp (disch := first | assumption | omega | (simp only [List.length_cons, List.length_nil, List.length_set, List.length_append, List.length_replicate, List.length_map, List.length_range, List.length_take, List.length_drop, nums_length, bools_length, vecs_length]; first | done | omega)) [hix, hget, errV]
        · by_cases h2 : q ≤ ni L k
          · have hm : ¬ Mods q L := fun h => by have := mods_at h hk; omega
            rw [hb, if_neg hm]
            simp (disch := first | assumption | omega | (simp only [List.length_cons, List.length_nil, List.length_set, List.length_append, List.length_replicate, List.length_map, List.length_range, List.length_take, List.length_drop, nums_length, bools_length, vecs_length]; first | done | omega)) [hix, hget, errV]
          · simp (disch := first | assumption | omega | (simp only [List.length_cons, List.length_nil, List.length_set, List.length_append, List.length_replicate, List.length_map, List.length_range, List.length_take, List.length_drop, nums_length, bools_length, vecs_length]; first | done | omega)) [hix, hget, w1, hT]
            intro j hj
            by_cases e : j = k
            · subst e; omega
            · exact hp j (by omega)
      · intro hp
        rw [hb, if_pos (mods_step hp), ← hn]
        simp (disch := first | assumption | omega | (simp only [List.length_cons, List.length_nil, List.length_set, List.length_append, List.length_replicate, List.length_map, List.length_range, List.length_take, List.length_drop, nums_length, bools_length, vecs_length]; first | done | omega)) [errV]
    · have hb : vecBad q n L = 102 := by simp [vecBad, hv, hn]
      rw [hb]
      simp (disch := first | assumption | omega | (simp only [List.length_cons, List.length_nil, List.length_set, List.length_append, List.length_replicate, List.length_map, List.length_range, List.length_take, List.length_drop, nums_length, bools_length, vecs_length]; first | done | omega)) [A105, hV, hlen, hn, errV]
  · have hb : vecBad q n L = 101 := by simp [vecBad, hv]
    have hv' : valid q n = 101 := by unfold valid at hv ⊢; split at hv <;> simp_all
    rw [hv'] at hV
    rw [hb]
    rw [show errV 101 = .er 1 from rfl] at hV ⊢
    simp (disch := first | assumption | omega | (simp only [List.length_cons, List.length_nil, List.length_set, List.length_append, List.length_replicate, List.length_map, List.length_range, List.length_take, List.length_drop, nums_length, bools_length, vecs_length]; first | done | omega)) [A105, hV]
end Zab.YtjnomoefbffpoaaGreatDoorB
namespace Zab.YtjnomoefbffpoaaGreatDoorB
open Go
set_option maxRecDepth 100000
set_option linter.unusedSimpArgs false
set_option linter.unusedVariables false
attribute [-simp] getElem?_pos
theorem Fault {c : Nat} (h : Code c) : FF tab 89 [errV c] = some ⟨.ag [.i .i64 c, .b false, .i .i64 0], []⟩ := by
  rcases h with rfl | rfl | rfl | rfl | rfl | rfl | rfl | rfl | rfl
  · exact FF_of (n := 60) (by kernel_rfl)
  · exact FF_of (n := 60) (by kernel_rfl)
  · exact FF_of (n := 60) (by kernel_rfl)
  · exact FF_of (n := 60) (by kernel_rfl)
  · exact FF_of (n := 60) (by kernel_rfl)
  · exact FF_of (n := 60) (by kernel_rfl)
  · exact FF_of (n := 60) (by kernel_rfl)
  · exact FF_of (n := 60) (by kernel_rfl)
  · exact FF_of (n := 60) (by kernel_rfl)
theorem Bare (d : Int) : FF tab 52 [.i .i64 d] = some ⟨.ag [.i .i64 d, .b false, .i .i64 0], []⟩ := by
  refine call_by (A := A52) rfl rfl ?_
  have hs : ∀ cs vs : List AV, cs.length = 3 → vs.length = 3 → setR (some cs) 0 3 (some vs) = some vs := fun _ _ h1 h2 => setR_all h1 h2
  simp (disch := first | assumption | omega | (simp only [List.length_cons, List.length_nil, List.length_set, List.length_append, List.length_replicate, List.length_map, List.length_range, List.length_take, List.length_drop, nums_length, bools_length, vecs_length]; first | done | omega)) [A52, hs]
theorem SameFault (c d : Int) : FF tab 88 [.ag [.i .i64 c, .b false, .i .i64 0], .ag [.i .i64 d, .b false, .i .i64 0]] = some ⟨.b (decide (c = d)), []⟩ := by
  refine call_by (A := A88) rfl rfl ?_
  by_cases h : c = d
  · simp (disch := first | assumption | omega | (simp only [List.length_cons, List.length_nil, List.length_set, List.length_append, List.length_replicate, List.length_map, List.length_range, List.length_take, List.length_drop, nums_length, bools_length, vecs_length]; first | done | omega)) [A88, h]
  · simp (disch := first | assumption | omega | (simp only [List.length_cons, List.length_nil, List.length_set, List.length_append, List.length_replicate, List.length_map, List.length_range, List.length_take, List.length_drop, nums_length, bools_length, vecs_length]; first | done | omega)) [A88, h]
theorem SeeIs {c : Nat} (h : Code c) (d : Int) : FF tab 15 [errV c, .i .i64 d] = some ⟨.b (decide ((c : Int) = d)), []⟩ := by
  have fe := errV_flat c
  have hF := Fault h
  have hB := Bare d
  have hS := SameFault (c : Int) d
  have h2 : FF tab 51 [errV c, .ag [.i .i64 d, .b false, .i .i64 0]] = some ⟨.b (decide ((c : Int) = d)), []⟩ := by
    refine call_by (A := A51) rfl rfl ?_
    simp (disch := first | assumption | omega | (simp only [List.length_cons, List.length_nil, List.length_set, List.length_append, List.length_replicate, List.length_map, List.length_range, List.length_take, List.length_drop, nums_length, bools_length, vecs_length]; first | done | omega)) [A51, hF, hS]
  refine call_by (A := A15) rfl rfl ?_
  simp (disch := first | assumption | omega | (simp only [List.length_cons, List.length_nil, List.length_set, List.length_append, List.length_replicate, List.length_map, List.length_range, List.length_take, List.length_drop, nums_length, bools_length, vecs_length]; first | done | omega)) [A15, hB, h2]
end Zab.YtjnomoefbffpoaaGreatDoorB
namespace Zab.YtjnomoefbffpoaaGreatDoorB
open Go
open Go.IntWalk (i64_in)
set_option maxRecDepth 100000
set_option linter.unusedSimpArgs false
set_option linter.unusedVariables false
attribute [-simp] getElem?_pos
attribute [local simp] sees_nil sees_rf sees_i sees_sl sees_z sees_rs sees_fl
structure IsV (x : AV) (xs : List AV) (Ls : List (List Int)) : Prop where
  ex : x = .sl xs xs.length ∨ (x = .z ∧ xs = [])
  ls : IsLs .u8 xs Ls
section
variable {x : AV} {xs : List AV} {Ls : List (List Int)}
theorem IsV.flat (h : IsV x xs Ls) : x.flat = true := by rcases h.ex with rfl | ⟨rfl, _⟩ <;> rfl
theorem IsV.len (h : IsV x xs Ls) : lenV x = some (.i .i64 xs.length) := by rcases h.ex with rfl | ⟨rfl, rfl⟩ <;> rfl
theorem IsV.ix (h : IsV x xs Ls) {k : Nat} (hk : k < xs.length) : ixSV 1 x (.i .i64 (k : Int)) = some (.el xs k) := by
  rcases h.ex with rfl | ⟨rfl, rfl⟩
  · have b1 : Nat.blt k xs.length = true := by simpa using hk
    simp [ixSV, b1, hk]
  · simp at hk
end
theorem sBad {A : List Ln} (R : Int) (p : Nat) (X : Int) (s : Bool) {n : Int} (hn : n < 0 ∨ 1048576 < n) :
    FF tab 119 [.op (spC A R X p s), .i .i64 n] = some ⟨.tp [.z, .er 1], [spC A R X p s]⟩ := by
  refine call_by (A := A119) rfl rfl ?_
  have lo : lentOf [(0, spC A R X p s)] 0 [.op (spC A R X p s), .i .i64 n] = some ([spC A R X p s], []) := rfl
  by_cases h0 : n < 0
  · simp (disch := first | assumption | omega | (simp only [List.length_cons, List.length_nil, List.length_set, List.length_append, List.length_replicate, List.length_map, List.length_range, List.length_take, List.length_drop, nums_length, bools_length, vecs_length]; first | done | omega)) [A119, h0, lo]
  · have h1 : 1048576 < n := by omega
    simp (disch := first | assumption | omega | (simp only [List.length_cons, List.length_nil, List.length_set, List.length_append, List.length_replicate, List.length_map, List.length_range, List.length_take, List.length_drop, nums_length, bools_length, vecs_length]; first | done | omega)) [A119, h0, h1, lo]
set_option maxHeartbeats 4000000 in
theorem sAllV {R : Nat} (hR0 : 0 < R) (hR : R ≤ 192) {X : Int} (x0 : 0 ≤ X) (x1 : X < 256) (n : Int) {x : AV} {xs : List AV} {Ls : List (List Int)} (hv : IsV x xs Ls) (hB : ∀ L ∈ Ls, Bys L) (hm : xs.length < 9223372036854775807) :
    FF tab 81 [.i .i64 R, .i .u8 X, .i .i64 n, x] = some ⟨if n < 0 ∨ 1048576 < n then .tp [.z, .er 1] else .tp [.sl (nums .u8 (outL R (padS R X (takeL R (zL 25, 0) Ls.flatten)) n.toNat)) n.toNat, .nl], []⟩ := by
  refine call_by (A := A81) rfl rfl ?_
  have hx := hv.ls
  have fv := hv.flat
  have lv := hv.len
  have hZ : (zL 25).length = 25 := zL_len 25
  simp (disch := first | assumption | omega | (simp only [List.length_cons, List.length_nil, List.length_set, List.length_append, List.length_replicate, List.length_map, List.length_range, List.length_take, List.length_drop, nums_length, bools_length, vecs_length]; first | done | omega)) [A81, lv]
  refine w_heads xs.length (fun k => ⟨[(19, .i .i64 k), (18, .i .i64 xs.length), (17, x), (10, .rf 16 0), (2, .i .i64 n)], [(16, spC (takeL R (zL 25, 0) (Ls.take k).flatten).1 R X (takeL R (zL 25, 0) (Ls.take k).flatten).2 false)]⟩) (by simp (disch := first | assumption | omega | (simp only [List.length_cons, List.length_nil, List.length_set, List.length_append, List.length_replicate, List.length_map, List.length_range, List.length_take, List.length_drop, nums_length, bools_length, vecs_length]; first | done | omega)) [← spC_new, takeL_nil]) ?_ ?_
  · intro k hk
    have hkL : k < Ls.length := by rw [← hx.1]; exact hk
    have hl := hx.2 k hk hkL
    have hix := hv.ix hk
    have hget : xs[k]? = some xs[k] := List.getElem?_eq_getElem hk
    have w1 : IntKind.i64.wrap ((k : Int) + 1) = (k : Int) + 1 := i64_in _ (by omega)
    have hlt : (k : Int) < (xs.length : Int) := by omega
    have fx := hl.flat
    obtain ⟨a1, a2⟩ := takeL_ok (R := R) (Ls.take k).flatten (S := (zL 25, 0)) hZ hR0
    have hs : takeL R (zL 25, 0) (Ls.take (k + 1)).flatten = takeL R (takeL R (zL 25, 0) (Ls.take k).flatten) Ls[k] := by
      rw [List.take_succ_eq_append_getElem hkL, List.flatten_append, takeL_app]; simp
    rw [hs]
    generalize takeL R (zL 25, 0) (Ls.take k).flatten = S at *
    obtain ⟨B, q⟩ := S
    simp only at a1 a2 ⊢
    have hT := sTake a1 hR a2 X false hl (hB _ (List.getElem_mem hkL)).byte (hB _ (List.getElem_mem hkL)).short
    have ll := spC_len (r := R) (x := X) (p := (q : Int)) (s := false) a1
    generalize takeL R (B, q) Ls[k] = S1 at *
    generalize xs[k] = x at *
    clear hs hl hx hv
    generalize hT' : (k : Int) = T at *
    simp (disch := first | assumption | omega | (simp only [List.length_cons, List.length_nil, List.length_set, List.length_append, List.length_replicate, List.length_map, List.length_range, List.length_take, List.length_drop, nums_length, bools_length, vecs_length]; first | done | omega)) [hix, hget, hT, w1, hT']
  · have e : Ls.take xs.length = Ls := by rw [hx.1]; exact List.take_length
    rw [e]
    obtain ⟨a1, a2⟩ := takeL_ok (R := R) Ls.flatten (S := (zL 25, 0)) hZ hR0
    generalize takeL R (zL 25, 0) Ls.flatten = S at *
    obtain ⟨B, q⟩ := S
    simp only at a1 a2 ⊢
    by_cases hn : n < 0 ∨ 1048576 < n
    · rw [if_pos hn]
      have hQ := sBad (A := B) R q X false hn
      clear hn
      simp (disch := first | assumption | omega | (simp only [List.length_cons, List.length_nil, List.length_set, List.length_append, List.length_replicate, List.length_map, List.length_range, List.length_take, List.length_drop, nums_length, bools_length, vecs_length]; first | done | omega)) [hQ]
    · rw [if_neg hn]
      have hQ := sSqueeze a1 hR0 hR a2 x0 x1 (n := n) (by omega) (by omega)
      have hnl := nums_length .u8 (outL R (padS R X (B, q)) n.toNat)
      generalize outL R (padS R X (B, q)) n.toNat = O at *
      generalize nextN R (padS R X (B, q)) n.toNat = N1 at *
      simp (disch := first | assumption | omega | (simp only [List.length_cons, List.length_nil, List.length_set, List.length_append, List.length_replicate, List.length_map, List.length_range, List.length_take, List.length_drop, nums_length, bools_length, vecs_length]; first | done | omega)) [hQ]
theorem dNew (R X : Int) : FF tab 120 [.i .i64 R, .i .u8 X] = some ⟨.op (spD (zL 25) R X 0 false), []⟩ := by
  rw [← spD_new]
  refine call_by (A := A120) rfl rfl ?_
  simp (disch := first | assumption | omega | (simp only [List.length_cons, List.length_nil, List.length_set, List.length_append, List.length_replicate, List.length_map, List.length_range, List.length_take, List.length_drop, nums_length, bools_length, vecs_length]; first | done | omega)) [A120]
set_option maxHeartbeats 4000000 in
theorem dSome {R : Nat} (hR0 : 0 < R) (hR : R ≤ 192) {X : Int} (x0 : 0 ≤ X) (x1 : X < 256) {n : Int} (n0 : 0 ≤ n) (n1 : n ≤ 1048576) {x : AV} {xs : List AV} {Ls : List (List Int)} (hv : IsV x xs Ls) (hB : ∀ L ∈ Ls, Bys L) (hm : xs.length < 9223372036854775807) :
    FF tab 82 [.i .i64 R, .i .u8 X, .i .i64 n, x] = some ⟨.sl (nums .u8 (outL R (padS R X (takeL R (zL 25, 0) Ls.flatten)) n.toNat)) n.toNat, []⟩ := by
  refine call_by (A := A82) rfl rfl ?_
  have hx := hv.ls
  have fv := hv.flat
  have lv := hv.len
  have hZ : (zL 25).length = 25 := zL_len 25
  have hN := dNew R X
  simp (disch := first | assumption | omega | (simp only [List.length_cons, List.length_nil, List.length_set, List.length_append, List.length_replicate, List.length_map, List.length_range, List.length_take, List.length_drop, nums_length, bools_length, vecs_length]; first | done | omega)) [A82, hN]
  refine w_heads xs.length (fun k => ⟨[(10, .i .i64 k), (9, .rf 15 0), (3, x), (2, .i .i64 n)], [(15, spD (takeL R (zL 25, 0) (Ls.take k).flatten).1 R X (takeL R (zL 25, 0) (Ls.take k).flatten).2 false)]⟩) (by simp (disch := first | assumption | omega | (simp only [List.length_cons, List.length_nil, List.length_set, List.length_append, List.length_replicate, List.length_map, List.length_range, List.length_take, List.length_drop, nums_length, bools_length, vecs_length]; first | done | omega)) [takeL_nil]) ?_ ?_
  · intro k hk
    have hkL : k < Ls.length := by rw [← hx.1]; exact hk
    have hl := hx.2 k hk hkL
    have hix := hv.ix hk
    have hget : xs[k]? = some xs[k] := List.getElem?_eq_getElem hk
    have w1 : IntKind.i64.wrap ((k : Int) + 1) = (k : Int) + 1 := i64_in _ (by omega)
    have hlt : (k : Int) < (xs.length : Int) := by omega
    have fx := hl.flat
    obtain ⟨a1, a2⟩ := takeL_ok (R := R) (Ls.take k).flatten (S := (zL 25, 0)) hZ hR0
    have hs : takeL R (zL 25, 0) (Ls.take (k + 1)).flatten = takeL R (takeL R (zL 25, 0) (Ls.take k).flatten) Ls[k] := by
      rw [List.take_succ_eq_append_getElem hkL, List.flatten_append, takeL_app]; simp
    rw [hs]
    generalize takeL R (zL 25, 0) (Ls.take k).flatten = S at *
    obtain ⟨B, q⟩ := S
    simp only at a1 a2 ⊢
    have hT := dAbsorb a1 hR a2 X hl (hB _ (List.getElem_mem hkL))
    have ll := spD_len (r := R) (x := X) (p := (q : Int)) (s := false) a1
    generalize takeL R (B, q) Ls[k] = S1 at *
    generalize xs[k] = x at *
    clear hs hl hx hv
    generalize hT' : (k : Int) = T at *
    simp (disch := first | assumption | omega | (simp only [List.length_cons, List.length_nil, List.length_set, List.length_append, List.length_replicate, List.length_map, List.length_range, List.length_take, List.length_drop, nums_length, bools_length, vecs_length]; first | done | omega)) [lv, hix, hget, hT, w1, hT']
  · have e : Ls.take xs.length = Ls := by rw [hx.1]; exact List.take_length
    rw [e]
    obtain ⟨a1, a2⟩ := takeL_ok (R := R) Ls.flatten (S := (zL 25, 0)) hZ hR0
    generalize takeL R (zL 25, 0) Ls.flatten = S at *
    obtain ⟨B, q⟩ := S
    simp only at a1 a2 ⊢
    have hQ := dSqueeze a1 hR0 hR a2 x0 x1 n0 n1
    generalize outL R (padS R X (B, q)) n.toNat = O at *
    generalize nextN R (padS R X (B, q)) n.toNat = N1 at *
    simp (disch := first | assumption | omega | (simp only [List.length_cons, List.length_nil, List.length_set, List.length_append, List.length_replicate, List.length_map, List.length_range, List.length_take, List.length_drop, nums_length, bools_length, vecs_length]; first | done | omega)) [lv, hQ]
theorem IsV.one {y : AV} {L : List Int} (h : IsL .u8 y L) : IsV (.sl [y] 1) [y] [L] := ⟨.inl rfl, .one h⟩
theorem one_bys {L : List Int} (h : Bys L) : ∀ K ∈ [L], Bys K := by intro K hK; rcases List.mem_cons.1 hK with rfl | hK; exact h; cases hK
theorem sSum512 {x : AV} {L : List Int} (hx : IsL .u8 x L) (hB : Bys L) : FF tab 71 [x] = some ⟨.sl (nums .u8 (outL 72 (padS 72 6 (takeL 72 (zL 25, 0) L)) 64)) 64, []⟩ := by
  refine call_by (A := A71) rfl rfl ?_
  have fx := hx.flat
  have h := sAll (R := 72) (by omega) (by omega) (X := 6) (by omega) (by omega) (n := 64) (by omega) (by omega) (IsLs.one hx) (one_bys hB) (by simp)
  rw [show [L].flatten = L by simp, show [x].length = 1 from rfl, show (64 : Int).toNat = 64 from rfl, show ((72 : Nat) : Int) = 72 from rfl] at h
  generalize outL 72 (padS 72 6 (takeL 72 (zL 25, 0) L)) 64 = O at *
  simp (disch := first | assumption | omega | (simp only [List.length_cons, List.length_nil, List.length_set, List.length_append, List.length_replicate, List.length_map, List.length_range, List.length_take, List.length_drop, nums_length, bools_length, vecs_length]; first | done | omega)) [A71, h]
theorem dSum512 {x : AV} {L : List Int} (hx : IsL .u8 x L) (hB : Bys L) : FF tab 41 [x] = some ⟨.sl (nums .u8 (outL 72 (padS 72 6 (takeL 72 (zL 25, 0) L)) 64)) 64, []⟩ := by
  refine call_by (A := A41) rfl rfl ?_
  have fx := hx.flat
  have h := dSome (R := 72) (by omega) (by omega) (X := 6) (by omega) (by omega) (n := 64) (by omega) (by omega) (IsV.one hx) (one_bys hB) (by simp)
  rw [show [L].flatten = L by simp, show (64 : Int).toNat = 64 from rfl, show ((72 : Nat) : Int) = 72 from rfl] at h
  generalize outL 72 (padS 72 6 (takeL 72 (zL 25, 0) L)) 64 = O at *
  simp (disch := first | assumption | omega | (simp only [List.length_cons, List.length_nil, List.length_set, List.length_append, List.length_replicate, List.length_map, List.length_range, List.length_take, List.length_drop, nums_length, bools_length, vecs_length]; first | done | omega)) [A41, h]
theorem dSum256 {x : AV} {L : List Int} (hx : IsL .u8 x L) (hB : Bys L) : FF tab 48 [x] = some ⟨.sl (nums .u8 (outL 136 (padS 136 6 (takeL 136 (zL 25, 0) L)) 32)) 32, []⟩ := by
  refine call_by (A := A48) rfl rfl ?_
  have fx := hx.flat
  have h := dSome (R := 136) (by omega) (by omega) (X := 6) (by omega) (by omega) (n := 32) (by omega) (by omega) (IsV.one hx) (one_bys hB) (by simp)
  rw [show [L].flatten = L by simp, show (32 : Int).toNat = 32 from rfl, show ((136 : Nat) : Int) = 136 from rfl] at h
  generalize outL 136 (padS 136 6 (takeL 136 (zL 25, 0) L)) 32 = O at *
  simp (disch := first | assumption | omega | (simp only [List.length_cons, List.length_nil, List.length_set, List.length_append, List.length_replicate, List.length_map, List.length_range, List.length_take, List.length_drop, nums_length, bools_length, vecs_length]; first | done | omega)) [A48, h]
end Zab.YtjnomoefbffpoaaGreatDoorB
namespace Zab.YtjnomoefbffpoaaGreatDoorB
open Go
open Go.IntWalk (i64_in)
set_option maxRecDepth 100000
set_option linter.unusedSimpArgs false
set_option linter.unusedVariables false
attribute [-simp] getElem?_pos
attribute [local simp] sees_nil sees_rf sees_i sees_sl sees_z sees_rs sees_fl
set_option maxHeartbeats 8000000 in
theorem dSqueezeT {A : List Ln} (hA : A.length = 25) {R p : Nat} (hR0 : 0 < R) (hR : R ≤ 192) (hp : p ≤ R) (X : Int) {n : Int} (n0 : 0 ≤ n) (n1 : n ≤ 1048576) :
    FF tab 122 [.op (spD A R X p true), .i .i64 n] = some ⟨.tp [.os (nums .u8 (outL R (A, p) n.toNat)) n.toNat 1, .i .i64 0], [spD (nextN R (A, p) n.toNat).1 R X (nextN R (A, p) n.toNat).2 true]⟩ := by
  refine call_by (A := A122) rfl rfl ?_
  obtain ⟨S, hS⟩ : ∃ S : List Ln × Nat, S = (A, p) := ⟨_, rfl⟩
  rw [← hS]
  have hS0 : S.1 = A ∧ S.2 = p := by rw [hS]; exact ⟨rfl, rfl⟩
  have hSl : S.1.length = 25 := by rw [hS0.1]; exact hA
  have hSp : S.2 ≤ R := by rw [hS0.2]; exact hp
  have h28 := spD_28 (r := R) (x := X) (p := (p : Int)) (s := true) hA
  have ll := spD_len (r := R) (x := X) (p := (p : Int)) (s := true) hA
  have hlt : ¬ n < 0 := by omega
  have hgt : ¬ 1048576 < n := by omega
  have hnn : ((n.toNat : Nat) : Int) = n := by omega
  have zz : zrep [AV.i .u8 0] 0 = [] := rfl
  clear hS
  simp (disch := first | assumption | omega | (simp only [List.length_cons, List.length_nil, List.length_set, List.length_append, List.length_replicate, List.length_map, List.length_range, List.length_take, List.length_drop, nums_length, bools_length, vecs_length]; first | done | omega)) [A122, hlt, hgt, h28, hnn, zz]
  refine w_heads n.toNat (fun k => ⟨[(7, .i .i64 k), (6, .rs 51 0 k 1), (1, .i .i64 n), (0, .rf 0 0)], [(51, nums .u8 (outL R S k)), (0, spD (nextN R S k).1 R X (nextN R S k).2 true)]⟩) (by simp (disch := first | assumption | omega | (simp only [List.length_cons, List.length_nil, List.length_set, List.length_append, List.length_replicate, List.length_map, List.length_range, List.length_take, List.length_drop, nums_length, bools_length, vecs_length]; first | done | omega)) [hnn, nextN, hS0, outL, nums_nil]) ?_ ?_
  · intro k hk
    have wk : IntKind.i64.wrap ((k : Int) + 1) = (k : Int) + 1 := i64_in _ (by omega)
    have hkn : (k : Int).toNat = k := Int.toNat_natCast _
    have hkL : (k : Int) < n := by omega
    obtain ⟨a1, a2⟩ := nextN_ok hR0 hSl hSp k
    obtain ⟨b1, b2⟩ := outS_ok hR0 a1 a2
    have hsu := outL_succ R S k
    have hol := outL_len R S k
    have hnx : nextN R S (k + 1) = ((outS R (nextN R S k)).1, (outS R (nextN R S k)).2 + 1) := rfl
    rw [hnx, hsu]
    simp only
    clear hnx hsu hS0 ll h28
    generalize outL R S k = O0 at *
    generalize nextN R S k = Z at *
    obtain ⟨B, q⟩ := Z
    simp only at a1 a2 b1 b2 ⊢
    have hqp : q = R → outS R (B, q) = (perm B, 0) := fun h => if_pos h
    have hqn : q ≠ R → outS R (B, q) = (B, q) := fun h => if_neg h
    have hP := pfPermute B a1
    have hpl := perm_len a1
    have hl25 := lanes_25 hpl
    have g0 := spD_0 (A := B) (r := R) (x := X) (p := (q : Int)) (s := true)
    have g27 := spD_27 (r := R) (x := X) (p := (q : Int)) (s := true) a1
    have l0 := spD_len (r := R) (x := X) (p := (q : Int)) (s := true) a1
    by_cases hq : q = R
    · have e := hqp hq
      rw [e] at b1 b2 ⊢
      simp only at b1 b2 ⊢
      have hqd : decide ((q : Int) = (R : Int)) = true := decide_eq_true (by omega)
      have pt := spD_part (r := R) (x := X) (p := (q : Int)) (s := true) a1
      have ov := spD_over (r := R) (x := X) (p := (q : Int)) (s := true) a1 hpl
      have l1 := spD_len (r := R) (x := X) (p := (q : Int)) (s := true) hpl
      have l2 := spD_len (r := R) (x := X) (p := (0 : Int)) (s := true) hpl
      have s27 := spD_set27 (r := R) (x := X) (p := (q : Int)) (s := true) hpl 0
      have s27' := spD_set27 (r := R) (x := X) (p := (0 : Int)) (s := true) hpl 1
      have g27' := spD_27 (r := R) (x := X) (p := (0 : Int)) (s := true) hpl
      have gl := spD_lane (r := R) (x := X) (p := (0 : Int)) (s := true) hpl (j := 0) (by omega)
      have sh := shr_u64 (nl (perm B) 0) (n := 0) (by omega)
      have hO : outB (perm B, 0) = IntKind.u8.wrap (iv (nl (perm B) 0 >>> 0)) := by simp only [outB, Nat.zero_div, Nat.zero_mod, Nat.mul_zero]
      rw [hO]
      have z1 : IntKind.i64.wrap 0 = 0 := rfl
      have z2 : IntKind.i64.wrap 1 = 1 := rfl
      have z3 : (0 : Int).tdiv 8 = 0 := rfl
      have z4 : (0 : Int).tmod 8 = 0 := rfl
      have z5 : IntKind.u64.wrap 0 = 0 := rfl
      have e01 : ((0 + 1 : Nat) : Int) = 1 := rfl
      rw [e01]
      rw [Int.natCast_zero] at sh
      rw [show 2 + 0 = 2 from rfl] at gl
      clear hqp hqn e hO
      generalize nl (perm B) 0 >>> 0 = W at *
      generalize perm B = PB at *
      generalize hT : (k : Int) = T at *
      simp (disch := first | assumption | omega | (simp only [List.length_cons, List.length_nil, List.length_set, List.length_append, List.length_replicate, List.length_map, List.length_range, List.length_take, List.length_drop, nums_length, bools_length, vecs_length]; first | done | omega)) [hkL, hkn, hol, g27, g0, hqd, pt, hP, ov, s27, g27', gl, sh, z1, z2, z3, z4, z5, nums_snoc, s27', wk, hT, -shiftV_shl, -shiftV_shr]
    · have e := hqn hq
      rw [e] at b1 b2 ⊢
      simp only at b1 b2 ⊢
      have hqd : ¬ ((q : Int) = (R : Int)) := by omega
      have q8 : q / 8 < 25 := by omega
      have gl := spD_lane (r := R) (x := X) (p := (q : Int)) (s := true) a1 q8
      have sh := shr_u64 (nl B (q / 8)) (n := 8 * (q % 8)) (by omega)
      have hO : outB (B, q) = IntKind.u8.wrap (iv (nl B (q / 8) >>> (8 * (q % 8)))) := rfl
      rw [hO]
      have z1 : (q : Int).tdiv 8 = ((q / 8 : Nat) : Int) := rfl
      have z2 : (q : Int).tmod 8 = ((q % 8 : Nat) : Int) := rfl
      have z3 : IntKind.i64.wrap ((q / 8 : Nat) : Int) = ((q / 8 : Nat) : Int) := i64_in _ (by omega)
      have z4 : IntKind.i64.wrap (((q % 8 : Nat) : Int) * 8) = ((8 * (q % 8) : Nat) : Int) := by rw [i64_in _ (by omega)]; omega
      have z5 : ((q / 8 : Nat) : Int).toNat = q / 8 := Int.toNat_natCast _
      have z6 : 0 ≤ ((q / 8 : Nat) : Int) ∧ ((q / 8 : Nat) : Int) < 25 := by omega
      have z7 := u64_i (n := 8 * (q % 8)) (by omega)
      have wq : IntKind.i64.wrap ((q : Int) + 1) = ((q + 1 : Nat) : Int) := i64_in _ (by omega)
      have s27 := spD_set27 (r := R) (x := X) (p := (q : Int)) (s := true) a1 ((q + 1 : Nat) : Int)
      clear hqp hqn e hO hP hpl hl25 hq
      generalize nl B (q / 8) >>> (8 * (q % 8)) = W at *
      generalize ((8 * (q % 8) : Nat) : Int) = E at *
      generalize ((q % 8 : Nat) : Int) = M at *
      generalize ((q / 8 : Nat) : Int) = D at *
      generalize q / 8 = J at *
      generalize ((q + 1 : Nat) : Int) = Q1 at *
      generalize hT : (k : Int) = T at *
      simp (disch := first | assumption | omega | (simp only [List.length_cons, List.length_nil, List.length_set, List.length_append, List.length_replicate, List.length_map, List.length_range, List.length_take, List.length_drop, nums_length, bools_length, vecs_length]; first | done | omega)) [hkL, hkn, hol, g27, g0, hqd, gl, sh, z1, z2, z3, z4, z5, z7, nums_snoc, s27, wq, wk, hT, -shiftV_shl, -shiftV_shr]
  · have hol := outL_len R S n.toNat
    have hnl := nums_length .u8 (outL R S n.toNat)
    have lo := fun C => lent_one3 C (spD A R X p true) (nums .u8 (outL R S n.toNat)) n
    generalize nextN R S n.toNat = S1 at *
    generalize outL R S n.toNat = F at *
    simp (disch := first | assumption | omega | (simp only [List.length_cons, List.length_nil, List.length_set, List.length_append, List.length_replicate, List.length_map, List.length_range, List.length_take, List.length_drop, nums_length, bools_length, vecs_length]; first | done | omega)) [hol, hnl, hnn, lo]
end Zab.YtjnomoefbffpoaaGreatDoorB
namespace Zab.YtjnomoefbffpoaaGreatDoorB
open Go
open Go.IntWalk (i64_in)
set_option maxRecDepth 100000
set_option linter.unusedSimpArgs false
set_option linter.unusedVariables false
attribute [-simp] getElem?_pos
theorem pNextE {C C' : List AV} {L : List Int} (hL : L.length = 136) (hS : FF tab 119 [.op C, .i .i64 136] = some ⟨.tp [.os (nums .u8 L) 136 1, .nl], [C']⟩) {bf : AV} (hb : bf = .z ∨ bf = .sl [] 0) :
    FF tab 113 [.oq [.op C, bf]] = some ⟨.i .u8 (ni L 0), [[.op C', .sl (nums .u8 ((L.drop 1).take 135)) 135]]⟩ := by
  refine call_by (A := A113) rfl rfl ?_
  have hs : slcV 1 (.sl (nums .u8 L) 136) (some (.i .i64 1)) none none = some (.sl (nums .u8 ((L.drop 1).take 135)) 135) := slc_one (by omega)
  have hg : (nums .u8 L)[0]? = some (.i .u8 (ni L 0)) := nums_get (by omega)
  generalize ni L 0 = y at *
  rcases hb with rfl | rfl
  · simp (disch := first | assumption | omega | (simp only [List.length_cons, List.length_nil, List.length_set, List.length_append, List.length_replicate, List.length_map, List.length_range, List.length_take, List.length_drop, nums_length, bools_length, vecs_length]; first | done | omega)) [A113, hS, hs, hg]
  · simp (disch := first | assumption | omega | (simp only [List.length_cons, List.length_nil, List.length_set, List.length_append, List.length_replicate, List.length_map, List.length_range, List.length_take, List.length_drop, nums_length, bools_length, vecs_length]; first | done | omega)) [A113, hS, hs, hg]
theorem pNextN {C : List AV} {L : List Int} {n : Nat} (hn : 0 < n) (hL : L.length = n) :
    FF tab 113 [.oq [.op C, .sl (nums .u8 L) n]] = some ⟨.i .u8 (ni L 0), [[.op C, .sl (nums .u8 ((L.drop 1).take (n - 1))) (n - 1)]]⟩ := by
  refine call_by (A := A113) rfl rfl ?_
  have hs : slcV 1 (.sl (nums .u8 L) n) (some (.i .i64 1)) none none = some (.sl (nums .u8 ((L.drop 1).take (n - 1))) (n - 1)) := slc_one (by omega)
  have hg : (nums .u8 L)[0]? = some (.i .u8 (ni L 0)) := nums_get (by omega)
  have h0 : ¬ (n : Int) = 0 := by omega
  have h1 : (0 : Int) < n := by omega
  generalize ni L 0 = y at *
  generalize n - 1 = m at *
  simp (disch := first | assumption | omega | (simp only [List.length_cons, List.length_nil, List.length_set, List.length_append, List.length_replicate, List.length_map, List.length_range, List.length_take, List.length_drop, nums_length, bools_length, vecs_length]; first | done | omega)) [A113, hs, hg, h0, h1]
theorem pNext {R : Nat} {X : Int} {T : List Ln × Nat} (hT : T.1.length = 25) (hR0 : 0 < R) (hR : R ≤ 192) (hp : T.2 < R) (x0 : 0 ≤ X) (x1 : X < 256) (k : Nat) :
    FF tab 113 [.oq [.op (strC R X T k), strB R X T k]] = some ⟨.i .u8 (bt R (padS R X T) k), [[.op (strC R X T (k + 1)), strB R X T (k + 1)]]⟩ := by
  have hS := padS_ok (R := R) hT X
  have hS2 : (padS R X T).2 = 0 := rfl
  obtain ⟨A, p⟩ := T
  simp only at hT hp
  generalize hSS : padS R X (A, p) = S at *
  match k with
  | 0 =>
    have h1 := sSqueeze hT hR0 hR hp x0 x1 (n := 136) (by omega) (by omega)
    rw [hSS] at h1
    have h2 := pNextE (outL_len R S 136) h1 (bf := .z) (.inl rfl)
    have e1 : outL R S 136 = bts R S 0 136 := bts_outL R S 0 136
    have e2 : ni (bts R S 0 136) 0 = bt R S 0 := bts_ni R S 0 136 (by omega)
    have e3 : ((bts R S 0 136).drop 1).take 135 = bts R S 1 135 := by rw [bts_drop R S 0 135, List.take_of_length_le (by rw [bts_len]; omega)]
    rw [show (136 : Int).toNat = 136 from rfl, e1, e2, e3] at h2
    simp only [strC, strB, hSS]
    exact h2
  | j + 1 =>
    have hn := nextN_ok (R := R) (S := S) hR0 hS (by omega) (136 * (j / 136 + 1))
    simp only [strC, strB, hSS]
    by_cases hc : j + 1 = 136 * (j / 136 + 1)
    · have h1 := sSqueezeT hn.1 hR0 hR hn.2 X (n := 136) (by omega) (by omega)
      have h2 := pNextE (outL_len R _ 136) h1 (bf := .sl [] 0) (.inr rfl)
      have e1 : outL R (nextN R S (136 * (j / 136 + 1))) 136 = bts R S (136 * (j / 136 + 1)) 136 := bts_outL R S _ 136
      have e2 : ni (bts R S (136 * (j / 136 + 1)) 136) 0 = bt R S (136 * (j / 136 + 1)) := bts_ni R S _ 136 (by omega)
      have e3 : ((bts R S (136 * (j / 136 + 1)) 136).drop 1).take 135 = bts R S (136 * (j / 136 + 1) + 1) 135 := by rw [bts_drop R S _ 135, List.take_of_length_le (by rw [bts_len]; omega)]
      have e4 : nextN R (nextN R S (136 * (j / 136 + 1))) 136 = nextN R S (136 * ((j + 1) / 136 + 1)) := by
        rw [← nextN_add]; congr 1; omega
      rw [show (136 : Int).toNat = 136 from rfl, show ((nextN R S (136 * (j / 136 + 1))).1, (nextN R S (136 * (j / 136 + 1))).2) = nextN R S (136 * (j / 136 + 1)) from rfl, e1, e2, e3, e4] at h2
      have e5 : 136 * (j / 136 + 1) - (j + 1) = 0 := by omega
      have e6 : 136 * ((j + 1) / 136 + 1) - (j + 1 + 1) = 135 := by omega
      rw [e5, e6]
      have e7 : nums .u8 (bts R S (j + 1) 0) = [] := rfl
      rw [e7, h2, ← hc]
    · have hlt : 136 * (j / 136 + 1) - (j + 1) = (136 * (j / 136 + 1) - (j + 1) - 1) + 1 := by omega
      have h2 := pNextN (C := spC (nextN R S (136 * (j / 136 + 1))).1 R X (nextN R S (136 * (j / 136 + 1))).2 true) (n := 136 * (j / 136 + 1) - (j + 1)) (by omega) (bts_len R S (j + 1) _)
      rw [h2]
      have e0 : (j + 1) / 136 = j / 136 := by omega
      rw [e0, bts_ni R S (j + 1) _ (by omega)]
      have e3 : ((bts R S (j + 1) (136 * (j / 136 + 1) - (j + 1))).drop 1).take (136 * (j / 136 + 1) - (j + 1) - 1) = bts R S (j + 1 + 1) (136 * (j / 136 + 1) - (j + 1) - 1) := by
        conv => lhs; rw [hlt]
        rw [bts_drop, Nat.add_sub_cancel, List.take_of_length_le (by rw [bts_len]; omega)]
      rw [e3]
      congr 1
set_option maxHeartbeats 4000000 in
theorem pOpen {R : Nat} (h0 : 8 ≤ R) (h1 : R ≤ 192) (h8 : R % 8 = 0) {x y : AV} {L M : List Int} (hx : IsL .u8 x L) (hB : Bys L) (hy : IsL .u8 y M) (hC : Bys M) :
    FF tab 112 [.i .i64 R, x, y] = some ⟨.oq [.op (strC R 31 (takeL R (zL 25, 0) (L ++ M)) 0), .z], []⟩ := by
  refine call_by (A := A112) rfl rfl ?_
  have fx := hx.flat
  have fy := hy.flat
  have hZ : (zL 25).length = 25 := zL_len 25
  have hN := sNew h0 h1 h8 (X := 31) (by omega) (by omega)
  have hA := sAbsorb hZ h1 (p := 0) (by omega) 31 hx hB
  rw [show (((0 : Nat)) : Int) = 0 from rfl] at hA
  obtain ⟨a1, a2⟩ := takeL_ok (R := R) L (S := (zL 25, 0)) hZ (by show 0 < R; omega)
  have hA2 := sAbsorb a1 h1 a2 31 hy hC
  rw [show ((takeL R (zL 25, 0) L).1, (takeL R (zL 25, 0) L).2) = takeL R (zL 25, 0) L from rfl, ← takeL_app] at hA2
  simp only [strC]
  generalize takeL R (zL 25, 0) (L ++ M) = S2 at *
  generalize takeL R (zL 25, 0) L = S1 at *
  simp (disch := first | assumption | omega | (simp only [List.length_cons, List.length_nil, List.length_set, List.length_append, List.length_replicate, List.length_map, List.length_range, List.length_take, List.length_drop, nums_length, bools_length, vecs_length]; first | done | omega)) [A112, hN]
  refine w_heads 2 (fun k => ⟨[(24, .i .i64 k), (23, .i .i64 2), (22, .sl [x, y] 2), (7, .rf 1013 0)], [(1013, if k = 0 then spC (zL 25) R 31 0 false else if k = 1 then spC S1.1 R 31 S1.2 false else spC S2.1 R 31 S2.2 false)]⟩) (by simp (disch := first | assumption | omega | (simp only [List.length_cons, List.length_nil, List.length_set, List.length_append, List.length_replicate, List.length_map, List.length_range, List.length_take, List.length_drop, nums_length, bools_length, vecs_length]; first | done | omega)) []) ?_ ?_
  · intro k hk
    match k, hk with
    | 0, _ => simp (disch := first | assumption | omega | (simp only [List.length_cons, List.length_nil, List.length_set, List.length_append, List.length_replicate, List.length_map, List.length_range, List.length_take, List.length_drop, nums_length, bools_length, vecs_length]; first | done | omega)) [hA, show IntKind.i64.wrap 1 = 1 from rfl]
    | 1, _ => simp (disch := first | assumption | omega | (simp only [List.length_cons, List.length_nil, List.length_set, List.length_append, List.length_replicate, List.length_map, List.length_range, List.length_take, List.length_drop, nums_length, bools_length, vecs_length]; first | done | omega)) [hA2, show IntKind.i64.wrap 2 = 2 from rfl]
  · simp (disch := first | assumption | omega | (simp only [List.length_cons, List.length_nil, List.length_set, List.length_append, List.length_replicate, List.length_map, List.length_range, List.length_take, List.length_drop, nums_length, bools_length, vecs_length]; first | done | omega)) []
end Zab.YtjnomoefbffpoaaGreatDoorB
namespace Zab.YtjnomoefbffpoaaGreatDoorB
open Go
open Go.IntWalk (i64_in)
set_option maxRecDepth 100000
set_option linter.unusedSimpArgs false
set_option linter.unusedVariables false
attribute [-simp] getElem?_pos
theorem IsV.two {y u : AV} {L M : List Int} (h : IsL .u8 y L) (h2 : IsL .u8 u M) : IsV (.sl [y, u] 2) [y, u] [L, M] :=
  ⟨.inl rfl, rfl, fun j h3 h4 => by
    match j, h3 with
    | 0, _ => exact h
    | 1, _ => exact h2⟩
theorem two_bys {L M : List Int} (h : Bys L) (h2 : Bys M) : ∀ K ∈ [L, M], Bys K := by
  intro K hK; rcases List.mem_cons.1 hK with rfl | hK; exact h; exact one_bys h2 K hK
set_option maxHeartbeats 4000000 in
theorem dOpen {R : Nat} (hR0 : 0 < R) (hR : R ≤ 192) {x : AV} {xs : List AV} {Ls : List (List Int)} (hv : IsV x xs Ls) (hB : ∀ L ∈ Ls, Bys L) (hm : xs.length < 9223372036854775807) :
    FF tab 123 [.i .i64 R, x] = some ⟨.aq [.op (strD R 31 (takeL R (zL 25, 0) Ls.flatten) 0)], []⟩ := by
  refine call_by (A := A123) rfl rfl ?_
  have hx := hv.ls
  have fv := hv.flat
  have lv := hv.len
  have hZ : (zL 25).length = 25 := zL_len 25
  have hN := dNew R 31
  simp only [strD]
  simp (disch := first | assumption | omega | (simp only [List.length_cons, List.length_nil, List.length_set, List.length_append, List.length_replicate, List.length_map, List.length_range, List.length_take, List.length_drop, nums_length, bools_length, vecs_length]; first | done | omega)) [A123, hN]
  refine w_heads xs.length (fun k => ⟨[(6, .i .i64 k), (5, .rf 8 0), (4, .rf 1000000000004 0), (1, x)], [(1000000000004, [.np]), (8, spD (takeL R (zL 25, 0) (Ls.take k).flatten).1 R 31 (takeL R (zL 25, 0) (Ls.take k).flatten).2 false)]⟩) (by simp (disch := first | assumption | omega | (simp only [List.length_cons, List.length_nil, List.length_set, List.length_append, List.length_replicate, List.length_map, List.length_range, List.length_take, List.length_drop, nums_length, bools_length, vecs_length]; first | done | omega)) [takeL_nil]) ?_ ?_
  · intro k hk
    have hkL : k < Ls.length := by rw [← hx.1]; exact hk
    have hl := hx.2 k hk hkL
    have hix := hv.ix hk
    have hget : xs[k]? = some xs[k] := List.getElem?_eq_getElem hk
    have w1 : IntKind.i64.wrap ((k : Int) + 1) = (k : Int) + 1 := i64_in _ (by omega)
    have hlt : (k : Int) < (xs.length : Int) := by omega
    have fx := hl.flat
    obtain ⟨a1, a2⟩ := takeL_ok (R := R) (Ls.take k).flatten (S := (zL 25, 0)) hZ hR0
    have hs : takeL R (zL 25, 0) (Ls.take (k + 1)).flatten = takeL R (takeL R (zL 25, 0) (Ls.take k).flatten) Ls[k] := by
      rw [List.take_succ_eq_append_getElem hkL, List.flatten_append, takeL_app]; simp
    rw [hs]
    generalize takeL R (zL 25, 0) (Ls.take k).flatten = S at *
    obtain ⟨B, q⟩ := S
    simp only at a1 a2 ⊢
    have hT := dAbsorb a1 hR a2 31 hl (hB _ (List.getElem_mem hkL))
    have ll := spD_len (r := R) (x := 31) (p := (q : Int)) (s := false) a1
    generalize takeL R (B, q) Ls[k] = S1 at *
    generalize xs[k] = x at *
    clear hs hl hx hv
    generalize hT' : (k : Int) = T at *
    simp (disch := first | assumption | omega | (simp only [List.length_cons, List.length_nil, List.length_set, List.length_append, List.length_replicate, List.length_map, List.length_range, List.length_take, List.length_drop, nums_length, bools_length, vecs_length]; first | done | omega)) [lv, hix, hget, hT, w1, hT']
  · have e : Ls.take xs.length = Ls := by rw [hx.1]; exact List.take_length
    rw [e]
    generalize takeL R (zL 25, 0) Ls.flatten = S at *
    simp (disch := first | assumption | omega | (simp only [List.length_cons, List.length_nil, List.length_set, List.length_append, List.length_replicate, List.length_map, List.length_range, List.length_take, List.length_drop, nums_length, bools_length, vecs_length]; first | done | omega)) [lv]
set_option maxHeartbeats 4000000 in
theorem dNext1 {C C' : List AV} {y : Int} (y0 : 0 ≤ y) (y1 : y < 256) (hS : FF tab 122 [.op C, .i .i64 1] = some ⟨.tp [.os (nums .u8 [y]) 1 1, .i .i64 0], [C']⟩) :
    FF tab 124 [.aq [.op C]] = some ⟨.i .i64 y, [C']⟩ := by
  refine call_by (A := A124) rfl rfl ?_
  have wy : IntKind.i64.wrap y = y := i64_in _ (by omega)
  simp (disch := first | assumption | omega | (simp only [List.length_cons, List.length_nil, List.length_set, List.length_append, List.length_replicate, List.length_map, List.length_range, List.length_take, List.length_drop, nums_length, bools_length, vecs_length]; first | done | omega)) [A124, hS, wy, nums_cons, nums_nil]
theorem dNext {R : Nat} {X : Int} {T : List Ln × Nat} (hT : T.1.length = 25) (hR0 : 0 < R) (hR : R ≤ 192) (hp : T.2 < R) (x0 : 0 ≤ X) (x1 : X < 256) (k : Nat) :
    FF tab 124 [.aq [.op (strD R X T k)]] = some ⟨.i .i64 (bt R (padS R X T) k), [strD R X T (k + 1)]⟩ := by
  have hS := padS_ok (R := R) hT X
  have hS2 : (padS R X T).2 = 0 := rfl
  obtain ⟨A, p⟩ := T
  simp only at hT hp
  generalize hSS : padS R X (A, p) = S at *
  have hb := bt_in R S k
  refine dNext1 hb.1 hb.2 ?_
  have e1 : ∀ a, outL R (nextN R S a) 1 = [bt R S a] := fun a => by rw [bts_outL]; rfl
  match k with
  | 0 =>
    have h1 := dSqueeze hT hR0 hR hp x0 x1 (n := 1) (by omega) (by omega)
    rw [hSS, show (1 : Int).toNat = 1 from rfl, show outL R S 1 = [bt R S 0] from e1 0] at h1
    simp only [strD, hSS]
    exact h1
  | j + 1 =>
    have hn := nextN_ok (R := R) (S := S) hR0 hS (by omega) (j + 1)
    have h1 := dSqueezeT hn.1 hR0 hR hn.2 X (n := 1) (by omega) (by omega)
    rw [show (1 : Int).toNat = 1 from rfl, show ((nextN R S (j + 1)).1, (nextN R S (j + 1)).2) = nextN R S (j + 1) from rfl, e1, show nextN R (nextN R S (j + 1)) 1 = nextN R S (j + 1 + 1) from (nextN_add R S (j + 1) 1).symm] at h1
    simp only [strD, hSS]
    exact h1
end Zab.YtjnomoefbffpoaaGreatDoorB
namespace Zab.YtjnomoefbffpoaaGreatDoorB
open Go
open Go.IntWalk (i64_in)
set_option maxRecDepth 100000
set_option linter.unusedSimpArgs false
set_option linter.unusedVariables false
attribute [-simp] getElem?_pos
attribute [local simp] sees_nil sees_rf sees_i sees_sl sees_z sees_rs sees_fl
theorem src_isL {y : AV} {L : List Int} (h : IsL .u8 y L) (l : List (Nat × List AV)) (d : Nat) : srcV l 1 d y = some (nums .u8 L, L.length) := by
  rcases h with rfl | ⟨rfl, rfl⟩
  · exact srcV_sl (by rw [nums_length, Nat.mul_one])
  · rfl
theorem s256 (n : Int) {x : AV} {xs : List AV} {Ls : List (List Int)} (hv : IsV x xs Ls) (hB : ∀ L ∈ Ls, Bys L) (hm : xs.length < 9223372036854775807) :
    FF tab 69 [.i .i64 n, x] = some ⟨if n < 0 ∨ 1048576 < n then .tp [.z, .er 1] else .tp [.sl (nums .u8 (outL 136 (padS 136 31 (takeL 136 (zL 25, 0) Ls.flatten)) n.toNat)) n.toNat, .nl], []⟩ := by
  refine call_by (A := A69) rfl rfl ?_
  have fv := hv.flat
  have h := sAllV (R := 136) (by omega) (by omega) (X := 31) (by omega) (by omega) n hv hB hm
  rw [show ((136 : Nat) : Int) = 136 from rfl] at h
  generalize outL 136 (padS 136 31 (takeL 136 (zL 25, 0) Ls.flatten)) n.toNat = O at *
  by_cases hn : n < 0 ∨ 1048576 < n
  · rw [if_pos hn] at h ⊢
    clear hn
    simp (disch := first | assumption | omega | (simp only [List.length_cons, List.length_nil, List.length_set, List.length_append, List.length_replicate, List.length_map, List.length_range, List.length_take, List.length_drop, nums_length, bools_length, vecs_length]; first | done | omega)) [A69, h]
  · rw [if_neg hn] at h ⊢
    clear hn
    simp (disch := first | assumption | omega | (simp only [List.length_cons, List.length_nil, List.length_set, List.length_append, List.length_replicate, List.length_map, List.length_range, List.length_take, List.length_drop, nums_length, bools_length, vecs_length]; first | done | omega)) [A69, h]
theorem d256 {n : Int} (n0 : 0 ≤ n) (n1 : n ≤ 1048576) {x : AV} {xs : List AV} {Ls : List (List Int)} (hv : IsV x xs Ls) (hB : ∀ L ∈ Ls, Bys L) (hm : xs.length < 9223372036854775807) :
    FF tab 70 [.i .i64 n, x] = some ⟨.sl (nums .u8 (outL 136 (padS 136 31 (takeL 136 (zL 25, 0) Ls.flatten)) n.toNat)) n.toNat, []⟩ := by
  refine call_by (A := A70) rfl rfl ?_
  have fv := hv.flat
  have h := dSome (R := 136) (by omega) (by omega) (X := 31) (by omega) (by omega) n0 n1 hv hB hm
  rw [show ((136 : Nat) : Int) = 136 from rfl] at h
  generalize outL 136 (padS 136 31 (takeL 136 (zL 25, 0) Ls.flatten)) n.toNat = O at *
  simp (disch := first | assumption | omega | (simp only [List.length_cons, List.length_nil, List.length_set, List.length_append, List.length_replicate, List.length_map, List.length_range, List.length_take, List.length_drop, nums_length, bools_length, vecs_length]; first | done | omega)) [A70, h]
end Zab.YtjnomoefbffpoaaGreatDoorB
namespace Zab.YtjnomoefbffpoaaGreatDoorB
open Go
open Go.IntWalk (i64_in)
set_option maxRecDepth 100000
set_option linter.unusedSimpArgs false
set_option linter.unusedVariables false
attribute [-simp] getElem?_pos
abbrev stF (R : Nat) (L : List Int) : Nat → Int := bt R (padS R 31 (takeL R (zL 25, 0) L))
set_option maxHeartbeats 8000000 in
theorem pUniform {x : AV} {L : List Int} (hx : IsL .u8 x L) (hB : Bys L) (hl : L.length ≤ 100) {i j : Int} (i0 : 0 ≤ i) (i1 : i < 256) (j0 : 0 ≤ j) (j1 : j < 256)
    {N : Nat} (hN : (uni (stF 168 (L ++ [i, j])) N).length = 256) (hlt : ∀ k, k < N → (uni (stF 168 (L ++ [i, j])) k).length < 256) :
    FF tab 76 [x, .i .u8 i, .i .u8 j] = some ⟨.os (nums .i64 (uni (stF 168 (L ++ [i, j])) N)) 256 1, []⟩ := by
  refine call_by (A := A76) rfl rfl ?_
  have fx := hx.flat
  have hij : ∀ y ∈ [i, j], inK .u8 y := by
    intro y hy
    simp only [List.mem_cons, List.not_mem_nil, or_false] at hy
    rcases hy with rfl | rfl
    · exact ⟨i0, by show _ ≤ (255 : Int); omega⟩
    · exact ⟨j0, by show _ ≤ (255 : Int); omega⟩
  have hO := pOpen (R := 168) (by omega) (by omega) (by omega) hx hB (y := .sl (nums .u8 [i, j]) 2) (M := [i, j]) (.inl rfl) ⟨hij, by simp⟩
  rw [show nums .u8 [i, j] = [.i .u8 i, .i .u8 j] from rfl, show ((168 : Nat) : Int) = 168 from rfl] at hO
  have hZ : (zL 25).length = 25 := zL_len 25
  obtain ⟨a1, a2⟩ := takeL_ok (R := 168) (L ++ [i, j]) (S := (zL 25, 0)) hZ (by show 0 < 168; omega)
  unfold stF at *
  generalize takeL 168 (zL 25, 0) (L ++ [i, j]) = T at *
  have hn := pNext a1 (by omega) (by omega) a2 (X := 31) (by omega) (by omega)
  have hb := bt_in 168 (padS 168 31 T)
  have fb := strB_flat 168 31 T
  generalize bt 168 (padS 168 31 T) = f at *
  have f0 := fb 0
  have e0 : strB 168 31 T 0 = .z := rfl
  simp (disch := first | assumption | omega | (simp only [List.length_cons, List.length_nil, List.length_set, List.length_append, List.length_replicate, List.length_map, List.length_range, List.length_take, List.length_drop, nums_length, bools_length, vecs_length]; first | done | omega)) [A76, hO]
  refine w_heads N (fun k => ⟨[(8, .rs 19 0 (uni f k).length 1), (7, .rf 1000000000018 0)], [(1000000000018, [.rf 1000000018 0, strB 168 31 T (3 * k)]), (1000000018, strC 168 31 T (3 * k)), (19, nums .i64 (uni f k))]⟩) (by simp (disch := first | assumption | omega | (simp only [List.length_cons, List.length_nil, List.length_set, List.length_append, List.length_replicate, List.length_map, List.length_range, List.length_take, List.length_drop, nums_length, bools_length, vecs_length]; first | done | omega)) [uni, e0, nums_nil]) ?_ ?_
  · intro k hk
    have h256 := hlt k hk
    obtain ⟨u0, u1⟩ := hb (3 * k)
    obtain ⟨v0, v1⟩ := hb (3 * k + 1)
    obtain ⟨w0, w1⟩ := hb (3 * k + 2)
    have n0 := hn (3 * k)
    have n1 := hn (3 * k + 1)
    have n2 := hn (3 * k + 2)
    have g0 := fb (3 * k)
    have g1 := fb (3 * k + 1)
    have g2 := fb (3 * k + 2)
    have g3 := fb (3 * k + 3)
    rw [show 3 * k + 1 + 1 = 3 * k + 2 from rfl] at n1
    rw [show 3 * k + 2 + 1 = 3 * k + 3 from rfl] at n2
    have eu : uni f (k + 1) = uni2 (uni1 (uni f k) (uX f k)) (uY f k) := rfl
    rw [eu, show 3 * (k + 1) = 3 * k + 3 by omega]
    have hX : uX f k = f (3 * k) + 256 * (f (3 * k + 1) % 16) := rfl
    have hY : uY f k = f (3 * k + 1) / 16 + 16 * f (3 * k + 2) := rfl
    generalize uX f k = X at *
    generalize uY f k = Y at *
    generalize uni f k = O at *
    generalize f (3 * k) = a at *
    generalize f (3 * k + 1) = b at *
    generalize f (3 * k + 2) = c at *
    have wa : IntKind.i64.wrap a = a := i64_in _ (by omega)
    have wb : IntKind.i64.wrap b = b := i64_in _ (by omega)
    have wc : IntKind.i64.wrap c = c := i64_in _ (by omega)
    have t1 : b.tmod 16 = b % 16 := Int.tmod_eq_emod_of_nonneg v0
    have t2 : b.tdiv 16 = b / 16 := Int.tdiv_eq_ediv_of_nonneg v0
    have q1 : IntKind.i64.wrap (256 * (b % 16)) = 256 * (b % 16) := i64_in _ (by omega)
    have q2 : IntKind.i64.wrap (a + 256 * (b % 16)) = X := by rw [hX]; exact i64_in _ (by omega)
    have q3 : IntKind.i64.wrap (b / 16) = b / 16 := i64_in _ (by omega)
    have q4 : IntKind.i64.wrap (16 * c) = 16 * c := i64_in _ (by omega)
    have q5 : IntKind.i64.wrap (b / 16 + 16 * c) = Y := by rw [hY]; exact i64_in _ (by omega)
    have hk1 : (O.length : Int) < 256 := by omega
    generalize strB 168 31 T (3 * k) = B0 at *
    generalize strB 168 31 T (3 * k + 1) = B1 at *
    generalize strB 168 31 T (3 * k + 2) = B2 at *
    generalize strB 168 31 T (3 * k + 3) = B3 at *
    generalize strC 168 31 T (3 * k) = C0 at *
    generalize strC 168 31 T (3 * k + 1) = C1 at *
    generalize strC 168 31 T (3 * k + 2) = C2 at *
    generalize strC 168 31 T (3 * k + 3) = C3 at *
    simp (disch := first | assumption | omega | (simp only [List.length_cons, List.length_nil, List.length_set, List.length_append, List.length_replicate, List.length_map, List.length_range, List.length_take, List.length_drop, nums_length, bools_length, vecs_length]; first | done | omega)) [hk1, n0, n1, n2, wa, wb, wc, t1, t2, q1, q2, q3, q4, q5]
    refine w_heads 2 (fun j => ⟨[(44, .i .i64 j), (43, .i .i64 2), (42, .sl [.i .i64 X, .i .i64 Y] 2), (8, .rs 19 0 (if j = 0 then O else if j = 1 then uni1 O X else uni2 (uni1 O X) Y).length 1), (7, .rf 1000000000018 0)], [(1000000000018, [.rf 1000000018 0, B3]), (1000000018, C3), (19, nums .i64 (if j = 0 then O else if j = 1 then uni1 O X else uni2 (uni1 O X) Y))]⟩) (by simp (disch := first | assumption | omega | (simp only [List.length_cons, List.length_nil, List.length_set, List.length_append, List.length_replicate, List.length_map, List.length_range, List.length_take, List.length_drop, nums_length, bools_length, vecs_length]; first | done | omega)) []) ?_ ?_
    · intro j hj
      match j, hj with
      | 0, _ =>
        by_cases hx3 : X < 3329
        · have e1 : uni1 O X = O ++ [X] := if_pos hx3
          have hb1 : ((O.length : Int) + 1) * 8 ≤ 140737488355328 := by omega
          simp (disch := first | assumption | omega | (simp only [List.length_cons, List.length_nil, List.length_set, List.length_append, List.length_replicate, List.length_map, List.length_range, List.length_take, List.length_drop, nums_length, bools_length, vecs_length]; first | done | omega)) [e1, hx3, hk1, show IntKind.i64.wrap 1 = 1 from rfl]
        · have e1 : uni1 O X = O := if_neg hx3
          simp (disch := first | assumption | omega | (simp only [List.length_cons, List.length_nil, List.length_set, List.length_append, List.length_replicate, List.length_map, List.length_range, List.length_take, List.length_drop, nums_length, bools_length, vecs_length]; first | done | omega)) [e1, hx3, hk1, show IntKind.i64.wrap 1 = 1 from rfl]
      | 1, _ =>
        have hl1 := (uni1_len O X).2
        generalize uni1 O X = O1 at *
        by_cases hy3 : Y < 3329
        · by_cases hl2 : O1.length < 256
          · have e1 : uni2 O1 Y = O1 ++ [Y] := if_pos ⟨hy3, hl2⟩
            have hl3 : (O1.length : Int) < 256 := by omega
            simp (disch := first | assumption | omega | (simp only [List.length_cons, List.length_nil, List.length_set, List.length_append, List.length_replicate, List.length_map, List.length_range, List.length_take, List.length_drop, nums_length, bools_length, vecs_length]; first | done | omega)) [e1, hy3, hl3, show IntKind.i64.wrap 2 = 2 from rfl]
          · have e1 : uni2 O1 Y = O1 := if_neg (fun h => hl2 h.2)
            have hl3 : ¬ (O1.length : Int) < 256 := by omega
            simp (disch := first | assumption | omega | (simp only [List.length_cons, List.length_nil, List.length_set, List.length_append, List.length_replicate, List.length_map, List.length_range, List.length_take, List.length_drop, nums_length, bools_length, vecs_length]; first | done | omega)) [e1, hy3, hl3, show IntKind.i64.wrap 2 = 2 from rfl]
        · have e1 : uni2 O1 Y = O1 := if_neg (fun h => hy3 h.1)
          simp (disch := first | assumption | omega | (simp only [List.length_cons, List.length_nil, List.length_set, List.length_append, List.length_replicate, List.length_map, List.length_range, List.length_take, List.length_drop, nums_length, bools_length, vecs_length]; first | done | omega)) [e1, hy3, show IntKind.i64.wrap 2 = 2 from rfl]
    · simp (disch := first | assumption | omega | (simp only [List.length_cons, List.length_nil, List.length_set, List.length_append, List.length_replicate, List.length_map, List.length_range, List.length_take, List.length_drop, nums_length, bools_length, vecs_length]; first | done | omega)) []
  · generalize uni f N = O at *
    generalize strB 168 31 T (3 * N) = B0 at *
    generalize strC 168 31 T (3 * N) = C0 at *
    simp (disch := first | assumption | omega | (simp only [List.length_cons, List.length_nil, List.length_set, List.length_append, List.length_replicate, List.length_map, List.length_range, List.length_take, List.length_drop, nums_length, bools_length, vecs_length]; first | done | omega)) [hN]
end Zab.YtjnomoefbffpoaaGreatDoorB
namespace Zab.YtjnomoefbffpoaaGreatDoorB
open Go
open Go.IntWalk (i64_in)
set_option maxRecDepth 100000
set_option linter.unusedSimpArgs false
set_option linter.unusedVariables false
attribute [-simp] getElem?_pos
theorem two_in {i j : Int} (i0 : 0 ≤ i) (i1 : i < 256) (j0 : 0 ≤ j) (j1 : j < 256) : Bys [i, j] :=
  ⟨fun y hy => by
    simp only [List.mem_cons, List.not_mem_nil, or_false] at hy
    rcases hy with rfl | rfl
    · exact ⟨i0, by show _ ≤ (255 : Int); omega⟩
    · exact ⟨j0, by show _ ≤ (255 : Int); omega⟩, by simp⟩
set_option maxHeartbeats 8000000 in
theorem dUniform {x : AV} {L : List Int} (hx : IsL .u8 x L) (hB : Bys L) (hl : L.length ≤ 100) {i j : Int} (i0 : 0 ≤ i) (i1 : i < 256) (j0 : 0 ≤ j) (j1 : j < 256)
    {N : Nat} (hN : (uni (stF 168 (L ++ [i, j])) N).length = 256) (hlt : ∀ k, k < N → (uni (stF 168 (L ++ [i, j])) k).length < 256) :
    FF tab 83 [x, .i .u8 i, .i .u8 j] = some ⟨.os (nums .i64 (uni (stF 168 (L ++ [i, j])) N)) 256 1, []⟩ := by
  refine call_by (A := A83) rfl rfl ?_
  have fx := hx.flat
  have hO := dOpen (R := 168) (by omega) (by omega) (IsV.two hx (u := .sl (nums .u8 [i, j]) 2) (M := [i, j]) (.inl rfl)) (two_bys hB (two_in i0 i1 j0 j1)) (by simp)
  rw [show nums .u8 [i, j] = [.i .u8 i, .i .u8 j] from rfl, show ((168 : Nat) : Int) = 168 from rfl, show [L, [i, j]].flatten = L ++ [i, j] by simp] at hO
  have hZ : (zL 25).length = 25 := zL_len 25
  obtain ⟨a1, a2⟩ := takeL_ok (R := 168) (L ++ [i, j]) (S := (zL 25, 0)) hZ (by show 0 < 168; omega)
  unfold stF at *
  generalize takeL 168 (zL 25, 0) (L ++ [i, j]) = T at *
  have hn := dNext a1 (by omega) (by omega) a2 (X := 31) (by omega) (by omega)
  have hb := bt_in 168 (padS 168 31 T)
  generalize bt 168 (padS 168 31 T) = f at *
  simp (disch := first | assumption | omega | (simp only [List.length_cons, List.length_nil, List.length_set, List.length_append, List.length_replicate, List.length_map, List.length_range, List.length_take, List.length_drop, nums_length, bools_length, vecs_length]; first | done | omega)) [A83, hO]
  refine w_heads N (fun k => ⟨[(8, .rs 8 0 (uni f k).length 1), (7, .rf 1000000000007 0)], [(1000000000007, [.rf 1000000019 0]), (1000000019, strD 168 31 T (3 * k)), (8, nums .i64 (uni f k))]⟩) (by simp (disch := first | assumption | omega | (simp only [List.length_cons, List.length_nil, List.length_set, List.length_append, List.length_replicate, List.length_map, List.length_range, List.length_take, List.length_drop, nums_length, bools_length, vecs_length]; first | done | omega)) [uni, nums_nil]) ?_ ?_
  · intro k hk
    have eu : uni f (k + 1) = uni2 (uni1 (uni f k) (uX f k)) (uY f k) := rfl
    have hX : uX f k = f (3 * k) + 256 * (f (3 * k + 1) % 16) := rfl
    have hY : uY f k = f (3 * k + 1) / 16 + 16 * f (3 * k + 2) := rfl
    have h256 := hlt k hk
    obtain ⟨u0, u1⟩ := hb (3 * k)
    obtain ⟨v0, v1⟩ := hb (3 * k + 1)
    obtain ⟨w0, w1⟩ := hb (3 * k + 2)
    have n0 := hn (3 * k)
    have n1 := hn (3 * k + 1)
    have n2 := hn (3 * k + 2)
    rw [show 3 * k + 1 + 1 = 3 * k + 2 from rfl] at n1
    rw [show 3 * k + 2 + 1 = 3 * k + 3 from rfl] at n2
    rw [eu, show 3 * (k + 1) = 3 * k + 3 by omega]
    generalize uX f k = X at *
    generalize uY f k = Y at *
    generalize uni f k = O at *
    generalize f (3 * k) = a at *
    generalize f (3 * k + 1) = b at *
    generalize f (3 * k + 2) = c at *
    have wa : IntKind.i64.wrap a = a := i64_in _ (by omega)
    have wb : IntKind.i64.wrap b = b := i64_in _ (by omega)
    have wc : IntKind.i64.wrap c = c := i64_in _ (by omega)
    have t1 : b.tmod 16 = b % 16 := Int.tmod_eq_emod_of_nonneg v0
    have t2 : b.tdiv 16 = b / 16 := Int.tdiv_eq_ediv_of_nonneg v0
    have q1 : IntKind.i64.wrap (256 * (b % 16)) = 256 * (b % 16) := i64_in _ (by omega)
    have q2 : IntKind.i64.wrap (a + 256 * (b % 16)) = X := by rw [hX]; exact i64_in _ (by omega)
    have q3 : IntKind.i64.wrap (b / 16) = b / 16 := i64_in _ (by omega)
    have q4 : IntKind.i64.wrap (16 * c) = 16 * c := i64_in _ (by omega)
    have q5 : IntKind.i64.wrap (b / 16 + 16 * c) = Y := by rw [hY]; exact i64_in _ (by omega)
    have hk1 : (O.length : Int) < 256 := by omega
    have hb1 : ((O.length : Int) + 1) * 8 ≤ 140737488355328 := by omega
    generalize strD 168 31 T (3 * k) = C0 at *
    generalize strD 168 31 T (3 * k + 1) = C1 at *
    generalize strD 168 31 T (3 * k + 2) = C2 at *
    generalize strD 168 31 T (3 * k + 3) = C3 at *
    by_cases hx3 : X < 3329
    · have e1 : uni1 O X = O ++ [X] := if_pos hx3
      by_cases hy3 : Y < 3329
      · by_cases hl2 : O.length + 1 < 256
        · have e2 : uni2 (O ++ [X]) Y = O ++ [X, Y] := by unfold uni2; rw [if_pos ⟨hy3, by simpa using hl2⟩]; simp
          have hl3 : (O.length : Int) + 1 < 256 := by omega
          have hb2 : ((O.length : Int) + 1 + 1) * 8 ≤ 140737488355328 := by omega
          simp (disch := first | assumption | omega | (simp only [List.length_cons, List.length_nil, List.length_set, List.length_append, List.length_replicate, List.length_map, List.length_range, List.length_take, List.length_drop, nums_length, bools_length, vecs_length]; first | done | omega)) [hk1, hx3, hy3, hl3, e1, e2, n0, n1, n2, wa, wb, wc, t1, t2, q1, q2, q3, q4, q5]
        · have e2 : uni2 (O ++ [X]) Y = O ++ [X] := if_neg (fun h => hl2 (by simpa using h.2))
          have hl3 : ¬ (O.length : Int) + 1 < 256 := by omega
          simp (disch := first | assumption | omega | (simp only [List.length_cons, List.length_nil, List.length_set, List.length_append, List.length_replicate, List.length_map, List.length_range, List.length_take, List.length_drop, nums_length, bools_length, vecs_length]; first | done | omega)) [hk1, hx3, hy3, hl3, e1, e2, n0, n1, n2, wa, wb, wc, t1, t2, q1, q2, q3, q4, q5]
      · have e2 : uni2 (O ++ [X]) Y = O ++ [X] := if_neg (fun h => hy3 h.1)
        simp (disch := first | assumption | omega | (simp only [List.length_cons, List.length_nil, List.length_set, List.length_append, List.length_replicate, List.length_map, List.length_range, List.length_take, List.length_drop, nums_length, bools_length, vecs_length]; first | done | omega)) [hk1, hx3, hy3, e1, e2, n0, n1, n2, wa, wb, wc, t1, t2, q1, q2, q3, q4, q5]
    · have e1 : uni1 O X = O := if_neg hx3
      by_cases hy3 : Y < 3329
      · have e2 : uni2 O Y = O ++ [Y] := if_pos ⟨hy3, h256⟩
        simp (disch := first | assumption | omega | (simp only [List.length_cons, List.length_nil, List.length_set, List.length_append, List.length_replicate, List.length_map, List.length_range, List.length_take, List.length_drop, nums_length, bools_length, vecs_length]; first | done | omega)) [hk1, hx3, hy3, e1, e2, n0, n1, n2, wa, wb, wc, t1, t2, q1, q2, q3, q4, q5]
      · have e2 : uni2 O Y = O := if_neg (fun h => hy3 h.1)
        simp (disch := first | assumption | omega | (simp only [List.length_cons, List.length_nil, List.length_set, List.length_append, List.length_replicate, List.length_map, List.length_range, List.length_take, List.length_drop, nums_length, bools_length, vecs_length]; first | done | omega)) [hk1, hx3, hy3, e1, e2, n0, n1, n2, wa, wb, wc, t1, t2, q1, q2, q3, q4, q5]
  · generalize uni f N = O at *
    generalize strD 168 31 T (3 * N) = C0 at *
    simp (disch := first | assumption | omega | (simp only [List.length_cons, List.length_nil, List.length_set, List.length_append, List.length_replicate, List.length_map, List.length_range, List.length_take, List.length_drop, nums_length, bools_length, vecs_length]; first | done | omega)) [hN]
end Zab.YtjnomoefbffpoaaGreatDoorB
namespace Zab.YtjnomoefbffpoaaGreatDoorB
open Go
open Go.IntWalk (i64_in)
set_option maxRecDepth 100000
set_option linter.unusedSimpArgs false
set_option linter.unusedVariables false
attribute [-simp] getElem?_pos
end Zab.YtjnomoefbffpoaaGreatDoorB
namespace Zab.YtjnomoefbffpoaaGreatDoorB
open Go
open Go.IntWalk (i64_in)
set_option maxRecDepth 100000
set_option linter.unusedSimpArgs false
set_option linter.unusedVariables false
attribute [-simp] getElem?_pos
end Zab.YtjnomoefbffpoaaGreatDoorB
namespace Zab.YtjnomoefbffpoaaGreatDoorB
open Go
open Go.IntWalk (i64_in)
set_option maxRecDepth 100000
set_option linter.unusedSimpArgs false
set_option linter.unusedVariables false
attribute [-simp] getElem?_pos
end Zab.YtjnomoefbffpoaaGreatDoorB
namespace Zab.YtjnomoefbffpoaaGreatDoorB
open Go
open Go.IntWalk (i64_in)
set_option maxRecDepth 100000
set_option linter.unusedSimpArgs false
set_option linter.unusedVariables false
attribute [-simp] getElem?_pos
end Zab.YtjnomoefbffpoaaGreatDoorB
namespace Zab.YtjnomoefbffpoaaGreatDoorB
open Go
open Go.IntWalk (i64_in)
set_option maxRecDepth 100000
set_option linter.unusedSimpArgs false
set_option linter.unusedVariables false
attribute [-simp] getElem?_pos
theorem bytes_in {L : List Int} (h : ∀ y ∈ L, inK .u8 y) : ∀ y ∈ L, 0 ≤ y ∧ y < 256 := by
  intro y hy
  obtain ⟨a, b⟩ := h y hy
  have a' : 0 ≤ y := a
  have b' : y ≤ 255 := b
  omega
theorem uni_ends {L : List Int} (h : ∀ y ∈ L, inK .u8 y) (hl : L.length ≤ 102) : ∃ N, (uni (stF 168 L) N).length = 256 ∧ ∀ i, i < N → (uni (stF 168 L) i).length < 256 :=
  uni_end fun i => by
    obtain ⟨j, h1, h2, h3, h4⟩ := zeros3 (X := 31) (by omega) (by omega) (bytes_in h) hl i
    refine ⟨j, h1, ?_⟩
    show stF 168 L (3 * j) + 256 * (stF 168 L (3 * j + 1) % 16) < 3329
    unfold stF
    rw [h2, h3]; omega
theorem app_in {L M : List Int} (h : ∀ y ∈ L, inK .u8 y) (h2 : ∀ y ∈ M, inK .u8 y) : ∀ y ∈ L ++ M, inK .u8 y := by
  intro y hy
  rcases List.mem_append.1 hy with hy | hy
  · exact h y hy
  · exact h2 y hy
end Zab.YtjnomoefbffpoaaGreatDoorB
namespace Zab.YtjnomoefbffpoaaGreatDoorB
open Go
open Go.IntWalk (i64_in)
set_option maxRecDepth 100000
set_option linter.unusedSimpArgs false
set_option linter.unusedVariables false
attribute [-simp] getElem?_pos
end Zab.YtjnomoefbffpoaaGreatDoorB
namespace Zab.YtjnomoefbffpoaaGreatDoorB
open Go
open Go.IntWalk (i64_in)
set_option maxRecDepth 100000
set_option linter.unusedSimpArgs false
set_option linter.unusedVariables false
attribute [-simp] getElem?_pos
theorem dBit {x : AV} {L : List Int} (hx : IsL .u8 x L) (hI : ∀ y ∈ L, inK .u8 y) {a : Nat} (ha : a / 8 < L.length) (ha2 : a < 1000000) : FF tab 125 [x, .i .i64 a] = some ⟨.i .i64 ((val L / 2 ^ a % 2 : Nat) : Int), []⟩ := by
  refine call_by (A := A125) rfl rfl ?_
  have fx := hx.flat
  have hB := bytes_in hI
  have hb := val_bit hB ha
  have td : (a : Int).tdiv 8 = ((a / 8 : Nat) : Int) := by rw [Int.tdiv_eq_ediv_of_nonneg (by omega)]; omega
  have tm : (a : Int).tmod 8 = ((a % 8 : Nat) : Int) := by rw [Int.tmod_eq_emod_of_nonneg (by omega)]; omega
  have wq : IntKind.i64.wrap ((a / 8 : Nat) : Int) = ((a / 8 : Nat) : Int) := i64_in _ (by omega)
  have wm : IntKind.u64.wrap ((a % 8 : Nat) : Int) = ((a % 8 : Nat) : Int) := u64_nat (by omega)
  have ix := ixSV_isL hx (k' := .i64) (j := ((a / 8 : Nat) : Int)) (by omega) (by omega)
  rw [Int.toNat_natCast] at ix
  have gx := nums_get (k := .u8) (L := L) (j := a / 8) ha
  obtain ⟨y0, y1⟩ : 0 ≤ ni L (a / 8) ∧ ni L (a / 8) < 256 := hB _ (by unfold ni; rw [List.getD_eq_getElem?_getD, List.getElem?_eq_getElem ha]; exact List.getElem_mem ha)
  have ey : ni L (a / 8) = ((ni L (a / 8)).toNat : Int) := by omega
  rw [ey] at gx
  have h8 : a % 8 < 8 := Nat.mod_lt _ (by omega)
  have sr := u8_shr (a := (ni L (a / 8)).toNat) (d := a % 8) (by omega)
  have hy : (ni L (a / 8)).toNat / 2 ^ (a % 8) ≤ (ni L (a / 8)).toNat := Nat.div_le_self _ _
  have an := u8_one (a := (ni L (a / 8)).toNat / 2 ^ (a % 8)) (by omega)
  rw [hb] at an
  have bl : val L / 2 ^ a % 2 < 2 := Nat.mod_lt _ (by omega)
  have wb : IntKind.i64.wrap ((val L / 2 ^ a % 2 : Nat) : Int) = ((val L / 2 ^ a % 2 : Nat) : Int) := i64_in _ (by omega)
  clear hb
  generalize ((val L / 2 ^ a % 2 : Nat) : Int) = B1 at *
  generalize (((ni L (a / 8)).toNat / 2 ^ (a % 8) : Nat) : Int) = Y1 at *
  generalize (((ni L (a / 8)).toNat : Nat) : Int) = Y0 at *
  generalize ((a % 8 : Nat) : Int) = M8 at *
  generalize ((a / 8 : Nat) : Int) = Q8 at *
  generalize (a : Int) = A0 at *
  simp (disch := first | assumption | omega | (simp only [List.length_cons, List.length_nil, List.length_set, List.length_append, List.length_replicate, List.length_map, List.length_range, List.length_take, List.length_drop, nums_length, bools_length, vecs_length]; first | done | omega)) [A125, td, tm, wq, wm, ix, gx, sr, an, wb, -shiftV_shl, -shiftV_shr]
end Zab.YtjnomoefbffpoaaGreatDoorB
