/- The bodies of the functions that the law's first part comes to, in the abstract machine's words, and a table of them. Conditions: none. -/
import Derived.Test.YtfaeabhbeolpgaaGreatDoorBas
set_option linter.all false
noncomputable section
set_option maxRecDepth 1000000
namespace Go.Proofs.YtfaeabhbeolpgaaGreatDoor
open Go Go.Am
noncomputable section
/-! univocal/univocallaw33.sanity -/
def F4u0 : List AIns := [⟨some 0, .mov (.c (.bool false)), none⟩]
def F4u1 : List AIns := [⟨some 25, .call 9 [], none⟩,
 ⟨some 1, .alloc [.nils, .nils, .nils, .nils], none⟩,
 ⟨none, .store 4 (.t 1) (.t 25), none⟩]
def F4u2 : List AIns := [⟨some 27, .loadN 4 (.t 1), none⟩,
 ⟨some 28, .call 10 [(.t 27), (.c (.int .i64 (0 : Nat)))], none⟩,
 ⟨some 26, .mov (.t 28), none⟩,
 ⟨some 29, .ext 0 (.t 26), none⟩,
 ⟨some 30, .ext 1 (.t 26), none⟩,
 ⟨some 2, .alloc [(.int .i64 (0 : Nat)), (.int .i64 (0 : Nat)), (.int .i64 (0 : Nat)), (.bool false), (.bool false), (.int .i64 (0 : Nat))], none⟩,
 ⟨none, .store 6 (.t 2) (.t 29), none⟩,
 ⟨some 3, .mov (.t 30), none⟩]
def F4u3 : List AIns := [⟨some 32, .loadN 4 (.t 1), none⟩,
 ⟨some 33, .call 10 [(.t 32), (.c (.int .i64 (1 : Nat)))], none⟩,
 ⟨some 31, .mov (.t 33), none⟩,
 ⟨some 34, .ext 0 (.t 31), none⟩,
 ⟨some 35, .ext 1 (.t 31), none⟩,
 ⟨some 4, .alloc [(.int .i64 (0 : Nat)), (.int .i64 (0 : Nat)), (.int .i64 (0 : Nat)), (.bool false), (.bool false), (.int .i64 (0 : Nat))], none⟩,
 ⟨none, .store 6 (.t 4) (.t 34), none⟩,
 ⟨some 5, .mov (.t 35), none⟩]
def F4u4 : List AIns := [⟨some 37, .loadN 4 (.t 1), none⟩,
 ⟨some 38, .loadN 6 (.t 2), none⟩,
 ⟨some 39, .bslice [(.int .u8 (0 : Nat))] 1 2 [(0, (.c (.int .u8 (97 : Nat)))), (1, (.c (.int .u8 (98 : Nat))))], none⟩,
 ⟨some 40, .convSS (.t 39), none⟩,
 ⟨some 41, .call 11 [(.t 37), (.t 38), (.t 40)], none⟩,
 ⟨some 36, .mov (.t 41), none⟩,
 ⟨some 42, .ext 0 (.t 36), none⟩,
 ⟨some 43, .ext 1 (.t 36), none⟩,
 ⟨some 44, .ext 2 (.t 36), none⟩,
 ⟨some 6, .alloc [(.int .i64 (0 : Nat)), (.int .i64 (0 : Nat)), (.int .i64 (0 : Nat)), (.bool false), (.bool false), (.int .i64 (0 : Nat))], none⟩,
 ⟨some 7, .alloc [(.bool false), (.int .i64 (0 : Nat)), .nils], none⟩,
 ⟨none, .store 6 (.t 6) (.t 42), none⟩,
 ⟨none, .store 3 (.t 7) (.t 43), none⟩,
 ⟨some 8, .mov (.t 44), none⟩]
def F4u5 : List AIns := [⟨some 46, .faddr 0 (.t 1), none⟩,
 ⟨some 47, .load1 (.t 46), none⟩,
 ⟨some 48, .iaddrS 2 (.t 47) (.c (.int .i64 (0 : Nat))), none⟩,
 ⟨some 49, .loadN 2 (.t 48), none⟩,
 ⟨some 50, .bslice [(.int .u8 (0 : Nat))] 1 2 [(0, (.c (.int .u8 (97 : Nat)))), (1, (.c (.int .u8 (98 : Nat))))], none⟩,
 ⟨some 51, .convSS (.t 50), none⟩,
 ⟨some 52, .call 12 [(.t 49), (.t 51)], none⟩,
 ⟨some 45, .mov (.t 52), none⟩,
 ⟨some 53, .ext 0 (.t 45), none⟩,
 ⟨some 54, .ext 1 (.t 45), none⟩,
 ⟨some 9, .alloc [(.bool false), (.int .i64 (0 : Nat)), .nils], none⟩,
 ⟨none, .store 3 (.t 9) (.t 53), none⟩,
 ⟨some 10, .mov (.t 54), none⟩]
def F4u6 : List AIns := [⟨some 55, .loadN 6 (.t 6), none⟩,
 ⟨some 56, .call 13 [(.t 55)], none⟩,
 ⟨some 11, .alloc [(.int .i64 (0 : Nat)), (.int .i64 (0 : Nat)), (.int .i64 (0 : Nat)), (.bool false), (.bool false), (.int .i64 (0 : Nat))], none⟩,
 ⟨none, .store 6 (.t 11) (.t 56), none⟩]
def F4u7 : List AIns := [⟨some 58, .loadN 4 (.t 1), none⟩,
 ⟨some 59, .loadN 6 (.t 11), none⟩,
 ⟨some 60, .call 11 [(.t 58), (.t 59), (.c .nils)], none⟩,
 ⟨some 57, .mov (.t 60), none⟩,
 ⟨some 61, .ext 0 (.t 57), none⟩,
 ⟨some 62, .ext 1 (.t 57), none⟩,
 ⟨some 63, .ext 2 (.t 57), none⟩,
 ⟨some 12, .alloc [(.int .i64 (0 : Nat)), (.int .i64 (0 : Nat)), (.int .i64 (0 : Nat)), (.bool false), (.bool false), (.int .i64 (0 : Nat))], none⟩,
 ⟨some 13, .alloc [(.bool false), (.int .i64 (0 : Nat)), .nils], none⟩,
 ⟨none, .store 6 (.t 12) (.t 61), none⟩,
 ⟨none, .store 3 (.t 13) (.t 62), none⟩,
 ⟨some 14, .mov (.t 63), none⟩]
def F4u8 : List AIns := [⟨some 73, .loadN 4 (.t 1), none⟩,
 ⟨some 74, .loadN 6 (.t 11), none⟩,
 ⟨some 75, .call 15 [(.t 73), (.t 74), (.c (.int .i64 (0 : Nat)))], none⟩,
 ⟨some 72, .mov (.t 75), none⟩,
 ⟨some 76, .ext 0 (.t 72), none⟩,
 ⟨some 77, .ext 1 (.t 72), none⟩,
 ⟨some 18, .alloc [(.int .i64 (0 : Nat)), (.int .i64 (0 : Nat)), (.int .i64 (0 : Nat)), (.bool false), (.bool false), (.int .i64 (0 : Nat))], none⟩,
 ⟨none, .store 6 (.t 18) (.t 76), none⟩,
 ⟨some 19, .mov (.t 77), none⟩]
def F4u9 : List AIns := [⟨some 79, .loadN 4 (.t 1), none⟩,
 ⟨some 80, .loadN 6 (.t 18), none⟩,
 ⟨some 81, .call 15 [(.t 79), (.t 80), (.c (.int .i64 (0 : Nat)))], none⟩,
 ⟨some 78, .mov (.t 81), none⟩,
 ⟨some 82, .ext 0 (.t 78), none⟩,
 ⟨some 83, .ext 1 (.t 78), none⟩,
 ⟨some 20, .alloc [(.int .i64 (0 : Nat)), (.int .i64 (0 : Nat)), (.int .i64 (0 : Nat)), (.bool false), (.bool false), (.int .i64 (0 : Nat))], none⟩,
 ⟨none, .store 6 (.t 20) (.t 82), none⟩,
 ⟨some 21, .mov (.t 83), none⟩]
def F4u10 : List AIns := [⟨some 85, .loadN 4 (.t 1), none⟩,
 ⟨some 86, .loadN 6 (.t 18), none⟩,
 ⟨some 87, .call 16 [(.t 85), (.t 86), (.c (.int .i64 (2 : Nat)))], none⟩,
 ⟨some 84, .mov (.t 87), none⟩,
 ⟨some 88, .ext 0 (.t 84), none⟩,
 ⟨some 89, .ext 1 (.t 84), none⟩,
 ⟨some 22, .alloc [(.int .i64 (0 : Nat)), (.int .i64 (0 : Nat)), (.int .i64 (0 : Nat)), (.bool false), (.bool false), (.int .i64 (0 : Nat))], none⟩,
 ⟨none, .store 6 (.t 22) (.t 88), none⟩,
 ⟨some 23, .mov (.t 89), none⟩]
def F4u11 : List AIns := [⟨some 90, .mov (.t 3), none⟩,
 ⟨some 91, .bin .eql (.t 90) (.c (.int .i64 (0 : Nat))), none⟩,
 ⟨some 92, .mov (.t 91), none⟩,
 ⟨some 93, .mov (.t 5), some (92, true)⟩,
 ⟨some 94, .bin .eql (.t 93) (.c (.int .i64 (3 : Nat))), some (92, true)⟩,
 ⟨some 95, .pick (.t 92) (.t 94) (.c (.bool false)), none⟩,
 ⟨some 96, .mov (.t 95), none⟩,
 ⟨some 97, .mov (.t 8), some (96, true)⟩,
 ⟨some 98, .bin .eql (.t 97) (.c (.int .i64 (0 : Nat))), some (96, true)⟩,
 ⟨some 99, .pick (.t 96) (.t 98) (.c (.bool false)), none⟩,
 ⟨some 100, .mov (.t 99), none⟩,
 ⟨some 101, .loadN 3 (.t 7), some (100, true)⟩,
 ⟨some 102, .loadN 3 (.t 9), some (100, true)⟩,
 ⟨some 103, .call 17 [(.t 101), (.t 102)], some (100, true)⟩,
 ⟨some 104, .pick (.t 100) (.t 103) (.c (.bool false)), none⟩,
 ⟨some 105, .mov (.t 104), none⟩,
 ⟨some 106, .faddr 5 (.t 6), some (105, true)⟩,
 ⟨some 107, .load1 (.t 106), some (105, true)⟩,
 ⟨some 108, .bin .eql (.t 107) (.c (.int .i64 (1 : Nat))), some (105, true)⟩,
 ⟨some 109, .pick (.t 105) (.t 108) (.c (.bool false)), none⟩,
 ⟨some 110, .mov (.t 109), none⟩,
 ⟨some 111, .mov (.t 14), some (110, true)⟩,
 ⟨some 112, .bin .eql (.t 111) (.c (.int .i64 (330 : Nat))), some (110, true)⟩,
 ⟨some 113, .pick (.t 110) (.t 112) (.c (.bool false)), none⟩,
 ⟨some 114, .mov (.t 113), none⟩,
 ⟨some 115, .mov (.t 17), some (114, true)⟩,
 ⟨some 116, .bin .eql (.t 115) (.c (.int .i64 (331 : Nat))), some (114, true)⟩,
 ⟨some 117, .pick (.t 114) (.t 116) (.c (.bool false)), none⟩,
 ⟨some 24, .mov (.t 117), none⟩]
def F4u12 : List AIns := [⟨some 118, .mov (.t 24), none⟩,
 ⟨some 119, .mov (.t 118), none⟩,
 ⟨some 120, .mov (.t 19), some (119, true)⟩,
 ⟨some 121, .bin .eql (.t 120) (.c (.int .i64 (0 : Nat))), some (119, true)⟩,
 ⟨some 122, .pick (.t 119) (.t 121) (.c (.bool false)), none⟩,
 ⟨some 123, .mov (.t 122), none⟩,
 ⟨some 124, .faddr 1 (.t 18), some (123, true)⟩,
 ⟨some 125, .load1 (.t 124), some (123, true)⟩,
 ⟨some 126, .bin .eql (.t 125) (.c (.int .i64 (0 : Nat))), some (123, true)⟩,
 ⟨some 127, .pick (.t 123) (.t 126) (.c (.bool false)), none⟩,
 ⟨some 128, .mov (.t 127), none⟩,
 ⟨some 129, .faddr 3 (.t 18), some (128, true)⟩,
 ⟨some 130, .load1 (.t 129), some (128, true)⟩,
 ⟨some 131, .pick (.t 128) (.t 130) (.c (.bool false)), none⟩,
 ⟨some 132, .mov (.t 131), none⟩,
 ⟨some 133, .mov (.t 21), some (132, true)⟩,
 ⟨some 134, .bin .eql (.t 133) (.c (.int .i64 (7 : Nat))), some (132, true)⟩,
 ⟨some 135, .pick (.t 132) (.t 134) (.c (.bool false)), none⟩,
 ⟨some 136, .mov (.t 135), none⟩,
 ⟨some 137, .mov (.t 23), some (136, true)⟩,
 ⟨some 138, .bin .eql (.t 137) (.c (.int .i64 (3 : Nat))), some (136, true)⟩,
 ⟨some 139, .pick (.t 136) (.t 138) (.c (.bool false)), none⟩,
 ⟨some 140, .mov (.t 139), none⟩,
 ⟨some 141, .faddr 2 (.t 7), some (140, true)⟩,
 ⟨some 142, .load1 (.t 141), some (140, true)⟩,
 ⟨some 143, .len .sl (.t 142), some (140, true)⟩,
 ⟨some 144, .bin .eql (.t 143) (.c (.int .i64 (1 : Nat))), some (140, true)⟩,
 ⟨some 145, .pick (.t 140) (.t 144) (.c (.bool false)), none⟩,
 ⟨some 0, .mov (.t 145), none⟩]
def F4u13 : List AIns := [⟨some 65, .loadN 4 (.t 1), none⟩,
 ⟨some 66, .loadN 6 (.t 2), none⟩,
 ⟨some 67, .call 14 [(.t 66)], none⟩,
 ⟨some 68, .call 11 [(.t 65), (.t 67), (.c .nils)], none⟩,
 ⟨some 64, .mov (.t 68), none⟩,
 ⟨some 69, .ext 0 (.t 64), none⟩,
 ⟨some 70, .ext 1 (.t 64), none⟩,
 ⟨some 71, .ext 2 (.t 64), none⟩,
 ⟨some 15, .alloc [(.int .i64 (0 : Nat)), (.int .i64 (0 : Nat)), (.int .i64 (0 : Nat)), (.bool false), (.bool false), (.int .i64 (0 : Nat))], none⟩,
 ⟨some 16, .alloc [(.bool false), (.int .i64 (0 : Nat)), .nils], none⟩,
 ⟨none, .store 6 (.t 15) (.t 69), none⟩,
 ⟨none, .store 3 (.t 16) (.t 70), none⟩,
 ⟨some 17, .mov (.t 71), none⟩]
def F4u13p : List IPh := [⟨[.one 0, .one 1, .res 8 0, .res 9 1], [], some 2⟩,
 ⟨[.again 0], [], some 3⟩,
 ⟨[.one 4, .one 5, .one 6, .one 7], [(8, 0), (9, 1)], some 10⟩,
 ⟨[.again 6, .again 7], [], some 11⟩,
 ⟨[.again 7, .one 12], [], none⟩]
def F4 : AFunc := ⟨0, List.replicate 146 und, [.tmp 0],
 (.seq
 (.reg F4u0)
 (.seq
 (.reg F4u1)
 (.seq
 (.reg F4u2)
 (.seq
 (.reg F4u3)
 (.seq
 (.reg F4u4)
 (.seq
 (.reg F4u5)
 (.seq
 (.reg F4u6)
 (.seq
 (.reg F4u7)
 (.seq
 (.dreg 2 F4u13 F4u13p)
 (.seq
 (.reg F4u8)
 (.seq
 (.reg F4u9)
 (.seq
 (.reg F4u10)
 (.seq
 (.reg F4u11)
 (.seq
 (.reg F4u12)
 .ret))))))))))))))⟩
/-! univocal/univocallaw33.example -/
def F9u0 : List AIns := [⟨some 0, .alloc [.nils, .nils, .nils, .nils], none⟩]
def F9u1 : List AIns := [⟨some 3, .bslice [(.int .i64 (0 : Nat))] 1 2 [(0, (.c (.int .i64 (2 : Nat)))), (1, (.c (.int .i64 (0 : Nat))))], none⟩,
 ⟨some 4, .build [.nils, (.int .i64 (0 : Nat)), (.int .i64 (0 : Nat)), (.bool false)] [(0, 1, (.t 3)), (1, 1, (.c (.int .i64 (1 : Nat)))), (3, 1, (.c (.bool true)))], none⟩,
 ⟨some 5, .bslice [.nils, (.int .i64 (0 : Nat)), (.int .i64 (0 : Nat)), (.bool false)] 4 1 [(0, (.t 4))], none⟩,
 ⟨some 6, .build [.nils, .nils, .nils, .nils] [(1, 1, (.t 5))], none⟩,
 ⟨some 1, .alloc [.nils, .nils, .nils, .nils], none⟩,
 ⟨none, .store 4 (.t 1) (.t 6), none⟩]
def F9u2 : List AIns := [⟨some 2, .mov (.c (.int .i64 (0 : Nat))), none⟩]
def F9u3 : List AIns := [⟨some 7, .mov (.t 2), none⟩,
 ⟨some 8, .bin .lss (.t 7) (.c (.int .i64 (3 : Nat))), none⟩]
def F9u4 : List AIns := [⟨some 9, .mov (.t 2), none⟩,
 ⟨some 10, .bin .add (.t 9) (.c (.int .i64 (1 : Nat))), none⟩,
 ⟨some 2, .mov (.t 10), none⟩]
def F9u5 : List AIns := [⟨some 20, .loadN 4 (.t 1), none⟩,
 ⟨none, .store 4 (.t 0) (.t 20), none⟩]
def F9u6 : List AIns := [⟨some 11, .faddr 0 (.t 1), none⟩,
 ⟨some 12, .load1 (.t 11), none⟩,
 ⟨some 13, .mov (.t 2), none⟩,
 ⟨some 14, .bin .mul (.c (.int .i64 (4 : Nat))) (.t 13), none⟩,
 ⟨some 15, .convI .u8 (.t 14), none⟩,
 ⟨some 16, .call 23 [(.t 15)], none⟩,
 ⟨some 17, .bslice [.nils, .nils] 2 1 [(0, (.t 16))], none⟩,
 ⟨some 18, .app 2 48 (.t 12) (.t 17), none⟩,
 ⟨some 19, .faddr 0 (.t 1), none⟩,
 ⟨none, .store 1 (.t 19) (.t 18), none⟩]
def F9u6p : List IPh := [⟨[.one 0, .one 1, .one 2, .one 3, .one 4], [], some 5⟩,
 ⟨[.again 0, .again 1, .res 6 0], [(6, 0)], some 7⟩,
 ⟨[.one 8], [], some 9⟩,
 ⟨[], [], none⟩]
def F9 : AFunc := ⟨0, List.replicate 21 und, [.cell 0 (some 4)],
 (.seq
 (.reg F9u0)
 (.seq
 (.reg F9u1)
 (.seq
 (.seq
 (.reg F9u2)
 (.block 0
 (.loop
 (.seq
 (.seq
 (.reg F9u3)
 (.cond (.t 8)
 .skip
 (.exit 0)))
 (.seq
 (.block 1
 (.dreg 1 F9u6 F9u6p))
 (.reg F9u4))))))
 (.seq
 (.reg F9u5)
 .ret))))⟩
/-! univocal/gateway.New -/
def F10u0 : List AIns := [⟨some 2, .box (.t 0), none⟩,
 ⟨some 4, .alloc [(.int .i64 (0 : Nat)), (.int .i64 (0 : Nat)), (.int .i64 (0 : Nat)), (.bool false), (.bool false), (.int .i64 (0 : Nat))], none⟩,
 ⟨some 5, .mov (.c (.int .i64 (0 : Nat))), none⟩]
def F10u1 : List AIns := [⟨some 7, .loadN 4 (.t 2), none⟩,
 ⟨some 8, .call 24 [(.t 7)], none⟩,
 ⟨some 9, .bin .neq (.t 8) (.c (.int .i64 (0 : Nat))), none⟩]
def F10u2 : List AIns := [⟨some 10, .build [(.int .i64 (0 : Nat)), (.int .i64 (0 : Nat)), (.int .i64 (0 : Nat)), (.bool false), (.bool false), (.int .i64 (0 : Nat))] [], none⟩,
 ⟨none, .store 6 (.t 4) (.t 10), none⟩,
 ⟨some 5, .mov (.c (.int .i64 (1 : Nat))), none⟩]
def F10u3 : List AIns := [⟨some 11, .mov (.t 1), none⟩,
 ⟨some 12, .bin .lss (.t 11) (.c (.int .i64 (0 : Nat))), none⟩,
 ⟨some 13, .mov (.t 12), none⟩,
 ⟨some 14, .mov (.t 1), some (13, false)⟩,
 ⟨some 15, .faddr 1 (.t 2), some (13, false)⟩,
 ⟨some 16, .load1 (.t 15), some (13, false)⟩,
 ⟨some 17, .len .sl (.t 16), some (13, false)⟩,
 ⟨some 18, .bin .geq (.t 14) (.t 17), some (13, false)⟩,
 ⟨some 19, .pick (.t 13) (.c (.bool true)) (.t 18), none⟩]
def F10u4 : List AIns := [⟨some 20, .build [(.int .i64 (0 : Nat)), (.int .i64 (0 : Nat)), (.int .i64 (0 : Nat)), (.bool false), (.bool false), (.int .i64 (0 : Nat))] [], none⟩,
 ⟨none, .store 6 (.t 4) (.t 20), none⟩,
 ⟨some 5, .mov (.c (.int .i64 (3 : Nat))), none⟩]
def F10u5 : List AIns := [⟨some 21, .faddr 1 (.t 2), none⟩,
 ⟨some 22, .load1 (.t 21), none⟩,
 ⟨some 23, .mov (.t 1), none⟩,
 ⟨some 24, .iaddrS 4 (.t 22) (.t 23), none⟩,
 ⟨some 25, .loadN 4 (.t 24), none⟩,
 ⟨some 6, .alloc [.nils, (.int .i64 (0 : Nat)), (.int .i64 (0 : Nat)), (.bool false)], none⟩,
 ⟨none, .store 4 (.t 6) (.t 25), none⟩]
def F10u6 : List AIns := [⟨some 26, .mov (.t 1), none⟩,
 ⟨some 27, .faddr 1 (.t 6), none⟩,
 ⟨some 28, .load1 (.t 27), none⟩,
 ⟨some 29, .faddr 2 (.t 6), none⟩,
 ⟨some 30, .load1 (.t 29), none⟩,
 ⟨some 31, .faddr 3 (.t 6), none⟩,
 ⟨some 32, .load1 (.t 31), none⟩,
 ⟨some 33, .build [(.int .i64 (0 : Nat)), (.int .i64 (0 : Nat)), (.int .i64 (0 : Nat)), (.bool false), (.bool false), (.int .i64 (0 : Nat))] [(0, 1, (.t 26)), (1, 1, (.t 28)), (2, 1, (.t 30)), (3, 1, (.t 32))], none⟩,
 ⟨none, .store 6 (.t 4) (.t 33), none⟩,
 ⟨some 5, .mov (.c (.int .i64 (0 : Nat))), none⟩]
def F10 : AFunc := ⟨2, List.replicate 32 und, [.cell 4 (some 6), .tmp 5],
 (.seq
 (.reg F10u0)
 (.seq
 (.seq
 (.reg F10u1)
 (.cond (.t 9)
 (.seq
 (.reg F10u2)
 .ret)
 .skip))
 (.seq
 (.seq
 (.reg F10u3)
 (.cond (.t 19)
 (.seq
 (.reg F10u4)
 .ret)
 .skip))
 (.seq
 (.reg F10u5)
 (.seq
 (.reg F10u6)
 .ret)))))⟩
/-! univocal/gateway.Handle -/
def F11u0 : List AIns := [⟨some 3, .box (.t 0), none⟩,
 ⟨some 4, .box (.t 1), none⟩,
 ⟨some 6, .alloc [(.int .i64 (0 : Nat)), (.int .i64 (0 : Nat)), (.int .i64 (0 : Nat)), (.bool false), (.bool false), (.int .i64 (0 : Nat))], none⟩,
 ⟨some 7, .alloc [(.bool false), (.int .i64 (0 : Nat)), .nils], none⟩,
 ⟨some 8, .mov (.c (.int .i64 (0 : Nat))), none⟩]
def F11u1 : List AIns := [⟨some 14, .loadN 4 (.t 3), none⟩,
 ⟨some 15, .loadN 6 (.t 4), none⟩,
 ⟨some 16, .call 25 [(.t 14), (.t 15)], none⟩,
 ⟨some 17, .un .not (.t 16), none⟩,
 ⟨some 18, .mov (.t 17), none⟩,
 ⟨some 19, .mov (.t 2), some (18, false)⟩,
 ⟨some 20, .len .sl (.t 19), some (18, false)⟩,
 ⟨some 21, .bin .gtr (.t 20) (.c (.int .i64 (4096 : Nat))), some (18, false)⟩,
 ⟨some 22, .pick (.t 18) (.c (.bool true)) (.t 21), none⟩]
def F11u2 : List AIns := [⟨some 23, .build [(.int .i64 (0 : Nat)), (.int .i64 (0 : Nat)), (.int .i64 (0 : Nat)), (.bool false), (.bool false), (.int .i64 (0 : Nat))] [], none⟩,
 ⟨some 24, .build [(.bool false), (.int .i64 (0 : Nat)), .nils] [], none⟩,
 ⟨none, .store 6 (.t 6) (.t 23), none⟩,
 ⟨none, .store 3 (.t 7) (.t 24), none⟩,
 ⟨some 8, .mov (.c (.int .i64 (1 : Nat))), none⟩]
def F11u3 : List AIns := [⟨some 25, .loadN 6 (.t 4), none⟩,
 ⟨some 26, .call 26 [(.t 25)], none⟩,
 ⟨some 9, .mov (.t 26), none⟩]
def F11u4 : List AIns := [⟨some 27, .mov (.t 9), none⟩,
 ⟨some 28, .bin .neq (.t 27) (.c (.int .i64 (0 : Nat))), none⟩]
def F11u5 : List AIns := [⟨some 29, .build [(.int .i64 (0 : Nat)), (.int .i64 (0 : Nat)), (.int .i64 (0 : Nat)), (.bool false), (.bool false), (.int .i64 (0 : Nat))] [], none⟩,
 ⟨some 30, .build [(.bool false), (.int .i64 (0 : Nat)), .nils] [], none⟩,
 ⟨some 31, .mov (.t 9), none⟩,
 ⟨none, .store 6 (.t 6) (.t 29), none⟩,
 ⟨none, .store 3 (.t 7) (.t 30), none⟩,
 ⟨some 8, .mov (.t 31), none⟩]
def F11u6 : List AIns := [⟨some 51, .mov (.t 11), none⟩,
 ⟨some 52, .bin .neq (.t 51) (.c (.int .i64 (0 : Nat))), none⟩]
def F11u7 : List AIns := [⟨some 53, .build [(.int .i64 (0 : Nat)), (.int .i64 (0 : Nat)), (.int .i64 (0 : Nat)), (.bool false), (.bool false), (.int .i64 (0 : Nat))] [], none⟩,
 ⟨some 54, .build [(.bool false), (.int .i64 (0 : Nat)), .nils] [], none⟩,
 ⟨some 55, .mov (.t 11), none⟩,
 ⟨none, .store 6 (.t 6) (.t 53), none⟩,
 ⟨none, .store 3 (.t 7) (.t 54), none⟩,
 ⟨some 8, .mov (.t 55), none⟩]
def F11u8 : List AIns := [⟨some 57, .loadN 5 (.t 10), none⟩,
 ⟨some 58, .mov (.t 2), none⟩,
 ⟨some 59, .call 28 [(.t 57), (.t 58), (.c (.int .i64 (1073741824 : Nat)))], none⟩,
 ⟨some 56, .mov (.t 59), none⟩,
 ⟨some 60, .ext 0 (.t 56), none⟩,
 ⟨some 61, .ext 1 (.t 56), none⟩,
 ⟨some 62, .ext 2 (.t 56), none⟩,
 ⟨some 12, .alloc [(.bool false), (.int .i64 (0 : Nat)), .nils], none⟩,
 ⟨none, .store 3 (.t 12) (.t 60), none⟩,
 ⟨some 13, .mov (.t 61), none⟩,
 ⟨some 11, .mov (.t 62), none⟩]
def F11u9 : List AIns := [⟨some 63, .mov (.t 11), none⟩,
 ⟨some 64, .bin .neq (.t 63) (.c (.int .i64 (0 : Nat))), none⟩]
def F11u10 : List AIns := [⟨some 65, .build [(.int .i64 (0 : Nat)), (.int .i64 (0 : Nat)), (.int .i64 (0 : Nat)), (.bool false), (.bool false), (.int .i64 (0 : Nat))] [], none⟩,
 ⟨some 66, .build [(.bool false), (.int .i64 (0 : Nat)), .nils] [], none⟩,
 ⟨some 67, .mov (.t 11), none⟩,
 ⟨none, .store 6 (.t 6) (.t 65), none⟩,
 ⟨none, .store 3 (.t 7) (.t 66), none⟩,
 ⟨some 8, .mov (.t 67), none⟩]
def F11u11 : List AIns := [⟨some 68, .faddr 5 (.t 4), none⟩,
 ⟨some 69, .load1 (.t 68), none⟩,
 ⟨some 70, .bin .add (.t 69) (.c (.int .i64 (1 : Nat))), none⟩,
 ⟨some 71, .faddr 5 (.t 4), none⟩,
 ⟨none, .store 1 (.t 71) (.t 70), none⟩]
def F11u12 : List AIns := [⟨some 33, .faddr 0 (.t 3), none⟩,
 ⟨some 34, .load1 (.t 33), none⟩,
 ⟨some 35, .faddr 1 (.t 3), none⟩,
 ⟨some 36, .load1 (.t 35), none⟩,
 ⟨some 37, .faddr 0 (.t 4), none⟩,
 ⟨some 38, .load1 (.t 37), none⟩,
 ⟨some 39, .iaddrS 4 (.t 36) (.t 38), none⟩,
 ⟨some 40, .faddr 0 (.t 39), none⟩,
 ⟨some 41, .load1 (.t 40), none⟩,
 ⟨some 42, .faddr 1 (.t 4), none⟩,
 ⟨some 43, .load1 (.t 42), none⟩,
 ⟨some 44, .iaddrS 1 (.t 41) (.t 43), none⟩,
 ⟨some 45, .load1 (.t 44), none⟩,
 ⟨some 46, .iaddrS 2 (.t 34) (.t 45), none⟩,
 ⟨some 47, .loadN 2 (.t 46), none⟩,
 ⟨some 48, .call 27 [(.t 47)], none⟩,
 ⟨some 32, .mov (.t 48), none⟩,
 ⟨some 49, .ext 0 (.t 32), none⟩,
 ⟨some 50, .ext 1 (.t 32), none⟩,
 ⟨some 10, .alloc [.nils, .nils, (.int .i64 (0 : Nat)), (.int .i64 (0 : Nat)), (.int .i64 (0 : Nat))], none⟩,
 ⟨none, .store 5 (.t 10) (.t 49), none⟩,
 ⟨some 11, .mov (.t 50), none⟩]
def F11u12p : List IPh := [⟨[.one 0, .one 1, .one 2, .one 3, .one 4, .one 5, .one 6, .one 7, .one 8, .one 9, .one 10, .one 11, .one 12, .one 13, .one 14, .res 19 0], [], some 15⟩,
 ⟨[.one 16, .one 17, .one 18], [(19, 0)], some 20⟩,
 ⟨[.again 18, .one 21], [], none⟩]
def F11u13 : List AIns := [⟨some 72, .loadN 6 (.t 4), none⟩,
 ⟨some 73, .loadN 3 (.t 12), none⟩,
 ⟨none, .store 6 (.t 6) (.t 72), none⟩,
 ⟨none, .store 3 (.t 7) (.t 73), none⟩,
 ⟨some 8, .mov (.c (.int .i64 (0 : Nat))), none⟩]
def F11u13p : List IPh := [⟨[.one 0, .one 1], [], some 2⟩,
 ⟨[.again 1], [], some 3⟩,
 ⟨[.one 4], [], none⟩]
def F11 : AFunc := ⟨3, List.replicate 71 und, [.cell 6 (some 6), .cell 7 (some 3), .tmp 8],
 (.seq
 (.reg F11u0)
 (.seq
 (.seq
 (.reg F11u1)
 (.cond (.t 22)
 (.seq
 (.reg F11u2)
 .ret)
 .skip))
 (.seq
 (.seq
 (.reg F11u3)
 (.seq
 (.reg F11u4)
 (.cond (.t 28)
 (.seq
 (.reg F11u5)
 .ret)
 .skip)))
 (.seq
 (.dreg 1 F11u12 F11u12p)
 (.seq
 (.seq
 (.reg F11u6)
 (.cond (.t 52)
 (.seq
 (.reg F11u7)
 .ret)
 .skip))
 (.seq
 (.reg F11u8)
 (.seq
 (.seq
 (.reg F11u9)
 (.cond (.t 64)
 (.seq
 (.reg F11u10)
 .ret)
 .skip))
 (.seq
 (.reg F11u11)
 (.seq
 (.dreg 0 F11u13 F11u13p)
 .ret)))))))))⟩
/-! univocal/interp.Run -/
def F12u0 : List AIns := [⟨some 2, .box (.t 0), none⟩,
 ⟨some 4, .alloc [(.bool false), (.int .i64 (0 : Nat)), .nils], none⟩,
 ⟨some 5, .mov (.c (.int .i64 (0 : Nat))), none⟩]
def F12u1 : List AIns := [⟨some 10, .loadN 2 (.t 2), none⟩,
 ⟨some 11, .mov (.t 1), none⟩,
 ⟨some 12, .call 29 [(.t 10), (.t 11)], none⟩,
 ⟨some 9, .mov (.t 12), none⟩,
 ⟨some 13, .ext 0 (.t 9), none⟩,
 ⟨some 14, .ext 1 (.t 9), none⟩,
 ⟨some 15, .ext 2 (.t 9), none⟩,
 ⟨some 7, .alloc [(.bool false), (.int .i64 (0 : Nat))], none⟩,
 ⟨some 6, .mov (.t 13), none⟩,
 ⟨none, .store 2 (.t 7) (.t 14), none⟩,
 ⟨some 8, .mov (.t 15), none⟩]
def F12u2 : List AIns := [⟨some 17, .mov (.t 8), none⟩,
 ⟨some 18, .bin .neq (.t 17) (.c (.int .i64 (0 : Nat))), none⟩,
 ⟨some 16, .mov (.t 18), none⟩]
def F12u3 : List AIns := [⟨some 19, .build [(.bool false), (.int .i64 (0 : Nat)), .nils] [], none⟩,
 ⟨some 20, .mov (.t 8), none⟩,
 ⟨none, .store 3 (.t 4) (.t 19), none⟩,
 ⟨some 5, .mov (.t 20), none⟩]
def F12u4 : List AIns := [⟨some 22, .faddr 0 (.t 7), none⟩,
 ⟨some 23, .load1 (.t 22), none⟩,
 ⟨some 24, .un .not (.t 23), none⟩,
 ⟨some 21, .mov (.t 24), none⟩]
def F12u5 : List AIns := [⟨some 25, .faddr 1 (.t 7), none⟩,
 ⟨some 26, .load1 (.t 25), none⟩,
 ⟨some 27, .build [(.bool false), (.int .i64 (0 : Nat)), .nils] [(1, 1, (.t 26))], none⟩,
 ⟨none, .store 3 (.t 4) (.t 27), none⟩,
 ⟨some 5, .mov (.c (.int .i64 (0 : Nat))), none⟩]
def F12u6 : List AIns := [⟨some 28, .mov (.t 6), none⟩,
 ⟨some 29, .nilchk (.t 28), none⟩,
 ⟨some 30, .faddr 4 (.t 29), none⟩,
 ⟨some 31, .load1 (.t 30), none⟩,
 ⟨some 32, .build [(.bool false), (.int .i64 (0 : Nat)), .nils] [(0, 1, (.c (.bool true))), (2, 1, (.t 31))], none⟩,
 ⟨none, .store 3 (.t 4) (.t 32), none⟩,
 ⟨some 5, .mov (.c (.int .i64 (0 : Nat))), none⟩]
def F12 : AFunc := ⟨2, List.replicate 31 und, [.cell 4 (some 3), .tmp 5],
 (.seq
 (.reg F12u0)
 (.seq
 (.reg F12u1)
 (.seq
 (.block 0
 (.seq
 (.reg F12u2)
 (.cond (.t 16)
 (.seq
 (.reg F12u3)
 .ret)
 (.seq
 (.reg F12u4)
 (.cond (.t 21)
 (.seq
 (.reg F12u5)
 .ret)
 .skip)))))
 (.seq
 (.reg F12u6)
 .ret))))⟩
/-! univocal/univocalref17.SameRecord -/
def F17u0 : List AIns := [⟨some 2, .box (.t 0), none⟩,
 ⟨some 3, .box (.t 1), none⟩,
 ⟨some 4, .mov (.c (.bool false)), none⟩]
def F17u1 : List AIns := [⟨some 6, .faddr 0 (.t 2), none⟩,
 ⟨some 7, .load1 (.t 6), none⟩,
 ⟨some 8, .faddr 0 (.t 3), none⟩,
 ⟨some 9, .load1 (.t 8), none⟩,
 ⟨some 10, .eq .bool true (.t 7) (.t 9), none⟩,
 ⟨some 11, .mov (.t 10), none⟩,
 ⟨some 12, .faddr 1 (.t 2), some (11, false)⟩,
 ⟨some 13, .load1 (.t 12), some (11, false)⟩,
 ⟨some 14, .faddr 1 (.t 3), some (11, false)⟩,
 ⟨some 15, .load1 (.t 14), some (11, false)⟩,
 ⟨some 16, .bin .neq (.t 13) (.t 15), some (11, false)⟩,
 ⟨some 17, .pick (.t 11) (.c (.bool true)) (.t 16), none⟩,
 ⟨some 18, .mov (.t 17), none⟩,
 ⟨some 19, .faddr 2 (.t 2), some (18, false)⟩,
 ⟨some 20, .load1 (.t 19), some (18, false)⟩,
 ⟨some 21, .len .sl (.t 20), some (18, false)⟩,
 ⟨some 22, .faddr 2 (.t 3), some (18, false)⟩,
 ⟨some 23, .load1 (.t 22), some (18, false)⟩,
 ⟨some 24, .len .sl (.t 23), some (18, false)⟩,
 ⟨some 25, .bin .neq (.t 21) (.t 24), some (18, false)⟩,
 ⟨some 26, .pick (.t 18) (.c (.bool true)) (.t 25), none⟩]
def F17u2 : List AIns := [⟨some 4, .mov (.c (.bool false)), none⟩]
def F17u3 : List AIns := [⟨some 5, .mov (.c (.int .i64 (0 : Nat))), none⟩]
def F17u4 : List AIns := [⟨some 27, .mov (.t 5), none⟩,
 ⟨some 28, .faddr 2 (.t 2), none⟩,
 ⟨some 29, .load1 (.t 28), none⟩,
 ⟨some 30, .len .sl (.t 29), none⟩,
 ⟨some 31, .bin .lss (.t 27) (.t 30), none⟩]
def F17u5 : List AIns := [⟨some 4, .mov (.c (.bool false)), none⟩]
def F17u6 : List AIns := [⟨some 32, .mov (.t 5), none⟩,
 ⟨some 33, .bin .add (.t 32) (.c (.int .i64 (1 : Nat))), none⟩,
 ⟨some 5, .mov (.t 33), none⟩]
def F17u7 : List AIns := [⟨some 4, .mov (.c (.bool true)), none⟩]
def F17u8 : List AIns := [⟨some 34, .faddr 2 (.t 2), none⟩,
 ⟨some 35, .load1 (.t 34), none⟩,
 ⟨some 36, .mov (.t 5), none⟩,
 ⟨some 37, .iaddrS 2 (.t 35) (.t 36), none⟩,
 ⟨some 38, .faddr 0 (.t 37), none⟩,
 ⟨some 39, .load1 (.t 38), none⟩,
 ⟨some 40, .faddr 2 (.t 3), none⟩,
 ⟨some 41, .load1 (.t 40), none⟩,
 ⟨some 42, .mov (.t 5), none⟩,
 ⟨some 43, .iaddrS 2 (.t 41) (.t 42), none⟩,
 ⟨some 44, .faddr 0 (.t 43), none⟩,
 ⟨some 45, .load1 (.t 44), none⟩,
 ⟨some 46, .bin .neq (.t 39) (.t 45), none⟩,
 ⟨some 47, .mov (.t 46), none⟩,
 ⟨some 48, .faddr 2 (.t 2), some (47, false)⟩,
 ⟨some 49, .load1 (.t 48), some (47, false)⟩,
 ⟨some 50, .mov (.t 5), some (47, false)⟩,
 ⟨some 51, .iaddrS 2 (.t 49) (.t 50), some (47, false)⟩,
 ⟨some 52, .faddr 1 (.t 51), some (47, false)⟩,
 ⟨some 53, .load1 (.t 52), some (47, false)⟩,
 ⟨some 54, .convBS (.t 53), some (47, false)⟩,
 ⟨some 55, .faddr 2 (.t 3), some (47, false)⟩,
 ⟨some 56, .load1 (.t 55), some (47, false)⟩,
 ⟨some 57, .mov (.t 5), some (47, false)⟩,
 ⟨some 58, .iaddrS 2 (.t 56) (.t 57), some (47, false)⟩,
 ⟨some 59, .faddr 1 (.t 58), some (47, false)⟩,
 ⟨some 60, .load1 (.t 59), some (47, false)⟩,
 ⟨some 61, .convBS (.t 60), some (47, false)⟩,
 ⟨some 62, .bin .neq (.t 54) (.t 61), some (47, false)⟩,
 ⟨some 63, .pick (.t 47) (.c (.bool true)) (.t 62), none⟩]
def F17u8p : List IPh := [⟨[.one 0, .one 1, .one 2, .one 3, .one 4, .one 5, .one 6, .one 7, .one 8, .one 9, .one 10, .one 11, .one 12, .one 13, .one 14, .one 15, .one 16, .one 17, .one 18, .one 19, .one 20, .one 21, .one 22, .one 23, .one 24, .one 25, .one 26, .one 27, .one 28, .one 29], [], none⟩]
def F17 : AFunc := ⟨2, List.replicate 62 und, [.tmp 4],
 (.seq
 (.reg F17u0)
 (.seq
 (.seq
 (.reg F17u1)
 (.cond (.t 26)
 (.seq
 (.reg F17u2)
 .ret)
 .skip))
 (.seq
 (.seq
 (.reg F17u3)
 (.block 0
 (.loop
 (.seq
 (.seq
 (.reg F17u4)
 (.cond (.t 31)
 .skip
 (.exit 0)))
 (.seq
 (.block 1
 (.seq
 (.dreg 0 F17u8 F17u8p)
 (.cond (.t 63)
 (.seq
 (.reg F17u5)
 .ret)
 .skip)))
 (.reg F17u6))))))
 (.seq
 (.reg F17u7)
 .ret))))⟩
/-! univocal/univocalref17.Small -/
def F23u0 : List AIns := [⟨some 2, .alloc [.nils, .nils], none⟩]
def F23u1 : List AIns := [⟨some 8, .build [(.int .i64 (0 : Nat)), (.int .i64 (0 : Nat)), (.int .i64 (0 : Nat)), (.int .i64 (0 : Nat)), (.int .i64 (0 : Nat)), (.int .i64 (0 : Nat)), (.int .i64 (0 : Nat)), .nils, (.bool false), (.int .i64 (0 : Nat)), .nils, .nils, (.int .u64 (0 : Nat)), (.int .u64 (0 : Nat)), (.int .u64 (0 : Nat)), (.int .u64 (0 : Nat)), (.int .i64 (0 : Nat)), (.int .i64 (0 : Nat)), (.int .i64 (0 : Nat)), (.int .i64 (0 : Nat)), (.bool false), .nils, .nils, (.int .i64 (0 : Nat)), (.bool false), (.int .i64 (0 : Nat)), (.int .i64 (0 : Nat)), (.int .i64 (0 : Nat)), (.int .i64 (0 : Nat)), .nils, (.str []), (.int .i64 (0 : Nat)), (.int .i64 (0 : Nat))] [(0, 1, (.c (.int .i64 (13 : Nat)))), (30, 1, (.c (.str [120])))], none⟩,
 ⟨some 3, .alloc [(.int .i64 (0 : Nat)), (.int .i64 (0 : Nat)), (.int .i64 (0 : Nat)), (.int .i64 (0 : Nat)), (.int .i64 (0 : Nat)), (.int .i64 (0 : Nat)), (.int .i64 (0 : Nat)), .nils, (.bool false), (.int .i64 (0 : Nat)), .nils, .nils, (.int .u64 (0 : Nat)), (.int .u64 (0 : Nat)), (.int .u64 (0 : Nat)), (.int .u64 (0 : Nat)), (.int .i64 (0 : Nat)), (.int .i64 (0 : Nat)), (.int .i64 (0 : Nat)), (.int .i64 (0 : Nat)), (.bool false), .nils, .nils, (.int .i64 (0 : Nat)), (.bool false), (.int .i64 (0 : Nat)), (.int .i64 (0 : Nat)), (.int .i64 (0 : Nat)), (.int .i64 (0 : Nat)), .nils, (.str []), (.int .i64 (0 : Nat)), (.int .i64 (0 : Nat))], none⟩,
 ⟨none, .store 33 (.t 3) (.t 8), none⟩]
def F23u2 : List AIns := [⟨some 9, .build [(.int .i64 (0 : Nat)), (.int .i64 (0 : Nat)), (.int .i64 (0 : Nat)), (.int .i64 (0 : Nat)), (.int .i64 (0 : Nat)), (.int .i64 (0 : Nat)), (.int .i64 (0 : Nat)), .nils, (.bool false), (.int .i64 (0 : Nat)), .nils, .nils, (.int .u64 (0 : Nat)), (.int .u64 (0 : Nat)), (.int .u64 (0 : Nat)), (.int .u64 (0 : Nat)), (.int .i64 (0 : Nat)), (.int .i64 (0 : Nat)), (.int .i64 (0 : Nat)), (.int .i64 (0 : Nat)), (.bool false), .nils, .nils, (.int .i64 (0 : Nat)), (.bool false), (.int .i64 (0 : Nat)), (.int .i64 (0 : Nat)), (.int .i64 (0 : Nat)), (.int .i64 (0 : Nat)), .nils, (.str []), (.int .i64 (0 : Nat)), (.int .i64 (0 : Nat))] [(0, 1, (.c (.int .i64 (13 : Nat)))), (30, 1, (.c (.str [120]))), (1, 1, (.c (.int .i64 (1 : Nat))))], none⟩,
 ⟨some 4, .alloc [(.int .i64 (0 : Nat)), (.int .i64 (0 : Nat)), (.int .i64 (0 : Nat)), (.int .i64 (0 : Nat)), (.int .i64 (0 : Nat)), (.int .i64 (0 : Nat)), (.int .i64 (0 : Nat)), .nils, (.bool false), (.int .i64 (0 : Nat)), .nils, .nils, (.int .u64 (0 : Nat)), (.int .u64 (0 : Nat)), (.int .u64 (0 : Nat)), (.int .u64 (0 : Nat)), (.int .i64 (0 : Nat)), (.int .i64 (0 : Nat)), (.int .i64 (0 : Nat)), (.int .i64 (0 : Nat)), (.bool false), .nils, .nils, (.int .i64 (0 : Nat)), (.bool false), (.int .i64 (0 : Nat)), (.int .i64 (0 : Nat)), (.int .i64 (0 : Nat)), (.int .i64 (0 : Nat)), .nils, (.str []), (.int .i64 (0 : Nat)), (.int .i64 (0 : Nat))], none⟩,
 ⟨none, .store 33 (.t 4) (.t 9), none⟩]
def F23u3 : List AIns := [⟨some 10, .build [(.int .i64 (0 : Nat)), (.int .i64 (0 : Nat)), (.int .i64 (0 : Nat)), (.int .i64 (0 : Nat)), (.int .i64 (0 : Nat)), (.int .i64 (0 : Nat)), (.int .i64 (0 : Nat)), .nils, (.bool false), (.int .i64 (0 : Nat)), .nils, .nils, (.int .u64 (0 : Nat)), (.int .u64 (0 : Nat)), (.int .u64 (0 : Nat)), (.int .u64 (0 : Nat)), (.int .i64 (0 : Nat)), (.int .i64 (0 : Nat)), (.int .i64 (0 : Nat)), (.int .i64 (0 : Nat)), (.bool false), .nils, .nils, (.int .i64 (0 : Nat)), (.bool false), (.int .i64 (0 : Nat)), (.int .i64 (0 : Nat)), (.int .i64 (0 : Nat)), (.int .i64 (0 : Nat)), .nils, (.str []), (.int .i64 (0 : Nat)), (.int .i64 (0 : Nat))] [(0, 1, (.c (.int .i64 (13 : Nat)))), (30, 1, (.c (.str [121]))), (1, 1, (.c (.int .i64 (2 : Nat))))], none⟩,
 ⟨some 5, .alloc [(.int .i64 (0 : Nat)), (.int .i64 (0 : Nat)), (.int .i64 (0 : Nat)), (.int .i64 (0 : Nat)), (.int .i64 (0 : Nat)), (.int .i64 (0 : Nat)), (.int .i64 (0 : Nat)), .nils, (.bool false), (.int .i64 (0 : Nat)), .nils, .nils, (.int .u64 (0 : Nat)), (.int .u64 (0 : Nat)), (.int .u64 (0 : Nat)), (.int .u64 (0 : Nat)), (.int .i64 (0 : Nat)), (.int .i64 (0 : Nat)), (.int .i64 (0 : Nat)), (.int .i64 (0 : Nat)), (.bool false), .nils, .nils, (.int .i64 (0 : Nat)), (.bool false), (.int .i64 (0 : Nat)), (.int .i64 (0 : Nat)), (.int .i64 (0 : Nat)), (.int .i64 (0 : Nat)), .nils, (.str []), (.int .i64 (0 : Nat)), (.int .i64 (0 : Nat))], none⟩,
 ⟨none, .store 33 (.t 5) (.t 10), none⟩]
def F23u4 : List AIns := [⟨some 11, .bslice [(.int .u8 (0 : Nat))] 1 1 [(0, (.c (.int .u8 (97 : Nat))))], none⟩,
 ⟨some 12, .build [(.int .i64 (0 : Nat)), (.int .i64 (0 : Nat)), (.int .i64 (0 : Nat)), (.int .i64 (0 : Nat)), (.int .i64 (0 : Nat)), (.int .i64 (0 : Nat)), (.int .i64 (0 : Nat)), .nils, (.bool false), (.int .i64 (0 : Nat)), .nils, .nils, (.int .u64 (0 : Nat)), (.int .u64 (0 : Nat)), (.int .u64 (0 : Nat)), (.int .u64 (0 : Nat)), (.int .i64 (0 : Nat)), (.int .i64 (0 : Nat)), (.int .i64 (0 : Nat)), (.int .i64 (0 : Nat)), (.bool false), .nils, .nils, (.int .i64 (0 : Nat)), (.bool false), (.int .i64 (0 : Nat)), (.int .i64 (0 : Nat)), (.int .i64 (0 : Nat)), (.int .i64 (0 : Nat)), .nils, (.str []), (.int .i64 (0 : Nat)), (.int .i64 (0 : Nat))] [(0, 1, (.c (.int .i64 (3 : Nat)))), (2, 1, (.c (.int .i64 (1 : Nat)))), (3, 1, (.c (.int .i64 (2 : Nat)))), (7, 1, (.t 11))], none⟩,
 ⟨some 6, .alloc [(.int .i64 (0 : Nat)), (.int .i64 (0 : Nat)), (.int .i64 (0 : Nat)), (.int .i64 (0 : Nat)), (.int .i64 (0 : Nat)), (.int .i64 (0 : Nat)), (.int .i64 (0 : Nat)), .nils, (.bool false), (.int .i64 (0 : Nat)), .nils, .nils, (.int .u64 (0 : Nat)), (.int .u64 (0 : Nat)), (.int .u64 (0 : Nat)), (.int .u64 (0 : Nat)), (.int .i64 (0 : Nat)), (.int .i64 (0 : Nat)), (.int .i64 (0 : Nat)), (.int .i64 (0 : Nat)), (.bool false), .nils, .nils, (.int .i64 (0 : Nat)), (.bool false), (.int .i64 (0 : Nat)), (.int .i64 (0 : Nat)), (.int .i64 (0 : Nat)), (.int .i64 (0 : Nat)), .nils, (.str []), (.int .i64 (0 : Nat)), (.int .i64 (0 : Nat))], none⟩,
 ⟨none, .store 33 (.t 6) (.t 12), none⟩]
def F23u5 : List AIns := [⟨some 13, .loadN 33 (.t 6), none⟩,
 ⟨some 7, .alloc [(.int .i64 (0 : Nat)), (.int .i64 (0 : Nat)), (.int .i64 (0 : Nat)), (.int .i64 (0 : Nat)), (.int .i64 (0 : Nat)), (.int .i64 (0 : Nat)), (.int .i64 (0 : Nat)), .nils, (.bool false), (.int .i64 (0 : Nat)), .nils, .nils, (.int .u64 (0 : Nat)), (.int .u64 (0 : Nat)), (.int .u64 (0 : Nat)), (.int .u64 (0 : Nat)), (.int .i64 (0 : Nat)), (.int .i64 (0 : Nat)), (.int .i64 (0 : Nat)), (.int .i64 (0 : Nat)), (.bool false), .nils, .nils, (.int .i64 (0 : Nat)), (.bool false), (.int .i64 (0 : Nat)), (.int .i64 (0 : Nat)), (.int .i64 (0 : Nat)), (.int .i64 (0 : Nat)), .nils, (.str []), (.int .i64 (0 : Nat)), (.int .i64 (0 : Nat))], none⟩,
 ⟨none, .store 33 (.t 7) (.t 13), none⟩]
def F23u6 : List AIns := [⟨some 14, .faddr 8 (.t 7), none⟩,
 ⟨none, .store 1 (.t 14) (.c (.bool true)), none⟩]
def F23u7 : List AIns := [⟨some 15, .mov (.t 0), none⟩,
 ⟨some 16, .bin .rem (.t 15) (.c (.int .u8 (14 : Nat))), none⟩]
def F23u8 : List AIns := [⟨some 18, .bin .eql (.t 16) (.c (.int .u8 (0 : Nat))), none⟩,
 ⟨some 17, .mov (.t 18), none⟩]
def F23u9 : List AIns := [⟨some 19, .loadN 33 (.t 3), none⟩,
 ⟨some 20, .bslice [(.int .i64 (0 : Nat)), (.int .i64 (0 : Nat)), (.int .i64 (0 : Nat)), (.int .i64 (0 : Nat)), (.int .i64 (0 : Nat)), (.int .i64 (0 : Nat)), (.int .i64 (0 : Nat)), .nils, (.bool false), (.int .i64 (0 : Nat)), .nils, .nils, (.int .u64 (0 : Nat)), (.int .u64 (0 : Nat)), (.int .u64 (0 : Nat)), (.int .u64 (0 : Nat)), (.int .i64 (0 : Nat)), (.int .i64 (0 : Nat)), (.int .i64 (0 : Nat)), (.int .i64 (0 : Nat)), (.bool false), .nils, .nils, (.int .i64 (0 : Nat)), (.bool false), (.int .i64 (0 : Nat)), (.int .i64 (0 : Nat)), (.int .i64 (0 : Nat)), (.int .i64 (0 : Nat)), .nils, (.str []), (.int .i64 (0 : Nat)), (.int .i64 (0 : Nat))] 33 1 [(0, (.t 19))], none⟩,
 ⟨some 21, .call 44 [(.t 20)], none⟩,
 ⟨none, .store 2 (.t 2) (.t 21), none⟩]
def F23u10 : List AIns := [⟨some 23, .bin .eql (.t 16) (.c (.int .u8 (1 : Nat))), none⟩,
 ⟨some 22, .mov (.t 23), none⟩]
def F23u11 : List AIns := [⟨some 24, .loadN 33 (.t 6), none⟩,
 ⟨some 25, .loadN 33 (.t 4), none⟩,
 ⟨some 26, .loadN 33 (.t 5), none⟩,
 ⟨some 27, .bslice [(.int .i64 (0 : Nat)), (.int .i64 (0 : Nat)), (.int .i64 (0 : Nat)), (.int .i64 (0 : Nat)), (.int .i64 (0 : Nat)), (.int .i64 (0 : Nat)), (.int .i64 (0 : Nat)), .nils, (.bool false), (.int .i64 (0 : Nat)), .nils, .nils, (.int .u64 (0 : Nat)), (.int .u64 (0 : Nat)), (.int .u64 (0 : Nat)), (.int .u64 (0 : Nat)), (.int .i64 (0 : Nat)), (.int .i64 (0 : Nat)), (.int .i64 (0 : Nat)), (.int .i64 (0 : Nat)), (.bool false), .nils, .nils, (.int .i64 (0 : Nat)), (.bool false), (.int .i64 (0 : Nat)), (.int .i64 (0 : Nat)), (.int .i64 (0 : Nat)), (.int .i64 (0 : Nat)), .nils, (.str []), (.int .i64 (0 : Nat)), (.int .i64 (0 : Nat))] 33 3 [(0, (.t 24)), (1, (.t 25)), (2, (.t 26))], none⟩,
 ⟨some 28, .call 45 [(.t 27)], none⟩,
 ⟨none, .store 2 (.t 2) (.t 28), none⟩]
def F23u12 : List AIns := [⟨some 30, .bin .eql (.t 16) (.c (.int .u8 (2 : Nat))), none⟩,
 ⟨some 29, .mov (.t 30), none⟩]
def F23u13 : List AIns := [⟨some 31, .loadN 33 (.t 7), none⟩,
 ⟨some 32, .loadN 33 (.t 4), none⟩,
 ⟨some 33, .loadN 33 (.t 5), none⟩,
 ⟨some 34, .bslice [(.int .i64 (0 : Nat)), (.int .i64 (0 : Nat)), (.int .i64 (0 : Nat)), (.int .i64 (0 : Nat)), (.int .i64 (0 : Nat)), (.int .i64 (0 : Nat)), (.int .i64 (0 : Nat)), .nils, (.bool false), (.int .i64 (0 : Nat)), .nils, .nils, (.int .u64 (0 : Nat)), (.int .u64 (0 : Nat)), (.int .u64 (0 : Nat)), (.int .u64 (0 : Nat)), (.int .i64 (0 : Nat)), (.int .i64 (0 : Nat)), (.int .i64 (0 : Nat)), (.int .i64 (0 : Nat)), (.bool false), .nils, .nils, (.int .i64 (0 : Nat)), (.bool false), (.int .i64 (0 : Nat)), (.int .i64 (0 : Nat)), (.int .i64 (0 : Nat)), (.int .i64 (0 : Nat)), .nils, (.str []), (.int .i64 (0 : Nat)), (.int .i64 (0 : Nat))] 33 3 [(0, (.t 31)), (1, (.t 32)), (2, (.t 33))], none⟩,
 ⟨some 35, .call 45 [(.t 34)], none⟩,
 ⟨none, .store 2 (.t 2) (.t 35), none⟩]
def F23u14 : List AIns := [⟨some 37, .bin .eql (.t 16) (.c (.int .u8 (3 : Nat))), none⟩,
 ⟨some 36, .mov (.t 37), none⟩]
def F23u15 : List AIns := [⟨some 44, .bin .eql (.t 16) (.c (.int .u8 (4 : Nat))), none⟩,
 ⟨some 43, .mov (.t 44), none⟩]
def F23u16 : List AIns := [⟨some 51, .bin .eql (.t 16) (.c (.int .u8 (5 : Nat))), none⟩,
 ⟨some 50, .mov (.t 51), none⟩]
def F23u17 : List AIns := [⟨some 58, .bin .eql (.t 16) (.c (.int .u8 (6 : Nat))), none⟩,
 ⟨some 57, .mov (.t 58), none⟩]
def F23u18 : List AIns := [⟨some 59, .call 49 [(.c (.int .i64 (0 : Nat)))], none⟩,
 ⟨some 60, .build [(.int .i64 (0 : Nat)), (.bool false), (.int .i64 (0 : Nat)), (.int .i64 (0 : Nat)), (.int .i64 (0 : Nat)), (.int .i64 (0 : Nat)), .nils] [(0, 1, (.c (.int .i64 (1 : Nat)))), (6, 1, (.t 59))], none⟩,
 ⟨some 61, .call 48 [(.t 60)], none⟩,
 ⟨none, .store 2 (.t 2) (.t 61), none⟩]
def F23u19 : List AIns := [⟨some 63, .bin .eql (.t 16) (.c (.int .u8 (7 : Nat))), none⟩,
 ⟨some 62, .mov (.t 63), none⟩]
def F23u20 : List AIns := [⟨some 64, .build [(.int .i64 (0 : Nat)), (.int .i64 (0 : Nat)), (.int .i64 (0 : Nat)), (.int .i64 (0 : Nat)), (.int .i64 (0 : Nat)), (.int .i64 (0 : Nat)), (.int .i64 (0 : Nat)), .nils, (.bool false), (.int .i64 (0 : Nat)), .nils, .nils, (.int .u64 (0 : Nat)), (.int .u64 (0 : Nat)), (.int .u64 (0 : Nat)), (.int .u64 (0 : Nat)), (.int .i64 (0 : Nat)), (.int .i64 (0 : Nat)), (.int .i64 (0 : Nat)), (.int .i64 (0 : Nat)), (.bool false), .nils, .nils, (.int .i64 (0 : Nat)), (.bool false), (.int .i64 (0 : Nat)), (.int .i64 (0 : Nat)), (.int .i64 (0 : Nat)), (.int .i64 (0 : Nat)), .nils, (.str []), (.int .i64 (0 : Nat)), (.int .i64 (0 : Nat))] [(0, 1, (.c (.int .i64 (4 : Nat)))), (2, 1, (.c (.int .i64 (1 : Nat)))), (5, 1, (.c (.int .i64 (0 : Nat)))), (6, 1, (.c (.int .i64 (1 : Nat))))], none⟩,
 ⟨some 65, .loadN 33 (.t 4), none⟩,
 ⟨some 66, .bslice [(.int .i64 (0 : Nat)), (.int .i64 (0 : Nat)), (.int .i64 (0 : Nat)), (.int .i64 (0 : Nat)), (.int .i64 (0 : Nat)), (.int .i64 (0 : Nat)), (.int .i64 (0 : Nat)), .nils, (.bool false), (.int .i64 (0 : Nat)), .nils, .nils, (.int .u64 (0 : Nat)), (.int .u64 (0 : Nat)), (.int .u64 (0 : Nat)), (.int .u64 (0 : Nat)), (.int .i64 (0 : Nat)), (.int .i64 (0 : Nat)), (.int .i64 (0 : Nat)), (.int .i64 (0 : Nat)), (.bool false), .nils, .nils, (.int .i64 (0 : Nat)), (.bool false), (.int .i64 (0 : Nat)), (.int .i64 (0 : Nat)), (.int .i64 (0 : Nat)), (.int .i64 (0 : Nat)), .nils, (.str []), (.int .i64 (0 : Nat)), (.int .i64 (0 : Nat))] 33 2 [(0, (.t 64)), (1, (.t 65))], none⟩,
 ⟨some 67, .call 44 [(.t 66)], none⟩,
 ⟨none, .store 2 (.t 2) (.t 67), none⟩]
def F23u21 : List AIns := [⟨some 69, .bin .eql (.t 16) (.c (.int .u8 (8 : Nat))), none⟩,
 ⟨some 68, .mov (.t 69), none⟩]
def F23u22 : List AIns := [⟨some 70, .build [(.int .i64 (0 : Nat)), (.int .i64 (0 : Nat)), (.int .i64 (0 : Nat)), (.int .i64 (0 : Nat)), (.int .i64 (0 : Nat)), (.int .i64 (0 : Nat)), (.int .i64 (0 : Nat)), .nils, (.bool false), (.int .i64 (0 : Nat)), .nils, .nils, (.int .u64 (0 : Nat)), (.int .u64 (0 : Nat)), (.int .u64 (0 : Nat)), (.int .u64 (0 : Nat)), (.int .i64 (0 : Nat)), (.int .i64 (0 : Nat)), (.int .i64 (0 : Nat)), (.int .i64 (0 : Nat)), (.bool false), .nils, .nils, (.int .i64 (0 : Nat)), (.bool false), (.int .i64 (0 : Nat)), (.int .i64 (0 : Nat)), (.int .i64 (0 : Nat)), (.int .i64 (0 : Nat)), .nils, (.str []), (.int .i64 (0 : Nat)), (.int .i64 (0 : Nat))] [(0, 1, (.c (.int .i64 (4 : Nat)))), (2, 1, (.c (.int .i64 (1 : Nat)))), (5, 1, (.c (.int .i64 (1 : Nat)))), (6, 1, (.c (.int .i64 (.negSucc 0))))], none⟩,
 ⟨some 71, .loadN 33 (.t 4), none⟩,
 ⟨some 72, .bslice [(.int .i64 (0 : Nat)), (.int .i64 (0 : Nat)), (.int .i64 (0 : Nat)), (.int .i64 (0 : Nat)), (.int .i64 (0 : Nat)), (.int .i64 (0 : Nat)), (.int .i64 (0 : Nat)), .nils, (.bool false), (.int .i64 (0 : Nat)), .nils, .nils, (.int .u64 (0 : Nat)), (.int .u64 (0 : Nat)), (.int .u64 (0 : Nat)), (.int .u64 (0 : Nat)), (.int .i64 (0 : Nat)), (.int .i64 (0 : Nat)), (.int .i64 (0 : Nat)), (.int .i64 (0 : Nat)), (.bool false), .nils, .nils, (.int .i64 (0 : Nat)), (.bool false), (.int .i64 (0 : Nat)), (.int .i64 (0 : Nat)), (.int .i64 (0 : Nat)), (.int .i64 (0 : Nat)), .nils, (.str []), (.int .i64 (0 : Nat)), (.int .i64 (0 : Nat))] 33 2 [(0, (.t 70)), (1, (.t 71))], none⟩,
 ⟨some 73, .call 44 [(.t 72)], none⟩,
 ⟨none, .store 2 (.t 2) (.t 73), none⟩]
def F23u23 : List AIns := [⟨some 75, .bin .eql (.t 16) (.c (.int .u8 (9 : Nat))), none⟩,
 ⟨some 74, .mov (.t 75), none⟩]
def F23u24 : List AIns := [⟨some 76, .call 50 [], none⟩,
 ⟨none, .store 2 (.t 2) (.t 76), none⟩]
def F23u25 : List AIns := [⟨some 78, .bin .eql (.t 16) (.c (.int .u8 (10 : Nat))), none⟩,
 ⟨some 77, .mov (.t 78), none⟩]
def F23u26 : List AIns := [⟨some 90, .bin .eql (.t 16) (.c (.int .u8 (11 : Nat))), none⟩,
 ⟨some 89, .mov (.t 90), none⟩]
def F23u27 : List AIns := [⟨some 103, .bin .eql (.t 16) (.c (.int .u8 (12 : Nat))), none⟩,
 ⟨some 102, .mov (.t 103), none⟩]
def F23u28 : List AIns := [⟨some 104, .build [(.int .i64 (0 : Nat)), (.bool false), (.int .i64 (0 : Nat)), (.int .i64 (0 : Nat)), (.int .i64 (0 : Nat)), (.int .i64 (0 : Nat)), .nils] [(0, 1, (.c (.int .i64 (3 : Nat)))), (5, 1, (.c (.int .i64 (2 : Nat))))], none⟩,
 ⟨some 105, .call 48 [(.t 104)], none⟩,
 ⟨none, .store 2 (.t 2) (.t 105), none⟩]
def F23u29 : List AIns := [⟨some 106, .build [(.int .i64 (0 : Nat)), (.int .i64 (0 : Nat)), (.int .i64 (0 : Nat)), (.int .i64 (0 : Nat)), (.bool false)] [(0, 1, (.c (.int .i64 (16 : Nat)))), (1, 1, (.c (.int .i64 (2 : Nat)))), (2, 1, (.c (.int .i64 (11 : Nat)))), (3, 1, (.c (.int .i64 (2 : Nat))))], none⟩,
 ⟨some 107, .build [(.int .i64 (0 : Nat)), (.int .i64 (0 : Nat)), (.int .i64 (0 : Nat)), (.int .i64 (0 : Nat)), (.int .i64 (0 : Nat)), (.int .i64 (0 : Nat)), (.int .i64 (0 : Nat)), .nils, (.bool false), (.int .i64 (0 : Nat)), .nils, .nils, (.int .u64 (0 : Nat)), (.int .u64 (0 : Nat)), (.int .u64 (0 : Nat)), (.int .u64 (0 : Nat)), (.int .i64 (0 : Nat)), (.int .i64 (0 : Nat)), (.int .i64 (0 : Nat)), (.int .i64 (0 : Nat)), (.bool false), .nils, .nils, (.int .i64 (0 : Nat)), (.bool false), (.int .i64 (0 : Nat)), (.int .i64 (0 : Nat)), (.int .i64 (0 : Nat)), (.int .i64 (0 : Nat)), .nils, (.str []), (.int .i64 (0 : Nat)), (.int .i64 (0 : Nat))] [(0, 1, (.c (.int .i64 (8 : Nat)))), (16, 5, (.t 106))], none⟩,
 ⟨some 108, .loadN 33 (.t 3), none⟩,
 ⟨some 109, .bslice [(.int .i64 (0 : Nat)), (.int .i64 (0 : Nat)), (.int .i64 (0 : Nat)), (.int .i64 (0 : Nat)), (.int .i64 (0 : Nat)), (.int .i64 (0 : Nat)), (.int .i64 (0 : Nat)), .nils, (.bool false), (.int .i64 (0 : Nat)), .nils, .nils, (.int .u64 (0 : Nat)), (.int .u64 (0 : Nat)), (.int .u64 (0 : Nat)), (.int .u64 (0 : Nat)), (.int .i64 (0 : Nat)), (.int .i64 (0 : Nat)), (.int .i64 (0 : Nat)), (.int .i64 (0 : Nat)), (.bool false), .nils, .nils, (.int .i64 (0 : Nat)), (.bool false), (.int .i64 (0 : Nat)), (.int .i64 (0 : Nat)), (.int .i64 (0 : Nat)), (.int .i64 (0 : Nat)), .nils, (.str []), (.int .i64 (0 : Nat)), (.int .i64 (0 : Nat))] 33 2 [(0, (.t 107)), (1, (.t 108))], none⟩,
 ⟨some 110, .call 45 [(.t 109)], none⟩,
 ⟨none, .store 2 (.t 2) (.t 110), none⟩]
def F23u30 : List AIns := [⟨some 38, .call 46 [(.c (.int .i64 (1 : Nat)))], none⟩,
 ⟨some 39, .build [(.int .i64 (0 : Nat)), (.int .i64 (0 : Nat)), (.int .i64 (0 : Nat)), (.int .i64 (0 : Nat)), (.int .i64 (0 : Nat)), (.int .i64 (0 : Nat)), (.int .i64 (0 : Nat)), .nils, (.bool false), (.int .i64 (0 : Nat)), .nils, .nils, (.int .u64 (0 : Nat)), (.int .u64 (0 : Nat)), (.int .u64 (0 : Nat)), (.int .u64 (0 : Nat)), (.int .i64 (0 : Nat)), (.int .i64 (0 : Nat)), (.int .i64 (0 : Nat)), (.int .i64 (0 : Nat)), (.bool false), .nils, .nils, (.int .i64 (0 : Nat)), (.bool false), (.int .i64 (0 : Nat)), (.int .i64 (0 : Nat)), (.int .i64 (0 : Nat)), (.int .i64 (0 : Nat)), .nils, (.str []), (.int .i64 (0 : Nat)), (.int .i64 (0 : Nat))] [(0, 1, (.c (.int .i64 (7 : Nat)))), (2, 1, (.c (.int .i64 (1 : Nat)))), (12, 4, (.t 38))], none⟩,
 ⟨some 40, .loadN 33 (.t 4), none⟩,
 ⟨some 41, .bslice [(.int .i64 (0 : Nat)), (.int .i64 (0 : Nat)), (.int .i64 (0 : Nat)), (.int .i64 (0 : Nat)), (.int .i64 (0 : Nat)), (.int .i64 (0 : Nat)), (.int .i64 (0 : Nat)), .nils, (.bool false), (.int .i64 (0 : Nat)), .nils, .nils, (.int .u64 (0 : Nat)), (.int .u64 (0 : Nat)), (.int .u64 (0 : Nat)), (.int .u64 (0 : Nat)), (.int .i64 (0 : Nat)), (.int .i64 (0 : Nat)), (.int .i64 (0 : Nat)), (.int .i64 (0 : Nat)), (.bool false), .nils, .nils, (.int .i64 (0 : Nat)), (.bool false), (.int .i64 (0 : Nat)), (.int .i64 (0 : Nat)), (.int .i64 (0 : Nat)), (.int .i64 (0 : Nat)), .nils, (.str []), (.int .i64 (0 : Nat)), (.int .i64 (0 : Nat))] 33 2 [(0, (.t 39)), (1, (.t 40))], none⟩,
 ⟨some 42, .call 44 [(.t 41)], none⟩,
 ⟨none, .store 2 (.t 2) (.t 42), none⟩]
def F23u30p : List IPh := [⟨[.one 2], [], some 0⟩,
 ⟨[.one 1, .again 2, .res 3 0], [(3, 0)], some 4⟩,
 ⟨[], [], some 5⟩,
 ⟨[], [], none⟩]
def F23u31 : List AIns := [⟨some 45, .call 47 [(.c (.int .i64 (2 : Nat)))], none⟩,
 ⟨some 46, .build [(.int .i64 (0 : Nat)), (.int .i64 (0 : Nat)), (.int .i64 (0 : Nat)), (.int .i64 (0 : Nat)), (.int .i64 (0 : Nat)), (.int .i64 (0 : Nat)), (.int .i64 (0 : Nat)), .nils, (.bool false), (.int .i64 (0 : Nat)), .nils, .nils, (.int .u64 (0 : Nat)), (.int .u64 (0 : Nat)), (.int .u64 (0 : Nat)), (.int .u64 (0 : Nat)), (.int .i64 (0 : Nat)), (.int .i64 (0 : Nat)), (.int .i64 (0 : Nat)), (.int .i64 (0 : Nat)), (.bool false), .nils, .nils, (.int .i64 (0 : Nat)), (.bool false), (.int .i64 (0 : Nat)), (.int .i64 (0 : Nat)), (.int .i64 (0 : Nat)), (.int .i64 (0 : Nat)), .nils, (.str []), (.int .i64 (0 : Nat)), (.int .i64 (0 : Nat))] [(0, 1, (.c (.int .i64 (6 : Nat)))), (2, 1, (.c (.int .i64 (1 : Nat)))), (9, 3, (.t 45))], none⟩,
 ⟨some 47, .loadN 33 (.t 4), none⟩,
 ⟨some 48, .bslice [(.int .i64 (0 : Nat)), (.int .i64 (0 : Nat)), (.int .i64 (0 : Nat)), (.int .i64 (0 : Nat)), (.int .i64 (0 : Nat)), (.int .i64 (0 : Nat)), (.int .i64 (0 : Nat)), .nils, (.bool false), (.int .i64 (0 : Nat)), .nils, .nils, (.int .u64 (0 : Nat)), (.int .u64 (0 : Nat)), (.int .u64 (0 : Nat)), (.int .u64 (0 : Nat)), (.int .i64 (0 : Nat)), (.int .i64 (0 : Nat)), (.int .i64 (0 : Nat)), (.int .i64 (0 : Nat)), (.bool false), .nils, .nils, (.int .i64 (0 : Nat)), (.bool false), (.int .i64 (0 : Nat)), (.int .i64 (0 : Nat)), (.int .i64 (0 : Nat)), (.int .i64 (0 : Nat)), .nils, (.str []), (.int .i64 (0 : Nat)), (.int .i64 (0 : Nat))] 33 2 [(0, (.t 46)), (1, (.t 47))], none⟩,
 ⟨some 49, .call 44 [(.t 48)], none⟩,
 ⟨none, .store 2 (.t 2) (.t 49), none⟩]
def F23u31p : List IPh := [⟨[.one 2], [], some 0⟩,
 ⟨[.one 1, .again 2, .res 3 0], [(3, 0)], some 4⟩,
 ⟨[], [], some 5⟩,
 ⟨[], [], none⟩]
def F23u32 : List AIns := [⟨some 52, .call 47 [(.c (.int .i64 (3 : Nat)))], none⟩,
 ⟨some 53, .build [(.int .i64 (0 : Nat)), (.int .i64 (0 : Nat)), (.int .i64 (0 : Nat)), (.int .i64 (0 : Nat)), (.int .i64 (0 : Nat)), (.int .i64 (0 : Nat)), (.int .i64 (0 : Nat)), .nils, (.bool false), (.int .i64 (0 : Nat)), .nils, .nils, (.int .u64 (0 : Nat)), (.int .u64 (0 : Nat)), (.int .u64 (0 : Nat)), (.int .u64 (0 : Nat)), (.int .i64 (0 : Nat)), (.int .i64 (0 : Nat)), (.int .i64 (0 : Nat)), (.int .i64 (0 : Nat)), (.bool false), .nils, .nils, (.int .i64 (0 : Nat)), (.bool false), (.int .i64 (0 : Nat)), (.int .i64 (0 : Nat)), (.int .i64 (0 : Nat)), (.int .i64 (0 : Nat)), .nils, (.str []), (.int .i64 (0 : Nat)), (.int .i64 (0 : Nat))] [(0, 1, (.c (.int .i64 (6 : Nat)))), (2, 1, (.c (.int .i64 (1 : Nat)))), (9, 3, (.t 52))], none⟩,
 ⟨some 54, .loadN 33 (.t 4), none⟩,
 ⟨some 55, .bslice [(.int .i64 (0 : Nat)), (.int .i64 (0 : Nat)), (.int .i64 (0 : Nat)), (.int .i64 (0 : Nat)), (.int .i64 (0 : Nat)), (.int .i64 (0 : Nat)), (.int .i64 (0 : Nat)), .nils, (.bool false), (.int .i64 (0 : Nat)), .nils, .nils, (.int .u64 (0 : Nat)), (.int .u64 (0 : Nat)), (.int .u64 (0 : Nat)), (.int .u64 (0 : Nat)), (.int .i64 (0 : Nat)), (.int .i64 (0 : Nat)), (.int .i64 (0 : Nat)), (.int .i64 (0 : Nat)), (.bool false), .nils, .nils, (.int .i64 (0 : Nat)), (.bool false), (.int .i64 (0 : Nat)), (.int .i64 (0 : Nat)), (.int .i64 (0 : Nat)), (.int .i64 (0 : Nat)), .nils, (.str []), (.int .i64 (0 : Nat)), (.int .i64 (0 : Nat))] 33 2 [(0, (.t 53)), (1, (.t 54))], none⟩,
 ⟨some 56, .call 44 [(.t 55)], none⟩,
 ⟨none, .store 2 (.t 2) (.t 56), none⟩]
def F23u32p : List IPh := [⟨[.one 2], [], some 0⟩,
 ⟨[.one 1, .again 2, .res 3 0], [(3, 0)], some 4⟩,
 ⟨[], [], some 5⟩,
 ⟨[], [], none⟩]
def F23u33 : List AIns := [⟨some 79, .call 49 [(.c (.int .i64 (0 : Nat)))], none⟩,
 ⟨some 80, .build [.nils, (.bool false)] [(0, 1, (.t 79))], none⟩,
 ⟨some 81, .call 51 [], none⟩,
 ⟨some 82, .build [.nils, (.bool false)] [(0, 1, (.t 81))], none⟩,
 ⟨some 83, .bslice [.nils, (.bool false)] 2 2 [(0, (.t 80)), (1, (.t 82))], none⟩,
 ⟨some 84, .bslice [(.int .i64 (0 : Nat))] 1 2 [(0, (.c (.int .i64 (1 : Nat)))), (1, (.c (.int .i64 (2 : Nat))))], none⟩,
 ⟨some 85, .build [(.int .i64 (0 : Nat)), (.int .i64 (0 : Nat)), (.int .i64 (0 : Nat)), (.int .i64 (0 : Nat)), (.int .i64 (0 : Nat)), (.int .i64 (0 : Nat)), (.int .i64 (0 : Nat)), .nils, (.bool false), (.int .i64 (0 : Nat)), .nils, .nils, (.int .u64 (0 : Nat)), (.int .u64 (0 : Nat)), (.int .u64 (0 : Nat)), (.int .u64 (0 : Nat)), (.int .i64 (0 : Nat)), (.int .i64 (0 : Nat)), (.int .i64 (0 : Nat)), (.int .i64 (0 : Nat)), (.bool false), .nils, .nils, (.int .i64 (0 : Nat)), (.bool false), (.int .i64 (0 : Nat)), (.int .i64 (0 : Nat)), (.int .i64 (0 : Nat)), (.int .i64 (0 : Nat)), .nils, (.str []), (.int .i64 (0 : Nat)), (.int .i64 (0 : Nat))] [(0, 1, (.c (.int .i64 (9 : Nat)))), (21, 1, (.t 83)), (22, 1, (.t 84))], none⟩,
 ⟨some 86, .loadN 33 (.t 4), none⟩,
 ⟨some 87, .bslice [(.int .i64 (0 : Nat)), (.int .i64 (0 : Nat)), (.int .i64 (0 : Nat)), (.int .i64 (0 : Nat)), (.int .i64 (0 : Nat)), (.int .i64 (0 : Nat)), (.int .i64 (0 : Nat)), .nils, (.bool false), (.int .i64 (0 : Nat)), .nils, .nils, (.int .u64 (0 : Nat)), (.int .u64 (0 : Nat)), (.int .u64 (0 : Nat)), (.int .u64 (0 : Nat)), (.int .i64 (0 : Nat)), (.int .i64 (0 : Nat)), (.int .i64 (0 : Nat)), (.int .i64 (0 : Nat)), (.bool false), .nils, .nils, (.int .i64 (0 : Nat)), (.bool false), (.int .i64 (0 : Nat)), (.int .i64 (0 : Nat)), (.int .i64 (0 : Nat)), (.int .i64 (0 : Nat)), .nils, (.str []), (.int .i64 (0 : Nat)), (.int .i64 (0 : Nat))] 33 2 [(0, (.t 85)), (1, (.t 86))], none⟩,
 ⟨some 88, .call 45 [(.t 87)], none⟩,
 ⟨none, .store 2 (.t 2) (.t 88), none⟩]
def F23u33p : List IPh := [⟨[.res 5 1, .one 7], [], some 0⟩,
 ⟨[.one 1, .again 7], [], some 2⟩,
 ⟨[.again 1, .one 3, .res 4 0, .one 6, .again 7, .res 8 2], [(4, 0), (5, 1), (8, 2)], some 9⟩,
 ⟨[], [], some 10⟩,
 ⟨[], [], none⟩]
def F23u34 : List AIns := [⟨some 91, .call 51 [], none⟩,
 ⟨some 92, .build [.nils, (.bool false)] [(0, 1, (.t 91)), (1, 1, (.c (.bool true)))], none⟩,
 ⟨some 93, .call 46 [(.c (.int .i64 (2 : Nat)))], none⟩,
 ⟨some 94, .call 52 [(.t 93), (.c (.int .i64 (0 : Nat)))], none⟩,
 ⟨some 95, .build [.nils, (.bool false)] [(0, 1, (.t 94))], none⟩,
 ⟨some 96, .bslice [.nils, (.bool false)] 2 2 [(0, (.t 92)), (1, (.t 95))], none⟩,
 ⟨some 97, .bslice [(.int .i64 (0 : Nat))] 1 2 [(0, (.c (.int .i64 (1 : Nat)))), (1, (.c (.int .i64 (2 : Nat))))], none⟩,
 ⟨some 98, .build [(.int .i64 (0 : Nat)), (.int .i64 (0 : Nat)), (.int .i64 (0 : Nat)), (.int .i64 (0 : Nat)), (.int .i64 (0 : Nat)), (.int .i64 (0 : Nat)), (.int .i64 (0 : Nat)), .nils, (.bool false), (.int .i64 (0 : Nat)), .nils, .nils, (.int .u64 (0 : Nat)), (.int .u64 (0 : Nat)), (.int .u64 (0 : Nat)), (.int .u64 (0 : Nat)), (.int .i64 (0 : Nat)), (.int .i64 (0 : Nat)), (.int .i64 (0 : Nat)), (.int .i64 (0 : Nat)), (.bool false), .nils, .nils, (.int .i64 (0 : Nat)), (.bool false), (.int .i64 (0 : Nat)), (.int .i64 (0 : Nat)), (.int .i64 (0 : Nat)), (.int .i64 (0 : Nat)), .nils, (.str []), (.int .i64 (0 : Nat)), (.int .i64 (0 : Nat))] [(0, 1, (.c (.int .i64 (9 : Nat)))), (21, 1, (.t 96)), (22, 1, (.t 97))], none⟩,
 ⟨some 99, .loadN 33 (.t 4), none⟩,
 ⟨some 100, .bslice [(.int .i64 (0 : Nat)), (.int .i64 (0 : Nat)), (.int .i64 (0 : Nat)), (.int .i64 (0 : Nat)), (.int .i64 (0 : Nat)), (.int .i64 (0 : Nat)), (.int .i64 (0 : Nat)), .nils, (.bool false), (.int .i64 (0 : Nat)), .nils, .nils, (.int .u64 (0 : Nat)), (.int .u64 (0 : Nat)), (.int .u64 (0 : Nat)), (.int .u64 (0 : Nat)), (.int .i64 (0 : Nat)), (.int .i64 (0 : Nat)), (.int .i64 (0 : Nat)), (.int .i64 (0 : Nat)), (.bool false), .nils, .nils, (.int .i64 (0 : Nat)), (.bool false), (.int .i64 (0 : Nat)), (.int .i64 (0 : Nat)), (.int .i64 (0 : Nat)), (.int .i64 (0 : Nat)), .nils, (.str []), (.int .i64 (0 : Nat)), (.int .i64 (0 : Nat))] 33 2 [(0, (.t 98)), (1, (.t 99))], none⟩,
 ⟨some 101, .call 45 [(.t 100)], none⟩,
 ⟨none, .store 2 (.t 2) (.t 101), none⟩]
def F23u34p : List IPh := [⟨[.res 6 1, .one 8], [], some 0⟩,
 ⟨[.one 1, .again 8], [], some 2⟩,
 ⟨[.again 1, .again 8], [], some 3⟩,
 ⟨[.again 1, .one 4, .res 5 0, .one 7, .again 8, .res 9 2], [(5, 0), (6, 1), (9, 2)], some 10⟩,
 ⟨[], [], some 11⟩,
 ⟨[], [], none⟩]
def F23 : AFunc := ⟨1, List.replicate 110 und, [.cell 2 (some 2)],
 (.seq
 (.reg F23u0)
 (.seq
 (.reg F23u1)
 (.seq
 (.reg F23u2)
 (.seq
 (.reg F23u3)
 (.seq
 (.reg F23u4)
 (.seq
 (.reg F23u5)
 (.seq
 (.reg F23u6)
 (.seq
 (.seq
 (.reg F23u7)
 (.block 0
 (.seq
 (.reg F23u8)
 (.cond (.t 17)
 (.seq
 (.reg F23u9)
 .ret)
 (.seq
 (.reg F23u10)
 (.cond (.t 22)
 (.seq
 (.reg F23u11)
 .ret)
 (.seq
 (.reg F23u12)
 (.cond (.t 29)
 (.seq
 (.reg F23u13)
 .ret)
 (.seq
 (.reg F23u14)
 (.cond (.t 36)
 (.seq
 (.dreg 1 F23u30 F23u30p)
 .ret)
 (.seq
 (.reg F23u15)
 (.cond (.t 43)
 (.seq
 (.dreg 1 F23u31 F23u31p)
 .ret)
 (.seq
 (.reg F23u16)
 (.cond (.t 50)
 (.seq
 (.dreg 1 F23u32 F23u32p)
 .ret)
 (.seq
 (.reg F23u17)
 (.cond (.t 57)
 (.seq
 (.reg F23u18)
 .ret)
 (.seq
 (.reg F23u19)
 (.cond (.t 62)
 (.seq
 (.reg F23u20)
 .ret)
 (.seq
 (.reg F23u21)
 (.cond (.t 68)
 (.seq
 (.reg F23u22)
 .ret)
 (.seq
 (.reg F23u23)
 (.cond (.t 74)
 (.seq
 (.reg F23u24)
 .ret)
 (.seq
 (.reg F23u25)
 (.cond (.t 77)
 (.seq
 (.dreg 3 F23u33 F23u33p)
 .ret)
 (.seq
 (.reg F23u26)
 (.cond (.t 89)
 (.seq
 (.dreg 3 F23u34 F23u34p)
 .ret)
 (.seq
 (.reg F23u27)
 (.cond (.t 102)
 (.seq
 (.reg F23u28)
 .ret)
 .skip))))))))))))))))))))))))))))
 (.seq
 (.reg F23u29)
 .ret)))))))))⟩
/-! univocal/code.Compile -/
def F27u0 : List AIns := [⟨some 1, .box (.t 0), none⟩,
 ⟨some 2, .alloc [.nils, .nils, (.int .i64 (0 : Nat)), (.int .i64 (0 : Nat)), (.int .i64 (0 : Nat))], none⟩,
 ⟨some 3, .mov (.c (.int .i64 (0 : Nat))), none⟩]
def F27u1 : List AIns := [⟨some 8, .loadN 2 (.t 1), none⟩,
 ⟨some 9, .call 55 [(.t 8)], none⟩,
 ⟨some 7, .mov (.t 9), none⟩,
 ⟨some 10, .ext 0 (.t 7), none⟩,
 ⟨some 11, .ext 1 (.t 7), none⟩,
 ⟨some 4, .alloc [(.int .i64 (0 : Nat)), (.int .i64 (0 : Nat)), .nils], none⟩,
 ⟨none, .store 3 (.t 4) (.t 10), none⟩,
 ⟨some 5, .mov (.t 11), none⟩]
def F27u2 : List AIns := [⟨some 12, .mov (.t 5), none⟩,
 ⟨some 13, .bin .neq (.t 12) (.c (.int .i64 (0 : Nat))), none⟩]
def F27u3 : List AIns := [⟨some 14, .build [.nils, .nils, (.int .i64 (0 : Nat)), (.int .i64 (0 : Nat)), (.int .i64 (0 : Nat))] [], none⟩,
 ⟨some 15, .mov (.t 5), none⟩,
 ⟨none, .store 5 (.t 2) (.t 14), none⟩,
 ⟨some 3, .mov (.t 15), none⟩]
def F27u4 : List AIns := [⟨some 16, .loadN 2 (.t 1), none⟩,
 ⟨some 17, .build [.nils, .nils, .nils, .nils, (.int .i64 (0 : Nat)), (.int .i64 (0 : Nat)), (.int .i64 (0 : Nat)), (.int .i64 (0 : Nat)), .nils] [(0, 2, (.t 16))], none⟩,
 ⟨some 18, .box (.t 17), none⟩,
 ⟨some 6, .mov (.t 18), none⟩]
def F27u5 : List AIns := [⟨some 31, .mov (.t 6), none⟩,
 ⟨some 32, .call 56 [(.t 31), (.c (.int .i64 (0 : Nat)))], none⟩]
def F27u6 : List AIns := [⟨some 33, .mov (.t 6), none⟩,
 ⟨some 34, .call 57 [(.t 33), (.c (.int .i64 (8 : Nat))), (.c (.int .i64 (0 : Nat))), (.c (.int .i64 (0 : Nat))), (.c (.int .i64 (0 : Nat)))], none⟩]
def F27u7 : List AIns := [⟨some 35, .mov (.t 6), none⟩,
 ⟨some 36, .nilchk (.t 35), none⟩,
 ⟨some 37, .faddr 2 (.t 36), none⟩,
 ⟨some 38, .loadN 5 (.t 37), none⟩,
 ⟨none, .store 5 (.t 2) (.t 38), none⟩,
 ⟨some 3, .mov (.c (.int .i64 (0 : Nat))), none⟩]
def F27u8 : List AIns := [⟨some 19, .mov (.t 6), none⟩,
 ⟨some 20, .mov (.t 6), none⟩,
 ⟨some 21, .faddr 0 (.t 4), none⟩,
 ⟨some 22, .load1 (.t 21), none⟩,
 ⟨some 23, .faddr 1 (.t 4), none⟩,
 ⟨some 24, .load1 (.t 23), none⟩,
 ⟨some 25, .nilchk (.t 19), none⟩,
 ⟨some 26, .faddr 2 (.t 25), none⟩,
 ⟨some 27, .faddr 2 (.t 26), none⟩,
 ⟨none, .store 1 (.t 27) (.t 22), none⟩,
 ⟨some 28, .nilchk (.t 20), none⟩,
 ⟨some 29, .faddr 2 (.t 28), none⟩,
 ⟨some 30, .faddr 3 (.t 29), none⟩,
 ⟨none, .store 1 (.t 30) (.t 24), none⟩]
def F27u8p : List IPh := [⟨[.one 0, .one 1, .one 2, .one 3, .one 4, .one 5, .one 6, .one 7, .one 8], [], some 9⟩,
 ⟨[.again 1, .again 4, .again 5, .one 10, .one 11, .one 12], [], some 13⟩,
 ⟨[], [], none⟩]
def F27 : AFunc := ⟨1, List.replicate 38 und, [.cell 2 (some 5), .tmp 3],
 (.seq
 (.reg F27u0)
 (.seq
 (.reg F27u1)
 (.seq
 (.seq
 (.reg F27u2)
 (.cond (.t 13)
 (.seq
 (.reg F27u3)
 .ret)
 .skip))
 (.seq
 (.reg F27u4)
 (.seq
 (.dreg 0 F27u8 F27u8p)
 (.seq
 (.reg F27u5)
 (.seq
 (.reg F27u6)
 (.seq
 (.reg F27u7)
 .ret))))))))⟩
/-! univocal/vm.Run -/
def F28u0 : List AIns := [⟨some 3, .box (.t 0), none⟩,
 ⟨some 6, .alloc [(.bool false), (.int .i64 (0 : Nat)), .nils], none⟩,
 ⟨some 7, .mov (.c (.int .i64 (0 : Nat))), none⟩,
 ⟨some 8, .mov (.c (.int .i64 (0 : Nat))), none⟩]
def F28u1 : List AIns := [⟨some 13, .loadN 5 (.t 3), none⟩,
 ⟨some 14, .mov (.t 1), none⟩,
 ⟨some 15, .call 58 [(.t 13), (.t 14)], none⟩,
 ⟨some 12, .mov (.t 15), none⟩,
 ⟨some 16, .ext 0 (.t 12), none⟩,
 ⟨some 17, .ext 1 (.t 12), none⟩,
 ⟨some 9, .alloc [(.int .i64 (0 : Nat)), .nils, .nils, .nils, (.bool false), (.int .i64 (0 : Nat)), .nils, (.bool false)], none⟩,
 ⟨none, .store 8 (.t 9) (.t 16), none⟩,
 ⟨some 10, .mov (.t 17), none⟩]
def F28u2 : List AIns := [⟨some 18, .mov (.t 10), none⟩,
 ⟨some 19, .bin .neq (.t 18) (.c (.int .i64 (0 : Nat))), none⟩]
def F28u3 : List AIns := [⟨some 20, .build [(.bool false), (.int .i64 (0 : Nat)), .nils] [], none⟩,
 ⟨some 21, .mov (.t 10), none⟩,
 ⟨none, .store 3 (.t 6) (.t 20), none⟩,
 ⟨some 7, .mov (.c (.int .i64 (0 : Nat))), none⟩,
 ⟨some 8, .mov (.t 21), none⟩]
def F28u4 : List AIns := [⟨some 23, .loadN 5 (.t 3), none⟩,
 ⟨some 24, .loadN 8 (.t 9), none⟩,
 ⟨some 25, .mov (.t 2), none⟩,
 ⟨some 26, .call 59 [(.t 23), (.t 24), (.t 25)], none⟩,
 ⟨some 22, .mov (.t 26), none⟩,
 ⟨some 27, .ext 0 (.t 22), none⟩,
 ⟨some 28, .ext 1 (.t 22), none⟩,
 ⟨some 29, .ext 2 (.t 22), none⟩,
 ⟨none, .store 8 (.t 9) (.t 27), none⟩,
 ⟨some 11, .mov (.t 28), none⟩,
 ⟨some 10, .mov (.t 29), none⟩]
def F28u5 : List AIns := [⟨some 30, .mov (.t 10), none⟩,
 ⟨some 31, .bin .neq (.t 30) (.c (.int .i64 (0 : Nat))), none⟩]
def F28u6 : List AIns := [⟨some 32, .build [(.bool false), (.int .i64 (0 : Nat)), .nils] [], none⟩,
 ⟨some 33, .mov (.t 10), none⟩,
 ⟨none, .store 3 (.t 6) (.t 32), none⟩,
 ⟨some 7, .mov (.c (.int .i64 (0 : Nat))), none⟩,
 ⟨some 8, .mov (.t 33), none⟩]
def F28u7 : List AIns := [⟨some 34, .faddr 7 (.t 9), none⟩,
 ⟨some 35, .load1 (.t 34), none⟩,
 ⟨some 36, .un .not (.t 35), none⟩]
def F28u8 : List AIns := [⟨some 37, .build [(.bool false), (.int .i64 (0 : Nat)), .nils] [], none⟩,
 ⟨none, .store 3 (.t 6) (.t 37), none⟩,
 ⟨some 7, .mov (.c (.int .i64 (0 : Nat))), none⟩,
 ⟨some 8, .mov (.c (.int .i64 (6 : Nat))), none⟩]
def F28u9 : List AIns := [⟨some 38, .faddr 4 (.t 9), none⟩,
 ⟨some 39, .loadN 3 (.t 38), none⟩,
 ⟨some 40, .mov (.t 11), none⟩,
 ⟨none, .store 3 (.t 6) (.t 39), none⟩,
 ⟨some 7, .mov (.t 40), none⟩,
 ⟨some 8, .mov (.c (.int .i64 (0 : Nat))), none⟩]
def F28 : AFunc := ⟨3, List.replicate 38 und, [.cell 6 (some 3), .tmp 7, .tmp 8],
 (.seq
 (.reg F28u0)
 (.seq
 (.reg F28u1)
 (.seq
 (.seq
 (.reg F28u2)
 (.cond (.t 19)
 (.seq
 (.reg F28u3)
 .ret)
 .skip))
 (.seq
 (.reg F28u4)
 (.seq
 (.seq
 (.reg F28u5)
 (.cond (.t 31)
 (.seq
 (.reg F28u6)
 .ret)
 .skip))
 (.seq
 (.seq
 (.reg F28u7)
 (.cond (.t 36)
 (.seq
 (.reg F28u8)
 .ret)
 .skip))
 (.seq
 (.reg F28u9)
 .ret)))))))⟩
/-! univocal/interp.read -/
def F29u0 : List AIns := [⟨some 2, .box (.t 0), none⟩,
 ⟨some 4, .mov (.c .nilp), none⟩,
 ⟨some 5, .alloc [(.bool false), (.int .i64 (0 : Nat))], none⟩,
 ⟨some 6, .mov (.c (.int .i64 (0 : Nat))), none⟩]
def F29u1 : List AIns := [⟨some 12, .loadN 2 (.t 2), none⟩,
 ⟨some 13, .call 55 [(.t 12)], none⟩,
 ⟨some 11, .mov (.t 13), none⟩,
 ⟨some 14, .ext 0 (.t 11), none⟩,
 ⟨some 15, .ext 1 (.t 11), none⟩,
 ⟨some 7, .alloc [(.int .i64 (0 : Nat)), (.int .i64 (0 : Nat)), .nils], none⟩,
 ⟨none, .store 3 (.t 7) (.t 14), none⟩,
 ⟨some 8, .mov (.t 15), none⟩]
def F29u2 : List AIns := [⟨some 16, .mov (.t 8), none⟩,
 ⟨some 17, .bin .neq (.t 16) (.c (.int .i64 (0 : Nat))), none⟩,
 ⟨some 18, .mov (.t 17), none⟩,
 ⟨some 19, .mov (.t 1), some (18, false)⟩,
 ⟨some 20, .len .sl (.t 19), some (18, false)⟩,
 ⟨some 21, .bin .gtr (.t 20) (.c (.int .i64 (4096 : Nat))), some (18, false)⟩,
 ⟨some 22, .pick (.t 18) (.c (.bool true)) (.t 21), none⟩]
def F29u3 : List AIns := [⟨some 23, .build [(.bool false), (.int .i64 (0 : Nat))] [], none⟩,
 ⟨some 4, .mov (.c .nilp), none⟩,
 ⟨none, .store 2 (.t 5) (.t 23), none⟩,
 ⟨some 6, .mov (.c (.int .i64 (1 : Nat))), none⟩]
def F29u4 : List AIns := [⟨some 36, .mov (.t 9), none⟩,
 ⟨some 37, .mov (.t 9), none⟩,
 ⟨some 38, .call 61 [(.t 37)], none⟩,
 ⟨some 39, .nilchk (.t 36), none⟩,
 ⟨some 40, .faddr 6 (.t 39), none⟩,
 ⟨none, .store 1 (.t 40) (.t 38), none⟩]
def F29u5 : List AIns := [⟨some 41, .mov (.t 9), none⟩,
 ⟨some 42, .call 62 [(.t 41)], none⟩,
 ⟨some 10, .alloc [(.bool false), (.int .i64 (0 : Nat))], none⟩,
 ⟨none, .store 2 (.t 10) (.t 42), none⟩]
def F29u6 : List AIns := [⟨some 24, .loadN 2 (.t 2), none⟩,
 ⟨some 25, .mksl [.nils] 24 (.c (.int .i64 (12 : Nat))) (.c (.int .i64 (12 : Nat))), none⟩,
 ⟨some 26, .mksl [(.int .i64 (0 : Nat))] 8 (.c (.int .i64 (4 : Nat))) (.c (.int .i64 (4 : Nat))), none⟩,
 ⟨some 27, .build [.nils, .nils, .nils, .nils, .nils, .nils, .nilm] [(0, 2, (.t 24)), (2, 1, (.t 25)), (3, 1, (.t 26))], none⟩,
 ⟨some 28, .box (.t 27), none⟩,
 ⟨some 9, .mov (.t 28), none⟩]
def F29u6p : List IPh := [⟨[.one 0, .res 1 0, .res 2 1, .one 3, .res 4 2, .one 5], [(1, 0), (2, 1), (4, 2)], none⟩]
def F29u7 : List AIns := [⟨some 29, .mov (.t 9), none⟩,
 ⟨some 30, .nilchk (.t 29), none⟩,
 ⟨some 31, .faddr 2 (.t 30), none⟩,
 ⟨some 32, .load1 (.t 31), none⟩,
 ⟨some 33, .mov (.t 1), none⟩,
 ⟨some 34, .call 60 [(.t 33)], none⟩,
 ⟨some 35, .iaddrS 1 (.t 32) (.c (.int .i64 (0 : Nat))), none⟩,
 ⟨none, .store 1 (.t 35) (.t 34), none⟩]
def F29u7p : List IPh := [⟨[.one 0, .one 1, .one 2, .one 3, .one 4], [], some 5⟩,
 ⟨[.again 0, .again 1, .again 2, .again 3, .one 6], [], some 7⟩,
 ⟨[], [], none⟩]
def F29u8 : List AIns := [⟨some 43, .mov (.t 9), none⟩,
 ⟨some 44, .loadN 2 (.t 10), none⟩,
 ⟨some 4, .mov (.t 43), none⟩,
 ⟨none, .store 2 (.t 5) (.t 44), none⟩,
 ⟨some 6, .mov (.c (.int .i64 (0 : Nat))), none⟩]
def F29u8p : List IPh := [⟨[.one 0, .one 1, .one 2], [], some 3⟩,
 ⟨[.one 4], [], none⟩]
def F29 : AFunc := ⟨2, List.replicate 43 und, [.tmp 4, .cell 5 (some 2), .tmp 6],
 (.seq
 (.reg F29u0)
 (.seq
 (.seq
 (.reg F29u1)
 (.seq
 (.reg F29u2)
 (.cond (.t 22)
 (.seq
 (.reg F29u3)
 .ret)
 .skip)))
 (.seq
 (.dreg 3 F29u6 F29u6p)
 (.seq
 (.dreg 0 F29u7 F29u7p)
 (.seq
 (.reg F29u4)
 (.seq
 (.reg F29u5)
 (.seq
 (.dreg 0 F29u8 F29u8p)
 .ret)))))))⟩
/-! univocal/gateway.Start$1 -/
def F30u0 : List AIns := [⟨some 1, .box (.t 0), none⟩,
 ⟨some 2, .mov (.c (.int .i64 (0 : Nat))), none⟩]
def F30u1 : List AIns := [⟨some 3, .faddr 3 (.t 1), none⟩,
 ⟨some 4, .load1 (.t 3), none⟩]
def F30u2 : List AIns := [⟨some 2, .mov (.c (.int .i64 (7 : Nat))), none⟩]
def F30u3 : List AIns := [⟨some 2, .mov (.c (.int .i64 (0 : Nat))), none⟩]
def F30 : AFunc := ⟨1, List.replicate 4 und, [.tmp 2],
 (.seq
 (.reg F30u0)
 (.seq
 (.seq
 (.reg F30u1)
 (.cond (.t 4)
 (.seq
 (.reg F30u2)
 .ret)
 .skip))
 (.seq
 (.reg F30u3)
 .ret)))⟩
/-! univocal/gateway.Start$2 -/
def F32u0 : List AIns := [⟨some 3, .mov (.t 0), none⟩,
 ⟨some 4, .mov (.t 0), none⟩,
 ⟨some 5, .load1 (.t 1), none⟩,
 ⟨some 6, .nilchk (.t 3), none⟩,
 ⟨some 7, .faddr 3 (.t 6), none⟩,
 ⟨none, .store 1 (.t 7) (.c (.bool true)), none⟩,
 ⟨some 8, .nilchk (.t 4), none⟩,
 ⟨some 9, .faddr 1 (.t 8), none⟩,
 ⟨none, .store 1 (.t 9) (.t 5), none⟩]
def F32u0p : List IPh := [⟨[.one 0, .one 1, .one 2, .one 3, .one 4], [], some 5⟩,
 ⟨[.again 1, .again 2, .one 6, .one 7], [], some 8⟩,
 ⟨[], [], none⟩]
def F32 : AFunc := ⟨2, List.replicate 8 und, [],
 (.dreg 0 F32u0 F32u0p)⟩
/-! univocal/gateway.Claim$1 -/
def F33u0 : List AIns := [⟨some 1, .box (.t 0), none⟩,
 ⟨some 2, .mov (.c (.int .i64 (0 : Nat))), none⟩]
def F33u1 : List AIns := [⟨some 2, .mov (.c (.int .i64 (0 : Nat))), none⟩]
def F33 : AFunc := ⟨1, List.replicate 2 und, [.tmp 2],
 (.seq
 (.reg F33u0)
 (.seq
 (.reg F33u1)
 .ret))⟩
/-! univocal/univocalref17.line -/
def F44u0 : List AIns := [⟨some 2, .alloc [.nils, .nils], none⟩]
def F44u1 : List AIns := [⟨some 5, .bslice [(.int .i64 (0 : Nat))] 1 0 [], none⟩,
 ⟨some 6, .bslice [.nils] 1 1 [(0, (.t 5))], none⟩,
 ⟨some 7, .build [.nils, .nils] [(1, 1, (.t 6))], none⟩,
 ⟨some 3, .alloc [.nils, .nils], none⟩,
 ⟨none, .store 2 (.t 3) (.t 7), none⟩]
def F44u2 : List AIns := [⟨some 4, .mov (.c (.int .i64 (0 : Nat))), none⟩]
def F44u3 : List AIns := [⟨some 8, .mov (.t 4), none⟩,
 ⟨some 9, .mov (.t 0), none⟩,
 ⟨some 10, .len .sl (.t 9), none⟩,
 ⟨some 11, .bin .lss (.t 8) (.t 10), none⟩]
def F44u4 : List AIns := [⟨some 14, .mov (.t 0), none⟩,
 ⟨some 15, .mov (.t 4), none⟩,
 ⟨some 16, .iaddrS 33 (.t 14) (.t 15), none⟩,
 ⟨some 17, .faddr 31 (.t 16), none⟩,
 ⟨none, .store 1 (.t 17) (.c (.int .i64 (.negSucc 0))), none⟩]
def F44u5 : List AIns := [⟨some 18, .mov (.t 0), none⟩,
 ⟨some 19, .mov (.t 4), none⟩,
 ⟨some 20, .iaddrS 33 (.t 18) (.t 19), none⟩,
 ⟨some 21, .faddr 32 (.t 20), none⟩,
 ⟨none, .store 1 (.t 21) (.c (.int .i64 (.negSucc 0))), none⟩]
def F44u6 : List AIns := [⟨some 12, .mov (.t 4), none⟩,
 ⟨some 13, .bin .add (.t 12) (.c (.int .i64 (1 : Nat))), none⟩,
 ⟨some 4, .mov (.t 13), none⟩]
def F44u7 : List AIns := [⟨some 41, .loadN 2 (.t 3), none⟩,
 ⟨none, .store 2 (.t 2) (.t 41), none⟩]
def F44u8 : List AIns := [⟨some 22, .faddr 0 (.t 3), none⟩,
 ⟨some 23, .load1 (.t 22), none⟩,
 ⟨some 24, .mov (.t 0), none⟩,
 ⟨some 25, .mov (.t 4), none⟩,
 ⟨some 26, .iaddrS 33 (.t 24) (.t 25), none⟩,
 ⟨some 27, .loadN 33 (.t 26), none⟩,
 ⟨some 28, .bslice [(.int .i64 (0 : Nat)), (.int .i64 (0 : Nat)), (.int .i64 (0 : Nat)), (.int .i64 (0 : Nat)), (.int .i64 (0 : Nat)), (.int .i64 (0 : Nat)), (.int .i64 (0 : Nat)), .nils, (.bool false), (.int .i64 (0 : Nat)), .nils, .nils, (.int .u64 (0 : Nat)), (.int .u64 (0 : Nat)), (.int .u64 (0 : Nat)), (.int .u64 (0 : Nat)), (.int .i64 (0 : Nat)), (.int .i64 (0 : Nat)), (.int .i64 (0 : Nat)), (.int .i64 (0 : Nat)), (.bool false), .nils, .nils, (.int .i64 (0 : Nat)), (.bool false), (.int .i64 (0 : Nat)), (.int .i64 (0 : Nat)), (.int .i64 (0 : Nat)), (.int .i64 (0 : Nat)), .nils, (.str []), (.int .i64 (0 : Nat)), (.int .i64 (0 : Nat))] 33 1 [(0, (.t 27))], none⟩,
 ⟨some 29, .app 33 368 (.t 23) (.t 28), none⟩,
 ⟨some 30, .faddr 0 (.t 3), none⟩,
 ⟨none, .store 1 (.t 30) (.t 29), none⟩]
def F44u8p : List IPh := [⟨[.one 0, .one 1, .one 2, .one 3, .one 4, .one 5, .res 6 0], [(6, 0)], some 7⟩,
 ⟨[.one 8], [], some 9⟩,
 ⟨[], [], none⟩]
def F44u9 : List AIns := [⟨some 31, .faddr 1 (.t 3), none⟩,
 ⟨some 32, .load1 (.t 31), none⟩,
 ⟨some 33, .faddr 1 (.t 3), none⟩,
 ⟨some 34, .load1 (.t 33), none⟩,
 ⟨some 35, .iaddrS 1 (.t 34) (.c (.int .i64 (0 : Nat))), none⟩,
 ⟨some 36, .load1 (.t 35), none⟩,
 ⟨some 37, .mov (.t 4), none⟩,
 ⟨some 38, .bslice [(.int .i64 (0 : Nat))] 1 1 [(0, (.t 37))], none⟩,
 ⟨some 39, .app 1 8 (.t 36) (.t 38), none⟩,
 ⟨some 40, .iaddrS 1 (.t 32) (.c (.int .i64 (0 : Nat))), none⟩,
 ⟨none, .store 1 (.t 40) (.t 39), none⟩]
def F44u9p : List IPh := [⟨[.one 0, .one 1, .one 2, .one 3, .one 4, .one 5, .one 6, .res 7 0], [(7, 0)], some 8⟩,
 ⟨[.again 0, .again 1, .one 9], [], some 10⟩,
 ⟨[], [], none⟩]
def F44 : AFunc := ⟨1, List.replicate 41 und, [.cell 2 (some 2)],
 (.seq
 (.reg F44u0)
 (.seq
 (.reg F44u1)
 (.seq
 (.seq
 (.reg F44u2)
 (.block 0
 (.loop
 (.seq
 (.seq
 (.reg F44u3)
 (.cond (.t 11)
 .skip
 (.exit 0)))
 (.seq
 (.block 1
 (.seq
 (.reg F44u4)
 (.seq
 (.reg F44u5)
 (.seq
 (.dreg 1 F44u8 F44u8p)
 (.dreg 1 F44u9 F44u9p)))))
 (.reg F44u6))))))
 (.seq
 (.reg F44u7)
 .ret))))⟩
/-! univocal/univocalref17.operation -/
def F47u0 : List AIns := [⟨some 2, .alloc [(.int .i64 (0 : Nat)), .nils, .nils], none⟩]
def F47u1 : List AIns := [⟨some 3, .mov (.t 0), none⟩,
 ⟨some 4, .bin .rem (.t 3) (.c (.int .i64 (7 : Nat))), none⟩]
def F47u2 : List AIns := [⟨some 6, .bin .eql (.t 4) (.c (.int .i64 (0 : Nat))), none⟩,
 ⟨some 5, .mov (.t 6), none⟩]
def F47u3 : List AIns := [⟨some 7, .build [(.int .i64 (0 : Nat)), .nils, .nils] [(0, 1, (.c (.int .i64 (1 : Nat))))], none⟩,
 ⟨none, .store 3 (.t 2) (.t 7), none⟩]
def F47u4 : List AIns := [⟨some 9, .bin .eql (.t 4) (.c (.int .i64 (1 : Nat))), none⟩,
 ⟨some 8, .mov (.t 9), none⟩]
def F47u5 : List AIns := [⟨some 10, .build [(.int .i64 (0 : Nat)), .nils, .nils] [(0, 1, (.c (.int .i64 (2 : Nat))))], none⟩,
 ⟨none, .store 3 (.t 2) (.t 10), none⟩]
def F47u6 : List AIns := [⟨some 12, .bin .eql (.t 4) (.c (.int .i64 (2 : Nat))), none⟩,
 ⟨some 11, .mov (.t 12), none⟩]
def F47u7 : List AIns := [⟨some 13, .bslice [(.int .u8 (0 : Nat))] 1 1 [(0, (.c (.int .u8 (97 : Nat))))], none⟩,
 ⟨some 14, .bslice [(.int .u8 (0 : Nat))] 1 1 [(0, (.c (.int .u8 (98 : Nat))))], none⟩,
 ⟨some 15, .build [(.int .i64 (0 : Nat)), .nils, .nils] [(0, 1, (.c (.int .i64 (6 : Nat)))), (1, 1, (.t 13)), (2, 1, (.t 14))], none⟩,
 ⟨none, .store 3 (.t 2) (.t 15), none⟩]
def F47u8 : List AIns := [⟨some 17, .bin .eql (.t 4) (.c (.int .i64 (3 : Nat))), none⟩,
 ⟨some 16, .mov (.t 17), none⟩]
def F47u9 : List AIns := [⟨some 18, .bslice [(.int .u8 (0 : Nat))] 1 1 [(0, (.c (.int .u8 (98 : Nat))))], none⟩,
 ⟨some 19, .build [(.int .i64 (0 : Nat)), .nils, .nils] [(0, 1, (.c (.int .i64 (5 : Nat)))), (1, 1, (.t 18))], none⟩,
 ⟨none, .store 3 (.t 2) (.t 19), none⟩]
def F47u10 : List AIns := [⟨some 21, .bin .eql (.t 4) (.c (.int .i64 (4 : Nat))), none⟩,
 ⟨some 20, .mov (.t 21), none⟩]
def F47u11 : List AIns := [⟨some 22, .bslice [(.int .u8 (0 : Nat))] 1 1 [(0, (.c (.int .u8 (97 : Nat))))], none⟩,
 ⟨some 23, .build [(.int .i64 (0 : Nat)), .nils, .nils] [(0, 1, (.c (.int .i64 (7 : Nat)))), (1, 1, (.t 22))], none⟩,
 ⟨none, .store 3 (.t 2) (.t 23), none⟩]
def F47u12 : List AIns := [⟨some 25, .bin .eql (.t 4) (.c (.int .i64 (5 : Nat))), none⟩,
 ⟨some 24, .mov (.t 25), none⟩]
def F47u13 : List AIns := [⟨some 26, .bslice [(.int .u8 (0 : Nat))] 1 1 [(0, (.c (.int .u8 (98 : Nat))))], none⟩,
 ⟨some 27, .build [(.int .i64 (0 : Nat)), .nils, .nils] [(0, 1, (.c (.int .i64 (8 : Nat)))), (1, 1, (.t 26))], none⟩,
 ⟨none, .store 3 (.t 2) (.t 27), none⟩]
def F47u14 : List AIns := [⟨some 28, .build [(.int .i64 (0 : Nat)), .nils, .nils] [(0, 1, (.c (.int .i64 (4 : Nat))))], none⟩,
 ⟨none, .store 3 (.t 2) (.t 28), none⟩]
def F47 : AFunc := ⟨1, List.replicate 28 und, [.cell 2 (some 3)],
 (.seq
 (.reg F47u0)
 (.seq
 (.seq
 (.reg F47u1)
 (.block 0
 (.seq
 (.reg F47u2)
 (.cond (.t 5)
 (.seq
 (.reg F47u3)
 .ret)
 (.seq
 (.reg F47u4)
 (.cond (.t 8)
 (.seq
 (.reg F47u5)
 .ret)
 (.seq
 (.reg F47u6)
 (.cond (.t 11)
 (.seq
 (.reg F47u7)
 .ret)
 (.seq
 (.reg F47u8)
 (.cond (.t 16)
 (.seq
 (.reg F47u9)
 .ret)
 (.seq
 (.reg F47u10)
 (.cond (.t 20)
 (.seq
 (.reg F47u11)
 .ret)
 (.seq
 (.reg F47u12)
 (.cond (.t 24)
 (.seq
 (.reg F47u13)
 .ret)
 .skip))))))))))))))
 (.seq
 (.reg F47u14)
 .ret)))⟩
/-! univocal/gateway.has -/
def F54u0 : List AIns := [⟨some 3, .box (.t 0), none⟩,
 ⟨some 4, .box (.t 1), none⟩,
 ⟨some 6, .mov (.c (.bool false)), none⟩]
def F54u1 : List AIns := [⟨some 7, .mov (.t 2), none⟩,
 ⟨some 8, .bin .geq (.t 7) (.c (.int .i64 (0 : Nat))), none⟩,
 ⟨some 9, .mov (.t 8), none⟩,
 ⟨some 10, .mov (.t 2), some (9, true)⟩,
 ⟨some 11, .faddr 1 (.t 3), some (9, true)⟩,
 ⟨some 12, .load1 (.t 11), some (9, true)⟩,
 ⟨some 13, .faddr 0 (.t 4), some (9, true)⟩,
 ⟨some 14, .load1 (.t 13), some (9, true)⟩,
 ⟨some 15, .iaddrS 4 (.t 12) (.t 14), some (9, true)⟩,
 ⟨some 16, .faddr 0 (.t 15), some (9, true)⟩,
 ⟨some 17, .load1 (.t 16), some (9, true)⟩,
 ⟨some 18, .len .sl (.t 17), some (9, true)⟩,
 ⟨some 19, .bin .lss (.t 10) (.t 18), some (9, true)⟩,
 ⟨some 20, .pick (.t 9) (.t 19) (.c (.bool false)), none⟩,
 ⟨some 6, .mov (.t 20), none⟩]
def F54 : AFunc := ⟨3, List.replicate 18 und, [.tmp 6],
 (.seq
 (.reg F54u0)
 (.seq
 (.reg F54u1)
 .ret))⟩
/-! univocal/resolve.Check -/
def F55u0 : List AIns := [⟨some 1, .box (.t 0), none⟩,
 ⟨some 2, .alloc [(.int .i64 (0 : Nat)), (.int .i64 (0 : Nat)), .nils], none⟩,
 ⟨some 3, .mov (.c (.int .i64 (0 : Nat))), none⟩]
def F55u1 : List AIns := [⟨some 14, .loadN 2 (.t 1), none⟩,
 ⟨some 15, .call 85 [(.t 14)], none⟩,
 ⟨some 4, .mov (.t 15), none⟩]
def F55u2 : List AIns := [⟨some 16, .mov (.t 4), none⟩,
 ⟨some 17, .bin .neq (.t 16) (.c (.int .i64 (0 : Nat))), none⟩]
def F55u3 : List AIns := [⟨some 18, .build [(.int .i64 (0 : Nat)), (.int .i64 (0 : Nat)), .nils] [], none⟩,
 ⟨some 19, .mov (.t 4), none⟩,
 ⟨none, .store 3 (.t 2) (.t 18), none⟩,
 ⟨some 3, .mov (.t 19), none⟩]
def F55u4 : List AIns := [⟨some 20, .loadN 2 (.t 1), none⟩,
 ⟨some 21, .call 86 [(.t 20), (.c (.int .i64 (0 : Nat)))], none⟩,
 ⟨some 22, .bin .gtr (.t 21) (.c (.int .i64 (262144 : Nat))), none⟩]
def F55u5 : List AIns := [⟨some 23, .build [(.int .i64 (0 : Nat)), (.int .i64 (0 : Nat)), .nils] [], none⟩,
 ⟨none, .store 3 (.t 2) (.t 23), none⟩,
 ⟨some 3, .mov (.c (.int .i64 (2 : Nat))), none⟩]
def F55u6 : List AIns := [⟨some 24, .loadN 2 (.t 1), none⟩,
 ⟨some 25, .call 87 [(.t 24)], none⟩,
 ⟨some 5, .alloc [.nils, (.int .i64 (0 : Nat)), (.int .i64 (0 : Nat))], none⟩,
 ⟨none, .store 3 (.t 5) (.t 25), none⟩]
def F55u7 : List AIns := [⟨some 26, .faddr 2 (.t 5), none⟩,
 ⟨some 27, .load1 (.t 26), none⟩,
 ⟨some 28, .bin .neq (.t 27) (.c (.int .i64 (0 : Nat))), none⟩]
def F55u8 : List AIns := [⟨some 32, .bslice [(.int .i64 (0 : Nat))] 1 1 [(0, (.c (.int .i64 (0 : Nat))))], none⟩,
 ⟨some 33, .call 88 [(.t 32), (.c .nils)], none⟩,
 ⟨some 6, .alloc [(.bool false), (.bool false), (.bool false), (.bool false), (.bool false), (.bool false), (.bool false), (.bool false), (.bool false), (.bool false), (.bool false), (.bool false), (.bool false), (.bool false), (.bool false), (.bool false)], none⟩,
 ⟨none, .store 16 (.t 6) (.t 33), none⟩]
def F55u9 : List AIns := [⟨some 7, .alloc [(.int .i64 (0 : Nat)), (.int .i64 (0 : Nat)), .nils], none⟩]
def F55u10 : List AIns := [⟨some 34, .faddr 0 (.t 1), none⟩,
 ⟨some 35, .load1 (.t 34), none⟩,
 ⟨some 36, .len .sl (.t 35), none⟩,
 ⟨some 37, .mov (.c (.int .i64 (0 : Nat))), none⟩]
def F55u11 : List AIns := [⟨some 38, .bin .lss (.t 37) (.t 36), none⟩]
def F55u12 : List AIns := [⟨some 39, .iaddrS 33 (.t 35) (.t 37), none⟩,
 ⟨some 40, .loadN 33 (.t 39), none⟩,
 ⟨some 9, .alloc [(.int .i64 (0 : Nat)), (.int .i64 (0 : Nat)), (.int .i64 (0 : Nat)), (.int .i64 (0 : Nat)), (.int .i64 (0 : Nat)), (.int .i64 (0 : Nat)), (.int .i64 (0 : Nat)), .nils, (.bool false), (.int .i64 (0 : Nat)), .nils, .nils, (.int .u64 (0 : Nat)), (.int .u64 (0 : Nat)), (.int .u64 (0 : Nat)), (.int .u64 (0 : Nat)), (.int .i64 (0 : Nat)), (.int .i64 (0 : Nat)), (.int .i64 (0 : Nat)), (.int .i64 (0 : Nat)), (.bool false), .nils, .nils, (.int .i64 (0 : Nat)), (.bool false), (.int .i64 (0 : Nat)), (.int .i64 (0 : Nat)), (.int .i64 (0 : Nat)), (.int .i64 (0 : Nat)), .nils, (.str []), (.int .i64 (0 : Nat)), (.int .i64 (0 : Nat))], none⟩,
 ⟨none, .store 33 (.t 9) (.t 40), none⟩]
def F55u13 : List AIns := [⟨some 42, .loadN 33 (.t 9), none⟩,
 ⟨some 43, .call 89 [(.t 42)], none⟩,
 ⟨some 41, .mov (.t 43), none⟩,
 ⟨some 44, .ext 0 (.t 41), none⟩,
 ⟨some 45, .ext 1 (.t 41), none⟩,
 ⟨some 10, .alloc [(.bool false), (.bool false), (.bool false), (.bool false), (.bool false), (.bool false), (.bool false), (.bool false), (.bool false), (.bool false), (.bool false), (.bool false), (.bool false), (.bool false), (.bool false), (.bool false)], none⟩,
 ⟨none, .store 16 (.t 10) (.t 44), none⟩,
 ⟨some 11, .mov (.t 45), none⟩]
def F55u14 : List AIns := [⟨some 52, .faddr 0 (.t 9), none⟩,
 ⟨some 53, .load1 (.t 52), none⟩,
 ⟨some 54, .bin .eql (.t 53) (.c (.int .i64 (13 : Nat))), none⟩]
def F55u15 : List AIns := [⟨some 55, .faddr 2 (.t 7), none⟩,
 ⟨some 56, .load1 (.t 55), none⟩,
 ⟨some 57, .faddr 30 (.t 9), none⟩,
 ⟨some 58, .load1 (.t 57), none⟩,
 ⟨some 59, .bslice [(.str [])] 1 1 [(0, (.t 58))], none⟩,
 ⟨some 60, .app 1 16 (.t 56) (.t 59), none⟩,
 ⟨some 61, .faddr 2 (.t 7), none⟩,
 ⟨none, .store 1 (.t 61) (.t 60), none⟩]
def F55u16 : List AIns := [⟨some 62, .bin .add (.t 37) (.c (.int .i64 (1 : Nat))), none⟩,
 ⟨some 37, .mov (.t 62), none⟩]
def F55u17 : List AIns := [⟨some 63, .faddr 2 (.t 7), none⟩,
 ⟨some 64, .load1 (.t 63), none⟩,
 ⟨some 65, .call 92 [(.t 64)], none⟩]
def F55u18 : List AIns := [⟨some 66, .faddr 2 (.t 7), none⟩,
 ⟨some 67, .load1 (.t 66), none⟩,
 ⟨some 68, .call 93 [(.t 67)], none⟩,
 ⟨some 69, .faddr 2 (.t 7), none⟩,
 ⟨none, .store 1 (.t 69) (.t 68), none⟩]
def F55u19 : List AIns := [⟨some 70, .loadN 16 (.t 6), none⟩,
 ⟨some 71, .mov (.c (.int .i64 (0 : Nat))), none⟩]
def F55u20 : List AIns := [⟨some 72, .bin .lss (.t 71) (.c (.int .i64 (16 : Nat))), none⟩]
def F55u21 : List AIns := [⟨some 73, .mov (.t 71), none⟩,
 ⟨some 74, .idxA 1 16 false (.t 70) (.t 71), none⟩,
 ⟨some 12, .mov (.t 73), none⟩,
 ⟨some 13, .mov (.t 74), none⟩]
def F55u22 : List AIns := [⟨some 76, .mov (.t 13), none⟩,
 ⟨some 77, .mov (.t 76), none⟩,
 ⟨some 78, .mov (.t 12), some (77, true)⟩,
 ⟨some 79, .bin .lss (.t 78) (.c (.int .i64 (12 : Nat))), some (77, true)⟩,
 ⟨some 80, .pick (.t 77) (.t 79) (.c (.bool false)), none⟩,
 ⟨some 75, .mov (.t 80), none⟩]
def F55u23 : List AIns := [⟨some 81, .mov (.t 12), none⟩,
 ⟨some 82, .bin .add (.t 81) (.c (.int .i64 (1 : Nat))), none⟩,
 ⟨some 83, .faddr 0 (.t 7), none⟩,
 ⟨none, .store 1 (.t 83) (.t 82), none⟩]
def F55u24 : List AIns := [⟨some 85, .mov (.t 13), none⟩,
 ⟨some 84, .mov (.t 85), none⟩]
def F55u25 : List AIns := [⟨some 86, .mov (.t 12), none⟩,
 ⟨some 87, .bin .add (.t 86) (.c (.int .i64 (1 : Nat))), none⟩,
 ⟨some 88, .bin .sub (.t 87) (.c (.int .i64 (12 : Nat))), none⟩,
 ⟨some 89, .faddr 1 (.t 7), none⟩,
 ⟨none, .store 1 (.t 89) (.t 88), none⟩]
def F55u26 : List AIns := [⟨some 90, .bin .add (.t 71) (.c (.int .i64 (1 : Nat))), none⟩,
 ⟨some 71, .mov (.t 90), none⟩]
def F55u27 : List AIns := [⟨some 91, .loadN 3 (.t 7), none⟩,
 ⟨none, .store 3 (.t 2) (.t 91), none⟩,
 ⟨some 3, .mov (.c (.int .i64 (0 : Nat))), none⟩]
def F55u28 : List AIns := [⟨some 29, .build [(.int .i64 (0 : Nat)), (.int .i64 (0 : Nat)), .nils] [], none⟩,
 ⟨some 30, .faddr 2 (.t 5), none⟩,
 ⟨some 31, .load1 (.t 30), none⟩,
 ⟨none, .store 3 (.t 2) (.t 29), none⟩,
 ⟨some 3, .mov (.t 31), none⟩]
def F55u28p : List IPh := [⟨[.one 0, .one 1, .one 2], [], some 3⟩,
 ⟨[.again 1, .again 2, .one 4], [], none⟩]
def F55u29 : List AIns := [⟨some 46, .loadN 16 (.t 6), none⟩,
 ⟨some 47, .loadN 33 (.t 9), none⟩,
 ⟨some 48, .call 91 [(.t 47)], none⟩,
 ⟨some 49, .call 90 [(.t 46), (.t 48)], none⟩,
 ⟨some 50, .loadN 16 (.t 10), none⟩,
 ⟨some 51, .call 90 [(.t 49), (.t 50)], none⟩,
 ⟨none, .store 16 (.t 6) (.t 51), none⟩]
def F55u29p : List IPh := [⟨[.one 0, .one 1, .one 4], [], some 2⟩,
 ⟨[.again 0, .again 4], [], some 3⟩,
 ⟨[.again 4], [], some 5⟩,
 ⟨[], [], some 6⟩,
 ⟨[], [], none⟩]
def F55 : AFunc := ⟨1, List.replicate 91 und, [.cell 2 (some 3), .tmp 3],
 (.seq
 (.reg F55u0)
 (.seq
 (.seq
 (.reg F55u1)
 (.seq
 (.reg F55u2)
 (.cond (.t 17)
 (.seq
 (.reg F55u3)
 .ret)
 .skip)))
 (.seq
 (.seq
 (.reg F55u4)
 (.cond (.t 22)
 (.seq
 (.reg F55u5)
 .ret)
 .skip))
 (.seq
 (.seq
 (.reg F55u6)
 (.seq
 (.reg F55u7)
 (.cond (.t 28)
 (.seq
 (.dreg 0 F55u28 F55u28p)
 .ret)
 .skip)))
 (.seq
 (.reg F55u8)
 (.seq
 (.reg F55u9)
 (.seq
 (.seq
 (.reg F55u10)
 (.block 0
 (.loop
 (.seq
 (.reg F55u11)
 (.seq
 (.cond (.t 38)
 .skip
 (.exit 0))
 (.seq
 (.block 1
 (.seq
 (.reg F55u12)
 (.seq
 (.reg F55u13)
 (.seq
 (.dreg 0 F55u29 F55u29p)
 (.seq
 (.reg F55u14)
 (.cond (.t 54)
 (.reg F55u15)
 .skip))))))
 (.reg F55u16)))))))
 (.seq
 (.reg F55u17)
 (.seq
 (.reg F55u18)
 (.seq
 (.seq
 (.reg F55u19)
 (.block 2
 (.loop
 (.seq
 (.reg F55u20)
 (.seq
 (.cond (.t 72)
 .skip
 (.exit 2))
 (.seq
 (.block 3
 (.seq
 (.reg F55u21)
 (.block 4
 (.seq
 (.reg F55u22)
 (.cond (.t 75)
 (.reg F55u23)
 (.seq
 (.reg F55u24)
 (.cond (.t 84)
 (.reg F55u25)
 .skip)))))))
 (.reg F55u26)))))))
 (.seq
 (.reg F55u27)
 .ret)))))))))))⟩
/-! (*univocal/code.compiler).block -/
def F56u0 : List AIns := [⟨some 10, .mov (.t 1), none⟩,
 ⟨some 11, .bin .lss (.t 10) (.c (.int .i64 (0 : Nat))), none⟩]
def F56u1 : List AIns := [⟨some 12, .call 94 [], none⟩,
 ⟨some 4, .alloc [.nilf, .nilf, .nilf, .nilf, .nilf, .nilf, .nilf, .nilf, .nilf, .nilf, .nilf, .nilf, .nilf, .nilf, .nilf, .nilf], none⟩,
 ⟨none, .store 16 (.t 4) (.t 12), none⟩]
def F56u2 : List AIns := [⟨some 13, .mov (.t 0), none⟩,
 ⟨some 14, .nilchk (.t 13), none⟩,
 ⟨some 15, .faddr 0 (.t 14), none⟩,
 ⟨some 16, .faddr 1 (.t 15), none⟩,
 ⟨some 17, .load1 (.t 16), none⟩,
 ⟨some 18, .mov (.t 1), none⟩,
 ⟨some 19, .iaddrS 1 (.t 17) (.t 18), none⟩,
 ⟨some 20, .load1 (.t 19), none⟩,
 ⟨some 21, .len .sl (.t 20), none⟩,
 ⟨some 22, .mov (.c (.int .i64 (0 : Nat))), none⟩]
def F56u3 : List AIns := [⟨some 23, .bin .lss (.t 22) (.t 21), none⟩]
def F56u4 : List AIns := [⟨some 24, .iaddrS 1 (.t 20) (.t 22), none⟩,
 ⟨some 25, .load1 (.t 24), none⟩,
 ⟨some 6, .mov (.t 25), none⟩]
def F56u5 : List AIns := [⟨some 26, .mov (.t 0), none⟩,
 ⟨some 27, .nilchk (.t 26), none⟩,
 ⟨some 28, .faddr 0 (.t 27), none⟩,
 ⟨some 29, .faddr 0 (.t 28), none⟩,
 ⟨some 30, .load1 (.t 29), none⟩,
 ⟨some 31, .mov (.t 6), none⟩,
 ⟨some 32, .iaddrS 33 (.t 30) (.t 31), none⟩,
 ⟨some 33, .loadN 33 (.t 32), none⟩,
 ⟨some 7, .alloc [(.int .i64 (0 : Nat)), (.int .i64 (0 : Nat)), (.int .i64 (0 : Nat)), (.int .i64 (0 : Nat)), (.int .i64 (0 : Nat)), (.int .i64 (0 : Nat)), (.int .i64 (0 : Nat)), .nils, (.bool false), (.int .i64 (0 : Nat)), .nils, .nils, (.int .u64 (0 : Nat)), (.int .u64 (0 : Nat)), (.int .u64 (0 : Nat)), (.int .u64 (0 : Nat)), (.int .i64 (0 : Nat)), (.int .i64 (0 : Nat)), (.int .i64 (0 : Nat)), (.int .i64 (0 : Nat)), (.bool false), .nils, .nils, (.int .i64 (0 : Nat)), (.bool false), (.int .i64 (0 : Nat)), (.int .i64 (0 : Nat)), (.int .i64 (0 : Nat)), (.int .i64 (0 : Nat)), .nils, (.str []), (.int .i64 (0 : Nat)), (.int .i64 (0 : Nat))], none⟩,
 ⟨none, .store 33 (.t 7) (.t 33), none⟩]
def F56u6 : List AIns := [⟨some 34, .mov (.t 0), none⟩,
 ⟨some 35, .nilchk (.t 34), none⟩,
 ⟨some 36, .faddr 2 (.t 35), none⟩,
 ⟨some 37, .faddr 1 (.t 36), none⟩,
 ⟨some 38, .load1 (.t 37), none⟩,
 ⟨some 39, .len .sl (.t 38), none⟩,
 ⟨some 8, .mov (.t 39), none⟩]
def F56u7 : List AIns := [⟨some 40, .loadN 33 (.t 7), none⟩,
 ⟨some 9, .alloc [(.int .i64 (0 : Nat)), (.int .i64 (0 : Nat)), (.int .i64 (0 : Nat)), (.int .i64 (0 : Nat)), (.int .i64 (0 : Nat)), (.int .i64 (0 : Nat)), (.int .i64 (0 : Nat)), .nils, (.bool false), (.int .i64 (0 : Nat)), .nils, .nils, (.int .u64 (0 : Nat)), (.int .u64 (0 : Nat)), (.int .u64 (0 : Nat)), (.int .u64 (0 : Nat)), (.int .i64 (0 : Nat)), (.int .i64 (0 : Nat)), (.int .i64 (0 : Nat)), (.int .i64 (0 : Nat)), (.bool false), .nils, .nils, (.int .i64 (0 : Nat)), (.bool false), (.int .i64 (0 : Nat)), (.int .i64 (0 : Nat)), (.int .i64 (0 : Nat)), (.int .i64 (0 : Nat)), .nils, (.str []), (.int .i64 (0 : Nat)), (.int .i64 (0 : Nat))], none⟩,
 ⟨none, .store 33 (.t 9) (.t 40), none⟩]
def F56u8 : List AIns := [⟨some 41, .faddr 31 (.t 9), none⟩,
 ⟨none, .store 1 (.t 41) (.c (.int .i64 (.negSucc 0))), none⟩,
 ⟨some 42, .faddr 32 (.t 9), none⟩,
 ⟨none, .store 1 (.t 42) (.c (.int .i64 (.negSucc 0))), none⟩]
def F56u9 : List AIns := [⟨some 64, .bin .add (.t 22) (.c (.int .i64 (1 : Nat))), none⟩,
 ⟨some 22, .mov (.t 64), none⟩]
def F56u10 : List AIns := [⟨some 43, .mov (.t 0), none⟩,
 ⟨some 44, .mov (.t 0), none⟩,
 ⟨some 45, .nilchk (.t 44), none⟩,
 ⟨some 46, .faddr 2 (.t 45), none⟩,
 ⟨some 47, .faddr 1 (.t 46), none⟩,
 ⟨some 48, .load1 (.t 47), none⟩,
 ⟨some 49, .loadN 33 (.t 9), none⟩,
 ⟨some 50, .call 95 [(.t 49)], none⟩,
 ⟨some 51, .bslice [(.int .i64 (0 : Nat)), (.int .i64 (0 : Nat)), (.int .i64 (0 : Nat)), (.int .i64 (0 : Nat)), (.int .i64 (0 : Nat)), (.int .i64 (0 : Nat)), (.int .i64 (0 : Nat)), .nils, (.bool false), (.int .i64 (0 : Nat)), .nils, .nils, (.int .u64 (0 : Nat)), (.int .u64 (0 : Nat)), (.int .u64 (0 : Nat)), (.int .u64 (0 : Nat)), (.int .i64 (0 : Nat)), (.int .i64 (0 : Nat)), (.int .i64 (0 : Nat)), (.int .i64 (0 : Nat)), (.bool false), .nils, .nils, (.int .i64 (0 : Nat)), (.bool false), (.int .i64 (0 : Nat)), (.int .i64 (0 : Nat)), (.int .i64 (0 : Nat)), (.int .i64 (0 : Nat)), .nils, (.str []), (.int .i64 (0 : Nat)), (.int .i64 (0 : Nat))] 33 1 [(0, (.t 50))], none⟩,
 ⟨some 52, .app 33 368 (.t 48) (.t 51), none⟩,
 ⟨some 53, .nilchk (.t 43), none⟩,
 ⟨some 54, .faddr 2 (.t 53), none⟩,
 ⟨some 55, .faddr 1 (.t 54), none⟩,
 ⟨none, .store 1 (.t 55) (.t 52), none⟩]
def F56u10p : List IPh := [⟨[.one 0, .one 1, .one 2, .one 3, .one 4, .one 5, .one 6], [], some 7⟩,
 ⟨[.again 0, .again 1, .again 2, .again 3, .again 4, .again 5, .res 8 0], [(8, 0)], some 9⟩,
 ⟨[.again 0, .one 10, .one 11, .one 12], [], some 13⟩,
 ⟨[], [], none⟩]
def F56u11 : List AIns := [⟨some 56, .faddr 0 (.t 7), none⟩,
 ⟨some 57, .load1 (.t 56), none⟩,
 ⟨some 58, .iaddrA 1 16 (.t 4) (.t 57), none⟩,
 ⟨some 59, .load1 (.t 58), none⟩,
 ⟨some 60, .mov (.t 0), none⟩,
 ⟨some 61, .loadN 33 (.t 7), none⟩,
 ⟨some 62, .mov (.t 8), none⟩,
 ⟨some 63, .dyn (.t 59) [(.t 60), (.t 61), (.t 62)], none⟩]
def F56u11p : List IPh := [⟨[.one 0, .one 1, .one 2, .one 3, .one 4, .one 5, .one 6], [], some 7⟩,
 ⟨[], [], none⟩]
def F56 : AFunc := ⟨2, List.replicate 63 und, [],
 (.seq
 (.seq
 (.reg F56u0)
 (.cond (.t 11)
 .ret
 .skip))
 (.seq
 (.reg F56u1)
 (.seq
 (.reg F56u2)
 (.block 0
 (.loop
 (.seq
 (.reg F56u3)
 (.seq
 (.cond (.t 23)
 .skip
 (.exit 0))
 (.seq
 (.block 1
 (.seq
 (.reg F56u4)
 (.seq
 (.reg F56u5)
 (.seq
 (.reg F56u6)
 (.seq
 (.reg F56u7)
 (.seq
 (.reg F56u8)
 (.seq
 (.dreg 1 F56u10 F56u10p)
 (.dreg 0 F56u11 F56u11p))))))))
 (.reg F56u9)))))))))⟩
/-! (*univocal/code.compiler).emit -/
def F57u0 : List AIns := [⟨some 10, .mov (.c (.int .i64 (0 : Nat))), none⟩]
def F57u1 : List AIns := [⟨some 11, .mov (.t 0), none⟩,
 ⟨some 12, .mov (.t 0), none⟩,
 ⟨some 13, .nilchk (.t 12), none⟩,
 ⟨some 14, .faddr 2 (.t 13), none⟩,
 ⟨some 15, .faddr 0 (.t 14), none⟩,
 ⟨some 16, .load1 (.t 15), none⟩,
 ⟨some 17, .mov (.t 1), none⟩,
 ⟨some 18, .mov (.t 2), none⟩,
 ⟨some 19, .mov (.t 3), none⟩,
 ⟨some 20, .mov (.t 4), none⟩,
 ⟨some 21, .build [(.int .i64 (0 : Nat)), (.int .i64 (0 : Nat)), (.int .i64 (0 : Nat)), (.int .i64 (0 : Nat))] [(0, 1, (.t 17)), (1, 1, (.t 18)), (2, 1, (.t 19)), (3, 1, (.t 20))], none⟩,
 ⟨some 22, .bslice [(.int .i64 (0 : Nat)), (.int .i64 (0 : Nat)), (.int .i64 (0 : Nat)), (.int .i64 (0 : Nat))] 4 1 [(0, (.t 21))], none⟩,
 ⟨some 23, .app 4 32 (.t 16) (.t 22), none⟩,
 ⟨some 24, .nilchk (.t 11), none⟩,
 ⟨some 25, .faddr 2 (.t 24), none⟩,
 ⟨some 26, .faddr 0 (.t 25), none⟩,
 ⟨none, .store 1 (.t 26) (.t 23), none⟩]
def F57u2 : List AIns := [⟨some 27, .mov (.t 0), none⟩,
 ⟨some 28, .nilchk (.t 27), none⟩,
 ⟨some 29, .faddr 2 (.t 28), none⟩,
 ⟨some 30, .faddr 0 (.t 29), none⟩,
 ⟨some 31, .load1 (.t 30), none⟩,
 ⟨some 32, .len .sl (.t 31), none⟩,
 ⟨some 33, .bin .sub (.t 32) (.c (.int .i64 (1 : Nat))), none⟩,
 ⟨some 10, .mov (.t 33), none⟩]
def F57 : AFunc := ⟨5, List.replicate 29 und, [.tmp 10],
 (.seq
 (.reg F57u0)
 (.seq
 (.reg F57u1)
 (.seq
 (.reg F57u2)
 .ret)))⟩
/-! univocal/vm.Start -/
def F58u0 : List AIns := [⟨some 2, .box (.t 0), none⟩,
 ⟨some 4, .alloc [(.int .i64 (0 : Nat)), .nils, .nils, .nils, (.bool false), (.int .i64 (0 : Nat)), .nils, (.bool false)], none⟩,
 ⟨some 5, .mov (.c (.int .i64 (0 : Nat))), none⟩]
def F58u1 : List AIns := [⟨some 7, .loadN 5 (.t 2), none⟩,
 ⟨some 8, .call 96 [(.t 7)], none⟩,
 ⟨some 9, .un .not (.t 8), none⟩,
 ⟨some 10, .mov (.t 9), none⟩,
 ⟨some 11, .mov (.t 1), some (10, false)⟩,
 ⟨some 12, .len .sl (.t 11), some (10, false)⟩,
 ⟨some 13, .bin .gtr (.t 12) (.c (.int .i64 (4096 : Nat))), some (10, false)⟩,
 ⟨some 14, .pick (.t 10) (.c (.bool true)) (.t 13), none⟩]
def F58u2 : List AIns := [⟨some 15, .build [(.int .i64 (0 : Nat)), .nils, .nils, .nils, (.bool false), (.int .i64 (0 : Nat)), .nils, (.bool false)] [], none⟩,
 ⟨none, .store 8 (.t 4) (.t 15), none⟩,
 ⟨some 5, .mov (.c (.int .i64 (1 : Nat))), none⟩]
def F58u3 : List AIns := [⟨some 31, .loadN 8 (.t 6), none⟩,
 ⟨none, .store 8 (.t 4) (.t 31), none⟩,
 ⟨some 5, .mov (.c (.int .i64 (0 : Nat))), none⟩]
def F58u4 : List AIns := [⟨some 16, .faddr 2 (.t 2), none⟩,
 ⟨some 17, .load1 (.t 16), none⟩,
 ⟨some 18, .mksl [.nils] 24 (.t 17) (.t 17), none⟩,
 ⟨some 19, .faddr 3 (.t 2), none⟩,
 ⟨some 20, .load1 (.t 19), none⟩,
 ⟨some 21, .mksl [(.int .i64 (0 : Nat))] 8 (.t 20) (.t 20), none⟩,
 ⟨some 22, .faddr 4 (.t 2), none⟩,
 ⟨some 23, .load1 (.t 22), none⟩,
 ⟨some 24, .mksl [(.int .i64 (0 : Nat))] 8 (.t 23) (.t 23), none⟩,
 ⟨some 25, .build [(.int .i64 (0 : Nat)), .nils, .nils, .nils, (.bool false), (.int .i64 (0 : Nat)), .nils, (.bool false)] [(1, 1, (.t 18)), (2, 1, (.t 21)), (3, 1, (.t 24))], none⟩,
 ⟨some 6, .alloc [(.int .i64 (0 : Nat)), .nils, .nils, .nils, (.bool false), (.int .i64 (0 : Nat)), .nils, (.bool false)], none⟩,
 ⟨none, .store 8 (.t 6) (.t 25), none⟩]
def F58u4p : List IPh := [⟨[.one 0, .one 1, .res 2 0, .one 3, .one 4, .res 5 1, .one 6, .one 7, .res 8 2, .one 9, .res 10 3], [(2, 0), (5, 1), (8, 2), (10, 3)], some 11⟩,
 ⟨[], [], none⟩]
def F58u5 : List AIns := [⟨some 26, .faddr 1 (.t 6), none⟩,
 ⟨some 27, .load1 (.t 26), none⟩,
 ⟨some 28, .mov (.t 1), none⟩,
 ⟨some 29, .call 60 [(.t 28)], none⟩,
 ⟨some 30, .iaddrS 1 (.t 27) (.c (.int .i64 (0 : Nat))), none⟩,
 ⟨none, .store 1 (.t 30) (.t 29), none⟩]
def F58u5p : List IPh := [⟨[.one 0, .one 1, .one 2], [], some 3⟩,
 ⟨[.again 0, .again 1, .one 4], [], some 5⟩,
 ⟨[], [], none⟩]
def F58 : AFunc := ⟨2, List.replicate 30 und, [.cell 4 (some 8), .tmp 5],
 (.seq
 (.reg F58u0)
 (.seq
 (.seq
 (.reg F58u1)
 (.cond (.t 14)
 (.seq
 (.reg F58u2)
 .ret)
 .skip))
 (.seq
 (.dreg 4 F58u4 F58u4p)
 (.seq
 (.dreg 0 F58u5 F58u5p)
 (.seq
 (.reg F58u3)
 .ret)))))⟩
/-! univocal/vm.Go -/
def F59u0 : List AIns := [⟨some 3, .box (.t 0), none⟩,
 ⟨some 4, .box (.t 1), none⟩,
 ⟨some 6, .alloc [(.int .i64 (0 : Nat)), .nils, .nils, .nils, (.bool false), (.int .i64 (0 : Nat)), .nils, (.bool false)], none⟩,
 ⟨some 7, .mov (.c (.int .i64 (0 : Nat))), none⟩,
 ⟨some 8, .mov (.c (.int .i64 (0 : Nat))), none⟩]
def F59u1 : List AIns := [⟨some 13, .loadN 5 (.t 3), none⟩,
 ⟨some 14, .call 96 [(.t 13)], none⟩,
 ⟨some 15, .un .not (.t 14), none⟩,
 ⟨some 16, .mov (.t 15), none⟩,
 ⟨some 17, .mov (.t 2), some (16, false)⟩,
 ⟨some 18, .bin .lss (.t 17) (.c (.int .i64 (0 : Nat))), some (16, false)⟩,
 ⟨some 19, .pick (.t 16) (.c (.bool true)) (.t 18), none⟩,
 ⟨some 20, .mov (.t 19), none⟩,
 ⟨some 21, .mov (.t 2), some (20, false)⟩,
 ⟨some 22, .bin .gtr (.t 21) (.c (.int .i64 (1073741824 : Nat))), some (20, false)⟩,
 ⟨some 23, .pick (.t 20) (.c (.bool true)) (.t 22), none⟩]
def F59u2 : List AIns := [⟨some 24, .build [(.int .i64 (0 : Nat)), .nils, .nils, .nils, (.bool false), (.int .i64 (0 : Nat)), .nils, (.bool false)] [], none⟩,
 ⟨none, .store 8 (.t 6) (.t 24), none⟩,
 ⟨some 7, .mov (.c (.int .i64 (0 : Nat))), none⟩,
 ⟨some 8, .mov (.c (.int .i64 (1 : Nat))), none⟩]
def F59u3 : List AIns := [⟨some 25, .loadN 5 (.t 3), none⟩,
 ⟨some 26, .loadN 8 (.t 4), none⟩,
 ⟨some 27, .call 97 [(.t 25), (.t 26)], none⟩,
 ⟨some 28, .un .not (.t 27), none⟩]
def F59u4 : List AIns := [⟨some 29, .build [(.int .i64 (0 : Nat)), .nils, .nils, .nils, (.bool false), (.int .i64 (0 : Nat)), .nils, (.bool false)] [], none⟩,
 ⟨none, .store 8 (.t 6) (.t 29), none⟩,
 ⟨some 7, .mov (.c (.int .i64 (0 : Nat))), none⟩,
 ⟨some 8, .mov (.c (.int .i64 (7 : Nat))), none⟩]
def F59u5 : List AIns := [⟨some 30, .loadN 5 (.t 3), none⟩,
 ⟨some 31, .loadN 8 (.t 4), none⟩,
 ⟨some 32, .call 98 [(.t 30), (.t 31)], none⟩,
 ⟨some 9, .mov (.t 32), none⟩]
def F59u6 : List AIns := [⟨some 33, .mov (.t 9), none⟩,
 ⟨some 34, .call 99 [(.t 33)], none⟩,
 ⟨some 10, .alloc [.nilf, .nilf, .nilf, .nilf, .nilf, .nilf, .nilf, .nilf, .nilf], none⟩,
 ⟨none, .store 9 (.t 10) (.t 34), none⟩]
def F59u7 : List AIns := [⟨some 35, .mov (.t 2), none⟩,
 ⟨some 36, .bin .gtr (.t 35) (.c (.int .i64 (0 : Nat))), none⟩,
 ⟨some 37, .mov (.t 36), none⟩,
 ⟨some 38, .mov (.t 9), some (37, true)⟩,
 ⟨some 39, .nilchk (.t 38), some (37, true)⟩,
 ⟨some 40, .faddr 5 (.t 39), some (37, true)⟩,
 ⟨some 41, .faddr 7 (.t 40), some (37, true)⟩,
 ⟨some 42, .load1 (.t 41), some (37, true)⟩,
 ⟨some 43, .un .not (.t 42), some (37, true)⟩,
 ⟨some 44, .pick (.t 37) (.t 43) (.c (.bool false)), none⟩]
def F59u8 : List AIns := [⟨some 60, .mov (.t 9), none⟩,
 ⟨some 61, .nilchk (.t 60), none⟩,
 ⟨some 62, .faddr 5 (.t 61), none⟩,
 ⟨some 63, .faddr 7 (.t 62), none⟩,
 ⟨some 64, .load1 (.t 63), none⟩,
 ⟨some 65, .un .not (.t 64), none⟩]
def F59u9 : List AIns := [⟨some 66, .mov (.t 9), none⟩,
 ⟨some 67, .mov (.t 12), none⟩,
 ⟨some 68, .nilchk (.t 66), none⟩,
 ⟨some 69, .faddr 5 (.t 68), none⟩,
 ⟨some 70, .faddr 0 (.t 69), none⟩,
 ⟨none, .store 1 (.t 70) (.t 67), none⟩]
def F59u10 : List AIns := [⟨some 71, .mov (.t 2), none⟩,
 ⟨some 72, .bin .sub (.t 71) (.c (.int .i64 (1 : Nat))), none⟩,
 ⟨some 2, .mov (.t 72), none⟩]
def F59u11 : List AIns := [⟨some 73, .mov (.t 9), none⟩,
 ⟨some 74, .nilchk (.t 73), none⟩,
 ⟨some 75, .faddr 5 (.t 74), none⟩,
 ⟨some 76, .loadN 8 (.t 75), none⟩,
 ⟨some 77, .mov (.t 2), none⟩,
 ⟨none, .store 8 (.t 6) (.t 76), none⟩,
 ⟨some 7, .mov (.t 77), none⟩,
 ⟨some 8, .mov (.c (.int .i64 (0 : Nat))), none⟩]
def F59u12 : List AIns := [⟨some 45, .faddr 0 (.t 3), none⟩,
 ⟨some 46, .load1 (.t 45), none⟩,
 ⟨some 47, .mov (.t 9), none⟩,
 ⟨some 48, .nilchk (.t 47), none⟩,
 ⟨some 49, .faddr 5 (.t 48), none⟩,
 ⟨some 50, .faddr 0 (.t 49), none⟩,
 ⟨some 51, .load1 (.t 50), none⟩,
 ⟨some 52, .iaddrS 4 (.t 46) (.t 51), none⟩,
 ⟨some 53, .loadN 4 (.t 52), none⟩,
 ⟨some 11, .alloc [(.int .i64 (0 : Nat)), (.int .i64 (0 : Nat)), (.int .i64 (0 : Nat)), (.int .i64 (0 : Nat))], none⟩,
 ⟨none, .store 4 (.t 11) (.t 53), none⟩]
def F59u12p : List IPh := [⟨[.one 0, .one 1, .one 2, .one 3, .one 4, .one 5, .one 6, .one 7, .one 8, .res 9 0], [(9, 0)], some 10⟩,
 ⟨[], [], none⟩]
def F59u13 : List AIns := [⟨some 54, .faddr 0 (.t 11), none⟩,
 ⟨some 55, .load1 (.t 54), none⟩,
 ⟨some 56, .iaddrA 1 9 (.t 10) (.t 55), none⟩,
 ⟨some 57, .load1 (.t 56), none⟩,
 ⟨some 58, .loadN 4 (.t 11), none⟩,
 ⟨some 59, .dyn (.t 57) [(.t 58)], none⟩,
 ⟨some 12, .mov (.t 59), none⟩]
def F59u13p : List IPh := [⟨[.one 0, .one 1, .one 2, .one 3, .one 4], [], some 5⟩,
 ⟨[.one 6], [], none⟩]
def F59 : AFunc := ⟨3, List.replicate 75 und, [.cell 6 (some 8), .tmp 7, .tmp 8],
 (.seq
 (.reg F59u0)
 (.seq
 (.seq
 (.reg F59u1)
 (.cond (.t 23)
 (.seq
 (.reg F59u2)
 .ret)
 .skip))
 (.seq
 (.seq
 (.reg F59u3)
 (.cond (.t 28)
 (.seq
 (.reg F59u4)
 .ret)
 .skip))
 (.seq
 (.reg F59u5)
 (.seq
 (.reg F59u6)
 (.seq
 (.block 0
 (.loop
 (.seq
 (.seq
 (.reg F59u7)
 (.cond (.t 44)
 .skip
 (.exit 0)))
 (.block 1
 (.seq
 (.dreg 1 F59u12 F59u12p)
 (.seq
 (.dreg 0 F59u13 F59u13p)
 (.seq
 (.seq
 (.reg F59u8)
 (.cond (.t 65)
 (.reg F59u9)
 .skip))
 (.reg F59u10))))))))
 (.seq
 (.reg F59u11)
 .ret)))))))⟩
/-! slices.Clone[[]byte,byte] -/
def F60u0 : List AIns := [⟨some 2, .mov (.c .nils), none⟩]
def F60u1 : List AIns := [⟨some 3, .mov (.t 0), none⟩,
 ⟨some 4, .eq .slice false (.t 3) (.c .nils), none⟩]
def F60u2 : List AIns := [⟨some 2, .mov (.c .nils), none⟩]
def F60u3 : List AIns := [⟨some 5, .bslice [(.int .u8 (0 : Nat))] 1 0 [], none⟩,
 ⟨some 6, .mov (.t 0), none⟩,
 ⟨some 7, .app 1 1 (.t 5) (.t 6), none⟩,
 ⟨some 2, .mov (.t 7), none⟩]
def F60 : AFunc := ⟨1, List.replicate 7 und, [.tmp 2],
 (.seq
 (.reg F60u0)
 (.seq
 (.seq
 (.reg F60u1)
 (.cond (.t 4)
 (.seq
 (.reg F60u2)
 .ret)
 .skip))
 (.seq
 (.reg F60u3)
 .ret)))⟩
/-! (*univocal/interp.execution).assignments -/
def F61u0 : List AIns := [⟨some 2, .mov (.c .nilm), none⟩]
def F61u1 : List AIns := [⟨some 3, .mkmap, none⟩,
 ⟨some 4, .mov (.t 0), none⟩,
 ⟨some 5, .mkf (.func 100) [(.t 4)] [], none⟩,
 ⟨none, .mupd .int (.t 3) (.c (.int .i64 (1 : Nat))) (.t 5), none⟩,
 ⟨some 6, .mov (.t 0), none⟩,
 ⟨some 7, .mkf (.func 101) [(.t 6)] [], none⟩,
 ⟨none, .mupd .int (.t 3) (.c (.int .i64 (2 : Nat))) (.t 7), none⟩,
 ⟨some 8, .mov (.t 0), none⟩,
 ⟨some 9, .mkf (.func 102) [(.t 8)] [], none⟩,
 ⟨none, .mupd .int (.t 3) (.c (.int .i64 (3 : Nat))) (.t 9), none⟩,
 ⟨some 10, .mov (.t 0), none⟩,
 ⟨some 11, .mkf (.func 103) [(.t 10)] [], none⟩,
 ⟨none, .mupd .int (.t 3) (.c (.int .i64 (4 : Nat))) (.t 11), none⟩,
 ⟨some 12, .mov (.t 0), none⟩,
 ⟨some 13, .mkf (.func 104) [(.t 12)] [], none⟩,
 ⟨none, .mupd .int (.t 3) (.c (.int .i64 (5 : Nat))) (.t 13), none⟩,
 ⟨some 14, .mov (.t 0), none⟩,
 ⟨some 15, .mkf (.func 105) [(.t 14)] [], none⟩,
 ⟨none, .mupd .int (.t 3) (.c (.int .i64 (6 : Nat))) (.t 15), none⟩,
 ⟨some 16, .mov (.t 0), none⟩,
 ⟨some 17, .mkf (.func 106) [(.t 16)] [], none⟩,
 ⟨none, .mupd .int (.t 3) (.c (.int .i64 (7 : Nat))) (.t 17), none⟩,
 ⟨some 18, .mov (.t 0), none⟩,
 ⟨some 19, .mkf (.func 107) [(.t 18)] [], none⟩,
 ⟨none, .mupd .int (.t 3) (.c (.int .i64 (8 : Nat))) (.t 19), none⟩,
 ⟨some 20, .mov (.t 0), none⟩,
 ⟨some 21, .mkf (.func 108) [(.t 20)] [], none⟩,
 ⟨none, .mupd .int (.t 3) (.c (.int .i64 (9 : Nat))) (.t 21), none⟩,
 ⟨some 22, .mov (.t 3), none⟩,
 ⟨some 2, .mov (.t 22), none⟩]
def F61 : AFunc := ⟨1, List.replicate 22 und, [.tmp 2],
 (.seq
 (.reg F61u0)
 (.seq
 (.reg F61u1)
 .ret))⟩
/-! (*univocal/interp.execution).run -/
def F62u0 : List AIns := [⟨some 2, .alloc [(.bool false), (.int .i64 (0 : Nat))], none⟩]
def F62u1 : List AIns := [⟨some 3, .mkf (.func 109) [] [(.t 2)], none⟩,
 ⟨none, .defer (.t 3) [], none⟩]
def F62u2 : List AIns := [⟨some 4, .mov (.t 0), none⟩,
 ⟨some 5, .call 110 [(.t 4), (.c (.int .i64 (0 : Nat)))], none⟩]
def F62u3 : List AIns := [⟨some 6, .build [(.bool false), (.int .i64 (0 : Nat))] [(0, 1, (.c (.bool true)))], none⟩,
 ⟨none, .store 2 (.t 2) (.t 6), none⟩]
def F62 : AFunc := ⟨1, List.replicate 6 und, [.cell 2 (some 2)],
 (.seq
 (.reg F62u0)
 (.seq
 (.reg F62u1)
 (.seq
 (.reg F62u2)
 (.seq
 (.reg F62u3)
 .ret))))⟩
/-! slices.ContainsFunc[[]int,int] -/
def F80u0 : List AIns := [⟨some 4, .mov (.c (.bool false)), none⟩]
def F80u1 : List AIns := [⟨some 5, .mov (.t 0), none⟩,
 ⟨some 6, .mov (.t 1), none⟩,
 ⟨some 7, .call 117 [(.t 5), (.t 6)], none⟩,
 ⟨some 8, .bin .geq (.t 7) (.c (.int .i64 (0 : Nat))), none⟩,
 ⟨some 4, .mov (.t 8), none⟩]
def F80 : AFunc := ⟨2, List.replicate 7 und, [.tmp 4],
 (.seq
 (.reg F80u0)
 (.seq
 (.reg F80u1)
 .ret))⟩
/-! univocal/resolve.walk -/
def F87u0 : List AIns := [⟨some 1, .box (.t 0), none⟩,
 ⟨some 2, .alloc [.nils, (.int .i64 (0 : Nat)), (.int .i64 (0 : Nat))], none⟩]
def F87u1 : List AIns := [⟨some 7, .faddr 0 (.t 1), none⟩,
 ⟨some 8, .load1 (.t 7), none⟩,
 ⟨some 9, .len .sl (.t 8), none⟩,
 ⟨some 10, .mksl [(.bool false)] 1 (.t 9) (.t 9), none⟩,
 ⟨some 11, .build [.nils, (.int .i64 (0 : Nat)), (.int .i64 (0 : Nat))] [(0, 1, (.t 10)), (1, 1, (.c (.int .i64 (.negSucc 0))))], none⟩,
 ⟨some 3, .alloc [.nils, (.int .i64 (0 : Nat)), (.int .i64 (0 : Nat))], none⟩,
 ⟨none, .store 3 (.t 3) (.t 11), none⟩]
def F87u2 : List AIns := [⟨some 12, .mkf (.func 121) [] [(.t 3)], none⟩,
 ⟨some 4, .alloc [.nilf], none⟩,
 ⟨none, .store 1 (.t 4) (.t 12), none⟩]
def F87u3 : List AIns := [⟨some 5, .alloc [.nilf], none⟩]
def F87u4 : List AIns := [⟨some 13, .mkf (.func 122) [] [(.t 1), (.t 3), (.t 4), (.t 5)], none⟩,
 ⟨some 6, .alloc [.nilf], none⟩,
 ⟨none, .store 1 (.t 6) (.t 13), none⟩]
def F87u5 : List AIns := [⟨some 14, .mkf (.func 124) [] [(.t 1), (.t 6)], none⟩,
 ⟨none, .store 1 (.t 5) (.t 14), none⟩]
def F87u6 : List AIns := [⟨some 20, .loadN 3 (.t 3), none⟩,
 ⟨none, .store 3 (.t 2) (.t 20), none⟩]
def F87u7 : List AIns := [⟨some 15, .load1 (.t 5), none⟩,
 ⟨some 16, .bslice [(.int .i64 (0 : Nat))] 1 1 [(0, (.c (.int .i64 (0 : Nat))))], none⟩,
 ⟨some 17, .call 88 [(.t 16), (.c .nils)], none⟩,
 ⟨some 18, .build [(.bool false), (.bool false), (.bool false), (.bool false), (.bool false), (.bool false), (.bool false), (.bool false), (.bool false), (.bool false), (.bool false), (.bool false), (.bool false), (.bool false), (.bool false), (.bool false), (.bool false)] [(0, 1, (.c (.bool true))), (1, 16, (.t 17))], none⟩,
 ⟨some 19, .dyn (.t 15) [(.c (.int .i64 (0 : Nat))), (.t 18), (.c .nilp)], none⟩]
def F87u7p : List IPh := [⟨[.one 0, .res 1 0], [(1, 0)], some 2⟩,
 ⟨[.again 0, .one 3], [], some 4⟩,
 ⟨[], [], none⟩]
def F87 : AFunc := ⟨1, List.replicate 20 und, [.cell 2 (some 3)],
 (.seq
 (.reg F87u0)
 (.seq
 (.reg F87u1)
 (.seq
 (.reg F87u2)
 (.seq
 (.reg F87u3)
 (.seq
 (.reg F87u4)
 (.seq
 (.reg F87u5)
 (.seq
 (.dreg 1 F87u7 F87u7p)
 (.seq
 (.reg F87u6)
 .ret))))))))⟩
/-! univocal/resolve.of -/
def F88u0 : List AIns := [⟨some 4, .alloc [(.bool false), (.bool false), (.bool false), (.bool false), (.bool false), (.bool false), (.bool false), (.bool false), (.bool false), (.bool false), (.bool false), (.bool false), (.bool false), (.bool false), (.bool false), (.bool false)], none⟩]
def F88u1 : List AIns := [⟨some 5, .alloc [(.bool false), (.bool false), (.bool false), (.bool false), (.bool false), (.bool false), (.bool false), (.bool false), (.bool false), (.bool false), (.bool false), (.bool false), (.bool false), (.bool false), (.bool false), (.bool false)], none⟩]
def F88u2 : List AIns := [⟨some 10, .mov (.t 0), none⟩,
 ⟨some 11, .len .sl (.t 10), none⟩,
 ⟨some 12, .mov (.c (.int .i64 (0 : Nat))), none⟩]
def F88u3 : List AIns := [⟨some 13, .bin .lss (.t 12) (.t 11), none⟩]
def F88u4 : List AIns := [⟨some 14, .iaddrS 1 (.t 10) (.t 12), none⟩,
 ⟨some 15, .load1 (.t 14), none⟩,
 ⟨some 7, .mov (.t 15), none⟩]
def F88u5 : List AIns := [⟨some 16, .mov (.t 7), none⟩,
 ⟨some 17, .iaddrA 1 16 (.t 5) (.t 16), none⟩,
 ⟨none, .store 1 (.t 17) (.c (.bool true)), none⟩]
def F88u6 : List AIns := [⟨some 18, .bin .add (.t 12) (.c (.int .i64 (1 : Nat))), none⟩,
 ⟨some 12, .mov (.t 18), none⟩]
def F88u7 : List AIns := [⟨some 19, .mov (.t 1), none⟩,
 ⟨some 20, .len .sl (.t 19), none⟩,
 ⟨some 21, .mov (.c (.int .i64 (0 : Nat))), none⟩]
def F88u8 : List AIns := [⟨some 22, .bin .lss (.t 21) (.t 20), none⟩]
def F88u9 : List AIns := [⟨some 23, .iaddrS 1 (.t 19) (.t 21), none⟩,
 ⟨some 24, .load1 (.t 23), none⟩,
 ⟨some 9, .mov (.t 24), none⟩]
def F88u10 : List AIns := [⟨some 25, .mov (.t 9), none⟩,
 ⟨some 26, .bin .add (.c (.int .i64 (12 : Nat))) (.t 25), none⟩,
 ⟨some 27, .iaddrA 1 16 (.t 5) (.t 26), none⟩,
 ⟨none, .store 1 (.t 27) (.c (.bool true)), none⟩]
def F88u11 : List AIns := [⟨some 28, .bin .add (.t 21) (.c (.int .i64 (1 : Nat))), none⟩,
 ⟨some 21, .mov (.t 28), none⟩]
def F88u12 : List AIns := [⟨some 29, .loadN 16 (.t 5), none⟩,
 ⟨none, .store 16 (.t 4) (.t 29), none⟩]
def F88 : AFunc := ⟨2, List.replicate 28 und, [.cell 4 (some 16)],
 (.seq
 (.reg F88u0)
 (.seq
 (.reg F88u1)
 (.seq
 (.seq
 (.reg F88u2)
 (.block 0
 (.loop
 (.seq
 (.reg F88u3)
 (.seq
 (.cond (.t 13)
 .skip
 (.exit 0))
 (.seq
 (.block 1
 (.seq
 (.reg F88u4)
 (.reg F88u5)))
 (.reg F88u6)))))))
 (.seq
 (.seq
 (.reg F88u7)
 (.block 2
 (.loop
 (.seq
 (.reg F88u8)
 (.seq
 (.cond (.t 22)
 .skip
 (.exit 2))
 (.seq
 (.block 3
 (.seq
 (.reg F88u9)
 (.reg F88u10)))
 (.reg F88u11)))))))
 (.seq
 (.reg F88u12)
 .ret)))))⟩
/-! slices.Sort[[]string,string] -/
def F92u0 : List AIns := [⟨some 3, .mov (.t 0), none⟩,
 ⟨some 4, .len .sl (.t 3), none⟩,
 ⟨some 2, .mov (.t 4), none⟩]
def F92u1 : List AIns := [⟨some 5, .mov (.t 0), none⟩,
 ⟨some 6, .mov (.t 2), none⟩,
 ⟨some 7, .mov (.t 2), none⟩,
 ⟨some 8, .convI .u64 (.t 7), none⟩,
 ⟨some 9, .call 126 [(.t 8)], none⟩,
 ⟨some 10, .call 125 [(.t 5), (.c (.int .i64 (0 : Nat))), (.t 6), (.t 9)], none⟩]
def F92 : AFunc := ⟨1, List.replicate 10 und, [],
 (.seq
 (.reg F92u0)
 (.reg F92u1))⟩
/-! slices.Compact[[]string,string] -/
def F93u0 : List AIns := [⟨some 2, .mov (.c .nils), none⟩]
def F93u1 : List AIns := [⟨some 6, .mov (.t 0), none⟩,
 ⟨some 7, .len .sl (.t 6), none⟩,
 ⟨some 8, .bin .lss (.t 7) (.c (.int .i64 (2 : Nat))), none⟩]
def F93u2 : List AIns := [⟨some 9, .mov (.t 0), none⟩,
 ⟨some 2, .mov (.t 9), none⟩]
def F93u3 : List AIns := [⟨some 3, .mov (.c (.int .i64 (1 : Nat))), none⟩]
def F93u4 : List AIns := [⟨some 10, .mov (.t 3), none⟩,
 ⟨some 11, .mov (.t 0), none⟩,
 ⟨some 12, .len .sl (.t 11), none⟩,
 ⟨some 13, .bin .lss (.t 10) (.t 12), none⟩]
def F93u5 : List AIns := [⟨some 26, .mov (.t 0), none⟩,
 ⟨some 27, .mov (.t 3), none⟩,
 ⟨some 28, .slc 1 (.t 26) (some (.t 27)) none none, none⟩,
 ⟨some 4, .mov (.t 28), none⟩]
def F93u6 : List AIns := [⟨some 5, .mov (.c (.int .i64 (1 : Nat))), none⟩]
def F93u7 : List AIns := [⟨some 29, .mov (.t 5), none⟩,
 ⟨some 30, .mov (.t 4), none⟩,
 ⟨some 31, .len .sl (.t 30), none⟩,
 ⟨some 32, .bin .lss (.t 29) (.t 31), none⟩]
def F93u8 : List AIns := [⟨some 45, .mov (.t 0), none⟩,
 ⟨some 46, .mov (.t 3), none⟩,
 ⟨some 47, .mov (.t 4), none⟩,
 ⟨some 48, .mov (.t 5), none⟩,
 ⟨some 49, .iaddrS 1 (.t 47) (.t 48), none⟩,
 ⟨some 50, .load1 (.t 49), none⟩,
 ⟨some 51, .iaddrS 1 (.t 45) (.t 46), none⟩,
 ⟨none, .store 1 (.t 51) (.t 50), none⟩]
def F93u9 : List AIns := [⟨some 52, .mov (.t 3), none⟩,
 ⟨some 53, .bin .add (.t 52) (.c (.int .i64 (1 : Nat))), none⟩,
 ⟨some 3, .mov (.t 53), none⟩]
def F93u10 : List AIns := [⟨some 33, .mov (.t 5), none⟩,
 ⟨some 34, .bin .add (.t 33) (.c (.int .i64 (1 : Nat))), none⟩,
 ⟨some 5, .mov (.t 34), none⟩]
def F93u11 : List AIns := [⟨some 54, .mov (.t 0), none⟩,
 ⟨some 55, .mov (.t 3), none⟩,
 ⟨some 56, .slc 1 (.t 54) (some (.t 55)) none none, none⟩,
 ⟨none, .clr [(.str [])] (.t 56), none⟩]
def F93u12 : List AIns := [⟨some 57, .mov (.t 0), none⟩,
 ⟨some 58, .mov (.t 3), none⟩,
 ⟨some 59, .slc 1 (.t 57) none (some (.t 58)) none, none⟩,
 ⟨some 2, .mov (.t 59), none⟩]
def F93u13 : List AIns := [⟨some 14, .mov (.t 3), none⟩,
 ⟨some 15, .bin .add (.t 14) (.c (.int .i64 (1 : Nat))), none⟩,
 ⟨some 3, .mov (.t 15), none⟩]
def F93u14 : List AIns := [⟨some 60, .mov (.t 0), none⟩,
 ⟨some 2, .mov (.t 60), none⟩]
def F93u15 : List AIns := [⟨some 16, .mov (.t 0), none⟩,
 ⟨some 17, .mov (.t 3), none⟩,
 ⟨some 18, .iaddrS 1 (.t 16) (.t 17), none⟩,
 ⟨some 19, .load1 (.t 18), none⟩,
 ⟨some 20, .mov (.t 0), none⟩,
 ⟨some 21, .mov (.t 3), none⟩,
 ⟨some 22, .bin .sub (.t 21) (.c (.int .i64 (1 : Nat))), none⟩,
 ⟨some 23, .iaddrS 1 (.t 20) (.t 22), none⟩,
 ⟨some 24, .load1 (.t 23), none⟩,
 ⟨some 25, .bin .eql (.t 19) (.t 24), none⟩]
def F93u15p : List IPh := [⟨[.one 0, .one 1, .one 2, .one 3, .one 4, .one 5, .one 6, .one 7, .one 8, .one 9], [], none⟩]
def F93u16 : List AIns := [⟨some 35, .mov (.t 4), none⟩,
 ⟨some 36, .mov (.t 5), none⟩,
 ⟨some 37, .iaddrS 1 (.t 35) (.t 36), none⟩,
 ⟨some 38, .load1 (.t 37), none⟩,
 ⟨some 39, .mov (.t 4), none⟩,
 ⟨some 40, .mov (.t 5), none⟩,
 ⟨some 41, .bin .sub (.t 40) (.c (.int .i64 (1 : Nat))), none⟩,
 ⟨some 42, .iaddrS 1 (.t 39) (.t 41), none⟩,
 ⟨some 43, .load1 (.t 42), none⟩,
 ⟨some 44, .bin .neq (.t 38) (.t 43), none⟩]
def F93u16p : List IPh := [⟨[.one 0, .one 1, .one 2, .one 3, .one 4, .one 5, .one 6, .one 7, .one 8, .one 9], [], none⟩]
def F93 : AFunc := ⟨1, List.replicate 60 und, [.tmp 2],
 (.seq
 (.reg F93u0)
 (.seq
 (.seq
 (.reg F93u1)
 (.cond (.t 8)
 (.seq
 (.reg F93u2)
 .ret)
 .skip))
 (.seq
 (.seq
 (.reg F93u3)
 (.block 0
 (.loop
 (.seq
 (.seq
 (.reg F93u4)
 (.cond (.t 13)
 .skip
 (.exit 0)))
 (.seq
 (.block 1
 (.seq
 (.dreg 0 F93u15 F93u15p)
 (.cond (.t 25)
 (.seq
 (.reg F93u5)
 (.seq
 (.seq
 (.reg F93u6)
 (.block 2
 (.loop
 (.seq
 (.seq
 (.reg F93u7)
 (.cond (.t 32)
 .skip
 (.exit 2)))
 (.seq
 (.block 3
 (.seq
 (.dreg 0 F93u16 F93u16p)
 (.cond (.t 44)
 (.seq
 (.reg F93u8)
 (.reg F93u9))
 .skip)))
 (.reg F93u10))))))
 (.seq
 (.reg F93u11)
 (.seq
 (.reg F93u12)
 .ret))))
 .skip)))
 (.reg F93u13))))))
 (.seq
 (.reg F93u14)
 .ret))))⟩
/-! univocal/code.table -/
def F94u0 : List AIns := [⟨some 0, .alloc [.nilf, .nilf, .nilf, .nilf, .nilf, .nilf, .nilf, .nilf, .nilf, .nilf, .nilf, .nilf, .nilf, .nilf, .nilf, .nilf], none⟩]
def F94u1 : List AIns := [⟨some 1, .mov (.c (.fn (.func 127) [] [])), none⟩]
def F94u2 : List AIns := [⟨some 2, .mov (.c (.fn (.func 128) [] [])), none⟩]
def F94u3 : List AIns := [⟨some 3, .mov (.t 1), none⟩,
 ⟨some 4, .mov (.t 1), none⟩,
 ⟨some 5, .mov (.t 2), none⟩,
 ⟨some 6, .mov (.t 1), none⟩,
 ⟨some 7, .mov (.t 2), none⟩,
 ⟨some 8, .mov (.t 2), none⟩,
 ⟨some 9, .mov (.t 1), none⟩,
 ⟨some 10, .mov (.t 2), none⟩,
 ⟨some 11, .mov (.t 2), none⟩,
 ⟨some 12, .mov (.t 1), none⟩,
 ⟨some 13, .build [.nilf, .nilf, .nilf, .nilf, .nilf, .nilf, .nilf, .nilf, .nilf, .nilf, .nilf, .nilf, .nilf, .nilf, .nilf, .nilf] [(1, 1, (.t 3)), (2, 1, (.t 4)), (3, 1, (.t 5)), (4, 1, (.t 6)), (5, 1, (.t 7)), (6, 1, (.t 8)), (7, 1, (.t 9)), (8, 1, (.t 10)), (9, 1, (.t 11)), (10, 1, (.c (.fn (.func 130) [] []))), (11, 1, (.c (.fn (.func 131) [] []))), (12, 1, (.c (.fn (.func 132) [] []))), (13, 1, (.t 12)), (14, 1, (.c (.fn (.func 133) [] []))), (15, 1, (.c (.fn (.func 134) [] [])))], none⟩,
 ⟨none, .store 16 (.t 0) (.t 13), none⟩]
def F94 : AFunc := ⟨0, List.replicate 14 und, [.cell 0 (some 16)],
 (.seq
 (.reg F94u0)
 (.seq
 (.reg F94u1)
 (.seq
 (.reg F94u2)
 (.seq
 (.reg F94u3)
 .ret))))⟩
/-! univocal/code.copied -/
def F95u0 : List AIns := [⟨some 1, .box (.t 0), none⟩,
 ⟨some 2, .alloc [(.int .i64 (0 : Nat)), (.int .i64 (0 : Nat)), (.int .i64 (0 : Nat)), (.int .i64 (0 : Nat)), (.int .i64 (0 : Nat)), (.int .i64 (0 : Nat)), (.int .i64 (0 : Nat)), .nils, (.bool false), (.int .i64 (0 : Nat)), .nils, .nils, (.int .u64 (0 : Nat)), (.int .u64 (0 : Nat)), (.int .u64 (0 : Nat)), (.int .u64 (0 : Nat)), (.int .i64 (0 : Nat)), (.int .i64 (0 : Nat)), (.int .i64 (0 : Nat)), (.int .i64 (0 : Nat)), (.bool false), .nils, .nils, (.int .i64 (0 : Nat)), (.bool false), (.int .i64 (0 : Nat)), (.int .i64 (0 : Nat)), (.int .i64 (0 : Nat)), (.int .i64 (0 : Nat)), .nils, (.str []), (.int .i64 (0 : Nat)), (.int .i64 (0 : Nat))], none⟩]
def F95u1 : List AIns := [⟨some 4, .faddr 7 (.t 1), none⟩,
 ⟨some 5, .load1 (.t 4), none⟩,
 ⟨some 6, .call 60 [(.t 5)], none⟩,
 ⟨some 7, .faddr 7 (.t 1), none⟩,
 ⟨none, .store 1 (.t 7) (.t 6), none⟩]
def F95u2 : List AIns := [⟨some 20, .faddr 22 (.t 1), none⟩,
 ⟨some 21, .load1 (.t 20), none⟩,
 ⟨some 22, .call 135 [(.t 21)], none⟩,
 ⟨some 23, .faddr 22 (.t 1), none⟩,
 ⟨none, .store 1 (.t 23) (.t 22), none⟩]
def F95u3 : List AIns := [⟨some 24, .faddr 21 (.t 1), none⟩,
 ⟨some 25, .load1 (.t 24), none⟩,
 ⟨some 26, .call 136 [(.t 25)], none⟩,
 ⟨some 27, .faddr 21 (.t 1), none⟩,
 ⟨none, .store 1 (.t 27) (.t 26), none⟩]
def F95u4 : List AIns := [⟨some 28, .faddr 21 (.t 1), none⟩,
 ⟨some 29, .load1 (.t 28), none⟩,
 ⟨some 30, .len .sl (.t 29), none⟩,
 ⟨some 31, .mov (.c (.int .i64 (0 : Nat))), none⟩]
def F95u5 : List AIns := [⟨some 32, .bin .lss (.t 31) (.t 30), none⟩]
def F95u6 : List AIns := [⟨some 33, .mov (.t 31), none⟩,
 ⟨some 3, .mov (.t 33), none⟩]
def F95u7 : List AIns := [⟨some 46, .bin .add (.t 31) (.c (.int .i64 (1 : Nat))), none⟩,
 ⟨some 31, .mov (.t 46), none⟩]
def F95u8 : List AIns := [⟨some 47, .faddr 23 (.t 1), none⟩,
 ⟨some 48, .faddr 6 (.t 47), none⟩,
 ⟨some 49, .load1 (.t 48), none⟩,
 ⟨some 50, .call 137 [(.t 49)], none⟩,
 ⟨some 51, .faddr 23 (.t 1), none⟩,
 ⟨some 52, .faddr 6 (.t 51), none⟩,
 ⟨none, .store 1 (.t 52) (.t 50), none⟩]
def F95u9 : List AIns := [⟨some 53, .loadN 33 (.t 1), none⟩,
 ⟨none, .store 33 (.t 2) (.t 53), none⟩]
def F95u10 : List AIns := [⟨some 8, .faddr 9 (.t 1), none⟩,
 ⟨some 9, .faddr 1 (.t 8), none⟩,
 ⟨some 10, .load1 (.t 9), none⟩,
 ⟨some 11, .call 60 [(.t 10)], none⟩,
 ⟨some 12, .faddr 9 (.t 1), none⟩,
 ⟨some 13, .faddr 2 (.t 12), none⟩,
 ⟨some 14, .load1 (.t 13), none⟩,
 ⟨some 15, .call 60 [(.t 14)], none⟩,
 ⟨some 16, .faddr 9 (.t 1), none⟩,
 ⟨some 17, .faddr 1 (.t 16), none⟩,
 ⟨none, .store 1 (.t 17) (.t 11), none⟩,
 ⟨some 18, .faddr 9 (.t 1), none⟩,
 ⟨some 19, .faddr 2 (.t 18), none⟩,
 ⟨none, .store 1 (.t 19) (.t 15), none⟩]
def F95u10p : List IPh := [⟨[.one 0, .one 1, .one 2, .one 4, .one 5, .one 6], [], some 3⟩,
 ⟨[.again 4, .again 5, .again 6, .one 8, .one 9], [], some 7⟩,
 ⟨[.again 8, .again 9], [], some 10⟩,
 ⟨[.one 11, .one 12], [], some 13⟩,
 ⟨[], [], none⟩]
def F95u11 : List AIns := [⟨some 34, .faddr 21 (.t 1), none⟩,
 ⟨some 35, .load1 (.t 34), none⟩,
 ⟨some 36, .mov (.t 3), none⟩,
 ⟨some 37, .faddr 21 (.t 1), none⟩,
 ⟨some 38, .load1 (.t 37), none⟩,
 ⟨some 39, .mov (.t 3), none⟩,
 ⟨some 40, .iaddrS 2 (.t 38) (.t 39), none⟩,
 ⟨some 41, .faddr 0 (.t 40), none⟩,
 ⟨some 42, .load1 (.t 41), none⟩,
 ⟨some 43, .call 137 [(.t 42)], none⟩,
 ⟨some 44, .iaddrS 2 (.t 35) (.t 36), none⟩,
 ⟨some 45, .faddr 0 (.t 44), none⟩,
 ⟨none, .store 1 (.t 45) (.t 43), none⟩]
def F95u11p : List IPh := [⟨[.one 0, .one 1, .one 2, .one 3, .one 4, .one 5, .one 6, .one 7, .one 8], [], some 9⟩,
 ⟨[.again 0, .again 1, .again 2, .one 10, .one 11], [], some 12⟩,
 ⟨[], [], none⟩]
def F95 : AFunc := ⟨1, List.replicate 53 und, [.cell 2 (some 33)],
 (.seq
 (.reg F95u0)
 (.seq
 (.reg F95u1)
 (.seq
 (.dreg 0 F95u10 F95u10p)
 (.seq
 (.reg F95u2)
 (.seq
 (.reg F95u3)
 (.seq
 (.seq
 (.reg F95u4)
 (.block 0
 (.loop
 (.seq
 (.reg F95u5)
 (.seq
 (.cond (.t 32)
 .skip
 (.exit 0))
 (.seq
 (.block 1
 (.seq
 (.reg F95u6)
 (.dreg 0 F95u11 F95u11p)))
 (.reg F95u7)))))))
 (.seq
 (.reg F95u8)
 (.seq
 (.reg F95u9)
 .ret))))))))⟩
/-! univocal/vm.fits -/
def F97u0 : List AIns := [⟨some 2, .box (.t 0), none⟩,
 ⟨some 3, .box (.t 1), none⟩,
 ⟨some 4, .mov (.c (.bool false)), none⟩]
def F97u1 : List AIns := [⟨some 5, .faddr 0 (.t 3), none⟩,
 ⟨some 6, .load1 (.t 5), none⟩,
 ⟨some 7, .bin .geq (.t 6) (.c (.int .i64 (0 : Nat))), none⟩,
 ⟨some 8, .mov (.t 7), none⟩,
 ⟨some 9, .faddr 0 (.t 3), some (8, true)⟩,
 ⟨some 10, .load1 (.t 9), some (8, true)⟩,
 ⟨some 11, .faddr 0 (.t 2), some (8, true)⟩,
 ⟨some 12, .load1 (.t 11), some (8, true)⟩,
 ⟨some 13, .len .sl (.t 12), some (8, true)⟩,
 ⟨some 14, .bin .lss (.t 10) (.t 13), some (8, true)⟩,
 ⟨some 15, .pick (.t 8) (.t 14) (.c (.bool false)), none⟩,
 ⟨some 16, .mov (.t 15), none⟩,
 ⟨some 17, .faddr 1 (.t 3), some (16, true)⟩,
 ⟨some 18, .load1 (.t 17), some (16, true)⟩,
 ⟨some 19, .len .sl (.t 18), some (16, true)⟩,
 ⟨some 20, .faddr 2 (.t 2), some (16, true)⟩,
 ⟨some 21, .load1 (.t 20), some (16, true)⟩,
 ⟨some 22, .bin .eql (.t 19) (.t 21), some (16, true)⟩,
 ⟨some 23, .pick (.t 16) (.t 22) (.c (.bool false)), none⟩,
 ⟨some 24, .mov (.t 23), none⟩,
 ⟨some 25, .faddr 2 (.t 3), some (24, true)⟩,
 ⟨some 26, .load1 (.t 25), some (24, true)⟩,
 ⟨some 27, .len .sl (.t 26), some (24, true)⟩,
 ⟨some 28, .faddr 3 (.t 2), some (24, true)⟩,
 ⟨some 29, .load1 (.t 28), some (24, true)⟩,
 ⟨some 30, .bin .eql (.t 27) (.t 29), some (24, true)⟩,
 ⟨some 31, .pick (.t 24) (.t 30) (.c (.bool false)), none⟩,
 ⟨some 32, .mov (.t 31), none⟩,
 ⟨some 33, .faddr 3 (.t 3), some (32, true)⟩,
 ⟨some 34, .load1 (.t 33), some (32, true)⟩,
 ⟨some 35, .len .sl (.t 34), some (32, true)⟩,
 ⟨some 36, .faddr 4 (.t 2), some (32, true)⟩,
 ⟨some 37, .load1 (.t 36), some (32, true)⟩,
 ⟨some 38, .bin .eql (.t 35) (.t 37), some (32, true)⟩,
 ⟨some 39, .pick (.t 32) (.t 38) (.c (.bool false)), none⟩,
 ⟨some 40, .mov (.t 39), none⟩,
 ⟨some 41, .faddr 4 (.t 3), some (40, true)⟩,
 ⟨some 42, .faddr 2 (.t 41), some (40, true)⟩,
 ⟨some 43, .load1 (.t 42), some (40, true)⟩,
 ⟨some 44, .len .sl (.t 43), some (40, true)⟩,
 ⟨some 45, .bin .leq (.t 44) (.c (.int .i64 (16 : Nat))), some (40, true)⟩,
 ⟨some 46, .pick (.t 40) (.t 45) (.c (.bool false)), none⟩,
 ⟨some 47, .mov (.t 46), none⟩,
 ⟨some 48, .faddr 7 (.t 3), some (47, true)⟩,
 ⟨some 49, .load1 (.t 48), some (47, true)⟩,
 ⟨some 50, .mov (.t 49), some (47, true)⟩,
 ⟨some 51, .faddr 4 (.t 3), some (50, false)⟩,
 ⟨some 52, .faddr 0 (.t 51), some (50, false)⟩,
 ⟨some 53, .load1 (.t 52), some (50, false)⟩,
 ⟨some 54, .un .not (.t 53), some (50, false)⟩,
 ⟨some 55, .mov (.t 54), some (50, false)⟩,
 ⟨some 56, .faddr 4 (.t 3), some (55, true)⟩,
 ⟨some 57, .faddr 1 (.t 56), some (55, true)⟩,
 ⟨some 58, .load1 (.t 57), some (55, true)⟩,
 ⟨some 59, .bin .eql (.t 58) (.c (.int .i64 (0 : Nat))), some (55, true)⟩,
 ⟨some 60, .pick (.t 55) (.t 59) (.c (.bool false)), some (50, false)⟩,
 ⟨some 61, .pick (.t 50) (.c (.bool true)) (.t 60), some (47, true)⟩,
 ⟨some 62, .pick (.t 47) (.t 61) (.c (.bool false)), none⟩,
 ⟨some 63, .mov (.t 62), none⟩,
 ⟨some 64, .faddr 1 (.t 3), some (63, true)⟩,
 ⟨some 65, .load1 (.t 64), some (63, true)⟩,
 ⟨some 66, .call 139 [(.t 65), (.c (.fn (.func 140) [] []))], some (63, true)⟩,
 ⟨some 67, .un .not (.t 66), some (63, true)⟩,
 ⟨some 68, .pick (.t 63) (.t 67) (.c (.bool false)), none⟩,
 ⟨some 69, .mov (.t 68), none⟩,
 ⟨some 70, .faddr 2 (.t 3), some (69, true)⟩,
 ⟨some 71, .load1 (.t 70), some (69, true)⟩,
 ⟨some 72, .call 80 [(.t 71), (.c (.fn (.func 141) [] []))], some (69, true)⟩,
 ⟨some 73, .un .not (.t 72), some (69, true)⟩,
 ⟨some 74, .pick (.t 69) (.t 73) (.c (.bool false)), none⟩,
 ⟨some 75, .mov (.t 74), none⟩,
 ⟨some 76, .faddr 3 (.t 3), some (75, true)⟩,
 ⟨some 77, .load1 (.t 76), some (75, true)⟩,
 ⟨some 78, .call 80 [(.t 77), (.c (.fn (.func 142) [] []))], some (75, true)⟩,
 ⟨some 79, .un .not (.t 78), some (75, true)⟩,
 ⟨some 80, .pick (.t 75) (.t 79) (.c (.bool false)), none⟩,
 ⟨some 4, .mov (.t 80), none⟩]
def F97 : AFunc := ⟨2, List.replicate 79 und, [.tmp 4],
 (.seq
 (.reg F97u0)
 (.seq
 (.reg F97u1)
 .ret))⟩
/-! univocal/vm.begin -/
def F98u0 : List AIns := [⟨some 2, .box (.t 0), none⟩,
 ⟨some 3, .box (.t 1), none⟩,
 ⟨some 4, .mov (.c .nilp), none⟩]
def F98u1 : List AIns := [⟨some 10, .loadN 5 (.t 2), none⟩,
 ⟨some 11, .loadN 8 (.t 3), none⟩,
 ⟨some 12, .build [.nils, .nils, (.int .i64 (0 : Nat)), (.int .i64 (0 : Nat)), (.int .i64 (0 : Nat)), (.int .i64 (0 : Nat)), .nils, .nils, .nils, (.bool false), (.int .i64 (0 : Nat)), .nils, (.bool false)] [(0, 5, (.t 10)), (5, 8, (.t 11))], none⟩,
 ⟨some 13, .box (.t 12), none⟩,
 ⟨some 5, .mov (.t 13), none⟩]
def F98u2 : List AIns := [⟨some 14, .mov (.t 5), none⟩,
 ⟨some 15, .faddr 1 (.t 3), none⟩,
 ⟨some 16, .load1 (.t 15), none⟩,
 ⟨some 17, .len .sl (.t 16), none⟩,
 ⟨some 18, .mksl [.nils] 24 (.t 17) (.t 17), none⟩,
 ⟨some 19, .nilchk (.t 14), none⟩,
 ⟨some 20, .faddr 5 (.t 19), none⟩,
 ⟨some 21, .faddr 1 (.t 20), none⟩,
 ⟨none, .store 1 (.t 21) (.t 18), none⟩]
def F98u3 : List AIns := [⟨some 22, .faddr 1 (.t 3), none⟩,
 ⟨some 23, .load1 (.t 22), none⟩,
 ⟨some 24, .len .sl (.t 23), none⟩,
 ⟨some 25, .mov (.c (.int .i64 (0 : Nat))), none⟩]
def F98u4 : List AIns := [⟨some 26, .bin .lss (.t 25) (.t 24), none⟩]
def F98u5 : List AIns := [⟨some 27, .mov (.t 25), none⟩,
 ⟨some 28, .iaddrS 1 (.t 23) (.t 25), none⟩,
 ⟨some 29, .load1 (.t 28), none⟩,
 ⟨some 6, .mov (.t 27), none⟩,
 ⟨some 7, .mov (.t 29), none⟩]
def F98u6 : List AIns := [⟨some 39, .bin .add (.t 25) (.c (.int .i64 (1 : Nat))), none⟩,
 ⟨some 25, .mov (.t 39), none⟩]
def F98u7 : List AIns := [⟨some 40, .mov (.t 5), none⟩,
 ⟨some 41, .faddr 2 (.t 3), none⟩,
 ⟨some 42, .load1 (.t 41), none⟩,
 ⟨some 43, .len .sl (.t 42), none⟩,
 ⟨some 44, .mksl [(.int .i64 (0 : Nat))] 8 (.t 43) (.t 43), none⟩,
 ⟨some 45, .nilchk (.t 40), none⟩,
 ⟨some 46, .faddr 5 (.t 45), none⟩,
 ⟨some 47, .faddr 2 (.t 46), none⟩,
 ⟨none, .store 1 (.t 47) (.t 44), none⟩]
def F98u8 : List AIns := [⟨some 56, .mov (.t 5), none⟩,
 ⟨some 57, .faddr 3 (.t 3), none⟩,
 ⟨some 58, .load1 (.t 57), none⟩,
 ⟨some 59, .len .sl (.t 58), none⟩,
 ⟨some 60, .mksl [(.int .i64 (0 : Nat))] 8 (.t 59) (.t 59), none⟩,
 ⟨some 61, .nilchk (.t 56), none⟩,
 ⟨some 62, .faddr 5 (.t 61), none⟩,
 ⟨some 63, .faddr 3 (.t 62), none⟩,
 ⟨none, .store 1 (.t 63) (.t 60), none⟩]
def F98u9 : List AIns := [⟨some 72, .mov (.t 5), none⟩,
 ⟨some 73, .faddr 4 (.t 3), none⟩,
 ⟨some 74, .faddr 2 (.t 73), none⟩,
 ⟨some 75, .load1 (.t 74), none⟩,
 ⟨some 76, .len .sl (.t 75), none⟩,
 ⟨some 77, .mksl [(.str []), .nils] 40 (.t 76) (.t 76), none⟩,
 ⟨some 78, .nilchk (.t 72), none⟩,
 ⟨some 79, .faddr 5 (.t 78), none⟩,
 ⟨some 80, .faddr 4 (.t 79), none⟩,
 ⟨some 81, .faddr 2 (.t 80), none⟩,
 ⟨none, .store 1 (.t 81) (.t 77), none⟩]
def F98u10 : List AIns := [⟨some 82, .faddr 4 (.t 3), none⟩,
 ⟨some 83, .faddr 2 (.t 82), none⟩,
 ⟨some 84, .load1 (.t 83), none⟩,
 ⟨some 85, .len .sl (.t 84), none⟩,
 ⟨some 86, .mov (.c (.int .i64 (0 : Nat))), none⟩]
def F98u11 : List AIns := [⟨some 87, .bin .lss (.t 86) (.t 85), none⟩]
def F98u12 : List AIns := [⟨some 88, .mov (.t 86), none⟩,
 ⟨some 89, .iaddrS 2 (.t 84) (.t 86), none⟩,
 ⟨some 90, .loadN 2 (.t 89), none⟩,
 ⟨some 9, .alloc [(.str []), .nils], none⟩,
 ⟨some 8, .mov (.t 88), none⟩,
 ⟨none, .store 2 (.t 9) (.t 90), none⟩]
def F98u13 : List AIns := [⟨some 105, .bin .add (.t 86) (.c (.int .i64 (1 : Nat))), none⟩,
 ⟨some 86, .mov (.t 105), none⟩]
def F98u14 : List AIns := [⟨some 106, .mov (.t 5), none⟩,
 ⟨some 4, .mov (.t 106), none⟩]
def F98u15 : List AIns := [⟨some 30, .mov (.t 5), none⟩,
 ⟨some 31, .nilchk (.t 30), none⟩,
 ⟨some 32, .faddr 5 (.t 31), none⟩,
 ⟨some 33, .faddr 1 (.t 32), none⟩,
 ⟨some 34, .load1 (.t 33), none⟩,
 ⟨some 35, .mov (.t 6), none⟩,
 ⟨some 36, .mov (.t 7), none⟩,
 ⟨some 37, .call 60 [(.t 36)], none⟩,
 ⟨some 38, .iaddrS 1 (.t 34) (.t 35), none⟩,
 ⟨none, .store 1 (.t 38) (.t 37), none⟩]
def F98u15p : List IPh := [⟨[.one 0, .one 1, .one 2, .one 3, .one 4, .one 5, .one 6], [], some 7⟩,
 ⟨[.again 0, .again 1, .again 2, .again 3, .again 4, .again 5, .one 8], [], some 9⟩,
 ⟨[], [], none⟩]
def F98u16 : List AIns := [⟨some 48, .mov (.t 5), none⟩,
 ⟨some 49, .nilchk (.t 48), none⟩,
 ⟨some 50, .faddr 5 (.t 49), none⟩,
 ⟨some 51, .faddr 2 (.t 50), none⟩,
 ⟨some 52, .load1 (.t 51), none⟩,
 ⟨some 53, .faddr 2 (.t 3), none⟩,
 ⟨some 54, .load1 (.t 53), none⟩,
 ⟨some 55, .cpy 1 (.t 52) (.t 54), none⟩]
def F98u16p : List IPh := [⟨[.one 0, .one 1, .one 2, .one 3, .one 4, .one 5, .one 6], [], some 7⟩,
 ⟨[], [], none⟩]
def F98u17 : List AIns := [⟨some 64, .mov (.t 5), none⟩,
 ⟨some 65, .nilchk (.t 64), none⟩,
 ⟨some 66, .faddr 5 (.t 65), none⟩,
 ⟨some 67, .faddr 3 (.t 66), none⟩,
 ⟨some 68, .load1 (.t 67), none⟩,
 ⟨some 69, .faddr 3 (.t 3), none⟩,
 ⟨some 70, .load1 (.t 69), none⟩,
 ⟨some 71, .cpy 1 (.t 68) (.t 70), none⟩]
def F98u17p : List IPh := [⟨[.one 0, .one 1, .one 2, .one 3, .one 4, .one 5, .one 6], [], some 7⟩,
 ⟨[], [], none⟩]
def F98u18 : List AIns := [⟨some 91, .mov (.t 5), none⟩,
 ⟨some 92, .nilchk (.t 91), none⟩,
 ⟨some 93, .faddr 5 (.t 92), none⟩,
 ⟨some 94, .faddr 4 (.t 93), none⟩,
 ⟨some 95, .faddr 2 (.t 94), none⟩,
 ⟨some 96, .load1 (.t 95), none⟩,
 ⟨some 97, .mov (.t 8), none⟩,
 ⟨some 98, .faddr 0 (.t 9), none⟩,
 ⟨some 99, .load1 (.t 98), none⟩,
 ⟨some 100, .faddr 1 (.t 9), none⟩,
 ⟨some 101, .load1 (.t 100), none⟩,
 ⟨some 102, .call 60 [(.t 101)], none⟩,
 ⟨some 103, .build [(.str []), .nils] [(0, 1, (.t 99)), (1, 1, (.t 102))], none⟩,
 ⟨some 104, .iaddrS 2 (.t 96) (.t 97), none⟩,
 ⟨none, .store 2 (.t 104) (.t 103), none⟩]
def F98u18p : List IPh := [⟨[.one 0, .one 1, .one 2, .one 3, .one 4, .one 5, .one 6, .one 7, .one 8, .one 9, .one 10], [], some 11⟩,
 ⟨[.again 0, .again 1, .again 2, .again 3, .again 4, .again 5, .again 6, .again 7, .again 8, .one 12, .one 13], [], some 14⟩,
 ⟨[], [], none⟩]
def F98 : AFunc := ⟨2, List.replicate 105 und, [.tmp 4],
 (.seq
 (.reg F98u0)
 (.seq
 (.reg F98u1)
 (.seq
 (.reg F98u2)
 (.seq
 (.seq
 (.reg F98u3)
 (.block 0
 (.loop
 (.seq
 (.reg F98u4)
 (.seq
 (.cond (.t 26)
 .skip
 (.exit 0))
 (.seq
 (.block 1
 (.seq
 (.reg F98u5)
 (.dreg 0 F98u15 F98u15p)))
 (.reg F98u6)))))))
 (.seq
 (.reg F98u7)
 (.seq
 (.dreg 0 F98u16 F98u16p)
 (.seq
 (.reg F98u8)
 (.seq
 (.dreg 0 F98u17 F98u17p)
 (.seq
 (.reg F98u9)
 (.seq
 (.seq
 (.reg F98u10)
 (.block 2
 (.loop
 (.seq
 (.reg F98u11)
 (.seq
 (.cond (.t 87)
 .skip
 (.exit 2))
 (.seq
 (.block 3
 (.seq
 (.reg F98u12)
 (.dreg 0 F98u18 F98u18p)))
 (.reg F98u13)))))))
 (.seq
 (.reg F98u14)
 .ret)))))))))))⟩
/-! (*univocal/vm.run).operations -/
def F99u0 : List AIns := [⟨some 2, .alloc [.nilf, .nilf, .nilf, .nilf, .nilf, .nilf, .nilf, .nilf, .nilf], none⟩]
def F99u1 : List AIns := [⟨some 3, .mov (.t 0), none⟩,
 ⟨some 4, .mkf (.func 143) [(.t 3)] [], none⟩,
 ⟨some 5, .mov (.t 0), none⟩,
 ⟨some 6, .mkf (.func 144) [(.t 5)] [], none⟩,
 ⟨some 7, .mov (.t 0), none⟩,
 ⟨some 8, .mkf (.func 145) [(.t 7)] [], none⟩,
 ⟨some 9, .mov (.t 0), none⟩,
 ⟨some 10, .mkf (.func 146) [(.t 9)] [], none⟩,
 ⟨some 11, .mov (.t 0), none⟩,
 ⟨some 12, .mkf (.func 147) [(.t 11)] [], none⟩,
 ⟨some 13, .mov (.t 0), none⟩,
 ⟨some 14, .mkf (.func 148) [(.t 13)] [], none⟩,
 ⟨some 15, .mov (.t 0), none⟩,
 ⟨some 16, .mkf (.func 149) [(.t 15)] [], none⟩,
 ⟨some 17, .mov (.t 0), none⟩,
 ⟨some 18, .mkf (.func 150) [(.t 17)] [], none⟩,
 ⟨some 19, .build [.nilf, .nilf, .nilf, .nilf, .nilf, .nilf, .nilf, .nilf, .nilf] [(1, 1, (.t 4)), (2, 1, (.t 6)), (3, 1, (.t 8)), (4, 1, (.t 10)), (5, 1, (.t 12)), (6, 1, (.t 14)), (7, 1, (.t 16)), (8, 1, (.t 18))], none⟩,
 ⟨none, .store 9 (.t 2) (.t 19), none⟩]
def F99 : AFunc := ⟨1, List.replicate 19 und, [.cell 2 (some 9)],
 (.seq
 (.reg F99u0)
 (.seq
 (.reg F99u1)
 .ret))⟩
/-! (*univocal/interp.execution).run$1 -/
def F109u0 : List AIns := [⟨some 4, .recover, none⟩,
 ⟨some 1, .mov (.t 4), none⟩]
def F109u1 : List AIns := [⟨some 5, .mov (.t 1), none⟩,
 ⟨some 6, .eq .iface true (.t 5) (.c .nili), none⟩]
def F109u2 : List AIns := [⟨some 8, .mov (.t 1), none⟩,
 ⟨some 9, .tassert 87 (.agg [(.bool false), (.int .i64 (0 : Nat))]) true (.t 8), none⟩,
 ⟨some 7, .mov (.t 9), none⟩,
 ⟨some 10, .ext 0 (.t 7), none⟩,
 ⟨some 11, .ext 1 (.t 7), none⟩,
 ⟨some 2, .alloc [(.bool false), (.int .i64 (0 : Nat))], none⟩,
 ⟨none, .store 2 (.t 2) (.t 10), none⟩,
 ⟨some 3, .mov (.t 11), none⟩]
def F109u3 : List AIns := [⟨some 12, .mov (.t 3), none⟩,
 ⟨some 13, .un .not (.t 12), none⟩]
def F109u4 : List AIns := [⟨some 14, .mov (.t 1), none⟩,
 ⟨none, .panic (.t 14), none⟩]
def F109u5 : List AIns := [⟨some 15, .loadN 2 (.t 2), none⟩,
 ⟨none, .store 2 (.t 0) (.t 15), none⟩]
def F109 : AFunc := ⟨1, List.replicate 15 und, [],
 (.seq
 (.reg F109u0)
 (.seq
 (.reg F109u1)
 (.cond (.t 6)
 (.seq
 (.reg F109u2)
 (.seq
 (.seq
 (.reg F109u3)
 (.cond (.t 13)
 (.reg F109u4)
 .skip))
 (.reg F109u5)))
 .skip)))⟩
/-! (*univocal/interp.execution).block -/
def F110u0 : List AIns := [⟨some 4, .mov (.c (.bool false)), none⟩]
def F110u1 : List AIns := [⟨some 9, .mov (.t 1), none⟩,
 ⟨some 10, .bin .lss (.t 9) (.c (.int .i64 (0 : Nat))), none⟩]
def F110u2 : List AIns := [⟨some 4, .mov (.c (.bool false)), none⟩]
def F110u3 : List AIns := [⟨some 11, .mov (.t 0), none⟩,
 ⟨some 12, .nilchk (.t 11), none⟩,
 ⟨some 13, .faddr 0 (.t 12), none⟩,
 ⟨some 14, .faddr 1 (.t 13), none⟩,
 ⟨some 15, .load1 (.t 14), none⟩,
 ⟨some 16, .mov (.t 1), none⟩,
 ⟨some 17, .iaddrS 1 (.t 15) (.t 16), none⟩,
 ⟨some 18, .load1 (.t 17), none⟩,
 ⟨some 19, .len .sl (.t 18), none⟩,
 ⟨some 20, .mov (.c (.int .i64 (0 : Nat))), none⟩]
def F110u4 : List AIns := [⟨some 21, .bin .lss (.t 20) (.t 19), none⟩]
def F110u5 : List AIns := [⟨some 22, .iaddrS 1 (.t 18) (.t 20), none⟩,
 ⟨some 23, .load1 (.t 22), none⟩,
 ⟨some 6, .mov (.t 23), none⟩]
def F110u6 : List AIns := [⟨some 24, .mov (.t 0), none⟩,
 ⟨some 25, .nilchk (.t 24), none⟩,
 ⟨some 26, .faddr 0 (.t 25), none⟩,
 ⟨some 27, .faddr 0 (.t 26), none⟩,
 ⟨some 28, .load1 (.t 27), none⟩,
 ⟨some 29, .mov (.t 6), none⟩,
 ⟨some 30, .iaddrS 33 (.t 28) (.t 29), none⟩,
 ⟨some 31, .loadN 33 (.t 30), none⟩,
 ⟨some 7, .alloc [(.int .i64 (0 : Nat)), (.int .i64 (0 : Nat)), (.int .i64 (0 : Nat)), (.int .i64 (0 : Nat)), (.int .i64 (0 : Nat)), (.int .i64 (0 : Nat)), (.int .i64 (0 : Nat)), .nils, (.bool false), (.int .i64 (0 : Nat)), .nils, .nils, (.int .u64 (0 : Nat)), (.int .u64 (0 : Nat)), (.int .u64 (0 : Nat)), (.int .u64 (0 : Nat)), (.int .i64 (0 : Nat)), (.int .i64 (0 : Nat)), (.int .i64 (0 : Nat)), (.int .i64 (0 : Nat)), (.bool false), .nils, .nils, (.int .i64 (0 : Nat)), (.bool false), (.int .i64 (0 : Nat)), (.int .i64 (0 : Nat)), (.int .i64 (0 : Nat)), (.int .i64 (0 : Nat)), .nils, (.str []), (.int .i64 (0 : Nat)), (.int .i64 (0 : Nat))], none⟩,
 ⟨none, .store 33 (.t 7) (.t 31), none⟩]
def F110u7 : List AIns := [⟨some 32, .mov (.t 0), none⟩,
 ⟨some 33, .mov (.t 0), none⟩,
 ⟨some 34, .nilchk (.t 33), none⟩,
 ⟨some 35, .faddr 5 (.t 34), none⟩,
 ⟨some 36, .load1 (.t 35), none⟩,
 ⟨some 37, .mov (.t 6), none⟩,
 ⟨some 38, .bslice [(.int .i64 (0 : Nat))] 1 1 [(0, (.t 37))], none⟩,
 ⟨some 39, .app 1 8 (.t 36) (.t 38), none⟩,
 ⟨some 40, .nilchk (.t 32), none⟩,
 ⟨some 41, .faddr 5 (.t 40), none⟩,
 ⟨none, .store 1 (.t 41) (.t 39), none⟩]
def F110u8 : List AIns := [⟨some 8, .mov (.c (.int .i64 (.negSucc 0))), none⟩]
def F110u9 : List AIns := [⟨some 42, .faddr 0 (.t 7), none⟩,
 ⟨some 43, .load1 (.t 42), none⟩]
def F110u10 : List AIns := [⟨some 57, .bin .eql (.t 43) (.c (.int .i64 (10 : Nat))), none⟩,
 ⟨some 56, .mov (.t 57), none⟩]
def F110u11 : List AIns := [⟨some 58, .faddr 32 (.t 7), none⟩,
 ⟨some 59, .load1 (.t 58), none⟩,
 ⟨some 8, .mov (.t 59), none⟩]
def F110u12 : List AIns := [⟨some 71, .faddr 31 (.t 7), none⟩,
 ⟨some 72, .load1 (.t 71), none⟩,
 ⟨some 8, .mov (.t 72), none⟩]
def F110u13 : List AIns := [⟨some 74, .bin .eql (.t 43) (.c (.int .i64 (11 : Nat))), none⟩,
 ⟨some 73, .mov (.t 74), none⟩]
def F110u14 : List AIns := [⟨some 75, .faddr 5 (.t 7), none⟩,
 ⟨some 76, .load1 (.t 75), none⟩,
 ⟨some 77, .mov (.c (.int .i64 (0 : Nat))), none⟩]
def F110u15 : List AIns := [⟨some 78, .bin .lss (.t 77) (.t 76), none⟩]
def F110u16 : List AIns := [⟨some 79, .mov (.t 0), none⟩,
 ⟨some 80, .faddr 31 (.t 7), none⟩,
 ⟨some 81, .load1 (.t 80), none⟩,
 ⟨some 82, .call 110 [(.t 79), (.t 81)], none⟩]
def F110u17 : List AIns := [⟨some 83, .bin .add (.t 77) (.c (.int .i64 (1 : Nat))), none⟩,
 ⟨some 77, .mov (.t 83), none⟩]
def F110u18 : List AIns := [⟨some 84, .faddr 6 (.t 7), none⟩,
 ⟨some 85, .load1 (.t 84), none⟩,
 ⟨some 86, .build [(.bool false), (.int .i64 (0 : Nat))] [(1, 1, (.t 85))], none⟩,
 ⟨some 87, .mki 87 (.t 86), none⟩,
 ⟨none, .panic (.t 87), none⟩]
def F110u19 : List AIns := [⟨some 89, .bin .eql (.t 43) (.c (.int .i64 (12 : Nat))), none⟩,
 ⟨some 88, .mov (.t 89), none⟩]
def F110u20 : List AIns := [⟨some 4, .mov (.c (.bool true)), none⟩]
def F110u21 : List AIns := [⟨some 91, .bin .eql (.t 43) (.c (.int .i64 (13 : Nat))), none⟩,
 ⟨some 90, .mov (.t 91), none⟩]
def F110u22 : List AIns := [⟨some 92, .mov (.t 0), none⟩,
 ⟨some 93, .nilchk (.t 92), none⟩,
 ⟨some 94, .faddr 4 (.t 93), none⟩,
 ⟨some 95, .load1 (.t 94), none⟩,
 ⟨some 96, .len .sl (.t 95), none⟩,
 ⟨some 97, .bin .eql (.t 96) (.c (.int .i64 (16 : Nat))), none⟩]
def F110u23 : List AIns := [⟨some 98, .build [(.bool false), (.int .i64 (0 : Nat))] [(1, 1, (.c (.int .i64 (.negSucc 0))))], none⟩,
 ⟨some 99, .mki 87 (.t 98), none⟩,
 ⟨none, .panic (.t 99), none⟩]
def F110u24 : List AIns := [⟨some 122, .bin .eql (.t 43) (.c (.int .i64 (14 : Nat))), none⟩,
 ⟨some 121, .mov (.t 122), none⟩]
def F110u25 : List AIns := [⟨some 123, .faddr 5 (.t 7), none⟩,
 ⟨some 124, .load1 (.t 123), none⟩,
 ⟨some 125, .build [(.bool false), (.int .i64 (0 : Nat))] [(1, 1, (.t 124))], none⟩,
 ⟨some 126, .mki 87 (.t 125), none⟩,
 ⟨none, .panic (.t 126), none⟩]
def F110u26 : List AIns := [⟨some 128, .bin .eql (.t 43) (.c (.int .i64 (15 : Nat))), none⟩,
 ⟨some 127, .mov (.t 128), none⟩]
def F110u27 : List AIns := [⟨some 129, .build [(.bool false), (.int .i64 (0 : Nat))] [(0, 1, (.c (.bool true)))], none⟩,
 ⟨some 130, .mki 87 (.t 129), none⟩,
 ⟨none, .panic (.t 130), none⟩]
def F110u28 : List AIns := [⟨some 54, .faddr 32 (.t 7), none⟩,
 ⟨some 55, .load1 (.t 54), none⟩,
 ⟨some 8, .mov (.t 55), none⟩]
def F110u29 : List AIns := [⟨some 131, .mov (.t 0), none⟩,
 ⟨some 132, .mov (.t 8), none⟩,
 ⟨some 133, .call 110 [(.t 131), (.t 132)], none⟩]
def F110u30 : List AIns := [⟨some 4, .mov (.c (.bool true)), none⟩]
def F110u31 : List AIns := [⟨some 134, .bin .add (.t 20) (.c (.int .i64 (1 : Nat))), none⟩,
 ⟨some 20, .mov (.t 134), none⟩]
def F110u32 : List AIns := [⟨some 4, .mov (.c (.bool false)), none⟩]
def F110u33 : List AIns := [⟨some 60, .faddr 23 (.t 7), none⟩,
 ⟨some 61, .loadN 7 (.t 60), none⟩,
 ⟨some 62, .mov (.t 0), none⟩,
 ⟨some 63, .nilchk (.t 62), none⟩,
 ⟨some 64, .faddr 2 (.t 63), none⟩,
 ⟨some 65, .load1 (.t 64), none⟩,
 ⟨some 66, .mov (.t 0), none⟩,
 ⟨some 67, .nilchk (.t 66), none⟩,
 ⟨some 68, .faddr 3 (.t 67), none⟩,
 ⟨some 69, .load1 (.t 68), none⟩,
 ⟨some 70, .call 157 [(.t 61), (.t 65), (.t 69)], none⟩]
def F110u33p : List IPh := [⟨[.one 0, .one 1, .one 2, .one 3, .one 4, .one 5, .one 6, .one 7, .one 8, .one 9], [], some 10⟩,
 ⟨[], [], none⟩]
def F110u34 : List AIns := [⟨some 100, .mov (.t 0), none⟩,
 ⟨some 101, .mov (.t 0), none⟩,
 ⟨some 102, .nilchk (.t 101), none⟩,
 ⟨some 103, .faddr 4 (.t 102), none⟩,
 ⟨some 104, .load1 (.t 103), none⟩,
 ⟨some 105, .faddr 30 (.t 7), none⟩,
 ⟨some 106, .load1 (.t 105), none⟩,
 ⟨some 107, .mov (.t 0), none⟩,
 ⟨some 108, .nilchk (.t 107), none⟩,
 ⟨some 109, .faddr 2 (.t 108), none⟩,
 ⟨some 110, .load1 (.t 109), none⟩,
 ⟨some 111, .faddr 1 (.t 7), none⟩,
 ⟨some 112, .load1 (.t 111), none⟩,
 ⟨some 113, .iaddrS 1 (.t 110) (.t 112), none⟩,
 ⟨some 114, .load1 (.t 113), none⟩,
 ⟨some 115, .call 60 [(.t 114)], none⟩,
 ⟨some 116, .build [(.str []), .nils] [(0, 1, (.t 106)), (1, 1, (.t 115))], none⟩,
 ⟨some 117, .bslice [(.str []), .nils] 2 1 [(0, (.t 116))], none⟩,
 ⟨some 118, .app 2 40 (.t 104) (.t 117), none⟩,
 ⟨some 119, .nilchk (.t 100), none⟩,
 ⟨some 120, .faddr 4 (.t 119), none⟩,
 ⟨none, .store 1 (.t 120) (.t 118), none⟩]
def F110u34p : List IPh := [⟨[.one 0, .one 1, .one 2, .one 3, .one 4, .one 5, .one 6, .one 7, .one 8, .one 9, .one 10, .one 11, .one 12, .one 13, .one 14], [], some 15⟩,
 ⟨[.again 0, .again 1, .again 2, .again 3, .again 4, .again 5, .again 6, .one 16, .res 17 0], [(17, 0)], some 18⟩,
 ⟨[.again 0, .one 19, .one 20], [], some 21⟩,
 ⟨[], [], none⟩]
def F110u35 : List AIns := [⟨some 44, .mov (.t 0), none⟩,
 ⟨some 45, .nilchk (.t 44), none⟩,
 ⟨some 46, .faddr 6 (.t 45), none⟩,
 ⟨some 47, .load1 (.t 46), none⟩,
 ⟨some 48, .faddr 0 (.t 7), none⟩,
 ⟨some 49, .load1 (.t 48), none⟩,
 ⟨some 50, .lookup .int .nilf false (.t 47) (.t 49), none⟩,
 ⟨some 51, .loadN 33 (.t 7), none⟩,
 ⟨some 52, .dyn (.t 50) [(.t 51)], none⟩,
 ⟨some 53, .un .not (.t 52), none⟩]
def F110u35p : List IPh := [⟨[.one 0, .one 1, .one 2, .one 3, .one 4, .one 5, .one 6, .one 7], [], some 8⟩,
 ⟨[.one 9], [], none⟩]
def F110 : AFunc := ⟨2, List.replicate 133 und, [.tmp 4],
 (.seq
 (.reg F110u0)
 (.scope
 (.seq
 (.seq
 (.reg F110u1)
 (.cond (.t 10)
 (.seq
 (.reg F110u2)
 .ret)
 .skip))
 (.seq
 .skip
 (.seq
 (.seq
 (.reg F110u3)
 (.block 0
 (.loop
 (.seq
 (.reg F110u4)
 (.seq
 (.cond (.t 21)
 .skip
 (.exit 0))
 (.seq
 (.block 1
 (.seq
 (.reg F110u5)
 (.seq
 (.reg F110u6)
 (.seq
 (.reg F110u7)
 (.seq
 (.reg F110u8)
 (.seq
 (.seq
 (.reg F110u9)
 (.block 2
 (.seq
 (.reg F110u10)
 (.cond (.t 56)
 (.seq
 (.reg F110u11)
 (.seq
 (.dreg 0 F110u33 F110u33p)
 (.cond (.t 70)
 (.reg F110u12)
 .skip)))
 (.seq
 (.reg F110u13)
 (.cond (.t 73)
 (.seq
 (.seq
 (.reg F110u14)
 (.block 3
 (.loop
 (.seq
 (.reg F110u15)
 (.seq
 (.cond (.t 78)
 .skip
 (.exit 3))
 (.seq
 (.block 4
 (.seq
 (.reg F110u16)
 (.cond (.t 82)
 (.exit 1)
 .skip)))
 (.reg F110u17)))))))
 (.reg F110u18))
 (.seq
 (.reg F110u19)
 (.cond (.t 88)
 (.seq
 (.reg F110u20)
 .ret)
 (.seq
 (.reg F110u21)
 (.cond (.t 90)
 (.seq
 (.seq
 (.reg F110u22)
 (.cond (.t 97)
 (.reg F110u23)
 .skip))
 (.dreg 1 F110u34 F110u34p))
 (.seq
 (.reg F110u24)
 (.cond (.t 121)
 (.reg F110u25)
 (.seq
 (.reg F110u26)
 (.cond (.t 127)
 (.reg F110u27)
 (.seq
 (.dreg 0 F110u35 F110u35p)
 (.cond (.t 53)
 (.reg F110u28)
 .skip))))))))))))))))
 (.seq
 (.reg F110u29)
 (.cond (.t 133)
 (.seq
 (.reg F110u30)
 .ret)
 .skip))))))))
 (.reg F110u31)))))))
 (.seq
 (.reg F110u32)
 .ret))))))⟩
/-! slices.IndexFunc[[]int,int] -/
def F117u0 : List AIns := [⟨some 4, .mov (.c (.int .i64 (0 : Nat))), none⟩]
def F117u1 : List AIns := [⟨some 6, .mov (.t 0), none⟩,
 ⟨some 7, .len .sl (.t 6), none⟩,
 ⟨some 8, .mov (.c (.int .i64 (0 : Nat))), none⟩]
def F117u2 : List AIns := [⟨some 9, .bin .lss (.t 8) (.t 7), none⟩]
def F117u3 : List AIns := [⟨some 10, .mov (.t 8), none⟩,
 ⟨some 5, .mov (.t 10), none⟩]
def F117u4 : List AIns := [⟨some 11, .mov (.t 1), none⟩,
 ⟨some 12, .mov (.t 0), none⟩,
 ⟨some 13, .mov (.t 5), none⟩,
 ⟨some 14, .iaddrS 1 (.t 12) (.t 13), none⟩,
 ⟨some 15, .load1 (.t 14), none⟩,
 ⟨some 16, .dyn (.t 11) [(.t 15)], none⟩]
def F117u5 : List AIns := [⟨some 17, .mov (.t 5), none⟩,
 ⟨some 4, .mov (.t 17), none⟩]
def F117u6 : List AIns := [⟨some 18, .bin .add (.t 8) (.c (.int .i64 (1 : Nat))), none⟩,
 ⟨some 8, .mov (.t 18), none⟩]
def F117u7 : List AIns := [⟨some 4, .mov (.c (.int .i64 (.negSucc 0))), none⟩]
def F117 : AFunc := ⟨2, List.replicate 17 und, [.tmp 4],
 (.seq
 (.reg F117u0)
 (.seq
 (.seq
 (.reg F117u1)
 (.block 0
 (.loop
 (.seq
 (.reg F117u2)
 (.seq
 (.cond (.t 9)
 .skip
 (.exit 0))
 (.seq
 (.block 1
 (.seq
 (.reg F117u3)
 (.seq
 (.reg F117u4)
 (.cond (.t 16)
 (.seq
 (.reg F117u5)
 .ret)
 .skip))))
 (.reg F117u6)))))))
 (.seq
 (.reg F117u7)
 .ret)))⟩
/-! univocal/resolve.walk$2 -/
def F122u0 : List AIns := [⟨some 8, .box (.t 1), none⟩,
 ⟨some 10, .alloc [(.bool false), (.bool false), (.bool false), (.bool false), (.bool false), (.bool false), (.bool false), (.bool false), (.bool false), (.bool false), (.bool false), (.bool false), (.bool false), (.bool false), (.bool false), (.bool false), (.bool false)], none⟩]
def F122u1 : List AIns := [⟨some 17, .faddr 0 (.t 3), none⟩,
 ⟨some 18, .load1 (.t 17), none⟩,
 ⟨some 19, .mov (.t 0), none⟩,
 ⟨some 20, .iaddrS 33 (.t 18) (.t 19), none⟩,
 ⟨some 21, .loadN 33 (.t 20), none⟩,
 ⟨some 11, .alloc [(.int .i64 (0 : Nat)), (.int .i64 (0 : Nat)), (.int .i64 (0 : Nat)), (.int .i64 (0 : Nat)), (.int .i64 (0 : Nat)), (.int .i64 (0 : Nat)), (.int .i64 (0 : Nat)), .nils, (.bool false), (.int .i64 (0 : Nat)), .nils, .nils, (.int .u64 (0 : Nat)), (.int .u64 (0 : Nat)), (.int .u64 (0 : Nat)), (.int .u64 (0 : Nat)), (.int .i64 (0 : Nat)), (.int .i64 (0 : Nat)), (.int .i64 (0 : Nat)), (.int .i64 (0 : Nat)), (.bool false), .nils, .nils, (.int .i64 (0 : Nat)), (.bool false), (.int .i64 (0 : Nat)), (.int .i64 (0 : Nat)), (.int .i64 (0 : Nat)), (.int .i64 (0 : Nat)), .nils, (.str []), (.int .i64 (0 : Nat)), (.int .i64 (0 : Nat))], none⟩,
 ⟨none, .store 33 (.t 11) (.t 21), none⟩]
def F122u2 : List AIns := [⟨some 22, .faddr 0 (.t 4), none⟩,
 ⟨some 23, .load1 (.t 22), none⟩,
 ⟨some 24, .mov (.t 0), none⟩,
 ⟨some 25, .faddr 0 (.t 8), none⟩,
 ⟨some 26, .load1 (.t 25), none⟩,
 ⟨some 27, .iaddrS 1 (.t 23) (.t 24), none⟩,
 ⟨none, .store 1 (.t 27) (.t 26), none⟩]
def F122u3 : List AIns := [⟨some 28, .faddr 0 (.t 11), none⟩,
 ⟨some 29, .load1 (.t 28), none⟩,
 ⟨some 30, .bin .eql (.t 29) (.c (.int .i64 (12 : Nat))), none⟩,
 ⟨some 31, .mov (.t 30), none⟩,
 ⟨some 32, .mov (.t 2), some (31, true)⟩,
 ⟨some 33, .eq .ptr false (.t 32) (.c .nilp), some (31, true)⟩,
 ⟨some 34, .pick (.t 31) (.t 33) (.c (.bool false)), none⟩]
def F122u4 : List AIns := [⟨some 35, .load1 (.t 5), none⟩,
 ⟨some 36, .mov (.t 0), none⟩,
 ⟨some 37, .dyn (.t 35) [(.t 36), (.c (.int .i64 (171 : Nat)))], none⟩]
def F122u5 : List AIns := [⟨some 50, .load1 (.t 5), none⟩,
 ⟨some 51, .mov (.t 0), none⟩,
 ⟨some 52, .dyn (.t 50) [(.t 51), (.c (.int .i64 (170 : Nat)))], none⟩]
def F122u6 : List AIns := [⟨some 53, .faddr 0 (.t 11), none⟩,
 ⟨some 54, .load1 (.t 53), none⟩]
def F122u7 : List AIns := [⟨some 56, .bin .eql (.t 54) (.c (.int .i64 (10 : Nat))), none⟩,
 ⟨some 55, .mov (.t 56), none⟩]
def F122u8 : List AIns := [⟨some 57, .load1 (.t 6), none⟩,
 ⟨some 58, .faddr 31 (.t 11), none⟩,
 ⟨some 59, .load1 (.t 58), none⟩,
 ⟨some 60, .loadN 17 (.t 8), none⟩,
 ⟨some 61, .mov (.t 2), none⟩,
 ⟨some 62, .dyn (.t 57) [(.t 59), (.t 60), (.t 61)], none⟩,
 ⟨some 12, .alloc [(.bool false), (.bool false), (.bool false), (.bool false), (.bool false), (.bool false), (.bool false), (.bool false), (.bool false), (.bool false), (.bool false), (.bool false), (.bool false), (.bool false), (.bool false), (.bool false), (.bool false)], none⟩,
 ⟨none, .store 17 (.t 12) (.t 62), none⟩]
def F122u9 : List AIns := [⟨some 72, .bin .eql (.t 54) (.c (.int .i64 (11 : Nat))), none⟩,
 ⟨some 71, .mov (.t 72), none⟩]
def F122u10 : List AIns := [⟨some 13, .alloc [(.bool false)], none⟩,
 ⟨none, .store 1 (.t 13) (.c (.bool false)), none⟩]
def F122u11 : List AIns := [⟨some 73, .load1 (.t 6), none⟩,
 ⟨some 74, .faddr 31 (.t 11), none⟩,
 ⟨some 75, .load1 (.t 74), none⟩,
 ⟨some 76, .loadN 17 (.t 8), none⟩,
 ⟨some 77, .dyn (.t 73) [(.t 75), (.t 76), (.t 13)], none⟩]
def F122u12 : List AIns := [⟨some 78, .load1 (.t 13), none⟩,
 ⟨some 79, .faddr 1 (.t 8), none⟩,
 ⟨some 80, .loadN 16 (.t 79), none⟩,
 ⟨some 81, .build [(.bool false), (.bool false), (.bool false), (.bool false), (.bool false), (.bool false), (.bool false), (.bool false), (.bool false), (.bool false), (.bool false), (.bool false), (.bool false), (.bool false), (.bool false), (.bool false), (.bool false)] [(0, 1, (.t 78)), (1, 16, (.t 80))], none⟩,
 ⟨none, .store 17 (.t 10) (.t 81), none⟩]
def F122u13 : List AIns := [⟨some 83, .bin .eql (.t 54) (.c (.int .i64 (12 : Nat))), none⟩,
 ⟨some 82, .mov (.t 83), none⟩]
def F122u14 : List AIns := [⟨some 84, .mov (.t 2), none⟩,
 ⟨some 85, .eq .ptr true (.t 84) (.c .nilp), none⟩,
 ⟨some 86, .mov (.t 85), none⟩,
 ⟨some 87, .faddr 0 (.t 8), some (86, true)⟩,
 ⟨some 88, .load1 (.t 87), some (86, true)⟩,
 ⟨some 89, .pick (.t 86) (.t 88) (.c (.bool false)), none⟩]
def F122u15 : List AIns := [⟨some 90, .mov (.t 2), none⟩,
 ⟨some 91, .nilchk (.t 90), none⟩,
 ⟨none, .store 1 (.t 91) (.c (.bool true)), none⟩]
def F122u16 : List AIns := [⟨some 92, .build [(.bool false), (.bool false), (.bool false), (.bool false), (.bool false), (.bool false), (.bool false), (.bool false), (.bool false), (.bool false), (.bool false), (.bool false), (.bool false), (.bool false), (.bool false), (.bool false), (.bool false)] [], none⟩,
 ⟨none, .store 17 (.t 10) (.t 92), none⟩]
def F122u17 : List AIns := [⟨some 94, .bin .eql (.t 54) (.c (.int .i64 (14 : Nat))), none⟩,
 ⟨some 93, .mov (.t 94), none⟩]
def F122u18 : List AIns := [⟨some 95, .bin .eql (.t 54) (.c (.int .i64 (15 : Nat))), none⟩,
 ⟨some 93, .mov (.t 95), none⟩]
def F122u19 : List AIns := [⟨some 96, .build [(.bool false), (.bool false), (.bool false), (.bool false), (.bool false), (.bool false), (.bool false), (.bool false), (.bool false), (.bool false), (.bool false), (.bool false), (.bool false), (.bool false), (.bool false), (.bool false), (.bool false)] [], none⟩,
 ⟨none, .store 17 (.t 10) (.t 96), none⟩]
def F122u20 : List AIns := [⟨some 98, .loadN 33 (.t 11), none⟩,
 ⟨some 99, .call 89 [(.t 98)], none⟩,
 ⟨some 97, .mov (.t 99), none⟩,
 ⟨some 100, .ext 0 (.t 97), none⟩,
 ⟨some 101, .ext 1 (.t 97), none⟩,
 ⟨some 14, .alloc [(.bool false), (.bool false), (.bool false), (.bool false), (.bool false), (.bool false), (.bool false), (.bool false), (.bool false), (.bool false), (.bool false), (.bool false), (.bool false), (.bool false), (.bool false), (.bool false)], none⟩,
 ⟨none, .store 16 (.t 14) (.t 100), none⟩,
 ⟨some 15, .mov (.t 101), none⟩]
def F122u21 : List AIns := [⟨some 109, .mov (.t 15), none⟩]
def F122u22 : List AIns := [⟨some 118, .load1 (.t 6), none⟩,
 ⟨some 119, .faddr 32 (.t 11), none⟩,
 ⟨some 120, .load1 (.t 119), none⟩,
 ⟨some 121, .faddr 1 (.t 8), none⟩,
 ⟨some 122, .loadN 16 (.t 121), none⟩,
 ⟨some 123, .build [(.bool false), (.bool false), (.bool false), (.bool false), (.bool false), (.bool false), (.bool false), (.bool false), (.bool false), (.bool false), (.bool false), (.bool false), (.bool false), (.bool false), (.bool false), (.bool false), (.bool false)] [(0, 1, (.c (.bool false))), (1, 16, (.t 122))], none⟩,
 ⟨some 124, .mov (.t 2), none⟩,
 ⟨some 125, .dyn (.t 118) [(.t 120), (.t 123), (.t 124)], none⟩]
def F122u23 : List AIns := [⟨some 126, .loadN 17 (.t 16), none⟩,
 ⟨none, .store 17 (.t 10) (.t 126), none⟩]
def F122u24 : List AIns := [⟨some 38, .faddr 0 (.t 8), none⟩,
 ⟨some 39, .load1 (.t 38), none⟩,
 ⟨some 40, .mov (.t 39), none⟩,
 ⟨some 41, .faddr 1 (.t 8), some (40, true)⟩,
 ⟨some 42, .loadN 16 (.t 41), some (40, true)⟩,
 ⟨some 43, .loadN 33 (.t 11), some (40, true)⟩,
 ⟨some 44, .call 91 [(.t 43)], some (40, true)⟩,
 ⟨some 45, .call 90 [(.t 42), (.t 44)], some (40, true)⟩,
 ⟨some 46, .faddr 1 (.t 8), some (40, true)⟩,
 ⟨some 47, .loadN 16 (.t 46), some (40, true)⟩,
 ⟨some 48, .eq (.agg [.bool, .bool, .bool, .bool, .bool, .bool, .bool, .bool, .bool, .bool, .bool, .bool, .bool, .bool, .bool, .bool]) true (.t 45) (.t 47), some (40, true)⟩,
 ⟨some 49, .pick (.t 40) (.t 48) (.c (.bool false)), none⟩]
def F122u24p : List IPh := [⟨[.one 0, .one 1, .one 2, .one 3, .one 4, .one 5, .one 8, .one 9], [], some 6⟩,
 ⟨[.again 3, .again 4, .again 8, .again 9], [], some 7⟩,
 ⟨[.again 8, .again 9, .one 10, .one 11], [], none⟩]
def F122u25 : List AIns := [⟨some 63, .loadN 17 (.t 12), none⟩,
 ⟨some 64, .load1 (.t 6), none⟩,
 ⟨some 65, .faddr 32 (.t 11), none⟩,
 ⟨some 66, .load1 (.t 65), none⟩,
 ⟨some 67, .loadN 17 (.t 8), none⟩,
 ⟨some 68, .mov (.t 2), none⟩,
 ⟨some 69, .dyn (.t 64) [(.t 66), (.t 67), (.t 68)], none⟩,
 ⟨some 70, .call 123 [(.t 63), (.t 69)], none⟩,
 ⟨none, .store 17 (.t 10) (.t 70), none⟩]
def F122u25p : List IPh := [⟨[.one 0, .one 1, .one 2, .one 3, .one 4, .one 5], [], some 6⟩,
 ⟨[.again 0], [], some 7⟩,
 ⟨[], [], some 8⟩,
 ⟨[], [], none⟩]
def F122u26 : List AIns := [⟨some 102, .faddr 0 (.t 8), none⟩,
 ⟨some 103, .load1 (.t 102), none⟩,
 ⟨some 104, .faddr 1 (.t 8), none⟩,
 ⟨some 105, .loadN 16 (.t 104), none⟩,
 ⟨some 106, .loadN 16 (.t 14), none⟩,
 ⟨some 107, .call 90 [(.t 105), (.t 106)], none⟩,
 ⟨some 108, .build [(.bool false), (.bool false), (.bool false), (.bool false), (.bool false), (.bool false), (.bool false), (.bool false), (.bool false), (.bool false), (.bool false), (.bool false), (.bool false), (.bool false), (.bool false), (.bool false), (.bool false)] [(0, 1, (.t 103)), (1, 16, (.t 107))], none⟩,
 ⟨some 16, .alloc [(.bool false), (.bool false), (.bool false), (.bool false), (.bool false), (.bool false), (.bool false), (.bool false), (.bool false), (.bool false), (.bool false), (.bool false), (.bool false), (.bool false), (.bool false), (.bool false), (.bool false)], none⟩,
 ⟨none, .store 17 (.t 16) (.t 108), none⟩]
def F122u26p : List IPh := [⟨[.one 0, .one 1, .one 2, .one 3, .one 4, .res 7 0], [], some 5⟩,
 ⟨[.again 0, .again 1, .one 6], [(7, 0)], some 8⟩,
 ⟨[], [], none⟩]
def F122u27 : List AIns := [⟨some 110, .loadN 17 (.t 16), none⟩,
 ⟨some 111, .load1 (.t 6), none⟩,
 ⟨some 112, .faddr 32 (.t 11), none⟩,
 ⟨some 113, .load1 (.t 112), none⟩,
 ⟨some 114, .loadN 17 (.t 8), none⟩,
 ⟨some 115, .mov (.t 2), none⟩,
 ⟨some 116, .dyn (.t 111) [(.t 113), (.t 114), (.t 115)], none⟩,
 ⟨some 117, .call 123 [(.t 110), (.t 116)], none⟩,
 ⟨none, .store 17 (.t 10) (.t 117), none⟩]
def F122u27p : List IPh := [⟨[.one 0, .one 1, .one 2, .one 3, .one 4, .one 5], [], some 6⟩,
 ⟨[.again 0], [], some 7⟩,
 ⟨[], [], some 8⟩,
 ⟨[], [], none⟩]
def F122 : AFunc := ⟨7, List.replicate 120 und, [.cell 10 (some 17)],
 (.seq
 (.reg F122u0)
 (.seq
 (.reg F122u1)
 (.seq
 (.reg F122u2)
 (.seq
 (.seq
 (.reg F122u3)
 (.cond (.t 34)
 (.reg F122u4)
 (.seq
 (.dreg 0 F122u24 F122u24p)
 (.cond (.t 49)
 (.reg F122u5)
 .skip))))
 (.seq
 (.seq
 (.reg F122u6)
 (.block 0
 (.seq
 (.reg F122u7)
 (.cond (.t 55)
 (.seq
 (.reg F122u8)
 (.seq
 (.dreg 0 F122u25 F122u25p)
 .ret))
 (.seq
 (.reg F122u9)
 (.cond (.t 71)
 (.seq
 (.reg F122u10)
 (.seq
 (.reg F122u11)
 (.seq
 (.reg F122u12)
 .ret)))
 (.seq
 (.reg F122u13)
 (.cond (.t 82)
 (.seq
 (.seq
 (.reg F122u14)
 (.cond (.t 89)
 (.reg F122u15)
 .skip))
 (.seq
 (.reg F122u16)
 .ret))
 (.seq
 (.seq
 (.reg F122u17)
 (.cond (.t 93)
 .skip
 (.reg F122u18)))
 (.cond (.t 93)
 (.seq
 (.reg F122u19)
 .ret)
 .skip))))))))))
 (.seq
 (.reg F122u20)
 (.seq
 (.dreg 1 F122u26 F122u26p)
 (.seq
 (.seq
 (.reg F122u21)
 (.cond (.t 109)
 (.seq
 (.dreg 0 F122u27 F122u27p)
 .ret)
 .skip))
 (.seq
 (.reg F122u22)
 (.seq
 (.reg F122u23)
 .ret))))))))))⟩
/-! univocal/resolve.walk$3 -/
def F124u0 : List AIns := [⟨some 6, .box (.t 1), none⟩,
 ⟨some 8, .alloc [(.bool false), (.bool false), (.bool false), (.bool false), (.bool false), (.bool false), (.bool false), (.bool false), (.bool false), (.bool false), (.bool false), (.bool false), (.bool false), (.bool false), (.bool false), (.bool false), (.bool false)], none⟩]
def F124u1 : List AIns := [⟨some 11, .mov (.t 0), none⟩,
 ⟨some 12, .bin .lss (.t 11) (.c (.int .i64 (0 : Nat))), none⟩]
def F124u2 : List AIns := [⟨some 13, .loadN 17 (.t 6), none⟩,
 ⟨none, .store 17 (.t 8) (.t 13), none⟩]
def F124u3 : List AIns := [⟨some 14, .faddr 1 (.t 3), none⟩,
 ⟨some 15, .load1 (.t 14), none⟩,
 ⟨some 16, .mov (.t 0), none⟩,
 ⟨some 17, .iaddrS 1 (.t 15) (.t 16), none⟩,
 ⟨some 18, .load1 (.t 17), none⟩,
 ⟨some 19, .len .sl (.t 18), none⟩,
 ⟨some 20, .mov (.c (.int .i64 (0 : Nat))), none⟩]
def F124u4 : List AIns := [⟨some 21, .bin .lss (.t 20) (.t 19), none⟩]
def F124u5 : List AIns := [⟨some 22, .iaddrS 1 (.t 18) (.t 20), none⟩,
 ⟨some 23, .load1 (.t 22), none⟩,
 ⟨some 10, .mov (.t 23), none⟩]
def F124u6 : List AIns := [⟨some 24, .load1 (.t 4), none⟩,
 ⟨some 25, .mov (.t 10), none⟩,
 ⟨some 26, .loadN 17 (.t 6), none⟩,
 ⟨some 27, .mov (.t 2), none⟩,
 ⟨some 28, .dyn (.t 24) [(.t 25), (.t 26), (.t 27)], none⟩,
 ⟨none, .store 17 (.t 6) (.t 28), none⟩]
def F124u7 : List AIns := [⟨some 29, .bin .add (.t 20) (.c (.int .i64 (1 : Nat))), none⟩,
 ⟨some 20, .mov (.t 29), none⟩]
def F124u8 : List AIns := [⟨some 30, .loadN 17 (.t 6), none⟩,
 ⟨none, .store 17 (.t 8) (.t 30), none⟩]
def F124 : AFunc := ⟨5, List.replicate 26 und, [.cell 8 (some 17)],
 (.seq
 (.reg F124u0)
 (.seq
 (.seq
 (.reg F124u1)
 (.cond (.t 12)
 (.seq
 (.reg F124u2)
 .ret)
 .skip))
 (.seq
 (.seq
 (.reg F124u3)
 (.block 0
 (.loop
 (.seq
 (.reg F124u4)
 (.seq
 (.cond (.t 21)
 .skip
 (.exit 0))
 (.seq
 (.block 1
 (.seq
 (.reg F124u5)
 (.reg F124u6)))
 (.reg F124u7)))))))
 (.seq
 (.reg F124u8)
 .ret))))⟩
/-! slices.pdqsortOrdered[string] -/
def F125u0 : List AIns := [⟨some 8, .mov (.c (.bool true)), none⟩]
def F125u1 : List AIns := [⟨some 9, .mov (.c (.bool true)), none⟩]
def F125u2 : List AIns := [⟨some 19, .mov (.t 2), none⟩,
 ⟨some 20, .mov (.t 1), none⟩,
 ⟨some 21, .bin .sub (.t 19) (.t 20), none⟩,
 ⟨some 10, .mov (.t 21), none⟩]
def F125u3 : List AIns := [⟨some 22, .mov (.t 10), none⟩,
 ⟨some 23, .bin .leq (.t 22) (.c (.int .i64 (12 : Nat))), none⟩]
def F125u4 : List AIns := [⟨some 24, .mov (.t 0), none⟩,
 ⟨some 25, .mov (.t 1), none⟩,
 ⟨some 26, .mov (.t 2), none⟩,
 ⟨some 27, .call 170 [(.t 24), (.t 25), (.t 26)], none⟩]
def F125u5 : List AIns := [⟨some 28, .mov (.t 3), none⟩,
 ⟨some 29, .bin .eql (.t 28) (.c (.int .i64 (0 : Nat))), none⟩]
def F125u6 : List AIns := [⟨some 30, .mov (.t 0), none⟩,
 ⟨some 31, .mov (.t 1), none⟩,
 ⟨some 32, .mov (.t 2), none⟩,
 ⟨some 33, .call 171 [(.t 30), (.t 31), (.t 32)], none⟩]
def F125u7 : List AIns := [⟨some 34, .mov (.t 8), none⟩,
 ⟨some 35, .un .not (.t 34), none⟩]
def F125u8 : List AIns := [⟨some 36, .mov (.t 0), none⟩,
 ⟨some 37, .mov (.t 1), none⟩,
 ⟨some 38, .mov (.t 2), none⟩,
 ⟨some 39, .call 172 [(.t 36), (.t 37), (.t 38)], none⟩]
def F125u9 : List AIns := [⟨some 40, .mov (.t 3), none⟩,
 ⟨some 41, .bin .sub (.t 40) (.c (.int .i64 (1 : Nat))), none⟩,
 ⟨some 3, .mov (.t 41), none⟩]
def F125u10 : List AIns := [⟨some 43, .mov (.t 0), none⟩,
 ⟨some 44, .mov (.t 1), none⟩,
 ⟨some 45, .mov (.t 2), none⟩,
 ⟨some 46, .call 173 [(.t 43), (.t 44), (.t 45)], none⟩,
 ⟨some 42, .mov (.t 46), none⟩,
 ⟨some 47, .ext 0 (.t 42), none⟩,
 ⟨some 48, .ext 1 (.t 42), none⟩,
 ⟨some 11, .mov (.t 47), none⟩,
 ⟨some 12, .mov (.t 48), none⟩]
def F125u11 : List AIns := [⟨some 49, .mov (.t 12), none⟩,
 ⟨some 50, .bin .eql (.t 49) (.c (.int .i64 (2 : Nat))), none⟩]
def F125u12 : List AIns := [⟨some 51, .mov (.t 0), none⟩,
 ⟨some 52, .mov (.t 1), none⟩,
 ⟨some 53, .mov (.t 2), none⟩,
 ⟨some 54, .call 174 [(.t 51), (.t 52), (.t 53)], none⟩]
def F125u13 : List AIns := [⟨some 55, .mov (.t 2), none⟩,
 ⟨some 56, .bin .sub (.t 55) (.c (.int .i64 (1 : Nat))), none⟩,
 ⟨some 57, .mov (.t 11), none⟩,
 ⟨some 58, .mov (.t 1), none⟩,
 ⟨some 59, .bin .sub (.t 57) (.t 58), none⟩,
 ⟨some 60, .bin .sub (.t 56) (.t 59), none⟩,
 ⟨some 11, .mov (.t 60), none⟩]
def F125u14 : List AIns := [⟨some 12, .mov (.c (.int .i64 (1 : Nat))), none⟩]
def F125u15 : List AIns := [⟨some 61, .mov (.t 8), none⟩,
 ⟨some 62, .mov (.t 61), none⟩,
 ⟨some 63, .mov (.t 9), some (62, true)⟩,
 ⟨some 64, .pick (.t 62) (.t 63) (.c (.bool false)), none⟩,
 ⟨some 65, .mov (.t 64), none⟩,
 ⟨some 66, .mov (.t 12), some (65, true)⟩,
 ⟨some 67, .bin .eql (.t 66) (.c (.int .i64 (1 : Nat))), some (65, true)⟩,
 ⟨some 68, .pick (.t 65) (.t 67) (.c (.bool false)), none⟩]
def F125u16 : List AIns := [⟨some 69, .mov (.t 0), none⟩,
 ⟨some 70, .mov (.t 1), none⟩,
 ⟨some 71, .mov (.t 2), none⟩,
 ⟨some 72, .call 175 [(.t 69), (.t 70), (.t 71)], none⟩]
def F125u17 : List AIns := [⟨some 88, .mov (.t 0), none⟩,
 ⟨some 89, .mov (.t 1), none⟩,
 ⟨some 90, .mov (.t 2), none⟩,
 ⟨some 91, .mov (.t 11), none⟩,
 ⟨some 92, .call 177 [(.t 88), (.t 89), (.t 90), (.t 91)], none⟩,
 ⟨some 13, .mov (.t 92), none⟩]
def F125u18 : List AIns := [⟨some 93, .mov (.t 13), none⟩,
 ⟨some 1, .mov (.t 93), none⟩]
def F125u19 : List AIns := [⟨some 95, .mov (.t 0), none⟩,
 ⟨some 96, .mov (.t 1), none⟩,
 ⟨some 97, .mov (.t 2), none⟩,
 ⟨some 98, .mov (.t 11), none⟩,
 ⟨some 99, .call 178 [(.t 95), (.t 96), (.t 97), (.t 98)], none⟩,
 ⟨some 94, .mov (.t 99), none⟩,
 ⟨some 100, .ext 0 (.t 94), none⟩,
 ⟨some 101, .ext 1 (.t 94), none⟩,
 ⟨some 14, .mov (.t 100), none⟩,
 ⟨some 15, .mov (.t 101), none⟩]
def F125u20 : List AIns := [⟨some 102, .mov (.t 15), none⟩,
 ⟨some 9, .mov (.t 102), none⟩]
def F125u21 : List AIns := [⟨some 103, .mov (.t 14), none⟩,
 ⟨some 104, .mov (.t 1), none⟩,
 ⟨some 105, .bin .sub (.t 103) (.t 104), none⟩,
 ⟨some 106, .mov (.t 2), none⟩,
 ⟨some 107, .mov (.t 14), none⟩,
 ⟨some 108, .bin .sub (.t 106) (.t 107), none⟩,
 ⟨some 16, .mov (.t 105), none⟩,
 ⟨some 17, .mov (.t 108), none⟩]
def F125u22 : List AIns := [⟨some 109, .mov (.t 10), none⟩,
 ⟨some 110, .bin .quo (.t 109) (.c (.int .i64 (8 : Nat))), none⟩,
 ⟨some 18, .mov (.t 110), none⟩]
def F125u23 : List AIns := [⟨some 111, .mov (.t 16), none⟩,
 ⟨some 112, .mov (.t 17), none⟩,
 ⟨some 113, .bin .lss (.t 111) (.t 112), none⟩]
def F125u24 : List AIns := [⟨some 114, .mov (.t 16), none⟩,
 ⟨some 115, .mov (.t 18), none⟩,
 ⟨some 116, .bin .geq (.t 114) (.t 115), none⟩,
 ⟨some 8, .mov (.t 116), none⟩]
def F125u25 : List AIns := [⟨some 117, .mov (.t 0), none⟩,
 ⟨some 118, .mov (.t 1), none⟩,
 ⟨some 119, .mov (.t 14), none⟩,
 ⟨some 120, .mov (.t 3), none⟩,
 ⟨some 121, .call 125 [(.t 117), (.t 118), (.t 119), (.t 120)], none⟩]
def F125u26 : List AIns := [⟨some 122, .mov (.t 14), none⟩,
 ⟨some 123, .bin .add (.t 122) (.c (.int .i64 (1 : Nat))), none⟩,
 ⟨some 1, .mov (.t 123), none⟩]
def F125u27 : List AIns := [⟨some 124, .mov (.t 17), none⟩,
 ⟨some 125, .mov (.t 18), none⟩,
 ⟨some 126, .bin .geq (.t 124) (.t 125), none⟩,
 ⟨some 8, .mov (.t 126), none⟩]
def F125u28 : List AIns := [⟨some 127, .mov (.t 0), none⟩,
 ⟨some 128, .mov (.t 14), none⟩,
 ⟨some 129, .bin .add (.t 128) (.c (.int .i64 (1 : Nat))), none⟩,
 ⟨some 130, .mov (.t 2), none⟩,
 ⟨some 131, .mov (.t 3), none⟩,
 ⟨some 132, .call 125 [(.t 127), (.t 129), (.t 130), (.t 131)], none⟩]
def F125u29 : List AIns := [⟨some 133, .mov (.t 14), none⟩,
 ⟨some 2, .mov (.t 133), none⟩]
def F125u30 : List AIns := [⟨some 73, .mov (.t 1), none⟩,
 ⟨some 74, .bin .gtr (.t 73) (.c (.int .i64 (0 : Nat))), none⟩,
 ⟨some 75, .mov (.t 74), none⟩,
 ⟨some 76, .mov (.t 0), some (75, true)⟩,
 ⟨some 77, .mov (.t 1), some (75, true)⟩,
 ⟨some 78, .bin .sub (.t 77) (.c (.int .i64 (1 : Nat))), some (75, true)⟩,
 ⟨some 79, .iaddrS 1 (.t 76) (.t 78), some (75, true)⟩,
 ⟨some 80, .load1 (.t 79), some (75, true)⟩,
 ⟨some 81, .mov (.t 0), some (75, true)⟩,
 ⟨some 82, .mov (.t 11), some (75, true)⟩,
 ⟨some 83, .iaddrS 1 (.t 81) (.t 82), some (75, true)⟩,
 ⟨some 84, .load1 (.t 83), some (75, true)⟩,
 ⟨some 85, .call 176 [(.t 80), (.t 84)], some (75, true)⟩,
 ⟨some 86, .un .not (.t 85), some (75, true)⟩,
 ⟨some 87, .pick (.t 75) (.t 86) (.c (.bool false)), none⟩]
def F125u30p : List IPh := [⟨[.one 0, .one 1, .one 2, .one 3, .one 4, .one 5, .one 6, .one 7, .one 8, .one 9, .one 10, .one 11], [], some 12⟩,
 ⟨[.one 13, .one 14], [], none⟩]
def F125 : AFunc := ⟨4, List.replicate 130 und, [],
 (.seq
 (.reg F125u0)
 (.seq
 (.reg F125u1)
 (.block 0
 (.loop
 (.block 1
 (.seq
 (.reg F125u2)
 (.seq
 (.seq
 (.reg F125u3)
 (.cond (.t 23)
 (.seq
 (.reg F125u4)
 .ret)
 .skip))
 (.seq
 (.seq
 (.reg F125u5)
 (.cond (.t 29)
 (.seq
 (.reg F125u6)
 .ret)
 .skip))
 (.seq
 (.seq
 (.reg F125u7)
 (.cond (.t 35)
 (.seq
 (.reg F125u8)
 (.reg F125u9))
 .skip))
 (.seq
 (.reg F125u10)
 (.seq
 (.seq
 (.reg F125u11)
 (.cond (.t 50)
 (.seq
 (.reg F125u12)
 (.seq
 (.reg F125u13)
 (.reg F125u14)))
 .skip))
 (.seq
 (.seq
 (.reg F125u15)
 (.cond (.t 68)
 (.seq
 (.reg F125u16)
 (.cond (.t 72)
 .ret
 .skip))
 .skip))
 (.seq
 (.seq
 (.dreg 0 F125u30 F125u30p)
 (.cond (.t 87)
 (.seq
 (.reg F125u17)
 (.seq
 (.reg F125u18)
 (.exit 1)))
 .skip))
 (.seq
 (.reg F125u19)
 (.seq
 (.reg F125u20)
 (.seq
 (.reg F125u21)
 (.seq
 (.reg F125u22)
 (.seq
 (.reg F125u23)
 (.cond (.t 113)
 (.seq
 (.reg F125u24)
 (.seq
 (.reg F125u25)
 (.reg F125u26)))
 (.seq
 (.reg F125u27)
 (.seq
 (.reg F125u28)
 (.reg F125u29))))))))))))))))))))))⟩
/-! math/bits.Len -/
def F126u0 : List AIns := [⟨some 2, .mov (.c (.int .i64 (0 : Nat))), none⟩]
def F126u1 : List AIns := [⟨some 3, .mov (.t 0), none⟩,
 ⟨some 4, .convI .u32 (.t 3), none⟩,
 ⟨some 5, .call 179 [(.t 4)], none⟩,
 ⟨some 2, .mov (.t 5), none⟩]
def F126u2 : List AIns := [⟨some 6, .mov (.t 0), none⟩,
 ⟨some 7, .call 180 [(.t 6)], none⟩,
 ⟨some 2, .mov (.t 7), none⟩]
def F126 : AFunc := ⟨1, List.replicate 7 und, [.tmp 2],
 (.seq
 (.reg F126u0)
 (.seq
 (.cond (.c (.bool false))
 (.seq
 (.reg F126u1)
 .ret)
 .skip)
 (.seq
 (.reg F126u2)
 .ret)))⟩
/-! univocal/code.table$1 -/
def F127u0 : List AIns := [⟨some 4, .box (.t 1), none⟩]
def F127u1 : List AIns := [⟨some 6, .mov (.t 0), none⟩,
 ⟨some 7, .mov (.t 2), none⟩,
 ⟨some 8, .call 57 [(.t 6), (.c (.int .i64 (1 : Nat))), (.t 7), (.c (.int .i64 (0 : Nat))), (.c (.int .i64 (0 : Nat)))], none⟩]
def F127 : AFunc := ⟨3, List.replicate 6 und, [],
 (.seq
 (.reg F127u0)
 (.reg F127u1))⟩
/-! slices.Clone[[]int,int] -/
def F135u0 : List AIns := [⟨some 2, .mov (.c .nils), none⟩]
def F135u1 : List AIns := [⟨some 3, .mov (.t 0), none⟩,
 ⟨some 4, .eq .slice false (.t 3) (.c .nils), none⟩]
def F135u2 : List AIns := [⟨some 2, .mov (.c .nils), none⟩]
def F135u3 : List AIns := [⟨some 5, .bslice [(.int .i64 (0 : Nat))] 1 0 [], none⟩,
 ⟨some 6, .mov (.t 0), none⟩,
 ⟨some 7, .app 1 8 (.t 5) (.t 6), none⟩,
 ⟨some 2, .mov (.t 7), none⟩]
def F135 : AFunc := ⟨1, List.replicate 7 und, [.tmp 2],
 (.seq
 (.reg F135u0)
 (.seq
 (.seq
 (.reg F135u1)
 (.cond (.t 4)
 (.seq
 (.reg F135u2)
 .ret)
 .skip))
 (.seq
 (.reg F135u3)
 .ret)))⟩
/-! slices.Clone[univocal/api.Pattern,univocal/api.Part] -/
def F136u0 : List AIns := [⟨some 2, .mov (.c .nils), none⟩]
def F136u1 : List AIns := [⟨some 3, .mov (.t 0), none⟩,
 ⟨some 4, .eq .slice false (.t 3) (.c .nils), none⟩]
def F136u2 : List AIns := [⟨some 2, .mov (.c .nils), none⟩]
def F136u3 : List AIns := [⟨some 5, .bslice [.nils, (.bool false)] 2 0 [], none⟩,
 ⟨some 6, .mov (.t 0), none⟩,
 ⟨some 7, .app 2 32 (.t 5) (.t 6), none⟩,
 ⟨some 2, .mov (.t 7), none⟩]
def F136 : AFunc := ⟨1, List.replicate 7 und, [.tmp 2],
 (.seq
 (.reg F136u0)
 (.seq
 (.seq
 (.reg F136u1)
 (.cond (.t 4)
 (.seq
 (.reg F136u2)
 .ret)
 .skip))
 (.seq
 (.reg F136u3)
 .ret)))⟩
/-! slices.Clone[univocal/api.Regex,univocal/api.RegexNode] -/
def F137u0 : List AIns := [⟨some 2, .mov (.c .nils), none⟩]
def F137u1 : List AIns := [⟨some 3, .mov (.t 0), none⟩,
 ⟨some 4, .eq .slice false (.t 3) (.c .nils), none⟩]
def F137u2 : List AIns := [⟨some 2, .mov (.c .nils), none⟩]
def F137u3 : List AIns := [⟨some 5, .bslice [(.int .i64 (0 : Nat)), (.int .u64 (0 : Nat)), (.int .u64 (0 : Nat)), (.int .u64 (0 : Nat)), (.int .u64 (0 : Nat)), (.int .i64 (0 : Nat)), (.int .i64 (0 : Nat)), (.int .i64 (0 : Nat)), (.int .i64 (0 : Nat))] 9 0 [], none⟩,
 ⟨some 6, .mov (.t 0), none⟩,
 ⟨some 7, .app 9 72 (.t 5) (.t 6), none⟩,
 ⟨some 2, .mov (.t 7), none⟩]
def F137 : AFunc := ⟨1, List.replicate 7 und, [.tmp 2],
 (.seq
 (.reg F137u0)
 (.seq
 (.seq
 (.reg F137u1)
 (.cond (.t 4)
 (.seq
 (.reg F137u2)
 .ret)
 .skip))
 (.seq
 (.reg F137u3)
 .ret)))⟩
/-! slices.ContainsFunc[[][]byte,[]byte] -/
def F139u0 : List AIns := [⟨some 4, .mov (.c (.bool false)), none⟩]
def F139u1 : List AIns := [⟨some 5, .mov (.t 0), none⟩,
 ⟨some 6, .mov (.t 1), none⟩,
 ⟨some 7, .call 186 [(.t 5), (.t 6)], none⟩,
 ⟨some 8, .bin .geq (.t 7) (.c (.int .i64 (0 : Nat))), none⟩,
 ⟨some 4, .mov (.t 8), none⟩]
def F139 : AFunc := ⟨2, List.replicate 7 und, [.tmp 4],
 (.seq
 (.reg F139u0)
 (.seq
 (.reg F139u1)
 .ret))⟩
/-! univocal/vm.fits$1 -/
def F140u0 : List AIns := [⟨some 2, .mov (.c (.bool false)), none⟩]
def F140u1 : List AIns := [⟨some 3, .mov (.t 0), none⟩,
 ⟨some 4, .len .sl (.t 3), none⟩,
 ⟨some 5, .bin .gtr (.t 4) (.c (.int .i64 (4096 : Nat))), none⟩,
 ⟨some 2, .mov (.t 5), none⟩]
def F140 : AFunc := ⟨1, List.replicate 5 und, [.tmp 2],
 (.seq
 (.reg F140u0)
 (.seq
 (.reg F140u1)
 .ret))⟩
/-! (*univocal/vm.run).do -/
def F143u0 : List AIns := [⟨some 3, .box (.t 1), none⟩,
 ⟨some 4, .mov (.c (.int .i64 (0 : Nat))), none⟩]
def F143u1 : List AIns := [⟨some 6, .mov (.c .nils), none⟩]
def F143u2 : List AIns := [⟨some 18, .faddr 0 (.t 5), none⟩,
 ⟨some 19, .load1 (.t 18), none⟩,
 ⟨some 20, .bin .neq (.t 19) (.c (.int .i64 (2 : Nat))), none⟩]
def F143u3 : List AIns := [⟨some 30, .faddr 0 (.t 5), none⟩,
 ⟨some 31, .load1 (.t 30), none⟩]
def F143u4 : List AIns := [⟨some 33, .bin .eql (.t 31) (.c (.int .i64 (1 : Nat))), none⟩,
 ⟨some 32, .mov (.t 33), none⟩]
def F143u5 : List AIns := [⟨some 34, .mov (.t 0), none⟩,
 ⟨some 35, .faddr 2 (.t 5), none⟩,
 ⟨some 36, .load1 (.t 35), none⟩,
 ⟨some 37, .mov (.t 6), none⟩,
 ⟨some 38, .call 187 [(.t 34), (.t 36), (.t 37)], none⟩]
def F143u6 : List AIns := [⟨some 40, .bin .eql (.t 31) (.c (.int .i64 (2 : Nat))), none⟩,
 ⟨some 39, .mov (.t 40), none⟩]
def F143u7 : List AIns := [⟨some 41, .mov (.t 0), none⟩,
 ⟨some 42, .faddr 2 (.t 5), none⟩,
 ⟨some 43, .load1 (.t 42), none⟩,
 ⟨some 44, .faddr 7 (.t 5), none⟩,
 ⟨some 45, .load1 (.t 44), none⟩,
 ⟨some 46, .call 187 [(.t 41), (.t 43), (.t 45)], none⟩]
def F143u8 : List AIns := [⟨some 48, .bin .eql (.t 31) (.c (.int .i64 (4 : Nat))), none⟩,
 ⟨some 47, .mov (.t 48), none⟩]
def F143u9 : List AIns := [⟨some 49, .faddr 5 (.t 5), none⟩,
 ⟨some 50, .load1 (.t 49), none⟩,
 ⟨some 51, .mov (.t 6), none⟩,
 ⟨some 52, .len .sl (.t 51), none⟩,
 ⟨some 53, .min [(.t 50), (.t 52)], none⟩,
 ⟨some 54, .mov (.t 6), none⟩,
 ⟨some 55, .len .sl (.t 54), none⟩,
 ⟨some 7, .mov (.t 53), none⟩,
 ⟨some 8, .mov (.t 55), none⟩]
def F143u10 : List AIns := [⟨some 56, .faddr 6 (.t 5), none⟩,
 ⟨some 57, .load1 (.t 56), none⟩,
 ⟨some 58, .bin .geq (.t 57) (.c (.int .i64 (0 : Nat))), none⟩]
def F143u11 : List AIns := [⟨some 59, .faddr 6 (.t 5), none⟩,
 ⟨some 60, .load1 (.t 59), none⟩,
 ⟨some 61, .mov (.t 8), none⟩,
 ⟨some 62, .min [(.t 60), (.t 61)], none⟩,
 ⟨some 8, .mov (.t 62), none⟩]
def F143u12 : List AIns := [⟨some 74, .bin .eql (.t 31) (.c (.int .i64 (7 : Nat))), none⟩,
 ⟨some 73, .mov (.t 74), none⟩]
def F143u13 : List AIns := [⟨some 84, .bin .eql (.t 31) (.c (.int .i64 (13 : Nat))), none⟩,
 ⟨some 83, .mov (.t 84), none⟩]
def F143u14 : List AIns := [⟨some 85, .mov (.t 0), none⟩,
 ⟨some 86, .nilchk (.t 85), none⟩,
 ⟨some 87, .faddr 5 (.t 86), none⟩,
 ⟨some 88, .faddr 4 (.t 87), none⟩,
 ⟨some 89, .faddr 2 (.t 88), none⟩,
 ⟨some 90, .load1 (.t 89), none⟩,
 ⟨some 91, .len .sl (.t 90), none⟩,
 ⟨some 92, .bin .eql (.t 91) (.c (.int .i64 (16 : Nat))), none⟩]
def F143u15 : List AIns := [⟨some 93, .mov (.t 0), none⟩,
 ⟨some 94, .call 188 [(.t 93), (.c (.int .i64 (.negSucc 0)))], none⟩]
def F143u16 : List AIns := [⟨some 113, .mov (.t 0), none⟩,
 ⟨some 114, .nilchk (.t 113), none⟩,
 ⟨some 115, .faddr 5 (.t 114), none⟩,
 ⟨some 116, .faddr 0 (.t 115), none⟩,
 ⟨some 117, .load1 (.t 116), none⟩,
 ⟨some 118, .bin .add (.t 117) (.c (.int .i64 (1 : Nat))), none⟩,
 ⟨some 4, .mov (.t 118), none⟩]
def F143u17 : List AIns := [⟨some 9, .mov (.t 0), none⟩,
 ⟨some 10, .nilchk (.t 9), none⟩,
 ⟨some 11, .faddr 0 (.t 10), none⟩,
 ⟨some 12, .faddr 1 (.t 11), none⟩,
 ⟨some 13, .load1 (.t 12), none⟩,
 ⟨some 14, .faddr 1 (.t 3), none⟩,
 ⟨some 15, .load1 (.t 14), none⟩,
 ⟨some 16, .iaddrS 33 (.t 13) (.t 15), none⟩,
 ⟨some 17, .loadN 33 (.t 16), none⟩,
 ⟨some 5, .alloc [(.int .i64 (0 : Nat)), (.int .i64 (0 : Nat)), (.int .i64 (0 : Nat)), (.int .i64 (0 : Nat)), (.int .i64 (0 : Nat)), (.int .i64 (0 : Nat)), (.int .i64 (0 : Nat)), .nils, (.bool false), (.int .i64 (0 : Nat)), .nils, .nils, (.int .u64 (0 : Nat)), (.int .u64 (0 : Nat)), (.int .u64 (0 : Nat)), (.int .u64 (0 : Nat)), (.int .i64 (0 : Nat)), (.int .i64 (0 : Nat)), (.int .i64 (0 : Nat)), (.int .i64 (0 : Nat)), (.bool false), .nils, .nils, (.int .i64 (0 : Nat)), (.bool false), (.int .i64 (0 : Nat)), (.int .i64 (0 : Nat)), (.int .i64 (0 : Nat)), (.int .i64 (0 : Nat)), .nils, (.str []), (.int .i64 (0 : Nat)), (.int .i64 (0 : Nat))], none⟩,
 ⟨none, .store 33 (.t 5) (.t 17), none⟩]
def F143u17p : List IPh := [⟨[.one 0, .one 1, .one 2, .one 3, .one 4, .one 5, .one 6, .one 7, .one 8, .res 9 0], [(9, 0)], some 10⟩,
 ⟨[], [], none⟩]
def F143u18 : List AIns := [⟨some 21, .mov (.t 0), none⟩,
 ⟨some 22, .nilchk (.t 21), none⟩,
 ⟨some 23, .faddr 5 (.t 22), none⟩,
 ⟨some 24, .faddr 1 (.t 23), none⟩,
 ⟨some 25, .load1 (.t 24), none⟩,
 ⟨some 26, .faddr 1 (.t 5), none⟩,
 ⟨some 27, .load1 (.t 26), none⟩,
 ⟨some 28, .iaddrS 1 (.t 25) (.t 27), none⟩,
 ⟨some 29, .load1 (.t 28), none⟩,
 ⟨some 6, .mov (.t 29), none⟩]
def F143u18p : List IPh := [⟨[.one 0, .one 1, .one 2, .one 3, .one 4, .one 5, .one 6, .one 7, .one 8, .one 9], [], none⟩]
def F143u19 : List AIns := [⟨some 63, .mov (.t 0), none⟩,
 ⟨some 64, .faddr 2 (.t 5), none⟩,
 ⟨some 65, .load1 (.t 64), none⟩,
 ⟨some 66, .mov (.t 6), none⟩,
 ⟨some 67, .mov (.t 7), none⟩,
 ⟨some 68, .mov (.t 7), none⟩,
 ⟨some 69, .mov (.t 8), none⟩,
 ⟨some 70, .max [(.t 68), (.t 69)], none⟩,
 ⟨some 71, .slc 1 (.t 66) (some (.t 67)) (some (.t 70)) none, none⟩,
 ⟨some 72, .call 187 [(.t 63), (.t 65), (.t 71)], none⟩]
def F143u19p : List IPh := [⟨[.one 0, .one 1, .one 2, .one 3, .one 4, .one 5, .one 6, .one 7, .one 8], [], some 9⟩,
 ⟨[], [], none⟩]
def F143u20 : List AIns := [⟨some 75, .mov (.t 0), none⟩,
 ⟨some 76, .faddr 2 (.t 5), none⟩,
 ⟨some 77, .load1 (.t 76), none⟩,
 ⟨some 78, .faddr 12 (.t 5), none⟩,
 ⟨some 79, .loadN 4 (.t 78), none⟩,
 ⟨some 80, .mov (.t 6), none⟩,
 ⟨some 81, .call 154 [(.t 79), (.t 80)], none⟩,
 ⟨some 82, .call 187 [(.t 75), (.t 77), (.t 81)], none⟩]
def F143u20p : List IPh := [⟨[.one 0, .one 1, .one 2, .one 3, .one 4, .one 5], [], some 6⟩,
 ⟨[.again 0, .again 1, .again 2], [], some 7⟩,
 ⟨[], [], none⟩]
def F143u21 : List AIns := [⟨some 95, .mov (.t 0), none⟩,
 ⟨some 96, .mov (.t 0), none⟩,
 ⟨some 97, .nilchk (.t 96), none⟩,
 ⟨some 98, .faddr 5 (.t 97), none⟩,
 ⟨some 99, .faddr 4 (.t 98), none⟩,
 ⟨some 100, .faddr 2 (.t 99), none⟩,
 ⟨some 101, .load1 (.t 100), none⟩,
 ⟨some 102, .faddr 30 (.t 5), none⟩,
 ⟨some 103, .load1 (.t 102), none⟩,
 ⟨some 104, .mov (.t 6), none⟩,
 ⟨some 105, .call 60 [(.t 104)], none⟩,
 ⟨some 106, .build [(.str []), .nils] [(0, 1, (.t 103)), (1, 1, (.t 105))], none⟩,
 ⟨some 107, .bslice [(.str []), .nils] 2 1 [(0, (.t 106))], none⟩,
 ⟨some 108, .app 2 40 (.t 101) (.t 107), none⟩,
 ⟨some 109, .nilchk (.t 95), none⟩,
 ⟨some 110, .faddr 5 (.t 109), none⟩,
 ⟨some 111, .faddr 4 (.t 110), none⟩,
 ⟨some 112, .faddr 2 (.t 111), none⟩,
 ⟨none, .store 1 (.t 112) (.t 108), none⟩]
def F143u21p : List IPh := [⟨[.one 0, .one 1, .one 2, .one 3, .one 4, .one 5, .one 6, .one 7, .one 8, .one 9], [], some 10⟩,
 ⟨[.again 0, .again 1, .again 2, .again 3, .again 4, .again 5, .again 6, .again 7, .again 8, .one 11, .res 12 0], [(12, 0)], some 13⟩,
 ⟨[.again 0, .one 14, .one 15, .one 16, .one 17], [], some 18⟩,
 ⟨[], [], none⟩]
def F143 : AFunc := ⟨2, List.replicate 117 und, [.tmp 4],
 (.seq
 (.reg F143u0)
 (.seq
 (.dreg 1 F143u17 F143u17p)
 (.seq
 (.reg F143u1)
 (.seq
 (.seq
 (.reg F143u2)
 (.cond (.t 20)
 (.dreg 0 F143u18 F143u18p)
 .skip))
 (.seq
 (.seq
 (.reg F143u3)
 (.block 0
 (.seq
 (.reg F143u4)
 (.cond (.t 32)
 (.reg F143u5)
 (.seq
 (.reg F143u6)
 (.cond (.t 39)
 (.reg F143u7)
 (.seq
 (.reg F143u8)
 (.cond (.t 47)
 (.seq
 (.reg F143u9)
 (.seq
 (.seq
 (.reg F143u10)
 (.cond (.t 58)
 (.reg F143u11)
 .skip))
 (.dreg 0 F143u19 F143u19p)))
 (.seq
 (.reg F143u12)
 (.cond (.t 73)
 (.dreg 0 F143u20 F143u20p)
 (.seq
 (.reg F143u13)
 (.cond (.t 83)
 (.seq
 (.seq
 (.reg F143u14)
 (.cond (.t 92)
 (.seq
 (.reg F143u15)
 (.exit 0))
 .skip))
 (.dreg 1 F143u21 F143u21p))
 .skip))))))))))))
 (.seq
 (.reg F143u16)
 .ret))))))⟩
/-! (*univocal/vm.run).accept -/
def F150u0 : List AIns := [⟨some 3, .box (.t 1), none⟩,
 ⟨some 4, .mov (.c (.int .i64 (0 : Nat))), none⟩]
def F150u1 : List AIns := [⟨some 5, .mov (.t 0), none⟩,
 ⟨some 6, .mov (.t 0), none⟩,
 ⟨some 7, .nilchk (.t 5), none⟩,
 ⟨some 8, .faddr 5 (.t 7), none⟩,
 ⟨some 9, .faddr 4 (.t 8), none⟩,
 ⟨some 10, .faddr 0 (.t 9), none⟩,
 ⟨none, .store 1 (.t 10) (.c (.bool true)), none⟩,
 ⟨some 11, .nilchk (.t 6), none⟩,
 ⟨some 12, .faddr 5 (.t 11), none⟩,
 ⟨some 13, .faddr 7 (.t 12), none⟩,
 ⟨none, .store 1 (.t 13) (.c (.bool true)), none⟩]
def F150u2 : List AIns := [⟨some 14, .mov (.t 0), none⟩,
 ⟨some 15, .nilchk (.t 14), none⟩,
 ⟨some 16, .faddr 5 (.t 15), none⟩,
 ⟨some 17, .faddr 0 (.t 16), none⟩,
 ⟨some 18, .load1 (.t 17), none⟩,
 ⟨some 4, .mov (.t 18), none⟩]
def F150 : AFunc := ⟨2, List.replicate 17 und, [.tmp 4],
 (.seq
 (.reg F150u0)
 (.seq
 (.reg F150u1)
 (.seq
 (.reg F150u2)
 .ret)))⟩
/-! slices.insertionSortOrdered[string] -/
def F170u0 : List AIns := [⟨some 8, .mov (.t 1), none⟩,
 ⟨some 9, .bin .add (.t 8) (.c (.int .i64 (1 : Nat))), none⟩,
 ⟨some 6, .mov (.t 9), none⟩]
def F170u1 : List AIns := [⟨some 10, .mov (.t 6), none⟩,
 ⟨some 11, .mov (.t 2), none⟩,
 ⟨some 12, .bin .lss (.t 10) (.t 11), none⟩]
def F170u2 : List AIns := [⟨some 15, .mov (.t 6), none⟩,
 ⟨some 7, .mov (.t 15), none⟩]
def F170u3 : List AIns := [⟨some 31, .mov (.t 7), none⟩,
 ⟨some 32, .bin .sub (.t 31) (.c (.int .i64 (1 : Nat))), none⟩,
 ⟨some 7, .mov (.t 32), none⟩]
def F170u4 : List AIns := [⟨some 13, .mov (.t 6), none⟩,
 ⟨some 14, .bin .add (.t 13) (.c (.int .i64 (1 : Nat))), none⟩,
 ⟨some 6, .mov (.t 14), none⟩]
def F170u5 : List AIns := [⟨some 16, .mov (.t 7), none⟩,
 ⟨some 17, .mov (.t 1), none⟩,
 ⟨some 18, .bin .gtr (.t 16) (.t 17), none⟩,
 ⟨some 19, .mov (.t 18), none⟩,
 ⟨some 20, .mov (.t 0), some (19, true)⟩,
 ⟨some 21, .mov (.t 7), some (19, true)⟩,
 ⟨some 22, .iaddrS 1 (.t 20) (.t 21), some (19, true)⟩,
 ⟨some 23, .load1 (.t 22), some (19, true)⟩,
 ⟨some 24, .mov (.t 0), some (19, true)⟩,
 ⟨some 25, .mov (.t 7), some (19, true)⟩,
 ⟨some 26, .bin .sub (.t 25) (.c (.int .i64 (1 : Nat))), some (19, true)⟩,
 ⟨some 27, .iaddrS 1 (.t 24) (.t 26), some (19, true)⟩,
 ⟨some 28, .load1 (.t 27), some (19, true)⟩,
 ⟨some 29, .call 176 [(.t 23), (.t 28)], some (19, true)⟩,
 ⟨some 30, .pick (.t 19) (.t 29) (.c (.bool false)), none⟩]
def F170u5p : List IPh := [⟨[.one 0, .one 1, .one 2, .one 3, .one 4, .one 5, .one 6, .one 7, .one 8, .one 9, .one 10, .one 11, .one 12], [], some 13⟩,
 ⟨[.one 14], [], none⟩]
def F170u6 : List AIns := [⟨some 33, .mov (.t 0), none⟩,
 ⟨some 34, .mov (.t 7), none⟩,
 ⟨some 35, .mov (.t 0), none⟩,
 ⟨some 36, .mov (.t 7), none⟩,
 ⟨some 37, .bin .sub (.t 36) (.c (.int .i64 (1 : Nat))), none⟩,
 ⟨some 38, .mov (.t 0), none⟩,
 ⟨some 39, .mov (.t 7), none⟩,
 ⟨some 40, .bin .sub (.t 39) (.c (.int .i64 (1 : Nat))), none⟩,
 ⟨some 41, .iaddrS 1 (.t 38) (.t 40), none⟩,
 ⟨some 42, .load1 (.t 41), none⟩,
 ⟨some 43, .mov (.t 0), none⟩,
 ⟨some 44, .mov (.t 7), none⟩,
 ⟨some 45, .iaddrS 1 (.t 43) (.t 44), none⟩,
 ⟨some 46, .load1 (.t 45), none⟩,
 ⟨some 47, .iaddrS 1 (.t 33) (.t 34), none⟩,
 ⟨none, .store 1 (.t 47) (.t 42), none⟩,
 ⟨some 48, .iaddrS 1 (.t 35) (.t 37), none⟩,
 ⟨none, .store 1 (.t 48) (.t 46), none⟩]
def F170u6p : List IPh := [⟨[.one 0, .one 1, .one 2, .one 3, .one 4, .one 5, .one 6, .one 7, .one 8, .one 9, .one 10, .one 11, .one 12, .one 13, .one 14], [], some 15⟩,
 ⟨[.again 2, .again 3, .again 4, .one 16], [], some 17⟩,
 ⟨[], [], none⟩]
def F170 : AFunc := ⟨3, List.replicate 46 und, [],
 (.seq
 (.reg F170u0)
 (.block 0
 (.loop
 (.seq
 (.seq
 (.reg F170u1)
 (.cond (.t 12)
 .skip
 (.exit 0)))
 (.seq
 (.block 1
 (.seq
 (.reg F170u2)
 (.block 2
 (.loop
 (.seq
 (.seq
 (.dreg 0 F170u5 F170u5p)
 (.cond (.t 30)
 .skip
 (.exit 2)))
 (.seq
 (.block 3
 (.dreg 0 F170u6 F170u6p))
 (.reg F170u3)))))))
 (.reg F170u4))))))⟩
/-! math/bits.Len64 -/
def F180u0 : List AIns := [⟨some 2, .mov (.c (.int .i64 (0 : Nat))), none⟩]
def F180u1 : List AIns := [⟨some 3, .mov (.t 0), none⟩,
 ⟨some 4, .bin .geq (.t 3) (.c (.int .u64 (4294967296 : Nat))), none⟩]
def F180u2 : List AIns := [⟨some 5, .mov (.t 0), none⟩,
 ⟨some 6, .bin .shr (.t 5) (.c (.int .u64 (32 : Nat))), none⟩,
 ⟨some 0, .mov (.t 6), none⟩]
def F180u3 : List AIns := [⟨some 2, .mov (.c (.int .i64 (32 : Nat))), none⟩]
def F180u4 : List AIns := [⟨some 7, .mov (.t 0), none⟩,
 ⟨some 8, .bin .geq (.t 7) (.c (.int .u64 (65536 : Nat))), none⟩]
def F180u5 : List AIns := [⟨some 9, .mov (.t 0), none⟩,
 ⟨some 10, .bin .shr (.t 9) (.c (.int .u64 (16 : Nat))), none⟩,
 ⟨some 0, .mov (.t 10), none⟩]
def F180u6 : List AIns := [⟨some 11, .mov (.t 2), none⟩,
 ⟨some 12, .bin .add (.t 11) (.c (.int .i64 (16 : Nat))), none⟩,
 ⟨some 2, .mov (.t 12), none⟩]
def F180u7 : List AIns := [⟨some 13, .mov (.t 0), none⟩,
 ⟨some 14, .bin .geq (.t 13) (.c (.int .u64 (256 : Nat))), none⟩]
def F180u8 : List AIns := [⟨some 15, .mov (.t 0), none⟩,
 ⟨some 16, .bin .shr (.t 15) (.c (.int .u64 (8 : Nat))), none⟩,
 ⟨some 0, .mov (.t 16), none⟩]
def F180u9 : List AIns := [⟨some 17, .mov (.t 2), none⟩,
 ⟨some 18, .bin .add (.t 17) (.c (.int .i64 (8 : Nat))), none⟩,
 ⟨some 2, .mov (.t 18), none⟩]
def F180u10 : List AIns := [⟨some 19, .mov (.t 2), none⟩,
 ⟨some 20, .mov (.t 0), none⟩,
 ⟨some 21, .convI .u8 (.t 20), none⟩,
 ⟨some 22, .idxS (.c (.str [0, 1, 2, 2, 3, 3, 3, 3, 4, 4, 4, 4, 4, 4, 4, 4, 5, 5, 5, 5, 5, 5, 5, 5, 5, 5, 5, 5, 5, 5, 5, 5, 6, 6, 6, 6, 6, 6, 6, 6, 6, 6, 6, 6, 6, 6, 6, 6, 6, 6, 6, 6, 6, 6, 6, 6, 6, 6, 6, 6, 6, 6, 6, 6, 7, 7, 7, 7, 7, 7, 7, 7, 7, 7, 7, 7, 7, 7, 7, 7, 7, 7, 7, 7, 7, 7, 7, 7, 7, 7, 7, 7, 7, 7, 7, 7, 7, 7, 7, 7, 7, 7, 7, 7, 7, 7, 7, 7, 7, 7, 7, 7, 7, 7, 7, 7, 7, 7, 7, 7, 7, 7, 7, 7, 7, 7, 7, 7, 8, 8, 8, 8, 8, 8, 8, 8, 8, 8, 8, 8, 8, 8, 8, 8, 8, 8, 8, 8, 8, 8, 8, 8, 8, 8, 8, 8, 8, 8, 8, 8, 8, 8, 8, 8, 8, 8, 8, 8, 8, 8, 8, 8, 8, 8, 8, 8, 8, 8, 8, 8, 8, 8, 8, 8, 8, 8, 8, 8, 8, 8, 8, 8, 8, 8, 8, 8, 8, 8, 8, 8, 8, 8, 8, 8, 8, 8, 8, 8, 8, 8, 8, 8, 8, 8, 8, 8, 8, 8, 8, 8, 8, 8, 8, 8, 8, 8, 8, 8, 8, 8, 8, 8, 8, 8, 8, 8, 8, 8, 8, 8, 8, 8, 8, 8, 8, 8, 8, 8, 8, 8, 8, 8, 8, 8, 8, 8])) (.t 21), none⟩,
 ⟨some 23, .convI .i64 (.t 22), none⟩,
 ⟨some 24, .bin .add (.t 19) (.t 23), none⟩,
 ⟨some 2, .mov (.t 24), none⟩]
def F180 : AFunc := ⟨1, List.replicate 24 und, [.tmp 2],
 (.seq
 (.reg F180u0)
 (.seq
 (.seq
 (.reg F180u1)
 (.cond (.t 4)
 (.seq
 (.reg F180u2)
 (.reg F180u3))
 .skip))
 (.seq
 (.seq
 (.reg F180u4)
 (.cond (.t 8)
 (.seq
 (.reg F180u5)
 (.reg F180u6))
 .skip))
 (.seq
 (.seq
 (.reg F180u7)
 (.cond (.t 14)
 (.seq
 (.reg F180u8)
 (.reg F180u9))
 .skip))
 (.seq
 (.reg F180u10)
 .ret)))))⟩
/-! slices.IndexFunc[[][]byte,[]byte] -/
def F186u0 : List AIns := [⟨some 4, .mov (.c (.int .i64 (0 : Nat))), none⟩]
def F186u1 : List AIns := [⟨some 6, .mov (.t 0), none⟩,
 ⟨some 7, .len .sl (.t 6), none⟩,
 ⟨some 8, .mov (.c (.int .i64 (0 : Nat))), none⟩]
def F186u2 : List AIns := [⟨some 9, .bin .lss (.t 8) (.t 7), none⟩]
def F186u3 : List AIns := [⟨some 10, .mov (.t 8), none⟩,
 ⟨some 5, .mov (.t 10), none⟩]
def F186u4 : List AIns := [⟨some 11, .mov (.t 1), none⟩,
 ⟨some 12, .mov (.t 0), none⟩,
 ⟨some 13, .mov (.t 5), none⟩,
 ⟨some 14, .iaddrS 1 (.t 12) (.t 13), none⟩,
 ⟨some 15, .load1 (.t 14), none⟩,
 ⟨some 16, .dyn (.t 11) [(.t 15)], none⟩]
def F186u5 : List AIns := [⟨some 17, .mov (.t 5), none⟩,
 ⟨some 4, .mov (.t 17), none⟩]
def F186u6 : List AIns := [⟨some 18, .bin .add (.t 8) (.c (.int .i64 (1 : Nat))), none⟩,
 ⟨some 8, .mov (.t 18), none⟩]
def F186u7 : List AIns := [⟨some 4, .mov (.c (.int .i64 (.negSucc 0))), none⟩]
def F186 : AFunc := ⟨2, List.replicate 17 und, [.tmp 4],
 (.seq
 (.reg F186u0)
 (.seq
 (.seq
 (.reg F186u1)
 (.block 0
 (.loop
 (.seq
 (.reg F186u2)
 (.seq
 (.cond (.t 9)
 .skip
 (.exit 0))
 (.seq
 (.block 1
 (.seq
 (.reg F186u3)
 (.seq
 (.reg F186u4)
 (.cond (.t 16)
 (.seq
 (.reg F186u5)
 .ret)
 .skip))))
 (.reg F186u6)))))))
 (.seq
 (.reg F186u7)
 .ret)))⟩
theorem E4 : E0 4 = some F4 := by kernel_rfl
theorem E9 : E0 9 = some F9 := by kernel_rfl
theorem E10 : E0 10 = some F10 := by kernel_rfl
theorem E11 : E0 11 = some F11 := by kernel_rfl
theorem E12 : E0 12 = some F12 := by kernel_rfl
theorem E17 : E0 17 = some F17 := by kernel_rfl
theorem E23 : E0 23 = some F23 := by kernel_rfl
theorem E27 : E0 27 = some F27 := by kernel_rfl
theorem E28 : E0 28 = some F28 := by kernel_rfl
theorem E29 : E0 29 = some F29 := by kernel_rfl
theorem E30 : E0 30 = some F30 := by kernel_rfl
theorem E32 : E0 32 = some F32 := by kernel_rfl
theorem E33 : E0 33 = some F33 := by kernel_rfl
theorem E44 : E0 44 = some F44 := by kernel_rfl
theorem E47 : E0 47 = some F47 := by kernel_rfl
theorem E54 : E0 54 = some F54 := by kernel_rfl
theorem E55 : E0 55 = some F55 := by kernel_rfl
theorem E56 : E0 56 = some F56 := by kernel_rfl
theorem E57 : E0 57 = some F57 := by kernel_rfl
theorem E58 : E0 58 = some F58 := by kernel_rfl
theorem E59 : E0 59 = some F59 := by kernel_rfl
theorem E60 : E0 60 = some F60 := by kernel_rfl
theorem E61 : E0 61 = some F61 := by kernel_rfl
theorem E62 : E0 62 = some F62 := by kernel_rfl
theorem E80 : E0 80 = some F80 := by kernel_rfl
theorem E87 : E0 87 = some F87 := by kernel_rfl
theorem E88 : E0 88 = some F88 := by kernel_rfl
theorem E92 : E0 92 = some F92 := by kernel_rfl
theorem E93 : E0 93 = some F93 := by kernel_rfl
theorem E94 : E0 94 = some F94 := by kernel_rfl
theorem E95 : E0 95 = some F95 := by kernel_rfl
theorem E97 : E0 97 = some F97 := by kernel_rfl
theorem E98 : E0 98 = some F98 := by kernel_rfl
theorem E99 : E0 99 = some F99 := by kernel_rfl
theorem E109 : E0 109 = some F109 := by kernel_rfl
theorem E110 : E0 110 = some F110 := by kernel_rfl
theorem E117 : E0 117 = some F117 := by kernel_rfl
theorem E122 : E0 122 = some F122 := by kernel_rfl
theorem E124 : E0 124 = some F124 := by kernel_rfl
theorem E125 : E0 125 = some F125 := by kernel_rfl
theorem E126 : E0 126 = some F126 := by kernel_rfl
theorem E127 : E0 127 = some F127 := by kernel_rfl
theorem E135 : E0 135 = some F135 := by kernel_rfl
theorem E136 : E0 136 = some F136 := by kernel_rfl
theorem E137 : E0 137 = some F137 := by kernel_rfl
theorem E139 : E0 139 = some F139 := by kernel_rfl
theorem E140 : E0 140 = some F140 := by kernel_rfl
theorem E143 : E0 143 = some F143 := by kernel_rfl
theorem E150 : E0 150 = some F150 := by kernel_rfl
theorem E170 : E0 170 = some F170 := by kernel_rfl
theorem E180 : E0 180 = some F180 := by kernel_rfl
theorem E186 : E0 186 = some F186 := by kernel_rfl
def ET : Nat → Option AFunc := fun f => (bif Nat.beq f 4 then some F4 else (bif Nat.beq f 9 then some F9 else (bif Nat.beq f 10 then some F10 else (bif Nat.beq f 11 then some F11 else (bif Nat.beq f 12 then some F12 else (bif Nat.beq f 17 then some F17 else (bif Nat.beq f 23 then some F23 else (bif Nat.beq f 27 then some F27 else (bif Nat.beq f 28 then some F28 else (bif Nat.beq f 29 then some F29 else (bif Nat.beq f 30 then some F30 else (bif Nat.beq f 32 then some F32 else (bif Nat.beq f 33 then some F33 else (bif Nat.beq f 44 then some F44 else (bif Nat.beq f 47 then some F47 else (bif Nat.beq f 54 then some F54 else (bif Nat.beq f 55 then some F55 else (bif Nat.beq f 56 then some F56 else (bif Nat.beq f 57 then some F57 else (bif Nat.beq f 58 then some F58 else (bif Nat.beq f 59 then some F59 else (bif Nat.beq f 60 then some F60 else (bif Nat.beq f 61 then some F61 else (bif Nat.beq f 62 then some F62 else (bif Nat.beq f 80 then some F80 else (bif Nat.beq f 87 then some F87 else (bif Nat.beq f 88 then some F88 else (bif Nat.beq f 92 then some F92 else (bif Nat.beq f 93 then some F93 else (bif Nat.beq f 94 then some F94 else (bif Nat.beq f 95 then some F95 else (bif Nat.beq f 97 then some F97 else (bif Nat.beq f 98 then some F98 else (bif Nat.beq f 99 then some F99 else (bif Nat.beq f 109 then some F109 else (bif Nat.beq f 110 then some F110 else (bif Nat.beq f 117 then some F117 else (bif Nat.beq f 122 then some F122 else (bif Nat.beq f 124 then some F124 else (bif Nat.beq f 125 then some F125 else (bif Nat.beq f 126 then some F126 else (bif Nat.beq f 127 then some F127 else (bif Nat.beq f 135 then some F135 else (bif Nat.beq f 136 then some F136 else (bif Nat.beq f 137 then some F137 else (bif Nat.beq f 139 then some F139 else (bif Nat.beq f 140 then some F140 else (bif Nat.beq f 143 then some F143 else (bif Nat.beq f 150 then some F150 else (bif Nat.beq f 170 then some F170 else (bif Nat.beq f 180 then some F180 else (bif Nat.beq f 186 then some F186 else E0 f))))))))))))))))))))))))))))))))))))))))))))))))))))
theorem step1 {f k : Nat} {F : AFunc} {r : Option AFunc} (h : E0 k = some F) (hr : r = E0 f) : (bif Nat.beq f k then some F else r) = E0 f := by
  cases h' : Nat.beq f k with
  | true => have := Nat.eq_of_beq_eq_true h'; subst this; exact h.symm
  | false => exact hr
theorem ET_eq (f : Nat) : ET f = E0 f := (step1 E4 (step1 E9 (step1 E10 (step1 E11 (step1 E12 (step1 E17 (step1 E23 (step1 E27 (step1 E28 (step1 E29 (step1 E30 (step1 E32 (step1 E33 (step1 E44 (step1 E47 (step1 E54 (step1 E55 (step1 E56 (step1 E57 (step1 E58 (step1 E59 (step1 E60 (step1 E61 (step1 E62 (step1 E80 (step1 E87 (step1 E88 (step1 E92 (step1 E93 (step1 E94 (step1 E95 (step1 E97 (step1 E98 (step1 E99 (step1 E109 (step1 E110 (step1 E117 (step1 E122 (step1 E124 (step1 E125 (step1 E126 (step1 E127 (step1 E135 (step1 E136 (step1 E137 (step1 E139 (step1 E140 (step1 E143 (step1 E150 (step1 E170 (step1 E180 (step1 E186 rfl))))))))))))))))))))))))))))))))))))))))))))))))))))
theorem ET_ok : TableOK Tryz.prog G0 ET := by
  rw [funext ET_eq]; exact E0uok

end
end Go.Proofs.YtfaeabhbeolpgaaGreatDoor
end
