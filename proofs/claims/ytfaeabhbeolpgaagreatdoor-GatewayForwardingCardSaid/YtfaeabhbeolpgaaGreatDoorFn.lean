/- The bodies of the functions that the law comes to, in the abstract machine's words. Conditions: none. -/
import Derived.Test.YtfaeabhbeolpgaaGreatDoorBas
import Derived.Test.YtfaeabhbeolpgaaGreatDoorMc1
set_option linter.all false
noncomputable section
set_option maxRecDepth 1000000
namespace Go.Proofs.YtfaeabhbeolpgaaGreatDoor
open Go Go.Am
/-! univocal/univocallaw33.GatewayForwarding -/
def F3u0 : List AIns := [⟨some 3, .box (.t 0), none⟩,
 ⟨some 4, .box (.t 1), none⟩,
 ⟨some 6, .mov (.c (.bool false)), none⟩]
def F3u1 : List AIns := [⟨some 15, .call 4 [], none⟩,
 ⟨some 7, .mov (.t 15), none⟩]
def F3u2 : List AIns := [⟨some 16, .faddr 1 (.t 3), none⟩,
 ⟨some 17, .load1 (.t 16), none⟩,
 ⟨some 18, .len .sl (.t 17), none⟩,
 ⟨some 19, .bin .gtr (.t 18) (.c (.int .i64 (70 : Nat))), none⟩,
 ⟨some 20, .mov (.t 19), none⟩,
 ⟨some 21, .mov (.t 2), some (20, false)⟩,
 ⟨some 22, .len .sl (.t 21), some (20, false)⟩,
 ⟨some 23, .bin .gtr (.t 22) (.c (.int .i64 (100 : Nat))), some (20, false)⟩,
 ⟨some 24, .pick (.t 20) (.c (.bool true)) (.t 23), none⟩]
def F3u3 : List AIns := [⟨some 25, .mov (.t 7), none⟩,
 ⟨some 6, .mov (.t 25), none⟩]
def F3u4 : List AIns := [⟨some 30, .mov (.t 2), none⟩,
 ⟨some 31, .mov (.t 2), none⟩,
 ⟨some 32, .call 6 [(.t 31), (.c (.int .i64 (20 : Nat)))], none⟩,
 ⟨some 33, .bslice [.nils] 1 2 [(0, (.t 30)), (1, (.t 32))], none⟩,
 ⟨some 9, .mov (.t 33), none⟩]
def F3u5 : List AIns := [⟨some 10, .mov (.c (.int .i64 (0 : Nat))), none⟩]
def F3u6 : List AIns := [⟨some 34, .mov (.t 10), none⟩,
 ⟨some 35, .bin .lss (.t 34) (.c (.int .i64 (2 : Nat))), none⟩]
def F3u7 : List AIns := [⟨some 62, .mov (.t 12), none⟩,
 ⟨some 63, .mov (.t 14), none⟩,
 ⟨some 64, .bin .neq (.t 62) (.t 63), none⟩,
 ⟨some 65, .mov (.t 64), none⟩,
 ⟨some 66, .mov (.t 11), some (65, false)⟩,
 ⟨some 67, .convBS (.t 66), some (65, false)⟩,
 ⟨some 68, .mov (.t 13), some (65, false)⟩,
 ⟨some 69, .convBS (.t 68), some (65, false)⟩,
 ⟨some 70, .bin .neq (.t 67) (.t 69), some (65, false)⟩,
 ⟨some 71, .pick (.t 65) (.c (.bool true)) (.t 70), none⟩]
def F3u8 : List AIns := [⟨some 6, .mov (.c (.bool false)), none⟩]
def F3u9 : List AIns := [⟨some 36, .mov (.t 10), none⟩,
 ⟨some 37, .bin .add (.t 36) (.c (.int .i64 (1 : Nat))), none⟩,
 ⟨some 10, .mov (.t 37), none⟩]
def F3u10 : List AIns := [⟨some 72, .mov (.t 7), none⟩,
 ⟨some 6, .mov (.t 72), none⟩]
def F3u11 : List AIns := [⟨some 26, .loadN 3 (.t 3), none⟩,
 ⟨some 27, .loadN 7 (.t 4), none⟩,
 ⟨some 28, .call 5 [(.t 27)], none⟩,
 ⟨some 29, .bslice [.nils, .nils, .nils] 3 2 [(0, (.t 26)), (1, (.t 28))], none⟩,
 ⟨some 8, .mov (.t 29), none⟩]
def F3u11p : List IPh := [⟨[.one 0, .one 1], [], some 2⟩,
 ⟨[.again 0, .res 3 0, .one 4], [(3, 0)], none⟩]
def F3u12 : List AIns := [⟨some 39, .mov (.t 8), none⟩,
 ⟨some 40, .mov (.t 10), none⟩,
 ⟨some 41, .iaddrS 3 (.t 39) (.t 40), none⟩,
 ⟨some 42, .loadN 3 (.t 41), none⟩,
 ⟨some 43, .mov (.t 9), none⟩,
 ⟨some 44, .mov (.t 10), none⟩,
 ⟨some 45, .iaddrS 1 (.t 43) (.t 44), none⟩,
 ⟨some 46, .load1 (.t 45), none⟩,
 ⟨some 47, .call 7 [(.t 42), (.t 46)], none⟩,
 ⟨some 38, .mov (.t 47), none⟩,
 ⟨some 48, .ext 0 (.t 38), none⟩,
 ⟨some 49, .ext 1 (.t 38), none⟩,
 ⟨some 11, .mov (.t 48), none⟩,
 ⟨some 12, .mov (.t 49), none⟩]
def F3u12p : List IPh := [⟨[.one 0, .one 1, .one 2, .one 3, .one 4, .one 5, .one 6, .one 7], [], some 8⟩,
 ⟨[.one 9, .one 10, .one 11, .one 12, .one 13], [], none⟩]
def F3u13 : List AIns := [⟨some 51, .mov (.t 8), none⟩,
 ⟨some 52, .mov (.t 10), none⟩,
 ⟨some 53, .iaddrS 3 (.t 51) (.t 52), none⟩,
 ⟨some 54, .loadN 3 (.t 53), none⟩,
 ⟨some 55, .mov (.t 9), none⟩,
 ⟨some 56, .mov (.t 10), none⟩,
 ⟨some 57, .iaddrS 1 (.t 55) (.t 56), none⟩,
 ⟨some 58, .load1 (.t 57), none⟩,
 ⟨some 59, .call 8 [(.t 54), (.t 58)], none⟩,
 ⟨some 50, .mov (.t 59), none⟩,
 ⟨some 60, .ext 0 (.t 50), none⟩,
 ⟨some 61, .ext 1 (.t 50), none⟩,
 ⟨some 13, .mov (.t 60), none⟩,
 ⟨some 14, .mov (.t 61), none⟩]
def F3u13p : List IPh := [⟨[.one 0, .one 1, .one 2, .one 3, .one 4, .one 5, .one 6, .one 7], [], some 8⟩,
 ⟨[.one 9, .one 10, .one 11, .one 12, .one 13], [], none⟩]
def F3 : AFunc := ⟨3, List.replicate 70 und, [.tmp 6],
 (.seq
 (.reg F3u0)
 (.seq
 (.reg F3u1)
 (.seq
 (.seq
 (.reg F3u2)
 (.cond (.t 24)
 (.seq
 (.reg F3u3)
 .ret)
 .skip))
 (.seq
 (.dreg 1 F3u11 F3u11p)
 (.seq
 (.reg F3u4)
 (.seq
 (.seq
 (.reg F3u5)
 (.block 0
 (.loop
 (.seq
 (.seq
 (.reg F3u6)
 (.cond (.t 35)
 .skip
 (.exit 0)))
 (.seq
 (.block 1
 (.seq
 (.dreg 0 F3u12 F3u12p)
 (.seq
 (.dreg 0 F3u13 F3u13p)
 (.seq
 (.reg F3u7)
 (.cond (.t 71)
 (.seq
 (.reg F3u8)
 .ret)
 .skip)))))
 (.reg F3u9))))))
 (.seq
 (.reg F3u10)
 .ret)))))))⟩
/-! univocal/univocalref33.Made -/
def F5u0 : List AIns := [⟨some 1, .box (.t 0), none⟩,
 ⟨some 2, .alloc [.nils, .nils, .nils], none⟩]
def F5u1 : List AIns := [⟨some 10, .call 18 [], none⟩,
 ⟨some 11, .build [.nils, .nils, .nils] [(0, 1, (.t 10))], none⟩,
 ⟨some 3, .alloc [.nils, .nils, .nils], none⟩,
 ⟨none, .store 3 (.t 3) (.t 11), none⟩]
def F5u2 : List AIns := [⟨some 12, .faddr 0 (.t 1), none⟩,
 ⟨some 13, .load1 (.t 12), none⟩,
 ⟨some 14, .convI .i64 (.t 13), none⟩,
 ⟨some 15, .bin .rem (.t 14) (.c (.int .i64 (2 : Nat))), none⟩,
 ⟨some 16, .bin .add (.c (.int .i64 (1 : Nat))) (.t 15), none⟩,
 ⟨some 4, .mov (.t 16), none⟩]
def F5u3 : List AIns := [⟨some 5, .mov (.c (.int .i64 (0 : Nat))), none⟩]
def F5u4 : List AIns := [⟨some 17, .mov (.t 5), none⟩,
 ⟨some 18, .mov (.t 4), none⟩,
 ⟨some 19, .bin .lss (.t 17) (.t 18), none⟩]
def F5u5 : List AIns := [⟨some 22, .bslice [(.int .i64 (0 : Nat)), (.int .i64 (0 : Nat)), (.int .u8 (0 : Nat))] 3 0 [], none⟩,
 ⟨some 6, .mov (.t 22), none⟩]
def F5u6 : List AIns := [⟨some 7, .mov (.c (.int .i64 (0 : Nat))), none⟩]
def F5u7 : List AIns := [⟨some 23, .mov (.t 7), none⟩,
 ⟨some 24, .bin .lss (.t 23) (.c (.int .i64 (3 : Nat))), none⟩]
def F5u8 : List AIns := [⟨some 27, .mov (.t 5), none⟩,
 ⟨some 28, .bin .mul (.c (.int .i64 (3 : Nat))) (.t 27), none⟩,
 ⟨some 29, .mov (.t 7), none⟩,
 ⟨some 30, .bin .add (.t 28) (.t 29), none⟩,
 ⟨some 31, .faddr 1 (.t 1), none⟩,
 ⟨some 32, .iaddrA 1 6 (.t 31) (.t 30), none⟩,
 ⟨some 33, .load1 (.t 32), none⟩,
 ⟨some 34, .convI .i64 (.t 33), none⟩,
 ⟨some 8, .mov (.t 34), none⟩]
def F5u9 : List AIns := [⟨some 35, .mov (.t 8), none⟩,
 ⟨some 36, .bin .quo (.t 35) (.c (.int .i64 (8 : Nat))), none⟩,
 ⟨some 37, .mov (.t 4), none⟩,
 ⟨some 38, .bin .rem (.t 36) (.t 37), none⟩,
 ⟨some 39, .mov (.t 8), none⟩,
 ⟨some 40, .bin .rem (.t 39) (.c (.int .i64 (4 : Nat))), none⟩,
 ⟨some 41, .build [(.int .i64 (0 : Nat)), (.int .i64 (0 : Nat)), (.int .u8 (0 : Nat))] [(0, 1, (.t 38)), (1, 1, (.t 40))], none⟩,
 ⟨some 9, .alloc [(.int .i64 (0 : Nat)), (.int .i64 (0 : Nat)), (.int .u8 (0 : Nat))], none⟩,
 ⟨none, .store 3 (.t 9) (.t 41), none⟩]
def F5u10 : List AIns := [⟨some 42, .mov (.t 8), none⟩,
 ⟨some 43, .bin .rem (.t 42) (.c (.int .i64 (8 : Nat))), none⟩,
 ⟨some 44, .bin .geq (.t 43) (.c (.int .i64 (4 : Nat))), none⟩]
def F5u11 : List AIns := [⟨some 45, .faddr 1 (.t 9), none⟩,
 ⟨none, .store 1 (.t 45) (.c (.int .i64 (0 : Nat))), none⟩]
def F5u12 : List AIns := [⟨some 46, .faddr 1 (.t 9), none⟩,
 ⟨some 47, .load1 (.t 46), none⟩,
 ⟨some 48, .bin .eql (.t 47) (.c (.int .i64 (2 : Nat))), none⟩]
def F5u13 : List AIns := [⟨some 49, .mov (.t 8), none⟩,
 ⟨some 50, .bin .quo (.t 49) (.c (.int .i64 (16 : Nat))), none⟩,
 ⟨some 51, .bin .rem (.t 50) (.c (.int .i64 (2 : Nat))), none⟩,
 ⟨some 52, .convI .u8 (.t 51), none⟩,
 ⟨some 53, .bin .add (.c (.int .u8 (97 : Nat))) (.t 52), none⟩,
 ⟨some 54, .faddr 2 (.t 9), none⟩,
 ⟨none, .store 1 (.t 54) (.t 53), none⟩]
def F5u14 : List AIns := [⟨some 55, .mov (.t 6), none⟩,
 ⟨some 56, .loadN 3 (.t 9), none⟩,
 ⟨some 57, .bslice [(.int .i64 (0 : Nat)), (.int .i64 (0 : Nat)), (.int .u8 (0 : Nat))] 3 1 [(0, (.t 56))], none⟩,
 ⟨some 58, .app 3 24 (.t 55) (.t 57), none⟩,
 ⟨some 6, .mov (.t 58), none⟩]
def F5u15 : List AIns := [⟨some 25, .mov (.t 7), none⟩,
 ⟨some 26, .bin .add (.t 25) (.c (.int .i64 (1 : Nat))), none⟩,
 ⟨some 7, .mov (.t 26), none⟩]
def F5u16 : List AIns := [⟨some 59, .faddr 1 (.t 3), none⟩,
 ⟨some 60, .load1 (.t 59), none⟩,
 ⟨some 61, .mov (.t 6), none⟩,
 ⟨some 62, .bslice [.nils] 1 1 [(0, (.t 61))], none⟩,
 ⟨some 63, .app 1 24 (.t 60) (.t 62), none⟩,
 ⟨some 64, .faddr 1 (.t 3), none⟩,
 ⟨none, .store 1 (.t 64) (.t 63), none⟩]
def F5u17 : List AIns := [⟨some 20, .mov (.t 5), none⟩,
 ⟨some 21, .bin .add (.t 20) (.c (.int .i64 (1 : Nat))), none⟩,
 ⟨some 5, .mov (.t 21), none⟩]
def F5u18 : List AIns := [⟨some 77, .loadN 3 (.t 3), none⟩,
 ⟨none, .store 3 (.t 2) (.t 77), none⟩]
def F5u19 : List AIns := [⟨some 65, .faddr 2 (.t 3), none⟩,
 ⟨some 66, .load1 (.t 65), none⟩,
 ⟨some 67, .faddr 0 (.t 1), none⟩,
 ⟨some 68, .load1 (.t 67), none⟩,
 ⟨some 69, .mov (.t 5), none⟩,
 ⟨some 70, .bin .add (.c (.int .i64 (1 : Nat))) (.t 69), none⟩,
 ⟨some 71, .bin .shr (.t 68) (.t 70), none⟩,
 ⟨some 72, .bin .rem (.t 71) (.c (.int .u8 (2 : Nat))), none⟩,
 ⟨some 73, .bin .eql (.t 72) (.c (.int .u8 (0 : Nat))), none⟩,
 ⟨some 74, .bslice [(.bool false)] 1 1 [(0, (.t 73))], none⟩,
 ⟨some 75, .app 1 1 (.t 66) (.t 74), none⟩,
 ⟨some 76, .faddr 2 (.t 3), none⟩,
 ⟨none, .store 1 (.t 76) (.t 75), none⟩]
def F5u19p : List IPh := [⟨[.one 0, .one 1, .one 2, .one 3, .one 4, .one 5, .one 6, .one 7, .one 8, .res 9 0], [(9, 0)], some 10⟩,
 ⟨[.one 11], [], some 12⟩,
 ⟨[], [], none⟩]
def F5 : AFunc := ⟨1, List.replicate 77 und, [.cell 2 (some 3)],
 (.seq
 (.reg F5u0)
 (.seq
 (.reg F5u1)
 (.seq
 (.reg F5u2)
 (.seq
 (.seq
 (.reg F5u3)
 (.block 0
 (.loop
 (.seq
 (.seq
 (.reg F5u4)
 (.cond (.t 19)
 .skip
 (.exit 0)))
 (.seq
 (.block 1
 (.seq
 (.reg F5u5)
 (.seq
 (.seq
 (.reg F5u6)
 (.block 2
 (.loop
 (.seq
 (.seq
 (.reg F5u7)
 (.cond (.t 24)
 .skip
 (.exit 2)))
 (.seq
 (.block 3
 (.seq
 (.reg F5u8)
 (.seq
 (.reg F5u9)
 (.seq
 (.seq
 (.reg F5u10)
 (.cond (.t 44)
 (.reg F5u11)
 .skip))
 (.seq
 (.seq
 (.reg F5u12)
 (.cond (.t 48)
 (.reg F5u13)
 .skip))
 (.reg F5u14))))))
 (.reg F5u15))))))
 (.seq
 (.reg F5u16)
 (.dreg 1 F5u19 F5u19p)))))
 (.reg F5u17))))))
 (.seq
 (.reg F5u18)
 .ret)))))⟩
/-! univocal/univocalref03.Few -/
def F6u0 : List AIns := [⟨some 4, .mov (.c .nils), none⟩]
def F6u1 : List AIns := [⟨some 8, .bslice [(.int .u8 (0 : Nat))] 1 0 [], none⟩,
 ⟨some 5, .mov (.t 8), none⟩]
def F6u2 : List AIns := [⟨some 6, .mov (.c (.int .i64 (0 : Nat))), none⟩]
def F6u3 : List AIns := [⟨some 9, .mov (.t 6), none⟩,
 ⟨some 10, .mov (.t 0), none⟩,
 ⟨some 11, .len .sl (.t 10), none⟩,
 ⟨some 12, .bin .lss (.t 9) (.t 11), none⟩,
 ⟨some 13, .mov (.t 12), none⟩,
 ⟨some 14, .mov (.t 6), some (13, true)⟩,
 ⟨some 15, .mov (.t 1), some (13, true)⟩,
 ⟨some 16, .bin .lss (.t 14) (.t 15), some (13, true)⟩,
 ⟨some 17, .pick (.t 13) (.t 16) (.c (.bool false)), none⟩]
def F6u4 : List AIns := [⟨some 20, .mov (.t 0), none⟩,
 ⟨some 21, .mov (.t 6), none⟩,
 ⟨some 22, .iaddrS 1 (.t 20) (.t 21), none⟩,
 ⟨some 23, .load1 (.t 22), none⟩,
 ⟨some 7, .mov (.t 23), none⟩]
def F6u5 : List AIns := [⟨some 24, .mov (.t 7), none⟩,
 ⟨some 25, .bin .lss (.t 24) (.c (.int .u8 (97 : Nat))), none⟩,
 ⟨some 26, .mov (.t 25), none⟩,
 ⟨some 27, .mov (.t 7), some (26, false)⟩,
 ⟨some 28, .bin .gtr (.t 27) (.c (.int .u8 (100 : Nat))), some (26, false)⟩,
 ⟨some 29, .pick (.t 26) (.c (.bool true)) (.t 28), none⟩]
def F6u6 : List AIns := [⟨some 30, .mov (.t 7), none⟩,
 ⟨some 31, .bin .rem (.t 30) (.c (.int .u8 (4 : Nat))), none⟩,
 ⟨some 32, .bin .add (.c (.int .u8 (97 : Nat))) (.t 31), none⟩,
 ⟨some 7, .mov (.t 32), none⟩]
def F6u7 : List AIns := [⟨some 33, .mov (.t 5), none⟩,
 ⟨some 34, .mov (.t 7), none⟩,
 ⟨some 35, .bslice [(.int .u8 (0 : Nat))] 1 1 [(0, (.t 34))], none⟩,
 ⟨some 36, .app 1 1 (.t 33) (.t 35), none⟩,
 ⟨some 5, .mov (.t 36), none⟩]
def F6u8 : List AIns := [⟨some 18, .mov (.t 6), none⟩,
 ⟨some 19, .bin .add (.t 18) (.c (.int .i64 (1 : Nat))), none⟩,
 ⟨some 6, .mov (.t 19), none⟩]
def F6u9 : List AIns := [⟨some 37, .mov (.t 5), none⟩,
 ⟨some 4, .mov (.t 37), none⟩]
def F6 : AFunc := ⟨2, List.replicate 36 und, [.tmp 4],
 (.seq
 (.reg F6u0)
 (.seq
 (.reg F6u1)
 (.seq
 (.seq
 (.reg F6u2)
 (.block 0
 (.loop
 (.seq
 (.seq
 (.reg F6u3)
 (.cond (.t 17)
 .skip
 (.exit 0)))
 (.seq
 (.block 1
 (.seq
 (.reg F6u4)
 (.seq
 (.seq
 (.reg F6u5)
 (.cond (.t 29)
 (.reg F6u6)
 .skip))
 (.reg F6u7))))
 (.reg F6u8))))))
 (.seq
 (.reg F6u9)
 .ret))))⟩
/-! univocal/gateway.Forward -/
def F7u0 : List AIns := [⟨some 2, .box (.t 0), none⟩,
 ⟨some 4, .mov (.c .nils), none⟩,
 ⟨some 5, .mov (.c (.int .i64 (0 : Nat))), none⟩]
def F7u1 : List AIns := [⟨some 8, .loadN 3 (.t 2), none⟩,
 ⟨some 9, .call 19 [(.t 8)], none⟩,
 ⟨some 10, .un .not (.t 9), none⟩,
 ⟨some 11, .mov (.t 10), none⟩,
 ⟨some 12, .mov (.t 1), some (11, false)⟩,
 ⟨some 13, .len .sl (.t 12), some (11, false)⟩,
 ⟨some 14, .bin .gtr (.t 13) (.c (.int .i64 (4096 : Nat))), some (11, false)⟩,
 ⟨some 15, .pick (.t 11) (.c (.bool true)) (.t 14), none⟩]
def F7u2 : List AIns := [⟨some 4, .mov (.c .nils), none⟩,
 ⟨some 5, .mov (.c (.int .i64 (1 : Nat))), none⟩]
def F7u3 : List AIns := [⟨some 17, .loadN 3 (.t 2), none⟩,
 ⟨some 18, .mov (.t 1), none⟩,
 ⟨some 19, .call 20 [(.t 17), (.t 18)], none⟩,
 ⟨some 16, .mov (.t 19), none⟩,
 ⟨some 20, .ext 0 (.t 16), none⟩,
 ⟨some 21, .ext 1 (.t 16), none⟩,
 ⟨some 6, .mov (.t 20), none⟩,
 ⟨some 7, .mov (.t 21), none⟩]
def F7u4 : List AIns := [⟨some 22, .mov (.t 7), none⟩,
 ⟨some 23, .un .not (.t 22), none⟩]
def F7u5 : List AIns := [⟨some 4, .mov (.c .nils), none⟩,
 ⟨some 5, .mov (.c (.int .i64 (3 : Nat))), none⟩]
def F7u6 : List AIns := [⟨some 24, .mov (.t 6), none⟩,
 ⟨some 4, .mov (.t 24), none⟩,
 ⟨some 5, .mov (.c (.int .i64 (0 : Nat))), none⟩]
def F7 : AFunc := ⟨2, List.replicate 23 und, [.tmp 4, .tmp 5],
 (.seq
 (.reg F7u0)
 (.seq
 (.seq
 (.reg F7u1)
 (.cond (.t 15)
 (.seq
 (.reg F7u2)
 .ret)
 .skip))
 (.seq
 (.reg F7u3)
 (.seq
 (.seq
 (.reg F7u4)
 (.cond (.t 23)
 (.seq
 (.reg F7u5)
 .ret)
 .skip))
 (.seq
 (.reg F7u6)
 .ret)))))⟩
/-! univocal/univocalref33.Forward -/
def F8u0 : List AIns := [⟨some 2, .box (.t 0), none⟩,
 ⟨some 4, .mov (.c .nils), none⟩,
 ⟨some 5, .mov (.c (.int .i64 (0 : Nat))), none⟩]
def F8u1 : List AIns := [⟨some 8, .loadN 3 (.t 2), none⟩,
 ⟨some 9, .call 21 [(.t 8)], none⟩,
 ⟨some 10, .un .not (.t 9), none⟩,
 ⟨some 11, .mov (.t 10), none⟩,
 ⟨some 12, .mov (.t 1), some (11, false)⟩,
 ⟨some 13, .len .sl (.t 12), some (11, false)⟩,
 ⟨some 14, .bin .gtr (.t 13) (.c (.int .i64 (4096 : Nat))), some (11, false)⟩,
 ⟨some 15, .pick (.t 11) (.c (.bool true)) (.t 14), none⟩]
def F8u2 : List AIns := [⟨some 4, .mov (.c .nils), none⟩,
 ⟨some 5, .mov (.c (.int .i64 (1 : Nat))), none⟩]
def F8u3 : List AIns := [⟨some 17, .loadN 3 (.t 2), none⟩,
 ⟨some 18, .mov (.t 1), none⟩,
 ⟨some 19, .call 22 [(.t 17), (.t 18)], none⟩,
 ⟨some 16, .mov (.t 19), none⟩,
 ⟨some 20, .ext 0 (.t 16), none⟩,
 ⟨some 21, .ext 1 (.t 16), none⟩,
 ⟨some 6, .mov (.t 20), none⟩,
 ⟨some 7, .mov (.t 21), none⟩]
def F8u4 : List AIns := [⟨some 22, .mov (.t 7), none⟩,
 ⟨some 23, .un .not (.t 22), none⟩]
def F8u5 : List AIns := [⟨some 4, .mov (.c .nils), none⟩,
 ⟨some 5, .mov (.c (.int .i64 (3 : Nat))), none⟩]
def F8u6 : List AIns := [⟨some 24, .mov (.t 6), none⟩,
 ⟨some 4, .mov (.t 24), none⟩,
 ⟨some 5, .mov (.c (.int .i64 (0 : Nat))), none⟩]
def F8 : AFunc := ⟨2, List.replicate 23 und, [.tmp 4, .tmp 5],
 (.seq
 (.reg F8u0)
 (.seq
 (.seq
 (.reg F8u1)
 (.cond (.t 15)
 (.seq
 (.reg F8u2)
 .ret)
 .skip))
 (.seq
 (.reg F8u3)
 (.seq
 (.seq
 (.reg F8u4)
 (.cond (.t 23)
 (.seq
 (.reg F8u5)
 .ret)
 .skip))
 (.seq
 (.reg F8u6)
 .ret)))))⟩
/-! univocal/univocalref33.letters -/
def F18u0 : List AIns := [⟨some 0, .mov (.c .nils), none⟩]
def F18u1 : List AIns := [⟨some 4, .mksl [(.int .u64 (0 : Nat)), (.int .u64 (0 : Nat)), (.int .u64 (0 : Nat)), (.int .u64 (0 : Nat))] 32 (.c (.int .i64 (3 : Nat))) (.c (.int .i64 (3 : Nat))), none⟩,
 ⟨some 1, .mov (.t 4), none⟩]
def F18u2 : List AIns := [⟨some 2, .mov (.c (.int .i64 (0 : Nat))), none⟩]
def F18u3 : List AIns := [⟨some 5, .mov (.t 2), none⟩,
 ⟨some 6, .bin .lss (.t 5) (.c (.int .i64 (256 : Nat))), none⟩]
def F18u4 : List AIns := [⟨some 3, .mov (.c (.int .i64 (2 : Nat))), none⟩]
def F18u5 : List AIns := [⟨some 9, .mov (.t 2), none⟩,
 ⟨some 10, .bin .eql (.t 9) (.c (.int .i64 (97 : Nat))), none⟩,
 ⟨some 11, .mov (.t 10), none⟩,
 ⟨some 12, .mov (.t 2), some (11, false)⟩,
 ⟨some 13, .bin .eql (.t 12) (.c (.int .i64 (98 : Nat))), some (11, false)⟩,
 ⟨some 14, .pick (.t 11) (.c (.bool true)) (.t 13), none⟩]
def F18u6 : List AIns := [⟨some 15, .mov (.t 2), none⟩,
 ⟨some 16, .bin .sub (.t 15) (.c (.int .i64 (97 : Nat))), none⟩,
 ⟨some 3, .mov (.t 16), none⟩]
def F18u7 : List AIns := [⟨some 7, .mov (.t 2), none⟩,
 ⟨some 8, .bin .add (.t 7) (.c (.int .i64 (1 : Nat))), none⟩,
 ⟨some 2, .mov (.t 8), none⟩]
def F18u8 : List AIns := [⟨some 34, .mov (.t 1), none⟩,
 ⟨some 0, .mov (.t 34), none⟩]
def F18u9 : List AIns := [⟨some 17, .mov (.t 1), none⟩,
 ⟨some 18, .mov (.t 3), none⟩,
 ⟨some 19, .mov (.t 2), none⟩,
 ⟨some 20, .bin .quo (.t 19) (.c (.int .i64 (64 : Nat))), none⟩,
 ⟨some 21, .mov (.t 1), none⟩,
 ⟨some 22, .mov (.t 3), none⟩,
 ⟨some 23, .mov (.t 2), none⟩,
 ⟨some 24, .bin .quo (.t 23) (.c (.int .i64 (64 : Nat))), none⟩,
 ⟨some 25, .iaddrS 4 (.t 21) (.t 22), none⟩,
 ⟨some 26, .iaddrA 1 4 (.t 25) (.t 24), none⟩,
 ⟨some 27, .load1 (.t 26), none⟩,
 ⟨some 28, .mov (.t 2), none⟩,
 ⟨some 29, .bin .rem (.t 28) (.c (.int .i64 (64 : Nat))), none⟩,
 ⟨some 30, .bin .shl (.c (.int .u64 (1 : Nat))) (.t 29), none⟩,
 ⟨some 31, .bin .or (.t 27) (.t 30), none⟩,
 ⟨some 32, .iaddrS 4 (.t 17) (.t 18), none⟩,
 ⟨some 33, .iaddrA 1 4 (.t 32) (.t 20), none⟩,
 ⟨none, .store 1 (.t 33) (.t 31), none⟩]
def F18u9p : List IPh := [⟨[.one 0, .one 1, .one 2, .one 3, .one 4, .one 5, .one 6, .one 7, .one 8, .one 9, .one 10, .one 11, .one 12, .one 13, .one 14, .one 15, .one 16], [], some 17⟩,
 ⟨[], [], none⟩]
def F18 : AFunc := ⟨0, List.replicate 35 und, [.tmp 0],
 (.seq
 (.reg F18u0)
 (.seq
 (.reg F18u1)
 (.seq
 (.seq
 (.reg F18u2)
 (.block 0
 (.loop
 (.seq
 (.seq
 (.reg F18u3)
 (.cond (.t 6)
 .skip
 (.exit 0)))
 (.seq
 (.block 1
 (.seq
 (.reg F18u4)
 (.seq
 (.seq
 (.reg F18u5)
 (.cond (.t 14)
 (.reg F18u6)
 .skip))
 (.dreg 0 F18u9 F18u9p))))
 (.reg F18u7))))))
 (.seq
 (.reg F18u8)
 .ret))))⟩
/-! univocal/normal.Valid -/
def F19u0 : List AIns := [⟨some 1, .box (.t 0), none⟩,
 ⟨some 2, .mov (.c (.bool false)), none⟩]
def F19u1 : List AIns := [⟨some 9, .faddr 0 (.t 1), none⟩,
 ⟨some 10, .load1 (.t 9), none⟩,
 ⟨some 11, .len .sl (.t 10), none⟩,
 ⟨some 12, .bin .gtr (.t 11) (.c (.int .i64 (256 : Nat))), none⟩,
 ⟨some 13, .mov (.t 12), none⟩,
 ⟨some 14, .faddr 1 (.t 1), some (13, false)⟩,
 ⟨some 15, .load1 (.t 14), some (13, false)⟩,
 ⟨some 16, .len .sl (.t 15), some (13, false)⟩,
 ⟨some 17, .bin .lss (.t 16) (.c (.int .i64 (1 : Nat))), some (13, false)⟩,
 ⟨some 18, .pick (.t 13) (.c (.bool true)) (.t 17), none⟩,
 ⟨some 19, .mov (.t 18), none⟩,
 ⟨some 20, .faddr 1 (.t 1), some (19, false)⟩,
 ⟨some 21, .load1 (.t 20), some (19, false)⟩,
 ⟨some 22, .len .sl (.t 21), some (19, false)⟩,
 ⟨some 23, .bin .gtr (.t 22) (.c (.int .i64 (64 : Nat))), some (19, false)⟩,
 ⟨some 24, .pick (.t 19) (.c (.bool true)) (.t 23), none⟩,
 ⟨some 25, .mov (.t 24), none⟩,
 ⟨some 26, .faddr 2 (.t 1), some (25, false)⟩,
 ⟨some 27, .load1 (.t 26), some (25, false)⟩,
 ⟨some 28, .len .sl (.t 27), some (25, false)⟩,
 ⟨some 29, .faddr 1 (.t 1), some (25, false)⟩,
 ⟨some 30, .load1 (.t 29), some (25, false)⟩,
 ⟨some 31, .len .sl (.t 30), some (25, false)⟩,
 ⟨some 32, .bin .neq (.t 28) (.t 31), some (25, false)⟩,
 ⟨some 33, .pick (.t 25) (.c (.bool true)) (.t 32), none⟩]
def F19u2 : List AIns := [⟨some 2, .mov (.c (.bool false)), none⟩]
def F19u3 : List AIns := [⟨some 3, .alloc [(.int .u64 (0 : Nat)), (.int .u64 (0 : Nat)), (.int .u64 (0 : Nat)), (.int .u64 (0 : Nat))], none⟩]
def F19u4 : List AIns := [⟨some 4, .mov (.c (.int .i64 (0 : Nat))), none⟩]
def F19u5 : List AIns := [⟨some 34, .faddr 0 (.t 1), none⟩,
 ⟨some 35, .load1 (.t 34), none⟩,
 ⟨some 36, .len .sl (.t 35), none⟩,
 ⟨some 37, .mov (.c (.int .i64 (0 : Nat))), none⟩]
def F19u6 : List AIns := [⟨some 38, .bin .lss (.t 37) (.t 36), none⟩]
def F19u7 : List AIns := [⟨some 39, .iaddrS 4 (.t 35) (.t 37), none⟩,
 ⟨some 40, .loadN 4 (.t 39), none⟩,
 ⟨some 6, .alloc [(.int .u64 (0 : Nat)), (.int .u64 (0 : Nat)), (.int .u64 (0 : Nat)), (.int .u64 (0 : Nat))], none⟩,
 ⟨none, .store 4 (.t 6) (.t 40), none⟩]
def F19u8 : List AIns := [⟨some 41, .loadN 4 (.t 6), none⟩,
 ⟨some 42, .call 35 [(.t 41)], none⟩,
 ⟨some 43, .bin .eql (.t 42) (.c (.int .i64 (0 : Nat))), none⟩]
def F19u9 : List AIns := [⟨some 2, .mov (.c (.bool false)), none⟩]
def F19u10 : List AIns := [⟨some 44, .loadN 4 (.t 3), none⟩,
 ⟨some 45, .loadN 4 (.t 6), none⟩,
 ⟨some 46, .call 36 [(.t 44), (.t 45)], none⟩,
 ⟨none, .store 4 (.t 3) (.t 46), none⟩]
def F19u11 : List AIns := [⟨some 47, .mov (.t 4), none⟩,
 ⟨some 48, .loadN 4 (.t 6), none⟩,
 ⟨some 49, .call 35 [(.t 48)], none⟩,
 ⟨some 50, .bin .add (.t 47) (.t 49), none⟩,
 ⟨some 4, .mov (.t 50), none⟩]
def F19u12 : List AIns := [⟨some 51, .bin .add (.t 37) (.c (.int .i64 (1 : Nat))), none⟩,
 ⟨some 37, .mov (.t 51), none⟩]
def F19u13 : List AIns := [⟨some 52, .mov (.t 4), none⟩,
 ⟨some 53, .bin .neq (.t 52) (.c (.int .i64 (256 : Nat))), none⟩,
 ⟨some 54, .mov (.t 53), none⟩,
 ⟨some 55, .loadN 4 (.t 3), some (54, false)⟩,
 ⟨some 56, .call 35 [(.t 55)], some (54, false)⟩,
 ⟨some 57, .bin .neq (.t 56) (.c (.int .i64 (256 : Nat))), some (54, false)⟩,
 ⟨some 58, .pick (.t 54) (.c (.bool true)) (.t 57), none⟩]
def F19u14 : List AIns := [⟨some 2, .mov (.c (.bool false)), none⟩]
def F19u15 : List AIns := [⟨some 59, .faddr 1 (.t 1), none⟩,
 ⟨some 60, .load1 (.t 59), none⟩,
 ⟨some 61, .len .sl (.t 60), none⟩,
 ⟨some 62, .mov (.c (.int .i64 (0 : Nat))), none⟩]
def F19u16 : List AIns := [⟨some 63, .bin .lss (.t 62) (.t 61), none⟩]
def F19u17 : List AIns := [⟨some 64, .iaddrS 1 (.t 60) (.t 62), none⟩,
 ⟨some 65, .load1 (.t 64), none⟩,
 ⟨some 8, .mov (.t 65), none⟩]
def F19u18 : List AIns := [⟨some 66, .mov (.t 8), none⟩,
 ⟨some 67, .len .sl (.t 66), none⟩,
 ⟨some 68, .faddr 0 (.t 1), none⟩,
 ⟨some 69, .load1 (.t 68), none⟩,
 ⟨some 70, .len .sl (.t 69), none⟩,
 ⟨some 71, .bin .neq (.t 67) (.t 70), none⟩,
 ⟨some 72, .mov (.t 71), none⟩,
 ⟨some 73, .mov (.t 8), some (72, false)⟩,
 ⟨some 74, .mkf (.func 38) [] [(.t 1)], some (72, false)⟩,
 ⟨some 75, .call 37 [(.t 73), (.t 74)], some (72, false)⟩,
 ⟨some 76, .pick (.t 72) (.c (.bool true)) (.t 75), none⟩]
def F19u19 : List AIns := [⟨some 2, .mov (.c (.bool false)), none⟩]
def F19u20 : List AIns := [⟨some 77, .bin .add (.t 62) (.c (.int .i64 (1 : Nat))), none⟩,
 ⟨some 62, .mov (.t 77), none⟩]
def F19u21 : List AIns := [⟨some 2, .mov (.c (.bool true)), none⟩]
def F19 : AFunc := ⟨1, List.replicate 77 und, [.tmp 2],
 (.seq
 (.reg F19u0)
 (.seq
 (.seq
 (.reg F19u1)
 (.cond (.t 33)
 (.seq
 (.reg F19u2)
 .ret)
 .skip))
 (.seq
 (.reg F19u3)
 (.seq
 (.reg F19u4)
 (.seq
 (.seq
 (.reg F19u5)
 (.block 0
 (.loop
 (.seq
 (.reg F19u6)
 (.seq
 (.cond (.t 38)
 .skip
 (.exit 0))
 (.seq
 (.block 1
 (.seq
 (.reg F19u7)
 (.seq
 (.seq
 (.reg F19u8)
 (.cond (.t 43)
 (.seq
 (.reg F19u9)
 .ret)
 .skip))
 (.seq
 (.reg F19u10)
 (.reg F19u11)))))
 (.reg F19u12)))))))
 (.seq
 (.seq
 (.reg F19u13)
 (.cond (.t 58)
 (.seq
 (.reg F19u14)
 .ret)
 .skip))
 (.seq
 (.seq
 (.reg F19u15)
 (.block 2
 (.loop
 (.seq
 (.reg F19u16)
 (.seq
 (.cond (.t 63)
 .skip
 (.exit 2))
 (.seq
 (.block 3
 (.seq
 (.reg F19u17)
 (.seq
 (.reg F19u18)
 (.cond (.t 76)
 (.seq
 (.reg F19u19)
 .ret)
 .skip))))
 (.reg F19u20)))))))
 (.seq
 (.reg F19u21)
 .ret))))))))⟩
/-! univocal/normal.Run -/
def F20u0 : List AIns := [⟨some 2, .box (.t 0), none⟩,
 ⟨some 4, .mov (.c .nils), none⟩,
 ⟨some 5, .mov (.c (.bool false)), none⟩]
def F20u1 : List AIns := [⟨some 9, .loadN 3 (.t 2), none⟩,
 ⟨some 10, .build [(.int .i64 (0 : Nat)), (.bool false)] [], none⟩,
 ⟨some 11, .mov (.t 1), none⟩,
 ⟨some 12, .call 39 [(.t 9), (.t 10), (.t 11)], none⟩,
 ⟨some 8, .mov (.t 12), none⟩,
 ⟨some 13, .ext 0 (.t 8), none⟩,
 ⟨some 14, .ext 1 (.t 8), none⟩,
 ⟨some 6, .alloc [(.int .i64 (0 : Nat)), (.bool false)], none⟩,
 ⟨none, .store 2 (.t 6) (.t 13), none⟩,
 ⟨some 7, .mov (.t 14), none⟩]
def F20u2 : List AIns := [⟨some 15, .loadN 3 (.t 2), none⟩,
 ⟨some 16, .loadN 2 (.t 6), none⟩,
 ⟨some 17, .call 40 [(.t 15), (.t 16)], none⟩,
 ⟨some 18, .un .not (.t 17), none⟩]
def F20u3 : List AIns := [⟨some 4, .mov (.c .nils), none⟩,
 ⟨some 5, .mov (.c (.bool false)), none⟩]
def F20u4 : List AIns := [⟨some 19, .mov (.t 7), none⟩,
 ⟨some 4, .mov (.t 19), none⟩,
 ⟨some 5, .mov (.c (.bool true)), none⟩]
def F20 : AFunc := ⟨2, List.replicate 18 und, [.tmp 4, .tmp 5],
 (.seq
 (.reg F20u0)
 (.seq
 (.reg F20u1)
 (.seq
 (.seq
 (.reg F20u2)
 (.cond (.t 18)
 (.seq
 (.reg F20u3)
 .ret)
 .skip))
 (.seq
 (.reg F20u4)
 .ret))))⟩
/-! univocal/univocalref25.Valid -/
def F21u0 : List AIns := [⟨some 1, .box (.t 0), none⟩,
 ⟨some 2, .mov (.c (.bool false)), none⟩]
def F21u1 : List AIns := [⟨some 6, .faddr 0 (.t 1), none⟩,
 ⟨some 7, .load1 (.t 6), none⟩,
 ⟨some 8, .len .sl (.t 7), none⟩,
 ⟨some 9, .bin .gtr (.t 8) (.c (.int .i64 (256 : Nat))), none⟩,
 ⟨some 10, .mov (.t 9), none⟩,
 ⟨some 11, .faddr 0 (.t 1), some (10, false)⟩,
 ⟨some 12, .load1 (.t 11), some (10, false)⟩,
 ⟨some 13, .call 41 [(.t 12)], some (10, false)⟩,
 ⟨some 14, .un .not (.t 13), some (10, false)⟩,
 ⟨some 15, .pick (.t 10) (.c (.bool true)) (.t 14), none⟩,
 ⟨some 16, .mov (.t 15), none⟩,
 ⟨some 17, .faddr 1 (.t 1), some (16, false)⟩,
 ⟨some 18, .load1 (.t 17), some (16, false)⟩,
 ⟨some 19, .len .sl (.t 18), some (16, false)⟩,
 ⟨some 20, .bin .lss (.t 19) (.c (.int .i64 (1 : Nat))), some (16, false)⟩,
 ⟨some 21, .pick (.t 16) (.c (.bool true)) (.t 20), none⟩,
 ⟨some 22, .mov (.t 21), none⟩,
 ⟨some 23, .faddr 1 (.t 1), some (22, false)⟩,
 ⟨some 24, .load1 (.t 23), some (22, false)⟩,
 ⟨some 25, .len .sl (.t 24), some (22, false)⟩,
 ⟨some 26, .bin .gtr (.t 25) (.c (.int .i64 (64 : Nat))), some (22, false)⟩,
 ⟨some 27, .pick (.t 22) (.c (.bool true)) (.t 26), none⟩,
 ⟨some 28, .mov (.t 27), none⟩,
 ⟨some 29, .faddr 2 (.t 1), some (28, false)⟩,
 ⟨some 30, .load1 (.t 29), some (28, false)⟩,
 ⟨some 31, .len .sl (.t 30), some (28, false)⟩,
 ⟨some 32, .faddr 1 (.t 1), some (28, false)⟩,
 ⟨some 33, .load1 (.t 32), some (28, false)⟩,
 ⟨some 34, .len .sl (.t 33), some (28, false)⟩,
 ⟨some 35, .bin .neq (.t 31) (.t 34), some (28, false)⟩,
 ⟨some 36, .pick (.t 28) (.c (.bool true)) (.t 35), none⟩]
def F21u2 : List AIns := [⟨some 2, .mov (.c (.bool false)), none⟩]
def F21u3 : List AIns := [⟨some 3, .mov (.c (.int .i64 (0 : Nat))), none⟩]
def F21u4 : List AIns := [⟨some 37, .mov (.t 3), none⟩,
 ⟨some 38, .faddr 1 (.t 1), none⟩,
 ⟨some 39, .load1 (.t 38), none⟩,
 ⟨some 40, .len .sl (.t 39), none⟩,
 ⟨some 41, .bin .lss (.t 37) (.t 40), none⟩]
def F21u5 : List AIns := [⟨some 2, .mov (.c (.bool false)), none⟩]
def F21u6 : List AIns := [⟨some 4, .mov (.c (.int .i64 (0 : Nat))), none⟩]
def F21u7 : List AIns := [⟨some 54, .mov (.t 4), none⟩,
 ⟨some 55, .faddr 1 (.t 1), none⟩,
 ⟨some 56, .load1 (.t 55), none⟩,
 ⟨some 57, .mov (.t 3), none⟩,
 ⟨some 58, .iaddrS 1 (.t 56) (.t 57), none⟩,
 ⟨some 59, .load1 (.t 58), none⟩,
 ⟨some 60, .len .sl (.t 59), none⟩,
 ⟨some 61, .bin .lss (.t 54) (.t 60), none⟩]
def F21u8 : List AIns := [⟨some 64, .faddr 1 (.t 1), none⟩,
 ⟨some 65, .load1 (.t 64), none⟩,
 ⟨some 66, .mov (.t 3), none⟩,
 ⟨some 67, .iaddrS 1 (.t 65) (.t 66), none⟩,
 ⟨some 68, .load1 (.t 67), none⟩,
 ⟨some 69, .mov (.t 4), none⟩,
 ⟨some 70, .iaddrS 3 (.t 68) (.t 69), none⟩,
 ⟨some 71, .loadN 3 (.t 70), none⟩,
 ⟨some 5, .alloc [(.int .i64 (0 : Nat)), (.int .i64 (0 : Nat)), (.int .u8 (0 : Nat))], none⟩,
 ⟨none, .store 3 (.t 5) (.t 71), none⟩]
def F21u9 : List AIns := [⟨some 72, .faddr 0 (.t 5), none⟩,
 ⟨some 73, .load1 (.t 72), none⟩,
 ⟨some 74, .bin .lss (.t 73) (.c (.int .i64 (0 : Nat))), none⟩,
 ⟨some 75, .mov (.t 74), none⟩,
 ⟨some 76, .faddr 0 (.t 5), some (75, false)⟩,
 ⟨some 77, .load1 (.t 76), some (75, false)⟩,
 ⟨some 78, .faddr 1 (.t 1), some (75, false)⟩,
 ⟨some 79, .load1 (.t 78), some (75, false)⟩,
 ⟨some 80, .len .sl (.t 79), some (75, false)⟩,
 ⟨some 81, .bin .geq (.t 77) (.t 80), some (75, false)⟩,
 ⟨some 82, .pick (.t 75) (.c (.bool true)) (.t 81), none⟩,
 ⟨some 83, .mov (.t 82), none⟩,
 ⟨some 84, .faddr 1 (.t 5), some (83, false)⟩,
 ⟨some 85, .load1 (.t 84), some (83, false)⟩,
 ⟨some 86, .bin .lss (.t 85) (.c (.int .i64 (0 : Nat))), some (83, false)⟩,
 ⟨some 87, .pick (.t 83) (.c (.bool true)) (.t 86), none⟩,
 ⟨some 88, .mov (.t 87), none⟩,
 ⟨some 89, .faddr 1 (.t 5), some (88, false)⟩,
 ⟨some 90, .load1 (.t 89), some (88, false)⟩,
 ⟨some 91, .bin .gtr (.t 90) (.c (.int .i64 (3 : Nat))), some (88, false)⟩,
 ⟨some 92, .pick (.t 88) (.c (.bool true)) (.t 91), none⟩,
 ⟨some 93, .mov (.t 92), none⟩,
 ⟨some 94, .faddr 1 (.t 5), some (93, false)⟩,
 ⟨some 95, .load1 (.t 94), some (93, false)⟩,
 ⟨some 96, .bin .neq (.t 95) (.c (.int .i64 (2 : Nat))), some (93, false)⟩,
 ⟨some 97, .mov (.t 96), some (93, false)⟩,
 ⟨some 98, .faddr 2 (.t 5), some (97, true)⟩,
 ⟨some 99, .load1 (.t 98), some (97, true)⟩,
 ⟨some 100, .bin .neq (.t 99) (.c (.int .u8 (0 : Nat))), some (97, true)⟩,
 ⟨some 101, .pick (.t 97) (.t 100) (.c (.bool false)), some (93, false)⟩,
 ⟨some 102, .pick (.t 93) (.c (.bool true)) (.t 101), none⟩]
def F21u10 : List AIns := [⟨some 2, .mov (.c (.bool false)), none⟩]
def F21u11 : List AIns := [⟨some 62, .mov (.t 4), none⟩,
 ⟨some 63, .bin .add (.t 62) (.c (.int .i64 (1 : Nat))), none⟩,
 ⟨some 4, .mov (.t 63), none⟩]
def F21u12 : List AIns := [⟨some 42, .mov (.t 3), none⟩,
 ⟨some 43, .bin .add (.t 42) (.c (.int .i64 (1 : Nat))), none⟩,
 ⟨some 3, .mov (.t 43), none⟩]
def F21u13 : List AIns := [⟨some 2, .mov (.c (.bool true)), none⟩]
def F21u14 : List AIns := [⟨some 44, .faddr 1 (.t 1), none⟩,
 ⟨some 45, .load1 (.t 44), none⟩,
 ⟨some 46, .mov (.t 3), none⟩,
 ⟨some 47, .iaddrS 1 (.t 45) (.t 46), none⟩,
 ⟨some 48, .load1 (.t 47), none⟩,
 ⟨some 49, .len .sl (.t 48), none⟩,
 ⟨some 50, .faddr 0 (.t 1), none⟩,
 ⟨some 51, .load1 (.t 50), none⟩,
 ⟨some 52, .len .sl (.t 51), none⟩,
 ⟨some 53, .bin .neq (.t 49) (.t 52), none⟩]
def F21u14p : List IPh := [⟨[.one 0, .one 1, .one 2, .one 3, .one 4, .one 5, .one 6, .one 7, .one 8, .one 9], [], none⟩]
def F21 : AFunc := ⟨1, List.replicate 102 und, [.tmp 2],
 (.seq
 (.reg F21u0)
 (.seq
 (.seq
 (.reg F21u1)
 (.cond (.t 36)
 (.seq
 (.reg F21u2)
 .ret)
 .skip))
 (.seq
 (.seq
 (.reg F21u3)
 (.block 0
 (.loop
 (.seq
 (.seq
 (.reg F21u4)
 (.cond (.t 41)
 .skip
 (.exit 0)))
 (.seq
 (.block 1
 (.seq
 (.seq
 (.dreg 0 F21u14 F21u14p)
 (.cond (.t 53)
 (.seq
 (.reg F21u5)
 .ret)
 .skip))
 (.seq
 (.reg F21u6)
 (.block 2
 (.loop
 (.seq
 (.seq
 (.reg F21u7)
 (.cond (.t 61)
 .skip
 (.exit 2)))
 (.seq
 (.block 3
 (.seq
 (.reg F21u8)
 (.seq
 (.reg F21u9)
 (.cond (.t 102)
 (.seq
 (.reg F21u10)
 .ret)
 .skip))))
 (.reg F21u11))))))))
 (.reg F21u12))))))
 (.seq
 (.reg F21u13)
 .ret))))⟩
/-! univocal/univocalref25.Run -/
def F22u0 : List AIns := [⟨some 2, .box (.t 0), none⟩,
 ⟨some 4, .mov (.c .nils), none⟩,
 ⟨some 5, .mov (.c (.bool false)), none⟩]
def F22u1 : List AIns := [⟨some 9, .loadN 3 (.t 2), none⟩,
 ⟨some 10, .build [(.int .i64 (0 : Nat)), (.bool false)] [], none⟩,
 ⟨some 11, .mov (.t 1), none⟩,
 ⟨some 12, .call 42 [(.t 9), (.t 10), (.t 11)], none⟩,
 ⟨some 8, .mov (.t 12), none⟩,
 ⟨some 13, .ext 0 (.t 8), none⟩,
 ⟨some 14, .ext 1 (.t 8), none⟩,
 ⟨some 6, .alloc [(.int .i64 (0 : Nat)), (.bool false)], none⟩,
 ⟨none, .store 2 (.t 6) (.t 13), none⟩,
 ⟨some 7, .mov (.t 14), none⟩]
def F22u2 : List AIns := [⟨some 15, .loadN 3 (.t 2), none⟩,
 ⟨some 16, .loadN 2 (.t 6), none⟩,
 ⟨some 17, .call 43 [(.t 15), (.t 16)], none⟩,
 ⟨some 18, .un .not (.t 17), none⟩]
def F22u3 : List AIns := [⟨some 4, .mov (.c .nils), none⟩,
 ⟨some 5, .mov (.c (.bool false)), none⟩]
def F22u4 : List AIns := [⟨some 19, .mov (.t 7), none⟩,
 ⟨some 4, .mov (.t 19), none⟩,
 ⟨some 5, .mov (.c (.bool true)), none⟩]
def F22 : AFunc := ⟨2, List.replicate 18 und, [.tmp 4, .tmp 5],
 (.seq
 (.reg F22u0)
 (.seq
 (.reg F22u1)
 (.seq
 (.seq
 (.reg F22u2)
 (.cond (.t 18)
 (.seq
 (.reg F22u3)
 .ret)
 .skip))
 (.seq
 (.reg F22u4)
 .ret))))⟩
/-! univocal/class.Size -/
def F35u0 : List AIns := [⟨some 1, .box (.t 0), none⟩,
 ⟨some 2, .mov (.c (.int .i64 (0 : Nat))), none⟩]
def F35u1 : List AIns := [⟨some 3, .mov (.c (.int .i64 (0 : Nat))), none⟩]
def F35u2 : List AIns := [⟨some 6, .loadN 4 (.t 1), none⟩,
 ⟨some 7, .mov (.c (.int .i64 (0 : Nat))), none⟩]
def F35u3 : List AIns := [⟨some 8, .bin .lss (.t 7) (.c (.int .i64 (4 : Nat))), none⟩]
def F35u4 : List AIns := [⟨some 9, .idxA 1 4 false (.t 6) (.t 7), none⟩,
 ⟨some 5, .mov (.t 9), none⟩]
def F35u5 : List AIns := [⟨some 10, .mov (.t 3), none⟩,
 ⟨some 11, .mov (.t 5), none⟩,
 ⟨some 12, .call 63 [(.t 11)], none⟩,
 ⟨some 13, .bin .add (.t 10) (.t 12), none⟩,
 ⟨some 3, .mov (.t 13), none⟩]
def F35u6 : List AIns := [⟨some 14, .bin .add (.t 7) (.c (.int .i64 (1 : Nat))), none⟩,
 ⟨some 7, .mov (.t 14), none⟩]
def F35u7 : List AIns := [⟨some 15, .mov (.t 3), none⟩,
 ⟨some 2, .mov (.t 15), none⟩]
def F35 : AFunc := ⟨1, List.replicate 15 und, [.tmp 2],
 (.seq
 (.reg F35u0)
 (.seq
 (.reg F35u1)
 (.seq
 (.seq
 (.reg F35u2)
 (.block 0
 (.loop
 (.seq
 (.reg F35u3)
 (.seq
 (.cond (.t 8)
 .skip
 (.exit 0))
 (.seq
 (.block 1
 (.seq
 (.reg F35u4)
 (.reg F35u5)))
 (.reg F35u6)))))))
 (.seq
 (.reg F35u7)
 .ret))))⟩
/-! univocal/class.Union -/
def F36u0 : List AIns := [⟨some 2, .box (.t 0), none⟩,
 ⟨some 3, .box (.t 1), none⟩,
 ⟨some 4, .alloc [(.int .u64 (0 : Nat)), (.int .u64 (0 : Nat)), (.int .u64 (0 : Nat)), (.int .u64 (0 : Nat))], none⟩]
def F36u1 : List AIns := [⟨some 5, .loadN 4 (.t 2), none⟩,
 ⟨some 6, .loadN 4 (.t 3), none⟩,
 ⟨some 7, .call 64 [(.t 5), (.t 6), (.c (.fn (.func 65) [] []))], none⟩,
 ⟨none, .store 4 (.t 4) (.t 7), none⟩]
def F36 : AFunc := ⟨2, List.replicate 6 und, [.cell 4 (some 4)],
 (.seq
 (.reg F36u0)
 (.seq
 (.reg F36u1)
 .ret))⟩
/-! slices.ContainsFunc[[]univocal/api.Cell,univocal/api.Cell] -/
def F37u0 : List AIns := [⟨some 4, .mov (.c (.bool false)), none⟩]
def F37u1 : List AIns := [⟨some 5, .mov (.t 0), none⟩,
 ⟨some 6, .mov (.t 1), none⟩,
 ⟨some 7, .call 66 [(.t 5), (.t 6)], none⟩,
 ⟨some 8, .bin .geq (.t 7) (.c (.int .i64 (0 : Nat))), none⟩,
 ⟨some 4, .mov (.t 8), none⟩]
def F37 : AFunc := ⟨2, List.replicate 7 und, [.tmp 4],
 (.seq
 (.reg F37u0)
 (.seq
 (.reg F37u1)
 .ret))⟩
/-! univocal/normal.Valid$1 -/
def F38u0 : List AIns := [⟨some 2, .box (.t 0), none⟩,
 ⟨some 3, .mov (.c (.bool false)), none⟩]
def F38u1 : List AIns := [⟨some 4, .faddr 0 (.t 2), none⟩,
 ⟨some 5, .load1 (.t 4), none⟩,
 ⟨some 6, .bin .lss (.t 5) (.c (.int .i64 (0 : Nat))), none⟩,
 ⟨some 7, .mov (.t 6), none⟩,
 ⟨some 8, .faddr 0 (.t 2), some (7, false)⟩,
 ⟨some 9, .load1 (.t 8), some (7, false)⟩,
 ⟨some 10, .faddr 1 (.t 1), some (7, false)⟩,
 ⟨some 11, .load1 (.t 10), some (7, false)⟩,
 ⟨some 12, .len .sl (.t 11), some (7, false)⟩,
 ⟨some 13, .bin .geq (.t 9) (.t 12), some (7, false)⟩,
 ⟨some 14, .pick (.t 7) (.c (.bool true)) (.t 13), none⟩,
 ⟨some 15, .mov (.t 14), none⟩,
 ⟨some 16, .faddr 1 (.t 2), some (15, false)⟩,
 ⟨some 17, .load1 (.t 16), some (15, false)⟩,
 ⟨some 18, .bin .lss (.t 17) (.c (.int .i64 (0 : Nat))), some (15, false)⟩,
 ⟨some 19, .pick (.t 15) (.c (.bool true)) (.t 18), none⟩,
 ⟨some 20, .mov (.t 19), none⟩,
 ⟨some 21, .faddr 1 (.t 2), some (20, false)⟩,
 ⟨some 22, .load1 (.t 21), some (20, false)⟩,
 ⟨some 23, .bin .gtr (.t 22) (.c (.int .i64 (3 : Nat))), some (20, false)⟩,
 ⟨some 24, .pick (.t 20) (.c (.bool true)) (.t 23), none⟩,
 ⟨some 25, .mov (.t 24), none⟩,
 ⟨some 26, .faddr 1 (.t 2), some (25, false)⟩,
 ⟨some 27, .load1 (.t 26), some (25, false)⟩,
 ⟨some 28, .bin .neq (.t 27) (.c (.int .i64 (2 : Nat))), some (25, false)⟩,
 ⟨some 29, .mov (.t 28), some (25, false)⟩,
 ⟨some 30, .faddr 2 (.t 2), some (29, true)⟩,
 ⟨some 31, .load1 (.t 30), some (29, true)⟩,
 ⟨some 32, .bin .neq (.t 31) (.c (.int .u8 (0 : Nat))), some (29, true)⟩,
 ⟨some 33, .pick (.t 29) (.t 32) (.c (.bool false)), some (25, false)⟩,
 ⟨some 34, .pick (.t 25) (.c (.bool true)) (.t 33), none⟩,
 ⟨some 3, .mov (.t 34), none⟩]
def F38 : AFunc := ⟨2, List.replicate 33 und, [.tmp 3],
 (.seq
 (.reg F38u0)
 (.seq
 (.reg F38u1)
 .ret))⟩
/-! univocal/normal.Feed -/
def F39u0 : List AIns := [⟨some 3, .box (.t 0), none⟩,
 ⟨some 4, .box (.t 1), none⟩,
 ⟨some 6, .alloc [(.int .i64 (0 : Nat)), (.bool false)], none⟩,
 ⟨some 7, .mov (.c .nils), none⟩]
def F39u1 : List AIns := [⟨some 13, .loadN 3 (.t 3), none⟩,
 ⟨some 14, .loadN 2 (.t 4), none⟩,
 ⟨some 15, .call 67 [(.t 13), (.t 14)], none⟩,
 ⟨some 12, .mov (.t 15), none⟩,
 ⟨some 16, .ext 0 (.t 12), none⟩,
 ⟨some 17, .ext 1 (.t 12), none⟩,
 ⟨some 8, .mov (.t 16), none⟩,
 ⟨some 9, .mov (.t 17), none⟩]
def F39u2 : List AIns := [⟨some 18, .mov (.t 9), none⟩,
 ⟨some 19, .un .not (.t 18), none⟩]
def F39u3 : List AIns := [⟨some 20, .build [(.int .i64 (0 : Nat)), (.bool false)] [], none⟩,
 ⟨none, .store 2 (.t 6) (.t 20), none⟩,
 ⟨some 7, .mov (.c .nils), none⟩]
def F39u4 : List AIns := [⟨some 21, .mov (.t 2), none⟩,
 ⟨some 22, .len .sl (.t 21), none⟩,
 ⟨some 23, .mov (.c (.int .i64 (0 : Nat))), none⟩]
def F39u5 : List AIns := [⟨some 24, .bin .lss (.t 23) (.t 22), none⟩]
def F39u6 : List AIns := [⟨some 25, .iaddrS 1 (.t 21) (.t 23), none⟩,
 ⟨some 26, .load1 (.t 25), none⟩,
 ⟨some 11, .mov (.t 26), none⟩]
def F39u7 : List AIns := [⟨some 27, .mov (.t 8), none⟩,
 ⟨some 28, .mov (.t 11), none⟩,
 ⟨some 29, .call 68 [(.t 27), (.t 28)], none⟩]
def F39u8 : List AIns := [⟨some 30, .bin .add (.t 23) (.c (.int .i64 (1 : Nat))), none⟩,
 ⟨some 23, .mov (.t 30), none⟩]
def F39u9 : List AIns := [⟨some 31, .mov (.t 8), none⟩,
 ⟨some 32, .nilchk (.t 31), none⟩,
 ⟨some 33, .faddr 0 (.t 32), none⟩,
 ⟨some 34, .loadN 2 (.t 33), none⟩,
 ⟨some 35, .mov (.t 8), none⟩,
 ⟨some 36, .nilchk (.t 35), none⟩,
 ⟨some 37, .faddr 5 (.t 36), none⟩,
 ⟨some 38, .load1 (.t 37), none⟩,
 ⟨none, .store 2 (.t 6) (.t 34), none⟩,
 ⟨some 7, .mov (.t 38), none⟩]
def F39u9p : List IPh := [⟨[.one 0, .one 1, .one 2, .one 3, .one 4, .one 5, .one 6, .one 7], [], some 8⟩,
 ⟨[.again 4, .again 5, .again 6, .again 7, .one 9], [], none⟩]
def F39 : AFunc := ⟨3, List.replicate 36 und, [.cell 6 (some 2), .tmp 7],
 (.seq
 (.reg F39u0)
 (.seq
 (.reg F39u1)
 (.seq
 (.seq
 (.reg F39u2)
 (.cond (.t 19)
 (.seq
 (.reg F39u3)
 .ret)
 .skip))
 (.seq
 (.seq
 (.reg F39u4)
 (.block 0
 (.loop
 (.seq
 (.reg F39u5)
 (.seq
 (.cond (.t 24)
 .skip
 (.exit 0))
 (.seq
 (.block 1
 (.seq
 (.reg F39u6)
 (.reg F39u7)))
 (.reg F39u8)))))))
 (.seq
 (.dreg 0 F39u9 F39u9p)
 .ret)))))⟩
/-! univocal/normal.Finish -/
def F40u0 : List AIns := [⟨some 2, .box (.t 0), none⟩,
 ⟨some 3, .box (.t 1), none⟩,
 ⟨some 4, .mov (.c (.bool false)), none⟩]
def F40u1 : List AIns := [⟨some 8, .loadN 3 (.t 2), none⟩,
 ⟨some 9, .loadN 2 (.t 3), none⟩,
 ⟨some 10, .call 67 [(.t 8), (.t 9)], none⟩,
 ⟨some 7, .mov (.t 10), none⟩,
 ⟨some 11, .ext 0 (.t 7), none⟩,
 ⟨some 12, .ext 1 (.t 7), none⟩,
 ⟨some 5, .mov (.t 11), none⟩,
 ⟨some 6, .mov (.t 12), none⟩]
def F40u2 : List AIns := [⟨some 13, .mov (.t 6), none⟩,
 ⟨some 14, .mov (.t 13), none⟩,
 ⟨some 15, .mov (.t 5), some (14, true)⟩,
 ⟨some 16, .call 69 [(.t 15)], some (14, true)⟩,
 ⟨some 17, .pick (.t 14) (.t 16) (.c (.bool false)), none⟩,
 ⟨some 4, .mov (.t 17), none⟩]
def F40 : AFunc := ⟨2, List.replicate 16 und, [.tmp 4],
 (.seq
 (.reg F40u0)
 (.seq
 (.reg F40u1)
 (.seq
 (.reg F40u2)
 .ret)))⟩
/-! univocal/univocalref01.Partition -/
def F41u0 : List AIns := [⟨some 2, .mov (.c (.bool false)), none⟩]
def F41u1 : List AIns := [⟨some 5, .build [(.int .u64 (0 : Nat)), (.int .u64 (0 : Nat)), (.int .u64 (0 : Nat)), (.int .u64 (0 : Nat))] [], none⟩,
 ⟨some 3, .alloc [(.int .u64 (0 : Nat)), (.int .u64 (0 : Nat)), (.int .u64 (0 : Nat)), (.int .u64 (0 : Nat))], none⟩,
 ⟨none, .store 4 (.t 3) (.t 5), none⟩]
def F41u2 : List AIns := [⟨some 4, .mov (.c (.int .i64 (0 : Nat))), none⟩]
def F41u3 : List AIns := [⟨some 6, .mov (.t 4), none⟩,
 ⟨some 7, .mov (.t 0), none⟩,
 ⟨some 8, .len .sl (.t 7), none⟩,
 ⟨some 9, .bin .lss (.t 6) (.t 8), none⟩]
def F41u4 : List AIns := [⟨some 2, .mov (.c (.bool false)), none⟩]
def F41u5 : List AIns := [⟨some 10, .mov (.t 4), none⟩,
 ⟨some 11, .bin .add (.t 10) (.c (.int .i64 (1 : Nat))), none⟩,
 ⟨some 4, .mov (.t 11), none⟩]
def F41u6 : List AIns := [⟨some 34, .loadN 4 (.t 3), none⟩,
 ⟨some 35, .call 70 [(.t 34)], none⟩,
 ⟨some 36, .bin .eql (.t 35) (.c (.int .i64 (256 : Nat))), none⟩,
 ⟨some 2, .mov (.t 36), none⟩]
def F41u7 : List AIns := [⟨some 12, .mov (.t 0), none⟩,
 ⟨some 13, .mov (.t 4), none⟩,
 ⟨some 14, .iaddrS 4 (.t 12) (.t 13), none⟩,
 ⟨some 15, .loadN 4 (.t 14), none⟩,
 ⟨some 16, .call 70 [(.t 15)], none⟩,
 ⟨some 17, .bin .eql (.t 16) (.c (.int .i64 (0 : Nat))), none⟩,
 ⟨some 18, .mov (.t 17), none⟩,
 ⟨some 19, .loadN 4 (.t 3), some (18, false)⟩,
 ⟨some 20, .mov (.t 0), some (18, false)⟩,
 ⟨some 21, .mov (.t 4), some (18, false)⟩,
 ⟨some 22, .iaddrS 4 (.t 20) (.t 21), some (18, false)⟩,
 ⟨some 23, .loadN 4 (.t 22), some (18, false)⟩,
 ⟨some 24, .call 71 [(.t 19), (.t 23)], some (18, false)⟩,
 ⟨some 25, .call 70 [(.t 24)], some (18, false)⟩,
 ⟨some 26, .bin .gtr (.t 25) (.c (.int .i64 (0 : Nat))), some (18, false)⟩,
 ⟨some 27, .pick (.t 18) (.c (.bool true)) (.t 26), none⟩]
def F41u7p : List IPh := [⟨[.one 0, .one 1, .one 2, .one 3], [], some 4⟩,
 ⟨[.one 5, .one 6, .one 7, .one 8, .one 9, .one 10, .one 11], [], some 12⟩,
 ⟨[], [], some 13⟩,
 ⟨[.one 14, .one 15], [], none⟩]
def F41u8 : List AIns := [⟨some 28, .loadN 4 (.t 3), none⟩,
 ⟨some 29, .mov (.t 0), none⟩,
 ⟨some 30, .mov (.t 4), none⟩,
 ⟨some 31, .iaddrS 4 (.t 29) (.t 30), none⟩,
 ⟨some 32, .loadN 4 (.t 31), none⟩,
 ⟨some 33, .call 72 [(.t 28), (.t 32)], none⟩,
 ⟨none, .store 4 (.t 3) (.t 33), none⟩]
def F41u8p : List IPh := [⟨[.one 0, .one 1, .one 2, .one 3, .one 4], [], some 5⟩,
 ⟨[], [], some 6⟩,
 ⟨[], [], none⟩]
def F41 : AFunc := ⟨1, List.replicate 36 und, [.tmp 2],
 (.seq
 (.reg F41u0)
 (.seq
 (.reg F41u1)
 (.seq
 (.seq
 (.reg F41u2)
 (.block 0
 (.loop
 (.seq
 (.seq
 (.reg F41u3)
 (.cond (.t 9)
 .skip
 (.exit 0)))
 (.seq
 (.block 1
 (.seq
 (.seq
 (.dreg 0 F41u7 F41u7p)
 (.cond (.t 27)
 (.seq
 (.reg F41u4)
 .ret)
 .skip))
 (.dreg 0 F41u8 F41u8p)))
 (.reg F41u5))))))
 (.seq
 (.reg F41u6)
 .ret))))⟩
/-! univocal/univocalref25.Feed -/
def F42u0 : List AIns := [⟨some 3, .box (.t 0), none⟩,
 ⟨some 4, .box (.t 1), none⟩,
 ⟨some 6, .alloc [(.int .i64 (0 : Nat)), (.bool false)], none⟩,
 ⟨some 7, .mov (.c .nils), none⟩]
def F42u1 : List AIns := [⟨some 13, .loadN 3 (.t 3), none⟩,
 ⟨some 14, .loadN 2 (.t 4), none⟩,
 ⟨some 15, .call 73 [(.t 13), (.t 14)], none⟩,
 ⟨some 16, .un .not (.t 15), none⟩]
def F42u2 : List AIns := [⟨some 17, .build [(.int .i64 (0 : Nat)), (.bool false)] [], none⟩,
 ⟨none, .store 2 (.t 6) (.t 17), none⟩,
 ⟨some 7, .mov (.c .nils), none⟩]
def F42u3 : List AIns := [⟨some 18, .bslice [(.int .u8 (0 : Nat))] 1 0 [], none⟩,
 ⟨some 8, .mov (.t 18), none⟩]
def F42u4 : List AIns := [⟨some 19, .faddr 0 (.t 4), none⟩,
 ⟨some 20, .load1 (.t 19), none⟩,
 ⟨some 9, .mov (.t 20), none⟩]
def F42u5 : List AIns := [⟨some 21, .faddr 1 (.t 4), none⟩,
 ⟨some 22, .load1 (.t 21), none⟩,
 ⟨some 10, .mov (.t 22), none⟩]
def F42u6 : List AIns := [⟨some 11, .mov (.c (.int .i64 (0 : Nat))), none⟩]
def F42u7 : List AIns := [⟨some 23, .mov (.t 11), none⟩,
 ⟨some 24, .mov (.t 2), none⟩,
 ⟨some 25, .len .sl (.t 24), none⟩,
 ⟨some 26, .bin .lss (.t 23) (.t 25), none⟩,
 ⟨some 27, .mov (.t 26), none⟩,
 ⟨some 28, .mov (.t 10), some (27, true)⟩,
 ⟨some 29, .un .not (.t 28), some (27, true)⟩,
 ⟨some 30, .pick (.t 27) (.t 29) (.c (.bool false)), none⟩]
def F42u8 : List AIns := [⟨some 47, .faddr 1 (.t 12), none⟩,
 ⟨some 48, .load1 (.t 47), none⟩]
def F42u9 : List AIns := [⟨some 50, .bin .eql (.t 48) (.c (.int .i64 (0 : Nat))), none⟩,
 ⟨some 49, .mov (.t 50), none⟩]
def F42u10 : List AIns := [⟨some 51, .mov (.t 8), none⟩,
 ⟨some 52, .mov (.t 2), none⟩,
 ⟨some 53, .mov (.t 11), none⟩,
 ⟨some 54, .iaddrS 1 (.t 52) (.t 53), none⟩,
 ⟨some 55, .load1 (.t 54), none⟩,
 ⟨some 56, .bslice [(.int .u8 (0 : Nat))] 1 1 [(0, (.t 55))], none⟩,
 ⟨some 57, .app 1 1 (.t 51) (.t 56), none⟩,
 ⟨some 8, .mov (.t 57), none⟩]
def F42u11 : List AIns := [⟨some 59, .bin .eql (.t 48) (.c (.int .i64 (2 : Nat))), none⟩,
 ⟨some 58, .mov (.t 59), none⟩]
def F42u12 : List AIns := [⟨some 60, .mov (.t 8), none⟩,
 ⟨some 61, .faddr 2 (.t 12), none⟩,
 ⟨some 62, .load1 (.t 61), none⟩,
 ⟨some 63, .bslice [(.int .u8 (0 : Nat))] 1 1 [(0, (.t 62))], none⟩,
 ⟨some 64, .app 1 1 (.t 60) (.t 63), none⟩,
 ⟨some 8, .mov (.t 64), none⟩]
def F42u13 : List AIns := [⟨some 66, .bin .eql (.t 48) (.c (.int .i64 (3 : Nat))), none⟩,
 ⟨some 65, .mov (.t 66), none⟩]
def F42u14 : List AIns := [⟨some 10, .mov (.c (.bool true)), none⟩]
def F42u15 : List AIns := [⟨some 67, .faddr 0 (.t 12), none⟩,
 ⟨some 68, .load1 (.t 67), none⟩,
 ⟨some 9, .mov (.t 68), none⟩]
def F42u16 : List AIns := [⟨some 31, .mov (.t 11), none⟩,
 ⟨some 32, .bin .add (.t 31) (.c (.int .i64 (1 : Nat))), none⟩,
 ⟨some 11, .mov (.t 32), none⟩]
def F42u17 : List AIns := [⟨some 69, .mov (.t 10), none⟩]
def F42u18 : List AIns := [⟨some 70, .build [(.int .i64 (0 : Nat)), (.bool false)] [(1, 1, (.c (.bool true)))], none⟩,
 ⟨some 71, .mov (.t 8), none⟩,
 ⟨none, .store 2 (.t 6) (.t 70), none⟩,
 ⟨some 7, .mov (.t 71), none⟩]
def F42u19 : List AIns := [⟨some 72, .mov (.t 9), none⟩,
 ⟨some 73, .build [(.int .i64 (0 : Nat)), (.bool false)] [(0, 1, (.t 72))], none⟩,
 ⟨some 74, .mov (.t 8), none⟩,
 ⟨none, .store 2 (.t 6) (.t 73), none⟩,
 ⟨some 7, .mov (.t 74), none⟩]
def F42u20 : List AIns := [⟨some 33, .faddr 1 (.t 3), none⟩,
 ⟨some 34, .load1 (.t 33), none⟩,
 ⟨some 35, .mov (.t 9), none⟩,
 ⟨some 36, .iaddrS 1 (.t 34) (.t 35), none⟩,
 ⟨some 37, .load1 (.t 36), none⟩,
 ⟨some 38, .faddr 0 (.t 3), none⟩,
 ⟨some 39, .load1 (.t 38), none⟩,
 ⟨some 40, .mov (.t 2), none⟩,
 ⟨some 41, .mov (.t 11), none⟩,
 ⟨some 42, .iaddrS 1 (.t 40) (.t 41), none⟩,
 ⟨some 43, .load1 (.t 42), none⟩,
 ⟨some 44, .call 74 [(.t 39), (.t 43)], none⟩,
 ⟨some 45, .iaddrS 3 (.t 37) (.t 44), none⟩,
 ⟨some 46, .loadN 3 (.t 45), none⟩,
 ⟨some 12, .alloc [(.int .i64 (0 : Nat)), (.int .i64 (0 : Nat)), (.int .u8 (0 : Nat))], none⟩,
 ⟨none, .store 3 (.t 12) (.t 46), none⟩]
def F42u20p : List IPh := [⟨[.one 0, .one 1, .one 2, .one 3, .one 4, .one 5, .one 6, .one 7, .one 8, .one 9, .one 10, .res 14 0], [], some 11⟩,
 ⟨[.again 0, .again 1, .again 2, .again 3, .again 4, .one 12, .one 13], [(14, 0)], some 15⟩,
 ⟨[], [], none⟩]
def F42 : AFunc := ⟨3, List.replicate 72 und, [.cell 6 (some 2), .tmp 7],
 (.seq
 (.reg F42u0)
 (.seq
 (.seq
 (.reg F42u1)
 (.cond (.t 16)
 (.seq
 (.reg F42u2)
 .ret)
 .skip))
 (.seq
 (.reg F42u3)
 (.seq
 (.reg F42u4)
 (.seq
 (.reg F42u5)
 (.seq
 (.seq
 (.reg F42u6)
 (.block 0
 (.loop
 (.seq
 (.seq
 (.reg F42u7)
 (.cond (.t 30)
 .skip
 (.exit 0)))
 (.seq
 (.block 1
 (.seq
 (.dreg 1 F42u20 F42u20p)
 (.seq
 (.seq
 (.reg F42u8)
 (.block 2
 (.seq
 (.reg F42u9)
 (.cond (.t 49)
 (.reg F42u10)
 (.seq
 (.reg F42u11)
 (.cond (.t 58)
 (.reg F42u12)
 (.seq
 (.reg F42u13)
 (.cond (.t 65)
 (.reg F42u14)
 .skip))))))))
 (.reg F42u15))))
 (.reg F42u16))))))
 (.seq
 (.seq
 (.reg F42u17)
 (.cond (.t 69)
 (.seq
 (.reg F42u18)
 .ret)
 .skip))
 (.seq
 (.reg F42u19)
 .ret))))))))⟩
/-! univocal/univocalref25.Finish -/
def F43u0 : List AIns := [⟨some 2, .box (.t 0), none⟩,
 ⟨some 3, .box (.t 1), none⟩,
 ⟨some 4, .mov (.c (.bool false)), none⟩]
def F43u1 : List AIns := [⟨some 5, .loadN 3 (.t 2), none⟩,
 ⟨some 6, .loadN 2 (.t 3), none⟩,
 ⟨some 7, .call 73 [(.t 5), (.t 6)], none⟩,
 ⟨some 8, .mov (.t 7), none⟩,
 ⟨some 9, .faddr 1 (.t 3), some (8, true)⟩,
 ⟨some 10, .load1 (.t 9), some (8, true)⟩,
 ⟨some 11, .un .not (.t 10), some (8, true)⟩,
 ⟨some 12, .pick (.t 8) (.t 11) (.c (.bool false)), none⟩,
 ⟨some 13, .mov (.t 12), none⟩,
 ⟨some 14, .faddr 2 (.t 2), some (13, true)⟩,
 ⟨some 15, .load1 (.t 14), some (13, true)⟩,
 ⟨some 16, .faddr 0 (.t 3), some (13, true)⟩,
 ⟨some 17, .load1 (.t 16), some (13, true)⟩,
 ⟨some 18, .iaddrS 1 (.t 15) (.t 17), some (13, true)⟩,
 ⟨some 19, .load1 (.t 18), some (13, true)⟩,
 ⟨some 20, .pick (.t 13) (.t 19) (.c (.bool false)), none⟩,
 ⟨some 4, .mov (.t 20), none⟩]
def F43 : AFunc := ⟨2, List.replicate 19 und, [.tmp 4],
 (.seq
 (.reg F43u0)
 (.seq
 (.reg F43u1)
 .ret))⟩
/-! math/bits.OnesCount64 -/
def F63u0 : List AIns := [⟨some 2, .mov (.c (.int .i64 (0 : Nat))), none⟩]
def F63u1 : List AIns := [⟨some 3, .mov (.t 0), none⟩,
 ⟨some 4, .bin .shr (.t 3) (.c (.int .u64 (1 : Nat))), none⟩,
 ⟨some 5, .bin .and (.t 4) (.c (.int .u64 (6148914691236517205 : Nat))), none⟩,
 ⟨some 6, .mov (.t 0), none⟩,
 ⟨some 7, .bin .and (.t 6) (.c (.int .u64 (6148914691236517205 : Nat))), none⟩,
 ⟨some 8, .bin .add (.t 5) (.t 7), none⟩,
 ⟨some 0, .mov (.t 8), none⟩]
def F63u2 : List AIns := [⟨some 9, .mov (.t 0), none⟩,
 ⟨some 10, .bin .shr (.t 9) (.c (.int .u64 (2 : Nat))), none⟩,
 ⟨some 11, .bin .and (.t 10) (.c (.int .u64 (3689348814741910323 : Nat))), none⟩,
 ⟨some 12, .mov (.t 0), none⟩,
 ⟨some 13, .bin .and (.t 12) (.c (.int .u64 (3689348814741910323 : Nat))), none⟩,
 ⟨some 14, .bin .add (.t 11) (.t 13), none⟩,
 ⟨some 0, .mov (.t 14), none⟩]
def F63u3 : List AIns := [⟨some 15, .mov (.t 0), none⟩,
 ⟨some 16, .bin .shr (.t 15) (.c (.int .u64 (4 : Nat))), none⟩,
 ⟨some 17, .mov (.t 0), none⟩,
 ⟨some 18, .bin .add (.t 16) (.t 17), none⟩,
 ⟨some 19, .bin .and (.t 18) (.c (.int .u64 (1085102592571150095 : Nat))), none⟩,
 ⟨some 0, .mov (.t 19), none⟩]
def F63u4 : List AIns := [⟨some 20, .mov (.t 0), none⟩,
 ⟨some 21, .mov (.t 0), none⟩,
 ⟨some 22, .bin .shr (.t 21) (.c (.int .u64 (8 : Nat))), none⟩,
 ⟨some 23, .bin .add (.t 20) (.t 22), none⟩,
 ⟨some 0, .mov (.t 23), none⟩]
def F63u5 : List AIns := [⟨some 24, .mov (.t 0), none⟩,
 ⟨some 25, .mov (.t 0), none⟩,
 ⟨some 26, .bin .shr (.t 25) (.c (.int .u64 (16 : Nat))), none⟩,
 ⟨some 27, .bin .add (.t 24) (.t 26), none⟩,
 ⟨some 0, .mov (.t 27), none⟩]
def F63u6 : List AIns := [⟨some 28, .mov (.t 0), none⟩,
 ⟨some 29, .mov (.t 0), none⟩,
 ⟨some 30, .bin .shr (.t 29) (.c (.int .u64 (32 : Nat))), none⟩,
 ⟨some 31, .bin .add (.t 28) (.t 30), none⟩,
 ⟨some 0, .mov (.t 31), none⟩]
def F63u7 : List AIns := [⟨some 32, .mov (.t 0), none⟩,
 ⟨some 33, .convI .i64 (.t 32), none⟩,
 ⟨some 34, .bin .and (.t 33) (.c (.int .i64 (127 : Nat))), none⟩,
 ⟨some 2, .mov (.t 34), none⟩]
def F63 : AFunc := ⟨1, List.replicate 34 und, [.tmp 2],
 (.seq
 (.reg F63u0)
 (.seq
 (.reg F63u1)
 (.seq
 (.reg F63u2)
 (.seq
 (.reg F63u3)
 (.seq
 (.reg F63u4)
 (.seq
 (.reg F63u5)
 (.seq
 (.reg F63u6)
 (.seq
 (.reg F63u7)
 .ret))))))))⟩
/-! univocal/class.combine -/
def F64u0 : List AIns := [⟨some 3, .box (.t 0), none⟩,
 ⟨some 4, .box (.t 1), none⟩,
 ⟨some 6, .alloc [(.int .u64 (0 : Nat)), (.int .u64 (0 : Nat)), (.int .u64 (0 : Nat)), (.int .u64 (0 : Nat))], none⟩]
def F64u1 : List AIns := [⟨some 7, .alloc [(.int .u64 (0 : Nat)), (.int .u64 (0 : Nat)), (.int .u64 (0 : Nat)), (.int .u64 (0 : Nat))], none⟩]
def F64u2 : List AIns := [⟨some 9, .mov (.c (.int .i64 (0 : Nat))), none⟩]
def F64u3 : List AIns := [⟨some 10, .bin .lss (.t 9) (.c (.int .i64 (4 : Nat))), none⟩]
def F64u4 : List AIns := [⟨some 11, .mov (.t 9), none⟩,
 ⟨some 8, .mov (.t 11), none⟩]
def F64u5 : List AIns := [⟨some 22, .bin .add (.t 9) (.c (.int .i64 (1 : Nat))), none⟩,
 ⟨some 9, .mov (.t 22), none⟩]
def F64u6 : List AIns := [⟨some 23, .loadN 4 (.t 7), none⟩,
 ⟨none, .store 4 (.t 6) (.t 23), none⟩]
def F64u7 : List AIns := [⟨some 12, .mov (.t 8), none⟩,
 ⟨some 13, .mov (.t 2), none⟩,
 ⟨some 14, .mov (.t 8), none⟩,
 ⟨some 15, .iaddrA 1 4 (.t 3) (.t 14), none⟩,
 ⟨some 16, .load1 (.t 15), none⟩,
 ⟨some 17, .mov (.t 8), none⟩,
 ⟨some 18, .iaddrA 1 4 (.t 4) (.t 17), none⟩,
 ⟨some 19, .load1 (.t 18), none⟩,
 ⟨some 20, .dyn (.t 13) [(.t 16), (.t 19)], none⟩,
 ⟨some 21, .iaddrA 1 4 (.t 7) (.t 12), none⟩,
 ⟨none, .store 1 (.t 21) (.t 20), none⟩]
def F64u7p : List IPh := [⟨[.one 0, .one 1, .one 2, .one 3, .one 4, .one 5, .one 6, .one 7], [], some 8⟩,
 ⟨[.again 0, .one 9], [], some 10⟩,
 ⟨[], [], none⟩]
def F64 : AFunc := ⟨3, List.replicate 21 und, [.cell 6 (some 4)],
 (.seq
 (.reg F64u0)
 (.seq
 (.reg F64u1)
 (.seq
 (.seq
 (.reg F64u2)
 (.block 0
 (.loop
 (.seq
 (.reg F64u3)
 (.seq
 (.cond (.t 10)
 .skip
 (.exit 0))
 (.seq
 (.block 1
 (.seq
 (.reg F64u4)
 (.dreg 0 F64u7 F64u7p)))
 (.reg F64u5)))))))
 (.seq
 (.reg F64u6)
 .ret))))⟩
/-! univocal/class.Union$1 -/
def F65u0 : List AIns := [⟨some 4, .mov (.c (.int .u64 (0 : Nat))), none⟩]
def F65u1 : List AIns := [⟨some 5, .mov (.t 0), none⟩,
 ⟨some 6, .mov (.t 1), none⟩,
 ⟨some 7, .bin .or (.t 5) (.t 6), none⟩,
 ⟨some 4, .mov (.t 7), none⟩]
def F65 : AFunc := ⟨2, List.replicate 6 und, [.tmp 4],
 (.seq
 (.reg F65u0)
 (.seq
 (.reg F65u1)
 .ret))⟩
/-! slices.IndexFunc[[]univocal/api.Cell,univocal/api.Cell] -/
def F66u0 : List AIns := [⟨some 4, .mov (.c (.int .i64 (0 : Nat))), none⟩]
def F66u1 : List AIns := [⟨some 6, .mov (.t 0), none⟩,
 ⟨some 7, .len .sl (.t 6), none⟩,
 ⟨some 8, .mov (.c (.int .i64 (0 : Nat))), none⟩]
def F66u2 : List AIns := [⟨some 9, .bin .lss (.t 8) (.t 7), none⟩]
def F66u3 : List AIns := [⟨some 10, .mov (.t 8), none⟩,
 ⟨some 5, .mov (.t 10), none⟩]
def F66u4 : List AIns := [⟨some 11, .mov (.t 1), none⟩,
 ⟨some 12, .mov (.t 0), none⟩,
 ⟨some 13, .mov (.t 5), none⟩,
 ⟨some 14, .iaddrS 3 (.t 12) (.t 13), none⟩,
 ⟨some 15, .loadN 3 (.t 14), none⟩,
 ⟨some 16, .dyn (.t 11) [(.t 15)], none⟩]
def F66u5 : List AIns := [⟨some 17, .mov (.t 5), none⟩,
 ⟨some 4, .mov (.t 17), none⟩]
def F66u6 : List AIns := [⟨some 18, .bin .add (.t 8) (.c (.int .i64 (1 : Nat))), none⟩,
 ⟨some 8, .mov (.t 18), none⟩]
def F66u7 : List AIns := [⟨some 4, .mov (.c (.int .i64 (.negSucc 0))), none⟩]
def F66 : AFunc := ⟨2, List.replicate 17 und, [.tmp 4],
 (.seq
 (.reg F66u0)
 (.seq
 (.seq
 (.reg F66u1)
 (.block 0
 (.loop
 (.seq
 (.reg F66u2)
 (.seq
 (.cond (.t 9)
 .skip
 (.exit 0))
 (.seq
 (.block 1
 (.seq
 (.reg F66u3)
 (.seq
 (.reg F66u4)
 (.cond (.t 16)
 (.seq
 (.reg F66u5)
 .ret)
 .skip))))
 (.reg F66u6)))))))
 (.seq
 (.reg F66u7)
 .ret)))⟩
/-! univocal/normal.open -/
def F67u0 : List AIns := [⟨some 2, .box (.t 0), none⟩,
 ⟨some 3, .box (.t 1), none⟩,
 ⟨some 4, .mov (.c .nilp), none⟩,
 ⟨some 5, .mov (.c (.bool false)), none⟩]
def F67u1 : List AIns := [⟨some 6, .loadN 3 (.t 2), none⟩,
 ⟨some 7, .call 19 [(.t 6)], none⟩,
 ⟨some 8, .un .not (.t 7), none⟩,
 ⟨some 9, .mov (.t 8), none⟩,
 ⟨some 10, .faddr 0 (.t 3), some (9, false)⟩,
 ⟨some 11, .load1 (.t 10), some (9, false)⟩,
 ⟨some 12, .bin .lss (.t 11) (.c (.int .i64 (0 : Nat))), some (9, false)⟩,
 ⟨some 13, .pick (.t 9) (.c (.bool true)) (.t 12), none⟩,
 ⟨some 14, .mov (.t 13), none⟩,
 ⟨some 15, .faddr 0 (.t 3), some (14, false)⟩,
 ⟨some 16, .load1 (.t 15), some (14, false)⟩,
 ⟨some 17, .faddr 1 (.t 2), some (14, false)⟩,
 ⟨some 18, .load1 (.t 17), some (14, false)⟩,
 ⟨some 19, .len .sl (.t 18), some (14, false)⟩,
 ⟨some 20, .bin .geq (.t 16) (.t 19), some (14, false)⟩,
 ⟨some 21, .pick (.t 14) (.c (.bool true)) (.t 20), none⟩]
def F67u2 : List AIns := [⟨some 4, .mov (.c .nilp), none⟩,
 ⟨some 5, .mov (.c (.bool false)), none⟩]
def F67u3 : List AIns := [⟨some 22, .faddr 1 (.t 3), none⟩,
 ⟨some 23, .load1 (.t 22), none⟩]
def F67u4 : List AIns := [⟨some 24, .faddr 0 (.t 3), none⟩,
 ⟨none, .store 1 (.t 24) (.c (.int .i64 (0 : Nat))), none⟩]
def F67u5 : List AIns := [⟨some 25, .loadN 2 (.t 3), none⟩,
 ⟨some 26, .loadN 3 (.t 2), none⟩,
 ⟨some 27, .build [(.int .i64 (0 : Nat)), (.bool false), .nils, .nils, .nils, .nils] [(0, 2, (.t 25)), (2, 3, (.t 26))], none⟩,
 ⟨some 28, .box (.t 27), none⟩,
 ⟨some 4, .mov (.t 28), none⟩,
 ⟨some 5, .mov (.c (.bool true)), none⟩]
def F67 : AFunc := ⟨2, List.replicate 27 und, [.tmp 4, .tmp 5],
 (.seq
 (.reg F67u0)
 (.seq
 (.seq
 (.reg F67u1)
 (.cond (.t 21)
 (.seq
 (.reg F67u2)
 .ret)
 .skip))
 (.seq
 (.seq
 (.reg F67u3)
 (.cond (.t 23)
 (.reg F67u4)
 .skip))
 (.seq
 (.reg F67u5)
 .ret))))⟩
/-! (*univocal/normal.stream).write -/
def F68u0 : List AIns := [⟨some 5, .mov (.t 0), none⟩,
 ⟨some 6, .nilchk (.t 5), none⟩,
 ⟨some 7, .faddr 0 (.t 6), none⟩,
 ⟨some 8, .faddr 1 (.t 7), none⟩,
 ⟨some 9, .load1 (.t 8), none⟩]
def F68u1 : List AIns := [⟨some 31, .mov (.t 0), none⟩,
 ⟨some 32, .faddr 0 (.t 4), none⟩,
 ⟨some 33, .load1 (.t 32), none⟩,
 ⟨some 34, .nilchk (.t 31), none⟩,
 ⟨some 35, .faddr 0 (.t 34), none⟩,
 ⟨some 36, .faddr 0 (.t 35), none⟩,
 ⟨none, .store 1 (.t 36) (.t 33), none⟩]
def F68u2 : List AIns := [⟨some 37, .faddr 1 (.t 4), none⟩,
 ⟨some 38, .load1 (.t 37), none⟩]
def F68u3 : List AIns := [⟨some 40, .bin .eql (.t 38) (.c (.int .i64 (0 : Nat))), none⟩,
 ⟨some 39, .mov (.t 40), none⟩]
def F68u4 : List AIns := [⟨some 42, .bin .eql (.t 38) (.c (.int .i64 (2 : Nat))), none⟩,
 ⟨some 41, .mov (.t 42), none⟩]
def F68u5 : List AIns := [⟨some 44, .bin .eql (.t 38) (.c (.int .i64 (3 : Nat))), none⟩,
 ⟨some 43, .mov (.t 44), none⟩]
def F68u6 : List AIns := [⟨some 45, .mov (.t 1), none⟩,
 ⟨some 46, .faddr 2 (.t 4), none⟩,
 ⟨none, .store 1 (.t 46) (.t 45), none⟩]
def F68u7 : List AIns := [⟨some 58, .mov (.t 0), none⟩,
 ⟨some 59, .build [(.int .i64 (0 : Nat)), (.bool false)] [(1, 1, (.c (.bool true)))], none⟩,
 ⟨some 60, .nilchk (.t 58), none⟩,
 ⟨some 61, .faddr 0 (.t 60), none⟩,
 ⟨none, .store 2 (.t 61) (.t 59), none⟩]
def F68u8 : List AIns := [⟨some 10, .mov (.t 0), none⟩,
 ⟨some 11, .nilchk (.t 10), none⟩,
 ⟨some 12, .faddr 2 (.t 11), none⟩,
 ⟨some 13, .faddr 1 (.t 12), none⟩,
 ⟨some 14, .load1 (.t 13), none⟩,
 ⟨some 15, .mov (.t 0), none⟩,
 ⟨some 16, .nilchk (.t 15), none⟩,
 ⟨some 17, .faddr 0 (.t 16), none⟩,
 ⟨some 18, .faddr 0 (.t 17), none⟩,
 ⟨some 19, .load1 (.t 18), none⟩,
 ⟨some 20, .iaddrS 1 (.t 14) (.t 19), none⟩,
 ⟨some 21, .load1 (.t 20), none⟩,
 ⟨some 22, .mov (.t 0), none⟩,
 ⟨some 23, .nilchk (.t 22), none⟩,
 ⟨some 24, .faddr 2 (.t 23), none⟩,
 ⟨some 25, .faddr 0 (.t 24), none⟩,
 ⟨some 26, .load1 (.t 25), none⟩,
 ⟨some 27, .mov (.t 1), none⟩,
 ⟨some 28, .call 111 [(.t 26), (.t 27)], none⟩,
 ⟨some 29, .iaddrS 3 (.t 21) (.t 28), none⟩,
 ⟨some 30, .loadN 3 (.t 29), none⟩,
 ⟨some 4, .alloc [(.int .i64 (0 : Nat)), (.int .i64 (0 : Nat)), (.int .u8 (0 : Nat))], none⟩,
 ⟨none, .store 3 (.t 4) (.t 30), none⟩]
def F68u8p : List IPh := [⟨[.one 0, .one 1, .one 2, .one 3, .one 4, .one 5, .one 6, .one 7, .one 8, .one 9, .one 10, .one 11, .one 12, .one 13, .one 14, .one 15, .one 16, .one 17, .res 21 0], [], some 18⟩,
 ⟨[.again 0, .again 1, .again 2, .again 3, .again 4, .again 5, .again 6, .again 7, .again 8, .again 9, .again 10, .again 11, .one 19, .one 20], [(21, 0)], some 22⟩,
 ⟨[], [], none⟩]
def F68u9 : List AIns := [⟨some 47, .mov (.t 0), none⟩,
 ⟨some 48, .mov (.t 0), none⟩,
 ⟨some 49, .nilchk (.t 48), none⟩,
 ⟨some 50, .faddr 5 (.t 49), none⟩,
 ⟨some 51, .load1 (.t 50), none⟩,
 ⟨some 52, .faddr 2 (.t 4), none⟩,
 ⟨some 53, .load1 (.t 52), none⟩,
 ⟨some 54, .bslice [(.int .u8 (0 : Nat))] 1 1 [(0, (.t 53))], none⟩,
 ⟨some 55, .app 1 1 (.t 51) (.t 54), none⟩,
 ⟨some 56, .nilchk (.t 47), none⟩,
 ⟨some 57, .faddr 5 (.t 56), none⟩,
 ⟨none, .store 1 (.t 57) (.t 55), none⟩]
def F68u9p : List IPh := [⟨[.one 0, .one 1, .one 2, .one 3, .one 4, .one 5, .one 6, .res 7 0], [(7, 0)], some 8⟩,
 ⟨[.again 0, .one 9, .one 10], [], some 11⟩,
 ⟨[], [], none⟩]
def F68 : AFunc := ⟨2, List.replicate 60 und, [],
 (.seq
 (.seq
 (.reg F68u0)
 (.cond (.t 9)
 .ret
 .skip))
 (.seq
 (.dreg 1 F68u8 F68u8p)
 (.seq
 (.reg F68u1)
 (.seq
 (.reg F68u2)
 (.block 0
 (.seq
 (.block 3
 (.seq
 (.block 2
 (.seq
 (.block 1
 (.seq
 (.seq
 (.seq
 (.reg F68u3)
 (.cond (.t 39)
 (.exit 1)
 .skip))
 (.seq
 (.seq
 (.reg F68u4)
 (.cond (.t 41)
 (.exit 2)
 .skip))
 (.seq
 (.reg F68u5)
 (.cond (.t 43)
 (.exit 3)
 .skip))))
 (.exit 0)))
 (.reg F68u6)))
 (.seq
 (.dreg 1 F68u9 F68u9p)
 (.exit 0))))
 (.seq
 (.reg F68u7)
 (.exit 0))))))))⟩
/-! (*univocal/normal.stream).accepted -/
def F69u0 : List AIns := [⟨some 2, .mov (.c (.bool false)), none⟩]
def F69u1 : List AIns := [⟨some 3, .mov (.t 0), none⟩,
 ⟨some 4, .nilchk (.t 3), none⟩,
 ⟨some 5, .faddr 0 (.t 4), none⟩,
 ⟨some 6, .faddr 1 (.t 5), none⟩,
 ⟨some 7, .load1 (.t 6), none⟩,
 ⟨some 8, .un .not (.t 7), none⟩,
 ⟨some 9, .mov (.t 8), none⟩,
 ⟨some 10, .mov (.t 0), some (9, true)⟩,
 ⟨some 11, .nilchk (.t 10), some (9, true)⟩,
 ⟨some 12, .faddr 2 (.t 11), some (9, true)⟩,
 ⟨some 13, .faddr 2 (.t 12), some (9, true)⟩,
 ⟨some 14, .load1 (.t 13), some (9, true)⟩,
 ⟨some 15, .mov (.t 0), some (9, true)⟩,
 ⟨some 16, .nilchk (.t 15), some (9, true)⟩,
 ⟨some 17, .faddr 0 (.t 16), some (9, true)⟩,
 ⟨some 18, .faddr 0 (.t 17), some (9, true)⟩,
 ⟨some 19, .load1 (.t 18), some (9, true)⟩,
 ⟨some 20, .iaddrS 1 (.t 14) (.t 19), some (9, true)⟩,
 ⟨some 21, .load1 (.t 20), some (9, true)⟩,
 ⟨some 22, .pick (.t 9) (.t 21) (.c (.bool false)), none⟩,
 ⟨some 2, .mov (.t 22), none⟩]
def F69u1p : List IPh := [⟨[.one 0, .one 1, .one 2, .one 3, .one 4, .one 5, .one 6, .one 7, .one 8, .one 9, .one 10, .one 11, .one 12, .one 13, .one 14, .one 15, .one 16, .one 17, .one 18, .one 19, .one 20], [], none⟩]
def F69 : AFunc := ⟨1, List.replicate 22 und, [.tmp 2],
 (.seq
 (.reg F69u0)
 (.seq
 (.dreg 0 F69u1 F69u1p)
 .ret))⟩
/-! univocal/univocalref01.Size -/
def F70u0 : List AIns := [⟨some 1, .box (.t 0), none⟩,
 ⟨some 2, .mov (.c (.int .i64 (0 : Nat))), none⟩]
def F70u1 : List AIns := [⟨some 3, .loadN 4 (.t 1), none⟩,
 ⟨some 4, .call 112 [(.t 3)], none⟩,
 ⟨some 5, .len .sl (.t 4), none⟩,
 ⟨some 2, .mov (.t 5), none⟩]
def F70 : AFunc := ⟨1, List.replicate 5 und, [.tmp 2],
 (.seq
 (.reg F70u0)
 (.seq
 (.reg F70u1)
 .ret))⟩
/-! univocal/univocalref01.Intersect -/
def F71u0 : List AIns := [⟨some 2, .box (.t 0), none⟩,
 ⟨some 3, .box (.t 1), none⟩,
 ⟨some 4, .alloc [(.int .u64 (0 : Nat)), (.int .u64 (0 : Nat)), (.int .u64 (0 : Nat)), (.int .u64 (0 : Nat))], none⟩]
def F71u1 : List AIns := [⟨some 7, .build [(.int .u64 (0 : Nat)), (.int .u64 (0 : Nat)), (.int .u64 (0 : Nat)), (.int .u64 (0 : Nat))] [], none⟩,
 ⟨some 5, .alloc [(.int .u64 (0 : Nat)), (.int .u64 (0 : Nat)), (.int .u64 (0 : Nat)), (.int .u64 (0 : Nat))], none⟩,
 ⟨none, .store 4 (.t 5) (.t 7), none⟩]
def F71u2 : List AIns := [⟨some 6, .mov (.c (.int .i64 (0 : Nat))), none⟩]
def F71u3 : List AIns := [⟨some 8, .mov (.t 6), none⟩,
 ⟨some 9, .bin .lss (.t 8) (.c (.int .i64 (256 : Nat))), none⟩]
def F71u4 : List AIns := [⟨some 12, .loadN 4 (.t 2), none⟩,
 ⟨some 13, .mov (.t 6), none⟩,
 ⟨some 14, .convI .u8 (.t 13), none⟩,
 ⟨some 15, .call 113 [(.t 12), (.t 14)], none⟩,
 ⟨some 16, .mov (.t 15), none⟩,
 ⟨some 17, .loadN 4 (.t 3), some (16, true)⟩,
 ⟨some 18, .mov (.t 6), some (16, true)⟩,
 ⟨some 19, .convI .u8 (.t 18), some (16, true)⟩,
 ⟨some 20, .call 113 [(.t 17), (.t 19)], some (16, true)⟩,
 ⟨some 21, .pick (.t 16) (.t 20) (.c (.bool false)), none⟩]
def F71u5 : List AIns := [⟨some 22, .loadN 4 (.t 5), none⟩,
 ⟨some 23, .mov (.t 6), none⟩,
 ⟨some 24, .convI .u8 (.t 23), none⟩,
 ⟨some 25, .call 114 [(.t 22), (.t 24)], none⟩,
 ⟨none, .store 4 (.t 5) (.t 25), none⟩]
def F71u6 : List AIns := [⟨some 10, .mov (.t 6), none⟩,
 ⟨some 11, .bin .add (.t 10) (.c (.int .i64 (1 : Nat))), none⟩,
 ⟨some 6, .mov (.t 11), none⟩]
def F71u7 : List AIns := [⟨some 26, .loadN 4 (.t 5), none⟩,
 ⟨none, .store 4 (.t 4) (.t 26), none⟩]
def F71 : AFunc := ⟨2, List.replicate 25 und, [.cell 4 (some 4)],
 (.seq
 (.reg F71u0)
 (.seq
 (.reg F71u1)
 (.seq
 (.seq
 (.reg F71u2)
 (.block 0
 (.loop
 (.seq
 (.seq
 (.reg F71u3)
 (.cond (.t 9)
 .skip
 (.exit 0)))
 (.seq
 (.block 1
 (.seq
 (.reg F71u4)
 (.cond (.t 21)
 (.reg F71u5)
 .skip)))
 (.reg F71u6))))))
 (.seq
 (.reg F71u7)
 .ret))))⟩
/-! univocal/univocalref01.Union -/
def F72u0 : List AIns := [⟨some 2, .box (.t 0), none⟩,
 ⟨some 3, .box (.t 1), none⟩,
 ⟨some 4, .alloc [(.int .u64 (0 : Nat)), (.int .u64 (0 : Nat)), (.int .u64 (0 : Nat)), (.int .u64 (0 : Nat))], none⟩]
def F72u1 : List AIns := [⟨some 7, .build [(.int .u64 (0 : Nat)), (.int .u64 (0 : Nat)), (.int .u64 (0 : Nat)), (.int .u64 (0 : Nat))] [], none⟩,
 ⟨some 5, .alloc [(.int .u64 (0 : Nat)), (.int .u64 (0 : Nat)), (.int .u64 (0 : Nat)), (.int .u64 (0 : Nat))], none⟩,
 ⟨none, .store 4 (.t 5) (.t 7), none⟩]
def F72u2 : List AIns := [⟨some 6, .mov (.c (.int .i64 (0 : Nat))), none⟩]
def F72u3 : List AIns := [⟨some 8, .mov (.t 6), none⟩,
 ⟨some 9, .bin .lss (.t 8) (.c (.int .i64 (256 : Nat))), none⟩]
def F72u4 : List AIns := [⟨some 12, .loadN 4 (.t 2), none⟩,
 ⟨some 13, .mov (.t 6), none⟩,
 ⟨some 14, .convI .u8 (.t 13), none⟩,
 ⟨some 15, .call 113 [(.t 12), (.t 14)], none⟩,
 ⟨some 16, .mov (.t 15), none⟩,
 ⟨some 17, .loadN 4 (.t 3), some (16, false)⟩,
 ⟨some 18, .mov (.t 6), some (16, false)⟩,
 ⟨some 19, .convI .u8 (.t 18), some (16, false)⟩,
 ⟨some 20, .call 113 [(.t 17), (.t 19)], some (16, false)⟩,
 ⟨some 21, .pick (.t 16) (.c (.bool true)) (.t 20), none⟩]
def F72u5 : List AIns := [⟨some 22, .loadN 4 (.t 5), none⟩,
 ⟨some 23, .mov (.t 6), none⟩,
 ⟨some 24, .convI .u8 (.t 23), none⟩,
 ⟨some 25, .call 114 [(.t 22), (.t 24)], none⟩,
 ⟨none, .store 4 (.t 5) (.t 25), none⟩]
def F72u6 : List AIns := [⟨some 10, .mov (.t 6), none⟩,
 ⟨some 11, .bin .add (.t 10) (.c (.int .i64 (1 : Nat))), none⟩,
 ⟨some 6, .mov (.t 11), none⟩]
def F72u7 : List AIns := [⟨some 26, .loadN 4 (.t 5), none⟩,
 ⟨none, .store 4 (.t 4) (.t 26), none⟩]
def F72 : AFunc := ⟨2, List.replicate 25 und, [.cell 4 (some 4)],
 (.seq
 (.reg F72u0)
 (.seq
 (.reg F72u1)
 (.seq
 (.seq
 (.reg F72u2)
 (.block 0
 (.loop
 (.seq
 (.seq
 (.reg F72u3)
 (.cond (.t 9)
 .skip
 (.exit 0)))
 (.seq
 (.block 1
 (.seq
 (.reg F72u4)
 (.cond (.t 21)
 (.reg F72u5)
 .skip)))
 (.reg F72u6))))))
 (.seq
 (.reg F72u7)
 .ret))))⟩
/-! univocal/univocalref25.state -/
def F73u0 : List AIns := [⟨some 2, .box (.t 0), none⟩,
 ⟨some 3, .box (.t 1), none⟩,
 ⟨some 4, .mov (.c (.bool false)), none⟩]
def F73u1 : List AIns := [⟨some 5, .loadN 3 (.t 2), none⟩,
 ⟨some 6, .call 21 [(.t 5)], none⟩,
 ⟨some 7, .mov (.t 6), none⟩,
 ⟨some 8, .faddr 0 (.t 3), some (7, true)⟩,
 ⟨some 9, .load1 (.t 8), some (7, true)⟩,
 ⟨some 10, .bin .geq (.t 9) (.c (.int .i64 (0 : Nat))), some (7, true)⟩,
 ⟨some 11, .pick (.t 7) (.t 10) (.c (.bool false)), none⟩,
 ⟨some 12, .mov (.t 11), none⟩,
 ⟨some 13, .faddr 0 (.t 3), some (12, true)⟩,
 ⟨some 14, .load1 (.t 13), some (12, true)⟩,
 ⟨some 15, .faddr 1 (.t 2), some (12, true)⟩,
 ⟨some 16, .load1 (.t 15), some (12, true)⟩,
 ⟨some 17, .len .sl (.t 16), some (12, true)⟩,
 ⟨some 18, .bin .lss (.t 14) (.t 17), some (12, true)⟩,
 ⟨some 19, .pick (.t 12) (.t 18) (.c (.bool false)), none⟩,
 ⟨some 4, .mov (.t 19), none⟩]
def F73 : AFunc := ⟨2, List.replicate 18 und, [.tmp 4],
 (.seq
 (.reg F73u0)
 (.seq
 (.reg F73u1)
 .ret))⟩
/-! univocal/univocalref01.Index -/
def F74u0 : List AIns := [⟨some 4, .mov (.c (.int .i64 (0 : Nat))), none⟩]
def F74u1 : List AIns := [⟨some 5, .mov (.c (.int .i64 (0 : Nat))), none⟩]
def F74u2 : List AIns := [⟨some 6, .mov (.t 5), none⟩,
 ⟨some 7, .mov (.t 0), none⟩,
 ⟨some 8, .len .sl (.t 7), none⟩,
 ⟨some 9, .bin .lss (.t 6) (.t 8), none⟩]
def F74u3 : List AIns := [⟨some 12, .mov (.t 0), none⟩,
 ⟨some 13, .mov (.t 5), none⟩,
 ⟨some 14, .iaddrS 4 (.t 12) (.t 13), none⟩,
 ⟨some 15, .loadN 4 (.t 14), none⟩,
 ⟨some 16, .mov (.t 1), none⟩,
 ⟨some 17, .call 113 [(.t 15), (.t 16)], none⟩]
def F74u4 : List AIns := [⟨some 18, .mov (.t 5), none⟩,
 ⟨some 4, .mov (.t 18), none⟩]
def F74u5 : List AIns := [⟨some 10, .mov (.t 5), none⟩,
 ⟨some 11, .bin .add (.t 10) (.c (.int .i64 (1 : Nat))), none⟩,
 ⟨some 5, .mov (.t 11), none⟩]
def F74u6 : List AIns := [⟨some 4, .mov (.c (.int .i64 (.negSucc 0))), none⟩]
def F74 : AFunc := ⟨2, List.replicate 17 und, [.tmp 4],
 (.seq
 (.reg F74u0)
 (.seq
 (.seq
 (.reg F74u1)
 (.block 0
 (.loop
 (.seq
 (.seq
 (.reg F74u2)
 (.cond (.t 9)
 .skip
 (.exit 0)))
 (.seq
 (.block 1
 (.seq
 (.reg F74u3)
 (.cond (.t 17)
 (.seq
 (.reg F74u4)
 .ret)
 .skip)))
 (.reg F74u5))))))
 (.seq
 (.reg F74u6)
 .ret)))⟩
/-! univocal/class.Index -/
def F111u0 : List AIns := [⟨some 3, .box (.t 1), none⟩,
 ⟨some 4, .mov (.c (.int .i64 (0 : Nat))), none⟩]
def F111u1 : List AIns := [⟨some 5, .mov (.t 0), none⟩,
 ⟨some 6, .mkf (.func 159) [] [(.t 3)], none⟩,
 ⟨some 7, .call 158 [(.t 5), (.t 6)], none⟩,
 ⟨some 4, .mov (.t 7), none⟩]
def F111 : AFunc := ⟨2, List.replicate 6 und, [.tmp 4],
 (.seq
 (.reg F111u0)
 (.seq
 (.reg F111u1)
 .ret))⟩
/-! univocal/univocalref01.Bytes -/
def F112u0 : List AIns := [⟨some 1, .box (.t 0), none⟩,
 ⟨some 2, .mov (.c .nils), none⟩]
def F112u1 : List AIns := [⟨some 5, .bslice [(.int .u8 (0 : Nat))] 1 0 [], none⟩,
 ⟨some 3, .mov (.t 5), none⟩]
def F112u2 : List AIns := [⟨some 4, .mov (.c (.int .i64 (0 : Nat))), none⟩]
def F112u3 : List AIns := [⟨some 6, .mov (.t 4), none⟩,
 ⟨some 7, .bin .lss (.t 6) (.c (.int .i64 (256 : Nat))), none⟩]
def F112u4 : List AIns := [⟨some 10, .loadN 4 (.t 1), none⟩,
 ⟨some 11, .mov (.t 4), none⟩,
 ⟨some 12, .convI .u8 (.t 11), none⟩,
 ⟨some 13, .call 113 [(.t 10), (.t 12)], none⟩]
def F112u5 : List AIns := [⟨some 14, .mov (.t 3), none⟩,
 ⟨some 15, .mov (.t 4), none⟩,
 ⟨some 16, .convI .u8 (.t 15), none⟩,
 ⟨some 17, .bslice [(.int .u8 (0 : Nat))] 1 1 [(0, (.t 16))], none⟩,
 ⟨some 18, .app 1 1 (.t 14) (.t 17), none⟩,
 ⟨some 3, .mov (.t 18), none⟩]
def F112u6 : List AIns := [⟨some 8, .mov (.t 4), none⟩,
 ⟨some 9, .bin .add (.t 8) (.c (.int .i64 (1 : Nat))), none⟩,
 ⟨some 4, .mov (.t 9), none⟩]
def F112u7 : List AIns := [⟨some 19, .mov (.t 3), none⟩,
 ⟨some 2, .mov (.t 19), none⟩]
def F112 : AFunc := ⟨1, List.replicate 19 und, [.tmp 2],
 (.seq
 (.reg F112u0)
 (.seq
 (.reg F112u1)
 (.seq
 (.seq
 (.reg F112u2)
 (.block 0
 (.loop
 (.seq
 (.seq
 (.reg F112u3)
 (.cond (.t 7)
 .skip
 (.exit 0)))
 (.seq
 (.block 1
 (.seq
 (.reg F112u4)
 (.cond (.t 13)
 (.reg F112u5)
 .skip)))
 (.reg F112u6))))))
 (.seq
 (.reg F112u7)
 .ret))))⟩
/-! univocal/univocalref01.Has -/
def F113u0 : List AIns := [⟨some 2, .box (.t 0), none⟩,
 ⟨some 4, .mov (.c (.bool false)), none⟩]
def F113u1 : List AIns := [⟨some 5, .mov (.t 1), none⟩,
 ⟨some 6, .bin .quo (.t 5) (.c (.int .u8 (64 : Nat))), none⟩,
 ⟨some 7, .iaddrA 1 4 (.t 2) (.t 6), none⟩,
 ⟨some 8, .load1 (.t 7), none⟩,
 ⟨some 9, .mov (.t 1), none⟩,
 ⟨some 10, .bin .rem (.t 9) (.c (.int .u8 (64 : Nat))), none⟩,
 ⟨some 11, .bin .shr (.t 8) (.t 10), none⟩,
 ⟨some 12, .bin .rem (.t 11) (.c (.int .u64 (2 : Nat))), none⟩,
 ⟨some 13, .bin .eql (.t 12) (.c (.int .u64 (1 : Nat))), none⟩,
 ⟨some 4, .mov (.t 13), none⟩]
def F113 : AFunc := ⟨2, List.replicate 12 und, [.tmp 4],
 (.seq
 (.reg F113u0)
 (.seq
 (.reg F113u1)
 .ret))⟩
/-! univocal/univocalref01.With -/
def F114u0 : List AIns := [⟨some 2, .box (.t 0), none⟩,
 ⟨some 4, .alloc [(.int .u64 (0 : Nat)), (.int .u64 (0 : Nat)), (.int .u64 (0 : Nat)), (.int .u64 (0 : Nat))], none⟩]
def F114u1 : List AIns := [⟨some 6, .mov (.t 1), none⟩,
 ⟨some 7, .bin .rem (.t 6) (.c (.int .u8 (64 : Nat))), none⟩,
 ⟨some 8, .bin .shl (.c (.int .u64 (1 : Nat))) (.t 7), none⟩,
 ⟨some 5, .mov (.t 8), none⟩]
def F114u2 : List AIns := [⟨some 9, .mov (.t 1), none⟩,
 ⟨some 10, .bin .quo (.t 9) (.c (.int .u8 (64 : Nat))), none⟩,
 ⟨some 11, .mov (.t 1), none⟩,
 ⟨some 12, .bin .quo (.t 11) (.c (.int .u8 (64 : Nat))), none⟩,
 ⟨some 13, .iaddrA 1 4 (.t 2) (.t 12), none⟩,
 ⟨some 14, .load1 (.t 13), none⟩,
 ⟨some 15, .mov (.t 5), none⟩,
 ⟨some 16, .bin .or (.t 14) (.t 15), none⟩,
 ⟨some 17, .iaddrA 1 4 (.t 2) (.t 10), none⟩,
 ⟨none, .store 1 (.t 17) (.t 16), none⟩]
def F114u3 : List AIns := [⟨some 18, .loadN 4 (.t 2), none⟩,
 ⟨none, .store 4 (.t 4) (.t 18), none⟩]
def F114 : AFunc := ⟨2, List.replicate 17 und, [.cell 4 (some 4)],
 (.seq
 (.reg F114u0)
 (.seq
 (.reg F114u1)
 (.seq
 (.reg F114u2)
 (.seq
 (.reg F114u3)
 .ret))))⟩
/-! slices.IndexFunc[[]univocal/api.Class,univocal/api.Class] -/
def F158u0 : List AIns := [⟨some 4, .mov (.c (.int .i64 (0 : Nat))), none⟩]
def F158u1 : List AIns := [⟨some 6, .mov (.t 0), none⟩,
 ⟨some 7, .len .sl (.t 6), none⟩,
 ⟨some 8, .mov (.c (.int .i64 (0 : Nat))), none⟩]
def F158u2 : List AIns := [⟨some 9, .bin .lss (.t 8) (.t 7), none⟩]
def F158u3 : List AIns := [⟨some 10, .mov (.t 8), none⟩,
 ⟨some 5, .mov (.t 10), none⟩]
def F158u4 : List AIns := [⟨some 11, .mov (.t 1), none⟩,
 ⟨some 12, .mov (.t 0), none⟩,
 ⟨some 13, .mov (.t 5), none⟩,
 ⟨some 14, .iaddrS 4 (.t 12) (.t 13), none⟩,
 ⟨some 15, .loadN 4 (.t 14), none⟩,
 ⟨some 16, .dyn (.t 11) [(.t 15)], none⟩]
def F158u5 : List AIns := [⟨some 17, .mov (.t 5), none⟩,
 ⟨some 4, .mov (.t 17), none⟩]
def F158u6 : List AIns := [⟨some 18, .bin .add (.t 8) (.c (.int .i64 (1 : Nat))), none⟩,
 ⟨some 8, .mov (.t 18), none⟩]
def F158u7 : List AIns := [⟨some 4, .mov (.c (.int .i64 (.negSucc 0))), none⟩]
def F158 : AFunc := ⟨2, List.replicate 17 und, [.tmp 4],
 (.seq
 (.reg F158u0)
 (.seq
 (.seq
 (.reg F158u1)
 (.block 0
 (.loop
 (.seq
 (.reg F158u2)
 (.seq
 (.cond (.t 9)
 .skip
 (.exit 0))
 (.seq
 (.block 1
 (.seq
 (.reg F158u3)
 (.seq
 (.reg F158u4)
 (.cond (.t 16)
 (.seq
 (.reg F158u5)
 .ret)
 .skip))))
 (.reg F158u6)))))))
 (.seq
 (.reg F158u7)
 .ret)))⟩
/-! univocal/class.Index$1 -/
def F159u0 : List AIns := [⟨some 2, .box (.t 0), none⟩,
 ⟨some 3, .mov (.c (.bool false)), none⟩]
def F159u1 : List AIns := [⟨some 4, .loadN 4 (.t 2), none⟩,
 ⟨some 5, .load1 (.t 1), none⟩,
 ⟨some 6, .call 160 [(.t 4), (.t 5)], none⟩,
 ⟨some 3, .mov (.t 6), none⟩]
def F159 : AFunc := ⟨2, List.replicate 5 und, [.tmp 3],
 (.seq
 (.reg F159u0)
 (.seq
 (.reg F159u1)
 .ret))⟩
/-! univocal/class.Has -/
def F160u0 : List AIns := [⟨some 2, .box (.t 0), none⟩,
 ⟨some 4, .mov (.c (.bool false)), none⟩]
def F160u1 : List AIns := [⟨some 5, .mov (.t 1), none⟩,
 ⟨some 6, .bin .quo (.t 5) (.c (.int .u8 (64 : Nat))), none⟩,
 ⟨some 7, .iaddrA 1 4 (.t 2) (.t 6), none⟩,
 ⟨some 8, .load1 (.t 7), none⟩,
 ⟨some 9, .mov (.t 1), none⟩,
 ⟨some 10, .bin .rem (.t 9) (.c (.int .u8 (64 : Nat))), none⟩,
 ⟨some 11, .bin .shl (.c (.int .u64 (1 : Nat))) (.t 10), none⟩,
 ⟨some 12, .bin .and (.t 8) (.t 11), none⟩,
 ⟨some 13, .bin .neq (.t 12) (.c (.int .u64 (0 : Nat))), none⟩,
 ⟨some 4, .mov (.t 13), none⟩]
def F160 : AFunc := ⟨2, List.replicate 12 und, [.tmp 4],
 (.seq
 (.reg F160u0)
 (.seq
 (.reg F160u1)
 .ret))⟩
theorem E3 : E0 3 = some F3 := by kernel_rfl
theorem E5 : E0 5 = some F5 := by kernel_rfl
theorem E6 : E0 6 = some F6 := by kernel_rfl
theorem E7 : E0 7 = some F7 := by kernel_rfl
theorem E8 : E0 8 = some F8 := by kernel_rfl
theorem E18 : E0 18 = some F18 := by kernel_rfl
theorem E19 : E0 19 = some F19 := by kernel_rfl
theorem E20 : E0 20 = some F20 := by kernel_rfl
theorem E21 : E0 21 = some F21 := by kernel_rfl
theorem E22 : E0 22 = some F22 := by kernel_rfl
theorem E35 : E0 35 = some F35 := by kernel_rfl
theorem E36 : E0 36 = some F36 := by kernel_rfl
theorem E37 : E0 37 = some F37 := by kernel_rfl
theorem E38 : E0 38 = some F38 := by kernel_rfl
theorem E39 : E0 39 = some F39 := by kernel_rfl
theorem E40 : E0 40 = some F40 := by kernel_rfl
theorem E41 : E0 41 = some F41 := by kernel_rfl
theorem E42 : E0 42 = some F42 := by kernel_rfl
theorem E43 : E0 43 = some F43 := by kernel_rfl
theorem E63 : E0 63 = some F63 := by kernel_rfl
theorem E64 : E0 64 = some F64 := by kernel_rfl
theorem E65 : E0 65 = some F65 := by kernel_rfl
theorem E66 : E0 66 = some F66 := by kernel_rfl
theorem E67 : E0 67 = some F67 := by kernel_rfl
theorem E68 : E0 68 = some F68 := by kernel_rfl
theorem E69 : E0 69 = some F69 := by kernel_rfl
theorem E70 : E0 70 = some F70 := by kernel_rfl
theorem E71 : E0 71 = some F71 := by kernel_rfl
theorem E72 : E0 72 = some F72 := by kernel_rfl
theorem E73 : E0 73 = some F73 := by kernel_rfl
theorem E74 : E0 74 = some F74 := by kernel_rfl
theorem E111 : E0 111 = some F111 := by kernel_rfl
theorem E112 : E0 112 = some F112 := by kernel_rfl
theorem E113 : E0 113 = some F113 := by kernel_rfl
theorem E114 : E0 114 = some F114 := by kernel_rfl
theorem E158 : E0 158 = some F158 := by kernel_rfl
theorem E159 : E0 159 = some F159 := by kernel_rfl
theorem E160 : E0 160 = some F160 := by kernel_rfl
end Go.Proofs.YtfaeabhbeolpgaaGreatDoor
end
