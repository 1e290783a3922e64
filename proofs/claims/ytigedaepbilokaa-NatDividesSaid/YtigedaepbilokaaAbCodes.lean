import Derived.Test.YtigedaepbilokaaAb14
import Derived.Test.YtigedaepbilokaaProg
namespace Go.Proofs.Ytigedaepbilokaa.Nat
open Go Go.Ab
open Go.Ab.SOp Go.Ab.SC Go.Ab.Opd
set_option linter.unusedVariables false
set_option maxRecDepth 20000
def F_gaugelaw1_NatDivides : FuncId := 6
def S_gaugelaw1_NatDivides_j1 : SC :=
 .region [⟨some 31, .mv (.t 3), none⟩, ⟨some 32, .bin .add (.t 31) (.c (.int .i64 1)), none⟩, ⟨some 3, .mv (.t 32), none⟩] [3, 0]
/-- gauge / gaugelaw1.NatDivides -/
def S_gaugelaw1_NatDivides : SC :=
 .seq (.region [⟨some 2, .mv (.c (.bool false)), none⟩] [0])
 (.seq (.seq (.region [⟨some 3, .mv (.c (.int .i64 0)), none⟩] [3, 0])
 (.block 0 [] (.loop [3, 0] (.seq (.seq (.region [⟨some 23, .mv (.t 3), none⟩, ⟨some 24, .mv (.t 0), none⟩, ⟨some 25, .len (.t 24), none⟩, ⟨some 26, .bin .lss (.t 23) (.t 25), none⟩, ⟨some 27, .mv (.t 26), none⟩, ⟨some 28, .mv (.t 3), some (27, true)⟩, ⟨some 29, .bin .lss (.t 28) (.c (.int .i64 60)), some (27, true)⟩, ⟨some 30, .pick (.t 27) (.t 29) (.c (.bool false)), none⟩] [30, 3, 0])
 (.cond (.t 30) (.region [] [3, 0])
 (.exit 0)))
 (.seq (.block 1 [3, 0] (.seq (.seq (.seq .says (.drawn [0, 1, 2, 3, 4, 5, 6, 7, 8, 9, 10, 11, 12, 13, 14, 15, 16] [⟨some 33, .mv (.t 0), none⟩, ⟨some 34, .mv (.t 3), none⟩, ⟨some 35, .ix 3 (.t 33) (.t 34), none⟩, ⟨some 36, .fa 0 (.t 35), none⟩, ⟨some 37, .ld false 1 (.t 36), none⟩, ⟨some 38, .mv (.t 0), none⟩, ⟨some 39, .mv (.t 3), none⟩, ⟨some 40, .ix 3 (.t 38) (.t 39), none⟩, ⟨some 41, .fa 1 (.t 40), none⟩, ⟨some 42, .ld false 1 (.t 41), none⟩, ⟨some 43, .mv (.t 0), none⟩, ⟨some 44, .mv (.t 3), none⟩, ⟨some 45, .ix 3 (.t 43) (.t 44), none⟩, ⟨some 46, .fa 2 (.t 45), none⟩, ⟨some 47, .ld false 1 (.t 46), none⟩, ⟨some 48, .bsl false 1 3 [.slice none 0 0] [(0, .t 37), (1, .t 42), (2, .t 47)], none⟩, ⟨some 49, .callq 8 [.c (.int .i64 300), .t 48], none⟩] [49, 3, 0]))
 (.cond (.t 49) (.seq (.region [⟨some 2, .mv (.c (.bool true)), none⟩] [2])
 (.ret))
 (.region [] [3, 0])))
 (.seq (.region [⟨some 50, .mv (.t 0), none⟩, ⟨some 51, .mv (.t 3), none⟩, ⟨some 52, .ix 3 (.t 50) (.t 51), none⟩, ⟨some 53, .fa 0 (.t 52), none⟩, ⟨some 54, .ld false 1 (.t 53), none⟩, ⟨some 55, .call 9 [.t 54], none⟩, ⟨some 4, .mv (.t 55), none⟩] [4, 3, 0])
 (.seq (.region [⟨some 56, .mv (.t 0), none⟩, ⟨some 57, .mv (.t 3), none⟩, ⟨some 58, .ix 3 (.t 56) (.t 57), none⟩, ⟨some 59, .fa 1 (.t 58), none⟩, ⟨some 60, .ld false 1 (.t 59), none⟩, ⟨some 61, .call 9 [.t 60], none⟩, ⟨some 5, .mv (.t 61), none⟩] [5, 4, 3, 0])
 (.seq (.region [⟨some 62, .mv (.t 0), none⟩, ⟨some 63, .mv (.t 3), none⟩, ⟨some 64, .ix 3 (.t 62) (.t 63), none⟩, ⟨some 65, .fa 2 (.t 64), none⟩, ⟨some 66, .ld false 1 (.t 65), none⟩, ⟨some 67, .call 9 [.t 66], none⟩, ⟨some 6, .mv (.t 67), none⟩] [6, 5, 4, 3, 0])
 (.seq (.seq (.region [⟨some 68, .mv (.t 5), none⟩, ⟨some 69, .len (.t 68), none⟩, ⟨some 70, .bin .eql (.t 69) (.c (.int .i64 0)), none⟩] [70, 6, 5, 4, 3, 0])
 (.cond (.t 70) (.exit 1)
 (.region [] [6, 5, 4, 3, 0])))
 (.seq (.region [⟨some 72, .mv (.t 6), none⟩, ⟨some 73, .mv (.t 5), none⟩, ⟨some 74, .call 21 [.t 72, .t 73], none⟩, ⟨some 71, .mv (.t 74), none⟩, ⟨some 75, .ext (.t 71) 0, none⟩, ⟨some 76, .ext (.t 71) 1, none⟩, ⟨some 77, .ext (.t 71) 2, none⟩, ⟨some 7, .mv (.t 75), none⟩, ⟨some 8, .mv (.t 76), none⟩, ⟨some 9, .mv (.t 77), none⟩] [9, 8, 6, 5, 4, 3, 0])
 (.seq (.region [⟨some 79, .mv (.t 4), none⟩, ⟨some 80, .mv (.t 5), none⟩, ⟨some 81, .call 12 [.t 79, .t 80], none⟩, ⟨some 82, .mv (.t 8), none⟩, ⟨some 83, .call 11 [.t 81, .t 82], none⟩, ⟨some 84, .mv (.t 5), none⟩, ⟨some 85, .call 21 [.t 83, .t 84], none⟩, ⟨some 78, .mv (.t 85), none⟩, ⟨some 86, .ext (.t 78) 0, none⟩, ⟨some 87, .ext (.t 78) 1, none⟩, ⟨some 88, .ext (.t 78) 2, none⟩, ⟨some 10, .mv (.t 86), none⟩, ⟨some 11, .mv (.t 87), none⟩, ⟨some 12, .mv (.t 88), none⟩] [12, 11, 10, 9, 8, 6, 5, 4, 3, 0])
 (.seq (.seq (.region [⟨some 89, .mv (.t 9), none⟩, ⟨some 90, .call 14 [.t 89], none⟩, ⟨some 91, .bin .neq (.t 90) (.c (.int .i64 0)), none⟩, ⟨some 92, .mv (.t 91), none⟩, ⟨some 93, .mv (.t 12), some (92, false)⟩, ⟨some 94, .call 14 [.t 93], some (92, false)⟩, ⟨some 95, .bin .neq (.t 94) (.c (.int .i64 0)), some (92, false)⟩, ⟨some 96, .pick (.t 92) (.c (.bool true)) (.t 95), none⟩, ⟨some 97, .mv (.t 96), none⟩, ⟨some 98, .mv (.t 8), some (97, false)⟩, ⟨some 99, .mv (.t 5), some (97, false)⟩, ⟨some 100, .call 15 [.t 98, .t 99], some (97, false)⟩, ⟨some 101, .bin .geq (.t 100) (.c (.int .i64 0)), some (97, false)⟩, ⟨some 102, .pick (.t 97) (.c (.bool true)) (.t 101), none⟩, ⟨some 103, .mv (.t 102), none⟩, ⟨some 104, .mv (.t 10), some (103, false)⟩, ⟨some 105, .mv (.t 4), some (103, false)⟩, ⟨some 106, .call 10 [.t 104, .t 105], some (103, false)⟩, ⟨some 107, .un .not (.t 106), some (103, false)⟩, ⟨some 108, .pick (.t 103) (.c (.bool true)) (.t 107), none⟩, ⟨some 109, .mv (.t 108), none⟩, ⟨some 110, .mv (.t 11), some (109, false)⟩, ⟨some 111, .mv (.t 8), some (109, false)⟩, ⟨some 112, .call 10 [.t 110, .t 111], some (109, false)⟩, ⟨some 113, .un .not (.t 112), some (109, false)⟩, ⟨some 114, .pick (.t 109) (.c (.bool true)) (.t 113), none⟩] [114, 6, 5, 3, 0])
 (.cond (.t 114) (.seq (.region [⟨some 2, .mv (.c (.bool false)), none⟩] [2])
 (.ret))
 (.region [] [6, 5, 3, 0])))
 (.seq (.region [⟨some 116, .mv (.t 6), none⟩, ⟨some 117, .mv (.t 5), none⟩, ⟨some 118, .call 20 [.t 116, .t 117], none⟩, ⟨some 115, .mv (.t 118), none⟩, ⟨some 119, .ext (.t 115) 0, none⟩, ⟨some 120, .ext (.t 115) 1, none⟩, ⟨some 13, .mv (.t 119), none⟩, ⟨some 14, .mv (.t 120), none⟩] [14, 13, 6, 5, 3, 0])
 (.seq (.region [⟨some 122, .mv (.t 6), none⟩, ⟨some 123, .mv (.t 13), none⟩, ⟨some 124, .call 21 [.t 122, .t 123], none⟩, ⟨some 121, .mv (.t 124), none⟩, ⟨some 125, .ext (.t 121) 0, none⟩, ⟨some 126, .ext (.t 121) 1, none⟩, ⟨some 127, .ext (.t 121) 2, none⟩, ⟨some 15, .mv (.t 125), none⟩, ⟨some 16, .mv (.t 126), none⟩, ⟨some 17, .mv (.t 127), none⟩] [17, 16, 15, 14, 13, 5, 3, 0])
 (.seq (.region [⟨some 129, .mv (.t 5), none⟩, ⟨some 130, .mv (.t 13), none⟩, ⟨some 131, .call 21 [.t 129, .t 130], none⟩, ⟨some 128, .mv (.t 131), none⟩, ⟨some 132, .ext (.t 128) 0, none⟩, ⟨some 133, .ext (.t 128) 1, none⟩, ⟨some 134, .ext (.t 128) 2, none⟩, ⟨some 18, .mv (.t 132), none⟩, ⟨some 19, .mv (.t 133), none⟩, ⟨some 20, .mv (.t 134), none⟩] [20, 19, 18, 17, 16, 15, 14, 3, 0])
 (.seq (.region [⟨some 136, .mv (.t 15), none⟩, ⟨some 137, .mv (.t 18), none⟩, ⟨some 138, .call 20 [.t 136, .t 137], none⟩, ⟨some 135, .mv (.t 138), none⟩, ⟨some 139, .ext (.t 135) 0, none⟩, ⟨some 140, .ext (.t 135) 1, none⟩, ⟨some 21, .mv (.t 139), none⟩, ⟨some 22, .mv (.t 140), none⟩] [22, 21, 20, 19, 17, 16, 14, 3, 0])
 (.seq (.region [⟨some 141, .mv (.t 14), none⟩, ⟨some 142, .call 14 [.t 141], none⟩, ⟨some 143, .bin .neq (.t 142) (.c (.int .i64 0)), none⟩, ⟨some 144, .mv (.t 143), none⟩, ⟨some 145, .mv (.t 17), some (144, false)⟩, ⟨some 146, .call 14 [.t 145], some (144, false)⟩, ⟨some 147, .bin .neq (.t 146) (.c (.int .i64 0)), some (144, false)⟩, ⟨some 148, .pick (.t 144) (.c (.bool true)) (.t 147), none⟩, ⟨some 149, .mv (.t 148), none⟩, ⟨some 150, .mv (.t 20), some (149, false)⟩, ⟨some 151, .call 14 [.t 150], some (149, false)⟩, ⟨some 152, .bin .neq (.t 151) (.c (.int .i64 0)), some (149, false)⟩, ⟨some 153, .pick (.t 149) (.c (.bool true)) (.t 152), none⟩, ⟨some 154, .mv (.t 153), none⟩, ⟨some 155, .mv (.t 22), some (154, false)⟩, ⟨some 156, .call 14 [.t 155], some (154, false)⟩, ⟨some 157, .bin .neq (.t 156) (.c (.int .i64 0)), some (154, false)⟩, ⟨some 158, .pick (.t 154) (.c (.bool true)) (.t 157), none⟩, ⟨some 159, .mv (.t 158), none⟩, ⟨some 160, .mv (.t 16), some (159, false)⟩, ⟨some 161, .len (.t 160), some (159, false)⟩, ⟨some 162, .bin .gtr (.t 161) (.c (.int .i64 0)), some (159, false)⟩, ⟨some 163, .pick (.t 159) (.c (.bool true)) (.t 162), none⟩, ⟨some 164, .mv (.t 163), none⟩, ⟨some 165, .mv (.t 19), some (164, false)⟩, ⟨some 166, .len (.t 165), some (164, false)⟩, ⟨some 167, .bin .gtr (.t 166) (.c (.int .i64 0)), some (164, false)⟩, ⟨some 168, .pick (.t 164) (.c (.bool true)) (.t 167), none⟩, ⟨some 169, .mv (.t 168), none⟩, ⟨some 170, .mv (.t 21), some (169, false)⟩, ⟨some 171, .call 16 [.c (.int .u64 1)], some (169, false)⟩, ⟨some 172, .call 10 [.t 170, .t 171], some (169, false)⟩, ⟨some 173, .un .not (.t 172), some (169, false)⟩, ⟨some 174, .pick (.t 169) (.c (.bool true)) (.t 173), none⟩] [174, 3, 0])
 (.cond (.t 174) (.seq (.region [⟨some 2, .mv (.c (.bool false)), none⟩] [2])
 (.ret))
 (.region [] [3, 0]))))))))))))))))
 (.seq .says S_gaugelaw1_NatDivides_j1))))))
 (.seq (.region [⟨some 175, .call 17 [], none⟩, ⟨some 2, .mv (.t 175), none⟩] [2])
 (.ret)))
theorem C_gaugelaw1_NatDivides : Codes Go.Proofs.Try.prog F_gaugelaw1_NatDivides S_gaugelaw1_NatDivides 176 [2] := ⟨Go.Proofs.Try.f6, Go.Proofs.Try.f6.body.getD .skip, Go.Proofs.Try.func6, by kernel_rfl, by kernel_rfl, by kernel_rfl, by kernel_rfl, by kernel_rfl⟩
def F_gaugelaw0_Limbs : FuncId := 8
/-- gauge / gaugelaw0.Limbs -/
def S_gaugelaw0_Limbs : SC :=
 .seq (.region [⟨some 4, .mv (.c (.bool false)), none⟩] [1, 0])
 (.seq (.region [⟨some 5, .mv (.c (.int .i64 0)), none⟩] [5, 1, 0])
 (.seq (.seq (.region [⟨some 6, .mv (.c (.int .i64 0)), none⟩] [6, 5, 1, 0])
 (.block 0 [] (.loop [6, 5, 1, 0] (.seq (.seq (.region [⟨some 7, .mv (.t 6), none⟩, ⟨some 8, .mv (.t 1), none⟩, ⟨some 9, .len (.t 8), none⟩, ⟨some 10, .bin .lss (.t 7) (.t 9), none⟩] [10, 6, 5, 1, 0])
 (.cond (.t 10) (.region [] [6, 5, 1, 0])
 (.exit 0)))
 (.seq (.block 1 [6, 5, 1, 0] (.seq (.region [⟨some 13, .mv (.t 5), none⟩, ⟨some 14, .mv (.t 1), none⟩, ⟨some 15, .mv (.t 6), none⟩, ⟨some 16, .ix 1 (.t 14) (.t 15), none⟩, ⟨some 17, .ld false 1 (.t 16), none⟩, ⟨some 18, .len (.t 17), none⟩, ⟨some 19, .bin .add (.t 13) (.t 18), none⟩, ⟨some 5, .mv (.t 19), none⟩] [6, 5, 1, 0])
 (.seq (.region [⟨some 20, .mv (.t 5), none⟩, ⟨some 21, .mv (.t 0), none⟩, ⟨some 22, .bin .gtr (.t 20) (.t 21), none⟩] [22, 6, 5, 1, 0])
 (.cond (.t 22) (.seq (.region [⟨some 4, .mv (.c (.bool true)), none⟩] [4])
 (.ret))
 (.region [] [6, 5, 1, 0])))))
 (.region [⟨some 11, .mv (.t 6), none⟩, ⟨some 12, .bin .add (.t 11) (.c (.int .i64 1)), none⟩, ⟨some 6, .mv (.t 12), none⟩] [6, 5, 1, 0]))))))
 (.seq (.region [⟨some 4, .mv (.c (.bool false)), none⟩] [4])
 (.ret))))
theorem C_gaugelaw0_Limbs : Codes Go.Proofs.Try.prog F_gaugelaw0_Limbs S_gaugelaw0_Limbs 23 [4] := ⟨Go.Proofs.Try.f8, Go.Proofs.Try.f8.body.getD .skip, Go.Proofs.Try.func8, by kernel_rfl, by kernel_rfl, by kernel_rfl, by kernel_rfl, by kernel_rfl⟩
def F_gaugeref1_Trim : FuncId := 9
/-- gauge / gaugeref1.Trim -/
def S_gaugeref1_Trim : SC :=
 .seq (.region [⟨some 2, .mv (.c (.slice none 0 0)), none⟩] [0])
 (.seq (.region [⟨some 4, .mv (.t 0), none⟩, ⟨some 5, .len (.t 4), none⟩, ⟨some 3, .mv (.t 5), none⟩] [3, 0])
 (.seq (.block 0 [3, 0] (.loop [3, 0] (.seq (.seq (.region [⟨some 6, .mv (.t 3), none⟩, ⟨some 7, .bin .gtr (.t 6) (.c (.int .i64 0)), none⟩, ⟨some 8, .mv (.t 7), none⟩, ⟨some 9, .mv (.t 0), some (8, true)⟩, ⟨some 10, .mv (.t 3), some (8, true)⟩, ⟨some 11, .bin .sub (.t 10) (.c (.int .i64 1)), some (8, true)⟩, ⟨some 12, .ix 1 (.t 9) (.t 11), some (8, true)⟩, ⟨some 13, .ld false 1 (.t 12), some (8, true)⟩, ⟨some 14, .bin .eql (.t 13) (.c (.int .u64 0)), some (8, true)⟩, ⟨some 15, .pick (.t 8) (.t 14) (.c (.bool false)), none⟩] [15, 3, 0])
 (.cond (.t 15) (.region [] [3, 0])
 (.exit 0)))
 (.block 1 [3, 0] (.region [⟨some 16, .mv (.t 3), none⟩, ⟨some 17, .bin .sub (.t 16) (.c (.int .i64 1)), none⟩, ⟨some 3, .mv (.t 17), none⟩] [3, 0])))))
 (.seq (.region [⟨some 18, .mv (.t 0), none⟩, ⟨some 19, .mv (.t 3), none⟩, ⟨some 20, .sl 1 (.t 18) none (some (.t 19)) none, none⟩, ⟨some 2, .mv (.t 20), none⟩] [2])
 (.ret))))
theorem C_gaugeref1_Trim : Codes Go.Proofs.Try.prog F_gaugeref1_Trim S_gaugeref1_Trim 21 [2] := ⟨Go.Proofs.Try.f9, Go.Proofs.Try.f9.body.getD .skip, Go.Proofs.Try.func9, by kernel_rfl, by kernel_rfl, by kernel_rfl, by kernel_rfl, by kernel_rfl⟩
def F_gaugeref0_EqNat : FuncId := 10
/-- gauge / gaugeref0.EqNat -/
def S_gaugeref0_EqNat : SC :=
 .seq (.region [⟨some 4, .mv (.c (.bool false)), none⟩] [1, 0])
 (.seq (.seq (.region [⟨some 6, .mv (.t 0), none⟩, ⟨some 7, .len (.t 6), none⟩, ⟨some 8, .mv (.t 1), none⟩, ⟨some 9, .len (.t 8), none⟩, ⟨some 10, .bin .neq (.t 7) (.t 9), none⟩] [10, 1, 0])
 (.cond (.t 10) (.seq (.region [⟨some 4, .mv (.c (.bool false)), none⟩] [4])
 (.ret))
 (.region [] [1, 0])))
 (.seq (.seq (.region [⟨some 5, .mv (.c (.int .i64 0)), none⟩] [5, 1, 0])
 (.block 0 [] (.loop [5, 1, 0] (.seq (.seq (.region [⟨some 11, .mv (.t 5), none⟩, ⟨some 12, .mv (.t 0), none⟩, ⟨some 13, .len (.t 12), none⟩, ⟨some 14, .bin .lss (.t 11) (.t 13), none⟩] [14, 5, 1, 0])
 (.cond (.t 14) (.region [] [5, 1, 0])
 (.exit 0)))
 (.seq (.block 1 [5, 1, 0] (.seq (.drawn [0, 1, 2, 3, 4, 5, 6, 7, 8] [⟨some 17, .mv (.t 0), none⟩, ⟨some 18, .mv (.t 5), none⟩, ⟨some 19, .ix 1 (.t 17) (.t 18), none⟩, ⟨some 20, .ld false 1 (.t 19), none⟩, ⟨some 21, .mv (.t 1), none⟩, ⟨some 22, .mv (.t 5), none⟩, ⟨some 23, .ix 1 (.t 21) (.t 22), none⟩, ⟨some 24, .ld false 1 (.t 23), none⟩, ⟨some 25, .bin .neq (.t 20) (.t 24), none⟩] [25, 5, 1, 0])
 (.cond (.t 25) (.seq (.region [⟨some 4, .mv (.c (.bool false)), none⟩] [4])
 (.ret))
 (.region [] [5, 1, 0]))))
 (.region [⟨some 15, .mv (.t 5), none⟩, ⟨some 16, .bin .add (.t 15) (.c (.int .i64 1)), none⟩, ⟨some 5, .mv (.t 16), none⟩] [5, 1, 0]))))))
 (.seq (.region [⟨some 4, .mv (.c (.bool true)), none⟩] [4])
 (.ret))))
theorem C_gaugeref0_EqNat : Codes Go.Proofs.Try.prog F_gaugeref0_EqNat S_gaugeref0_EqNat 26 [4] := ⟨Go.Proofs.Try.f10, Go.Proofs.Try.f10.body.getD .skip, Go.Proofs.Try.func10, by kernel_rfl, by kernel_rfl, by kernel_rfl, by kernel_rfl, by kernel_rfl⟩
def F_gaugelaw1_add : FuncId := 11
/-- gauge / gaugelaw1.add -/
def S_gaugelaw1_add : SC :=
 .seq (.region [⟨some 4, .mv (.c (.slice none 0 0)), none⟩] [1, 0])
 (.seq (.region [⟨some 8, .mv (.t 0), none⟩, ⟨some 9, .mv (.t 1), none⟩, ⟨some 10, .call 27 [.t 8, .t 9], none⟩, ⟨some 7, .mv (.t 10), none⟩, ⟨some 11, .ext (.t 7) 0, none⟩, ⟨some 12, .ext (.t 7) 1, none⟩, ⟨some 5, .mv (.t 11), none⟩, ⟨some 6, .mv (.t 12), none⟩] [5])
 (.seq (.region [⟨some 13, .mv (.t 5), none⟩, ⟨some 4, .mv (.t 13), none⟩] [4])
 (.ret)))
theorem C_gaugelaw1_add : Codes Go.Proofs.Try.prog F_gaugelaw1_add S_gaugelaw1_add 14 [4] := ⟨Go.Proofs.Try.f11, Go.Proofs.Try.f11.body.getD .skip, Go.Proofs.Try.func11, by kernel_rfl, by kernel_rfl, by kernel_rfl, by kernel_rfl, by kernel_rfl⟩
def F_gaugelaw1_mul : FuncId := 12
/-- gauge / gaugelaw1.mul -/
def S_gaugelaw1_mul : SC :=
 .seq (.region [⟨some 4, .mv (.c (.slice none 0 0)), none⟩] [1, 0])
 (.seq (.region [⟨some 8, .mv (.t 0), none⟩, ⟨some 9, .mv (.t 1), none⟩, ⟨some 10, .call 28 [.t 8, .t 9], none⟩, ⟨some 7, .mv (.t 10), none⟩, ⟨some 11, .ext (.t 7) 0, none⟩, ⟨some 12, .ext (.t 7) 1, none⟩, ⟨some 5, .mv (.t 11), none⟩, ⟨some 6, .mv (.t 12), none⟩] [5])
 (.seq (.region [⟨some 13, .mv (.t 5), none⟩, ⟨some 4, .mv (.t 13), none⟩] [4])
 (.ret)))
theorem C_gaugelaw1_mul : Codes Go.Proofs.Try.prog F_gaugelaw1_mul S_gaugelaw1_mul 14 [4] := ⟨Go.Proofs.Try.f12, Go.Proofs.Try.f12.body.getD .skip, Go.Proofs.Try.func12, by kernel_rfl, by kernel_rfl, by kernel_rfl, by kernel_rfl, by kernel_rfl⟩
def F_nat_Sub : FuncId := 13
/-- gauge / nat.Sub -/
def S_nat_Sub : SC :=
 .seq (.region [⟨some 4, .mv (.c (.slice none 0 0)), none⟩, ⟨some 5, .mv (.c (.int .i64 0)), none⟩] [1, 0])
 (.seq (.block 0 [1, 0] (.seq (.region [⟨some 7, .mv (.t 0), none⟩, ⟨some 8, .call 29 [.t 7], none⟩, ⟨some 9, .un .not (.t 8), none⟩, ⟨some 10, .mv (.t 9), none⟩, ⟨some 11, .mv (.t 1), some (10, false)⟩, ⟨some 12, .call 29 [.t 11], some (10, false)⟩, ⟨some 13, .un .not (.t 12), some (10, false)⟩, ⟨some 14, .pick (.t 10) (.c (.bool true)) (.t 13), none⟩, ⟨some 6, .mv (.t 14), none⟩] [6, 1, 0])
 (.cond (.t 6) (.seq (.region [⟨some 4, .mv (.c (.slice none 0 0)), none⟩, ⟨some 5, .mv (.c (.int .i64 10)), none⟩] [5, 4])
 (.ret))
 (.seq (.region [⟨some 16, .mv (.t 0), none⟩, ⟨some 17, .mv (.t 1), none⟩, ⟨some 18, .call 30 [.t 16, .t 17], none⟩, ⟨some 19, .bin .lss (.t 18) (.c (.int .i64 0)), none⟩, ⟨some 15, .mv (.t 19), none⟩] [15, 1, 0])
 (.cond (.t 15) (.seq (.region [⟨some 4, .mv (.c (.slice none 0 0)), none⟩, ⟨some 5, .mv (.c (.int .i64 11)), none⟩] [5, 4])
 (.ret))
 (.region [] [1, 0]))))))
 (.seq (.region [⟨some 20, .mv (.t 0), none⟩, ⟨some 21, .mv (.t 1), none⟩, ⟨some 22, .call 31 [.t 20, .t 21], none⟩, ⟨some 4, .mv (.t 22), none⟩, ⟨some 5, .mv (.c (.int .i64 0)), none⟩] [5, 4])
 (.ret)))
theorem C_nat_Sub : Codes Go.Proofs.Try.prog F_nat_Sub S_nat_Sub 23 [4, 5] := ⟨Go.Proofs.Try.f13, Go.Proofs.Try.f13.body.getD .skip, Go.Proofs.Try.func13, by kernel_rfl, by kernel_rfl, by kernel_rfl, by kernel_rfl, by kernel_rfl⟩
def F_gaugelaw1_num : FuncId := 14
/-- gauge / gaugelaw1.num -/
def S_gaugelaw1_num : SC :=
 .seq (.region [⟨some 2, .mv (.c (.int .i64 0)), none⟩] [0])
 (.seq (.region [⟨some 3, .mv (.t 0), none⟩, ⟨some 2, .mv (.t 3), none⟩] [2])
 (.ret))
theorem C_gaugelaw1_num : Codes Go.Proofs.Try.prog F_gaugelaw1_num S_gaugelaw1_num 4 [2] := ⟨Go.Proofs.Try.f14, Go.Proofs.Try.f14.body.getD .skip, Go.Proofs.Try.func14, by kernel_rfl, by kernel_rfl, by kernel_rfl, by kernel_rfl, by kernel_rfl⟩
def F_nat_Cmp : FuncId := 15
/-- gauge / nat.Cmp -/
def S_nat_Cmp : SC :=
 .seq (.region [⟨some 4, .mv (.c (.int .i64 0)), none⟩] [1, 0])
 (.seq (.seq (.region [⟨some 5, .mv (.t 0), none⟩, ⟨some 6, .call 29 [.t 5], none⟩, ⟨some 7, .un .not (.t 6), none⟩, ⟨some 8, .mv (.t 7), none⟩, ⟨some 9, .mv (.t 1), some (8, false)⟩, ⟨some 10, .call 29 [.t 9], some (8, false)⟩, ⟨some 11, .un .not (.t 10), some (8, false)⟩, ⟨some 12, .pick (.t 8) (.c (.bool true)) (.t 11), none⟩] [12, 1, 0])
 (.cond (.t 12) (.seq (.region [⟨some 4, .mv (.c (.int .i64 0)), none⟩] [4])
 (.ret))
 (.region [] [1, 0])))
 (.seq (.region [⟨some 13, .mv (.t 0), none⟩, ⟨some 14, .mv (.t 1), none⟩, ⟨some 15, .call 30 [.t 13, .t 14], none⟩, ⟨some 4, .mv (.t 15), none⟩] [4])
 (.ret)))
theorem C_nat_Cmp : Codes Go.Proofs.Try.prog F_nat_Cmp S_nat_Cmp 16 [4] := ⟨Go.Proofs.Try.f15, Go.Proofs.Try.f15.body.getD .skip, Go.Proofs.Try.func15, by kernel_rfl, by kernel_rfl, by kernel_rfl, by kernel_rfl, by kernel_rfl⟩
def F_nat_From : FuncId := 16
/-- gauge / nat.From -/
def S_nat_From : SC :=
 .seq (.region [⟨some 2, .mv (.c (.slice none 0 0)), none⟩] [0])
 (.seq (.seq (.region [⟨some 3, .mv (.t 0), none⟩, ⟨some 4, .bin .eql (.t 3) (.c (.int .u64 0)), none⟩] [4, 0])
 (.cond (.t 4) (.seq (.region [⟨some 2, .mv (.c (.slice none 0 0)), none⟩] [2])
 (.ret))
 (.region [] [0])))
 (.seq (.region [⟨some 5, .mv (.t 0), none⟩, ⟨some 6, .bsl false 1 1 [.int .u64 0] [(0, .t 5)], none⟩, ⟨some 2, .mv (.t 6), none⟩] [2])
 (.ret)))
theorem C_nat_From : Codes Go.Proofs.Try.prog F_nat_From S_nat_From 7 [2] := ⟨Go.Proofs.Try.f16, Go.Proofs.Try.f16.body.getD .skip, Go.Proofs.Try.func16, by kernel_rfl, by kernel_rfl, by kernel_rfl, by kernel_rfl, by kernel_rfl⟩
def F_gaugelaw1_wakes : FuncId := 17
/-- gauge / gaugelaw1.wakes -/
def S_gaugelaw1_wakes : SC :=
 .seq (.region [⟨some 0, .mv (.c (.bool false)), none⟩] [])
 (.seq (.region [⟨some 4, .bsl false 1 1 [.int .u64 0] [(0, .c (.int .u64 1))], none⟩, ⟨some 5, .bsl false 1 1 [.int .u64 0] [(0, .c (.int .u64 18446744073709551615))], none⟩, ⟨some 6, .call 27 [.t 4, .t 5], none⟩, ⟨some 3, .mv (.t 6), none⟩, ⟨some 7, .ext (.t 3) 0, none⟩, ⟨some 8, .ext (.t 3) 1, none⟩, ⟨some 1, .mv (.t 7), none⟩, ⟨some 2, .mv (.t 8), none⟩] [2, 1])
 (.seq (.region [⟨some 9, .mv (.t 2), none⟩, ⟨some 10, .call 14 [.t 9], none⟩, ⟨some 11, .bin .eql (.t 10) (.c (.int .i64 0)), none⟩, ⟨some 12, .mv (.t 11), none⟩, ⟨some 13, .mv (.t 1), some (12, true)⟩, ⟨some 14, .bsl false 1 2 [.int .u64 0] [(0, .c (.int .u64 0)), (1, .c (.int .u64 1))], some (12, true)⟩, ⟨some 15, .call 10 [.t 13, .t 14], some (12, true)⟩, ⟨some 16, .pick (.t 12) (.t 15) (.c (.bool false)), none⟩, ⟨some 0, .mv (.t 16), none⟩] [0])
 (.ret)))
theorem C_gaugelaw1_wakes : Codes Go.Proofs.Try.prog F_gaugelaw1_wakes S_gaugelaw1_wakes 17 [0] := ⟨Go.Proofs.Try.f17, Go.Proofs.Try.f17.body.getD .skip, Go.Proofs.Try.func17, by kernel_rfl, by kernel_rfl, by kernel_rfl, by kernel_rfl, by kernel_rfl⟩
def F_nat_Len : FuncId := 18
/-- gauge / nat.Len -/
def S_nat_Len : SC :=
 .seq (.region [⟨some 2, .mv (.c (.int .i64 0)), none⟩] [0])
 (.seq (.seq (.region [⟨some 3, .mv (.t 0), none⟩, ⟨some 4, .len (.t 3), none⟩, ⟨some 5, .bin .eql (.t 4) (.c (.int .i64 0)), none⟩, ⟨some 6, .mv (.t 5), none⟩, ⟨some 7, .mv (.t 0), some (6, false)⟩, ⟨some 8, .call 29 [.t 7], some (6, false)⟩, ⟨some 9, .un .not (.t 8), some (6, false)⟩, ⟨some 10, .pick (.t 6) (.c (.bool true)) (.t 9), none⟩] [10, 0])
 (.cond (.t 10) (.seq (.region [⟨some 2, .mv (.c (.int .i64 0)), none⟩] [2])
 (.ret))
 (.region [] [0])))
 (.seq (.region [⟨some 11, .mv (.t 0), none⟩, ⟨some 12, .len (.t 11), none⟩, ⟨some 13, .bin .sub (.t 12) (.c (.int .i64 1)), none⟩, ⟨some 14, .bin .mul (.c (.int .i64 64)) (.t 13), none⟩, ⟨some 15, .mv (.t 0), none⟩, ⟨some 16, .mv (.t 0), none⟩, ⟨some 17, .len (.t 16), none⟩, ⟨some 18, .bin .sub (.t 17) (.c (.int .i64 1)), none⟩, ⟨some 19, .ix 1 (.t 15) (.t 18), none⟩, ⟨some 20, .ld false 1 (.t 19), none⟩, ⟨some 21, .call 32 [.t 20], none⟩, ⟨some 22, .bin .add (.t 14) (.t 21), none⟩, ⟨some 2, .mv (.t 22), none⟩] [2])
 (.ret)))
theorem C_nat_Len : Codes Go.Proofs.Try.prog F_nat_Len S_nat_Len 23 [2] := ⟨Go.Proofs.Try.f18, Go.Proofs.Try.f18.body.getD .skip, Go.Proofs.Try.func18, by kernel_rfl, by kernel_rfl, by kernel_rfl, by kernel_rfl, by kernel_rfl⟩
def F_gaugelaw1_NatGcds_1 : FuncId := 19
/-- gauge / gaugelaw1.NatGcds$1 -/
def S_gaugelaw1_NatGcds_1 : SC :=
 .seq (.region [⟨some 4, .mv (.c (.slice none 0 0)), none⟩] [1, 0])
 (.seq (.region [⟨some 8, .mv (.t 0), none⟩, ⟨some 9, .mv (.t 1), none⟩, ⟨some 10, .call 20 [.t 8, .t 9], none⟩, ⟨some 7, .mv (.t 10), none⟩, ⟨some 11, .ext (.t 7) 0, none⟩, ⟨some 12, .ext (.t 7) 1, none⟩, ⟨some 5, .mv (.t 11), none⟩, ⟨some 6, .mv (.t 12), none⟩] [5])
 (.seq (.region [⟨some 13, .mv (.t 5), none⟩, ⟨some 4, .mv (.t 13), none⟩] [4])
 (.ret)))
theorem C_gaugelaw1_NatGcds_1 : Codes Go.Proofs.Try.prog F_gaugelaw1_NatGcds_1 S_gaugelaw1_NatGcds_1 14 [4] := ⟨Go.Proofs.Try.f19, Go.Proofs.Try.f19.body.getD .skip, Go.Proofs.Try.func19, by kernel_rfl, by kernel_rfl, by kernel_rfl, by kernel_rfl, by kernel_rfl⟩
def F_nat_Gcd : FuncId := 20
/-- gauge / nat.Gcd -/
def S_nat_Gcd : SC :=
 .seq (.region [⟨some 4, .mv (.c (.slice none 0 0)), none⟩, ⟨some 5, .mv (.c (.int .i64 0)), none⟩] [1, 0])
 (.seq (.seq (.region [⟨some 8, .mv (.t 0), none⟩, ⟨some 9, .call 29 [.t 8], none⟩, ⟨some 10, .un .not (.t 9), none⟩, ⟨some 11, .mv (.t 10), none⟩, ⟨some 12, .mv (.t 1), some (11, false)⟩, ⟨some 13, .call 29 [.t 12], some (11, false)⟩, ⟨some 14, .un .not (.t 13), some (11, false)⟩, ⟨some 15, .pick (.t 11) (.c (.bool true)) (.t 14), none⟩] [15, 1, 0])
 (.cond (.t 15) (.seq (.region [⟨some 4, .mv (.c (.slice none 0 0)), none⟩, ⟨some 5, .mv (.c (.int .i64 10)), none⟩] [5, 4])
 (.ret))
 (.region [] [1, 0])))
 (.seq (.region [⟨some 16, .mv (.t 0), none⟩, ⟨some 17, .call 33 [.t 16], none⟩, ⟨some 18, .mv (.t 1), none⟩, ⟨some 19, .call 33 [.t 18], none⟩, ⟨some 0, .mv (.t 17), none⟩, ⟨some 1, .mv (.t 19), none⟩] [1, 0])
 (.seq (.block 0 [0] (.loop [1, 0] (.seq (.seq (.region [⟨some 20, .mv (.t 1), none⟩, ⟨some 21, .len (.t 20), none⟩, ⟨some 22, .bin .gtr (.t 21) (.c (.int .i64 0)), none⟩] [22, 1, 0])
 (.cond (.t 22) (.region [] [1, 0])
 (.exit 0)))
 (.block 1 [1, 0] (.seq (.region [⟨some 24, .mv (.t 0), none⟩, ⟨some 25, .mv (.t 1), none⟩, ⟨some 26, .call 34 [.t 24, .t 25], none⟩, ⟨some 23, .mv (.t 26), none⟩, ⟨some 27, .ext (.t 23) 0, none⟩, ⟨some 28, .ext (.t 23) 1, none⟩, ⟨some 6, .mv (.t 27), none⟩, ⟨some 7, .mv (.t 28), none⟩] [7, 1])
 (.region [⟨some 29, .mv (.t 1), none⟩, ⟨some 30, .mv (.t 7), none⟩, ⟨some 0, .mv (.t 29), none⟩, ⟨some 1, .mv (.t 30), none⟩] [1, 0]))))))
 (.seq (.region [⟨some 31, .mv (.t 0), none⟩, ⟨some 4, .mv (.t 31), none⟩, ⟨some 5, .mv (.c (.int .i64 0)), none⟩] [5, 4])
 (.ret)))))
theorem C_nat_Gcd : Codes Go.Proofs.Try.prog F_nat_Gcd S_nat_Gcd 32 [4, 5] := ⟨Go.Proofs.Try.f20, Go.Proofs.Try.f20.body.getD .skip, Go.Proofs.Try.func20, by kernel_rfl, by kernel_rfl, by kernel_rfl, by kernel_rfl, by kernel_rfl⟩
def F_nat_DivMod : FuncId := 21
/-- gauge / nat.DivMod -/
def S_nat_DivMod : SC :=
 .seq (.region [⟨some 4, .mv (.c (.slice none 0 0)), none⟩, ⟨some 5, .mv (.c (.slice none 0 0)), none⟩, ⟨some 6, .mv (.c (.int .i64 0)), none⟩] [1, 0])
 (.seq (.block 0 [1, 0] (.seq (.region [⟨some 8, .mv (.t 0), none⟩, ⟨some 9, .call 29 [.t 8], none⟩, ⟨some 10, .un .not (.t 9), none⟩, ⟨some 11, .mv (.t 10), none⟩, ⟨some 12, .mv (.t 1), some (11, false)⟩, ⟨some 13, .call 29 [.t 12], some (11, false)⟩, ⟨some 14, .un .not (.t 13), some (11, false)⟩, ⟨some 15, .pick (.t 11) (.c (.bool true)) (.t 14), none⟩, ⟨some 7, .mv (.t 15), none⟩] [7, 1, 0])
 (.cond (.t 7) (.seq (.region [⟨some 4, .mv (.c (.slice none 0 0)), none⟩, ⟨some 5, .mv (.c (.slice none 0 0)), none⟩, ⟨some 6, .mv (.c (.int .i64 10)), none⟩] [6, 5, 4])
 (.ret))
 (.seq (.region [⟨some 17, .mv (.t 1), none⟩, ⟨some 18, .len (.t 17), none⟩, ⟨some 19, .bin .eql (.t 18) (.c (.int .i64 0)), none⟩, ⟨some 16, .mv (.t 19), none⟩] [16, 1, 0])
 (.cond (.t 16) (.seq (.region [⟨some 4, .mv (.c (.slice none 0 0)), none⟩, ⟨some 5, .mv (.c (.slice none 0 0)), none⟩, ⟨some 6, .mv (.c (.int .i64 12)), none⟩] [6, 5, 4])
 (.ret))
 (.region [] [1, 0]))))))
 (.seq (.region [⟨some 21, .mv (.t 0), none⟩, ⟨some 22, .mv (.t 1), none⟩, ⟨some 23, .call 34 [.t 21, .t 22], none⟩, ⟨some 20, .mv (.t 23), none⟩, ⟨some 24, .ext (.t 20) 0, none⟩, ⟨some 25, .ext (.t 20) 1, none⟩, ⟨some 4, .mv (.t 24), none⟩, ⟨some 5, .mv (.t 25), none⟩] [5, 4])
 (.seq (.region [⟨some 26, .mv (.t 4), none⟩, ⟨some 27, .mv (.t 5), none⟩, ⟨some 4, .mv (.t 26), none⟩, ⟨some 5, .mv (.t 27), none⟩, ⟨some 6, .mv (.c (.int .i64 0)), none⟩] [6, 5, 4])
 (.ret))))
theorem C_nat_DivMod : Codes Go.Proofs.Try.prog F_nat_DivMod S_nat_DivMod 28 [4, 5, 6] := ⟨Go.Proofs.Try.f21, Go.Proofs.Try.f21.body.getD .skip, Go.Proofs.Try.func21, by kernel_rfl, by kernel_rfl, by kernel_rfl, by kernel_rfl, by kernel_rfl⟩
def F_nat_Add : FuncId := 27
/-- gauge / nat.Add -/
def S_nat_Add : SC :=
 .seq (.region [⟨some 4, .mv (.c (.slice none 0 0)), none⟩, ⟨some 5, .mv (.c (.int .i64 0)), none⟩] [1, 0])
 (.seq (.seq (.region [⟨some 6, .mv (.t 0), none⟩, ⟨some 7, .call 29 [.t 6], none⟩, ⟨some 8, .un .not (.t 7), none⟩, ⟨some 9, .mv (.t 8), none⟩, ⟨some 10, .mv (.t 1), some (9, false)⟩, ⟨some 11, .call 29 [.t 10], some (9, false)⟩, ⟨some 12, .un .not (.t 11), some (9, false)⟩, ⟨some 13, .pick (.t 9) (.c (.bool true)) (.t 12), none⟩] [13, 1, 0])
 (.cond (.t 13) (.seq (.region [⟨some 4, .mv (.c (.slice none 0 0)), none⟩, ⟨some 5, .mv (.c (.int .i64 10)), none⟩] [5, 4])
 (.ret))
 (.region [] [1, 0])))
 (.seq (.region [⟨some 14, .mv (.t 0), none⟩, ⟨some 15, .mv (.t 1), none⟩, ⟨some 16, .call 53 [.t 14, .t 15], none⟩, ⟨some 4, .mv (.t 16), none⟩, ⟨some 5, .mv (.c (.int .i64 0)), none⟩] [5, 4])
 (.ret)))
theorem C_nat_Add : Codes Go.Proofs.Try.prog F_nat_Add S_nat_Add 17 [4, 5] := ⟨Go.Proofs.Try.f27, Go.Proofs.Try.f27.body.getD .skip, Go.Proofs.Try.func27, by kernel_rfl, by kernel_rfl, by kernel_rfl, by kernel_rfl, by kernel_rfl⟩
def F_nat_Mul : FuncId := 28
/-- gauge / nat.Mul -/
def S_nat_Mul : SC :=
 .seq (.region [⟨some 4, .mv (.c (.slice none 0 0)), none⟩, ⟨some 5, .mv (.c (.int .i64 0)), none⟩] [1, 0])
 (.seq (.seq (.region [⟨some 6, .mv (.t 0), none⟩, ⟨some 7, .call 29 [.t 6], none⟩, ⟨some 8, .un .not (.t 7), none⟩, ⟨some 9, .mv (.t 8), none⟩, ⟨some 10, .mv (.t 1), some (9, false)⟩, ⟨some 11, .call 29 [.t 10], some (9, false)⟩, ⟨some 12, .un .not (.t 11), some (9, false)⟩, ⟨some 13, .pick (.t 9) (.c (.bool true)) (.t 12), none⟩] [13, 1, 0])
 (.cond (.t 13) (.seq (.region [⟨some 4, .mv (.c (.slice none 0 0)), none⟩, ⟨some 5, .mv (.c (.int .i64 10)), none⟩] [5, 4])
 (.ret))
 (.region [] [1, 0])))
 (.seq (.region [⟨some 14, .mv (.t 0), none⟩, ⟨some 15, .mv (.t 1), none⟩, ⟨some 16, .call 54 [.t 14, .t 15], none⟩, ⟨some 4, .mv (.t 16), none⟩, ⟨some 5, .mv (.c (.int .i64 0)), none⟩] [5, 4])
 (.ret)))
theorem C_nat_Mul : Codes Go.Proofs.Try.prog F_nat_Mul S_nat_Mul 17 [4, 5] := ⟨Go.Proofs.Try.f28, Go.Proofs.Try.f28.body.getD .skip, Go.Proofs.Try.func28, by kernel_rfl, by kernel_rfl, by kernel_rfl, by kernel_rfl, by kernel_rfl⟩
def F_nat_good : FuncId := 29
/-- gauge / nat.good -/
def S_nat_good : SC :=
 .seq (.region [⟨some 2, .mv (.c (.bool false)), none⟩] [0])
 (.seq (.region [⟨some 3, .mv (.t 0), none⟩, ⟨some 4, .len (.t 3), none⟩, ⟨some 5, .bin .eql (.t 4) (.c (.int .i64 0)), none⟩, ⟨some 6, .mv (.t 5), none⟩, ⟨some 7, .mv (.t 0), some (6, false)⟩, ⟨some 8, .mv (.t 0), some (6, false)⟩, ⟨some 9, .len (.t 8), some (6, false)⟩, ⟨some 10, .bin .sub (.t 9) (.c (.int .i64 1)), some (6, false)⟩, ⟨some 11, .ix 1 (.t 7) (.t 10), some (6, false)⟩, ⟨some 12, .ld false 1 (.t 11), some (6, false)⟩, ⟨some 13, .bin .neq (.t 12) (.c (.int .u64 0)), some (6, false)⟩, ⟨some 14, .pick (.t 6) (.c (.bool true)) (.t 13), none⟩, ⟨some 2, .mv (.t 14), none⟩] [2])
 (.ret))
theorem C_nat_good : Codes Go.Proofs.Try.prog F_nat_good S_nat_good 15 [2] := ⟨Go.Proofs.Try.f29, Go.Proofs.Try.f29.body.getD .skip, Go.Proofs.Try.func29, by kernel_rfl, by kernel_rfl, by kernel_rfl, by kernel_rfl, by kernel_rfl⟩
def F_nat_cmp : FuncId := 30
/-- gauge / nat.cmp -/
def S_nat_cmp : SC :=
 .seq (.region [⟨some 4, .mv (.c (.int .i64 0)), none⟩] [1, 0])
 (.seq (.seq (.region [⟨some 6, .mv (.t 0), none⟩, ⟨some 7, .len (.t 6), none⟩, ⟨some 8, .mv (.t 1), none⟩, ⟨some 9, .len (.t 8), none⟩, ⟨some 10, .bin .neq (.t 7) (.t 9), none⟩] [10, 1, 0])
 (.cond (.t 10) (.seq (.seq (.region [⟨some 11, .mv (.t 0), none⟩, ⟨some 12, .len (.t 11), none⟩, ⟨some 13, .mv (.t 1), none⟩, ⟨some 14, .len (.t 13), none⟩, ⟨some 15, .bin .lss (.t 12) (.t 14), none⟩] [15])
 (.cond (.t 15) (.seq (.region [⟨some 4, .mv (.c (.int .i64 (-1))), none⟩] [4])
 (.ret))
 (.region [] [])))
 (.seq (.region [⟨some 4, .mv (.c (.int .i64 1)), none⟩] [4])
 (.ret)))
 (.region [] [1, 0])))
 (.seq (.seq (.region [⟨some 16, .mv (.t 0), none⟩, ⟨some 17, .len (.t 16), none⟩, ⟨some 18, .bin .sub (.t 17) (.c (.int .i64 1)), none⟩, ⟨some 5, .mv (.t 18), none⟩] [5, 1, 0])
 (.block 0 [] (.loop [5, 1, 0] (.seq (.seq (.region [⟨some 19, .mv (.t 5), none⟩, ⟨some 20, .bin .geq (.t 19) (.c (.int .i64 0)), none⟩] [20, 5, 1, 0])
 (.cond (.t 20) (.region [] [5, 1, 0])
 (.exit 0)))
 (.seq (.block 1 [5, 1, 0] (.block 2 [5, 1, 0] (.seq (.drawn [0, 1, 2, 3, 4, 5, 6, 7, 8, 9] [⟨some 24, .mv (.t 0), none⟩, ⟨some 25, .mv (.t 5), none⟩, ⟨some 26, .ix 1 (.t 24) (.t 25), none⟩, ⟨some 27, .ld false 1 (.t 26), none⟩, ⟨some 28, .mv (.t 1), none⟩, ⟨some 29, .mv (.t 5), none⟩, ⟨some 30, .ix 1 (.t 28) (.t 29), none⟩, ⟨some 31, .ld false 1 (.t 30), none⟩, ⟨some 32, .bin .lss (.t 27) (.t 31), none⟩, ⟨some 23, .mv (.t 32), none⟩] [23, 5, 1, 0])
 (.cond (.t 23) (.seq (.region [⟨some 4, .mv (.c (.int .i64 (-1))), none⟩] [4])
 (.ret))
 (.seq (.drawn [0, 1, 2, 3, 4, 5, 6, 7, 8, 9] [⟨some 34, .mv (.t 0), none⟩, ⟨some 35, .mv (.t 5), none⟩, ⟨some 36, .ix 1 (.t 34) (.t 35), none⟩, ⟨some 37, .ld false 1 (.t 36), none⟩, ⟨some 38, .mv (.t 1), none⟩, ⟨some 39, .mv (.t 5), none⟩, ⟨some 40, .ix 1 (.t 38) (.t 39), none⟩, ⟨some 41, .ld false 1 (.t 40), none⟩, ⟨some 42, .bin .gtr (.t 37) (.t 41), none⟩, ⟨some 33, .mv (.t 42), none⟩] [33, 5, 1, 0])
 (.cond (.t 33) (.seq (.region [⟨some 4, .mv (.c (.int .i64 1)), none⟩] [4])
 (.ret))
 (.region [] [5, 1, 0])))))))
 (.region [⟨some 21, .mv (.t 5), none⟩, ⟨some 22, .bin .sub (.t 21) (.c (.int .i64 1)), none⟩, ⟨some 5, .mv (.t 22), none⟩] [5, 1, 0]))))))
 (.seq (.region [⟨some 4, .mv (.c (.int .i64 0)), none⟩] [4])
 (.ret))))
theorem C_nat_cmp : Codes Go.Proofs.Try.prog F_nat_cmp S_nat_cmp 43 [4] := ⟨Go.Proofs.Try.f30, Go.Proofs.Try.f30.body.getD .skip, Go.Proofs.Try.func30, by kernel_rfl, by kernel_rfl, by kernel_rfl, by kernel_rfl, by kernel_rfl⟩
def F_nat_sub : FuncId := 31
def S_nat_sub_j2 : SC :=
 .region [⟨some 41, .mv (.t 5), none⟩, ⟨some 42, .mv (.t 7), none⟩, ⟨some 43, .ix 1 (.t 41) (.t 42), none⟩, ⟨some 44, .ld false 1 (.t 43), none⟩, ⟨some 45, .mv (.t 8), none⟩, ⟨some 46, .bin .sub (.t 44) (.t 45), none⟩, ⟨some 47, .ix 1 (.t 41) (.t 42), none⟩, ⟨none, .st 1 (.t 47) (.t 46), none⟩] [13, 12, 6, 5, 1]
def S_nat_sub_j1 : SC :=
 .seq (.seq (.region [⟨some 33, .mv (.t 5), none⟩, ⟨some 34, .mv (.t 7), none⟩, ⟨some 35, .ix 1 (.t 33) (.t 34), none⟩, ⟨some 36, .ld false 1 (.t 35), none⟩, ⟨some 37, .mv (.t 8), none⟩, ⟨some 38, .bin .lss (.t 36) (.t 37), none⟩] [38, 13, 12, 8, 7, 6, 5, 1])
 (.cond (.t 38) (.region [⟨some 39, .mv (.t 6), none⟩, ⟨some 40, .bin .add (.t 39) (.c (.int .u64 1)), none⟩, ⟨some 6, .mv (.t 40), none⟩] [13, 12, 8, 7, 6, 5, 1])
 (.region [] [13, 12, 8, 7, 6, 5, 1])))
 (.seq .says S_nat_sub_j2)
/-- gauge / nat.sub -/
def S_nat_sub : SC :=
 .seq (.region [⟨some 4, .mv (.c (.slice none 0 0)), none⟩] [1, 0])
 (.seq (.region [⟨some 9, .mv (.t 0), none⟩, ⟨some 10, .call 33 [.t 9], none⟩, ⟨some 5, .mv (.t 10), none⟩] [5, 1])
 (.seq (.region [⟨some 6, .mv (.c (.int .u64 0)), none⟩] [6, 5, 1])
 (.seq (.seq (.region [⟨some 11, .mv (.t 5), none⟩, ⟨some 12, .len (.t 11), none⟩, ⟨some 13, .mv (.c (.int .i64 0)), none⟩] [13, 12, 6, 5, 1])
 (.block 0 [5] (.loop [13, 12, 6, 5, 1] (.seq (.region [⟨some 14, .bin .lss (.t 13) (.t 12), none⟩] [14, 13, 12, 6, 5, 1])
 (.seq (.cond (.t 14) (.region [] [13, 12, 6, 5, 1])
 (.exit 0))
 (.seq (.block 1 [13, 12, 6, 5, 1] (.seq (.region [⟨some 15, .mv (.t 13), none⟩, ⟨some 7, .mv (.t 15), none⟩] [13, 12, 7, 6, 5, 1])
 (.seq (.region [⟨some 16, .mv (.t 6), none⟩, ⟨some 8, .mv (.t 16), none⟩] [13, 12, 8, 7, 5, 1])
 (.seq (.seq (.region [⟨some 17, .mv (.t 7), none⟩, ⟨some 18, .mv (.t 1), none⟩, ⟨some 19, .len (.t 18), none⟩, ⟨some 20, .bin .lss (.t 17) (.t 19), none⟩] [20, 13, 12, 8, 7, 5, 1])
 (.cond (.t 20) (.seq (.region [⟨some 21, .mv (.t 8), none⟩, ⟨some 22, .mv (.t 1), none⟩, ⟨some 23, .mv (.t 7), none⟩, ⟨some 24, .ix 1 (.t 22) (.t 23), none⟩, ⟨some 25, .ld false 1 (.t 24), none⟩, ⟨some 26, .bin .add (.t 21) (.t 25), none⟩, ⟨some 8, .mv (.t 26), none⟩] [13, 12, 8, 7, 5, 1])
 (.seq (.region [⟨some 6, .mv (.c (.int .u64 0)), none⟩] [13, 12, 8, 7, 6, 5, 1])
 (.seq (.region [⟨some 27, .mv (.t 8), none⟩, ⟨some 28, .mv (.t 1), none⟩, ⟨some 29, .mv (.t 7), none⟩, ⟨some 30, .ix 1 (.t 28) (.t 29), none⟩, ⟨some 31, .ld false 1 (.t 30), none⟩, ⟨some 32, .bin .lss (.t 27) (.t 31), none⟩] [32, 13, 12, 8, 7, 6, 5, 1])
 (.cond (.t 32) (.region [⟨some 6, .mv (.c (.int .u64 1)), none⟩] [13, 12, 8, 7, 6, 5, 1])
 (.region [] [13, 12, 8, 7, 6, 5, 1])))))
 (.region [⟨some 6, .mv (.c (.int .u64 0)), none⟩] [13, 12, 8, 7, 6, 5, 1])))
 (.seq .says S_nat_sub_j1)))))
 (.region [⟨some 48, .bin .add (.t 13) (.c (.int .i64 1)), none⟩, ⟨some 13, .mv (.t 48), none⟩] [13, 12, 6, 5, 1])))))))
 (.seq (.region [⟨some 49, .mv (.t 5), none⟩, ⟨some 50, .call 55 [.t 49], none⟩, ⟨some 4, .mv (.t 50), none⟩] [4])
 (.ret)))))
theorem C_nat_sub : Codes Go.Proofs.Try.prog F_nat_sub S_nat_sub 51 [4] := ⟨Go.Proofs.Try.f31, Go.Proofs.Try.f31.body.getD .skip, Go.Proofs.Try.func31, by kernel_rfl, by kernel_rfl, by kernel_rfl, by kernel_rfl, by kernel_rfl⟩
def F_math_bits_Len64 : FuncId := 32
def S_math_bits_Len64_j3 : SC :=
 .seq (.region [⟨some 19, .mv (.t 2), none⟩, ⟨some 20, .mv (.t 0), none⟩, ⟨some 21, .conv .u8 (.t 20), none⟩, ⟨some 22, .idxs (.c (.string ⟨#[0, 1, 2, 2, 3, 3, 3, 3, 4, 4, 4, 4, 4, 4, 4, 4, 5, 5, 5, 5, 5, 5, 5, 5, 5, 5, 5, 5, 5, 5, 5, 5, 6, 6, 6, 6, 6, 6, 6, 6, 6, 6, 6, 6, 6, 6, 6, 6, 6, 6, 6, 6, 6, 6, 6, 6, 6, 6, 6, 6, 6, 6, 6, 6, 7, 7, 7, 7, 7, 7, 7, 7, 7, 7, 7, 7, 7, 7, 7, 7, 7, 7, 7, 7, 7, 7, 7, 7, 7, 7, 7, 7, 7, 7, 7, 7, 7, 7, 7, 7, 7, 7, 7, 7, 7, 7, 7, 7, 7, 7, 7, 7, 7, 7, 7, 7, 7, 7, 7, 7, 7, 7, 7, 7, 7, 7, 7, 7, 8, 8, 8, 8, 8, 8, 8, 8, 8, 8, 8, 8, 8, 8, 8, 8, 8, 8, 8, 8, 8, 8, 8, 8, 8, 8, 8, 8, 8, 8, 8, 8, 8, 8, 8, 8, 8, 8, 8, 8, 8, 8, 8, 8, 8, 8, 8, 8, 8, 8, 8, 8, 8, 8, 8, 8, 8, 8, 8, 8, 8, 8, 8, 8, 8, 8, 8, 8, 8, 8, 8, 8, 8, 8, 8, 8, 8, 8, 8, 8, 8, 8, 8, 8, 8, 8, 8, 8, 8, 8, 8, 8, 8, 8, 8, 8, 8, 8, 8, 8, 8, 8, 8, 8, 8, 8, 8, 8, 8, 8, 8, 8, 8, 8, 8, 8, 8, 8, 8, 8, 8, 8, 8, 8, 8, 8, 8, 8]⟩)) (.t 21), none⟩, ⟨some 23, .conv .i64 (.t 22), none⟩, ⟨some 24, .bin .add (.t 19) (.t 23), none⟩, ⟨some 2, .mv (.t 24), none⟩] [2])
 (.ret)
def S_math_bits_Len64_j2 : SC :=
 .seq (.seq (.region [⟨some 13, .mv (.t 0), none⟩, ⟨some 14, .bin .geq (.t 13) (.c (.int .u64 256)), none⟩] [14, 2, 0])
 (.cond (.t 14) (.seq (.region [⟨some 15, .mv (.t 0), none⟩, ⟨some 16, .bin .shr (.t 15) (.c (.int .u64 8)), none⟩, ⟨some 0, .mv (.t 16), none⟩] [2, 0])
 (.region [⟨some 17, .mv (.t 2), none⟩, ⟨some 18, .bin .add (.t 17) (.c (.int .i64 8)), none⟩, ⟨some 2, .mv (.t 18), none⟩] [2, 0]))
 (.region [] [2, 0])))
 (.seq .says S_math_bits_Len64_j3)
def S_math_bits_Len64_j1 : SC :=
 .seq (.seq (.region [⟨some 7, .mv (.t 0), none⟩, ⟨some 8, .bin .geq (.t 7) (.c (.int .u64 65536)), none⟩] [8, 2, 0])
 (.cond (.t 8) (.seq (.region [⟨some 9, .mv (.t 0), none⟩, ⟨some 10, .bin .shr (.t 9) (.c (.int .u64 16)), none⟩, ⟨some 0, .mv (.t 10), none⟩] [2, 0])
 (.region [⟨some 11, .mv (.t 2), none⟩, ⟨some 12, .bin .add (.t 11) (.c (.int .i64 16)), none⟩, ⟨some 2, .mv (.t 12), none⟩] [2, 0]))
 (.region [] [2, 0])))
 (.seq .says S_math_bits_Len64_j2)
/-- math / bits.Len64 -/
def S_math_bits_Len64 : SC :=
 .seq (.region [⟨some 2, .mv (.c (.int .i64 0)), none⟩] [2, 0])
 (.seq (.seq (.region [⟨some 3, .mv (.t 0), none⟩, ⟨some 4, .bin .geq (.t 3) (.c (.int .u64 4294967296)), none⟩] [4, 2, 0])
 (.cond (.t 4) (.seq (.region [⟨some 5, .mv (.t 0), none⟩, ⟨some 6, .bin .shr (.t 5) (.c (.int .u64 32)), none⟩, ⟨some 0, .mv (.t 6), none⟩] [0])
 (.region [⟨some 2, .mv (.c (.int .i64 32)), none⟩] [2, 0]))
 (.region [] [2, 0])))
 (.seq .says S_math_bits_Len64_j1))
theorem C_math_bits_Len64 : Codes Go.Proofs.Try.prog F_math_bits_Len64 S_math_bits_Len64 25 [2] := ⟨Go.Proofs.Try.f32, Go.Proofs.Try.f32.body.getD .skip, Go.Proofs.Try.func32, by kernel_rfl, by kernel_rfl, by kernel_rfl, by kernel_rfl, by kernel_rfl⟩
def F_slices_Clone : FuncId := 33
/-- slices.Clone[gauge / api.Nat,uint64] -/
def S_slices_Clone : SC :=
 .seq (.region [⟨some 2, .mv (.c (.slice none 0 0)), none⟩] [0])
 (.seq (.seq (.region [⟨some 3, .mv (.t 0), none⟩, ⟨some 4, .isnil false (.t 3), none⟩] [4, 0])
 (.cond (.t 4) (.seq (.region [⟨some 2, .mv (.c (.slice none 0 0)), none⟩] [2])
 (.ret))
 (.region [] [0])))
 (.seq (.region [⟨some 5, .bsl false 1 0 [.int .u64 0] [], none⟩, ⟨some 6, .mv (.t 0), none⟩, ⟨some 7, .app false 1 8 (.t 5) (.t 6), none⟩, ⟨some 2, .mv (.t 7), none⟩] [2])
 (.ret)))
theorem C_slices_Clone : Codes Go.Proofs.Try.prog F_slices_Clone S_slices_Clone 8 [2] := ⟨Go.Proofs.Try.f33, Go.Proofs.Try.f33.body.getD .skip, Go.Proofs.Try.func33, by kernel_rfl, by kernel_rfl, by kernel_rfl, by kernel_rfl, by kernel_rfl⟩
def F_nat_div : FuncId := 34
/-- gauge / nat.div -/
def S_nat_div : SC :=
 .seq (.region [⟨some 4, .mv (.c (.slice none 0 0)), none⟩, ⟨some 5, .mv (.c (.slice none 0 0)), none⟩] [1, 0])
 (.seq (.seq (.region [⟨some 12, .mv (.t 0), none⟩, ⟨some 13, .mv (.t 1), none⟩, ⟨some 14, .call 30 [.t 12, .t 13], none⟩, ⟨some 15, .bin .lss (.t 14) (.c (.int .i64 0)), none⟩] [15, 1, 0])
 (.cond (.t 15) (.seq (.region [⟨some 16, .mv (.t 0), none⟩, ⟨some 17, .call 33 [.t 16], none⟩, ⟨some 4, .mv (.c (.slice none 0 0)), none⟩, ⟨some 5, .mv (.t 17), none⟩] [5, 4])
 (.ret))
 (.region [] [1, 0])))
 (.seq (.seq (.region [⟨some 18, .mv (.t 1), none⟩, ⟨some 19, .len (.t 18), none⟩, ⟨some 20, .bin .eql (.t 19) (.c (.int .i64 1)), none⟩] [20, 1, 0])
 (.cond (.t 20) (.seq (.region [⟨some 22, .mv (.t 0), none⟩, ⟨some 23, .mv (.t 1), none⟩, ⟨some 24, .ix 1 (.t 23) (.c (.int .i64 0)), none⟩, ⟨some 25, .ld false 1 (.t 24), none⟩, ⟨some 26, .call 56 [.t 22, .t 25], none⟩, ⟨some 21, .mv (.t 26), none⟩, ⟨some 27, .ext (.t 21) 0, none⟩, ⟨some 28, .ext (.t 21) 1, none⟩, ⟨some 6, .mv (.t 27), none⟩, ⟨some 7, .mv (.t 28), none⟩] [7, 6])
 (.seq (.region [⟨some 29, .mv (.t 6), none⟩, ⟨some 30, .mv (.t 7), none⟩, ⟨some 31, .call 16 [.t 30], none⟩, ⟨some 4, .mv (.t 29), none⟩, ⟨some 5, .mv (.t 31), none⟩] [5, 4])
 (.ret)))
 (.region [] [1, 0])))
 (.seq (.region [⟨some 32, .mv (.t 1), none⟩, ⟨some 33, .mv (.t 1), none⟩, ⟨some 34, .len (.t 33), none⟩, ⟨some 35, .bin .sub (.t 34) (.c (.int .i64 1)), none⟩, ⟨some 36, .ix 1 (.t 32) (.t 35), none⟩, ⟨some 37, .ld false 1 (.t 36), none⟩, ⟨some 38, .call 57 [.t 37], none⟩, ⟨some 8, .mv (.t 38), none⟩] [8, 1, 0])
 (.seq (.region [⟨some 39, .mv (.t 1), none⟩, ⟨some 40, .mv (.t 8), none⟩, ⟨some 41, .call 58 [.t 39, .t 40], none⟩, ⟨some 9, .mv (.t 41), none⟩] [9, 8, 0])
 (.seq (.region [⟨some 42, .mv (.t 0), none⟩, ⟨some 43, .mv (.t 8), none⟩, ⟨some 44, .call 58 [.t 42, .t 43], none⟩, ⟨some 45, .bsl false 1 1 [.int .u64 0] [(0, .c (.int .u64 0))], none⟩, ⟨some 46, .app false 1 8 (.t 44) (.t 45), none⟩, ⟨some 10, .mv (.t 46), none⟩] [10, 9, 8, 0])
 (.seq (.block 0 [10, 9, 8] (.loop [10, 9, 8, 0] (.seq (.seq (.region [⟨some 47, .mv (.t 10), none⟩, ⟨some 48, .len (.t 47), none⟩, ⟨some 49, .mv (.t 0), none⟩, ⟨some 50, .len (.t 49), none⟩, ⟨some 51, .bin .leq (.t 48) (.t 50), none⟩] [51, 10, 9, 8, 0])
 (.cond (.t 51) (.region [] [10, 9, 8, 0])
 (.exit 0)))
 (.block 1 [10, 9, 8, 0] (.region [⟨some 52, .mv (.t 10), none⟩, ⟨some 53, .bsl false 1 1 [.int .u64 0] [(0, .c (.int .u64 0))], none⟩, ⟨some 54, .app false 1 8 (.t 52) (.t 53), none⟩, ⟨some 10, .mv (.t 54), none⟩] [10, 9, 8, 0])))))
 (.seq (.region [⟨some 55, .mv (.t 10), none⟩, ⟨some 56, .len (.t 55), none⟩, ⟨some 57, .mv (.t 9), none⟩, ⟨some 58, .len (.t 57), none⟩, ⟨some 59, .bin .sub (.t 56) (.t 58), none⟩, ⟨some 60, .mks 1 8 [.int .u64 0] (.t 59) (.t 59), none⟩, ⟨some 4, .mv (.t 60), none⟩] [10, 9, 8, 4])
 (.seq (.seq (.region [⟨some 61, .mv (.t 4), none⟩, ⟨some 62, .len (.t 61), none⟩, ⟨some 63, .bin .sub (.t 62) (.c (.int .i64 1)), none⟩, ⟨some 11, .mv (.t 63), none⟩] [11, 10, 9, 8, 4])
 (.block 2 [10, 9, 8, 4] (.loop [11, 10, 9, 8, 4] (.seq (.seq (.region [⟨some 64, .mv (.t 11), none⟩, ⟨some 65, .bin .geq (.t 64) (.c (.int .i64 0)), none⟩] [65, 11, 10, 9, 8, 4])
 (.cond (.t 65) (.region [] [11, 10, 9, 8, 4])
 (.exit 2)))
 (.seq (.block 3 [11, 10, 9, 8, 4] (.region [⟨some 68, .mv (.t 4), none⟩, ⟨some 69, .mv (.t 11), none⟩, ⟨some 70, .mv (.t 10), none⟩, ⟨some 71, .mv (.t 11), none⟩, ⟨some 72, .mv (.t 11), none⟩, ⟨some 73, .mv (.t 9), none⟩, ⟨some 74, .len (.t 73), none⟩, ⟨some 75, .bin .add (.t 72) (.t 74), none⟩, ⟨some 76, .bin .add (.t 75) (.c (.int .i64 1)), none⟩, ⟨some 77, .mv (.t 11), none⟩, ⟨some 78, .mv (.t 9), none⟩, ⟨some 79, .len (.t 78), none⟩, ⟨some 80, .bin .add (.t 77) (.t 79), none⟩, ⟨some 81, .bin .add (.t 80) (.c (.int .i64 1)), none⟩, ⟨some 82, .sl 1 (.t 70) (some (.t 71)) (some (.t 76)) (some (.t 81)), none⟩, ⟨some 83, .mv (.t 9), none⟩, ⟨some 84, .call 59 [.t 82, .t 83], none⟩, ⟨some 85, .ix 1 (.t 68) (.t 69), none⟩, ⟨none, .st 1 (.t 85) (.t 84), none⟩] [11, 10, 9, 8, 4]))
 (.region [⟨some 66, .mv (.t 11), none⟩, ⟨some 67, .bin .sub (.t 66) (.c (.int .i64 1)), none⟩, ⟨some 11, .mv (.t 67), none⟩] [11, 10, 9, 8, 4]))))))
 (.seq (.seq .says (.drawn [0, 1, 2, 3, 4, 5, 6, 7, 8, 9, 10, 11, 12] [⟨some 86, .mv (.t 4), none⟩, ⟨some 87, .callq 55 [.t 86], none⟩, ⟨some 88, .mv (.t 10), none⟩, ⟨some 89, .mv (.t 9), none⟩, ⟨some 90, .len (.t 89), none⟩, ⟨some 91, .mv (.t 9), none⟩, ⟨some 92, .len (.t 91), none⟩, ⟨some 93, .sl 1 (.t 88) none (some (.t 90)) (some (.t 92)), none⟩, ⟨some 94, .callq 55 [.t 93], none⟩, ⟨some 95, .mv (.t 8), none⟩, ⟨some 96, .callq 60 [.t 94, .t 95], none⟩, ⟨some 4, .mv (.t 87), none⟩, ⟨some 5, .mv (.t 96), none⟩] [5, 4]))
 (.ret))))))))))
theorem C_nat_div : Codes Go.Proofs.Try.prog F_nat_div S_nat_div 97 [4, 5] := ⟨Go.Proofs.Try.f34, Go.Proofs.Try.f34.body.getD .skip, Go.Proofs.Try.func34, by kernel_rfl, by kernel_rfl, by kernel_rfl, by kernel_rfl, by kernel_rfl⟩
def F_nat_Small : FuncId := 46
/-- gauge / nat.Small -/
def S_nat_Small : SC :=
 .seq (.region [⟨some 2, .mv (.c (.int .u64 0)), none⟩, ⟨some 3, .mv (.c (.bool false)), none⟩] [0])
 (.seq (.block 0 [0] (.seq (.region [⟨some 5, .mv (.t 0), none⟩, ⟨some 6, .call 29 [.t 5], none⟩, ⟨some 7, .un .not (.t 6), none⟩, ⟨some 8, .mv (.t 7), none⟩, ⟨some 9, .mv (.t 0), some (8, false)⟩, ⟨some 10, .len (.t 9), some (8, false)⟩, ⟨some 11, .bin .gtr (.t 10) (.c (.int .i64 1)), some (8, false)⟩, ⟨some 12, .pick (.t 8) (.c (.bool true)) (.t 11), none⟩, ⟨some 4, .mv (.t 12), none⟩] [4, 0])
 (.cond (.t 4) (.seq (.region [⟨some 2, .mv (.c (.int .u64 0)), none⟩, ⟨some 3, .mv (.c (.bool false)), none⟩] [3, 2])
 (.ret))
 (.seq (.region [⟨some 14, .mv (.t 0), none⟩, ⟨some 15, .len (.t 14), none⟩, ⟨some 16, .bin .eql (.t 15) (.c (.int .i64 0)), none⟩, ⟨some 13, .mv (.t 16), none⟩] [13, 0])
 (.cond (.t 13) (.seq (.region [⟨some 2, .mv (.c (.int .u64 0)), none⟩, ⟨some 3, .mv (.c (.bool true)), none⟩] [3, 2])
 (.ret))
 (.region [] [0]))))))
 (.seq (.region [⟨some 17, .mv (.t 0), none⟩, ⟨some 18, .ix 1 (.t 17) (.c (.int .i64 0)), none⟩, ⟨some 19, .ld false 1 (.t 18), none⟩, ⟨some 2, .mv (.t 19), none⟩, ⟨some 3, .mv (.c (.bool true)), none⟩] [3, 2])
 (.ret)))
theorem C_nat_Small : Codes Go.Proofs.Try.prog F_nat_Small S_nat_Small 20 [2, 3] := ⟨Go.Proofs.Try.f46, Go.Proofs.Try.f46.body.getD .skip, Go.Proofs.Try.func46, by kernel_rfl, by kernel_rfl, by kernel_rfl, by kernel_rfl, by kernel_rfl⟩
def F_nat_Check : FuncId := 49
/-- gauge / nat.Check -/
def S_nat_Check : SC :=
 .seq (.region [⟨some 2, .mv (.c (.int .i64 0)), none⟩] [0])
 (.seq (.seq (.region [⟨some 3, .mv (.t 0), none⟩, ⟨some 4, .call 29 [.t 3], none⟩] [4])
 (.cond (.t 4) (.seq (.region [⟨some 2, .mv (.c (.int .i64 0)), none⟩] [2])
 (.ret))
 (.region [] [])))
 (.seq (.region [⟨some 2, .mv (.c (.int .i64 10)), none⟩] [2])
 (.ret)))
theorem C_nat_Check : Codes Go.Proofs.Try.prog F_nat_Check S_nat_Check 5 [2] := ⟨Go.Proofs.Try.f49, Go.Proofs.Try.f49.body.getD .skip, Go.Proofs.Try.func49, by kernel_rfl, by kernel_rfl, by kernel_rfl, by kernel_rfl, by kernel_rfl⟩
def F_nat_add : FuncId := 53
def S_nat_add_j3 : SC :=
 .region [⟨some 52, .mv (.t 5), none⟩, ⟨some 53, .mv (.t 7), none⟩, ⟨some 54, .mv (.t 9), none⟩, ⟨some 55, .ix 1 (.t 52) (.t 53), none⟩, ⟨none, .st 1 (.t 55) (.t 54), none⟩] [23, 22, 21, 6, 5, 1, 0]
def S_nat_add_j2 : SC :=
 .seq (.seq (.region [⟨some 34, .mv (.t 7), none⟩, ⟨some 35, .mv (.t 1), none⟩, ⟨some 36, .len (.t 35), none⟩, ⟨some 37, .bin .lss (.t 34) (.t 36), none⟩] [37, 23, 22, 21, 9, 7, 6, 5, 1, 0])
 (.cond (.t 37) (.seq (.region [⟨some 38, .mv (.t 9), none⟩, ⟨some 39, .mv (.t 1), none⟩, ⟨some 40, .mv (.t 7), none⟩, ⟨some 41, .ix 1 (.t 39) (.t 40), none⟩, ⟨some 42, .ld false 1 (.t 41), none⟩, ⟨some 43, .bin .add (.t 38) (.t 42), none⟩, ⟨some 9, .mv (.t 43), none⟩] [23, 22, 21, 9, 7, 6, 5, 1, 0])
 (.seq (.region [⟨some 44, .mv (.t 9), none⟩, ⟨some 45, .mv (.t 1), none⟩, ⟨some 46, .mv (.t 7), none⟩, ⟨some 47, .ix 1 (.t 45) (.t 46), none⟩, ⟨some 48, .ld false 1 (.t 47), none⟩, ⟨some 49, .bin .lss (.t 44) (.t 48), none⟩] [49, 23, 22, 21, 9, 7, 6, 5, 1, 0])
 (.cond (.t 49) (.region [⟨some 50, .mv (.t 6), none⟩, ⟨some 51, .bin .add (.t 50) (.c (.int .u64 1)), none⟩, ⟨some 6, .mv (.t 51), none⟩] [23, 22, 21, 9, 7, 6, 5, 1, 0])
 (.region [] [23, 22, 21, 9, 7, 6, 5, 1, 0]))))
 (.region [] [23, 22, 21, 9, 7, 6, 5, 1, 0])))
 (.seq .says S_nat_add_j3)
def S_nat_add_j1 : SC :=
 .seq (.region [⟨some 17, .mv (.t 0), none⟩, ⟨some 18, .len (.t 17), none⟩, ⟨some 19, .bin .add (.t 18) (.c (.int .i64 1)), none⟩, ⟨some 20, .mks 1 8 [.int .u64 0] (.t 19) (.t 19), none⟩, ⟨some 5, .mv (.t 20), none⟩] [5, 1, 0])
 (.seq (.region [⟨some 6, .mv (.c (.int .u64 0)), none⟩] [6, 5, 1, 0])
 (.seq (.seq (.region [⟨some 21, .mv (.t 0), none⟩, ⟨some 22, .len (.t 21), none⟩, ⟨some 23, .mv (.c (.int .i64 0)), none⟩] [23, 22, 21, 6, 5, 1, 0])
 (.block 0 [6, 5, 0] (.loop [23, 22, 21, 6, 5, 1, 0] (.seq (.region [⟨some 24, .bin .lss (.t 23) (.t 22), none⟩] [24, 23, 22, 21, 6, 5, 1, 0])
 (.seq (.cond (.t 24) (.region [] [23, 22, 21, 6, 5, 1, 0])
 (.exit 0))
 (.seq (.block 1 [23, 22, 21, 6, 5, 1, 0] (.seq (.region [⟨some 25, .mv (.t 23), none⟩, ⟨some 26, .ix 1 (.t 21) (.t 23), none⟩, ⟨some 27, .ld false 1 (.t 26), none⟩, ⟨some 7, .mv (.t 25), none⟩, ⟨some 8, .mv (.t 27), none⟩] [23, 22, 21, 8, 7, 6, 5, 1, 0])
 (.seq (.region [⟨some 28, .mv (.t 8), none⟩, ⟨some 29, .mv (.t 6), none⟩, ⟨some 30, .bin .add (.t 28) (.t 29), none⟩, ⟨some 9, .mv (.t 30), none⟩] [23, 22, 21, 9, 8, 7, 5, 1, 0])
 (.seq (.region [⟨some 6, .mv (.c (.int .u64 0)), none⟩] [23, 22, 21, 9, 8, 7, 6, 5, 1, 0])
 (.seq (.seq (.region [⟨some 31, .mv (.t 9), none⟩, ⟨some 32, .mv (.t 8), none⟩, ⟨some 33, .bin .lss (.t 31) (.t 32), none⟩] [33, 23, 22, 21, 9, 7, 6, 5, 1, 0])
 (.cond (.t 33) (.region [⟨some 6, .mv (.c (.int .u64 1)), none⟩] [23, 22, 21, 9, 7, 6, 5, 1, 0])
 (.region [] [23, 22, 21, 9, 7, 6, 5, 1, 0])))
 (.seq .says S_nat_add_j2))))))
 (.region [⟨some 56, .bin .add (.t 23) (.c (.int .i64 1)), none⟩, ⟨some 23, .mv (.t 56), none⟩] [23, 22, 21, 6, 5, 1, 0])))))))
 (.seq (.region [⟨some 57, .mv (.t 5), none⟩, ⟨some 58, .mv (.t 0), none⟩, ⟨some 59, .len (.t 58), none⟩, ⟨some 60, .mv (.t 6), none⟩, ⟨some 61, .ix 1 (.t 57) (.t 59), none⟩, ⟨none, .st 1 (.t 61) (.t 60), none⟩] [5])
 (.seq (.region [⟨some 62, .mv (.t 5), none⟩, ⟨some 63, .call 55 [.t 62], none⟩, ⟨some 4, .mv (.t 63), none⟩] [4])
 (.ret)))))
/-- gauge / nat.add -/
def S_nat_add : SC :=
 .seq (.region [⟨some 4, .mv (.c (.slice none 0 0)), none⟩] [1, 0])
 (.seq (.seq (.region [⟨some 10, .mv (.t 0), none⟩, ⟨some 11, .len (.t 10), none⟩, ⟨some 12, .mv (.t 1), none⟩, ⟨some 13, .len (.t 12), none⟩, ⟨some 14, .bin .lss (.t 11) (.t 13), none⟩] [14, 1, 0])
 (.cond (.t 14) (.region [⟨some 15, .mv (.t 1), none⟩, ⟨some 16, .mv (.t 0), none⟩, ⟨some 0, .mv (.t 15), none⟩, ⟨some 1, .mv (.t 16), none⟩] [1, 0])
 (.region [] [1, 0])))
 (.seq .says S_nat_add_j1))
theorem C_nat_add : Codes Go.Proofs.Try.prog F_nat_add S_nat_add 64 [4] := ⟨Go.Proofs.Try.f53, Go.Proofs.Try.f53.body.getD .skip, Go.Proofs.Try.func53, by kernel_rfl, by kernel_rfl, by kernel_rfl, by kernel_rfl, by kernel_rfl⟩
def F_nat_mul : FuncId := 54
/-- gauge / nat.mul -/
def S_nat_mul : SC :=
 .seq (.region [⟨some 4, .mv (.c (.slice none 0 0)), none⟩] [1, 0])
 (.seq (.region [⟨some 15, .mv (.t 0), none⟩, ⟨some 16, .len (.t 15), none⟩, ⟨some 17, .mv (.t 1), none⟩, ⟨some 18, .len (.t 17), none⟩, ⟨some 19, .bin .add (.t 16) (.t 18), none⟩, ⟨some 20, .mks 1 8 [.int .u64 0] (.t 19) (.t 19), none⟩, ⟨some 5, .mv (.t 20), none⟩] [5, 1, 0])
 (.seq (.seq (.region [⟨some 21, .mv (.t 0), none⟩, ⟨some 22, .len (.t 21), none⟩, ⟨some 23, .mv (.c (.int .i64 0)), none⟩] [23, 22, 21, 5, 1])
 (.block 0 [5] (.loop [23, 22, 21, 5, 1] (.seq (.region [⟨some 24, .bin .lss (.t 23) (.t 22), none⟩] [24, 23, 22, 21, 5, 1])
 (.seq (.cond (.t 24) (.region [] [23, 22, 21, 5, 1])
 (.exit 0))
 (.seq (.block 1 [23, 22, 21, 5, 1] (.seq (.region [⟨some 25, .mv (.t 23), none⟩, ⟨some 26, .ix 1 (.t 21) (.t 23), none⟩, ⟨some 27, .ld false 1 (.t 26), none⟩, ⟨some 6, .mv (.t 25), none⟩, ⟨some 7, .mv (.t 27), none⟩] [23, 22, 21, 7, 6, 5, 1])
 (.seq (.region [⟨some 28, .mv (.t 5), none⟩, ⟨some 29, .mv (.t 6), none⟩, ⟨some 30, .mv (.t 6), none⟩, ⟨some 31, .mv (.t 1), none⟩, ⟨some 32, .len (.t 31), none⟩, ⟨some 33, .bin .add (.t 30) (.t 32), none⟩, ⟨some 34, .bin .add (.t 33) (.c (.int .i64 1)), none⟩, ⟨some 35, .mv (.t 6), none⟩, ⟨some 36, .mv (.t 1), none⟩, ⟨some 37, .len (.t 36), none⟩, ⟨some 38, .bin .add (.t 35) (.t 37), none⟩, ⟨some 39, .bin .add (.t 38) (.c (.int .i64 1)), none⟩, ⟨some 40, .sl 1 (.t 28) (some (.t 29)) (some (.t 34)) (some (.t 39)), none⟩, ⟨some 8, .mv (.t 40), none⟩] [23, 22, 21, 8, 7, 5, 1])
 (.seq (.region [⟨some 9, .mv (.c (.int .u64 0)), none⟩] [23, 22, 21, 9, 8, 7, 5, 1])
 (.seq (.seq (.region [⟨some 41, .mv (.t 1), none⟩, ⟨some 42, .len (.t 41), none⟩, ⟨some 43, .mv (.c (.int .i64 0)), none⟩] [43, 42, 41, 23, 22, 21, 9, 8, 7, 5, 1])
 (.block 2 [23, 22, 21, 9, 8, 5, 1] (.loop [43, 42, 41, 23, 22, 21, 9, 8, 7, 5, 1] (.seq (.region [⟨some 44, .bin .lss (.t 43) (.t 42), none⟩] [44, 43, 42, 41, 23, 22, 21, 9, 8, 7, 5, 1])
 (.seq (.cond (.t 44) (.region [] [43, 42, 41, 23, 22, 21, 9, 8, 7, 5, 1])
 (.exit 2))
 (.seq (.block 3 [43, 42, 41, 23, 22, 21, 9, 8, 7, 5, 1] (.seq (.region [⟨some 45, .mv (.t 43), none⟩, ⟨some 46, .ix 1 (.t 41) (.t 43), none⟩, ⟨some 47, .ld false 1 (.t 46), none⟩, ⟨some 10, .mv (.t 45), none⟩, ⟨some 11, .mv (.t 47), none⟩] [43, 42, 41, 23, 22, 21, 11, 10, 9, 8, 7, 5, 1])
 (.seq (.region [⟨some 49, .mv (.t 7), none⟩, ⟨some 50, .mv (.t 11), none⟩, ⟨some 51, .call 66 [.t 49, .t 50], none⟩, ⟨some 48, .mv (.t 51), none⟩, ⟨some 52, .ext (.t 48) 0, none⟩, ⟨some 53, .ext (.t 48) 1, none⟩, ⟨some 12, .mv (.t 52), none⟩, ⟨some 13, .mv (.t 53), none⟩] [43, 42, 41, 23, 22, 21, 13, 12, 10, 9, 8, 7, 5, 1])
 (.seq (.region [⟨some 55, .mv (.t 13), none⟩, ⟨some 56, .mv (.t 9), none⟩, ⟨some 57, .call 67 [.t 55, .t 56, .c (.int .u64 0)], none⟩, ⟨some 54, .mv (.t 57), none⟩, ⟨some 58, .ext (.t 54) 0, none⟩, ⟨some 59, .ext (.t 54) 1, none⟩, ⟨some 13, .mv (.t 58), none⟩, ⟨some 14, .mv (.t 59), none⟩] [43, 42, 41, 23, 22, 21, 14, 13, 12, 10, 8, 7, 5, 1])
 (.seq (.region [⟨some 60, .mv (.t 12), none⟩, ⟨some 61, .mv (.t 14), none⟩, ⟨some 62, .bin .add (.t 60) (.t 61), none⟩, ⟨some 12, .mv (.t 62), none⟩] [43, 42, 41, 23, 22, 21, 13, 12, 10, 8, 7, 5, 1])
 (.seq (.region [⟨some 64, .mv (.t 8), none⟩, ⟨some 65, .mv (.t 10), none⟩, ⟨some 66, .mv (.t 8), none⟩, ⟨some 67, .mv (.t 10), none⟩, ⟨some 68, .ix 1 (.t 66) (.t 67), none⟩, ⟨some 69, .ld false 1 (.t 68), none⟩, ⟨some 70, .mv (.t 13), none⟩, ⟨some 71, .call 67 [.t 69, .t 70, .c (.int .u64 0)], none⟩, ⟨some 63, .mv (.t 71), none⟩, ⟨some 72, .ext (.t 63) 0, none⟩, ⟨some 73, .ext (.t 63) 1, none⟩, ⟨some 74, .ix 1 (.t 64) (.t 65), none⟩, ⟨none, .st 1 (.t 74) (.t 72), none⟩, ⟨some 14, .mv (.t 73), none⟩] [43, 42, 41, 23, 22, 21, 14, 12, 8, 7, 5, 1])
 (.region [⟨some 75, .mv (.t 12), none⟩, ⟨some 76, .mv (.t 14), none⟩, ⟨some 77, .bin .add (.t 75) (.t 76), none⟩, ⟨some 9, .mv (.t 77), none⟩] [43, 42, 41, 23, 22, 21, 9, 8, 7, 5, 1])))))))
 (.region [⟨some 78, .bin .add (.t 43) (.c (.int .i64 1)), none⟩, ⟨some 43, .mv (.t 78), none⟩] [43, 42, 41, 23, 22, 21, 9, 8, 7, 5, 1])))))))
 (.region [⟨some 79, .mv (.t 8), none⟩, ⟨some 80, .mv (.t 1), none⟩, ⟨some 81, .len (.t 80), none⟩, ⟨some 82, .mv (.t 9), none⟩, ⟨some 83, .ix 1 (.t 79) (.t 81), none⟩, ⟨none, .st 1 (.t 83) (.t 82), none⟩] [23, 22, 21, 5, 1]))))))
 (.region [⟨some 84, .bin .add (.t 23) (.c (.int .i64 1)), none⟩, ⟨some 23, .mv (.t 84), none⟩] [23, 22, 21, 5, 1])))))))
 (.seq (.region [⟨some 85, .mv (.t 5), none⟩, ⟨some 86, .call 55 [.t 85], none⟩, ⟨some 4, .mv (.t 86), none⟩] [4])
 (.ret))))
theorem C_nat_mul : Codes Go.Proofs.Try.prog F_nat_mul S_nat_mul 87 [4] := ⟨Go.Proofs.Try.f54, Go.Proofs.Try.f54.body.getD .skip, Go.Proofs.Try.func54, by kernel_rfl, by kernel_rfl, by kernel_rfl, by kernel_rfl, by kernel_rfl⟩
def F_nat_trim : FuncId := 55
/-- gauge / nat.trim -/
def S_nat_trim : SC :=
 .seq (.region [⟨some 2, .mv (.c (.slice none 0 0)), none⟩] [0])
 (.seq (.region [⟨some 4, .mv (.t 0), none⟩, ⟨some 5, .len (.t 4), none⟩, ⟨some 3, .mv (.t 5), none⟩] [3, 0])
 (.seq (.block 0 [3, 0] (.loop [3, 0] (.seq (.seq (.region [⟨some 6, .mv (.t 3), none⟩, ⟨some 7, .bin .gtr (.t 6) (.c (.int .i64 0)), none⟩, ⟨some 8, .mv (.t 7), none⟩, ⟨some 9, .mv (.t 0), some (8, true)⟩, ⟨some 10, .mv (.t 3), some (8, true)⟩, ⟨some 11, .bin .sub (.t 10) (.c (.int .i64 1)), some (8, true)⟩, ⟨some 12, .ix 1 (.t 9) (.t 11), some (8, true)⟩, ⟨some 13, .ld false 1 (.t 12), some (8, true)⟩, ⟨some 14, .bin .eql (.t 13) (.c (.int .u64 0)), some (8, true)⟩, ⟨some 15, .pick (.t 8) (.t 14) (.c (.bool false)), none⟩] [15, 3, 0])
 (.cond (.t 15) (.region [] [3, 0])
 (.exit 0)))
 (.block 1 [3, 0] (.region [⟨some 16, .mv (.t 3), none⟩, ⟨some 17, .bin .sub (.t 16) (.c (.int .i64 1)), none⟩, ⟨some 3, .mv (.t 17), none⟩] [3, 0])))))
 (.seq (.region [⟨some 18, .mv (.t 0), none⟩, ⟨some 19, .mv (.t 3), none⟩, ⟨some 20, .mv (.t 3), none⟩, ⟨some 21, .sl 1 (.t 18) none (some (.t 19)) (some (.t 20)), none⟩, ⟨some 2, .mv (.t 21), none⟩] [2])
 (.ret))))
theorem C_nat_trim : Codes Go.Proofs.Try.prog F_nat_trim S_nat_trim 22 [2] := ⟨Go.Proofs.Try.f55, Go.Proofs.Try.f55.body.getD .skip, Go.Proofs.Try.func55, by kernel_rfl, by kernel_rfl, by kernel_rfl, by kernel_rfl, by kernel_rfl⟩
def F_nat_divWord : FuncId := 56
/-- gauge / nat.divWord -/
def S_nat_divWord : SC :=
 .seq (.region [⟨some 4, .mv (.c (.slice none 0 0)), none⟩, ⟨some 5, .mv (.c (.int .u64 0)), none⟩] [1, 0])
 (.seq (.region [⟨some 9, .mv (.t 0), none⟩, ⟨some 10, .len (.t 9), none⟩, ⟨some 11, .mks 1 8 [.int .u64 0] (.t 10) (.t 10), none⟩, ⟨some 6, .mv (.t 11), none⟩] [6, 1, 0])
 (.seq (.region [⟨some 7, .mv (.c (.int .u64 0)), none⟩] [7, 6, 1, 0])
 (.seq (.seq (.region [⟨some 12, .mv (.t 0), none⟩, ⟨some 13, .len (.t 12), none⟩, ⟨some 14, .bin .sub (.t 13) (.c (.int .i64 1)), none⟩, ⟨some 8, .mv (.t 14), none⟩] [8, 7, 6, 1, 0])
 (.block 0 [7, 6] (.loop [8, 7, 6, 1, 0] (.seq (.seq (.region [⟨some 15, .mv (.t 8), none⟩, ⟨some 16, .bin .geq (.t 15) (.c (.int .i64 0)), none⟩] [16, 8, 7, 6, 1, 0])
 (.cond (.t 16) (.region [] [8, 7, 6, 1, 0])
 (.exit 0)))
 (.seq (.block 1 [8, 7, 6, 1, 0] (.region [⟨some 20, .mv (.t 6), none⟩, ⟨some 21, .mv (.t 8), none⟩, ⟨some 22, .mv (.t 7), none⟩, ⟨some 23, .mv (.t 0), none⟩, ⟨some 24, .mv (.t 8), none⟩, ⟨some 25, .ix 1 (.t 23) (.t 24), none⟩, ⟨some 26, .ld false 1 (.t 25), none⟩, ⟨some 27, .mv (.t 1), none⟩, ⟨some 28, .call 68 [.t 22, .t 26, .t 27], none⟩, ⟨some 19, .mv (.t 28), none⟩, ⟨some 29, .ext (.t 19) 0, none⟩, ⟨some 30, .ext (.t 19) 1, none⟩, ⟨some 31, .ix 1 (.t 20) (.t 21), none⟩, ⟨none, .st 1 (.t 31) (.t 29), none⟩, ⟨some 7, .mv (.t 30), none⟩] [8, 7, 6, 1, 0]))
 (.region [⟨some 17, .mv (.t 8), none⟩, ⟨some 18, .bin .sub (.t 17) (.c (.int .i64 1)), none⟩, ⟨some 8, .mv (.t 18), none⟩] [8, 7, 6, 1, 0]))))))
 (.seq (.region [⟨some 32, .mv (.t 6), none⟩, ⟨some 33, .call 55 [.t 32], none⟩, ⟨some 34, .mv (.t 7), none⟩, ⟨some 4, .mv (.t 33), none⟩, ⟨some 5, .mv (.t 34), none⟩] [5, 4])
 (.ret)))))
theorem C_nat_divWord : Codes Go.Proofs.Try.prog F_nat_divWord S_nat_divWord 35 [4, 5] := ⟨Go.Proofs.Try.f56, Go.Proofs.Try.f56.body.getD .skip, Go.Proofs.Try.func56, by kernel_rfl, by kernel_rfl, by kernel_rfl, by kernel_rfl, by kernel_rfl⟩
def F_math_bits_LeadingZeros64 : FuncId := 57
/-- math / bits.LeadingZeros64 -/
def S_math_bits_LeadingZeros64 : SC :=
 .seq (.region [⟨some 2, .mv (.c (.int .i64 0)), none⟩] [0])
 (.seq (.region [⟨some 3, .mv (.t 0), none⟩, ⟨some 4, .call 32 [.t 3], none⟩, ⟨some 5, .bin .sub (.c (.int .i64 64)) (.t 4), none⟩, ⟨some 2, .mv (.t 5), none⟩] [2])
 (.ret))
theorem C_math_bits_LeadingZeros64 : Codes Go.Proofs.Try.prog F_math_bits_LeadingZeros64 S_math_bits_LeadingZeros64 6 [2] := ⟨Go.Proofs.Try.f57, Go.Proofs.Try.f57.body.getD .skip, Go.Proofs.Try.func57, by kernel_rfl, by kernel_rfl, by kernel_rfl, by kernel_rfl, by kernel_rfl⟩
def F_nat_left : FuncId := 58
/-- gauge / nat.left -/
def S_nat_left : SC :=
 .seq (.region [⟨some 4, .mv (.c (.slice none 0 0)), none⟩] [1, 0])
 (.seq (.seq (.region [⟨some 8, .mv (.t 0), none⟩, ⟨some 9, .len (.t 8), none⟩, ⟨some 10, .bin .eql (.t 9) (.c (.int .i64 0)), none⟩] [10, 1, 0])
 (.cond (.t 10) (.seq (.region [⟨some 4, .mv (.c (.slice none 0 0)), none⟩] [4])
 (.ret))
 (.region [] [1, 0])))
 (.seq (.region [⟨some 11, .mv (.t 0), none⟩, ⟨some 12, .len (.t 11), none⟩, ⟨some 13, .mv (.t 1), none⟩, ⟨some 14, .bin .quo (.t 13) (.c (.int .i64 64)), none⟩, ⟨some 15, .bin .add (.t 12) (.t 14), none⟩, ⟨some 16, .bin .add (.t 15) (.c (.int .i64 1)), none⟩, ⟨some 17, .mks 1 8 [.int .u64 0] (.t 16) (.t 16), none⟩, ⟨some 5, .mv (.t 17), none⟩] [5, 1, 0])
 (.seq (.seq (.region [⟨some 18, .mv (.t 0), none⟩, ⟨some 19, .len (.t 18), none⟩, ⟨some 20, .mv (.c (.int .i64 0)), none⟩] [20, 19, 18, 5, 1])
 (.block 0 [5] (.loop [20, 19, 18, 5, 1] (.seq (.region [⟨some 21, .bin .lss (.t 20) (.t 19), none⟩] [21, 20, 19, 18, 5, 1])
 (.seq (.cond (.t 21) (.region [] [20, 19, 18, 5, 1])
 (.exit 0))
 (.seq (.block 1 [20, 19, 18, 5, 1] (.seq (.region [⟨some 22, .mv (.t 20), none⟩, ⟨some 23, .ix 1 (.t 18) (.t 20), none⟩, ⟨some 24, .ld false 1 (.t 23), none⟩, ⟨some 6, .mv (.t 22), none⟩, ⟨some 7, .mv (.t 24), none⟩] [20, 19, 18, 7, 6, 5, 1])
 (.seq (.drawn [0, 1, 2, 3, 4, 5, 6, 7, 8, 9, 10, 11, 12, 13] [⟨some 25, .mv (.t 5), none⟩, ⟨some 26, .mv (.t 6), none⟩, ⟨some 27, .mv (.t 1), none⟩, ⟨some 28, .bin .quo (.t 27) (.c (.int .i64 64)), none⟩, ⟨some 29, .bin .add (.t 26) (.t 28), none⟩, ⟨some 30, .ix 1 (.t 25) (.t 29), none⟩, ⟨some 31, .ld false 1 (.t 30), none⟩, ⟨some 32, .mv (.t 7), none⟩, ⟨some 33, .mv (.t 1), none⟩, ⟨some 34, .bin .rem (.t 33) (.c (.int .i64 64)), none⟩, ⟨some 35, .bin .shl (.t 32) (.t 34), none⟩, ⟨some 36, .bin .or (.t 31) (.t 35), none⟩, ⟨some 37, .ix 1 (.t 25) (.t 29), none⟩, ⟨none, .st 1 (.t 37) (.t 36), none⟩] [20, 19, 18, 7, 6, 5, 1])
 (.region [⟨some 38, .mv (.t 5), none⟩, ⟨some 39, .mv (.t 6), none⟩, ⟨some 40, .mv (.t 1), none⟩, ⟨some 41, .bin .quo (.t 40) (.c (.int .i64 64)), none⟩, ⟨some 42, .bin .add (.t 39) (.t 41), none⟩, ⟨some 43, .bin .add (.t 42) (.c (.int .i64 1)), none⟩, ⟨some 44, .mv (.t 7), none⟩, ⟨some 45, .mv (.t 1), none⟩, ⟨some 46, .bin .rem (.t 45) (.c (.int .i64 64)), none⟩, ⟨some 47, .bin .sub (.c (.int .i64 64)) (.t 46), none⟩, ⟨some 48, .bin .shr (.t 44) (.t 47), none⟩, ⟨some 49, .ix 1 (.t 38) (.t 43), none⟩, ⟨none, .st 1 (.t 49) (.t 48), none⟩] [20, 19, 18, 5, 1]))))
 (.region [⟨some 50, .bin .add (.t 20) (.c (.int .i64 1)), none⟩, ⟨some 20, .mv (.t 50), none⟩] [20, 19, 18, 5, 1])))))))
 (.seq (.region [⟨some 51, .mv (.t 5), none⟩, ⟨some 52, .call 55 [.t 51], none⟩, ⟨some 4, .mv (.t 52), none⟩] [4])
 (.ret)))))
theorem C_nat_left : Codes Go.Proofs.Try.prog F_nat_left S_nat_left 53 [4] := ⟨Go.Proofs.Try.f58, Go.Proofs.Try.f58.body.getD .skip, Go.Proofs.Try.func58, by kernel_rfl, by kernel_rfl, by kernel_rfl, by kernel_rfl, by kernel_rfl⟩
def F_nat_step : FuncId := 59
def S_nat_step_j1 : SC :=
 .seq (.region [⟨some 7, .mv (.c (.int .u64 0)), none⟩, ⟨some 8, .mv (.c (.int .u64 0)), none⟩] [8, 7, 6, 5, 1, 0])
 (.seq (.seq (.region [⟨some 45, .mv (.t 5), none⟩, ⟨some 46, .mv (.c (.int .i64 0)), none⟩] [46, 45, 8, 7, 6, 5, 1, 0])
 (.block 0 [8, 7, 6, 5, 1, 0] (.loop [46, 45, 8, 7, 6, 5, 1, 0] (.seq (.region [⟨some 47, .bin .lss (.t 46) (.t 45), none⟩] [47, 46, 45, 8, 7, 6, 5, 1, 0])
 (.seq (.cond (.t 47) (.region [] [46, 45, 8, 7, 6, 5, 1, 0])
 (.exit 0))
 (.seq (.block 1 [46, 45, 8, 7, 6, 5, 1, 0] (.seq (.region [⟨some 48, .mv (.t 46), none⟩, ⟨some 9, .mv (.t 48), none⟩] [46, 45, 9, 8, 7, 6, 5, 1, 0])
 (.seq (.region [⟨some 50, .mv (.t 6), none⟩, ⟨some 51, .mv (.t 1), none⟩, ⟨some 52, .mv (.t 9), none⟩, ⟨some 53, .ix 1 (.t 51) (.t 52), none⟩, ⟨some 54, .ld false 1 (.t 53), none⟩, ⟨some 55, .call 66 [.t 50, .t 54], none⟩, ⟨some 49, .mv (.t 55), none⟩, ⟨some 56, .ext (.t 49) 0, none⟩, ⟨some 57, .ext (.t 49) 1, none⟩, ⟨some 10, .mv (.t 56), none⟩, ⟨some 11, .mv (.t 57), none⟩] [46, 45, 11, 10, 9, 8, 7, 6, 5, 1, 0])
 (.seq (.region [⟨some 59, .mv (.t 11), none⟩, ⟨some 60, .mv (.t 8), none⟩, ⟨some 61, .call 67 [.t 59, .t 60, .c (.int .u64 0)], none⟩, ⟨some 58, .mv (.t 61), none⟩, ⟨some 62, .ext (.t 58) 0, none⟩, ⟨some 63, .ext (.t 58) 1, none⟩, ⟨some 11, .mv (.t 62), none⟩, ⟨some 12, .mv (.t 63), none⟩] [46, 45, 12, 11, 10, 9, 7, 6, 5, 1, 0])
 (.seq (.region [⟨some 64, .mv (.t 10), none⟩, ⟨some 65, .mv (.t 12), none⟩, ⟨some 66, .bin .add (.t 64) (.t 65), none⟩, ⟨some 8, .mv (.t 66), none⟩] [46, 45, 11, 9, 8, 7, 6, 5, 1, 0])
 (.region [⟨some 68, .mv (.t 0), none⟩, ⟨some 69, .mv (.t 9), none⟩, ⟨some 70, .mv (.t 0), none⟩, ⟨some 71, .mv (.t 9), none⟩, ⟨some 72, .ix 1 (.t 70) (.t 71), none⟩, ⟨some 73, .ld false 1 (.t 72), none⟩, ⟨some 74, .mv (.t 11), none⟩, ⟨some 75, .mv (.t 7), none⟩, ⟨some 76, .call 69 [.t 73, .t 74, .t 75], none⟩, ⟨some 67, .mv (.t 76), none⟩, ⟨some 77, .ext (.t 67) 0, none⟩, ⟨some 78, .ext (.t 67) 1, none⟩, ⟨some 79, .ix 1 (.t 68) (.t 69), none⟩, ⟨none, .st 1 (.t 79) (.t 77), none⟩, ⟨some 7, .mv (.t 78), none⟩] [46, 45, 8, 7, 6, 5, 1, 0]))))))
 (.region [⟨some 80, .bin .add (.t 46) (.c (.int .i64 1)), none⟩, ⟨some 46, .mv (.t 80), none⟩] [46, 45, 8, 7, 6, 5, 1, 0])))))))
 (.seq (.region [⟨some 82, .mv (.t 0), none⟩, ⟨some 83, .mv (.t 5), none⟩, ⟨some 84, .mv (.t 0), none⟩, ⟨some 85, .mv (.t 5), none⟩, ⟨some 86, .ix 1 (.t 84) (.t 85), none⟩, ⟨some 87, .ld false 1 (.t 86), none⟩, ⟨some 88, .mv (.t 8), none⟩, ⟨some 89, .mv (.t 7), none⟩, ⟨some 90, .call 69 [.t 87, .t 88, .t 89], none⟩, ⟨some 81, .mv (.t 90), none⟩, ⟨some 91, .ext (.t 81) 0, none⟩, ⟨some 92, .ext (.t 81) 1, none⟩, ⟨some 93, .ix 1 (.t 82) (.t 83), none⟩, ⟨none, .st 1 (.t 93) (.t 91), none⟩, ⟨some 7, .mv (.t 92), none⟩] [7, 6, 5, 1, 0])
 (.seq (.block 2 [6] (.loop [7, 6, 5, 1, 0] (.seq (.seq (.region [⟨some 94, .mv (.t 7), none⟩, ⟨some 95, .bin .neq (.t 94) (.c (.int .u64 0)), none⟩] [95, 7, 6, 5, 1, 0])
 (.cond (.t 95) (.region [] [7, 6, 5, 1, 0])
 (.exit 2)))
 (.block 3 [7, 6, 5, 1, 0] (.seq (.region [⟨some 96, .mv (.t 6), none⟩, ⟨some 97, .bin .sub (.t 96) (.c (.int .u64 1)), none⟩, ⟨some 6, .mv (.t 97), none⟩] [7, 6, 5, 1, 0])
 (.seq (.region [⟨some 13, .mv (.c (.int .u64 0)), none⟩] [13, 7, 6, 5, 1, 0])
 (.seq (.seq (.region [⟨some 98, .mv (.t 5), none⟩, ⟨some 99, .mv (.c (.int .i64 0)), none⟩] [99, 98, 13, 7, 6, 5, 1, 0])
 (.block 4 [13, 7, 6, 5, 1, 0] (.loop [99, 98, 13, 7, 6, 5, 1, 0] (.seq (.region [⟨some 100, .bin .lss (.t 99) (.t 98), none⟩] [100, 99, 98, 13, 7, 6, 5, 1, 0])
 (.seq (.cond (.t 100) (.region [] [99, 98, 13, 7, 6, 5, 1, 0])
 (.exit 4))
 (.seq (.block 5 [99, 98, 13, 7, 6, 5, 1, 0] (.seq (.region [⟨some 101, .mv (.t 99), none⟩, ⟨some 14, .mv (.t 101), none⟩] [99, 98, 14, 13, 7, 6, 5, 1, 0])
 (.seq .says (.drawn [0, 1, 2, 3, 4, 5, 6, 7, 8, 9, 10, 11, 12, 13, 14, 15, 16, 17] [⟨some 103, .mv (.t 0), none⟩, ⟨some 104, .mv (.t 14), none⟩, ⟨some 105, .mv (.t 0), none⟩, ⟨some 106, .mv (.t 14), none⟩, ⟨some 107, .ix 1 (.t 105) (.t 106), none⟩, ⟨some 108, .ld false 1 (.t 107), none⟩, ⟨some 109, .mv (.t 1), none⟩, ⟨some 110, .mv (.t 14), none⟩, ⟨some 111, .ix 1 (.t 109) (.t 110), none⟩, ⟨some 112, .ld false 1 (.t 111), none⟩, ⟨some 113, .mv (.t 13), none⟩, ⟨some 114, .callq 67 [.t 108, .t 112, .t 113], none⟩, ⟨some 102, .mv (.t 114), none⟩, ⟨some 115, .ext (.t 102) 0, none⟩, ⟨some 116, .ext (.t 102) 1, none⟩, ⟨some 117, .ix 1 (.t 103) (.t 104), none⟩, ⟨none, .st 1 (.t 117) (.t 115), none⟩, ⟨some 13, .mv (.t 116), none⟩] [99, 98, 13, 7, 6, 5, 1, 0]))))
 (.region [⟨some 118, .bin .add (.t 99) (.c (.int .i64 1)), none⟩, ⟨some 99, .mv (.t 118), none⟩] [99, 98, 13, 7, 6, 5, 1, 0])))))))
 (.seq (.region [⟨some 120, .mv (.t 0), none⟩, ⟨some 121, .mv (.t 5), none⟩, ⟨some 122, .mv (.t 0), none⟩, ⟨some 123, .mv (.t 5), none⟩, ⟨some 124, .ix 1 (.t 122) (.t 123), none⟩, ⟨some 125, .ld false 1 (.t 124), none⟩, ⟨some 126, .mv (.t 13), none⟩, ⟨some 127, .call 67 [.t 125, .c (.int .u64 0), .t 126], none⟩, ⟨some 119, .mv (.t 127), none⟩, ⟨some 128, .ext (.t 119) 0, none⟩, ⟨some 129, .ext (.t 119) 1, none⟩, ⟨some 130, .ix 1 (.t 120) (.t 121), none⟩, ⟨none, .st 1 (.t 130) (.t 128), none⟩, ⟨some 13, .mv (.t 129), none⟩] [13, 7, 6, 5, 1, 0])
 (.region [⟨some 131, .mv (.t 7), none⟩, ⟨some 132, .mv (.t 13), none⟩, ⟨some 133, .bin .sub (.t 131) (.t 132), none⟩, ⟨some 7, .mv (.t 133), none⟩] [7, 6, 5, 1, 0])))))))))
 (.seq (.region [⟨some 134, .mv (.t 6), none⟩, ⟨some 4, .mv (.t 134), none⟩] [4])
 (.ret)))))
/-- gauge / nat.step -/
def S_nat_step : SC :=
 .seq (.region [⟨some 4, .mv (.c (.int .u64 0)), none⟩] [1, 0])
 (.seq (.region [⟨some 15, .mv (.t 1), none⟩, ⟨some 16, .len (.t 15), none⟩, ⟨some 5, .mv (.t 16), none⟩] [5, 1, 0])
 (.seq (.region [⟨some 6, .mv (.c (.int .u64 18446744073709551615)), none⟩] [6, 5, 1, 0])
 (.seq (.seq (.drawn [0, 1, 2, 3, 4, 5, 6, 7, 8, 9] [⟨some 17, .mv (.t 0), none⟩, ⟨some 18, .mv (.t 5), none⟩, ⟨some 19, .ix 1 (.t 17) (.t 18), none⟩, ⟨some 20, .ld false 1 (.t 19), none⟩, ⟨some 21, .mv (.t 1), none⟩, ⟨some 22, .mv (.t 5), none⟩, ⟨some 23, .bin .sub (.t 22) (.c (.int .i64 1)), none⟩, ⟨some 24, .ix 1 (.t 21) (.t 23), none⟩, ⟨some 25, .ld false 1 (.t 24), none⟩, ⟨some 26, .bin .lss (.t 20) (.t 25), none⟩] [26, 6, 5, 1, 0])
 (.cond (.t 26) (.seq .says (.drawn [0, 1, 2, 3, 4, 5, 6, 7, 8, 9, 10, 11, 12, 13, 14, 15, 16, 17, 18] [⟨some 28, .mv (.t 0), none⟩, ⟨some 29, .mv (.t 5), none⟩, ⟨some 30, .ix 1 (.t 28) (.t 29), none⟩, ⟨some 31, .ld false 1 (.t 30), none⟩, ⟨some 32, .mv (.t 0), none⟩, ⟨some 33, .mv (.t 5), none⟩, ⟨some 34, .bin .sub (.t 33) (.c (.int .i64 1)), none⟩, ⟨some 35, .ix 1 (.t 32) (.t 34), none⟩, ⟨some 36, .ld false 1 (.t 35), none⟩, ⟨some 37, .mv (.t 1), none⟩, ⟨some 38, .mv (.t 5), none⟩, ⟨some 39, .bin .sub (.t 38) (.c (.int .i64 1)), none⟩, ⟨some 40, .ix 1 (.t 37) (.t 39), none⟩, ⟨some 41, .ld false 1 (.t 40), none⟩, ⟨some 42, .callq 68 [.t 31, .t 36, .t 41], none⟩, ⟨some 27, .mv (.t 42), none⟩, ⟨some 43, .ext (.t 27) 0, none⟩, ⟨some 44, .ext (.t 27) 1, none⟩, ⟨some 6, .mv (.t 43), none⟩] [6, 5, 1, 0]))
 (.region [] [6, 5, 1, 0])))
 (.seq .says S_nat_step_j1))))
theorem C_nat_step : Codes Go.Proofs.Try.prog F_nat_step S_nat_step 135 [4] := ⟨Go.Proofs.Try.f59, Go.Proofs.Try.f59.body.getD .skip, Go.Proofs.Try.func59, by kernel_rfl, by kernel_rfl, by kernel_rfl, by kernel_rfl, by kernel_rfl⟩
def F_nat_right : FuncId := 60
def S_nat_right_j1 : SC :=
 .region [⟨some 50, .bin .add (.t 19) (.c (.int .i64 1)), none⟩, ⟨some 19, .mv (.t 50), none⟩] [19, 18, 5, 1]
/-- gauge / nat.right -/
def S_nat_right : SC :=
 .seq (.region [⟨some 4, .mv (.c (.slice none 0 0)), none⟩] [1, 0])
 (.seq (.seq (.region [⟨some 7, .mv (.t 1), none⟩, ⟨some 8, .bin .quo (.t 7) (.c (.int .i64 64)), none⟩, ⟨some 9, .mv (.t 0), none⟩, ⟨some 10, .len (.t 9), none⟩, ⟨some 11, .bin .geq (.t 8) (.t 10), none⟩] [11, 1, 0])
 (.cond (.t 11) (.seq (.region [⟨some 4, .mv (.c (.slice none 0 0)), none⟩] [4])
 (.ret))
 (.region [] [1, 0])))
 (.seq (.region [⟨some 12, .mv (.t 0), none⟩, ⟨some 13, .mv (.t 1), none⟩, ⟨some 14, .bin .quo (.t 13) (.c (.int .i64 64)), none⟩, ⟨some 15, .sl 1 (.t 12) (some (.t 14)) none none, none⟩, ⟨some 16, .call 33 [.t 15], none⟩, ⟨some 5, .mv (.t 16), none⟩] [5, 1])
 (.seq (.seq (.region [⟨some 17, .mv (.t 5), none⟩, ⟨some 18, .len (.t 17), none⟩, ⟨some 19, .mv (.c (.int .i64 0)), none⟩] [19, 18, 5, 1])
 (.block 0 [5] (.loop [19, 18, 5, 1] (.seq (.region [⟨some 20, .bin .lss (.t 19) (.t 18), none⟩] [20, 19, 18, 5, 1])
 (.seq (.cond (.t 20) (.region [] [19, 18, 5, 1])
 (.exit 0))
 (.seq (.block 1 [19, 18, 5, 1] (.seq (.region [⟨some 21, .mv (.t 19), none⟩, ⟨some 6, .mv (.t 21), none⟩] [19, 18, 6, 5, 1])
 (.seq (.region [⟨some 22, .mv (.t 5), none⟩, ⟨some 23, .mv (.t 6), none⟩, ⟨some 24, .ix 1 (.t 22) (.t 23), none⟩, ⟨some 25, .ld false 1 (.t 24), none⟩, ⟨some 26, .mv (.t 1), none⟩, ⟨some 27, .bin .rem (.t 26) (.c (.int .i64 64)), none⟩, ⟨some 28, .bin .shr (.t 25) (.t 27), none⟩, ⟨some 29, .ix 1 (.t 22) (.t 23), none⟩, ⟨none, .st 1 (.t 29) (.t 28), none⟩] [19, 18, 6, 5, 1])
 (.seq (.region [⟨some 30, .mv (.t 6), none⟩, ⟨some 31, .bin .add (.t 30) (.c (.int .i64 1)), none⟩, ⟨some 32, .mv (.t 5), none⟩, ⟨some 33, .len (.t 32), none⟩, ⟨some 34, .bin .lss (.t 31) (.t 33), none⟩] [34, 19, 18, 6, 5, 1])
 (.cond (.t 34) (.drawn [0, 1, 2, 3, 4, 5, 6, 7, 8, 9, 10, 11, 12, 13, 14, 15] [⟨some 35, .mv (.t 5), none⟩, ⟨some 36, .mv (.t 6), none⟩, ⟨some 37, .ix 1 (.t 35) (.t 36), none⟩, ⟨some 38, .ld false 1 (.t 37), none⟩, ⟨some 39, .mv (.t 5), none⟩, ⟨some 40, .mv (.t 6), none⟩, ⟨some 41, .bin .add (.t 40) (.c (.int .i64 1)), none⟩, ⟨some 42, .ix 1 (.t 39) (.t 41), none⟩, ⟨some 43, .ld false 1 (.t 42), none⟩, ⟨some 44, .mv (.t 1), none⟩, ⟨some 45, .bin .rem (.t 44) (.c (.int .i64 64)), none⟩, ⟨some 46, .bin .sub (.c (.int .i64 64)) (.t 45), none⟩, ⟨some 47, .bin .shl (.t 43) (.t 46), none⟩, ⟨some 48, .bin .or (.t 38) (.t 47), none⟩, ⟨some 49, .ix 1 (.t 35) (.t 36), none⟩, ⟨none, .st 1 (.t 49) (.t 48), none⟩] [19, 18, 5, 1])
 (.region [] [19, 18, 5, 1]))))))
 (.seq .says S_nat_right_j1)))))))
 (.seq (.region [⟨some 51, .mv (.t 5), none⟩, ⟨some 52, .call 55 [.t 51], none⟩, ⟨some 4, .mv (.t 52), none⟩] [4])
 (.ret)))))
theorem C_nat_right : Codes Go.Proofs.Try.prog F_nat_right S_nat_right 53 [4] := ⟨Go.Proofs.Try.f60, Go.Proofs.Try.f60.body.getD .skip, Go.Proofs.Try.func60, by kernel_rfl, by kernel_rfl, by kernel_rfl, by kernel_rfl, by kernel_rfl⟩
def F_math_bits_Mul64 : FuncId := 66
/-- math / bits.Mul64 -/
def S_math_bits_Mul64 : SC :=
 .seq (.region [⟨some 4, .mv (.c (.int .u64 0)), none⟩, ⟨some 5, .mv (.c (.int .u64 0)), none⟩] [1, 0])
 (.seq (.region [⟨some 14, .mv (.t 0), none⟩, ⟨some 15, .bin .and (.t 14) (.c (.int .u64 4294967295)), none⟩, ⟨some 6, .mv (.t 15), none⟩] [6, 1, 0])
 (.seq (.region [⟨some 16, .mv (.t 0), none⟩, ⟨some 17, .bin .shr (.t 16) (.c (.int .u64 32)), none⟩, ⟨some 7, .mv (.t 17), none⟩] [7, 6, 1, 0])
 (.seq (.region [⟨some 18, .mv (.t 1), none⟩, ⟨some 19, .bin .and (.t 18) (.c (.int .u64 4294967295)), none⟩, ⟨some 8, .mv (.t 19), none⟩] [8, 7, 6, 1, 0])
 (.seq (.region [⟨some 20, .mv (.t 1), none⟩, ⟨some 21, .bin .shr (.t 20) (.c (.int .u64 32)), none⟩, ⟨some 9, .mv (.t 21), none⟩] [9, 8, 7, 6, 1, 0])
 (.seq (.region [⟨some 22, .mv (.t 6), none⟩, ⟨some 23, .mv (.t 8), none⟩, ⟨some 24, .bin .mul (.t 22) (.t 23), none⟩, ⟨some 10, .mv (.t 24), none⟩] [10, 9, 8, 7, 6, 1, 0])
 (.seq (.region [⟨some 25, .mv (.t 7), none⟩, ⟨some 26, .mv (.t 8), none⟩, ⟨some 27, .bin .mul (.t 25) (.t 26), none⟩, ⟨some 28, .mv (.t 10), none⟩, ⟨some 29, .bin .shr (.t 28) (.c (.int .u64 32)), none⟩, ⟨some 30, .bin .add (.t 27) (.t 29), none⟩, ⟨some 11, .mv (.t 30), none⟩] [11, 9, 7, 6, 1, 0])
 (.seq (.region [⟨some 31, .mv (.t 11), none⟩, ⟨some 32, .bin .and (.t 31) (.c (.int .u64 4294967295)), none⟩, ⟨some 12, .mv (.t 32), none⟩] [12, 11, 9, 7, 6, 1, 0])
 (.seq (.region [⟨some 33, .mv (.t 11), none⟩, ⟨some 34, .bin .shr (.t 33) (.c (.int .u64 32)), none⟩, ⟨some 13, .mv (.t 34), none⟩] [13, 12, 9, 7, 6, 1, 0])
 (.seq (.region [⟨some 35, .mv (.t 12), none⟩, ⟨some 36, .mv (.t 6), none⟩, ⟨some 37, .mv (.t 9), none⟩, ⟨some 38, .bin .mul (.t 36) (.t 37), none⟩, ⟨some 39, .bin .add (.t 35) (.t 38), none⟩, ⟨some 12, .mv (.t 39), none⟩] [13, 12, 9, 7, 1, 0])
 (.seq (.region [⟨some 40, .mv (.t 7), none⟩, ⟨some 41, .mv (.t 9), none⟩, ⟨some 42, .bin .mul (.t 40) (.t 41), none⟩, ⟨some 43, .mv (.t 13), none⟩, ⟨some 44, .bin .add (.t 42) (.t 43), none⟩, ⟨some 45, .mv (.t 12), none⟩, ⟨some 46, .bin .shr (.t 45) (.c (.int .u64 32)), none⟩, ⟨some 47, .bin .add (.t 44) (.t 46), none⟩, ⟨some 4, .mv (.t 47), none⟩] [4, 1, 0])
 (.seq (.region [⟨some 48, .mv (.t 0), none⟩, ⟨some 49, .mv (.t 1), none⟩, ⟨some 50, .bin .mul (.t 48) (.t 49), none⟩, ⟨some 5, .mv (.t 50), none⟩] [5, 4])
 (.ret))))))))))))
theorem C_math_bits_Mul64 : Codes Go.Proofs.Try.prog F_math_bits_Mul64 S_math_bits_Mul64 51 [4, 5] := ⟨Go.Proofs.Try.f66, Go.Proofs.Try.f66.body.getD .skip, Go.Proofs.Try.func66, by kernel_rfl, by kernel_rfl, by kernel_rfl, by kernel_rfl, by kernel_rfl⟩
def F_math_bits_Add64 : FuncId := 67
def F_math_bits_Div64 : FuncId := 68
def S_math_bits_Div64_j2 : SC :=
 .seq (.region [⟨some 121, .mv (.t 15), none⟩, ⟨some 122, .bin .mul (.t 121) (.c (.int .u64 4294967296)), none⟩, ⟨some 123, .mv (.t 18), none⟩, ⟨some 124, .bin .add (.t 122) (.t 123), none⟩, ⟨some 125, .mv (.t 17), none⟩, ⟨some 126, .bin .mul (.t 125) (.c (.int .u64 4294967296)), none⟩, ⟨some 127, .mv (.t 14), none⟩, ⟨some 128, .bin .add (.t 126) (.t 127), none⟩, ⟨some 129, .mv (.t 18), none⟩, ⟨some 130, .mv (.t 2), none⟩, ⟨some 131, .bin .mul (.t 129) (.t 130), none⟩, ⟨some 132, .bin .sub (.t 128) (.t 131), none⟩, ⟨some 133, .mv (.t 8), none⟩, ⟨some 134, .bin .shr (.t 132) (.t 133), none⟩, ⟨some 6, .mv (.t 124), none⟩, ⟨some 7, .mv (.t 134), none⟩] [7, 6])
 (.ret)
def S_math_bits_Div64_j1 : SC :=
 .seq (.region [⟨some 86, .mv (.t 11), none⟩, ⟨some 87, .bin .mul (.t 86) (.c (.int .u64 4294967296)), none⟩, ⟨some 88, .mv (.t 13), none⟩, ⟨some 89, .bin .add (.t 87) (.t 88), none⟩, ⟨some 90, .mv (.t 15), none⟩, ⟨some 91, .mv (.t 2), none⟩, ⟨some 92, .bin .mul (.t 90) (.t 91), none⟩, ⟨some 93, .bin .sub (.t 89) (.t 92), none⟩, ⟨some 17, .mv (.t 93), none⟩] [17, 15, 14, 10, 9, 8, 2])
 (.seq (.region [⟨some 94, .mv (.t 17), none⟩, ⟨some 95, .mv (.t 9), none⟩, ⟨some 96, .bin .quo (.t 94) (.t 95), none⟩, ⟨some 18, .mv (.t 96), none⟩] [18, 17, 15, 14, 10, 9, 8, 2])
 (.seq (.region [⟨some 97, .mv (.t 17), none⟩, ⟨some 98, .mv (.t 18), none⟩, ⟨some 99, .mv (.t 9), none⟩, ⟨some 100, .bin .mul (.t 98) (.t 99), none⟩, ⟨some 101, .bin .sub (.t 97) (.t 100), none⟩, ⟨some 16, .mv (.t 101), none⟩] [18, 17, 16, 15, 14, 10, 9, 8, 2])
 (.seq (.block 2 [18, 17, 15, 14, 8, 2] (.loop [18, 17, 16, 15, 14, 10, 9, 8, 2] (.seq (.seq (.region [⟨some 102, .mv (.t 18), none⟩, ⟨some 103, .bin .geq (.t 102) (.c (.int .u64 4294967296)), none⟩, ⟨some 104, .mv (.t 103), none⟩, ⟨some 105, .mv (.t 18), some (104, false)⟩, ⟨some 106, .mv (.t 10), some (104, false)⟩, ⟨some 107, .bin .mul (.t 105) (.t 106), some (104, false)⟩, ⟨some 108, .mv (.t 16), some (104, false)⟩, ⟨some 109, .bin .mul (.c (.int .u64 4294967296)) (.t 108), some (104, false)⟩, ⟨some 110, .mv (.t 14), some (104, false)⟩, ⟨some 111, .bin .add (.t 109) (.t 110), some (104, false)⟩, ⟨some 112, .bin .gtr (.t 107) (.t 111), some (104, false)⟩, ⟨some 113, .pick (.t 104) (.c (.bool true)) (.t 112), none⟩] [113, 18, 17, 16, 15, 14, 10, 9, 8, 2])
 (.cond (.t 113) (.region [] [18, 17, 16, 15, 14, 10, 9, 8, 2])
 (.exit 2)))
 (.block 3 [18, 17, 16, 15, 14, 10, 9, 8, 2] (.seq (.region [⟨some 114, .mv (.t 18), none⟩, ⟨some 115, .bin .sub (.t 114) (.c (.int .u64 1)), none⟩, ⟨some 18, .mv (.t 115), none⟩] [18, 17, 16, 15, 14, 10, 9, 8, 2])
 (.seq (.region [⟨some 116, .mv (.t 16), none⟩, ⟨some 117, .mv (.t 9), none⟩, ⟨some 118, .bin .add (.t 116) (.t 117), none⟩, ⟨some 16, .mv (.t 118), none⟩] [18, 17, 16, 15, 14, 10, 9, 8, 2])
 (.seq (.region [⟨some 119, .mv (.t 16), none⟩, ⟨some 120, .bin .geq (.t 119) (.c (.int .u64 4294967296)), none⟩] [120, 18, 17, 16, 15, 14, 10, 9, 8, 2])
 (.cond (.t 120) (.exit 2)
 (.region [] [18, 17, 16, 15, 14, 10, 9, 8, 2])))))))))
 (.seq .says S_math_bits_Div64_j2))))
/-- math / bits.Div64 -/
def S_math_bits_Div64 : SC :=
 .seq (.region [⟨some 6, .mv (.c (.int .u64 0)), none⟩, ⟨some 7, .mv (.c (.int .u64 0)), none⟩] [2, 1, 0])
 (.seq (.seq (.region [⟨some 19, .mv (.t 2), none⟩, ⟨some 20, .bin .eql (.t 19) (.c (.int .u64 0)), none⟩] [20, 2, 1, 0])
 (.cond (.t 20) (.dead)
 (.region [] [2, 1, 0])))
 (.seq (.seq (.region [⟨some 22, .mv (.t 2), none⟩, ⟨some 23, .mv (.t 0), none⟩, ⟨some 24, .bin .leq (.t 22) (.t 23), none⟩] [24, 2, 1, 0])
 (.cond (.t 24) (.dead)
 (.region [] [2, 1, 0])))
 (.seq (.seq (.region [⟨some 26, .mv (.t 0), none⟩, ⟨some 27, .bin .eql (.t 26) (.c (.int .u64 0)), none⟩] [27, 2, 1, 0])
 (.cond (.t 27) (.seq (.drawn [0, 1, 2, 3, 4, 5, 6, 7] [⟨some 28, .mv (.t 1), none⟩, ⟨some 29, .mv (.t 2), none⟩, ⟨some 30, .bin .quo (.t 28) (.t 29), none⟩, ⟨some 31, .mv (.t 1), none⟩, ⟨some 32, .mv (.t 2), none⟩, ⟨some 33, .bin .rem (.t 31) (.t 32), none⟩, ⟨some 6, .mv (.t 30), none⟩, ⟨some 7, .mv (.t 33), none⟩] [7, 6])
 (.ret))
 (.region [] [2, 1, 0])))
 (.seq (.region [⟨some 34, .mv (.t 2), none⟩, ⟨some 35, .call 57 [.t 34], none⟩, ⟨some 36, .conv .u64 (.t 35), none⟩, ⟨some 8, .mv (.t 36), none⟩] [8, 2, 1, 0])
 (.seq (.region [⟨some 37, .mv (.t 2), none⟩, ⟨some 38, .mv (.t 8), none⟩, ⟨some 39, .bin .shl (.t 37) (.t 38), none⟩, ⟨some 2, .mv (.t 39), none⟩] [8, 2, 1, 0])
 (.seq (.region [⟨some 40, .mv (.t 2), none⟩, ⟨some 41, .bin .shr (.t 40) (.c (.int .u64 32)), none⟩, ⟨some 9, .mv (.t 41), none⟩] [9, 8, 2, 1, 0])
 (.seq (.region [⟨some 42, .mv (.t 2), none⟩, ⟨some 43, .bin .and (.t 42) (.c (.int .u64 4294967295)), none⟩, ⟨some 10, .mv (.t 43), none⟩] [10, 9, 8, 2, 1, 0])
 (.seq (.region [⟨some 44, .mv (.t 0), none⟩, ⟨some 45, .mv (.t 8), none⟩, ⟨some 46, .bin .shl (.t 44) (.t 45), none⟩, ⟨some 47, .mv (.t 1), none⟩, ⟨some 48, .mv (.t 8), none⟩, ⟨some 49, .bin .sub (.c (.int .u64 64)) (.t 48), none⟩, ⟨some 50, .bin .shr (.t 47) (.t 49), none⟩, ⟨some 51, .bin .or (.t 46) (.t 50), none⟩, ⟨some 11, .mv (.t 51), none⟩] [11, 10, 9, 8, 2, 1])
 (.seq (.region [⟨some 52, .mv (.t 1), none⟩, ⟨some 53, .mv (.t 8), none⟩, ⟨some 54, .bin .shl (.t 52) (.t 53), none⟩, ⟨some 12, .mv (.t 54), none⟩] [12, 11, 10, 9, 8, 2])
 (.seq (.region [⟨some 55, .mv (.t 12), none⟩, ⟨some 56, .bin .shr (.t 55) (.c (.int .u64 32)), none⟩, ⟨some 13, .mv (.t 56), none⟩] [13, 12, 11, 10, 9, 8, 2])
 (.seq (.region [⟨some 57, .mv (.t 12), none⟩, ⟨some 58, .bin .and (.t 57) (.c (.int .u64 4294967295)), none⟩, ⟨some 14, .mv (.t 58), none⟩] [14, 13, 11, 10, 9, 8, 2])
 (.seq (.region [⟨some 59, .mv (.t 11), none⟩, ⟨some 60, .mv (.t 9), none⟩, ⟨some 61, .bin .quo (.t 59) (.t 60), none⟩, ⟨some 15, .mv (.t 61), none⟩] [15, 14, 13, 11, 10, 9, 8, 2])
 (.seq (.region [⟨some 62, .mv (.t 11), none⟩, ⟨some 63, .mv (.t 15), none⟩, ⟨some 64, .mv (.t 9), none⟩, ⟨some 65, .bin .mul (.t 63) (.t 64), none⟩, ⟨some 66, .bin .sub (.t 62) (.t 65), none⟩, ⟨some 16, .mv (.t 66), none⟩] [16, 15, 14, 13, 11, 10, 9, 8, 2])
 (.seq (.block 0 [15, 14, 13, 11, 10, 9, 8, 2] (.loop [16, 15, 14, 13, 11, 10, 9, 8, 2] (.seq (.seq (.region [⟨some 67, .mv (.t 15), none⟩, ⟨some 68, .bin .geq (.t 67) (.c (.int .u64 4294967296)), none⟩, ⟨some 69, .mv (.t 68), none⟩, ⟨some 70, .mv (.t 15), some (69, false)⟩, ⟨some 71, .mv (.t 10), some (69, false)⟩, ⟨some 72, .bin .mul (.t 70) (.t 71), some (69, false)⟩, ⟨some 73, .mv (.t 16), some (69, false)⟩, ⟨some 74, .bin .mul (.c (.int .u64 4294967296)) (.t 73), some (69, false)⟩, ⟨some 75, .mv (.t 13), some (69, false)⟩, ⟨some 76, .bin .add (.t 74) (.t 75), some (69, false)⟩, ⟨some 77, .bin .gtr (.t 72) (.t 76), some (69, false)⟩, ⟨some 78, .pick (.t 69) (.c (.bool true)) (.t 77), none⟩] [78, 16, 15, 14, 13, 11, 10, 9, 8, 2])
 (.cond (.t 78) (.region [] [16, 15, 14, 13, 11, 10, 9, 8, 2])
 (.exit 0)))
 (.block 1 [16, 15, 14, 13, 11, 10, 9, 8, 2] (.seq (.region [⟨some 79, .mv (.t 15), none⟩, ⟨some 80, .bin .sub (.t 79) (.c (.int .u64 1)), none⟩, ⟨some 15, .mv (.t 80), none⟩] [16, 15, 14, 13, 11, 10, 9, 8, 2])
 (.seq (.region [⟨some 81, .mv (.t 16), none⟩, ⟨some 82, .mv (.t 9), none⟩, ⟨some 83, .bin .add (.t 81) (.t 82), none⟩, ⟨some 16, .mv (.t 83), none⟩] [16, 15, 14, 13, 11, 10, 9, 8, 2])
 (.seq (.region [⟨some 84, .mv (.t 16), none⟩, ⟨some 85, .bin .geq (.t 84) (.c (.int .u64 4294967296)), none⟩] [85, 16, 15, 14, 13, 11, 10, 9, 8, 2])
 (.cond (.t 85) (.exit 0)
 (.region [] [16, 15, 14, 13, 11, 10, 9, 8, 2])))))))))
 (.seq .says S_math_bits_Div64_j1)))))))))))))))
theorem C_math_bits_Div64 : Codes Go.Proofs.Try.prog F_math_bits_Div64 S_math_bits_Div64 135 [6, 7] := ⟨Go.Proofs.Try.f68, Go.Proofs.Try.f68.body.getD .skip, Go.Proofs.Try.func68, by kernel_rfl, by kernel_rfl, by kernel_rfl, by kernel_rfl, by kernel_rfl⟩
def F_math_bits_Sub64 : FuncId := 69
end Go.Proofs.Ytigedaepbilokaa.Nat
