import Derived.Test.YtigedaepbilokaaAb14
import Derived.Test.YtigedaepbilokaaProg
namespace Go.Proofs.Ytigedaepbilokaa.Nat
open Go Go.Ab
open Go.Ab.SOp Go.Ab.SC Go.Ab.Opd
set_option linter.unusedVariables false
set_option maxRecDepth 20000
def F_gaugelaw1_NatOrder : FuncId := 4
/-- gauge / gaugelaw1.NatOrder -/
def S_gaugelaw1_NatOrder : SC :=
 .seq (.region [⟨some 2, .mv (.c (.bool false)), none⟩] [0])
 (.seq (.seq (.region [⟨some 3, .mv (.c (.int .i64 0)), none⟩] [3, 0])
 (.block 0 [] (.loop [3, 0] (.seq (.seq (.region [⟨some 10, .mv (.t 3), none⟩, ⟨some 11, .mv (.t 0), none⟩, ⟨some 12, .len (.t 11), none⟩, ⟨some 13, .bin .lss (.t 10) (.t 12), none⟩, ⟨some 14, .mv (.t 13), none⟩, ⟨some 15, .mv (.t 3), some (14, true)⟩, ⟨some 16, .bin .lss (.t 15) (.c (.int .i64 60)), some (14, true)⟩, ⟨some 17, .pick (.t 14) (.t 16) (.c (.bool false)), none⟩] [17, 3, 0])
 (.cond (.t 17) (.region [] [3, 0])
 (.exit 0)))
 (.seq (.block 1 [3, 0] (.seq (.seq (.drawn [0, 1, 2, 3, 4, 5, 6, 7, 8, 9, 10, 11, 12, 13, 14, 15, 16] [⟨some 20, .mv (.t 0), none⟩, ⟨some 21, .mv (.t 3), none⟩, ⟨some 22, .ix 3 (.t 20) (.t 21), none⟩, ⟨some 23, .fa 0 (.t 22), none⟩, ⟨some 24, .ld false 1 (.t 23), none⟩, ⟨some 25, .mv (.t 0), none⟩, ⟨some 26, .mv (.t 3), none⟩, ⟨some 27, .ix 3 (.t 25) (.t 26), none⟩, ⟨some 28, .fa 1 (.t 27), none⟩, ⟨some 29, .ld false 1 (.t 28), none⟩, ⟨some 30, .mv (.t 0), none⟩, ⟨some 31, .mv (.t 3), none⟩, ⟨some 32, .ix 3 (.t 30) (.t 31), none⟩, ⟨some 33, .fa 2 (.t 32), none⟩, ⟨some 34, .ld false 1 (.t 33), none⟩, ⟨some 35, .bsl false 1 3 [.slice none 0 0] [(0, .t 24), (1, .t 29), (2, .t 34)], none⟩, ⟨some 36, .callq 8 [.c (.int .i64 300), .t 35], none⟩] [36, 3, 0])
 (.cond (.t 36) (.seq (.region [⟨some 2, .mv (.c (.bool true)), none⟩] [2])
 (.ret))
 (.region [] [3, 0])))
 (.seq (.region [⟨some 37, .mv (.t 0), none⟩, ⟨some 38, .mv (.t 3), none⟩, ⟨some 39, .ix 3 (.t 37) (.t 38), none⟩, ⟨some 40, .fa 0 (.t 39), none⟩, ⟨some 41, .ld false 1 (.t 40), none⟩, ⟨some 42, .call 9 [.t 41], none⟩, ⟨some 4, .mv (.t 42), none⟩] [4, 3, 0])
 (.seq (.region [⟨some 43, .mv (.t 0), none⟩, ⟨some 44, .mv (.t 3), none⟩, ⟨some 45, .ix 3 (.t 43) (.t 44), none⟩, ⟨some 46, .fa 1 (.t 45), none⟩, ⟨some 47, .ld false 1 (.t 46), none⟩, ⟨some 48, .call 9 [.t 47], none⟩, ⟨some 5, .mv (.t 48), none⟩] [5, 4, 3, 0])
 (.seq (.region [⟨some 49, .mv (.t 0), none⟩, ⟨some 50, .mv (.t 3), none⟩, ⟨some 51, .ix 3 (.t 49) (.t 50), none⟩, ⟨some 52, .fa 2 (.t 51), none⟩, ⟨some 53, .ld false 1 (.t 52), none⟩, ⟨some 54, .call 9 [.t 53], none⟩, ⟨some 6, .mv (.t 54), none⟩] [6, 5, 4, 3, 0])
 (.seq (.region [⟨some 55, .mv (.t 4), none⟩, ⟨some 56, .mv (.t 5), none⟩, ⟨some 57, .call 15 [.t 55, .t 56], none⟩, ⟨some 7, .mv (.t 57), none⟩] [7, 6, 5, 4, 3, 0])
 (.seq (.seq (.region [⟨some 58, .mv (.t 5), none⟩, ⟨some 59, .mv (.t 4), none⟩, ⟨some 60, .call 15 [.t 58, .t 59], none⟩, ⟨some 61, .mv (.t 7), none⟩, ⟨some 62, .un .neg (.t 61), none⟩, ⟨some 63, .bin .neq (.t 60) (.t 62), none⟩, ⟨some 64, .mv (.t 63), none⟩, ⟨some 65, .mv (.t 4), some (64, false)⟩, ⟨some 66, .mv (.t 4), some (64, false)⟩, ⟨some 67, .call 15 [.t 65, .t 66], some (64, false)⟩, ⟨some 68, .bin .neq (.t 67) (.c (.int .i64 0)), some (64, false)⟩, ⟨some 69, .pick (.t 64) (.c (.bool true)) (.t 68), none⟩, ⟨some 70, .mv (.t 69), none⟩, ⟨some 71, .mv (.t 7), some (70, false)⟩, ⟨some 72, .bin .eql (.t 71) (.c (.int .i64 0)), some (70, false)⟩, ⟨some 73, .mv (.t 4), some (70, false)⟩, ⟨some 74, .mv (.t 5), some (70, false)⟩, ⟨some 75, .call 10 [.t 73, .t 74], some (70, false)⟩, ⟨some 76, .beq true (.t 72) (.t 75), some (70, false)⟩, ⟨some 77, .pick (.t 70) (.c (.bool true)) (.t 76), none⟩, ⟨some 78, .mv (.t 77), none⟩, ⟨some 79, .mv (.t 4), some (78, false)⟩, ⟨some 80, .mv (.t 6), some (78, false)⟩, ⟨some 81, .call 11 [.t 79, .t 80], some (78, false)⟩, ⟨some 82, .mv (.t 5), some (78, false)⟩, ⟨some 83, .mv (.t 6), some (78, false)⟩, ⟨some 84, .call 11 [.t 82, .t 83], some (78, false)⟩, ⟨some 85, .call 15 [.t 81, .t 84], some (78, false)⟩, ⟨some 86, .mv (.t 7), some (78, false)⟩, ⟨some 87, .bin .neq (.t 85) (.t 86), some (78, false)⟩, ⟨some 88, .pick (.t 78) (.c (.bool true)) (.t 87), none⟩, ⟨some 89, .mv (.t 88), none⟩, ⟨some 90, .mv (.t 6), some (89, false)⟩, ⟨some 91, .len (.t 90), some (89, false)⟩, ⟨some 92, .bin .gtr (.t 91) (.c (.int .i64 0)), some (89, false)⟩, ⟨some 93, .mv (.t 92), some (89, false)⟩, ⟨some 94, .mv (.t 4), some (93, true)⟩, ⟨some 95, .mv (.t 6), some (93, true)⟩, ⟨some 96, .call 12 [.t 94, .t 95], some (93, true)⟩, ⟨some 97, .mv (.t 5), some (93, true)⟩, ⟨some 98, .mv (.t 6), some (93, true)⟩, ⟨some 99, .call 12 [.t 97, .t 98], some (93, true)⟩, ⟨some 100, .call 15 [.t 96, .t 99], some (93, true)⟩, ⟨some 101, .mv (.t 7), some (93, true)⟩, ⟨some 102, .bin .neq (.t 100) (.t 101), some (93, true)⟩, ⟨some 103, .pick (.t 93) (.t 102) (.c (.bool false)), some (89, false)⟩, ⟨some 104, .pick (.t 89) (.c (.bool true)) (.t 103), none⟩] [104, 7, 6, 5, 4, 3, 0])
 (.cond (.t 104) (.seq (.region [⟨some 2, .mv (.c (.bool false)), none⟩] [2])
 (.ret))
 (.region [] [7, 6, 5, 4, 3, 0])))
 (.seq (.seq (.region [⟨some 105, .mv (.t 7), none⟩, ⟨some 106, .bin .lss (.t 105) (.c (.int .i64 0)), none⟩, ⟨some 107, .mv (.t 106), none⟩, ⟨some 108, .mv (.t 5), some (107, true)⟩, ⟨some 109, .mv (.t 6), some (107, true)⟩, ⟨some 110, .call 15 [.t 108, .t 109], some (107, true)⟩, ⟨some 111, .bin .lss (.t 110) (.c (.int .i64 0)), some (107, true)⟩, ⟨some 112, .pick (.t 107) (.t 111) (.c (.bool false)), none⟩, ⟨some 113, .mv (.t 112), none⟩, ⟨some 114, .mv (.t 4), some (113, true)⟩, ⟨some 115, .mv (.t 6), some (113, true)⟩, ⟨some 116, .call 15 [.t 114, .t 115], some (113, true)⟩, ⟨some 117, .bin .geq (.t 116) (.c (.int .i64 0)), some (113, true)⟩, ⟨some 118, .pick (.t 113) (.t 117) (.c (.bool false)), none⟩, ⟨some 119, .mv (.t 118), none⟩, ⟨some 120, .mv (.t 7), some (119, false)⟩, ⟨some 121, .bin .leq (.t 120) (.c (.int .i64 0)), some (119, false)⟩, ⟨some 122, .mv (.t 121), some (119, false)⟩, ⟨some 123, .mv (.t 4), some (122, true)⟩, ⟨some 124, .call 18 [.t 123], some (122, true)⟩, ⟨some 125, .mv (.t 5), some (122, true)⟩, ⟨some 126, .call 18 [.t 125], some (122, true)⟩, ⟨some 127, .bin .gtr (.t 124) (.t 126), some (122, true)⟩, ⟨some 128, .pick (.t 122) (.t 127) (.c (.bool false)), some (119, false)⟩, ⟨some 129, .pick (.t 119) (.c (.bool true)) (.t 128), none⟩] [129, 7, 5, 4, 3, 0])
 (.cond (.t 129) (.seq (.region [⟨some 2, .mv (.c (.bool false)), none⟩] [2])
 (.ret))
 (.region [] [7, 5, 4, 3, 0])))
 (.seq (.region [⟨some 131, .mv (.t 4), none⟩, ⟨some 132, .mv (.t 5), none⟩, ⟨some 133, .call 13 [.t 131, .t 132], none⟩, ⟨some 130, .mv (.t 133), none⟩, ⟨some 134, .ext (.t 130) 0, none⟩, ⟨some 135, .ext (.t 130) 1, none⟩, ⟨some 8, .mv (.t 134), none⟩, ⟨some 9, .mv (.t 135), none⟩] [9, 7, 3, 0])
 (.seq (.region [⟨some 136, .mv (.t 9), none⟩, ⟨some 137, .call 14 [.t 136], none⟩, ⟨some 138, .bin .eql (.t 137) (.c (.int .i64 11)), none⟩, ⟨some 139, .mv (.t 7), none⟩, ⟨some 140, .bin .lss (.t 139) (.c (.int .i64 0)), none⟩, ⟨some 141, .beq true (.t 138) (.t 140), none⟩] [141, 3, 0])
 (.cond (.t 141) (.seq (.region [⟨some 2, .mv (.c (.bool false)), none⟩] [2])
 (.ret))
 (.region [] [3, 0]))))))))))))
 (.region [⟨some 18, .mv (.t 3), none⟩, ⟨some 19, .bin .add (.t 18) (.c (.int .i64 1)), none⟩, ⟨some 3, .mv (.t 19), none⟩] [3, 0]))))))
 (.seq (.region [⟨some 142, .call 17 [], none⟩, ⟨some 2, .mv (.t 142), none⟩] [2])
 (.ret)))
theorem C_gaugelaw1_NatOrder : Codes Go.Proofs.Try.prog F_gaugelaw1_NatOrder S_gaugelaw1_NatOrder 143 [2] := ⟨Go.Proofs.Try.f4, Go.Proofs.Try.f4.body.getD .skip, Go.Proofs.Try.func4, by kernel_rfl, by kernel_rfl, by kernel_rfl, by kernel_rfl, by kernel_rfl⟩
def F_gaugelaw0_Limbs : FuncId := 8
/-- gauge / gaugelaw0.Limbs -/
def S_gaugelaw0_Limbs : SC :=
 .seq (.region [⟨some 4, .mv (.c (.bool false)), none⟩] [1, 0])
 (.seq (.region [⟨some 5, .mv (.c (.int .i64 0)), none⟩] [5, 1, 0])
 (.seq (.seq (.region [⟨some 6, .mv (.c (.int .i64 0)), none⟩] [6, 5, 1, 0])
 (.block 0 [] (.loop [6, 5, 1, 0] (.seq (.seq (.region [⟨some 7, .mv (.t 6), none⟩, ⟨some 8, .mv (.t 1), none⟩, ⟨some 9, .len (.t 8), none⟩, ⟨some 10, .bin .lss (.t 7) (.t 9), none⟩] [10, 6, 5, 1, 0])
 (.cond (.t 10) (.region [] [6, 5, 1, 0])
 (.exit 0)))
 (.seq (.block 1 [6, 5, 1, 0] (.seq (.region [⟨some 13, .mv (.t 5), none⟩, ⟨some 14, .mv (.t 1), none⟩, ⟨some 15, .mv (.t 6), none⟩, ⟨some 16, .ix 1 (.t 14) (.t 15), none⟩, ⟨some 17, .ld false 1 (.t 16), none⟩, ⟨some 18, .len (.t 17), none⟩, ⟨some 19, .bin .add (.t 13) (.t 18), none⟩, ⟨some 5, .mv (.t 19), none⟩] [6, 5, 1, 0])
 (.seq (.region [⟨some 20, .mv (.t 5), none⟩, ⟨some 21, .mv (.t 0), none⟩, ⟨some 22, .bin .gtr (.t 20) (.t 21), none⟩] [22, 6, 5, 1, 0])
 (.cond (.t 22) (.seq (.region [⟨some 4, .mv (.c (.bool true)), none⟩] [4])
 (.ret))
 (.region [] [6, 5, 1, 0])))))
 (.region [⟨some 11, .mv (.t 6), none⟩, ⟨some 12, .bin .add (.t 11) (.c (.int .i64 1)), none⟩, ⟨some 6, .mv (.t 12), none⟩] [6, 5, 1, 0]))))))
 (.seq (.region [⟨some 4, .mv (.c (.bool false)), none⟩] [4])
 (.ret))))
theorem C_gaugelaw0_Limbs : Codes Go.Proofs.Try.prog F_gaugelaw0_Limbs S_gaugelaw0_Limbs 23 [4] := ⟨Go.Proofs.Try.f8, Go.Proofs.Try.f8.body.getD .skip, Go.Proofs.Try.func8, by kernel_rfl, by kernel_rfl, by kernel_rfl, by kernel_rfl, by kernel_rfl⟩
def F_gaugeref1_Trim : FuncId := 9
/-- gauge / gaugeref1.Trim -/
def S_gaugeref1_Trim : SC :=
 .seq (.region [⟨some 2, .mv (.c (.slice none 0 0)), none⟩] [0])
 (.seq (.region [⟨some 4, .mv (.t 0), none⟩, ⟨some 5, .len (.t 4), none⟩, ⟨some 3, .mv (.t 5), none⟩] [3, 0])
 (.seq (.block 0 [3, 0] (.loop [3, 0] (.seq (.seq (.region [⟨some 6, .mv (.t 3), none⟩, ⟨some 7, .bin .gtr (.t 6) (.c (.int .i64 0)), none⟩, ⟨some 8, .mv (.t 7), none⟩, ⟨some 9, .mv (.t 0), some (8, true)⟩, ⟨some 10, .mv (.t 3), some (8, true)⟩, ⟨some 11, .bin .sub (.t 10) (.c (.int .i64 1)), some (8, true)⟩, ⟨some 12, .ix 1 (.t 9) (.t 11), some (8, true)⟩, ⟨some 13, .ld false 1 (.t 12), some (8, true)⟩, ⟨some 14, .bin .eql (.t 13) (.c (.int .u64 0)), some (8, true)⟩, ⟨some 15, .pick (.t 8) (.t 14) (.c (.bool false)), none⟩] [15, 3, 0])
 (.cond (.t 15) (.region [] [3, 0])
 (.exit 0)))
 (.block 1 [3, 0] (.region [⟨some 16, .mv (.t 3), none⟩, ⟨some 17, .bin .sub (.t 16) (.c (.int .i64 1)), none⟩, ⟨some 3, .mv (.t 17), none⟩] [3, 0])))))
 (.seq (.region [⟨some 18, .mv (.t 0), none⟩, ⟨some 19, .mv (.t 3), none⟩, ⟨some 20, .sl 1 (.t 18) none (some (.t 19)) none, none⟩, ⟨some 2, .mv (.t 20), none⟩] [2])
 (.ret))))
theorem C_gaugeref1_Trim : Codes Go.Proofs.Try.prog F_gaugeref1_Trim S_gaugeref1_Trim 21 [2] := ⟨Go.Proofs.Try.f9, Go.Proofs.Try.f9.body.getD .skip, Go.Proofs.Try.func9, by kernel_rfl, by kernel_rfl, by kernel_rfl, by kernel_rfl, by kernel_rfl⟩
def F_gaugeref0_EqNat : FuncId := 10
/-- gauge / gaugeref0.EqNat -/
def S_gaugeref0_EqNat : SC :=
 .seq (.region [⟨some 4, .mv (.c (.bool false)), none⟩] [1, 0])
 (.seq (.seq (.region [⟨some 6, .mv (.t 0), none⟩, ⟨some 7, .len (.t 6), none⟩, ⟨some 8, .mv (.t 1), none⟩, ⟨some 9, .len (.t 8), none⟩, ⟨some 10, .bin .neq (.t 7) (.t 9), none⟩] [10, 1, 0])
 (.cond (.t 10) (.seq (.region [⟨some 4, .mv (.c (.bool false)), none⟩] [4])
 (.ret))
 (.region [] [1, 0])))
 (.seq (.seq (.region [⟨some 5, .mv (.c (.int .i64 0)), none⟩] [5, 1, 0])
 (.block 0 [] (.loop [5, 1, 0] (.seq (.seq (.region [⟨some 11, .mv (.t 5), none⟩, ⟨some 12, .mv (.t 0), none⟩, ⟨some 13, .len (.t 12), none⟩, ⟨some 14, .bin .lss (.t 11) (.t 13), none⟩] [14, 5, 1, 0])
 (.cond (.t 14) (.region [] [5, 1, 0])
 (.exit 0)))
 (.seq (.block 1 [5, 1, 0] (.seq (.drawn [0, 1, 2, 3, 4, 5, 6, 7, 8] [⟨some 17, .mv (.t 0), none⟩, ⟨some 18, .mv (.t 5), none⟩, ⟨some 19, .ix 1 (.t 17) (.t 18), none⟩, ⟨some 20, .ld false 1 (.t 19), none⟩, ⟨some 21, .mv (.t 1), none⟩, ⟨some 22, .mv (.t 5), none⟩, ⟨some 23, .ix 1 (.t 21) (.t 22), none⟩, ⟨some 24, .ld false 1 (.t 23), none⟩, ⟨some 25, .bin .neq (.t 20) (.t 24), none⟩] [25, 5, 1, 0])
 (.cond (.t 25) (.seq (.region [⟨some 4, .mv (.c (.bool false)), none⟩] [4])
 (.ret))
 (.region [] [5, 1, 0]))))
 (.region [⟨some 15, .mv (.t 5), none⟩, ⟨some 16, .bin .add (.t 15) (.c (.int .i64 1)), none⟩, ⟨some 5, .mv (.t 16), none⟩] [5, 1, 0]))))))
 (.seq (.region [⟨some 4, .mv (.c (.bool true)), none⟩] [4])
 (.ret))))
theorem C_gaugeref0_EqNat : Codes Go.Proofs.Try.prog F_gaugeref0_EqNat S_gaugeref0_EqNat 26 [4] := ⟨Go.Proofs.Try.f10, Go.Proofs.Try.f10.body.getD .skip, Go.Proofs.Try.func10, by kernel_rfl, by kernel_rfl, by kernel_rfl, by kernel_rfl, by kernel_rfl⟩
def F_gaugelaw1_add : FuncId := 11
/-- gauge / gaugelaw1.add -/
def S_gaugelaw1_add : SC :=
 .seq (.region [⟨some 4, .mv (.c (.slice none 0 0)), none⟩] [1, 0])
 (.seq (.region [⟨some 8, .mv (.t 0), none⟩, ⟨some 9, .mv (.t 1), none⟩, ⟨some 10, .call 27 [.t 8, .t 9], none⟩, ⟨some 7, .mv (.t 10), none⟩, ⟨some 11, .ext (.t 7) 0, none⟩, ⟨some 12, .ext (.t 7) 1, none⟩, ⟨some 5, .mv (.t 11), none⟩, ⟨some 6, .mv (.t 12), none⟩] [5])
 (.seq (.region [⟨some 13, .mv (.t 5), none⟩, ⟨some 4, .mv (.t 13), none⟩] [4])
 (.ret)))
theorem C_gaugelaw1_add : Codes Go.Proofs.Try.prog F_gaugelaw1_add S_gaugelaw1_add 14 [4] := ⟨Go.Proofs.Try.f11, Go.Proofs.Try.f11.body.getD .skip, Go.Proofs.Try.func11, by kernel_rfl, by kernel_rfl, by kernel_rfl, by kernel_rfl, by kernel_rfl⟩
def F_gaugelaw1_mul : FuncId := 12
/-- gauge / gaugelaw1.mul -/
def S_gaugelaw1_mul : SC :=
 .seq (.region [⟨some 4, .mv (.c (.slice none 0 0)), none⟩] [1, 0])
 (.seq (.region [⟨some 8, .mv (.t 0), none⟩, ⟨some 9, .mv (.t 1), none⟩, ⟨some 10, .call 28 [.t 8, .t 9], none⟩, ⟨some 7, .mv (.t 10), none⟩, ⟨some 11, .ext (.t 7) 0, none⟩, ⟨some 12, .ext (.t 7) 1, none⟩, ⟨some 5, .mv (.t 11), none⟩, ⟨some 6, .mv (.t 12), none⟩] [5])
 (.seq (.region [⟨some 13, .mv (.t 5), none⟩, ⟨some 4, .mv (.t 13), none⟩] [4])
 (.ret)))
theorem C_gaugelaw1_mul : Codes Go.Proofs.Try.prog F_gaugelaw1_mul S_gaugelaw1_mul 14 [4] := ⟨Go.Proofs.Try.f12, Go.Proofs.Try.f12.body.getD .skip, Go.Proofs.Try.func12, by kernel_rfl, by kernel_rfl, by kernel_rfl, by kernel_rfl, by kernel_rfl⟩
def F_nat_Sub : FuncId := 13
/-- gauge / nat.Sub -/
def S_nat_Sub : SC :=
 .seq (.region [⟨some 4, .mv (.c (.slice none 0 0)), none⟩, ⟨some 5, .mv (.c (.int .i64 0)), none⟩] [1, 0])
 (.seq (.block 0 [1, 0] (.seq (.region [⟨some 7, .mv (.t 0), none⟩, ⟨some 8, .call 29 [.t 7], none⟩, ⟨some 9, .un .not (.t 8), none⟩, ⟨some 10, .mv (.t 9), none⟩, ⟨some 11, .mv (.t 1), some (10, false)⟩, ⟨some 12, .call 29 [.t 11], some (10, false)⟩, ⟨some 13, .un .not (.t 12), some (10, false)⟩, ⟨some 14, .pick (.t 10) (.c (.bool true)) (.t 13), none⟩, ⟨some 6, .mv (.t 14), none⟩] [6, 1, 0])
 (.cond (.t 6) (.seq (.region [⟨some 4, .mv (.c (.slice none 0 0)), none⟩, ⟨some 5, .mv (.c (.int .i64 10)), none⟩] [5, 4])
 (.ret))
 (.seq (.region [⟨some 16, .mv (.t 0), none⟩, ⟨some 17, .mv (.t 1), none⟩, ⟨some 18, .call 30 [.t 16, .t 17], none⟩, ⟨some 19, .bin .lss (.t 18) (.c (.int .i64 0)), none⟩, ⟨some 15, .mv (.t 19), none⟩] [15, 1, 0])
 (.cond (.t 15) (.seq (.region [⟨some 4, .mv (.c (.slice none 0 0)), none⟩, ⟨some 5, .mv (.c (.int .i64 11)), none⟩] [5, 4])
 (.ret))
 (.region [] [1, 0]))))))
 (.seq (.region [⟨some 20, .mv (.t 0), none⟩, ⟨some 21, .mv (.t 1), none⟩, ⟨some 22, .call 31 [.t 20, .t 21], none⟩, ⟨some 4, .mv (.t 22), none⟩, ⟨some 5, .mv (.c (.int .i64 0)), none⟩] [5, 4])
 (.ret)))
theorem C_nat_Sub : Codes Go.Proofs.Try.prog F_nat_Sub S_nat_Sub 23 [4, 5] := ⟨Go.Proofs.Try.f13, Go.Proofs.Try.f13.body.getD .skip, Go.Proofs.Try.func13, by kernel_rfl, by kernel_rfl, by kernel_rfl, by kernel_rfl, by kernel_rfl⟩
def F_gaugelaw1_num : FuncId := 14
/-- gauge / gaugelaw1.num -/
def S_gaugelaw1_num : SC :=
 .seq (.region [⟨some 2, .mv (.c (.int .i64 0)), none⟩] [0])
 (.seq (.region [⟨some 3, .mv (.t 0), none⟩, ⟨some 2, .mv (.t 3), none⟩] [2])
 (.ret))
theorem C_gaugelaw1_num : Codes Go.Proofs.Try.prog F_gaugelaw1_num S_gaugelaw1_num 4 [2] := ⟨Go.Proofs.Try.f14, Go.Proofs.Try.f14.body.getD .skip, Go.Proofs.Try.func14, by kernel_rfl, by kernel_rfl, by kernel_rfl, by kernel_rfl, by kernel_rfl⟩
def F_nat_Cmp : FuncId := 15
/-- gauge / nat.Cmp -/
def S_nat_Cmp : SC :=
 .seq (.region [⟨some 4, .mv (.c (.int .i64 0)), none⟩] [1, 0])
 (.seq (.seq (.region [⟨some 5, .mv (.t 0), none⟩, ⟨some 6, .call 29 [.t 5], none⟩, ⟨some 7, .un .not (.t 6), none⟩, ⟨some 8, .mv (.t 7), none⟩, ⟨some 9, .mv (.t 1), some (8, false)⟩, ⟨some 10, .call 29 [.t 9], some (8, false)⟩, ⟨some 11, .un .not (.t 10), some (8, false)⟩, ⟨some 12, .pick (.t 8) (.c (.bool true)) (.t 11), none⟩] [12, 1, 0])
 (.cond (.t 12) (.seq (.region [⟨some 4, .mv (.c (.int .i64 0)), none⟩] [4])
 (.ret))
 (.region [] [1, 0])))
 (.seq (.region [⟨some 13, .mv (.t 0), none⟩, ⟨some 14, .mv (.t 1), none⟩, ⟨some 15, .call 30 [.t 13, .t 14], none⟩, ⟨some 4, .mv (.t 15), none⟩] [4])
 (.ret)))
theorem C_nat_Cmp : Codes Go.Proofs.Try.prog F_nat_Cmp S_nat_Cmp 16 [4] := ⟨Go.Proofs.Try.f15, Go.Proofs.Try.f15.body.getD .skip, Go.Proofs.Try.func15, by kernel_rfl, by kernel_rfl, by kernel_rfl, by kernel_rfl, by kernel_rfl⟩
def F_nat_From : FuncId := 16
/-- gauge / nat.From -/
def S_nat_From : SC :=
 .seq (.region [⟨some 2, .mv (.c (.slice none 0 0)), none⟩] [0])
 (.seq (.seq (.region [⟨some 3, .mv (.t 0), none⟩, ⟨some 4, .bin .eql (.t 3) (.c (.int .u64 0)), none⟩] [4, 0])
 (.cond (.t 4) (.seq (.region [⟨some 2, .mv (.c (.slice none 0 0)), none⟩] [2])
 (.ret))
 (.region [] [0])))
 (.seq (.region [⟨some 5, .mv (.t 0), none⟩, ⟨some 6, .bsl false 1 1 [.int .u64 0] [(0, .t 5)], none⟩, ⟨some 2, .mv (.t 6), none⟩] [2])
 (.ret)))
theorem C_nat_From : Codes Go.Proofs.Try.prog F_nat_From S_nat_From 7 [2] := ⟨Go.Proofs.Try.f16, Go.Proofs.Try.f16.body.getD .skip, Go.Proofs.Try.func16, by kernel_rfl, by kernel_rfl, by kernel_rfl, by kernel_rfl, by kernel_rfl⟩
def F_gaugelaw1_wakes : FuncId := 17
/-- gauge / gaugelaw1.wakes -/
def S_gaugelaw1_wakes : SC :=
 .seq (.region [⟨some 0, .mv (.c (.bool false)), none⟩] [])
 (.seq (.region [⟨some 4, .bsl false 1 1 [.int .u64 0] [(0, .c (.int .u64 1))], none⟩, ⟨some 5, .bsl false 1 1 [.int .u64 0] [(0, .c (.int .u64 18446744073709551615))], none⟩, ⟨some 6, .call 27 [.t 4, .t 5], none⟩, ⟨some 3, .mv (.t 6), none⟩, ⟨some 7, .ext (.t 3) 0, none⟩, ⟨some 8, .ext (.t 3) 1, none⟩, ⟨some 1, .mv (.t 7), none⟩, ⟨some 2, .mv (.t 8), none⟩] [2, 1])
 (.seq (.region [⟨some 9, .mv (.t 2), none⟩, ⟨some 10, .call 14 [.t 9], none⟩, ⟨some 11, .bin .eql (.t 10) (.c (.int .i64 0)), none⟩, ⟨some 12, .mv (.t 11), none⟩, ⟨some 13, .mv (.t 1), some (12, true)⟩, ⟨some 14, .bsl false 1 2 [.int .u64 0] [(0, .c (.int .u64 0)), (1, .c (.int .u64 1))], some (12, true)⟩, ⟨some 15, .call 10 [.t 13, .t 14], some (12, true)⟩, ⟨some 16, .pick (.t 12) (.t 15) (.c (.bool false)), none⟩, ⟨some 0, .mv (.t 16), none⟩] [0])
 (.ret)))
theorem C_gaugelaw1_wakes : Codes Go.Proofs.Try.prog F_gaugelaw1_wakes S_gaugelaw1_wakes 17 [0] := ⟨Go.Proofs.Try.f17, Go.Proofs.Try.f17.body.getD .skip, Go.Proofs.Try.func17, by kernel_rfl, by kernel_rfl, by kernel_rfl, by kernel_rfl, by kernel_rfl⟩
def F_nat_Len : FuncId := 18
/-- gauge / nat.Len -/
def S_nat_Len : SC :=
 .seq (.region [⟨some 2, .mv (.c (.int .i64 0)), none⟩] [0])
 (.seq (.seq (.region [⟨some 3, .mv (.t 0), none⟩, ⟨some 4, .len (.t 3), none⟩, ⟨some 5, .bin .eql (.t 4) (.c (.int .i64 0)), none⟩, ⟨some 6, .mv (.t 5), none⟩, ⟨some 7, .mv (.t 0), some (6, false)⟩, ⟨some 8, .call 29 [.t 7], some (6, false)⟩, ⟨some 9, .un .not (.t 8), some (6, false)⟩, ⟨some 10, .pick (.t 6) (.c (.bool true)) (.t 9), none⟩] [10, 0])
 (.cond (.t 10) (.seq (.region [⟨some 2, .mv (.c (.int .i64 0)), none⟩] [2])
 (.ret))
 (.region [] [0])))
 (.seq (.region [⟨some 11, .mv (.t 0), none⟩, ⟨some 12, .len (.t 11), none⟩, ⟨some 13, .bin .sub (.t 12) (.c (.int .i64 1)), none⟩, ⟨some 14, .bin .mul (.c (.int .i64 64)) (.t 13), none⟩, ⟨some 15, .mv (.t 0), none⟩, ⟨some 16, .mv (.t 0), none⟩, ⟨some 17, .len (.t 16), none⟩, ⟨some 18, .bin .sub (.t 17) (.c (.int .i64 1)), none⟩, ⟨some 19, .ix 1 (.t 15) (.t 18), none⟩, ⟨some 20, .ld false 1 (.t 19), none⟩, ⟨some 21, .call 32 [.t 20], none⟩, ⟨some 22, .bin .add (.t 14) (.t 21), none⟩, ⟨some 2, .mv (.t 22), none⟩] [2])
 (.ret)))
theorem C_nat_Len : Codes Go.Proofs.Try.prog F_nat_Len S_nat_Len 23 [2] := ⟨Go.Proofs.Try.f18, Go.Proofs.Try.f18.body.getD .skip, Go.Proofs.Try.func18, by kernel_rfl, by kernel_rfl, by kernel_rfl, by kernel_rfl, by kernel_rfl⟩
def F_nat_Add : FuncId := 27
/-- gauge / nat.Add -/
def S_nat_Add : SC :=
 .seq (.region [⟨some 4, .mv (.c (.slice none 0 0)), none⟩, ⟨some 5, .mv (.c (.int .i64 0)), none⟩] [1, 0])
 (.seq (.seq (.region [⟨some 6, .mv (.t 0), none⟩, ⟨some 7, .call 29 [.t 6], none⟩, ⟨some 8, .un .not (.t 7), none⟩, ⟨some 9, .mv (.t 8), none⟩, ⟨some 10, .mv (.t 1), some (9, false)⟩, ⟨some 11, .call 29 [.t 10], some (9, false)⟩, ⟨some 12, .un .not (.t 11), some (9, false)⟩, ⟨some 13, .pick (.t 9) (.c (.bool true)) (.t 12), none⟩] [13, 1, 0])
 (.cond (.t 13) (.seq (.region [⟨some 4, .mv (.c (.slice none 0 0)), none⟩, ⟨some 5, .mv (.c (.int .i64 10)), none⟩] [5, 4])
 (.ret))
 (.region [] [1, 0])))
 (.seq (.region [⟨some 14, .mv (.t 0), none⟩, ⟨some 15, .mv (.t 1), none⟩, ⟨some 16, .call 53 [.t 14, .t 15], none⟩, ⟨some 4, .mv (.t 16), none⟩, ⟨some 5, .mv (.c (.int .i64 0)), none⟩] [5, 4])
 (.ret)))
theorem C_nat_Add : Codes Go.Proofs.Try.prog F_nat_Add S_nat_Add 17 [4, 5] := ⟨Go.Proofs.Try.f27, Go.Proofs.Try.f27.body.getD .skip, Go.Proofs.Try.func27, by kernel_rfl, by kernel_rfl, by kernel_rfl, by kernel_rfl, by kernel_rfl⟩
def F_nat_Mul : FuncId := 28
/-- gauge / nat.Mul -/
def S_nat_Mul : SC :=
 .seq (.region [⟨some 4, .mv (.c (.slice none 0 0)), none⟩, ⟨some 5, .mv (.c (.int .i64 0)), none⟩] [1, 0])
 (.seq (.seq (.region [⟨some 6, .mv (.t 0), none⟩, ⟨some 7, .call 29 [.t 6], none⟩, ⟨some 8, .un .not (.t 7), none⟩, ⟨some 9, .mv (.t 8), none⟩, ⟨some 10, .mv (.t 1), some (9, false)⟩, ⟨some 11, .call 29 [.t 10], some (9, false)⟩, ⟨some 12, .un .not (.t 11), some (9, false)⟩, ⟨some 13, .pick (.t 9) (.c (.bool true)) (.t 12), none⟩] [13, 1, 0])
 (.cond (.t 13) (.seq (.region [⟨some 4, .mv (.c (.slice none 0 0)), none⟩, ⟨some 5, .mv (.c (.int .i64 10)), none⟩] [5, 4])
 (.ret))
 (.region [] [1, 0])))
 (.seq (.region [⟨some 14, .mv (.t 0), none⟩, ⟨some 15, .mv (.t 1), none⟩, ⟨some 16, .call 54 [.t 14, .t 15], none⟩, ⟨some 4, .mv (.t 16), none⟩, ⟨some 5, .mv (.c (.int .i64 0)), none⟩] [5, 4])
 (.ret)))
theorem C_nat_Mul : Codes Go.Proofs.Try.prog F_nat_Mul S_nat_Mul 17 [4, 5] := ⟨Go.Proofs.Try.f28, Go.Proofs.Try.f28.body.getD .skip, Go.Proofs.Try.func28, by kernel_rfl, by kernel_rfl, by kernel_rfl, by kernel_rfl, by kernel_rfl⟩
def F_nat_good : FuncId := 29
/-- gauge / nat.good -/
def S_nat_good : SC :=
 .seq (.region [⟨some 2, .mv (.c (.bool false)), none⟩] [0])
 (.seq (.region [⟨some 3, .mv (.t 0), none⟩, ⟨some 4, .len (.t 3), none⟩, ⟨some 5, .bin .eql (.t 4) (.c (.int .i64 0)), none⟩, ⟨some 6, .mv (.t 5), none⟩, ⟨some 7, .mv (.t 0), some (6, false)⟩, ⟨some 8, .mv (.t 0), some (6, false)⟩, ⟨some 9, .len (.t 8), some (6, false)⟩, ⟨some 10, .bin .sub (.t 9) (.c (.int .i64 1)), some (6, false)⟩, ⟨some 11, .ix 1 (.t 7) (.t 10), some (6, false)⟩, ⟨some 12, .ld false 1 (.t 11), some (6, false)⟩, ⟨some 13, .bin .neq (.t 12) (.c (.int .u64 0)), some (6, false)⟩, ⟨some 14, .pick (.t 6) (.c (.bool true)) (.t 13), none⟩, ⟨some 2, .mv (.t 14), none⟩] [2])
 (.ret))
theorem C_nat_good : Codes Go.Proofs.Try.prog F_nat_good S_nat_good 15 [2] := ⟨Go.Proofs.Try.f29, Go.Proofs.Try.f29.body.getD .skip, Go.Proofs.Try.func29, by kernel_rfl, by kernel_rfl, by kernel_rfl, by kernel_rfl, by kernel_rfl⟩
def F_nat_cmp : FuncId := 30
/-- gauge / nat.cmp -/
def S_nat_cmp : SC :=
 .seq (.region [⟨some 4, .mv (.c (.int .i64 0)), none⟩] [1, 0])
 (.seq (.seq (.region [⟨some 6, .mv (.t 0), none⟩, ⟨some 7, .len (.t 6), none⟩, ⟨some 8, .mv (.t 1), none⟩, ⟨some 9, .len (.t 8), none⟩, ⟨some 10, .bin .neq (.t 7) (.t 9), none⟩] [10, 1, 0])
 (.cond (.t 10) (.seq (.seq (.region [⟨some 11, .mv (.t 0), none⟩, ⟨some 12, .len (.t 11), none⟩, ⟨some 13, .mv (.t 1), none⟩, ⟨some 14, .len (.t 13), none⟩, ⟨some 15, .bin .lss (.t 12) (.t 14), none⟩] [15])
 (.cond (.t 15) (.seq (.region [⟨some 4, .mv (.c (.int .i64 (-1))), none⟩] [4])
 (.ret))
 (.region [] [])))
 (.seq (.region [⟨some 4, .mv (.c (.int .i64 1)), none⟩] [4])
 (.ret)))
 (.region [] [1, 0])))
 (.seq (.seq (.region [⟨some 16, .mv (.t 0), none⟩, ⟨some 17, .len (.t 16), none⟩, ⟨some 18, .bin .sub (.t 17) (.c (.int .i64 1)), none⟩, ⟨some 5, .mv (.t 18), none⟩] [5, 1, 0])
 (.block 0 [] (.loop [5, 1, 0] (.seq (.seq (.region [⟨some 19, .mv (.t 5), none⟩, ⟨some 20, .bin .geq (.t 19) (.c (.int .i64 0)), none⟩] [20, 5, 1, 0])
 (.cond (.t 20) (.region [] [5, 1, 0])
 (.exit 0)))
 (.seq (.block 1 [5, 1, 0] (.block 2 [5, 1, 0] (.seq (.drawn [0, 1, 2, 3, 4, 5, 6, 7, 8, 9] [⟨some 24, .mv (.t 0), none⟩, ⟨some 25, .mv (.t 5), none⟩, ⟨some 26, .ix 1 (.t 24) (.t 25), none⟩, ⟨some 27, .ld false 1 (.t 26), none⟩, ⟨some 28, .mv (.t 1), none⟩, ⟨some 29, .mv (.t 5), none⟩, ⟨some 30, .ix 1 (.t 28) (.t 29), none⟩, ⟨some 31, .ld false 1 (.t 30), none⟩, ⟨some 32, .bin .lss (.t 27) (.t 31), none⟩, ⟨some 23, .mv (.t 32), none⟩] [23, 5, 1, 0])
 (.cond (.t 23) (.seq (.region [⟨some 4, .mv (.c (.int .i64 (-1))), none⟩] [4])
 (.ret))
 (.seq (.drawn [0, 1, 2, 3, 4, 5, 6, 7, 8, 9] [⟨some 34, .mv (.t 0), none⟩, ⟨some 35, .mv (.t 5), none⟩, ⟨some 36, .ix 1 (.t 34) (.t 35), none⟩, ⟨some 37, .ld false 1 (.t 36), none⟩, ⟨some 38, .mv (.t 1), none⟩, ⟨some 39, .mv (.t 5), none⟩, ⟨some 40, .ix 1 (.t 38) (.t 39), none⟩, ⟨some 41, .ld false 1 (.t 40), none⟩, ⟨some 42, .bin .gtr (.t 37) (.t 41), none⟩, ⟨some 33, .mv (.t 42), none⟩] [33, 5, 1, 0])
 (.cond (.t 33) (.seq (.region [⟨some 4, .mv (.c (.int .i64 1)), none⟩] [4])
 (.ret))
 (.region [] [5, 1, 0])))))))
 (.region [⟨some 21, .mv (.t 5), none⟩, ⟨some 22, .bin .sub (.t 21) (.c (.int .i64 1)), none⟩, ⟨some 5, .mv (.t 22), none⟩] [5, 1, 0]))))))
 (.seq (.region [⟨some 4, .mv (.c (.int .i64 0)), none⟩] [4])
 (.ret))))
theorem C_nat_cmp : Codes Go.Proofs.Try.prog F_nat_cmp S_nat_cmp 43 [4] := ⟨Go.Proofs.Try.f30, Go.Proofs.Try.f30.body.getD .skip, Go.Proofs.Try.func30, by kernel_rfl, by kernel_rfl, by kernel_rfl, by kernel_rfl, by kernel_rfl⟩
def F_nat_sub : FuncId := 31
def S_nat_sub_j2 : SC :=
 .region [⟨some 41, .mv (.t 5), none⟩, ⟨some 42, .mv (.t 7), none⟩, ⟨some 43, .ix 1 (.t 41) (.t 42), none⟩, ⟨some 44, .ld false 1 (.t 43), none⟩, ⟨some 45, .mv (.t 8), none⟩, ⟨some 46, .bin .sub (.t 44) (.t 45), none⟩, ⟨some 47, .ix 1 (.t 41) (.t 42), none⟩, ⟨none, .st 1 (.t 47) (.t 46), none⟩] [13, 12, 6, 5, 1]
def S_nat_sub_j1 : SC :=
 .seq (.seq (.region [⟨some 33, .mv (.t 5), none⟩, ⟨some 34, .mv (.t 7), none⟩, ⟨some 35, .ix 1 (.t 33) (.t 34), none⟩, ⟨some 36, .ld false 1 (.t 35), none⟩, ⟨some 37, .mv (.t 8), none⟩, ⟨some 38, .bin .lss (.t 36) (.t 37), none⟩] [38, 13, 12, 8, 7, 6, 5, 1])
 (.cond (.t 38) (.region [⟨some 39, .mv (.t 6), none⟩, ⟨some 40, .bin .add (.t 39) (.c (.int .u64 1)), none⟩, ⟨some 6, .mv (.t 40), none⟩] [13, 12, 8, 7, 6, 5, 1])
 (.region [] [13, 12, 8, 7, 6, 5, 1])))
 (.seq .says S_nat_sub_j2)
/-- gauge / nat.sub -/
def S_nat_sub : SC :=
 .seq (.region [⟨some 4, .mv (.c (.slice none 0 0)), none⟩] [1, 0])
 (.seq (.region [⟨some 9, .mv (.t 0), none⟩, ⟨some 10, .call 33 [.t 9], none⟩, ⟨some 5, .mv (.t 10), none⟩] [5, 1])
 (.seq (.region [⟨some 6, .mv (.c (.int .u64 0)), none⟩] [6, 5, 1])
 (.seq (.seq (.region [⟨some 11, .mv (.t 5), none⟩, ⟨some 12, .len (.t 11), none⟩, ⟨some 13, .mv (.c (.int .i64 0)), none⟩] [13, 12, 6, 5, 1])
 (.block 0 [5] (.loop [13, 12, 6, 5, 1] (.seq (.region [⟨some 14, .bin .lss (.t 13) (.t 12), none⟩] [14, 13, 12, 6, 5, 1])
 (.seq (.cond (.t 14) (.region [] [13, 12, 6, 5, 1])
 (.exit 0))
 (.seq (.block 1 [13, 12, 6, 5, 1] (.seq (.region [⟨some 15, .mv (.t 13), none⟩, ⟨some 7, .mv (.t 15), none⟩] [13, 12, 7, 6, 5, 1])
 (.seq (.region [⟨some 16, .mv (.t 6), none⟩, ⟨some 8, .mv (.t 16), none⟩] [13, 12, 8, 7, 5, 1])
 (.seq (.seq (.region [⟨some 17, .mv (.t 7), none⟩, ⟨some 18, .mv (.t 1), none⟩, ⟨some 19, .len (.t 18), none⟩, ⟨some 20, .bin .lss (.t 17) (.t 19), none⟩] [20, 13, 12, 8, 7, 5, 1])
 (.cond (.t 20) (.seq (.region [⟨some 21, .mv (.t 8), none⟩, ⟨some 22, .mv (.t 1), none⟩, ⟨some 23, .mv (.t 7), none⟩, ⟨some 24, .ix 1 (.t 22) (.t 23), none⟩, ⟨some 25, .ld false 1 (.t 24), none⟩, ⟨some 26, .bin .add (.t 21) (.t 25), none⟩, ⟨some 8, .mv (.t 26), none⟩] [13, 12, 8, 7, 5, 1])
 (.seq (.region [⟨some 6, .mv (.c (.int .u64 0)), none⟩] [13, 12, 8, 7, 6, 5, 1])
 (.seq (.region [⟨some 27, .mv (.t 8), none⟩, ⟨some 28, .mv (.t 1), none⟩, ⟨some 29, .mv (.t 7), none⟩, ⟨some 30, .ix 1 (.t 28) (.t 29), none⟩, ⟨some 31, .ld false 1 (.t 30), none⟩, ⟨some 32, .bin .lss (.t 27) (.t 31), none⟩] [32, 13, 12, 8, 7, 6, 5, 1])
 (.cond (.t 32) (.region [⟨some 6, .mv (.c (.int .u64 1)), none⟩] [13, 12, 8, 7, 6, 5, 1])
 (.region [] [13, 12, 8, 7, 6, 5, 1])))))
 (.region [⟨some 6, .mv (.c (.int .u64 0)), none⟩] [13, 12, 8, 7, 6, 5, 1])))
 (.seq .says S_nat_sub_j1)))))
 (.region [⟨some 48, .bin .add (.t 13) (.c (.int .i64 1)), none⟩, ⟨some 13, .mv (.t 48), none⟩] [13, 12, 6, 5, 1])))))))
 (.seq (.region [⟨some 49, .mv (.t 5), none⟩, ⟨some 50, .call 55 [.t 49], none⟩, ⟨some 4, .mv (.t 50), none⟩] [4])
 (.ret)))))
theorem C_nat_sub : Codes Go.Proofs.Try.prog F_nat_sub S_nat_sub 51 [4] := ⟨Go.Proofs.Try.f31, Go.Proofs.Try.f31.body.getD .skip, Go.Proofs.Try.func31, by kernel_rfl, by kernel_rfl, by kernel_rfl, by kernel_rfl, by kernel_rfl⟩
def F_math_bits_Len64 : FuncId := 32
def S_math_bits_Len64_j3 : SC :=
 .seq (.region [⟨some 19, .mv (.t 2), none⟩, ⟨some 20, .mv (.t 0), none⟩, ⟨some 21, .conv .u8 (.t 20), none⟩, ⟨some 22, .idxs (.c (.string ⟨#[0, 1, 2, 2, 3, 3, 3, 3, 4, 4, 4, 4, 4, 4, 4, 4, 5, 5, 5, 5, 5, 5, 5, 5, 5, 5, 5, 5, 5, 5, 5, 5, 6, 6, 6, 6, 6, 6, 6, 6, 6, 6, 6, 6, 6, 6, 6, 6, 6, 6, 6, 6, 6, 6, 6, 6, 6, 6, 6, 6, 6, 6, 6, 6, 7, 7, 7, 7, 7, 7, 7, 7, 7, 7, 7, 7, 7, 7, 7, 7, 7, 7, 7, 7, 7, 7, 7, 7, 7, 7, 7, 7, 7, 7, 7, 7, 7, 7, 7, 7, 7, 7, 7, 7, 7, 7, 7, 7, 7, 7, 7, 7, 7, 7, 7, 7, 7, 7, 7, 7, 7, 7, 7, 7, 7, 7, 7, 7, 8, 8, 8, 8, 8, 8, 8, 8, 8, 8, 8, 8, 8, 8, 8, 8, 8, 8, 8, 8, 8, 8, 8, 8, 8, 8, 8, 8, 8, 8, 8, 8, 8, 8, 8, 8, 8, 8, 8, 8, 8, 8, 8, 8, 8, 8, 8, 8, 8, 8, 8, 8, 8, 8, 8, 8, 8, 8, 8, 8, 8, 8, 8, 8, 8, 8, 8, 8, 8, 8, 8, 8, 8, 8, 8, 8, 8, 8, 8, 8, 8, 8, 8, 8, 8, 8, 8, 8, 8, 8, 8, 8, 8, 8, 8, 8, 8, 8, 8, 8, 8, 8, 8, 8, 8, 8, 8, 8, 8, 8, 8, 8, 8, 8, 8, 8, 8, 8, 8, 8, 8, 8, 8, 8, 8, 8, 8, 8]⟩)) (.t 21), none⟩, ⟨some 23, .conv .i64 (.t 22), none⟩, ⟨some 24, .bin .add (.t 19) (.t 23), none⟩, ⟨some 2, .mv (.t 24), none⟩] [2])
 (.ret)
def S_math_bits_Len64_j2 : SC :=
 .seq (.seq (.region [⟨some 13, .mv (.t 0), none⟩, ⟨some 14, .bin .geq (.t 13) (.c (.int .u64 256)), none⟩] [14, 2, 0])
 (.cond (.t 14) (.seq (.region [⟨some 15, .mv (.t 0), none⟩, ⟨some 16, .bin .shr (.t 15) (.c (.int .u64 8)), none⟩, ⟨some 0, .mv (.t 16), none⟩] [2, 0])
 (.region [⟨some 17, .mv (.t 2), none⟩, ⟨some 18, .bin .add (.t 17) (.c (.int .i64 8)), none⟩, ⟨some 2, .mv (.t 18), none⟩] [2, 0]))
 (.region [] [2, 0])))
 (.seq .says S_math_bits_Len64_j3)
def S_math_bits_Len64_j1 : SC :=
 .seq (.seq (.region [⟨some 7, .mv (.t 0), none⟩, ⟨some 8, .bin .geq (.t 7) (.c (.int .u64 65536)), none⟩] [8, 2, 0])
 (.cond (.t 8) (.seq (.region [⟨some 9, .mv (.t 0), none⟩, ⟨some 10, .bin .shr (.t 9) (.c (.int .u64 16)), none⟩, ⟨some 0, .mv (.t 10), none⟩] [2, 0])
 (.region [⟨some 11, .mv (.t 2), none⟩, ⟨some 12, .bin .add (.t 11) (.c (.int .i64 16)), none⟩, ⟨some 2, .mv (.t 12), none⟩] [2, 0]))
 (.region [] [2, 0])))
 (.seq .says S_math_bits_Len64_j2)
/-- math / bits.Len64 -/
def S_math_bits_Len64 : SC :=
 .seq (.region [⟨some 2, .mv (.c (.int .i64 0)), none⟩] [2, 0])
 (.seq (.seq (.region [⟨some 3, .mv (.t 0), none⟩, ⟨some 4, .bin .geq (.t 3) (.c (.int .u64 4294967296)), none⟩] [4, 2, 0])
 (.cond (.t 4) (.seq (.region [⟨some 5, .mv (.t 0), none⟩, ⟨some 6, .bin .shr (.t 5) (.c (.int .u64 32)), none⟩, ⟨some 0, .mv (.t 6), none⟩] [0])
 (.region [⟨some 2, .mv (.c (.int .i64 32)), none⟩] [2, 0]))
 (.region [] [2, 0])))
 (.seq .says S_math_bits_Len64_j1))
theorem C_math_bits_Len64 : Codes Go.Proofs.Try.prog F_math_bits_Len64 S_math_bits_Len64 25 [2] := ⟨Go.Proofs.Try.f32, Go.Proofs.Try.f32.body.getD .skip, Go.Proofs.Try.func32, by kernel_rfl, by kernel_rfl, by kernel_rfl, by kernel_rfl, by kernel_rfl⟩
def F_slices_Clone : FuncId := 33
/-- slices.Clone[gauge / api.Nat,uint64] -/
def S_slices_Clone : SC :=
 .seq (.region [⟨some 2, .mv (.c (.slice none 0 0)), none⟩] [0])
 (.seq (.seq (.region [⟨some 3, .mv (.t 0), none⟩, ⟨some 4, .isnil false (.t 3), none⟩] [4, 0])
 (.cond (.t 4) (.seq (.region [⟨some 2, .mv (.c (.slice none 0 0)), none⟩] [2])
 (.ret))
 (.region [] [0])))
 (.seq (.region [⟨some 5, .bsl false 1 0 [.int .u64 0] [], none⟩, ⟨some 6, .mv (.t 0), none⟩, ⟨some 7, .app false 1 8 (.t 5) (.t 6), none⟩, ⟨some 2, .mv (.t 7), none⟩] [2])
 (.ret)))
theorem C_slices_Clone : Codes Go.Proofs.Try.prog F_slices_Clone S_slices_Clone 8 [2] := ⟨Go.Proofs.Try.f33, Go.Proofs.Try.f33.body.getD .skip, Go.Proofs.Try.func33, by kernel_rfl, by kernel_rfl, by kernel_rfl, by kernel_rfl, by kernel_rfl⟩
def F_nat_Small : FuncId := 46
/-- gauge / nat.Small -/
def S_nat_Small : SC :=
 .seq (.region [⟨some 2, .mv (.c (.int .u64 0)), none⟩, ⟨some 3, .mv (.c (.bool false)), none⟩] [0])
 (.seq (.block 0 [0] (.seq (.region [⟨some 5, .mv (.t 0), none⟩, ⟨some 6, .call 29 [.t 5], none⟩, ⟨some 7, .un .not (.t 6), none⟩, ⟨some 8, .mv (.t 7), none⟩, ⟨some 9, .mv (.t 0), some (8, false)⟩, ⟨some 10, .len (.t 9), some (8, false)⟩, ⟨some 11, .bin .gtr (.t 10) (.c (.int .i64 1)), some (8, false)⟩, ⟨some 12, .pick (.t 8) (.c (.bool true)) (.t 11), none⟩, ⟨some 4, .mv (.t 12), none⟩] [4, 0])
 (.cond (.t 4) (.seq (.region [⟨some 2, .mv (.c (.int .u64 0)), none⟩, ⟨some 3, .mv (.c (.bool false)), none⟩] [3, 2])
 (.ret))
 (.seq (.region [⟨some 14, .mv (.t 0), none⟩, ⟨some 15, .len (.t 14), none⟩, ⟨some 16, .bin .eql (.t 15) (.c (.int .i64 0)), none⟩, ⟨some 13, .mv (.t 16), none⟩] [13, 0])
 (.cond (.t 13) (.seq (.region [⟨some 2, .mv (.c (.int .u64 0)), none⟩, ⟨some 3, .mv (.c (.bool true)), none⟩] [3, 2])
 (.ret))
 (.region [] [0]))))))
 (.seq (.region [⟨some 17, .mv (.t 0), none⟩, ⟨some 18, .ix 1 (.t 17) (.c (.int .i64 0)), none⟩, ⟨some 19, .ld false 1 (.t 18), none⟩, ⟨some 2, .mv (.t 19), none⟩, ⟨some 3, .mv (.c (.bool true)), none⟩] [3, 2])
 (.ret)))
theorem C_nat_Small : Codes Go.Proofs.Try.prog F_nat_Small S_nat_Small 20 [2, 3] := ⟨Go.Proofs.Try.f46, Go.Proofs.Try.f46.body.getD .skip, Go.Proofs.Try.func46, by kernel_rfl, by kernel_rfl, by kernel_rfl, by kernel_rfl, by kernel_rfl⟩
def F_nat_Check : FuncId := 49
/-- gauge / nat.Check -/
def S_nat_Check : SC :=
 .seq (.region [⟨some 2, .mv (.c (.int .i64 0)), none⟩] [0])
 (.seq (.seq (.region [⟨some 3, .mv (.t 0), none⟩, ⟨some 4, .call 29 [.t 3], none⟩] [4])
 (.cond (.t 4) (.seq (.region [⟨some 2, .mv (.c (.int .i64 0)), none⟩] [2])
 (.ret))
 (.region [] [])))
 (.seq (.region [⟨some 2, .mv (.c (.int .i64 10)), none⟩] [2])
 (.ret)))
theorem C_nat_Check : Codes Go.Proofs.Try.prog F_nat_Check S_nat_Check 5 [2] := ⟨Go.Proofs.Try.f49, Go.Proofs.Try.f49.body.getD .skip, Go.Proofs.Try.func49, by kernel_rfl, by kernel_rfl, by kernel_rfl, by kernel_rfl, by kernel_rfl⟩
def F_nat_add : FuncId := 53
def S_nat_add_j3 : SC :=
 .region [⟨some 52, .mv (.t 5), none⟩, ⟨some 53, .mv (.t 7), none⟩, ⟨some 54, .mv (.t 9), none⟩, ⟨some 55, .ix 1 (.t 52) (.t 53), none⟩, ⟨none, .st 1 (.t 55) (.t 54), none⟩] [23, 22, 21, 6, 5, 1, 0]
def S_nat_add_j2 : SC :=
 .seq (.seq (.region [⟨some 34, .mv (.t 7), none⟩, ⟨some 35, .mv (.t 1), none⟩, ⟨some 36, .len (.t 35), none⟩, ⟨some 37, .bin .lss (.t 34) (.t 36), none⟩] [37, 23, 22, 21, 9, 7, 6, 5, 1, 0])
 (.cond (.t 37) (.seq (.region [⟨some 38, .mv (.t 9), none⟩, ⟨some 39, .mv (.t 1), none⟩, ⟨some 40, .mv (.t 7), none⟩, ⟨some 41, .ix 1 (.t 39) (.t 40), none⟩, ⟨some 42, .ld false 1 (.t 41), none⟩, ⟨some 43, .bin .add (.t 38) (.t 42), none⟩, ⟨some 9, .mv (.t 43), none⟩] [23, 22, 21, 9, 7, 6, 5, 1, 0])
 (.seq (.region [⟨some 44, .mv (.t 9), none⟩, ⟨some 45, .mv (.t 1), none⟩, ⟨some 46, .mv (.t 7), none⟩, ⟨some 47, .ix 1 (.t 45) (.t 46), none⟩, ⟨some 48, .ld false 1 (.t 47), none⟩, ⟨some 49, .bin .lss (.t 44) (.t 48), none⟩] [49, 23, 22, 21, 9, 7, 6, 5, 1, 0])
 (.cond (.t 49) (.region [⟨some 50, .mv (.t 6), none⟩, ⟨some 51, .bin .add (.t 50) (.c (.int .u64 1)), none⟩, ⟨some 6, .mv (.t 51), none⟩] [23, 22, 21, 9, 7, 6, 5, 1, 0])
 (.region [] [23, 22, 21, 9, 7, 6, 5, 1, 0]))))
 (.region [] [23, 22, 21, 9, 7, 6, 5, 1, 0])))
 (.seq .says S_nat_add_j3)
def S_nat_add_j1 : SC :=
 .seq (.region [⟨some 17, .mv (.t 0), none⟩, ⟨some 18, .len (.t 17), none⟩, ⟨some 19, .bin .add (.t 18) (.c (.int .i64 1)), none⟩, ⟨some 20, .mks 1 8 [.int .u64 0] (.t 19) (.t 19), none⟩, ⟨some 5, .mv (.t 20), none⟩] [5, 1, 0])
 (.seq (.region [⟨some 6, .mv (.c (.int .u64 0)), none⟩] [6, 5, 1, 0])
 (.seq (.seq (.region [⟨some 21, .mv (.t 0), none⟩, ⟨some 22, .len (.t 21), none⟩, ⟨some 23, .mv (.c (.int .i64 0)), none⟩] [23, 22, 21, 6, 5, 1, 0])
 (.block 0 [6, 5, 0] (.loop [23, 22, 21, 6, 5, 1, 0] (.seq (.region [⟨some 24, .bin .lss (.t 23) (.t 22), none⟩] [24, 23, 22, 21, 6, 5, 1, 0])
 (.seq (.cond (.t 24) (.region [] [23, 22, 21, 6, 5, 1, 0])
 (.exit 0))
 (.seq (.block 1 [23, 22, 21, 6, 5, 1, 0] (.seq (.region [⟨some 25, .mv (.t 23), none⟩, ⟨some 26, .ix 1 (.t 21) (.t 23), none⟩, ⟨some 27, .ld false 1 (.t 26), none⟩, ⟨some 7, .mv (.t 25), none⟩, ⟨some 8, .mv (.t 27), none⟩] [23, 22, 21, 8, 7, 6, 5, 1, 0])
 (.seq (.region [⟨some 28, .mv (.t 8), none⟩, ⟨some 29, .mv (.t 6), none⟩, ⟨some 30, .bin .add (.t 28) (.t 29), none⟩, ⟨some 9, .mv (.t 30), none⟩] [23, 22, 21, 9, 8, 7, 5, 1, 0])
 (.seq (.region [⟨some 6, .mv (.c (.int .u64 0)), none⟩] [23, 22, 21, 9, 8, 7, 6, 5, 1, 0])
 (.seq (.seq (.region [⟨some 31, .mv (.t 9), none⟩, ⟨some 32, .mv (.t 8), none⟩, ⟨some 33, .bin .lss (.t 31) (.t 32), none⟩] [33, 23, 22, 21, 9, 7, 6, 5, 1, 0])
 (.cond (.t 33) (.region [⟨some 6, .mv (.c (.int .u64 1)), none⟩] [23, 22, 21, 9, 7, 6, 5, 1, 0])
 (.region [] [23, 22, 21, 9, 7, 6, 5, 1, 0])))
 (.seq .says S_nat_add_j2))))))
 (.region [⟨some 56, .bin .add (.t 23) (.c (.int .i64 1)), none⟩, ⟨some 23, .mv (.t 56), none⟩] [23, 22, 21, 6, 5, 1, 0])))))))
 (.seq (.region [⟨some 57, .mv (.t 5), none⟩, ⟨some 58, .mv (.t 0), none⟩, ⟨some 59, .len (.t 58), none⟩, ⟨some 60, .mv (.t 6), none⟩, ⟨some 61, .ix 1 (.t 57) (.t 59), none⟩, ⟨none, .st 1 (.t 61) (.t 60), none⟩] [5])
 (.seq (.region [⟨some 62, .mv (.t 5), none⟩, ⟨some 63, .call 55 [.t 62], none⟩, ⟨some 4, .mv (.t 63), none⟩] [4])
 (.ret)))))
/-- gauge / nat.add -/
def S_nat_add : SC :=
 .seq (.region [⟨some 4, .mv (.c (.slice none 0 0)), none⟩] [1, 0])
 (.seq (.seq (.region [⟨some 10, .mv (.t 0), none⟩, ⟨some 11, .len (.t 10), none⟩, ⟨some 12, .mv (.t 1), none⟩, ⟨some 13, .len (.t 12), none⟩, ⟨some 14, .bin .lss (.t 11) (.t 13), none⟩] [14, 1, 0])
 (.cond (.t 14) (.region [⟨some 15, .mv (.t 1), none⟩, ⟨some 16, .mv (.t 0), none⟩, ⟨some 0, .mv (.t 15), none⟩, ⟨some 1, .mv (.t 16), none⟩] [1, 0])
 (.region [] [1, 0])))
 (.seq .says S_nat_add_j1))
theorem C_nat_add : Codes Go.Proofs.Try.prog F_nat_add S_nat_add 64 [4] := ⟨Go.Proofs.Try.f53, Go.Proofs.Try.f53.body.getD .skip, Go.Proofs.Try.func53, by kernel_rfl, by kernel_rfl, by kernel_rfl, by kernel_rfl, by kernel_rfl⟩
def F_nat_mul : FuncId := 54
/-- gauge / nat.mul -/
def S_nat_mul : SC :=
 .seq (.region [⟨some 4, .mv (.c (.slice none 0 0)), none⟩] [1, 0])
 (.seq (.region [⟨some 15, .mv (.t 0), none⟩, ⟨some 16, .len (.t 15), none⟩, ⟨some 17, .mv (.t 1), none⟩, ⟨some 18, .len (.t 17), none⟩, ⟨some 19, .bin .add (.t 16) (.t 18), none⟩, ⟨some 20, .mks 1 8 [.int .u64 0] (.t 19) (.t 19), none⟩, ⟨some 5, .mv (.t 20), none⟩] [5, 1, 0])
 (.seq (.seq (.region [⟨some 21, .mv (.t 0), none⟩, ⟨some 22, .len (.t 21), none⟩, ⟨some 23, .mv (.c (.int .i64 0)), none⟩] [23, 22, 21, 5, 1])
 (.block 0 [5] (.loop [23, 22, 21, 5, 1] (.seq (.region [⟨some 24, .bin .lss (.t 23) (.t 22), none⟩] [24, 23, 22, 21, 5, 1])
 (.seq (.cond (.t 24) (.region [] [23, 22, 21, 5, 1])
 (.exit 0))
 (.seq (.block 1 [23, 22, 21, 5, 1] (.seq (.region [⟨some 25, .mv (.t 23), none⟩, ⟨some 26, .ix 1 (.t 21) (.t 23), none⟩, ⟨some 27, .ld false 1 (.t 26), none⟩, ⟨some 6, .mv (.t 25), none⟩, ⟨some 7, .mv (.t 27), none⟩] [23, 22, 21, 7, 6, 5, 1])
 (.seq (.region [⟨some 28, .mv (.t 5), none⟩, ⟨some 29, .mv (.t 6), none⟩, ⟨some 30, .mv (.t 6), none⟩, ⟨some 31, .mv (.t 1), none⟩, ⟨some 32, .len (.t 31), none⟩, ⟨some 33, .bin .add (.t 30) (.t 32), none⟩, ⟨some 34, .bin .add (.t 33) (.c (.int .i64 1)), none⟩, ⟨some 35, .mv (.t 6), none⟩, ⟨some 36, .mv (.t 1), none⟩, ⟨some 37, .len (.t 36), none⟩, ⟨some 38, .bin .add (.t 35) (.t 37), none⟩, ⟨some 39, .bin .add (.t 38) (.c (.int .i64 1)), none⟩, ⟨some 40, .sl 1 (.t 28) (some (.t 29)) (some (.t 34)) (some (.t 39)), none⟩, ⟨some 8, .mv (.t 40), none⟩] [23, 22, 21, 8, 7, 5, 1])
 (.seq (.region [⟨some 9, .mv (.c (.int .u64 0)), none⟩] [23, 22, 21, 9, 8, 7, 5, 1])
 (.seq (.seq (.region [⟨some 41, .mv (.t 1), none⟩, ⟨some 42, .len (.t 41), none⟩, ⟨some 43, .mv (.c (.int .i64 0)), none⟩] [43, 42, 41, 23, 22, 21, 9, 8, 7, 5, 1])
 (.block 2 [23, 22, 21, 9, 8, 5, 1] (.loop [43, 42, 41, 23, 22, 21, 9, 8, 7, 5, 1] (.seq (.region [⟨some 44, .bin .lss (.t 43) (.t 42), none⟩] [44, 43, 42, 41, 23, 22, 21, 9, 8, 7, 5, 1])
 (.seq (.cond (.t 44) (.region [] [43, 42, 41, 23, 22, 21, 9, 8, 7, 5, 1])
 (.exit 2))
 (.seq (.block 3 [43, 42, 41, 23, 22, 21, 9, 8, 7, 5, 1] (.seq (.region [⟨some 45, .mv (.t 43), none⟩, ⟨some 46, .ix 1 (.t 41) (.t 43), none⟩, ⟨some 47, .ld false 1 (.t 46), none⟩, ⟨some 10, .mv (.t 45), none⟩, ⟨some 11, .mv (.t 47), none⟩] [43, 42, 41, 23, 22, 21, 11, 10, 9, 8, 7, 5, 1])
 (.seq (.region [⟨some 49, .mv (.t 7), none⟩, ⟨some 50, .mv (.t 11), none⟩, ⟨some 51, .call 66 [.t 49, .t 50], none⟩, ⟨some 48, .mv (.t 51), none⟩, ⟨some 52, .ext (.t 48) 0, none⟩, ⟨some 53, .ext (.t 48) 1, none⟩, ⟨some 12, .mv (.t 52), none⟩, ⟨some 13, .mv (.t 53), none⟩] [43, 42, 41, 23, 22, 21, 13, 12, 10, 9, 8, 7, 5, 1])
 (.seq (.region [⟨some 55, .mv (.t 13), none⟩, ⟨some 56, .mv (.t 9), none⟩, ⟨some 57, .call 67 [.t 55, .t 56, .c (.int .u64 0)], none⟩, ⟨some 54, .mv (.t 57), none⟩, ⟨some 58, .ext (.t 54) 0, none⟩, ⟨some 59, .ext (.t 54) 1, none⟩, ⟨some 13, .mv (.t 58), none⟩, ⟨some 14, .mv (.t 59), none⟩] [43, 42, 41, 23, 22, 21, 14, 13, 12, 10, 8, 7, 5, 1])
 (.seq (.region [⟨some 60, .mv (.t 12), none⟩, ⟨some 61, .mv (.t 14), none⟩, ⟨some 62, .bin .add (.t 60) (.t 61), none⟩, ⟨some 12, .mv (.t 62), none⟩] [43, 42, 41, 23, 22, 21, 13, 12, 10, 8, 7, 5, 1])
 (.seq (.region [⟨some 64, .mv (.t 8), none⟩, ⟨some 65, .mv (.t 10), none⟩, ⟨some 66, .mv (.t 8), none⟩, ⟨some 67, .mv (.t 10), none⟩, ⟨some 68, .ix 1 (.t 66) (.t 67), none⟩, ⟨some 69, .ld false 1 (.t 68), none⟩, ⟨some 70, .mv (.t 13), none⟩, ⟨some 71, .call 67 [.t 69, .t 70, .c (.int .u64 0)], none⟩, ⟨some 63, .mv (.t 71), none⟩, ⟨some 72, .ext (.t 63) 0, none⟩, ⟨some 73, .ext (.t 63) 1, none⟩, ⟨some 74, .ix 1 (.t 64) (.t 65), none⟩, ⟨none, .st 1 (.t 74) (.t 72), none⟩, ⟨some 14, .mv (.t 73), none⟩] [43, 42, 41, 23, 22, 21, 14, 12, 8, 7, 5, 1])
 (.region [⟨some 75, .mv (.t 12), none⟩, ⟨some 76, .mv (.t 14), none⟩, ⟨some 77, .bin .add (.t 75) (.t 76), none⟩, ⟨some 9, .mv (.t 77), none⟩] [43, 42, 41, 23, 22, 21, 9, 8, 7, 5, 1])))))))
 (.region [⟨some 78, .bin .add (.t 43) (.c (.int .i64 1)), none⟩, ⟨some 43, .mv (.t 78), none⟩] [43, 42, 41, 23, 22, 21, 9, 8, 7, 5, 1])))))))
 (.region [⟨some 79, .mv (.t 8), none⟩, ⟨some 80, .mv (.t 1), none⟩, ⟨some 81, .len (.t 80), none⟩, ⟨some 82, .mv (.t 9), none⟩, ⟨some 83, .ix 1 (.t 79) (.t 81), none⟩, ⟨none, .st 1 (.t 83) (.t 82), none⟩] [23, 22, 21, 5, 1]))))))
 (.region [⟨some 84, .bin .add (.t 23) (.c (.int .i64 1)), none⟩, ⟨some 23, .mv (.t 84), none⟩] [23, 22, 21, 5, 1])))))))
 (.seq (.region [⟨some 85, .mv (.t 5), none⟩, ⟨some 86, .call 55 [.t 85], none⟩, ⟨some 4, .mv (.t 86), none⟩] [4])
 (.ret))))
theorem C_nat_mul : Codes Go.Proofs.Try.prog F_nat_mul S_nat_mul 87 [4] := ⟨Go.Proofs.Try.f54, Go.Proofs.Try.f54.body.getD .skip, Go.Proofs.Try.func54, by kernel_rfl, by kernel_rfl, by kernel_rfl, by kernel_rfl, by kernel_rfl⟩
def F_nat_trim : FuncId := 55
/-- gauge / nat.trim -/
def S_nat_trim : SC :=
 .seq (.region [⟨some 2, .mv (.c (.slice none 0 0)), none⟩] [0])
 (.seq (.region [⟨some 4, .mv (.t 0), none⟩, ⟨some 5, .len (.t 4), none⟩, ⟨some 3, .mv (.t 5), none⟩] [3, 0])
 (.seq (.block 0 [3, 0] (.loop [3, 0] (.seq (.seq (.region [⟨some 6, .mv (.t 3), none⟩, ⟨some 7, .bin .gtr (.t 6) (.c (.int .i64 0)), none⟩, ⟨some 8, .mv (.t 7), none⟩, ⟨some 9, .mv (.t 0), some (8, true)⟩, ⟨some 10, .mv (.t 3), some (8, true)⟩, ⟨some 11, .bin .sub (.t 10) (.c (.int .i64 1)), some (8, true)⟩, ⟨some 12, .ix 1 (.t 9) (.t 11), some (8, true)⟩, ⟨some 13, .ld false 1 (.t 12), some (8, true)⟩, ⟨some 14, .bin .eql (.t 13) (.c (.int .u64 0)), some (8, true)⟩, ⟨some 15, .pick (.t 8) (.t 14) (.c (.bool false)), none⟩] [15, 3, 0])
 (.cond (.t 15) (.region [] [3, 0])
 (.exit 0)))
 (.block 1 [3, 0] (.region [⟨some 16, .mv (.t 3), none⟩, ⟨some 17, .bin .sub (.t 16) (.c (.int .i64 1)), none⟩, ⟨some 3, .mv (.t 17), none⟩] [3, 0])))))
 (.seq (.region [⟨some 18, .mv (.t 0), none⟩, ⟨some 19, .mv (.t 3), none⟩, ⟨some 20, .mv (.t 3), none⟩, ⟨some 21, .sl 1 (.t 18) none (some (.t 19)) (some (.t 20)), none⟩, ⟨some 2, .mv (.t 21), none⟩] [2])
 (.ret))))
theorem C_nat_trim : Codes Go.Proofs.Try.prog F_nat_trim S_nat_trim 22 [2] := ⟨Go.Proofs.Try.f55, Go.Proofs.Try.f55.body.getD .skip, Go.Proofs.Try.func55, by kernel_rfl, by kernel_rfl, by kernel_rfl, by kernel_rfl, by kernel_rfl⟩
def F_math_bits_Mul64 : FuncId := 66
/-- math / bits.Mul64 -/
def S_math_bits_Mul64 : SC :=
 .seq (.region [⟨some 4, .mv (.c (.int .u64 0)), none⟩, ⟨some 5, .mv (.c (.int .u64 0)), none⟩] [1, 0])
 (.seq (.region [⟨some 14, .mv (.t 0), none⟩, ⟨some 15, .bin .and (.t 14) (.c (.int .u64 4294967295)), none⟩, ⟨some 6, .mv (.t 15), none⟩] [6, 1, 0])
 (.seq (.region [⟨some 16, .mv (.t 0), none⟩, ⟨some 17, .bin .shr (.t 16) (.c (.int .u64 32)), none⟩, ⟨some 7, .mv (.t 17), none⟩] [7, 6, 1, 0])
 (.seq (.region [⟨some 18, .mv (.t 1), none⟩, ⟨some 19, .bin .and (.t 18) (.c (.int .u64 4294967295)), none⟩, ⟨some 8, .mv (.t 19), none⟩] [8, 7, 6, 1, 0])
 (.seq (.region [⟨some 20, .mv (.t 1), none⟩, ⟨some 21, .bin .shr (.t 20) (.c (.int .u64 32)), none⟩, ⟨some 9, .mv (.t 21), none⟩] [9, 8, 7, 6, 1, 0])
 (.seq (.region [⟨some 22, .mv (.t 6), none⟩, ⟨some 23, .mv (.t 8), none⟩, ⟨some 24, .bin .mul (.t 22) (.t 23), none⟩, ⟨some 10, .mv (.t 24), none⟩] [10, 9, 8, 7, 6, 1, 0])
 (.seq (.region [⟨some 25, .mv (.t 7), none⟩, ⟨some 26, .mv (.t 8), none⟩, ⟨some 27, .bin .mul (.t 25) (.t 26), none⟩, ⟨some 28, .mv (.t 10), none⟩, ⟨some 29, .bin .shr (.t 28) (.c (.int .u64 32)), none⟩, ⟨some 30, .bin .add (.t 27) (.t 29), none⟩, ⟨some 11, .mv (.t 30), none⟩] [11, 9, 7, 6, 1, 0])
 (.seq (.region [⟨some 31, .mv (.t 11), none⟩, ⟨some 32, .bin .and (.t 31) (.c (.int .u64 4294967295)), none⟩, ⟨some 12, .mv (.t 32), none⟩] [12, 11, 9, 7, 6, 1, 0])
 (.seq (.region [⟨some 33, .mv (.t 11), none⟩, ⟨some 34, .bin .shr (.t 33) (.c (.int .u64 32)), none⟩, ⟨some 13, .mv (.t 34), none⟩] [13, 12, 9, 7, 6, 1, 0])
 (.seq (.region [⟨some 35, .mv (.t 12), none⟩, ⟨some 36, .mv (.t 6), none⟩, ⟨some 37, .mv (.t 9), none⟩, ⟨some 38, .bin .mul (.t 36) (.t 37), none⟩, ⟨some 39, .bin .add (.t 35) (.t 38), none⟩, ⟨some 12, .mv (.t 39), none⟩] [13, 12, 9, 7, 1, 0])
 (.seq (.region [⟨some 40, .mv (.t 7), none⟩, ⟨some 41, .mv (.t 9), none⟩, ⟨some 42, .bin .mul (.t 40) (.t 41), none⟩, ⟨some 43, .mv (.t 13), none⟩, ⟨some 44, .bin .add (.t 42) (.t 43), none⟩, ⟨some 45, .mv (.t 12), none⟩, ⟨some 46, .bin .shr (.t 45) (.c (.int .u64 32)), none⟩, ⟨some 47, .bin .add (.t 44) (.t 46), none⟩, ⟨some 4, .mv (.t 47), none⟩] [4, 1, 0])
 (.seq (.region [⟨some 48, .mv (.t 0), none⟩, ⟨some 49, .mv (.t 1), none⟩, ⟨some 50, .bin .mul (.t 48) (.t 49), none⟩, ⟨some 5, .mv (.t 50), none⟩] [5, 4])
 (.ret))))))))))))
theorem C_math_bits_Mul64 : Codes Go.Proofs.Try.prog F_math_bits_Mul64 S_math_bits_Mul64 51 [4, 5] := ⟨Go.Proofs.Try.f66, Go.Proofs.Try.f66.body.getD .skip, Go.Proofs.Try.func66, by kernel_rfl, by kernel_rfl, by kernel_rfl, by kernel_rfl, by kernel_rfl⟩
def F_math_bits_Add64 : FuncId := 67
def F_math_bits_Sub64 : FuncId := 69
end Go.Proofs.Ytigedaepbilokaa.Nat
