import Derived.Test.YtoidllhkhljlaaaProg
import Derived.Test.YtoidllhkhljlaaaPk1
namespace Go.Proofs.Ytoidllhkhljlaaa.Nat
open Go Go.Ab
open Go.Ab.SOp Go.Ab.SC Go.Ab.Opd
set_option linter.unusedVariables false
set_option maxRecDepth 20000
def F_gaugelaw0_Limbs : FuncId := 11
/-- gauge / gaugelaw0.Limbs -/
def S_gaugelaw0_Limbs : SC :=
 .seq (.region [⟨some 4, .mv (.c (.bool false)), none⟩] [1, 0])
 (.seq (.region [⟨some 5, .mv (.c (.int .i64 0)), none⟩] [5, 1, 0])
 (.seq (.seq (.region [⟨some 6, .mv (.c (.int .i64 0)), none⟩] [6, 5, 1, 0])
 (.block 0 [] (.loop [6, 5, 1, 0] (.seq (.seq (.region [⟨some 7, .mv (.t 6), none⟩, ⟨some 8, .mv (.t 1), none⟩, ⟨some 9, .len (.t 8), none⟩, ⟨some 10, .bin .lss (.t 7) (.t 9), none⟩] [10, 6, 5, 1, 0])
 (.cond (.t 10) (.region [] [6, 5, 1, 0])
 (.exit 0)))
 (.seq (.block 1 [6, 5, 1, 0] (.seq (.region [⟨some 13, .mv (.t 5), none⟩, ⟨some 14, .mv (.t 1), none⟩, ⟨some 15, .mv (.t 6), none⟩, ⟨some 16, .ix 1 (.t 14) (.t 15), none⟩, ⟨some 17, .ld false 1 (.t 16), none⟩, ⟨some 18, .len (.t 17), none⟩, ⟨some 19, .bin .add (.t 13) (.t 18), none⟩, ⟨some 5, .mv (.t 19), none⟩] [6, 5, 1, 0])
 (.seq (.region [⟨some 20, .mv (.t 5), none⟩, ⟨some 21, .mv (.t 0), none⟩, ⟨some 22, .bin .gtr (.t 20) (.t 21), none⟩] [22, 6, 5, 1, 0])
 (.cond (.t 22) (.seq (.region [⟨some 4, .mv (.c (.bool true)), none⟩] [4])
 (.ret))
 (.region [] [6, 5, 1, 0])))))
 (.region [⟨some 11, .mv (.t 6), none⟩, ⟨some 12, .bin .add (.t 11) (.c (.int .i64 1)), none⟩, ⟨some 6, .mv (.t 12), none⟩] [6, 5, 1, 0]))))))
 (.seq (.region [⟨some 4, .mv (.c (.bool false)), none⟩] [4])
 (.ret))))
theorem C_gaugelaw0_Limbs : Codes Go.Proofs.Try.prog F_gaugelaw0_Limbs S_gaugelaw0_Limbs 23 [4] := ⟨Go.Proofs.Try.f11, Go.Proofs.Try.f11.body.getD .skip, Go.Proofs.Try.func11, by kernel_rfl, by kernel_rfl, by kernel_rfl, by kernel_rfl, by kernel_rfl⟩
def F_gaugelaw2_made : FuncId := 12
/-- gauge / gaugelaw2.made -/
def S_gaugelaw2_made : SC :=
 .seq (.region [⟨some 1, .box false 2 (.t 0), none⟩, ⟨some 2, .alloc true 2 [.bool false, .slice none 0 0], none⟩] [2, 1])
 (.seq (.seq .says (.drawn [0, 1, 2, 3, 4, 5, 6] [⟨some 3, .fa 0 (.t 1), none⟩, ⟨some 4, .ld false 1 (.t 3), none⟩, ⟨some 5, .fa 1 (.t 1), none⟩, ⟨some 6, .ld false 1 (.t 5), none⟩, ⟨some 7, .callq 44 [.t 6], none⟩, ⟨some 8, .callq 43 [.t 4, .t 7], none⟩, ⟨none, .st 2 (.t 2) (.t 8), none⟩] [2]))
 (.ret))
theorem C_gaugelaw2_made : CodesC Go.Proofs.Try.prog F_gaugelaw2_made S_gaugelaw2_made 9 [.c 2 true 2] := ⟨Go.Proofs.Try.f12, Go.Proofs.Try.f12.body.getD .skip, Go.Proofs.Try.func12, by kernel_rfl, by kernel_rfl, by kernel_rfl, by kernel_rfl, by kernel_rfl⟩
def F_gaugeref2_Zero : FuncId := 13
/-- gauge / gaugeref2.Zero -/
def S_gaugeref2_Zero : SC :=
 .seq (.region [⟨some 1, .box false 2 (.t 0), none⟩, ⟨some 2, .mv (.c (.bool false)), none⟩] [1])
 (.seq (.region [⟨some 3, .fa 1 (.t 1), none⟩, ⟨some 4, .ld false 1 (.t 3), none⟩, ⟨some 5, .len (.t 4), none⟩, ⟨some 6, .bin .eql (.t 5) (.c (.int .i64 0)), none⟩, ⟨some 2, .mv (.t 6), none⟩] [2])
 (.ret))
theorem C_gaugeref2_Zero : Codes Go.Proofs.Try.prog F_gaugeref2_Zero S_gaugeref2_Zero 7 [2] := ⟨Go.Proofs.Try.f13, Go.Proofs.Try.f13.body.getD .skip, Go.Proofs.Try.func13, by kernel_rfl, by kernel_rfl, by kernel_rfl, by kernel_rfl, by kernel_rfl⟩
def F_whole_Divide : FuncId := 14
/-- gauge / whole.Divide -/
def S_whole_Divide : SC :=
 .seq (.region [⟨some 2, .box false 2 (.t 0), none⟩, ⟨some 3, .box false 2 (.t 1), none⟩, ⟨some 4, .alloc true 2 [.bool false, .slice none 0 0], none⟩, ⟨some 5, .alloc true 2 [.bool false, .slice none 0 0], none⟩, ⟨some 6, .mv (.c (.int .i64 0)), none⟩] [5, 4, 3, 2])
 (.seq (.block 0 [5, 4, 3, 2] (.seq (.region [⟨some 10, .ld true 2 (.t 2), none⟩, ⟨some 11, .call 55 [.t 10], none⟩, ⟨some 12, .un .not (.t 11), none⟩, ⟨some 13, .mv (.t 12), none⟩, ⟨some 14, .ld true 2 (.t 3), some (13, false)⟩, ⟨some 15, .call 55 [.t 14], some (13, false)⟩, ⟨some 16, .un .not (.t 15), some (13, false)⟩, ⟨some 17, .pick (.t 13) (.c (.bool true)) (.t 16), none⟩, ⟨some 9, .mv (.t 17), none⟩] [9, 5, 4, 3, 2])
 (.cond (.t 9) (.seq (.region [⟨some 18, .build [.bool false, .slice none 0 0] [], none⟩, ⟨some 19, .build [.bool false, .slice none 0 0] [], none⟩, ⟨none, .st 2 (.t 4) (.t 18), none⟩, ⟨none, .st 2 (.t 5) (.t 19), none⟩, ⟨some 6, .mv (.c (.int .i64 20)), none⟩] [6, 5, 4])
 (.ret))
 (.seq (.region [⟨some 21, .fa 1 (.t 3), none⟩, ⟨some 22, .ld false 1 (.t 21), none⟩, ⟨some 23, .len (.t 22), none⟩, ⟨some 24, .bin .eql (.t 23) (.c (.int .i64 0)), none⟩, ⟨some 20, .mv (.t 24), none⟩] [20, 5, 4, 3, 2])
 (.cond (.t 20) (.seq (.region [⟨some 25, .build [.bool false, .slice none 0 0] [], none⟩, ⟨some 26, .build [.bool false, .slice none 0 0] [], none⟩, ⟨none, .st 2 (.t 4) (.t 25), none⟩, ⟨none, .st 2 (.t 5) (.t 26), none⟩, ⟨some 6, .mv (.c (.int .i64 21)), none⟩] [6, 5, 4])
 (.ret))
 (.region [] [5, 4, 3, 2]))))))
 (.seq (.region [⟨some 28, .ld true 2 (.t 2), none⟩, ⟨some 29, .ld true 2 (.t 3), none⟩, ⟨some 30, .call 56 [.t 28, .t 29], none⟩, ⟨some 27, .mv (.t 30), none⟩, ⟨some 31, .ext (.t 27) 0, none⟩, ⟨some 32, .ext (.t 27) 1, none⟩, ⟨some 7, .alloc true 2 [.bool false, .slice none 0 0], none⟩, ⟨some 8, .alloc true 2 [.bool false, .slice none 0 0], none⟩, ⟨none, .st 2 (.t 7) (.t 31), none⟩, ⟨none, .st 2 (.t 8) (.t 32), none⟩] [8, 7, 5, 4])
 (.seq .says (.seq (.drawn [0, 1, 2, 3, 4] [⟨some 33, .ld true 2 (.t 7), none⟩, ⟨some 34, .ldp true 2 (.t 8) [.t 4], none⟩, ⟨none, .st 2 (.t 4) (.t 33), none⟩, ⟨none, .st 2 (.t 5) (.t 34), none⟩, ⟨some 6, .mv (.c (.int .i64 0)), none⟩] [6, 5, 4])
 (.ret)))))
theorem C_whole_Divide : CodesC Go.Proofs.Try.prog F_whole_Divide S_whole_Divide 35 [.c 4 true 2, .c 5 true 2, .t 6] := ⟨Go.Proofs.Try.f14, Go.Proofs.Try.f14.body.getD .skip, Go.Proofs.Try.func14, by kernel_rfl, by kernel_rfl, by kernel_rfl, by kernel_rfl, by kernel_rfl⟩
def F_gaugelaw2_add : FuncId := 15
/-- gauge / gaugelaw2.add -/
def S_gaugelaw2_add : SC :=
 .seq (.region [⟨some 2, .box false 2 (.t 0), none⟩, ⟨some 3, .box false 2 (.t 1), none⟩, ⟨some 4, .alloc true 2 [.bool false, .slice none 0 0], none⟩] [4, 3, 2])
 (.seq (.region [⟨some 8, .ld true 2 (.t 2), none⟩, ⟨some 9, .ld true 2 (.t 3), none⟩, ⟨some 10, .call 29 [.t 8, .t 9], none⟩, ⟨some 7, .mv (.t 10), none⟩, ⟨some 11, .ext (.t 7) 0, none⟩, ⟨some 12, .ext (.t 7) 1, none⟩, ⟨some 5, .alloc true 2 [.bool false, .slice none 0 0], none⟩, ⟨none, .st 2 (.t 5) (.t 11), none⟩, ⟨some 6, .mv (.t 12), none⟩] [5, 4])
 (.seq .says (.seq (.region [⟨some 13, .ld true 2 (.t 5), none⟩, ⟨none, .st 2 (.t 4) (.t 13), none⟩] [4])
 (.ret))))
theorem C_gaugelaw2_add : CodesC Go.Proofs.Try.prog F_gaugelaw2_add S_gaugelaw2_add 14 [.c 4 true 2] := ⟨Go.Proofs.Try.f15, Go.Proofs.Try.f15.body.getD .skip, Go.Proofs.Try.func15, by kernel_rfl, by kernel_rfl, by kernel_rfl, by kernel_rfl, by kernel_rfl⟩
def F_gaugelaw2_mul : FuncId := 16
/-- gauge / gaugelaw2.mul -/
def S_gaugelaw2_mul : SC :=
 .seq (.region [⟨some 2, .box false 2 (.t 0), none⟩, ⟨some 3, .box false 2 (.t 1), none⟩, ⟨some 4, .alloc true 2 [.bool false, .slice none 0 0], none⟩] [4, 3, 2])
 (.seq (.region [⟨some 8, .ld true 2 (.t 2), none⟩, ⟨some 9, .ld true 2 (.t 3), none⟩, ⟨some 10, .call 28 [.t 8, .t 9], none⟩, ⟨some 7, .mv (.t 10), none⟩, ⟨some 11, .ext (.t 7) 0, none⟩, ⟨some 12, .ext (.t 7) 1, none⟩, ⟨some 5, .alloc true 2 [.bool false, .slice none 0 0], none⟩, ⟨none, .st 2 (.t 5) (.t 11), none⟩, ⟨some 6, .mv (.t 12), none⟩] [5, 4])
 (.seq .says (.seq (.region [⟨some 13, .ld true 2 (.t 5), none⟩, ⟨none, .st 2 (.t 4) (.t 13), none⟩] [4])
 (.ret))))
theorem C_gaugelaw2_mul : CodesC Go.Proofs.Try.prog F_gaugelaw2_mul S_gaugelaw2_mul 14 [.c 4 true 2] := ⟨Go.Proofs.Try.f16, Go.Proofs.Try.f16.body.getD .skip, Go.Proofs.Try.func16, by kernel_rfl, by kernel_rfl, by kernel_rfl, by kernel_rfl, by kernel_rfl⟩
def F_whole_Neg : FuncId := 17
/-- gauge / whole.Neg -/
def S_whole_Neg : SC :=
 .seq (.region [⟨some 1, .box false 2 (.t 0), none⟩, ⟨some 2, .alloc true 2 [.bool false, .slice none 0 0], none⟩] [2, 1])
 (.seq (.seq (.region [⟨some 3, .ld true 2 (.t 1), none⟩, ⟨some 4, .call 55 [.t 3], none⟩, ⟨some 5, .un .not (.t 4), none⟩] [5, 2, 1])
 (.cond (.t 5) (.seq (.region [⟨some 6, .build [.bool false, .slice none 0 0] [], none⟩, ⟨none, .st 2 (.t 2) (.t 6), none⟩] [2])
 (.ret))
 (.region [] [2, 1])))
 (.seq (.region [⟨some 7, .ld true 2 (.t 1), none⟩, ⟨some 8, .call 57 [.t 7], none⟩, ⟨none, .st 2 (.t 2) (.t 8), none⟩] [2])
 (.ret)))
theorem C_whole_Neg : CodesC Go.Proofs.Try.prog F_whole_Neg S_whole_Neg 9 [.c 2 true 2] := ⟨Go.Proofs.Try.f17, Go.Proofs.Try.f17.body.getD .skip, Go.Proofs.Try.func17, by kernel_rfl, by kernel_rfl, by kernel_rfl, by kernel_rfl, by kernel_rfl⟩
def F_gaugelaw2_num : FuncId := 18
/-- gauge / gaugelaw2.num -/
def S_gaugelaw2_num : SC :=
 .seq (.region [⟨some 2, .mv (.c (.int .i64 0)), none⟩] [0])
 (.seq (.region [⟨some 3, .mv (.t 0), none⟩, ⟨some 2, .mv (.t 3), none⟩] [2])
 (.ret))
theorem C_gaugelaw2_num : Codes Go.Proofs.Try.prog F_gaugelaw2_num S_gaugelaw2_num 4 [2] := ⟨Go.Proofs.Try.f18, Go.Proofs.Try.f18.body.getD .skip, Go.Proofs.Try.func18, by kernel_rfl, by kernel_rfl, by kernel_rfl, by kernel_rfl, by kernel_rfl⟩
def F_gaugeref0_EqInt : FuncId := 19
/-- gauge / gaugeref0.EqInt -/
def S_gaugeref0_EqInt : SC :=
 .seq (.region [⟨some 2, .box false 2 (.t 0), none⟩, ⟨some 3, .box false 2 (.t 1), none⟩, ⟨some 4, .mv (.c (.bool false)), none⟩] [3, 2])
 (.seq (.region [⟨some 5, .fa 0 (.t 2), none⟩, ⟨some 6, .ld false 1 (.t 5), none⟩, ⟨some 7, .fa 0 (.t 3), none⟩, ⟨some 8, .ld false 1 (.t 7), none⟩, ⟨some 9, .beq false (.t 6) (.t 8), none⟩, ⟨some 10, .mv (.t 9), none⟩, ⟨some 11, .fa 1 (.t 2), some (10, true)⟩, ⟨some 12, .ld false 1 (.t 11), some (10, true)⟩, ⟨some 13, .fa 1 (.t 3), some (10, true)⟩, ⟨some 14, .ld false 1 (.t 13), some (10, true)⟩, ⟨some 15, .call 58 [.t 12, .t 14], some (10, true)⟩, ⟨some 16, .pick (.t 10) (.t 15) (.c (.bool false)), none⟩, ⟨some 4, .mv (.t 16), none⟩] [4])
 (.ret))
theorem C_gaugeref0_EqInt : Codes Go.Proofs.Try.prog F_gaugeref0_EqInt S_gaugeref0_EqInt 17 [4] := ⟨Go.Proofs.Try.f19, Go.Proofs.Try.f19.body.getD .skip, Go.Proofs.Try.func19, by kernel_rfl, by kernel_rfl, by kernel_rfl, by kernel_rfl, by kernel_rfl⟩
def F_gaugelaw2_wakes : FuncId := 20
/-- gauge / gaugelaw2.wakes -/
def S_gaugelaw2_wakes : SC :=
 .seq (.region [⟨some 0, .mv (.c (.bool false)), none⟩] [])
 (.seq (.region [⟨some 5, .call 33 [.c (.int .i64 (-7))], none⟩, ⟨some 6, .call 33 [.c (.int .i64 2)], none⟩, ⟨some 7, .call 14 [.t 5, .t 6], none⟩, ⟨some 4, .mv (.t 7), none⟩, ⟨some 8, .ext (.t 4) 0, none⟩, ⟨some 9, .ext (.t 4) 1, none⟩, ⟨some 10, .ext (.t 4) 2, none⟩, ⟨some 1, .alloc true 2 [.bool false, .slice none 0 0], none⟩, ⟨some 2, .alloc true 2 [.bool false, .slice none 0 0], none⟩, ⟨none, .st 2 (.t 1) (.t 8), none⟩, ⟨none, .st 2 (.t 2) (.t 9), none⟩, ⟨some 3, .mv (.t 10), none⟩] [3, 2, 1])
 (.seq .says (.seq (.seq .says (.drawn [0, 1, 2, 3, 4, 5, 6, 7, 8, 9, 10, 11, 12, 13] [⟨some 11, .mv (.t 3), none⟩, ⟨some 12, .callq 18 [.t 11], none⟩, ⟨some 13, .bin .eql (.t 12) (.c (.int .i64 0)), none⟩, ⟨some 14, .mv (.t 13), none⟩, ⟨some 15, .ld true 2 (.t 1), some (14, true)⟩, ⟨some 16, .callq 59 [.c (.int .i64 (-4))], some (14, true)⟩, ⟨some 17, .callq 19 [.t 15, .t 16], some (14, true)⟩, ⟨some 18, .pick (.t 14) (.t 17) (.c (.bool false)), none⟩, ⟨some 19, .mv (.t 18), none⟩, ⟨some 20, .ld true 2 (.t 2), some (19, true)⟩, ⟨some 21, .callq 59 [.c (.int .i64 1)], some (19, true)⟩, ⟨some 22, .callq 19 [.t 20, .t 21], some (19, true)⟩, ⟨some 23, .pick (.t 19) (.t 22) (.c (.bool false)), none⟩, ⟨some 0, .mv (.t 23), none⟩] [0]))
 (.ret))))
theorem C_gaugelaw2_wakes : Codes Go.Proofs.Try.prog F_gaugelaw2_wakes S_gaugelaw2_wakes 24 [0] := ⟨Go.Proofs.Try.f20, Go.Proofs.Try.f20.body.getD .skip, Go.Proofs.Try.func20, by kernel_rfl, by kernel_rfl, by kernel_rfl, by kernel_rfl, by kernel_rfl⟩
def F_gaugeref0_CopyInt : FuncId := 21
/-- gauge / gaugeref0.CopyInt -/
def S_gaugeref0_CopyInt : SC :=
 .seq (.region [⟨some 1, .box false 2 (.t 0), none⟩, ⟨some 2, .alloc true 2 [.bool false, .slice none 0 0], none⟩] [2, 1])
 (.seq (.seq .says (.drawn [0, 1, 2, 3, 4, 5, 6] [⟨some 3, .fa 0 (.t 1), none⟩, ⟨some 4, .ld false 1 (.t 3), none⟩, ⟨some 5, .fa 1 (.t 1), none⟩, ⟨some 6, .ld false 1 (.t 5), none⟩, ⟨some 7, .callq 60 [.t 6], none⟩, ⟨some 8, .build [.bool false, .slice none 0 0] [(0, 1, .t 4), (1, 1, .t 7)], none⟩, ⟨none, .st 2 (.t 2) (.t 8), none⟩] [2]))
 (.ret))
theorem C_gaugeref0_CopyInt : CodesC Go.Proofs.Try.prog F_gaugeref0_CopyInt S_gaugeref0_CopyInt 9 [.c 2 true 2] := ⟨Go.Proofs.Try.f21, Go.Proofs.Try.f21.body.getD .skip, Go.Proofs.Try.func21, by kernel_rfl, by kernel_rfl, by kernel_rfl, by kernel_rfl, by kernel_rfl⟩
def F_gaugeref2_May : FuncId := 23
/-- gauge / gaugeref2.May -/
def S_gaugeref2_May : SC :=
 .seq (.region [⟨some 1, .box false 2 (.t 0), none⟩, ⟨some 2, .mv (.c (.bool false)), none⟩] [1])
 (.seq (.region [⟨some 3, .fa 1 (.t 1), none⟩, ⟨some 4, .ld false 1 (.t 3), none⟩, ⟨some 5, .call 64 [.t 4], none⟩, ⟨some 6, .mv (.t 5), none⟩, ⟨some 7, .fa 1 (.t 1), some (6, true)⟩, ⟨some 8, .ld false 1 (.t 7), some (6, true)⟩, ⟨some 9, .len (.t 8), some (6, true)⟩, ⟨some 10, .bin .gtr (.t 9) (.c (.int .i64 0)), some (6, true)⟩, ⟨some 11, .mv (.t 10), some (6, true)⟩, ⟨some 12, .fa 0 (.t 1), some (11, false)⟩, ⟨some 13, .ld false 1 (.t 12), some (11, false)⟩, ⟨some 14, .un .not (.t 13), some (11, false)⟩, ⟨some 15, .pick (.t 11) (.c (.bool true)) (.t 14), some (6, true)⟩, ⟨some 16, .pick (.t 6) (.t 15) (.c (.bool false)), none⟩, ⟨some 2, .mv (.t 16), none⟩] [2])
 (.ret))
theorem C_gaugeref2_May : Codes Go.Proofs.Try.prog F_gaugeref2_May S_gaugeref2_May 17 [2] := ⟨Go.Proofs.Try.f23, Go.Proofs.Try.f23.body.getD .skip, Go.Proofs.Try.func23, by kernel_rfl, by kernel_rfl, by kernel_rfl, by kernel_rfl, by kernel_rfl⟩
def F_gaugeref2_Gcd : FuncId := 24
/-- gauge / gaugeref2.Gcd -/
def S_gaugeref2_Gcd : SC :=
 .seq (.region [⟨some 2, .box false 2 (.t 0), none⟩, ⟨some 3, .box false 2 (.t 1), none⟩, ⟨some 4, .alloc true 2 [.bool false, .slice none 0 0], none⟩] [4, 3, 2])
 (.seq (.region [⟨some 5, .fa 1 (.t 2), none⟩, ⟨some 6, .ld false 1 (.t 5), none⟩, ⟨some 7, .fa 1 (.t 3), none⟩, ⟨some 8, .ld false 1 (.t 7), none⟩, ⟨some 9, .call 65 [.t 6, .t 8], none⟩, ⟨some 10, .call 43 [.c (.bool false), .t 9], none⟩, ⟨none, .st 2 (.t 4) (.t 10), none⟩] [4])
 (.ret))
theorem C_gaugeref2_Gcd : CodesC Go.Proofs.Try.prog F_gaugeref2_Gcd S_gaugeref2_Gcd 11 [.c 4 true 2] := ⟨Go.Proofs.Try.f24, Go.Proofs.Try.f24.body.getD .skip, Go.Proofs.Try.func24, by kernel_rfl, by kernel_rfl, by kernel_rfl, by kernel_rfl, by kernel_rfl⟩
def F_gaugeref2_Plus : FuncId := 25
/-- gauge / gaugeref2.Plus -/
def S_gaugeref2_Plus : SC :=
 .seq (.region [⟨some 2, .box false 2 (.t 0), none⟩, ⟨some 3, .box false 2 (.t 1), none⟩, ⟨some 4, .alloc true 2 [.bool false, .slice none 0 0], none⟩] [4, 3, 2])
 (.seq (.seq (.region [⟨some 5, .fa 0 (.t 2), none⟩, ⟨some 6, .ld false 1 (.t 5), none⟩, ⟨some 7, .fa 0 (.t 3), none⟩, ⟨some 8, .ld false 1 (.t 7), none⟩, ⟨some 9, .beq false (.t 6) (.t 8), none⟩] [9, 4, 3, 2])
 (.cond (.t 9) (.seq (.seq .says (.drawn [0, 1, 2, 3, 4, 5, 6, 7, 8] [⟨some 10, .fa 0 (.t 2), none⟩, ⟨some 11, .ld false 1 (.t 10), none⟩, ⟨some 12, .fa 1 (.t 2), none⟩, ⟨some 13, .ld false 1 (.t 12), none⟩, ⟨some 14, .fa 1 (.t 3), none⟩, ⟨some 15, .ld false 1 (.t 14), none⟩, ⟨some 16, .callq 66 [.t 13, .t 15], none⟩, ⟨some 17, .callq 43 [.t 11, .t 16], none⟩, ⟨none, .st 2 (.t 4) (.t 17), none⟩] [4]))
 (.ret))
 (.region [] [4, 3, 2])))
 (.seq (.seq (.region [⟨some 18, .fa 1 (.t 2), none⟩, ⟨some 19, .ld false 1 (.t 18), none⟩, ⟨some 20, .fa 1 (.t 3), none⟩, ⟨some 21, .ld false 1 (.t 20), none⟩, ⟨some 22, .call 31 [.t 19, .t 21], none⟩, ⟨some 23, .bin .geq (.t 22) (.c (.int .i64 0)), none⟩] [23, 4, 3, 2])
 (.cond (.t 23) (.seq (.seq .says (.drawn [0, 1, 2, 3, 4, 5, 6, 7, 8] [⟨some 24, .fa 0 (.t 2), none⟩, ⟨some 25, .ld false 1 (.t 24), none⟩, ⟨some 26, .fa 1 (.t 2), none⟩, ⟨some 27, .ld false 1 (.t 26), none⟩, ⟨some 28, .fa 1 (.t 3), none⟩, ⟨some 29, .ld false 1 (.t 28), none⟩, ⟨some 30, .callq 67 [.t 27, .t 29], none⟩, ⟨some 31, .callq 43 [.t 25, .t 30], none⟩, ⟨none, .st 2 (.t 4) (.t 31), none⟩] [4]))
 (.ret))
 (.region [] [4, 3, 2])))
 (.seq (.seq .says (.drawn [0, 1, 2, 3, 4, 5, 6, 7, 8] [⟨some 32, .fa 0 (.t 3), none⟩, ⟨some 33, .ld false 1 (.t 32), none⟩, ⟨some 34, .fa 1 (.t 3), none⟩, ⟨some 35, .ld false 1 (.t 34), none⟩, ⟨some 36, .fa 1 (.t 2), none⟩, ⟨some 37, .ld false 1 (.t 36), none⟩, ⟨some 38, .callq 67 [.t 35, .t 37], none⟩, ⟨some 39, .callq 43 [.t 33, .t 38], none⟩, ⟨none, .st 2 (.t 4) (.t 39), none⟩] [4]))
 (.ret))))
theorem C_gaugeref2_Plus : CodesC Go.Proofs.Try.prog F_gaugeref2_Plus S_gaugeref2_Plus 40 [.c 4 true 2] := ⟨Go.Proofs.Try.f25, Go.Proofs.Try.f25.body.getD .skip, Go.Proofs.Try.func25, by kernel_rfl, by kernel_rfl, by kernel_rfl, by kernel_rfl, by kernel_rfl⟩
def F_gaugeref2_Times : FuncId := 26
/-- gauge / gaugeref2.Times -/
def S_gaugeref2_Times : SC :=
 .seq (.region [⟨some 2, .box false 2 (.t 0), none⟩, ⟨some 3, .box false 2 (.t 1), none⟩, ⟨some 4, .alloc true 2 [.bool false, .slice none 0 0], none⟩] [4, 3, 2])
 (.seq (.seq .says (.drawn [0, 1, 2, 3, 4, 5, 6, 7, 8, 9, 10, 11] [⟨some 5, .fa 0 (.t 2), none⟩, ⟨some 6, .ld false 1 (.t 5), none⟩, ⟨some 7, .fa 0 (.t 3), none⟩, ⟨some 8, .ld false 1 (.t 7), none⟩, ⟨some 9, .beq true (.t 6) (.t 8), none⟩, ⟨some 10, .fa 1 (.t 2), none⟩, ⟨some 11, .ld false 1 (.t 10), none⟩, ⟨some 12, .fa 1 (.t 3), none⟩, ⟨some 13, .ld false 1 (.t 12), none⟩, ⟨some 14, .callq 46 [.t 11, .t 13], none⟩, ⟨some 15, .callq 43 [.t 9, .t 14], none⟩, ⟨none, .st 2 (.t 4) (.t 15), none⟩] [4]))
 (.ret))
theorem C_gaugeref2_Times : CodesC Go.Proofs.Try.prog F_gaugeref2_Times S_gaugeref2_Times 16 [.c 4 true 2] := ⟨Go.Proofs.Try.f26, Go.Proofs.Try.f26.body.getD .skip, Go.Proofs.Try.func26, by kernel_rfl, by kernel_rfl, by kernel_rfl, by kernel_rfl, by kernel_rfl⟩
def F_gaugelaw0_Int : FuncId := 27
/-- gauge / gaugelaw0.Int -/
def S_gaugelaw0_Int : SC :=
 .seq (.region [⟨some 1, .box false 2 (.t 0), none⟩] [1])
 (.region [⟨some 2, .fa 1 (.t 1), none⟩, ⟨some 3, .ld false 1 (.t 2), none⟩, ⟨some 4, .call 68 [.t 3], none⟩] [])
theorem C_gaugelaw0_Int : Codes Go.Proofs.Try.prog F_gaugelaw0_Int S_gaugelaw0_Int 5 [] := ⟨Go.Proofs.Try.f27, Go.Proofs.Try.f27.body.getD .skip, Go.Proofs.Try.func27, by kernel_rfl, by kernel_rfl, by kernel_rfl, by kernel_rfl, by kernel_rfl⟩
def F_whole_Mul : FuncId := 28
/-- gauge / whole.Mul -/
def S_whole_Mul : SC :=
 .seq (.region [⟨some 2, .box false 2 (.t 0), none⟩, ⟨some 3, .box false 2 (.t 1), none⟩, ⟨some 4, .alloc true 2 [.bool false, .slice none 0 0], none⟩, ⟨some 5, .mv (.c (.int .i64 0)), none⟩] [4, 3, 2])
 (.seq (.region [⟨some 6, .ld true 2 (.t 2), none⟩, ⟨some 7, .ld true 2 (.t 3), none⟩, ⟨some 8, .call 69 [.c (.int .i64 2), .t 6, .t 7], none⟩, ⟨some 9, .ext (.t 8) 0, none⟩, ⟨some 10, .ext (.t 8) 1, none⟩, ⟨none, .st 2 (.t 4) (.t 9), none⟩, ⟨some 5, .mv (.t 10), none⟩] [5, 4])
 (.ret))
theorem C_whole_Mul : CodesC Go.Proofs.Try.prog F_whole_Mul S_whole_Mul 11 [.c 4 true 2, .t 5] := ⟨Go.Proofs.Try.f28, Go.Proofs.Try.f28.body.getD .skip, Go.Proofs.Try.func28, by kernel_rfl, by kernel_rfl, by kernel_rfl, by kernel_rfl, by kernel_rfl⟩
def F_whole_Add : FuncId := 29
/-- gauge / whole.Add -/
def S_whole_Add : SC :=
 .seq (.region [⟨some 2, .box false 2 (.t 0), none⟩, ⟨some 3, .box false 2 (.t 1), none⟩, ⟨some 4, .alloc true 2 [.bool false, .slice none 0 0], none⟩, ⟨some 5, .mv (.c (.int .i64 0)), none⟩] [4, 3, 2])
 (.seq (.region [⟨some 6, .ld true 2 (.t 2), none⟩, ⟨some 7, .ld true 2 (.t 3), none⟩, ⟨some 8, .call 69 [.c (.int .i64 0), .t 6, .t 7], none⟩, ⟨some 9, .ext (.t 8) 0, none⟩, ⟨some 10, .ext (.t 8) 1, none⟩, ⟨none, .st 2 (.t 4) (.t 9), none⟩, ⟨some 5, .mv (.t 10), none⟩] [5, 4])
 (.ret))
theorem C_whole_Add : CodesC Go.Proofs.Try.prog F_whole_Add S_whole_Add 11 [.c 4 true 2, .t 5] := ⟨Go.Proofs.Try.f29, Go.Proofs.Try.f29.body.getD .skip, Go.Proofs.Try.func29, by kernel_rfl, by kernel_rfl, by kernel_rfl, by kernel_rfl, by kernel_rfl⟩
def F_whole_Sign : FuncId := 30
/-- gauge / whole.Sign -/
def S_whole_Sign : SC :=
 .seq (.region [⟨some 1, .box false 2 (.t 0), none⟩, ⟨some 2, .mv (.c (.int .i64 0)), none⟩] [1])
 (.seq (.block 0 [] (.seq (.region [⟨some 4, .ld true 2 (.t 1), none⟩, ⟨some 5, .call 55 [.t 4], none⟩, ⟨some 6, .un .not (.t 5), none⟩, ⟨some 7, .mv (.t 6), none⟩, ⟨some 8, .fa 1 (.t 1), some (7, false)⟩, ⟨some 9, .ld false 1 (.t 8), some (7, false)⟩, ⟨some 10, .len (.t 9), some (7, false)⟩, ⟨some 11, .bin .eql (.t 10) (.c (.int .i64 0)), some (7, false)⟩, ⟨some 12, .pick (.t 7) (.c (.bool true)) (.t 11), none⟩, ⟨some 3, .mv (.t 12), none⟩] [3, 1])
 (.cond (.t 3) (.seq (.region [⟨some 2, .mv (.c (.int .i64 0)), none⟩] [2])
 (.ret))
 (.seq (.region [⟨some 14, .fa 0 (.t 1), none⟩, ⟨some 15, .ld false 1 (.t 14), none⟩, ⟨some 13, .mv (.t 15), none⟩] [13])
 (.cond (.t 13) (.seq (.region [⟨some 2, .mv (.c (.int .i64 (-1))), none⟩] [2])
 (.ret))
 (.region [] []))))))
 (.seq (.region [⟨some 2, .mv (.c (.int .i64 1)), none⟩] [2])
 (.ret)))
theorem C_whole_Sign : Codes Go.Proofs.Try.prog F_whole_Sign S_whole_Sign 16 [2] := ⟨Go.Proofs.Try.f30, Go.Proofs.Try.f30.body.getD .skip, Go.Proofs.Try.func30, by kernel_rfl, by kernel_rfl, by kernel_rfl, by kernel_rfl, by kernel_rfl⟩
def F_gaugeref1_Cmp : FuncId := 31
/-- gauge / gaugeref1.Cmp -/
def S_gaugeref1_Cmp : SC :=
 .seq (.region [⟨some 4, .mv (.c (.int .i64 0)), none⟩] [1, 0])
 (.seq (.seq (.region [⟨some 6, .mv (.t 0), none⟩, ⟨some 7, .len (.t 6), none⟩, ⟨some 8, .mv (.t 1), none⟩, ⟨some 9, .len (.t 8), none⟩, ⟨some 10, .bin .neq (.t 7) (.t 9), none⟩] [10, 1, 0])
 (.cond (.t 10) (.seq (.seq (.region [⟨some 11, .mv (.t 0), none⟩, ⟨some 12, .len (.t 11), none⟩, ⟨some 13, .mv (.t 1), none⟩, ⟨some 14, .len (.t 13), none⟩, ⟨some 15, .bin .lss (.t 12) (.t 14), none⟩] [15])
 (.cond (.t 15) (.seq (.region [⟨some 4, .mv (.c (.int .i64 (-1))), none⟩] [4])
 (.ret))
 (.region [] [])))
 (.seq (.region [⟨some 4, .mv (.c (.int .i64 1)), none⟩] [4])
 (.ret)))
 (.region [] [1, 0])))
 (.seq (.seq (.region [⟨some 16, .mv (.t 0), none⟩, ⟨some 17, .len (.t 16), none⟩, ⟨some 18, .bin .sub (.t 17) (.c (.int .i64 1)), none⟩, ⟨some 5, .mv (.t 18), none⟩] [5, 1, 0])
 (.block 0 [] (.loop [5, 1, 0] (.seq (.seq (.region [⟨some 19, .mv (.t 5), none⟩, ⟨some 20, .bin .geq (.t 19) (.c (.int .i64 0)), none⟩] [20, 5, 1, 0])
 (.cond (.t 20) (.region [] [5, 1, 0])
 (.exit 0)))
 (.seq (.block 1 [5, 1, 0] (.seq (.seq (.drawn [0, 1, 2, 3, 4, 5, 6, 7, 8] [⟨some 23, .mv (.t 0), none⟩, ⟨some 24, .mv (.t 5), none⟩, ⟨some 25, .ix 1 (.t 23) (.t 24), none⟩, ⟨some 26, .ld false 1 (.t 25), none⟩, ⟨some 27, .mv (.t 1), none⟩, ⟨some 28, .mv (.t 5), none⟩, ⟨some 29, .ix 1 (.t 27) (.t 28), none⟩, ⟨some 30, .ld false 1 (.t 29), none⟩, ⟨some 31, .bin .lss (.t 26) (.t 30), none⟩] [31, 5, 1, 0])
 (.cond (.t 31) (.seq (.region [⟨some 4, .mv (.c (.int .i64 (-1))), none⟩] [4])
 (.ret))
 (.region [] [5, 1, 0])))
 (.seq (.drawn [0, 1, 2, 3, 4, 5, 6, 7, 8] [⟨some 32, .mv (.t 0), none⟩, ⟨some 33, .mv (.t 5), none⟩, ⟨some 34, .ix 1 (.t 32) (.t 33), none⟩, ⟨some 35, .ld false 1 (.t 34), none⟩, ⟨some 36, .mv (.t 1), none⟩, ⟨some 37, .mv (.t 5), none⟩, ⟨some 38, .ix 1 (.t 36) (.t 37), none⟩, ⟨some 39, .ld false 1 (.t 38), none⟩, ⟨some 40, .bin .gtr (.t 35) (.t 39), none⟩] [40, 5, 1, 0])
 (.cond (.t 40) (.seq (.region [⟨some 4, .mv (.c (.int .i64 1)), none⟩] [4])
 (.ret))
 (.region [] [5, 1, 0])))))
 (.region [⟨some 21, .mv (.t 5), none⟩, ⟨some 22, .bin .sub (.t 21) (.c (.int .i64 1)), none⟩, ⟨some 5, .mv (.t 22), none⟩] [5, 1, 0]))))))
 (.seq (.region [⟨some 4, .mv (.c (.int .i64 0)), none⟩] [4])
 (.ret))))
theorem C_gaugeref1_Cmp : Codes Go.Proofs.Try.prog F_gaugeref1_Cmp S_gaugeref1_Cmp 41 [4] := ⟨Go.Proofs.Try.f31, Go.Proofs.Try.f31.body.getD .skip, Go.Proofs.Try.func31, by kernel_rfl, by kernel_rfl, by kernel_rfl, by kernel_rfl, by kernel_rfl⟩
def F_whole_Small : FuncId := 32
/-- gauge / whole.Small -/
def S_whole_Small : SC :=
 .seq (.region [⟨some 1, .box false 2 (.t 0), none⟩, ⟨some 2, .mv (.c (.int .i64 0)), none⟩, ⟨some 3, .mv (.c (.bool false)), none⟩] [1])
 (.seq (.region [⟨some 7, .fa 1 (.t 1), none⟩, ⟨some 8, .ld false 1 (.t 7), none⟩, ⟨some 9, .call 70 [.t 8], none⟩, ⟨some 6, .mv (.t 9), none⟩, ⟨some 10, .ext (.t 6) 0, none⟩, ⟨some 11, .ext (.t 6) 1, none⟩, ⟨some 4, .mv (.t 10), none⟩, ⟨some 5, .mv (.t 11), none⟩] [5, 4, 1])
 (.seq (.block 0 [] (.seq (.region [⟨some 13, .ld true 2 (.t 1), none⟩, ⟨some 14, .call 55 [.t 13], none⟩, ⟨some 15, .un .not (.t 14), none⟩, ⟨some 16, .mv (.t 15), none⟩, ⟨some 17, .mv (.t 5), some (16, false)⟩, ⟨some 18, .un .not (.t 17), some (16, false)⟩, ⟨some 19, .pick (.t 16) (.c (.bool true)) (.t 18), none⟩, ⟨some 12, .mv (.t 19), none⟩] [12, 4, 1])
 (.cond (.t 12) (.seq (.region [⟨some 2, .mv (.c (.int .i64 0)), none⟩, ⟨some 3, .mv (.c (.bool false)), none⟩] [3, 2])
 (.ret))
 (.seq (.region [⟨some 21, .fa 0 (.t 1), none⟩, ⟨some 22, .ld false 1 (.t 21), none⟩, ⟨some 23, .mv (.t 22), none⟩, ⟨some 24, .mv (.t 4), some (23, true)⟩, ⟨some 25, .bin .leq (.t 24) (.c (.int .u64 9223372036854775808)), some (23, true)⟩, ⟨some 26, .pick (.t 23) (.t 25) (.c (.bool false)), none⟩, ⟨some 20, .mv (.t 26), none⟩] [20, 4, 1])
 (.cond (.t 20) (.seq (.region [⟨some 27, .mv (.t 4), none⟩, ⟨some 28, .un .neg (.t 27), none⟩, ⟨some 29, .conv .i64 (.t 28), none⟩, ⟨some 2, .mv (.t 29), none⟩, ⟨some 3, .mv (.c (.bool true)), none⟩] [3, 2])
 (.ret))
 (.seq (.region [⟨some 31, .fa 0 (.t 1), none⟩, ⟨some 32, .ld false 1 (.t 31), none⟩, ⟨some 33, .un .not (.t 32), none⟩, ⟨some 34, .mv (.t 33), none⟩, ⟨some 35, .mv (.t 4), some (34, true)⟩, ⟨some 36, .bin .leq (.t 35) (.c (.int .u64 9223372036854775807)), some (34, true)⟩, ⟨some 37, .pick (.t 34) (.t 36) (.c (.bool false)), none⟩, ⟨some 30, .mv (.t 37), none⟩] [30, 4])
 (.cond (.t 30) (.seq (.region [⟨some 38, .mv (.t 4), none⟩, ⟨some 39, .conv .i64 (.t 38), none⟩, ⟨some 2, .mv (.t 39), none⟩, ⟨some 3, .mv (.c (.bool true)), none⟩] [3, 2])
 (.ret))
 (.region [] []))))))))
 (.seq (.region [⟨some 2, .mv (.c (.int .i64 0)), none⟩, ⟨some 3, .mv (.c (.bool false)), none⟩] [3, 2])
 (.ret))))
theorem C_whole_Small : Codes Go.Proofs.Try.prog F_whole_Small S_whole_Small 40 [2, 3] := ⟨Go.Proofs.Try.f32, Go.Proofs.Try.f32.body.getD .skip, Go.Proofs.Try.func32, by kernel_rfl, by kernel_rfl, by kernel_rfl, by kernel_rfl, by kernel_rfl⟩
def F_whole_From : FuncId := 33
/-- gauge / whole.From -/
def S_whole_From : SC :=
 .seq (.region [⟨some 2, .alloc true 2 [.bool false, .slice none 0 0], none⟩] [2, 0])
 (.seq (.seq (.region [⟨some 3, .mv (.t 0), none⟩, ⟨some 4, .bin .lss (.t 3) (.c (.int .i64 0)), none⟩] [4, 2, 0])
 (.cond (.t 4) (.seq (.region [⟨some 5, .mv (.t 0), none⟩, ⟨some 6, .conv .u64 (.t 5), none⟩, ⟨some 7, .un .neg (.t 6), none⟩, ⟨some 8, .call 71 [.t 7], none⟩, ⟨some 9, .build [.bool false, .slice none 0 0] [(0, 1, .c (.bool true)), (1, 1, .t 8)], none⟩, ⟨none, .st 2 (.t 2) (.t 9), none⟩] [2])
 (.ret))
 (.region [] [2, 0])))
 (.seq (.region [⟨some 10, .mv (.t 0), none⟩, ⟨some 11, .conv .u64 (.t 10), none⟩, ⟨some 12, .call 71 [.t 11], none⟩, ⟨some 13, .build [.bool false, .slice none 0 0] [(1, 1, .t 12)], none⟩, ⟨none, .st 2 (.t 2) (.t 13), none⟩] [2])
 (.ret)))
theorem C_whole_From : CodesC Go.Proofs.Try.prog F_whole_From S_whole_From 14 [.c 2 true 2] := ⟨Go.Proofs.Try.f33, Go.Proofs.Try.f33.body.getD .skip, Go.Proofs.Try.func33, by kernel_rfl, by kernel_rfl, by kernel_rfl, by kernel_rfl, by kernel_rfl⟩
def F_gaugelaw2_sums : FuncId := 34
/-- gauge / gaugelaw2.sums -/
def S_gaugelaw2_sums : SC :=
 .seq (.region [⟨some 2, .box false 2 (.t 0), none⟩, ⟨some 3, .box false 2 (.t 1), none⟩, ⟨some 4, .mv (.c (.bool false)), none⟩] [3, 2])
 (.seq (.region [⟨some 18, .ld true 2 (.t 2), none⟩, ⟨some 19, .ld true 2 (.t 3), none⟩, ⟨some 20, .call 29 [.t 18, .t 19], none⟩, ⟨some 17, .mv (.t 20), none⟩, ⟨some 21, .ext (.t 17) 0, none⟩, ⟨some 22, .ext (.t 17) 1, none⟩, ⟨some 5, .alloc true 2 [.bool false, .slice none 0 0], none⟩, ⟨none, .st 2 (.t 5) (.t 21), none⟩, ⟨some 6, .mv (.t 22), none⟩] [6, 5, 3, 2])
 (.seq .says (.seq (.region [⟨some 24, .ld true 2 (.t 2), none⟩, ⟨some 25, .ld true 2 (.t 3), none⟩, ⟨some 26, .call 72 [.t 24, .t 25], none⟩, ⟨some 23, .mv (.t 26), none⟩, ⟨some 27, .ext (.t 23) 0, none⟩, ⟨some 28, .ext (.t 23) 1, none⟩, ⟨some 7, .alloc true 2 [.bool false, .slice none 0 0], none⟩, ⟨none, .st 2 (.t 7) (.t 27), none⟩, ⟨some 8, .mv (.t 28), none⟩] [8, 7, 6, 5, 3, 2])
 (.seq .says (.seq (.region [⟨some 30, .ld true 2 (.t 2), none⟩, ⟨some 31, .ld true 2 (.t 3), none⟩, ⟨some 32, .call 28 [.t 30, .t 31], none⟩, ⟨some 29, .mv (.t 32), none⟩, ⟨some 33, .ext (.t 29) 0, none⟩, ⟨some 34, .ext (.t 29) 1, none⟩, ⟨some 9, .alloc true 2 [.bool false, .slice none 0 0], none⟩, ⟨none, .st 2 (.t 9) (.t 33), none⟩, ⟨some 10, .mv (.t 34), none⟩] [10, 9, 8, 7, 6, 5, 3, 2])
 (.seq .says (.seq (.region [⟨some 36, .ld true 2 (.t 2), none⟩, ⟨some 37, .ld true 2 (.t 3), none⟩, ⟨some 38, .call 14 [.t 36, .t 37], none⟩, ⟨some 35, .mv (.t 38), none⟩, ⟨some 39, .ext (.t 35) 0, none⟩, ⟨some 40, .ext (.t 35) 1, none⟩, ⟨some 41, .ext (.t 35) 2, none⟩, ⟨some 11, .alloc true 2 [.bool false, .slice none 0 0], none⟩, ⟨some 12, .alloc true 2 [.bool false, .slice none 0 0], none⟩, ⟨none, .st 2 (.t 11) (.t 39), none⟩, ⟨none, .st 2 (.t 12) (.t 40), none⟩, ⟨some 13, .mv (.t 41), none⟩] [13, 12, 11, 10, 9, 8, 7, 6, 5, 3, 2])
 (.seq .says (.seq (.seq (.region [⟨some 42, .ld true 2 (.t 2), none⟩, ⟨some 43, .call 23 [.t 42], none⟩, ⟨some 44, .un .not (.t 43), none⟩, ⟨some 45, .mv (.t 44), none⟩, ⟨some 46, .ld true 2 (.t 3), some (45, false)⟩, ⟨some 47, .call 23 [.t 46], some (45, false)⟩, ⟨some 48, .un .not (.t 47), some (45, false)⟩, ⟨some 49, .pick (.t 45) (.c (.bool true)) (.t 48), none⟩] [49, 13, 12, 11, 10, 9, 8, 7, 6, 5, 3, 2])
 (.cond (.t 49) (.seq (.region [⟨some 14, .mv (.c (.int .i64 20)), none⟩] [14, 13, 12, 11, 10, 9, 8, 7, 6, 5, 2])
 (.seq (.region [⟨some 50, .ld true 2 (.t 5), none⟩, ⟨some 51, .mv (.t 6), none⟩, ⟨some 52, .ld true 2 (.t 2), none⟩, ⟨some 53, .mv (.t 14), none⟩, ⟨some 54, .call 73 [.t 50, .t 51, .t 52, .t 53], none⟩, ⟨some 55, .mv (.t 54), none⟩, ⟨some 56, .ld true 2 (.t 7), some (55, true)⟩, ⟨some 57, .mv (.t 8), some (55, true)⟩, ⟨some 58, .ld true 2 (.t 2), some (55, true)⟩, ⟨some 59, .mv (.t 14), some (55, true)⟩, ⟨some 60, .call 73 [.t 56, .t 57, .t 58, .t 59], some (55, true)⟩, ⟨some 61, .pick (.t 55) (.t 60) (.c (.bool false)), none⟩, ⟨some 62, .mv (.t 61), none⟩, ⟨some 63, .ld true 2 (.t 9), some (62, true)⟩, ⟨some 64, .mv (.t 10), some (62, true)⟩, ⟨some 65, .ld true 2 (.t 2), some (62, true)⟩, ⟨some 66, .mv (.t 14), some (62, true)⟩, ⟨some 67, .call 73 [.t 63, .t 64, .t 65, .t 66], some (62, true)⟩, ⟨some 68, .pick (.t 62) (.t 67) (.c (.bool false)), none⟩, ⟨some 69, .mv (.t 68), none⟩, ⟨some 70, .ld true 2 (.t 11), some (69, true)⟩, ⟨some 71, .mv (.t 13), some (69, true)⟩, ⟨some 72, .ld true 2 (.t 2), some (69, true)⟩, ⟨some 73, .mv (.t 14), some (69, true)⟩, ⟨some 74, .call 73 [.t 70, .t 71, .t 72, .t 73], some (69, true)⟩, ⟨some 75, .pick (.t 69) (.t 74) (.c (.bool false)), none⟩, ⟨some 76, .mv (.t 75), none⟩, ⟨some 77, .ld true 2 (.t 12), some (76, true)⟩, ⟨some 78, .mv (.t 13), some (76, true)⟩, ⟨some 79, .ld true 2 (.t 2), some (76, true)⟩, ⟨some 80, .mv (.t 14), some (76, true)⟩, ⟨some 81, .call 73 [.t 77, .t 78, .t 79, .t 80], some (76, true)⟩, ⟨some 82, .pick (.t 76) (.t 81) (.c (.bool false)), none⟩, ⟨some 4, .mv (.t 82), none⟩] [4])
 (.ret)))
 (.region [] [13, 12, 11, 10, 9, 8, 7, 6, 5, 3, 2])))
 (.seq (.seq (.seq .says (.drawn [0, 1, 2, 3, 4, 5, 6, 7, 8, 9, 10, 11, 12, 13, 14, 15, 16, 17, 18, 19, 20, 21, 22, 23, 24] [⟨some 83, .ld true 2 (.t 5), none⟩, ⟨some 84, .mv (.t 6), none⟩, ⟨some 85, .ld true 2 (.t 2), none⟩, ⟨some 86, .ld true 2 (.t 3), none⟩, ⟨some 87, .callq 25 [.t 85, .t 86], none⟩, ⟨some 88, .callq 73 [.t 83, .t 84, .t 87, .c (.int .i64 0)], none⟩, ⟨some 89, .un .not (.t 88), none⟩, ⟨some 90, .mv (.t 89), none⟩, ⟨some 91, .ld true 2 (.t 7), some (90, false)⟩, ⟨some 92, .mv (.t 8), some (90, false)⟩, ⟨some 93, .ld true 2 (.t 2), some (90, false)⟩, ⟨some 94, .ld true 2 (.t 3), some (90, false)⟩, ⟨some 95, .callq 74 [.t 93, .t 94], some (90, false)⟩, ⟨some 96, .callq 73 [.t 91, .t 92, .t 95, .c (.int .i64 0)], some (90, false)⟩, ⟨some 97, .un .not (.t 96), some (90, false)⟩, ⟨some 98, .pick (.t 90) (.c (.bool true)) (.t 97), none⟩, ⟨some 99, .mv (.t 98), none⟩, ⟨some 100, .ld true 2 (.t 9), some (99, false)⟩, ⟨some 101, .mv (.t 10), some (99, false)⟩, ⟨some 102, .ld true 2 (.t 2), some (99, false)⟩, ⟨some 103, .ld true 2 (.t 3), some (99, false)⟩, ⟨some 104, .callq 26 [.t 102, .t 103], some (99, false)⟩, ⟨some 105, .callq 73 [.t 100, .t 101, .t 104, .c (.int .i64 0)], some (99, false)⟩, ⟨some 106, .un .not (.t 105), some (99, false)⟩, ⟨some 107, .pick (.t 99) (.c (.bool true)) (.t 106), none⟩] [107, 13, 12, 11, 3, 2]))
 (.cond (.t 107) (.seq (.region [⟨some 4, .mv (.c (.bool false)), none⟩] [4])
 (.ret))
 (.region [] [13, 12, 11, 3, 2])))
 (.seq (.seq (.region [⟨some 108, .ld true 2 (.t 3), none⟩, ⟨some 109, .call 13 [.t 108], none⟩] [109, 13, 12, 11, 3, 2])
 (.cond (.t 109) (.seq (.region [⟨some 110, .ld true 2 (.t 11), none⟩, ⟨some 111, .mv (.t 13), none⟩, ⟨some 112, .ld true 2 (.t 2), none⟩, ⟨some 113, .call 73 [.t 110, .t 111, .t 112, .c (.int .i64 21)], none⟩, ⟨some 114, .mv (.t 113), none⟩, ⟨some 115, .ld true 2 (.t 12), some (114, true)⟩, ⟨some 116, .mv (.t 13), some (114, true)⟩, ⟨some 117, .ld true 2 (.t 2), some (114, true)⟩, ⟨some 118, .call 73 [.t 115, .t 116, .t 117, .c (.int .i64 21)], some (114, true)⟩, ⟨some 119, .pick (.t 114) (.t 118) (.c (.bool false)), none⟩, ⟨some 4, .mv (.t 119), none⟩] [4])
 (.ret))
 (.region [] [13, 12, 11, 3, 2])))
 (.seq (.region [⟨some 121, .ld true 2 (.t 2), none⟩, ⟨some 122, .ld true 2 (.t 3), none⟩, ⟨some 123, .call 75 [.t 121, .t 122], none⟩, ⟨some 120, .mv (.t 123), none⟩, ⟨some 124, .ext (.t 120) 0, none⟩, ⟨some 125, .ext (.t 120) 1, none⟩, ⟨some 15, .alloc true 2 [.bool false, .slice none 0 0], none⟩, ⟨some 16, .alloc true 2 [.bool false, .slice none 0 0], none⟩, ⟨none, .st 2 (.t 15) (.t 124), none⟩, ⟨none, .st 2 (.t 16) (.t 125), none⟩] [16, 15, 13, 12, 11])
 (.seq .says (.seq (.region [⟨some 126, .ld true 2 (.t 11), none⟩, ⟨some 127, .mv (.t 13), none⟩, ⟨some 128, .ld true 2 (.t 15), none⟩, ⟨some 129, .call 73 [.t 126, .t 127, .t 128, .c (.int .i64 0)], none⟩, ⟨some 130, .mv (.t 129), none⟩, ⟨some 131, .ld true 2 (.t 12), some (130, true)⟩, ⟨some 132, .mv (.t 13), some (130, true)⟩, ⟨some 133, .ld true 2 (.t 16), some (130, true)⟩, ⟨some 134, .call 73 [.t 131, .t 132, .t 133, .c (.int .i64 0)], some (130, true)⟩, ⟨some 135, .pick (.t 130) (.t 134) (.c (.bool false)), none⟩, ⟨some 4, .mv (.t 135), none⟩] [4])
 (.ret)))))))))))))))
theorem C_gaugelaw2_sums : Codes Go.Proofs.Try.prog F_gaugelaw2_sums S_gaugelaw2_sums 136 [4] := ⟨Go.Proofs.Try.f34, Go.Proofs.Try.f34.body.getD .skip, Go.Proofs.Try.func34, by kernel_rfl, by kernel_rfl, by kernel_rfl, by kernel_rfl, by kernel_rfl⟩
def F_gaugelaw2_looks : FuncId := 35
def S_gaugelaw2_looks_j1 : SC :=
 .seq (.seq .says (.drawn [0, 1, 2, 3, 4] [⟨some 80, .ld true 2 (.t 8), none⟩, ⟨some 81, .ld true 2 (.t 3), none⟩, ⟨some 82, .callq 81 [.t 81], none⟩, ⟨some 83, .callq 19 [.t 80, .t 82], none⟩, ⟨some 15, .mv (.t 83), none⟩] [15, 14, 13, 12, 11, 10, 9, 8, 4, 3]))
 (.seq (.region [⟨some 84, .ld true 2 (.t 8), none⟩, ⟨some 85, .call 27 [.t 84], none⟩] [15, 14, 13, 12, 11, 10, 9, 4, 3])
 (.seq (.seq .says (.drawn [0, 1, 2, 3, 4, 5, 6, 7, 8, 9, 10, 11, 12, 13, 14, 15, 16, 17, 18, 19, 20, 21, 22, 23, 24, 25, 26, 27, 28, 29, 30, 31, 32, 33, 34, 35, 36, 37, 38, 39, 40, 41] [⟨some 86, .mv (.t 11), none⟩, ⟨some 87, .mv (.t 86), none⟩, ⟨some 88, .mv (.t 15), some (87, true)⟩, ⟨some 89, .pick (.t 87) (.t 88) (.c (.bool false)), none⟩, ⟨some 90, .mv (.t 89), none⟩, ⟨some 91, .mv (.t 9), some (90, true)⟩, ⟨some 92, .mv (.t 12), some (90, true)⟩, ⟨some 93, .bin .eql (.t 91) (.t 92), some (90, true)⟩, ⟨some 94, .pick (.t 90) (.t 93) (.c (.bool false)), none⟩, ⟨some 95, .mv (.t 94), none⟩, ⟨some 96, .mv (.t 10), some (95, true)⟩, ⟨some 97, .mv (.t 13), some (95, true)⟩, ⟨some 98, .beq false (.t 96) (.t 97), some (95, true)⟩, ⟨some 99, .pick (.t 95) (.t 98) (.c (.bool false)), none⟩, ⟨some 100, .mv (.t 99), none⟩, ⟨some 101, .ld true 2 (.t 3), some (100, true)⟩, ⟨some 102, .callq 30 [.t 101], some (100, true)⟩, ⟨some 103, .ld true 2 (.t 3), some (100, true)⟩, ⟨some 104, .callq 82 [.t 103], some (100, true)⟩, ⟨some 105, .bin .eql (.t 102) (.t 104), some (100, true)⟩, ⟨some 106, .pick (.t 100) (.t 105) (.c (.bool false)), none⟩, ⟨some 107, .mv (.t 106), none⟩, ⟨some 108, .ld true 2 (.t 3), some (107, true)⟩, ⟨some 109, .callq 76 [.t 108], some (107, true)⟩, ⟨some 110, .ld true 2 (.t 3), some (107, true)⟩, ⟨some 111, .callq 83 [.t 110], some (107, true)⟩, ⟨some 112, .bin .eql (.t 109) (.t 111), some (107, true)⟩, ⟨some 113, .pick (.t 107) (.t 112) (.c (.bool false)), none⟩, ⟨some 114, .mv (.t 113), none⟩, ⟨some 115, .ld true 2 (.t 3), some (114, true)⟩, ⟨some 116, .ld true 2 (.t 4), some (114, true)⟩, ⟨some 117, .callq 77 [.t 115, .t 116], some (114, true)⟩, ⟨some 118, .mv (.t 14), some (114, true)⟩, ⟨some 119, .bin .eql (.t 117) (.t 118), some (114, true)⟩, ⟨some 120, .pick (.t 114) (.t 119) (.c (.bool false)), none⟩, ⟨some 121, .mv (.t 120), none⟩, ⟨some 122, .ld true 2 (.t 3), some (121, true)⟩, ⟨some 123, .callq 78 [.t 122], some (121, true)⟩, ⟨some 124, .callq 18 [.t 123], some (121, true)⟩, ⟨some 125, .bin .eql (.t 124) (.c (.int .i64 0)), some (121, true)⟩, ⟨some 126, .pick (.t 121) (.t 125) (.c (.bool false)), none⟩, ⟨some 6, .mv (.t 126), none⟩] [6]))
 (.ret)))
/-- gauge / gaugelaw2.looks -/
def S_gaugelaw2_looks : SC :=
 .seq (.region [⟨some 3, .box false 2 (.t 0), none⟩, ⟨some 4, .box false 2 (.t 1), none⟩, ⟨some 6, .mv (.c (.bool false)), none⟩] [4, 3, 2])
 (.seq (.region [⟨some 16, .mv (.t 2), none⟩, ⟨some 17, .call 33 [.t 16], none⟩, ⟨some 7, .alloc true 2 [.bool false, .slice none 0 0], none⟩, ⟨none, .st 2 (.t 7) (.t 17), none⟩] [7, 4, 3, 2])
 (.seq .says (.seq (.region [⟨some 18, .ld true 2 (.t 3), none⟩, ⟨some 19, .call 17 [.t 18], none⟩, ⟨some 8, .alloc true 2 [.bool false, .slice none 0 0], none⟩, ⟨none, .st 2 (.t 8) (.t 19), none⟩] [8, 7, 4, 3, 2])
 (.seq .says (.seq (.region [⟨some 21, .ld true 2 (.t 3), none⟩, ⟨some 22, .call 32 [.t 21], none⟩, ⟨some 20, .mv (.t 22), none⟩, ⟨some 23, .ext (.t 20) 0, none⟩, ⟨some 24, .ext (.t 20) 1, none⟩, ⟨some 9, .mv (.t 23), none⟩, ⟨some 10, .mv (.t 24), none⟩] [10, 9, 8, 7, 4, 3, 2])
 (.seq (.seq .says (.drawn [0, 1, 2, 3, 4] [⟨some 25, .ld true 2 (.t 7), none⟩, ⟨some 26, .mv (.t 2), none⟩, ⟨some 27, .callq 59 [.t 26], none⟩, ⟨some 28, .callq 19 [.t 25, .t 27], none⟩, ⟨some 11, .mv (.t 28), none⟩] [11, 10, 9, 8, 7, 4, 3]))
 (.seq (.region [⟨some 29, .ld true 2 (.t 7), none⟩, ⟨some 30, .call 27 [.t 29], none⟩] [11, 10, 9, 8, 4, 3])
 (.seq (.seq (.region [⟨some 31, .ld true 2 (.t 3), none⟩, ⟨some 32, .call 23 [.t 31], none⟩, ⟨some 33, .un .not (.t 32), none⟩] [33, 11, 10, 9, 8, 4, 3])
 (.cond (.t 33) (.seq (.region [⟨some 34, .mv (.t 11), none⟩, ⟨some 35, .mv (.t 34), none⟩, ⟨some 36, .ld true 2 (.t 8), some (35, true)⟩, ⟨some 37, .build [.bool false, .slice none 0 0] [], some (35, true)⟩, ⟨some 38, .call 19 [.t 36, .t 37], some (35, true)⟩, ⟨some 39, .pick (.t 35) (.t 38) (.c (.bool false)), none⟩, ⟨some 40, .mv (.t 39), none⟩, ⟨some 41, .mv (.t 9), some (40, true)⟩, ⟨some 42, .bin .eql (.t 41) (.c (.int .i64 0)), some (40, true)⟩, ⟨some 43, .pick (.t 40) (.t 42) (.c (.bool false)), none⟩, ⟨some 44, .mv (.t 43), none⟩, ⟨some 45, .mv (.t 10), some (44, true)⟩, ⟨some 46, .un .not (.t 45), some (44, true)⟩, ⟨some 47, .pick (.t 44) (.t 46) (.c (.bool false)), none⟩, ⟨some 48, .mv (.t 47), none⟩, ⟨some 49, .ld true 2 (.t 3), some (48, true)⟩, ⟨some 50, .call 30 [.t 49], some (48, true)⟩, ⟨some 51, .bin .eql (.t 50) (.c (.int .i64 0)), some (48, true)⟩, ⟨some 52, .pick (.t 48) (.t 51) (.c (.bool false)), none⟩, ⟨some 53, .mv (.t 52), none⟩, ⟨some 54, .ld true 2 (.t 3), some (53, true)⟩, ⟨some 55, .call 76 [.t 54], some (53, true)⟩, ⟨some 56, .bin .eql (.t 55) (.c (.string ⟨#[]⟩)), some (53, true)⟩, ⟨some 57, .pick (.t 53) (.t 56) (.c (.bool false)), none⟩, ⟨some 58, .mv (.t 57), none⟩, ⟨some 59, .ld true 2 (.t 3), some (58, true)⟩, ⟨some 60, .ld true 2 (.t 4), some (58, true)⟩, ⟨some 61, .call 77 [.t 59, .t 60], some (58, true)⟩, ⟨some 62, .bin .eql (.t 61) (.c (.int .i64 0)), some (58, true)⟩, ⟨some 63, .pick (.t 58) (.t 62) (.c (.bool false)), none⟩, ⟨some 64, .mv (.t 63), none⟩, ⟨some 65, .ld true 2 (.t 3), some (64, true)⟩, ⟨some 66, .call 78 [.t 65], some (64, true)⟩, ⟨some 67, .call 18 [.t 66], some (64, true)⟩, ⟨some 68, .bin .eql (.t 67) (.c (.int .i64 20)), some (64, true)⟩, ⟨some 69, .pick (.t 64) (.t 68) (.c (.bool false)), none⟩, ⟨some 6, .mv (.t 69), none⟩] [6])
 (.ret))
 (.region [] [11, 10, 9, 8, 4, 3])))
 (.seq (.region [⟨some 71, .ld true 2 (.t 3), none⟩, ⟨some 72, .call 79 [.t 71], none⟩, ⟨some 70, .mv (.t 72), none⟩, ⟨some 73, .ext (.t 70) 0, none⟩, ⟨some 74, .ext (.t 70) 1, none⟩, ⟨some 12, .mv (.t 73), none⟩, ⟨some 13, .mv (.t 74), none⟩] [13, 12, 11, 10, 9, 8, 4, 3])
 (.seq (.region [⟨some 14, .mv (.c (.int .i64 0)), none⟩] [14, 13, 12, 11, 10, 9, 8, 4, 3])
 (.seq (.seq (.region [⟨some 75, .ld true 2 (.t 4), none⟩, ⟨some 76, .call 23 [.t 75], none⟩] [76, 14, 13, 12, 11, 10, 9, 8, 4, 3])
 (.cond (.t 76) (.region [⟨some 77, .ld true 2 (.t 3), none⟩, ⟨some 78, .ld true 2 (.t 4), none⟩, ⟨some 79, .call 80 [.t 77, .t 78], none⟩, ⟨some 14, .mv (.t 79), none⟩] [14, 13, 12, 11, 10, 9, 8, 4, 3])
 (.region [] [14, 13, 12, 11, 10, 9, 8, 4, 3])))
 (.seq .says S_gaugelaw2_looks_j1))))))))))))
theorem C_gaugelaw2_looks : Codes Go.Proofs.Try.prog F_gaugelaw2_looks S_gaugelaw2_looks 127 [6] := ⟨Go.Proofs.Try.f35, Go.Proofs.Try.f35.body.getD .skip, Go.Proofs.Try.func35, by kernel_rfl, by kernel_rfl, by kernel_rfl, by kernel_rfl, by kernel_rfl⟩
def F_gaugelaw3_made : FuncId := 36
def S_gaugelaw3_made_j1 : SC :=
 .seq (.seq .says (.drawn [0, 1, 2, 3, 4, 5, 6, 7, 8] [⟨some 11, .fa 0 (.t 2), none⟩, ⟨some 12, .ld false 1 (.t 11), none⟩, ⟨some 13, .fa 1 (.t 2), none⟩, ⟨some 14, .ld false 1 (.t 13), none⟩, ⟨some 15, .callq 44 [.t 14], none⟩, ⟨some 16, .callq 43 [.t 12, .t 15], none⟩, ⟨some 17, .mv (.t 1), none⟩, ⟨some 18, .callq 85 [.t 16, .t 17], none⟩, ⟨none, .st 3 (.t 4) (.t 18), none⟩] [4]))
 (.ret)
/-- gauge / gaugelaw3.made -/
def S_gaugelaw3_made : SC :=
 .seq (.region [⟨some 2, .box false 2 (.t 0), none⟩, ⟨some 4, .alloc true 3 [.bool false, .slice none 0 0, .slice none 0 0], none⟩] [4, 2, 1])
 (.seq (.region [⟨some 5, .mv (.t 1), none⟩, ⟨some 6, .call 44 [.t 5], none⟩, ⟨some 1, .mv (.t 6), none⟩] [4, 2, 1])
 (.seq (.seq (.region [⟨some 7, .mv (.t 1), none⟩, ⟨some 8, .len (.t 7), none⟩, ⟨some 9, .bin .eql (.t 8) (.c (.int .i64 0)), none⟩] [9, 4, 2, 1])
 (.cond (.t 9) (.region [⟨some 10, .call 84 [.c (.int .u64 1)], none⟩, ⟨some 1, .mv (.t 10), none⟩] [4, 2, 1])
 (.region [] [4, 2, 1])))
 (.seq .says S_gaugelaw3_made_j1)))
theorem C_gaugelaw3_made : CodesC Go.Proofs.Try.prog F_gaugelaw3_made S_gaugelaw3_made 19 [.c 4 true 3] := ⟨Go.Proofs.Try.f36, Go.Proofs.Try.f36.body.getD .skip, Go.Proofs.Try.func36, by kernel_rfl, by kernel_rfl, by kernel_rfl, by kernel_rfl, by kernel_rfl⟩
def F_gaugelaw3_field : FuncId := 37
/-- gauge / gaugelaw3.field -/
def S_gaugelaw3_field : SC :=
 .seq (.region [⟨some 3, .box false 3 (.t 0), none⟩, ⟨some 4, .box false 3 (.t 1), none⟩, ⟨some 5, .box false 3 (.t 2), none⟩, ⟨some 6, .mv (.c (.bool false)), none⟩] [5, 4, 3])
 (.seq (.seq (.seq .says (.drawn [0, 1, 2, 3, 4, 5, 6, 7, 8, 9, 10, 11, 12, 13, 14, 15, 16, 17, 18, 19, 20, 21, 22, 23, 24, 25, 26, 27, 28, 29, 30, 31, 32, 33, 34, 35, 36, 37, 38, 39, 40, 41, 42, 43, 44, 45, 46, 47, 48, 49, 50, 51, 52, 53, 54, 55, 56, 57, 58, 59, 60, 61] [⟨some 11, .ld true 3 (.t 3), none⟩, ⟨some 12, .ld true 3 (.t 4), none⟩, ⟨some 13, .callq 39 [.t 11, .t 12], none⟩, ⟨some 14, .ld true 3 (.t 4), none⟩, ⟨some 15, .ld true 3 (.t 3), none⟩, ⟨some 16, .callq 39 [.t 14, .t 15], none⟩, ⟨some 17, .callq 48 [.t 13, .t 16], none⟩, ⟨some 18, .un .not (.t 17), none⟩, ⟨some 19, .mv (.t 18), none⟩, ⟨some 20, .ld true 3 (.t 3), some (19, false)⟩, ⟨some 21, .ld true 3 (.t 4), some (19, false)⟩, ⟨some 22, .callq 41 [.t 20, .t 21], some (19, false)⟩, ⟨some 23, .ld true 3 (.t 4), some (19, false)⟩, ⟨some 24, .ld true 3 (.t 3), some (19, false)⟩, ⟨some 25, .callq 41 [.t 23, .t 24], some (19, false)⟩, ⟨some 26, .callq 48 [.t 22, .t 25], some (19, false)⟩, ⟨some 27, .un .not (.t 26), some (19, false)⟩, ⟨some 28, .pick (.t 19) (.c (.bool true)) (.t 27), none⟩, ⟨some 29, .mv (.t 28), none⟩, ⟨some 30, .ld true 3 (.t 3), some (29, false)⟩, ⟨some 31, .ld true 3 (.t 4), some (29, false)⟩, ⟨some 32, .callq 39 [.t 30, .t 31], some (29, false)⟩, ⟨some 33, .ld true 3 (.t 5), some (29, false)⟩, ⟨some 34, .callq 39 [.t 32, .t 33], some (29, false)⟩, ⟨some 35, .ld true 3 (.t 3), some (29, false)⟩, ⟨some 36, .ld true 3 (.t 4), some (29, false)⟩, ⟨some 37, .ld true 3 (.t 5), some (29, false)⟩, ⟨some 38, .callq 39 [.t 36, .t 37], some (29, false)⟩, ⟨some 39, .callq 39 [.t 35, .t 38], some (29, false)⟩, ⟨some 40, .callq 48 [.t 34, .t 39], some (29, false)⟩, ⟨some 41, .un .not (.t 40), some (29, false)⟩, ⟨some 42, .pick (.t 29) (.c (.bool true)) (.t 41), none⟩, ⟨some 43, .mv (.t 42), none⟩, ⟨some 44, .ld true 3 (.t 3), some (43, false)⟩, ⟨some 45, .ld true 3 (.t 4), some (43, false)⟩, ⟨some 46, .callq 41 [.t 44, .t 45], some (43, false)⟩, ⟨some 47, .ld true 3 (.t 5), some (43, false)⟩, ⟨some 48, .callq 41 [.t 46, .t 47], some (43, false)⟩, ⟨some 49, .ld true 3 (.t 3), some (43, false)⟩, ⟨some 50, .ld true 3 (.t 4), some (43, false)⟩, ⟨some 51, .ld true 3 (.t 5), some (43, false)⟩, ⟨some 52, .callq 41 [.t 50, .t 51], some (43, false)⟩, ⟨some 53, .callq 41 [.t 49, .t 52], some (43, false)⟩, ⟨some 54, .callq 48 [.t 48, .t 53], some (43, false)⟩, ⟨some 55, .un .not (.t 54), some (43, false)⟩, ⟨some 56, .pick (.t 43) (.c (.bool true)) (.t 55), none⟩, ⟨some 57, .mv (.t 56), none⟩, ⟨some 58, .ld true 3 (.t 3), some (57, false)⟩, ⟨some 59, .ld true 3 (.t 4), some (57, false)⟩, ⟨some 60, .ld true 3 (.t 5), some (57, false)⟩, ⟨some 61, .callq 39 [.t 59, .t 60], some (57, false)⟩, ⟨some 62, .callq 41 [.t 58, .t 61], some (57, false)⟩, ⟨some 63, .ld true 3 (.t 3), some (57, false)⟩, ⟨some 64, .ld true 3 (.t 4), some (57, false)⟩, ⟨some 65, .callq 41 [.t 63, .t 64], some (57, false)⟩, ⟨some 66, .ld true 3 (.t 3), some (57, false)⟩, ⟨some 67, .ld true 3 (.t 5), some (57, false)⟩, ⟨some 68, .callq 41 [.t 66, .t 67], some (57, false)⟩, ⟨some 69, .callq 39 [.t 65, .t 68], some (57, false)⟩, ⟨some 70, .callq 48 [.t 62, .t 69], some (57, false)⟩, ⟨some 71, .un .not (.t 70), some (57, false)⟩, ⟨some 72, .pick (.t 57) (.c (.bool true)) (.t 71), none⟩] [72, 4, 3]))
 (.cond (.t 72) (.seq (.region [⟨some 6, .mv (.c (.bool false)), none⟩] [6])
 (.ret))
 (.region [] [4, 3])))
 (.seq (.region [⟨some 74, .ld true 3 (.t 3), none⟩, ⟨some 75, .ld true 3 (.t 4), none⟩, ⟨some 76, .call 86 [.t 74, .t 75], none⟩, ⟨some 73, .mv (.t 76), none⟩, ⟨some 77, .ext (.t 73) 0, none⟩, ⟨some 78, .ext (.t 73) 1, none⟩, ⟨some 7, .alloc true 3 [.bool false, .slice none 0 0, .slice none 0 0], none⟩, ⟨none, .st 3 (.t 7) (.t 77), none⟩, ⟨some 8, .mv (.t 78), none⟩] [8, 7, 4, 3])
 (.seq .says (.seq (.seq (.seq .says (.drawn [0, 1, 2, 3, 4, 5, 6, 7, 8, 9, 10, 11, 12, 13, 14, 15, 16, 17, 18, 19, 20, 21, 22, 23, 24, 25, 26, 27] [⟨some 79, .mv (.t 8), none⟩, ⟨some 80, .callq 47 [.t 79], none⟩, ⟨some 81, .bin .neq (.t 80) (.c (.int .i64 0)), none⟩, ⟨some 82, .mv (.t 81), none⟩, ⟨some 83, .ld true 3 (.t 7), some (82, false)⟩, ⟨some 84, .ld true 3 (.t 4), some (82, false)⟩, ⟨some 85, .callq 39 [.t 83, .t 84], some (82, false)⟩, ⟨some 86, .ld true 3 (.t 3), some (82, false)⟩, ⟨some 87, .callq 48 [.t 85, .t 86], some (82, false)⟩, ⟨some 88, .un .not (.t 87), some (82, false)⟩, ⟨some 89, .pick (.t 82) (.c (.bool true)) (.t 88), none⟩, ⟨some 90, .mv (.t 89), none⟩, ⟨some 91, .ld true 3 (.t 7), some (90, false)⟩, ⟨some 92, .ld true 3 (.t 3), some (90, false)⟩, ⟨some 93, .ld true 3 (.t 4), some (90, false)⟩, ⟨some 94, .callq 52 [.t 93], some (90, false)⟩, ⟨some 95, .callq 39 [.t 92, .t 94], some (90, false)⟩, ⟨some 96, .callq 48 [.t 91, .t 95], some (90, false)⟩, ⟨some 97, .un .not (.t 96), some (90, false)⟩, ⟨some 98, .pick (.t 90) (.c (.bool true)) (.t 97), none⟩, ⟨some 99, .mv (.t 98), none⟩, ⟨some 100, .ld true 3 (.t 3), some (99, false)⟩, ⟨some 101, .ld true 3 (.t 4), some (99, false)⟩, ⟨some 102, .callq 38 [.t 100, .t 101], some (99, false)⟩, ⟨some 103, .ld true 3 (.t 7), some (99, false)⟩, ⟨some 104, .callq 40 [.t 103], some (99, false)⟩, ⟨some 105, .bin .neq (.t 102) (.t 104), some (99, false)⟩, ⟨some 106, .pick (.t 99) (.c (.bool true)) (.t 105), none⟩] [106, 4, 3]))
 (.cond (.t 106) (.seq (.region [⟨some 6, .mv (.c (.bool false)), none⟩] [6])
 (.ret))
 (.region [] [4, 3])))
 (.seq (.seq (.region [⟨some 107, .ld true 3 (.t 4), none⟩, ⟨some 108, .call 40 [.t 107], none⟩, ⟨some 109, .bin .eql (.t 108) (.c (.int .i64 0)), none⟩] [109, 4, 3])
 (.cond (.t 109) (.seq (.region [⟨some 6, .mv (.c (.bool true)), none⟩] [6])
 (.ret))
 (.region [] [4, 3])))
 (.seq (.region [⟨some 111, .ld true 3 (.t 3), none⟩, ⟨some 112, .ld true 3 (.t 4), none⟩, ⟨some 113, .call 53 [.t 111, .t 112], none⟩, ⟨some 110, .mv (.t 113), none⟩, ⟨some 114, .ext (.t 110) 0, none⟩, ⟨some 115, .ext (.t 110) 1, none⟩, ⟨some 9, .alloc true 3 [.bool false, .slice none 0 0, .slice none 0 0], none⟩, ⟨none, .st 3 (.t 9) (.t 114), none⟩, ⟨some 10, .mv (.t 115), none⟩] [10, 9, 4, 3])
 (.seq .says (.seq (.seq .says (.drawn [0, 1, 2, 3, 4, 5, 6, 7, 8, 9, 10, 11, 12, 13, 14, 15, 16, 17, 18, 19, 20] [⟨some 116, .mv (.t 10), none⟩, ⟨some 117, .callq 47 [.t 116], none⟩, ⟨some 118, .bin .eql (.t 117) (.c (.int .i64 0)), none⟩, ⟨some 119, .mv (.t 118), none⟩, ⟨some 120, .ld true 3 (.t 9), some (119, true)⟩, ⟨some 121, .ld true 3 (.t 4), some (119, true)⟩, ⟨some 122, .callq 41 [.t 120, .t 121], some (119, true)⟩, ⟨some 123, .ld true 3 (.t 3), some (119, true)⟩, ⟨some 124, .callq 48 [.t 122, .t 123], some (119, true)⟩, ⟨some 125, .pick (.t 119) (.t 124) (.c (.bool false)), none⟩, ⟨some 126, .mv (.t 125), none⟩, ⟨some 127, .ld true 3 (.t 9), some (126, true)⟩, ⟨some 128, .callq 40 [.t 127], some (126, true)⟩, ⟨some 129, .ld true 3 (.t 3), some (126, true)⟩, ⟨some 130, .callq 40 [.t 129], some (126, true)⟩, ⟨some 131, .ld true 3 (.t 4), some (126, true)⟩, ⟨some 132, .callq 40 [.t 131], some (126, true)⟩, ⟨some 133, .bin .mul (.t 130) (.t 132), some (126, true)⟩, ⟨some 134, .bin .eql (.t 128) (.t 133), some (126, true)⟩, ⟨some 135, .pick (.t 126) (.t 134) (.c (.bool false)), none⟩, ⟨some 6, .mv (.t 135), none⟩] [6]))
 (.ret)))))))))
theorem C_gaugelaw3_field : Codes Go.Proofs.Try.prog F_gaugelaw3_field S_gaugelaw3_field 136 [6] := ⟨Go.Proofs.Try.f37, Go.Proofs.Try.f37.body.getD .skip, Go.Proofs.Try.func37, by kernel_rfl, by kernel_rfl, by kernel_rfl, by kernel_rfl, by kernel_rfl⟩
def F_ratio_Cmp : FuncId := 38
/-- gauge / ratio.Cmp -/
def S_ratio_Cmp : SC :=
 .seq (.region [⟨some 2, .box false 3 (.t 0), none⟩, ⟨some 3, .box false 3 (.t 1), none⟩, ⟨some 4, .mv (.c (.int .i64 0)), none⟩] [3, 2])
 (.seq (.seq (.region [⟨some 5, .ld true 3 (.t 2), none⟩, ⟨some 6, .call 87 [.t 5], none⟩, ⟨some 7, .un .not (.t 6), none⟩, ⟨some 8, .mv (.t 7), none⟩, ⟨some 9, .ld true 3 (.t 3), some (8, false)⟩, ⟨some 10, .call 87 [.t 9], some (8, false)⟩, ⟨some 11, .un .not (.t 10), some (8, false)⟩, ⟨some 12, .pick (.t 8) (.c (.bool true)) (.t 11), none⟩] [12, 3, 2])
 (.cond (.t 12) (.seq (.region [⟨some 4, .mv (.c (.int .i64 0)), none⟩] [4])
 (.ret))
 (.region [] [3, 2])))
 (.seq (.seq .says (.drawn [0, 1, 2, 3, 4, 5, 6, 7, 8, 9, 10, 11] [⟨some 13, .fa 0 (.t 2), none⟩, ⟨some 14, .ld true 2 (.t 13), none⟩, ⟨some 15, .fa 2 (.t 3), none⟩, ⟨some 16, .ld false 1 (.t 15), none⟩, ⟨some 17, .callq 88 [.t 14, .t 16], none⟩, ⟨some 18, .fa 0 (.t 3), none⟩, ⟨some 19, .ld true 2 (.t 18), none⟩, ⟨some 20, .fa 2 (.t 2), none⟩, ⟨some 21, .ld false 1 (.t 20), none⟩, ⟨some 22, .callq 88 [.t 19, .t 21], none⟩, ⟨some 23, .callq 77 [.t 17, .t 22], none⟩, ⟨some 4, .mv (.t 23), none⟩] [4]))
 (.ret)))
theorem C_ratio_Cmp : Codes Go.Proofs.Try.prog F_ratio_Cmp S_ratio_Cmp 24 [4] := ⟨Go.Proofs.Try.f38, Go.Proofs.Try.f38.body.getD .skip, Go.Proofs.Try.func38, by kernel_rfl, by kernel_rfl, by kernel_rfl, by kernel_rfl, by kernel_rfl⟩
def F_gaugelaw3_add : FuncId := 39
/-- gauge / gaugelaw3.add -/
def S_gaugelaw3_add : SC :=
 .seq (.region [⟨some 2, .box false 3 (.t 0), none⟩, ⟨some 3, .box false 3 (.t 1), none⟩, ⟨some 4, .alloc true 3 [.bool false, .slice none 0 0, .slice none 0 0], none⟩] [4, 3, 2])
 (.seq (.region [⟨some 8, .ld true 3 (.t 2), none⟩, ⟨some 9, .ld true 3 (.t 3), none⟩, ⟨some 10, .call 89 [.t 8, .t 9], none⟩, ⟨some 7, .mv (.t 10), none⟩, ⟨some 11, .ext (.t 7) 0, none⟩, ⟨some 12, .ext (.t 7) 1, none⟩, ⟨some 5, .alloc true 3 [.bool false, .slice none 0 0, .slice none 0 0], none⟩, ⟨none, .st 3 (.t 5) (.t 11), none⟩, ⟨some 6, .mv (.t 12), none⟩] [5, 4])
 (.seq .says (.seq (.region [⟨some 13, .ld true 3 (.t 5), none⟩, ⟨none, .st 3 (.t 4) (.t 13), none⟩] [4])
 (.ret))))
theorem C_gaugelaw3_add : CodesC Go.Proofs.Try.prog F_gaugelaw3_add S_gaugelaw3_add 14 [.c 4 true 3] := ⟨Go.Proofs.Try.f39, Go.Proofs.Try.f39.body.getD .skip, Go.Proofs.Try.func39, by kernel_rfl, by kernel_rfl, by kernel_rfl, by kernel_rfl, by kernel_rfl⟩
def F_ratio_Sign : FuncId := 40
/-- gauge / ratio.Sign -/
def S_ratio_Sign : SC :=
 .seq (.region [⟨some 1, .box false 3 (.t 0), none⟩, ⟨some 2, .mv (.c (.int .i64 0)), none⟩] [1])
 (.seq (.seq (.region [⟨some 3, .ld true 3 (.t 1), none⟩, ⟨some 4, .call 87 [.t 3], none⟩, ⟨some 5, .un .not (.t 4), none⟩] [5, 1])
 (.cond (.t 5) (.seq (.region [⟨some 2, .mv (.c (.int .i64 0)), none⟩] [2])
 (.ret))
 (.region [] [1])))
 (.seq (.region [⟨some 6, .fa 0 (.t 1), none⟩, ⟨some 7, .ld true 2 (.t 6), none⟩, ⟨some 8, .call 30 [.t 7], none⟩, ⟨some 2, .mv (.t 8), none⟩] [2])
 (.ret)))
theorem C_ratio_Sign : Codes Go.Proofs.Try.prog F_ratio_Sign S_ratio_Sign 9 [2] := ⟨Go.Proofs.Try.f40, Go.Proofs.Try.f40.body.getD .skip, Go.Proofs.Try.func40, by kernel_rfl, by kernel_rfl, by kernel_rfl, by kernel_rfl, by kernel_rfl⟩
def F_gaugelaw3_mul : FuncId := 41
/-- gauge / gaugelaw3.mul -/
def S_gaugelaw3_mul : SC :=
 .seq (.region [⟨some 2, .box false 3 (.t 0), none⟩, ⟨some 3, .box false 3 (.t 1), none⟩, ⟨some 4, .alloc true 3 [.bool false, .slice none 0 0, .slice none 0 0], none⟩] [4, 3, 2])
 (.seq (.region [⟨some 8, .ld true 3 (.t 2), none⟩, ⟨some 9, .ld true 3 (.t 3), none⟩, ⟨some 10, .call 90 [.t 8, .t 9], none⟩, ⟨some 7, .mv (.t 10), none⟩, ⟨some 11, .ext (.t 7) 0, none⟩, ⟨some 12, .ext (.t 7) 1, none⟩, ⟨some 5, .alloc true 3 [.bool false, .slice none 0 0, .slice none 0 0], none⟩, ⟨none, .st 3 (.t 5) (.t 11), none⟩, ⟨some 6, .mv (.t 12), none⟩] [5, 4])
 (.seq .says (.seq (.region [⟨some 13, .ld true 3 (.t 5), none⟩, ⟨none, .st 3 (.t 4) (.t 13), none⟩] [4])
 (.ret))))
theorem C_gaugelaw3_mul : CodesC Go.Proofs.Try.prog F_gaugelaw3_mul S_gaugelaw3_mul 14 [.c 4 true 3] := ⟨Go.Proofs.Try.f41, Go.Proofs.Try.f41.body.getD .skip, Go.Proofs.Try.func41, by kernel_rfl, by kernel_rfl, by kernel_rfl, by kernel_rfl, by kernel_rfl⟩
def F_gaugelaw3_wakes : FuncId := 42
/-- gauge / gaugelaw3.wakes -/
def S_gaugelaw3_wakes : SC :=
 .seq (.region [⟨some 0, .mv (.c (.bool false)), none⟩] [])
 (.seq (.region [⟨some 4, .call 54 [.c (.int .i64 1), .c (.int .u64 2)], none⟩, ⟨some 5, .call 54 [.c (.int .i64 1), .c (.int .u64 3)], none⟩, ⟨some 6, .call 89 [.t 4, .t 5], none⟩, ⟨some 3, .mv (.t 6), none⟩, ⟨some 7, .ext (.t 3) 0, none⟩, ⟨some 8, .ext (.t 3) 1, none⟩, ⟨some 1, .alloc true 3 [.bool false, .slice none 0 0, .slice none 0 0], none⟩, ⟨none, .st 3 (.t 1) (.t 7), none⟩, ⟨some 2, .mv (.t 8), none⟩] [2, 1])
 (.seq .says (.seq (.seq .says (.drawn [0, 1, 2, 3, 4, 5, 6, 7, 8] [⟨some 9, .mv (.t 2), none⟩, ⟨some 10, .callq 47 [.t 9], none⟩, ⟨some 11, .bin .eql (.t 10) (.c (.int .i64 0)), none⟩, ⟨some 12, .mv (.t 11), none⟩, ⟨some 13, .ld true 3 (.t 1), some (12, true)⟩, ⟨some 14, .callq 54 [.c (.int .i64 5), .c (.int .u64 6)], some (12, true)⟩, ⟨some 15, .callq 48 [.t 13, .t 14], some (12, true)⟩, ⟨some 16, .pick (.t 12) (.t 15) (.c (.bool false)), none⟩, ⟨some 0, .mv (.t 16), none⟩] [0]))
 (.ret))))
theorem C_gaugelaw3_wakes : Codes Go.Proofs.Try.prog F_gaugelaw3_wakes S_gaugelaw3_wakes 17 [0] := ⟨Go.Proofs.Try.f42, Go.Proofs.Try.f42.body.getD .skip, Go.Proofs.Try.func42, by kernel_rfl, by kernel_rfl, by kernel_rfl, by kernel_rfl, by kernel_rfl⟩
def F_gaugeref2_Made : FuncId := 43
/-- gauge / gaugeref2.Made -/
def S_gaugeref2_Made : SC :=
 .seq (.region [⟨some 4, .alloc true 2 [.bool false, .slice none 0 0], none⟩] [4, 1, 0])
 (.seq (.region [⟨some 5, .mv (.t 0), none⟩, ⟨some 6, .mv (.t 5), none⟩, ⟨some 7, .mv (.t 1), some (6, true)⟩, ⟨some 8, .len (.t 7), some (6, true)⟩, ⟨some 9, .bin .gtr (.t 8) (.c (.int .i64 0)), some (6, true)⟩, ⟨some 10, .pick (.t 6) (.t 9) (.c (.bool false)), none⟩, ⟨some 11, .mv (.t 1), none⟩, ⟨some 12, .build [.bool false, .slice none 0 0] [(0, 1, .t 10), (1, 1, .t 11)], none⟩, ⟨none, .st 2 (.t 4) (.t 12), none⟩] [4])
 (.ret))
theorem C_gaugeref2_Made : CodesC Go.Proofs.Try.prog F_gaugeref2_Made S_gaugeref2_Made 13 [.c 4 true 2] := ⟨Go.Proofs.Try.f43, Go.Proofs.Try.f43.body.getD .skip, Go.Proofs.Try.func43, by kernel_rfl, by kernel_rfl, by kernel_rfl, by kernel_rfl, by kernel_rfl⟩
def F_gaugeref1_Trim : FuncId := 44
/-- gauge / gaugeref1.Trim -/
def S_gaugeref1_Trim : SC :=
 .seq (.region [⟨some 2, .mv (.c (.slice none 0 0)), none⟩] [0])
 (.seq (.region [⟨some 4, .mv (.t 0), none⟩, ⟨some 5, .len (.t 4), none⟩, ⟨some 3, .mv (.t 5), none⟩] [3, 0])
 (.seq (.block 0 [3, 0] (.loop [3, 0] (.seq (.seq (.region [⟨some 6, .mv (.t 3), none⟩, ⟨some 7, .bin .gtr (.t 6) (.c (.int .i64 0)), none⟩, ⟨some 8, .mv (.t 7), none⟩, ⟨some 9, .mv (.t 0), some (8, true)⟩, ⟨some 10, .mv (.t 3), some (8, true)⟩, ⟨some 11, .bin .sub (.t 10) (.c (.int .i64 1)), some (8, true)⟩, ⟨some 12, .ix 1 (.t 9) (.t 11), some (8, true)⟩, ⟨some 13, .ld false 1 (.t 12), some (8, true)⟩, ⟨some 14, .bin .eql (.t 13) (.c (.int .u64 0)), some (8, true)⟩, ⟨some 15, .pick (.t 8) (.t 14) (.c (.bool false)), none⟩] [15, 3, 0])
 (.cond (.t 15) (.region [] [3, 0])
 (.exit 0)))
 (.block 1 [3, 0] (.region [⟨some 16, .mv (.t 3), none⟩, ⟨some 17, .bin .sub (.t 16) (.c (.int .i64 1)), none⟩, ⟨some 3, .mv (.t 17), none⟩] [3, 0])))))
 (.seq (.region [⟨some 18, .mv (.t 0), none⟩, ⟨some 19, .mv (.t 3), none⟩, ⟨some 20, .sl 1 (.t 18) none (some (.t 19)) none, none⟩, ⟨some 2, .mv (.t 20), none⟩] [2])
 (.ret))))
theorem C_gaugeref1_Trim : Codes Go.Proofs.Try.prog F_gaugeref1_Trim S_gaugeref1_Trim 21 [2] := ⟨Go.Proofs.Try.f44, Go.Proofs.Try.f44.body.getD .skip, Go.Proofs.Try.func44, by kernel_rfl, by kernel_rfl, by kernel_rfl, by kernel_rfl, by kernel_rfl⟩
def F_ratio_Make : FuncId := 45
/-- gauge / ratio.Make -/
def S_ratio_Make : SC :=
 .seq (.region [⟨some 2, .box false 2 (.t 0), none⟩, ⟨some 4, .alloc true 3 [.bool false, .slice none 0 0, .slice none 0 0], none⟩, ⟨some 5, .mv (.c (.int .i64 0)), none⟩] [4, 2, 1])
 (.seq (.block 0 [4, 2, 1] (.seq (.region [⟨some 7, .ld true 2 (.t 2), none⟩, ⟨some 8, .call 78 [.t 7], none⟩, ⟨some 9, .bin .neq (.t 8) (.c (.int .i64 0)), none⟩, ⟨some 10, .mv (.t 9), none⟩, ⟨some 11, .mv (.t 1), some (10, false)⟩, ⟨some 12, .call 91 [.t 11], some (10, false)⟩, ⟨some 13, .bin .neq (.t 12) (.c (.int .i64 0)), some (10, false)⟩, ⟨some 14, .pick (.t 10) (.c (.bool true)) (.t 13), none⟩, ⟨some 6, .mv (.t 14), none⟩] [6, 4, 2, 1])
 (.cond (.t 6) (.seq (.region [⟨some 15, .build [.bool false, .slice none 0 0, .slice none 0 0] [], none⟩, ⟨none, .st 3 (.t 4) (.t 15), none⟩, ⟨some 5, .mv (.c (.int .i64 30)), none⟩] [5, 4])
 (.ret))
 (.seq (.region [⟨some 17, .mv (.t 1), none⟩, ⟨some 18, .len (.t 17), none⟩, ⟨some 19, .bin .eql (.t 18) (.c (.int .i64 0)), none⟩, ⟨some 16, .mv (.t 19), none⟩] [16, 4, 2, 1])
 (.cond (.t 16) (.seq (.region [⟨some 20, .build [.bool false, .slice none 0 0, .slice none 0 0] [], none⟩, ⟨none, .st 3 (.t 4) (.t 20), none⟩, ⟨some 5, .mv (.c (.int .i64 31)), none⟩] [5, 4])
 (.ret))
 (.region [] [4, 2, 1]))))))
 (.seq (.region [⟨some 21, .ld true 2 (.t 2), none⟩, ⟨some 22, .mv (.t 1), none⟩, ⟨some 23, .call 92 [.t 21, .t 22], none⟩, ⟨none, .st 3 (.t 4) (.t 23), none⟩, ⟨some 5, .mv (.c (.int .i64 0)), none⟩] [5, 4])
 (.ret)))
theorem C_ratio_Make : CodesC Go.Proofs.Try.prog F_ratio_Make S_ratio_Make 24 [.c 4 true 3, .t 5] := ⟨Go.Proofs.Try.f45, Go.Proofs.Try.f45.body.getD .skip, Go.Proofs.Try.func45, by kernel_rfl, by kernel_rfl, by kernel_rfl, by kernel_rfl, by kernel_rfl⟩
def F_gaugeref1_Times : FuncId := 46
/-- gauge / gaugeref1.Times -/
def S_gaugeref1_Times : SC :=
 .seq (.region [⟨some 4, .mv (.c (.slice none 0 0)), none⟩] [1, 0])
 (.seq (.region [⟨some 11, .mv (.t 0), none⟩, ⟨some 12, .call 93 [.t 11], none⟩, ⟨some 5, .mv (.t 12), none⟩] [5, 1])
 (.seq (.region [⟨some 13, .mv (.t 1), none⟩, ⟨some 14, .call 93 [.t 13], none⟩, ⟨some 6, .mv (.t 14), none⟩] [6, 5])
 (.seq (.region [⟨some 15, .mv (.t 5), none⟩, ⟨some 16, .len (.t 15), none⟩, ⟨some 17, .mv (.t 6), none⟩, ⟨some 18, .len (.t 17), none⟩, ⟨some 19, .bin .add (.t 16) (.t 18), none⟩, ⟨some 20, .mks 1 4 [.int .u32 0] (.t 19) (.t 19), none⟩, ⟨some 7, .mv (.t 20), none⟩] [7, 6, 5])
 (.seq (.seq (.region [⟨some 8, .mv (.c (.int .i64 0)), none⟩] [8, 7, 6, 5])
 (.block 0 [7] (.loop [8, 7, 6, 5] (.seq (.seq (.region [⟨some 21, .mv (.t 8), none⟩, ⟨some 22, .mv (.t 5), none⟩, ⟨some 23, .len (.t 22), none⟩, ⟨some 24, .bin .lss (.t 21) (.t 23), none⟩] [24, 8, 7, 6, 5])
 (.cond (.t 24) (.region [] [8, 7, 6, 5])
 (.exit 0)))
 (.seq (.block 1 [8, 7, 6, 5] (.seq (.region [⟨some 9, .mv (.c (.int .u64 0)), none⟩] [9, 8, 7, 6, 5])
 (.seq (.seq (.region [⟨some 10, .mv (.c (.int .i64 0)), none⟩] [10, 9, 8, 7, 6, 5])
 (.block 2 [9, 8, 7, 6, 5] (.loop [10, 9, 8, 7, 6, 5] (.seq (.seq (.region [⟨some 27, .mv (.t 10), none⟩, ⟨some 28, .mv (.t 6), none⟩, ⟨some 29, .len (.t 28), none⟩, ⟨some 30, .bin .lss (.t 27) (.t 29), none⟩] [30, 10, 9, 8, 7, 6, 5])
 (.cond (.t 30) (.region [] [10, 9, 8, 7, 6, 5])
 (.exit 2)))
 (.seq (.block 3 [10, 9, 8, 7, 6, 5] (.seq (.drawn [0, 1, 2, 3, 4, 5, 6, 7, 8, 9, 10, 11, 12, 13, 14, 15, 16, 17, 18, 19, 20, 21] [⟨some 33, .mv (.t 9), none⟩, ⟨some 34, .mv (.t 7), none⟩, ⟨some 35, .mv (.t 8), none⟩, ⟨some 36, .mv (.t 10), none⟩, ⟨some 37, .bin .add (.t 35) (.t 36), none⟩, ⟨some 38, .ix 1 (.t 34) (.t 37), none⟩, ⟨some 39, .ld false 1 (.t 38), none⟩, ⟨some 40, .conv .u64 (.t 39), none⟩, ⟨some 41, .bin .add (.t 33) (.t 40), none⟩, ⟨some 42, .mv (.t 5), none⟩, ⟨some 43, .mv (.t 8), none⟩, ⟨some 44, .ix 1 (.t 42) (.t 43), none⟩, ⟨some 45, .ld false 1 (.t 44), none⟩, ⟨some 46, .conv .u64 (.t 45), none⟩, ⟨some 47, .mv (.t 6), none⟩, ⟨some 48, .mv (.t 10), none⟩, ⟨some 49, .ix 1 (.t 47) (.t 48), none⟩, ⟨some 50, .ld false 1 (.t 49), none⟩, ⟨some 51, .conv .u64 (.t 50), none⟩, ⟨some 52, .bin .mul (.t 46) (.t 51), none⟩, ⟨some 53, .bin .add (.t 41) (.t 52), none⟩, ⟨some 9, .mv (.t 53), none⟩] [10, 9, 8, 7, 6, 5])
 (.seq (.region [⟨some 54, .mv (.t 7), none⟩, ⟨some 55, .mv (.t 8), none⟩, ⟨some 56, .mv (.t 10), none⟩, ⟨some 57, .bin .add (.t 55) (.t 56), none⟩, ⟨some 58, .mv (.t 9), none⟩, ⟨some 59, .conv .u32 (.t 58), none⟩, ⟨some 60, .ix 1 (.t 54) (.t 57), none⟩, ⟨none, .st 1 (.t 60) (.t 59), none⟩] [10, 9, 8, 7, 6, 5])
 (.region [⟨some 61, .mv (.t 9), none⟩, ⟨some 62, .bin .shr (.t 61) (.c (.int .u64 32)), none⟩, ⟨some 9, .mv (.t 62), none⟩] [10, 9, 8, 7, 6, 5]))))
 (.region [⟨some 31, .mv (.t 10), none⟩, ⟨some 32, .bin .add (.t 31) (.c (.int .i64 1)), none⟩, ⟨some 10, .mv (.t 32), none⟩] [10, 9, 8, 7, 6, 5]))))))
 (.region [⟨some 63, .mv (.t 7), none⟩, ⟨some 64, .mv (.t 8), none⟩, ⟨some 65, .mv (.t 6), none⟩, ⟨some 66, .len (.t 65), none⟩, ⟨some 67, .bin .add (.t 64) (.t 66), none⟩, ⟨some 68, .mv (.t 9), none⟩, ⟨some 69, .conv .u32 (.t 68), none⟩, ⟨some 70, .ix 1 (.t 63) (.t 67), none⟩, ⟨none, .st 1 (.t 70) (.t 69), none⟩] [8, 7, 6, 5]))))
 (.region [⟨some 25, .mv (.t 8), none⟩, ⟨some 26, .bin .add (.t 25) (.c (.int .i64 1)), none⟩, ⟨some 8, .mv (.t 26), none⟩] [8, 7, 6, 5]))))))
 (.seq (.region [⟨some 71, .mv (.t 7), none⟩, ⟨some 72, .call 95 [.t 71], none⟩, ⟨some 73, .call 94 [.t 72], none⟩, ⟨some 4, .mv (.t 73), none⟩] [4])
 (.ret))))))
theorem C_gaugeref1_Times : Codes Go.Proofs.Try.prog F_gaugeref1_Times S_gaugeref1_Times 74 [4] := ⟨Go.Proofs.Try.f46, Go.Proofs.Try.f46.body.getD .skip, Go.Proofs.Try.func46, by kernel_rfl, by kernel_rfl, by kernel_rfl, by kernel_rfl, by kernel_rfl⟩
def F_gaugelaw3_num : FuncId := 47
/-- gauge / gaugelaw3.num -/
def S_gaugelaw3_num : SC :=
 .seq (.region [⟨some 2, .mv (.c (.int .i64 0)), none⟩] [0])
 (.seq (.region [⟨some 3, .mv (.t 0), none⟩, ⟨some 2, .mv (.t 3), none⟩] [2])
 (.ret))
theorem C_gaugelaw3_num : Codes Go.Proofs.Try.prog F_gaugelaw3_num S_gaugelaw3_num 4 [2] := ⟨Go.Proofs.Try.f47, Go.Proofs.Try.f47.body.getD .skip, Go.Proofs.Try.func47, by kernel_rfl, by kernel_rfl, by kernel_rfl, by kernel_rfl, by kernel_rfl⟩
def F_gaugeref0_EqRat : FuncId := 48
/-- gauge / gaugeref0.EqRat -/
def S_gaugeref0_EqRat : SC :=
 .seq (.region [⟨some 2, .box false 3 (.t 0), none⟩, ⟨some 3, .box false 3 (.t 1), none⟩, ⟨some 4, .mv (.c (.bool false)), none⟩] [3, 2])
 (.seq (.region [⟨some 5, .fa 0 (.t 2), none⟩, ⟨some 6, .ld true 2 (.t 5), none⟩, ⟨some 7, .fa 0 (.t 3), none⟩, ⟨some 8, .ld true 2 (.t 7), none⟩, ⟨some 9, .call 19 [.t 6, .t 8], none⟩, ⟨some 10, .mv (.t 9), none⟩, ⟨some 11, .fa 2 (.t 2), some (10, true)⟩, ⟨some 12, .ld false 1 (.t 11), some (10, true)⟩, ⟨some 13, .fa 2 (.t 3), some (10, true)⟩, ⟨some 14, .ld false 1 (.t 13), some (10, true)⟩, ⟨some 15, .call 58 [.t 12, .t 14], some (10, true)⟩, ⟨some 16, .pick (.t 10) (.t 15) (.c (.bool false)), none⟩, ⟨some 4, .mv (.t 16), none⟩] [4])
 (.ret))
theorem C_gaugeref0_EqRat : Codes Go.Proofs.Try.prog F_gaugeref0_EqRat S_gaugeref0_EqRat 17 [4] := ⟨Go.Proofs.Try.f48, Go.Proofs.Try.f48.body.getD .skip, Go.Proofs.Try.func48, by kernel_rfl, by kernel_rfl, by kernel_rfl, by kernel_rfl, by kernel_rfl⟩
def F_ratio_Check : FuncId := 49
/-- gauge / ratio.Check -/
def S_ratio_Check : SC :=
 .seq (.region [⟨some 1, .box false 3 (.t 0), none⟩, ⟨some 2, .mv (.c (.int .i64 0)), none⟩] [1])
 (.seq (.seq (.region [⟨some 3, .ld true 3 (.t 1), none⟩, ⟨some 4, .call 87 [.t 3], none⟩] [4])
 (.cond (.t 4) (.seq (.region [⟨some 2, .mv (.c (.int .i64 0)), none⟩] [2])
 (.ret))
 (.region [] [])))
 (.seq (.region [⟨some 2, .mv (.c (.int .i64 30)), none⟩] [2])
 (.ret)))
theorem C_ratio_Check : Codes Go.Proofs.Try.prog F_ratio_Check S_ratio_Check 5 [2] := ⟨Go.Proofs.Try.f49, Go.Proofs.Try.f49.body.getD .skip, Go.Proofs.Try.func49, by kernel_rfl, by kernel_rfl, by kernel_rfl, by kernel_rfl, by kernel_rfl⟩
def F_ratio_Floor : FuncId := 50
/-- gauge / ratio.Floor -/
def S_ratio_Floor : SC :=
 .seq (.region [⟨some 1, .box false 3 (.t 0), none⟩, ⟨some 2, .alloc true 2 [.bool false, .slice none 0 0], none⟩] [2, 1])
 (.seq (.seq (.region [⟨some 6, .ld true 3 (.t 1), none⟩, ⟨some 7, .call 87 [.t 6], none⟩, ⟨some 8, .un .not (.t 7), none⟩] [8, 2, 1])
 (.cond (.t 8) (.seq (.region [⟨some 9, .build [.bool false, .slice none 0 0] [], none⟩, ⟨none, .st 2 (.t 2) (.t 9), none⟩] [2])
 (.ret))
 (.region [] [2, 1])))
 (.seq (.region [⟨some 11, .fa 0 (.t 1), none⟩, ⟨some 12, .ld true 2 (.t 11), none⟩, ⟨some 13, .fa 2 (.t 1), none⟩, ⟨some 14, .ld false 1 (.t 13), none⟩, ⟨some 15, .build [.bool false, .slice none 0 0] [(1, 1, .t 14)], none⟩, ⟨some 16, .call 14 [.t 12, .t 15], none⟩, ⟨some 10, .mv (.t 16), none⟩, ⟨some 17, .ext (.t 10) 0, none⟩, ⟨some 18, .ext (.t 10) 1, none⟩, ⟨some 19, .ext (.t 10) 2, none⟩, ⟨some 3, .alloc true 2 [.bool false, .slice none 0 0], none⟩, ⟨some 4, .alloc true 2 [.bool false, .slice none 0 0], none⟩, ⟨none, .st 2 (.t 3) (.t 17), none⟩, ⟨none, .st 2 (.t 4) (.t 18), none⟩, ⟨some 5, .mv (.t 19), none⟩] [3, 2])
 (.seq .says (.seq (.region [⟨some 20, .ld true 2 (.t 3), none⟩, ⟨none, .st 2 (.t 2) (.t 20), none⟩] [2])
 (.ret)))))
theorem C_ratio_Floor : CodesC Go.Proofs.Try.prog F_ratio_Floor S_ratio_Floor 21 [.c 2 true 2] := ⟨Go.Proofs.Try.f50, Go.Proofs.Try.f50.body.getD .skip, Go.Proofs.Try.func50, by kernel_rfl, by kernel_rfl, by kernel_rfl, by kernel_rfl, by kernel_rfl⟩
def F_ratio_From : FuncId := 51
/-- gauge / ratio.From -/
def S_ratio_From : SC :=
 .seq (.region [⟨some 1, .box false 2 (.t 0), none⟩, ⟨some 2, .alloc true 3 [.bool false, .slice none 0 0, .slice none 0 0], none⟩] [2, 1])
 (.seq (.seq (.region [⟨some 3, .ld true 2 (.t 1), none⟩, ⟨some 4, .call 78 [.t 3], none⟩, ⟨some 5, .bin .neq (.t 4) (.c (.int .i64 0)), none⟩] [5, 2, 1])
 (.cond (.t 5) (.seq (.region [⟨some 6, .build [.bool false, .slice none 0 0, .slice none 0 0] [], none⟩, ⟨none, .st 3 (.t 2) (.t 6), none⟩] [2])
 (.ret))
 (.region [] [2, 1])))
 (.seq (.seq .says (.drawn [0, 1, 2, 3] [⟨some 7, .ld true 2 (.t 1), none⟩, ⟨some 8, .callq 71 [.c (.int .u64 1)], none⟩, ⟨some 9, .callq 92 [.t 7, .t 8], none⟩, ⟨none, .st 3 (.t 2) (.t 9), none⟩] [2]))
 (.ret)))
theorem C_ratio_From : CodesC Go.Proofs.Try.prog F_ratio_From S_ratio_From 10 [.c 2 true 3] := ⟨Go.Proofs.Try.f51, Go.Proofs.Try.f51.body.getD .skip, Go.Proofs.Try.func51, by kernel_rfl, by kernel_rfl, by kernel_rfl, by kernel_rfl, by kernel_rfl⟩
def F_ratio_Neg : FuncId := 52
/-- gauge / ratio.Neg -/
def S_ratio_Neg : SC :=
 .seq (.region [⟨some 1, .box false 3 (.t 0), none⟩, ⟨some 2, .alloc true 3 [.bool false, .slice none 0 0, .slice none 0 0], none⟩] [2, 1])
 (.seq (.seq (.region [⟨some 3, .ld true 3 (.t 1), none⟩, ⟨some 4, .call 87 [.t 3], none⟩, ⟨some 5, .un .not (.t 4), none⟩] [5, 2, 1])
 (.cond (.t 5) (.seq (.region [⟨some 6, .build [.bool false, .slice none 0 0, .slice none 0 0] [], none⟩, ⟨none, .st 3 (.t 2) (.t 6), none⟩] [2])
 (.ret))
 (.region [] [2, 1])))
 (.seq (.region [⟨some 7, .ld true 3 (.t 1), none⟩, ⟨some 8, .call 96 [.t 7], none⟩, ⟨none, .st 3 (.t 2) (.t 8), none⟩] [2])
 (.ret)))
theorem C_ratio_Neg : CodesC Go.Proofs.Try.prog F_ratio_Neg S_ratio_Neg 9 [.c 2 true 3] := ⟨Go.Proofs.Try.f52, Go.Proofs.Try.f52.body.getD .skip, Go.Proofs.Try.func52, by kernel_rfl, by kernel_rfl, by kernel_rfl, by kernel_rfl, by kernel_rfl⟩
def F_ratio_Div : FuncId := 53
/-- gauge / ratio.Div -/
def S_ratio_Div : SC :=
 .seq (.region [⟨some 2, .box false 3 (.t 0), none⟩, ⟨some 3, .box false 3 (.t 1), none⟩, ⟨some 4, .alloc true 3 [.bool false, .slice none 0 0, .slice none 0 0], none⟩, ⟨some 5, .mv (.c (.int .i64 0)), none⟩] [4, 3, 2])
 (.seq (.region [⟨some 6, .ld true 3 (.t 2), none⟩, ⟨some 7, .ld true 3 (.t 3), none⟩, ⟨some 8, .call 97 [.c (.int .i64 2), .t 6, .t 7], none⟩, ⟨some 9, .ext (.t 8) 0, none⟩, ⟨some 10, .ext (.t 8) 1, none⟩, ⟨none, .st 3 (.t 4) (.t 9), none⟩, ⟨some 5, .mv (.t 10), none⟩] [5, 4])
 (.ret))
theorem C_ratio_Div : CodesC Go.Proofs.Try.prog F_ratio_Div S_ratio_Div 11 [.c 4 true 3, .t 5] := ⟨Go.Proofs.Try.f53, Go.Proofs.Try.f53.body.getD .skip, Go.Proofs.Try.func53, by kernel_rfl, by kernel_rfl, by kernel_rfl, by kernel_rfl, by kernel_rfl⟩
def F_gaugelaw3_of : FuncId := 54
/-- gauge / gaugelaw3.of -/
def S_gaugelaw3_of : SC :=
 .seq (.region [⟨some 4, .alloc true 3 [.bool false, .slice none 0 0, .slice none 0 0], none⟩] [4, 1, 0])
 (.seq (.region [⟨some 5, .mv (.t 0), none⟩, ⟨some 6, .call 59 [.t 5], none⟩, ⟨some 7, .mv (.t 1), none⟩, ⟨some 8, .call 84 [.t 7], none⟩, ⟨some 9, .call 85 [.t 6, .t 8], none⟩, ⟨none, .st 3 (.t 4) (.t 9), none⟩] [4])
 (.ret))
theorem C_gaugelaw3_of : CodesC Go.Proofs.Try.prog F_gaugelaw3_of S_gaugelaw3_of 10 [.c 4 true 3] := ⟨Go.Proofs.Try.f54, Go.Proofs.Try.f54.body.getD .skip, Go.Proofs.Try.func54, by kernel_rfl, by kernel_rfl, by kernel_rfl, by kernel_rfl, by kernel_rfl⟩
def F_whole_good : FuncId := 55
/-- gauge / whole.good -/
def S_whole_good : SC :=
 .seq (.region [⟨some 1, .box false 2 (.t 0), none⟩, ⟨some 2, .mv (.c (.bool false)), none⟩] [1])
 (.seq (.region [⟨some 3, .fa 1 (.t 1), none⟩, ⟨some 4, .ld false 1 (.t 3), none⟩, ⟨some 5, .call 91 [.t 4], none⟩, ⟨some 6, .bin .eql (.t 5) (.c (.int .i64 0)), none⟩, ⟨some 7, .mv (.t 6), none⟩, ⟨some 8, .fa 0 (.t 1), some (7, true)⟩, ⟨some 9, .ld false 1 (.t 8), some (7, true)⟩, ⟨some 10, .un .not (.t 9), some (7, true)⟩, ⟨some 11, .mv (.t 10), some (7, true)⟩, ⟨some 12, .fa 1 (.t 1), some (11, false)⟩, ⟨some 13, .ld false 1 (.t 12), some (11, false)⟩, ⟨some 14, .len (.t 13), some (11, false)⟩, ⟨some 15, .bin .gtr (.t 14) (.c (.int .i64 0)), some (11, false)⟩, ⟨some 16, .pick (.t 11) (.c (.bool true)) (.t 15), some (7, true)⟩, ⟨some 17, .pick (.t 7) (.t 16) (.c (.bool false)), none⟩, ⟨some 2, .mv (.t 17), none⟩] [2])
 (.ret))
theorem C_whole_good : Codes Go.Proofs.Try.prog F_whole_good S_whole_good 18 [2] := ⟨Go.Proofs.Try.f55, Go.Proofs.Try.f55.body.getD .skip, Go.Proofs.Try.func55, by kernel_rfl, by kernel_rfl, by kernel_rfl, by kernel_rfl, by kernel_rfl⟩
def F_whole_divide : FuncId := 56
def S_whole_divide_j1 : SC :=
 .seq (.drawn [0, 1, 2, 3] [⟨some 45, .ld true 2 (.t 4), none⟩, ⟨some 46, .ldp true 2 (.t 5) [.t 4], none⟩, ⟨none, .st 2 (.t 4) (.t 45), none⟩, ⟨none, .st 2 (.t 5) (.t 46), none⟩] [5, 4])
 (.ret)
/-- gauge / whole.divide -/
def S_whole_divide : SC :=
 .seq (.region [⟨some 2, .box false 2 (.t 0), none⟩, ⟨some 3, .box false 2 (.t 1), none⟩, ⟨some 4, .alloc true 2 [.bool false, .slice none 0 0], none⟩, ⟨some 5, .alloc true 2 [.bool false, .slice none 0 0], none⟩] [5, 4, 3, 2])
 (.seq (.region [⟨some 10, .fa 1 (.t 2), none⟩, ⟨some 11, .ld false 1 (.t 10), none⟩, ⟨some 12, .fa 1 (.t 3), none⟩, ⟨some 13, .ld false 1 (.t 12), none⟩, ⟨some 14, .call 98 [.t 11, .t 13], none⟩, ⟨some 9, .mv (.t 14), none⟩, ⟨some 15, .ext (.t 9) 0, none⟩, ⟨some 16, .ext (.t 9) 1, none⟩, ⟨some 17, .ext (.t 9) 2, none⟩, ⟨some 6, .mv (.t 15), none⟩, ⟨some 7, .mv (.t 16), none⟩, ⟨some 8, .mv (.t 17), none⟩] [7, 6, 5, 4, 3, 2])
 (.seq (.seq .says (.drawn [0, 1, 2, 3, 4, 5, 6, 7, 8, 9, 10, 11, 12] [⟨some 18, .fa 0 (.t 2), none⟩, ⟨some 19, .ld false 1 (.t 18), none⟩, ⟨some 20, .fa 0 (.t 3), none⟩, ⟨some 21, .ld false 1 (.t 20), none⟩, ⟨some 22, .beq true (.t 19) (.t 21), none⟩, ⟨some 23, .mv (.t 6), none⟩, ⟨some 24, .callf 99 [.t 22, .t 23], none⟩, ⟨some 25, .fa 0 (.t 2), none⟩, ⟨some 26, .ld false 1 (.t 25), none⟩, ⟨some 27, .mv (.t 7), none⟩, ⟨some 28, .callf 99 [.t 26, .t 27], none⟩, ⟨none, .st 2 (.t 4) (.t 24), none⟩, ⟨none, .st 2 (.t 5) (.t 28), none⟩] [7, 5, 4, 3, 2]))
 (.seq (.seq (.region [⟨some 29, .mv (.t 7), none⟩, ⟨some 30, .len (.t 29), none⟩, ⟨some 31, .bin .gtr (.t 30) (.c (.int .i64 0)), none⟩, ⟨some 32, .mv (.t 31), none⟩, ⟨some 33, .fa 0 (.t 2), some (32, true)⟩, ⟨some 34, .ld false 1 (.t 33), some (32, true)⟩, ⟨some 35, .fa 0 (.t 3), some (32, true)⟩, ⟨some 36, .ld false 1 (.t 35), some (32, true)⟩, ⟨some 37, .beq true (.t 34) (.t 36), some (32, true)⟩, ⟨some 38, .pick (.t 32) (.t 37) (.c (.bool false)), none⟩] [38, 5, 4, 3])
 (.cond (.t 38) (.seq .says (.drawn [0, 1, 2, 3, 4, 5, 6, 7] [⟨some 39, .ld true 2 (.t 4), none⟩, ⟨some 40, .callf 33 [.c (.int .i64 1)], none⟩, ⟨some 41, .callf 62 [.t 39, .t 40], none⟩, ⟨some 42, .ld true 2 (.t 5), none⟩, ⟨some 43, .ld true 2 (.t 3), none⟩, ⟨some 44, .callf 61 [.t 42, .t 43], none⟩, ⟨none, .st 2 (.t 4) (.t 41), none⟩, ⟨none, .st 2 (.t 5) (.t 44), none⟩] [5, 4]))
 (.region [] [5, 4])))
 (.seq .says S_whole_divide_j1))))
theorem C_whole_divide : CodesC Go.Proofs.Try.prog F_whole_divide S_whole_divide 47 [.c 4 true 2, .c 5 true 2] := ⟨Go.Proofs.Try.f56, Go.Proofs.Try.f56.body.getD .skip, Go.Proofs.Try.func56, by kernel_rfl, by kernel_rfl, by kernel_rfl, by kernel_rfl, by kernel_rfl⟩
def F_whole_num_neg : FuncId := 57
/-- (gauge / whole.num).neg -/
def S_whole_num_neg : SC :=
 .seq (.region [⟨some 1, .box false 2 (.t 0), none⟩, ⟨some 2, .alloc true 2 [.bool false, .slice none 0 0], none⟩] [2, 1])
 (.seq (.seq .says (.drawn [0, 1, 2, 3, 4, 5, 6, 7] [⟨some 3, .fa 0 (.t 1), none⟩, ⟨some 4, .ld false 1 (.t 3), none⟩, ⟨some 5, .un .not (.t 4), none⟩, ⟨some 6, .fa 1 (.t 1), none⟩, ⟨some 7, .ld false 1 (.t 6), none⟩, ⟨some 8, .callq 100 [.t 7], none⟩, ⟨some 9, .callq 99 [.t 5, .t 8], none⟩, ⟨none, .st 2 (.t 2) (.t 9), none⟩] [2]))
 (.ret))
theorem C_whole_num_neg : CodesC Go.Proofs.Try.prog F_whole_num_neg S_whole_num_neg 10 [.c 2 true 2] := ⟨Go.Proofs.Try.f57, Go.Proofs.Try.f57.body.getD .skip, Go.Proofs.Try.func57, by kernel_rfl, by kernel_rfl, by kernel_rfl, by kernel_rfl, by kernel_rfl⟩
def F_gaugeref0_EqNat : FuncId := 58
/-- gauge / gaugeref0.EqNat -/
def S_gaugeref0_EqNat : SC :=
 .seq (.region [⟨some 4, .mv (.c (.bool false)), none⟩] [1, 0])
 (.seq (.seq (.region [⟨some 6, .mv (.t 0), none⟩, ⟨some 7, .len (.t 6), none⟩, ⟨some 8, .mv (.t 1), none⟩, ⟨some 9, .len (.t 8), none⟩, ⟨some 10, .bin .neq (.t 7) (.t 9), none⟩] [10, 1, 0])
 (.cond (.t 10) (.seq (.region [⟨some 4, .mv (.c (.bool false)), none⟩] [4])
 (.ret))
 (.region [] [1, 0])))
 (.seq (.seq (.region [⟨some 5, .mv (.c (.int .i64 0)), none⟩] [5, 1, 0])
 (.block 0 [] (.loop [5, 1, 0] (.seq (.seq (.region [⟨some 11, .mv (.t 5), none⟩, ⟨some 12, .mv (.t 0), none⟩, ⟨some 13, .len (.t 12), none⟩, ⟨some 14, .bin .lss (.t 11) (.t 13), none⟩] [14, 5, 1, 0])
 (.cond (.t 14) (.region [] [5, 1, 0])
 (.exit 0)))
 (.seq (.block 1 [5, 1, 0] (.seq (.drawn [0, 1, 2, 3, 4, 5, 6, 7, 8] [⟨some 17, .mv (.t 0), none⟩, ⟨some 18, .mv (.t 5), none⟩, ⟨some 19, .ix 1 (.t 17) (.t 18), none⟩, ⟨some 20, .ld false 1 (.t 19), none⟩, ⟨some 21, .mv (.t 1), none⟩, ⟨some 22, .mv (.t 5), none⟩, ⟨some 23, .ix 1 (.t 21) (.t 22), none⟩, ⟨some 24, .ld false 1 (.t 23), none⟩, ⟨some 25, .bin .neq (.t 20) (.t 24), none⟩] [25, 5, 1, 0])
 (.cond (.t 25) (.seq (.region [⟨some 4, .mv (.c (.bool false)), none⟩] [4])
 (.ret))
 (.region [] [5, 1, 0]))))
 (.region [⟨some 15, .mv (.t 5), none⟩, ⟨some 16, .bin .add (.t 15) (.c (.int .i64 1)), none⟩, ⟨some 5, .mv (.t 16), none⟩] [5, 1, 0]))))))
 (.seq (.region [⟨some 4, .mv (.c (.bool true)), none⟩] [4])
 (.ret))))
theorem C_gaugeref0_EqNat : Codes Go.Proofs.Try.prog F_gaugeref0_EqNat S_gaugeref0_EqNat 26 [4] := ⟨Go.Proofs.Try.f58, Go.Proofs.Try.f58.body.getD .skip, Go.Proofs.Try.func58, by kernel_rfl, by kernel_rfl, by kernel_rfl, by kernel_rfl, by kernel_rfl⟩
def F_gaugeref2_From : FuncId := 59
/-- gauge / gaugeref2.From -/
def S_gaugeref2_From : SC :=
 .seq (.region [⟨some 2, .alloc true 2 [.bool false, .slice none 0 0], none⟩] [2, 0])
 (.seq (.region [⟨some 3, .mv (.t 0), none⟩, ⟨some 4, .bin .lss (.t 3) (.c (.int .i64 0)), none⟩, ⟨some 5, .mv (.t 0), none⟩, ⟨some 6, .call 101 [.t 5], none⟩, ⟨some 7, .call 84 [.t 6], none⟩, ⟨some 8, .call 43 [.t 4, .t 7], none⟩, ⟨none, .st 2 (.t 2) (.t 8), none⟩] [2])
 (.ret))
theorem C_gaugeref2_From : CodesC Go.Proofs.Try.prog F_gaugeref2_From S_gaugeref2_From 9 [.c 2 true 2] := ⟨Go.Proofs.Try.f59, Go.Proofs.Try.f59.body.getD .skip, Go.Proofs.Try.func59, by kernel_rfl, by kernel_rfl, by kernel_rfl, by kernel_rfl, by kernel_rfl⟩
def F_gaugeref0_CopyNat : FuncId := 60
/-- gauge / gaugeref0.CopyNat -/
def S_gaugeref0_CopyNat : SC :=
 .seq (.region [⟨some 2, .mv (.c (.slice none 0 0)), none⟩] [0])
 (.seq (.region [⟨some 3, .mv (.c (.slice none 0 0)), none⟩] [3, 0])
 (.seq (.region [⟨some 4, .mv (.t 3), none⟩, ⟨some 5, .mv (.t 0), none⟩, ⟨some 6, .app false 1 8 (.t 4) (.t 5), none⟩, ⟨some 3, .mv (.t 6), none⟩] [3])
 (.seq (.region [⟨some 7, .mv (.t 3), none⟩, ⟨some 2, .mv (.t 7), none⟩] [2])
 (.ret))))
theorem C_gaugeref0_CopyNat : Codes Go.Proofs.Try.prog F_gaugeref0_CopyNat S_gaugeref0_CopyNat 8 [2] := ⟨Go.Proofs.Try.f60, Go.Proofs.Try.f60.body.getD .skip, Go.Proofs.Try.func60, by kernel_rfl, by kernel_rfl, by kernel_rfl, by kernel_rfl, by kernel_rfl⟩
def F_whole_num_plus : FuncId := 61
def S_whole_num_plus_j1 : SC :=
 .seq (.region [⟨some 35, .fa 1 (.t 2), none⟩, ⟨some 36, .ld false 1 (.t 35), none⟩, ⟨some 37, .fa 1 (.t 3), none⟩, ⟨some 38, .ld false 1 (.t 37), none⟩, ⟨some 39, .call 104 [.t 36, .t 38], none⟩, ⟨some 34, .mv (.t 39), none⟩, ⟨some 40, .ext (.t 34) 0, none⟩, ⟨some 41, .ext (.t 34) 1, none⟩, ⟨some 7, .mv (.t 40), none⟩, ⟨some 8, .mv (.t 41), none⟩] [7, 4, 2])
 (.seq (.region [⟨some 42, .fa 0 (.t 2), none⟩, ⟨some 43, .ld false 1 (.t 42), none⟩, ⟨some 44, .mv (.t 7), none⟩, ⟨some 45, .call 99 [.t 43, .t 44], none⟩, ⟨none, .st 2 (.t 4) (.t 45), none⟩] [4])
 (.ret))
/-- (gauge / whole.num).plus -/
def S_whole_num_plus : SC :=
 .seq (.region [⟨some 2, .box true 2 (.t 0), none⟩, ⟨some 3, .box true 2 (.t 1), none⟩, ⟨some 4, .alloc true 2 [.bool false, .slice none 0 0], none⟩] [4, 3, 2])
 (.seq (.seq (.region [⟨some 9, .fa 0 (.t 2), none⟩, ⟨some 10, .ld false 1 (.t 9), none⟩, ⟨some 11, .fa 0 (.t 3), none⟩, ⟨some 12, .ld false 1 (.t 11), none⟩, ⟨some 13, .beq false (.t 10) (.t 12), none⟩] [13, 4, 3, 2])
 (.cond (.t 13) (.seq (.region [⟨some 15, .fa 1 (.t 2), none⟩, ⟨some 16, .ld false 1 (.t 15), none⟩, ⟨some 17, .fa 1 (.t 3), none⟩, ⟨some 18, .ld false 1 (.t 17), none⟩, ⟨some 19, .call 102 [.t 16, .t 18], none⟩, ⟨some 14, .mv (.t 19), none⟩, ⟨some 20, .ext (.t 14) 0, none⟩, ⟨some 21, .ext (.t 14) 1, none⟩, ⟨some 5, .mv (.t 20), none⟩, ⟨some 6, .mv (.t 21), none⟩] [5, 4, 2])
 (.seq (.region [⟨some 22, .fa 0 (.t 2), none⟩, ⟨some 23, .ld false 1 (.t 22), none⟩, ⟨some 24, .mv (.t 5), none⟩, ⟨some 25, .call 99 [.t 23, .t 24], none⟩, ⟨none, .st 2 (.t 4) (.t 25), none⟩] [4])
 (.ret)))
 (.region [] [4, 3, 2])))
 (.seq (.seq (.region [⟨some 26, .fa 1 (.t 2), none⟩, ⟨some 27, .ld false 1 (.t 26), none⟩, ⟨some 28, .fa 1 (.t 3), none⟩, ⟨some 29, .ld false 1 (.t 28), none⟩, ⟨some 30, .call 103 [.t 27, .t 29], none⟩, ⟨some 31, .bin .lss (.t 30) (.c (.int .i64 0)), none⟩] [31, 4, 3, 2])
 (.cond (.t 31) (.region [⟨some 32, .ld true 2 (.t 3), none⟩, ⟨some 33, .ld true 2 (.t 2), none⟩, ⟨none, .st 2 (.t 2) (.t 32), none⟩, ⟨none, .st 2 (.t 3) (.t 33), none⟩] [4, 3, 2])
 (.region [] [4, 3, 2])))
 (.seq .says S_whole_num_plus_j1)))
theorem C_whole_num_plus : CodesC Go.Proofs.Try.prog F_whole_num_plus S_whole_num_plus 46 [.c 4 true 2] := ⟨Go.Proofs.Try.f61, Go.Proofs.Try.f61.body.getD .skip, Go.Proofs.Try.func61, by kernel_rfl, by kernel_rfl, by kernel_rfl, by kernel_rfl, by kernel_rfl⟩
def F_whole_num_less : FuncId := 62
/-- (gauge / whole.num).less -/
def S_whole_num_less : SC :=
 .seq (.region [⟨some 2, .box false 2 (.t 0), none⟩, ⟨some 3, .box false 2 (.t 1), none⟩, ⟨some 4, .alloc true 2 [.bool false, .slice none 0 0], none⟩] [4, 3, 2])
 (.seq (.seq .says (.drawn [0, 1, 2, 3, 4] [⟨some 5, .ld true 2 (.t 2), none⟩, ⟨some 6, .ld true 2 (.t 3), none⟩, ⟨some 7, .callq 57 [.t 6], none⟩, ⟨some 8, .callq 61 [.t 5, .t 7], none⟩, ⟨none, .st 2 (.t 4) (.t 8), none⟩] [4]))
 (.ret))
theorem C_whole_num_less : CodesC Go.Proofs.Try.prog F_whole_num_less S_whole_num_less 9 [.c 4 true 2] := ⟨Go.Proofs.Try.f62, Go.Proofs.Try.f62.body.getD .skip, Go.Proofs.Try.func62, by kernel_rfl, by kernel_rfl, by kernel_rfl, by kernel_rfl, by kernel_rfl⟩
def F_whole_num_times : FuncId := 63
/-- (gauge / whole.num).times -/
def S_whole_num_times : SC :=
 .seq (.region [⟨some 2, .box false 2 (.t 0), none⟩, ⟨some 3, .box false 2 (.t 1), none⟩, ⟨some 4, .alloc true 2 [.bool false, .slice none 0 0], none⟩] [4, 3, 2])
 (.seq (.region [⟨some 8, .fa 1 (.t 2), none⟩, ⟨some 9, .ld false 1 (.t 8), none⟩, ⟨some 10, .fa 1 (.t 3), none⟩, ⟨some 11, .ld false 1 (.t 10), none⟩, ⟨some 12, .call 105 [.t 9, .t 11], none⟩, ⟨some 7, .mv (.t 12), none⟩, ⟨some 13, .ext (.t 7) 0, none⟩, ⟨some 14, .ext (.t 7) 1, none⟩, ⟨some 5, .mv (.t 13), none⟩, ⟨some 6, .mv (.t 14), none⟩] [5, 4, 3, 2])
 (.seq (.region [⟨some 15, .fa 0 (.t 2), none⟩, ⟨some 16, .ld false 1 (.t 15), none⟩, ⟨some 17, .fa 0 (.t 3), none⟩, ⟨some 18, .ld false 1 (.t 17), none⟩, ⟨some 19, .beq true (.t 16) (.t 18), none⟩, ⟨some 20, .mv (.t 5), none⟩, ⟨some 21, .call 99 [.t 19, .t 20], none⟩, ⟨none, .st 2 (.t 4) (.t 21), none⟩] [4])
 (.ret)))
theorem C_whole_num_times : CodesC Go.Proofs.Try.prog F_whole_num_times S_whole_num_times 22 [.c 4 true 2] := ⟨Go.Proofs.Try.f63, Go.Proofs.Try.f63.body.getD .skip, Go.Proofs.Try.func63, by kernel_rfl, by kernel_rfl, by kernel_rfl, by kernel_rfl, by kernel_rfl⟩
def F_gaugeref1_May : FuncId := 64
/-- gauge / gaugeref1.May -/
def S_gaugeref1_May : SC :=
 .seq (.region [⟨some 2, .mv (.c (.bool false)), none⟩] [0])
 (.seq (.region [⟨some 3, .mv (.t 0), none⟩, ⟨some 4, .len (.t 3), none⟩, ⟨some 5, .bin .eql (.t 4) (.c (.int .i64 0)), none⟩, ⟨some 6, .mv (.t 5), none⟩, ⟨some 7, .mv (.t 0), some (6, false)⟩, ⟨some 8, .mv (.t 0), some (6, false)⟩, ⟨some 9, .len (.t 8), some (6, false)⟩, ⟨some 10, .bin .sub (.t 9) (.c (.int .i64 1)), some (6, false)⟩, ⟨some 11, .ix 1 (.t 7) (.t 10), some (6, false)⟩, ⟨some 12, .ld false 1 (.t 11), some (6, false)⟩, ⟨some 13, .bin .neq (.t 12) (.c (.int .u64 0)), some (6, false)⟩, ⟨some 14, .pick (.t 6) (.c (.bool true)) (.t 13), none⟩, ⟨some 2, .mv (.t 14), none⟩] [2])
 (.ret))
theorem C_gaugeref1_May : Codes Go.Proofs.Try.prog F_gaugeref1_May S_gaugeref1_May 15 [2] := ⟨Go.Proofs.Try.f64, Go.Proofs.Try.f64.body.getD .skip, Go.Proofs.Try.func64, by kernel_rfl, by kernel_rfl, by kernel_rfl, by kernel_rfl, by kernel_rfl⟩
def F_gaugeref1_Gcd : FuncId := 65
/-- gauge / gaugeref1.Gcd -/
def S_gaugeref1_Gcd : SC :=
 .seq (.region [⟨some 4, .mv (.c (.slice none 0 0)), none⟩] [1, 0])
 (.seq (.block 0 [0] (.loop [1, 0] (.seq (.seq (.region [⟨some 7, .mv (.t 1), none⟩, ⟨some 8, .len (.t 7), none⟩, ⟨some 9, .bin .gtr (.t 8) (.c (.int .i64 0)), none⟩] [9, 1, 0])
 (.cond (.t 9) (.region [] [1, 0])
 (.exit 0)))
 (.block 1 [1, 0] (.seq (.region [⟨some 11, .mv (.t 0), none⟩, ⟨some 12, .mv (.t 1), none⟩, ⟨some 13, .call 106 [.t 11, .t 12], none⟩, ⟨some 10, .mv (.t 13), none⟩, ⟨some 14, .ext (.t 10) 0, none⟩, ⟨some 15, .ext (.t 10) 1, none⟩, ⟨some 5, .mv (.t 14), none⟩, ⟨some 6, .mv (.t 15), none⟩] [6, 1])
 (.seq (.region [⟨some 16, .mv (.t 1), none⟩, ⟨some 0, .mv (.t 16), none⟩] [6, 0])
 (.region [⟨some 17, .mv (.t 6), none⟩, ⟨some 1, .mv (.t 17), none⟩] [1, 0])))))))
 (.seq (.region [⟨some 18, .mv (.t 0), none⟩, ⟨some 4, .mv (.t 18), none⟩] [4])
 (.ret)))
theorem C_gaugeref1_Gcd : Codes Go.Proofs.Try.prog F_gaugeref1_Gcd S_gaugeref1_Gcd 19 [4] := ⟨Go.Proofs.Try.f65, Go.Proofs.Try.f65.body.getD .skip, Go.Proofs.Try.func65, by kernel_rfl, by kernel_rfl, by kernel_rfl, by kernel_rfl, by kernel_rfl⟩
def F_gaugeref1_Plus : FuncId := 66
def S_gaugeref1_Plus_j1 : SC :=
 .cond (.t 23) (.region [] [9, 8, 7, 6, 5])
 (.exit 0)
def S_gaugeref1_Plus_j3 : SC :=
 .seq (.region [⟨some 48, .mv (.t 7), none⟩, ⟨some 49, .mv (.t 8), none⟩, ⟨some 50, .conv .u32 (.t 49), none⟩, ⟨some 51, .bsl false 1 1 [.int .u32 0] [(0, .t 50)], none⟩, ⟨some 52, .app false 1 4 (.t 48) (.t 51), none⟩, ⟨some 7, .mv (.t 52), none⟩] [9, 8, 7, 6, 5])
 (.region [⟨some 53, .mv (.t 8), none⟩, ⟨some 54, .bin .shr (.t 53) (.c (.int .u64 32)), none⟩, ⟨some 8, .mv (.t 54), none⟩] [9, 8, 7, 6, 5])
def S_gaugeref1_Plus_j2 : SC :=
 .seq (.seq (.region [⟨some 37, .mv (.t 9), none⟩, ⟨some 38, .mv (.t 6), none⟩, ⟨some 39, .len (.t 38), none⟩, ⟨some 40, .bin .lss (.t 37) (.t 39), none⟩] [40, 9, 8, 7, 6, 5])
 (.cond (.t 40) (.region [⟨some 41, .mv (.t 8), none⟩, ⟨some 42, .mv (.t 6), none⟩, ⟨some 43, .mv (.t 9), none⟩, ⟨some 44, .ix 1 (.t 42) (.t 43), none⟩, ⟨some 45, .ld false 1 (.t 44), none⟩, ⟨some 46, .conv .u64 (.t 45), none⟩, ⟨some 47, .bin .add (.t 41) (.t 46), none⟩, ⟨some 8, .mv (.t 47), none⟩] [9, 8, 7, 6, 5])
 (.region [] [9, 8, 7, 6, 5])))
 (.seq .says S_gaugeref1_Plus_j3)
/-- gauge / gaugeref1.Plus -/
def S_gaugeref1_Plus : SC :=
 .seq (.region [⟨some 4, .mv (.c (.slice none 0 0)), none⟩] [1, 0])
 (.seq (.region [⟨some 10, .mv (.t 0), none⟩, ⟨some 11, .call 93 [.t 10], none⟩, ⟨some 5, .mv (.t 11), none⟩] [5, 1])
 (.seq (.region [⟨some 12, .mv (.t 1), none⟩, ⟨some 13, .call 93 [.t 12], none⟩, ⟨some 6, .mv (.t 13), none⟩] [6, 5])
 (.seq (.region [⟨some 7, .mv (.c (.slice none 0 0)), none⟩] [7, 6, 5])
 (.seq (.region [⟨some 8, .mv (.c (.int .u64 0)), none⟩] [8, 7, 6, 5])
 (.seq (.seq (.region [⟨some 9, .mv (.c (.int .i64 0)), none⟩] [9, 8, 7, 6, 5])
 (.block 0 [8, 7] (.loop [9, 8, 7, 6, 5] (.seq (.seq (.region [⟨some 14, .mv (.t 9), none⟩, ⟨some 15, .mv (.t 5), none⟩, ⟨some 16, .len (.t 15), none⟩, ⟨some 17, .bin .lss (.t 14) (.t 16), none⟩, ⟨some 18, .mv (.t 17), none⟩, ⟨some 19, .mv (.t 9), some (18, false)⟩, ⟨some 20, .mv (.t 6), some (18, false)⟩, ⟨some 21, .len (.t 20), some (18, false)⟩, ⟨some 22, .bin .lss (.t 19) (.t 21), some (18, false)⟩, ⟨some 23, .pick (.t 18) (.c (.bool true)) (.t 22), none⟩] [23, 9, 8, 7, 6, 5])
 (.seq .says S_gaugeref1_Plus_j1))
 (.seq (.block 1 [9, 8, 7, 6, 5] (.seq (.seq (.region [⟨some 26, .mv (.t 9), none⟩, ⟨some 27, .mv (.t 5), none⟩, ⟨some 28, .len (.t 27), none⟩, ⟨some 29, .bin .lss (.t 26) (.t 28), none⟩] [29, 9, 8, 7, 6, 5])
 (.cond (.t 29) (.region [⟨some 30, .mv (.t 8), none⟩, ⟨some 31, .mv (.t 5), none⟩, ⟨some 32, .mv (.t 9), none⟩, ⟨some 33, .ix 1 (.t 31) (.t 32), none⟩, ⟨some 34, .ld false 1 (.t 33), none⟩, ⟨some 35, .conv .u64 (.t 34), none⟩, ⟨some 36, .bin .add (.t 30) (.t 35), none⟩, ⟨some 8, .mv (.t 36), none⟩] [9, 8, 7, 6, 5])
 (.region [] [9, 8, 7, 6, 5])))
 (.seq .says S_gaugeref1_Plus_j2)))
 (.region [⟨some 24, .mv (.t 9), none⟩, ⟨some 25, .bin .add (.t 24) (.c (.int .i64 1)), none⟩, ⟨some 9, .mv (.t 25), none⟩] [9, 8, 7, 6, 5]))))))
 (.seq (.region [⟨some 55, .mv (.t 7), none⟩, ⟨some 56, .mv (.t 8), none⟩, ⟨some 57, .conv .u32 (.t 56), none⟩, ⟨some 58, .bsl false 1 1 [.int .u32 0] [(0, .t 57)], none⟩, ⟨some 59, .app false 1 4 (.t 55) (.t 58), none⟩, ⟨some 60, .call 95 [.t 59], none⟩, ⟨some 61, .call 94 [.t 60], none⟩, ⟨some 4, .mv (.t 61), none⟩] [4])
 (.ret)))))))
theorem C_gaugeref1_Plus : Codes Go.Proofs.Try.prog F_gaugeref1_Plus S_gaugeref1_Plus 62 [4] := ⟨Go.Proofs.Try.f66, Go.Proofs.Try.f66.body.getD .skip, Go.Proofs.Try.func66, by kernel_rfl, by kernel_rfl, by kernel_rfl, by kernel_rfl, by kernel_rfl⟩
def F_gaugeref1_Less : FuncId := 67
def S_gaugeref1_Less_j1 : SC :=
 .seq (.region [⟨some 38, .mv (.t 7), none⟩, ⟨some 39, .mv (.t 8), none⟩, ⟨some 40, .conv .u64 (.t 39), none⟩, ⟨some 41, .conv .u32 (.t 40), none⟩, ⟨some 42, .bsl false 1 1 [.int .u32 0] [(0, .t 41)], none⟩, ⟨some 43, .app false 1 4 (.t 38) (.t 42), none⟩, ⟨some 7, .mv (.t 43), none⟩] [9, 8, 7, 6, 5])
 (.region [⟨some 44, .mv (.t 8), none⟩, ⟨some 45, .bin .shr (.t 44) (.c (.int .u64 32)), none⟩, ⟨some 8, .mv (.t 45), none⟩] [9, 8, 7, 6, 5])
/-- gauge / gaugeref1.Less -/
def S_gaugeref1_Less : SC :=
 .seq (.region [⟨some 4, .mv (.c (.slice none 0 0)), none⟩] [1, 0])
 (.seq (.region [⟨some 10, .mv (.t 0), none⟩, ⟨some 11, .call 93 [.t 10], none⟩, ⟨some 5, .mv (.t 11), none⟩] [5, 1])
 (.seq (.region [⟨some 12, .mv (.t 1), none⟩, ⟨some 13, .call 93 [.t 12], none⟩, ⟨some 6, .mv (.t 13), none⟩] [6, 5])
 (.seq (.region [⟨some 7, .mv (.c (.slice none 0 0)), none⟩] [7, 6, 5])
 (.seq (.region [⟨some 8, .mv (.c (.int .i64 0)), none⟩] [8, 7, 6, 5])
 (.seq (.seq (.region [⟨some 9, .mv (.c (.int .i64 0)), none⟩] [9, 8, 7, 6, 5])
 (.block 0 [7] (.loop [9, 8, 7, 6, 5] (.seq (.seq (.region [⟨some 14, .mv (.t 9), none⟩, ⟨some 15, .mv (.t 5), none⟩, ⟨some 16, .len (.t 15), none⟩, ⟨some 17, .bin .lss (.t 14) (.t 16), none⟩] [17, 9, 8, 7, 6, 5])
 (.cond (.t 17) (.region [] [9, 8, 7, 6, 5])
 (.exit 0)))
 (.seq (.block 1 [9, 8, 7, 6, 5] (.seq (.region [⟨some 20, .mv (.t 8), none⟩, ⟨some 21, .mv (.t 5), none⟩, ⟨some 22, .mv (.t 9), none⟩, ⟨some 23, .ix 1 (.t 21) (.t 22), none⟩, ⟨some 24, .ld false 1 (.t 23), none⟩, ⟨some 25, .conv .i64 (.t 24), none⟩, ⟨some 26, .bin .add (.t 20) (.t 25), none⟩, ⟨some 8, .mv (.t 26), none⟩] [9, 8, 7, 6, 5])
 (.seq (.seq (.region [⟨some 27, .mv (.t 9), none⟩, ⟨some 28, .mv (.t 6), none⟩, ⟨some 29, .len (.t 28), none⟩, ⟨some 30, .bin .lss (.t 27) (.t 29), none⟩] [30, 9, 8, 7, 6, 5])
 (.cond (.t 30) (.region [⟨some 31, .mv (.t 8), none⟩, ⟨some 32, .mv (.t 6), none⟩, ⟨some 33, .mv (.t 9), none⟩, ⟨some 34, .ix 1 (.t 32) (.t 33), none⟩, ⟨some 35, .ld false 1 (.t 34), none⟩, ⟨some 36, .conv .i64 (.t 35), none⟩, ⟨some 37, .bin .sub (.t 31) (.t 36), none⟩, ⟨some 8, .mv (.t 37), none⟩] [9, 8, 7, 6, 5])
 (.region [] [9, 8, 7, 6, 5])))
 (.seq .says S_gaugeref1_Less_j1))))
 (.region [⟨some 18, .mv (.t 9), none⟩, ⟨some 19, .bin .add (.t 18) (.c (.int .i64 1)), none⟩, ⟨some 9, .mv (.t 19), none⟩] [9, 8, 7, 6, 5]))))))
 (.seq (.region [⟨some 46, .mv (.t 7), none⟩, ⟨some 47, .call 95 [.t 46], none⟩, ⟨some 48, .call 94 [.t 47], none⟩, ⟨some 4, .mv (.t 48), none⟩] [4])
 (.ret)))))))
theorem C_gaugeref1_Less : Codes Go.Proofs.Try.prog F_gaugeref1_Less S_gaugeref1_Less 49 [4] := ⟨Go.Proofs.Try.f67, Go.Proofs.Try.f67.body.getD .skip, Go.Proofs.Try.func67, by kernel_rfl, by kernel_rfl, by kernel_rfl, by kernel_rfl, by kernel_rfl⟩
def F_gaugelaw0_Nat : FuncId := 68
/-- gauge / gaugelaw0.Nat -/
def S_gaugelaw0_Nat : SC :=
 .seq (.seq (.region [⟨some 2, .mv (.c (.int .i64 0)), none⟩] [2, 0])
 (.block 0 [0] (.loop [2, 0] (.seq (.seq (.region [⟨some 3, .mv (.t 2), none⟩, ⟨some 4, .mv (.t 0), none⟩, ⟨some 5, .len (.t 4), none⟩, ⟨some 6, .bin .lss (.t 3) (.t 5), none⟩] [6, 2, 0])
 (.cond (.t 6) (.region [] [2, 0])
 (.exit 0)))
 (.seq (.block 1 [2, 0] (.region [⟨some 9, .mv (.t 0), none⟩, ⟨some 10, .mv (.t 2), none⟩, ⟨some 11, .mv (.t 0), none⟩, ⟨some 12, .mv (.t 2), none⟩, ⟨some 13, .ix 1 (.t 11) (.t 12), none⟩, ⟨some 14, .ld false 1 (.t 13), none⟩, ⟨some 15, .bin .add (.t 14) (.c (.int .u64 21845)), none⟩, ⟨some 16, .ix 1 (.t 9) (.t 10), none⟩, ⟨none, .st 1 (.t 16) (.t 15), none⟩] [2, 0]))
 (.region [⟨some 7, .mv (.t 2), none⟩, ⟨some 8, .bin .add (.t 7) (.c (.int .i64 1)), none⟩, ⟨some 2, .mv (.t 8), none⟩] [2, 0]))))))
 (.region [⟨some 17, .mv (.t 0), none⟩, ⟨some 18, .bsl false 1 3 [.int .u64 0] [(0, .c (.int .u64 7)), (1, .c (.int .u64 7)), (2, .c (.int .u64 7))], none⟩, ⟨some 19, .app false 1 8 (.t 17) (.t 18), none⟩, ⟨some 0, .mv (.t 19), none⟩] [])
theorem C_gaugelaw0_Nat : Codes Go.Proofs.Try.prog F_gaugelaw0_Nat S_gaugelaw0_Nat 20 [] := ⟨Go.Proofs.Try.f68, Go.Proofs.Try.f68.body.getD .skip, Go.Proofs.Try.func68, by kernel_rfl, by kernel_rfl, by kernel_rfl, by kernel_rfl, by kernel_rfl⟩
def F_whole_reckon : FuncId := 69
/-- gauge / whole.reckon -/
def S_whole_reckon : SC :=
 .seq (.region [⟨some 4, .box false 2 (.t 1), none⟩, ⟨some 5, .box false 2 (.t 2), none⟩, ⟨some 6, .alloc true 2 [.bool false, .slice none 0 0], none⟩, ⟨some 7, .mv (.c (.int .i64 0)), none⟩] [6, 5, 4, 0])
 (.seq (.seq (.region [⟨some 8, .ld true 2 (.t 4), none⟩, ⟨some 9, .call 55 [.t 8], none⟩, ⟨some 10, .un .not (.t 9), none⟩, ⟨some 11, .mv (.t 10), none⟩, ⟨some 12, .ld true 2 (.t 5), some (11, false)⟩, ⟨some 13, .call 55 [.t 12], some (11, false)⟩, ⟨some 14, .un .not (.t 13), some (11, false)⟩, ⟨some 15, .pick (.t 11) (.c (.bool true)) (.t 14), none⟩] [15, 6, 5, 4, 0])
 (.cond (.t 15) (.seq (.region [⟨some 16, .build [.bool false, .slice none 0 0] [], none⟩, ⟨none, .st 2 (.t 6) (.t 16), none⟩, ⟨some 7, .mv (.c (.int .i64 20)), none⟩] [7, 6])
 (.ret))
 (.region [] [6, 5, 4, 0])))
 (.seq (.seq .says (.drawn [0, 1, 2, 3, 4, 5, 6, 7, 8] [⟨some 17, .callq 107 [], none⟩, ⟨some 18, .mv (.t 0), none⟩, ⟨some 19, .ix 1 (.t 17) (.t 18), none⟩, ⟨some 20, .ld false 1 (.t 19), none⟩, ⟨some 21, .ld true 2 (.t 4), none⟩, ⟨some 22, .ld true 2 (.t 5), none⟩, ⟨some 23, .callv true (.t 20) [.t 21, .t 22], none⟩, ⟨none, .st 2 (.t 6) (.t 23), none⟩, ⟨some 7, .mv (.c (.int .i64 0)), none⟩] [7, 6]))
 (.ret)))
theorem C_whole_reckon : CodesC Go.Proofs.Try.prog F_whole_reckon S_whole_reckon 24 [.c 6 true 2, .t 7] := ⟨Go.Proofs.Try.f69, Go.Proofs.Try.f69.body.getD .skip, Go.Proofs.Try.func69, by kernel_rfl, by kernel_rfl, by kernel_rfl, by kernel_rfl, by kernel_rfl⟩
def F_nat_Small : FuncId := 70
/-- gauge / nat.Small -/
def S_nat_Small : SC :=
 .seq (.region [⟨some 2, .mv (.c (.int .u64 0)), none⟩, ⟨some 3, .mv (.c (.bool false)), none⟩] [0])
 (.seq (.block 0 [0] (.seq (.region [⟨some 5, .mv (.t 0), none⟩, ⟨some 6, .call 108 [.t 5], none⟩, ⟨some 7, .un .not (.t 6), none⟩, ⟨some 8, .mv (.t 7), none⟩, ⟨some 9, .mv (.t 0), some (8, false)⟩, ⟨some 10, .len (.t 9), some (8, false)⟩, ⟨some 11, .bin .gtr (.t 10) (.c (.int .i64 1)), some (8, false)⟩, ⟨some 12, .pick (.t 8) (.c (.bool true)) (.t 11), none⟩, ⟨some 4, .mv (.t 12), none⟩] [4, 0])
 (.cond (.t 4) (.seq (.region [⟨some 2, .mv (.c (.int .u64 0)), none⟩, ⟨some 3, .mv (.c (.bool false)), none⟩] [3, 2])
 (.ret))
 (.seq (.region [⟨some 14, .mv (.t 0), none⟩, ⟨some 15, .len (.t 14), none⟩, ⟨some 16, .bin .eql (.t 15) (.c (.int .i64 0)), none⟩, ⟨some 13, .mv (.t 16), none⟩] [13, 0])
 (.cond (.t 13) (.seq (.region [⟨some 2, .mv (.c (.int .u64 0)), none⟩, ⟨some 3, .mv (.c (.bool true)), none⟩] [3, 2])
 (.ret))
 (.region [] [0]))))))
 (.seq (.region [⟨some 17, .mv (.t 0), none⟩, ⟨some 18, .ix 1 (.t 17) (.c (.int .i64 0)), none⟩, ⟨some 19, .ld false 1 (.t 18), none⟩, ⟨some 2, .mv (.t 19), none⟩, ⟨some 3, .mv (.c (.bool true)), none⟩] [3, 2])
 (.ret)))
theorem C_nat_Small : Codes Go.Proofs.Try.prog F_nat_Small S_nat_Small 20 [2, 3] := ⟨Go.Proofs.Try.f70, Go.Proofs.Try.f70.body.getD .skip, Go.Proofs.Try.func70, by kernel_rfl, by kernel_rfl, by kernel_rfl, by kernel_rfl, by kernel_rfl⟩
def F_nat_From : FuncId := 71
/-- gauge / nat.From -/
def S_nat_From : SC :=
 .seq (.region [⟨some 2, .mv (.c (.slice none 0 0)), none⟩] [0])
 (.seq (.seq (.region [⟨some 3, .mv (.t 0), none⟩, ⟨some 4, .bin .eql (.t 3) (.c (.int .u64 0)), none⟩] [4, 0])
 (.cond (.t 4) (.seq (.region [⟨some 2, .mv (.c (.slice none 0 0)), none⟩] [2])
 (.ret))
 (.region [] [0])))
 (.seq (.region [⟨some 5, .mv (.t 0), none⟩, ⟨some 6, .bsl false 1 1 [.int .u64 0] [(0, .t 5)], none⟩, ⟨some 2, .mv (.t 6), none⟩] [2])
 (.ret)))
theorem C_nat_From : Codes Go.Proofs.Try.prog F_nat_From S_nat_From 7 [2] := ⟨Go.Proofs.Try.f71, Go.Proofs.Try.f71.body.getD .skip, Go.Proofs.Try.func71, by kernel_rfl, by kernel_rfl, by kernel_rfl, by kernel_rfl, by kernel_rfl⟩
def F_whole_Sub : FuncId := 72
/-- gauge / whole.Sub -/
def S_whole_Sub : SC :=
 .seq (.region [⟨some 2, .box false 2 (.t 0), none⟩, ⟨some 3, .box false 2 (.t 1), none⟩, ⟨some 4, .alloc true 2 [.bool false, .slice none 0 0], none⟩, ⟨some 5, .mv (.c (.int .i64 0)), none⟩] [4, 3, 2])
 (.seq (.region [⟨some 6, .ld true 2 (.t 2), none⟩, ⟨some 7, .ld true 2 (.t 3), none⟩, ⟨some 8, .call 69 [.c (.int .i64 1), .t 6, .t 7], none⟩, ⟨some 9, .ext (.t 8) 0, none⟩, ⟨some 10, .ext (.t 8) 1, none⟩, ⟨none, .st 2 (.t 4) (.t 9), none⟩, ⟨some 5, .mv (.t 10), none⟩] [5, 4])
 (.ret))
theorem C_whole_Sub : CodesC Go.Proofs.Try.prog F_whole_Sub S_whole_Sub 11 [.c 4 true 2, .t 5] := ⟨Go.Proofs.Try.f72, Go.Proofs.Try.f72.body.getD .skip, Go.Proofs.Try.func72, by kernel_rfl, by kernel_rfl, by kernel_rfl, by kernel_rfl, by kernel_rfl⟩
def F_gaugelaw2_same : FuncId := 73
/-- gauge / gaugelaw2.same -/
def S_gaugelaw2_same : SC :=
 .seq (.region [⟨some 4, .box false 2 (.t 0), none⟩, ⟨some 6, .box false 2 (.t 2), none⟩, ⟨some 8, .mv (.c (.bool false)), none⟩] [6, 4, 3, 1])
 (.seq (.region [⟨some 10, .mv (.t 1), none⟩, ⟨some 11, .call 18 [.t 10], none⟩, ⟨some 12, .mv (.t 3), none⟩, ⟨some 13, .bin .eql (.t 11) (.t 12), none⟩, ⟨some 14, .mv (.t 13), none⟩, ⟨some 15, .mv (.t 3), some (14, true)⟩, ⟨some 16, .bin .neq (.t 15) (.c (.int .i64 0)), some (14, true)⟩, ⟨some 17, .mv (.t 16), some (14, true)⟩, ⟨some 18, .ld true 2 (.t 4), some (17, true)⟩, ⟨some 19, .build [.bool false, .slice none 0 0] [], some (17, true)⟩, ⟨some 20, .call 19 [.t 18, .t 19], some (17, true)⟩, ⟨some 21, .pick (.t 17) (.t 20) (.c (.bool false)), some (14, true)⟩, ⟨some 22, .mv (.t 21), some (14, true)⟩, ⟨some 23, .mv (.t 3), some (22, false)⟩, ⟨some 24, .bin .eql (.t 23) (.c (.int .i64 0)), some (22, false)⟩, ⟨some 25, .mv (.t 24), some (22, false)⟩, ⟨some 26, .ld true 2 (.t 4), some (25, true)⟩, ⟨some 27, .ld true 2 (.t 6), some (25, true)⟩, ⟨some 28, .call 19 [.t 26, .t 27], some (25, true)⟩, ⟨some 29, .pick (.t 25) (.t 28) (.c (.bool false)), some (22, false)⟩, ⟨some 30, .pick (.t 22) (.c (.bool true)) (.t 29), some (14, true)⟩, ⟨some 31, .pick (.t 14) (.t 30) (.c (.bool false)), none⟩, ⟨some 9, .mv (.t 31), none⟩] [9, 4])
 (.seq (.region [⟨some 32, .ld true 2 (.t 4), none⟩, ⟨some 33, .call 27 [.t 32], none⟩] [9])
 (.seq (.region [⟨some 34, .mv (.t 9), none⟩, ⟨some 8, .mv (.t 34), none⟩] [8])
 (.ret))))
theorem C_gaugelaw2_same : Codes Go.Proofs.Try.prog F_gaugelaw2_same S_gaugelaw2_same 35 [8] := ⟨Go.Proofs.Try.f73, Go.Proofs.Try.f73.body.getD .skip, Go.Proofs.Try.func73, by kernel_rfl, by kernel_rfl, by kernel_rfl, by kernel_rfl, by kernel_rfl⟩
def F_gaugeref2_Less : FuncId := 74
/-- gauge / gaugeref2.Less -/
def S_gaugeref2_Less : SC :=
 .seq (.region [⟨some 2, .box false 2 (.t 0), none⟩, ⟨some 3, .box false 2 (.t 1), none⟩, ⟨some 4, .alloc true 2 [.bool false, .slice none 0 0], none⟩] [4, 3, 2])
 (.seq (.seq .says (.drawn [0, 1, 2, 3, 4] [⟨some 5, .ld true 2 (.t 2), none⟩, ⟨some 6, .ld true 2 (.t 3), none⟩, ⟨some 7, .callq 81 [.t 6], none⟩, ⟨some 8, .callq 25 [.t 5, .t 7], none⟩, ⟨none, .st 2 (.t 4) (.t 8), none⟩] [4]))
 (.ret))
theorem C_gaugeref2_Less : CodesC Go.Proofs.Try.prog F_gaugeref2_Less S_gaugeref2_Less 9 [.c 4 true 2] := ⟨Go.Proofs.Try.f74, Go.Proofs.Try.f74.body.getD .skip, Go.Proofs.Try.func74, by kernel_rfl, by kernel_rfl, by kernel_rfl, by kernel_rfl, by kernel_rfl⟩
def F_gaugeref2_Divide : FuncId := 75
def S_gaugeref2_Divide_j1 : SC :=
 .seq (.seq .says (.drawn [0, 1, 2, 3, 4, 5, 6, 7] [⟨some 37, .ld true 2 (.t 8), none⟩, ⟨some 38, .ld true 2 (.t 2), none⟩, ⟨some 39, .ld true 2 (.t 8), none⟩, ⟨some 40, .ld true 2 (.t 3), none⟩, ⟨some 41, .callf 26 [.t 39, .t 40], none⟩, ⟨some 42, .callf 74 [.t 38, .t 41], none⟩, ⟨none, .st 2 (.t 4) (.t 37), none⟩, ⟨none, .st 2 (.t 5) (.t 42), none⟩] [5, 4]))
 (.ret)
/-- gauge / gaugeref2.Divide -/
def S_gaugeref2_Divide : SC :=
 .seq (.region [⟨some 2, .box false 2 (.t 0), none⟩, ⟨some 3, .box false 2 (.t 1), none⟩, ⟨some 4, .alloc true 2 [.bool false, .slice none 0 0], none⟩, ⟨some 5, .alloc true 2 [.bool false, .slice none 0 0], none⟩] [5, 4, 3, 2])
 (.seq (.region [⟨some 10, .fa 1 (.t 2), none⟩, ⟨some 11, .ld false 1 (.t 10), none⟩, ⟨some 12, .fa 1 (.t 3), none⟩, ⟨some 13, .ld false 1 (.t 12), none⟩, ⟨some 14, .call 106 [.t 11, .t 13], none⟩, ⟨some 9, .mv (.t 14), none⟩, ⟨some 15, .ext (.t 9) 0, none⟩, ⟨some 16, .ext (.t 9) 1, none⟩, ⟨some 6, .mv (.t 15), none⟩, ⟨some 7, .mv (.t 16), none⟩] [7, 6, 5, 4, 3, 2])
 (.seq (.region [⟨some 17, .fa 0 (.t 2), none⟩, ⟨some 18, .ld false 1 (.t 17), none⟩, ⟨some 19, .fa 0 (.t 3), none⟩, ⟨some 20, .ld false 1 (.t 19), none⟩, ⟨some 21, .beq true (.t 18) (.t 20), none⟩, ⟨some 22, .mv (.t 6), none⟩, ⟨some 23, .call 43 [.t 21, .t 22], none⟩, ⟨some 8, .alloc true 2 [.bool false, .slice none 0 0], none⟩, ⟨none, .st 2 (.t 8) (.t 23), none⟩] [8, 7, 5, 4, 3, 2])
 (.seq .says (.seq (.seq (.region [⟨some 24, .fa 0 (.t 2), none⟩, ⟨some 25, .ld false 1 (.t 24), none⟩, ⟨some 26, .fa 0 (.t 3), none⟩, ⟨some 27, .ld false 1 (.t 26), none⟩, ⟨some 28, .beq true (.t 25) (.t 27), none⟩, ⟨some 29, .mv (.t 28), none⟩, ⟨some 30, .mv (.t 7), some (29, true)⟩, ⟨some 31, .len (.t 30), some (29, true)⟩, ⟨some 32, .bin .gtr (.t 31) (.c (.int .i64 0)), some (29, true)⟩, ⟨some 33, .pick (.t 29) (.t 32) (.c (.bool false)), none⟩] [33, 8, 5, 4, 3, 2])
 (.cond (.t 33) (.seq .says (.drawn [0, 1, 2, 3] [⟨some 34, .ld true 2 (.t 8), none⟩, ⟨some 35, .callq 59 [.c (.int .i64 1)], none⟩, ⟨some 36, .callq 74 [.t 34, .t 35], none⟩, ⟨none, .st 2 (.t 8) (.t 36), none⟩] [8, 5, 4, 3, 2]))
 (.region [] [8, 5, 4, 3, 2])))
 (.seq .says S_gaugeref2_Divide_j1)))))
theorem C_gaugeref2_Divide : CodesC Go.Proofs.Try.prog F_gaugeref2_Divide S_gaugeref2_Divide 43 [.c 4 true 2, .c 5 true 2] := ⟨Go.Proofs.Try.f75, Go.Proofs.Try.f75.body.getD .skip, Go.Proofs.Try.func75, by kernel_rfl, by kernel_rfl, by kernel_rfl, by kernel_rfl, by kernel_rfl⟩
def F_whole_Text : FuncId := 76
/-- gauge / whole.Text -/
def S_whole_Text : SC :=
 .seq (.region [⟨some 1, .box false 2 (.t 0), none⟩, ⟨some 2, .mv (.c (.string ⟨#[]⟩)), none⟩] [1])
 (.seq (.block 0 [1] (.seq (.region [⟨some 4, .ld true 2 (.t 1), none⟩, ⟨some 5, .call 55 [.t 4], none⟩, ⟨some 6, .un .not (.t 5), none⟩, ⟨some 3, .mv (.t 6), none⟩] [3, 1])
 (.cond (.t 3) (.seq (.region [⟨some 2, .mv (.c (.string ⟨#[]⟩)), none⟩] [2])
 (.ret))
 (.seq (.region [⟨some 8, .fa 0 (.t 1), none⟩, ⟨some 9, .ld false 1 (.t 8), none⟩, ⟨some 7, .mv (.t 9), none⟩] [7, 1])
 (.cond (.t 7) (.seq (.region [⟨some 10, .fa 1 (.t 1), none⟩, ⟨some 11, .ld false 1 (.t 10), none⟩, ⟨some 12, .call 109 [.t 11], none⟩, ⟨some 13, .bin .add (.c (.string ⟨#[45]⟩)) (.t 12), none⟩, ⟨some 2, .mv (.t 13), none⟩] [2])
 (.ret))
 (.region [] [1]))))))
 (.seq (.region [⟨some 14, .fa 1 (.t 1), none⟩, ⟨some 15, .ld false 1 (.t 14), none⟩, ⟨some 16, .call 109 [.t 15], none⟩, ⟨some 2, .mv (.t 16), none⟩] [2])
 (.ret)))
theorem C_whole_Text : Codes Go.Proofs.Try.prog F_whole_Text S_whole_Text 17 [2] := ⟨Go.Proofs.Try.f76, Go.Proofs.Try.f76.body.getD .skip, Go.Proofs.Try.func76, by kernel_rfl, by kernel_rfl, by kernel_rfl, by kernel_rfl, by kernel_rfl⟩
def F_whole_Cmp : FuncId := 77
/-- gauge / whole.Cmp -/
def S_whole_Cmp : SC :=
 .seq (.region [⟨some 2, .box false 2 (.t 0), none⟩, ⟨some 3, .box false 2 (.t 1), none⟩, ⟨some 4, .mv (.c (.int .i64 0)), none⟩] [3, 2])
 (.seq (.seq (.region [⟨some 5, .ld true 2 (.t 2), none⟩, ⟨some 6, .call 55 [.t 5], none⟩, ⟨some 7, .un .not (.t 6), none⟩, ⟨some 8, .mv (.t 7), none⟩, ⟨some 9, .ld true 2 (.t 3), some (8, false)⟩, ⟨some 10, .call 55 [.t 9], some (8, false)⟩, ⟨some 11, .un .not (.t 10), some (8, false)⟩, ⟨some 12, .pick (.t 8) (.c (.bool true)) (.t 11), none⟩] [12, 3, 2])
 (.cond (.t 12) (.seq (.region [⟨some 4, .mv (.c (.int .i64 0)), none⟩] [4])
 (.ret))
 (.region [] [3, 2])))
 (.seq (.region [⟨some 13, .ld true 2 (.t 2), none⟩, ⟨some 14, .ld true 2 (.t 3), none⟩, ⟨some 15, .call 62 [.t 13, .t 14], none⟩, ⟨some 16, .call 30 [.t 15], none⟩, ⟨some 4, .mv (.t 16), none⟩] [4])
 (.ret)))
theorem C_whole_Cmp : Codes Go.Proofs.Try.prog F_whole_Cmp S_whole_Cmp 17 [4] := ⟨Go.Proofs.Try.f77, Go.Proofs.Try.f77.body.getD .skip, Go.Proofs.Try.func77, by kernel_rfl, by kernel_rfl, by kernel_rfl, by kernel_rfl, by kernel_rfl⟩
def F_whole_Check : FuncId := 78
/-- gauge / whole.Check -/
def S_whole_Check : SC :=
 .seq (.region [⟨some 1, .box false 2 (.t 0), none⟩, ⟨some 2, .mv (.c (.int .i64 0)), none⟩] [1])
 (.seq (.seq (.region [⟨some 3, .ld true 2 (.t 1), none⟩, ⟨some 4, .call 55 [.t 3], none⟩] [4])
 (.cond (.t 4) (.seq (.region [⟨some 2, .mv (.c (.int .i64 0)), none⟩] [2])
 (.ret))
 (.region [] [])))
 (.seq (.region [⟨some 2, .mv (.c (.int .i64 20)), none⟩] [2])
 (.ret)))
theorem C_whole_Check : Codes Go.Proofs.Try.prog F_whole_Check S_whole_Check 5 [2] := ⟨Go.Proofs.Try.f78, Go.Proofs.Try.f78.body.getD .skip, Go.Proofs.Try.func78, by kernel_rfl, by kernel_rfl, by kernel_rfl, by kernel_rfl, by kernel_rfl⟩
def F_gaugeref2_Small : FuncId := 79
/-- gauge / gaugeref2.Small -/
def S_gaugeref2_Small : SC :=
 .seq (.region [⟨some 1, .box false 2 (.t 0), none⟩, ⟨some 2, .mv (.c (.int .i64 0)), none⟩, ⟨some 3, .mv (.c (.bool false)), none⟩] [1])
 (.seq (.seq (.region [⟨some 5, .fa 1 (.t 1), none⟩, ⟨some 6, .ld false 1 (.t 5), none⟩, ⟨some 7, .len (.t 6), none⟩, ⟨some 8, .bin .eql (.t 7) (.c (.int .i64 0)), none⟩] [8, 1])
 (.cond (.t 8) (.seq (.region [⟨some 2, .mv (.c (.int .i64 0)), none⟩, ⟨some 3, .mv (.c (.bool true)), none⟩] [3, 2])
 (.ret))
 (.region [] [1])))
 (.seq (.region [⟨some 9, .fa 1 (.t 1), none⟩, ⟨some 10, .ld false 1 (.t 9), none⟩, ⟨some 11, .ix 1 (.t 10) (.c (.int .i64 0)), none⟩, ⟨some 12, .ld false 1 (.t 11), none⟩, ⟨some 4, .mv (.t 12), none⟩] [4, 1])
 (.seq (.seq (.region [⟨some 13, .fa 1 (.t 1), none⟩, ⟨some 14, .ld false 1 (.t 13), none⟩, ⟨some 15, .len (.t 14), none⟩, ⟨some 16, .bin .gtr (.t 15) (.c (.int .i64 1)), none⟩, ⟨some 17, .mv (.t 16), none⟩, ⟨some 18, .fa 0 (.t 1), some (17, false)⟩, ⟨some 19, .ld false 1 (.t 18), some (17, false)⟩, ⟨some 20, .mv (.t 19), some (17, false)⟩, ⟨some 21, .mv (.t 4), some (20, true)⟩, ⟨some 22, .bin .gtr (.t 21) (.c (.int .u64 9223372036854775808)), some (20, true)⟩, ⟨some 23, .pick (.t 20) (.t 22) (.c (.bool false)), some (17, false)⟩, ⟨some 24, .pick (.t 17) (.c (.bool true)) (.t 23), none⟩, ⟨some 25, .mv (.t 24), none⟩, ⟨some 26, .fa 0 (.t 1), some (25, false)⟩, ⟨some 27, .ld false 1 (.t 26), some (25, false)⟩, ⟨some 28, .un .not (.t 27), some (25, false)⟩, ⟨some 29, .mv (.t 28), some (25, false)⟩, ⟨some 30, .mv (.t 4), some (29, true)⟩, ⟨some 31, .bin .geq (.t 30) (.c (.int .u64 9223372036854775808)), some (29, true)⟩, ⟨some 32, .pick (.t 29) (.t 31) (.c (.bool false)), some (25, false)⟩, ⟨some 33, .pick (.t 25) (.c (.bool true)) (.t 32), none⟩] [33, 4, 1])
 (.cond (.t 33) (.seq (.region [⟨some 2, .mv (.c (.int .i64 0)), none⟩, ⟨some 3, .mv (.c (.bool false)), none⟩] [3, 2])
 (.ret))
 (.region [] [4, 1])))
 (.seq (.seq (.region [⟨some 34, .fa 0 (.t 1), none⟩, ⟨some 35, .ld false 1 (.t 34), none⟩] [35, 4])
 (.cond (.t 35) (.seq (.region [⟨some 36, .mv (.t 4), none⟩, ⟨some 37, .bin .sub (.c (.int .u64 0)) (.t 36), none⟩, ⟨some 38, .conv .i64 (.t 37), none⟩, ⟨some 2, .mv (.t 38), none⟩, ⟨some 3, .mv (.c (.bool true)), none⟩] [3, 2])
 (.ret))
 (.region [] [4])))
 (.seq (.region [⟨some 39, .mv (.t 4), none⟩, ⟨some 40, .conv .i64 (.t 39), none⟩, ⟨some 2, .mv (.t 40), none⟩, ⟨some 3, .mv (.c (.bool true)), none⟩] [3, 2])
 (.ret))))))
theorem C_gaugeref2_Small : Codes Go.Proofs.Try.prog F_gaugeref2_Small S_gaugeref2_Small 41 [2, 3] := ⟨Go.Proofs.Try.f79, Go.Proofs.Try.f79.body.getD .skip, Go.Proofs.Try.func79, by kernel_rfl, by kernel_rfl, by kernel_rfl, by kernel_rfl, by kernel_rfl⟩
def F_gaugeref2_Cmp : FuncId := 80
/-- gauge / gaugeref2.Cmp -/
def S_gaugeref2_Cmp : SC :=
 .seq (.region [⟨some 2, .box false 2 (.t 0), none⟩, ⟨some 3, .box false 2 (.t 1), none⟩, ⟨some 4, .mv (.c (.int .i64 0)), none⟩] [3, 2])
 (.seq (.region [⟨some 5, .ld true 2 (.t 2), none⟩, ⟨some 6, .ld true 2 (.t 3), none⟩, ⟨some 7, .call 74 [.t 5, .t 6], none⟩, ⟨some 8, .call 82 [.t 7], none⟩, ⟨some 4, .mv (.t 8), none⟩] [4])
 (.ret))
theorem C_gaugeref2_Cmp : Codes Go.Proofs.Try.prog F_gaugeref2_Cmp S_gaugeref2_Cmp 9 [4] := ⟨Go.Proofs.Try.f80, Go.Proofs.Try.f80.body.getD .skip, Go.Proofs.Try.func80, by kernel_rfl, by kernel_rfl, by kernel_rfl, by kernel_rfl, by kernel_rfl⟩
def F_gaugeref2_Neg : FuncId := 81
/-- gauge / gaugeref2.Neg -/
def S_gaugeref2_Neg : SC :=
 .seq (.region [⟨some 1, .box false 2 (.t 0), none⟩, ⟨some 2, .alloc true 2 [.bool false, .slice none 0 0], none⟩] [2, 1])
 (.seq (.region [⟨some 3, .fa 0 (.t 1), none⟩, ⟨some 4, .ld false 1 (.t 3), none⟩, ⟨some 5, .un .not (.t 4), none⟩, ⟨some 6, .fa 1 (.t 1), none⟩, ⟨some 7, .ld false 1 (.t 6), none⟩, ⟨some 8, .call 43 [.t 5, .t 7], none⟩, ⟨none, .st 2 (.t 2) (.t 8), none⟩] [2])
 (.ret))
theorem C_gaugeref2_Neg : CodesC Go.Proofs.Try.prog F_gaugeref2_Neg S_gaugeref2_Neg 9 [.c 2 true 2] := ⟨Go.Proofs.Try.f81, Go.Proofs.Try.f81.body.getD .skip, Go.Proofs.Try.func81, by kernel_rfl, by kernel_rfl, by kernel_rfl, by kernel_rfl, by kernel_rfl⟩
def F_gaugeref2_Sign : FuncId := 82
/-- gauge / gaugeref2.Sign -/
def S_gaugeref2_Sign : SC :=
 .seq (.region [⟨some 1, .box false 2 (.t 0), none⟩, ⟨some 2, .mv (.c (.int .i64 0)), none⟩] [1])
 (.seq (.seq (.region [⟨some 3, .fa 0 (.t 1), none⟩, ⟨some 4, .ld false 1 (.t 3), none⟩] [4, 1])
 (.cond (.t 4) (.seq (.region [⟨some 2, .mv (.c (.int .i64 (-1))), none⟩] [2])
 (.ret))
 (.region [] [1])))
 (.seq (.seq (.region [⟨some 5, .fa 1 (.t 1), none⟩, ⟨some 6, .ld false 1 (.t 5), none⟩, ⟨some 7, .len (.t 6), none⟩, ⟨some 8, .bin .gtr (.t 7) (.c (.int .i64 0)), none⟩] [8])
 (.cond (.t 8) (.seq (.region [⟨some 2, .mv (.c (.int .i64 1)), none⟩] [2])
 (.ret))
 (.region [] [])))
 (.seq (.region [⟨some 2, .mv (.c (.int .i64 0)), none⟩] [2])
 (.ret))))
theorem C_gaugeref2_Sign : Codes Go.Proofs.Try.prog F_gaugeref2_Sign S_gaugeref2_Sign 9 [2] := ⟨Go.Proofs.Try.f82, Go.Proofs.Try.f82.body.getD .skip, Go.Proofs.Try.func82, by kernel_rfl, by kernel_rfl, by kernel_rfl, by kernel_rfl, by kernel_rfl⟩
def F_gaugeref2_Text : FuncId := 83
/-- gauge / gaugeref2.Text -/
def S_gaugeref2_Text : SC :=
 .seq (.region [⟨some 1, .box false 2 (.t 0), none⟩, ⟨some 2, .mv (.c (.string ⟨#[]⟩)), none⟩] [1])
 (.seq (.seq (.region [⟨some 3, .fa 0 (.t 1), none⟩, ⟨some 4, .ld false 1 (.t 3), none⟩] [4, 1])
 (.cond (.t 4) (.seq (.region [⟨some 5, .fa 1 (.t 1), none⟩, ⟨some 6, .ld false 1 (.t 5), none⟩, ⟨some 7, .call 110 [.t 6], none⟩, ⟨some 8, .bin .add (.c (.string ⟨#[45]⟩)) (.t 7), none⟩, ⟨some 2, .mv (.t 8), none⟩] [2])
 (.ret))
 (.region [] [1])))
 (.seq (.region [⟨some 9, .fa 1 (.t 1), none⟩, ⟨some 10, .ld false 1 (.t 9), none⟩, ⟨some 11, .call 110 [.t 10], none⟩, ⟨some 2, .mv (.t 11), none⟩] [2])
 (.ret)))
theorem C_gaugeref2_Text : Codes Go.Proofs.Try.prog F_gaugeref2_Text S_gaugeref2_Text 12 [2] := ⟨Go.Proofs.Try.f83, Go.Proofs.Try.f83.body.getD .skip, Go.Proofs.Try.func83, by kernel_rfl, by kernel_rfl, by kernel_rfl, by kernel_rfl, by kernel_rfl⟩
def F_gaugeref1_Of : FuncId := 84
/-- gauge / gaugeref1.Of -/
def S_gaugeref1_Of : SC :=
 .seq (.region [⟨some 2, .mv (.c (.slice none 0 0)), none⟩] [0])
 (.seq (.region [⟨some 3, .mv (.t 0), none⟩, ⟨some 4, .bsl false 1 1 [.int .u64 0] [(0, .t 3)], none⟩, ⟨some 5, .call 44 [.t 4], none⟩, ⟨some 2, .mv (.t 5), none⟩] [2])
 (.ret))
theorem C_gaugeref1_Of : Codes Go.Proofs.Try.prog F_gaugeref1_Of S_gaugeref1_Of 6 [2] := ⟨Go.Proofs.Try.f84, Go.Proofs.Try.f84.body.getD .skip, Go.Proofs.Try.func84, by kernel_rfl, by kernel_rfl, by kernel_rfl, by kernel_rfl, by kernel_rfl⟩
def F_gaugeref3_Make : FuncId := 85
/-- gauge / gaugeref3.Make -/
def S_gaugeref3_Make : SC :=
 .seq (.region [⟨some 2, .box false 2 (.t 0), none⟩, ⟨some 4, .alloc true 3 [.bool false, .slice none 0 0, .slice none 0 0], none⟩] [4, 2, 1])
 (.seq (.region [⟨some 10, .fa 1 (.t 2), none⟩, ⟨some 11, .ld false 1 (.t 10), none⟩, ⟨some 12, .mv (.t 1), none⟩, ⟨some 13, .call 65 [.t 11, .t 12], none⟩, ⟨some 5, .mv (.t 13), none⟩] [5, 4, 2, 1])
 (.seq (.region [⟨some 15, .fa 1 (.t 2), none⟩, ⟨some 16, .ld false 1 (.t 15), none⟩, ⟨some 17, .mv (.t 5), none⟩, ⟨some 18, .call 106 [.t 16, .t 17], none⟩, ⟨some 14, .mv (.t 18), none⟩, ⟨some 19, .ext (.t 14) 0, none⟩, ⟨some 20, .ext (.t 14) 1, none⟩, ⟨some 6, .mv (.t 19), none⟩, ⟨some 7, .mv (.t 20), none⟩] [6, 5, 4, 2, 1])
 (.seq (.region [⟨some 22, .mv (.t 1), none⟩, ⟨some 23, .mv (.t 5), none⟩, ⟨some 24, .call 106 [.t 22, .t 23], none⟩, ⟨some 21, .mv (.t 24), none⟩, ⟨some 25, .ext (.t 21) 0, none⟩, ⟨some 26, .ext (.t 21) 1, none⟩, ⟨some 8, .mv (.t 25), none⟩, ⟨some 9, .mv (.t 26), none⟩] [8, 6, 4, 2])
 (.seq (.region [⟨some 27, .fa 0 (.t 2), none⟩, ⟨some 28, .ld false 1 (.t 27), none⟩, ⟨some 29, .mv (.t 6), none⟩, ⟨some 30, .call 43 [.t 28, .t 29], none⟩, ⟨some 31, .mv (.t 8), none⟩, ⟨some 32, .build [.bool false, .slice none 0 0, .slice none 0 0] [(0, 2, .t 30), (2, 1, .t 31)], none⟩, ⟨none, .st 3 (.t 4) (.t 32), none⟩] [4])
 (.ret)))))
theorem C_gaugeref3_Make : CodesC Go.Proofs.Try.prog F_gaugeref3_Make S_gaugeref3_Make 33 [.c 4 true 3] := ⟨Go.Proofs.Try.f85, Go.Proofs.Try.f85.body.getD .skip, Go.Proofs.Try.func85, by kernel_rfl, by kernel_rfl, by kernel_rfl, by kernel_rfl, by kernel_rfl⟩
def F_ratio_Sub : FuncId := 86
/-- gauge / ratio.Sub -/
def S_ratio_Sub : SC :=
 .seq (.region [⟨some 2, .box false 3 (.t 0), none⟩, ⟨some 3, .box false 3 (.t 1), none⟩, ⟨some 4, .alloc true 3 [.bool false, .slice none 0 0, .slice none 0 0], none⟩, ⟨some 5, .mv (.c (.int .i64 0)), none⟩] [4, 3, 2])
 (.seq (.region [⟨some 6, .ld true 3 (.t 2), none⟩, ⟨some 7, .ld true 3 (.t 3), none⟩, ⟨some 8, .call 97 [.c (.int .i64 0), .t 6, .t 7], none⟩, ⟨some 9, .ext (.t 8) 0, none⟩, ⟨some 10, .ext (.t 8) 1, none⟩, ⟨none, .st 3 (.t 4) (.t 9), none⟩, ⟨some 5, .mv (.t 10), none⟩] [5, 4])
 (.ret))
theorem C_ratio_Sub : CodesC Go.Proofs.Try.prog F_ratio_Sub S_ratio_Sub 11 [.c 4 true 3, .t 5] := ⟨Go.Proofs.Try.f86, Go.Proofs.Try.f86.body.getD .skip, Go.Proofs.Try.func86, by kernel_rfl, by kernel_rfl, by kernel_rfl, by kernel_rfl, by kernel_rfl⟩
def F_ratio_good : FuncId := 87
/-- gauge / ratio.good -/
def S_ratio_good : SC :=
 .seq (.region [⟨some 1, .box false 3 (.t 0), none⟩, ⟨some 2, .mv (.c (.bool false)), none⟩] [1])
 (.seq (.seq (.region [⟨some 5, .fa 0 (.t 1), none⟩, ⟨some 6, .ld true 2 (.t 5), none⟩, ⟨some 7, .call 78 [.t 6], none⟩, ⟨some 8, .bin .neq (.t 7) (.c (.int .i64 0)), none⟩, ⟨some 9, .mv (.t 8), none⟩, ⟨some 10, .fa 2 (.t 1), some (9, false)⟩, ⟨some 11, .ld false 1 (.t 10), some (9, false)⟩, ⟨some 12, .call 91 [.t 11], some (9, false)⟩, ⟨some 13, .bin .neq (.t 12) (.c (.int .i64 0)), some (9, false)⟩, ⟨some 14, .pick (.t 9) (.c (.bool true)) (.t 13), none⟩, ⟨some 15, .mv (.t 14), none⟩, ⟨some 16, .fa 2 (.t 1), some (15, false)⟩, ⟨some 17, .ld false 1 (.t 16), some (15, false)⟩, ⟨some 18, .len (.t 17), some (15, false)⟩, ⟨some 19, .bin .eql (.t 18) (.c (.int .i64 0)), some (15, false)⟩, ⟨some 20, .pick (.t 15) (.c (.bool true)) (.t 19), none⟩] [20, 1])
 (.cond (.t 20) (.seq (.region [⟨some 2, .mv (.c (.bool false)), none⟩] [2])
 (.ret))
 (.region [] [1])))
 (.seq (.region [⟨some 22, .fa 0 (.t 1), none⟩, ⟨some 23, .fa 1 (.t 22), none⟩, ⟨some 24, .ld false 1 (.t 23), none⟩, ⟨some 25, .fa 2 (.t 1), none⟩, ⟨some 26, .ld false 1 (.t 25), none⟩, ⟨some 27, .call 111 [.t 24, .t 26], none⟩, ⟨some 21, .mv (.t 27), none⟩, ⟨some 28, .ext (.t 21) 0, none⟩, ⟨some 29, .ext (.t 21) 1, none⟩, ⟨some 3, .mv (.t 28), none⟩, ⟨some 4, .mv (.t 29), none⟩] [3])
 (.seq (.region [⟨some 30, .mv (.t 3), none⟩, ⟨some 31, .call 112 [.t 30], none⟩, ⟨some 2, .mv (.t 31), none⟩] [2])
 (.ret))))
theorem C_ratio_good : Codes Go.Proofs.Try.prog F_ratio_good S_ratio_good 32 [2] := ⟨Go.Proofs.Try.f87, Go.Proofs.Try.f87.body.getD .skip, Go.Proofs.Try.func87, by kernel_rfl, by kernel_rfl, by kernel_rfl, by kernel_rfl, by kernel_rfl⟩
def F_ratio_over : FuncId := 88
/-- gauge / ratio.over -/
def S_ratio_over : SC :=
 .seq (.region [⟨some 2, .box false 2 (.t 0), none⟩, ⟨some 4, .alloc true 2 [.bool false, .slice none 0 0], none⟩] [4, 2, 1])
 (.seq (.region [⟨some 8, .ld true 2 (.t 2), none⟩, ⟨some 9, .mv (.t 1), none⟩, ⟨some 10, .build [.bool false, .slice none 0 0] [(1, 1, .t 9)], none⟩, ⟨some 11, .call 28 [.t 8, .t 10], none⟩, ⟨some 7, .mv (.t 11), none⟩, ⟨some 12, .ext (.t 7) 0, none⟩, ⟨some 13, .ext (.t 7) 1, none⟩, ⟨some 5, .alloc true 2 [.bool false, .slice none 0 0], none⟩, ⟨none, .st 2 (.t 5) (.t 12), none⟩, ⟨some 6, .mv (.t 13), none⟩] [5, 4])
 (.seq .says (.seq (.region [⟨some 14, .ld true 2 (.t 5), none⟩, ⟨none, .st 2 (.t 4) (.t 14), none⟩] [4])
 (.ret))))
theorem C_ratio_over : CodesC Go.Proofs.Try.prog F_ratio_over S_ratio_over 15 [.c 4 true 2] := ⟨Go.Proofs.Try.f88, Go.Proofs.Try.f88.body.getD .skip, Go.Proofs.Try.func88, by kernel_rfl, by kernel_rfl, by kernel_rfl, by kernel_rfl, by kernel_rfl⟩
def F_ratio_Add : FuncId := 89
/-- gauge / ratio.Add -/
def S_ratio_Add : SC :=
 .seq (.region [⟨some 2, .box false 3 (.t 0), none⟩, ⟨some 3, .box false 3 (.t 1), none⟩, ⟨some 4, .alloc true 3 [.bool false, .slice none 0 0, .slice none 0 0], none⟩, ⟨some 5, .mv (.c (.int .i64 0)), none⟩] [4, 3, 2])
 (.seq (.region [⟨some 6, .ld true 3 (.t 2), none⟩, ⟨some 7, .ld true 3 (.t 3), none⟩, ⟨some 8, .call 97 [.c (.int .i64 1), .t 6, .t 7], none⟩, ⟨some 9, .ext (.t 8) 0, none⟩, ⟨some 10, .ext (.t 8) 1, none⟩, ⟨none, .st 3 (.t 4) (.t 9), none⟩, ⟨some 5, .mv (.t 10), none⟩] [5, 4])
 (.ret))
theorem C_ratio_Add : CodesC Go.Proofs.Try.prog F_ratio_Add S_ratio_Add 11 [.c 4 true 3, .t 5] := ⟨Go.Proofs.Try.f89, Go.Proofs.Try.f89.body.getD .skip, Go.Proofs.Try.func89, by kernel_rfl, by kernel_rfl, by kernel_rfl, by kernel_rfl, by kernel_rfl⟩
def F_ratio_Mul : FuncId := 90
/-- gauge / ratio.Mul -/
def S_ratio_Mul : SC :=
 .seq (.region [⟨some 2, .box false 3 (.t 0), none⟩, ⟨some 3, .box false 3 (.t 1), none⟩, ⟨some 4, .alloc true 3 [.bool false, .slice none 0 0, .slice none 0 0], none⟩, ⟨some 5, .mv (.c (.int .i64 0)), none⟩] [4, 3, 2])
 (.seq (.region [⟨some 6, .ld true 3 (.t 2), none⟩, ⟨some 7, .ld true 3 (.t 3), none⟩, ⟨some 8, .call 97 [.c (.int .i64 3), .t 6, .t 7], none⟩, ⟨some 9, .ext (.t 8) 0, none⟩, ⟨some 10, .ext (.t 8) 1, none⟩, ⟨none, .st 3 (.t 4) (.t 9), none⟩, ⟨some 5, .mv (.t 10), none⟩] [5, 4])
 (.ret))
theorem C_ratio_Mul : CodesC Go.Proofs.Try.prog F_ratio_Mul S_ratio_Mul 11 [.c 4 true 3, .t 5] := ⟨Go.Proofs.Try.f90, Go.Proofs.Try.f90.body.getD .skip, Go.Proofs.Try.func90, by kernel_rfl, by kernel_rfl, by kernel_rfl, by kernel_rfl, by kernel_rfl⟩
def F_nat_Check : FuncId := 91
/-- gauge / nat.Check -/
def S_nat_Check : SC :=
 .seq (.region [⟨some 2, .mv (.c (.int .i64 0)), none⟩] [0])
 (.seq (.seq (.region [⟨some 3, .mv (.t 0), none⟩, ⟨some 4, .call 108 [.t 3], none⟩] [4])
 (.cond (.t 4) (.seq (.region [⟨some 2, .mv (.c (.int .i64 0)), none⟩] [2])
 (.ret))
 (.region [] [])))
 (.seq (.region [⟨some 2, .mv (.c (.int .i64 10)), none⟩] [2])
 (.ret)))
theorem C_nat_Check : Codes Go.Proofs.Try.prog F_nat_Check S_nat_Check 5 [2] := ⟨Go.Proofs.Try.f91, Go.Proofs.Try.f91.body.getD .skip, Go.Proofs.Try.func91, by kernel_rfl, by kernel_rfl, by kernel_rfl, by kernel_rfl, by kernel_rfl⟩
def F_ratio_quotient : FuncId := 92
/-- gauge / ratio.quotient -/
def S_ratio_quotient : SC :=
 .seq (.region [⟨some 2, .box false 2 (.t 0), none⟩, ⟨some 4, .alloc true 3 [.bool false, .slice none 0 0, .slice none 0 0], none⟩] [4, 2, 1])
 (.seq (.region [⟨some 14, .fa 1 (.t 2), none⟩, ⟨some 15, .ld false 1 (.t 14), none⟩, ⟨some 16, .mv (.t 1), none⟩, ⟨some 17, .call 111 [.t 15, .t 16], none⟩, ⟨some 13, .mv (.t 17), none⟩, ⟨some 18, .ext (.t 13) 0, none⟩, ⟨some 19, .ext (.t 13) 1, none⟩, ⟨some 5, .mv (.t 18), none⟩, ⟨some 6, .mv (.t 19), none⟩] [5, 4, 2, 1])
 (.seq (.region [⟨some 21, .fa 1 (.t 2), none⟩, ⟨some 22, .ld false 1 (.t 21), none⟩, ⟨some 23, .mv (.t 5), none⟩, ⟨some 24, .call 98 [.t 22, .t 23], none⟩, ⟨some 20, .mv (.t 24), none⟩, ⟨some 25, .ext (.t 20) 0, none⟩, ⟨some 26, .ext (.t 20) 1, none⟩, ⟨some 27, .ext (.t 20) 2, none⟩, ⟨some 7, .mv (.t 25), none⟩, ⟨some 8, .mv (.t 26), none⟩, ⟨some 9, .mv (.t 27), none⟩] [7, 5, 4, 2, 1])
 (.seq (.region [⟨some 29, .mv (.t 1), none⟩, ⟨some 30, .mv (.t 5), none⟩, ⟨some 31, .call 98 [.t 29, .t 30], none⟩, ⟨some 28, .mv (.t 31), none⟩, ⟨some 32, .ext (.t 28) 0, none⟩, ⟨some 33, .ext (.t 28) 1, none⟩, ⟨some 34, .ext (.t 28) 2, none⟩, ⟨some 10, .mv (.t 32), none⟩, ⟨some 11, .mv (.t 33), none⟩, ⟨some 12, .mv (.t 34), none⟩] [10, 7, 4, 2])
 (.seq (.region [⟨some 35, .fa 0 (.t 2), none⟩, ⟨some 36, .ld false 1 (.t 35), none⟩, ⟨some 37, .mv (.t 7), none⟩, ⟨some 38, .build [.bool false, .slice none 0 0] [(0, 1, .t 36), (1, 1, .t 37)], none⟩, ⟨some 39, .mv (.t 10), none⟩, ⟨some 40, .build [.bool false, .slice none 0 0, .slice none 0 0] [(0, 2, .t 38), (2, 1, .t 39)], none⟩, ⟨none, .st 3 (.t 4) (.t 40), none⟩] [4])
 (.ret)))))
theorem C_ratio_quotient : CodesC Go.Proofs.Try.prog F_ratio_quotient S_ratio_quotient 41 [.c 4 true 3] := ⟨Go.Proofs.Try.f92, Go.Proofs.Try.f92.body.getD .skip, Go.Proofs.Try.func92, by kernel_rfl, by kernel_rfl, by kernel_rfl, by kernel_rfl, by kernel_rfl⟩
def F_gaugeref1_halves : FuncId := 93
/-- gauge / gaugeref1.halves -/
def S_gaugeref1_halves : SC :=
 .seq (.region [⟨some 2, .mv (.c (.slice none 0 0)), none⟩] [0])
 (.seq (.region [⟨some 3, .mv (.c (.slice none 0 0)), none⟩] [3, 0])
 (.seq (.seq (.region [⟨some 4, .mv (.c (.int .i64 0)), none⟩] [4, 3, 0])
 (.block 0 [3] (.loop [4, 3, 0] (.seq (.seq (.region [⟨some 5, .mv (.t 4), none⟩, ⟨some 6, .mv (.t 0), none⟩, ⟨some 7, .len (.t 6), none⟩, ⟨some 8, .bin .lss (.t 5) (.t 7), none⟩] [8, 4, 3, 0])
 (.cond (.t 8) (.region [] [4, 3, 0])
 (.exit 0)))
 (.seq (.block 1 [4, 3, 0] (.drawn [0, 1, 2, 3, 4, 5, 6, 7, 8, 9, 10, 11, 12, 13, 14] [⟨some 11, .mv (.t 3), none⟩, ⟨some 12, .mv (.t 0), none⟩, ⟨some 13, .mv (.t 4), none⟩, ⟨some 14, .ix 1 (.t 12) (.t 13), none⟩, ⟨some 15, .ld false 1 (.t 14), none⟩, ⟨some 16, .conv .u32 (.t 15), none⟩, ⟨some 17, .mv (.t 0), none⟩, ⟨some 18, .mv (.t 4), none⟩, ⟨some 19, .ix 1 (.t 17) (.t 18), none⟩, ⟨some 20, .ld false 1 (.t 19), none⟩, ⟨some 21, .bin .shr (.t 20) (.c (.int .u64 32)), none⟩, ⟨some 22, .conv .u32 (.t 21), none⟩, ⟨some 23, .bsl false 1 2 [.int .u32 0] [(0, .t 16), (1, .t 22)], none⟩, ⟨some 24, .app false 1 4 (.t 11) (.t 23), none⟩, ⟨some 3, .mv (.t 24), none⟩] [4, 3, 0]))
 (.region [⟨some 9, .mv (.t 4), none⟩, ⟨some 10, .bin .add (.t 9) (.c (.int .i64 1)), none⟩, ⟨some 4, .mv (.t 10), none⟩] [4, 3, 0]))))))
 (.seq (.region [⟨some 25, .mv (.t 3), none⟩, ⟨some 26, .call 95 [.t 25], none⟩, ⟨some 2, .mv (.t 26), none⟩] [2])
 (.ret))))
theorem C_gaugeref1_halves : Codes Go.Proofs.Try.prog F_gaugeref1_halves S_gaugeref1_halves 27 [2] := ⟨Go.Proofs.Try.f93, Go.Proofs.Try.f93.body.getD .skip, Go.Proofs.Try.func93, by kernel_rfl, by kernel_rfl, by kernel_rfl, by kernel_rfl, by kernel_rfl⟩
def F_gaugeref1_whole : FuncId := 94
def S_gaugeref1_whole_j1 : SC :=
 .region [⟨some 31, .mv (.t 3), none⟩, ⟨some 32, .mv (.t 5), none⟩, ⟨some 33, .bsl false 1 1 [.int .u64 0] [(0, .t 32)], none⟩, ⟨some 34, .app false 1 8 (.t 31) (.t 33), none⟩, ⟨some 3, .mv (.t 34), none⟩] [4, 3, 0]
/-- gauge / gaugeref1.whole -/
def S_gaugeref1_whole : SC :=
 .seq (.region [⟨some 2, .mv (.c (.slice none 0 0)), none⟩] [0])
 (.seq (.region [⟨some 3, .mv (.c (.slice none 0 0)), none⟩] [3, 0])
 (.seq (.seq (.region [⟨some 4, .mv (.c (.int .i64 0)), none⟩] [4, 3, 0])
 (.block 0 [3] (.loop [4, 3, 0] (.seq (.seq (.region [⟨some 6, .mv (.t 4), none⟩, ⟨some 7, .mv (.t 0), none⟩, ⟨some 8, .len (.t 7), none⟩, ⟨some 9, .bin .lss (.t 6) (.t 8), none⟩] [9, 4, 3, 0])
 (.cond (.t 9) (.region [] [4, 3, 0])
 (.exit 0)))
 (.seq (.block 1 [4, 3, 0] (.seq (.region [⟨some 12, .mv (.t 0), none⟩, ⟨some 13, .mv (.t 4), none⟩, ⟨some 14, .ix 1 (.t 12) (.t 13), none⟩, ⟨some 15, .ld false 1 (.t 14), none⟩, ⟨some 16, .conv .u64 (.t 15), none⟩, ⟨some 5, .mv (.t 16), none⟩] [5, 4, 3, 0])
 (.seq (.seq (.region [⟨some 17, .mv (.t 4), none⟩, ⟨some 18, .bin .add (.t 17) (.c (.int .i64 1)), none⟩, ⟨some 19, .mv (.t 0), none⟩, ⟨some 20, .len (.t 19), none⟩, ⟨some 21, .bin .lss (.t 18) (.t 20), none⟩] [21, 5, 4, 3, 0])
 (.cond (.t 21) (.region [⟨some 22, .mv (.t 5), none⟩, ⟨some 23, .mv (.t 0), none⟩, ⟨some 24, .mv (.t 4), none⟩, ⟨some 25, .bin .add (.t 24) (.c (.int .i64 1)), none⟩, ⟨some 26, .ix 1 (.t 23) (.t 25), none⟩, ⟨some 27, .ld false 1 (.t 26), none⟩, ⟨some 28, .conv .u64 (.t 27), none⟩, ⟨some 29, .bin .shl (.t 28) (.c (.int .u64 32)), none⟩, ⟨some 30, .bin .or (.t 22) (.t 29), none⟩, ⟨some 5, .mv (.t 30), none⟩] [5, 4, 3, 0])
 (.region [] [5, 4, 3, 0])))
 (.seq .says S_gaugeref1_whole_j1))))
 (.region [⟨some 10, .mv (.t 4), none⟩, ⟨some 11, .bin .add (.t 10) (.c (.int .i64 2)), none⟩, ⟨some 4, .mv (.t 11), none⟩] [4, 3, 0]))))))
 (.seq (.region [⟨some 35, .mv (.t 3), none⟩, ⟨some 36, .call 44 [.t 35], none⟩, ⟨some 2, .mv (.t 36), none⟩] [2])
 (.ret))))
theorem C_gaugeref1_whole : Codes Go.Proofs.Try.prog F_gaugeref1_whole S_gaugeref1_whole 37 [2] := ⟨Go.Proofs.Try.f94, Go.Proofs.Try.f94.body.getD .skip, Go.Proofs.Try.func94, by kernel_rfl, by kernel_rfl, by kernel_rfl, by kernel_rfl, by kernel_rfl⟩
def F_gaugeref1_cut : FuncId := 95
/-- gauge / gaugeref1.cut -/
def S_gaugeref1_cut : SC :=
 .seq (.region [⟨some 2, .mv (.c (.slice none 0 0)), none⟩] [0])
 (.seq (.region [⟨some 4, .mv (.t 0), none⟩, ⟨some 5, .len (.t 4), none⟩, ⟨some 3, .mv (.t 5), none⟩] [3, 0])
 (.seq (.block 0 [3, 0] (.loop [3, 0] (.seq (.seq (.region [⟨some 6, .mv (.t 3), none⟩, ⟨some 7, .bin .gtr (.t 6) (.c (.int .i64 0)), none⟩, ⟨some 8, .mv (.t 7), none⟩, ⟨some 9, .mv (.t 0), some (8, true)⟩, ⟨some 10, .mv (.t 3), some (8, true)⟩, ⟨some 11, .bin .sub (.t 10) (.c (.int .i64 1)), some (8, true)⟩, ⟨some 12, .ix 1 (.t 9) (.t 11), some (8, true)⟩, ⟨some 13, .ld false 1 (.t 12), some (8, true)⟩, ⟨some 14, .bin .eql (.t 13) (.c (.int .u32 0)), some (8, true)⟩, ⟨some 15, .pick (.t 8) (.t 14) (.c (.bool false)), none⟩] [15, 3, 0])
 (.cond (.t 15) (.region [] [3, 0])
 (.exit 0)))
 (.block 1 [3, 0] (.region [⟨some 16, .mv (.t 3), none⟩, ⟨some 17, .bin .sub (.t 16) (.c (.int .i64 1)), none⟩, ⟨some 3, .mv (.t 17), none⟩] [3, 0])))))
 (.seq (.region [⟨some 18, .mv (.t 0), none⟩, ⟨some 19, .mv (.t 3), none⟩, ⟨some 20, .sl 1 (.t 18) none (some (.t 19)) none, none⟩, ⟨some 2, .mv (.t 20), none⟩] [2])
 (.ret))))
theorem C_gaugeref1_cut : Codes Go.Proofs.Try.prog F_gaugeref1_cut S_gaugeref1_cut 21 [2] := ⟨Go.Proofs.Try.f95, Go.Proofs.Try.f95.body.getD .skip, Go.Proofs.Try.func95, by kernel_rfl, by kernel_rfl, by kernel_rfl, by kernel_rfl, by kernel_rfl⟩
def F_ratio_neg : FuncId := 96
/-- gauge / ratio.neg -/
def S_ratio_neg : SC :=
 .seq (.region [⟨some 1, .box false 3 (.t 0), none⟩, ⟨some 2, .alloc true 3 [.bool false, .slice none 0 0, .slice none 0 0], none⟩] [2, 1])
 (.seq (.seq .says (.drawn [0, 1, 2, 3, 4, 5, 6, 7] [⟨some 3, .fa 0 (.t 1), none⟩, ⟨some 4, .ld true 2 (.t 3), none⟩, ⟨some 5, .callq 17 [.t 4], none⟩, ⟨some 6, .fa 2 (.t 1), none⟩, ⟨some 7, .ld false 1 (.t 6), none⟩, ⟨some 8, .callq 100 [.t 7], none⟩, ⟨some 9, .build [.bool false, .slice none 0 0, .slice none 0 0] [(0, 2, .t 5), (2, 1, .t 8)], none⟩, ⟨none, .st 3 (.t 2) (.t 9), none⟩] [2]))
 (.ret))
theorem C_ratio_neg : CodesC Go.Proofs.Try.prog F_ratio_neg S_ratio_neg 10 [.c 2 true 3] := ⟨Go.Proofs.Try.f96, Go.Proofs.Try.f96.body.getD .skip, Go.Proofs.Try.func96, by kernel_rfl, by kernel_rfl, by kernel_rfl, by kernel_rfl, by kernel_rfl⟩
def F_ratio_reckon : FuncId := 97
def S_ratio_reckon_j1 : SC :=
 .seq (.seq .says (.drawn [0, 1, 2, 3, 4, 5, 6, 7, 8, 9, 10, 11, 12, 13, 14] [⟨some 30, .fa 0 (.t 4), none⟩, ⟨some 31, .ld true 2 (.t 30), none⟩, ⟨some 32, .fa 2 (.t 5), none⟩, ⟨some 33, .ld false 1 (.t 32), none⟩, ⟨some 34, .callq 88 [.t 31, .t 33], none⟩, ⟨some 35, .fa 0 (.t 5), none⟩, ⟨some 36, .ld true 2 (.t 35), none⟩, ⟨some 37, .fa 2 (.t 4), none⟩, ⟨some 38, .ld false 1 (.t 37), none⟩, ⟨some 39, .callq 88 [.t 36, .t 38], none⟩, ⟨some 40, .callq 29 [.t 34, .t 39], none⟩, ⟨some 29, .mv (.t 40), none⟩, ⟨some 41, .ext (.t 29) 0, none⟩, ⟨some 42, .ext (.t 29) 1, none⟩, ⟨none, .st 2 (.t 8) (.t 41), none⟩] [8, 6, 5, 4]))
 (.exit 0)
def S_ratio_reckon_j2 : SC :=
 .seq (.region [⟨some 60, .fa 0 (.t 4), none⟩, ⟨some 61, .ld true 2 (.t 60), none⟩, ⟨some 62, .fa 0 (.t 5), none⟩, ⟨some 63, .ld true 2 (.t 62), none⟩, ⟨some 64, .call 28 [.t 61, .t 63], none⟩, ⟨some 59, .mv (.t 64), none⟩, ⟨some 65, .ext (.t 59) 0, none⟩, ⟨some 66, .ext (.t 59) 1, none⟩, ⟨none, .st 2 (.t 8) (.t 65), none⟩] [8, 6, 5, 4])
 (.exit 0)
def S_ratio_reckon_j3 : SC :=
 .seq (.region [⟨some 68, .fa 2 (.t 4), none⟩, ⟨some 69, .ld false 1 (.t 68), none⟩, ⟨some 70, .fa 2 (.t 5), none⟩, ⟨some 71, .ld false 1 (.t 70), none⟩, ⟨some 72, .call 105 [.t 69, .t 71], none⟩, ⟨some 67, .mv (.t 72), none⟩, ⟨some 73, .ext (.t 67) 0, none⟩, ⟨some 74, .ext (.t 67) 1, none⟩, ⟨some 9, .mv (.t 73), none⟩, ⟨some 10, .mv (.t 74), none⟩] [9, 8, 6])
 (.seq (.region [⟨some 75, .ld true 2 (.t 8), none⟩, ⟨some 76, .mv (.t 9), none⟩, ⟨some 77, .call 92 [.t 75, .t 76], none⟩, ⟨none, .st 3 (.t 6) (.t 77), none⟩, ⟨some 7, .mv (.c (.int .i64 0)), none⟩] [7, 6])
 (.ret))
/-- gauge / ratio.reckon -/
def S_ratio_reckon : SC :=
 .seq (.region [⟨some 4, .box false 3 (.t 1), none⟩, ⟨some 5, .box true 3 (.t 2), none⟩, ⟨some 6, .alloc true 3 [.bool false, .slice none 0 0, .slice none 0 0], none⟩, ⟨some 7, .mv (.c (.int .i64 0)), none⟩] [6, 5, 4, 0])
 (.seq (.seq (.region [⟨some 11, .ld true 3 (.t 4), none⟩, ⟨some 12, .call 87 [.t 11], none⟩, ⟨some 13, .un .not (.t 12), none⟩, ⟨some 14, .mv (.t 13), none⟩, ⟨some 15, .ld true 3 (.t 5), some (14, false)⟩, ⟨some 16, .call 87 [.t 15], some (14, false)⟩, ⟨some 17, .un .not (.t 16), some (14, false)⟩, ⟨some 18, .pick (.t 14) (.c (.bool true)) (.t 17), none⟩] [18, 6, 5, 4, 0])
 (.cond (.t 18) (.seq (.region [⟨some 19, .build [.bool false, .slice none 0 0, .slice none 0 0] [], none⟩, ⟨none, .st 3 (.t 6) (.t 19), none⟩, ⟨some 7, .mv (.c (.int .i64 30)), none⟩] [7, 6])
 (.ret))
 (.region [] [6, 5, 4, 0])))
 (.seq (.region [⟨some 8, .alloc true 2 [.bool false, .slice none 0 0], none⟩] [8, 6, 5, 4, 0])
 (.seq (.seq (.region [⟨some 20, .mv (.t 0), none⟩] [20, 8, 6, 5, 4])
 (.block 0 [8, 6, 5, 4] (.seq (.block 4 [8, 6, 5, 4] (.seq (.block 3 [8, 6, 5, 4] (.seq (.block 2 [8, 6, 5, 4] (.seq (.block 1 [8, 6, 5, 4] (.seq (.seq (.seq (.region [⟨some 22, .bin .eql (.t 20) (.c (.int .i64 0)), none⟩, ⟨some 21, .mv (.t 22), none⟩] [21, 20, 8, 6, 5, 4])
 (.cond (.t 21) (.exit 1)
 (.region [] [20, 8, 6, 5, 4])))
 (.seq (.seq (.region [⟨some 24, .bin .eql (.t 20) (.c (.int .i64 1)), none⟩, ⟨some 23, .mv (.t 24), none⟩] [23, 20, 8, 6, 5, 4])
 (.cond (.t 23) (.exit 2)
 (.region [] [20, 8, 6, 5, 4])))
 (.seq (.region [⟨some 26, .bin .eql (.t 20) (.c (.int .i64 2)), none⟩, ⟨some 25, .mv (.t 26), none⟩] [25, 8, 6, 5, 4])
 (.cond (.t 25) (.exit 3)
 (.region [] [8, 6, 5, 4])))))
 (.exit 4)))
 (.region [⟨some 27, .ld true 3 (.t 5), none⟩, ⟨some 28, .call 96 [.t 27], none⟩, ⟨none, .st 3 (.t 5) (.t 28), none⟩] [8, 6, 5, 4])))
 (.seq .says S_ratio_reckon_j1)))
 (.seq (.seq (.region [⟨some 43, .fa 0 (.t 5), none⟩, ⟨some 44, .fa 1 (.t 43), none⟩, ⟨some 45, .ld false 1 (.t 44), none⟩, ⟨some 46, .len (.t 45), none⟩, ⟨some 47, .bin .eql (.t 46) (.c (.int .i64 0)), none⟩] [47, 8, 6, 5, 4])
 (.cond (.t 47) (.seq (.region [⟨some 48, .build [.bool false, .slice none 0 0, .slice none 0 0] [], none⟩, ⟨none, .st 3 (.t 6) (.t 48), none⟩, ⟨some 7, .mv (.c (.int .i64 31)), none⟩] [7, 6])
 (.ret))
 (.region [] [8, 6, 5, 4])))
 (.region [⟨some 49, .fa 0 (.t 5), none⟩, ⟨some 50, .fa 0 (.t 49), none⟩, ⟨some 51, .ld false 1 (.t 50), none⟩, ⟨some 52, .fa 2 (.t 5), none⟩, ⟨some 53, .ld false 1 (.t 52), none⟩, ⟨some 54, .build [.bool false, .slice none 0 0] [(0, 1, .t 51), (1, 1, .t 53)], none⟩, ⟨some 55, .fa 0 (.t 5), none⟩, ⟨some 56, .fa 1 (.t 55), none⟩, ⟨some 57, .ld false 1 (.t 56), none⟩, ⟨some 58, .build [.bool false, .slice none 0 0, .slice none 0 0] [(0, 2, .t 54), (2, 1, .t 57)], none⟩, ⟨none, .st 3 (.t 5) (.t 58), none⟩] [8, 6, 5, 4]))))
 (.seq .says S_ratio_reckon_j2))))
 (.seq .says S_ratio_reckon_j3))))
theorem C_ratio_reckon : CodesC Go.Proofs.Try.prog F_ratio_reckon S_ratio_reckon 78 [.c 6 true 3, .t 7] := ⟨Go.Proofs.Try.f97, Go.Proofs.Try.f97.body.getD .skip, Go.Proofs.Try.func97, by kernel_rfl, by kernel_rfl, by kernel_rfl, by kernel_rfl, by kernel_rfl⟩
def F_nat_DivMod : FuncId := 98
/-- gauge / nat.DivMod -/
def S_nat_DivMod : SC :=
 .seq (.region [⟨some 4, .mv (.c (.slice none 0 0)), none⟩, ⟨some 5, .mv (.c (.slice none 0 0)), none⟩, ⟨some 6, .mv (.c (.int .i64 0)), none⟩] [1, 0])
 (.seq (.block 0 [1, 0] (.seq (.region [⟨some 8, .mv (.t 0), none⟩, ⟨some 9, .call 108 [.t 8], none⟩, ⟨some 10, .un .not (.t 9), none⟩, ⟨some 11, .mv (.t 10), none⟩, ⟨some 12, .mv (.t 1), some (11, false)⟩, ⟨some 13, .call 108 [.t 12], some (11, false)⟩, ⟨some 14, .un .not (.t 13), some (11, false)⟩, ⟨some 15, .pick (.t 11) (.c (.bool true)) (.t 14), none⟩, ⟨some 7, .mv (.t 15), none⟩] [7, 1, 0])
 (.cond (.t 7) (.seq (.region [⟨some 4, .mv (.c (.slice none 0 0)), none⟩, ⟨some 5, .mv (.c (.slice none 0 0)), none⟩, ⟨some 6, .mv (.c (.int .i64 10)), none⟩] [6, 5, 4])
 (.ret))
 (.seq (.region [⟨some 17, .mv (.t 1), none⟩, ⟨some 18, .len (.t 17), none⟩, ⟨some 19, .bin .eql (.t 18) (.c (.int .i64 0)), none⟩, ⟨some 16, .mv (.t 19), none⟩] [16, 1, 0])
 (.cond (.t 16) (.seq (.region [⟨some 4, .mv (.c (.slice none 0 0)), none⟩, ⟨some 5, .mv (.c (.slice none 0 0)), none⟩, ⟨some 6, .mv (.c (.int .i64 12)), none⟩] [6, 5, 4])
 (.ret))
 (.region [] [1, 0]))))))
 (.seq (.region [⟨some 21, .mv (.t 0), none⟩, ⟨some 22, .mv (.t 1), none⟩, ⟨some 23, .call 113 [.t 21, .t 22], none⟩, ⟨some 20, .mv (.t 23), none⟩, ⟨some 24, .ext (.t 20) 0, none⟩, ⟨some 25, .ext (.t 20) 1, none⟩, ⟨some 4, .mv (.t 24), none⟩, ⟨some 5, .mv (.t 25), none⟩] [5, 4])
 (.seq (.region [⟨some 26, .mv (.t 4), none⟩, ⟨some 27, .mv (.t 5), none⟩, ⟨some 4, .mv (.t 26), none⟩, ⟨some 5, .mv (.t 27), none⟩, ⟨some 6, .mv (.c (.int .i64 0)), none⟩] [6, 5, 4])
 (.ret))))
theorem C_nat_DivMod : Codes Go.Proofs.Try.prog F_nat_DivMod S_nat_DivMod 28 [4, 5, 6] := ⟨Go.Proofs.Try.f98, Go.Proofs.Try.f98.body.getD .skip, Go.Proofs.Try.func98, by kernel_rfl, by kernel_rfl, by kernel_rfl, by kernel_rfl, by kernel_rfl⟩
def F_whole_of : FuncId := 99
/-- gauge / whole.of -/
def S_whole_of : SC :=
 .seq (.region [⟨some 4, .alloc true 2 [.bool false, .slice none 0 0], none⟩] [4, 1, 0])
 (.seq (.region [⟨some 5, .mv (.t 0), none⟩, ⟨some 6, .mv (.t 5), none⟩, ⟨some 7, .mv (.t 1), some (6, true)⟩, ⟨some 8, .len (.t 7), some (6, true)⟩, ⟨some 9, .bin .gtr (.t 8) (.c (.int .i64 0)), some (6, true)⟩, ⟨some 10, .pick (.t 6) (.t 9) (.c (.bool false)), none⟩, ⟨some 11, .mv (.t 1), none⟩, ⟨some 12, .build [.bool false, .slice none 0 0] [(0, 1, .t 10), (1, 1, .t 11)], none⟩, ⟨none, .st 2 (.t 4) (.t 12), none⟩] [4])
 (.ret))
theorem C_whole_of : CodesC Go.Proofs.Try.prog F_whole_of S_whole_of 13 [.c 4 true 2] := ⟨Go.Proofs.Try.f99, Go.Proofs.Try.f99.body.getD .skip, Go.Proofs.Try.func99, by kernel_rfl, by kernel_rfl, by kernel_rfl, by kernel_rfl, by kernel_rfl⟩
def F_slices_Clone : FuncId := 100
/-- slices.Clone[gauge / api.Nat,uint64] -/
def S_slices_Clone : SC :=
 .seq (.region [⟨some 2, .mv (.c (.slice none 0 0)), none⟩] [0])
 (.seq (.seq (.region [⟨some 3, .mv (.t 0), none⟩, ⟨some 4, .isnil false (.t 3), none⟩] [4, 0])
 (.cond (.t 4) (.seq (.region [⟨some 2, .mv (.c (.slice none 0 0)), none⟩] [2])
 (.ret))
 (.region [] [0])))
 (.seq (.region [⟨some 5, .bsl false 1 0 [.int .u64 0] [], none⟩, ⟨some 6, .mv (.t 0), none⟩, ⟨some 7, .app false 1 8 (.t 5) (.t 6), none⟩, ⟨some 2, .mv (.t 7), none⟩] [2])
 (.ret)))
theorem C_slices_Clone : Codes Go.Proofs.Try.prog F_slices_Clone S_slices_Clone 8 [2] := ⟨Go.Proofs.Try.f100, Go.Proofs.Try.f100.body.getD .skip, Go.Proofs.Try.func100, by kernel_rfl, by kernel_rfl, by kernel_rfl, by kernel_rfl, by kernel_rfl⟩
def F_gaugeref2_Size : FuncId := 101
/-- gauge / gaugeref2.Size -/
def S_gaugeref2_Size : SC :=
 .seq (.region [⟨some 2, .mv (.c (.int .u64 0)), none⟩] [0])
 (.seq (.seq (.region [⟨some 3, .mv (.t 0), none⟩, ⟨some 4, .bin .lss (.t 3) (.c (.int .i64 0)), none⟩] [4, 0])
 (.cond (.t 4) (.seq (.region [⟨some 5, .mv (.t 0), none⟩, ⟨some 6, .conv .u64 (.t 5), none⟩, ⟨some 7, .bin .sub (.c (.int .u64 0)) (.t 6), none⟩, ⟨some 2, .mv (.t 7), none⟩] [2])
 (.ret))
 (.region [] [0])))
 (.seq (.region [⟨some 8, .mv (.t 0), none⟩, ⟨some 9, .conv .u64 (.t 8), none⟩, ⟨some 2, .mv (.t 9), none⟩] [2])
 (.ret)))
theorem C_gaugeref2_Size : Codes Go.Proofs.Try.prog F_gaugeref2_Size S_gaugeref2_Size 10 [2] := ⟨Go.Proofs.Try.f101, Go.Proofs.Try.f101.body.getD .skip, Go.Proofs.Try.func101, by kernel_rfl, by kernel_rfl, by kernel_rfl, by kernel_rfl, by kernel_rfl⟩
def F_nat_Add : FuncId := 102
/-- gauge / nat.Add -/
def S_nat_Add : SC :=
 .seq (.region [⟨some 4, .mv (.c (.slice none 0 0)), none⟩, ⟨some 5, .mv (.c (.int .i64 0)), none⟩] [1, 0])
 (.seq (.seq (.region [⟨some 6, .mv (.t 0), none⟩, ⟨some 7, .call 108 [.t 6], none⟩, ⟨some 8, .un .not (.t 7), none⟩, ⟨some 9, .mv (.t 8), none⟩, ⟨some 10, .mv (.t 1), some (9, false)⟩, ⟨some 11, .call 108 [.t 10], some (9, false)⟩, ⟨some 12, .un .not (.t 11), some (9, false)⟩, ⟨some 13, .pick (.t 9) (.c (.bool true)) (.t 12), none⟩] [13, 1, 0])
 (.cond (.t 13) (.seq (.region [⟨some 4, .mv (.c (.slice none 0 0)), none⟩, ⟨some 5, .mv (.c (.int .i64 10)), none⟩] [5, 4])
 (.ret))
 (.region [] [1, 0])))
 (.seq (.region [⟨some 14, .mv (.t 0), none⟩, ⟨some 15, .mv (.t 1), none⟩, ⟨some 16, .call 114 [.t 14, .t 15], none⟩, ⟨some 4, .mv (.t 16), none⟩, ⟨some 5, .mv (.c (.int .i64 0)), none⟩] [5, 4])
 (.ret)))
theorem C_nat_Add : Codes Go.Proofs.Try.prog F_nat_Add S_nat_Add 17 [4, 5] := ⟨Go.Proofs.Try.f102, Go.Proofs.Try.f102.body.getD .skip, Go.Proofs.Try.func102, by kernel_rfl, by kernel_rfl, by kernel_rfl, by kernel_rfl, by kernel_rfl⟩
def F_nat_Cmp : FuncId := 103
/-- gauge / nat.Cmp -/
def S_nat_Cmp : SC :=
 .seq (.region [⟨some 4, .mv (.c (.int .i64 0)), none⟩] [1, 0])
 (.seq (.seq (.region [⟨some 5, .mv (.t 0), none⟩, ⟨some 6, .call 108 [.t 5], none⟩, ⟨some 7, .un .not (.t 6), none⟩, ⟨some 8, .mv (.t 7), none⟩, ⟨some 9, .mv (.t 1), some (8, false)⟩, ⟨some 10, .call 108 [.t 9], some (8, false)⟩, ⟨some 11, .un .not (.t 10), some (8, false)⟩, ⟨some 12, .pick (.t 8) (.c (.bool true)) (.t 11), none⟩] [12, 1, 0])
 (.cond (.t 12) (.seq (.region [⟨some 4, .mv (.c (.int .i64 0)), none⟩] [4])
 (.ret))
 (.region [] [1, 0])))
 (.seq (.region [⟨some 13, .mv (.t 0), none⟩, ⟨some 14, .mv (.t 1), none⟩, ⟨some 15, .call 115 [.t 13, .t 14], none⟩, ⟨some 4, .mv (.t 15), none⟩] [4])
 (.ret)))
theorem C_nat_Cmp : Codes Go.Proofs.Try.prog F_nat_Cmp S_nat_Cmp 16 [4] := ⟨Go.Proofs.Try.f103, Go.Proofs.Try.f103.body.getD .skip, Go.Proofs.Try.func103, by kernel_rfl, by kernel_rfl, by kernel_rfl, by kernel_rfl, by kernel_rfl⟩
def F_nat_Sub : FuncId := 104
/-- gauge / nat.Sub -/
def S_nat_Sub : SC :=
 .seq (.region [⟨some 4, .mv (.c (.slice none 0 0)), none⟩, ⟨some 5, .mv (.c (.int .i64 0)), none⟩] [1, 0])
 (.seq (.block 0 [1, 0] (.seq (.region [⟨some 7, .mv (.t 0), none⟩, ⟨some 8, .call 108 [.t 7], none⟩, ⟨some 9, .un .not (.t 8), none⟩, ⟨some 10, .mv (.t 9), none⟩, ⟨some 11, .mv (.t 1), some (10, false)⟩, ⟨some 12, .call 108 [.t 11], some (10, false)⟩, ⟨some 13, .un .not (.t 12), some (10, false)⟩, ⟨some 14, .pick (.t 10) (.c (.bool true)) (.t 13), none⟩, ⟨some 6, .mv (.t 14), none⟩] [6, 1, 0])
 (.cond (.t 6) (.seq (.region [⟨some 4, .mv (.c (.slice none 0 0)), none⟩, ⟨some 5, .mv (.c (.int .i64 10)), none⟩] [5, 4])
 (.ret))
 (.seq (.region [⟨some 16, .mv (.t 0), none⟩, ⟨some 17, .mv (.t 1), none⟩, ⟨some 18, .call 115 [.t 16, .t 17], none⟩, ⟨some 19, .bin .lss (.t 18) (.c (.int .i64 0)), none⟩, ⟨some 15, .mv (.t 19), none⟩] [15, 1, 0])
 (.cond (.t 15) (.seq (.region [⟨some 4, .mv (.c (.slice none 0 0)), none⟩, ⟨some 5, .mv (.c (.int .i64 11)), none⟩] [5, 4])
 (.ret))
 (.region [] [1, 0]))))))
 (.seq (.region [⟨some 20, .mv (.t 0), none⟩, ⟨some 21, .mv (.t 1), none⟩, ⟨some 22, .call 116 [.t 20, .t 21], none⟩, ⟨some 4, .mv (.t 22), none⟩, ⟨some 5, .mv (.c (.int .i64 0)), none⟩] [5, 4])
 (.ret)))
theorem C_nat_Sub : Codes Go.Proofs.Try.prog F_nat_Sub S_nat_Sub 23 [4, 5] := ⟨Go.Proofs.Try.f104, Go.Proofs.Try.f104.body.getD .skip, Go.Proofs.Try.func104, by kernel_rfl, by kernel_rfl, by kernel_rfl, by kernel_rfl, by kernel_rfl⟩
def F_nat_Mul : FuncId := 105
/-- gauge / nat.Mul -/
def S_nat_Mul : SC :=
 .seq (.region [⟨some 4, .mv (.c (.slice none 0 0)), none⟩, ⟨some 5, .mv (.c (.int .i64 0)), none⟩] [1, 0])
 (.seq (.seq (.region [⟨some 6, .mv (.t 0), none⟩, ⟨some 7, .call 108 [.t 6], none⟩, ⟨some 8, .un .not (.t 7), none⟩, ⟨some 9, .mv (.t 8), none⟩, ⟨some 10, .mv (.t 1), some (9, false)⟩, ⟨some 11, .call 108 [.t 10], some (9, false)⟩, ⟨some 12, .un .not (.t 11), some (9, false)⟩, ⟨some 13, .pick (.t 9) (.c (.bool true)) (.t 12), none⟩] [13, 1, 0])
 (.cond (.t 13) (.seq (.region [⟨some 4, .mv (.c (.slice none 0 0)), none⟩, ⟨some 5, .mv (.c (.int .i64 10)), none⟩] [5, 4])
 (.ret))
 (.region [] [1, 0])))
 (.seq (.region [⟨some 14, .mv (.t 0), none⟩, ⟨some 15, .mv (.t 1), none⟩, ⟨some 16, .call 117 [.t 14, .t 15], none⟩, ⟨some 4, .mv (.t 16), none⟩, ⟨some 5, .mv (.c (.int .i64 0)), none⟩] [5, 4])
 (.ret)))
theorem C_nat_Mul : Codes Go.Proofs.Try.prog F_nat_Mul S_nat_Mul 17 [4, 5] := ⟨Go.Proofs.Try.f105, Go.Proofs.Try.f105.body.getD .skip, Go.Proofs.Try.func105, by kernel_rfl, by kernel_rfl, by kernel_rfl, by kernel_rfl, by kernel_rfl⟩
def F_gaugeref1_Divide : FuncId := 106
def S_gaugeref1_Divide_j1 : SC :=
 .region [⟨some 75, .mv (.t 12), none⟩, ⟨some 76, .call 121 [.t 75, .c (.int .i64 1)], none⟩, ⟨some 12, .mv (.t 76), none⟩] [13, 12, 11, 10]
/-- gauge / gaugeref1.Divide -/
def S_gaugeref1_Divide : SC :=
 .seq (.region [⟨some 4, .mv (.c (.slice none 0 0)), none⟩, ⟨some 5, .mv (.c (.slice none 0 0)), none⟩] [1, 0])
 (.seq (.region [⟨some 14, .mv (.t 1), none⟩, ⟨some 15, .call 93 [.t 14], none⟩, ⟨some 6, .mv (.t 15), none⟩] [6, 1, 0])
 (.seq (.seq (.region [⟨some 16, .mv (.t 6), none⟩, ⟨some 17, .len (.t 16), none⟩, ⟨some 18, .bin .eql (.t 17) (.c (.int .i64 1)), none⟩] [18, 6, 1, 0])
 (.cond (.t 18) (.seq (.seq .says (.drawn [0, 1, 2, 3, 4, 5, 6, 7, 8, 9, 10] [⟨some 20, .mv (.t 0), none⟩, ⟨some 21, .callq 93 [.t 20], none⟩, ⟨some 22, .mv (.t 6), none⟩, ⟨some 23, .ix 1 (.t 22) (.c (.int .i64 0)), none⟩, ⟨some 24, .ld false 1 (.t 23), none⟩, ⟨some 25, .callq 118 [.t 21, .t 24], none⟩, ⟨some 19, .mv (.t 25), none⟩, ⟨some 26, .ext (.t 19) 0, none⟩, ⟨some 27, .ext (.t 19) 1, none⟩, ⟨some 7, .mv (.t 26), none⟩, ⟨some 8, .mv (.t 27), none⟩] [8, 7]))
 (.seq (.region [⟨some 28, .mv (.t 7), none⟩, ⟨some 29, .call 94 [.t 28], none⟩, ⟨some 30, .mv (.t 8), none⟩, ⟨some 31, .conv .u64 (.t 30), none⟩, ⟨some 32, .call 84 [.t 31], none⟩, ⟨some 4, .mv (.t 29), none⟩, ⟨some 5, .mv (.t 32), none⟩] [5, 4])
 (.ret)))
 (.region [] [1, 0])))
 (.seq (.region [⟨some 33, .mv (.t 0), none⟩, ⟨some 34, .call 119 [.t 33], none⟩, ⟨some 35, .mv (.t 1), none⟩, ⟨some 36, .call 119 [.t 35], none⟩, ⟨some 37, .bin .sub (.t 34) (.t 36), none⟩, ⟨some 9, .mv (.t 37), none⟩] [9, 1, 0])
 (.seq (.seq (.region [⟨some 38, .mv (.t 9), none⟩, ⟨some 39, .bin .lss (.t 38) (.c (.int .i64 0)), none⟩] [39, 9, 1, 0])
 (.cond (.t 39) (.seq (.region [⟨some 40, .mv (.t 0), none⟩, ⟨some 4, .mv (.c (.slice none 0 0)), none⟩, ⟨some 5, .mv (.t 40), none⟩] [5, 4])
 (.ret))
 (.region [] [9, 1, 0])))
 (.seq (.region [⟨some 41, .mv (.t 9), none⟩, ⟨some 42, .bin .quo (.t 41) (.c (.int .i64 64)), none⟩, ⟨some 43, .bin .add (.t 42) (.c (.int .i64 1)), none⟩, ⟨some 44, .mks 1 8 [.int .u64 0] (.t 43) (.t 43), none⟩, ⟨some 10, .mv (.t 44), none⟩] [10, 9, 1, 0])
 (.seq (.region [⟨some 45, .mv (.t 0), none⟩, ⟨some 11, .mv (.t 45), none⟩] [11, 10, 9, 1])
 (.seq (.region [⟨some 46, .mv (.t 1), none⟩, ⟨some 47, .mv (.t 9), none⟩, ⟨some 48, .call 120 [.t 46, .t 47], none⟩, ⟨some 12, .mv (.t 48), none⟩] [12, 11, 10, 9])
 (.seq (.seq (.region [⟨some 49, .mv (.t 9), none⟩, ⟨some 13, .mv (.t 49), none⟩] [13, 12, 11, 10])
 (.block 0 [11, 10] (.loop [13, 12, 11, 10] (.seq (.seq (.region [⟨some 50, .mv (.t 13), none⟩, ⟨some 51, .bin .geq (.t 50) (.c (.int .i64 0)), none⟩] [51, 13, 12, 11, 10])
 (.cond (.t 51) (.region [] [13, 12, 11, 10])
 (.exit 0)))
 (.seq (.block 1 [13, 12, 11, 10] (.seq (.seq (.region [⟨some 54, .mv (.t 11), none⟩, ⟨some 55, .mv (.t 12), none⟩, ⟨some 56, .call 31 [.t 54, .t 55], none⟩, ⟨some 57, .bin .geq (.t 56) (.c (.int .i64 0)), none⟩] [57, 13, 12, 11, 10])
 (.cond (.t 57) (.seq (.region [⟨some 58, .mv (.t 11), none⟩, ⟨some 59, .mv (.t 12), none⟩, ⟨some 60, .call 67 [.t 58, .t 59], none⟩, ⟨some 11, .mv (.t 60), none⟩] [13, 12, 11, 10])
 (.region [⟨some 61, .mv (.t 10), none⟩, ⟨some 62, .mv (.t 13), none⟩, ⟨some 63, .bin .quo (.t 62) (.c (.int .i64 64)), none⟩, ⟨some 64, .mv (.t 10), none⟩, ⟨some 65, .mv (.t 13), none⟩, ⟨some 66, .bin .quo (.t 65) (.c (.int .i64 64)), none⟩, ⟨some 67, .ix 1 (.t 64) (.t 66), none⟩, ⟨some 68, .ld false 1 (.t 67), none⟩, ⟨some 69, .mv (.t 13), none⟩, ⟨some 70, .bin .rem (.t 69) (.c (.int .i64 64)), none⟩, ⟨some 71, .conv .u64 (.t 70), none⟩, ⟨some 72, .bin .shl (.c (.int .u64 1)) (.t 71), none⟩, ⟨some 73, .bin .or (.t 68) (.t 72), none⟩, ⟨some 74, .ix 1 (.t 61) (.t 63), none⟩, ⟨none, .st 1 (.t 74) (.t 73), none⟩] [13, 12, 11, 10]))
 (.region [] [13, 12, 11, 10])))
 (.seq .says S_gaugeref1_Divide_j1)))
 (.region [⟨some 52, .mv (.t 13), none⟩, ⟨some 53, .bin .sub (.t 52) (.c (.int .i64 1)), none⟩, ⟨some 13, .mv (.t 53), none⟩] [13, 12, 11, 10]))))))
 (.seq (.region [⟨some 77, .mv (.t 10), none⟩, ⟨some 78, .call 44 [.t 77], none⟩, ⟨some 79, .mv (.t 11), none⟩, ⟨some 4, .mv (.t 78), none⟩, ⟨some 5, .mv (.t 79), none⟩] [5, 4])
 (.ret))))))))))
theorem C_gaugeref1_Divide : Codes Go.Proofs.Try.prog F_gaugeref1_Divide S_gaugeref1_Divide 80 [4, 5] := ⟨Go.Proofs.Try.f106, Go.Proofs.Try.f106.body.getD .skip, Go.Proofs.Try.func106, by kernel_rfl, by kernel_rfl, by kernel_rfl, by kernel_rfl, by kernel_rfl⟩
def F_whole_calls : FuncId := 107
/-- gauge / whole.calls -/
def S_whole_calls : SC :=
 .seq (.region [⟨some 0, .mv (.c (.slice none 0 0)), none⟩] [])
 (.seq (.region [⟨some 1, .bsl false 1 3 [.nilFunc] [(0, .f 61), (1, .f 62), (2, .f 63)], none⟩, ⟨some 0, .mv (.t 1), none⟩] [0])
 (.ret))
theorem C_whole_calls : Codes Go.Proofs.Try.prog F_whole_calls S_whole_calls 2 [0] := ⟨Go.Proofs.Try.f107, Go.Proofs.Try.f107.body.getD .skip, Go.Proofs.Try.func107, by kernel_rfl, by kernel_rfl, by kernel_rfl, by kernel_rfl, by kernel_rfl⟩
def F_nat_good : FuncId := 108
/-- gauge / nat.good -/
def S_nat_good : SC :=
 .seq (.region [⟨some 2, .mv (.c (.bool false)), none⟩] [0])
 (.seq (.region [⟨some 3, .mv (.t 0), none⟩, ⟨some 4, .len (.t 3), none⟩, ⟨some 5, .bin .eql (.t 4) (.c (.int .i64 0)), none⟩, ⟨some 6, .mv (.t 5), none⟩, ⟨some 7, .mv (.t 0), some (6, false)⟩, ⟨some 8, .mv (.t 0), some (6, false)⟩, ⟨some 9, .len (.t 8), some (6, false)⟩, ⟨some 10, .bin .sub (.t 9) (.c (.int .i64 1)), some (6, false)⟩, ⟨some 11, .ix 1 (.t 7) (.t 10), some (6, false)⟩, ⟨some 12, .ld false 1 (.t 11), some (6, false)⟩, ⟨some 13, .bin .neq (.t 12) (.c (.int .u64 0)), some (6, false)⟩, ⟨some 14, .pick (.t 6) (.c (.bool true)) (.t 13), none⟩, ⟨some 2, .mv (.t 14), none⟩] [2])
 (.ret))
theorem C_nat_good : Codes Go.Proofs.Try.prog F_nat_good S_nat_good 15 [2] := ⟨Go.Proofs.Try.f108, Go.Proofs.Try.f108.body.getD .skip, Go.Proofs.Try.func108, by kernel_rfl, by kernel_rfl, by kernel_rfl, by kernel_rfl, by kernel_rfl⟩
def F_nat_Text : FuncId := 109
/-- gauge / nat.Text -/
def S_nat_Text : SC :=
 .seq (.region [⟨some 2, .mv (.c (.string ⟨#[]⟩)), none⟩] [0])
 (.seq (.block 0 [0] (.seq (.region [⟨some 7, .mv (.t 0), none⟩, ⟨some 8, .call 108 [.t 7], none⟩, ⟨some 9, .un .not (.t 8), none⟩, ⟨some 6, .mv (.t 9), none⟩] [6, 0])
 (.cond (.t 6) (.seq (.region [⟨some 2, .mv (.c (.string ⟨#[]⟩)), none⟩] [2])
 (.ret))
 (.seq (.region [⟨some 11, .mv (.t 0), none⟩, ⟨some 12, .len (.t 11), none⟩, ⟨some 13, .bin .eql (.t 12) (.c (.int .i64 0)), none⟩, ⟨some 10, .mv (.t 13), none⟩] [10, 0])
 (.cond (.t 10) (.seq (.region [⟨some 2, .mv (.c (.string ⟨#[48]⟩)), none⟩] [2])
 (.ret))
 (.region [] [0]))))))
 (.seq (.region [⟨some 3, .mv (.c (.slice none 0 0)), none⟩] [3, 0])
 (.seq (.block 1 [3] (.loop [3, 0] (.seq (.seq (.region [⟨some 14, .mv (.t 0), none⟩, ⟨some 15, .len (.t 14), none⟩, ⟨some 16, .bin .gtr (.t 15) (.c (.int .i64 0)), none⟩] [16, 3, 0])
 (.cond (.t 16) (.region [] [3, 0])
 (.exit 1)))
 (.block 2 [3, 0] (.seq (.region [⟨some 4, .mv (.c (.int .u64 0)), none⟩] [3, 0])
 (.seq (.region [⟨some 18, .mv (.t 0), none⟩, ⟨some 19, .call 122 [.t 18, .c (.int .u64 10000000000000000000)], none⟩, ⟨some 17, .mv (.t 19), none⟩, ⟨some 20, .ext (.t 17) 0, none⟩, ⟨some 21, .ext (.t 17) 1, none⟩, ⟨some 0, .mv (.t 20), none⟩, ⟨some 4, .mv (.t 21), none⟩] [4, 3, 0])
 (.seq (.region [⟨some 5, .mv (.c (.int .i64 0)), none⟩] [5, 4, 3, 0])
 (.block 3 [3, 0] (.loop [5, 4, 3, 0] (.seq (.seq (.region [⟨some 22, .mv (.t 5), none⟩, ⟨some 23, .bin .lss (.t 22) (.c (.int .i64 19)), none⟩, ⟨some 24, .mv (.t 23), none⟩, ⟨some 25, .mv (.t 4), some (24, true)⟩, ⟨some 26, .bin .gtr (.t 25) (.c (.int .u64 0)), some (24, true)⟩, ⟨some 27, .mv (.t 26), some (24, true)⟩, ⟨some 28, .mv (.t 0), some (27, false)⟩, ⟨some 29, .len (.t 28), some (27, false)⟩, ⟨some 30, .bin .gtr (.t 29) (.c (.int .i64 0)), some (27, false)⟩, ⟨some 31, .pick (.t 27) (.c (.bool true)) (.t 30), some (24, true)⟩, ⟨some 32, .pick (.t 24) (.t 31) (.c (.bool false)), none⟩] [32, 5, 4, 3, 0])
 (.cond (.t 32) (.region [] [5, 4, 3, 0])
 (.exit 3)))
 (.seq (.block 4 [5, 4, 3, 0] (.seq (.region [⟨some 35, .mv (.t 3), none⟩, ⟨some 36, .mv (.t 4), none⟩, ⟨some 37, .bin .rem (.t 36) (.c (.int .u64 10)), none⟩, ⟨some 38, .bin .add (.c (.int .u64 48)) (.t 37), none⟩, ⟨some 39, .conv .u8 (.t 38), none⟩, ⟨some 40, .bsl false 1 1 [.int .u8 0] [(0, .t 39)], none⟩, ⟨some 41, .app false 1 1 (.t 35) (.t 40), none⟩, ⟨some 3, .mv (.t 41), none⟩] [5, 4, 3, 0])
 (.region [⟨some 42, .mv (.t 4), none⟩, ⟨some 43, .bin .quo (.t 42) (.c (.int .u64 10)), none⟩, ⟨some 4, .mv (.t 43), none⟩] [5, 4, 3, 0])))
 (.region [⟨some 33, .mv (.t 5), none⟩, ⟨some 34, .bin .add (.t 33) (.c (.int .i64 1)), none⟩, ⟨some 5, .mv (.t 34), none⟩] [5, 4, 3, 0]))))))))))))
 (.seq (.region [⟨some 44, .mv (.t 3), none⟩, ⟨some 45, .call 123 [.t 44], none⟩] [3])
 (.seq (.region [⟨some 46, .mv (.t 3), none⟩, ⟨some 47, .bstr (.t 46), none⟩, ⟨some 2, .mv (.t 47), none⟩] [2])
 (.ret))))))
theorem C_nat_Text : Codes Go.Proofs.Try.prog F_nat_Text S_nat_Text 48 [2] := ⟨Go.Proofs.Try.f109, Go.Proofs.Try.f109.body.getD .skip, Go.Proofs.Try.func109, by kernel_rfl, by kernel_rfl, by kernel_rfl, by kernel_rfl, by kernel_rfl⟩
def F_gaugeref1_Text : FuncId := 110
/-- gauge / gaugeref1.Text -/
def S_gaugeref1_Text : SC :=
 .seq (.region [⟨some 2, .mv (.c (.string ⟨#[]⟩)), none⟩] [0])
 (.seq (.region [⟨some 11, .mv (.t 0), none⟩, ⟨some 12, .call 93 [.t 11], none⟩, ⟨some 3, .mv (.t 12), none⟩] [3])
 (.seq (.seq (.region [⟨some 13, .mv (.t 3), none⟩, ⟨some 14, .len (.t 13), none⟩, ⟨some 15, .bin .eql (.t 14) (.c (.int .i64 0)), none⟩] [15, 3])
 (.cond (.t 15) (.seq (.region [⟨some 2, .mv (.c (.string ⟨#[48]⟩)), none⟩] [2])
 (.ret))
 (.region [] [3])))
 (.seq (.region [⟨some 4, .mv (.c (.slice none 0 0)), none⟩] [4, 3])
 (.seq (.block 0 [4] (.loop [4, 3] (.seq (.seq (.region [⟨some 16, .mv (.t 3), none⟩, ⟨some 17, .len (.t 16), none⟩, ⟨some 18, .bin .gtr (.t 17) (.c (.int .i64 0)), none⟩] [18, 4, 3])
 (.cond (.t 18) (.region [] [4, 3])
 (.exit 0)))
 (.block 1 [4, 3] (.seq (.region [⟨some 20, .mv (.t 3), none⟩, ⟨some 21, .call 118 [.t 20, .c (.int .u32 1000000000)], none⟩, ⟨some 19, .mv (.t 21), none⟩, ⟨some 22, .ext (.t 19) 0, none⟩, ⟨some 23, .ext (.t 19) 1, none⟩, ⟨some 5, .mv (.t 22), none⟩, ⟨some 6, .mv (.t 23), none⟩] [6, 5, 4])
 (.seq (.seq (.region [⟨some 7, .mv (.c (.int .i64 0)), none⟩] [7, 6, 5, 4])
 (.block 2 [5, 4] (.loop [7, 6, 5, 4] (.seq (.seq (.region [⟨some 24, .mv (.t 7), none⟩, ⟨some 25, .bin .lss (.t 24) (.c (.int .i64 9)), none⟩] [25, 7, 6, 5, 4])
 (.cond (.t 25) (.region [] [7, 6, 5, 4])
 (.exit 2)))
 (.seq (.block 3 [7, 6, 5, 4] (.seq (.region [⟨some 28, .mv (.t 4), none⟩, ⟨some 29, .mv (.t 6), none⟩, ⟨some 30, .bin .rem (.t 29) (.c (.int .u32 10)), none⟩, ⟨some 31, .bin .add (.c (.int .u32 48)) (.t 30), none⟩, ⟨some 32, .conv .u8 (.t 31), none⟩, ⟨some 33, .bsl false 1 1 [.int .u8 0] [(0, .t 32)], none⟩, ⟨some 34, .app false 1 1 (.t 28) (.t 33), none⟩, ⟨some 4, .mv (.t 34), none⟩] [7, 6, 5, 4])
 (.region [⟨some 35, .mv (.t 6), none⟩, ⟨some 36, .bin .quo (.t 35) (.c (.int .u32 10)), none⟩, ⟨some 6, .mv (.t 36), none⟩] [7, 6, 5, 4])))
 (.region [⟨some 26, .mv (.t 7), none⟩, ⟨some 27, .bin .add (.t 26) (.c (.int .i64 1)), none⟩, ⟨some 7, .mv (.t 27), none⟩] [7, 6, 5, 4]))))))
 (.region [⟨some 37, .mv (.t 5), none⟩, ⟨some 3, .mv (.t 37), none⟩] [4, 3])))))))
 (.seq (.region [⟨some 38, .mv (.t 4), none⟩, ⟨some 39, .len (.t 38), none⟩, ⟨some 8, .mv (.t 39), none⟩] [8, 4])
 (.seq (.block 4 [8, 4] (.loop [8, 4] (.seq (.seq (.region [⟨some 40, .mv (.t 4), none⟩, ⟨some 41, .mv (.t 8), none⟩, ⟨some 42, .bin .sub (.t 41) (.c (.int .i64 1)), none⟩, ⟨some 43, .ix 1 (.t 40) (.t 42), none⟩, ⟨some 44, .ld false 1 (.t 43), none⟩, ⟨some 45, .bin .eql (.t 44) (.c (.int .u8 48)), none⟩] [45, 8, 4])
 (.cond (.t 45) (.region [] [8, 4])
 (.exit 4)))
 (.block 5 [8, 4] (.region [⟨some 46, .mv (.t 8), none⟩, ⟨some 47, .bin .sub (.t 46) (.c (.int .i64 1)), none⟩, ⟨some 8, .mv (.t 47), none⟩] [8, 4])))))
 (.seq (.region [⟨some 9, .mv (.c (.slice none 0 0)), none⟩] [9, 8, 4])
 (.seq (.seq (.region [⟨some 48, .mv (.t 8), none⟩, ⟨some 49, .bin .sub (.t 48) (.c (.int .i64 1)), none⟩, ⟨some 10, .mv (.t 49), none⟩] [10, 9, 4])
 (.block 6 [9] (.loop [10, 9, 4] (.seq (.seq (.region [⟨some 50, .mv (.t 10), none⟩, ⟨some 51, .bin .geq (.t 50) (.c (.int .i64 0)), none⟩] [51, 10, 9, 4])
 (.cond (.t 51) (.region [] [10, 9, 4])
 (.exit 6)))
 (.seq (.block 7 [10, 9, 4] (.region [⟨some 54, .mv (.t 9), none⟩, ⟨some 55, .mv (.t 4), none⟩, ⟨some 56, .mv (.t 10), none⟩, ⟨some 57, .ix 1 (.t 55) (.t 56), none⟩, ⟨some 58, .ld false 1 (.t 57), none⟩, ⟨some 59, .bsl false 1 1 [.int .u8 0] [(0, .t 58)], none⟩, ⟨some 60, .app false 1 1 (.t 54) (.t 59), none⟩, ⟨some 9, .mv (.t 60), none⟩] [10, 9, 4]))
 (.region [⟨some 52, .mv (.t 10), none⟩, ⟨some 53, .bin .sub (.t 52) (.c (.int .i64 1)), none⟩, ⟨some 10, .mv (.t 53), none⟩] [10, 9, 4]))))))
 (.seq (.region [⟨some 61, .mv (.t 9), none⟩, ⟨some 62, .bstr (.t 61), none⟩, ⟨some 2, .mv (.t 62), none⟩] [2])
 (.ret))))))))))
theorem C_gaugeref1_Text : Codes Go.Proofs.Try.prog F_gaugeref1_Text S_gaugeref1_Text 63 [2] := ⟨Go.Proofs.Try.f110, Go.Proofs.Try.f110.body.getD .skip, Go.Proofs.Try.func110, by kernel_rfl, by kernel_rfl, by kernel_rfl, by kernel_rfl, by kernel_rfl⟩
def F_nat_Gcd : FuncId := 111
/-- gauge / nat.Gcd -/
def S_nat_Gcd : SC :=
 .seq (.region [⟨some 4, .mv (.c (.slice none 0 0)), none⟩, ⟨some 5, .mv (.c (.int .i64 0)), none⟩] [1, 0])
 (.seq (.seq (.region [⟨some 8, .mv (.t 0), none⟩, ⟨some 9, .call 108 [.t 8], none⟩, ⟨some 10, .un .not (.t 9), none⟩, ⟨some 11, .mv (.t 10), none⟩, ⟨some 12, .mv (.t 1), some (11, false)⟩, ⟨some 13, .call 108 [.t 12], some (11, false)⟩, ⟨some 14, .un .not (.t 13), some (11, false)⟩, ⟨some 15, .pick (.t 11) (.c (.bool true)) (.t 14), none⟩] [15, 1, 0])
 (.cond (.t 15) (.seq (.region [⟨some 4, .mv (.c (.slice none 0 0)), none⟩, ⟨some 5, .mv (.c (.int .i64 10)), none⟩] [5, 4])
 (.ret))
 (.region [] [1, 0])))
 (.seq (.region [⟨some 16, .mv (.t 0), none⟩, ⟨some 17, .call 100 [.t 16], none⟩, ⟨some 18, .mv (.t 1), none⟩, ⟨some 19, .call 100 [.t 18], none⟩, ⟨some 0, .mv (.t 17), none⟩, ⟨some 1, .mv (.t 19), none⟩] [1, 0])
 (.seq (.block 0 [0] (.loop [1, 0] (.seq (.seq (.region [⟨some 20, .mv (.t 1), none⟩, ⟨some 21, .len (.t 20), none⟩, ⟨some 22, .bin .gtr (.t 21) (.c (.int .i64 0)), none⟩] [22, 1, 0])
 (.cond (.t 22) (.region [] [1, 0])
 (.exit 0)))
 (.block 1 [1, 0] (.seq (.region [⟨some 24, .mv (.t 0), none⟩, ⟨some 25, .mv (.t 1), none⟩, ⟨some 26, .call 113 [.t 24, .t 25], none⟩, ⟨some 23, .mv (.t 26), none⟩, ⟨some 27, .ext (.t 23) 0, none⟩, ⟨some 28, .ext (.t 23) 1, none⟩, ⟨some 6, .mv (.t 27), none⟩, ⟨some 7, .mv (.t 28), none⟩] [7, 1])
 (.region [⟨some 29, .mv (.t 1), none⟩, ⟨some 30, .mv (.t 7), none⟩, ⟨some 0, .mv (.t 29), none⟩, ⟨some 1, .mv (.t 30), none⟩] [1, 0]))))))
 (.seq (.region [⟨some 31, .mv (.t 0), none⟩, ⟨some 4, .mv (.t 31), none⟩, ⟨some 5, .mv (.c (.int .i64 0)), none⟩] [5, 4])
 (.ret)))))
theorem C_nat_Gcd : Codes Go.Proofs.Try.prog F_nat_Gcd S_nat_Gcd 32 [4, 5] := ⟨Go.Proofs.Try.f111, Go.Proofs.Try.f111.body.getD .skip, Go.Proofs.Try.func111, by kernel_rfl, by kernel_rfl, by kernel_rfl, by kernel_rfl, by kernel_rfl⟩
def F_ratio_isOne : FuncId := 112
/-- gauge / ratio.isOne -/
def S_ratio_isOne : SC :=
 .seq (.region [⟨some 2, .mv (.c (.bool false)), none⟩] [0])
 (.seq (.region [⟨some 6, .mv (.t 0), none⟩, ⟨some 7, .call 70 [.t 6], none⟩, ⟨some 5, .mv (.t 7), none⟩, ⟨some 8, .ext (.t 5) 0, none⟩, ⟨some 9, .ext (.t 5) 1, none⟩, ⟨some 3, .mv (.t 8), none⟩, ⟨some 4, .mv (.t 9), none⟩] [4, 3])
 (.seq (.region [⟨some 10, .mv (.t 4), none⟩, ⟨some 11, .mv (.t 10), none⟩, ⟨some 12, .mv (.t 3), some (11, true)⟩, ⟨some 13, .bin .eql (.t 12) (.c (.int .u64 1)), some (11, true)⟩, ⟨some 14, .pick (.t 11) (.t 13) (.c (.bool false)), none⟩, ⟨some 2, .mv (.t 14), none⟩] [2])
 (.ret)))
theorem C_ratio_isOne : Codes Go.Proofs.Try.prog F_ratio_isOne S_ratio_isOne 15 [2] := ⟨Go.Proofs.Try.f112, Go.Proofs.Try.f112.body.getD .skip, Go.Proofs.Try.func112, by kernel_rfl, by kernel_rfl, by kernel_rfl, by kernel_rfl, by kernel_rfl⟩
def F_nat_div : FuncId := 113
/-- gauge / nat.div -/
def S_nat_div : SC :=
 .seq (.region [⟨some 4, .mv (.c (.slice none 0 0)), none⟩, ⟨some 5, .mv (.c (.slice none 0 0)), none⟩] [1, 0])
 (.seq (.seq (.region [⟨some 12, .mv (.t 0), none⟩, ⟨some 13, .mv (.t 1), none⟩, ⟨some 14, .call 115 [.t 12, .t 13], none⟩, ⟨some 15, .bin .lss (.t 14) (.c (.int .i64 0)), none⟩] [15, 1, 0])
 (.cond (.t 15) (.seq (.region [⟨some 16, .mv (.t 0), none⟩, ⟨some 17, .call 100 [.t 16], none⟩, ⟨some 4, .mv (.c (.slice none 0 0)), none⟩, ⟨some 5, .mv (.t 17), none⟩] [5, 4])
 (.ret))
 (.region [] [1, 0])))
 (.seq (.seq (.region [⟨some 18, .mv (.t 1), none⟩, ⟨some 19, .len (.t 18), none⟩, ⟨some 20, .bin .eql (.t 19) (.c (.int .i64 1)), none⟩] [20, 1, 0])
 (.cond (.t 20) (.seq (.region [⟨some 22, .mv (.t 0), none⟩, ⟨some 23, .mv (.t 1), none⟩, ⟨some 24, .ix 1 (.t 23) (.c (.int .i64 0)), none⟩, ⟨some 25, .ld false 1 (.t 24), none⟩, ⟨some 26, .call 122 [.t 22, .t 25], none⟩, ⟨some 21, .mv (.t 26), none⟩, ⟨some 27, .ext (.t 21) 0, none⟩, ⟨some 28, .ext (.t 21) 1, none⟩, ⟨some 6, .mv (.t 27), none⟩, ⟨some 7, .mv (.t 28), none⟩] [7, 6])
 (.seq (.region [⟨some 29, .mv (.t 6), none⟩, ⟨some 30, .mv (.t 7), none⟩, ⟨some 31, .call 71 [.t 30], none⟩, ⟨some 4, .mv (.t 29), none⟩, ⟨some 5, .mv (.t 31), none⟩] [5, 4])
 (.ret)))
 (.region [] [1, 0])))
 (.seq (.region [⟨some 32, .mv (.t 1), none⟩, ⟨some 33, .mv (.t 1), none⟩, ⟨some 34, .len (.t 33), none⟩, ⟨some 35, .bin .sub (.t 34) (.c (.int .i64 1)), none⟩, ⟨some 36, .ix 1 (.t 32) (.t 35), none⟩, ⟨some 37, .ld false 1 (.t 36), none⟩, ⟨some 38, .call 124 [.t 37], none⟩, ⟨some 8, .mv (.t 38), none⟩] [8, 1, 0])
 (.seq (.region [⟨some 39, .mv (.t 1), none⟩, ⟨some 40, .mv (.t 8), none⟩, ⟨some 41, .call 125 [.t 39, .t 40], none⟩, ⟨some 9, .mv (.t 41), none⟩] [9, 8, 0])
 (.seq (.region [⟨some 42, .mv (.t 0), none⟩, ⟨some 43, .mv (.t 8), none⟩, ⟨some 44, .call 125 [.t 42, .t 43], none⟩, ⟨some 45, .bsl false 1 1 [.int .u64 0] [(0, .c (.int .u64 0))], none⟩, ⟨some 46, .app false 1 8 (.t 44) (.t 45), none⟩, ⟨some 10, .mv (.t 46), none⟩] [10, 9, 8, 0])
 (.seq (.block 0 [10, 9, 8] (.loop [10, 9, 8, 0] (.seq (.seq (.region [⟨some 47, .mv (.t 10), none⟩, ⟨some 48, .len (.t 47), none⟩, ⟨some 49, .mv (.t 0), none⟩, ⟨some 50, .len (.t 49), none⟩, ⟨some 51, .bin .leq (.t 48) (.t 50), none⟩] [51, 10, 9, 8, 0])
 (.cond (.t 51) (.region [] [10, 9, 8, 0])
 (.exit 0)))
 (.block 1 [10, 9, 8, 0] (.region [⟨some 52, .mv (.t 10), none⟩, ⟨some 53, .bsl false 1 1 [.int .u64 0] [(0, .c (.int .u64 0))], none⟩, ⟨some 54, .app false 1 8 (.t 52) (.t 53), none⟩, ⟨some 10, .mv (.t 54), none⟩] [10, 9, 8, 0])))))
 (.seq (.region [⟨some 55, .mv (.t 10), none⟩, ⟨some 56, .len (.t 55), none⟩, ⟨some 57, .mv (.t 9), none⟩, ⟨some 58, .len (.t 57), none⟩, ⟨some 59, .bin .sub (.t 56) (.t 58), none⟩, ⟨some 60, .mks 1 8 [.int .u64 0] (.t 59) (.t 59), none⟩, ⟨some 4, .mv (.t 60), none⟩] [10, 9, 8, 4])
 (.seq (.seq (.region [⟨some 61, .mv (.t 4), none⟩, ⟨some 62, .len (.t 61), none⟩, ⟨some 63, .bin .sub (.t 62) (.c (.int .i64 1)), none⟩, ⟨some 11, .mv (.t 63), none⟩] [11, 10, 9, 8, 4])
 (.block 2 [10, 9, 8, 4] (.loop [11, 10, 9, 8, 4] (.seq (.seq (.region [⟨some 64, .mv (.t 11), none⟩, ⟨some 65, .bin .geq (.t 64) (.c (.int .i64 0)), none⟩] [65, 11, 10, 9, 8, 4])
 (.cond (.t 65) (.region [] [11, 10, 9, 8, 4])
 (.exit 2)))
 (.seq (.block 3 [11, 10, 9, 8, 4] (.region [⟨some 68, .mv (.t 4), none⟩, ⟨some 69, .mv (.t 11), none⟩, ⟨some 70, .mv (.t 10), none⟩, ⟨some 71, .mv (.t 11), none⟩, ⟨some 72, .mv (.t 11), none⟩, ⟨some 73, .mv (.t 9), none⟩, ⟨some 74, .len (.t 73), none⟩, ⟨some 75, .bin .add (.t 72) (.t 74), none⟩, ⟨some 76, .bin .add (.t 75) (.c (.int .i64 1)), none⟩, ⟨some 77, .mv (.t 11), none⟩, ⟨some 78, .mv (.t 9), none⟩, ⟨some 79, .len (.t 78), none⟩, ⟨some 80, .bin .add (.t 77) (.t 79), none⟩, ⟨some 81, .bin .add (.t 80) (.c (.int .i64 1)), none⟩, ⟨some 82, .sl 1 (.t 70) (some (.t 71)) (some (.t 76)) (some (.t 81)), none⟩, ⟨some 83, .mv (.t 9), none⟩, ⟨some 84, .call 126 [.t 82, .t 83], none⟩, ⟨some 85, .ix 1 (.t 68) (.t 69), none⟩, ⟨none, .st 1 (.t 85) (.t 84), none⟩] [11, 10, 9, 8, 4]))
 (.region [⟨some 66, .mv (.t 11), none⟩, ⟨some 67, .bin .sub (.t 66) (.c (.int .i64 1)), none⟩, ⟨some 11, .mv (.t 67), none⟩] [11, 10, 9, 8, 4]))))))
 (.seq (.seq .says (.drawn [0, 1, 2, 3, 4, 5, 6, 7, 8, 9, 10, 11, 12] [⟨some 86, .mv (.t 4), none⟩, ⟨some 87, .callq 127 [.t 86], none⟩, ⟨some 88, .mv (.t 10), none⟩, ⟨some 89, .mv (.t 9), none⟩, ⟨some 90, .len (.t 89), none⟩, ⟨some 91, .mv (.t 9), none⟩, ⟨some 92, .len (.t 91), none⟩, ⟨some 93, .sl 1 (.t 88) none (some (.t 90)) (some (.t 92)), none⟩, ⟨some 94, .callq 127 [.t 93], none⟩, ⟨some 95, .mv (.t 8), none⟩, ⟨some 96, .callq 128 [.t 94, .t 95], none⟩, ⟨some 4, .mv (.t 87), none⟩, ⟨some 5, .mv (.t 96), none⟩] [5, 4]))
 (.ret))))))))))
theorem C_nat_div : Codes Go.Proofs.Try.prog F_nat_div S_nat_div 97 [4, 5] := ⟨Go.Proofs.Try.f113, Go.Proofs.Try.f113.body.getD .skip, Go.Proofs.Try.func113, by kernel_rfl, by kernel_rfl, by kernel_rfl, by kernel_rfl, by kernel_rfl⟩
def F_nat_add : FuncId := 114
def S_nat_add_j3 : SC :=
 .region [⟨some 52, .mv (.t 5), none⟩, ⟨some 53, .mv (.t 7), none⟩, ⟨some 54, .mv (.t 9), none⟩, ⟨some 55, .ix 1 (.t 52) (.t 53), none⟩, ⟨none, .st 1 (.t 55) (.t 54), none⟩] [23, 22, 21, 6, 5, 1, 0]
def S_nat_add_j2 : SC :=
 .seq (.seq (.region [⟨some 34, .mv (.t 7), none⟩, ⟨some 35, .mv (.t 1), none⟩, ⟨some 36, .len (.t 35), none⟩, ⟨some 37, .bin .lss (.t 34) (.t 36), none⟩] [37, 23, 22, 21, 9, 7, 6, 5, 1, 0])
 (.cond (.t 37) (.seq (.region [⟨some 38, .mv (.t 9), none⟩, ⟨some 39, .mv (.t 1), none⟩, ⟨some 40, .mv (.t 7), none⟩, ⟨some 41, .ix 1 (.t 39) (.t 40), none⟩, ⟨some 42, .ld false 1 (.t 41), none⟩, ⟨some 43, .bin .add (.t 38) (.t 42), none⟩, ⟨some 9, .mv (.t 43), none⟩] [23, 22, 21, 9, 7, 6, 5, 1, 0])
 (.seq (.region [⟨some 44, .mv (.t 9), none⟩, ⟨some 45, .mv (.t 1), none⟩, ⟨some 46, .mv (.t 7), none⟩, ⟨some 47, .ix 1 (.t 45) (.t 46), none⟩, ⟨some 48, .ld false 1 (.t 47), none⟩, ⟨some 49, .bin .lss (.t 44) (.t 48), none⟩] [49, 23, 22, 21, 9, 7, 6, 5, 1, 0])
 (.cond (.t 49) (.region [⟨some 50, .mv (.t 6), none⟩, ⟨some 51, .bin .add (.t 50) (.c (.int .u64 1)), none⟩, ⟨some 6, .mv (.t 51), none⟩] [23, 22, 21, 9, 7, 6, 5, 1, 0])
 (.region [] [23, 22, 21, 9, 7, 6, 5, 1, 0]))))
 (.region [] [23, 22, 21, 9, 7, 6, 5, 1, 0])))
 (.seq .says S_nat_add_j3)
def S_nat_add_j1 : SC :=
 .seq (.region [⟨some 17, .mv (.t 0), none⟩, ⟨some 18, .len (.t 17), none⟩, ⟨some 19, .bin .add (.t 18) (.c (.int .i64 1)), none⟩, ⟨some 20, .mks 1 8 [.int .u64 0] (.t 19) (.t 19), none⟩, ⟨some 5, .mv (.t 20), none⟩] [5, 1, 0])
 (.seq (.region [⟨some 6, .mv (.c (.int .u64 0)), none⟩] [6, 5, 1, 0])
 (.seq (.seq (.region [⟨some 21, .mv (.t 0), none⟩, ⟨some 22, .len (.t 21), none⟩, ⟨some 23, .mv (.c (.int .i64 0)), none⟩] [23, 22, 21, 6, 5, 1, 0])
 (.block 0 [6, 5, 0] (.loop [23, 22, 21, 6, 5, 1, 0] (.seq (.region [⟨some 24, .bin .lss (.t 23) (.t 22), none⟩] [24, 23, 22, 21, 6, 5, 1, 0])
 (.seq (.cond (.t 24) (.region [] [23, 22, 21, 6, 5, 1, 0])
 (.exit 0))
 (.seq (.block 1 [23, 22, 21, 6, 5, 1, 0] (.seq (.region [⟨some 25, .mv (.t 23), none⟩, ⟨some 26, .ix 1 (.t 21) (.t 23), none⟩, ⟨some 27, .ld false 1 (.t 26), none⟩, ⟨some 7, .mv (.t 25), none⟩, ⟨some 8, .mv (.t 27), none⟩] [23, 22, 21, 8, 7, 6, 5, 1, 0])
 (.seq (.region [⟨some 28, .mv (.t 8), none⟩, ⟨some 29, .mv (.t 6), none⟩, ⟨some 30, .bin .add (.t 28) (.t 29), none⟩, ⟨some 9, .mv (.t 30), none⟩] [23, 22, 21, 9, 8, 7, 5, 1, 0])
 (.seq (.region [⟨some 6, .mv (.c (.int .u64 0)), none⟩] [23, 22, 21, 9, 8, 7, 6, 5, 1, 0])
 (.seq (.seq (.region [⟨some 31, .mv (.t 9), none⟩, ⟨some 32, .mv (.t 8), none⟩, ⟨some 33, .bin .lss (.t 31) (.t 32), none⟩] [33, 23, 22, 21, 9, 7, 6, 5, 1, 0])
 (.cond (.t 33) (.region [⟨some 6, .mv (.c (.int .u64 1)), none⟩] [23, 22, 21, 9, 7, 6, 5, 1, 0])
 (.region [] [23, 22, 21, 9, 7, 6, 5, 1, 0])))
 (.seq .says S_nat_add_j2))))))
 (.region [⟨some 56, .bin .add (.t 23) (.c (.int .i64 1)), none⟩, ⟨some 23, .mv (.t 56), none⟩] [23, 22, 21, 6, 5, 1, 0])))))))
 (.seq (.region [⟨some 57, .mv (.t 5), none⟩, ⟨some 58, .mv (.t 0), none⟩, ⟨some 59, .len (.t 58), none⟩, ⟨some 60, .mv (.t 6), none⟩, ⟨some 61, .ix 1 (.t 57) (.t 59), none⟩, ⟨none, .st 1 (.t 61) (.t 60), none⟩] [5])
 (.seq (.region [⟨some 62, .mv (.t 5), none⟩, ⟨some 63, .call 127 [.t 62], none⟩, ⟨some 4, .mv (.t 63), none⟩] [4])
 (.ret)))))
/-- gauge / nat.add -/
def S_nat_add : SC :=
 .seq (.region [⟨some 4, .mv (.c (.slice none 0 0)), none⟩] [1, 0])
 (.seq (.seq (.region [⟨some 10, .mv (.t 0), none⟩, ⟨some 11, .len (.t 10), none⟩, ⟨some 12, .mv (.t 1), none⟩, ⟨some 13, .len (.t 12), none⟩, ⟨some 14, .bin .lss (.t 11) (.t 13), none⟩] [14, 1, 0])
 (.cond (.t 14) (.region [⟨some 15, .mv (.t 1), none⟩, ⟨some 16, .mv (.t 0), none⟩, ⟨some 0, .mv (.t 15), none⟩, ⟨some 1, .mv (.t 16), none⟩] [1, 0])
 (.region [] [1, 0])))
 (.seq .says S_nat_add_j1))
theorem C_nat_add : Codes Go.Proofs.Try.prog F_nat_add S_nat_add 64 [4] := ⟨Go.Proofs.Try.f114, Go.Proofs.Try.f114.body.getD .skip, Go.Proofs.Try.func114, by kernel_rfl, by kernel_rfl, by kernel_rfl, by kernel_rfl, by kernel_rfl⟩
def F_nat_cmp : FuncId := 115
/-- gauge / nat.cmp -/
def S_nat_cmp : SC :=
 .seq (.region [⟨some 4, .mv (.c (.int .i64 0)), none⟩] [1, 0])
 (.seq (.seq (.region [⟨some 6, .mv (.t 0), none⟩, ⟨some 7, .len (.t 6), none⟩, ⟨some 8, .mv (.t 1), none⟩, ⟨some 9, .len (.t 8), none⟩, ⟨some 10, .bin .neq (.t 7) (.t 9), none⟩] [10, 1, 0])
 (.cond (.t 10) (.seq (.seq (.region [⟨some 11, .mv (.t 0), none⟩, ⟨some 12, .len (.t 11), none⟩, ⟨some 13, .mv (.t 1), none⟩, ⟨some 14, .len (.t 13), none⟩, ⟨some 15, .bin .lss (.t 12) (.t 14), none⟩] [15])
 (.cond (.t 15) (.seq (.region [⟨some 4, .mv (.c (.int .i64 (-1))), none⟩] [4])
 (.ret))
 (.region [] [])))
 (.seq (.region [⟨some 4, .mv (.c (.int .i64 1)), none⟩] [4])
 (.ret)))
 (.region [] [1, 0])))
 (.seq (.seq (.region [⟨some 16, .mv (.t 0), none⟩, ⟨some 17, .len (.t 16), none⟩, ⟨some 18, .bin .sub (.t 17) (.c (.int .i64 1)), none⟩, ⟨some 5, .mv (.t 18), none⟩] [5, 1, 0])
 (.block 0 [] (.loop [5, 1, 0] (.seq (.seq (.region [⟨some 19, .mv (.t 5), none⟩, ⟨some 20, .bin .geq (.t 19) (.c (.int .i64 0)), none⟩] [20, 5, 1, 0])
 (.cond (.t 20) (.region [] [5, 1, 0])
 (.exit 0)))
 (.seq (.block 1 [5, 1, 0] (.block 2 [5, 1, 0] (.seq (.drawn [0, 1, 2, 3, 4, 5, 6, 7, 8, 9] [⟨some 24, .mv (.t 0), none⟩, ⟨some 25, .mv (.t 5), none⟩, ⟨some 26, .ix 1 (.t 24) (.t 25), none⟩, ⟨some 27, .ld false 1 (.t 26), none⟩, ⟨some 28, .mv (.t 1), none⟩, ⟨some 29, .mv (.t 5), none⟩, ⟨some 30, .ix 1 (.t 28) (.t 29), none⟩, ⟨some 31, .ld false 1 (.t 30), none⟩, ⟨some 32, .bin .lss (.t 27) (.t 31), none⟩, ⟨some 23, .mv (.t 32), none⟩] [23, 5, 1, 0])
 (.cond (.t 23) (.seq (.region [⟨some 4, .mv (.c (.int .i64 (-1))), none⟩] [4])
 (.ret))
 (.seq (.drawn [0, 1, 2, 3, 4, 5, 6, 7, 8, 9] [⟨some 34, .mv (.t 0), none⟩, ⟨some 35, .mv (.t 5), none⟩, ⟨some 36, .ix 1 (.t 34) (.t 35), none⟩, ⟨some 37, .ld false 1 (.t 36), none⟩, ⟨some 38, .mv (.t 1), none⟩, ⟨some 39, .mv (.t 5), none⟩, ⟨some 40, .ix 1 (.t 38) (.t 39), none⟩, ⟨some 41, .ld false 1 (.t 40), none⟩, ⟨some 42, .bin .gtr (.t 37) (.t 41), none⟩, ⟨some 33, .mv (.t 42), none⟩] [33, 5, 1, 0])
 (.cond (.t 33) (.seq (.region [⟨some 4, .mv (.c (.int .i64 1)), none⟩] [4])
 (.ret))
 (.region [] [5, 1, 0])))))))
 (.region [⟨some 21, .mv (.t 5), none⟩, ⟨some 22, .bin .sub (.t 21) (.c (.int .i64 1)), none⟩, ⟨some 5, .mv (.t 22), none⟩] [5, 1, 0]))))))
 (.seq (.region [⟨some 4, .mv (.c (.int .i64 0)), none⟩] [4])
 (.ret))))
theorem C_nat_cmp : Codes Go.Proofs.Try.prog F_nat_cmp S_nat_cmp 43 [4] := ⟨Go.Proofs.Try.f115, Go.Proofs.Try.f115.body.getD .skip, Go.Proofs.Try.func115, by kernel_rfl, by kernel_rfl, by kernel_rfl, by kernel_rfl, by kernel_rfl⟩
def F_nat_sub : FuncId := 116
def S_nat_sub_j2 : SC :=
 .region [⟨some 41, .mv (.t 5), none⟩, ⟨some 42, .mv (.t 7), none⟩, ⟨some 43, .ix 1 (.t 41) (.t 42), none⟩, ⟨some 44, .ld false 1 (.t 43), none⟩, ⟨some 45, .mv (.t 8), none⟩, ⟨some 46, .bin .sub (.t 44) (.t 45), none⟩, ⟨some 47, .ix 1 (.t 41) (.t 42), none⟩, ⟨none, .st 1 (.t 47) (.t 46), none⟩] [13, 12, 6, 5, 1]
def S_nat_sub_j1 : SC :=
 .seq (.seq (.region [⟨some 33, .mv (.t 5), none⟩, ⟨some 34, .mv (.t 7), none⟩, ⟨some 35, .ix 1 (.t 33) (.t 34), none⟩, ⟨some 36, .ld false 1 (.t 35), none⟩, ⟨some 37, .mv (.t 8), none⟩, ⟨some 38, .bin .lss (.t 36) (.t 37), none⟩] [38, 13, 12, 8, 7, 6, 5, 1])
 (.cond (.t 38) (.region [⟨some 39, .mv (.t 6), none⟩, ⟨some 40, .bin .add (.t 39) (.c (.int .u64 1)), none⟩, ⟨some 6, .mv (.t 40), none⟩] [13, 12, 8, 7, 6, 5, 1])
 (.region [] [13, 12, 8, 7, 6, 5, 1])))
 (.seq .says S_nat_sub_j2)
/-- gauge / nat.sub -/
def S_nat_sub : SC :=
 .seq (.region [⟨some 4, .mv (.c (.slice none 0 0)), none⟩] [1, 0])
 (.seq (.region [⟨some 9, .mv (.t 0), none⟩, ⟨some 10, .call 100 [.t 9], none⟩, ⟨some 5, .mv (.t 10), none⟩] [5, 1])
 (.seq (.region [⟨some 6, .mv (.c (.int .u64 0)), none⟩] [6, 5, 1])
 (.seq (.seq (.region [⟨some 11, .mv (.t 5), none⟩, ⟨some 12, .len (.t 11), none⟩, ⟨some 13, .mv (.c (.int .i64 0)), none⟩] [13, 12, 6, 5, 1])
 (.block 0 [5] (.loop [13, 12, 6, 5, 1] (.seq (.region [⟨some 14, .bin .lss (.t 13) (.t 12), none⟩] [14, 13, 12, 6, 5, 1])
 (.seq (.cond (.t 14) (.region [] [13, 12, 6, 5, 1])
 (.exit 0))
 (.seq (.block 1 [13, 12, 6, 5, 1] (.seq (.region [⟨some 15, .mv (.t 13), none⟩, ⟨some 7, .mv (.t 15), none⟩] [13, 12, 7, 6, 5, 1])
 (.seq (.region [⟨some 16, .mv (.t 6), none⟩, ⟨some 8, .mv (.t 16), none⟩] [13, 12, 8, 7, 5, 1])
 (.seq (.seq (.region [⟨some 17, .mv (.t 7), none⟩, ⟨some 18, .mv (.t 1), none⟩, ⟨some 19, .len (.t 18), none⟩, ⟨some 20, .bin .lss (.t 17) (.t 19), none⟩] [20, 13, 12, 8, 7, 5, 1])
 (.cond (.t 20) (.seq (.region [⟨some 21, .mv (.t 8), none⟩, ⟨some 22, .mv (.t 1), none⟩, ⟨some 23, .mv (.t 7), none⟩, ⟨some 24, .ix 1 (.t 22) (.t 23), none⟩, ⟨some 25, .ld false 1 (.t 24), none⟩, ⟨some 26, .bin .add (.t 21) (.t 25), none⟩, ⟨some 8, .mv (.t 26), none⟩] [13, 12, 8, 7, 5, 1])
 (.seq (.region [⟨some 6, .mv (.c (.int .u64 0)), none⟩] [13, 12, 8, 7, 6, 5, 1])
 (.seq (.region [⟨some 27, .mv (.t 8), none⟩, ⟨some 28, .mv (.t 1), none⟩, ⟨some 29, .mv (.t 7), none⟩, ⟨some 30, .ix 1 (.t 28) (.t 29), none⟩, ⟨some 31, .ld false 1 (.t 30), none⟩, ⟨some 32, .bin .lss (.t 27) (.t 31), none⟩] [32, 13, 12, 8, 7, 6, 5, 1])
 (.cond (.t 32) (.region [⟨some 6, .mv (.c (.int .u64 1)), none⟩] [13, 12, 8, 7, 6, 5, 1])
 (.region [] [13, 12, 8, 7, 6, 5, 1])))))
 (.region [⟨some 6, .mv (.c (.int .u64 0)), none⟩] [13, 12, 8, 7, 6, 5, 1])))
 (.seq .says S_nat_sub_j1)))))
 (.region [⟨some 48, .bin .add (.t 13) (.c (.int .i64 1)), none⟩, ⟨some 13, .mv (.t 48), none⟩] [13, 12, 6, 5, 1])))))))
 (.seq (.region [⟨some 49, .mv (.t 5), none⟩, ⟨some 50, .call 127 [.t 49], none⟩, ⟨some 4, .mv (.t 50), none⟩] [4])
 (.ret)))))
theorem C_nat_sub : Codes Go.Proofs.Try.prog F_nat_sub S_nat_sub 51 [4] := ⟨Go.Proofs.Try.f116, Go.Proofs.Try.f116.body.getD .skip, Go.Proofs.Try.func116, by kernel_rfl, by kernel_rfl, by kernel_rfl, by kernel_rfl, by kernel_rfl⟩
def F_nat_mul : FuncId := 117
/-- gauge / nat.mul -/
def S_nat_mul : SC :=
 .seq (.region [⟨some 4, .mv (.c (.slice none 0 0)), none⟩] [1, 0])
 (.seq (.region [⟨some 15, .mv (.t 0), none⟩, ⟨some 16, .len (.t 15), none⟩, ⟨some 17, .mv (.t 1), none⟩, ⟨some 18, .len (.t 17), none⟩, ⟨some 19, .bin .add (.t 16) (.t 18), none⟩, ⟨some 20, .mks 1 8 [.int .u64 0] (.t 19) (.t 19), none⟩, ⟨some 5, .mv (.t 20), none⟩] [5, 1, 0])
 (.seq (.seq (.region [⟨some 21, .mv (.t 0), none⟩, ⟨some 22, .len (.t 21), none⟩, ⟨some 23, .mv (.c (.int .i64 0)), none⟩] [23, 22, 21, 5, 1])
 (.block 0 [5] (.loop [23, 22, 21, 5, 1] (.seq (.region [⟨some 24, .bin .lss (.t 23) (.t 22), none⟩] [24, 23, 22, 21, 5, 1])
 (.seq (.cond (.t 24) (.region [] [23, 22, 21, 5, 1])
 (.exit 0))
 (.seq (.block 1 [23, 22, 21, 5, 1] (.seq (.region [⟨some 25, .mv (.t 23), none⟩, ⟨some 26, .ix 1 (.t 21) (.t 23), none⟩, ⟨some 27, .ld false 1 (.t 26), none⟩, ⟨some 6, .mv (.t 25), none⟩, ⟨some 7, .mv (.t 27), none⟩] [23, 22, 21, 7, 6, 5, 1])
 (.seq (.region [⟨some 28, .mv (.t 5), none⟩, ⟨some 29, .mv (.t 6), none⟩, ⟨some 30, .mv (.t 6), none⟩, ⟨some 31, .mv (.t 1), none⟩, ⟨some 32, .len (.t 31), none⟩, ⟨some 33, .bin .add (.t 30) (.t 32), none⟩, ⟨some 34, .bin .add (.t 33) (.c (.int .i64 1)), none⟩, ⟨some 35, .mv (.t 6), none⟩, ⟨some 36, .mv (.t 1), none⟩, ⟨some 37, .len (.t 36), none⟩, ⟨some 38, .bin .add (.t 35) (.t 37), none⟩, ⟨some 39, .bin .add (.t 38) (.c (.int .i64 1)), none⟩, ⟨some 40, .sl 1 (.t 28) (some (.t 29)) (some (.t 34)) (some (.t 39)), none⟩, ⟨some 8, .mv (.t 40), none⟩] [23, 22, 21, 8, 7, 5, 1])
 (.seq (.region [⟨some 9, .mv (.c (.int .u64 0)), none⟩] [23, 22, 21, 9, 8, 7, 5, 1])
 (.seq (.seq (.region [⟨some 41, .mv (.t 1), none⟩, ⟨some 42, .len (.t 41), none⟩, ⟨some 43, .mv (.c (.int .i64 0)), none⟩] [43, 42, 41, 23, 22, 21, 9, 8, 7, 5, 1])
 (.block 2 [23, 22, 21, 9, 8, 5, 1] (.loop [43, 42, 41, 23, 22, 21, 9, 8, 7, 5, 1] (.seq (.region [⟨some 44, .bin .lss (.t 43) (.t 42), none⟩] [44, 43, 42, 41, 23, 22, 21, 9, 8, 7, 5, 1])
 (.seq (.cond (.t 44) (.region [] [43, 42, 41, 23, 22, 21, 9, 8, 7, 5, 1])
 (.exit 2))
 (.seq (.block 3 [43, 42, 41, 23, 22, 21, 9, 8, 7, 5, 1] (.seq (.region [⟨some 45, .mv (.t 43), none⟩, ⟨some 46, .ix 1 (.t 41) (.t 43), none⟩, ⟨some 47, .ld false 1 (.t 46), none⟩, ⟨some 10, .mv (.t 45), none⟩, ⟨some 11, .mv (.t 47), none⟩] [43, 42, 41, 23, 22, 21, 11, 10, 9, 8, 7, 5, 1])
 (.seq (.region [⟨some 49, .mv (.t 7), none⟩, ⟨some 50, .mv (.t 11), none⟩, ⟨some 51, .call 129 [.t 49, .t 50], none⟩, ⟨some 48, .mv (.t 51), none⟩, ⟨some 52, .ext (.t 48) 0, none⟩, ⟨some 53, .ext (.t 48) 1, none⟩, ⟨some 12, .mv (.t 52), none⟩, ⟨some 13, .mv (.t 53), none⟩] [43, 42, 41, 23, 22, 21, 13, 12, 10, 9, 8, 7, 5, 1])
 (.seq (.region [⟨some 55, .mv (.t 13), none⟩, ⟨some 56, .mv (.t 9), none⟩, ⟨some 57, .call 130 [.t 55, .t 56, .c (.int .u64 0)], none⟩, ⟨some 54, .mv (.t 57), none⟩, ⟨some 58, .ext (.t 54) 0, none⟩, ⟨some 59, .ext (.t 54) 1, none⟩, ⟨some 13, .mv (.t 58), none⟩, ⟨some 14, .mv (.t 59), none⟩] [43, 42, 41, 23, 22, 21, 14, 13, 12, 10, 8, 7, 5, 1])
 (.seq (.region [⟨some 60, .mv (.t 12), none⟩, ⟨some 61, .mv (.t 14), none⟩, ⟨some 62, .bin .add (.t 60) (.t 61), none⟩, ⟨some 12, .mv (.t 62), none⟩] [43, 42, 41, 23, 22, 21, 13, 12, 10, 8, 7, 5, 1])
 (.seq (.region [⟨some 64, .mv (.t 8), none⟩, ⟨some 65, .mv (.t 10), none⟩, ⟨some 66, .mv (.t 8), none⟩, ⟨some 67, .mv (.t 10), none⟩, ⟨some 68, .ix 1 (.t 66) (.t 67), none⟩, ⟨some 69, .ld false 1 (.t 68), none⟩, ⟨some 70, .mv (.t 13), none⟩, ⟨some 71, .call 130 [.t 69, .t 70, .c (.int .u64 0)], none⟩, ⟨some 63, .mv (.t 71), none⟩, ⟨some 72, .ext (.t 63) 0, none⟩, ⟨some 73, .ext (.t 63) 1, none⟩, ⟨some 74, .ix 1 (.t 64) (.t 65), none⟩, ⟨none, .st 1 (.t 74) (.t 72), none⟩, ⟨some 14, .mv (.t 73), none⟩] [43, 42, 41, 23, 22, 21, 14, 12, 8, 7, 5, 1])
 (.region [⟨some 75, .mv (.t 12), none⟩, ⟨some 76, .mv (.t 14), none⟩, ⟨some 77, .bin .add (.t 75) (.t 76), none⟩, ⟨some 9, .mv (.t 77), none⟩] [43, 42, 41, 23, 22, 21, 9, 8, 7, 5, 1])))))))
 (.region [⟨some 78, .bin .add (.t 43) (.c (.int .i64 1)), none⟩, ⟨some 43, .mv (.t 78), none⟩] [43, 42, 41, 23, 22, 21, 9, 8, 7, 5, 1])))))))
 (.region [⟨some 79, .mv (.t 8), none⟩, ⟨some 80, .mv (.t 1), none⟩, ⟨some 81, .len (.t 80), none⟩, ⟨some 82, .mv (.t 9), none⟩, ⟨some 83, .ix 1 (.t 79) (.t 81), none⟩, ⟨none, .st 1 (.t 83) (.t 82), none⟩] [23, 22, 21, 5, 1]))))))
 (.region [⟨some 84, .bin .add (.t 23) (.c (.int .i64 1)), none⟩, ⟨some 23, .mv (.t 84), none⟩] [23, 22, 21, 5, 1])))))))
 (.seq (.region [⟨some 85, .mv (.t 5), none⟩, ⟨some 86, .call 127 [.t 85], none⟩, ⟨some 4, .mv (.t 86), none⟩] [4])
 (.ret))))
theorem C_nat_mul : Codes Go.Proofs.Try.prog F_nat_mul S_nat_mul 87 [4] := ⟨Go.Proofs.Try.f117, Go.Proofs.Try.f117.body.getD .skip, Go.Proofs.Try.func117, by kernel_rfl, by kernel_rfl, by kernel_rfl, by kernel_rfl, by kernel_rfl⟩
def F_gaugeref1_short : FuncId := 118
/-- gauge / gaugeref1.short -/
def S_gaugeref1_short : SC :=
 .seq (.region [⟨some 4, .mv (.c (.slice none 0 0)), none⟩, ⟨some 5, .mv (.c (.int .u32 0)), none⟩] [1, 0])
 (.seq (.region [⟨some 9, .mv (.t 0), none⟩, ⟨some 10, .len (.t 9), none⟩, ⟨some 11, .mks 1 4 [.int .u32 0] (.t 10) (.t 10), none⟩, ⟨some 6, .mv (.t 11), none⟩] [6, 1, 0])
 (.seq (.region [⟨some 7, .mv (.c (.int .u64 0)), none⟩] [7, 6, 1, 0])
 (.seq (.seq (.region [⟨some 12, .mv (.t 0), none⟩, ⟨some 13, .len (.t 12), none⟩, ⟨some 14, .bin .sub (.t 13) (.c (.int .i64 1)), none⟩, ⟨some 8, .mv (.t 14), none⟩] [8, 7, 6, 1, 0])
 (.block 0 [7, 6] (.loop [8, 7, 6, 1, 0] (.seq (.seq (.region [⟨some 15, .mv (.t 8), none⟩, ⟨some 16, .bin .geq (.t 15) (.c (.int .i64 0)), none⟩] [16, 8, 7, 6, 1, 0])
 (.cond (.t 16) (.region [] [8, 7, 6, 1, 0])
 (.exit 0)))
 (.seq (.block 1 [8, 7, 6, 1, 0] (.seq (.region [⟨some 19, .mv (.t 7), none⟩, ⟨some 20, .bin .shl (.t 19) (.c (.int .u64 32)), none⟩, ⟨some 21, .mv (.t 0), none⟩, ⟨some 22, .mv (.t 8), none⟩, ⟨some 23, .ix 1 (.t 21) (.t 22), none⟩, ⟨some 24, .ld false 1 (.t 23), none⟩, ⟨some 25, .conv .u64 (.t 24), none⟩, ⟨some 26, .bin .or (.t 20) (.t 25), none⟩, ⟨some 7, .mv (.t 26), none⟩] [8, 7, 6, 1, 0])
 (.seq (.region [⟨some 27, .mv (.t 6), none⟩, ⟨some 28, .mv (.t 8), none⟩, ⟨some 29, .mv (.t 7), none⟩, ⟨some 30, .mv (.t 1), none⟩, ⟨some 31, .conv .u64 (.t 30), none⟩, ⟨some 32, .bin .quo (.t 29) (.t 31), none⟩, ⟨some 33, .conv .u32 (.t 32), none⟩, ⟨some 34, .ix 1 (.t 27) (.t 28), none⟩, ⟨none, .st 1 (.t 34) (.t 33), none⟩] [8, 7, 6, 1, 0])
 (.region [⟨some 35, .mv (.t 7), none⟩, ⟨some 36, .mv (.t 1), none⟩, ⟨some 37, .conv .u64 (.t 36), none⟩, ⟨some 38, .bin .rem (.t 35) (.t 37), none⟩, ⟨some 7, .mv (.t 38), none⟩] [8, 7, 6, 1, 0]))))
 (.region [⟨some 17, .mv (.t 8), none⟩, ⟨some 18, .bin .sub (.t 17) (.c (.int .i64 1)), none⟩, ⟨some 8, .mv (.t 18), none⟩] [8, 7, 6, 1, 0]))))))
 (.seq (.region [⟨some 39, .mv (.t 6), none⟩, ⟨some 40, .call 95 [.t 39], none⟩, ⟨some 41, .mv (.t 7), none⟩, ⟨some 42, .conv .u32 (.t 41), none⟩, ⟨some 4, .mv (.t 40), none⟩, ⟨some 5, .mv (.t 42), none⟩] [5, 4])
 (.ret)))))
theorem C_gaugeref1_short : Codes Go.Proofs.Try.prog F_gaugeref1_short S_gaugeref1_short 43 [4, 5] := ⟨Go.Proofs.Try.f118, Go.Proofs.Try.f118.body.getD .skip, Go.Proofs.Try.func118, by kernel_rfl, by kernel_rfl, by kernel_rfl, by kernel_rfl, by kernel_rfl⟩
def F_gaugeref1_Len : FuncId := 119
/-- gauge / gaugeref1.Len -/
def S_gaugeref1_Len : SC :=
 .seq (.region [⟨some 2, .mv (.c (.int .i64 0)), none⟩] [0])
 (.seq (.seq (.region [⟨some 5, .mv (.t 0), none⟩, ⟨some 6, .len (.t 5), none⟩, ⟨some 7, .bin .eql (.t 6) (.c (.int .i64 0)), none⟩] [7, 0])
 (.cond (.t 7) (.seq (.region [⟨some 2, .mv (.c (.int .i64 0)), none⟩] [2])
 (.ret))
 (.region [] [0])))
 (.seq (.region [⟨some 8, .mv (.t 0), none⟩, ⟨some 9, .len (.t 8), none⟩, ⟨some 10, .bin .sub (.t 9) (.c (.int .i64 1)), none⟩, ⟨some 11, .bin .mul (.c (.int .i64 64)) (.t 10), none⟩, ⟨some 3, .mv (.t 11), none⟩] [3, 0])
 (.seq (.seq (.region [⟨some 12, .mv (.t 0), none⟩, ⟨some 13, .mv (.t 0), none⟩, ⟨some 14, .len (.t 13), none⟩, ⟨some 15, .bin .sub (.t 14) (.c (.int .i64 1)), none⟩, ⟨some 16, .ix 1 (.t 12) (.t 15), none⟩, ⟨some 17, .ld false 1 (.t 16), none⟩, ⟨some 4, .mv (.t 17), none⟩] [4, 3])
 (.block 0 [3] (.loop [4, 3] (.seq (.seq (.region [⟨some 18, .mv (.t 4), none⟩, ⟨some 19, .bin .neq (.t 18) (.c (.int .u64 0)), none⟩] [19, 4, 3])
 (.cond (.t 19) (.region [] [4, 3])
 (.exit 0)))
 (.seq (.block 1 [4, 3] (.region [⟨some 22, .mv (.t 3), none⟩, ⟨some 23, .bin .add (.t 22) (.c (.int .i64 1)), none⟩, ⟨some 3, .mv (.t 23), none⟩] [4, 3]))
 (.region [⟨some 20, .mv (.t 4), none⟩, ⟨some 21, .bin .shr (.t 20) (.c (.int .u64 1)), none⟩, ⟨some 4, .mv (.t 21), none⟩] [4, 3]))))))
 (.seq (.region [⟨some 24, .mv (.t 3), none⟩, ⟨some 2, .mv (.t 24), none⟩] [2])
 (.ret)))))
theorem C_gaugeref1_Len : Codes Go.Proofs.Try.prog F_gaugeref1_Len S_gaugeref1_Len 25 [2] := ⟨Go.Proofs.Try.f119, Go.Proofs.Try.f119.body.getD .skip, Go.Proofs.Try.func119, by kernel_rfl, by kernel_rfl, by kernel_rfl, by kernel_rfl, by kernel_rfl⟩
def F_gaugeref1_Up2 : FuncId := 120
def S_gaugeref1_Up2_j1 : SC :=
 .region [⟨some 22, .mv (.t 8), none⟩, ⟨some 23, .bin .add (.t 22) (.c (.int .i64 1)), none⟩, ⟨some 8, .mv (.t 23), none⟩] [8, 7, 6, 5, 0]
/-- gauge / gaugeref1.Up2 -/
def S_gaugeref1_Up2 : SC :=
 .seq (.region [⟨some 4, .mv (.c (.slice none 0 0)), none⟩] [1, 0])
 (.seq (.seq (.region [⟨some 9, .mv (.t 0), none⟩, ⟨some 10, .len (.t 9), none⟩, ⟨some 11, .bin .eql (.t 10) (.c (.int .i64 0)), none⟩] [11, 1, 0])
 (.cond (.t 11) (.seq (.region [⟨some 4, .mv (.c (.slice none 0 0)), none⟩] [4])
 (.ret))
 (.region [] [1, 0])))
 (.seq (.region [⟨some 12, .mv (.t 1), none⟩, ⟨some 13, .bin .quo (.t 12) (.c (.int .i64 64)), none⟩, ⟨some 14, .mks 1 8 [.int .u64 0] (.t 13) (.t 13), none⟩, ⟨some 5, .mv (.t 14), none⟩] [5, 1, 0])
 (.seq (.region [⟨some 15, .mv (.t 1), none⟩, ⟨some 16, .bin .rem (.t 15) (.c (.int .i64 64)), none⟩, ⟨some 17, .conv .u64 (.t 16), none⟩, ⟨some 6, .mv (.t 17), none⟩] [6, 5, 0])
 (.seq (.region [⟨some 7, .mv (.c (.int .u64 0)), none⟩] [7, 6, 5, 0])
 (.seq (.seq (.region [⟨some 8, .mv (.c (.int .i64 0)), none⟩] [8, 7, 6, 5, 0])
 (.block 0 [7, 5] (.loop [8, 7, 6, 5, 0] (.seq (.seq (.region [⟨some 18, .mv (.t 8), none⟩, ⟨some 19, .mv (.t 0), none⟩, ⟨some 20, .len (.t 19), none⟩, ⟨some 21, .bin .lss (.t 18) (.t 20), none⟩] [21, 8, 7, 6, 5, 0])
 (.cond (.t 21) (.region [] [8, 7, 6, 5, 0])
 (.exit 0)))
 (.seq (.block 1 [8, 7, 6, 5, 0] (.seq (.region [⟨some 24, .mv (.t 5), none⟩, ⟨some 25, .mv (.t 0), none⟩, ⟨some 26, .mv (.t 8), none⟩, ⟨some 27, .ix 1 (.t 25) (.t 26), none⟩, ⟨some 28, .ld false 1 (.t 27), none⟩, ⟨some 29, .mv (.t 6), none⟩, ⟨some 30, .bin .shl (.t 28) (.t 29), none⟩, ⟨some 31, .mv (.t 7), none⟩, ⟨some 32, .bin .or (.t 30) (.t 31), none⟩, ⟨some 33, .bsl false 1 1 [.int .u64 0] [(0, .t 32)], none⟩, ⟨some 34, .app false 1 8 (.t 24) (.t 33), none⟩, ⟨some 5, .mv (.t 34), none⟩] [8, 6, 5, 0])
 (.seq (.region [⟨some 7, .mv (.c (.int .u64 0)), none⟩] [8, 7, 6, 5, 0])
 (.seq (.region [⟨some 35, .mv (.t 6), none⟩, ⟨some 36, .bin .gtr (.t 35) (.c (.int .u64 0)), none⟩] [36, 8, 7, 6, 5, 0])
 (.cond (.t 36) (.region [⟨some 37, .mv (.t 0), none⟩, ⟨some 38, .mv (.t 8), none⟩, ⟨some 39, .ix 1 (.t 37) (.t 38), none⟩, ⟨some 40, .ld false 1 (.t 39), none⟩, ⟨some 41, .mv (.t 6), none⟩, ⟨some 42, .bin .sub (.c (.int .u64 64)) (.t 41), none⟩, ⟨some 43, .bin .shr (.t 40) (.t 42), none⟩, ⟨some 7, .mv (.t 43), none⟩] [8, 7, 6, 5, 0])
 (.region [] [8, 7, 6, 5, 0]))))))
 (.seq .says S_gaugeref1_Up2_j1))))))
 (.seq (.region [⟨some 44, .mv (.t 5), none⟩, ⟨some 45, .mv (.t 7), none⟩, ⟨some 46, .bsl false 1 1 [.int .u64 0] [(0, .t 45)], none⟩, ⟨some 47, .app false 1 8 (.t 44) (.t 46), none⟩, ⟨some 48, .call 44 [.t 47], none⟩, ⟨some 4, .mv (.t 48), none⟩] [4])
 (.ret)))))))
theorem C_gaugeref1_Up2 : Codes Go.Proofs.Try.prog F_gaugeref1_Up2 S_gaugeref1_Up2 49 [4] := ⟨Go.Proofs.Try.f120, Go.Proofs.Try.f120.body.getD .skip, Go.Proofs.Try.func120, by kernel_rfl, by kernel_rfl, by kernel_rfl, by kernel_rfl, by kernel_rfl⟩
def F_gaugeref1_Down2 : FuncId := 121
def S_gaugeref1_Down2_j1 : SC :=
 .cond (.t 38) (.region [⟨some 39, .mv (.t 8), none⟩, ⟨some 40, .mv (.t 0), none⟩, ⟨some 41, .mv (.t 7), none⟩, ⟨some 42, .bin .add (.t 41) (.c (.int .i64 1)), none⟩, ⟨some 43, .ix 1 (.t 40) (.t 42), none⟩, ⟨some 44, .ld false 1 (.t 43), none⟩, ⟨some 45, .mv (.t 5), none⟩, ⟨some 46, .bin .sub (.c (.int .u64 64)) (.t 45), none⟩, ⟨some 47, .bin .shl (.t 44) (.t 46), none⟩, ⟨some 48, .bin .or (.t 39) (.t 47), none⟩, ⟨some 8, .mv (.t 48), none⟩] [8, 7, 6, 5, 0])
 (.region [] [8, 7, 6, 5, 0])
def S_gaugeref1_Down2_j2 : SC :=
 .region [⟨some 49, .mv (.t 6), none⟩, ⟨some 50, .mv (.t 8), none⟩, ⟨some 51, .bsl false 1 1 [.int .u64 0] [(0, .t 50)], none⟩, ⟨some 52, .app false 1 8 (.t 49) (.t 51), none⟩, ⟨some 6, .mv (.t 52), none⟩] [7, 6, 5, 0]
/-- gauge / gaugeref1.Down2 -/
def S_gaugeref1_Down2 : SC :=
 .seq (.region [⟨some 4, .mv (.c (.slice none 0 0)), none⟩] [1, 0])
 (.seq (.seq (.region [⟨some 9, .mv (.t 1), none⟩, ⟨some 10, .mv (.t 0), none⟩, ⟨some 11, .call 119 [.t 10], none⟩, ⟨some 12, .bin .geq (.t 9) (.t 11), none⟩] [12, 1, 0])
 (.cond (.t 12) (.seq (.region [⟨some 4, .mv (.c (.slice none 0 0)), none⟩] [4])
 (.ret))
 (.region [] [1, 0])))
 (.seq (.region [⟨some 13, .mv (.t 1), none⟩, ⟨some 14, .bin .rem (.t 13) (.c (.int .i64 64)), none⟩, ⟨some 15, .conv .u64 (.t 14), none⟩, ⟨some 5, .mv (.t 15), none⟩] [5, 1, 0])
 (.seq (.region [⟨some 6, .mv (.c (.slice none 0 0)), none⟩] [6, 5, 1, 0])
 (.seq (.seq (.region [⟨some 16, .mv (.t 1), none⟩, ⟨some 17, .bin .quo (.t 16) (.c (.int .i64 64)), none⟩, ⟨some 7, .mv (.t 17), none⟩] [7, 6, 5, 0])
 (.block 0 [6] (.loop [7, 6, 5, 0] (.seq (.seq (.region [⟨some 18, .mv (.t 7), none⟩, ⟨some 19, .mv (.t 0), none⟩, ⟨some 20, .len (.t 19), none⟩, ⟨some 21, .bin .lss (.t 18) (.t 20), none⟩] [21, 7, 6, 5, 0])
 (.cond (.t 21) (.region [] [7, 6, 5, 0])
 (.exit 0)))
 (.seq (.block 1 [7, 6, 5, 0] (.seq (.region [⟨some 24, .mv (.t 0), none⟩, ⟨some 25, .mv (.t 7), none⟩, ⟨some 26, .ix 1 (.t 24) (.t 25), none⟩, ⟨some 27, .ld false 1 (.t 26), none⟩, ⟨some 28, .mv (.t 5), none⟩, ⟨some 29, .bin .shr (.t 27) (.t 28), none⟩, ⟨some 8, .mv (.t 29), none⟩] [8, 7, 6, 5, 0])
 (.seq (.seq (.region [⟨some 30, .mv (.t 5), none⟩, ⟨some 31, .bin .gtr (.t 30) (.c (.int .u64 0)), none⟩, ⟨some 32, .mv (.t 31), none⟩, ⟨some 33, .mv (.t 7), some (32, true)⟩, ⟨some 34, .bin .add (.t 33) (.c (.int .i64 1)), some (32, true)⟩, ⟨some 35, .mv (.t 0), some (32, true)⟩, ⟨some 36, .len (.t 35), some (32, true)⟩, ⟨some 37, .bin .lss (.t 34) (.t 36), some (32, true)⟩, ⟨some 38, .pick (.t 32) (.t 37) (.c (.bool false)), none⟩] [38, 8, 7, 6, 5, 0])
 (.seq .says S_gaugeref1_Down2_j1))
 (.seq .says S_gaugeref1_Down2_j2))))
 (.region [⟨some 22, .mv (.t 7), none⟩, ⟨some 23, .bin .add (.t 22) (.c (.int .i64 1)), none⟩, ⟨some 7, .mv (.t 23), none⟩] [7, 6, 5, 0]))))))
 (.seq (.region [⟨some 53, .mv (.t 6), none⟩, ⟨some 54, .call 44 [.t 53], none⟩, ⟨some 4, .mv (.t 54), none⟩] [4])
 (.ret))))))
theorem C_gaugeref1_Down2 : Codes Go.Proofs.Try.prog F_gaugeref1_Down2 S_gaugeref1_Down2 55 [4] := ⟨Go.Proofs.Try.f121, Go.Proofs.Try.f121.body.getD .skip, Go.Proofs.Try.func121, by kernel_rfl, by kernel_rfl, by kernel_rfl, by kernel_rfl, by kernel_rfl⟩
def F_nat_divWord : FuncId := 122
/-- gauge / nat.divWord -/
def S_nat_divWord : SC :=
 .seq (.region [⟨some 4, .mv (.c (.slice none 0 0)), none⟩, ⟨some 5, .mv (.c (.int .u64 0)), none⟩] [1, 0])
 (.seq (.region [⟨some 9, .mv (.t 0), none⟩, ⟨some 10, .len (.t 9), none⟩, ⟨some 11, .mks 1 8 [.int .u64 0] (.t 10) (.t 10), none⟩, ⟨some 6, .mv (.t 11), none⟩] [6, 1, 0])
 (.seq (.region [⟨some 7, .mv (.c (.int .u64 0)), none⟩] [7, 6, 1, 0])
 (.seq (.seq (.region [⟨some 12, .mv (.t 0), none⟩, ⟨some 13, .len (.t 12), none⟩, ⟨some 14, .bin .sub (.t 13) (.c (.int .i64 1)), none⟩, ⟨some 8, .mv (.t 14), none⟩] [8, 7, 6, 1, 0])
 (.block 0 [7, 6] (.loop [8, 7, 6, 1, 0] (.seq (.seq (.region [⟨some 15, .mv (.t 8), none⟩, ⟨some 16, .bin .geq (.t 15) (.c (.int .i64 0)), none⟩] [16, 8, 7, 6, 1, 0])
 (.cond (.t 16) (.region [] [8, 7, 6, 1, 0])
 (.exit 0)))
 (.seq (.block 1 [8, 7, 6, 1, 0] (.region [⟨some 20, .mv (.t 6), none⟩, ⟨some 21, .mv (.t 8), none⟩, ⟨some 22, .mv (.t 7), none⟩, ⟨some 23, .mv (.t 0), none⟩, ⟨some 24, .mv (.t 8), none⟩, ⟨some 25, .ix 1 (.t 23) (.t 24), none⟩, ⟨some 26, .ld false 1 (.t 25), none⟩, ⟨some 27, .mv (.t 1), none⟩, ⟨some 28, .call 131 [.t 22, .t 26, .t 27], none⟩, ⟨some 19, .mv (.t 28), none⟩, ⟨some 29, .ext (.t 19) 0, none⟩, ⟨some 30, .ext (.t 19) 1, none⟩, ⟨some 31, .ix 1 (.t 20) (.t 21), none⟩, ⟨none, .st 1 (.t 31) (.t 29), none⟩, ⟨some 7, .mv (.t 30), none⟩] [8, 7, 6, 1, 0]))
 (.region [⟨some 17, .mv (.t 8), none⟩, ⟨some 18, .bin .sub (.t 17) (.c (.int .i64 1)), none⟩, ⟨some 8, .mv (.t 18), none⟩] [8, 7, 6, 1, 0]))))))
 (.seq (.region [⟨some 32, .mv (.t 6), none⟩, ⟨some 33, .call 127 [.t 32], none⟩, ⟨some 34, .mv (.t 7), none⟩, ⟨some 4, .mv (.t 33), none⟩, ⟨some 5, .mv (.t 34), none⟩] [5, 4])
 (.ret)))))
theorem C_nat_divWord : Codes Go.Proofs.Try.prog F_nat_divWord S_nat_divWord 35 [4, 5] := ⟨Go.Proofs.Try.f122, Go.Proofs.Try.f122.body.getD .skip, Go.Proofs.Try.func122, by kernel_rfl, by kernel_rfl, by kernel_rfl, by kernel_rfl, by kernel_rfl⟩
def F_slices_Reverse : FuncId := 123
/-- slices.Reverse[[]byte,byte] -/
def S_slices_Reverse : SC :=
 .seq (.region [⟨some 4, .mv (.t 0), none⟩, ⟨some 5, .len (.t 4), none⟩, ⟨some 6, .bin .sub (.t 5) (.c (.int .i64 1)), none⟩, ⟨some 2, .mv (.c (.int .i64 0)), none⟩, ⟨some 3, .mv (.t 6), none⟩] [3, 2, 0])
 (.block 0 [] (.loop [3, 2, 0] (.seq (.seq (.region [⟨some 7, .mv (.t 2), none⟩, ⟨some 8, .mv (.t 3), none⟩, ⟨some 9, .bin .lss (.t 7) (.t 8), none⟩] [9, 3, 2, 0])
 (.cond (.t 9) (.region [] [3, 2, 0])
 (.exit 0)))
 (.seq (.block 1 [3, 2, 0] (.drawn [0, 1, 2, 3, 4, 5, 6, 7, 8, 9, 10, 11, 12, 13, 14, 15] [⟨some 14, .mv (.t 0), none⟩, ⟨some 15, .mv (.t 2), none⟩, ⟨some 16, .mv (.t 0), none⟩, ⟨some 17, .mv (.t 3), none⟩, ⟨some 18, .mv (.t 0), none⟩, ⟨some 19, .mv (.t 3), none⟩, ⟨some 20, .ix 1 (.t 18) (.t 19), none⟩, ⟨some 21, .ld false 1 (.t 20), none⟩, ⟨some 22, .mv (.t 0), none⟩, ⟨some 23, .mv (.t 2), none⟩, ⟨some 24, .ix 1 (.t 22) (.t 23), none⟩, ⟨some 25, .ld false 1 (.t 24), none⟩, ⟨some 26, .ix 1 (.t 14) (.t 15), none⟩, ⟨none, .st 1 (.t 26) (.t 21), none⟩, ⟨some 27, .ix 1 (.t 16) (.t 17), none⟩, ⟨none, .st 1 (.t 27) (.t 25), none⟩] [3, 2, 0]))
 (.region [⟨some 10, .mv (.t 2), none⟩, ⟨some 11, .bin .add (.t 10) (.c (.int .i64 1)), none⟩, ⟨some 12, .mv (.t 3), none⟩, ⟨some 13, .bin .sub (.t 12) (.c (.int .i64 1)), none⟩, ⟨some 2, .mv (.t 11), none⟩, ⟨some 3, .mv (.t 13), none⟩] [3, 2, 0])))))
theorem C_slices_Reverse : Codes Go.Proofs.Try.prog F_slices_Reverse S_slices_Reverse 28 [] := ⟨Go.Proofs.Try.f123, Go.Proofs.Try.f123.body.getD .skip, Go.Proofs.Try.func123, by kernel_rfl, by kernel_rfl, by kernel_rfl, by kernel_rfl, by kernel_rfl⟩
def F_math_bits_LeadingZeros64 : FuncId := 124
/-- math / bits.LeadingZeros64 -/
def S_math_bits_LeadingZeros64 : SC :=
 .seq (.region [⟨some 2, .mv (.c (.int .i64 0)), none⟩] [0])
 (.seq (.region [⟨some 3, .mv (.t 0), none⟩, ⟨some 4, .call 132 [.t 3], none⟩, ⟨some 5, .bin .sub (.c (.int .i64 64)) (.t 4), none⟩, ⟨some 2, .mv (.t 5), none⟩] [2])
 (.ret))
theorem C_math_bits_LeadingZeros64 : Codes Go.Proofs.Try.prog F_math_bits_LeadingZeros64 S_math_bits_LeadingZeros64 6 [2] := ⟨Go.Proofs.Try.f124, Go.Proofs.Try.f124.body.getD .skip, Go.Proofs.Try.func124, by kernel_rfl, by kernel_rfl, by kernel_rfl, by kernel_rfl, by kernel_rfl⟩
def F_nat_left : FuncId := 125
/-- gauge / nat.left -/
def S_nat_left : SC :=
 .seq (.region [⟨some 4, .mv (.c (.slice none 0 0)), none⟩] [1, 0])
 (.seq (.seq (.region [⟨some 8, .mv (.t 0), none⟩, ⟨some 9, .len (.t 8), none⟩, ⟨some 10, .bin .eql (.t 9) (.c (.int .i64 0)), none⟩] [10, 1, 0])
 (.cond (.t 10) (.seq (.region [⟨some 4, .mv (.c (.slice none 0 0)), none⟩] [4])
 (.ret))
 (.region [] [1, 0])))
 (.seq (.region [⟨some 11, .mv (.t 0), none⟩, ⟨some 12, .len (.t 11), none⟩, ⟨some 13, .mv (.t 1), none⟩, ⟨some 14, .bin .quo (.t 13) (.c (.int .i64 64)), none⟩, ⟨some 15, .bin .add (.t 12) (.t 14), none⟩, ⟨some 16, .bin .add (.t 15) (.c (.int .i64 1)), none⟩, ⟨some 17, .mks 1 8 [.int .u64 0] (.t 16) (.t 16), none⟩, ⟨some 5, .mv (.t 17), none⟩] [5, 1, 0])
 (.seq (.seq (.region [⟨some 18, .mv (.t 0), none⟩, ⟨some 19, .len (.t 18), none⟩, ⟨some 20, .mv (.c (.int .i64 0)), none⟩] [20, 19, 18, 5, 1])
 (.block 0 [5] (.loop [20, 19, 18, 5, 1] (.seq (.region [⟨some 21, .bin .lss (.t 20) (.t 19), none⟩] [21, 20, 19, 18, 5, 1])
 (.seq (.cond (.t 21) (.region [] [20, 19, 18, 5, 1])
 (.exit 0))
 (.seq (.block 1 [20, 19, 18, 5, 1] (.seq (.region [⟨some 22, .mv (.t 20), none⟩, ⟨some 23, .ix 1 (.t 18) (.t 20), none⟩, ⟨some 24, .ld false 1 (.t 23), none⟩, ⟨some 6, .mv (.t 22), none⟩, ⟨some 7, .mv (.t 24), none⟩] [20, 19, 18, 7, 6, 5, 1])
 (.seq (.drawn [0, 1, 2, 3, 4, 5, 6, 7, 8, 9, 10, 11, 12, 13] [⟨some 25, .mv (.t 5), none⟩, ⟨some 26, .mv (.t 6), none⟩, ⟨some 27, .mv (.t 1), none⟩, ⟨some 28, .bin .quo (.t 27) (.c (.int .i64 64)), none⟩, ⟨some 29, .bin .add (.t 26) (.t 28), none⟩, ⟨some 30, .ix 1 (.t 25) (.t 29), none⟩, ⟨some 31, .ld false 1 (.t 30), none⟩, ⟨some 32, .mv (.t 7), none⟩, ⟨some 33, .mv (.t 1), none⟩, ⟨some 34, .bin .rem (.t 33) (.c (.int .i64 64)), none⟩, ⟨some 35, .bin .shl (.t 32) (.t 34), none⟩, ⟨some 36, .bin .or (.t 31) (.t 35), none⟩, ⟨some 37, .ix 1 (.t 25) (.t 29), none⟩, ⟨none, .st 1 (.t 37) (.t 36), none⟩] [20, 19, 18, 7, 6, 5, 1])
 (.region [⟨some 38, .mv (.t 5), none⟩, ⟨some 39, .mv (.t 6), none⟩, ⟨some 40, .mv (.t 1), none⟩, ⟨some 41, .bin .quo (.t 40) (.c (.int .i64 64)), none⟩, ⟨some 42, .bin .add (.t 39) (.t 41), none⟩, ⟨some 43, .bin .add (.t 42) (.c (.int .i64 1)), none⟩, ⟨some 44, .mv (.t 7), none⟩, ⟨some 45, .mv (.t 1), none⟩, ⟨some 46, .bin .rem (.t 45) (.c (.int .i64 64)), none⟩, ⟨some 47, .bin .sub (.c (.int .i64 64)) (.t 46), none⟩, ⟨some 48, .bin .shr (.t 44) (.t 47), none⟩, ⟨some 49, .ix 1 (.t 38) (.t 43), none⟩, ⟨none, .st 1 (.t 49) (.t 48), none⟩] [20, 19, 18, 5, 1]))))
 (.region [⟨some 50, .bin .add (.t 20) (.c (.int .i64 1)), none⟩, ⟨some 20, .mv (.t 50), none⟩] [20, 19, 18, 5, 1])))))))
 (.seq (.region [⟨some 51, .mv (.t 5), none⟩, ⟨some 52, .call 127 [.t 51], none⟩, ⟨some 4, .mv (.t 52), none⟩] [4])
 (.ret)))))
theorem C_nat_left : Codes Go.Proofs.Try.prog F_nat_left S_nat_left 53 [4] := ⟨Go.Proofs.Try.f125, Go.Proofs.Try.f125.body.getD .skip, Go.Proofs.Try.func125, by kernel_rfl, by kernel_rfl, by kernel_rfl, by kernel_rfl, by kernel_rfl⟩
def F_nat_step : FuncId := 126
def S_nat_step_j1 : SC :=
 .seq (.region [⟨some 7, .mv (.c (.int .u64 0)), none⟩, ⟨some 8, .mv (.c (.int .u64 0)), none⟩] [8, 7, 6, 5, 1, 0])
 (.seq (.seq (.region [⟨some 45, .mv (.t 5), none⟩, ⟨some 46, .mv (.c (.int .i64 0)), none⟩] [46, 45, 8, 7, 6, 5, 1, 0])
 (.block 0 [8, 7, 6, 5, 1, 0] (.loop [46, 45, 8, 7, 6, 5, 1, 0] (.seq (.region [⟨some 47, .bin .lss (.t 46) (.t 45), none⟩] [47, 46, 45, 8, 7, 6, 5, 1, 0])
 (.seq (.cond (.t 47) (.region [] [46, 45, 8, 7, 6, 5, 1, 0])
 (.exit 0))
 (.seq (.block 1 [46, 45, 8, 7, 6, 5, 1, 0] (.seq (.region [⟨some 48, .mv (.t 46), none⟩, ⟨some 9, .mv (.t 48), none⟩] [46, 45, 9, 8, 7, 6, 5, 1, 0])
 (.seq (.region [⟨some 50, .mv (.t 6), none⟩, ⟨some 51, .mv (.t 1), none⟩, ⟨some 52, .mv (.t 9), none⟩, ⟨some 53, .ix 1 (.t 51) (.t 52), none⟩, ⟨some 54, .ld false 1 (.t 53), none⟩, ⟨some 55, .call 129 [.t 50, .t 54], none⟩, ⟨some 49, .mv (.t 55), none⟩, ⟨some 56, .ext (.t 49) 0, none⟩, ⟨some 57, .ext (.t 49) 1, none⟩, ⟨some 10, .mv (.t 56), none⟩, ⟨some 11, .mv (.t 57), none⟩] [46, 45, 11, 10, 9, 8, 7, 6, 5, 1, 0])
 (.seq (.region [⟨some 59, .mv (.t 11), none⟩, ⟨some 60, .mv (.t 8), none⟩, ⟨some 61, .call 130 [.t 59, .t 60, .c (.int .u64 0)], none⟩, ⟨some 58, .mv (.t 61), none⟩, ⟨some 62, .ext (.t 58) 0, none⟩, ⟨some 63, .ext (.t 58) 1, none⟩, ⟨some 11, .mv (.t 62), none⟩, ⟨some 12, .mv (.t 63), none⟩] [46, 45, 12, 11, 10, 9, 7, 6, 5, 1, 0])
 (.seq (.region [⟨some 64, .mv (.t 10), none⟩, ⟨some 65, .mv (.t 12), none⟩, ⟨some 66, .bin .add (.t 64) (.t 65), none⟩, ⟨some 8, .mv (.t 66), none⟩] [46, 45, 11, 9, 8, 7, 6, 5, 1, 0])
 (.region [⟨some 68, .mv (.t 0), none⟩, ⟨some 69, .mv (.t 9), none⟩, ⟨some 70, .mv (.t 0), none⟩, ⟨some 71, .mv (.t 9), none⟩, ⟨some 72, .ix 1 (.t 70) (.t 71), none⟩, ⟨some 73, .ld false 1 (.t 72), none⟩, ⟨some 74, .mv (.t 11), none⟩, ⟨some 75, .mv (.t 7), none⟩, ⟨some 76, .call 133 [.t 73, .t 74, .t 75], none⟩, ⟨some 67, .mv (.t 76), none⟩, ⟨some 77, .ext (.t 67) 0, none⟩, ⟨some 78, .ext (.t 67) 1, none⟩, ⟨some 79, .ix 1 (.t 68) (.t 69), none⟩, ⟨none, .st 1 (.t 79) (.t 77), none⟩, ⟨some 7, .mv (.t 78), none⟩] [46, 45, 8, 7, 6, 5, 1, 0]))))))
 (.region [⟨some 80, .bin .add (.t 46) (.c (.int .i64 1)), none⟩, ⟨some 46, .mv (.t 80), none⟩] [46, 45, 8, 7, 6, 5, 1, 0])))))))
 (.seq (.region [⟨some 82, .mv (.t 0), none⟩, ⟨some 83, .mv (.t 5), none⟩, ⟨some 84, .mv (.t 0), none⟩, ⟨some 85, .mv (.t 5), none⟩, ⟨some 86, .ix 1 (.t 84) (.t 85), none⟩, ⟨some 87, .ld false 1 (.t 86), none⟩, ⟨some 88, .mv (.t 8), none⟩, ⟨some 89, .mv (.t 7), none⟩, ⟨some 90, .call 133 [.t 87, .t 88, .t 89], none⟩, ⟨some 81, .mv (.t 90), none⟩, ⟨some 91, .ext (.t 81) 0, none⟩, ⟨some 92, .ext (.t 81) 1, none⟩, ⟨some 93, .ix 1 (.t 82) (.t 83), none⟩, ⟨none, .st 1 (.t 93) (.t 91), none⟩, ⟨some 7, .mv (.t 92), none⟩] [7, 6, 5, 1, 0])
 (.seq (.block 2 [6] (.loop [7, 6, 5, 1, 0] (.seq (.seq (.region [⟨some 94, .mv (.t 7), none⟩, ⟨some 95, .bin .neq (.t 94) (.c (.int .u64 0)), none⟩] [95, 7, 6, 5, 1, 0])
 (.cond (.t 95) (.region [] [7, 6, 5, 1, 0])
 (.exit 2)))
 (.block 3 [7, 6, 5, 1, 0] (.seq (.region [⟨some 96, .mv (.t 6), none⟩, ⟨some 97, .bin .sub (.t 96) (.c (.int .u64 1)), none⟩, ⟨some 6, .mv (.t 97), none⟩] [7, 6, 5, 1, 0])
 (.seq (.region [⟨some 13, .mv (.c (.int .u64 0)), none⟩] [13, 7, 6, 5, 1, 0])
 (.seq (.seq (.region [⟨some 98, .mv (.t 5), none⟩, ⟨some 99, .mv (.c (.int .i64 0)), none⟩] [99, 98, 13, 7, 6, 5, 1, 0])
 (.block 4 [13, 7, 6, 5, 1, 0] (.loop [99, 98, 13, 7, 6, 5, 1, 0] (.seq (.region [⟨some 100, .bin .lss (.t 99) (.t 98), none⟩] [100, 99, 98, 13, 7, 6, 5, 1, 0])
 (.seq (.cond (.t 100) (.region [] [99, 98, 13, 7, 6, 5, 1, 0])
 (.exit 4))
 (.seq (.block 5 [99, 98, 13, 7, 6, 5, 1, 0] (.seq (.region [⟨some 101, .mv (.t 99), none⟩, ⟨some 14, .mv (.t 101), none⟩] [99, 98, 14, 13, 7, 6, 5, 1, 0])
 (.seq .says (.drawn [0, 1, 2, 3, 4, 5, 6, 7, 8, 9, 10, 11, 12, 13, 14, 15, 16, 17] [⟨some 103, .mv (.t 0), none⟩, ⟨some 104, .mv (.t 14), none⟩, ⟨some 105, .mv (.t 0), none⟩, ⟨some 106, .mv (.t 14), none⟩, ⟨some 107, .ix 1 (.t 105) (.t 106), none⟩, ⟨some 108, .ld false 1 (.t 107), none⟩, ⟨some 109, .mv (.t 1), none⟩, ⟨some 110, .mv (.t 14), none⟩, ⟨some 111, .ix 1 (.t 109) (.t 110), none⟩, ⟨some 112, .ld false 1 (.t 111), none⟩, ⟨some 113, .mv (.t 13), none⟩, ⟨some 114, .callq 130 [.t 108, .t 112, .t 113], none⟩, ⟨some 102, .mv (.t 114), none⟩, ⟨some 115, .ext (.t 102) 0, none⟩, ⟨some 116, .ext (.t 102) 1, none⟩, ⟨some 117, .ix 1 (.t 103) (.t 104), none⟩, ⟨none, .st 1 (.t 117) (.t 115), none⟩, ⟨some 13, .mv (.t 116), none⟩] [99, 98, 13, 7, 6, 5, 1, 0]))))
 (.region [⟨some 118, .bin .add (.t 99) (.c (.int .i64 1)), none⟩, ⟨some 99, .mv (.t 118), none⟩] [99, 98, 13, 7, 6, 5, 1, 0])))))))
 (.seq (.region [⟨some 120, .mv (.t 0), none⟩, ⟨some 121, .mv (.t 5), none⟩, ⟨some 122, .mv (.t 0), none⟩, ⟨some 123, .mv (.t 5), none⟩, ⟨some 124, .ix 1 (.t 122) (.t 123), none⟩, ⟨some 125, .ld false 1 (.t 124), none⟩, ⟨some 126, .mv (.t 13), none⟩, ⟨some 127, .call 130 [.t 125, .c (.int .u64 0), .t 126], none⟩, ⟨some 119, .mv (.t 127), none⟩, ⟨some 128, .ext (.t 119) 0, none⟩, ⟨some 129, .ext (.t 119) 1, none⟩, ⟨some 130, .ix 1 (.t 120) (.t 121), none⟩, ⟨none, .st 1 (.t 130) (.t 128), none⟩, ⟨some 13, .mv (.t 129), none⟩] [13, 7, 6, 5, 1, 0])
 (.region [⟨some 131, .mv (.t 7), none⟩, ⟨some 132, .mv (.t 13), none⟩, ⟨some 133, .bin .sub (.t 131) (.t 132), none⟩, ⟨some 7, .mv (.t 133), none⟩] [7, 6, 5, 1, 0])))))))))
 (.seq (.region [⟨some 134, .mv (.t 6), none⟩, ⟨some 4, .mv (.t 134), none⟩] [4])
 (.ret)))))
/-- gauge / nat.step -/
def S_nat_step : SC :=
 .seq (.region [⟨some 4, .mv (.c (.int .u64 0)), none⟩] [1, 0])
 (.seq (.region [⟨some 15, .mv (.t 1), none⟩, ⟨some 16, .len (.t 15), none⟩, ⟨some 5, .mv (.t 16), none⟩] [5, 1, 0])
 (.seq (.region [⟨some 6, .mv (.c (.int .u64 18446744073709551615)), none⟩] [6, 5, 1, 0])
 (.seq (.seq (.drawn [0, 1, 2, 3, 4, 5, 6, 7, 8, 9] [⟨some 17, .mv (.t 0), none⟩, ⟨some 18, .mv (.t 5), none⟩, ⟨some 19, .ix 1 (.t 17) (.t 18), none⟩, ⟨some 20, .ld false 1 (.t 19), none⟩, ⟨some 21, .mv (.t 1), none⟩, ⟨some 22, .mv (.t 5), none⟩, ⟨some 23, .bin .sub (.t 22) (.c (.int .i64 1)), none⟩, ⟨some 24, .ix 1 (.t 21) (.t 23), none⟩, ⟨some 25, .ld false 1 (.t 24), none⟩, ⟨some 26, .bin .lss (.t 20) (.t 25), none⟩] [26, 6, 5, 1, 0])
 (.cond (.t 26) (.seq .says (.drawn [0, 1, 2, 3, 4, 5, 6, 7, 8, 9, 10, 11, 12, 13, 14, 15, 16, 17, 18] [⟨some 28, .mv (.t 0), none⟩, ⟨some 29, .mv (.t 5), none⟩, ⟨some 30, .ix 1 (.t 28) (.t 29), none⟩, ⟨some 31, .ld false 1 (.t 30), none⟩, ⟨some 32, .mv (.t 0), none⟩, ⟨some 33, .mv (.t 5), none⟩, ⟨some 34, .bin .sub (.t 33) (.c (.int .i64 1)), none⟩, ⟨some 35, .ix 1 (.t 32) (.t 34), none⟩, ⟨some 36, .ld false 1 (.t 35), none⟩, ⟨some 37, .mv (.t 1), none⟩, ⟨some 38, .mv (.t 5), none⟩, ⟨some 39, .bin .sub (.t 38) (.c (.int .i64 1)), none⟩, ⟨some 40, .ix 1 (.t 37) (.t 39), none⟩, ⟨some 41, .ld false 1 (.t 40), none⟩, ⟨some 42, .callq 131 [.t 31, .t 36, .t 41], none⟩, ⟨some 27, .mv (.t 42), none⟩, ⟨some 43, .ext (.t 27) 0, none⟩, ⟨some 44, .ext (.t 27) 1, none⟩, ⟨some 6, .mv (.t 43), none⟩] [6, 5, 1, 0]))
 (.region [] [6, 5, 1, 0])))
 (.seq .says S_nat_step_j1))))
theorem C_nat_step : Codes Go.Proofs.Try.prog F_nat_step S_nat_step 135 [4] := ⟨Go.Proofs.Try.f126, Go.Proofs.Try.f126.body.getD .skip, Go.Proofs.Try.func126, by kernel_rfl, by kernel_rfl, by kernel_rfl, by kernel_rfl, by kernel_rfl⟩
def F_nat_trim : FuncId := 127
/-- gauge / nat.trim -/
def S_nat_trim : SC :=
 .seq (.region [⟨some 2, .mv (.c (.slice none 0 0)), none⟩] [0])
 (.seq (.region [⟨some 4, .mv (.t 0), none⟩, ⟨some 5, .len (.t 4), none⟩, ⟨some 3, .mv (.t 5), none⟩] [3, 0])
 (.seq (.block 0 [3, 0] (.loop [3, 0] (.seq (.seq (.region [⟨some 6, .mv (.t 3), none⟩, ⟨some 7, .bin .gtr (.t 6) (.c (.int .i64 0)), none⟩, ⟨some 8, .mv (.t 7), none⟩, ⟨some 9, .mv (.t 0), some (8, true)⟩, ⟨some 10, .mv (.t 3), some (8, true)⟩, ⟨some 11, .bin .sub (.t 10) (.c (.int .i64 1)), some (8, true)⟩, ⟨some 12, .ix 1 (.t 9) (.t 11), some (8, true)⟩, ⟨some 13, .ld false 1 (.t 12), some (8, true)⟩, ⟨some 14, .bin .eql (.t 13) (.c (.int .u64 0)), some (8, true)⟩, ⟨some 15, .pick (.t 8) (.t 14) (.c (.bool false)), none⟩] [15, 3, 0])
 (.cond (.t 15) (.region [] [3, 0])
 (.exit 0)))
 (.block 1 [3, 0] (.region [⟨some 16, .mv (.t 3), none⟩, ⟨some 17, .bin .sub (.t 16) (.c (.int .i64 1)), none⟩, ⟨some 3, .mv (.t 17), none⟩] [3, 0])))))
 (.seq (.region [⟨some 18, .mv (.t 0), none⟩, ⟨some 19, .mv (.t 3), none⟩, ⟨some 20, .mv (.t 3), none⟩, ⟨some 21, .sl 1 (.t 18) none (some (.t 19)) (some (.t 20)), none⟩, ⟨some 2, .mv (.t 21), none⟩] [2])
 (.ret))))
theorem C_nat_trim : Codes Go.Proofs.Try.prog F_nat_trim S_nat_trim 22 [2] := ⟨Go.Proofs.Try.f127, Go.Proofs.Try.f127.body.getD .skip, Go.Proofs.Try.func127, by kernel_rfl, by kernel_rfl, by kernel_rfl, by kernel_rfl, by kernel_rfl⟩
def F_nat_right : FuncId := 128
def S_nat_right_j1 : SC :=
 .region [⟨some 50, .bin .add (.t 19) (.c (.int .i64 1)), none⟩, ⟨some 19, .mv (.t 50), none⟩] [19, 18, 5, 1]
/-- gauge / nat.right -/
def S_nat_right : SC :=
 .seq (.region [⟨some 4, .mv (.c (.slice none 0 0)), none⟩] [1, 0])
 (.seq (.seq (.region [⟨some 7, .mv (.t 1), none⟩, ⟨some 8, .bin .quo (.t 7) (.c (.int .i64 64)), none⟩, ⟨some 9, .mv (.t 0), none⟩, ⟨some 10, .len (.t 9), none⟩, ⟨some 11, .bin .geq (.t 8) (.t 10), none⟩] [11, 1, 0])
 (.cond (.t 11) (.seq (.region [⟨some 4, .mv (.c (.slice none 0 0)), none⟩] [4])
 (.ret))
 (.region [] [1, 0])))
 (.seq (.region [⟨some 12, .mv (.t 0), none⟩, ⟨some 13, .mv (.t 1), none⟩, ⟨some 14, .bin .quo (.t 13) (.c (.int .i64 64)), none⟩, ⟨some 15, .sl 1 (.t 12) (some (.t 14)) none none, none⟩, ⟨some 16, .call 100 [.t 15], none⟩, ⟨some 5, .mv (.t 16), none⟩] [5, 1])
 (.seq (.seq (.region [⟨some 17, .mv (.t 5), none⟩, ⟨some 18, .len (.t 17), none⟩, ⟨some 19, .mv (.c (.int .i64 0)), none⟩] [19, 18, 5, 1])
 (.block 0 [5] (.loop [19, 18, 5, 1] (.seq (.region [⟨some 20, .bin .lss (.t 19) (.t 18), none⟩] [20, 19, 18, 5, 1])
 (.seq (.cond (.t 20) (.region [] [19, 18, 5, 1])
 (.exit 0))
 (.seq (.block 1 [19, 18, 5, 1] (.seq (.region [⟨some 21, .mv (.t 19), none⟩, ⟨some 6, .mv (.t 21), none⟩] [19, 18, 6, 5, 1])
 (.seq (.region [⟨some 22, .mv (.t 5), none⟩, ⟨some 23, .mv (.t 6), none⟩, ⟨some 24, .ix 1 (.t 22) (.t 23), none⟩, ⟨some 25, .ld false 1 (.t 24), none⟩, ⟨some 26, .mv (.t 1), none⟩, ⟨some 27, .bin .rem (.t 26) (.c (.int .i64 64)), none⟩, ⟨some 28, .bin .shr (.t 25) (.t 27), none⟩, ⟨some 29, .ix 1 (.t 22) (.t 23), none⟩, ⟨none, .st 1 (.t 29) (.t 28), none⟩] [19, 18, 6, 5, 1])
 (.seq (.region [⟨some 30, .mv (.t 6), none⟩, ⟨some 31, .bin .add (.t 30) (.c (.int .i64 1)), none⟩, ⟨some 32, .mv (.t 5), none⟩, ⟨some 33, .len (.t 32), none⟩, ⟨some 34, .bin .lss (.t 31) (.t 33), none⟩] [34, 19, 18, 6, 5, 1])
 (.cond (.t 34) (.drawn [0, 1, 2, 3, 4, 5, 6, 7, 8, 9, 10, 11, 12, 13, 14, 15] [⟨some 35, .mv (.t 5), none⟩, ⟨some 36, .mv (.t 6), none⟩, ⟨some 37, .ix 1 (.t 35) (.t 36), none⟩, ⟨some 38, .ld false 1 (.t 37), none⟩, ⟨some 39, .mv (.t 5), none⟩, ⟨some 40, .mv (.t 6), none⟩, ⟨some 41, .bin .add (.t 40) (.c (.int .i64 1)), none⟩, ⟨some 42, .ix 1 (.t 39) (.t 41), none⟩, ⟨some 43, .ld false 1 (.t 42), none⟩, ⟨some 44, .mv (.t 1), none⟩, ⟨some 45, .bin .rem (.t 44) (.c (.int .i64 64)), none⟩, ⟨some 46, .bin .sub (.c (.int .i64 64)) (.t 45), none⟩, ⟨some 47, .bin .shl (.t 43) (.t 46), none⟩, ⟨some 48, .bin .or (.t 38) (.t 47), none⟩, ⟨some 49, .ix 1 (.t 35) (.t 36), none⟩, ⟨none, .st 1 (.t 49) (.t 48), none⟩] [19, 18, 5, 1])
 (.region [] [19, 18, 5, 1]))))))
 (.seq .says S_nat_right_j1)))))))
 (.seq (.region [⟨some 51, .mv (.t 5), none⟩, ⟨some 52, .call 127 [.t 51], none⟩, ⟨some 4, .mv (.t 52), none⟩] [4])
 (.ret)))))
theorem C_nat_right : Codes Go.Proofs.Try.prog F_nat_right S_nat_right 53 [4] := ⟨Go.Proofs.Try.f128, Go.Proofs.Try.f128.body.getD .skip, Go.Proofs.Try.func128, by kernel_rfl, by kernel_rfl, by kernel_rfl, by kernel_rfl, by kernel_rfl⟩
def F_math_bits_Mul64 : FuncId := 129
/-- math / bits.Mul64 -/
def S_math_bits_Mul64 : SC :=
 .seq (.region [⟨some 4, .mv (.c (.int .u64 0)), none⟩, ⟨some 5, .mv (.c (.int .u64 0)), none⟩] [1, 0])
 (.seq (.region [⟨some 14, .mv (.t 0), none⟩, ⟨some 15, .bin .and (.t 14) (.c (.int .u64 4294967295)), none⟩, ⟨some 6, .mv (.t 15), none⟩] [6, 1, 0])
 (.seq (.region [⟨some 16, .mv (.t 0), none⟩, ⟨some 17, .bin .shr (.t 16) (.c (.int .u64 32)), none⟩, ⟨some 7, .mv (.t 17), none⟩] [7, 6, 1, 0])
 (.seq (.region [⟨some 18, .mv (.t 1), none⟩, ⟨some 19, .bin .and (.t 18) (.c (.int .u64 4294967295)), none⟩, ⟨some 8, .mv (.t 19), none⟩] [8, 7, 6, 1, 0])
 (.seq (.region [⟨some 20, .mv (.t 1), none⟩, ⟨some 21, .bin .shr (.t 20) (.c (.int .u64 32)), none⟩, ⟨some 9, .mv (.t 21), none⟩] [9, 8, 7, 6, 1, 0])
 (.seq (.region [⟨some 22, .mv (.t 6), none⟩, ⟨some 23, .mv (.t 8), none⟩, ⟨some 24, .bin .mul (.t 22) (.t 23), none⟩, ⟨some 10, .mv (.t 24), none⟩] [10, 9, 8, 7, 6, 1, 0])
 (.seq (.region [⟨some 25, .mv (.t 7), none⟩, ⟨some 26, .mv (.t 8), none⟩, ⟨some 27, .bin .mul (.t 25) (.t 26), none⟩, ⟨some 28, .mv (.t 10), none⟩, ⟨some 29, .bin .shr (.t 28) (.c (.int .u64 32)), none⟩, ⟨some 30, .bin .add (.t 27) (.t 29), none⟩, ⟨some 11, .mv (.t 30), none⟩] [11, 9, 7, 6, 1, 0])
 (.seq (.region [⟨some 31, .mv (.t 11), none⟩, ⟨some 32, .bin .and (.t 31) (.c (.int .u64 4294967295)), none⟩, ⟨some 12, .mv (.t 32), none⟩] [12, 11, 9, 7, 6, 1, 0])
 (.seq (.region [⟨some 33, .mv (.t 11), none⟩, ⟨some 34, .bin .shr (.t 33) (.c (.int .u64 32)), none⟩, ⟨some 13, .mv (.t 34), none⟩] [13, 12, 9, 7, 6, 1, 0])
 (.seq (.region [⟨some 35, .mv (.t 12), none⟩, ⟨some 36, .mv (.t 6), none⟩, ⟨some 37, .mv (.t 9), none⟩, ⟨some 38, .bin .mul (.t 36) (.t 37), none⟩, ⟨some 39, .bin .add (.t 35) (.t 38), none⟩, ⟨some 12, .mv (.t 39), none⟩] [13, 12, 9, 7, 1, 0])
 (.seq (.region [⟨some 40, .mv (.t 7), none⟩, ⟨some 41, .mv (.t 9), none⟩, ⟨some 42, .bin .mul (.t 40) (.t 41), none⟩, ⟨some 43, .mv (.t 13), none⟩, ⟨some 44, .bin .add (.t 42) (.t 43), none⟩, ⟨some 45, .mv (.t 12), none⟩, ⟨some 46, .bin .shr (.t 45) (.c (.int .u64 32)), none⟩, ⟨some 47, .bin .add (.t 44) (.t 46), none⟩, ⟨some 4, .mv (.t 47), none⟩] [4, 1, 0])
 (.seq (.region [⟨some 48, .mv (.t 0), none⟩, ⟨some 49, .mv (.t 1), none⟩, ⟨some 50, .bin .mul (.t 48) (.t 49), none⟩, ⟨some 5, .mv (.t 50), none⟩] [5, 4])
 (.ret))))))))))))
theorem C_math_bits_Mul64 : Codes Go.Proofs.Try.prog F_math_bits_Mul64 S_math_bits_Mul64 51 [4, 5] := ⟨Go.Proofs.Try.f129, Go.Proofs.Try.f129.body.getD .skip, Go.Proofs.Try.func129, by kernel_rfl, by kernel_rfl, by kernel_rfl, by kernel_rfl, by kernel_rfl⟩
def F_math_bits_Add64 : FuncId := 130
def F_math_bits_Div64 : FuncId := 131
def S_math_bits_Div64_j2 : SC :=
 .seq (.region [⟨some 121, .mv (.t 15), none⟩, ⟨some 122, .bin .mul (.t 121) (.c (.int .u64 4294967296)), none⟩, ⟨some 123, .mv (.t 18), none⟩, ⟨some 124, .bin .add (.t 122) (.t 123), none⟩, ⟨some 125, .mv (.t 17), none⟩, ⟨some 126, .bin .mul (.t 125) (.c (.int .u64 4294967296)), none⟩, ⟨some 127, .mv (.t 14), none⟩, ⟨some 128, .bin .add (.t 126) (.t 127), none⟩, ⟨some 129, .mv (.t 18), none⟩, ⟨some 130, .mv (.t 2), none⟩, ⟨some 131, .bin .mul (.t 129) (.t 130), none⟩, ⟨some 132, .bin .sub (.t 128) (.t 131), none⟩, ⟨some 133, .mv (.t 8), none⟩, ⟨some 134, .bin .shr (.t 132) (.t 133), none⟩, ⟨some 6, .mv (.t 124), none⟩, ⟨some 7, .mv (.t 134), none⟩] [7, 6])
 (.ret)
def S_math_bits_Div64_j1 : SC :=
 .seq (.region [⟨some 86, .mv (.t 11), none⟩, ⟨some 87, .bin .mul (.t 86) (.c (.int .u64 4294967296)), none⟩, ⟨some 88, .mv (.t 13), none⟩, ⟨some 89, .bin .add (.t 87) (.t 88), none⟩, ⟨some 90, .mv (.t 15), none⟩, ⟨some 91, .mv (.t 2), none⟩, ⟨some 92, .bin .mul (.t 90) (.t 91), none⟩, ⟨some 93, .bin .sub (.t 89) (.t 92), none⟩, ⟨some 17, .mv (.t 93), none⟩] [17, 15, 14, 10, 9, 8, 2])
 (.seq (.region [⟨some 94, .mv (.t 17), none⟩, ⟨some 95, .mv (.t 9), none⟩, ⟨some 96, .bin .quo (.t 94) (.t 95), none⟩, ⟨some 18, .mv (.t 96), none⟩] [18, 17, 15, 14, 10, 9, 8, 2])
 (.seq (.region [⟨some 97, .mv (.t 17), none⟩, ⟨some 98, .mv (.t 18), none⟩, ⟨some 99, .mv (.t 9), none⟩, ⟨some 100, .bin .mul (.t 98) (.t 99), none⟩, ⟨some 101, .bin .sub (.t 97) (.t 100), none⟩, ⟨some 16, .mv (.t 101), none⟩] [18, 17, 16, 15, 14, 10, 9, 8, 2])
 (.seq (.block 2 [18, 17, 15, 14, 8, 2] (.loop [18, 17, 16, 15, 14, 10, 9, 8, 2] (.seq (.seq (.region [⟨some 102, .mv (.t 18), none⟩, ⟨some 103, .bin .geq (.t 102) (.c (.int .u64 4294967296)), none⟩, ⟨some 104, .mv (.t 103), none⟩, ⟨some 105, .mv (.t 18), some (104, false)⟩, ⟨some 106, .mv (.t 10), some (104, false)⟩, ⟨some 107, .bin .mul (.t 105) (.t 106), some (104, false)⟩, ⟨some 108, .mv (.t 16), some (104, false)⟩, ⟨some 109, .bin .mul (.c (.int .u64 4294967296)) (.t 108), some (104, false)⟩, ⟨some 110, .mv (.t 14), some (104, false)⟩, ⟨some 111, .bin .add (.t 109) (.t 110), some (104, false)⟩, ⟨some 112, .bin .gtr (.t 107) (.t 111), some (104, false)⟩, ⟨some 113, .pick (.t 104) (.c (.bool true)) (.t 112), none⟩] [113, 18, 17, 16, 15, 14, 10, 9, 8, 2])
 (.cond (.t 113) (.region [] [18, 17, 16, 15, 14, 10, 9, 8, 2])
 (.exit 2)))
 (.block 3 [18, 17, 16, 15, 14, 10, 9, 8, 2] (.seq (.region [⟨some 114, .mv (.t 18), none⟩, ⟨some 115, .bin .sub (.t 114) (.c (.int .u64 1)), none⟩, ⟨some 18, .mv (.t 115), none⟩] [18, 17, 16, 15, 14, 10, 9, 8, 2])
 (.seq (.region [⟨some 116, .mv (.t 16), none⟩, ⟨some 117, .mv (.t 9), none⟩, ⟨some 118, .bin .add (.t 116) (.t 117), none⟩, ⟨some 16, .mv (.t 118), none⟩] [18, 17, 16, 15, 14, 10, 9, 8, 2])
 (.seq (.region [⟨some 119, .mv (.t 16), none⟩, ⟨some 120, .bin .geq (.t 119) (.c (.int .u64 4294967296)), none⟩] [120, 18, 17, 16, 15, 14, 10, 9, 8, 2])
 (.cond (.t 120) (.exit 2)
 (.region [] [18, 17, 16, 15, 14, 10, 9, 8, 2])))))))))
 (.seq .says S_math_bits_Div64_j2))))
/-- math / bits.Div64 -/
def S_math_bits_Div64 : SC :=
 .seq (.region [⟨some 6, .mv (.c (.int .u64 0)), none⟩, ⟨some 7, .mv (.c (.int .u64 0)), none⟩] [2, 1, 0])
 (.seq (.seq (.region [⟨some 19, .mv (.t 2), none⟩, ⟨some 20, .bin .eql (.t 19) (.c (.int .u64 0)), none⟩] [20, 2, 1, 0])
 (.cond (.t 20) (.dead)
 (.region [] [2, 1, 0])))
 (.seq (.seq (.region [⟨some 22, .mv (.t 2), none⟩, ⟨some 23, .mv (.t 0), none⟩, ⟨some 24, .bin .leq (.t 22) (.t 23), none⟩] [24, 2, 1, 0])
 (.cond (.t 24) (.dead)
 (.region [] [2, 1, 0])))
 (.seq (.seq (.region [⟨some 26, .mv (.t 0), none⟩, ⟨some 27, .bin .eql (.t 26) (.c (.int .u64 0)), none⟩] [27, 2, 1, 0])
 (.cond (.t 27) (.seq (.drawn [0, 1, 2, 3, 4, 5, 6, 7] [⟨some 28, .mv (.t 1), none⟩, ⟨some 29, .mv (.t 2), none⟩, ⟨some 30, .bin .quo (.t 28) (.t 29), none⟩, ⟨some 31, .mv (.t 1), none⟩, ⟨some 32, .mv (.t 2), none⟩, ⟨some 33, .bin .rem (.t 31) (.t 32), none⟩, ⟨some 6, .mv (.t 30), none⟩, ⟨some 7, .mv (.t 33), none⟩] [7, 6])
 (.ret))
 (.region [] [2, 1, 0])))
 (.seq (.region [⟨some 34, .mv (.t 2), none⟩, ⟨some 35, .call 124 [.t 34], none⟩, ⟨some 36, .conv .u64 (.t 35), none⟩, ⟨some 8, .mv (.t 36), none⟩] [8, 2, 1, 0])
 (.seq (.region [⟨some 37, .mv (.t 2), none⟩, ⟨some 38, .mv (.t 8), none⟩, ⟨some 39, .bin .shl (.t 37) (.t 38), none⟩, ⟨some 2, .mv (.t 39), none⟩] [8, 2, 1, 0])
 (.seq (.region [⟨some 40, .mv (.t 2), none⟩, ⟨some 41, .bin .shr (.t 40) (.c (.int .u64 32)), none⟩, ⟨some 9, .mv (.t 41), none⟩] [9, 8, 2, 1, 0])
 (.seq (.region [⟨some 42, .mv (.t 2), none⟩, ⟨some 43, .bin .and (.t 42) (.c (.int .u64 4294967295)), none⟩, ⟨some 10, .mv (.t 43), none⟩] [10, 9, 8, 2, 1, 0])
 (.seq (.region [⟨some 44, .mv (.t 0), none⟩, ⟨some 45, .mv (.t 8), none⟩, ⟨some 46, .bin .shl (.t 44) (.t 45), none⟩, ⟨some 47, .mv (.t 1), none⟩, ⟨some 48, .mv (.t 8), none⟩, ⟨some 49, .bin .sub (.c (.int .u64 64)) (.t 48), none⟩, ⟨some 50, .bin .shr (.t 47) (.t 49), none⟩, ⟨some 51, .bin .or (.t 46) (.t 50), none⟩, ⟨some 11, .mv (.t 51), none⟩] [11, 10, 9, 8, 2, 1])
 (.seq (.region [⟨some 52, .mv (.t 1), none⟩, ⟨some 53, .mv (.t 8), none⟩, ⟨some 54, .bin .shl (.t 52) (.t 53), none⟩, ⟨some 12, .mv (.t 54), none⟩] [12, 11, 10, 9, 8, 2])
 (.seq (.region [⟨some 55, .mv (.t 12), none⟩, ⟨some 56, .bin .shr (.t 55) (.c (.int .u64 32)), none⟩, ⟨some 13, .mv (.t 56), none⟩] [13, 12, 11, 10, 9, 8, 2])
 (.seq (.region [⟨some 57, .mv (.t 12), none⟩, ⟨some 58, .bin .and (.t 57) (.c (.int .u64 4294967295)), none⟩, ⟨some 14, .mv (.t 58), none⟩] [14, 13, 11, 10, 9, 8, 2])
 (.seq (.region [⟨some 59, .mv (.t 11), none⟩, ⟨some 60, .mv (.t 9), none⟩, ⟨some 61, .bin .quo (.t 59) (.t 60), none⟩, ⟨some 15, .mv (.t 61), none⟩] [15, 14, 13, 11, 10, 9, 8, 2])
 (.seq (.region [⟨some 62, .mv (.t 11), none⟩, ⟨some 63, .mv (.t 15), none⟩, ⟨some 64, .mv (.t 9), none⟩, ⟨some 65, .bin .mul (.t 63) (.t 64), none⟩, ⟨some 66, .bin .sub (.t 62) (.t 65), none⟩, ⟨some 16, .mv (.t 66), none⟩] [16, 15, 14, 13, 11, 10, 9, 8, 2])
 (.seq (.block 0 [15, 14, 13, 11, 10, 9, 8, 2] (.loop [16, 15, 14, 13, 11, 10, 9, 8, 2] (.seq (.seq (.region [⟨some 67, .mv (.t 15), none⟩, ⟨some 68, .bin .geq (.t 67) (.c (.int .u64 4294967296)), none⟩, ⟨some 69, .mv (.t 68), none⟩, ⟨some 70, .mv (.t 15), some (69, false)⟩, ⟨some 71, .mv (.t 10), some (69, false)⟩, ⟨some 72, .bin .mul (.t 70) (.t 71), some (69, false)⟩, ⟨some 73, .mv (.t 16), some (69, false)⟩, ⟨some 74, .bin .mul (.c (.int .u64 4294967296)) (.t 73), some (69, false)⟩, ⟨some 75, .mv (.t 13), some (69, false)⟩, ⟨some 76, .bin .add (.t 74) (.t 75), some (69, false)⟩, ⟨some 77, .bin .gtr (.t 72) (.t 76), some (69, false)⟩, ⟨some 78, .pick (.t 69) (.c (.bool true)) (.t 77), none⟩] [78, 16, 15, 14, 13, 11, 10, 9, 8, 2])
 (.cond (.t 78) (.region [] [16, 15, 14, 13, 11, 10, 9, 8, 2])
 (.exit 0)))
 (.block 1 [16, 15, 14, 13, 11, 10, 9, 8, 2] (.seq (.region [⟨some 79, .mv (.t 15), none⟩, ⟨some 80, .bin .sub (.t 79) (.c (.int .u64 1)), none⟩, ⟨some 15, .mv (.t 80), none⟩] [16, 15, 14, 13, 11, 10, 9, 8, 2])
 (.seq (.region [⟨some 81, .mv (.t 16), none⟩, ⟨some 82, .mv (.t 9), none⟩, ⟨some 83, .bin .add (.t 81) (.t 82), none⟩, ⟨some 16, .mv (.t 83), none⟩] [16, 15, 14, 13, 11, 10, 9, 8, 2])
 (.seq (.region [⟨some 84, .mv (.t 16), none⟩, ⟨some 85, .bin .geq (.t 84) (.c (.int .u64 4294967296)), none⟩] [85, 16, 15, 14, 13, 11, 10, 9, 8, 2])
 (.cond (.t 85) (.exit 0)
 (.region [] [16, 15, 14, 13, 11, 10, 9, 8, 2])))))))))
 (.seq .says S_math_bits_Div64_j1)))))))))))))))
theorem C_math_bits_Div64 : Codes Go.Proofs.Try.prog F_math_bits_Div64 S_math_bits_Div64 135 [6, 7] := ⟨Go.Proofs.Try.f131, Go.Proofs.Try.f131.body.getD .skip, Go.Proofs.Try.func131, by kernel_rfl, by kernel_rfl, by kernel_rfl, by kernel_rfl, by kernel_rfl⟩
def F_math_bits_Len64 : FuncId := 132
def S_math_bits_Len64_j3 : SC :=
 .seq (.region [⟨some 19, .mv (.t 2), none⟩, ⟨some 20, .mv (.t 0), none⟩, ⟨some 21, .conv .u8 (.t 20), none⟩, ⟨some 22, .idxs (.c (.string ⟨#[0, 1, 2, 2, 3, 3, 3, 3, 4, 4, 4, 4, 4, 4, 4, 4, 5, 5, 5, 5, 5, 5, 5, 5, 5, 5, 5, 5, 5, 5, 5, 5, 6, 6, 6, 6, 6, 6, 6, 6, 6, 6, 6, 6, 6, 6, 6, 6, 6, 6, 6, 6, 6, 6, 6, 6, 6, 6, 6, 6, 6, 6, 6, 6, 7, 7, 7, 7, 7, 7, 7, 7, 7, 7, 7, 7, 7, 7, 7, 7, 7, 7, 7, 7, 7, 7, 7, 7, 7, 7, 7, 7, 7, 7, 7, 7, 7, 7, 7, 7, 7, 7, 7, 7, 7, 7, 7, 7, 7, 7, 7, 7, 7, 7, 7, 7, 7, 7, 7, 7, 7, 7, 7, 7, 7, 7, 7, 7, 8, 8, 8, 8, 8, 8, 8, 8, 8, 8, 8, 8, 8, 8, 8, 8, 8, 8, 8, 8, 8, 8, 8, 8, 8, 8, 8, 8, 8, 8, 8, 8, 8, 8, 8, 8, 8, 8, 8, 8, 8, 8, 8, 8, 8, 8, 8, 8, 8, 8, 8, 8, 8, 8, 8, 8, 8, 8, 8, 8, 8, 8, 8, 8, 8, 8, 8, 8, 8, 8, 8, 8, 8, 8, 8, 8, 8, 8, 8, 8, 8, 8, 8, 8, 8, 8, 8, 8, 8, 8, 8, 8, 8, 8, 8, 8, 8, 8, 8, 8, 8, 8, 8, 8, 8, 8, 8, 8, 8, 8, 8, 8, 8, 8, 8, 8, 8, 8, 8, 8, 8, 8, 8, 8, 8, 8, 8, 8]⟩)) (.t 21), none⟩, ⟨some 23, .conv .i64 (.t 22), none⟩, ⟨some 24, .bin .add (.t 19) (.t 23), none⟩, ⟨some 2, .mv (.t 24), none⟩] [2])
 (.ret)
def S_math_bits_Len64_j2 : SC :=
 .seq (.seq (.region [⟨some 13, .mv (.t 0), none⟩, ⟨some 14, .bin .geq (.t 13) (.c (.int .u64 256)), none⟩] [14, 2, 0])
 (.cond (.t 14) (.seq (.region [⟨some 15, .mv (.t 0), none⟩, ⟨some 16, .bin .shr (.t 15) (.c (.int .u64 8)), none⟩, ⟨some 0, .mv (.t 16), none⟩] [2, 0])
 (.region [⟨some 17, .mv (.t 2), none⟩, ⟨some 18, .bin .add (.t 17) (.c (.int .i64 8)), none⟩, ⟨some 2, .mv (.t 18), none⟩] [2, 0]))
 (.region [] [2, 0])))
 (.seq .says S_math_bits_Len64_j3)
def S_math_bits_Len64_j1 : SC :=
 .seq (.seq (.region [⟨some 7, .mv (.t 0), none⟩, ⟨some 8, .bin .geq (.t 7) (.c (.int .u64 65536)), none⟩] [8, 2, 0])
 (.cond (.t 8) (.seq (.region [⟨some 9, .mv (.t 0), none⟩, ⟨some 10, .bin .shr (.t 9) (.c (.int .u64 16)), none⟩, ⟨some 0, .mv (.t 10), none⟩] [2, 0])
 (.region [⟨some 11, .mv (.t 2), none⟩, ⟨some 12, .bin .add (.t 11) (.c (.int .i64 16)), none⟩, ⟨some 2, .mv (.t 12), none⟩] [2, 0]))
 (.region [] [2, 0])))
 (.seq .says S_math_bits_Len64_j2)
/-- math / bits.Len64 -/
def S_math_bits_Len64 : SC :=
 .seq (.region [⟨some 2, .mv (.c (.int .i64 0)), none⟩] [2, 0])
 (.seq (.seq (.region [⟨some 3, .mv (.t 0), none⟩, ⟨some 4, .bin .geq (.t 3) (.c (.int .u64 4294967296)), none⟩] [4, 2, 0])
 (.cond (.t 4) (.seq (.region [⟨some 5, .mv (.t 0), none⟩, ⟨some 6, .bin .shr (.t 5) (.c (.int .u64 32)), none⟩, ⟨some 0, .mv (.t 6), none⟩] [0])
 (.region [⟨some 2, .mv (.c (.int .i64 32)), none⟩] [2, 0]))
 (.region [] [2, 0])))
 (.seq .says S_math_bits_Len64_j1))
theorem C_math_bits_Len64 : Codes Go.Proofs.Try.prog F_math_bits_Len64 S_math_bits_Len64 25 [2] := ⟨Go.Proofs.Try.f132, Go.Proofs.Try.f132.body.getD .skip, Go.Proofs.Try.func132, by kernel_rfl, by kernel_rfl, by kernel_rfl, by kernel_rfl, by kernel_rfl⟩
def F_math_bits_Sub64 : FuncId := 133
end Go.Proofs.Ytoidllhkhljlaaa.Nat
