import Derived.Test.YtijcbocbehcaaaaDoorProg
import Derived.Lib.Bytealg
import Derived.ChangeArms
import Derived.Deep.Slices
import Derived.SizedLaws
import Derived.OpenShut
import Derived.Below
import Derived.ChangeVars
import Derived.Test.YtijcbocbehcaaaaDoorPk1
namespace Go.Proofs.YtijcbocbehcaaaaDoor.Nat
open Go Go.Ab
open Go.Ab.SOp Go.Ab.SC Go.Ab.Opd
set_option linter.unusedVariables false
set_option maxRecDepth 20000
def F_token_Scan : FuncId := 9
/-- gauge / token.Scan -/
def S_token_Scan : SC :=
 .seq (.region [⟨some 2, .mv (.c (.slice none 0 0)), none⟩, ⟨some 3, .mv (.c (.int .i64 0)), none⟩] [0])
 (.seq (.seq (.region [⟨some 8, .mv (.t 0), none⟩, ⟨some 9, .lens (.t 8), none⟩, ⟨some 10, .bin .gtr (.t 9) (.c (.int .i64 16384)), none⟩] [10, 0])
 (.cond (.t 10) (.seq (.region [⟨some 2, .mv (.c (.slice none 0 0)), none⟩, ⟨some 3, .mv (.c (.int .i64 80)), none⟩] [3, 2])
 (.ret))
 (.region [] [0])))
 (.seq (.region [⟨some 4, .mv (.c (.slice none 0 0)), none⟩] [4, 0])
 (.seq (.seq (.region [⟨some 5, .mv (.c (.int .i64 0)), none⟩] [5, 4, 0])
 (.block 0 [4, 0] (.loop [5, 4, 0] (.seq (.seq (.region [⟨some 11, .mv (.t 5), none⟩, ⟨some 12, .mv (.t 0), none⟩, ⟨some 13, .lens (.t 12), none⟩, ⟨some 14, .bin .lss (.t 11) (.t 13), none⟩] [14, 5, 4, 0])
 (.cond (.t 14) (.region [] [5, 4, 0])
 (.exit 0)))
 (.block 1 [5, 4, 0] (.seq (.seq (.region [⟨some 15, .mv (.t 0), none⟩, ⟨some 16, .mv (.t 5), none⟩, ⟨some 17, .idxs (.t 15) (.t 16), none⟩, ⟨some 18, .call 32 [.t 17], none⟩, ⟨some 19, .bin .eql (.t 18) (.c (.int .i64 1)), none⟩] [19, 5, 4, 0])
 (.cond (.t 19) (.seq (.region [⟨some 20, .mv (.t 5), none⟩, ⟨some 21, .bin .add (.t 20) (.c (.int .i64 1)), none⟩, ⟨some 5, .mv (.t 21), none⟩] [5, 4, 0])
 (.exit 1))
 (.region [] [5, 4, 0])))
 (.seq (.region [⟨some 23, .mv (.t 0), none⟩, ⟨some 24, .mv (.t 5), none⟩, ⟨some 25, .call 33 [.t 23, .t 24], none⟩, ⟨some 22, .mv (.t 25), none⟩, ⟨some 26, .ext (.t 22) 0, none⟩, ⟨some 27, .ext (.t 22) 1, none⟩, ⟨some 6, .mv (.t 26), none⟩, ⟨some 7, .mv (.t 27), none⟩] [7, 6, 5, 4, 0])
 (.seq (.region [⟨some 28, .mv (.t 4), none⟩, ⟨some 29, .mv (.t 6), none⟩, ⟨some 30, .mv (.t 0), none⟩, ⟨some 31, .mv (.t 5), none⟩, ⟨some 32, .mv (.t 7), none⟩, ⟨some 33, .sls (.t 30) (some (.t 31)) (some (.t 32)), none⟩, ⟨some 34, .mv (.t 5), none⟩, ⟨some 35, .build [.int .i64 0, .string ⟨#[]⟩, .int .i64 0] [(0, 1, .t 29), (1, 1, .t 33), (2, 1, .t 34)], none⟩, ⟨some 36, .bsl false 3 1 [.int .i64 0, .string ⟨#[]⟩, .int .i64 0] [(0, .t 35)], none⟩, ⟨some 37, .app false 3 32 (.t 28) (.t 36), none⟩, ⟨some 4, .mv (.t 37), none⟩] [7, 4, 0])
 (.region [⟨some 38, .mv (.t 7), none⟩, ⟨some 5, .mv (.t 38), none⟩] [5, 4, 0])))))))))
 (.seq (.region [⟨some 39, .mv (.t 4), none⟩, ⟨some 40, .mv (.t 0), none⟩, ⟨some 41, .lens (.t 40), none⟩, ⟨some 42, .build [.int .i64 0, .string ⟨#[]⟩, .int .i64 0] [(0, 1, .c (.int .i64 10)), (2, 1, .t 41)], none⟩, ⟨some 43, .bsl false 3 1 [.int .i64 0, .string ⟨#[]⟩, .int .i64 0] [(0, .t 42)], none⟩, ⟨some 44, .app false 3 32 (.t 39) (.t 43), none⟩, ⟨some 2, .mv (.t 44), none⟩, ⟨some 3, .mv (.c (.int .i64 0)), none⟩] [3, 2])
 (.ret)))))
theorem C_token_Scan : Codes Go.Proofs.Tryd.prog F_token_Scan S_token_Scan 45 [2, 3] := ⟨Go.Proofs.Tryd.f9, Go.Proofs.Tryd.f9.body.getD .skip, Go.Proofs.Tryd.func9, by kernel_rfl, by kernel_rfl, by kernel_rfl, by kernel_rfl, by kernel_rfl⟩
def F_gaugelaw8_num : FuncId := 10
/-- gauge / gaugelaw8.num -/
def S_gaugelaw8_num : SC :=
 .seq (.region [⟨some 2, .mv (.c (.int .i64 0)), none⟩] [0])
 (.seq (.region [⟨some 3, .mv (.t 0), none⟩, ⟨some 2, .mv (.t 3), none⟩] [2])
 (.ret))
theorem C_gaugelaw8_num : Codes Go.Proofs.Tryd.prog F_gaugelaw8_num S_gaugelaw8_num 4 [2] := ⟨Go.Proofs.Tryd.f10, Go.Proofs.Tryd.f10.body.getD .skip, Go.Proofs.Tryd.func10, by kernel_rfl, by kernel_rfl, by kernel_rfl, by kernel_rfl, by kernel_rfl⟩
def F_gaugeref8_Blank : FuncId := 11
/-- gauge / gaugeref8.Blank -/
def S_gaugeref8_Blank : SC :=
 .seq (.region [⟨some 2, .mv (.c (.bool false)), none⟩] [0])
 (.seq (.region [⟨some 3, .mv (.t 0), none⟩, ⟨some 4, .bin .eql (.t 3) (.c (.int .u8 32)), none⟩, ⟨some 5, .mv (.t 4), none⟩, ⟨some 6, .mv (.t 0), some (5, false)⟩, ⟨some 7, .bin .eql (.t 6) (.c (.int .u8 9)), some (5, false)⟩, ⟨some 8, .pick (.t 5) (.c (.bool true)) (.t 7), none⟩, ⟨some 9, .mv (.t 8), none⟩, ⟨some 10, .mv (.t 0), some (9, false)⟩, ⟨some 11, .bin .eql (.t 10) (.c (.int .u8 10)), some (9, false)⟩, ⟨some 12, .pick (.t 9) (.c (.bool true)) (.t 11), none⟩, ⟨some 13, .mv (.t 12), none⟩, ⟨some 14, .mv (.t 0), some (13, false)⟩, ⟨some 15, .bin .eql (.t 14) (.c (.int .u8 13)), some (13, false)⟩, ⟨some 16, .pick (.t 13) (.c (.bool true)) (.t 15), none⟩, ⟨some 2, .mv (.t 16), none⟩] [2])
 (.ret))
theorem C_gaugeref8_Blank : Codes Go.Proofs.Tryd.prog F_gaugeref8_Blank S_gaugeref8_Blank 17 [2] := ⟨Go.Proofs.Tryd.f11, Go.Proofs.Tryd.f11.body.getD .skip, Go.Proofs.Tryd.func11, by kernel_rfl, by kernel_rfl, by kernel_rfl, by kernel_rfl, by kernel_rfl⟩
def F_gaugelaw8_wakes : FuncId := 12
/-- gauge / gaugelaw8.wakes -/
def S_gaugelaw8_wakes : SC :=
 .seq (.region [⟨some 0, .mv (.c (.bool false)), none⟩] [])
 (.seq (.region [⟨some 4, .call 9 [.c (.string ⟨#[97, 60, 61, 46, 51]⟩)], none⟩, ⟨some 3, .mv (.t 4), none⟩, ⟨some 5, .ext (.t 3) 0, none⟩, ⟨some 6, .ext (.t 3) 1, none⟩, ⟨some 1, .mv (.t 5), none⟩, ⟨some 2, .mv (.t 6), none⟩] [2, 1])
 (.seq (.region [⟨some 7, .mv (.t 2), none⟩, ⟨some 8, .call 10 [.t 7], none⟩, ⟨some 9, .bin .eql (.t 8) (.c (.int .i64 0)), none⟩, ⟨some 10, .mv (.t 9), none⟩, ⟨some 11, .mv (.t 1), some (10, true)⟩, ⟨some 12, .build [.int .i64 0, .string ⟨#[]⟩, .int .i64 0] [(0, 1, .c (.int .i64 1)), (1, 1, .c (.string ⟨#[97]⟩))], some (10, true)⟩, ⟨some 13, .build [.int .i64 0, .string ⟨#[]⟩, .int .i64 0] [(0, 1, .c (.int .i64 8)), (1, 1, .c (.string ⟨#[60, 61, 46]⟩)), (2, 1, .c (.int .i64 1))], some (10, true)⟩, ⟨some 14, .build [.int .i64 0, .string ⟨#[]⟩, .int .i64 0] [(0, 1, .c (.int .i64 6)), (1, 1, .c (.string ⟨#[51]⟩)), (2, 1, .c (.int .i64 4))], some (10, true)⟩, ⟨some 15, .build [.int .i64 0, .string ⟨#[]⟩, .int .i64 0] [(0, 1, .c (.int .i64 10)), (2, 1, .c (.int .i64 5))], some (10, true)⟩, ⟨some 16, .bsl false 3 4 [.int .i64 0, .string ⟨#[]⟩, .int .i64 0] [(0, .t 12), (1, .t 13), (2, .t 14), (3, .t 15)], some (10, true)⟩, ⟨some 17, .call 14 [.t 11, .t 16], some (10, true)⟩, ⟨some 18, .pick (.t 10) (.t 17) (.c (.bool false)), none⟩, ⟨some 0, .mv (.t 18), none⟩] [0])
 (.ret)))
theorem C_gaugelaw8_wakes : Codes Go.Proofs.Tryd.prog F_gaugelaw8_wakes S_gaugelaw8_wakes 19 [0] := ⟨Go.Proofs.Tryd.f12, Go.Proofs.Tryd.f12.body.getD .skip, Go.Proofs.Tryd.func12, by kernel_rfl, by kernel_rfl, by kernel_rfl, by kernel_rfl, by kernel_rfl⟩
def F_gaugeref8_Scan : FuncId := 13
/-- gauge / gaugeref8.Scan -/
def S_gaugeref8_Scan : SC :=
 .seq (.region [⟨some 2, .mv (.c (.slice none 0 0)), none⟩, ⟨some 3, .mv (.c (.int .i64 0)), none⟩] [0])
 (.seq (.seq (.region [⟨some 8, .mv (.t 0), none⟩, ⟨some 9, .lens (.t 8), none⟩, ⟨some 10, .bin .gtr (.t 9) (.c (.int .i64 16384)), none⟩] [10, 0])
 (.cond (.t 10) (.seq (.region [⟨some 2, .mv (.c (.slice none 0 0)), none⟩, ⟨some 3, .mv (.c (.int .i64 80)), none⟩] [3, 2])
 (.ret))
 (.region [] [0])))
 (.seq (.region [⟨some 4, .mv (.c (.slice none 0 0)), none⟩] [4, 0])
 (.seq (.seq (.region [⟨some 5, .mv (.c (.int .i64 0)), none⟩] [5, 4, 0])
 (.block 0 [4, 0] (.loop [5, 4, 0] (.seq (.seq (.region [⟨some 11, .mv (.t 5), none⟩, ⟨some 12, .mv (.t 0), none⟩, ⟨some 13, .lens (.t 12), none⟩, ⟨some 14, .bin .lss (.t 11) (.t 13), none⟩] [14, 5, 4, 0])
 (.cond (.t 14) (.region [] [5, 4, 0])
 (.exit 0)))
 (.block 1 [5, 4, 0] (.seq (.seq (.region [⟨some 15, .mv (.t 0), none⟩, ⟨some 16, .mv (.t 5), none⟩, ⟨some 17, .idxs (.t 15) (.t 16), none⟩, ⟨some 18, .call 11 [.t 17], none⟩] [18, 5, 4, 0])
 (.cond (.t 18) (.seq (.region [⟨some 19, .mv (.t 5), none⟩, ⟨some 20, .bin .add (.t 19) (.c (.int .i64 1)), none⟩, ⟨some 5, .mv (.t 20), none⟩] [5, 4, 0])
 (.exit 1))
 (.region [] [5, 4, 0])))
 (.seq (.region [⟨some 22, .mv (.t 0), none⟩, ⟨some 23, .mv (.t 5), none⟩, ⟨some 24, .call 34 [.t 22, .t 23], none⟩, ⟨some 21, .mv (.t 24), none⟩, ⟨some 25, .ext (.t 21) 0, none⟩, ⟨some 26, .ext (.t 21) 1, none⟩, ⟨some 6, .mv (.t 25), none⟩, ⟨some 7, .mv (.t 26), none⟩] [7, 6, 5, 4, 0])
 (.seq (.region [⟨some 27, .mv (.t 4), none⟩, ⟨some 28, .mv (.t 6), none⟩, ⟨some 29, .mv (.t 0), none⟩, ⟨some 30, .mv (.t 5), none⟩, ⟨some 31, .mv (.t 7), none⟩, ⟨some 32, .sls (.t 29) (some (.t 30)) (some (.t 31)), none⟩, ⟨some 33, .mv (.t 5), none⟩, ⟨some 34, .build [.int .i64 0, .string ⟨#[]⟩, .int .i64 0] [(0, 1, .t 28), (1, 1, .t 32), (2, 1, .t 33)], none⟩, ⟨some 35, .bsl false 3 1 [.int .i64 0, .string ⟨#[]⟩, .int .i64 0] [(0, .t 34)], none⟩, ⟨some 36, .app false 3 32 (.t 27) (.t 35), none⟩, ⟨some 4, .mv (.t 36), none⟩] [7, 4, 0])
 (.region [⟨some 37, .mv (.t 7), none⟩, ⟨some 5, .mv (.t 37), none⟩] [5, 4, 0])))))))))
 (.seq (.region [⟨some 38, .mv (.t 4), none⟩, ⟨some 39, .mv (.t 0), none⟩, ⟨some 40, .lens (.t 39), none⟩, ⟨some 41, .build [.int .i64 0, .string ⟨#[]⟩, .int .i64 0] [(0, 1, .c (.int .i64 10)), (2, 1, .t 40)], none⟩, ⟨some 42, .bsl false 3 1 [.int .i64 0, .string ⟨#[]⟩, .int .i64 0] [(0, .t 41)], none⟩, ⟨some 43, .app false 3 32 (.t 38) (.t 42), none⟩, ⟨some 2, .mv (.t 43), none⟩, ⟨some 3, .mv (.c (.int .i64 0)), none⟩] [3, 2])
 (.ret)))))
theorem C_gaugeref8_Scan : Codes Go.Proofs.Tryd.prog F_gaugeref8_Scan S_gaugeref8_Scan 44 [2, 3] := ⟨Go.Proofs.Tryd.f13, Go.Proofs.Tryd.f13.body.getD .skip, Go.Proofs.Tryd.func13, by kernel_rfl, by kernel_rfl, by kernel_rfl, by kernel_rfl, by kernel_rfl⟩
def F_gaugeref0_EqTokens : FuncId := 14
/-- gauge / gaugeref0.EqTokens -/
def S_gaugeref0_EqTokens : SC :=
 .seq (.region [⟨some 4, .mv (.c (.bool false)), none⟩] [1, 0])
 (.seq (.seq (.region [⟨some 6, .mv (.t 0), none⟩, ⟨some 7, .len (.t 6), none⟩, ⟨some 8, .mv (.t 1), none⟩, ⟨some 9, .len (.t 8), none⟩, ⟨some 10, .bin .neq (.t 7) (.t 9), none⟩] [10, 1, 0])
 (.cond (.t 10) (.seq (.region [⟨some 4, .mv (.c (.bool false)), none⟩] [4])
 (.ret))
 (.region [] [1, 0])))
 (.seq (.seq (.region [⟨some 5, .mv (.c (.int .i64 0)), none⟩] [5, 1, 0])
 (.block 0 [] (.loop [5, 1, 0] (.seq (.seq (.region [⟨some 11, .mv (.t 5), none⟩, ⟨some 12, .mv (.t 0), none⟩, ⟨some 13, .len (.t 12), none⟩, ⟨some 14, .bin .lss (.t 11) (.t 13), none⟩] [14, 5, 1, 0])
 (.cond (.t 14) (.region [] [5, 1, 0])
 (.exit 0)))
 (.seq (.block 1 [5, 1, 0] (.seq (.drawn [0, 1, 2, 3, 4, 5, 6, 7, 8] [⟨some 17, .mv (.t 0), none⟩, ⟨some 18, .mv (.t 5), none⟩, ⟨some 19, .ix 3 (.t 17) (.t 18), none⟩, ⟨some 20, .ld true 3 (.t 19), none⟩, ⟨some 21, .mv (.t 1), none⟩, ⟨some 22, .mv (.t 5), none⟩, ⟨some 23, .ix 3 (.t 21) (.t 22), none⟩, ⟨some 24, .ld true 3 (.t 23), none⟩, ⟨some 25, .eqa true [.i, .s, .i] (.t 20) (.t 24), none⟩] [25, 5, 1, 0])
 (.cond (.t 25) (.seq (.region [⟨some 4, .mv (.c (.bool false)), none⟩] [4])
 (.ret))
 (.region [] [5, 1, 0]))))
 (.region [⟨some 15, .mv (.t 5), none⟩, ⟨some 16, .bin .add (.t 15) (.c (.int .i64 1)), none⟩, ⟨some 5, .mv (.t 16), none⟩] [5, 1, 0]))))))
 (.seq (.region [⟨some 4, .mv (.c (.bool true)), none⟩] [4])
 (.ret))))
theorem C_gaugeref0_EqTokens : Codes Go.Proofs.Tryd.prog F_gaugeref0_EqTokens S_gaugeref0_EqTokens 26 [4] := ⟨Go.Proofs.Tryd.f14, Go.Proofs.Tryd.f14.body.getD .skip, Go.Proofs.Tryd.func14, by kernel_rfl, by kernel_rfl, by kernel_rfl, by kernel_rfl, by kernel_rfl⟩
def F_gaugelaw0_Tokens : FuncId := 15
/-- gauge / gaugelaw0.Tokens -/
def S_gaugelaw0_Tokens : SC :=
 .seq (.seq (.region [⟨some 2, .mv (.c (.int .i64 0)), none⟩] [2, 0])
 (.block 0 [0] (.loop [2, 0] (.seq (.seq (.region [⟨some 3, .mv (.t 2), none⟩, ⟨some 4, .mv (.t 0), none⟩, ⟨some 5, .len (.t 4), none⟩, ⟨some 6, .bin .lss (.t 3) (.t 5), none⟩] [6, 2, 0])
 (.cond (.t 6) (.region [] [2, 0])
 (.exit 0)))
 (.seq (.block 1 [2, 0] (.region [⟨some 9, .mv (.t 0), none⟩, ⟨some 10, .mv (.t 2), none⟩, ⟨some 11, .build [.int .i64 0, .string ⟨#[]⟩, .int .i64 0] [(0, 1, .c (.int .i64 99))], none⟩, ⟨some 12, .ix 3 (.t 9) (.t 10), none⟩, ⟨none, .st 3 (.t 12) (.t 11), none⟩] [2, 0]))
 (.region [⟨some 7, .mv (.t 2), none⟩, ⟨some 8, .bin .add (.t 7) (.c (.int .i64 1)), none⟩, ⟨some 2, .mv (.t 8), none⟩] [2, 0]))))))
 (.region [⟨some 13, .mv (.t 0), none⟩, ⟨some 14, .build [.int .i64 0, .string ⟨#[]⟩, .int .i64 0] [], none⟩, ⟨some 15, .bsl false 3 1 [.int .i64 0, .string ⟨#[]⟩, .int .i64 0] [(0, .t 14)], none⟩, ⟨some 16, .app false 3 32 (.t 13) (.t 15), none⟩, ⟨some 0, .mv (.t 16), none⟩] [])
theorem C_gaugelaw0_Tokens : Codes Go.Proofs.Tryd.prog F_gaugelaw0_Tokens S_gaugelaw0_Tokens 17 [] := ⟨Go.Proofs.Tryd.f15, Go.Proofs.Tryd.f15.body.getD .skip, Go.Proofs.Tryd.func15, by kernel_rfl, by kernel_rfl, by kernel_rfl, by kernel_rfl, by kernel_rfl⟩
def F_gaugelaw8_kinds : FuncId := 17
/-- gauge / gaugelaw8.kinds -/
def S_gaugelaw8_kinds : SC :=
 .seq (.region [⟨some 4, .mv (.c (.bool false)), none⟩] [1, 0])
 (.seq (.seq (.region [⟨some 6, .mv (.t 0), none⟩, ⟨some 7, .len (.t 6), none⟩, ⟨some 8, .mv (.t 1), none⟩, ⟨some 9, .len (.t 8), none⟩, ⟨some 10, .bin .neq (.t 7) (.t 9), none⟩] [10, 1, 0])
 (.cond (.t 10) (.seq (.region [⟨some 4, .mv (.c (.bool false)), none⟩] [4])
 (.ret))
 (.region [] [1, 0])))
 (.seq (.seq (.region [⟨some 5, .mv (.c (.int .i64 0)), none⟩] [5, 1, 0])
 (.block 0 [] (.loop [5, 1, 0] (.seq (.seq (.region [⟨some 11, .mv (.t 5), none⟩, ⟨some 12, .mv (.t 0), none⟩, ⟨some 13, .len (.t 12), none⟩, ⟨some 14, .bin .lss (.t 11) (.t 13), none⟩] [14, 5, 1, 0])
 (.cond (.t 14) (.region [] [5, 1, 0])
 (.exit 0)))
 (.seq (.block 1 [5, 1, 0] (.seq (.drawn [0, 1, 2, 3, 4, 5, 6, 7, 8, 9, 10, 11, 12, 13, 14, 15, 16, 17, 18, 19, 20, 21, 22, 23] [⟨some 17, .mv (.t 0), none⟩, ⟨some 18, .mv (.t 5), none⟩, ⟨some 19, .ix 3 (.t 17) (.t 18), none⟩, ⟨some 20, .fa 0 (.t 19), none⟩, ⟨some 21, .ld false 1 (.t 20), none⟩, ⟨some 22, .mv (.t 1), none⟩, ⟨some 23, .mv (.t 5), none⟩, ⟨some 24, .ix 3 (.t 22) (.t 23), none⟩, ⟨some 25, .fa 0 (.t 24), none⟩, ⟨some 26, .ld false 1 (.t 25), none⟩, ⟨some 27, .bin .neq (.t 21) (.t 26), none⟩, ⟨some 28, .mv (.t 27), none⟩, ⟨some 29, .mv (.t 0), some (28, false)⟩, ⟨some 30, .mv (.t 5), some (28, false)⟩, ⟨some 31, .ix 3 (.t 29) (.t 30), some (28, false)⟩, ⟨some 32, .fa 1 (.t 31), some (28, false)⟩, ⟨some 33, .ld false 1 (.t 32), some (28, false)⟩, ⟨some 34, .mv (.t 1), some (28, false)⟩, ⟨some 35, .mv (.t 5), some (28, false)⟩, ⟨some 36, .ix 3 (.t 34) (.t 35), some (28, false)⟩, ⟨some 37, .fa 1 (.t 36), some (28, false)⟩, ⟨some 38, .ld false 1 (.t 37), some (28, false)⟩, ⟨some 39, .bin .neq (.t 33) (.t 38), some (28, false)⟩, ⟨some 40, .pick (.t 28) (.c (.bool true)) (.t 39), none⟩] [40, 5, 1, 0])
 (.cond (.t 40) (.seq (.region [⟨some 4, .mv (.c (.bool false)), none⟩] [4])
 (.ret))
 (.region [] [5, 1, 0]))))
 (.region [⟨some 15, .mv (.t 5), none⟩, ⟨some 16, .bin .add (.t 15) (.c (.int .i64 1)), none⟩, ⟨some 5, .mv (.t 16), none⟩] [5, 1, 0]))))))
 (.seq (.region [⟨some 4, .mv (.c (.bool true)), none⟩] [4])
 (.ret))))
theorem C_gaugelaw8_kinds : Codes Go.Proofs.Tryd.prog F_gaugelaw8_kinds S_gaugelaw8_kinds 41 [4] := ⟨Go.Proofs.Tryd.f17, Go.Proofs.Tryd.f17.body.getD .skip, Go.Proofs.Tryd.func17, by kernel_rfl, by kernel_rfl, by kernel_rfl, by kernel_rfl, by kernel_rfl⟩
def F_token_what : FuncId := 32
/-- gauge / token.what -/
def S_token_what : SC :=
 .seq (.region [⟨some 2, .mv (.c (.int .i64 0)), none⟩] [0])
 (.seq (.seq (.region [⟨some 5, .ld true 24 (.g 0), none⟩, ⟨some 6, .mv (.c (.int .i64 0)), none⟩] [6, 5, 0])
 (.block 0 [] (.loop [6, 5, 0] (.seq (.region [⟨some 7, .bin .lss (.t 6) (.c (.int .i64 8)), none⟩] [7, 6, 5, 0])
 (.seq (.cond (.t 7) (.region [] [6, 5, 0])
 (.exit 0))
 (.seq (.block 1 [6, 5, 0] (.seq (.region [⟨some 8, .idx true 8 3 (.t 5) (.t 6), none⟩, ⟨some 4, .alloc true 3 [.int .u8 0, .int .u8 0, .int .i64 0], none⟩, ⟨none, .st 3 (.t 4) (.t 8), none⟩] [6, 5, 4, 0])
 (.seq .says (.seq (.region [⟨some 9, .fa 0 (.t 4), none⟩, ⟨some 10, .ld false 1 (.t 9), none⟩, ⟨some 11, .mv (.t 0), none⟩, ⟨some 12, .bin .leq (.t 10) (.t 11), none⟩, ⟨some 13, .mv (.t 12), none⟩, ⟨some 14, .mv (.t 0), some (13, true)⟩, ⟨some 15, .fa 1 (.t 4), some (13, true)⟩, ⟨some 16, .ld false 1 (.t 15), some (13, true)⟩, ⟨some 17, .bin .leq (.t 14) (.t 16), some (13, true)⟩, ⟨some 18, .pick (.t 13) (.t 17) (.c (.bool false)), none⟩] [18, 6, 5, 4, 0])
 (.cond (.t 18) (.seq (.region [⟨some 19, .fa 2 (.t 4), none⟩, ⟨some 20, .ld false 1 (.t 19), none⟩, ⟨some 2, .mv (.t 20), none⟩] [2])
 (.ret))
 (.region [] [6, 5, 0]))))))
 (.region [⟨some 21, .bin .add (.t 6) (.c (.int .i64 1)), none⟩, ⟨some 6, .mv (.t 21), none⟩] [6, 5, 0])))))))
 (.seq (.region [⟨some 2, .mv (.c (.int .i64 0)), none⟩] [2])
 (.ret)))
theorem C_token_what : Codes Go.Proofs.Tryd.prog F_token_what S_token_what 22 [2] := ⟨Go.Proofs.Tryd.f32, Go.Proofs.Tryd.f32.body.getD .skip, Go.Proofs.Tryd.func32, by kernel_rfl, by kernel_rfl, by kernel_rfl, by kernel_rfl, by kernel_rfl⟩
def F_token_one : FuncId := 33
def S_token_one_j1 : SC :=
 .cond (.t 12) (.seq (.region [⟨some 15, .mv (.t 0), none⟩, ⟨some 16, .mv (.t 1), none⟩, ⟨some 17, .call 51 [.t 15, .t 16, .c (.int .i64 0), .c (.int .i64 1)], none⟩, ⟨some 18, .ext (.t 17) 0, none⟩, ⟨some 19, .ext (.t 17) 1, none⟩, ⟨some 4, .mv (.t 18), none⟩, ⟨some 5, .mv (.t 19), none⟩] [5, 4])
 (.ret))
 (.seq (.region [⟨some 21, .bin .eql (.t 11) (.c (.int .i64 3)), none⟩, ⟨some 20, .mv (.t 21), none⟩] [20, 11, 1, 0])
 (.cond (.t 20) (.seq (.region [⟨some 22, .mv (.t 0), none⟩, ⟨some 23, .mv (.t 1), none⟩, ⟨some 24, .call 51 [.t 22, .t 23, .c (.int .i64 0), .c (.int .i64 2)], none⟩, ⟨some 25, .ext (.t 24) 0, none⟩, ⟨some 26, .ext (.t 24) 1, none⟩, ⟨some 4, .mv (.t 25), none⟩, ⟨some 5, .mv (.t 26), none⟩] [5, 4])
 (.ret))
 (.seq (.region [⟨some 28, .bin .eql (.t 11) (.c (.int .i64 5)), none⟩, ⟨some 27, .mv (.t 28), none⟩] [27, 1, 0])
 (.cond (.t 27) (.seq (.region [⟨some 29, .mv (.t 0), none⟩, ⟨some 30, .mv (.t 1), none⟩, ⟨some 31, .call 52 [.t 29, .t 30], none⟩, ⟨some 32, .ext (.t 31) 0, none⟩, ⟨some 33, .ext (.t 31) 1, none⟩, ⟨some 4, .mv (.t 32), none⟩, ⟨some 5, .mv (.t 33), none⟩] [5, 4])
 (.ret))
 (.region [] [1, 0])))))
/-- gauge / token.one -/
def S_token_one : SC :=
 .seq (.region [⟨some 4, .mv (.c (.int .i64 0)), none⟩, ⟨some 5, .mv (.c (.int .i64 0)), none⟩] [1, 0])
 (.seq (.seq (.region [⟨some 8, .mv (.t 0), none⟩, ⟨some 9, .mv (.t 1), none⟩, ⟨some 10, .idxs (.t 8) (.t 9), none⟩, ⟨some 11, .call 32 [.t 10], none⟩] [11, 1, 0])
 (.block 0 [1, 0] (.seq (.seq (.region [⟨some 13, .bin .eql (.t 11) (.c (.int .i64 2)), none⟩, ⟨some 12, .mv (.t 13), none⟩] [12, 11, 1, 0])
 (.cond (.t 12) (.region [] [12, 11, 1, 0])
 (.region [⟨some 14, .bin .eql (.t 11) (.c (.int .i64 4)), none⟩, ⟨some 12, .mv (.t 14), none⟩] [12, 11, 1, 0])))
 (.seq .says S_token_one_j1))))
 (.seq (.seq (.region [⟨some 34, .mv (.t 0), none⟩, ⟨some 35, .mv (.t 1), none⟩, ⟨some 36, .idxs (.t 34) (.t 35), none⟩, ⟨some 37, .call 53 [.c (.string ⟨#[39, 35, 63]⟩), .t 36], none⟩, ⟨some 6, .mv (.t 37), none⟩] [6, 1, 0])
 (.seq (.region [⟨some 38, .mv (.t 6), none⟩, ⟨some 39, .bin .geq (.t 38) (.c (.int .i64 0)), none⟩, ⟨some 40, .mv (.t 39), none⟩, ⟨some 41, .mv (.t 1), some (40, true)⟩, ⟨some 42, .bin .add (.t 41) (.c (.int .i64 1)), some (40, true)⟩, ⟨some 43, .mv (.t 0), some (40, true)⟩, ⟨some 44, .lens (.t 43), some (40, true)⟩, ⟨some 45, .bin .lss (.t 42) (.t 44), some (40, true)⟩, ⟨some 46, .pick (.t 40) (.t 45) (.c (.bool false)), none⟩, ⟨some 47, .mv (.t 46), none⟩, ⟨some 48, .mv (.t 0), some (47, true)⟩, ⟨some 49, .mv (.t 1), some (47, true)⟩, ⟨some 50, .bin .add (.t 49) (.c (.int .i64 1)), some (47, true)⟩, ⟨some 51, .idxs (.t 48) (.t 50), some (47, true)⟩, ⟨some 52, .call 32 [.t 51], some (47, true)⟩, ⟨some 53, .bin .eql (.t 52) (.c (.int .i64 2)), some (47, true)⟩, ⟨some 54, .pick (.t 47) (.t 53) (.c (.bool false)), none⟩] [54, 6, 1, 0])
 (.cond (.t 54) (.seq (.region [⟨some 55, .mv (.t 0), none⟩, ⟨some 56, .mv (.t 1), none⟩, ⟨some 57, .build [.int .i64 0, .int .i64 0, .int .i64 0] [(0, 1, .c (.int .i64 3)), (1, 1, .c (.int .i64 4)), (2, 1, .c (.int .i64 5))], none⟩, ⟨some 58, .mv (.t 6), none⟩, ⟨some 59, .idx false 3 1 (.t 57) (.t 58), none⟩, ⟨some 60, .call 51 [.t 55, .t 56, .c (.int .i64 1), .t 59], none⟩, ⟨some 61, .ext (.t 60) 0, none⟩, ⟨some 62, .ext (.t 60) 1, none⟩, ⟨some 4, .mv (.t 61), none⟩, ⟨some 5, .mv (.t 62), none⟩] [5, 4])
 (.ret))
 (.region [] [1, 0]))))
 (.seq (.seq (.region [⟨some 63, .mv (.t 0), none⟩, ⟨some 64, .mv (.t 1), none⟩, ⟨some 65, .sls (.t 63) (some (.t 64)) none, none⟩, ⟨some 66, .call 54 [.t 65], none⟩, ⟨some 7, .mv (.t 66), none⟩] [7, 1])
 (.seq (.region [⟨some 67, .mv (.t 7), none⟩, ⟨some 68, .bin .gtr (.t 67) (.c (.int .i64 0)), none⟩] [68, 7, 1])
 (.cond (.t 68) (.seq (.region [⟨some 69, .mv (.t 1), none⟩, ⟨some 70, .mv (.t 7), none⟩, ⟨some 71, .bin .add (.t 69) (.t 70), none⟩, ⟨some 4, .mv (.c (.int .i64 8)), none⟩, ⟨some 5, .mv (.t 71), none⟩] [5, 4])
 (.ret))
 (.region [] [1]))))
 (.seq (.region [⟨some 72, .mv (.t 1), none⟩, ⟨some 73, .bin .add (.t 72) (.c (.int .i64 1)), none⟩, ⟨some 4, .mv (.c (.int .i64 9)), none⟩, ⟨some 5, .mv (.t 73), none⟩] [5, 4])
 (.ret)))))
theorem C_token_one : Codes Go.Proofs.Tryd.prog F_token_one S_token_one 74 [4, 5] := ⟨Go.Proofs.Tryd.f33, Go.Proofs.Tryd.f33.body.getD .skip, Go.Proofs.Tryd.func33, by kernel_rfl, by kernel_rfl, by kernel_rfl, by kernel_rfl, by kernel_rfl⟩
def F_gaugeref8_one : FuncId := 34
/-- gauge / gaugeref8.one -/
def S_gaugeref8_one : SC :=
 .seq (.region [⟨some 4, .mv (.c (.int .i64 0)), none⟩, ⟨some 5, .mv (.c (.int .i64 0)), none⟩] [1, 0])
 (.seq (.region [⟨some 10, .mv (.t 0), none⟩, ⟨some 11, .mv (.t 1), none⟩, ⟨some 12, .idxs (.t 10) (.t 11), none⟩, ⟨some 6, .mv (.t 12), none⟩] [6, 1, 0])
 (.seq (.region [⟨some 13, .mv (.t 1), none⟩, ⟨some 14, .bin .add (.t 13) (.c (.int .i64 1)), none⟩, ⟨some 15, .mv (.t 0), none⟩, ⟨some 16, .lens (.t 15), none⟩, ⟨some 17, .bin .lss (.t 14) (.t 16), none⟩, ⟨some 18, .mv (.t 17), none⟩, ⟨some 19, .mv (.t 0), some (18, true)⟩, ⟨some 20, .mv (.t 1), some (18, true)⟩, ⟨some 21, .bin .add (.t 20) (.c (.int .i64 1)), some (18, true)⟩, ⟨some 22, .idxs (.t 19) (.t 21), some (18, true)⟩, ⟨some 23, .call 55 [.t 22], some (18, true)⟩, ⟨some 24, .pick (.t 18) (.t 23) (.c (.bool false)), none⟩, ⟨some 7, .mv (.t 24), none⟩] [7, 6, 1, 0])
 (.seq (.block 0 [1, 0] (.seq (.region [⟨some 26, .mv (.t 6), none⟩, ⟨some 27, .call 55 [.t 26], none⟩, ⟨some 28, .mv (.t 27), none⟩, ⟨some 29, .mv (.t 6), some (28, false)⟩, ⟨some 30, .bin .eql (.t 29) (.c (.int .u8 95)), some (28, false)⟩, ⟨some 31, .pick (.t 28) (.c (.bool true)) (.t 30), none⟩, ⟨some 25, .mv (.t 31), none⟩] [25, 7, 6, 1, 0])
 (.cond (.t 25) (.seq (.region [⟨some 32, .mv (.t 0), none⟩, ⟨some 33, .mv (.t 1), none⟩, ⟨some 34, .call 56 [.c (.int .i64 1), .t 32, .t 33, .c (.int .i64 0)], none⟩, ⟨some 35, .ext (.t 34) 0, none⟩, ⟨some 36, .ext (.t 34) 1, none⟩, ⟨some 4, .mv (.t 35), none⟩, ⟨some 5, .mv (.t 36), none⟩] [5, 4])
 (.ret))
 (.seq (.region [⟨some 38, .mv (.t 6), none⟩, ⟨some 39, .call 57 [.t 38], none⟩, ⟨some 37, .mv (.t 39), none⟩] [37, 7, 6, 1, 0])
 (.cond (.t 37) (.seq (.region [⟨some 40, .mv (.t 0), none⟩, ⟨some 41, .mv (.t 1), none⟩, ⟨some 42, .call 56 [.c (.int .i64 2), .t 40, .t 41, .c (.int .i64 0)], none⟩, ⟨some 43, .ext (.t 42) 0, none⟩, ⟨some 44, .ext (.t 42) 1, none⟩, ⟨some 4, .mv (.t 43), none⟩, ⟨some 5, .mv (.t 44), none⟩] [5, 4])
 (.ret))
 (.seq (.region [⟨some 46, .mv (.t 6), none⟩, ⟨some 47, .call 58 [.t 46], none⟩, ⟨some 45, .mv (.t 47), none⟩] [45, 7, 6, 1, 0])
 (.cond (.t 45) (.seq (.region [⟨some 48, .mv (.t 0), none⟩, ⟨some 49, .mv (.t 1), none⟩, ⟨some 50, .call 59 [.t 48, .t 49], none⟩, ⟨some 51, .ext (.t 50) 0, none⟩, ⟨some 52, .ext (.t 50) 1, none⟩, ⟨some 4, .mv (.t 51), none⟩, ⟨some 5, .mv (.t 52), none⟩] [5, 4])
 (.ret))
 (.seq (.region [⟨some 54, .mv (.t 6), none⟩, ⟨some 55, .bin .eql (.t 54) (.c (.int .u8 39)), none⟩, ⟨some 56, .mv (.t 55), none⟩, ⟨some 57, .mv (.t 7), some (56, true)⟩, ⟨some 58, .pick (.t 56) (.t 57) (.c (.bool false)), none⟩, ⟨some 53, .mv (.t 58), none⟩] [53, 7, 6, 1, 0])
 (.cond (.t 53) (.seq (.region [⟨some 59, .mv (.t 0), none⟩, ⟨some 60, .mv (.t 1), none⟩, ⟨some 61, .call 56 [.c (.int .i64 3), .t 59, .t 60, .c (.int .i64 1)], none⟩, ⟨some 62, .ext (.t 61) 0, none⟩, ⟨some 63, .ext (.t 61) 1, none⟩, ⟨some 4, .mv (.t 62), none⟩, ⟨some 5, .mv (.t 63), none⟩] [5, 4])
 (.ret))
 (.seq (.region [⟨some 65, .mv (.t 6), none⟩, ⟨some 66, .bin .eql (.t 65) (.c (.int .u8 35)), none⟩, ⟨some 67, .mv (.t 66), none⟩, ⟨some 68, .mv (.t 7), some (67, true)⟩, ⟨some 69, .pick (.t 67) (.t 68) (.c (.bool false)), none⟩, ⟨some 64, .mv (.t 69), none⟩] [64, 7, 6, 1, 0])
 (.cond (.t 64) (.seq (.region [⟨some 70, .mv (.t 0), none⟩, ⟨some 71, .mv (.t 1), none⟩, ⟨some 72, .call 56 [.c (.int .i64 4), .t 70, .t 71, .c (.int .i64 1)], none⟩, ⟨some 73, .ext (.t 72) 0, none⟩, ⟨some 74, .ext (.t 72) 1, none⟩, ⟨some 4, .mv (.t 73), none⟩, ⟨some 5, .mv (.t 74), none⟩] [5, 4])
 (.ret))
 (.seq (.region [⟨some 76, .mv (.t 6), none⟩, ⟨some 77, .bin .eql (.t 76) (.c (.int .u8 63)), none⟩, ⟨some 78, .mv (.t 77), none⟩, ⟨some 79, .mv (.t 7), some (78, true)⟩, ⟨some 80, .pick (.t 78) (.t 79) (.c (.bool false)), none⟩, ⟨some 75, .mv (.t 80), none⟩] [75, 1, 0])
 (.cond (.t 75) (.seq (.region [⟨some 81, .mv (.t 0), none⟩, ⟨some 82, .mv (.t 1), none⟩, ⟨some 83, .call 56 [.c (.int .i64 5), .t 81, .t 82, .c (.int .i64 1)], none⟩, ⟨some 84, .ext (.t 83) 0, none⟩, ⟨some 85, .ext (.t 83) 1, none⟩, ⟨some 4, .mv (.t 84), none⟩, ⟨some 5, .mv (.t 85), none⟩] [5, 4])
 (.ret))
 (.region [] [1, 0]))))))))))))))
 (.seq (.region [⟨some 86, .call 60 [], none⟩, ⟨some 8, .mv (.t 86), none⟩] [8, 1, 0])
 (.seq (.seq (.region [⟨some 9, .mv (.c (.int .i64 0)), none⟩] [9, 8, 1, 0])
 (.block 1 [1] (.loop [9, 8, 1, 0] (.seq (.seq (.region [⟨some 87, .mv (.t 9), none⟩, ⟨some 88, .mv (.t 8), none⟩, ⟨some 89, .len (.t 88), none⟩, ⟨some 90, .bin .lss (.t 87) (.t 89), none⟩] [90, 9, 8, 1, 0])
 (.cond (.t 90) (.region [] [9, 8, 1, 0])
 (.exit 1)))
 (.seq (.block 2 [9, 8, 1, 0] (.seq (.region [⟨some 93, .mv (.t 0), none⟩, ⟨some 94, .mv (.t 1), none⟩, ⟨some 95, .mv (.t 8), none⟩, ⟨some 96, .mv (.t 9), none⟩, ⟨some 97, .ix 1 (.t 95) (.t 96), none⟩, ⟨some 98, .ld false 1 (.t 97), none⟩, ⟨some 99, .call 61 [.t 93, .t 94, .t 98], none⟩] [99, 9, 8, 1, 0])
 (.cond (.t 99) (.seq (.drawn [0, 1, 2, 3, 4, 5, 6, 7, 8] [⟨some 100, .mv (.t 1), none⟩, ⟨some 101, .mv (.t 8), none⟩, ⟨some 102, .mv (.t 9), none⟩, ⟨some 103, .ix 1 (.t 101) (.t 102), none⟩, ⟨some 104, .ld false 1 (.t 103), none⟩, ⟨some 105, .lens (.t 104), none⟩, ⟨some 106, .bin .add (.t 100) (.t 105), none⟩, ⟨some 4, .mv (.c (.int .i64 8)), none⟩, ⟨some 5, .mv (.t 106), none⟩] [5, 4])
 (.ret))
 (.region [] [9, 8, 1, 0]))))
 (.region [⟨some 91, .mv (.t 9), none⟩, ⟨some 92, .bin .add (.t 91) (.c (.int .i64 1)), none⟩, ⟨some 9, .mv (.t 92), none⟩] [9, 8, 1, 0]))))))
 (.seq (.region [⟨some 107, .mv (.t 1), none⟩, ⟨some 108, .bin .add (.t 107) (.c (.int .i64 1)), none⟩, ⟨some 4, .mv (.c (.int .i64 9)), none⟩, ⟨some 5, .mv (.t 108), none⟩] [5, 4])
 (.ret)))))))
theorem C_gaugeref8_one : Codes Go.Proofs.Tryd.prog F_gaugeref8_one S_gaugeref8_one 109 [4, 5] := ⟨Go.Proofs.Tryd.f34, Go.Proofs.Tryd.f34.body.getD .skip, Go.Proofs.Tryd.func34, by kernel_rfl, by kernel_rfl, by kernel_rfl, by kernel_rfl, by kernel_rfl⟩
def F_token_named : FuncId := 51
def S_token_named_j1 : SC :=
 .seq (.region [⟨some 22, .mv (.t 3), none⟩, ⟨some 23, .mv (.t 10), none⟩, ⟨some 8, .mv (.t 22), none⟩, ⟨some 9, .mv (.t 23), none⟩] [9, 8])
 (.ret)
/-- gauge / token.named -/
def S_token_named : SC :=
 .seq (.region [⟨some 8, .mv (.c (.int .i64 0)), none⟩, ⟨some 9, .mv (.c (.int .i64 0)), none⟩] [3, 2, 1, 0])
 (.seq (.region [⟨some 11, .mv (.t 0), none⟩, ⟨some 12, .mv (.t 1), none⟩, ⟨some 13, .mv (.t 2), none⟩, ⟨some 14, .bin .add (.t 12) (.t 13), none⟩, ⟨some 15, .call 80 [.t 11, .t 14, .c (.bool false)], none⟩, ⟨some 10, .mv (.t 15), none⟩] [10, 3, 2, 1])
 (.seq (.seq (.region [⟨some 16, .mv (.t 10), none⟩, ⟨some 17, .mv (.t 1), none⟩, ⟨some 18, .bin .sub (.t 16) (.t 17), none⟩, ⟨some 19, .mv (.t 2), none⟩, ⟨some 20, .bin .sub (.t 18) (.t 19), none⟩, ⟨some 21, .bin .gtr (.t 20) (.c (.int .i64 32)), none⟩] [21, 10, 3])
 (.cond (.t 21) (.region [⟨some 3, .mv (.c (.int .i64 9)), none⟩] [10, 3])
 (.region [] [10, 3])))
 (.seq .says S_token_named_j1)))
theorem C_token_named : Codes Go.Proofs.Tryd.prog F_token_named S_token_named 24 [8, 9] := ⟨Go.Proofs.Tryd.f51, Go.Proofs.Tryd.f51.body.getD .skip, Go.Proofs.Tryd.func51, by kernel_rfl, by kernel_rfl, by kernel_rfl, by kernel_rfl, by kernel_rfl⟩
def F_token_number : FuncId := 52
def S_token_number_j2 : SC :=
 .seq (.region [⟨some 54, .mv (.t 6), none⟩, ⟨some 55, .mv (.t 7), none⟩, ⟨some 4, .mv (.t 54), none⟩, ⟨some 5, .mv (.t 55), none⟩] [5, 4])
 (.ret)
def S_token_number_j1 : SC :=
 .seq (.seq (.region [⟨some 34, .mv (.t 7), none⟩, ⟨some 35, .mv (.t 1), none⟩, ⟨some 36, .bin .sub (.t 34) (.t 35), none⟩, ⟨some 37, .bin .gtr (.t 36) (.c (.int .i64 1024)), none⟩, ⟨some 38, .mv (.t 37), none⟩, ⟨some 39, .mv (.t 6), some (38, false)⟩, ⟨some 40, .bin .eql (.t 39) (.c (.int .i64 6)), some (38, false)⟩, ⟨some 41, .mv (.t 40), some (38, false)⟩, ⟨some 42, .mv (.t 7), some (41, true)⟩, ⟨some 43, .mv (.t 1), some (41, true)⟩, ⟨some 44, .bin .sub (.t 42) (.t 43), some (41, true)⟩, ⟨some 45, .bin .gtr (.t 44) (.c (.int .i64 1)), some (41, true)⟩, ⟨some 46, .pick (.t 41) (.t 45) (.c (.bool false)), some (38, false)⟩, ⟨some 47, .mv (.t 46), some (38, false)⟩, ⟨some 48, .mv (.t 0), some (47, true)⟩, ⟨some 49, .mv (.t 1), some (47, true)⟩, ⟨some 50, .idxs (.t 48) (.t 49), some (47, true)⟩, ⟨some 51, .bin .eql (.t 50) (.c (.int .u8 48)), some (47, true)⟩, ⟨some 52, .pick (.t 47) (.t 51) (.c (.bool false)), some (38, false)⟩, ⟨some 53, .pick (.t 38) (.c (.bool true)) (.t 52), none⟩] [53, 7, 6])
 (.cond (.t 53) (.region [⟨some 6, .mv (.c (.int .i64 9)), none⟩] [7, 6])
 (.region [] [7, 6])))
 (.seq .says S_token_number_j2)
/-- gauge / token.number -/
def S_token_number : SC :=
 .seq (.region [⟨some 4, .mv (.c (.int .i64 0)), none⟩, ⟨some 5, .mv (.c (.int .i64 0)), none⟩] [1, 0])
 (.seq (.region [⟨some 8, .mv (.t 0), none⟩, ⟨some 9, .mv (.t 1), none⟩, ⟨some 10, .call 80 [.t 8, .t 9, .c (.bool true)], none⟩, ⟨some 6, .mv (.c (.int .i64 6)), none⟩, ⟨some 7, .mv (.t 10), none⟩] [7, 6, 1, 0])
 (.seq (.seq (.region [⟨some 11, .mv (.t 7), none⟩, ⟨some 12, .bin .add (.t 11) (.c (.int .i64 1)), none⟩, ⟨some 13, .mv (.t 0), none⟩, ⟨some 14, .lens (.t 13), none⟩, ⟨some 15, .bin .lss (.t 12) (.t 14), none⟩, ⟨some 16, .mv (.t 15), none⟩, ⟨some 17, .mv (.t 0), some (16, true)⟩, ⟨some 18, .mv (.t 7), some (16, true)⟩, ⟨some 19, .idxs (.t 17) (.t 18), some (16, true)⟩, ⟨some 20, .bin .eql (.t 19) (.c (.int .u8 46)), some (16, true)⟩, ⟨some 21, .pick (.t 16) (.t 20) (.c (.bool false)), none⟩, ⟨some 22, .mv (.t 21), none⟩, ⟨some 23, .mv (.t 0), some (22, true)⟩, ⟨some 24, .mv (.t 7), some (22, true)⟩, ⟨some 25, .bin .add (.t 24) (.c (.int .i64 1)), some (22, true)⟩, ⟨some 26, .idxs (.t 23) (.t 25), some (22, true)⟩, ⟨some 27, .call 32 [.t 26], some (22, true)⟩, ⟨some 28, .bin .eql (.t 27) (.c (.int .i64 5)), some (22, true)⟩, ⟨some 29, .pick (.t 22) (.t 28) (.c (.bool false)), none⟩] [29, 7, 6, 1, 0])
 (.cond (.t 29) (.region [⟨some 30, .mv (.t 0), none⟩, ⟨some 31, .mv (.t 7), none⟩, ⟨some 32, .bin .add (.t 31) (.c (.int .i64 1)), none⟩, ⟨some 33, .call 80 [.t 30, .t 32, .c (.bool true)], none⟩, ⟨some 6, .mv (.c (.int .i64 7)), none⟩, ⟨some 7, .mv (.t 33), none⟩] [7, 6, 1, 0])
 (.region [] [7, 6, 1, 0])))
 (.seq .says S_token_number_j1)))
theorem C_token_number : Codes Go.Proofs.Tryd.prog F_token_number S_token_number 56 [4, 5] := ⟨Go.Proofs.Tryd.f52, Go.Proofs.Tryd.f52.body.getD .skip, Go.Proofs.Tryd.func52, by kernel_rfl, by kernel_rfl, by kernel_rfl, by kernel_rfl, by kernel_rfl⟩
def F_strings_IndexByte : FuncId := 53
/-- strings.IndexByte -/
def S_strings_IndexByte : SC :=
 .seq (.region [⟨some 4, .mv (.c (.int .i64 0)), none⟩] [1, 0])
 (.seq (.region [⟨some 5, .mv (.t 0), none⟩, ⟨some 6, .mv (.t 1), none⟩, ⟨some 7, .call 81 [.t 5, .t 6], none⟩, ⟨some 4, .mv (.t 7), none⟩] [4])
 (.ret))
theorem C_strings_IndexByte : Codes Go.Proofs.Tryd.prog F_strings_IndexByte S_strings_IndexByte 8 [4] := ⟨Go.Proofs.Tryd.f53, Go.Proofs.Tryd.f53.body.getD .skip, Go.Proofs.Tryd.func53, by kernel_rfl, by kernel_rfl, by kernel_rfl, by kernel_rfl, by kernel_rfl⟩
def F_token_sign : FuncId := 54
def S_token_sign_j2 : SC :=
 .cond (.t 13) (.exit 2)
 (.region [] [10, 3, 0])
def S_token_sign_j3 : SC :=
 .cond (.t 23) (.exit 6)
 (.region [] [])
def S_token_sign_j4 : SC :=
 .seq (.seq (.seq (.region [⟨some 35, .mv (.t 3), none⟩, ⟨some 36, .bin .eql (.t 35) (.c (.int .u8 46)), none⟩] [36])
 (.cond (.t 36) (.seq (.region [⟨some 2, .mv (.c (.int .i64 2)), none⟩] [2])
 (.ret))
 (.region [] [])))
 (.seq (.region [⟨some 2, .mv (.c (.int .i64 1)), none⟩] [2])
 (.ret)))
 (.exit 0)
def S_token_sign_j5 : SC :=
 .seq (.seq (.seq (.region [⟨some 41, .mv (.t 3), none⟩, ⟨some 42, .bin .eql (.t 41) (.c (.int .u8 46)), none⟩] [42])
 (.cond (.t 42) (.seq (.region [⟨some 2, .mv (.c (.int .i64 2)), none⟩] [2])
 (.ret))
 (.region [] [])))
 (.seq (.region [⟨some 2, .mv (.c (.int .i64 1)), none⟩] [2])
 (.ret)))
 (.exit 0)
def S_token_sign_j6 : SC :=
 .seq (.seq (.region [⟨some 2, .mv (.c (.int .i64 1)), none⟩] [2])
 (.ret))
 (.exit 0)
def S_token_sign_j1 : SC :=
 .seq (.seq (.region [⟨some 9, .mv (.t 0), none⟩, ⟨some 10, .idxs (.t 9) (.c (.int .i64 0)), none⟩] [10, 3, 0])
 (.block 0 [] (.seq (.block 6 [] (.seq (.block 5 [3] (.seq (.block 4 [3] (.seq (.block 3 [3, 0] (.seq (.block 2 [3] (.seq (.block 1 [3] (.seq (.seq (.seq (.region [⟨some 12, .bin .eql (.t 10) (.c (.int .u8 45)), none⟩, ⟨some 11, .mv (.t 12), none⟩] [11, 10, 3, 0])
 (.cond (.t 11) (.exit 1)
 (.region [] [10, 3, 0])))
 (.seq (.seq (.seq (.region [⟨some 14, .bin .eql (.t 10) (.c (.int .u8 43)), none⟩, ⟨some 13, .mv (.t 14), none⟩] [13, 10, 3, 0])
 (.cond (.t 13) (.region [] [13, 10, 3, 0])
 (.seq (.region [⟨some 15, .bin .eql (.t 10) (.c (.int .u8 42)), none⟩, ⟨some 13, .mv (.t 15), none⟩] [13, 10, 3, 0])
 (.cond (.t 13) (.region [] [13, 10, 3, 0])
 (.region [⟨some 16, .bin .eql (.t 10) (.c (.int .u8 47)), none⟩, ⟨some 13, .mv (.t 16), none⟩] [13, 10, 3, 0])))))
 (.seq .says S_token_sign_j2))
 (.seq (.seq (.region [⟨some 18, .bin .eql (.t 10) (.c (.int .u8 60)), none⟩, ⟨some 17, .mv (.t 18), none⟩] [17, 10, 3, 0])
 (.cond (.t 17) (.exit 3)
 (.region [] [10, 3])))
 (.seq (.seq (.region [⟨some 20, .bin .eql (.t 10) (.c (.int .u8 61)), none⟩, ⟨some 19, .mv (.t 20), none⟩] [19, 10, 3])
 (.cond (.t 19) (.exit 4)
 (.region [] [10, 3])))
 (.seq (.seq (.region [⟨some 22, .bin .eql (.t 10) (.c (.int .u8 58)), none⟩, ⟨some 21, .mv (.t 22), none⟩] [21, 10, 3])
 (.cond (.t 21) (.exit 5)
 (.region [] [10])))
 (.seq (.seq (.region [⟨some 24, .bin .eql (.t 10) (.c (.int .u8 62)), none⟩, ⟨some 23, .mv (.t 24), none⟩] [23, 10])
 (.cond (.t 23) (.region [] [23])
 (.seq (.region [⟨some 25, .bin .eql (.t 10) (.c (.int .u8 94)), none⟩, ⟨some 23, .mv (.t 25), none⟩] [23, 10])
 (.cond (.t 23) (.region [] [23])
 (.seq (.region [⟨some 26, .bin .eql (.t 10) (.c (.int .u8 40)), none⟩, ⟨some 23, .mv (.t 26), none⟩] [23, 10])
 (.cond (.t 23) (.region [] [23])
 (.seq (.region [⟨some 27, .bin .eql (.t 10) (.c (.int .u8 41)), none⟩, ⟨some 23, .mv (.t 27), none⟩] [23, 10])
 (.cond (.t 23) (.region [] [23])
 (.seq (.region [⟨some 28, .bin .eql (.t 10) (.c (.int .u8 91)), none⟩, ⟨some 23, .mv (.t 28), none⟩] [23, 10])
 (.cond (.t 23) (.region [] [23])
 (.seq (.region [⟨some 29, .bin .eql (.t 10) (.c (.int .u8 93)), none⟩, ⟨some 23, .mv (.t 29), none⟩] [23, 10])
 (.cond (.t 23) (.region [] [23])
 (.seq (.region [⟨some 30, .bin .eql (.t 10) (.c (.int .u8 44)), none⟩, ⟨some 23, .mv (.t 30), none⟩] [23, 10])
 (.cond (.t 23) (.region [] [23])
 (.seq (.region [⟨some 31, .bin .eql (.t 10) (.c (.int .u8 59)), none⟩, ⟨some 23, .mv (.t 31), none⟩] [23, 10])
 (.cond (.t 23) (.region [] [23])
 (.region [⟨some 32, .bin .eql (.t 10) (.c (.int .u8 124)), none⟩, ⟨some 23, .mv (.t 32), none⟩] [23])))))))))))))))))
 (.seq .says S_token_sign_j3)))))))
 (.exit 0)))
 (.seq (.region [⟨some 33, .mv (.t 3), none⟩, ⟨some 34, .bin .eql (.t 33) (.c (.int .u8 62)), none⟩] [34, 3])
 (.cond (.t 34) (.seq (.region [⟨some 2, .mv (.c (.int .i64 2)), none⟩] [2])
 (.ret))
 (.region [] [3])))))
 (.seq .says S_token_sign_j4)))
 (.seq (.seq (.region [⟨some 37, .mv (.t 0), none⟩, ⟨some 38, .call 82 [.t 37, .c (.string ⟨#[60, 61, 46]⟩)], none⟩] [38, 3])
 (.cond (.t 38) (.seq (.region [⟨some 2, .mv (.c (.int .i64 3)), none⟩] [2])
 (.ret))
 (.region [] [3])))
 (.seq (.region [⟨some 39, .mv (.t 3), none⟩, ⟨some 40, .bin .eql (.t 39) (.c (.int .u8 61)), none⟩] [40, 3])
 (.cond (.t 40) (.seq (.region [⟨some 2, .mv (.c (.int .i64 2)), none⟩] [2])
 (.ret))
 (.region [] [3]))))))
 (.seq .says S_token_sign_j5)))
 (.seq (.region [⟨some 43, .mv (.t 3), none⟩, ⟨some 44, .bin .eql (.t 43) (.c (.int .u8 58)), none⟩] [44])
 (.cond (.t 44) (.seq (.region [⟨some 2, .mv (.c (.int .i64 2)), none⟩] [2])
 (.ret))
 (.region [] [])))))
 (.seq .says S_token_sign_j6))))
 (.seq (.region [⟨some 2, .mv (.c (.int .i64 0)), none⟩] [2])
 (.ret))
/-- gauge / token.sign -/
def S_token_sign : SC :=
 .seq (.region [⟨some 2, .mv (.c (.int .i64 0)), none⟩] [0])
 (.seq (.region [⟨some 3, .mv (.c (.int .u8 0)), none⟩] [3, 0])
 (.seq (.seq (.region [⟨some 4, .mv (.t 0), none⟩, ⟨some 5, .lens (.t 4), none⟩, ⟨some 6, .bin .gtr (.t 5) (.c (.int .i64 1)), none⟩] [6, 3, 0])
 (.cond (.t 6) (.region [⟨some 7, .mv (.t 0), none⟩, ⟨some 8, .idxs (.t 7) (.c (.int .i64 1)), none⟩, ⟨some 3, .mv (.t 8), none⟩] [3, 0])
 (.region [] [3, 0])))
 (.seq .says S_token_sign_j1)))
theorem C_token_sign : Codes Go.Proofs.Tryd.prog F_token_sign S_token_sign 45 [2] := ⟨Go.Proofs.Tryd.f54, Go.Proofs.Tryd.f54.body.getD .skip, Go.Proofs.Tryd.func54, by kernel_rfl, by kernel_rfl, by kernel_rfl, by kernel_rfl, by kernel_rfl⟩
def F_gaugeref8_name : FuncId := 56
/-- gauge / gaugeref8.name -/
def S_gaugeref8_name : SC :=
 .seq (.region [⟨some 8, .mv (.c (.int .i64 0)), none⟩, ⟨some 9, .mv (.c (.int .i64 0)), none⟩] [3, 2, 1, 0])
 (.seq (.region [⟨some 11, .mv (.t 1), none⟩, ⟨some 12, .mv (.t 2), none⟩, ⟨some 13, .mv (.t 3), none⟩, ⟨some 14, .bin .add (.t 12) (.t 13), none⟩, ⟨some 15, .call 83 [.t 11, .t 14], none⟩, ⟨some 10, .mv (.t 15), none⟩] [10, 3, 2, 0])
 (.seq (.seq (.region [⟨some 16, .mv (.t 10), none⟩, ⟨some 17, .mv (.t 2), none⟩, ⟨some 18, .bin .sub (.t 16) (.t 17), none⟩, ⟨some 19, .mv (.t 3), none⟩, ⟨some 20, .bin .sub (.t 18) (.t 19), none⟩, ⟨some 21, .bin .gtr (.t 20) (.c (.int .i64 32)), none⟩] [21, 10, 0])
 (.cond (.t 21) (.seq (.region [⟨some 22, .mv (.t 10), none⟩, ⟨some 8, .mv (.c (.int .i64 9)), none⟩, ⟨some 9, .mv (.t 22), none⟩] [9, 8])
 (.ret))
 (.region [] [10, 0])))
 (.seq (.region [⟨some 23, .mv (.t 0), none⟩, ⟨some 24, .mv (.t 10), none⟩, ⟨some 8, .mv (.t 23), none⟩, ⟨some 9, .mv (.t 24), none⟩] [9, 8])
 (.ret))))
theorem C_gaugeref8_name : Codes Go.Proofs.Tryd.prog F_gaugeref8_name S_gaugeref8_name 25 [8, 9] := ⟨Go.Proofs.Tryd.f56, Go.Proofs.Tryd.f56.body.getD .skip, Go.Proofs.Tryd.func56, by kernel_rfl, by kernel_rfl, by kernel_rfl, by kernel_rfl, by kernel_rfl⟩
def F_gaugeref8_number : FuncId := 59
def S_gaugeref8_number_j2 : SC :=
 .seq (.region [⟨some 53, .mv (.t 7), none⟩, ⟨some 54, .mv (.t 6), none⟩, ⟨some 4, .mv (.t 53), none⟩, ⟨some 5, .mv (.t 54), none⟩] [5, 4])
 (.ret)
def S_gaugeref8_number_j1 : SC :=
 .seq (.seq (.region [⟨some 33, .mv (.t 6), none⟩, ⟨some 34, .mv (.t 1), none⟩, ⟨some 35, .bin .sub (.t 33) (.t 34), none⟩, ⟨some 36, .bin .gtr (.t 35) (.c (.int .i64 1024)), none⟩, ⟨some 37, .mv (.t 36), none⟩, ⟨some 38, .mv (.t 7), some (37, false)⟩, ⟨some 39, .bin .eql (.t 38) (.c (.int .i64 6)), some (37, false)⟩, ⟨some 40, .mv (.t 39), some (37, false)⟩, ⟨some 41, .mv (.t 0), some (40, true)⟩, ⟨some 42, .mv (.t 1), some (40, true)⟩, ⟨some 43, .idxs (.t 41) (.t 42), some (40, true)⟩, ⟨some 44, .bin .eql (.t 43) (.c (.int .u8 48)), some (40, true)⟩, ⟨some 45, .pick (.t 40) (.t 44) (.c (.bool false)), some (37, false)⟩, ⟨some 46, .mv (.t 45), some (37, false)⟩, ⟨some 47, .mv (.t 6), some (46, true)⟩, ⟨some 48, .mv (.t 1), some (46, true)⟩, ⟨some 49, .bin .sub (.t 47) (.t 48), some (46, true)⟩, ⟨some 50, .bin .gtr (.t 49) (.c (.int .i64 1)), some (46, true)⟩, ⟨some 51, .pick (.t 46) (.t 50) (.c (.bool false)), some (37, false)⟩, ⟨some 52, .pick (.t 37) (.c (.bool true)) (.t 51), none⟩] [52, 7, 6])
 (.cond (.t 52) (.region [⟨some 7, .mv (.c (.int .i64 9)), none⟩] [7, 6])
 (.region [] [7, 6])))
 (.seq .says S_gaugeref8_number_j2)
/-- gauge / gaugeref8.number -/
def S_gaugeref8_number : SC :=
 .seq (.region [⟨some 4, .mv (.c (.int .i64 0)), none⟩, ⟨some 5, .mv (.c (.int .i64 0)), none⟩] [1, 0])
 (.seq (.region [⟨some 8, .mv (.t 0), none⟩, ⟨some 9, .mv (.t 1), none⟩, ⟨some 10, .call 84 [.t 8, .t 9], none⟩, ⟨some 6, .mv (.t 10), none⟩] [6, 1, 0])
 (.seq (.region [⟨some 7, .mv (.c (.int .i64 6)), none⟩] [7, 6, 1, 0])
 (.seq (.seq (.region [⟨some 11, .mv (.t 6), none⟩, ⟨some 12, .bin .add (.t 11) (.c (.int .i64 1)), none⟩, ⟨some 13, .mv (.t 0), none⟩, ⟨some 14, .lens (.t 13), none⟩, ⟨some 15, .bin .lss (.t 12) (.t 14), none⟩, ⟨some 16, .mv (.t 15), none⟩, ⟨some 17, .mv (.t 0), some (16, true)⟩, ⟨some 18, .mv (.t 6), some (16, true)⟩, ⟨some 19, .idxs (.t 17) (.t 18), some (16, true)⟩, ⟨some 20, .bin .eql (.t 19) (.c (.int .u8 46)), some (16, true)⟩, ⟨some 21, .pick (.t 16) (.t 20) (.c (.bool false)), none⟩, ⟨some 22, .mv (.t 21), none⟩, ⟨some 23, .mv (.t 0), some (22, true)⟩, ⟨some 24, .mv (.t 6), some (22, true)⟩, ⟨some 25, .bin .add (.t 24) (.c (.int .i64 1)), some (22, true)⟩, ⟨some 26, .idxs (.t 23) (.t 25), some (22, true)⟩, ⟨some 27, .call 58 [.t 26], some (22, true)⟩, ⟨some 28, .pick (.t 22) (.t 27) (.c (.bool false)), none⟩] [28, 7, 6, 1, 0])
 (.cond (.t 28) (.seq (.region [⟨some 29, .mv (.t 0), none⟩, ⟨some 30, .mv (.t 6), none⟩, ⟨some 31, .bin .add (.t 30) (.c (.int .i64 1)), none⟩, ⟨some 32, .call 84 [.t 29, .t 31], none⟩, ⟨some 6, .mv (.t 32), none⟩] [6, 1, 0])
 (.region [⟨some 7, .mv (.c (.int .i64 7)), none⟩] [7, 6, 1, 0]))
 (.region [] [7, 6, 1, 0])))
 (.seq .says S_gaugeref8_number_j1))))
theorem C_gaugeref8_number : Codes Go.Proofs.Tryd.prog F_gaugeref8_number S_gaugeref8_number 55 [4, 5] := ⟨Go.Proofs.Tryd.f59, Go.Proofs.Tryd.f59.body.getD .skip, Go.Proofs.Tryd.func59, by kernel_rfl, by kernel_rfl, by kernel_rfl, by kernel_rfl, by kernel_rfl⟩
def F_gaugeref8_signs : FuncId := 60
/-- gauge / gaugeref8.signs -/
def S_gaugeref8_signs : SC :=
 .seq (.region [⟨some 0, .mv (.c (.slice none 0 0)), none⟩] [])
 (.seq (.region [⟨some 1, .bsl false 1 26 [.string ⟨#[]⟩] [(0, .c (.string ⟨#[60, 61, 46]⟩)), (1, .c (.string ⟨#[45, 62]⟩)), (2, .c (.string ⟨#[58, 58]⟩)), (3, .c (.string ⟨#[43, 46]⟩)), (4, .c (.string ⟨#[45, 46]⟩)), (5, .c (.string ⟨#[42, 46]⟩)), (6, .c (.string ⟨#[47, 46]⟩)), (7, .c (.string ⟨#[60, 46]⟩)), (8, .c (.string ⟨#[61, 46]⟩)), (9, .c (.string ⟨#[60, 61]⟩)), (10, .c (.string ⟨#[60]⟩)), (11, .c (.string ⟨#[62]⟩)), (12, .c (.string ⟨#[61]⟩)), (13, .c (.string ⟨#[43]⟩)), (14, .c (.string ⟨#[45]⟩)), (15, .c (.string ⟨#[42]⟩)), (16, .c (.string ⟨#[47]⟩)), (17, .c (.string ⟨#[94]⟩)), (18, .c (.string ⟨#[40]⟩)), (19, .c (.string ⟨#[41]⟩)), (20, .c (.string ⟨#[91]⟩)), (21, .c (.string ⟨#[93]⟩)), (22, .c (.string ⟨#[44]⟩)), (23, .c (.string ⟨#[59]⟩)), (24, .c (.string ⟨#[58]⟩)), (25, .c (.string ⟨#[124]⟩))], none⟩, ⟨some 0, .mv (.t 1), none⟩] [0])
 (.ret))
theorem C_gaugeref8_signs : Codes Go.Proofs.Tryd.prog F_gaugeref8_signs S_gaugeref8_signs 2 [0] := ⟨Go.Proofs.Tryd.f60, Go.Proofs.Tryd.f60.body.getD .skip, Go.Proofs.Tryd.func60, by kernel_rfl, by kernel_rfl, by kernel_rfl, by kernel_rfl, by kernel_rfl⟩
def F_gaugeref8_begins : FuncId := 61
/-- gauge / gaugeref8.begins -/
def S_gaugeref8_begins : SC :=
 .seq (.region [⟨some 6, .mv (.c (.bool false)), none⟩] [2, 1, 0])
 (.seq (.region [⟨some 7, .mv (.t 0), none⟩, ⟨some 8, .lens (.t 7), none⟩, ⟨some 9, .mv (.t 1), none⟩, ⟨some 10, .bin .sub (.t 8) (.t 9), none⟩, ⟨some 11, .mv (.t 2), none⟩, ⟨some 12, .lens (.t 11), none⟩, ⟨some 13, .bin .geq (.t 10) (.t 12), none⟩, ⟨some 14, .mv (.t 13), none⟩, ⟨some 15, .mv (.t 0), some (14, true)⟩, ⟨some 16, .mv (.t 1), some (14, true)⟩, ⟨some 17, .mv (.t 1), some (14, true)⟩, ⟨some 18, .mv (.t 2), some (14, true)⟩, ⟨some 19, .lens (.t 18), some (14, true)⟩, ⟨some 20, .bin .add (.t 17) (.t 19), some (14, true)⟩, ⟨some 21, .sls (.t 15) (some (.t 16)) (some (.t 20)), some (14, true)⟩, ⟨some 22, .mv (.t 2), some (14, true)⟩, ⟨some 23, .bin .eql (.t 21) (.t 22), some (14, true)⟩, ⟨some 24, .pick (.t 14) (.t 23) (.c (.bool false)), none⟩, ⟨some 6, .mv (.t 24), none⟩] [6])
 (.ret))
theorem C_gaugeref8_begins : Codes Go.Proofs.Tryd.prog F_gaugeref8_begins S_gaugeref8_begins 25 [6] := ⟨Go.Proofs.Tryd.f61, Go.Proofs.Tryd.f61.body.getD .skip, Go.Proofs.Tryd.func61, by kernel_rfl, by kernel_rfl, by kernel_rfl, by kernel_rfl, by kernel_rfl⟩
def F_token_run : FuncId := 80
def S_token_run_j1 : SC :=
 .seq (.region [⟨some 27, .mv (.t 1), none⟩, ⟨some 6, .mv (.t 27), none⟩] [6])
 (.ret)
/-- gauge / token.run -/
def S_token_run : SC :=
 .seq (.region [⟨some 6, .mv (.c (.int .i64 0)), none⟩] [2, 1, 0])
 (.seq (.block 0 [1] (.loop [2, 1, 0] (.seq (.seq (.region [⟨some 8, .mv (.t 1), none⟩, ⟨some 9, .mv (.t 0), none⟩, ⟨some 10, .lens (.t 9), none⟩, ⟨some 11, .bin .lss (.t 8) (.t 10), none⟩] [11, 2, 1, 0])
 (.cond (.t 11) (.region [] [2, 1, 0])
 (.exit 0)))
 (.block 1 [2, 1, 0] (.seq (.seq (.region [⟨some 12, .mv (.t 0), none⟩, ⟨some 13, .mv (.t 1), none⟩, ⟨some 14, .idxs (.t 12) (.t 13), none⟩, ⟨some 15, .call 32 [.t 14], none⟩, ⟨some 7, .mv (.t 15), none⟩] [7, 2, 1, 0])
 (.seq (.region [⟨some 16, .mv (.t 7), none⟩, ⟨some 17, .bin .lss (.t 16) (.c (.int .i64 2)), none⟩, ⟨some 18, .mv (.t 17), none⟩, ⟨some 19, .mv (.t 2), some (18, false)⟩, ⟨some 20, .mv (.t 19), some (18, false)⟩, ⟨some 21, .mv (.t 7), some (20, true)⟩, ⟨some 22, .bin .neq (.t 21) (.c (.int .i64 5)), some (20, true)⟩, ⟨some 23, .pick (.t 20) (.t 22) (.c (.bool false)), some (18, false)⟩, ⟨some 24, .pick (.t 18) (.c (.bool true)) (.t 23), none⟩] [24, 2, 1, 0])
 (.cond (.t 24) (.exit 0)
 (.region [] [2, 1, 0]))))
 (.region [⟨some 25, .mv (.t 1), none⟩, ⟨some 26, .bin .add (.t 25) (.c (.int .i64 1)), none⟩, ⟨some 1, .mv (.t 26), none⟩] [2, 1, 0]))))))
 (.seq .says S_token_run_j1))
theorem C_token_run : Codes Go.Proofs.Tryd.prog F_token_run S_token_run 28 [6] := ⟨Go.Proofs.Tryd.f80, Go.Proofs.Tryd.f80.body.getD .skip, Go.Proofs.Tryd.func80, by kernel_rfl, by kernel_rfl, by kernel_rfl, by kernel_rfl, by kernel_rfl⟩
def F_internal_stringslite_IndexByte : FuncId := 81
/-- internal / stringslite.IndexByte -/
def S_internal_stringslite_IndexByte : SC :=
 .seq (.region [⟨some 4, .mv (.c (.int .i64 0)), none⟩] [1, 0])
 (.seq (.region [⟨some 5, .mv (.t 0), none⟩, ⟨some 6, .mv (.t 1), none⟩, ⟨some 7, .call 90 [.t 5, .t 6], none⟩, ⟨some 4, .mv (.t 7), none⟩] [4])
 (.ret))
theorem C_internal_stringslite_IndexByte : Codes Go.Proofs.Tryd.prog F_internal_stringslite_IndexByte S_internal_stringslite_IndexByte 8 [4] := ⟨Go.Proofs.Tryd.f81, Go.Proofs.Tryd.f81.body.getD .skip, Go.Proofs.Tryd.func81, by kernel_rfl, by kernel_rfl, by kernel_rfl, by kernel_rfl, by kernel_rfl⟩
def F_strings_HasPrefix : FuncId := 82
/-- strings.HasPrefix -/
def S_strings_HasPrefix : SC :=
 .seq (.region [⟨some 4, .mv (.c (.bool false)), none⟩] [1, 0])
 (.seq (.region [⟨some 5, .mv (.t 0), none⟩, ⟨some 6, .mv (.t 1), none⟩, ⟨some 7, .call 91 [.t 5, .t 6], none⟩, ⟨some 4, .mv (.t 7), none⟩] [4])
 (.ret))
theorem C_strings_HasPrefix : Codes Go.Proofs.Tryd.prog F_strings_HasPrefix S_strings_HasPrefix 8 [4] := ⟨Go.Proofs.Tryd.f82, Go.Proofs.Tryd.f82.body.getD .skip, Go.Proofs.Tryd.func82, by kernel_rfl, by kernel_rfl, by kernel_rfl, by kernel_rfl, by kernel_rfl⟩
def F_gaugeref8_inner : FuncId := 83
/-- gauge / gaugeref8.inner -/
def S_gaugeref8_inner : SC :=
 .seq (.region [⟨some 4, .mv (.c (.int .i64 0)), none⟩] [1, 0])
 (.seq (.block 0 [1] (.loop [1, 0] (.seq (.seq (.region [⟨some 5, .mv (.t 1), none⟩, ⟨some 6, .mv (.t 0), none⟩, ⟨some 7, .lens (.t 6), none⟩, ⟨some 8, .bin .lss (.t 5) (.t 7), none⟩, ⟨some 9, .mv (.t 8), none⟩, ⟨some 10, .mv (.t 0), some (9, true)⟩, ⟨some 11, .mv (.t 1), some (9, true)⟩, ⟨some 12, .idxs (.t 10) (.t 11), some (9, true)⟩, ⟨some 13, .call 92 [.t 12], some (9, true)⟩, ⟨some 14, .pick (.t 9) (.t 13) (.c (.bool false)), none⟩] [14, 1, 0])
 (.cond (.t 14) (.region [] [1, 0])
 (.exit 0)))
 (.block 1 [1, 0] (.region [⟨some 15, .mv (.t 1), none⟩, ⟨some 16, .bin .add (.t 15) (.c (.int .i64 1)), none⟩, ⟨some 1, .mv (.t 16), none⟩] [1, 0])))))
 (.seq (.region [⟨some 17, .mv (.t 1), none⟩, ⟨some 4, .mv (.t 17), none⟩] [4])
 (.ret)))
theorem C_gaugeref8_inner : Codes Go.Proofs.Tryd.prog F_gaugeref8_inner S_gaugeref8_inner 18 [4] := ⟨Go.Proofs.Tryd.f83, Go.Proofs.Tryd.f83.body.getD .skip, Go.Proofs.Tryd.func83, by kernel_rfl, by kernel_rfl, by kernel_rfl, by kernel_rfl, by kernel_rfl⟩
def F_gaugeref8_digits : FuncId := 84
/-- gauge / gaugeref8.digits -/
def S_gaugeref8_digits : SC :=
 .seq (.region [⟨some 4, .mv (.c (.int .i64 0)), none⟩] [1, 0])
 (.seq (.block 0 [1] (.loop [1, 0] (.seq (.seq (.region [⟨some 5, .mv (.t 1), none⟩, ⟨some 6, .mv (.t 0), none⟩, ⟨some 7, .lens (.t 6), none⟩, ⟨some 8, .bin .lss (.t 5) (.t 7), none⟩, ⟨some 9, .mv (.t 8), none⟩, ⟨some 10, .mv (.t 0), some (9, true)⟩, ⟨some 11, .mv (.t 1), some (9, true)⟩, ⟨some 12, .idxs (.t 10) (.t 11), some (9, true)⟩, ⟨some 13, .call 58 [.t 12], some (9, true)⟩, ⟨some 14, .pick (.t 9) (.t 13) (.c (.bool false)), none⟩] [14, 1, 0])
 (.cond (.t 14) (.region [] [1, 0])
 (.exit 0)))
 (.block 1 [1, 0] (.region [⟨some 15, .mv (.t 1), none⟩, ⟨some 16, .bin .add (.t 15) (.c (.int .i64 1)), none⟩, ⟨some 1, .mv (.t 16), none⟩] [1, 0])))))
 (.seq (.region [⟨some 17, .mv (.t 1), none⟩, ⟨some 4, .mv (.t 17), none⟩] [4])
 (.ret)))
theorem C_gaugeref8_digits : Codes Go.Proofs.Tryd.prog F_gaugeref8_digits S_gaugeref8_digits 18 [4] := ⟨Go.Proofs.Tryd.f84, Go.Proofs.Tryd.f84.body.getD .skip, Go.Proofs.Tryd.func84, by kernel_rfl, by kernel_rfl, by kernel_rfl, by kernel_rfl, by kernel_rfl⟩
def F_internal_stringslite_HasPrefix : FuncId := 91
/-- internal / stringslite.HasPrefix -/
def S_internal_stringslite_HasPrefix : SC :=
 .seq (.region [⟨some 4, .mv (.c (.bool false)), none⟩] [1, 0])
 (.seq (.region [⟨some 5, .mv (.t 0), none⟩, ⟨some 6, .lens (.t 5), none⟩, ⟨some 7, .mv (.t 1), none⟩, ⟨some 8, .lens (.t 7), none⟩, ⟨some 9, .bin .geq (.t 6) (.t 8), none⟩, ⟨some 10, .mv (.t 9), none⟩, ⟨some 11, .mv (.t 0), some (10, true)⟩, ⟨some 12, .mv (.t 1), some (10, true)⟩, ⟨some 13, .lens (.t 12), some (10, true)⟩, ⟨some 14, .sls (.t 11) none (some (.t 13)), some (10, true)⟩, ⟨some 15, .mv (.t 1), some (10, true)⟩, ⟨some 16, .bin .eql (.t 14) (.t 15), some (10, true)⟩, ⟨some 17, .pick (.t 10) (.t 16) (.c (.bool false)), none⟩, ⟨some 4, .mv (.t 17), none⟩] [4])
 (.ret))
theorem C_internal_stringslite_HasPrefix : Codes Go.Proofs.Tryd.prog F_internal_stringslite_HasPrefix S_internal_stringslite_HasPrefix 18 [4] := ⟨Go.Proofs.Tryd.f91, Go.Proofs.Tryd.f91.body.getD .skip, Go.Proofs.Tryd.func91, by kernel_rfl, by kernel_rfl, by kernel_rfl, by kernel_rfl, by kernel_rfl⟩
end Go.Proofs.YtijcbocbehcaaaaDoor.Nat
namespace Go.Ab
open Nn
/-- what bytes are: from, to, kind -/
def sp : List (Nat × Nat × Nat) := [(97, 122, 2), (65, 90, 3), (48, 57, 5), (95, 95, 4), (32, 32, 1), (9, 9, 1), (10, 10, 1), (13, 13, 1)]
def spc (s : Nat × Nat × Nat) : List AV := [.w (.int .u8 s.1), .w (.int .u8 s.2.1), .w (.int .i64 s.2.2)]
def whatL : List (Nat × Nat × Nat) → Nat → Nat
  | [], _ => 0
  | s :: l, c => if s.1 ≤ c ∧ c ≤ s.2.1 then s.2.2 else whatL l c
def what (c : Nat) : Nat := whatL sp c
def tgl : Nat → Option (List AV)
  | 0 => some (sp.flatMap spc)
  | _ => none
theorem whatL_drop {l : List (Nat × Nat × Nat)} {k c : Nat} (h : k < l.length) : whatL (l.drop k) c = if (l.getD k (0, 0, 0)).1 ≤ c ∧ c ≤ (l.getD k (0, 0, 0)).2.1 then (l.getD k (0, 0, 0)).2.2 else whatL (l.drop (k + 1)) c := by
  rw [List.drop_eq_getElem_cons h, List.getD_eq_getElem?_getD, List.getElem?_eq_getElem h]
  rfl
end Go.Ab
namespace Go.Proofs.YtijcbocbehcaaaaDoor.Nat
open Go Go.Ab Go.Ab.Nn
set_option linter.unusedVariables false
set_option maxRecDepth 8000
noncomputable abbrev P : Program := Go.Proofs.Tryd.prog
theorem hm : P.follows .mixedOrders = true := by kernel_rfl
variable {σ : Own}

theorem what_spec (c : Nat) : ACalls P tgl F_token_what [.w (.int .u8 c)] σ (fun v σ' => v = .w (.int .i64 (what c)) ∧ σ' = σ) := by
  refine C_token_what.calls hm ?_
  refine ⟨_, rfl, rfl, fun m env σ' => ∃ k : Nat, m = 8 - k ∧ k ≤ 8 ∧ whatL (sp.drop k) c = what c ∧ σ' = σ ∧ env = [(0, .w (.int .u8 c)), (5, .agg (sp.flatMap spc)), (6, .w (.int .i64 k))], Wk.here ⟨8, 0, rfl, by omega, rfl, rfl, rfl⟩, ?_⟩
  rintro m env σ' ⟨k, rfl, hk, hw, rfl, rfl⟩
  refine ⟨fun h => ?_, fun h => ?_⟩
  · have hl : k < 8 := by have := of_decide_eq_true h; omega
    have hl' : k < sp.length := hl
    have hd : ((sp.flatMap spc).drop (k * 3)).take 3 = spc (sp.getD k (0, 0, 0)) := by rw [flat_at (f := spc) (sz := 3) (fun _ => rfl) (0, 0, 0) hl']; rfl
    rw [whatL_drop hl'] at hw
    generalize sp.getD k (0, 0, 0) = s at *
    refine ⟨k, rfl, hl, _, hd, rfl, fun b4 h4 => ⟨_, upd_same _ _ _, Nat.le_refl 3, _, rfl, Wk.frz 4 rfl (upd_same _ _ _) (del_upd2 _ _ h4) h4 ?_⟩⟩
    refine ⟨_, rfl, ⟨fun h1 => ⟨_, rfl, ⟨fun h2 => ?_, fun h2 => ?_⟩⟩, fun h1 => ⟨(fun h => by cases h), fun _ => ?_⟩⟩⟩
    · have h1 : (s.1 : Int) ≤ c := of_decide_eq_true h1
      have h2 : (c : Int) ≤ s.2.1 := of_decide_eq_true h2
      rw [if_pos (by omega)] at hw
      refine ⟨_, rfl, Ret.here ⟨?_, rfl⟩⟩
      rw [hw]
    · have h2 : ¬ (c : Int) ≤ s.2.1 := of_decide_eq_false h2
      rw [if_neg (by omega)] at hw
      exact ⟨(k + 1 : Nat), by rw [wi] <;> omega, Wk.here ⟨8 - (k + 1), by omega, k + 1, rfl, by omega, hw, rfl, rfl⟩⟩
    · have h1 : ¬ (s.1 : Int) ≤ c := of_decide_eq_false h1
      rw [if_neg (by omega)] at hw
      exact ⟨(k + 1 : Nat), by rw [wi] <;> omega, Wk.here ⟨8 - (k + 1), by omega, k + 1, rfl, by omega, hw, rfl, rfl⟩⟩
  · have hl : k = 8 := by have := of_decide_eq_false h; omega
    subst hl
    refine Ret.here ⟨?_, rfl⟩
    rw [← hw]; rfl
end Go.Proofs.YtijcbocbehcaaaaDoor.Nat
namespace Go.Ab
open Nn
/-- a text's bytes -/
def bs (s : ByteArray) : List Nat := s.data.toList.map UInt8.toNat
theorem bs_len (s : ByteArray) : (bs s).length = s.size := by unfold bs; simp
def at0 (l : List Nat) (i : Nat) : Nat := l.getD i 0
theorem bs_at (s : ByteArray) {i : Nat} (h : i < s.size) : ∃ c : UInt8, s.toList[i]? = some c ∧ c.toNat = at0 (bs s) i := by
  have hl : i < s.data.toList.length := by simpa using h
  refine ⟨s.data.toList[i], by rw [ByteArray.toList_eq, List.getElem?_eq_getElem hl], ?_⟩
  unfold at0 bs
  rw [List.getD_eq_getElem?_getD, List.getElem?_map, List.getElem?_eq_getElem hl]; rfl
/-- a byte of a row -/
def inner (dg : Bool) (c : Nat) : Bool := !(decide (what c < 2) || dg && (what c != 5))
def runLen (dg : Bool) : List Nat → Nat
  | [] => 0
  | c :: r => if inner dg c then runLen dg r + 1 else 0
def run (l : List Nat) (a : Nat) (dg : Bool) : Nat := a + runLen dg (l.drop a)
theorem run_end {l : List Nat} {a : Nat} (dg : Bool) (h : l.length ≤ a) : run l a dg = a := by unfold run; rw [List.drop_eq_nil_of_le h]; rfl
theorem run_step {l : List Nat} {a : Nat} (dg : Bool) (h : a < l.length) : run l a dg = if inner dg (at0 l a) then run l (a + 1) dg else a := by
  unfold run
  rw [List.drop_eq_getElem_cons h]
  have e : at0 l a = l[a] := by unfold at0; rw [List.getD_eq_getElem?_getD, List.getElem?_eq_getElem h]; rfl
  rw [e]
  simp only [runLen]
  split <;> omega
theorem runLen_le (dg : Bool) : ∀ l : List Nat, runLen dg l ≤ l.length
  | [] => Nat.le_refl _
  | c :: r => by
    have := runLen_le dg r
    simp only [runLen]
    split
    · simp; omega
    · omega
theorem run_le {l : List Nat} {a : Nat} (dg : Bool) (h : a ≤ l.length) : a ≤ run l a dg ∧ run l a dg ≤ l.length := by
  have := runLen_le dg (l.drop a)
  rw [List.length_drop] at this
  unfold run
  omega
end Go.Ab
namespace Go.Proofs.YtijcbocbehcaaaaDoor.Nat
open Go Go.Ab Go.Ab.Nn
set_option linter.unusedVariables false
set_option maxRecDepth 8000
variable {σ : Own}

theorem run_spec (s : ByteArray) (a : Nat) (dg : Bool) (ha : a ≤ s.size) (hs : s.size < 4611686018427387904) : ACalls P tgl F_token_run [.w (.string s), .w (.int .i64 a), .w (.bool dg)] σ (fun v σ' => v = .w (.int .i64 (run (bs s) a dg)) ∧ σ' = σ) := by
  have hb := bs_len s
  refine C_token_run.calls hm ?_
  refine ⟨fun m env σ' => ∃ k : Nat, m = s.size - k ∧ k ≤ s.size ∧ run (bs s) k dg = run (bs s) a dg ∧ σ' = σ ∧ env = [(0, .w (.string s)), (1, .w (.int .i64 k)), (2, .w (.bool dg))], Wk.here ⟨s.size - a, a, rfl, ha, rfl, rfl, rfl⟩, ?_⟩
  rintro m env σ' ⟨k, rfl, hk, hr, rfl, rfl⟩
  refine ⟨fun h => ?_, fun h => ?_⟩
  · have hl : k < s.size := by have := of_decide_eq_true h; omega
    obtain ⟨c, hc, hcn⟩ := bs_at s hl
    rw [run_step dg (by omega), ← hcn] at hr
    refine ⟨k, rfl, c, hc, CallVC.here (what_spec c.toNat) ?_⟩
    rintro v σ' ⟨rfl, rfl⟩
    refine ⟨fun h1 => ⟨fun h2 => ⟨fun h3 => ?_, fun h3 => ?_⟩, fun h2 => ⟨(fun h => by cases h), fun _ => ?_⟩⟩, fun h1 => ⟨fun _ => ?_, fun h => by cases h⟩⟩
    · have e : inner dg c.toNat = false := by
        unfold inner
        have h3 : what c.toNat ≠ 5 := by simp at h3; omega
        rw [h2, show (what c.toNat != 5) = true from bne_iff_ne.2 h3]
        simp
      rw [if_neg (by rw [e]; decide)] at hr
      exact Wk.here (Ret.here ⟨by rw [← hr], rfl⟩)
    · have e : inner dg c.toNat = true := by
        unfold inner
        have h3 : what c.toNat = 5 := by simp at h3; omega
        rw [h3]
        simp
      rw [if_pos e] at hr
      exact ⟨(k + 1 : Nat), by rw [wi] <;> omega, Wk.here ⟨s.size - (k + 1), by omega, k + 1, rfl, by omega, hr, rfl, rfl⟩⟩
    · have e : inner dg c.toNat = true := by
        unfold inner
        rw [h2, decide_eq_false (by have := of_decide_eq_false h1; omega)]
        simp
      rw [if_pos e] at hr
      exact ⟨(k + 1 : Nat), by rw [wi] <;> omega, Wk.here ⟨s.size - (k + 1), by omega, k + 1, rfl, by omega, hr, rfl, rfl⟩⟩
    · have e : inner dg c.toNat = false := by
        unfold inner
        rw [decide_eq_true (by have := of_decide_eq_true h1; omega)]
        simp
      rw [if_neg (by rw [e]; decide)] at hr
      exact Wk.here (Ret.here ⟨by rw [← hr], rfl⟩)
  · have hl : k = s.size := by have := of_decide_eq_false h; omega
    rw [run_end dg (by omega)] at hr
    exact Wk.here (Ret.here ⟨by rw [← hr], rfl⟩)
end Go.Proofs.YtijcbocbehcaaaaDoor.Nat
namespace Go.Ab
/-- where a byte stands in '#? -/
def idx3 (n : Nat) : Int := if n = 39 then 0 else if n = 35 then 1 else if n = 63 then 2 else -1
theorem idx3_eq : ∀ n, n < 256 → Go.Lib.indexByte [39, 35, 63] n.toUInt8 = idx3 n := by decide +kernel
end Go.Ab
namespace Go.Proofs.YtijcbocbehcaaaaDoor.Nat
open Go Go.Ab Go.Ab.Nn
set_option linter.unusedVariables false
set_option maxRecDepth 8000
variable {σ : Own}
noncomputable def idxE : Array Value → Sem Value := (Extern.BytealgIndexByte.rows.getD 1 ("", fun _ => pure default)).2
theorem IndexByteString_spec (n : Nat) (hn : n < 256) : ACalls P tgl 90 [.w (.string ⟨#[39, 35, 63]⟩), .w (.int .u8 n)] σ (fun v σ' => v = .w (.int .i64 (idx3 n)) ∧ σ' = σ) := by
  refine ACalls.ext (vs := [.string ⟨#[39, 35, 63]⟩, .int .u8 n]) (cv := .int .i64 (idx3 n)) (fun w => ?_) (fun I w => .w _)
  show (callFunc 90 #[.string ⟨#[39, 35, 63]⟩, .int .u8 n]).run P w = _
  rw [run_callFunc_extern Go.Proofs.Tryd.func90 (by kernel_rfl) (by kernel_rfl) (by kernel_rfl) (e := idxE) (by kernel_rfl), show idxE = Extern.BytealgIndexByte.indexByte from rfl, Go.Lib.run_indexByteString]
  rw [show ((n : Int).toNat) = n by omega, show (ByteArray.mk #[39, 35, 63]).data.toList = [39, 35, 63] from rfl, idx3_eq n hn]
  rfl
theorem sliteIndexByte_spec (n : Nat) (hn : n < 256) : ACalls P tgl F_internal_stringslite_IndexByte [.w (.string ⟨#[39, 35, 63]⟩), .w (.int .u8 n)] σ (fun v σ' => v = .w (.int .i64 (idx3 n)) ∧ σ' = σ) := by
  refine C_internal_stringslite_IndexByte.calls hm ?_
  refine CallVC.here (IndexByteString_spec n hn) ?_
  rintro v σ' ⟨rfl, rfl⟩
  exact Ret.here ⟨rfl, rfl⟩
theorem IndexByte_spec (n : Nat) (hn : n < 256) : ACalls P tgl F_strings_IndexByte [.w (.string ⟨#[39, 35, 63]⟩), .w (.int .u8 n)] σ (fun v σ' => v = .w (.int .i64 (idx3 n)) ∧ σ' = σ) := by
  refine C_strings_IndexByte.calls hm ?_
  refine CallVC.here (sliteIndexByte_spec n hn) ?_
  rintro v σ' ⟨rfl, rfl⟩
  exact Ret.here ⟨rfl, rfl⟩
end Go.Proofs.YtijcbocbehcaaaaDoor.Nat
namespace Go.Ab
/-- does it begin with <=. ? -/
def lead (l : List Nat) : Bool := decide (3 ≤ l.length) && (l.take 3 == [60, 61, 46])
theorem take3 (s : ByteArray) : ((s.extract 0 3).toList == (ByteArray.mk #[60, 61, 46]).toList) = ((bs s).take 3 == [60, 61, 46]) := by
  have e1 : (s.extract 0 3).toList = s.data.toList.take 3 := by
    rw [ByteArray.toList_eq, ByteArray.data_extract]; simp
  have e2 : (ByteArray.mk #[60, 61, 46]).toList = [60, 61, 46] := by rw [ByteArray.toList_eq]
  rw [e1, e2]
  unfold bs
  rw [← List.map_take, Bool.eq_iff_iff, beq_iff_eq, beq_iff_eq]
  constructor
  · intro h; rw [h]; rfl
  · intro h
    exact (List.map_inj_right (f := UInt8.toNat) (fun a b h => UInt8.toNat_inj.1 h)).1 (h.trans rfl)
def signT (c n : Nat) (p : Bool) : Nat :=
  if c = 45 then (if n = 62 then 2 else if n = 46 then 2 else 1)
  else if c = 43 ∨ c = 42 ∨ c = 47 then (if n = 46 then 2 else 1)
  else if c = 60 then (if p = true then 3 else if n = 61 then 2 else if n = 46 then 2 else 1)
  else if c = 61 then (if n = 46 then 2 else 1)
  else if c = 58 then (if n = 58 then 2 else 1)
  else if c = 62 ∨ c = 94 ∨ c = 40 ∨ c = 41 ∨ c = 91 ∨ c = 93 ∨ c = 44 ∨ c = 59 ∨ c = 124 then 1
  else 0
def sign (l : List Nat) : Nat := signT (at0 l 0) (if 1 < l.length then at0 l 1 else 0) (lead l)
end Go.Ab
namespace Go.Proofs.YtijcbocbehcaaaaDoor.Nat
open Go Go.Ab Go.Ab.Nn
set_option linter.unusedVariables false
set_option maxRecDepth 8000
variable {σ : Own}
theorem sHasPrefix_spec (s : ByteArray) : ACalls P tgl F_internal_stringslite_HasPrefix [.w (.string s), .w (.string ⟨#[60, 61, 46]⟩)] σ (fun v σ' => v = .w (.bool (lead (bs s))) ∧ σ' = σ) := by
  have hb := bs_len s
  refine C_internal_stringslite_HasPrefix.calls hm ?_
  refine ⟨fun h => ⟨0, 3, rfl, rfl, by omega, ?_, Ret.here ⟨?_, rfl⟩⟩, fun h => Ret.here ⟨?_, rfl⟩⟩
  · have h := of_decide_eq_true h
    exact Int.ofNat_le.1 h
  · have h : (3 : Int) ≤ s.size := of_decide_eq_true h
    unfold lead
    rw [decide_eq_true (by omega), Bool.true_and, ← take3]
  · have h : ¬ (3 : Int) ≤ s.size := of_decide_eq_false h
    unfold lead
    rw [decide_eq_false (by omega)]; rfl
theorem HasPrefix_spec (s : ByteArray) : ACalls P tgl F_strings_HasPrefix [.w (.string s), .w (.string ⟨#[60, 61, 46]⟩)] σ (fun v σ' => v = .w (.bool (lead (bs s))) ∧ σ' = σ) := by
  refine C_strings_HasPrefix.calls hm ?_
  refine CallVC.here (sHasPrefix_spec s) ?_
  rintro v σ' ⟨rfl, rfl⟩
  exact Ret.here ⟨rfl, rfl⟩
theorem sign_spec (s : ByteArray) (h0 : 0 < s.size) : ACalls P tgl F_token_sign [.w (.string s)] σ (fun v σ' => v = .w (.int .i64 (sign (bs s))) ∧ σ' = σ) := by
  have hb := bs_len s
  obtain ⟨c, hc, hcn⟩ := bs_at s h0
  refine C_token_sign.calls hm ?_
  refine have key : ∀ n : Nat, n = (if 1 < (bs s).length then at0 (bs s) 1 else 0) → vc (cx P tgl) S_token_sign_j1 _ [(0, .w (.string s)), (3, .w (.int .u8 n))] _ := ?_; ⟨fun h => ?_, fun h => Wk.here (key 0 ?_)⟩
  · intro n hn
    have goal : ∀ k : Nat, signT c.toNat n (lead (bs s)) = k → sign (bs s) = k := fun k hk => by unfold sign; rw [← hn, ← hcn]; exact hk
    clear hn
    refine ⟨0, rfl, c, hc, ?_⟩
    generalize c.toNat = c0 at *
    generalize hp : lead (bs s) = p at *
    have bt : ∀ {a b : Int}, (a == b) = true → a = b := fun h => eq_of_beq h
    have bf : ∀ {a b : Int}, (a == b) = false → a ≠ b := fun h => ne_of_beq_false h
    repeat' (first
      | omega
      | (refine Ret.here ⟨congrArg (fun k : Nat => AV.w (.int .i64 k)) (goal 1 ?_).symm, rfl⟩; unfold signT; repeat (first | rw [if_pos (by first | omega | assumption)] | rw [if_neg (by first | omega | simp [*])])) | (refine Ret.here ⟨congrArg (fun k : Nat => AV.w (.int .i64 k)) (goal 2 ?_).symm, rfl⟩; unfold signT; repeat (first | rw [if_pos (by first | omega | assumption)] | rw [if_neg (by first | omega | simp [*])])) | (refine Ret.here ⟨congrArg (fun k : Nat => AV.w (.int .i64 k)) (goal 3 ?_).symm, rfl⟩; unfold signT; repeat (first | rw [if_pos (by first | omega | assumption)] | rw [if_neg (by first | omega | simp [*])])) | (refine Ret.here ⟨congrArg (fun k : Nat => AV.w (.int .i64 k)) (goal 0 ?_).symm, rfl⟩; unfold signT; repeat (first | rw [if_pos (by first | omega | assumption)] | rw [if_neg (by first | omega | simp [*])]))
      | refine Wk.here ?_
      | refine ⟨fun h => have h := bt h; ?_, fun h => have h := bf h; ?_⟩
      | refine ⟨fun h => ?_, fun h => ?_⟩
      | (refine CallVC.here (HasPrefix_spec s) ?_; rintro v σ' ⟨rfl, rfl⟩; rw [hp]))
  · have h1 : 1 < s.size := by have := of_decide_eq_true h; omega
    obtain ⟨d, hd, hdn⟩ := bs_at s h1
    refine ⟨1, rfl, d, hd, Wk.here (key d.toNat ?_)⟩
    rw [if_pos (by omega), hdn]
  · have h1 : ¬ 1 < s.size := by have := of_decide_eq_false h; omega
    rw [if_neg (by omega)]
end Go.Proofs.YtijcbocbehcaaaaDoor.Nat
namespace Go.Ab
def named (l : List Nat) (a ahead kind : Nat) : Nat × Nat := (if 32 < run l (a + ahead) false - a - ahead then 9 else kind, run l (a + ahead) false)
def frac (l : List Nat) (a : Nat) : Bool := decide (run l a true + 1 < l.length) && (at0 l (run l a true) == 46 && what (at0 l (run l a true + 1)) == 5)
def numEnd (l : List Nat) (a : Nat) : Nat := if frac l a then run l (run l a true + 1) true else run l a true
def numKind (l : List Nat) (a : Nat) : Nat := if frac l a then 7 else 6
def bad (l : List Nat) (a : Nat) (k e : Nat) : Bool := decide (1024 < e - a) || ((k == 6) && (decide (1 < e - a) && (at0 l a == 48)))
def number (l : List Nat) (a : Nat) : Nat × Nat := (if bad l a (numKind l a) (numEnd l a) then 9 else numKind l a, numEnd l a)
theorem frac_iff (l : List Nat) (a : Nat) : frac l a = true ↔ (run l a true + 1 < l.length ∧ at0 l (run l a true) = 46 ∧ what (at0 l (run l a true + 1)) = 5) := by unfold frac; simp
theorem bad_iff (l : List Nat) (a k e : Nat) : bad l a k e = true ↔ (1024 < e - a ∨ (k = 6 ∧ 1 < e - a ∧ at0 l a = 48)) := by unfold bad; simp
end Go.Ab
namespace Go.Proofs.YtijcbocbehcaaaaDoor.Nat
open Go Go.Ab Go.Ab.Nn
set_option linter.unusedVariables false
set_option maxRecDepth 8000
variable {σ : Own}
theorem named_spec (s : ByteArray) (a ahead kind : Nat) (h1 : a + ahead ≤ s.size) (hs : s.size < 4611686018427387904) : ACalls P tgl F_token_named [.w (.string s), .w (.int .i64 a), .w (.int .i64 ahead), .w (.int .i64 kind)] σ (fun v σ' => v = .tup [.w (.int .i64 (named (bs s) a ahead kind).1), .w (.int .i64 (named (bs s) a ahead kind).2)] ∧ σ' = σ) := by
  have hb := bs_len s
  obtain ⟨r1, r2⟩ := run_le (l := bs s) (a := a + ahead) false (by omega)
  refine C_token_named.calls hm ?_
  refine ⟨(a + ahead : Nat), by rw [wi] <;> omega, CallVC.here (run_spec s (a + ahead) false h1 hs) ?_⟩
  rintro v σ' ⟨rfl, rfl⟩
  unfold named
  generalize run (bs s) (a + ahead) false = e at *
  refine ⟨(e : Int) - a, by rw [wi] <;> omega, (e : Int) - a - ahead, by rw [wi] <;> omega, ?_⟩
  refine have key : ∀ K : Nat, K = (if 32 < e - a - ahead then 9 else kind) → vc (cx P tgl) S_token_named_j1 _ [(3, .w (.int .i64 K)), (10, .w (.int .i64 e))] _ := ?_; ⟨fun h => Wk.here (key 9 ?_), fun h => Wk.here (key kind ?_)⟩
  · rintro K rfl
    exact Ret.here ⟨rfl, rfl⟩
  · have h := of_decide_eq_true h
    rw [if_pos (by omega)]
  · have h := of_decide_eq_false h
    rw [if_neg (by omega)]
theorem number_spec (s : ByteArray) (a : Nat) (h1 : a < s.size) (hs : s.size < 4611686018427387904) : ACalls P tgl F_token_number [.w (.string s), .w (.int .i64 a)] σ (fun v σ' => v = .tup [.w (.int .i64 (number (bs s) a).1), .w (.int .i64 (number (bs s) a).2)] ∧ σ' = σ) := by
  have hb := bs_len s
  obtain ⟨r1, r2⟩ := run_le (l := bs s) (a := a) true (by omega)
  obtain ⟨ca, hca, hcan⟩ := bs_at s h1
  refine C_token_number.calls hm ?_
  refine CallVC.here (run_spec s a true (by omega) hs) ?_
  rintro v σ' ⟨rfl, rfl⟩
  have hr3 : run (bs s) a true + 1 ≤ (bs s).length → _ := fun h => run_le (l := bs s) (a := run (bs s) a true + 1) true h
  have fin : ∀ K E : Nat, K = numKind (bs s) a → E = numEnd (bs s) a → a ≤ E → E ≤ s.size → vc (cx P tgl) S_token_number_j1 (retQ (Says tgl) [4, 5] fun v σ'' => v = .tup [.w (.int .i64 (number (bs s) a).1), .w (.int .i64 (number (bs s) a).2)] ∧ σ'' = σ') [(0, .w (.string s)), (1, .w (.int .i64 a)), (6, .w (.int .i64 K)), (7, .w (.int .i64 E))] σ' := by
    intro K E hK hE e1 e2
    have hN : number (bs s) a = (if bad (bs s) a K E then 9 else K, E) := by rw [hK, hE]; rfl
    rw [hN]
    clear hN hK hE
    have hi := bad_iff (bs s) a K E
    rw [← hcan] at hi
    refine ⟨(E : Int) - a, by rw [wi] <;> omega, ⟨fun h1 => ⟨fun h2 => ⟨(E : Int) - a, by rw [wi] <;> omega, ⟨fun h3 => ⟨a, rfl, ca, hca, ⟨fun h4 => Wk.here (Ret.here ⟨?_, rfl⟩), fun h4 => Wk.here (Ret.here ⟨?_, rfl⟩)⟩⟩, fun h3 => ⟨(fun h => by cases h), fun _ => Wk.here (Ret.here ⟨?_, rfl⟩)⟩⟩⟩, fun h2 => ⟨(fun h => by cases h), fun _ => ⟨(fun h => by cases h), fun _ => Wk.here (Ret.here ⟨?_, rfl⟩)⟩⟩⟩, fun h1 => ⟨fun _ => Wk.here (Ret.here ⟨?_, rfl⟩), fun h => by cases h⟩⟩⟩
    · have h2 := eq_of_beq h2
      have h3 := of_decide_eq_true h3
      have h4 := eq_of_beq h4
      rw [hi.2 (by omega)]; rfl
    · have h1 := of_decide_eq_false h1
      have h4 := ne_of_beq_false h4
      rw [show bad (bs s) a K E = false from Bool.eq_false_iff.2 (fun h => by have := hi.1 h; omega)]; rfl
    · have h1 := of_decide_eq_false h1
      have h3 := of_decide_eq_false h3
      rw [show bad (bs s) a K E = false from Bool.eq_false_iff.2 (fun h => by have := hi.1 h; omega)]; rfl
    · have h1 := of_decide_eq_false h1
      have h2 := ne_of_beq_false h2
      rw [show bad (bs s) a K E = false from Bool.eq_false_iff.2 (fun h => by have := hi.1 h; omega)]; rfl
    · have h1 := of_decide_eq_true h1
      rw [hi.2 (by omega)]; rfl
  have hfi := frac_iff (bs s) a
  have hne : numEnd (bs s) a = if frac (bs s) a then run (bs s) (run (bs s) a true + 1) true else run (bs s) a true := rfl
  have hnk : numKind (bs s) a = if frac (bs s) a then 7 else 6 := rfl
  generalize run (bs s) a true = e at *
  have no : frac (bs s) a = false → vc (cx P tgl) S_token_number_j1 (retQ (Says tgl) [4, 5] fun v σ'' => v = .tup [.w (.int .i64 (number (bs s) a).1), .w (.int .i64 (number (bs s) a).2)] ∧ σ'' = σ') [(0, .w (.string s)), (1, .w (.int .i64 a)), (6, .w (.int .i64 6)), (7, .w (.int .i64 e))] σ' := fun h => fin 6 e (by rw [hnk, h]; rfl) (by rw [hne, h]; rfl) r1 (by omega)
  have g1 : ∀ h : e < s.size, _ := fun h => bs_at s h
  have g2 : ∀ h : e + 1 < s.size, _ := fun h => bs_at s h
  refine ⟨(e + 1 : Nat), by rw [wi] <;> omega, ⟨fun h1 => ?_, fun h1 => ⟨(fun h => by cases h), fun _ => ⟨(fun h => by cases h), fun _ => Wk.here (no ?_)⟩⟩⟩⟩
  · have h1 := of_decide_eq_true h1
    have l1 : e + 1 < s.size := by omega
    obtain ⟨c, hc, hcn⟩ := g1 (by omega)
    obtain ⟨d, hd, hdn⟩ := g2 l1
    rw [← hcn, ← hdn] at hfi
    refine ⟨e, rfl, c, hc, ⟨fun h2 => ⟨(e + 1 : Nat), by rw [wi] <;> omega, (e + 1 : Nat), rfl, d, hd, CallVC.here (what_spec d.toNat) ?_⟩, fun h2 => ⟨(fun h => by cases h), fun _ => Wk.here (no ?_)⟩⟩⟩
    · rintro v σ' ⟨rfl, rfl⟩
      have h2 := eq_of_beq h2
      refine ⟨fun h3 => ⟨(e + 1 : Nat), by rw [wi] <;> omega, CallVC.here (run_spec s (e + 1) true (by omega) hs) ?_⟩, fun h3 => Wk.here (no ?_)⟩
      · rintro v σ' ⟨rfl, rfl⟩
        have h3 := eq_of_beq h3
        have hF := hfi.2 (by omega)
        have hr4 := hr3 (by omega)
        exact Wk.here (fin 7 _ (by rw [hnk, hF]; rfl) (by rw [hne, hF]; rfl) (by omega) (by omega))
      · have h3 := ne_of_beq_false h3
        exact Bool.eq_false_iff.2 (fun h => by have := hfi.1 h; omega)
    · have h2 := ne_of_beq_false h2
      exact Bool.eq_false_iff.2 (fun h => by have := hfi.1 h; omega)
  · have h1 := of_decide_eq_false h1
    exact Bool.eq_false_iff.2 (fun h => by have := hfi.1 h; omega)
end Go.Proofs.YtijcbocbehcaaaaDoor.Nat
namespace Go.Ab
def tick (l : List Nat) (a : Nat) : Bool := decide (0 ≤ idx3 (at0 l a)) && (decide (a + 1 < l.length) && what (at0 l (a + 1)) == 2)
theorem tick_iff (l : List Nat) (a : Nat) : tick l a = true ↔ (0 ≤ idx3 (at0 l a) ∧ a + 1 < l.length ∧ what (at0 l (a + 1)) = 2) := by unfold tick; simp
def kindT (c : Nat) : Nat := if c = 39 then 3 else if c = 35 then 4 else 5
def oneF (l : List Nat) (a : Nat) : Nat × Nat :=
  if what (at0 l a) = 2 ∨ what (at0 l a) = 4 then named l a 0 1
  else if what (at0 l a) = 3 then named l a 0 2
  else if what (at0 l a) = 5 then number l a
  else if tick l a then named l a 1 (kindT (at0 l a))
  else if 0 < sign (l.drop a) then (8, a + sign (l.drop a)) else (9, a + 1)
theorem bs_extract (s : ByteArray) (a b : Nat) : bs (s.extract a b) = ((bs s).take b).drop a := by
  unfold bs
  rw [ByteArray.data_extract, ← List.map_take, ← List.map_drop]
  congr 1
  simp [List.drop_take]
theorem idx3_cases (c : Nat) : (c = 39 ∧ idx3 c = 0) ∨ (c = 35 ∧ idx3 c = 1) ∨ (c = 63 ∧ idx3 c = 2) ∨ idx3 c = -1 := by
  unfold idx3
  split
  · omega
  · split
    · omega
    · split <;> omega
theorem sign_le (l : List Nat) (h : 0 < l.length) : sign l ≤ l.length := by
  unfold sign
  by_cases h1 : 1 < l.length
  · rw [if_pos h1]
    by_cases hp : lead l = true
    · have : 3 ≤ l.length := by
        unfold lead at hp
        simp at hp
        exact hp.1
      have : ∀ c n p, signT c n p ≤ 3 := fun c n p => by unfold signT; repeat' split <;> try omega
      exact Nat.le_trans (this _ _ _) (by omega)
    · rw [Bool.eq_false_iff.2 hp]
      have : ∀ c n, signT c n false ≤ 2 := fun c n => by unfold signT; simp only [Bool.false_eq_true, if_false]; repeat' split <;> try omega
      exact Nat.le_trans (this _ _) (by omega)
  · rw [if_neg h1]
    have hp : lead l = false := by
      unfold lead
      rw [decide_eq_false (by omega)]; rfl
    rw [hp]
    have : ∀ c, signT c 0 false ≤ 1 := fun c => by unfold signT; simp only [Bool.false_eq_true, if_false]; repeat' split <;> try omega
    exact Nat.le_trans (this _) (by omega)
theorem inner_of {c : Nat} (h : 2 ≤ what c) : inner false c = true := by unfold inner; simp; exact h
theorem one_end {l : List Nat} {a : Nat} (h : a < l.length) : a < (oneF l a).2 ∧ (oneF l a).2 ≤ l.length := by
  have hr : ∀ dg, inner dg (at0 l a) = true → a < run l a dg ∧ run l a dg ≤ l.length := fun dg hi => by
    rw [run_step dg h, if_pos hi]
    have := run_le (l := l) (a := a + 1) dg (by omega)
    omega
  have hn : ∀ k, 2 ≤ what (at0 l a) → a < (named l a 0 k).2 ∧ (named l a 0 k).2 ≤ l.length := fun k hw => hr false (inner_of hw)
  unfold oneF
  split
  · exact hn 1 (by omega)
  · split
    · exact hn 2 (by omega)
    · split
      · rename_i h5
        have hd := hr true (by unfold inner; rw [h5]; decide)
        show a < numEnd l a ∧ numEnd l a ≤ l.length
        unfold numEnd
        split
        · rename_i hf
          have hf := (frac_iff l a).1 hf
          have := run_le (l := l) (a := run l a true + 1) true (by omega)
          omega
        · exact hd
      · split
        · rename_i ht
          have ht := (tick_iff l a).1 ht
          have := run_le (l := l) (a := a + 1) false (by omega)
          show a < run l (a + 1) false ∧ run l (a + 1) false ≤ l.length
          omega
        · have := sign_le (l.drop a) (by rw [List.length_drop]; omega)
          rw [List.length_drop] at this
          split
          · show a < a + sign (l.drop a) ∧ a + sign (l.drop a) ≤ l.length
            omega
          · show a < a + 1 ∧ a + 1 ≤ l.length
            omega
end Go.Ab
namespace Go.Proofs.YtijcbocbehcaaaaDoor.Nat
open Go Go.Ab Go.Ab.Nn
set_option linter.unusedVariables false
set_option maxRecDepth 8000
variable {σ : Own}
theorem one_spec (s : ByteArray) (a : Nat) (h1 : a < s.size) (hs : s.size < 4611686018427387904) : ACalls P tgl F_token_one [.w (.string s), .w (.int .i64 a)] σ (fun v σ' => v = .tup [.w (.int .i64 (oneF (bs s) a).1), .w (.int .i64 (oneF (bs s) a).2)] ∧ σ' = σ) := by
  have hb := bs_len s
  obtain ⟨c, hc, hcn⟩ := bs_at s h1
  refine C_token_one.calls hm ?_
  refine ⟨a, rfl, c, hc, CallVC.here (what_spec c.toNat) ?_⟩
  rintro v σ' ⟨rfl, rfl⟩
  have out : ∀ q : Nat × Nat, oneF (bs s) a = q → Ret (Says tgl) (.tup [.w (.int .i64 q.1), .w (.int .i64 q.2)]) σ' (fun v σ'' => v = .tup [.w (.int .i64 (oneF (bs s) a).1), .w (.int .i64 (oneF (bs s) a).2)] ∧ σ'' = σ') := fun q h => Ret.here ⟨by rw [h], rfl⟩
  refine have key : ∀ b : Bool, (b = true ↔ what c.toNat = 2 ∨ what c.toNat = 4) → vc (cx P tgl) S_token_one_j1 _ [(0, .w (.string s)), (1, .w (.int .i64 a)), (11, .w (.int .i64 (what c.toNat))), (12, .w (.bool b))] _ := ?_; ⟨fun h => Wk.here (key _ ?_), fun h => Wk.here (key _ ?_)⟩
  · intro b hbw
    rw [hcn] at hbw
    have hO : oneF (bs s) a = if what (at0 (bs s) a) = 2 ∨ what (at0 (bs s) a) = 4 then named (bs s) a 0 1
      else if what (at0 (bs s) a) = 3 then named (bs s) a 0 2
      else if what (at0 (bs s) a) = 5 then number (bs s) a
      else if tick (bs s) a then named (bs s) a 1 (kindT (at0 (bs s) a))
      else if 0 < sign ((bs s).drop a) then (8, a + sign ((bs s).drop a)) else (9, a + 1) := rfl
    refine ⟨fun h => CallVC.here (named_spec s a 0 1 (by omega) hs) ?_, fun h => ⟨fun h3 => CallVC.here (named_spec s a 0 2 (by omega) hs) ?_, fun h3 => ⟨fun h5 => CallVC.here (number_spec s a h1 hs) ?_, fun h5 => ?_⟩⟩⟩
    · rintro v σ' ⟨rfl, rfl⟩
      refine ⟨_, rfl, _, rfl, out (named (bs s) a 0 1) ?_⟩
      rw [hO, if_pos (hbw.1 h)]
    · rintro v σ' ⟨rfl, rfl⟩
      have h3 := eq_of_beq h3
      refine ⟨_, rfl, _, rfl, out (named (bs s) a 0 2) ?_⟩
      rw [hO, if_neg (fun e => by rw [hbw.2 e] at h; cases h), if_pos (by rw [← hcn]; omega)]
    · rintro v σ' ⟨rfl, rfl⟩
      have h3 := ne_of_beq_false h3
      have h5 := eq_of_beq h5
      refine ⟨_, rfl, _, rfl, out (number (bs s) a) ?_⟩
      rw [hO, if_neg (fun e => by rw [hbw.2 e] at h; cases h), if_neg (by rw [← hcn]; omega), if_pos (by rw [← hcn]; omega)]
    · have h3 := ne_of_beq_false h3
      have h5 := ne_of_beq_false h5
      rw [if_neg (fun e => by rw [hbw.2 e] at h; cases h), if_neg (by rw [← hcn]; omega), if_neg (by rw [← hcn]; omega)] at hO
      have hlt : c.toNat < 256 := c.toNat_lt
      refine ⟨a, rfl, c, hc, CallVC.here (IndexByte_spec c.toNat hlt) ?_⟩
      rintro v σ' ⟨rfl, rfl⟩
      have hti := tick_iff (bs s) a
      rw [← hcn] at hti
      by_cases ht : tick (bs s) a = true
      · obtain ⟨t1, t2, t3⟩ := hti.1 ht
        obtain ⟨d, hd, hdn⟩ := bs_at s (show a + 1 < s.size by omega)
        rw [if_pos ht, ← hcn] at hO
        rw [← hdn] at t3
        refine ⟨fun k1 => ⟨(a + 1 : Nat), by rw [wi] <;> omega, ⟨fun k2 => ⟨(a + 1 : Nat), by rw [wi] <;> omega, (a + 1 : Nat), rfl, d, hd, CallVC.here (what_spec d.toNat) ?_⟩, fun k2 => by have := of_decide_eq_false k2; omega⟩⟩, fun k1 => by have := of_decide_eq_false k1; omega⟩
        rintro v σ' ⟨rfl, rfl⟩
        refine ⟨fun k3 => ?_, fun k3 => by have := ne_of_beq_false k3; omega⟩
        rcases idx3_cases c.toNat with ⟨e1, e2⟩ | ⟨e1, e2⟩ | ⟨e1, e2⟩ | e2
        · refine ⟨0, e2, by decide, _, rfl, CallVC.here (named_spec s a 1 3 (by omega) hs) ?_⟩
          rintro v σ' ⟨rfl, rfl⟩
          exact ⟨_, rfl, _, rfl, out (named (bs s) a 1 3) (by rw [hO, e1]; rfl)⟩
        · refine ⟨1, e2, by decide, _, rfl, CallVC.here (named_spec s a 1 4 (by omega) hs) ?_⟩
          rintro v σ' ⟨rfl, rfl⟩
          exact ⟨_, rfl, _, rfl, out (named (bs s) a 1 4) (by rw [hO, e1]; rfl)⟩
        · refine ⟨2, e2, by decide, _, rfl, CallVC.here (named_spec s a 1 5 (by omega) hs) ?_⟩
          rintro v σ' ⟨rfl, rfl⟩
          exact ⟨_, rfl, _, rfl, out (named (bs s) a 1 5) (by rw [hO, e1]; rfl)⟩
        · omega
      · rw [if_neg ht] at hO
        have hg : a + 1 < s.size → _ := fun h => bs_at s h
        have hx : bs (s.extract a s.size) = (bs s).drop a := by rw [bs_extract, ← hb, List.take_length]
        have hS := fun σ => sign_spec (σ := σ) (s.extract a s.size) (by rw [ByteArray.size_extract]; omega)
        simp only [hx] at hS
        have hsl := sign_le ((bs s).drop a) (by rw [List.length_drop]; omega)
        rw [List.length_drop] at hsl
        refine ⟨fun k1 => ⟨(a + 1 : Nat), by rw [wi] <;> omega, ⟨fun k2 => ?_, fun k2 => ⟨(fun h => by cases h), fun _ => ?_⟩⟩⟩, fun k1 => ⟨(fun h => by cases h), fun _ => ⟨(fun h => by cases h), fun _ => ?_⟩⟩⟩
        · have k1 := of_decide_eq_true k1
          have k2 := of_decide_eq_true k2
          obtain ⟨d, hd, hdn⟩ := hg (by omega)
          refine ⟨(a + 1 : Nat), by rw [wi] <;> omega, (a + 1 : Nat), rfl, d, hd, CallVC.here (what_spec d.toNat) ?_⟩
          rintro v σ' ⟨rfl, rfl⟩
          refine ⟨fun k3 => absurd (hti.2 ⟨k1, by omega, by have := eq_of_beq k3; rw [← hdn]; omega⟩) ht, fun k3 => ?_⟩
          refine ⟨a, s.size, rfl, rfl, by omega, Nat.le_refl _, CallVC.here (hS _) ?_⟩
          rintro v σ' ⟨rfl, rfl⟩
          exact ⟨fun k => ⟨(a + sign ((bs s).drop a) : Nat), by rw [wi] <;> omega, out (8, a + sign ((bs s).drop a)) (by rw [hO, if_pos (by have := of_decide_eq_true k; omega)])⟩, fun k => ⟨(a + 1 : Nat), by rw [wi] <;> omega, out (9, a + 1) (by rw [hO, if_neg (by have := of_decide_eq_false k; omega)])⟩⟩
        all_goals
          refine ⟨a, s.size, rfl, rfl, by omega, Nat.le_refl _, CallVC.here (hS _) ?_⟩
          rintro v σ' ⟨rfl, rfl⟩
          exact ⟨fun k => ⟨(a + sign ((bs s).drop a) : Nat), by rw [wi] <;> omega, out (8, a + sign ((bs s).drop a)) (by rw [hO, if_pos (by have := of_decide_eq_true k; omega)])⟩, fun k => ⟨(a + 1 : Nat), by rw [wi] <;> omega, out (9, a + 1) (by rw [hO, if_neg (by have := of_decide_eq_false k; omega)])⟩⟩
  · constructor
    · intro _
      have := eq_of_beq h
      omega
    · intro _
      exact h
  · have h := ne_of_beq_false h
    rw [beq_iff_eq]
    omega
end Go.Proofs.YtijcbocbehcaaaaDoor.Nat
namespace Go.Ab
/-- a token: its kind, where it begins, where it ends -/
abbrev Tok := Nat × Nat × Nat
def tok (s : ByteArray) (t : Tok) : List AV := [.w (.int .i64 t.1), .w (.string (s.extract t.2.1 t.2.2)), .w (.int .i64 t.2.1)]
def scanF : Nat → List Nat → Nat → List Tok
  | 0, _, _ => []
  | f + 1, l, a => if a < l.length then (if what (at0 l a) = 1 then scanF f l (a + 1) else ((oneF l a).1, a, (oneF l a).2) :: scanF f l (oneF l a).2) else []
theorem scanF_end {l : List Nat} {a : Nat} (h : l.length ≤ a) : ∀ f, scanF f l a = []
  | 0 => rfl
  | f + 1 => by simp only [scanF]; rw [if_neg (by omega)]
theorem scanF_fuel {l : List Nat} : ∀ {f g a : Nat}, l.length ≤ a + f → l.length ≤ a + g → scanF f l a = scanF g l a
  | 0, g, a, h, _ => (scanF_end (by omega) g).symm
  | f + 1, 0, a, _, h => scanF_end (by omega) _
  | f + 1, g + 1, a, h1, h2 => by
    simp only [scanF]
    by_cases h : a < l.length
    · have := one_end h
      rw [if_pos h, if_pos h, scanF_fuel (f := f) (g := g) (a := a + 1) (by omega) (by omega), scanF_fuel (f := f) (g := g) (a := (oneF l a).2) (by omega) (by omega)]
    · rw [if_neg h, if_neg h]
def scan (l : List Nat) (a : Nat) : List Tok := scanF l.length l a
theorem scan_end {l : List Nat} {a : Nat} (h : l.length ≤ a) : scan l a = [] := scanF_end h _
theorem scan_step {l : List Nat} {a : Nat} (h : a < l.length) : scan l a = if what (at0 l a) = 1 then scan l (a + 1) else ((oneF l a).1, a, (oneF l a).2) :: scan l (oneF l a).2 := by
  have h1 := one_end h
  have e : ∀ n, scanF (n + 1) l a = if a < l.length then (if what (at0 l a) = 1 then scanF n l (a + 1) else ((oneF l a).1, a, (oneF l a).2) :: scanF n l (oneF l a).2) else [] := fun n => rfl
  unfold scan
  rw [scanF_fuel (f := l.length) (g := l.length + 1) (a := a) (by omega) (by omega), e, if_pos h]
/-- the last one -/
def fin (s : ByteArray) : Tok := (10, s.size, s.size)
theorem tok_fin (s : ByteArray) : tok s (fin s) = [.w (.int .i64 10), .w (.string ⟨#[]⟩), .w (.int .i64 s.size)] := by
  unfold tok fin
  rw [show s.extract s.size s.size = ByteArray.empty from ByteArray.extract_same]
  rfl
theorem scan_len : ∀ (f : Nat) {l : List Nat} {a : Nat}, (scanF f l a).length ≤ f
  | 0, _, _ => Nat.le_refl _
  | f + 1, l, a => by
    simp only [scanF]
    split
    · split
      · exact Nat.le_trans (scan_len f) (by omega)
      · simp only [List.length_cons]; have := scan_len f (l := l) (a := (oneF l a).2); omega
    · simp
end Go.Ab
namespace Go.Proofs.YtijcbocbehcaaaaDoor.Nat
open Go Go.Ab Go.Ab.Nn
set_option linter.unusedVariables false
set_option maxRecDepth 8000
variable {σ : Own}
theorem Scan_own (s : ByteArray) (hs : s.size ≤ 16384) : ACalls P tgl F_token_Scan [.w (.string s)] σ (fun v σ' => ∃ w, v = .tup [w, .w (.int .i64 0)] ∧ OwnsA σ 3 ((scan (bs s) 0 ++ [fin s]).flatMap (tok s)) (scan (bs s) 0 ++ [fin s]).length w σ') := by
  have hb := bs_len s
  refine C_token_Scan.calls hm ?_
  refine ⟨fun h => absurd (of_decide_eq_true h) (by omega), fun _ => ?_⟩
  refine ⟨fun m env σ' => ∃ (a : Nat) (acc : List Tok) (v : AV), m = s.size - a ∧ a ≤ s.size ∧ acc.length ≤ a ∧ acc ++ scan (bs s) a = scan (bs s) 0 ∧ OwnsA σ 3 (acc.flatMap (tok s)) acc.length v σ' ∧ env = [(0, .w (.string s)), (4, v), (5, .w (.int .i64 a))], Wk.here ⟨s.size, 0, [], _, rfl, by omega, Nat.le_refl _, rfl, .nil _ _, rfl⟩, ?_⟩
  rintro m env σ' ⟨a, acc, v, rfl, ha, hacc, hsc, ho, rfl⟩
  refine ⟨fun h => ?_, fun h => ?_⟩
  · have hl : a < s.size := by have := of_decide_eq_true h; omega
    obtain ⟨c, hc, hcn⟩ := bs_at s hl
    obtain ⟨o1, o2⟩ := one_end (l := bs s) (a := a) (by omega)
    rw [scan_step (by omega), ← hcn] at hsc
    refine ⟨a, rfl, c, hc, CallVC.here (what_spec c.toNat) ?_⟩
    rintro v2 σ2 ⟨rfl, rfl⟩
    refine ⟨fun h1 => ?_, fun h1 => ?_⟩
    · have h1 := eq_of_beq h1
      rw [if_pos (by omega)] at hsc
      exact ⟨(a + 1 : Nat), by rw [wi] <;> omega, Wk.here ⟨s.size - (a + 1), by omega, a + 1, acc, v, rfl, by omega, by omega, hsc, ho, rfl⟩⟩
    · have h1 := ne_of_beq_false h1
      rw [if_neg (by omega)] at hsc
      refine CallVC.here (one_spec s a hl (by omega)) ?_
      rintro v3 σ3 ⟨rfl, rfl⟩
      generalize hq : oneF (bs s) a = q at *
      obtain ⟨k, e⟩ := q
      simp only at o1 o2 hsc
      refine ⟨_, rfl, _, rfl, a, e, rfl, rfl, by omega, by omega, ?_⟩
      refine ⟨by show 1 * 3 ≤ 3; omega, ho.app (k := 1) rfl rfl (by omega) (by omega) fun v' σ4 σ5 ho' hd => ?_⟩
      refine Wk.sub hd (.refl hd _) ⟨s.size - e, by omega, e, acc ++ [(k, a, e)], v', rfl, by omega, by rw [List.length_append, List.length_singleton]; omega, by rw [List.append_assoc]; exact hsc, ?_, rfl⟩
      rw [List.flatMap_append, List.length_append]
      exact ho'
  · have hl : a = s.size := by have := of_decide_eq_false h; omega
    rw [scan_end (by omega), List.append_nil] at hsc
    refine ⟨by show 1 * 3 ≤ 3; omega, ho.app (k := 1) rfl rfl (by omega) (by omega) fun v' σ4 σ5 ho' hd => Ret.sub hd (.refl hd _) ⟨v', rfl, ?_⟩⟩
    rw [← hsc, List.flatMap_append, List.length_append, show [fin s].flatMap (tok s) = tok s (fin s) from List.append_nil _, tok_fin]
    exact ho'
end Go.Proofs.YtijcbocbehcaaaaDoor.Nat
namespace Go.Ab
theorem one_kind (l : List Nat) (a : Nat) : (oneF l a).1 ≤ 9 := by
  have hn : ∀ ah k, k ≤ 9 → (named l a ah k).1 ≤ 9 := fun ah k hk => by unfold named; simp only; split <;> omega
  unfold oneF
  split
  · exact hn 0 1 (by omega)
  · split
    · exact hn 0 2 (by omega)
    · split
      · show (if bad l a (numKind l a) (numEnd l a) then 9 else numKind l a) ≤ 9
        split
        · omega
        · unfold numKind; split <;> omega
      · split
        · exact hn 1 _ (by unfold kindT; split; omega; split <;> omega)
        · split
          · show 8 ≤ 9; omega
          · show 9 ≤ 9; omega
/-- tokens, one behind the other, blanks between -/
def Cov (l : List Nat) : Nat → List Tok → Prop
  | p, [] => p = l.length
  | p, t :: r => p ≤ t.2.1 ∧ t.2.1 ≤ t.2.2 ∧ t.2.2 ≤ l.length ∧ (∀ j, p ≤ j → j < t.2.1 → what (at0 l j) = 1) ∧ (t.1 = 10 ↔ r = []) ∧ (t.2.1 = t.2.2 ↔ r = []) ∧ (r = [] → t.2.1 = l.length) ∧ Cov l t.2.2 r
theorem Cov.blank {l : List Nat} {p : Nat} {ts : List Tok} (h : Cov l (p + 1) ts) (hn : ts ≠ []) (hb : what (at0 l p) = 1) : Cov l p ts := by
  cases ts with
  | nil => exact absurd rfl hn
  | cons t r =>
    obtain ⟨h1, h2, h3, h4, h5⟩ := h
    refine ⟨by omega, h2, h3, fun j hj hj2 => ?_, h5⟩
    by_cases e : j = p
    · rw [e]; exact hb
    · exact h4 j (by omega) hj2
theorem scan_cov {l : List Nat} (q : Tok) (hq : q = (10, l.length, l.length)) : ∀ (f : Nat) {a : Nat}, a ≤ l.length → l.length ≤ a + f → Cov l a (scanF f l a ++ [q])
  | 0, a, h, hf => by
    subst hq
    exact ⟨h, Nat.le_refl _, Nat.le_refl _, fun j hj hj2 => absurd hj2 (by show ¬ j < l.length; omega), ⟨fun _ => rfl, fun _ => rfl⟩, ⟨fun _ => rfl, fun _ => rfl⟩, fun _ => rfl, rfl⟩
  | f + 1, a, h, hf => by
    simp only [scanF]
    by_cases hl : a < l.length
    · rw [if_pos hl]
      have h1 := one_end hl
      have h2 := one_kind l a
      by_cases hw : what (at0 l a) = 1
      · rw [if_pos hw]
        exact (scan_cov q hq f (by omega) (by omega)).blank (by simp) hw
      · rw [if_neg hw]
        have ne : scanF f l (oneF l a).2 ++ [q] ≠ [] := by simp
        exact ⟨Nat.le_refl _, by show a ≤ (oneF l a).2; omega, h1.2, fun j hj hj2 => absurd hj2 (by show ¬ j < a; omega), ⟨fun e => by simp only at e; omega, fun e => absurd e ne⟩, ⟨fun e => by simp only at e; omega, fun e => absurd e ne⟩, fun e => absurd e ne, scan_cov q hq f (a := (oneF l a).2) h1.2 (by omega)⟩
    · rw [if_neg hl]
      subst hq
      exact ⟨h, Nat.le_refl _, Nat.le_refl _, fun j hj hj2 => absurd hj2 (by show ¬ j < l.length; omega), ⟨fun _ => rfl, fun _ => rfl⟩, ⟨fun _ => rfl, fun _ => rfl⟩, fun _ => rfl, rfl⟩
def toks (s : ByteArray) : List Tok := scan (bs s) 0 ++ [fin s]
theorem toks_cov (s : ByteArray) : Cov (bs s) 0 (toks s) := scan_cov (fin s) (by unfold fin; rw [bs_len]) _ (by omega) (by omega)
/-- cells of a token -/
def tk (x : Int × ByteArray × Int) : List AV := [.w (.int .i64 x.1), .w (.string x.2.1), .w (.int .i64 x.2.2)]
end Go.Ab
namespace Go.Proofs.YtijcbocbehcaaaaDoor.Nat
open Go Go.Ab Go.Ab.Nn
set_option linter.unusedVariables false
set_option maxRecDepth 8000
variable {σ : Own}
theorem Scan_spec (s : ByteArray) (hs : s.size ≤ 16384) : ACalls P tgl F_token_Scan [.w (.string s)] σ (fun v σ' => v = .tup [.fs ((toks s).flatMap (tok s)) (toks s).length, .w (.int .i64 0)] ∧ σ' = σ) :=
  (Scan_own s hs).sub fun v σ' ⟨w, hv, ho⟩ => ⟨_, σ, ho.del, by rw [hv]; exact .tup ⟨ho.sub, .refl ho.del _, trivial⟩, rfl, rfl⟩
theorem Blank_spec (c : Nat) : ACalls P tgl F_gaugeref8_Blank [.w (.int .u8 c)] σ (fun v σ' => v = .w (.bool (what c == 1)) ∧ σ' = σ) := by
  have hw : (what c == 1) = ((c : Int) == 32 || (c : Int) == 9 || (c : Int) == 10 || (c : Int) == 13) := by
    unfold what
    simp only [sp, whatL]
    rw [Bool.eq_iff_iff]
    simp only [beq_iff_eq, Bool.or_eq_true]
    repeat' split
    all_goals omega
  refine C_gaugeref8_Blank.calls hm ?_
  refine ⟨fun h1 => ⟨fun h2 => ⟨fun h3 => Ret.here ⟨?_, rfl⟩, fun h3 => Ret.here ⟨?_, rfl⟩⟩, fun h2 => ⟨(fun h => by cases h), fun _ => Ret.here ⟨?_, rfl⟩⟩⟩, fun h1 => ⟨(fun h => by cases h), fun _ => ⟨(fun h => by cases h), fun _ => Ret.here ⟨?_, rfl⟩⟩⟩⟩
  · rw [hw, h1, h2, h3]; rfl
  · rw [hw, h1, h2, h3]; rfl
  · rw [hw, h1, h2]; rfl
  · rw [hw, h1]; rfl
end Go.Proofs.YtijcbocbehcaaaaDoor.Nat
namespace Go.Ab
theorem tk_tok (s : ByteArray) (t : Tok) : tok s t = tk (t.1, s.extract t.2.1 t.2.2, t.2.1) := rfl
def wk : ByteArray := ⟨#[97, 60, 61, 46, 51]⟩
theorem wk_toks : toks wk = [(1, 0, 1), (8, 1, 4), (6, 4, 5), (10, 5, 5)] := by decide +kernel
def litA : List (Int × ByteArray × Int) := [(1, ⟨#[97]⟩, 0), (8, ⟨#[60, 61, 46]⟩, 1), (6, ⟨#[51]⟩, 4), (10, ⟨#[]⟩, 5)]
theorem wk_cells : (toks wk).flatMap (tok wk) = [.w (.int .i64 1), .w (.string ⟨#[97]⟩), .w (.int .i64 0), .w (.int .i64 8), .w (.string ⟨#[60, 61, 46]⟩), .w (.int .i64 1), .w (.int .i64 6), .w (.string ⟨#[51]⟩), .w (.int .i64 4), .w (.int .i64 10), .w (.string ⟨#[]⟩), .w (.int .i64 5)] := by
  have e1 : wk.extract 0 1 = ⟨#[97]⟩ := ByteArray.ext (by rw [ByteArray.data_extract]; decide)
  have e2 : wk.extract 1 4 = ⟨#[60, 61, 46]⟩ := ByteArray.ext (by rw [ByteArray.data_extract]; decide)
  have e3 : wk.extract 4 5 = ⟨#[51]⟩ := ByteArray.ext (by rw [ByteArray.data_extract]; decide)
  have e4 : wk.extract 5 5 = ⟨#[]⟩ := ByteArray.ext (by rw [ByteArray.data_extract]; decide)
  rw [wk_toks]
  simp only [List.flatMap_cons, List.flatMap_nil, tok, e1, e2, e3, e4]
  rfl
end Go.Ab
namespace Go.Proofs.YtijcbocbehcaaaaDoor.Nat
open Go Go.Ab Go.Ab.Nn
set_option linter.unusedVariables false
set_option maxRecDepth 8000
variable {σ : Own}
theorem num8_spec (k : Int) : ACalls P tgl F_gaugelaw8_num [.w (.int .i64 k)] σ (fun v σ' => v = .w (.int .i64 k) ∧ σ' = σ) := by
  refine C_gaugelaw8_num.calls hm ?_
  exact Ret.here ⟨rfl, rfl⟩
theorem EqTokens_same (A : List (Int × ByteArray × Int)) (hn : A.length < 4611686018427387904) : ACalls P tgl F_gaugeref0_EqTokens [.fs (A.flatMap tk) A.length, .fs (A.flatMap tk) A.length] σ (fun v σ' => v = .w (.bool true) ∧ σ' = σ) := by
  refine C_gaugeref0_EqTokens.calls hm ?_
  refine ⟨fun h => by simp at h, fun _ => ?_⟩
  refine ⟨fun m env σ' => ∃ k : Nat, m = A.length - k ∧ k ≤ A.length ∧ σ' = σ ∧ env = [(0, .fs (A.flatMap tk) A.length), (1, .fs (A.flatMap tk) A.length), (5, .w (.int .i64 k))], Wk.here ⟨A.length, 0, rfl, by omega, rfl, rfl⟩, ?_⟩
  rintro m env σ' ⟨k, rfl, hk, rfl, rfl⟩
  refine ⟨fun h => ?_, fun h => ?_⟩
  · have hl : k < A.length := by have := of_decide_eq_true h; omega
    have hd : ((A.flatMap tk).drop (k * 3)).take 3 = tk (A.getD k (0, .empty, 0)) := by rw [flat_at (f := tk) (sz := 3) (fun _ => rfl) (0, .empty, 0) hl]; rfl
    generalize A.getD k (0, .empty, 0) = t at *
    refine ⟨k, rfl, hl, _, hd, rfl, k, rfl, hl, _, hd, rfl, ⟨fun h => by simp at h, fun _ => ?_⟩⟩
    exact ⟨(k + 1 : Nat), by rw [wi] <;> omega, Wk.here ⟨A.length - (k + 1), by omega, k + 1, rfl, by omega, rfl, rfl⟩⟩
  · exact Ret.here ⟨rfl, rfl⟩
theorem wakes8_spec : ACalls P tgl F_gaugelaw8_wakes [] σ (fun v σ' => v = .w (.bool true) ∧ σ' = σ) := by
  have hS := fun σ => Scan_spec (σ := σ) wk (by decide)
  rw [wk_cells, wk_toks] at hS
  have hE := fun σ => EqTokens_same (σ := σ) litA (by decide)
  refine C_gaugelaw8_wakes.calls hm ?_
  refine CallVC.here (hS _) ?_
  rintro v σ' ⟨rfl, rfl⟩
  refine ⟨_, rfl, _, rfl, CallVC.here (num8_spec 0) ?_⟩
  rintro v σ' ⟨rfl, rfl⟩
  refine ⟨fun _ => CallVC.sub .refl (args' := [.fs (litA.flatMap tk) litA.length, .fs (litA.flatMap tk) litA.length]) ⟨.refl .refl _, .ff_fs .refl _ _, trivial⟩ (hE _) ?_, fun h => by cases h⟩
  rintro v σ' ⟨rfl, rfl⟩
  exact Ret.here ⟨rfl, rfl⟩
end Go.Proofs.YtijcbocbehcaaaaDoor.Nat
namespace Go.Proofs.YtijcbocbehcaaaaDoor.Nat
open Go Go.Ab
open Go.Ab.SOp Go.Ab.SC Go.Ab.Opd
set_option linter.unusedVariables false
set_option maxRecDepth 20000
def F_gaugelaw8_TokenCovers : FuncId := 3
/-- gauge / gaugelaw8.TokenCovers -/
def S_gaugelaw8_TokenCovers : SC :=
 .seq (.region [⟨some 2, .mv (.c (.bool false)), none⟩] [0])
 (.seq (.seq (.region [⟨some 3, .mv (.c (.int .i64 0)), none⟩] [3, 0])
 (.block 0 [] (.loop [3, 0] (.seq (.seq (.region [⟨some 9, .mv (.t 3), none⟩, ⟨some 10, .mv (.t 0), none⟩, ⟨some 11, .len (.t 10), none⟩, ⟨some 12, .bin .lss (.t 9) (.t 11), none⟩, ⟨some 13, .mv (.t 12), none⟩, ⟨some 14, .mv (.t 3), some (13, true)⟩, ⟨some 15, .bin .lss (.t 14) (.c (.int .i64 30)), some (13, true)⟩, ⟨some 16, .pick (.t 13) (.t 15) (.c (.bool false)), none⟩] [16, 3, 0])
 (.cond (.t 16) (.region [] [3, 0])
 (.exit 0)))
 (.seq (.block 1 [3, 0] (.seq (.region [⟨some 19, .mv (.t 0), none⟩, ⟨some 20, .mv (.t 3), none⟩, ⟨some 21, .ix 1 (.t 19) (.t 20), none⟩, ⟨some 22, .ld false 1 (.t 21), none⟩, ⟨some 4, .mv (.t 22), none⟩] [4, 3, 0])
 (.seq (.seq (.region [⟨some 23, .mv (.t 4), none⟩, ⟨some 24, .lens (.t 23), none⟩, ⟨some 25, .bin .gtr (.t 24) (.c (.int .i64 16384)), none⟩] [25, 4, 3, 0])
 (.cond (.t 25) (.seq (.region [⟨some 2, .mv (.c (.bool true)), none⟩] [2])
 (.ret))
 (.region [] [4, 3, 0])))
 (.seq (.region [⟨some 27, .mv (.t 4), none⟩, ⟨some 28, .call 9 [.t 27], none⟩, ⟨some 26, .mv (.t 28), none⟩, ⟨some 29, .ext (.t 26) 0, none⟩, ⟨some 30, .ext (.t 26) 1, none⟩, ⟨some 5, .mv (.t 29), none⟩, ⟨some 6, .mv (.t 30), none⟩] [6, 5, 4, 3, 0])
 (.seq (.seq (.region [⟨some 31, .mv (.t 6), none⟩, ⟨some 32, .call 10 [.t 31], none⟩, ⟨some 33, .bin .neq (.t 32) (.c (.int .i64 0)), none⟩, ⟨some 34, .mv (.t 33), none⟩, ⟨some 35, .mv (.t 5), some (34, false)⟩, ⟨some 36, .len (.t 35), some (34, false)⟩, ⟨some 37, .bin .eql (.t 36) (.c (.int .i64 0)), some (34, false)⟩, ⟨some 38, .pick (.t 34) (.c (.bool true)) (.t 37), none⟩] [38, 5, 4, 3, 0])
 (.cond (.t 38) (.seq (.region [⟨some 2, .mv (.c (.bool false)), none⟩] [2])
 (.ret))
 (.region [] [5, 4, 3, 0])))
 (.seq (.region [⟨some 7, .mv (.c (.int .i64 0)), none⟩] [7, 5, 4, 3, 0])
 (.seq (.seq (.region [⟨some 8, .mv (.c (.int .i64 0)), none⟩] [8, 7, 5, 4, 3, 0])
 (.block 2 [7, 5, 4, 3, 0] (.loop [8, 7, 5, 4, 3, 0] (.seq (.seq (.region [⟨some 39, .mv (.t 8), none⟩, ⟨some 40, .mv (.t 5), none⟩, ⟨some 41, .len (.t 40), none⟩, ⟨some 42, .bin .lss (.t 39) (.t 41), none⟩] [42, 8, 7, 5, 4, 3, 0])
 (.cond (.t 42) (.region [] [8, 7, 5, 4, 3, 0])
 (.exit 2)))
 (.seq (.block 3 [8, 7, 5, 4, 3, 0] (.seq (.seq (.drawn [0, 1, 2, 3, 4, 5, 6, 7, 8, 9, 10, 11, 12, 13, 14, 15, 16, 17, 18, 19, 20, 21, 22, 23, 24, 25, 26, 27, 28, 29, 30, 31, 32, 33] [⟨some 45, .mv (.t 5), none⟩, ⟨some 46, .mv (.t 8), none⟩, ⟨some 47, .ix 3 (.t 45) (.t 46), none⟩, ⟨some 48, .fa 2 (.t 47), none⟩, ⟨some 49, .ld false 1 (.t 48), none⟩, ⟨some 50, .mv (.t 7), none⟩, ⟨some 51, .bin .lss (.t 49) (.t 50), none⟩, ⟨some 52, .mv (.t 51), none⟩, ⟨some 53, .mv (.t 5), some (52, false)⟩, ⟨some 54, .mv (.t 8), some (52, false)⟩, ⟨some 55, .ix 3 (.t 53) (.t 54), some (52, false)⟩, ⟨some 56, .fa 2 (.t 55), some (52, false)⟩, ⟨some 57, .ld false 1 (.t 56), some (52, false)⟩, ⟨some 58, .mv (.t 4), some (52, false)⟩, ⟨some 59, .lens (.t 58), some (52, false)⟩, ⟨some 60, .bin .gtr (.t 57) (.t 59), some (52, false)⟩, ⟨some 61, .pick (.t 52) (.c (.bool true)) (.t 60), none⟩, ⟨some 62, .mv (.t 61), none⟩, ⟨some 63, .mv (.t 5), some (62, false)⟩, ⟨some 64, .mv (.t 8), some (62, false)⟩, ⟨some 65, .ix 3 (.t 63) (.t 64), some (62, false)⟩, ⟨some 66, .fa 1 (.t 65), some (62, false)⟩, ⟨some 67, .ld false 1 (.t 66), some (62, false)⟩, ⟨some 68, .lens (.t 67), some (62, false)⟩, ⟨some 69, .mv (.t 4), some (62, false)⟩, ⟨some 70, .lens (.t 69), some (62, false)⟩, ⟨some 71, .mv (.t 5), some (62, false)⟩, ⟨some 72, .mv (.t 8), some (62, false)⟩, ⟨some 73, .ix 3 (.t 71) (.t 72), some (62, false)⟩, ⟨some 74, .fa 2 (.t 73), some (62, false)⟩, ⟨some 75, .ld false 1 (.t 74), some (62, false)⟩, ⟨some 76, .bin .sub (.t 70) (.t 75), some (62, false)⟩, ⟨some 77, .bin .gtr (.t 68) (.t 76), some (62, false)⟩, ⟨some 78, .pick (.t 62) (.c (.bool true)) (.t 77), none⟩] [78, 8, 7, 5, 4, 3, 0])
 (.cond (.t 78) (.seq (.region [⟨some 2, .mv (.c (.bool false)), none⟩] [2])
 (.ret))
 (.region [] [8, 7, 5, 4, 3, 0])))
 (.seq (.block 4 [8, 7, 5, 4, 3, 0] (.loop [8, 7, 5, 4, 3, 0] (.seq (.seq (.region [⟨some 79, .mv (.t 7), none⟩, ⟨some 80, .mv (.t 5), none⟩, ⟨some 81, .mv (.t 8), none⟩, ⟨some 82, .ix 3 (.t 80) (.t 81), none⟩, ⟨some 83, .fa 2 (.t 82), none⟩, ⟨some 84, .ld false 1 (.t 83), none⟩, ⟨some 85, .bin .lss (.t 79) (.t 84), none⟩] [85, 8, 7, 5, 4, 3, 0])
 (.cond (.t 85) (.region [] [8, 7, 5, 4, 3, 0])
 (.exit 4)))
 (.seq (.block 5 [8, 7, 5, 4, 3, 0] (.seq (.region [⟨some 88, .mv (.t 4), none⟩, ⟨some 89, .mv (.t 7), none⟩, ⟨some 90, .idxs (.t 88) (.t 89), none⟩, ⟨some 91, .call 11 [.t 90], none⟩, ⟨some 92, .un .not (.t 91), none⟩] [92, 8, 7, 5, 4, 3, 0])
 (.cond (.t 92) (.seq (.region [⟨some 2, .mv (.c (.bool false)), none⟩] [2])
 (.ret))
 (.region [] [8, 7, 5, 4, 3, 0]))))
 (.region [⟨some 86, .mv (.t 7), none⟩, ⟨some 87, .bin .add (.t 86) (.c (.int .i64 1)), none⟩, ⟨some 7, .mv (.t 87), none⟩] [8, 7, 5, 4, 3, 0])))))
 (.seq (.region [⟨some 93, .mv (.t 7), none⟩, ⟨some 94, .mv (.t 5), none⟩, ⟨some 95, .mv (.t 8), none⟩, ⟨some 96, .ix 3 (.t 94) (.t 95), none⟩, ⟨some 97, .fa 1 (.t 96), none⟩, ⟨some 98, .ld false 1 (.t 97), none⟩, ⟨some 99, .lens (.t 98), none⟩, ⟨some 100, .bin .add (.t 93) (.t 99), none⟩, ⟨some 7, .mv (.t 100), none⟩] [8, 7, 5, 4, 3, 0])
 (.seq (.drawn [0, 1, 2, 3, 4, 5, 6, 7, 8, 9, 10, 11, 12, 13, 14, 15, 16, 17, 18, 19, 20, 21, 22, 23, 24, 25, 26, 27, 28, 29, 30, 31, 32, 33, 34, 35, 36, 37, 38, 39, 40, 41] [⟨some 101, .mv (.t 4), none⟩, ⟨some 102, .mv (.t 5), none⟩, ⟨some 103, .mv (.t 8), none⟩, ⟨some 104, .ix 3 (.t 102) (.t 103), none⟩, ⟨some 105, .fa 2 (.t 104), none⟩, ⟨some 106, .ld false 1 (.t 105), none⟩, ⟨some 107, .mv (.t 7), none⟩, ⟨some 108, .sls (.t 101) (some (.t 106)) (some (.t 107)), none⟩, ⟨some 109, .mv (.t 5), none⟩, ⟨some 110, .mv (.t 8), none⟩, ⟨some 111, .ix 3 (.t 109) (.t 110), none⟩, ⟨some 112, .fa 1 (.t 111), none⟩, ⟨some 113, .ld false 1 (.t 112), none⟩, ⟨some 114, .bin .neq (.t 108) (.t 113), none⟩, ⟨some 115, .mv (.t 114), none⟩, ⟨some 116, .mv (.t 5), some (115, false)⟩, ⟨some 117, .mv (.t 8), some (115, false)⟩, ⟨some 118, .ix 3 (.t 116) (.t 117), some (115, false)⟩, ⟨some 119, .fa 0 (.t 118), some (115, false)⟩, ⟨some 120, .ld false 1 (.t 119), some (115, false)⟩, ⟨some 121, .bin .eql (.t 120) (.c (.int .i64 10)), some (115, false)⟩, ⟨some 122, .mv (.t 8), some (115, false)⟩, ⟨some 123, .mv (.t 5), some (115, false)⟩, ⟨some 124, .len (.t 123), some (115, false)⟩, ⟨some 125, .bin .sub (.t 124) (.c (.int .i64 1)), some (115, false)⟩, ⟨some 126, .bin .eql (.t 122) (.t 125), some (115, false)⟩, ⟨some 127, .beq true (.t 121) (.t 126), some (115, false)⟩, ⟨some 128, .pick (.t 115) (.c (.bool true)) (.t 127), none⟩, ⟨some 129, .mv (.t 128), none⟩, ⟨some 130, .mv (.t 5), some (129, false)⟩, ⟨some 131, .mv (.t 8), some (129, false)⟩, ⟨some 132, .ix 3 (.t 130) (.t 131), some (129, false)⟩, ⟨some 133, .fa 1 (.t 132), some (129, false)⟩, ⟨some 134, .ld false 1 (.t 133), some (129, false)⟩, ⟨some 135, .bin .eql (.t 134) (.c (.string ⟨#[]⟩)), some (129, false)⟩, ⟨some 136, .mv (.t 8), some (129, false)⟩, ⟨some 137, .mv (.t 5), some (129, false)⟩, ⟨some 138, .len (.t 137), some (129, false)⟩, ⟨some 139, .bin .sub (.t 138) (.c (.int .i64 1)), some (129, false)⟩, ⟨some 140, .bin .eql (.t 136) (.t 139), some (129, false)⟩, ⟨some 141, .beq true (.t 135) (.t 140), some (129, false)⟩, ⟨some 142, .pick (.t 129) (.c (.bool true)) (.t 141), none⟩] [142, 8, 7, 5, 4, 3, 0])
 (.cond (.t 142) (.seq (.region [⟨some 2, .mv (.c (.bool false)), none⟩] [2])
 (.ret))
 (.region [] [8, 7, 5, 4, 3, 0])))))))
 (.region [⟨some 43, .mv (.t 8), none⟩, ⟨some 44, .bin .add (.t 43) (.c (.int .i64 1)), none⟩, ⟨some 8, .mv (.t 44), none⟩] [8, 7, 5, 4, 3, 0]))))))
 (.seq (.region [⟨some 143, .mv (.t 7), none⟩, ⟨some 144, .mv (.t 4), none⟩, ⟨some 145, .lens (.t 144), none⟩, ⟨some 146, .bin .neq (.t 143) (.t 145), none⟩, ⟨some 147, .mv (.t 146), none⟩, ⟨some 148, .mv (.t 5), some (147, false)⟩, ⟨some 149, .mv (.t 5), some (147, false)⟩, ⟨some 150, .len (.t 149), some (147, false)⟩, ⟨some 151, .bin .sub (.t 150) (.c (.int .i64 1)), some (147, false)⟩, ⟨some 152, .ix 3 (.t 148) (.t 151), some (147, false)⟩, ⟨some 153, .fa 2 (.t 152), some (147, false)⟩, ⟨some 154, .ld false 1 (.t 153), some (147, false)⟩, ⟨some 155, .mv (.t 4), some (147, false)⟩, ⟨some 156, .lens (.t 155), some (147, false)⟩, ⟨some 157, .bin .neq (.t 154) (.t 156), some (147, false)⟩, ⟨some 158, .pick (.t 147) (.c (.bool true)) (.t 157), none⟩] [158, 3, 0])
 (.cond (.t 158) (.seq (.region [⟨some 2, .mv (.c (.bool false)), none⟩] [2])
 (.ret))
 (.region [] [3, 0]))))))))))
 (.region [⟨some 17, .mv (.t 3), none⟩, ⟨some 18, .bin .add (.t 17) (.c (.int .i64 1)), none⟩, ⟨some 3, .mv (.t 18), none⟩] [3, 0]))))))
 (.seq (.region [⟨some 159, .call 12 [], none⟩, ⟨some 2, .mv (.t 159), none⟩] [2])
 (.ret)))
theorem C_gaugelaw8_TokenCovers : Codes Go.Proofs.Tryd.prog F_gaugelaw8_TokenCovers S_gaugelaw8_TokenCovers 160 [2] := ⟨Go.Proofs.Tryd.f3, Go.Proofs.Tryd.f3.body.getD .skip, Go.Proofs.Tryd.func3, by kernel_rfl, by kernel_rfl, by kernel_rfl, by kernel_rfl, by kernel_rfl⟩
end Go.Proofs.YtijcbocbehcaaaaDoor.Nat
namespace Go.Ab
def txt (s : ByteArray) : List AV := [.w (.string s)]
theorem fin_last (s : ByteArray) : (toks s).getD ((toks s).length - 1) (0, 0, 0) = fin s := by
  unfold toks
  rw [List.length_append, List.length_singleton, Nat.add_sub_cancel, List.getD_eq_getElem?_getD, List.getElem?_append_right (Nat.le_refl _)]
  simp
theorem toks_pos (s : ByteArray) : 0 < (toks s).length ∧ (toks s).length ≤ s.size + 1 := by
  unfold toks scan
  rw [List.length_append, List.length_singleton]
  have := scan_len (bs s).length (l := bs s) (a := 0)
  have := bs_len s
  omega
theorem drop_at {α : Type} {l : List α} {k : Nat} (d : α) (h : k < l.length) : l.drop k = l.getD k d :: l.drop (k + 1) := by
  rw [List.drop_eq_getElem_cons h, List.getD_eq_getElem?_getD, List.getElem?_eq_getElem h]; rfl
end Go.Ab
namespace Go.Proofs.YtijcbocbehcaaaaDoor.Nat
open Go Go.Ab Go.Ab.Nn
set_option linter.unusedVariables false
set_option maxRecDepth 8000
variable {σ : Own}
theorem TokenCovers_spec (ls : List ByteArray) (hn : ls.length < 1125899906842624) : ACalls P tgl F_gaugelaw8_TokenCovers [.fs (ls.flatMap txt) ls.length] σ (fun v σ' => v = .w (.bool true) ∧ σ' = σ) := by
  refine C_gaugelaw8_TokenCovers.calls hm ?_
  refine ⟨fun m env σ' => ∃ i : Nat, m = ls.length - i ∧ i ≤ ls.length ∧ σ' = σ ∧ env = [(0, .fs (ls.flatMap txt) ls.length), (3, .w (.int .i64 i))], Wk.here ⟨ls.length, 0, rfl, by omega, rfl, rfl⟩, ?_⟩
  rintro m env σ' ⟨i, rfl, hi, rfl, rfl⟩
  refine ⟨fun h => ⟨fun h60 => ?_, fun _ => ?_⟩, fun h => ⟨(fun h => by cases h), fun _ => ?_⟩⟩
  rotate_left
  · refine CallVC.here wakes8_spec ?_
    rintro v σ' ⟨rfl, rfl⟩
    exact Ret.here ⟨rfl, rfl⟩
  · refine CallVC.here wakes8_spec ?_
    rintro v σ' ⟨rfl, rfl⟩
    exact Ret.here ⟨rfl, rfl⟩
  have hl : i < ls.length := by have := of_decide_eq_true h; omega
  have hx : ((ls.flatMap txt).drop (i * 1)).head? = some (.w (.string (ls.getD i .empty))) := by rw [flat_at (f := txt) (sz := 1) (fun _ => rfl) .empty hl]; rfl
  generalize ls.getD i .empty = s at *
  refine ⟨i, rfl, hl, _, hx, ⟨fun _ => Ret.here ⟨rfl, rfl⟩, fun hs => ?_⟩⟩
  have hs : s.size ≤ 16384 := by have := of_decide_eq_false hs; omega
  refine CallVC.here (Scan_spec s hs) ?_
  rintro v σ' ⟨rfl, rfl⟩
  obtain ⟨t0, t1⟩ := toks_pos s
  have hcov := toks_cov s
  have hlast := fin_last s
  have hb := bs_len s
  generalize toks s = T at *
  refine ⟨_, rfl, _, rfl, CallVC.here (num8_spec 0) ?_⟩
  rintro v σ' ⟨rfl, rfl⟩
  refine ⟨fun _ => ⟨fun h => by have := eq_of_beq h; omega, fun _ => ?_⟩, fun h => by cases h⟩
  refine ⟨fun m env σ'' => ∃ k p : Nat, m = T.length - k ∧ k ≤ T.length ∧ Cov (bs s) p (T.drop k) ∧ p ≤ s.size ∧ σ'' = σ' ∧ env = [(0, .fs (ls.flatMap txt) ls.length), (3, .w (.int .i64 i)), (4, .w (.string s)), (5, .fs (T.flatMap (tok s)) T.length), (7, .w (.int .i64 p)), (8, .w (.int .i64 k))], Wk.here ⟨T.length, 0, 0, rfl, by omega, hcov, by omega, rfl, rfl⟩, ?_⟩
  rintro m env σ'' ⟨k, p, rfl, hk, hc, hp, rfl, rfl⟩
  refine ⟨fun h => ?_, fun h => ?_⟩
  · have hkl : k < T.length := by have := of_decide_eq_true h; omega
    rw [drop_at (0, 0, 0) hkl] at hc
    have hfl := flat_at (f := tok s) (sz := 3) (fun _ => rfl) (0, 0, 0) hkl
    have hr : T.drop (k + 1) = [] ↔ k + 1 = T.length := by
      rw [List.drop_eq_nil_iff]; omega
    obtain ⟨c1, c2, c3, c4, c5, c6, c7, c8⟩ := hc
    rw [hr] at c5 c6 c7
    generalize T.getD k (0, 0, 0) = t at *
    obtain ⟨kd, a, e⟩ := t
    simp only at c1 c2 c3 c4 c5 c6 c7 c8
    have k0 : (((T.flatMap (tok s)).drop (k * 3)).drop 0).head? = some (.w (.int .i64 kd)) := by rw [hfl]; rfl
    have k1 : (((T.flatMap (tok s)).drop (k * 3)).drop 1).head? = some (.w (.string (s.extract a e))) := by rw [hfl]; rfl
    have k2 : (((T.flatMap (tok s)).drop (k * 3)).drop 2).head? = some (.w (.int .i64 a)) := by rw [hfl]; rfl
    have hsz : (s.extract a e).size = e - a := by rw [ByteArray.size_extract]; omega
    refine ⟨k, rfl, hkl, _, k2, ⟨fun _ => ⟨k, rfl, hkl, _, k2, ⟨fun _ => ⟨k, rfl, hkl, _, k1, k, rfl, hkl, _, k2, (s.size : Int) - a, by rw [wi] <;> omega, ⟨fun h => by have := of_decide_eq_true h; omega, fun _ => ?_⟩⟩, fun h => by have := of_decide_eq_true h; omega⟩⟩, fun h => by have := of_decide_eq_true h; omega⟩⟩
    refine ⟨fun m env σ3 => ∃ q : Nat, m = a - q ∧ p ≤ q ∧ q ≤ a ∧ σ3 = σ'' ∧ env = [(0, .fs (ls.flatMap txt) ls.length), (3, .w (.int .i64 i)), (4, .w (.string s)), (5, .fs (T.flatMap (tok s)) T.length), (7, .w (.int .i64 q)), (8, .w (.int .i64 k))], Wk.here ⟨a - p, p, rfl, Nat.le_refl _, c1, rfl, rfl⟩, ?_⟩
    rintro m env σ3 ⟨q, rfl, q1, q2, rfl, rfl⟩
    refine ⟨k, rfl, hkl, _, k2, ⟨fun h => ?_, fun h => ?_⟩⟩
    · have hq : q < a := by have := of_decide_eq_true h; omega
      obtain ⟨c, hc, hcn⟩ := bs_at s (show q < s.size by omega)
      refine ⟨q, rfl, c, hc, CallVC.here (Blank_spec c.toNat) ?_⟩
      rintro v σ4 ⟨rfl, rfl⟩
      refine ⟨fun h => ?_, fun _ => ?_⟩
      · rw [hcn, c4 q q1 hq] at h; cases h
      · exact ⟨(q + 1 : Nat), by rw [wi] <;> omega, Wk.here ⟨a - (q + 1), by omega, q + 1, rfl, by omega, by omega, rfl, rfl⟩⟩
    · have hq : q = a := by have := of_decide_eq_false h; omega
      subst hq
      have f1 : (!(((kd : Int) == 10) == ((k : Int) == (T.length : Int) - 1))) = false := by
        by_cases hlst : k + 1 = T.length
        · have := c5.2 hlst
          rw [show ((kd : Int) == 10) = true by rw [beq_iff_eq]; omega, show ((k : Int) == (T.length : Int) - 1) = true by rw [beq_iff_eq]; omega]; rfl
        · have : kd ≠ 10 := fun e => hlst (c5.1 e)
          rw [show ((kd : Int) == 10) = false by rw [beq_eq_false_iff_ne]; omega, show ((k : Int) == (T.length : Int) - 1) = false by rw [beq_eq_false_iff_ne]; omega]; rfl
      have f2 : (!(((s.extract q e).toList == (ByteArray.mk #[]).toList) == ((k : Int) == (T.length : Int) - 1))) = false := by
        have e0 : (ByteArray.mk #[]).toList = [] := by rw [ByteArray.toList_eq]
        rw [e0, ByteArray.toList_eq]
        have hlen : (s.extract q e).data.toList.length = e - q := by rw [← hsz, Array.length_toList]; rfl
        by_cases hlst : k + 1 = T.length
        · have := c6.2 hlst
          rw [show (s.extract q e).data.toList = [] from List.eq_nil_of_length_eq_zero (by omega), show ((k : Int) == (T.length : Int) - 1) = true by rw [beq_iff_eq]; omega]; rfl
        · have : q ≠ e := fun e => hlst (c6.1 e)
          rw [show ((s.extract q e).data.toList == []) = false by rw [beq_eq_false_iff_ne]; intro e; rw [e] at hlen; simp at hlen; omega, show ((k : Int) == (T.length : Int) - 1) = false by rw [beq_eq_false_iff_ne]; omega]; rfl
      refine ⟨k, rfl, hkl, _, k1, (e : Nat), by rw [wi] <;> omega, ?_⟩
      refine ⟨k, rfl, hkl, _, k2, q, e, rfl, rfl, c2, by omega, k, rfl, hkl, _, k1, ⟨fun _ => ⟨k, rfl, hkl, _, k0, (T.length : Int) - 1, by rw [wi] <;> omega, ⟨fun _ => ⟨k, rfl, hkl, _, k1, (T.length : Int) - 1, by rw [wi] <;> omega, ⟨fun h => nay f2 h, fun _ => ?_⟩⟩, fun h => nay f1 h⟩⟩, fun h => by simp at h⟩⟩
      exact ⟨(k + 1 : Nat), by rw [wi] <;> omega, Wk.here ⟨T.length - (k + 1), by omega, k + 1, e, rfl, by omega, c8, by omega, rfl, rfl⟩⟩
  · have hkl : k = T.length := by have := of_decide_eq_false h; omega
    subst hkl
    rw [List.drop_length] at hc
    have hp2 : p = (bs s).length := hc
    have hfl := flat_at (f := tok s) (sz := 3) (fun _ => rfl) (0, 0, 0) (show T.length - 1 < T.length by omega)
    rw [hlast] at hfl
    have k2 : (((T.flatMap (tok s)).drop ((T.length - 1) * 3)).drop 2).head? = some (.w (.int .i64 s.size)) := by rw [hfl]; rfl
    refine ⟨fun _ => ⟨(T.length : Int) - 1, by rw [wi] <;> omega, T.length - 1, by omega, by omega, _, k2, ⟨fun h => by simp at h, fun _ => ?_⟩⟩, fun h => by rw [show p = s.size by omega] at h; simp at h⟩
    exact ⟨(i + 1 : Nat), by rw [wi] <;> omega, Wk.here ⟨ls.length - (i + 1), by omega, i + 1, rfl, by omega, rfl, rfl⟩⟩
end Go.Proofs.YtijcbocbehcaaaaDoor.Nat
/-! What comes in as data, read as plain values; a function's contract, told to a row. -/
namespace Go.Ab
open Go.ChangeShapes Go.WideShapes Go.RowKit
set_option linter.unusedVariables false
set_option linter.unusedSimpArgs false
variable {P : Program}

def none' : Own := fun _ => none
def noGl : Nat → Option (List AV) := fun _ => none
theorem rel_none (w : World) : Rel noGl none' w := ⟨(fun b ob h => by cases h), (fun b xs h => by cases h)⟩
/-- blocks of a world -/
def Bl (w : World) : Nat → Prop := fun b => b < w.heap.size
theorem Bl.im {w : World} {x : AV} {v : Value} (h : VR (Bl w) w x v) : VR (Im none' w) w x v := h.mono fun b hb => ⟨⟨hb, rfl⟩, rfl⟩

/-- What is read there is some plain value. -/
structure Opens (P : Program) (t : TypeId) {α : Type} (f : α → List AV) (g : α → Prop) : Prop where
  out : ∀ {H : Type} {enc : TypeId × Value → H} {w : World} {base : Nat} {spare : Nat → Bool} {held : Bool} {fuel : Nat} {cs : List Value} {x : DataW H × List MemPlace},
    DataW.trod enc P w base spare held fuel t cs = some x → (∀ n ∈ x.1.weights P t, n ≤ reachBytes) → ∃ a, VRs (Bl w) w (f a) cs ∧ g a
theorem weights_all {H : Type} {P : Program} {e : TypeId} {d : DataW H} {n : Nat} : ∀ {ds : List (DataW H)}, d ∈ ds → n ∈ d.weights P e → n ∈ DataW.weightsAll P e ds
  | d0 :: ds, hd, hn => by
    simp only [DataW.weightsAll, List.mem_append]
    rcases List.mem_cons.1 hd with rfl | hd
    · exact .inl hn
    · exact .inr (weights_all hd hn)
theorem opens_int {t : TypeId} {k : IntKind} (ht : P.underlying t = some (.int k)) : Opens P t (fun n : Int => [.w (.int k n)]) (fun n => (Lit.int k n).wf = true) := by
  constructor; intro H enc w base spare held fuel cs x h _
  obtain ⟨n, rfl, _, hw⟩ := DataW.trod_int ht h
  exact ⟨n, .cons (.w _) .nil, hw⟩
theorem opens_bool {t : TypeId} (ht : P.underlying t = some .bool) : Opens P t (fun b : Bool => [.w (.bool b)]) (fun _ => True) := by
  constructor; intro H enc w base spare held fuel cs x h _
  obtain ⟨n, rfl, _⟩ := DataW.trod_bool ht h
  exact ⟨n, .cons (.w _) .nil, trivial⟩
theorem opens_string {t : TypeId} (ht : P.underlying t = some .string) : Opens P t (fun s : ByteArray => [.w (.string s)]) (fun s => s.size ≤ maxLen) := by
  constructor; intro H enc w base spare held fuel cs x h hz
  obtain ⟨s, rfl, _, hs⟩ := DataW.trod_string ht h
  exact ⟨s, .cons (.w _) .nil, hs⟩
theorem Opens.map {t : TypeId} {α β : Type} {f : α → List AV} {g : α → Prop} {f' : β → List AV} {g' : β → Prop} (h : Opens P t f g) (k : α → β) (hk : ∀ a, g a → f' (k a) = f a ∧ g' (k a)) : Opens P t f' g' := by
  constructor; intro H enc w base spare held fuel cs x hx hz
  obtain ⟨a, ha, hg⟩ := h.out hx hz
  exact ⟨k a, by rw [(hk a hg).1]; exact ha, (hk a hg).2⟩
theorem list_choose {α : Type} {p : Nat → α → Prop} : ∀ n : Nat, (∀ i, i < n → ∃ a, p i a) → ∃ l : List α, l.length = n ∧ ∀ i a, l[i]? = some a → p i a
  | 0, _ => ⟨[], rfl, fun i a h => by simp at h⟩
  | n + 1, h => by
    obtain ⟨l, hl, hp⟩ := list_choose n (fun i hi => h i (by omega))
    obtain ⟨a, ha⟩ := h n (by omega)
    refine ⟨l ++ [a], by simp [hl], fun i b hb => ?_⟩
    by_cases hi : i < n
    · rw [List.getElem?_append_left (by omega)] at hb
      exact hp i b hb
    · rw [List.getElem?_append_right (by omega)] at hb
      have hi2 : i = n := by
        have := (List.getElem?_eq_some_iff.1 hb).1
        simp at this
        omega
      subst hi2
      rw [hl] at hb
      simp at hb
      exact hb ▸ ha
theorem flatMap_get {α : Type} {f : α → List AV} {sz : Nat} (hf : ∀ a, (f a).length = sz) : ∀ (l : List α) (k : Nat) (hk : k < (l.flatMap f).length), ∃ a, l[k / sz]? = some a ∧ (f a)[k % sz]? = some ((l.flatMap f)[k])
  | [], k, hk => by simp at hk
  | a :: l, k, hk => by
    rw [List.flatMap_cons, List.length_append, hf] at hk
    by_cases h : k < sz
    · refine ⟨a, by rw [Nat.div_eq_of_lt h]; rfl, ?_⟩
      rw [Nat.mod_eq_of_lt h, List.getElem?_eq_getElem (by rw [hf]; exact h)]
      congr 1
      simp only [List.flatMap_cons]
      rw [List.getElem_append_left (by rw [hf]; exact h)]
    · have hs : 0 < sz := by
        rcases Nat.eq_zero_or_pos sz with h0 | h0
        · exfalso
          subst h0
          have : (l.flatMap f) = [] := by
            rw [List.flatMap_eq_nil_iff]; intro x _; exact List.eq_nil_of_length_eq_zero (hf x)
          rw [this] at hk; simp at hk
        · exact h0
      obtain ⟨b, h1, h2⟩ := flatMap_get hf l (k - sz) (by omega)
      refine ⟨b, ?_, ?_⟩
      · rw [Nat.div_eq_sub_div hs (by omega), List.getElem?_cons_succ]; exact h1
      · rw [Nat.mod_eq_sub_mod (by omega), h2]
        congr 1
        simp only [List.flatMap_cons]
        rw [List.getElem_append_right (by rw [hf]; omega)]
        simp only [hf]
theorem cell_bl {w : World} {a : Addr} {v : Value} (h : w.cell? a = some v) : Bl w a.block := by
  unfold World.cell? at h
  unfold Bl
  rcases Nat.lt_or_ge a.block w.heap.size with hl | hl
  · exact hl
  · rw [Array.getElem?_eq_none hl] at h
    simp at h
theorem opens_slice {t e : TypeId} {α : Type} {f : α → List AV} {g : α → Prop} {sz : Nat} (ht : P.underlying t = some (.slice e)) (hs : P.cellsOf e = sz) (hf : ∀ a, (f a).length = sz) (hd : Opens P e f g) :
    Opens P t (fun l : List α => [.fs (l.flatMap f) l.length]) (fun xs => (∀ x ∈ xs, g x) ∧ xs.length * P.bytesOf e ≤ reachBytes) := by
  constructor; intro H enc w base spare held fuel cs x h hz
  rcases Go.Deep.open_slice ht h with ⟨rfl, _⟩ | ⟨a, len, cap, m, n, D, Pl, rfl, hb, hl, hm, hmm, rfl, hx⟩
  · exact ⟨[], .cons .fs0 .nil, by simp, by simp [reachBytes]⟩
  · have hlm : len ≤ m := by rw [hmm]; split <;> omega
    obtain ⟨l, hll, hp⟩ := list_choose (p := fun i b => g b ∧ ∃ c : List Value, c.length = sz ∧ VRs (Bl w) w (f b) c ∧ ∀ j u, c[j]? = some u → w.cell? (a.add (i * sz + j)) = some u) len (fun i hi => by
      obtain ⟨cs', h1, h2⟩ := hx i (by omega)
      obtain ⟨b, hk, hg⟩ := hd.out h2 (fun q hq => hz q (by
        show q ∈ DataW.weights P t (.slice ((List.range len).map D) _)
        unfold DataW.weights
        simp only [ht, List.mem_cons, List.mem_append]
        exact .inr (.inl (weights_all (List.mem_map_of_mem (List.mem_range.2 hi)) hq))))
      obtain ⟨_, hlen, hcell⟩ := World.cells?_some h1
      refine ⟨b, hg, cs', by rw [hlen, hs], hk, fun j u hj => ?_⟩
      have hj2 : j < cs'.length := (List.getElem?_eq_some_iff.1 hj).1
      have := hcell j (by omega)
      rw [hj, Go.Deep.add_add, hs] at this
      exact this)
    have hg : ∀ x ∈ l, g x := by
      intro x hx
      obtain ⟨i, hi, rfl⟩ := List.getElem_of_mem hx
      exact (hp i _ (List.getElem?_eq_getElem hi)).1
    subst hll
    refine ⟨l, .cons (.mk_fs hl ?_) .nil, hg, ?_⟩
    · intro k hk
      obtain ⟨b, h1, h2⟩ := flatMap_get hf l k hk
      obtain ⟨_, c, hc, hv, hcell⟩ := hp _ _ h1
      obtain ⟨u, hu, hvr⟩ := VRs.get hv h2
      have := hcell _ _ hu
      rw [Nat.mul_comm, Nat.div_add_mod] at this
      have hbl : Bl w a.block := by
        have h3 := cell_bl this
        rwa [add_block] at h3
      exact ⟨hbl, u, this, hvr⟩
    · have := hz ((((List.range l.length).map D).length + ((List.range (m - l.length)).map fun j => D (l.length + j)).length) * P.bytesOf e) (by
        show _ ∈ DataW.weights P t (.slice ((List.range l.length).map D) _)
        unfold DataW.weights
        simp only [ht, List.mem_cons, true_or])
      refine Nat.le_trans (Nat.mul_le_mul_right _ ?_) this
      simp
/-- Fields in a row. -/
structure OpensFs (P : Program) (fs : List Field) (off : Nat) {α : Type} (f : α → List AV) (g : α → Prop) (sz : Nat) : Prop where
  out : ∀ {H : Type} {enc : TypeId × Value → H} {w : World} {base : Nat} {spare : Nat → Bool} {held : Bool} {fuel : Nat} {cs : List Value},
    (∀ f ∈ fs, ∃ y, DataW.trod enc P w base spare held fuel f.type ((cs.drop f.offset).take (P.cellsOf f.type)) = some y ∧ ∀ n ∈ y.1.weights P f.type, n ≤ reachBytes) → ∃ a, VRs (Bl w) w (f a) ((cs.drop off).take sz) ∧ g a
theorem opensFs_one {f : Field} {off sz : Nat} {α : Type} {d : α → List AV} {g : α → Prop} (ho : f.offset = off) (hs : P.cellsOf f.type = sz) (hd : Opens P f.type d g) : OpensFs P [f] off d g sz := by
  constructor; intro H enc w base spare held fuel cs h
  obtain ⟨y, hy, hz⟩ := h f (by simp)
  rw [ho, hs] at hy
  exact hd.out hy hz
theorem opensFs_cons {f : Field} {fs : List Field} {off sz sz' : Nat} {α β : Type} {d : α → List AV} {d' : β → List AV} {g : α → Prop} {g' : β → Prop} (ho : f.offset = off) (hs : P.cellsOf f.type = sz) (hd : Opens P f.type d g) (hr : OpensFs P fs (off + sz) d' g' sz') :
    OpensFs P (f :: fs) off (fun p : α × β => d p.1 ++ d' p.2) (fun p => g p.1 ∧ g' p.2) (sz + sz') := by
  constructor; intro H enc w base spare held fuel cs h
  obtain ⟨y, hy, hz⟩ := h f (by simp)
  rw [ho, hs] at hy
  obtain ⟨a, ha, hga⟩ := hd.out hy hz
  obtain ⟨b, hb, hgb⟩ := hr.out (fun f' hf' => h f' (List.mem_cons_of_mem _ hf'))
  refine ⟨(a, b), ?_, hga, hgb⟩
  rw [List.take_add, List.drop_drop]
  exact VRs.append ha hb
theorem opens_struct {t : TypeId} {fs : Array Field} {α : Type} {d : α → List AV} {g : α → Prop} {sz : Nat} (ht : P.underlying t = some (.struct fs)) (hs : P.cellsOf t = sz) (hd : OpensFs P fs.toList 0 d g sz) :
    Opens P t d g := by
  constructor; intro H enc w base spare held fuel cs x h hz
  obtain ⟨xs, n, _, rfl, hl, hxl, hf⟩ := DataW.trod_struct ht h
  obtain ⟨a, ha, hg⟩ := hd.out (enc := enc) (w := w) (base := base) (spare := spare) (held := held) (fuel := n) (cs := cs) (fun fl hfl => by
    obtain ⟨i, hi, rfl⟩ := List.getElem_of_mem hfl
    have hi2 : i < fs.size := by simpa using hi
    have := hf i fs[i] (Array.getElem?_eq_getElem hi2)
    rw [List.getElem?_eq_getElem (by omega)] at this
    refine ⟨xs[i]'(by omega), by simpa using this, fun q hq => hz q ?_⟩
    show q ∈ DataW.weights P t (.agg (xs.map (·.1)))
    unfold DataW.weights
    simp only [ht]
    exact DataW.weights_mem_each (j := i) (t := fs[i].type) (d := (xs[i]'(by omega)).1) (by simp [List.getElem?_eq_getElem hi2]) (by simp [List.getElem?_eq_getElem (show i < xs.length by omega)]) q (by simpa using hq))
  refine ⟨a, ?_, hg⟩
  rwa [List.drop_zero, List.take_of_length_le (by omega)] at ha

/-- A contract over no own memory, told as a run. -/
theorem Codes.told {f : FuncId} {S : SC} {n : Nat} {rs : List Nat} (hcode : Codes P f S n rs) {args : List AV} {v : AV} (h : ACalls P noGl f args none' (fun v' σ' => v' = v ∧ σ' = none'))
    {w : World} {cargs : Array Value} (hv : VRs (Bl w) w args cargs.toList) : Calls P f cargs w fun e w' => ∃ cv, e = .returned cv ∧ VR (Bl w') w' v cv ∧ Below w.heap.size w w' := by
  obtain ⟨fn, c, hf, hb, hn, _, _, _⟩ := hcode.out
  have hv' : VRs (Im none' w) w args cargs.toList := hv.mono fun b hb => ⟨⟨hb, rfl⟩, rfl⟩
  have := h w cargs (rel_none w) hv'
  have hrun : (callFunc f cargs).run P w = .ok (.enter f cargs) w := by
    have hn' : ¬ fn.name = "runtime.NumGoroutine" := by simpa using hn
    unfold callFunc
    simp [hf, hn', hb]
  rw [hrun] at this
  refine Calls.mono this fun e w' => ?_
  rintro ⟨cv, rfl, v', σ', ⟨rfl, rfl⟩, hr, hs, hvr⟩
  exact ⟨cv, rfl, hvr.mono fun b hb => ⟨hb.1, rfl⟩, hs.os, hs.tape, hs.output, hs.size, fun k hk => (hs.im k hk rfl).2⟩
end Go.Ab
namespace Go.Ab
open Go.ChangeShapes Go.WideShapes Go.RowKit
/-- A contract over no own memory, told as a run, where the globals read as they should. -/
theorem Codes.toldG {P : Program} {gl : Nat → Option (List AV)} {f : FuncId} {S : SC} {n : Nat} {rs : List Nat} (hcode : Codes P f S n rs) {args : List AV} {v : AV} (h : ACalls P gl f args none' (fun v' σ' => v' = v ∧ σ' = none'))
    {w : World} {cargs : Array Value} (hg : ∀ b xs, gl b = some xs → VRa (Bl w) w xs ⟨b, 0, none⟩) (hv : VRs (Bl w) w args cargs.toList) : Calls P f cargs w fun e w' => ∃ cv, e = .returned cv ∧ VR (Bl w') w' v cv ∧ Below w.heap.size w w' := by
  obtain ⟨fn, c, hf, hb, hn, _, _, _⟩ := hcode.out
  have hv' : VRs (Im none' w) w args cargs.toList := hv.mono fun b hb => ⟨⟨hb, rfl⟩, rfl⟩
  have hr0 : Rel gl none' w := ⟨(fun b ob h => by cases h), fun b xs h => (hg b xs h).mono fun b hb => ⟨⟨hb, rfl⟩, rfl⟩⟩
  have := h w cargs hr0 hv'
  have hrun : (callFunc f cargs).run P w = .ok (.enter f cargs) w := by
    have hn' : ¬ fn.name = "runtime.NumGoroutine" := by simpa using hn
    unfold callFunc
    simp [hf, hn', hb]
  rw [hrun] at this
  refine Calls.mono this fun e w' => ?_
  rintro ⟨cv, rfl, v', σ', ⟨rfl, rfl⟩, hr, hs, hvr⟩
  exact ⟨cv, rfl, hvr.mono fun b hb => ⟨hb.1, rfl⟩, hs.os, hs.tape, hs.output, hs.size, fun k hk => (hs.im k hk rfl).2⟩
/-- the global's cells -/
def spV (s : Nat × Nat × Nat) : List Value := [.int .u8 s.1, .int .u8 s.2.1, .int .i64 s.2.2]
def spCells : Array Value := (sp.flatMap spV).toArray
def spD {H : Type} (s : Nat × Nat × Nat) : DataW H := .agg [.lit (.int .u8 s.1), .lit (.int .u8 s.2.1), .lit (.int .i64 s.2.2)]
theorem three_of {α : Type} {l : List α} (h : l.length = 3) : ∃ a b c, l = [a, b, c] := by
  match l, h with
  | [a, b, c], _ => exact ⟨a, b, c, rfl⟩
/-- A struct's three words, read back. -/
theorem span_cells {P : Program} {H : Type} {enc : TypeId × Value → H} {w : World} {base : Nat} {spare : Nat → Bool} {held : Bool} {fuel : Nat} {cs : List Value} {x : DataW H × List MemPlace} {t : TypeId} {fs : Array Field} {f0 f1 f2 : Field}
    (ht : P.underlying t = some (.struct fs)) (hc : P.cellsOf t = 3) (e0 : fs[0]? = some f0) (e1 : fs[1]? = some f1) (e2 : fs[2]? = some f2) (o0 : f0.offset = 0) (o1 : f1.offset = 1) (o2 : f2.offset = 2)
    (t0 : P.underlying f0.type = some (.int .u8)) (t1 : P.underlying f1.type = some (.int .u8)) (t2 : P.underlying f2.type = some (.int .i64)) (c0 : P.cellsOf f0.type = 1) (c1 : P.cellsOf f1.type = 1) (c2 : P.cellsOf f2.type = 1)
    (h : DataW.trod enc P w base spare held fuel t cs = some x) {s : Nat × Nat × Nat} (hx : x.1 = spD s) : cs = spV s := by
  obtain ⟨xs, n, _, rfl, hl, hn, hf⟩ := DataW.trod_struct ht h
  rw [hc] at hl
  obtain ⟨a, b, c, rfl⟩ := three_of hl
  have h0 := hf 0 f0 e0
  have h1 := hf 1 f1 e1
  have h2 := hf 2 f2 e2
  rw [o0, c0] at h0
  rw [o1, c1] at h1
  rw [o2, c2] at h2
  simp only [spD, DataW.agg.injEq] at hx
  have hxl := congrArg List.length hx
  rw [List.length_map] at hxl
  obtain ⟨x0, x1, x2, rfl⟩ := three_of (show xs.length = 3 from hxl)
  simp only [List.map_cons, List.map_nil, List.cons.injEq, and_true] at hx
  obtain ⟨k0, q0, r0, _⟩ := DataW.trod_int t0 (show DataW.trod enc P w base spare held n f0.type [a] = some x0 from h0)
  obtain ⟨k1, q1, r1, _⟩ := DataW.trod_int t1 (show DataW.trod enc P w base spare held n f1.type [b] = some x1 from h1)
  obtain ⟨k2, q2, r2, _⟩ := DataW.trod_int t2 (show DataW.trod enc P w base spare held n f2.type [c] = some x2 from h2)
  rw [r0, r1, r2] at hx
  simp at hx
  obtain ⟨rfl, rfl, rfl⟩ := hx
  simp at q0 q1 q2
  rw [q0, q1, q2]; rfl
end Go.Ab
