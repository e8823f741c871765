/- The functions of chapter 23, as statements of the machine. -/
import Derived.Test.YtpnlogofcecjeaaGreatDoorLxE
set_option linter.unusedVariables false
set_option maxRecDepth 100000
namespace Go.Vm
open Go.Proofs
def useL : List Nat := [3, 4, 5, 6, 7, 8, 9, 10, 11, 12, 13, 14, 15, 16, 17, 18, 19, 20, 21, 22, 23, 24, 25, 26, 27, 28, 29, 30, 31, 33, 34, 35, 36, 37, 38, 39, 43, 44, 45, 46, 47, 48, 49, 50, 51, 53, 55, 56, 57, 58, 65, 66, 73]
noncomputable def EE : Env := { P := Tryz.prog, ext := extL, ref := fun _ => false, use := fun f => useL.contains f, dyn := fun _ => true, G := fun _ => none }
/- 3 lineage/lineagelaw23.LexerScan -/
def c3 : SC := .seq (.reg [.set 2 (.x (.c (.s (.bool false)))), .tick 1] false) (.seq (.seq (.reg [.act (some 9) [] (.call 8 []) [], .tick 11] false) (.cond (.pick (.op (.un .not
  (.t 9)) []) (.x (.c (.s (.bool true)))) (.pick (.op (.bin .gtr .num (.t 13) (.c (.s (.int .i64 600)))) [(13, .op (.len .str (.t 12)) [(12, .x (.t 0))])]) (.op (.bin .leq .num (.t
  17) (.c (.s (.int .i64 16384)))) [(17, .op (.len .str (.t 16)) [(16, .x (.t 0))])]) (.x (.c (.s (.bool false)))))) (.seq (.reg [.act (some 21) [] (.call 8 []) [], .set 2 (.x (.t
  21)), .tick 1] false) .ret) .skip)) (.seq (.reg [.tick 1, .act (some 24) [] (.call 9 [.t 23]) [(23, .x (.t 0))], .set 3 (.op (.ext (.t 22) 0) [(22, .x (.t 24))]), .set 4 (.op
  (.ext (.t 22) 1) [(22, .x (.t 24))]), .set 5 (.op (.ext (.t 22) 2) [(22, .x (.t 24))]), .tick 7] false) (.seq (.reg [.tick 1, .act (some 30) [] (.call 10 [.t 29]) [(29, .x (.t
  0))], .set 6 (.op (.ext (.t 28) 0) [(28, .x (.t 30))]), .set 7 (.op (.ext (.t 28) 1) [(28, .x (.t 30))]), .set 8 (.op (.ext (.t 28) 2) [(28, .x (.t 30))]), .tick 7] false) (.seq
  (.reg [.tick 2, .act (some 36) [] (.call 11 [.t 34, .t 35]) [(34, .x (.t 3)), (35, .x (.t 6))], .set 2 (.pick (.pick (.x (.t 36)) (.op (.bin .eql .num (.t 38) (.t 39)) [(38, .x
  (.t 4)), (39, .x (.t 7))]) (.x (.c (.s (.bool false))))) (.op (.bin .eql .num (.t 43) (.t 44)) [(43, .x (.t 5)), (44, .x (.t 8))]) (.x (.c (.s (.bool false))))), .tick 11] false)
  .ret))))
theorem f3 : sF EE 3 [10, 11, 12, 13, 14, 15, 16, 17, 18, 19, 20, 23, 22, 25, 26, 27, 29, 28, 31, 32, 33, 34, 35, 37, 38, 39, 40, 41, 42, 43, 44, 45, 46] = some ⟨47, [.t 2], c3⟩ :=
  by kernel_rfl
/- 4 lineage/lineagelaw23.LexerOffsets -/
def c4 : SC := .seq (.reg [.set 2 (.x (.c (.s (.bool false)))), .tick 1] false) (.seq (.seq (.reg [.act (some 11) [] (.call 8 []) [], .tick 6] false) (.cond (.pick (.op (.un .not
  (.t 11)) []) (.x (.c (.s (.bool true)))) (.op (.bin .gtr .num (.t 15) (.c (.s (.int .i64 600)))) [(15, .op (.len .str (.t 14)) [(14, .x (.t 0))])])) (.seq (.reg [.act (some 18)
  [] (.call 8 []) [], .set 2 (.x (.t 18)), .tick 1] false) .ret) .skip)) (.seq (.reg [.tick 1, .act (some 21) [] (.call 9 [.t 20]) [(20, .x (.t 0))], .set 3 (.op (.ext (.t 19) 0)
  [(19, .x (.t 21))]), .set 4 (.op (.ext (.t 19) 1) [(19, .x (.t 21))]), .set 5 (.op (.ext (.t 19) 2) [(19, .x (.t 21))]), .tick 7] false) (.seq (.seq (.reg [.tick 2] false) (.cond
  (.op (.bin .neq .num (.t 25) (.c (.s (.int .i64 0)))) [(25, .x (.t 5))]) (.seq (.reg [.set 2 (.pick (.pick (.pick (.op (.bin .eql .num (.t 27) (.c (.s (.int .i64 3)))) [(27, .x
  (.t 5))]) (.op (.bin .eql .num (.t 31) (.c (.s (.int .i64 0)))) [(31, .op (.len (.sl 0) (.t 30)) [(30, .x (.t 3))])]) (.x (.c (.s (.bool false))))) (.op (.bin .geq .num (.t 35)
  (.c (.s (.int .i64 0)))) [(35, .x (.t 4))]) (.x (.c (.s (.bool false))))) (.op (.bin .lss .num (.t 39) (.t 41)) [(39, .x (.t 4)), (41, .op (.len .str (.t 40)) [(40, .x (.t
  0))])]) (.x (.c (.s (.bool false))))), .tick 18] false) .ret) .skip)) (.seq (.reg [.set 6 (.x (.c (.s (.int .i64 0)))), .tick 1] false) (.seq (.seq (.reg [.set 44 (.x (.t 3)),
  .set 45 (.op (.len (.sl 0) (.t 44)) []), .set 46 (.x (.c (.s (.int .i64 0)))), .tick 3] false) (.block 0 (.loop (.seq (.reg [.tick 1] false) (.seq (.cond (.op (.bin .lss .num (.t
  46) (.t 45)) []) .skip (.exit 0)) (.seq (.block 1 (.seq (.reg [.set 49 (.op (.load true 3 (.t 48)) [(48, .op (.ia (.sl 3) (.t 44) (.t 46)) [])]), .tick 2, .act (some 8) []
  (.alloc 30 [.int .i64 0, .int .i64 0, .str []]) [], .act none [] (.store 3 (.t 8) (.t 49)) []] false) (.seq (.seq (.reg [.tick 11] false) (.cond (.pick (.op (.bin .lss .num (.t
  51) (.t 52)) [(51, .op (.load false 1 (.t 50)) [(50, .op (.fa 1 (.t 8)) [])]), (52, .x (.t 6))]) (.x (.c (.s (.bool true)))) (.op (.bin .geq .num (.t 56) (.t 58)) [(56, .op
  (.load false 1 (.t 55)) [(55, .op (.fa 1 (.t 8)) [])]), (58, .op (.len .str (.t 57)) [(57, .x (.t 0))])])) (.seq (.reg [.set 2 (.x (.c (.s (.bool false)))), .tick 1] false) .ret)
  .skip)) (.seq (.reg [.set 9 (.op (.iv .str (.t 61) (.t 63)) [(61, .x (.t 0)), (63, .op (.load false 1 (.t 62)) [(62, .op (.fa 1 (.t 8)) [])])]), .set 10 (.op (.sl .str (.t 65)
  (some (.t 67)) none) [(65, .x (.t 0)), (67, .op (.load false 1 (.t 66)) [(66, .op (.fa 1 (.t 8)) [])])]), .tick 10] true) (.seq (.reg [.set 6 (.op (.bin .add .num (.t 70) (.c (.s
  (.int .i64 1)))) [(70, .op (.load false 1 (.t 69)) [(69, .op (.fa 1 (.t 8)) [])])]), .tick 4] false) (.seq (.reg [.set 73 (.op (.load false 1 (.t 72)) [(72, .op (.fa 0 (.t 8))
  [])]), .tick 2] false) (.block 2 (.seq (.seq (.reg [.set 74 (.op (.bin .eql .num (.t 73) (.c (.s (.int .i64 1)))) []), .tick 2] false) (.cond (.x (.t 74)) .skip (.reg [.set 74
  (.op (.bin .eql .num (.t 73) (.c (.s (.int .i64 0)))) []), .tick 2] false))) (.cond (.x (.t 74)) (.seq (.reg [.set 77 (.op (.fa 1 (.t 8)) []), .set 78 (.op (.load false 1 (.t
  77)) []), .set 79 (.op (.fa 2 (.t 8)) []), .set 80 (.op (.load false 1 (.t 79)) []), .set 81 (.op (.len .str (.t 80)) []), .set 82 (.op (.bin .add .num (.t 78) (.t 81)) []), .set
  6 (.x (.t 82)), .tick 7] false) (.seq (.regD [.tick 1, .act (some 84) [] (.call 12 [.t 83]) [(83, .x (.t 9))], .set 94 (.pick (.op (.un .not (.t 84)) []) (.x (.c (.s (.bool
  true)))) (.op (.bin .lss .num (.t 88) (.t 91)) [(88, .op (.len .str (.t 87)) [(87, .x (.t 10))]), (91, .op (.len .str (.t 90)) [(90, .op (.load false 1 (.t 89)) [(89, .op (.fa 2
  (.t 8)) [])])])])), .tick 15, .act (some 100) [(.x (.t 94), false)] (.call 13 [.t 99]) [(99, .op (.sl .str (.t 95) none (some (.t 98))) [(95, .x (.t 10)), (98, .op (.len .str (.t
  97)) [(97, .op (.load false 1 (.t 96)) [(96, .op (.fa 2 (.t 8)) [])])])])], .tick 2, .act (some 103) [(.x (.t 94), false)] (.call 13 [.t 102]) [(102, .op (.load false 1 (.t 101))
  [(101, .op (.fa 2 (.t 8)) [])])], .need [] (.pick (.x (.t 94)) (.x (.c (.s (.bool true)))) (.op (.bin .neq .num (.t 100) (.t 103)) [])), .need [(.x (.t 94), false)] (.op (.bin
  .neq .num (.t 100) (.t 103)) []), .tick 5, .act (some 109) [(.pick (.x (.t 94)) (.x (.c (.s (.bool true)))) (.op (.bin .neq .num (.t 100) (.t 103)) []), false)] (.call 14 [.t
  108]) [(108, .op (.load false 1 (.t 107)) [(107, .op (.fa 2 (.t 8)) [])])], .tick 5] [] [9]) (.cond (.pick (.pick (.x (.t 94)) (.x (.c (.s (.bool true)))) (.op (.bin .neq .num
  (.t 100) (.t 103)) [])) (.x (.c (.s (.bool true)))) (.op (.bin .neq .bool (.t 109) (.t 112)) [(112, .op (.bin .eql .num (.t 111) (.c (.s (.int .i64 1)))) [(111, .op (.load false
  1 (.t 110)) [(110, .op (.fa 0 (.t 8)) [])])])])) (.seq (.reg [.set 2 (.x (.c (.s (.bool false)))), .tick 1] false) .ret) .skip))) (.seq (.reg [.tick 2] false) (.cond (.op (.bin
  .eql .num (.t 73) (.c (.s (.int .i64 2)))) []) (.seq (.reg [.tick 1, .act (some 118) [] (.call 15 [.t 117]) [(117, .x (.t 9))], .tick 1] false) (.cond (.op (.un .not (.t 118))
  []) (.seq (.reg [.set 2 (.x (.c (.s (.bool false)))), .tick 1] false) .ret) .skip)) (.seq (.reg [.tick 2] false) (.cond (.op (.bin .eql .num (.t 73) (.c (.s (.int .i64 3)))) [])
  (.seq (.reg [.set 123 (.op (.load false 1 (.t 122)) [(122, .op (.fa 1 (.t 8)) [])]), .tick 4, .act (some 126) [] (.call 16 [.t 125]) [(125, .op (.load false 1 (.t 124)) [(124,
  .op (.fa 2 (.t 8)) [])])], .set 6 (.op (.bin .add .num (.t 123) (.t 127)) [(127, .op (.len .str (.t 126)) [])]), .tick 3] true) (.seq (.reg [.set 139 (.pick (.op (.bin .gtr .num
  (.t 131) (.c (.s (.int .i64 255)))) [(131, .op (.len .str (.t 130)) [(130, .op (.load false 1 (.t 129)) [(129, .op (.fa 2 (.t 8)) [])])])]) (.x (.c (.s (.bool true)))) (.op (.bin
  .gtr .num (.t 134) (.t 136)) [(134, .x (.t 6)), (136, .op (.len .str (.t 135)) [(135, .x (.t 0))])])), .tick 15, .act (some 144) [(.x (.t 139), false)] (.sl .str (.t 140) (some
  (.t 142)) (some (.t 143))) [(140, .x (.t 0)), (142, .op (.load false 1 (.t 141)) [(141, .op (.fa 1 (.t 8)) [])]), (143, .x (.t 6))], .tick 2, .act (some 147) [(.x (.t 139),
  false)] (.call 16 [.t 146]) [(146, .op (.load false 1 (.t 145)) [(145, .op (.fa 2 (.t 8)) [])])], .tick 2] true) (.seq (.reg [.need [(.x (.t 139), false)] (.op (.bin .neq .num
  (.t 144) (.t 147)) [])] false) (.cond (.pick (.x (.t 139)) (.x (.c (.s (.bool true)))) (.op (.bin .neq .num (.t 144) (.t 147)) [])) (.seq (.reg [.set 2 (.x (.c (.s (.bool
  false)))), .tick 1] false) .ret) .skip)))) (.seq (.reg [.tick 2] false) (.cond (.op (.bin .eql .num (.t 73) (.c (.s (.int .i64 4)))) []) (.seq (.reg [.set 6 (.op (.bin .add .num
  (.t 153) (.t 156)) [(153, .op (.load false 1 (.t 152)) [(152, .op (.fa 1 (.t 8)) [])]), (156, .op (.len .str (.t 155)) [(155, .op (.load false 1 (.t 154)) [(154, .op (.fa 2 (.t
  8)) [])])])]), .tick 7] false) (.seq (.reg [.tick 14] true) (.cond (.pick (.op (.bin .gtr .num (.t 158) (.t 160)) [(158, .x (.t 6)), (160, .op (.len .str (.t 159)) [(159, .x (.t
  0))])]) (.x (.c (.s (.bool true)))) (.op (.bin .neq .num (.t 167) (.t 169)) [(167, .op (.sl .str (.t 163) (some (.t 165)) (some (.t 166))) [(163, .x (.t 0)), (165, .op (.load
  false 1 (.t 164)) [(164, .op (.fa 1 (.t 8)) [])]), (166, .x (.t 6))]), (169, .op (.load false 1 (.t 168)) [(168, .op (.fa 2 (.t 8)) [])])])) (.seq (.reg [.set 2 (.x (.c (.s
  (.bool false)))), .tick 1] false) .ret) .skip))) (.seq (.reg [.set 2 (.x (.c (.s (.bool false)))), .tick 1] false) .ret)))))))))))))))) (.reg [.set 46 (.op (.bin .add .num (.t
  46) (.c (.s (.int .i64 1)))) []), .tick 2] false))))))) (.seq (.reg [.set 2 (.op (.bin .eql .num (.t 173) (.t 175)) [(173, .x (.t 4)), (175, .op (.len .str (.t 174)) [(174, .x
  (.t 0))])]), .tick 5] false) .ret))))))
theorem f4 : sF EE 4 [12, 13, 14, 15, 16, 17, 20, 19, 22, 23, 24, 25, 26, 27, 28, 29, 30, 31, 32, 33, 34, 35, 36, 37, 38, 39, 40, 41, 42, 43, 47, 48, 50, 51, 52, 53, 54, 55, 56,
  57, 58, 59, 60, 61, 62, 63, 64, 65, 66, 67, 68, 69, 70, 71, 72, 75, 76, 83, 85, 86, 87, 88, 89, 90, 91, 92, 93, 95, 96, 97, 98, 99, 101, 102, 104, 105, 106, 107, 108, 110, 111,
  112, 113, 114, 116, 115, 117, 119, 121, 120, 122, 124, 125, 127, 128, 129, 130, 131, 132, 133, 134, 135, 136, 137, 138, 140, 141, 142, 143, 145, 146, 148, 149, 151, 150, 152,
  153, 154, 155, 156, 157, 158, 159, 160, 161, 162, 163, 164, 165, 166, 167, 168, 169, 170, 171, 172, 173, 174, 175, 176] = some ⟨177, [.t 2], c4⟩ := by kernel_rfl
/- 5 lineage/lineagelaw23.LexerQuote -/
def c5 : SC := .seq (.reg [.set 2 (.x (.c (.s (.bool false)))), .tick 1] false) (.seq (.seq (.reg [.act (some 10) [] (.call 8 []) [], .tick 6] false) (.cond (.pick (.op (.un .not
  (.t 10)) []) (.x (.c (.s (.bool true)))) (.op (.bin .gtr .num (.t 14) (.c (.s (.int .i64 600)))) [(14, .op (.len .str (.t 13)) [(13, .x (.t 0))])])) (.seq (.reg [.act (some 17)
  [] (.call 8 []) [], .set 2 (.x (.t 17)), .tick 1] false) .ret) .skip)) (.seq (.reg [.tick 1, .act (some 19) [] (.call 16 [.t 18]) [(18, .x (.t 0))], .set 3 (.x (.t 19)), .tick 1]
  false) (.seq (.reg [.tick 1, .act (some 22) [] (.call 17 [.t 21]) [(21, .x (.t 3))], .set 4 (.op (.ext (.t 20) 0) [(20, .x (.t 22))]), .set 5 (.op (.ext (.t 20) 1) [(20, .x (.t
  22))]), .tick 5] false) (.seq (.reg [.tick 1, .act (some 27) [] (.call 17 [.t 26]) [(26, .x (.t 0))], .set 6 (.op (.ext (.t 25) 0) [(25, .x (.t 27))]), .set 7 (.op (.ext (.t 25)
  1) [(25, .x (.t 27))]), .tick 5] false) (.seq (.reg [.tick 1, .act (some 32) [] (.call 18 [.t 31]) [(31, .x (.t 0))], .set 8 (.op (.ext (.t 30) 0) [(30, .x (.t 32))]), .set 9
  (.op (.ext (.t 30) 1) [(30, .x (.t 32))]), .tick 5] false) (.seq (.reg [.tick 2, .act (some 37) [] (.call 19 [.t 36]) [(36, .x (.t 0))], .need [(.pick (.pick (.pick (.pick (.op
  (.bin .eql .num (.t 35) (.t 37)) [(35, .x (.t 3))]) (.x (.t 5)) (.x (.c (.s (.bool false))))) (.op (.bin .eql .num (.t 43) (.t 44)) [(43, .x (.t 4)), (44, .x (.t 0))]) (.x (.c
  (.s (.bool false))))) (.op (.bin .eql .num (.t 48) (.t 49)) [(48, .x (.t 6)), (49, .x (.t 8))]) (.x (.c (.s (.bool false))))) (.op (.bin .eql .bool (.t 53) (.t 54)) [(53, .x (.t
  7)), (54, .x (.t 9))]) (.x (.c (.s (.bool false)))), true)] (.op (.un .not (.t 58)) [(58, .x (.t 7))]), .need [] (.pick (.pick (.pick (.pick (.op (.bin .eql .num (.t 35) (.t 37))
  [(35, .x (.t 3))]) (.x (.t 5)) (.x (.c (.s (.bool false))))) (.op (.bin .eql .num (.t 43) (.t 44)) [(43, .x (.t 4)), (44, .x (.t 0))]) (.x (.c (.s (.bool false))))) (.op (.bin
  .eql .num (.t 48) (.t 49)) [(48, .x (.t 6)), (49, .x (.t 8))]) (.x (.c (.s (.bool false))))) (.op (.bin .eql .bool (.t 53) (.t 54)) [(53, .x (.t 7)), (54, .x (.t 9))]) (.x (.c
  (.s (.bool false))))), .tick 24, .act (some 62) [(.pick (.pick (.pick (.pick (.op (.bin .eql .num (.t 35) (.t 37)) [(35, .x (.t 3))]) (.x (.t 5)) (.x (.c (.s (.bool false)))))
  (.op (.bin .eql .num (.t 43) (.t 44)) [(43, .x (.t 4)), (44, .x (.t 0))]) (.x (.c (.s (.bool false))))) (.op (.bin .eql .num (.t 48) (.t 49)) [(48, .x (.t 6)), (49, .x (.t 8))])
  (.x (.c (.s (.bool false))))) (.op (.bin .eql .bool (.t 53) (.t 54)) [(53, .x (.t 7)), (54, .x (.t 9))]) (.x (.c (.s (.bool false)))), true), (.op (.un .not (.t 58)) [(58, .x (.t
  7))], false)] (.call 16 [.t 61]) [(61, .x (.t 6))], .set 2 (.pick (.pick (.pick (.pick (.pick (.op (.bin .eql .num (.t 35) (.t 37)) [(35, .x (.t 3))]) (.x (.t 5)) (.x (.c (.s
  (.bool false))))) (.op (.bin .eql .num (.t 43) (.t 44)) [(43, .x (.t 4)), (44, .x (.t 0))]) (.x (.c (.s (.bool false))))) (.op (.bin .eql .num (.t 48) (.t 49)) [(48, .x (.t 6)),
  (49, .x (.t 8))]) (.x (.c (.s (.bool false))))) (.op (.bin .eql .bool (.t 53) (.t 54)) [(53, .x (.t 7)), (54, .x (.t 9))]) (.x (.c (.s (.bool false))))) (.pick (.op (.un .not (.t
  58)) [(58, .x (.t 7))]) (.x (.c (.s (.bool true)))) (.op (.bin .eql .num (.t 62) (.t 63)) [(63, .x (.t 0))])) (.x (.c (.s (.bool false))))), .tick 5] false) .ret))))))
theorem f5 : sF EE 5 [11, 12, 13, 14, 15, 16, 18, 21, 20, 23, 24, 26, 25, 28, 29, 31, 30, 33, 34, 35, 36, 38, 39, 40, 41, 42, 43, 44, 45, 46, 47, 48, 49, 50, 51, 52, 53, 54, 55,
  56, 57, 58, 59, 60, 61, 63, 64, 65, 66] = some ⟨67, [.t 2], c5⟩ := by kernel_rfl
/- 6 lineage/lineagelaw23.LexerKeywords -/
def c6 : SC := .seq (.reg [.set 2 (.x (.c (.s (.bool false)))), .tick 1] false) (.seq (.seq (.reg [.act (some 10) [] (.call 8 []) [], .tick 6] false) (.cond (.pick (.op (.un .not
  (.t 10)) []) (.x (.c (.s (.bool true)))) (.op (.bin .gtr .num (.t 14) (.c (.s (.int .i64 100)))) [(14, .op (.len .str (.t 13)) [(13, .x (.t 0))])])) (.seq (.reg [.act (some 17)
  [] (.call 8 []) [], .set 2 (.x (.t 17)), .tick 1] false) .ret) .skip)) (.seq (.reg [.act (some 18) [] (.call 20 []) [], .act (some 19) [] (.call 21 []) [], .set 3 (.x (.t 18)),
  .set 4 (.x (.t 19)), .tick 2] false) (.seq (.reg [.act (some 20) [] (.call 22 []) [], .act (some 21) [] (.call 23 []) [], .set 5 (.x (.t 20)), .set 6 (.x (.t 21)), .tick 2]
  false) (.seq (.seq (.reg [.tick 12] false) (.cond (.pick (.op (.bin .neq .num (.t 23) (.t 25)) [(23, .op (.len (.sl 0) (.t 22)) [(22, .x (.t 3))]), (25, .op (.len (.sl 0) (.t
  24)) [(24, .x (.t 5))])]) (.x (.c (.s (.bool true)))) (.op (.bin .neq .num (.t 29) (.t 31)) [(29, .op (.len (.sl 0) (.t 28)) [(28, .x (.t 4))]), (31, .op (.len (.sl 0) (.t 30))
  [(30, .x (.t 6))])])) (.seq (.reg [.set 2 (.x (.c (.s (.bool false)))), .tick 1] false) .ret) .skip)) (.seq (.reg [.set 7 (.x (.c (.s (.bool false)))), .tick 1] false) (.seq
  (.seq (.reg [.set 35 (.op (.len (.sl 0) (.t 34)) [(34, .x (.t 3))]), .set 36 (.x (.c (.s (.int .i64 0)))), .tick 3] false) (.block 0 (.loop (.seq (.reg [.tick 1] false) (.seq
  (.cond (.op (.bin .lss .num (.t 36) (.t 35)) []) .skip (.exit 0)) (.seq (.block 1 (.seq (.reg [.set 8 (.x (.t 36)), .tick 2] false) (.seq (.seq (.reg [.set 48 (.op (.bin .neq
  .num (.t 42) (.t 46)) [(42, .op (.load false 1 (.t 41)) [(41, .op (.ia (.sl 1) (.t 39) (.t 40)) [(39, .x (.t 3)), (40, .x (.t 8))])]), (46, .op (.load false 1 (.t 45)) [(45, .op
  (.ia (.sl 1) (.t 43) (.t 44)) [(43, .x (.t 5)), (44, .x (.t 8))])])]), .tick 14, .act (some 53) [(.x (.t 48), false)] (.call 24 [.t 52]) [(52, .op (.load false 1 (.t 51)) [(51,
  .op (.ia (.sl 1) (.t 49) (.t 50)) [(49, .x (.t 3)), (50, .x (.t 8))])])], .act (some 54) [(.x (.t 48), false)] (.call 14 [.t 53]) [], .tick 2] true) (.seq (.reg [.need [(.x (.t
  48), false)] (.op (.un .not (.t 54)) [])] false) (.cond (.pick (.x (.t 48)) (.x (.c (.s (.bool true)))) (.op (.un .not (.t 54)) [])) (.seq (.reg [.set 2 (.x (.c (.s (.bool
  false)))), .tick 1] false) .ret) .skip))) (.regD [.tick 3, .act (some 60) [(.x (.t 7), false)] (.call 13 [.t 59]) [(59, .x (.t 0))], .set 7 (.pick (.x (.t 7)) (.x (.c (.s (.bool
  true)))) (.op (.bin .eql .num (.t 60) (.t 64)) [(64, .op (.load false 1 (.t 63)) [(63, .op (.ia (.sl 1) (.t 61) (.t 62)) [(61, .x (.t 3)), (62, .x (.t 8))])])])), .tick 7] []
  [0])))) (.reg [.set 36 (.op (.bin .add .num (.t 36) (.c (.s (.int .i64 1)))) []), .tick 2] false))))))) (.seq (.seq (.reg [.set 69 (.op (.len (.sl 0) (.t 68)) [(68, .x (.t 4))]),
  .set 70 (.x (.c (.s (.int .i64 0)))), .tick 3] false) (.block 2 (.loop (.seq (.reg [.tick 1] false) (.seq (.cond (.op (.bin .lss .num (.t 70) (.t 69)) []) .skip (.exit 2)) (.seq
  (.block 3 (.seq (.reg [.set 9 (.x (.t 70)), .tick 2] false) (.seq (.reg [.tick 9] true) (.cond (.op (.bin .neq .num (.t 76) (.t 80)) [(76, .op (.load false 1 (.t 75)) [(75, .op
  (.ia (.sl 1) (.t 73) (.t 74)) [(73, .x (.t 4)), (74, .x (.t 9))])]), (80, .op (.load false 1 (.t 79)) [(79, .op (.ia (.sl 1) (.t 77) (.t 78)) [(77, .x (.t 6)), (78, .x (.t
  9))])])]) (.seq (.reg [.set 2 (.x (.c (.s (.bool false)))), .tick 1] false) .ret) .skip)))) (.reg [.set 70 (.op (.bin .add .num (.t 70) (.c (.s (.int .i64 1)))) []), .tick 2]
  false))))))) (.seq (.reg [.tick 1, .act (some 84) [] (.call 14 [.t 83]) [(83, .x (.t 0))], .set 2 (.op (.bin .eql .bool (.t 84) (.t 85)) [(85, .x (.t 7))]), .tick 3] false)
  .ret))))))))
theorem f6 : sF EE 6 [11, 12, 13, 14, 15, 16, 22, 23, 24, 25, 26, 27, 28, 29, 30, 31, 32, 33, 34, 37, 38, 39, 40, 41, 42, 43, 44, 45, 46, 47, 49, 50, 51, 52, 55, 56, 57, 58, 59,
  61, 62, 63, 64, 65, 66, 67, 68, 71, 72, 73, 74, 75, 76, 77, 78, 79, 80, 81, 82, 83, 85, 86] = some ⟨87, [.t 2], c6⟩ := by kernel_rfl
/- 7 lineage/lineagelaw23.LexerFormat -/
def c7 : SC := .seq (.reg [.set 4 (.x (.c (.s (.bool false)))), .tick 1] false) (.seq (.seq (.reg [.act (some 13) [] (.call 8 []) [], .tick 11] false) (.cond (.pick (.pick (.op
  (.un .not (.t 13)) []) (.x (.c (.s (.bool true)))) (.op (.bin .gtr .num (.t 17) (.c (.s (.int .i64 600)))) [(17, .op (.len .str (.t 16)) [(16, .x (.t 0))])])) (.x (.c (.s (.bool
  true)))) (.op (.bin .gtr .num (.t 22) (.c (.s (.int .i64 20)))) [(22, .op (.len (.sl 0) (.t 21)) [(21, .x (.t 1))])])) (.seq (.reg [.act (some 25) [] (.call 8 []) [], .set 4 (.x
  (.t 25)), .tick 1] false) .ret) .skip)) (.seq (.seq (.reg [.set 26 (.x (.t 1)), .set 27 (.op (.len (.sl 0) (.t 26)) []), .set 28 (.x (.c (.s (.int .i64 0)))), .tick 3] false)
  (.block 0 (.loop (.seq (.reg [.tick 1] false) (.seq (.cond (.op (.bin .lss .num (.t 28) (.t 27)) []) .skip (.exit 0)) (.seq (.block 1 (.seq (.reg [.set 31 (.op (.load true 3 (.t
  30)) [(30, .op (.ia (.sl 3) (.t 26) (.t 28)) [])]), .tick 2, .act (some 6) [] (.alloc 30 [.int .i64 0, .int .i64 0, .str []]) [], .act none [] (.store 3 (.t 6) (.t 31)) []]
  false) (.seq (.reg [.tick 4] false) (.cond (.op (.bin .gtr .num (.t 34) (.c (.s (.int .i64 300)))) [(34, .op (.len .str (.t 33)) [(33, .op (.load false 1 (.t 32)) [(32, .op (.fa
  2 (.t 6)) [])])])]) (.seq (.reg [.set 4 (.x (.c (.s (.bool true)))), .tick 1] false) .ret) .skip)))) (.reg [.set 28 (.op (.bin .add .num (.t 28) (.c (.s (.int .i64 1)))) []),
  .tick 2] false))))))) (.seq (.seq (.reg [.tick 1, .act (some 38) [] (.call 25 [.t 37]) [(37, .x (.t 1))], .tick 1, .act (some 40) [] (.call 26 [.t 39]) [(39, .x (.t 1))], .tick
  1] false) (.cond (.op (.bin .neq .num (.t 38) (.t 40)) []) (.seq (.reg [.set 4 (.x (.c (.s (.bool false)))), .tick 1] false) .ret) .skip)) (.seq (.reg [.tick 1, .act (some 44) []
  (.call 9 [.t 43]) [(43, .x (.t 0))], .set 7 (.op (.ext (.t 42) 0) [(42, .x (.t 44))]), .set 9 (.op (.ext (.t 42) 2) [(42, .x (.t 44))]), .tick 7] false) (.seq (.seq (.reg [.tick
  2] false) (.seq (.reg [.need [] (.op (.ext (.t 42) 1) [(42, .x (.t 44))])] false) (.cond (.op (.bin .neq .num (.t 48) (.c (.s (.int .i64 0)))) [(48, .x (.t 9))]) (.seq (.reg
  [.set 4 (.x (.c (.s (.bool true)))), .tick 1] false) .ret) .skip))) (.seq (.reg [.tick 1, .act (some 52) [] (.call 25 [.t 51]) [(51, .x (.t 7))], .act (some 53) [] (.call 9 [.t
  52]) [], .set 10 (.op (.ext (.t 50) 0) [(50, .x (.t 53))]), .set 12 (.op (.ext (.t 50) 2) [(50, .x (.t 53))]), .tick 7] false) (.seq (.reg [.need [] (.op (.bin .eql .num (.t 57)
  (.c (.s (.int .i64 0)))) [(57, .x (.t 12))]), .need [] (.op (.ext (.t 50) 1) [(50, .x (.t 53))]), .tick 5, .act (some 62) [(.op (.bin .eql .num (.t 57) (.c (.s (.int .i64 0))))
  [(57, .x (.t 12))], true)] (.call 27 [.t 60, .t 61]) [(60, .x (.t 7)), (61, .x (.t 10))], .set 4 (.pick (.op (.bin .eql .num (.t 57) (.c (.s (.int .i64 0)))) [(57, .x (.t 12))])
  (.x (.t 62)) (.x (.c (.s (.bool false))))), .tick 2] false) .ret)))))))
theorem f7 : sF EE 7 [14, 15, 16, 17, 18, 19, 20, 21, 22, 23, 24, 29, 30, 32, 33, 34, 35, 36, 37, 39, 41, 43, 42, 45, 46, 47, 8, 48, 49, 51, 50, 54, 55, 56, 11, 57, 58, 59, 60, 61,
  63] = some ⟨64, [.t 4], c7⟩ := by kernel_rfl
/- 8 lineage/lineagelaw23.awake -/
def c8 : SC := .seq (.reg [.set 0 (.x (.c (.s (.bool false)))), .tick 1] false) (.seq (.reg [.act (some 8) [] (.call 9 [.c (.s (.str [83, 101, 108, 101, 99, 116, 32, 120, 49, 44,
  32, 39, 105, 116, 39, 39, 115, 39, 32, 60, 61, 32, 48, 48, 55]))]) [], .set 1 (.op (.ext (.t 7) 0) [(7, .x (.t 8))]), .set 2 (.op (.ext (.t 7) 1) [(7, .x (.t 8))]), .set 3 (.op
  (.ext (.t 7) 2) [(7, .x (.t 8))]), .tick 7] false) (.seq (.reg [.act (some 13) [] (.call 9 [.c (.s (.str [49, 50, 97, 98]))]) [], .set 5 (.op (.ext (.t 12) 1) [(12, .x (.t
  13))]), .set 6 (.op (.ext (.t 12) 2) [(12, .x (.t 13))]), .tick 7] false) (.seq (.reg [.need [] (.pick (.pick (.pick (.op (.bin .eql .num (.t 17) (.c (.s (.int .i64 0)))) [(17,
  .x (.t 3))]) (.op (.bin .eql .num (.t 20) (.c (.s (.int .i64 25)))) [(20, .x (.t 2))]) (.x (.c (.s (.bool false))))) (.op (.bin .eql .num (.t 24) (.c (.s (.int .i64 3)))) [(24,
  .x (.t 6))]) (.x (.c (.s (.bool false))))) (.op (.bin .eql .num (.t 28) (.c (.s (.int .i64 2)))) [(28, .x (.t 5))]) (.x (.c (.s (.bool false))))), .need [] (.op (.ext (.t 12) 0)
  [(12, .x (.t 13))]), .tick 22, .act (some 39) [(.pick (.pick (.pick (.op (.bin .eql .num (.t 17) (.c (.s (.int .i64 0)))) [(17, .x (.t 3))]) (.op (.bin .eql .num (.t 20) (.c (.s
  (.int .i64 25)))) [(20, .x (.t 2))]) (.x (.c (.s (.bool false))))) (.op (.bin .eql .num (.t 24) (.c (.s (.int .i64 3)))) [(24, .x (.t 6))]) (.x (.c (.s (.bool false))))) (.op
  (.bin .eql .num (.t 28) (.c (.s (.int .i64 2)))) [(28, .x (.t 5))]) (.x (.c (.s (.bool false)))), true)] (.rows 3 [.int .i64 0, .int .i64 0, .str []] 6 [(0, .t 33), (1, .t 34),
  (2, .t 35), (3, .t 36), (4, .t 37), (5, .t 38)]) [(33, .op (.build [.int .i64 0, .int .i64 0, .str []] [(0, 1, .c (.s (.int .i64 1))), (2, 1, .c (.s (.str [83, 69, 76, 69, 67,
  84])))]) []), (34, .op (.build [.int .i64 0, .int .i64 0, .str []] [(0, 1, .c (.s (.int .i64 0))), (1, 1, .c (.s (.int .i64 7))), (2, 1, .c (.s (.str [120, 49])))]) []), (35, .op
  (.build [.int .i64 0, .int .i64 0, .str []] [(0, 1, .c (.s (.int .i64 4))), (1, 1, .c (.s (.int .i64 9))), (2, 1, .c (.s (.str [44])))]) []), (36, .op (.build [.int .i64 0, .int
  .i64 0, .str []] [(0, 1, .c (.s (.int .i64 3))), (1, 1, .c (.s (.int .i64 11))), (2, 1, .c (.s (.str [105, 116, 39, 115])))]) []), (37, .op (.build [.int .i64 0, .int .i64 0,
  .str []] [(0, 1, .c (.s (.int .i64 4))), (1, 1, .c (.s (.int .i64 19))), (2, 1, .c (.s (.str [60, 61])))]) []), (38, .op (.build [.int .i64 0, .int .i64 0, .str []] [(0, 1, .c
  (.s (.int .i64 2))), (1, 1, .c (.s (.int .i64 22))), (2, 1, .c (.s (.str [55])))]) [])], .act (some 40) [(.pick (.pick (.pick (.op (.bin .eql .num (.t 17) (.c (.s (.int .i64
  0)))) [(17, .x (.t 3))]) (.op (.bin .eql .num (.t 20) (.c (.s (.int .i64 25)))) [(20, .x (.t 2))]) (.x (.c (.s (.bool false))))) (.op (.bin .eql .num (.t 24) (.c (.s (.int .i64
  3)))) [(24, .x (.t 6))]) (.x (.c (.s (.bool false))))) (.op (.bin .eql .num (.t 28) (.c (.s (.int .i64 2)))) [(28, .x (.t 5))]) (.x (.c (.s (.bool false)))), true)] (.call 11 [.t
  32, .t 39]) [(32, .x (.t 1))], .set 0 (.pick (.pick (.pick (.pick (.op (.bin .eql .num (.t 17) (.c (.s (.int .i64 0)))) [(17, .x (.t 3))]) (.op (.bin .eql .num (.t 20) (.c (.s
  (.int .i64 25)))) [(20, .x (.t 2))]) (.x (.c (.s (.bool false))))) (.op (.bin .eql .num (.t 24) (.c (.s (.int .i64 3)))) [(24, .x (.t 6))]) (.x (.c (.s (.bool false))))) (.op
  (.bin .eql .num (.t 28) (.c (.s (.int .i64 2)))) [(28, .x (.t 5))]) (.x (.c (.s (.bool false))))) (.x (.t 40)) (.x (.c (.s (.bool false))))), .tick 2] false) .ret)))
theorem f8 : sF EE 8 [7, 9, 10, 11, 12, 14, 15, 16, 4, 17, 18, 19, 20, 21, 22, 23, 24, 25, 26, 27, 28, 29, 30, 31, 32, 33, 34, 35, 36, 37, 38, 41] = some ⟨42, [.t 0], c8⟩ := by
  kernel_rfl
/- 9 lineage/lexer.Scan -/
def c9 : SC := .seq (.reg [.set 2 (.x (.c (.s .nils))), .set 3 (.x (.c (.s (.int .i64 0)))), .set 4 (.x (.c (.s (.int .i64 0)))), .tick 3] false) (.seq (.seq (.reg [.tick 3] false)
  (.cond (.op (.bin .gtr .num (.t 11) (.c (.s (.int .i64 16384)))) [(11, .op (.len .str (.t 10)) [(10, .x (.t 0))])]) (.seq (.reg [.set 2 (.x (.c (.s .nils))), .set 3 (.x (.c (.s
  (.int .i64 0)))), .set 4 (.x (.c (.s (.int .i64 6)))), .tick 3] false) .ret) .skip)) (.seq (.reg [.set 5 (.x (.c (.s .nils))), .tick 1] false) (.seq (.reg [.tick 1, .act (some
  14) [] (.call 28 [.t 13]) [(13, .x (.t 0))], .set 6 (.x (.t 14)), .tick 1] false) (.seq (.block 0 (.loop (.seq (.seq (.reg [.tick 4] false) (.cond (.op (.bin .lss .num (.t 15)
  (.t 17)) [(15, .x (.t 6)), (17, .op (.len .str (.t 16)) [(16, .x (.t 0))])]) .skip (.exit 0))) (.block 1 (.seq (.reg [.act (some 7) [] (.alloc 42 [.int .i64 0, .int .i64 0, .str
  [], .int .i64 0, .int .i64 0]) []] false) (.seq (.seq (.reg [.act (some 19) [] (.rows 1 [.nilf] 4 [(0, .c (.s (.func 29))), (1, .c (.s (.func 30))), (2, .c (.s (.func 31))), (3,
  .c (.s (.func 32)))]) [], .set 20 (.op (.len (.sl 0) (.t 19)) []), .set 21 (.x (.c (.s (.int .i64 0)))), .tick 2] false) (.block 2 (.loop (.seq (.reg [.tick 1] false) (.seq
  (.cond (.op (.bin .lss .num (.t 21) (.t 20)) []) .skip (.exit 2)) (.seq (.block 3 (.seq (.reg [.set 9 (.op (.load false 1 (.t 23)) [(23, .op (.ia (.sl 1) (.t 19) (.t 21)) [])]),
  .tick 3] false) (.seq (.reg [.tick 4, .act (some 29) [] (.callv (.t 25) [.t 28]) [(25, .x (.t 9)), (28, .op (.sl .str (.t 26) (some (.t 27)) none) [(26, .x (.t 0)), (27, .x (.t
  6))])], .act none [] (.store 5 (.t 7) (.t 29)) []] false) (.seq (.reg [.tick 8] false) (.cond (.pick (.op (.bin .gtr .num (.t 31) (.c (.s (.int .i64 0)))) [(31, .op (.load false
  1 (.t 30)) [(30, .op (.fa 3 (.t 7)) [])])]) (.x (.c (.s (.bool true)))) (.op (.bin .geq .num (.t 35) (.c (.s (.int .i64 0)))) [(35, .op (.load false 1 (.t 34)) [(34, .op (.fa 4
  (.t 7)) [])])])) (.exit 2) .skip))))) (.reg [.set 21 (.op (.bin .add .num (.t 21) (.c (.s (.int .i64 1)))) []), .tick 2] false))))))) (.seq (.seq (.reg [.tick 3] false) (.cond
  (.op (.bin .eql .num (.t 40) (.c (.s (.int .i64 0)))) [(40, .op (.load false 1 (.t 39)) [(39, .op (.fa 3 (.t 7)) [])])]) (.seq (.reg [.set 2 (.x (.c (.s .nils))), .set 3 (.op
  (.bin .add .num (.t 42) (.t 45)) [(42, .x (.t 6)), (45, .op (.mx true (.t 44) [.c (.s (.int .i64 0))]) [(44, .op (.load false 1 (.t 43)) [(43, .op (.fa 4 (.t 7)) [])])])]), .set
  4 (.x (.c (.s (.int .i64 3)))), .tick 8] true) .ret) .skip)) (.seq (.reg [.tick 3, .act none [] (.store 1 (.t 49) (.t 47)) [(49, .op (.fa 1 (.t 48)) [(48, .op (.fa 0 (.t 7))
  [])]), (47, .x (.t 6))]] false) (.seq (.reg [.tick 3, .act (some 53) [] (.rows 3 [.int .i64 0, .int .i64 0, .str []] 1 [(0, .t 52)]) [(52, .op (.load true 3 (.t 51)) [(51, .op
  (.fa 0 (.t 7)) [])])], .act (some 54) [] (.app 30 3 (.t 50) (.t 53)) [(50, .x (.t 5))], .set 5 (.x (.t 54)), .tick 1] false) (.seq (.reg [.set 6 (.op (.bin .add .num (.t 55) (.t
  57)) [(55, .x (.t 6)), (57, .op (.load false 1 (.t 56)) [(56, .op (.fa 3 (.t 7)) [])])]), .tick 5] false) (.reg [.need [] (.op (.load false 1 (.t 56)) [(56, .op (.fa 3 (.t 7))
  [])]), .tick 4, .act (some 63) [] (.call 28 [.t 62]) [(62, .op (.sl .str (.t 60) (some (.t 61)) none) [(60, .x (.t 0)), (61, .x (.t 6))])], .set 6 (.op (.bin .add .num (.t 59)
  (.t 63)) [(59, .x (.t 6))]), .tick 2] false))))))))))) (.seq (.reg [.set 2 (.x (.t 5)), .set 3 (.op (.len .str (.t 66)) [(66, .x (.t 0))]), .set 4 (.x (.c (.s (.int .i64 0)))),
  .tick 6] false) .ret)))))
theorem f9 : sF EE 9 [10, 11, 12, 13, 15, 16, 17, 18, 22, 23, 24, 25, 26, 27, 28, 30, 31, 32, 33, 34, 35, 36, 37, 38, 39, 40, 41, 42, 43, 44, 45, 46, 47, 48, 49, 50, 51, 52, 55,
  56, 57, 58, 59, 60, 61, 62, 64, 65, 66, 67] = some ⟨68, [.t 2, .t 3, .t 4], c9⟩ := by kernel_rfl
/- 10 lineage/lineageref23.Scan -/
def c10 : SC := .seq (.reg [.set 2 (.x (.c (.s .nils))), .set 3 (.x (.c (.s (.int .i64 0)))), .set 4 (.x (.c (.s (.int .i64 0)))), .tick 3] false) (.seq (.seq (.reg [.tick 3]
  false) (.cond (.op (.bin .gtr .num (.t 11) (.c (.s (.int .i64 16384)))) [(11, .op (.len .str (.t 10)) [(10, .x (.t 0))])]) (.seq (.reg [.act (some 13) [] (.rows 3 [.int .i64 0,
  .int .i64 0, .str []] 0 []) [], .set 2 (.x (.t 13)), .set 3 (.x (.c (.s (.int .i64 0)))), .set 4 (.x (.c (.s (.int .i64 6)))), .tick 3] false) .ret) .skip)) (.seq (.reg [.act
  (some 14) [] (.rows 3 [.int .i64 0, .int .i64 0, .str []] 0 []) [], .set 5 (.x (.t 14)), .tick 1] false) (.seq (.reg [.tick 1, .act (some 16) [] (.call 33 [.t 15, .c (.s (.int
  .i64 0))]) [(15, .x (.t 0))], .set 6 (.x (.t 16)), .tick 1] false) (.seq (.block 0 (.loop (.seq (.seq (.reg [.tick 4] false) (.cond (.op (.bin .lss .num (.t 17) (.t 19)) [(17, .x
  (.t 6)), (19, .op (.len .str (.t 18)) [(18, .x (.t 0))])]) .skip (.exit 0))) (.block 1 (.seq (.reg [.need [] (.op (.build [.int .i64 0, .int .i64 0, .str []] []) []), .tick 2,
  .act (some 7) [] (.alloc 30 [.int .i64 0, .int .i64 0, .str []]) [], .act none [] (.store 3 (.t 7) (.t 21)) [(21, .op (.build [.int .i64 0, .int .i64 0, .str []] []) [])], .set 8
  (.x (.t 6)), .set 9 (.x (.c (.s (.bool false)))), .tick 2] false) (.seq (.seq (.reg [.tick 3, .act (some 26) [] (.call 12 [.t 25]) [(25, .op (.iv .str (.t 23) (.t 24)) [(23, .x
  (.t 0)), (24, .x (.t 6))])]] false) (.cond (.x (.t 26)) (.seq (.reg [.tick 2, .act (some 30) [] (.call 34 [.t 28, .t 29]) [(28, .x (.t 0)), (29, .x (.t 6))], .need [] (.op (.ext
  (.t 27) 2) [(27, .x (.t 30))]), .need [] (.op (.ext (.t 27) 1) [(27, .x (.t 30))]), .tick 4, .act none [] (.store 3 (.t 7) (.t 31)) [(31, .op (.ext (.t 27) 0) [(27, .x (.t
  30))])], .set 8 (.op (.ext (.t 27) 1) [(27, .x (.t 30))]), .set 9 (.op (.ext (.t 27) 2) [(27, .x (.t 30))]), .tick 2] false) (.seq (.reg [.tick 2] false) (.cond (.op (.un .not
  (.t 34)) [(34, .x (.t 9))]) (.reg [.set 8 (.x (.t 6)), .tick 2] false) .skip))) (.seq (.reg [.tick 3, .act (some 40) [] (.call 15 [.t 39]) [(39, .op (.iv .str (.t 37) (.t 38))
  [(37, .x (.t 0)), (38, .x (.t 6))])]] false) (.cond (.x (.t 40)) (.reg [.tick 2, .act (some 44) [] (.call 35 [.t 42, .t 43]) [(42, .x (.t 0)), (43, .x (.t 6))], .need [] (.op
  (.ext (.t 41) 2) [(41, .x (.t 44))]), .need [] (.op (.ext (.t 41) 1) [(41, .x (.t 44))]), .tick 4, .act none [] (.store 3 (.t 7) (.t 45)) [(45, .op (.ext (.t 41) 0) [(41, .x (.t
  44))])], .set 8 (.op (.ext (.t 41) 1) [(41, .x (.t 44))]), .set 9 (.op (.ext (.t 41) 2) [(41, .x (.t 44))]), .tick 2] false) (.seq (.reg [.tick 4] false) (.cond (.op (.bin .eql
  .num (.t 50) (.c (.s (.int .u8 39)))) [(50, .op (.iv .str (.t 48) (.t 49)) [(48, .x (.t 0)), (49, .x (.t 6))])]) (.seq (.reg [.tick 2, .act (some 55) [] (.call 36 [.t 53, .t 54])
  [(53, .x (.t 0)), (54, .x (.t 6))], .need [] (.op (.ext (.t 52) 2) [(52, .x (.t 55))]), .need [] (.op (.ext (.t 52) 1) [(52, .x (.t 55))]), .tick 4, .act none [] (.store 3 (.t 7)
  (.t 56)) [(56, .op (.ext (.t 52) 0) [(52, .x (.t 55))])], .set 8 (.op (.ext (.t 52) 1) [(52, .x (.t 55))]), .set 9 (.op (.ext (.t 52) 2) [(52, .x (.t 55))]), .tick 2] false)
  (.seq (.reg [.tick 2] false) (.cond (.op (.un .not (.t 59)) [(59, .x (.t 9))]) (.reg [.set 8 (.x (.t 6)), .tick 2] false) .skip))) (.reg [.tick 2, .act (some 65) [] (.call 37 [.t
  63, .t 64]) [(63, .x (.t 0)), (64, .x (.t 6))], .need [] (.op (.ext (.t 62) 2) [(62, .x (.t 65))]), .need [] (.op (.ext (.t 62) 1) [(62, .x (.t 65))]), .tick 4, .act none []
  (.store 3 (.t 7) (.t 66)) [(66, .op (.ext (.t 62) 0) [(62, .x (.t 65))])], .set 8 (.op (.ext (.t 62) 1) [(62, .x (.t 65))]), .set 9 (.op (.ext (.t 62) 2) [(62, .x (.t 65))]),
  .tick 2] false))))))) (.seq (.seq (.reg [.tick 2] false) (.cond (.op (.un .not (.t 69)) [(69, .x (.t 9))]) (.seq (.reg [.act (some 71) [] (.rows 3 [.int .i64 0, .int .i64 0, .str
  []] 0 []) [], .set 2 (.x (.t 71)), .set 3 (.x (.t 8)), .set 4 (.x (.c (.s (.int .i64 3)))), .tick 4] false) .ret) .skip)) (.seq (.reg [.tick 2, .act (some 75) [] (.rows 3 [.int
  .i64 0, .int .i64 0, .str []] 1 [(0, .t 74)]) [(74, .op (.load true 3 (.t 7)) [])], .act (some 76) [] (.app 30 3 (.t 73) (.t 75)) [(73, .x (.t 5))], .set 5 (.x (.t 76)), .tick 1]
  false) (.reg [.tick 2, .act (some 79) [] (.call 33 [.t 77, .t 78]) [(77, .x (.t 0)), (78, .x (.t 8))], .set 6 (.x (.t 79)), .tick 1] false))))))))) (.seq (.reg [.set 2 (.x (.t
  5)), .set 3 (.op (.len .str (.t 81)) [(81, .x (.t 0))]), .set 4 (.x (.c (.s (.int .i64 0)))), .tick 6] false) .ret)))))
theorem f10 : sF EE 10 [10, 11, 12, 15, 17, 18, 19, 20, 21, 22, 23, 24, 25, 28, 29, 27, 31, 32, 33, 34, 35, 36, 37, 38, 39, 42, 43, 41, 45, 46, 47, 48, 49, 50, 51, 53, 54, 52, 56,
  57, 58, 59, 60, 61, 63, 64, 62, 66, 67, 68, 69, 70, 72, 73, 74, 77, 78, 80, 81, 82] = some ⟨83, [.t 2, .t 3, .t 4], c10⟩ := by kernel_rfl
/- 11 lineage/lineageref23.Same -/
def c11 : SC := .seq (.reg [.set 4 (.x (.c (.s (.bool false)))), .tick 1] false) (.seq (.seq (.reg [.tick 5] false) (.cond (.op (.bin .neq .num (.t 7) (.t 9)) [(7, .op (.len (.sl
  0) (.t 6)) [(6, .x (.t 0))]), (9, .op (.len (.sl 0) (.t 8)) [(8, .x (.t 1))])]) (.seq (.reg [.set 4 (.x (.c (.s (.bool false)))), .tick 1] false) .ret) .skip)) (.seq (.seq (.reg
  [.set 5 (.x (.c (.s (.int .i64 0)))), .tick 1] false) (.block 0 (.loop (.seq (.seq (.reg [.tick 4] false) (.cond (.op (.bin .lss .num (.t 11) (.t 13)) [(11, .x (.t 5)), (13, .op
  (.len (.sl 0) (.t 12)) [(12, .x (.t 0))])]) .skip (.exit 0))) (.seq (.block 1 (.seq (.reg [.tick 9] true) (.cond (.op (.bin .neq (.flat [1, 1, 2]) (.t 20) (.t 24)) [(20, .op
  (.load true 3 (.t 19)) [(19, .op (.ia (.sl 3) (.t 17) (.t 18)) [(17, .x (.t 0)), (18, .x (.t 5))])]), (24, .op (.load true 3 (.t 23)) [(23, .op (.ia (.sl 3) (.t 21) (.t 22))
  [(21, .x (.t 1)), (22, .x (.t 5))])])]) (.seq (.reg [.set 4 (.x (.c (.s (.bool false)))), .tick 1] false) .ret) .skip))) (.reg [.set 5 (.op (.bin .add .num (.t 15) (.c (.s (.int
  .i64 1)))) [(15, .x (.t 5))]), .tick 3] false)))))) (.seq (.reg [.set 4 (.x (.c (.s (.bool true)))), .tick 1] false) .ret)))
theorem f11 : sF EE 11 [6, 7, 8, 9, 10, 11, 12, 13, 14, 17, 18, 19, 20, 21, 22, 23, 24, 25, 15, 16] = some ⟨26, [.t 4], c11⟩ := by kernel_rfl
/- 12 lineage/lineageref23.Letter -/
def c12 : SC := .seq (.reg [.set 2 (.x (.c (.s (.bool false)))), .tick 1] false) (.seq (.reg [.set 2 (.pick (.pick (.op (.bin .geq .num (.t 3) (.c (.s (.int .u8 65)))) [(3, .x (.t
  0))]) (.op (.bin .leq .num (.t 6) (.c (.s (.int .u8 90)))) [(6, .x (.t 0))]) (.x (.c (.s (.bool false))))) (.x (.c (.s (.bool true)))) (.pick (.op (.bin .geq .num (.t 10) (.c (.s
  (.int .u8 97)))) [(10, .x (.t 0))]) (.op (.bin .leq .num (.t 13) (.c (.s (.int .u8 122)))) [(13, .x (.t 0))]) (.x (.c (.s (.bool false)))))), .tick 15] false) .ret)
theorem f12 : sF EE 12 [3, 4, 5, 6, 7, 8, 9, 10, 11, 12, 13, 14, 15, 16] = some ⟨17, [.t 2], c12⟩ := by kernel_rfl
/- 13 lineage/lineageref23.Upper -/
def c13 : SC := .seq (.reg [.set 2 (.x (.c (.s (.str [])))), .tick 1] false) (.seq (.reg [.tick 1, .act (some 6) [] (.conv (.bytes 5) (.t 5)) [(5, .x (.t 0))], .set 3 (.x (.t 6)),
  .tick 1] false) (.seq (.seq (.reg [.set 4 (.x (.c (.s (.int .i64 0)))), .tick 1] false) (.block 0 (.loop (.seq (.seq (.reg [.tick 4] false) (.cond (.op (.bin .lss .num (.t 7) (.t
  9)) [(7, .x (.t 4)), (9, .op (.len (.sl 0) (.t 8)) [(8, .x (.t 3))])]) .skip (.exit 0))) (.seq (.block 1 (.seq (.reg [.tick 12] false) (.cond (.pick (.op (.bin .geq .num (.t 16)
  (.c (.s (.int .u8 97)))) [(16, .op (.load false 1 (.t 15)) [(15, .op (.ia (.sl 1) (.t 13) (.t 14)) [(13, .x (.t 3)), (14, .x (.t 4))])])]) (.op (.bin .leq .num (.t 22) (.c (.s
  (.int .u8 122)))) [(22, .op (.load false 1 (.t 21)) [(21, .op (.ia (.sl 1) (.t 19) (.t 20)) [(19, .x (.t 3)), (20, .x (.t 4))])])]) (.x (.c (.s (.bool false))))) (.reg [.tick 8,
  .act none [] (.store 1 (.t 32) (.t 31)) [(32, .op (.ia (.sl 1) (.t 25) (.t 26)) [(25, .x (.t 3)), (26, .x (.t 4))]), (31, .op (.bin .sub .num (.t 30) (.c (.s (.int .u8 32))))
  [(30, .op (.load false 1 (.t 29)) [(29, .op (.ia (.sl 1) (.t 27) (.t 28)) [(27, .x (.t 3)), (28, .x (.t 4))])])])]] false) .skip))) (.reg [.set 4 (.op (.bin .add .num (.t 11) (.c
  (.s (.int .i64 1)))) [(11, .x (.t 4))]), .tick 3] false)))))) (.seq (.reg [.set 2 (.op (.conv (.str true) (.t 33)) [(33, .x (.t 3))]), .tick 3] false) .ret)))
theorem f13 : sF EE 13 [5, 7, 8, 9, 10, 13, 14, 15, 16, 17, 18, 19, 20, 21, 22, 23, 24, 25, 26, 27, 28, 29, 30, 31, 32, 11, 12, 33, 34] = some ⟨35, [.t 2], c13⟩ := by kernel_rfl
/- 14 lineage/lexer.IsKeyword -/
def c14 : SC := .seq (.reg [.set 2 (.x (.c (.s (.bool false)))), .tick 1] false) (.seq (.reg [.act (some 6) [] (.call 20 []) [], .tick 1, .act (some 8) [] (.call 39 [.t 7, .c (.s
  (.int .u8 97)), .c (.s (.int .u8 65))]) [(7, .x (.t 0))], .act (some 9) [] (.call 38 [.t 6, .t 8]) [], .set 4 (.op (.ext (.t 5) 1) [(5, .x (.t 9))]), .tick 5] false) (.seq (.reg
  [.set 2 (.x (.t 4)), .tick 2] false) (.seq (.reg [.need [] (.op (.ext (.t 5) 0) [(5, .x (.t 9))])] false) .ret)))
theorem f14 : sF EE 14 [7, 5, 10, 11, 3, 12] = some ⟨13, [.t 2], c14⟩ := by kernel_rfl
/- 15 lineage/lineageref23.Digit -/
def c15 : SC := .seq (.reg [.set 2 (.x (.c (.s (.bool false)))), .tick 1] false) (.seq (.reg [.set 2 (.pick (.op (.bin .geq .num (.t 3) (.c (.s (.int .u8 48)))) [(3, .x (.t 0))])
  (.op (.bin .leq .num (.t 6) (.c (.s (.int .u8 57)))) [(6, .x (.t 0))]) (.x (.c (.s (.bool false))))), .tick 7] false) .ret)
theorem f15 : sF EE 15 [3, 4, 5, 6, 7, 8] = some ⟨9, [.t 2], c15⟩ := by kernel_rfl
/- 16 lineage/lexer.Quote -/
def c16 : SC := .seq (.reg [.set 2 (.x (.c (.s (.str [])))), .tick 1] false) (.seq (.reg [.tick 1, .act (some 4) [] (.call 40 [.t 3, .c (.s (.str [39])), .c (.s (.str [39, 39]))])
  [(3, .x (.t 0))], .set 2 (.op (.bin .add .num (.t 5) (.c (.s (.str [39])))) [(5, .op (.bin .add .num (.c (.s (.str [39]))) (.t 4)) [])]), .tick 3] false) .ret)
theorem f16 : sF EE 16 [3, 5, 6] = some ⟨7, [.t 2], c16⟩ := by kernel_rfl
/- 17 lineage/lexer.Unquote -/
def c17 : SC := .seq (.reg [.set 2 (.x (.c (.s (.str [])))), .set 3 (.x (.c (.s (.bool false)))), .tick 2] false) (.seq (.seq (.reg [.tick 8] false) (.cond (.pick (.op (.bin .lss
  .num (.t 6) (.c (.s (.int .i64 2)))) [(6, .op (.len .str (.t 5)) [(5, .x (.t 0))])]) (.x (.c (.s (.bool true)))) (.op (.bin .neq .num (.t 10) (.c (.s (.int .u8 39)))) [(10, .op
  (.iv .str (.t 9) (.c (.s (.int .i64 0)))) [(9, .x (.t 0))])])) (.seq (.reg [.set 2 (.x (.c (.s (.str [])))), .set 3 (.x (.c (.s (.bool false)))), .tick 2] false) .ret) .skip))
  (.seq (.reg [.tick 5, .act (some 18) [] (.call 40 [.t 17, .c (.s (.str [39, 39])), .c (.s (.str [39]))]) [(17, .op (.sl .str (.t 13) (some (.c (.s (.int .i64 1)))) (some (.t
  16))) [(13, .x (.t 0)), (16, .op (.bin .sub .num (.t 15) (.c (.s (.int .i64 1)))) [(15, .op (.len .str (.t 14)) [(14, .x (.t 0))])])])], .set 4 (.x (.t 18)), .tick 1] false)
  (.seq (.seq (.reg [.tick 1, .act (some 20) [] (.call 16 [.t 19]) [(19, .x (.t 4))], .tick 2] false) (.cond (.op (.bin .neq .num (.t 20) (.t 21)) [(21, .x (.t 0))]) (.seq (.reg
  [.set 2 (.x (.c (.s (.str [])))), .set 3 (.x (.c (.s (.bool false)))), .tick 2] false) .ret) .skip)) (.seq (.reg [.set 2 (.x (.t 4)), .set 3 (.x (.c (.s (.bool true)))), .tick 3]
  false) .ret))))
theorem f17 : sF EE 17 [5, 6, 7, 8, 9, 10, 11, 12, 13, 14, 15, 16, 17, 19, 21, 22, 23] = some ⟨24, [.t 2, .t 3], c17⟩ := by kernel_rfl
/- 18 lineage/lineageref23.Unquote -/
def c18 : SC := .seq (.reg [.set 2 (.x (.c (.s (.str [])))), .set 3 (.x (.c (.s (.bool false)))), .tick 2] false) (.seq (.seq (.reg [.tick 16] false) (.cond (.pick (.pick (.op
  (.bin .lss .num (.t 7) (.c (.s (.int .i64 2)))) [(7, .op (.len .str (.t 6)) [(6, .x (.t 0))])]) (.x (.c (.s (.bool true)))) (.op (.bin .neq .num (.t 11) (.c (.s (.int .u8 39))))
  [(11, .op (.iv .str (.t 10) (.c (.s (.int .i64 0)))) [(10, .x (.t 0))])])) (.x (.c (.s (.bool true)))) (.op (.bin .neq .num (.t 19) (.c (.s (.int .u8 39)))) [(19, .op (.iv .str
  (.t 15) (.t 18)) [(15, .x (.t 0)), (18, .op (.bin .sub .num (.t 17) (.c (.s (.int .i64 1)))) [(17, .op (.len .str (.t 16)) [(16, .x (.t 0))])])])])) (.seq (.reg [.set 2 (.x (.c
  (.s (.str [])))), .set 3 (.x (.c (.s (.bool false)))), .tick 2] false) .ret) .skip)) (.seq (.reg [.set 4 (.x (.c (.s (.str [])))), .tick 1] false) (.seq (.seq (.reg [.set 5 (.x
  (.c (.s (.int .i64 1)))), .tick 1] false) (.block 0 (.loop (.seq (.seq (.reg [.tick 5] false) (.cond (.op (.bin .lss .num (.t 22) (.t 25)) [(22, .x (.t 5)), (25, .op (.bin .sub
  .num (.t 24) (.c (.s (.int .i64 1)))) [(24, .op (.len .str (.t 23)) [(23, .x (.t 0))])])]) .skip (.exit 0))) (.seq (.block 1 (.seq (.seq (.seq (.reg [.tick 4] false) (.cond (.op
  (.bin .eql .num (.t 31) (.c (.s (.int .u8 39)))) [(31, .op (.iv .str (.t 29) (.t 30)) [(29, .x (.t 0)), (30, .x (.t 5))])]) (.seq (.seq (.reg [.tick 13] false) (.cond (.pick (.op
  (.bin .geq .num (.t 34) (.t 37)) [(34, .op (.bin .add .num (.t 33) (.c (.s (.int .i64 1)))) [(33, .x (.t 5))]), (37, .op (.bin .sub .num (.t 36) (.c (.s (.int .i64 1)))) [(36,
  .op (.len .str (.t 35)) [(35, .x (.t 0))])])]) (.x (.c (.s (.bool true)))) (.op (.bin .neq .num (.t 43) (.c (.s (.int .u8 39)))) [(43, .op (.iv .str (.t 40) (.t 42)) [(40, .x (.t
  0)), (42, .op (.bin .add .num (.t 41) (.c (.s (.int .i64 1)))) [(41, .x (.t 5))])])])) (.seq (.reg [.set 2 (.x (.c (.s (.str [])))), .set 3 (.x (.c (.s (.bool false)))), .tick 2]
  false) .ret) .skip)) (.reg [.set 5 (.op (.bin .add .num (.t 46) (.c (.s (.int .i64 1)))) [(46, .x (.t 5))]), .tick 3] false)) .skip)) (.reg [.set 4 (.op (.bin .add .num (.t 48)
  (.t 53)) [(48, .x (.t 4)), (53, .op (.sl .str (.t 49) (some (.t 50)) (some (.t 52))) [(49, .x (.t 0)), (50, .x (.t 5)), (52, .op (.bin .add .num (.t 51) (.c (.s (.int .i64 1))))
  [(51, .x (.t 5))])])]), .tick 8] false)) (.reg [.need [] (.op (.sl .str (.t 49) (some (.t 50)) (some (.t 52))) [(49, .x (.t 0)), (50, .x (.t 5)), (52, .op (.bin .add .num (.t 51)
  (.c (.s (.int .i64 1)))) [(51, .x (.t 5))])])] false))) (.reg [.set 5 (.op (.bin .add .num (.t 27) (.c (.s (.int .i64 1)))) [(27, .x (.t 5))]), .tick 3] false)))))) (.seq (.reg
  [.set 2 (.x (.t 4)), .set 3 (.x (.c (.s (.bool true)))), .tick 3] false) .ret))))
theorem f18 : sF EE 18 [6, 7, 8, 9, 10, 11, 12, 13, 14, 15, 16, 17, 18, 19, 20, 21, 22, 23, 24, 25, 26, 29, 30, 31, 32, 33, 34, 35, 36, 37, 38, 39, 40, 41, 42, 43, 44, 45, 46, 47,
  48, 49, 50, 51, 52, 53, 54, 27, 28, 55] = some ⟨56, [.t 2, .t 3], c18⟩ := by kernel_rfl
/- 19 lineage/lineageref23.Quote -/
def c19 : SC := .seq (.reg [.set 2 (.x (.c (.s (.str [])))), .tick 1] false) (.seq (.reg [.set 3 (.x (.c (.s (.str [39])))), .tick 1] false) (.seq (.seq (.reg [.set 4 (.x (.c (.s
  (.int .i64 0)))), .tick 1] false) (.block 0 (.loop (.seq (.seq (.reg [.tick 4] false) (.cond (.op (.bin .lss .num (.t 5) (.t 7)) [(5, .x (.t 4)), (7, .op (.len .str (.t 6)) [(6,
  .x (.t 0))])]) .skip (.exit 0))) (.seq (.block 1 (.seq (.seq (.seq (.reg [.tick 4] false) (.cond (.op (.bin .eql .num (.t 13) (.c (.s (.int .u8 39)))) [(13, .op (.iv .str (.t 11)
  (.t 12)) [(11, .x (.t 0)), (12, .x (.t 4))])]) (.reg [.set 3 (.op (.bin .add .num (.t 15) (.c (.s (.str [39])))) [(15, .x (.t 3))]), .tick 3] false) .skip)) (.reg [.set 3 (.op
  (.bin .add .num (.t 17) (.t 22)) [(17, .x (.t 3)), (22, .op (.sl .str (.t 18) (some (.t 19)) (some (.t 21))) [(18, .x (.t 0)), (19, .x (.t 4)), (21, .op (.bin .add .num (.t 20)
  (.c (.s (.int .i64 1)))) [(20, .x (.t 4))])])]), .tick 8] false)) (.reg [.need [] (.op (.sl .str (.t 18) (some (.t 19)) (some (.t 21))) [(18, .x (.t 0)), (19, .x (.t 4)), (21,
  .op (.bin .add .num (.t 20) (.c (.s (.int .i64 1)))) [(20, .x (.t 4))])])] false))) (.reg [.set 4 (.op (.bin .add .num (.t 9) (.c (.s (.int .i64 1)))) [(9, .x (.t 4))]), .tick 3]
  false)))))) (.seq (.reg [.set 2 (.op (.bin .add .num (.t 24) (.c (.s (.str [39])))) [(24, .x (.t 3))]), .tick 3] false) .ret)))
theorem f19 : sF EE 19 [5, 6, 7, 8, 11, 12, 13, 14, 15, 16, 17, 18, 19, 20, 21, 22, 23, 9, 10, 24, 25] = some ⟨26, [.t 2], c19⟩ := by kernel_rfl
/- 20 lineage/lexer.Keywords -/
def c20 : SC := .seq (.reg [.set 0 (.x (.c (.s .nils))), .tick 1] false) (.seq (.reg [.act (some 1) [] (.call 41 [.c (.s (.str [65, 76, 76, 32, 65, 78, 68, 32, 65, 83, 32, 66, 69,
  71, 73, 78, 32, 66, 79, 79, 76, 69, 65, 78, 32, 66, 89, 32, 67, 79, 77, 77, 73, 84, 32, 67, 79, 85, 78, 84, 32, 67, 82, 69, 65, 84, 69, 32, 68, 69, 76, 69, 84, 69, 32, 68, 73,
  83, 84, 73, 78, 67, 84, 32, 68, 82, 79, 80, 32, 69, 88, 67, 69, 80, 84, 32, 69, 88, 73, 83, 84, 83, 32, 69, 88, 80, 76, 65, 73, 78, 32, 70, 65, 76, 83, 69, 32, 70, 82, 79, 77,
  32, 71, 82, 79, 85, 80, 32, 72, 65, 86, 73, 78, 71, 32, 73, 78, 32, 73, 78, 68, 69, 88, 32, 73, 78, 83, 69, 82, 84, 32, 73, 78, 84, 69, 71, 69, 82, 32, 73, 78, 84, 69, 82, 83,
  69, 67, 84, 32, 73, 78, 84, 79, 32, 75, 69, 89, 32, 77, 65, 84, 69, 82, 73, 65, 76, 73, 90, 69, 68, 32, 77, 65, 88, 32, 77, 73, 78, 32, 78, 79, 84, 32, 79, 78, 32, 79, 82, 32,
  80, 82, 73, 77, 65, 82, 89, 32, 82, 69, 67, 85, 82, 83, 73, 86, 69, 32, 82, 79, 76, 76, 66, 65, 67, 75, 32, 83, 69, 76, 69, 67, 84, 32, 83, 69, 84, 32, 83, 85, 77, 32, 84, 65,
  66, 76, 69, 32, 84, 69, 88, 84, 32, 84, 82, 85, 69, 32, 85, 78, 73, 79, 78, 32, 85, 80, 68, 65, 84, 69, 32, 86, 65, 76, 85, 69, 83, 32, 86, 73, 69, 87, 32, 87, 72, 69, 82, 69,
  32, 87, 73, 84, 72]))]) [], .set 0 (.x (.t 1)), .tick 1] false) .ret)
theorem f20 : sF EE 20 [] = some ⟨2, [.t 0], c20⟩ := by kernel_rfl
/- 21 lineage/lexer.Symbols -/
def c21 : SC := .seq (.reg [.set 0 (.x (.c (.s .nils))), .tick 1] false) (.seq (.reg [.act (some 1) [] (.rows 1 [.str []] 15 [(0, .c (.s (.str [40]))), (1, .c (.s (.str [41]))),
  (2, .c (.s (.str [42]))), (3, .c (.s (.str [43]))), (4, .c (.s (.str [44]))), (5, .c (.s (.str [45]))), (6, .c (.s (.str [46]))), (7, .c (.s (.str [59]))), (8, .c (.s (.str
  [60]))), (9, .c (.s (.str [60, 61]))), (10, .c (.s (.str [60, 62]))), (11, .c (.s (.str [61]))), (12, .c (.s (.str [62]))), (13, .c (.s (.str [62, 61]))), (14, .c (.s (.str [124,
  124])))]) [], .set 0 (.x (.t 1)), .tick 1] false) .ret)
theorem f21 : sF EE 21 [] = some ⟨2, [.t 0], c21⟩ := by kernel_rfl
/- 22 lineage/lineageref23.Keywords -/
def c22 : SC := .seq (.reg [.set 0 (.x (.c (.s .nils))), .tick 1] false) (.seq (.reg [.act (some 1) [] (.rows 1 [.str []] 47 [(0, .c (.s (.str [65, 76, 76]))), (1, .c (.s (.str
  [65, 78, 68]))), (2, .c (.s (.str [65, 83]))), (3, .c (.s (.str [66, 69, 71, 73, 78]))), (4, .c (.s (.str [66, 79, 79, 76, 69, 65, 78]))), (5, .c (.s (.str [66, 89]))), (6, .c
  (.s (.str [67, 79, 77, 77, 73, 84]))), (7, .c (.s (.str [67, 79, 85, 78, 84]))), (8, .c (.s (.str [67, 82, 69, 65, 84, 69]))), (9, .c (.s (.str [68, 69, 76, 69, 84, 69]))), (10,
  .c (.s (.str [68, 73, 83, 84, 73, 78, 67, 84]))), (11, .c (.s (.str [68, 82, 79, 80]))), (12, .c (.s (.str [69, 88, 67, 69, 80, 84]))), (13, .c (.s (.str [69, 88, 73, 83, 84,
  83]))), (14, .c (.s (.str [69, 88, 80, 76, 65, 73, 78]))), (15, .c (.s (.str [70, 65, 76, 83, 69]))), (16, .c (.s (.str [70, 82, 79, 77]))), (17, .c (.s (.str [71, 82, 79, 85,
  80]))), (18, .c (.s (.str [72, 65, 86, 73, 78, 71]))), (19, .c (.s (.str [73, 78]))), (20, .c (.s (.str [73, 78, 68, 69, 88]))), (21, .c (.s (.str [73, 78, 83, 69, 82, 84]))),
  (22, .c (.s (.str [73, 78, 84, 69, 71, 69, 82]))), (23, .c (.s (.str [73, 78, 84, 69, 82, 83, 69, 67, 84]))), (24, .c (.s (.str [73, 78, 84, 79]))), (25, .c (.s (.str [75, 69,
  89]))), (26, .c (.s (.str [77, 65, 84, 69, 82, 73, 65, 76, 73, 90, 69, 68]))), (27, .c (.s (.str [77, 65, 88]))), (28, .c (.s (.str [77, 73, 78]))), (29, .c (.s (.str [78, 79,
  84]))), (30, .c (.s (.str [79, 78]))), (31, .c (.s (.str [79, 82]))), (32, .c (.s (.str [80, 82, 73, 77, 65, 82, 89]))), (33, .c (.s (.str [82, 69, 67, 85, 82, 83, 73, 86,
  69]))), (34, .c (.s (.str [82, 79, 76, 76, 66, 65, 67, 75]))), (35, .c (.s (.str [83, 69, 76, 69, 67, 84]))), (36, .c (.s (.str [83, 69, 84]))), (37, .c (.s (.str [83, 85,
  77]))), (38, .c (.s (.str [84, 65, 66, 76, 69]))), (39, .c (.s (.str [84, 69, 88, 84]))), (40, .c (.s (.str [84, 82, 85, 69]))), (41, .c (.s (.str [85, 78, 73, 79, 78]))), (42,
  .c (.s (.str [85, 80, 68, 65, 84, 69]))), (43, .c (.s (.str [86, 65, 76, 85, 69, 83]))), (44, .c (.s (.str [86, 73, 69, 87]))), (45, .c (.s (.str [87, 72, 69, 82, 69]))), (46, .c
  (.s (.str [87, 73, 84, 72])))]) [], .set 0 (.x (.t 1)), .tick 1] false) .ret)
theorem f22 : sF EE 22 [] = some ⟨2, [.t 0], c22⟩ := by kernel_rfl
/- 23 lineage/lineageref23.Symbols -/
def c23 : SC := .seq (.reg [.set 0 (.x (.c (.s .nils))), .tick 1] false) (.seq (.reg [.act (some 1) [] (.rows 1 [.str []] 15 [(0, .c (.s (.str [40]))), (1, .c (.s (.str [41]))),
  (2, .c (.s (.str [42]))), (3, .c (.s (.str [43]))), (4, .c (.s (.str [44]))), (5, .c (.s (.str [45]))), (6, .c (.s (.str [46]))), (7, .c (.s (.str [59]))), (8, .c (.s (.str
  [60]))), (9, .c (.s (.str [60, 61]))), (10, .c (.s (.str [60, 62]))), (11, .c (.s (.str [61]))), (12, .c (.s (.str [62]))), (13, .c (.s (.str [62, 61]))), (14, .c (.s (.str [124,
  124])))]) [], .set 0 (.x (.t 1)), .tick 1] false) .ret)
theorem f23 : sF EE 23 [] = some ⟨2, [.t 0], c23⟩ := by kernel_rfl
/- 24 lineage/lineageref23.Lower -/
def c24 : SC := .seq (.reg [.set 2 (.x (.c (.s (.str [])))), .tick 1] false) (.seq (.reg [.tick 1, .act (some 6) [] (.conv (.bytes 5) (.t 5)) [(5, .x (.t 0))], .set 3 (.x (.t 6)),
  .tick 1] false) (.seq (.seq (.reg [.set 4 (.x (.c (.s (.int .i64 0)))), .tick 1] false) (.block 0 (.loop (.seq (.seq (.reg [.tick 4] false) (.cond (.op (.bin .lss .num (.t 7) (.t
  9)) [(7, .x (.t 4)), (9, .op (.len (.sl 0) (.t 8)) [(8, .x (.t 3))])]) .skip (.exit 0))) (.seq (.block 1 (.seq (.reg [.tick 12] false) (.cond (.pick (.op (.bin .geq .num (.t 16)
  (.c (.s (.int .u8 65)))) [(16, .op (.load false 1 (.t 15)) [(15, .op (.ia (.sl 1) (.t 13) (.t 14)) [(13, .x (.t 3)), (14, .x (.t 4))])])]) (.op (.bin .leq .num (.t 22) (.c (.s
  (.int .u8 90)))) [(22, .op (.load false 1 (.t 21)) [(21, .op (.ia (.sl 1) (.t 19) (.t 20)) [(19, .x (.t 3)), (20, .x (.t 4))])])]) (.x (.c (.s (.bool false))))) (.reg [.tick 8,
  .act none [] (.store 1 (.t 32) (.t 31)) [(32, .op (.ia (.sl 1) (.t 25) (.t 26)) [(25, .x (.t 3)), (26, .x (.t 4))]), (31, .op (.bin .add .num (.t 30) (.c (.s (.int .u8 32))))
  [(30, .op (.load false 1 (.t 29)) [(29, .op (.ia (.sl 1) (.t 27) (.t 28)) [(27, .x (.t 3)), (28, .x (.t 4))])])])]] false) .skip))) (.reg [.set 4 (.op (.bin .add .num (.t 11) (.c
  (.s (.int .i64 1)))) [(11, .x (.t 4))]), .tick 3] false)))))) (.seq (.reg [.set 2 (.op (.conv (.str true) (.t 33)) [(33, .x (.t 3))]), .tick 3] false) .ret)))
theorem f24 : sF EE 24 [5, 7, 8, 9, 10, 13, 14, 15, 16, 17, 18, 19, 20, 21, 22, 23, 24, 25, 26, 27, 28, 29, 30, 31, 32, 11, 12, 33, 34] = some ⟨35, [.t 2], c24⟩ := by kernel_rfl
/- 25 lineage/lexer.Format -/
def c25 : SC := .seq (.reg [.set 2 (.x (.c (.s (.str [])))), .tick 1] false) (.seq (.reg [.set 3 (.x (.c (.s .nils))), .tick 1] false) (.seq (.seq (.reg [.set 6 (.x (.t 0)), .set 7
  (.op (.len (.sl 0) (.t 6)) []), .set 8 (.x (.c (.s (.int .i64 0)))), .tick 3] false) (.block 0 (.loop (.seq (.reg [.tick 1] false) (.seq (.cond (.op (.bin .lss .num (.t 8) (.t
  7)) []) .skip (.exit 0)) (.seq (.block 1 (.seq (.reg [.set 11 (.op (.load true 3 (.t 10)) [(10, .op (.ia (.sl 3) (.t 6) (.t 8)) [])]), .tick 2, .act (some 5) [] (.alloc 30 [.int
  .i64 0, .int .i64 0, .str []]) [], .act none [] (.store 3 (.t 5) (.t 11)) []] false) (.seq (.seq (.reg [.tick 3] false) (.cond (.op (.bin .eql .num (.t 13) (.c (.s (.int .i64
  3)))) [(13, .op (.load false 1 (.t 12)) [(12, .op (.fa 0 (.t 5)) [])])]) (.reg [.tick 2, .act (some 17) [] (.call 16 [.t 16]) [(16, .op (.load false 1 (.t 15)) [(15, .op (.fa 2
  (.t 5)) [])])], .tick 1, .act none [] (.store 1 (.t 18) (.t 17)) [(18, .op (.fa 2 (.t 5)) [])]] false) .skip)) (.reg [.tick 3, .act (some 22) [] (.rows 1 [.str []] 1 [(0, .t
  21)]) [(21, .op (.load false 1 (.t 20)) [(20, .op (.fa 2 (.t 5)) [])])], .act (some 23) [] (.app 9 1 (.t 19) (.t 22)) [(19, .x (.t 3))], .set 3 (.x (.t 23)), .tick 1] false))))
  (.reg [.set 8 (.op (.bin .add .num (.t 8) (.c (.s (.int .i64 1)))) []), .tick 2] false))))))) (.seq (.reg [.tick 1, .act (some 26) [] (.call 42 [.t 25, .c (.s (.str [32]))])
  [(25, .x (.t 3))], .set 2 (.x (.t 26)), .tick 1] false) .ret)))
theorem f25 : sF EE 25 [9, 10, 12, 13, 14, 15, 16, 18, 19, 20, 21, 24, 25] = some ⟨27, [.t 2], c25⟩ := by kernel_rfl
/- 26 lineage/lineageref23.Format -/
def c26 : SC := .seq (.reg [.set 2 (.x (.c (.s (.str [])))), .tick 1] false) (.seq (.reg [.set 3 (.x (.c (.s (.str [])))), .tick 1] false) (.seq (.seq (.reg [.set 4 (.x (.c (.s
  (.int .i64 0)))), .tick 1] false) (.block 0 (.loop (.seq (.seq (.reg [.tick 4] false) (.cond (.op (.bin .lss .num (.t 5) (.t 7)) [(5, .x (.t 4)), (7, .op (.len (.sl 0) (.t 6))
  [(6, .x (.t 0))])]) .skip (.exit 0))) (.seq (.block 1 (.seq (.seq (.reg [.tick 2] false) (.cond (.op (.bin .gtr .num (.t 11) (.c (.s (.int .i64 0)))) [(11, .x (.t 4))]) (.reg
  [.set 3 (.op (.bin .add .num (.t 13) (.c (.s (.str [32])))) [(13, .x (.t 3))]), .tick 3] false) .skip)) (.seq (.reg [.tick 6] false) (.cond (.op (.bin .eql .num (.t 19) (.c (.s
  (.int .i64 3)))) [(19, .op (.load false 1 (.t 18)) [(18, .op (.fa 0 (.t 17)) [(17, .op (.ia (.sl 3) (.t 15) (.t 16)) [(15, .x (.t 0)), (16, .x (.t 4))])])])]) (.reg [.tick 6,
  .act (some 27) [] (.call 19 [.t 26]) [(26, .op (.load false 1 (.t 25)) [(25, .op (.fa 2 (.t 24)) [(24, .op (.ia (.sl 3) (.t 22) (.t 23)) [(22, .x (.t 0)), (23, .x (.t 4))])])])],
  .set 3 (.op (.bin .add .num (.t 21) (.t 27)) [(21, .x (.t 3))]), .tick 2] false) (.seq (.reg [.set 3 (.op (.bin .add .num (.t 29) (.t 34)) [(29, .x (.t 3)), (34, .op (.load false
  1 (.t 33)) [(33, .op (.fa 2 (.t 32)) [(32, .op (.ia (.sl 3) (.t 30) (.t 31)) [(30, .x (.t 0)), (31, .x (.t 4))])])])]), .tick 8] false) (.reg [.need [] (.op (.load false 1 (.t
  33)) [(33, .op (.fa 2 (.t 32)) [(32, .op (.ia (.sl 3) (.t 30) (.t 31)) [(30, .x (.t 0)), (31, .x (.t 4))])])])] false)))))) (.reg [.set 4 (.op (.bin .add .num (.t 9) (.c (.s
  (.int .i64 1)))) [(9, .x (.t 4))]), .tick 3] false)))))) (.seq (.reg [.set 2 (.x (.t 3)), .tick 2] false) .ret)))
theorem f26 : sF EE 26 [5, 6, 7, 8, 11, 12, 13, 14, 15, 16, 17, 18, 19, 20, 21, 22, 23, 24, 25, 26, 28, 29, 30, 31, 32, 33, 34, 35, 9, 10, 36] = some ⟨37, [.t 2], c26⟩ := by
  kernel_rfl
/- 27 lineage/lineageref23.Alike -/
def c27 : SC := .seq (.reg [.set 4 (.x (.c (.s (.bool false)))), .tick 1] false) (.seq (.seq (.reg [.tick 5] false) (.cond (.op (.bin .neq .num (.t 7) (.t 9)) [(7, .op (.len (.sl
  0) (.t 6)) [(6, .x (.t 0))]), (9, .op (.len (.sl 0) (.t 8)) [(8, .x (.t 1))])]) (.seq (.reg [.set 4 (.x (.c (.s (.bool false)))), .tick 1] false) .ret) .skip)) (.seq (.seq (.reg
  [.set 5 (.x (.c (.s (.int .i64 0)))), .tick 1] false) (.block 0 (.loop (.seq (.seq (.reg [.tick 4] false) (.cond (.op (.bin .lss .num (.t 11) (.t 13)) [(11, .x (.t 5)), (13, .op
  (.len (.sl 0) (.t 12)) [(12, .x (.t 0))])]) .skip (.exit 0))) (.seq (.block 1 (.seq (.reg [.tick 24] true) (.cond (.pick (.op (.bin .neq .num (.t 21) (.t 26)) [(21, .op (.load
  false 1 (.t 20)) [(20, .op (.fa 0 (.t 19)) [(19, .op (.ia (.sl 3) (.t 17) (.t 18)) [(17, .x (.t 0)), (18, .x (.t 5))])])]), (26, .op (.load false 1 (.t 25)) [(25, .op (.fa 0 (.t
  24)) [(24, .op (.ia (.sl 3) (.t 22) (.t 23)) [(22, .x (.t 1)), (23, .x (.t 5))])])])]) (.x (.c (.s (.bool true)))) (.op (.bin .neq .num (.t 33) (.t 38)) [(33, .op (.load false 1
  (.t 32)) [(32, .op (.fa 2 (.t 31)) [(31, .op (.ia (.sl 3) (.t 29) (.t 30)) [(29, .x (.t 0)), (30, .x (.t 5))])])]), (38, .op (.load false 1 (.t 37)) [(37, .op (.fa 2 (.t 36))
  [(36, .op (.ia (.sl 3) (.t 34) (.t 35)) [(34, .x (.t 1)), (35, .x (.t 5))])])])])) (.seq (.reg [.set 4 (.x (.c (.s (.bool false)))), .tick 1] false) .ret) .skip))) (.reg [.set 5
  (.op (.bin .add .num (.t 15) (.c (.s (.int .i64 1)))) [(15, .x (.t 5))]), .tick 3] false)))))) (.seq (.reg [.set 4 (.x (.c (.s (.bool true)))), .tick 1] false) .ret)))
theorem f27 : sF EE 27 [6, 7, 8, 9, 10, 11, 12, 13, 14, 17, 18, 19, 20, 21, 22, 23, 24, 25, 26, 27, 28, 29, 30, 31, 32, 33, 34, 35, 36, 37, 38, 39, 40, 15, 16] = some ⟨41, [.t 4],
  c27⟩ := by kernel_rfl
/- 28 lineage/lexer.skip -/
def c28 : SC := .seq (.reg [.set 2 (.x (.c (.s (.int .i64 0)))), .tick 1] false) (.seq (.reg [.set 3 (.x (.c (.s (.int .i64 0)))), .tick 1] false) (.block 0 (.loop (.block 1 (.seq
  (.reg [.tick 4, .act (some 8) [] (.call 43 [.t 7, .c (.s (.func 44))]) [(7, .op (.sl .str (.t 5) (some (.t 6)) none) [(5, .x (.t 0)), (6, .x (.t 3))])], .set 3 (.op (.bin .add
  .num (.t 4) (.t 8)) [(4, .x (.t 3))]), .tick 2] false) (.seq (.seq (.reg [.tick 3, .act (some 13) [] (.call 45 [.t 12, .c (.s (.str [45, 45]))]) [(12, .op (.sl .str (.t 10) (some
  (.t 11)) none) [(10, .x (.t 0)), (11, .x (.t 3))])], .tick 1] false) (.cond (.op (.un .not (.t 13)) []) (.seq (.reg [.set 2 (.x (.t 3)), .tick 2] false) .ret) .skip)) (.reg
  [.tick 4, .act (some 20) [] (.call 43 [.t 19, .c (.s (.func 46))]) [(19, .op (.sl .str (.t 17) (some (.t 18)) none) [(17, .x (.t 0)), (18, .x (.t 3))])], .set 3 (.op (.bin .add
  .num (.t 16) (.t 20)) [(16, .x (.t 3))]), .tick 2] false)))))))
theorem f28 : sF EE 28 [4, 5, 6, 7, 9, 10, 11, 12, 14, 15, 16, 17, 18, 19, 21] = some ⟨22, [.t 2], c28⟩ := by kernel_rfl
/- 29 lineage/lexer.word -/
def c29 : SC := .seq (.reg [.act (some 2) [] (.alloc 42 [.int .i64 0, .int .i64 0, .str [], .int .i64 0, .int .i64 0]) []] false) (.seq (.seq (.reg [.tick 2, .act (some 6) []
  (.call 47 [.t 5]) [(5, .op (.iv .str (.t 4) (.c (.s (.int .i64 0)))) [(4, .x (.t 0))])], .tick 1] false) (.cond (.op (.un .not (.t 6)) []) (.seq (.reg [.tick 1, .act none []
  (.store 5 (.t 2) (.t 8)) [(8, .op (.build [.int .i64 0, .int .i64 0, .str [], .int .i64 0, .int .i64 0] [(4, 1, .c (.s (.int .i64 (-1))))]) [])]] false) .ret) .skip)) (.seq (.reg
  [.tick 1, .act (some 10) [] (.call 43 [.t 9, .c (.s (.func 48))]) [(9, .x (.t 0))], .set 3 (.x (.t 10)), .tick 1] false) (.seq (.seq (.reg [.tick 3, .act (some 14) [] (.call 14
  [.t 13]) [(13, .op (.sl .str (.t 11) none (some (.t 12))) [(11, .x (.t 0)), (12, .x (.t 3))])]] false) (.cond (.x (.t 14)) (.seq (.reg [.tick 3, .act (some 18) [] (.call 39 [.t
  17, .c (.s (.int .u8 97)), .c (.s (.int .u8 65))]) [(17, .op (.sl .str (.t 15) none (some (.t 16))) [(15, .x (.t 0)), (16, .x (.t 3))])], .tick 3, .act none [] (.store 5 (.t 2)
  (.t 21)) [(21, .op (.build [.int .i64 0, .int .i64 0, .str [], .int .i64 0, .int .i64 0] [(0, 3, .t 19), (3, 1, .t 20), (4, 1, .c (.s (.int .i64 (-1))))]) [(19, .op (.build [.int
  .i64 0, .int .i64 0, .str []] [(0, 1, .c (.s (.int .i64 1))), (2, 1, .t 18)]) []), (20, .x (.t 3))])]] false) .ret) .skip)) (.seq (.seq (.reg [.tick 2] false) (.cond (.op (.bin
  .gtr .num (.t 22) (.c (.s (.int .i64 31)))) [(22, .x (.t 3))]) (.seq (.reg [.tick 1, .act none [] (.store 5 (.t 2) (.t 24)) [(24, .op (.build [.int .i64 0, .int .i64 0, .str [],
  .int .i64 0, .int .i64 0] [(4, 1, .c (.s (.int .i64 0)))]) [])]] false) .ret) .skip)) (.seq (.reg [.tick 3, .act (some 28) [] (.call 39 [.t 27, .c (.s (.int .u8 65)), .c (.s
  (.int .u8 97))]) [(27, .op (.sl .str (.t 25) none (some (.t 26))) [(25, .x (.t 0)), (26, .x (.t 3))])], .tick 3, .act none [] (.store 5 (.t 2) (.t 31)) [(31, .op (.build [.int
  .i64 0, .int .i64 0, .str [], .int .i64 0, .int .i64 0] [(0, 3, .t 29), (3, 1, .t 30), (4, 1, .c (.s (.int .i64 (-1))))]) [(29, .op (.build [.int .i64 0, .int .i64 0, .str []]
  [(0, 1, .c (.s (.int .i64 0))), (2, 1, .t 28)]) []), (30, .x (.t 3))])]] false) .ret)))))
theorem f29 : sF EE 29 [4, 5, 7, 8, 9, 11, 12, 13, 15, 16, 17, 19, 20, 21, 22, 23, 24, 25, 26, 27, 29, 30, 31] = some ⟨32, [.cell true 5 2], c29⟩ := by kernel_rfl
/- 30 lineage/lexer.integer -/
def c30 : SC := .seq (.reg [.act (some 2) [] (.alloc 42 [.int .i64 0, .int .i64 0, .str [], .int .i64 0, .int .i64 0]) []] false) (.seq (.reg [.tick 1, .act (some 8) [] (.call 43
  [.t 7, .c (.s (.func 49))]) [(7, .x (.t 0))], .set 3 (.x (.t 8)), .tick 1] false) (.seq (.seq (.reg [.tick 2] false) (.cond (.op (.bin .eql .num (.t 9) (.c (.s (.int .i64 0))))
  [(9, .x (.t 3))]) (.seq (.reg [.tick 1, .act none [] (.store 5 (.t 2) (.t 11)) [(11, .op (.build [.int .i64 0, .int .i64 0, .str [], .int .i64 0, .int .i64 0] [(4, 1, .c (.s
  (.int .i64 (-1))))]) [])]] false) .ret) .skip)) (.seq (.reg [.tick 3, .act (some 15) [] (.call 51 [.t 14, .c (.s (.str [48]))]) [(14, .op (.sl .str (.t 12) none (some (.t 13)))
  [(12, .x (.t 0)), (13, .x (.t 3))])], .act (some 16) [] (.rows 1 [.str []] 2 [(0, .t 15), (1, .c (.s (.str [48])))]) [], .act (some 17) [] (.call 50 [.t 16]) [], .set 4 (.x (.t
  17)), .tick 1] false) (.seq (.seq (.reg [.tick 1, .act (some 20) [] (.call 52 [.t 19, .c (.s (.int .i64 10)), .c (.s (.int .i64 64))]) [(19, .x (.t 4))], .set 6 (.op (.ext (.t
  18) 1) [(18, .x (.t 20))]), .tick 5] false) (.seq (.reg [.tick 2] false) (.seq (.reg [.need [] (.op (.ext (.t 18) 0) [(18, .x (.t 20))])] false) (.cond (.op (.bin .neq (.nil 0)
  (.t 23) (.c (.s .nili))) [(23, .x (.t 6))]) (.seq (.reg [.tick 1, .act none [] (.store 5 (.t 2) (.t 25)) [(25, .op (.build [.int .i64 0, .int .i64 0, .str [], .int .i64 0, .int
  .i64 0] [(4, 1, .c (.s (.int .i64 0)))]) [])]] false) .ret) .skip)))) (.seq (.seq (.reg [.set 30 (.op (.bin .lss .num (.t 26) (.t 28)) [(26, .x (.t 3)), (28, .op (.len .str (.t
  27)) [(27, .x (.t 0))])]), .tick 8, .act (some 34) [(.x (.t 30), true)] (.call 48 [.t 33]) [(33, .op (.iv .str (.t 31) (.t 32)) [(31, .x (.t 0)), (32, .x (.t 3))])], .tick 1]
  false) (.cond (.pick (.x (.t 30)) (.x (.t 34)) (.x (.c (.s (.bool false))))) (.seq (.reg [.tick 2, .act none [] (.store 5 (.t 2) (.t 37)) [(37, .op (.build [.int .i64 0, .int
  .i64 0, .str [], .int .i64 0, .int .i64 0] [(4, 1, .t 36)]) [(36, .x (.t 3))])]] false) .ret) .skip)) (.seq (.reg [.tick 4, .act none [] (.store 5 (.t 2) (.t 41)) [(41, .op
  (.build [.int .i64 0, .int .i64 0, .str [], .int .i64 0, .int .i64 0] [(0, 3, .t 39), (3, 1, .t 40), (4, 1, .c (.s (.int .i64 (-1))))]) [(39, .op (.build [.int .i64 0, .int .i64
  0, .str []] [(0, 1, .c (.s (.int .i64 2))), (2, 1, .t 38)]) [(38, .x (.t 4))]), (40, .x (.t 3))])]] false) .ret))))))
theorem f30 : sF EE 30 [7, 9, 10, 11, 12, 13, 14, 19, 18, 21, 22, 5, 23, 24, 25, 26, 27, 28, 29, 31, 32, 33, 35, 36, 37, 38, 39, 40, 41] = some ⟨42, [.cell true 5 2], c30⟩ := by
  kernel_rfl
/- 31 lineage/lexer.quoted -/
def c31 : SC := .seq (.reg [.act (some 2) [] (.alloc 42 [.int .i64 0, .int .i64 0, .str [], .int .i64 0, .int .i64 0]) []] false) (.seq (.seq (.reg [.tick 3] false) (.cond (.op
  (.bin .neq .num (.t 7) (.c (.s (.int .u8 39)))) [(7, .op (.iv .str (.t 6) (.c (.s (.int .i64 0)))) [(6, .x (.t 0))])]) (.seq (.reg [.tick 1, .act none [] (.store 5 (.t 2) (.t 9))
  [(9, .op (.build [.int .i64 0, .int .i64 0, .str [], .int .i64 0, .int .i64 0] [(4, 1, .c (.s (.int .i64 (-1))))]) [])]] false) .ret) .skip)) (.seq (.reg [.set 3 (.x (.c (.s
  (.int .i64 1)))), .tick 1] false) (.seq (.block 0 (.loop (.block 1 (.seq (.reg [.tick 4, .act (some 14) [] (.call 43 [.t 13, .c (.s (.func 53))]) [(13, .op (.sl .str (.t 11)
  (some (.t 12)) none) [(11, .x (.t 0)), (12, .x (.t 3))])], .set 3 (.op (.bin .add .num (.t 10) (.t 14)) [(10, .x (.t 3))]), .tick 2] false) (.seq (.seq (.reg [.tick 4] false)
  (.cond (.op (.bin .eql .num (.t 16) (.t 18)) [(16, .x (.t 3)), (18, .op (.len .str (.t 17)) [(17, .x (.t 0))])]) (.seq (.reg [.tick 1, .act none [] (.store 5 (.t 2) (.t 20))
  [(20, .op (.build [.int .i64 0, .int .i64 0, .str [], .int .i64 0, .int .i64 0] [(4, 1, .c (.s (.int .i64 0)))]) [])]] false) .ret) .skip)) (.seq (.reg [.set 3 (.op (.bin .add
  .num (.t 21) (.c (.s (.int .i64 1)))) [(21, .x (.t 3))]), .tick 3] false) (.seq (.seq (.reg [.tick 10] false) (.cond (.pick (.op (.bin .eql .num (.t 23) (.t 25)) [(23, .x (.t
  3)), (25, .op (.len .str (.t 24)) [(24, .x (.t 0))])]) (.x (.c (.s (.bool true)))) (.op (.bin .neq .num (.t 30) (.c (.s (.int .u8 39)))) [(30, .op (.iv .str (.t 28) (.t 29))
  [(28, .x (.t 0)), (29, .x (.t 3))])])) (.exit 0) .skip)) (.reg [.set 3 (.op (.bin .add .num (.t 33) (.c (.s (.int .i64 1)))) [(33, .x (.t 3))]), .tick 3] false)))))))) (.seq
  (.reg [.tick 3, .act (some 39) [] (.call 17 [.t 38]) [(38, .op (.sl .str (.t 36) none (some (.t 37))) [(36, .x (.t 0)), (37, .x (.t 3))])], .set 4 (.op (.ext (.t 35) 0) [(35, .x
  (.t 39))]), .tick 5] false) (.seq (.seq (.reg [.tick 3] false) (.seq (.reg [.need [] (.op (.ext (.t 35) 1) [(35, .x (.t 39))])] false) (.cond (.op (.bin .gtr .num (.t 43) (.c (.s
  (.int .i64 255)))) [(43, .op (.len .str (.t 42)) [(42, .x (.t 4))])]) (.seq (.reg [.tick 1, .act none [] (.store 5 (.t 2) (.t 45)) [(45, .op (.build [.int .i64 0, .int .i64 0,
  .str [], .int .i64 0, .int .i64 0] [(4, 1, .c (.s (.int .i64 0)))]) [])]] false) .ret) .skip))) (.seq (.reg [.tick 4, .act none [] (.store 5 (.t 2) (.t 49)) [(49, .op (.build
  [.int .i64 0, .int .i64 0, .str [], .int .i64 0, .int .i64 0] [(0, 3, .t 47), (3, 1, .t 48), (4, 1, .c (.s (.int .i64 (-1))))]) [(47, .op (.build [.int .i64 0, .int .i64 0, .str
  []] [(0, 1, .c (.s (.int .i64 3))), (2, 1, .t 46)]) [(46, .x (.t 4))]), (48, .x (.t 3))])]] false) .ret))))))
theorem f31 : sF EE 31 [6, 7, 8, 9, 10, 11, 12, 13, 15, 16, 17, 18, 19, 20, 21, 22, 23, 24, 25, 26, 27, 28, 29, 30, 31, 32, 33, 34, 36, 37, 38, 35, 40, 41, 5, 42, 43, 44, 45, 46,
  47, 48, 49] = some ⟨50, [.cell true 5 2], c31⟩ := by kernel_rfl
/- 33 lineage/lineageref23.Blank -/
def c33 : SC := .seq (.reg [.set 4 (.x (.c (.s (.int .i64 0)))), .tick 1] false) (.seq (.block 0 (.loop (.seq (.seq (.reg [.tick 4] false) (.cond (.op (.bin .lss .num (.t 5) (.t
  7)) [(5, .x (.t 1)), (7, .op (.len .str (.t 6)) [(6, .x (.t 0))])]) .skip (.exit 0))) (.block 1 (.seq (.seq (.reg [.tick 22] false) (.cond (.pick (.pick (.pick (.op (.bin .eql
  .num (.t 11) (.c (.s (.int .u8 32)))) [(11, .op (.iv .str (.t 9) (.t 10)) [(9, .x (.t 0)), (10, .x (.t 1))])]) (.x (.c (.s (.bool true)))) (.op (.bin .eql .num (.t 16) (.c (.s
  (.int .u8 9)))) [(16, .op (.iv .str (.t 14) (.t 15)) [(14, .x (.t 0)), (15, .x (.t 1))])])) (.x (.c (.s (.bool true)))) (.op (.bin .eql .num (.t 22) (.c (.s (.int .u8 10))))
  [(22, .op (.iv .str (.t 20) (.t 21)) [(20, .x (.t 0)), (21, .x (.t 1))])])) (.x (.c (.s (.bool true)))) (.op (.bin .eql .num (.t 28) (.c (.s (.int .u8 13)))) [(28, .op (.iv .str
  (.t 26) (.t 27)) [(26, .x (.t 0)), (27, .x (.t 1))])])) (.seq (.reg [.set 1 (.op (.bin .add .num (.t 31) (.c (.s (.int .i64 1)))) [(31, .x (.t 1))]), .tick 3] false) (.exit 1))
  .skip)) (.seq (.seq (.reg [.tick 18] false) (.cond (.pick (.pick (.op (.bin .neq .num (.t 35) (.c (.s (.int .u8 45)))) [(35, .op (.iv .str (.t 33) (.t 34)) [(33, .x (.t 0)), (34,
  .x (.t 1))])]) (.x (.c (.s (.bool true)))) (.op (.bin .geq .num (.t 39) (.t 41)) [(39, .op (.bin .add .num (.t 38) (.c (.s (.int .i64 1)))) [(38, .x (.t 1))]), (41, .op (.len
  .str (.t 40)) [(40, .x (.t 0))])])) (.x (.c (.s (.bool true)))) (.op (.bin .neq .num (.t 48) (.c (.s (.int .u8 45)))) [(48, .op (.iv .str (.t 45) (.t 47)) [(45, .x (.t 0)), (47,
  .op (.bin .add .num (.t 46) (.c (.s (.int .i64 1)))) [(46, .x (.t 1))])])])) (.seq (.reg [.set 4 (.x (.t 1)), .tick 2] false) .ret) .skip)) (.block 2 (.loop (.seq (.seq (.reg
  [.tick 10] false) (.cond (.pick (.op (.bin .lss .num (.t 52) (.t 54)) [(52, .x (.t 1)), (54, .op (.len .str (.t 53)) [(53, .x (.t 0))])]) (.op (.bin .neq .num (.t 59) (.c (.s
  (.int .u8 10)))) [(59, .op (.iv .str (.t 57) (.t 58)) [(57, .x (.t 0)), (58, .x (.t 1))])]) (.x (.c (.s (.bool false))))) .skip (.exit 2))) (.block 3 (.reg [.set 1 (.op (.bin
  .add .num (.t 62) (.c (.s (.int .i64 1)))) [(62, .x (.t 1))]), .tick 3] false))))))))))) (.seq (.reg [.set 4 (.x (.t 1)), .tick 2] false) .ret))
theorem f33 : sF EE 33 [5, 6, 7, 8, 9, 10, 11, 12, 13, 14, 15, 16, 17, 18, 19, 20, 21, 22, 23, 24, 25, 26, 27, 28, 29, 30, 31, 32, 33, 34, 35, 36, 37, 38, 39, 40, 41, 42, 43, 44,
  45, 46, 47, 48, 49, 50, 51, 52, 53, 54, 55, 56, 57, 58, 59, 60, 61, 62, 63, 64] = some ⟨65, [.t 4], c33⟩ := by kernel_rfl
/- 34 lineage/lineageref23.word -/
def c34 : SC := .seq (.reg [.act (some 4) [] (.alloc 30 [.int .i64 0, .int .i64 0, .str []]) [], .set 5 (.x (.c (.s (.int .i64 0)))), .set 6 (.x (.c (.s (.bool false)))), .tick 2]
  false) (.seq (.reg [.set 7 (.x (.t 1)), .tick 2] false) (.seq (.block 0 (.loop (.seq (.seq (.reg [.set 13 (.op (.bin .lss .num (.t 9) (.t 11)) [(9, .x (.t 7)), (11, .op (.len
  .str (.t 10)) [(10, .x (.t 0))])]), .tick 8, .act (some 17) [(.x (.t 13), true)] (.call 12 [.t 16]) [(16, .op (.iv .str (.t 14) (.t 15)) [(14, .x (.t 0)), (15, .x (.t 7))])],
  .tick 4, .act (some 22) [(.x (.t 13), true), (.x (.t 17), false)] (.call 15 [.t 21]) [(21, .op (.iv .str (.t 19) (.t 20)) [(19, .x (.t 0)), (20, .x (.t 7))])], .tick 8] false)
  (.seq (.reg [.need [(.x (.t 13), true)] (.pick (.pick (.x (.t 17)) (.x (.c (.s (.bool true)))) (.x (.t 22))) (.x (.c (.s (.bool true)))) (.op (.bin .eql .num (.t 27) (.c (.s
  (.int .u8 95)))) [(27, .op (.iv .str (.t 25) (.t 26)) [(25, .x (.t 0)), (26, .x (.t 7))])]))] false) (.cond (.pick (.x (.t 13)) (.pick (.pick (.x (.t 17)) (.x (.c (.s (.bool
  true)))) (.x (.t 22))) (.x (.c (.s (.bool true)))) (.op (.bin .eql .num (.t 27) (.c (.s (.int .u8 95)))) [(27, .op (.iv .str (.t 25) (.t 26)) [(25, .x (.t 0)), (26, .x (.t
  7))])])) (.x (.c (.s (.bool false))))) .skip (.exit 0)))) (.block 1 (.reg [.set 7 (.op (.bin .add .num (.t 31) (.c (.s (.int .i64 1)))) [(31, .x (.t 7))]), .tick 3] false)))))
  (.seq (.seq (.reg [.tick 4, .act (some 37) [] (.call 55 [.t 36]) [(36, .op (.sl .str (.t 33) (some (.t 34)) (some (.t 35))) [(33, .x (.t 0)), (34, .x (.t 1)), (35, .x (.t 7))])]]
  false) (.cond (.x (.t 37)) (.seq (.reg [.tick 5, .act (some 43) [] (.call 13 [.t 42]) [(42, .op (.sl .str (.t 39) (some (.t 40)) (some (.t 41))) [(39, .x (.t 0)), (40, .x (.t
  1)), (41, .x (.t 7))])], .tick 2, .act none [] (.store 3 (.t 4) (.t 44)) [(44, .op (.build [.int .i64 0, .int .i64 0, .str []] [(0, 1, .c (.s (.int .i64 1))), (1, 1, .t 38), (2,
  1, .t 43)]) [(38, .x (.t 1))])], .set 5 (.x (.t 7)), .set 6 (.x (.c (.s (.bool true)))), .tick 2] false) .ret) .skip)) (.seq (.reg [.tick 5, .act (some 51) [] (.call 24 [.t 50])
  [(50, .op (.sl .str (.t 47) (some (.t 48)) (some (.t 49))) [(47, .x (.t 0)), (48, .x (.t 1)), (49, .x (.t 7))])], .need [] (.op (.bin .leq .num (.t 56) (.c (.s (.int .i64 31))))
  [(56, .op (.bin .sub .num (.t 54) (.t 55)) [(54, .x (.t 7)), (55, .x (.t 1))])]), .tick 6, .act none [] (.store 3 (.t 4) (.t 52)) [(52, .op (.build [.int .i64 0, .int .i64 0,
  .str []] [(0, 1, .c (.s (.int .i64 0))), (1, 1, .t 46), (2, 1, .t 51)]) [(46, .x (.t 1))])], .set 5 (.x (.t 7)), .set 6 (.op (.bin .leq .num (.t 56) (.c (.s (.int .i64 31))))
  [(56, .op (.bin .sub .num (.t 54) (.t 55)) [(54, .x (.t 7)), (55, .x (.t 1))])]), .tick 2] false) .ret))))
theorem f34 : sF EE 34 [8, 9, 10, 11, 12, 14, 15, 16, 18, 19, 20, 21, 23, 24, 25, 26, 27, 28, 29, 30, 31, 32, 33, 34, 35, 36, 38, 39, 40, 41, 42, 44, 45, 46, 47, 48, 49, 50, 52,
  53, 54, 55, 56, 57] = some ⟨58, [.cell true 3 4, .t 5, .t 6], c34⟩ := by kernel_rfl
/- 35 lineage/lineageref23.integer -/
def c35 : SC := .seq (.reg [.act (some 4) [] (.alloc 30 [.int .i64 0, .int .i64 0, .str []]) [], .set 5 (.x (.c (.s (.int .i64 0)))), .set 6 (.x (.c (.s (.bool false)))), .tick 2]
  false) (.seq (.reg [.set 7 (.x (.t 1)), .tick 2] false) (.seq (.block 0 (.loop (.seq (.seq (.reg [.set 14 (.op (.bin .lss .num (.t 10) (.t 12)) [(10, .x (.t 7)), (12, .op (.len
  .str (.t 11)) [(11, .x (.t 0))])]), .tick 8, .act (some 18) [(.x (.t 14), true)] (.call 15 [.t 17]) [(17, .op (.iv .str (.t 15) (.t 16)) [(15, .x (.t 0)), (16, .x (.t 7))])],
  .tick 1] false) (.cond (.pick (.x (.t 14)) (.x (.t 18)) (.x (.c (.s (.bool false))))) .skip (.exit 0))) (.block 1 (.reg [.set 7 (.op (.bin .add .num (.t 20) (.c (.s (.int .i64
  1)))) [(20, .x (.t 7))]), .tick 3] false))))) (.seq (.reg [.set 8 (.op (.sl .str (.t 22) (some (.t 23)) (some (.t 24))) [(22, .x (.t 0)), (23, .x (.t 1)), (24, .x (.t 7))]),
  .tick 5] false) (.seq (.block 2 (.loop (.seq (.seq (.reg [.tick 8] false) (.cond (.pick (.op (.bin .gtr .num (.t 27) (.c (.s (.int .i64 1)))) [(27, .op (.len .str (.t 26)) [(26,
  .x (.t 8))])]) (.op (.bin .eql .num (.t 31) (.c (.s (.int .u8 48)))) [(31, .op (.iv .str (.t 30) (.c (.s (.int .i64 0)))) [(30, .x (.t 8))])]) (.x (.c (.s (.bool false))))) .skip
  (.exit 2))) (.block 3 (.reg [.set 8 (.op (.sl .str (.t 34) (some (.c (.s (.int .i64 1)))) none) [(34, .x (.t 8))]), .tick 3] false))))) (.seq (.seq (.reg [.tick 12] false) (.cond
  (.pick (.op (.bin .gtr .num (.t 37) (.c (.s (.int .i64 19)))) [(37, .op (.len .str (.t 36)) [(36, .x (.t 8))])]) (.x (.c (.s (.bool true)))) (.pick (.op (.bin .eql .num (.t 41)
  (.c (.s (.int .i64 19)))) [(41, .op (.len .str (.t 40)) [(40, .x (.t 8))])]) (.op (.bin .gtr .num (.t 44) (.c (.s (.str [57, 50, 50, 51, 51, 55, 50, 48, 51, 54, 56, 53, 52, 55,
  55, 53, 56, 48, 55])))) [(44, .x (.t 8))]) (.x (.c (.s (.bool false)))))) (.seq (.reg [.tick 2, .act none [] (.store 3 (.t 4) (.t 48)) [(48, .op (.build [.int .i64 0, .int .i64
  0, .str []] []) [])], .set 5 (.x (.t 1)), .set 6 (.x (.c (.s (.bool false)))), .tick 2] false) .ret) .skip)) (.seq (.seq (.reg [.set 54 (.op (.bin .lss .num (.t 50) (.t 52))
  [(50, .x (.t 7)), (52, .op (.len .str (.t 51)) [(51, .x (.t 0))])]), .tick 8, .act (some 58) [(.x (.t 54), true)] (.call 12 [.t 57]) [(57, .op (.iv .str (.t 55) (.t 56)) [(55, .x
  (.t 0)), (56, .x (.t 7))])], .tick 7] false) (.seq (.reg [.need [(.x (.t 54), true)] (.pick (.x (.t 58)) (.x (.c (.s (.bool true)))) (.op (.bin .eql .num (.t 62) (.c (.s (.int
  .u8 95)))) [(62, .op (.iv .str (.t 60) (.t 61)) [(60, .x (.t 0)), (61, .x (.t 7))])]))] false) (.cond (.pick (.x (.t 54)) (.pick (.x (.t 58)) (.x (.c (.s (.bool true)))) (.op
  (.bin .eql .num (.t 62) (.c (.s (.int .u8 95)))) [(62, .op (.iv .str (.t 60) (.t 61)) [(60, .x (.t 0)), (61, .x (.t 7))])])) (.x (.c (.s (.bool false))))) (.seq (.reg [.tick 2,
  .act none [] (.store 3 (.t 4) (.t 66)) [(66, .op (.build [.int .i64 0, .int .i64 0, .str []] []) [])], .set 5 (.x (.t 7)), .set 6 (.x (.c (.s (.bool false)))), .tick 2] false)
  .ret) .skip))) (.seq (.reg [.tick 4, .act none [] (.store 3 (.t 4) (.t 70)) [(70, .op (.build [.int .i64 0, .int .i64 0, .str []] [(0, 1, .c (.s (.int .i64 2))), (1, 1, .t 68),
  (2, 1, .t 69)]) [(68, .x (.t 1)), (69, .x (.t 8))])], .set 5 (.x (.t 7)), .set 6 (.x (.c (.s (.bool true)))), .tick 2] false) .ret)))))))
theorem f35 : sF EE 35 [9, 10, 11, 12, 13, 15, 16, 17, 19, 20, 21, 22, 23, 24, 25, 26, 27, 28, 29, 30, 31, 32, 33, 34, 35, 36, 37, 38, 39, 40, 41, 42, 43, 44, 45, 46, 47, 48, 49,
  50, 51, 52, 53, 55, 56, 57, 59, 60, 61, 62, 63, 64, 65, 66, 67, 68, 69, 70, 71] = some ⟨72, [.cell true 3 4, .t 5, .t 6], c35⟩ := by kernel_rfl
/- 36 lineage/lineageref23.quoted -/
def c36 : SC := .seq (.reg [.act (some 4) [] (.alloc 30 [.int .i64 0, .int .i64 0, .str []]) [], .set 5 (.x (.c (.s (.int .i64 0)))), .set 6 (.x (.c (.s (.bool false)))), .tick 2]
  false) (.seq (.reg [.set 7 (.x (.c (.s (.str [])))), .tick 1] false) (.seq (.seq (.reg [.set 8 (.op (.bin .add .num (.t 9) (.c (.s (.int .i64 1)))) [(9, .x (.t 1))]), .tick 3]
  false) (.block 0 (.loop (.seq (.seq (.reg [.tick 4] false) (.cond (.op (.bin .lss .num (.t 11) (.t 13)) [(11, .x (.t 8)), (13, .op (.len .str (.t 12)) [(12, .x (.t 0))])]) .skip
  (.exit 0))) (.seq (.block 1 (.seq (.seq (.reg [.tick 4] false) (.cond (.op (.bin .neq .num (.t 19) (.c (.s (.int .u8 39)))) [(19, .op (.iv .str (.t 17) (.t 18)) [(17, .x (.t 0)),
  (18, .x (.t 8))])]) (.seq (.reg [.set 7 (.op (.bin .add .num (.t 21) (.t 26)) [(21, .x (.t 7)), (26, .op (.sl .str (.t 22) (some (.t 23)) (some (.t 25))) [(22, .x (.t 0)), (23,
  .x (.t 8)), (25, .op (.bin .add .num (.t 24) (.c (.s (.int .i64 1)))) [(24, .x (.t 8))])])]), .tick 8] false) (.seq (.reg [.need [] (.op (.sl .str (.t 22) (some (.t 23)) (some
  (.t 25))) [(22, .x (.t 0)), (23, .x (.t 8)), (25, .op (.bin .add .num (.t 24) (.c (.s (.int .i64 1)))) [(24, .x (.t 8))])])] false) (.exit 1))) .skip)) (.seq (.seq (.reg [.tick
  12] false) (.cond (.pick (.op (.bin .lss .num (.t 29) (.t 31)) [(29, .op (.bin .add .num (.t 28) (.c (.s (.int .i64 1)))) [(28, .x (.t 8))]), (31, .op (.len .str (.t 30)) [(30,
  .x (.t 0))])]) (.op (.bin .eql .num (.t 37) (.c (.s (.int .u8 39)))) [(37, .op (.iv .str (.t 34) (.t 36)) [(34, .x (.t 0)), (36, .op (.bin .add .num (.t 35) (.c (.s (.int .i64
  1)))) [(35, .x (.t 8))])])]) (.x (.c (.s (.bool false))))) (.seq (.reg [.set 7 (.op (.bin .add .num (.t 40) (.c (.s (.str [39])))) [(40, .x (.t 7))]), .tick 3] false) (.seq (.reg
  [.set 8 (.op (.bin .add .num (.t 42) (.c (.s (.int .i64 1)))) [(42, .x (.t 8))]), .tick 3] false) (.exit 1))) .skip)) (.seq (.reg [.set 51 (.op (.bin .leq .num (.t 50) (.c (.s
  (.int .i64 255)))) [(50, .op (.len .str (.t 49)) [(49, .x (.t 7))])]), .need [] (.op (.bin .add .num (.t 47) (.c (.s (.int .i64 1)))) [(47, .x (.t 8))]), .tick 8, .act none []
  (.store 3 (.t 4) (.t 46)) [(46, .op (.build [.int .i64 0, .int .i64 0, .str []] [(0, 1, .c (.s (.int .i64 3))), (1, 1, .t 44), (2, 1, .t 45)]) [(44, .x (.t 1)), (45, .x (.t
  7))])], .set 5 (.op (.bin .add .num (.t 47) (.c (.s (.int .i64 1)))) [(47, .x (.t 8))]), .set 6 (.x (.t 51)), .tick 2] false) .ret)))) (.reg [.set 8 (.op (.bin .add .num (.t 15)
  (.c (.s (.int .i64 1)))) [(15, .x (.t 8))]), .tick 3] false)))))) (.seq (.reg [.tick 2, .act none [] (.store 3 (.t 4) (.t 52)) [(52, .op (.build [.int .i64 0, .int .i64 0, .str
  []] []) [])], .set 5 (.x (.t 1)), .set 6 (.x (.c (.s (.bool false)))), .tick 2] false) .ret)))
theorem f36 : sF EE 36 [9, 10, 11, 12, 13, 14, 17, 18, 19, 20, 21, 22, 23, 24, 25, 26, 27, 28, 29, 30, 31, 32, 33, 34, 35, 36, 37, 38, 39, 40, 41, 42, 43, 44, 45, 46, 47, 48, 49,
  50, 15, 16, 52, 53] = some ⟨54, [.cell true 3 4, .t 5, .t 6], c36⟩ := by kernel_rfl
/- 37 lineage/lineageref23.symbol -/
def c37 : SC := .seq (.reg [.act (some 4) [] (.alloc 30 [.int .i64 0, .int .i64 0, .str []]) [], .set 5 (.x (.c (.s (.int .i64 0)))), .set 6 (.x (.c (.s (.bool false)))), .tick 2]
  false) (.seq (.seq (.reg [.set 7 (.x (.c (.s (.int .i64 2)))), .tick 1] false) (.block 0 (.loop (.seq (.seq (.reg [.tick 2] false) (.cond (.op (.bin .geq .num (.t 8) (.c (.s
  (.int .i64 1)))) [(8, .x (.t 7))]) .skip (.exit 0))) (.seq (.block 1 (.seq (.reg [.set 18 (.op (.bin .leq .num (.t 14) (.t 16)) [(14, .op (.bin .add .num (.t 12) (.t 13)) [(12,
  .x (.t 1)), (13, .x (.t 7))]), (16, .op (.len .str (.t 15)) [(15, .x (.t 0))])]), .tick 7, .act (some 19) [(.x (.t 18), true)] (.call 23 []) [], .tick 6, .act (some 26) [(.x (.t
  18), true)] (.call 56 [.t 19, .t 25]) [(25, .op (.sl .str (.t 20) (some (.t 21)) (some (.t 24))) [(20, .x (.t 0)), (21, .x (.t 1)), (24, .op (.bin .add .num (.t 22) (.t 23))
  [(22, .x (.t 1)), (23, .x (.t 7))])])], .tick 1] true) (.cond (.pick (.x (.t 18)) (.x (.t 26)) (.x (.c (.s (.bool false))))) (.seq (.reg [.need [] (.op (.bin .add .num (.t 36)
  (.t 37)) [(36, .x (.t 1)), (37, .x (.t 7))]), .tick 11, .act none [] (.store 3 (.t 4) (.t 35)) [(35, .op (.build [.int .i64 0, .int .i64 0, .str []] [(0, 1, .c (.s (.int .i64
  4))), (1, 1, .t 28), (2, 1, .t 34)]) [(28, .x (.t 1)), (34, .op (.sl .str (.t 29) (some (.t 30)) (some (.t 33))) [(29, .x (.t 0)), (30, .x (.t 1)), (33, .op (.bin .add .num (.t
  31) (.t 32)) [(31, .x (.t 1)), (32, .x (.t 7))])])])], .set 5 (.op (.bin .add .num (.t 36) (.t 37)) [(36, .x (.t 1)), (37, .x (.t 7))]), .set 6 (.x (.c (.s (.bool true)))), .tick
  2] false) .ret) .skip))) (.reg [.set 7 (.op (.bin .sub .num (.t 10) (.c (.s (.int .i64 1)))) [(10, .x (.t 7))]), .tick 3] false)))))) (.seq (.reg [.tick 2, .act none [] (.store 3
  (.t 4) (.t 39)) [(39, .op (.build [.int .i64 0, .int .i64 0, .str []] []) [])], .set 5 (.x (.t 1)), .set 6 (.x (.c (.s (.bool false)))), .tick 2] false) .ret))
theorem f37 : sF EE 37 [8, 9, 12, 13, 14, 15, 16, 17, 20, 21, 22, 23, 24, 25, 27, 28, 29, 30, 31, 32, 33, 34, 35, 36, 37, 38, 10, 11, 39, 40] = some ⟨41, [.cell true 3 4, .t 5, .t
  6], c37⟩ := by kernel_rfl
/- 38 slices.BinarySearch[[]string,string] -/
def c38 : SC := .seq (.reg [.set 4 (.x (.c (.s (.int .i64 0)))), .set 5 (.x (.c (.s (.bool false)))), .tick 2] false) (.seq (.reg [.set 6 (.op (.len (.sl 0) (.t 10)) [(10, .x (.t
  0))]), .tick 3] false) (.seq (.reg [.set 7 (.x (.c (.s (.int .i64 0)))), .set 8 (.x (.t 6)), .tick 3] false) (.seq (.block 0 (.loop (.seq (.seq (.reg [.tick 3] false) (.cond (.op
  (.bin .lss .num (.t 13) (.t 14)) [(13, .x (.t 7)), (14, .x (.t 8))]) .skip (.exit 0))) (.block 1 (.seq (.reg [.set 9 (.op (.conv (.int .i64) (.t 20)) [(20, .op (.bin .shr .num
  (.t 19) (.c (.s (.int (.u64) 1)))) [(19, .op (.conv (.int (.u64)) (.t 18)) [(18, .op (.bin .add .num (.t 16) (.t 17)) [(16, .x (.t 7)), (17, .x (.t 8))])])])]), .tick 7] false)
  (.seq (.reg [.tick 5, .act (some 27) [] (.call 57 [.t 25, .t 26]) [(25, .op (.load false 1 (.t 24)) [(24, .op (.ia (.sl 1) (.t 22) (.t 23)) [(22, .x (.t 0)), (23, .x (.t 9))])]),
  (26, .x (.t 1))]] false) (.cond (.x (.t 27)) (.reg [.set 7 (.op (.bin .add .num (.t 28) (.c (.s (.int .i64 1)))) [(28, .x (.t 9))]), .tick 3] false) (.reg [.set 8 (.x (.t 9)),
  .tick 2] false)))))))) (.seq (.reg [.need [] (.op (.bin .lss .num (.t 32) (.t 33)) [(32, .x (.t 7)), (33, .x (.t 6))]), .tick 11, .act (some 42) [(.op (.bin .lss .num (.t 32) (.t
  33)) [(32, .x (.t 7)), (33, .x (.t 6))], true)] (.mv (.t 41)) [(41, .op (.bin .eql .num (.t 39) (.t 40)) [(39, .op (.load false 1 (.t 38)) [(38, .op (.ia (.sl 1) (.t 36) (.t 37))
  [(36, .x (.t 0)), (37, .x (.t 7))])]), (40, .x (.t 1))])], .tick 4, .act (some 47) [(.x (.t 42), false)] (.call 58 [.t 46]) [(46, .op (.load false 1 (.t 45)) [(45, .op (.ia (.sl
  1) (.t 43) (.t 44)) [(43, .x (.t 0)), (44, .x (.t 7))])])], .tick 2, .act (some 50) [(.x (.t 42), false), (.x (.t 47), true)] (.call 58 [.t 49]) [(49, .x (.t 1))], .set 4 (.x (.t
  7)), .set 5 (.pick (.op (.bin .lss .num (.t 32) (.t 33)) [(32, .x (.t 7)), (33, .x (.t 6))]) (.pick (.x (.t 42)) (.x (.c (.s (.bool true)))) (.pick (.x (.t 47)) (.x (.t 50)) (.x
  (.c (.s (.bool false)))))) (.x (.c (.s (.bool false))))), .tick 5] false) (.seq (.reg [.need [(.x (.t 42), false)] (.pick (.x (.t 47)) (.x (.t 50)) (.x (.c (.s (.bool false)))))]
  false) .ret)))))
theorem f38 : sF EE 38 [10, 11, 12, 13, 14, 15, 16, 17, 18, 19, 20, 21, 22, 23, 24, 25, 26, 28, 29, 30, 31, 32, 33, 34, 35, 36, 37, 38, 39, 40, 41, 43, 44, 45, 46, 48, 49, 51, 52,
  53] = some ⟨54, [.t 4, .t 5], c38⟩ := by kernel_rfl
/- 39 lineage/lexer.mapped -/
def c39 : SC := .seq (.reg [.set 6 (.x (.c (.s (.str [])))), .tick 1] false) (.seq (.reg [.tick 1, .act (some 11) [] (.conv (.bytes 5) (.t 10)) [(10, .x (.t 0))], .set 7 (.x (.t
  11)), .tick 1] false) (.seq (.seq (.reg [.set 12 (.x (.t 7)), .set 13 (.op (.len (.sl 0) (.t 12)) []), .set 14 (.x (.c (.s (.int .i64 0)))), .tick 3] false) (.block 0 (.loop
  (.seq (.reg [.tick 1] false) (.seq (.cond (.op (.bin .lss .num (.t 14) (.t 13)) []) .skip (.exit 0)) (.seq (.block 1 (.seq (.reg [.set 8 (.x (.t 14)), .set 9 (.op (.load false 1
  (.t 17)) [(17, .op (.ia (.sl 1) (.t 12) (.t 14)) [])]), .tick 5] false) (.seq (.reg [.tick 9] false) (.cond (.pick (.op (.bin .geq .num (.t 19) (.t 20)) [(19, .x (.t 9)), (20, .x
  (.t 1))]) (.op (.bin .lss .num (.t 23) (.t 25)) [(23, .x (.t 9)), (25, .op (.bin .add .num (.t 24) (.c (.s (.int .u8 26)))) [(24, .x (.t 1))])]) (.x (.c (.s (.bool false)))))
  (.reg [.tick 8, .act none [] (.store 1 (.t 35) (.t 34)) [(35, .op (.ia (.sl 1) (.t 28) (.t 29)) [(28, .x (.t 7)), (29, .x (.t 8))]), (34, .op (.bin .add .num (.t 32) (.t 33))
  [(32, .op (.bin .sub .num (.t 30) (.t 31)) [(30, .x (.t 9)), (31, .x (.t 1))]), (33, .x (.t 2))])]] false) .skip)))) (.reg [.set 14 (.op (.bin .add .num (.t 14) (.c (.s (.int
  .i64 1)))) []), .tick 2] false))))))) (.seq (.reg [.set 6 (.op (.conv (.str true) (.t 37)) [(37, .x (.t 7))]), .tick 3] false) .ret)))
theorem f39 : sF EE 39 [10, 15, 16, 17, 18, 19, 20, 21, 22, 23, 24, 25, 26, 27, 28, 29, 30, 31, 32, 33, 34, 35, 36, 37, 38] = some ⟨39, [.t 6], c39⟩ := by kernel_rfl
/- 43 lineage/lexer.span -/
def c43 : SC := .seq (.reg [.set 4 (.x (.c (.s (.int .i64 0)))), .tick 1] false) (.seq (.reg [.set 5 (.x (.c (.s (.int .i64 0)))), .tick 1] false) (.seq (.block 0 (.loop (.seq
  (.seq (.reg [.set 10 (.op (.bin .lss .num (.t 6) (.t 8)) [(6, .x (.t 5)), (8, .op (.len .str (.t 7)) [(7, .x (.t 0))])]), .tick 9, .act (some 15) [(.x (.t 10), true)] (.callv (.t
  11) [.t 14]) [(11, .x (.t 1)), (14, .op (.iv .str (.t 12) (.t 13)) [(12, .x (.t 0)), (13, .x (.t 5))])], .tick 1] false) (.cond (.pick (.x (.t 10)) (.x (.t 15)) (.x (.c (.s
  (.bool false))))) .skip (.exit 0))) (.block 1 (.reg [.set 5 (.op (.bin .add .num (.t 17) (.c (.s (.int .i64 1)))) [(17, .x (.t 5))]), .tick 3] false))))) (.seq (.reg [.set 4 (.x
  (.t 5)), .tick 2] false) .ret)))
theorem f43 : sF EE 43 [6, 7, 8, 9, 11, 12, 13, 14, 16, 17, 18, 19] = some ⟨20, [.t 4], c43⟩ := by kernel_rfl
/- 44 lineage/lexer.skip$1 -/
def c44 : SC := .seq (.reg [.set 2 (.x (.c (.s (.bool false)))), .tick 1] false) (.seq (.reg [.set 2 (.pick (.pick (.pick (.op (.bin .eql .num (.t 3) (.c (.s (.int .u8 32)))) [(3,
  .x (.t 0))]) (.x (.c (.s (.bool true)))) (.op (.bin .eql .num (.t 6) (.c (.s (.int .u8 9)))) [(6, .x (.t 0))])) (.x (.c (.s (.bool true)))) (.op (.bin .eql .num (.t 10) (.c (.s
  (.int .u8 10)))) [(10, .x (.t 0))])) (.x (.c (.s (.bool true)))) (.op (.bin .eql .num (.t 14) (.c (.s (.int .u8 13)))) [(14, .x (.t 0))])), .tick 15] false) .ret)
theorem f44 : sF EE 44 [3, 4, 5, 6, 7, 8, 9, 10, 11, 12, 13, 14, 15, 16] = some ⟨17, [.t 2], c44⟩ := by kernel_rfl
/- 45 strings.HasPrefix -/
def c45 : SC := .seq (.reg [.set 4 (.x (.c (.s (.bool false)))), .tick 1] false) (.seq (.reg [.tick 2, .act (some 7) [] (.call 65 [.t 5, .t 6]) [(5, .x (.t 0)), (6, .x (.t 1))],
  .set 4 (.x (.t 7)), .tick 1] false) .ret)
theorem f45 : sF EE 45 [5, 6] = some ⟨8, [.t 4], c45⟩ := by kernel_rfl
/- 46 lineage/lexer.skip$2 -/
def c46 : SC := .seq (.reg [.set 2 (.x (.c (.s (.bool false)))), .tick 1] false) (.seq (.reg [.set 2 (.op (.bin .neq .num (.t 3) (.c (.s (.int .u8 10)))) [(3, .x (.t 0))]), .tick
  3] false) .ret)
theorem f46 : sF EE 46 [3, 4] = some ⟨5, [.t 2], c46⟩ := by kernel_rfl
/- 47 lineage/lexer.letter -/
def c47 : SC := .seq (.reg [.set 2 (.x (.c (.s (.bool false)))), .tick 1] false) (.seq (.reg [.set 2 (.pick (.op (.bin .geq .num (.t 4) (.c (.s (.int .u8 97)))) [(4, .op (.bin .or
  .num (.t 3) (.c (.s (.int .u8 32)))) [(3, .x (.t 0))])]) (.op (.bin .leq .num (.t 8) (.c (.s (.int .u8 122)))) [(8, .op (.bin .or .num (.t 7) (.c (.s (.int .u8 32)))) [(7, .x (.t
  0))])]) (.x (.c (.s (.bool false))))), .tick 9] false) .ret)
theorem f47 : sF EE 47 [3, 4, 5, 6, 7, 8, 9, 10] = some ⟨11, [.t 2], c47⟩ := by kernel_rfl
/- 48 lineage/lexer.inWord -/
def c48 : SC := .seq (.reg [.set 2 (.x (.c (.s (.bool false)))), .tick 1] false) (.seq (.reg [.tick 1, .act (some 4) [] (.call 47 [.t 3]) [(3, .x (.t 0))], .tick 2, .act (some 7)
  [(.x (.t 4), false)] (.call 49 [.t 6]) [(6, .x (.t 0))], .set 2 (.pick (.pick (.x (.t 4)) (.x (.c (.s (.bool true)))) (.x (.t 7))) (.x (.c (.s (.bool true)))) (.op (.bin .eql
  .num (.t 10) (.c (.s (.int .u8 95)))) [(10, .x (.t 0))])), .tick 6] false) .ret)
theorem f48 : sF EE 48 [3, 5, 6, 8, 9, 10, 11, 12] = some ⟨13, [.t 2], c48⟩ := by kernel_rfl
/- 49 lineage/lexer.digit -/
def c49 : SC := .seq (.reg [.set 2 (.x (.c (.s (.bool false)))), .tick 1] false) (.seq (.reg [.set 2 (.pick (.op (.bin .geq .num (.t 3) (.c (.s (.int .u8 48)))) [(3, .x (.t 0))])
  (.op (.bin .leq .num (.t 6) (.c (.s (.int .u8 57)))) [(6, .x (.t 0))]) (.x (.c (.s (.bool false))))), .tick 7] false) .ret)
theorem f49 : sF EE 49 [3, 4, 5, 6, 7, 8] = some ⟨9, [.t 2], c49⟩ := by kernel_rfl
/- 50 cmp.Or[string] -/
def c50 : SC := .seq (.reg [.set 2 (.x (.c (.s (.str [])))), .tick 1] false) (.seq (.reg [.set 3 (.x (.c (.s (.str [])))), .tick 1] false) (.seq (.seq (.reg [.set 6 (.x (.t 0)),
  .set 7 (.op (.len (.sl 0) (.t 6)) []), .set 8 (.x (.c (.s (.int .i64 0)))), .tick 3] false) (.block 0 (.loop (.seq (.reg [.tick 1] false) (.seq (.cond (.op (.bin .lss .num (.t 8)
  (.t 7)) []) .skip (.exit 0)) (.seq (.block 1 (.seq (.reg [.set 5 (.op (.load false 1 (.t 10)) [(10, .op (.ia (.sl 1) (.t 6) (.t 8)) [])]), .tick 3] false) (.seq (.reg [.tick 3]
  false) (.cond (.op (.bin .neq .num (.t 12) (.t 13)) [(12, .x (.t 5)), (13, .x (.t 3))]) (.seq (.reg [.set 2 (.x (.t 5)), .tick 2] false) .ret) .skip)))) (.reg [.set 8 (.op (.bin
  .add .num (.t 8) (.c (.s (.int .i64 1)))) []), .tick 2] false))))))) (.seq (.reg [.set 2 (.x (.t 3)), .tick 2] false) .ret)))
theorem f50 : sF EE 50 [9, 10, 11, 12, 13, 14, 15, 16, 17] = some ⟨18, [.t 2], c50⟩ := by kernel_rfl
/- 51 strings.TrimLeft -/
def c51 : SC := .seq (.reg [.set 4 (.x (.c (.s (.str [])))), .tick 1] false) (.seq (.seq (.reg [.tick 6] false) (.cond (.pick (.op (.bin .eql .num (.t 7) (.c (.s (.str [])))) [(7,
  .x (.t 0))]) (.x (.c (.s (.bool true)))) (.op (.bin .eql .num (.t 10) (.c (.s (.str [])))) [(10, .x (.t 1))])) (.seq (.reg [.set 4 (.x (.t 0)), .tick 2] false) .ret) .skip))
  (.seq (.seq (.reg [.tick 8] false) (.cond (.pick (.op (.bin .eql .num (.t 15) (.c (.s (.int .i64 1)))) [(15, .op (.len .str (.t 14)) [(14, .x (.t 1))])]) (.op (.bin .lss .num (.t
  19) (.c (.s (.int .u8 128)))) [(19, .op (.iv .str (.t 18) (.c (.s (.int .i64 0)))) [(18, .x (.t 1))])]) (.x (.c (.s (.bool false))))) (.seq (.reg [.tick 3, .act (some 25) []
  (.call 66 [.t 22, .t 24]) [(22, .x (.t 0)), (24, .op (.iv .str (.t 23) (.c (.s (.int .i64 0)))) [(23, .x (.t 1))])], .set 4 (.x (.t 25)), .tick 1] false) .ret) .skip)) (.seq
  (.seq (.reg [.tick 1, .act (some 28) [] (.call 67 [.t 27]) [(27, .x (.t 1))], .need [] (.op (.ext (.t 26) 1) [(26, .x (.t 28))]), .need [] (.op (.ext (.t 26) 0) [(26, .x (.t
  28))]), .tick 3, .act (some 5) [] (.alloc 81 [.bool false, .bool false, .bool false, .bool false, .bool false, .bool false, .bool false, .bool false, .bool false, .bool false,
  .bool false, .bool false, .bool false, .bool false, .bool false, .bool false, .bool false, .bool false, .bool false, .bool false, .bool false, .bool false, .bool false, .bool
  false, .bool false, .bool false, .bool false, .bool false, .bool false, .bool false, .bool false, .bool false, .bool false, .bool false, .bool false, .bool false, .bool false,
  .bool false, .bool false, .bool false, .bool false, .bool false, .bool false, .bool false, .bool false, .bool false, .bool false, .bool false, .bool false, .bool false, .bool
  false, .bool false, .bool false, .bool false, .bool false, .bool false, .bool false, .bool false, .bool false, .bool false, .bool false, .bool false, .bool false, .bool false,
  .bool false, .bool false, .bool false, .bool false, .bool false, .bool false, .bool false, .bool false, .bool false, .bool false, .bool false, .bool false, .bool false, .bool
  false, .bool false, .bool false, .bool false, .bool false, .bool false, .bool false, .bool false, .bool false, .bool false, .bool false, .bool false, .bool false, .bool false,
  .bool false, .bool false, .bool false, .bool false, .bool false, .bool false, .bool false, .bool false, .bool false, .bool false, .bool false, .bool false, .bool false, .bool
  false, .bool false, .bool false, .bool false, .bool false, .bool false, .bool false, .bool false, .bool false, .bool false, .bool false, .bool false, .bool false, .bool false,
  .bool false, .bool false, .bool false, .bool false, .bool false, .bool false, .bool false, .bool false, .bool false, .bool false, .bool false, .bool false, .bool false, .bool
  false, .bool false, .bool false, .bool false, .bool false, .bool false, .bool false, .bool false, .bool false, .bool false, .bool false, .bool false, .bool false, .bool false,
  .bool false, .bool false, .bool false, .bool false, .bool false, .bool false, .bool false, .bool false, .bool false, .bool false, .bool false, .bool false, .bool false, .bool
  false, .bool false, .bool false, .bool false, .bool false, .bool false, .bool false, .bool false, .bool false, .bool false, .bool false, .bool false, .bool false, .bool false,
  .bool false, .bool false, .bool false, .bool false, .bool false, .bool false, .bool false, .bool false, .bool false, .bool false, .bool false, .bool false, .bool false, .bool
  false, .bool false, .bool false, .bool false, .bool false, .bool false, .bool false, .bool false, .bool false, .bool false, .bool false, .bool false, .bool false, .bool false,
  .bool false, .bool false, .bool false, .bool false, .bool false, .bool false, .bool false, .bool false, .bool false, .bool false, .bool false, .bool false, .bool false, .bool
  false, .bool false, .bool false, .bool false, .bool false, .bool false, .bool false, .bool false, .bool false, .bool false, .bool false, .bool false, .bool false, .bool false,
  .bool false, .bool false, .bool false, .bool false, .bool false, .bool false, .bool false, .bool false, .bool false, .bool false, .bool false, .bool false, .bool false, .bool
  false, .bool false, .bool false, .bool false, .bool false, .bool false, .bool false, .bool false, .bool false, .bool false, .bool false, .bool false, .bool false, .bool false,
  .bool false, .bool false, .bool false]) [], .act none [] (.store 256 (.t 5) (.t 29)) [(29, .op (.ext (.t 26) 0) [(26, .x (.t 28))])], .set 6 (.op (.ext (.t 26) 1) [(26, .x (.t
  28))]), .tick 1] false) (.seq (.reg [.tick 1] false) (.cond (.x (.t 6)) (.seq (.reg [.tick 1, .act (some 33) [] (.call 68 [.t 32, .t 5]) [(32, .x (.t 0))], .set 4 (.x (.t 33)),
  .tick 1] false) .ret) .skip))) (.seq (.reg [.tick 2, .act (some 36) [] (.call 69 [.t 34, .t 35]) [(34, .x (.t 0)), (35, .x (.t 1))], .set 4 (.x (.t 36)), .tick 1] false) .ret))))
theorem f51 : sF EE 51 [7, 8, 9, 10, 11, 12, 13, 14, 15, 16, 17, 18, 19, 20, 21, 22, 23, 24, 27, 26, 29, 30, 31, 32, 34, 35] = some ⟨37, [.t 4], c51⟩ := by kernel_rfl
/- 53 lineage/lexer.quoted$1 -/
def c53 : SC := .seq (.reg [.set 2 (.x (.c (.s (.bool false)))), .tick 1] false) (.seq (.reg [.set 2 (.op (.bin .neq .num (.t 3) (.c (.s (.int .u8 39)))) [(3, .x (.t 0))]), .tick
  3] false) .ret)
theorem f53 : sF EE 53 [3, 4] = some ⟨5, [.t 2], c53⟩ := by kernel_rfl
/- 55 lineage/lineageref23.IsKeyword -/
def c55 : SC := .seq (.reg [.set 2 (.x (.c (.s (.bool false)))), .tick 1] false) (.seq (.reg [.act (some 3) [] (.call 22 []) [], .tick 1, .act (some 5) [] (.call 13 [.t 4]) [(4, .x
  (.t 0))], .act (some 6) [] (.call 56 [.t 3, .t 5]) [], .set 2 (.x (.t 6)), .tick 1] false) .ret)
theorem f55 : sF EE 55 [4] = some ⟨7, [.t 2], c55⟩ := by kernel_rfl
/- 56 lineage/lineageref23.in -/
def c56 : SC := .seq (.reg [.set 4 (.x (.c (.s (.bool false)))), .tick 1] false) (.seq (.seq (.reg [.set 5 (.x (.c (.s (.int .i64 0)))), .tick 1] false) (.block 0 (.loop (.seq
  (.seq (.reg [.tick 4] false) (.cond (.op (.bin .lss .num (.t 6) (.t 8)) [(6, .x (.t 5)), (8, .op (.len (.sl 0) (.t 7)) [(7, .x (.t 0))])]) .skip (.exit 0))) (.seq (.block 1 (.seq
  (.reg [.tick 6] false) (.cond (.op (.bin .eql .num (.t 15) (.t 16)) [(15, .op (.load false 1 (.t 14)) [(14, .op (.ia (.sl 1) (.t 12) (.t 13)) [(12, .x (.t 0)), (13, .x (.t
  5))])]), (16, .x (.t 1))]) (.seq (.reg [.set 4 (.x (.c (.s (.bool true)))), .tick 1] false) .ret) .skip))) (.reg [.set 5 (.op (.bin .add .num (.t 10) (.c (.s (.int .i64 1))))
  [(10, .x (.t 5))]), .tick 3] false)))))) (.seq (.reg [.set 4 (.x (.c (.s (.bool false)))), .tick 1] false) .ret))
theorem f56 : sF EE 56 [6, 7, 8, 9, 12, 13, 14, 15, 16, 17, 10, 11] = some ⟨18, [.t 4], c56⟩ := by kernel_rfl
/- 57 cmp.Less[string] -/
def c57 : SC := .seq (.reg [.set 4 (.x (.c (.s (.bool false)))), .tick 1] false) (.seq (.reg [.tick 1, .act (some 6) [] (.call 73 [.t 5]) [(5, .x (.t 0))], .tick 2, .act (some 9)
  [(.x (.t 6), true)] (.call 73 [.t 8]) [(8, .x (.t 1))], .set 4 (.pick (.pick (.x (.t 6)) (.op (.un .not (.t 9)) []) (.x (.c (.s (.bool false))))) (.x (.c (.s (.bool true)))) (.op
  (.bin .lss .num (.t 13) (.t 14)) [(13, .x (.t 0)), (14, .x (.t 1))])), .tick 8] false) .ret)
theorem f57 : sF EE 57 [5, 7, 8, 10, 11, 12, 13, 14, 15, 16] = some ⟨17, [.t 4], c57⟩ := by kernel_rfl
/- 58 slices.isNaN[string] -/
def c58 : SC := .seq (.reg [.set 2 (.x (.c (.s (.bool false)))), .tick 1] false) (.seq (.reg [.set 2 (.op (.bin .neq .num (.t 3) (.t 4)) [(3, .x (.t 0)), (4, .x (.t 0))]), .tick 4]
  false) .ret)
theorem f58 : sF EE 58 [3, 4, 5] = some ⟨6, [.t 2], c58⟩ := by kernel_rfl
/- 65 internal/stringslite.HasPrefix -/
def c65 : SC := .seq (.reg [.set 4 (.x (.c (.s (.bool false)))), .tick 1] false) (.seq (.reg [.set 4 (.pick (.op (.bin .geq .num (.t 6) (.t 8)) [(6, .op (.len .str (.t 5)) [(5, .x
  (.t 0))]), (8, .op (.len .str (.t 7)) [(7, .x (.t 1))])]) (.op (.bin .eql .num (.t 14) (.t 15)) [(14, .op (.sl .str (.t 11) none (some (.t 13))) [(11, .x (.t 0)), (13, .op (.len
  .str (.t 12)) [(12, .x (.t 1))])]), (15, .x (.t 1))]) (.x (.c (.s (.bool false))))), .tick 14] false) .ret)
theorem f65 : sF EE 65 [5, 6, 7, 8, 9, 10, 11, 12, 13, 14, 15, 16, 17] = some ⟨18, [.t 4], c65⟩ := by kernel_rfl
/- 66 strings.trimLeftByte -/
def c66 : SC := .seq (.reg [.set 4 (.x (.c (.s (.str [])))), .tick 1] false) (.seq (.block 0 (.loop (.seq (.seq (.reg [.tick 9] false) (.cond (.pick (.op (.bin .gtr .num (.t 6) (.c
  (.s (.int .i64 0)))) [(6, .op (.len .str (.t 5)) [(5, .x (.t 0))])]) (.op (.bin .eql .num (.t 10) (.t 11)) [(10, .op (.iv .str (.t 9) (.c (.s (.int .i64 0)))) [(9, .x (.t 0))]),
  (11, .x (.t 1))]) (.x (.c (.s (.bool false))))) .skip (.exit 0))) (.block 1 (.reg [.set 0 (.op (.sl .str (.t 14) (some (.c (.s (.int .i64 1)))) none) [(14, .x (.t 0))]), .tick 3]
  false))))) (.seq (.reg [.set 4 (.x (.t 0)), .tick 2] false) .ret))
theorem f66 : sF EE 66 [5, 6, 7, 8, 9, 10, 11, 12, 13, 14, 15, 16] = some ⟨17, [.t 4], c66⟩ := by kernel_rfl
/- 73 cmp.isNaN[string] -/
def c73 : SC := .seq (.reg [.set 2 (.x (.c (.s (.bool false)))), .tick 1] false) (.seq (.reg [.set 2 (.op (.bin .neq .num (.t 3) (.t 4)) [(3, .x (.t 0)), (4, .x (.t 0))]), .tick 4]
  false) .ret)
theorem f73 : sF EE 73 [3, 4, 5] = some ⟨6, [.t 2], c73⟩ := by kernel_rfl
end Go.Vm
