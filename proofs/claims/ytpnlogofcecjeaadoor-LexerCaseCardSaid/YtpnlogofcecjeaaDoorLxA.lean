/- The functions of chapter 23, as statements of the machine. -/
import Derived.Test.YtpnlogofcecjeaaDoorLxE
set_option linter.unusedVariables false
set_option maxRecDepth 100000
namespace Go.Vm
open Go.Proofs
def useL : List Nat := [3, 4, 5, 6, 7, 8, 9, 10, 11, 12, 13, 14, 16, 17, 18, 19, 20, 21, 22, 23, 24, 25, 26, 28, 29, 31, 32, 33, 34, 35, 42, 44, 45, 56]
noncomputable def EE : Env := { P := Tryd.prog, ext := extL, ref := fun _ => false, use := fun f => useL.contains f, dyn := fun _ => true, G := fun _ => none }
/- 3 lineage/lineagelaw23.LexerSpace -/
def c3 : SC := .seq (.reg [.set 6 (.x (.c (.s (.bool false)))), .tick 1] false) (.seq (.seq (.reg [.act (some 15) [] (.call 6 []) [], .tick 6] false) (.cond (.pick (.op (.un .not
  (.t 15)) []) (.x (.c (.s (.bool true)))) (.op (.bin .gtr .num (.t 19) (.c (.s (.int .i64 600)))) [(19, .op (.len .str (.t 18)) [(18, .x (.t 0))])])) (.seq (.reg [.act (some 22)
  [] (.call 6 []) [], .set 6 (.x (.t 22)), .tick 1] false) .ret) .skip)) (.seq (.reg [.tick 1, .act (some 25) [] (.call 7 [.t 24]) [(24, .x (.t 0))], .set 7 (.op (.ext (.t 23) 0)
  [(23, .x (.t 25))]), .set 9 (.op (.ext (.t 23) 2) [(23, .x (.t 25))]), .tick 7] false) (.seq (.seq (.reg [.tick 12] false) (.seq (.reg [.need [] (.op (.ext (.t 23) 1) [(23, .x
  (.t 25))])] false) (.cond (.pick (.pick (.op (.bin .neq .num (.t 29) (.c (.s (.int .i64 0)))) [(29, .x (.t 9))]) (.x (.c (.s (.bool true)))) (.op (.bin .lss .num (.t 32) (.c (.s
  (.int .i64 0)))) [(32, .x (.t 1))])) (.x (.c (.s (.bool true)))) (.op (.bin .gtr .num (.t 36) (.t 38)) [(36, .x (.t 1)), (38, .op (.len (.sl 0) (.t 37)) [(37, .x (.t 7))])]))
  (.seq (.reg [.set 6 (.x (.c (.s (.bool true)))), .tick 1] false) .ret) .skip))) (.seq (.reg [.set 10 (.op (.len .str (.t 41)) [(41, .x (.t 0))]), .tick 3] false) (.seq (.seq
  (.reg [.tick 4] false) (.cond (.op (.bin .lss .num (.t 43) (.t 45)) [(43, .x (.t 1)), (45, .op (.len (.sl 0) (.t 44)) [(44, .x (.t 7))])]) (.reg [.set 10 (.op (.load false 1 (.t
  50)) [(50, .op (.fa 1 (.t 49)) [(49, .op (.ia (.sl 3) (.t 47) (.t 48)) [(47, .x (.t 7)), (48, .x (.t 1))])])]), .tick 6] false) .skip)) (.seq (.reg [.act (some 52) [] (.rows 1
  [.str []] 6 [(0, .c (.s (.str [32]))), (1, .c (.s (.str [9]))), (2, .c (.s (.str [10]))), (3, .c (.s (.str [13]))), (4, .c (.s (.str [32, 45, 45, 32, 39, 120, 39, 32, 40, 10]))),
  (5, .c (.s (.str [10, 45, 45, 10])))]) [], .set 11 (.op (.load false 1 (.t 55)) [(55, .op (.ia (.sl 1) (.t 52) (.t 54)) [(54, .op (.bin .rem .num (.t 53) (.c (.s (.int .u8 6))))
  [(53, .x (.t 2))])])]), .tick 5] false) (.seq (.seq (.reg [.tick 4] false) (.cond (.op (.bin .eql .num (.t 57) (.t 59)) [(57, .x (.t 1)), (59, .op (.len (.sl 0) (.t 58)) [(58, .x
  (.t 7))])]) (.reg [.set 11 (.op (.bin .add .num (.c (.s (.str [10]))) (.t 61)) [(61, .x (.t 11))]), .tick 3] false) .skip)) (.seq (.reg [.tick 9, .act (some 73) [] (.call 7 [.t
  72]) [(72, .op (.bin .add .num (.t 68) (.t 71)) [(68, .op (.bin .add .num (.t 66) (.t 67)) [(66, .op (.sl .str (.t 64) none (some (.t 65))) [(64, .x (.t 0)), (65, .x (.t 10))]),
  (67, .x (.t 11))]), (71, .op (.sl .str (.t 69) (some (.t 70)) none) [(69, .x (.t 0)), (70, .x (.t 10))])])], .set 12 (.op (.ext (.t 63) 0) [(63, .x (.t 73))]), .set 13 (.op (.ext
  (.t 63) 1) [(63, .x (.t 73))]), .set 14 (.op (.ext (.t 63) 2) [(63, .x (.t 73))]), .tick 7] true) (.seq (.reg [.set 88 (.pick (.op (.bin .eql .num (.t 77) (.c (.s (.int .i64
  0)))) [(77, .x (.t 14))]) (.op (.bin .eql .num (.t 80) (.t 85)) [(80, .x (.t 13)), (85, .op (.bin .add .num (.t 82) (.t 84)) [(82, .op (.len .str (.t 81)) [(81, .x (.t 0))]),
  (84, .op (.len .str (.t 83)) [(83, .x (.t 11))])])]) (.x (.c (.s (.bool false))))), .tick 14, .act (some 91) [(.x (.t 88), true)] (.call 8 [.t 89, .t 90]) [(89, .x (.t 7)), (90,
  .x (.t 12))], .set 6 (.pick (.x (.t 88)) (.x (.t 91)) (.x (.c (.s (.bool false))))), .tick 2] false) .ret)))))))))
theorem f3 : sF EE 3 [16, 17, 18, 19, 20, 21, 24, 23, 26, 27, 28, 8, 29, 30, 31, 32, 33, 34, 35, 36, 37, 38, 39, 40, 41, 42, 43, 44, 45, 46, 47, 48, 49, 50, 51, 53, 54, 55, 56, 57,
  58, 59, 60, 61, 62, 64, 65, 66, 67, 68, 69, 70, 71, 72, 63, 74, 75, 76, 77, 78, 79, 80, 81, 82, 83, 84, 85, 86, 87, 89, 90, 92] = some ⟨93, [.t 6], c3⟩ := by kernel_rfl
/- 4 lineage/lineagelaw23.LexerCase -/
def c4 : SC := .seq (.reg [.set 4 (.x (.c (.s (.bool false)))), .tick 1] false) (.seq (.seq (.reg [.act (some 15) [] (.call 6 []) [], .tick 6] false) (.cond (.pick (.op (.un .not
  (.t 15)) []) (.x (.c (.s (.bool true)))) (.op (.bin .gtr .num (.t 19) (.c (.s (.int .i64 600)))) [(19, .op (.len .str (.t 18)) [(18, .x (.t 0))])])) (.seq (.reg [.act (some 22)
  [] (.call 6 []) [], .set 4 (.x (.t 22)), .tick 1] false) .ret) .skip)) (.seq (.reg [.tick 1, .act (some 25) [] (.call 7 [.t 24]) [(24, .x (.t 0))], .set 5 (.op (.ext (.t 23) 0)
  [(23, .x (.t 25))]), .set 7 (.op (.ext (.t 23) 2) [(23, .x (.t 25))]), .tick 7] false) (.seq (.seq (.reg [.tick 2] false) (.seq (.reg [.need [] (.op (.ext (.t 23) 1) [(23, .x (.t
  25))])] false) (.cond (.op (.bin .neq .num (.t 29) (.c (.s (.int .i64 0)))) [(29, .x (.t 7))]) (.seq (.reg [.set 4 (.x (.c (.s (.bool true)))), .tick 1] false) .ret) .skip)))
  (.seq (.reg [.tick 1, .act (some 32) [] (.conv (.bytes 5) (.t 31)) [(31, .x (.t 0))], .set 8 (.x (.t 32)), .tick 1] false) (.seq (.seq (.reg [.set 33 (.x (.t 5)), .set 34 (.op
  (.len (.sl 0) (.t 33)) []), .set 35 (.x (.c (.s (.int .i64 0)))), .tick 3] false) (.block 0 (.loop (.seq (.reg [.tick 1] false) (.seq (.cond (.op (.bin .lss .num (.t 35) (.t 34))
  []) .skip (.exit 0)) (.seq (.block 1 (.seq (.reg [.set 38 (.op (.load true 3 (.t 37)) [(37, .op (.ia (.sl 3) (.t 33) (.t 35)) [])]), .tick 2, .act (some 10) [] (.alloc 28 [.int
  .i64 0, .int .i64 0, .str []]) [], .act none [] (.store 3 (.t 10) (.t 38)) []] false) (.seq (.seq (.reg [.tick 8] false) (.cond (.pick (.op (.bin .neq .num (.t 40) (.c (.s (.int
  .i64 0)))) [(40, .op (.load false 1 (.t 39)) [(39, .op (.fa 0 (.t 10)) [])])]) (.op (.bin .neq .num (.t 44) (.c (.s (.int .i64 1)))) [(44, .op (.load false 1 (.t 43)) [(43, .op
  (.fa 0 (.t 10)) [])])]) (.x (.c (.s (.bool false))))) (.exit 1) .skip)) (.seq (.reg [.set 11 (.op (.load false 1 (.t 47)) [(47, .op (.fa 1 (.t 10)) [])]), .tick 3] false) (.block
  2 (.loop (.seq (.seq (.reg [.tick 8] false) (.cond (.op (.bin .lss .num (.t 49) (.t 55)) [(49, .x (.t 11)), (55, .op (.bin .add .num (.t 51) (.t 54)) [(51, .op (.load false 1 (.t
  50)) [(50, .op (.fa 1 (.t 10)) [])]), (54, .op (.len .str (.t 53)) [(53, .op (.load false 1 (.t 52)) [(52, .op (.fa 2 (.t 10)) [])])])])]) .skip (.exit 2))) (.seq (.block 3 (.seq
  (.reg [.tick 4, .act (some 63) [] (.call 9 [.t 62]) [(62, .op (.load false 1 (.t 61)) [(61, .op (.ia (.sl 1) (.t 59) (.t 60)) [(59, .x (.t 8)), (60, .x (.t 11))])])], .tick 8]
  false) (.cond (.pick (.x (.t 63)) (.op (.bin .eql .num (.t 69) (.c (.s (.int (.u64) 1)))) [(69, .op (.bin .rem .num (.t 68) (.c (.s (.int (.u64) 2)))) [(68, .op (.bin .shr .num
  (.t 65) (.t 67)) [(65, .x (.t 1)), (67, .op (.bin .rem .num (.t 66) (.c (.s (.int .i64 64)))) [(66, .x (.t 11))])])])]) (.x (.c (.s (.bool false))))) (.reg [.tick 6, .act none []
  (.store 1 (.t 77) (.t 76)) [(77, .op (.ia (.sl 1) (.t 72) (.t 73)) [(72, .x (.t 8)), (73, .x (.t 11))]), (76, .op (.bin .xor .num (.t 75) (.c (.s (.int .u8 32)))) [(75, .op
  (.load false 1 (.t 74)) [(74, .op (.ia (.sl 1) (.t 72) (.t 73)) [(72, .x (.t 8)), (73, .x (.t 11))])])])]] false) .skip))) (.reg [.set 11 (.op (.bin .add .num (.t 57) (.c (.s
  (.int .i64 1)))) [(57, .x (.t 11))]), .tick 3] false))))))))) (.reg [.set 35 (.op (.bin .add .num (.t 35) (.c (.s (.int .i64 1)))) []), .tick 2] false))))))) (.seq (.reg [.tick
  2, .act (some 82) [] (.call 7 [.t 81]) [(81, .op (.conv (.str true) (.t 80)) [(80, .x (.t 8))])], .set 12 (.op (.ext (.t 79) 0) [(79, .x (.t 82))]), .set 14 (.op (.ext (.t 79) 2)
  [(79, .x (.t 82))]), .tick 7] false) (.seq (.reg [.need [] (.op (.bin .eql .num (.t 86) (.c (.s (.int .i64 0)))) [(86, .x (.t 14))]), .need [] (.op (.ext (.t 79) 1) [(79, .x (.t
  82))]), .tick 5, .act (some 91) [(.op (.bin .eql .num (.t 86) (.c (.s (.int .i64 0)))) [(86, .x (.t 14))], true)] (.call 10 [.t 89, .t 90]) [(89, .x (.t 5)), (90, .x (.t 12))],
  .set 4 (.pick (.op (.bin .eql .num (.t 86) (.c (.s (.int .i64 0)))) [(86, .x (.t 14))]) (.x (.t 91)) (.x (.c (.s (.bool false))))), .tick 2] false) .ret)))))))
theorem f4 : sF EE 4 [16, 17, 18, 19, 20, 21, 24, 23, 26, 27, 28, 6, 29, 30, 31, 36, 37, 39, 40, 41, 42, 43, 44, 45, 46, 47, 48, 49, 50, 51, 52, 53, 54, 55, 56, 59, 60, 61, 62, 64,
  65, 66, 67, 68, 69, 70, 71, 72, 73, 74, 75, 76, 77, 57, 58, 78, 80, 81, 79, 83, 84, 85, 13, 86, 87, 88, 89, 90, 92] = some ⟨93, [.t 4], c4⟩ := by kernel_rfl
/- 5 lineage/lineagelaw23.LexerErrors -/
def c5 : SC := .seq (.reg [.set 2 (.x (.c (.s (.bool false)))), .tick 1] false) (.seq (.seq (.reg [.act (some 9) [] (.call 6 []) [], .tick 6] false) (.cond (.pick (.op (.un .not
  (.t 9)) []) (.x (.c (.s (.bool true)))) (.op (.bin .gtr .num (.t 13) (.c (.s (.int .i64 600)))) [(13, .op (.len .str (.t 12)) [(12, .x (.t 0))])])) (.seq (.reg [.act (some 16) []
  (.call 6 []) [], .set 2 (.x (.t 16)), .tick 1] false) .ret) .skip)) (.seq (.reg [.tick 1, .act (some 19) [] (.call 7 [.t 18]) [(18, .x (.t 0))], .set 4 (.op (.ext (.t 17) 1)
  [(17, .x (.t 19))]), .set 5 (.op (.ext (.t 17) 2) [(17, .x (.t 19))]), .tick 7] false) (.seq (.seq (.reg [.tick 2] false) (.seq (.reg [.need [] (.op (.ext (.t 17) 0) [(17, .x (.t
  19))])] false) (.cond (.op (.bin .eql .num (.t 23) (.c (.s (.int .i64 0)))) [(23, .x (.t 5))]) (.seq (.reg [.set 2 (.op (.bin .eql .num (.t 25) (.t 27)) [(25, .x (.t 4)), (27,
  .op (.len .str (.t 26)) [(26, .x (.t 0))])]), .tick 5] false) .ret) .skip))) (.seq (.seq (.reg [.tick 12] false) (.cond (.pick (.pick (.op (.bin .neq .num (.t 29) (.c (.s (.int
  .i64 3)))) [(29, .x (.t 5))]) (.x (.c (.s (.bool true)))) (.op (.bin .lss .num (.t 32) (.c (.s (.int .i64 0)))) [(32, .x (.t 4))])) (.x (.c (.s (.bool true)))) (.op (.bin .geq
  .num (.t 36) (.t 38)) [(36, .x (.t 4)), (38, .op (.len .str (.t 37)) [(37, .x (.t 0))])])) (.seq (.reg [.set 2 (.x (.c (.s (.bool false)))), .tick 1] false) .ret) .skip)) (.seq
  (.reg [.tick 3, .act (some 45) [] (.call 7 [.t 44]) [(44, .op (.sl .str (.t 42) none (some (.t 43))) [(42, .x (.t 0)), (43, .x (.t 4))])], .set 7 (.op (.ext (.t 41) 1) [(41, .x
  (.t 45))]), .set 8 (.op (.ext (.t 41) 2) [(41, .x (.t 45))]), .tick 7] false) (.seq (.reg [.set 2 (.pick (.op (.bin .eql .num (.t 49) (.c (.s (.int .i64 0)))) [(49, .x (.t 8))])
  (.op (.bin .eql .num (.t 52) (.t 53)) [(52, .x (.t 7)), (53, .x (.t 4))]) (.x (.c (.s (.bool false))))), .tick 8] false) (.seq (.reg [.need [] (.op (.ext (.t 41) 0) [(41, .x (.t
  45))])] false) .ret)))))))
theorem f5 : sF EE 5 [10, 11, 12, 13, 14, 15, 18, 17, 20, 21, 22, 3, 23, 24, 25, 26, 27, 28, 29, 30, 31, 32, 33, 34, 35, 36, 37, 38, 39, 40, 42, 43, 44, 41, 46, 47, 48, 6, 49, 50,
  51, 52, 53, 54, 55] = some ⟨56, [.t 2], c5⟩ := by kernel_rfl
/- 6 lineage/lineagelaw23.awake -/
def c6 : SC := .seq (.reg [.set 0 (.x (.c (.s (.bool false)))), .tick 1] false) (.seq (.reg [.act (some 8) [] (.call 7 [.c (.s (.str [83, 101, 108, 101, 99, 116, 32, 120, 49, 44,
  32, 39, 105, 116, 39, 39, 115, 39, 32, 60, 61, 32, 48, 48, 55]))]) [], .set 1 (.op (.ext (.t 7) 0) [(7, .x (.t 8))]), .set 2 (.op (.ext (.t 7) 1) [(7, .x (.t 8))]), .set 3 (.op
  (.ext (.t 7) 2) [(7, .x (.t 8))]), .tick 7] false) (.seq (.reg [.act (some 13) [] (.call 7 [.c (.s (.str [49, 50, 97, 98]))]) [], .set 5 (.op (.ext (.t 12) 1) [(12, .x (.t
  13))]), .set 6 (.op (.ext (.t 12) 2) [(12, .x (.t 13))]), .tick 7] false) (.seq (.reg [.need [] (.pick (.pick (.pick (.op (.bin .eql .num (.t 17) (.c (.s (.int .i64 0)))) [(17,
  .x (.t 3))]) (.op (.bin .eql .num (.t 20) (.c (.s (.int .i64 25)))) [(20, .x (.t 2))]) (.x (.c (.s (.bool false))))) (.op (.bin .eql .num (.t 24) (.c (.s (.int .i64 3)))) [(24,
  .x (.t 6))]) (.x (.c (.s (.bool false))))) (.op (.bin .eql .num (.t 28) (.c (.s (.int .i64 2)))) [(28, .x (.t 5))]) (.x (.c (.s (.bool false))))), .need [] (.op (.ext (.t 12) 0)
  [(12, .x (.t 13))]), .tick 22, .act (some 39) [(.pick (.pick (.pick (.op (.bin .eql .num (.t 17) (.c (.s (.int .i64 0)))) [(17, .x (.t 3))]) (.op (.bin .eql .num (.t 20) (.c (.s
  (.int .i64 25)))) [(20, .x (.t 2))]) (.x (.c (.s (.bool false))))) (.op (.bin .eql .num (.t 24) (.c (.s (.int .i64 3)))) [(24, .x (.t 6))]) (.x (.c (.s (.bool false))))) (.op
  (.bin .eql .num (.t 28) (.c (.s (.int .i64 2)))) [(28, .x (.t 5))]) (.x (.c (.s (.bool false)))), true)] (.rows 3 [.int .i64 0, .int .i64 0, .str []] 6 [(0, .t 33), (1, .t 34),
  (2, .t 35), (3, .t 36), (4, .t 37), (5, .t 38)]) [(33, .op (.build [.int .i64 0, .int .i64 0, .str []] [(0, 1, .c (.s (.int .i64 1))), (2, 1, .c (.s (.str [83, 69, 76, 69, 67,
  84])))]) []), (34, .op (.build [.int .i64 0, .int .i64 0, .str []] [(0, 1, .c (.s (.int .i64 0))), (1, 1, .c (.s (.int .i64 7))), (2, 1, .c (.s (.str [120, 49])))]) []), (35, .op
  (.build [.int .i64 0, .int .i64 0, .str []] [(0, 1, .c (.s (.int .i64 4))), (1, 1, .c (.s (.int .i64 9))), (2, 1, .c (.s (.str [44])))]) []), (36, .op (.build [.int .i64 0, .int
  .i64 0, .str []] [(0, 1, .c (.s (.int .i64 3))), (1, 1, .c (.s (.int .i64 11))), (2, 1, .c (.s (.str [105, 116, 39, 115])))]) []), (37, .op (.build [.int .i64 0, .int .i64 0,
  .str []] [(0, 1, .c (.s (.int .i64 4))), (1, 1, .c (.s (.int .i64 19))), (2, 1, .c (.s (.str [60, 61])))]) []), (38, .op (.build [.int .i64 0, .int .i64 0, .str []] [(0, 1, .c
  (.s (.int .i64 2))), (1, 1, .c (.s (.int .i64 22))), (2, 1, .c (.s (.str [55])))]) [])], .act (some 40) [(.pick (.pick (.pick (.op (.bin .eql .num (.t 17) (.c (.s (.int .i64
  0)))) [(17, .x (.t 3))]) (.op (.bin .eql .num (.t 20) (.c (.s (.int .i64 25)))) [(20, .x (.t 2))]) (.x (.c (.s (.bool false))))) (.op (.bin .eql .num (.t 24) (.c (.s (.int .i64
  3)))) [(24, .x (.t 6))]) (.x (.c (.s (.bool false))))) (.op (.bin .eql .num (.t 28) (.c (.s (.int .i64 2)))) [(28, .x (.t 5))]) (.x (.c (.s (.bool false)))), true)] (.call 10 [.t
  32, .t 39]) [(32, .x (.t 1))], .set 0 (.pick (.pick (.pick (.pick (.op (.bin .eql .num (.t 17) (.c (.s (.int .i64 0)))) [(17, .x (.t 3))]) (.op (.bin .eql .num (.t 20) (.c (.s
  (.int .i64 25)))) [(20, .x (.t 2))]) (.x (.c (.s (.bool false))))) (.op (.bin .eql .num (.t 24) (.c (.s (.int .i64 3)))) [(24, .x (.t 6))]) (.x (.c (.s (.bool false))))) (.op
  (.bin .eql .num (.t 28) (.c (.s (.int .i64 2)))) [(28, .x (.t 5))]) (.x (.c (.s (.bool false))))) (.x (.t 40)) (.x (.c (.s (.bool false))))), .tick 2] false) .ret)))
theorem f6 : sF EE 6 [7, 9, 10, 11, 12, 14, 15, 16, 4, 17, 18, 19, 20, 21, 22, 23, 24, 25, 26, 27, 28, 29, 30, 31, 32, 33, 34, 35, 36, 37, 38, 41] = some ⟨42, [.t 0], c6⟩ := by
  kernel_rfl
/- 7 lineage/lexer.Scan -/
def c7 : SC := .seq (.reg [.set 2 (.x (.c (.s .nils))), .set 3 (.x (.c (.s (.int .i64 0)))), .set 4 (.x (.c (.s (.int .i64 0)))), .tick 3] false) (.seq (.seq (.reg [.tick 3] false)
  (.cond (.op (.bin .gtr .num (.t 11) (.c (.s (.int .i64 16384)))) [(11, .op (.len .str (.t 10)) [(10, .x (.t 0))])]) (.seq (.reg [.set 2 (.x (.c (.s .nils))), .set 3 (.x (.c (.s
  (.int .i64 0)))), .set 4 (.x (.c (.s (.int .i64 6)))), .tick 3] false) .ret) .skip)) (.seq (.reg [.set 5 (.x (.c (.s .nils))), .tick 1] false) (.seq (.reg [.tick 1, .act (some
  14) [] (.call 11 [.t 13]) [(13, .x (.t 0))], .set 6 (.x (.t 14)), .tick 1] false) (.seq (.block 0 (.loop (.seq (.seq (.reg [.tick 4] false) (.cond (.op (.bin .lss .num (.t 15)
  (.t 17)) [(15, .x (.t 6)), (17, .op (.len .str (.t 16)) [(16, .x (.t 0))])]) .skip (.exit 0))) (.block 1 (.seq (.reg [.act (some 7) [] (.alloc 39 [.int .i64 0, .int .i64 0, .str
  [], .int .i64 0, .int .i64 0]) []] false) (.seq (.seq (.reg [.act (some 19) [] (.rows 1 [.nilf] 4 [(0, .c (.s (.func 12))), (1, .c (.s (.func 13))), (2, .c (.s (.func 14))), (3,
  .c (.s (.func 15)))]) [], .set 20 (.op (.len (.sl 0) (.t 19)) []), .set 21 (.x (.c (.s (.int .i64 0)))), .tick 2] false) (.block 2 (.loop (.seq (.reg [.tick 1] false) (.seq
  (.cond (.op (.bin .lss .num (.t 21) (.t 20)) []) .skip (.exit 2)) (.seq (.block 3 (.seq (.reg [.set 9 (.op (.load false 1 (.t 23)) [(23, .op (.ia (.sl 1) (.t 19) (.t 21)) [])]),
  .tick 3] false) (.seq (.reg [.tick 4, .act (some 29) [] (.callv (.t 25) [.t 28]) [(25, .x (.t 9)), (28, .op (.sl .str (.t 26) (some (.t 27)) none) [(26, .x (.t 0)), (27, .x (.t
  6))])], .act none [] (.store 5 (.t 7) (.t 29)) []] false) (.seq (.reg [.tick 8] false) (.cond (.pick (.op (.bin .gtr .num (.t 31) (.c (.s (.int .i64 0)))) [(31, .op (.load false
  1 (.t 30)) [(30, .op (.fa 3 (.t 7)) [])])]) (.x (.c (.s (.bool true)))) (.op (.bin .geq .num (.t 35) (.c (.s (.int .i64 0)))) [(35, .op (.load false 1 (.t 34)) [(34, .op (.fa 4
  (.t 7)) [])])])) (.exit 2) .skip))))) (.reg [.set 21 (.op (.bin .add .num (.t 21) (.c (.s (.int .i64 1)))) []), .tick 2] false))))))) (.seq (.seq (.reg [.tick 3] false) (.cond
  (.op (.bin .eql .num (.t 40) (.c (.s (.int .i64 0)))) [(40, .op (.load false 1 (.t 39)) [(39, .op (.fa 3 (.t 7)) [])])]) (.seq (.reg [.set 2 (.x (.c (.s .nils))), .set 3 (.op
  (.bin .add .num (.t 42) (.t 45)) [(42, .x (.t 6)), (45, .op (.mx true (.t 44) [.c (.s (.int .i64 0))]) [(44, .op (.load false 1 (.t 43)) [(43, .op (.fa 4 (.t 7)) [])])])]), .set
  4 (.x (.c (.s (.int .i64 3)))), .tick 8] true) .ret) .skip)) (.seq (.reg [.tick 3, .act none [] (.store 1 (.t 49) (.t 47)) [(49, .op (.fa 1 (.t 48)) [(48, .op (.fa 0 (.t 7))
  [])]), (47, .x (.t 6))]] false) (.seq (.reg [.tick 3, .act (some 53) [] (.rows 3 [.int .i64 0, .int .i64 0, .str []] 1 [(0, .t 52)]) [(52, .op (.load true 3 (.t 51)) [(51, .op
  (.fa 0 (.t 7)) [])])], .act (some 54) [] (.app 28 3 (.t 50) (.t 53)) [(50, .x (.t 5))], .set 5 (.x (.t 54)), .tick 1] false) (.seq (.reg [.set 6 (.op (.bin .add .num (.t 55) (.t
  57)) [(55, .x (.t 6)), (57, .op (.load false 1 (.t 56)) [(56, .op (.fa 3 (.t 7)) [])])]), .tick 5] false) (.reg [.need [] (.op (.load false 1 (.t 56)) [(56, .op (.fa 3 (.t 7))
  [])]), .tick 4, .act (some 63) [] (.call 11 [.t 62]) [(62, .op (.sl .str (.t 60) (some (.t 61)) none) [(60, .x (.t 0)), (61, .x (.t 6))])], .set 6 (.op (.bin .add .num (.t 59)
  (.t 63)) [(59, .x (.t 6))]), .tick 2] false))))))))))) (.seq (.reg [.set 2 (.x (.t 5)), .set 3 (.op (.len .str (.t 66)) [(66, .x (.t 0))]), .set 4 (.x (.c (.s (.int .i64 0)))),
  .tick 6] false) .ret)))))
theorem f7 : sF EE 7 [10, 11, 12, 13, 15, 16, 17, 18, 22, 23, 24, 25, 26, 27, 28, 30, 31, 32, 33, 34, 35, 36, 37, 38, 39, 40, 41, 42, 43, 44, 45, 46, 47, 48, 49, 50, 51, 52, 55,
  56, 57, 58, 59, 60, 61, 62, 64, 65, 66, 67] = some ⟨68, [.t 2, .t 3, .t 4], c7⟩ := by kernel_rfl
/- 8 lineage/lineageref23.Alike -/
def c8 : SC := .seq (.reg [.set 4 (.x (.c (.s (.bool false)))), .tick 1] false) (.seq (.seq (.reg [.tick 5] false) (.cond (.op (.bin .neq .num (.t 7) (.t 9)) [(7, .op (.len (.sl 0)
  (.t 6)) [(6, .x (.t 0))]), (9, .op (.len (.sl 0) (.t 8)) [(8, .x (.t 1))])]) (.seq (.reg [.set 4 (.x (.c (.s (.bool false)))), .tick 1] false) .ret) .skip)) (.seq (.seq (.reg
  [.set 5 (.x (.c (.s (.int .i64 0)))), .tick 1] false) (.block 0 (.loop (.seq (.seq (.reg [.tick 4] false) (.cond (.op (.bin .lss .num (.t 11) (.t 13)) [(11, .x (.t 5)), (13, .op
  (.len (.sl 0) (.t 12)) [(12, .x (.t 0))])]) .skip (.exit 0))) (.seq (.block 1 (.seq (.reg [.tick 24] true) (.cond (.pick (.op (.bin .neq .num (.t 21) (.t 26)) [(21, .op (.load
  false 1 (.t 20)) [(20, .op (.fa 0 (.t 19)) [(19, .op (.ia (.sl 3) (.t 17) (.t 18)) [(17, .x (.t 0)), (18, .x (.t 5))])])]), (26, .op (.load false 1 (.t 25)) [(25, .op (.fa 0 (.t
  24)) [(24, .op (.ia (.sl 3) (.t 22) (.t 23)) [(22, .x (.t 1)), (23, .x (.t 5))])])])]) (.x (.c (.s (.bool true)))) (.op (.bin .neq .num (.t 33) (.t 38)) [(33, .op (.load false 1
  (.t 32)) [(32, .op (.fa 2 (.t 31)) [(31, .op (.ia (.sl 3) (.t 29) (.t 30)) [(29, .x (.t 0)), (30, .x (.t 5))])])]), (38, .op (.load false 1 (.t 37)) [(37, .op (.fa 2 (.t 36))
  [(36, .op (.ia (.sl 3) (.t 34) (.t 35)) [(34, .x (.t 1)), (35, .x (.t 5))])])])])) (.seq (.reg [.set 4 (.x (.c (.s (.bool false)))), .tick 1] false) .ret) .skip))) (.reg [.set 5
  (.op (.bin .add .num (.t 15) (.c (.s (.int .i64 1)))) [(15, .x (.t 5))]), .tick 3] false)))))) (.seq (.reg [.set 4 (.x (.c (.s (.bool true)))), .tick 1] false) .ret)))
theorem f8 : sF EE 8 [6, 7, 8, 9, 10, 11, 12, 13, 14, 17, 18, 19, 20, 21, 22, 23, 24, 25, 26, 27, 28, 29, 30, 31, 32, 33, 34, 35, 36, 37, 38, 39, 40, 15, 16] = some ⟨41, [.t 4],
  c8⟩ := by kernel_rfl
/- 9 lineage/lineageref23.Letter -/
def c9 : SC := .seq (.reg [.set 2 (.x (.c (.s (.bool false)))), .tick 1] false) (.seq (.reg [.set 2 (.pick (.pick (.op (.bin .geq .num (.t 3) (.c (.s (.int .u8 65)))) [(3, .x (.t
  0))]) (.op (.bin .leq .num (.t 6) (.c (.s (.int .u8 90)))) [(6, .x (.t 0))]) (.x (.c (.s (.bool false))))) (.x (.c (.s (.bool true)))) (.pick (.op (.bin .geq .num (.t 10) (.c (.s
  (.int .u8 97)))) [(10, .x (.t 0))]) (.op (.bin .leq .num (.t 13) (.c (.s (.int .u8 122)))) [(13, .x (.t 0))]) (.x (.c (.s (.bool false)))))), .tick 15] false) .ret)
theorem f9 : sF EE 9 [3, 4, 5, 6, 7, 8, 9, 10, 11, 12, 13, 14, 15, 16] = some ⟨17, [.t 2], c9⟩ := by kernel_rfl
/- 10 lineage/lineageref23.Same -/
def c10 : SC := .seq (.reg [.set 4 (.x (.c (.s (.bool false)))), .tick 1] false) (.seq (.seq (.reg [.tick 5] false) (.cond (.op (.bin .neq .num (.t 7) (.t 9)) [(7, .op (.len (.sl
  0) (.t 6)) [(6, .x (.t 0))]), (9, .op (.len (.sl 0) (.t 8)) [(8, .x (.t 1))])]) (.seq (.reg [.set 4 (.x (.c (.s (.bool false)))), .tick 1] false) .ret) .skip)) (.seq (.seq (.reg
  [.set 5 (.x (.c (.s (.int .i64 0)))), .tick 1] false) (.block 0 (.loop (.seq (.seq (.reg [.tick 4] false) (.cond (.op (.bin .lss .num (.t 11) (.t 13)) [(11, .x (.t 5)), (13, .op
  (.len (.sl 0) (.t 12)) [(12, .x (.t 0))])]) .skip (.exit 0))) (.seq (.block 1 (.seq (.reg [.tick 9] true) (.cond (.op (.bin .neq (.flat [1, 1, 2]) (.t 20) (.t 24)) [(20, .op
  (.load true 3 (.t 19)) [(19, .op (.ia (.sl 3) (.t 17) (.t 18)) [(17, .x (.t 0)), (18, .x (.t 5))])]), (24, .op (.load true 3 (.t 23)) [(23, .op (.ia (.sl 3) (.t 21) (.t 22))
  [(21, .x (.t 1)), (22, .x (.t 5))])])]) (.seq (.reg [.set 4 (.x (.c (.s (.bool false)))), .tick 1] false) .ret) .skip))) (.reg [.set 5 (.op (.bin .add .num (.t 15) (.c (.s (.int
  .i64 1)))) [(15, .x (.t 5))]), .tick 3] false)))))) (.seq (.reg [.set 4 (.x (.c (.s (.bool true)))), .tick 1] false) .ret)))
theorem f10 : sF EE 10 [6, 7, 8, 9, 10, 11, 12, 13, 14, 17, 18, 19, 20, 21, 22, 23, 24, 25, 15, 16] = some ⟨26, [.t 4], c10⟩ := by kernel_rfl
/- 11 lineage/lexer.skip -/
def c11 : SC := .seq (.reg [.set 2 (.x (.c (.s (.int .i64 0)))), .tick 1] false) (.seq (.reg [.set 3 (.x (.c (.s (.int .i64 0)))), .tick 1] false) (.block 0 (.loop (.block 1 (.seq
  (.reg [.tick 4, .act (some 8) [] (.call 16 [.t 7, .c (.s (.func 17))]) [(7, .op (.sl .str (.t 5) (some (.t 6)) none) [(5, .x (.t 0)), (6, .x (.t 3))])], .set 3 (.op (.bin .add
  .num (.t 4) (.t 8)) [(4, .x (.t 3))]), .tick 2] false) (.seq (.seq (.reg [.tick 3, .act (some 13) [] (.call 18 [.t 12, .c (.s (.str [45, 45]))]) [(12, .op (.sl .str (.t 10) (some
  (.t 11)) none) [(10, .x (.t 0)), (11, .x (.t 3))])], .tick 1] false) (.cond (.op (.un .not (.t 13)) []) (.seq (.reg [.set 2 (.x (.t 3)), .tick 2] false) .ret) .skip)) (.reg
  [.tick 4, .act (some 20) [] (.call 16 [.t 19, .c (.s (.func 19))]) [(19, .op (.sl .str (.t 17) (some (.t 18)) none) [(17, .x (.t 0)), (18, .x (.t 3))])], .set 3 (.op (.bin .add
  .num (.t 16) (.t 20)) [(16, .x (.t 3))]), .tick 2] false)))))))
theorem f11 : sF EE 11 [4, 5, 6, 7, 9, 10, 11, 12, 14, 15, 16, 17, 18, 19, 21] = some ⟨22, [.t 2], c11⟩ := by kernel_rfl
/- 12 lineage/lexer.word -/
def c12 : SC := .seq (.reg [.act (some 2) [] (.alloc 39 [.int .i64 0, .int .i64 0, .str [], .int .i64 0, .int .i64 0]) []] false) (.seq (.seq (.reg [.tick 2, .act (some 6) []
  (.call 20 [.t 5]) [(5, .op (.iv .str (.t 4) (.c (.s (.int .i64 0)))) [(4, .x (.t 0))])], .tick 1] false) (.cond (.op (.un .not (.t 6)) []) (.seq (.reg [.tick 1, .act none []
  (.store 5 (.t 2) (.t 8)) [(8, .op (.build [.int .i64 0, .int .i64 0, .str [], .int .i64 0, .int .i64 0] [(4, 1, .c (.s (.int .i64 (-1))))]) [])]] false) .ret) .skip)) (.seq (.reg
  [.tick 1, .act (some 10) [] (.call 16 [.t 9, .c (.s (.func 21))]) [(9, .x (.t 0))], .set 3 (.x (.t 10)), .tick 1] false) (.seq (.seq (.reg [.tick 3, .act (some 14) [] (.call 22
  [.t 13]) [(13, .op (.sl .str (.t 11) none (some (.t 12))) [(11, .x (.t 0)), (12, .x (.t 3))])]] false) (.cond (.x (.t 14)) (.seq (.reg [.tick 3, .act (some 18) [] (.call 23 [.t
  17, .c (.s (.int .u8 97)), .c (.s (.int .u8 65))]) [(17, .op (.sl .str (.t 15) none (some (.t 16))) [(15, .x (.t 0)), (16, .x (.t 3))])], .tick 3, .act none [] (.store 5 (.t 2)
  (.t 21)) [(21, .op (.build [.int .i64 0, .int .i64 0, .str [], .int .i64 0, .int .i64 0] [(0, 3, .t 19), (3, 1, .t 20), (4, 1, .c (.s (.int .i64 (-1))))]) [(19, .op (.build [.int
  .i64 0, .int .i64 0, .str []] [(0, 1, .c (.s (.int .i64 1))), (2, 1, .t 18)]) []), (20, .x (.t 3))])]] false) .ret) .skip)) (.seq (.seq (.reg [.tick 2] false) (.cond (.op (.bin
  .gtr .num (.t 22) (.c (.s (.int .i64 31)))) [(22, .x (.t 3))]) (.seq (.reg [.tick 1, .act none [] (.store 5 (.t 2) (.t 24)) [(24, .op (.build [.int .i64 0, .int .i64 0, .str [],
  .int .i64 0, .int .i64 0] [(4, 1, .c (.s (.int .i64 0)))]) [])]] false) .ret) .skip)) (.seq (.reg [.tick 3, .act (some 28) [] (.call 23 [.t 27, .c (.s (.int .u8 65)), .c (.s
  (.int .u8 97))]) [(27, .op (.sl .str (.t 25) none (some (.t 26))) [(25, .x (.t 0)), (26, .x (.t 3))])], .tick 3, .act none [] (.store 5 (.t 2) (.t 31)) [(31, .op (.build [.int
  .i64 0, .int .i64 0, .str [], .int .i64 0, .int .i64 0] [(0, 3, .t 29), (3, 1, .t 30), (4, 1, .c (.s (.int .i64 (-1))))]) [(29, .op (.build [.int .i64 0, .int .i64 0, .str []]
  [(0, 1, .c (.s (.int .i64 0))), (2, 1, .t 28)]) []), (30, .x (.t 3))])]] false) .ret)))))
theorem f12 : sF EE 12 [4, 5, 7, 8, 9, 11, 12, 13, 15, 16, 17, 19, 20, 21, 22, 23, 24, 25, 26, 27, 29, 30, 31] = some ⟨32, [.cell true 5 2], c12⟩ := by kernel_rfl
/- 13 lineage/lexer.integer -/
def c13 : SC := .seq (.reg [.act (some 2) [] (.alloc 39 [.int .i64 0, .int .i64 0, .str [], .int .i64 0, .int .i64 0]) []] false) (.seq (.reg [.tick 1, .act (some 8) [] (.call 16
  [.t 7, .c (.s (.func 24))]) [(7, .x (.t 0))], .set 3 (.x (.t 8)), .tick 1] false) (.seq (.seq (.reg [.tick 2] false) (.cond (.op (.bin .eql .num (.t 9) (.c (.s (.int .i64 0))))
  [(9, .x (.t 3))]) (.seq (.reg [.tick 1, .act none [] (.store 5 (.t 2) (.t 11)) [(11, .op (.build [.int .i64 0, .int .i64 0, .str [], .int .i64 0, .int .i64 0] [(4, 1, .c (.s
  (.int .i64 (-1))))]) [])]] false) .ret) .skip)) (.seq (.reg [.tick 3, .act (some 15) [] (.call 26 [.t 14, .c (.s (.str [48]))]) [(14, .op (.sl .str (.t 12) none (some (.t 13)))
  [(12, .x (.t 0)), (13, .x (.t 3))])], .act (some 16) [] (.rows 1 [.str []] 2 [(0, .t 15), (1, .c (.s (.str [48])))]) [], .act (some 17) [] (.call 25 [.t 16]) [], .set 4 (.x (.t
  17)), .tick 1] false) (.seq (.seq (.reg [.tick 1, .act (some 20) [] (.call 27 [.t 19, .c (.s (.int .i64 10)), .c (.s (.int .i64 64))]) [(19, .x (.t 4))], .set 6 (.op (.ext (.t
  18) 1) [(18, .x (.t 20))]), .tick 5] false) (.seq (.reg [.tick 2] false) (.seq (.reg [.need [] (.op (.ext (.t 18) 0) [(18, .x (.t 20))])] false) (.cond (.op (.bin .neq (.nil 0)
  (.t 23) (.c (.s .nili))) [(23, .x (.t 6))]) (.seq (.reg [.tick 1, .act none [] (.store 5 (.t 2) (.t 25)) [(25, .op (.build [.int .i64 0, .int .i64 0, .str [], .int .i64 0, .int
  .i64 0] [(4, 1, .c (.s (.int .i64 0)))]) [])]] false) .ret) .skip)))) (.seq (.seq (.reg [.set 30 (.op (.bin .lss .num (.t 26) (.t 28)) [(26, .x (.t 3)), (28, .op (.len .str (.t
  27)) [(27, .x (.t 0))])]), .tick 8, .act (some 34) [(.x (.t 30), true)] (.call 21 [.t 33]) [(33, .op (.iv .str (.t 31) (.t 32)) [(31, .x (.t 0)), (32, .x (.t 3))])], .tick 1]
  false) (.cond (.pick (.x (.t 30)) (.x (.t 34)) (.x (.c (.s (.bool false))))) (.seq (.reg [.tick 2, .act none [] (.store 5 (.t 2) (.t 37)) [(37, .op (.build [.int .i64 0, .int
  .i64 0, .str [], .int .i64 0, .int .i64 0] [(4, 1, .t 36)]) [(36, .x (.t 3))])]] false) .ret) .skip)) (.seq (.reg [.tick 4, .act none [] (.store 5 (.t 2) (.t 41)) [(41, .op
  (.build [.int .i64 0, .int .i64 0, .str [], .int .i64 0, .int .i64 0] [(0, 3, .t 39), (3, 1, .t 40), (4, 1, .c (.s (.int .i64 (-1))))]) [(39, .op (.build [.int .i64 0, .int .i64
  0, .str []] [(0, 1, .c (.s (.int .i64 2))), (2, 1, .t 38)]) [(38, .x (.t 4))]), (40, .x (.t 3))])]] false) .ret))))))
theorem f13 : sF EE 13 [7, 9, 10, 11, 12, 13, 14, 19, 18, 21, 22, 5, 23, 24, 25, 26, 27, 28, 29, 31, 32, 33, 35, 36, 37, 38, 39, 40, 41] = some ⟨42, [.cell true 5 2], c13⟩ := by
  kernel_rfl
/- 14 lineage/lexer.quoted -/
def c14 : SC := .seq (.reg [.act (some 2) [] (.alloc 39 [.int .i64 0, .int .i64 0, .str [], .int .i64 0, .int .i64 0]) []] false) (.seq (.seq (.reg [.tick 3] false) (.cond (.op
  (.bin .neq .num (.t 7) (.c (.s (.int .u8 39)))) [(7, .op (.iv .str (.t 6) (.c (.s (.int .i64 0)))) [(6, .x (.t 0))])]) (.seq (.reg [.tick 1, .act none [] (.store 5 (.t 2) (.t 9))
  [(9, .op (.build [.int .i64 0, .int .i64 0, .str [], .int .i64 0, .int .i64 0] [(4, 1, .c (.s (.int .i64 (-1))))]) [])]] false) .ret) .skip)) (.seq (.reg [.set 3 (.x (.c (.s
  (.int .i64 1)))), .tick 1] false) (.seq (.block 0 (.loop (.block 1 (.seq (.reg [.tick 4, .act (some 14) [] (.call 16 [.t 13, .c (.s (.func 28))]) [(13, .op (.sl .str (.t 11)
  (some (.t 12)) none) [(11, .x (.t 0)), (12, .x (.t 3))])], .set 3 (.op (.bin .add .num (.t 10) (.t 14)) [(10, .x (.t 3))]), .tick 2] false) (.seq (.seq (.reg [.tick 4] false)
  (.cond (.op (.bin .eql .num (.t 16) (.t 18)) [(16, .x (.t 3)), (18, .op (.len .str (.t 17)) [(17, .x (.t 0))])]) (.seq (.reg [.tick 1, .act none [] (.store 5 (.t 2) (.t 20))
  [(20, .op (.build [.int .i64 0, .int .i64 0, .str [], .int .i64 0, .int .i64 0] [(4, 1, .c (.s (.int .i64 0)))]) [])]] false) .ret) .skip)) (.seq (.reg [.set 3 (.op (.bin .add
  .num (.t 21) (.c (.s (.int .i64 1)))) [(21, .x (.t 3))]), .tick 3] false) (.seq (.seq (.reg [.tick 10] false) (.cond (.pick (.op (.bin .eql .num (.t 23) (.t 25)) [(23, .x (.t
  3)), (25, .op (.len .str (.t 24)) [(24, .x (.t 0))])]) (.x (.c (.s (.bool true)))) (.op (.bin .neq .num (.t 30) (.c (.s (.int .u8 39)))) [(30, .op (.iv .str (.t 28) (.t 29))
  [(28, .x (.t 0)), (29, .x (.t 3))])])) (.exit 0) .skip)) (.reg [.set 3 (.op (.bin .add .num (.t 33) (.c (.s (.int .i64 1)))) [(33, .x (.t 3))]), .tick 3] false)))))))) (.seq
  (.reg [.tick 3, .act (some 39) [] (.call 29 [.t 38]) [(38, .op (.sl .str (.t 36) none (some (.t 37))) [(36, .x (.t 0)), (37, .x (.t 3))])], .set 4 (.op (.ext (.t 35) 0) [(35, .x
  (.t 39))]), .tick 5] false) (.seq (.seq (.reg [.tick 3] false) (.seq (.reg [.need [] (.op (.ext (.t 35) 1) [(35, .x (.t 39))])] false) (.cond (.op (.bin .gtr .num (.t 43) (.c (.s
  (.int .i64 255)))) [(43, .op (.len .str (.t 42)) [(42, .x (.t 4))])]) (.seq (.reg [.tick 1, .act none [] (.store 5 (.t 2) (.t 45)) [(45, .op (.build [.int .i64 0, .int .i64 0,
  .str [], .int .i64 0, .int .i64 0] [(4, 1, .c (.s (.int .i64 0)))]) [])]] false) .ret) .skip))) (.seq (.reg [.tick 4, .act none [] (.store 5 (.t 2) (.t 49)) [(49, .op (.build
  [.int .i64 0, .int .i64 0, .str [], .int .i64 0, .int .i64 0] [(0, 3, .t 47), (3, 1, .t 48), (4, 1, .c (.s (.int .i64 (-1))))]) [(47, .op (.build [.int .i64 0, .int .i64 0, .str
  []] [(0, 1, .c (.s (.int .i64 3))), (2, 1, .t 46)]) [(46, .x (.t 4))]), (48, .x (.t 3))])]] false) .ret))))))
theorem f14 : sF EE 14 [6, 7, 8, 9, 10, 11, 12, 13, 15, 16, 17, 18, 19, 20, 21, 22, 23, 24, 25, 26, 27, 28, 29, 30, 31, 32, 33, 34, 36, 37, 38, 35, 40, 41, 5, 42, 43, 44, 45, 46,
  47, 48, 49] = some ⟨50, [.cell true 5 2], c14⟩ := by kernel_rfl
/- 16 lineage/lexer.span -/
def c16 : SC := .seq (.reg [.set 4 (.x (.c (.s (.int .i64 0)))), .tick 1] false) (.seq (.reg [.set 5 (.x (.c (.s (.int .i64 0)))), .tick 1] false) (.seq (.block 0 (.loop (.seq
  (.seq (.reg [.set 10 (.op (.bin .lss .num (.t 6) (.t 8)) [(6, .x (.t 5)), (8, .op (.len .str (.t 7)) [(7, .x (.t 0))])]), .tick 9, .act (some 15) [(.x (.t 10), true)] (.callv (.t
  11) [.t 14]) [(11, .x (.t 1)), (14, .op (.iv .str (.t 12) (.t 13)) [(12, .x (.t 0)), (13, .x (.t 5))])], .tick 1] false) (.cond (.pick (.x (.t 10)) (.x (.t 15)) (.x (.c (.s
  (.bool false))))) .skip (.exit 0))) (.block 1 (.reg [.set 5 (.op (.bin .add .num (.t 17) (.c (.s (.int .i64 1)))) [(17, .x (.t 5))]), .tick 3] false))))) (.seq (.reg [.set 4 (.x
  (.t 5)), .tick 2] false) .ret)))
theorem f16 : sF EE 16 [6, 7, 8, 9, 11, 12, 13, 14, 16, 17, 18, 19] = some ⟨20, [.t 4], c16⟩ := by kernel_rfl
/- 17 lineage/lexer.skip$1 -/
def c17 : SC := .seq (.reg [.set 2 (.x (.c (.s (.bool false)))), .tick 1] false) (.seq (.reg [.set 2 (.pick (.pick (.pick (.op (.bin .eql .num (.t 3) (.c (.s (.int .u8 32)))) [(3,
  .x (.t 0))]) (.x (.c (.s (.bool true)))) (.op (.bin .eql .num (.t 6) (.c (.s (.int .u8 9)))) [(6, .x (.t 0))])) (.x (.c (.s (.bool true)))) (.op (.bin .eql .num (.t 10) (.c (.s
  (.int .u8 10)))) [(10, .x (.t 0))])) (.x (.c (.s (.bool true)))) (.op (.bin .eql .num (.t 14) (.c (.s (.int .u8 13)))) [(14, .x (.t 0))])), .tick 15] false) .ret)
theorem f17 : sF EE 17 [3, 4, 5, 6, 7, 8, 9, 10, 11, 12, 13, 14, 15, 16] = some ⟨17, [.t 2], c17⟩ := by kernel_rfl
/- 18 strings.HasPrefix -/
def c18 : SC := .seq (.reg [.set 4 (.x (.c (.s (.bool false)))), .tick 1] false) (.seq (.reg [.tick 2, .act (some 7) [] (.call 32 [.t 5, .t 6]) [(5, .x (.t 0)), (6, .x (.t 1))],
  .set 4 (.x (.t 7)), .tick 1] false) .ret)
theorem f18 : sF EE 18 [5, 6] = some ⟨8, [.t 4], c18⟩ := by kernel_rfl
/- 19 lineage/lexer.skip$2 -/
def c19 : SC := .seq (.reg [.set 2 (.x (.c (.s (.bool false)))), .tick 1] false) (.seq (.reg [.set 2 (.op (.bin .neq .num (.t 3) (.c (.s (.int .u8 10)))) [(3, .x (.t 0))]), .tick
  3] false) .ret)
theorem f19 : sF EE 19 [3, 4] = some ⟨5, [.t 2], c19⟩ := by kernel_rfl
/- 20 lineage/lexer.letter -/
def c20 : SC := .seq (.reg [.set 2 (.x (.c (.s (.bool false)))), .tick 1] false) (.seq (.reg [.set 2 (.pick (.op (.bin .geq .num (.t 4) (.c (.s (.int .u8 97)))) [(4, .op (.bin .or
  .num (.t 3) (.c (.s (.int .u8 32)))) [(3, .x (.t 0))])]) (.op (.bin .leq .num (.t 8) (.c (.s (.int .u8 122)))) [(8, .op (.bin .or .num (.t 7) (.c (.s (.int .u8 32)))) [(7, .x (.t
  0))])]) (.x (.c (.s (.bool false))))), .tick 9] false) .ret)
theorem f20 : sF EE 20 [3, 4, 5, 6, 7, 8, 9, 10] = some ⟨11, [.t 2], c20⟩ := by kernel_rfl
/- 21 lineage/lexer.inWord -/
def c21 : SC := .seq (.reg [.set 2 (.x (.c (.s (.bool false)))), .tick 1] false) (.seq (.reg [.tick 1, .act (some 4) [] (.call 20 [.t 3]) [(3, .x (.t 0))], .tick 2, .act (some 7)
  [(.x (.t 4), false)] (.call 24 [.t 6]) [(6, .x (.t 0))], .set 2 (.pick (.pick (.x (.t 4)) (.x (.c (.s (.bool true)))) (.x (.t 7))) (.x (.c (.s (.bool true)))) (.op (.bin .eql
  .num (.t 10) (.c (.s (.int .u8 95)))) [(10, .x (.t 0))])), .tick 6] false) .ret)
theorem f21 : sF EE 21 [3, 5, 6, 8, 9, 10, 11, 12] = some ⟨13, [.t 2], c21⟩ := by kernel_rfl
/- 22 lineage/lexer.IsKeyword -/
def c22 : SC := .seq (.reg [.set 2 (.x (.c (.s (.bool false)))), .tick 1] false) (.seq (.reg [.act (some 6) [] (.call 34 []) [], .tick 1, .act (some 8) [] (.call 23 [.t 7, .c (.s
  (.int .u8 97)), .c (.s (.int .u8 65))]) [(7, .x (.t 0))], .act (some 9) [] (.call 33 [.t 6, .t 8]) [], .set 4 (.op (.ext (.t 5) 1) [(5, .x (.t 9))]), .tick 5] false) (.seq (.reg
  [.set 2 (.x (.t 4)), .tick 2] false) (.seq (.reg [.need [] (.op (.ext (.t 5) 0) [(5, .x (.t 9))])] false) .ret)))
theorem f22 : sF EE 22 [7, 5, 10, 11, 3, 12] = some ⟨13, [.t 2], c22⟩ := by kernel_rfl
/- 23 lineage/lexer.mapped -/
def c23 : SC := .seq (.reg [.set 6 (.x (.c (.s (.str [])))), .tick 1] false) (.seq (.reg [.tick 1, .act (some 11) [] (.conv (.bytes 5) (.t 10)) [(10, .x (.t 0))], .set 7 (.x (.t
  11)), .tick 1] false) (.seq (.seq (.reg [.set 12 (.x (.t 7)), .set 13 (.op (.len (.sl 0) (.t 12)) []), .set 14 (.x (.c (.s (.int .i64 0)))), .tick 3] false) (.block 0 (.loop
  (.seq (.reg [.tick 1] false) (.seq (.cond (.op (.bin .lss .num (.t 14) (.t 13)) []) .skip (.exit 0)) (.seq (.block 1 (.seq (.reg [.set 8 (.x (.t 14)), .set 9 (.op (.load false 1
  (.t 17)) [(17, .op (.ia (.sl 1) (.t 12) (.t 14)) [])]), .tick 5] false) (.seq (.reg [.tick 9] false) (.cond (.pick (.op (.bin .geq .num (.t 19) (.t 20)) [(19, .x (.t 9)), (20, .x
  (.t 1))]) (.op (.bin .lss .num (.t 23) (.t 25)) [(23, .x (.t 9)), (25, .op (.bin .add .num (.t 24) (.c (.s (.int .u8 26)))) [(24, .x (.t 1))])]) (.x (.c (.s (.bool false)))))
  (.reg [.tick 8, .act none [] (.store 1 (.t 35) (.t 34)) [(35, .op (.ia (.sl 1) (.t 28) (.t 29)) [(28, .x (.t 7)), (29, .x (.t 8))]), (34, .op (.bin .add .num (.t 32) (.t 33))
  [(32, .op (.bin .sub .num (.t 30) (.t 31)) [(30, .x (.t 9)), (31, .x (.t 1))]), (33, .x (.t 2))])]] false) .skip)))) (.reg [.set 14 (.op (.bin .add .num (.t 14) (.c (.s (.int
  .i64 1)))) []), .tick 2] false))))))) (.seq (.reg [.set 6 (.op (.conv (.str true) (.t 37)) [(37, .x (.t 7))]), .tick 3] false) .ret)))
theorem f23 : sF EE 23 [10, 15, 16, 17, 18, 19, 20, 21, 22, 23, 24, 25, 26, 27, 28, 29, 30, 31, 32, 33, 34, 35, 36, 37, 38] = some ⟨39, [.t 6], c23⟩ := by kernel_rfl
/- 24 lineage/lexer.digit -/
def c24 : SC := .seq (.reg [.set 2 (.x (.c (.s (.bool false)))), .tick 1] false) (.seq (.reg [.set 2 (.pick (.op (.bin .geq .num (.t 3) (.c (.s (.int .u8 48)))) [(3, .x (.t 0))])
  (.op (.bin .leq .num (.t 6) (.c (.s (.int .u8 57)))) [(6, .x (.t 0))]) (.x (.c (.s (.bool false))))), .tick 7] false) .ret)
theorem f24 : sF EE 24 [3, 4, 5, 6, 7, 8] = some ⟨9, [.t 2], c24⟩ := by kernel_rfl
/- 25 cmp.Or[string] -/
def c25 : SC := .seq (.reg [.set 2 (.x (.c (.s (.str [])))), .tick 1] false) (.seq (.reg [.set 3 (.x (.c (.s (.str [])))), .tick 1] false) (.seq (.seq (.reg [.set 6 (.x (.t 0)),
  .set 7 (.op (.len (.sl 0) (.t 6)) []), .set 8 (.x (.c (.s (.int .i64 0)))), .tick 3] false) (.block 0 (.loop (.seq (.reg [.tick 1] false) (.seq (.cond (.op (.bin .lss .num (.t 8)
  (.t 7)) []) .skip (.exit 0)) (.seq (.block 1 (.seq (.reg [.set 5 (.op (.load false 1 (.t 10)) [(10, .op (.ia (.sl 1) (.t 6) (.t 8)) [])]), .tick 3] false) (.seq (.reg [.tick 3]
  false) (.cond (.op (.bin .neq .num (.t 12) (.t 13)) [(12, .x (.t 5)), (13, .x (.t 3))]) (.seq (.reg [.set 2 (.x (.t 5)), .tick 2] false) .ret) .skip)))) (.reg [.set 8 (.op (.bin
  .add .num (.t 8) (.c (.s (.int .i64 1)))) []), .tick 2] false))))))) (.seq (.reg [.set 2 (.x (.t 3)), .tick 2] false) .ret)))
theorem f25 : sF EE 25 [9, 10, 11, 12, 13, 14, 15, 16, 17] = some ⟨18, [.t 2], c25⟩ := by kernel_rfl
/- 26 strings.TrimLeft -/
def c26 : SC := .seq (.reg [.set 4 (.x (.c (.s (.str [])))), .tick 1] false) (.seq (.seq (.reg [.tick 6] false) (.cond (.pick (.op (.bin .eql .num (.t 7) (.c (.s (.str [])))) [(7,
  .x (.t 0))]) (.x (.c (.s (.bool true)))) (.op (.bin .eql .num (.t 10) (.c (.s (.str [])))) [(10, .x (.t 1))])) (.seq (.reg [.set 4 (.x (.t 0)), .tick 2] false) .ret) .skip))
  (.seq (.seq (.reg [.tick 8] false) (.cond (.pick (.op (.bin .eql .num (.t 15) (.c (.s (.int .i64 1)))) [(15, .op (.len .str (.t 14)) [(14, .x (.t 1))])]) (.op (.bin .lss .num (.t
  19) (.c (.s (.int .u8 128)))) [(19, .op (.iv .str (.t 18) (.c (.s (.int .i64 0)))) [(18, .x (.t 1))])]) (.x (.c (.s (.bool false))))) (.seq (.reg [.tick 3, .act (some 25) []
  (.call 35 [.t 22, .t 24]) [(22, .x (.t 0)), (24, .op (.iv .str (.t 23) (.c (.s (.int .i64 0)))) [(23, .x (.t 1))])], .set 4 (.x (.t 25)), .tick 1] false) .ret) .skip)) (.seq
  (.seq (.reg [.tick 1, .act (some 28) [] (.call 36 [.t 27]) [(27, .x (.t 1))], .need [] (.op (.ext (.t 26) 1) [(26, .x (.t 28))]), .need [] (.op (.ext (.t 26) 0) [(26, .x (.t
  28))]), .tick 3, .act (some 5) [] (.alloc 61 [.bool false, .bool false, .bool false, .bool false, .bool false, .bool false, .bool false, .bool false, .bool false, .bool false,
  .bool false, .bool false, .bool false, .bool false, .bool false, .bool false, .bool false, .bool false, .bool false, .bool false, .bool false, .bool false, .bool false, .bool
  false, .bool false, .bool false, .bool false, .bool false, .bool false, .bool false, .bool false, .bool false, .bool false, .bool false, .bool false, .bool false, .bool false,
  .bool false, .bool false, .bool false, .bool false, .bool false, .bool false, .bool false, .bool false, .bool false, .bool false, .bool false, .bool false, .bool false, .bool
  false, .bool false, .bool false, .bool false, .bool false, .bool false, .bool false, .bool false, .bool false, .bool false, .bool false, .bool false, .bool false, .bool false,
  .bool false, .bool false, .bool false, .bool false, .bool false, .bool false, .bool false, .bool false, .bool false, .bool false, .bool false, .bool false, .bool false, .bool
  false, .bool false, .bool false, .bool false, .bool false, .bool false, .bool false, .bool false, .bool false, .bool false, .bool false, .bool false, .bool false, .bool false,
  .bool false, .bool false, .bool false, .bool false, .bool false, .bool false, .bool false, .bool false, .bool false, .bool false, .bool false, .bool false, .bool false, .bool
  false, .bool false, .bool false, .bool false, .bool false, .bool false, .bool false, .bool false, .bool false, .bool false, .bool false, .bool false, .bool false, .bool false,
  .bool false, .bool false, .bool false, .bool false, .bool false, .bool false, .bool false, .bool false, .bool false, .bool false, .bool false, .bool false, .bool false, .bool
  false, .bool false, .bool false, .bool false, .bool false, .bool false, .bool false, .bool false, .bool false, .bool false, .bool false, .bool false, .bool false, .bool false,
  .bool false, .bool false, .bool false, .bool false, .bool false, .bool false, .bool false, .bool false, .bool false, .bool false, .bool false, .bool false, .bool false, .bool
  false, .bool false, .bool false, .bool false, .bool false, .bool false, .bool false, .bool false, .bool false, .bool false, .bool false, .bool false, .bool false, .bool false,
  .bool false, .bool false, .bool false, .bool false, .bool false, .bool false, .bool false, .bool false, .bool false, .bool false, .bool false, .bool false, .bool false, .bool
  false, .bool false, .bool false, .bool false, .bool false, .bool false, .bool false, .bool false, .bool false, .bool false, .bool false, .bool false, .bool false, .bool false,
  .bool false, .bool false, .bool false, .bool false, .bool false, .bool false, .bool false, .bool false, .bool false, .bool false, .bool false, .bool false, .bool false, .bool
  false, .bool false, .bool false, .bool false, .bool false, .bool false, .bool false, .bool false, .bool false, .bool false, .bool false, .bool false, .bool false, .bool false,
  .bool false, .bool false, .bool false, .bool false, .bool false, .bool false, .bool false, .bool false, .bool false, .bool false, .bool false, .bool false, .bool false, .bool
  false, .bool false, .bool false, .bool false, .bool false, .bool false, .bool false, .bool false, .bool false, .bool false, .bool false, .bool false, .bool false, .bool false,
  .bool false, .bool false, .bool false]) [], .act none [] (.store 256 (.t 5) (.t 29)) [(29, .op (.ext (.t 26) 0) [(26, .x (.t 28))])], .set 6 (.op (.ext (.t 26) 1) [(26, .x (.t
  28))]), .tick 1] false) (.seq (.reg [.tick 1] false) (.cond (.x (.t 6)) (.seq (.reg [.tick 1, .act (some 33) [] (.call 37 [.t 32, .t 5]) [(32, .x (.t 0))], .set 4 (.x (.t 33)),
  .tick 1] false) .ret) .skip))) (.seq (.reg [.tick 2, .act (some 36) [] (.call 38 [.t 34, .t 35]) [(34, .x (.t 0)), (35, .x (.t 1))], .set 4 (.x (.t 36)), .tick 1] false) .ret))))
theorem f26 : sF EE 26 [7, 8, 9, 10, 11, 12, 13, 14, 15, 16, 17, 18, 19, 20, 21, 22, 23, 24, 27, 26, 29, 30, 31, 32, 34, 35] = some ⟨37, [.t 4], c26⟩ := by kernel_rfl
/- 28 lineage/lexer.quoted$1 -/
def c28 : SC := .seq (.reg [.set 2 (.x (.c (.s (.bool false)))), .tick 1] false) (.seq (.reg [.set 2 (.op (.bin .neq .num (.t 3) (.c (.s (.int .u8 39)))) [(3, .x (.t 0))]), .tick
  3] false) .ret)
theorem f28 : sF EE 28 [3, 4] = some ⟨5, [.t 2], c28⟩ := by kernel_rfl
/- 29 lineage/lexer.Unquote -/
def c29 : SC := .seq (.reg [.set 2 (.x (.c (.s (.str [])))), .set 3 (.x (.c (.s (.bool false)))), .tick 2] false) (.seq (.seq (.reg [.tick 8] false) (.cond (.pick (.op (.bin .lss
  .num (.t 6) (.c (.s (.int .i64 2)))) [(6, .op (.len .str (.t 5)) [(5, .x (.t 0))])]) (.x (.c (.s (.bool true)))) (.op (.bin .neq .num (.t 10) (.c (.s (.int .u8 39)))) [(10, .op
  (.iv .str (.t 9) (.c (.s (.int .i64 0)))) [(9, .x (.t 0))])])) (.seq (.reg [.set 2 (.x (.c (.s (.str [])))), .set 3 (.x (.c (.s (.bool false)))), .tick 2] false) .ret) .skip))
  (.seq (.reg [.tick 5, .act (some 18) [] (.call 41 [.t 17, .c (.s (.str [39, 39])), .c (.s (.str [39]))]) [(17, .op (.sl .str (.t 13) (some (.c (.s (.int .i64 1)))) (some (.t
  16))) [(13, .x (.t 0)), (16, .op (.bin .sub .num (.t 15) (.c (.s (.int .i64 1)))) [(15, .op (.len .str (.t 14)) [(14, .x (.t 0))])])])], .set 4 (.x (.t 18)), .tick 1] false)
  (.seq (.seq (.reg [.tick 1, .act (some 20) [] (.call 42 [.t 19]) [(19, .x (.t 4))], .tick 2] false) (.cond (.op (.bin .neq .num (.t 20) (.t 21)) [(21, .x (.t 0))]) (.seq (.reg
  [.set 2 (.x (.c (.s (.str [])))), .set 3 (.x (.c (.s (.bool false)))), .tick 2] false) .ret) .skip)) (.seq (.reg [.set 2 (.x (.t 4)), .set 3 (.x (.c (.s (.bool true)))), .tick 3]
  false) .ret))))
theorem f29 : sF EE 29 [5, 6, 7, 8, 9, 10, 11, 12, 13, 14, 15, 16, 17, 19, 21, 22, 23] = some ⟨24, [.t 2, .t 3], c29⟩ := by kernel_rfl
/- 31 lineage/lexer.Symbols -/
def c31 : SC := .seq (.reg [.set 0 (.x (.c (.s .nils))), .tick 1] false) (.seq (.reg [.act (some 1) [] (.rows 1 [.str []] 15 [(0, .c (.s (.str [40]))), (1, .c (.s (.str [41]))),
  (2, .c (.s (.str [42]))), (3, .c (.s (.str [43]))), (4, .c (.s (.str [44]))), (5, .c (.s (.str [45]))), (6, .c (.s (.str [46]))), (7, .c (.s (.str [59]))), (8, .c (.s (.str
  [60]))), (9, .c (.s (.str [60, 61]))), (10, .c (.s (.str [60, 62]))), (11, .c (.s (.str [61]))), (12, .c (.s (.str [62]))), (13, .c (.s (.str [62, 61]))), (14, .c (.s (.str [124,
  124])))]) [], .set 0 (.x (.t 1)), .tick 1] false) .ret)
theorem f31 : sF EE 31 [] = some ⟨2, [.t 0], c31⟩ := by kernel_rfl
/- 32 internal/stringslite.HasPrefix -/
def c32 : SC := .seq (.reg [.set 4 (.x (.c (.s (.bool false)))), .tick 1] false) (.seq (.reg [.set 4 (.pick (.op (.bin .geq .num (.t 6) (.t 8)) [(6, .op (.len .str (.t 5)) [(5, .x
  (.t 0))]), (8, .op (.len .str (.t 7)) [(7, .x (.t 1))])]) (.op (.bin .eql .num (.t 14) (.t 15)) [(14, .op (.sl .str (.t 11) none (some (.t 13))) [(11, .x (.t 0)), (13, .op (.len
  .str (.t 12)) [(12, .x (.t 1))])]), (15, .x (.t 1))]) (.x (.c (.s (.bool false))))), .tick 14] false) .ret)
theorem f32 : sF EE 32 [5, 6, 7, 8, 9, 10, 11, 12, 13, 14, 15, 16, 17] = some ⟨18, [.t 4], c32⟩ := by kernel_rfl
/- 33 slices.BinarySearch[[]string,string] -/
def c33 : SC := .seq (.reg [.set 4 (.x (.c (.s (.int .i64 0)))), .set 5 (.x (.c (.s (.bool false)))), .tick 2] false) (.seq (.reg [.set 6 (.op (.len (.sl 0) (.t 10)) [(10, .x (.t
  0))]), .tick 3] false) (.seq (.reg [.set 7 (.x (.c (.s (.int .i64 0)))), .set 8 (.x (.t 6)), .tick 3] false) (.seq (.block 0 (.loop (.seq (.seq (.reg [.tick 3] false) (.cond (.op
  (.bin .lss .num (.t 13) (.t 14)) [(13, .x (.t 7)), (14, .x (.t 8))]) .skip (.exit 0))) (.block 1 (.seq (.reg [.set 9 (.op (.conv (.int .i64) (.t 20)) [(20, .op (.bin .shr .num
  (.t 19) (.c (.s (.int (.u64) 1)))) [(19, .op (.conv (.int (.u64)) (.t 18)) [(18, .op (.bin .add .num (.t 16) (.t 17)) [(16, .x (.t 7)), (17, .x (.t 8))])])])]), .tick 7] false)
  (.seq (.reg [.tick 5, .act (some 27) [] (.call 44 [.t 25, .t 26]) [(25, .op (.load false 1 (.t 24)) [(24, .op (.ia (.sl 1) (.t 22) (.t 23)) [(22, .x (.t 0)), (23, .x (.t 9))])]),
  (26, .x (.t 1))]] false) (.cond (.x (.t 27)) (.reg [.set 7 (.op (.bin .add .num (.t 28) (.c (.s (.int .i64 1)))) [(28, .x (.t 9))]), .tick 3] false) (.reg [.set 8 (.x (.t 9)),
  .tick 2] false)))))))) (.seq (.reg [.need [] (.op (.bin .lss .num (.t 32) (.t 33)) [(32, .x (.t 7)), (33, .x (.t 6))]), .tick 11, .act (some 42) [(.op (.bin .lss .num (.t 32) (.t
  33)) [(32, .x (.t 7)), (33, .x (.t 6))], true)] (.mv (.t 41)) [(41, .op (.bin .eql .num (.t 39) (.t 40)) [(39, .op (.load false 1 (.t 38)) [(38, .op (.ia (.sl 1) (.t 36) (.t 37))
  [(36, .x (.t 0)), (37, .x (.t 7))])]), (40, .x (.t 1))])], .tick 4, .act (some 47) [(.x (.t 42), false)] (.call 45 [.t 46]) [(46, .op (.load false 1 (.t 45)) [(45, .op (.ia (.sl
  1) (.t 43) (.t 44)) [(43, .x (.t 0)), (44, .x (.t 7))])])], .tick 2, .act (some 50) [(.x (.t 42), false), (.x (.t 47), true)] (.call 45 [.t 49]) [(49, .x (.t 1))], .set 4 (.x (.t
  7)), .set 5 (.pick (.op (.bin .lss .num (.t 32) (.t 33)) [(32, .x (.t 7)), (33, .x (.t 6))]) (.pick (.x (.t 42)) (.x (.c (.s (.bool true)))) (.pick (.x (.t 47)) (.x (.t 50)) (.x
  (.c (.s (.bool false)))))) (.x (.c (.s (.bool false))))), .tick 5] false) (.seq (.reg [.need [(.x (.t 42), false)] (.pick (.x (.t 47)) (.x (.t 50)) (.x (.c (.s (.bool false)))))]
  false) .ret)))))
theorem f33 : sF EE 33 [10, 11, 12, 13, 14, 15, 16, 17, 18, 19, 20, 21, 22, 23, 24, 25, 26, 28, 29, 30, 31, 32, 33, 34, 35, 36, 37, 38, 39, 40, 41, 43, 44, 45, 46, 48, 49, 51, 52,
  53] = some ⟨54, [.t 4, .t 5], c33⟩ := by kernel_rfl
/- 34 lineage/lexer.Keywords -/
def c34 : SC := .seq (.reg [.set 0 (.x (.c (.s .nils))), .tick 1] false) (.seq (.reg [.act (some 1) [] (.call 46 [.c (.s (.str [65, 76, 76, 32, 65, 78, 68, 32, 65, 83, 32, 66, 69,
  71, 73, 78, 32, 66, 79, 79, 76, 69, 65, 78, 32, 66, 89, 32, 67, 79, 77, 77, 73, 84, 32, 67, 79, 85, 78, 84, 32, 67, 82, 69, 65, 84, 69, 32, 68, 69, 76, 69, 84, 69, 32, 68, 73,
  83, 84, 73, 78, 67, 84, 32, 68, 82, 79, 80, 32, 69, 88, 67, 69, 80, 84, 32, 69, 88, 73, 83, 84, 83, 32, 69, 88, 80, 76, 65, 73, 78, 32, 70, 65, 76, 83, 69, 32, 70, 82, 79, 77,
  32, 71, 82, 79, 85, 80, 32, 72, 65, 86, 73, 78, 71, 32, 73, 78, 32, 73, 78, 68, 69, 88, 32, 73, 78, 83, 69, 82, 84, 32, 73, 78, 84, 69, 71, 69, 82, 32, 73, 78, 84, 69, 82, 83,
  69, 67, 84, 32, 73, 78, 84, 79, 32, 75, 69, 89, 32, 77, 65, 84, 69, 82, 73, 65, 76, 73, 90, 69, 68, 32, 77, 65, 88, 32, 77, 73, 78, 32, 78, 79, 84, 32, 79, 78, 32, 79, 82, 32,
  80, 82, 73, 77, 65, 82, 89, 32, 82, 69, 67, 85, 82, 83, 73, 86, 69, 32, 82, 79, 76, 76, 66, 65, 67, 75, 32, 83, 69, 76, 69, 67, 84, 32, 83, 69, 84, 32, 83, 85, 77, 32, 84, 65,
  66, 76, 69, 32, 84, 69, 88, 84, 32, 84, 82, 85, 69, 32, 85, 78, 73, 79, 78, 32, 85, 80, 68, 65, 84, 69, 32, 86, 65, 76, 85, 69, 83, 32, 86, 73, 69, 87, 32, 87, 72, 69, 82, 69,
  32, 87, 73, 84, 72]))]) [], .set 0 (.x (.t 1)), .tick 1] false) .ret)
theorem f34 : sF EE 34 [] = some ⟨2, [.t 0], c34⟩ := by kernel_rfl
/- 35 strings.trimLeftByte -/
def c35 : SC := .seq (.reg [.set 4 (.x (.c (.s (.str [])))), .tick 1] false) (.seq (.block 0 (.loop (.seq (.seq (.reg [.tick 9] false) (.cond (.pick (.op (.bin .gtr .num (.t 6) (.c
  (.s (.int .i64 0)))) [(6, .op (.len .str (.t 5)) [(5, .x (.t 0))])]) (.op (.bin .eql .num (.t 10) (.t 11)) [(10, .op (.iv .str (.t 9) (.c (.s (.int .i64 0)))) [(9, .x (.t 0))]),
  (11, .x (.t 1))]) (.x (.c (.s (.bool false))))) .skip (.exit 0))) (.block 1 (.reg [.set 0 (.op (.sl .str (.t 14) (some (.c (.s (.int .i64 1)))) none) [(14, .x (.t 0))]), .tick 3]
  false))))) (.seq (.reg [.set 4 (.x (.t 0)), .tick 2] false) .ret))
theorem f35 : sF EE 35 [5, 6, 7, 8, 9, 10, 11, 12, 13, 14, 15, 16] = some ⟨17, [.t 4], c35⟩ := by kernel_rfl
/- 42 lineage/lexer.Quote -/
def c42 : SC := .seq (.reg [.set 2 (.x (.c (.s (.str [])))), .tick 1] false) (.seq (.reg [.tick 1, .act (some 4) [] (.call 41 [.t 3, .c (.s (.str [39])), .c (.s (.str [39, 39]))])
  [(3, .x (.t 0))], .set 2 (.op (.bin .add .num (.t 5) (.c (.s (.str [39])))) [(5, .op (.bin .add .num (.c (.s (.str [39]))) (.t 4)) [])]), .tick 3] false) .ret)
theorem f42 : sF EE 42 [3, 5, 6] = some ⟨7, [.t 2], c42⟩ := by kernel_rfl
/- 44 cmp.Less[string] -/
def c44 : SC := .seq (.reg [.set 4 (.x (.c (.s (.bool false)))), .tick 1] false) (.seq (.reg [.tick 1, .act (some 6) [] (.call 56 [.t 5]) [(5, .x (.t 0))], .tick 2, .act (some 9)
  [(.x (.t 6), true)] (.call 56 [.t 8]) [(8, .x (.t 1))], .set 4 (.pick (.pick (.x (.t 6)) (.op (.un .not (.t 9)) []) (.x (.c (.s (.bool false))))) (.x (.c (.s (.bool true)))) (.op
  (.bin .lss .num (.t 13) (.t 14)) [(13, .x (.t 0)), (14, .x (.t 1))])), .tick 8] false) .ret)
theorem f44 : sF EE 44 [5, 7, 8, 10, 11, 12, 13, 14, 15, 16] = some ⟨17, [.t 4], c44⟩ := by kernel_rfl
/- 45 slices.isNaN[string] -/
def c45 : SC := .seq (.reg [.set 2 (.x (.c (.s (.bool false)))), .tick 1] false) (.seq (.reg [.set 2 (.op (.bin .neq .num (.t 3) (.t 4)) [(3, .x (.t 0)), (4, .x (.t 0))]), .tick 4]
  false) .ret)
theorem f45 : sF EE 45 [3, 4, 5] = some ⟨6, [.t 2], c45⟩ := by kernel_rfl
/- 56 cmp.isNaN[string] -/
def c56 : SC := .seq (.reg [.set 2 (.x (.c (.s (.bool false)))), .tick 1] false) (.seq (.reg [.set 2 (.op (.bin .neq .num (.t 3) (.t 4)) [(3, .x (.t 0)), (4, .x (.t 0))]), .tick 4]
  false) .ret)
theorem f56 : sF EE 56 [3, 4, 5] = some ⟨6, [.t 2], c56⟩ := by kernel_rfl
end Go.Vm
