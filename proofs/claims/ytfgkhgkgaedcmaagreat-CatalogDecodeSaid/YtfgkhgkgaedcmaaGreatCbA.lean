/- The functions of chapter 19, as statements of the machine. -/
import Derived.Test.YtfgkhgkgaedcmaaGreatCbE0
set_option linter.unusedVariables false
set_option maxRecDepth 100000
namespace Go.Vm
open Go.Proofs
def useL : List Nat := [3, 4, 5, 6, 7, 8, 9, 10, 11, 12, 13, 14, 15, 16, 17, 18, 19, 20, 21, 22, 23, 24, 25, 26, 27, 28, 29, 30, 31, 32, 33, 34, 35, 36, 37, 38, 39, 40, 41, 42, 43, 44, 46, 47, 48, 49, 50, 51, 52, 53, 54, 55, 56, 57, 58, 59, 60, 61, 62, 63, 64, 65, 66, 67, 68, 69, 70, 71, 72, 73, 74, 75, 76, 77, 78, 79, 80, 81, 82, 83, 84, 88, 89, 90, 91, 92, 93, 94, 95, 96, 97, 98, 99, 100, 101, 104, 105]
noncomputable def EE : Env := { P := Tryz.prog, ext := extL, ref := fun f => [46, 47, 50, 52, 53, 54, 57, 76, 88, 89, 90, 91, 95, 96, 98, 104, 105].contains f, use := fun f => useL.contains f, dyn := fun _ => true, G := fun _ => none, loc := fun f => [17, 18, 19, 25, 26, 27, 28, 29, 32, 33, 34, 67, 68, 69, 70, 71, 72, 73].contains f }
/- 3 lineage/lineagelaw19.CatalogEncode -/
def c3 : SC := .seq (.reg [.act (some 1) [] (.box 25 (.t 0)) [], .set 2 (.x (.c (.s (.bool false)))), .tick 1] false) (.seq (.seq (.reg [.act (some 7) [] (.call 5 []) [], .need []
  (.op (.un .not (.t 7)) []), .tick 3, .act (some 11) [(.op (.un .not (.t 7)) [], false)] (.call 6 [.t 10]) [(10, .op (.load true 3 (.t 1)) [])], .tick 2] false) (.cond (.pick (.op
  (.un .not (.t 7)) []) (.x (.c (.s (.bool true)))) (.op (.un .not (.t 11)) [])) (.seq (.reg [.act (some 14) [] (.call 5 []) [], .set 2 (.x (.t 14)), .tick 1] false) .ret) .skip))
  (.seq (.reg [.tick 1, .act (some 17) [] (.call 7 [.t 16]) [(16, .op (.load true 3 (.t 1)) [])], .set 3 (.op (.ext (.t 15) 0) [(15, .x (.t 17))]), .set 4 (.op (.ext (.t 15) 1)
  [(15, .x (.t 17))]), .tick 5] false) (.seq (.seq (.reg [.tick 1, .act (some 21) [] (.call 8 [.t 20]) [(20, .op (.load true 3 (.t 1)) [])], .tick 1] false) (.cond (.op (.un .not
  (.t 21)) []) (.seq (.reg [.set 2 (.pick (.op (.bin .eql .num (.t 23) (.c (.s (.int .i64 1)))) [(23, .x (.t 4))]) (.op (.bin .eql .num (.t 27) (.c (.s (.int .i64 0)))) [(27, .op
  (.len (.sl 0) (.t 26)) [(26, .x (.t 3))])]) (.x (.c (.s (.bool false))))), .tick 8] false) .ret) .skip)) (.seq (.reg [.tick 1, .act (some 32) [] (.call 9 [.t 31]) [(31, .x (.t
  3))], .need [] (.op (.ext (.t 30) 1) [(30, .x (.t 32))]), .need [] (.op (.ext (.t 30) 0) [(30, .x (.t 32))]), .tick 3, .act (some 5) [] (.alloc 25 [.nils, .nils, .int .i64 0])
  [], .act none [] (.store 3 (.t 5) (.t 33)) [(33, .op (.ext (.t 30) 0) [(30, .x (.t 32))])], .set 6 (.op (.ext (.t 30) 1) [(30, .x (.t 32))]), .tick 1] false) (.seq (.reg [.need
  [] (.op (.bin .eql .num (.t 35) (.c (.s (.int .i64 0)))) [(35, .x (.t 4))]), .tick 5, .act (some 40) [(.op (.bin .eql .num (.t 35) (.c (.s (.int .i64 0)))) [(35, .x (.t 4))],
  true)] (.call 11 [.t 39]) [(39, .op (.load true 3 (.t 1)) [])], .act (some 41) [(.op (.bin .eql .num (.t 35) (.c (.s (.int .i64 0)))) [(35, .x (.t 4))], true)] (.call 10 [.t 38,
  .t 40]) [(38, .x (.t 3))], .need [] (.pick (.pick (.op (.bin .eql .num (.t 35) (.c (.s (.int .i64 0)))) [(35, .x (.t 4))]) (.x (.t 41)) (.x (.c (.s (.bool false))))) (.op (.bin
  .eql .num (.t 44) (.c (.s (.int .i64 0)))) [(44, .x (.t 6))]) (.x (.c (.s (.bool false))))), .tick 8, .act (some 50) [(.pick (.pick (.op (.bin .eql .num (.t 35) (.c (.s (.int
  .i64 0)))) [(35, .x (.t 4))]) (.x (.t 41)) (.x (.c (.s (.bool false))))) (.op (.bin .eql .num (.t 44) (.c (.s (.int .i64 0)))) [(44, .x (.t 6))]) (.x (.c (.s (.bool false)))),
  true)] (.call 12 [.t 48, .t 49]) [(48, .op (.load true 3 (.t 1)) []), (49, .op (.load true 3 (.t 5)) [])], .set 2 (.pick (.pick (.pick (.op (.bin .eql .num (.t 35) (.c (.s (.int
  .i64 0)))) [(35, .x (.t 4))]) (.x (.t 41)) (.x (.c (.s (.bool false))))) (.op (.bin .eql .num (.t 44) (.c (.s (.int .i64 0)))) [(44, .x (.t 6))]) (.x (.c (.s (.bool false)))))
  (.x (.t 50)) (.x (.c (.s (.bool false))))), .tick 2] false) .ret)))))
theorem f3 : sF EE 3 [8, 9, 10, 12, 13, 16, 15, 18, 19, 20, 22, 23, 24, 25, 26, 27, 28, 29, 31, 30, 33, 34, 35, 36, 37, 38, 39, 42, 43, 44, 45, 46, 47, 48, 49, 51] = some ⟨52, [.t
  2], c3⟩ := by kernel_rfl
/- 4 lineage/lineagelaw19.CatalogDecode -/
def c4 : SC := .seq (.reg [.set 2 (.x (.c (.s (.bool false)))), .tick 1] false) (.seq (.seq (.reg [.act (some 5) [] (.call 5 []) [], .tick 6] false) (.cond (.pick (.op (.un .not
  (.t 5)) []) (.x (.c (.s (.bool true)))) (.op (.bin .gtr .num (.t 9) (.c (.s (.int .i64 400)))) [(9, .op (.len (.sl 0) (.t 8)) [(8, .x (.t 0))])])) (.seq (.reg [.act (some 12) []
  (.call 5 []) [], .set 2 (.x (.t 12)), .tick 1] false) .ret) .skip)) (.seq (.reg [.tick 1, .act (some 15) [] (.call 9 [.t 14]) [(14, .x (.t 0))], .need [] (.op (.ext (.t 13) 1)
  [(13, .x (.t 15))]), .need [] (.op (.ext (.t 13) 0) [(13, .x (.t 15))]), .tick 3, .act (some 3) [] (.alloc 25 [.nils, .nils, .int .i64 0]) [], .act none [] (.store 3 (.t 3) (.t
  16)) [(16, .op (.ext (.t 13) 0) [(13, .x (.t 15))])], .set 4 (.op (.ext (.t 13) 1) [(13, .x (.t 15))]), .tick 1] false) (.seq (.seq (.reg [.tick 2] false) (.cond (.op (.bin .neq
  .num (.t 18) (.c (.s (.int .i64 0)))) [(18, .x (.t 4))]) (.seq (.reg [.need [] (.op (.bin .eql .num (.t 20) (.c (.s (.int .i64 12)))) [(20, .x (.t 4))]), .tick 5, .act (some 25)
  [(.op (.bin .eql .num (.t 20) (.c (.s (.int .i64 12)))) [(20, .x (.t 4))], true)] (.call 12 [.t 23, .t 24]) [(23, .op (.load true 3 (.t 3)) []), (24, .op (.build [.nils, .nils,
  .int .i64 0] []) [])], .set 2 (.pick (.op (.bin .eql .num (.t 20) (.c (.s (.int .i64 12)))) [(20, .x (.t 4))]) (.x (.t 25)) (.x (.c (.s (.bool false))))), .tick 2] false) .ret)
  .skip)) (.seq (.reg [.tick 1, .act (some 28) [] (.call 8 [.t 27]) [(27, .op (.load true 3 (.t 3)) [])], .tick 2, .act (some 31) [(.x (.t 28), true)] (.call 11 [.t 30]) [(30, .op
  (.load true 3 (.t 3)) [])], .tick 1, .act (some 33) [(.x (.t 28), true)] (.call 10 [.t 31, .t 32]) [(32, .x (.t 0))], .set 2 (.pick (.x (.t 28)) (.x (.t 33)) (.x (.c (.s (.bool
  false))))), .tick 2] false) .ret))))
theorem f4 : sF EE 4 [6, 7, 8, 9, 10, 11, 14, 13, 16, 17, 18, 19, 20, 21, 22, 23, 24, 26, 27, 29, 30, 32, 34] = some ⟨35, [.t 2], c4⟩ := by kernel_rfl
/- 5 lineage/lineagelaw19.awake -/
def c5 : SC := .seq (.reg [.set 0 (.x (.c (.s (.bool false)))), .tick 1] false) (.seq (.reg [.need [] (.op (.build [.nils, .nils, .int .i64 0] []) []), .tick 3, .act (some 10) []
  (.rows 2 [.str [], .int .i64 0] 2 [(0, .t 8), (1, .t 9)]) [(8, .op (.build [.str [], .int .i64 0] [(0, 1, .c (.s (.str [97]))), (1, 1, .c (.s (.int .i64 0)))]) []), (9, .op
  (.build [.str [], .int .i64 0] [(0, 1, .c (.s (.str [98]))), (1, 1, .c (.s (.int .i64 1)))]) [])], .act (some 11) [] (.rows 1 [.str []] 1 [(0, .c (.s (.str [97])))]) [], .act
  (some 12) [] (.call 13 [.t 7, .c (.s (.str [116])), .t 10, .t 11]) [(7, .op (.build [.nils, .nils, .int .i64 0] []) [])], .need [] (.op (.ext (.t 6) 1) [(6, .x (.t 12))]), .need
  [] (.op (.ext (.t 6) 0) [(6, .x (.t 12))]), .tick 3, .act (some 1) [] (.alloc 25 [.nils, .nils, .int .i64 0]) [], .act none [] (.store 3 (.t 1) (.t 13)) [(13, .op (.ext (.t 6) 0)
  [(6, .x (.t 12))])], .set 2 (.op (.ext (.t 6) 1) [(6, .x (.t 12))]), .tick 1] false) (.seq (.reg [.tick 1, .act (some 16) [] (.call 14 [.t 15]) [(15, .op (.load true 3 (.t 1))
  [])], .set 3 (.x (.t 16)), .tick 1] false) (.seq (.reg [.tick 1, .act (some 19) [] (.call 15 [.t 18, .c (.s (.str [116]))]) [(18, .op (.load true 3 (.t 1)) [])], .need [] (.op
  (.ext (.t 17) 1) [(17, .x (.t 19))]), .need [] (.op (.ext (.t 17) 0) [(17, .x (.t 19))]), .tick 3, .act (some 4) [] (.alloc 47 [.int .i64 0, .str [], .nils, .nils, .nils]) [],
  .act none [] (.store 5 (.t 4) (.t 20)) [(20, .op (.ext (.t 17) 0) [(17, .x (.t 19))])], .set 5 (.op (.ext (.t 17) 1) [(17, .x (.t 19))]), .tick 1] false) (.seq (.reg [.set 0
  (.pick (.pick (.pick (.pick (.pick (.op (.bin .eql .num (.t 22) (.c (.s (.int .i64 0)))) [(22, .x (.t 2))]) (.x (.t 5)) (.x (.c (.s (.bool false))))) (.op (.bin .eql .num (.t 29)
  (.c (.s (.int .i64 1)))) [(29, .op (.load false 1 (.t 28)) [(28, .op (.fa 0 (.t 4)) [])])]) (.x (.c (.s (.bool false))))) (.op (.bin .eql .num (.t 34) (.c (.s (.int .i64 1))))
  [(34, .op (.load false 1 (.t 33)) [(33, .op (.fa 2 (.t 1)) [])])]) (.x (.c (.s (.bool false))))) (.op (.bin .eql .num (.t 39) (.c (.s (.int .i64 1)))) [(39, .op (.len (.sl 0) (.t
  38)) [(38, .x (.t 3))])]) (.x (.c (.s (.bool false))))) (.op (.bin .eql .num (.t 45) (.c (.s (.str [67, 82, 69, 65, 84, 69, 32, 84, 65, 66, 76, 69, 32, 116, 32, 40, 97, 32, 73,
  78, 84, 69, 71, 69, 82, 44, 32, 98, 32, 84, 69, 88, 84, 44, 32, 80, 82, 73, 77, 65, 82, 89, 32, 75, 69, 89, 32, 40, 97, 41, 41])))) [(45, .op (.load false 1 (.t 44)) [(44, .op
  (.ia (.sl 1) (.t 43) (.c (.s (.int .i64 0)))) [(43, .x (.t 3))])])]) (.x (.c (.s (.bool false))))), .tick 27] false) .ret))))
theorem f5 : sF EE 5 [7, 8, 9, 6, 13, 14, 15, 18, 17, 20, 21, 22, 23, 24, 25, 26, 27, 28, 29, 30, 31, 32, 33, 34, 35, 36, 37, 38, 39, 40, 41, 42, 43, 44, 45, 46, 47] = some ⟨48,
  [.t 0], c5⟩ := by kernel_rfl
/- 6 lineage/lineageref19.Few -/
def c6 : SC := .seq (.reg [.act (some 1) [] (.box 25 (.t 0)) [], .set 2 (.x (.c (.s (.bool false)))), .tick 1] false) (.seq (.seq (.reg [.tick 10] false) (.cond (.pick (.op (.bin
  .gtr .num (.t 10) (.c (.s (.int .i64 70)))) [(10, .op (.len (.sl 0) (.t 9)) [(9, .op (.load false 1 (.t 8)) [(8, .op (.fa 0 (.t 1)) [])])])]) (.x (.c (.s (.bool true)))) (.op
  (.bin .gtr .num (.t 15) (.c (.s (.int .i64 70)))) [(15, .op (.len (.sl 0) (.t 14)) [(14, .op (.load false 1 (.t 13)) [(13, .op (.fa 1 (.t 1)) [])])])])) (.seq (.reg [.set 2 (.x
  (.c (.s (.bool false)))), .tick 1] false) .ret) .skip)) (.seq (.seq (.reg [.set 3 (.x (.c (.s (.int .i64 0)))), .tick 1] false) (.block 0 (.loop (.seq (.seq (.reg [.tick 5]
  false) (.cond (.op (.bin .lss .num (.t 18) (.t 21)) [(18, .x (.t 3)), (21, .op (.len (.sl 0) (.t 20)) [(20, .op (.load false 1 (.t 19)) [(19, .op (.fa 0 (.t 1)) [])])])]) .skip
  (.exit 0))) (.seq (.block 1 (.seq (.reg [.set 29 (.op (.load true 5 (.t 28)) [(28, .op (.ia (.sl 5) (.t 26) (.t 27)) [(26, .op (.load false 1 (.t 25)) [(25, .op (.fa 0 (.t 1))
  [])]), (27, .x (.t 3))])]), .tick 5, .act (some 4) [] (.alloc 47 [.int .i64 0, .str [], .nils, .nils, .nils]) [], .act none [] (.store 5 (.t 4) (.t 29)) []] false) (.seq (.seq
  (.reg [.tick 22] false) (.cond (.pick (.pick (.pick (.op (.bin .gtr .num (.t 32) (.c (.s (.int .i64 100)))) [(32, .op (.len .str (.t 31)) [(31, .op (.load false 1 (.t 30)) [(30,
  .op (.fa 1 (.t 4)) [])])])]) (.x (.c (.s (.bool true)))) (.op (.bin .gtr .num (.t 37) (.c (.s (.int .i64 20)))) [(37, .op (.len (.sl 0) (.t 36)) [(36, .op (.load false 1 (.t 35))
  [(35, .op (.fa 2 (.t 4)) [])])])])) (.x (.c (.s (.bool true)))) (.op (.bin .gtr .num (.t 43) (.c (.s (.int .i64 20)))) [(43, .op (.len (.sl 0) (.t 42)) [(42, .op (.load false 1
  (.t 41)) [(41, .op (.fa 3 (.t 4)) [])])])])) (.x (.c (.s (.bool true)))) (.op (.bin .gtr .num (.t 49) (.c (.s (.int .i64 70)))) [(49, .op (.len (.sl 0) (.t 48)) [(48, .op (.load
  false 1 (.t 47)) [(47, .op (.fa 4 (.t 4)) [])])])])) (.seq (.reg [.set 2 (.x (.c (.s (.bool false)))), .tick 1] false) .ret) .skip)) (.seq (.seq (.reg [.set 5 (.x (.c (.s (.int
  .i64 0)))), .tick 1] false) (.block 2 (.loop (.seq (.seq (.reg [.tick 5] false) (.cond (.op (.bin .lss .num (.t 52) (.t 55)) [(52, .x (.t 5)), (55, .op (.len (.sl 0) (.t 54))
  [(54, .op (.load false 1 (.t 53)) [(53, .op (.fa 2 (.t 4)) [])])])]) .skip (.exit 2))) (.seq (.block 3 (.seq (.reg [.tick 8] false) (.cond (.op (.bin .gtr .num (.t 65) (.c (.s
  (.int .i64 100)))) [(65, .op (.len .str (.t 64)) [(64, .op (.load false 1 (.t 63)) [(63, .op (.fa 0 (.t 62)) [(62, .op (.ia (.sl 2) (.t 60) (.t 61)) [(60, .op (.load false 1 (.t
  59)) [(59, .op (.fa 2 (.t 4)) [])]), (61, .x (.t 5))])])])])]) (.seq (.reg [.set 2 (.x (.c (.s (.bool false)))), .tick 1] false) .ret) .skip))) (.reg [.set 5 (.op (.bin .add .num
  (.t 57) (.c (.s (.int .i64 1)))) [(57, .x (.t 5))]), .tick 3] false)))))) (.seq (.reg [.set 6 (.x (.c (.s (.int .i64 0)))), .tick 1] false) (.block 4 (.loop (.seq (.seq (.reg
  [.tick 5] false) (.cond (.op (.bin .lss .num (.t 67) (.t 70)) [(67, .x (.t 6)), (70, .op (.len (.sl 0) (.t 69)) [(69, .op (.load false 1 (.t 68)) [(68, .op (.fa 4 (.t 4))
  [])])])]) .skip (.exit 4))) (.seq (.block 5 (.seq (.reg [.tick 18] false) (.cond (.pick (.op (.bin .gtr .num (.t 80) (.c (.s (.int .i64 100)))) [(80, .op (.len .str (.t 79))
  [(79, .op (.load false 1 (.t 78)) [(78, .op (.fa 1 (.t 77)) [(77, .op (.ia (.sl 3) (.t 75) (.t 76)) [(75, .op (.load false 1 (.t 74)) [(74, .op (.fa 4 (.t 4)) [])]), (76, .x (.t
  6))])])])])]) (.x (.c (.s (.bool true)))) (.op (.bin .gtr .num (.t 89) (.c (.s (.int .i64 20)))) [(89, .op (.len (.sl 0) (.t 88)) [(88, .op (.load false 1 (.t 87)) [(87, .op (.fa
  2 (.t 86)) [(86, .op (.ia (.sl 3) (.t 84) (.t 85)) [(84, .op (.load false 1 (.t 83)) [(83, .op (.fa 4 (.t 4)) [])]), (85, .x (.t 6))])])])])])) (.seq (.reg [.set 2 (.x (.c (.s
  (.bool false)))), .tick 1] false) .ret) .skip))) (.reg [.set 6 (.op (.bin .add .num (.t 72) (.c (.s (.int .i64 1)))) [(72, .x (.t 6))]), .tick 3] false)))))))))) (.reg [.set 3
  (.op (.bin .add .num (.t 23) (.c (.s (.int .i64 1)))) [(23, .x (.t 3))]), .tick 3] false)))))) (.seq (.seq (.reg [.set 7 (.x (.c (.s (.int .i64 0)))), .tick 1] false) (.block 6
  (.loop (.seq (.seq (.reg [.tick 5] false) (.cond (.op (.bin .lss .num (.t 92) (.t 95)) [(92, .x (.t 7)), (95, .op (.len (.sl 0) (.t 94)) [(94, .op (.load false 1 (.t 93)) [(93,
  .op (.fa 1 (.t 1)) [])])])]) .skip (.exit 6))) (.seq (.block 7 (.seq (.reg [.tick 18] false) (.cond (.pick (.op (.bin .gtr .num (.t 105) (.c (.s (.int .i64 100)))) [(105, .op
  (.len .str (.t 104)) [(104, .op (.load false 1 (.t 103)) [(103, .op (.fa 1 (.t 102)) [(102, .op (.ia (.sl 4) (.t 100) (.t 101)) [(100, .op (.load false 1 (.t 99)) [(99, .op (.fa
  1 (.t 1)) [])]), (101, .x (.t 7))])])])])]) (.x (.c (.s (.bool true)))) (.op (.bin .gtr .num (.t 114) (.c (.s (.int .i64 20000)))) [(114, .op (.len .str (.t 113)) [(113, .op
  (.load false 1 (.t 112)) [(112, .op (.fa 2 (.t 111)) [(111, .op (.ia (.sl 4) (.t 109) (.t 110)) [(109, .op (.load false 1 (.t 108)) [(108, .op (.fa 1 (.t 1)) [])]), (110, .x (.t
  7))])])])])])) (.seq (.reg [.set 2 (.x (.c (.s (.bool false)))), .tick 1] false) .ret) .skip))) (.reg [.set 7 (.op (.bin .add .num (.t 97) (.c (.s (.int .i64 1)))) [(97, .x (.t
  7))]), .tick 3] false)))))) (.seq (.reg [.set 2 (.x (.c (.s (.bool true)))), .tick 1] false) .ret))))
theorem f6 : sF EE 6 [8, 9, 10, 11, 12, 13, 14, 15, 16, 17, 18, 19, 20, 21, 22, 25, 26, 27, 28, 30, 31, 32, 33, 34, 35, 36, 37, 38, 39, 40, 41, 42, 43, 44, 45, 46, 47, 48, 49, 50,
  51, 52, 53, 54, 55, 56, 59, 60, 61, 62, 63, 64, 65, 66, 57, 58, 67, 68, 69, 70, 71, 74, 75, 76, 77, 78, 79, 80, 81, 82, 83, 84, 85, 86, 87, 88, 89, 90, 91, 72, 73, 23, 24, 92,
  93, 94, 95, 96, 99, 100, 101, 102, 103, 104, 105, 106, 107, 108, 109, 110, 111, 112, 113, 114, 115, 116, 97, 98] = some ⟨117, [.t 2], c6⟩ := by kernel_rfl
/- 7 lineage/catalog.Encode -/
def c7 : SC := .seq (.reg [.act (some 1) [] (.box 25 (.t 0)) [], .set 2 (.x (.c (.s .nils))), .set 3 (.x (.c (.s (.int .i64 0)))), .tick 2] false) (.seq (.seq (.reg [.tick 1, .act
  (some 15) [] (.call 16 [.t 14]) [(14, .op (.load true 3 (.t 1)) [])], .tick 1] false) (.cond (.op (.un .not (.t 15)) []) (.seq (.reg [.set 2 (.x (.c (.s .nils))), .set 3 (.x (.c
  (.s (.int .i64 1)))), .tick 2] false) .ret) .skip)) (.seq (.reg [.tick 3, .act (some 20) [] (.call 17 [.c (.s .nils), .t 19]) [(19, .op (.conv (.int (.u64)) (.t 18)) [(18, .op
  (.load false 1 (.t 17)) [(17, .op (.fa 2 (.t 1)) [])])])], .set 4 (.x (.t 20)), .tick 1] false) (.seq (.reg [.tick 5, .act (some 26) [] (.call 17 [.t 21, .t 25]) [(21, .x (.t
  4)), (25, .op (.conv (.int (.u64)) (.t 24)) [(24, .op (.len (.sl 0) (.t 23)) [(23, .op (.load false 1 (.t 22)) [(22, .op (.fa 0 (.t 1)) [])])])])], .set 4 (.x (.t 26)), .tick 1]
  false) (.seq (.seq (.reg [.set 28 (.op (.load false 1 (.t 27)) [(27, .op (.fa 0 (.t 1)) [])]), .set 29 (.op (.len (.sl 0) (.t 28)) []), .set 30 (.x (.c (.s (.int .i64 0)))),
  .tick 4] false) (.block 0 (.loop (.seq (.reg [.tick 1] false) (.seq (.cond (.op (.bin .lss .num (.t 30) (.t 29)) []) .skip (.exit 0)) (.seq (.block 1 (.seq (.reg [.set 33 (.op
  (.load true 5 (.t 32)) [(32, .op (.ia (.sl 5) (.t 28) (.t 30)) [])]), .tick 2, .act (some 6) [] (.alloc 47 [.int .i64 0, .str [], .nils, .nils, .nils]) [], .act none [] (.store 5
  (.t 6) (.t 33)) []] false) (.seq (.regD [.set 34 (.x (.t 4)), .set 36 (.op (.load false 1 (.t 35)) [(35, .op (.fa 0 (.t 6)) [])]), .set 37 (.op (.conv (.int (.u64)) (.t 36)) []),
  .tick 4, .act (some 38) [] (.call 17 [.t 34, .t 37]) [], .set 39 (.op (.fa 1 (.t 6)) []), .tick 2, .act (some 41) [] (.call 18 [.t 38, .t 40]) [(40, .op (.load false 1 (.t 39))
  [])], .set 4 (.x (.t 41)), .tick 1] [(3, 2, [.t 36], 5, 1, [.t 6]), (4, 2, [.c (.s (.func 17)), .t 34, .t 37], 5, 1, [.t 6]), (3, 2, [.t 36], 6, 1, [.t 39]), (4, 2, [.c (.s
  (.func 17)), .t 34, .t 37], 6, 1, [.t 39])] []) (.seq (.reg [.tick 5, .act (some 47) [] (.call 17 [.t 42, .t 46]) [(42, .x (.t 4)), (46, .op (.conv (.int (.u64)) (.t 45)) [(45,
  .op (.len (.sl 0) (.t 44)) [(44, .op (.load false 1 (.t 43)) [(43, .op (.fa 2 (.t 6)) [])])])])], .set 4 (.x (.t 47)), .tick 1] false) (.seq (.seq (.reg [.set 49 (.op (.load
  false 1 (.t 48)) [(48, .op (.fa 2 (.t 6)) [])]), .set 50 (.op (.len (.sl 0) (.t 49)) []), .set 51 (.x (.c (.s (.int .i64 0)))), .tick 4] false) (.block 2 (.loop (.seq (.reg
  [.tick 1] false) (.seq (.cond (.op (.bin .lss .num (.t 51) (.t 50)) []) .skip (.exit 2)) (.seq (.block 3 (.seq (.reg [.set 54 (.op (.load true 2 (.t 53)) [(53, .op (.ia (.sl 2)
  (.t 49) (.t 51)) [])]), .tick 2, .act (some 8) [] (.alloc 40 [.str [], .int .i64 0]) [], .act none [] (.store 2 (.t 8) (.t 54)) []] false) (.regD [.set 55 (.x (.t 4)), .set 56
  (.op (.fa 0 (.t 8)) []), .set 57 (.op (.load false 1 (.t 56)) []), .tick 3, .act (some 58) [] (.call 18 [.t 55, .t 57]) [], .set 59 (.op (.fa 1 (.t 8)) []), .set 60 (.op (.load
  false 1 (.t 59)) []), .tick 3, .act (some 62) [] (.call 17 [.t 58, .t 61]) [(61, .op (.conv (.int (.u64)) (.t 60)) [])], .set 4 (.x (.t 62)), .tick 1] [(3, 2, [.c (.s (.func
  18)), .t 55, .t 57], 4, 1, [.t 8]), (3, 2, [.c (.s (.func 18)), .t 55, .t 57], 5, 1, [.t 59]), (1, 1, [.t 8], 6, 2, [.t 60]), (2, 1, [.t 56], 6, 2, [.t 60]), (3, 2, [.c (.s
  (.func 18)), .t 55, .t 57], 6, 2, [.t 60])] []))) (.reg [.set 51 (.op (.bin .add .num (.t 51) (.c (.s (.int .i64 1)))) []), .tick 2] false))))))) (.seq (.regD [.set 64 (.x (.t
  4)), .set 65 (.op (.fa 3 (.t 6)) []), .set 66 (.op (.load false 1 (.t 65)) []), .tick 3, .act (some 67) [] (.call 19 [.t 64, .t 66]) [], .set 68 (.op (.fa 4 (.t 6)) []), .set 69
  (.op (.load false 1 (.t 68)) []), .set 70 (.op (.len (.sl 0) (.t 69)) []), .tick 4, .act (some 72) [] (.call 17 [.t 67, .t 71]) [(71, .op (.conv (.int (.u64)) (.t 70)) [])], .set
  4 (.x (.t 72)), .tick 1] [(3, 2, [.c (.s (.func 19)), .t 64, .t 66], 4, 1, [.t 6]), (3, 2, [.c (.s (.func 19)), .t 64, .t 66], 5, 1, [.t 68]), (3, 2, [.c (.s (.func 19)), .t 64,
  .t 66], 6, 1, [.t 69]), (1, 1, [.t 6], 7, 2, [.t 70]), (2, 1, [.t 65], 7, 2, [.t 70]), (3, 2, [.c (.s (.func 19)), .t 64, .t 66], 7, 2, [.t 70])] []) (.seq (.reg [.set 74 (.op
  (.load false 1 (.t 73)) [(73, .op (.fa 4 (.t 6)) [])]), .set 75 (.op (.len (.sl 0) (.t 74)) []), .set 76 (.x (.c (.s (.int .i64 0)))), .tick 4] false) (.block 4 (.loop (.seq
  (.reg [.tick 1] false) (.seq (.cond (.op (.bin .lss .num (.t 76) (.t 75)) []) .skip (.exit 4)) (.seq (.block 5 (.seq (.reg [.set 79 (.op (.load true 3 (.t 78)) [(78, .op (.ia
  (.sl 3) (.t 74) (.t 76)) [])]), .tick 2, .act (some 10) [] (.alloc 51 [.int .i64 0, .str [], .nils]) [], .act none [] (.store 3 (.t 10) (.t 79)) []] false) (.regD [.set 80 (.x
  (.t 4)), .set 82 (.op (.load false 1 (.t 81)) [(81, .op (.fa 0 (.t 10)) [])]), .set 83 (.op (.conv (.int (.u64)) (.t 82)) []), .tick 4, .act (some 84) [] (.call 17 [.t 80, .t
  83]) [], .set 85 (.op (.fa 1 (.t 10)) []), .set 86 (.op (.load false 1 (.t 85)) []), .tick 2, .act (some 87) [] (.call 18 [.t 84, .t 86]) [], .set 88 (.op (.fa 2 (.t 10)) []),
  .tick 2, .act (some 90) [] (.call 19 [.t 87, .t 89]) [(89, .op (.load false 1 (.t 88)) [])], .set 4 (.x (.t 90)), .tick 1] [(3, 2, [.t 82], 5, 1, [.t 10]), (4, 2, [.c (.s (.func
  17)), .t 80, .t 83], 5, 1, [.t 10]), (3, 2, [.t 82], 6, 1, [.t 85]), (4, 2, [.c (.s (.func 17)), .t 80, .t 83], 6, 1, [.t 85]), (3, 2, [.t 82], 8, 1, [.t 10]), (4, 2, [.c (.s
  (.func 17)), .t 80, .t 83], 8, 1, [.t 10]), (7, 2, [.c (.s (.func 18)), .t 84, .t 86], 8, 1, [.t 10]), (3, 2, [.t 82], 9, 1, [.t 88]), (4, 2, [.c (.s (.func 17)), .t 80, .t 83],
  9, 1, [.t 88]), (7, 2, [.c (.s (.func 18)), .t 84, .t 86], 9, 1, [.t 88])] []))) (.reg [.set 76 (.op (.bin .add .num (.t 76) (.c (.s (.int .i64 1)))) []), .tick 2]
  false))))))))))))) (.reg [.set 30 (.op (.bin .add .num (.t 30) (.c (.s (.int .i64 1)))) []), .tick 2] false))))))) (.seq (.reg [.tick 5, .act (some 98) [] (.call 17 [.t 93, .t
  97]) [(93, .x (.t 4)), (97, .op (.conv (.int (.u64)) (.t 96)) [(96, .op (.len (.sl 0) (.t 95)) [(95, .op (.load false 1 (.t 94)) [(94, .op (.fa 1 (.t 1)) [])])])])], .set 4 (.x
  (.t 98)), .tick 1] false) (.seq (.seq (.reg [.set 100 (.op (.load false 1 (.t 99)) [(99, .op (.fa 1 (.t 1)) [])]), .set 101 (.op (.len (.sl 0) (.t 100)) []), .set 102 (.x (.c (.s
  (.int .i64 0)))), .tick 4] false) (.block 6 (.loop (.seq (.reg [.tick 1] false) (.seq (.cond (.op (.bin .lss .num (.t 102) (.t 101)) []) .skip (.exit 6)) (.seq (.block 7 (.seq
  (.reg [.set 105 (.op (.load true 4 (.t 104)) [(104, .op (.ia (.sl 4) (.t 100) (.t 102)) [])]), .tick 2, .act (some 12) [] (.alloc 53 [.int .i64 0, .str [], .str [], .bool false])
  [], .act none [] (.store 4 (.t 12) (.t 105)) []] false) (.seq (.reg [.set 13 (.x (.c (.s (.int (.u64) 0)))), .tick 1] false) (.seq (.seq (.reg [.tick 2] false) (.cond (.op (.load
  false 1 (.t 106)) [(106, .op (.fa 3 (.t 12)) [])]) (.reg [.set 13 (.x (.c (.s (.int (.u64) 1)))), .tick 1] false) .skip)) (.regD [.set 108 (.x (.t 4)), .set 110 (.op (.load false
  1 (.t 109)) [(109, .op (.fa 0 (.t 12)) [])]), .set 111 (.op (.conv (.int (.u64)) (.t 110)) []), .tick 4, .act (some 112) [] (.call 17 [.t 108, .t 111]) [], .set 113 (.op (.fa 1
  (.t 12)) []), .set 114 (.op (.load false 1 (.t 113)) []), .tick 2, .act (some 115) [] (.call 18 [.t 112, .t 114]) [], .set 116 (.op (.fa 2 (.t 12)) []), .tick 2, .act (some 118)
  [] (.call 18 [.t 115, .t 117]) [(117, .op (.load false 1 (.t 116)) [])], .tick 1, .act (some 120) [] (.call 17 [.t 118, .t 119]) [(119, .x (.t 13))], .set 4 (.x (.t 120)), .tick
  1] [(3, 2, [.t 110], 5, 1, [.t 12]), (4, 2, [.c (.s (.func 17)), .t 108, .t 111], 5, 1, [.t 12]), (3, 2, [.t 110], 6, 1, [.t 113]), (4, 2, [.c (.s (.func 17)), .t 108, .t 111],
  6, 1, [.t 113]), (3, 2, [.t 110], 8, 1, [.t 12]), (4, 2, [.c (.s (.func 17)), .t 108, .t 111], 8, 1, [.t 12]), (7, 2, [.c (.s (.func 18)), .t 112, .t 114], 8, 1, [.t 12]), (3, 2,
  [.t 110], 9, 1, [.t 116]), (4, 2, [.c (.s (.func 17)), .t 108, .t 111], 9, 1, [.t 116]), (7, 2, [.c (.s (.func 18)), .t 112, .t 114], 9, 1, [.t 116])] []))))) (.reg [.set 102
  (.op (.bin .add .num (.t 102) (.c (.s (.int .i64 1)))) []), .tick 2] false))))))) (.seq (.reg [.set 2 (.x (.t 4)), .set 3 (.x (.c (.s (.int .i64 0)))), .tick 3] false)
  .ret)))))))
theorem f7 : sF EE 7 [14, 16, 17, 18, 19, 21, 22, 23, 24, 25, 27, 31, 32, 35, 40, 42, 43, 44, 45, 46, 48, 52, 53, 61, 63, 71, 73, 77, 78, 81, 89, 91, 92, 93, 94, 95, 96, 97, 99,
  103, 104, 106, 107, 109, 117, 119, 121, 122] = some ⟨123, [.t 2, .t 3], c7⟩ := by kernel_rfl
/- 8 lineage/lineageref19.Valid -/
def c8 : SC := .seq (.reg [.act (some 1) [] (.box 25 (.t 0)) [], .set 2 (.x (.c (.s (.bool false)))), .tick 1] false) (.seq (.reg [.tick 1, .act (some 10) [] (.call 20 [.t 9]) [(9,
  .op (.load true 3 (.t 1)) [])], .tick 1, .act (some 12) [] (.call 21 [.t 11]) [(11, .op (.load true 3 (.t 1)) [])], .set 3 (.x (.t 10)), .set 4 (.x (.t 12)), .tick 2] true) (.seq
  (.seq (.reg [.set 26 (.pick (.pick (.op (.bin .lss .num (.t 14) (.c (.s (.int .i64 0)))) [(14, .op (.load false 1 (.t 13)) [(13, .op (.fa 2 (.t 1)) [])])]) (.x (.c (.s (.bool
  true)))) (.op (.bin .gtr .num (.t 18) (.c (.s (.int .i64 2147483647)))) [(18, .op (.load false 1 (.t 17)) [(17, .op (.fa 2 (.t 1)) [])])])) (.x (.c (.s (.bool true)))) (.op (.bin
  .gtr .num (.t 23) (.c (.s (.int .i64 64)))) [(23, .op (.len (.sl 0) (.t 22)) [(22, .x (.t 3))])])), .tick 15, .act (some 28) [(.x (.t 26), false)] (.call 22 [.t 27]) [(27, .x (.t
  3))], .tick 2] false) (.seq (.reg [.need [(.x (.t 26), false)] (.op (.un .not (.t 28)) [])] false) (.cond (.pick (.x (.t 26)) (.x (.c (.s (.bool true)))) (.op (.un .not (.t 28))
  [])) (.seq (.reg [.set 2 (.x (.c (.s (.bool false)))), .tick 1] false) .ret) .skip))) (.seq (.seq (.reg [.set 5 (.x (.c (.s (.int .i64 0)))), .tick 1] false) (.block 0 (.loop
  (.seq (.seq (.reg [.tick 4] false) (.cond (.op (.bin .lss .num (.t 31) (.t 33)) [(31, .x (.t 5)), (33, .op (.len (.sl 0) (.t 32)) [(32, .x (.t 4))])]) .skip (.exit 0))) (.seq
  (.block 1 (.seq (.seq (.reg [.tick 4, .act (some 41) [] (.call 23 [.t 40]) [(40, .op (.load false 1 (.t 39)) [(39, .op (.ia (.sl 1) (.t 37) (.t 38)) [(37, .x (.t 3)), (38, .x (.t
  5))])])], .tick 17] true) (.cond (.pick (.pick (.op (.un .not (.t 41)) []) (.x (.c (.s (.bool true)))) (.op (.bin .lss .num (.t 47) (.c (.s (.int .i64 1)))) [(47, .op (.load
  false 1 (.t 46)) [(46, .op (.ia (.sl 1) (.t 44) (.t 45)) [(44, .x (.t 4)), (45, .x (.t 5))])])])) (.x (.c (.s (.bool true)))) (.op (.bin .gtr .num (.t 54) (.t 56)) [(54, .op
  (.load false 1 (.t 53)) [(53, .op (.ia (.sl 1) (.t 51) (.t 52)) [(51, .x (.t 4)), (52, .x (.t 5))])]), (56, .op (.load false 1 (.t 55)) [(55, .op (.fa 2 (.t 1)) [])])])) (.seq
  (.reg [.set 2 (.x (.c (.s (.bool false)))), .tick 1] false) .ret) .skip)) (.seq (.reg [.set 6 (.x (.c (.s (.int .i64 0)))), .tick 1] false) (.block 2 (.loop (.seq (.seq (.reg
  [.tick 3] false) (.cond (.op (.bin .lss .num (.t 59) (.t 60)) [(59, .x (.t 6)), (60, .x (.t 5))]) .skip (.exit 2))) (.seq (.block 3 (.seq (.reg [.tick 9] true) (.cond (.op (.bin
  .eql .num (.t 67) (.t 71)) [(67, .op (.load false 1 (.t 66)) [(66, .op (.ia (.sl 1) (.t 64) (.t 65)) [(64, .x (.t 4)), (65, .x (.t 5))])]), (71, .op (.load false 1 (.t 70)) [(70,
  .op (.ia (.sl 1) (.t 68) (.t 69)) [(68, .x (.t 4)), (69, .x (.t 6))])])]) (.seq (.reg [.set 2 (.x (.c (.s (.bool false)))), .tick 1] false) .ret) .skip))) (.reg [.set 6 (.op
  (.bin .add .num (.t 62) (.c (.s (.int .i64 1)))) [(62, .x (.t 6))]), .tick 3] false)))))))) (.reg [.set 5 (.op (.bin .add .num (.t 35) (.c (.s (.int .i64 1)))) [(35, .x (.t
  5))]), .tick 3] false)))))) (.seq (.seq (.reg [.set 7 (.x (.c (.s (.int .i64 0)))), .tick 1] false) (.block 4 (.loop (.seq (.seq (.reg [.tick 5] false) (.cond (.op (.bin .lss
  .num (.t 73) (.t 76)) [(73, .x (.t 7)), (76, .op (.len (.sl 0) (.t 75)) [(75, .op (.load false 1 (.t 74)) [(74, .op (.fa 0 (.t 1)) [])])])]) .skip (.exit 4))) (.seq (.block 5
  (.seq (.reg [.tick 5, .act (some 85) [] (.call 24 [.t 84]) [(84, .op (.load true 5 (.t 83)) [(83, .op (.ia (.sl 5) (.t 81) (.t 82)) [(81, .op (.load false 1 (.t 80)) [(80, .op
  (.fa 0 (.t 1)) [])]), (82, .x (.t 7))])])], .tick 21] true) (.cond (.pick (.op (.un .not (.t 85)) []) (.x (.c (.s (.bool true)))) (.pick (.op (.bin .gtr .num (.t 88) (.c (.s
  (.int .i64 0)))) [(88, .x (.t 7))]) (.op (.bin .geq .num (.t 97) (.t 103)) [(97, .op (.load false 1 (.t 96)) [(96, .op (.fa 0 (.t 95)) [(95, .op (.ia (.sl 5) (.t 92) (.t 94))
  [(92, .op (.load false 1 (.t 91)) [(91, .op (.fa 0 (.t 1)) [])]), (94, .op (.bin .sub .num (.t 93) (.c (.s (.int .i64 1)))) [(93, .x (.t 7))])])])]), (103, .op (.load false 1 (.t
  102)) [(102, .op (.fa 0 (.t 101)) [(101, .op (.ia (.sl 5) (.t 99) (.t 100)) [(99, .op (.load false 1 (.t 98)) [(98, .op (.fa 0 (.t 1)) [])]), (100, .x (.t 7))])])])]) (.x (.c (.s
  (.bool false)))))) (.seq (.reg [.set 2 (.x (.c (.s (.bool false)))), .tick 1] false) .ret) .skip))) (.reg [.set 7 (.op (.bin .add .num (.t 78) (.c (.s (.int .i64 1)))) [(78, .x
  (.t 7))]), .tick 3] false)))))) (.seq (.seq (.reg [.set 8 (.x (.c (.s (.int .i64 0)))), .tick 1] false) (.block 6 (.loop (.seq (.seq (.reg [.tick 5] false) (.cond (.op (.bin .lss
  .num (.t 107) (.t 110)) [(107, .x (.t 8)), (110, .op (.len (.sl 0) (.t 109)) [(109, .op (.load false 1 (.t 108)) [(108, .op (.fa 1 (.t 1)) [])])])]) .skip (.exit 6))) (.seq
  (.block 7 (.seq (.reg [.tick 38] true) (.cond (.pick (.pick (.op (.bin .lss .num (.t 120) (.c (.s (.int .i64 1)))) [(120, .op (.len .str (.t 119)) [(119, .op (.load false 1 (.t
  118)) [(118, .op (.fa 2 (.t 117)) [(117, .op (.ia (.sl 4) (.t 115) (.t 116)) [(115, .op (.load false 1 (.t 114)) [(114, .op (.fa 1 (.t 1)) [])]), (116, .x (.t 8))])])])])]) (.x
  (.c (.s (.bool true)))) (.op (.bin .gtr .num (.t 129) (.c (.s (.int .i64 16384)))) [(129, .op (.len .str (.t 128)) [(128, .op (.load false 1 (.t 127)) [(127, .op (.fa 2 (.t 126))
  [(126, .op (.ia (.sl 4) (.t 124) (.t 125)) [(124, .op (.load false 1 (.t 123)) [(123, .op (.fa 1 (.t 1)) [])]), (125, .x (.t 8))])])])])])) (.x (.c (.s (.bool true)))) (.pick
  (.op (.bin .gtr .num (.t 133) (.c (.s (.int .i64 0)))) [(133, .x (.t 8))]) (.op (.bin .geq .num (.t 142) (.t 148)) [(142, .op (.load false 1 (.t 141)) [(141, .op (.fa 0 (.t 140))
  [(140, .op (.ia (.sl 4) (.t 137) (.t 139)) [(137, .op (.load false 1 (.t 136)) [(136, .op (.fa 1 (.t 1)) [])]), (139, .op (.bin .sub .num (.t 138) (.c (.s (.int .i64 1)))) [(138,
  .x (.t 8))])])])]), (148, .op (.load false 1 (.t 147)) [(147, .op (.fa 0 (.t 146)) [(146, .op (.ia (.sl 4) (.t 144) (.t 145)) [(144, .op (.load false 1 (.t 143)) [(143, .op (.fa
  1 (.t 1)) [])]), (145, .x (.t 8))])])])]) (.x (.c (.s (.bool false)))))) (.seq (.reg [.set 2 (.x (.c (.s (.bool false)))), .tick 1] false) .ret) .skip))) (.reg [.set 8 (.op (.bin
  .add .num (.t 112) (.c (.s (.int .i64 1)))) [(112, .x (.t 8))]), .tick 3] false)))))) (.seq (.reg [.set 2 (.x (.c (.s (.bool true)))), .tick 1] false) .ret))))))
theorem f8 : sF EE 8 [9, 11, 13, 14, 15, 16, 17, 18, 19, 20, 21, 22, 23, 24, 25, 27, 29, 30, 31, 32, 33, 34, 37, 38, 39, 40, 42, 43, 44, 45, 46, 47, 48, 49, 50, 51, 52, 53, 54, 55,
  56, 57, 58, 59, 60, 61, 64, 65, 66, 67, 68, 69, 70, 71, 72, 62, 63, 35, 36, 73, 74, 75, 76, 77, 80, 81, 82, 83, 84, 86, 87, 88, 89, 90, 91, 92, 93, 94, 95, 96, 97, 98, 99, 100,
  101, 102, 103, 104, 105, 106, 78, 79, 107, 108, 109, 110, 111, 114, 115, 116, 117, 118, 119, 120, 121, 122, 123, 124, 125, 126, 127, 128, 129, 130, 131, 132, 133, 134, 135, 136,
  137, 138, 139, 140, 141, 142, 143, 144, 145, 146, 147, 148, 149, 150, 151, 112, 113] = some ⟨152, [.t 2], c8⟩ := by kernel_rfl
/- 9 lineage/catalog.Decode -/
def c9 : SC := .seq (.reg [.act (some 2) [] (.alloc 25 [.nils, .nils, .int .i64 0]) [], .set 3 (.x (.c (.s (.int .i64 0)))), .tick 1] false) (.seq (.reg [.tick 2, .act (some 10) []
  (.box 64 (.t 9)) [(9, .op (.build [.nils, .bool false] [(0, 1, .t 8), (1, 1, .c (.s (.bool true)))]) [(8, .x (.t 0))])], .set 4 (.x (.t 10)), .tick 1] false) (.seq (.reg [.tick
  1, .act (some 12) [] (.call 25 [.t 11]) [(11, .x (.t 4))], .need [] (.op (.build [.nils, .nils, .int .i64 0] [(2, 1, .t 12)]) []), .tick 1, .act (some 5) [] (.alloc 25 [.nils,
  .nils, .int .i64 0]) [], .act none [] (.store 3 (.t 5) (.t 13)) [(13, .op (.build [.nils, .nils, .int .i64 0] [(2, 1, .t 12)]) [])]] false) (.seq (.reg [.tick 3, .act (some 17)
  [] (.call 26 [.t 14, .t 16]) [(14, .x (.t 4)), (16, .op (.mkf 27 [.t 15] []) [(15, .x (.t 4))])], .tick 1, .act none [] (.store 1 (.t 18) (.t 17)) [(18, .op (.fa 0 (.t 5)) [])]]
  false) (.seq (.reg [.tick 3, .act (some 22) [] (.call 28 [.t 19, .t 21]) [(19, .x (.t 4)), (21, .op (.mkf 29 [.t 20] []) [(20, .x (.t 4))])], .tick 1, .act none [] (.store 1 (.t
  23) (.t 22)) [(23, .op (.fa 1 (.t 5)) [])]] false) (.seq (.reg [.tick 1, .act (some 26) [] (.call 7 [.t 25]) [(25, .op (.load true 3 (.t 5)) [])], .set 6 (.op (.ext (.t 24) 0)
  [(24, .x (.t 26))]), .set 7 (.op (.ext (.t 24) 1) [(24, .x (.t 26))]), .tick 5] false) (.seq (.seq (.reg [.set 38 (.pick (.op (.un .not (.t 32)) [(32, .op (.load false 1 (.t 31))
  [(31, .op (.fa 1 (.t 30)) [(30, .op (.chk (.t 29)) [(29, .x (.t 4))])])])]) (.x (.c (.s (.bool true)))) (.op (.bin .neq .num (.t 35) (.c (.s (.int .i64 0)))) [(35, .x (.t 7))])),
  .tick 12, .act (some 41) [(.x (.t 38), false)] (.call 30 [.t 39, .t 40]) [(39, .x (.t 6)), (40, .x (.t 0))], .tick 2] false) (.seq (.reg [.need [(.x (.t 38), false)] (.op (.un
  .not (.t 41)) [])] false) (.cond (.pick (.x (.t 38)) (.x (.c (.s (.bool true)))) (.op (.un .not (.t 41)) [])) (.seq (.reg [.tick 1, .act none [] (.store 3 (.t 2) (.t 44)) [(44,
  .op (.build [.nils, .nils, .int .i64 0] []) [])], .set 3 (.x (.c (.s (.int .i64 12)))), .tick 1] false) .ret) .skip))) (.seq (.reg [.tick 1, .act none [] (.store 3 (.t 2) (.t
  45)) [(45, .op (.load true 3 (.t 5)) [])], .set 3 (.x (.c (.s (.int .i64 0)))), .tick 1] false) .ret)))))))
theorem f9 : sF EE 9 [8, 9, 11, 13, 14, 15, 16, 18, 19, 20, 21, 23, 25, 24, 27, 28, 29, 30, 31, 32, 33, 34, 35, 36, 37, 39, 40, 42, 43, 44, 45] = some ⟨46, [.cell true 3 2, .t 3],
  c9⟩ := by kernel_rfl
/- 10 lineage/lineageref04.Same -/
def c10 : SC := .seq (.reg [.set 4 (.x (.c (.s (.bool false)))), .tick 1] false) (.seq (.reg [.tick 2, .act (some 7) [] (.call 31 [.t 5, .t 6]) [(5, .x (.t 0)), (6, .x (.t 1))],
  .set 4 (.op (.bin .eql .num (.t 7) (.c (.s (.int .i64 0)))) []), .tick 2] false) .ret)
theorem f10 : sF EE 10 [5, 6, 8] = some ⟨9, [.t 4], c10⟩ := by kernel_rfl
/- 11 lineage/lineageref19.Encode -/
def c11 : SC := .seq (.reg [.act (some 1) [] (.box 25 (.t 0)) [], .set 2 (.x (.c (.s .nils))), .tick 1] false) (.seq (.regD [.act (some 11) [] (.rows 1 [.int .u8 0] 0 []) [], .set
  13 (.op (.load false 1 (.t 12)) [(12, .op (.fa 2 (.t 1)) [])]), .tick 2, .act (some 14) [] (.call 32 [.t 11, .t 13]) [], .set 15 (.op (.fa 0 (.t 1)) []), .set 16 (.op (.load
  false 1 (.t 15)) []), .tick 3, .act (some 18) [] (.call 32 [.t 14, .t 17]) [(17, .op (.len (.sl 0) (.t 16)) [])], .set 3 (.x (.t 18)), .tick 1] [(3, 2, [.c (.s (.func 32)), .t
  11, .t 13], 4, 1, [.t 1]), (3, 2, [.c (.s (.func 32)), .t 11, .t 13], 5, 1, [.t 15]), (3, 2, [.c (.s (.func 32)), .t 11, .t 13], 6, 1, [.t 16])] []) (.seq (.seq (.reg [.set 4 (.x
  (.c (.s (.int .i64 0)))), .tick 1] false) (.block 0 (.loop (.seq (.seq (.reg [.tick 5] false) (.cond (.op (.bin .lss .num (.t 19) (.t 22)) [(19, .x (.t 4)), (22, .op (.len (.sl
  0) (.t 21)) [(21, .op (.load false 1 (.t 20)) [(20, .op (.fa 0 (.t 1)) [])])])]) .skip (.exit 0))) (.seq (.block 1 (.seq (.reg [.set 28 (.x (.t 4)), .set 30 (.op (.load true 5
  (.t 29)) [(29, .op (.ia (.sl 5) (.t 27) (.t 28)) [(27, .op (.load false 1 (.t 26)) [(26, .op (.fa 0 (.t 1)) [])])])]), .tick 5, .act (some 5) [] (.alloc 47 [.int .i64 0, .str [],
  .nils, .nils, .nils]) [], .act none [] (.store 5 (.t 5) (.t 30)) []] false) (.seq (.regD [.set 31 (.x (.t 3)), .set 33 (.op (.load false 1 (.t 32)) [(32, .op (.fa 0 (.t 5))
  [])]), .tick 3, .act (some 34) [] (.call 32 [.t 31, .t 33]) [], .set 35 (.op (.fa 1 (.t 5)) []), .set 36 (.op (.load false 1 (.t 35)) []), .tick 2, .act (some 37) [] (.call 33
  [.t 34, .t 36]) [], .set 38 (.op (.fa 2 (.t 5)) []), .set 39 (.op (.load false 1 (.t 38)) []), .tick 3, .act (some 41) [] (.call 32 [.t 37, .t 40]) [(40, .op (.len (.sl 0) (.t
  39)) [])], .set 3 (.x (.t 41)), .tick 1] [(3, 2, [.c (.s (.func 32)), .t 31, .t 33], 4, 1, [.t 5]), (3, 2, [.c (.s (.func 32)), .t 31, .t 33], 5, 1, [.t 35]), (3, 2, [.c (.s
  (.func 32)), .t 31, .t 33], 7, 1, [.t 5]), (6, 2, [.c (.s (.func 33)), .t 34, .t 36], 7, 1, [.t 5]), (3, 2, [.c (.s (.func 32)), .t 31, .t 33], 8, 1, [.t 38]), (6, 2, [.c (.s
  (.func 33)), .t 34, .t 36], 8, 1, [.t 38]), (3, 2, [.c (.s (.func 32)), .t 31, .t 33], 9, 1, [.t 39]), (6, 2, [.c (.s (.func 33)), .t 34, .t 36], 9, 1, [.t 39])] []) (.seq (.seq
  (.reg [.set 6 (.x (.c (.s (.int .i64 0)))), .tick 1] false) (.block 2 (.loop (.seq (.seq (.reg [.tick 5] false) (.cond (.op (.bin .lss .num (.t 42) (.t 45)) [(42, .x (.t 6)),
  (45, .op (.len (.sl 0) (.t 44)) [(44, .op (.load false 1 (.t 43)) [(43, .op (.fa 2 (.t 5)) [])])])]) .skip (.exit 2))) (.seq (.block 3 (.regD [.set 49 (.x (.t 3)), .set 55 (.op
  (.load false 1 (.t 54)) [(54, .op (.fa 0 (.t 53)) [(53, .op (.ia (.sl 2) (.t 51) (.t 52)) [(51, .op (.load false 1 (.t 50)) [(50, .op (.fa 2 (.t 5)) [])]), (52, .x (.t 6))])])]),
  .tick 7, .act (some 56) [] (.call 33 [.t 49, .t 55]) [], .set 57 (.op (.fa 2 (.t 5)) []), .set 58 (.op (.load false 1 (.t 57)) []), .set 59 (.x (.t 6)), .set 60 (.op (.ia (.sl 2)
  (.t 58) (.t 59)) []), .set 61 (.op (.fa 1 (.t 60)) []), .tick 6, .act (some 63) [] (.call 32 [.t 56, .t 62]) [(62, .op (.load false 1 (.t 61)) [])], .set 3 (.x (.t 63)), .tick 1]
  [(7, 2, [.c (.s (.func 33)), .t 49, .t 55], 8, 1, [.t 5]), (7, 2, [.c (.s (.func 33)), .t 49, .t 55], 9, 1, [.t 57]), (7, 2, [.c (.s (.func 33)), .t 49, .t 55], 11, 1, [.t 58, .t
  59]), (7, 2, [.c (.s (.func 33)), .t 49, .t 55], 12, 1, [.t 60]), (7, 2, [.c (.s (.func 33)), .t 49, .t 55], 13, 1, [.t 61])] [])) (.reg [.set 6 (.op (.bin .add .num (.t 47) (.c
  (.s (.int .i64 1)))) [(47, .x (.t 6))]), .tick 3] false)))))) (.seq (.regD [.set 64 (.x (.t 3)), .set 66 (.op (.load false 1 (.t 65)) [(65, .op (.fa 3 (.t 5)) [])]), .tick 3,
  .act (some 67) [] (.call 34 [.t 64, .t 66]) [], .set 68 (.op (.fa 4 (.t 5)) []), .set 69 (.op (.load false 1 (.t 68)) []), .tick 3, .act (some 71) [] (.call 32 [.t 67, .t 70])
  [(70, .op (.len (.sl 0) (.t 69)) [])], .set 3 (.x (.t 71)), .tick 1] [(3, 2, [.c (.s (.func 34)), .t 64, .t 66], 4, 1, [.t 5]), (3, 2, [.c (.s (.func 34)), .t 64, .t 66], 5, 1,
  [.t 68]), (3, 2, [.c (.s (.func 34)), .t 64, .t 66], 6, 1, [.t 69])] []) (.seq (.reg [.set 7 (.x (.c (.s (.int .i64 0)))), .tick 1] false) (.block 4 (.loop (.seq (.seq (.reg
  [.tick 5] false) (.cond (.op (.bin .lss .num (.t 72) (.t 75)) [(72, .x (.t 7)), (75, .op (.len (.sl 0) (.t 74)) [(74, .op (.load false 1 (.t 73)) [(73, .op (.fa 4 (.t 5))
  [])])])]) .skip (.exit 4))) (.seq (.block 5 (.seq (.reg [.set 81 (.x (.t 7)), .set 83 (.op (.load true 3 (.t 82)) [(82, .op (.ia (.sl 3) (.t 80) (.t 81)) [(80, .op (.load false 1
  (.t 79)) [(79, .op (.fa 4 (.t 5)) [])])])]), .tick 5, .act (some 8) [] (.alloc 51 [.int .i64 0, .str [], .nils]) [], .act none [] (.store 3 (.t 8) (.t 83)) []] false) (.regD
  [.set 84 (.x (.t 3)), .set 86 (.op (.load false 1 (.t 85)) [(85, .op (.fa 0 (.t 8)) [])]), .tick 3, .act (some 87) [] (.call 32 [.t 84, .t 86]) [], .set 88 (.op (.fa 1 (.t 8))
  []), .set 89 (.op (.load false 1 (.t 88)) []), .tick 2, .act (some 90) [] (.call 33 [.t 87, .t 89]) [], .set 91 (.op (.fa 2 (.t 8)) []), .tick 2, .act (some 93) [] (.call 34 [.t
  90, .t 92]) [(92, .op (.load false 1 (.t 91)) [])], .set 3 (.x (.t 93)), .tick 1] [(3, 2, [.c (.s (.func 32)), .t 84, .t 86], 4, 1, [.t 8]), (3, 2, [.c (.s (.func 32)), .t 84, .t
  86], 5, 1, [.t 88]), (3, 2, [.c (.s (.func 32)), .t 84, .t 86], 7, 1, [.t 8]), (6, 2, [.c (.s (.func 33)), .t 87, .t 89], 7, 1, [.t 8]), (3, 2, [.c (.s (.func 32)), .t 84, .t
  86], 8, 1, [.t 91]), (6, 2, [.c (.s (.func 33)), .t 87, .t 89], 8, 1, [.t 91])] []))) (.reg [.set 7 (.op (.bin .add .num (.t 77) (.c (.s (.int .i64 1)))) [(77, .x (.t 7))]),
  .tick 3] false))))))))))) (.reg [.set 4 (.op (.bin .add .num (.t 24) (.c (.s (.int .i64 1)))) [(24, .x (.t 4))]), .tick 3] false)))))) (.seq (.reg [.tick 4, .act (some 98) []
  (.call 32 [.t 94, .t 97]) [(94, .x (.t 3)), (97, .op (.len (.sl 0) (.t 96)) [(96, .op (.load false 1 (.t 95)) [(95, .op (.fa 1 (.t 1)) [])])])], .set 3 (.x (.t 98)), .tick 1]
  false) (.seq (.seq (.reg [.set 9 (.x (.c (.s (.int .i64 0)))), .tick 1] false) (.block 6 (.loop (.seq (.seq (.reg [.tick 5] false) (.cond (.op (.bin .lss .num (.t 99) (.t 102))
  [(99, .x (.t 9)), (102, .op (.len (.sl 0) (.t 101)) [(101, .op (.load false 1 (.t 100)) [(100, .op (.fa 1 (.t 1)) [])])])]) .skip (.exit 6))) (.seq (.block 7 (.seq (.reg [.set
  108 (.x (.t 9)), .set 110 (.op (.load true 4 (.t 109)) [(109, .op (.ia (.sl 4) (.t 107) (.t 108)) [(107, .op (.load false 1 (.t 106)) [(106, .op (.fa 1 (.t 1)) [])])])]), .tick
  5, .act (some 10) [] (.alloc 53 [.int .i64 0, .str [], .str [], .bool false]) [], .act none [] (.store 4 (.t 10) (.t 110)) []] false) (.seq (.regD [.set 111 (.x (.t 3)), .set 113
  (.op (.load false 1 (.t 112)) [(112, .op (.fa 0 (.t 10)) [])]), .tick 3, .act (some 114) [] (.call 32 [.t 111, .t 113]) [], .set 115 (.op (.fa 1 (.t 10)) []), .set 116 (.op
  (.load false 1 (.t 115)) []), .tick 2, .act (some 117) [] (.call 33 [.t 114, .t 116]) [], .set 118 (.op (.fa 2 (.t 10)) []), .tick 2, .act (some 120) [] (.call 33 [.t 117, .t
  119]) [(119, .op (.load false 1 (.t 118)) [])], .set 3 (.x (.t 120)), .tick 1] [(3, 2, [.c (.s (.func 32)), .t 111, .t 113], 4, 1, [.t 10]), (3, 2, [.c (.s (.func 32)), .t 111,
  .t 113], 5, 1, [.t 115]), (3, 2, [.c (.s (.func 32)), .t 111, .t 113], 7, 1, [.t 10]), (6, 2, [.c (.s (.func 33)), .t 114, .t 116], 7, 1, [.t 10]), (3, 2, [.c (.s (.func 32)), .t
  111, .t 113], 8, 1, [.t 118]), (6, 2, [.c (.s (.func 33)), .t 114, .t 116], 8, 1, [.t 118])] []) (.seq (.reg [.tick 2] false) (.cond (.op (.load false 1 (.t 121)) [(121, .op (.fa
  3 (.t 10)) [])]) (.reg [.tick 1, .act (some 124) [] (.call 32 [.t 123, .c (.s (.int .i64 1))]) [(123, .x (.t 3))], .set 3 (.x (.t 124)), .tick 1] false) (.reg [.tick 1, .act
  (some 126) [] (.call 32 [.t 125, .c (.s (.int .i64 0))]) [(125, .x (.t 3))], .set 3 (.x (.t 126)), .tick 1] false)))))) (.reg [.set 9 (.op (.bin .add .num (.t 104) (.c (.s (.int
  .i64 1)))) [(104, .x (.t 9))]), .tick 3] false)))))) (.seq (.reg [.set 2 (.x (.t 3)), .tick 2] false) .ret)))))
theorem f11 : sF EE 11 [12, 17, 19, 20, 21, 22, 23, 26, 27, 29, 32, 40, 42, 43, 44, 45, 46, 50, 51, 52, 53, 54, 62, 47, 48, 65, 70, 72, 73, 74, 75, 76, 79, 80, 82, 85, 92, 77, 78,
  24, 25, 94, 95, 96, 97, 99, 100, 101, 102, 103, 106, 107, 109, 112, 119, 121, 122, 123, 125, 104, 105, 127] = some ⟨128, [.t 2], c11⟩ := by kernel_rfl
/- 12 lineage/lineageref19.Same -/
def c12 : SC := .seq (.reg [.act (some 2) [] (.box 25 (.t 0)) [], .act (some 3) [] (.box 25 (.t 1)) [], .set 4 (.x (.c (.s (.bool false)))), .tick 1] false) (.seq (.seq (.reg
  [.tick 23] false) (.cond (.pick (.pick (.op (.bin .neq .num (.t 8) (.t 10)) [(8, .op (.load false 1 (.t 7)) [(7, .op (.fa 2 (.t 2)) [])]), (10, .op (.load false 1 (.t 9)) [(9,
  .op (.fa 2 (.t 3)) [])])]) (.x (.c (.s (.bool true)))) (.op (.bin .neq .num (.t 15) (.t 18)) [(15, .op (.len (.sl 0) (.t 14)) [(14, .op (.load false 1 (.t 13)) [(13, .op (.fa 0
  (.t 2)) [])])]), (18, .op (.len (.sl 0) (.t 17)) [(17, .op (.load false 1 (.t 16)) [(16, .op (.fa 0 (.t 3)) [])])])])) (.x (.c (.s (.bool true)))) (.op (.bin .neq .num (.t 24)
  (.t 27)) [(24, .op (.len (.sl 0) (.t 23)) [(23, .op (.load false 1 (.t 22)) [(22, .op (.fa 1 (.t 2)) [])])]), (27, .op (.len (.sl 0) (.t 26)) [(26, .op (.load false 1 (.t 25))
  [(25, .op (.fa 1 (.t 3)) [])])])])) (.seq (.reg [.set 4 (.x (.c (.s (.bool false)))), .tick 1] false) .ret) .skip)) (.seq (.seq (.reg [.set 5 (.x (.c (.s (.int .i64 0)))), .tick
  1] false) (.block 0 (.loop (.seq (.seq (.reg [.tick 5] false) (.cond (.op (.bin .lss .num (.t 30) (.t 33)) [(30, .x (.t 5)), (33, .op (.len (.sl 0) (.t 32)) [(32, .op (.load
  false 1 (.t 31)) [(31, .op (.fa 0 (.t 2)) [])])])]) .skip (.exit 0))) (.seq (.block 1 (.seq (.reg [.tick 10, .act (some 47) [] (.call 35 [.t 41, .t 46]) [(41, .op (.load true 5
  (.t 40)) [(40, .op (.ia (.sl 5) (.t 38) (.t 39)) [(38, .op (.load false 1 (.t 37)) [(37, .op (.fa 0 (.t 2)) [])]), (39, .x (.t 5))])]), (46, .op (.load true 5 (.t 45)) [(45, .op
  (.ia (.sl 5) (.t 43) (.t 44)) [(43, .op (.load false 1 (.t 42)) [(42, .op (.fa 0 (.t 3)) [])]), (44, .x (.t 5))])])], .tick 1] true) (.cond (.op (.un .not (.t 47)) []) (.seq
  (.reg [.set 4 (.x (.c (.s (.bool false)))), .tick 1] false) .ret) .skip))) (.reg [.set 5 (.op (.bin .add .num (.t 35) (.c (.s (.int .i64 1)))) [(35, .x (.t 5))]), .tick 3]
  false)))))) (.seq (.seq (.reg [.set 6 (.x (.c (.s (.int .i64 0)))), .tick 1] false) (.block 2 (.loop (.seq (.seq (.reg [.tick 5] false) (.cond (.op (.bin .lss .num (.t 49) (.t
  52)) [(49, .x (.t 6)), (52, .op (.len (.sl 0) (.t 51)) [(51, .op (.load false 1 (.t 50)) [(50, .op (.fa 1 (.t 2)) [])])])]) .skip (.exit 2))) (.seq (.block 3 (.seq (.reg [.tick
  11] true) (.cond (.op (.bin .neq (.flat [1, 2, 2, 0]) (.t 60) (.t 65)) [(60, .op (.load true 4 (.t 59)) [(59, .op (.ia (.sl 4) (.t 57) (.t 58)) [(57, .op (.load false 1 (.t 56))
  [(56, .op (.fa 1 (.t 2)) [])]), (58, .x (.t 6))])]), (65, .op (.load true 4 (.t 64)) [(64, .op (.ia (.sl 4) (.t 62) (.t 63)) [(62, .op (.load false 1 (.t 61)) [(61, .op (.fa 1
  (.t 3)) [])]), (63, .x (.t 6))])])]) (.seq (.reg [.set 4 (.x (.c (.s (.bool false)))), .tick 1] false) .ret) .skip))) (.reg [.set 6 (.op (.bin .add .num (.t 54) (.c (.s (.int
  .i64 1)))) [(54, .x (.t 6))]), .tick 3] false)))))) (.seq (.reg [.set 4 (.x (.c (.s (.bool true)))), .tick 1] false) .ret))))
theorem f12 : sF EE 12 [7, 8, 9, 10, 11, 12, 13, 14, 15, 16, 17, 18, 19, 20, 21, 22, 23, 24, 25, 26, 27, 28, 29, 30, 31, 32, 33, 34, 37, 38, 39, 40, 41, 42, 43, 44, 45, 46, 48, 35,
  36, 49, 50, 51, 52, 53, 56, 57, 58, 59, 60, 61, 62, 63, 64, 65, 66, 54, 55] = some ⟨67, [.t 4], c12⟩ := by kernel_rfl
/- 13 lineage/catalog.AddTable -/
def c13 : SC := .seq (.reg [.act (some 4) [] (.box 25 (.t 0)) [], .act (some 8) [] (.alloc 25 [.nils, .nils, .int .i64 0]) [], .set 9 (.x (.c (.s (.int .i64 0)))), .tick 1] false)
  (.seq (.seq (.reg [.tick 1, .act (some 15) [] (.call 16 [.t 14]) [(14, .op (.load true 3 (.t 4)) [])], .need [] (.op (.un .not (.t 15)) []), .tick 3, .act (some 19) [(.op (.un
  .not (.t 15)) [], false)] (.call 36 [.t 18]) [(18, .x (.t 1))], .need [] (.pick (.op (.un .not (.t 15)) []) (.x (.c (.s (.bool true)))) (.op (.un .not (.t 19)) [])), .tick 4,
  .act (some 24) [(.pick (.op (.un .not (.t 15)) []) (.x (.c (.s (.bool true)))) (.op (.un .not (.t 19)) []), false)] (.call 37 [.t 23]) [(23, .x (.t 2))], .need [] (.pick (.pick
  (.op (.un .not (.t 15)) []) (.x (.c (.s (.bool true)))) (.op (.un .not (.t 19)) [])) (.x (.c (.s (.bool true)))) (.op (.un .not (.t 24)) [])), .tick 4, .act (some 29) [(.pick
  (.pick (.op (.un .not (.t 15)) []) (.x (.c (.s (.bool true)))) (.op (.un .not (.t 19)) [])) (.x (.c (.s (.bool true)))) (.op (.un .not (.t 24)) []), false)] (.call 38 [.t 28])
  [(28, .x (.t 3))], .tick 2] false) (.cond (.pick (.pick (.pick (.op (.un .not (.t 15)) []) (.x (.c (.s (.bool true)))) (.op (.un .not (.t 19)) [])) (.x (.c (.s (.bool true))))
  (.op (.un .not (.t 24)) [])) (.x (.c (.s (.bool true)))) (.op (.un .not (.t 29)) [])) (.seq (.reg [.tick 1, .act none [] (.store 3 (.t 8) (.t 32)) [(32, .op (.build [.nils,
  .nils, .int .i64 0] []) [])], .set 9 (.x (.c (.s (.int .i64 1)))), .tick 1] false) .ret) .skip)) (.seq (.reg [.tick 2, .act (some 36) [] (.call 39 [.t 34, .t 35]) [(34, .x (.t
  2)), (35, .x (.t 3))], .set 10 (.op (.ext (.t 33) 0) [(33, .x (.t 36))]), .set 11 (.op (.ext (.t 33) 1) [(33, .x (.t 36))]), .tick 5] false) (.seq (.seq (.reg [.tick 2] false)
  (.cond (.op (.un .not (.t 39)) [(39, .x (.t 11))]) (.seq (.reg [.tick 1, .act none [] (.store 3 (.t 8) (.t 41)) [(41, .op (.build [.nils, .nils, .int .i64 0] []) [])], .set 9 (.x
  (.c (.s (.int .i64 4)))), .tick 1] false) .ret) .skip)) (.seq (.seq (.reg [.tick 2, .act (some 44) [] (.call 40 [.t 42, .t 43]) [(42, .op (.load true 3 (.t 4)) []), (43, .x (.t
  1))], .set 12 (.x (.t 44)), .tick 1] false) (.seq (.reg [.tick 2] false) (.cond (.op (.bin .neq .num (.t 45) (.c (.s (.int .i64 0)))) [(45, .x (.t 12))]) (.seq (.reg [.tick 2,
  .act none [] (.store 3 (.t 8) (.t 47)) [(47, .op (.build [.nils, .nils, .int .i64 0] []) [])], .set 9 (.x (.t 12)), .tick 1] false) .ret) .skip))) (.seq (.reg [.tick 1, .act
  (some 50) [] (.call 41 [.t 49]) [(49, .op (.load true 3 (.t 4)) [])], .act (some 13) [] (.alloc 25 [.nils, .nils, .int .i64 0]) [], .act none [] (.store 3 (.t 13) (.t 50)) []]
  false) (.seq (.reg [.tick 4, .act none [] (.store 1 (.t 54) (.t 53)) [(54, .op (.fa 2 (.t 13)) []), (53, .op (.bin .add .num (.t 52) (.c (.s (.int .i64 1)))) [(52, .op (.load
  false 1 (.t 51)) [(51, .op (.fa 2 (.t 13)) [])])])]] false) (.seq (.regD [.set 56 (.op (.load false 1 (.t 55)) [(55, .op (.fa 0 (.t 13)) [])]), .set 58 (.op (.load false 1 (.t
  57)) [(57, .op (.fa 2 (.t 13)) [])]), .tick 6, .act (some 61) [] (.call 42 [.t 60]) [(60, .x (.t 2))], .tick 2, .act (some 64) [] (.rows 5 [.int .i64 0, .str [], .nils, .nils,
  .nils] 1 [(0, .t 63)]) [(63, .op (.build [.int .i64 0, .str [], .nils, .nils, .nils] [(0, 1, .t 58), (1, 1, .t 59), (2, 1, .t 61), (3, 1, .t 62)]) [(59, .x (.t 1)), (62, .x (.t
  10))])], .act (some 65) [] (.app 47 5 (.t 56) (.t 64)) [], .tick 1, .act none [] (.store 1 (.t 66) (.t 65)) [(66, .op (.fa 0 (.t 13)) [])]] [] [2]) (.seq (.reg [.tick 1, .act
  none [] (.store 3 (.t 8) (.t 67)) [(67, .op (.load true 3 (.t 13)) [])], .set 9 (.x (.c (.s (.int .i64 0)))), .tick 1] false) .ret))))))))
theorem f13 : sF EE 13 [14, 16, 17, 18, 20, 21, 22, 23, 25, 26, 27, 28, 30, 31, 32, 34, 35, 33, 37, 38, 39, 40, 41, 42, 43, 45, 46, 47, 48, 49, 51, 52, 53, 54, 55, 57, 59, 60, 62,
  63, 66, 67] = some ⟨68, [.cell true 3 8, .t 9], c13⟩ := by kernel_rfl
/- 14 lineage/catalog.Describe -/
def c14 : SC := .seq (.reg [.act (some 1) [] (.box 25 (.t 0)) [], .set 2 (.x (.c (.s .nils))), .tick 1] false) (.seq (.seq (.reg [.tick 1, .act (some 15) [] (.call 16 [.t 14])
  [(14, .op (.load true 3 (.t 1)) [])], .tick 1] false) (.cond (.op (.un .not (.t 15)) []) (.seq (.reg [.set 2 (.x (.c (.s .nils))), .tick 1] false) .ret) .skip)) (.seq (.reg [.set
  3 (.x (.c (.s .nils))), .tick 1] false) (.seq (.seq (.reg [.set 18 (.op (.load false 1 (.t 17)) [(17, .op (.fa 0 (.t 1)) [])]), .set 19 (.op (.len (.sl 0) (.t 18)) []), .set 20
  (.x (.c (.s (.int .i64 0)))), .tick 4] false) (.block 0 (.loop (.seq (.reg [.tick 1] false) (.seq (.cond (.op (.bin .lss .num (.t 20) (.t 19)) []) .skip (.exit 0)) (.seq (.block
  1 (.seq (.reg [.set 23 (.op (.load true 5 (.t 22)) [(22, .op (.ia (.sl 5) (.t 18) (.t 20)) [])]), .tick 2, .act (some 5) [] (.alloc 47 [.int .i64 0, .str [], .nils, .nils,
  .nils]) [], .act none [] (.store 5 (.t 5) (.t 23)) []] false) (.seq (.reg [.set 6 (.x (.c (.s .nils))), .tick 1] false) (.seq (.seq (.reg [.set 25 (.op (.load false 1 (.t 24))
  [(24, .op (.fa 2 (.t 5)) [])]), .set 26 (.op (.len (.sl 0) (.t 25)) []), .set 27 (.x (.c (.s (.int .i64 0)))), .tick 4] false) (.block 2 (.loop (.seq (.reg [.tick 1] false) (.seq
  (.cond (.op (.bin .lss .num (.t 27) (.t 26)) []) .skip (.exit 2)) (.seq (.block 3 (.seq (.reg [.set 30 (.op (.load true 2 (.t 29)) [(29, .op (.ia (.sl 2) (.t 25) (.t 27)) [])]),
  .tick 2, .act (some 8) [] (.alloc 40 [.str [], .int .i64 0]) [], .act none [] (.store 2 (.t 8) (.t 30)) []] false) (.reg [.set 34 (.op (.bin .add .num (.t 33) (.c (.s (.str
  [32])))) [(33, .op (.load false 1 (.t 32)) [(32, .op (.fa 0 (.t 8)) [])])]), .tick 6, .act (some 37) [] (.call 43 [.t 36]) [(36, .op (.load false 1 (.t 35)) [(35, .op (.fa 1 (.t
  8)) [])])], .tick 1, .act (some 39) [] (.rows 1 [.str []] 1 [(0, .t 38)]) [(38, .op (.bin .add .num (.t 34) (.t 37)) [])], .act (some 40) [] (.app 9 1 (.t 31) (.t 39)) [(31, .x
  (.t 6))], .set 6 (.x (.t 40)), .tick 1] true))) (.reg [.set 27 (.op (.bin .add .num (.t 27) (.c (.s (.int .i64 1)))) []), .tick 2] false))))))) (.seq (.seq (.reg [.tick 4] false)
  (.cond (.op (.bin .gtr .num (.t 44) (.c (.s (.int .i64 0)))) [(44, .op (.len (.sl 0) (.t 43)) [(43, .op (.load false 1 (.t 42)) [(42, .op (.fa 3 (.t 5)) [])])])]) (.reg [.tick 5,
  .act (some 51) [] (.call 44 [.t 48, .t 50]) [(48, .op (.load false 1 (.t 47)) [(47, .op (.fa 2 (.t 5)) [])]), (50, .op (.load false 1 (.t 49)) [(49, .op (.fa 3 (.t 5)) [])])],
  .tick 1, .act (some 53) [] (.rows 1 [.str []] 1 [(0, .t 52)]) [(52, .op (.bin .add .num (.c (.s (.str [80, 82, 73, 77, 65, 82, 89, 32, 75, 69, 89, 32]))) (.t 51)) [])], .act
  (some 54) [] (.app 9 1 (.t 46) (.t 53)) [(46, .x (.t 6))], .set 6 (.x (.t 54)), .tick 1] false) .skip)) (.seq (.regD [.set 59 (.op (.bin .add .num (.t 58) (.c (.s (.str [32,
  40])))) [(58, .op (.bin .add .num (.c (.s (.str [67, 82, 69, 65, 84, 69, 32, 84, 65, 66, 76, 69, 32]))) (.t 57)) [(57, .op (.load false 1 (.t 56)) [(56, .op (.fa 1 (.t 5))
  [])])])]), .tick 6, .act (some 61) [] (.call 45 [.t 60, .c (.s (.str [44, 32]))]) [(60, .x (.t 6))], .tick 2, .act (some 64) [] (.rows 1 [.str []] 1 [(0, .t 63)]) [(63, .op (.bin
  .add .num (.t 62) (.c (.s (.str [41])))) [(62, .op (.bin .add .num (.t 59) (.t 61)) [])])], .act (some 65) [] (.app 9 1 (.t 55) (.t 64)) [(55, .x (.t 3))], .set 3 (.x (.t 65)),
  .tick 1] [] [6]) (.seq (.reg [.set 67 (.op (.load false 1 (.t 66)) [(66, .op (.fa 4 (.t 5)) [])]), .set 68 (.op (.len (.sl 0) (.t 67)) []), .set 69 (.x (.c (.s (.int .i64 0)))),
  .tick 4] false) (.block 4 (.loop (.seq (.reg [.tick 1] false) (.seq (.cond (.op (.bin .lss .num (.t 69) (.t 68)) []) .skip (.exit 4)) (.seq (.block 5 (.seq (.reg [.set 72 (.op
  (.load true 3 (.t 71)) [(71, .op (.ia (.sl 3) (.t 67) (.t 69)) [])]), .tick 2, .act (some 10) [] (.alloc 51 [.int .i64 0, .str [], .nils]) [], .act none [] (.store 3 (.t 10) (.t
  72)) []] false) (.reg [.set 81 (.op (.bin .add .num (.t 80) (.c (.s (.str [32])))) [(80, .op (.bin .add .num (.t 77) (.t 79)) [(77, .op (.bin .add .num (.t 76) (.c (.s (.str [32,
  79, 78, 32])))) [(76, .op (.bin .add .num (.c (.s (.str [67, 82, 69, 65, 84, 69, 32, 73, 78, 68, 69, 88, 32]))) (.t 75)) [(75, .op (.load false 1 (.t 74)) [(74, .op (.fa 1 (.t
  10)) [])])])]), (79, .op (.load false 1 (.t 78)) [(78, .op (.fa 1 (.t 5)) [])])])]), .tick 13, .act (some 86) [] (.call 44 [.t 83, .t 85]) [(83, .op (.load false 1 (.t 82)) [(82,
  .op (.fa 2 (.t 5)) [])]), (85, .op (.load false 1 (.t 84)) [(84, .op (.fa 2 (.t 10)) [])])], .tick 1, .act (some 88) [] (.rows 1 [.str []] 1 [(0, .t 87)]) [(87, .op (.bin .add
  .num (.t 81) (.t 86)) [])], .act (some 89) [] (.app 9 1 (.t 73) (.t 88)) [(73, .x (.t 3))], .set 3 (.x (.t 89)), .tick 1] true))) (.reg [.set 69 (.op (.bin .add .num (.t 69) (.c
  (.s (.int .i64 1)))) []), .tick 2] false))))))))))))) (.reg [.set 20 (.op (.bin .add .num (.t 20) (.c (.s (.int .i64 1)))) []), .tick 2] false))))))) (.seq (.seq (.reg [.set 93
  (.op (.load false 1 (.t 92)) [(92, .op (.fa 1 (.t 1)) [])]), .set 94 (.op (.len (.sl 0) (.t 93)) []), .set 95 (.x (.c (.s (.int .i64 0)))), .tick 4] false) (.block 6 (.loop (.seq
  (.reg [.tick 1] false) (.seq (.cond (.op (.bin .lss .num (.t 95) (.t 94)) []) .skip (.exit 6)) (.seq (.block 7 (.seq (.reg [.set 98 (.op (.load true 4 (.t 97)) [(97, .op (.ia
  (.sl 4) (.t 93) (.t 95)) [])]), .tick 2, .act (some 12) [] (.alloc 53 [.int .i64 0, .str [], .str [], .bool false]) [], .act none [] (.store 4 (.t 12) (.t 98)) []] false) (.seq
  (.reg [.set 13 (.x (.c (.s (.str [86, 73, 69, 87, 32])))), .tick 1] false) (.seq (.seq (.reg [.tick 2] false) (.cond (.op (.load false 1 (.t 99)) [(99, .op (.fa 3 (.t 12)) [])])
  (.reg [.set 13 (.x (.c (.s (.str [77, 65, 84, 69, 82, 73, 65, 76, 73, 90, 69, 68, 32, 86, 73, 69, 87, 32])))), .tick 1] false) .skip)) (.reg [.tick 10, .act (some 111) [] (.rows
  1 [.str []] 1 [(0, .t 110)]) [(110, .op (.bin .add .num (.t 107) (.t 109)) [(107, .op (.bin .add .num (.t 106) (.c (.s (.str [32, 65, 83, 32])))) [(106, .op (.bin .add .num (.t
  103) (.t 105)) [(103, .op (.bin .add .num (.c (.s (.str [67, 82, 69, 65, 84, 69, 32]))) (.t 102)) [(102, .x (.t 13))]), (105, .op (.load false 1 (.t 104)) [(104, .op (.fa 1 (.t
  12)) [])])])]), (109, .op (.load false 1 (.t 108)) [(108, .op (.fa 2 (.t 12)) [])])])], .act (some 112) [] (.app 9 1 (.t 101) (.t 111)) [(101, .x (.t 3))], .set 3 (.x (.t 112)),
  .tick 1] false))))) (.reg [.set 95 (.op (.bin .add .num (.t 95) (.c (.s (.int .i64 1)))) []), .tick 2] false))))))) (.seq (.reg [.set 2 (.x (.t 3)), .tick 2] false) .ret)))))
theorem f14 : sF EE 14 [14, 16, 17, 21, 22, 24, 28, 29, 31, 32, 33, 35, 36, 38, 41, 42, 43, 44, 45, 46, 47, 48, 49, 50, 52, 55, 56, 57, 58, 60, 62, 63, 66, 70, 71, 73, 74, 75, 76,
  77, 78, 79, 80, 82, 83, 84, 85, 87, 90, 91, 92, 96, 97, 99, 100, 101, 102, 103, 104, 105, 106, 107, 108, 109, 110, 113, 114] = some ⟨115, [.t 2], c14⟩ := by kernel_rfl
/- 15 lineage/catalog.Table -/
def c15 : SC := .seq (.reg [.act (some 2) [] (.box 25 (.t 0)) [], .act (some 3) [] (.box 9 (.t 1)) [], .act (some 4) [] (.alloc 47 [.int .i64 0, .str [], .nils, .nils, .nils]) [],
  .set 5 (.x (.c (.s (.bool false)))), .tick 1] false) (.seq (.reg [.tick 2, .act (some 8) [] (.call 46 [.t 6, .t 7]) [(6, .op (.load true 3 (.t 2)) []), (7, .op (.mkf 47 [] [.t
  3]) [])], .need [] (.op (.ext (.t 8) 1) []), .tick 2, .act none [] (.store 5 (.t 4) (.t 9)) [(9, .op (.ext (.t 8) 0) [])], .set 5 (.op (.ext (.t 8) 1) []), .tick 1] false) .ret)
theorem f15 : sF EE 15 [6, 7, 9, 10] = some ⟨11, [.cell true 5 4, .t 5], c15⟩ := by kernel_rfl
/- 16 lineage/catalog.Valid -/
def c16 : SC := .seq (.reg [.act (some 1) [] (.box 25 (.t 0)) [], .set 2 (.x (.c (.s (.bool false)))), .tick 1] false) (.seq (.reg [.tick 1, .act (some 7) [] (.call 48 [.t 6]) [(6,
  .op (.load true 3 (.t 1)) [])], .set 3 (.op (.ext (.t 5) 0) [(5, .x (.t 7))]), .set 4 (.op (.ext (.t 5) 1) [(5, .x (.t 7))]), .tick 5] false) (.seq (.seq (.reg [.set 23 (.pick
  (.pick (.op (.bin .gtr .num (.t 11) (.c (.s (.int .i64 64)))) [(11, .op (.len (.sl 0) (.t 10)) [(10, .x (.t 3))])]) (.x (.c (.s (.bool true)))) (.op (.bin .lss .num (.t 15) (.c
  (.s (.int .i64 0)))) [(15, .op (.load false 1 (.t 14)) [(14, .op (.fa 2 (.t 1)) [])])])) (.x (.c (.s (.bool true)))) (.op (.bin .gtr .num (.t 20) (.c (.s (.int .i64
  2147483647)))) [(20, .op (.load false 1 (.t 19)) [(19, .op (.fa 2 (.t 1)) [])])])), .tick 15, .act (some 25) [(.x (.t 23), false)] (.call 38 [.t 24]) [(24, .x (.t 3))], .need []
  (.pick (.x (.t 23)) (.x (.c (.s (.bool true)))) (.op (.un .not (.t 25)) [])), .need [(.x (.t 23), false)] (.op (.un .not (.t 25)) []), .tick 4, .act (some 30) [(.pick (.x (.t
  23)) (.x (.c (.s (.bool true)))) (.op (.un .not (.t 25)) []), false)] (.call 49 [.t 29]) [(29, .x (.t 4))], .tick 2] false) (.cond (.pick (.pick (.x (.t 23)) (.x (.c (.s (.bool
  true)))) (.op (.un .not (.t 25)) [])) (.x (.c (.s (.bool true)))) (.op (.un .not (.t 30)) [])) (.seq (.reg [.set 2 (.x (.c (.s (.bool false)))), .tick 1] false) .ret) .skip))
  (.seq (.seq (.reg [.tick 1, .act (some 34) [] (.call 50 [.t 33, .c (.s (.func 51))]) [(33, .x (.t 3))], .tick 3, .act (some 38) [(.x (.t 34), false)] (.call 52 [.t 36, .t 37])
  [(36, .x (.t 4)), (37, .op (.mkf 53 [] [.t 1]) [])], .tick 1] false) (.cond (.pick (.x (.t 34)) (.x (.c (.s (.bool true)))) (.x (.t 38))) (.seq (.reg [.set 2 (.x (.c (.s (.bool
  false)))), .tick 1] false) .ret) .skip)) (.seq (.seq (.reg [.tick 2, .act (some 42) [] (.call 54 [.t 41, .c (.s (.func 55))]) [(41, .op (.load false 1 (.t 40)) [(40, .op (.fa 0
  (.t 1)) [])])], .tick 3, .act (some 46) [(.x (.t 42), false)] (.call 57 [.t 45, .c (.s (.func 58))]) [(45, .op (.load false 1 (.t 44)) [(44, .op (.fa 1 (.t 1)) [])])], .tick 1]
  false) (.cond (.pick (.x (.t 42)) (.x (.c (.s (.bool true)))) (.x (.t 46))) (.seq (.reg [.set 2 (.x (.c (.s (.bool false)))), .tick 1] false) .ret) .skip)) (.seq (.reg [.tick 2,
  .act (some 50) [] (.call 60 [.t 49, .c (.s (.func 61))]) [(49, .op (.load false 1 (.t 48)) [(48, .op (.fa 0 (.t 1)) [])])], .tick 3, .act (some 54) [(.x (.t 50), true)] (.call 62
  [.t 53, .c (.s (.func 63))]) [(53, .op (.load false 1 (.t 52)) [(52, .op (.fa 1 (.t 1)) [])])], .set 2 (.pick (.x (.t 50)) (.x (.t 54)) (.x (.c (.s (.bool false))))), .tick 2]
  false) .ret)))))
theorem f16 : sF EE 16 [6, 5, 8, 9, 10, 11, 12, 13, 14, 15, 16, 17, 18, 19, 20, 21, 22, 24, 26, 27, 28, 29, 31, 32, 33, 35, 36, 37, 39, 40, 41, 43, 44, 45, 47, 48, 49, 51, 52, 53,
  55] = some ⟨56, [.t 2], c16⟩ := by kernel_rfl
/- 17 lineage/codec.AppendUint -/
def c17 : SC := .seq (.reg [.set 4 (.x (.c (.s .nils))), .tick 1] false) (.seq (.block 0 (.loop (.seq (.seq (.reg [.tick 2] false) (.cond (.op (.bin .geq .num (.t 5) (.c (.s (.int
  (.u64) 128)))) [(5, .x (.t 1))]) .skip (.exit 0))) (.block 1 (.seq (.reg [.tick 4, .act (some 11) [] (.rows 1 [.int .u8 0] 1 [(0, .t 10)]) [(10, .op (.bin .or .num (.t 9) (.c (.s
  (.int .u8 128)))) [(9, .op (.conv (.int .u8) (.t 8)) [(8, .x (.t 1))])])], .act (some 12) [] (.app 5 1 (.t 7) (.t 11)) [(7, .x (.t 0))], .set 0 (.x (.t 12)), .tick 1] false)
  (.reg [.set 1 (.op (.bin .shr .num (.t 13) (.c (.s (.int (.u64) 7)))) [(13, .x (.t 1))]), .tick 3] false)))))) (.seq (.reg [.tick 3, .act (some 18) [] (.rows 1 [.int .u8 0] 1
  [(0, .t 17)]) [(17, .op (.conv (.int .u8) (.t 16)) [(16, .x (.t 1))])], .act (some 19) [] (.app 5 1 (.t 15) (.t 18)) [(15, .x (.t 0))], .set 4 (.x (.t 19)), .tick 1] false)
  .ret))
theorem f17 : sF EE 17 [5, 6, 7, 8, 9, 10, 13, 14, 15, 16, 17] = some ⟨20, [.t 4], c17⟩ := by kernel_rfl
/- 18 lineage/codec.AppendString -/
def c18 : SC := .seq (.reg [.set 4 (.x (.c (.s .nils))), .tick 1] false) (.seq (.reg [.tick 4, .act (some 9) [] (.call 17 [.t 5, .t 8]) [(5, .x (.t 0)), (8, .op (.conv (.int
  (.u64)) (.t 7)) [(7, .op (.len .str (.t 6)) [(6, .x (.t 1))])])], .tick 1, .act (some 11) [] (.app 5 1 (.t 9) (.t 10)) [(10, .x (.t 1))], .set 4 (.x (.t 11)), .tick 1] false)
  .ret)
theorem f18 : sF EE 18 [5, 6, 7, 8, 10] = some ⟨12, [.t 4], c18⟩ := by kernel_rfl
/- 19 lineage/catalog.putInts -/
def c19 : SC := .seq (.reg [.set 4 (.x (.c (.s .nils))), .tick 1] false) (.seq (.reg [.tick 4, .act (some 11) [] (.call 17 [.t 7, .t 10]) [(7, .x (.t 0)), (10, .op (.conv (.int
  (.u64)) (.t 9)) [(9, .op (.len (.sl 0) (.t 8)) [(8, .x (.t 1))])])], .set 0 (.x (.t 11)), .tick 1] false) (.seq (.seq (.reg [.set 12 (.x (.t 1)), .set 13 (.op (.len (.sl 0) (.t
  12)) []), .set 14 (.x (.c (.s (.int .i64 0)))), .tick 3] false) (.block 0 (.loop (.seq (.reg [.tick 1] false) (.seq (.cond (.op (.bin .lss .num (.t 14) (.t 13)) []) .skip (.exit
  0)) (.seq (.block 1 (.seq (.reg [.set 6 (.op (.load false 1 (.t 16)) [(16, .op (.ia (.sl 1) (.t 12) (.t 14)) [])]), .tick 3] false) (.reg [.tick 3, .act (some 21) [] (.call 17
  [.t 18, .t 20]) [(18, .x (.t 0)), (20, .op (.conv (.int (.u64)) (.t 19)) [(19, .x (.t 6))])], .set 0 (.x (.t 21)), .tick 1] false))) (.reg [.set 14 (.op (.bin .add .num (.t 14)
  (.c (.s (.int .i64 1)))) []), .tick 2] false))))))) (.seq (.reg [.set 4 (.x (.t 0)), .tick 2] false) .ret)))
theorem f19 : sF EE 19 [7, 8, 9, 10, 15, 16, 17, 18, 19, 20, 22, 23] = some ⟨24, [.t 4], c19⟩ := by kernel_rfl
/- 20 lineage/lineageref19.Names -/
def c20 : SC := .seq (.reg [.act (some 1) [] (.box 25 (.t 0)) [], .set 2 (.x (.c (.s .nils))), .tick 1] false) (.seq (.reg [.act (some 7) [] (.rows 1 [.str []] 0 []) [], .set 3 (.x
  (.t 7)), .tick 1] false) (.seq (.seq (.reg [.set 4 (.x (.c (.s (.int .i64 0)))), .tick 1] false) (.block 0 (.loop (.seq (.seq (.reg [.tick 5] false) (.cond (.op (.bin .lss .num
  (.t 8) (.t 11)) [(8, .x (.t 4)), (11, .op (.len (.sl 0) (.t 10)) [(10, .op (.load false 1 (.t 9)) [(9, .op (.fa 0 (.t 1)) [])])])]) .skip (.exit 0))) (.seq (.block 1 (.seq (.reg
  [.tick 7, .act (some 22) [] (.rows 1 [.str []] 1 [(0, .t 21)]) [(21, .op (.load false 1 (.t 20)) [(20, .op (.fa 1 (.t 19)) [(19, .op (.ia (.sl 5) (.t 17) (.t 18)) [(17, .op
  (.load false 1 (.t 16)) [(16, .op (.fa 0 (.t 1)) [])]), (18, .x (.t 4))])])])], .act (some 23) [] (.app 9 1 (.t 15) (.t 22)) [(15, .x (.t 3))], .set 3 (.x (.t 23)), .tick 1]
  false) (.seq (.reg [.set 5 (.x (.c (.s (.int .i64 0)))), .tick 1] false) (.block 2 (.loop (.seq (.seq (.reg [.tick 9] false) (.cond (.op (.bin .lss .num (.t 24) (.t 31)) [(24, .x
  (.t 5)), (31, .op (.len (.sl 0) (.t 30)) [(30, .op (.load false 1 (.t 29)) [(29, .op (.fa 4 (.t 28)) [(28, .op (.ia (.sl 5) (.t 26) (.t 27)) [(26, .op (.load false 1 (.t 25))
  [(25, .op (.fa 0 (.t 1)) [])]), (27, .x (.t 4))])])])])]) .skip (.exit 2))) (.seq (.block 3 (.reg [.tick 11, .act (some 46) [] (.rows 1 [.str []] 1 [(0, .t 45)]) [(45, .op (.load
  false 1 (.t 44)) [(44, .op (.fa 1 (.t 43)) [(43, .op (.ia (.sl 3) (.t 41) (.t 42)) [(41, .op (.load false 1 (.t 40)) [(40, .op (.fa 4 (.t 39)) [(39, .op (.ia (.sl 5) (.t 37) (.t
  38)) [(37, .op (.load false 1 (.t 36)) [(36, .op (.fa 0 (.t 1)) [])]), (38, .x (.t 4))])])]), (42, .x (.t 5))])])])], .act (some 47) [] (.app 9 1 (.t 35) (.t 46)) [(35, .x (.t
  3))], .set 3 (.x (.t 47)), .tick 1] false)) (.reg [.set 5 (.op (.bin .add .num (.t 33) (.c (.s (.int .i64 1)))) [(33, .x (.t 5))]), .tick 3] false)))))))) (.reg [.set 4 (.op
  (.bin .add .num (.t 13) (.c (.s (.int .i64 1)))) [(13, .x (.t 4))]), .tick 3] false)))))) (.seq (.seq (.reg [.set 6 (.x (.c (.s (.int .i64 0)))), .tick 1] false) (.block 4 (.loop
  (.seq (.seq (.reg [.tick 5] false) (.cond (.op (.bin .lss .num (.t 48) (.t 51)) [(48, .x (.t 6)), (51, .op (.len (.sl 0) (.t 50)) [(50, .op (.load false 1 (.t 49)) [(49, .op (.fa
  1 (.t 1)) [])])])]) .skip (.exit 4))) (.seq (.block 5 (.reg [.tick 7, .act (some 62) [] (.rows 1 [.str []] 1 [(0, .t 61)]) [(61, .op (.load false 1 (.t 60)) [(60, .op (.fa 1 (.t
  59)) [(59, .op (.ia (.sl 4) (.t 57) (.t 58)) [(57, .op (.load false 1 (.t 56)) [(56, .op (.fa 1 (.t 1)) [])]), (58, .x (.t 6))])])])], .act (some 63) [] (.app 9 1 (.t 55) (.t
  62)) [(55, .x (.t 3))], .set 3 (.x (.t 63)), .tick 1] false)) (.reg [.set 6 (.op (.bin .add .num (.t 53) (.c (.s (.int .i64 1)))) [(53, .x (.t 6))]), .tick 3] false)))))) (.seq
  (.reg [.set 2 (.x (.t 3)), .tick 2] false) .ret))))
theorem f20 : sF EE 20 [8, 9, 10, 11, 12, 15, 16, 17, 18, 19, 20, 21, 24, 25, 26, 27, 28, 29, 30, 31, 32, 35, 36, 37, 38, 39, 40, 41, 42, 43, 44, 45, 33, 34, 13, 14, 48, 49, 50,
  51, 52, 55, 56, 57, 58, 59, 60, 61, 53, 54, 64] = some ⟨65, [.t 2], c20⟩ := by kernel_rfl
/- 21 lineage/lineageref19.IDs -/
def c21 : SC := .seq (.reg [.act (some 1) [] (.box 25 (.t 0)) [], .set 2 (.x (.c (.s .nils))), .tick 1] false) (.seq (.reg [.act (some 7) [] (.rows 1 [.int .i64 0] 0 []) [], .set 3
  (.x (.t 7)), .tick 1] false) (.seq (.seq (.reg [.set 4 (.x (.c (.s (.int .i64 0)))), .tick 1] false) (.block 0 (.loop (.seq (.seq (.reg [.tick 5] false) (.cond (.op (.bin .lss
  .num (.t 8) (.t 11)) [(8, .x (.t 4)), (11, .op (.len (.sl 0) (.t 10)) [(10, .op (.load false 1 (.t 9)) [(9, .op (.fa 0 (.t 1)) [])])])]) .skip (.exit 0))) (.seq (.block 1 (.seq
  (.reg [.tick 7, .act (some 22) [] (.rows 1 [.int .i64 0] 1 [(0, .t 21)]) [(21, .op (.load false 1 (.t 20)) [(20, .op (.fa 0 (.t 19)) [(19, .op (.ia (.sl 5) (.t 17) (.t 18)) [(17,
  .op (.load false 1 (.t 16)) [(16, .op (.fa 0 (.t 1)) [])]), (18, .x (.t 4))])])])], .act (some 23) [] (.app 3 1 (.t 15) (.t 22)) [(15, .x (.t 3))], .set 3 (.x (.t 23)), .tick 1]
  false) (.seq (.reg [.set 5 (.x (.c (.s (.int .i64 0)))), .tick 1] false) (.block 2 (.loop (.seq (.seq (.reg [.tick 9] false) (.cond (.op (.bin .lss .num (.t 24) (.t 31)) [(24, .x
  (.t 5)), (31, .op (.len (.sl 0) (.t 30)) [(30, .op (.load false 1 (.t 29)) [(29, .op (.fa 4 (.t 28)) [(28, .op (.ia (.sl 5) (.t 26) (.t 27)) [(26, .op (.load false 1 (.t 25))
  [(25, .op (.fa 0 (.t 1)) [])]), (27, .x (.t 4))])])])])]) .skip (.exit 2))) (.seq (.block 3 (.reg [.tick 11, .act (some 46) [] (.rows 1 [.int .i64 0] 1 [(0, .t 45)]) [(45, .op
  (.load false 1 (.t 44)) [(44, .op (.fa 0 (.t 43)) [(43, .op (.ia (.sl 3) (.t 41) (.t 42)) [(41, .op (.load false 1 (.t 40)) [(40, .op (.fa 4 (.t 39)) [(39, .op (.ia (.sl 5) (.t
  37) (.t 38)) [(37, .op (.load false 1 (.t 36)) [(36, .op (.fa 0 (.t 1)) [])]), (38, .x (.t 4))])])]), (42, .x (.t 5))])])])], .act (some 47) [] (.app 3 1 (.t 35) (.t 46)) [(35,
  .x (.t 3))], .set 3 (.x (.t 47)), .tick 1] false)) (.reg [.set 5 (.op (.bin .add .num (.t 33) (.c (.s (.int .i64 1)))) [(33, .x (.t 5))]), .tick 3] false)))))))) (.reg [.set 4
  (.op (.bin .add .num (.t 13) (.c (.s (.int .i64 1)))) [(13, .x (.t 4))]), .tick 3] false)))))) (.seq (.seq (.reg [.set 6 (.x (.c (.s (.int .i64 0)))), .tick 1] false) (.block 4
  (.loop (.seq (.seq (.reg [.tick 5] false) (.cond (.op (.bin .lss .num (.t 48) (.t 51)) [(48, .x (.t 6)), (51, .op (.len (.sl 0) (.t 50)) [(50, .op (.load false 1 (.t 49)) [(49,
  .op (.fa 1 (.t 1)) [])])])]) .skip (.exit 4))) (.seq (.block 5 (.reg [.tick 7, .act (some 62) [] (.rows 1 [.int .i64 0] 1 [(0, .t 61)]) [(61, .op (.load false 1 (.t 60)) [(60,
  .op (.fa 0 (.t 59)) [(59, .op (.ia (.sl 4) (.t 57) (.t 58)) [(57, .op (.load false 1 (.t 56)) [(56, .op (.fa 1 (.t 1)) [])]), (58, .x (.t 6))])])])], .act (some 63) [] (.app 3 1
  (.t 55) (.t 62)) [(55, .x (.t 3))], .set 3 (.x (.t 63)), .tick 1] false)) (.reg [.set 6 (.op (.bin .add .num (.t 53) (.c (.s (.int .i64 1)))) [(53, .x (.t 6))]), .tick 3]
  false)))))) (.seq (.reg [.set 2 (.x (.t 3)), .tick 2] false) .ret))))
theorem f21 : sF EE 21 [8, 9, 10, 11, 12, 15, 16, 17, 18, 19, 20, 21, 24, 25, 26, 27, 28, 29, 30, 31, 32, 35, 36, 37, 38, 39, 40, 41, 42, 43, 44, 45, 33, 34, 13, 14, 48, 49, 50,
  51, 52, 55, 56, 57, 58, 59, 60, 61, 53, 54, 64] = some ⟨65, [.t 2], c21⟩ := by kernel_rfl
/- 22 lineage/lineageref19.distinct -/
def c22 : SC := .seq (.reg [.set 2 (.x (.c (.s (.bool false)))), .tick 1] false) (.seq (.seq (.reg [.set 3 (.x (.c (.s (.int .i64 0)))), .tick 1] false) (.block 0 (.loop (.seq
  (.seq (.reg [.tick 4] false) (.cond (.op (.bin .lss .num (.t 5) (.t 7)) [(5, .x (.t 3)), (7, .op (.len (.sl 0) (.t 6)) [(6, .x (.t 0))])]) .skip (.exit 0))) (.seq (.block 1 (.seq
  (.reg [.set 4 (.x (.c (.s (.int .i64 0)))), .tick 1] false) (.block 2 (.loop (.seq (.seq (.reg [.tick 3] false) (.cond (.op (.bin .lss .num (.t 11) (.t 12)) [(11, .x (.t 4)),
  (12, .x (.t 3))]) .skip (.exit 2))) (.seq (.block 3 (.seq (.reg [.tick 9] true) (.cond (.op (.bin .eql .num (.t 19) (.t 23)) [(19, .op (.load false 1 (.t 18)) [(18, .op (.ia (.sl
  1) (.t 16) (.t 17)) [(16, .x (.t 0)), (17, .x (.t 3))])]), (23, .op (.load false 1 (.t 22)) [(22, .op (.ia (.sl 1) (.t 20) (.t 21)) [(20, .x (.t 0)), (21, .x (.t 4))])])]) (.seq
  (.reg [.set 2 (.x (.c (.s (.bool false)))), .tick 1] false) .ret) .skip))) (.reg [.set 4 (.op (.bin .add .num (.t 14) (.c (.s (.int .i64 1)))) [(14, .x (.t 4))]), .tick 3]
  false))))))) (.reg [.set 3 (.op (.bin .add .num (.t 9) (.c (.s (.int .i64 1)))) [(9, .x (.t 3))]), .tick 3] false)))))) (.seq (.reg [.set 2 (.x (.c (.s (.bool true)))), .tick 1]
  false) .ret))
theorem f22 : sF EE 22 [5, 6, 7, 8, 11, 12, 13, 16, 17, 18, 19, 20, 21, 22, 23, 24, 14, 15, 9, 10] = some ⟨25, [.t 2], c22⟩ := by kernel_rfl
/- 23 lineage/lineageref19.ValidName -/
def c23 : SC := .seq (.reg [.set 2 (.x (.c (.s (.bool false)))), .tick 1] false) (.seq (.seq (.reg [.tick 18] false) (.cond (.pick (.pick (.pick (.op (.bin .lss .num (.t 5) (.c (.s
  (.int .i64 1)))) [(5, .op (.len .str (.t 4)) [(4, .x (.t 0))])]) (.x (.c (.s (.bool true)))) (.op (.bin .gtr .num (.t 9) (.c (.s (.int .i64 31)))) [(9, .op (.len .str (.t 8))
  [(8, .x (.t 0))])])) (.x (.c (.s (.bool true)))) (.op (.bin .lss .num (.t 14) (.c (.s (.int .u8 97)))) [(14, .op (.iv .str (.t 13) (.c (.s (.int .i64 0)))) [(13, .x (.t 0))])]))
  (.x (.c (.s (.bool true)))) (.op (.bin .gtr .num (.t 19) (.c (.s (.int .u8 122)))) [(19, .op (.iv .str (.t 18) (.c (.s (.int .i64 0)))) [(18, .x (.t 0))])])) (.seq (.reg [.set 2
  (.x (.c (.s (.bool false)))), .tick 1] false) .ret) .skip)) (.seq (.seq (.reg [.set 3 (.x (.c (.s (.int .i64 0)))), .tick 1] false) (.block 0 (.loop (.seq (.seq (.reg [.tick 4]
  false) (.cond (.op (.bin .lss .num (.t 22) (.t 24)) [(22, .x (.t 3)), (24, .op (.len .str (.t 23)) [(23, .x (.t 0))])]) .skip (.exit 0))) (.seq (.block 1 (.seq (.reg [.tick 29]
  false) (.cond (.op (.un .not (.t 55)) [(55, .pick (.pick (.pick (.op (.bin .geq .num (.t 30) (.c (.s (.int .u8 97)))) [(30, .op (.iv .str (.t 28) (.t 29)) [(28, .x (.t 0)), (29,
  .x (.t 3))])]) (.op (.bin .leq .num (.t 35) (.c (.s (.int .u8 122)))) [(35, .op (.iv .str (.t 33) (.t 34)) [(33, .x (.t 0)), (34, .x (.t 3))])]) (.x (.c (.s (.bool false))))) (.x
  (.c (.s (.bool true)))) (.pick (.op (.bin .geq .num (.t 41) (.c (.s (.int .u8 48)))) [(41, .op (.iv .str (.t 39) (.t 40)) [(39, .x (.t 0)), (40, .x (.t 3))])]) (.op (.bin .leq
  .num (.t 46) (.c (.s (.int .u8 57)))) [(46, .op (.iv .str (.t 44) (.t 45)) [(44, .x (.t 0)), (45, .x (.t 3))])]) (.x (.c (.s (.bool false)))))) (.x (.c (.s (.bool true)))) (.op
  (.bin .eql .num (.t 53) (.c (.s (.int .u8 95)))) [(53, .op (.iv .str (.t 51) (.t 52)) [(51, .x (.t 0)), (52, .x (.t 3))])]))]) (.seq (.reg [.set 2 (.x (.c (.s (.bool false)))),
  .tick 1] false) .ret) .skip))) (.reg [.set 3 (.op (.bin .add .num (.t 26) (.c (.s (.int .i64 1)))) [(26, .x (.t 3))]), .tick 3] false)))))) (.seq (.reg [.set 2 (.x (.c (.s (.bool
  true)))), .tick 1] false) .ret)))
theorem f23 : sF EE 23 [4, 5, 6, 7, 8, 9, 10, 11, 12, 13, 14, 15, 16, 17, 18, 19, 20, 21, 22, 23, 24, 25, 28, 29, 30, 31, 32, 33, 34, 35, 36, 37, 38, 39, 40, 41, 42, 43, 44, 45,
  46, 47, 48, 49, 50, 51, 52, 53, 54, 55, 56, 26, 27] = some ⟨57, [.t 2], c23⟩ := by kernel_rfl
/- 24 lineage/lineageref19.table -/
def c24 : SC := .seq (.reg [.act (some 1) [] (.box 47 (.t 0)) [], .set 2 (.x (.c (.s (.bool false)))), .tick 1] false) (.seq (.seq (.reg [.tick 2, .act (some 7) [] (.call 64 [.t
  6]) [(6, .op (.load false 1 (.t 5)) [(5, .op (.fa 2 (.t 1)) [])])], .need [] (.op (.un .not (.t 7)) []), .tick 7, .act (some 15) [(.op (.un .not (.t 7)) [], false)] (.call 65 [.t
  11, .t 14]) [(11, .op (.load false 1 (.t 10)) [(10, .op (.fa 3 (.t 1)) [])]), (14, .op (.len (.sl 0) (.t 13)) [(13, .op (.load false 1 (.t 12)) [(12, .op (.fa 2 (.t 1)) [])])])],
  .tick 2] false) (.cond (.pick (.op (.un .not (.t 7)) []) (.x (.c (.s (.bool true)))) (.op (.un .not (.t 15)) [])) (.seq (.reg [.set 2 (.x (.c (.s (.bool false)))), .tick 1]
  false) .ret) .skip)) (.seq (.seq (.reg [.set 3 (.x (.c (.s (.int .i64 0)))), .tick 1] false) (.block 0 (.loop (.seq (.seq (.reg [.tick 5] false) (.cond (.op (.bin .lss .num (.t
  18) (.t 21)) [(18, .x (.t 3)), (21, .op (.len (.sl 0) (.t 20)) [(20, .op (.load false 1 (.t 19)) [(19, .op (.fa 4 (.t 1)) [])])])]) .skip (.exit 0))) (.seq (.block 1 (.seq (.reg
  [.set 29 (.op (.load true 3 (.t 28)) [(28, .op (.ia (.sl 3) (.t 26) (.t 27)) [(26, .op (.load false 1 (.t 25)) [(25, .op (.fa 4 (.t 1)) [])]), (27, .x (.t 3))])]), .tick 5, .act
  (some 4) [] (.alloc 51 [.int .i64 0, .str [], .nils]) [], .act none [] (.store 3 (.t 4) (.t 29)) []] false) (.seq (.reg [.set 34 (.op (.bin .eql .num (.t 32) (.c (.s (.int .i64
  0)))) [(32, .op (.len (.sl 0) (.t 31)) [(31, .op (.load false 1 (.t 30)) [(30, .op (.fa 2 (.t 4)) [])])])]), .tick 10, .act (some 40) [(.x (.t 34), false)] (.call 65 [.t 36, .t
  39]) [(36, .op (.load false 1 (.t 35)) [(35, .op (.fa 2 (.t 4)) [])]), (39, .op (.len (.sl 0) (.t 38)) [(38, .op (.load false 1 (.t 37)) [(37, .op (.fa 2 (.t 1)) [])])])], .tick
  18] true) (.seq (.reg [.need [(.x (.t 34), false)] (.op (.un .not (.t 40)) [])] false) (.cond (.pick (.pick (.x (.t 34)) (.x (.c (.s (.bool true)))) (.op (.un .not (.t 40)) []))
  (.x (.c (.s (.bool true)))) (.pick (.op (.bin .gtr .num (.t 44) (.c (.s (.int .i64 0)))) [(44, .x (.t 3))]) (.op (.bin .geq .num (.t 53) (.t 55)) [(53, .op (.load false 1 (.t
  52)) [(52, .op (.fa 0 (.t 51)) [(51, .op (.ia (.sl 3) (.t 48) (.t 50)) [(48, .op (.load false 1 (.t 47)) [(47, .op (.fa 4 (.t 1)) [])]), (50, .op (.bin .sub .num (.t 49) (.c (.s
  (.int .i64 1)))) [(49, .x (.t 3))])])])]), (55, .op (.load false 1 (.t 54)) [(54, .op (.fa 0 (.t 4)) [])])]) (.x (.c (.s (.bool false)))))) (.seq (.reg [.set 2 (.x (.c (.s (.bool
  false)))), .tick 1] false) .ret) .skip))))) (.reg [.set 3 (.op (.bin .add .num (.t 23) (.c (.s (.int .i64 1)))) [(23, .x (.t 3))]), .tick 3] false)))))) (.seq (.reg [.set 2 (.x
  (.c (.s (.bool true)))), .tick 1] false) .ret)))
theorem f24 : sF EE 24 [5, 6, 8, 9, 10, 11, 12, 13, 14, 16, 17, 18, 19, 20, 21, 22, 25, 26, 27, 28, 30, 31, 32, 33, 35, 36, 37, 38, 39, 41, 42, 43, 44, 45, 46, 47, 48, 49, 50, 51,
  52, 53, 54, 55, 56, 57, 58, 23, 24] = some ⟨59, [.t 2], c24⟩ := by kernel_rfl
/- 25 (*lineage/catalog.decoder).number -/
def c25 : SC := .seq (.reg [.set 2 (.x (.c (.s (.int .i64 0)))), .tick 1] false) (.seq (.reg [.tick 4, .act (some 11) [] (.call 66 [.t 10]) [(10, .op (.load false 1 (.t 9)) [(9,
  .op (.fa 0 (.t 8)) [(8, .op (.chk (.t 7)) [(7, .x (.t 0))])])])], .set 3 (.op (.ext (.t 6) 0) [(6, .x (.t 11))]), .set 4 (.op (.ext (.t 6) 1) [(6, .x (.t 11))]), .set 5 (.op
  (.ext (.t 6) 2) [(6, .x (.t 11))]), .tick 7] false) (.seq (.seq (.reg [.tick 6] false) (.cond (.pick (.op (.bin .neq .num (.t 15) (.c (.s (.int .i64 0)))) [(15, .x (.t 5))]) (.x
  (.c (.s (.bool true)))) (.op (.bin .gtr .num (.t 18) (.c (.s (.int (.u64) 2147483647)))) [(18, .x (.t 3))])) (.seq (.reg [.tick 3, .act none [] (.store 1 (.t 23) (.c (.s (.bool
  false)))) [(23, .op (.fa 1 (.t 22)) [(22, .op (.chk (.t 21)) [(21, .x (.t 0))])])]] false) (.seq (.reg [.set 2 (.x (.c (.s (.int .i64 0)))), .tick 1] false) .ret)) .skip)) (.seq
  (.reg [.tick 9, .act none [] (.store 1 (.t 32) (.t 30)) [(32, .op (.fa 0 (.t 31)) [(31, .op (.chk (.t 24)) [(24, .x (.t 0))])]), (30, .op (.sl (.sl 1) (.t 28) (some (.t 29))
  none) [(28, .op (.load false 1 (.t 27)) [(27, .op (.fa 0 (.t 26)) [(26, .op (.chk (.t 25)) [(25, .x (.t 0))])])]), (29, .x (.t 4))])]] false) (.seq (.reg [.set 2 (.op (.conv
  (.int .i64) (.t 33)) [(33, .x (.t 3))]), .tick 3] false) .ret))))
theorem f25 : sF EE 25 [7, 8, 9, 10, 6, 12, 13, 14, 15, 16, 17, 18, 19, 20, 21, 22, 23, 24, 25, 26, 27, 28, 29, 30, 31, 32, 33, 34] = some ⟨35, [.t 2], c25⟩ := by kernel_rfl
/- 26 lineage/catalog.list[lineage/api.TableDef] -/
def c26 : SC := .seq (.reg [.set 4 (.x (.c (.s .nils))), .tick 1] false) (.seq (.reg [.set 5 (.x (.c (.s .nils))), .tick 1] false) (.seq (.seq (.reg [.tick 1, .act (some 8) []
  (.call 25 [.t 7]) [(7, .x (.t 0))], .set 6 (.x (.t 8)), .tick 1] false) (.block 0 (.loop (.seq (.seq (.reg [.tick 8] false) (.cond (.pick (.op (.bin .gtr .num (.t 9) (.c (.s
  (.int .i64 0)))) [(9, .x (.t 6))]) (.op (.load false 1 (.t 14)) [(14, .op (.fa 1 (.t 13)) [(13, .op (.chk (.t 12)) [(12, .x (.t 0))])])]) (.x (.c (.s (.bool false))))) .skip
  (.exit 0))) (.seq (.block 1 (.reg [.tick 2, .act (some 21) [] (.callv (.t 20) []) [(20, .x (.t 1))], .act (some 22) [] (.rows 5 [.int .i64 0, .str [], .nils, .nils, .nils] 1 [(0,
  .t 21)]) [], .act (some 23) [] (.app 47 5 (.t 19) (.t 22)) [(19, .x (.t 5))], .set 5 (.x (.t 23)), .tick 1] false)) (.reg [.set 6 (.op (.bin .sub .num (.t 17) (.c (.s (.int .i64
  1)))) [(17, .x (.t 6))]), .tick 3] false)))))) (.seq (.reg [.set 4 (.x (.t 5)), .tick 2] false) .ret)))
theorem f26 : sF EE 26 [7, 9, 10, 11, 12, 13, 14, 15, 16, 19, 20, 17, 18, 24] = some ⟨25, [.t 4], c26⟩ := by kernel_rfl
/- 27 (*lineage/catalog.decoder).table -/
def c27 : SC := .seq (.reg [.act (some 2) [] (.alloc 47 [.int .i64 0, .str [], .nils, .nils, .nils]) []] false) (.seq (.reg [.tick 1, .act (some 5) [] (.call 25 [.t 4]) [(4, .x (.t
  0))], .need [] (.op (.build [.int .i64 0, .str [], .nils, .nils, .nils] [(0, 1, .t 5)]) []), .tick 1, .act (some 3) [] (.alloc 47 [.int .i64 0, .str [], .nils, .nils, .nils]) [],
  .act none [] (.store 5 (.t 3) (.t 6)) [(6, .op (.build [.int .i64 0, .str [], .nils, .nils, .nils] [(0, 1, .t 5)]) [])]] false) (.seq (.reg [.tick 1, .act (some 8) [] (.call 67
  [.t 7]) [(7, .x (.t 0))], .tick 1, .act none [] (.store 1 (.t 9) (.t 8)) [(9, .op (.fa 1 (.t 3)) [])]] false) (.seq (.reg [.tick 3, .act (some 13) [] (.call 68 [.t 10, .t 12])
  [(10, .x (.t 0)), (12, .op (.mkf 69 [.t 11] []) [(11, .x (.t 0))])], .tick 1, .act none [] (.store 1 (.t 14) (.t 13)) [(14, .op (.fa 2 (.t 3)) [])]] false) (.seq (.reg [.tick 3,
  .act (some 18) [] (.call 70 [.t 15, .t 17]) [(15, .x (.t 0)), (17, .op (.mkf 25 [.t 16] []) [(16, .x (.t 0))])], .tick 1, .act none [] (.store 1 (.t 19) (.t 18)) [(19, .op (.fa 3
  (.t 3)) [])]] false) (.seq (.reg [.tick 3, .act (some 23) [] (.call 71 [.t 20, .t 22]) [(20, .x (.t 0)), (22, .op (.mkf 72 [.t 21] []) [(21, .x (.t 0))])], .tick 1, .act none []
  (.store 1 (.t 24) (.t 23)) [(24, .op (.fa 4 (.t 3)) [])]] false) (.seq (.reg [.tick 1, .act none [] (.store 5 (.t 2) (.t 25)) [(25, .op (.load true 5 (.t 3)) [])]] false)
  .ret))))))
theorem f27 : sF EE 27 [4, 6, 7, 9, 10, 11, 12, 14, 15, 16, 17, 19, 20, 21, 22, 24, 25] = some ⟨26, [.cell true 5 2], c27⟩ := by kernel_rfl
/- 28 lineage/catalog.list[lineage/api.ViewDef] -/
def c28 : SC := .seq (.reg [.set 4 (.x (.c (.s .nils))), .tick 1] false) (.seq (.reg [.set 5 (.x (.c (.s .nils))), .tick 1] false) (.seq (.seq (.reg [.tick 1, .act (some 8) []
  (.call 25 [.t 7]) [(7, .x (.t 0))], .set 6 (.x (.t 8)), .tick 1] false) (.block 0 (.loop (.seq (.seq (.reg [.tick 8] false) (.cond (.pick (.op (.bin .gtr .num (.t 9) (.c (.s
  (.int .i64 0)))) [(9, .x (.t 6))]) (.op (.load false 1 (.t 14)) [(14, .op (.fa 1 (.t 13)) [(13, .op (.chk (.t 12)) [(12, .x (.t 0))])])]) (.x (.c (.s (.bool false))))) .skip
  (.exit 0))) (.seq (.block 1 (.reg [.tick 2, .act (some 21) [] (.callv (.t 20) []) [(20, .x (.t 1))], .act (some 22) [] (.rows 4 [.int .i64 0, .str [], .str [], .bool false] 1
  [(0, .t 21)]) [], .act (some 23) [] (.app 53 4 (.t 19) (.t 22)) [(19, .x (.t 5))], .set 5 (.x (.t 23)), .tick 1] false)) (.reg [.set 6 (.op (.bin .sub .num (.t 17) (.c (.s (.int
  .i64 1)))) [(17, .x (.t 6))]), .tick 3] false)))))) (.seq (.reg [.set 4 (.x (.t 5)), .tick 2] false) .ret)))
theorem f28 : sF EE 28 [7, 9, 10, 11, 12, 13, 14, 15, 16, 19, 20, 17, 18, 24] = some ⟨25, [.t 4], c28⟩ := by kernel_rfl
/- 29 (*lineage/catalog.decoder).view -/
def c29 : SC := .seq (.reg [.act (some 2) [] (.alloc 53 [.int .i64 0, .str [], .str [], .bool false]) []] false) (.seq (.reg [.tick 1, .act (some 5) [] (.call 25 [.t 4]) [(4, .x
  (.t 0))], .need [] (.op (.build [.int .i64 0, .str [], .str [], .bool false] [(0, 1, .t 5)]) []), .tick 1, .act (some 3) [] (.alloc 53 [.int .i64 0, .str [], .str [], .bool
  false]) [], .act none [] (.store 4 (.t 3) (.t 6)) [(6, .op (.build [.int .i64 0, .str [], .str [], .bool false] [(0, 1, .t 5)]) [])]] false) (.seq (.reg [.tick 1, .act (some 8)
  [] (.call 67 [.t 7]) [(7, .x (.t 0))], .tick 1, .act none [] (.store 1 (.t 9) (.t 8)) [(9, .op (.fa 1 (.t 3)) [])]] false) (.seq (.reg [.tick 1, .act (some 11) [] (.call 67 [.t
  10]) [(10, .x (.t 0))], .tick 1, .act none [] (.store 1 (.t 12) (.t 11)) [(12, .op (.fa 2 (.t 3)) [])]] false) (.seq (.reg [.tick 1, .act (some 14) [] (.call 25 [.t 13]) [(13, .x
  (.t 0))], .tick 2, .act none [] (.store 1 (.t 16) (.t 15)) [(16, .op (.fa 3 (.t 3)) []), (15, .op (.bin .eql .num (.t 14) (.c (.s (.int .i64 1)))) [])]] false) (.seq (.reg [.tick
  1, .act none [] (.store 4 (.t 2) (.t 17)) [(17, .op (.load true 4 (.t 3)) [])]] false) .ret)))))
theorem f29 : sF EE 29 [4, 6, 7, 9, 10, 12, 13, 15, 16, 17] = some ⟨18, [.cell true 4 2], c29⟩ := by kernel_rfl
/- 30 slices.Equal[[]byte,byte] -/
def c30 : SC := .seq (.reg [.set 4 (.x (.c (.s (.bool false)))), .tick 1] false) (.seq (.seq (.reg [.tick 5] false) (.cond (.op (.bin .neq .num (.t 7) (.t 9)) [(7, .op (.len (.sl
  0) (.t 6)) [(6, .x (.t 0))]), (9, .op (.len (.sl 0) (.t 8)) [(8, .x (.t 1))])]) (.seq (.reg [.set 4 (.x (.c (.s (.bool false)))), .tick 1] false) .ret) .skip)) (.seq (.seq (.reg
  [.set 12 (.op (.len (.sl 0) (.t 11)) [(11, .x (.t 0))]), .set 13 (.x (.c (.s (.int .i64 0)))), .tick 3] false) (.block 0 (.loop (.seq (.reg [.tick 1] false) (.seq (.cond (.op
  (.bin .lss .num (.t 13) (.t 12)) []) .skip (.exit 0)) (.seq (.block 1 (.seq (.reg [.set 5 (.x (.t 13)), .tick 2] false) (.seq (.reg [.tick 9] true) (.cond (.op (.bin .neq .num
  (.t 19) (.t 23)) [(19, .op (.load false 1 (.t 18)) [(18, .op (.ia (.sl 1) (.t 16) (.t 17)) [(16, .x (.t 0)), (17, .x (.t 5))])]), (23, .op (.load false 1 (.t 22)) [(22, .op (.ia
  (.sl 1) (.t 20) (.t 21)) [(20, .x (.t 1)), (21, .x (.t 5))])])]) (.seq (.reg [.set 4 (.x (.c (.s (.bool false)))), .tick 1] false) .ret) .skip)))) (.reg [.set 13 (.op (.bin .add
  .num (.t 13) (.c (.s (.int .i64 1)))) []), .tick 2] false))))))) (.seq (.reg [.set 4 (.x (.c (.s (.bool true)))), .tick 1] false) .ret)))
theorem f30 : sF EE 30 [6, 7, 8, 9, 10, 11, 14, 15, 16, 17, 18, 19, 20, 21, 22, 23, 24, 25] = some ⟨26, [.t 4], c30⟩ := by kernel_rfl
/- 31 lineage/lineageref04.Bytes -/
def c31 : SC := .seq (.reg [.set 4 (.x (.c (.s (.int .i64 0)))), .tick 1] false) (.seq (.seq (.reg [.set 5 (.x (.c (.s (.int .i64 0)))), .tick 1] false) (.block 0 (.loop (.seq
  (.seq (.reg [.tick 10] false) (.cond (.pick (.op (.bin .lss .num (.t 6) (.t 8)) [(6, .x (.t 5)), (8, .op (.len (.sl 0) (.t 7)) [(7, .x (.t 0))])]) (.op (.bin .lss .num (.t 11)
  (.t 13)) [(11, .x (.t 5)), (13, .op (.len (.sl 0) (.t 12)) [(12, .x (.t 1))])]) (.x (.c (.s (.bool false))))) .skip (.exit 0))) (.seq (.block 1 (.seq (.seq (.reg [.tick 9] true)
  (.cond (.op (.bin .lss .num (.t 21) (.t 25)) [(21, .op (.load false 1 (.t 20)) [(20, .op (.ia (.sl 1) (.t 18) (.t 19)) [(18, .x (.t 0)), (19, .x (.t 5))])]), (25, .op (.load
  false 1 (.t 24)) [(24, .op (.ia (.sl 1) (.t 22) (.t 23)) [(22, .x (.t 1)), (23, .x (.t 5))])])]) (.seq (.reg [.set 4 (.x (.c (.s (.int .i64 (-1))))), .tick 1] false) .ret)
  .skip)) (.seq (.reg [.tick 9] true) (.cond (.op (.bin .gtr .num (.t 30) (.t 34)) [(30, .op (.load false 1 (.t 29)) [(29, .op (.ia (.sl 1) (.t 27) (.t 28)) [(27, .x (.t 0)), (28,
  .x (.t 5))])]), (34, .op (.load false 1 (.t 33)) [(33, .op (.ia (.sl 1) (.t 31) (.t 32)) [(31, .x (.t 1)), (32, .x (.t 5))])])]) (.seq (.reg [.set 4 (.x (.c (.s (.int .i64 1)))),
  .tick 1] false) .ret) .skip)))) (.reg [.set 5 (.op (.bin .add .num (.t 16) (.c (.s (.int .i64 1)))) [(16, .x (.t 5))]), .tick 3] false)))))) (.seq (.seq (.reg [.tick 5] false)
  (.cond (.op (.bin .lss .num (.t 37) (.t 39)) [(37, .op (.len (.sl 0) (.t 36)) [(36, .x (.t 0))]), (39, .op (.len (.sl 0) (.t 38)) [(38, .x (.t 1))])]) (.seq (.reg [.set 4 (.x (.c
  (.s (.int .i64 (-1))))), .tick 1] false) .ret) .skip)) (.seq (.seq (.reg [.tick 5] false) (.cond (.op (.bin .gtr .num (.t 42) (.t 44)) [(42, .op (.len (.sl 0) (.t 41)) [(41, .x
  (.t 0))]), (44, .op (.len (.sl 0) (.t 43)) [(43, .x (.t 1))])]) (.seq (.reg [.set 4 (.x (.c (.s (.int .i64 1)))), .tick 1] false) .ret) .skip)) (.seq (.reg [.set 4 (.x (.c (.s
  (.int .i64 0)))), .tick 1] false) .ret))))
theorem f31 : sF EE 31 [6, 7, 8, 9, 10, 11, 12, 13, 14, 15, 18, 19, 20, 21, 22, 23, 24, 25, 26, 27, 28, 29, 30, 31, 32, 33, 34, 35, 16, 17, 36, 37, 38, 39, 40, 41, 42, 43, 44, 45]
  = some ⟨46, [.t 4], c31⟩ := by kernel_rfl
/- 32 lineage/lineageref19.number -/
def c32 : SC := .seq (.reg [.set 4 (.x (.c (.s .nils))), .tick 1] false) (.seq (.reg [.tick 3, .act (some 8) [] (.call 73 [.t 5, .t 7]) [(5, .x (.t 0)), (7, .op (.conv (.int
  (.u64)) (.t 6)) [(6, .x (.t 1))])], .set 4 (.x (.t 8)), .tick 1] false) .ret)
theorem f32 : sF EE 32 [5, 6, 7] = some ⟨9, [.t 4], c32⟩ := by kernel_rfl
/- 33 lineage/lineageref04.AppendString -/
def c33 : SC := .seq (.reg [.set 4 (.x (.c (.s .nils))), .tick 1] false) (.seq (.reg [.tick 4, .act (some 9) [] (.call 73 [.t 5, .t 8]) [(5, .x (.t 0)), (8, .op (.conv (.int
  (.u64)) (.t 7)) [(7, .op (.len .str (.t 6)) [(6, .x (.t 1))])])], .tick 1, .act (some 11) [] (.app 5 1 (.t 9) (.t 10)) [(10, .x (.t 1))], .set 4 (.x (.t 11)), .tick 1] false)
  .ret)
theorem f33 : sF EE 33 [5, 6, 7, 8, 10] = some ⟨12, [.t 4], c33⟩ := by kernel_rfl
/- 34 lineage/lineageref19.numbers -/
def c34 : SC := .seq (.reg [.set 4 (.x (.c (.s .nils))), .tick 1] false) (.seq (.reg [.tick 3, .act (some 9) [] (.call 32 [.t 6, .t 8]) [(6, .x (.t 0)), (8, .op (.len (.sl 0) (.t
  7)) [(7, .x (.t 1))])], .set 0 (.x (.t 9)), .tick 1] false) (.seq (.seq (.reg [.set 5 (.x (.c (.s (.int .i64 0)))), .tick 1] false) (.block 0 (.loop (.seq (.seq (.reg [.tick 4]
  false) (.cond (.op (.bin .lss .num (.t 10) (.t 12)) [(10, .x (.t 5)), (12, .op (.len (.sl 0) (.t 11)) [(11, .x (.t 1))])]) .skip (.exit 0))) (.seq (.block 1 (.reg [.tick 5, .act
  (some 21) [] (.call 32 [.t 16, .t 20]) [(16, .x (.t 0)), (20, .op (.load false 1 (.t 19)) [(19, .op (.ia (.sl 1) (.t 17) (.t 18)) [(17, .x (.t 1)), (18, .x (.t 5))])])], .set 0
  (.x (.t 21)), .tick 1] false)) (.reg [.set 5 (.op (.bin .add .num (.t 14) (.c (.s (.int .i64 1)))) [(14, .x (.t 5))]), .tick 3] false)))))) (.seq (.reg [.set 4 (.x (.t 0)), .tick
  2] false) .ret)))
theorem f34 : sF EE 34 [6, 7, 8, 10, 11, 12, 13, 16, 17, 18, 19, 20, 14, 15, 22] = some ⟨23, [.t 4], c34⟩ := by kernel_rfl
/- 35 lineage/lineageref19.SameTable -/
def c35 : SC := .seq (.reg [.act (some 2) [] (.box 47 (.t 0)) [], .act (some 3) [] (.box 47 (.t 1)) [], .set 4 (.x (.c (.s (.bool false)))), .tick 1] false) (.seq (.seq (.reg [.set
  28 (.pick (.pick (.op (.bin .neq .num (.t 8) (.t 10)) [(8, .op (.load false 1 (.t 7)) [(7, .op (.fa 0 (.t 2)) [])]), (10, .op (.load false 1 (.t 9)) [(9, .op (.fa 0 (.t 3))
  [])])]) (.x (.c (.s (.bool true)))) (.op (.bin .neq .num (.t 14) (.t 16)) [(14, .op (.load false 1 (.t 13)) [(13, .op (.fa 1 (.t 2)) [])]), (16, .op (.load false 1 (.t 15)) [(15,
  .op (.fa 1 (.t 3)) [])])])) (.x (.c (.s (.bool true)))) (.op (.bin .neq .num (.t 22) (.t 25)) [(22, .op (.len (.sl 0) (.t 21)) [(21, .op (.load false 1 (.t 20)) [(20, .op (.fa 2
  (.t 2)) [])])]), (25, .op (.len (.sl 0) (.t 24)) [(24, .op (.load false 1 (.t 23)) [(23, .op (.fa 2 (.t 3)) [])])])])), .tick 26, .act (some 33) [(.x (.t 28), false)] (.call 74
  [.t 30, .t 32]) [(30, .op (.load false 1 (.t 29)) [(29, .op (.fa 3 (.t 2)) [])]), (32, .op (.load false 1 (.t 31)) [(31, .op (.fa 3 (.t 3)) [])])], .tick 11] false) (.seq (.reg
  [.need [(.x (.t 28), false)] (.op (.un .not (.t 33)) [])] false) (.cond (.pick (.pick (.x (.t 28)) (.x (.c (.s (.bool true)))) (.op (.un .not (.t 33)) [])) (.x (.c (.s (.bool
  true)))) (.op (.bin .neq .num (.t 39) (.t 42)) [(39, .op (.len (.sl 0) (.t 38)) [(38, .op (.load false 1 (.t 37)) [(37, .op (.fa 4 (.t 2)) [])])]), (42, .op (.len (.sl 0) (.t
  41)) [(41, .op (.load false 1 (.t 40)) [(40, .op (.fa 4 (.t 3)) [])])])])) (.seq (.reg [.set 4 (.x (.c (.s (.bool false)))), .tick 1] false) .ret) .skip))) (.seq (.seq (.reg
  [.set 5 (.x (.c (.s (.int .i64 0)))), .tick 1] false) (.block 0 (.loop (.seq (.seq (.reg [.tick 5] false) (.cond (.op (.bin .lss .num (.t 45) (.t 48)) [(45, .x (.t 5)), (48, .op
  (.len (.sl 0) (.t 47)) [(47, .op (.load false 1 (.t 46)) [(46, .op (.fa 2 (.t 2)) [])])])]) .skip (.exit 0))) (.seq (.block 1 (.seq (.reg [.tick 11] true) (.cond (.op (.bin .neq
  (.flat [2, 1]) (.t 56) (.t 61)) [(56, .op (.load true 2 (.t 55)) [(55, .op (.ia (.sl 2) (.t 53) (.t 54)) [(53, .op (.load false 1 (.t 52)) [(52, .op (.fa 2 (.t 2)) [])]), (54, .x
  (.t 5))])]), (61, .op (.load true 2 (.t 60)) [(60, .op (.ia (.sl 2) (.t 58) (.t 59)) [(58, .op (.load false 1 (.t 57)) [(57, .op (.fa 2 (.t 3)) [])]), (59, .x (.t 5))])])]) (.seq
  (.reg [.set 4 (.x (.c (.s (.bool false)))), .tick 1] false) .ret) .skip))) (.reg [.set 5 (.op (.bin .add .num (.t 50) (.c (.s (.int .i64 1)))) [(50, .x (.t 5))]), .tick 3]
  false)))))) (.seq (.seq (.reg [.set 6 (.x (.c (.s (.int .i64 0)))), .tick 1] false) (.block 2 (.loop (.seq (.seq (.reg [.tick 5] false) (.cond (.op (.bin .lss .num (.t 63) (.t
  66)) [(63, .x (.t 6)), (66, .op (.len (.sl 0) (.t 65)) [(65, .op (.load false 1 (.t 64)) [(64, .op (.fa 4 (.t 2)) [])])])]) .skip (.exit 2))) (.seq (.block 3 (.seq (.reg [.set 98
  (.pick (.op (.bin .neq .num (.t 75) (.t 81)) [(75, .op (.load false 1 (.t 74)) [(74, .op (.fa 0 (.t 73)) [(73, .op (.ia (.sl 3) (.t 71) (.t 72)) [(71, .op (.load false 1 (.t 70))
  [(70, .op (.fa 4 (.t 2)) [])]), (72, .x (.t 6))])])]), (81, .op (.load false 1 (.t 80)) [(80, .op (.fa 0 (.t 79)) [(79, .op (.ia (.sl 3) (.t 77) (.t 78)) [(77, .op (.load false 1
  (.t 76)) [(76, .op (.fa 4 (.t 3)) [])]), (78, .x (.t 6))])])])]) (.x (.c (.s (.bool true)))) (.op (.bin .neq .num (.t 89) (.t 95)) [(89, .op (.load false 1 (.t 88)) [(88, .op
  (.fa 1 (.t 87)) [(87, .op (.ia (.sl 3) (.t 85) (.t 86)) [(85, .op (.load false 1 (.t 84)) [(84, .op (.fa 4 (.t 2)) [])]), (86, .x (.t 6))])])]), (95, .op (.load false 1 (.t 94))
  [(94, .op (.fa 1 (.t 93)) [(93, .op (.ia (.sl 3) (.t 91) (.t 92)) [(91, .op (.load false 1 (.t 90)) [(90, .op (.fa 4 (.t 3)) [])]), (92, .x (.t 6))])])])])), .tick 41, .act (some
  111) [(.x (.t 98), false)] (.call 74 [.t 104, .t 110]) [(104, .op (.load false 1 (.t 103)) [(103, .op (.fa 2 (.t 102)) [(102, .op (.ia (.sl 3) (.t 100) (.t 101)) [(100, .op
  (.load false 1 (.t 99)) [(99, .op (.fa 4 (.t 2)) [])]), (101, .x (.t 6))])])]), (110, .op (.load false 1 (.t 109)) [(109, .op (.fa 2 (.t 108)) [(108, .op (.ia (.sl 3) (.t 106)
  (.t 107)) [(106, .op (.load false 1 (.t 105)) [(105, .op (.fa 4 (.t 3)) [])]), (107, .x (.t 6))])])])], .tick 2] true) (.seq (.reg [.need [(.x (.t 98), false)] (.op (.un .not (.t
  111)) [])] false) (.cond (.pick (.x (.t 98)) (.x (.c (.s (.bool true)))) (.op (.un .not (.t 111)) [])) (.seq (.reg [.set 4 (.x (.c (.s (.bool false)))), .tick 1] false) .ret)
  .skip)))) (.reg [.set 6 (.op (.bin .add .num (.t 68) (.c (.s (.int .i64 1)))) [(68, .x (.t 6))]), .tick 3] false)))))) (.seq (.reg [.set 4 (.x (.c (.s (.bool true)))), .tick 1]
  false) .ret))))
theorem f35 : sF EE 35 [7, 8, 9, 10, 11, 12, 13, 14, 15, 16, 17, 18, 19, 20, 21, 22, 23, 24, 25, 26, 27, 29, 30, 31, 32, 34, 35, 36, 37, 38, 39, 40, 41, 42, 43, 44, 45, 46, 47, 48,
  49, 52, 53, 54, 55, 56, 57, 58, 59, 60, 61, 62, 50, 51, 63, 64, 65, 66, 67, 70, 71, 72, 73, 74, 75, 76, 77, 78, 79, 80, 81, 82, 83, 84, 85, 86, 87, 88, 89, 90, 91, 92, 93, 94,
  95, 96, 97, 99, 100, 101, 102, 103, 104, 105, 106, 107, 108, 109, 110, 112, 113, 68, 69] = some ⟨114, [.t 4], c35⟩ := by kernel_rfl
/- 36 lineage/catalog.ValidName -/
def c36 : SC := .seq (.reg [.set 2 (.x (.c (.s (.bool false)))), .tick 1] false) (.seq (.seq (.reg [.tick 1, .act (some 6) [] (.conv (.bytes 5) (.t 5)) [(5, .x (.t 0))], .set 7
  (.op (.len (.sl 0) (.t 6)) []), .set 8 (.x (.c (.s (.int .i64 0)))), .tick 2] false) (.block 0 (.loop (.seq (.reg [.tick 1] false) (.seq (.cond (.op (.bin .lss .num (.t 8) (.t
  7)) []) .skip (.exit 0)) (.seq (.block 1 (.seq (.reg [.set 3 (.x (.t 8)), .set 4 (.op (.load false 1 (.t 11)) [(11, .op (.ia (.sl 1) (.t 6) (.t 8)) [])]), .tick 5] false) (.block
  2 (.seq (.reg [.tick 7] false) (.cond (.pick (.op (.bin .geq .num (.t 14) (.c (.s (.int .u8 97)))) [(14, .x (.t 4))]) (.op (.bin .leq .num (.t 17) (.c (.s (.int .u8 122)))) [(17,
  .x (.t 4))]) (.x (.c (.s (.bool false))))) .skip (.seq (.reg [.tick 15] false) (.cond (.pick (.op (.bin .gtr .num (.t 21) (.c (.s (.int .i64 0)))) [(21, .x (.t 3))]) (.pick
  (.pick (.op (.bin .geq .num (.t 24) (.c (.s (.int .u8 48)))) [(24, .x (.t 4))]) (.op (.bin .leq .num (.t 27) (.c (.s (.int .u8 57)))) [(27, .x (.t 4))]) (.x (.c (.s (.bool
  false))))) (.x (.c (.s (.bool true)))) (.op (.bin .eql .num (.t 31) (.c (.s (.int .u8 95)))) [(31, .x (.t 4))])) (.x (.c (.s (.bool false))))) .skip (.seq (.reg [.set 2 (.x (.c
  (.s (.bool false)))), .tick 1] false) .ret)))))))) (.reg [.set 8 (.op (.bin .add .num (.t 8) (.c (.s (.int .i64 1)))) []), .tick 2] false))))))) (.seq (.reg [.set 2 (.pick (.op
  (.bin .geq .num (.t 37) (.c (.s (.int .i64 1)))) [(37, .op (.len .str (.t 36)) [(36, .x (.t 0))])]) (.op (.bin .leq .num (.t 41) (.c (.s (.int .i64 31)))) [(41, .op (.len .str
  (.t 40)) [(40, .x (.t 0))])]) (.x (.c (.s (.bool false))))), .tick 9] false) .ret))
theorem f36 : sF EE 36 [5, 9, 10, 11, 12, 14, 15, 16, 17, 18, 19, 13, 21, 22, 23, 24, 25, 26, 27, 28, 29, 30, 31, 32, 33, 34, 20, 35, 36, 37, 38, 39, 40, 41, 42, 43] = some ⟨44,
  [.t 2], c36⟩ := by kernel_rfl
/- 37 lineage/catalog.validColumns -/
def c37 : SC := .seq (.reg [.set 2 (.x (.c (.s (.bool false)))), .tick 1] false) (.seq (.reg [.set 3 (.x (.c (.s (.func 75)))), .tick 1] false) (.seq (.reg [.set 12 (.pick (.op
  (.bin .geq .num (.t 5) (.c (.s (.int .i64 1)))) [(5, .op (.len (.sl 0) (.t 4)) [(4, .x (.t 0))])]) (.op (.bin .leq .num (.t 9) (.c (.s (.int .i64 16)))) [(9, .op (.len (.sl 0)
  (.t 8)) [(8, .x (.t 0))])]) (.x (.c (.s (.bool false))))), .tick 11, .act (some 15) [(.x (.t 12), true)] (.call 76 [.t 13, .t 14]) [(13, .x (.t 0)), (14, .x (.t 3))], .need []
  (.pick (.x (.t 12)) (.op (.un .not (.t 15)) []) (.x (.c (.s (.bool false))))), .need [(.x (.t 12), true)] (.op (.un .not (.t 15)) []), .tick 4, .act (some 20) [(.pick (.x (.t
  12)) (.op (.un .not (.t 15)) []) (.x (.c (.s (.bool false)))), true)] (.call 77 [.t 19]) [(19, .x (.t 0))], .act (some 21) [(.pick (.x (.t 12)) (.op (.un .not (.t 15)) []) (.x
  (.c (.s (.bool false)))), true)] (.call 38 [.t 20]) [], .set 2 (.pick (.pick (.x (.t 12)) (.op (.un .not (.t 15)) []) (.x (.c (.s (.bool false))))) (.x (.t 21)) (.x (.c (.s
  (.bool false))))), .tick 2] false) .ret))
theorem f37 : sF EE 37 [4, 5, 6, 7, 8, 9, 10, 11, 13, 14, 16, 17, 18, 19, 22] = some ⟨23, [.t 2], c37⟩ := by kernel_rfl
/- 38 lineage/catalog.distinct[string] -/
def c38 : SC := .seq (.reg [.set 2 (.x (.c (.s (.bool false)))), .tick 1] false) (.seq (.reg [.act (some 6) [] (.mkm) [], .set 3 (.x (.t 6)), .tick 1] false) (.seq (.seq (.reg
  [.set 7 (.x (.t 0)), .set 8 (.op (.len (.sl 0) (.t 7)) []), .set 9 (.x (.c (.s (.int .i64 0)))), .tick 3] false) (.block 0 (.loop (.seq (.reg [.tick 1] false) (.seq (.cond (.op
  (.bin .lss .num (.t 9) (.t 8)) []) .skip (.exit 0)) (.seq (.block 1 (.seq (.reg [.set 5 (.op (.load false 1 (.t 11)) [(11, .op (.ia (.sl 1) (.t 7) (.t 9)) [])]), .tick 3] false)
  (.seq (.seq (.reg [.tick 3] false) (.cond (.op (.look .str (some (.bool false)) false (.t 13) (.t 14)) [(13, .x (.t 3)), (14, .x (.t 5))]) (.seq (.reg [.set 2 (.x (.c (.s (.bool
  false)))), .tick 1] false) .ret) .skip)) (.reg [.tick 2, .act none [] (.mupd .str (.t 16) (.t 17) (.c (.s (.bool true)))) [(16, .x (.t 3)), (17, .x (.t 5))]] false)))) (.reg
  [.set 9 (.op (.bin .add .num (.t 9) (.c (.s (.int .i64 1)))) []), .tick 2] false))))))) (.seq (.reg [.set 2 (.x (.c (.s (.bool true)))), .tick 1] false) .ret)))
theorem f38 : sF EE 38 [10, 11, 12, 13, 14, 15, 16, 17, 18] = some ⟨19, [.t 2], c38⟩ := by kernel_rfl
/- 39 lineage/catalog.positions -/
def c39 : SC := .seq (.reg [.set 4 (.x (.c (.s .nils))), .set 5 (.x (.c (.s (.bool false)))), .tick 2] false) (.seq (.reg [.set 6 (.x (.c (.s .nils))), .tick 1] false) (.seq (.seq
  (.reg [.set 9 (.x (.t 1)), .set 10 (.op (.len (.sl 0) (.t 9)) []), .set 11 (.x (.c (.s (.int .i64 0)))), .tick 3] false) (.block 0 (.loop (.seq (.reg [.tick 1] false) (.seq
  (.cond (.op (.bin .lss .num (.t 11) (.t 10)) []) .skip (.exit 0)) (.seq (.block 1 (.seq (.reg [.set 8 (.op (.load false 1 (.t 13)) [(13, .op (.ia (.sl 1) (.t 9) (.t 11)) [])]),
  .tick 3] false) (.reg [.tick 2, .act (some 17) [] (.call 77 [.t 16]) [(16, .x (.t 0))], .tick 1, .act (some 19) [] (.call 78 [.t 17, .t 18]) [(18, .x (.t 8))], .act (some 20) []
  (.rows 1 [.int .i64 0] 1 [(0, .t 19)]) [], .act (some 21) [] (.app 3 1 (.t 15) (.t 20)) [(15, .x (.t 6))], .set 6 (.x (.t 21)), .tick 1] false))) (.reg [.set 11 (.op (.bin .add
  .num (.t 11) (.c (.s (.int .i64 1)))) []), .tick 2] false))))))) (.seq (.reg [.tick 2, .act (some 25) [] (.call 79 [.t 24, .c (.s (.int .i64 (-1)))]) [(24, .x (.t 6))], .set 4
  (.x (.t 6)), .set 5 (.op (.un .not (.t 25)) []), .tick 3] false) .ret)))
theorem f39 : sF EE 39 [12, 13, 14, 15, 16, 18, 22, 23, 24, 26] = some ⟨27, [.t 4, .t 5], c39⟩ := by kernel_rfl
/- 40 lineage/catalog.room -/
def c40 : SC := .seq (.reg [.act (some 2) [] (.box 25 (.t 0)) [], .set 4 (.x (.c (.s (.int .i64 0)))), .tick 1] false) (.seq (.reg [.tick 1, .act (some 9) [] (.call 48 [.t 8]) [(8,
  .op (.load true 3 (.t 2)) [])], .set 5 (.op (.ext (.t 7) 0) [(7, .x (.t 9))]), .tick 5] false) (.seq (.block 0 (.seq (.reg [.need [] (.op (.ext (.t 7) 1) [(7, .x (.t 9))]), .tick
  2, .act (some 15) [] (.call 80 [.t 13, .t 14]) [(13, .x (.t 5)), (14, .x (.t 1))], .tick 1] false) (.cond (.x (.t 15)) (.seq (.reg [.set 4 (.x (.c (.s (.int .i64 5)))), .tick 1]
  false) .ret) (.seq (.reg [.tick 9] false) (.cond (.pick (.op (.bin .geq .num (.t 18) (.c (.s (.int .i64 64)))) [(18, .op (.len (.sl 0) (.t 17)) [(17, .x (.t 5))])]) (.x (.c (.s
  (.bool true)))) (.op (.bin .geq .num (.t 22) (.c (.s (.int .i64 2147483647)))) [(22, .op (.load false 1 (.t 21)) [(21, .op (.fa 2 (.t 2)) [])])])) (.seq (.reg [.set 4 (.x (.c (.s
  (.int .i64 6)))), .tick 1] false) .ret) .skip))))) (.seq (.reg [.set 4 (.x (.c (.s (.int .i64 0)))), .tick 1] false) .ret)))
theorem f40 : sF EE 40 [8, 7, 10, 11, 6, 13, 14, 12, 17, 18, 19, 20, 21, 22, 23, 24, 16] = some ⟨25, [.t 4], c40⟩ := by kernel_rfl
/- 41 lineage/catalog.copied -/
def c41 : SC := .seq (.reg [.act (some 1) [] (.box 25 (.t 0)) [], .act (some 2) [] (.alloc 25 [.nils, .nils, .int .i64 0]) []] false) (.seq (.reg [.tick 2, .act (some 7) [] (.call
  81 [.t 6]) [(6, .op (.load false 1 (.t 5)) [(5, .op (.fa 0 (.t 1)) [])])], .tick 2, .act (some 10) [] (.call 82 [.t 9]) [(9, .op (.load false 1 (.t 8)) [(8, .op (.fa 1 (.t 1))
  [])])], .tick 1, .act none [] (.store 1 (.t 11) (.t 7)) [(11, .op (.fa 0 (.t 1)) [])], .tick 1, .act none [] (.store 1 (.t 12) (.t 10)) [(12, .op (.fa 1 (.t 1)) [])]] true) (.seq
  (.seq (.reg [.set 14 (.op (.load false 1 (.t 13)) [(13, .op (.fa 0 (.t 1)) [])]), .set 15 (.op (.len (.sl 0) (.t 14)) []), .set 16 (.x (.c (.s (.int .i64 0)))), .tick 4] false)
  (.block 0 (.loop (.seq (.reg [.tick 1] false) (.seq (.cond (.op (.bin .lss .num (.t 16) (.t 15)) []) .skip (.exit 0)) (.seq (.block 1 (.seq (.reg [.set 20 (.op (.load true 5 (.t
  19)) [(19, .op (.ia (.sl 5) (.t 14) (.t 16)) [])]), .tick 3, .act (some 4) [] (.alloc 47 [.int .i64 0, .str [], .nils, .nils, .nils]) [], .set 3 (.x (.t 16)), .tick 1, .act none
  [] (.store 5 (.t 4) (.t 20)) []] false) (.reg [.set 22 (.op (.load false 1 (.t 21)) [(21, .op (.fa 0 (.t 1)) [])]), .tick 4, .act (some 25) [] (.call 83 [.t 24]) [(24, .op (.load
  true 5 (.t 4)) [])], .tick 1, .act none [] (.store 5 (.t 26) (.t 25)) [(26, .op (.ia (.sl 5) (.t 22) (.t 23)) [(23, .x (.t 3))])]] true))) (.reg [.set 16 (.op (.bin .add .num (.t
  16) (.c (.s (.int .i64 1)))) []), .tick 2] false))))))) (.seq (.reg [.tick 1, .act none [] (.store 3 (.t 2) (.t 28)) [(28, .op (.load true 3 (.t 1)) [])]] false) .ret)))
theorem f41 : sF EE 41 [5, 6, 8, 9, 11, 12, 13, 17, 18, 19, 21, 23, 24, 26, 27, 28] = some ⟨29, [.cell true 3 2], c41⟩ := by kernel_rfl
/- 42 slices.Clone[[]lineage/api.Column,lineage/api.Column] -/
def c42 : SC := .seq (.reg [.set 2 (.x (.c (.s .nils))), .tick 1] false) (.seq (.seq (.reg [.tick 2] false) (.cond (.op (.bin .eql .slice (.t 3) (.c (.s .nils))) [(3, .x (.t 0))])
  (.seq (.reg [.set 2 (.x (.c (.s .nils))), .tick 1] false) .ret) .skip)) (.seq (.reg [.act (some 5) [] (.rows 2 [.str [], .int .i64 0] 0 []) [], .tick 1, .act (some 7) [] (.app 40
  2 (.t 5) (.t 6)) [(6, .x (.t 0))], .set 2 (.x (.t 7)), .tick 1] false) .ret))
theorem f42 : sF EE 42 [3, 4, 6] = some ⟨8, [.t 2], c42⟩ := by kernel_rfl
/- 43 lineage/value.TypeName -/
def c43 : SC := .seq (.reg [.set 2 (.x (.c (.s (.str [])))), .tick 1] false) (.seq (.seq (.reg [.tick 6] false) (.cond (.pick (.op (.bin .lss .num (.t 3) (.c (.s (.int .i64 0))))
  [(3, .x (.t 0))]) (.x (.c (.s (.bool true)))) (.op (.bin .gtr .num (.t 6) (.c (.s (.int .i64 2)))) [(6, .x (.t 0))])) (.seq (.reg [.set 2 (.x (.c (.s (.str [])))), .tick 1]
  false) .ret) .skip)) (.seq (.reg [.act (some 9) [] (.call 84 []) [], .set 2 (.op (.load false 1 (.t 11)) [(11, .op (.ia (.sl 1) (.t 9) (.t 10)) [(10, .x (.t 0))])]), .tick 4]
  false) .ret))
theorem f43 : sF EE 43 [3, 4, 5, 6, 7, 8, 10, 11, 12] = some ⟨13, [.t 2], c43⟩ := by kernel_rfl
/- 44 lineage/catalog.named -/
def c44 : SC := .seq (.reg [.set 4 (.x (.c (.s (.str [])))), .tick 1] false) (.seq (.reg [.set 5 (.x (.c (.s .nils))), .tick 1] false) (.seq (.seq (.reg [.set 8 (.x (.t 1)), .set 9
  (.op (.len (.sl 0) (.t 8)) []), .set 10 (.x (.c (.s (.int .i64 0)))), .tick 3] false) (.block 0 (.loop (.seq (.reg [.tick 1] false) (.seq (.cond (.op (.bin .lss .num (.t 10) (.t
  9)) []) .skip (.exit 0)) (.seq (.block 1 (.seq (.reg [.set 7 (.op (.load false 1 (.t 12)) [(12, .op (.ia (.sl 1) (.t 8) (.t 10)) [])]), .tick 3] false) (.reg [.tick 6, .act (some
  20) [] (.rows 1 [.str []] 1 [(0, .t 19)]) [(19, .op (.load false 1 (.t 18)) [(18, .op (.fa 0 (.t 17)) [(17, .op (.ia (.sl 2) (.t 15) (.t 16)) [(15, .x (.t 0)), (16, .x (.t
  7))])])])], .act (some 21) [] (.app 9 1 (.t 14) (.t 20)) [(14, .x (.t 5))], .set 5 (.x (.t 21)), .tick 1] false))) (.reg [.set 10 (.op (.bin .add .num (.t 10) (.c (.s (.int .i64
  1)))) []), .tick 2] false))))))) (.seq (.reg [.tick 1, .act (some 24) [] (.call 45 [.t 23, .c (.s (.str [44, 32]))]) [(23, .x (.t 5))], .set 4 (.op (.bin .add .num (.t 25) (.c
  (.s (.str [41])))) [(25, .op (.bin .add .num (.c (.s (.str [40]))) (.t 24)) [])]), .tick 3] false) .ret)))
theorem f44 : sF EE 44 [11, 12, 13, 14, 15, 16, 17, 18, 19, 22, 23, 25, 26] = some ⟨27, [.t 4], c44⟩ := by kernel_rfl
/- 46 lineage/catalog.table -/
def c46 : SC := .seq (.reg [.act (some 2) [] (.box 25 (.t 0)) [], .act (some 4) [] (.alloc 47 [.int .i64 0, .str [], .nils, .nils, .nils]) [], .set 5 (.x (.c (.s (.bool false)))),
  .tick 1] false) (.seq (.reg [.tick 3, .act (some 10) [] (.call 88 [.t 8, .t 9]) [(8, .op (.load false 1 (.t 7)) [(7, .op (.fa 0 (.t 2)) [])]), (9, .x (.t 1))], .set 6 (.x (.t
  10)), .tick 1] false) (.seq (.seq (.reg [.tick 2] false) (.cond (.op (.bin .lss .num (.t 11) (.c (.s (.int .i64 0)))) [(11, .x (.t 6))]) (.seq (.reg [.tick 1, .act none []
  (.store 5 (.t 4) (.t 13)) [(13, .op (.build [.int .i64 0, .str [], .nils, .nils, .nils] []) [])], .set 5 (.x (.c (.s (.bool false)))), .tick 1] false) .ret) .skip)) (.seq (.reg
  [.tick 5, .act (some 19) [] (.call 83 [.t 18]) [(18, .op (.load true 5 (.t 17)) [(17, .op (.ia (.sl 5) (.t 15) (.t 16)) [(15, .op (.load false 1 (.t 14)) [(14, .op (.fa 0 (.t 2))
  [])]), (16, .x (.t 6))])])], .act none [] (.store 5 (.t 4) (.t 19)) [], .set 5 (.x (.c (.s (.bool true)))), .tick 1] false) .ret)))
theorem f46 : sF EE 46 [7, 8, 9, 11, 12, 13, 14, 15, 16, 17, 18] = some ⟨20, [.cell true 5 4, .t 5], c46⟩ := by kernel_rfl
/- 47 lineage/catalog.Table$1 -/
def c47 : SC := .seq (.reg [.act (some 2) [] (.box 47 (.t 0)) [], .set 3 (.x (.c (.s (.bool false)))), .tick 1] false) (.seq (.reg [.set 3 (.op (.bin .eql .num (.t 5) (.t 6)) [(5,
  .op (.load false 1 (.t 4)) [(4, .op (.fa 1 (.t 2)) [])]), (6, .op (.load false 1 (.t 1)) [])]), .tick 5] false) .ret)
theorem f47 : sF EE 47 [4, 5, 6, 7] = some ⟨8, [.t 3], c47⟩ := by kernel_rfl
/- 48 lineage/catalog.defined -/
def c48 : SC := .seq (.reg [.act (some 1) [] (.box 25 (.t 0)) [], .set 2 (.x (.c (.s .nils))), .set 3 (.x (.c (.s .nils))), .tick 2] false) (.seq (.seq (.reg [.set 11 (.op (.load
  false 1 (.t 10)) [(10, .op (.fa 0 (.t 1)) [])]), .set 12 (.op (.len (.sl 0) (.t 11)) []), .set 13 (.x (.c (.s (.int .i64 0)))), .tick 4] false) (.block 0 (.loop (.seq (.reg
  [.tick 1] false) (.seq (.cond (.op (.bin .lss .num (.t 13) (.t 12)) []) .skip (.exit 0)) (.seq (.block 1 (.seq (.reg [.set 16 (.op (.load true 5 (.t 15)) [(15, .op (.ia (.sl 5)
  (.t 11) (.t 13)) [])]), .tick 2, .act (some 5) [] (.alloc 47 [.int .i64 0, .str [], .nils, .nils, .nils]) [], .act none [] (.store 5 (.t 5) (.t 16)) []] false) (.seq (.regD [.set
  17 (.x (.t 2)), .tick 3, .act (some 20) [] (.rows 1 [.str []] 1 [(0, .t 19)]) [(19, .op (.load false 1 (.t 18)) [(18, .op (.fa 1 (.t 5)) [])])], .act (some 21) [] (.app 9 1 (.t
  17) (.t 20)) [], .set 23 (.op (.fa 0 (.t 5)) []), .tick 3, .act (some 25) [] (.rows 1 [.int .i64 0] 1 [(0, .t 24)]) [(24, .op (.load false 1 (.t 23)) [])], .act (some 26) []
  (.app 3 1 (.t 22) (.t 25)) [(22, .x (.t 3))], .set 2 (.x (.t 21)), .set 3 (.x (.t 26)), .tick 2] [(4, 2, [.t 17, .t 20], 6, 1, [.t 5]), (4, 2, [.t 17, .t 20], 7, 1, [.t 23])] [])
  (.seq (.reg [.set 28 (.op (.load false 1 (.t 27)) [(27, .op (.fa 4 (.t 5)) [])]), .set 29 (.op (.len (.sl 0) (.t 28)) []), .set 30 (.x (.c (.s (.int .i64 0)))), .tick 4] false)
  (.block 2 (.loop (.seq (.reg [.tick 1] false) (.seq (.cond (.op (.bin .lss .num (.t 30) (.t 29)) []) .skip (.exit 2)) (.seq (.block 3 (.seq (.reg [.set 33 (.op (.load true 3 (.t
  32)) [(32, .op (.ia (.sl 3) (.t 28) (.t 30)) [])]), .tick 2, .act (some 7) [] (.alloc 51 [.int .i64 0, .str [], .nils]) [], .act none [] (.store 3 (.t 7) (.t 33)) []] false)
  (.regD [.set 34 (.x (.t 2)), .tick 3, .act (some 37) [] (.rows 1 [.str []] 1 [(0, .t 36)]) [(36, .op (.load false 1 (.t 35)) [(35, .op (.fa 1 (.t 7)) [])])], .act (some 38) []
  (.app 9 1 (.t 34) (.t 37)) [], .set 40 (.op (.fa 0 (.t 7)) []), .tick 3, .act (some 42) [] (.rows 1 [.int .i64 0] 1 [(0, .t 41)]) [(41, .op (.load false 1 (.t 40)) [])], .act
  (some 43) [] (.app 3 1 (.t 39) (.t 42)) [(39, .x (.t 3))], .set 2 (.x (.t 38)), .set 3 (.x (.t 43)), .tick 2] [(4, 2, [.t 34, .t 37], 6, 1, [.t 7]), (4, 2, [.t 34, .t 37], 7, 1,
  [.t 40])] []))) (.reg [.set 30 (.op (.bin .add .num (.t 30) (.c (.s (.int .i64 1)))) []), .tick 2] false)))))))))) (.reg [.set 13 (.op (.bin .add .num (.t 13) (.c (.s (.int .i64
  1)))) []), .tick 2] false))))))) (.seq (.seq (.reg [.set 47 (.op (.load false 1 (.t 46)) [(46, .op (.fa 1 (.t 1)) [])]), .set 48 (.op (.len (.sl 0) (.t 47)) []), .set 49 (.x (.c
  (.s (.int .i64 0)))), .tick 4] false) (.block 4 (.loop (.seq (.reg [.tick 1] false) (.seq (.cond (.op (.bin .lss .num (.t 49) (.t 48)) []) .skip (.exit 4)) (.seq (.block 5 (.seq
  (.reg [.set 52 (.op (.load true 4 (.t 51)) [(51, .op (.ia (.sl 4) (.t 47) (.t 49)) [])]), .tick 2, .act (some 9) [] (.alloc 53 [.int .i64 0, .str [], .str [], .bool false]) [],
  .act none [] (.store 4 (.t 9) (.t 52)) []] false) (.regD [.set 53 (.x (.t 2)), .tick 3, .act (some 56) [] (.rows 1 [.str []] 1 [(0, .t 55)]) [(55, .op (.load false 1 (.t 54))
  [(54, .op (.fa 1 (.t 9)) [])])], .act (some 57) [] (.app 9 1 (.t 53) (.t 56)) [], .set 59 (.op (.fa 0 (.t 9)) []), .tick 3, .act (some 61) [] (.rows 1 [.int .i64 0] 1 [(0, .t
  60)]) [(60, .op (.load false 1 (.t 59)) [])], .act (some 62) [] (.app 3 1 (.t 58) (.t 61)) [(58, .x (.t 3))], .set 2 (.x (.t 57)), .set 3 (.x (.t 62)), .tick 2] [(4, 2, [.t 53,
  .t 56], 6, 1, [.t 9]), (4, 2, [.t 53, .t 56], 7, 1, [.t 59])] []))) (.reg [.set 49 (.op (.bin .add .num (.t 49) (.c (.s (.int .i64 1)))) []), .tick 2] false))))))) (.seq (.reg
  [.set 2 (.x (.t 2)), .set 3 (.x (.t 3)), .tick 4] false) .ret)))
theorem f48 : sF EE 48 [10, 14, 15, 18, 19, 22, 24, 27, 31, 32, 35, 36, 39, 41, 44, 45, 46, 50, 51, 54, 55, 58, 60, 63, 64, 65] = some ⟨66, [.t 2, .t 3], c48⟩ := by kernel_rfl
/- 49 lineage/catalog.distinct[int] -/
def c49 : SC := .seq (.reg [.set 2 (.x (.c (.s (.bool false)))), .tick 1] false) (.seq (.reg [.act (some 6) [] (.mkm) [], .set 3 (.x (.t 6)), .tick 1] false) (.seq (.seq (.reg
  [.set 7 (.x (.t 0)), .set 8 (.op (.len (.sl 0) (.t 7)) []), .set 9 (.x (.c (.s (.int .i64 0)))), .tick 3] false) (.block 0 (.loop (.seq (.reg [.tick 1] false) (.seq (.cond (.op
  (.bin .lss .num (.t 9) (.t 8)) []) .skip (.exit 0)) (.seq (.block 1 (.seq (.reg [.set 5 (.op (.load false 1 (.t 11)) [(11, .op (.ia (.sl 1) (.t 7) (.t 9)) [])]), .tick 3] false)
  (.seq (.seq (.reg [.tick 3] false) (.cond (.op (.look (.int) (some (.bool false)) false (.t 13) (.t 14)) [(13, .x (.t 3)), (14, .x (.t 5))]) (.seq (.reg [.set 2 (.x (.c (.s
  (.bool false)))), .tick 1] false) .ret) .skip)) (.reg [.tick 2, .act none [] (.mupd (.int) (.t 16) (.t 17) (.c (.s (.bool true)))) [(16, .x (.t 3)), (17, .x (.t 5))]] false))))
  (.reg [.set 9 (.op (.bin .add .num (.t 9) (.c (.s (.int .i64 1)))) []), .tick 2] false))))))) (.seq (.reg [.set 2 (.x (.c (.s (.bool true)))), .tick 1] false) .ret)))
theorem f49 : sF EE 49 [10, 11, 12, 13, 14, 15, 16, 17, 18] = some ⟨19, [.t 2], c49⟩ := by kernel_rfl
/- 50 slices.ContainsFunc[[]string,string] -/
def c50 : SC := .seq (.reg [.set 4 (.x (.c (.s (.bool false)))), .tick 1] false) (.seq (.reg [.tick 2, .act (some 7) [] (.call 89 [.t 5, .t 6]) [(5, .x (.t 0)), (6, .x (.t 1))],
  .set 4 (.op (.bin .geq .num (.t 7) (.c (.s (.int .i64 0)))) []), .tick 2] false) .ret)
theorem f50 : sF EE 50 [5, 6, 8] = some ⟨9, [.t 4], c50⟩ := by kernel_rfl
/- 51 lineage/catalog.Valid$1 -/
def c51 : SC := .seq (.reg [.set 2 (.x (.c (.s (.bool false)))), .tick 1] false) (.seq (.reg [.tick 1, .act (some 4) [] (.call 36 [.t 3]) [(3, .x (.t 0))], .set 2 (.op (.un .not
  (.t 4)) []), .tick 2] false) .ret)
theorem f51 : sF EE 51 [3, 5] = some ⟨6, [.t 2], c51⟩ := by kernel_rfl
/- 52 slices.ContainsFunc[[]int,int] -/
def c52 : SC := .seq (.reg [.set 4 (.x (.c (.s (.bool false)))), .tick 1] false) (.seq (.reg [.tick 2, .act (some 7) [] (.call 90 [.t 5, .t 6]) [(5, .x (.t 0)), (6, .x (.t 1))],
  .set 4 (.op (.bin .geq .num (.t 7) (.c (.s (.int .i64 0)))) []), .tick 2] false) .ret)
theorem f52 : sF EE 52 [5, 6, 8] = some ⟨9, [.t 4], c52⟩ := by kernel_rfl
/- 53 lineage/catalog.Valid$2 -/
def c53 : SC := .seq (.reg [.set 3 (.x (.c (.s (.bool false)))), .tick 1] false) (.seq (.reg [.set 3 (.pick (.op (.bin .lss .num (.t 4) (.c (.s (.int .i64 1)))) [(4, .x (.t 0))])
  (.x (.c (.s (.bool true)))) (.op (.bin .gtr .num (.t 7) (.t 9)) [(7, .x (.t 0)), (9, .op (.load false 1 (.t 8)) [(8, .op (.fa 2 (.t 1)) [])])])), .tick 9] false) .ret)
theorem f53 : sF EE 53 [4, 5, 6, 7, 8, 9, 10, 11] = some ⟨12, [.t 3], c53⟩ := by kernel_rfl
/- 54 slices.ContainsFunc[[]lineage/api.TableDef,lineage/api.TableDef] -/
def c54 : SC := .seq (.reg [.set 4 (.x (.c (.s (.bool false)))), .tick 1] false) (.seq (.reg [.tick 2, .act (some 7) [] (.call 88 [.t 5, .t 6]) [(5, .x (.t 0)), (6, .x (.t 1))],
  .set 4 (.op (.bin .geq .num (.t 7) (.c (.s (.int .i64 0)))) []), .tick 2] false) .ret)
theorem f54 : sF EE 54 [5, 6, 8] = some ⟨9, [.t 4], c54⟩ := by kernel_rfl
/- 55 lineage/catalog.Valid$3 -/
def c55 : SC := .seq (.reg [.act (some 1) [] (.box 47 (.t 0)) [], .set 2 (.x (.c (.s (.bool false)))), .tick 1] false) (.seq (.reg [.tick 1, .act (some 4) [] (.call 56 [.t 3]) [(3,
  .op (.load true 5 (.t 1)) [])], .set 2 (.op (.un .not (.t 4)) []), .tick 2] false) .ret)
theorem f55 : sF EE 55 [3, 5] = some ⟨6, [.t 2], c55⟩ := by kernel_rfl
/- 56 lineage/catalog.validTable -/
def c56 : SC := .seq (.reg [.act (some 1) [] (.box 47 (.t 0)) [], .set 2 (.x (.c (.s (.bool false)))), .tick 1] false) (.seq (.reg [.set 3 (.op (.mkf 91 [] [.t 1]) []), .tick 2]
  false) (.seq (.reg [.tick 2, .act (some 8) [] (.call 93 [.t 7, .c (.s (.func 94))]) [(7, .op (.load false 1 (.t 6)) [(6, .op (.fa 4 (.t 1)) [])])], .set 4 (.x (.t 8)), .tick 1]
  false) (.seq (.reg [.tick 2, .act (some 11) [] (.call 37 [.t 10]) [(10, .op (.load false 1 (.t 9)) [(9, .op (.fa 2 (.t 1)) [])])], .tick 6, .act (some 18) [(.x (.t 11), true)]
  (.call 92 [.t 14, .t 17]) [(14, .op (.load false 1 (.t 13)) [(13, .op (.fa 3 (.t 1)) [])]), (17, .op (.len (.sl 0) (.t 16)) [(16, .op (.load false 1 (.t 15)) [(15, .op (.fa 2 (.t
  1)) [])])])], .need [] (.pick (.x (.t 11)) (.x (.t 18)) (.x (.c (.s (.bool false))))), .tick 5, .act (some 24) [(.pick (.x (.t 11)) (.x (.t 18)) (.x (.c (.s (.bool false)))),
  true)] (.call 95 [.t 22, .t 23]) [(22, .op (.load false 1 (.t 21)) [(21, .op (.fa 4 (.t 1)) [])]), (23, .x (.t 3))], .set 2 (.pick (.pick (.pick (.x (.t 11)) (.x (.t 18)) (.x (.c
  (.s (.bool false))))) (.op (.un .not (.t 24)) []) (.x (.c (.s (.bool false))))) (.x (.t 4)) (.x (.c (.s (.bool false))))), .tick 6] false) .ret)))
theorem f56 : sF EE 56 [5, 6, 7, 9, 10, 12, 13, 14, 15, 16, 17, 19, 20, 21, 22, 23, 25, 26, 27, 28, 29] = some ⟨30, [.t 2], c56⟩ := by kernel_rfl
/- 57 slices.ContainsFunc[[]lineage/api.ViewDef,lineage/api.ViewDef] -/
def c57 : SC := .seq (.reg [.set 4 (.x (.c (.s (.bool false)))), .tick 1] false) (.seq (.reg [.tick 2, .act (some 7) [] (.call 96 [.t 5, .t 6]) [(5, .x (.t 0)), (6, .x (.t 1))],
  .set 4 (.op (.bin .geq .num (.t 7) (.c (.s (.int .i64 0)))) []), .tick 2] false) .ret)
theorem f57 : sF EE 57 [5, 6, 8] = some ⟨9, [.t 4], c57⟩ := by kernel_rfl
/- 58 lineage/catalog.Valid$4 -/
def c58 : SC := .seq (.reg [.act (some 1) [] (.box 53 (.t 0)) [], .set 2 (.x (.c (.s (.bool false)))), .tick 1] false) (.seq (.reg [.tick 2, .act (some 5) [] (.call 59 [.t 4]) [(4,
  .op (.load false 1 (.t 3)) [(3, .op (.fa 2 (.t 1)) [])])], .set 2 (.op (.un .not (.t 5)) []), .tick 2] false) .ret)
theorem f58 : sF EE 58 [3, 4, 6] = some ⟨7, [.t 2], c58⟩ := by kernel_rfl
/- 59 lineage/catalog.source -/
def c59 : SC := .seq (.reg [.set 2 (.x (.c (.s (.bool false)))), .tick 1] false) (.seq (.reg [.set 2 (.pick (.op (.bin .geq .num (.t 4) (.c (.s (.int .i64 1)))) [(4, .op (.len .str
  (.t 3)) [(3, .x (.t 0))])]) (.op (.bin .leq .num (.t 8) (.c (.s (.int .i64 16384)))) [(8, .op (.len .str (.t 7)) [(7, .x (.t 0))])]) (.x (.c (.s (.bool false))))), .tick 9]
  false) .ret)
theorem f59 : sF EE 59 [3, 4, 5, 6, 7, 8, 9, 10] = some ⟨11, [.t 2], c59⟩ := by kernel_rfl
/- 60 slices.IsSortedFunc[[]lineage/api.TableDef,lineage/api.TableDef] -/
def c60 : SC := .seq (.reg [.set 4 (.x (.c (.s (.bool false)))), .tick 1] false) (.seq (.seq (.reg [.set 5 (.op (.bin .sub .num (.t 7) (.c (.s (.int .i64 1)))) [(7, .op (.len (.sl
  0) (.t 6)) [(6, .x (.t 0))])]), .tick 4] false) (.block 0 (.loop (.seq (.seq (.reg [.tick 2] false) (.cond (.op (.bin .gtr .num (.t 9) (.c (.s (.int .i64 0)))) [(9, .x (.t 5))])
  .skip (.exit 0))) (.seq (.block 1 (.seq (.reg [.tick 10, .act (some 23) [] (.callv (.t 13) [.t 17, .t 22]) [(13, .x (.t 1)), (17, .op (.load true 5 (.t 16)) [(16, .op (.ia (.sl
  5) (.t 14) (.t 15)) [(14, .x (.t 0)), (15, .x (.t 5))])]), (22, .op (.load true 5 (.t 21)) [(21, .op (.ia (.sl 5) (.t 18) (.t 20)) [(18, .x (.t 0)), (20, .op (.bin .sub .num (.t
  19) (.c (.s (.int .i64 1)))) [(19, .x (.t 5))])])])], .tick 1] true) (.cond (.op (.bin .lss .num (.t 23) (.c (.s (.int .i64 0)))) []) (.seq (.reg [.set 4 (.x (.c (.s (.bool
  false)))), .tick 1] false) .ret) .skip))) (.reg [.set 5 (.op (.bin .sub .num (.t 11) (.c (.s (.int .i64 1)))) [(11, .x (.t 5))]), .tick 3] false)))))) (.seq (.reg [.set 4 (.x (.c
  (.s (.bool true)))), .tick 1] false) .ret))
theorem f60 : sF EE 60 [6, 7, 8, 9, 10, 13, 14, 15, 16, 17, 18, 19, 20, 21, 22, 24, 11, 12] = some ⟨25, [.t 4], c60⟩ := by kernel_rfl
/- 61 lineage/catalog.Valid$5 -/
def c61 : SC := .seq (.reg [.act (some 2) [] (.box 47 (.t 0)) [], .act (some 3) [] (.box 47 (.t 1)) [], .set 4 (.x (.c (.s (.int .i64 0)))), .tick 1] false) (.seq (.reg [.set 4
  (.op (.bin .sub .num (.t 6) (.t 8)) [(6, .op (.load false 1 (.t 5)) [(5, .op (.fa 0 (.t 2)) [])]), (8, .op (.load false 1 (.t 7)) [(7, .op (.fa 0 (.t 3)) [])])]), .tick 6] false)
  .ret)
theorem f61 : sF EE 61 [5, 6, 7, 8, 9] = some ⟨10, [.t 4], c61⟩ := by kernel_rfl
/- 62 slices.IsSortedFunc[[]lineage/api.ViewDef,lineage/api.ViewDef] -/
def c62 : SC := .seq (.reg [.set 4 (.x (.c (.s (.bool false)))), .tick 1] false) (.seq (.seq (.reg [.set 5 (.op (.bin .sub .num (.t 7) (.c (.s (.int .i64 1)))) [(7, .op (.len (.sl
  0) (.t 6)) [(6, .x (.t 0))])]), .tick 4] false) (.block 0 (.loop (.seq (.seq (.reg [.tick 2] false) (.cond (.op (.bin .gtr .num (.t 9) (.c (.s (.int .i64 0)))) [(9, .x (.t 5))])
  .skip (.exit 0))) (.seq (.block 1 (.seq (.reg [.tick 10, .act (some 23) [] (.callv (.t 13) [.t 17, .t 22]) [(13, .x (.t 1)), (17, .op (.load true 4 (.t 16)) [(16, .op (.ia (.sl
  4) (.t 14) (.t 15)) [(14, .x (.t 0)), (15, .x (.t 5))])]), (22, .op (.load true 4 (.t 21)) [(21, .op (.ia (.sl 4) (.t 18) (.t 20)) [(18, .x (.t 0)), (20, .op (.bin .sub .num (.t
  19) (.c (.s (.int .i64 1)))) [(19, .x (.t 5))])])])], .tick 1] true) (.cond (.op (.bin .lss .num (.t 23) (.c (.s (.int .i64 0)))) []) (.seq (.reg [.set 4 (.x (.c (.s (.bool
  false)))), .tick 1] false) .ret) .skip))) (.reg [.set 5 (.op (.bin .sub .num (.t 11) (.c (.s (.int .i64 1)))) [(11, .x (.t 5))]), .tick 3] false)))))) (.seq (.reg [.set 4 (.x (.c
  (.s (.bool true)))), .tick 1] false) .ret))
theorem f62 : sF EE 62 [6, 7, 8, 9, 10, 13, 14, 15, 16, 17, 18, 19, 20, 21, 22, 24, 11, 12] = some ⟨25, [.t 4], c62⟩ := by kernel_rfl
/- 63 lineage/catalog.Valid$6 -/
def c63 : SC := .seq (.reg [.act (some 2) [] (.box 53 (.t 0)) [], .act (some 3) [] (.box 53 (.t 1)) [], .set 4 (.x (.c (.s (.int .i64 0)))), .tick 1] false) (.seq (.reg [.set 4
  (.op (.bin .sub .num (.t 6) (.t 8)) [(6, .op (.load false 1 (.t 5)) [(5, .op (.fa 0 (.t 2)) [])]), (8, .op (.load false 1 (.t 7)) [(7, .op (.fa 0 (.t 3)) [])])]), .tick 6] false)
  .ret)
theorem f63 : sF EE 63 [5, 6, 7, 8, 9] = some ⟨10, [.t 4], c63⟩ := by kernel_rfl
/- 64 lineage/lineageref19.Columns -/
def c64 : SC := .seq (.reg [.set 2 (.x (.c (.s (.bool false)))), .tick 1] false) (.seq (.reg [.act (some 5) [] (.rows 1 [.str []] 0 []) [], .set 3 (.x (.t 5)), .tick 1] false)
  (.seq (.seq (.reg [.set 4 (.x (.c (.s (.int .i64 0)))), .tick 1] false) (.block 0 (.loop (.seq (.seq (.reg [.tick 4] false) (.cond (.op (.bin .lss .num (.t 6) (.t 8)) [(6, .x (.t
  4)), (8, .op (.len (.sl 0) (.t 7)) [(7, .x (.t 0))])]) .skip (.exit 0))) (.seq (.block 1 (.seq (.seq (.reg [.tick 5, .act (some 17) [] (.call 23 [.t 16]) [(16, .op (.load false 1
  (.t 15)) [(15, .op (.fa 0 (.t 14)) [(14, .op (.ia (.sl 2) (.t 12) (.t 13)) [(12, .x (.t 0)), (13, .x (.t 4))])])])], .tick 17] false) (.cond (.pick (.pick (.op (.un .not (.t 17))
  []) (.x (.c (.s (.bool true)))) (.op (.bin .lss .num (.t 24) (.c (.s (.int .i64 0)))) [(24, .op (.load false 1 (.t 23)) [(23, .op (.fa 1 (.t 22)) [(22, .op (.ia (.sl 2) (.t 20)
  (.t 21)) [(20, .x (.t 0)), (21, .x (.t 4))])])])])) (.x (.c (.s (.bool true)))) (.op (.bin .gtr .num (.t 32) (.c (.s (.int .i64 2)))) [(32, .op (.load false 1 (.t 31)) [(31, .op
  (.fa 1 (.t 30)) [(30, .op (.ia (.sl 2) (.t 28) (.t 29)) [(28, .x (.t 0)), (29, .x (.t 4))])])])])) (.seq (.reg [.set 2 (.x (.c (.s (.bool false)))), .tick 1] false) .ret) .skip))
  (.reg [.tick 6, .act (some 41) [] (.rows 1 [.str []] 1 [(0, .t 40)]) [(40, .op (.load false 1 (.t 39)) [(39, .op (.fa 0 (.t 38)) [(38, .op (.ia (.sl 2) (.t 36) (.t 37)) [(36, .x
  (.t 0)), (37, .x (.t 4))])])])], .act (some 42) [] (.app 9 1 (.t 35) (.t 41)) [(35, .x (.t 3))], .set 3 (.x (.t 42)), .tick 1] false))) (.reg [.set 4 (.op (.bin .add .num (.t 10)
  (.c (.s (.int .i64 1)))) [(10, .x (.t 4))]), .tick 3] false)))))) (.seq (.reg [.set 51 (.pick (.op (.bin .geq .num (.t 44) (.c (.s (.int .i64 1)))) [(44, .op (.len (.sl 0) (.t
  43)) [(43, .x (.t 0))])]) (.op (.bin .leq .num (.t 48) (.c (.s (.int .i64 16)))) [(48, .op (.len (.sl 0) (.t 47)) [(47, .x (.t 0))])]) (.x (.c (.s (.bool false))))), .tick 10,
  .act (some 53) [(.x (.t 51), true)] (.call 22 [.t 52]) [(52, .x (.t 3))], .set 2 (.pick (.x (.t 51)) (.x (.t 53)) (.x (.c (.s (.bool false))))), .tick 2] false) .ret)))
theorem f64 : sF EE 64 [6, 7, 8, 9, 12, 13, 14, 15, 16, 18, 19, 20, 21, 22, 23, 24, 25, 26, 27, 28, 29, 30, 31, 32, 33, 34, 35, 36, 37, 38, 39, 40, 10, 11, 43, 44, 45, 46, 47, 48,
  49, 50, 52, 54] = some ⟨55, [.t 2], c64⟩ := by kernel_rfl
/- 65 lineage/lineageref19.indices -/
def c65 : SC := .seq (.reg [.set 4 (.x (.c (.s (.bool false)))), .tick 1] false) (.seq (.seq (.reg [.set 5 (.x (.c (.s (.int .i64 0)))), .tick 1] false) (.block 0 (.loop (.seq
  (.seq (.reg [.tick 4] false) (.cond (.op (.bin .lss .num (.t 7) (.t 9)) [(7, .x (.t 5)), (9, .op (.len (.sl 0) (.t 8)) [(8, .x (.t 0))])]) .skip (.exit 0))) (.seq (.block 1 (.seq
  (.seq (.reg [.tick 13] false) (.cond (.pick (.op (.bin .lss .num (.t 16) (.c (.s (.int .i64 0)))) [(16, .op (.load false 1 (.t 15)) [(15, .op (.ia (.sl 1) (.t 13) (.t 14)) [(13,
  .x (.t 0)), (14, .x (.t 5))])])]) (.x (.c (.s (.bool true)))) (.op (.bin .geq .num (.t 22) (.t 23)) [(22, .op (.load false 1 (.t 21)) [(21, .op (.ia (.sl 1) (.t 19) (.t 20))
  [(19, .x (.t 0)), (20, .x (.t 5))])]), (23, .x (.t 1))])) (.seq (.reg [.set 4 (.x (.c (.s (.bool false)))), .tick 1] false) .ret) .skip)) (.seq (.reg [.set 6 (.x (.c (.s (.int
  .i64 0)))), .tick 1] false) (.block 2 (.loop (.seq (.seq (.reg [.tick 3] false) (.cond (.op (.bin .lss .num (.t 26) (.t 27)) [(26, .x (.t 6)), (27, .x (.t 5))]) .skip (.exit 2)))
  (.seq (.block 3 (.seq (.reg [.tick 9] true) (.cond (.op (.bin .eql .num (.t 34) (.t 38)) [(34, .op (.load false 1 (.t 33)) [(33, .op (.ia (.sl 1) (.t 31) (.t 32)) [(31, .x (.t
  0)), (32, .x (.t 5))])]), (38, .op (.load false 1 (.t 37)) [(37, .op (.ia (.sl 1) (.t 35) (.t 36)) [(35, .x (.t 0)), (36, .x (.t 6))])])]) (.seq (.reg [.set 4 (.x (.c (.s (.bool
  false)))), .tick 1] false) .ret) .skip))) (.reg [.set 6 (.op (.bin .add .num (.t 29) (.c (.s (.int .i64 1)))) [(29, .x (.t 6))]), .tick 3] false)))))))) (.reg [.set 5 (.op (.bin
  .add .num (.t 11) (.c (.s (.int .i64 1)))) [(11, .x (.t 5))]), .tick 3] false)))))) (.seq (.reg [.set 4 (.x (.c (.s (.bool true)))), .tick 1] false) .ret))
theorem f65 : sF EE 65 [7, 8, 9, 10, 13, 14, 15, 16, 17, 18, 19, 20, 21, 22, 23, 24, 25, 26, 27, 28, 31, 32, 33, 34, 35, 36, 37, 38, 39, 29, 30, 11, 12] = some ⟨40, [.t 4], c65⟩ :=
  by kernel_rfl
/- 66 lineage/codec.Uint -/
def c66 : SC := .seq (.reg [.set 2 (.x (.c (.s (.int (.u64) 0)))), .set 3 (.x (.c (.s (.int .i64 0)))), .set 4 (.x (.c (.s (.int .i64 0)))), .tick 3] false) (.seq (.reg [.set 5 (.x
  (.c (.s (.int (.u64) 0)))), .tick 1] false) (.seq (.seq (.reg [.set 6 (.x (.c (.s (.int .i64 0)))), .tick 1] false) (.block 0 (.loop (.seq (.seq (.reg [.tick 8] false) (.cond
  (.pick (.op (.bin .lss .num (.t 8) (.t 10)) [(8, .x (.t 6)), (10, .op (.len (.sl 0) (.t 9)) [(9, .x (.t 0))])]) (.op (.bin .lss .num (.t 13) (.c (.s (.int .i64 10)))) [(13, .x
  (.t 6))]) (.x (.c (.s (.bool false))))) .skip (.exit 0))) (.seq (.block 1 (.seq (.reg [.set 7 (.op (.load false 1 (.t 20)) [(20, .op (.ia (.sl 1) (.t 18) (.t 19)) [(18, .x (.t
  0)), (19, .x (.t 6))])]), .tick 5] false) (.seq (.seq (.reg [.tick 6] false) (.cond (.pick (.op (.bin .eql .num (.t 22) (.c (.s (.int .i64 9)))) [(22, .x (.t 6))]) (.op (.bin
  .gtr .num (.t 25) (.c (.s (.int .u8 1)))) [(25, .x (.t 7))]) (.x (.c (.s (.bool false))))) (.exit 0) .skip)) (.seq (.reg [.set 5 (.op (.bin .or .num (.t 28) (.t 34)) [(28, .x (.t
  5)), (34, .op (.bin .shl .num (.t 31) (.t 33)) [(31, .op (.conv (.int (.u64)) (.t 30)) [(30, .op (.bin .and .num (.t 29) (.c (.s (.int .u8 127)))) [(29, .x (.t 7))])]), (33, .op
  (.bin .mul .num (.c (.s (.int .i64 7))) (.t 32)) [(32, .x (.t 6))])])]), .tick 9] false) (.seq (.reg [.tick 2] false) (.seq (.reg [.need [] (.op (.bin .shl .num (.t 31) (.t 33))
  [(31, .op (.conv (.int (.u64)) (.t 30)) [(30, .op (.bin .and .num (.t 29) (.c (.s (.int .u8 127)))) [(29, .x (.t 7))])]), (33, .op (.bin .mul .num (.c (.s (.int .i64 7))) (.t
  32)) [(32, .x (.t 6))])])] false) (.cond (.op (.bin .lss .num (.t 36) (.c (.s (.int .u8 128)))) [(36, .x (.t 7))]) (.seq (.seq (.reg [.tick 6] false) (.cond (.pick (.op (.bin
  .eql .num (.t 38) (.c (.s (.int .u8 0)))) [(38, .x (.t 7))]) (.op (.bin .gtr .num (.t 41) (.c (.s (.int .i64 0)))) [(41, .x (.t 6))]) (.x (.c (.s (.bool false))))) (.exit 0)
  .skip)) (.seq (.reg [.set 2 (.x (.t 5)), .set 3 (.op (.bin .add .num (.t 45) (.c (.s (.int .i64 1)))) [(45, .x (.t 6))]), .set 4 (.x (.c (.s (.int .i64 0)))), .tick 6] false)
  .ret)) .skip))))))) (.reg [.set 6 (.op (.bin .add .num (.t 16) (.c (.s (.int .i64 1)))) [(16, .x (.t 6))]), .tick 3] false)))))) (.seq (.reg [.set 2 (.x (.c (.s (.int (.u64)
  0)))), .set 3 (.x (.c (.s (.int .i64 0)))), .set 4 (.x (.c (.s (.int .i64 12)))), .tick 3] false) .ret)))
theorem f66 : sF EE 66 [8, 9, 10, 11, 12, 13, 14, 15, 18, 19, 20, 21, 22, 23, 24, 25, 26, 27, 28, 29, 30, 31, 32, 33, 34, 35, 36, 37, 38, 39, 40, 41, 42, 43, 44, 45, 46, 16, 17] =
  some ⟨47, [.t 2, .t 3, .t 4], c66⟩ := by kernel_rfl
/- 67 (*lineage/catalog.decoder).text -/
def c67 : SC := .seq (.reg [.set 2 (.x (.c (.s (.str [])))), .tick 1] false) (.seq (.reg [.tick 4, .act (some 11) [] (.call 97 [.t 10]) [(10, .op (.load false 1 (.t 9)) [(9, .op
  (.fa 0 (.t 8)) [(8, .op (.chk (.t 7)) [(7, .x (.t 0))])])])], .set 3 (.op (.ext (.t 6) 0) [(6, .x (.t 11))]), .set 4 (.op (.ext (.t 6) 1) [(6, .x (.t 11))]), .set 5 (.op (.ext
  (.t 6) 2) [(6, .x (.t 11))]), .tick 7] false) (.seq (.seq (.reg [.tick 2] false) (.cond (.op (.bin .neq .num (.t 15) (.c (.s (.int .i64 0)))) [(15, .x (.t 5))]) (.seq (.reg
  [.tick 3, .act none [] (.store 1 (.t 19) (.c (.s (.bool false)))) [(19, .op (.fa 1 (.t 18)) [(18, .op (.chk (.t 17)) [(17, .x (.t 0))])])]] false) (.seq (.reg [.set 2 (.x (.c (.s
  (.str [])))), .tick 1] false) .ret)) .skip)) (.seq (.reg [.tick 9, .act none [] (.store 1 (.t 28) (.t 26)) [(28, .op (.fa 0 (.t 27)) [(27, .op (.chk (.t 20)) [(20, .x (.t
  0))])]), (26, .op (.sl (.sl 1) (.t 24) (some (.t 25)) none) [(24, .op (.load false 1 (.t 23)) [(23, .op (.fa 0 (.t 22)) [(22, .op (.chk (.t 21)) [(21, .x (.t 0))])])]), (25, .x
  (.t 4))])]] false) (.seq (.reg [.set 2 (.x (.t 3)), .tick 2] false) .ret))))
theorem f67 : sF EE 67 [7, 8, 9, 10, 6, 12, 13, 14, 15, 16, 17, 18, 19, 20, 21, 22, 23, 24, 25, 26, 27, 28, 29] = some ⟨30, [.t 2], c67⟩ := by kernel_rfl
/- 68 lineage/catalog.list[lineage/api.Column] -/
def c68 : SC := .seq (.reg [.set 4 (.x (.c (.s .nils))), .tick 1] false) (.seq (.reg [.set 5 (.x (.c (.s .nils))), .tick 1] false) (.seq (.seq (.reg [.tick 1, .act (some 8) []
  (.call 25 [.t 7]) [(7, .x (.t 0))], .set 6 (.x (.t 8)), .tick 1] false) (.block 0 (.loop (.seq (.seq (.reg [.tick 8] false) (.cond (.pick (.op (.bin .gtr .num (.t 9) (.c (.s
  (.int .i64 0)))) [(9, .x (.t 6))]) (.op (.load false 1 (.t 14)) [(14, .op (.fa 1 (.t 13)) [(13, .op (.chk (.t 12)) [(12, .x (.t 0))])])]) (.x (.c (.s (.bool false))))) .skip
  (.exit 0))) (.seq (.block 1 (.reg [.tick 2, .act (some 21) [] (.callv (.t 20) []) [(20, .x (.t 1))], .act (some 22) [] (.rows 2 [.str [], .int .i64 0] 1 [(0, .t 21)]) [], .act
  (some 23) [] (.app 40 2 (.t 19) (.t 22)) [(19, .x (.t 5))], .set 5 (.x (.t 23)), .tick 1] false)) (.reg [.set 6 (.op (.bin .sub .num (.t 17) (.c (.s (.int .i64 1)))) [(17, .x (.t
  6))]), .tick 3] false)))))) (.seq (.reg [.set 4 (.x (.t 5)), .tick 2] false) .ret)))
theorem f68 : sF EE 68 [7, 9, 10, 11, 12, 13, 14, 15, 16, 19, 20, 17, 18, 24] = some ⟨25, [.t 4], c68⟩ := by kernel_rfl
/- 69 (*lineage/catalog.decoder).column -/
def c69 : SC := .seq (.reg [.act (some 2) [] (.alloc 40 [.str [], .int .i64 0]) []] false) (.seq (.reg [.tick 1, .act (some 5) [] (.call 67 [.t 4]) [(4, .x (.t 0))], .set 3 (.x (.t
  5)), .tick 1] false) (.seq (.reg [.tick 2, .act (some 8) [] (.call 25 [.t 7]) [(7, .x (.t 0))], .tick 1, .act none [] (.store 2 (.t 2) (.t 9)) [(9, .op (.build [.str [], .int
  .i64 0] [(0, 1, .t 6), (1, 1, .t 8)]) [(6, .x (.t 3))])]] false) .ret))
theorem f69 : sF EE 69 [4, 6, 7, 9] = some ⟨10, [.cell true 2 2], c69⟩ := by kernel_rfl
/- 70 lineage/catalog.list[int] -/
def c70 : SC := .seq (.reg [.set 4 (.x (.c (.s .nils))), .tick 1] false) (.seq (.reg [.set 5 (.x (.c (.s .nils))), .tick 1] false) (.seq (.seq (.reg [.tick 1, .act (some 8) []
  (.call 25 [.t 7]) [(7, .x (.t 0))], .set 6 (.x (.t 8)), .tick 1] false) (.block 0 (.loop (.seq (.seq (.reg [.tick 8] false) (.cond (.pick (.op (.bin .gtr .num (.t 9) (.c (.s
  (.int .i64 0)))) [(9, .x (.t 6))]) (.op (.load false 1 (.t 14)) [(14, .op (.fa 1 (.t 13)) [(13, .op (.chk (.t 12)) [(12, .x (.t 0))])])]) (.x (.c (.s (.bool false))))) .skip
  (.exit 0))) (.seq (.block 1 (.reg [.tick 2, .act (some 21) [] (.callv (.t 20) []) [(20, .x (.t 1))], .act (some 22) [] (.rows 1 [.int .i64 0] 1 [(0, .t 21)]) [], .act (some 23)
  [] (.app 3 1 (.t 19) (.t 22)) [(19, .x (.t 5))], .set 5 (.x (.t 23)), .tick 1] false)) (.reg [.set 6 (.op (.bin .sub .num (.t 17) (.c (.s (.int .i64 1)))) [(17, .x (.t 6))]),
  .tick 3] false)))))) (.seq (.reg [.set 4 (.x (.t 5)), .tick 2] false) .ret)))
theorem f70 : sF EE 70 [7, 9, 10, 11, 12, 13, 14, 15, 16, 19, 20, 17, 18, 24] = some ⟨25, [.t 4], c70⟩ := by kernel_rfl
/- 71 lineage/catalog.list[lineage/api.IndexDef] -/
def c71 : SC := .seq (.reg [.set 4 (.x (.c (.s .nils))), .tick 1] false) (.seq (.reg [.set 5 (.x (.c (.s .nils))), .tick 1] false) (.seq (.seq (.reg [.tick 1, .act (some 8) []
  (.call 25 [.t 7]) [(7, .x (.t 0))], .set 6 (.x (.t 8)), .tick 1] false) (.block 0 (.loop (.seq (.seq (.reg [.tick 8] false) (.cond (.pick (.op (.bin .gtr .num (.t 9) (.c (.s
  (.int .i64 0)))) [(9, .x (.t 6))]) (.op (.load false 1 (.t 14)) [(14, .op (.fa 1 (.t 13)) [(13, .op (.chk (.t 12)) [(12, .x (.t 0))])])]) (.x (.c (.s (.bool false))))) .skip
  (.exit 0))) (.seq (.block 1 (.reg [.tick 2, .act (some 21) [] (.callv (.t 20) []) [(20, .x (.t 1))], .act (some 22) [] (.rows 3 [.int .i64 0, .str [], .nils] 1 [(0, .t 21)]) [],
  .act (some 23) [] (.app 51 3 (.t 19) (.t 22)) [(19, .x (.t 5))], .set 5 (.x (.t 23)), .tick 1] false)) (.reg [.set 6 (.op (.bin .sub .num (.t 17) (.c (.s (.int .i64 1)))) [(17,
  .x (.t 6))]), .tick 3] false)))))) (.seq (.reg [.set 4 (.x (.t 5)), .tick 2] false) .ret)))
theorem f71 : sF EE 71 [7, 9, 10, 11, 12, 13, 14, 15, 16, 19, 20, 17, 18, 24] = some ⟨25, [.t 4], c71⟩ := by kernel_rfl
/- 72 (*lineage/catalog.decoder).index -/
def c72 : SC := .seq (.reg [.act (some 2) [] (.alloc 51 [.int .i64 0, .str [], .nils]) []] false) (.seq (.reg [.tick 1, .act (some 6) [] (.call 25 [.t 5]) [(5, .x (.t 0))], .set 3
  (.x (.t 6)), .tick 1] false) (.seq (.reg [.tick 1, .act (some 8) [] (.call 67 [.t 7]) [(7, .x (.t 0))], .set 4 (.x (.t 8)), .tick 1] false) (.seq (.reg [.tick 5, .act (some 14)
  [] (.call 70 [.t 11, .t 13]) [(11, .x (.t 0)), (13, .op (.mkf 25 [.t 12] []) [(12, .x (.t 0))])], .tick 1, .act none [] (.store 3 (.t 2) (.t 15)) [(15, .op (.build [.int .i64 0,
  .str [], .nils] [(0, 1, .t 9), (1, 1, .t 10), (2, 1, .t 14)]) [(9, .x (.t 3)), (10, .x (.t 4))])]] false) .ret)))
theorem f72 : sF EE 72 [5, 7, 9, 10, 11, 12, 13, 15] = some ⟨16, [.cell true 3 2], c72⟩ := by kernel_rfl
/- 73 lineage/lineageref04.AppendUint -/
def c73 : SC := .seq (.reg [.set 4 (.x (.c (.s .nils))), .tick 1] false) (.seq (.reg [.act (some 6) [] (.rows 1 [.int .u8 0] 0 []) [], .tick 1, .act (some 8) [] (.app 5 1 (.t 6)
  (.t 7)) [(7, .x (.t 0))], .set 5 (.x (.t 8)), .tick 1] false) (.seq (.block 0 (.loop (.seq (.seq (.reg [.tick 2] false) (.cond (.op (.bin .geq .num (.t 9) (.c (.s (.int (.u64)
  128)))) [(9, .x (.t 1))]) .skip (.exit 0))) (.block 1 (.seq (.reg [.tick 5, .act (some 16) [] (.rows 1 [.int .u8 0] 1 [(0, .t 15)]) [(15, .op (.conv (.int .u8) (.t 14)) [(14, .op
  (.bin .or .num (.t 13) (.c (.s (.int (.u64) 128)))) [(13, .op (.bin .and .num (.t 12) (.c (.s (.int (.u64) 127)))) [(12, .x (.t 1))])])])], .act (some 17) [] (.app 5 1 (.t 11)
  (.t 16)) [(11, .x (.t 5))], .set 5 (.x (.t 17)), .tick 1] false) (.reg [.set 1 (.op (.bin .shr .num (.t 18) (.c (.s (.int (.u64) 7)))) [(18, .x (.t 1))]), .tick 3] false))))))
  (.seq (.reg [.tick 3, .act (some 23) [] (.rows 1 [.int .u8 0] 1 [(0, .t 22)]) [(22, .op (.conv (.int .u8) (.t 21)) [(21, .x (.t 1))])], .act (some 24) [] (.app 5 1 (.t 20) (.t
  23)) [(20, .x (.t 5))], .set 4 (.x (.t 24)), .tick 1] false) .ret)))
theorem f73 : sF EE 73 [7, 9, 10, 11, 12, 13, 14, 15, 18, 19, 20, 21, 22] = some ⟨25, [.t 4], c73⟩ := by kernel_rfl
/- 74 lineage/lineageref19.ints -/
def c74 : SC := .seq (.reg [.set 4 (.x (.c (.s (.bool false)))), .tick 1] false) (.seq (.seq (.reg [.tick 5] false) (.cond (.op (.bin .neq .num (.t 7) (.t 9)) [(7, .op (.len (.sl
  0) (.t 6)) [(6, .x (.t 0))]), (9, .op (.len (.sl 0) (.t 8)) [(8, .x (.t 1))])]) (.seq (.reg [.set 4 (.x (.c (.s (.bool false)))), .tick 1] false) .ret) .skip)) (.seq (.seq (.reg
  [.set 5 (.x (.c (.s (.int .i64 0)))), .tick 1] false) (.block 0 (.loop (.seq (.seq (.reg [.tick 4] false) (.cond (.op (.bin .lss .num (.t 11) (.t 13)) [(11, .x (.t 5)), (13, .op
  (.len (.sl 0) (.t 12)) [(12, .x (.t 0))])]) .skip (.exit 0))) (.seq (.block 1 (.seq (.reg [.tick 9] true) (.cond (.op (.bin .neq .num (.t 20) (.t 24)) [(20, .op (.load false 1
  (.t 19)) [(19, .op (.ia (.sl 1) (.t 17) (.t 18)) [(17, .x (.t 0)), (18, .x (.t 5))])]), (24, .op (.load false 1 (.t 23)) [(23, .op (.ia (.sl 1) (.t 21) (.t 22)) [(21, .x (.t 1)),
  (22, .x (.t 5))])])]) (.seq (.reg [.set 4 (.x (.c (.s (.bool false)))), .tick 1] false) .ret) .skip))) (.reg [.set 5 (.op (.bin .add .num (.t 15) (.c (.s (.int .i64 1)))) [(15,
  .x (.t 5))]), .tick 3] false)))))) (.seq (.reg [.set 4 (.x (.c (.s (.bool true)))), .tick 1] false) .ret)))
theorem f74 : sF EE 74 [6, 7, 8, 9, 10, 11, 12, 13, 14, 17, 18, 19, 20, 21, 22, 23, 24, 25, 15, 16] = some ⟨26, [.t 4], c74⟩ := by kernel_rfl
/- 75 lineage/catalog.validColumns$1 -/
def c75 : SC := .seq (.reg [.act (some 1) [] (.box 40 (.t 0)) [], .set 2 (.x (.c (.s (.bool false)))), .tick 1] false) (.seq (.reg [.tick 2, .act (some 5) [] (.call 36 [.t 4]) [(4,
  .op (.load false 1 (.t 3)) [(3, .op (.fa 0 (.t 1)) [])])], .set 2 (.pick (.pick (.op (.un .not (.t 5)) []) (.x (.c (.s (.bool true)))) (.op (.bin .lss .num (.t 9) (.c (.s (.int
  .i64 0)))) [(9, .op (.load false 1 (.t 8)) [(8, .op (.fa 1 (.t 1)) [])])])) (.x (.c (.s (.bool true)))) (.op (.bin .gtr .num (.t 14) (.c (.s (.int .i64 2)))) [(14, .op (.load
  false 1 (.t 13)) [(13, .op (.fa 1 (.t 1)) [])])])), .tick 12] false) .ret)
theorem f75 : sF EE 75 [3, 4, 6, 7, 8, 9, 10, 11, 12, 13, 14, 15, 16] = some ⟨17, [.t 2], c75⟩ := by kernel_rfl
/- 76 slices.ContainsFunc[[]lineage/api.Column,lineage/api.Column] -/
def c76 : SC := .seq (.reg [.set 4 (.x (.c (.s (.bool false)))), .tick 1] false) (.seq (.reg [.tick 2, .act (some 7) [] (.call 98 [.t 5, .t 6]) [(5, .x (.t 0)), (6, .x (.t 1))],
  .set 4 (.op (.bin .geq .num (.t 7) (.c (.s (.int .i64 0)))) []), .tick 2] false) .ret)
theorem f76 : sF EE 76 [5, 6, 8] = some ⟨9, [.t 4], c76⟩ := by kernel_rfl
/- 77 lineage/catalog.names -/
def c77 : SC := .seq (.reg [.set 2 (.x (.c (.s .nils))), .tick 1] false) (.seq (.reg [.set 3 (.x (.c (.s .nils))), .tick 1] false) (.seq (.seq (.reg [.set 6 (.x (.t 0)), .set 7
  (.op (.len (.sl 0) (.t 6)) []), .set 8 (.x (.c (.s (.int .i64 0)))), .tick 3] false) (.block 0 (.loop (.seq (.reg [.tick 1] false) (.seq (.cond (.op (.bin .lss .num (.t 8) (.t
  7)) []) .skip (.exit 0)) (.seq (.block 1 (.seq (.reg [.set 11 (.op (.load true 2 (.t 10)) [(10, .op (.ia (.sl 2) (.t 6) (.t 8)) [])]), .tick 2, .act (some 5) [] (.alloc 40 [.str
  [], .int .i64 0]) [], .act none [] (.store 2 (.t 5) (.t 11)) []] false) (.reg [.tick 3, .act (some 15) [] (.rows 1 [.str []] 1 [(0, .t 14)]) [(14, .op (.load false 1 (.t 13))
  [(13, .op (.fa 0 (.t 5)) [])])], .act (some 16) [] (.app 9 1 (.t 12) (.t 15)) [(12, .x (.t 3))], .set 3 (.x (.t 16)), .tick 1] false))) (.reg [.set 8 (.op (.bin .add .num (.t 8)
  (.c (.s (.int .i64 1)))) []), .tick 2] false))))))) (.seq (.reg [.set 2 (.x (.t 3)), .tick 2] false) .ret)))
theorem f77 : sF EE 77 [9, 10, 12, 13, 14, 17, 18] = some ⟨19, [.t 2], c77⟩ := by kernel_rfl
/- 78 slices.Index[[]string,string] -/
def c78 : SC := .seq (.reg [.set 4 (.x (.c (.s (.int .i64 0)))), .tick 1] false) (.seq (.seq (.reg [.set 7 (.op (.len (.sl 0) (.t 6)) [(6, .x (.t 0))]), .set 8 (.x (.c (.s (.int
  .i64 0)))), .tick 3] false) (.block 0 (.loop (.seq (.reg [.tick 1] false) (.seq (.cond (.op (.bin .lss .num (.t 8) (.t 7)) []) .skip (.exit 0)) (.seq (.block 1 (.seq (.reg [.set
  5 (.x (.t 8)), .tick 2] false) (.seq (.reg [.tick 6] false) (.cond (.op (.bin .eql .num (.t 11) (.t 15)) [(11, .x (.t 1)), (15, .op (.load false 1 (.t 14)) [(14, .op (.ia (.sl 1)
  (.t 12) (.t 13)) [(12, .x (.t 0)), (13, .x (.t 5))])])]) (.seq (.reg [.set 4 (.x (.t 5)), .tick 2] false) .ret) .skip)))) (.reg [.set 8 (.op (.bin .add .num (.t 8) (.c (.s (.int
  .i64 1)))) []), .tick 2] false))))))) (.seq (.reg [.set 4 (.x (.c (.s (.int .i64 (-1))))), .tick 1] false) .ret))
theorem f78 : sF EE 78 [6, 9, 10, 11, 12, 13, 14, 15, 16, 17, 18] = some ⟨19, [.t 4], c78⟩ := by kernel_rfl
/- 79 slices.Contains[[]int,int] -/
def c79 : SC := .seq (.reg [.set 4 (.x (.c (.s (.bool false)))), .tick 1] false) (.seq (.reg [.tick 2, .act (some 7) [] (.call 99 [.t 5, .t 6]) [(5, .x (.t 0)), (6, .x (.t 1))],
  .set 4 (.op (.bin .geq .num (.t 7) (.c (.s (.int .i64 0)))) []), .tick 2] false) .ret)
theorem f79 : sF EE 79 [5, 6, 8] = some ⟨9, [.t 4], c79⟩ := by kernel_rfl
/- 80 slices.Contains[[]string,string] -/
def c80 : SC := .seq (.reg [.set 4 (.x (.c (.s (.bool false)))), .tick 1] false) (.seq (.reg [.tick 2, .act (some 7) [] (.call 78 [.t 5, .t 6]) [(5, .x (.t 0)), (6, .x (.t 1))],
  .set 4 (.op (.bin .geq .num (.t 7) (.c (.s (.int .i64 0)))) []), .tick 2] false) .ret)
theorem f80 : sF EE 80 [5, 6, 8] = some ⟨9, [.t 4], c80⟩ := by kernel_rfl
/- 81 slices.Clone[[]lineage/api.TableDef,lineage/api.TableDef] -/
def c81 : SC := .seq (.reg [.set 2 (.x (.c (.s .nils))), .tick 1] false) (.seq (.seq (.reg [.tick 2] false) (.cond (.op (.bin .eql .slice (.t 3) (.c (.s .nils))) [(3, .x (.t 0))])
  (.seq (.reg [.set 2 (.x (.c (.s .nils))), .tick 1] false) .ret) .skip)) (.seq (.reg [.act (some 5) [] (.rows 5 [.int .i64 0, .str [], .nils, .nils, .nils] 0 []) [], .tick 1, .act
  (some 7) [] (.app 47 5 (.t 5) (.t 6)) [(6, .x (.t 0))], .set 2 (.x (.t 7)), .tick 1] false) .ret))
theorem f81 : sF EE 81 [3, 4, 6] = some ⟨8, [.t 2], c81⟩ := by kernel_rfl
/- 82 slices.Clone[[]lineage/api.ViewDef,lineage/api.ViewDef] -/
def c82 : SC := .seq (.reg [.set 2 (.x (.c (.s .nils))), .tick 1] false) (.seq (.seq (.reg [.tick 2] false) (.cond (.op (.bin .eql .slice (.t 3) (.c (.s .nils))) [(3, .x (.t 0))])
  (.seq (.reg [.set 2 (.x (.c (.s .nils))), .tick 1] false) .ret) .skip)) (.seq (.reg [.act (some 5) [] (.rows 4 [.int .i64 0, .str [], .str [], .bool false] 0 []) [], .tick 1,
  .act (some 7) [] (.app 53 4 (.t 5) (.t 6)) [(6, .x (.t 0))], .set 2 (.x (.t 7)), .tick 1] false) .ret))
theorem f82 : sF EE 82 [3, 4, 6] = some ⟨8, [.t 2], c82⟩ := by kernel_rfl
/- 83 lineage/catalog.copiedTable -/
def c83 : SC := .seq (.reg [.act (some 1) [] (.box 47 (.t 0)) [], .act (some 2) [] (.alloc 47 [.int .i64 0, .str [], .nils, .nils, .nils]) []] false) (.seq (.reg [.tick 2, .act
  (some 7) [] (.call 42 [.t 6]) [(6, .op (.load false 1 (.t 5)) [(5, .op (.fa 2 (.t 1)) [])])], .tick 2, .act (some 10) [] (.call 100 [.t 9]) [(9, .op (.load false 1 (.t 8)) [(8,
  .op (.fa 3 (.t 1)) [])])], .tick 2, .act (some 13) [] (.call 101 [.t 12]) [(12, .op (.load false 1 (.t 11)) [(11, .op (.fa 4 (.t 1)) [])])], .tick 1, .act none [] (.store 1 (.t
  14) (.t 7)) [(14, .op (.fa 2 (.t 1)) [])], .tick 1, .act none [] (.store 1 (.t 15) (.t 10)) [(15, .op (.fa 3 (.t 1)) [])], .tick 1, .act none [] (.store 1 (.t 16) (.t 13)) [(16,
  .op (.fa 4 (.t 1)) [])]] true) (.seq (.seq (.reg [.set 18 (.op (.load false 1 (.t 17)) [(17, .op (.fa 4 (.t 1)) [])]), .set 19 (.op (.len (.sl 0) (.t 18)) []), .set 20 (.x (.c
  (.s (.int .i64 0)))), .tick 4] false) (.block 0 (.loop (.seq (.reg [.tick 1] false) (.seq (.cond (.op (.bin .lss .num (.t 20) (.t 19)) []) .skip (.exit 0)) (.seq (.block 1 (.seq
  (.reg [.set 24 (.op (.load true 3 (.t 23)) [(23, .op (.ia (.sl 3) (.t 18) (.t 20)) [])]), .tick 3, .act (some 4) [] (.alloc 51 [.int .i64 0, .str [], .nils]) [], .set 3 (.x (.t
  20)), .tick 1, .act none [] (.store 3 (.t 4) (.t 24)) []] false) (.reg [.set 26 (.op (.load false 1 (.t 25)) [(25, .op (.fa 4 (.t 1)) [])]), .tick 5, .act (some 30) [] (.call 100
  [.t 29]) [(29, .op (.load false 1 (.t 28)) [(28, .op (.fa 2 (.t 4)) [])])], .tick 2, .act none [] (.store 1 (.t 32) (.t 30)) [(32, .op (.fa 2 (.t 31)) [(31, .op (.ia (.sl 3) (.t
  26) (.t 27)) [(27, .x (.t 3))])])]] true))) (.reg [.set 20 (.op (.bin .add .num (.t 20) (.c (.s (.int .i64 1)))) []), .tick 2] false))))))) (.seq (.reg [.tick 1, .act none []
  (.store 5 (.t 2) (.t 34)) [(34, .op (.load true 5 (.t 1)) [])]] false) .ret)))
theorem f83 : sF EE 83 [5, 6, 8, 9, 11, 12, 14, 15, 16, 17, 21, 22, 23, 25, 27, 28, 29, 31, 32, 33, 34] = some ⟨35, [.cell true 5 2], c83⟩ := by kernel_rfl
/- 84 lineage/value.names -/
def c84 : SC := .seq (.reg [.set 0 (.x (.c (.s .nils))), .tick 1] false) (.seq (.reg [.act (some 1) [] (.rows 1 [.str []] 3 [(0, .c (.s (.str [73, 78, 84, 69, 71, 69, 82]))), (1,
  .c (.s (.str [84, 69, 88, 84]))), (2, .c (.s (.str [66, 79, 79, 76, 69, 65, 78])))]) [], .set 0 (.x (.t 1)), .tick 1] false) .ret)
theorem f84 : sF EE 84 [] = some ⟨2, [.t 0], c84⟩ := by kernel_rfl
/- 88 slices.IndexFunc[[]lineage/api.TableDef,lineage/api.TableDef] -/
def c88 : SC := .seq (.reg [.set 4 (.x (.c (.s (.int .i64 0)))), .tick 1] false) (.seq (.seq (.reg [.set 7 (.op (.len (.sl 0) (.t 6)) [(6, .x (.t 0))]), .set 8 (.x (.c (.s (.int
  .i64 0)))), .tick 3] false) (.block 0 (.loop (.seq (.reg [.tick 1] false) (.seq (.cond (.op (.bin .lss .num (.t 8) (.t 7)) []) .skip (.exit 0)) (.seq (.block 1 (.seq (.reg [.set
  5 (.x (.t 8)), .tick 2] false) (.seq (.reg [.tick 5, .act (some 16) [] (.callv (.t 11) [.t 15]) [(11, .x (.t 1)), (15, .op (.load true 5 (.t 14)) [(14, .op (.ia (.sl 5) (.t 12)
  (.t 13)) [(12, .x (.t 0)), (13, .x (.t 5))])])]] false) (.cond (.x (.t 16)) (.seq (.reg [.set 4 (.x (.t 5)), .tick 2] false) .ret) .skip)))) (.reg [.set 8 (.op (.bin .add .num
  (.t 8) (.c (.s (.int .i64 1)))) []), .tick 2] false))))))) (.seq (.reg [.set 4 (.x (.c (.s (.int .i64 (-1))))), .tick 1] false) .ret))
theorem f88 : sF EE 88 [6, 9, 10, 11, 12, 13, 14, 15, 17, 18] = some ⟨19, [.t 4], c88⟩ := by kernel_rfl
/- 89 slices.IndexFunc[[]string,string] -/
def c89 : SC := .seq (.reg [.set 4 (.x (.c (.s (.int .i64 0)))), .tick 1] false) (.seq (.seq (.reg [.set 7 (.op (.len (.sl 0) (.t 6)) [(6, .x (.t 0))]), .set 8 (.x (.c (.s (.int
  .i64 0)))), .tick 3] false) (.block 0 (.loop (.seq (.reg [.tick 1] false) (.seq (.cond (.op (.bin .lss .num (.t 8) (.t 7)) []) .skip (.exit 0)) (.seq (.block 1 (.seq (.reg [.set
  5 (.x (.t 8)), .tick 2] false) (.seq (.reg [.tick 5, .act (some 16) [] (.callv (.t 11) [.t 15]) [(11, .x (.t 1)), (15, .op (.load false 1 (.t 14)) [(14, .op (.ia (.sl 1) (.t 12)
  (.t 13)) [(12, .x (.t 0)), (13, .x (.t 5))])])]] false) (.cond (.x (.t 16)) (.seq (.reg [.set 4 (.x (.t 5)), .tick 2] false) .ret) .skip)))) (.reg [.set 8 (.op (.bin .add .num
  (.t 8) (.c (.s (.int .i64 1)))) []), .tick 2] false))))))) (.seq (.reg [.set 4 (.x (.c (.s (.int .i64 (-1))))), .tick 1] false) .ret))
theorem f89 : sF EE 89 [6, 9, 10, 11, 12, 13, 14, 15, 17, 18] = some ⟨19, [.t 4], c89⟩ := by kernel_rfl
/- 90 slices.IndexFunc[[]int,int] -/
def c90 : SC := .seq (.reg [.set 4 (.x (.c (.s (.int .i64 0)))), .tick 1] false) (.seq (.seq (.reg [.set 7 (.op (.len (.sl 0) (.t 6)) [(6, .x (.t 0))]), .set 8 (.x (.c (.s (.int
  .i64 0)))), .tick 3] false) (.block 0 (.loop (.seq (.reg [.tick 1] false) (.seq (.cond (.op (.bin .lss .num (.t 8) (.t 7)) []) .skip (.exit 0)) (.seq (.block 1 (.seq (.reg [.set
  5 (.x (.t 8)), .tick 2] false) (.seq (.reg [.tick 5, .act (some 16) [] (.callv (.t 11) [.t 15]) [(11, .x (.t 1)), (15, .op (.load false 1 (.t 14)) [(14, .op (.ia (.sl 1) (.t 12)
  (.t 13)) [(12, .x (.t 0)), (13, .x (.t 5))])])]] false) (.cond (.x (.t 16)) (.seq (.reg [.set 4 (.x (.t 5)), .tick 2] false) .ret) .skip)))) (.reg [.set 8 (.op (.bin .add .num
  (.t 8) (.c (.s (.int .i64 1)))) []), .tick 2] false))))))) (.seq (.reg [.set 4 (.x (.c (.s (.int .i64 (-1))))), .tick 1] false) .ret))
theorem f90 : sF EE 90 [6, 9, 10, 11, 12, 13, 14, 15, 17, 18] = some ⟨19, [.t 4], c90⟩ := by kernel_rfl
/- 91 lineage/catalog.validTable$1 -/
def c91 : SC := .seq (.reg [.act (some 2) [] (.box 51 (.t 0)) [], .set 3 (.x (.c (.s (.bool false)))), .tick 1] false) (.seq (.reg [.set 8 (.op (.bin .eql .num (.t 6) (.c (.s (.int
  .i64 0)))) [(6, .op (.len (.sl 0) (.t 5)) [(5, .op (.load false 1 (.t 4)) [(4, .op (.fa 2 (.t 2)) [])])])]), .tick 10, .act (some 14) [(.x (.t 8), false)] (.call 92 [.t 10, .t
  13]) [(10, .op (.load false 1 (.t 9)) [(9, .op (.fa 2 (.t 2)) [])]), (13, .op (.len (.sl 0) (.t 12)) [(12, .op (.load false 1 (.t 11)) [(11, .op (.fa 2 (.t 1)) [])])])], .set 3
  (.pick (.x (.t 8)) (.x (.c (.s (.bool true)))) (.op (.un .not (.t 14)) [])), .tick 3] false) (.seq (.reg [.need [(.x (.t 8), false)] (.op (.un .not (.t 14)) [])] false) .ret))
theorem f91 : sF EE 91 [4, 5, 6, 7, 9, 10, 11, 12, 13, 15, 16] = some ⟨17, [.t 3], c91⟩ := by kernel_rfl
/- 92 lineage/catalog.indices -/
def c92 : SC := .seq (.reg [.act (some 3) [] (.box 3 (.t 1)) [], .set 4 (.x (.c (.s (.bool false)))), .tick 1] false) (.seq (.reg [.tick 1, .act (some 6) [] (.call 49 [.t 5]) [(5,
  .x (.t 0))], .tick 3, .act (some 10) [(.x (.t 6), true)] (.call 52 [.t 8, .t 9]) [(8, .x (.t 0)), (9, .op (.mkf 104 [] [.t 3]) [])], .set 4 (.pick (.x (.t 6)) (.op (.un .not (.t
  10)) []) (.x (.c (.s (.bool false))))), .tick 3] false) .ret)
theorem f92 : sF EE 92 [5, 7, 8, 9, 11, 12] = some ⟨13, [.t 4], c92⟩ := by kernel_rfl
/- 93 slices.IsSortedFunc[[]lineage/api.IndexDef,lineage/api.IndexDef] -/
def c93 : SC := .seq (.reg [.set 4 (.x (.c (.s (.bool false)))), .tick 1] false) (.seq (.seq (.reg [.set 5 (.op (.bin .sub .num (.t 7) (.c (.s (.int .i64 1)))) [(7, .op (.len (.sl
  0) (.t 6)) [(6, .x (.t 0))])]), .tick 4] false) (.block 0 (.loop (.seq (.seq (.reg [.tick 2] false) (.cond (.op (.bin .gtr .num (.t 9) (.c (.s (.int .i64 0)))) [(9, .x (.t 5))])
  .skip (.exit 0))) (.seq (.block 1 (.seq (.reg [.tick 10, .act (some 23) [] (.callv (.t 13) [.t 17, .t 22]) [(13, .x (.t 1)), (17, .op (.load true 3 (.t 16)) [(16, .op (.ia (.sl
  3) (.t 14) (.t 15)) [(14, .x (.t 0)), (15, .x (.t 5))])]), (22, .op (.load true 3 (.t 21)) [(21, .op (.ia (.sl 3) (.t 18) (.t 20)) [(18, .x (.t 0)), (20, .op (.bin .sub .num (.t
  19) (.c (.s (.int .i64 1)))) [(19, .x (.t 5))])])])], .tick 1] true) (.cond (.op (.bin .lss .num (.t 23) (.c (.s (.int .i64 0)))) []) (.seq (.reg [.set 4 (.x (.c (.s (.bool
  false)))), .tick 1] false) .ret) .skip))) (.reg [.set 5 (.op (.bin .sub .num (.t 11) (.c (.s (.int .i64 1)))) [(11, .x (.t 5))]), .tick 3] false)))))) (.seq (.reg [.set 4 (.x (.c
  (.s (.bool true)))), .tick 1] false) .ret))
theorem f93 : sF EE 93 [6, 7, 8, 9, 10, 13, 14, 15, 16, 17, 18, 19, 20, 21, 22, 24, 11, 12] = some ⟨25, [.t 4], c93⟩ := by kernel_rfl
/- 94 lineage/catalog.validTable$2 -/
def c94 : SC := .seq (.reg [.act (some 2) [] (.box 51 (.t 0)) [], .act (some 3) [] (.box 51 (.t 1)) [], .set 4 (.x (.c (.s (.int .i64 0)))), .tick 1] false) (.seq (.reg [.set 4
  (.op (.bin .sub .num (.t 6) (.t 8)) [(6, .op (.load false 1 (.t 5)) [(5, .op (.fa 0 (.t 2)) [])]), (8, .op (.load false 1 (.t 7)) [(7, .op (.fa 0 (.t 3)) [])])]), .tick 6] false)
  .ret)
theorem f94 : sF EE 94 [5, 6, 7, 8, 9] = some ⟨10, [.t 4], c94⟩ := by kernel_rfl
/- 95 slices.ContainsFunc[[]lineage/api.IndexDef,lineage/api.IndexDef] -/
def c95 : SC := .seq (.reg [.set 4 (.x (.c (.s (.bool false)))), .tick 1] false) (.seq (.reg [.tick 2, .act (some 7) [] (.call 105 [.t 5, .t 6]) [(5, .x (.t 0)), (6, .x (.t 1))],
  .set 4 (.op (.bin .geq .num (.t 7) (.c (.s (.int .i64 0)))) []), .tick 2] false) .ret)
theorem f95 : sF EE 95 [5, 6, 8] = some ⟨9, [.t 4], c95⟩ := by kernel_rfl
/- 96 slices.IndexFunc[[]lineage/api.ViewDef,lineage/api.ViewDef] -/
def c96 : SC := .seq (.reg [.set 4 (.x (.c (.s (.int .i64 0)))), .tick 1] false) (.seq (.seq (.reg [.set 7 (.op (.len (.sl 0) (.t 6)) [(6, .x (.t 0))]), .set 8 (.x (.c (.s (.int
  .i64 0)))), .tick 3] false) (.block 0 (.loop (.seq (.reg [.tick 1] false) (.seq (.cond (.op (.bin .lss .num (.t 8) (.t 7)) []) .skip (.exit 0)) (.seq (.block 1 (.seq (.reg [.set
  5 (.x (.t 8)), .tick 2] false) (.seq (.reg [.tick 5, .act (some 16) [] (.callv (.t 11) [.t 15]) [(11, .x (.t 1)), (15, .op (.load true 4 (.t 14)) [(14, .op (.ia (.sl 4) (.t 12)
  (.t 13)) [(12, .x (.t 0)), (13, .x (.t 5))])])]] false) (.cond (.x (.t 16)) (.seq (.reg [.set 4 (.x (.t 5)), .tick 2] false) .ret) .skip)))) (.reg [.set 8 (.op (.bin .add .num
  (.t 8) (.c (.s (.int .i64 1)))) []), .tick 2] false))))))) (.seq (.reg [.set 4 (.x (.c (.s (.int .i64 (-1))))), .tick 1] false) .ret))
theorem f96 : sF EE 96 [6, 9, 10, 11, 12, 13, 14, 15, 17, 18] = some ⟨19, [.t 4], c96⟩ := by kernel_rfl
/- 97 lineage/codec.String -/
def c97 : SC := .seq (.reg [.set 2 (.x (.c (.s (.str [])))), .set 3 (.x (.c (.s (.int .i64 0)))), .set 4 (.x (.c (.s (.int .i64 0)))), .tick 3] false) (.seq (.reg [.tick 1, .act
  (some 10) [] (.call 66 [.t 9]) [(9, .x (.t 0))], .set 5 (.op (.ext (.t 8) 0) [(8, .x (.t 10))]), .set 6 (.op (.ext (.t 8) 1) [(8, .x (.t 10))]), .set 7 (.op (.ext (.t 8) 2) [(8,
  .x (.t 10))]), .tick 7] false) (.seq (.seq (.reg [.tick 11] false) (.cond (.pick (.op (.bin .neq .num (.t 14) (.c (.s (.int .i64 0)))) [(14, .x (.t 7))]) (.x (.c (.s (.bool
  true)))) (.op (.bin .gtr .num (.t 17) (.t 22)) [(17, .x (.t 5)), (22, .op (.conv (.int (.u64)) (.t 21)) [(21, .op (.bin .sub .num (.t 19) (.t 20)) [(19, .op (.len (.sl 0) (.t
  18)) [(18, .x (.t 0))]), (20, .x (.t 6))])])])) (.seq (.reg [.set 2 (.x (.c (.s (.str [])))), .set 3 (.x (.c (.s (.int .i64 0)))), .set 4 (.x (.c (.s (.int .i64 12)))), .tick 3]
  false) .ret) .skip)) (.seq (.reg [.set 2 (.op (.conv (.str true) (.t 31)) [(31, .op (.sl (.sl 1) (.t 25) (some (.t 26)) (some (.t 30))) [(25, .x (.t 0)), (26, .x (.t 6)), (30,
  .op (.bin .add .num (.t 27) (.t 29)) [(27, .x (.t 6)), (29, .op (.conv (.int .i64) (.t 28)) [(28, .x (.t 5))])])])]), .set 3 (.op (.bin .add .num (.t 33) (.t 35)) [(33, .x (.t
  6)), (35, .op (.conv (.int .i64) (.t 34)) [(34, .x (.t 5))])]), .set 4 (.x (.c (.s (.int .i64 0)))), .tick 15] false) .ret)))
theorem f97 : sF EE 97 [9, 8, 11, 12, 13, 14, 15, 16, 17, 18, 19, 20, 21, 22, 23, 24, 25, 26, 27, 28, 29, 30, 31, 32, 33, 34, 35, 36] = some ⟨37, [.t 2, .t 3, .t 4], c97⟩ := by
  kernel_rfl
/- 98 slices.IndexFunc[[]lineage/api.Column,lineage/api.Column] -/
def c98 : SC := .seq (.reg [.set 4 (.x (.c (.s (.int .i64 0)))), .tick 1] false) (.seq (.seq (.reg [.set 7 (.op (.len (.sl 0) (.t 6)) [(6, .x (.t 0))]), .set 8 (.x (.c (.s (.int
  .i64 0)))), .tick 3] false) (.block 0 (.loop (.seq (.reg [.tick 1] false) (.seq (.cond (.op (.bin .lss .num (.t 8) (.t 7)) []) .skip (.exit 0)) (.seq (.block 1 (.seq (.reg [.set
  5 (.x (.t 8)), .tick 2] false) (.seq (.reg [.tick 5, .act (some 16) [] (.callv (.t 11) [.t 15]) [(11, .x (.t 1)), (15, .op (.load true 2 (.t 14)) [(14, .op (.ia (.sl 2) (.t 12)
  (.t 13)) [(12, .x (.t 0)), (13, .x (.t 5))])])]] false) (.cond (.x (.t 16)) (.seq (.reg [.set 4 (.x (.t 5)), .tick 2] false) .ret) .skip)))) (.reg [.set 8 (.op (.bin .add .num
  (.t 8) (.c (.s (.int .i64 1)))) []), .tick 2] false))))))) (.seq (.reg [.set 4 (.x (.c (.s (.int .i64 (-1))))), .tick 1] false) .ret))
theorem f98 : sF EE 98 [6, 9, 10, 11, 12, 13, 14, 15, 17, 18] = some ⟨19, [.t 4], c98⟩ := by kernel_rfl
/- 99 slices.Index[[]int,int] -/
def c99 : SC := .seq (.reg [.set 4 (.x (.c (.s (.int .i64 0)))), .tick 1] false) (.seq (.seq (.reg [.set 7 (.op (.len (.sl 0) (.t 6)) [(6, .x (.t 0))]), .set 8 (.x (.c (.s (.int
  .i64 0)))), .tick 3] false) (.block 0 (.loop (.seq (.reg [.tick 1] false) (.seq (.cond (.op (.bin .lss .num (.t 8) (.t 7)) []) .skip (.exit 0)) (.seq (.block 1 (.seq (.reg [.set
  5 (.x (.t 8)), .tick 2] false) (.seq (.reg [.tick 6] false) (.cond (.op (.bin .eql .num (.t 11) (.t 15)) [(11, .x (.t 1)), (15, .op (.load false 1 (.t 14)) [(14, .op (.ia (.sl 1)
  (.t 12) (.t 13)) [(12, .x (.t 0)), (13, .x (.t 5))])])]) (.seq (.reg [.set 4 (.x (.t 5)), .tick 2] false) .ret) .skip)))) (.reg [.set 8 (.op (.bin .add .num (.t 8) (.c (.s (.int
  .i64 1)))) []), .tick 2] false))))))) (.seq (.reg [.set 4 (.x (.c (.s (.int .i64 (-1))))), .tick 1] false) .ret))
theorem f99 : sF EE 99 [6, 9, 10, 11, 12, 13, 14, 15, 16, 17, 18] = some ⟨19, [.t 4], c99⟩ := by kernel_rfl
/- 100 slices.Clone[[]int,int] -/
def c100 : SC := .seq (.reg [.set 2 (.x (.c (.s .nils))), .tick 1] false) (.seq (.seq (.reg [.tick 2] false) (.cond (.op (.bin .eql .slice (.t 3) (.c (.s .nils))) [(3, .x (.t 0))])
  (.seq (.reg [.set 2 (.x (.c (.s .nils))), .tick 1] false) .ret) .skip)) (.seq (.reg [.act (some 5) [] (.rows 1 [.int .i64 0] 0 []) [], .tick 1, .act (some 7) [] (.app 3 1 (.t 5)
  (.t 6)) [(6, .x (.t 0))], .set 2 (.x (.t 7)), .tick 1] false) .ret))
theorem f100 : sF EE 100 [3, 4, 6] = some ⟨8, [.t 2], c100⟩ := by kernel_rfl
/- 101 slices.Clone[[]lineage/api.IndexDef,lineage/api.IndexDef] -/
def c101 : SC := .seq (.reg [.set 2 (.x (.c (.s .nils))), .tick 1] false) (.seq (.seq (.reg [.tick 2] false) (.cond (.op (.bin .eql .slice (.t 3) (.c (.s .nils))) [(3, .x (.t 0))])
  (.seq (.reg [.set 2 (.x (.c (.s .nils))), .tick 1] false) .ret) .skip)) (.seq (.reg [.act (some 5) [] (.rows 3 [.int .i64 0, .str [], .nils] 0 []) [], .tick 1, .act (some 7) []
  (.app 51 3 (.t 5) (.t 6)) [(6, .x (.t 0))], .set 2 (.x (.t 7)), .tick 1] false) .ret))
theorem f101 : sF EE 101 [3, 4, 6] = some ⟨8, [.t 2], c101⟩ := by kernel_rfl
/- 104 lineage/catalog.indices$1 -/
def c104 : SC := .seq (.reg [.set 3 (.x (.c (.s (.bool false)))), .tick 1] false) (.seq (.reg [.set 3 (.pick (.op (.bin .lss .num (.t 4) (.c (.s (.int .i64 0)))) [(4, .x (.t 0))])
  (.x (.c (.s (.bool true)))) (.op (.bin .geq .num (.t 7) (.t 8)) [(7, .x (.t 0)), (8, .op (.load false 1 (.t 1)) [])])), .tick 8] false) .ret)
theorem f104 : sF EE 104 [4, 5, 6, 7, 8, 9, 10] = some ⟨11, [.t 3], c104⟩ := by kernel_rfl
/- 105 slices.IndexFunc[[]lineage/api.IndexDef,lineage/api.IndexDef] -/
def c105 : SC := .seq (.reg [.set 4 (.x (.c (.s (.int .i64 0)))), .tick 1] false) (.seq (.seq (.reg [.set 7 (.op (.len (.sl 0) (.t 6)) [(6, .x (.t 0))]), .set 8 (.x (.c (.s (.int
  .i64 0)))), .tick 3] false) (.block 0 (.loop (.seq (.reg [.tick 1] false) (.seq (.cond (.op (.bin .lss .num (.t 8) (.t 7)) []) .skip (.exit 0)) (.seq (.block 1 (.seq (.reg [.set
  5 (.x (.t 8)), .tick 2] false) (.seq (.reg [.tick 5, .act (some 16) [] (.callv (.t 11) [.t 15]) [(11, .x (.t 1)), (15, .op (.load true 3 (.t 14)) [(14, .op (.ia (.sl 3) (.t 12)
  (.t 13)) [(12, .x (.t 0)), (13, .x (.t 5))])])]] false) (.cond (.x (.t 16)) (.seq (.reg [.set 4 (.x (.t 5)), .tick 2] false) .ret) .skip)))) (.reg [.set 8 (.op (.bin .add .num
  (.t 8) (.c (.s (.int .i64 1)))) []), .tick 2] false))))))) (.seq (.reg [.set 4 (.x (.c (.s (.int .i64 (-1))))), .tick 1] false) .ret))
theorem f105 : sF EE 105 [6, 9, 10, 11, 12, 13, 14, 15, 17, 18] = some ⟨19, [.t 4], c105⟩ := by kernel_rfl
end Go.Vm
