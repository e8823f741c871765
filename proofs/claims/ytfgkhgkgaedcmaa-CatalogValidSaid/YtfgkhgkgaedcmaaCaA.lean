/- The functions of chapter 19, as statements of the machine. -/
import Derived.Test.YtfgkhgkgaedcmaaVmZM
import Derived.Test.YtfgkhgkgaedcmaaChecked
set_option linter.unusedVariables false
set_option maxRecDepth 100000
namespace Go.Vm
open Go.Proofs
def useL : List Nat := [3, 4, 5, 6, 7, 8, 9, 10, 11, 12, 13, 14, 15, 16, 17, 18, 19, 20, 21, 22, 23, 24, 25, 26, 27, 28, 29, 30, 31, 32, 33, 34, 35, 36, 37, 38, 39, 40, 41, 42, 43, 44, 45, 46, 47, 48, 49, 50, 51, 52, 53, 54, 55, 56, 57, 58, 59, 60, 61, 62, 64, 65, 66, 67, 68, 69, 70, 71, 72, 73, 74, 75, 76, 77, 78, 80, 82, 84, 85, 86, 87, 88, 89, 90, 91, 92, 93, 94, 95, 96, 97, 98, 102, 103, 104, 105, 106, 107, 108, 109, 110, 111, 112, 113, 114, 115, 116, 117, 120, 121]
noncomputable def EE : Env := { P := Try.prog, ext := fun f => if f = 63 then some joinX else none, ref := fun f => [72,73,74,75,106,88,89,90,58,110,120,39,41,43,46,95,112,42,91,115,102,56,57,59,80,82,84].contains f, use := fun f => useL.contains f, dyn := fun _ => true, G := fun _ => none }
/- 3 lineage/lineagelaw19.CatalogValid -/
def c3 : SC := .seq (.reg [.act (some 2) [] (.box 25 (.t 0)) [], .set 4 (.x (.c (.s (.bool false)))), .tick 1] false) (.seq (.seq (.reg [.act (some 5) [] (.call 9 []) [], .need []
  (.op (.un .not (.t 5)) []), .tick 3, .act (some 9) [(.op (.un .not (.t 5)) [], false)] (.call 10 [.t 8]) [(8, .op (.load true 3 (.t 2)) [])], .tick 7] false) (.cond (.pick (.pick
  (.op (.un .not (.t 5)) []) (.x (.c (.s (.bool true)))) (.op (.un .not (.t 9)) [])) (.x (.c (.s (.bool true)))) (.op (.bin .gtr .num (.t 14) (.c (.s (.int .i64 100)))) [(14, .op
  (.len .str (.t 13)) [(13, .x (.t 1))])])) (.seq (.reg [.act (some 17) [] (.call 9 []) [], .set 4 (.x (.t 17)), .tick 1] false) .ret) .skip)) (.seq (.regD [.tick 1, .act (some 19)
  [] (.call 11 [.t 18]) [(18, .op (.load true 3 (.t 2)) [])], .tick 1, .act (some 21) [] (.call 12 [.t 20]) [(20, .op (.load true 3 (.t 2)) [])], .need [] (.op (.bin .eql .bool (.t
  19) (.t 21)) []), .tick 3, .act (some 25) [(.op (.bin .eql .bool (.t 19) (.t 21)) [], true)] (.call 13 [.t 24]) [(24, .x (.t 1))], .tick 1, .act (some 27) [(.op (.bin .eql .bool
  (.t 19) (.t 21)) [], true)] (.call 14 [.t 26]) [(26, .x (.t 1))], .set 4 (.pick (.op (.bin .eql .bool (.t 19) (.t 21)) []) (.op (.bin .eql .bool (.t 25) (.t 27)) []) (.x (.c (.s
  (.bool false))))), .tick 3] [] [1, 1]) .ret))
theorem f3 : sF EE 3 [6, 7, 8, 10, 11, 12, 13, 14, 15, 16, 18, 20, 22, 23, 24, 26, 28, 29] = some ⟨30, [.t 4], c3⟩ := by kernel_rfl
/- 9 lineage/lineagelaw19.awake -/
def c9 : SC := .seq (.reg [.set 0 (.x (.c (.s (.bool false)))), .tick 1] false) (.seq (.reg [.need [] (.op (.build [.nils, .nils, .int .i64 0] []) []), .tick 3, .act (some 10) []
  (.rows 2 [.str [], .int .i64 0] 2 [(0, .t 8), (1, .t 9)]) [(8, .op (.build [.str [], .int .i64 0] [(0, 1, .c (.s (.str [97]))), (1, 1, .c (.s (.int .i64 0)))]) []), (9, .op
  (.build [.str [], .int .i64 0] [(0, 1, .c (.s (.str [98]))), (1, 1, .c (.s (.int .i64 1)))]) [])], .act (some 11) [] (.rows 1 [.str []] 1 [(0, .c (.s (.str [97])))]) [], .act
  (some 12) [] (.call 35 [.t 7, .c (.s (.str [116])), .t 10, .t 11]) [(7, .op (.build [.nils, .nils, .int .i64 0] []) [])], .need [] (.op (.ext (.t 6) 1) [(6, .x (.t 12))]), .need
  [] (.op (.ext (.t 6) 0) [(6, .x (.t 12))]), .tick 3, .act (some 1) [] (.alloc 25 [.nils, .nils, .int .i64 0]) [], .act none [] (.store 3 (.t 1) (.t 13)) [(13, .op (.ext (.t 6) 0)
  [(6, .x (.t 12))])], .set 2 (.op (.ext (.t 6) 1) [(6, .x (.t 12))]), .tick 1] false) (.seq (.reg [.tick 1, .act (some 16) [] (.call 22 [.t 15]) [(15, .op (.load true 3 (.t 1))
  [])], .set 3 (.x (.t 16)), .tick 1] false) (.seq (.reg [.tick 1, .act (some 19) [] (.call 15 [.t 18, .c (.s (.str [116]))]) [(18, .op (.load true 3 (.t 1)) [])], .need [] (.op
  (.ext (.t 17) 1) [(17, .x (.t 19))]), .need [] (.op (.ext (.t 17) 0) [(17, .x (.t 19))]), .tick 3, .act (some 4) [] (.alloc 34 [.int .i64 0, .str [], .nils, .nils, .nils]) [],
  .act none [] (.store 5 (.t 4) (.t 20)) [(20, .op (.ext (.t 17) 0) [(17, .x (.t 19))])], .set 5 (.op (.ext (.t 17) 1) [(17, .x (.t 19))]), .tick 1] false) (.seq (.reg [.set 0
  (.pick (.pick (.pick (.pick (.pick (.op (.bin .eql .num (.t 22) (.c (.s (.int .i64 0)))) [(22, .x (.t 2))]) (.x (.t 5)) (.x (.c (.s (.bool false))))) (.op (.bin .eql .num (.t 29)
  (.c (.s (.int .i64 1)))) [(29, .op (.load false 1 (.t 28)) [(28, .op (.fa 0 (.t 4)) [])])]) (.x (.c (.s (.bool false))))) (.op (.bin .eql .num (.t 34) (.c (.s (.int .i64 1))))
  [(34, .op (.load false 1 (.t 33)) [(33, .op (.fa 2 (.t 1)) [])])]) (.x (.c (.s (.bool false))))) (.op (.bin .eql .num (.t 39) (.c (.s (.int .i64 1)))) [(39, .op (.len (.sl 0) (.t
  38)) [(38, .x (.t 3))])]) (.x (.c (.s (.bool false))))) (.op (.bin .eql .num (.t 45) (.c (.s (.str [67, 82, 69, 65, 84, 69, 32, 84, 65, 66, 76, 69, 32, 116, 32, 40, 97, 32, 73,
  78, 84, 69, 71, 69, 82, 44, 32, 98, 32, 84, 69, 88, 84, 44, 32, 80, 82, 73, 77, 65, 82, 89, 32, 75, 69, 89, 32, 40, 97, 41, 41])))) [(45, .op (.load false 1 (.t 44)) [(44, .op
  (.ia (.sl 1) (.t 43) (.c (.s (.int .i64 0)))) [(43, .x (.t 3))])])]) (.x (.c (.s (.bool false))))), .tick 27] false) .ret))))
theorem f9 : sF EE 9 [7, 8, 9, 6, 13, 14, 15, 18, 17, 20, 21, 22, 23, 24, 25, 26, 27, 28, 29, 30, 31, 32, 33, 34, 35, 36, 37, 38, 39, 40, 41, 42, 43, 44, 45, 46, 47] = some ⟨48,
  [.t 0], c9⟩ := by kernel_rfl
/- 10 lineage/lineageref19.Few -/
def c10 : SC := .seq (.reg [.act (some 1) [] (.box 25 (.t 0)) [], .set 2 (.x (.c (.s (.bool false)))), .tick 1] false) (.seq (.seq (.reg [.tick 10] false) (.cond (.pick (.op (.bin
  .gtr .num (.t 10) (.c (.s (.int .i64 70)))) [(10, .op (.len (.sl 0) (.t 9)) [(9, .op (.load false 1 (.t 8)) [(8, .op (.fa 0 (.t 1)) [])])])]) (.x (.c (.s (.bool true)))) (.op
  (.bin .gtr .num (.t 15) (.c (.s (.int .i64 70)))) [(15, .op (.len (.sl 0) (.t 14)) [(14, .op (.load false 1 (.t 13)) [(13, .op (.fa 1 (.t 1)) [])])])])) (.seq (.reg [.set 2 (.x
  (.c (.s (.bool false)))), .tick 1] false) .ret) .skip)) (.seq (.seq (.reg [.set 3 (.x (.c (.s (.int .i64 0)))), .tick 1] false) (.block 0 (.loop (.seq (.seq (.reg [.tick 5]
  false) (.cond (.op (.bin .lss .num (.t 18) (.t 21)) [(18, .x (.t 3)), (21, .op (.len (.sl 0) (.t 20)) [(20, .op (.load false 1 (.t 19)) [(19, .op (.fa 0 (.t 1)) [])])])]) .skip
  (.exit 0))) (.seq (.block 1 (.seq (.reg [.set 29 (.op (.load true 5 (.t 28)) [(28, .op (.ia (.sl 5) (.t 26) (.t 27)) [(26, .op (.load false 1 (.t 25)) [(25, .op (.fa 0 (.t 1))
  [])]), (27, .x (.t 3))])]), .tick 5, .act (some 4) [] (.alloc 34 [.int .i64 0, .str [], .nils, .nils, .nils]) [], .act none [] (.store 5 (.t 4) (.t 29)) []] false) (.seq (.seq
  (.reg [.tick 22] false) (.cond (.pick (.pick (.pick (.op (.bin .gtr .num (.t 32) (.c (.s (.int .i64 100)))) [(32, .op (.len .str (.t 31)) [(31, .op (.load false 1 (.t 30)) [(30,
  .op (.fa 1 (.t 4)) [])])])]) (.x (.c (.s (.bool true)))) (.op (.bin .gtr .num (.t 37) (.c (.s (.int .i64 20)))) [(37, .op (.len (.sl 0) (.t 36)) [(36, .op (.load false 1 (.t 35))
  [(35, .op (.fa 2 (.t 4)) [])])])])) (.x (.c (.s (.bool true)))) (.op (.bin .gtr .num (.t 43) (.c (.s (.int .i64 20)))) [(43, .op (.len (.sl 0) (.t 42)) [(42, .op (.load false 1
  (.t 41)) [(41, .op (.fa 3 (.t 4)) [])])])])) (.x (.c (.s (.bool true)))) (.op (.bin .gtr .num (.t 49) (.c (.s (.int .i64 70)))) [(49, .op (.len (.sl 0) (.t 48)) [(48, .op (.load
  false 1 (.t 47)) [(47, .op (.fa 4 (.t 4)) [])])])])) (.seq (.reg [.set 2 (.x (.c (.s (.bool false)))), .tick 1] false) .ret) .skip)) (.seq (.seq (.reg [.set 5 (.x (.c (.s (.int
  .i64 0)))), .tick 1] false) (.block 2 (.loop (.seq (.seq (.reg [.tick 5] false) (.cond (.op (.bin .lss .num (.t 52) (.t 55)) [(52, .x (.t 5)), (55, .op (.len (.sl 0) (.t 54))
  [(54, .op (.load false 1 (.t 53)) [(53, .op (.fa 2 (.t 4)) [])])])]) .skip (.exit 2))) (.seq (.block 3 (.seq (.reg [.tick 8] false) (.cond (.op (.bin .gtr .num (.t 65) (.c (.s
  (.int .i64 100)))) [(65, .op (.len .str (.t 64)) [(64, .op (.load false 1 (.t 63)) [(63, .op (.fa 0 (.t 62)) [(62, .op (.ia (.sl 2) (.t 60) (.t 61)) [(60, .op (.load false 1 (.t
  59)) [(59, .op (.fa 2 (.t 4)) [])]), (61, .x (.t 5))])])])])]) (.seq (.reg [.set 2 (.x (.c (.s (.bool false)))), .tick 1] false) .ret) .skip))) (.reg [.set 5 (.op (.bin .add .num
  (.t 57) (.c (.s (.int .i64 1)))) [(57, .x (.t 5))]), .tick 3] false)))))) (.seq (.reg [.set 6 (.x (.c (.s (.int .i64 0)))), .tick 1] false) (.block 4 (.loop (.seq (.seq (.reg
  [.tick 5] false) (.cond (.op (.bin .lss .num (.t 67) (.t 70)) [(67, .x (.t 6)), (70, .op (.len (.sl 0) (.t 69)) [(69, .op (.load false 1 (.t 68)) [(68, .op (.fa 4 (.t 4))
  [])])])]) .skip (.exit 4))) (.seq (.block 5 (.seq (.reg [.tick 18] false) (.cond (.pick (.op (.bin .gtr .num (.t 80) (.c (.s (.int .i64 100)))) [(80, .op (.len .str (.t 79))
  [(79, .op (.load false 1 (.t 78)) [(78, .op (.fa 1 (.t 77)) [(77, .op (.ia (.sl 3) (.t 75) (.t 76)) [(75, .op (.load false 1 (.t 74)) [(74, .op (.fa 4 (.t 4)) [])]), (76, .x (.t
  6))])])])])]) (.x (.c (.s (.bool true)))) (.op (.bin .gtr .num (.t 89) (.c (.s (.int .i64 20)))) [(89, .op (.len (.sl 0) (.t 88)) [(88, .op (.load false 1 (.t 87)) [(87, .op (.fa
  2 (.t 86)) [(86, .op (.ia (.sl 3) (.t 84) (.t 85)) [(84, .op (.load false 1 (.t 83)) [(83, .op (.fa 4 (.t 4)) [])]), (85, .x (.t 6))])])])])])) (.seq (.reg [.set 2 (.x (.c (.s
  (.bool false)))), .tick 1] false) .ret) .skip))) (.reg [.set 6 (.op (.bin .add .num (.t 72) (.c (.s (.int .i64 1)))) [(72, .x (.t 6))]), .tick 3] false)))))))))) (.reg [.set 3
  (.op (.bin .add .num (.t 23) (.c (.s (.int .i64 1)))) [(23, .x (.t 3))]), .tick 3] false)))))) (.seq (.seq (.reg [.set 7 (.x (.c (.s (.int .i64 0)))), .tick 1] false) (.block 6
  (.loop (.seq (.seq (.reg [.tick 5] false) (.cond (.op (.bin .lss .num (.t 92) (.t 95)) [(92, .x (.t 7)), (95, .op (.len (.sl 0) (.t 94)) [(94, .op (.load false 1 (.t 93)) [(93,
  .op (.fa 1 (.t 1)) [])])])]) .skip (.exit 6))) (.seq (.block 7 (.seq (.reg [.tick 18] false) (.cond (.pick (.op (.bin .gtr .num (.t 105) (.c (.s (.int .i64 100)))) [(105, .op
  (.len .str (.t 104)) [(104, .op (.load false 1 (.t 103)) [(103, .op (.fa 1 (.t 102)) [(102, .op (.ia (.sl 4) (.t 100) (.t 101)) [(100, .op (.load false 1 (.t 99)) [(99, .op (.fa
  1 (.t 1)) [])]), (101, .x (.t 7))])])])])]) (.x (.c (.s (.bool true)))) (.op (.bin .gtr .num (.t 114) (.c (.s (.int .i64 20000)))) [(114, .op (.len .str (.t 113)) [(113, .op
  (.load false 1 (.t 112)) [(112, .op (.fa 2 (.t 111)) [(111, .op (.ia (.sl 4) (.t 109) (.t 110)) [(109, .op (.load false 1 (.t 108)) [(108, .op (.fa 1 (.t 1)) [])]), (110, .x (.t
  7))])])])])])) (.seq (.reg [.set 2 (.x (.c (.s (.bool false)))), .tick 1] false) .ret) .skip))) (.reg [.set 7 (.op (.bin .add .num (.t 97) (.c (.s (.int .i64 1)))) [(97, .x (.t
  7))]), .tick 3] false)))))) (.seq (.reg [.set 2 (.x (.c (.s (.bool true)))), .tick 1] false) .ret))))
theorem f10 : sF EE 10 [8, 9, 10, 11, 12, 13, 14, 15, 16, 17, 18, 19, 20, 21, 22, 25, 26, 27, 28, 30, 31, 32, 33, 34, 35, 36, 37, 38, 39, 40, 41, 42, 43, 44, 45, 46, 47, 48, 49,
  50, 51, 52, 53, 54, 55, 56, 59, 60, 61, 62, 63, 64, 65, 66, 57, 58, 67, 68, 69, 70, 71, 74, 75, 76, 77, 78, 79, 80, 81, 82, 83, 84, 85, 86, 87, 88, 89, 90, 91, 72, 73, 23, 24,
  92, 93, 94, 95, 96, 99, 100, 101, 102, 103, 104, 105, 106, 107, 108, 109, 110, 111, 112, 113, 114, 115, 116, 97, 98] = some ⟨117, [.t 2], c10⟩ := by kernel_rfl
/- 11 lineage/catalog.Valid -/
def c11 : SC := .seq (.reg [.act (some 1) [] (.box 25 (.t 0)) [], .set 2 (.x (.c (.s (.bool false)))), .tick 1] false) (.seq (.reg [.tick 1, .act (some 7) [] (.call 36 [.t 6]) [(6,
  .op (.load true 3 (.t 1)) [])], .set 3 (.op (.ext (.t 5) 0) [(5, .x (.t 7))]), .set 4 (.op (.ext (.t 5) 1) [(5, .x (.t 7))]), .tick 5] false) (.seq (.seq (.reg [.set 23 (.pick
  (.pick (.op (.bin .gtr .num (.t 11) (.c (.s (.int .i64 64)))) [(11, .op (.len (.sl 0) (.t 10)) [(10, .x (.t 3))])]) (.x (.c (.s (.bool true)))) (.op (.bin .lss .num (.t 15) (.c
  (.s (.int .i64 0)))) [(15, .op (.load false 1 (.t 14)) [(14, .op (.fa 2 (.t 1)) [])])])) (.x (.c (.s (.bool true)))) (.op (.bin .gtr .num (.t 20) (.c (.s (.int .i64
  2147483647)))) [(20, .op (.load false 1 (.t 19)) [(19, .op (.fa 2 (.t 1)) [])])])), .tick 15, .act (some 25) [(.x (.t 23), false)] (.call 37 [.t 24]) [(24, .x (.t 3))], .need []
  (.pick (.x (.t 23)) (.x (.c (.s (.bool true)))) (.op (.un .not (.t 25)) [])), .need [(.x (.t 23), false)] (.op (.un .not (.t 25)) []), .tick 4, .act (some 30) [(.pick (.x (.t
  23)) (.x (.c (.s (.bool true)))) (.op (.un .not (.t 25)) []), false)] (.call 38 [.t 29]) [(29, .x (.t 4))], .tick 2] false) (.cond (.pick (.pick (.x (.t 23)) (.x (.c (.s (.bool
  true)))) (.op (.un .not (.t 25)) [])) (.x (.c (.s (.bool true)))) (.op (.un .not (.t 30)) [])) (.seq (.reg [.set 2 (.x (.c (.s (.bool false)))), .tick 1] false) .ret) .skip))
  (.seq (.seq (.reg [.tick 1, .act (some 34) [] (.call 39 [.t 33, .c (.s (.func 40))]) [(33, .x (.t 3))], .tick 3, .act (some 38) [(.x (.t 34), false)] (.call 41 [.t 36, .t 37])
  [(36, .x (.t 4)), (37, .op (.mkf 42 [] [.t 1]) [])], .tick 1] false) (.cond (.pick (.x (.t 34)) (.x (.c (.s (.bool true)))) (.x (.t 38))) (.seq (.reg [.set 2 (.x (.c (.s (.bool
  false)))), .tick 1] false) .ret) .skip)) (.seq (.seq (.reg [.tick 2, .act (some 42) [] (.call 43 [.t 41, .c (.s (.func 44))]) [(41, .op (.load false 1 (.t 40)) [(40, .op (.fa 0
  (.t 1)) [])])], .tick 3, .act (some 46) [(.x (.t 42), false)] (.call 46 [.t 45, .c (.s (.func 47))]) [(45, .op (.load false 1 (.t 44)) [(44, .op (.fa 1 (.t 1)) [])])], .tick 1]
  false) (.cond (.pick (.x (.t 42)) (.x (.c (.s (.bool true)))) (.x (.t 46))) (.seq (.reg [.set 2 (.x (.c (.s (.bool false)))), .tick 1] false) .ret) .skip)) (.seq (.reg [.tick 2,
  .act (some 50) [] (.call 49 [.t 49, .c (.s (.func 50))]) [(49, .op (.load false 1 (.t 48)) [(48, .op (.fa 0 (.t 1)) [])])], .tick 3, .act (some 54) [(.x (.t 50), true)] (.call 51
  [.t 53, .c (.s (.func 52))]) [(53, .op (.load false 1 (.t 52)) [(52, .op (.fa 1 (.t 1)) [])])], .set 2 (.pick (.x (.t 50)) (.x (.t 54)) (.x (.c (.s (.bool false))))), .tick 2]
  false) .ret)))))
theorem f11 : sF EE 11 [6, 5, 8, 9, 10, 11, 12, 13, 14, 15, 16, 17, 18, 19, 20, 21, 22, 24, 26, 27, 28, 29, 31, 32, 33, 35, 36, 37, 39, 40, 41, 43, 44, 45, 47, 48, 49, 51, 52, 53,
  55] = some ⟨56, [.t 2], c11⟩ := by kernel_rfl
/- 12 lineage/lineageref19.Valid -/
def c12 : SC := .seq (.reg [.act (some 1) [] (.box 25 (.t 0)) [], .set 2 (.x (.c (.s (.bool false)))), .tick 1] false) (.seq (.reg [.tick 1, .act (some 10) [] (.call 28 [.t 9])
  [(9, .op (.load true 3 (.t 1)) [])], .tick 1, .act (some 12) [] (.call 29 [.t 11]) [(11, .op (.load true 3 (.t 1)) [])], .set 3 (.x (.t 10)), .set 4 (.x (.t 12)), .tick 2] true)
  (.seq (.seq (.reg [.set 26 (.pick (.pick (.op (.bin .lss .num (.t 14) (.c (.s (.int .i64 0)))) [(14, .op (.load false 1 (.t 13)) [(13, .op (.fa 2 (.t 1)) [])])]) (.x (.c (.s
  (.bool true)))) (.op (.bin .gtr .num (.t 18) (.c (.s (.int .i64 2147483647)))) [(18, .op (.load false 1 (.t 17)) [(17, .op (.fa 2 (.t 1)) [])])])) (.x (.c (.s (.bool true))))
  (.op (.bin .gtr .num (.t 23) (.c (.s (.int .i64 64)))) [(23, .op (.len (.sl 0) (.t 22)) [(22, .x (.t 3))])])), .tick 15, .act (some 28) [(.x (.t 26), false)] (.call 53 [.t 27])
  [(27, .x (.t 3))], .tick 2] false) (.seq (.reg [.need [(.x (.t 26), false)] (.op (.un .not (.t 28)) [])] false) (.cond (.pick (.x (.t 26)) (.x (.c (.s (.bool true)))) (.op (.un
  .not (.t 28)) [])) (.seq (.reg [.set 2 (.x (.c (.s (.bool false)))), .tick 1] false) .ret) .skip))) (.seq (.seq (.reg [.set 5 (.x (.c (.s (.int .i64 0)))), .tick 1] false)
  (.block 0 (.loop (.seq (.seq (.reg [.tick 4] false) (.cond (.op (.bin .lss .num (.t 31) (.t 33)) [(31, .x (.t 5)), (33, .op (.len (.sl 0) (.t 32)) [(32, .x (.t 4))])]) .skip
  (.exit 0))) (.seq (.block 1 (.seq (.seq (.reg [.tick 4, .act (some 41) [] (.call 14 [.t 40]) [(40, .op (.load false 1 (.t 39)) [(39, .op (.ia (.sl 1) (.t 37) (.t 38)) [(37, .x
  (.t 3)), (38, .x (.t 5))])])], .tick 17] true) (.cond (.pick (.pick (.op (.un .not (.t 41)) []) (.x (.c (.s (.bool true)))) (.op (.bin .lss .num (.t 47) (.c (.s (.int .i64 1))))
  [(47, .op (.load false 1 (.t 46)) [(46, .op (.ia (.sl 1) (.t 44) (.t 45)) [(44, .x (.t 4)), (45, .x (.t 5))])])])) (.x (.c (.s (.bool true)))) (.op (.bin .gtr .num (.t 54) (.t
  56)) [(54, .op (.load false 1 (.t 53)) [(53, .op (.ia (.sl 1) (.t 51) (.t 52)) [(51, .x (.t 4)), (52, .x (.t 5))])]), (56, .op (.load false 1 (.t 55)) [(55, .op (.fa 2 (.t 1))
  [])])])) (.seq (.reg [.set 2 (.x (.c (.s (.bool false)))), .tick 1] false) .ret) .skip)) (.seq (.reg [.set 6 (.x (.c (.s (.int .i64 0)))), .tick 1] false) (.block 2 (.loop (.seq
  (.seq (.reg [.tick 3] false) (.cond (.op (.bin .lss .num (.t 59) (.t 60)) [(59, .x (.t 6)), (60, .x (.t 5))]) .skip (.exit 2))) (.seq (.block 3 (.seq (.reg [.tick 9] true) (.cond
  (.op (.bin .eql .num (.t 67) (.t 71)) [(67, .op (.load false 1 (.t 66)) [(66, .op (.ia (.sl 1) (.t 64) (.t 65)) [(64, .x (.t 4)), (65, .x (.t 5))])]), (71, .op (.load false 1 (.t
  70)) [(70, .op (.ia (.sl 1) (.t 68) (.t 69)) [(68, .x (.t 4)), (69, .x (.t 6))])])]) (.seq (.reg [.set 2 (.x (.c (.s (.bool false)))), .tick 1] false) .ret) .skip))) (.reg [.set
  6 (.op (.bin .add .num (.t 62) (.c (.s (.int .i64 1)))) [(62, .x (.t 6))]), .tick 3] false)))))))) (.reg [.set 5 (.op (.bin .add .num (.t 35) (.c (.s (.int .i64 1)))) [(35, .x
  (.t 5))]), .tick 3] false)))))) (.seq (.seq (.reg [.set 7 (.x (.c (.s (.int .i64 0)))), .tick 1] false) (.block 4 (.loop (.seq (.seq (.reg [.tick 5] false) (.cond (.op (.bin .lss
  .num (.t 73) (.t 76)) [(73, .x (.t 7)), (76, .op (.len (.sl 0) (.t 75)) [(75, .op (.load false 1 (.t 74)) [(74, .op (.fa 0 (.t 1)) [])])])]) .skip (.exit 4))) (.seq (.block 5
  (.seq (.reg [.tick 5, .act (some 85) [] (.call 54 [.t 84]) [(84, .op (.load true 5 (.t 83)) [(83, .op (.ia (.sl 5) (.t 81) (.t 82)) [(81, .op (.load false 1 (.t 80)) [(80, .op
  (.fa 0 (.t 1)) [])]), (82, .x (.t 7))])])], .tick 21] true) (.cond (.pick (.op (.un .not (.t 85)) []) (.x (.c (.s (.bool true)))) (.pick (.op (.bin .gtr .num (.t 88) (.c (.s
  (.int .i64 0)))) [(88, .x (.t 7))]) (.op (.bin .geq .num (.t 97) (.t 103)) [(97, .op (.load false 1 (.t 96)) [(96, .op (.fa 0 (.t 95)) [(95, .op (.ia (.sl 5) (.t 92) (.t 94))
  [(92, .op (.load false 1 (.t 91)) [(91, .op (.fa 0 (.t 1)) [])]), (94, .op (.bin .sub .num (.t 93) (.c (.s (.int .i64 1)))) [(93, .x (.t 7))])])])]), (103, .op (.load false 1 (.t
  102)) [(102, .op (.fa 0 (.t 101)) [(101, .op (.ia (.sl 5) (.t 99) (.t 100)) [(99, .op (.load false 1 (.t 98)) [(98, .op (.fa 0 (.t 1)) [])]), (100, .x (.t 7))])])])]) (.x (.c (.s
  (.bool false)))))) (.seq (.reg [.set 2 (.x (.c (.s (.bool false)))), .tick 1] false) .ret) .skip))) (.reg [.set 7 (.op (.bin .add .num (.t 78) (.c (.s (.int .i64 1)))) [(78, .x
  (.t 7))]), .tick 3] false)))))) (.seq (.seq (.reg [.set 8 (.x (.c (.s (.int .i64 0)))), .tick 1] false) (.block 6 (.loop (.seq (.seq (.reg [.tick 5] false) (.cond (.op (.bin .lss
  .num (.t 107) (.t 110)) [(107, .x (.t 8)), (110, .op (.len (.sl 0) (.t 109)) [(109, .op (.load false 1 (.t 108)) [(108, .op (.fa 1 (.t 1)) [])])])]) .skip (.exit 6))) (.seq
  (.block 7 (.seq (.reg [.tick 38] true) (.cond (.pick (.pick (.op (.bin .lss .num (.t 120) (.c (.s (.int .i64 1)))) [(120, .op (.len .str (.t 119)) [(119, .op (.load false 1 (.t
  118)) [(118, .op (.fa 2 (.t 117)) [(117, .op (.ia (.sl 4) (.t 115) (.t 116)) [(115, .op (.load false 1 (.t 114)) [(114, .op (.fa 1 (.t 1)) [])]), (116, .x (.t 8))])])])])]) (.x
  (.c (.s (.bool true)))) (.op (.bin .gtr .num (.t 129) (.c (.s (.int .i64 16384)))) [(129, .op (.len .str (.t 128)) [(128, .op (.load false 1 (.t 127)) [(127, .op (.fa 2 (.t 126))
  [(126, .op (.ia (.sl 4) (.t 124) (.t 125)) [(124, .op (.load false 1 (.t 123)) [(123, .op (.fa 1 (.t 1)) [])]), (125, .x (.t 8))])])])])])) (.x (.c (.s (.bool true)))) (.pick
  (.op (.bin .gtr .num (.t 133) (.c (.s (.int .i64 0)))) [(133, .x (.t 8))]) (.op (.bin .geq .num (.t 142) (.t 148)) [(142, .op (.load false 1 (.t 141)) [(141, .op (.fa 0 (.t 140))
  [(140, .op (.ia (.sl 4) (.t 137) (.t 139)) [(137, .op (.load false 1 (.t 136)) [(136, .op (.fa 1 (.t 1)) [])]), (139, .op (.bin .sub .num (.t 138) (.c (.s (.int .i64 1)))) [(138,
  .x (.t 8))])])])]), (148, .op (.load false 1 (.t 147)) [(147, .op (.fa 0 (.t 146)) [(146, .op (.ia (.sl 4) (.t 144) (.t 145)) [(144, .op (.load false 1 (.t 143)) [(143, .op (.fa
  1 (.t 1)) [])]), (145, .x (.t 8))])])])]) (.x (.c (.s (.bool false)))))) (.seq (.reg [.set 2 (.x (.c (.s (.bool false)))), .tick 1] false) .ret) .skip))) (.reg [.set 8 (.op (.bin
  .add .num (.t 112) (.c (.s (.int .i64 1)))) [(112, .x (.t 8))]), .tick 3] false)))))) (.seq (.reg [.set 2 (.x (.c (.s (.bool true)))), .tick 1] false) .ret))))))
theorem f12 : sF EE 12 [9, 11, 13, 14, 15, 16, 17, 18, 19, 20, 21, 22, 23, 24, 25, 27, 29, 30, 31, 32, 33, 34, 37, 38, 39, 40, 42, 43, 44, 45, 46, 47, 48, 49, 50, 51, 52, 53, 54,
  55, 56, 57, 58, 59, 60, 61, 64, 65, 66, 67, 68, 69, 70, 71, 72, 62, 63, 35, 36, 73, 74, 75, 76, 77, 80, 81, 82, 83, 84, 86, 87, 88, 89, 90, 91, 92, 93, 94, 95, 96, 97, 98, 99,
  100, 101, 102, 103, 104, 105, 106, 78, 79, 107, 108, 109, 110, 111, 114, 115, 116, 117, 118, 119, 120, 121, 122, 123, 124, 125, 126, 127, 128, 129, 130, 131, 132, 133, 134, 135,
  136, 137, 138, 139, 140, 141, 142, 143, 144, 145, 146, 147, 148, 149, 150, 151, 112, 113] = some ⟨152, [.t 2], c12⟩ := by kernel_rfl
/- 13 lineage/catalog.ValidName -/
def c13 : SC := .seq (.reg [.set 2 (.x (.c (.s (.bool false)))), .tick 1] false) (.seq (.seq (.reg [.tick 1, .act (some 6) [] (.conv (.bytes 5) (.t 5)) [(5, .x (.t 0))], .set 7
  (.op (.len (.sl 0) (.t 6)) []), .set 8 (.x (.c (.s (.int .i64 0)))), .tick 2] false) (.block 0 (.loop (.seq (.reg [.tick 1] false) (.seq (.cond (.op (.bin .lss .num (.t 8) (.t
  7)) []) .skip (.exit 0)) (.seq (.block 1 (.seq (.reg [.set 3 (.x (.t 8)), .set 4 (.op (.load false 1 (.t 11)) [(11, .op (.ia (.sl 1) (.t 6) (.t 8)) [])]), .tick 5] false) (.block
  2 (.seq (.reg [.tick 7] false) (.cond (.pick (.op (.bin .geq .num (.t 14) (.c (.s (.int .u8 97)))) [(14, .x (.t 4))]) (.op (.bin .leq .num (.t 17) (.c (.s (.int .u8 122)))) [(17,
  .x (.t 4))]) (.x (.c (.s (.bool false))))) .skip (.seq (.reg [.tick 15] false) (.cond (.pick (.op (.bin .gtr .num (.t 21) (.c (.s (.int .i64 0)))) [(21, .x (.t 3))]) (.pick
  (.pick (.op (.bin .geq .num (.t 24) (.c (.s (.int .u8 48)))) [(24, .x (.t 4))]) (.op (.bin .leq .num (.t 27) (.c (.s (.int .u8 57)))) [(27, .x (.t 4))]) (.x (.c (.s (.bool
  false))))) (.x (.c (.s (.bool true)))) (.op (.bin .eql .num (.t 31) (.c (.s (.int .u8 95)))) [(31, .x (.t 4))])) (.x (.c (.s (.bool false))))) .skip (.seq (.reg [.set 2 (.x (.c
  (.s (.bool false)))), .tick 1] false) .ret)))))))) (.reg [.set 8 (.op (.bin .add .num (.t 8) (.c (.s (.int .i64 1)))) []), .tick 2] false))))))) (.seq (.reg [.set 2 (.pick (.op
  (.bin .geq .num (.t 37) (.c (.s (.int .i64 1)))) [(37, .op (.len .str (.t 36)) [(36, .x (.t 0))])]) (.op (.bin .leq .num (.t 41) (.c (.s (.int .i64 31)))) [(41, .op (.len .str
  (.t 40)) [(40, .x (.t 0))])]) (.x (.c (.s (.bool false))))), .tick 9] false) .ret))
theorem f13 : sF EE 13 [5, 9, 10, 11, 12, 14, 15, 16, 17, 18, 19, 13, 21, 22, 23, 24, 25, 26, 27, 28, 29, 30, 31, 32, 33, 34, 20, 35, 36, 37, 38, 39, 40, 41, 42, 43] = some ⟨44,
  [.t 2], c13⟩ := by kernel_rfl
/- 14 lineage/lineageref19.ValidName -/
def c14 : SC := .seq (.reg [.set 2 (.x (.c (.s (.bool false)))), .tick 1] false) (.seq (.seq (.reg [.tick 18] false) (.cond (.pick (.pick (.pick (.op (.bin .lss .num (.t 5) (.c (.s
  (.int .i64 1)))) [(5, .op (.len .str (.t 4)) [(4, .x (.t 0))])]) (.x (.c (.s (.bool true)))) (.op (.bin .gtr .num (.t 9) (.c (.s (.int .i64 31)))) [(9, .op (.len .str (.t 8))
  [(8, .x (.t 0))])])) (.x (.c (.s (.bool true)))) (.op (.bin .lss .num (.t 14) (.c (.s (.int .u8 97)))) [(14, .op (.iv .str (.t 13) (.c (.s (.int .i64 0)))) [(13, .x (.t 0))])]))
  (.x (.c (.s (.bool true)))) (.op (.bin .gtr .num (.t 19) (.c (.s (.int .u8 122)))) [(19, .op (.iv .str (.t 18) (.c (.s (.int .i64 0)))) [(18, .x (.t 0))])])) (.seq (.reg [.set 2
  (.x (.c (.s (.bool false)))), .tick 1] false) .ret) .skip)) (.seq (.seq (.reg [.set 3 (.x (.c (.s (.int .i64 0)))), .tick 1] false) (.block 0 (.loop (.seq (.seq (.reg [.tick 4]
  false) (.cond (.op (.bin .lss .num (.t 22) (.t 24)) [(22, .x (.t 3)), (24, .op (.len .str (.t 23)) [(23, .x (.t 0))])]) .skip (.exit 0))) (.seq (.block 1 (.seq (.reg [.tick 29]
  false) (.cond (.op (.un .not (.t 55)) [(55, .pick (.pick (.pick (.op (.bin .geq .num (.t 30) (.c (.s (.int .u8 97)))) [(30, .op (.iv .str (.t 28) (.t 29)) [(28, .x (.t 0)), (29,
  .x (.t 3))])]) (.op (.bin .leq .num (.t 35) (.c (.s (.int .u8 122)))) [(35, .op (.iv .str (.t 33) (.t 34)) [(33, .x (.t 0)), (34, .x (.t 3))])]) (.x (.c (.s (.bool false))))) (.x
  (.c (.s (.bool true)))) (.pick (.op (.bin .geq .num (.t 41) (.c (.s (.int .u8 48)))) [(41, .op (.iv .str (.t 39) (.t 40)) [(39, .x (.t 0)), (40, .x (.t 3))])]) (.op (.bin .leq
  .num (.t 46) (.c (.s (.int .u8 57)))) [(46, .op (.iv .str (.t 44) (.t 45)) [(44, .x (.t 0)), (45, .x (.t 3))])]) (.x (.c (.s (.bool false)))))) (.x (.c (.s (.bool true)))) (.op
  (.bin .eql .num (.t 53) (.c (.s (.int .u8 95)))) [(53, .op (.iv .str (.t 51) (.t 52)) [(51, .x (.t 0)), (52, .x (.t 3))])]))]) (.seq (.reg [.set 2 (.x (.c (.s (.bool false)))),
  .tick 1] false) .ret) .skip))) (.reg [.set 3 (.op (.bin .add .num (.t 26) (.c (.s (.int .i64 1)))) [(26, .x (.t 3))]), .tick 3] false)))))) (.seq (.reg [.set 2 (.x (.c (.s (.bool
  true)))), .tick 1] false) .ret)))
theorem f14 : sF EE 14 [4, 5, 6, 7, 8, 9, 10, 11, 12, 13, 14, 15, 16, 17, 18, 19, 20, 21, 22, 23, 24, 25, 28, 29, 30, 31, 32, 33, 34, 35, 36, 37, 38, 39, 40, 41, 42, 43, 44, 45,
  46, 47, 48, 49, 50, 51, 52, 53, 54, 55, 56, 26, 27] = some ⟨57, [.t 2], c14⟩ := by kernel_rfl
/- 28 lineage/lineageref19.Names -/
def c28 : SC := .seq (.reg [.act (some 1) [] (.box 25 (.t 0)) [], .set 2 (.x (.c (.s .nils))), .tick 1] false) (.seq (.reg [.act (some 7) [] (.rows 1 [.str []] 0 []) [], .set 3 (.x
  (.t 7)), .tick 1] false) (.seq (.seq (.reg [.set 4 (.x (.c (.s (.int .i64 0)))), .tick 1] false) (.block 0 (.loop (.seq (.seq (.reg [.tick 5] false) (.cond (.op (.bin .lss .num
  (.t 8) (.t 11)) [(8, .x (.t 4)), (11, .op (.len (.sl 0) (.t 10)) [(10, .op (.load false 1 (.t 9)) [(9, .op (.fa 0 (.t 1)) [])])])]) .skip (.exit 0))) (.seq (.block 1 (.seq (.reg
  [.tick 7, .act (some 22) [] (.rows 1 [.str []] 1 [(0, .t 21)]) [(21, .op (.load false 1 (.t 20)) [(20, .op (.fa 1 (.t 19)) [(19, .op (.ia (.sl 5) (.t 17) (.t 18)) [(17, .op
  (.load false 1 (.t 16)) [(16, .op (.fa 0 (.t 1)) [])]), (18, .x (.t 4))])])])], .act (some 23) [] (.app 9 1 (.t 15) (.t 22)) [(15, .x (.t 3))], .set 3 (.x (.t 23)), .tick 1]
  false) (.seq (.reg [.set 5 (.x (.c (.s (.int .i64 0)))), .tick 1] false) (.block 2 (.loop (.seq (.seq (.reg [.tick 9] false) (.cond (.op (.bin .lss .num (.t 24) (.t 31)) [(24, .x
  (.t 5)), (31, .op (.len (.sl 0) (.t 30)) [(30, .op (.load false 1 (.t 29)) [(29, .op (.fa 4 (.t 28)) [(28, .op (.ia (.sl 5) (.t 26) (.t 27)) [(26, .op (.load false 1 (.t 25))
  [(25, .op (.fa 0 (.t 1)) [])]), (27, .x (.t 4))])])])])]) .skip (.exit 2))) (.seq (.block 3 (.reg [.tick 11, .act (some 46) [] (.rows 1 [.str []] 1 [(0, .t 45)]) [(45, .op (.load
  false 1 (.t 44)) [(44, .op (.fa 1 (.t 43)) [(43, .op (.ia (.sl 3) (.t 41) (.t 42)) [(41, .op (.load false 1 (.t 40)) [(40, .op (.fa 4 (.t 39)) [(39, .op (.ia (.sl 5) (.t 37) (.t
  38)) [(37, .op (.load false 1 (.t 36)) [(36, .op (.fa 0 (.t 1)) [])]), (38, .x (.t 4))])])]), (42, .x (.t 5))])])])], .act (some 47) [] (.app 9 1 (.t 35) (.t 46)) [(35, .x (.t
  3))], .set 3 (.x (.t 47)), .tick 1] false)) (.reg [.set 5 (.op (.bin .add .num (.t 33) (.c (.s (.int .i64 1)))) [(33, .x (.t 5))]), .tick 3] false)))))))) (.reg [.set 4 (.op
  (.bin .add .num (.t 13) (.c (.s (.int .i64 1)))) [(13, .x (.t 4))]), .tick 3] false)))))) (.seq (.seq (.reg [.set 6 (.x (.c (.s (.int .i64 0)))), .tick 1] false) (.block 4 (.loop
  (.seq (.seq (.reg [.tick 5] false) (.cond (.op (.bin .lss .num (.t 48) (.t 51)) [(48, .x (.t 6)), (51, .op (.len (.sl 0) (.t 50)) [(50, .op (.load false 1 (.t 49)) [(49, .op (.fa
  1 (.t 1)) [])])])]) .skip (.exit 4))) (.seq (.block 5 (.reg [.tick 7, .act (some 62) [] (.rows 1 [.str []] 1 [(0, .t 61)]) [(61, .op (.load false 1 (.t 60)) [(60, .op (.fa 1 (.t
  59)) [(59, .op (.ia (.sl 4) (.t 57) (.t 58)) [(57, .op (.load false 1 (.t 56)) [(56, .op (.fa 1 (.t 1)) [])]), (58, .x (.t 6))])])])], .act (some 63) [] (.app 9 1 (.t 55) (.t
  62)) [(55, .x (.t 3))], .set 3 (.x (.t 63)), .tick 1] false)) (.reg [.set 6 (.op (.bin .add .num (.t 53) (.c (.s (.int .i64 1)))) [(53, .x (.t 6))]), .tick 3] false)))))) (.seq
  (.reg [.set 2 (.x (.t 3)), .tick 2] false) .ret))))
theorem f28 : sF EE 28 [8, 9, 10, 11, 12, 15, 16, 17, 18, 19, 20, 21, 24, 25, 26, 27, 28, 29, 30, 31, 32, 35, 36, 37, 38, 39, 40, 41, 42, 43, 44, 45, 33, 34, 13, 14, 48, 49, 50,
  51, 52, 55, 56, 57, 58, 59, 60, 61, 53, 54, 64] = some ⟨65, [.t 2], c28⟩ := by kernel_rfl
/- 29 lineage/lineageref19.IDs -/
def c29 : SC := .seq (.reg [.act (some 1) [] (.box 25 (.t 0)) [], .set 2 (.x (.c (.s .nils))), .tick 1] false) (.seq (.reg [.act (some 7) [] (.rows 1 [.int .i64 0] 0 []) [], .set 3
  (.x (.t 7)), .tick 1] false) (.seq (.seq (.reg [.set 4 (.x (.c (.s (.int .i64 0)))), .tick 1] false) (.block 0 (.loop (.seq (.seq (.reg [.tick 5] false) (.cond (.op (.bin .lss
  .num (.t 8) (.t 11)) [(8, .x (.t 4)), (11, .op (.len (.sl 0) (.t 10)) [(10, .op (.load false 1 (.t 9)) [(9, .op (.fa 0 (.t 1)) [])])])]) .skip (.exit 0))) (.seq (.block 1 (.seq
  (.reg [.tick 7, .act (some 22) [] (.rows 1 [.int .i64 0] 1 [(0, .t 21)]) [(21, .op (.load false 1 (.t 20)) [(20, .op (.fa 0 (.t 19)) [(19, .op (.ia (.sl 5) (.t 17) (.t 18)) [(17,
  .op (.load false 1 (.t 16)) [(16, .op (.fa 0 (.t 1)) [])]), (18, .x (.t 4))])])])], .act (some 23) [] (.app 3 1 (.t 15) (.t 22)) [(15, .x (.t 3))], .set 3 (.x (.t 23)), .tick 1]
  false) (.seq (.reg [.set 5 (.x (.c (.s (.int .i64 0)))), .tick 1] false) (.block 2 (.loop (.seq (.seq (.reg [.tick 9] false) (.cond (.op (.bin .lss .num (.t 24) (.t 31)) [(24, .x
  (.t 5)), (31, .op (.len (.sl 0) (.t 30)) [(30, .op (.load false 1 (.t 29)) [(29, .op (.fa 4 (.t 28)) [(28, .op (.ia (.sl 5) (.t 26) (.t 27)) [(26, .op (.load false 1 (.t 25))
  [(25, .op (.fa 0 (.t 1)) [])]), (27, .x (.t 4))])])])])]) .skip (.exit 2))) (.seq (.block 3 (.reg [.tick 11, .act (some 46) [] (.rows 1 [.int .i64 0] 1 [(0, .t 45)]) [(45, .op
  (.load false 1 (.t 44)) [(44, .op (.fa 0 (.t 43)) [(43, .op (.ia (.sl 3) (.t 41) (.t 42)) [(41, .op (.load false 1 (.t 40)) [(40, .op (.fa 4 (.t 39)) [(39, .op (.ia (.sl 5) (.t
  37) (.t 38)) [(37, .op (.load false 1 (.t 36)) [(36, .op (.fa 0 (.t 1)) [])]), (38, .x (.t 4))])])]), (42, .x (.t 5))])])])], .act (some 47) [] (.app 3 1 (.t 35) (.t 46)) [(35,
  .x (.t 3))], .set 3 (.x (.t 47)), .tick 1] false)) (.reg [.set 5 (.op (.bin .add .num (.t 33) (.c (.s (.int .i64 1)))) [(33, .x (.t 5))]), .tick 3] false)))))))) (.reg [.set 4
  (.op (.bin .add .num (.t 13) (.c (.s (.int .i64 1)))) [(13, .x (.t 4))]), .tick 3] false)))))) (.seq (.seq (.reg [.set 6 (.x (.c (.s (.int .i64 0)))), .tick 1] false) (.block 4
  (.loop (.seq (.seq (.reg [.tick 5] false) (.cond (.op (.bin .lss .num (.t 48) (.t 51)) [(48, .x (.t 6)), (51, .op (.len (.sl 0) (.t 50)) [(50, .op (.load false 1 (.t 49)) [(49,
  .op (.fa 1 (.t 1)) [])])])]) .skip (.exit 4))) (.seq (.block 5 (.reg [.tick 7, .act (some 62) [] (.rows 1 [.int .i64 0] 1 [(0, .t 61)]) [(61, .op (.load false 1 (.t 60)) [(60,
  .op (.fa 0 (.t 59)) [(59, .op (.ia (.sl 4) (.t 57) (.t 58)) [(57, .op (.load false 1 (.t 56)) [(56, .op (.fa 1 (.t 1)) [])]), (58, .x (.t 6))])])])], .act (some 63) [] (.app 3 1
  (.t 55) (.t 62)) [(55, .x (.t 3))], .set 3 (.x (.t 63)), .tick 1] false)) (.reg [.set 6 (.op (.bin .add .num (.t 53) (.c (.s (.int .i64 1)))) [(53, .x (.t 6))]), .tick 3]
  false)))))) (.seq (.reg [.set 2 (.x (.t 3)), .tick 2] false) .ret))))
theorem f29 : sF EE 29 [8, 9, 10, 11, 12, 15, 16, 17, 18, 19, 20, 21, 24, 25, 26, 27, 28, 29, 30, 31, 32, 35, 36, 37, 38, 39, 40, 41, 42, 43, 44, 45, 33, 34, 13, 14, 48, 49, 50,
  51, 52, 55, 56, 57, 58, 59, 60, 61, 53, 54, 64] = some ⟨65, [.t 2], c29⟩ := by kernel_rfl
/- 32 lineage/lineageref19.Columns -/
def c32 : SC := .seq (.reg [.set 2 (.x (.c (.s (.bool false)))), .tick 1] false) (.seq (.reg [.act (some 5) [] (.rows 1 [.str []] 0 []) [], .set 3 (.x (.t 5)), .tick 1] false)
  (.seq (.seq (.reg [.set 4 (.x (.c (.s (.int .i64 0)))), .tick 1] false) (.block 0 (.loop (.seq (.seq (.reg [.tick 4] false) (.cond (.op (.bin .lss .num (.t 6) (.t 8)) [(6, .x (.t
  4)), (8, .op (.len (.sl 0) (.t 7)) [(7, .x (.t 0))])]) .skip (.exit 0))) (.seq (.block 1 (.seq (.seq (.reg [.tick 5, .act (some 17) [] (.call 14 [.t 16]) [(16, .op (.load false 1
  (.t 15)) [(15, .op (.fa 0 (.t 14)) [(14, .op (.ia (.sl 2) (.t 12) (.t 13)) [(12, .x (.t 0)), (13, .x (.t 4))])])])], .tick 17] false) (.cond (.pick (.pick (.op (.un .not (.t 17))
  []) (.x (.c (.s (.bool true)))) (.op (.bin .lss .num (.t 24) (.c (.s (.int .i64 0)))) [(24, .op (.load false 1 (.t 23)) [(23, .op (.fa 1 (.t 22)) [(22, .op (.ia (.sl 2) (.t 20)
  (.t 21)) [(20, .x (.t 0)), (21, .x (.t 4))])])])])) (.x (.c (.s (.bool true)))) (.op (.bin .gtr .num (.t 32) (.c (.s (.int .i64 2)))) [(32, .op (.load false 1 (.t 31)) [(31, .op
  (.fa 1 (.t 30)) [(30, .op (.ia (.sl 2) (.t 28) (.t 29)) [(28, .x (.t 0)), (29, .x (.t 4))])])])])) (.seq (.reg [.set 2 (.x (.c (.s (.bool false)))), .tick 1] false) .ret) .skip))
  (.reg [.tick 6, .act (some 41) [] (.rows 1 [.str []] 1 [(0, .t 40)]) [(40, .op (.load false 1 (.t 39)) [(39, .op (.fa 0 (.t 38)) [(38, .op (.ia (.sl 2) (.t 36) (.t 37)) [(36, .x
  (.t 0)), (37, .x (.t 4))])])])], .act (some 42) [] (.app 9 1 (.t 35) (.t 41)) [(35, .x (.t 3))], .set 3 (.x (.t 42)), .tick 1] false))) (.reg [.set 4 (.op (.bin .add .num (.t 10)
  (.c (.s (.int .i64 1)))) [(10, .x (.t 4))]), .tick 3] false)))))) (.seq (.reg [.set 51 (.pick (.op (.bin .geq .num (.t 44) (.c (.s (.int .i64 1)))) [(44, .op (.len (.sl 0) (.t
  43)) [(43, .x (.t 0))])]) (.op (.bin .leq .num (.t 48) (.c (.s (.int .i64 16)))) [(48, .op (.len (.sl 0) (.t 47)) [(47, .x (.t 0))])]) (.x (.c (.s (.bool false))))), .tick 10,
  .act (some 53) [(.x (.t 51), true)] (.call 53 [.t 52]) [(52, .x (.t 3))], .set 2 (.pick (.x (.t 51)) (.x (.t 53)) (.x (.c (.s (.bool false))))), .tick 2] false) .ret)))
theorem f32 : sF EE 32 [6, 7, 8, 9, 12, 13, 14, 15, 16, 18, 19, 20, 21, 22, 23, 24, 25, 26, 27, 28, 29, 30, 31, 32, 33, 34, 35, 36, 37, 38, 39, 40, 10, 11, 43, 44, 45, 46, 47, 48,
  49, 50, 52, 54] = some ⟨55, [.t 2], c32⟩ := by kernel_rfl
/- 36 lineage/catalog.defined -/
def c36 : SC := .seq (.reg [.act (some 1) [] (.box 25 (.t 0)) [], .set 2 (.x (.c (.s .nils))), .set 3 (.x (.c (.s .nils))), .tick 2] false) (.seq (.seq (.reg [.set 11 (.op (.load
  false 1 (.t 10)) [(10, .op (.fa 0 (.t 1)) [])]), .set 12 (.op (.len (.sl 0) (.t 11)) []), .set 13 (.x (.c (.s (.int .i64 0)))), .tick 4] false) (.block 0 (.loop (.seq (.reg
  [.tick 1] false) (.seq (.cond (.op (.bin .lss .num (.t 13) (.t 12)) []) .skip (.exit 0)) (.seq (.block 1 (.seq (.reg [.set 16 (.op (.load true 5 (.t 15)) [(15, .op (.ia (.sl 5)
  (.t 11) (.t 13)) [])]), .tick 2, .act (some 5) [] (.alloc 34 [.int .i64 0, .str [], .nils, .nils, .nils]) [], .act none [] (.store 5 (.t 5) (.t 16)) []] false) (.seq (.regD [.set
  17 (.x (.t 2)), .tick 3, .act (some 20) [] (.rows 1 [.str []] 1 [(0, .t 19)]) [(19, .op (.load false 1 (.t 18)) [(18, .op (.fa 1 (.t 5)) [])])], .act (some 21) [] (.app 9 1 (.t
  17) (.t 20)) [], .set 23 (.op (.fa 0 (.t 5)) []), .tick 3, .act (some 25) [] (.rows 1 [.int .i64 0] 1 [(0, .t 24)]) [(24, .op (.load false 1 (.t 23)) [])], .act (some 26) []
  (.app 3 1 (.t 22) (.t 25)) [(22, .x (.t 3))], .set 2 (.x (.t 21)), .set 3 (.x (.t 26)), .tick 2] [(4, 2, [.t 17, .t 20], 6, 1, [.t 5]), (4, 2, [.t 17, .t 20], 7, 1, [.t 23])] [])
  (.seq (.reg [.set 28 (.op (.load false 1 (.t 27)) [(27, .op (.fa 4 (.t 5)) [])]), .set 29 (.op (.len (.sl 0) (.t 28)) []), .set 30 (.x (.c (.s (.int .i64 0)))), .tick 4] false)
  (.block 2 (.loop (.seq (.reg [.tick 1] false) (.seq (.cond (.op (.bin .lss .num (.t 30) (.t 29)) []) .skip (.exit 2)) (.seq (.block 3 (.seq (.reg [.set 33 (.op (.load true 3 (.t
  32)) [(32, .op (.ia (.sl 3) (.t 28) (.t 30)) [])]), .tick 2, .act (some 7) [] (.alloc 65 [.int .i64 0, .str [], .nils]) [], .act none [] (.store 3 (.t 7) (.t 33)) []] false)
  (.regD [.set 34 (.x (.t 2)), .tick 3, .act (some 37) [] (.rows 1 [.str []] 1 [(0, .t 36)]) [(36, .op (.load false 1 (.t 35)) [(35, .op (.fa 1 (.t 7)) [])])], .act (some 38) []
  (.app 9 1 (.t 34) (.t 37)) [], .set 40 (.op (.fa 0 (.t 7)) []), .tick 3, .act (some 42) [] (.rows 1 [.int .i64 0] 1 [(0, .t 41)]) [(41, .op (.load false 1 (.t 40)) [])], .act
  (some 43) [] (.app 3 1 (.t 39) (.t 42)) [(39, .x (.t 3))], .set 2 (.x (.t 38)), .set 3 (.x (.t 43)), .tick 2] [(4, 2, [.t 34, .t 37], 6, 1, [.t 7]), (4, 2, [.t 34, .t 37], 7, 1,
  [.t 40])] []))) (.reg [.set 30 (.op (.bin .add .num (.t 30) (.c (.s (.int .i64 1)))) []), .tick 2] false)))))))))) (.reg [.set 13 (.op (.bin .add .num (.t 13) (.c (.s (.int .i64
  1)))) []), .tick 2] false))))))) (.seq (.seq (.reg [.set 47 (.op (.load false 1 (.t 46)) [(46, .op (.fa 1 (.t 1)) [])]), .set 48 (.op (.len (.sl 0) (.t 47)) []), .set 49 (.x (.c
  (.s (.int .i64 0)))), .tick 4] false) (.block 4 (.loop (.seq (.reg [.tick 1] false) (.seq (.cond (.op (.bin .lss .num (.t 49) (.t 48)) []) .skip (.exit 4)) (.seq (.block 5 (.seq
  (.reg [.set 52 (.op (.load true 4 (.t 51)) [(51, .op (.ia (.sl 4) (.t 47) (.t 49)) [])]), .tick 2, .act (some 9) [] (.alloc 39 [.int .i64 0, .str [], .str [], .bool false]) [],
  .act none [] (.store 4 (.t 9) (.t 52)) []] false) (.regD [.set 53 (.x (.t 2)), .tick 3, .act (some 56) [] (.rows 1 [.str []] 1 [(0, .t 55)]) [(55, .op (.load false 1 (.t 54))
  [(54, .op (.fa 1 (.t 9)) [])])], .act (some 57) [] (.app 9 1 (.t 53) (.t 56)) [], .set 59 (.op (.fa 0 (.t 9)) []), .tick 3, .act (some 61) [] (.rows 1 [.int .i64 0] 1 [(0, .t
  60)]) [(60, .op (.load false 1 (.t 59)) [])], .act (some 62) [] (.app 3 1 (.t 58) (.t 61)) [(58, .x (.t 3))], .set 2 (.x (.t 57)), .set 3 (.x (.t 62)), .tick 2] [(4, 2, [.t 53,
  .t 56], 6, 1, [.t 9]), (4, 2, [.t 53, .t 56], 7, 1, [.t 59])] []))) (.reg [.set 49 (.op (.bin .add .num (.t 49) (.c (.s (.int .i64 1)))) []), .tick 2] false))))))) (.seq (.reg
  [.set 2 (.x (.t 2)), .set 3 (.x (.t 3)), .tick 4] false) .ret)))
theorem f36 : sF EE 36 [10, 14, 15, 18, 19, 22, 24, 27, 31, 32, 35, 36, 39, 41, 44, 45, 46, 50, 51, 54, 55, 58, 60, 63, 64, 65] = some ⟨66, [.t 2, .t 3], c36⟩ := by kernel_rfl
/- 37 lineage/catalog.distinct[string] -/
def c37 : SC := .seq (.reg [.set 2 (.x (.c (.s (.bool false)))), .tick 1] false) (.seq (.reg [.act (some 6) [] (.mkm) [], .set 3 (.x (.t 6)), .tick 1] false) (.seq (.seq (.reg
  [.set 7 (.x (.t 0)), .set 8 (.op (.len (.sl 0) (.t 7)) []), .set 9 (.x (.c (.s (.int .i64 0)))), .tick 3] false) (.block 0 (.loop (.seq (.reg [.tick 1] false) (.seq (.cond (.op
  (.bin .lss .num (.t 9) (.t 8)) []) .skip (.exit 0)) (.seq (.block 1 (.seq (.reg [.set 5 (.op (.load false 1 (.t 11)) [(11, .op (.ia (.sl 1) (.t 7) (.t 9)) [])]), .tick 3] false)
  (.seq (.seq (.reg [.tick 3] false) (.cond (.op (.look .str (some (.bool false)) false (.t 13) (.t 14)) [(13, .x (.t 3)), (14, .x (.t 5))]) (.seq (.reg [.set 2 (.x (.c (.s (.bool
  false)))), .tick 1] false) .ret) .skip)) (.reg [.tick 2, .act none [] (.mupd .str (.t 16) (.t 17) (.c (.s (.bool true)))) [(16, .x (.t 3)), (17, .x (.t 5))]] false)))) (.reg
  [.set 9 (.op (.bin .add .num (.t 9) (.c (.s (.int .i64 1)))) []), .tick 2] false))))))) (.seq (.reg [.set 2 (.x (.c (.s (.bool true)))), .tick 1] false) .ret)))
theorem f37 : sF EE 37 [10, 11, 12, 13, 14, 15, 16, 17, 18] = some ⟨19, [.t 2], c37⟩ := by kernel_rfl
/- 38 lineage/catalog.distinct[int] -/
def c38 : SC := .seq (.reg [.set 2 (.x (.c (.s (.bool false)))), .tick 1] false) (.seq (.reg [.act (some 6) [] (.mkm) [], .set 3 (.x (.t 6)), .tick 1] false) (.seq (.seq (.reg
  [.set 7 (.x (.t 0)), .set 8 (.op (.len (.sl 0) (.t 7)) []), .set 9 (.x (.c (.s (.int .i64 0)))), .tick 3] false) (.block 0 (.loop (.seq (.reg [.tick 1] false) (.seq (.cond (.op
  (.bin .lss .num (.t 9) (.t 8)) []) .skip (.exit 0)) (.seq (.block 1 (.seq (.reg [.set 5 (.op (.load false 1 (.t 11)) [(11, .op (.ia (.sl 1) (.t 7) (.t 9)) [])]), .tick 3] false)
  (.seq (.seq (.reg [.tick 3] false) (.cond (.op (.look (.int) (some (.bool false)) false (.t 13) (.t 14)) [(13, .x (.t 3)), (14, .x (.t 5))]) (.seq (.reg [.set 2 (.x (.c (.s
  (.bool false)))), .tick 1] false) .ret) .skip)) (.reg [.tick 2, .act none [] (.mupd (.int) (.t 16) (.t 17) (.c (.s (.bool true)))) [(16, .x (.t 3)), (17, .x (.t 5))]] false))))
  (.reg [.set 9 (.op (.bin .add .num (.t 9) (.c (.s (.int .i64 1)))) []), .tick 2] false))))))) (.seq (.reg [.set 2 (.x (.c (.s (.bool true)))), .tick 1] false) .ret)))
theorem f38 : sF EE 38 [10, 11, 12, 13, 14, 15, 16, 17, 18] = some ⟨19, [.t 2], c38⟩ := by kernel_rfl
/- 39 slices.ContainsFunc[[]string,string] -/
def c39 : SC := .seq (.reg [.set 4 (.x (.c (.s (.bool false)))), .tick 1] false) (.seq (.reg [.tick 2, .act (some 7) [] (.call 88 [.t 5, .t 6]) [(5, .x (.t 0)), (6, .x (.t 1))],
  .set 4 (.op (.bin .geq .num (.t 7) (.c (.s (.int .i64 0)))) []), .tick 2] false) .ret)
theorem f39 : sF EE 39 [5, 6, 8] = some ⟨9, [.t 4], c39⟩ := by kernel_rfl
/- 40 lineage/catalog.Valid$1 -/
def c40 : SC := .seq (.reg [.set 2 (.x (.c (.s (.bool false)))), .tick 1] false) (.seq (.reg [.tick 1, .act (some 4) [] (.call 13 [.t 3]) [(3, .x (.t 0))], .set 2 (.op (.un .not
  (.t 4)) []), .tick 2] false) .ret)
theorem f40 : sF EE 40 [3, 5] = some ⟨6, [.t 2], c40⟩ := by kernel_rfl
/- 41 slices.ContainsFunc[[]int,int] -/
def c41 : SC := .seq (.reg [.set 4 (.x (.c (.s (.bool false)))), .tick 1] false) (.seq (.reg [.tick 2, .act (some 7) [] (.call 89 [.t 5, .t 6]) [(5, .x (.t 0)), (6, .x (.t 1))],
  .set 4 (.op (.bin .geq .num (.t 7) (.c (.s (.int .i64 0)))) []), .tick 2] false) .ret)
theorem f41 : sF EE 41 [5, 6, 8] = some ⟨9, [.t 4], c41⟩ := by kernel_rfl
/- 42 lineage/catalog.Valid$2 -/
def c42 : SC := .seq (.reg [.set 3 (.x (.c (.s (.bool false)))), .tick 1] false) (.seq (.reg [.set 3 (.pick (.op (.bin .lss .num (.t 4) (.c (.s (.int .i64 1)))) [(4, .x (.t 0))])
  (.x (.c (.s (.bool true)))) (.op (.bin .gtr .num (.t 7) (.t 9)) [(7, .x (.t 0)), (9, .op (.load false 1 (.t 8)) [(8, .op (.fa 2 (.t 1)) [])])])), .tick 9] false) .ret)
theorem f42 : sF EE 42 [4, 5, 6, 7, 8, 9, 10, 11] = some ⟨12, [.t 3], c42⟩ := by kernel_rfl
/- 43 slices.ContainsFunc[[]lineage/api.TableDef,lineage/api.TableDef] -/
def c43 : SC := .seq (.reg [.set 4 (.x (.c (.s (.bool false)))), .tick 1] false) (.seq (.reg [.tick 2, .act (some 7) [] (.call 90 [.t 5, .t 6]) [(5, .x (.t 0)), (6, .x (.t 1))],
  .set 4 (.op (.bin .geq .num (.t 7) (.c (.s (.int .i64 0)))) []), .tick 2] false) .ret)
theorem f43 : sF EE 43 [5, 6, 8] = some ⟨9, [.t 4], c43⟩ := by kernel_rfl
/- 44 lineage/catalog.Valid$3 -/
def c44 : SC := .seq (.reg [.act (some 1) [] (.box 34 (.t 0)) [], .set 2 (.x (.c (.s (.bool false)))), .tick 1] false) (.seq (.reg [.tick 1, .act (some 4) [] (.call 45 [.t 3]) [(3,
  .op (.load true 5 (.t 1)) [])], .set 2 (.op (.un .not (.t 4)) []), .tick 2] false) .ret)
theorem f44 : sF EE 44 [3, 5] = some ⟨6, [.t 2], c44⟩ := by kernel_rfl
/- 45 lineage/catalog.validTable -/
def c45 : SC := .seq (.reg [.act (some 1) [] (.box 34 (.t 0)) [], .set 2 (.x (.c (.s (.bool false)))), .tick 1] false) (.seq (.reg [.set 3 (.op (.mkf 91 [] [.t 1]) []), .tick 2]
  false) (.seq (.reg [.tick 2, .act (some 8) [] (.call 93 [.t 7, .c (.s (.func 94))]) [(7, .op (.load false 1 (.t 6)) [(6, .op (.fa 4 (.t 1)) [])])], .set 4 (.x (.t 8)), .tick 1]
  false) (.seq (.reg [.tick 2, .act (some 11) [] (.call 85 [.t 10]) [(10, .op (.load false 1 (.t 9)) [(9, .op (.fa 2 (.t 1)) [])])], .tick 6, .act (some 18) [(.x (.t 11), true)]
  (.call 92 [.t 14, .t 17]) [(14, .op (.load false 1 (.t 13)) [(13, .op (.fa 3 (.t 1)) [])]), (17, .op (.len (.sl 0) (.t 16)) [(16, .op (.load false 1 (.t 15)) [(15, .op (.fa 2 (.t
  1)) [])])])], .need [] (.pick (.x (.t 11)) (.x (.t 18)) (.x (.c (.s (.bool false))))), .tick 5, .act (some 24) [(.pick (.x (.t 11)) (.x (.t 18)) (.x (.c (.s (.bool false)))),
  true)] (.call 95 [.t 22, .t 23]) [(22, .op (.load false 1 (.t 21)) [(21, .op (.fa 4 (.t 1)) [])]), (23, .x (.t 3))], .set 2 (.pick (.pick (.pick (.x (.t 11)) (.x (.t 18)) (.x (.c
  (.s (.bool false))))) (.op (.un .not (.t 24)) []) (.x (.c (.s (.bool false))))) (.x (.t 4)) (.x (.c (.s (.bool false))))), .tick 6] false) .ret)))
theorem f45 : sF EE 45 [5, 6, 7, 9, 10, 12, 13, 14, 15, 16, 17, 19, 20, 21, 22, 23, 25, 26, 27, 28, 29] = some ⟨30, [.t 2], c45⟩ := by kernel_rfl
/- 46 slices.ContainsFunc[[]lineage/api.ViewDef,lineage/api.ViewDef] -/
def c46 : SC := .seq (.reg [.set 4 (.x (.c (.s (.bool false)))), .tick 1] false) (.seq (.reg [.tick 2, .act (some 7) [] (.call 58 [.t 5, .t 6]) [(5, .x (.t 0)), (6, .x (.t 1))],
  .set 4 (.op (.bin .geq .num (.t 7) (.c (.s (.int .i64 0)))) []), .tick 2] false) .ret)
theorem f46 : sF EE 46 [5, 6, 8] = some ⟨9, [.t 4], c46⟩ := by kernel_rfl
/- 47 lineage/catalog.Valid$4 -/
def c47 : SC := .seq (.reg [.act (some 1) [] (.box 39 (.t 0)) [], .set 2 (.x (.c (.s (.bool false)))), .tick 1] false) (.seq (.reg [.tick 2, .act (some 5) [] (.call 48 [.t 4]) [(4,
  .op (.load false 1 (.t 3)) [(3, .op (.fa 2 (.t 1)) [])])], .set 2 (.op (.un .not (.t 5)) []), .tick 2] false) .ret)
theorem f47 : sF EE 47 [3, 4, 6] = some ⟨7, [.t 2], c47⟩ := by kernel_rfl
/- 48 lineage/catalog.source -/
def c48 : SC := .seq (.reg [.set 2 (.x (.c (.s (.bool false)))), .tick 1] false) (.seq (.reg [.set 2 (.pick (.op (.bin .geq .num (.t 4) (.c (.s (.int .i64 1)))) [(4, .op (.len .str
  (.t 3)) [(3, .x (.t 0))])]) (.op (.bin .leq .num (.t 8) (.c (.s (.int .i64 16384)))) [(8, .op (.len .str (.t 7)) [(7, .x (.t 0))])]) (.x (.c (.s (.bool false))))), .tick 9]
  false) .ret)
theorem f48 : sF EE 48 [3, 4, 5, 6, 7, 8, 9, 10] = some ⟨11, [.t 2], c48⟩ := by kernel_rfl
/- 49 slices.IsSortedFunc[[]lineage/api.TableDef,lineage/api.TableDef] -/
def c49 : SC := .seq (.reg [.set 4 (.x (.c (.s (.bool false)))), .tick 1] false) (.seq (.seq (.reg [.set 5 (.op (.bin .sub .num (.t 7) (.c (.s (.int .i64 1)))) [(7, .op (.len (.sl
  0) (.t 6)) [(6, .x (.t 0))])]), .tick 4] false) (.block 0 (.loop (.seq (.seq (.reg [.tick 2] false) (.cond (.op (.bin .gtr .num (.t 9) (.c (.s (.int .i64 0)))) [(9, .x (.t 5))])
  .skip (.exit 0))) (.seq (.block 1 (.seq (.reg [.tick 10, .act (some 23) [] (.callv (.t 13) [.t 17, .t 22]) [(13, .x (.t 1)), (17, .op (.load true 5 (.t 16)) [(16, .op (.ia (.sl
  5) (.t 14) (.t 15)) [(14, .x (.t 0)), (15, .x (.t 5))])]), (22, .op (.load true 5 (.t 21)) [(21, .op (.ia (.sl 5) (.t 18) (.t 20)) [(18, .x (.t 0)), (20, .op (.bin .sub .num (.t
  19) (.c (.s (.int .i64 1)))) [(19, .x (.t 5))])])])], .tick 1] true) (.cond (.op (.bin .lss .num (.t 23) (.c (.s (.int .i64 0)))) []) (.seq (.reg [.set 4 (.x (.c (.s (.bool
  false)))), .tick 1] false) .ret) .skip))) (.reg [.set 5 (.op (.bin .sub .num (.t 11) (.c (.s (.int .i64 1)))) [(11, .x (.t 5))]), .tick 3] false)))))) (.seq (.reg [.set 4 (.x (.c
  (.s (.bool true)))), .tick 1] false) .ret))
theorem f49 : sF EE 49 [6, 7, 8, 9, 10, 13, 14, 15, 16, 17, 18, 19, 20, 21, 22, 24, 11, 12] = some ⟨25, [.t 4], c49⟩ := by kernel_rfl
/- 50 lineage/catalog.Valid$5 -/
def c50 : SC := .seq (.reg [.act (some 2) [] (.box 34 (.t 0)) [], .act (some 3) [] (.box 34 (.t 1)) [], .set 4 (.x (.c (.s (.int .i64 0)))), .tick 1] false) (.seq (.reg [.set 4
  (.op (.bin .sub .num (.t 6) (.t 8)) [(6, .op (.load false 1 (.t 5)) [(5, .op (.fa 0 (.t 2)) [])]), (8, .op (.load false 1 (.t 7)) [(7, .op (.fa 0 (.t 3)) [])])]), .tick 6] false)
  .ret)
theorem f50 : sF EE 50 [5, 6, 7, 8, 9] = some ⟨10, [.t 4], c50⟩ := by kernel_rfl
/- 51 slices.IsSortedFunc[[]lineage/api.ViewDef,lineage/api.ViewDef] -/
def c51 : SC := .seq (.reg [.set 4 (.x (.c (.s (.bool false)))), .tick 1] false) (.seq (.seq (.reg [.set 5 (.op (.bin .sub .num (.t 7) (.c (.s (.int .i64 1)))) [(7, .op (.len (.sl
  0) (.t 6)) [(6, .x (.t 0))])]), .tick 4] false) (.block 0 (.loop (.seq (.seq (.reg [.tick 2] false) (.cond (.op (.bin .gtr .num (.t 9) (.c (.s (.int .i64 0)))) [(9, .x (.t 5))])
  .skip (.exit 0))) (.seq (.block 1 (.seq (.reg [.tick 10, .act (some 23) [] (.callv (.t 13) [.t 17, .t 22]) [(13, .x (.t 1)), (17, .op (.load true 4 (.t 16)) [(16, .op (.ia (.sl
  4) (.t 14) (.t 15)) [(14, .x (.t 0)), (15, .x (.t 5))])]), (22, .op (.load true 4 (.t 21)) [(21, .op (.ia (.sl 4) (.t 18) (.t 20)) [(18, .x (.t 0)), (20, .op (.bin .sub .num (.t
  19) (.c (.s (.int .i64 1)))) [(19, .x (.t 5))])])])], .tick 1] true) (.cond (.op (.bin .lss .num (.t 23) (.c (.s (.int .i64 0)))) []) (.seq (.reg [.set 4 (.x (.c (.s (.bool
  false)))), .tick 1] false) .ret) .skip))) (.reg [.set 5 (.op (.bin .sub .num (.t 11) (.c (.s (.int .i64 1)))) [(11, .x (.t 5))]), .tick 3] false)))))) (.seq (.reg [.set 4 (.x (.c
  (.s (.bool true)))), .tick 1] false) .ret))
theorem f51 : sF EE 51 [6, 7, 8, 9, 10, 13, 14, 15, 16, 17, 18, 19, 20, 21, 22, 24, 11, 12] = some ⟨25, [.t 4], c51⟩ := by kernel_rfl
/- 52 lineage/catalog.Valid$6 -/
def c52 : SC := .seq (.reg [.act (some 2) [] (.box 39 (.t 0)) [], .act (some 3) [] (.box 39 (.t 1)) [], .set 4 (.x (.c (.s (.int .i64 0)))), .tick 1] false) (.seq (.reg [.set 4
  (.op (.bin .sub .num (.t 6) (.t 8)) [(6, .op (.load false 1 (.t 5)) [(5, .op (.fa 0 (.t 2)) [])]), (8, .op (.load false 1 (.t 7)) [(7, .op (.fa 0 (.t 3)) [])])]), .tick 6] false)
  .ret)
theorem f52 : sF EE 52 [5, 6, 7, 8, 9] = some ⟨10, [.t 4], c52⟩ := by kernel_rfl
/- 53 lineage/lineageref19.distinct -/
def c53 : SC := .seq (.reg [.set 2 (.x (.c (.s (.bool false)))), .tick 1] false) (.seq (.seq (.reg [.set 3 (.x (.c (.s (.int .i64 0)))), .tick 1] false) (.block 0 (.loop (.seq
  (.seq (.reg [.tick 4] false) (.cond (.op (.bin .lss .num (.t 5) (.t 7)) [(5, .x (.t 3)), (7, .op (.len (.sl 0) (.t 6)) [(6, .x (.t 0))])]) .skip (.exit 0))) (.seq (.block 1 (.seq
  (.reg [.set 4 (.x (.c (.s (.int .i64 0)))), .tick 1] false) (.block 2 (.loop (.seq (.seq (.reg [.tick 3] false) (.cond (.op (.bin .lss .num (.t 11) (.t 12)) [(11, .x (.t 4)),
  (12, .x (.t 3))]) .skip (.exit 2))) (.seq (.block 3 (.seq (.reg [.tick 9] true) (.cond (.op (.bin .eql .num (.t 19) (.t 23)) [(19, .op (.load false 1 (.t 18)) [(18, .op (.ia (.sl
  1) (.t 16) (.t 17)) [(16, .x (.t 0)), (17, .x (.t 3))])]), (23, .op (.load false 1 (.t 22)) [(22, .op (.ia (.sl 1) (.t 20) (.t 21)) [(20, .x (.t 0)), (21, .x (.t 4))])])]) (.seq
  (.reg [.set 2 (.x (.c (.s (.bool false)))), .tick 1] false) .ret) .skip))) (.reg [.set 4 (.op (.bin .add .num (.t 14) (.c (.s (.int .i64 1)))) [(14, .x (.t 4))]), .tick 3]
  false))))))) (.reg [.set 3 (.op (.bin .add .num (.t 9) (.c (.s (.int .i64 1)))) [(9, .x (.t 3))]), .tick 3] false)))))) (.seq (.reg [.set 2 (.x (.c (.s (.bool true)))), .tick 1]
  false) .ret))
theorem f53 : sF EE 53 [5, 6, 7, 8, 11, 12, 13, 16, 17, 18, 19, 20, 21, 22, 23, 24, 14, 15, 9, 10] = some ⟨25, [.t 2], c53⟩ := by kernel_rfl
/- 54 lineage/lineageref19.table -/
def c54 : SC := .seq (.reg [.act (some 1) [] (.box 34 (.t 0)) [], .set 2 (.x (.c (.s (.bool false)))), .tick 1] false) (.seq (.seq (.reg [.tick 2, .act (some 7) [] (.call 32 [.t
  6]) [(6, .op (.load false 1 (.t 5)) [(5, .op (.fa 2 (.t 1)) [])])], .need [] (.op (.un .not (.t 7)) []), .tick 7, .act (some 15) [(.op (.un .not (.t 7)) [], false)] (.call 96 [.t
  11, .t 14]) [(11, .op (.load false 1 (.t 10)) [(10, .op (.fa 3 (.t 1)) [])]), (14, .op (.len (.sl 0) (.t 13)) [(13, .op (.load false 1 (.t 12)) [(12, .op (.fa 2 (.t 1)) [])])])],
  .tick 2] false) (.cond (.pick (.op (.un .not (.t 7)) []) (.x (.c (.s (.bool true)))) (.op (.un .not (.t 15)) [])) (.seq (.reg [.set 2 (.x (.c (.s (.bool false)))), .tick 1]
  false) .ret) .skip)) (.seq (.seq (.reg [.set 3 (.x (.c (.s (.int .i64 0)))), .tick 1] false) (.block 0 (.loop (.seq (.seq (.reg [.tick 5] false) (.cond (.op (.bin .lss .num (.t
  18) (.t 21)) [(18, .x (.t 3)), (21, .op (.len (.sl 0) (.t 20)) [(20, .op (.load false 1 (.t 19)) [(19, .op (.fa 4 (.t 1)) [])])])]) .skip (.exit 0))) (.seq (.block 1 (.seq (.reg
  [.set 29 (.op (.load true 3 (.t 28)) [(28, .op (.ia (.sl 3) (.t 26) (.t 27)) [(26, .op (.load false 1 (.t 25)) [(25, .op (.fa 4 (.t 1)) [])]), (27, .x (.t 3))])]), .tick 5, .act
  (some 4) [] (.alloc 65 [.int .i64 0, .str [], .nils]) [], .act none [] (.store 3 (.t 4) (.t 29)) []] false) (.seq (.reg [.set 34 (.op (.bin .eql .num (.t 32) (.c (.s (.int .i64
  0)))) [(32, .op (.len (.sl 0) (.t 31)) [(31, .op (.load false 1 (.t 30)) [(30, .op (.fa 2 (.t 4)) [])])])]), .tick 10, .act (some 40) [(.x (.t 34), false)] (.call 96 [.t 36, .t
  39]) [(36, .op (.load false 1 (.t 35)) [(35, .op (.fa 2 (.t 4)) [])]), (39, .op (.len (.sl 0) (.t 38)) [(38, .op (.load false 1 (.t 37)) [(37, .op (.fa 2 (.t 1)) [])])])], .tick
  18] true) (.seq (.reg [.need [(.x (.t 34), false)] (.op (.un .not (.t 40)) [])] false) (.cond (.pick (.pick (.x (.t 34)) (.x (.c (.s (.bool true)))) (.op (.un .not (.t 40)) []))
  (.x (.c (.s (.bool true)))) (.pick (.op (.bin .gtr .num (.t 44) (.c (.s (.int .i64 0)))) [(44, .x (.t 3))]) (.op (.bin .geq .num (.t 53) (.t 55)) [(53, .op (.load false 1 (.t
  52)) [(52, .op (.fa 0 (.t 51)) [(51, .op (.ia (.sl 3) (.t 48) (.t 50)) [(48, .op (.load false 1 (.t 47)) [(47, .op (.fa 4 (.t 1)) [])]), (50, .op (.bin .sub .num (.t 49) (.c (.s
  (.int .i64 1)))) [(49, .x (.t 3))])])])]), (55, .op (.load false 1 (.t 54)) [(54, .op (.fa 0 (.t 4)) [])])]) (.x (.c (.s (.bool false)))))) (.seq (.reg [.set 2 (.x (.c (.s (.bool
  false)))), .tick 1] false) .ret) .skip))))) (.reg [.set 3 (.op (.bin .add .num (.t 23) (.c (.s (.int .i64 1)))) [(23, .x (.t 3))]), .tick 3] false)))))) (.seq (.reg [.set 2 (.x
  (.c (.s (.bool true)))), .tick 1] false) .ret)))
theorem f54 : sF EE 54 [5, 6, 8, 9, 10, 11, 12, 13, 14, 16, 17, 18, 19, 20, 21, 22, 25, 26, 27, 28, 30, 31, 32, 33, 35, 36, 37, 38, 39, 41, 42, 43, 44, 45, 46, 47, 48, 49, 50, 51,
  52, 53, 54, 55, 56, 57, 58, 23, 24] = some ⟨59, [.t 2], c54⟩ := by kernel_rfl
/- 58 slices.IndexFunc[[]lineage/api.ViewDef,lineage/api.ViewDef] -/
def c58 : SC := .seq (.reg [.set 4 (.x (.c (.s (.int .i64 0)))), .tick 1] false) (.seq (.seq (.reg [.set 7 (.op (.len (.sl 0) (.t 6)) [(6, .x (.t 0))]), .set 8 (.x (.c (.s (.int
  .i64 0)))), .tick 3] false) (.block 0 (.loop (.seq (.reg [.tick 1] false) (.seq (.cond (.op (.bin .lss .num (.t 8) (.t 7)) []) .skip (.exit 0)) (.seq (.block 1 (.seq (.reg [.set
  5 (.x (.t 8)), .tick 2] false) (.seq (.reg [.tick 5, .act (some 16) [] (.callv (.t 11) [.t 15]) [(11, .x (.t 1)), (15, .op (.load true 4 (.t 14)) [(14, .op (.ia (.sl 4) (.t 12)
  (.t 13)) [(12, .x (.t 0)), (13, .x (.t 5))])])]] false) (.cond (.x (.t 16)) (.seq (.reg [.set 4 (.x (.t 5)), .tick 2] false) .ret) .skip)))) (.reg [.set 8 (.op (.bin .add .num
  (.t 8) (.c (.s (.int .i64 1)))) []), .tick 2] false))))))) (.seq (.reg [.set 4 (.x (.c (.s (.int .i64 (-1))))), .tick 1] false) .ret))
theorem f58 : sF EE 58 [6, 9, 10, 11, 12, 13, 14, 15, 17, 18] = some ⟨19, [.t 4], c58⟩ := by kernel_rfl
/- 85 lineage/catalog.validColumns -/
def c85 : SC := .seq (.reg [.set 2 (.x (.c (.s (.bool false)))), .tick 1] false) (.seq (.reg [.set 3 (.x (.c (.s (.func 111)))), .tick 1] false) (.seq (.reg [.set 12 (.pick (.op
  (.bin .geq .num (.t 5) (.c (.s (.int .i64 1)))) [(5, .op (.len (.sl 0) (.t 4)) [(4, .x (.t 0))])]) (.op (.bin .leq .num (.t 9) (.c (.s (.int .i64 16)))) [(9, .op (.len (.sl 0)
  (.t 8)) [(8, .x (.t 0))])]) (.x (.c (.s (.bool false))))), .tick 11, .act (some 15) [(.x (.t 12), true)] (.call 112 [.t 13, .t 14]) [(13, .x (.t 0)), (14, .x (.t 3))], .need []
  (.pick (.x (.t 12)) (.op (.un .not (.t 15)) []) (.x (.c (.s (.bool false))))), .need [(.x (.t 12), true)] (.op (.un .not (.t 15)) []), .tick 4, .act (some 20) [(.pick (.x (.t
  12)) (.op (.un .not (.t 15)) []) (.x (.c (.s (.bool false)))), true)] (.call 113 [.t 19]) [(19, .x (.t 0))], .act (some 21) [(.pick (.x (.t 12)) (.op (.un .not (.t 15)) []) (.x
  (.c (.s (.bool false)))), true)] (.call 37 [.t 20]) [], .set 2 (.pick (.pick (.x (.t 12)) (.op (.un .not (.t 15)) []) (.x (.c (.s (.bool false))))) (.x (.t 21)) (.x (.c (.s
  (.bool false))))), .tick 2] false) .ret))
theorem f85 : sF EE 85 [4, 5, 6, 7, 8, 9, 10, 11, 13, 14, 16, 17, 18, 19, 22] = some ⟨23, [.t 2], c85⟩ := by kernel_rfl
/- 88 slices.IndexFunc[[]string,string] -/
def c88 : SC := .seq (.reg [.set 4 (.x (.c (.s (.int .i64 0)))), .tick 1] false) (.seq (.seq (.reg [.set 7 (.op (.len (.sl 0) (.t 6)) [(6, .x (.t 0))]), .set 8 (.x (.c (.s (.int
  .i64 0)))), .tick 3] false) (.block 0 (.loop (.seq (.reg [.tick 1] false) (.seq (.cond (.op (.bin .lss .num (.t 8) (.t 7)) []) .skip (.exit 0)) (.seq (.block 1 (.seq (.reg [.set
  5 (.x (.t 8)), .tick 2] false) (.seq (.reg [.tick 5, .act (some 16) [] (.callv (.t 11) [.t 15]) [(11, .x (.t 1)), (15, .op (.load false 1 (.t 14)) [(14, .op (.ia (.sl 1) (.t 12)
  (.t 13)) [(12, .x (.t 0)), (13, .x (.t 5))])])]] false) (.cond (.x (.t 16)) (.seq (.reg [.set 4 (.x (.t 5)), .tick 2] false) .ret) .skip)))) (.reg [.set 8 (.op (.bin .add .num
  (.t 8) (.c (.s (.int .i64 1)))) []), .tick 2] false))))))) (.seq (.reg [.set 4 (.x (.c (.s (.int .i64 (-1))))), .tick 1] false) .ret))
theorem f88 : sF EE 88 [6, 9, 10, 11, 12, 13, 14, 15, 17, 18] = some ⟨19, [.t 4], c88⟩ := by kernel_rfl
/- 89 slices.IndexFunc[[]int,int] -/
def c89 : SC := .seq (.reg [.set 4 (.x (.c (.s (.int .i64 0)))), .tick 1] false) (.seq (.seq (.reg [.set 7 (.op (.len (.sl 0) (.t 6)) [(6, .x (.t 0))]), .set 8 (.x (.c (.s (.int
  .i64 0)))), .tick 3] false) (.block 0 (.loop (.seq (.reg [.tick 1] false) (.seq (.cond (.op (.bin .lss .num (.t 8) (.t 7)) []) .skip (.exit 0)) (.seq (.block 1 (.seq (.reg [.set
  5 (.x (.t 8)), .tick 2] false) (.seq (.reg [.tick 5, .act (some 16) [] (.callv (.t 11) [.t 15]) [(11, .x (.t 1)), (15, .op (.load false 1 (.t 14)) [(14, .op (.ia (.sl 1) (.t 12)
  (.t 13)) [(12, .x (.t 0)), (13, .x (.t 5))])])]] false) (.cond (.x (.t 16)) (.seq (.reg [.set 4 (.x (.t 5)), .tick 2] false) .ret) .skip)))) (.reg [.set 8 (.op (.bin .add .num
  (.t 8) (.c (.s (.int .i64 1)))) []), .tick 2] false))))))) (.seq (.reg [.set 4 (.x (.c (.s (.int .i64 (-1))))), .tick 1] false) .ret))
theorem f89 : sF EE 89 [6, 9, 10, 11, 12, 13, 14, 15, 17, 18] = some ⟨19, [.t 4], c89⟩ := by kernel_rfl
/- 90 slices.IndexFunc[[]lineage/api.TableDef,lineage/api.TableDef] -/
def c90 : SC := .seq (.reg [.set 4 (.x (.c (.s (.int .i64 0)))), .tick 1] false) (.seq (.seq (.reg [.set 7 (.op (.len (.sl 0) (.t 6)) [(6, .x (.t 0))]), .set 8 (.x (.c (.s (.int
  .i64 0)))), .tick 3] false) (.block 0 (.loop (.seq (.reg [.tick 1] false) (.seq (.cond (.op (.bin .lss .num (.t 8) (.t 7)) []) .skip (.exit 0)) (.seq (.block 1 (.seq (.reg [.set
  5 (.x (.t 8)), .tick 2] false) (.seq (.reg [.tick 5, .act (some 16) [] (.callv (.t 11) [.t 15]) [(11, .x (.t 1)), (15, .op (.load true 5 (.t 14)) [(14, .op (.ia (.sl 5) (.t 12)
  (.t 13)) [(12, .x (.t 0)), (13, .x (.t 5))])])]] false) (.cond (.x (.t 16)) (.seq (.reg [.set 4 (.x (.t 5)), .tick 2] false) .ret) .skip)))) (.reg [.set 8 (.op (.bin .add .num
  (.t 8) (.c (.s (.int .i64 1)))) []), .tick 2] false))))))) (.seq (.reg [.set 4 (.x (.c (.s (.int .i64 (-1))))), .tick 1] false) .ret))
theorem f90 : sF EE 90 [6, 9, 10, 11, 12, 13, 14, 15, 17, 18] = some ⟨19, [.t 4], c90⟩ := by kernel_rfl
/- 91 lineage/catalog.validTable$1 -/
def c91 : SC := .seq (.reg [.act (some 2) [] (.box 65 (.t 0)) [], .set 3 (.x (.c (.s (.bool false)))), .tick 1] false) (.seq (.reg [.set 8 (.op (.bin .eql .num (.t 6) (.c (.s (.int
  .i64 0)))) [(6, .op (.len (.sl 0) (.t 5)) [(5, .op (.load false 1 (.t 4)) [(4, .op (.fa 2 (.t 2)) [])])])]), .tick 10, .act (some 14) [(.x (.t 8), false)] (.call 92 [.t 10, .t
  13]) [(10, .op (.load false 1 (.t 9)) [(9, .op (.fa 2 (.t 2)) [])]), (13, .op (.len (.sl 0) (.t 12)) [(12, .op (.load false 1 (.t 11)) [(11, .op (.fa 2 (.t 1)) [])])])], .set 3
  (.pick (.x (.t 8)) (.x (.c (.s (.bool true)))) (.op (.un .not (.t 14)) [])), .tick 3] false) (.seq (.reg [.need [(.x (.t 8), false)] (.op (.un .not (.t 14)) [])] false) .ret))
theorem f91 : sF EE 91 [4, 5, 6, 7, 9, 10, 11, 12, 13, 15, 16] = some ⟨17, [.t 3], c91⟩ := by kernel_rfl
/- 92 lineage/catalog.indices -/
def c92 : SC := .seq (.reg [.act (some 3) [] (.box 3 (.t 1)) [], .set 4 (.x (.c (.s (.bool false)))), .tick 1] false) (.seq (.reg [.tick 1, .act (some 6) [] (.call 38 [.t 5]) [(5,
  .x (.t 0))], .tick 3, .act (some 10) [(.x (.t 6), true)] (.call 41 [.t 8, .t 9]) [(8, .x (.t 0)), (9, .op (.mkf 115 [] [.t 3]) [])], .set 4 (.pick (.x (.t 6)) (.op (.un .not (.t
  10)) []) (.x (.c (.s (.bool false))))), .tick 3] false) .ret)
theorem f92 : sF EE 92 [5, 7, 8, 9, 11, 12] = some ⟨13, [.t 4], c92⟩ := by kernel_rfl
/- 93 slices.IsSortedFunc[[]lineage/api.IndexDef,lineage/api.IndexDef] -/
def c93 : SC := .seq (.reg [.set 4 (.x (.c (.s (.bool false)))), .tick 1] false) (.seq (.seq (.reg [.set 5 (.op (.bin .sub .num (.t 7) (.c (.s (.int .i64 1)))) [(7, .op (.len (.sl
  0) (.t 6)) [(6, .x (.t 0))])]), .tick 4] false) (.block 0 (.loop (.seq (.seq (.reg [.tick 2] false) (.cond (.op (.bin .gtr .num (.t 9) (.c (.s (.int .i64 0)))) [(9, .x (.t 5))])
  .skip (.exit 0))) (.seq (.block 1 (.seq (.reg [.tick 10, .act (some 23) [] (.callv (.t 13) [.t 17, .t 22]) [(13, .x (.t 1)), (17, .op (.load true 3 (.t 16)) [(16, .op (.ia (.sl
  3) (.t 14) (.t 15)) [(14, .x (.t 0)), (15, .x (.t 5))])]), (22, .op (.load true 3 (.t 21)) [(21, .op (.ia (.sl 3) (.t 18) (.t 20)) [(18, .x (.t 0)), (20, .op (.bin .sub .num (.t
  19) (.c (.s (.int .i64 1)))) [(19, .x (.t 5))])])])], .tick 1] true) (.cond (.op (.bin .lss .num (.t 23) (.c (.s (.int .i64 0)))) []) (.seq (.reg [.set 4 (.x (.c (.s (.bool
  false)))), .tick 1] false) .ret) .skip))) (.reg [.set 5 (.op (.bin .sub .num (.t 11) (.c (.s (.int .i64 1)))) [(11, .x (.t 5))]), .tick 3] false)))))) (.seq (.reg [.set 4 (.x (.c
  (.s (.bool true)))), .tick 1] false) .ret))
theorem f93 : sF EE 93 [6, 7, 8, 9, 10, 13, 14, 15, 16, 17, 18, 19, 20, 21, 22, 24, 11, 12] = some ⟨25, [.t 4], c93⟩ := by kernel_rfl
/- 94 lineage/catalog.validTable$2 -/
def c94 : SC := .seq (.reg [.act (some 2) [] (.box 65 (.t 0)) [], .act (some 3) [] (.box 65 (.t 1)) [], .set 4 (.x (.c (.s (.int .i64 0)))), .tick 1] false) (.seq (.reg [.set 4
  (.op (.bin .sub .num (.t 6) (.t 8)) [(6, .op (.load false 1 (.t 5)) [(5, .op (.fa 0 (.t 2)) [])]), (8, .op (.load false 1 (.t 7)) [(7, .op (.fa 0 (.t 3)) [])])]), .tick 6] false)
  .ret)
theorem f94 : sF EE 94 [5, 6, 7, 8, 9] = some ⟨10, [.t 4], c94⟩ := by kernel_rfl
/- 95 slices.ContainsFunc[[]lineage/api.IndexDef,lineage/api.IndexDef] -/
def c95 : SC := .seq (.reg [.set 4 (.x (.c (.s (.bool false)))), .tick 1] false) (.seq (.reg [.tick 2, .act (some 7) [] (.call 110 [.t 5, .t 6]) [(5, .x (.t 0)), (6, .x (.t 1))],
  .set 4 (.op (.bin .geq .num (.t 7) (.c (.s (.int .i64 0)))) []), .tick 2] false) .ret)
theorem f95 : sF EE 95 [5, 6, 8] = some ⟨9, [.t 4], c95⟩ := by kernel_rfl
/- 96 lineage/lineageref19.indices -/
def c96 : SC := .seq (.reg [.set 4 (.x (.c (.s (.bool false)))), .tick 1] false) (.seq (.seq (.reg [.set 5 (.x (.c (.s (.int .i64 0)))), .tick 1] false) (.block 0 (.loop (.seq
  (.seq (.reg [.tick 4] false) (.cond (.op (.bin .lss .num (.t 7) (.t 9)) [(7, .x (.t 5)), (9, .op (.len (.sl 0) (.t 8)) [(8, .x (.t 0))])]) .skip (.exit 0))) (.seq (.block 1 (.seq
  (.seq (.reg [.tick 13] false) (.cond (.pick (.op (.bin .lss .num (.t 16) (.c (.s (.int .i64 0)))) [(16, .op (.load false 1 (.t 15)) [(15, .op (.ia (.sl 1) (.t 13) (.t 14)) [(13,
  .x (.t 0)), (14, .x (.t 5))])])]) (.x (.c (.s (.bool true)))) (.op (.bin .geq .num (.t 22) (.t 23)) [(22, .op (.load false 1 (.t 21)) [(21, .op (.ia (.sl 1) (.t 19) (.t 20))
  [(19, .x (.t 0)), (20, .x (.t 5))])]), (23, .x (.t 1))])) (.seq (.reg [.set 4 (.x (.c (.s (.bool false)))), .tick 1] false) .ret) .skip)) (.seq (.reg [.set 6 (.x (.c (.s (.int
  .i64 0)))), .tick 1] false) (.block 2 (.loop (.seq (.seq (.reg [.tick 3] false) (.cond (.op (.bin .lss .num (.t 26) (.t 27)) [(26, .x (.t 6)), (27, .x (.t 5))]) .skip (.exit 2)))
  (.seq (.block 3 (.seq (.reg [.tick 9] true) (.cond (.op (.bin .eql .num (.t 34) (.t 38)) [(34, .op (.load false 1 (.t 33)) [(33, .op (.ia (.sl 1) (.t 31) (.t 32)) [(31, .x (.t
  0)), (32, .x (.t 5))])]), (38, .op (.load false 1 (.t 37)) [(37, .op (.ia (.sl 1) (.t 35) (.t 36)) [(35, .x (.t 0)), (36, .x (.t 6))])])]) (.seq (.reg [.set 4 (.x (.c (.s (.bool
  false)))), .tick 1] false) .ret) .skip))) (.reg [.set 6 (.op (.bin .add .num (.t 29) (.c (.s (.int .i64 1)))) [(29, .x (.t 6))]), .tick 3] false)))))))) (.reg [.set 5 (.op (.bin
  .add .num (.t 11) (.c (.s (.int .i64 1)))) [(11, .x (.t 5))]), .tick 3] false)))))) (.seq (.reg [.set 4 (.x (.c (.s (.bool true)))), .tick 1] false) .ret))
theorem f96 : sF EE 96 [7, 8, 9, 10, 13, 14, 15, 16, 17, 18, 19, 20, 21, 22, 23, 24, 25, 26, 27, 28, 31, 32, 33, 34, 35, 36, 37, 38, 39, 29, 30, 11, 12] = some ⟨40, [.t 4], c96⟩ :=
  by kernel_rfl
/- 110 slices.IndexFunc[[]lineage/api.IndexDef,lineage/api.IndexDef] -/
def c110 : SC := .seq (.reg [.set 4 (.x (.c (.s (.int .i64 0)))), .tick 1] false) (.seq (.seq (.reg [.set 7 (.op (.len (.sl 0) (.t 6)) [(6, .x (.t 0))]), .set 8 (.x (.c (.s (.int
  .i64 0)))), .tick 3] false) (.block 0 (.loop (.seq (.reg [.tick 1] false) (.seq (.cond (.op (.bin .lss .num (.t 8) (.t 7)) []) .skip (.exit 0)) (.seq (.block 1 (.seq (.reg [.set
  5 (.x (.t 8)), .tick 2] false) (.seq (.reg [.tick 5, .act (some 16) [] (.callv (.t 11) [.t 15]) [(11, .x (.t 1)), (15, .op (.load true 3 (.t 14)) [(14, .op (.ia (.sl 3) (.t 12)
  (.t 13)) [(12, .x (.t 0)), (13, .x (.t 5))])])]] false) (.cond (.x (.t 16)) (.seq (.reg [.set 4 (.x (.t 5)), .tick 2] false) .ret) .skip)))) (.reg [.set 8 (.op (.bin .add .num
  (.t 8) (.c (.s (.int .i64 1)))) []), .tick 2] false))))))) (.seq (.reg [.set 4 (.x (.c (.s (.int .i64 (-1))))), .tick 1] false) .ret))
theorem f110 : sF EE 110 [6, 9, 10, 11, 12, 13, 14, 15, 17, 18] = some ⟨19, [.t 4], c110⟩ := by kernel_rfl
/- 111 lineage/catalog.validColumns$1 -/
def c111 : SC := .seq (.reg [.act (some 1) [] (.box 63 (.t 0)) [], .set 2 (.x (.c (.s (.bool false)))), .tick 1] false) (.seq (.reg [.tick 2, .act (some 5) [] (.call 13 [.t 4])
  [(4, .op (.load false 1 (.t 3)) [(3, .op (.fa 0 (.t 1)) [])])], .set 2 (.pick (.pick (.op (.un .not (.t 5)) []) (.x (.c (.s (.bool true)))) (.op (.bin .lss .num (.t 9) (.c (.s
  (.int .i64 0)))) [(9, .op (.load false 1 (.t 8)) [(8, .op (.fa 1 (.t 1)) [])])])) (.x (.c (.s (.bool true)))) (.op (.bin .gtr .num (.t 14) (.c (.s (.int .i64 2)))) [(14, .op
  (.load false 1 (.t 13)) [(13, .op (.fa 1 (.t 1)) [])])])), .tick 12] false) .ret)
theorem f111 : sF EE 111 [3, 4, 6, 7, 8, 9, 10, 11, 12, 13, 14, 15, 16] = some ⟨17, [.t 2], c111⟩ := by kernel_rfl
/- 112 slices.ContainsFunc[[]lineage/api.Column,lineage/api.Column] -/
def c112 : SC := .seq (.reg [.set 4 (.x (.c (.s (.bool false)))), .tick 1] false) (.seq (.reg [.tick 2, .act (some 7) [] (.call 120 [.t 5, .t 6]) [(5, .x (.t 0)), (6, .x (.t 1))],
  .set 4 (.op (.bin .geq .num (.t 7) (.c (.s (.int .i64 0)))) []), .tick 2] false) .ret)
theorem f112 : sF EE 112 [5, 6, 8] = some ⟨9, [.t 4], c112⟩ := by kernel_rfl
/- 113 lineage/catalog.names -/
def c113 : SC := .seq (.reg [.set 2 (.x (.c (.s .nils))), .tick 1] false) (.seq (.reg [.set 3 (.x (.c (.s .nils))), .tick 1] false) (.seq (.seq (.reg [.set 6 (.x (.t 0)), .set 7
  (.op (.len (.sl 0) (.t 6)) []), .set 8 (.x (.c (.s (.int .i64 0)))), .tick 3] false) (.block 0 (.loop (.seq (.reg [.tick 1] false) (.seq (.cond (.op (.bin .lss .num (.t 8) (.t
  7)) []) .skip (.exit 0)) (.seq (.block 1 (.seq (.reg [.set 11 (.op (.load true 2 (.t 10)) [(10, .op (.ia (.sl 2) (.t 6) (.t 8)) [])]), .tick 2, .act (some 5) [] (.alloc 63 [.str
  [], .int .i64 0]) [], .act none [] (.store 2 (.t 5) (.t 11)) []] false) (.reg [.tick 3, .act (some 15) [] (.rows 1 [.str []] 1 [(0, .t 14)]) [(14, .op (.load false 1 (.t 13))
  [(13, .op (.fa 0 (.t 5)) [])])], .act (some 16) [] (.app 9 1 (.t 12) (.t 15)) [(12, .x (.t 3))], .set 3 (.x (.t 16)), .tick 1] false))) (.reg [.set 8 (.op (.bin .add .num (.t 8)
  (.c (.s (.int .i64 1)))) []), .tick 2] false))))))) (.seq (.reg [.set 2 (.x (.t 3)), .tick 2] false) .ret)))
theorem f113 : sF EE 113 [9, 10, 12, 13, 14, 17, 18] = some ⟨19, [.t 2], c113⟩ := by kernel_rfl
/- 115 lineage/catalog.indices$1 -/
def c115 : SC := .seq (.reg [.set 3 (.x (.c (.s (.bool false)))), .tick 1] false) (.seq (.reg [.set 3 (.pick (.op (.bin .lss .num (.t 4) (.c (.s (.int .i64 0)))) [(4, .x (.t 0))])
  (.x (.c (.s (.bool true)))) (.op (.bin .geq .num (.t 7) (.t 8)) [(7, .x (.t 0)), (8, .op (.load false 1 (.t 1)) [])])), .tick 8] false) .ret)
theorem f115 : sF EE 115 [4, 5, 6, 7, 8, 9, 10] = some ⟨11, [.t 3], c115⟩ := by kernel_rfl
/- 120 slices.IndexFunc[[]lineage/api.Column,lineage/api.Column] -/
def c120 : SC := .seq (.reg [.set 4 (.x (.c (.s (.int .i64 0)))), .tick 1] false) (.seq (.seq (.reg [.set 7 (.op (.len (.sl 0) (.t 6)) [(6, .x (.t 0))]), .set 8 (.x (.c (.s (.int
  .i64 0)))), .tick 3] false) (.block 0 (.loop (.seq (.reg [.tick 1] false) (.seq (.cond (.op (.bin .lss .num (.t 8) (.t 7)) []) .skip (.exit 0)) (.seq (.block 1 (.seq (.reg [.set
  5 (.x (.t 8)), .tick 2] false) (.seq (.reg [.tick 5, .act (some 16) [] (.callv (.t 11) [.t 15]) [(11, .x (.t 1)), (15, .op (.load true 2 (.t 14)) [(14, .op (.ia (.sl 2) (.t 12)
  (.t 13)) [(12, .x (.t 0)), (13, .x (.t 5))])])]] false) (.cond (.x (.t 16)) (.seq (.reg [.set 4 (.x (.t 5)), .tick 2] false) .ret) .skip)))) (.reg [.set 8 (.op (.bin .add .num
  (.t 8) (.c (.s (.int .i64 1)))) []), .tick 2] false))))))) (.seq (.reg [.set 4 (.x (.c (.s (.int .i64 (-1))))), .tick 1] false) .ret))
theorem f120 : sF EE 120 [6, 9, 10, 11, 12, 13, 14, 15, 17, 18] = some ⟨19, [.t 4], c120⟩ := by kernel_rfl
end Go.Vm
