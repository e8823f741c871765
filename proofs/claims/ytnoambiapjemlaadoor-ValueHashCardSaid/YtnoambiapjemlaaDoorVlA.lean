/- The functions of chapter 01, as statements of the machine. -/
import Derived.Test.YtnoambiapjemlaaDoorVlE
set_option linter.unusedVariables false
set_option maxRecDepth 100000
namespace Go.Vm
open Go.Proofs
def useL : List Nat := [3, 4, 5, 6, 7, 8, 9, 10, 11, 12, 13, 14, 15, 16, 17, 18, 19, 20, 21, 22, 23, 24, 25, 26, 27, 28, 29, 30, 32, 33, 36, 37, 38, 39, 40, 41, 42, 43, 44, 45, 46, 47, 48, 50, 56, 57, 58, 61, 85]
noncomputable def EE : Env := { P := Tryd.prog, ext := extL, ref := fun f => [37,38].contains f, use := fun f => useL.contains f, dyn := fun _ => true, G := fun _ => none }
/- 3 lineage/lineagelaw01.ValueLiterals -/
def c3 : SC := .seq (.reg [.act (some 2) [] (.box 23 (.t 0)) [], .set 4 (.x (.c (.s (.bool false)))), .tick 1] false) (.seq (.seq (.reg [.act (some 9) [] (.call 10 []) [], .tick 1]
  false) (.cond (.op (.un .not (.t 9)) []) (.seq (.reg [.set 4 (.x (.c (.s (.bool false)))), .tick 1] false) .ret) .skip)) (.seq (.seq (.reg [.tick 9] false) (.cond (.pick (.op
  (.bin .gtr .num (.t 13) (.c (.s (.int .i64 300)))) [(13, .op (.len .str (.t 12)) [(12, .op (.load false 1 (.t 11)) [(11, .op (.fa 2 (.t 2)) [])])])]) (.x (.c (.s (.bool true))))
  (.op (.bin .gtr .num (.t 17) (.c (.s (.int .i64 600)))) [(17, .op (.len .str (.t 16)) [(16, .x (.t 1))])])) (.seq (.reg [.set 4 (.x (.c (.s (.bool true)))), .tick 1] false) .ret)
  .skip)) (.seq (.reg [.tick 1, .act (some 22) [] (.call 11 [.t 21]) [(21, .x (.t 1))], .need [] (.op (.ext (.t 20) 1) [(20, .x (.t 22))]), .need [] (.op (.ext (.t 20) 0) [(20, .x
  (.t 22))]), .tick 3, .act (some 5) [] (.alloc 23 [.int .i64 0, .int .i64 0, .str []]) [], .act none [] (.store 3 (.t 5) (.t 23)) [(23, .op (.ext (.t 20) 0) [(20, .x (.t 22))])],
  .set 6 (.op (.ext (.t 20) 1) [(20, .x (.t 22))]), .tick 1] false) (.seq (.reg [.tick 1, .act (some 27) [] (.call 12 [.t 26]) [(26, .x (.t 1))], .need [] (.op (.ext (.t 25) 1)
  [(25, .x (.t 27))]), .need [] (.op (.ext (.t 25) 0) [(25, .x (.t 27))]), .tick 3, .act (some 7) [] (.alloc 23 [.int .i64 0, .int .i64 0, .str []]) [], .act none [] (.store 3 (.t
  7) (.t 28)) [(28, .op (.ext (.t 25) 0) [(25, .x (.t 27))])], .set 8 (.op (.ext (.t 25) 1) [(25, .x (.t 27))]), .tick 1] false) (.seq (.reg [.tick 1, .act (some 31) [] (.call 13
  [.t 30]) [(30, .op (.load true 3 (.t 2)) [])], .tick 1, .act (some 33) [] (.call 14 [.t 32]) [(32, .op (.load true 3 (.t 2)) [])], .set 4 (.pick (.pick (.op (.bin .eql .num (.t
  31) (.t 33)) []) (.op (.bin .eql (.flat [1, 1, 2]) (.t 36) (.t 37)) [(36, .op (.load true 3 (.t 5)) []), (37, .op (.load true 3 (.t 7)) [])]) (.x (.c (.s (.bool false))))) (.op
  (.bin .eql .num (.t 41) (.t 42)) [(41, .x (.t 6)), (42, .x (.t 8))]) (.x (.c (.s (.bool false))))), .tick 12] true) .ret)))))
theorem f3 : sF EE 3 [10, 11, 12, 13, 14, 15, 16, 17, 18, 19, 21, 20, 23, 24, 26, 25, 28, 29, 30, 32, 34, 35, 36, 37, 38, 39, 40, 41, 42, 43, 44] = some ⟨45, [.t 4], c3⟩ := by
  kernel_rfl
/- 4 lineage/lineagelaw01.ValueRoundTrip -/
def c4 : SC := .seq (.reg [.act (some 2) [] (.box 23 (.t 0)) [], .set 4 (.x (.c (.s (.bool false)))), .tick 1] false) (.seq (.seq (.reg [.act (some 9) [] (.call 10 []) [], .tick 1]
  false) (.cond (.op (.un .not (.t 9)) []) (.seq (.reg [.set 4 (.x (.c (.s (.bool false)))), .tick 1] false) .ret) .skip)) (.seq (.seq (.reg [.tick 9] false) (.cond (.pick (.op
  (.bin .gtr .num (.t 13) (.c (.s (.int .i64 300)))) [(13, .op (.len .str (.t 12)) [(12, .op (.load false 1 (.t 11)) [(11, .op (.fa 2 (.t 2)) [])])])]) (.x (.c (.s (.bool true))))
  (.op (.bin .gtr .num (.t 17) (.c (.s (.int .i64 600)))) [(17, .op (.len .str (.t 16)) [(16, .x (.t 1))])])) (.seq (.reg [.set 4 (.x (.c (.s (.bool true)))), .tick 1] false) .ret)
  .skip)) (.seq (.seq (.reg [.tick 1, .act (some 21) [] (.call 15 [.t 20]) [(20, .op (.load true 3 (.t 2)) [])]] false) (.cond (.x (.t 21)) (.seq (.reg [.tick 1, .act (some 24) []
  (.call 13 [.t 23]) [(23, .op (.load true 3 (.t 2)) [])], .act (some 25) [] (.call 11 [.t 24]) [], .need [] (.op (.ext (.t 22) 1) [(22, .x (.t 25))]), .need [] (.op (.ext (.t 22)
  0) [(22, .x (.t 25))]), .tick 3, .act (some 5) [] (.alloc 23 [.int .i64 0, .int .i64 0, .str []]) [], .act none [] (.store 3 (.t 5) (.t 26)) [(26, .op (.ext (.t 22) 0) [(22, .x
  (.t 25))])], .set 6 (.op (.ext (.t 22) 1) [(22, .x (.t 25))]), .tick 1] false) (.seq (.reg [.tick 7] false) (.cond (.pick (.op (.bin .neq .num (.t 28) (.c (.s (.int .i64 0))))
  [(28, .x (.t 6))]) (.x (.c (.s (.bool true)))) (.op (.bin .neq (.flat [1, 1, 2]) (.t 31) (.t 32)) [(31, .op (.load true 3 (.t 5)) []), (32, .op (.load true 3 (.t 2)) [])])) (.seq
  (.reg [.set 4 (.x (.c (.s (.bool false)))), .tick 1] false) .ret) .skip))) (.seq (.reg [.tick 1, .act (some 36) [] (.call 13 [.t 35]) [(35, .op (.load true 3 (.t 2)) [])], .tick
  1] false) (.cond (.op (.bin .neq .num (.t 36) (.c (.s (.str [])))) []) (.seq (.reg [.set 4 (.x (.c (.s (.bool false)))), .tick 1] false) .ret) .skip)))) (.seq (.reg [.tick 1,
  .act (some 40) [] (.call 11 [.t 39]) [(39, .x (.t 1))], .need [] (.op (.ext (.t 38) 1) [(38, .x (.t 40))]), .need [] (.op (.ext (.t 38) 0) [(38, .x (.t 40))]), .tick 3, .act
  (some 7) [] (.alloc 23 [.int .i64 0, .int .i64 0, .str []]) [], .act none [] (.store 3 (.t 7) (.t 41)) [(41, .op (.ext (.t 38) 0) [(38, .x (.t 40))])], .set 8 (.op (.ext (.t 38)
  1) [(38, .x (.t 40))]), .tick 1] false) (.seq (.seq (.reg [.tick 2] false) (.cond (.op (.bin .neq .num (.t 43) (.c (.s (.int .i64 0)))) [(43, .x (.t 8))]) (.seq (.reg [.set 4
  (.op (.bin .eql (.flat [1, 1, 2]) (.t 45) (.t 46)) [(45, .op (.load true 3 (.t 7)) []), (46, .op (.build [.int .i64 0, .int .i64 0, .str []] []) [])]), .tick 4] false) .ret)
  .skip)) (.seq (.reg [.tick 1, .act (some 49) [] (.call 15 [.t 48]) [(48, .op (.load true 3 (.t 7)) [])], .tick 2, .act (some 52) [(.x (.t 49), true)] (.call 13 [.t 51]) [(51, .op
  (.load true 3 (.t 7)) [])], .set 4 (.pick (.x (.t 49)) (.op (.bin .eql .num (.t 52) (.t 53)) [(53, .x (.t 1))]) (.x (.c (.s (.bool false))))), .tick 4] false) .ret))))))
theorem f4 : sF EE 4 [10, 11, 12, 13, 14, 15, 16, 17, 18, 19, 20, 23, 22, 26, 27, 28, 29, 30, 31, 32, 33, 34, 35, 37, 39, 38, 41, 42, 43, 44, 45, 46, 47, 48, 50, 51, 53, 54, 55] =
  some ⟨56, [.t 4], c4⟩ := by kernel_rfl
/- 5 lineage/lineagelaw01.ValueHash -/
def c5 : SC := .seq (.reg [.set 2 (.x (.c (.s (.bool false)))), .tick 1] false) (.seq (.seq (.reg [.act (some 3) [] (.call 10 []) [], .tick 1] false) (.cond (.op (.un .not (.t 3))
  []) (.seq (.reg [.set 2 (.x (.c (.s (.bool false)))), .tick 1] false) .ret) .skip)) (.seq (.reg [.tick 1, .act (some 6) [] (.call 16 [.t 5, .c (.s (.int .i64 20))]) [(5, .x (.t
  0))], .need [] (.op (.un .not (.t 6)) []), .tick 3, .act (some 10) [(.op (.un .not (.t 6)) [], false)] (.call 17 [.t 9]) [(9, .x (.t 0))], .tick 1, .act (some 12) [(.op (.un .not
  (.t 6)) [], false)] (.call 18 [.t 11]) [(11, .x (.t 0))], .set 2 (.pick (.op (.un .not (.t 6)) []) (.x (.c (.s (.bool true)))) (.op (.bin .eql .num (.t 10) (.t 12)) [])), .tick
  3] false) .ret))
theorem f5 : sF EE 5 [4, 5, 7, 8, 9, 11, 13, 14] = some ⟨15, [.t 2], c5⟩ := by kernel_rfl
/- 6 lineage/lineagelaw01.ValueOrder -/
def c6 : SC := .seq (.reg [.act (some 3) [] (.box 23 (.t 0)) [], .act (some 4) [] (.box 23 (.t 1)) [], .act (some 5) [] (.box 23 (.t 2)) [], .set 6 (.x (.c (.s (.bool false)))),
  .tick 1] false) (.seq (.seq (.reg [.act (some 10) [] (.call 10 []) [], .tick 1] false) (.cond (.op (.un .not (.t 10)) []) (.seq (.reg [.set 6 (.x (.c (.s (.bool false)))), .tick
  1] false) .ret) .skip)) (.seq (.seq (.reg [.tick 3, .act (some 15) [] (.rows 3 [.int .i64 0, .int .i64 0, .str []] 3 [(0, .t 12), (1, .t 13), (2, .t 14)]) [(12, .op (.load true 3
  (.t 3)) []), (13, .op (.load true 3 (.t 4)) []), (14, .op (.load true 3 (.t 5)) [])], .act (some 16) [] (.call 16 [.t 15, .c (.s (.int .i64 3))]) [], .tick 1] false) (.cond (.op
  (.un .not (.t 16)) []) (.seq (.reg [.set 6 (.x (.c (.s (.bool true)))), .tick 1] false) .ret) .skip)) (.seq (.reg [.tick 2, .act (some 20) [] (.call 19 [.t 18, .t 19]) [(18, .op
  (.load true 3 (.t 3)) []), (19, .op (.load true 3 (.t 4)) [])], .tick 2, .act (some 23) [] (.call 19 [.t 21, .t 22]) [(21, .op (.load true 3 (.t 4)) []), (22, .op (.load true 3
  (.t 5)) [])], .tick 2, .act (some 26) [] (.call 19 [.t 24, .t 25]) [(24, .op (.load true 3 (.t 3)) []), (25, .op (.load true 3 (.t 5)) [])], .set 7 (.x (.t 20)), .set 8 (.x (.t
  23)), .set 9 (.x (.t 26)), .tick 3] true) (.seq (.seq (.reg [.tick 2, .act (some 29) [] (.call 19 [.t 27, .t 28]) [(27, .op (.load true 3 (.t 3)) []), (28, .op (.load true 3 (.t
  3)) [])], .need [] (.op (.bin .neq .num (.t 29) (.c (.s (.int .i64 0)))) []), .tick 4, .act (some 34) [(.op (.bin .neq .num (.t 29) (.c (.s (.int .i64 0)))) [], false)] (.call 19
  [.t 32, .t 33]) [(32, .op (.load true 3 (.t 4)) []), (33, .op (.load true 3 (.t 3)) [])], .need [(.pick (.op (.bin .neq .num (.t 29) (.c (.s (.int .i64 0)))) []) (.x (.c (.s
  (.bool true)))) (.op (.bin .neq .num (.t 34) (.t 36)) [(36, .op (.un .neg (.t 35)) [(35, .x (.t 7))])]), false)] (.op (.bin .eql .num (.t 40) (.c (.s (.int .i64 0)))) [(40, .x
  (.t 7))]), .need [] (.pick (.op (.bin .neq .num (.t 29) (.c (.s (.int .i64 0)))) []) (.x (.c (.s (.bool true)))) (.op (.bin .neq .num (.t 34) (.t 36)) [(36, .op (.un .neg (.t
  35)) [(35, .x (.t 7))])])), .tick 9, .act (some 44) [(.pick (.op (.bin .neq .num (.t 29) (.c (.s (.int .i64 0)))) []) (.x (.c (.s (.bool true)))) (.op (.bin .neq .num (.t 34) (.t
  36)) [(36, .op (.un .neg (.t 35)) [(35, .x (.t 7))])]), false)] (.call 20 [.t 42, .t 43]) [(42, .op (.load true 3 (.t 3)) []), (43, .op (.load true 3 (.t 4)) [])], .tick 10]
  false) (.cond (.pick (.pick (.pick (.pick (.op (.bin .neq .num (.t 29) (.c (.s (.int .i64 0)))) []) (.x (.c (.s (.bool true)))) (.op (.bin .neq .num (.t 34) (.t 36)) [(36, .op
  (.un .neg (.t 35)) [(35, .x (.t 7))])])) (.x (.c (.s (.bool true)))) (.op (.bin .neq .bool (.t 41) (.t 44)) [(41, .op (.bin .eql .num (.t 40) (.c (.s (.int .i64 0)))) [(40, .x
  (.t 7))])])) (.x (.c (.s (.bool true)))) (.op (.bin .lss .num (.t 48) (.c (.s (.int .i64 (-1))))) [(48, .x (.t 7))])) (.x (.c (.s (.bool true)))) (.op (.bin .gtr .num (.t 52) (.c
  (.s (.int .i64 1)))) [(52, .x (.t 7))])) (.seq (.reg [.set 6 (.x (.c (.s (.bool false)))), .tick 1] false) .ret) .skip)) (.seq (.reg [.set 6 (.pick (.op (.un .not (.t 60)) [(60,
  .pick (.op (.bin .leq .num (.t 55) (.c (.s (.int .i64 0)))) [(55, .x (.t 7))]) (.op (.bin .leq .num (.t 58) (.c (.s (.int .i64 0)))) [(58, .x (.t 8))]) (.x (.c (.s (.bool
  false)))))]) (.x (.c (.s (.bool true)))) (.pick (.op (.bin .leq .num (.t 63) (.c (.s (.int .i64 0)))) [(63, .x (.t 9))]) (.pick (.op (.bin .lss .num (.t 66) (.c (.s (.int .i64
  0)))) [(66, .x (.t 9))]) (.x (.c (.s (.bool true)))) (.pick (.op (.bin .eql .num (.t 69) (.c (.s (.int .i64 0)))) [(69, .x (.t 7))]) (.op (.bin .eql .num (.t 72) (.c (.s (.int
  .i64 0)))) [(72, .x (.t 8))]) (.x (.c (.s (.bool false)))))) (.x (.c (.s (.bool false)))))), .tick 24] false) .ret)))))
theorem f6 : sF EE 6 [11, 12, 13, 14, 17, 18, 19, 21, 22, 24, 25, 27, 28, 30, 31, 32, 33, 35, 36, 37, 38, 39, 40, 41, 42, 43, 45, 46, 47, 48, 49, 50, 51, 52, 53, 54, 55, 56, 57,
  58, 59, 60, 61, 62, 63, 64, 65, 66, 67, 68, 69, 70, 71, 72, 73, 74, 75, 76, 77] = some ⟨78, [.t 6], c6⟩ := by kernel_rfl
/- 7 lineage/lineagelaw01.ValueValidity -/
def c7 : SC := .seq (.reg [.act (some 3) [] (.box 23 (.t 0)) [], .set 6 (.x (.c (.s (.bool false)))), .tick 1] false) (.seq (.seq (.reg [.act (some 11) [] (.call 10 []) [], .tick
  1] false) (.cond (.op (.un .not (.t 11)) []) (.seq (.reg [.set 6 (.x (.c (.s (.bool false)))), .tick 1] false) .ret) .skip)) (.seq (.seq (.reg [.tick 9] false) (.cond (.pick (.op
  (.bin .gtr .num (.t 15) (.c (.s (.int .i64 300)))) [(15, .op (.len .str (.t 14)) [(14, .op (.load false 1 (.t 13)) [(13, .op (.fa 2 (.t 3)) [])])])]) (.x (.c (.s (.bool true))))
  (.op (.bin .gtr .num (.t 19) (.c (.s (.int .i64 300)))) [(19, .op (.len .str (.t 18)) [(18, .x (.t 2))])])) (.seq (.reg [.set 6 (.x (.c (.s (.bool true)))), .tick 1] false) .ret)
  .skip)) (.seq (.reg [.set 23 (.x (.t 2)), .tick 1, .act (some 24) [] (.call 21 [.t 23]) [], .set 22 (.x (.t 24)), .set 25 (.op (.ext (.t 22) 0) []), .set 26 (.op (.ext (.t 22) 1)
  []), .set 7 (.x (.t 25)), .set 8 (.x (.t 26)), .tick 5] false) (.seq (.reg [.set 28 (.x (.t 2)), .tick 1, .act (some 29) [] (.call 22 [.t 28]) [], .set 27 (.x (.t 29)), .set 30
  (.op (.ext (.t 27) 0) []), .set 31 (.op (.ext (.t 27) 1) []), .set 9 (.x (.t 30)), .set 10 (.x (.t 31)), .tick 5] false) (.seq (.regD [.tick 1, .act (some 33) [] (.call 15 [.t
  32]) [(32, .op (.load true 3 (.t 3)) [])], .tick 1, .act (some 35) [] (.call 23 [.t 34]) [(34, .op (.load true 3 (.t 3)) [])], .need [] (.op (.bin .eql .bool (.t 33) (.t 35))
  []), .tick 3, .act (some 39) [(.op (.bin .eql .bool (.t 33) (.t 35)) [], true)] (.call 24 [.t 38]) [(38, .x (.t 1))], .tick 1, .act (some 41) [(.op (.bin .eql .bool (.t 33) (.t
  35)) [], true)] (.call 25 [.t 40]) [(40, .x (.t 1))], .set 6 (.pick (.pick (.pick (.op (.bin .eql .bool (.t 33) (.t 35)) []) (.op (.bin .eql .num (.t 39) (.t 41)) []) (.x (.c (.s
  (.bool false))))) (.op (.bin .eql .num (.t 45) (.t 46)) [(45, .x (.t 7)), (46, .x (.t 9))]) (.x (.c (.s (.bool false))))) (.op (.bin .eql .bool (.t 50) (.t 51)) [(50, .x (.t 8)),
  (51, .x (.t 10))]) (.x (.c (.s (.bool false))))), .tick 13] [] [1, 1]) .ret)))))
theorem f7 : sF EE 7 [12, 13, 14, 15, 16, 17, 18, 19, 20, 21, 32, 34, 36, 37, 38, 40, 42, 43, 44, 45, 46, 47, 48, 49, 50, 51, 52, 53] = some ⟨54, [.t 6], c7⟩ := by kernel_rfl
/- 8 lineage/lineagelaw01.ValueRowOrder -/
def c8 : SC := .seq (.reg [.act (some 5) [] (.box 23 (.t 2)) [], .set 6 (.x (.c (.s (.bool false)))), .tick 1] false) (.seq (.seq (.reg [.act (some 10) [] (.call 10 []) [], .tick
  1] false) (.cond (.op (.un .not (.t 10)) []) (.seq (.reg [.set 6 (.x (.c (.s (.bool false)))), .tick 1] false) .ret) .skip)) (.seq (.seq (.reg [.tick 1, .act (some 13) [] (.call
  16 [.t 12, .c (.s (.int .i64 20))]) [(12, .x (.t 0))], .need [] (.op (.un .not (.t 13)) []), .tick 3, .act (some 17) [(.op (.un .not (.t 13)) [], false)] (.call 16 [.t 16, .c (.s
  (.int .i64 20))]) [(16, .x (.t 1))], .tick 8] false) (.cond (.pick (.pick (.op (.un .not (.t 13)) []) (.x (.c (.s (.bool true)))) (.op (.un .not (.t 17)) [])) (.x (.c (.s (.bool
  true)))) (.op (.bin .gtr .num (.t 23) (.c (.s (.int .i64 300)))) [(23, .op (.len .str (.t 22)) [(22, .op (.load false 1 (.t 21)) [(21, .op (.fa 2 (.t 5)) [])])])])) (.seq (.reg
  [.set 6 (.x (.c (.s (.bool true)))), .tick 1] false) .ret) .skip)) (.seq (.regD [.act (some 26) [] (.rows 3 [.int .i64 0, .int .i64 0, .str []] 0 []) [], .set 27 (.x (.t 0)),
  .tick 1, .act (some 28) [] (.app 23 3 (.t 26) (.t 27)) [], .tick 1, .act (some 30) [] (.rows 3 [.int .i64 0, .int .i64 0, .str []] 1 [(0, .t 29)]) [(29, .op (.load true 3 (.t 5))
  [])], .act (some 31) [] (.app 23 3 (.t 28) (.t 30)) [], .set 7 (.x (.t 31)), .tick 1] [(2, 2, [.t 26, .t 27], 3, 1, [.t 5])] []) (.seq (.seq (.reg [.tick 2, .act (some 34) []
  (.call 26 [.t 32, .t 33]) [(32, .x (.t 0)), (33, .x (.t 7))], .need [] (.op (.bin .neq .num (.t 34) (.c (.s (.int .i64 (-1))))) []), .tick 4, .act (some 39) [(.op (.bin .neq .num
  (.t 34) (.c (.s (.int .i64 (-1))))) [], false)] (.call 26 [.t 37, .t 38]) [(37, .x (.t 7)), (38, .x (.t 0))], .need [] (.pick (.op (.bin .neq .num (.t 34) (.c (.s (.int .i64
  (-1))))) []) (.x (.c (.s (.bool true)))) (.op (.bin .neq .num (.t 39) (.c (.s (.int .i64 1)))) [])), .tick 5, .act (some 45) [(.pick (.op (.bin .neq .num (.t 34) (.c (.s (.int
  .i64 (-1))))) []) (.x (.c (.s (.bool true)))) (.op (.bin .neq .num (.t 39) (.c (.s (.int .i64 1)))) []), false)] (.call 26 [.t 43, .t 44]) [(43, .x (.t 0)), (44, .x (.t 0))],
  .tick 2] false) (.cond (.pick (.pick (.op (.bin .neq .num (.t 34) (.c (.s (.int .i64 (-1))))) []) (.x (.c (.s (.bool true)))) (.op (.bin .neq .num (.t 39) (.c (.s (.int .i64
  1)))) [])) (.x (.c (.s (.bool true)))) (.op (.bin .neq .num (.t 45) (.c (.s (.int .i64 0)))) [])) (.seq (.reg [.set 6 (.x (.c (.s (.bool false)))), .tick 1] false) .ret) .skip))
  (.seq (.seq (.reg [.set 8 (.x (.c (.s (.int .i64 0)))), .tick 1] false) (.block 0 (.loop (.seq (.seq (.reg [.tick 10] false) (.cond (.pick (.op (.bin .lss .num (.t 48) (.t 50))
  [(48, .x (.t 8)), (50, .op (.len (.sl 0) (.t 49)) [(49, .x (.t 0))])]) (.op (.bin .lss .num (.t 53) (.t 55)) [(53, .x (.t 8)), (55, .op (.len (.sl 0) (.t 54)) [(54, .x (.t
  1))])]) (.x (.c (.s (.bool false))))) .skip (.exit 0))) (.seq (.block 1 (.seq (.reg [.tick 8, .act (some 68) [] (.call 19 [.t 63, .t 67]) [(63, .op (.load true 3 (.t 62)) [(62,
  .op (.ia (.sl 3) (.t 60) (.t 61)) [(60, .x (.t 0)), (61, .x (.t 8))])]), (67, .op (.load true 3 (.t 66)) [(66, .op (.ia (.sl 3) (.t 64) (.t 65)) [(64, .x (.t 1)), (65, .x (.t
  8))])])], .set 9 (.x (.t 68)), .tick 1] true) (.seq (.reg [.tick 2] false) (.cond (.op (.bin .neq .num (.t 69) (.c (.s (.int .i64 0)))) [(69, .x (.t 9))]) (.seq (.reg [.tick 2,
  .act (some 73) [] (.call 26 [.t 71, .t 72]) [(71, .x (.t 0)), (72, .x (.t 1))], .set 6 (.op (.bin .eql .num (.t 73) (.t 74)) [(74, .x (.t 9))]), .tick 3] false) .ret) .skip))))
  (.reg [.set 8 (.op (.bin .add .num (.t 58) (.c (.s (.int .i64 1)))) [(58, .x (.t 8))]), .tick 3] false)))))) (.seq (.reg [.tick 2, .act (some 78) [] (.call 26 [.t 76, .t 77])
  [(76, .x (.t 0)), (77, .x (.t 1))], .set 6 (.op (.bin .eql .bool (.t 79) (.t 84)) [(79, .op (.bin .eql .num (.t 78) (.c (.s (.int .i64 0)))) []), (84, .op (.bin .eql .num (.t 81)
  (.t 83)) [(81, .op (.len (.sl 0) (.t 80)) [(80, .x (.t 0))]), (83, .op (.len (.sl 0) (.t 82)) [(82, .x (.t 1))])])]), .tick 8] false) .ret))))))
theorem f8 : sF EE 8 [11, 12, 14, 15, 16, 18, 19, 20, 21, 22, 23, 24, 25, 29, 32, 33, 35, 36, 37, 38, 40, 41, 42, 43, 44, 46, 47, 48, 49, 50, 51, 52, 53, 54, 55, 56, 57, 60, 61,
  62, 63, 64, 65, 66, 67, 69, 70, 71, 72, 74, 75, 58, 59, 76, 77, 79, 80, 81, 82, 83, 84, 85] = some ⟨86, [.t 6], c8⟩ := by kernel_rfl
/- 9 lineage/lineagelaw01.ValueComparison -/
def c9 : SC := .seq (.reg [.act (some 4) [] (.box 23 (.t 0)) [], .act (some 5) [] (.box 23 (.t 1)) [], .set 8 (.x (.c (.s (.bool false)))), .tick 1] false) (.seq (.seq (.reg [.act
  (some 9) [] (.call 10 []) [], .tick 1] false) (.cond (.op (.un .not (.t 9)) []) (.seq (.reg [.set 8 (.x (.c (.s (.bool false)))), .tick 1] false) .ret) .skip)) (.seq (.seq (.reg
  [.tick 2, .act (some 13) [] (.rows 3 [.int .i64 0, .int .i64 0, .str []] 2 [(0, .t 11), (1, .t 12)]) [(11, .op (.load true 3 (.t 4)) []), (12, .op (.load true 3 (.t 5)) [])],
  .act (some 14) [] (.call 16 [.t 13, .c (.s (.int .i64 2))]) [], .need [] (.op (.un .not (.t 14)) []), .tick 3, .act (some 18) [(.op (.un .not (.t 14)) [], false)] (.call 16 [.t
  17, .c (.s (.int .i64 20))]) [(17, .x (.t 2))], .need [] (.pick (.op (.un .not (.t 14)) []) (.x (.c (.s (.bool true)))) (.op (.un .not (.t 18)) [])), .tick 4, .act (some 23)
  [(.pick (.op (.un .not (.t 14)) []) (.x (.c (.s (.bool true)))) (.op (.un .not (.t 18)) []), false)] (.call 16 [.t 22, .c (.s (.int .i64 20))]) [(22, .x (.t 3))], .tick 2] false)
  (.cond (.pick (.pick (.op (.un .not (.t 14)) []) (.x (.c (.s (.bool true)))) (.op (.un .not (.t 18)) [])) (.x (.c (.s (.bool true)))) (.op (.un .not (.t 23)) [])) (.seq (.reg
  [.set 8 (.x (.c (.s (.bool true)))), .tick 1] false) .ret) .skip)) (.seq (.regD [.tick 2, .act (some 28) [] (.call 19 [.t 26, .t 27]) [(26, .op (.load true 3 (.t 4)) []), (27,
  .op (.load true 3 (.t 5)) [])], .tick 2, .act (some 31) [] (.call 27 [.t 29, .t 30]) [(29, .op (.load true 3 (.t 4)) []), (30, .op (.load true 3 (.t 5)) [])], .need [] (.op (.bin
  .eql .num (.t 28) (.t 31)) []), .tick 4, .act (some 36) [(.op (.bin .eql .num (.t 28) (.t 31)) [], true)] (.call 26 [.t 34, .t 35]) [(34, .x (.t 2)), (35, .x (.t 3))], .tick 2,
  .act (some 39) [(.op (.bin .eql .num (.t 28) (.t 31)) [], true)] (.call 28 [.t 37, .t 38]) [(37, .x (.t 2)), (38, .x (.t 3))], .need [] (.pick (.op (.bin .eql .num (.t 28) (.t
  31)) []) (.op (.bin .eql .num (.t 36) (.t 39)) []) (.x (.c (.s (.bool false))))), .tick 5, .act (some 45) [(.pick (.op (.bin .eql .num (.t 28) (.t 31)) []) (.op (.bin .eql .num
  (.t 36) (.t 39)) []) (.x (.c (.s (.bool false)))), true)] (.call 20 [.t 43, .t 44]) [(43, .op (.load true 3 (.t 4)) []), (44, .op (.load true 3 (.t 5)) [])], .set 8 (.pick (.pick
  (.op (.bin .eql .num (.t 28) (.t 31)) []) (.op (.bin .eql .num (.t 36) (.t 39)) []) (.x (.c (.s (.bool false))))) (.op (.bin .eql .bool (.t 45) (.t 48)) [(48, .op (.bin .eql
  (.flat [1, 1, 2]) (.t 46) (.t 47)) [(46, .op (.load true 3 (.t 4)) []), (47, .op (.load true 3 (.t 5)) [])])]) (.x (.c (.s (.bool false))))), .tick 6] [] [2, 3, 2, 3]) .ret)))
theorem f9 : sF EE 9 [10, 11, 12, 15, 16, 17, 19, 20, 21, 22, 24, 25, 26, 27, 29, 30, 32, 33, 34, 35, 37, 38, 40, 41, 42, 43, 44, 46, 47, 48, 49, 50] = some ⟨51, [.t 8], c9⟩ := by
  kernel_rfl
/- 10 lineage/lineagelaw01.awake -/
def c10 : SC := .seq (.reg [.set 0 (.x (.c (.s (.bool false)))), .tick 1] false) (.seq (.reg [.need [] (.op (.build [.int .i64 0, .int .i64 0, .str []] [(0, 1, .c (.s (.int .i64
  1))), (2, 1, .c (.s (.str [105, 116, 39, 115])))]) []), .tick 1, .act (some 1) [] (.alloc 23 [.int .i64 0, .int .i64 0, .str []]) [], .act none [] (.store 3 (.t 1) (.t 6)) [(6,
  .op (.build [.int .i64 0, .int .i64 0, .str []] [(0, 1, .c (.s (.int .i64 1))), (2, 1, .c (.s (.str [105, 116, 39, 115])))]) [])]] false) (.seq (.reg [.act (some 8) [] (.call 11
  [.c (.s (.str [45, 55]))]) [], .need [] (.op (.ext (.t 7) 1) [(7, .x (.t 8))]), .need [] (.op (.ext (.t 7) 0) [(7, .x (.t 8))]), .tick 3, .act (some 2) [] (.alloc 23 [.int .i64
  0, .int .i64 0, .str []]) [], .act none [] (.store 3 (.t 2) (.t 9)) [(9, .op (.ext (.t 7) 0) [(7, .x (.t 8))])], .set 3 (.op (.ext (.t 7) 1) [(7, .x (.t 8))]), .tick 1] false)
  (.seq (.reg [.act (some 12) [] (.call 11 [.c (.s (.str [45, 48]))]) [], .need [] (.op (.ext (.t 11) 1) [(11, .x (.t 12))]), .need [] (.op (.ext (.t 11) 0) [(11, .x (.t 12))]),
  .tick 3, .act (some 4) [] (.alloc 23 [.int .i64 0, .int .i64 0, .str []]) [], .act none [] (.store 3 (.t 4) (.t 13)) [(13, .op (.ext (.t 11) 0) [(11, .x (.t 12))])], .set 5 (.op
  (.ext (.t 11) 1) [(11, .x (.t 12))]), .tick 1] false) (.seq (.reg [.tick 1, .act (some 16) [] (.call 13 [.t 15]) [(15, .op (.load true 3 (.t 1)) [])], .set 31 (.pick (.pick
  (.pick (.op (.bin .eql .num (.t 16) (.c (.s (.str [39, 105, 116, 39, 39, 115, 39])))) []) (.op (.bin .eql (.flat [1, 1, 2]) (.t 19) (.t 20)) [(19, .op (.load true 3 (.t 2)) []),
  (20, .op (.build [.int .i64 0, .int .i64 0, .str []] [(1, 1, .c (.s (.int .i64 (-7))))]) [])]) (.x (.c (.s (.bool false))))) (.op (.bin .eql .num (.t 24) (.c (.s (.int .i64 0))))
  [(24, .x (.t 3))]) (.x (.c (.s (.bool false))))) (.op (.bin .eql .num (.t 28) (.c (.s (.int .i64 3)))) [(28, .x (.t 5))]) (.x (.c (.s (.bool false))))), .tick 17, .act (some 34)
  [(.x (.t 31), true)] (.call 19 [.t 32, .t 33]) [(32, .op (.load true 3 (.t 2)) []), (33, .op (.load true 3 (.t 1)) [])], .need [] (.pick (.x (.t 31)) (.op (.bin .eql .num (.t 34)
  (.c (.s (.int .i64 (-1))))) []) (.x (.c (.s (.bool false))))), .need [(.x (.t 31), true)] (.op (.bin .eql .num (.t 34) (.c (.s (.int .i64 (-1))))) []), .tick 3, .act (some 38)
  [(.pick (.x (.t 31)) (.op (.bin .eql .num (.t 34) (.c (.s (.int .i64 (-1))))) []) (.x (.c (.s (.bool false)))), true)] (.call 24 [.c (.s (.int .i64 2))]) [], .need [] (.pick
  (.pick (.x (.t 31)) (.op (.bin .eql .num (.t 34) (.c (.s (.int .i64 (-1))))) []) (.x (.c (.s (.bool false))))) (.op (.bin .eql .num (.t 38) (.c (.s (.str [66, 79, 79, 76, 69, 65,
  78])))) []) (.x (.c (.s (.bool false))))), .tick 3, .act (some 42) [(.pick (.pick (.x (.t 31)) (.op (.bin .eql .num (.t 34) (.c (.s (.int .i64 (-1))))) []) (.x (.c (.s (.bool
  false))))) (.op (.bin .eql .num (.t 38) (.c (.s (.str [66, 79, 79, 76, 69, 65, 78])))) []) (.x (.c (.s (.bool false)))), true)] (.call 17 [.c (.s .nils)]) [], .need [] (.pick
  (.pick (.pick (.x (.t 31)) (.op (.bin .eql .num (.t 34) (.c (.s (.int .i64 (-1))))) []) (.x (.c (.s (.bool false))))) (.op (.bin .eql .num (.t 38) (.c (.s (.str [66, 79, 79, 76,
  69, 65, 78])))) []) (.x (.c (.s (.bool false))))) (.op (.bin .eql .num (.t 42) (.c (.s (.int (.u64) 14695981039346656037)))) []) (.x (.c (.s (.bool false))))), .tick 4, .act
  (some 47) [(.pick (.pick (.pick (.x (.t 31)) (.op (.bin .eql .num (.t 34) (.c (.s (.int .i64 (-1))))) []) (.x (.c (.s (.bool false))))) (.op (.bin .eql .num (.t 38) (.c (.s (.str
  [66, 79, 79, 76, 69, 65, 78])))) []) (.x (.c (.s (.bool false))))) (.op (.bin .eql .num (.t 42) (.c (.s (.int (.u64) 14695981039346656037)))) []) (.x (.c (.s (.bool false)))),
  true)] (.call 15 [.t 46]) [(46, .op (.load true 3 (.t 1)) [])], .set 0 (.pick (.pick (.pick (.pick (.x (.t 31)) (.op (.bin .eql .num (.t 34) (.c (.s (.int .i64 (-1))))) []) (.x
  (.c (.s (.bool false))))) (.op (.bin .eql .num (.t 38) (.c (.s (.str [66, 79, 79, 76, 69, 65, 78])))) []) (.x (.c (.s (.bool false))))) (.op (.bin .eql .num (.t 42) (.c (.s (.int
  (.u64) 14695981039346656037)))) []) (.x (.c (.s (.bool false))))) (.x (.t 47)) (.x (.c (.s (.bool false))))), .tick 2] false) .ret))))
theorem f10 : sF EE 10 [6, 7, 9, 10, 11, 13, 14, 15, 17, 18, 19, 20, 21, 22, 23, 24, 25, 26, 27, 28, 29, 30, 32, 33, 35, 36, 37, 39, 40, 41, 43, 44, 45, 46, 48] = some ⟨49, [.t 0],
  c10⟩ := by kernel_rfl
/- 11 lineage/value.Parse -/
def c11 : SC := .seq (.reg [.act (some 2) [] (.alloc 23 [.int .i64 0, .int .i64 0, .str []]) [], .set 3 (.x (.c (.s (.int .i64 0)))), .tick 1] false) (.seq (.seq (.reg [.set 8 (.x
  (.t 0)), .tick 1] false) (.block 0 (.seq (.reg [.tick 2] false) (.cond (.op (.bin .eql .num (.t 8) (.c (.s (.str [84, 82, 85, 69])))) []) (.seq (.reg [.tick 1, .act none []
  (.store 3 (.t 2) (.t 11)) [(11, .op (.build [.int .i64 0, .int .i64 0, .str []] [(0, 1, .c (.s (.int .i64 2))), (1, 1, .c (.s (.int .i64 1)))]) [])], .set 3 (.x (.c (.s (.int
  .i64 0)))), .tick 1] false) .ret) (.seq (.reg [.tick 2] false) (.cond (.op (.bin .eql .num (.t 8) (.c (.s (.str [70, 65, 76, 83, 69])))) []) (.seq (.reg [.tick 1, .act none []
  (.store 3 (.t 2) (.t 14)) [(14, .op (.build [.int .i64 0, .int .i64 0, .str []] [(0, 1, .c (.s (.int .i64 2)))]) [])], .set 3 (.x (.c (.s (.int .i64 0)))), .tick 1] false) .ret)
  .skip)))))) (.seq (.seq (.reg [.tick 1, .act (some 17) [] (.call 29 [.t 16]) [(16, .x (.t 0))], .set 4 (.op (.ext (.t 15) 0) [(15, .x (.t 17))]), .set 5 (.op (.ext (.t 15) 1)
  [(15, .x (.t 17))]), .tick 5] false) (.seq (.reg [.tick 1] false) (.cond (.x (.t 5)) (.seq (.seq (.reg [.tick 3] false) (.cond (.op (.bin .gtr .num (.t 22) (.c (.s (.int .i64
  255)))) [(22, .op (.len .str (.t 21)) [(21, .x (.t 4))])]) (.seq (.reg [.tick 1, .act none [] (.store 3 (.t 2) (.t 24)) [(24, .op (.build [.int .i64 0, .int .i64 0, .str []] [])
  [])], .set 3 (.x (.c (.s (.int .i64 6)))), .tick 1] false) .ret) .skip)) (.seq (.reg [.tick 2, .act none [] (.store 3 (.t 2) (.t 26)) [(26, .op (.build [.int .i64 0, .int .i64 0,
  .str []] [(0, 1, .c (.s (.int .i64 1))), (2, 1, .t 25)]) [(25, .x (.t 4))])], .set 3 (.x (.c (.s (.int .i64 0)))), .tick 1] false) .ret)) .skip))) (.seq (.seq (.reg [.tick 1,
  .act (some 28) [] (.call 30 [.t 27]) [(27, .x (.t 0))], .tick 1] false) (.cond (.op (.un .not (.t 28)) []) (.seq (.reg [.tick 1, .act none [] (.store 3 (.t 2) (.t 30)) [(30, .op
  (.build [.int .i64 0, .int .i64 0, .str []] []) [])], .set 3 (.x (.c (.s (.int .i64 3)))), .tick 1] false) .ret) .skip)) (.seq (.reg [.tick 1, .act (some 33) [] (.call 31 [.t 32,
  .c (.s (.int .i64 10)), .c (.s (.int .i64 64))]) [(32, .x (.t 0))], .set 6 (.op (.ext (.t 31) 0) [(31, .x (.t 33))]), .set 7 (.op (.ext (.t 31) 1) [(31, .x (.t 33))]), .tick 5]
  false) (.seq (.seq (.reg [.tick 2] false) (.cond (.op (.bin .neq (.nil 0) (.t 36) (.c (.s .nili))) [(36, .x (.t 7))]) (.seq (.reg [.tick 1, .act none [] (.store 3 (.t 2) (.t 38))
  [(38, .op (.build [.int .i64 0, .int .i64 0, .str []] []) [])], .set 3 (.x (.c (.s (.int .i64 2)))), .tick 1] false) .ret) .skip)) (.seq (.reg [.tick 2, .act none [] (.store 3
  (.t 2) (.t 40)) [(40, .op (.build [.int .i64 0, .int .i64 0, .str []] [(1, 1, .t 39)]) [(39, .x (.t 6))])], .set 3 (.x (.c (.s (.int .i64 0)))), .tick 1] false) .ret))))))
theorem f11 : sF EE 11 [10, 9, 11, 13, 12, 14, 16, 15, 18, 19, 20, 21, 22, 23, 24, 25, 26, 27, 29, 30, 32, 31, 34, 35, 36, 37, 38, 39, 40] = some ⟨41, [.cell true 3 2, .t 3], c11⟩
  := by kernel_rfl
/- 12 lineage/lineageref01.Parse -/
def c12 : SC := .seq (.reg [.act (some 2) [] (.alloc 23 [.int .i64 0, .int .i64 0, .str []]) [], .set 3 (.x (.c (.s (.int .i64 0)))), .tick 1] false) (.seq (.seq (.reg [.tick 2]
  false) (.cond (.op (.bin .eql .num (.t 10) (.c (.s (.str [84, 82, 85, 69])))) [(10, .x (.t 0))]) (.seq (.reg [.tick 1, .act none [] (.store 3 (.t 2) (.t 12)) [(12, .op (.build
  [.int .i64 0, .int .i64 0, .str []] [(0, 1, .c (.s (.int .i64 2))), (1, 1, .c (.s (.int .i64 1)))]) [])], .set 3 (.x (.c (.s (.int .i64 0)))), .tick 1] false) .ret) .skip)) (.seq
  (.seq (.reg [.tick 2] false) (.cond (.op (.bin .eql .num (.t 13) (.c (.s (.str [70, 65, 76, 83, 69])))) [(13, .x (.t 0))]) (.seq (.reg [.tick 1, .act none [] (.store 3 (.t 2) (.t
  15)) [(15, .op (.build [.int .i64 0, .int .i64 0, .str []] [(0, 1, .c (.s (.int .i64 2)))]) [])], .set 3 (.x (.c (.s (.int .i64 0)))), .tick 1] false) .ret) .skip)) (.seq (.seq
  (.reg [.tick 1, .act (some 18) [] (.call 32 [.t 17]) [(17, .x (.t 0))], .set 4 (.op (.ext (.t 16) 0) [(16, .x (.t 18))]), .set 5 (.op (.ext (.t 16) 1) [(16, .x (.t 18))]), .tick
  5] false) (.seq (.reg [.tick 1] false) (.cond (.x (.t 5)) (.seq (.seq (.reg [.tick 3] false) (.cond (.op (.bin .gtr .num (.t 23) (.c (.s (.int .i64 255)))) [(23, .op (.len .str
  (.t 22)) [(22, .x (.t 4))])]) (.seq (.reg [.tick 1, .act none [] (.store 3 (.t 2) (.t 25)) [(25, .op (.build [.int .i64 0, .int .i64 0, .str []] []) [])], .set 3 (.x (.c (.s
  (.int .i64 6)))), .tick 1] false) .ret) .skip)) (.seq (.reg [.tick 2, .act none [] (.store 3 (.t 2) (.t 27)) [(27, .op (.build [.int .i64 0, .int .i64 0, .str []] [(0, 1, .c (.s
  (.int .i64 1))), (2, 1, .t 26)]) [(26, .x (.t 4))])], .set 3 (.x (.c (.s (.int .i64 0)))), .tick 1] false) .ret)) .skip))) (.seq (.seq (.reg [.tick 2] false) (.cond (.op (.bin
  .eql .num (.t 28) (.c (.s (.str [45, 48])))) [(28, .x (.t 0))]) (.seq (.reg [.tick 1, .act none [] (.store 3 (.t 2) (.t 30)) [(30, .op (.build [.int .i64 0, .int .i64 0, .str []]
  []) [])], .set 3 (.x (.c (.s (.int .i64 3)))), .tick 1] false) .ret) .skip)) (.seq (.seq (.reg [.tick 7] false) (.cond (.pick (.op (.bin .neq .num (.t 31) (.c (.s (.str []))))
  [(31, .x (.t 0))]) (.op (.bin .eql .num (.t 35) (.c (.s (.int .u8 45)))) [(35, .op (.iv .str (.t 34) (.c (.s (.int .i64 0)))) [(34, .x (.t 0))])]) (.x (.c (.s (.bool false)))))
  (.seq (.reg [.tick 2, .act (some 41) [] (.call 33 [.t 40, .c (.s (.int (.u64) 9223372036854775808))]) [(40, .op (.sl .str (.t 39) (some (.c (.s (.int .i64 1)))) none) [(39, .x
  (.t 0))])], .set 6 (.op (.ext (.t 38) 0) [(38, .x (.t 41))]), .set 7 (.op (.ext (.t 38) 1) [(38, .x (.t 41))]), .tick 5] false) (.seq (.seq (.reg [.tick 2] false) (.cond (.op
  (.bin .neq .num (.t 44) (.c (.s (.int .i64 0)))) [(44, .x (.t 7))]) (.seq (.reg [.tick 2, .act none [] (.store 3 (.t 2) (.t 46)) [(46, .op (.build [.int .i64 0, .int .i64 0, .str
  []] []) [])], .set 3 (.x (.t 7)), .tick 1] false) .ret) .skip)) (.seq (.reg [.tick 4, .act none [] (.store 3 (.t 2) (.t 51)) [(51, .op (.build [.int .i64 0, .int .i64 0, .str []]
  [(1, 1, .t 50)]) [(50, .op (.conv (.int .i64) (.t 49)) [(49, .op (.un .neg (.t 48)) [(48, .x (.t 6))])])])], .set 3 (.x (.c (.s (.int .i64 0)))), .tick 1] false) .ret))) .skip))
  (.seq (.reg [.tick 1, .act (some 54) [] (.call 33 [.t 53, .c (.s (.int (.u64) 9223372036854775807))]) [(53, .x (.t 0))], .set 8 (.op (.ext (.t 52) 0) [(52, .x (.t 54))]), .set 9
  (.op (.ext (.t 52) 1) [(52, .x (.t 54))]), .tick 5] false) (.seq (.seq (.reg [.tick 2] false) (.cond (.op (.bin .neq .num (.t 57) (.c (.s (.int .i64 0)))) [(57, .x (.t 9))])
  (.seq (.reg [.tick 2, .act none [] (.store 3 (.t 2) (.t 59)) [(59, .op (.build [.int .i64 0, .int .i64 0, .str []] []) [])], .set 3 (.x (.t 9)), .tick 1] false) .ret) .skip))
  (.seq (.reg [.tick 3, .act none [] (.store 3 (.t 2) (.t 63)) [(63, .op (.build [.int .i64 0, .int .i64 0, .str []] [(1, 1, .t 62)]) [(62, .op (.conv (.int .i64) (.t 61)) [(61, .x
  (.t 8))])])], .set 3 (.x (.c (.s (.int .i64 0)))), .tick 1] false) .ret))))))))
theorem f12 : sF EE 12 [10, 11, 12, 13, 14, 15, 17, 16, 19, 20, 21, 22, 23, 24, 25, 26, 27, 28, 29, 30, 31, 32, 33, 34, 35, 36, 37, 39, 40, 38, 42, 43, 44, 45, 46, 47, 48, 49, 50,
  51, 53, 52, 55, 56, 57, 58, 59, 60, 61, 62, 63] = some ⟨64, [.cell true 3 2, .t 3], c12⟩ := by kernel_rfl
/- 13 lineage/value.Format -/
def c13 : SC := .seq (.reg [.act (some 1) [] (.box 23 (.t 0)) [], .set 2 (.x (.c (.s (.str [])))), .tick 1] false) (.seq (.block 0 (.seq (.reg [.tick 1, .act (some 5) [] (.call 15
  [.t 4]) [(4, .op (.load true 3 (.t 1)) [])], .tick 2] false) (.cond (.op (.un .not (.t 5)) []) (.seq (.reg [.set 2 (.x (.c (.s (.str [])))), .tick 1] false) .ret) (.seq (.reg
  [.tick 4] false) (.cond (.op (.bin .eql .num (.t 9) (.c (.s (.int .i64 0)))) [(9, .op (.load false 1 (.t 8)) [(8, .op (.fa 0 (.t 1)) [])])]) (.seq (.reg [.tick 2, .act (some 13)
  [] (.call 34 [.t 12, .c (.s (.int .i64 10))]) [(12, .op (.load false 1 (.t 11)) [(11, .op (.fa 1 (.t 1)) [])])], .set 2 (.x (.t 13)), .tick 1] false) .ret) (.seq (.reg [.tick 4]
  false) (.cond (.op (.bin .eql .num (.t 16) (.c (.s (.int .i64 1)))) [(16, .op (.load false 1 (.t 15)) [(15, .op (.fa 0 (.t 1)) [])])]) (.seq (.reg [.tick 2, .act (some 20) []
  (.call 35 [.t 19, .c (.s (.str [39])), .c (.s (.str [39, 39]))]) [(19, .op (.load false 1 (.t 18)) [(18, .op (.fa 2 (.t 1)) [])])], .set 2 (.op (.bin .add .num (.t 21) (.c (.s
  (.str [39])))) [(21, .op (.bin .add .num (.c (.s (.str [39]))) (.t 20)) [])]), .tick 3] false) .ret) (.seq (.reg [.tick 4] false) (.cond (.op (.bin .eql .num (.t 25) (.c (.s
  (.int .i64 1)))) [(25, .op (.load false 1 (.t 24)) [(24, .op (.fa 1 (.t 1)) [])])]) (.seq (.reg [.set 2 (.x (.c (.s (.str [84, 82, 85, 69])))), .tick 1] false) .ret)
  .skip))))))))) (.seq (.reg [.set 2 (.x (.c (.s (.str [70, 65, 76, 83, 69])))), .tick 1] false) .ret))
theorem f13 : sF EE 13 [4, 6, 3, 8, 9, 10, 7, 11, 12, 15, 16, 17, 14, 18, 19, 21, 22, 24, 25, 26, 23] = some ⟨27, [.t 2], c13⟩ := by kernel_rfl
/- 14 lineage/lineageref01.Format -/
def c14 : SC := .seq (.reg [.act (some 1) [] (.box 23 (.t 0)) [], .set 2 (.x (.c (.s (.str [])))), .tick 1] false) (.seq (.seq (.reg [.tick 1, .act (some 6) [] (.call 23 [.t 5])
  [(5, .op (.load true 3 (.t 1)) [])], .tick 1] false) (.cond (.op (.un .not (.t 6)) []) (.seq (.reg [.set 2 (.x (.c (.s (.str [])))), .tick 1] false) .ret) .skip)) (.seq (.seq
  (.reg [.tick 3] false) (.cond (.op (.bin .eql .num (.t 9) (.c (.s (.int .i64 0)))) [(9, .op (.load false 1 (.t 8)) [(8, .op (.fa 0 (.t 1)) [])])]) (.seq (.reg [.tick 2, .act
  (some 13) [] (.call 36 [.t 12]) [(12, .op (.load false 1 (.t 11)) [(11, .op (.fa 1 (.t 1)) [])])], .set 2 (.x (.t 13)), .tick 1] false) .ret) .skip)) (.seq (.seq (.reg [.tick 3]
  false) (.cond (.op (.bin .eql .num (.t 15) (.c (.s (.int .i64 2)))) [(15, .op (.load false 1 (.t 14)) [(14, .op (.fa 0 (.t 1)) [])])]) (.seq (.seq (.reg [.tick 3] false) (.cond
  (.op (.bin .eql .num (.t 18) (.c (.s (.int .i64 1)))) [(18, .op (.load false 1 (.t 17)) [(17, .op (.fa 1 (.t 1)) [])])]) (.seq (.reg [.set 2 (.x (.c (.s (.str [84, 82, 85,
  69])))), .tick 1] false) .ret) .skip)) (.seq (.reg [.set 2 (.x (.c (.s (.str [70, 65, 76, 83, 69])))), .tick 1] false) .ret)) .skip)) (.seq (.reg [.set 3 (.x (.c (.s (.str
  [39])))), .tick 1] false) (.seq (.seq (.reg [.set 4 (.x (.c (.s (.int .i64 0)))), .tick 1] false) (.block 0 (.loop (.seq (.seq (.reg [.tick 5] false) (.cond (.op (.bin .lss .num
  (.t 20) (.t 23)) [(20, .x (.t 4)), (23, .op (.len .str (.t 22)) [(22, .op (.load false 1 (.t 21)) [(21, .op (.fa 2 (.t 1)) [])])])]) .skip (.exit 0))) (.seq (.block 1 (.seq (.reg
  [.set 3 (.op (.bin .add .num (.t 27) (.t 33)) [(27, .x (.t 3)), (33, .op (.sl .str (.t 29) (some (.t 30)) (some (.t 32))) [(29, .op (.load false 1 (.t 28)) [(28, .op (.fa 2 (.t
  1)) [])]), (30, .x (.t 4)), (32, .op (.bin .add .num (.t 31) (.c (.s (.int .i64 1)))) [(31, .x (.t 4))])])]), .tick 9] false) (.seq (.reg [.tick 5] false) (.seq (.reg [.need []
  (.op (.sl .str (.t 29) (some (.t 30)) (some (.t 32))) [(29, .op (.load false 1 (.t 28)) [(28, .op (.fa 2 (.t 1)) [])]), (30, .x (.t 4)), (32, .op (.bin .add .num (.t 31) (.c (.s
  (.int .i64 1)))) [(31, .x (.t 4))])])] false) (.cond (.op (.bin .eql .num (.t 38) (.c (.s (.int .u8 39)))) [(38, .op (.iv .str (.t 36) (.t 37)) [(36, .op (.load false 1 (.t 35))
  [(35, .op (.fa 2 (.t 1)) [])]), (37, .x (.t 4))])]) (.reg [.set 3 (.op (.bin .add .num (.t 40) (.c (.s (.str [39])))) [(40, .x (.t 3))]), .tick 3] false) .skip))))) (.reg [.set 4
  (.op (.bin .add .num (.t 25) (.c (.s (.int .i64 1)))) [(25, .x (.t 4))]), .tick 3] false)))))) (.seq (.reg [.set 2 (.op (.bin .add .num (.t 42) (.c (.s (.str [39])))) [(42, .x
  (.t 3))]), .tick 3] false) .ret))))))
theorem f14 : sF EE 14 [5, 7, 8, 9, 10, 11, 12, 14, 15, 16, 17, 18, 19, 20, 21, 22, 23, 24, 27, 28, 29, 30, 31, 32, 33, 34, 35, 36, 37, 38, 39, 40, 41, 25, 26, 42, 43] = some ⟨44,
  [.t 2], c14⟩ := by kernel_rfl
/- 15 lineage/value.Valid -/
def c15 : SC := .seq (.reg [.act (some 1) [] (.box 23 (.t 0)) [], .set 2 (.x (.c (.s (.bool false)))), .tick 1] false) (.seq (.seq (.reg [.set 4 (.op (.load false 1 (.t 3)) [(3,
  .op (.fa 0 (.t 1)) [])]), .tick 2] false) (.block 0 (.seq (.reg [.tick 2] false) (.cond (.op (.bin .eql .num (.t 4) (.c (.s (.int .i64 0)))) []) (.seq (.reg [.set 2 (.op (.bin
  .eql .num (.t 8) (.c (.s (.str [])))) [(8, .op (.load false 1 (.t 7)) [(7, .op (.fa 2 (.t 1)) [])])]), .tick 4] false) .ret) (.seq (.reg [.tick 2] false) (.cond (.op (.bin .eql
  .num (.t 4) (.c (.s (.int .i64 1)))) []) (.seq (.reg [.set 2 (.pick (.op (.bin .eql .num (.t 13) (.c (.s (.int .i64 0)))) [(13, .op (.load false 1 (.t 12)) [(12, .op (.fa 1 (.t
  1)) [])])]) (.op (.bin .leq .num (.t 18) (.c (.s (.int .i64 255)))) [(18, .op (.len .str (.t 17)) [(17, .op (.load false 1 (.t 16)) [(16, .op (.fa 2 (.t 1)) [])])])]) (.x (.c (.s
  (.bool false))))), .tick 10] false) .ret) (.seq (.reg [.tick 2] false) (.cond (.op (.bin .eql .num (.t 4) (.c (.s (.int .i64 2)))) []) (.seq (.reg [.set 2 (.pick (.pick (.op
  (.bin .eql .num (.t 24) (.c (.s (.int .i64 0)))) [(24, .op (.load false 1 (.t 23)) [(23, .op (.fa 1 (.t 1)) [])])]) (.x (.c (.s (.bool true)))) (.op (.bin .eql .num (.t 28) (.c
  (.s (.int .i64 1)))) [(28, .op (.load false 1 (.t 27)) [(27, .op (.fa 1 (.t 1)) [])])])) (.op (.bin .eql .num (.t 33) (.c (.s (.str [])))) [(33, .op (.load false 1 (.t 32)) [(32,
  .op (.fa 2 (.t 1)) [])])]) (.x (.c (.s (.bool false))))), .tick 14] false) .ret) .skip)))))))) (.seq (.reg [.set 2 (.x (.c (.s (.bool false)))), .tick 1] false) .ret))
theorem f15 : sF EE 15 [3, 6, 5, 7, 8, 9, 11, 10, 12, 13, 14, 15, 16, 17, 18, 19, 20, 22, 21, 23, 24, 25, 26, 27, 28, 29, 30, 31, 32, 33, 34, 35] = some ⟨36, [.t 2], c15⟩ := by
  kernel_rfl
/- 16 lineage/lineageref01.Short -/
def c16 : SC := .seq (.reg [.set 4 (.x (.c (.s (.bool false)))), .tick 1] false) (.seq (.seq (.reg [.set 5 (.x (.c (.s (.int .i64 0)))), .tick 1] false) (.block 0 (.loop (.seq
  (.seq (.reg [.tick 4] false) (.cond (.op (.bin .lss .num (.t 6) (.t 8)) [(6, .x (.t 5)), (8, .op (.len (.sl 0) (.t 7)) [(7, .x (.t 0))])]) .skip (.exit 0))) (.seq (.block 1 (.seq
  (.reg [.tick 7] false) (.cond (.op (.bin .gtr .num (.t 17) (.c (.s (.int .i64 300)))) [(17, .op (.len .str (.t 16)) [(16, .op (.load false 1 (.t 15)) [(15, .op (.fa 2 (.t 14))
  [(14, .op (.ia (.sl 3) (.t 12) (.t 13)) [(12, .x (.t 0)), (13, .x (.t 5))])])])])]) (.seq (.reg [.set 4 (.x (.c (.s (.bool false)))), .tick 1] false) .ret) .skip))) (.reg [.set 5
  (.op (.bin .add .num (.t 10) (.c (.s (.int .i64 1)))) [(10, .x (.t 5))]), .tick 3] false)))))) (.seq (.reg [.set 4 (.op (.bin .leq .num (.t 20) (.t 21)) [(20, .op (.len (.sl 0)
  (.t 19)) [(19, .x (.t 0))]), (21, .x (.t 1))]), .tick 5] false) .ret))
theorem f16 : sF EE 16 [6, 7, 8, 9, 12, 13, 14, 15, 16, 17, 18, 10, 11, 19, 20, 21, 22] = some ⟨23, [.t 4], c16⟩ := by kernel_rfl
/- 17 lineage/value.Hash -/
def c17 : SC := .seq (.reg [.set 2 (.x (.c (.s (.int (.u64) 0)))), .tick 1] false) (.seq (.reg [.act (some 3) [] (.alloc 33 [.int (.u64) 0]) [], .act none [] (.store 1 (.t 3) (.c
  (.s (.int (.u64) 14695981039346656037)))) []] false) (.seq (.reg [.need [] (.op (.mkf 37 [] [.t 3]) []), .tick 1, .act (some 4) [] (.alloc 59 [.nilf]) [], .act none [] (.store 1
  (.t 4) (.t 9)) [(9, .op (.mkf 37 [] [.t 3]) [])]] false) (.seq (.reg [.set 5 (.op (.mkf 38 [] [.t 4]) []), .tick 2] false) (.seq (.seq (.reg [.set 11 (.x (.t 0)), .set 12 (.op
  (.len (.sl 0) (.t 11)) []), .set 13 (.x (.c (.s (.int .i64 0)))), .tick 3] false) (.block 0 (.loop (.seq (.reg [.tick 1] false) (.seq (.cond (.op (.bin .lss .num (.t 13) (.t 12))
  []) .skip (.exit 0)) (.seq (.block 1 (.seq (.reg [.set 16 (.op (.load true 3 (.t 15)) [(15, .op (.ia (.sl 3) (.t 11) (.t 13)) [])]), .tick 2, .act (some 7) [] (.alloc 23 [.int
  .i64 0, .int .i64 0, .str []]) [], .act none [] (.store 3 (.t 7) (.t 16)) []] false) (.seq (.reg [.tick 4, .act (some 21) [] (.callv (.t 17) [.t 20]) [(17, .op (.load false 1 (.t
  4)) []), (20, .op (.conv (.int .u8) (.t 19)) [(19, .op (.load false 1 (.t 18)) [(18, .op (.fa 0 (.t 7)) [])])])]] false) (.seq (.reg [.tick 4, .act (some 26) [] (.callv (.t 22)
  [.t 25]) [(22, .x (.t 5)), (25, .op (.conv (.int (.u64)) (.t 24)) [(24, .op (.load false 1 (.t 23)) [(23, .op (.fa 1 (.t 7)) [])])])]] false) (.seq (.reg [.tick 5, .act (some 32)
  [] (.callv (.t 27) [.t 31]) [(27, .x (.t 5)), (31, .op (.conv (.int (.u64)) (.t 30)) [(30, .op (.len .str (.t 29)) [(29, .op (.load false 1 (.t 28)) [(28, .op (.fa 2 (.t 7))
  [])])])])]] false) (.seq (.reg [.set 35 (.op (.len .str (.t 34)) [(34, .op (.load false 1 (.t 33)) [(33, .op (.fa 2 (.t 7)) [])])]), .set 36 (.x (.c (.s (.int .i64 0)))), .tick
  4] false) (.block 2 (.loop (.seq (.reg [.tick 1] false) (.seq (.cond (.op (.bin .lss .num (.t 36) (.t 35)) []) .skip (.exit 2)) (.seq (.block 3 (.seq (.reg [.set 8 (.x (.t 36)),
  .tick 2] false) (.seq (.reg [.set 39 (.op (.load false 1 (.t 4)) []), .set 43 (.op (.iv .str (.t 41) (.t 42)) [(41, .op (.load false 1 (.t 40)) [(40, .op (.fa 2 (.t 7)) [])]),
  (42, .x (.t 8))]), .tick 5] true) (.reg [.act (some 44) [] (.callv (.t 39) [.t 43]) []] false)))) (.reg [.set 36 (.op (.bin .add .num (.t 36) (.c (.s (.int .i64 1)))) []), .tick
  2] false)))))))))))) (.reg [.set 13 (.op (.bin .add .num (.t 13) (.c (.s (.int .i64 1)))) []), .tick 2] false))))))) (.seq (.reg [.set 2 (.op (.load false 1 (.t 3)) []), .tick 2]
  false) .ret)))))
theorem f17 : sF EE 17 [9, 10, 14, 15, 17, 18, 19, 20, 22, 23, 24, 25, 27, 28, 29, 30, 31, 33, 34, 37, 38, 40, 41, 42, 45, 46, 47] = some ⟨48, [.t 2], c17⟩ := by kernel_rfl
/- 18 lineage/lineageref01.Hash -/
def c18 : SC := .seq (.reg [.set 2 (.x (.c (.s (.int (.u64) 0)))), .tick 1] false) (.seq (.reg [.set 3 (.x (.c (.s (.int (.u64) 14695981039346656037)))), .tick 1] false) (.seq
  (.seq (.reg [.set 4 (.x (.c (.s (.int .i64 0)))), .tick 1] false) (.block 0 (.loop (.seq (.seq (.reg [.tick 4] false) (.cond (.op (.bin .lss .num (.t 6) (.t 8)) [(6, .x (.t 4)),
  (8, .op (.len (.sl 0) (.t 7)) [(7, .x (.t 0))])]) .skip (.exit 0))) (.seq (.block 1 (.seq (.reg [.tick 7, .act (some 19) [] (.call 39 [.t 12, .t 18]) [(12, .x (.t 3)), (18, .op
  (.conv (.int .u8) (.t 17)) [(17, .op (.load false 1 (.t 16)) [(16, .op (.fa 0 (.t 15)) [(15, .op (.ia (.sl 3) (.t 13) (.t 14)) [(13, .x (.t 0)), (14, .x (.t 4))])])])])], .set 3
  (.x (.t 19)), .tick 1] false) (.seq (.reg [.tick 7, .act (some 27) [] (.call 40 [.t 20, .t 26]) [(20, .x (.t 3)), (26, .op (.conv (.int (.u64)) (.t 25)) [(25, .op (.load false 1
  (.t 24)) [(24, .op (.fa 1 (.t 23)) [(23, .op (.ia (.sl 3) (.t 21) (.t 22)) [(21, .x (.t 0)), (22, .x (.t 4))])])])])], .set 3 (.x (.t 27)), .tick 1] false) (.seq (.reg [.tick 8,
  .act (some 36) [] (.call 40 [.t 28, .t 35]) [(28, .x (.t 3)), (35, .op (.conv (.int (.u64)) (.t 34)) [(34, .op (.len .str (.t 33)) [(33, .op (.load false 1 (.t 32)) [(32, .op
  (.fa 2 (.t 31)) [(31, .op (.ia (.sl 3) (.t 29) (.t 30)) [(29, .x (.t 0)), (30, .x (.t 4))])])])])])], .set 3 (.x (.t 36)), .tick 1] false) (.seq (.reg [.set 5 (.x (.c (.s (.int
  .i64 0)))), .tick 1] false) (.block 2 (.loop (.seq (.seq (.reg [.tick 8] false) (.cond (.op (.bin .lss .num (.t 37) (.t 43)) [(37, .x (.t 5)), (43, .op (.len .str (.t 42)) [(42,
  .op (.load false 1 (.t 41)) [(41, .op (.fa 2 (.t 40)) [(40, .op (.ia (.sl 3) (.t 38) (.t 39)) [(38, .x (.t 0)), (39, .x (.t 4))])])])])]) .skip (.exit 2))) (.seq (.block 3 (.reg
  [.tick 8, .act (some 55) [] (.call 39 [.t 47, .t 54]) [(47, .x (.t 3)), (54, .op (.iv .str (.t 52) (.t 53)) [(52, .op (.load false 1 (.t 51)) [(51, .op (.fa 2 (.t 50)) [(50, .op
  (.ia (.sl 3) (.t 48) (.t 49)) [(48, .x (.t 0)), (49, .x (.t 4))])])]), (53, .x (.t 5))])], .set 3 (.x (.t 55)), .tick 1] false)) (.reg [.set 5 (.op (.bin .add .num (.t 45) (.c
  (.s (.int .i64 1)))) [(45, .x (.t 5))]), .tick 3] false)))))))))) (.reg [.set 4 (.op (.bin .add .num (.t 10) (.c (.s (.int .i64 1)))) [(10, .x (.t 4))]), .tick 3] false))))))
  (.seq (.reg [.set 2 (.x (.t 3)), .tick 2] false) .ret)))
theorem f18 : sF EE 18 [6, 7, 8, 9, 12, 13, 14, 15, 16, 17, 18, 20, 21, 22, 23, 24, 25, 26, 28, 29, 30, 31, 32, 33, 34, 35, 37, 38, 39, 40, 41, 42, 43, 44, 47, 48, 49, 50, 51, 52,
  53, 54, 45, 46, 10, 11, 56] = some ⟨57, [.t 2], c18⟩ := by kernel_rfl
/- 19 lineage/value.Compare -/
def c19 : SC := .seq (.reg [.act (some 2) [] (.box 23 (.t 0)) [], .act (some 3) [] (.box 23 (.t 1)) [], .set 4 (.x (.c (.s (.int .i64 0)))), .tick 1] false) (.seq (.reg [.tick 4,
  .act (some 9) [] (.call 42 [.t 6, .t 8]) [(6, .op (.load false 1 (.t 5)) [(5, .op (.fa 0 (.t 2)) [])]), (8, .op (.load false 1 (.t 7)) [(7, .op (.fa 0 (.t 3)) [])])], .tick 4,
  .act (some 14) [] (.call 43 [.t 11, .t 13]) [(11, .op (.load false 1 (.t 10)) [(10, .op (.fa 1 (.t 2)) [])]), (13, .op (.load false 1 (.t 12)) [(12, .op (.fa 1 (.t 3)) [])])],
  .tick 4, .act (some 19) [] (.call 44 [.t 16, .t 18]) [(16, .op (.load false 1 (.t 15)) [(15, .op (.fa 2 (.t 2)) [])]), (18, .op (.load false 1 (.t 17)) [(17, .op (.fa 2 (.t 3))
  [])])], .act (some 20) [] (.rows 1 [.int .i64 0] 3 [(0, .t 9), (1, .t 14), (2, .t 19)]) [], .act (some 21) [] (.call 41 [.t 20]) [], .set 4 (.x (.t 21)), .tick 1] true) .ret)
theorem f19 : sF EE 19 [5, 6, 7, 8, 10, 11, 12, 13, 15, 16, 17, 18] = some ⟨22, [.t 4], c19⟩ := by kernel_rfl
/- 20 lineage/value.Equal -/
def c20 : SC := .seq (.reg [.act (some 2) [] (.box 23 (.t 0)) [], .act (some 3) [] (.box 23 (.t 1)) [], .set 4 (.x (.c (.s (.bool false)))), .tick 1] false) (.seq (.reg [.set 4
  (.op (.bin .eql (.flat [1, 1, 2]) (.t 5) (.t 6)) [(5, .op (.load true 3 (.t 2)) []), (6, .op (.load true 3 (.t 3)) [])]), .tick 4] false) .ret)
theorem f20 : sF EE 20 [5, 6, 7] = some ⟨8, [.t 4], c20⟩ := by kernel_rfl
/- 21 lineage/value.ParseType -/
def c21 : SC := .seq (.reg [.set 2 (.x (.c (.s (.int .i64 0)))), .set 3 (.x (.c (.s (.bool false)))), .tick 2] false) (.seq (.reg [.act (some 5) [] (.call 46 []) [], .tick 1, .act
  (some 7) [] (.call 45 [.t 5, .t 6]) [(6, .x (.t 0))], .set 4 (.x (.t 7)), .tick 1] false) (.seq (.reg [.set 2 (.op (.mx true (.t 8) [.c (.s (.int .i64 0))]) [(8, .x (.t 4))]),
  .set 3 (.op (.bin .geq .num (.t 10) (.c (.s (.int .i64 0)))) [(10, .x (.t 4))]), .tick 6] false) .ret))
theorem f21 : sF EE 21 [6, 8, 9, 10, 11] = some ⟨12, [.t 2, .t 3], c21⟩ := by kernel_rfl
/- 22 lineage/lineageref01.ParseType -/
def c22 : SC := .seq (.reg [.set 2 (.x (.c (.s (.int .i64 0)))), .set 3 (.x (.c (.s (.bool false)))), .tick 2] false) (.seq (.seq (.reg [.set 4 (.x (.c (.s (.int .i64 0)))), .tick
  1] false) (.block 0 (.loop (.seq (.seq (.reg [.tick 2] false) (.cond (.op (.bin .lss .num (.t 5) (.c (.s (.int .i64 3)))) [(5, .x (.t 4))]) .skip (.exit 0))) (.seq (.block 1
  (.seq (.reg [.tick 1, .act (some 10) [] (.call 25 [.t 9]) [(9, .x (.t 4))], .tick 2] false) (.cond (.op (.bin .eql .num (.t 10) (.t 11)) [(11, .x (.t 0))]) (.seq (.reg [.set 2
  (.x (.t 4)), .set 3 (.x (.c (.s (.bool true)))), .tick 3] false) .ret) .skip))) (.reg [.set 4 (.op (.bin .add .num (.t 7) (.c (.s (.int .i64 1)))) [(7, .x (.t 4))]), .tick 3]
  false)))))) (.seq (.reg [.set 2 (.x (.c (.s (.int .i64 0)))), .set 3 (.x (.c (.s (.bool false)))), .tick 2] false) .ret))
theorem f22 : sF EE 22 [5, 6, 9, 11, 12, 13, 7, 8] = some ⟨14, [.t 2, .t 3], c22⟩ := by kernel_rfl
/- 23 lineage/lineageref01.Valid -/
def c23 : SC := .seq (.reg [.act (some 1) [] (.box 23 (.t 0)) [], .set 2 (.x (.c (.s (.bool false)))), .tick 1] false) (.seq (.seq (.reg [.set 4 (.op (.load false 1 (.t 3)) [(3,
  .op (.fa 0 (.t 1)) [])]), .tick 2] false) (.block 0 (.seq (.reg [.tick 2] false) (.cond (.op (.bin .eql .num (.t 4) (.c (.s (.int .i64 0)))) []) (.seq (.reg [.set 2 (.op (.bin
  .eql .num (.t 8) (.c (.s (.str [])))) [(8, .op (.load false 1 (.t 7)) [(7, .op (.fa 2 (.t 1)) [])])]), .tick 4] false) .ret) (.seq (.reg [.tick 2] false) (.cond (.op (.bin .eql
  .num (.t 4) (.c (.s (.int .i64 1)))) []) (.seq (.reg [.set 2 (.pick (.op (.bin .eql .num (.t 13) (.c (.s (.int .i64 0)))) [(13, .op (.load false 1 (.t 12)) [(12, .op (.fa 1 (.t
  1)) [])])]) (.op (.bin .leq .num (.t 18) (.c (.s (.int .i64 255)))) [(18, .op (.len .str (.t 17)) [(17, .op (.load false 1 (.t 16)) [(16, .op (.fa 2 (.t 1)) [])])])]) (.x (.c (.s
  (.bool false))))), .tick 10] false) .ret) (.seq (.reg [.tick 2] false) (.cond (.op (.bin .eql .num (.t 4) (.c (.s (.int .i64 2)))) []) (.seq (.reg [.set 2 (.pick (.op (.bin .eql
  .num (.t 24) (.c (.s (.str [])))) [(24, .op (.load false 1 (.t 23)) [(23, .op (.fa 2 (.t 1)) [])])]) (.pick (.op (.bin .eql .num (.t 28) (.c (.s (.int .i64 0)))) [(28, .op (.load
  false 1 (.t 27)) [(27, .op (.fa 1 (.t 1)) [])])]) (.x (.c (.s (.bool true)))) (.op (.bin .eql .num (.t 32) (.c (.s (.int .i64 1)))) [(32, .op (.load false 1 (.t 31)) [(31, .op
  (.fa 1 (.t 1)) [])])])) (.x (.c (.s (.bool false))))), .tick 14] false) .ret) .skip)))))))) (.seq (.reg [.set 2 (.x (.c (.s (.bool false)))), .tick 1] false) .ret))
theorem f23 : sF EE 23 [3, 6, 5, 7, 8, 9, 11, 10, 12, 13, 14, 15, 16, 17, 18, 19, 20, 22, 21, 23, 24, 25, 26, 27, 28, 29, 30, 31, 32, 33, 34, 35] = some ⟨36, [.t 2], c23⟩ := by
  kernel_rfl
/- 24 lineage/value.TypeName -/
def c24 : SC := .seq (.reg [.set 2 (.x (.c (.s (.str [])))), .tick 1] false) (.seq (.seq (.reg [.tick 6] false) (.cond (.pick (.op (.bin .lss .num (.t 3) (.c (.s (.int .i64 0))))
  [(3, .x (.t 0))]) (.x (.c (.s (.bool true)))) (.op (.bin .gtr .num (.t 6) (.c (.s (.int .i64 2)))) [(6, .x (.t 0))])) (.seq (.reg [.set 2 (.x (.c (.s (.str [])))), .tick 1]
  false) .ret) .skip)) (.seq (.reg [.act (some 9) [] (.call 46 []) [], .set 2 (.op (.load false 1 (.t 11)) [(11, .op (.ia (.sl 1) (.t 9) (.t 10)) [(10, .x (.t 0))])]), .tick 4]
  false) .ret))
theorem f24 : sF EE 24 [3, 4, 5, 6, 7, 8, 10, 11, 12] = some ⟨13, [.t 2], c24⟩ := by kernel_rfl
/- 25 lineage/lineageref01.TypeName -/
def c25 : SC := .seq (.reg [.set 2 (.x (.c (.s (.str [])))), .tick 1] false) (.seq (.seq (.reg [.set 3 (.x (.t 0)), .tick 1] false) (.block 0 (.seq (.reg [.tick 2] false) (.cond
  (.op (.bin .eql .num (.t 3) (.c (.s (.int .i64 0)))) []) (.seq (.reg [.set 2 (.x (.c (.s (.str [73, 78, 84, 69, 71, 69, 82])))), .tick 1] false) .ret) (.seq (.reg [.tick 2]
  false) (.cond (.op (.bin .eql .num (.t 3) (.c (.s (.int .i64 1)))) []) (.seq (.reg [.set 2 (.x (.c (.s (.str [84, 69, 88, 84])))), .tick 1] false) .ret) (.seq (.reg [.tick 2]
  false) (.cond (.op (.bin .eql .num (.t 3) (.c (.s (.int .i64 2)))) []) (.seq (.reg [.set 2 (.x (.c (.s (.str [66, 79, 79, 76, 69, 65, 78])))), .tick 1] false) .ret) .skip))))))))
  (.seq (.reg [.set 2 (.x (.c (.s (.str [])))), .tick 1] false) .ret))
theorem f25 : sF EE 25 [5, 4, 7, 6, 9, 8] = some ⟨10, [.t 2], c25⟩ := by kernel_rfl
/- 26 lineage/value.CompareRows -/
def c26 : SC := .seq (.reg [.set 4 (.x (.c (.s (.int .i64 0)))), .tick 1] false) (.seq (.reg [.tick 2, .act (some 7) [] (.call 47 [.t 5, .t 6, .c (.s (.func 19))]) [(5, .x (.t 0)),
  (6, .x (.t 1))], .set 4 (.x (.t 7)), .tick 1] false) .ret)
theorem f26 : sF EE 26 [5, 6] = some ⟨8, [.t 4], c26⟩ := by kernel_rfl
/- 27 lineage/lineageref01.Compare -/
def c27 : SC := .seq (.reg [.act (some 2) [] (.box 23 (.t 0)) [], .act (some 3) [] (.box 23 (.t 1)) [], .set 4 (.x (.c (.s (.int .i64 0)))), .tick 1] false) (.seq (.seq (.reg
  [.tick 5] false) (.cond (.op (.bin .neq .num (.t 6) (.t 8)) [(6, .op (.load false 1 (.t 5)) [(5, .op (.fa 0 (.t 2)) [])]), (8, .op (.load false 1 (.t 7)) [(7, .op (.fa 0 (.t 3))
  [])])]) (.seq (.reg [.tick 5, .act (some 15) [] (.call 48 [.t 14]) [(14, .op (.bin .lss .num (.t 11) (.t 13)) [(11, .op (.load false 1 (.t 10)) [(10, .op (.fa 0 (.t 2)) [])]),
  (13, .op (.load false 1 (.t 12)) [(12, .op (.fa 0 (.t 3)) [])])])], .set 4 (.x (.t 15)), .tick 1] false) .ret) .skip)) (.seq (.seq (.reg [.tick 5] false) (.cond (.op (.bin .neq
  .num (.t 17) (.t 19)) [(17, .op (.load false 1 (.t 16)) [(16, .op (.fa 1 (.t 2)) [])]), (19, .op (.load false 1 (.t 18)) [(18, .op (.fa 1 (.t 3)) [])])]) (.seq (.reg [.tick 5,
  .act (some 26) [] (.call 48 [.t 25]) [(25, .op (.bin .lss .num (.t 22) (.t 24)) [(22, .op (.load false 1 (.t 21)) [(21, .op (.fa 1 (.t 2)) [])]), (24, .op (.load false 1 (.t 23))
  [(23, .op (.fa 1 (.t 3)) [])])])], .set 4 (.x (.t 26)), .tick 1] false) .ret) .skip)) (.seq (.seq (.reg [.tick 5] false) (.cond (.op (.bin .neq .num (.t 28) (.t 30)) [(28, .op
  (.load false 1 (.t 27)) [(27, .op (.fa 2 (.t 2)) [])]), (30, .op (.load false 1 (.t 29)) [(29, .op (.fa 2 (.t 3)) [])])]) (.seq (.reg [.tick 5, .act (some 37) [] (.call 48 [.t
  36]) [(36, .op (.bin .lss .num (.t 33) (.t 35)) [(33, .op (.load false 1 (.t 32)) [(32, .op (.fa 2 (.t 2)) [])]), (35, .op (.load false 1 (.t 34)) [(34, .op (.fa 2 (.t 3))
  [])])])], .set 4 (.x (.t 37)), .tick 1] false) .ret) .skip)) (.seq (.reg [.set 4 (.x (.c (.s (.int .i64 0)))), .tick 1] false) .ret))))
theorem f27 : sF EE 27 [5, 6, 7, 8, 9, 10, 11, 12, 13, 14, 16, 17, 18, 19, 20, 21, 22, 23, 24, 25, 27, 28, 29, 30, 31, 32, 33, 34, 35, 36] = some ⟨38, [.t 4], c27⟩ := by kernel_rfl
/- 28 lineage/lineageref01.CompareRows -/
def c28 : SC := .seq (.reg [.set 4 (.x (.c (.s (.int .i64 0)))), .tick 1] false) (.seq (.seq (.reg [.set 5 (.x (.c (.s (.int .i64 0)))), .tick 1] false) (.block 0 (.loop (.seq
  (.seq (.reg [.tick 10] false) (.cond (.pick (.op (.bin .lss .num (.t 7) (.t 9)) [(7, .x (.t 5)), (9, .op (.len (.sl 0) (.t 8)) [(8, .x (.t 0))])]) (.op (.bin .lss .num (.t 12)
  (.t 14)) [(12, .x (.t 5)), (14, .op (.len (.sl 0) (.t 13)) [(13, .x (.t 1))])]) (.x (.c (.s (.bool false))))) .skip (.exit 0))) (.seq (.block 1 (.seq (.reg [.tick 8, .act (some
  27) [] (.call 27 [.t 22, .t 26]) [(22, .op (.load true 3 (.t 21)) [(21, .op (.ia (.sl 3) (.t 19) (.t 20)) [(19, .x (.t 0)), (20, .x (.t 5))])]), (26, .op (.load true 3 (.t 25))
  [(25, .op (.ia (.sl 3) (.t 23) (.t 24)) [(23, .x (.t 1)), (24, .x (.t 5))])])], .set 6 (.x (.t 27)), .tick 1] true) (.seq (.reg [.tick 2] false) (.cond (.op (.bin .neq .num (.t
  28) (.c (.s (.int .i64 0)))) [(28, .x (.t 6))]) (.seq (.reg [.set 4 (.x (.t 6)), .tick 2] false) .ret) .skip)))) (.reg [.set 5 (.op (.bin .add .num (.t 17) (.c (.s (.int .i64
  1)))) [(17, .x (.t 5))]), .tick 3] false)))))) (.seq (.seq (.reg [.tick 5] false) (.cond (.op (.bin .eql .num (.t 32) (.t 34)) [(32, .op (.len (.sl 0) (.t 31)) [(31, .x (.t
  0))]), (34, .op (.len (.sl 0) (.t 33)) [(33, .x (.t 1))])]) (.seq (.reg [.set 4 (.x (.c (.s (.int .i64 0)))), .tick 1] false) .ret) .skip)) (.seq (.reg [.tick 5, .act (some 41)
  [] (.call 48 [.t 40]) [(40, .op (.bin .lss .num (.t 37) (.t 39)) [(37, .op (.len (.sl 0) (.t 36)) [(36, .x (.t 0))]), (39, .op (.len (.sl 0) (.t 38)) [(38, .x (.t 1))])])], .set
  4 (.x (.t 41)), .tick 1] false) .ret)))
theorem f28 : sF EE 28 [7, 8, 9, 10, 11, 12, 13, 14, 15, 16, 19, 20, 21, 22, 23, 24, 25, 26, 28, 29, 30, 17, 18, 31, 32, 33, 34, 35, 36, 37, 38, 39, 40] = some ⟨42, [.t 4], c28⟩ :=
  by kernel_rfl
/- 29 lineage/value.unquote -/
def c29 : SC := .seq (.reg [.set 2 (.x (.c (.s (.str [])))), .set 3 (.x (.c (.s (.bool false)))), .tick 2] false) (.seq (.seq (.reg [.tick 16] false) (.cond (.pick (.pick (.op
  (.bin .lss .num (.t 6) (.c (.s (.int .i64 2)))) [(6, .op (.len .str (.t 5)) [(5, .x (.t 0))])]) (.x (.c (.s (.bool true)))) (.op (.bin .neq .num (.t 10) (.c (.s (.int .u8 39))))
  [(10, .op (.iv .str (.t 9) (.c (.s (.int .i64 0)))) [(9, .x (.t 0))])])) (.x (.c (.s (.bool true)))) (.op (.bin .neq .num (.t 18) (.c (.s (.int .u8 39)))) [(18, .op (.iv .str (.t
  14) (.t 17)) [(14, .x (.t 0)), (17, .op (.bin .sub .num (.t 16) (.c (.s (.int .i64 1)))) [(16, .op (.len .str (.t 15)) [(15, .x (.t 0))])])])])) (.seq (.reg [.set 2 (.x (.c (.s
  (.str [])))), .set 3 (.x (.c (.s (.bool false)))), .tick 2] false) .ret) .skip)) (.seq (.reg [.set 0 (.op (.sl .str (.t 21) (some (.c (.s (.int .i64 1)))) (some (.t 24))) [(21,
  .x (.t 0)), (24, .op (.bin .sub .num (.t 23) (.c (.s (.int .i64 1)))) [(23, .op (.len .str (.t 22)) [(22, .x (.t 0))])])]), .tick 6] false) (.seq (.reg [.tick 1, .act (some 27)
  [] (.call 35 [.t 26, .c (.s (.str [39, 39])), .c (.s (.str []))]) [(26, .x (.t 0))], .set 4 (.x (.t 27)), .tick 1] false) (.seq (.reg [.tick 1, .act (some 29) [] (.call 35 [.t
  28, .c (.s (.str [39, 39])), .c (.s (.str [39]))]) [(28, .x (.t 0))], .tick 1, .act (some 31) [] (.call 49 [.t 30, .c (.s (.str [39]))]) [(30, .x (.t 4))], .set 2 (.x (.t 29)),
  .set 3 (.op (.un .not (.t 31)) []), .tick 3] false) .ret))))
theorem f29 : sF EE 29 [5, 6, 7, 8, 9, 10, 11, 12, 13, 14, 15, 16, 17, 18, 19, 20, 21, 22, 23, 24, 25, 26, 28, 30, 32] = some ⟨33, [.t 2, .t 3], c29⟩ := by kernel_rfl
/- 30 lineage/value.isInteger -/
def c30 : SC := .seq (.reg [.set 2 (.x (.c (.s (.bool false)))), .tick 1] false) (.seq (.reg [.tick 1, .act (some 5) [] (.call 50 [.t 4, .c (.s (.str [45]))]) [(4, .x (.t 0))],
  .set 3 (.x (.t 5)), .tick 1] false) (.seq (.seq (.reg [.tick 11] false) (.cond (.pick (.op (.bin .eql .num (.t 6) (.c (.s (.str [])))) [(6, .x (.t 3))]) (.x (.c (.s (.bool
  true)))) (.pick (.op (.bin .eql .num (.t 10) (.c (.s (.int .u8 48)))) [(10, .op (.iv .str (.t 9) (.c (.s (.int .i64 0)))) [(9, .x (.t 3))])]) (.op (.bin .neq .num (.t 13) (.c (.s
  (.str [48])))) [(13, .x (.t 0))]) (.x (.c (.s (.bool false)))))) (.seq (.reg [.set 2 (.x (.c (.s (.bool false)))), .tick 1] false) .ret) .skip)) (.seq (.reg [.tick 1, .act (some
  18) [] (.call 51 [.t 17, .c (.s (.str [48, 49, 50, 51, 52, 53, 54, 55, 56, 57]))]) [(17, .x (.t 3))], .set 2 (.op (.bin .eql .num (.t 18) (.c (.s (.str [])))) []), .tick 2]
  false) .ret)))
theorem f30 : sF EE 30 [4, 6, 7, 8, 9, 10, 11, 12, 13, 14, 15, 16, 17, 19] = some ⟨20, [.t 2], c30⟩ := by kernel_rfl
/- 32 lineage/lineageref01.unquote -/
def c32 : SC := .seq (.reg [.set 2 (.x (.c (.s (.str [])))), .set 3 (.x (.c (.s (.bool false)))), .tick 2] false) (.seq (.seq (.reg [.tick 16] false) (.cond (.pick (.pick (.op
  (.bin .lss .num (.t 7) (.c (.s (.int .i64 2)))) [(7, .op (.len .str (.t 6)) [(6, .x (.t 0))])]) (.x (.c (.s (.bool true)))) (.op (.bin .neq .num (.t 11) (.c (.s (.int .u8 39))))
  [(11, .op (.iv .str (.t 10) (.c (.s (.int .i64 0)))) [(10, .x (.t 0))])])) (.x (.c (.s (.bool true)))) (.op (.bin .neq .num (.t 19) (.c (.s (.int .u8 39)))) [(19, .op (.iv .str
  (.t 15) (.t 18)) [(15, .x (.t 0)), (18, .op (.bin .sub .num (.t 17) (.c (.s (.int .i64 1)))) [(17, .op (.len .str (.t 16)) [(16, .x (.t 0))])])])])) (.seq (.reg [.set 2 (.x (.c
  (.s (.str [])))), .set 3 (.x (.c (.s (.bool false)))), .tick 2] false) .ret) .skip)) (.seq (.reg [.set 0 (.op (.sl .str (.t 22) (some (.c (.s (.int .i64 1)))) (some (.t 25)))
  [(22, .x (.t 0)), (25, .op (.bin .sub .num (.t 24) (.c (.s (.int .i64 1)))) [(24, .op (.len .str (.t 23)) [(23, .x (.t 0))])])]), .tick 6] false) (.seq (.reg [.set 4 (.x (.c (.s
  (.str [])))), .tick 1] false) (.seq (.seq (.reg [.set 5 (.x (.c (.s (.int .i64 0)))), .tick 1] false) (.block 0 (.loop (.seq (.seq (.reg [.tick 4] false) (.cond (.op (.bin .lss
  .num (.t 27) (.t 29)) [(27, .x (.t 5)), (29, .op (.len .str (.t 28)) [(28, .x (.t 0))])]) .skip (.exit 0))) (.seq (.block 1 (.seq (.seq (.seq (.reg [.tick 4] false) (.cond (.op
  (.bin .eql .num (.t 35) (.c (.s (.int .u8 39)))) [(35, .op (.iv .str (.t 33) (.t 34)) [(33, .x (.t 0)), (34, .x (.t 5))])]) (.seq (.reg [.set 5 (.op (.bin .add .num (.t 37) (.c
  (.s (.int .i64 1)))) [(37, .x (.t 5))]), .tick 3] false) (.seq (.reg [.tick 10] false) (.cond (.pick (.op (.bin .eql .num (.t 39) (.t 41)) [(39, .x (.t 5)), (41, .op (.len .str
  (.t 40)) [(40, .x (.t 0))])]) (.x (.c (.s (.bool true)))) (.op (.bin .neq .num (.t 46) (.c (.s (.int .u8 39)))) [(46, .op (.iv .str (.t 44) (.t 45)) [(44, .x (.t 0)), (45, .x (.t
  5))])])) (.seq (.reg [.set 2 (.x (.c (.s (.str [])))), .set 3 (.x (.c (.s (.bool false)))), .tick 2] false) .ret) .skip))) .skip)) (.reg [.set 4 (.op (.bin .add .num (.t 49) (.t
  54)) [(49, .x (.t 4)), (54, .op (.sl .str (.t 50) (some (.t 51)) (some (.t 53))) [(50, .x (.t 0)), (51, .x (.t 5)), (53, .op (.bin .add .num (.t 52) (.c (.s (.int .i64 1))))
  [(52, .x (.t 5))])])]), .tick 8] false)) (.reg [.need [] (.op (.sl .str (.t 50) (some (.t 51)) (some (.t 53))) [(50, .x (.t 0)), (51, .x (.t 5)), (53, .op (.bin .add .num (.t 52)
  (.c (.s (.int .i64 1)))) [(52, .x (.t 5))])])] false))) (.reg [.set 5 (.op (.bin .add .num (.t 31) (.c (.s (.int .i64 1)))) [(31, .x (.t 5))]), .tick 3] false)))))) (.seq (.reg
  [.set 2 (.x (.t 4)), .set 3 (.x (.c (.s (.bool true)))), .tick 3] false) .ret)))))
theorem f32 : sF EE 32 [6, 7, 8, 9, 10, 11, 12, 13, 14, 15, 16, 17, 18, 19, 20, 21, 22, 23, 24, 25, 26, 27, 28, 29, 30, 33, 34, 35, 36, 37, 38, 39, 40, 41, 42, 43, 44, 45, 46, 47,
  48, 49, 50, 51, 52, 53, 54, 55, 31, 32, 56] = some ⟨57, [.t 2, .t 3], c32⟩ := by kernel_rfl
/- 33 lineage/lineageref01.Number -/
def c33 : SC := .seq (.reg [.set 4 (.x (.c (.s (.int (.u64) 0)))), .set 5 (.x (.c (.s (.int .i64 0)))), .tick 2] false) (.seq (.seq (.reg [.tick 12] false) (.cond (.pick (.op (.bin
  .eql .num (.t 10) (.c (.s (.str [])))) [(10, .x (.t 0))]) (.x (.c (.s (.bool true)))) (.pick (.op (.bin .eql .num (.t 14) (.c (.s (.int .u8 48)))) [(14, .op (.iv .str (.t 13) (.c
  (.s (.int .i64 0)))) [(13, .x (.t 0))])]) (.op (.bin .gtr .num (.t 18) (.c (.s (.int .i64 1)))) [(18, .op (.len .str (.t 17)) [(17, .x (.t 0))])]) (.x (.c (.s (.bool false))))))
  (.seq (.reg [.set 4 (.x (.c (.s (.int (.u64) 0)))), .set 5 (.x (.c (.s (.int .i64 3)))), .tick 2] false) .ret) .skip)) (.seq (.seq (.reg [.set 6 (.x (.c (.s (.int .i64 0)))),
  .tick 1] false) (.block 0 (.loop (.seq (.seq (.reg [.tick 4] false) (.cond (.op (.bin .lss .num (.t 22) (.t 24)) [(22, .x (.t 6)), (24, .op (.len .str (.t 23)) [(23, .x (.t
  0))])]) .skip (.exit 0))) (.seq (.block 1 (.seq (.reg [.tick 10] false) (.cond (.pick (.op (.bin .lss .num (.t 30) (.c (.s (.int .u8 48)))) [(30, .op (.iv .str (.t 28) (.t 29))
  [(28, .x (.t 0)), (29, .x (.t 6))])]) (.x (.c (.s (.bool true)))) (.op (.bin .gtr .num (.t 35) (.c (.s (.int .u8 57)))) [(35, .op (.iv .str (.t 33) (.t 34)) [(33, .x (.t 0)),
  (34, .x (.t 6))])])) (.seq (.reg [.set 4 (.x (.c (.s (.int (.u64) 0)))), .set 5 (.x (.c (.s (.int .i64 3)))), .tick 2] false) .ret) .skip))) (.reg [.set 6 (.op (.bin .add .num
  (.t 26) (.c (.s (.int .i64 1)))) [(26, .x (.t 6))]), .tick 3] false)))))) (.seq (.reg [.set 7 (.x (.c (.s (.int (.u64) 0)))), .tick 1] false) (.seq (.seq (.reg [.set 8 (.x (.c
  (.s (.int .i64 0)))), .tick 1] false) (.block 2 (.loop (.seq (.seq (.reg [.tick 4] false) (.cond (.op (.bin .lss .num (.t 38) (.t 40)) [(38, .x (.t 8)), (40, .op (.len .str (.t
  39)) [(39, .x (.t 0))])]) .skip (.exit 2))) (.seq (.block 3 (.seq (.reg [.set 9 (.op (.conv (.int (.u64)) (.t 47)) [(47, .op (.bin .sub .num (.t 46) (.c (.s (.int .u8 48))))
  [(46, .op (.iv .str (.t 44) (.t 45)) [(44, .x (.t 0)), (45, .x (.t 8))])])]), .tick 6] false) (.seq (.seq (.reg [.tick 6] false) (.cond (.op (.bin .gtr .num (.t 49) (.t 53))
  [(49, .x (.t 7)), (53, .op (.bin .quo .num (.t 52) (.c (.s (.int (.u64) 10)))) [(52, .op (.bin .sub .num (.t 50) (.t 51)) [(50, .x (.t 1)), (51, .x (.t 9))])])]) (.seq (.reg
  [.set 4 (.x (.c (.s (.int (.u64) 0)))), .set 5 (.x (.c (.s (.int .i64 2)))), .tick 2] false) .ret) .skip)) (.reg [.set 7 (.op (.bin .add .num (.t 56) (.t 57)) [(56, .op (.bin
  .mul .num (.c (.s (.int (.u64) 10))) (.t 55)) [(55, .x (.t 7))]), (57, .x (.t 9))]), .tick 5] false)))) (.reg [.set 8 (.op (.bin .add .num (.t 42) (.c (.s (.int .i64 1)))) [(42,
  .x (.t 8))]), .tick 3] false)))))) (.seq (.reg [.set 4 (.x (.t 7)), .set 5 (.x (.c (.s (.int .i64 0)))), .tick 3] false) .ret)))))
theorem f33 : sF EE 33 [10, 11, 12, 13, 14, 15, 16, 17, 18, 19, 20, 21, 22, 23, 24, 25, 28, 29, 30, 31, 32, 33, 34, 35, 36, 37, 26, 27, 38, 39, 40, 41, 44, 45, 46, 47, 48, 49, 50,
  51, 52, 53, 54, 55, 56, 57, 58, 42, 43, 59] = some ⟨60, [.t 4, .t 5], c33⟩ := by kernel_rfl
/- 36 lineage/lineageref01.Integer -/
def c36 : SC := .seq (.reg [.set 2 (.x (.c (.s (.str [])))), .tick 1] false) (.seq (.seq (.reg [.tick 2] false) (.cond (.op (.bin .lss .num (.t 3) (.c (.s (.int .i64 0)))) [(3, .x
  (.t 0))]) (.seq (.reg [.tick 3, .act (some 8) [] (.call 56 [.t 7]) [(7, .op (.un .neg (.t 6)) [(6, .op (.conv (.int (.u64)) (.t 5)) [(5, .x (.t 0))])])], .set 2 (.op (.bin .add
  .num (.c (.s (.str [45]))) (.t 8)) []), .tick 2] false) .ret) .skip)) (.seq (.reg [.tick 2, .act (some 12) [] (.call 56 [.t 11]) [(11, .op (.conv (.int (.u64)) (.t 10)) [(10, .x
  (.t 0))])], .set 2 (.x (.t 12)), .tick 1] false) .ret))
theorem f36 : sF EE 36 [3, 4, 5, 6, 7, 9, 10, 11] = some ⟨13, [.t 2], c36⟩ := by kernel_rfl
/- 37 lineage/value.Hash$1 -/
def c37 : SC := .reg [.tick 5, .act none [] (.store 1 (.t 1) (.t 7)) [(7, .op (.bin .mul .num (.t 6) (.c (.s (.int (.u64) 1099511628211)))) [(6, .op (.bin .xor .num (.t 3) (.t 5))
  [(3, .op (.load false 1 (.t 1)) []), (5, .op (.conv (.int (.u64)) (.t 4)) [(4, .x (.t 0))])])])]] false
theorem f37 : sF EE 37 [3, 4, 5, 6, 7] = some ⟨8, [], c37⟩ := by kernel_rfl
/- 38 lineage/value.Hash$2 -/
def c38 : SC := .seq (.reg [.set 3 (.x (.c (.s (.int .i64 0)))), .tick 1] false) (.block 0 (.loop (.seq (.reg [.tick 1] false) (.seq (.cond (.op (.bin .lss .num (.t 3) (.c (.s
  (.int .i64 8)))) []) .skip (.exit 0)) (.seq (.block 1 (.seq (.reg [.tick 3, .act (some 8) [] (.callv (.t 5) [.t 7]) [(5, .op (.load false 1 (.t 1)) []), (7, .op (.conv (.int .u8)
  (.t 6)) [(6, .x (.t 0))])]] false) (.reg [.set 0 (.op (.bin .shr .num (.t 9) (.c (.s (.int (.u64) 8)))) [(9, .x (.t 0))]), .tick 3] false))) (.reg [.set 3 (.op (.bin .add .num
  (.t 3) (.c (.s (.int .i64 1)))) []), .tick 2] false))))))
theorem f38 : sF EE 38 [4, 5, 6, 7, 9, 10, 11] = some ⟨12, [], c38⟩ := by kernel_rfl
/- 39 lineage/lineageref01.mix -/
def c39 : SC := .seq (.reg [.set 4 (.x (.c (.s (.int (.u64) 0)))), .tick 1] false) (.seq (.reg [.set 4 (.op (.bin .mul .num (.t 8) (.c (.s (.int (.u64) 1099511628211)))) [(8, .op
  (.bin .xor .num (.t 5) (.t 7)) [(5, .x (.t 0)), (7, .op (.conv (.int (.u64)) (.t 6)) [(6, .x (.t 1))])])]), .tick 6] false) .ret)
theorem f39 : sF EE 39 [5, 6, 7, 8, 9] = some ⟨10, [.t 4], c39⟩ := by kernel_rfl
/- 40 lineage/lineageref01.word -/
def c40 : SC := .seq (.reg [.set 4 (.x (.c (.s (.int (.u64) 0)))), .tick 1] false) (.seq (.seq (.reg [.set 5 (.x (.c (.s (.int .i64 0)))), .tick 1] false) (.block 0 (.loop (.seq
  (.seq (.reg [.tick 2] false) (.cond (.op (.bin .lss .num (.t 6) (.c (.s (.int .i64 8)))) [(6, .x (.t 5))]) .skip (.exit 0))) (.seq (.block 1 (.seq (.reg [.tick 3, .act (some 13)
  [] (.call 39 [.t 10, .t 12]) [(10, .x (.t 0)), (12, .op (.conv (.int .u8) (.t 11)) [(11, .x (.t 1))])], .set 0 (.x (.t 13)), .tick 1] false) (.reg [.set 1 (.op (.bin .shr .num
  (.t 14) (.c (.s (.int (.u64) 8)))) [(14, .x (.t 1))]), .tick 3] false))) (.reg [.set 5 (.op (.bin .add .num (.t 8) (.c (.s (.int .i64 1)))) [(8, .x (.t 5))]), .tick 3]
  false)))))) (.seq (.reg [.set 4 (.x (.t 0)), .tick 2] false) .ret))
theorem f40 : sF EE 40 [6, 7, 10, 11, 12, 14, 15, 8, 9, 16] = some ⟨17, [.t 4], c40⟩ := by kernel_rfl
/- 41 cmp.Or[int] -/
def c41 : SC := .seq (.reg [.set 2 (.x (.c (.s (.int .i64 0)))), .tick 1] false) (.seq (.reg [.set 3 (.x (.c (.s (.int .i64 0)))), .tick 1] false) (.seq (.seq (.reg [.set 6 (.x (.t
  0)), .set 7 (.op (.len (.sl 0) (.t 6)) []), .set 8 (.x (.c (.s (.int .i64 0)))), .tick 3] false) (.block 0 (.loop (.seq (.reg [.tick 1] false) (.seq (.cond (.op (.bin .lss .num
  (.t 8) (.t 7)) []) .skip (.exit 0)) (.seq (.block 1 (.seq (.reg [.set 5 (.op (.load false 1 (.t 10)) [(10, .op (.ia (.sl 1) (.t 6) (.t 8)) [])]), .tick 3] false) (.seq (.reg
  [.tick 3] false) (.cond (.op (.bin .neq .num (.t 12) (.t 13)) [(12, .x (.t 5)), (13, .x (.t 3))]) (.seq (.reg [.set 2 (.x (.t 5)), .tick 2] false) .ret) .skip)))) (.reg [.set 8
  (.op (.bin .add .num (.t 8) (.c (.s (.int .i64 1)))) []), .tick 2] false))))))) (.seq (.reg [.set 2 (.x (.t 3)), .tick 2] false) .ret)))
theorem f41 : sF EE 41 [9, 10, 11, 12, 13, 14, 15, 16, 17] = some ⟨18, [.t 2], c41⟩ := by kernel_rfl
/- 42 cmp.Compare[int] -/
def c42 : SC := .seq (.reg [.set 4 (.x (.c (.s (.int .i64 0)))), .tick 1] false) (.seq (.reg [.tick 1, .act (some 8) [] (.call 57 [.t 7]) [(7, .x (.t 0))], .set 5 (.x (.t 8)),
  .tick 1] false) (.seq (.reg [.tick 1, .act (some 10) [] (.call 57 [.t 9]) [(9, .x (.t 1))], .set 6 (.x (.t 10)), .tick 1] false) (.seq (.seq (.reg [.tick 1] false) (.cond (.x (.t
  5)) (.seq (.seq (.reg [.tick 1] false) (.cond (.x (.t 6)) (.seq (.reg [.set 4 (.x (.c (.s (.int .i64 0)))), .tick 1] false) .ret) .skip)) (.seq (.reg [.set 4 (.x (.c (.s (.int
  .i64 (-1))))), .tick 1] false) .ret)) .skip)) (.seq (.seq (.reg [.tick 1] false) (.cond (.x (.t 6)) (.seq (.reg [.set 4 (.x (.c (.s (.int .i64 1)))), .tick 1] false) .ret)
  .skip)) (.seq (.seq (.reg [.tick 3] false) (.cond (.op (.bin .lss .num (.t 14) (.t 15)) [(14, .x (.t 0)), (15, .x (.t 1))]) (.seq (.reg [.set 4 (.x (.c (.s (.int .i64 (-1))))),
  .tick 1] false) .ret) .skip)) (.seq (.seq (.reg [.tick 3] false) (.cond (.op (.bin .gtr .num (.t 17) (.t 18)) [(17, .x (.t 0)), (18, .x (.t 1))]) (.seq (.reg [.set 4 (.x (.c (.s
  (.int .i64 1)))), .tick 1] false) .ret) .skip)) (.seq (.reg [.set 4 (.x (.c (.s (.int .i64 0)))), .tick 1] false) .ret)))))))
theorem f42 : sF EE 42 [7, 9, 11, 12, 13, 14, 15, 16, 17, 18, 19] = some ⟨20, [.t 4], c42⟩ := by kernel_rfl
/- 43 cmp.Compare[int64] -/
def c43 : SC := .seq (.reg [.set 4 (.x (.c (.s (.int .i64 0)))), .tick 1] false) (.seq (.reg [.tick 1, .act (some 8) [] (.call 58 [.t 7]) [(7, .x (.t 0))], .set 5 (.x (.t 8)),
  .tick 1] false) (.seq (.reg [.tick 1, .act (some 10) [] (.call 58 [.t 9]) [(9, .x (.t 1))], .set 6 (.x (.t 10)), .tick 1] false) (.seq (.seq (.reg [.tick 1] false) (.cond (.x (.t
  5)) (.seq (.seq (.reg [.tick 1] false) (.cond (.x (.t 6)) (.seq (.reg [.set 4 (.x (.c (.s (.int .i64 0)))), .tick 1] false) .ret) .skip)) (.seq (.reg [.set 4 (.x (.c (.s (.int
  .i64 (-1))))), .tick 1] false) .ret)) .skip)) (.seq (.seq (.reg [.tick 1] false) (.cond (.x (.t 6)) (.seq (.reg [.set 4 (.x (.c (.s (.int .i64 1)))), .tick 1] false) .ret)
  .skip)) (.seq (.seq (.reg [.tick 3] false) (.cond (.op (.bin .lss .num (.t 14) (.t 15)) [(14, .x (.t 0)), (15, .x (.t 1))]) (.seq (.reg [.set 4 (.x (.c (.s (.int .i64 (-1))))),
  .tick 1] false) .ret) .skip)) (.seq (.seq (.reg [.tick 3] false) (.cond (.op (.bin .gtr .num (.t 17) (.t 18)) [(17, .x (.t 0)), (18, .x (.t 1))]) (.seq (.reg [.set 4 (.x (.c (.s
  (.int .i64 1)))), .tick 1] false) .ret) .skip)) (.seq (.reg [.set 4 (.x (.c (.s (.int .i64 0)))), .tick 1] false) .ret)))))))
theorem f43 : sF EE 43 [7, 9, 11, 12, 13, 14, 15, 16, 17, 18, 19] = some ⟨20, [.t 4], c43⟩ := by kernel_rfl
/- 44 strings.Compare -/
def c44 : SC := .seq (.reg [.set 4 (.x (.c (.s (.int .i64 0)))), .tick 1] false) (.seq (.reg [.tick 2, .act (some 7) [] (.call 59 [.t 5, .t 6]) [(5, .x (.t 0)), (6, .x (.t 1))],
  .set 4 (.x (.t 7)), .tick 1] false) .ret)
theorem f44 : sF EE 44 [5, 6] = some ⟨8, [.t 4], c44⟩ := by kernel_rfl
/- 45 slices.Index[[]string,string] -/
def c45 : SC := .seq (.reg [.set 4 (.x (.c (.s (.int .i64 0)))), .tick 1] false) (.seq (.seq (.reg [.set 7 (.op (.len (.sl 0) (.t 6)) [(6, .x (.t 0))]), .set 8 (.x (.c (.s (.int
  .i64 0)))), .tick 3] false) (.block 0 (.loop (.seq (.reg [.tick 1] false) (.seq (.cond (.op (.bin .lss .num (.t 8) (.t 7)) []) .skip (.exit 0)) (.seq (.block 1 (.seq (.reg [.set
  5 (.x (.t 8)), .tick 2] false) (.seq (.reg [.tick 6] false) (.cond (.op (.bin .eql .num (.t 11) (.t 15)) [(11, .x (.t 1)), (15, .op (.load false 1 (.t 14)) [(14, .op (.ia (.sl 1)
  (.t 12) (.t 13)) [(12, .x (.t 0)), (13, .x (.t 5))])])]) (.seq (.reg [.set 4 (.x (.t 5)), .tick 2] false) .ret) .skip)))) (.reg [.set 8 (.op (.bin .add .num (.t 8) (.c (.s (.int
  .i64 1)))) []), .tick 2] false))))))) (.seq (.reg [.set 4 (.x (.c (.s (.int .i64 (-1))))), .tick 1] false) .ret))
theorem f45 : sF EE 45 [6, 9, 10, 11, 12, 13, 14, 15, 16, 17, 18] = some ⟨19, [.t 4], c45⟩ := by kernel_rfl
/- 46 lineage/value.names -/
def c46 : SC := .seq (.reg [.set 0 (.x (.c (.s .nils))), .tick 1] false) (.seq (.reg [.act (some 1) [] (.rows 1 [.str []] 3 [(0, .c (.s (.str [73, 78, 84, 69, 71, 69, 82]))), (1,
  .c (.s (.str [84, 69, 88, 84]))), (2, .c (.s (.str [66, 79, 79, 76, 69, 65, 78])))]) [], .set 0 (.x (.t 1)), .tick 1] false) .ret)
theorem f46 : sF EE 46 [] = some ⟨2, [.t 0], c46⟩ := by kernel_rfl
/- 47 slices.CompareFunc[[]lineage/api.Value,[]lineage/api.Value,lineage/api.Value,lineage/api.Value] -/
def c47 : SC := .seq (.reg [.set 6 (.x (.c (.s (.int .i64 0)))), .tick 1] false) (.seq (.seq (.reg [.set 11 (.x (.t 0)), .set 12 (.op (.len (.sl 0) (.t 11)) []), .set 13 (.x (.c
  (.s (.int .i64 0)))), .tick 3] false) (.block 0 (.loop (.seq (.reg [.tick 1] false) (.seq (.cond (.op (.bin .lss .num (.t 13) (.t 12)) []) .skip (.exit 0)) (.seq (.block 1 (.seq
  (.reg [.set 17 (.op (.load true 3 (.t 16)) [(16, .op (.ia (.sl 3) (.t 11) (.t 13)) [])]), .tick 3, .act (some 8) [] (.alloc 23 [.int .i64 0, .int .i64 0, .str []]) [], .set 7 (.x
  (.t 13)), .tick 1, .act none [] (.store 3 (.t 8) (.t 17)) []] false) (.seq (.seq (.reg [.tick 4] false) (.cond (.op (.bin .geq .num (.t 18) (.t 20)) [(18, .x (.t 7)), (20, .op
  (.len (.sl 0) (.t 19)) [(19, .x (.t 1))])]) (.seq (.reg [.set 6 (.x (.c (.s (.int .i64 1)))), .tick 1] false) .ret) .skip)) (.seq (.reg [.set 25 (.op (.load true 3 (.t 24)) [(24,
  .op (.ia (.sl 3) (.t 22) (.t 23)) [(22, .x (.t 1)), (23, .x (.t 7))])]), .tick 4, .act (some 9) [] (.alloc 23 [.int .i64 0, .int .i64 0, .str []]) [], .act none [] (.store 3 (.t
  9) (.t 25)) []] false) (.seq (.reg [.tick 3, .act (some 29) [] (.callv (.t 26) [.t 27, .t 28]) [(26, .x (.t 2)), (27, .op (.load true 3 (.t 8)) []), (28, .op (.load true 3 (.t
  9)) [])], .set 10 (.x (.t 29)), .tick 1] false) (.seq (.reg [.tick 2] false) (.cond (.op (.bin .neq .num (.t 30) (.c (.s (.int .i64 0)))) [(30, .x (.t 10))]) (.seq (.reg [.set 6
  (.x (.t 10)), .tick 2] false) .ret) .skip))))))) (.reg [.set 13 (.op (.bin .add .num (.t 13) (.c (.s (.int .i64 1)))) []), .tick 2] false))))))) (.seq (.seq (.reg [.tick 5]
  false) (.cond (.op (.bin .lss .num (.t 35) (.t 37)) [(35, .op (.len (.sl 0) (.t 34)) [(34, .x (.t 0))]), (37, .op (.len (.sl 0) (.t 36)) [(36, .x (.t 1))])]) (.seq (.reg [.set 6
  (.x (.c (.s (.int .i64 (-1))))), .tick 1] false) .ret) .skip)) (.seq (.reg [.set 6 (.x (.c (.s (.int .i64 0)))), .tick 1] false) .ret)))
theorem f47 : sF EE 47 [14, 15, 16, 18, 19, 20, 21, 22, 23, 24, 26, 27, 28, 30, 31, 32, 33, 34, 35, 36, 37, 38] = some ⟨39, [.t 6], c47⟩ := by kernel_rfl
/- 48 lineage/lineageref01.sign -/
def c48 : SC := .seq (.reg [.set 2 (.x (.c (.s (.int .i64 0)))), .tick 1] false) (.seq (.seq (.reg [.tick 1] false) (.cond (.x (.t 0)) (.seq (.reg [.set 2 (.x (.c (.s (.int .i64
  (-1))))), .tick 1] false) .ret) .skip)) (.seq (.reg [.set 2 (.x (.c (.s (.int .i64 1)))), .tick 1] false) .ret))
theorem f48 : sF EE 48 [3] = some ⟨4, [.t 2], c48⟩ := by kernel_rfl
/- 50 strings.TrimPrefix -/
def c50 : SC := .seq (.reg [.set 4 (.x (.c (.s (.str [])))), .tick 1] false) (.seq (.reg [.tick 2, .act (some 7) [] (.call 61 [.t 5, .t 6]) [(5, .x (.t 0)), (6, .x (.t 1))], .set 4
  (.x (.t 7)), .tick 1] false) .ret)
theorem f50 : sF EE 50 [5, 6] = some ⟨8, [.t 4], c50⟩ := by kernel_rfl
/- 56 lineage/lineageref01.Digits -/
def c56 : SC := .seq (.reg [.set 2 (.x (.c (.s (.str [])))), .tick 1] false) (.seq (.seq (.reg [.tick 2] false) (.cond (.op (.bin .lss .num (.t 3) (.c (.s (.int (.u64) 10)))) [(3,
  .x (.t 0))]) (.seq (.reg [.tick 3, .act (some 8) [] (.rows 1 [.int .u8 0] 1 [(0, .t 7)]) [(7, .op (.conv (.int .u8) (.t 6)) [(6, .op (.bin .add .num (.c (.s (.int (.u64) 48)))
  (.t 5)) [(5, .x (.t 0))])])], .set 2 (.op (.conv (.str true) (.t 8)) []), .tick 2] false) .ret) .skip)) (.seq (.regD [.set 11 (.op (.bin .quo .num (.t 10) (.c (.s (.int (.u64)
  10)))) [(10, .x (.t 0))]), .tick 2, .act (some 12) [] (.call 56 [.t 11]) [], .set 15 (.op (.bin .add .num (.c (.s (.int (.u64) 48))) (.t 14)) [(14, .op (.bin .rem .num (.t 13)
  (.c (.s (.int (.u64) 10)))) [(13, .x (.t 0))])]), .tick 4, .act (some 17) [] (.rows 1 [.int .u8 0] 1 [(0, .t 16)]) [(16, .op (.conv (.int .u8) (.t 15)) [])], .set 2 (.op (.bin
  .add .num (.t 12) (.t 18)) [(18, .op (.conv (.str true) (.t 17)) [])]), .tick 3] [(2, 1, [.c (.s (.func 56)), .t 11], 6, 2, [.t 15]), (2, 1, [.c (.s (.func 56)), .t 11], 8, 2,
  [.t 17])] []) .ret))
theorem f56 : sF EE 56 [3, 4, 5, 6, 7, 9, 10, 13, 14, 16, 18, 19] = some ⟨20, [.t 2], c56⟩ := by kernel_rfl
/- 57 cmp.isNaN[int] -/
def c57 : SC := .seq (.reg [.set 2 (.x (.c (.s (.bool false)))), .tick 1] false) (.seq (.reg [.set 2 (.op (.bin .neq .num (.t 3) (.t 4)) [(3, .x (.t 0)), (4, .x (.t 0))]), .tick 4]
  false) .ret)
theorem f57 : sF EE 57 [3, 4, 5] = some ⟨6, [.t 2], c57⟩ := by kernel_rfl
/- 58 cmp.isNaN[int64] -/
def c58 : SC := .seq (.reg [.set 2 (.x (.c (.s (.bool false)))), .tick 1] false) (.seq (.reg [.set 2 (.op (.bin .neq .num (.t 3) (.t 4)) [(3, .x (.t 0)), (4, .x (.t 0))]), .tick 4]
  false) .ret)
theorem f58 : sF EE 58 [3, 4, 5] = some ⟨6, [.t 2], c58⟩ := by kernel_rfl
/- 61 internal/stringslite.TrimPrefix -/
def c61 : SC := .seq (.reg [.set 4 (.x (.c (.s (.str [])))), .tick 1] false) (.seq (.seq (.reg [.tick 2, .act (some 7) [] (.call 85 [.t 5, .t 6]) [(5, .x (.t 0)), (6, .x (.t 1))]]
  false) (.cond (.x (.t 7)) (.seq (.reg [.set 4 (.op (.sl .str (.t 8) (some (.t 10)) none) [(8, .x (.t 0)), (10, .op (.len .str (.t 9)) [(9, .x (.t 1))])]), .tick 5] false) .ret)
  .skip)) (.seq (.reg [.set 4 (.x (.t 0)), .tick 2] false) .ret))
theorem f61 : sF EE 61 [5, 6, 8, 9, 10, 11, 12] = some ⟨13, [.t 4], c61⟩ := by kernel_rfl
/- 85 internal/stringslite.HasPrefix -/
def c85 : SC := .seq (.reg [.set 4 (.x (.c (.s (.bool false)))), .tick 1] false) (.seq (.reg [.set 4 (.pick (.op (.bin .geq .num (.t 6) (.t 8)) [(6, .op (.len .str (.t 5)) [(5, .x
  (.t 0))]), (8, .op (.len .str (.t 7)) [(7, .x (.t 1))])]) (.op (.bin .eql .num (.t 14) (.t 15)) [(14, .op (.sl .str (.t 11) none (some (.t 13))) [(11, .x (.t 0)), (13, .op (.len
  .str (.t 12)) [(12, .x (.t 1))])]), (15, .x (.t 1))]) (.x (.c (.s (.bool false))))), .tick 14] false) .ret)
theorem f85 : sF EE 85 [5, 6, 7, 8, 9, 10, 11, 12, 13, 14, 15, 16, 17] = some ⟨18, [.t 4], c85⟩ := by kernel_rfl
end Go.Vm
