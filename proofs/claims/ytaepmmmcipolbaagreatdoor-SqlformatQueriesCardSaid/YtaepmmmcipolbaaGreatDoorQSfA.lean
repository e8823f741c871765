/- The functions of chapter 24, as statements of the machine: expressions. -/
import Derived.Test.YtaepmmmcipolbaaGreatDoorQSfE
set_option linter.unusedVariables false
set_option maxRecDepth 100000
namespace Go.Vm
open Go.Proofs
def useL:List Nat:=[3,4,5,6,7,8,9,10,11,12,13,14,15,16,17,18,19,20,21,22,23,24,25,26,27,28,29,30,31,32,33,34,35,36,37,38,39,40,41,42,43,44,45,46,47,48,49,50,51,52,53,54,55,56,57,58,59,60,61,62,63,64,65,66,67,68,69,70,71,72,73,74,75,76,77,78,79,80,81,82,83,84,85,86,87,88,89,90,91,92,93,94,95,96,97,98,99,100,101,102,103,104,105,106,108,109,110,111,112,113,114,115,116,118,119,120,121,122,123,124,125,126,127,128,129,130,131,132,133,134,135,136,137,138,139,140,141,142,143,144,145,146,147,148,149,150,151,152,153,154,158,159,160,161,162,163,171,172,173,174,177,178,179,180,181,182,183,184,185,186,187,188,189,190,191,192,193,194,195,196,197,198,199,200,201,202,205,206,214,215,216,217,218,219,220,221,224,236]
def globL (g:Nat):Option PV:=if g=0 then some (.eptr [[.str [67,79,85,78,84],.str [83,85,77],.str [77,73,78],.str [77,65,88]]] 0 0) else if g=1 then some (.eptr [[.str [43],.str [45],.str [42],.str [45],.str [124,124],.str [61],.str [60,62],.str [60],.str [60,61],.str [62],.str [62,61],.str [65,78,68],.str [79,82],.str [78,79,84]]] 0 0) else if g=2 then some (.eptr [[.str [],.str [85,78,73,79,78,32,65,76,76],.str [85,78,73,79,78],.str [69,88,67,69,80,84,32,65,76,76],.str [69,88,67,69,80,84],.str [73,78,84,69,82,83,69,67,84]]] 0 0) else if g=3 then some (.eptr [[.int .i64 5,.int .i64 5,.int .i64 6,.int .i64 7,.int .i64 5,.int .i64 4,.int .i64 4,.int .i64 4,.int .i64 4,.int .i64 4,.int .i64 4,.int .i64 2,.int .i64 1,.int .i64 3]] 0 0) else none
noncomputable def EE:Env:={ P:=Tryz.prog,ext:=extL,ref:=fun f=>[118,119,126,127,144,145,146,147,149,150,151,152,171,178,181,182,183,184,185,186,187,188,199,200,201,202,215,216,217,218,219,220,236,65].contains f,use:=fun f=>useL.contains f,dyn:=fun _=>true,G:=globL }
def c12:SC := .seq (.reg [.act (some 1) [] (.box 26 (.t 0)) [],.set 2 (.x (.c (.s (.bool false)))),.tick 1] false) (.seq (.reg [.set 5 (.op (.load true 9 (.t 1)) []),.tick 1,
 .act (some 3) [] (.alloc 26 [.int .i64 0,.int .i64 0,.int .i64 0,.str [],.str [],.str [],.int .i64 0,.int .i64 0,.nils]) [],.act none [] (.store 9 (.t 3) (.t 5)) []]
 false) (.seq (.reg [.set 4 (.x (.c (.s (.bool false)))),.tick 1] false) (.seq (.seq (.reg [.set 7 (.op (.load false 1 (.t 6)) [(6,.op (.fa 0 (.t 1)) [])]),.tick 2] false)
 (.block 0 (.seq (.reg [.tick 2] false) (.cond (.op (.bin .eql .num (.t 7) (.c (.s (.int .i64 0)))) []) (.seq (.reg [.tick 2,.act none [] (.store 3 (.t 11) (.t 10)) [(11,.op
 (.fa 1 (.t 3)) []),(10,.op (.build [.int .i64 0,.int .i64 0,.str []] []) [])]] false) (.reg [.tick 2,.act (some 14) [] (.call 41 [.t 13]) [(13,.op (.load true 3 (.t 12))
 [(12,.op (.fa 1 (.t 1)) [])])],.set 4 (.pick (.x (.t 14)) (.pick (.op (.bin .neq .num (.t 18) (.c (.s (.int .i64 0)))) [(18,.op (.load false 1 (.t 17)) [(17,.op (.fa 0 (.t
 16)) [(16,.op (.fa 1 (.t 1)) [])])])]) (.x (.c (.s (.bool true)))) (.op (.bin .geq .num (.t 23) (.c (.s (.int .i64 0)))) [(23,.op (.load false 1 (.t 22)) [(22,.op (.fa 1 (.t
 21)) [(21,.op (.fa 1 (.t 1)) [])])])])) (.x (.c (.s (.bool false))))),.tick 13] false)) (.seq (.reg [.tick 2] false) (.cond (.op (.bin .eql .num (.t 7) (.c (.s (.int .i64 1))))
 []) (.seq (.reg [.tick 1,.act none [] (.store 1 (.t 29) (.c (.s (.str [])))) [(29,.op (.fa 4 (.t 3)) [])],.tick 1,.act none [] (.store 1 (.t 30) (.c (.s (.str [])))) [(30,
 .op (.fa 5 (.t 3)) [])]] false) (.reg [.tick 2,.act (some 33) [] (.call 42 [.t 32]) [(32,.op (.load false 1 (.t 31)) [(31,.op (.fa 5 (.t 1)) [])])],.tick 3,.act (some 37)
 [(.x (.t 33),true)] (.call 43 [.t 36]) [(36,.op (.load false 1 (.t 35)) [(35,.op (.fa 4 (.t 1)) [])])],.set 4 (.pick (.x (.t 33)) (.x (.t 37)) (.x (.c (.s (.bool false))))),
 .tick 2] false)) (.seq (.reg [.tick 2] false) (.cond (.op (.bin .eql .num (.t 7) (.c (.s (.int .i64 2)))) []) (.seq (.reg [.tick 1,.act none [] (.store 1 (.t 41) (.c (.s (.int
 .i64 0)))) [(41,.op (.fa 6 (.t 3)) [])],.tick 1,.act none [] (.store 1 (.t 42) (.c (.s .nils))) [(42,.op (.fa 8 (.t 3)) [])]] false) (.reg [.tick 2,.act (some 45) [] (.call
 44 [.t 44]) [(44,.op (.load false 1 (.t 43)) [(43,.op (.fa 6 (.t 1)) [])])],.tick 3,.act (some 49) [(.x (.t 45),true)] (.len (.sl 0) (.t 48)) [(48,.op (.load false 1 (.t
 47)) [(47,.op (.fa 8 (.t 1)) [])])],.tick 2,.act (some 52) [(.x (.t 45),true)] (.call 45 [.t 51]) [(51,.op (.load false 1 (.t 50)) [(50,.op (.fa 6 (.t 1)) [])])],.need []
 (.pick (.x (.t 45)) (.op (.bin .eql .num (.t 49) (.t 52)) []) (.x (.c (.s (.bool false))))),.tick 5,.act (some 58) [(.pick (.x (.t 45)) (.op (.bin .eql .num (.t 49) (.t 52))
 []) (.x (.c (.s (.bool false)))),true)] (.call 46 [.t 57,.c (.s (.func 12))]) [(57,.op (.load false 1 (.t 56)) [(56,.op (.fa 8 (.t 1)) [])])],.set 4 (.pick (.pick (.x (.t
 45)) (.op (.bin .eql .num (.t 49) (.t 52)) []) (.x (.c (.s (.bool false))))) (.x (.t 58)) (.x (.c (.s (.bool false))))),.tick 2] true)) .skip)))))))) (.seq (.reg [.tick 6,.act
 (some 66) [(.x (.t 4),true)] (.call 23 [.t 62,.t 65]) [(62,.op (.load true 9 (.t 3)) []),(65,.op (.build [.int .i64 0,.int .i64 0,.int .i64 0,.str [],.str [],.str [],
 .int .i64 0,.int .i64 0,.nils] [(0,1,.t 64)]) [(64,.op (.load false 1 (.t 63)) [(63,.op (.fa 0 (.t 1)) [])])])],.set 2 (.pick (.x (.t 4)) (.x (.t 66)) (.x (.c (.s (.bool
 false))))),.tick 2] false) .ret))))
theorem f12:sF EE 12 [6,9,8,10,11,12,13,15,16,17,18,19,20,21,22,23,24,25,26,28,27,29,30,31,32,34,35,36,38,40,39,41,42,43,44,46,47,48,50,51,
 53,54,55,56,57,59,60,61,62,63,64,65,67]=some ⟨68,[.t 2],c12⟩:=by kernel_rfl
def c13:SC := .seq (.reg [.act (some 1) [] (.box 26 (.t 0)) [],.set 2 (.x (.c (.s (.bool false)))),.tick 1] false) (.seq (.seq (.reg [.set 4 (.op (.load false 1 (.t 3)) [(3,
 .op (.fa 0 (.t 1)) [])]),.tick 2] false) (.block 0 (.seq (.reg [.tick 2] false) (.cond (.op (.bin .eql .num (.t 4) (.c (.s (.int .i64 0)))) []) (.seq (.reg [.tick 2,.act (some
 9) [] (.call 47 [.t 8]) [(8,.op (.load true 3 (.t 7)) [(7,.op (.fa 1 (.t 1)) [])])],.set 16 (.pick (.x (.t 9)) (.op (.bin .geq .num (.t 13) (.c (.s (.int .i64 0)))) [(13,.op
 (.load false 1 (.t 12)) [(12,.op (.fa 1 (.t 11)) [(11,.op (.fa 1 (.t 1)) [])])])]) (.x (.c (.s (.bool false))))),.tick 11,.act (some 21) [(.x (.t 16),true)] (.call 33 [.t
 17,.t 20]) [(17,.op (.load true 9 (.t 1)) []),(20,.op (.build [.int .i64 0,.int .i64 0,.int .i64 0,.str [],.str [],.str [],.int .i64 0,.int .i64 0,.nils] [(1,3,.t
 19)]) [(19,.op (.load true 3 (.t 18)) [(18,.op (.fa 1 (.t 1)) [])])])],.set 2 (.pick (.x (.t 16)) (.x (.t 21)) (.x (.c (.s (.bool false))))),.tick 2] false) .ret) (.seq (.reg
 [.tick 2] false) (.cond (.op (.bin .eql .num (.t 4) (.c (.s (.int .i64 1)))) []) (.seq (.reg [.tick 2,.act (some 27) [] (.call 48 [.t 26]) [(26,.op (.load false 1 (.t 25))
 [(25,.op (.fa 5 (.t 1)) [])])],.tick 3,.act (some 31) [(.x (.t 27),true)] (.call 49 [.t 30]) [(30,.op (.load false 1 (.t 29)) [(29,.op (.fa 4 (.t 1)) [])])],.need []
 (.pick (.x (.t 27)) (.x (.t 31)) (.x (.c (.s (.bool false))))),.tick 8,.act (some 40) [(.pick (.x (.t 27)) (.x (.t 31)) (.x (.c (.s (.bool false)))),true)] (.call 33 [.t 34,
 .t 39]) [(34,.op (.load true 9 (.t 1)) []),(39,.op (.build [.int .i64 0,.int .i64 0,.int .i64 0,.str [],.str [],.str [],.int .i64 0,.int .i64 0,.nils] [(0,1,.c (.s
 (.int .i64 1))),(4,1,.t 36),(5,1,.t 38)]) [(36,.op (.load false 1 (.t 35)) [(35,.op (.fa 4 (.t 1)) [])]),(38,.op (.load false 1 (.t 37)) [(37,.op (.fa 5 (.t 1))
 [])])])],.set 2 (.pick (.pick (.x (.t 27)) (.x (.t 31)) (.x (.c (.s (.bool false))))) (.x (.t 40)) (.x (.c (.s (.bool false))))),.tick 2] false) .ret) (.seq (.reg [.tick 2]
 false) (.cond (.op (.bin .eql .num (.t 4) (.c (.s (.int .i64 2)))) []) (.seq (.reg [.tick 2,.act (some 46) [] (.call 50 [.t 45]) [(45,.op (.load false 1 (.t 44)) [(44,.op (.fa
 6 (.t 1)) [])])],.need [] (.op (.bin .gtr .num (.t 46) (.c (.s (.int .i64 0)))) []),.tick 4,.act (some 51) [(.op (.bin .gtr .num (.t 46) (.c (.s (.int .i64 0)))) [],true)]
 (.len (.sl 0) (.t 50)) [(50,.op (.load false 1 (.t 49)) [(49,.op (.fa 8 (.t 1)) [])])],.tick 2,.act (some 54) [(.op (.bin .gtr .num (.t 46) (.c (.s (.int .i64 0)))) [],
 true)] (.call 50 [.t 53]) [(53,.op (.load false 1 (.t 52)) [(52,.op (.fa 6 (.t 1)) [])])],.need [] (.pick (.op (.bin .gtr .num (.t 46) (.c (.s (.int .i64 0)))) []) (.op (.bin
 .eql .num (.t 51) (.t 54)) []) (.x (.c (.s (.bool false))))),.tick 5,.act (some 60) [(.pick (.op (.bin .gtr .num (.t 46) (.c (.s (.int .i64 0)))) []) (.op (.bin .eql .num (.t
 51) (.t 54)) []) (.x (.c (.s (.bool false)))),true)] (.call 51 [.t 59]) [(59,.op (.load false 1 (.t 58)) [(58,.op (.fa 8 (.t 1)) [])])],.need [] (.pick (.pick (.op (.bin .gtr
 .num (.t 46) (.c (.s (.int .i64 0)))) []) (.op (.bin .eql .num (.t 51) (.t 54)) []) (.x (.c (.s (.bool false))))) (.x (.t 60)) (.x (.c (.s (.bool false))))),.tick 8,.act (some
 69) [(.pick (.pick (.op (.bin .gtr .num (.t 46) (.c (.s (.int .i64 0)))) []) (.op (.bin .eql .num (.t 51) (.t 54)) []) (.x (.c (.s (.bool false))))) (.x (.t 60)) (.x (.c (.s
 (.bool false)))),true)] (.call 33 [.t 63,.t 68]) [(63,.op (.load true 9 (.t 1)) []),(68,.op (.build [.int .i64 0,.int .i64 0,.int .i64 0,.str [],.str [],.str [],.int
 .i64 0,.int .i64 0,.nils] [(0,1,.c (.s (.int .i64 2))),(6,1,.t 65),(8,1,.t 67)]) [(65,.op (.load false 1 (.t 64)) [(64,.op (.fa 6 (.t 1)) [])]),(67,.op (.load false
 1 (.t 66)) [(66,.op (.fa 8 (.t 1)) [])])])],.set 2 (.pick (.pick (.pick (.op (.bin .gtr .num (.t 46) (.c (.s (.int .i64 0)))) []) (.op (.bin .eql .num (.t 51) (.t 54)) []) (.x
 (.c (.s (.bool false))))) (.x (.t 60)) (.x (.c (.s (.bool false))))) (.x (.t 69)) (.x (.c (.s (.bool false))))),.tick 2] true) .ret) .skip)))))))) (.seq (.reg [.set 2 (.x (.c
 (.s (.bool false)))),.tick 1] false) .ret))
theorem f13:sF EE 13 [3,6,5,7,8,10,11,12,13,14,15,17,18,19,20,22,24,23,25,26,28,29,30,32,33,34,35,36,37,38,39,41,43,42,44,45,47,48,49,50,
 52,53,55,56,57,58,59,61,62,63,64,65,66,67,68,70]=some ⟨71,[.t 2],c13⟩:=by kernel_rfl
def c23:SC := .seq (.reg [.act (some 2) [] (.box 26 (.t 0)) [],.act (some 3) [] (.box 26 (.t 1)) [],.set 4 (.x (.c (.s (.bool false)))),.tick 1] false) (.seq (.reg [.set 45
 (.pick (.pick (.pick (.pick (.pick (.op (.bin .eql .num (.t 6) (.t 8)) [(6,.op (.load false 1 (.t 5)) [(5,.op (.fa 0 (.t 2)) [])]),(8,.op (.load false 1 (.t 7)) [(7,.op (.fa
 0 (.t 3)) [])])]) (.op (.bin .eql (.flat [1,1,2]) (.t 12) (.t 14)) [(12,.op (.load true 3 (.t 11)) [(11,.op (.fa 1 (.t 2)) [])]),(14,.op (.load true 3 (.t 13)) [(13,.op
 (.fa 1 (.t 3)) [])])]) (.x (.c (.s (.bool false))))) (.op (.bin .eql .num (.t 19) (.t 21)) [(19,.op (.load false 1 (.t 18)) [(18,.op (.fa 4 (.t 2)) [])]),(21,.op (.load false
 1 (.t 20)) [(20,.op (.fa 4 (.t 3)) [])])]) (.x (.c (.s (.bool false))))) (.op (.bin .eql .num (.t 26) (.t 28)) [(26,.op (.load false 1 (.t 25)) [(25,.op (.fa 5 (.t 2)) [])]),
 (28,.op (.load false 1 (.t 27)) [(27,.op (.fa 5 (.t 3)) [])])]) (.x (.c (.s (.bool false))))) (.op (.bin .eql .num (.t 33) (.t 35)) [(33,.op (.load false 1 (.t 32)) [(32,.op
 (.fa 6 (.t 2)) [])]),(35,.op (.load false 1 (.t 34)) [(34,.op (.fa 6 (.t 3)) [])])]) (.x (.c (.s (.bool false))))) (.op (.bin .eql .num (.t 40) (.t 42)) [(40,.op (.load false
 1 (.t 39)) [(39,.op (.fa 7 (.t 2)) [])]),(42,.op (.load false 1 (.t 41)) [(41,.op (.fa 7 (.t 3)) [])])]) (.x (.c (.s (.bool false))))),.tick 45,.act (some 50) [(.x (.t 45),
 true)] (.call 67 [.t 47,.t 49,.c (.s (.func 23))]) [(47,.op (.load false 1 (.t 46)) [(46,.op (.fa 8 (.t 2)) [])]),(49,.op (.load false 1 (.t 48)) [(48,.op (.fa 8 (.t 3))
 [])])],.set 4 (.pick (.x (.t 45)) (.x (.t 50)) (.x (.c (.s (.bool false))))),.tick 2] false) .ret)
theorem f23:sF EE 23 [5,6,7,8,9,10,11,12,13,14,15,16,17,18,19,20,21,22,23,24,25,26,27,28,29,30,31,32,33,34,35,36,37,38,39,40,41,42,43,44,
 46,47,48,49,51]=some ⟨52,[.t 4],c23⟩:=by kernel_rfl
def c26:SC := .seq (.reg [.act (some 1) [] (.box 26 (.t 0)) [],.set 2 (.x (.c (.s (.int .i64 0)))),.tick 1] false) (.seq (.seq (.reg [.tick 3] false) (.cond (.op (.bin .neq
 .num (.t 4) (.c (.s (.int .i64 2)))) [(4,.op (.load false 1 (.t 3)) [(3,.op (.fa 0 (.t 1)) [])])]) (.seq (.reg [.set 2 (.x (.c (.s (.int .i64 8)))),.tick 1] false) .ret)
 .skip)) (.seq (.seq (.reg [.set 7 (.op (.load false 1 (.t 6)) [(6,.op (.fa 6 (.t 1)) [])]),.tick 2] false) (.block 0 (.seq (.reg [.tick 2] false) (.cond (.op (.bin .eql .num
 (.t 7) (.c (.s (.int .i64 12)))) []) (.seq (.reg [.set 2 (.x (.c (.s (.int .i64 1)))),.tick 1] false) .ret) (.seq (.reg [.tick 2] false) (.cond (.op (.bin .eql .num (.t 7) (.c
 (.s (.int .i64 11)))) []) (.seq (.reg [.set 2 (.x (.c (.s (.int .i64 2)))),.tick 1] false) .ret) (.seq (.reg [.tick 2] false) (.cond (.op (.bin .eql .num (.t 7) (.c (.s (.int
 .i64 13)))) []) (.seq (.reg [.set 2 (.x (.c (.s (.int .i64 3)))),.tick 1] false) .ret) (.seq (.seq (.reg [.set 14 (.op (.bin .eql .num (.t 7) (.c (.s (.int .i64 0)))) []),.tick
 2] false) (.cond (.x (.t 14)) .skip (.seq (.reg [.set 14 (.op (.bin .eql .num (.t 7) (.c (.s (.int .i64 1)))) []),.tick 2] false) (.cond (.x (.t 14)) .skip (.reg [.set 14 (.op
 (.bin .eql .num (.t 7) (.c (.s (.int .i64 4)))) []),.tick 2] false))))) (.cond (.x (.t 14)) (.seq (.reg [.set 2 (.x (.c (.s (.int .i64 5)))),.tick 1] false) .ret) (.seq (.reg
 [.tick 2] false) (.cond (.op (.bin .eql .num (.t 7) (.c (.s (.int .i64 2)))) []) (.seq (.reg [.set 2 (.x (.c (.s (.int .i64 6)))),.tick 1] false) .ret) (.seq (.reg [.tick 2]
 false) (.cond (.op (.bin .eql .num (.t 7) (.c (.s (.int .i64 3)))) []) (.seq (.reg [.set 2 (.x (.c (.s (.int .i64 7)))),.tick 1] false) .ret) .skip)))))))))))))) (.seq (.reg
 [.set 2 (.x (.c (.s (.int .i64 4)))),.tick 1] false) .ret)))
theorem f26:sF EE 26 [3,4,5,6,9,8,11,10,13,12,15,16,17,19,18,21,20]=some ⟨22,[.t 2],c26⟩:=by kernel_rfl
def c33:SC := .seq (.reg [.act (some 2) [] (.box 26 (.t 0)) [],.act (some 3) [] (.box 26 (.t 1)) [],.set 4 (.x (.c (.s (.bool false)))),.tick 1] false) (.seq (.reg [.set 45
 (.pick (.pick (.pick (.pick (.pick (.op (.bin .eql .num (.t 6) (.t 8)) [(6,.op (.load false 1 (.t 5)) [(5,.op (.fa 0 (.t 2)) [])]),(8,.op (.load false 1 (.t 7)) [(7,.op (.fa
 0 (.t 3)) [])])]) (.op (.bin .eql (.flat [1,1,2]) (.t 12) (.t 14)) [(12,.op (.load true 3 (.t 11)) [(11,.op (.fa 1 (.t 2)) [])]),(14,.op (.load true 3 (.t 13)) [(13,.op
 (.fa 1 (.t 3)) [])])]) (.x (.c (.s (.bool false))))) (.op (.bin .eql .num (.t 19) (.t 21)) [(19,.op (.load false 1 (.t 18)) [(18,.op (.fa 4 (.t 2)) [])]),(21,.op (.load false
 1 (.t 20)) [(20,.op (.fa 4 (.t 3)) [])])]) (.x (.c (.s (.bool false))))) (.op (.bin .eql .num (.t 26) (.t 28)) [(26,.op (.load false 1 (.t 25)) [(25,.op (.fa 5 (.t 2)) [])]),
 (28,.op (.load false 1 (.t 27)) [(27,.op (.fa 5 (.t 3)) [])])]) (.x (.c (.s (.bool false))))) (.op (.bin .eql .num (.t 33) (.t 35)) [(33,.op (.load false 1 (.t 32)) [(32,.op
 (.fa 6 (.t 2)) [])]),(35,.op (.load false 1 (.t 34)) [(34,.op (.fa 6 (.t 3)) [])])]) (.x (.c (.s (.bool false))))) (.op (.bin .eql .num (.t 40) (.t 42)) [(40,.op (.load false
 1 (.t 39)) [(39,.op (.fa 7 (.t 2)) [])]),(42,.op (.load false 1 (.t 41)) [(41,.op (.fa 7 (.t 3)) [])])]) (.x (.c (.s (.bool false))))),.tick 45,.act (some 50) [(.x (.t 45),
 true)] (.call 87 [.t 47,.t 49]) [(47,.op (.load false 1 (.t 46)) [(46,.op (.fa 8 (.t 2)) [])]),(49,.op (.load false 1 (.t 48)) [(48,.op (.fa 8 (.t 3)) [])])],.set 4 (.pick
 (.x (.t 45)) (.x (.t 50)) (.x (.c (.s (.bool false))))),.tick 2] false) .ret)
theorem f33:sF EE 33 [5,6,7,8,9,10,11,12,13,14,15,16,17,18,19,20,21,22,23,24,25,26,27,28,29,30,31,32,33,34,35,36,37,38,39,40,41,42,43,44,
 46,47,48,49,51]=some ⟨52,[.t 4],c33⟩:=by kernel_rfl
def c38:SC := .seq (.reg [.act (some 2) [] (.box 26 (.t 0)) [],.set 4 (.x (.c (.s (.int .i64 0)))),.tick 1] false) (.seq (.reg [.set 1 (.op (.bin .sub .num (.t 6) (.t 20)) [(6,
 .x (.t 1)),(20,.op (.bin .add .num (.c (.s (.int .i64 1))) (.t 19)) [(19,.op (.bin .quo .num (.t 18) (.c (.s (.int .i64 40)))) [(18,.op (.bin .add .num (.t 13) (.t 17)) [(13,
 .op (.bin .add .num (.t 9) (.t 12)) [(9,.op (.len .str (.t 8)) [(8,.op (.load false 1 (.t 7)) [(7,.op (.fa 5 (.t 2)) [])])]),(12,.op (.len .str (.t 11)) [(11,.op (.load
 false 1 (.t 10)) [(10,.op (.fa 4 (.t 2)) [])])])]),(17,.op (.len .str (.t 16)) [(16,.op (.load false 1 (.t 15)) [(15,.op (.fa 2 (.t 14)) [(14,.op (.fa 1 (.t 2))
 [])])])])])])])]),.tick 17] false) (.seq (.seq (.reg [.set 5 (.x (.c (.s (.int .i64 0)))),.tick 1] false) (.block 0 (.seq (.reg [.need [] (.op (.bin .add .num (.c (.s (.int
 .i64 1))) (.t 19)) [(19,.op (.bin .quo .num (.t 18) (.c (.s (.int .i64 40)))) [(18,.op (.bin .add .num (.t 13) (.t 17)) [(13,.op (.bin .add .num (.t 9) (.t 12)) [(9,.op (.len
 .str (.t 8)) [(8,.op (.load false 1 (.t 7)) [(7,.op (.fa 5 (.t 2)) [])])]),(12,.op (.len .str (.t 11)) [(11,.op (.load false 1 (.t 10)) [(10,.op (.fa 4 (.t 2)) [])])])]),
 (17,.op (.len .str (.t 16)) [(16,.op (.load false 1 (.t 15)) [(15,.op (.fa 2 (.t 14)) [(14,.op (.fa 1 (.t 2)) [])])])])])])])] false) (.loop (.seq (.seq (.reg [.tick 9]
 false) (.cond (.pick (.op (.bin .lss .num (.t 22) (.t 25)) [(22,.x (.t 5)),(25,.op (.len (.sl 0) (.t 24)) [(24,.op (.load false 1 (.t 23)) [(23,.op (.fa 8 (.t 2)) [])])])])
 (.op (.bin .geq .num (.t 28) (.c (.s (.int .i64 0)))) [(28,.x (.t 1))]) (.x (.c (.s (.bool false))))) .skip (.exit 0))) (.seq (.block 1 (.reg [.tick 6,.act (some 39) [] (.call
 38 [.t 37,.t 38]) [(37,.op (.load true 9 (.t 36)) [(36,.op (.ia (.sl 9) (.t 34) (.t 35)) [(34,.op (.load false 1 (.t 33)) [(33,.op (.fa 8 (.t 2)) [])]),(35,.x (.t 5))])]),
 (38,.x (.t 1))],.set 1 (.x (.t 39)),.tick 1] false)) (.reg [.set 5 (.op (.bin .add .num (.t 31) (.c (.s (.int .i64 1)))) [(31,.x (.t 5))]),.tick 3] false))))))) (.seq (.reg
 [.set 4 (.x (.t 1)),.tick 2] false) .ret)))
theorem f38:sF EE 38 [6,7,8,9,10,11,12,13,14,15,16,17,18,19,20,21,22,23,24,25,26,27,28,29,30,33,34,35,36,37,38,31,32,40]=some ⟨41,[.t 4],c38⟩
 := by kernel_rfl
def c41:SC := .seq (.reg [.act (some 1) [] (.box 23 (.t 0)) [],.set 2 (.x (.c (.s (.bool false)))),.tick 1] false) (.seq (.seq (.reg [.set 4 (.op (.load false 1 (.t 3)) [(3,
 .op (.fa 0 (.t 1)) [])]),.tick 2] false) (.block 0 (.seq (.reg [.tick 2] false) (.cond (.op (.bin .eql .num (.t 4) (.c (.s (.int .i64 0)))) []) (.seq (.reg [.set 2 (.op (.bin
 .eql .num (.t 8) (.c (.s (.str [])))) [(8,.op (.load false 1 (.t 7)) [(7,.op (.fa 2 (.t 1)) [])])]),.tick 4] false) .ret) (.seq (.reg [.tick 2] false) (.cond (.op (.bin .eql
 .num (.t 4) (.c (.s (.int .i64 1)))) []) (.seq (.reg [.set 2 (.pick (.op (.bin .eql .num (.t 13) (.c (.s (.int .i64 0)))) [(13,.op (.load false 1 (.t 12)) [(12,.op (.fa 1 (.t
 1)) [])])]) (.op (.bin .leq .num (.t 18) (.c (.s (.int .i64 255)))) [(18,.op (.len .str (.t 17)) [(17,.op (.load false 1 (.t 16)) [(16,.op (.fa 2 (.t 1)) [])])])]) (.x (.c (.s
 (.bool false))))),.tick 10] false) .ret) (.seq (.reg [.tick 2] false) (.cond (.op (.bin .eql .num (.t 4) (.c (.s (.int .i64 2)))) []) (.seq (.reg [.set 2 (.pick (.pick (.op
 (.bin .eql .num (.t 24) (.c (.s (.int .i64 0)))) [(24,.op (.load false 1 (.t 23)) [(23,.op (.fa 1 (.t 1)) [])])]) (.x (.c (.s (.bool true)))) (.op (.bin .eql .num (.t 28) (.c
 (.s (.int .i64 1)))) [(28,.op (.load false 1 (.t 27)) [(27,.op (.fa 1 (.t 1)) [])])])) (.op (.bin .eql .num (.t 33) (.c (.s (.str [])))) [(33,.op (.load false 1 (.t 32)) [(32,
 .op (.fa 2 (.t 1)) [])])]) (.x (.c (.s (.bool false))))),.tick 14] false) .ret) .skip)))))))) (.seq (.reg [.set 2 (.x (.c (.s (.bool false)))),.tick 1] false) .ret))
theorem f41:sF EE 41 [3,6,5,7,8,9,11,10,12,13,14,15,16,17,18,19,20,22,21,23,24,25,26,27,28,29,30,31,32,33,34,35]=some ⟨36,[.t 2],c41⟩:=by
 kernel_rfl
def c42:SC := .seq (.reg [.set 2 (.x (.c (.s (.bool false)))),.tick 1] false) (.seq (.seq (.reg [.set 20 (.pick (.pick (.pick (.op (.bin .eql .num (.t 3) (.c (.s (.str []))))
 [(3,.x (.t 0))]) (.x (.c (.s (.bool true)))) (.op (.bin .gtr .num (.t 7) (.c (.s (.int .i64 31)))) [(7,.op (.len .str (.t 6)) [(6,.x (.t 0))])])) (.x (.c (.s (.bool true))))
 (.op (.bin .lss .num (.t 12) (.c (.s (.int .u8 97)))) [(12,.op (.iv .str (.t 11) (.c (.s (.int .i64 0)))) [(11,.x (.t 0))])])) (.x (.c (.s (.bool true)))) (.op (.bin .gtr .num
 (.t 17) (.c (.s (.int .u8 122)))) [(17,.op (.iv .str (.t 16) (.c (.s (.int .i64 0)))) [(16,.x (.t 0))])])),.tick 19,.act (some 22) [(.x (.t 20),false)] (.call 116 [.t 21])
 [(21,.x (.t 0))],.tick 1] false) (.cond (.pick (.x (.t 20)) (.x (.c (.s (.bool true)))) (.x (.t 22))) (.seq (.reg [.set 2 (.x (.c (.s (.bool false)))),.tick 1] false) .ret)
 .skip)) (.seq (.reg [.tick 1,.act (some 25) [] (.call 117 [.t 24,.c (.s (.str [97,98,99,100,101,102,103,104,105,106,107,108,109,110,111,112,113,114,115,116,
 117,118,119,120,121,122,48,49,50,51,52,53,54,55,56,57,95]))]) [(24,.x (.t 0))],.set 2 (.op (.bin .eql .num (.t 25) (.c (.s (.str [])))) []),.tick 2] false)
 .ret))
theorem f42:sF EE 42 [3,4,5,6,7,8,9,10,11,12,13,14,15,16,17,18,19,21,23,24,26]=some ⟨27,[.t 2],c42⟩:=by kernel_rfl
def c43:SC := .seq (.reg [.set 2 (.x (.c (.s (.bool false)))),.tick 1] false) (.seq (.reg [.need [] (.op (.bin .eql .num (.t 3) (.c (.s (.str [])))) [(3,.x (.t 0))]),.tick 4,
 .act (some 7) [(.op (.bin .eql .num (.t 3) (.c (.s (.str [])))) [(3,.x (.t 0))],false)] (.call 42 [.t 6]) [(6,.x (.t 0))],.set 2 (.pick (.op (.bin .eql .num (.t 3) (.c (.s
 (.str [])))) [(3,.x (.t 0))]) (.x (.c (.s (.bool true)))) (.x (.t 7))),.tick 2] false) .ret)
theorem f43:sF EE 43 [3,4,5,6,8]=some ⟨9,[.t 2],c43⟩:=by kernel_rfl
def c44:SC := .seq (.reg [.set 2 (.x (.c (.s (.bool false)))),.tick 1] false) (.seq (.reg [.set 2 (.pick (.op (.bin .geq .num (.t 3) (.c (.s (.int .i64 0)))) [(3,.x (.t 0))])
 (.op (.bin .leq .num (.t 6) (.c (.s (.int .i64 13)))) [(6,.x (.t 0))]) (.x (.c (.s (.bool false))))),.tick 7] false) .ret)
theorem f44:sF EE 44 [3,4,5,6,7,8]=some ⟨9,[.t 2],c44⟩:=by kernel_rfl
def c45:SC := .seq (.reg [.set 2 (.x (.c (.s (.int .i64 0)))),.tick 1] false) (.seq (.seq (.reg [.tick 6] false) (.cond (.pick (.op (.bin .eql .num (.t 3) (.c (.s (.int .i64
 3)))) [(3,.x (.t 0))]) (.x (.c (.s (.bool true)))) (.op (.bin .eql .num (.t 6) (.c (.s (.int .i64 13)))) [(6,.x (.t 0))])) (.seq (.reg [.set 2 (.x (.c (.s (.int .i64 1)))),
 .tick 1] false) .ret) .skip)) (.seq (.reg [.set 2 (.x (.c (.s (.int .i64 2)))),.tick 1] false) .ret))
theorem f45:sF EE 45 [3,4,5,6,7,8]=some ⟨9,[.t 2],c45⟩:=by kernel_rfl
def c46:SC := .seq (.reg [.act (some 3) [] (.box 29 (.t 1)) [],.set 4 (.x (.c (.s (.bool false)))),.tick 1] false) (.seq (.reg [.tick 2,.act (some 7) [] (.call 118 [.t 5,.t
 6]) [(5,.x (.t 0)),(6,.op (.mkf 119 [] [.t 3]) [])],.set 4 (.op (.un .not (.t 7)) []),.tick 2] false) .ret)
theorem f46:sF EE 46 [5,6,8]=some ⟨9,[.t 4],c46⟩:=by kernel_rfl
def c47:SC := .seq (.reg [.act (some 1) [] (.box 23 (.t 0)) [],.set 2 (.x (.c (.s (.bool false)))),.tick 1] false) (.seq (.seq (.reg [.set 4 (.op (.load false 1 (.t 3)) [(3,
 .op (.fa 0 (.t 1)) [])]),.tick 2] false) (.block 0 (.seq (.reg [.tick 2] false) (.cond (.op (.bin .eql .num (.t 4) (.c (.s (.int .i64 0)))) []) (.seq (.reg [.set 2 (.op (.bin
 .eql .num (.t 8) (.c (.s (.str [])))) [(8,.op (.load false 1 (.t 7)) [(7,.op (.fa 2 (.t 1)) [])])]),.tick 4] false) .ret) (.seq (.reg [.tick 2] false) (.cond (.op (.bin .eql
 .num (.t 4) (.c (.s (.int .i64 1)))) []) (.seq (.reg [.set 2 (.pick (.op (.bin .eql .num (.t 13) (.c (.s (.int .i64 0)))) [(13,.op (.load false 1 (.t 12)) [(12,.op (.fa 1 (.t
 1)) [])])]) (.op (.bin .leq .num (.t 18) (.c (.s (.int .i64 255)))) [(18,.op (.len .str (.t 17)) [(17,.op (.load false 1 (.t 16)) [(16,.op (.fa 2 (.t 1)) [])])])]) (.x (.c (.s
 (.bool false))))),.tick 10] false) .ret) (.seq (.reg [.tick 2] false) (.cond (.op (.bin .eql .num (.t 4) (.c (.s (.int .i64 2)))) []) (.seq (.reg [.set 2 (.pick (.op (.bin .eql
 .num (.t 24) (.c (.s (.str [])))) [(24,.op (.load false 1 (.t 23)) [(23,.op (.fa 2 (.t 1)) [])])]) (.pick (.op (.bin .eql .num (.t 28) (.c (.s (.int .i64 0)))) [(28,.op (.load
 false 1 (.t 27)) [(27,.op (.fa 1 (.t 1)) [])])]) (.x (.c (.s (.bool true)))) (.op (.bin .eql .num (.t 32) (.c (.s (.int .i64 1)))) [(32,.op (.load false 1 (.t 31)) [(31,.op
 (.fa 1 (.t 1)) [])])])) (.x (.c (.s (.bool false))))),.tick 14] false) .ret) .skip)))))))) (.seq (.reg [.set 2 (.x (.c (.s (.bool false)))),.tick 1] false) .ret))
theorem f47:sF EE 47 [3,6,5,7,8,9,11,10,12,13,14,15,16,17,18,19,20,22,21,23,24,25,26,27,28,29,30,31,32,33,34,35]=some ⟨36,[.t 2],c47⟩:=by
 kernel_rfl
def c48:SC := .seq (.reg [.set 2 (.x (.c (.s (.bool false)))),.tick 1] false) (.seq (.seq (.reg [.set 23 (.pick (.pick (.pick (.op (.bin .lss .num (.t 6) (.c (.s (.int .i64
 1)))) [(6,.op (.len .str (.t 5)) [(5,.x (.t 0))])]) (.x (.c (.s (.bool true)))) (.op (.bin .gtr .num (.t 10) (.c (.s (.int .i64 31)))) [(10,.op (.len .str (.t 9)) [(9,.x (.t
 0))])])) (.x (.c (.s (.bool true)))) (.op (.bin .lss .num (.t 15) (.c (.s (.int .u8 97)))) [(15,.op (.iv .str (.t 14) (.c (.s (.int .i64 0)))) [(14,.x (.t 0))])])) (.x (.c (.s
 (.bool true)))) (.op (.bin .gtr .num (.t 20) (.c (.s (.int .u8 122)))) [(20,.op (.iv .str (.t 19) (.c (.s (.int .i64 0)))) [(19,.x (.t 0))])])),.tick 20,.act (some 25) [(.x
 (.t 23),false)] (.call 120 [.t 24]) [(24,.x (.t 0))],.tick 1] false) (.cond (.pick (.x (.t 23)) (.x (.c (.s (.bool true)))) (.x (.t 25))) (.seq (.reg [.set 2 (.x (.c (.s
 (.bool false)))),.tick 1] false) .ret) .skip)) (.seq (.seq (.reg [.set 3 (.x (.c (.s (.int .i64 0)))),.tick 1] false) (.block 0 (.loop (.seq (.seq (.reg [.tick 4] false) (.cond
 (.op (.bin .lss .num (.t 27) (.t 29)) [(27,.x (.t 3)),(29,.op (.len .str (.t 28)) [(28,.x (.t 0))])]) .skip (.exit 0))) (.seq (.block 1 (.seq (.reg [.set 4 (.op (.iv .str (.t
 33) (.t 34)) [(33,.x (.t 0)),(34,.x (.t 3))]),.tick 4] false) (.seq (.reg [.tick 19] false) (.cond (.op (.un .not (.t 53)) [(53,.pick (.pick (.pick (.op (.bin .geq .num (.t
 36) (.c (.s (.int .u8 97)))) [(36,.x (.t 4))]) (.op (.bin .leq .num (.t 39) (.c (.s (.int .u8 122)))) [(39,.x (.t 4))]) (.x (.c (.s (.bool false))))) (.x (.c (.s (.bool
 true)))) (.pick (.op (.bin .geq .num (.t 43) (.c (.s (.int .u8 48)))) [(43,.x (.t 4))]) (.op (.bin .leq .num (.t 46) (.c (.s (.int .u8 57)))) [(46,.x (.t 4))]) (.x (.c (.s
 (.bool false)))))) (.x (.c (.s (.bool true)))) (.op (.bin .eql .num (.t 51) (.c (.s (.int .u8 95)))) [(51,.x (.t 4))]))]) (.seq (.reg [.set 2 (.x (.c (.s (.bool false)))),.tick
 1] false) .ret) .skip)))) (.reg [.set 3 (.op (.bin .add .num (.t 31) (.c (.s (.int .i64 1)))) [(31,.x (.t 3))]),.tick 3] false)))))) (.seq (.reg [.set 2 (.x (.c (.s (.bool
 true)))),.tick 1] false) .ret)))
theorem f48:sF EE 48 [5,6,7,8,9,10,11,12,13,14,15,16,17,18,19,20,21,22,24,26,27,28,29,30,33,34,35,36,37,38,39,40,41,42,43,44,45,46,47,48,
 49,50,51,52,53,54,31,32]=some ⟨55,[.t 2],c48⟩:=by kernel_rfl
def c49:SC := .seq (.reg [.set 2 (.x (.c (.s (.bool false)))),.tick 1] false) (.seq (.reg [.need [] (.op (.bin .eql .num (.t 3) (.c (.s (.str [])))) [(3,.x (.t 0))]),.tick 4,
 .act (some 7) [(.op (.bin .eql .num (.t 3) (.c (.s (.str [])))) [(3,.x (.t 0))],false)] (.call 48 [.t 6]) [(6,.x (.t 0))],.set 2 (.pick (.op (.bin .eql .num (.t 3) (.c (.s
 (.str [])))) [(3,.x (.t 0))]) (.x (.c (.s (.bool true)))) (.x (.t 7))),.tick 2] false) .ret)
theorem f49:sF EE 49 [3,4,5,6,8]=some ⟨9,[.t 2],c49⟩:=by kernel_rfl
def c50:SC := .seq (.reg [.set 2 (.x (.c (.s (.int .i64 0)))),.tick 1] false) (.seq (.seq (.reg [.tick 6] false) (.cond (.pick (.op (.bin .lss .num (.t 3) (.c (.s (.int .i64
 0)))) [(3,.x (.t 0))]) (.x (.c (.s (.bool true)))) (.op (.bin .gtr .num (.t 6) (.c (.s (.int .i64 13)))) [(6,.x (.t 0))])) (.seq (.reg [.set 2 (.x (.c (.s (.int .i64 0)))),
 .tick 1] false) .ret) .skip)) (.seq (.seq (.reg [.tick 6] false) (.cond (.pick (.op (.bin .eql .num (.t 9) (.c (.s (.int .i64 3)))) [(9,.x (.t 0))]) (.x (.c (.s (.bool true))))
 (.op (.bin .eql .num (.t 12) (.c (.s (.int .i64 13)))) [(12,.x (.t 0))])) (.seq (.reg [.set 2 (.x (.c (.s (.int .i64 1)))),.tick 1] false) .ret) .skip)) (.seq (.reg [.set 2 (.x
 (.c (.s (.int .i64 2)))),.tick 1] false) .ret)))
theorem f50:sF EE 50 [3,4,5,6,7,8,9,10,11,12,13,14]=some ⟨15,[.t 2],c50⟩:=by kernel_rfl
def c51:SC := .seq (.reg [.set 2 (.x (.c (.s (.bool false)))),.tick 1] false) (.seq (.seq (.reg [.set 3 (.x (.c (.s (.int .i64 0)))),.tick 1] false) (.block 0 (.loop (.seq
 (.seq (.reg [.tick 4] false) (.cond (.op (.bin .lss .num (.t 4) (.t 6)) [(4,.x (.t 3)),(6,.op (.len (.sl 0) (.t 5)) [(5,.x (.t 0))])]) .skip (.exit 0))) (.seq (.block 1 (.seq
 (.reg [.tick 4,.act (some 14) [] (.call 13 [.t 13]) [(13,.op (.load true 9 (.t 12)) [(12,.op (.ia (.sl 9) (.t 10) (.t 11)) [(10,.x (.t 0)),(11,.x (.t 3))])])],.tick 1]
 false) (.cond (.op (.un .not (.t 14)) []) (.seq (.reg [.set 2 (.x (.c (.s (.bool false)))),.tick 1] false) .ret) .skip))) (.reg [.set 3 (.op (.bin .add .num (.t 8) (.c (.s (.int
 .i64 1)))) [(8,.x (.t 3))]),.tick 3] false)))))) (.seq (.reg [.set 2 (.x (.c (.s (.bool true)))),.tick 1] false) .ret))
theorem f51:sF EE 51 [4,5,6,7,10,11,12,13,15,8,9]=some ⟨16,[.t 2],c51⟩:=by kernel_rfl
def c52:SC := .seq (.reg [.act (some 1) [] (.box 26 (.t 0)) [],.set 2 (.x (.c (.s (.bool false)))),.tick 1] false) (.seq (.seq (.reg [.set 22 (.pick (.pick (.pick (.op (.bin
 .neq .num (.t 4) (.c (.s (.int .i64 3)))) [(4,.op (.load false 1 (.t 3)) [(3,.op (.fa 0 (.t 1)) [])])]) (.x (.c (.s (.bool true)))) (.op (.bin .lss .num (.t 8) (.c (.s (.int
 .i64 0)))) [(8,.op (.load false 1 (.t 7)) [(7,.op (.fa 7 (.t 1)) [])])])) (.x (.c (.s (.bool true)))) (.op (.bin .gtr .num (.t 13) (.c (.s (.int .i64 3)))) [(13,.op (.load
 false 1 (.t 12)) [(12,.op (.fa 7 (.t 1)) [])])])) (.x (.c (.s (.bool true)))) (.op (.bin .gtr .num (.t 19) (.c (.s (.int .i64 1)))) [(19,.op (.len (.sl 0) (.t 18)) [(18,.op
 (.load false 1 (.t 17)) [(17,.op (.fa 8 (.t 1)) [])])])])),.tick 22,.act (some 25) [(.x (.t 22),false)] (.call 46 [.t 24,.c (.s (.func 12))]) [(24,.op (.load false 1 (.t
 23)) [(23,.op (.fa 8 (.t 1)) [])])],.tick 2] false) (.seq (.reg [.need [(.x (.t 22),false)] (.op (.un .not (.t 25)) [])] false) (.cond (.pick (.x (.t 22)) (.x (.c (.s (.bool
 true)))) (.op (.un .not (.t 25)) [])) (.seq (.reg [.set 2 (.x (.c (.s (.bool false)))),.tick 1] false) .ret) .skip))) (.seq (.reg [.set 37 (.pick (.op (.bin .eql .num (.t 30)
 (.c (.s (.int .i64 1)))) [(30,.op (.len (.sl 0) (.t 29)) [(29,.op (.load false 1 (.t 28)) [(28,.op (.fa 8 (.t 1)) [])])])]) (.x (.c (.s (.bool true)))) (.op (.bin .eql .num
 (.t 34) (.c (.s (.int .i64 0)))) [(34,.op (.load false 1 (.t 33)) [(33,.op (.fa 7 (.t 1)) [])])])),.tick 16,.act (some 44) [(.x (.t 37),true)] (.call 23 [.t 38,.t 43])
 [(38,.op (.load true 9 (.t 1)) []),(43,.op (.build [.int .i64 0,.int .i64 0,.int .i64 0,.str [],.str [],.str [],.int .i64 0,.int .i64 0,.nils] [(0,1,.c (.s (.int
 .i64 3))),(7,1,.t 40),(8,1,.t 42)]) [(40,.op (.load false 1 (.t 39)) [(39,.op (.fa 7 (.t 1)) [])]),(42,.op (.load false 1 (.t 41)) [(41,.op (.fa 8 (.t 1)) [])])])],
 .set 2 (.pick (.x (.t 37)) (.x (.t 44)) (.x (.c (.s (.bool false))))),.tick 2] false) .ret))
theorem f52:sF EE 52 [3,4,5,6,7,8,9,10,11,12,13,14,15,16,17,18,19,20,21,23,24,26,27,28,29,30,31,32,33,34,35,36,38,39,40,41,42,43,45]=some
 ⟨46,[.t 2],c52⟩:=by kernel_rfl
def c53:SC := .seq (.reg [.act (some 1) [] (.box 26 (.t 0)) [],.set 2 (.x (.c (.s (.str [])))),.tick 1] false) (.seq (.seq (.reg [.set 6 (.op (.load false 1 (.t 5)) [(5,.op
 (.fa 0 (.t 1)) [])]),.tick 2] false) (.block 0 (.seq (.reg [.tick 2] false) (.cond (.op (.bin .eql .num (.t 6) (.c (.s (.int .i64 0)))) []) (.seq (.reg [.tick 2,.act (some 11)
 [] (.call 121 [.t 10]) [(10,.op (.load true 3 (.t 9)) [(9,.op (.fa 1 (.t 1)) [])])],.set 2 (.x (.t 11)),.tick 1] false) .ret) (.seq (.reg [.tick 2] false) (.cond (.op (.bin
 .eql .num (.t 6) (.c (.s (.int .i64 1)))) []) (.seq (.seq (.reg [.tick 3] false) (.cond (.op (.bin .neq .num (.t 15) (.c (.s (.str [])))) [(15,.op (.load false 1 (.t 14)) [(14,
 .op (.fa 4 (.t 1)) [])])]) (.seq (.reg [.set 2 (.op (.bin .add .num (.t 19) (.t 21)) [(19,.op (.bin .add .num (.t 18) (.c (.s (.str [46])))) [(18,.op (.load false 1 (.t 17))
 [(17,.op (.fa 4 (.t 1)) [])])]),(21,.op (.load false 1 (.t 20)) [(20,.op (.fa 5 (.t 1)) [])])]),.tick 7] false) .ret) .skip)) (.seq (.reg [.set 2 (.op (.load false 1 (.t
 23)) [(23,.op (.fa 5 (.t 1)) [])]),.tick 3] false) .ret)) (.seq (.reg [.tick 2] false) (.cond (.op (.bin .eql .num (.t 6) (.c (.s (.int .i64 3)))) []) (.seq (.seq (.reg [.tick
 4] false) (.cond (.op (.bin .eql .num (.t 29) (.c (.s (.int .i64 0)))) [(29,.op (.len (.sl 0) (.t 28)) [(28,.op (.load false 1 (.t 27)) [(27,.op (.fa 8 (.t 1)) [])])])]) (.seq
 (.reg [.set 2 (.op (.bin .add .num (.t 34) (.c (.s (.str [40,42,41])))) [(34,.op (.load false 1 (.t 33)) [(33,.op (.ia (.arr 4 false 1) (.c (.eptr [[.str [67,79,85,78,
 84],.str [83,85,77],.str [77,73,78],.str [77,65,88]]] 0 0)) (.t 32)) [(32,.op (.load false 1 (.t 31)) [(31,.op (.fa 7 (.t 1)) [])])])])]),.tick 6] false) .ret)
 .skip)) (.seq (.reg [.set 40 (.op (.bin .add .num (.t 39) (.c (.s (.str [40])))) [(39,.op (.load false 1 (.t 38)) [(38,.op (.ia (.arr 4 false 1) (.c (.eptr [[.str [67,79,85,
 78,84],.str [83,85,77],.str [77,73,78],.str [77,65,88]]] 0 0)) (.t 37)) [(37,.op (.load false 1 (.t 36)) [(36,.op (.fa 7 (.t 1)) [])])])])]),.tick 9,.act (some 45)
 [] (.call 53 [.t 44]) [(44,.op (.load true 9 (.t 43)) [(43,.op (.ia (.sl 9) (.t 42) (.c (.s (.int .i64 0)))) [(42,.op (.load false 1 (.t 41)) [(41,.op (.fa 8 (.t 1))
 [])])])])],.set 2 (.op (.bin .add .num (.t 46) (.c (.s (.str [41])))) [(46,.op (.bin .add .num (.t 40) (.t 45)) [])]),.tick 3] true) .ret)) .skip)))))))) (.seq (.reg [.tick 1,
 .act (some 49) [] (.call 122 [.t 48]) [(48,.op (.load true 9 (.t 1)) [])],.set 3 (.x (.t 49)),.tick 1] false) (.seq (.seq (.reg [.set 51 (.op (.load false 1 (.t 50)) [(50,.op
 (.fa 6 (.t 1)) [])]),.tick 2] false) (.block 1 (.seq (.reg [.tick 2] false) (.cond (.op (.bin .eql .num (.t 51) (.c (.s (.int .i64 13)))) []) (.seq (.reg [.tick 5,.act (some
 59) [] (.call 123 [.t 57,.t 58]) [(57,.op (.load true 9 (.t 56)) [(56,.op (.ia (.sl 9) (.t 55) (.c (.s (.int .i64 0)))) [(55,.op (.load false 1 (.t 54)) [(54,.op (.fa 8 (.t
 1)) [])])])]),(58,.x (.t 3))],.set 2 (.op (.bin .add .num (.c (.s (.str [78,79,84,32]))) (.t 59)) []),.tick 2] false) .ret) (.seq (.reg [.tick 2] false) (.cond (.op (.bin
 .eql .num (.t 51) (.c (.s (.int .i64 3)))) []) (.seq (.reg [.tick 4,.act (some 67) [] (.call 123 [.t 66,.c (.s (.int .i64 8))]) [(66,.op (.load true 9 (.t 65)) [(65,.op (.ia
 (.sl 9) (.t 64) (.c (.s (.int .i64 0)))) [(64,.op (.load false 1 (.t 63)) [(63,.op (.fa 8 (.t 1)) [])])])])],.set 2 (.op (.bin .add .num (.c (.s (.str [45]))) (.t 67)) []),
 .tick 2] false) .ret) .skip)))))) (.seq (.reg [.set 4 (.x (.t 3)),.tick 2] false) (.seq (.seq (.reg [.tick 2] false) (.cond (.op (.bin .eql .num (.t 70) (.c (.s (.int .i64 4))))
 [(70,.x (.t 3))]) (.reg [.set 4 (.x (.c (.s (.int .i64 5)))),.tick 1] false) .skip)) (.seq (.regD [.tick 5,.act (some 77) [] (.call 123 [.t 75,.t 76]) [(75,.op (.load true 9
 (.t 74)) [(74,.op (.ia (.sl 9) (.t 73) (.c (.s (.int .i64 0)))) [(73,.op (.load false 1 (.t 72)) [(72,.op (.fa 8 (.t 1)) [])])])]),(76,.x (.t 4))],.set 84 (.op (.bin .add
 .num (.t 83) (.c (.s (.str [32])))) [(83,.op (.bin .add .num (.t 78) (.t 82)) [(78,.op (.bin .add .num (.t 77) (.c (.s (.str [32])))) []),(82,.op (.load false 1 (.t 81))
 [(81,.op (.ia (.arr 14 false 1) (.c (.eptr [[.str [43],.str [45],.str [42],.str [45],.str [124,124],.str [61],.str [60,62],.str [60],.str [60,61],.str [62],.str
 [62,61],.str [65,78,68],.str [79,82],.str [78,79,84]]] 0 0)) (.t 80)) [(80,.op (.load false 1 (.t 79)) [(79,.op (.fa 6 (.t 1)) [])])])])])]),.tick 13,.act (some 91)
 [] (.call 123 [.t 88,.t 90]) [(88,.op (.load true 9 (.t 87)) [(87,.op (.ia (.sl 9) (.t 86) (.c (.s (.int .i64 1)))) [(86,.op (.load false 1 (.t 85)) [(85,.op (.fa 8 (.t 1))
 [])])])]),(90,.op (.bin .add .num (.t 89) (.c (.s (.int .i64 1)))) [(89,.x (.t 3))])],.set 2 (.op (.bin .add .num (.t 84) (.t 91)) []),.tick 2] [] [4]) .ret))))))
theorem f53:sF EE 53 [5,8,7,9,10,13,12,14,15,16,17,18,19,20,21,22,23,24,26,25,27,28,29,30,31,32,33,34,35,36,37,38,39,41,42,43,44,46,47,48,
 50,53,52,54,55,56,57,58,60,62,61,63,64,65,66,68,69,70,71,72,73,74,75,76,78,79,80,81,82,83,85,86,87,88,89,90,92]=some ⟨93,[.t 2],c53⟩:=by
 kernel_rfl
def c54:SC := .seq (.reg [.act (some 1) [] (.box 26 (.t 0)) [],.set 2 (.x (.c (.s (.bool false)))),.tick 1] false) (.seq (.seq (.reg [.set 16 (.pick (.pick (.op (.bin .neq .num
 (.t 4) (.c (.s (.int .i64 3)))) [(4,.op (.load false 1 (.t 3)) [(3,.op (.fa 0 (.t 1)) [])])]) (.x (.c (.s (.bool true)))) (.op (.bin .lss .num (.t 8) (.c (.s (.int .i64 0))))
 [(8,.op (.load false 1 (.t 7)) [(7,.op (.fa 7 (.t 1)) [])])])) (.x (.c (.s (.bool true)))) (.op (.bin .gtr .num (.t 13) (.c (.s (.int .i64 3)))) [(13,.op (.load false 1 (.t
 12)) [(12,.op (.fa 7 (.t 1)) [])])])),.tick 20,.act (some 23) [(.x (.t 16),false)] (.call 33 [.t 17,.t 22]) [(17,.op (.load true 9 (.t 1)) []),(22,.op (.build [.int .i64
 0,.int .i64 0,.int .i64 0,.str [],.str [],.str [],.int .i64 0,.int .i64 0,.nils] [(0,1,.c (.s (.int .i64 3))),(7,1,.t 19),(8,1,.t 21)]) [(19,.op (.load false 1
 (.t 18)) [(18,.op (.fa 7 (.t 1)) [])]),(21,.op (.load false 1 (.t 20)) [(20,.op (.fa 8 (.t 1)) [])])])],.tick 2] false) (.seq (.reg [.need [(.x (.t 16),false)] (.op (.un
 .not (.t 23)) [])] false) (.cond (.pick (.x (.t 16)) (.x (.c (.s (.bool true)))) (.op (.un .not (.t 23)) [])) (.seq (.reg [.set 2 (.x (.c (.s (.bool false)))),.tick 1] false)
 .ret) .skip))) (.seq (.reg [.set 30 (.op (.bin .eql .num (.t 28) (.c (.s (.int .i64 1)))) [(28,.op (.len (.sl 0) (.t 27)) [(27,.op (.load false 1 (.t 26)) [(26,.op (.fa 8 (.t
 1)) [])])])]),.tick 9,.act (some 35) [(.x (.t 30),true)] (.call 13 [.t 34]) [(34,.op (.load true 9 (.t 33)) [(33,.op (.ia (.sl 9) (.t 32) (.c (.s (.int .i64 0)))) [(32,.op
 (.load false 1 (.t 31)) [(31,.op (.fa 8 (.t 1)) [])])])])],.set 2 (.pick (.pick (.x (.t 30)) (.x (.t 35)) (.x (.c (.s (.bool false))))) (.x (.c (.s (.bool true)))) (.pick (.op
 (.bin .eql .num (.t 40) (.c (.s (.int .i64 0)))) [(40,.op (.len (.sl 0) (.t 39)) [(39,.op (.load false 1 (.t 38)) [(38,.op (.fa 8 (.t 1)) [])])])]) (.op (.bin .eql .num (.t
 44) (.c (.s (.int .i64 0)))) [(44,.op (.load false 1 (.t 43)) [(43,.op (.fa 7 (.t 1)) [])])]) (.x (.c (.s (.bool false)))))),.tick 13] false) .ret))
theorem f54:sF EE 54 [3,4,5,6,7,8,9,10,11,12,13,14,15,17,18,19,20,21,22,24,25,26,27,28,29,31,32,33,34,36,37,38,39,40,41,42,43,44,45,46,47]
 = some ⟨48,[.t 2],c54⟩:=by kernel_rfl
def c55:SC := .seq (.reg [.act (some 1) [] (.box 26 (.t 0)) [],.set 2 (.x (.c (.s (.str [])))),.tick 1] false) (.seq (.seq (.reg [.set 8 (.op (.load false 1 (.t 7)) [(7,.op
 (.fa 0 (.t 1)) [])]),.tick 2] false) (.block 0 (.seq (.reg [.tick 2] false) (.cond (.op (.bin .eql .num (.t 8) (.c (.s (.int .i64 0)))) []) (.seq (.reg [.tick 2,.act (some 13)
 [] (.call 124 [.t 12]) [(12,.op (.load true 3 (.t 11)) [(11,.op (.fa 1 (.t 1)) [])])],.set 2 (.x (.t 13)),.tick 1] false) .ret) (.seq (.reg [.tick 2] false) (.cond (.op (.bin
 .eql .num (.t 8) (.c (.s (.int .i64 1)))) []) (.seq (.seq (.reg [.tick 3] false) (.cond (.op (.bin .neq .num (.t 17) (.c (.s (.str [])))) [(17,.op (.load false 1 (.t 16)) [(16,
 .op (.fa 4 (.t 1)) [])])]) (.seq (.reg [.set 2 (.op (.bin .add .num (.t 21) (.t 23)) [(21,.op (.bin .add .num (.t 20) (.c (.s (.str [46])))) [(20,.op (.load false 1 (.t 19))
 [(19,.op (.fa 4 (.t 1)) [])])]),(23,.op (.load false 1 (.t 22)) [(22,.op (.fa 5 (.t 1)) [])])]),.tick 7] false) .ret) .skip)) (.seq (.reg [.set 2 (.op (.load false 1 (.t
 25)) [(25,.op (.fa 5 (.t 1)) [])]),.tick 3] false) .ret)) (.seq (.reg [.tick 2] false) (.cond (.op (.bin .eql .num (.t 8) (.c (.s (.int .i64 3)))) []) (.seq (.reg [.act (some
 29) [] (.rows 1 [.str []] 4 [(0,.c (.s (.str [67,79,85,78,84]))),(1,.c (.s (.str [83,85,77]))),(2,.c (.s (.str [77,73,78]))),(3,.c (.s (.str [77,65,88])))]) [],
 .set 3 (.op (.load false 1 (.t 32)) [(32,.op (.ia (.sl 1) (.t 29) (.t 31)) [(31,.op (.load false 1 (.t 30)) [(30,.op (.fa 7 (.t 1)) [])])])]),.tick 5] false) (.seq (.seq
 (.reg [.tick 4] false) (.cond (.op (.bin .eql .num (.t 36) (.c (.s (.int .i64 0)))) [(36,.op (.len (.sl 0) (.t 35)) [(35,.op (.load false 1 (.t 34)) [(34,.op (.fa 8 (.t 1))
 [])])])]) (.seq (.reg [.set 2 (.op (.bin .add .num (.t 38) (.c (.s (.str [40,42,41])))) [(38,.x (.t 3))]),.tick 3] false) .ret) .skip)) (.seq (.reg [.need [] (.op (.bin .add
 .num (.t 40) (.c (.s (.str [40])))) [(40,.x (.t 3))]),.tick 6,.act (some 46) [] (.call 55 [.t 45]) [(45,.op (.load true 9 (.t 44)) [(44,.op (.ia (.sl 9) (.t 43) (.c (.s
 (.int .i64 0)))) [(43,.op (.load false 1 (.t 42)) [(42,.op (.fa 8 (.t 1)) [])])])])],.set 2 (.op (.bin .add .num (.t 47) (.c (.s (.str [41])))) [(47,.op (.bin .add .num (.t
 41) (.t 46)) [(41,.op (.bin .add .num (.t 40) (.c (.s (.str [40])))) [(40,.x (.t 3))])])]),.tick 3] false) .ret))) .skip)))))))) (.seq (.reg [.tick 1,.act (some 50) [] (.call
 26 [.t 49]) [(49,.op (.load true 9 (.t 1)) [])],.set 4 (.x (.t 50)),.tick 1] false) (.seq (.seq (.reg [.tick 3] false) (.cond (.op (.bin .eql .num (.t 52) (.c (.s (.int .i64
 13)))) [(52,.op (.load false 1 (.t 51)) [(51,.op (.fa 6 (.t 1)) [])])]) (.seq (.reg [.tick 5,.act (some 59) [] (.call 125 [.t 57,.t 58]) [(57,.op (.load true 9 (.t 56))
 [(56,.op (.ia (.sl 9) (.t 55) (.c (.s (.int .i64 0)))) [(55,.op (.load false 1 (.t 54)) [(54,.op (.fa 8 (.t 1)) [])])])]),(58,.x (.t 4))],.set 2 (.op (.bin .add .num (.c
 (.s (.str [78,79,84,32]))) (.t 59)) []),.tick 2] false) .ret) .skip)) (.seq (.seq (.reg [.tick 3] false) (.cond (.op (.bin .eql .num (.t 62) (.c (.s (.int .i64 3)))) [(62,
 .op (.load false 1 (.t 61)) [(61,.op (.fa 6 (.t 1)) [])])]) (.seq (.reg [.tick 4,.act (some 68) [] (.call 125 [.t 67,.c (.s (.int .i64 8))]) [(67,.op (.load true 9 (.t 66))
 [(66,.op (.ia (.sl 9) (.t 65) (.c (.s (.int .i64 0)))) [(65,.op (.load false 1 (.t 64)) [(64,.op (.fa 8 (.t 1)) [])])])])],.set 2 (.op (.bin .add .num (.c (.s (.str [45])))
 (.t 68)) []),.tick 2] false) .ret) .skip)) (.seq (.reg [.set 5 (.x (.t 4)),.set 6 (.op (.bin .add .num (.t 71) (.c (.s (.int .i64 1)))) [(71,.x (.t 4))]),.tick 5] false)
 (.seq (.seq (.reg [.tick 2] false) (.cond (.op (.bin .eql .num (.t 73) (.c (.s (.int .i64 4)))) [(73,.x (.t 4))]) (.reg [.set 5 (.x (.c (.s (.int .i64 5)))),.tick 1] false)
 .skip)) (.seq (.regD [.tick 5,.act (some 80) [] (.call 125 [.t 78,.t 79]) [(78,.op (.load true 9 (.t 77)) [(77,.op (.ia (.sl 9) (.t 76) (.c (.s (.int .i64 0)))) [(76,.op
 (.load false 1 (.t 75)) [(75,.op (.fa 8 (.t 1)) [])])])]),(79,.x (.t 5))],.need [] (.op (.bin .add .num (.t 80) (.c (.s (.str [32])))) []),.tick 3,.act (some 84) [] (.call
 28 [.t 83]) [(83,.op (.load false 1 (.t 82)) [(82,.op (.fa 6 (.t 1)) [])])],.need [] (.op (.bin .add .num (.t 85) (.c (.s (.str [32])))) [(85,.op (.bin .add .num (.t 81) (.t
 84)) [(81,.op (.bin .add .num (.t 80) (.c (.s (.str [32])))) [])])]),.tick 7,.act (some 92) [] (.call 125 [.t 90,.t 91]) [(90,.op (.load true 9 (.t 89)) [(89,.op (.ia (.sl
 9) (.t 88) (.c (.s (.int .i64 1)))) [(88,.op (.load false 1 (.t 87)) [(87,.op (.fa 8 (.t 1)) [])])])]),(91,.x (.t 6))],.set 2 (.op (.bin .add .num (.t 86) (.t 92)) [(86,.op
 (.bin .add .num (.t 85) (.c (.s (.str [32])))) [(85,.op (.bin .add .num (.t 81) (.t 84)) [(81,.op (.bin .add .num (.t 80) (.c (.s (.str [32])))) [])])])]),.tick 2] [] [5,6])
 .ret)))))))
theorem f55:sF EE 55 [7,10,9,11,12,15,14,16,17,18,19,20,21,22,23,24,25,26,28,27,30,31,32,33,34,35,36,37,38,39,40,41,42,43,44,45,47,48,49,
 51,52,53,54,55,56,57,58,60,61,62,63,64,65,66,67,69,70,71,72,73,74,75,76,77,78,79,81,82,83,85,86,87,88,89,90,91,93]=some ⟨94,[.t 2],c55⟩
 := by kernel_rfl
def c62:SC := .seq (.reg [.act (some 1) [] (.box 38 (.t 0)) [],.set 2 (.x (.c (.s (.str [])))),.tick 1] false) (.seq (.seq (.reg [.tick 4] false) (.cond (.op (.bin .gtr .num
 (.t 7) (.c (.s (.int .i64 0)))) [(7,.op (.len (.sl 0) (.t 6)) [(6,.op (.load false 1 (.t 5)) [(5,.op (.fa 1 (.t 1)) [])])])]) (.seq (.reg [.set 9 (.op (.load true 10 (.t 1))
 []),.tick 1,.act (some 3) [] (.alloc 38 [.int .i64 0,.nils,.bool false,.nils,.nils,.nils,.nils,.nils,.nils,.nils]) [],.act none [] (.store 10 (.t 3) (.t 9)) []]
 false) (.seq (.reg [.tick 1,.act none [] (.store 1 (.t 10) (.c (.s .nils))) [(10,.op (.fa 1 (.t 3)) [])]] false) (.seq (.reg [.tick 2,.act (some 13) [] (.call 140 [.t 12,.c
 (.s (.str [44,32])),.c (.s (.func 141))]) [(12,.op (.load false 1 (.t 11)) [(11,.op (.fa 1 (.t 1)) [])])],.need [] (.op (.bin .add .num (.t 14) (.c (.s (.str [32])))) [(14,
 .op (.bin .add .num (.c (.s (.str [87,73,84,72,32,82,69,67,85,82,83,73,86,69,32]))) (.t 13)) [])]),.tick 3,.act (some 17) [] (.call 62 [.t 16]) [(16,.op (.load
 true 10 (.t 3)) [])],.set 2 (.op (.bin .add .num (.t 15) (.t 17)) [(15,.op (.bin .add .num (.t 14) (.c (.s (.str [32])))) [(14,.op (.bin .add .num (.c (.s (.str [87,73,84,
 72,32,82,69,67,85,82,83,73,86,69,32]))) (.t 13)) [])])]),.tick 2] true) .ret))) .skip)) (.seq (.seq (.reg [.tick 3] false) (.cond (.op (.bin .eql .num (.t 20) (.c (.s
 (.int .i64 0)))) [(20,.op (.load false 1 (.t 19)) [(19,.op (.fa 0 (.t 1)) [])])]) (.seq (.reg [.tick 1,.act (some 23) [] (.call 142 [.t 22]) [(22,.op (.load true 10 (.t 1))
 [])],.set 2 (.x (.t 23)),.tick 1] false) .ret) .skip)) (.seq (.reg [.tick 4,.act (some 28) [] (.call 62 [.t 27]) [(27,.op (.load true 10 (.t 26)) [(26,.op (.ia (.sl 10) (.t
 25) (.c (.s (.int .i64 1)))) [(25,.op (.load false 1 (.t 24)) [(24,.op (.fa 9 (.t 1)) [])])])])],.set 4 (.x (.t 28)),.tick 1] false) (.seq (.seq (.reg [.tick 6] false) (.cond
 (.op (.bin .neq .num (.t 33) (.c (.s (.int .i64 0)))) [(33,.op (.load false 1 (.t 32)) [(32,.op (.fa 0 (.t 31)) [(31,.op (.ia (.sl 10) (.t 30) (.c (.s (.int .i64 1)))) [(30,
 .op (.load false 1 (.t 29)) [(29,.op (.fa 9 (.t 1)) [])])])])])]) (.reg [.set 4 (.op (.bin .add .num (.t 36) (.c (.s (.str [41])))) [(36,.op (.bin .add .num (.c (.s (.str
 [40]))) (.t 35)) [(35,.x (.t 4))])]),.tick 4] false) .skip)) (.seq (.reg [.tick 4,.act (some 42) [] (.call 62 [.t 41]) [(41,.op (.load true 10 (.t 40)) [(40,.op (.ia (.sl
 10) (.t 39) (.c (.s (.int .i64 0)))) [(39,.op (.load false 1 (.t 38)) [(38,.op (.fa 9 (.t 1)) [])])])])],.set 2 (.op (.bin .add .num (.t 49) (.t 50)) [(49,.op (.bin .add .num
 (.t 48) (.c (.s (.str [32])))) [(48,.op (.bin .add .num (.t 43) (.t 47)) [(43,.op (.bin .add .num (.t 42) (.c (.s (.str [32])))) []),(47,.op (.load false 1 (.t 46)) [(46,.op
 (.ia (.arr 6 false 1) (.c (.eptr [[.str [],.str [85,78,73,79,78,32,65,76,76],.str [85,78,73,79,78],.str [69,88,67,69,80,84,32,65,76,76],.str [69,88,67,
 69,80,84],.str [73,78,84,69,82,83,69,67,84]]] 0 0)) (.t 45)) [(45,.op (.load false 1 (.t 44)) [(44,.op (.fa 0 (.t 1)) [])])])])])]),(50,.x (.t 4))]),.tick 10]
 true) .ret)))))
theorem f62:sF EE 62 [5,6,7,8,10,11,12,14,15,16,18,19,20,21,22,24,25,26,27,29,30,31,32,33,34,35,36,37,38,39,40,41,43,44,45,46,47,48,49,50,
 51]=some ⟨52,[.t 2],c62⟩:=by kernel_rfl
def c67:SC := .seq (.reg [.set 6 (.x (.c (.s (.bool false)))),.tick 1] false) (.seq (.seq (.reg [.tick 5] false) (.cond (.op (.bin .neq .num (.t 11) (.t 13)) [(11,.op (.len
 (.sl 0) (.t 10)) [(10,.x (.t 0))]),(13,.op (.len (.sl 0) (.t 12)) [(12,.x (.t 1))])]) (.seq (.reg [.set 6 (.x (.c (.s (.bool false)))),.tick 1] false) .ret) .skip)) (.seq
 (.seq (.reg [.set 15 (.x (.t 0)),.set 16 (.op (.len (.sl 0) (.t 15)) []),.set 17 (.x (.c (.s (.int .i64 0)))),.tick 3] false) (.block 0 (.loop (.seq (.reg [.tick 1] false)
 (.seq (.cond (.op (.bin .lss .num (.t 17) (.t 16)) []) .skip (.exit 0)) (.seq (.block 1 (.seq (.reg [.set 21 (.op (.load true 9 (.t 20)) [(20,.op (.ia (.sl 9) (.t 15) (.t 17))
 [])]),.tick 3,.act (some 8) [] (.alloc 26 [.int .i64 0,.int .i64 0,.int .i64 0,.str [],.str [],.str [],.int .i64 0,.int .i64 0,.nils]) [],.set 7 (.x (.t 17)),.tick 1,
 .act none [] (.store 9 (.t 8) (.t 21)) []] false) (.seq (.reg [.set 25 (.op (.load true 9 (.t 24)) [(24,.op (.ia (.sl 9) (.t 22) (.t 23)) [(22,.x (.t 1)),(23,.x (.t 7))])]),
 .tick 4,.act (some 9) [] (.alloc 26 [.int .i64 0,.int .i64 0,.int .i64 0,.str [],.str [],.str [],.int .i64 0,.int .i64 0,.nils]) [],.act none [] (.store 9 (.t 9) (.t
 25)) []] false) (.seq (.reg [.tick 3,.act (some 29) [] (.callv (.t 26) [.t 27,.t 28]) [(26,.x (.t 2)),(27,.op (.load true 9 (.t 8)) []),(28,.op (.load true 9 (.t 9)) [])],
 .tick 1] false) (.cond (.op (.un .not (.t 29)) []) (.seq (.reg [.set 6 (.x (.c (.s (.bool false)))),.tick 1] false) .ret) .skip))))) (.reg [.set 17 (.op (.bin .add .num (.t 17)
 (.c (.s (.int .i64 1)))) []),.tick 2] false))))))) (.seq (.reg [.set 6 (.x (.c (.s (.bool true)))),.tick 1] false) .ret)))
theorem f67:sF EE 67 [10,11,12,13,14,18,19,20,22,23,24,26,27,28,30,31]=some ⟨32,[.t 6],c67⟩:=by kernel_rfl
def c79:SC := .seq (.reg [.set 4 (.x (.c (.s (.int .i64 0)))),.tick 1] false) (.seq (.seq (.reg [.set 5 (.x (.c (.s (.int .i64 0)))),.tick 1] false) (.block 0 (.loop (.seq
 (.seq (.reg [.tick 8] false) (.cond (.pick (.op (.bin .lss .num (.t 6) (.t 8)) [(6,.x (.t 5)),(8,.op (.len (.sl 0) (.t 7)) [(7,.x (.t 0))])]) (.op (.bin .geq .num (.t 11) (.c
 (.s (.int .i64 0)))) [(11,.x (.t 1))]) (.x (.c (.s (.bool false))))) .skip (.exit 0))) (.seq (.block 1 (.reg [.tick 5,.act (some 21) [] (.call 38 [.t 19,.t 20]) [(19,.op
 (.load true 9 (.t 18)) [(18,.op (.ia (.sl 9) (.t 16) (.t 17)) [(16,.x (.t 0)),(17,.x (.t 5))])]),(20,.x (.t 1))],.set 1 (.x (.t 21)),.tick 1] false)) (.reg [.set 5 (.op
 (.bin .add .num (.t 14) (.c (.s (.int .i64 1)))) [(14,.x (.t 5))]),.tick 3] false)))))) (.seq (.reg [.set 4 (.x (.t 1)),.tick 2] false) .ret))
theorem f79:sF EE 79 [6,7,8,9,10,11,12,13,16,17,18,19,20,14,15,22]=some ⟨23,[.t 4],c79⟩:=by kernel_rfl
def c87:SC := .seq (.reg [.set 4 (.x (.c (.s (.bool false)))),.tick 1] false) (.seq (.seq (.reg [.tick 5] false) (.cond (.op (.bin .neq .num (.t 7) (.t 9)) [(7,.op (.len (.sl
 0) (.t 6)) [(6,.x (.t 0))]),(9,.op (.len (.sl 0) (.t 8)) [(8,.x (.t 1))])]) (.seq (.reg [.set 4 (.x (.c (.s (.bool false)))),.tick 1] false) .ret) .skip)) (.seq (.seq (.reg
 [.set 5 (.x (.c (.s (.int .i64 0)))),.tick 1] false) (.block 0 (.loop (.seq (.seq (.reg [.tick 4] false) (.cond (.op (.bin .lss .num (.t 11) (.t 13)) [(11,.x (.t 5)),(13,.op
 (.len (.sl 0) (.t 12)) [(12,.x (.t 0))])]) .skip (.exit 0))) (.seq (.block 1 (.seq (.reg [.tick 8,.act (some 25) [] (.call 33 [.t 20,.t 24]) [(20,.op (.load true 9 (.t 19))
 [(19,.op (.ia (.sl 9) (.t 17) (.t 18)) [(17,.x (.t 0)),(18,.x (.t 5))])]),(24,.op (.load true 9 (.t 23)) [(23,.op (.ia (.sl 9) (.t 21) (.t 22)) [(21,.x (.t 1)),(22,.x
 (.t 5))])])],.tick 1] true) (.cond (.op (.un .not (.t 25)) []) (.seq (.reg [.set 4 (.x (.c (.s (.bool false)))),.tick 1] false) .ret) .skip))) (.reg [.set 5 (.op (.bin .add
 .num (.t 15) (.c (.s (.int .i64 1)))) [(15,.x (.t 5))]),.tick 3] false)))))) (.seq (.reg [.set 4 (.x (.c (.s (.bool true)))),.tick 1] false) .ret)))
theorem f87:sF EE 87 [6,7,8,9,10,11,12,13,14,17,18,19,20,21,22,23,24,26,15,16]=some ⟨27,[.t 4],c87⟩:=by kernel_rfl
def c94:SC := .seq (.reg [.act (some 3) [] (.box 72 (.t 1)) [],.set 4 (.x (.c (.s (.bool false)))),.tick 1] false) (.seq (.reg [.tick 2,.act (some 7) [] (.call 144 [.t 5,.t
 6]) [(5,.x (.t 0)),(6,.op (.mkf 145 [] [.t 3]) [])],.set 4 (.op (.un .not (.t 7)) []),.tick 2] false) .ret)
theorem f94:sF EE 94 [5,6,8]=some ⟨9,[.t 4],c94⟩:=by kernel_rfl
def c116:SC := .seq (.reg [.set 2 (.x (.c (.s (.bool false)))),.tick 1] false) (.seq (.reg [.act (some 6) [] (.call 162 []) [],.tick 1,.act (some 8) [] (.call 163 [.t 7,.c
 (.s (.int .u8 97)),.c (.s (.int .u8 65))]) [(7,.x (.t 0))],.act (some 9) [] (.call 161 [.t 6,.t 8]) [],.set 4 (.op (.ext (.t 5) 1) [(5,.x (.t 9))]),.tick 5] false) (.seq
 (.reg [.set 2 (.x (.t 4)),.tick 2] false) (.seq (.reg [.need [] (.op (.ext (.t 5) 0) [(5,.x (.t 9))])] false) .ret)))
theorem f116:sF EE 116 [7,5,10,11,3,12]=some ⟨13,[.t 2],c116⟩:=by kernel_rfl
def c118:SC := .seq (.reg [.set 4 (.x (.c (.s (.bool false)))),.tick 1] false) (.seq (.reg [.tick 2,.act (some 7) [] (.call 171 [.t 5,.t 6]) [(5,.x (.t 0)),(6,.x (.t 1))],
 .set 4 (.op (.bin .geq .num (.t 7) (.c (.s (.int .i64 0)))) []),.tick 2] false) .ret)
theorem f118:sF EE 118 [5,6,8]=some ⟨9,[.t 4],c118⟩:=by kernel_rfl
def c119:SC := .seq (.reg [.act (some 2) [] (.box 26 (.t 0)) [],.set 3 (.x (.c (.s (.bool false)))),.tick 1] false) (.seq (.reg [.tick 2,.act (some 6) [] (.callv (.t 4) [.t
 5]) [(4,.op (.load false 1 (.t 1)) []),(5,.op (.load true 9 (.t 2)) [])],.set 3 (.op (.un .not (.t 6)) []),.tick 2] false) .ret)
theorem f119:sF EE 119 [4,5,7]=some ⟨8,[.t 3],c119⟩:=by kernel_rfl
def c120:SC := .seq (.reg [.set 2 (.x (.c (.s (.bool false)))),.tick 1] false) (.seq (.reg [.act (some 3) [] (.call 173 []) [],.tick 1,.act (some 5) [] (.call 174 [.t 4]) [(4,
 .x (.t 0))],.act (some 6) [] (.call 172 [.t 3,.t 5]) [],.set 2 (.x (.t 6)),.tick 1] false) .ret)
theorem f120:sF EE 120 [4]=some ⟨7,[.t 2],c120⟩:=by kernel_rfl
def c121:SC := .seq (.reg [.act (some 1) [] (.box 23 (.t 0)) [],.set 2 (.x (.c (.s (.str [])))),.tick 1] false) (.seq (.block 0 (.seq (.reg [.tick 1,.act (some 5) [] (.call 41
 [.t 4]) [(4,.op (.load true 3 (.t 1)) [])],.tick 2] false) (.cond (.op (.un .not (.t 5)) []) (.seq (.reg [.set 2 (.x (.c (.s (.str [])))),.tick 1] false) .ret) (.seq (.reg
 [.tick 4] false) (.cond (.op (.bin .eql .num (.t 9) (.c (.s (.int .i64 0)))) [(9,.op (.load false 1 (.t 8)) [(8,.op (.fa 0 (.t 1)) [])])]) (.seq (.reg [.tick 2,.act (some 13)
 [] (.call 175 [.t 12,.c (.s (.int .i64 10))]) [(12,.op (.load false 1 (.t 11)) [(11,.op (.fa 1 (.t 1)) [])])],.set 2 (.x (.t 13)),.tick 1] false) .ret) (.seq (.reg [.tick 4]
 false) (.cond (.op (.bin .eql .num (.t 16) (.c (.s (.int .i64 1)))) [(16,.op (.load false 1 (.t 15)) [(15,.op (.fa 0 (.t 1)) [])])]) (.seq (.reg [.tick 2,.act (some 20) []
 (.call 176 [.t 19,.c (.s (.str [39])),.c (.s (.str [39,39]))]) [(19,.op (.load false 1 (.t 18)) [(18,.op (.fa 2 (.t 1)) [])])],.set 2 (.op (.bin .add .num (.t 21) (.c (.s
 (.str [39])))) [(21,.op (.bin .add .num (.c (.s (.str [39]))) (.t 20)) [])]),.tick 3] false) .ret) (.seq (.reg [.tick 4] false) (.cond (.op (.bin .eql .num (.t 25) (.c (.s
 (.int .i64 1)))) [(25,.op (.load false 1 (.t 24)) [(24,.op (.fa 1 (.t 1)) [])])]) (.seq (.reg [.set 2 (.x (.c (.s (.str [84,82,85,69])))),.tick 1] false) .ret)
 .skip))))))))) (.seq (.reg [.set 2 (.x (.c (.s (.str [70,65,76,83,69])))),.tick 1] false) .ret))
theorem f121:sF EE 121 [4,6,3,8,9,10,7,11,12,15,16,17,14,18,19,21,22,24,25,26,23]=some ⟨27,[.t 2],c121⟩:=by kernel_rfl
def c122:SC := .seq (.reg [.act (some 1) [] (.box 26 (.t 0)) [],.set 2 (.x (.c (.s (.int .i64 0)))),.tick 1] false) (.seq (.seq (.reg [.tick 3] false) (.cond (.op (.bin .eql
 .num (.t 4) (.c (.s (.int .i64 2)))) [(4,.op (.load false 1 (.t 3)) [(3,.op (.fa 0 (.t 1)) [])])]) (.seq (.reg [.set 2 (.op (.load false 1 (.t 8)) [(8,.op (.ia (.arr 14 false
 1) (.c (.eptr [[.int .i64 5,.int .i64 5,.int .i64 6,.int .i64 7,.int .i64 5,.int .i64 4,.int .i64 4,.int .i64 4,.int .i64 4,.int .i64 4,.int .i64 4,.int .i64 2,.int
 .i64 1,.int .i64 3]] 0 0)) (.t 7)) [(7,.op (.load false 1 (.t 6)) [(6,.op (.fa 6 (.t 1)) [])])])]),.tick 5] false) .ret) .skip)) (.seq (.reg [.set 2 (.x (.c (.s (.int .i64
 8)))),.tick 1] false) .ret))
theorem f122:sF EE 122 [3,4,5,6,7,8,9]=some ⟨10,[.t 2],c122⟩:=by kernel_rfl
def c123:SC := .seq (.reg [.act (some 2) [] (.box 26 (.t 0)) [],.set 4 (.x (.c (.s (.str [])))),.tick 1] false) (.seq (.seq (.reg [.tick 1,.act (some 6) [] (.call 122 [.t 5])
 [(5,.op (.load true 9 (.t 2)) [])],.tick 2] false) (.cond (.op (.bin .lss .num (.t 6) (.t 7)) [(7,.x (.t 1))]) (.seq (.reg [.tick 1,.act (some 10) [] (.call 53 [.t 9]) [(9,
 .op (.load true 9 (.t 2)) [])],.set 4 (.op (.bin .add .num (.t 11) (.c (.s (.str [41])))) [(11,.op (.bin .add .num (.c (.s (.str [40]))) (.t 10)) [])]),.tick 3] false) .ret)
 .skip)) (.seq (.reg [.tick 1,.act (some 14) [] (.call 53 [.t 13]) [(13,.op (.load true 9 (.t 2)) [])],.set 4 (.x (.t 14)),.tick 1] false) .ret))
theorem f123:sF EE 123 [5,7,8,9,11,12,13]=some ⟨15,[.t 4],c123⟩:=by kernel_rfl
def c124:SC := .seq (.reg [.act (some 1) [] (.box 23 (.t 0)) [],.set 2 (.x (.c (.s (.str [])))),.tick 1] false) (.seq (.seq (.reg [.tick 1,.act (some 6) [] (.call 47 [.t 5])
 [(5,.op (.load true 3 (.t 1)) [])],.tick 1] false) (.cond (.op (.un .not (.t 6)) []) (.seq (.reg [.set 2 (.x (.c (.s (.str [])))),.tick 1] false) .ret) .skip)) (.seq (.seq
 (.reg [.tick 3] false) (.cond (.op (.bin .eql .num (.t 9) (.c (.s (.int .i64 0)))) [(9,.op (.load false 1 (.t 8)) [(8,.op (.fa 0 (.t 1)) [])])]) (.seq (.reg [.tick 2,.act
 (some 13) [] (.call 177 [.t 12]) [(12,.op (.load false 1 (.t 11)) [(11,.op (.fa 1 (.t 1)) [])])],.set 2 (.x (.t 13)),.tick 1] false) .ret) .skip)) (.seq (.seq (.reg [.tick 3]
 false) (.cond (.op (.bin .eql .num (.t 15) (.c (.s (.int .i64 2)))) [(15,.op (.load false 1 (.t 14)) [(14,.op (.fa 0 (.t 1)) [])])]) (.seq (.seq (.reg [.tick 3] false) (.cond
 (.op (.bin .eql .num (.t 18) (.c (.s (.int .i64 1)))) [(18,.op (.load false 1 (.t 17)) [(17,.op (.fa 1 (.t 1)) [])])]) (.seq (.reg [.set 2 (.x (.c (.s (.str [84,82,85,
 69])))),.tick 1] false) .ret) .skip)) (.seq (.reg [.set 2 (.x (.c (.s (.str [70,65,76,83,69])))),.tick 1] false) .ret)) .skip)) (.seq (.reg [.set 3 (.x (.c (.s (.str
 [39])))),.tick 1] false) (.seq (.seq (.reg [.set 4 (.x (.c (.s (.int .i64 0)))),.tick 1] false) (.block 0 (.loop (.seq (.seq (.reg [.tick 5] false) (.cond (.op (.bin .lss .num
 (.t 20) (.t 23)) [(20,.x (.t 4)),(23,.op (.len .str (.t 22)) [(22,.op (.load false 1 (.t 21)) [(21,.op (.fa 2 (.t 1)) [])])])]) .skip (.exit 0))) (.seq (.block 1 (.seq (.reg
 [.set 3 (.op (.bin .add .num (.t 27) (.t 33)) [(27,.x (.t 3)),(33,.op (.sl .str (.t 29) (some (.t 30)) (some (.t 32))) [(29,.op (.load false 1 (.t 28)) [(28,.op (.fa 2 (.t
 1)) [])]),(30,.x (.t 4)),(32,.op (.bin .add .num (.t 31) (.c (.s (.int .i64 1)))) [(31,.x (.t 4))])])]),.tick 9] false) (.seq (.reg [.tick 5] false) (.seq (.reg [.need []
 (.op (.sl .str (.t 29) (some (.t 30)) (some (.t 32))) [(29,.op (.load false 1 (.t 28)) [(28,.op (.fa 2 (.t 1)) [])]),(30,.x (.t 4)),(32,.op (.bin .add .num (.t 31) (.c (.s
 (.int .i64 1)))) [(31,.x (.t 4))])])] false) (.cond (.op (.bin .eql .num (.t 38) (.c (.s (.int .u8 39)))) [(38,.op (.iv .str (.t 36) (.t 37)) [(36,.op (.load false 1 (.t 35))
 [(35,.op (.fa 2 (.t 1)) [])]),(37,.x (.t 4))])]) (.reg [.set 3 (.op (.bin .add .num (.t 40) (.c (.s (.str [39])))) [(40,.x (.t 3))]),.tick 3] false) .skip))))) (.reg [.set 4
 (.op (.bin .add .num (.t 25) (.c (.s (.int .i64 1)))) [(25,.x (.t 4))]),.tick 3] false)))))) (.seq (.reg [.set 2 (.op (.bin .add .num (.t 42) (.c (.s (.str [39])))) [(42,.x
 (.t 3))]),.tick 3] false) .ret))))))
theorem f124:sF EE 124 [5,7,8,9,10,11,12,14,15,16,17,18,19,20,21,22,23,24,27,28,29,30,31,32,33,34,35,36,37,38,39,40,41,25,26,42,43]=some
 ⟨44,[.t 2],c124⟩:=by kernel_rfl
def c125:SC := .seq (.reg [.act (some 2) [] (.box 26 (.t 0)) [],.set 4 (.x (.c (.s (.str [])))),.tick 1] false) (.seq (.seq (.reg [.tick 1,.act (some 6) [] (.call 26 [.t 5])
 [(5,.op (.load true 9 (.t 2)) [])],.tick 2] false) (.cond (.op (.bin .lss .num (.t 6) (.t 7)) [(7,.x (.t 1))]) (.seq (.reg [.tick 1,.act (some 10) [] (.call 55 [.t 9]) [(9,
 .op (.load true 9 (.t 2)) [])],.set 4 (.op (.bin .add .num (.t 11) (.c (.s (.str [41])))) [(11,.op (.bin .add .num (.c (.s (.str [40]))) (.t 10)) [])]),.tick 3] false) .ret)
 .skip)) (.seq (.reg [.tick 1,.act (some 14) [] (.call 55 [.t 13]) [(13,.op (.load true 9 (.t 2)) [])],.set 4 (.x (.t 14)),.tick 1] false) .ret))
theorem f125:sF EE 125 [5,7,8,9,11,12,13]=some ⟨15,[.t 4],c125⟩:=by kernel_rfl
def c141:SC := .seq (.reg [.act (some 1) [] (.box 80 (.t 0)) [],.set 2 (.x (.c (.s (.str [])))),.tick 1] false) (.seq (.reg [.tick 4,.act (some 8) [] (.rows 10 [.int .i64 0,
 .nils,.bool false,.nils,.nils,.nils,.nils,.nils,.nils,.nils] 2 [(0,.t 5),(1,.t 7)]) [(5,.op (.load true 10 (.t 4)) [(4,.op (.fa 2 (.t 1)) [])]),(7,.op (.load true
 10 (.t 6)) [(6,.op (.fa 12 (.t 1)) [])])],.need [] (.op (.build [.int .i64 0,.nils,.bool false,.nils,.nils,.nils,.nils,.nils,.nils,.nils] [(0,1,.c (.s (.int .i64
 2))),(9,1,.t 8)]) []),.tick 1,.act (some 3) [] (.alloc 38 [.int .i64 0,.nils,.bool false,.nils,.nils,.nils,.nils,.nils,.nils,.nils]) [],.act none [] (.store 10 (.t
 3) (.t 9)) [(9,.op (.build [.int .i64 0,.nils,.bool false,.nils,.nils,.nils,.nils,.nils,.nils,.nils] [(0,1,.c (.s (.int .i64 2))),(9,1,.t 8)]) [])]] false) (.seq
 (.reg [.set 12 (.op (.bin .add .num (.t 11) (.c (.s (.str [32,40])))) [(11,.op (.load false 1 (.t 10)) [(10,.op (.fa 0 (.t 1)) [])])]),.tick 5,.act (some 15) [] (.call 107
 [.t 14,.c (.s (.str [44,32]))]) [(14,.op (.load false 1 (.t 13)) [(13,.op (.fa 1 (.t 1)) [])])],.need [] (.op (.bin .add .num (.t 16) (.c (.s (.str [41,32,65,83,32,
 40])))) [(16,.op (.bin .add .num (.t 12) (.t 15)) [])]),.tick 3,.act (some 19) [] (.call 62 [.t 18]) [(18,.op (.load true 10 (.t 3)) [])],.set 2 (.op (.bin .add .num (.t 20)
 (.c (.s (.str [41])))) [(20,.op (.bin .add .num (.t 17) (.t 19)) [(17,.op (.bin .add .num (.t 16) (.c (.s (.str [41,32,65,83,32,40])))) [(16,.op (.bin .add .num (.t 12)
 (.t 15)) [])])])]),.tick 3] true) .ret))
theorem f141:sF EE 141 [4,5,6,7,9,10,11,13,14,16,17,18,20,21]=some ⟨22,[.t 2],c141⟩:=by kernel_rfl
def c142:SC := .seq (.reg [.act (some 1) [] (.box 38 (.t 0)) [],.set 2 (.x (.c (.s (.str [])))),.tick 1] false) (.seq (.reg [.set 3 (.x (.c (.s (.str [83,69,76,69,67,84,
 32])))),.tick 1] false) (.seq (.seq (.reg [.tick 2] false) (.cond (.op (.load false 1 (.t 9)) [(9,.op (.fa 2 (.t 1)) [])]) (.reg [.set 3 (.op (.bin .add .num (.t 11) (.c (.s
 (.str [68,73,83,84,73,78,67,84,32])))) [(11,.x (.t 3))]),.tick 3] false) .skip)) (.seq (.reg [.tick 3,.act (some 16) [] (.call 190 [.t 15,.c (.s (.str [44,32])),.c
 (.s (.func 191))]) [(15,.op (.load false 1 (.t 14)) [(14,.op (.fa 3 (.t 1)) [])])],.need [] (.op (.bin .add .num (.t 16) (.c (.s (.str [32,70,82,79,77,32])))) []),.tick
 3,.act (some 20) [] (.call 192 [.t 19,.c (.s (.str [44,32])),.c (.s (.func 193))]) [(19,.op (.load false 1 (.t 18)) [(18,.op (.fa 4 (.t 1)) [])])],.set 3 (.op (.bin .add
 .num (.t 13) (.t 21)) [(13,.x (.t 3)),(21,.op (.bin .add .num (.t 17) (.t 20)) [(17,.op (.bin .add .num (.t 16) (.c (.s (.str [32,70,82,79,77,32])))) [])])]),.tick 3]
 true) (.seq (.reg [.set 4 (.x (.c (.s .nils))),.tick 1] false) (.seq (.seq (.reg [.set 24 (.op (.load false 1 (.t 23)) [(23,.op (.fa 5 (.t 1)) [])]),.set 25 (.op (.len (.sl 0)
 (.t 24)) []),.set 26 (.x (.c (.s (.int .i64 0)))),.tick 4] false) (.block 0 (.seq (.reg [.need [] (.op (.bin .add .num (.t 17) (.t 20)) [(17,.op (.bin .add .num (.t 16) (.c
 (.s (.str [32,70,82,79,77,32])))) [])])] false) (.loop (.seq (.reg [.tick 1] false) (.seq (.cond (.op (.bin .lss .num (.t 26) (.t 25)) []) .skip (.exit 0)) (.seq (.block 1
 (.seq (.reg [.set 29 (.op (.load true 9 (.t 28)) [(28,.op (.ia (.sl 9) (.t 24) (.t 26)) [])]),.tick 2,.act (some 6) [] (.alloc 26 [.int .i64 0,.int .i64 0,.int .i64 0,.str
 [],.str [],.str [],.int .i64 0,.int .i64 0,.nils]) [],.act none [] (.store 9 (.t 6) (.t 29)) []] false) (.reg [.tick 2,.act (some 32) [] (.call 123 [.t 31,.c (.s (.int
 .i64 2))]) [(31,.op (.load true 9 (.t 6)) [])],.act (some 33) [] (.rows 1 [.str []] 1 [(0,.t 32)]) [],.act (some 34) [] (.app 9 1 (.t 30) (.t 33)) [(30,.x (.t 4))],.set 4
 (.x (.t 34)),.tick 1] false))) (.reg [.set 26 (.op (.bin .add .num (.t 26) (.c (.s (.int .i64 1)))) []),.tick 2] false)))))))) (.seq (.seq (.reg [.set 37 (.op (.load false 1
 (.t 36)) [(36,.op (.fa 6 (.t 1)) [])]),.set 38 (.op (.len (.sl 0) (.t 37)) []),.set 39 (.x (.c (.s (.int .i64 0)))),.tick 4] false) (.block 2 (.loop (.seq (.reg [.tick 1]
 false) (.seq (.cond (.op (.bin .lss .num (.t 39) (.t 38)) []) .skip (.exit 2)) (.seq (.block 3 (.seq (.reg [.set 42 (.op (.load true 12 (.t 41)) [(41,.op (.ia (.sl 12) (.t 37)
 (.t 39)) [])]),.tick 2,.act (some 8) [] (.alloc 70 [.bool false,.nils,.int .i64 0,.nils,.bool false,.nils,.nils,.nils,.nils,.nils,.nils,.nils]) [],.act none []
 (.store 12 (.t 8) (.t 42)) []] false) (.reg [.tick 2,.act (some 45) [] (.call 194 [.t 44]) [(44,.op (.load true 12 (.t 8)) [])],.act (some 46) [] (.rows 1 [.str []] 1 [(0,.t
 45)]) [],.act (some 47) [] (.app 9 1 (.t 43) (.t 46)) [(43,.x (.t 4))],.set 4 (.x (.t 47)),.tick 1] false))) (.reg [.set 39 (.op (.bin .add .num (.t 39) (.c (.s (.int .i64
 1)))) []),.tick 2] false))))))) (.seq (.seq (.reg [.tick 3] false) (.cond (.op (.bin .gtr .num (.t 50) (.c (.s (.int .i64 0)))) [(50,.op (.len (.sl 0) (.t 49)) [(49,.x (.t
 4))])]) (.seq (.reg [.tick 2,.act (some 54) [] (.call 107 [.t 53,.c (.s (.str [32,65,78,68,32]))]) [(53,.x (.t 4))],.set 3 (.op (.bin .add .num (.t 52) (.t 55)) [(52,.x
 (.t 3)),(55,.op (.bin .add .num (.c (.s (.str [32,87,72,69,82,69,32]))) (.t 54)) [])]),.tick 3] false) (.reg [.need [] (.op (.bin .add .num (.c (.s (.str [32,87,72,
 69,82,69,32]))) (.t 54)) [])] false)) .skip)) (.seq (.seq (.reg [.tick 4] false) (.cond (.op (.bin .gtr .num (.t 59) (.c (.s (.int .i64 0)))) [(59,.op (.len (.sl 0) (.t 58))
 [(58,.op (.load false 1 (.t 57)) [(57,.op (.fa 7 (.t 1)) [])])])]) (.seq (.reg [.tick 3,.act (some 64) [] (.call 160 [.t 63,.c (.s (.str [44,32])),.c (.s (.func 53))])
 [(63,.op (.load false 1 (.t 62)) [(62,.op (.fa 7 (.t 1)) [])])],.set 3 (.op (.bin .add .num (.t 61) (.t 65)) [(61,.x (.t 3)),(65,.op (.bin .add .num (.c (.s (.str [32,71,
 82,79,85,80,32,66,89,32]))) (.t 64)) [])]),.tick 3] false) (.reg [.need [] (.op (.bin .add .num (.c (.s (.str [32,71,82,79,85,80,32,66,89,32]))) (.t 64)) [])]
 false)) .skip)) (.seq (.seq (.reg [.tick 4] false) (.cond (.op (.bin .gtr .num (.t 69) (.c (.s (.int .i64 0)))) [(69,.op (.len (.sl 0) (.t 68)) [(68,.op (.load false 1 (.t 67))
 [(67,.op (.fa 8 (.t 1)) [])])])]) (.seq (.reg [.tick 3,.act (some 74) [] (.call 195 [.t 73,.c (.s (.str [32,65,78,68,32])),.c (.s (.func 196))]) [(73,.op (.load false 1
 (.t 72)) [(72,.op (.fa 8 (.t 1)) [])])],.set 3 (.op (.bin .add .num (.t 71) (.t 75)) [(71,.x (.t 3)),(75,.op (.bin .add .num (.c (.s (.str [32,72,65,86,73,78,71,
 32]))) (.t 74)) [])]),.tick 3] false) (.reg [.need [] (.op (.bin .add .num (.c (.s (.str [32,72,65,86,73,78,71,32]))) (.t 74)) [])] false)) .skip)) (.seq (.reg [.set 2
 (.x (.t 3)),.tick 2] false) .ret))))))))))
theorem f142:sF EE 142 [9,10,11,12,13,14,15,17,18,19,21,22,23,27,28,30,31,35,36,40,41,43,44,48,49,50,51,52,53,55,56,57,58,59,60,61,62,63,65,
 66,67,68,69,70,71,72,73,75,76,77]=some ⟨78,[.t 2],c142⟩:=by kernel_rfl
def c145:SC := .seq (.reg [.set 3 (.x (.c (.s (.bool false)))),.tick 1] false) (.seq (.reg [.tick 2,.act (some 6) [] (.callv (.t 4) [.t 5]) [(4,.op (.load false 1 (.t 1)) []),
 (5,.x (.t 0))],.set 3 (.op (.un .not (.t 6)) []),.tick 2] false) .ret)
theorem f145:sF EE 145 [4,5,7]=some ⟨8,[.t 3],c145⟩:=by kernel_rfl
def c160:SC := .seq (.reg [.set 6 (.x (.c (.s (.str [])))),.tick 1] false) (.seq (.reg [.tick 2,.act (some 12) [] (.mks 9 1 [.str []] (.c (.s (.int .i64 0))) (.t 11)) [(11,.op
 (.len (.sl 0) (.t 10)) [(10,.x (.t 0))])],.set 7 (.x (.t 12)),.tick 1] false) (.seq (.seq (.reg [.set 13 (.x (.t 0)),.set 14 (.op (.len (.sl 0) (.t 13)) []),.set 15 (.x (.c
 (.s (.int .i64 0)))),.tick 3] false) (.block 0 (.loop (.seq (.reg [.tick 1] false) (.seq (.cond (.op (.bin .lss .num (.t 15) (.t 14)) []) .skip (.exit 0)) (.seq (.block 1 (.seq
 (.reg [.set 18 (.op (.load true 9 (.t 17)) [(17,.op (.ia (.sl 9) (.t 13) (.t 15)) [])]),.tick 2,.act (some 9) [] (.alloc 26 [.int .i64 0,.int .i64 0,.int .i64 0,.str [],
 .str [],.str [],.int .i64 0,.int .i64 0,.nils]) [],.act none [] (.store 9 (.t 9) (.t 18)) []] false) (.reg [.tick 3,.act (some 22) [] (.callv (.t 20) [.t 21]) [(20,.x (.t
 2)),(21,.op (.load true 9 (.t 9)) [])],.act (some 23) [] (.rows 1 [.str []] 1 [(0,.t 22)]) [],.act (some 24) [] (.app 9 1 (.t 19) (.t 23)) [(19,.x (.t 7))],.set 7 (.x (.t
 24)),.tick 1] false))) (.reg [.set 15 (.op (.bin .add .num (.t 15) (.c (.s (.int .i64 1)))) []),.tick 2] false))))))) (.seq (.reg [.tick 2,.act (some 28) [] (.call 107 [.t 26,
 .t 27]) [(26,.x (.t 7)),(27,.x (.t 1))],.set 6 (.x (.t 28)),.tick 1] false) .ret)))
theorem f160:sF EE 160 [10,11,16,17,19,20,21,25,26,27]=some ⟨29,[.t 6],c160⟩:=by kernel_rfl
def c161:SC := .seq (.reg [.set 4 (.x (.c (.s (.int .i64 0)))),.set 5 (.x (.c (.s (.bool false)))),.tick 2] false) (.seq (.reg [.set 6 (.op (.len (.sl 0) (.t 10)) [(10,.x (.t
 0))]),.tick 3] false) (.seq (.reg [.set 7 (.x (.c (.s (.int .i64 0)))),.set 8 (.x (.t 6)),.tick 3] false) (.seq (.block 0 (.loop (.seq (.seq (.reg [.tick 3] false) (.cond (.op
 (.bin .lss .num (.t 13) (.t 14)) [(13,.x (.t 7)),(14,.x (.t 8))]) .skip (.exit 0))) (.block 1 (.seq (.reg [.set 9 (.op (.conv (.int .i64) (.t 20)) [(20,.op (.bin .shr .num
 (.t 19) (.c (.s (.int (.u64) 1)))) [(19,.op (.conv (.int (.u64)) (.t 18)) [(18,.op (.bin .add .num (.t 16) (.t 17)) [(16,.x (.t 7)),(17,.x (.t 8))])])])]),.tick 7] false)
 (.seq (.reg [.tick 5,.act (some 27) [] (.call 205 [.t 25,.t 26]) [(25,.op (.load false 1 (.t 24)) [(24,.op (.ia (.sl 1) (.t 22) (.t 23)) [(22,.x (.t 0)),(23,.x (.t
 9))])]),(26,.x (.t 1))]] false) (.cond (.x (.t 27)) (.reg [.set 7 (.op (.bin .add .num (.t 28) (.c (.s (.int .i64 1)))) [(28,.x (.t 9))]),.tick 3] false) (.reg [.set 8 (.x
 (.t 9)),.tick 2] false)))))))) (.seq (.reg [.need [] (.op (.bin .lss .num (.t 32) (.t 33)) [(32,.x (.t 7)),(33,.x (.t 6))]),.tick 11,.act (some 42) [(.op (.bin .lss .num
 (.t 32) (.t 33)) [(32,.x (.t 7)),(33,.x (.t 6))],true)] (.mv (.t 41)) [(41,.op (.bin .eql .num (.t 39) (.t 40)) [(39,.op (.load false 1 (.t 38)) [(38,.op (.ia (.sl 1) (.t
 36) (.t 37)) [(36,.x (.t 0)),(37,.x (.t 7))])]),(40,.x (.t 1))])],.tick 4,.act (some 47) [(.x (.t 42),false)] (.call 206 [.t 46]) [(46,.op (.load false 1 (.t 45)) [(45,
 .op (.ia (.sl 1) (.t 43) (.t 44)) [(43,.x (.t 0)),(44,.x (.t 7))])])],.tick 2,.act (some 50) [(.x (.t 42),false),(.x (.t 47),true)] (.call 206 [.t 49]) [(49,.x (.t 1))],
 .set 4 (.x (.t 7)),.set 5 (.pick (.op (.bin .lss .num (.t 32) (.t 33)) [(32,.x (.t 7)),(33,.x (.t 6))]) (.pick (.x (.t 42)) (.x (.c (.s (.bool true)))) (.pick (.x (.t 47))
 (.x (.t 50)) (.x (.c (.s (.bool false)))))) (.x (.c (.s (.bool false))))),.tick 5] false) (.seq (.reg [.need [(.x (.t 42),false)] (.pick (.x (.t 47)) (.x (.t 50)) (.x (.c (.s
 (.bool false)))))] false) .ret)))))
theorem f161:sF EE 161 [10,11,12,13,14,15,16,17,18,19,20,21,22,23,24,25,26,28,29,30,31,32,33,34,35,36,37,38,39,40,41,43,44,45,46,48,49,51,
 52,53]=some ⟨54,[.t 4,.t 5],c161⟩:=by kernel_rfl
def c163:SC := .seq (.reg [.set 6 (.x (.c (.s (.str [])))),.tick 1] false) (.seq (.reg [.tick 1,.act (some 11) [] (.conv (.bytes 5) (.t 10)) [(10,.x (.t 0))],.set 7 (.x (.t
 11)),.tick 1] false) (.seq (.seq (.reg [.set 12 (.x (.t 7)),.set 13 (.op (.len (.sl 0) (.t 12)) []),.set 14 (.x (.c (.s (.int .i64 0)))),.tick 3] false) (.block 0 (.loop
 (.seq (.reg [.tick 1] false) (.seq (.cond (.op (.bin .lss .num (.t 14) (.t 13)) []) .skip (.exit 0)) (.seq (.block 1 (.seq (.reg [.set 8 (.x (.t 14)),.set 9 (.op (.load false 1
 (.t 17)) [(17,.op (.ia (.sl 1) (.t 12) (.t 14)) [])]),.tick 5] false) (.seq (.reg [.tick 9] false) (.cond (.pick (.op (.bin .geq .num (.t 19) (.t 20)) [(19,.x (.t 9)),(20,.x
 (.t 1))]) (.op (.bin .lss .num (.t 23) (.t 25)) [(23,.x (.t 9)),(25,.op (.bin .add .num (.t 24) (.c (.s (.int .u8 26)))) [(24,.x (.t 1))])]) (.x (.c (.s (.bool false)))))
 (.reg [.tick 8,.act none [] (.store 1 (.t 35) (.t 34)) [(35,.op (.ia (.sl 1) (.t 28) (.t 29)) [(28,.x (.t 7)),(29,.x (.t 8))]),(34,.op (.bin .add .num (.t 32) (.t 33))
 [(32,.op (.bin .sub .num (.t 30) (.t 31)) [(30,.x (.t 9)),(31,.x (.t 1))]),(33,.x (.t 2))])]] false) .skip)))) (.reg [.set 14 (.op (.bin .add .num (.t 14) (.c (.s (.int
 .i64 1)))) []),.tick 2] false))))))) (.seq (.reg [.set 6 (.op (.conv (.str true) (.t 37)) [(37,.x (.t 7))]),.tick 3] false) .ret)))
theorem f163:sF EE 163 [10,15,16,17,18,19,20,21,22,23,24,25,26,27,28,29,30,31,32,33,34,35,36,37,38]=some ⟨39,[.t 6],c163⟩:=by kernel_rfl
def c171:SC := .seq (.reg [.set 4 (.x (.c (.s (.int .i64 0)))),.tick 1] false) (.seq (.seq (.reg [.set 7 (.op (.len (.sl 0) (.t 6)) [(6,.x (.t 0))]),.set 8 (.x (.c (.s (.int
 .i64 0)))),.tick 3] false) (.block 0 (.loop (.seq (.reg [.tick 1] false) (.seq (.cond (.op (.bin .lss .num (.t 8) (.t 7)) []) .skip (.exit 0)) (.seq (.block 1 (.seq (.reg [.set
 5 (.x (.t 8)),.tick 2] false) (.seq (.reg [.tick 5,.act (some 16) [] (.callv (.t 11) [.t 15]) [(11,.x (.t 1)),(15,.op (.load true 9 (.t 14)) [(14,.op (.ia (.sl 9) (.t 12)
 (.t 13)) [(12,.x (.t 0)),(13,.x (.t 5))])])]] false) (.cond (.x (.t 16)) (.seq (.reg [.set 4 (.x (.t 5)),.tick 2] false) .ret) .skip)))) (.reg [.set 8 (.op (.bin .add .num
 (.t 8) (.c (.s (.int .i64 1)))) []),.tick 2] false))))))) (.seq (.reg [.set 4 (.x (.c (.s (.int .i64 (-1))))),.tick 1] false) .ret))
theorem f171:sF EE 171 [6,9,10,11,12,13,14,15,17,18]=some ⟨19,[.t 4],c171⟩:=by kernel_rfl
def c172:SC := .seq (.reg [.set 4 (.x (.c (.s (.bool false)))),.tick 1] false) (.seq (.seq (.reg [.set 5 (.x (.c (.s (.int .i64 0)))),.tick 1] false) (.block 0 (.loop (.seq
 (.seq (.reg [.tick 4] false) (.cond (.op (.bin .lss .num (.t 6) (.t 8)) [(6,.x (.t 5)),(8,.op (.len (.sl 0) (.t 7)) [(7,.x (.t 0))])]) .skip (.exit 0))) (.seq (.block 1 (.seq
 (.reg [.tick 6] false) (.cond (.op (.bin .eql .num (.t 15) (.t 16)) [(15,.op (.load false 1 (.t 14)) [(14,.op (.ia (.sl 1) (.t 12) (.t 13)) [(12,.x (.t 0)),(13,.x (.t
 5))])]),(16,.x (.t 1))]) (.seq (.reg [.set 4 (.x (.c (.s (.bool true)))),.tick 1] false) .ret) .skip))) (.reg [.set 5 (.op (.bin .add .num (.t 10) (.c (.s (.int .i64 1))))
 [(10,.x (.t 5))]),.tick 3] false)))))) (.seq (.reg [.set 4 (.x (.c (.s (.bool false)))),.tick 1] false) .ret))
theorem f172:sF EE 172 [6,7,8,9,12,13,14,15,16,17,10,11]=some ⟨18,[.t 4],c172⟩:=by kernel_rfl
def c174:SC := .seq (.reg [.set 2 (.x (.c (.s (.str [])))),.tick 1] false) (.seq (.reg [.tick 1,.act (some 6) [] (.conv (.bytes 5) (.t 5)) [(5,.x (.t 0))],.set 3 (.x (.t 6)),
 .tick 1] false) (.seq (.seq (.reg [.set 4 (.x (.c (.s (.int .i64 0)))),.tick 1] false) (.block 0 (.loop (.seq (.seq (.reg [.tick 4] false) (.cond (.op (.bin .lss .num (.t 7) (.t
 9)) [(7,.x (.t 4)),(9,.op (.len (.sl 0) (.t 8)) [(8,.x (.t 3))])]) .skip (.exit 0))) (.seq (.block 1 (.seq (.reg [.tick 12] false) (.cond (.pick (.op (.bin .geq .num (.t 16)
 (.c (.s (.int .u8 97)))) [(16,.op (.load false 1 (.t 15)) [(15,.op (.ia (.sl 1) (.t 13) (.t 14)) [(13,.x (.t 3)),(14,.x (.t 4))])])]) (.op (.bin .leq .num (.t 22) (.c (.s
 (.int .u8 122)))) [(22,.op (.load false 1 (.t 21)) [(21,.op (.ia (.sl 1) (.t 19) (.t 20)) [(19,.x (.t 3)),(20,.x (.t 4))])])]) (.x (.c (.s (.bool false))))) (.reg [.tick 8,
 .act none [] (.store 1 (.t 32) (.t 31)) [(32,.op (.ia (.sl 1) (.t 25) (.t 26)) [(25,.x (.t 3)),(26,.x (.t 4))]),(31,.op (.bin .sub .num (.t 30) (.c (.s (.int .u8 32))))
 [(30,.op (.load false 1 (.t 29)) [(29,.op (.ia (.sl 1) (.t 27) (.t 28)) [(27,.x (.t 3)),(28,.x (.t 4))])])])]] false) .skip))) (.reg [.set 4 (.op (.bin .add .num (.t 11) (.c
 (.s (.int .i64 1)))) [(11,.x (.t 4))]),.tick 3] false)))))) (.seq (.reg [.set 2 (.op (.conv (.str true) (.t 33)) [(33,.x (.t 3))]),.tick 3] false) .ret)))
theorem f174:sF EE 174 [5,7,8,9,10,13,14,15,16,17,18,19,20,21,22,23,24,25,26,27,28,29,30,31,32,11,12,33,34]=some ⟨35,[.t 2],c174⟩:=by kernel_rfl
def c177:SC := .seq (.reg [.set 2 (.x (.c (.s (.str [])))),.tick 1] false) (.seq (.seq (.reg [.tick 2] false) (.cond (.op (.bin .lss .num (.t 3) (.c (.s (.int .i64 0)))) [(3,.x
 (.t 0))]) (.seq (.reg [.tick 3,.act (some 8) [] (.call 214 [.t 7]) [(7,.op (.un .neg (.t 6)) [(6,.op (.conv (.int (.u64)) (.t 5)) [(5,.x (.t 0))])])],.set 2 (.op (.bin .add
 .num (.c (.s (.str [45]))) (.t 8)) []),.tick 2] false) .ret) .skip)) (.seq (.reg [.tick 2,.act (some 12) [] (.call 214 [.t 11]) [(11,.op (.conv (.int (.u64)) (.t 10)) [(10,.x
 (.t 0))])],.set 2 (.x (.t 12)),.tick 1] false) .ret))
theorem f177:sF EE 177 [3,4,5,6,7,9,10,11]=some ⟨13,[.t 2],c177⟩:=by kernel_rfl
def c191:SC := .seq (.reg [.act (some 1) [] (.box 65 (.t 0)) [],.set 2 (.x (.c (.s (.str [])))),.tick 1] false) (.seq (.seq (.reg [.tick 2] false) (.cond (.op (.load false 1
 (.t 3)) [(3,.op (.fa 0 (.t 1)) [])]) (.seq (.reg [.set 2 (.x (.c (.s (.str [42])))),.tick 1] false) .ret) .skip)) (.seq (.reg [.tick 2,.act (some 7) [] (.call 53 [.t 6]) [(6,
 .op (.load true 9 (.t 5)) [(5,.op (.fa 1 (.t 1)) [])])],.tick 2,.act (some 10) [] (.call 221 [.t 7,.t 9]) [(9,.op (.load false 1 (.t 8)) [(8,.op (.fa 10 (.t 1)) [])])],
 .set 2 (.x (.t 10)),.tick 1] true) .ret))
theorem f191:sF EE 191 [3,4,5,6,8,9]=some ⟨11,[.t 2],c191⟩:=by kernel_rfl
def c193:SC := .seq (.reg [.act (some 1) [] (.box 67 (.t 0)) [],.set 2 (.x (.c (.s (.str [])))),.tick 1] false) (.seq (.seq (.reg [.tick 4] false) (.cond (.op (.bin .gtr .num
 (.t 5) (.c (.s (.int .i64 0)))) [(5,.op (.len (.sl 0) (.t 4)) [(4,.op (.load false 1 (.t 3)) [(3,.op (.fa 2 (.t 1)) [])])])]) (.seq (.reg [.tick 4,.act (some 11) [] (.call 62
 [.t 10]) [(10,.op (.load true 10 (.t 9)) [(9,.op (.ia (.sl 10) (.t 8) (.c (.s (.int .i64 0)))) [(8,.op (.load false 1 (.t 7)) [(7,.op (.fa 2 (.t 1)) [])])])])],.tick 4,.act
 (some 16) [] (.call 221 [.t 13,.t 15]) [(13,.op (.bin .add .num (.t 12) (.c (.s (.str [41])))) [(12,.op (.bin .add .num (.c (.s (.str [40]))) (.t 11)) [])]),(15,.op (.load
 false 1 (.t 14)) [(14,.op (.fa 1 (.t 1)) [])])],.set 2 (.x (.t 16)),.tick 1] true) .ret) .skip)) (.seq (.reg [.tick 4,.act (some 21) [] (.call 221 [.t 18,.t 20]) [(18,.op
 (.load false 1 (.t 17)) [(17,.op (.fa 0 (.t 1)) [])]),(20,.op (.load false 1 (.t 19)) [(19,.op (.fa 1 (.t 1)) [])])],.set 2 (.x (.t 21)),.tick 1] false) .ret))
theorem f193:sF EE 193 [3,4,5,6,7,8,9,10,12,13,14,15,17,18,19,20]=some ⟨22,[.t 2],c193⟩:=by kernel_rfl
def c194:SC := .seq (.reg [.act (some 1) [] (.box 70 (.t 0)) [],.set 2 (.x (.c (.s (.str [])))),.tick 1] false) (.seq (.reg [.tick 2,.act (some 7) [] (.call 62 [.t 6]) [(6,
 .op (.load true 10 (.t 5)) [(5,.op (.fa 2 (.t 1)) [])])],.set 3 (.op (.bin .add .num (.t 8) (.c (.s (.str [41])))) [(8,.op (.bin .add .num (.c (.s (.str [40]))) (.t 7)) [])]),
 .tick 3] false) (.seq (.reg [.set 4 (.x (.c (.s (.str [])))),.tick 1] false) (.seq (.seq (.reg [.tick 2] false) (.cond (.op (.load false 1 (.t 10)) [(10,.op (.fa 0 (.t 1))
 [])]) (.reg [.set 4 (.x (.c (.s (.str [78,79,84,32])))),.tick 1] false) .skip)) (.seq (.seq (.reg [.set 14 (.op (.len (.sl 0) (.t 13)) [(13,.op (.load false 1 (.t 12)) [(12,
 .op (.fa 1 (.t 1)) [])])]),.tick 3] false) (.block 0 (.seq (.reg [.tick 2] false) (.cond (.op (.bin .eql .num (.t 14) (.c (.s (.int .i64 0)))) []) (.seq (.reg [.set 2 (.op (.bin
 .add .num (.t 18) (.t 19)) [(18,.op (.bin .add .num (.t 17) (.c (.s (.str [69,88,73,83,84,83,32])))) [(17,.x (.t 4))]),(19,.x (.t 3))]),.tick 5] false) .ret) (.seq
 (.reg [.tick 2] false) (.cond (.op (.bin .eql .num (.t 14) (.c (.s (.int .i64 1)))) []) (.seq (.reg [.tick 4,.act (some 27) [] (.call 123 [.t 26,.c (.s (.int .i64 5))]) [(26,
 .op (.load true 9 (.t 25)) [(25,.op (.ia (.sl 9) (.t 24) (.c (.s (.int .i64 0)))) [(24,.op (.load false 1 (.t 23)) [(23,.op (.fa 1 (.t 1)) [])])])])],.set 2 (.op (.bin .add
 .num (.t 31) (.t 32)) [(31,.op (.bin .add .num (.t 30) (.c (.s (.str [73,78,32])))) [(30,.op (.bin .add .num (.t 28) (.t 29)) [(28,.op (.bin .add .num (.t 27) (.c (.s (.str
 [32])))) []),(29,.x (.t 4))])]),(32,.x (.t 3))]),.tick 7] false) .ret) .skip)))))) (.seq (.reg [.tick 2,.act (some 36) [] (.call 160 [.t 35,.c (.s (.str [44,32])),.c (.s
 (.func 53))]) [(35,.op (.load false 1 (.t 34)) [(34,.op (.fa 1 (.t 1)) [])])],.set 2 (.op (.bin .add .num (.t 41) (.t 42)) [(41,.op (.bin .add .num (.t 40) (.c (.s (.str [73,
 78,32])))) [(40,.op (.bin .add .num (.t 38) (.t 39)) [(38,.op (.bin .add .num (.t 37) (.c (.s (.str [41,32])))) [(37,.op (.bin .add .num (.c (.s (.str [40]))) (.t 36))
 [])]),(39,.x (.t 4))])]),(42,.x (.t 3))]),.tick 8] false) .ret)))))
theorem f194:sF EE 194 [5,6,8,9,10,11,12,13,16,15,17,18,19,20,22,21,23,24,25,26,28,29,30,31,32,33,34,35,37,38,39,40,41,42,43]=some ⟨44,[.t
 2],c194⟩:=by kernel_rfl
def c205:SC := .seq (.reg [.set 4 (.x (.c (.s (.bool false)))),.tick 1] false) (.seq (.reg [.tick 1,.act (some 6) [] (.call 224 [.t 5]) [(5,.x (.t 0))],.tick 2,.act (some 9)
 [(.x (.t 6),true)] (.call 224 [.t 8]) [(8,.x (.t 1))],.set 4 (.pick (.pick (.x (.t 6)) (.op (.un .not (.t 9)) []) (.x (.c (.s (.bool false))))) (.x (.c (.s (.bool true))))
 (.op (.bin .lss .num (.t 13) (.t 14)) [(13,.x (.t 0)),(14,.x (.t 1))])),.tick 8] false) .ret)
theorem f205:sF EE 205 [5,7,8,10,11,12,13,14,15,16]=some ⟨17,[.t 4],c205⟩:=by kernel_rfl
def c206:SC := .seq (.reg [.set 2 (.x (.c (.s (.bool false)))),.tick 1] false) (.seq (.reg [.set 2 (.op (.bin .neq .num (.t 3) (.t 4)) [(3,.x (.t 0)),(4,.x (.t 0))]),.tick
 4] false) .ret)
theorem f206:sF EE 206 [3,4,5]=some ⟨6,[.t 2],c206⟩:=by kernel_rfl
def c214:SC := .seq (.reg [.set 2 (.x (.c (.s (.str [])))),.tick 1] false) (.seq (.seq (.reg [.tick 2] false) (.cond (.op (.bin .lss .num (.t 3) (.c (.s (.int (.u64) 10)))) [(3,
 .x (.t 0))]) (.seq (.reg [.tick 3,.act (some 8) [] (.rows 1 [.int .u8 0] 1 [(0,.t 7)]) [(7,.op (.conv (.int .u8) (.t 6)) [(6,.op (.bin .add .num (.c (.s (.int (.u64) 48)))
 (.t 5)) [(5,.x (.t 0))])])],.set 2 (.op (.conv (.str true) (.t 8)) []),.tick 2] false) .ret) .skip)) (.seq (.regD [.set 11 (.op (.bin .quo .num (.t 10) (.c (.s (.int (.u64)
 10)))) [(10,.x (.t 0))]),.tick 2,.act (some 12) [] (.call 214 [.t 11]) [],.set 15 (.op (.bin .add .num (.c (.s (.int (.u64) 48))) (.t 14)) [(14,.op (.bin .rem .num (.t 13)
 (.c (.s (.int (.u64) 10)))) [(13,.x (.t 0))])]),.tick 4,.act (some 17) [] (.rows 1 [.int .u8 0] 1 [(0,.t 16)]) [(16,.op (.conv (.int .u8) (.t 15)) [])],.set 2 (.op (.bin
 .add .num (.t 12) (.t 18)) [(18,.op (.conv (.str true) (.t 17)) [])]),.tick 3] [(2,1,[.c (.s (.func 214)),.t 11],6,2,[.t 15]),(2,1,[.c (.s (.func 214)),.t 11],8,2,
 [.t 17])] []) .ret))
theorem f214:sF EE 214 [3,4,5,6,7,9,10,13,14,16,18,19]=some ⟨20,[.t 2],c214⟩:=by kernel_rfl
def c224:SC := .seq (.reg [.set 2 (.x (.c (.s (.bool false)))),.tick 1] false) (.seq (.reg [.set 2 (.op (.bin .neq .num (.t 3) (.t 4)) [(3,.x (.t 0)),(4,.x (.t 0))]),.tick
 4] false) .ret)
theorem f224:sF EE 224 [3,4,5]=some ⟨6,[.t 2],c224⟩:=by kernel_rfl
end Go.Vm
