/- The functions of chapter 24, as statements of the machine: texts of queries. -/
import Derived.Test.YtaepmmmcipolbaaGreatDoorQSfAv
set_option linter.unusedVariables false
set_option maxRecDepth 100000
namespace Go.Vm
open Go.Proofs
def c4:SC := .seq (.reg [.act (some 1) [] (.box 38 (.t 0)) [],.set 2 (.x (.c (.s (.bool false)))),.tick 1] false) (.seq (.seq (.reg [.tick 1,.act (some 4) [] (.call 16 [.t 3,
 .c (.s (.int .i64 120))]) [(3,.op (.load true 10 (.t 1)) [])],.tick 1] false) (.cond (.op (.un .not (.t 4)) []) (.seq (.reg [.act (some 6) [] (.call 11 []) [],.set 2 (.x (.t
 6)),.tick 1] false) .ret) .skip)) (.seq (.reg [.tick 1,.act (some 8) [] (.call 17 [.t 7]) [(7,.op (.load true 10 (.t 1)) [])],.tick 1,.act (some 10) [] (.call 18 [.t 9])
 [(9,.op (.load true 10 (.t 1)) [])],.need [] (.op (.bin .eql .bool (.t 8) (.t 10)) []),.tick 3,.act (some 14) [(.op (.bin .eql .bool (.t 8) (.t 10)) [],true)] (.call 19 [.t
 13]) [(13,.op (.load true 10 (.t 1)) [])],.tick 1,.act (some 16) [(.op (.bin .eql .bool (.t 8) (.t 10)) [],true)] (.call 20 [.t 15]) [(15,.op (.load true 10 (.t 1)) [])],
 .need [] (.pick (.op (.bin .eql .bool (.t 8) (.t 10)) []) (.op (.bin .eql .num (.t 14) (.t 16)) []) (.x (.c (.s (.bool false))))),.tick 4,.act (some 21) [(.pick (.op (.bin .eql
 .bool (.t 8) (.t 10)) []) (.op (.bin .eql .num (.t 14) (.t 16)) []) (.x (.c (.s (.bool false)))),true)] (.call 21 [.t 20]) [(20,.op (.load true 10 (.t 1)) [])],.tick 1,.act
 (some 23) [(.pick (.op (.bin .eql .bool (.t 8) (.t 10)) []) (.op (.bin .eql .num (.t 14) (.t 16)) []) (.x (.c (.s (.bool false)))),true)] (.call 22 [.t 22]) [(22,.op (.load
 true 10 (.t 1)) [])],.need [] (.pick (.pick (.op (.bin .eql .bool (.t 8) (.t 10)) []) (.op (.bin .eql .num (.t 14) (.t 16)) []) (.x (.c (.s (.bool false))))) (.op (.bin .eql
 .num (.t 21) (.t 23)) []) (.x (.c (.s (.bool false))))),.tick 3,.act (some 27) [(.pick (.pick (.op (.bin .eql .bool (.t 8) (.t 10)) []) (.op (.bin .eql .num (.t 14) (.t 16))
 []) (.x (.c (.s (.bool false))))) (.op (.bin .eql .num (.t 21) (.t 23)) []) (.x (.c (.s (.bool false)))),true)] (.call 11 []) [],.set 2 (.pick (.pick (.pick (.op (.bin .eql
 .bool (.t 8) (.t 10)) []) (.op (.bin .eql .num (.t 14) (.t 16)) []) (.x (.c (.s (.bool false))))) (.op (.bin .eql .num (.t 21) (.t 23)) []) (.x (.c (.s (.bool false))))) (.x (.t
 27)) (.x (.c (.s (.bool false))))),.tick 2] true) .ret))
theorem f4:sF EE 4 [3,5,7,9,11,12,13,15,17,18,19,20,22,24,25,26,28]=some ⟨29,[.t 2],c4⟩:=by kernel_rfl
def c19:SC := .seq (.reg [.act (some 1) [] (.box 38 (.t 0)) [],.set 2 (.x (.c (.s (.str [])))),.tick 1] false) (.seq (.seq (.reg [.tick 1,.act (some 4) [] (.call 17 [.t 3])
 [(3,.op (.load true 10 (.t 1)) [])],.tick 1] false) (.cond (.op (.un .not (.t 4)) []) (.seq (.reg [.set 2 (.x (.c (.s (.str [])))),.tick 1] false) .ret) .skip)) (.seq (.reg
 [.tick 1,.act (some 7) [] (.call 62 [.t 6]) [(6,.op (.load true 10 (.t 1)) [])],.set 2 (.x (.t 7)),.tick 1] false) .ret))
theorem f19:sF EE 19 [3,5,6]=some ⟨8,[.t 2],c19⟩:=by kernel_rfl
def c20:SC := .seq (.reg [.act (some 1) [] (.box 38 (.t 0)) [],.set 2 (.x (.c (.s (.str [])))),.tick 1] false) (.seq (.seq (.reg [.tick 1,.act (some 4) [] (.call 18 [.t 3])
 [(3,.op (.load true 10 (.t 1)) [])],.tick 1] false) (.cond (.op (.un .not (.t 4)) []) (.seq (.reg [.set 2 (.x (.c (.s (.str [])))),.tick 1] false) .ret) .skip)) (.seq (.reg
 [.tick 1,.act (some 7) [] (.call 63 [.t 6]) [(6,.op (.load true 10 (.t 1)) [])],.set 2 (.x (.t 7)),.tick 1] false) .ret))
theorem f20:sF EE 20 [3,5,6]=some ⟨8,[.t 2],c20⟩:=by kernel_rfl
def c63:SC := .seq (.reg [.act (some 1) [] (.box 38 (.t 0)) [],.set 2 (.x (.c (.s (.str [])))),.tick 1] false) (.seq (.seq (.reg [.tick 4] false) (.cond (.op (.bin .gtr .num
 (.t 9) (.c (.s (.int .i64 0)))) [(9,.op (.len (.sl 0) (.t 8)) [(8,.op (.load false 1 (.t 7)) [(7,.op (.fa 1 (.t 1)) [])])])]) (.seq (.reg [.act (some 11) [] (.rows 1 [.str []]
 0 []) [],.set 3 (.x (.t 11)),.tick 1] false) (.seq (.seq (.reg [.set 4 (.x (.c (.s (.int .i64 0)))),.tick 1] false) (.block 0 (.loop (.seq (.seq (.reg [.tick 5] false) (.cond
 (.op (.bin .lss .num (.t 12) (.t 15)) [(12,.x (.t 4)),(15,.op (.len (.sl 0) (.t 14)) [(14,.op (.load false 1 (.t 13)) [(13,.op (.fa 1 (.t 1)) [])])])]) .skip (.exit 0)))
 (.seq (.block 1 (.seq (.reg [.set 23 (.op (.load true 22 (.t 22)) [(22,.op (.ia (.sl 22) (.t 20) (.t 21)) [(20,.op (.load false 1 (.t 19)) [(19,.op (.fa 1 (.t 1)) [])]),(21,
 .x (.t 4))])]),.tick 5,.act (some 5) [] (.alloc 80 [.str [],.nils,.int .i64 0,.nils,.bool false,.nils,.nils,.nils,.nils,.nils,.nils,.nils,.int .i64 0,.nils,.bool
 false,.nils,.nils,.nils,.nils,.nils,.nils,.nils]) [],.act none [] (.store 22 (.t 5) (.t 23)) []] false) (.reg [.set 27 (.op (.bin .add .num (.t 26) (.c (.s (.str [32,
 40])))) [(26,.op (.load false 1 (.t 25)) [(25,.op (.fa 0 (.t 5)) [])])]),.tick 6,.act (some 30) [] (.call 113 [.t 29,.c (.s (.str [44,32]))]) [(29,.op (.load false 1 (.t
 28)) [(28,.op (.fa 1 (.t 5)) [])])],.need [] (.op (.bin .add .num (.t 31) (.c (.s (.str [41,32,65,83,32,40])))) [(31,.op (.bin .add .num (.t 27) (.t 30)) [])]),.tick 6,
 .act (some 37) [] (.rows 10 [.int .i64 0,.nils,.bool false,.nils,.nils,.nils,.nils,.nils,.nils,.nils] 2 [(0,.t 34),(1,.t 36)]) [(34,.op (.load true 10 (.t 33)) [(33,
 .op (.fa 2 (.t 5)) [])]),(36,.op (.load true 10 (.t 35)) [(35,.op (.fa 12 (.t 5)) [])])],.tick 1,.act (some 39) [] (.call 63 [.t 38]) [(38,.op (.build [.int .i64 0,.nils,
 .bool false,.nils,.nils,.nils,.nils,.nils,.nils,.nils] [(0,1,.c (.s (.int .i64 2))),(9,1,.t 37)]) [])],.tick 2,.act (some 42) [] (.rows 1 [.str []] 1 [(0,.t 41)])
 [(41,.op (.bin .add .num (.t 40) (.c (.s (.str [41])))) [(40,.op (.bin .add .num (.t 32) (.t 39)) [(32,.op (.bin .add .num (.t 31) (.c (.s (.str [41,32,65,83,32,40]))))
 [(31,.op (.bin .add .num (.t 27) (.t 30)) [])])])])],.act (some 43) [] (.app 9 1 (.t 24) (.t 42)) [(24,.x (.t 3))],.set 3 (.x (.t 43)),.tick 1] true))) (.reg [.set 4 (.op
 (.bin .add .num (.t 17) (.c (.s (.int .i64 1)))) [(17,.x (.t 4))]),.tick 3] false)))))) (.seq (.reg [.tick 1,.act none [] (.store 1 (.t 44) (.c (.s .nils))) [(44,.op (.fa 1
 (.t 1)) [])]] false) (.seq (.regD [.tick 1,.act (some 46) [] (.call 113 [.t 45,.c (.s (.str [44,32]))]) [(45,.x (.t 3))],.need [] (.op (.bin .add .num (.t 47) (.c (.s (.str
 [32])))) [(47,.op (.bin .add .num (.c (.s (.str [87,73,84,72,32,82,69,67,85,82,83,73,86,69,32]))) (.t 46)) [])]),.tick 3,.act (some 50) [] (.call 63 [.t 49])
 [(49,.op (.load true 10 (.t 1)) [])],.set 2 (.op (.bin .add .num (.t 48) (.t 50)) [(48,.op (.bin .add .num (.t 47) (.c (.s (.str [32])))) [(47,.op (.bin .add .num (.c (.s
 (.str [87,73,84,72,32,82,69,67,85,82,83,73,86,69,32]))) (.t 46)) [])])]),.tick 2] [] [3]) .ret)))) .skip)) (.seq (.seq (.reg [.tick 3] false) (.cond (.op (.bin
 .eql .num (.t 53) (.c (.s (.int .i64 0)))) [(53,.op (.load false 1 (.t 52)) [(52,.op (.fa 0 (.t 1)) [])])]) (.seq (.reg [.tick 1,.act (some 56) [] (.call 143 [.t 55]) [(55,
 .op (.load true 10 (.t 1)) [])],.set 2 (.x (.t 56)),.tick 1] false) .ret) .skip)) (.seq (.reg [.tick 4,.act (some 61) [] (.call 63 [.t 60]) [(60,.op (.load true 10 (.t 59))
 [(59,.op (.ia (.sl 10) (.t 58) (.c (.s (.int .i64 1)))) [(58,.op (.load false 1 (.t 57)) [(57,.op (.fa 9 (.t 1)) [])])])])],.set 6 (.x (.t 61)),.tick 1] false) (.seq (.seq
 (.reg [.tick 6] false) (.cond (.op (.bin .neq .num (.t 66) (.c (.s (.int .i64 0)))) [(66,.op (.load false 1 (.t 65)) [(65,.op (.fa 0 (.t 64)) [(64,.op (.ia (.sl 10) (.t 63)
 (.c (.s (.int .i64 1)))) [(63,.op (.load false 1 (.t 62)) [(62,.op (.fa 9 (.t 1)) [])])])])])]) (.reg [.set 6 (.op (.bin .add .num (.t 69) (.c (.s (.str [41])))) [(69,.op
 (.bin .add .num (.c (.s (.str [40]))) (.t 68)) [(68,.x (.t 6))])]),.tick 4] false) .skip)) (.seq (.reg [.tick 4,.act (some 75) [] (.call 63 [.t 74]) [(74,.op (.load true 10
 (.t 73)) [(73,.op (.ia (.sl 10) (.t 72) (.c (.s (.int .i64 0)))) [(72,.op (.load false 1 (.t 71)) [(71,.op (.fa 9 (.t 1)) [])])])])],.need [] (.op (.bin .add .num (.t 75) (.c
 (.s (.str [32])))) []),.tick 1,.act (some 77) [] (.rows 1 [.str []] 6 [(0,.c (.s (.str []))),(1,.c (.s (.str [85,78,73,79,78,32,65,76,76]))),(2,.c (.s (.str [85,
 78,73,79,78]))),(3,.c (.s (.str [69,88,67,69,80,84,32,65,76,76]))),(4,.c (.s (.str [69,88,67,69,80,84]))),(5,.c (.s (.str [73,78,84,69,82,83,69,67,
 84])))]) [],.set 2 (.op (.bin .add .num (.t 83) (.t 84)) [(83,.op (.bin .add .num (.t 82) (.c (.s (.str [32])))) [(82,.op (.bin .add .num (.t 76) (.t 81)) [(76,.op (.bin .add
 .num (.t 75) (.c (.s (.str [32])))) []),(81,.op (.load false 1 (.t 80)) [(80,.op (.ia (.sl 1) (.t 77) (.t 79)) [(79,.op (.load false 1 (.t 78)) [(78,.op (.fa 0 (.t 1))
 [])])])])])]),(84,.x (.t 6))]),.tick 9] true) .ret)))))
theorem f63:sF EE 63 [7,8,9,10,12,13,14,15,16,19,20,21,22,24,25,26,28,29,31,32,33,34,35,36,38,40,41,17,18,44,45,47,48,49,51,52,53,54,55,57,
 58,59,60,62,63,64,65,66,67,68,69,70,71,72,73,74,76,78,79,80,81,82,83,84,85]=some ⟨86,[.t 2],c63⟩:=by kernel_rfl
def c113:SC := .seq (.reg [.set 4 (.x (.c (.s (.str [])))),.tick 1] false) (.seq (.reg [.set 5 (.x (.c (.s (.str [])))),.tick 1] false) (.seq (.seq (.reg [.set 6 (.x (.c (.s
 (.int .i64 0)))),.tick 1] false) (.block 0 (.loop (.seq (.seq (.reg [.tick 4] false) (.cond (.op (.bin .lss .num (.t 7) (.t 9)) [(7,.x (.t 6)),(9,.op (.len (.sl 0) (.t 8))
 [(8,.x (.t 0))])]) .skip (.exit 0))) (.seq (.block 1 (.seq (.seq (.seq (.reg [.tick 2] false) (.cond (.op (.bin .gtr .num (.t 13) (.c (.s (.int .i64 0)))) [(13,.x (.t 6))])
 (.reg [.set 5 (.op (.bin .add .num (.t 15) (.t 16)) [(15,.x (.t 5)),(16,.x (.t 1))]),.tick 4] false) .skip)) (.reg [.set 5 (.op (.bin .add .num (.t 18) (.t 22)) [(18,.x (.t
 5)),(22,.op (.load false 1 (.t 21)) [(21,.op (.ia (.sl 1) (.t 19) (.t 20)) [(19,.x (.t 0)),(20,.x (.t 6))])])]),.tick 7] false)) (.reg [.need [] (.op (.load false 1 (.t
 21)) [(21,.op (.ia (.sl 1) (.t 19) (.t 20)) [(19,.x (.t 0)),(20,.x (.t 6))])])] false))) (.reg [.set 6 (.op (.bin .add .num (.t 11) (.c (.s (.int .i64 1)))) [(11,.x (.t
 6))]),.tick 3] false)))))) (.seq (.reg [.set 4 (.x (.t 5)),.tick 2] false) .ret)))
theorem f113:sF EE 113 [7,8,9,10,13,14,15,16,17,18,19,20,21,22,23,11,12,24]=some ⟨25,[.t 4],c113⟩:=by kernel_rfl
def c114:SC := .seq (.reg [.set 2 (.x (.c (.s .nils))),.tick 1] false) (.seq (.reg [.act (some 5) [] (.rows 1 [.str []] 0 []) [],.set 3 (.x (.t 5)),.tick 1] false) (.seq (.seq
 (.reg [.set 4 (.x (.c (.s (.int .i64 0)))),.tick 1] false) (.block 0 (.loop (.seq (.seq (.reg [.tick 4] false) (.cond (.op (.bin .lss .num (.t 6) (.t 8)) [(6,.x (.t 4)),(8,
 .op (.len (.sl 0) (.t 7)) [(7,.x (.t 0))])]) .skip (.exit 0))) (.seq (.block 1 (.reg [.tick 5,.act (some 17) [] (.call 55 [.t 16]) [(16,.op (.load true 9 (.t 15)) [(15,.op
 (.ia (.sl 9) (.t 13) (.t 14)) [(13,.x (.t 0)),(14,.x (.t 4))])])],.act (some 18) [] (.rows 1 [.str []] 1 [(0,.t 17)]) [],.act (some 19) [] (.app 9 1 (.t 12) (.t 18)) [(12,
 .x (.t 3))],.set 3 (.x (.t 19)),.tick 1] false)) (.reg [.set 4 (.op (.bin .add .num (.t 10) (.c (.s (.int .i64 1)))) [(10,.x (.t 4))]),.tick 3] false)))))) (.seq (.reg [.set
 2 (.x (.t 3)),.tick 2] false) .ret)))
theorem f114:sF EE 114 [6,7,8,9,12,13,14,15,16,10,11,20]=some ⟨21,[.t 2],c114⟩:=by kernel_rfl
def c140:SC := .seq (.reg [.set 6 (.x (.c (.s (.str [])))),.tick 1] false) (.seq (.reg [.tick 2,.act (some 12) [] (.mks 9 1 [.str []] (.c (.s (.int .i64 0))) (.t 11)) [(11,.op
 (.len (.sl 0) (.t 10)) [(10,.x (.t 0))])],.set 7 (.x (.t 12)),.tick 1] false) (.seq (.seq (.reg [.set 13 (.x (.t 0)),.set 14 (.op (.len (.sl 0) (.t 13)) []),.set 15 (.x (.c
 (.s (.int .i64 0)))),.tick 3] false) (.block 0 (.loop (.seq (.reg [.tick 1] false) (.seq (.cond (.op (.bin .lss .num (.t 15) (.t 14)) []) .skip (.exit 0)) (.seq (.block 1 (.seq
 (.reg [.set 18 (.op (.load true 22 (.t 17)) [(17,.op (.ia (.sl 22) (.t 13) (.t 15)) [])]),.tick 2,.act (some 9) [] (.alloc 80 [.str [],.nils,.int .i64 0,.nils,.bool false,
 .nils,.nils,.nils,.nils,.nils,.nils,.nils,.int .i64 0,.nils,.bool false,.nils,.nils,.nils,.nils,.nils,.nils,.nils]) [],.act none [] (.store 22 (.t 9) (.t 18))
 []] false) (.reg [.tick 3,.act (some 22) [] (.callv (.t 20) [.t 21]) [(20,.x (.t 2)),(21,.op (.load true 22 (.t 9)) [])],.act (some 23) [] (.rows 1 [.str []] 1 [(0,.t 22)])
 [],.act (some 24) [] (.app 9 1 (.t 19) (.t 23)) [(19,.x (.t 7))],.set 7 (.x (.t 24)),.tick 1] false))) (.reg [.set 15 (.op (.bin .add .num (.t 15) (.c (.s (.int .i64 1))))
 []),.tick 2] false))))))) (.seq (.reg [.tick 2,.act (some 28) [] (.call 107 [.t 26,.t 27]) [(26,.x (.t 7)),(27,.x (.t 1))],.set 6 (.x (.t 28)),.tick 1] false) .ret)))
theorem f140:sF EE 140 [10,11,16,17,19,20,21,25,26,27]=some ⟨29,[.t 6],c140⟩:=by kernel_rfl
def c143:SC := .seq (.reg [.act (some 1) [] (.box 38 (.t 0)) [],.set 2 (.x (.c (.s (.str [])))),.tick 1] false) (.seq (.reg [.set 3 (.x (.c (.s (.str [83,69,76,69,67,84,
 32])))),.tick 1] false) (.seq (.seq (.reg [.tick 2] false) (.cond (.op (.load false 1 (.t 11)) [(11,.op (.fa 2 (.t 1)) [])]) (.reg [.set 3 (.op (.bin .add .num (.t 13) (.c (.s
 (.str [68,73,83,84,73,78,67,84,32])))) [(13,.x (.t 3))]),.tick 3] false) .skip)) (.seq (.reg [.act (some 15) [] (.rows 1 [.str []] 0 []) [],.set 4 (.x (.t 15)),.tick
 1] false) (.seq (.seq (.reg [.set 5 (.x (.c (.s (.int .i64 0)))),.tick 1] false) (.block 0 (.loop (.seq (.seq (.reg [.tick 5] false) (.cond (.op (.bin .lss .num (.t 16) (.t 19))
 [(16,.x (.t 5)),(19,.op (.len (.sl 0) (.t 18)) [(18,.op (.load false 1 (.t 17)) [(17,.op (.fa 3 (.t 1)) [])])])]) .skip (.exit 0))) (.seq (.block 1 (.seq (.reg [.tick 6]
 false) (.cond (.op (.load false 1 (.t 27)) [(27,.op (.fa 0 (.t 26)) [(26,.op (.ia (.sl 11) (.t 24) (.t 25)) [(24,.op (.load false 1 (.t 23)) [(23,.op (.fa 3 (.t 1)) [])]),
 (25,.x (.t 5))])])]) (.reg [.tick 1,.act (some 30) [] (.rows 1 [.str []] 1 [(0,.c (.s (.str [42])))]) [],.act (some 31) [] (.app 9 1 (.t 29) (.t 30)) [(29,.x (.t 4))],.set
 4 (.x (.t 31)),.tick 1] false) (.reg [.tick 7,.act (some 39) [] (.call 55 [.t 38]) [(38,.op (.load true 9 (.t 37)) [(37,.op (.fa 1 (.t 36)) [(36,.op (.ia (.sl 11) (.t 34)
 (.t 35)) [(34,.op (.load false 1 (.t 33)) [(33,.op (.fa 3 (.t 1)) [])]),(35,.x (.t 5))])])])],.tick 6,.act (some 46) [] (.call 197 [.t 45]) [(45,.op (.load false 1 (.t
 44)) [(44,.op (.fa 10 (.t 43)) [(43,.op (.ia (.sl 11) (.t 41) (.t 42)) [(41,.op (.load false 1 (.t 40)) [(40,.op (.fa 3 (.t 1)) [])]),(42,.x (.t 5))])])])],.tick 1,.act
 (some 48) [] (.rows 1 [.str []] 1 [(0,.t 47)]) [(47,.op (.bin .add .num (.t 39) (.t 46)) [])],.act (some 49) [] (.app 9 1 (.t 32) (.t 48)) [(32,.x (.t 4))],.set 4 (.x (.t
 49)),.tick 1] true)))) (.reg [.set 5 (.op (.bin .add .num (.t 21) (.c (.s (.int .i64 1)))) [(21,.x (.t 5))]),.tick 3] false)))))) (.seq (.reg [.tick 2,.act (some 52) []
 (.call 113 [.t 51,.c (.s (.str [44,32]))]) [(51,.x (.t 4))],.set 3 (.op (.bin .add .num (.t 50) (.t 53)) [(50,.x (.t 3)),(53,.op (.bin .add .num (.t 52) (.c (.s (.str [32,
 70,82,79,77,32])))) [])]),.tick 3] false) (.seq (.reg [.need [] (.op (.bin .add .num (.t 52) (.c (.s (.str [32,70,82,79,77,32])))) []),.act (some 55) [] (.rows 1 [.str
 []] 0 []) [],.set 4 (.x (.t 55)),.tick 1] false) (.seq (.seq (.reg [.set 6 (.x (.c (.s (.int .i64 0)))),.tick 1] false) (.block 2 (.loop (.seq (.seq (.reg [.tick 5] false)
 (.cond (.op (.bin .lss .num (.t 56) (.t 59)) [(56,.x (.t 6)),(59,.op (.len (.sl 0) (.t 58)) [(58,.op (.load false 1 (.t 57)) [(57,.op (.fa 4 (.t 1)) [])])])]) .skip (.exit
 2))) (.seq (.block 3 (.seq (.reg [.set 67 (.op (.load true 3 (.t 66)) [(66,.op (.ia (.sl 3) (.t 64) (.t 65)) [(64,.op (.load false 1 (.t 63)) [(63,.op (.fa 4 (.t 1)) [])]),
 (65,.x (.t 6))])]),.tick 5,.act (some 7) [] (.alloc 67 [.str [],.str [],.nils]) [],.act none [] (.store 3 (.t 7) (.t 67)) []] false) (.seq (.reg [.tick 4] false) (.cond
 (.op (.bin .gtr .num (.t 70) (.c (.s (.int .i64 0)))) [(70,.op (.len (.sl 0) (.t 69)) [(69,.op (.load false 1 (.t 68)) [(68,.op (.fa 2 (.t 7)) [])])])]) (.reg [.tick 5,.act
 (some 77) [] (.call 63 [.t 76]) [(76,.op (.load true 10 (.t 75)) [(75,.op (.ia (.sl 10) (.t 74) (.c (.s (.int .i64 0)))) [(74,.op (.load false 1 (.t 73)) [(73,.op (.fa 2 (.t
 7)) [])])])])],.need [] (.op (.bin .add .num (.t 78) (.c (.s (.str [41])))) [(78,.op (.bin .add .num (.c (.s (.str [40]))) (.t 77)) [])]),.tick 4,.act (some 82) [] (.call 197
 [.t 81]) [(81,.op (.load false 1 (.t 80)) [(80,.op (.fa 1 (.t 7)) [])])],.tick 1,.act (some 84) [] (.rows 1 [.str []] 1 [(0,.t 83)]) [(83,.op (.bin .add .num (.t 79) (.t
 82)) [(79,.op (.bin .add .num (.t 78) (.c (.s (.str [41])))) [(78,.op (.bin .add .num (.c (.s (.str [40]))) (.t 77)) [])])])],.act (some 85) [] (.app 9 1 (.t 72) (.t 84))
 [(72,.x (.t 4))],.set 4 (.x (.t 85)),.tick 1] true) (.reg [.set 88 (.op (.load false 1 (.t 87)) [(87,.op (.fa 0 (.t 7)) [])]),.tick 5,.act (some 91) [] (.call 197 [.t 90])
 [(90,.op (.load false 1 (.t 89)) [(89,.op (.fa 1 (.t 7)) [])])],.tick 1,.act (some 93) [] (.rows 1 [.str []] 1 [(0,.t 92)]) [(92,.op (.bin .add .num (.t 88) (.t 91)) [])],
 .act (some 94) [] (.app 9 1 (.t 86) (.t 93)) [(86,.x (.t 4))],.set 4 (.x (.t 94)),.tick 1] true))))) (.reg [.set 6 (.op (.bin .add .num (.t 61) (.c (.s (.int .i64 1)))) [(61,
 .x (.t 6))]),.tick 3] false)))))) (.seq (.reg [.tick 2,.act (some 97) [] (.call 113 [.t 96,.c (.s (.str [44,32]))]) [(96,.x (.t 4))],.set 3 (.op (.bin .add .num (.t 95) (.t
 97)) [(95,.x (.t 3))]),.tick 2] false) (.seq (.reg [.act (some 99) [] (.rows 1 [.str []] 0 []) [],.set 4 (.x (.t 99)),.tick 1] false) (.seq (.seq (.reg [.set 8 (.x (.c (.s
 (.int .i64 0)))),.tick 1] false) (.block 4 (.loop (.seq (.seq (.reg [.tick 5] false) (.cond (.op (.bin .lss .num (.t 100) (.t 103)) [(100,.x (.t 8)),(103,.op (.len (.sl 0)
 (.t 102)) [(102,.op (.load false 1 (.t 101)) [(101,.op (.fa 5 (.t 1)) [])])])]) .skip (.exit 4))) (.seq (.block 5 (.reg [.tick 6,.act (some 113) [] (.call 125 [.t 112,.c (.s
 (.int .i64 2))]) [(112,.op (.load true 9 (.t 111)) [(111,.op (.ia (.sl 9) (.t 109) (.t 110)) [(109,.op (.load false 1 (.t 108)) [(108,.op (.fa 5 (.t 1)) [])]),(110,.x (.t
 8))])])],.act (some 114) [] (.rows 1 [.str []] 1 [(0,.t 113)]) [],.act (some 115) [] (.app 9 1 (.t 107) (.t 114)) [(107,.x (.t 4))],.set 4 (.x (.t 115)),.tick 1] false))
 (.reg [.set 8 (.op (.bin .add .num (.t 105) (.c (.s (.int .i64 1)))) [(105,.x (.t 8))]),.tick 3] false)))))) (.seq (.seq (.reg [.set 9 (.x (.c (.s (.int .i64 0)))),.tick 1]
 false) (.block 6 (.loop (.seq (.seq (.reg [.tick 5] false) (.cond (.op (.bin .lss .num (.t 116) (.t 119)) [(116,.x (.t 9)),(119,.op (.len (.sl 0) (.t 118)) [(118,.op (.load
 false 1 (.t 117)) [(117,.op (.fa 6 (.t 1)) [])])])]) .skip (.exit 6))) (.seq (.block 7 (.reg [.tick 6,.act (some 129) [] (.call 198 [.t 128]) [(128,.op (.load true 12 (.t
 127)) [(127,.op (.ia (.sl 12) (.t 125) (.t 126)) [(125,.op (.load false 1 (.t 124)) [(124,.op (.fa 6 (.t 1)) [])]),(126,.x (.t 9))])])],.act (some 130) [] (.rows 1 [.str
 []] 1 [(0,.t 129)]) [],.act (some 131) [] (.app 9 1 (.t 123) (.t 130)) [(123,.x (.t 4))],.set 4 (.x (.t 131)),.tick 1] false)) (.reg [.set 9 (.op (.bin .add .num (.t 121)
 (.c (.s (.int .i64 1)))) [(121,.x (.t 9))]),.tick 3] false)))))) (.seq (.seq (.reg [.tick 3] false) (.cond (.op (.bin .gtr .num (.t 133) (.c (.s (.int .i64 0)))) [(133,.op
 (.len (.sl 0) (.t 132)) [(132,.x (.t 4))])]) (.seq (.reg [.tick 2,.act (some 137) [] (.call 113 [.t 136,.c (.s (.str [32,65,78,68,32]))]) [(136,.x (.t 4))],.set 3 (.op
 (.bin .add .num (.t 135) (.t 138)) [(135,.x (.t 3)),(138,.op (.bin .add .num (.c (.s (.str [32,87,72,69,82,69,32]))) (.t 137)) [])]),.tick 3] false) (.reg [.need []
 (.op (.bin .add .num (.c (.s (.str [32,87,72,69,82,69,32]))) (.t 137)) [])] false)) .skip)) (.seq (.seq (.reg [.tick 4] false) (.cond (.op (.bin .gtr .num (.t 142) (.c (.s
 (.int .i64 0)))) [(142,.op (.len (.sl 0) (.t 141)) [(141,.op (.load false 1 (.t 140)) [(140,.op (.fa 7 (.t 1)) [])])])]) (.seq (.reg [.tick 3,.act (some 147) [] (.call 114
 [.t 146]) [(146,.op (.load false 1 (.t 145)) [(145,.op (.fa 7 (.t 1)) [])])],.act (some 148) [] (.call 113 [.t 147,.c (.s (.str [44,32]))]) [],.set 3 (.op (.bin .add .num
 (.t 144) (.t 149)) [(144,.x (.t 3)),(149,.op (.bin .add .num (.c (.s (.str [32,71,82,79,85,80,32,66,89,32]))) (.t 148)) [])]),.tick 3] false) (.reg [.need [] (.op
 (.bin .add .num (.c (.s (.str [32,71,82,79,85,80,32,66,89,32]))) (.t 148)) [])] false)) .skip)) (.seq (.reg [.act (some 151) [] (.rows 1 [.str []] 0 []) [],.set 4 (.x
 (.t 151)),.tick 1] false) (.seq (.seq (.reg [.set 10 (.x (.c (.s (.int .i64 0)))),.tick 1] false) (.block 8 (.loop (.seq (.seq (.reg [.tick 5] false) (.cond (.op (.bin .lss
 .num (.t 152) (.t 155)) [(152,.x (.t 10)),(155,.op (.len (.sl 0) (.t 154)) [(154,.op (.load false 1 (.t 153)) [(153,.op (.fa 8 (.t 1)) [])])])]) .skip (.exit 8))) (.seq
 (.block 9 (.reg [.tick 7,.act (some 166) [] (.call 55 [.t 165]) [(165,.op (.load true 9 (.t 164)) [(164,.op (.fa 0 (.t 163)) [(163,.op (.ia (.sl 13) (.t 161) (.t 162)) [(161,
 .op (.load false 1 (.t 160)) [(160,.op (.fa 8 (.t 1)) [])]),(162,.x (.t 10))])])])],.need [] (.op (.bin .add .num (.t 166) (.c (.s (.str [32])))) []),.tick 7,.act (some
 174) [] (.call 28 [.t 173]) [(173,.op (.load false 1 (.t 172)) [(172,.op (.fa 9 (.t 171)) [(171,.op (.ia (.sl 13) (.t 169) (.t 170)) [(169,.op (.load false 1 (.t 168)) [(168,
 .op (.fa 8 (.t 1)) [])]),(170,.x (.t 10))])])])],.need [] (.op (.bin .add .num (.t 175) (.c (.s (.str [32])))) [(175,.op (.bin .add .num (.t 167) (.t 174)) [(167,.op (.bin
 .add .num (.t 166) (.c (.s (.str [32])))) [])])]),.tick 8,.act (some 183) [] (.call 124 [.t 182]) [(182,.op (.load true 3 (.t 181)) [(181,.op (.fa 10 (.t 180)) [(180,.op
 (.ia (.sl 13) (.t 178) (.t 179)) [(178,.op (.load false 1 (.t 177)) [(177,.op (.fa 8 (.t 1)) [])]),(179,.x (.t 10))])])])],.tick 1,.act (some 185) [] (.rows 1 [.str []] 1
 [(0,.t 184)]) [(184,.op (.bin .add .num (.t 176) (.t 183)) [(176,.op (.bin .add .num (.t 175) (.c (.s (.str [32])))) [(175,.op (.bin .add .num (.t 167) (.t 174)) [(167,.op
 (.bin .add .num (.t 166) (.c (.s (.str [32])))) [])])])])],.act (some 186) [] (.app 9 1 (.t 159) (.t 185)) [(159,.x (.t 4))],.set 4 (.x (.t 186)),.tick 1] true)) (.reg [.set
 10 (.op (.bin .add .num (.t 157) (.c (.s (.int .i64 1)))) [(157,.x (.t 10))]),.tick 3] false)))))) (.seq (.seq (.reg [.tick 3] false) (.cond (.op (.bin .gtr .num (.t 188) (.c
 (.s (.int .i64 0)))) [(188,.op (.len (.sl 0) (.t 187)) [(187,.x (.t 4))])]) (.seq (.reg [.tick 2,.act (some 192) [] (.call 113 [.t 191,.c (.s (.str [32,65,78,68,32]))])
 [(191,.x (.t 4))],.set 3 (.op (.bin .add .num (.t 190) (.t 193)) [(190,.x (.t 3)),(193,.op (.bin .add .num (.c (.s (.str [32,72,65,86,73,78,71,32]))) (.t 192)) [])]),
 .tick 3] false) (.reg [.need [] (.op (.bin .add .num (.c (.s (.str [32,72,65,86,73,78,71,32]))) (.t 192)) [])] false)) .skip)) (.seq (.reg [.set 2 (.x (.t 3)),.tick 2]
 false) .ret)))))))))))))))))
theorem f143:sF EE 143 [11,12,13,14,16,17,18,19,20,23,24,25,26,27,28,29,32,33,34,35,36,37,38,40,41,42,43,44,45,47,21,22,50,51,53,54,56,57,
 58,59,60,63,64,65,66,68,69,70,71,72,73,74,75,76,78,79,80,81,83,86,87,89,90,92,61,62,95,96,98,100,101,102,103,104,107,108,109,110,111,112,
 105,106,116,117,118,119,120,123,124,125,126,127,128,121,122,132,133,134,135,136,138,139,140,141,142,143,144,145,146,149,150,152,153,154,155,
 156,159,160,161,162,163,164,165,167,168,169,170,171,172,173,175,176,177,178,179,180,181,182,184,157,158,187,188,189,190,191,193,194,195]=some
 ⟨196,[.t 2],c143⟩:=by kernel_rfl
def c190:SC := .seq (.reg [.set 6 (.x (.c (.s (.str [])))),.tick 1] false) (.seq (.reg [.tick 2,.act (some 12) [] (.mks 9 1 [.str []] (.c (.s (.int .i64 0))) (.t 11)) [(11,.op
 (.len (.sl 0) (.t 10)) [(10,.x (.t 0))])],.set 7 (.x (.t 12)),.tick 1] false) (.seq (.seq (.reg [.set 13 (.x (.t 0)),.set 14 (.op (.len (.sl 0) (.t 13)) []),.set 15 (.x (.c
 (.s (.int .i64 0)))),.tick 3] false) (.block 0 (.loop (.seq (.reg [.tick 1] false) (.seq (.cond (.op (.bin .lss .num (.t 15) (.t 14)) []) .skip (.exit 0)) (.seq (.block 1 (.seq
 (.reg [.set 18 (.op (.load true 11 (.t 17)) [(17,.op (.ia (.sl 11) (.t 13) (.t 15)) [])]),.tick 2,.act (some 9) [] (.alloc 65 [.bool false,.int .i64 0,.int .i64 0,.int .i64
 0,.str [],.str [],.str [],.int .i64 0,.int .i64 0,.nils,.str []]) [],.act none [] (.store 11 (.t 9) (.t 18)) []] false) (.reg [.tick 3,.act (some 22) [] (.callv (.t 20)
 [.t 21]) [(20,.x (.t 2)),(21,.op (.load true 11 (.t 9)) [])],.act (some 23) [] (.rows 1 [.str []] 1 [(0,.t 22)]) [],.act (some 24) [] (.app 9 1 (.t 19) (.t 23)) [(19,.x
 (.t 7))],.set 7 (.x (.t 24)),.tick 1] false))) (.reg [.set 15 (.op (.bin .add .num (.t 15) (.c (.s (.int .i64 1)))) []),.tick 2] false))))))) (.seq (.reg [.tick 2,.act (some
 28) [] (.call 107 [.t 26,.t 27]) [(26,.x (.t 7)),(27,.x (.t 1))],.set 6 (.x (.t 28)),.tick 1] false) .ret)))
theorem f190:sF EE 190 [10,11,16,17,19,20,21,25,26,27]=some ⟨29,[.t 6],c190⟩:=by kernel_rfl
def c192:SC := .seq (.reg [.set 6 (.x (.c (.s (.str [])))),.tick 1] false) (.seq (.reg [.tick 2,.act (some 12) [] (.mks 9 1 [.str []] (.c (.s (.int .i64 0))) (.t 11)) [(11,.op
 (.len (.sl 0) (.t 10)) [(10,.x (.t 0))])],.set 7 (.x (.t 12)),.tick 1] false) (.seq (.seq (.reg [.set 13 (.x (.t 0)),.set 14 (.op (.len (.sl 0) (.t 13)) []),.set 15 (.x (.c
 (.s (.int .i64 0)))),.tick 3] false) (.block 0 (.loop (.seq (.reg [.tick 1] false) (.seq (.cond (.op (.bin .lss .num (.t 15) (.t 14)) []) .skip (.exit 0)) (.seq (.block 1 (.seq
 (.reg [.set 18 (.op (.load true 3 (.t 17)) [(17,.op (.ia (.sl 3) (.t 13) (.t 15)) [])]),.tick 2,.act (some 9) [] (.alloc 67 [.str [],.str [],.nils]) [],.act none [] (.store
 3 (.t 9) (.t 18)) []] false) (.reg [.tick 3,.act (some 22) [] (.callv (.t 20) [.t 21]) [(20,.x (.t 2)),(21,.op (.load true 3 (.t 9)) [])],.act (some 23) [] (.rows 1 [.str
 []] 1 [(0,.t 22)]) [],.act (some 24) [] (.app 9 1 (.t 19) (.t 23)) [(19,.x (.t 7))],.set 7 (.x (.t 24)),.tick 1] false))) (.reg [.set 15 (.op (.bin .add .num (.t 15) (.c (.s
 (.int .i64 1)))) []),.tick 2] false))))))) (.seq (.reg [.tick 2,.act (some 28) [] (.call 107 [.t 26,.t 27]) [(26,.x (.t 7)),(27,.x (.t 1))],.set 6 (.x (.t 28)),.tick 1]
 false) .ret)))
theorem f192:sF EE 192 [10,11,16,17,19,20,21,25,26,27]=some ⟨29,[.t 6],c192⟩:=by kernel_rfl
def c195:SC := .seq (.reg [.set 6 (.x (.c (.s (.str [])))),.tick 1] false) (.seq (.reg [.tick 2,.act (some 12) [] (.mks 9 1 [.str []] (.c (.s (.int .i64 0))) (.t 11)) [(11,.op
 (.len (.sl 0) (.t 10)) [(10,.x (.t 0))])],.set 7 (.x (.t 12)),.tick 1] false) (.seq (.seq (.reg [.set 13 (.x (.t 0)),.set 14 (.op (.len (.sl 0) (.t 13)) []),.set 15 (.x (.c
 (.s (.int .i64 0)))),.tick 3] false) (.block 0 (.loop (.seq (.reg [.tick 1] false) (.seq (.cond (.op (.bin .lss .num (.t 15) (.t 14)) []) .skip (.exit 0)) (.seq (.block 1 (.seq
 (.reg [.set 18 (.op (.load true 13 (.t 17)) [(17,.op (.ia (.sl 13) (.t 13) (.t 15)) [])]),.tick 2,.act (some 9) [] (.alloc 85 [.int .i64 0,.int .i64 0,.int .i64 0,.str [],
 .str [],.str [],.int .i64 0,.int .i64 0,.nils,.int .i64 0,.int .i64 0,.int .i64 0,.str []]) [],.act none [] (.store 13 (.t 9) (.t 18)) []] false) (.reg [.tick 3,.act
 (some 22) [] (.callv (.t 20) [.t 21]) [(20,.x (.t 2)),(21,.op (.load true 13 (.t 9)) [])],.act (some 23) [] (.rows 1 [.str []] 1 [(0,.t 22)]) [],.act (some 24) [] (.app 9 1
 (.t 19) (.t 23)) [(19,.x (.t 7))],.set 7 (.x (.t 24)),.tick 1] false))) (.reg [.set 15 (.op (.bin .add .num (.t 15) (.c (.s (.int .i64 1)))) []),.tick 2] false))))))) (.seq
 (.reg [.tick 2,.act (some 28) [] (.call 107 [.t 26,.t 27]) [(26,.x (.t 7)),(27,.x (.t 1))],.set 6 (.x (.t 28)),.tick 1] false) .ret)))
theorem f195:sF EE 195 [10,11,16,17,19,20,21,25,26,27]=some ⟨29,[.t 6],c195⟩:=by kernel_rfl
def c196:SC := .seq (.reg [.act (some 1) [] (.box 85 (.t 0)) [],.set 2 (.x (.c (.s (.str [])))),.tick 1] false) (.seq (.reg [.tick 2,.act (some 5) [] (.call 53 [.t 4]) [(4,
 .op (.load true 9 (.t 3)) [(3,.op (.fa 0 (.t 1)) [])])],.set 12 (.op (.bin .add .num (.t 11) (.c (.s (.str [32])))) [(11,.op (.bin .add .num (.t 6) (.t 10)) [(6,.op (.bin
 .add .num (.t 5) (.c (.s (.str [32])))) []),(10,.op (.load false 1 (.t 9)) [(9,.op (.ia (.arr 14 false 1) (.c (.eptr [[.str [43],.str [45],.str [42],.str [45],.str [124,
 124],.str [61],.str [60,62],.str [60],.str [60,61],.str [62],.str [62,61],.str [65,78,68],.str [79,82],.str [78,79,84]]] 0 0)) (.t 8)) [(8,.op (.load false 1
 (.t 7)) [(7,.op (.fa 9 (.t 1)) [])])])])])]),.tick 9,.act (some 15) [] (.call 121 [.t 14]) [(14,.op (.load true 3 (.t 13)) [(13,.op (.fa 10 (.t 1)) [])])],.set 2 (.op (.bin
 .add .num (.t 12) (.t 15)) []),.tick 2] true) .ret)
theorem f196:sF EE 196 [3,4,6,7,8,9,10,11,13,14,16]=some ⟨17,[.t 2],c196⟩:=by kernel_rfl
def c197:SC := .seq (.reg [.set 2 (.x (.c (.s (.str [])))),.tick 1] false) (.seq (.seq (.reg [.tick 2] false) (.cond (.op (.bin .eql .num (.t 3) (.c (.s (.str [])))) [(3,.x (.t
 0))]) (.seq (.reg [.set 2 (.x (.c (.s (.str [])))),.tick 1] false) .ret) .skip)) (.seq (.reg [.set 2 (.op (.bin .add .num (.c (.s (.str [32,65,83,32]))) (.t 5)) [(5,.x (.t
 0))]),.tick 3] false) .ret))
theorem f197:sF EE 197 [3,4,5,6]=some ⟨7,[.t 2],c197⟩:=by kernel_rfl
def c198:SC := .seq (.reg [.act (some 1) [] (.box 70 (.t 0)) [],.set 2 (.x (.c (.s (.str [])))),.tick 1] false) (.seq (.reg [.set 3 (.x (.c (.s (.str [])))),.tick 1] false)
 (.seq (.seq (.reg [.tick 2] false) (.cond (.op (.load false 1 (.t 6)) [(6,.op (.fa 0 (.t 1)) [])]) (.reg [.set 3 (.x (.c (.s (.str [78,79,84,32])))),.tick 1] false) .skip))
 (.seq (.reg [.tick 2,.act (some 10) [] (.call 63 [.t 9]) [(9,.op (.load true 10 (.t 8)) [(8,.op (.fa 2 (.t 1)) [])])],.set 4 (.op (.bin .add .num (.t 11) (.c (.s (.str
 [41])))) [(11,.op (.bin .add .num (.c (.s (.str [40]))) (.t 10)) [])]),.tick 3] false) (.seq (.seq (.reg [.tick 4] false) (.cond (.op (.bin .eql .num (.t 15) (.c (.s (.int .i64
 0)))) [(15,.op (.len (.sl 0) (.t 14)) [(14,.op (.load false 1 (.t 13)) [(13,.op (.fa 1 (.t 1)) [])])])]) (.seq (.reg [.set 2 (.op (.bin .add .num (.t 18) (.t 19)) [(18,.op
 (.bin .add .num (.t 17) (.c (.s (.str [69,88,73,83,84,83,32])))) [(17,.x (.t 3))]),(19,.x (.t 4))]),.tick 5] false) .ret) .skip)) (.seq (.reg [.tick 2,.act (some 23)
 [] (.call 114 [.t 22]) [(22,.op (.load false 1 (.t 21)) [(21,.op (.fa 1 (.t 1)) [])])],.act (some 24) [] (.call 113 [.t 23,.c (.s (.str [44,32]))]) [],.set 5 (.op (.bin
 .add .num (.t 25) (.c (.s (.str [41])))) [(25,.op (.bin .add .num (.c (.s (.str [40]))) (.t 24)) [])]),.tick 3] false) (.seq (.seq (.reg [.tick 4] false) (.cond (.op (.bin .eql
 .num (.t 29) (.c (.s (.int .i64 1)))) [(29,.op (.len (.sl 0) (.t 28)) [(28,.op (.load false 1 (.t 27)) [(27,.op (.fa 1 (.t 1)) [])])])]) (.reg [.tick 4,.act (some 35) []
 (.call 125 [.t 34,.c (.s (.int .i64 5))]) [(34,.op (.load true 9 (.t 33)) [(33,.op (.ia (.sl 9) (.t 32) (.c (.s (.int .i64 0)))) [(32,.op (.load false 1 (.t 31)) [(31,.op
 (.fa 1 (.t 1)) [])])])])],.set 5 (.x (.t 35)),.tick 1] false) .skip)) (.seq (.reg [.set 2 (.op (.bin .add .num (.t 40) (.t 41)) [(40,.op (.bin .add .num (.t 39) (.c (.s (.str
 [73,78,32])))) [(39,.op (.bin .add .num (.t 37) (.t 38)) [(37,.op (.bin .add .num (.t 36) (.c (.s (.str [32])))) [(36,.x (.t 5))]),(38,.x (.t 3))])]),(41,.x (.t 4))]),
 .tick 8] false) .ret)))))))
theorem f198:sF EE 198 [6,7,8,9,11,12,13,14,15,16,17,18,19,20,21,22,25,26,27,28,29,30,31,32,33,34,36,37,38,39,40,41,42]=some ⟨43,[.t 2],c198⟩
 := by kernel_rfl
def c221:SC := .seq (.reg [.set 4 (.x (.c (.s (.str [])))),.tick 1] false) (.seq (.seq (.reg [.tick 2] false) (.cond (.op (.bin .eql .num (.t 5) (.c (.s (.str [])))) [(5,.x (.t
 1))]) (.seq (.reg [.set 4 (.x (.t 0)),.tick 2] false) .ret) .skip)) (.seq (.reg [.set 4 (.op (.bin .add .num (.t 9) (.t 10)) [(9,.op (.bin .add .num (.t 8) (.c (.s (.str [32,
 65,83,32])))) [(8,.x (.t 0))]),(10,.x (.t 1))]),.tick 5] false) .ret))
theorem f221:sF EE 221 [5,6,7,8,9,10,11]=some ⟨12,[.t 4],c221⟩:=by kernel_rfl
end Go.Vm
