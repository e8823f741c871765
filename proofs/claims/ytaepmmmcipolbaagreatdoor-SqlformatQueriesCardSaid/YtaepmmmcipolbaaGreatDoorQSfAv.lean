/- The functions of chapter 24, as statements of the machine: validity and size of queries. -/
import Derived.Test.YtaepmmmcipolbaaGreatDoorQSfAe
set_option linter.unusedVariables false
set_option maxRecDepth 100000
namespace Go.Vm
open Go.Proofs
def c17:SC := .seq (.reg [.act (some 1) [] (.box 38 (.t 0)) [],.set 2 (.x (.c (.s (.bool false)))),.tick 1] false) (.seq (.reg [.set 4 (.op (.load true 10 (.t 1)) []),.tick 1,
 .act (some 3) [] (.alloc 38 [.int .i64 0,.nils,.bool false,.nils,.nils,.nils,.nils,.nils,.nils,.nils]) [],.act none [] (.store 10 (.t 3) (.t 4)) []] false) (.seq (.reg
 [.tick 1,.act none [] (.store 1 (.t 5) (.c (.s .nils))) [(5,.op (.fa 1 (.t 3)) [])]] false) (.seq (.reg [.tick 2,.act (some 8) [] (.call 57 [.t 7,.c (.s (.func 58))]) [(7,
 .op (.load false 1 (.t 6)) [(6,.op (.fa 1 (.t 1)) [])])],.tick 2,.act (some 11) [(.x (.t 8),true)] (.call 59 [.t 10]) [(10,.op (.load true 10 (.t 3)) [])],.set 2 (.pick (.x
 (.t 8)) (.x (.t 11)) (.x (.c (.s (.bool false))))),.tick 2] false) .ret)))
theorem f17:sF EE 17 [5,6,7,9,10,12]=some ⟨13,[.t 2],c17⟩:=by kernel_rfl
def c18:SC := .seq (.reg [.act (some 1) [] (.box 38 (.t 0)) [],.set 2 (.x (.c (.s (.bool false)))),.tick 1] false) (.seq (.seq (.reg [.set 3 (.x (.c (.s (.int .i64 0)))),.tick
 1] false) (.block 0 (.loop (.seq (.seq (.reg [.tick 5] false) (.cond (.op (.bin .lss .num (.t 5) (.t 8)) [(5,.x (.t 3)),(8,.op (.len (.sl 0) (.t 7)) [(7,.op (.load false 1
 (.t 6)) [(6,.op (.fa 1 (.t 1)) [])])])]) .skip (.exit 0))) (.seq (.block 1 (.seq (.reg [.set 16 (.op (.load true 22 (.t 15)) [(15,.op (.ia (.sl 22) (.t 13) (.t 14)) [(13,.op
 (.load false 1 (.t 12)) [(12,.op (.fa 1 (.t 1)) [])]),(14,.x (.t 3))])]),.tick 5,.act (some 4) [] (.alloc 80 [.str [],.nils,.int .i64 0,.nils,.bool false,.nils,.nils,
 .nils,.nils,.nils,.nils,.nils,.int .i64 0,.nils,.bool false,.nils,.nils,.nils,.nils,.nils,.nils,.nils]) [],.act none [] (.store 22 (.t 4) (.t 16)) []] false) (.seq
 (.reg [.tick 2,.act (some 19) [] (.call 48 [.t 18]) [(18,.op (.load false 1 (.t 17)) [(17,.op (.fa 0 (.t 4)) [])])],.set 27 (.pick (.op (.un .not (.t 19)) []) (.x (.c (.s
 (.bool true)))) (.op (.bin .eql .num (.t 24) (.c (.s (.int .i64 0)))) [(24,.op (.len (.sl 0) (.t 23)) [(23,.op (.load false 1 (.t 22)) [(22,.op (.fa 1 (.t 4)) [])])])])),
 .tick 10,.act (some 30) [(.x (.t 27),false)] (.call 60 [.t 29]) [(29,.op (.load false 1 (.t 28)) [(28,.op (.fa 1 (.t 4)) [])])],.need [] (.pick (.x (.t 27)) (.x (.c (.s
 (.bool true)))) (.op (.un .not (.t 30)) [])),.need [(.x (.t 27),false)] (.op (.un .not (.t 30)) []),.tick 5,.act (some 36) [(.pick (.x (.t 27)) (.x (.c (.s (.bool true))))
 (.op (.un .not (.t 30)) []),false)] (.call 61 [.t 35]) [(35,.op (.load true 10 (.t 34)) [(34,.op (.fa 2 (.t 4)) [])])],.need [] (.pick (.pick (.x (.t 27)) (.x (.c (.s (.bool
 true)))) (.op (.un .not (.t 30)) [])) (.x (.c (.s (.bool true)))) (.op (.un .not (.t 36)) [])),.tick 5,.act (some 42) [(.pick (.pick (.x (.t 27)) (.x (.c (.s (.bool true))))
 (.op (.un .not (.t 30)) [])) (.x (.c (.s (.bool true)))) (.op (.un .not (.t 36)) []),false)] (.call 61 [.t 41]) [(41,.op (.load true 10 (.t 40)) [(40,.op (.fa 12 (.t 4))
 [])])],.tick 2] false) (.cond (.pick (.pick (.pick (.x (.t 27)) (.x (.c (.s (.bool true)))) (.op (.un .not (.t 30)) [])) (.x (.c (.s (.bool true)))) (.op (.un .not (.t 36)) []))
 (.x (.c (.s (.bool true)))) (.op (.un .not (.t 42)) [])) (.seq (.reg [.set 2 (.x (.c (.s (.bool false)))),.tick 1] false) .ret) .skip)))) (.reg [.set 3 (.op (.bin .add .num (.t
 10) (.c (.s (.int .i64 1)))) [(10,.x (.t 3))]),.tick 3] false)))))) (.seq (.reg [.tick 1,.act none [] (.store 1 (.t 45) (.c (.s .nils))) [(45,.op (.fa 1 (.t 1)) [])]] false)
 (.seq (.reg [.tick 1,.act (some 47) [] (.call 61 [.t 46]) [(46,.op (.load true 10 (.t 1)) [])],.set 2 (.x (.t 47)),.tick 1] false) .ret)))
theorem f18:sF EE 18 [5,6,7,8,9,12,13,14,15,17,18,20,21,22,23,24,25,26,28,29,31,32,33,34,35,37,38,39,40,41,43,44,10,11,45,46]=some ⟨48,[.t
 2],c18⟩:=by kernel_rfl
def c21:SC := .seq (.reg [.act (some 1) [] (.box 38 (.t 0)) [],.set 2 (.x (.c (.s (.int .i64 0)))),.tick 1] false) (.seq (.reg [.tick 2,.act (some 19) [] (.call 64 [.t 18])
 [(18,.op (.load false 1 (.t 17)) [(17,.op (.fa 5 (.t 1)) [])])],.need [] (.op (.bin .add .num (.c (.s (.int .i64 1))) (.t 19)) []),.tick 3,.act (some 23) [] (.call 64 [.t
 22]) [(22,.op (.load false 1 (.t 21)) [(21,.op (.fa 7 (.t 1)) [])])],.set 3 (.op (.bin .add .num (.t 20) (.t 23)) [(20,.op (.bin .add .num (.c (.s (.int .i64 1))) (.t 19))
 [])]),.tick 2] true) (.seq (.seq (.reg [.set 26 (.op (.load false 1 (.t 25)) [(25,.op (.fa 3 (.t 1)) [])]),.set 27 (.op (.len (.sl 0) (.t 26)) []),.set 28 (.x (.c (.s (.int
 .i64 0)))),.tick 4] false) (.block 0 (.loop (.seq (.reg [.tick 1] false) (.seq (.cond (.op (.bin .lss .num (.t 28) (.t 27)) []) .skip (.exit 0)) (.seq (.block 1 (.seq (.reg
 [.set 31 (.op (.load true 11 (.t 30)) [(30,.op (.ia (.sl 11) (.t 26) (.t 28)) [])]),.tick 2,.act (some 5) [] (.alloc 65 [.bool false,.int .i64 0,.int .i64 0,.int .i64 0,
 .str [],.str [],.str [],.int .i64 0,.int .i64 0,.nils,.str []]) [],.act none [] (.store 11 (.t 5) (.t 31)) []] false) (.seq (.reg [.tick 3] false) (.cond (.op (.un .not
 (.t 33)) [(33,.op (.load false 1 (.t 32)) [(32,.op (.fa 0 (.t 5)) [])])]) (.seq (.reg [.tick 4,.act (some 39) [] (.call 64 [.t 38]) [(38,.op (.load false 1 (.t 37)) [(37,.op
 (.fa 8 (.t 36)) [(36,.op (.fa 1 (.t 5)) [])])])],.set 3 (.op (.bin .add .num (.t 35) (.t 40)) [(35,.x (.t 3)),(40,.op (.bin .add .num (.c (.s (.int .i64 1))) (.t 39)) [])]),
 .tick 3] false) (.reg [.need [] (.op (.bin .add .num (.c (.s (.int .i64 1))) (.t 39)) [])] false)) .skip)))) (.reg [.set 28 (.op (.bin .add .num (.t 28) (.c (.s (.int .i64 1))))
 []),.tick 2] false))))))) (.seq (.seq (.reg [.set 44 (.op (.load false 1 (.t 43)) [(43,.op (.fa 8 (.t 1)) [])]),.set 45 (.op (.len (.sl 0) (.t 44)) []),.set 46 (.x (.c (.s
 (.int .i64 0)))),.tick 4] false) (.block 2 (.loop (.seq (.reg [.tick 1] false) (.seq (.cond (.op (.bin .lss .num (.t 46) (.t 45)) []) .skip (.exit 2)) (.seq (.block 3 (.seq
 (.seq (.reg [.set 49 (.op (.load true 13 (.t 48)) [(48,.op (.ia (.sl 13) (.t 44) (.t 46)) [])]),.tick 2,.act (some 7) [] (.alloc 85 [.int .i64 0,.int .i64 0,.int .i64 0,
 .str [],.str [],.str [],.int .i64 0,.int .i64 0,.nils,.int .i64 0,.int .i64 0,.int .i64 0,.str []]) [],.act none [] (.store 13 (.t 7) (.t 49)) []] false) (.reg [.tick
 4,.act (some 54) [] (.call 64 [.t 53]) [(53,.op (.load false 1 (.t 52)) [(52,.op (.fa 8 (.t 51)) [(51,.op (.fa 0 (.t 7)) [])])])],.set 3 (.op (.bin .add .num (.t 50) (.t
 55)) [(50,.x (.t 3)),(55,.op (.bin .add .num (.c (.s (.int .i64 1))) (.t 54)) [])]),.tick 3] false)) (.reg [.need [] (.op (.bin .add .num (.c (.s (.int .i64 1))) (.t 54))
 [])] false))) (.reg [.set 46 (.op (.bin .add .num (.t 46) (.c (.s (.int .i64 1)))) []),.tick 2] false))))))) (.seq (.reg [.tick 2,.act (some 60) [] (.call 65 [.t 59]) [(59,.op
 (.load false 1 (.t 58)) [(58,.op (.fa 9 (.t 1)) [])])],.set 8 (.x (.t 60)),.tick 1] false) (.seq (.seq (.reg [.set 62 (.op (.load false 1 (.t 61)) [(61,.op (.fa 1 (.t 1))
 [])]),.set 63 (.op (.len (.sl 0) (.t 62)) []),.set 64 (.x (.c (.s (.int .i64 0)))),.tick 4] false) (.block 4 (.loop (.seq (.reg [.tick 1] false) (.seq (.cond (.op (.bin .lss
 .num (.t 64) (.t 63)) []) .skip (.exit 4)) (.seq (.block 5 (.seq (.reg [.set 67 (.op (.load true 22 (.t 66)) [(66,.op (.ia (.sl 22) (.t 62) (.t 64)) [])]),.tick 2,.act (some
 10) [] (.alloc 80 [.str [],.nils,.int .i64 0,.nils,.bool false,.nils,.nils,.nils,.nils,.nils,.nils,.nils,.int .i64 0,.nils,.bool false,.nils,.nils,.nils,.nils,
 .nils,.nils,.nils]) [],.act none [] (.store 22 (.t 10) (.t 67)) []] false) (.reg [.tick 5,.act (some 73) [] (.rows 10 [.int .i64 0,.nils,.bool false,.nils,.nils,.nils,
 .nils,.nils,.nils,.nils] 2 [(0,.t 70),(1,.t 72)]) [(70,.op (.load true 10 (.t 69)) [(69,.op (.fa 2 (.t 10)) [])]),(72,.op (.load true 10 (.t 71)) [(71,.op (.fa 12 (.t
 10)) [])])],.act (some 74) [] (.app 38 10 (.t 68) (.t 73)) [(68,.x (.t 8))],.set 8 (.x (.t 74)),.tick 1] false))) (.reg [.set 64 (.op (.bin .add .num (.t 64) (.c (.s (.int
 .i64 1)))) []),.tick 2] false))))))) (.seq (.seq (.reg [.set 77 (.op (.load false 1 (.t 76)) [(76,.op (.fa 4 (.t 1)) [])]),.set 78 (.op (.len (.sl 0) (.t 77)) []),.set 79 (.x
 (.c (.s (.int .i64 0)))),.tick 4] false) (.block 6 (.loop (.seq (.reg [.tick 1] false) (.seq (.cond (.op (.bin .lss .num (.t 79) (.t 78)) []) .skip (.exit 6)) (.seq (.block 7
 (.seq (.reg [.set 82 (.op (.load true 3 (.t 81)) [(81,.op (.ia (.sl 3) (.t 77) (.t 79)) [])]),.tick 2,.act (some 12) [] (.alloc 67 [.str [],.str [],.nils]) [],.act none []
 (.store 3 (.t 12) (.t 82)) []] false) (.reg [.tick 3,.act (some 86) [] (.app 38 10 (.t 83) (.t 85)) [(83,.x (.t 8)),(85,.op (.load false 1 (.t 84)) [(84,.op (.fa 2 (.t 12))
 [])])],.set 8 (.x (.t 86)),.tick 1] false))) (.reg [.set 79 (.op (.bin .add .num (.t 79) (.c (.s (.int .i64 1)))) []),.tick 2] false))))))) (.seq (.seq (.reg [.set 89 (.op
 (.load false 1 (.t 88)) [(88,.op (.fa 6 (.t 1)) [])]),.set 90 (.op (.len (.sl 0) (.t 89)) []),.set 91 (.x (.c (.s (.int .i64 0)))),.tick 4] false) (.block 8 (.loop (.seq
 (.reg [.tick 1] false) (.seq (.cond (.op (.bin .lss .num (.t 91) (.t 90)) []) .skip (.exit 8)) (.seq (.block 9 (.seq (.reg [.set 94 (.op (.load true 12 (.t 93)) [(93,.op (.ia
 (.sl 12) (.t 89) (.t 91)) [])]),.tick 2,.act (some 14) [] (.alloc 70 [.bool false,.nils,.int .i64 0,.nils,.bool false,.nils,.nils,.nils,.nils,.nils,.nils,.nils]) [],
 .act none [] (.store 12 (.t 14) (.t 94)) []] false) (.seq (.reg [.tick 3,.act (some 98) [] (.call 64 [.t 97]) [(97,.op (.load false 1 (.t 96)) [(96,.op (.fa 1 (.t 14)) [])])],
 .set 3 (.op (.bin .add .num (.t 95) (.t 98)) [(95,.x (.t 3))]),.tick 2] false) (.reg [.tick 3,.act (some 103) [] (.rows 10 [.int .i64 0,.nils,.bool false,.nils,.nils,
 .nils,.nils,.nils,.nils,.nils] 1 [(0,.t 102)]) [(102,.op (.load true 10 (.t 101)) [(101,.op (.fa 2 (.t 14)) [])])],.act (some 104) [] (.app 38 10 (.t 100) (.t 103))
 [(100,.x (.t 8))],.set 8 (.x (.t 104)),.tick 1] false)))) (.reg [.set 91 (.op (.bin .add .num (.t 91) (.c (.s (.int .i64 1)))) []),.tick 2] false))))))) (.seq (.seq (.reg
 [.set 106 (.x (.t 8)),.set 107 (.op (.len (.sl 0) (.t 106)) []),.set 108 (.x (.c (.s (.int .i64 0)))),.tick 3] false) (.block 10 (.loop (.seq (.reg [.tick 1] false) (.seq
 (.cond (.op (.bin .lss .num (.t 108) (.t 107)) []) .skip (.exit 10)) (.seq (.block 11 (.seq (.reg [.set 111 (.op (.load true 10 (.t 110)) [(110,.op (.ia (.sl 10) (.t 106) (.t
 108)) [])]),.tick 2,.act (some 16) [] (.alloc 38 [.int .i64 0,.nils,.bool false,.nils,.nils,.nils,.nils,.nils,.nils,.nils]) [],.act none [] (.store 10 (.t 16) (.t
 111)) []] false) (.reg [.tick 2,.act (some 114) [] (.call 21 [.t 113]) [(113,.op (.load true 10 (.t 16)) [])],.set 3 (.op (.bin .add .num (.t 112) (.t 114)) [(112,.x (.t
 3))]),.tick 2] false))) (.reg [.set 108 (.op (.bin .add .num (.t 108) (.c (.s (.int .i64 1)))) []),.tick 2] false))))))) (.seq (.reg [.set 2 (.x (.t 3)),.tick 2] false)
 .ret)))))))))
theorem f21:sF EE 21 [17,18,20,21,22,24,25,29,30,32,33,34,35,36,37,38,40,41,42,43,47,48,50,51,52,53,55,56,57,58,59,61,65,66,68,69,70,71,72,
 75,76,80,81,83,84,85,87,88,92,93,95,96,97,99,100,101,102,105,109,110,112,113,115,116,117]=some ⟨118,[.t 2],c21⟩:=by kernel_rfl
def c22:SC := .seq (.reg [.act (some 1) [] (.box 38 (.t 0)) [],.set 2 (.x (.c (.s (.int .i64 0)))),.tick 1] false) (.seq (.reg [.tick 2,.act (some 13) [] (.call 66 [.t 12])
 [(12,.op (.load false 1 (.t 11)) [(11,.op (.fa 5 (.t 1)) [])])],.need [] (.op (.bin .add .num (.c (.s (.int .i64 1))) (.t 13)) []),.tick 3,.act (some 17) [] (.call 66 [.t
 16]) [(16,.op (.load false 1 (.t 15)) [(15,.op (.fa 7 (.t 1)) [])])],.set 3 (.op (.bin .add .num (.t 14) (.t 17)) [(14,.op (.bin .add .num (.c (.s (.int .i64 1))) (.t 13))
 [])]),.tick 2] true) (.seq (.seq (.reg [.set 4 (.x (.c (.s (.int .i64 0)))),.tick 1] false) (.block 0 (.loop (.seq (.seq (.reg [.tick 5] false) (.cond (.op (.bin .lss .num (.t
 19) (.t 22)) [(19,.x (.t 4)),(22,.op (.len (.sl 0) (.t 21)) [(21,.op (.load false 1 (.t 20)) [(20,.op (.fa 1 (.t 1)) [])])])]) .skip (.exit 0))) (.seq (.block 1 (.seq (.reg
 [.tick 7,.act (some 33) [] (.call 22 [.t 32]) [(32,.op (.load true 10 (.t 31)) [(31,.op (.fa 2 (.t 30)) [(30,.op (.ia (.sl 22) (.t 28) (.t 29)) [(28,.op (.load false 1 (.t
 27)) [(27,.op (.fa 1 (.t 1)) [])]),(29,.x (.t 4))])])])],.tick 6,.act (some 40) [] (.call 22 [.t 39]) [(39,.op (.load true 10 (.t 38)) [(38,.op (.fa 12 (.t 37)) [(37,.op
 (.ia (.sl 22) (.t 35) (.t 36)) [(35,.op (.load false 1 (.t 34)) [(34,.op (.fa 1 (.t 1)) [])]),(36,.x (.t 4))])])])],.set 3 (.op (.bin .add .num (.t 26) (.t 41)) [(26,.x (.t
 3)),(41,.op (.bin .add .num (.t 33) (.t 40)) [])]),.tick 3] true) (.reg [.need [] (.op (.bin .add .num (.t 33) (.t 40)) [])] false))) (.reg [.set 4 (.op (.bin .add .num (.t
 24) (.c (.s (.int .i64 1)))) [(24,.x (.t 4))]),.tick 3] false)))))) (.seq (.seq (.reg [.set 5 (.x (.c (.s (.int .i64 0)))),.tick 1] false) (.block 2 (.loop (.seq (.seq (.reg
 [.tick 5] false) (.cond (.op (.bin .lss .num (.t 43) (.t 46)) [(43,.x (.t 5)),(46,.op (.len (.sl 0) (.t 45)) [(45,.op (.load false 1 (.t 44)) [(44,.op (.fa 3 (.t 1))
 [])])])]) .skip (.exit 2))) (.seq (.block 3 (.seq (.reg [.tick 7] false) (.cond (.op (.un .not (.t 55)) [(55,.op (.load false 1 (.t 54)) [(54,.op (.fa 0 (.t 53)) [(53,.op (.ia
 (.sl 11) (.t 51) (.t 52)) [(51,.op (.load false 1 (.t 50)) [(50,.op (.fa 3 (.t 1)) [])]),(52,.x (.t 5))])])])]) (.reg [.tick 7,.act (some 64) [] (.rows 9 [.int .i64 0,.int
 .i64 0,.int .i64 0,.str [],.str [],.str [],.int .i64 0,.int .i64 0,.nils] 1 [(0,.t 63)]) [(63,.op (.load true 9 (.t 62)) [(62,.op (.fa 1 (.t 61)) [(61,.op (.ia (.sl
 11) (.t 59) (.t 60)) [(59,.op (.load false 1 (.t 58)) [(58,.op (.fa 3 (.t 1)) [])]),(60,.x (.t 5))])])])],.act (some 65) [] (.call 66 [.t 64]) [],.set 3 (.op (.bin .add
 .num (.t 57) (.t 65)) [(57,.x (.t 3))]),.tick 2] false) .skip))) (.reg [.set 5 (.op (.bin .add .num (.t 48) (.c (.s (.int .i64 1)))) [(48,.x (.t 5))]),.tick 3] false))))))
 (.seq (.seq (.reg [.set 6 (.x (.c (.s (.int .i64 0)))),.tick 1] false) (.block 4 (.loop (.seq (.seq (.reg [.tick 5] false) (.cond (.op (.bin .lss .num (.t 67) (.t 70)) [(67,.x
 (.t 6)),(70,.op (.len (.sl 0) (.t 69)) [(69,.op (.load false 1 (.t 68)) [(68,.op (.fa 4 (.t 1)) [])])])]) .skip (.exit 4))) (.seq (.block 5 (.seq (.reg [.set 7 (.x (.c (.s
 (.int .i64 0)))),.tick 1] false) (.block 6 (.loop (.seq (.seq (.reg [.tick 9] false) (.cond (.op (.bin .lss .num (.t 74) (.t 81)) [(74,.x (.t 7)),(81,.op (.len (.sl 0) (.t
 80)) [(80,.op (.load false 1 (.t 79)) [(79,.op (.fa 2 (.t 78)) [(78,.op (.ia (.sl 3) (.t 76) (.t 77)) [(76,.op (.load false 1 (.t 75)) [(75,.op (.fa 4 (.t 1)) [])]),(77,.x
 (.t 6))])])])])]) .skip (.exit 6))) (.seq (.block 7 (.reg [.tick 10,.act (some 95) [] (.call 22 [.t 94]) [(94,.op (.load true 10 (.t 93)) [(93,.op (.ia (.sl 10) (.t 91) (.t
 92)) [(91,.op (.load false 1 (.t 90)) [(90,.op (.fa 2 (.t 89)) [(89,.op (.ia (.sl 3) (.t 87) (.t 88)) [(87,.op (.load false 1 (.t 86)) [(86,.op (.fa 4 (.t 1)) [])]),(88,.x
 (.t 6))])])]),(92,.x (.t 7))])])],.set 3 (.op (.bin .add .num (.t 85) (.t 95)) [(85,.x (.t 3))]),.tick 2] false)) (.reg [.set 7 (.op (.bin .add .num (.t 83) (.c (.s (.int
 .i64 1)))) [(83,.x (.t 7))]),.tick 3] false))))))) (.reg [.set 6 (.op (.bin .add .num (.t 72) (.c (.s (.int .i64 1)))) [(72,.x (.t 6))]),.tick 3] false)))))) (.seq (.seq
 (.reg [.set 8 (.x (.c (.s (.int .i64 0)))),.tick 1] false) (.block 8 (.loop (.seq (.seq (.reg [.tick 5] false) (.cond (.op (.bin .lss .num (.t 97) (.t 100)) [(97,.x (.t 8)),
 (100,.op (.len (.sl 0) (.t 99)) [(99,.op (.load false 1 (.t 98)) [(98,.op (.fa 6 (.t 1)) [])])])]) .skip (.exit 8))) (.seq (.block 9 (.seq (.reg [.tick 7,.act (some 111) []
 (.call 66 [.t 110]) [(110,.op (.load false 1 (.t 109)) [(109,.op (.fa 1 (.t 108)) [(108,.op (.ia (.sl 12) (.t 106) (.t 107)) [(106,.op (.load false 1 (.t 105)) [(105,.op
 (.fa 6 (.t 1)) [])]),(107,.x (.t 8))])])])],.tick 6,.act (some 118) [] (.call 22 [.t 117]) [(117,.op (.load true 10 (.t 116)) [(116,.op (.fa 2 (.t 115)) [(115,.op (.ia
 (.sl 12) (.t 113) (.t 114)) [(113,.op (.load false 1 (.t 112)) [(112,.op (.fa 6 (.t 1)) [])]),(114,.x (.t 8))])])])],.set 3 (.op (.bin .add .num (.t 104) (.t 119)) [(104,.x
 (.t 3)),(119,.op (.bin .add .num (.t 111) (.t 118)) [])]),.tick 3] true) (.reg [.need [] (.op (.bin .add .num (.t 111) (.t 118)) [])] false))) (.reg [.set 8 (.op (.bin .add
 .num (.t 102) (.c (.s (.int .i64 1)))) [(102,.x (.t 8))]),.tick 3] false)))))) (.seq (.seq (.reg [.set 9 (.x (.c (.s (.int .i64 0)))),.tick 1] false) (.block 10 (.loop (.seq
 (.seq (.reg [.tick 5] false) (.cond (.op (.bin .lss .num (.t 121) (.t 124)) [(121,.x (.t 9)),(124,.op (.len (.sl 0) (.t 123)) [(123,.op (.load false 1 (.t 122)) [(122,.op
 (.fa 8 (.t 1)) [])])])]) .skip (.exit 10))) (.seq (.block 11 (.reg [.tick 7,.act (some 135) [] (.rows 9 [.int .i64 0,.int .i64 0,.int .i64 0,.str [],.str [],.str [],.int
 .i64 0,.int .i64 0,.nils] 1 [(0,.t 134)]) [(134,.op (.load true 9 (.t 133)) [(133,.op (.fa 0 (.t 132)) [(132,.op (.ia (.sl 13) (.t 130) (.t 131)) [(130,.op (.load false 1
 (.t 129)) [(129,.op (.fa 8 (.t 1)) [])]),(131,.x (.t 9))])])])],.act (some 136) [] (.call 66 [.t 135]) [],.set 3 (.op (.bin .add .num (.t 128) (.t 136)) [(128,.x (.t 3))]),
 .tick 2] false)) (.reg [.set 9 (.op (.bin .add .num (.t 126) (.c (.s (.int .i64 1)))) [(126,.x (.t 9))]),.tick 3] false)))))) (.seq (.seq (.reg [.set 10 (.x (.c (.s (.int .i64
 0)))),.tick 1] false) (.block 12 (.loop (.seq (.seq (.reg [.tick 5] false) (.cond (.op (.bin .lss .num (.t 138) (.t 141)) [(138,.x (.t 10)),(141,.op (.len (.sl 0) (.t 140))
 [(140,.op (.load false 1 (.t 139)) [(139,.op (.fa 9 (.t 1)) [])])])]) .skip (.exit 12))) (.seq (.block 13 (.reg [.tick 6,.act (some 151) [] (.call 22 [.t 150]) [(150,.op
 (.load true 10 (.t 149)) [(149,.op (.ia (.sl 10) (.t 147) (.t 148)) [(147,.op (.load false 1 (.t 146)) [(146,.op (.fa 9 (.t 1)) [])]),(148,.x (.t 10))])])],.set 3 (.op
 (.bin .add .num (.t 145) (.t 151)) [(145,.x (.t 3))]),.tick 2] false)) (.reg [.set 10 (.op (.bin .add .num (.t 143) (.c (.s (.int .i64 1)))) [(143,.x (.t 10))]),.tick 3]
 false)))))) (.seq (.reg [.set 2 (.x (.t 3)),.tick 2] false) .ret))))))))
theorem f22:sF EE 22 [11,12,14,15,16,18,19,20,21,22,23,26,27,28,29,30,31,32,34,35,36,37,38,39,41,42,24,25,43,44,45,46,47,50,51,52,53,54,55,
 56,57,58,59,60,61,62,63,66,48,49,67,68,69,70,71,74,75,76,77,78,79,80,81,82,85,86,87,88,89,90,91,92,93,94,96,83,84,72,73,97,98,99,100,
 101,104,105,106,107,108,109,110,112,113,114,115,116,117,119,120,102,103,121,122,123,124,125,128,129,130,131,132,133,134,137,126,127,138,139,
 140,141,142,145,146,147,148,149,150,152,143,144,153]=some ⟨154,[.t 2],c22⟩:=by kernel_rfl
def c57:SC := .seq (.reg [.act (some 3) [] (.box 81 (.t 1)) [],.set 4 (.x (.c (.s (.bool false)))),.tick 1] false) (.seq (.reg [.tick 2,.act (some 7) [] (.call 126 [.t 5,.t
 6]) [(5,.x (.t 0)),(6,.op (.mkf 127 [] [.t 3]) [])],.set 4 (.op (.un .not (.t 7)) []),.tick 2] false) .ret)
theorem f57:sF EE 57 [5,6,8]=some ⟨9,[.t 4],c57⟩:=by kernel_rfl
def c58:SC := .seq (.reg [.act (some 1) [] (.box 80 (.t 0)) [],.set 2 (.x (.c (.s (.bool false)))),.tick 1] false) (.seq (.reg [.tick 2,.act (some 5) [] (.call 42 [.t 4]) [(4,
 .op (.load false 1 (.t 3)) [(3,.op (.fa 0 (.t 1)) [])])],.set 12 (.pick (.x (.t 5)) (.op (.bin .gtr .num (.t 9) (.c (.s (.int .i64 0)))) [(9,.op (.len (.sl 0) (.t 8)) [(8,.op
 (.load false 1 (.t 7)) [(7,.op (.fa 1 (.t 1)) [])])])]) (.x (.c (.s (.bool false))))),.tick 9,.act (some 15) [(.x (.t 12),true)] (.call 94 [.t 14,.c (.s (.func 42))]) [(14,
 .op (.load false 1 (.t 13)) [(13,.op (.fa 1 (.t 1)) [])])],.need [] (.pick (.x (.t 12)) (.x (.t 15)) (.x (.c (.s (.bool false))))),.tick 4,.act (some 20) [(.pick (.x (.t 12))
 (.x (.t 15)) (.x (.c (.s (.bool false)))),true)] (.call 59 [.t 19]) [(19,.op (.load true 10 (.t 18)) [(18,.op (.fa 2 (.t 1)) [])])],.need [] (.pick (.pick (.x (.t 12)) (.x
 (.t 15)) (.x (.c (.s (.bool false))))) (.x (.t 20)) (.x (.c (.s (.bool false))))),.tick 4,.act (some 25) [(.pick (.pick (.x (.t 12)) (.x (.t 15)) (.x (.c (.s (.bool false)))))
 (.x (.t 20)) (.x (.c (.s (.bool false)))),true)] (.call 59 [.t 24]) [(24,.op (.load true 10 (.t 23)) [(23,.op (.fa 12 (.t 1)) [])])],.set 2 (.pick (.pick (.pick (.x (.t 12))
 (.x (.t 15)) (.x (.c (.s (.bool false))))) (.x (.t 20)) (.x (.c (.s (.bool false))))) (.x (.t 25)) (.x (.c (.s (.bool false))))),.tick 2] false) .ret)
theorem f58:sF EE 58 [3,4,6,7,8,9,10,11,13,14,16,17,18,19,21,22,23,24,26]=some ⟨27,[.t 2],c58⟩:=by kernel_rfl
def c59:SC := .seq (.reg [.act (some 1) [] (.box 38 (.t 0)) [],.set 2 (.x (.c (.s (.bool false)))),.tick 1] false) (.seq (.seq (.reg [.tick 4] false) (.cond (.op (.bin .gtr
 .num (.t 5) (.c (.s (.int .i64 0)))) [(5,.op (.len (.sl 0) (.t 4)) [(4,.op (.load false 1 (.t 3)) [(3,.op (.fa 1 (.t 1)) [])])])]) (.seq (.reg [.set 2 (.x (.c (.s (.bool
 false)))),.tick 1] false) .ret) .skip)) (.seq (.seq (.reg [.tick 3] false) (.cond (.op (.bin .eql .num (.t 8) (.c (.s (.int .i64 0)))) [(8,.op (.load false 1 (.t 7)) [(7,.op
 (.fa 0 (.t 1)) [])])]) (.seq (.reg [.set 14 (.op (.bin .eql .num (.t 12) (.c (.s (.int .i64 0)))) [(12,.op (.len (.sl 0) (.t 11)) [(11,.op (.load false 1 (.t 10)) [(10,.op
 (.fa 9 (.t 1)) [])])])]),.tick 7,.act (some 17) [(.x (.t 14),true)] (.call 128 [.t 16]) [(16,.op (.load false 1 (.t 15)) [(15,.op (.fa 3 (.t 1)) [])])],.set 25 (.pick
 (.pick (.x (.t 14)) (.x (.t 17)) (.x (.c (.s (.bool false))))) (.op (.bin .gtr .num (.t 22) (.c (.s (.int .i64 0)))) [(22,.op (.len (.sl 0) (.t 21)) [(21,.op (.load false 1 (.t
 20)) [(20,.op (.fa 4 (.t 1)) [])])])]) (.x (.c (.s (.bool false))))),.tick 10,.act (some 28) [(.x (.t 25),true)] (.call 129 [.t 27,.c (.s (.func 130))]) [(27,.op (.load
 false 1 (.t 26)) [(26,.op (.fa 4 (.t 1)) [])])],.set 36 (.pick (.pick (.x (.t 25)) (.x (.t 28)) (.x (.c (.s (.bool false))))) (.op (.bin .leq .num (.t 33) (.c (.s (.int .i64
 1)))) [(33,.op (.len (.sl 0) (.t 32)) [(32,.op (.load false 1 (.t 31)) [(31,.op (.fa 5 (.t 1)) [])])])]) (.x (.c (.s (.bool false))))),.tick 10,.act (some 39) [(.x (.t 36),
 true)] (.call 46 [.t 38,.c (.s (.func 12))]) [(38,.op (.load false 1 (.t 37)) [(37,.op (.fa 5 (.t 1)) [])])],.need [] (.pick (.x (.t 36)) (.x (.t 39)) (.x (.c (.s (.bool
 false))))),.tick 4,.act (some 44) [(.pick (.x (.t 36)) (.x (.t 39)) (.x (.c (.s (.bool false)))),true)] (.call 131 [.t 43,.c (.s (.func 132))]) [(43,.op (.load false 1 (.t
 42)) [(42,.op (.fa 6 (.t 1)) [])])],.need [] (.pick (.pick (.x (.t 36)) (.x (.t 39)) (.x (.c (.s (.bool false))))) (.x (.t 44)) (.x (.c (.s (.bool false))))),.tick 4,.act
 (some 49) [(.pick (.pick (.x (.t 36)) (.x (.t 39)) (.x (.c (.s (.bool false))))) (.x (.t 44)) (.x (.c (.s (.bool false)))),true)] (.call 46 [.t 48,.c (.s (.func 12))]) [(48,
 .op (.load false 1 (.t 47)) [(47,.op (.fa 7 (.t 1)) [])])],.need [] (.pick (.pick (.pick (.x (.t 36)) (.x (.t 39)) (.x (.c (.s (.bool false))))) (.x (.t 44)) (.x (.c (.s (.bool
 false))))) (.x (.t 49)) (.x (.c (.s (.bool false))))),.tick 4,.act (some 54) [(.pick (.pick (.pick (.x (.t 36)) (.x (.t 39)) (.x (.c (.s (.bool false))))) (.x (.t 44)) (.x (.c
 (.s (.bool false))))) (.x (.t 49)) (.x (.c (.s (.bool false)))),true)] (.call 133 [.t 53,.c (.s (.func 134))]) [(53,.op (.load false 1 (.t 52)) [(52,.op (.fa 8 (.t 1))
 [])])],.set 2 (.pick (.pick (.pick (.pick (.x (.t 36)) (.x (.t 39)) (.x (.c (.s (.bool false))))) (.x (.t 44)) (.x (.c (.s (.bool false))))) (.x (.t 49)) (.x (.c (.s (.bool
 false))))) (.x (.t 54)) (.x (.c (.s (.bool false))))),.tick 2] false) .ret) .skip)) (.seq (.seq (.reg [.tick 14] false) (.cond (.pick (.pick (.op (.bin .lss .num (.t 57) (.c (.s
 (.int .i64 0)))) [(57,.op (.load false 1 (.t 56)) [(56,.op (.fa 0 (.t 1)) [])])]) (.x (.c (.s (.bool true)))) (.op (.bin .gtr .num (.t 61) (.c (.s (.int .i64 5)))) [(61,.op
 (.load false 1 (.t 60)) [(60,.op (.fa 0 (.t 1)) [])])])) (.x (.c (.s (.bool true)))) (.op (.bin .neq .num (.t 67) (.c (.s (.int .i64 2)))) [(67,.op (.len (.sl 0) (.t 66)) [(66,
 .op (.load false 1 (.t 65)) [(65,.op (.fa 9 (.t 1)) [])])])])) (.seq (.reg [.set 2 (.x (.c (.s (.bool false)))),.tick 1] false) .ret) .skip)) (.seq (.reg [.tick 2,.act (some
 72) [] (.call 135 [.t 71,.c (.s (.func 59))]) [(71,.op (.load false 1 (.t 70)) [(70,.op (.fa 9 (.t 1)) [])])],.tick 7,.act (some 80) [(.x (.t 72),true)] (.call 24 [.t 74,
 .t 79]) [(74,.op (.load true 10 (.t 1)) []),(79,.op (.build [.int .i64 0,.nils,.bool false,.nils,.nils,.nils,.nils,.nils,.nils,.nils] [(0,1,.t 76),(9,1,.t 78)])
 [(76,.op (.load false 1 (.t 75)) [(75,.op (.fa 0 (.t 1)) [])]),(78,.op (.load false 1 (.t 77)) [(77,.op (.fa 9 (.t 1)) [])])])],.set 2 (.pick (.x (.t 72)) (.x (.t 80)) (.x
 (.c (.s (.bool false))))),.tick 2] false) .ret))))
theorem f59:sF EE 59 [3,4,5,6,7,8,9,10,11,12,13,15,16,18,19,20,21,22,23,24,26,27,29,30,31,32,33,34,35,37,38,40,41,42,43,45,46,47,48,50,51,
 52,53,55,56,57,58,59,60,61,62,63,64,65,66,67,68,69,70,71,73,74,75,76,77,78,79,81]=some ⟨82,[.t 2],c59⟩:=by kernel_rfl
def c60:SC := .seq (.reg [.set 2 (.x (.c (.s (.bool false)))),.tick 1] false) (.seq (.seq (.reg [.set 3 (.x (.c (.s (.int .i64 0)))),.tick 1] false) (.block 0 (.loop (.seq
 (.seq (.reg [.tick 4] false) (.cond (.op (.bin .lss .num (.t 4) (.t 6)) [(4,.x (.t 3)),(6,.op (.len (.sl 0) (.t 5)) [(5,.x (.t 0))])]) .skip (.exit 0))) (.seq (.block 1 (.seq
 (.reg [.tick 4,.act (some 14) [] (.call 48 [.t 13]) [(13,.op (.load false 1 (.t 12)) [(12,.op (.ia (.sl 1) (.t 10) (.t 11)) [(10,.x (.t 0)),(11,.x (.t 3))])])],.tick 1]
 false) (.cond (.op (.un .not (.t 14)) []) (.seq (.reg [.set 2 (.x (.c (.s (.bool false)))),.tick 1] false) .ret) .skip))) (.reg [.set 3 (.op (.bin .add .num (.t 8) (.c (.s (.int
 .i64 1)))) [(8,.x (.t 3))]),.tick 3] false)))))) (.seq (.reg [.set 2 (.x (.c (.s (.bool true)))),.tick 1] false) .ret))
theorem f60:sF EE 60 [4,5,6,7,10,11,12,13,15,8,9]=some ⟨16,[.t 2],c60⟩:=by kernel_rfl
def c61:SC := .seq (.reg [.act (some 1) [] (.box 38 (.t 0)) [],.set 2 (.x (.c (.s (.bool false)))),.tick 1] false) (.seq (.seq (.reg [.tick 14] false) (.cond (.pick (.pick (.op
 (.bin .gtr .num (.t 6) (.c (.s (.int .i64 0)))) [(6,.op (.len (.sl 0) (.t 5)) [(5,.op (.load false 1 (.t 4)) [(4,.op (.fa 1 (.t 1)) [])])])]) (.x (.c (.s (.bool true)))) (.op
 (.bin .lss .num (.t 10) (.c (.s (.int .i64 0)))) [(10,.op (.load false 1 (.t 9)) [(9,.op (.fa 0 (.t 1)) [])])])) (.x (.c (.s (.bool true)))) (.op (.bin .gtr .num (.t 15) (.c
 (.s (.int .i64 5)))) [(15,.op (.load false 1 (.t 14)) [(14,.op (.fa 0 (.t 1)) [])])])) (.seq (.reg [.set 2 (.x (.c (.s (.bool false)))),.tick 1] false) .ret) .skip)) (.seq
 (.seq (.reg [.tick 3] false) (.cond (.op (.bin .eql .num (.t 19) (.c (.s (.int .i64 0)))) [(19,.op (.load false 1 (.t 18)) [(18,.op (.fa 0 (.t 1)) [])])]) (.seq (.reg [.set 25
 (.op (.bin .eql .num (.t 23) (.c (.s (.int .i64 0)))) [(23,.op (.len (.sl 0) (.t 22)) [(22,.op (.load false 1 (.t 21)) [(21,.op (.fa 9 (.t 1)) [])])])]),.tick 7,.act (some
 28) [(.x (.t 25),true)] (.call 136 [.t 27]) [(27,.op (.load false 1 (.t 26)) [(26,.op (.fa 3 (.t 1)) [])])],.need [] (.pick (.x (.t 25)) (.x (.t 28)) (.x (.c (.s (.bool
 false))))),.tick 4,.act (some 33) [(.pick (.x (.t 25)) (.x (.t 28)) (.x (.c (.s (.bool false)))),true)] (.call 137 [.t 32]) [(32,.op (.load false 1 (.t 31)) [(31,.op (.fa 4
 (.t 1)) [])])],.set 41 (.pick (.pick (.pick (.x (.t 25)) (.x (.t 28)) (.x (.c (.s (.bool false))))) (.x (.t 33)) (.x (.c (.s (.bool false))))) (.op (.bin .leq .num (.t 38) (.c
 (.s (.int .i64 1)))) [(38,.op (.len (.sl 0) (.t 37)) [(37,.op (.load false 1 (.t 36)) [(36,.op (.fa 5 (.t 1)) [])])])]) (.x (.c (.s (.bool false))))),.tick 10,.act (some 44)
 [(.x (.t 41),true)] (.call 51 [.t 43]) [(43,.op (.load false 1 (.t 42)) [(42,.op (.fa 5 (.t 1)) [])])],.need [] (.pick (.x (.t 41)) (.x (.t 44)) (.x (.c (.s (.bool
 false))))),.tick 4,.act (some 49) [(.pick (.x (.t 41)) (.x (.t 44)) (.x (.c (.s (.bool false)))),true)] (.call 138 [.t 48]) [(48,.op (.load false 1 (.t 47)) [(47,.op (.fa 6
 (.t 1)) [])])],.need [] (.pick (.pick (.x (.t 41)) (.x (.t 44)) (.x (.c (.s (.bool false))))) (.x (.t 49)) (.x (.c (.s (.bool false))))),.tick 4,.act (some 54) [(.pick (.pick
 (.x (.t 41)) (.x (.t 44)) (.x (.c (.s (.bool false))))) (.x (.t 49)) (.x (.c (.s (.bool false)))),true)] (.call 51 [.t 53]) [(53,.op (.load false 1 (.t 52)) [(52,.op (.fa 7
 (.t 1)) [])])],.need [] (.pick (.pick (.pick (.x (.t 41)) (.x (.t 44)) (.x (.c (.s (.bool false))))) (.x (.t 49)) (.x (.c (.s (.bool false))))) (.x (.t 54)) (.x (.c (.s (.bool
 false))))),.tick 4,.act (some 59) [(.pick (.pick (.pick (.x (.t 41)) (.x (.t 44)) (.x (.c (.s (.bool false))))) (.x (.t 49)) (.x (.c (.s (.bool false))))) (.x (.t 54)) (.x (.c
 (.s (.bool false)))),true)] (.call 139 [.t 58]) [(58,.op (.load false 1 (.t 57)) [(57,.op (.fa 8 (.t 1)) [])])],.set 2 (.pick (.pick (.pick (.pick (.x (.t 41)) (.x (.t 44))
 (.x (.c (.s (.bool false))))) (.x (.t 49)) (.x (.c (.s (.bool false))))) (.x (.t 54)) (.x (.c (.s (.bool false))))) (.x (.t 59)) (.x (.c (.s (.bool false))))),.tick 2] false)
 .ret) .skip)) (.seq (.reg [.set 3 (.op (.bin .add .num (.t 79) (.t 82)) [(79,.op (.bin .add .num (.t 75) (.t 78)) [(75,.op (.bin .add .num (.t 71) (.t 74)) [(71,.op (.bin .add
 .num (.t 67) (.t 70)) [(67,.op (.bin .add .num (.t 63) (.t 66)) [(63,.op (.len (.sl 0) (.t 62)) [(62,.op (.load false 1 (.t 61)) [(61,.op (.fa 3 (.t 1)) [])])]),(66,.op
 (.len (.sl 0) (.t 65)) [(65,.op (.load false 1 (.t 64)) [(64,.op (.fa 4 (.t 1)) [])])])]),(70,.op (.len (.sl 0) (.t 69)) [(69,.op (.load false 1 (.t 68)) [(68,.op (.fa 5
 (.t 1)) [])])])]),(74,.op (.len (.sl 0) (.t 73)) [(73,.op (.load false 1 (.t 72)) [(72,.op (.fa 6 (.t 1)) [])])])]),(78,.op (.len (.sl 0) (.t 77)) [(77,.op (.load false 1
 (.t 76)) [(76,.op (.fa 7 (.t 1)) [])])])]),(82,.op (.len (.sl 0) (.t 81)) [(81,.op (.load false 1 (.t 80)) [(80,.op (.fa 8 (.t 1)) [])])])]),.tick 24] false) (.seq (.reg
 [.set 97 (.pick (.pick (.op (.un .not (.t 85)) [(85,.op (.load false 1 (.t 84)) [(84,.op (.fa 2 (.t 1)) [])])]) (.op (.bin .eql .num (.t 88) (.c (.s (.int .i64 0)))) [(88,.x
 (.t 3))]) (.x (.c (.s (.bool false))))) (.op (.bin .eql .num (.t 94) (.c (.s (.int .i64 2)))) [(94,.op (.len (.sl 0) (.t 93)) [(93,.op (.load false 1 (.t 92)) [(92,.op (.fa 9
 (.t 1)) [])])])]) (.x (.c (.s (.bool false))))),.tick 18,.act (some 102) [(.x (.t 97),true)] (.call 61 [.t 101]) [(101,.op (.load true 10 (.t 100)) [(100,.op (.ia (.sl 10)
 (.t 99) (.c (.s (.int .i64 0)))) [(99,.op (.load false 1 (.t 98)) [(98,.op (.fa 9 (.t 1)) [])])])])],.need [] (.pick (.x (.t 97)) (.x (.t 102)) (.x (.c (.s (.bool false))))),
 .tick 6,.act (some 109) [(.pick (.x (.t 97)) (.x (.t 102)) (.x (.c (.s (.bool false)))),true)] (.call 61 [.t 108]) [(108,.op (.load true 10 (.t 107)) [(107,.op (.ia (.sl 10)
 (.t 106) (.c (.s (.int .i64 1)))) [(106,.op (.load false 1 (.t 105)) [(105,.op (.fa 9 (.t 1)) [])])])])],.set 2 (.pick (.pick (.x (.t 97)) (.x (.t 102)) (.x (.c (.s (.bool
 false))))) (.x (.t 109)) (.x (.c (.s (.bool false))))),.tick 2] false) .ret))))
theorem f61:sF EE 61 [4,5,6,7,8,9,10,11,12,13,14,15,16,17,18,19,20,21,22,23,24,26,27,29,30,31,32,34,35,36,37,38,39,40,42,43,45,46,47,48,
 50,51,52,53,55,56,57,58,60,61,62,63,64,65,66,67,68,69,70,71,72,73,74,75,76,77,78,79,80,81,82,83,84,85,86,87,88,89,90,91,92,93,94,95,
 96,98,99,100,101,103,104,105,106,107,108,110]=some ⟨111,[.t 2],c61⟩:=by kernel_rfl
def c64:SC := .seq (.reg [.set 2 (.x (.c (.s (.int .i64 0)))),.tick 1] false) (.seq (.reg [.set 3 (.op (.len (.sl 0) (.t 6)) [(6,.x (.t 0))]),.tick 3] false) (.seq (.seq (.reg
 [.set 8 (.x (.t 0)),.set 9 (.op (.len (.sl 0) (.t 8)) []),.set 10 (.x (.c (.s (.int .i64 0)))),.tick 3] false) (.block 0 (.loop (.seq (.reg [.tick 1] false) (.seq (.cond (.op
 (.bin .lss .num (.t 10) (.t 9)) []) .skip (.exit 0)) (.seq (.block 1 (.seq (.reg [.set 13 (.op (.load true 9 (.t 12)) [(12,.op (.ia (.sl 9) (.t 8) (.t 10)) [])]),.tick 2,.act
 (some 5) [] (.alloc 26 [.int .i64 0,.int .i64 0,.int .i64 0,.str [],.str [],.str [],.int .i64 0,.int .i64 0,.nils]) [],.act none [] (.store 9 (.t 5) (.t 13)) []] false)
 (.reg [.tick 3,.act (some 17) [] (.call 64 [.t 16]) [(16,.op (.load false 1 (.t 15)) [(15,.op (.fa 8 (.t 5)) [])])],.set 3 (.op (.bin .add .num (.t 14) (.t 17)) [(14,.x (.t
 3))]),.tick 2] false))) (.reg [.set 10 (.op (.bin .add .num (.t 10) (.c (.s (.int .i64 1)))) []),.tick 2] false))))))) (.seq (.reg [.set 2 (.x (.t 3)),.tick 2] false) .ret)))
theorem f64:sF EE 64 [6,7,11,12,14,15,16,18,19,20]=some ⟨21,[.t 2],c64⟩:=by kernel_rfl
def c65:SC := .seq (.reg [.set 2 (.x (.c (.s .nils))),.tick 1] false) (.seq (.seq (.reg [.tick 2] false) (.cond (.op (.bin .eql .slice (.t 3) (.c (.s .nils))) [(3,.x (.t 0))])
 (.seq (.reg [.set 2 (.x (.c (.s .nils))),.tick 1] false) .ret) .skip)) (.seq (.reg [.act (some 5) [] (.rows 10 [.int .i64 0,.nils,.bool false,.nils,.nils,.nils,.nils,
 .nils,.nils,.nils] 0 []) [],.tick 1,.act (some 7) [] (.app 38 10 (.t 5) (.t 6)) [(6,.x (.t 0))],.set 2 (.x (.t 7)),.tick 1] false) .ret))
theorem f65:sF EE 65 [3,4,6]=some ⟨8,[.t 2],c65⟩:=by kernel_rfl
def c66:SC := .seq (.reg [.set 2 (.x (.c (.s (.int .i64 0)))),.tick 1] false) (.seq (.reg [.set 3 (.x (.c (.s (.int .i64 0)))),.tick 1] false) (.seq (.seq (.reg [.set 4 (.x (.c
 (.s (.int .i64 0)))),.tick 1] false) (.block 0 (.loop (.seq (.seq (.reg [.tick 4] false) (.cond (.op (.bin .lss .num (.t 5) (.t 7)) [(5,.x (.t 4)),(7,.op (.len (.sl 0) (.t
 6)) [(6,.x (.t 0))])]) .skip (.exit 0))) (.seq (.block 1 (.seq (.reg [.tick 6,.act (some 17) [] (.call 66 [.t 16]) [(16,.op (.load false 1 (.t 15)) [(15,.op (.fa 8 (.t 14))
 [(14,.op (.ia (.sl 9) (.t 12) (.t 13)) [(12,.x (.t 0)),(13,.x (.t 4))])])])],.set 3 (.op (.bin .add .num (.t 11) (.t 18)) [(11,.x (.t 3)),(18,.op (.bin .add .num (.c (.s
 (.int .i64 1))) (.t 17)) [])]),.tick 3] false) (.reg [.need [] (.op (.bin .add .num (.c (.s (.int .i64 1))) (.t 17)) [])] false))) (.reg [.set 4 (.op (.bin .add .num (.t 9) (.c
 (.s (.int .i64 1)))) [(9,.x (.t 4))]),.tick 3] false)))))) (.seq (.reg [.set 2 (.x (.t 3)),.tick 2] false) .ret)))
theorem f66:sF EE 66 [5,6,7,8,11,12,13,14,15,16,18,19,9,10,20]=some ⟨21,[.t 2],c66⟩:=by kernel_rfl
def c126:SC := .seq (.reg [.set 4 (.x (.c (.s (.bool false)))),.tick 1] false) (.seq (.reg [.tick 2,.act (some 7) [] (.call 178 [.t 5,.t 6]) [(5,.x (.t 0)),(6,.x (.t 1))],
 .set 4 (.op (.bin .geq .num (.t 7) (.c (.s (.int .i64 0)))) []),.tick 2] false) .ret)
theorem f126:sF EE 126 [5,6,8]=some ⟨9,[.t 4],c126⟩:=by kernel_rfl
def c127:SC := .seq (.reg [.act (some 2) [] (.box 80 (.t 0)) [],.set 3 (.x (.c (.s (.bool false)))),.tick 1] false) (.seq (.reg [.tick 2,.act (some 6) [] (.callv (.t 4) [.t
 5]) [(4,.op (.load false 1 (.t 1)) []),(5,.op (.load true 22 (.t 2)) [])],.set 3 (.op (.un .not (.t 6)) []),.tick 2] false) .ret)
theorem f127:sF EE 127 [4,5,7]=some ⟨8,[.t 3],c127⟩:=by kernel_rfl
def c128:SC := .seq (.reg [.set 2 (.x (.c (.s (.bool false)))),.tick 1] false) (.seq (.seq (.reg [.tick 9] false) (.cond (.pick (.op (.bin .eql .num (.t 4) (.c (.s (.int .i64
 1)))) [(4,.op (.len (.sl 0) (.t 3)) [(3,.x (.t 0))])]) (.op (.load false 1 (.t 9)) [(9,.op (.fa 0 (.t 8)) [(8,.op (.ia (.sl 11) (.t 7) (.c (.s (.int .i64 0)))) [(7,.x (.t
 0))])])]) (.x (.c (.s (.bool false))))) (.seq (.reg [.tick 5,.act (some 17) [] (.call 23 [.t 15,.t 16]) [(15,.op (.load true 9 (.t 14)) [(14,.op (.fa 1 (.t 13)) [(13,.op
 (.ia (.sl 11) (.t 12) (.c (.s (.int .i64 0)))) [(12,.x (.t 0))])])]),(16,.op (.build [.int .i64 0,.int .i64 0,.int .i64 0,.str [],.str [],.str [],.int .i64 0,.int .i64
 0,.nils] []) [])],.set 2 (.pick (.x (.t 17)) (.op (.bin .eql .num (.t 22) (.c (.s (.str [])))) [(22,.op (.load false 1 (.t 21)) [(21,.op (.fa 10 (.t 20)) [(20,.op (.ia (.sl
 11) (.t 19) (.c (.s (.int .i64 0)))) [(19,.x (.t 0))])])])]) (.x (.c (.s (.bool false))))),.tick 8] false) .ret) .skip)) (.seq (.reg [.set 28 (.op (.bin .gtr .num (.t 26) (.c
 (.s (.int .i64 0)))) [(26,.op (.len (.sl 0) (.t 25)) [(25,.x (.t 0))])]),.tick 5,.act (some 30) [(.x (.t 28),true)] (.call 179 [.t 29,.c (.s (.func 180))]) [(29,.x (.t
 0))],.set 2 (.pick (.x (.t 28)) (.x (.t 30)) (.x (.c (.s (.bool false))))),.tick 2] false) .ret))
theorem f128:sF EE 128 [3,4,5,6,7,8,9,10,11,12,13,14,15,16,18,19,20,21,22,23,24,25,26,27,29,31]=some ⟨32,[.t 2],c128⟩:=by kernel_rfl
def c129:SC := .seq (.reg [.act (some 3) [] (.box 136 (.t 1)) [],.set 4 (.x (.c (.s (.bool false)))),.tick 1] false) (.seq (.reg [.tick 2,.act (some 7) [] (.call 181 [.t 5,.t
 6]) [(5,.x (.t 0)),(6,.op (.mkf 182 [] [.t 3]) [])],.set 4 (.op (.un .not (.t 7)) []),.tick 2] false) .ret)
theorem f129:sF EE 129 [5,6,8]=some ⟨9,[.t 4],c129⟩:=by kernel_rfl
def c130:SC := .seq (.reg [.act (some 1) [] (.box 67 (.t 0)) [],.set 2 (.x (.c (.s (.bool false)))),.tick 1] false) (.seq (.seq (.reg [.tick 4] false) (.cond (.op (.bin .eql
 .num (.t 5) (.c (.s (.int .i64 0)))) [(5,.op (.len (.sl 0) (.t 4)) [(4,.op (.load false 1 (.t 3)) [(3,.op (.fa 2 (.t 1)) [])])])]) (.seq (.reg [.tick 2,.act (some 9) []
 (.call 42 [.t 8]) [(8,.op (.load false 1 (.t 7)) [(7,.op (.fa 0 (.t 1)) [])])],.tick 3,.act (some 13) [(.x (.t 9),true)] (.call 43 [.t 12]) [(12,.op (.load false 1 (.t 11))
 [(11,.op (.fa 1 (.t 1)) [])])],.set 2 (.pick (.x (.t 9)) (.x (.t 13)) (.x (.c (.s (.bool false))))),.tick 2] false) .ret) .skip)) (.seq (.reg [.set 18 (.op (.bin .eql .num (.t
 16) (.c (.s (.str [])))) [(16,.op (.load false 1 (.t 15)) [(15,.op (.fa 0 (.t 1)) [])])]),.tick 6,.act (some 21) [(.x (.t 18),true)] (.call 42 [.t 20]) [(20,.op (.load
 false 1 (.t 19)) [(19,.op (.fa 1 (.t 1)) [])])],.set 29 (.pick (.pick (.x (.t 18)) (.x (.t 21)) (.x (.c (.s (.bool false))))) (.op (.bin .eql .num (.t 26) (.c (.s (.int .i64
 1)))) [(26,.op (.len (.sl 0) (.t 25)) [(25,.op (.load false 1 (.t 24)) [(24,.op (.fa 2 (.t 1)) [])])])]) (.x (.c (.s (.bool false))))),.tick 12,.act (some 34) [(.x (.t 29),
 true)] (.call 17 [.t 33]) [(33,.op (.load true 10 (.t 32)) [(32,.op (.ia (.sl 10) (.t 31) (.c (.s (.int .i64 0)))) [(31,.op (.load false 1 (.t 30)) [(30,.op (.fa 2 (.t 1))
 [])])])])],.set 2 (.pick (.x (.t 29)) (.x (.t 34)) (.x (.c (.s (.bool false))))),.tick 2] false) .ret))
theorem f130:sF EE 130 [3,4,5,6,7,8,10,11,12,14,15,16,17,19,20,22,23,24,25,26,27,28,30,31,32,33,35]=some ⟨36,[.t 2],c130⟩:=by kernel_rfl
def c131:SC := .seq (.reg [.act (some 3) [] (.box 138 (.t 1)) [],.set 4 (.x (.c (.s (.bool false)))),.tick 1] false) (.seq (.reg [.tick 2,.act (some 7) [] (.call 183 [.t 5,.t
 6]) [(5,.x (.t 0)),(6,.op (.mkf 184 [] [.t 3]) [])],.set 4 (.op (.un .not (.t 7)) []),.tick 2] false) .ret)
theorem f131:sF EE 131 [5,6,8]=some ⟨9,[.t 4],c131⟩:=by kernel_rfl
def c132:SC := .seq (.reg [.act (some 1) [] (.box 70 (.t 0)) [],.set 2 (.x (.c (.s (.bool false)))),.tick 1] false) (.seq (.reg [.tick 2,.act (some 5) [] (.call 46 [.t 4,.c
 (.s (.func 12))]) [(4,.op (.load false 1 (.t 3)) [(3,.op (.fa 1 (.t 1)) [])])],.tick 3,.act (some 9) [(.x (.t 5),true)] (.call 17 [.t 8]) [(8,.op (.load true 10 (.t 7))
 [(7,.op (.fa 2 (.t 1)) [])])],.set 2 (.pick (.x (.t 5)) (.x (.t 9)) (.x (.c (.s (.bool false))))),.tick 2] false) .ret)
theorem f132:sF EE 132 [3,4,6,7,8,10]=some ⟨11,[.t 2],c132⟩:=by kernel_rfl
def c133:SC := .seq (.reg [.act (some 3) [] (.box 140 (.t 1)) [],.set 4 (.x (.c (.s (.bool false)))),.tick 1] false) (.seq (.reg [.tick 2,.act (some 7) [] (.call 185 [.t 5,.t
 6]) [(5,.x (.t 0)),(6,.op (.mkf 186 [] [.t 3]) [])],.set 4 (.op (.un .not (.t 7)) []),.tick 2] false) .ret)
theorem f133:sF EE 133 [5,6,8]=some ⟨9,[.t 4],c133⟩:=by kernel_rfl
def c134:SC := .seq (.reg [.act (some 1) [] (.box 85 (.t 0)) [],.set 2 (.x (.c (.s (.bool false)))),.tick 1] false) (.seq (.reg [.tick 2,.act (some 5) [] (.call 52 [.t 4])
 [(4,.op (.load true 9 (.t 3)) [(3,.op (.fa 0 (.t 1)) [])])],.set 16 (.pick (.pick (.x (.t 5)) (.op (.bin .geq .num (.t 8) (.c (.s (.int .i64 5)))) [(8,.op (.load false 1 (.t
 7)) [(7,.op (.fa 9 (.t 1)) [])])]) (.x (.c (.s (.bool false))))) (.op (.bin .leq .num (.t 13) (.c (.s (.int .i64 10)))) [(13,.op (.load false 1 (.t 12)) [(12,.op (.fa 9 (.t
 1)) [])])]) (.x (.c (.s (.bool false))))),.tick 13,.act (some 19) [(.x (.t 16),true)] (.call 41 [.t 18]) [(18,.op (.load true 3 (.t 17)) [(17,.op (.fa 10 (.t 1)) [])])],
 .set 2 (.pick (.x (.t 16)) (.x (.t 19)) (.x (.c (.s (.bool false))))),.tick 2] false) .ret)
theorem f134:sF EE 134 [3,4,6,7,8,9,10,11,12,13,14,15,17,18,20]=some ⟨21,[.t 2],c134⟩:=by kernel_rfl
def c135:SC := .seq (.reg [.act (some 3) [] (.box 40 (.t 1)) [],.set 4 (.x (.c (.s (.bool false)))),.tick 1] false) (.seq (.reg [.tick 2,.act (some 7) [] (.call 187 [.t 5,.t
 6]) [(5,.x (.t 0)),(6,.op (.mkf 188 [] [.t 3]) [])],.set 4 (.op (.un .not (.t 7)) []),.tick 2] false) .ret)
theorem f135:sF EE 135 [5,6,8]=some ⟨9,[.t 4],c135⟩:=by kernel_rfl
def c136:SC := .seq (.reg [.set 2 (.x (.c (.s (.bool false)))),.tick 1] false) (.seq (.seq (.reg [.tick 9] false) (.cond (.pick (.op (.bin .eql .num (.t 5) (.c (.s (.int .i64
 1)))) [(5,.op (.len (.sl 0) (.t 4)) [(4,.x (.t 0))])]) (.op (.load false 1 (.t 10)) [(10,.op (.fa 0 (.t 9)) [(9,.op (.ia (.sl 11) (.t 8) (.c (.s (.int .i64 0)))) [(8,.x (.t
 0))])])]) (.x (.c (.s (.bool false))))) (.seq (.reg [.tick 5,.act (some 18) [] (.call 33 [.t 16,.t 17]) [(16,.op (.load true 9 (.t 15)) [(15,.op (.fa 1 (.t 14)) [(14,.op
 (.ia (.sl 11) (.t 13) (.c (.s (.int .i64 0)))) [(13,.x (.t 0))])])]),(17,.op (.build [.int .i64 0,.int .i64 0,.int .i64 0,.str [],.str [],.str [],.int .i64 0,.int .i64
 0,.nils] []) [])],.set 2 (.pick (.x (.t 18)) (.op (.bin .eql .num (.t 23) (.c (.s (.str [])))) [(23,.op (.load false 1 (.t 22)) [(22,.op (.fa 10 (.t 21)) [(21,.op (.ia (.sl
 11) (.t 20) (.c (.s (.int .i64 0)))) [(20,.x (.t 0))])])])]) (.x (.c (.s (.bool false))))),.tick 8] false) .ret) .skip)) (.seq (.seq (.reg [.set 3 (.x (.c (.s (.int .i64 0)))),
 .tick 1] false) (.block 0 (.loop (.seq (.seq (.reg [.tick 4] false) (.cond (.op (.bin .lss .num (.t 26) (.t 28)) [(26,.x (.t 3)),(28,.op (.len (.sl 0) (.t 27)) [(27,.x (.t
 0))])]) .skip (.exit 0))) (.seq (.block 1 (.seq (.reg [.tick 4,.act (some 36) [] (.call 189 [.t 35]) [(35,.op (.load true 11 (.t 34)) [(34,.op (.ia (.sl 11) (.t 32) (.t 33))
 [(32,.x (.t 0)),(33,.x (.t 3))])])],.tick 1] false) (.cond (.op (.un .not (.t 36)) []) (.seq (.reg [.set 2 (.x (.c (.s (.bool false)))),.tick 1] false) .ret) .skip))) (.reg
 [.set 3 (.op (.bin .add .num (.t 30) (.c (.s (.int .i64 1)))) [(30,.x (.t 3))]),.tick 3] false)))))) (.seq (.reg [.set 2 (.op (.bin .gtr .num (.t 39) (.c (.s (.int .i64 0))))
 [(39,.op (.len (.sl 0) (.t 38)) [(38,.x (.t 0))])]),.tick 4] false) .ret)))
theorem f136:sF EE 136 [4,5,6,7,8,9,10,11,12,13,14,15,16,17,19,20,21,22,23,24,25,26,27,28,29,32,33,34,35,37,30,31,38,39,40]=some ⟨41,[.t 2],
 c136⟩:=by kernel_rfl
def c137:SC := .seq (.reg [.set 2 (.x (.c (.s (.bool false)))),.tick 1] false) (.seq (.seq (.reg [.set 3 (.x (.c (.s (.int .i64 0)))),.tick 1] false) (.block 0 (.loop (.seq
 (.seq (.reg [.tick 4] false) (.cond (.op (.bin .lss .num (.t 7) (.t 9)) [(7,.x (.t 3)),(9,.op (.len (.sl 0) (.t 8)) [(8,.x (.t 0))])]) .skip (.exit 0))) (.seq (.block 1 (.seq
 (.reg [.set 16 (.op (.load true 3 (.t 15)) [(15,.op (.ia (.sl 3) (.t 13) (.t 14)) [(13,.x (.t 0)),(14,.x (.t 3))])]),.tick 4,.act (some 4) [] (.alloc 67 [.str [],.str [],
 .nils]) [],.act none [] (.store 3 (.t 4) (.t 16)) []] false) (.seq (.reg [.tick 2,.act (some 19) [] (.call 48 [.t 18]) [(18,.op (.load false 1 (.t 17)) [(17,.op (.fa 0 (.t
 4)) [])])],.tick 3,.act (some 23) [(.x (.t 19),true)] (.call 49 [.t 22]) [(22,.op (.load false 1 (.t 21)) [(21,.op (.fa 1 (.t 4)) [])])],.set 5 (.pick (.pick (.x (.t 19))
 (.x (.t 23)) (.x (.c (.s (.bool false))))) (.op (.bin .eql .num (.t 28) (.c (.s (.int .i64 0)))) [(28,.op (.len (.sl 0) (.t 27)) [(27,.op (.load false 1 (.t 26)) [(26,.op (.fa
 2 (.t 4)) [])])])]) (.x (.c (.s (.bool false))))),.tick 8] false) (.seq (.reg [.set 34 (.op (.bin .eql .num (.t 32) (.c (.s (.str [])))) [(32,.op (.load false 1 (.t 31)) [(31,
 .op (.fa 0 (.t 4)) [])])]),.tick 6,.act (some 37) [(.x (.t 34),true)] (.call 48 [.t 36]) [(36,.op (.load false 1 (.t 35)) [(35,.op (.fa 1 (.t 4)) [])])],.set 6 (.pick
 (.pick (.x (.t 34)) (.x (.t 37)) (.x (.c (.s (.bool false))))) (.op (.bin .eql .num (.t 42) (.c (.s (.int .i64 1)))) [(42,.op (.len (.sl 0) (.t 41)) [(41,.op (.load false 1 (.t
 40)) [(40,.op (.fa 2 (.t 4)) [])])])]) (.x (.c (.s (.bool false))))),.tick 8] false) (.seq (.reg [.need [] (.op (.un .not (.t 45)) [(45,.x (.t 5))]),.tick 9,.act (some 54)
 [(.op (.un .not (.t 45)) [(45,.x (.t 5))],true),(.x (.t 6),true)] (.call 18 [.t 53]) [(53,.op (.load true 10 (.t 52)) [(52,.op (.ia (.sl 10) (.t 51) (.c (.s (.int .i64
 0)))) [(51,.op (.load false 1 (.t 50)) [(50,.op (.fa 2 (.t 4)) [])])])])],.tick 3] false) (.cond (.pick (.op (.un .not (.t 45)) [(45,.x (.t 5))]) (.op (.un .not (.t 55))
 [(55,.pick (.x (.t 6)) (.x (.t 54)) (.x (.c (.s (.bool false)))))]) (.x (.c (.s (.bool false))))) (.seq (.reg [.set 2 (.x (.c (.s (.bool false)))),.tick 1] false) .ret)
 .skip)))))) (.reg [.set 3 (.op (.bin .add .num (.t 11) (.c (.s (.int .i64 1)))) [(11,.x (.t 3))]),.tick 3] false)))))) (.seq (.reg [.set 2 (.op (.bin .gtr .num (.t 59) (.c (.s
 (.int .i64 0)))) [(59,.op (.len (.sl 0) (.t 58)) [(58,.x (.t 0))])]),.tick 4] false) .ret))
theorem f137:sF EE 137 [7,8,9,10,13,14,15,17,18,20,21,22,24,25,26,27,28,29,30,31,32,33,35,36,38,39,40,41,42,43,44,45,46,47,48,49,50,51,52,
 53,55,56,57,11,12,58,59,60]=some ⟨61,[.t 2],c137⟩:=by kernel_rfl
def c138:SC := .seq (.reg [.set 2 (.x (.c (.s (.bool false)))),.tick 1] false) (.seq (.seq (.reg [.set 3 (.x (.c (.s (.int .i64 0)))),.tick 1] false) (.block 0 (.loop (.seq
 (.seq (.reg [.tick 4] false) (.cond (.op (.bin .lss .num (.t 4) (.t 6)) [(4,.x (.t 3)),(6,.op (.len (.sl 0) (.t 5)) [(5,.x (.t 0))])]) .skip (.exit 0))) (.seq (.block 1 (.seq
 (.reg [.tick 5,.act (some 15) [] (.call 51 [.t 14]) [(14,.op (.load false 1 (.t 13)) [(13,.op (.fa 1 (.t 12)) [(12,.op (.ia (.sl 12) (.t 10) (.t 11)) [(10,.x (.t 0)),(11,
 .x (.t 3))])])])],.need [] (.op (.un .not (.t 15)) []),.tick 7,.act (some 23) [(.op (.un .not (.t 15)) [],false)] (.call 18 [.t 22]) [(22,.op (.load true 10 (.t 21)) [(21,
 .op (.fa 2 (.t 20)) [(20,.op (.ia (.sl 12) (.t 18) (.t 19)) [(18,.x (.t 0)),(19,.x (.t 3))])])])],.tick 2] false) (.cond (.pick (.op (.un .not (.t 15)) []) (.x (.c (.s
 (.bool true)))) (.op (.un .not (.t 23)) [])) (.seq (.reg [.set 2 (.x (.c (.s (.bool false)))),.tick 1] false) .ret) .skip))) (.reg [.set 3 (.op (.bin .add .num (.t 8) (.c (.s
 (.int .i64 1)))) [(8,.x (.t 3))]),.tick 3] false)))))) (.seq (.reg [.set 2 (.x (.c (.s (.bool true)))),.tick 1] false) .ret))
theorem f138:sF EE 138 [4,5,6,7,10,11,12,13,14,16,17,18,19,20,21,22,24,25,8,9]=some ⟨26,[.t 2],c138⟩:=by kernel_rfl
def c139:SC := .seq (.reg [.set 2 (.x (.c (.s (.bool false)))),.tick 1] false) (.seq (.seq (.reg [.set 3 (.x (.c (.s (.int .i64 0)))),.tick 1] false) (.block 0 (.loop (.seq
 (.seq (.reg [.tick 4] false) (.cond (.op (.bin .lss .num (.t 4) (.t 6)) [(4,.x (.t 3)),(6,.op (.len (.sl 0) (.t 5)) [(5,.x (.t 0))])]) .skip (.exit 0))) (.seq (.block 1 (.seq
 (.reg [.tick 5,.act (some 15) [] (.call 54 [.t 14]) [(14,.op (.load true 9 (.t 13)) [(13,.op (.fa 0 (.t 12)) [(12,.op (.ia (.sl 13) (.t 10) (.t 11)) [(10,.x (.t 0)),(11,.x
 (.t 3))])])])],.set 33 (.pick (.pick (.op (.un .not (.t 15)) []) (.x (.c (.s (.bool true)))) (.op (.bin .lss .num (.t 22) (.c (.s (.int .i64 5)))) [(22,.op (.load false 1 (.t
 21)) [(21,.op (.fa 9 (.t 20)) [(20,.op (.ia (.sl 13) (.t 18) (.t 19)) [(18,.x (.t 0)),(19,.x (.t 3))])])])])) (.x (.c (.s (.bool true)))) (.op (.bin .gtr .num (.t 30) (.c
 (.s (.int .i64 10)))) [(30,.op (.load false 1 (.t 29)) [(29,.op (.fa 9 (.t 28)) [(28,.op (.ia (.sl 13) (.t 26) (.t 27)) [(26,.x (.t 0)),(27,.x (.t 3))])])])])),.tick 23,
 .act (some 39) [(.x (.t 33),false)] (.call 47 [.t 38]) [(38,.op (.load true 3 (.t 37)) [(37,.op (.fa 10 (.t 36)) [(36,.op (.ia (.sl 13) (.t 34) (.t 35)) [(34,.x (.t 0)),
 (35,.x (.t 3))])])])],.tick 2] false) (.seq (.reg [.need [(.x (.t 33),false)] (.op (.un .not (.t 39)) [])] false) (.cond (.pick (.x (.t 33)) (.x (.c (.s (.bool true)))) (.op
 (.un .not (.t 39)) [])) (.seq (.reg [.set 2 (.x (.c (.s (.bool false)))),.tick 1] false) .ret) .skip)))) (.reg [.set 3 (.op (.bin .add .num (.t 8) (.c (.s (.int .i64 1)))) [(8,
 .x (.t 3))]),.tick 3] false)))))) (.seq (.reg [.set 2 (.x (.c (.s (.bool true)))),.tick 1] false) .ret))
theorem f139:sF EE 139 [4,5,6,7,10,11,12,13,14,16,17,18,19,20,21,22,23,24,25,26,27,28,29,30,31,32,34,35,36,37,38,40,41,8,9]=some ⟨42,[.t 2],
 c139⟩:=by kernel_rfl
def c144:SC := .seq (.reg [.set 4 (.x (.c (.s (.bool false)))),.tick 1] false) (.seq (.reg [.tick 2,.act (some 7) [] (.call 199 [.t 5,.t 6]) [(5,.x (.t 0)),(6,.x (.t 1))],
 .set 4 (.op (.bin .geq .num (.t 7) (.c (.s (.int .i64 0)))) []),.tick 2] false) .ret)
theorem f144:sF EE 144 [5,6,8]=some ⟨9,[.t 4],c144⟩:=by kernel_rfl
def c178:SC := .seq (.reg [.set 4 (.x (.c (.s (.int .i64 0)))),.tick 1] false) (.seq (.seq (.reg [.set 7 (.op (.len (.sl 0) (.t 6)) [(6,.x (.t 0))]),.set 8 (.x (.c (.s (.int
 .i64 0)))),.tick 3] false) (.block 0 (.loop (.seq (.reg [.tick 1] false) (.seq (.cond (.op (.bin .lss .num (.t 8) (.t 7)) []) .skip (.exit 0)) (.seq (.block 1 (.seq (.reg [.set
 5 (.x (.t 8)),.tick 2] false) (.seq (.reg [.tick 5,.act (some 16) [] (.callv (.t 11) [.t 15]) [(11,.x (.t 1)),(15,.op (.load true 22 (.t 14)) [(14,.op (.ia (.sl 22) (.t 12)
 (.t 13)) [(12,.x (.t 0)),(13,.x (.t 5))])])]] false) (.cond (.x (.t 16)) (.seq (.reg [.set 4 (.x (.t 5)),.tick 2] false) .ret) .skip)))) (.reg [.set 8 (.op (.bin .add .num
 (.t 8) (.c (.s (.int .i64 1)))) []),.tick 2] false))))))) (.seq (.reg [.set 4 (.x (.c (.s (.int .i64 (-1))))),.tick 1] false) .ret))
theorem f178:sF EE 178 [6,9,10,11,12,13,14,15,17,18]=some ⟨19,[.t 4],c178⟩:=by kernel_rfl
def c179:SC := .seq (.reg [.act (some 3) [] (.box 182 (.t 1)) [],.set 4 (.x (.c (.s (.bool false)))),.tick 1] false) (.seq (.reg [.tick 2,.act (some 7) [] (.call 215 [.t 5,.t
 6]) [(5,.x (.t 0)),(6,.op (.mkf 216 [] [.t 3]) [])],.set 4 (.op (.un .not (.t 7)) []),.tick 2] false) .ret)
theorem f179:sF EE 179 [5,6,8]=some ⟨9,[.t 4],c179⟩:=by kernel_rfl
def c180:SC := .seq (.reg [.act (some 1) [] (.box 65 (.t 0)) [],.set 2 (.x (.c (.s (.bool false)))),.tick 1] false) (.seq (.reg [.set 6 (.op (.un .not (.t 4)) [(4,.op (.load
 false 1 (.t 3)) [(3,.op (.fa 0 (.t 1)) [])])]),.tick 6,.act (some 9) [(.x (.t 6),true)] (.call 43 [.t 8]) [(8,.op (.load false 1 (.t 7)) [(7,.op (.fa 10 (.t 1)) [])])],
 .need [] (.pick (.x (.t 6)) (.x (.t 9)) (.x (.c (.s (.bool false))))),.tick 4,.act (some 14) [(.pick (.x (.t 6)) (.x (.t 9)) (.x (.c (.s (.bool false)))),true)] (.call 12 [.t
 13]) [(13,.op (.load true 9 (.t 12)) [(12,.op (.fa 1 (.t 1)) [])])],.tick 3,.act (some 18) [(.pick (.x (.t 6)) (.x (.t 9)) (.x (.c (.s (.bool false)))),true),(.x (.t 14),
 false)] (.call 52 [.t 17]) [(17,.op (.load true 9 (.t 16)) [(16,.op (.fa 1 (.t 1)) [])])],.set 2 (.pick (.pick (.x (.t 6)) (.x (.t 9)) (.x (.c (.s (.bool false))))) (.pick (.x
 (.t 14)) (.x (.c (.s (.bool true)))) (.x (.t 18))) (.x (.c (.s (.bool false))))),.tick 3] false) .ret)
theorem f180:sF EE 180 [3,4,5,7,8,10,11,12,13,15,16,17,19,20]=some ⟨21,[.t 2],c180⟩:=by kernel_rfl
def c181:SC := .seq (.reg [.set 4 (.x (.c (.s (.bool false)))),.tick 1] false) (.seq (.reg [.tick 2,.act (some 7) [] (.call 217 [.t 5,.t 6]) [(5,.x (.t 0)),(6,.x (.t 1))],
 .set 4 (.op (.bin .geq .num (.t 7) (.c (.s (.int .i64 0)))) []),.tick 2] false) .ret)
theorem f181:sF EE 181 [5,6,8]=some ⟨9,[.t 4],c181⟩:=by kernel_rfl
def c182:SC := .seq (.reg [.act (some 2) [] (.box 67 (.t 0)) [],.set 3 (.x (.c (.s (.bool false)))),.tick 1] false) (.seq (.reg [.tick 2,.act (some 6) [] (.callv (.t 4) [.t
 5]) [(4,.op (.load false 1 (.t 1)) []),(5,.op (.load true 3 (.t 2)) [])],.set 3 (.op (.un .not (.t 6)) []),.tick 2] false) .ret)
theorem f182:sF EE 182 [4,5,7]=some ⟨8,[.t 3],c182⟩:=by kernel_rfl
def c183:SC := .seq (.reg [.set 4 (.x (.c (.s (.bool false)))),.tick 1] false) (.seq (.reg [.tick 2,.act (some 7) [] (.call 218 [.t 5,.t 6]) [(5,.x (.t 0)),(6,.x (.t 1))],
 .set 4 (.op (.bin .geq .num (.t 7) (.c (.s (.int .i64 0)))) []),.tick 2] false) .ret)
theorem f183:sF EE 183 [5,6,8]=some ⟨9,[.t 4],c183⟩:=by kernel_rfl
def c184:SC := .seq (.reg [.act (some 2) [] (.box 70 (.t 0)) [],.set 3 (.x (.c (.s (.bool false)))),.tick 1] false) (.seq (.reg [.tick 2,.act (some 6) [] (.callv (.t 4) [.t
 5]) [(4,.op (.load false 1 (.t 1)) []),(5,.op (.load true 12 (.t 2)) [])],.set 3 (.op (.un .not (.t 6)) []),.tick 2] false) .ret)
theorem f184:sF EE 184 [4,5,7]=some ⟨8,[.t 3],c184⟩:=by kernel_rfl
def c185:SC := .seq (.reg [.set 4 (.x (.c (.s (.bool false)))),.tick 1] false) (.seq (.reg [.tick 2,.act (some 7) [] (.call 219 [.t 5,.t 6]) [(5,.x (.t 0)),(6,.x (.t 1))],
 .set 4 (.op (.bin .geq .num (.t 7) (.c (.s (.int .i64 0)))) []),.tick 2] false) .ret)
theorem f185:sF EE 185 [5,6,8]=some ⟨9,[.t 4],c185⟩:=by kernel_rfl
def c186:SC := .seq (.reg [.act (some 2) [] (.box 85 (.t 0)) [],.set 3 (.x (.c (.s (.bool false)))),.tick 1] false) (.seq (.reg [.tick 2,.act (some 6) [] (.callv (.t 4) [.t
 5]) [(4,.op (.load false 1 (.t 1)) []),(5,.op (.load true 13 (.t 2)) [])],.set 3 (.op (.un .not (.t 6)) []),.tick 2] false) .ret)
theorem f186:sF EE 186 [4,5,7]=some ⟨8,[.t 3],c186⟩:=by kernel_rfl
def c187:SC := .seq (.reg [.set 4 (.x (.c (.s (.bool false)))),.tick 1] false) (.seq (.reg [.tick 2,.act (some 7) [] (.call 220 [.t 5,.t 6]) [(5,.x (.t 0)),(6,.x (.t 1))],
 .set 4 (.op (.bin .geq .num (.t 7) (.c (.s (.int .i64 0)))) []),.tick 2] false) .ret)
theorem f187:sF EE 187 [5,6,8]=some ⟨9,[.t 4],c187⟩:=by kernel_rfl
def c188:SC := .seq (.reg [.act (some 2) [] (.box 38 (.t 0)) [],.set 3 (.x (.c (.s (.bool false)))),.tick 1] false) (.seq (.reg [.tick 2,.act (some 6) [] (.callv (.t 4) [.t
 5]) [(4,.op (.load false 1 (.t 1)) []),(5,.op (.load true 10 (.t 2)) [])],.set 3 (.op (.un .not (.t 6)) []),.tick 2] false) .ret)
theorem f188:sF EE 188 [4,5,7]=some ⟨8,[.t 3],c188⟩:=by kernel_rfl
def c189:SC := .seq (.reg [.act (some 1) [] (.box 65 (.t 0)) [],.set 2 (.x (.c (.s (.bool false)))),.tick 1] false) (.seq (.reg [.set 6 (.op (.un .not (.t 4)) [(4,.op (.load
 false 1 (.t 3)) [(3,.op (.fa 0 (.t 1)) [])])]),.tick 6,.act (some 9) [(.x (.t 6),true)] (.call 13 [.t 8]) [(8,.op (.load true 9 (.t 7)) [(7,.op (.fa 1 (.t 1)) [])])],.tick
 3,.act (some 13) [(.x (.t 6),true),(.x (.t 9),false)] (.call 54 [.t 12]) [(12,.op (.load true 9 (.t 11)) [(11,.op (.fa 1 (.t 1)) [])])],.need [] (.pick (.x (.t 6)) (.pick
 (.x (.t 9)) (.x (.c (.s (.bool true)))) (.x (.t 13))) (.x (.c (.s (.bool false))))),.need [(.x (.t 6),true)] (.pick (.x (.t 9)) (.x (.c (.s (.bool true)))) (.x (.t 13))),.tick
 5,.act (some 19) [(.pick (.x (.t 6)) (.pick (.x (.t 9)) (.x (.c (.s (.bool true)))) (.x (.t 13))) (.x (.c (.s (.bool false)))),true)] (.call 49 [.t 18]) [(18,.op (.load false
 1 (.t 17)) [(17,.op (.fa 10 (.t 1)) [])])],.set 2 (.pick (.pick (.x (.t 6)) (.pick (.x (.t 9)) (.x (.c (.s (.bool true)))) (.x (.t 13))) (.x (.c (.s (.bool false))))) (.x (.t
 19)) (.x (.c (.s (.bool false))))),.tick 2] false) .ret)
theorem f189:sF EE 189 [3,4,5,7,8,10,11,12,14,15,16,17,18,20]=some ⟨21,[.t 2],c189⟩:=by kernel_rfl
def c199:SC := .seq (.reg [.set 4 (.x (.c (.s (.int .i64 0)))),.tick 1] false) (.seq (.seq (.reg [.set 7 (.op (.len (.sl 0) (.t 6)) [(6,.x (.t 0))]),.set 8 (.x (.c (.s (.int
 .i64 0)))),.tick 3] false) (.block 0 (.loop (.seq (.reg [.tick 1] false) (.seq (.cond (.op (.bin .lss .num (.t 8) (.t 7)) []) .skip (.exit 0)) (.seq (.block 1 (.seq (.reg [.set
 5 (.x (.t 8)),.tick 2] false) (.seq (.reg [.tick 5,.act (some 16) [] (.callv (.t 11) [.t 15]) [(11,.x (.t 1)),(15,.op (.load false 1 (.t 14)) [(14,.op (.ia (.sl 1) (.t 12)
 (.t 13)) [(12,.x (.t 0)),(13,.x (.t 5))])])]] false) (.cond (.x (.t 16)) (.seq (.reg [.set 4 (.x (.t 5)),.tick 2] false) .ret) .skip)))) (.reg [.set 8 (.op (.bin .add .num
 (.t 8) (.c (.s (.int .i64 1)))) []),.tick 2] false))))))) (.seq (.reg [.set 4 (.x (.c (.s (.int .i64 (-1))))),.tick 1] false) .ret))
theorem f199:sF EE 199 [6,9,10,11,12,13,14,15,17,18]=some ⟨19,[.t 4],c199⟩:=by kernel_rfl
def c215:SC := .seq (.reg [.set 4 (.x (.c (.s (.bool false)))),.tick 1] false) (.seq (.reg [.tick 2,.act (some 7) [] (.call 236 [.t 5,.t 6]) [(5,.x (.t 0)),(6,.x (.t 1))],
 .set 4 (.op (.bin .geq .num (.t 7) (.c (.s (.int .i64 0)))) []),.tick 2] false) .ret)
theorem f215:sF EE 215 [5,6,8]=some ⟨9,[.t 4],c215⟩:=by kernel_rfl
def c216:SC := .seq (.reg [.act (some 2) [] (.box 65 (.t 0)) [],.set 3 (.x (.c (.s (.bool false)))),.tick 1] false) (.seq (.reg [.tick 2,.act (some 6) [] (.callv (.t 4) [.t
 5]) [(4,.op (.load false 1 (.t 1)) []),(5,.op (.load true 11 (.t 2)) [])],.set 3 (.op (.un .not (.t 6)) []),.tick 2] false) .ret)
theorem f216:sF EE 216 [4,5,7]=some ⟨8,[.t 3],c216⟩:=by kernel_rfl
def c217:SC := .seq (.reg [.set 4 (.x (.c (.s (.int .i64 0)))),.tick 1] false) (.seq (.seq (.reg [.set 7 (.op (.len (.sl 0) (.t 6)) [(6,.x (.t 0))]),.set 8 (.x (.c (.s (.int
 .i64 0)))),.tick 3] false) (.block 0 (.loop (.seq (.reg [.tick 1] false) (.seq (.cond (.op (.bin .lss .num (.t 8) (.t 7)) []) .skip (.exit 0)) (.seq (.block 1 (.seq (.reg [.set
 5 (.x (.t 8)),.tick 2] false) (.seq (.reg [.tick 5,.act (some 16) [] (.callv (.t 11) [.t 15]) [(11,.x (.t 1)),(15,.op (.load true 3 (.t 14)) [(14,.op (.ia (.sl 3) (.t 12)
 (.t 13)) [(12,.x (.t 0)),(13,.x (.t 5))])])]] false) (.cond (.x (.t 16)) (.seq (.reg [.set 4 (.x (.t 5)),.tick 2] false) .ret) .skip)))) (.reg [.set 8 (.op (.bin .add .num
 (.t 8) (.c (.s (.int .i64 1)))) []),.tick 2] false))))))) (.seq (.reg [.set 4 (.x (.c (.s (.int .i64 (-1))))),.tick 1] false) .ret))
theorem f217:sF EE 217 [6,9,10,11,12,13,14,15,17,18]=some ⟨19,[.t 4],c217⟩:=by kernel_rfl
def c218:SC := .seq (.reg [.set 4 (.x (.c (.s (.int .i64 0)))),.tick 1] false) (.seq (.seq (.reg [.set 7 (.op (.len (.sl 0) (.t 6)) [(6,.x (.t 0))]),.set 8 (.x (.c (.s (.int
 .i64 0)))),.tick 3] false) (.block 0 (.loop (.seq (.reg [.tick 1] false) (.seq (.cond (.op (.bin .lss .num (.t 8) (.t 7)) []) .skip (.exit 0)) (.seq (.block 1 (.seq (.reg [.set
 5 (.x (.t 8)),.tick 2] false) (.seq (.reg [.tick 5,.act (some 16) [] (.callv (.t 11) [.t 15]) [(11,.x (.t 1)),(15,.op (.load true 12 (.t 14)) [(14,.op (.ia (.sl 12) (.t 12)
 (.t 13)) [(12,.x (.t 0)),(13,.x (.t 5))])])]] false) (.cond (.x (.t 16)) (.seq (.reg [.set 4 (.x (.t 5)),.tick 2] false) .ret) .skip)))) (.reg [.set 8 (.op (.bin .add .num
 (.t 8) (.c (.s (.int .i64 1)))) []),.tick 2] false))))))) (.seq (.reg [.set 4 (.x (.c (.s (.int .i64 (-1))))),.tick 1] false) .ret))
theorem f218:sF EE 218 [6,9,10,11,12,13,14,15,17,18]=some ⟨19,[.t 4],c218⟩:=by kernel_rfl
def c219:SC := .seq (.reg [.set 4 (.x (.c (.s (.int .i64 0)))),.tick 1] false) (.seq (.seq (.reg [.set 7 (.op (.len (.sl 0) (.t 6)) [(6,.x (.t 0))]),.set 8 (.x (.c (.s (.int
 .i64 0)))),.tick 3] false) (.block 0 (.loop (.seq (.reg [.tick 1] false) (.seq (.cond (.op (.bin .lss .num (.t 8) (.t 7)) []) .skip (.exit 0)) (.seq (.block 1 (.seq (.reg [.set
 5 (.x (.t 8)),.tick 2] false) (.seq (.reg [.tick 5,.act (some 16) [] (.callv (.t 11) [.t 15]) [(11,.x (.t 1)),(15,.op (.load true 13 (.t 14)) [(14,.op (.ia (.sl 13) (.t 12)
 (.t 13)) [(12,.x (.t 0)),(13,.x (.t 5))])])]] false) (.cond (.x (.t 16)) (.seq (.reg [.set 4 (.x (.t 5)),.tick 2] false) .ret) .skip)))) (.reg [.set 8 (.op (.bin .add .num
 (.t 8) (.c (.s (.int .i64 1)))) []),.tick 2] false))))))) (.seq (.reg [.set 4 (.x (.c (.s (.int .i64 (-1))))),.tick 1] false) .ret))
theorem f219:sF EE 219 [6,9,10,11,12,13,14,15,17,18]=some ⟨19,[.t 4],c219⟩:=by kernel_rfl
def c220:SC := .seq (.reg [.set 4 (.x (.c (.s (.int .i64 0)))),.tick 1] false) (.seq (.seq (.reg [.set 7 (.op (.len (.sl 0) (.t 6)) [(6,.x (.t 0))]),.set 8 (.x (.c (.s (.int
 .i64 0)))),.tick 3] false) (.block 0 (.loop (.seq (.reg [.tick 1] false) (.seq (.cond (.op (.bin .lss .num (.t 8) (.t 7)) []) .skip (.exit 0)) (.seq (.block 1 (.seq (.reg [.set
 5 (.x (.t 8)),.tick 2] false) (.seq (.reg [.tick 5,.act (some 16) [] (.callv (.t 11) [.t 15]) [(11,.x (.t 1)),(15,.op (.load true 10 (.t 14)) [(14,.op (.ia (.sl 10) (.t 12)
 (.t 13)) [(12,.x (.t 0)),(13,.x (.t 5))])])]] false) (.cond (.x (.t 16)) (.seq (.reg [.set 4 (.x (.t 5)),.tick 2] false) .ret) .skip)))) (.reg [.set 8 (.op (.bin .add .num
 (.t 8) (.c (.s (.int .i64 1)))) []),.tick 2] false))))))) (.seq (.reg [.set 4 (.x (.c (.s (.int .i64 (-1))))),.tick 1] false) .ret))
theorem f220:sF EE 220 [6,9,10,11,12,13,14,15,17,18]=some ⟨19,[.t 4],c220⟩:=by kernel_rfl
def c236:SC := .seq (.reg [.set 4 (.x (.c (.s (.int .i64 0)))),.tick 1] false) (.seq (.seq (.reg [.set 7 (.op (.len (.sl 0) (.t 6)) [(6,.x (.t 0))]),.set 8 (.x (.c (.s (.int
 .i64 0)))),.tick 3] false) (.block 0 (.loop (.seq (.reg [.tick 1] false) (.seq (.cond (.op (.bin .lss .num (.t 8) (.t 7)) []) .skip (.exit 0)) (.seq (.block 1 (.seq (.reg [.set
 5 (.x (.t 8)),.tick 2] false) (.seq (.reg [.tick 5,.act (some 16) [] (.callv (.t 11) [.t 15]) [(11,.x (.t 1)),(15,.op (.load true 11 (.t 14)) [(14,.op (.ia (.sl 11) (.t 12)
 (.t 13)) [(12,.x (.t 0)),(13,.x (.t 5))])])]] false) (.cond (.x (.t 16)) (.seq (.reg [.set 4 (.x (.t 5)),.tick 2] false) .ret) .skip)))) (.reg [.set 8 (.op (.bin .add .num
 (.t 8) (.c (.s (.int .i64 1)))) []),.tick 2] false))))))) (.seq (.reg [.set 4 (.x (.c (.s (.int .i64 (-1))))),.tick 1] false) .ret))
theorem f236:sF EE 236 [6,9,10,11,12,13,14,15,17,18]=some ⟨19,[.t 4],c236⟩:=by kernel_rfl
end Go.Vm
