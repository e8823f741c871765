/- The functions of chapter 24, as statements of the machine: equality, budgets. -/
import Derived.Test.YtaepmmmcipolbaaGreatDoorQSfA
set_option linter.unusedVariables false
set_option maxRecDepth 100000
namespace Go.Vm
open Go.Proofs
def c16:SC := .seq (.reg [.act (some 2) [] (.box 38 (.t 0)) [],.set 4 (.x (.c (.s (.bool false)))),.tick 1] false) (.seq (.reg [.tick 2,.act (some 7) [] (.call 56 [.t 5,.t
 6]) [(5,.op (.load true 10 (.t 2)) []),(6,.x (.t 1))],.set 4 (.op (.bin .geq .num (.t 7) (.c (.s (.int .i64 0)))) []),.tick 2] false) .ret)
theorem f16:sF EE 16 [5,6,8]=some ⟨9,[.t 4],c16⟩:=by kernel_rfl
def c24:SC := .seq (.reg [.act (some 2) [] (.box 38 (.t 0)) [],.act (some 3) [] (.box 38 (.t 1)) [],.set 4 (.x (.c (.s (.bool false)))),.tick 1] false) (.seq (.reg [.set 17
 (.pick (.op (.bin .eql .num (.t 6) (.t 8)) [(6,.op (.load false 1 (.t 5)) [(5,.op (.fa 0 (.t 2)) [])]),(8,.op (.load false 1 (.t 7)) [(7,.op (.fa 0 (.t 3)) [])])]) (.op
 (.bin .eql .bool (.t 12) (.t 14)) [(12,.op (.load false 1 (.t 11)) [(11,.op (.fa 2 (.t 2)) [])]),(14,.op (.load false 1 (.t 13)) [(13,.op (.fa 2 (.t 3)) [])])]) (.x (.c (.s
 (.bool false))))),.tick 17,.act (some 22) [(.x (.t 17),true)] (.call 68 [.t 19,.t 21,.c (.s (.func 69))]) [(19,.op (.load false 1 (.t 18)) [(18,.op (.fa 1 (.t 2)) [])]),
 (21,.op (.load false 1 (.t 20)) [(20,.op (.fa 1 (.t 3)) [])])],.need [] (.pick (.x (.t 17)) (.x (.t 22)) (.x (.c (.s (.bool false))))),.tick 6,.act (some 29) [(.pick (.x (.t
 17)) (.x (.t 22)) (.x (.c (.s (.bool false)))),true)] (.call 70 [.t 26,.t 28,.c (.s (.func 71))]) [(26,.op (.load false 1 (.t 25)) [(25,.op (.fa 3 (.t 2)) [])]),(28,.op
 (.load false 1 (.t 27)) [(27,.op (.fa 3 (.t 3)) [])])],.need [] (.pick (.pick (.x (.t 17)) (.x (.t 22)) (.x (.c (.s (.bool false))))) (.x (.t 29)) (.x (.c (.s (.bool
 false))))),.tick 6,.act (some 36) [(.pick (.pick (.x (.t 17)) (.x (.t 22)) (.x (.c (.s (.bool false))))) (.x (.t 29)) (.x (.c (.s (.bool false)))),true)] (.call 72 [.t 33,.t
 35,.c (.s (.func 73))]) [(33,.op (.load false 1 (.t 32)) [(32,.op (.fa 4 (.t 2)) [])]),(35,.op (.load false 1 (.t 34)) [(34,.op (.fa 4 (.t 3)) [])])],.need [] (.pick
 (.pick (.pick (.x (.t 17)) (.x (.t 22)) (.x (.c (.s (.bool false))))) (.x (.t 29)) (.x (.c (.s (.bool false))))) (.x (.t 36)) (.x (.c (.s (.bool false))))),.tick 6,.act (some
 43) [(.pick (.pick (.pick (.x (.t 17)) (.x (.t 22)) (.x (.c (.s (.bool false))))) (.x (.t 29)) (.x (.c (.s (.bool false))))) (.x (.t 36)) (.x (.c (.s (.bool false)))),true)]
 (.call 67 [.t 40,.t 42,.c (.s (.func 23))]) [(40,.op (.load false 1 (.t 39)) [(39,.op (.fa 5 (.t 2)) [])]),(42,.op (.load false 1 (.t 41)) [(41,.op (.fa 5 (.t 3)) [])])],
 .need [] (.pick (.pick (.pick (.pick (.x (.t 17)) (.x (.t 22)) (.x (.c (.s (.bool false))))) (.x (.t 29)) (.x (.c (.s (.bool false))))) (.x (.t 36)) (.x (.c (.s (.bool false)))))
 (.x (.t 43)) (.x (.c (.s (.bool false))))),.tick 6,.act (some 50) [(.pick (.pick (.pick (.pick (.x (.t 17)) (.x (.t 22)) (.x (.c (.s (.bool false))))) (.x (.t 29)) (.x (.c (.s
 (.bool false))))) (.x (.t 36)) (.x (.c (.s (.bool false))))) (.x (.t 43)) (.x (.c (.s (.bool false)))),true)] (.call 74 [.t 47,.t 49,.c (.s (.func 75))]) [(47,.op (.load
 false 1 (.t 46)) [(46,.op (.fa 6 (.t 2)) [])]),(49,.op (.load false 1 (.t 48)) [(48,.op (.fa 6 (.t 3)) [])])],.need [] (.pick (.pick (.pick (.pick (.pick (.x (.t 17)) (.x
 (.t 22)) (.x (.c (.s (.bool false))))) (.x (.t 29)) (.x (.c (.s (.bool false))))) (.x (.t 36)) (.x (.c (.s (.bool false))))) (.x (.t 43)) (.x (.c (.s (.bool false))))) (.x (.t
 50)) (.x (.c (.s (.bool false))))),.tick 6,.act (some 57) [(.pick (.pick (.pick (.pick (.pick (.x (.t 17)) (.x (.t 22)) (.x (.c (.s (.bool false))))) (.x (.t 29)) (.x (.c (.s
 (.bool false))))) (.x (.t 36)) (.x (.c (.s (.bool false))))) (.x (.t 43)) (.x (.c (.s (.bool false))))) (.x (.t 50)) (.x (.c (.s (.bool false)))),true)] (.call 67 [.t 54,.t 56,
 .c (.s (.func 23))]) [(54,.op (.load false 1 (.t 53)) [(53,.op (.fa 7 (.t 2)) [])]),(56,.op (.load false 1 (.t 55)) [(55,.op (.fa 7 (.t 3)) [])])],.need [] (.pick (.pick
 (.pick (.pick (.pick (.pick (.x (.t 17)) (.x (.t 22)) (.x (.c (.s (.bool false))))) (.x (.t 29)) (.x (.c (.s (.bool false))))) (.x (.t 36)) (.x (.c (.s (.bool false))))) (.x (.t
 43)) (.x (.c (.s (.bool false))))) (.x (.t 50)) (.x (.c (.s (.bool false))))) (.x (.t 57)) (.x (.c (.s (.bool false))))),.tick 6,.act (some 64) [(.pick (.pick (.pick (.pick
 (.pick (.pick (.x (.t 17)) (.x (.t 22)) (.x (.c (.s (.bool false))))) (.x (.t 29)) (.x (.c (.s (.bool false))))) (.x (.t 36)) (.x (.c (.s (.bool false))))) (.x (.t 43)) (.x (.c
 (.s (.bool false))))) (.x (.t 50)) (.x (.c (.s (.bool false))))) (.x (.t 57)) (.x (.c (.s (.bool false)))),true)] (.call 76 [.t 61,.t 63,.c (.s (.func 77))]) [(61,.op (.load
 false 1 (.t 60)) [(60,.op (.fa 8 (.t 2)) [])]),(63,.op (.load false 1 (.t 62)) [(62,.op (.fa 8 (.t 3)) [])])],.need [] (.pick (.pick (.pick (.pick (.pick (.pick (.pick (.x
 (.t 17)) (.x (.t 22)) (.x (.c (.s (.bool false))))) (.x (.t 29)) (.x (.c (.s (.bool false))))) (.x (.t 36)) (.x (.c (.s (.bool false))))) (.x (.t 43)) (.x (.c (.s (.bool
 false))))) (.x (.t 50)) (.x (.c (.s (.bool false))))) (.x (.t 57)) (.x (.c (.s (.bool false))))) (.x (.t 64)) (.x (.c (.s (.bool false))))),.tick 6,.act (some 71) [(.pick
 (.pick (.pick (.pick (.pick (.pick (.pick (.x (.t 17)) (.x (.t 22)) (.x (.c (.s (.bool false))))) (.x (.t 29)) (.x (.c (.s (.bool false))))) (.x (.t 36)) (.x (.c (.s (.bool
 false))))) (.x (.t 43)) (.x (.c (.s (.bool false))))) (.x (.t 50)) (.x (.c (.s (.bool false))))) (.x (.t 57)) (.x (.c (.s (.bool false))))) (.x (.t 64)) (.x (.c (.s (.bool
 false)))),true)] (.call 78 [.t 68,.t 70,.c (.s (.func 24))]) [(68,.op (.load false 1 (.t 67)) [(67,.op (.fa 9 (.t 2)) [])]),(70,.op (.load false 1 (.t 69)) [(69,.op (.fa
 9 (.t 3)) [])])],.set 4 (.pick (.pick (.pick (.pick (.pick (.pick (.pick (.pick (.x (.t 17)) (.x (.t 22)) (.x (.c (.s (.bool false))))) (.x (.t 29)) (.x (.c (.s (.bool
 false))))) (.x (.t 36)) (.x (.c (.s (.bool false))))) (.x (.t 43)) (.x (.c (.s (.bool false))))) (.x (.t 50)) (.x (.c (.s (.bool false))))) (.x (.t 57)) (.x (.c (.s (.bool
 false))))) (.x (.t 64)) (.x (.c (.s (.bool false))))) (.x (.t 71)) (.x (.c (.s (.bool false))))),.tick 2] false) .ret)
theorem f24:sF EE 24 [5,6,7,8,9,10,11,12,13,14,15,16,18,19,20,21,23,24,25,26,27,28,30,31,32,33,34,35,37,38,39,40,41,42,44,45,46,47,48,49,
 51,52,53,54,55,56,58,59,60,61,62,63,65,66,67,68,69,70,72]=some ⟨73,[.t 4],c24⟩:=by kernel_rfl
def c56:SC := .seq (.reg [.act (some 2) [] (.box 38 (.t 0)) [],.set 4 (.x (.c (.s (.int .i64 0)))),.tick 1] false) (.seq (.reg [.set 1 (.op (.bin .sub .num (.t 12) (.c (.s
 (.int .i64 1)))) [(12,.x (.t 1))]),.tick 3] false) (.seq (.seq (.reg [.set 5 (.x (.c (.s (.int .i64 0)))),.tick 1] false) (.block 0 (.loop (.seq (.seq (.reg [.tick 9] false)
 (.cond (.pick (.op (.bin .lss .num (.t 14) (.t 17)) [(14,.x (.t 5)),(17,.op (.len (.sl 0) (.t 16)) [(16,.op (.load false 1 (.t 15)) [(15,.op (.fa 1 (.t 2)) [])])])]) (.op
 (.bin .geq .num (.t 20) (.c (.s (.int .i64 0)))) [(20,.x (.t 1))]) (.x (.c (.s (.bool false))))) .skip (.exit 0))) (.seq (.block 1 (.reg [.set 30 (.op (.load true 10 (.t 29))
 [(29,.op (.fa 12 (.t 28)) [(28,.op (.ia (.sl 22) (.t 26) (.t 27)) [(26,.op (.load false 1 (.t 25)) [(25,.op (.fa 1 (.t 2)) [])]),(27,.x (.t 5))])])]),.tick 31,.act (some
 56) [] (.call 56 [.t 36,.t 55]) [(36,.op (.load true 10 (.t 35)) [(35,.op (.fa 2 (.t 34)) [(34,.op (.ia (.sl 22) (.t 32) (.t 33)) [(32,.op (.load false 1 (.t 31)) [(31,.op
 (.fa 1 (.t 2)) [])]),(33,.x (.t 5))])])]),(55,.op (.bin .sub .num (.t 46) (.t 54)) [(46,.op (.bin .sub .num (.t 38) (.t 45)) [(38,.op (.bin .sub .num (.t 37) (.c (.s (.int
 .i64 1)))) [(37,.x (.t 1))]),(45,.op (.len (.sl 0) (.t 44)) [(44,.op (.load false 1 (.t 43)) [(43,.op (.fa 1 (.t 42)) [(42,.op (.ia (.sl 22) (.t 40) (.t 41)) [(40,.op
 (.load false 1 (.t 39)) [(39,.op (.fa 1 (.t 2)) [])]),(41,.x (.t 5))])])])])]),(54,.op (.bin .quo .num (.t 53) (.c (.s (.int .i64 40)))) [(53,.op (.len .str (.t 52)) [(52,
 .op (.load false 1 (.t 51)) [(51,.op (.fa 0 (.t 50)) [(50,.op (.ia (.sl 22) (.t 48) (.t 49)) [(48,.op (.load false 1 (.t 47)) [(47,.op (.fa 1 (.t 2)) [])]),(49,.x (.t
 5))])])])])])])],.act (some 57) [] (.call 56 [.t 30,.t 56]) [],.set 1 (.x (.t 57)),.tick 1] true)) (.reg [.set 5 (.op (.bin .add .num (.t 23) (.c (.s (.int .i64 1)))) [(23,
 .x (.t 5))]),.tick 3] false)))))) (.seq (.seq (.reg [.set 6 (.x (.c (.s (.int .i64 0)))),.tick 1] false) (.block 2 (.loop (.seq (.seq (.reg [.tick 9] false) (.cond (.pick (.op
 (.bin .lss .num (.t 58) (.t 61)) [(58,.x (.t 6)),(61,.op (.len (.sl 0) (.t 60)) [(60,.op (.load false 1 (.t 59)) [(59,.op (.fa 3 (.t 2)) [])])])]) (.op (.bin .geq .num (.t
 64) (.c (.s (.int .i64 0)))) [(64,.x (.t 1))]) (.x (.c (.s (.bool false))))) .skip (.exit 2))) (.seq (.block 3 (.reg [.tick 16,.act (some 85) [] (.call 38 [.t 74,.t 84]) [(74,
 .op (.load true 9 (.t 73)) [(73,.op (.fa 1 (.t 72)) [(72,.op (.ia (.sl 11) (.t 70) (.t 71)) [(70,.op (.load false 1 (.t 69)) [(69,.op (.fa 3 (.t 2)) [])]),(71,.x (.t
 6))])])]),(84,.op (.bin .sub .num (.t 75) (.t 83)) [(75,.x (.t 1)),(83,.op (.bin .quo .num (.t 82) (.c (.s (.int .i64 40)))) [(82,.op (.len .str (.t 81)) [(81,.op (.load
 false 1 (.t 80)) [(80,.op (.fa 10 (.t 79)) [(79,.op (.ia (.sl 11) (.t 77) (.t 78)) [(77,.op (.load false 1 (.t 76)) [(76,.op (.fa 3 (.t 2)) [])]),(78,.x (.t
 6))])])])])])])],.set 1 (.x (.t 85)),.tick 1] true)) (.reg [.set 6 (.op (.bin .add .num (.t 67) (.c (.s (.int .i64 1)))) [(67,.x (.t 6))]),.tick 3] false)))))) (.seq (.seq
 (.reg [.set 7 (.x (.c (.s (.int .i64 0)))),.tick 1] false) (.block 4 (.loop (.seq (.seq (.reg [.tick 9] false) (.cond (.pick (.op (.bin .lss .num (.t 86) (.t 89)) [(86,.x (.t
 7)),(89,.op (.len (.sl 0) (.t 88)) [(88,.op (.load false 1 (.t 87)) [(87,.op (.fa 4 (.t 2)) [])])])]) (.op (.bin .geq .num (.t 92) (.c (.s (.int .i64 0)))) [(92,.x (.t 1))])
 (.x (.c (.s (.bool false))))) .skip (.exit 4))) (.seq (.block 5 (.seq (.reg [.set 1 (.op (.bin .sub .num (.t 97) (.t 106)) [(97,.x (.t 1)),(106,.op (.bin .add .num (.c (.s
 (.int .i64 1))) (.t 105)) [(105,.op (.bin .quo .num (.t 104) (.c (.s (.int .i64 40)))) [(104,.op (.len .str (.t 103)) [(103,.op (.load false 1 (.t 102)) [(102,.op (.fa 0 (.t
 101)) [(101,.op (.ia (.sl 3) (.t 99) (.t 100)) [(99,.op (.load false 1 (.t 98)) [(98,.op (.fa 4 (.t 2)) [])]),(100,.x (.t 7))])])])])])])]),.tick 12] false) (.seq (.reg
 [.set 8 (.x (.c (.s (.int .i64 0)))),.tick 1] false) (.block 6 (.seq (.reg [.need [] (.op (.bin .add .num (.c (.s (.int .i64 1))) (.t 105)) [(105,.op (.bin .quo .num (.t 104)
 (.c (.s (.int .i64 40)))) [(104,.op (.len .str (.t 103)) [(103,.op (.load false 1 (.t 102)) [(102,.op (.fa 0 (.t 101)) [(101,.op (.ia (.sl 3) (.t 99) (.t 100)) [(99,.op
 (.load false 1 (.t 98)) [(98,.op (.fa 4 (.t 2)) [])]),(100,.x (.t 7))])])])])])])] false) (.loop (.seq (.seq (.reg [.tick 13] false) (.cond (.pick (.op (.bin .lss .num (.t
 108) (.t 115)) [(108,.x (.t 8)),(115,.op (.len (.sl 0) (.t 114)) [(114,.op (.load false 1 (.t 113)) [(113,.op (.fa 2 (.t 112)) [(112,.op (.ia (.sl 3) (.t 110) (.t 111))
 [(110,.op (.load false 1 (.t 109)) [(109,.op (.fa 4 (.t 2)) [])]),(111,.x (.t 7))])])])])]) (.op (.bin .geq .num (.t 118) (.c (.s (.int .i64 0)))) [(118,.x (.t 1))]) (.x (.c
 (.s (.bool false))))) .skip (.exit 6))) (.seq (.block 7 (.reg [.tick 10,.act (some 133) [] (.call 56 [.t 131,.t 132]) [(131,.op (.load true 10 (.t 130)) [(130,.op (.ia (.sl
 10) (.t 128) (.t 129)) [(128,.op (.load false 1 (.t 127)) [(127,.op (.fa 2 (.t 126)) [(126,.op (.ia (.sl 3) (.t 124) (.t 125)) [(124,.op (.load false 1 (.t 123)) [(123,.op
 (.fa 4 (.t 2)) [])]),(125,.x (.t 7))])])]),(129,.x (.t 8))])]),(132,.x (.t 1))],.set 1 (.x (.t 133)),.tick 1] false)) (.reg [.set 8 (.op (.bin .add .num (.t 121) (.c (.s
 (.int .i64 1)))) [(121,.x (.t 8))]),.tick 3] false))))))))) (.reg [.set 7 (.op (.bin .add .num (.t 95) (.c (.s (.int .i64 1)))) [(95,.x (.t 7))]),.tick 3] false)))))) (.seq
 (.reg [.tick 3,.act (some 137) [] (.call 79 [.t 135,.t 136]) [(135,.op (.load false 1 (.t 134)) [(134,.op (.fa 5 (.t 2)) [])]),(136,.x (.t 1))],.set 1 (.x (.t 137)),.tick
 1] false) (.seq (.reg [.tick 3,.act (some 141) [] (.call 79 [.t 139,.t 140]) [(139,.op (.load false 1 (.t 138)) [(138,.op (.fa 7 (.t 2)) [])]),(140,.x (.t 1))],.set 1 (.x
 (.t 141)),.tick 1] false) (.seq (.seq (.reg [.set 9 (.x (.c (.s (.int .i64 0)))),.tick 1] false) (.block 8 (.loop (.seq (.seq (.reg [.tick 9] false) (.cond (.pick (.op (.bin
 .lss .num (.t 142) (.t 145)) [(142,.x (.t 9)),(145,.op (.len (.sl 0) (.t 144)) [(144,.op (.load false 1 (.t 143)) [(143,.op (.fa 6 (.t 2)) [])])])]) (.op (.bin .geq .num (.t
 148) (.c (.s (.int .i64 0)))) [(148,.x (.t 1))]) (.x (.c (.s (.bool false))))) .skip (.exit 8))) (.seq (.block 9 (.reg [.set 158 (.op (.load true 10 (.t 157)) [(157,.op (.fa 2
 (.t 156)) [(156,.op (.ia (.sl 12) (.t 154) (.t 155)) [(154,.op (.load false 1 (.t 153)) [(153,.op (.fa 6 (.t 2)) [])]),(155,.x (.t 9))])])]),.tick 13,.act (some 166) []
 (.call 79 [.t 164,.t 165]) [(164,.op (.load false 1 (.t 163)) [(163,.op (.fa 1 (.t 162)) [(162,.op (.ia (.sl 12) (.t 160) (.t 161)) [(160,.op (.load false 1 (.t 159)) [(159,
 .op (.fa 6 (.t 2)) [])]),(161,.x (.t 9))])])]),(165,.x (.t 1))],.act (some 167) [] (.call 56 [.t 158,.t 166]) [],.set 1 (.x (.t 167)),.tick 1] true)) (.reg [.set 9 (.op
 (.bin .add .num (.t 151) (.c (.s (.int .i64 1)))) [(151,.x (.t 9))]),.tick 3] false)))))) (.seq (.seq (.reg [.set 10 (.x (.c (.s (.int .i64 0)))),.tick 1] false) (.block 10
 (.loop (.seq (.seq (.reg [.tick 9] false) (.cond (.pick (.op (.bin .lss .num (.t 168) (.t 171)) [(168,.x (.t 10)),(171,.op (.len (.sl 0) (.t 170)) [(170,.op (.load false 1
 (.t 169)) [(169,.op (.fa 8 (.t 2)) [])])])]) (.op (.bin .geq .num (.t 174) (.c (.s (.int .i64 0)))) [(174,.x (.t 1))]) (.x (.c (.s (.bool false))))) .skip (.exit 10))) (.seq
 (.block 11 (.reg [.tick 8,.act (some 187) [] (.call 38 [.t 184,.t 186]) [(184,.op (.load true 9 (.t 183)) [(183,.op (.fa 0 (.t 182)) [(182,.op (.ia (.sl 13) (.t 180) (.t
 181)) [(180,.op (.load false 1 (.t 179)) [(179,.op (.fa 8 (.t 2)) [])]),(181,.x (.t 10))])])]),(186,.op (.bin .sub .num (.t 185) (.c (.s (.int .i64 1)))) [(185,.x (.t
 1))])],.set 1 (.x (.t 187)),.tick 1] false)) (.reg [.set 10 (.op (.bin .add .num (.t 177) (.c (.s (.int .i64 1)))) [(177,.x (.t 10))]),.tick 3] false)))))) (.seq (.seq (.reg
 [.set 11 (.x (.c (.s (.int .i64 0)))),.tick 1] false) (.block 12 (.loop (.seq (.seq (.reg [.tick 9] false) (.cond (.pick (.op (.bin .lss .num (.t 188) (.t 191)) [(188,.x (.t
 11)),(191,.op (.len (.sl 0) (.t 190)) [(190,.op (.load false 1 (.t 189)) [(189,.op (.fa 9 (.t 2)) [])])])]) (.op (.bin .geq .num (.t 194) (.c (.s (.int .i64 0)))) [(194,.x
 (.t 1))]) (.x (.c (.s (.bool false))))) .skip (.exit 12))) (.seq (.block 13 (.reg [.tick 6,.act (some 205) [] (.call 56 [.t 203,.t 204]) [(203,.op (.load true 10 (.t 202))
 [(202,.op (.ia (.sl 10) (.t 200) (.t 201)) [(200,.op (.load false 1 (.t 199)) [(199,.op (.fa 9 (.t 2)) [])]),(201,.x (.t 11))])]),(204,.x (.t 1))],.set 1 (.x (.t 205)),
 .tick 1] false)) (.reg [.set 11 (.op (.bin .add .num (.t 197) (.c (.s (.int .i64 1)))) [(197,.x (.t 11))]),.tick 3] false)))))) (.seq (.reg [.set 4 (.x (.t 1)),.tick 2] false)
 .ret))))))))))
theorem f56:sF EE 56 [12,13,14,15,16,17,18,19,20,21,22,25,26,27,28,29,31,32,33,34,35,36,37,38,39,40,41,42,43,44,45,46,47,48,49,50,51,52,53,
 54,55,23,24,58,59,60,61,62,63,64,65,66,69,70,71,72,73,74,75,76,77,78,79,80,81,82,83,84,67,68,86,87,88,89,90,91,92,93,94,97,98,99,100,
 101,102,103,104,105,106,107,108,109,110,111,112,113,114,115,116,117,118,119,120,123,124,125,126,127,128,129,130,131,132,121,122,95,96,134,135,
 136,138,139,140,142,143,144,145,146,147,148,149,150,153,154,155,156,157,159,160,161,162,163,164,165,151,152,168,169,170,171,172,173,174,175,
 176,179,180,181,182,183,184,185,186,177,178,188,189,190,191,192,193,194,195,196,199,200,201,202,203,204,197,198,206]=some ⟨207,[.t 4],c56⟩:=by
 kernel_rfl
def c68:SC := .seq (.reg [.set 6 (.x (.c (.s (.bool false)))),.tick 1] false) (.seq (.seq (.reg [.tick 5] false) (.cond (.op (.bin .neq .num (.t 11) (.t 13)) [(11,.op (.len
 (.sl 0) (.t 10)) [(10,.x (.t 0))]),(13,.op (.len (.sl 0) (.t 12)) [(12,.x (.t 1))])]) (.seq (.reg [.set 6 (.x (.c (.s (.bool false)))),.tick 1] false) .ret) .skip)) (.seq
 (.seq (.reg [.set 15 (.x (.t 0)),.set 16 (.op (.len (.sl 0) (.t 15)) []),.set 17 (.x (.c (.s (.int .i64 0)))),.tick 3] false) (.block 0 (.loop (.seq (.reg [.tick 1] false)
 (.seq (.cond (.op (.bin .lss .num (.t 17) (.t 16)) []) .skip (.exit 0)) (.seq (.block 1 (.seq (.reg [.set 21 (.op (.load true 22 (.t 20)) [(20,.op (.ia (.sl 22) (.t 15) (.t 17))
 [])]),.tick 3,.act (some 8) [] (.alloc 80 [.str [],.nils,.int .i64 0,.nils,.bool false,.nils,.nils,.nils,.nils,.nils,.nils,.nils,.int .i64 0,.nils,.bool false,
 .nils,.nils,.nils,.nils,.nils,.nils,.nils]) [],.set 7 (.x (.t 17)),.tick 1,.act none [] (.store 22 (.t 8) (.t 21)) []] false) (.seq (.reg [.set 25 (.op (.load true 22
 (.t 24)) [(24,.op (.ia (.sl 22) (.t 22) (.t 23)) [(22,.x (.t 1)),(23,.x (.t 7))])]),.tick 4,.act (some 9) [] (.alloc 80 [.str [],.nils,.int .i64 0,.nils,.bool false,
 .nils,.nils,.nils,.nils,.nils,.nils,.nils,.int .i64 0,.nils,.bool false,.nils,.nils,.nils,.nils,.nils,.nils,.nils]) [],.act none [] (.store 22 (.t 9) (.t 25))
 []] false) (.seq (.reg [.tick 3,.act (some 29) [] (.callv (.t 26) [.t 27,.t 28]) [(26,.x (.t 2)),(27,.op (.load true 22 (.t 8)) []),(28,.op (.load true 22 (.t 9)) [])],
 .tick 1] false) (.cond (.op (.un .not (.t 29)) []) (.seq (.reg [.set 6 (.x (.c (.s (.bool false)))),.tick 1] false) .ret) .skip))))) (.reg [.set 17 (.op (.bin .add .num (.t 17)
 (.c (.s (.int .i64 1)))) []),.tick 2] false))))))) (.seq (.reg [.set 6 (.x (.c (.s (.bool true)))),.tick 1] false) .ret)))
theorem f68:sF EE 68 [10,11,12,13,14,18,19,20,22,23,24,26,27,28,30,31]=some ⟨32,[.t 6],c68⟩:=by kernel_rfl
def c69:SC := .seq (.reg [.act (some 2) [] (.box 80 (.t 0)) [],.act (some 3) [] (.box 80 (.t 1)) [],.set 4 (.x (.c (.s (.bool false)))),.tick 1] false) (.seq (.reg [.set 10
 (.op (.bin .eql .num (.t 6) (.t 8)) [(6,.op (.load false 1 (.t 5)) [(5,.op (.fa 0 (.t 2)) [])]),(8,.op (.load false 1 (.t 7)) [(7,.op (.fa 0 (.t 3)) [])])]),.tick 10,.act
 (some 15) [(.x (.t 10),true)] (.call 81 [.t 12,.t 14]) [(12,.op (.load false 1 (.t 11)) [(11,.op (.fa 1 (.t 2)) [])]),(14,.op (.load false 1 (.t 13)) [(13,.op (.fa 1 (.t
 3)) [])])],.need [] (.pick (.x (.t 10)) (.x (.t 15)) (.x (.c (.s (.bool false))))),.tick 6,.act (some 22) [(.pick (.x (.t 10)) (.x (.t 15)) (.x (.c (.s (.bool false)))),
 true)] (.call 24 [.t 19,.t 21]) [(19,.op (.load true 10 (.t 18)) [(18,.op (.fa 2 (.t 2)) [])]),(21,.op (.load true 10 (.t 20)) [(20,.op (.fa 2 (.t 3)) [])])],.need []
 (.pick (.pick (.x (.t 10)) (.x (.t 15)) (.x (.c (.s (.bool false))))) (.x (.t 22)) (.x (.c (.s (.bool false))))),.tick 6,.act (some 29) [(.pick (.pick (.x (.t 10)) (.x (.t 15))
 (.x (.c (.s (.bool false))))) (.x (.t 22)) (.x (.c (.s (.bool false)))),true)] (.call 24 [.t 26,.t 28]) [(26,.op (.load true 10 (.t 25)) [(25,.op (.fa 12 (.t 2)) [])]),(28,
 .op (.load true 10 (.t 27)) [(27,.op (.fa 12 (.t 3)) [])])],.set 4 (.pick (.pick (.pick (.x (.t 10)) (.x (.t 15)) (.x (.c (.s (.bool false))))) (.x (.t 22)) (.x (.c (.s (.bool
 false))))) (.x (.t 29)) (.x (.c (.s (.bool false))))),.tick 2] false) .ret)
theorem f69:sF EE 69 [5,6,7,8,9,11,12,13,14,16,17,18,19,20,21,23,24,25,26,27,28,30]=some ⟨31,[.t 4],c69⟩:=by kernel_rfl
def c70:SC := .seq (.reg [.set 6 (.x (.c (.s (.bool false)))),.tick 1] false) (.seq (.seq (.reg [.tick 5] false) (.cond (.op (.bin .neq .num (.t 11) (.t 13)) [(11,.op (.len
 (.sl 0) (.t 10)) [(10,.x (.t 0))]),(13,.op (.len (.sl 0) (.t 12)) [(12,.x (.t 1))])]) (.seq (.reg [.set 6 (.x (.c (.s (.bool false)))),.tick 1] false) .ret) .skip)) (.seq
 (.seq (.reg [.set 15 (.x (.t 0)),.set 16 (.op (.len (.sl 0) (.t 15)) []),.set 17 (.x (.c (.s (.int .i64 0)))),.tick 3] false) (.block 0 (.loop (.seq (.reg [.tick 1] false)
 (.seq (.cond (.op (.bin .lss .num (.t 17) (.t 16)) []) .skip (.exit 0)) (.seq (.block 1 (.seq (.reg [.set 21 (.op (.load true 11 (.t 20)) [(20,.op (.ia (.sl 11) (.t 15) (.t 17))
 [])]),.tick 3,.act (some 8) [] (.alloc 65 [.bool false,.int .i64 0,.int .i64 0,.int .i64 0,.str [],.str [],.str [],.int .i64 0,.int .i64 0,.nils,.str []]) [],.set 7
 (.x (.t 17)),.tick 1,.act none [] (.store 11 (.t 8) (.t 21)) []] false) (.seq (.reg [.set 25 (.op (.load true 11 (.t 24)) [(24,.op (.ia (.sl 11) (.t 22) (.t 23)) [(22,.x (.t
 1)),(23,.x (.t 7))])]),.tick 4,.act (some 9) [] (.alloc 65 [.bool false,.int .i64 0,.int .i64 0,.int .i64 0,.str [],.str [],.str [],.int .i64 0,.int .i64 0,.nils,
 .str []]) [],.act none [] (.store 11 (.t 9) (.t 25)) []] false) (.seq (.reg [.tick 3,.act (some 29) [] (.callv (.t 26) [.t 27,.t 28]) [(26,.x (.t 2)),(27,.op (.load true 11
 (.t 8)) []),(28,.op (.load true 11 (.t 9)) [])],.tick 1] false) (.cond (.op (.un .not (.t 29)) []) (.seq (.reg [.set 6 (.x (.c (.s (.bool false)))),.tick 1] false) .ret)
 .skip))))) (.reg [.set 17 (.op (.bin .add .num (.t 17) (.c (.s (.int .i64 1)))) []),.tick 2] false))))))) (.seq (.reg [.set 6 (.x (.c (.s (.bool true)))),.tick 1] false)
 .ret)))
theorem f70:sF EE 70 [10,11,12,13,14,18,19,20,22,23,24,26,27,28,30,31]=some ⟨32,[.t 6],c70⟩:=by kernel_rfl
def c71:SC := .seq (.reg [.act (some 2) [] (.box 65 (.t 0)) [],.act (some 3) [] (.box 65 (.t 1)) [],.set 4 (.x (.c (.s (.bool false)))),.tick 1] false) (.seq (.reg [.set 17
 (.pick (.op (.bin .eql .bool (.t 6) (.t 8)) [(6,.op (.load false 1 (.t 5)) [(5,.op (.fa 0 (.t 2)) [])]),(8,.op (.load false 1 (.t 7)) [(7,.op (.fa 0 (.t 3)) [])])]) (.op
 (.bin .eql .num (.t 12) (.t 14)) [(12,.op (.load false 1 (.t 11)) [(11,.op (.fa 10 (.t 2)) [])]),(14,.op (.load false 1 (.t 13)) [(13,.op (.fa 10 (.t 3)) [])])]) (.x (.c (.s
 (.bool false))))),.tick 17,.act (some 22) [(.x (.t 17),true)] (.call 23 [.t 19,.t 21]) [(19,.op (.load true 9 (.t 18)) [(18,.op (.fa 1 (.t 2)) [])]),(21,.op (.load true 9
 (.t 20)) [(20,.op (.fa 1 (.t 3)) [])])],.set 4 (.pick (.x (.t 17)) (.x (.t 22)) (.x (.c (.s (.bool false))))),.tick 2] false) .ret)
theorem f71:sF EE 71 [5,6,7,8,9,10,11,12,13,14,15,16,18,19,20,21,23]=some ⟨24,[.t 4],c71⟩:=by kernel_rfl
def c72:SC := .seq (.reg [.set 6 (.x (.c (.s (.bool false)))),.tick 1] false) (.seq (.seq (.reg [.tick 5] false) (.cond (.op (.bin .neq .num (.t 11) (.t 13)) [(11,.op (.len
 (.sl 0) (.t 10)) [(10,.x (.t 0))]),(13,.op (.len (.sl 0) (.t 12)) [(12,.x (.t 1))])]) (.seq (.reg [.set 6 (.x (.c (.s (.bool false)))),.tick 1] false) .ret) .skip)) (.seq
 (.seq (.reg [.set 15 (.x (.t 0)),.set 16 (.op (.len (.sl 0) (.t 15)) []),.set 17 (.x (.c (.s (.int .i64 0)))),.tick 3] false) (.block 0 (.loop (.seq (.reg [.tick 1] false)
 (.seq (.cond (.op (.bin .lss .num (.t 17) (.t 16)) []) .skip (.exit 0)) (.seq (.block 1 (.seq (.reg [.set 21 (.op (.load true 3 (.t 20)) [(20,.op (.ia (.sl 3) (.t 15) (.t 17))
 [])]),.tick 3,.act (some 8) [] (.alloc 67 [.str [],.str [],.nils]) [],.set 7 (.x (.t 17)),.tick 1,.act none [] (.store 3 (.t 8) (.t 21)) []] false) (.seq (.reg [.set 25
 (.op (.load true 3 (.t 24)) [(24,.op (.ia (.sl 3) (.t 22) (.t 23)) [(22,.x (.t 1)),(23,.x (.t 7))])]),.tick 4,.act (some 9) [] (.alloc 67 [.str [],.str [],.nils]) [],
 .act none [] (.store 3 (.t 9) (.t 25)) []] false) (.seq (.reg [.tick 3,.act (some 29) [] (.callv (.t 26) [.t 27,.t 28]) [(26,.x (.t 2)),(27,.op (.load true 3 (.t 8)) []),
 (28,.op (.load true 3 (.t 9)) [])],.tick 1] false) (.cond (.op (.un .not (.t 29)) []) (.seq (.reg [.set 6 (.x (.c (.s (.bool false)))),.tick 1] false) .ret) .skip))))) (.reg
 [.set 17 (.op (.bin .add .num (.t 17) (.c (.s (.int .i64 1)))) []),.tick 2] false))))))) (.seq (.reg [.set 6 (.x (.c (.s (.bool true)))),.tick 1] false) .ret)))
theorem f72:sF EE 72 [10,11,12,13,14,18,19,20,22,23,24,26,27,28,30,31]=some ⟨32,[.t 6],c72⟩:=by kernel_rfl
def c73:SC := .seq (.reg [.act (some 2) [] (.box 67 (.t 0)) [],.act (some 3) [] (.box 67 (.t 1)) [],.set 4 (.x (.c (.s (.bool false)))),.tick 1] false) (.seq (.reg [.set 17
 (.pick (.op (.bin .eql .num (.t 6) (.t 8)) [(6,.op (.load false 1 (.t 5)) [(5,.op (.fa 0 (.t 2)) [])]),(8,.op (.load false 1 (.t 7)) [(7,.op (.fa 0 (.t 3)) [])])]) (.op
 (.bin .eql .num (.t 12) (.t 14)) [(12,.op (.load false 1 (.t 11)) [(11,.op (.fa 1 (.t 2)) [])]),(14,.op (.load false 1 (.t 13)) [(13,.op (.fa 1 (.t 3)) [])])]) (.x (.c (.s
 (.bool false))))),.tick 17,.act (some 22) [(.x (.t 17),true)] (.call 78 [.t 19,.t 21,.c (.s (.func 24))]) [(19,.op (.load false 1 (.t 18)) [(18,.op (.fa 2 (.t 2)) [])]),
 (21,.op (.load false 1 (.t 20)) [(20,.op (.fa 2 (.t 3)) [])])],.set 4 (.pick (.x (.t 17)) (.x (.t 22)) (.x (.c (.s (.bool false))))),.tick 2] false) .ret)
theorem f73:sF EE 73 [5,6,7,8,9,10,11,12,13,14,15,16,18,19,20,21,23]=some ⟨24,[.t 4],c73⟩:=by kernel_rfl
def c74:SC := .seq (.reg [.set 6 (.x (.c (.s (.bool false)))),.tick 1] false) (.seq (.seq (.reg [.tick 5] false) (.cond (.op (.bin .neq .num (.t 11) (.t 13)) [(11,.op (.len
 (.sl 0) (.t 10)) [(10,.x (.t 0))]),(13,.op (.len (.sl 0) (.t 12)) [(12,.x (.t 1))])]) (.seq (.reg [.set 6 (.x (.c (.s (.bool false)))),.tick 1] false) .ret) .skip)) (.seq
 (.seq (.reg [.set 15 (.x (.t 0)),.set 16 (.op (.len (.sl 0) (.t 15)) []),.set 17 (.x (.c (.s (.int .i64 0)))),.tick 3] false) (.block 0 (.loop (.seq (.reg [.tick 1] false)
 (.seq (.cond (.op (.bin .lss .num (.t 17) (.t 16)) []) .skip (.exit 0)) (.seq (.block 1 (.seq (.reg [.set 21 (.op (.load true 12 (.t 20)) [(20,.op (.ia (.sl 12) (.t 15) (.t 17))
 [])]),.tick 3,.act (some 8) [] (.alloc 70 [.bool false,.nils,.int .i64 0,.nils,.bool false,.nils,.nils,.nils,.nils,.nils,.nils,.nils]) [],.set 7 (.x (.t 17)),.tick
 1,.act none [] (.store 12 (.t 8) (.t 21)) []] false) (.seq (.reg [.set 25 (.op (.load true 12 (.t 24)) [(24,.op (.ia (.sl 12) (.t 22) (.t 23)) [(22,.x (.t 1)),(23,.x (.t
 7))])]),.tick 4,.act (some 9) [] (.alloc 70 [.bool false,.nils,.int .i64 0,.nils,.bool false,.nils,.nils,.nils,.nils,.nils,.nils,.nils]) [],.act none [] (.store 12
 (.t 9) (.t 25)) []] false) (.seq (.reg [.tick 3,.act (some 29) [] (.callv (.t 26) [.t 27,.t 28]) [(26,.x (.t 2)),(27,.op (.load true 12 (.t 8)) []),(28,.op (.load true 12
 (.t 9)) [])],.tick 1] false) (.cond (.op (.un .not (.t 29)) []) (.seq (.reg [.set 6 (.x (.c (.s (.bool false)))),.tick 1] false) .ret) .skip))))) (.reg [.set 17 (.op (.bin .add
 .num (.t 17) (.c (.s (.int .i64 1)))) []),.tick 2] false))))))) (.seq (.reg [.set 6 (.x (.c (.s (.bool true)))),.tick 1] false) .ret)))
theorem f74:sF EE 74 [10,11,12,13,14,18,19,20,22,23,24,26,27,28,30,31]=some ⟨32,[.t 6],c74⟩:=by kernel_rfl
def c75:SC := .seq (.reg [.act (some 2) [] (.box 70 (.t 0)) [],.act (some 3) [] (.box 70 (.t 1)) [],.set 4 (.x (.c (.s (.bool false)))),.tick 1] false) (.seq (.reg [.set 10
 (.op (.bin .eql .bool (.t 6) (.t 8)) [(6,.op (.load false 1 (.t 5)) [(5,.op (.fa 0 (.t 2)) [])]),(8,.op (.load false 1 (.t 7)) [(7,.op (.fa 0 (.t 3)) [])])]),.tick 10,.act
 (some 15) [(.x (.t 10),true)] (.call 67 [.t 12,.t 14,.c (.s (.func 23))]) [(12,.op (.load false 1 (.t 11)) [(11,.op (.fa 1 (.t 2)) [])]),(14,.op (.load false 1 (.t 13))
 [(13,.op (.fa 1 (.t 3)) [])])],.need [] (.pick (.x (.t 10)) (.x (.t 15)) (.x (.c (.s (.bool false))))),.tick 6,.act (some 22) [(.pick (.x (.t 10)) (.x (.t 15)) (.x (.c (.s
 (.bool false)))),true)] (.call 24 [.t 19,.t 21]) [(19,.op (.load true 10 (.t 18)) [(18,.op (.fa 2 (.t 2)) [])]),(21,.op (.load true 10 (.t 20)) [(20,.op (.fa 2 (.t 3))
 [])])],.set 4 (.pick (.pick (.x (.t 10)) (.x (.t 15)) (.x (.c (.s (.bool false))))) (.x (.t 22)) (.x (.c (.s (.bool false))))),.tick 2] false) .ret)
theorem f75:sF EE 75 [5,6,7,8,9,11,12,13,14,16,17,18,19,20,21,23]=some ⟨24,[.t 4],c75⟩:=by kernel_rfl
def c76:SC := .seq (.reg [.set 6 (.x (.c (.s (.bool false)))),.tick 1] false) (.seq (.seq (.reg [.tick 5] false) (.cond (.op (.bin .neq .num (.t 11) (.t 13)) [(11,.op (.len
 (.sl 0) (.t 10)) [(10,.x (.t 0))]),(13,.op (.len (.sl 0) (.t 12)) [(12,.x (.t 1))])]) (.seq (.reg [.set 6 (.x (.c (.s (.bool false)))),.tick 1] false) .ret) .skip)) (.seq
 (.seq (.reg [.set 15 (.x (.t 0)),.set 16 (.op (.len (.sl 0) (.t 15)) []),.set 17 (.x (.c (.s (.int .i64 0)))),.tick 3] false) (.block 0 (.loop (.seq (.reg [.tick 1] false)
 (.seq (.cond (.op (.bin .lss .num (.t 17) (.t 16)) []) .skip (.exit 0)) (.seq (.block 1 (.seq (.reg [.set 21 (.op (.load true 13 (.t 20)) [(20,.op (.ia (.sl 13) (.t 15) (.t 17))
 [])]),.tick 3,.act (some 8) [] (.alloc 85 [.int .i64 0,.int .i64 0,.int .i64 0,.str [],.str [],.str [],.int .i64 0,.int .i64 0,.nils,.int .i64 0,.int .i64 0,.int
 .i64 0,.str []]) [],.set 7 (.x (.t 17)),.tick 1,.act none [] (.store 13 (.t 8) (.t 21)) []] false) (.seq (.reg [.set 25 (.op (.load true 13 (.t 24)) [(24,.op (.ia (.sl 13)
 (.t 22) (.t 23)) [(22,.x (.t 1)),(23,.x (.t 7))])]),.tick 4,.act (some 9) [] (.alloc 85 [.int .i64 0,.int .i64 0,.int .i64 0,.str [],.str [],.str [],.int .i64 0,.int
 .i64 0,.nils,.int .i64 0,.int .i64 0,.int .i64 0,.str []]) [],.act none [] (.store 13 (.t 9) (.t 25)) []] false) (.seq (.reg [.tick 3,.act (some 29) [] (.callv (.t 26) [.t
 27,.t 28]) [(26,.x (.t 2)),(27,.op (.load true 13 (.t 8)) []),(28,.op (.load true 13 (.t 9)) [])],.tick 1] false) (.cond (.op (.un .not (.t 29)) []) (.seq (.reg [.set 6
 (.x (.c (.s (.bool false)))),.tick 1] false) .ret) .skip))))) (.reg [.set 17 (.op (.bin .add .num (.t 17) (.c (.s (.int .i64 1)))) []),.tick 2] false))))))) (.seq (.reg [.set 6
 (.x (.c (.s (.bool true)))),.tick 1] false) .ret)))
theorem f76:sF EE 76 [10,11,12,13,14,18,19,20,22,23,24,26,27,28,30,31]=some ⟨32,[.t 6],c76⟩:=by kernel_rfl
def c77:SC := .seq (.reg [.act (some 2) [] (.box 85 (.t 0)) [],.act (some 3) [] (.box 85 (.t 1)) [],.set 4 (.x (.c (.s (.bool false)))),.tick 1] false) (.seq (.reg [.set 17
 (.pick (.op (.bin .eql .num (.t 6) (.t 8)) [(6,.op (.load false 1 (.t 5)) [(5,.op (.fa 9 (.t 2)) [])]),(8,.op (.load false 1 (.t 7)) [(7,.op (.fa 9 (.t 3)) [])])]) (.op
 (.bin .eql (.flat [1,1,2]) (.t 12) (.t 14)) [(12,.op (.load true 3 (.t 11)) [(11,.op (.fa 10 (.t 2)) [])]),(14,.op (.load true 3 (.t 13)) [(13,.op (.fa 10 (.t 3)) [])])])
 (.x (.c (.s (.bool false))))),.tick 17,.act (some 22) [(.x (.t 17),true)] (.call 23 [.t 19,.t 21]) [(19,.op (.load true 9 (.t 18)) [(18,.op (.fa 0 (.t 2)) [])]),(21,.op
 (.load true 9 (.t 20)) [(20,.op (.fa 0 (.t 3)) [])])],.set 4 (.pick (.x (.t 17)) (.x (.t 22)) (.x (.c (.s (.bool false))))),.tick 2] false) .ret)
theorem f77:sF EE 77 [5,6,7,8,9,10,11,12,13,14,15,16,18,19,20,21,23]=some ⟨24,[.t 4],c77⟩:=by kernel_rfl
def c78:SC := .seq (.reg [.set 6 (.x (.c (.s (.bool false)))),.tick 1] false) (.seq (.seq (.reg [.tick 5] false) (.cond (.op (.bin .neq .num (.t 11) (.t 13)) [(11,.op (.len
 (.sl 0) (.t 10)) [(10,.x (.t 0))]),(13,.op (.len (.sl 0) (.t 12)) [(12,.x (.t 1))])]) (.seq (.reg [.set 6 (.x (.c (.s (.bool false)))),.tick 1] false) .ret) .skip)) (.seq
 (.seq (.reg [.set 15 (.x (.t 0)),.set 16 (.op (.len (.sl 0) (.t 15)) []),.set 17 (.x (.c (.s (.int .i64 0)))),.tick 3] false) (.block 0 (.loop (.seq (.reg [.tick 1] false)
 (.seq (.cond (.op (.bin .lss .num (.t 17) (.t 16)) []) .skip (.exit 0)) (.seq (.block 1 (.seq (.reg [.set 21 (.op (.load true 10 (.t 20)) [(20,.op (.ia (.sl 10) (.t 15) (.t 17))
 [])]),.tick 3,.act (some 8) [] (.alloc 38 [.int .i64 0,.nils,.bool false,.nils,.nils,.nils,.nils,.nils,.nils,.nils]) [],.set 7 (.x (.t 17)),.tick 1,.act none []
 (.store 10 (.t 8) (.t 21)) []] false) (.seq (.reg [.set 25 (.op (.load true 10 (.t 24)) [(24,.op (.ia (.sl 10) (.t 22) (.t 23)) [(22,.x (.t 1)),(23,.x (.t 7))])]),.tick 4,
 .act (some 9) [] (.alloc 38 [.int .i64 0,.nils,.bool false,.nils,.nils,.nils,.nils,.nils,.nils,.nils]) [],.act none [] (.store 10 (.t 9) (.t 25)) []] false) (.seq (.reg
 [.tick 3,.act (some 29) [] (.callv (.t 26) [.t 27,.t 28]) [(26,.x (.t 2)),(27,.op (.load true 10 (.t 8)) []),(28,.op (.load true 10 (.t 9)) [])],.tick 1] false) (.cond
 (.op (.un .not (.t 29)) []) (.seq (.reg [.set 6 (.x (.c (.s (.bool false)))),.tick 1] false) .ret) .skip))))) (.reg [.set 17 (.op (.bin .add .num (.t 17) (.c (.s (.int .i64
 1)))) []),.tick 2] false))))))) (.seq (.reg [.set 6 (.x (.c (.s (.bool true)))),.tick 1] false) .ret)))
theorem f78:sF EE 78 [10,11,12,13,14,18,19,20,22,23,24,26,27,28,30,31]=some ⟨32,[.t 6],c78⟩:=by kernel_rfl
def c81:SC := .seq (.reg [.set 4 (.x (.c (.s (.bool false)))),.tick 1] false) (.seq (.seq (.reg [.tick 5] false) (.cond (.op (.bin .neq .num (.t 7) (.t 9)) [(7,.op (.len (.sl
 0) (.t 6)) [(6,.x (.t 0))]),(9,.op (.len (.sl 0) (.t 8)) [(8,.x (.t 1))])]) (.seq (.reg [.set 4 (.x (.c (.s (.bool false)))),.tick 1] false) .ret) .skip)) (.seq (.seq (.reg
 [.set 12 (.op (.len (.sl 0) (.t 11)) [(11,.x (.t 0))]),.set 13 (.x (.c (.s (.int .i64 0)))),.tick 3] false) (.block 0 (.loop (.seq (.reg [.tick 1] false) (.seq (.cond (.op
 (.bin .lss .num (.t 13) (.t 12)) []) .skip (.exit 0)) (.seq (.block 1 (.seq (.reg [.set 5 (.x (.t 13)),.tick 2] false) (.seq (.reg [.tick 9] true) (.cond (.op (.bin .neq .num
 (.t 19) (.t 23)) [(19,.op (.load false 1 (.t 18)) [(18,.op (.ia (.sl 1) (.t 16) (.t 17)) [(16,.x (.t 0)),(17,.x (.t 5))])]),(23,.op (.load false 1 (.t 22)) [(22,.op (.ia
 (.sl 1) (.t 20) (.t 21)) [(20,.x (.t 1)),(21,.x (.t 5))])])]) (.seq (.reg [.set 4 (.x (.c (.s (.bool false)))),.tick 1] false) .ret) .skip)))) (.reg [.set 13 (.op (.bin .add
 .num (.t 13) (.c (.s (.int .i64 1)))) []),.tick 2] false))))))) (.seq (.reg [.set 4 (.x (.c (.s (.bool true)))),.tick 1] false) .ret)))
theorem f81:sF EE 81 [6,7,8,9,10,11,14,15,16,17,18,19,20,21,22,23,24,25]=some ⟨26,[.t 4],c81⟩:=by kernel_rfl
end Go.Vm
