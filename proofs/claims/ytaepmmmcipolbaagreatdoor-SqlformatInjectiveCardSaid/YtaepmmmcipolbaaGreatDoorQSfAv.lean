/- The functions of chapter 24, as statements of the machine: validity and size of queries. -/
import Derived.Test.YtaepmmmcipolbaaGreatDoorQSfAe
set_option linter.unusedVariables false
set_option maxRecDepth 100000
namespace Go.Vm
open Go.Proofs
def c17:SC:=.q (.r [.act (some 1) [] (.box 38 (.t 0)) [],.s 2 .ff,.k 1]) (.q (.r [.s 4 (.l1 10 1 []),.k 1,.act (some 3) [] (.alloc 38 [.int .i64 0,.nils,.bool false,.nils,.nils,.nils,.nils,.nils,.nils,.nils]) [],.st 10 3 4 []]) (.q (.r [.k 1,.act none [] (.store 1 (.t 5) (.c (.s .nils))) [(5,.fa 1 3)]]) (.q (.r [.k 2,.ca 8 57 [.t 7,.c (.s (.func 58))] [(7,.ld 6 1 1)],.k 2,.cg 11 [(.v 8,true)] 59 [.t 10] [(10,.l1 10 3 [])],.s 2 (.an (.v 8) (.v 11)),.k 2]) .ret)))
theorem f17:sF EE 17 [5,6,7,9,10,12]=some ⟨13,[.t 2],c17⟩:=by kernel_rfl
def c57:SC:=cAL 81 126 127
theorem f57:sF EE 57 [5,6,8]=some ⟨9,[.t 4],c57⟩:=by kernel_rfl
def c58:SC:=.q (.r [.act (some 1) [] (.box 80 (.t 0)) [],.s 2 .ff,.k 1]) (.q (.r [.k 2,.ca 5 42 [.t 4] [(4,.ld 3 0 1)],.s 12 (.an (.v 5) (.bl .gtr (.t 9) (.i 0) [(9,.ln 8 (.ld 7 1 1))])),.k 9,.cg 15 [(.v 12,true)] 94 [.t 14,.c (.s (.func 42))] [(14,.ld 13 1 1)],.n (.an (.v 12) (.v 15)),.k 4,.cg 20 [(.an (.v 12) (.v 15),true)] 59 [.t 19] [(19,.l1 10 18 [(18,.fa 2 1)])],.n (.an (.an (.v 12) (.v 15)) (.v 20)),.k 4,.cg 25 [(.an (.an (.v 12) (.v 15)) (.v 20),true)] 59 [.t 24] [(24,.l1 10 23 [(23,.fa 12 1)])],.s 2 (.an (.an (.an (.v 12) (.v 15)) (.v 20)) (.v 25)),.k 2]) .ret)
theorem f58:sF EE 58 [3,4,6,7,8,9,10,11,13,14,16,17,18,19,21,22,23,24,26]=some ⟨27,[.t 2],c58⟩:=by kernel_rfl
def c59:SC:=.q (.r [.act (some 1) [] (.box 38 (.t 0)) [],.s 2 .ff,.k 1]) (.q (.q (.r [.k 4]) (.cond (.bl .gtr (.t 5) (.i 0) [(5,.ln 4 (.ld 3 1 1))]) (.q (.r [.s 2 .ff,.k 1]) .ret) .skip)) (.q (.q (.r [.k 3]) (.cond (.bl .eql (.t 8) (.i 0) [(8,.ld 7 0 1)]) (.q (.r [.s 14 (.bl .eql (.t 12) (.i 0) [(12,.ln 11 (.ld 10 9 1))]),.k 7,.cg 17 [(.v 14,true)] 128 [.t 16] [(16,.ld 15 3 1)],.s 25 (.an (.an (.v 14) (.v 17)) (.bl .gtr (.t 22) (.i 0) [(22,.ln 21 (.ld 20 4 1))])),.k 10,.cg 28 [(.v 25,true)] 129 [.t 27,.c (.s (.func 130))] [(27,.ld 26 4 1)],.s 36 (.an (.an (.v 25) (.v 28)) (.bl .leq (.t 33) (.i 1) [(33,.ln 32 (.ld 31 5 1))])),.k 10,.cg 39 [(.v 36,true)] 46 [.t 38,.c (.s (.func 12))] [(38,.ld 37 5 1)],.n (.an (.v 36) (.v 39)),.k 4,.cg 44 [(.an (.v 36) (.v 39),true)] 131 [.t 43,.c (.s (.func 132))] [(43,.ld 42 6 1)],.n (.an (.an (.v 36) (.v 39)) (.v 44)),.k 4,.cg 49 [(.an (.an (.v 36) (.v
 39)) (.v 44),true)] 46 [.t 48,.c (.s (.func 12))] [(48,.ld 47 7 1)],.n (.an (.an (.an (.v 36) (.v 39)) (.v 44)) (.v 49)),.k 4,.cg 54 [(.an (.an (.an (.v 36) (.v 39)) (.v 44)) (.v 49),true)] 133 [.t 53,.c (.s (.func 134))] [(53,.ld 52 8 1)],.s 2 (.an (.an (.an (.an (.v 36) (.v 39)) (.v 44)) (.v 49)) (.v 54)),.k 2]) .ret) .skip)) (.q (.q (.r [.k 14]) (.cond (.o (.o (.bl .lss (.t 57) (.i 0) [(57,.ld 56 0 1)]) (.bl .gtr (.t 61) (.i 5) [(61,.ld 60 0 1)])) (.bl .neq (.t 67) (.i 2) [(67,.ln 66 (.ld 65 9 1))])) (.q (.r [.s 2 .ff,.k 1]) .ret) .skip)) (.q (.r [.k 2,.ca 72 135 [.t 71,.c (.s (.func 59))] [(71,.ld 70 9 1)],.k 7,.cg 80 [(.v 72,true)] 24 [.t 74,.t 79] [(74,.l1 10 1 []),(79,.op (.build [.int .i64 0,.nils,.bool false,.nils,.nils,.nils,.nils,.nils,.nils,.nils] [(0,1,.t 76),(9,1,.t 78)]) [(76,.ld 75 0 1),(78,.ld 77 9 1)])],.s 2 (.an (.v 72) (.v 80)),.k 2]) .ret))))
theorem f59:sF EE 59 [3,4,5,6,7,8,9,10,11,12,13,15,16,18,19,20,21,22,23,24,26,27,29,30,31,32,33,34,35,37,38,40,41,42,43,45,46,47,48,50,51,52,53,55,56,57,58,59,60,61,62,63,64,65,66,67,68,69,70,71,73,74,75,76,77,78,79,81]=some ⟨82,[.t 2],c59⟩:=by kernel_rfl
def c126:SC:=cCF 178
theorem f126:sF EE 126 [5,6,8]=some ⟨9,[.t 4],c126⟩:=by kernel_rfl
def c127:SC:=cA1 80 22
theorem f127:sF EE 127 [4,5,7]=some ⟨8,[.t 3],c127⟩:=by kernel_rfl
def c128:SC:=.q (.r [.s 2 .ff,.k 1]) (.q (.q (.r [.k 9]) (.cond (.an (.bl .eql (.t 4) (.i 1) [(4,.ln 3 (.v 0))]) (.l0 9 [(9,.op (.fa 0 (.t 8)) [(8,.op (.ia (.sl 11) (.t 7) (.i 0)) [(7,.v 0)])])])) (.q (.r [.k 5,.ca 17 23 [.t 15,.t 16] [(15,.l1 9 14 [(14,.op (.fa 1 (.t 13)) [(13,.op (.ia (.sl 11) (.t 12) (.i 0)) [(12,.v 0)])])]),(16,.op (.build [.int .i64 0,.int .i64 0,.int .i64 0,.str [],.str [],.str [],.int .i64 0,.int .i64 0,.nils] []) [])],.s 2 (.an (.v 17) (.bl .eql (.t 22) (.w []) [(22,.l0 21 [(21,.op (.fa 10 (.t 20)) [(20,.op (.ia (.sl 11) (.t 19) (.i 0)) [(19,.v 0)])])])])),.k 8]) .ret) .skip)) (.q (.r [.s 28 (.bl .gtr (.t 26) (.i 0) [(26,.ln 25 (.v 0))]),.k 5,.cg 30 [(.v 28,true)] 179 [.t 29,.c (.s (.func 180))] [(29,.v 0)],.s 2 (.an (.v 28) (.v 30)),.k 2]) .ret))
theorem f128:sF EE 128 [3,4,5,6,7,8,9,10,11,12,13,14,15,16,18,19,20,21,22,23,24,25,26,27,29,31]=some ⟨32,[.t 2],c128⟩:=by kernel_rfl
def c129:SC:=cAL 136 181 182
theorem f129:sF EE 129 [5,6,8]=some ⟨9,[.t 4],c129⟩:=by kernel_rfl
def c130:SC:=.q (.r [.act (some 1) [] (.box 67 (.t 0)) [],.s 2 .ff,.k 1]) (.q (.q (.r [.k 4]) (.cond (.bl .eql (.t 5) (.i 0) [(5,.ln 4 (.ld 3 2 1))]) (.q (.r [.k 2,.ca 9 42 [.t 8] [(8,.ld 7 0 1)],.k 3,.cg 13 [(.v 9,true)] 43 [.t 12] [(12,.ld 11 1 1)],.s 2 (.an (.v 9) (.v 13)),.k 2]) .ret) .skip)) (.q (.r [.s 18 (.bl .eql (.t 16) (.w []) [(16,.ld 15 0 1)]),.k 6,.cg 21 [(.v 18,true)] 42 [.t 20] [(20,.ld 19 1 1)],.s 29 (.an (.an (.v 18) (.v 21)) (.bl .eql (.t 26) (.i 1) [(26,.ln 25 (.ld 24 2 1))])),.k 12,.cg 34 [(.v 29,true)] 17 [.t 33] [(33,.l1 10 32 [(32,.op (.ia (.sl 10) (.t 31) (.i 0)) [(31,.ld 30 2 1)])])],.s 2 (.an (.v 29) (.v 34)),.k 2]) .ret))
theorem f130:sF EE 130 [3,4,5,6,7,8,10,11,12,14,15,16,17,19,20,22,23,24,25,26,27,28,30,31,32,33,35]=some ⟨36,[.t 2],c130⟩:=by kernel_rfl
def c131:SC:=cAL 138 183 184
theorem f131:sF EE 131 [5,6,8]=some ⟨9,[.t 4],c131⟩:=by kernel_rfl
def c132:SC:=.q (.r [.act (some 1) [] (.box 70 (.t 0)) [],.s 2 .ff,.k 1]) (.q (.r [.k 2,.ca 5 46 [.t 4,.c (.s (.func 12))] [(4,.ld 3 1 1)],.k 3,.cg 9 [(.v 5,true)] 17 [.t 8] [(8,.l1 10 7 [(7,.fa 2 1)])],.s 2 (.an (.v 5) (.v 9)),.k 2]) .ret)
theorem f132:sF EE 132 [3,4,6,7,8,10]=some ⟨11,[.t 2],c132⟩:=by kernel_rfl
def c133:SC:=cAL 140 185 186
theorem f133:sF EE 133 [5,6,8]=some ⟨9,[.t 4],c133⟩:=by kernel_rfl
def c134:SC:=.q (.r [.act (some 1) [] (.box 85 (.t 0)) [],.s 2 .ff,.k 1]) (.q (.r [.k 2,.ca 5 52 [.t 4] [(4,.l1 9 3 [(3,.fa 0 1)])],.s 16 (.an (.an (.v 5) (.bl .geq (.t 8) (.i 5) [(8,.ld 7 9 1)])) (.bl .leq (.t 13) (.i 10) [(13,.ld 12 9 1)])),.k 13,.cg 19 [(.v 16,true)] 41 [.t 18] [(18,.l1 3 17 [(17,.fa 10 1)])],.s 2 (.an (.v 16) (.v 19)),.k 2]) .ret)
theorem f134:sF EE 134 [3,4,6,7,8,9,10,11,12,13,14,15,17,18,20]=some ⟨21,[.t 2],c134⟩:=by kernel_rfl
def c135:SC:=cAL 40 187 188
theorem f135:sF EE 135 [5,6,8]=some ⟨9,[.t 4],c135⟩:=by kernel_rfl
def c144:SC:=cCF 199
theorem f144:sF EE 144 [5,6,8]=some ⟨9,[.t 4],c144⟩:=by kernel_rfl
def c178:SC:=cIF true 22
theorem f178:sF EE 178 [6,9,10,11,12,13,14,15,17,18]=some ⟨19,[.t 4],c178⟩:=by kernel_rfl
def c179:SC:=cAL 182 215 216
theorem f179:sF EE 179 [5,6,8]=some ⟨9,[.t 4],c179⟩:=by kernel_rfl
def c180:SC:=.q (.r [.act (some 1) [] (.box 65 (.t 0)) [],.s 2 .ff,.k 1]) (.q (.r [.s 6 (.op (.un .not (.t 4)) [(4,.ld 3 0 1)]),.k 6,.cg 9 [(.v 6,true)] 43 [.t 8] [(8,.ld 7 10 1)],.n (.an (.v 6) (.v 9)),.k 4,.cg 14 [(.an (.v 6) (.v 9),true)] 12 [.t 13] [(13,.l1 9 12 [(12,.fa 1 1)])],.k 3,.cg 18 [(.an (.v 6) (.v 9),true),(.v 14,false)] 52 [.t 17] [(17,.l1 9 16 [(16,.fa 1 1)])],.s 2 (.an (.an (.v 6) (.v 9)) (.o (.v 14) (.v 18))),.k 3]) .ret)
theorem f180:sF EE 180 [3,4,5,7,8,10,11,12,13,15,16,17,19,20]=some ⟨21,[.t 2],c180⟩:=by kernel_rfl
def c181:SC:=cCF 217
theorem f181:sF EE 181 [5,6,8]=some ⟨9,[.t 4],c181⟩:=by kernel_rfl
def c182:SC:=cA1 67 3
theorem f182:sF EE 182 [4,5,7]=some ⟨8,[.t 3],c182⟩:=by kernel_rfl
def c183:SC:=cCF 218
theorem f183:sF EE 183 [5,6,8]=some ⟨9,[.t 4],c183⟩:=by kernel_rfl
def c184:SC:=cA1 70 12
theorem f184:sF EE 184 [4,5,7]=some ⟨8,[.t 3],c184⟩:=by kernel_rfl
def c185:SC:=cCF 219
theorem f185:sF EE 185 [5,6,8]=some ⟨9,[.t 4],c185⟩:=by kernel_rfl
def c186:SC:=cA1 85 13
theorem f186:sF EE 186 [4,5,7]=some ⟨8,[.t 3],c186⟩:=by kernel_rfl
def c187:SC:=cCF 220
theorem f187:sF EE 187 [5,6,8]=some ⟨9,[.t 4],c187⟩:=by kernel_rfl
def c188:SC:=cA1 38 10
theorem f188:sF EE 188 [4,5,7]=some ⟨8,[.t 3],c188⟩:=by kernel_rfl
def c199:SC:=cIF false 1
theorem f199:sF EE 199 [6,9,10,11,12,13,14,15,17,18]=some ⟨19,[.t 4],c199⟩:=by kernel_rfl
def c215:SC:=cCF 236
theorem f215:sF EE 215 [5,6,8]=some ⟨9,[.t 4],c215⟩:=by kernel_rfl
def c216:SC:=cA1 65 11
theorem f216:sF EE 216 [4,5,7]=some ⟨8,[.t 3],c216⟩:=by kernel_rfl
def c217:SC:=cIF true 3
theorem f217:sF EE 217 [6,9,10,11,12,13,14,15,17,18]=some ⟨19,[.t 4],c217⟩:=by kernel_rfl
def c218:SC:=cIF true 12
theorem f218:sF EE 218 [6,9,10,11,12,13,14,15,17,18]=some ⟨19,[.t 4],c218⟩:=by kernel_rfl
def c219:SC:=cIF true 13
theorem f219:sF EE 219 [6,9,10,11,12,13,14,15,17,18]=some ⟨19,[.t 4],c219⟩:=by kernel_rfl
def c220:SC:=cIF true 10
theorem f220:sF EE 220 [6,9,10,11,12,13,14,15,17,18]=some ⟨19,[.t 4],c220⟩:=by kernel_rfl
def c236:SC:=cIF true 11
theorem f236:sF EE 236 [6,9,10,11,12,13,14,15,17,18]=some ⟨19,[.t 4],c236⟩:=by kernel_rfl
end Go.Vm
