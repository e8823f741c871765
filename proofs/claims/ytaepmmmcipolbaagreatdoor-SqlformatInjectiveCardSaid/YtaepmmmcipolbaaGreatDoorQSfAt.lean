/- The functions of chapter 24, as statements of the machine: texts of queries. -/
import Derived.Test.YtaepmmmcipolbaaGreatDoorQSfAv
set_option linter.unusedVariables false
set_option maxRecDepth 100000
namespace Go.Vm
open Go.Proofs
def c19:SC:=.q (.r [.act (some 1) [] (.box 38 (.t 0)) [],.s 2 (.x (.w [])),.k 1]) (.q (.q (.r [.k 1,.ca 4 17 [.t 3] [(3,.l1 10 1 [])],.k 1]) (.cond (.no 4) (.q (.r [.s 2 (.x (.w [])),.k 1]) .ret) .skip)) (.q (.r [.k 1,.ca 7 62 [.t 6] [(6,.l1 10 1 [])],.s 2 (.v 7),.k 1]) .ret))
theorem f19:sF EE 19 [3,5,6]=some ⟨8,[.t 2],c19⟩:=by kernel_rfl
def c140:SC:=cLI 22 80 [.str [],.nils,.int .i64 0,.nils,.bool false,.nils,.nils,.nils,.nils,.nils,.nils,.nils,.int .i64 0,.nils,.bool false,.nils,.nils,.nils,.nils,.nils,.nils,.nils]
theorem f140:sF EE 140 [10,11,16,17,19,20,21,25,26,27]=some ⟨29,[.t 6],c140⟩:=by kernel_rfl
def c190:SC:=cLI 11 65 [.bool false,.int .i64 0,.int .i64 0,.int .i64 0,.str [],.str [],.str [],.int .i64 0,.int .i64 0,.nils,.str []]
theorem f190:sF EE 190 [10,11,16,17,19,20,21,25,26,27]=some ⟨29,[.t 6],c190⟩:=by kernel_rfl
def c192:SC:=cLI 3 67 [.str [],.str [],.nils]
theorem f192:sF EE 192 [10,11,16,17,19,20,21,25,26,27]=some ⟨29,[.t 6],c192⟩:=by kernel_rfl
def c195:SC:=cLI 13 85 [.int .i64 0,.int .i64 0,.int .i64 0,.str [],.str [],.str [],.int .i64 0,.int .i64 0,.nils,.int .i64 0,.int .i64 0,.int .i64 0,.str []]
theorem f195:sF EE 195 [10,11,16,17,19,20,21,25,26,27]=some ⟨29,[.t 6],c195⟩:=by kernel_rfl
def c196:SC:=.q (.r [.act (some 1) [] (.box 85 (.t 0)) [],.s 2 (.x (.w [])),.k 1]) (.q (.rt [.k 2,.ca 5 53 [.t 4] [(4,.l1 9 3 [(3,.fa 0 1)])],.s 12 (.bl .add (.t 11) (.w [32]) [(11,.bl .add (.t 6) (.t 10) [(6,.b .add (.t 5) (.w [32])),(10,.l0 9 [(9,.op (.ia (.arr 14 false 1) (.c (.eptr [[.str [43],.str [45],.str [42],.str [45],.str [124,124],.str [61],.str [60,62],.str [60],.str [60,61],.str [62],.str [62,61],.str [65,78,68],.str [79,82],.str [78,79,84]]] 0 0)) (.t 8)) [(8,.ld 7 9 1)])])])]),.k 9,.ca 15 121 [.t 14] [(14,.l1 3 13 [(13,.fa 10 1)])],.s 2 (.b .add (.t 12) (.t 15)),.k 2]) .ret)
theorem f196:sF EE 196 [3,4,6,7,8,9,10,11,13,14,16]=some ⟨17,[.t 2],c196⟩:=by kernel_rfl
def c221:SC:=.q (.r [.s 4 (.x (.w [])),.k 1]) (.q (.q (.r [.k 2]) (.cond (.bl .eql (.t 5) (.w []) [(5,.v 1)]) (.q (.r [.s 4 (.v 0),.k 2]) .ret) .skip)) (.q (.r [.s 4 (.bl .add (.t 9) (.t 10) [(9,.bl .add (.t 8) (.w [32,65,83,32]) [(8,.v 0)]),(10,.v 1)]),.k 5]) .ret))
theorem f221:sF EE 221 [5,6,7,8,9,10,11]=some ⟨12,[.t 4],c221⟩:=by kernel_rfl
end Go.Vm
