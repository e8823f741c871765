/- Chapter 24: the size of a query, by the program. -/
import Derived.Test.YtaepmmmcipolbaaGreatDoorQSfSz
import Derived.Test.YtaepmmmcipolbaaGreatDoorQSfVb
set_option linter.unusedVariables false
set_option linter.unusedSimpArgs false
set_option maxRecDepth 100000
namespace Go.Vm
open Go
theorem Own.at {α:Type} [Inhabited α] {f:α→List SV} {lo:Nat} {e:TypeId} {sz:Nat} (hf:Ags sz f) {H:Ob} {n:Nat} {p:PV} {l:List α} (h:Own lo e sz H n p (l.map f)) {i:Nat} (hi:i < l.length):∃ q,indexAM (.sl sz) H p (.i64 (i:Nat))=some q ∧ loadM true sz H q=some (.st (f (l.getD i default))):=by
 have hin:(0:Int) ≤ (i:Int) ∧ (i:Int) < (l.length:Int):=⟨by omega,by omega⟩
 rcases h with ⟨_,h2⟩ | ⟨rfl,_⟩ | ⟨id,ver,fz,_,_,rfl,hH⟩
 ·rw [List.map_eq_nil_iff] at h2
  subst h2
  simp at hi
 ·refine ⟨.eptr (l.map f) i 0,?_,hf.load hi⟩
  have:=hf.ia (s := .mk l true) (H:=H) (k := .i64) (i:=(i:Int))
  have e:indexAM (.sl sz) H (.s (.slice (l.map f) true)) (.i64 (i:Nat))=gd (0 ≤ (i:Int) ∧ (i:Int) < (l.length:Int)) (.eptr (l.map f) (i:Int).toNat 0):=this
  rw [e,Int.toNat_natCast]
  unfold gd
  rw [if_pos hin]
 ·refine ⟨.aptr id ver (0 + (i:Int).toNat) 0,?_,?_⟩
  ·show indexAM (.sl sz) H (.hsl id ver 0 (l.map f).length) (.s (.int .i64 (i:Int)))=_
   rw [ia_hsl,hH,iaH_sarr,List.length_map]
   unfold gd
   rw [if_pos ⟨hin.1,hin.2,rfl,rfl,by omega⟩]
  ·rw [load_aptr,hH,loadH_map,if_pos rfl,Int.toNat_natCast,Nat.zero_add,if_pos hi,loadS_t,if_pos (by rw [hf.len]; omega),List.drop_zero,List.take_of_length_le (by rw [hf.len]; omega)]
end Go.Vm
