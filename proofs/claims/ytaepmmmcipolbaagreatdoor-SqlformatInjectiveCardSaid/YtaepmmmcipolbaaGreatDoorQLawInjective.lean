/- For every input the law SqlformatInjective of chapter 24 returns true, and what was handed to it reads as before: the tied card. No condition beyond the card's own. -/
import Derived.Test.YtaepmmmcipolbaaGreatDoorQSfYq
import Derived.Test.YtaepmmmcipolbaaGreatDoorQSfQq
import Derived.SevenTiedAt
import Derived.LaidLaws
set_option linter.unusedVariables false
set_option linter.unusedSimpArgs false
set_option maxRecDepth 100000
namespace Go.Proofs.YtaepmmmcipolbaaGreatDoor
open Go.Vm Go.RowKit
theorem sqlformatInjective_lifted (os:Os) (started:os.Started) (H:Type) (enc:TypeId × Value→H) :
  ReturnsInHanded {} Tryz.checked os 5 .any (fun w args=>(Rows.sqlformatInjectiveSpec.pre enc Tryz.prog Tryz.f5 [] false w args ∧ laidMetH Tryz.prog Rows.sqlformatInjectiveRow.laid w) ∧ sizedMet enc Tryz.prog Tryz.f5 (OpenSpec.ofChange Rows.sqlformatInjectiveSpec) false w args)
   (Rows.sqlformatInjectiveSpec.post enc Tryz.prog Tryz.f5 false true false false):=by
 refine returns_laid (C:=Tryz.checked) (X:=fun w _=>laidMetH Tryz.prog Rows.sqlformatInjectiveRow.laid w) (fun _ _ _ hh h=>h.of_heap hh) own24 started (by kernel_rfl) Tryz.func5
  (ChangeSpec.witness_shaped (enc:=enc) (C:=Tryz.checked) (os:=os) (X:=fun w _=>laidMetH Tryz.prog Rows.sqlformatInjectiveRow.laid w) false (World.laidAll Tryz.prog os laid24) #[.agg #[.int .i64 0,.int .i64 0,.int .i64 0,.string ⟨#[]⟩,.string ⟨#[]⟩,.string ⟨#[]⟩,.int .i64 0,.int .i64 0,.slice none 0 0],.agg #[.int .i64 0,.int .i64 0,.int .i64 0,.string ⟨#[]⟩,.string ⟨#[]⟩,.string ⟨#[]⟩,.int .i64 0,.int .i64 0,.slice none 0 0],.agg #[.int .i64 0,.slice none 0 0,.bool false,.slice none 0 0,.slice none 0 0,.slice none 0 0,.slice none 0 0,.slice none 0 0,.slice none 0 0,.slice none 0 0],.agg #[.int .i64 0,.slice none 0 0,.bool false,.slice none 0 0,.slice none 0 0,.slice none 0 0,.slice none 0 0,.slice none 0 0,.slice none 0 0,.slice none 0 0]] 8
   (World.laidAll_os _ _ _) (World.shaped_of_RefB (by kernel_rfl) (by kernel_rfl)) (by kernel_rfl) (by kernel_rfl) (by kernel_rfl) (laidWorld_met os _)) ?_
 intro W base args ds gs before hval hW hz hL hsh
 have hg:Glob W:=glob24 hL hsh
 refine law_contract_at (C:=Tryz.checked) (E:=EE) (tb:=4) (L:=typesQ) rfl mixed24 codesOk24 rfl laidOut24 oktypesQ ?_ (by kernel_rfl) Tryz.underlying4 ?_ W ?_ base args ds gs before hval hW hz
 ·have e:Tryz.f5.params.toList=[26,26,38,38]:=by rw [Tryz.params5]
  intro t ht
  rw [e] at ht
  simp only [List.mem_cons,List.not_mem_nil,or_false] at ht
  rcases ht with rfl | rfl | rfl | rfl
  ·exact ⟨by decide,by kernel_rfl,of_decide_eq_true (by kernel_rfl)⟩
  ·exact ⟨by decide,by kernel_rfl,of_decide_eq_true (by kernel_rfl)⟩
  ·exact ⟨by decide,by kernel_rfl,of_decide_eq_true (by kernel_rfl)⟩
  ·exact ⟨by decide,by kernel_rfl,of_decide_eq_true (by kernel_rfl)⟩
 ·intro ds hds
  rw [Tryz.params5] at hds
  match ds,hds with
  | [d1,d2,d3,d4],_=>exact ⟨rfl,rfl,rfl⟩
 ·intro args ha
  rw [Tryz.params5] at ha
  match args,ha with
  | [a,b,c,d],⟨h1,h2,h3,h4,_⟩ =>
   obtain ⟨nc,gc⟩:=arg_query h3
   obtain ⟨nd,gd⟩:=arg_query h4
   obtain ⟨a,rfl,la⟩:=arg_expr h1
   obtain ⟨b,rfl,lb⟩:=arg_expr h2
   obtain ⟨c,rfl,lc⟩:=gc (nc + nd) (by omega)
   obtain ⟨d,rfl,ld⟩:=gd (nc + nd) (by omega)
   exact ⟨gok24 (tabs24 hL),extOkL rfl rfl hg,inj_law _ a la b lb c lc d ld⟩
theorem sqlformatInjective_closed:joinedFacts Tryz.pinned.checked.prog 5 Tryz.f5 Rows.sqlformatInjectiveSpec Rows.sqlformatInjectiveRow=true:=by
 unfold joinedFacts
 simp only [Bool.and_eq_true]
 and_intros
 iterate 16 kernel_rfl
 ·exact any_loops 38 (by kernel_rfl) (by kernel_rfl) loops_38
 all_goals kernel_rfl
theorem sqlformatInjective_row:Rows.SqlformatInjectiveSaid :=
 OpenClaim.holds_of_wide 5 Tryz.f5 rfl rfl rfl rfl rfl rfl rfl ⟨rfl,rfl,rfl,rfl,rfl⟩ rfl rfl rfl rfl rfl (by kernel_rfl) Tryz.func5 sqlformatInjective_closed
  (of_decide_eq_true (by kernel_rfl)) (by unfold Func.isWrapper; first | (rw [if_pos (by decide +kernel)]; kernel_rfl) | (rw [if_neg (by decide +kernel)]; exact ⟨rfl,rfl⟩))
  (fun os started H enc _=>sqlformatInjective_lifted os started H enc)
theorem sqlformatInjectiveCard_holds:Rows.SqlformatInjectiveCardSaid :=
 Claim7.holds_tied_plain_at .later [] [.data,.data,.data,.data,.listed,.data,.data,.data,.data,.data,.pinned] true (true, "34e3c00f988c8c688312a628b1684fa118ba3510191319aa8e16edc9671fa769") false
  sqlformatInjective_row (fun _ h=>by cases h) (by kernel_rfl) (fun _ h=>by cases h) sqlformatInjective_row_tie rfl ⟨rfl,rfl⟩ (by kernel_rfl) rfl
  (fun f fn hf hfn=>by
   obtain rfl:f=5:=Option.some.inj ((show Tryz.prog.funcNamed "lineage/lineagelaw24.SqlformatInjective" = some 5 by kernel_rfl).symm.trans hf) |>.symm
   obtain rfl:fn=Tryz.f5:=(Option.some.inj (Tryz.func5.symm.trans hfn)).symm
   exact ⟨by kernel_rfl,fun j t ht=>by
    rw [Tryz.params5] at ht
    rcases j with _ | _ | _ | _ | j
    ·exact (Option.some.inj ht) ▸ stand_26
    ·exact (Option.some.inj ht) ▸ stand_26
    ·exact (Option.some.inj ht) ▸ stand_38
    ·exact (Option.some.inj ht) ▸ stand_38
    ·simp at ht⟩)
  (by kernel_rfl)
end Go.Proofs.YtaepmmmcipolbaaGreatDoor
