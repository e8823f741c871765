/- For every input the law SqlformatStatements of chapter 24 returns true, and what was handed to it reads as before: the tied card. No condition beyond the card's own. -/
import Derived.Test.YtaepmmmcipolbaaGreatDoorQSfYq
import Derived.Test.YtaepmmmcipolbaaGreatDoorQSfSt
import Derived.SevenTiedAt
import Derived.LaidLaws
set_option linter.unusedVariables false
set_option linter.unusedSimpArgs false
set_option maxRecDepth 100000
namespace Go.Proofs.YtaepmmmcipolbaaGreatDoor
open Go.Vm Go.RowKit
theorem sqlformatStatements_lifted (os:Os) (started:os.Started) (H:Type) (enc:TypeId × Value→H) :
  ReturnsInHanded {} Tryz.checked os 9 .any (fun w args=>(Rows.sqlformatStatementsSpec.pre enc Tryz.prog Tryz.f9 [] false w args ∧ laidMetH Tryz.prog Rows.sqlformatStatementsRow.laid w) ∧ sizedMet enc Tryz.prog Tryz.f9 (OpenSpec.ofChange Rows.sqlformatStatementsSpec) false w args)
   (Rows.sqlformatStatementsSpec.post enc Tryz.prog Tryz.f9 false true false false):=by
 refine returns_laid (C:=Tryz.checked) (X:=fun w _=>laidMetH Tryz.prog Rows.sqlformatStatementsRow.laid w) (fun _ _ _ hh h=>h.of_heap hh) own24 started (by kernel_rfl) Tryz.func9
  (ChangeSpec.witness_shaped (enc:=enc) (C:=Tryz.checked) (os:=os) (X:=fun w _=>laidMetH Tryz.prog Rows.sqlformatStatementsRow.laid w) false (World.laidAll Tryz.prog os laid24) #[.agg #[.int .i64 0,.string ⟨#[]⟩,.string ⟨#[]⟩,.slice none 0 0,.slice none 0 0,.slice none 0 0,.slice none 0 0,.slice none 0 0,.slice none 0 0,.slice none 0 0]] 8
   (World.laidAll_os _ _ _) (World.shaped_of_RefB (by kernel_rfl) (by kernel_rfl)) (by kernel_rfl) (by kernel_rfl) (by kernel_rfl) (laidWorld_met os _)) ?_
 intro W base args ds gs before hval hW hz hL hsh
 have hg:Glob W:=glob24 hL hsh
 refine law_contract_at (C:=Tryz.checked) (E:=EE) (tb:=4) (L:=typesS) rfl mixed24 codesOk24 rfl laidOut24 oktypesS ?_ (by kernel_rfl) Tryz.underlying4 ?_ W ?_ base args ds gs before hval hW hz
 ·have e:Tryz.f9.params.toList=[57]:=by rw [Tryz.params9]
  intro t ht
  rw [e] at ht
  simp only [List.mem_cons,List.not_mem_nil,or_false] at ht
  rcases ht with rfl
  ·exact ⟨by decide,by kernel_rfl,of_decide_eq_true (by kernel_rfl)⟩
 ·intro ds hds
  rw [Tryz.params9] at hds
  match ds,hds with
  | [d1],_=>exact ⟨rfl,rfl,rfl⟩
 ·intro args ha
  rw [Tryz.params9] at ha
  match args,ha with
  | [a],⟨h1,_⟩ =>
   obtain ⟨na,ga⟩:=arg_stmt h1
   obtain ⟨a,rfl,la⟩:=ga (na) (by omega)
   exact ⟨gok24 (tabs24 hL),extOkL rfl rfl hg,stmt_law _ a la⟩
theorem sqlformatStatements_closed:joinedFacts Tryz.pinned.checked.prog 9 Tryz.f9 Rows.sqlformatStatementsSpec Rows.sqlformatStatementsRow=true:=by
 unfold joinedFacts
 simp only [Bool.and_eq_true]
 and_intros
 iterate 16 kernel_rfl
 ·exact any_loops 57 (by kernel_rfl) (by kernel_rfl) loops_57
 all_goals kernel_rfl
theorem sqlformatStatements_row:Rows.SqlformatStatementsSaid :=
 OpenClaim.holds_of_wide 9 Tryz.f9 rfl rfl rfl rfl rfl rfl rfl ⟨rfl,rfl,rfl,rfl,rfl⟩ rfl rfl rfl rfl rfl (by kernel_rfl) Tryz.func9 sqlformatStatements_closed
  (of_decide_eq_true (by kernel_rfl)) (by unfold Func.isWrapper; first | (rw [if_pos (by decide +kernel)]; kernel_rfl) | (rw [if_neg (by decide +kernel)]; exact ⟨rfl,rfl⟩))
  (fun os started H enc _=>sqlformatStatements_lifted os started H enc)
theorem sqlformatStatementsCard_holds:Rows.SqlformatStatementsCardSaid :=
 Claim7.holds_tied_plain_at .later [] [.data,.data,.data,.data,.listed,.data,.data,.data,.data,.data,.pinned] true (true, "34e3c00f988c8c688312a628b1684fa118ba3510191319aa8e16edc9671fa769") false
  sqlformatStatements_row (fun _ h=>by cases h) (by kernel_rfl) (fun _ h=>by cases h) sqlformatStatements_row_tie rfl ⟨rfl,rfl⟩ (by kernel_rfl) rfl
  (fun f fn hf hfn=>by
   obtain rfl:f=9:=Option.some.inj ((show Tryz.prog.funcNamed "lineage/lineagelaw24.SqlformatStatements" = some 9 by kernel_rfl).symm.trans hf) |>.symm
   obtain rfl:fn=Tryz.f9:=(Option.some.inj (Tryz.func9.symm.trans hfn)).symm
   exact ⟨by kernel_rfl,fun j t ht=>by
    rw [Tryz.params9] at ht
    rcases j with _ | j
    ·exact (Option.some.inj ht) ▸ stand_57
    ·simp at ht⟩)
  (by kernel_rfl)
end Go.Proofs.YtaepmmmcipolbaaGreatDoor
