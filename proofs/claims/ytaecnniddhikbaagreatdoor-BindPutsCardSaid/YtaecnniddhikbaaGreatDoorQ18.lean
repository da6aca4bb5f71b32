/- What functions of the program answer,whatever their arguments. -/
import Derived.Test.YtaecnniddhikbaaGreatDoorVo2
import Derived.Test.YtaecnniddhikbaaGreatDoorQ17
set_option linter.unusedSectionVars false
set_option linter.unnecessarySimpa false
set_option linter.unusedSimpArgs false
set_option linter.unusedVariables false
set_option maxRecDepth 100000
set_option maxHeartbeats 8000000
namespace Go.Proofs.YtaecnniddhikbaaGreatDoor
open Go Go.VA Go.RowKit Go.ChangeShapes Go.WideShapes Go.ChangeAt
set_option maxRecDepth 100000 in
theorem bindPuts_lifted (os:Os)(started:os.Started)(H:Type)(enc:TypeId×Value→H) :
  ReturnsInHanded {} Tryz.checked os 3 .any (fun w args=>(Rows.bindPutsSpec.pre enc Tryz.prog Tryz.f3 Rows.bindPutsRow.domain false w args∧laidMetH Tryz.prog Rows.bindPutsRow.laid w)∧sizedMet enc Tryz.prog Tryz.f3 (OpenSpec.ofChange Rows.bindPutsSpec) false w args) (Rows.bindPutsSpec.post enc Tryz.prog Tryz.f3 false true false false):=by
 refine law_liftedL Rows.bindPutsRow.laid os started own (by kernel_rfl) Tryz.func3 laidOut (by kernel_rfl) rfl rfl rfl (tb:=4) (by kernel_rfl) (fun ds h=> ?_)
  (ChangeSpec.witness_shaped (enc:=enc) (C:=Tryz.checked) (os:=os) (X:=fun w _=>laidMetH Tryz.prog Rows.bindPutsRow.laid w) false (World.doorLaid Tryz.prog 49 os) #[zPlV] 8 rfl (World.shaped_of_RefB (by kernel_rfl) (by kernel_rfl)) (by kernel_rfl) (by kernel_rfl) (by kernel_rfl) (door_met os _)) ?_
 ·match ds,h with|[_],_=>rfl
 ·intro W base args ds ps hval hA0 hs hL
  have hA:DataW.TrodAll enc Tryz.prog W 0 (fun _=>true) true [29] args.toList ds ps:=hA0
  obtain ⟨v0,d0,rfl,rfl,h0⟩:=trodAll_one hA
  obtain ⟨x0,e0,r0⟩:=open_plan (hval 0 29 v0 rfl rfl) h0 (hs 0 29 d0 rfl rfl)
  exact acall_true (bindPutsC x0 r0) W _ (glOk_laid hL) ⟨_,_,rfl,e0,rfl⟩
theorem bindPuts_holds:Rows.BindPutsSaid :=
 OpenClaim.holds_of_wide 3 Tryz.f3 rfl rfl rfl rfl rfl rfl rfl ⟨rfl,rfl,rfl,rfl,rfl⟩ rfl rfl rfl rfl rfl (by kernel_rfl) Tryz.func3 (by kernel_rfl)
  (of_decide_eq_true (by kernel_rfl)) (by unfold Func.isWrapper; rw [if_neg (by decide +kernel)]; exact ⟨rfl,rfl⟩)
  (fun os started H enc _=>bindPuts_lifted os started H enc)
theorem bindPutsCard_holds:Rows.BindPutsCardSaid :=
 Claim7.holds_tied_plain_at .later [] [.data,.data,.data,.data,.data,.data,.data,.data] true (true,"93e7f3c2f029106c112bfb00ceff755be684bbeaa8556736f0b0d030d69c134c") false
  bindPuts_holds (fun _ h=>by cases h) (by kernel_rfl) (fun _ h=>by cases h) bindPuts_row_tie rfl ⟨rfl,rfl⟩ (by kernel_rfl) rfl
  (fun f fn hf hfn=>by
   obtain rfl:f=3:=Option.some.inj ((show Tryz.prog.funcNamed Rows.bindPutsRow.func=some 3 by kernel_rfl).symm.trans hf) |>.symm
   obtain rfl:fn=Tryz.f3:=(Option.some.inj (Tryz.func3.symm.trans hfn)).symm
   exact ⟨by kernel_rfl,fun j t ht=>by
    have ht':(#[29]:Array TypeId)[j]? =some t:=ht
    have hm:t ∈ [29]:=by simpa using Array.mem_of_getElem? ht'
    have hall:([29].all fun u=> !Tryz.prog.wantsStandIn u)=true:=by kernel_rfl
    exact (show Tryz.prog.wantsStandIn t=false by simpa using List.all_eq_true.1 hall t hm)⟩)
  (by kernel_rfl)
#print axioms bindPutsCard_holds
end Go.Proofs.YtaecnniddhikbaaGreatDoor
