/- Contracts of functions of the program,and the laws that stand on them: what each function answers,whatever its arguments. -/
import Derived.Test.YtaecnniddhikbaaGreatDoorVo2
import Derived.Test.YtaecnniddhikbaaGreatDoorQ17
set_option linter.unusedSectionVars false
set_option linter.unnecessarySimpa false
set_option linter.unusedSimpArgs false
set_option linter.unusedVariables false
set_option maxRecDepth 100000
set_option maxHeartbeats 8000000
namespace Go.Proofs.YtaecnniddhikbaaGreatDoor
open Go Go.VA Go.RowKit Go.ChangeShapes Go.WideShapes Go.ChangeAt
set_option maxRecDepth 100000 in
theorem bindGets_lifted (os:Os) (started:os.Started) (H:Type) (enc:TypeId×Value→H) :
  ReturnsInHanded {} Tryz.checked os 4 .any (fun w args=>(Rows.bindGetsSpec.pre enc Tryz.prog Tryz.f4 Rows.bindGetsRow.domain false w args∧laidMetH Tryz.prog Rows.bindPutsRow.laid w)∧sizedMet enc Tryz.prog Tryz.f4 (OpenSpec.ofChange Rows.bindGetsSpec) false w args) (Rows.bindGetsSpec.post enc Tryz.prog Tryz.f4 false true false false):=by
 refine law_liftedL Rows.bindPutsRow.laid os started own (by kernel_rfl) Tryz.func4 laidOut (by kernel_rfl) rfl rfl rfl (tb:=4) (by kernel_rfl) (fun ds h=> ?_)
  (ChangeSpec.witness_shaped (enc:=enc) (C:=Tryz.checked) (os:=os) (X:=fun w _=>laidMetH Tryz.prog Rows.bindPutsRow.laid w) false (World.doorLaid Tryz.prog 49 os) #[.slice none 0 0] 8 rfl (World.shaped_of_RefB (by kernel_rfl) (by kernel_rfl)) (by kernel_rfl) (by kernel_rfl) (by kernel_rfl) (door_met os _)) ?_
 ·match ds,h with|[_],_=>rfl
 ·intro W base args ds ps hval hA0 hs hL
  have hA:DataW.TrodAll enc Tryz.prog W 0 (fun _=>true) true [32] args.toList ds ps:=hA0
  obtain ⟨v0,d0,rfl,rfl,h0⟩:=trodAll_one hA
  obtain ⟨x0,e0⟩:=open_bytes htb (t:=32) (e:=5) rfl rfl rfl rfl (hval 0 32 v0 rfl rfl) h0 (hs 0 32 d0 rfl rfl)
  exact acall_true (bindGetsC false x0) W _ (glOk_laid hL) ⟨_,_,rfl,e0,rfl⟩
theorem bindGets_holds:Rows.BindGetsSaid :=
 OpenClaim.holds_of_wide 4 Tryz.f4 rfl rfl rfl rfl rfl rfl rfl ⟨rfl,rfl,rfl,rfl,rfl⟩ rfl rfl rfl rfl rfl (by kernel_rfl) Tryz.func4 (by kernel_rfl)
  (of_decide_eq_true (by kernel_rfl)) (by unfold Func.isWrapper; rw [if_neg (by decide +kernel)]; exact ⟨rfl,rfl⟩)
  (fun os started H enc _=>bindGets_lifted os started H enc)
theorem bindGetsCard_holds:Rows.BindGetsCardSaid :=
 Claim7.holds_tied_plain_at .later [] [.data,.data,.data,.data,.data,.data,.data,.data] true (true,"93e7f3c2f029106c112bfb00ceff755be684bbeaa8556736f0b0d030d69c134c") false
  bindGets_holds (fun _ h=>by cases h) (by kernel_rfl) (fun _ h=>by cases h) bindGets_row_tie rfl ⟨rfl,rfl⟩ (by kernel_rfl) rfl
  (fun f fn hf hfn=>by
   obtain rfl:f=4:=Option.some.inj ((show Tryz.prog.funcNamed Rows.bindGetsRow.func=some 4 by kernel_rfl).symm.trans hf) |>.symm
   obtain rfl:fn=Tryz.f4:=(Option.some.inj (Tryz.func4.symm.trans hfn)).symm
   exact ⟨by kernel_rfl,fun j t ht=>by
    have ht':(#[32]:Array TypeId)[j]? =some t:=ht
    have hm:t ∈ [32]:=by simpa using Array.mem_of_getElem? ht'
    have hall:([32].all fun u=> !Tryz.prog.wantsStandIn u)=true:=by kernel_rfl
    exact (show Tryz.prog.wantsStandIn t=false by simpa using List.all_eq_true.1 hall t hm)⟩)
  (by kernel_rfl)
#print axioms bindGetsCard_holds
end Go.Proofs.YtaecnniddhikbaaGreatDoor
