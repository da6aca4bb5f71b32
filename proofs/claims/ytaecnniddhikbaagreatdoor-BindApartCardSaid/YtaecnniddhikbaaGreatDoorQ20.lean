/- Contracts of functions of the program,and the laws that stand on them: what each function answers,whatever its arguments. -/
import Derived.Test.YtaecnniddhikbaaGreatDoorVo2
import Derived.Test.YtaecnniddhikbaaGreatDoorQ16
set_option linter.unusedSectionVars false
set_option linter.unnecessarySimpa false
set_option linter.unusedSimpArgs false
set_option linter.unusedVariables false
set_option maxRecDepth 100000
set_option maxHeartbeats 8000000
namespace Go.Proofs.YtaecnniddhikbaaGreatDoor
open Go Go.VA Go.RowKit Go.ChangeShapes Go.WideShapes Go.ChangeAt
set_option maxRecDepth 100000 in
theorem bindApart_lifted (os:Os) (started:os.Started) (H:Type) (enc:TypeId×Value→H) :
  ReturnsInHanded {} Tryz.checked os 5 .any (fun w args=>(Rows.bindApartSpec.pre enc Tryz.prog Tryz.f5 Rows.bindApartRow.domain false w args∧laidMetH Tryz.prog Rows.bindPutsRow.laid w)∧sizedMet enc Tryz.prog Tryz.f5 (OpenSpec.ofChange Rows.bindApartSpec) false w args) (Rows.bindApartSpec.post enc Tryz.prog Tryz.f5 false true false false):=by
 refine law_liftedL Rows.bindPutsRow.laid os started own (by kernel_rfl) Tryz.func5 laidOut (by kernel_rfl) rfl rfl rfl (tb:=4) (by kernel_rfl) (fun ds h=> ?_)
  (ChangeSpec.witness_shaped (enc:=enc) (C:=Tryz.checked) (os:=os) (X:=fun w _=>laidMetH Tryz.prog Rows.bindPutsRow.laid w) false (World.doorLaid Tryz.prog 49 os) #[zPlV,zPlV,.int .i64 0,.slice none 0 0] 8 rfl (World.shaped_of_RefB (by kernel_rfl) (by kernel_rfl)) (by kernel_rfl) (by kernel_rfl) (by kernel_rfl) (door_met os _)) ?_
 ·match ds,h with|[_,_,_,_],_=>rfl
 ·intro W base args ds ps hval hA0 hs hL
  have hA:DataW.TrodAll enc Tryz.prog W 0 (fun _=>true) true [29,29,3,32] args.toList ds ps:=hA0
  obtain ⟨v0,v1,v2,v3,d0,d1,d2,d3,p0,p1,p2,p3,rfl,rfl,rfl,h0,h1,h2,h3⟩:=trodAll_four hA
  obtain ⟨x0,e0,r0⟩:=open_plan (hval 0 29 v0 rfl rfl) h0 (hs 0 29 d0 rfl rfl)
  obtain ⟨x1,e1,r1⟩:=open_plan (hval 1 29 v1 rfl rfl) h1 (hs 1 29 d1 rfl rfl)
  obtain ⟨x2,rfl,_⟩:=open_int (k:= .i64) (by kernel_rfl) (hval 2 3 v2 rfl rfl) h2
  obtain ⟨x3,e3⟩:=open_bytes htb (t:=32) (e:=5) rfl rfl rfl rfl (hval 3 32 v3 rfl rfl) h3 (hs 3 32 d3 rfl rfl)
  exact acall_true (aBindApart x0 x1 x2 false x3 r0 r1) W _ (glOk_laid hL) ⟨_,_,rfl,e0,_,_,rfl,e1,_,_,rfl,by show RelV _ _ (.c (.v (.int .i64 x2))) _; simp [RelV,RepC,Value.oneCell'],_,_,rfl,e3,rfl⟩
theorem bindApart_holds:Rows.BindApartSaid :=
 OpenClaim.holds_of_wide 5 Tryz.f5 rfl rfl rfl rfl rfl rfl rfl ⟨rfl,rfl,rfl,rfl,rfl⟩ rfl rfl rfl rfl rfl (by kernel_rfl) Tryz.func5 (by kernel_rfl)
  (of_decide_eq_true (by kernel_rfl)) (by unfold Func.isWrapper; rw [if_neg (by decide +kernel)]; exact ⟨rfl,rfl⟩)
  (fun os started H enc _=>bindApart_lifted os started H enc)
theorem bindApartCard_holds:Rows.BindApartCardSaid :=
 Claim7.holds_tied_plain_at .later [] [.data,.data,.data,.data,.data,.data,.data,.data] true (true,"93e7f3c2f029106c112bfb00ceff755be684bbeaa8556736f0b0d030d69c134c") false
  bindApart_holds (fun _ h=>by cases h) (by kernel_rfl) (fun _ h=>by cases h) bindApart_row_tie rfl ⟨rfl,rfl⟩ (by kernel_rfl) rfl
  (fun f fn hf hfn=>by
   obtain rfl:f=5:=Option.some.inj ((show Tryz.prog.funcNamed Rows.bindApartRow.func=some 5 by kernel_rfl).symm.trans hf) |>.symm
   obtain rfl:fn=Tryz.f5:=(Option.some.inj (Tryz.func5.symm.trans hfn)).symm
   exact ⟨by kernel_rfl,fun j t ht=>by
    have ht':(#[29,29,3,32]:Array TypeId)[j]? =some t:=ht
    have hm:t ∈ [29,29,3,32]:=by simpa using Array.mem_of_getElem? ht'
    have hall:([29,29,3,32].all fun u=> !Tryz.prog.wantsStandIn u)=true:=by kernel_rfl
    exact (show Tryz.prog.wantsStandIn t=false by simpa using List.all_eq_true.1 hall t hm)⟩)
  (by kernel_rfl)
#print axioms bindApartCard_holds
end Go.Proofs.YtaecnniddhikbaaGreatDoor
