/- Contracts of functions of the program,and the laws that stand on them: what each function answers,whatever its arguments. -/
import Derived.Test.YtiodgjgngfklkaaGreatDoorVo2
import Derived.Test.YtiodgjgngfklkaaGreatDoorVN3
set_option linter.all false
set_option maxRecDepth 100000
set_option maxHeartbeats 8000000
namespace Go.Proofs.YtiodgjgngfklkaaGreatDoor
open Go Go.VA Go.RowKit Go.ChangeShapes Go.WideShapes Go.ChangeAt
set_option maxRecDepth 100000 in
theorem vaultNil_lifted (os:Os)(started:os.Started)(H:Type)(enc:TypeId×Value→H) :
  ReturnsInHanded {} Tryz.checked os 3 .any (fun w args=>(Rows.vaultNilSpec.pre enc Tryz.prog Tryz.f3 Rows.vaultNilRow.domain false w args∧laidMetH Tryz.prog Rows.vaultNilRow.laid w)∧sizedMet enc Tryz.prog Tryz.f3 (OpenSpec.ofChange Rows.vaultNilSpec) false w args) (Rows.vaultNilSpec.post enc Tryz.prog Tryz.f3 false true false false):=by
 refine law_liftedL Rows.vaultNilRow.laid os started own (by kernel_rfl) Tryz.func3 laidOut (by kernel_rfl) rfl rfl rfl (tb:=4) (by kernel_rfl) (fun ds h=> ?_)
  (ChangeSpec.witness_shaped (enc:=enc) (C:=Tryz.checked) (os:=os) (X:=fun w _=>laidMetH Tryz.prog Rows.vaultNilRow.laid w) false (World.doorLaid Tryz.prog 49 os) #[.int .u64 0,zStV,zInV] 8 rfl (World.shaped_of_RefB (by kernel_rfl) (by kernel_rfl)) (by kernel_rfl) (by kernel_rfl) (by kernel_rfl) (door_met os _)) ?_
 ·match ds,h with|[_,_,_],_=>rfl
 ·intro W base args ds ps hval hA0 hs hL
  have hA:DataW.TrodAll enc Tryz.prog W 0 (fun _=>true) true [22,25,32] args.toList ds ps:=hA0
  obtain ⟨v0,v1,v2,d0,d1,d2,p0,p1,p2,rfl,rfl,rfl,h0,h1,h2⟩:=trodAll_three hA
  obtain ⟨x0,rfl,_,_,g0⟩:=open_int (k:= .u64) (by kernel_rfl) (hval 0 22 v0 rfl rfl) h0
  have b0:IntKind.u64.min≤x0∧x0≤IntKind.u64.max:=by simpa only [Lit.wf,Bool.and_eq_true,decide_eq_true_eq] using g0
  obtain ⟨x1,e1,r1⟩:=open_state (hval 1 25 v1 rfl rfl) h1 (hs 1 25 d1 rfl rfl)
  obtain ⟨x2,e2,r2⟩:=open_intent (hval 2 32 v2 rfl rfl) h2
  exact acall_true (aVaultNil x0 x1 x2 b0.1 (Int.lt_of_le_of_lt b0.2 (by decide)) r1 r2) W _ (glOk_laid hL) ⟨_,_,rfl,by show RelV _ _ (.c (.v (.int .u64 x0))) _; simp [RelV,RepC,Value.oneCell'],_,_,rfl,e1,_,_,rfl,e2 _,rfl⟩
theorem vaultNil_holds:Rows.VaultNilSaid :=
 OpenClaim.holds_of_wide 3 Tryz.f3 rfl rfl rfl rfl rfl rfl rfl ⟨rfl,rfl,rfl,rfl,rfl⟩ rfl rfl rfl rfl rfl (by kernel_rfl) Tryz.func3 (by kernel_rfl)
  (of_decide_eq_true (by kernel_rfl)) (by unfold Func.isWrapper; rw [if_neg (by decide +kernel)]; exact ⟨rfl,rfl⟩)
  (fun os started H enc _=>vaultNil_lifted os started H enc)
theorem vaultNilCard_holds:Rows.VaultNilCardSaid :=
 Claim7.holds_tied_plain_at .later [] [.data,.data,.data,.data,.data,.data,.data,.data] true (true,"47748a2bdb0fde960b2bceb712f97ad14e4f8e2a4e3e4cf82047fb085dc1ad3b") true
  vaultNil_holds (fun _ h=>by cases h) (by kernel_rfl) (fun _ h=>by cases h) vaultNil_row_tie rfl ⟨rfl,rfl⟩ (by kernel_rfl) rfl
  (fun f fn hf hfn=>by
   obtain rfl:f=3:=Option.some.inj ((show Tryz.prog.funcNamed Rows.vaultNilRow.func=some 3 by kernel_rfl).symm.trans hf) |>.symm
   obtain rfl:fn=Tryz.f3:=(Option.some.inj (Tryz.func3.symm.trans hfn)).symm
   exact ⟨by kernel_rfl,fun j t ht=>by
    have ht':(#[22,25,32]:Array TypeId)[j]? =some t:=ht
    have hm:t ∈ [22,25,32]:=by simpa using Array.mem_of_getElem? ht'
    have hall:([22,25,32].all fun u=> !Tryz.prog.wantsStandIn u)=true:=by kernel_rfl
    exact (show Tryz.prog.wantsStandIn t=false by simpa using List.all_eq_true.1 hall t hm)⟩)
  (by kernel_rfl)
#print axioms vaultNilCard_holds
end Go.Proofs.YtiodgjgngfklkaaGreatDoor
