/- Contracts of functions of the program,and the laws that stand on them: what each function answers,whatever its arguments. -/
import Derived.Test.YtaecnniddhikbaaGreatDoorTT
import Derived.Test.YtaecnniddhikbaaGreatDoorVD
import Derived.Test.YtaecnniddhikbaaGreatDoorQ5
import Derived.ChangeMaps5
import Derived.Carry
import Derived.Test.YtaecnniddhikbaaGreatDoorTie
import Derived.Test.YtaecnniddhikbaaGreatDoorCards
set_option linter.unusedSectionVars false
set_option linter.unnecessarySimpa false
set_option linter.unusedSimpArgs false
set_option linter.unusedVariables false
set_option maxRecDepth 100000
set_option maxHeartbeats 8000000
namespace Go.Proofs.YtaecnniddhikbaaGreatDoor
open Go Go.VA Go.RowKit Go.ChangeShapes Go.WideShapes Go.ChangeAt
end Go.Proofs.YtaecnniddhikbaaGreatDoor
namespace Go.Proofs.YtaecnniddhikbaaGreatDoor
open Go Go.VA Go.RowKit Go.ChangeShapes Go.WideShapes Go.ChangeAt
theorem own:ownKnob Tryz.prog.godebug=none:=by kernel_rfl
theorem laidOut:laidOutB Tryz.prog=true:=by kernel_rfl
def kI:List Int:=kN.map Int.ofNat
def bI:List Int:=bN.map Int.ofNat
abbrev nmP (i:Nat):String:=Rows.bindPutsRow.named.getD i ""
abbrev laid8:List (String×DataW Unit):=[(nmP 1,.agg [.lit (.int .i64 2),.lit (.int .i64 0)]),(nmP 0,.agg [.lit (.int .i64 3),.lit (.int .i64 0)]),(nmP 2,.agg [.lit (.int .i64 4),.lit (.int .i64 2)]),(nmP 5,.agg [.lit (.int .i64 4),.lit (.int .i64 3)]),(nmP 3,.agg [.lit (.int .i64 5),.lit (.int .i64 3)]),(nmP 4,.agg [.lit (.int .i64 5),.lit (.int .i64 0)]),(nmP 7,.agg (kI.map fun i=> .lit (.int .u32 i))),(nmP 6,.agg (bI.map fun i=> .lit (.int .u32 i)))]
theorem laid_eq:Rows.bindPutsRow.laid=laid8:=rfl
theorem kN_len:kN.length=64:=by decide
theorem kN_lt:∀ i,i<64→kN.getD i 0<4294967296:=by decide
theorem bN_lt:∀ i,i<8→bN.getD i 0<4294967296:=by decide
theorem cells_k:rndC=kI.map fun i=> .v (.int .u32 i):=by
 refine List.ext_getElem? fun i=> ?_
 by_cases h:i<64
 ·rw [arrC_get,if_pos h,List.getElem?_map,show kI=kN.map Int.ofNat from rfl,List.getElem?_map,List.getElem?_eq_getElem (by rw [kN_len]; exact h)]
  simp only [Option.map_some,cw,VA.wI_def,kT,BitVec.toNat_ofNat]
  rw [Nat.mod_eq_of_lt (kN_lt i h),List.getD_eq_getElem?_getD,List.getElem?_eq_getElem (by rw [kN_len]; exact h)]
  rfl
 ·rw [List.getElem?_eq_none (by rw [arrC_length]; omega),List.getElem?_eq_none (by simp [kI,kN_len]; omega)]
theorem cells_b:cW8 bT=bI.map fun i=> .v (.int .u32 i):=by
 have H:∀ i,i<8→VA.wI (bT i)=(bN.getD i 0:Nat):=fun i hi=>by
  rw [VA.wI_def,bT,BitVec.toNat_ofNat,Nat.mod_eq_of_lt (bN_lt i hi)]
 simp only [cW8,cw,H 0 (by decide),H 1 (by decide),H 2 (by decide),H 3 (by decide),H 4 (by decide),H 5 (by decide),H 6 (by decide),H 7 (by decide)]
 rfl
theorem glOk_laid {W:World} (h:laidMetH Tryz.prog Rows.bindPutsRow.laid W):GlOk gl (S0 W):=by
 rw [laid_eq,MakeChecks.laidMetH_plain _ _ _ (by kernel_rfl)] at h
 obtain ⟨ps,hl,_⟩:=h
 obtain ⟨h2,q2,hl2⟩:=laid_two htb (k:= .i64) (e:=3) (t:=49) (g:=3) rfl rfl rfl (by kernel_rfl) (by kernel_rfl) hl
 obtain ⟨h1,q1,hl1⟩:=laid_two htb (k:= .i64) (e:=3) (t:=49) (g:=2) rfl rfl rfl (by kernel_rfl) (by kernel_rfl) hl2
 obtain ⟨h3,q3,hl3⟩:=laid_two htb (k:= .i64) (e:=3) (t:=49) (g:=4) rfl rfl rfl (by kernel_rfl) (by kernel_rfl) hl1
 obtain ⟨h6,q6,hl6⟩:=laid_two htb (k:= .i64) (e:=3) (t:=49) (g:=7) rfl rfl rfl (by kernel_rfl) (by kernel_rfl) hl3
 obtain ⟨h4,q4,hl4⟩:=laid_two htb (k:= .i64) (e:=3) (t:=49) (g:=5) rfl rfl rfl (by kernel_rfl) (by kernel_rfl) hl6
 obtain ⟨h5,q5,hl5⟩:=laid_two htb (k:= .i64) (e:=3) (t:=49) (g:=6) rfl rfl rfl (by kernel_rfl) (by kernel_rfl) hl4
 obtain ⟨h7,q7,hl7⟩:=laid_ints htb (k:= .u32) (n:=64) (e:=57) (t:=175) (g:=1) rfl rfl rfl (by kernel_rfl) (by kernel_rfl) hl5
 obtain ⟨h0,_⟩:=laid_ints htb (k:= .u32) (n:=8) (e:=57) (t:=147) (g:=0) rfl rfl rfl (by kernel_rfl) (by kernel_rfl) hl7
 intro g
 match g with
 | 0=>exact (congrArg (RepCs _ _ 0) cells_b).mpr h0
 | 1=>exact (congrArg (RepCs _ _ 0) cells_k).mpr h7
 | 2=>exact h1
 | 3=>exact h2
 | 4=>exact h3
 | 5=>exact h4
 | 6=>exact h5
 | 7=>exact h6
 | _+8=>simp [gl,RepCs]
theorem door_met (os:Os) (args:Array Value):laidMetH Tryz.prog Rows.bindPutsRow.laid ((World.doorLaid Tryz.prog 49 os).forCall (fun _ _=>0) ⟨#[],args,[]⟩).memory :=
 laidMetH_of_parts3 (fuel:=8) (laidMet_of_run' 8 (by kernel_rfl) (by kernel_rfl)) (by kernel_rfl) (by kernel_rfl)
end Go.Proofs.YtaecnniddhikbaaGreatDoor
