/- What functions of the program answer,whatever their arguments. -/
import Derived.Test.YtaecnniddhikbaaGreatDoorTT
import Derived.Test.YtaecnniddhikbaaGreatDoorVD
import Derived.Test.YtaecnniddhikbaaGreatDoorQ5
import Derived.ChangeMaps5
import Derived.Carry
import Derived.Test.YtaecnniddhikbaaGreatDoorTie
import Derived.Test.YtaecnniddhikbaaGreatDoorCards
set_option linter.unusedSectionVars false
set_option linter.unnecessarySimpa false
set_option linter.unusedSimpArgs false
set_option linter.unusedVariables false
set_option maxRecDepth 100000
set_option maxHeartbeats 8000000
namespace Go.Proofs.YtaecnniddhikbaaGreatDoor
open Go Go.VA Go.RowKit Go.ChangeShapes Go.WideShapes Go.ChangeAt
section
variable {H:Type} {enc:TypeId×Value→H} {W:World} {base:Nat} {sp:Nat→Bool} {held:Bool}
theorem repVs_app {S:Rd}:∀ {xs ys:List C} {us vs:List Value},RepVs S xs us→RepVs S ys vs→RepVs S (xs++ys) (us++vs)
 | [],ys,us,vs,h,h2=>by simp only [RepVs] at h; subst h; simpa using h2
 | x::xs,ys,us,vs,h,h2=>by
  simp only [RepVs] at h
  obtain ⟨u,r,rfl,h3,h4⟩:=h
  simp only [List.cons_append,RepVs]
  exact ⟨u,_,rfl,h3,repVs_app h4 h2⟩
theorem repVs_one {S:Rd}{x:C}{u:Value}(h:RepC S x u):RepVs S [x] [u]:=by simp only [RepVs]; exact ⟨u,[],rfl,h,rfl⟩
theorem open_strs {fuel:Nat}{cs:List Value}{x:DataW H×List MemPlace}(h:DataW.trod enc Tryz.prog W base sp held fuel 47 cs=some x)(hs:SzW Tryz.prog 47 x.1):∃ l:List ByteArray,∃ u,cs=[u]∧RepC (S0 W) (.sl false 1 l.length (rS l)) u:=by
 obtain ⟨a,len,cap,m,rfl,rfl,hlc,hcap0,hrows⟩:=tr_sliceS htb (t:=47) (e:=9) rfl rfl (by decide) h hs
 have hcap:len*16≤140737488351232:=hcap0
 have key:len=0∨∃ b o,a=some ⟨b,o,none⟩∧∃ l:List ByteArray,l.length=len∧∀ i,i<len→∃ ce:List Value,ce.length=1∧(∀ j,j<1→∀ u,ce[j]? =some u→S0 W false b (o+i*1+j) u)∧RepVs (S0 W) (rS l i) ce:=by
  rcases hrows with h0|⟨b,o,rfl,hr⟩
  ·exact .inl h0
  ·refine .inr ⟨b,o,rfl,?_⟩
   have hex:∀ i:Fin len,∃ s:ByteArray,W.cell? ⟨b,o+i*1,none⟩=some (.string s):=by
    intro ⟨i,hi⟩
    obtain ⟨ce,y,hl,hc,ht,_⟩:=hr i hi
    obtain ⟨s,rfl,_⟩:=tr_str htb (t:=9) rfl ht
    refine ⟨s,?_⟩
    have:=hc 0 (by decide)
    exact this
   have hf:=fun i=>Classical.choose_spec (hex i)
   refine ⟨List.ofFn fun i=>Classical.choose (hex i),by simp,fun i hi=>⟨[.string (Classical.choose (hex ⟨i,hi⟩))],rfl,fun j hj u hu=> ?_,?_⟩⟩
   ·obtain rfl:j=0:=by omega
    simp at hu
    subst hu
    have:=hf ⟨i,hi⟩
    simpa [S0] using this
   ·have:rS (List.ofFn fun i=>Classical.choose (hex i)) i=[.v (.string (Classical.choose (hex ⟨i,hi⟩)))]:=by
     simp [rS,rowE,cS,List.getD_eq_getElem?_getD,hi]
    rw [this]
    exact repVs_one repV_s
 rcases key with h0|⟨b,o,rfl,l,hl,hr⟩
 ·subst h0
  exact ⟨[],_,rfl,repC_rows ⟨hlc,by simp⟩ (.inl rfl)⟩
 ·subst hl
  refine ⟨l,_,rfl,repC_rows ⟨hlc,by omega⟩ (.inr ⟨b,o,rfl,fun i hi=> ?_⟩)⟩
  obtain ⟨ce,h1,h2,h3⟩:=hr i hi
  exact ⟨ce,h1,fun j hj u hu=>h2 j hj u hu,by simp [rS,rowE,cS],h3⟩
theorem len8 {l:List Value}(h:l.length=8):∃ a b c d e f g i,l=[a,b,c,d,e,f,g,i]:=by
 match l,h with
 | [a,b,c,d,e,f,g,i],_=>exact ⟨_,_,_,_,_,_,_,_,rfl⟩
theorem open_V (n:Nat):∀ (fuel:Nat),fuel<n→∀ (cs:List Value) (x:DataW H×List MemPlace),DataW.trod enc Tryz.prog W base sp held fuel 51 cs=some x→SzW Tryz.prog 51 x.1→∃ v:V,RepVs (S0 W) (cV v) cs∧rgV v=true:=by
 induction n with
 | zero=>intro fuel h; omega
 | succ n ih =>
  intro fuel hfu cs x h hs
  obtain ⟨hl,m,rfl,hx⟩:=tr_structS htb (t:=51) rfl h hs
  obtain ⟨c0,c1,c2,c3,c4,c5,c6,c7,rfl⟩:=len8 hl
  obtain ⟨y0,h0,s0⟩:=hx 0 0 3 rfl rfl
  obtain ⟨y1,h1,s1⟩:=hx 1 1 2 rfl rfl
  obtain ⟨y2,h2,s2⟩:=hx 2 2 9 rfl rfl
  obtain ⟨y3,h3,s3⟩:=hx 3 3 46 rfl rfl
  obtain ⟨y4,h4,s4⟩:=hx 4 4 47 rfl rfl
  obtain ⟨y5,h5,s5⟩:=hx 5 5 49 rfl rfl
  obtain ⟨y6,h6,s6⟩:=hx 6 7 4 rfl rfl
  obtain ⟨k,e0,_⟩:=tr_int htb (t:=3) (k:= .i64) rfl h0
  obtain ⟨i,e1,i0,i1⟩:=tr_int htb (t:=2) (k:= .i64) rfl h1
  obtain ⟨s,e2,_⟩:=tr_str htb (t:=9) rfl h2
  obtain ⟨ks,u4,e4,r4⟩:=open_strs h4 s4
  obtain ⟨se,e6⟩:=tr_bool htb (t:=4) rfl h6
  obtain ⟨hl5,m5,rfl,hx5⟩:=tr_struct htb (t:=49) rfl h5
  obtain ⟨z0,g0⟩:=hx5 0 0 3 rfl rfl
  obtain ⟨z1,g1⟩:=hx5 1 1 3 rfl rfl
  obtain ⟨tk,e50,_⟩:=tr_int htb (t:=3) (k:= .i64) rfl g0
  obtain ⟨to,e51,_⟩:=tr_int htb (t:=3) (k:= .i64) rfl g1
  obtain ⟨a,len,cap,m3,e3,hm3,hlc,hcap0,hrows⟩:=tr_sliceS htb (t:=46) (e:=51) rfl rfl (by decide) h3 s3
  have hcap:len*104≤140737488351232:=hcap0
  simp [tb,tbl,VA.look] at e0 e1 e2 e3 e4 e6 e50 e51
  subst e0; subst e1; subst e2; subst e3; subst e4; subst e6; subst e50; subst e51
  have key:∃ l:List V,RepC (S0 W) (.sl false 8 l.length (rV l)) (.slice a len cap)∧∀ x ∈ l,rgV x=true:=by
   rcases hrows with h0|⟨b,o,rfl,hr⟩
   ·subst h0
    exact ⟨[],repC_rows ⟨hlc,by simp⟩ (.inl rfl),fun x hx=>absurd hx (by simp)⟩
   ·have hex:∀ i:Fin len,∃ v:V,∃ ce:List Value,ce.length=8∧(∀ j,j<8→W.cell? ⟨b,o+i*8+j,none⟩=ce[j]?)∧RepVs (S0 W) (cV v) ce∧rgV v=true:=by
     intro ⟨i,hi⟩
     obtain ⟨ce,y,hl,hc,ht,hsy⟩:=hr i hi
     obtain ⟨v,hv,hg⟩:=ih m3 (by omega) ce y ht hsy
     exact ⟨v,ce,hl,hc,hv,hg⟩
    have hf:=fun i=>Classical.choose_spec (hex i)
    refine ⟨List.ofFn fun i=>Classical.choose (hex i),?_,fun x hx=> ?_⟩
    rotate_left
    ·obtain ⟨i,rfl⟩:=List.mem_ofFn.1 hx
     obtain ⟨_,_,_,_,g⟩:=hf i
     exact g
    rw [List.length_ofFn]
    refine repC_rows ⟨hlc,by omega⟩ (.inr ⟨b,o,rfl,fun i hi=> ?_⟩)
    obtain ⟨ce,g1,g2,g3,_⟩:=hf ⟨i,hi⟩
    have hrow:rV (List.ofFn fun i=>Classical.choose (hex i)) i=cV (Classical.choose (hex ⟨i,hi⟩)):=by
     rw [rV_get (by simpa using hi)]; simp
    rw [hrow]
    refine ⟨ce,g1,fun j hj u hu=> ?_,rfl,g3⟩
    have:=g2 j hj
    rw [hu] at this
    exact this
  obtain ⟨l,r3,hg⟩:=key
  refine ⟨.mk k i s l ks tk to se,?_,?_⟩
  rotate_left
  ·rw [rgV_eq]
   simp only [V.i,V.l,Bool.and_eq_true,decide_eq_true_eq,List.all_eq_true]
   exact ⟨⟨decide_eq_true i0,decide_eq_true i1⟩,hg⟩
  show RepVs (S0 W) [.v (.int .i64 k),.v (.int .i64 i),.v (.string s),.sl false 8 l.length (rV l),.sl false 1 ks.length (rS ks),.v (.int .i64 tk),.v (.int .i64 to),.v (.bool se)] _
  simp only [RepVs]
  exact ⟨_,_,rfl,repV_i,_,_,rfl,repV_i,_,_,rfl,repV_s,_,_,rfl,r3,_,_,rfl,r4,_,_,rfl,repV_i,_,_,rfl,repV_i,_,_,rfl,repV_b,rfl⟩
end
end Go.Proofs.YtaecnniddhikbaaGreatDoor
namespace Go.Proofs.YtaecnniddhikbaaGreatDoor
open Go Go.VA Go.RowKit Go.ChangeShapes Go.WideShapes Go.ChangeAt
theorem own:ownKnob Tryz.prog.godebug=none:=by kernel_rfl
theorem laidOut:laidOutB Tryz.prog=true:=by kernel_rfl
def kI:List Int:=kN.map Int.ofNat
def bI:List Int:=bN.map Int.ofNat
abbrev nmP (i:Nat):String:=Rows.bindPutsRow.named.getD i ""
abbrev laid8:List (String×DataW Unit):=[(nmP 1,.agg [.lit (.int .i64 2),.lit (.int .i64 0)]),(nmP 0,.agg [.lit (.int .i64 3),.lit (.int .i64 0)]),(nmP 2,.agg [.lit (.int .i64 4),.lit (.int .i64 2)]),(nmP 5,.agg [.lit (.int .i64 4),.lit (.int .i64 3)]),(nmP 3,.agg [.lit (.int .i64 5),.lit (.int .i64 3)]),(nmP 4,.agg [.lit (.int .i64 5),.lit (.int .i64 0)]),(nmP 7,.agg (kI.map fun i=> .lit (.int .u32 i))),(nmP 6,.agg (bI.map fun i=> .lit (.int .u32 i)))]
theorem laid_eq:Rows.bindPutsRow.laid=laid8:=rfl
theorem kN_len:kN.length=64:=by decide
theorem kN_lt:∀ i,i<64→kN.getD i 0<4294967296:=by decide
theorem bN_lt:∀ i,i<8→bN.getD i 0<4294967296:=by decide
theorem cells_k:rndC=kI.map fun i=> .v (.int .u32 i):=by
 refine List.ext_getElem? fun i=> ?_
 by_cases h:i<64
 ·rw [arrC_get,if_pos h,List.getElem?_map,show kI=kN.map Int.ofNat from rfl,List.getElem?_map,List.getElem?_eq_getElem (by rw [kN_len]; exact h)]
  simp only [Option.map_some,cw,VA.wI_def,kT,BitVec.toNat_ofNat]
  rw [Nat.mod_eq_of_lt (kN_lt i h),List.getD_eq_getElem?_getD,List.getElem?_eq_getElem (by rw [kN_len]; exact h)]
  rfl
 ·rw [List.getElem?_eq_none (by rw [arrC_length]; omega),List.getElem?_eq_none (by simp [kI,kN_len]; omega)]
theorem cells_b:cW8 bT=bI.map fun i=> .v (.int .u32 i):=by
 have H:∀ i,i<8→VA.wI (bT i)=(bN.getD i 0:Nat):=fun i hi=>by
  rw [VA.wI_def,bT,BitVec.toNat_ofNat,Nat.mod_eq_of_lt (bN_lt i hi)]
 simp only [cW8,cw,H 0 (by decide),H 1 (by decide),H 2 (by decide),H 3 (by decide),H 4 (by decide),H 5 (by decide),H 6 (by decide),H 7 (by decide)]
 rfl
theorem glOk_laid {W:World}(h:laidMetH Tryz.prog Rows.bindPutsRow.laid W):GlOk gl (S0 W):=by
 rw [laid_eq,MakeChecks.laidMetH_plain _ _ _ (by kernel_rfl)] at h
 obtain ⟨ps,hl,_⟩:=h
 obtain ⟨h2,q2,hl2⟩:=laid_two htb (k:= .i64) (e:=3) (t:=49) (g:=3) rfl rfl rfl (by kernel_rfl) (by kernel_rfl) hl
 obtain ⟨h1,q1,hl1⟩:=laid_two htb (k:= .i64) (e:=3) (t:=49) (g:=2) rfl rfl rfl (by kernel_rfl) (by kernel_rfl) hl2
 obtain ⟨h3,q3,hl3⟩:=laid_two htb (k:= .i64) (e:=3) (t:=49) (g:=4) rfl rfl rfl (by kernel_rfl) (by kernel_rfl) hl1
 obtain ⟨h6,q6,hl6⟩:=laid_two htb (k:= .i64) (e:=3) (t:=49) (g:=7) rfl rfl rfl (by kernel_rfl) (by kernel_rfl) hl3
 obtain ⟨h4,q4,hl4⟩:=laid_two htb (k:= .i64) (e:=3) (t:=49) (g:=5) rfl rfl rfl (by kernel_rfl) (by kernel_rfl) hl6
 obtain ⟨h5,q5,hl5⟩:=laid_two htb (k:= .i64) (e:=3) (t:=49) (g:=6) rfl rfl rfl (by kernel_rfl) (by kernel_rfl) hl4
 obtain ⟨h7,q7,hl7⟩:=laid_ints htb (k:= .u32) (n:=64) (e:=57) (t:=175) (g:=1) rfl rfl rfl (by kernel_rfl) (by kernel_rfl) hl5
 obtain ⟨h0,_⟩:=laid_ints htb (k:= .u32) (n:=8) (e:=57) (t:=147) (g:=0) rfl rfl rfl (by kernel_rfl) (by kernel_rfl) hl7
 intro g
 match g with
 | 0=>exact (congrArg (RepCs _ _ 0) cells_b).mpr h0
 | 1=>exact (congrArg (RepCs _ _ 0) cells_k).mpr h7
 | 2=>exact h1
 | 3=>exact h2
 | 4=>exact h3
 | 5=>exact h4
 | 6=>exact h5
 | 7=>exact h6
 | _+8=>simp [gl,RepCs]
theorem door_met (os:Os)(args:Array Value):laidMetH Tryz.prog Rows.bindPutsRow.laid ((World.doorLaid Tryz.prog 49 os).forCall (fun _ _=>0) ⟨#[],args,[]⟩).memory :=
 laidMetH_of_parts3 (fuel:=8) (laidMet_of_run' 8 (by kernel_rfl) (by kernel_rfl)) (by kernel_rfl) (by kernel_rfl)
abbrev zPlV:Value:= .agg #[.int .u8 0,.int .u8 0,.int .u8 0,.int .u8 0,.int .u8 0,.int .u8 0,.int .u8 0,.int .u8 0,.int .u8 0,.int .u8 0,.int .u8 0,.int .u8 0,.int .u8 0,.int .u8 0,.int .u8 0,.int .u8 0,.int .u8 0,.int .u8 0,.int .u8 0,.int .u8 0,.int .u8 0,.int .u8 0,.int .u8 0,.int .u8 0,.int .u8 0,.int .u8 0,.int .u8 0,.int .u8 0,.int .u8 0,.int .u8 0,.int .u8 0,.int .u8 0,.int .u64 0,.int .u64 0,.slice none 0 0,.slice none 0 0,.slice none 0 0]
theorem repVs_at {S:Rd}:∀ (xs:List C) (us:List Value),us.length=xs.length→(∀ (i:Nat) (x:C),xs[i]? =some x→∃ u,us[i]? =some u∧RepC S x u)→RepVs S xs us
 | [],us,hl,_=>by simpa [RepVs] using hl
 | x::xs,[],hl,_=>by simp at hl
 | x::xs,u::us,hl,h=>by
  simp only [RepVs]
  obtain ⟨u',h1,h2⟩:=h 0 x rfl
  simp only [List.getElem?_cons_zero,Option.some.injEq] at h1
  subst h1
  exact ⟨u,us,rfl,h2,repVs_at xs us (by simpa using hl) fun i y hy=>by simpa using h (i+1) y (by simpa using hy)⟩
section
variable {H:Type} {enc:TypeId×Value→H} {W:World} {base:Nat} {sp:Nat→Bool} {held:Bool}
theorem open_Ad {fuel:Nat}{cs:List Value}{x:DataW H×List MemPlace}(h:DataW.trod enc Tryz.prog W base sp held fuel 56 cs=some x):∃ a:Ad,RepVs (S0 W) (cAd a) cs:=by
 obtain ⟨hl,m3,rfl,ha⟩:=tr_struct htb (t:=56) rfl h
 obtain ⟨w0,a0⟩:=ha 0 0 9 rfl rfl
 obtain ⟨w1,a1⟩:=ha 1 1 9 rfl rfl
 obtain ⟨w2,a2⟩:=ha 2 2 3 rfl rfl
 obtain ⟨w3,a3⟩:=ha 3 3 2 rfl rfl
 obtain ⟨w4,a4⟩:=ha 4 4 9 rfl rfl
 obtain ⟨t,e3,_⟩:=tr_str htb (t:=9) rfl a0
 obtain ⟨nm,e4,_⟩:=tr_str htb (t:=9) rfl a1
 obtain ⟨kk,e5,_⟩:=tr_int htb (t:=3) (k:= .i64) rfl a2
 obtain ⟨ix,e6,_⟩:=tr_int htb (t:=2) (k:= .i64) rfl a3
 obtain ⟨s,e7,_⟩:=tr_str htb (t:=9) rfl a4
 have hl:cs.length=5:=hl
 match cs,hl with
 | [c0,c1,c2,c3,c4],_ =>
  simp [tb,tbl,VA.look] at e3 e4 e5 e6 e7
  subst e3; subst e4; subst e5; subst e6; subst e7
  refine ⟨⟨t,nm,kk,ix,s⟩,?_⟩
  simp only [cAd,RepVs]
  exact ⟨_,_,rfl,repV_s,_,_,rfl,repV_s,_,_,rfl,repV_i,_,_,rfl,repV_i,_,_,rfl,repV_s,rfl⟩
theorem open_Ky {fuel:Nat}{cs:List Value}{x:DataW H×List MemPlace}(h:DataW.trod enc Tryz.prog W base sp held fuel 59 cs=some x):∃ k:Ky,RepVs (S0 W) (cKy k) cs∧0≤k.n∧k.n≤4294967295:=by
 obtain ⟨hl,m2,rfl,hk⟩:=tr_struct htb (t:=59) rfl h
 obtain ⟨z0,k0⟩:=hk 0 0 56 rfl rfl
 obtain ⟨z1,k1⟩:=hk 1 5 57 rfl rfl
 obtain ⟨g,e2,g0,g1⟩:=tr_int htb (t:=57) (k:= .u32) rfl k1
 obtain ⟨a,ha⟩:=open_Ad k0
 have hl:cs.length=6:=hl
 match cs,hl with
 | [c0,c1,c2,c3,c4,c5],_ =>
  simp [tb,tbl,VA.look] at e2
  subst e2
  refine ⟨⟨a,g⟩,?_,g0,g1⟩
  have ha:RepVs (S0 W) (cAd a) [c0,c1,c2,c3,c4]:=ha
  exact repVs_app ha (repVs_one repV_i)
theorem open_sumW {fuel:Nat}{cs:List Value}{x:DataW H×List MemPlace}(h:DataW.trod enc Tryz.prog W base sp held fuel 23 cs=some x):∃ s:Nat→UInt8,(∀ S,RepVs S (sumC s) cs)∧∀ i,32≤i→s i=0:=by
 have hu:Tryz.prog.underlying 23=some (.array 32 5):=by kernel_rfl
 obtain ⟨xs,m,_,hx,hlen,hn,hel⟩:=DataW.trod_array hu h
 have hce:Tryz.prog.cellsOf 5=1:=by rw [cellsOf_tb htb rfl]; rfl
 have hcs:Tryz.prog.cellsOf 23=32:=by rw [cellsOf_tb htb rfl]; rfl
 have hex:∀ i:Nat,∃ x:UInt8,(i<32→cs[i]? =some (.int .u8 (x.toNat:Int)))∧(32≤i→x=0):=by
  intro i
  by_cases hi:i<32
  ·have hy:=hel i hi
   rw [hce,List.getElem?_eq_getElem (by omega)] at hy
   obtain ⟨n,e1,h0,h255⟩:=tr_int htb (t:=5) (k:= .u8) rfl hy
   have h0:0≤n:=h0
   have h255:n≤255:=h255
   refine ⟨UInt8.ofNat n.toNat,fun _=> ?_,fun h=>absurd h (by omega)⟩
   have e:((UInt8.ofNat n.toNat).toNat:Int)=n:=by
    rw [UInt8.toNat_ofNat']; omega
   rw [e]
   have:=congrArg (fun l=>l[0]?) e1
   simpa [List.getElem?_take,List.getElem?_drop] using this
  ·exact ⟨0,fun h=>absurd h hi,fun _=>rfl⟩
 have hf:=fun i=>Classical.choose_spec (hex i)
 refine ⟨fun i=>Classical.choose (hex i),fun S=> ?_,fun i hi=>(hf i).2 hi⟩
 rw [← arr_sumC]
 refine repVs_at _ _ (by rw [hlen,hcs,arrC_length]) fun i x hx=> ?_
 rw [arrC_get] at hx
 split at hx
 ·rename_i hi
  simp only [Option.some.injEq] at hx
  subst hx
  exact ⟨_,(hf i).1 hi,by simp [RepC,Value.oneCell',cb]⟩
 ·simp at hx
theorem open_Bd {fuel:Nat}{cs:List Value}{x:DataW H×List MemPlace}(h:DataW.trod enc Tryz.prog W base sp held fuel 53 cs=some x)(hs:SzW Tryz.prog 53 x.1):∃ e:Bd,RepVs (S0 W) (cBd e) cs∧rgV e.v=true:=by
 obtain ⟨hl,m,rfl,hx⟩:=tr_structS htb (t:=53) rfl h hs
 obtain ⟨y0,h0,s0⟩:=hx 0 0 9 rfl rfl
 obtain ⟨y1,h1,s1⟩:=hx 1 1 51 rfl rfl
 obtain ⟨n,e0,_⟩:=tr_str htb (t:=9) rfl h0
 obtain ⟨v,hv,gv⟩:=open_V (m+1) m (Nat.lt_succ_self _) _ _ h1 s1
 have hl:cs.length=9:=hl
 match cs,hl with
 | [c0,c1,c2,c3,c4,c5,c6,c7,c8],_ =>
  simp [tb,tbl,VA.look] at e0
  subst e0
  refine ⟨⟨n,v⟩,?_,gv⟩
  have hv:RepVs (S0 W) (cV v) [c1,c2,c3,c4,c5,c6,c7,c8]:=hv
  exact repVs_app (xs:=[_]) (repVs_one repV_s) hv
theorem open_Bds {fuel:Nat}{cs:List Value}{x:DataW H×List MemPlace}(h:DataW.trod enc Tryz.prog W base sp held fuel 25 cs=some x)(hs:SzW Tryz.prog 25 x.1):∃ l:List Bd,∃ u,cs=[u]∧RepC (S0 W) (.sl false 9 l.length (rBd l)) u∧∀ e ∈ l,rgV e.v=true:=by
 obtain ⟨a,len,cap,m,rfl,rfl,hlc,hcap0,hrows⟩:=tr_sliceS htb (t:=25) (e:=53) rfl rfl (by decide) h hs
 have hcap:len*120≤140737488351232:=hcap0
 rcases hrows with h0|⟨b,o,rfl,hr⟩
 ·subst h0
  exact ⟨[],_,rfl,repC_rows ⟨hlc,by simp⟩ (.inl rfl),fun e he=>absurd he List.not_mem_nil⟩
 ·have hex:∀ i:Fin len,∃ e:Bd,∃ ce:List Value,ce.length=9∧(∀ j,j<9→W.cell? ⟨b,o+i*9+j,none⟩=ce[j]?)∧RepVs (S0 W) (cBd e) ce∧rgV e.v=true:=by
   intro ⟨i,hi⟩
   obtain ⟨ce,y,hl,hc,ht,hsy⟩:=hr i hi
   obtain ⟨v,hv,gv⟩:=open_Bd ht hsy
   exact ⟨v,ce,hl,hc,hv,gv⟩
  have hf:=fun i=>Classical.choose_spec (hex i)
  refine ⟨List.ofFn fun i=>Classical.choose (hex i),_,rfl,?_,fun x hx=> ?_⟩
  rotate_left
  ·obtain ⟨i,rfl⟩:=List.mem_ofFn.1 hx
   obtain ⟨_,_,_,_,g⟩:=hf i
   exact g
  rw [List.length_ofFn]
  refine repC_rows ⟨hlc,by omega⟩ (.inr ⟨b,o,rfl,fun i hi=> ?_⟩)
  obtain ⟨ce,g1,g2,g3,_⟩:=hf ⟨i,hi⟩
  have hrow:rBd (List.ofFn fun i=>Classical.choose (hex i)) i=cBd (Classical.choose (hex ⟨i,hi⟩)):=by
   simp [rowE,List.getD_eq_getElem?_getD,hi]
  rw [hrow]
  refine ⟨ce,g1,fun j hj u hu=> ?_,rfl,g3⟩
  have:=g2 j hj
  rw [hu] at this
  exact this
theorem open_Sp {fuel:Nat}{cs:List Value}{x:DataW H×List MemPlace}(h:DataW.trod enc Tryz.prog W base sp held fuel 61 cs=some x)(hs:SzW Tryz.prog 61 x.1):∃ e:Sp,RepVs (S0 W) (cSp e) cs∧(0≤e.y.n∧e.y.n≤4294967295∧∀ i,32≤i→e.s i=0):=by
 obtain ⟨hl,m,rfl,hx⟩:=tr_structS htb (t:=61) rfl h hs
 obtain ⟨y0,h0,s0⟩:=hx 0 0 59 rfl rfl
 obtain ⟨y1,h1,s1⟩:=hx 1 6 23 rfl rfl
 obtain ⟨k,hk,k0,k1⟩:=open_Ky h0
 obtain ⟨d,hd,d0⟩:=open_sumW h1
 refine ⟨⟨k,d⟩,?_,k0,k1,d0⟩
 have hl:cs.length=38:=hl
 have e:cs=(cs.drop 0).take (tb 59).sz++(cs.drop 6).take (tb 23).sz:=by
  show cs=(cs.drop 0).take 6++(cs.drop 6).take 32
  rw [List.drop_zero,List.take_of_length_le (l:=cs.drop 6) (by rw [List.length_drop]; omega),List.take_append_drop]
 rw [e]
 exact repVs_app hk (hd _)
theorem open_Sps {fuel:Nat}{cs:List Value}{x:DataW H×List MemPlace}(h:DataW.trod enc Tryz.prog W base sp held fuel 26 cs=some x)(hs:SzW Tryz.prog 26 x.1):∃ l:List Sp,∃ u,cs=[u]∧RepC (S0 W) (.sl false 38 l.length (rSp l)) u∧∀ e ∈ l,(0≤e.y.n∧e.y.n≤4294967295∧∀ i,32≤i→e.s i=0):=by
 obtain ⟨a,len,cap,m,rfl,rfl,hlc,hcap0,hrows⟩:=tr_sliceS htb (t:=26) (e:=61) rfl rfl (by decide) h hs
 have hcap:len*104≤140737488351232:=hcap0
 rcases hrows with h0|⟨b,o,rfl,hr⟩
 ·subst h0
  exact ⟨[],_,rfl,repC_rows ⟨hlc,by simp⟩ (.inl rfl),fun e he=>absurd he List.not_mem_nil⟩
 ·have hex:∀ i:Fin len,∃ e:Sp,∃ ce:List Value,ce.length=38∧(∀ j,j<38→W.cell? ⟨b,o+i*38+j,none⟩=ce[j]?)∧RepVs (S0 W) (cSp e) ce∧(0≤e.y.n∧e.y.n≤4294967295∧∀ i,32≤i→e.s i=0):=by
   intro ⟨i,hi⟩
   obtain ⟨ce,y,hl,hc,ht,hsy⟩:=hr i hi
   obtain ⟨v,hv,gv⟩:=open_Sp ht hsy
   exact ⟨v,ce,hl,hc,hv,gv⟩
  have hf:=fun i=>Classical.choose_spec (hex i)
  refine ⟨List.ofFn fun i=>Classical.choose (hex i),_,rfl,?_,fun x hx=> ?_⟩
  rotate_left
  ·obtain ⟨i,rfl⟩:=List.mem_ofFn.1 hx
   obtain ⟨_,_,_,_,g⟩:=hf i
   exact g
  rw [List.length_ofFn]
  refine repC_rows ⟨hlc,by omega⟩ (.inr ⟨b,o,rfl,fun i hi=> ?_⟩)
  obtain ⟨ce,g1,g2,g3,_⟩:=hf ⟨i,hi⟩
  have hrow:rSp (List.ofFn fun i=>Classical.choose (hex i)) i=cSp (Classical.choose (hex ⟨i,hi⟩)):=by
   simp [rowE,List.getD_eq_getElem?_getD,hi]
  rw [hrow]
  refine ⟨ce,g1,fun j hj u hu=> ?_,rfl,g3⟩
  have:=g2 j hj
  rw [hu] at this
  exact this
theorem open_In {fuel:Nat}{cs:List Value}{x:DataW H×List MemPlace}(h:DataW.trod enc Tryz.prog W base sp held fuel 3 cs=some x)(hs:SzW Tryz.prog 3 x.1):∃ e:Int,RepVs (S0 W) ((fun i=>[C.v (.int .i64 i)]) e) cs∧True:=by
 obtain ⟨n,e,_,_⟩:=tr_int htb (t:=3) (k:= .i64) rfl h
 subst e
 exact ⟨n,repVs_one repV_i,trivial⟩
theorem open_Ins {fuel:Nat}{cs:List Value}{x:DataW H×List MemPlace}(h:DataW.trod enc Tryz.prog W base sp held fuel 62 cs=some x)(hs:SzW Tryz.prog 62 x.1):∃ l:List Int,∃ u,cs=[u]∧RepC (S0 W) (.sl false 1 l.length (rIn l)) u∧∀ e ∈ l,True:=by
 obtain ⟨a,len,cap,m,rfl,rfl,hlc,hcap0,hrows⟩:=tr_sliceS htb (t:=62) (e:=3) rfl rfl (by decide) h hs
 have hcap:len*8≤140737488351232:=hcap0
 rcases hrows with h0|⟨b,o,rfl,hr⟩
 ·subst h0
  exact ⟨[],_,rfl,repC_rows ⟨hlc,by simp⟩ (.inl rfl),fun e he=>absurd he List.not_mem_nil⟩
 ·have hex:∀ i:Fin len,∃ e:Int,∃ ce:List Value,ce.length=1∧(∀ j,j<1→W.cell? ⟨b,o+i*1+j,none⟩=ce[j]?)∧RepVs (S0 W) ((fun i=>[C.v (.int .i64 i)]) e) ce∧True:=by
   intro ⟨i,hi⟩
   obtain ⟨ce,y,hl,hc,ht,hsy⟩:=hr i hi
   obtain ⟨v,hv,gv⟩:=open_In ht hsy
   exact ⟨v,ce,hl,hc,hv,gv⟩
  have hf:=fun i=>Classical.choose_spec (hex i)
  refine ⟨List.ofFn fun i=>Classical.choose (hex i),_,rfl,?_,fun x hx=> ?_⟩
  rotate_left
  ·obtain ⟨i,rfl⟩:=List.mem_ofFn.1 hx
   obtain ⟨_,_,_,_,g⟩:=hf i
   exact g
  rw [List.length_ofFn]
  refine repC_rows ⟨hlc,by omega⟩ (.inr ⟨b,o,rfl,fun i hi=> ?_⟩)
  obtain ⟨ce,g1,g2,g3,_⟩:=hf ⟨i,hi⟩
  have hrow:rIn (List.ofFn fun i=>Classical.choose (hex i)) i=(fun i=>[C.v (.int .i64 i)]) (Classical.choose (hex ⟨i,hi⟩)):=by
   simp [rowE,List.getD_eq_getElem?_getD,hi]
  rw [hrow]
  refine ⟨ce,g1,fun j hj u hu=> ?_,rfl,g3⟩
  have:=g2 j hj
  rw [hu] at this
  exact this
theorem lenA24 {l:List Value}(h:l.length=24):∃ c0 c1 c2 c3 c4 c5 c6 c7 c8 c9 c10 c11 c12 c13 c14 c15 c16 c17 c18 c19 c20 c21 c22 c23,l=[c0,c1,c2,c3,c4,c5,c6,c7,c8,c9,c10,c11,c12,c13,c14,c15,c16,c17,c18,c19,c20,c21,c22,c23]:=by
 match l,h with
 | [c0,c1,c2,c3,c4,c5,c6,c7,c8,c9,c10,c11,c12,c13,c14,c15,c16,c17,c18,c19,c20,c21,c22,c23],_=>exact ⟨_,_,_,_,_,_,_,_,_,_,_,_,_,_,_,_,_,_,_,_,_,_,_,_,rfl⟩
theorem open_Ac {fuel:Nat}{cs:List Value}{x:DataW H×List MemPlace}(h:DataW.trod enc Tryz.prog W base sp held fuel 64 cs=some x)(hs:SzW Tryz.prog 64 x.1):∃ e:Ac,RepVs (S0 W) (cAc e) cs∧(0≤e.y.n∧e.y.n≤4294967295∧rgV e.p=true∧rgV e.w=true):=by
 obtain ⟨hl,m,rfl,hx⟩:=tr_structS htb (t:=64) rfl h hs
 obtain ⟨c0,c1,c2,c3,c4,c5,c6,c7,c8,c9,c10,c11,c12,c13,c14,c15,c16,c17,c18,c19,c20,c21,c22,c23,rfl⟩:=lenA24 hl
 obtain ⟨y0,h0,s0⟩:=hx 0 0 3 rfl rfl
 obtain ⟨y1,h1,s1⟩:=hx 1 1 59 rfl rfl
 obtain ⟨y2,h2,s2⟩:=hx 2 7 51 rfl rfl
 obtain ⟨y3,h3,s3⟩:=hx 3 15 51 rfl rfl
 obtain ⟨y4,h4,s4⟩:=hx 4 23 62 rfl rfl
 obtain ⟨kk,e0,_,_⟩:=tr_int htb (t:=3) (k:= .i64) rfl h0
 obtain ⟨k,hk,k0,k1⟩:=open_Ky h1
 obtain ⟨v,hv,gv⟩:=open_V (m+1) m (Nat.lt_succ_self _) _ _ h2 s2
 obtain ⟨w,hw,gw⟩:=open_V (m+1) m (Nat.lt_succ_self _) _ _ h3 s3
 obtain ⟨l,u,e4,r4,_⟩:=open_Ins h4 s4
 simp [tb,tbl,VA.look] at e0 e4
 subst e0; subst e4
 refine ⟨⟨kk,k,v,w,l⟩,?_,k0,k1,gv,gw⟩
 have hk:RepVs (S0 W) (cKy k) [c1,c2,c3,c4,c5,c6]:=hk
 have hv:RepVs (S0 W) (cV v) [c7,c8,c9,c10,c11,c12,c13,c14]:=hv
 have hw:RepVs (S0 W) (cV w) [c15,c16,c17,c18,c19,c20,c21,c22]:=hw
 exact repVs_app (xs:=[_]) (repVs_one repV_i) (repVs_app hk (repVs_app hv (repVs_app hw (repVs_one r4))))
theorem open_Acs {fuel:Nat}{cs:List Value}{x:DataW H×List MemPlace}(h:DataW.trod enc Tryz.prog W base sp held fuel 27 cs=some x)(hs:SzW Tryz.prog 27 x.1):∃ l:List Ac,∃ u,cs=[u]∧RepC (S0 W) (.sl false 24 l.length (rAc l)) u∧∀ e ∈ l,(0≤e.y.n∧e.y.n≤4294967295∧rgV e.p=true∧rgV e.w=true):=by
 obtain ⟨a,len,cap,m,rfl,rfl,hlc,hcap0,hrows⟩:=tr_sliceS htb (t:=27) (e:=64) rfl rfl (by decide) h hs
 have hcap:len*312≤140737488351232:=hcap0
 rcases hrows with h0|⟨b,o,rfl,hr⟩
 ·subst h0
  exact ⟨[],_,rfl,repC_rows ⟨hlc,by simp⟩ (.inl rfl),fun e he=>absurd he List.not_mem_nil⟩
 ·have hex:∀ i:Fin len,∃ e:Ac,∃ ce:List Value,ce.length=24∧(∀ j,j<24→W.cell? ⟨b,o+i*24+j,none⟩=ce[j]?)∧RepVs (S0 W) (cAc e) ce∧(0≤e.y.n∧e.y.n≤4294967295∧rgV e.p=true∧rgV e.w=true):=by
   intro ⟨i,hi⟩
   obtain ⟨ce,y,hl,hc,ht,hsy⟩:=hr i hi
   obtain ⟨v,hv,gv⟩:=open_Ac ht hsy
   exact ⟨v,ce,hl,hc,hv,gv⟩
  have hf:=fun i=>Classical.choose_spec (hex i)
  refine ⟨List.ofFn fun i=>Classical.choose (hex i),_,rfl,?_,fun x hx=> ?_⟩
  rotate_left
  ·obtain ⟨i,rfl⟩:=List.mem_ofFn.1 hx
   obtain ⟨_,_,_,_,g⟩:=hf i
   exact g
  rw [List.length_ofFn]
  refine repC_rows ⟨hlc,by omega⟩ (.inr ⟨b,o,rfl,fun i hi=> ?_⟩)
  obtain ⟨ce,g1,g2,g3,_⟩:=hf ⟨i,hi⟩
  have hrow:rAc (List.ofFn fun i=>Classical.choose (hex i)) i=cAc (Classical.choose (hex ⟨i,hi⟩)):=by
   simp [rowE,List.getD_eq_getElem?_getD,hi]
  rw [hrow]
  refine ⟨ce,g1,fun j hj u hu=> ?_,rfl,g3⟩
  have:=g2 j hj
  rw [hu] at this
  exact this
theorem open_plan {v:Value}{d:DataW H}{ps:List MemPlace}{r:Reach}{b0:Nat}(hval:Value.okWide Tryz.prog W r b0 29 v)(hd:DataW.Trod enc Tryz.prog W base sp held 29 v d ps)(hs:SzW Tryz.prog 29 d) :
  ∃ x:Pl,RelV [] (S0 W) (.ag (cPl false false false x)) v∧RgPl x:=by
 obtain ⟨arr,rfl,hc⟩:=arg_agg htb (t:=29) rfl hval
 obtain ⟨fuel,hf⟩:=hd
 rw [hc] at hf
 obtain ⟨hl,m,rfl,hx⟩:=tr_structS htb (t:=29) rfl hf hs
 obtain ⟨y0,h0,s0⟩:=hx 0 0 23 rfl rfl
 obtain ⟨y1,h1,s1⟩:=hx 1 32 24 rfl rfl
 obtain ⟨y2,h2,s2⟩:=hx 2 33 24 rfl rfl
 obtain ⟨y3,h3,s3⟩:=hx 3 34 25 rfl rfl
 obtain ⟨y4,h4,s4⟩:=hx 4 35 26 rfl rfl
 obtain ⟨y5,h5,s5⟩:=hx 5 36 27 rfl rfl
 obtain ⟨c,hc0,hc1⟩:=open_sumW h0
 obtain ⟨a,e1,a0,a1⟩:=tr_int htb (t:=24) (k:= .u64) rfl h1
 obtain ⟨s,e2,b0,b1⟩:=tr_int htb (t:=24) (k:= .u64) rfl h2
 obtain ⟨lb,ub,e3,r3,g3⟩:=open_Bds h3 s3
 obtain ⟨lt,ut,e4,r4,g4⟩:=open_Sps h4 s4
 obtain ⟨lx,ux,e5,r5,g5⟩:=open_Acs h5 s5
 have hrel:∀ q:Pl,RepVs (S0 W) (cPl false false false q) arr.toList→RelV [] (S0 W) (.ag (cPl false false false q)) (.agg arr):=fun q h=>relV_agg rfl h
 have hl:arr.toList.length=37:=hl
 refine ⟨⟨c,a,s,lb,lt,lx⟩,hrel _ ?_,⟨a0,Int.lt_of_le_of_lt a1 (by decide),b0,Int.lt_of_le_of_lt b1 (by decide),hc1,g3,g4,g5⟩⟩
 generalize arr.toList=cs at *
 have h0:RepVs (S0 W) (sumC c) ((cs.drop 0).take 32):=hc0 _
 have e:cs=(cs.drop 0).take 32++((cs.drop 32).take 1++((cs.drop 33).take 1++((cs.drop 34).take 1++((cs.drop 35).take 1++(cs.drop 36).take 1)))):=by
  have d (n:Nat) (h:n+1≤36):cs.drop n=(cs.drop n).take 1++cs.drop (n+1):=by
   rw [← List.drop_drop,List.take_append_drop]
  have d36:(cs.drop 36).take 1=cs.drop 36:=List.take_of_length_le (by rw [List.length_drop]; omega)
  rw [d36,← d 35 (by decide),← d 34 (by decide),← d 33 (by decide),← d 32 (by decide),List.drop_zero,List.take_append_drop]
 have e1:(cs.drop 32).take 1=[.int .u64 a]:=e1
 have e2:(cs.drop 33).take 1=[.int .u64 s]:=e2
 have e3:(cs.drop 34).take 1=[ub]:=e3
 have e4:(cs.drop 35).take 1=[ut]:=e4
 have e5:(cs.drop 36).take 1=[ux]:=e5
 rw [e,e1,e2,e3,e4,e5]
 refine repVs_app h0 ?_
 simp only [List.cons_append,List.nil_append,RepVs]
 exact ⟨_,_,rfl,repV_i,_,_,rfl,repV_i,_,_,rfl,r3,_,_,rfl,r4,_,_,rfl,r5,rfl⟩
end
end Go.Proofs.YtaecnniddhikbaaGreatDoor
