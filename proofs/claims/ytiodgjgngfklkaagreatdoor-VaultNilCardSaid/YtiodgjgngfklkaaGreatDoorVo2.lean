/- Contracts of functions of the program,and the laws that stand on them: what each function answers,whatever its arguments. -/
import Derived.Test.YtiodgjgngfklkaaGreatDoorTT
import Derived.Test.YtiodgjgngfklkaaGreatDoorVD
import Derived.Test.YtiodgjgngfklkaaGreatDoorVN3
import Derived.ChangeMaps5
import Derived.Carry
import Derived.Test.YtiodgjgngfklkaaGreatDoorTie
import Derived.Test.YtiodgjgngfklkaaGreatDoorCards
set_option linter.all false
set_option maxRecDepth 100000
set_option maxHeartbeats 8000000
namespace Go.Proofs.YtiodgjgngfklkaaGreatDoor
open Go Go.VA Go.RowKit Go.ChangeShapes Go.WideShapes Go.ChangeAt
section
variable {H:Type} {enc:TypeId×Value→H} {W:World} {base:Nat} {sp:Nat→Bool} {held:Bool}
theorem repVs_app {S:Rd}:∀ {xs ys:List C} {us vs:List Value},RepVs S xs us→RepVs S ys vs→RepVs S (xs++ys) (us++vs)
 | [],ys,us,vs,h,h2=>by simp only [RepVs] at h; subst h; simpa using h2
 | x::xs,ys,us,vs,h,h2=>by
  simp only [RepVs] at h
  obtain ⟨u,r,rfl,h3,h4⟩:=h
  simp only [List.cons_append,RepVs]
  exact ⟨u,_,rfl,h3,repVs_app h4 h2⟩
theorem repVs_one {S:Rd}{x:C}{u:Value}(h:RepC S x u):RepVs S [x] [u]:=by simp only [RepVs]; exact ⟨u,[],rfl,h,rfl⟩
theorem open_strs {fuel:Nat}{cs:List Value}{x:DataW H×List MemPlace}(h:DataW.trod enc Tryz.prog W base sp held fuel 49 cs=some x)(hs:SzW Tryz.prog 49 x.1):∃ l:List ByteArray,∃ u,cs=[u]∧RepC (S0 W) (.sl false 1 l.length (rS l)) u:=by
 obtain ⟨a,len,cap,m,rfl,rfl,hlc,hcap0,hrows⟩:=tr_sliceS htb (t:=49) (e:=9) rfl rfl (by decide) h hs
 have hcap:len*16≤140737488351232:=hcap0
 have key:len=0∨∃ b o,a=some ⟨b,o,none⟩∧∃ l:List ByteArray,l.length=len∧∀ i,i<len→∃ ce:List Value,ce.length=1∧(∀ j,j<1→∀ u,ce[j]? =some u→S0 W false b (o+i*1+j) u)∧RepVs (S0 W) (rS l i) ce:=by
  rcases hrows with h0|⟨b,o,rfl,hr⟩
  ·exact .inl h0
  ·refine .inr ⟨b,o,rfl,?_⟩
   have hex:∀ i:Fin len,∃ s:ByteArray,W.cell? ⟨b,o+i*1,none⟩=some (.string s):=by
    intro ⟨i,hi⟩
    obtain ⟨ce,y,hl,hc,ht,_⟩:=hr i hi
    obtain ⟨s,rfl,_⟩:=tr_str htb (t:=9) rfl ht
    refine ⟨s,?_⟩
    have:=hc 0 (by decide)
    exact this
   have hf:=fun i=>Classical.choose_spec (hex i)
   refine ⟨List.ofFn fun i=>Classical.choose (hex i),by simp,fun i hi=>⟨[.string (Classical.choose (hex ⟨i,hi⟩))],rfl,fun j hj u hu=> ?_,?_⟩⟩
   ·obtain rfl:j=0:=by omega
    simp at hu
    subst hu
    have:=hf ⟨i,hi⟩
    simpa [S0] using this
   ·have:rS (List.ofFn fun i=>Classical.choose (hex i)) i=[.v (.string (Classical.choose (hex ⟨i,hi⟩)))]:=by
     simp [rS,rowE,cS,List.getD_eq_getElem?_getD,hi]
    rw [this]
    exact repVs_one repV_s
 rcases key with h0|⟨b,o,rfl,l,hl,hr⟩
 ·subst h0
  exact ⟨[],_,rfl,repC_rows ⟨hlc,by simp⟩ (.inl rfl)⟩
 ·subst hl
  refine ⟨l,_,rfl,repC_rows ⟨hlc,by omega⟩ (.inr ⟨b,o,rfl,fun i hi=> ?_⟩)⟩
  obtain ⟨ce,h1,h2,h3⟩:=hr i hi
  exact ⟨ce,h1,fun j hj u hu=>h2 j hj u hu,by simp [rS,rowE,cS],h3⟩
theorem len8 {l:List Value}(h:l.length=8):∃ a b c d e f g i,l=[a,b,c,d,e,f,g,i]:=by
 match l,h with
 | [a,b,c,d,e,f,g,i],_=>exact ⟨_,_,_,_,_,_,_,_,rfl⟩
theorem open_V (n:Nat):∀ (fuel:Nat),fuel<n→∀ (cs:List Value) (x:DataW H×List MemPlace),DataW.trod enc Tryz.prog W base sp held fuel 53 cs=some x→SzW Tryz.prog 53 x.1→∃ v:V,RepVs (S0 W) (cV v) cs∧rgV v=true:=by
 induction n with
 | zero=>intro fuel h; omega
 | succ n ih =>
  intro fuel hfu cs x h hs
  obtain ⟨hl,m,rfl,hx⟩:=tr_structS htb (t:=53) rfl h hs
  obtain ⟨c0,c1,c2,c3,c4,c5,c6,c7,rfl⟩:=len8 hl
  obtain ⟨y0,h0,s0⟩:=hx 0 0 3 rfl rfl
  obtain ⟨y1,h1,s1⟩:=hx 1 1 2 rfl rfl
  obtain ⟨y2,h2,s2⟩:=hx 2 2 9 rfl rfl
  obtain ⟨y3,h3,s3⟩:=hx 3 3 48 rfl rfl
  obtain ⟨y4,h4,s4⟩:=hx 4 4 49 rfl rfl
  obtain ⟨y5,h5,s5⟩:=hx 5 5 51 rfl rfl
  obtain ⟨y6,h6,s6⟩:=hx 6 7 4 rfl rfl
  obtain ⟨k,e0,_⟩:=tr_int htb (t:=3) (k:= .i64) rfl h0
  obtain ⟨i,e1,i0,i1⟩:=tr_int htb (t:=2) (k:= .i64) rfl h1
  obtain ⟨s,e2,_⟩:=tr_str htb (t:=9) rfl h2
  obtain ⟨ks,u4,e4,r4⟩:=open_strs h4 s4
  obtain ⟨se,e6⟩:=tr_bool htb (t:=4) rfl h6
  obtain ⟨hl5,m5,rfl,hx5⟩:=tr_struct htb (t:=51) rfl h5
  obtain ⟨z0,g0⟩:=hx5 0 0 3 rfl rfl
  obtain ⟨z1,g1⟩:=hx5 1 1 3 rfl rfl
  obtain ⟨tk,e50,_⟩:=tr_int htb (t:=3) (k:= .i64) rfl g0
  obtain ⟨to,e51,_⟩:=tr_int htb (t:=3) (k:= .i64) rfl g1
  obtain ⟨a,len,cap,m3,e3,hm3,hlc,hcap0,hrows⟩:=tr_sliceS htb (t:=48) (e:=53) rfl rfl (by decide) h3 s3
  have hcap:len*104≤140737488351232:=hcap0
  simp [tb,tbl,VA.look] at e0 e1 e2 e3 e4 e6 e50 e51
  subst e0; subst e1; subst e2; subst e3; subst e4; subst e6; subst e50; subst e51
  have key:∃ l:List V,RepC (S0 W) (.sl false 8 l.length (rV l)) (.slice a len cap)∧∀ x ∈ l,rgV x=true:=by
   rcases hrows with h0|⟨b,o,rfl,hr⟩
   ·subst h0
    exact ⟨[],repC_rows ⟨hlc,by simp⟩ (.inl rfl),fun x hx=>absurd hx (by simp)⟩
   ·have hex:∀ i:Fin len,∃ v:V,∃ ce:List Value,ce.length=8∧(∀ j,j<8→W.cell? ⟨b,o+i*8+j,none⟩=ce[j]?)∧RepVs (S0 W) (cV v) ce∧rgV v=true:=by
     intro ⟨i,hi⟩
     obtain ⟨ce,y,hl,hc,ht,hsy⟩:=hr i hi
     obtain ⟨v,hv,hg⟩:=ih m3 (by omega) ce y ht hsy
     exact ⟨v,ce,hl,hc,hv,hg⟩
    have hf:=fun i=>Classical.choose_spec (hex i)
    refine ⟨List.ofFn fun i=>Classical.choose (hex i),?_,fun x hx=> ?_⟩
    rotate_left
    ·obtain ⟨i,rfl⟩:=List.mem_ofFn.1 hx
     obtain ⟨_,_,_,_,g⟩:=hf i
     exact g
    rw [List.length_ofFn]
    refine repC_rows ⟨hlc,by omega⟩ (.inr ⟨b,o,rfl,fun i hi=> ?_⟩)
    obtain ⟨ce,g1,g2,g3,_⟩:=hf ⟨i,hi⟩
    have hrow:rV (List.ofFn fun i=>Classical.choose (hex i)) i=cV (Classical.choose (hex ⟨i,hi⟩)):=by
     rw [rV_get (by simpa using hi)]; simp
    rw [hrow]
    refine ⟨ce,g1,fun j hj u hu=> ?_,rfl,g3⟩
    have:=g2 j hj
    rw [hu] at this
    exact this
  obtain ⟨l,r3,hg⟩:=key
  refine ⟨.mk k i s l ks tk to se,?_,?_⟩
  rotate_left
  ·rw [rgV_eq]
   simp only [V.i,V.l,Bool.and_eq_true,decide_eq_true_eq,List.all_eq_true]
   exact ⟨⟨decide_eq_true i0,decide_eq_true i1⟩,hg⟩
  show RepVs (S0 W) [.v (.int .i64 k),.v (.int .i64 i),.v (.string s),.sl false 8 l.length (rV l),.sl false 1 ks.length (rS ks),.v (.int .i64 tk),.v (.int .i64 to),.v (.bool se)] _
  simp only [RepVs]
  exact ⟨_,_,rfl,repV_i,_,_,rfl,repV_i,_,_,rfl,repV_s,_,_,rfl,r3,_,_,rfl,r4,_,_,rfl,repV_i,_,_,rfl,repV_i,_,_,rfl,repV_b,rfl⟩
end
end Go.Proofs.YtiodgjgngfklkaaGreatDoor
namespace Go.Proofs.YtiodgjgngfklkaaGreatDoor
open Go Go.VA Go.RowKit Go.ChangeShapes Go.WideShapes Go.ChangeAt
theorem own:ownKnob Tryz.prog.godebug=none:=by kernel_rfl
theorem laidOut:laidOutB Tryz.prog=true:=by kernel_rfl
def kI:List Int:=kN.map Int.ofNat
def bI:List Int:=bN.map Int.ofNat
abbrev nmP (i:Nat):String:=Rows.vaultNilRow.named.getD i ""
abbrev laid8:List (String×DataW Unit):=[(nmP 1,.agg [.lit (.int .i64 2),.lit (.int .i64 0)]),(nmP 0,.agg [.lit (.int .i64 3),.lit (.int .i64 0)]),(nmP 2,.agg [.lit (.int .i64 4),.lit (.int .i64 2)]),(nmP 5,.agg [.lit (.int .i64 4),.lit (.int .i64 3)]),(nmP 3,.agg [.lit (.int .i64 5),.lit (.int .i64 3)]),(nmP 4,.agg [.lit (.int .i64 5),.lit (.int .i64 0)]),(nmP 7,.agg (kI.map fun i=> .lit (.int .u32 i))),(nmP 6,.agg (bI.map fun i=> .lit (.int .u32 i)))]
theorem laid_eq:Rows.vaultNilRow.laid=laid8:=rfl
theorem kN_len:kN.length=64:=by decide
theorem kN_lt:∀ i,i<64→kN.getD i 0<4294967296:=by decide
theorem bN_lt:∀ i,i<8→bN.getD i 0<4294967296:=by decide
theorem cells_k:rndC=kI.map fun i=> .v (.int .u32 i):=by
 refine List.ext_getElem? fun i=> ?_
 by_cases h:i<64
 ·rw [arrC_get,if_pos h,List.getElem?_map,show kI=kN.map Int.ofNat from rfl,List.getElem?_map,List.getElem?_eq_getElem (by rw [kN_len]; exact h)]
  simp only [Option.map_some,cw,VA.wI_def,kT,BitVec.toNat_ofNat]
  rw [Nat.mod_eq_of_lt (kN_lt i h),List.getD_eq_getElem?_getD,List.getElem?_eq_getElem (by rw [kN_len]; exact h)]
  rfl
 ·rw [List.getElem?_eq_none (by rw [arrC_length]; omega),List.getElem?_eq_none (by simp [kI,kN_len]; omega)]
theorem cells_b:cW8 VA.bT=bI.map fun i=> .v (.int .u32 i):=by
 have H:∀ i,i<8→VA.wI (VA.bT i)=(bN.getD i 0:Nat):=fun i hi=>by
  rw [VA.wI_def,VA.bT,BitVec.toNat_ofNat,Nat.mod_eq_of_lt (bN_lt i hi)]
 simp only [cW8,cw,H 0 (by decide),H 1 (by decide),H 2 (by decide),H 3 (by decide),H 4 (by decide),H 5 (by decide),H 6 (by decide),H 7 (by decide)]
 rfl
theorem glOk_laid {W:World}(h:laidMetH Tryz.prog Rows.vaultNilRow.laid W):GlOk gl (S0 W):=by
 rw [laid_eq,MakeChecks.laidMetH_plain _ _ _ (by kernel_rfl)] at h
 obtain ⟨ps,hl,_⟩:=h
 obtain ⟨h2,q2,hl2⟩:=laid_two htb (k:= .i64) (e:=3) (t:=51) (g:=3) rfl rfl rfl (by kernel_rfl) (by kernel_rfl) hl
 obtain ⟨h1,q1,hl1⟩:=laid_two htb (k:= .i64) (e:=3) (t:=51) (g:=2) rfl rfl rfl (by kernel_rfl) (by kernel_rfl) hl2
 obtain ⟨h3,q3,hl3⟩:=laid_two htb (k:= .i64) (e:=3) (t:=51) (g:=4) rfl rfl rfl (by kernel_rfl) (by kernel_rfl) hl1
 obtain ⟨h6,q6,hl6⟩:=laid_two htb (k:= .i64) (e:=3) (t:=51) (g:=7) rfl rfl rfl (by kernel_rfl) (by kernel_rfl) hl3
 obtain ⟨h4,q4,hl4⟩:=laid_two htb (k:= .i64) (e:=3) (t:=51) (g:=5) rfl rfl rfl (by kernel_rfl) (by kernel_rfl) hl6
 obtain ⟨h5,q5,hl5⟩:=laid_two htb (k:= .i64) (e:=3) (t:=51) (g:=6) rfl rfl rfl (by kernel_rfl) (by kernel_rfl) hl4
 obtain ⟨h7,q7,hl7⟩:=laid_ints htb (k:= .u32) (n:=64) (e:=28) (t:=180) (g:=1) rfl rfl rfl (by kernel_rfl) (by kernel_rfl) hl5
 obtain ⟨h0,_⟩:=laid_ints htb (k:= .u32) (n:=8) (e:=28) (t:=150) (g:=0) rfl rfl rfl (by kernel_rfl) (by kernel_rfl) hl7
 intro g
 match g with
 | 0=>exact (congrArg (RepCs _ _ 0) cells_b).mpr h0
 | 1=>exact (congrArg (RepCs _ _ 0) cells_k).mpr h7
 | 2=>exact h1
 | 3=>exact h2
 | 4=>exact h3
 | 5=>exact h4
 | 6=>exact h5
 | 7=>exact h6
 | _+8=>simp [gl,RepCs]
theorem door_met (os:Os)(args:Array Value):laidMetH Tryz.prog Rows.vaultNilRow.laid ((World.doorLaid Tryz.prog 49 os).forCall (fun _ _=>0) ⟨#[],args,[]⟩).memory :=
 laidMetH_of_parts3 (fuel:=8) (laidMet_of_run' 8 (by kernel_rfl) (by kernel_rfl)) (by kernel_rfl) (by kernel_rfl)
abbrev zInV:Value:= .agg #[.int .u64 0,.int .i64 0,.string ByteArray.empty,.string ByteArray.empty,.int .i64 0,.int .i64 0,.string ByteArray.empty,.int .u32 0]
abbrev zStV:Value:= .agg #[.int .u64 0,.int .u64 0,.slice none 0 0]
section
variable {H:Type} {enc:TypeId×Value→H} {W:World} {base:Nat} {sp:Nat→Bool} {held:Bool}
theorem open_Ad {fuel:Nat}{cs:List Value}{x:DataW H×List MemPlace}(h:DataW.trod enc Tryz.prog W base sp held fuel 27 cs=some x):∃ a:Ad,RepVs (S0 W) (cAd a) cs:=by
 obtain ⟨hl,m3,rfl,ha⟩:=tr_struct htb (t:=27) rfl h
 obtain ⟨w0,a0⟩:=ha 0 0 9 rfl rfl
 obtain ⟨w1,a1⟩:=ha 1 1 9 rfl rfl
 obtain ⟨w2,a2⟩:=ha 2 2 3 rfl rfl
 obtain ⟨w3,a3⟩:=ha 3 3 2 rfl rfl
 obtain ⟨w4,a4⟩:=ha 4 4 9 rfl rfl
 obtain ⟨t,e3,_⟩:=tr_str htb (t:=9) rfl a0
 obtain ⟨nm,e4,_⟩:=tr_str htb (t:=9) rfl a1
 obtain ⟨kk,e5,_⟩:=tr_int htb (t:=3) (k:= .i64) rfl a2
 obtain ⟨ix,e6,_⟩:=tr_int htb (t:=2) (k:= .i64) rfl a3
 obtain ⟨s,e7,_⟩:=tr_str htb (t:=9) rfl a4
 have hl:cs.length=5:=hl
 match cs,hl with
 | [c0,c1,c2,c3,c4],_ =>
  simp [tb,tbl,VA.look] at e3 e4 e5 e6 e7
  subst e3; subst e4; subst e5; subst e6; subst e7
  refine ⟨⟨t,nm,kk,ix,s⟩,?_⟩
  simp only [cAd,RepVs]
  exact ⟨_,_,rfl,repV_s,_,_,rfl,repV_s,_,_,rfl,repV_i,_,_,rfl,repV_i,_,_,rfl,repV_s,rfl⟩
theorem open_Ads {fuel:Nat}{cs:List Value}{x:DataW H×List MemPlace}(h:DataW.trod enc Tryz.prog W base sp held fuel 54 cs=some x)(hs:SzW Tryz.prog 54 x.1):∃ l:List Ad,∃ u,cs=[u]∧RepC (S0 W) (.sl false 5 l.length (rA l)) u:=by
 obtain ⟨a,len,cap,m,rfl,rfl,hlc,hcap0,hrows⟩:=tr_sliceS htb (t:=54) (e:=27) rfl rfl (by decide) h hs
 have hcap:len*64≤140737488351232:=hcap0
 rcases hrows with h0|⟨b,o,rfl,hr⟩
 ·subst h0
  exact ⟨[],_,rfl,repC_rows ⟨hlc,by simp⟩ (.inl rfl)⟩
 ·have hex:∀ i:Fin len,∃ v:Ad,∃ ce:List Value,ce.length=5∧(∀ j,j<5→W.cell? ⟨b,o+i*5+j,none⟩=ce[j]?)∧RepVs (S0 W) (cAd v) ce:=by
   intro ⟨i,hi⟩
   obtain ⟨ce,y,hl,hc,ht,hsy⟩:=hr i hi
   obtain ⟨v,hv⟩:=open_Ad ht
   exact ⟨v,ce,hl,hc,hv⟩
  have hf:=fun i=>Classical.choose_spec (hex i)
  refine ⟨List.ofFn fun i=>Classical.choose (hex i),_,rfl,?_⟩
  rw [List.length_ofFn]
  refine repC_rows ⟨hlc,by omega⟩ (.inr ⟨b,o,rfl,fun i hi=> ?_⟩)
  obtain ⟨ce,g1,g2,g3⟩:=hf ⟨i,hi⟩
  have hrow:rA (List.ofFn fun i=>Classical.choose (hex i)) i=cAd (Classical.choose (hex ⟨i,hi⟩)):=by
   simp [rowE,List.getD_eq_getElem?_getD,hi]
  rw [hrow]
  refine ⟨ce,g1,fun j hj u hu=> ?_,rfl,g3⟩
  have:=g2 j hj
  rw [hu] at this
  exact this
theorem len17 {l:List Value}(h:l.length=17):∃ c0 c1 c2 c3 c4 c5 c6 c7 c8 c9 c10 c11 c12 c13 c14 c15 c16,l=[c0,c1,c2,c3,c4,c5,c6,c7,c8,c9,c10,c11,c12,c13,c14,c15,c16]:=by
 match l,h with
 | [c0,c1,c2,c3,c4,c5,c6,c7,c8,c9,c10,c11,c12,c13,c14,c15,c16],_=>exact ⟨_,_,_,_,_,_,_,_,_,_,_,_,_,_,_,_,_,rfl⟩
theorem open_Ky {fuel:Nat}{cs:List Value}{x:DataW H×List MemPlace}(h:DataW.trod enc Tryz.prog W base sp held fuel 30 cs=some x):∃ k:Ky,RepVs (S0 W) (cKy k) cs∧0≤k.n∧k.n≤4294967295:=by
 obtain ⟨hl,m2,rfl,hk⟩:=tr_struct htb (t:=30) rfl h
 obtain ⟨z0,k0⟩:=hk 0 0 27 rfl rfl
 obtain ⟨z1,k1⟩:=hk 1 5 28 rfl rfl
 obtain ⟨g,e2,g0,g1⟩:=tr_int htb (t:=28) (k:= .u32) rfl k1
 obtain ⟨a,ha⟩:=open_Ad k0
 have hl:cs.length=6:=hl
 match cs,hl with
 | [c0,c1,c2,c3,c4,c5],_ =>
  simp [tb,tbl,VA.look] at e2
  subst e2
  refine ⟨⟨a,g⟩,?_,g0,g1⟩
  have ha:RepVs (S0 W) (cAd a) [c0,c1,c2,c3,c4]:=ha
  exact repVs_app ha (repVs_one repV_i)
theorem open_En {fuel:Nat}{cs:List Value}{x:DataW H×List MemPlace}(h:DataW.trod enc Tryz.prog W base sp held fuel 56 cs=some x)(hs:SzW Tryz.prog 56 x.1):∃ e:En,RepVs (S0 W) (cEn e) cs∧RgEn e:=by
 obtain ⟨hl,m,rfl,hx⟩:=tr_structS htb (t:=56) rfl h hs
 obtain ⟨c0,c1,c2,c3,c4,c5,c6,c7,c8,c9,c10,c11,c12,c13,c14,c15,c16,rfl⟩:=len17 hl
 obtain ⟨y0,h0,s0⟩:=hx 0 0 30 rfl rfl
 obtain ⟨y1,h1,s1⟩:=hx 1 6 53 rfl rfl
 obtain ⟨y2,h2,s2⟩:=hx 2 14 4 rfl rfl
 obtain ⟨y3,h3,s3⟩:=hx 3 15 4 rfl rfl
 obtain ⟨y4,h4,s4⟩:=hx 4 16 54 rfl rfl
 obtain ⟨k,hk,k0,k1⟩:=open_Ky h0
 obtain ⟨v,hv,gv⟩:=open_V (m+1) m (Nat.lt_succ_self _) _ _ h1 s1
 obtain ⟨t,e2⟩:=tr_bool htb (t:=4) rfl h2
 obtain ⟨u,e3⟩:=tr_bool htb (t:=4) rfl h3
 obtain ⟨l,w,e4,r4⟩:=open_Ads h4 s4
 simp [tb,tbl,VA.look] at e2 e3 e4
 subst e2; subst e3; subst e4
 refine ⟨⟨k,v,t,u,l⟩,?_,⟨k0,k1,gv⟩⟩
 have hk:RepVs (S0 W) (cKy k) [c0,c1,c2,c3,c4,c5]:=hk
 have hv:RepVs (S0 W) (cV v) [c6,c7,c8,c9,c10,c11,c12,c13]:=hv
 have hz:RepVs (S0 W) [.v (.bool t),.v (.bool u),.sl false 5 l.length (rA l)] [.bool t,.bool u,c16]:=by
  simp only [RepVs]
  exact ⟨_,_,rfl,repV_b,_,_,rfl,repV_b,_,_,rfl,r4,rfl⟩
 exact repVs_app hk (repVs_app hv hz)
theorem open_Ens {fuel:Nat}{cs:List Value}{x:DataW H×List MemPlace}(h:DataW.trod enc Tryz.prog W base sp held fuel 23 cs=some x)(hs:SzW Tryz.prog 23 x.1):∃ l:List En,∃ u,cs=[u]∧RepC (S0 W) (.sl false 17 l.length (rE l)) u∧∀ e ∈ l,RgEn e:=by
 obtain ⟨a,len,cap,m,rfl,rfl,hlc,hcap0,hrows⟩:=tr_sliceS htb (t:=23) (e:=56) rfl rfl (by decide) h hs
 have hcap:len*208≤140737488351232:=hcap0
 rcases hrows with h0|⟨b,o,rfl,hr⟩
 ·subst h0
  exact ⟨[],_,rfl,repC_rows ⟨hlc,by simp⟩ (.inl rfl),fun e he=>by simp at he⟩
 ·have hex:∀ i:Fin len,∃ v:En,∃ ce:List Value,ce.length=17∧(∀ j,j<17→W.cell? ⟨b,o+i*17+j,none⟩=ce[j]?)∧RepVs (S0 W) (cEn v) ce∧RgEn v:=by
   intro ⟨i,hi⟩
   obtain ⟨ce,y,hl,hc,ht,hsy⟩:=hr i hi
   obtain ⟨v,hv,gv⟩:=open_En ht hsy
   exact ⟨v,ce,hl,hc,hv,gv⟩
  have hf:=fun i=>Classical.choose_spec (hex i)
  refine ⟨List.ofFn fun i=>Classical.choose (hex i),_,rfl,?_,fun x hx=> ?_⟩
  rotate_left
  ·obtain ⟨i,rfl⟩:=List.mem_ofFn.1 hx
   obtain ⟨_,_,_,_,g⟩:=hf i
   exact g
  rw [List.length_ofFn]
  refine repC_rows ⟨hlc,by omega⟩ (.inr ⟨b,o,rfl,fun i hi=> ?_⟩)
  obtain ⟨ce,g1,g2,g3,_⟩:=hf ⟨i,hi⟩
  have hrow:rE (List.ofFn fun i=>Classical.choose (hex i)) i=cEn (Classical.choose (hex ⟨i,hi⟩)):=by
   simp [rowE,List.getD_eq_getElem?_getD,hi]
  rw [hrow]
  refine ⟨ce,g1,fun j hj u hu=> ?_,rfl,g3⟩
  have:=g2 j hj
  rw [hu] at this
  exact this
theorem open_state {v:Value}{d:DataW H}{ps:List MemPlace}{r:Reach}{b0:Nat}(hval:Value.okWide Tryz.prog W r b0 25 v)(hd:DataW.Trod enc Tryz.prog W base sp held 25 v d ps)(hs:SzW Tryz.prog 25 d) :
  ∃ x:St,RelV [] (S0 W) (.ag (cSt x)) v∧RgSt x:=by
 obtain ⟨arr,rfl,hc⟩:=arg_agg htb (t:=25) rfl hval
 obtain ⟨fuel,hf⟩:=hd
 rw [hc] at hf
 obtain ⟨hl,m,rfl,hx⟩:=tr_structS htb (t:=25) rfl hf hs
 obtain ⟨y0,h0,s0⟩:=hx 0 0 22 rfl rfl
 obtain ⟨y1,h1,s1⟩:=hx 1 1 22 rfl rfl
 obtain ⟨y2,h2,s2⟩:=hx 2 2 23 rfl rfl
 obtain ⟨a,e0,a0,a1⟩:=tr_int htb (t:=22) (k:= .u64) rfl h0
 obtain ⟨s,e1,b0,b1⟩:=tr_int htb (t:=22) (k:= .u64) rfl h1
 obtain ⟨l,u,e2,r2,g2⟩:=open_Ens h2 s2
 have hrel:∀ q:St,RepVs (S0 W) (cSt q) arr.toList→RelV [] (S0 W) (.ag (cSt q)) (.agg arr):=fun q h=>relV_agg rfl h
 have hl:arr.toList.length=3:=hl
 generalize arr.toList=c at *
 match c,hl with
 | [c0,c1,c2],_ =>
  simp [tb,tbl,VA.look] at e0 e1 e2
  subst e0; subst e1; subst e2
  refine ⟨⟨a,s,l⟩,hrel _ ?_,⟨a0,Int.lt_of_le_of_lt a1 (by decide),b0,Int.lt_of_le_of_lt b1 (by decide),g2⟩⟩
  simp only [RepVs]
  exact ⟨_,_,rfl,repV_i,_,_,rfl,repV_i,_,_,rfl,r2,rfl⟩
end
section
variable {H:Type} {enc:TypeId×Value→H} {W:World} {base:Nat} {sp:Nat→Bool} {held:Bool}
theorem lenI8 {l:List Value}(h:l.length=8):∃ a b c d e f g i,l=[a,b,c,d,e,f,g,i]:=by
 match l,h with
 | [a,b,c,d,e,f,g,i],_=>exact ⟨_,_,_,_,_,_,_,_,rfl⟩
theorem open_It {fuel:Nat}{cs:List Value}{x:DataW H×List MemPlace}(h:DataW.trod enc Tryz.prog W base sp held fuel 32 cs=some x):∃ i:It,(∀ S,RepVs S (cIt i) cs)∧RgIt i:=by
 obtain ⟨hl,m,rfl,hx⟩:=tr_struct htb (t:=32) rfl h
 obtain ⟨c0,c1,c2,c3,c4,c5,c6,c7,rfl⟩:=lenI8 hl
 obtain ⟨y0,h0⟩:=hx 0 0 22 rfl rfl
 obtain ⟨y1,h1⟩:=hx 1 1 3 rfl rfl
 obtain ⟨y2,h2⟩:=hx 2 2 30 rfl rfl
 obtain ⟨_,m2,rfl,hk⟩:=tr_struct htb (t:=30) rfl h2
 obtain ⟨z0,k0⟩:=hk 0 0 27 rfl rfl
 obtain ⟨z1,k1⟩:=hk 1 5 28 rfl rfl
 obtain ⟨_,m3,rfl,ha⟩:=tr_struct htb (t:=27) rfl k0
 obtain ⟨w0,a0⟩:=ha 0 0 9 rfl rfl
 obtain ⟨w1,a1⟩:=ha 1 1 9 rfl rfl
 obtain ⟨w2,a2⟩:=ha 2 2 3 rfl rfl
 obtain ⟨w3,a3⟩:=ha 3 3 2 rfl rfl
 obtain ⟨w4,a4⟩:=ha 4 4 9 rfl rfl
 obtain ⟨n,e0,n0,n1⟩:=tr_int htb (t:=22) (k:= .u64) rfl h0
 obtain ⟨k,e1,_⟩:=tr_int htb (t:=3) (k:= .i64) rfl h1
 obtain ⟨g,e2,g0,g1⟩:=tr_int htb (t:=28) (k:= .u32) rfl k1
 obtain ⟨t,e3,_⟩:=tr_str htb (t:=9) rfl a0
 obtain ⟨nm,e4,_⟩:=tr_str htb (t:=9) rfl a1
 obtain ⟨kk,e5,_⟩:=tr_int htb (t:=3) (k:= .i64) rfl a2
 obtain ⟨ix,e6,_⟩:=tr_int htb (t:=2) (k:= .i64) rfl a3
 obtain ⟨s,e7,_⟩:=tr_str htb (t:=9) rfl a4
 simp [tb,tbl,VA.look] at e0 e1 e2 e3 e4 e5 e6 e7
 subst e0; subst e1; subst e2; subst e3; subst e4; subst e5; subst e6; subst e7
 refine ⟨⟨n,k,⟨⟨t,nm,kk,ix,s⟩,g⟩⟩,fun S=> ?_,n0,g0,g1⟩
 simp only [cIt,RepVs]
 exact ⟨_,_,rfl,repV_i,_,_,rfl,repV_i,_,_,rfl,repV_s,_,_,rfl,repV_s,_,_,rfl,repV_i,_,_,rfl,repV_i,_,_,rfl,repV_s,_,_,rfl,repV_i,rfl⟩
theorem open_intent {v:Value}{d:DataW H}{ps:List MemPlace}{r:Reach}{b0:Nat}(hval:Value.okWide Tryz.prog W r b0 32 v)(hd:DataW.Trod enc Tryz.prog W base sp held 32 v d ps) :
  ∃ i:It,(∀ S,RelV [] S (.ag (cIt i)) v)∧RgIt i:=by
 obtain ⟨arr,rfl,hc⟩:=arg_agg htb (t:=32) rfl hval
 obtain ⟨fuel,hf⟩:=hd
 rw [hc] at hf
 obtain ⟨i,hi,hr⟩:=open_It hf
 exact ⟨i,fun S=>relV_agg rfl (hi S),hr⟩
end
end Go.Proofs.YtiodgjgngfklkaaGreatDoor
