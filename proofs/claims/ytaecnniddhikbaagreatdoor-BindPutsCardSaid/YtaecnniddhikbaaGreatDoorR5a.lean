/- What functions of the program answer,whatever their arguments. -/
import Derived.Test.YtaecnniddhikbaaGreatDoorP19
import Derived.Test.YtaecnniddhikbaaGreatDoorR3
import Derived.Test.YtaecnniddhikbaaGreatDoorP12
set_option linter.unusedSectionVars false
set_option linter.unnecessarySimpa false
set_option linter.unusedSimpArgs false
set_option linter.unusedVariables false
set_option maxRecDepth 100000
set_option maxHeartbeats 8000000
namespace Go.Proofs.YtaecnniddhikbaaGreatDoor
open Go Go.VA
theorem AtL.app {s:ByteArray}{a:Nat}{A B:List Int}(h:AtL s a A)(h2:AtL s (a+A.length) B):AtL s a (A++B):=by
 have z:=h2.1
 refine ⟨by rw [List.length_append]; omega,fun j hj=> ?_⟩
 rw [List.length_append] at hj
 by_cases hl:j<A.length
 ·rw [h.2 j hl]
  simp [List.getD_eq_getElem?_getD,List.getElem?_append_left hl]
 ·have:=h2.2 (j-A.length) (by omega)
  rw [show a+A.length+(j-A.length)=a+j from by omega] at this
  rw [this]
  simp [List.getD_eq_getElem?_getD,List.getElem?_append_right (show A.length≤j by omega)]
theorem AtL.one {s:ByteArray}{a:Nat}{x:Int}(h:byteN s a=x)(h1:a<s.size):AtL s a [x]:=⟨by rw [List.length_singleton]; omega,fun j hj=>by
 obtain rfl:j=0:=by simpa using hj
 exact h⟩
theorem AtL.none {s:ByteArray}{a:Nat}(h:a≤s.size):AtL s a []:=⟨by simpa using h,fun j hj=>absurd hj (Nat.not_lt_zero _)⟩
structure Rd (s:ByteArray) (a e:Int) (L:List Int):Prop where
 p:e=0→a=(L.length:Int)∧AtL s 0 L
theorem Rd.zero (s:ByteArray):Rd s 0 0 []:=⟨fun _=>⟨rfl,AtL.none (Nat.zero_le _)⟩⟩
theorem and63 {n:Int}(h0:0≤n)(h1:n≤9223372036854775807):IntKind.i64.wrap (bitsI .and .u64 n 9223372036854775807)=n:=by
 obtain ⟨k,rfl⟩:∃ k:Nat,n=(k:Int):=⟨n.toNat,by omega⟩
 have hk:k<2 ^ 64:=by omega
 unfold bitsI
 show IntKind.i64.wrap (IntKind.u64.wrap (((BitVec.ofInt 64 (k:Int) &&& BitVec.ofInt 64 9223372036854775807).toNat:Nat):Int))=_
 rw [BitVec.toNat_and,show (BitVec.ofInt 64 9223372036854775807).toNat=2 ^ 63-1 from by decide,ofNat64 _ hk,Nat.and_two_pow_sub_one_eq_mod,Nat.mod_eq_of_lt (by omega),wrapU (by omega) (by omega),wrap64 (by omega) (by omega)]
end Go.Proofs.YtaecnniddhikbaaGreatDoor
namespace Go.Proofs.YtaecnniddhikbaaGreatDoor
open Go Go.VA
end Go.Proofs.YtaecnniddhikbaaGreatDoor
namespace Go.Proofs.YtaecnniddhikbaaGreatDoor
open Go Go.VA
def n1 (s:ByteArray) (a:Nat):Nat:=a+(tx s a).2.1.toNat
def n2 (s:ByteArray) (a:Nat):Nat:=a+(vl s a).2.1.toNat
def bdA (s:ByteArray) (a:Nat):Nat:=n2 s (n1 s a)
def bdB (s:ByteArray) (a:Nat):Bool:=false||(tx s a).2.2 != 0||(vl s (n1 s a)).2.2 != 0
def bdE (s:ByteArray) (a:Nat):Bd:=⟨(tx s a).1,(vl s (n1 s a)).1⟩
def k1 (s:ByteArray) (a:Nat):Nat:=a+(kd s a).2.1.toNat
def k2 (s:ByteArray) (a:Nat):Nat:=a+smN s a
def spA (s:ByteArray) (a:Nat):Nat:=k2 s (k1 s a)
def spB (s:ByteArray) (a:Nat):Bool:=false||(kd s a).2.2 != 0||decide (s.size-k1 s a<32)
def spE (s:ByteArray) (a:Nat):Sp:=⟨(kd s a).1,smF s (k1 s a)⟩
def acA (s:ByteArray) (a:Nat):Nat:=(acS s a false).2.1
def acB (s:ByteArray) (a:Nat):Bool:=(acS s a false).2.2
def acE (s:ByteArray) (a:Nat):Ac:=acV s a false
def shE (s:ByteArray) (a:Nat):Bool:=(sh s a).2.2 != 0
section
variable {α:Type}
theorem lp_back {A:Nat→Nat}{B:Nat→Bool}{E:Nat→α}{enc:α→List Int}{s:ByteArray}:∀ (l:List α) (m a:Nat) (acc:List α),(∀ x ∈ l,∀ a,AtL s a (enc x)→A a=a+(enc x).length∧B a=false∧E a=x)→AtL s a (l.flatMap enc)→l.length<m→l.length≤1000000 →
  lpR A B E m (l.length:Int) a acc false=(acc++l,a+(l.flatMap enc).length,false)
 | [],m,a,acc,_,_,hm,_=>by
  obtain ⟨m,rfl⟩:∃ k,m=k+1:=⟨m-1,by simp at hm; omega⟩
  simp only [lpR]
  rw [if_neg (by simp)]
  simp
 | x::l,m,a,acc,h,hL,hm,hb=>by
  rw [List.length_cons] at hm hb
  obtain ⟨m,rfl⟩:∃ k,m=k+1:=⟨m-1,by omega⟩
  rw [List.flatMap_cons] at hL
  obtain ⟨e1,e2,e3⟩:=h x (by simp) a hL.left
  have ih:=lp_back l m (a+(enc x).length) (acc++[x]) (fun y hy=>h y (by simp [hy])) hL.right (by omega) (by omega)
  have hw:IntKind.u64.wrap (((l.length+1:Nat):Int)-1)=(l.length:Int):=(wrapU2 (by omega) (by omega)).trans (by omega)
  rw [List.length_cons,List.flatMap_cons,List.length_append]
  simp only [lpR]
  rw [if_pos (by first|(simp; done)|fail),hw,e1,e2,e3,ih,List.append_assoc,Nat.add_assoc]
  rfl
end
theorem sm_back {s:ByteArray}{a:Nat}{d:Nat→UInt8}(hd:∀ i,32≤i→d i=0)(h:AtL s a (sumL d)):smN s a=32∧smF s a=d∧decide (s.size-a<32)=false:=by
 have hz:=h.1
 rw [sumL_len] at hz
 have e:smN s a=32:=by unfold smN; omega
 refine ⟨e,?_,decide_eq_false (by omega)⟩
 unfold smF smK
 rw [e]
 funext i
 by_cases hi:i<32
 ·rw [if_pos hi]
  have:=h.2 i (by rw [sumL_len]; exact hi)
  rw [sumL,getD_bys 32 _ i hi] at this
  exact byte_of this
 ·rw [if_neg hi,hd i (by omega)]
theorem tx_back {s t:ByteArray}{a:Nat}(ht:t.size≤1024)(h:AtL s a (strL t)):tx s a=(t,((strL t).length:Int),0):=by
 have:=gTx_back s t a ht h
 unfold gTx at this
 rw [Int.toNat_natCast] at this
 exact this
theorem ne0f {x:Int}(h:(x != 0)=false):x=0:=by simpa using h
theorem bd_back {s:ByteArray}{b:Bd}(o:OkB b)(r:rgV b.v=true)(a:Nat)(h:AtL s a (bdL b)):bdA s a=a+(bdL b).length∧bdB s a=false∧bdE s a=b:=by
 unfold bdL at h
 have e1:=tx_back (by have:=o.n; omega) h.left
 have q1:n1 s a=a+(strL b.n).length:=by unfold n1; rw [e1]; rfl
 have e2:=vl_back o.v r h.right
 rw [← q1] at e2
 refine ⟨?_,?_,?_⟩
 ·unfold bdA n2 bdL
  rw [e2,q1,List.length_append,Nat.add_assoc]; rfl
 ·unfold bdB; rw [e2,e1]; rfl
 ·unfold bdE; rw [e2,e1]
theorem bdL_pos (b:Bd):0<(bdL b).length:=by
 unfold bdL
 rw [List.length_append,layL_eq,List.length_cons]
 omega
theorem sp_back {s:ByteArray}{x:Sp}(o:okKy x.y=true)(r:0≤x.y.n∧x.y.n≤4294967295∧∀ i,32≤i→x.s i=0)(a:Nat)(h:AtL s a (spL x)):spA s a=a+(spL x).length∧spB s a=false∧spE s a=x:=by
 unfold spL at h
 have e1:=kd_back o r.1 r.2.1 h.left
 have q1:k1 s a=a+(kyL x.y).length:=by unfold k1; rw [e1]; rfl
 have e2:=sm_back r.2.2 h.right
 rw [← q1] at e2
 obtain ⟨g1,g2,g3⟩:=e2
 refine ⟨?_,?_,?_⟩
 ·unfold spA k2 spL
  rw [g1,q1,List.length_append,Nat.add_assoc,sumL_len]
 ·unfold spB; rw [e1,g3]; rfl
 ·unfold spE; rw [e1,g2]
theorem spL_pos (x:Sp):0<(spL x).length:=by
 unfold spL
 rw [List.length_append,sumL_len]
 omega
def hdE (s:ByteArray) (a:Nat):Int:=IntKind.i64.wrap (bitsI .and .u64 (sh s a).1 2147483647)
def hdB (s:ByteArray) (a:Nat):Bool:=false||shE s a||decide ((sh s a).1>2147483647)
theorem hdG_lp (s:ByteArray):∀ (m:Nat) (i:Int) (a:Nat) (acc:List Int) (b:Bool),hdG (s1 s) (fun a=>(sh s a).2.2 != 0) (fun a=>(sh s a).1) m i a acc b=lpR (s1 s) (hdB s) (hdE s) m i a acc b
 | 0,_,_,_,_=>rfl
 | m+1,i,a,acc,b=>by
  simp only [hdG,lpR]
  cases b
  ·split
   ·exact hdG_lp s m _ _ _ _
   ·rfl
  ·rw [if_neg (by simp),if_neg (by simp)]
theorem and31 {n:Int}(h0:0≤n)(h1:n≤2147483647):IntKind.i64.wrap (bitsI .and .u64 n 2147483647)=n:=by
 obtain ⟨k,rfl⟩:∃ k:Nat,n=(k:Int):=⟨n.toNat,by omega⟩
 have hk:k<2 ^ 64:=by omega
 unfold bitsI
 show IntKind.i64.wrap (IntKind.u64.wrap (((BitVec.ofInt 64 (k:Int) &&& BitVec.ofInt 64 2147483647).toNat:Nat):Int))=_
 rw [BitVec.toNat_and,show (BitVec.ofInt 64 2147483647).toNat=2 ^ 31-1 from by decide,ofNat64 _ hk,Nat.and_two_pow_sub_one_eq_mod,Nat.mod_eq_of_lt (by omega),wrapU (by omega) (by omega),wrap64 (by omega) (by omega)]
def hL (k:Int):List Int:=shortL k.toNat
theorem hL_pos (k:Int):0<(hL k).length:=by
 unfold hL shortL
 simp only [shortF]
 split<;>simp
theorem hd_back {s:ByteArray}{k:Int}(h0:0≤k)(h1:k≤2147483647)(a:Nat)(h:AtL s a (hL k)):s1 s a=a+(hL k).length∧hdB s a=false∧hdE s a=k:=by
 unfold hL at h ⊢
 have e:=sh_back (n:=k.toNat) (by omega) h
 rw [Int.toNat_of_nonneg h0] at e
 refine ⟨?_,?_,?_⟩
 ·unfold s1; rw [e]; rfl
 ·unfold hdB shE; rw [e]
  simp only [Bool.false_or,Bool.or_eq_false_iff,decide_eq_false_iff_not]
  exact ⟨by decide,by omega⟩
 ·unfold hdE; rw [e]; exact and31 h0 h1
theorem acL_all (x:Ac):acL x=[IntKind.u8.wrap x.k]++kyL x.y++layL x.p++layL x.w++shortL x.h.length++x.h.flatMap hL:=by
 unfold acL acH ahL
 rw [List.take_length]
 rfl
theorem acS_lp (s:ByteArray)(a:Nat):acS s a false=lpR (s1 s) (hdB s) (hdE s) (s.size+2) (sh s (y4 s a)).1 (y5 s a) [] (bq4 s a false):=hdG_lp s _ _ _ _ _
theorem bq4_f {s:ByteArray}{a:Nat}:bq4 s a false=false ↔ fgE s a=0∧(kd s (y1 s a)).2.2=0∧(vl s (y2 s a)).2.2=0∧(vl s (y3 s a)).2.2=0∧(sh s (y4 s a)).2.2=0:=by
 unfold bq4 bq3 bq2 bq1 bq0
 simp only [Bool.false_or,Bool.or_eq_false_iff,bne_eq_false_iff_eq]
 exact ⟨fun h=>⟨h.1.1.1.1,h.1.1.1.2,h.1.1.2,h.1.2,h.2⟩,fun h=>⟨⟨⟨⟨h.1,h.2.1⟩,h.2.2.1⟩,h.2.2.2.1⟩,h.2.2.2.2⟩⟩
structure RgA (x:Ac):Prop where
 y0:0≤x.y.n
 y1:x.y.n≤4294967295
 p:rgV x.p=true
 w:rgV x.w=true
attribute [local irreducible] kyL layL shortL kd vl sh
theorem ac_back {s:ByteArray}{x:Ac}(o:OkA x)(r:RgA x)(a:Nat)(h:AtL s a (acL x)):acA s a=a+(acL x).length∧acB s a=false∧acE s a=x:=by
 have el:=congrArg List.length (acL_all x)
 simp only [List.length_append,List.length_singleton] at el
 rw [acL_all] at h
 have hF:=h.left.left.left.left.left
 have hK:=h.left.left.left.left.right
 have hP:=h.left.left.left.right
 have hW:=h.left.left.right
 have hS:=h.left.right
 have hD:=h.right
 simp only [List.length_append,List.length_singleton,← Nat.add_assoc] at hK hP hW hS hD
 have ok:=o.k
 have ol:=o.l
 have hb:=hF.head
 have w8:IntKind.u8.wrap x.k=x.k:=by show x.k%256=x.k; omega
 rw [w8] at hb
 have eV:fgV s a=x.k:=by unfold fgV; rw [if_neg (by omega)]; exact hb.1
 have eE:fgE s a=0:=by unfold fgE; rw [if_neg (by omega)]
 have q1:y1 s a=a+1:=by unfold y1; rw [mn_eq]; omega
 have eK:=kd_back o.y r.y0 r.y1 hK
 rw [← q1] at eK hP hW hS hD
 have q2:y2 s a=y1 s a+(kyL x.y).length:=by unfold y2; rw [eK]; rfl
 rw [← q2] at hP hW hS hD
 have eP:=vl_back o.p r.p hP
 have q3:y3 s a=y2 s a+(layL x.p).length:=by unfold y3; rw [eP]; rfl
 rw [← q3] at hW hS hD
 have eW:=vl_back o.w r.w hW
 have q4:y4 s a=y3 s a+(layL x.w).length:=by unfold y4; rw [eW]; rfl
 rw [← q4] at hS hD
 have eS:=sh_back (n:=x.h.length) (by omega) hS
 have q5:y5 s a=y4 s a+(shortL x.h.length).length:=by unfold y5; rw [eS]; rfl
 rw [← q5] at hD
 have hB:bq4 s a false=false:=bq4_f.2 ⟨eE,by rw [eK],by rw [eP],by rw [eW],by rw [eS]⟩
 have L:lpR (s1 s) (hdB s) (hdE s) (s.size+2) (x.h.length:Int) (y5 s a) [] false=([]++x.h,y5 s a+(x.h.flatMap hL).length,false):=lp_back (enc:=hL) x.h (s.size+2) (y5 s a) [] (fun k hk a' ha'=>by
  obtain ⟨i,hi,rfl⟩:=List.mem_iff_getElem.1 hk
  have:=o.h i hi
  rw [List.getD_eq_getElem?_getD,List.getElem?_eq_getElem hi] at this
  exact hd_back this.1 (by have:=this.2; simp only [Option.getD_some] at this; omega) a' ha') hD (by
   have hz:=hD.1
   have:x.h.length≤(x.h.flatMap hL).length:=by
    rw [List.length_flatMap]
    have:∀ l:List Int,l.length≤(l.map fun a=>(hL a).length).sum:=fun l=>by
     induction l with
     | nil=>simp
     | cons y l ih =>
      have:=hL_pos y
      simp only [List.map_cons,List.sum_cons,List.length_cons]
      omega
    exact this _
   omega) (by omega)
 have eA:acS s a false=(x.h,y5 s a+(x.h.flatMap hL).length,false):=by
  rw [acS_lp,eS,hB]
  exact L
 refine ⟨?_,?_,?_⟩
 ·unfold acA
  rw [eA]
  show y5 s a+_=_
  omega
 ·unfold acB; rw [eA]
 ·unfold acE acV
  rw [eA,eK,eP,eW,eV,wrap64 (by omega) (by omega)]
theorem acL_pos (x:Ac):0<(acL x).length:=by
 rw [acL_all]
 simp only [List.length_append,List.length_singleton]
 omega
end Go.Proofs.YtaecnniddhikbaaGreatDoor
namespace Go.Proofs.YtaecnniddhikbaaGreatDoor
open Go Go.VA
def ua (s:ByteArray):Nat:=k2 s 40
def ub (s:ByteArray):Nat:=s1 s (ua s)
def uc (s:ByteArray):Nat:=s1 s (ub s)
def ud (s:ByteArray):Nat:=s1 s (uc s)
def fa (s:ByteArray):Bool:=false||decide (s.size-40<32)
def fb (s:ByteArray):Bool:=fa s||shE s (ua s)
def fc (s:ByteArray):Bool:=fb s||shE s (ub s)
def fd (s:ByteArray):Bool:=fc s||shE s (uc s)
def vrS (s:ByteArray):List Bd×Nat×Bool:=lpR (bdA s) (bdB s) (bdE s) (s.size+2) (sh s (uc s)).1 (ud s) [] (fd s)
def tsS (s:ByteArray):List Sp×Nat×Bool:=lpR (spA s) (spB s) (spE s) (s.size+2) (sh s (vrS s).2.1).1 (s1 s (vrS s).2.1) [] ((vrS s).2.2||shE s (vrS s).2.1)
def axS (s:ByteArray):List Ac×Nat×Bool:=lpR (acA s) (acB s) (acE s) (s.size+2) (sh s (tsS s).2.1).1 (s1 s (tsS s).2.1) [] ((tsS s).2.2||shE s (tsS s).2.1)
def rdP (s:ByteArray):Pl:=⟨smF s 40,(sh s (ua s)).1,(sh s (ub s)).1,(vrS s).1,(tsS s).1,(axS s).1⟩
def rPl (s:ByteArray):Pl×Int:=rPlG s (preM mgP s) (be4 s) (sumB s (wXs s)) (axS s).2.1 (axS s).2.2 (okPl (rdP s)) (rdP s)
theorem n1_le {s:ByteArray}{a:Nat}(h:a≤s.size):a≤n1 s a∧n1 s a≤s.size:=by
 have:=tx_rg s a
 unfold n1; omega
theorem n2_le {s:ByteArray}{a:Nat}(h:a≤s.size):a≤n2 s a∧n2 s a≤s.size:=by
 have:=vl_rg s a
 unfold n2; omega
theorem k1_le {s:ByteArray}{a:Nat}(h:a≤s.size):a≤k1 s a∧k1 s a≤s.size:=by
 have:=kd_rg s a
 unfold k1; omega
theorem k2_le {s:ByteArray}{a:Nat}(h:a≤s.size):a≤k2 s a∧k2 s a≤s.size:=by
 unfold k2 smN; omega
theorem tx_pos {s:ByteArray}{a:Nat}(h:(tx s a).2.2=0):0<(tx s a).2.1:=by
 unfold tx gStr at *
 by_cases h1:((gS s a (s.size-a) 0 0).2.2 != 0)=true
 ·rw [if_pos h1] at h
  have h:(gS s a (s.size-a) 0 0).2.2=0:=h
  rw [h] at h1; exact absurd h1 (by decide)
 rw [if_neg h1] at h ⊢
 have o:=gS_ok s a (s.size-a) 0 0 (Int.le_refl 0) (by simpa using h1)
 by_cases h2:decide ((gS s a (s.size-a) 0 0).1>IntKind.u64.wrap (if 0>(1024:Int) then 0 else 1024))=true
 ·rw [if_pos h2] at h; exact absurd h (by show ¬((3:Int)=0); decide)
 rw [if_neg h2] at h ⊢
 by_cases h3:decide ((gS s a (s.size-a) 0 0).1>((s.size-a:Nat):Int)-(gS s a (s.size-a) 0 0).2.1)=true
 ·rw [if_pos h3] at h; exact absurd h (by show ¬((2:Int)=0); decide)
 rw [if_neg h3]
 have o1:((0:Nat):Int)<(gS s a (s.size-a) 0 0).2.1:=o.1
 show 0<(gS s a (s.size-a) 0 0).2.1+(gS s a (s.size-a) 0 0).1
 omega
theorem bd_rg {s:ByteArray}(a:Nat)(h:a≤s.size):a≤bdA s a∧bdA s a≤s.size∧(bdB s a=false→a<bdA s a):=by
 have h1:=n1_le h
 have h2:=n2_le h1.2
 refine ⟨Nat.le_trans h1.1 h2.1,h2.2,fun hb=> ?_⟩
 unfold bdB at hb
 rw [Bool.false_or,Bool.or_eq_false_iff] at hb
 have:=tx_pos (ne0f hb.1)
 have:a<n1 s a:=by unfold n1; omega
 exact Nat.lt_of_lt_of_le this h2.1
theorem sp_rg {s:ByteArray}(a:Nat)(h:a≤s.size):a≤spA s a∧spA s a≤s.size∧(spB s a=false→a<spA s a):=by
 have h1:=k1_le h
 have h2:=k2_le h1.2
 refine ⟨Nat.le_trans h1.1 h2.1,h2.2,fun hb=> ?_⟩
 unfold spB at hb
 rw [Bool.false_or,Bool.or_eq_false_iff] at hb
 have:=kd_pos s a (ne0f hb.1)
 have:a<k1 s a:=by unfold k1; omega
 exact Nat.lt_of_lt_of_le this h2.1
theorem hdR_rg (s:ByteArray):∀ (m:Nat) (i:Int) (a:Nat) (acc:List Int) (b:Bool),a≤s.size→a≤(lpR (s1 s) (hdB s) (hdE s) m i a acc b).2.1∧(lpR (s1 s) (hdB s) (hdE s) m i a acc b).2.1≤s.size
 | 0,i,a,acc,b,h=>⟨Nat.le_refl _,h⟩
 | m+1,i,a,acc,b,h=>by
  simp only [lpR]
  split
  ·have:=hdR_rg s m (IntKind.u64.wrap (i-1)) (s1 s a) (acc++[hdE s a]) (hdB s a) (s1_le h)
   have h2:a≤s1 s a:=by unfold s1; omega
   omega
  ·exact ⟨Nat.le_refl _,h⟩
theorem y5_y1 (s:ByteArray)(a:Nat):y1 s a≤y5 s a:=by unfold y5 y4 y3 y2; omega
theorem y5_ge (s:ByteArray)(a:Nat):a≤y5 s a:=by unfold y5 y4 y3 y2 y1; omega
theorem ac_rg {s:ByteArray}(a:Nat)(h:a≤s.size):a≤acA s a∧acA s a≤s.size∧(acB s a=false→a<acA s a):=by
 have h1:y5 s a≤acA s a∧acA s a≤s.size:=by
  unfold acA
  rw [acS_lp]
  exact hdR_rg s _ _ _ _ _ (y5_le s a h)
 have h2:=y5_ge s a
 refine ⟨Nat.le_trans h2 h1.1,h1.2,fun hb=> ?_⟩
 unfold acB at hb
 rw [acS_lp] at hb
 have hq:bq4 s a false=false:=by
  cases hq:bq4 s a false
  ·rfl
  ·rw [hq,lpR_bad] at hb; exact absurd hb (by decide)
 have hE:=(bq4_f.1 hq).1
 have:a<y1 s a:=by
  unfold fgE at hE
  split at hE
  ·exact absurd hE (by decide)
  ·unfold y1; rw [mn_eq]; omega
 exact Nat.lt_of_lt_of_le (Nat.lt_of_lt_of_le this (y5_y1 s a)) h1.1
theorem aGetP (t:Bool)(s:ByteArray)(hs:s.size≤4294967296):ACall Tryz.prog gl 13 [.c (.sl t 1 s.size (strCells s))] [] (.tup [.ag (cPl false false false (rPl s).1),intA .i64 (rPl s).2]):=by
 by_cases hA:(s.size:Int)<40
 ·have e:rPl s=(plz,2):=by unfold rPl rPlG; rw [if_pos (by simpa using hA)]
  rw [e]
  have hcond:true=true:=rfl
  refine acall_of_vc htb hmix (f:=13) rfl rfl rfl (by kernel_rfl) rfl rfl ?_; conv=>whnf
  repeat' (first|(refine And.intro (fun h=> ?_) (fun h=> ?_)<;>(first|(with_reducible have hd:_<_:=of_decide_eq_true h)|(with_reducible have hd:¬ (_<_):=of_decide_eq_false h)|fail)<;>(first|(first|omega)|(conv=>whnf)))|((with_reducible refine FzOr.l ?_); conv=>whnf)|fail)
  exact leTup2 plzLe (Le.refl _)
 ·have h40:40≤s.size:=by omega
  exact aGetPG t s hs h40 (preM mgP s) (be4 s) (shaA (wXs s)) (sumB s (wXs s)) (ua s) (ub s) (uc s) (ud s) (fa s) (fb s) (fc s) (fd s) (smF s 40) _ _ _
   (s1 s) (shE s) (fun a=>(sh s a).1) (n1 s) (n2 s) (k1 s) (k2 s) (fun a=>(tx s a).2.2 != 0) (fun a=>(vl s a).2.2 != 0) (fun a=>(kd s a).2.2 != 0) (fun a=>decide (s.size-a<32)) (fun a=>(tx s a).1) (fun a=>(vl s a).1) (fun a=>(kd s a).1) (smF s)
   (acA s) (acB s) (acE s) okPl
   (fun u=>aPreM mgP t u s _ (by omega) mgIP mgEP) (aGet4 t s (by omega))
   (fun u=>aSha1S u t s 40 (s.size-40) _ (fun i hi=>by
    obtain rfl:i=0:=by omega
    rfl) (by omega))
   (fun u v=>aSumEq u v s (wXs s))
   (mSumP t s 40 false) (mShortP t s (ua s) (fa s)) (mShortP t s (ub s) (fb s)) (mShortP t s (uc s) (fc s))
   (fun a b=>mShortP t s a b) (fun a b=>mNameP t s a b) (fun a b=>mValP t s a b) (fun a b=>mKeyP t s a b) (fun a b=>mSumP t s a b)
   (fun a ha=>mActP t s a false hs ha)
   (s1_le (s1_le (s1_le (k2_le h40).2))) (fun a h=>s1_le h) (fun a h=>bd_rg a h) (fun a h=>sp_rg a h) (fun a h=>ac_rg a h)
   (fun u v w p=>aCheckP u v w p) (vrS s) rfl (tsS s) rfl (axS s) rfl (rPl s) rfl
theorem unE_parts {mg s:ByteArray}(h:unE mg s=0):40≤s.size∧preM mg s=true∧IntKind.u64.wrap ((s.size-(40:Int).toNat:Nat):Int)=be4 s∧sumB s (wXs s)=true:=by
 unfold unE unEG at h
 split at h
 ·exact absurd h (by decide)
 ·rename_i h1
  simp only [decide_eq_true_eq] at h1
  refine ⟨by omega,?_⟩
  split at h
  ·exact absurd h (by decide)
  ·rename_i h2
   refine ⟨by simpa using h2,?_⟩
   split at h
   ·exact absurd h (by decide)
   ·rename_i h3
    split at h
    ·exact absurd h (by decide)
    ·rename_i h4
     split at h
     ·exact absurd h (by decide)
     ·rename_i h5
      simp only [decide_eq_true_eq] at h3 h4
      exact ⟨by omega,by simpa using h5⟩
theorem rPl_0 {s:ByteArray}(h:unE mgP s=0):rPl s=if (axS s).2.2||decide (((s.size-(axS s).2.1:Nat):Int)>0)|| !okPl (rdP s) then (plz,4) else (rdP s,0):=by
 obtain ⟨h1,h2,h3,h4⟩:=unE_parts h
 unfold rPl rPlG
 rw [if_neg (by simp; omega),if_neg (by rw [h2]; decide),if_neg (by rw [h3]; simp),if_neg (by rw [h3]; simp),if_neg (by rw [h4]; decide)]
end Go.Proofs.YtaecnniddhikbaaGreatDoor
namespace Go.Proofs.YtaecnniddhikbaaGreatDoor
open Go Go.VA
theorem inP_all (p:Pl):inP p=sumL p.c++shortL p.a.toNat++shortL p.s.toNat++shortL p.b.length++p.b.flatMap bdL++shortL p.t.length++p.t.flatMap spL++shortL p.x.length++p.x.flatMap acL:=by
 unfold inP pxH px0 ptH pt0 pbH pb0 bdsL spsL acsL
 rw [List.take_length,List.take_length,List.take_length]
theorem flat_len {α:Type}{enc:α→List Int}(hp:∀ x,0<(enc x).length):∀ l:List α,l.length≤(l.flatMap enc).length
 | []=>Nat.le_refl _
 | x::l=>by
  have ih:=flat_len hp l
  have:=hp x
  rw [List.flatMap_cons,List.length_append,List.length_cons]
  omega
theorem mem_getD {α:Type}{l:List α}{x d:α}{P:α→Prop}(h:∀ j,j<l.length→P (l.getD j d))(hx:x ∈ l):P x:=by
 obtain ⟨i,hi,rfl⟩:=List.mem_iff_getElem.1 hx
 have:=h i hi
 rw [List.getD_eq_getElem?_getD,List.getElem?_eq_getElem hi] at this
 exact this
theorem shE_b {s:ByteArray}{a n:Nat}(hn:n<2 ^ 64)(h:AtL s a (shortL n)):(sh s a).1=(n:Int)∧s1 s a=a+(shortL n).length∧shE s a=false:=by
 have e:=sh_back hn h
 refine ⟨by rw [e],?_,?_⟩
 ·unfold s1; rw [e]; rfl
 ·unfold shE; rw [e]; rfl
theorem inP_len {p:Pl}(o:OkP p):(inP p).length≤520000000:=pxH_len o _ (Nat.le_refl _)
attribute [local irreducible] sh shortL sumL bdL spL acL kyL layL lpR okPl inP
theorem pl_back {s:ByteArray}{p:Pl}(ho:okPl p=true)(o:OkP p)(r:RgPl p)(hz:s.size=(fmP p).length)(h:AtL s 0 (fmP p)):rPl s=(p,0):=by
 have hl:=inP_len o
 have fl:=fmP_len p
 have hs:s.size≤4294967296:=by omega
 have hu:=unE_back (mg:=mgP) rfl hs (by omega) (by omega) h
 have a0:=r.a0
 have a1:=r.a1
 have s0:=r.s0
 have s1':=r.s1
 have obl:=o.bl
 have otl:=o.tl
 have oxl:=o.xl
 have hr:=h.right
 rw [List.length_append,List.length_append,be4L_len,sumL_len,show (bytesL mgP).length=4 from rfl] at hr
 have el:=congrArg List.length (inP_all p)
 rw [inP_all] at hr
 simp only [List.length_append] at el
 have g1:=hr.left.left.left.left.left.left.left.left
 have g2:=hr.left.left.left.left.left.left.left.right
 have g3:=hr.left.left.left.left.left.left.right
 have g4:=hr.left.left.left.left.left.right
 have g5:=hr.left.left.left.left.right
 have g6:=hr.left.left.left.right
 have g7:=hr.left.left.right
 have g8:=hr.left.right
 have g9:=hr.right
 simp only [List.length_append,← Nat.add_assoc,Nat.zero_add] at g1 g2 g3 g4 g5 g6 g7 g8 g9
 obtain ⟨m1,m2,m3⟩:=sm_back r.c g1
 have q1:ua s=4+4+32+(sumL p.c).length:=by unfold ua k2; rw [m1,sumL_len]
 rw [← q1] at g2 g3 g4 g5 g6 g7 g8 g9
 obtain ⟨e1,q2,n1'⟩:=shE_b (by omega) g2
 have q2:ub s=_:=q2
 rw [← q2] at g3 g4 g5 g6 g7 g8 g9
 obtain ⟨e2,q3,n2'⟩:=shE_b (by omega) g3
 have q3:uc s=_:=q3
 rw [← q3] at g4 g5 g6 g7 g8 g9
 obtain ⟨e3,q4,n3'⟩:=shE_b (by omega) g4
 have q4:ud s=_:=q4
 rw [← q4] at g5 g6 g7 g8 g9
 have wa:(p.a.toNat:Int)=p.a:=Int.toNat_of_nonneg a0
 have ws:(p.s.toNat:Int)=p.s:=Int.toNat_of_nonneg s0
 have hfa:fa s=false:=by
  unfold fa
  rw [show (40:Nat)=4+4+32 from rfl,m3]; rfl
 have hfd:fd s=false:=by unfold fd fc fb; rw [hfa,n1',n2',n3']; rfl
 have L1:vrS s=(p.b,ud s+(p.b.flatMap bdL).length,false):=by
  unfold vrS
  rw [e3,hfd]
  have:=lp_back (A:=bdA s) (B:=bdB s) (E:=bdE s) (enc:=bdL) (s:=s) p.b (s.size+2) (ud s) [] (fun x hx a ha=>bd_back (mem_getD (P:=fun x:Bd=>OkB x) o.b hx) (r.b x hx) a ha) g5 (by have:=flat_len bdL_pos p.b; omega) (by omega)
  rw [List.nil_append] at this
  exact this
 have p1':(vrS s).2.1=ud s+(p.b.flatMap bdL).length:=by rw [L1]
 rw [← p1'] at g6 g7 g8 g9
 obtain ⟨e4,q5,n4'⟩:=shE_b (n:=p.t.length) (by omega) g6
 rw [← q5] at g7 g8 g9
 have L2:tsS s=(p.t,s1 s (vrS s).2.1+(p.t.flatMap spL).length,false):=by
  unfold tsS
  rw [e4,n4',show (vrS s).2.2=false from by rw [L1]]
  have:=lp_back (A:=spA s) (B:=spB s) (E:=spE s) (enc:=spL) (s:=s) p.t (s.size+2) (s1 s (vrS s).2.1) [] (fun x hx a ha=>sp_back (mem_getD (P:=fun x:Sp=>okKy x.y=true) o.t hx) (r.t x hx) a ha) g7 (by have:=flat_len spL_pos p.t; omega) (by omega)
  rw [List.nil_append] at this
  exact this
 have p2':(tsS s).2.1=s1 s (vrS s).2.1+(p.t.flatMap spL).length:=by rw [L2]
 rw [← p2'] at g8 g9
 obtain ⟨e5,q6,n5'⟩:=shE_b (n:=p.x.length) (by omega) g8
 rw [← q6] at g9
 have L3:axS s=(p.x,s1 s (tsS s).2.1+(p.x.flatMap acL).length,false):=by
  unfold axS
  rw [e5,n5',show (tsS s).2.2=false from by rw [L2]]
  have:=lp_back (A:=acA s) (B:=acB s) (E:=acE s) (enc:=acL) (s:=s) p.x (s.size+2) (s1 s (tsS s).2.1) [] (fun x hx a ha=>ac_back (mem_getD (P:=fun x:Ac=>OkA x) o.x hx) (by have:=r.x x hx; exact ⟨this.1,this.2.1,this.2.2.1,this.2.2.2⟩) a ha) g9 (by have:=flat_len acL_pos p.x; omega) (by omega)
  rw [List.nil_append] at this
  exact this
 have er:rdP s=p:=by
  unfold rdP
  rw [show smF s 40=p.c from m2,e1,e2,wa,ws,L1,L2,L3]
 rw [rPl_0 hu,L3,er,ho,if_neg]
 simp only [Bool.false_or,Bool.not_true,Bool.or_false,decide_eq_true_eq]
 omega
theorem fmP_bys {p:Pl}(o:OkP p)(r:RgPl p):Bys (fmP p):=bys_wrap (by intro x hx; revert x; decide +kernel) (bys_inP o r)
theorem fmP_at {p:Pl}(o:OkP p)(r:RgPl p):AtL (baL (fmP p)) 0 (fmP p):=⟨by rw [baL_size]; omega,fun j hj=>by rw [Nat.zero_add]; exact baL_byte (fmP_bys o r) j hj⟩
end Go.Proofs.YtaecnniddhikbaaGreatDoor
namespace Go.Proofs.YtaecnniddhikbaaGreatDoor
open Go Go.VA
attribute [local irreducible] sh shortL sumL bdL spL acL kyL layL lpR okPl inP smF
end Go.Proofs.YtaecnniddhikbaaGreatDoor
