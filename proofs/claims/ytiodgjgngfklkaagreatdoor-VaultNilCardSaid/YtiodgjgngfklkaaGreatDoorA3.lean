/- Contracts of functions of the program,and the laws that stand on them: what each function answers,whatever its arguments. -/
import Derived.Test.YtiodgjgngfklkaaGreatDoorA1
import Derived.Test.YtiodgjgngfklkaaGreatDoorS1
import Derived.Test.YtiodgjgngfklkaaGreatDoorC9
import Derived.Test.YtiodgjgngfklkaaGreatDoorC18
set_option linter.all false
set_option maxRecDepth 100000
set_option maxHeartbeats 8000000
namespace Go.Proofs.YtiodgjgngfklkaaGreatDoor
open Go Go.VA
theorem mStep (t:Bool)(s:ByteArray)(a b n e:Int):MCall Tryz.prog gl 145 [cR t s a b] [.ptr 0 0,intA .i64 n,intA .i64 e] [cR t s (IntKind.i64.wrap (a+n)) e] (.tup []):=by
 refine mcall_of_vcb htb hmix (f:=145) rfl rfl rfl (by kernel_rfl) rfl rfl rfl fun hb hb2=> ?_; simp only [bndPre,bndAll,AV.bnd,bnds,C.bnd,true_and,and_true] at hb hb2; conv=>whnf
 repeat' (fail)
 exact ⟨Le.refl _,⟨LeC.refl _,LeC.refl _,LeC.refl _,trivial⟩,trivial⟩
def RgOk (s:ByteArray) (a e:Int):Prop:=e=0→0≤a∧a≤s.size
def rTx (s:ByteArray) (a b:Int):ByteArray×Int×Int:=if b != 0 then (ByteArray.empty,a,b) else ((gStr s a.toNat (s.size-a.toNat) 24).1,a+(gStr s a.toNat (s.size-a.toNat) 24).2.1,(gStr s a.toNat (s.size-a.toNat) 24).2.2)
def rKd (s:ByteArray) (a b:Int):Int×Int×Int:=if b != 0 then (0,a,b) else if decide (a≥s.size) then (0,a+1,2) else (byteAt s a,a+1,if decide (byteAt s a>2) then 4 else 0)
theorem nB_one (s:ByteArray)(k:Nat):(nB (fun i=>(s.data.toList[k+i]?).getD 0) 0 1:Int)=byteN s k:=by
 simp [nB,byteN]
theorem wT {a n:Int}{s:ByteArray}(hs:s.size≤140737488355328)(h:0≤a+n∧a+n≤s.size):IntKind.i64.wrap (a+n)=a+n:=wrap64 (by omega) (by omega)
theorem mTextA (t:Bool)(s:ByteArray)(a b:Int)(h:RgOk s a b):MCall Tryz.prog gl 121 [cR t s a b] [.ptr 0 0] [cR t s (rTx s a b).2.1 (rTx s a b).2.2] (.c (.v (.string (rTx s a b).1))):=by
 by_cases hb0:b=0
 ·obtain ⟨h0,h1⟩:=h hb0
  have hM:(0:Int)≤a∧a≤s.size:=⟨h0,h1⟩
  subst hb0
  have ok:=gStr_ok s a.toNat (s.size-a.toNat) 24
  have e:rTx s a 0=((gStr s a.toNat (s.size-a.toNat) 24).1,a+(gStr s a.toNat (s.size-a.toNat) 24).2.1,(gStr s a.toNat (s.size-a.toNat) 24).2.2):=by unfold rTx; rw [if_neg (by decide)]
  rw [e]
  refine mcall_of_vcb htb hmix (f:=121) rfl rfl rfl (by kernel_rfl) rfl rfl rfl fun hb hb2=> ?_; simp only [bndPre,bndAll,AV.bnd,bnds,C.bnd,true_and,and_true] at hb hb2; conv=>whnf
  have hn:=hb.1
  repeat' (first|(refine Exists.intro _ (And.intro (chainI (aGetStr _ _ _ _ _)) ?_); conv=>whnf)|(refine And.intro (fun h=> ?_) (fun h=> ?_)<;>(first|skip)<;>(first|exact absurd h (by decide)|(conv=>whnf)))|((with_reducible refine DOr.l ?_); (conv=>whnf))|(refine And.intro ?_ ?_; (focus (first|(first|assumption)|fail)); conv=>whnf)|((with_reducible refine xc_guard ?_); refine xc_mb (by first|(((conv=>whnf); repeat' (first|exact trivial|exact rfl|exact LeC.refl _|((with_reducible refine And.intro ?_ ?_)<;>conv=>whnf))); done)|fail) (mStep _ _ _ _ _ _) rfl rfl rfl rfl ?_; conv=>whnf)|fail)
  refine ⟨Le.refl _,⟨LeC.refl _,LeC.of_eq (C.eqI ?_),LeC.refl _,trivial⟩,trivial⟩
  by_cases hz:(gStr s a.toNat (s.size-a.toNat) 24).2.2=0
  ·have:=ok.1 hz
   exact wrap64 (by omega) (by omega)
  ·have:=(ok.2 hz).2
   exact wrap64 (by omega) (by omega)
 ·have e:rTx s a b=(ByteArray.empty,a,b):=by unfold rTx; rw [if_pos (by simpa using hb0)]
  rw [e]
  have hq:(b != 0)=true:=by simpa using hb0
  refine mcall_of_vcb htb hmix (f:=121) rfl rfl rfl (by kernel_rfl) rfl rfl rfl fun hb hb2=> ?_; simp only [bndPre,bndAll,AV.bnd,bnds,C.bnd,true_and,and_true] at hb hb2; conv=>whnf
  repeat' (first|(refine And.intro (fun h=> ?_) (fun h=> ?_)<;>(first|skip)<;>(first|(conv=>whnf)))|((with_reducible refine DOr.l ?_); (conv=>whnf))|fail)
  ·exact ⟨Le.refl _,⟨LeC.refl _,LeC.refl _,LeC.refl _,trivial⟩,trivial⟩
  ·exact absurd (h.symm.trans hq) (by decide)
theorem mNumA (t:Bool)(s:ByteArray)(a b:Int)(h:RgOk s a b):MCall Tryz.prog gl 123 [cR t s a b] [.ptr 0 0] [cR t s (rShort s a b).2.1 (rShort s a b).2.2] (intA .u64 (rShort s a b).1):=by
 by_cases hb0:b=0
 ·obtain ⟨h0,h1⟩:=h hb0
  have hM:(0:Int)≤a∧a≤s.size:=⟨h0,h1⟩
  subst hb0
  have ok:=gS_ok s a.toNat (s.size-a.toNat) 0 0 (Int.le_refl 0)
  have bad:=gS_bad s a.toNat (s.size-a.toNat) 0 0
  have e:rShort s a 0=((gS s a.toNat (s.size-a.toNat) 0 0).1,a+(gS s a.toNat (s.size-a.toNat) 0 0).2.1,(gS s a.toNat (s.size-a.toNat) 0 0).2.2):=by unfold rShort; rw [if_neg (by decide)]
  rw [e]
  refine mcall_of_vcb htb hmix (f:=123) rfl rfl rfl (by kernel_rfl) rfl rfl rfl fun hb hb2=> ?_; simp only [bndPre,bndAll,AV.bnd,bnds,C.bnd,true_and,and_true] at hb hb2; conv=>whnf
  have hn:=hb.1
  repeat' (first|(refine Exists.intro _ (And.intro (chainI (aGetShort _ _ _ _)) ?_); conv=>whnf)|(refine And.intro (fun h=> ?_) (fun h=> ?_)<;>(first|skip)<;>(first|exact absurd h (by decide)|(conv=>whnf)))|((with_reducible refine DOr.l ?_); (conv=>whnf))|(refine And.intro ?_ ?_; (focus (first|(first|assumption)|fail)); conv=>whnf)|((with_reducible refine xc_guard ?_); refine xc_mb (by first|(((conv=>whnf); repeat' (first|exact trivial|exact rfl|exact LeC.refl _|((with_reducible refine And.intro ?_ ?_)<;>conv=>whnf))); done)|fail) (mStep _ _ _ _ _ _) rfl rfl rfl rfl ?_; conv=>whnf)|fail)
  refine ⟨Le.refl _,⟨LeC.refl _,LeC.of_eq (C.eqI ?_),LeC.refl _,trivial⟩,trivial⟩
  by_cases hz:(gS s a.toNat (s.size-a.toNat) 0 0).2.2=0
  ·have:=ok hz
   exact wrap64 (by omega) (by omega)
  ·have:=(bad hz).2
   exact wrap64 (by omega) (by omega)
 ·have e:rShort s a b=(0,a,b):=by unfold rShort; rw [if_pos (by simpa using hb0)]
  rw [e]
  have hq:(b != 0)=true:=by simpa using hb0
  refine mcall_of_vcb htb hmix (f:=123) rfl rfl rfl (by kernel_rfl) rfl rfl rfl fun hb hb2=> ?_; simp only [bndPre,bndAll,AV.bnd,bnds,C.bnd,true_and,and_true] at hb hb2; conv=>whnf
  repeat' (first|(refine And.intro (fun h=> ?_) (fun h=> ?_)<;>(first|skip)<;>(first|(conv=>whnf)))|((with_reducible refine DOr.l ?_); (conv=>whnf))|fail)
  ·exact ⟨Le.refl _,⟨LeC.refl _,LeC.refl _,LeC.refl _,trivial⟩,trivial⟩
  ·exact absurd (h.symm.trans hq) (by decide)
theorem mKindA (t:Bool)(s:ByteArray)(a b:Int)(h:RgOk s a b):MCall Tryz.prog gl 122 [cR t s a b] [.ptr 0 0] [cR t s (rKd s a b).2.1 (rKd s a b).2.2] (intA .i64 (rKd s a b).1):=by
 by_cases hb0:b=0
 ·obtain ⟨h0,h1⟩:=h hb0
  have hM:(0:Int)≤a∧a≤s.size:=⟨h0,h1⟩
  subst hb0
  have hlt:=byteN_lt s a.toNat
  have G:ACall Tryz.prog gl 37 [.c (.sl t 1 (s.size-a.toNat) (fun i=>strCells s (a.toNat+i))),intA .i64 1] [] (.tup [intA .u64 (if s.size-a.toNat<1 then 0 else byteN s a.toNat),intA .i64 (if s.size-a.toNat<1 then 2 else 0)]):=by
   have:=aNumGet t (s.size-a.toNat) (fun i=>(s.data.toList[a.toNat+i]?).getD 0) 1 (by decide) (by decide)
   rw [nB_one] at this
   exact this
  by_cases hsz:s.size-a.toNat<1
  ·rw [if_pos hsz,if_pos hsz] at G
   have e:rKd s a 0=(0,a+1,2):=by unfold rKd; rw [if_neg (by decide),if_pos (by simp; omega)]
   rw [e]
   refine mcall_of_vcb htb hmix (f:=122) rfl rfl rfl (by kernel_rfl) rfl rfl rfl fun hb hb2=> ?_; simp only [bndPre,bndAll,AV.bnd,bnds,C.bnd,true_and,and_true] at hb hb2; conv=>whnf
   have hn:=hb.1
   repeat' (first|(refine Exists.intro _ (And.intro (chainI (G)) ?_); conv=>whnf)|(refine And.intro (fun h=> ?_) (fun h=> ?_)<;>(first|skip)<;>(first|exact absurd h (by decide)|(conv=>whnf)))|((with_reducible refine DOr.l ?_); (conv=>whnf))|(refine And.intro ?_ ?_; (focus (first|(first|assumption)|fail)); conv=>whnf)|((with_reducible refine xc_guard ?_); refine xc_mb (by first|(((conv=>whnf); repeat' (first|exact trivial|exact rfl|exact LeC.refl _|((with_reducible refine And.intro ?_ ?_)<;>conv=>whnf))); done)|fail) (mStep _ _ _ _ _ _) rfl rfl rfl rfl ?_; conv=>whnf)|fail)
   exact ⟨Le.refl _,⟨LeC.refl _,LeC.of_eq (C.eqI (wrap64 (by omega) (by omega))),LeC.refl _,trivial⟩,trivial⟩
  ·rw [if_neg hsz,if_neg hsz] at G
   have e:rKd s a 0=(byteN s a.toNat,a+1,if decide (byteN s a.toNat>2) then 4 else 0):=by unfold rKd; rw [if_neg (by decide),if_neg (by simp; omega)]
   rw [e]
   have wb:IntKind.i64.wrap (byteN s a.toNat)=byteN s a.toNat:=wrap64 (by omega) (by omega)
   refine mcall_of_vcb htb hmix (f:=122) rfl rfl rfl (by kernel_rfl) rfl rfl rfl fun hb hb2=> ?_; simp only [bndPre,bndAll,AV.bnd,bnds,C.bnd,true_and,and_true] at hb hb2; conv=>whnf
   have hn:=hb.1
   repeat' (first|(refine Exists.intro _ (And.intro (chainI (G)) ?_); conv=>whnf)|(refine And.intro (fun h=> ?_) (fun h=> ?_)<;>(first|skip)<;>(first|exact absurd h (by decide)|(conv=>whnf)))|((with_reducible refine DOr.l ?_); (conv=>whnf))|(refine And.intro ?_ ?_; (focus (first|(first|assumption)|fail)); conv=>whnf)|((with_reducible refine xc_guard ?_); refine xc_mb (by first|(((conv=>whnf); repeat' (first|exact trivial|exact rfl|exact LeC.refl _|((with_reducible refine And.intro ?_ ?_)<;>conv=>whnf))); done)|fail) (mStep _ _ _ _ _ _) rfl rfl rfl rfl ?_; conv=>whnf)|fail)
   ·rw [if_pos (by simpa using h)]
    exact ⟨leI wb,⟨LeC.refl _,LeC.of_eq (C.eqI (wrap64 (by omega) (by omega))),LeC.refl _,trivial⟩,trivial⟩
   ·rw [if_neg (by simpa using h)]
    exact ⟨leI wb,⟨LeC.refl _,LeC.of_eq (C.eqI (wrap64 (by omega) (by omega))),LeC.refl _,trivial⟩,trivial⟩
 ·have e:rKd s a b=(0,a,b):=by unfold rKd; rw [if_pos (by simpa using hb0)]
  rw [e]
  have hq:(b != 0)=true:=by simpa using hb0
  refine mcall_of_vcb htb hmix (f:=122) rfl rfl rfl (by kernel_rfl) rfl rfl rfl fun hb hb2=> ?_; simp only [bndPre,bndAll,AV.bnd,bnds,C.bnd,true_and,and_true] at hb hb2; conv=>whnf
  repeat' (first|(refine And.intro (fun h=> ?_) (fun h=> ?_)<;>(first|skip)<;>(first|(conv=>whnf)))|((with_reducible refine DOr.l ?_); (conv=>whnf))|fail)
  ·exact ⟨Le.refl _,⟨LeC.refl _,LeC.refl _,LeC.refl _,trivial⟩,trivial⟩
  ·exact absurd (h.symm.trans hq) (by decide)
def ky0:Ky:=⟨⟨ByteArray.empty,ByteArray.empty,0,0,ByteArray.empty⟩,0⟩
def kyFin (k:Ky) (i n a e:Int):Ky×Int×Int :=
 if e != 0 then (ky0,0,e) else if decide (i>9223372036854775807)||decide (n>4294967295)|| !okKy k then (ky0,0,4) else (k,a,0)
def gK1 (s:ByteArray):ByteArray×Int×Int:=rTx s 0 0
def gK2 (s:ByteArray):ByteArray×Int×Int:=rTx s (gK1 s).2.1 (gK1 s).2.2
def gK3 (s:ByteArray):Int×Int×Int:=rKd s (gK2 s).2.1 (gK2 s).2.2
def gK4 (s:ByteArray):Int×Int×Int:=rShort s (gK3 s).2.1 (gK3 s).2.2
def gK5 (s:ByteArray):ByteArray×Int×Int:=rTx s (gK3 s).2.1 (gK3 s).2.2
def gKyA (s:ByteArray):Ky×Int×Int :=
 if (gK3 s).1==1 then
  let r:=rShort s (gK4 s).2.1 (gK4 s).2.2
  kyFin ⟨⟨(gK1 s).1,(gK2 s).1,(gK3 s).1,IntKind.i64.wrap (bitsI .and .u64 (gK4 s).1 9223372036854775807),ByteArray.empty⟩,IntKind.u32.wrap r.1⟩ (gK4 s).1 r.1 r.2.1 r.2.2
 else if (gK3 s).1==2 then
  let r:=rShort s (gK5 s).2.1 (gK5 s).2.2
  kyFin ⟨⟨(gK1 s).1,(gK2 s).1,(gK3 s).1,0,(gK5 s).1⟩,IntKind.u32.wrap r.1⟩ 0 r.1 r.2.1 r.2.2
 else kyFin ⟨⟨(gK1 s).1,(gK2 s).1,(gK3 s).1,0,ByteArray.empty⟩,IntKind.u32.wrap (gK4 s).1⟩ 0 (gK4 s).1 (gK4 s).2.1 (gK4 s).2.2
theorem rTx_rg {s:ByteArray}{a b:Int}(h:RgOk s a b):RgOk s (rTx s a b).2.1 (rTx s a b).2.2:=by
 unfold RgOk rTx
 split
 ·rename_i hb
  intro h0
  have h0:b=0:=h0
  rw [h0] at hb
  exact absurd hb (by decide)
 ·rename_i hb
  intro h0
  have hb:b=0:=by simpa using hb
  have:=(gStr_ok s a.toNat (s.size-a.toNat) 24).1 h0
  have:=h hb
  show 0≤a+(gStr s a.toNat (s.size-a.toNat) 24).2.1∧a+(gStr s a.toNat (s.size-a.toNat) 24).2.1≤s.size
  omega
theorem rSh_rg {s:ByteArray}{a b:Int}(h:RgOk s a b):RgOk s (rShort s a b).2.1 (rShort s a b).2.2:=by
 unfold RgOk rShort
 split
 ·rename_i hb
  intro h0
  have h0:b=0:=h0
  rw [h0] at hb
  exact absurd hb (by decide)
 ·rename_i hb
  intro h0
  have hb:b=0:=by simpa using hb
  have:=gS_ok s a.toNat (s.size-a.toNat) 0 0 (Int.le_refl 0) h0
  have:=h hb
  show 0≤a+(gS s a.toNat (s.size-a.toNat) 0 0).2.1∧a+(gS s a.toNat (s.size-a.toNat) 0 0).2.1≤s.size
  omega
theorem rKd_rg {s:ByteArray}{a b:Int}(h:RgOk s a b):RgOk s (rKd s a b).2.1 (rKd s a b).2.2:=by
 unfold RgOk rKd
 split
 ·rename_i hb
  intro h0
  have h0:b=0:=h0
  rw [h0] at hb
  exact absurd hb (by decide)
 ·rename_i hb
  have hb:b=0:=by simpa using hb
  have:=h hb
  split
  ·intro h0; exact absurd (show (2:Int)=0 from h0) (by decide)
  ·rename_i h2
   intro _
   simp only [ge_iff_le,decide_eq_true_eq] at h2
   show 0≤a+1∧a+1≤s.size
   omega
theorem rg0 (s:ByteArray):RgOk s 0 0:=fun _=>⟨Int.le_refl _,by omega⟩
theorem ckn (b:Bool):((if b=true then (0:Int) else 1) != 0)= !b:=by cases b<;>rfl
theorem kyFin_e {k:Ky}{i n a e:Int}(h:(e != 0)=true):kyFin k i n a e=(ky0,0,e):=by unfold kyFin; rw [if_pos h]
theorem kyFin_b {k:Ky}{i n a e:Int}(h:(e != 0)=false)(h2:(decide (i>9223372036854775807)||decide (n>4294967295)|| !okKy k)=true):kyFin k i n a e=(ky0,0,4):=by unfold kyFin; rw [h,if_neg (by decide),if_pos h2]
theorem kyFin_ok {k:Ky}{i n a e:Int}(h:(e != 0)=false)(h2:(decide (i>9223372036854775807)||decide (n>4294967295)|| !okKy k)=false):kyFin k i n a e=(k,a,0):=by unfold kyFin; rw [h,if_neg (by decide),h2,if_neg (by decide)]
theorem gKyA_1 {s:ByteArray}(h:((gK3 s).1==1)=true):gKyA s=kyFin ⟨⟨(gK1 s).1,(gK2 s).1,(gK3 s).1,IntKind.i64.wrap (bitsI .and .u64 (gK4 s).1 9223372036854775807),ByteArray.empty⟩,IntKind.u32.wrap (rShort s (gK4 s).2.1 (gK4 s).2.2).1⟩ (gK4 s).1 (rShort s (gK4 s).2.1 (gK4 s).2.2).1 (rShort s (gK4 s).2.1 (gK4 s).2.2).2.1 (rShort s (gK4 s).2.1 (gK4 s).2.2).2.2:=by unfold gKyA; rw [if_pos h]
theorem gKyA_2 {s:ByteArray}(h1:((gK3 s).1==1)=false)(h:((gK3 s).1==2)=true):gKyA s=kyFin ⟨⟨(gK1 s).1,(gK2 s).1,(gK3 s).1,0,(gK5 s).1⟩,IntKind.u32.wrap (rShort s (gK5 s).2.1 (gK5 s).2.2).1⟩ 0 (rShort s (gK5 s).2.1 (gK5 s).2.2).1 (rShort s (gK5 s).2.1 (gK5 s).2.2).2.1 (rShort s (gK5 s).2.1 (gK5 s).2.2).2.2:=by unfold gKyA; rw [h1,if_neg (by decide),if_pos h]
theorem gKyA_0 {s:ByteArray}(h1:((gK3 s).1==1)=false)(h:((gK3 s).1==2)=false):gKyA s=kyFin ⟨⟨(gK1 s).1,(gK2 s).1,(gK3 s).1,0,ByteArray.empty⟩,IntKind.u32.wrap (gK4 s).1⟩ 0 (gK4 s).1 (gK4 s).2.1 (gK4 s).2.2:=by unfold gKyA; rw [h1,if_neg (by decide),h,if_neg (by decide)]
theorem aGetKy (t:Bool)(s:ByteArray):ACall Tryz.prog gl 95 [.c (.sl t 1 s.size (strCells s))] [] (.tup [.ag (cKy (gKyA s).1),intA .i64 (gKyA s).2.1,intA .i64 (gKyA s).2.2]):=by
 have r1:RgOk s (gK1 s).2.1 (gK1 s).2.2:=rTx_rg (rg0 s)
 have r2:RgOk s (gK2 s).2.1 (gK2 s).2.2:=rTx_rg r1
 have r3:RgOk s (gK3 s).2.1 (gK3 s).2.2:=rKd_rg r2
 have r4:RgOk s (gK4 s).2.1 (gK4 s).2.2:=rSh_rg r3
 have r5:RgOk s (gK5 s).2.1 (gK5 s).2.2:=rTx_rg r3
 have r0:=rg0 s
 refine acall_of_vc htb hmix (f:=95) rfl rfl rfl (by kernel_rfl) rfl rfl ?_; conv=>whnf
 repeat' (first|((with_reducible refine GOr.l ?_); (conv=>whnf); refine Exists.intro _ (And.intro (chainI (aCheckK ⟨⟨_,_,_,_,_⟩,_⟩)) ?_); conv=>whnf)|(refine And.intro (fun h=> ?_) (fun h=> ?_)<;>(first|skip)<;>(first|(conv=>whnf)))|((with_reducible apply Drawn.one); conv=>whnf)|((with_reducible refine Then.mk' ?_); conv=>whnf)|(first|exact RefS.self rfl|fail)|(refine And.intro ?_ ?_; (focus (first|exact rfl|fail)); conv=>whnf)|((with_reducible refine xc_guard ?_); refine xc_mb (by first|(((conv=>whnf); repeat' (first|exact trivial|exact rfl|exact LeC.refl _|((with_reducible refine And.intro ?_ ?_)<;>conv=>whnf))); done)|fail) (mTextA _ _ _ _ ?_) rfl rfl rfl rfl ?_; (focus assumption); conv=>whnf)|((with_reducible refine xc_guard ?_); refine xc_mb (by first|(((conv=>whnf); repeat' (first|exact trivial|exact rfl|exact LeC.refl _|((with_reducible refine And.intro ?_ ?_)<;>conv=>whnf))); done)|fail) (mKindA _ _ _ _ ?_) rfl rfl rfl rfl ?_; (focus assumption); conv=>whnf)|((with_reducible refine xc_guard ?_); refine xc_mb (by first|(((conv=>whnf); repeat' (first|exact trivial|exact rfl|exact LeC.refl _|((with_reducible refine And.intro ?_ ?_)<;>conv=>whnf))); done)|fail) (mNumA _ _ _ _ ?_) rfl rfl rfl rfl ?_; (focus assumption); conv=>whnf)|fail)
 all_goals try simp only [ckn] at h
 all_goals first
  | rw [gKyA_1 (s:=s) (by assumption)]
  | rw [gKyA_2 (s:=s) (by assumption) (by assumption)]
  | rw [gKyA_0 (s:=s) (by assumption) (by assumption)]
 all_goals first
  | (rw [kyFin_e (by assumption)]; exact Le.refl _)
  | (rw [kyFin_b (by assumption) (by assumption)]; exact Le.refl _)
  | (rw [kyFin_ok (by assumption) (by assumption)]; exact Le.refl _)
theorem ifT {α:Type}{b:Bool}{x y:α}(h:b=true):(if b=true then x else y)=x:=if_pos h
theorem ifF {α:Type}{b:Bool}{x y:α}(h:b=false):(if b=true then x else y)=y:=if_neg (by rw [h]; decide)
theorem and_max (i:Int)(h0:0≤i)(h:i≤9223372036854775807):bitsI .and .u64 i 9223372036854775807=i:=by
 obtain ⟨n,rfl⟩:=Int.eq_ofNat_of_zero_le h0
 unfold bitsI
 show IntKind.u64.wrap (((BitVec.ofInt 64 (n:Int) &&& BitVec.ofInt 64 9223372036854775807).toNat:Nat):Int)=_
 rw [BitVec.toNat_and,ofNat64 _ (by omega),show (BitVec.ofInt 64 9223372036854775807).toNat=2 ^ 63-1 from by decide,Nat.and_two_pow_sub_one_eq_mod,Nat.mod_eq_of_lt (by omega)]
 exact wrapU (by omega) (by omega)
theorem gS_nn (s:ByteArray)(k:Nat):∀ (m i:Nat) (acc:Int),0≤acc→0≤(gS s k m i acc).1
 | 0,_,_,_=>Int.le_refl 0
 | m+1,i,acc,h=>by
  simp only [gS]
  split
  ·exact Int.le_refl 0
  ·split
   ·split
    ·exact Int.le_refl 0
    ·exact gSt_nn _ _ _
   ·exact gS_nn s k m (i+1) _ (gSt_nn _ _ _)
theorem rTx_back (s t:ByteArray)(a:Nat)(ht:t.size≤24)(h:AtL s a (strL t)):rTx s (a:Int) 0=(t,((a+(strL t).length:Nat):Int),0):=by
 have h1:AtL s a (shortL t.size):=h.left
 have h2:AtL s (a+(shortL t.size).length) (bytesL t):=h.right
 have hg:=gSx_back s a t.size (by omega) h1
 have hl:=h2.1
 rw [bytesL_len] at hl
 unfold gSx at hg
 rw [Int.toNat_natCast] at hg
 unfold rTx gStr
 rw [Int.toNat_natCast,hg]
 have w:IntKind.u64.wrap (if (0:Int)>24 then 0 else 24)=24:=rfl
 rw [if_neg (by decide),if_neg (by simp),w,if_neg (by simp; omega),if_neg (by simp; omega)]
 simp only [Int.toNat_natCast]
 rw [subS_back s t _ h2]
 have:(strL t).length=(shortL t.size).length+t.size:=by rw [strL,List.length_append,bytesL_len]
 rw [this]
 push_cast
 rfl
theorem rSh_back (s:ByteArray)(a n:Nat)(hn:n<2 ^ 64)(h:AtL s a (shortL n)):rShort s (a:Int) 0=((n:Int),((a+(shortL n).length:Nat):Int),0):=by
 have hg:=gSx_back s a n hn h
 unfold gSx at hg
 unfold rShort
 rw [if_neg (by decide),hg]
 push_cast
 rfl
theorem rKd_back (s:ByteArray)(a:Nat)(x:Int)(h0:0≤x)(h2:x≤2)(h:AtL s a [IntKind.u8.wrap x]):rKd s (a:Int) 0=(x,((a+1:Nat):Int),0):=by
 have w:IntKind.u8.wrap x=x:=by show x%256=x; omega
 rw [w] at h
 have hb:=h.head
 unfold rKd byteAt
 rw [Int.toNat_natCast,hb.1,if_neg (by decide),if_neg (by simp; omega),if_neg (by simp; omega)]
 rfl
theorem ba_empty {s:ByteArray}(h:s.size=0):s=ByteArray.empty:=ba_ext h fun i hi=>by omega
theorem okAd_0 {a:Ad}(h:okAd a=true)(h0:a.k=0):a.i=0∧a.s=ByteArray.empty:=by
 unfold okAd at h
 simp [h0] at h
 exact ⟨h.1.2,ba_empty (by simpa using h.2)⟩
theorem okAd_1 {a:Ad}(h:okAd a=true)(h0:a.k=1):a.s=ByteArray.empty:=by
 unfold okAd at h
 simp [h0] at h
 exact ba_empty (by simpa using h.2)
theorem okAd_2 {a:Ad}(h:okAd a=true)(h0:a.k=2):a.i=0:=by
 unfold okAd at h
 simp [h0] at h
 exact h.1.2
theorem ky_back (s:ByteArray)(k:Ky)(ho:okKy k=true)(h0:0≤k.n)(h1:k.n≤4294967295)(h:AtL s 0 (kyL k)):gKyA s=(k,((kyL k).length:Int),0):=by
 obtain ⟨⟨z1,z2,z3,z4,z5,z6,z7⟩,z8⟩:=okKy_le ho
 have hoa:okAd k.a=true:=by
  unfold okKy at ho
  simp only [Bool.and_eq_true] at ho
  exact ho.2
 have wn:(IntKind.u64.wrap k.n).toNat=k.n.toNat:=by rw [wrapU h0 (by omega)]
 have wi:(IntKind.u64.wrap k.a.i).toNat=k.a.i.toNat:=by rw [wrapU z6 (by omega)]
 have w32:IntKind.u32.wrap k.n=k.n:=by show k.n%4294967296=k.n; omega
 unfold kyL at h
 rw [wn,wi] at h
 have hA:=h.left.left.left.left
 have hB:=h.left.left.left.right
 have hC:=h.left.left.right
 have hD:=h.left.right
 have hE:=h.right
 have e1:gK1 s=(k.a.t,((0+(strL k.a.t).length:Nat):Int),0):=rTx_back s k.a.t 0 z1 hA
 have e2:gK2 s=(k.a.n,((0+(strL k.a.t).length+(strL k.a.n).length:Nat):Int),0):=by
  unfold gK2; rw [e1]; exact rTx_back s k.a.n _ z2 hB
 have e3:gK3 s=(k.a.k,((0+(strL k.a.t++strL k.a.n).length+1:Nat):Int),0):=by
  unfold gK3; rw [e2]
  have:=rKd_back s _ k.a.k z4 z5 hC
  rw [List.length_append] at this ⊢
  rw [← Nat.add_assoc] at this ⊢
  exact this
 have el:0+(strL k.a.t++strL k.a.n).length+1=0+(strL k.a.t++strL k.a.n++[IntKind.u8.wrap k.a.k]).length:=by simp; omega
 have fin:kyFin k (if k.a.k=1 then k.a.i else 0) k.n ((kyL k).length:Int) 0=(k,((kyL k).length:Int),0):=by
  unfold kyFin
  rw [if_neg (by decide),if_neg]
  have q1:decide ((if k.a.k=1 then k.a.i else 0)>9223372036854775807)=false:=by
   split<;>simp<;>omega
  have q2:decide (k.n>4294967295)=false:=by simp; omega
  rw [q1,q2,ho]; decide
 have elen:((kyL k).length:Int)=((0+(strL k.a.t++strL k.a.n++[IntKind.u8.wrap k.a.k]++(if k.a.k==1 then shortL k.a.i.toNat else if k.a.k==2 then strL k.a.s else [])).length+(shortL k.n.toNat).length:Nat):Int):=by
  unfold kyL
  rw [wn,wi,List.length_append,Nat.zero_add]
 have hk:k.a.k=0∨k.a.k=1∨k.a.k=2:=by omega
 rw [el] at e3
 rw [elen]
 rw [elen] at fin
 have g1:(gK1 s).1=k.a.t:=by rw [e1]
 have g2:(gK2 s).1=k.a.n:=by rw [e2]
 have g3:(gK3 s).1=k.a.k:=by rw [e3]
 have wm:(k.n.toNat:Int)=k.n:=Int.toNat_of_nonneg h0
 rcases hk with hk|hk|hk
 ·obtain ⟨i0,s0⟩:=okAd_0 hoa hk
  have b1:(k.a.k==1)=false:=by rw [hk]; rfl
  have b2:(k.a.k==2)=false:=by rw [hk]; rfl
  simp only [b1,b2,Bool.false_eq_true,if_false,List.append_nil] at hE fin ⊢
  have r4:=rSh_back s _ k.n.toNat (by omega) hE
  have e4:gK4 s=_:=Eq.trans (by unfold gK4; rw [e3]) r4
  unfold gKyA
  rw [g1,g2,g3,b1,b2,e4,if_neg (by decide),if_neg (by decide)]
  rw [if_neg (by omega)] at fin
  have ek:(⟨⟨k.a.t,k.a.n,k.a.k,0,ByteArray.empty⟩,IntKind.u32.wrap (k.n.toNat:Int)⟩:Ky)=k:=by
   rw [wm,w32]
   conv=>rhs; rw [show k=⟨⟨k.a.t,k.a.n,k.a.k,k.a.i,k.a.s⟩,k.n⟩ from rfl,i0,s0]
  show kyFin ⟨⟨k.a.t,k.a.n,k.a.k,0,ByteArray.empty⟩,IntKind.u32.wrap (k.n.toNat:Int)⟩ 0 (k.n.toNat:Int) _ 0=_
  rw [ek,wm]
  exact fin
 ·have s0:=okAd_1 hoa hk
  have b1:(k.a.k==1)=true:=by rw [hk]; rfl
  simp only [b1,if_true] at hD hE fin ⊢
  have r4:=rSh_back s _ k.a.i.toNat (by omega) hD
  have e4:gK4 s=_:=Eq.trans (by unfold gK4; rw [e3]) r4
  have a4:∀ (A B:List Int),0+(A++B).length=0+A.length+B.length:=fun A B=>by rw [List.length_append]; omega
  rw [a4] at hE
  have r5:=rSh_back s _ k.n.toNat (by omega) hE
  have e5:rShort s (gK4 s).2.1 (gK4 s).2.2=_:=Eq.trans (by rw [e4]) r5
  unfold gKyA
  rw [g1,g2,g3,b1,if_pos rfl,e5,e4]
  rw [if_pos hk] at fin
  have wj:(k.a.i.toNat:Int)=k.a.i:=Int.toNat_of_nonneg z6
  have wb:IntKind.i64.wrap (bitsI .and .u64 (k.a.i.toNat:Int) 9223372036854775807)=k.a.i:=by rw [wj]; rw [and_max _ z6 (by omega),wrap64 (by omega) (by omega)]
  have ek:(⟨⟨k.a.t,k.a.n,k.a.k,IntKind.i64.wrap (bitsI .and .u64 (k.a.i.toNat:Int) 9223372036854775807),ByteArray.empty⟩,IntKind.u32.wrap (k.n.toNat:Int)⟩:Ky)=k:=by
   rw [wb,wm,w32]
   conv=>rhs; rw [show k=⟨⟨k.a.t,k.a.n,k.a.k,k.a.i,k.a.s⟩,k.n⟩ from rfl,s0]
  show kyFin ⟨⟨k.a.t,k.a.n,k.a.k,IntKind.i64.wrap (bitsI .and .u64 (k.a.i.toNat:Int) 9223372036854775807),ByteArray.empty⟩,IntKind.u32.wrap (k.n.toNat:Int)⟩ (k.a.i.toNat:Int) (k.n.toNat:Int) _ 0=_
  rw [ek,wm,wj,← a4 _ (shortL k.a.i.toNat)]
  exact fin
 ·have i0:=okAd_2 hoa hk
  have b1:(k.a.k==1)=false:=by rw [hk]; rfl
  have b2:(k.a.k==2)=true:=by rw [hk]; rfl
  simp only [b1,b2,Bool.false_eq_true,if_false,if_true] at hD hE fin ⊢
  have r4:=rTx_back s k.a.s _ z3 hD
  have e4:gK5 s=_:=Eq.trans (by unfold gK5; rw [e3]) r4
  have a4:∀ (A B:List Int),0+(A++B).length=0+A.length+B.length:=fun A B=>by rw [List.length_append]; omega
  rw [a4] at hE
  have r5:=rSh_back s _ k.n.toNat (by omega) hE
  have e5:rShort s (gK5 s).2.1 (gK5 s).2.2=_:=Eq.trans (by rw [e4]) r5
  unfold gKyA
  rw [g1,g2,g3,b1,b2,if_neg (by decide),if_pos rfl,e5,e4]
  rw [if_neg (by omega)] at fin
  have ek:(⟨⟨k.a.t,k.a.n,k.a.k,0,k.a.s⟩,IntKind.u32.wrap (k.n.toNat:Int)⟩:Ky)=k:=by
   rw [wm,w32]
   conv=>rhs; rw [show k=⟨⟨k.a.t,k.a.n,k.a.k,k.a.i,k.a.s⟩,k.n⟩ from rfl,i0]
  show kyFin ⟨⟨k.a.t,k.a.n,k.a.k,0,k.a.s⟩,IntKind.u32.wrap (k.n.toNat:Int)⟩ 0 (k.n.toNat:Int) _ 0=_
  rw [ek,wm,← a4 _ (strL k.a.s)]
  exact fin
end Go.Proofs.YtiodgjgngfklkaaGreatDoor
