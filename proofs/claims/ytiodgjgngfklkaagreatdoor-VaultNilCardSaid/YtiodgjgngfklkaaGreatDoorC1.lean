/- Contracts of functions of the program,and the laws that stand on them: what each function answers,whatever its arguments. -/
import Derived.Test.YtiodgjgngfklkaaGreatDoorVw5
import Derived.Test.YtiodgjgngfklkaaGreatDoorVD
set_option linter.all false
set_option maxRecDepth 100000
set_option maxHeartbeats 8000000
namespace Go.Proofs.YtiodgjgngfklkaaGreatDoor
open Go Go.VA
theorem u64nn (n:Int):0≤IntKind.u64.wrap n:=by
 show 0≤n%_
 exact Int.emod_nonneg _ (by decide)
abbrev cR (t:Bool) (s:ByteArray) (at' bad:Int):List C:=[.sl t 1 s.size (strCells s),.v (.int .i64 at'),.v (.int .i64 bad)]
def failB (b e:Int):Int:=if b==0 then e else b
theorem mFail (t:Bool)(s:ByteArray)(a b e:Int):MCall Tryz.prog gl 98 [cR t s a b] [.ptr 0 0,intA .i64 e] [cR t s a (failB b e)] (.tup []):=by
 refine mcall_of_vcb htb hmix (f:=98) rfl rfl rfl (by kernel_rfl) rfl rfl rfl fun hb hb2=> ?_; simp only [bndPre,bndAll,AV.bnd,bnds,C.bnd,true_and,and_true] at hb hb2; conv=>whnf
 repeat' (first|(refine And.intro (fun h=> ?_) (fun h=> ?_)<;>(first|skip)<;>conv=>whnf)|fail)
 all_goals exact ⟨Le.refl _,⟨LeC.refl _,LeC.refl _,LeC.of_eq (by simp [failB,h]; done),trivial⟩,trivial⟩
def byteN (s:ByteArray) (i:Nat):Int:=((s.data.toList[i]?).getD 0).toNat
abbrev byteAt (s:ByteArray) (i:Int):Int:=byteN s i.toNat
def rByte (s:ByteArray) (a b:Int):Int×Int×Int:=if b != 0 then (0,a,b) else if decide (a≥s.size) then (0,a,2) else (byteAt s a,a+1,0)
theorem mByte (t:Bool)(s:ByteArray)(a b:Int)(h0:0≤a)(h1:a≤s.size):MCall Tryz.prog gl 124 [cR t s a b] [.ptr 0 0] [cR t s (rByte s a b).2.1 (rByte s a b).2.2] (intA .u8 (rByte s a b).1):=by
 refine mcall_of_vcb htb hmix (f:=124) rfl rfl rfl (by kernel_rfl) rfl rfl rfl fun hb hb2=> ?_; simp only [bndPre,bndAll,AV.bnd,bnds,C.bnd,true_and,and_true] at hb hb2; conv=>whnf
 repeat' (first|(refine And.intro (fun h=> ?_) (fun h=> ?_)<;>(first|(with_reducible have hd:_≤_:=of_decide_eq_true h)|(with_reducible have hd:¬ (_≤_):=of_decide_eq_false h)|skip)<;>conv=>whnf)|(refine And.intro ?_ ?_; (focus (first|(refine chainI ?_; (first|(simp only [IntKind.wrap_i64]; first|omega|(refine And.intro ?_ ?_<;>omega))))|fail)); conv=>whnf)|((with_reducible refine xc_guard ?_); refine xc_mb (by first|(((conv=>whnf); repeat' (first|exact trivial|exact rfl|exact LeC.refl _|((with_reducible refine And.intro ?_ ?_)<;>conv=>whnf))); done)|fail) (mFail _ _ _ _ _) rfl rfl rfl rfl ?_; conv=>whnf)|fail)
 ·have e:rByte s a b=(0,a,b):=by unfold rByte; rw [if_pos h]
  rw [e]
  exact ⟨Le.refl _,⟨LeC.refl _,LeC.refl _,LeC.refl _,trivial⟩,trivial⟩
 ·rename_i hb0
  have e:rByte s a b=(0,a,2):=by unfold rByte; rw [if_neg (by rw [hb0]; simp),if_pos h]
  have e2:failB b 2=2:=by simp at hb0; simp [failB,hb0]
  rw [e,e2]
  exact ⟨Le.refl _,⟨LeC.refl _,LeC.refl _,LeC.refl _,trivial⟩,trivial⟩
 ·rename_i hb0
  have e:rByte s a b=(byteAt s a,a+1,0):=by unfold rByte; rw [if_neg (by rw [hb0]; simp),if_neg (by rw [h]; simp)]
  have w1:IntKind.i64.wrap (a+1)=a+1:=wrap64 (by omega) (by omega)
  have w2:IntKind.i64.wrap (IntKind.i64.wrap (a+1)-1)=a:=by rw [w1,wrap64 (by omega) (by omega)]; omega
  have b0:b=0:=by simpa using hb0
  rw [e]
  exact ⟨leI (by rw [w2]; rfl),⟨LeC.refl _,LeC.of_eq (C.eqI w1),LeC.of_eq (by rw [b0]),trivial⟩,trivial⟩
def zag (n:Int):Int:=bitsI .xor .i64 (IntKind.i64.wrap (shrI .u64 n 1)) (IntKind.i64.wrap (0-(IntKind.i64.wrap (bitsI .and .u64 n 1))))
theorem aZag (n:Int):ACall Tryz.prog gl 125 [intA .u64 n] [] (intA .i64 (zag n)):=by
 refine acall_of_vc htb hmix (f:=125) rfl rfl rfl (by kernel_rfl) rfl rfl ?_; conv=>whnf
 repeat' (first|(refine And.intro ?_ ?_; (focus (first|(refine chainI ?_; (first|decide|fail))|fail)); conv=>whnf)|fail)
 exact Le.refl _
def gSt (acc:Int) (i:Nat) (c:Int):Int:=bitsI .or .u64 acc (shlI .u64 (IntKind.u64.wrap (bitsI .and .u8 c 127)) (IntKind.u64.wrap (7*IntKind.u64.wrap i)))
def gS (s:ByteArray) (k:Nat):Nat→Nat→Int→Int×Int×Int
 | 0,_,_=>(0,0,2)
 | m+1,i,acc =>
  if ((i:Int)==9&&decide (byteN s (k+i)>1)) then (0,0,4)
  else if decide (byteN s (k+i)<128) then (if (byteN s (k+i)==0&&decide ((i:Int)>0)) then (0,0,4) else (gSt acc i (byteN s (k+i)),(i:Int)+1,0))
  else gS s k m (i+1) (gSt acc i (byteN s (k+i)))
def gT (p:Int×Int×Int):AV:= .tup [intA .u64 p.1,intA .i64 p.2.1,intA .i64 p.2.2]
theorem aGetShort (t:Bool)(n:Nat)(s:ByteArray)(k:Nat):ACall Tryz.prog gl 65 [.c (.sl t 1 n (fun i=>strCells s (k+i)))] [] (gT (gS s k n 0 0)):=by
 refine acall_of_vcb htb hmix (f:=65) rfl rfl rfl (by kernel_rfl) rfl rfl fun hb=> ?_; simp only [bndAll,AV.bnd,bnds,C.bnd,cVt,cS,true_and,and_true] at hb; conv=>whnf
 repeat' (fail)
 have hn:n≤140737488355328:=hb.1
 refine loopI (Nat×Int) (fun p=>p.1≤n∧gS s k (n-p.1) p.1 p.2=gS s k n 0 0) (fun p=>[(9,intA .i64 p.1),(2,intA .u64 p.2),(3,intA .i64 0),(4,intA .i64 0)]) (fun _=>[]) (fun p=>n-p.1) (0,0) ⟨Nat.zero_le _,rfl⟩ ?_ (fun _=>rfl) fun ⟨i,acc⟩ ⟨hi,hR⟩=> ?_
 ·(refine And.intro ?_ (And.intro ?_ (And.intro ?_ rfl))<;>(conv=>whnf)<;>repeat' (first|exact trivial|exact LeE.of (Le.refl _)|(first|exact rfl|fail)|((with_reducible refine And.intro ?_ ?_)<;>conv=>whnf)))
 ·change i≤n at hi
  change gS s k (n-i) i acc=_ at hR
  conv=>whnf
  repeat' (first|(refine And.intro (fun h=> ?_) (fun h=> ?_)<;>(first|(with_reducible have hd:_<_:=of_decide_eq_true h)|(with_reducible have hd:¬ (_<_):=of_decide_eq_false h)|skip)<;>conv=>whnf)|(refine And.intro ?_ ?_; (focus (first|(first|exact u64nn _|fail)|(refine chainI ?_; (first|omega|fail))|fail)); conv=>whnf)|fail)
  ·have h:((i:Int)==9&&decide (byteN s (k+i)>1))=true:=h
   have hi':i<n:=by omega
   have e:gS s k n 0 0=(0,0,4):=by rw [← hR,show n-i=(n-(i+1))+1 from by omega]; simp only [gS]; rw [if_pos h]
   rw [e]; exact Le.refl _
  ·rename_i h1 h2
   have h1:((i:Int)==9&&decide (byteN s (k+i)>1))=false:=h1
   have h2:decide (byteN s (k+i)<128)=true:=h2
   have h:(byteN s (k+i)==0&&decide ((i:Int)>0))=true:=h
   have hi':i<n:=by omega
   have e:gS s k n 0 0=(0,0,4):=by rw [← hR,show n-i=(n-(i+1))+1 from by omega]; simp only [gS]; rw [if_neg (by rw [h1]; simp),if_pos h2,if_pos h]
   rw [e]; exact Le.refl _
  ·rename_i h1 h2
   have h1:((i:Int)==9&&decide (byteN s (k+i)>1))=false:=h1
   have h2:decide (byteN s (k+i)<128)=true:=h2
   have h:(byteN s (k+i)==0&&decide ((i:Int)>0))=false:=h
   have hi':i<n:=by omega
   have e:gS s k n 0 0=(gSt acc i (byteN s (k+i)),(i:Int)+1,0):=by rw [← hR,show n-i=(n-(i+1))+1 from by omega]; simp only [gS]; rw [if_neg (by rw [h1]; simp),if_pos h2,if_neg (by rw [h]; simp)]
   rw [e]
   exact leTup3 (Le.refl _) (leI (wrap64 (by omega) (by omega))) (Le.refl _)
  ·rename_i h1
   have h1:((i:Int)==9&&decide (byteN s (k+i)>1))=false:=h1
   have h:decide (byteN s (k+i)<128)=false:=h
   have hi':i<n:=by omega
   refine ⟨(i+1,gSt acc i (byteN s (k+i))),⟨hi',?_⟩,?_,by show n-(i+1)<n-i; omega⟩
   ·rw [← hR,show n-i=(n-(i+1))+1 from by omega]
    simp only [gS]; rw [if_neg (by rw [h1]; simp),if_neg (by rw [h]; simp)]
   ·(refine And.intro ?_ (And.intro ?_ (And.intro ?_ rfl))<;>(conv=>whnf)<;>repeat' (first|exact trivial|exact LeE.of (Le.refl _)|(with_reducible refine LeE.of ?_)|(first|exact rfl|exact leI (by first|rfl|(rw [wrap64 (by omega) (by omega)]; omega)|fail)|fail)|((with_reducible refine And.intro ?_ ?_)<;>conv=>whnf)))
  ·obtain rfl:i=n:=by
    have:¬ ((i:Int)<n):=hd
    omega
   have e:gS s k i 0 0=(0,0,2):=by rw [← hR,Nat.sub_self]; rfl
   rw [e]; exact Le.refl _
theorem isB (n:Nat)(s:ByteArray)(f:Nat→Nat):isBytes n (fun i=>strCells s (f i)):=fun i _=>⟨_,rfl⟩
theorem gSt_nn (acc:Int)(i:Nat)(c:Int):0≤gSt acc i c:=u64nn _
theorem gS_ok (s:ByteArray)(k:Nat):∀ (m i:Nat) (acc:Int),0≤acc→(gS s k m i acc).2.2=0→(i:Int)<(gS s k m i acc).2.1∧(gS s k m i acc).2.1≤i+m∧0≤(gS s k m i acc).1
 | 0,i,acc,_,h=>by simp [gS] at h
 | m+1,i,acc,ha,h=>by
  simp only [gS] at h ⊢
  split at h
  ·simp at h
  ·rename_i h1
   rw [if_neg h1]
   split at h
   ·rename_i h2
    rw [if_pos h2]
    split at h
    ·simp at h
    ·rename_i h3
     rw [if_neg h3]
     exact ⟨by show (i:Int)<i+1; omega,by show (i:Int)+1≤i+(m+1:Nat); omega,gSt_nn _ _ _⟩
   ·rename_i h2
    rw [if_neg h2]
    have:=gS_ok s k m (i+1) _ (gSt_nn acc i _) h
    refine ⟨by have:=this.1; omega,by have:=this.2.1; omega,this.2.2⟩
theorem wrapU {n:Int}(h0:0≤n)(h:n≤9223372036854775807):IntKind.u64.wrap n=n:=by
 show n%18446744073709551616=n
 exact Int.emod_eq_of_lt h0 (by omega)
def subS (s:ByteArray) (a m:Nat):ByteArray:=bytesOf m (fun i=>strCells s (a+i))
def gStr (s:ByteArray) (k n:Nat) (most:Int):ByteArray×Int×Int :=
 if (gS s k n 0 0).2.2 != 0 then (ByteArray.empty,0,(gS s k n 0 0).2.2)
 else if decide ((gS s k n 0 0).1>IntKind.u64.wrap (if 0>most then 0 else most)) then (ByteArray.empty,0,3)
 else if decide ((gS s k n 0 0).1>(n:Int)-(gS s k n 0 0).2.1) then (ByteArray.empty,0,2)
 else (subS s (k+(gS s k n 0 0).2.1.toNat) (gS s k n 0 0).1.toNat,(gS s k n 0 0).2.1+(gS s k n 0 0).1,0)
theorem aGetStr (t:Bool)(n:Nat)(s:ByteArray)(k:Nat)(most:Int):ACall Tryz.prog gl 144 [.c (.sl t 1 n (fun i=>strCells s (k+i))),intA .i64 most] [] (.tup [.c (.v (.string (gStr s k n most).1)),intA .i64 (gStr s k n most).2.1,intA .i64 (gStr s k n most).2.2]):=by
 refine acall_of_vcb htb hmix (f:=144) rfl rfl rfl (by kernel_rfl) rfl rfl fun hb=> ?_; simp only [bndAll,AV.bnd,bnds,C.bnd,cVt,cS,true_and,and_true] at hb; conv=>whnf
 have hn:n≤140737488355328:=hb.1.1
 have ok:=gS_ok s k n 0 0 (Int.le_refl 0)
 repeat' (first|(refine Exists.intro _ (And.intro (aGetShort _ _ _ _) ?_); conv=>whnf)|(refine And.intro (fun h=> ?_) (fun h=> ?_)<;>(first|(with_reducible have hd:_<_:=of_decide_eq_true h)|(with_reducible have hd:¬ (_<_):=of_decide_eq_false h)|skip)<;>conv=>whnf)|((with_reducible refine xc_pure ?_); conv=>whnf))
 ·have e:gStr s k n most=(ByteArray.empty,0,(gS s k n 0 0).2.2):=by unfold gStr; rw [if_pos h]
  rw [e]; exact Le.refl _
 ·rename_i h1
  have e:gStr s k n most=(ByteArray.empty,0,3):=by unfold gStr; rw [if_neg (by rw [h1]; simp),if_pos h]
  rw [e]; exact Le.refl _
 ·rename_i h1 h2 _
  have o:=ok (by simpa using h1)
  rw [wrap64 (by omega) (by omega),wrapU (by omega) (by omega)] at h
  have e:gStr s k n most=(ByteArray.empty,0,2):=by unfold gStr; rw [if_neg (by rw [h1]; simp),if_neg (by rw [h2]; simp),if_pos h]
  rw [e]; exact Le.refl _
 ·rename_i h1 h2 _
  have o:=ok (by simpa using h1)
  have w1:IntKind.u64.wrap (IntKind.i64.wrap ((n:Int)-(gS s k n 0 0).2.1))=(n:Int)-(gS s k n 0 0).2.1:=by rw [wrap64 (by omega) (by omega),wrapU (by omega) (by omega)]
  rw [w1] at h hd
  have e:gStr s k n most=(subS s (k+(gS s k n 0 0).2.1.toNat) (gS s k n 0 0).1.toNat,(gS s k n 0 0).2.1+(gS s k n 0 0).1,0):=by unfold gStr; rw [if_neg (by rw [h1]; simp),if_neg (by rw [h2]; simp),if_neg (by rw [h]; simp)]
  have w2:IntKind.i64.wrap (gS s k n 0 0).1=(gS s k n 0 0).1:=wrap64 (by omega) (by omega)
  have w3:IntKind.i64.wrap ((gS s k n 0 0).2.1+IntKind.i64.wrap (gS s k n 0 0).1)=(gS s k n 0 0).2.1+(gS s k n 0 0).1:=by rw [w2,wrap64 (by omega) (by omega)]
  rw [e]
  have B1:0≤IntKind.i64.wrap ((gS s k n 0 0).2.1+IntKind.i64.wrap (gS s k n 0 0).1)∧IntKind.i64.wrap ((gS s k n 0 0).2.1+IntKind.i64.wrap (gS s k n 0 0).1)≤n:=by rw [w3]; omega
  repeat' (first|(refine And.intro ?_ ?_; (focus (first|(first|exact chainI (isB _ _ _)|assumption)|(refine chainI ?_; (first|omega|fail))|fail)); conv=>whnf)|fail)
  refine leTup3 (Le.of_eq ?_) (leI w3) (Le.refl _)
  show AV.c (.v (.string (bytesOf _ _)))= .c (.v (.string (bytesOf _ _)))
  rw [w3,show ((gS s k n 0 0).2.1+(gS s k n 0 0).1).toNat-(gS s k n 0 0).2.1.toNat=(gS s k n 0 0).1.toNat from by omega]
  simp only [Nat.add_assoc]
theorem gS_bad (s:ByteArray)(k:Nat):∀ (m i:Nat) (acc:Int),(gS s k m i acc).2.2≠0→(gS s k m i acc).1=0∧(gS s k m i acc).2.1=0
 | 0,i,acc,h=>⟨rfl,rfl⟩
 | m+1,i,acc,h=>by
  simp only [gS] at h ⊢
  split at h
  ·rename_i h1; rw [if_pos h1]; exact ⟨rfl,rfl⟩
  ·rename_i h1
   rw [if_neg h1]
   split at h
   ·rename_i h2
    rw [if_pos h2]
    split at h
    ·rename_i h3; rw [if_pos h3]; exact ⟨rfl,rfl⟩
    ·simp at h
   ·rename_i h2
    rw [if_neg h2]
    exact gS_bad s k m (i+1) _ h
def rShort (s:ByteArray) (a b:Int):Int×Int×Int:=if b != 0 then (0,a,b) else ((gS s a.toNat (s.size-a.toNat) 0 0).1,a+(gS s a.toNat (s.size-a.toNat) 0 0).2.1,(gS s a.toNat (s.size-a.toNat) 0 0).2.2)
theorem mShort (t:Bool)(s:ByteArray)(a b:Int)(h0:0≤a)(h1:a≤s.size):MCall Tryz.prog gl 126 [cR t s a b] [.ptr 0 0] [cR t s (rShort s a b).2.1 (rShort s a b).2.2] (intA .u64 (rShort s a b).1):=by
 refine mcall_of_vcb htb hmix (f:=126) rfl rfl rfl (by kernel_rfl) rfl rfl rfl fun hb hb2=> ?_; simp only [bndPre,bndAll,AV.bnd,bnds,C.bnd,true_and,and_true] at hb hb2; conv=>whnf
 have ok:=gS_ok s a.toNat (s.size-a.toNat) 0 0 (Int.le_refl 0)
 have bad:=gS_bad s a.toNat (s.size-a.toNat) 0 0
 have hn:=hb.1
 repeat' (first|(refine Exists.intro _ (And.intro (chainI (aGetShort _ _ _ _)) ?_); conv=>whnf)|(refine And.intro (fun h=> ?_) (fun h=> ?_)<;>(first|skip)<;>conv=>whnf)|((with_reducible refine DOr.l ?_); (conv=>whnf))|(refine And.intro ?_ ?_; (focus (first|(refine chainI ?_; (first|omega|fail))|fail)); conv=>whnf)|((with_reducible refine xc_guard ?_); refine xc_mb (by first|(((conv=>whnf); repeat' (first|exact trivial|exact rfl|exact LeC.refl _|((with_reducible refine And.intro ?_ ?_)<;>conv=>whnf))); done)|fail) (mFail _ _ _ _ _) rfl rfl rfl rfl ?_; conv=>whnf)|fail)
 ·have e:rShort s a b=(0,a,b):=by unfold rShort; rw [if_pos h]
  rw [e]; exact ⟨Le.refl _,⟨LeC.refl _,LeC.refl _,LeC.refl _,trivial⟩,trivial⟩
 ·rename_i hb0
  have b0:b=0:=by simpa using hb0
  have o:=bad (by simpa using h)
  have e:rShort s a b=(0,a,(gS s a.toNat (s.size-a.toNat) 0 0).2.2):=by unfold rShort; rw [if_neg (by rw [hb0]; simp),o.1,o.2,Int.add_zero]
  rw [e]
  exact ⟨leI o.1,⟨LeC.refl _,LeC.of_eq (C.eqI (show IntKind.i64.wrap (a+(gS s a.toNat (s.size-a.toNat) 0 0).2.1)=a by rw [o.2,Int.add_zero]; exact wrap64 (by omega) (by omega))),LeC.of_eq (C.eqI (by rw [b0]; rfl)),trivial⟩,trivial⟩
 ·rename_i hb0
  have b0:b=0:=by simpa using hb0
  have e0:(gS s a.toNat (s.size-a.toNat) 0 0).2.2=0:=by simpa using h
  have o:=ok e0
  have e:rShort s a b=((gS s a.toNat (s.size-a.toNat) 0 0).1,a+(gS s a.toNat (s.size-a.toNat) 0 0).2.1,0):=by unfold rShort; rw [if_neg (by rw [hb0]; simp),e0]
  rw [e]
  exact ⟨Le.refl _,⟨LeC.refl _,LeC.of_eq (C.eqI (wrap64 (by omega) (by omega))),LeC.of_eq (C.eqI b0),trivial⟩,trivial⟩
abbrev rowT (l:List Ty):Nat→List C:=rowE cT (0,0) l
def inn (k:Nat):Nat→List Ty
 | 0=>[]
 | o+1=>if chk (k,o) then inn k o++[((k:Int),(o:Int))] else inn k o
def outr:Nat→List Ty
 | 0=>[]
 | k+1=>outr k++inn k 4
theorem inn_le (k:Nat):∀ c,(inn k c).length≤c
 | 0=>Nat.le_refl _
 | c+1=>by
  have:=inn_le k c
  unfold inn
  split<;>simp<;>omega
theorem outr_le:∀ c,(outr c).length≤4*c
 | 0=>Nat.le_refl _
 | c+1=>by
  have:=outr_le c
  have:=inn_le c 4
  simp only [outr,List.length_append]
  omega
theorem outr_6:outr 6=tys:=by decide
theorem aAllT:ACall Tryz.prog gl 147 [] [] (.c (.sl false 2 12 (rowT tys))):=by
 refine acall_of_vc htb hmix (f:=147) rfl rfl rfl (by kernel_rfl) rfl rfl ?_; conv=>whnf
 repeat' (first|((with_reducible refine NilOr.l ?_); conv=>whnf)|fail)
 refine loopI Nat (· ≤6) (fun c=>[(1,.own 1 2 0 (outr c).length),(5,intA .i64 c)]) (fun c=>[.row 2 0 (fun _=>[]),.row 2 (outr c).length (rowT (outr c))]) (fun c=>6-c) 0 (Nat.zero_le _) ?_ (fun _=>rfl) fun c (hc:c≤6)=> ?_
 ·(refine And.intro ?_ (And.intro ?_ (And.intro ?_ rfl))<;>(conv=>whnf)<;>repeat' (first|exact trivial|exact LeE.of (Le.refl _)|(first|exact rfl|exact fun i hi=>LeCs.refl _|fail)|((with_reducible refine And.intro ?_ ?_)<;>conv=>whnf)))
  exact fun i hi=>absurd hi (Nat.not_lt_zero _)
 ·have hl:=outr_le c
  conv=>whnf
  repeat' (first|(refine And.intro (fun h=> ?_) (fun h=> ?_)<;>(first|(with_reducible have hd:_<_:=of_decide_eq_true h)|(with_reducible have hd:¬ (_<_):=of_decide_eq_false h)|fail)<;>conv=>whnf)|fail)
  ·have h1:c<6:=by omega
   refine loopI Nat (· ≤4) (fun o=>[(1,.own 1 2 0 (outr c++inn c o).length),(8,intA .i64 o)]) (fun o=>[.row 2 0 (fun _=>[]),.row 2 (outr c++inn c o).length (rowT (outr c++inn c o))]) (fun o=>4-o) 0 (Nat.zero_le _) ?_ (fun _=>rfl) fun o (ho:o≤4)=> ?_
   ·have e0:outr c++inn c 0=outr c:=by simp [inn]
    rw [e0]
    (refine And.intro ?_ (And.intro ?_ (And.intro ?_ rfl))<;>(conv=>whnf)<;>repeat' (first|exact trivial|exact LeE.of (Le.refl _)|(first|exact rfl|exact fun i hi=>LeCs.refl _|fail)|((with_reducible refine And.intro ?_ ?_)<;>conv=>whnf)))
   ·have hl2:=inn_le c o
    have hb:((outr c++inn c o).length+1)*(tb 51).bytes≤140737488355328:=by show ((outr c++inn c o).length+1)*16≤_; simp only [List.length_append]; omega
    conv=>whnf
    repeat' (first|(refine Exists.intro _ (And.intro (aChk _ _) ?_); conv=>whnf)|(refine And.intro (fun h=> ?_) (fun h=> ?_)<;>(first|(with_reducible have hd:_<_:=of_decide_eq_true h)|(with_reducible have hd:¬ (_<_):=of_decide_eq_false h)|skip)<;>conv=>whnf)|((with_reducible refine OwnOr.l ?_); (conv=>whnf))|(refine And.intro ?_ ?_; (focus (first|(first|assumption)|fail)); conv=>whnf)|((with_reducible refine xc_pure ?_); conv=>whnf))
    ·have h2:o<4:=by omega
     have e:outr c++inn c (o+1)=outr c++inn c o++[((c:Int),(o:Int))]:=by
      rw [List.append_assoc]; congr 1
      have h:((if chk ((c:Int),(o:Int))=true then (0:Int) else 1)==0)=true:=h
      exact if_pos (by revert h; cases chk ((c:Int),(o:Int))<;>simp)
     have e1:(outr c++inn c (o+1)).length=(outr c++inn c o).length+1:=by rw [e,List.length_append]; rfl
     refine ⟨o+1,h2,?_,by show 4-(o+1)<4-o; omega⟩
     (refine And.intro ?_ (And.intro ?_ (And.intro ?_ rfl))<;>(conv=>whnf)<;>repeat' (first|exact trivial|exact LeE.of (Le.refl _)|(with_reducible refine LeE.of ?_)|(first|exact rfl|exact leI (by first|rfl|(rw [wrap64 (by omega) (by omega)]; omega)|fail)|exact fun i hi=>LeCs.refl _|exact leOwn (by first|rfl|omega))|((with_reducible refine And.intro ?_ ?_)<;>conv=>whnf)))
     ·exact e1.symm
     exact fun i hi=>LeCs.of_eq (by
      rw [e] at hi ⊢
      exact rowE_snoc (enc:=cT) (x:=((c:Int),(o:Int))) (d:=((0:Int),(0:Int))) _ _ rfl i (by rw [List.length_append] at hi; exact hi))
    ·have h2:o<4:=by omega
     have e:outr c++inn c (o+1)=outr c++inn c o:=by
      congr 1
      have h:((if chk ((c:Int),(o:Int))=true then (0:Int) else 1)==0)=false:=h
      exact if_neg (by revert h; cases chk ((c:Int),(o:Int))<;>simp)
     refine ⟨o+1,h2,?_,by show 4-(o+1)<4-o; omega⟩
     rw [e]
     (refine And.intro ?_ (And.intro ?_ (And.intro ?_ rfl))<;>(conv=>whnf)<;>repeat' (first|exact trivial|exact LeE.of (Le.refl _)|(with_reducible refine LeE.of ?_)|(first|exact rfl|exact leI (by first|rfl|(rw [wrap64 (by omega) (by omega)]; omega)|fail)|exact fun i hi=>LeCs.refl _|fail)|((with_reducible refine And.intro ?_ ?_)<;>conv=>whnf)))
    ·obtain rfl:o=4:=by omega
     refine ⟨c+1,h1,?_,by show 6-(c+1)<6-c; omega⟩
     have e:outr (c+1)=outr c++inn c 4:=rfl
     rw [e]
     (refine And.intro ?_ (And.intro ?_ (And.intro ?_ rfl))<;>(conv=>whnf)<;>repeat' (first|exact trivial|exact LeE.of (Le.refl _)|(with_reducible refine LeE.of ?_)|(first|exact rfl|exact leI (by first|rfl|(rw [wrap64 (by omega) (by omega)]; omega)|fail)|exact fun i hi=>LeCs.refl _|fail)|((with_reducible refine And.intro ?_ ?_)<;>conv=>whnf)))
  ·obtain rfl:c=6:=by omega
   exact leSl rfl fun i hi=>by rw [Nat.zero_add,outr_6]
def eqT (a b:Ty):Bool:=a.1==b.1&&a.2==b.2
theorem aIdxT (k o:Int):ACall Tryz.prog gl 158 [.c (.sl false 2 12 (rowT tys)),.ag [.v (.int .i64 k),.v (.int .i64 o)]] [] (intA .i64 (fidx (eqT (k,o)) tys 0)):=by
 refine acall_of_vc htb hmix (f:=158) rfl rfl rfl (by kernel_rfl) rfl rfl ?_; conv=>whnf
 repeat' (fail)
 refine loopI Nat (fun c=>c≤12∧fidx (eqT (k,o)) (tys.drop c) c=fidx (eqT (k,o)) tys 0) (fun c=>[(8,intA .i64 c)]) (fun c=>[.box [.c (.v (.int .i64 k)),.c (.v (.int .i64 o))]]) (fun c=>12-c) 0 ⟨Nat.zero_le _,rfl⟩ ?_ (fun _=>rfl) fun c ⟨hc,hR⟩=> ?_
 ·(refine And.intro ?_ (And.intro ?_ (And.intro ?_ rfl))<;>(conv=>whnf)<;>repeat' (first|exact trivial|exact LeE.of (Le.refl _)|(first|exact rfl|fail)|((with_reducible refine And.intro ?_ ?_)<;>conv=>whnf)))
 ·conv=>whnf
  repeat' (first|(refine And.intro (fun h=> ?_) (fun h=> ?_)<;>(first|(with_reducible have hd:_<_:=of_decide_eq_true h)|(with_reducible have hd:¬ (_<_):=of_decide_eq_false h)|skip)<;>conv=>whnf)|(refine And.intro ?_ ?_; (focus (first|(first|exact seT|fail)|(refine chainI ?_; (first|omega|fail))|fail)); conv=>whnf)|fail)
  ·have h1:c<12:=by omega
   have h:eqT (k,o) (tys.getD c (0,0))=true:=h
   have e:tys[c]? =some (tys.getD c (0,0)):=by
    have hl:c<tys.length:=h1
    rw [List.getD_eq_getElem?_getD,List.getElem?_eq_getElem hl]; rfl
   exact leI (by rw [← hR,drop_cons? e]; simp only [fidx]; rw [if_pos h])
  ·have h1:c<12:=by omega
   have h:eqT (k,o) (tys.getD c (0,0))=false:=h
   have e:tys[c]? =some (tys.getD c (0,0)):=by
    have hl:c<tys.length:=h1
    rw [List.getD_eq_getElem?_getD,List.getElem?_eq_getElem hl]; rfl
   refine ⟨c+1,⟨h1,?_⟩,?_,by show 12-(c+1)<12-c; omega⟩
   ·rw [← hR,drop_cons? e]; simp only [fidx]; rw [if_neg (by rw [h]; simp)]
   ·(refine And.intro ?_ (And.intro ?_ (And.intro ?_ rfl))<;>(conv=>whnf)<;>repeat' (first|exact trivial|exact LeE.of (Le.refl _)|(with_reducible refine LeE.of ?_)|(first|exact rfl|exact leI (by first|rfl|(rw [wrap64 (by omega) (by omega)]; omega)|fail)|fail)|((with_reducible refine And.intro ?_ ?_)<;>conv=>whnf)))
  ·obtain rfl:c=12:=by omega
   exact leI (by rw [← hR]; rfl)
theorem aConT (k o:Int):ACall Tryz.prog gl 146 [.c (.sl false 2 12 (rowT tys)),.ag [.v (.int .i64 k),.v (.int .i64 o)]] [] (boolA (chk (k,o))):=by
 refine acall_of_vc htb hmix (f:=146) rfl rfl rfl (by kernel_rfl) rfl rfl ?_; conv=>whnf
 repeat' (first|(refine Exists.intro _ (And.intro (aIdxT _ _) ?_); conv=>whnf)|((with_reducible refine xc_pure ?_); conv=>whnf))
 refine leB ?_
 rw [fidx_any]
 by_cases h:chk (k,o)=true
 ·rw [h]
  exact List.any_eq_true.2 ⟨_,chk_mem h,by simp [eqT]⟩
 ·have h:chk (k,o)=false:=by simpa using h
  rw [h]
  refine Bool.eq_false_iff.2 fun ha=> ?_
  obtain ⟨p,hp,he⟩:=List.any_eq_true.1 ha
  simp only [eqT,Bool.and_eq_true,beq_iff_eq] at he
  have:∀ p ∈ tys,chk p=true:=by decide
  have hq:=this p hp
  rw [show (k,o)=p from Prod.ext he.1 he.2] at h
  rw [h] at hq; simp at hq
def tOf (c:Int):Ty:=(IntKind.i64.wrap (shrI .u8 c 3),IntKind.i64.wrap (bitsI .and .u8 c 7))
def ofC (c:Int):Ty×Int:=if chk (tOf c) then (tOf c,0) else ((0,0),4)
theorem aOf (c:Int):ACall Tryz.prog gl 128 [intA .u8 c] [] (.tup [tA (ofC c).1,intA .i64 (ofC c).2]):=by
 refine acall_of_vc htb hmix (f:=128) rfl rfl rfl (by kernel_rfl) rfl rfl ?_; conv=>whnf
 repeat' (first|(refine Exists.intro _ (And.intro (chainI (aAllT)) ?_); conv=>whnf)|(refine Exists.intro _ (And.intro (chainI (aConT _ _)) ?_); conv=>whnf)|(refine And.intro (fun h=> ?_) (fun h=> ?_)<;>(first|skip)<;>conv=>whnf)|((with_reducible refine DOr.l ?_); (conv=>whnf))|(refine And.intro ?_ ?_; (focus (first|(refine chainI ?_; (first|decide|fail))|fail)); conv=>whnf)|fail)
 ·have h:(!chk (tOf c))=true:=h
  exact Le.of_eq (by unfold ofC; rw [if_neg (by simpa using h)]; rfl)
 ·have h:(!chk (tOf c))=false:=h
  exact Le.of_eq (by unfold ofC; rw [if_pos (by simpa using h)]; rfl)
theorem gStr_ok (s:ByteArray)(k n:Nat)(most:Int):((gStr s k n most).2.2=0→0≤(gStr s k n most).2.1∧(gStr s k n most).2.1≤n)∧((gStr s k n most).2.2≠0→(gStr s k n most).1=ByteArray.empty∧(gStr s k n most).2.1=0):=by
 have ok:=gS_ok s k n 0 0 (Int.le_refl 0)
 unfold gStr
 generalize IntKind.u64.wrap (if 0>most then 0 else most)=mm
 split
 ·rename_i h; exact ⟨fun _=>⟨Int.le_refl _,by show (0:Int)≤n; omega⟩,fun _=>⟨rfl,rfl⟩⟩
 ·rename_i h
  have o:=ok (by simpa using h)
  split
  ·exact ⟨fun h=>by simp at h,fun _=>⟨rfl,rfl⟩⟩
  ·split
   ·exact ⟨fun h=>by simp at h,fun _=>⟨rfl,rfl⟩⟩
   ·rename_i h3
    simp only [gt_iff_lt,decide_eq_true_eq] at h3
    exact ⟨fun _=>⟨by show 0≤(gS s k n 0 0).2.1+(gS s k n 0 0).1; omega,by show (gS s k n 0 0).2.1+(gS s k n 0 0).1≤n; omega⟩,fun h=>absurd rfl h⟩
def rText (s:ByteArray) (a b:Int):ByteArray×Int×Int:=if b != 0 then (ByteArray.empty,a,b) else ((gStr s a.toNat (s.size-a.toNat) 1024).1,a+(gStr s a.toNat (s.size-a.toNat) 1024).2.1,(gStr s a.toNat (s.size-a.toNat) 1024).2.2)
theorem mText (t:Bool)(s:ByteArray)(a b:Int)(h0:0≤a)(h1:a≤s.size):MCall Tryz.prog gl 127 [cR t s a b] [.ptr 0 0] [cR t s (rText s a b).2.1 (rText s a b).2.2] (.c (.v (.string (rText s a b).1))):=by
 refine mcall_of_vcb htb hmix (f:=127) rfl rfl rfl (by kernel_rfl) rfl rfl rfl fun hb hb2=> ?_; simp only [bndPre,bndAll,AV.bnd,bnds,C.bnd,true_and,and_true] at hb hb2; conv=>whnf
 have hn:=hb.1
 repeat' (first|(refine Exists.intro _ (And.intro (chainI (aGetStr _ _ _ _ _)) ?_); conv=>whnf)|(refine And.intro (fun h=> ?_) (fun h=> ?_)<;>(first|skip)<;>conv=>whnf)|((with_reducible refine DOr.l ?_); (conv=>whnf))|(refine And.intro ?_ ?_; (focus (first|(refine chainI ?_; (first|omega|fail))|fail)); conv=>whnf)|((with_reducible refine xc_guard ?_); refine xc_mb (by first|(((conv=>whnf); repeat' (first|exact trivial|exact rfl|exact LeC.refl _|((with_reducible refine And.intro ?_ ?_)<;>conv=>whnf))); done)|fail) (mFail _ _ _ _ _) rfl rfl rfl rfl ?_; conv=>whnf)|fail)
 ·have e:rText s a b=(ByteArray.empty,a,b):=by unfold rText; rw [if_pos h]
  rw [e]; exact ⟨Le.refl _,⟨LeC.refl _,LeC.refl _,LeC.refl _,trivial⟩,trivial⟩
 ·rename_i hb0
  have b0:b=0:=by simpa using hb0
  have o:=(gStr_ok s a.toNat (s.size-a.toNat) 1024).2 (by simpa using h)
  have e:rText s a b=(ByteArray.empty,a,(gStr s a.toNat (s.size-a.toNat) 1024).2.2):=by unfold rText; rw [if_neg (by rw [hb0]; simp),o.1,o.2,Int.add_zero]
  rw [e]
  exact ⟨Le.of_eq (congrArg (fun x=>AV.c (.v (.string x))) o.1),⟨LeC.refl _,LeC.of_eq (C.eqI (show IntKind.i64.wrap (a+(gStr s a.toNat (s.size-a.toNat) 1024).2.1)=a by rw [o.2,Int.add_zero]; exact wrap64 (by omega) (by omega))),LeC.of_eq (C.eqI (by rw [b0]; rfl)),trivial⟩,trivial⟩
 ·rename_i hb0
  have b0:b=0:=by simpa using hb0
  have e0:(gStr s a.toNat (s.size-a.toNat) 1024).2.2=0:=by simpa using h
  have o:=(gStr_ok s a.toNat (s.size-a.toNat) 1024).1 e0
  have e:rText s a b=((gStr s a.toNat (s.size-a.toNat) 1024).1,a+(gStr s a.toNat (s.size-a.toNat) 1024).2.1,0):=by unfold rText; rw [if_neg (by rw [hb0]; simp),e0]
  rw [e]
  exact ⟨Le.refl _,⟨LeC.refl _,LeC.of_eq (C.eqI (wrap64 (by omega) (by omega))),LeC.of_eq (C.eqI b0),trivial⟩,trivial⟩
abbrev cB (k:Int) (sec:Bool):List C:=[.v (.int .i64 k),.v (.int .i64 0),.v (.string ByteArray.empty),.v (.slice none 0 0),.v (.slice none 0 0),.v (.int .i64 0),.v (.int .i64 0),.v (.bool sec)]
def keyBad (ks:List ByteArray) (x:ByteArray):Bool:=decide ((ks.length:Int)>0)&& !(Op.bytesLess (ks.getD (IntKind.i64.wrap ((ks.length:Int)-1)).toNat ByteArray.empty).toList x.toList)
def rdK (s:ByteArray) (kind:Int) (ks:List ByteArray) (a b:Int):List ByteArray×Int×Int:=if kind==5 then (ks++[(rText s a b).1],(rText s a b).2.1,if keyBad ks (rText s a b).1 then failB (rText s a b).2.2 4 else (rText s a b).2.2) else (ks,a,b)
def rdIt (val:Int→Int→V×Int×Int) (s:ByteArray) (kind:Int):Nat→List ByteArray→List V→Int→Int→List ByteArray×List V×Int×Int
 | 0,ks,l,a,b=>(ks,l,a,b)
 | m+1,ks,l,a,b=>if b != 0 then (ks,l,a,b) else
  rdIt val s kind m (rdK s kind ks a b).1 (l++[(val (rdK s kind ks a b).2.1 (rdK s kind ks a b).2.2).1]) (val (rdK s kind ks a b).2.1 (rdK s kind ks a b).2.2).2.1 (val (rdK s kind ks a b).2.1 (rdK s kind ks a b).2.2).2.2
def itB (s:ByteArray) (a b:Int):Int:=if decide ((rShort s a b).1>128) then failB (rShort s a b).2.2 3 else (rShort s a b).2.2
def rdAll (val:Int→Int→V×Int×Int) (s:ByteArray) (kind a b:Int):List ByteArray×List V×Int×Int:=rdIt val s kind (rShort s a b).1.toNat [] [] (rShort s a b).2.1 (itB s a b)
abbrev cE (k:Int) (sec:Bool) (ks:List ByteArray) (l:List V):List C:=[.v (.int .i64 k),.v (.int .i64 0),.v (.string ByteArray.empty),.sl false 8 l.length (rV l),.sl false 1 ks.length (rS ks),.v (.int .i64 0),.v (.int .i64 0),.v (.bool sec)]
theorem rText_ok (s:ByteArray)(a b:Int)(h0:0≤a)(h1:a≤s.size):0≤(rText s a b).2.1∧(rText s a b).2.1≤s.size:=by
 have g:=gStr_ok s a.toNat (s.size-a.toNat) 1024
 unfold rText
 split
 ·exact ⟨h0,h1⟩
 ·by_cases e:(gStr s a.toNat (s.size-a.toNat) 1024).2.2=0
  ·have:=g.1 e
   exact ⟨by show 0≤a+_; omega,by show a+_≤_; omega⟩
  ·have:=g.2 e
   exact ⟨by show 0≤a+_; omega,by show a+_≤_; omega⟩
theorem rShort_ok (s:ByteArray)(a b:Int)(h0:0≤a)(h1:a≤s.size):0≤(rShort s a b).1∧0≤(rShort s a b).2.1∧(rShort s a b).2.1≤s.size:=by
 have g:=gS_ok s a.toNat (s.size-a.toNat) 0 0 (Int.le_refl 0)
 have g2:=gS_bad s a.toNat (s.size-a.toNat) 0 0
 unfold rShort
 split
 ·exact ⟨Int.le_refl 0,h0,h1⟩
 ·by_cases e:(gS s a.toNat (s.size-a.toNat) 0 0).2.2=0
  ·have:=g e
   exact ⟨this.2.2,by show 0≤a+_; omega,by show a+_≤_; omega⟩
  ·have:=g2 e
   exact ⟨by show 0≤_; omega,by show 0≤a+_; omega,by show a+_≤_; omega⟩
structure ItI (val:Int→Int→V×Int×Int) (s:ByteArray) (k a b:Int) (i:Nat) (ks:List ByteArray) (l:List V) (a' b':Int):Prop where
 run:rdIt val s k ((rShort s a b).1.toNat-i) ks l a' b'=rdAll val s k a b
 le:(i:Int)≤(rShort s a b).1
 ln:l.length=i
 kn:ks.length≤i
 a0:0≤a'
 a1:a'≤s.size
 sm:b'=0→(rShort s a b).1≤128
theorem ItI.end1 {val:Int→Int→V×Int×Int}{s:ByteArray}{k a b:Int}{i:Nat}{ks:List ByteArray}{l:List V}{a' b':Int}(h:ItI val s k a b i ks l a' b')(hq:(decide ((i:Int)<(rShort s a b).1)&&(b'==0))=false):rdAll val s k a b=(ks,l,a',b'):=by
 rw [← h.run]
 have:=h.le
 by_cases h1:(i:Int)<(rShort s a b).1
 ·have hb:(b' != 0)=true:=by simp [h1] at hq; simpa using hq
  obtain ⟨m,hm⟩:∃ m,(rShort s a b).1.toNat-i=m+1:=⟨(rShort s a b).1.toNat-i-1,by omega⟩
  rw [hm,rdIt,if_pos hb]
 ·rw [show (rShort s a b).1.toNat-i=0 from by omega]; rfl
theorem ItI.next {val:Int→Int→V×Int×Int}{s:ByteArray}{k a b:Int}{i:Nat}{ks:List ByteArray}{l:List V}{a' b':Int}(h:ItI val s k a b i ks l a' b')(hq:(decide ((i:Int)<(rShort s a b).1)&&(b'==0))=true)
  (hv:0≤(val (rdK s k ks a' b').2.1 (rdK s k ks a' b').2.2).2.1∧(val (rdK s k ks a' b').2.1 (rdK s k ks a' b').2.2).2.1≤s.size) :
  ItI val s k a b (i+1) (rdK s k ks a' b').1 (l++[(val (rdK s k ks a' b').2.1 (rdK s k ks a' b').2.2).1]) (val (rdK s k ks a' b').2.1 (rdK s k ks a' b').2.2).2.1 (val (rdK s k ks a' b').2.1 (rdK s k ks a' b').2.2).2.2:=by
 have h0:(i:Int)<(rShort s a b).1∧b'=0:=by simpa using hq
 refine ⟨?_,by have:=h0.1; omega,by simp [h.ln],?_,hv.1,hv.2,fun _=>h.sm h0.2⟩
 ·rw [← h.run,show (rShort s a b).1.toNat-i=((rShort s a b).1.toNat-(i+1))+1 from by omega,rdIt,if_neg (by simp [h0.2])]
 ·have:=h.kn
  unfold rdK
  split<;>simp<;>omega
theorem ItI.init {val:Int→Int→V×Int×Int}{s:ByteArray}{k a b:Int}(h0:0≤a)(h1:a≤s.size):ItI val s k a b 0 [] [] (rShort s a b).2.1 (itB s a b):=by
 have o:=rShort_ok s a b h0 h1
 refine ⟨rfl,o.1,rfl,Nat.le_refl _,o.2.1,o.2.2,fun h=> ?_⟩
 unfold itB at h
 split at h
 ·unfold failB at h
  split at h<;>simp_all
 ·rename_i hn; simpa using hn
theorem rS_snoc {ks:List ByteArray}{x:ByteArray}{n:Nat}(hn:n=ks.length){i:Nat}(h:i<n+1):catF 0 n (rS ks) (nthC [cS x]) i=rS (ks++[x]) i:=rowE_snoc (enc:=cS) ks x n hn i h
end Go.Proofs.YtiodgjgngfklkaaGreatDoor
