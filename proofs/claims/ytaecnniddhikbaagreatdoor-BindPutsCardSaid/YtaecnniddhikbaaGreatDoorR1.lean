/- What functions of the program answer,whatever their arguments. -/
import Derived.Test.YtaecnniddhikbaaGreatDoorP7
import Derived.Test.YtaecnniddhikbaaGreatDoorQ1
set_option linter.unusedSectionVars false
set_option linter.unnecessarySimpa false
set_option linter.unusedSimpArgs false
set_option linter.unusedVariables false
set_option maxRecDepth 100000
set_option maxHeartbeats 8000000
namespace Go.Proofs.YtaecnniddhikbaaGreatDoor
open Go Go.VA
theorem mTakeP (t:Bool)(s:ByteArray)(a:Nat)(b:Bool)(n e:Int)(h:0≤n∧n≤((s.size-a:Nat):Int)):MCall Tryz.prog gl 80 [cRd t s a b] [.ptr 0 0,intA .i64 n,intA .i64 e] [cRd t s (a+n.toNat) (b||e != 0)] (.tup []):=by
 have hM:=h
 refine mcall_of_vcb htb hmix (f:=80) rfl rfl rfl (by kernel_rfl) rfl rfl rfl fun hb hb2=> ?_; simp only [bndPre,bndAll,AV.bnd,bnds,C.bnd,true_and,and_true] at hb hb2; conv=>whnf
 repeat' (first|(refine And.intro ?_ ?_; (focus (first|(first|exact hM|fail)|fail)); conv=>whnf)|fail)
 exact ⟨Le.refl _,⟨leRd,LeC.refl _,trivial⟩,trivial⟩
theorem mShortP (t:Bool)(s:ByteArray)(a:Nat)(b:Bool):MCall Tryz.prog gl 40 [cRd t s a b] [.ptr 0 0] [cRd t s (a+(sh s a).2.1.toNat) (b||(sh s a).2.2 != 0)] (intA .u64 (sh s a).1):=by
 have TK:=mTakeP t s a b _ (sh s a).2.2 (sh_rg s a)
 refine mcall_of_vcb htb hmix (f:=40) rfl rfl rfl (by kernel_rfl) rfl rfl rfl fun hb hb2=> ?_; simp only [bndPre,bndAll,AV.bnd,bnds,C.bnd,true_and,and_true] at hb hb2; conv=>whnf
 repeat' (first|(refine Exists.intro _ (And.intro (aGetST t s a) ?_); conv=>whnf)|((with_reducible refine xc_guard ?_); refine xc_mb (by first|(((conv=>whnf); repeat' (first|exact trivial|exact rfl|exact LeC.refl _|((with_reducible refine And.intro ?_ ?_)<;>conv=>whnf))); done)|fail) (TK) rfl rfl rfl rfl ?_; conv=>whnf)|((with_reducible refine xc_pure ?_); conv=>whnf))
 exact ⟨Le.refl _,⟨LeC.refl _,LeC.refl _,trivial⟩,trivial⟩
theorem mKeyP (t:Bool)(s:ByteArray)(a:Nat)(b:Bool):MCall Tryz.prog gl 43 [cRd t s a b] [.ptr 0 0] [cRd t s (a+(kd s a).2.1.toNat) (b||(kd s a).2.2 != 0)] (.ag (cKy (kd s a).1)):=by
 have TK:=mTakeP t s a b _ (kd s a).2.2 (kd_rg s a)
 refine mcall_of_vcb htb hmix (f:=43) rfl rfl rfl (by kernel_rfl) rfl rfl rfl fun hb hb2=> ?_; simp only [bndPre,bndAll,AV.bnd,bnds,C.bnd,true_and,and_true] at hb hb2; conv=>whnf
 repeat' (first|(refine Exists.intro _ (And.intro (aGetKyT t s a) ?_); conv=>whnf)|((with_reducible refine xc_guard ?_); refine xc_mb (by first|(((conv=>whnf); repeat' (first|exact trivial|exact rfl|exact LeC.refl _|((with_reducible refine And.intro ?_ ?_)<;>conv=>whnf))); done)|fail) (TK) rfl rfl rfl rfl ?_; conv=>whnf)|((with_reducible refine xc_pure ?_); conv=>whnf))
 exact ⟨Le.refl _,⟨LeC.refl _,LeC.refl _,trivial⟩,trivial⟩
theorem mValP (t:Bool)(s:ByteArray)(a:Nat)(b:Bool):MCall Tryz.prog gl 42 [cRd t s a b] [.ptr 0 0] [cRd t s (a+(vl s a).2.1.toNat) (b||(vl s a).2.2 != 0)] (.ag (cV (vl s a).1)):=by
 have TK:=mTakeP t s a b _ (vl s a).2.2 (vl_rg s a)
 refine mcall_of_vcb htb hmix (f:=42) rfl rfl rfl (by kernel_rfl) rfl rfl rfl fun hb hb2=> ?_; simp only [bndPre,bndAll,AV.bnd,bnds,C.bnd,true_and,and_true] at hb hb2; conv=>whnf
 repeat' (first|(refine Exists.intro _ (And.intro (aGetVT t s a) ?_); conv=>whnf)|((with_reducible refine xc_guard ?_); refine xc_mb (by first|(((conv=>whnf); repeat' (first|exact trivial|exact rfl|exact LeC.refl _|((with_reducible refine And.intro ?_ ?_)<;>conv=>whnf))); done)|fail) (TK) rfl rfl rfl rfl ?_; conv=>whnf)|((with_reducible refine xc_pure ?_); conv=>whnf))
 exact ⟨Le.refl _,⟨LeC.refl _,LeC.refl _,trivial⟩,trivial⟩
def tx (s:ByteArray) (a:Nat):ByteArray×Int×Int:=gStr s a (s.size-a) 1024
theorem gStr_rg (s:ByteArray)(k n:Nat)(most:Int):0≤(gStr s k n most).2.1∧(gStr s k n most).2.1≤n:=by
 have z:(0:Int)≤0∧(0:Int)≤n:=⟨Int.le_refl _,by omega⟩
 unfold gStr
 by_cases h:((gS s k n 0 0).2.2 != 0)=true
 ·rw [if_pos h]; exact z
 ·have o:=gS_ok s k n 0 0 (Int.le_refl 0) (by simpa using h)
  rw [if_neg h]
  by_cases h2:decide ((gS s k n 0 0).1>IntKind.u64.wrap (if 0>most then 0 else most))=true
  ·rw [if_pos h2]; exact z
  ·rw [if_neg h2]
   by_cases h3:decide ((gS s k n 0 0).1>(n:Int)-(gS s k n 0 0).2.1)=true
   ·rw [if_pos h3]; exact z
   ·rw [if_neg h3]
    have h3:(gS s k n 0 0).1≤(n:Int)-(gS s k n 0 0).2.1:=by simpa using h3
    show 0≤(gS s k n 0 0).2.1+(gS s k n 0 0).1∧(gS s k n 0 0).2.1+(gS s k n 0 0).1≤n
    omega
theorem tx_rg (s:ByteArray)(a:Nat):0≤(tx s a).2.1∧(tx s a).2.1≤((s.size-a:Nat):Int):=gStr_rg s a _ _
theorem aGetTT (t:Bool)(s:ByteArray)(a:Nat):ACall Tryz.prog gl 81 [.c (.sl t 1 (s.size-a) (fun i=>strCells s (a+i))),intA .i64 1024] [] (.tup [.c (.v (.string (tx s a).1)),intA .i64 (tx s a).2.1,intA .i64 (tx s a).2.2]):=aGetStr t _ s a _
theorem mNameP (t:Bool)(s:ByteArray)(a:Nat)(b:Bool):MCall Tryz.prog gl 41 [cRd t s a b] [.ptr 0 0] [cRd t s (a+(tx s a).2.1.toNat) (b||(tx s a).2.2 != 0)] (.c (.v (.string (tx s a).1))):=by
 have TK:=mTakeP t s a b _ (tx s a).2.2 (tx_rg s a)
 refine mcall_of_vcb htb hmix (f:=41) rfl rfl rfl (by kernel_rfl) rfl rfl rfl fun hb hb2=> ?_; simp only [bndPre,bndAll,AV.bnd,bnds,C.bnd,true_and,and_true] at hb hb2; conv=>whnf
 repeat' (first|(refine Exists.intro _ (And.intro (aGetTT t s a) ?_); conv=>whnf)|((with_reducible refine xc_guard ?_); refine xc_mb (by first|(((conv=>whnf); repeat' (first|exact trivial|exact rfl|exact LeC.refl _|((with_reducible refine And.intro ?_ ?_)<;>conv=>whnf))); done)|fail) (TK) rfl rfl rfl rfl ?_; conv=>whnf)|((with_reducible refine xc_pure ?_); conv=>whnf))
 exact ⟨Le.refl _,⟨LeC.refl _,LeC.refl _,trivial⟩,trivial⟩
def smK (s:ByteArray) (a k:Nat):Nat→UInt8:=fun i=>if i<k then (s.data.toList[a+i]?).getD 0 else 0
theorem mSum32 (t:Bool)(s:ByteArray)(a:Nat)(b:Bool)(n:Nat)(hn:32≤n):MCall Tryz.prog gl 39 [[.sl t 1 n (fun i=>strCells s (a+i)),.v (.bool b)]] [.ptr 0 0] [[.sl t 1 (n-32) (fun i=>strCells s (a+(32+i))),.v (.bool (b||false))]] (.ag (sumC (smK s a 32))):=by
 have hM:(0:Int)≤32∧(32:Int)≤n:=by omega
 refine mcall_of_vcb htb hmix (f:=39) rfl rfl rfl (by kernel_rfl) rfl rfl rfl fun hb hb2=> ?_; simp only [bndPre,bndAll,AV.bnd,bnds,C.bnd,true_and,and_true] at hb hb2; conv=>whnf
 repeat' (first|((with_reducible refine FzOr.l ?_); conv=>whnf)|((with_reducible refine MinOr.r ?_); conv=>whnf)|(refine And.intro ?_ ?_; (focus (first|(first|exact hM|assumption)|fail)); conv=>whnf)|fail)
 exact ⟨Le.refl _,⟨LeC.refl _,LeC.refl _,trivial⟩,trivial⟩
theorem mSumK (t:Bool)(s:ByteArray)(a:Nat)(b:Bool)(n:Nat)(hn:n<32):MCall Tryz.prog gl 39 [[.sl t 1 n (fun i=>strCells s (a+i)),.v (.bool b)]] [.ptr 0 0] [[.sl t 1 (n-n) (fun i=>strCells s (a+(n+i))),.v (.bool (b||true))]] (.ag (sumC (smK s a n))):=by
 have hk:n=0∨n=1∨n=2∨n=3∨n=4∨n=5∨n=6∨n=7∨n=8∨n=9∨n=10∨n=11∨n=12∨n=13∨n=14∨n=15∨n=16∨n=17∨n=18∨n=19∨n=20∨n=21∨n=22∨n=23∨n=24∨n=25∨n=26∨n=27∨n=28∨n=29∨n=30∨n=31:=by omega
 rcases hk with rfl|rfl|rfl|rfl|rfl|rfl|rfl|rfl|rfl|rfl|rfl|rfl|rfl|rfl|rfl|rfl|rfl|rfl|rfl|rfl|rfl|rfl|rfl|rfl|rfl|rfl|rfl|rfl|rfl|rfl|rfl|rfl
 all_goals
  refine mcall_of_vcb htb hmix (f:=39) rfl rfl rfl (by kernel_rfl) rfl rfl rfl fun hb hb2=> ?_; simp only [bndPre,bndAll,AV.bnd,bnds,C.bnd,true_and,and_true] at hb hb2; conv=>whnf
  repeat' (first|((with_reducible refine FzOr.l ?_); conv=>whnf)|((with_reducible refine MinOr.l ?_); conv=>whnf)|(refine And.intro ?_ ?_; (focus (first|(refine chainI ?_; (first|decide|fail))|(first|decide|fail)|fail)); conv=>whnf)|fail)
  exact ⟨Le.refl _,⟨LeC.refl _,LeC.refl _,trivial⟩,trivial⟩
def smN (s:ByteArray) (a:Nat):Nat:=min 32 (s.size-a)
def smF (s:ByteArray) (a:Nat):Nat→UInt8:=smK s a (smN s a)
theorem mSumP (t:Bool)(s:ByteArray)(a:Nat)(b:Bool):MCall Tryz.prog gl 39 [cRd t s a b] [.ptr 0 0] [cRd t s (a+smN s a) (b||decide (s.size-a<32))] (.ag (sumC (smF s a))):=by
 by_cases h:32≤s.size-a
 ·have e:smN s a=32:=by unfold smN; omega
  unfold smF
  rw [e,decide_eq_false (by omega)]
  have:=mSum32 t s a b (s.size-a) h
  rw [Nat.sub_sub] at this
  simp only [← Nat.add_assoc] at this
  exact this
 ·have e:smN s a=s.size-a:=by unfold smN; omega
  unfold smF
  rw [e,decide_eq_true (by omega)]
  have:=mSumK t s a b (s.size-a) (by omega)
  rw [Nat.sub_sub] at this
  simp only [← Nat.add_assoc] at this
  exact this
end Go.Proofs.YtaecnniddhikbaaGreatDoor
namespace Go.Proofs.YtaecnniddhikbaaGreatDoor
open Go Go.VA
def y1 (s:ByteArray) (a:Nat):Nat:=a+(mn s a).toNat
def y2 (s:ByteArray) (a:Nat):Nat:=y1 s a+(kd s (y1 s a)).2.1.toNat
def y3 (s:ByteArray) (a:Nat):Nat:=y2 s a+(vl s (y2 s a)).2.1.toNat
def y4 (s:ByteArray) (a:Nat):Nat:=y3 s a+(vl s (y3 s a)).2.1.toNat
def y5 (s:ByteArray) (a:Nat):Nat:=y4 s a+(sh s (y4 s a)).2.1.toNat
def bq0 (s:ByteArray) (a:Nat) (b:Bool):Bool:=b||fgE s a != 0
def bq1 (s:ByteArray) (a:Nat) (b:Bool):Bool:=bq0 s a b||(kd s (y1 s a)).2.2 != 0
def bq2 (s:ByteArray) (a:Nat) (b:Bool):Bool:=bq1 s a b||(vl s (y2 s a)).2.2 != 0
def bq3 (s:ByteArray) (a:Nat) (b:Bool):Bool:=bq2 s a b||(vl s (y3 s a)).2.2 != 0
def bq4 (s:ByteArray) (a:Nat) (b:Bool):Bool:=bq3 s a b||(sh s (y4 s a)).2.2 != 0
def s1 (s:ByteArray) (a:Nat):Nat:=a+(sh s a).2.1.toNat
def hdG (SA:Nat→Nat) (SE:Nat→Bool) (SV:Nat→Int):Nat→Int→Nat→List Int→Bool→List Int×Nat×Bool
 | 0,_,a,acc,b=>(acc,a,b)
 | m+1,i,a,acc,b=>if decide (i>0)&& !b then hdG SA SE SV m (IntKind.u64.wrap (i-1)) (SA a) (acc++[IntKind.i64.wrap (bitsI .and .u64 (SV a) 2147483647)]) (b||SE a||decide (SV a>2147483647)) else (acc,a,b)
def acS (s:ByteArray) (a:Nat) (b:Bool):List Int×Nat×Bool:=hdG (s1 s) (fun a=>(sh s a).2.2 != 0) (fun a=>(sh s a).1) (s.size+2) (sh s (y4 s a)).1 (y5 s a) [] (bq4 s a b)
def acV (s:ByteArray) (a:Nat) (b:Bool):Ac:=⟨IntKind.i64.wrap (fgV s a),(kd s (y1 s a)).1,(vl s (y2 s a)).1,(vl s (y3 s a)).1,(acS s a b).1⟩
theorem sh_pos {s:ByteArray}{a:Nat}(h:(sh s a).2.2=0):0<(sh s a).2.1:=by
 have:=gS_ok s a (s.size-a) 0 0 (Int.le_refl 0) h
 exact this.1
theorem s1_le {s:ByteArray}{a:Nat}(h:a≤s.size):s1 s a≤s.size:=by
 have:=sh_rg s a
 unfold s1; omega
theorem y1_le (s:ByteArray)(a:Nat)(h:a≤s.size):y1 s a≤s.size:=by
 have:=mn_rg s a
 unfold y1; omega
theorem y2_le (s:ByteArray)(a:Nat)(h:a≤s.size):y2 s a≤s.size:=by
 have:=y1_le s a h
 have:=kd_rg s (y1 s a)
 unfold y2; omega
theorem y3_le (s:ByteArray)(a:Nat)(h:a≤s.size):y3 s a≤s.size:=by
 have:=y2_le s a h
 have:=vl_rg s (y2 s a)
 unfold y3; omega
theorem y4_le (s:ByteArray)(a:Nat)(h:a≤s.size):y4 s a≤s.size:=by
 have:=y3_le s a h
 have:=vl_rg s (y3 s a)
 unfold y4; omega
theorem y5_le (s:ByteArray)(a:Nat)(h:a≤s.size):y5 s a≤s.size:=by
 have:=y4_le s a h
 have:=sh_rg s (y4 s a)
 unfold y5; omega
theorem mActG (t:Bool)(s:ByteArray)(a:Nat)(b:Bool)(n1 e1:Int)(A1 A2 A3 A4 A5:Nat)(B1 B2 B3 B4 B5:Bool)(ky:Ky)(v1 v2:V)(x:Int)(SA:Nat→Nat)(SE:Nat→Bool)(SV:Nat→Int)
  (F:ACall Tryz.prog gl 37 [.c (.sl t 1 (s.size-a) (fun i=>strCells s (a+i))),intA .i64 1] [] (.tup [intA .u64 n1,intA .i64 e1]))
  (T1:MCall Tryz.prog gl 80 [cRd t s a b] [.ptr 0 0,intA .i64 (mn s a),intA .i64 e1] [cRd t s A1 B1] (.tup []))
  (K:MCall Tryz.prog gl 43 [cRd t s A1 B1] [.ptr 0 0] [cRd t s A2 B2] (.ag (cKy ky)))
  (V1:MCall Tryz.prog gl 42 [cRd t s A2 B2] [.ptr 0 0] [cRd t s A3 B3] (.ag (cV v1)))
  (V2:MCall Tryz.prog gl 42 [cRd t s A3 B3] [.ptr 0 0] [cRd t s A4 B4] (.ag (cV v2)))
  (S:MCall Tryz.prog gl 40 [cRd t s A4 B4] [.ptr 0 0] [cRd t s A5 B5] (intA .u64 x))
  (SH:∀ a b,MCall Tryz.prog gl 40 [cRd t s a b] [.ptr 0 0] [cRd t s (SA a) (b||SE a)] (intA .u64 (SV a)))
  (hs:s.size≤4294967296) (h5:A5≤s.size) (hA:∀ a,a≤s.size→a≤SA a∧SA a≤s.size∧(SE a=false→a<SA a)) :
  MCall Tryz.prog gl 44 [cRd t s a b] [.ptr 0 0] [cRd t s (hdG SA SE SV (s.size+2) x A5 [] B5).2.1 (hdG SA SE SV (s.size+2) x A5 [] B5).2.2] (.ag (cAc ⟨IntKind.i64.wrap n1,ky,v1,v2,(hdG SA SE SV (s.size+2) x A5 [] B5).1⟩)):=by
 refine mcall_of_vcb htb hmix (f:=44) rfl rfl rfl (by kernel_rfl) rfl rfl rfl fun hb hb2=> ?_; simp only [bndPre,bndAll,AV.bnd,bnds,C.bnd,true_and,and_true] at hb hb2; conv=>whnf
 repeat' (first|(refine Exists.intro _ (And.intro (F) ?_); conv=>whnf)|((with_reducible refine FzOr.l ?_); conv=>whnf)|((with_reducible refine xc_guard ?_); refine xc_mb (by first|(((conv=>whnf); repeat' (first|exact trivial|exact rfl|exact LeC.refl _|((with_reducible refine And.intro ?_ ?_)<;>conv=>whnf))); done)|fail) (T1) rfl rfl rfl rfl ?_; conv=>whnf)|((with_reducible refine xc_guard ?_); refine xc_mb (by first|(((conv=>whnf); repeat' (first|exact trivial|exact rfl|exact LeC.refl _|((with_reducible refine And.intro ?_ ?_)<;>conv=>whnf))); done)|fail) (K) rfl rfl rfl rfl ?_; conv=>whnf)|((with_reducible refine xc_guard ?_); refine xc_mb (by first|(((conv=>whnf); repeat' (first|exact trivial|exact rfl|exact LeC.refl _|((with_reducible refine And.intro ?_ ?_)<;>conv=>whnf))); done)|fail) (V1) rfl rfl rfl rfl ?_; conv=>whnf)|((with_reducible refine xc_guard ?_); refine xc_mb (by first|(((conv=>whnf); repeat' (first|exact trivial|exact rfl|exact LeC.refl _|((with_reducible refine And.intro ?_ ?_)<;>conv=>whnf))); done)|fail) (V2) rfl rfl rfl rfl ?_; conv=>whnf)|((with_reducible refine xc_guard ?_); refine xc_mb (by first|(((conv=>whnf); repeat' (first|exact trivial|exact rfl|exact LeC.refl _|((with_reducible refine And.intro ?_ ?_)<;>conv=>whnf))); done)|fail) (S) rfl rfl rfl rfl ?_; conv=>whnf)|((with_reducible refine xc_pure ?_); conv=>whnf))
 generalize hR:hdG SA SE SV (s.size+2) x A5 [] B5=R
 refine loopI (Nat×Int×Nat×List Int×Bool) (fun p=>hdG SA SE SV p.1 p.2.1 p.2.2.1 p.2.2.2.1 p.2.2.2.2=R∧p.2.2.1≤s.size∧p.2.2.2.1.length≤p.2.2.1+(if p.2.2.2.2=true then 1 else 0)∧s.size-p.2.2.1+(if p.2.2.2.2=true then 0 else 1)<p.1)
  (fun p=>[(6,intA .u64 p.2.1)])
  (fun p=>[.box ((cRd t s p.2.2.1 p.2.2.2.2).map .c),.box (boxC (tb 64).zero),.box ((C.v (.int .i64 (IntKind.i64.wrap n1))::(cKy ky++(cV v1++cV v2))).map AV.c++[AV.own 3 1 0 p.2.2.2.1.length]),.row 1 p.2.2.2.1.length (rIn p.2.2.2.1)])
  (fun p=>p.1) (s.size+2,x,A5,[],B5) ⟨hR,h5,Nat.zero_le _,?_⟩ ?_ (fun _=>rfl) fun ⟨m,i,a',acc,b'⟩ ⟨j1,j2,j3,j4⟩=> ?_
 ·show s.size-A5+(if B5=true then 0 else 1)<s.size+2
  split<;>omega
 ·(refine And.intro ?_ (And.intro ?_ (And.intro ?_ rfl))<;>(conv=>whnf)<;>repeat' (first|exact trivial|exact LeE.of (Le.refl _)|exact LeE.nil rfl|(first|exact rfl|fail)|((with_reducible refine And.intro ?_ ?_)<;>conv=>whnf)))
 ·change hdG SA SE SV m i a' acc b'=R at j1
  change a'≤s.size at j2
  change acc.length≤a'+(if b'=true then 1 else 0) at j3
  change s.size-a'+(if b'=true then 0 else 1)<m at j4
  have j3':acc.length≤a'+1:=by split at j3<;>omega
  obtain ⟨k,rfl⟩:∃ k,m=k+1:=⟨m-1,by omega⟩
  have S2:=SH a' b'
  have B1:(acc.length+1)*(tb 3).bytes≤140737488355328:=by show (acc.length+1)*8≤_; omega
  conv=>whnf
  repeat' (first|(refine And.intro (fun h=> ?_) (fun h=> ?_)<;>(first|skip)<;>(first|(conv=>whnf)))|((with_reducible refine FzOr.l ?_); conv=>whnf)|((with_reducible refine OwnOr.l ?_); (conv=>whnf))|(refine And.intro ?_ ?_; (focus (first|(first|exact B1|fail)|fail)); conv=>whnf)|((with_reducible refine xc_guard ?_); refine xc_mb (by first|(((conv=>whnf); repeat' (first|exact trivial|exact rfl|exact LeC.refl _|((with_reducible refine And.intro ?_ ?_)<;>conv=>whnf))); done)|fail) (S2) rfl rfl rfl rfl ?_; conv=>whnf)|fail)
  ·have h:(decide (i>0)&& !b')=true:=h
   have hi:0<i∧b'=false:=by simpa using h
   obtain ⟨hi,rfl⟩:=hi
   have hA2:=hA a' j2
   have e:hdG SA SE SV (k+1) i a' acc false=hdG SA SE SV k (IntKind.u64.wrap (i-1)) (SA a') (acc++[IntKind.i64.wrap (bitsI .and .u64 (SV a') 2147483647)]) (false||SE a'||decide (SV a'>2147483647)):=by simp only [hdG]; rw [if_pos h]
   rw [e] at j1
   simp only [Bool.false_eq_true,if_false] at j3 j4
   have hL:acc.length+1=(acc++[IntKind.i64.wrap (bitsI .and .u64 (SV a') 2147483647)]).length:=by simp
   refine ⟨(k,IntKind.u64.wrap (i-1),SA a',acc++[IntKind.i64.wrap (bitsI .and .u64 (SV a') 2147483647)],false||SE a'||decide (SV a'>2147483647)),⟨j1,hA2.2.1,?_,?_⟩,?_,Nat.lt_succ_self _⟩
   ·show (acc++[_]).length≤SA a'+(if (false||SE a'||decide (SV a'>2147483647))=true then 1 else 0)
    rw [List.length_append,List.length_singleton]
    cases hb:SE a'
    ·have:=hA2.2.2 hb
     omega
    ·rw [if_pos (by simp)]; omega
   ·show s.size-SA a'+(if (false||SE a'||decide (SV a'>2147483647))=true then 0 else 1)<k
    cases hb:SE a'
    ·have:=hA2.2.2 hb
     split<;>omega
    ·rw [if_pos (by simp)]; omega
   ·(refine And.intro ?_ (And.intro ?_ (And.intro ?_ rfl))<;>(conv=>whnf)<;>repeat' (first|exact trivial|exact LeE.of (Le.refl _)|(with_reducible refine LeE.of ?_)|(first|exact leOwn hL|exact rfl|fail)|((with_reducible refine And.intro ?_ ?_)<;>conv=>whnf)))
    all_goals first
     | exact hL
     | exact fun i hi=>LeCs.of_eq (rowE_snoc (enc:=fun i:Int=>[C.v (.int .i64 i)]) (d:=0) acc _ acc.length rfl i (by simpa using hi))
  ·have h:(decide (i>0)&& !b')=false:=h
   have e:hdG SA SE SV (k+1) i a' acc b'=(acc,a',b'):=by simp only [hdG]; rw [h,if_neg (by decide)]
   rw [e] at j1
   rw [← j1]
   exact ⟨leAg ⟨LeC.refl _,LeC.refl _,LeC.refl _,LeC.refl _,LeC.refl _,LeC.refl _,LeC.refl _,LeC.refl _,LeC.refl _,LeC.refl _,LeC.refl _,LeC.refl _,LeC.refl _,LeC.refl _,LeC.refl _,LeC.refl _,LeC.refl _,LeC.refl _,LeC.refl _,LeC.refl _,LeC.refl _,LeC.refl _,LeC.refl _,LeC.sl rfl fun i hi=>by rw [Nat.zero_add],trivial⟩,⟨LeC.refl _,LeC.refl _,trivial⟩,trivial⟩
theorem s1_rg {s:ByteArray}(a:Nat)(h:a≤s.size):a≤s1 s a∧s1 s a≤s.size∧(((sh s a).2.2 != 0)=false→a<s1 s a):=by
 refine ⟨by unfold s1; omega,s1_le h,fun h0=> ?_⟩
 have:=sh_pos (s:=s) (a:=a) (by simpa using h0)
 unfold s1; omega
theorem mActP (t:Bool)(s:ByteArray)(a:Nat)(b:Bool)(hs:s.size≤4294967296)(ha:a≤s.size):MCall Tryz.prog gl 44 [cRd t s a b] [.ptr 0 0] [cRd t s (acS s a b).2.1 (acS s a b).2.2] (.ag (cAc (acV s a b))) :=
 mActG t s a b (fgV s a) (fgE s a) (y1 s a) (y2 s a) (y3 s a) (y4 s a) (y5 s a) (bq0 s a b) (bq1 s a b) (bq2 s a b) (bq3 s a b) (bq4 s a b) _ _ _ _ (s1 s) (fun a=>(sh s a).2.2 != 0) (fun a=>(sh s a).1)
  (aGet1 t s a) (mTakeP t s a b _ (fgE s a) (mn_rg s a)) (mKeyP t s (y1 s a) (bq0 s a b)) (mValP t s (y2 s a) (bq1 s a b)) (mValP t s (y3 s a) (bq2 s a b)) (mShortP t s (y4 s a) (bq3 s a b)) (fun a b=>mShortP t s a b) hs (y5_le s a ha) (fun a h=>s1_rg a h)
end Go.Proofs.YtaecnniddhikbaaGreatDoor
