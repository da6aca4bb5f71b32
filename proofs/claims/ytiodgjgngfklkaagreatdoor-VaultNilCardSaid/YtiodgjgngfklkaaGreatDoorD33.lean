/- Contracts of functions of the program,and the laws that stand on them: what each function answers,whatever its arguments. -/
import Derived.Test.YtiodgjgngfklkaaGreatDoorD30
set_option linter.all false
set_option maxRecDepth 100000
set_option maxHeartbeats 8000000
namespace Go.Proofs.YtiodgjgngfklkaaGreatDoor
open Go Go.VA Go.RowKit
theorem gBurnPA (s:ByteArray)(n:Nat)(f:Nat→List C)(fuse ops:Int)(m:List (Value×AV)):GCall Tryz.prog glD 92 (dskB fuse false ops:: .mp m::xP s n f) [.ptr 0 0] (dskB (fzN fuse) (bnt fuse) (IntKind.i64.wrap (ops+1)):: .mp m::xP s n f) [boolA (bnt fuse)]:=by
 unfold fzN bnt
 by_cases h:fuse=0
 ·subst h
  rw [if_pos rfl,if_pos rfl]
  exact gBurnP0 s n f false ops m
 ·rw [if_neg h,if_neg h]
  exact gBurnPN s n f fuse (by simpa using h) false ops m
theorem gBurnSA (s:ByteArray)  (fuse ops:Int)(m:List (Value×AV)):GCall Tryz.prog glD 92 (dskB fuse false ops:: .mp m::xS s) [.ptr 0 0] (dskB (fzN fuse) (bnt fuse) (IntKind.i64.wrap (ops+1)):: .mp m::xS s) [boolA (bnt fuse)]:=by
 unfold fzN bnt
 by_cases h:fuse=0
 ·subst h
  rw [if_pos rfl,if_pos rfl]
  exact gBurnS0 s false ops m
 ·rw [if_neg h,if_neg h]
  exact gBurnSN s fuse (by simpa using h) false ops m
theorem gBurnRA (s:ByteArray)(r:ByteArray)(fuse ops:Int)(m:List (Value×AV)):GCall Tryz.prog glD 92 (dskB fuse false ops:: .mp m::xR s r) [.ptr 0 0] (dskB (fzN fuse) (bnt fuse) (IntKind.i64.wrap (ops+1)):: .mp m::xR s r) [boolA (bnt fuse)]:=by
 unfold fzN bnt
 by_cases h:fuse=0
 ·subst h
  rw [if_pos rfl,if_pos rfl]
  exact gBurnR0 s r false ops m
 ·rw [if_neg h,if_neg h]
  exact gBurnRN s r fuse (by simpa using h) false ops m
theorem aIndexBad (t:Bool)(n:Nat)(l:Nat→ByteArray)(f:Nat→List C)(hf:∀ i,i<n→f i=[.v (.string (l i))])(k:Nat)(hk:k<n)(hw:∀ i,i<k→wordB (l i)=true)(hbad:wordB (l k)=false):ACall Tryz.prog glD 114 [.c (.sl t 1 n f),.fn 87 [] []] [] (intA .i64 k):=by
 refine acall_of_vcb htb hmix (f:=114) rfl rfl rfl (by kernel_rfl) rfl rfl fun hb=> ?_; simp only [bndAll,AV.bnd,bnds,C.bnd,cVt,cS,true_and,and_true] at hb; conv=>whnf
 repeat' (fail)
 refine loopI Nat (fun c=>c≤k) (fun c=>[(8,intA .i64 c)]) (fun _=>[]) (fun c=>n-c) 0 (Nat.zero_le _) ?_ (fun _=>rfl) fun c hc=> ?_
 ·(refine And.intro ?_ (And.intro ?_ (And.intro ?_ rfl))<;>(conv=>whnf)<;>repeat' (first|exact trivial|exact LeE.of (Le.refl _)|(first|exact rfl|fail)|((with_reducible refine And.intro ?_ ?_)<;>conv=>whnf)))
 ·change c≤k at hc
  have ec:f ((c:Int)).toNat=[.v (.string (l c))]:=hf c (by omega)
  rcases Nat.lt_or_ge c k with hcl|hcl
  ·have ew:(!wordB (l c))=false:=by rw [hw c hcl]; rfl
   conv=>whnf
   repeat' (first|(refine Exists.intro _ (And.intro (aWordN _) ?_); conv=>whnf)|(refine And.intro (fun h=> ?_) (fun h=> ?_)<;>(first|(with_reducible have hd:_<_:=of_decide_eq_true h)|(with_reducible have hd:¬ (_<_):=of_decide_eq_false h)|skip)<;>(first|(conv=>whnf)))|(refine And.intro ?_ ?_; (focus (first|(refine chainI ?_; (first|omega|fail))|fail)); conv=>whnf)|((with_reducible refine xc_pure ?_); conv=>whnf)|(rw [ec]; conv=>whnf))
   all_goals try (exfalso; omega)
   ·exact absurd (ew.symm.trans h) (by decide)
   ·refine ⟨c+1,hcl,?_,by show n-(c+1)<n-c; omega⟩
    (refine And.intro ?_ (And.intro ?_ (And.intro ?_ rfl))<;>(conv=>whnf)<;>repeat' (first|exact trivial|exact LeE.of (Le.refl _)|(with_reducible refine LeE.of ?_)|(first|exact rfl|exact leI (by first|rfl|(rw [wrap64 (by omega) (by omega)]; omega)|fail)|fail)|((with_reducible refine And.intro ?_ ?_)<;>conv=>whnf)))
  ·obtain rfl:c=k:=by omega
   have ew:(!wordB (l c))=true:=by rw [hbad]; rfl
   conv=>whnf
   repeat' (first|(refine Exists.intro _ (And.intro (aWordN _) ?_); conv=>whnf)|(refine And.intro (fun h=> ?_) (fun h=> ?_)<;>(first|(with_reducible have hd:_<_:=of_decide_eq_true h)|(with_reducible have hd:¬ (_<_):=of_decide_eq_false h)|skip)<;>(first|(conv=>whnf)))|(refine And.intro ?_ ?_; (focus (first|(refine chainI ?_; (first|omega|fail))|fail)); conv=>whnf)|((with_reducible refine xc_pure ?_); conv=>whnf)|(rw [ec]; conv=>whnf))
   all_goals try (exfalso; omega)
   ·exact Le.refl _
   ·exact absurd (ew.symm.trans h) (by decide)
theorem aContBad (t:Bool)(n:Nat)(l:Nat→ByteArray)(f:Nat→List C)(hf:∀ i,i<n→f i=[.v (.string (l i))])(k:Nat)(hk:k<n)(hw:∀ i,i<k→wordB (l i)=true)(hb:wordB (l k)=false):ACall Tryz.prog glD 86 [.c (.sl t 1 n f),.fn 87 [] []] [] (boolA true):=by
 have e:decide ((k:Int)≥0)=true:=by simp
 refine acall_of_vc htb hmix (f:=86) rfl rfl rfl (by kernel_rfl) rfl rfl ?_; conv=>whnf
 repeat' (first|(refine Exists.intro _ (And.intro (aIndexBad t n l f hf k hk hw hb) ?_); conv=>whnf)|((with_reducible refine xc_pure ?_); conv=>whnf))
 exact Go.VA.leB e
def nmsR (dead:Bool) (ok:Bool):Int:=if dead=true then 21 else if ok=false then 1 else 0
theorem gNamesA (n:Nat)(l:Nat→ByteArray)(f:Nat→List C)(hf:∀ i,i<n→f i=[.v (.string (l i))])(ok:Bool)(hok:(ok=true∧∀ i,i<n→wordB (l i)=true)∨(ok=false∧∃ k,k<n∧(∀ i,i<k→wordB (l i)=true)∧wordB (l k)=false))(fuse ops:Int)(dead:Bool)(m:List (Value×AV)) :
  GCall Tryz.prog glD 52 [dskB fuse dead ops,.mp m] [.ptr 0 0,.c (.sl false 1 n f)] [dskB fuse dead ops,.mp m] [intA .i64 (nmsR dead ok)]:=by
 cases dead with
 | true =>
  refine gcall_of_vcb htb hmix (f:=52) rfl rfl rfl (by kernel_rfl) rfl rfl rfl fun hb hb2=> ?_; simp only [bndOs,bndO,gbnds,AV.gbnd,bnds,C.bnd,true_and,and_true] at hb hb2; conv=>whnf
  repeat' (first|(refine And.intro (fun h=> ?_) (fun h=> ?_)<;>(first|skip)<;>(first|exact absurd h (by decide)|(conv=>whnf)))|(refine And.intro ?_ ?_; (focus (first|exact rfl|fail)); conv=>whnf)|fail)
  all_goals try (exfalso; revert h; decide)
  ((conv=>whnf); repeat' (first|exact trivial|exact rfl|exact LeC.refl _|((with_reducible refine And.intro ?_ ?_)<;>conv=>whnf)))
  all_goals exact LeMs.refl _
 | false =>
  rcases hok with ⟨rfl,hw⟩|⟨rfl,k,hk,hw,hbad⟩
  ·exact gNames false n l f hf hw fuse ops m
  ·refine gcall_of_vcb htb hmix (f:=52) rfl rfl rfl (by kernel_rfl) rfl rfl rfl fun hb hb2=> ?_; simp only [bndOs,bndO,gbnds,AV.gbnd,bnds,C.bnd,true_and,and_true] at hb hb2; conv=>whnf
   repeat' (first|(refine Exists.intro _ (And.intro (aContBad false n l f hf k hk hw hbad) ?_); conv=>whnf)|(refine And.intro (fun h=> ?_) (fun h=> ?_)<;>(first|skip)<;>(first|exact absurd h (by decide)|(conv=>whnf)))|(refine And.intro ?_ ?_; (focus (first|exact rfl|fail)); conv=>whnf)|((with_reducible refine xc_pure ?_); conv=>whnf))
   all_goals try (exfalso; revert h; decide)
   ((conv=>whnf); repeat' (first|exact trivial|exact rfl|exact LeC.refl _|((with_reducible refine And.intro ?_ ?_)<;>conv=>whnf)))
   all_goals exact LeMs.refl _
theorem gNames1 (s:ByteArray)(fuse ops:Int)(dead:Bool)(m:List (Value×AV)):GCall Tryz.prog glD 52 [dskB fuse dead ops,.mp m] [.ptr 0 0,.c (.sl false 1 1 (nthC [[C.v (.string s)]]))] [dskB fuse dead ops,.mp m] [intA .i64 (nmsR dead (wordB s))] :=
 gNamesA 1 (fun _=>s) (nthC [[C.v (.string s)]]) (oneS s) (wordB s) (by
  cases h:wordB s with
  | true=>exact .inl ⟨rfl,fun i _=>rfl⟩
  | false=>exact .inr ⟨rfl,0,by decide,fun i hi=>absurd hi (Nat.not_lt_zero _),rfl⟩) fuse ops dead m
theorem gNames2 (s r:ByteArray)(fuse ops:Int)(dead:Bool)(m:List (Value×AV)):GCall Tryz.prog glD 52 [dskB fuse dead ops,.mp m] [.ptr 0 0,.c (.sl false 1 2 (nthC [[C.v (.string s)],[C.v (.string r)]]))] [dskB fuse dead ops,.mp m] [intA .i64 (nmsR dead (wordB s&&wordB r))] :=
 gNamesA 2 (fun i=>if i=0 then s else r) (nthC [[C.v (.string s)],[C.v (.string r)]]) (twoS s r) (wordB s&&wordB r) (by
  cases hs:wordB s with
  | false=>exact .inr ⟨rfl,0,by decide,fun i hi=>absurd hi (Nat.not_lt_zero _),by simpa using hs⟩
  | true =>
   cases hr:wordB r with
   | true=>exact .inl ⟨rfl,twoW hs hr⟩
   | false => exact .inr ⟨rfl, 1, by decide, fun i hi => by obtain rfl : i = 0 := by omega
                                                            simpa using hs,by simpa using hr⟩) fuse ops dead m
theorem gThereA (s:ByteArray)(m:List (Value×AV))(hm:mOk (tb 9).k m=true)(x z:C)(b:Bool)(hq:mFnd s m (fl x z,b))(fuse ops:Int)(dead:Bool) :
  GCall Tryz.prog glD 34 [dskB fuse dead ops,.mp m] [.ptr 0 0,.c (.v (.string s))] [dskB fuse dead ops,.mp m] [intA .i64 (if b then 0 else 11)]:=by
 cases b with
 | true=>exact gThere s m hm x z hq fuse dead ops
 | false =>
  refine gcall_of_vcb htb hmix (f:=34) rfl rfl rfl (by kernel_rfl) rfl rfl rfl fun hb hb2=> ?_; simp only [bndOs,bndO,gbnds,AV.gbnd,bnds,C.bnd,true_and,and_true] at hb hb2; conv=>whnf
  repeat' (first|(refine Exists.intro _ (And.intro (hq) ?_); conv=>whnf)|(refine And.intro (fun h=> ?_) (fun h=> ?_)<;>(first|skip)<;>(first|exact absurd h (by decide)|(conv=>whnf)))|(refine And.intro ?_ ?_; (focus (first|exact rfl|(first|assumption)|fail)); conv=>whnf)|fail)
  all_goals try (exfalso; revert h; decide)
  ((conv=>whnf); repeat' (first|exact trivial|exact rfl|exact LeC.refl _|((with_reducible refine And.intro ?_ ?_)<;>conv=>whnf)))
  all_goals exact LeMs.refl _
theorem gPutLong (fuse ops:Int)(dead:Bool)(s:ByteArray)(m:List (Value×AV))(n:Nat)(f:Nat→List C)(hn:n>262144) :
  GCall Tryz.prog glD 53 [dskB fuse dead ops,.mp m] [.ptr 0 0,.c (.v (.string s)),.c (.sl false 1 n f)] [dskB fuse dead ops,.mp m] [intA .i64 3]:=by
 refine gcall_of_vcb htb hmix (f:=53) rfl rfl rfl (by kernel_rfl) rfl rfl rfl fun hb hb2=> ?_; simp only [bndOs,bndO,gbnds,AV.gbnd,bnds,C.bnd,true_and,and_true] at hb hb2; conv=>whnf
 repeat' (first|(refine And.intro (fun h=> ?_) (fun h=> ?_)<;>(first|(with_reducible have hd:_<_:=of_decide_eq_true h)|(with_reducible have hd:¬ (_<_):=of_decide_eq_false h)|fail)<;>(first|(conv=>whnf)))|(refine And.intro ?_ ?_; (focus (first|exact rfl|fail)); conv=>whnf)|fail)
 all_goals try (exfalso; omega)
 ((conv=>whnf); repeat' (first|exact trivial|exact rfl|exact LeC.refl _|((with_reducible refine And.intro ?_ ?_)<;>conv=>whnf)))
 all_goals exact LeMs.refl _
section
variable (d:Dk) {n:Nat} (ok:d.Ok n)
theorem deadWrite (fuse ops:Int)(dead:Bool)(m:List (Value×AV))(s:ByteArray)(t:Bool)(k:Nat)(f:Nat→List C)(q:Int)(hq:nmsR dead (wordB s)=q)(h0:q≠0):GCall Tryz.prog glD 26 [dskB fuse dead ops,.mp m] [.ptr 0 0,.c (.v (.string s)),.c (.sl t 1 k f)] [dskB fuse dead ops,.mp m] [intA .i64 q]:=by
 have N:=gNames1 s fuse ops dead m
 rw [hq] at N
 have e:(q != 0)=true:=by simpa using h0
 refine gcall_of_vcb htb hmix (f:=26) rfl rfl rfl (by kernel_rfl) rfl rfl rfl fun hb hb2=> ?_; simp only [bndOs,bndO,gbnds,AV.gbnd,bnds,C.bnd,true_and,and_true] at hb hb2; conv=>whnf
 repeat' (first|(refine And.intro (fun h=> ?_) (fun h=> ?_)<;>(first|skip)<;>(first|(conv=>whnf)))|((with_reducible refine OwnOr.l ?_); (conv=>whnf))|(refine And.intro ?_ ?_; (focus (first|exact rfl|fail)); conv=>whnf)|((with_reducible refine xc_guard ?_); (first|(refine xc_g (N) false (by first|(((conv=>whnf); repeat' (first|exact trivial|exact rfl|exact LeC.refl _|(first|exact LeMs.refl _|fail)|((with_reducible refine And.intro ?_ ?_)<;>conv=>whnf))); done)|fail) trivial ?_)|fail); conv=>whnf)|fail)
 all_goals try (exact absurd (e.symm.trans h) (by decide))
 ((conv=>whnf); repeat' (first|exact trivial|exact rfl|exact LeC.refl _|((with_reducible refine And.intro ?_ ?_)<;>conv=>whnf)))
 all_goals exact LeMs.refl _
theorem deadSync (fuse ops:Int)(dead:Bool)(m:List (Value×AV))(s:ByteArray)(q:Int)(hq:nmsR dead (wordB s)=q)(h0:q≠0):GCall Tryz.prog glD 28 [dskB fuse dead ops,.mp m] [.ptr 0 0,.c (.v (.string s))] [dskB fuse dead ops,.mp m] [intA .i64 q]:=by
 have N:=gNames1 s fuse ops dead m
 rw [hq] at N
 have e:(q != 0)=true:=by simpa using h0
 refine gcall_of_vcb htb hmix (f:=28) rfl rfl rfl (by kernel_rfl) rfl rfl rfl fun hb hb2=> ?_; simp only [bndOs,bndO,gbnds,AV.gbnd,bnds,C.bnd,true_and,and_true] at hb hb2; conv=>whnf
 repeat' (first|(refine And.intro (fun h=> ?_) (fun h=> ?_)<;>(first|skip)<;>(first|(conv=>whnf)))|((with_reducible refine OwnOr.l ?_); (conv=>whnf))|(refine And.intro ?_ ?_; (focus (first|exact rfl|fail)); conv=>whnf)|((with_reducible refine xc_guard ?_); (first|(refine xc_g (N) false (by first|(((conv=>whnf); repeat' (first|exact trivial|exact rfl|exact LeC.refl _|(first|exact LeMs.refl _|fail)|((with_reducible refine And.intro ?_ ?_)<;>conv=>whnf))); done)|fail) trivial ?_)|fail); conv=>whnf)|fail)
 all_goals try (exact absurd (e.symm.trans h) (by decide))
 ((conv=>whnf); repeat' (first|exact trivial|exact rfl|exact LeC.refl _|((with_reducible refine And.intro ?_ ?_)<;>conv=>whnf)))
 all_goals exact LeMs.refl _
theorem deadRename (fuse ops:Int)(dead:Bool)(m:List (Value×AV))(s r:ByteArray)(q:Int)(hq:nmsR dead (wordB s&&wordB r)=q)(h0:q≠0):GCall Tryz.prog glD 47 [dskB fuse dead ops,.mp m] [.ptr 0 0,.c (.v (.string s)),.c (.v (.string r))] [dskB fuse dead ops,.mp m] [intA .i64 q]:=by
 have N:=gNames2 s r fuse ops dead m
 rw [hq] at N
 have e:(q != 0)=true:=by simpa using h0
 refine gcall_of_vcb htb hmix (f:=47) rfl rfl rfl (by kernel_rfl) rfl rfl rfl fun hb hb2=> ?_; simp only [bndOs,bndO,gbnds,AV.gbnd,bnds,C.bnd,true_and,and_true] at hb hb2; conv=>whnf
 repeat' (first|(refine And.intro (fun h=> ?_) (fun h=> ?_)<;>(first|skip)<;>(first|(conv=>whnf)))|((with_reducible refine OwnOr.l ?_); (conv=>whnf))|(refine And.intro ?_ ?_; (focus (first|exact rfl|fail)); conv=>whnf)|((with_reducible refine xc_guard ?_); (first|(refine xc_g (N) false (by first|(((conv=>whnf); repeat' (first|exact trivial|exact rfl|exact LeC.refl _|(first|exact LeMs.refl _|fail)|((with_reducible refine And.intro ?_ ?_)<;>conv=>whnf))); done)|fail) trivial ?_)|fail); conv=>whnf)|fail)
 all_goals try (exact absurd (e.symm.trans h) (by decide))
 ((conv=>whnf); repeat' (first|exact trivial|exact rfl|exact LeC.refl _|((with_reducible refine And.intro ?_ ?_)<;>conv=>whnf)))
 all_goals exact LeMs.refl _
theorem writeLong (fuse ops:Int)(s:ByteArray)(hs:wordB s=true)(m:List (Value×AV))(t:Bool)(n:Nat)(f:Nat→List C)(hn:n>262144):GCall Tryz.prog glD 26 [dskB fuse false ops,.mp m] [.ptr 0 0,.c (.v (.string s)),.c (.sl t 1 n f)] [dskB fuse false ops,.mp m] [intA .i64 3]:=by
 have G:=gPutLong fuse ops false s m n f hn
 have N:=gNames false 1 (fun _=>s) (nthC [[C.v (.string s)]]) (oneS s) (fun i _=>hs) fuse ops m
 refine gcall_of_vcb htb hmix (f:=26) rfl rfl rfl (by kernel_rfl) rfl rfl rfl fun hb hb2=> ?_; simp only [bndOs,bndO,gbnds,AV.gbnd,bnds,C.bnd,true_and,and_true] at hb hb2; conv=>whnf
 repeat' (first|(refine Exists.intro _ (And.intro (aCloneD t n f) ?_); conv=>whnf)|(refine And.intro (fun h=> ?_) (fun h=> ?_)<;>(first|skip)<;>(first|exact absurd h (by decide)|(conv=>whnf)))|((with_reducible refine OwnOr.l ?_); (conv=>whnf))|(refine And.intro ?_ ?_; (focus (first|exact rfl|fail)); conv=>whnf)|((with_reducible refine xc_guard ?_); (first|(refine xc_g (G) false (by first|(((conv=>whnf); repeat' (first|exact trivial|exact rfl|exact LeC.refl _|(first|exact LeMs.refl _|fail)|((with_reducible refine And.intro ?_ ?_)<;>conv=>whnf))); done)|fail) trivial ?_)|fail); conv=>whnf)|((with_reducible refine xc_guard ?_); (first|(refine xc_g (N) false (by first|(((conv=>whnf); repeat' (first|exact trivial|exact rfl|exact LeC.refl _|(first|exact LeMs.refl _|fail)|((with_reducible refine And.intro ?_ ?_)<;>conv=>whnf))); done)|fail) trivial ?_)|fail); conv=>whnf)|((with_reducible refine xc_pure ?_); conv=>whnf))
 all_goals try (exfalso; revert h; decide)
 ((conv=>whnf); repeat' (first|exact trivial|exact rfl|exact LeC.refl _|((with_reducible refine And.intro ?_ ?_)<;>conv=>whnf)))
 all_goals exact LeMs.refl _
theorem eqF {a:Bool}(h:¬ a=true):a=false:=by simpa using h
theorem tWrite (s b:ByteArray)(t:Bool):GCall Tryz.prog glD 26 [d.dB,d.mp] [.ptr 0 0,.c (.v (.string s)),.c (.sl t 1 b.size (strCells b))] [(d.wrt s b).1.dB,(d.wrt s b).1.mp] [intA .i64 (d.wrt s b).2]:=by
 unfold Dk.wrt
 by_cases hd:d.dead=true
 ·rw [if_pos hd]
  exact deadWrite d.fuse d.ops d.dead (mB d.l) s t _ _ 21 (by unfold nmsR; rw [if_pos hd]) (by decide)
 ·rw [if_neg hd]
  by_cases hs:wordB s=false
  ·rw [if_pos hs]
   exact deadWrite d.fuse d.ops d.dead (mB d.l) s t _ _ 1 (by unfold nmsR; rw [if_neg hd,if_pos hs]) (by decide)
  ·rw [if_neg hs]
   have hs:wordB s=true:=by simpa using hs
   by_cases hn:b.size>262144
   ·rw [if_pos hn]
    simp only [Dk.dB,Dk.mp,eqF hd]
    exact writeLong d.fuse d.ops s hs (mB d.l) t _ _ hn
   ·rw [if_neg hn]
    obtain ⟨q,hq⟩:=mB_get s d.l
    have h:=gWriteD d.fuse (fzN d.fuse) d.ops (IntKind.i64.wrap (d.ops+1)) (bnt d.fuse) (bnt d.fuse) s hs (mB d.l) (mB_ok _) _ _ q hq t b.size (strCells b) (by omega) (gBurnPA s _ _ d.fuse d.ops (mB d.l))
    rw [mB_put] at h
    unfold Dk.chg
    rw [if_neg (by simp)]
    simp only [Dk.dB,Dk.mp,eqF hd]
    exact h
theorem syncNone (fuse ops:Int)(s:ByteArray)(hs:wordB s=true)(m:List (Value×AV))(hm:mOk (tb 9).k m=true)(x z:C)(hq:mFnd s m (fl x z,false)):GCall Tryz.prog glD 28 [dskB fuse false ops,.mp m] [.ptr 0 0,.c (.v (.string s))] [dskB fuse false ops,.mp m] [intA .i64 11]:=by
 have N:=gNames false 1 (fun _=>s) (nthC [[C.v (.string s)]]) (oneS s) (fun i _=>hs) fuse ops m
 have T:=gThereA s m hm x z false hq fuse ops false
 refine gcall_of_vcb htb hmix (f:=28) rfl rfl rfl (by kernel_rfl) rfl rfl rfl fun hb hb2=> ?_; simp only [bndOs,bndO,gbnds,AV.gbnd,bnds,C.bnd,true_and,and_true] at hb hb2; conv=>whnf
 repeat' (first|(refine And.intro (fun h=> ?_) (fun h=> ?_)<;>(first|skip)<;>(first|exact absurd h (by decide)|(conv=>whnf)))|((with_reducible refine OwnOr.l ?_); (conv=>whnf))|(refine And.intro ?_ ?_; (focus (first|exact rfl|fail)); conv=>whnf)|((with_reducible refine xc_guard ?_); (first|(refine xc_g (N) false (by first|(((conv=>whnf); repeat' (first|exact trivial|exact rfl|exact LeC.refl _|(first|exact LeMs.refl _|fail)|((with_reducible refine And.intro ?_ ?_)<;>conv=>whnf))); done)|fail) trivial ?_)|fail); conv=>whnf)|((with_reducible refine xc_guard ?_); (first|(refine xc_g (T) false (by first|(((conv=>whnf); repeat' (first|exact trivial|exact rfl|exact LeC.refl _|(first|exact LeMs.refl _|fail)|((with_reducible refine And.intro ?_ ?_)<;>conv=>whnf))); done)|fail) trivial ?_)|fail); conv=>whnf)|fail)
 all_goals try (exfalso; revert h; decide)
 ((conv=>whnf); repeat' (first|exact trivial|exact rfl|exact LeC.refl _|((with_reducible refine And.intro ?_ ?_)<;>conv=>whnf)))
 all_goals exact LeMs.refl _
theorem tSync (s:ByteArray):GCall Tryz.prog glD 28 [d.dB,d.mp] [.ptr 0 0,.c (.v (.string s))] [(d.syn s).1.dB,(d.syn s).1.mp] [intA .i64 (d.syn s).2]:=by
 unfold Dk.syn
 by_cases hd:d.dead=true
 ·rw [if_pos hd]
  exact deadSync d.fuse d.ops d.dead (mB d.l) s 21 (by unfold nmsR; rw [if_pos hd]) (by decide)
 ·rw [if_neg hd]
  by_cases hs:wordB s=false
  ·rw [if_pos hs]
   exact deadSync d.fuse d.ops d.dead (mB d.l) s 1 (by unfold nmsR; rw [if_neg hd,if_pos hs]) (by decide)
  ·rw [if_neg hs]
   have hs:wordB s=true:=by simpa using hs
   cases hf:lkF s d.l with
   | none =>
    simp only [Dk.dB,Dk.mp,eqF hd]
    exact syncNone d.fuse d.ops s hs (mB d.l) (mB_ok _) _ _ (mB_none hf)
   | some p =>
    have hq:=mB_some hf
    have hb:=gBurnSA s d.fuse d.ops (mB d.l)
    simp only [Dk.dB,Dk.mp,Dk.chg,eqF hd]
    cases hbt:bnt d.fuse with
    | true =>
     rw [hbt] at hb
     exact gSyncNo d.fuse _ d.ops _ _ s hs (mB d.l) (mB_ok _) _ _ hq hb
    | false =>
     rw [hbt] at hb
     have h:=gSync d.fuse _ d.ops _ _ s hs (mB d.l) (mB_ok _) _ _ hq hb
     rw [mB_put] at h
     exact h
theorem renNone (fuse ops:Int)(s r:ByteArray)(hs:wordB s=true)(hr:wordB r=true)(m:List (Value×AV))(hm:mOk (tb 9).k m=true)(x z:C)(hq:mFnd s m (fl x z,false)):GCall Tryz.prog glD 47 [dskB fuse false ops,.mp m] [.ptr 0 0,.c (.v (.string s)),.c (.v (.string r))] [dskB fuse false ops,.mp m] [intA .i64 11]:=by
 have N:=gNames false 2 (fun i=>if i=0 then s else r) (nthC [[C.v (.string s)],[C.v (.string r)]]) (twoS s r) (twoW hs hr) fuse ops m
 have T:=gThereA s m hm x z false hq fuse ops false
 refine gcall_of_vcb htb hmix (f:=47) rfl rfl rfl (by kernel_rfl) rfl rfl rfl fun hb hb2=> ?_; simp only [bndOs,bndO,gbnds,AV.gbnd,bnds,C.bnd,true_and,and_true] at hb hb2; conv=>whnf
 repeat' (first|(refine And.intro (fun h=> ?_) (fun h=> ?_)<;>(first|skip)<;>(first|exact absurd h (by decide)|(conv=>whnf)))|((with_reducible refine OwnOr.l ?_); (conv=>whnf))|(refine And.intro ?_ ?_; (focus (first|exact rfl|fail)); conv=>whnf)|((with_reducible refine xc_guard ?_); (first|(refine xc_g (N) false (by first|(((conv=>whnf); repeat' (first|exact trivial|exact rfl|exact LeC.refl _|(first|exact LeMs.refl _|fail)|((with_reducible refine And.intro ?_ ?_)<;>conv=>whnf))); done)|fail) trivial ?_)|fail); conv=>whnf)|((with_reducible refine xc_guard ?_); (first|(refine xc_g (T) false (by first|(((conv=>whnf); repeat' (first|exact trivial|exact rfl|exact LeC.refl _|(first|exact LeMs.refl _|fail)|((with_reducible refine And.intro ?_ ?_)<;>conv=>whnf))); done)|fail) trivial ?_)|fail); conv=>whnf)|fail)
 all_goals try (exfalso; revert h; decide)
 ((conv=>whnf); repeat' (first|exact trivial|exact rfl|exact LeC.refl _|((with_reducible refine And.intro ?_ ?_)<;>conv=>whnf)))
 all_goals exact LeMs.refl _
theorem tRename (s r:ByteArray):GCall Tryz.prog glD 47 [d.dB,d.mp] [.ptr 0 0,.c (.v (.string s)),.c (.v (.string r))] [(d.ren s r).1.dB,(d.ren s r).1.mp] [intA .i64 (d.ren s r).2]:=by
 unfold Dk.ren
 by_cases hd:d.dead=true
 ·rw [if_pos hd]
  exact deadRename d.fuse d.ops d.dead (mB d.l) s r 21 (by unfold nmsR; rw [if_pos hd]) (by decide)
 ·rw [if_neg hd]
  by_cases hs:wordB s=false∨wordB r=false
  ·rw [if_pos hs]
   exact deadRename d.fuse d.ops d.dead (mB d.l) s r 1 (by unfold nmsR; rw [if_neg hd,if_pos (by rcases hs with h|h<;>simp [h])]) (by decide)
  ·rw [if_neg hs]
   have hs':wordB s=true:=by
    cases h:wordB s with
    | true=>rfl
    | false=>exact absurd (.inl h) hs
   have hr':wordB r=true:=by
    cases h:wordB r with
    | true=>rfl
    | false=>exact absurd (.inr h) hs
   cases hf:lkF s d.l with
   | none =>
    simp only [Dk.dB,Dk.mp,eqF hd]
    exact renNone d.fuse d.ops s r hs' hr' (mB d.l) (mB_ok _) _ _ (mB_none hf)
   | some p =>
    have hq:=mB_some hf
    have hb:=gBurnRA s r d.fuse d.ops (mB d.l)
    simp only [Dk.dB,Dk.mp,Dk.chg,eqF hd]
    cases hbt:bnt d.fuse with
    | true =>
     rw [hbt] at hb
     exact gRenameNo d.fuse _ d.ops _ _ s r hs' hr' (mB d.l) (mB_ok _) _ _ hq hb
    | false =>
     rw [hbt] at hb
     have h:=gRename d.fuse _ d.ops _ _ s r hs' hr' (mB d.l) (mB_ok _) _ _ hq hb
     rw [mB_del,mB_put] at h
     exact h
end
end Go.Proofs.YtiodgjgngfklkaaGreatDoor
namespace Go.Proofs.YtiodgjgngfklkaaGreatDoor
open Go Go.VA Go.RowKit
section
variable (d:Dk)
theorem readNone (fuse ops:Int)(dead:Bool)(s:ByteArray)(m:List (Value×AV))(hm:mOk (tb 9).k m=true)(x z:C)(hq:mFnd s m (fl x z,false)):GCall Tryz.prog glD 18 [dskB fuse dead ops,.mp m] [.ptr 0 0,.c (.v (.string s))] [dskB fuse dead ops,.mp m] [.c (oC mtB),intA .i64 11]:=by
 have T:=gThereA s m hm x z false hq fuse ops dead
 refine gcall_of_vcb htb hmix (f:=18) rfl rfl rfl (by kernel_rfl) rfl rfl rfl fun hb hb2=> ?_; simp only [bndOs,bndO,gbnds,AV.gbnd,bnds,C.bnd,true_and,and_true] at hb hb2; conv=>whnf
 repeat' (first|(refine And.intro (fun h=> ?_) (fun h=> ?_)<;>(first|skip)<;>(first|exact absurd h (by decide)|(conv=>whnf)))|((with_reducible refine NilOr.l ?_); conv=>whnf)|(refine And.intro ?_ ?_; (focus (first|exact rfl|fail)); conv=>whnf)|((with_reducible refine xc_guard ?_); (first|(refine xc_g (T) false (by first|(((conv=>whnf); repeat' (first|exact trivial|exact rfl|exact LeC.refl _|(first|exact LeMs.refl _|fail)|((with_reducible refine And.intro ?_ ?_)<;>conv=>whnf))); done)|fail) trivial ?_)|fail); conv=>whnf)|fail)
 all_goals try (exfalso; revert h; decide)
 ((conv=>whnf); repeat' (first|exact trivial|exact rfl|exact LeC.refl _|((with_reducible refine And.intro ?_ ?_)<;>conv=>whnf)))
 all_goals first
  | exact LeMs.refl _
  | exact fun S u h=>(leSl (m:=0) rfl (fun i hi=>absurd hi (Nat.not_lt_zero _))).h [] S u (Nat.zero_le _) h
theorem tRead (s:ByteArray)(p:ByteArray×ByteArray)(h:lkF s d.l=some p):GCall Tryz.prog glD 18 [d.dB,d.mp] [.ptr 0 0,.c (.v (.string s))] [d.dB,d.mp] [.c (oC p.1),intA .i64 0] :=
 gRead d.fuse d.ops d.dead s (mB d.l) (mB_ok _) p.1.size (strCells p.1) (oC p.2) (mB_some h)
theorem tReadNo (s:ByteArray)(h:lkF s d.l=none):GCall Tryz.prog glD 18 [d.dB,d.mp] [.ptr 0 0,.c (.v (.string s))] [d.dB,d.mp] [.c (oC mtB),intA .i64 11] :=
 readNone d.fuse d.ops d.dead s (mB d.l) (mB_ok _) _ _ (mB_none h)
abbrev flBD (keep:Int) (l:List Ft):List Fl:=l.map fun e=>(e.1,oC e.2.1,oC e.2.2,oC (torB keep e.2.1 e.2.2))
theorem mm_B (keep:Int)(l:List Ft):mm (flBD keep l) []=mB l:=by
 unfold mm mB
 rw [List.map_map]
 rfl
theorem mm_B2 (keep:Int)(l:List Ft):mm (flBD keep l) ((flBD keep l).map (·.1.data.toList))=mB (l.map fun e=>(e.1,torB keep e.2.1 e.2.2,torB keep e.2.1 e.2.2)):=by
 unfold mm mB
 rw [List.map_map,List.map_map,List.map_map]
 refine List.map_congr_left fun e he=> ?_
 have hm:e.1.data.toList ∈ (flBD keep l).map (·.1.data.toList):=by
  rw [List.map_map]
  exact List.mem_map_of_mem (f:=(fun x:Fl=>x.1.data.toList)∘fun e:Ft=>(e.1,oC e.2.1,oC e.2.2,oC (torB keep e.2.1 e.2.2))) he
 simp only [Function.comp]
 rw [List.map_map] at hm
 rw [if_pos hm]
theorem word_size {s:ByteArray}(h:wordB s=true):s.size≤24:=by
 unfold wordB spell at h
 simp only [Bool.and_eq_true,decide_eq_true_eq] at h
 exact h.1.2
theorem tBoot (n:Nat)(ok:d.Ok n)(hn:n<1000000)(keep:Int):GCall Tryz.prog glD 16 [d.dB,d.mp] [.ptr 0 0,intA .i64 keep] [(d.bot keep).dB,(d.bot keep).mp] []:=by
 have h:=gBoot (flBD keep d.l) ⟨by
   rw [List.map_map]
   exact ok.nodup,fun e he=>by
   obtain ⟨f,hf,rfl⟩:=List.mem_map.1 he
   have:=word_size (ok.word f hf)
   exact Nat.le_trans this (by decide),by
   rw [List.length_map]
   have:=ok.len
   have:(1000000:Nat)<maxLen:=by decide
   omega,fun e he=>by
   obtain ⟨f,hf,rfl⟩:=List.mem_map.1 he
   exact ⟨rfl,rfl,rfl⟩⟩ d.fuse d.ops keep d.dead (fun f hf=>by
   obtain ⟨e,he,rfl⟩:=List.mem_map.1 hf
   exact btAll keep e.1 e.2.1 e.2.2 (ok.size e he).1)
 rw [mm_B,mm_B2] at h
 exact h
end
end Go.Proofs.YtiodgjgngfklkaaGreatDoor
