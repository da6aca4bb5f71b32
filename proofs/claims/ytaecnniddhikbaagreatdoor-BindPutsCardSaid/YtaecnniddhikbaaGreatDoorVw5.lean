/- What functions of the program answer,whatever their arguments. -/
import Derived.Test.YtaecnniddhikbaaGreatDoorVw1
import Derived.Test.YtaecnniddhikbaaGreatDoorVD
set_option linter.unusedSectionVars false
set_option linter.unnecessarySimpa false
set_option linter.unusedSimpArgs false
set_option linter.unusedVariables false
set_option maxRecDepth 100000
set_option maxHeartbeats 8000000
namespace Go.Proofs.YtaecnniddhikbaaGreatDoor
open Go Go.VA
end Go.Proofs.YtaecnniddhikbaaGreatDoor
namespace Go.Proofs.YtaecnniddhikbaaGreatDoor
open Go Go.VA
theorem aCmp_int (x y:Int):ACall Tryz.prog gl 150 [intA .i64 x,intA .i64 y] [] (intA .i64 (cmpI x y)):=by
 refine acall_of_vc htb hmix (f:=150) rfl rfl rfl (by kernel_rfl) rfl rfl ?_; conv=>whnf
 repeat' (first|(refine And.intro (fun h=> ?_) (fun h=> ?_)<;>(first|(with_reducible have hd:_<_:=of_decide_eq_true h)|(with_reducible have hd:¬ (_<_):=of_decide_eq_false h)|skip)<;>conv=>whnf)|(refine And.intro ?_ ?_; (focus (first|exact rfl|fail)); conv=>whnf)|((with_reducible refine xc_guard ?_); refine xc_in (f:=163) htb hmix rfl rfl rfl (by kernel_rfl) rfl ?_; intro vs; conv=>whnf)|fail)
 all_goals first
  | (exfalso; simp at *; done)
  | exact leI (by unfold cmpI; simp at *; omega)
theorem aCmp_int64 (x y:Int):ACall Tryz.prog gl 151 [intA .i64 x,intA .i64 y] [] (intA .i64 (cmpI x y)):=by
 refine acall_of_vc htb hmix (f:=151) rfl rfl rfl (by kernel_rfl) rfl rfl ?_; conv=>whnf
 repeat' (first|(refine And.intro (fun h=> ?_) (fun h=> ?_)<;>(first|(with_reducible have hd:_<_:=of_decide_eq_true h)|(with_reducible have hd:¬ (_<_):=of_decide_eq_false h)|skip)<;>conv=>whnf)|(refine And.intro ?_ ?_; (focus (first|exact rfl|fail)); conv=>whnf)|((with_reducible refine xc_guard ?_); refine xc_in (f:=164) htb hmix rfl rfl rfl (by kernel_rfl) rfl ?_; intro vs; conv=>whnf)|fail)
 all_goals first
  | (exfalso; simp at *; done)
  | exact leI (by unfold cmpI; simp at *; omega)
theorem aCmp_s (x y:ByteArray):ACall Tryz.prog gl 149 [.c (.v (.string x)),.c (.v (.string y))] [] (intA .i64 (cmpS x y)):=by
 refine acall_of_vc htb hmix (f:=149) rfl rfl rfl (by kernel_rfl) rfl rfl ?_; conv=>whnf
 repeat' (first|(refine And.intro (fun h=> ?_) (fun h=> ?_)<;>(first|skip)<;>conv=>whnf)|(refine And.intro ?_ ?_; (focus (first|exact rfl|fail)); conv=>whnf)|((with_reducible refine xc_guard ?_); refine xc_in (f:=162) htb hmix rfl rfl rfl (by kernel_rfl) rfl ?_; intro vs; conv=>whnf)|fail)
 all_goals first
  | (exfalso; simp at *; done)
  | exact leI (by unfold cmpS; split<;>(try split)<;>simp_all)
end Go.Proofs.YtaecnniddhikbaaGreatDoor
namespace Go.Proofs.YtaecnniddhikbaaGreatDoor
open Go Go.VA
theorem aSameR (a:V):∀ (b:V) (t t' u u' m:Bool),ACall Tryz.prog gl 85 [.ag (cVt t t' a),.ag (cVt u u' b),boolA m] [] (boolA (sameR a b m)):=by
 induction a using V.ind with
 | h a ih =>
 intro b t t' u u' m
 refine acall_of_vcb htb hmix (f:=85) rfl rfl rfl (by kernel_rfl) rfl rfl fun hb=> ?_; simp only [bndAll,AV.bnd,bnds,C.bnd,cVt,cS,true_and,and_true] at hb; conv=>whnf
 repeat' (first|(refine And.intro (fun h=> ?_) (fun h=> ?_)<;>(first|skip)<;>conv=>whnf)|(refine And.intro ?_ ?_; (focus (first|(first|exact seT|fail)|fail)); conv=>whnf)|fail)
 ·exact leB (by rw [sameR_eq]; unfold eqs; (simp only [*,Bool.false_eq_true,↓reduceIte,V.t]; try rfl))
 ·have h1:sameR a b m=if !eqSs a.ks b.ks then false else all2 (fun x y=>sameR x y m) a.l b.l:=by rw [sameR_eq]; unfold eqs; (simp only [*,Bool.false_eq_true,↓reduceIte,V.t]; try rfl)
  have hl:a.l.length=b.l.length∧a.ks.length=b.ks.length:=by simp at h; omega
  clear h
  refine loopN (fun c=>c≤a.ks.length∧eqSs (a.ks.drop c) (b.ks.drop c)=eqSs a.ks b.ks) (fun c=>[(7,intA .i64 c)]) (fun _=>[]) a.ks.length (fun c h=>h.1) 0 ⟨Nat.zero_le _,rfl⟩ ?_ (fun _=>rfl) fun c ⟨hc,hR⟩=> ?_
  ·(refine And.intro ?_ (And.intro ?_ (And.intro ?_ rfl))<;>(conv=>whnf)<;>repeat' (first|exact trivial|exact LeE.of (Le.refl _)|(first|exact rfl|fail)|((with_reducible refine And.intro ?_ ?_)<;>conv=>whnf)))
  ·conv=>whnf
   repeat' (first|(refine And.intro (fun h=> ?_) (fun h=> ?_)<;>(first|(with_reducible have hd:_<_:=of_decide_eq_true h)|(with_reducible have hd:¬ (_<_):=of_decide_eq_false h)|skip)<;>conv=>whnf)|(refine And.intro ?_ ?_; (focus (first|(refine chainI ?_; (first|omega|fail))|fail)); conv=>whnf)|fail)
   ·obtain ⟨x,hx,hx'⟩:=nthS (l:=a.ks) (c:=c) (by omega)
    obtain ⟨y,hy,hy'⟩:=nthS (l:=b.ks) (c:=c) (by omega)
    have h:(!eqs (a.ks.getD c ByteArray.empty) (b.ks.getD c ByteArray.empty))=true:=h
    rw [hx',hy',Bool.not_eq_true'] at h
    exact leB (by rw [h1,← hR,drop_cons? hx,drop_cons? hy,eqSs,h]; rfl)
   ·obtain ⟨x,hx,hx'⟩:=nthS (l:=a.ks) (c:=c) (by omega)
    obtain ⟨y,hy,hy'⟩:=nthS (l:=b.ks) (c:=c) (by omega)
    have h:(!eqs (a.ks.getD c ByteArray.empty) (b.ks.getD c ByteArray.empty))=false:=h
    rw [hx',hy',Bool.not_eq_false'] at h
    refine ⟨c+1,⟨⟨by omega,?_⟩,by omega⟩,?_⟩
    ·rw [← hR,drop_cons? hx,drop_cons? hy,eqSs,h]; rfl
    ·(refine And.intro ?_ (And.intro ?_ (And.intro ?_ rfl))<;>(conv=>whnf)<;>repeat' (first|exact trivial|exact LeE.of (Le.refl _)|(with_reducible refine LeE.of ?_)|(first|exact rfl|exact leI (by first|rfl|(rw [wrap64 (by omega) (by omega)]; omega)|fail)|fail)|((with_reducible refine And.intro ?_ ?_)<;>conv=>whnf)))
   ·obtain rfl:c=a.ks.length:=by omega
    have hks:eqSs a.ks b.ks=true:=by rw [← hR,List.drop_length,hl.2,List.drop_length]; rfl
    rw [hks] at h1
    have h1:sameR a b m=all2 (fun x y=>sameR x y m) a.l b.l:=h1
    refine loopN (fun c=>c≤a.l.length∧all2 (fun x y=>sameR x y m) (a.l.drop c) (b.l.drop c)=all2 (fun x y=>sameR x y m) a.l b.l) (fun c=>[(8,intA .i64 c)]) (fun _=>[]) a.l.length (fun c h=>h.1) 0 ⟨Nat.zero_le _,rfl⟩ ?_ (fun _=>rfl) fun c ⟨hc,hR⟩=> ?_
    ·(refine And.intro ?_ (And.intro ?_ (And.intro ?_ rfl))<;>(conv=>whnf)<;>repeat' (first|exact trivial|exact LeE.of (Le.refl _)|(first|exact rfl|fail)|((with_reducible refine And.intro ?_ ?_)<;>conv=>whnf)))
    ·conv=>whnf
     repeat' (first|(refine And.intro (fun h=> ?_) (fun h=> ?_)<;>(first|(with_reducible have hd:_<_:=of_decide_eq_true h)|(with_reducible have hd:¬ (_<_):=of_decide_eq_false h)|fail)<;>conv=>whnf)|((with_reducible refine DOr.l ?_); (conv=>whnf))|(refine And.intro ?_ ?_; (focus (first|(refine chainI ?_; (first|omega|fail))|fail)); conv=>whnf)|fail)
     ·obtain ⟨x,hx,hmx,hex⟩:=rV_ex (l:=a.l) (c:=c) (by omega)
      obtain ⟨y,hy,hmy,hey⟩:=rV_ex (l:=b.l) (c:=c) (by omega)
      rw [hex]; conv=>whnf; rw [hey]; conv=>whnf
      repeat' (first|(refine Exists.intro _ (And.intro (chainI (ih x hmx y _ _ _ _ m)) ?_); conv=>whnf)|(refine And.intro (fun h=> ?_) (fun h=> ?_)<;>(first|skip)<;>conv=>whnf)|(refine And.intro ?_ ?_; (focus (first|(refine chainI ?_; (first|omega|fail))|fail)); conv=>whnf)|fail)
      ·exact leB (by rw [h1,← hR,drop_cons? hx,drop_cons? hy,all2]; rw [Bool.not_eq_true'] at h; rw [h]; rfl)
      ·refine ⟨c+1,⟨⟨by omega,?_⟩,by omega⟩,?_⟩
       ·rw [← hR,drop_cons? hx,drop_cons? hy,all2]; rw [Bool.not_eq_false'] at h; rw [h]; rfl
       ·(refine And.intro ?_ (And.intro ?_ (And.intro ?_ rfl))<;>(conv=>whnf)<;>repeat' (first|exact trivial|exact LeE.of (Le.refl _)|(with_reducible refine LeE.of ?_)|(first|exact rfl|exact leI (by first|rfl|(rw [wrap64 (by omega) (by omega)]; omega)|fail)|fail)|((with_reducible refine And.intro ?_ ?_)<;>conv=>whnf)))
     ·obtain rfl:c=a.l.length:=by omega
      exact leB (by rw [h1,← hR,List.drop_length,hl.1,List.drop_length]; rfl)
theorem aGreatV (v:V):∀ (t t':Bool) (d:Int),ACall Tryz.prog gl 47 [.ag (cVt t t' v),intA .i64 d] [] (intA .i64 (greatV v d)):=by
 induction v using V.ind with
 | h v ih =>
 intro t t' d
 refine acall_of_vcb htb hmix (f:=47) rfl rfl rfl (by kernel_rfl) rfl rfl fun hb=> ?_; simp only [bndAll,AV.bnd,bnds,C.bnd,cVt,cS,true_and,and_true] at hb; conv=>whnf
 repeat' (first|(refine And.intro (fun h=> ?_) (fun h=> ?_)<;>(first|skip)<;>conv=>whnf)|(refine And.intro ?_ ?_; (focus (first|(refine chainI ?_; (first|decide|fail))|fail)); conv=>whnf)|fail)
 ·exact leI (by rw [greatV_eq,if_pos h])
 ·have h1:greatV v d=(let n:=greatL d (v.l.map greatV) (greatK v.ks (great0 v)); if 601<n then 601 else n):=by rw [greatV_eq,if_neg (by rw [h]; simp)]
  refine loopI (Nat×Int) (fun p=>p.1≤v.ks.length∧greatK (v.ks.drop p.1) p.2=greatK v.ks (great0 v)) (fun p=>[(6,intA .i64 p.1),(5,intA .i64 p.2)]) (fun _=>[.box ((cVt t t' v).map AV.c)]) (fun p=>v.ks.length-p.1) (0,great0 v) ⟨Nat.zero_le _,rfl⟩ ?_ (fun _=>rfl) fun ⟨c,n⟩ ⟨hc,hR⟩=> ?_
  ·(refine And.intro ?_ (And.intro ?_ (And.intro ?_ rfl))<;>(conv=>whnf)<;>repeat' (first|exact trivial|exact LeE.of (Le.refl _)|(first|exact rfl|fail)|((with_reducible refine And.intro ?_ ?_)<;>conv=>whnf)))
  ·conv=>whnf
   repeat' (first|(refine And.intro (fun h=> ?_) (fun h=> ?_)<;>(first|skip)<;>conv=>whnf)|(refine And.intro ?_ ?_; (focus (first|(refine chainI ?_; (first|decide|fail))|((conv=>whnf); intros; (try simp only [decide_eq_true_eq,decide_eq_false_iff_not,Bool.and_eq_true,Bool.or_eq_true,Bool.and_eq_false_imp,Bool.or_eq_false_iff,Bool.not_eq_true',Bool.not_eq_false',beq_iff_eq,bne_iff_ne,ne_eq] at *); (first|omega|fail)))); conv=>whnf)|fail)
   ·simp only [Bool.and_eq_true,decide_eq_true_eq] at h hc hR
    obtain ⟨x,hx,hx'⟩:=nthS (l:=v.ks) (c:=c) (by omega)
    refine ⟨(c+1,IntKind.i64.wrap (n+IntKind.i64.wrap ((if (4000:Int)<x.size then 4000 else (x.size:Int)).tdiv 4))),⟨by show c+1≤_; omega,?_⟩,?_,by show v.ks.length-(c+1)<v.ks.length-c; omega⟩
    ·show greatK (v.ks.drop (c+1)) _=_
     rw [← hR,greatK_go hx h.2]
    ·rw [← hx']
     (refine And.intro ?_ (And.intro ?_ (And.intro ?_ rfl))<;>(conv=>whnf)<;>repeat' (first|exact trivial|exact LeE.of (Le.refl _)|(with_reducible refine LeE.of ?_)|(first|exact rfl|exact leI (by first|rfl|(rw [wrap64 (by omega) (by omega)]; omega)|fail)|fail)|((with_reducible refine And.intro ?_ ?_)<;>conv=>whnf)))
   ·have hn:n=greatK v.ks (great0 v):=by
     simp only [Bool.and_eq_false_iff,decide_eq_false_iff_not] at h hc hR
     rw [← hR]
     by_cases h6:n≤600
     ·rw [List.drop_of_length_le (by omega)]; rfl
     ·rw [greatK_stop (by simpa using h6)]
    subst hn
    clear h hR hc
    refine loopI (Nat×Int) (fun p=>p.1≤v.l.length∧greatL d ((v.l.map greatV).drop p.1) p.2=greatL d (v.l.map greatV) (greatK v.ks (great0 v))) (fun p=>[(7,intA .i64 p.1),(5,intA .i64 p.2)]) (fun _=>[.box ((cVt t t' v).map AV.c)]) (fun p=>v.l.length-p.1) (0,greatK v.ks (great0 v)) ⟨Nat.zero_le _,rfl⟩ ?_ (fun _=>rfl) fun ⟨c,n⟩ ⟨hc,hR⟩=> ?_
    ·(refine And.intro ?_ (And.intro ?_ (And.intro ?_ rfl))<;>(conv=>whnf)<;>repeat' (first|exact trivial|exact LeE.of (Le.refl _)|(first|exact rfl|fail)|((with_reducible refine And.intro ?_ ?_)<;>conv=>whnf)))
    ·conv=>whnf
     repeat' (first|(refine And.intro (fun h=> ?_) (fun h=> ?_)<;>(first|skip)<;>conv=>whnf)|(refine And.intro ?_ ?_; (focus (first|((conv=>whnf); intros; (try simp only [decide_eq_true_eq,decide_eq_false_iff_not,Bool.and_eq_true,Bool.or_eq_true,Bool.and_eq_false_imp,Bool.or_eq_false_iff,Bool.not_eq_true',Bool.not_eq_false',beq_iff_eq,bne_iff_ne,ne_eq] at *); (first|omega|fail)))); conv=>whnf)|fail)
     ·simp only [Bool.and_eq_true,decide_eq_true_eq] at h hc hR
      obtain ⟨x,hx,hm,he⟩:=rV_ex (l:=v.l) (c:=c) (by omega)
      rw [he]; conv=>whnf
      repeat' (first|(refine Exists.intro _ (And.intro (ih x hm _ _ _) ?_); conv=>whnf)|((with_reducible refine xc_pure ?_); conv=>whnf))
      refine ⟨(c+1,IntKind.i64.wrap (n+greatV x (IntKind.i64.wrap (d-1)))),⟨by show c+1≤_; omega,?_⟩,?_,by show v.l.length-(c+1)<v.l.length-c; omega⟩
      ·show greatL d ((v.l.map greatV).drop (c+1)) _=_
       rw [← hR,greatL_go (r:=greatV x) (by rw [List.getElem?_map,hx]; rfl) h.2]
      ·(refine And.intro ?_ (And.intro ?_ (And.intro ?_ rfl))<;>(conv=>whnf)<;>repeat' (first|exact trivial|exact LeE.of (Le.refl _)|(with_reducible refine LeE.of ?_)|(first|exact rfl|exact leI (by first|rfl|(rw [wrap64 (by omega) (by omega)]; omega)|fail)|fail)|((with_reducible refine And.intro ?_ ?_)<;>conv=>whnf)))
     ·have hn:n=greatL d (v.l.map greatV) (greatK v.ks (great0 v)):=by
       simp only [Bool.and_eq_false_iff,decide_eq_false_iff_not] at h hc hR
       rw [← hR]
       by_cases h6:n≤600
       ·rw [List.drop_of_length_le (by simp; omega)]; rfl
       ·rw [greatL_stop (by simpa using h6)]
      exact leI (by rw [h1,hn])
theorem aGreat (t t':Bool)(v:V):ACall Tryz.prog gl 19 [.ag (cVt t t' v)] [] (boolA (decide (greatV v 10>600))):=by
 refine acall_of_vc htb hmix (f:=19) rfl rfl rfl (by kernel_rfl) rfl rfl ?_; conv=>whnf
 repeat' (first|(refine Exists.intro _ (And.intro (aGreatV _ _ _ _) ?_); conv=>whnf)|((with_reducible refine xc_pure ?_); conv=>whnf))
 exact Le.refl _
theorem aCheckRV (v:V):∀ (t t':Bool) (d:Int),ACall Tryz.prog gl 107 [.ag (cVt t t' v),intA .i64 d] [] (boolA (checkRV v d)):=by
 induction v using V.ind with
 | h v ih =>
 intro t t' d
 refine acall_of_vcb htb hmix (f:=107) rfl rfl rfl (by kernel_rfl) rfl rfl fun hb=> ?_; simp only [bndAll,AV.bnd,bnds,C.bnd,cVt,cS,true_and,and_true] at hb; conv=>whnf
 repeat' (first|((with_reducible refine GOr.l ?_); (conv=>whnf); refine Exists.intro _ (And.intro (chainI (aChkR _ _)) ?_); conv=>whnf)|(refine And.intro (fun h=> ?_) (fun h=> ?_)<;>(first|skip)<;>conv=>whnf)|(refine And.intro ?_ ?_; (focus (first|(first|exact seT|fail)|fail)); conv=>whnf)|fail)
 case' refine_2.refine_2.refine_2.refine_2.refine_2.refine_2.refine_2 =>
  have h1:checkRV v d=if !keysOk v.ks v.ks 0 then false else v.l.all fun x=>checkRV x (IntKind.i64.wrap (d-1)):=by rw [checkRV_eq]; unfold chk1 chk2 chk3 chk4 chk5 chk6; (simp only [*,Bool.false_eq_true,↓reduceIte,V.t]; try rfl)
  clear h
  refine loopN (fun c=>c≤v.ks.length∧keysOk v.ks (v.ks.drop c) c=keysOk v.ks v.ks 0) (fun c=>[(5,intA .i64 c)]) (fun c=>[]) v.ks.length (fun c h=>h.1) 0 ⟨Nat.zero_le _,rfl⟩ ?_ (fun _=>rfl) fun c ⟨hc,hR⟩=> ?_
  ·(refine And.intro ?_ (And.intro ?_ (And.intro ?_ rfl))<;>(conv=>whnf)<;>repeat' (first|exact trivial|exact LeE.of (Le.refl _)|(first|exact rfl|fail)|((with_reducible refine And.intro ?_ ?_)<;>conv=>whnf)))
  ·conv=>whnf
   repeat' (first|(refine And.intro (fun h=> ?_) (fun h=> ?_)<;>(first|(with_reducible have hd:_<_:=of_decide_eq_true h)|(with_reducible have hd:¬ (_<_):=of_decide_eq_false h)|skip)<;>conv=>whnf)|(refine And.intro ?_ ?_; (focus (first|(refine chainI ?_; (first|omega|fail))|((conv=>whnf); intros; (try simp only [decide_eq_true_eq,decide_eq_false_iff_not,Bool.and_eq_true,Bool.or_eq_true,Bool.and_eq_false_imp,Bool.or_eq_false_iff,Bool.not_eq_true',Bool.not_eq_false',beq_iff_eq,bne_iff_ne,ne_eq] at *); (first|(simp only [IntKind.wrap_i64]; first|omega|(refine And.intro ?_ ?_<;>omega)))))); conv=>whnf)|fail)
   ·obtain ⟨x,hx,hx'⟩:=nthS (l:=v.ks) (c:=c) (by omega)
    have h:keyOk v.ks c (v.ks.getD c ByteArray.empty)=true:=h
    rw [hx'] at h
    exact leB (by rw [h1,← hR,drop_cons? hx,keysOk,if_pos h]; rfl)
   ·obtain ⟨x,hx,hx'⟩:=nthS (l:=v.ks) (c:=c) (by omega)
    have h:keyOk v.ks c (v.ks.getD c ByteArray.empty)=false:=h
    rw [hx'] at h
    refine ⟨c+1,⟨⟨by omega,?_⟩,by omega⟩,?_⟩
    ·rw [← hR,drop_cons? hx,keysOk,if_neg (by rw [h]; simp)]
    ·(refine And.intro ?_ (And.intro ?_ (And.intro ?_ rfl))<;>(conv=>whnf)<;>repeat' (first|exact trivial|exact LeE.of (Le.refl _)|(with_reducible refine LeE.of ?_)|(first|exact rfl|exact leI (by first|rfl|(rw [wrap64 (by omega) (by omega)]; omega)|fail)|fail)|((with_reducible refine And.intro ?_ ?_)<;>conv=>whnf)))
   ·have hk:keysOk v.ks v.ks 0=true:=by
     obtain rfl:c=v.ks.length:=by omega
     rw [← hR,List.drop_length]; rfl
    rw [hk] at h1
    have h1:checkRV v d=v.l.all fun x=>checkRV x (IntKind.i64.wrap (d-1)):=h1
    refine loopN (fun c=>c≤v.l.length∧(v.l.drop c).all (fun x=>checkRV x (IntKind.i64.wrap (d-1)))=v.l.all (fun x=>checkRV x (IntKind.i64.wrap (d-1)))) (fun c=>[(6,intA .i64 c)]) (fun c=>[]) v.l.length (fun c h=>h.1) 0 ⟨Nat.zero_le _,rfl⟩ ?_ (fun _=>rfl) fun c ⟨hc,hR⟩=> ?_
    ·(refine And.intro ?_ (And.intro ?_ (And.intro ?_ rfl))<;>(conv=>whnf)<;>repeat' (first|exact trivial|exact LeE.of (Le.refl _)|(first|exact rfl|fail)|((with_reducible refine And.intro ?_ ?_)<;>conv=>whnf)))
    ·conv=>whnf
     repeat' (first|(refine And.intro (fun h=> ?_) (fun h=> ?_)<;>(first|(with_reducible have hd:_<_:=of_decide_eq_true h)|(with_reducible have hd:¬ (_<_):=of_decide_eq_false h)|fail)<;>conv=>whnf)|(refine And.intro ?_ ?_; (focus (first|(refine chainI ?_; (first|omega|fail))|fail)); conv=>whnf)|fail)
     ·obtain ⟨x,hx,hm,he⟩:=rV_ex (l:=v.l) (c:=c) (by omega)
      rw [he]
      conv=>whnf
      repeat' (first|(refine Exists.intro _ (And.intro (ih x hm _ _ _) ?_); conv=>whnf)|(refine And.intro (fun h=> ?_) (fun h=> ?_)<;>(first|skip)<;>conv=>whnf)|((with_reducible refine xc_pure ?_); conv=>whnf))
      ·exact leB (by rw [h1,← hR,drop_cons? hx,List.all_cons]; rw [Bool.not_eq_true'] at h; rw [h]; rfl)
      ·refine ⟨c+1,⟨⟨by omega,?_⟩,by omega⟩,?_⟩
       ·rw [← hR,drop_cons? hx,List.all_cons]; rw [Bool.not_eq_false'] at h; rw [h]; rfl
       ·(refine And.intro ?_ (And.intro ?_ (And.intro ?_ rfl))<;>(conv=>whnf)<;>repeat' (first|exact trivial|exact LeE.of (Le.refl _)|(with_reducible refine LeE.of ?_)|(first|exact rfl|exact leI (by first|rfl|(rw [wrap64 (by omega) (by omega)]; omega)|fail)|fail)|((with_reducible refine And.intro ?_ ?_)<;>conv=>whnf)))
     ·obtain rfl:c=v.l.length:=by omega
      exact leB (by rw [h1,← hR,List.drop_length]; rfl)
 all_goals exact leB (by rw [checkRV_eq]; unfold chk1 chk2 chk3 chk4 chk5 chk6; (simp only [*,Bool.false_eq_true,↓reduceIte,V.t]; try rfl))
theorem aCheckR (t t':Bool)(v:V):ACall Tryz.prog gl 74 [.ag (cVt t t' v)] [] (boolA (checkR v)):=by
 refine acall_of_vc htb hmix (f:=74) rfl rfl rfl (by kernel_rfl) rfl rfl ?_; conv=>whnf
 repeat' (first|(refine Exists.intro _ (And.intro (aCheckRV _ _ _ _) ?_); conv=>whnf)|((with_reducible refine GOr.l ?_); (conv=>whnf); refine Exists.intro _ (And.intro (chainI (aWeightR _ _ _)) ?_); conv=>whnf)|((with_reducible refine xc_pure ?_); conv=>whnf))
 exact Le.refl _
end Go.Proofs.YtaecnniddhikbaaGreatDoor
namespace Go.Proofs.YtaecnniddhikbaaGreatDoor
open Go Go.VA
theorem all_stop {α:Type}{p:α→Bool}{l:List α}{c:Nat}{x:α}(h:l[c]? =some x):(l.drop c).all p=(p x&&(l.drop (c+1)).all p):=by rw [drop_cons? h,List.all_cons]
theorem aFitsR (v:V):∀ (t t':Bool) (k o:Int),ACall Tryz.prog gl 159 [.ag (cVt t t' v),.ag [.v (.int .i64 k),.v (.int .i64 o)]] [] (boolA (fitsR v (k,o))):=by
 induction v using V.ind with
 | h v ih =>
 intro t t' k o
 have hle:=nIt_le v
 refine acall_of_vcb htb hmix (f:=159) rfl rfl rfl (by kernel_rfl) rfl rfl fun hb=> ?_; simp only [bndAll,AV.bnd,bnds,C.bnd,cVt,cS,true_and,and_true] at hb; conv=>whnf
 repeat' (first|(refine Exists.intro _ (And.intro (aChkR _ _) ?_); conv=>whnf)|(refine Exists.intro _ (And.intro (aWiR _ _ _ _) ?_); conv=>whnf)|(refine And.intro (fun h=> ?_) (fun h=> ?_)<;>(first|skip)<;>conv=>whnf)|((with_reducible refine xc_pure ?_); conv=>whnf))
 case' refine_2.refine_2.refine_2.refine_2 =>
  refine loopN (fun c=>c≤nIt v∧((items v).drop c).all (fun x=>fitsR x (o,0))=(items v).all (fun x=>fitsR x (o,0))) (fun c=>[(5,intA .i64 c)]) (fun _=>[]) (nIt v) (fun c h=>h.1) 0 ⟨Nat.zero_le _,rfl⟩ ?_ (fun _=>rfl) fun c ⟨hc,hR⟩=> ?_
  ·(refine And.intro ?_ (And.intro ?_ (And.intro ?_ rfl))<;>(conv=>whnf)<;>repeat' (first|exact trivial|exact LeE.of (Le.refl _)|(first|exact rfl|fail)|((with_reducible refine And.intro ?_ ?_)<;>conv=>whnf)))
  ·conv=>whnf
   repeat' (first|(refine Exists.intro _ (And.intro (aLen _ _ _) ?_); conv=>whnf)|(refine And.intro (fun h=> ?_) (fun h=> ?_)<;>(first|(with_reducible have hd:_<_:=of_decide_eq_true h)|(with_reducible have hd:¬ (_<_):=of_decide_eq_false h)|fail)<;>conv=>whnf)|((with_reducible refine DOr.l ?_); (conv=>whnf))|(refine And.intro ?_ ?_; (focus (first|(refine chainI ?_; (first|omega|fail))|fail)); conv=>whnf)|((with_reducible refine xc_pure ?_); conv=>whnf))
   ·have hca:c<nIt v:=by omega
    obtain ⟨x,hx,hm,he⟩:=rV_ex (l:=v.l) (c:=c) (by omega)
    rw [he]
    conv=>whnf
    repeat' (first|(refine Exists.intro _ (And.intro (chainI (ih x hm _ _ _ _)) ?_); conv=>whnf)|(refine And.intro (fun h=> ?_) (fun h=> ?_)<;>(first|skip)<;>conv=>whnf)|fail)
    ·exact leB (by rw [fitsR_eq,← hR,all_stop (items_get hca hx)]; rw [Bool.not_eq_true'] at h; rw [h]; simp only [*,Bool.false_eq_true,↓reduceIte,V.t]; rfl)
    ·refine ⟨c+1,⟨⟨by omega,?_⟩,by omega⟩,?_⟩
     ·rw [← hR,all_stop (items_get hca hx)]; rw [Bool.not_eq_false'] at h; rw [h]; rfl
     ·(refine And.intro ?_ (And.intro ?_ (And.intro ?_ rfl))<;>(conv=>whnf)<;>repeat' (first|exact trivial|exact LeE.of (Le.refl _)|(with_reducible refine LeE.of ?_)|(first|exact rfl|exact leI (by first|rfl|(rw [wrap64 (by omega) (by omega)]; omega)|fail)|fail)|((with_reducible refine And.intro ?_ ?_)<;>conv=>whnf)))
   ·obtain rfl:c=nIt v:=by omega
    exact leB (by rw [fitsR_eq,← hR,List.drop_of_length_le (by rw [items_len]; omega)]; simp only [*,Bool.false_eq_true,↓reduceIte,V.t]; rfl)
 all_goals exact leB (by rw [fitsR_eq]; (simp only [*,Bool.false_eq_true,↓reduceIte,V.t]; try rfl))
end Go.Proofs.YtaecnniddhikbaaGreatDoor
