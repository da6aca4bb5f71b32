/- Contracts of functions of the program,and the laws that stand on them: what each function answers,whatever its arguments. -/
import Derived.Test.YtiodgjgngfklkaaGreatDoorVw1
import Derived.Test.YtiodgjgngfklkaaGreatDoorVD
set_option linter.all false
set_option maxRecDepth 100000
set_option maxHeartbeats 8000000
namespace Go.Proofs.YtiodgjgngfklkaaGreatDoor
open Go Go.VA
theorem aClone (t:Bool)(l:List ByteArray)(hl:l.length≤4294967296):ACall Tryz.prog gl 100 [.c (.sl t 1 l.length (rS l))] [] (.c (.sl false 1 l.length (rS l))):=by
 have hby:l.length*(tb 9).bytes≤140737488355328:=by show l.length*16≤_; omega
 refine acall_of_vc htb hmix (f:=100) rfl rfl rfl (by kernel_rfl) rfl rfl ?_; conv=>whnf
 repeat' (first|(refine And.intro (fun h=> ?_) (fun h=> ?_)<;>(first|skip)<;>conv=>whnf)|((with_reducible refine NilOr.l ?_); conv=>whnf)|((with_reducible refine OwnOr.l ?_); (conv=>whnf))|(refine And.intro ?_ ?_; (focus (first|(first|assumption)|fail)); conv=>whnf)|fail)
 ·exact leSl0 rfl (h rfl)
 ·exact leSl rfl fun i _=>by rw [Nat.zero_add]
theorem aCopy (v:V):∀ (t t':Bool),v.sm=true→ACall Tryz.prog gl 72 [.ag (cVt t t' v)] [] (.ag (cV v)):=by
 induction v using V.ind with
 | h v ih =>
 intro t t' hsm
 obtain ⟨h1,h2,h3⟩:=V.sm_l hsm
 refine acall_of_vc htb hmix (f:=72) rfl rfl rfl (by kernel_rfl) rfl rfl ?_; conv=>whnf
 repeat' (first|(refine Exists.intro _ (And.intro (aClone _ _ h2) ?_); conv=>whnf)|((with_reducible refine xc_pure ?_); conv=>whnf))
 refine loopI Nat (fun c=>c≤v.l.length) (fun c=>[(15,intA .i64 c)]) (fun c=>[.box [.c (.v (.int .i64 v.k)),.c (.v (.int .i64 v.i)),.c (.v (.string v.s)),.own 2 8 0 c,.c (.sl false 1 v.ks.length (rS v.ks)),.c (.v (.int .i64 v.tk)),.c (.v (.int .i64 v.to)),.c (.v (.bool v.sec))],
  .box (boxC (tb 53).zero),.row 8 c (rV (v.l.take c))]) (fun c=>v.l.length-c) 0 (Nat.zero_le _) ?_ (fun _=>rfl) fun c hc=> ?_
 ·(refine And.intro ?_ (And.intro ?_ (And.intro ?_ rfl))<;>(conv=>whnf)<;>repeat' (first|exact trivial|exact LeE.of (Le.refl _)|exact LeE.nil rfl|(first|exact rfl|fail)|((with_reducible refine And.intro ?_ ?_)<;>conv=>whnf)))
 ·have hby:(c+1)*(tb 53).bytes≤140737488355328:=by show (c+1)*104≤_; omega
  have hlt:(v.l.take c).length=c:=by simp; omega
  conv=>whnf
  repeat' (first|(refine And.intro (fun h=> ?_) (fun h=> ?_)<;>(first|(with_reducible have hd:_<_:=of_decide_eq_true h)|(with_reducible have hd:¬ (_<_):=of_decide_eq_false h)|fail)<;>conv=>whnf)|(refine And.intro ?_ ?_; (focus (first|(refine chainI ?_; (first|omega|fail))|fail)); conv=>whnf)|fail)
  ·obtain ⟨x,hx,hm,he⟩:=rV_ex (l:=v.l) (c:=c) (by omega)
   rw [he]
   conv=>whnf
   repeat' (first|(refine Exists.intro _ (And.intro (chainI (ih x hm _ _ (h3 x hm))) ?_); conv=>whnf)|((with_reducible refine DOr.l ?_); (conv=>whnf))|(refine And.intro ?_ ?_; (focus (first|(first|assumption)|fail)); conv=>whnf)|fail)
   refine ⟨c+1,by omega,?_,by omega⟩
   (refine And.intro ?_ (And.intro ?_ (And.intro ?_ rfl))<;>(conv=>whnf)<;>repeat' (first|exact trivial|exact LeE.of (Le.refl _)|(with_reducible refine LeE.of ?_)|(first|exact rfl|exact leI (by first|rfl|(rw [wrap64 (by omega) (by omega)]; omega)|fail)|fail)|((with_reducible refine And.intro ?_ ?_)<;>conv=>whnf)))
   exact fun i hi=>LeCs.of_eq (by rw [take_snoc? hx]; have:=rV_snoc (l:=v.l.take c) (x:=x) (i:=i) (by omega); rw [hlt] at this; exact this)
  ·obtain rfl:c=v.l.length:=by omega
   exact leAg ⟨LeC.refl _,LeC.refl _,LeC.refl _,LeC.sl rfl fun i hi=>by rw [Nat.zero_add,List.take_length],LeC.refl _,LeC.refl _,LeC.refl _,LeC.refl _,trivial⟩
theorem aCmp_int (x y:Int):ACall Tryz.prog gl 135 [intA .i64 x,intA .i64 y] [] (intA .i64 (cmpI x y)):=by
 refine acall_of_vc htb hmix (f:=135) rfl rfl rfl (by kernel_rfl) rfl rfl ?_; conv=>whnf
 repeat' (first|(refine And.intro (fun h=> ?_) (fun h=> ?_)<;>(first|(with_reducible have hd:_<_:=of_decide_eq_true h)|(with_reducible have hd:¬ (_<_):=of_decide_eq_false h)|skip)<;>conv=>whnf)|(refine And.intro ?_ ?_; (focus (first|exact rfl|fail)); conv=>whnf)|((with_reducible refine xc_guard ?_); refine xc_in (f:=151) htb hmix rfl rfl rfl (by kernel_rfl) rfl ?_; intro vs; conv=>whnf)|fail)
 all_goals first
  | (exfalso; simp at *; done)
  | exact leI (by unfold cmpI; simp at *; omega)
theorem aCmp_int64 (x y:Int):ACall Tryz.prog gl 136 [intA .i64 x,intA .i64 y] [] (intA .i64 (cmpI x y)):=by
 refine acall_of_vc htb hmix (f:=136) rfl rfl rfl (by kernel_rfl) rfl rfl ?_; conv=>whnf
 repeat' (first|(refine And.intro (fun h=> ?_) (fun h=> ?_)<;>(first|(with_reducible have hd:_<_:=of_decide_eq_true h)|(with_reducible have hd:¬ (_<_):=of_decide_eq_false h)|skip)<;>conv=>whnf)|(refine And.intro ?_ ?_; (focus (first|exact rfl|fail)); conv=>whnf)|((with_reducible refine xc_guard ?_); refine xc_in (f:=152) htb hmix rfl rfl rfl (by kernel_rfl) rfl ?_; intro vs; conv=>whnf)|fail)
 all_goals first
  | (exfalso; simp at *; done)
  | exact leI (by unfold cmpI; simp at *; omega)
theorem aCmp_s (x y:ByteArray):ACall Tryz.prog gl 134 [.c (.v (.string x)),.c (.v (.string y))] [] (intA .i64 (cmpS x y)):=by
 refine acall_of_vc htb hmix (f:=134) rfl rfl rfl (by kernel_rfl) rfl rfl ?_; conv=>whnf
 repeat' (first|(refine And.intro (fun h=> ?_) (fun h=> ?_)<;>(first|skip)<;>conv=>whnf)|(refine And.intro ?_ ?_; (focus (first|exact rfl|fail)); conv=>whnf)|((with_reducible refine xc_guard ?_); refine xc_in (f:=150) htb hmix rfl rfl rfl (by kernel_rfl) rfl ?_; intro vs; conv=>whnf)|fail)
 all_goals first
  | (exfalso; simp at *; done)
  | exact leI (by unfold cmpS; split<;>(try split)<;>simp_all)
theorem aGreatV (v:V):∀ (t t':Bool) (d:Int),ACall Tryz.prog gl 29 [.ag (cVt t t' v),intA .i64 d] [] (intA .i64 (greatV v d)):=by
 induction v using V.ind with
 | h v ih =>
 intro t t' d
 refine acall_of_vcb htb hmix (f:=29) rfl rfl rfl (by kernel_rfl) rfl rfl fun hb=> ?_; simp only [bndAll,AV.bnd,bnds,C.bnd,cVt,cS,true_and,and_true] at hb; conv=>whnf
 repeat' (first|(refine And.intro (fun h=> ?_) (fun h=> ?_)<;>(first|skip)<;>conv=>whnf)|(refine And.intro ?_ ?_; (focus (first|(refine chainI ?_; (first|decide|fail))|fail)); conv=>whnf)|fail)
 ·exact leI (by rw [greatV_eq,if_pos h])
 ·have h1:greatV v d=(let n:=greatL d (v.l.map greatV) (greatK v.ks (great0 v)); if 601<n then 601 else n):=by rw [greatV_eq,if_neg (by rw [h]; simp)]
  refine loopI (Nat×Int) (fun p=>p.1≤v.ks.length∧greatK (v.ks.drop p.1) p.2=greatK v.ks (great0 v)) (fun p=>[(6,intA .i64 p.1),(5,intA .i64 p.2)]) (fun _=>[.box ((cVt t t' v).map AV.c)]) (fun p=>v.ks.length-p.1) (0,great0 v) ⟨Nat.zero_le _,rfl⟩ ?_ (fun _=>rfl) fun ⟨c,n⟩ ⟨hc,hR⟩=> ?_
  ·(refine And.intro ?_ (And.intro ?_ (And.intro ?_ rfl))<;>(conv=>whnf)<;>repeat' (first|exact trivial|exact LeE.of (Le.refl _)|(first|exact rfl|fail)|((with_reducible refine And.intro ?_ ?_)<;>conv=>whnf)))
  ·conv=>whnf
   repeat' (first|(refine And.intro (fun h=> ?_) (fun h=> ?_)<;>(first|skip)<;>conv=>whnf)|(refine And.intro ?_ ?_; (focus (first|(refine chainI ?_; (first|decide|fail))|((conv=>whnf); intros; (try simp only [decide_eq_true_eq,decide_eq_false_iff_not,Bool.and_eq_true,Bool.or_eq_true,Bool.and_eq_false_imp,Bool.or_eq_false_iff,Bool.not_eq_true',Bool.not_eq_false',beq_iff_eq,bne_iff_ne,ne_eq] at *); (first|omega|fail)))); conv=>whnf)|fail)
   ·simp only [Bool.and_eq_true,decide_eq_true_eq] at h hc hR
    obtain ⟨x,hx,hx'⟩:=nthS (l:=v.ks) (c:=c) (by omega)
    refine ⟨(c+1,IntKind.i64.wrap (n+IntKind.i64.wrap ((if (4000:Int)<x.size then 4000 else (x.size:Int)).tdiv 4))),⟨by show c+1≤_; omega,?_⟩,?_,by show v.ks.length-(c+1)<v.ks.length-c; omega⟩
    ·show greatK (v.ks.drop (c+1)) _=_
     rw [← hR,greatK_go hx h.2]
    ·rw [← hx']
     (refine And.intro ?_ (And.intro ?_ (And.intro ?_ rfl))<;>(conv=>whnf)<;>repeat' (first|exact trivial|exact LeE.of (Le.refl _)|(with_reducible refine LeE.of ?_)|(first|exact rfl|exact leI (by first|rfl|(rw [wrap64 (by omega) (by omega)]; omega)|fail)|fail)|((with_reducible refine And.intro ?_ ?_)<;>conv=>whnf)))
   ·have hn:n=greatK v.ks (great0 v):=by
     simp only [Bool.and_eq_false_iff,decide_eq_false_iff_not] at h hc hR
     rw [← hR]
     by_cases h6:n≤600
     ·rw [List.drop_of_length_le (by omega)]; rfl
     ·rw [greatK_stop (by simpa using h6)]
    subst hn
    clear h hR hc
    refine loopI (Nat×Int) (fun p=>p.1≤v.l.length∧greatL d ((v.l.map greatV).drop p.1) p.2=greatL d (v.l.map greatV) (greatK v.ks (great0 v))) (fun p=>[(7,intA .i64 p.1),(5,intA .i64 p.2)]) (fun _=>[.box ((cVt t t' v).map AV.c)]) (fun p=>v.l.length-p.1) (0,greatK v.ks (great0 v)) ⟨Nat.zero_le _,rfl⟩ ?_ (fun _=>rfl) fun ⟨c,n⟩ ⟨hc,hR⟩=> ?_
    ·(refine And.intro ?_ (And.intro ?_ (And.intro ?_ rfl))<;>(conv=>whnf)<;>repeat' (first|exact trivial|exact LeE.of (Le.refl _)|(first|exact rfl|fail)|((with_reducible refine And.intro ?_ ?_)<;>conv=>whnf)))
    ·conv=>whnf
     repeat' (first|(refine And.intro (fun h=> ?_) (fun h=> ?_)<;>(first|skip)<;>conv=>whnf)|(refine And.intro ?_ ?_; (focus (first|((conv=>whnf); intros; (try simp only [decide_eq_true_eq,decide_eq_false_iff_not,Bool.and_eq_true,Bool.or_eq_true,Bool.and_eq_false_imp,Bool.or_eq_false_iff,Bool.not_eq_true',Bool.not_eq_false',beq_iff_eq,bne_iff_ne,ne_eq] at *); (first|omega|fail)))); conv=>whnf)|fail)
     ·simp only [Bool.and_eq_true,decide_eq_true_eq] at h hc hR
      obtain ⟨x,hx,hm,he⟩:=rV_ex (l:=v.l) (c:=c) (by omega)
      rw [he]; conv=>whnf
      repeat' (first|(refine Exists.intro _ (And.intro (ih x hm _ _ _) ?_); conv=>whnf)|((with_reducible refine xc_pure ?_); conv=>whnf))
      refine ⟨(c+1,IntKind.i64.wrap (n+greatV x (IntKind.i64.wrap (d-1)))),⟨by show c+1≤_; omega,?_⟩,?_,by show v.l.length-(c+1)<v.l.length-c; omega⟩
      ·show greatL d ((v.l.map greatV).drop (c+1)) _=_
       rw [← hR,greatL_go (r:=greatV x) (by rw [List.getElem?_map,hx]; rfl) h.2]
      ·(refine And.intro ?_ (And.intro ?_ (And.intro ?_ rfl))<;>(conv=>whnf)<;>repeat' (first|exact trivial|exact LeE.of (Le.refl _)|(with_reducible refine LeE.of ?_)|(first|exact rfl|exact leI (by first|rfl|(rw [wrap64 (by omega) (by omega)]; omega)|fail)|fail)|((with_reducible refine And.intro ?_ ?_)<;>conv=>whnf)))
     ·have hn:n=greatL d (v.l.map greatV) (greatK v.ks (great0 v)):=by
       simp only [Bool.and_eq_false_iff,decide_eq_false_iff_not] at h hc hR
       rw [← hR]
       by_cases h6:n≤600
       ·rw [List.drop_of_length_le (by simp; omega)]; rfl
       ·rw [greatL_stop (by simpa using h6)]
      exact leI (by rw [h1,hn])
theorem aGreat (t t':Bool)(v:V):ACall Tryz.prog gl 13 [.ag (cVt t t' v)] [] (boolA (decide (greatV v 10>600))):=by
 refine acall_of_vc htb hmix (f:=13) rfl rfl rfl (by kernel_rfl) rfl rfl ?_; conv=>whnf
 repeat' (first|(refine Exists.intro _ (And.intro (aGreatV _ _ _ _) ?_); conv=>whnf)|((with_reducible refine xc_pure ?_); conv=>whnf))
 exact Le.refl _
end Go.Proofs.YtiodgjgngfklkaaGreatDoor
