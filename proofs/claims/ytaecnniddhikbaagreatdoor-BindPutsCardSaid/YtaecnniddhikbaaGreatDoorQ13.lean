/- What functions of the program answer,whatever their arguments. -/
import Derived.Test.YtaecnniddhikbaaGreatDoorQ12
set_option linter.unusedSectionVars false
set_option linter.unnecessarySimpa false
set_option linter.unusedSimpArgs false
set_option linter.unusedVariables false
set_option maxRecDepth 100000
set_option maxHeartbeats 8000000
namespace Go.Proofs.YtaecnniddhikbaaGreatDoor
open Go Go.VA
theorem seSm:StructEq Tryz.prog 23 [4,4,4,4,4,4,4,4,4,4,4,4,4,4,4,4,4,4,4,4,4,4,4,4,4,4,4,4,4,4,4,4]:=structEq_of (d:=5) (by kernel_rfl)
theorem seSp:StructEq Tryz.prog 61 [8,8,3,3,8,6,4,4,4,4,4,4,4,4,4,4,4,4,4,4,4,4,4,4,4,4,4,4,4,4,4,4,4,4,4,4,4,4]:=structEq_of (d:=5) (by kernel_rfl)
def sQ (a b:Nat→UInt8):Nat→Nat→Bool
 | 0,i=>((a i).toNat:Int)==((b i).toNat:Int)
 | n+1,i=>((a i).toNat:Int)==((b i).toNat:Int)&&sQ a b n (i+1)
def sumQ (a b:Nat→UInt8):Bool:=sQ a b 31 0
def spEq (a b:Sp):Bool:=a.y.a.t==b.y.a.t&&(a.y.a.n==b.y.a.n&&(a.y.a.k==b.y.a.k&&(a.y.a.i==b.y.a.i&&(a.y.a.s==b.y.a.s&&(a.y.n==b.y.n&&sumQ a.s b.s)))))
def spR (a b:List Sp) (j:Nat):Bool:=spEq (a.getD j sp0) (b.getD j sp0)
def hdQ (a b:List Int) (j:Nat):Bool:=a.getD j 0==b.getD j 0
def acF (a b:Ac):Bool:=a.k==b.k&&eqK a.y b.y&&sameR a.p b.p true&&sameR a.w b.w true&&decide (a.h.length=b.h.length)
def acSm (a b:Ac):Bool:=acF a b&&allQ (hdQ a.h b.h) a.h.length
def acM (a b:List Ac) (j:Nat):Bool:=acSm (a.getD j ac0) (b.getD j ac0)
def plF (a b:Pl):Bool:=sumQ a.c b.c&&a.a==b.a&&a.s==b.s&&bdsB a.b b.b&&decide (a.t.length=b.t.length)&&decide (a.x.length=b.x.length)
def sameP (a b:Pl):Bool:=plF a b&&allQ (spR a.t b.t) a.t.length&&allQ (acM a.x b.x) a.x.length
theorem plF_eq (a b:Pl)(q:Bool)(h:(!sumQ a.c b.c||a.a != b.a||a.s != b.s|| !bdsB a.b b.b||(a.t.length:Int) != (b.t.length:Int)||(a.x.length:Int) != (b.x.length:Int))=q):plF a b= !q:=by
 rw [len_ne,len_ne] at h
 subst h
 unfold plF bne
 cases sumQ a.c b.c<;>cases a.a==b.a<;>cases a.s==b.s<;>cases bdsB a.b b.b<;>cases decide (a.t.length=b.t.length)<;>cases decide (a.x.length=b.x.length)<;>rfl
theorem acF_eq (a b:Ac)(q:Bool)(h:(a.k != b.k|| !eqK a.y b.y|| !sameR a.p b.p true|| !sameR a.w b.w true||(a.h.length:Int) != (b.h.length:Int))=q):acF a b= !q:=by
 rw [len_ne] at h
 subst h
 unfold acF bne
 cases a.k==b.k<;>cases eqK a.y b.y<;>cases sameR a.p b.p true<;>cases sameR a.w b.w true<;>cases decide (a.h.length=b.h.length)<;>rfl
theorem bnd_pl {p:Pl}(h:bnds (cPl false false false p)):p.t.length≤140737488355328∧p.x.length≤140737488355328∧∀ j,j<p.x.length→bnds (cAc (p.x.getD j ac0)):=by
 have e:cPl false false false p=sumC p.c++cPt false false false p:=rfl
 simp only [cPl,sumC,cPt,List.cons_append,List.nil_append,bnds,C.bnd,true_and,and_true] at h
 exact ⟨h.2.1.1,h.2.2.1,h.2.2.2⟩
theorem aSamePlan (a b:Pl):ACall Tryz.prog gl 45 [.ag (cPl false false false a),.ag (cPl false false false b)] [] (boolA (sameP a b)):=by
 have B:=aSameBinds false false a.b b.b
 refine acall_of_vcb htb hmix (f:=45) rfl rfl rfl (by kernel_rfl) rfl rfl fun hb=> ?_; simp only [bndAll,AV.bnd,bnds,C.bnd,cVt,cS,true_and,and_true] at hb; conv=>whnf
 repeat' (first|((with_reducible refine GOr.l ?_); (conv=>whnf); refine Exists.intro _ (And.intro (chainI (B)) ?_); conv=>whnf)|(refine And.intro (fun h=> ?_) (fun h=> ?_)<;>(first|skip)<;>(first|(conv=>whnf)))|((with_reducible refine FzOr.r ?_); conv=>whnf)|(refine And.intro ?_ ?_; (focus (first|(first|exact seSm|fail)|fail)); conv=>whnf)|fail)
 ·have h:(!sumQ a.c b.c||a.a != b.a||a.s != b.s|| !bdsB a.b b.b||(a.t.length:Int) != (b.t.length:Int)||(a.x.length:Int) != (b.x.length:Int))=true:=h
  exact leB (by unfold sameP; rw [plF_eq a b true h]; rfl)
 ·have h:(!sumQ a.c b.c||a.a != b.a||a.s != b.s|| !bdsB a.b b.b||(a.t.length:Int) != (b.t.length:Int)||(a.x.length:Int) != (b.x.length:Int))=false:=h
  have hp:=plF_eq a b false h
  have e0:sameP a b=(allQ (spR a.t b.t) a.t.length&&allQ (acM a.x b.x) a.x.length):=by
   unfold sameP
   rw [hp,Bool.not_false,Bool.true_and]
  rw [e0]
  have hl:a.t.length=b.t.length∧a.x.length=b.x.length:=by
   unfold plF at hp
   simp only [Bool.not_false,Bool.and_eq_true,decide_eq_true_eq] at hp
   exact ⟨hp.1.2,hp.2⟩
  obtain ⟨hl1,hl2⟩:=hl
  obtain ⟨n1',n2',n3'⟩:=bnd_pl hb.1
  clear h hp e0 B
  refine loopI Nat (fun c=>c≤a.t.length∧∀ j,j<c→spR a.t b.t j=true) (fun c=>[(5,intA .i64 c)]) (fun _=>[.dead,.dead]) (fun c=>a.t.length-c) 0 ⟨Nat.zero_le _,fun j hj=>absurd hj (Nat.not_lt_zero _)⟩ ?_ (fun _=>rfl) fun c ⟨hc,hp⟩=> ?_
  ·(refine And.intro ?_ (And.intro ?_ (And.intro ?_ rfl))<;>(conv=>whnf)<;>repeat' (first|exact trivial|exact LeE.of (Le.refl _)|(first|exact rfl|fail)|((with_reducible refine And.intro ?_ ?_)<;>conv=>whnf)))
  ·by_cases hcl:c<a.t.length
   ·have hC:(0:Int)≤(c:Int)∧(c:Int)<(a.t.length:Int):=by omega
    have hC2:(0:Int)≤(c:Int)∧(c:Int)<(b.t.length:Int):=by omega
    conv=>whnf
    repeat' (first|(refine And.intro (fun h=> ?_) (fun h=> ?_)<;>(first|(with_reducible have hd:_<_:=of_decide_eq_true h)|(with_reducible have hd:¬ (_<_):=of_decide_eq_false h)|skip)<;>(first|(first|omega)|(conv=>whnf)))|(refine And.intro ?_ ?_; (focus (first|(first|exact seSp|exact hC2|exact hC|fail)|fail)); conv=>whnf)|fail)
    ·have h:(!spR a.t b.t c)=true:=h
     refine leB ?_
     rw [allQ_f hcl (by simpa using h)]; rfl
    ·have h:(!spR a.t b.t c)=false:=h
     refine ⟨c+1,⟨hcl,next_q hp (by simpa using h)⟩,?_,by omega⟩
     (refine And.intro ?_ (And.intro ?_ (And.intro ?_ rfl))<;>(conv=>whnf)<;>repeat' (first|exact trivial|exact LeE.of (Le.refl _)|(with_reducible refine LeE.of ?_)|(first|exact rfl|exact leI (by first|rfl|(rw [wrap64 (by omega) (by omega)]; omega)|fail)|fail)|((with_reducible refine And.intro ?_ ?_)<;>conv=>whnf)))
   ·obtain rfl:c=a.t.length:=by omega
    have ht:=allQ_t hp
    rw [ht,Bool.true_and]
    conv=>whnf
    repeat' (first|(refine And.intro (fun h=> ?_) (fun h=> ?_)<;>(first|(with_reducible have hd:_<_:=of_decide_eq_true h)|(with_reducible have hd:¬ (_<_):=of_decide_eq_false h)|fail)<;>(first|(first|omega)|(conv=>whnf)))|fail)
    refine loopI Nat (fun c=>c≤a.x.length∧∀ j,j<c→acM a.x b.x j=true) (fun c=>[(6,intA .i64 c)]) (fun _=>[.dead,.dead]) (fun c=>a.x.length-c) 0 ⟨Nat.zero_le _,fun j hj=>absurd hj (Nat.not_lt_zero _)⟩ ?_ (fun _=>rfl) fun c ⟨hc,hp⟩=> ?_
    ·(refine And.intro ?_ (And.intro ?_ (And.intro ?_ rfl))<;>(conv=>whnf)<;>repeat' (first|exact trivial|exact LeE.of (Le.refl _)|(first|exact rfl|fail)|((with_reducible refine And.intro ?_ ?_)<;>conv=>whnf)))
    ·by_cases hcl:c<a.x.length
     ·have hC:(0:Int)≤(c:Int)∧(c:Int)<(a.x.length:Int):=by omega
      have hC2:(0:Int)≤(c:Int)∧(c:Int)<(b.x.length:Int):=by omega
      have S1:=aSameR (a.x.getD c ac0).p (b.x.getD c ac0).p false false false false true
      have S2:=aSameR (a.x.getD c ac0).w (b.x.getD c ac0).w false false false false true
      conv=>whnf
      repeat' (first|((with_reducible refine GOr.l ?_); (conv=>whnf); refine Exists.intro _ (And.intro (chainI (S1)) ?_); conv=>whnf)|((with_reducible refine GOr.l ?_); (conv=>whnf); refine Exists.intro _ (And.intro (chainI (S2)) ?_); conv=>whnf)|(refine And.intro (fun h=> ?_) (fun h=> ?_)<;>(first|(with_reducible have hd:_<_:=of_decide_eq_true h)|(with_reducible have hd:¬ (_<_):=of_decide_eq_false h)|skip)<;>(first|(first|omega)|(conv=>whnf)))|((with_reducible refine Both.mk ?_ ?_)<;>conv=>whnf)|((with_reducible refine FzOr.r ?_); conv=>whnf)|((with_reducible apply Drawn.one); conv=>whnf)|((with_reducible refine Then.mk' ?_); conv=>whnf)|(first|exact RefS.self rfl|((with_reducible refine RefS.mk ?_ ?_); (focus (refine And.intro ?_ (And.intro ?_ (And.intro ?_ rfl))<;>(conv=>whnf)<;>repeat' (first|exact trivial|exact LeE.of (Le.refl _)|(first|exact rfl|fail)|((with_reducible refine And.intro ?_ ?_)<;>conv=>whnf)))); exact rfl))|(refine And.intro ?_ ?_; (focus (first|(first|exact seKy|exact hC2|exact hC|fail)|fail)); conv=>whnf)|fail)
      ·have h:=acF_eq (a.x.getD c ac0) (b.x.getD c ac0) true h
       refine leB ?_
       rw [allQ_f hcl (show acM a.x b.x c=false by unfold acM acSm; rw [h]; rfl)]
      ·have hF:=acF_eq (a.x.getD c ac0) (b.x.getD c ac0) false h
       have hlh:(a.x.getD c ac0).h.length=(b.x.getD c ac0).h.length:=by
        unfold acF at hF
        simp only [Bool.not_false,Bool.and_eq_true,decide_eq_true_eq] at hF
        exact hF.2
       have hbn:=bnd_ac (n3' c hcl)
       refine loopI Nat (fun k=>k≤(a.x.getD c ac0).h.length∧∀ j,j<k→hdQ (a.x.getD c ac0).h (b.x.getD c ac0).h j=true) (fun k=>[(9,intA .i64 k)]) (fun _=>[.dead,.dead,.dead,.dead]) (fun k=>(a.x.getD c ac0).h.length-k) 0 ⟨Nat.zero_le _,fun j hj=>absurd hj (Nat.not_lt_zero _)⟩ ?_ (fun _=>rfl) fun k ⟨hk,hq⟩=> ?_
       ·(refine And.intro ?_ (And.intro ?_ (And.intro ?_ rfl))<;>(conv=>whnf)<;>repeat' (first|exact trivial|exact LeE.of (Le.refl _)|(first|exact rfl|fail)|((with_reducible refine And.intro ?_ ?_)<;>conv=>whnf)))
       ·by_cases hkl:k<(a.x.getD c ac0).h.length
        ·have hC:(0:Int)≤(k:Int)∧(k:Int)<((a.x.getD c ac0).h.length:Int):=by omega
         have hC2:(0:Int)≤(k:Int)∧(k:Int)<((b.x.getD c ac0).h.length:Int):=by omega
         have hqq:decide ((k:Int)<((a.x.getD (c:Int).toNat ac0).h.length:Int))=true:=by rw [Int.toNat_natCast]; exact decide_eq_true (by omega)
         conv=>whnf
         repeat' (first|(refine And.intro (fun h=> ?_) (fun h=> ?_)<;>(first|(with_reducible have hd:_<_:=of_decide_eq_true h)|(with_reducible have hd:¬ (_<_):=of_decide_eq_false h)|skip)<;>(first|(first|exact Bool.noConfusion (hqq.symm.trans h)|fail)|(conv=>whnf)))|(refine And.intro ?_ ?_; (focus (first|(first|exact hC2|exact hC|fail)|fail)); conv=>whnf)|fail)
         ·have h3:(!hdQ (a.x.getD c ac0).h (b.x.getD c ac0).h k)=true:=h
          refine leB ?_
          rw [allQ_f hcl (show acM a.x b.x c=false by unfold acM acSm; rw [allQ_f hkl (by simpa using h3),Bool.and_false])]
         ·have h3:(!hdQ (a.x.getD c ac0).h (b.x.getD c ac0).h k)=false:=h
          refine ⟨k+1,⟨hkl,next_q hq (by simpa using h3)⟩,?_,by omega⟩
          (refine And.intro ?_ (And.intro ?_ (And.intro ?_ rfl))<;>(conv=>whnf)<;>repeat' (first|exact trivial|exact LeE.of (Le.refl _)|(with_reducible refine LeE.of ?_)|(first|exact rfl|exact leI (by first|rfl|(rw [wrap64 (by omega) (by omega)]; omega)|fail)|fail)|((with_reducible refine And.intro ?_ ?_)<;>conv=>whnf)))
        ·obtain rfl:k=(a.x.getD c ac0).h.length:=by omega
         have hqq:decide (((a.x.getD c ac0).h.length:Int)<((a.x.getD (c:Int).toNat ac0).h.length:Int))=false:=by rw [Int.toNat_natCast]; exact decide_eq_false (by omega)
         conv=>whnf
         repeat' (first|(refine And.intro (fun h=> ?_) (fun h=> ?_)<;>(first|(with_reducible have hd:_<_:=of_decide_eq_true h)|(with_reducible have hd:¬ (_<_):=of_decide_eq_false h)|fail)<;>(first|(first|exact Bool.noConfusion (hqq.symm.trans h)|fail)|(conv=>whnf)))|fail)
         refine ⟨c+1,⟨hcl,next_q hp ?_⟩,?_,by omega⟩
         ·unfold acM acSm
          rw [hF,allQ_t hq]; rfl
         ·(refine And.intro ?_ (And.intro ?_ (And.intro ?_ rfl))<;>(conv=>whnf)<;>repeat' (first|exact trivial|exact LeE.of (Le.refl _)|(with_reducible refine LeE.of ?_)|(first|exact rfl|exact leI (by first|rfl|(rw [wrap64 (by omega) (by omega)]; omega)|fail)|fail)|((with_reducible refine And.intro ?_ ?_)<;>conv=>whnf)))
     ·obtain rfl:c=a.x.length:=by omega
      have hx:=allQ_t hp
      conv=>whnf
      repeat' (first|(refine And.intro (fun h=> ?_) (fun h=> ?_)<;>(first|(with_reducible have hd:_<_:=of_decide_eq_true h)|(with_reducible have hd:¬ (_<_):=of_decide_eq_false h)|fail)<;>(first|(first|omega)|(conv=>whnf)))|fail)
      exact leB hx.symm
end Go.Proofs.YtaecnniddhikbaaGreatDoor
