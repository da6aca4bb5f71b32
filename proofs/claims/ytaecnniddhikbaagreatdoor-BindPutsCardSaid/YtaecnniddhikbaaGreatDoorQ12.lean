/- What functions of the program answer,whatever their arguments. -/
import Derived.Test.YtaecnniddhikbaaGreatDoorR3
import Derived.Test.YtaecnniddhikbaaGreatDoorQ10
set_option linter.unusedSectionVars false
set_option linter.unnecessarySimpa false
set_option linter.unusedSimpArgs false
set_option linter.unusedVariables false
set_option maxRecDepth 100000
set_option maxHeartbeats 8000000
namespace Go.Proofs.YtaecnniddhikbaaGreatDoor
open Go Go.VA
def bdQ (a b:List Bd) (j:Nat):Bool:=eqs (a.getD j bd0).n (b.getD j bd0).n&&sameR (a.getD j bd0).v (b.getD j bd0).v true
def bdsB (a b:List Bd):Bool:=decide (a.length=b.length)&&allQ (bdQ a b) a.length
theorem aSameBinds (u v:Bool)(a b:List Bd):ACall Tryz.prog gl 84 [.c (.sl u 9 a.length (rBd a)),.c (.sl v 9 b.length (rBd b))] [] (boolA (bdsB a b)):=by
 refine acall_of_vcb htb hmix (f:=84) rfl rfl rfl (by kernel_rfl) rfl rfl fun hb=> ?_; simp only [bndAll,AV.bnd,bnds,C.bnd,cVt,cS,true_and,and_true] at hb; conv=>whnf
 have hn:a.length≤140737488355328:=hb.1.1
 repeat' (first|(refine And.intro (fun h=> ?_) (fun h=> ?_)<;>(first|skip)<;>(first|(conv=>whnf)))|fail)
 ·have h:((a.length:Int) != (b.length:Int))=true:=h
  rw [len_ne] at h
  refine leB ?_
  unfold bdsB
  revert h
  cases decide (a.length=b.length)<;>simp
 ·have h:((a.length:Int) != (b.length:Int))=false:=h
  rw [len_ne] at h
  have hk:a.length=b.length:=by simpa using h
  have e:bdsB a b=allQ (bdQ a b) a.length:=by
   unfold bdsB
   rw [decide_eq_true hk]; rfl
  rw [e]
  refine loopI Nat (fun c=>c≤a.length∧∀ j,j<c→bdQ a b j=true) (fun c=>[(5,intA .i64 c)]) (fun _=>[]) (fun c=>a.length-c) 0 ⟨Nat.zero_le _,fun j hj=>absurd hj (Nat.not_lt_zero _)⟩ ?_ (fun _=>rfl) fun c ⟨hc,hp⟩=> ?_
  ·(refine And.intro ?_ (And.intro ?_ (And.intro ?_ rfl))<;>(conv=>whnf)<;>repeat' (first|exact trivial|exact LeE.of (Le.refl _)|(first|exact rfl|fail)|((with_reducible refine And.intro ?_ ?_)<;>conv=>whnf)))
  ·by_cases hcl:c<a.length
   ·have hC:(0:Int)≤(c:Int)∧(c:Int)<(a.length:Int):=by omega
    have hC2:(0:Int)≤(c:Int)∧(c:Int)<(b.length:Int):=by omega
    have V:=aSameR (a.getD c bd0).v (b.getD c bd0).v false false false false true
    conv=>whnf
    repeat' (first|(refine Exists.intro _ (And.intro (chainI (V)) ?_); conv=>whnf)|(refine And.intro (fun h=> ?_) (fun h=> ?_)<;>(first|(with_reducible have hd:_<_:=of_decide_eq_true h)|(with_reducible have hd:¬ (_<_):=of_decide_eq_false h)|skip)<;>(first|omega|(conv=>whnf)))|((with_reducible refine DOg.l ?_); (conv=>whnf))|(refine And.intro ?_ ?_; (focus (first|(first|exact hC2|exact chainI hC2|exact hC|exact chainI hC|fail)|fail)); conv=>whnf)|fail)
    ·have h:(!eqs (a.getD c bd0).n (b.getD c bd0).n|| !sameR (a.getD c bd0).v (b.getD c bd0).v true)=true:=h
     refine leB (allQ_f hcl ?_).symm
     unfold bdQ
     revert h
     cases eqs (a.getD c bd0).n (b.getD c bd0).n<;>cases sameR (a.getD c bd0).v (b.getD c bd0).v true<;>simp
    ·have h:(!eqs (a.getD c bd0).n (b.getD c bd0).n|| !sameR (a.getD c bd0).v (b.getD c bd0).v true)=false:=h
     refine ⟨c+1,⟨hcl,next_q hp ?_⟩,?_,by omega⟩
     ·unfold bdQ
      revert h
      cases eqs (a.getD c bd0).n (b.getD c bd0).n<;>cases sameR (a.getD c bd0).v (b.getD c bd0).v true<;>simp
     ·(refine And.intro ?_ (And.intro ?_ (And.intro ?_ rfl))<;>(conv=>whnf)<;>repeat' (first|exact trivial|exact LeE.of (Le.refl _)|(with_reducible refine LeE.of ?_)|(first|exact rfl|exact leI (by first|rfl|(rw [wrap64 (by omega) (by omega)]; omega)|fail)|fail)|((with_reducible refine And.intro ?_ ?_)<;>conv=>whnf)))
   ·obtain rfl:c=a.length:=by omega
    conv=>whnf
    repeat' (first|(refine And.intro (fun h=> ?_) (fun h=> ?_)<;>(first|(with_reducible have hd:_<_:=of_decide_eq_true h)|(with_reducible have hd:¬ (_<_):=of_decide_eq_false h)|fail)<;>(first|omega|(conv=>whnf)))|fail)
    exact leB (allQ_t hp).symm
def gdP (a:Ad):Bool:=decide (IntKind.i64.wrap (IntKind.i64.wrap ((a.t.size:Int)+(a.n.size:Int))+(a.s.size:Int))>300)
def gbQ (l:List Bd) (j:Nat):Bool:= !(decide (((l.getD j bd0).n.size:Int)>100)||decide (greatV (l.getD j bd0).v 10>600))
def gtQ (l:List Sp) (j:Nat):Bool:= !gdP (l.getD j sp0).y.a
def gxQ (l:List Ac) (j:Nat):Bool:= !(gdP (l.getD j ac0).y.a||decide (greatV (l.getD j ac0).p 10>600)||decide (greatV (l.getD j ac0).w 10>600)||decide (((l.getD j ac0).h.length:Int)>80))
def ghB (p:Pl):Bool:=decide ((p.b.length:Int)>140)||decide ((p.t.length:Int)>70)||decide ((p.x.length:Int)>70)
def greatP (p:Pl):Bool:=ghB p|| !allQ (gbQ p.b) p.b.length|| !allQ (gtQ p.t) p.t.length|| !allQ (gxQ p.x) p.x.length
theorem aGreatP (u v w:Bool)(p:Pl):ACall Tryz.prog gl 6 [.ag (cPl u v w p)] [] (boolA (greatP p)):=by
 refine acall_of_vcb htb hmix (f:=6) rfl rfl rfl (by kernel_rfl) rfl rfl fun hb=> ?_; simp only [bndAll,AV.bnd,bnds,C.bnd,cVt,cS,true_and,and_true] at hb; conv=>whnf
 repeat' (first|(refine And.intro (fun h=> ?_) (fun h=> ?_)<;>(first|skip)<;>(first|(conv=>whnf)))|((with_reducible refine FzOr.l ?_); conv=>whnf)|fail)
 ·have h:ghB p=true:=h
  exact leB (by unfold greatP; rw [h]; rfl)
 ·have h:ghB p=false:=h
  have hg:p.b.length≤140∧p.t.length≤70∧p.x.length≤70:=by
   unfold ghB at h
   simp only [Bool.or_eq_false_iff,decide_eq_false_iff_not] at h
   omega
  obtain ⟨g1,g2,g3⟩:=hg
  refine loopI Nat (fun c=>c≤p.b.length∧∀ j,j<c→gbQ p.b j=true) (fun c=>[(3,intA .i64 c)]) (fun _=>[.box ((cPl u v w p).map .c)]) (fun c=>p.b.length-c) 0 ⟨Nat.zero_le _,fun j hj=>absurd hj (Nat.not_lt_zero _)⟩ ?_ (fun _=>rfl) fun c ⟨hc,hp1⟩=> ?_
  ·(refine And.intro ?_ (And.intro ?_ (And.intro ?_ rfl))<;>(conv=>whnf)<;>repeat' (first|exact trivial|exact LeE.of (Le.refl _)|(first|exact rfl|fail)|((with_reducible refine And.intro ?_ ?_)<;>conv=>whnf)))
  ·by_cases hcl:c<p.b.length
   ·have hC:(0:Int)≤(c:Int)∧(c:Int)<(p.b.length:Int):=by omega
    have G:=aGreat false false (p.b.getD c bd0).v
    have hh:=h
    clear h
    conv=>whnf
    repeat' (first|((with_reducible refine GOr.l ?_); (conv=>whnf); refine Exists.intro _ (And.intro (chainI (G)) ?_); conv=>whnf)|(refine And.intro (fun h=> ?_) (fun h=> ?_)<;>(first|(with_reducible have hd:_<_:=of_decide_eq_true h)|(with_reducible have hd:¬ (_<_):=of_decide_eq_false h)|skip)<;>(first|omega|(conv=>whnf)))|(refine And.intro ?_ ?_; (focus (first|(first|exact hC|exact chainI hC|fail)|fail)); conv=>whnf)|fail)
    ·have h:(decide (((p.b.getD c bd0).n.size:Int)>100)||decide (greatV (p.b.getD c bd0).v 10>600))=true:=h
     refine leB ?_
     unfold greatP
     rw [allQ_f hcl (show gbQ p.b c=false by unfold gbQ; rw [h]; rfl)]; simp
    ·have h:(decide (((p.b.getD c bd0).n.size:Int)>100)||decide (greatV (p.b.getD c bd0).v 10>600))=false:=h
     refine ⟨c+1,⟨hcl,next_q hp1 (by unfold gbQ; rw [h]; rfl)⟩,?_,by omega⟩
     (refine And.intro ?_ (And.intro ?_ (And.intro ?_ rfl))<;>(conv=>whnf)<;>repeat' (first|exact trivial|exact LeE.of (Le.refl _)|(with_reducible refine LeE.of ?_)|(first|exact rfl|exact leI (by first|rfl|(rw [wrap64 (by omega) (by omega)]; omega)|fail)|fail)|((with_reducible refine And.intro ?_ ?_)<;>conv=>whnf)))
   ·obtain rfl:c=p.b.length:=by omega
    have k1:=allQ_t hp1
    have hh:=h
    clear h
    conv=>whnf
    repeat' (first|(refine And.intro (fun h=> ?_) (fun h=> ?_)<;>(first|(with_reducible have hd:_<_:=of_decide_eq_true h)|(with_reducible have hd:¬ (_<_):=of_decide_eq_false h)|fail)<;>(first|omega|(conv=>whnf)))|fail)
    refine loopI Nat (fun c=>c≤p.t.length∧∀ j,j<c→gtQ p.t j=true) (fun c=>[(4,intA .i64 c)]) (fun _=>[.box ((cPl u v w p).map .c)]) (fun c=>p.t.length-c) 0 ⟨Nat.zero_le _,fun j hj=>absurd hj (Nat.not_lt_zero _)⟩ ?_ (fun _=>rfl) fun c ⟨hc,hp2⟩=> ?_
    ·(refine And.intro ?_ (And.intro ?_ (And.intro ?_ rfl))<;>(conv=>whnf)<;>repeat' (first|exact trivial|exact LeE.of (Le.refl _)|(first|exact rfl|fail)|((with_reducible refine And.intro ?_ ?_)<;>conv=>whnf)))
    ·by_cases hcl:c<p.t.length
     ·have hC:(0:Int)≤(c:Int)∧(c:Int)<(p.t.length:Int):=by omega
      conv=>whnf
      repeat' (first|(refine And.intro (fun h=> ?_) (fun h=> ?_)<;>(first|(with_reducible have hd:_<_:=of_decide_eq_true h)|(with_reducible have hd:¬ (_<_):=of_decide_eq_false h)|fail)<;>(first|omega|(conv=>whnf)))|(refine And.intro ?_ ?_; (focus (first|(first|exact hC|fail)|fail)); conv=>whnf)|fail)
      ·have h:gdP (p.t.getD c sp0).y.a=true:=h
       refine leB ?_
       unfold greatP
       rw [allQ_f hcl (show gtQ p.t c=false by unfold gtQ; rw [h]; rfl)]; simp
      ·have h:gdP (p.t.getD c sp0).y.a=false:=h
       refine ⟨c+1,⟨hcl,next_q hp2 (by unfold gtQ; rw [h]; rfl)⟩,?_,by omega⟩
       (refine And.intro ?_ (And.intro ?_ (And.intro ?_ rfl))<;>(conv=>whnf)<;>repeat' (first|exact trivial|exact LeE.of (Le.refl _)|(with_reducible refine LeE.of ?_)|(first|exact rfl|exact leI (by first|rfl|(rw [wrap64 (by omega) (by omega)]; omega)|fail)|fail)|((with_reducible refine And.intro ?_ ?_)<;>conv=>whnf)))
     ·obtain rfl:c=p.t.length:=by omega
      have k2:=allQ_t hp2
      conv=>whnf
      repeat' (first|(refine And.intro (fun h=> ?_) (fun h=> ?_)<;>(first|(with_reducible have hd:_<_:=of_decide_eq_true h)|(with_reducible have hd:¬ (_<_):=of_decide_eq_false h)|fail)<;>(first|omega|(conv=>whnf)))|fail)
      refine loopI Nat (fun c=>c≤p.x.length∧∀ j,j<c→gxQ p.x j=true) (fun c=>[(6,intA .i64 c)]) (fun _=>[.box ((cPl u v w p).map .c)]) (fun c=>p.x.length-c) 0 ⟨Nat.zero_le _,fun j hj=>absurd hj (Nat.not_lt_zero _)⟩ ?_ (fun _=>rfl) fun c ⟨hc,hp3⟩=> ?_
      ·(refine And.intro ?_ (And.intro ?_ (And.intro ?_ rfl))<;>(conv=>whnf)<;>repeat' (first|exact trivial|exact LeE.of (Le.refl _)|(first|exact rfl|fail)|((with_reducible refine And.intro ?_ ?_)<;>conv=>whnf)))
      ·by_cases hcl:c<p.x.length
       ·have hC:(0:Int)≤(c:Int)∧(c:Int)<(p.x.length:Int):=by omega
        have G1:=aGreat false false (p.x.getD c ac0).p
        have G2:=aGreat false false (p.x.getD c ac0).w
        conv=>whnf
        repeat' (first|((with_reducible refine GOr.l ?_); (conv=>whnf); refine Exists.intro _ (And.intro (chainI (G1)) ?_); conv=>whnf)|((with_reducible refine GOr.l ?_); (conv=>whnf); refine Exists.intro _ (And.intro (chainI (G2)) ?_); conv=>whnf)|(refine And.intro (fun h=> ?_) (fun h=> ?_)<;>(first|(with_reducible have hd:_<_:=of_decide_eq_true h)|(with_reducible have hd:¬ (_<_):=of_decide_eq_false h)|skip)<;>(first|omega|(conv=>whnf)))|(refine And.intro ?_ ?_; (focus (first|(first|exact hC|exact chainI hC|fail)|fail)); conv=>whnf)|fail)
        ·have h:(gdP (p.x.getD c ac0).y.a||decide (greatV (p.x.getD c ac0).p 10>600)||decide (greatV (p.x.getD c ac0).w 10>600)||decide (((p.x.getD c ac0).h.length:Int)>80))=true:=h
         refine leB ?_
         unfold greatP
         rw [allQ_f hcl (show gxQ p.x c=false by unfold gxQ; rw [h]; rfl)]; simp
        ·have h:(gdP (p.x.getD c ac0).y.a||decide (greatV (p.x.getD c ac0).p 10>600)||decide (greatV (p.x.getD c ac0).w 10>600)||decide (((p.x.getD c ac0).h.length:Int)>80))=false:=h
         refine ⟨c+1,⟨hcl,next_q hp3 (by unfold gxQ; rw [h]; rfl)⟩,?_,by omega⟩
         (refine And.intro ?_ (And.intro ?_ (And.intro ?_ rfl))<;>(conv=>whnf)<;>repeat' (first|exact trivial|exact LeE.of (Le.refl _)|(with_reducible refine LeE.of ?_)|(first|exact rfl|exact leI (by first|rfl|(rw [wrap64 (by omega) (by omega)]; omega)|fail)|fail)|((with_reducible refine And.intro ?_ ?_)<;>conv=>whnf)))
       ·obtain rfl:c=p.x.length:=by omega
        have k3:=allQ_t hp3
        conv=>whnf
        repeat' (first|(refine And.intro (fun h=> ?_) (fun h=> ?_)<;>(first|(with_reducible have hd:_<_:=of_decide_eq_true h)|(with_reducible have hd:¬ (_<_):=of_decide_eq_false h)|fail)<;>(first|omega|(conv=>whnf)))|fail)
        refine leB ?_
        unfold greatP
        rw [hh,k1,k2,k3]; rfl
end Go.Proofs.YtaecnniddhikbaaGreatDoor
