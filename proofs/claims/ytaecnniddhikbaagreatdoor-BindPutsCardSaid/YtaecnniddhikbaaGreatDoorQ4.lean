/- What functions of the program answer,whatever their arguments. -/
import Derived.Test.YtaecnniddhikbaaGreatDoorQ1
set_option linter.unusedSectionVars false
set_option linter.unnecessarySimpa false
set_option linter.unusedSimpArgs false
set_option linter.unusedVariables false
set_option maxRecDepth 100000
set_option maxHeartbeats 8000000
namespace Go.Proofs.YtaecnniddhikbaaGreatDoor
open Go Go.VA
theorem aNull26 (v:V):ACall Tryz.prog gl 113 [.ag (cV v)] [] (boolA (nlB v)):=by
 have S:=aSameRZ v
 refine acall_of_vc htb hmix (f:=113) rfl rfl rfl (by kernel_rfl) rfl rfl ?_; conv=>whnf
 repeat' (first|(refine Exists.intro _ (And.intro (S) ?_); conv=>whnf)|((with_reducible refine xc_pure ?_); conv=>whnf))
 exact leB rfl
theorem aObj26 (s:ByteArray)(v:V)(kn:Bool):ACall Tryz.prog gl 114 [.c (.v (.string s)),.ag (cV v),boolA kn] [] (boolA (objP s v==0&&(!kn||known v))):=by
 have O:=aObjectR false false s v
 rw [← obj_law] at O
 have K:=aKnownR v false false
 refine acall_of_vc htb hmix (f:=114) rfl rfl rfl (by kernel_rfl) rfl rfl ?_; conv=>whnf
 repeat' (first|(refine Exists.intro _ (And.intro (O) ?_); conv=>whnf)|((with_reducible refine GOr.l ?_); (conv=>whnf); refine Exists.intro _ (And.intro (chainI (K)) ?_); conv=>whnf)|((with_reducible refine xc_pure ?_); conv=>whnf))
 exact leB rfl
theorem at0 (t:ByteArray):(((atN t 19).length:Int)==0)= !tyL.any (eqs t):=by
 rw [← ty_law,Bool.eq_iff_iff]
 simp
theorem ahB_f {h:List Int}{i:Int}{n:Nat}(hn:n<h.length)(e:ahX h i n=true):ahB h i=false:=allQ_f hn (by rw [e]; rfl)
theorem ahB_t {h:List Int}{i:Int}(e:∀ n,n<h.length→(!ahX h i n)=true):ahB h i=true:=allQ_t e
def acR (x:Ac) (i:Int):Bool:=acK x&&ahB x.h i
theorem aCheckAct (x:Ac)(i:Int)(hy:0≤x.y.n):ACall Tryz.prog gl 78 [.ag (cAc x),intA .i64 i] [] (boolA (acR x i)):=by
 have K:=aCheckKR x.y hy
 have A:=aAttrs x.y.a.t
 have P:=aCheckR false false x.p
 have W:=aCheckR false false x.w
 have N1:=aNull26 x.p
 have N2:=aNull26 x.w
 have O1:=aObj26 x.y.a.t x.p true
 have O2:=aObj26 x.y.a.t x.w false
 refine acall_of_vcb htb hmix (f:=78) rfl rfl rfl (by kernel_rfl) rfl rfl fun hb=> ?_; simp only [bndAll,AV.bnd,bnds,C.bnd,cVt,cS,true_and,and_true] at hb; conv=>whnf
 have hn:x.h.length≤140737488355328:=bnd_ac (x:=x) ⟨trivial,hb.1⟩
 repeat' (first|(refine Exists.intro _ (And.intro (K) ?_); conv=>whnf)|((with_reducible refine GOr.l ?_); (conv=>whnf); refine Exists.intro _ (And.intro (chainI (A)) ?_); conv=>whnf)|((with_reducible refine GOr.l ?_); (conv=>whnf); refine Exists.intro _ (And.intro (chainI (P)) ?_); conv=>whnf)|((with_reducible refine GOr.l ?_); (conv=>whnf); refine Exists.intro _ (And.intro (chainI (W)) ?_); conv=>whnf)|(refine And.intro (fun h=> ?_) (fun h=> ?_)<;>(first|skip)<;>(first|(conv=>whnf)))|((with_reducible refine FzOr.l ?_); conv=>whnf)|((with_reducible refine xc_pure ?_); conv=>whnf))
 ·refine leB ?_
  have h:(!okKy x.y||(((atN x.y.a.t 19).length:Int)==0)|| !checkR x.p|| !checkR x.w)=true:=h
  rw [at0] at h
  unfold acR acK valB
  revert h
  cases okKy x.y<;>cases tyL.any (eqs x.y.a.t)<;>cases checkR x.p<;>cases checkR x.w<;>simp
 ·have h:(!okKy x.y||(((atN x.y.a.t 19).length:Int)==0)|| !checkR x.p|| !checkR x.w)=false:=h
  rw [at0] at h
  simp only [Bool.or_eq_false_iff,Bool.not_eq_false'] at h
  obtain ⟨⟨⟨k1,k2⟩,k3⟩,k4⟩:=h
  refine loopI Nat (fun c=>c≤x.h.length∧∀ j,j<c→(!ahX x.h i j)=true) (fun c=>[(6,intA .i64 c)]) (fun _=>[.box ((cAc x).map .c)]) (fun c=>x.h.length-c) 0 ⟨Nat.zero_le _,fun j hj=>absurd hj (Nat.not_lt_zero _)⟩ ?_ (fun _=>rfl) fun c ⟨hc,hp⟩=> ?_
  ·(refine And.intro ?_ (And.intro ?_ (And.intro ?_ rfl))<;>(conv=>whnf)<;>repeat' (first|exact trivial|exact LeE.of (Le.refl _)|(first|exact rfl|fail)|((with_reducible refine And.intro ?_ ?_)<;>conv=>whnf)))
  ·by_cases hcl:c<x.h.length
   ·have hC:(0:Int)≤(c:Int)∧(c:Int)<(x.h.length:Int):=by omega
    have hM:=fun h=>pos_ix hcl hn h
    conv=>whnf
    repeat' (first|(refine And.intro (fun h=> ?_) (fun h=> ?_)<;>(first|(with_reducible have hd:_<_:=of_decide_eq_true h)|(with_reducible have hd:¬ (_<_):=of_decide_eq_false h)|skip)<;>(first|(first|omega)|(conv=>whnf)))|(refine And.intro ?_ ?_; (focus (first|(first|exact hC|exact chainI hC|fail)|((conv=>whnf); intros; (try simp only [decide_eq_true_eq,decide_eq_false_iff_not,Bool.and_eq_true,Bool.or_eq_true,Bool.and_eq_false_imp,Bool.or_eq_false_iff,Bool.not_eq_true',Bool.not_eq_false',beq_iff_eq,bne_iff_ne,ne_eq] at *); (first|(first|exact hM (by assumption)|fail)|fail)))); conv=>whnf)|fail)
    ·have h:ahX x.h i c=true:=h
     exact leB (by unfold acR; rw [ahB_f hcl h,Bool.and_false])
    ·have h:ahX x.h i c=false:=h
     refine ⟨c+1,⟨hcl,next_q hp (by rw [h]; rfl)⟩,?_,by omega⟩
     (refine And.intro ?_ (And.intro ?_ (And.intro ?_ rfl))<;>(conv=>whnf)<;>repeat' (first|exact trivial|exact LeE.of (Le.refl _)|(with_reducible refine LeE.of ?_)|(first|exact rfl|exact leI (by first|rfl|(rw [wrap64 (by omega) (by omega)]; omega)|fail)|fail)|((with_reducible refine And.intro ?_ ?_)<;>conv=>whnf)))
   ·obtain rfl:c=x.h.length:=by omega
    have ha:=ahB_t hp
    conv=>whnf
    repeat' (first|(refine Exists.intro _ (And.intro (N1) ?_); conv=>whnf)|((with_reducible refine GOr.l ?_); (conv=>whnf); refine Exists.intro _ (And.intro (chainI (N1)) ?_); conv=>whnf)|(refine Exists.intro _ (And.intro (N2) ?_); conv=>whnf)|(refine Exists.intro _ (And.intro (O1) ?_); conv=>whnf)|((with_reducible refine GOr.l ?_); (conv=>whnf); refine Exists.intro _ (And.intro (chainI (O1)) ?_); conv=>whnf)|((with_reducible refine GOr.l ?_); (conv=>whnf); refine Exists.intro _ (And.intro (chainI (O2)) ?_); conv=>whnf)|(refine And.intro (fun h=> ?_) (fun h=> ?_)<;>(first|(with_reducible have hd:_<_:=of_decide_eq_true h)|(with_reducible have hd:¬ (_<_):=of_decide_eq_false h)|skip)<;>(first|(first|omega)|(conv=>whnf)))|((with_reducible refine xc_pure ?_); conv=>whnf))
    all_goals
     refine leB ?_
     unfold acR acK valB knO
     rw [k1,k2,k3,k4,ha]
     simp [*]
end Go.Proofs.YtaecnniddhikbaaGreatDoor
