/- Contracts of functions of the program,and the laws that stand on them: what each function answers,whatever its arguments. -/
import Derived.Test.YtiodgjgngfklkaaGreatDoorX1
import Derived.Test.YtiodgjgngfklkaaGreatDoorVw5
set_option linter.all false
set_option maxRecDepth 100000
set_option maxHeartbeats 8000000
namespace Go.Proofs.YtiodgjgngfklkaaGreatDoor
open Go Go.VA
theorem rV_int {l:List V}{c:Nat}(h:c<l.length):rV l ((c:Int)).toNat=cV (l.getD c V.z):=by rw [Int.toNat_natCast]; exact rV_getD h
def objIx (t:ByteArray) (v:V) (i:Nat):Bool:= !(eqs (v.ks.getD i ByteArray.empty) (atI t i).n)|| !(fits (v.l.getD i V.z) ((atI t i).k,(atI t i).o))||(atI t i).a&&(v.l.getD i V.z).k==0
theorem objI_x (t:ByteArray)(v:V)(i:Nat):objI t v i= !objIx t v i:=rfl
theorem objH_bits (t:ByteArray)(v:V)(ht:tyB t=true):objP t v=if objH t v then 8 else if (List.range (atN t 19).length).all (objI t v) then 0 else 8:=by unfold objP; rw [ht]; rfl
theorem all_lt {p:Nat→Bool}{n:Nat}(h:∀ j,j<n→p j=true):(List.range n).all p=true:=List.all_eq_true.2 fun j hj=>h j (List.mem_range.1 hj)
theorem all_no {p:Nat→Bool}{n c:Nat}(hc:c<n)(h:p c=false):(List.range n).all p=false:=by
 rw [List.all_eq_false]
 exact ⟨c,List.mem_range.2 hc,by rw [h]; decide⟩
theorem aObjectP (t t':Bool)(ty:ByteArray)(v:V):ACall Tryz.prog gl 112 [.c (.v (.string ty)),.ag (cVt t t' v)] [] (intA .i64 (objP ty v)):=by
 have A:=aAttrsE ty
 have CK:=fun a b=>aCheck a b v
 cases ht:tyB ty
 ·have e:objP ty v=9:=by unfold objP; rw [ht]; rfl
  rw [ht] at A
  rw [e]
  have hq:((9:Int) != 0)=true:=by decide
  refine acall_of_vc htb hmix (f:=112) rfl rfl rfl (by kernel_rfl) rfl rfl ?_; conv=>whnf
  repeat' (first|(refine Exists.intro _ (And.intro (A) ?_); conv=>whnf)|(refine And.intro (fun h=> ?_) (fun h=> ?_)<;>(first|skip)<;>(first|exact absurd h (by decide)|(conv=>whnf)))|((with_reducible refine xc_pure ?_); conv=>whnf))
  all_goals first
   | exact Le.refl _
   | skip
 ·rw [ht] at A
  rw [objH_bits ty v ht]
  cases hh:objH ty v
  ·have hh':=hh
   unfold objH at hh'
   simp only [Bool.or_eq_false_iff,bne_eq_false_iff_eq] at hh'
   obtain ⟨⟨h5,hck⟩,hl⟩:=hh'
   have hl2:v.ks.length=v.l.length:=(ok_of (by rw [← check_law,hck]; rfl)).f.ks5 h5
   have hq2:((0:Int) != 0)=false:=by decide
   have hq:(v.k != 5||checkV v != 0||(v.ks.length:Int) != ((atN ty 19).length:Int))=false:=hh
   rw [if_neg (by decide)]
   refine acall_of_vc htb hmix (f:=112) rfl rfl rfl (by kernel_rfl) rfl rfl ?_; conv=>whnf
   repeat' (first|(refine Exists.intro _ (And.intro (A) ?_); conv=>whnf)|((with_reducible refine GOr.l ?_); (conv=>whnf); refine Exists.intro _ (And.intro (chainI (CK _ _)) ?_); conv=>whnf)|(refine And.intro (fun h=> ?_) (fun h=> ?_)<;>(first|skip)<;>(first|exact absurd h (by decide)|(first|exact Bool.noConfusion (hq.symm.trans h)|fail)|(conv=>whnf)))|((with_reducible refine xc_pure ?_); conv=>whnf))
   ·refine loopI Nat (fun c=>c≤(atN ty 19).length∧∀ j,j<c→objI ty v j=true) (fun c=>[(36,intA .i64 c)]) (fun c=>[.box ((cVt t t' v).map .c)]) (fun c=>(atN ty 19).length-c) 0 ⟨Nat.zero_le _,fun j hj=>absurd hj (Nat.not_lt_zero _)⟩ ?_ (fun _=>rfl) fun c ⟨hc,hp⟩=> ?_
    ·(refine And.intro ?_ (And.intro ?_ (And.intro ?_ rfl))<;>(conv=>whnf)<;>repeat' (first|exact trivial|exact LeE.of (Le.refl _)|(first|exact rfl|fail)|((with_reducible refine And.intro ?_ ?_)<;>conv=>whnf)))
    ·by_cases hcn:c<(atN ty 19).length
     ·have hle:=atN_le ty 19
      have hr:=rV_int (l:=v.l) (c:=c) (by omega)
      have hM:(0:Int)≤(c:Int)∧(c:Int)<((atN ty 19).length:Int):=by omega
      have hC:(0:Int)≤(c:Int)∧(c:Int)<(v.l.length:Int):=by omega
      have hB:(0:Int)≤(c:Int)∧(c:Int)<(v.ks.length:Int):=by omega
      conv=>whnf
      repeat' (first|(refine Exists.intro _ (And.intro (chainI (aFits _ _ _ _ _)) ?_); conv=>whnf)|(refine And.intro (fun h=> ?_) (fun h=> ?_)<;>(first|(with_reducible have hd:_<_:=of_decide_eq_true h)|(with_reducible have hd:¬ (_<_):=of_decide_eq_false h)|skip)<;>(first|(first|omega)|(conv=>whnf)))|((with_reducible refine DOg.l ?_); (conv=>whnf))|(refine And.intro ?_ ?_; (focus (first|(first|exact hB|exact hC|exact hM|fail)|fail)); conv=>whnf)|(rw [hr]; conv=>whnf))
      ·have h:objIx ty v c=true:=h
       have h:objI ty v c=false:=by rw [objI_x,h]; rfl
       exact leI (by rw [all_no hcn h]; rfl)
      ·have h:objIx ty v c=false:=h
       have h:objI ty v c=true:=by rw [objI_x,h]; rfl
       refine ⟨c+1,⟨hcn,fun j hj=> ?_⟩,?_,by show (atN ty 19).length-(c+1)<(atN ty 19).length-c; omega⟩
       ·by_cases e:j=c
        ·subst e; exact h
        ·exact hp j (by omega)
       ·(refine And.intro ?_ (And.intro ?_ (And.intro ?_ rfl))<;>(conv=>whnf)<;>repeat' (first|exact trivial|exact LeE.of (Le.refl _)|(with_reducible refine LeE.of ?_)|(first|exact rfl|exact leI (by first|rfl|(rw [wrap64 (by omega) (by omega)]; omega)|fail)|fail)|((with_reducible refine And.intro ?_ ?_)<;>conv=>whnf)))
     ·obtain rfl:c=(atN ty 19).length:=by omega
      have hq:decide (((atN ty 19).length:Int)<((atN ty 19).length:Int))=false:=decide_eq_false (by omega)
      conv=>whnf
      repeat' (first|(refine And.intro (fun h=> ?_) (fun h=> ?_)<;>(first|(with_reducible have hd:_<_:=of_decide_eq_true h)|(with_reducible have hd:¬ (_<_):=of_decide_eq_false h)|fail)<;>(first|(first|exact Bool.noConfusion (hq.symm.trans h)|fail)|(conv=>whnf)))|fail)
      exact leI (by rw [all_lt hp]; rfl)
  ·have hq:(v.k != 5||checkV v != 0||(v.ks.length:Int) != ((atN ty 19).length:Int))=true:=hh
   have hq2:((0:Int) != 0)=false:=by decide
   rw [if_pos rfl]
   refine acall_of_vc htb hmix (f:=112) rfl rfl rfl (by kernel_rfl) rfl rfl ?_; conv=>whnf
   repeat' (first|(refine Exists.intro _ (And.intro (A) ?_); conv=>whnf)|((with_reducible refine GOr.l ?_); (conv=>whnf); refine Exists.intro _ (And.intro (chainI (CK _ _)) ?_); conv=>whnf)|(refine And.intro (fun h=> ?_) (fun h=> ?_)<;>(first|skip)<;>(first|exact absurd h (by decide)|(first|exact Bool.noConfusion (hq.symm.trans h)|fail)|(conv=>whnf)))|((with_reducible refine xc_pure ?_); conv=>whnf))
   all_goals first
    | exact Le.refl _
    | skip
theorem aFinalP (t t':Bool)(ty:ByteArray)(v:V):ACall Tryz.prog gl 84 [.c (.v (.string ty)),.ag (cVt t t' v)] [] (intA .i64 (finP ty v)):=by
 have O:=fun a b=>aObjectP a b ty v
 cases hq:(objP ty v != 0)
 ·obtain ⟨ht,h5,hck,hk,hl⟩:=obj_keys (show objP ty v=0 by simpa using hq)
  have A:=aAttrsY ty ht
  have KN:=fun a b=>aKnown v a b
  have e:finP ty v=if (List.range (atN ty 19).length).all (finI ty v) then (if !known v then 8 else 0) else 8:=by unfold finP; rw [hq]; rfl
  rw [e]
  refine acall_of_vc htb hmix (f:=84) rfl rfl rfl (by kernel_rfl) rfl rfl ?_; conv=>whnf
  repeat' (first|(refine Exists.intro _ (And.intro (O _ _) ?_); conv=>whnf)|(refine Exists.intro _ (And.intro (A) ?_); conv=>whnf)|(refine And.intro (fun h=> ?_) (fun h=> ?_)<;>(first|skip)<;>(first|(first|exact Bool.noConfusion (hq.symm.trans h)|fail)|(conv=>whnf)))|((with_reducible refine xc_pure ?_); conv=>whnf))
  ·refine loopI Nat (fun c=>c≤(atN ty 19).length∧∀ j,j<c→finI ty v j=true) (fun c=>[(17,intA .i64 c)]) (fun c=>[.box ((cVt t t' v).map .c)]) (fun c=>(atN ty 19).length-c) 0 ⟨Nat.zero_le _,fun j hj=>absurd hj (Nat.not_lt_zero _)⟩ ?_ (fun _=>rfl) fun c ⟨hc,hp⟩=> ?_
   ·(refine And.intro ?_ (And.intro ?_ (And.intro ?_ rfl))<;>(conv=>whnf)<;>repeat' (first|exact trivial|exact LeE.of (Le.refl _)|(first|exact rfl|fail)|((with_reducible refine And.intro ?_ ?_)<;>conv=>whnf)))
   ·by_cases hcn:c<(atN ty 19).length
    ·have hle:=atN_le ty 19
     have hr:=rV_int (l:=v.l) (c:=c) (by omega)
     have hM:(0:Int)≤(c:Int)∧(c:Int)<((atN ty 19).length:Int):=by omega
     have hC:(0:Int)≤(c:Int)∧(c:Int)<(v.l.length:Int):=by omega
     conv=>whnf
     repeat' (first|(refine And.intro (fun h=> ?_) (fun h=> ?_)<;>(first|(with_reducible have hd:_<_:=of_decide_eq_true h)|(with_reducible have hd:¬ (_<_):=of_decide_eq_false h)|skip)<;>(first|(first|omega)|(conv=>whnf)))|(refine And.intro ?_ ?_; (focus (first|(first|exact hM|exact fun _=>hC|fail)|fail)); conv=>whnf)|(rw [hr]; conv=>whnf))
     ·have h:finI ty v c=false:=by unfold finI; rw [show ((atI ty c).b&&(v.l.getD c V.z).k==0)=true from h]; rfl
      exact leI (by rw [all_no hcn h]; rfl)
     ·have h:finI ty v c=true:=by unfold finI; rw [show ((atI ty c).b&&(v.l.getD c V.z).k==0)=false from h]; rfl
      refine ⟨c+1,⟨hcn,fun j hj=> ?_⟩,?_,by show (atN ty 19).length-(c+1)<(atN ty 19).length-c; omega⟩
      ·by_cases e:j=c
       ·subst e; exact h
       ·exact hp j (by omega)
      ·(refine And.intro ?_ (And.intro ?_ (And.intro ?_ rfl))<;>(conv=>whnf)<;>repeat' (first|exact trivial|exact LeE.of (Le.refl _)|(with_reducible refine LeE.of ?_)|(first|exact rfl|exact leI (by first|rfl|(rw [wrap64 (by omega) (by omega)]; omega)|fail)|fail)|((with_reducible refine And.intro ?_ ?_)<;>conv=>whnf)))
    ·obtain rfl:c=(atN ty 19).length:=by omega
     have hq:decide (((atN ty 19).length:Int)<((atN ty 19).length:Int))=false:=decide_eq_false (by omega)
     rw [all_lt hp,if_pos rfl]
     conv=>whnf
     repeat' (first|(refine Exists.intro _ (And.intro (KN _ _) ?_); conv=>whnf)|(refine And.intro (fun h=> ?_) (fun h=> ?_)<;>(first|(with_reducible have hd:_<_:=of_decide_eq_true h)|(with_reducible have hd:¬ (_<_):=of_decide_eq_false h)|skip)<;>(first|(first|exact Bool.noConfusion (hq.symm.trans h)|fail)|(conv=>whnf)))|((with_reducible refine xc_pure ?_); conv=>whnf))
     ·exact leI (by rw [h]; rfl)
     ·exact leI (by rw [h]; rfl)
 ·have e:finP ty v=objP ty v:=by unfold finP; rw [hq]; rfl
  rw [e]
  refine acall_of_vc htb hmix (f:=84) rfl rfl rfl (by kernel_rfl) rfl rfl ?_; conv=>whnf
  repeat' (first|(refine Exists.intro _ (And.intro (O _ _) ?_); conv=>whnf)|(refine And.intro (fun h=> ?_) (fun h=> ?_)<;>(first|skip)<;>(first|(first|exact Bool.noConfusion (hq.symm.trans h)|fail)|(conv=>whnf)))|((with_reducible refine xc_pure ?_); conv=>whnf))
  exact Le.refl _
end Go.Proofs.YtiodgjgngfklkaaGreatDoor
