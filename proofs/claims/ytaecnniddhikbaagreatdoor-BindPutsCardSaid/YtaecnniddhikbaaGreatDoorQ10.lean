/- What functions of the program answer,whatever their arguments. -/
import Derived.Test.YtaecnniddhikbaaGreatDoorQ4
import Derived.Test.YtaecnniddhikbaaGreatDoorP6
set_option linter.unusedSectionVars false
set_option linter.unnecessarySimpa false
set_option linter.unusedSimpArgs false
set_option linter.unusedVariables false
set_option maxRecDepth 100000
set_option maxHeartbeats 8000000
namespace Go.Proofs.YtaecnniddhikbaaGreatDoor
open Go Go.VA
theorem allQ_succ (q:Nat→Bool)(n:Nat):allQ q (n+1)=(allQ q n&&q n):=by
 unfold allQ
 rw [List.range_succ,List.all_append]
 simp
theorem hasS_allQ {l:List Bd}(n:ByteArray):∀ c,c≤l.length→hasS (l.take c) n= !allQ (fun k=> !eqs (l.getD k bd0).n n) c
 | 0,_=>by simp [hasS,allQ]
 | c+1,h=>by
  have ih:=hasS_allQ (l:=l) n c (by omega)
  have e:l[c]? =some (l.getD c bd0):=by rw [List.getD_eq_getElem?_getD,List.getElem?_eq_getElem (by omega:c<l.length)]; rfl
  rw [take_snoc? e,allQ_succ]
  unfold hasS at *
  rw [List.any_append,ih]
  simp
theorem hasD_allQ {l:List Ac}(x:Ac):∀ c,c≤l.length→hasD (l.take c) x= !allQ (fun k=> !eqD x (l.getD k ac0)) c
 | 0,_=>by simp [hasD,allQ]
 | c+1,h=>by
  have ih:=hasD_allQ (l:=l) x c (by omega)
  have e:l[c]? =some (l.getD c ac0):=by rw [List.getD_eq_getElem?_getD,List.getElem?_eq_getElem (by omega:c<l.length)]; rfl
  rw [take_snoc? e,allQ_succ]
  unfold hasD at *
  rw [List.any_append,ih]
  simp
theorem eqK_comm (a b:Ky):eqK a b=eqK b a:=by
 rw [Bool.eq_iff_iff,eqK_iff,eqK_iff]
 exact ⟨fun h=>h.symm,fun h=>h.symm⟩
theorem eqD_comm (a b:Ac):eqD a b=eqD b a:=by
 unfold eqD
 rw [eqK_comm a.y b.y]
 congr 1
 rw [Bool.eq_iff_iff]
 simp only [beq_iff_eq]
 exact ⟨fun h=>h.symm,fun h=>h.symm⟩
theorem okPl_b {p:Pl}(h:varsB p.b=false):okPl p=false:=by unfold okPl; rw [h]; simp
theorem okPl_t {p:Pl}(h:stampsB p.t=false):okPl p=false:=by unfold okPl; rw [h]; simp
theorem okPl_x {p:Pl}(h:actsB p.x=false):okPl p=false:=by unfold okPl; rw [h]; simp
def vrK (b:Bd):Bool:=nameB b.n&&checkR b.v&&known b.v
theorem vrQ_k {l:List Bd}{c:Nat}(h:vrK (l.getD c bd0)=false):vrQ l c=false:=by
 unfold vrK at h
 unfold vrQ
 revert h
 cases nameB (l.getD c bd0).n<;>cases checkR (l.getD c bd0).v<;>cases known (l.getD c bd0).v<;>simp
theorem vrQ_h {l:List Bd}{c:Nat}(h:hasS (l.take c) (l.getD c bd0).n=true):vrQ l c=false:=by
 unfold vrQ
 rw [h]; rfl
theorem vrQ_t {l:List Bd}{c:Nat}(h:vrK (l.getD c bd0)=true)(h2:hasS (l.take c) (l.getD c bd0).n=false):vrQ l c=true:=by
 unfold vrK at h
 unfold vrQ
 rw [h2,Bool.not_false,Bool.true_and,h]
theorem aCheckPlan (u v w:Bool)(p:Pl)(hy:∀ x ∈ p.x,0≤x.y.n)(hz:∀ x ∈ p.t,0≤x.y.n):ACall Tryz.prog gl 35 [.ag (cPl u v w p)] [] (boolA (okPl p)):=by
 refine acall_of_vcb htb hmix (f:=35) rfl rfl rfl (by kernel_rfl) rfl rfl fun hb=> ?_; simp only [bndAll,AV.bnd,bnds,C.bnd,cVt,cS,true_and,and_true] at hb; conv=>whnf
 repeat' (first|(refine And.intro (fun h=> ?_) (fun h=> ?_)<;>(first|skip)<;>(first|(conv=>whnf)))|((with_reducible refine FzOr.l ?_); conv=>whnf)|fail)
 ·refine leB ?_
  have h:(decide (p.s>4611686018427387904)||decide ((p.b.length:Int)>128)||decide ((p.t.length:Int)>64)||decide ((p.x.length:Int)>64))=true:=h
  unfold okPl varsB stampsB actsB
  simp only [Bool.or_eq_true,decide_eq_true_eq] at h
  rcases h with ((h|h)|h)|h
  ·rw [decide_eq_true h]; rfl
  ·rw [decide_eq_false (show ¬ (p.b.length:Int)≤128 by omega)]; simp
  ·rw [decide_eq_false (show ¬ (p.t.length:Int)≤64 by omega)]; simp
  ·rw [decide_eq_false (show ¬ (p.x.length:Int)≤64 by omega)]; simp
 ·have h:(decide (p.s>4611686018427387904)||decide ((p.b.length:Int)>128)||decide ((p.t.length:Int)>64)||decide ((p.x.length:Int)>64))=false:=h
  simp only [Bool.or_eq_false_iff,decide_eq_false_iff_not] at h
  obtain ⟨⟨⟨hs,hbl⟩,htl⟩,hxl⟩:=h
  refine loopI Nat (fun c=>c≤p.b.length∧∀ j,j<c→vrQ p.b j=true) (fun c=>[(3,intA .i64 c)]) (fun _=>[.box ((cPl u v w p).map .c)]) (fun c=>p.b.length-c) 0 ⟨Nat.zero_le _,fun j hj=>absurd hj (Nat.not_lt_zero _)⟩ ?_ (fun _=>rfl) fun c ⟨hc,hp⟩=> ?_
  ·(refine And.intro ?_ (And.intro ?_ (And.intro ?_ rfl))<;>(conv=>whnf)<;>repeat' (first|exact trivial|exact LeE.of (Le.refl _)|(first|exact rfl|fail)|((with_reducible refine And.intro ?_ ?_)<;>conv=>whnf)))
  ·by_cases hcl:c<p.b.length
   ·have hC:(0:Int)≤(c:Int)∧(c:Int)<(p.b.length:Int):=by omega
    have NM:=aNameR (p.b.getD c bd0).n
    have CK:=aCheckR false false (p.b.getD c bd0).v
    have KN:=aKnownR (p.b.getD c bd0).v false false
    conv=>whnf
    repeat' (first|(refine Exists.intro _ (And.intro (NM) ?_); conv=>whnf)|((with_reducible refine GOr.l ?_); (conv=>whnf); refine Exists.intro _ (And.intro (chainI (CK)) ?_); conv=>whnf)|((with_reducible refine GOr.l ?_); (conv=>whnf); refine Exists.intro _ (And.intro (chainI (KN)) ?_); conv=>whnf)|(refine And.intro (fun h=> ?_) (fun h=> ?_)<;>(first|(with_reducible have hd:_<_:=of_decide_eq_true h)|(with_reducible have hd:¬ (_<_):=of_decide_eq_false h)|skip)<;>(first|(first|omega)|(conv=>whnf)))|(refine And.intro ?_ ?_; (focus (first|(first|exact hC|exact chainI hC|fail)|fail)); conv=>whnf)|((with_reducible refine xc_pure ?_); conv=>whnf))
    ·have h:(!nameB (p.b.getD c bd0).n|| !checkR (p.b.getD c bd0).v|| !known (p.b.getD c bd0).v)=true:=h
     refine leB (okPl_b (varsB_f hcl (vrQ_k ?_))).symm
     unfold vrK
     revert h
     cases nameB (p.b.getD c bd0).n<;>cases checkR (p.b.getD c bd0).v<;>cases known (p.b.getD c bd0).v<;>simp
    ·have h:(!nameB (p.b.getD c bd0).n|| !checkR (p.b.getD c bd0).v|| !known (p.b.getD c bd0).v)=false:=h
     have hk:vrK (p.b.getD c bd0)=true:=by
      unfold vrK
      revert h
      cases nameB (p.b.getD c bd0).n<;>cases checkR (p.b.getD c bd0).v<;>cases known (p.b.getD c bd0).v<;>simp
     refine loopI Nat (fun k=>k≤c∧∀ j,j<k→(!eqs (p.b.getD j bd0).n (p.b.getD c bd0).n)=true) (fun k=>[(4,intA .i64 k)]) (fun _=>[.box ((cPl u v w p).map .c)]) (fun k=>c-k) 0 ⟨Nat.zero_le _,fun j hj=>absurd hj (Nat.not_lt_zero _)⟩ ?_ (fun _=>rfl) fun k ⟨hk1,hk2⟩=> ?_
     ·(refine And.intro ?_ (And.intro ?_ (And.intro ?_ rfl))<;>(conv=>whnf)<;>repeat' (first|exact trivial|exact LeE.of (Le.refl _)|(first|exact rfl|fail)|((with_reducible refine And.intro ?_ ?_)<;>conv=>whnf)))
     ·by_cases hkl:k<c
      ·have hC2:(0:Int)≤(k:Int)∧(k:Int)<(p.b.length:Int):=by omega
       have hq:decide ((k:Int)<(c:Int))=true:=decide_eq_true (by omega)
       conv=>whnf
       repeat' (first|(refine And.intro (fun h=> ?_) (fun h=> ?_)<;>(first|(with_reducible have hd:_<_:=of_decide_eq_true h)|(with_reducible have hd:¬ (_<_):=of_decide_eq_false h)|skip)<;>(first|(first|exact Bool.noConfusion (hq.symm.trans h)|fail)|(conv=>whnf)))|(refine And.intro ?_ ?_; (focus (first|(first|exact hC2|exact hC|fail)|fail)); conv=>whnf)|fail)
       ·have h:eqs (p.b.getD k bd0).n (p.b.getD c bd0).n=true:=h
        refine leB (okPl_b (varsB_f hcl (vrQ_h ?_))).symm
        rw [hasS_allQ _ c hc,allQ_f hkl (by rw [h]; rfl)]; rfl
       ·have h:eqs (p.b.getD k bd0).n (p.b.getD c bd0).n=false:=h
        refine ⟨k+1,⟨hkl,next_q hk2 (by rw [h]; rfl)⟩,?_,by omega⟩
        (refine And.intro ?_ (And.intro ?_ (And.intro ?_ rfl))<;>(conv=>whnf)<;>repeat' (first|exact trivial|exact LeE.of (Le.refl _)|(with_reducible refine LeE.of ?_)|(first|exact rfl|exact leI (by first|rfl|(rw [wrap64 (by omega) (by omega)]; omega)|fail)|fail)|((with_reducible refine And.intro ?_ ?_)<;>conv=>whnf)))
      ·obtain rfl:k=c:=by omega
       have hq:decide ((k:Int)<(k:Int))=false:=decide_eq_false (by omega)
       conv=>whnf
       repeat' (first|(refine And.intro (fun h=> ?_) (fun h=> ?_)<;>(first|(with_reducible have hd:_<_:=of_decide_eq_true h)|(with_reducible have hd:¬ (_<_):=of_decide_eq_false h)|fail)<;>(first|(first|exact Bool.noConfusion (hq.symm.trans h)|fail)|(conv=>whnf)))|fail)
       refine ⟨k+1,⟨hcl,next_q hp (vrQ_t hk ?_)⟩,?_,by omega⟩
       ·rw [hasS_allQ _ k hc,allQ_t hk2]; rfl
       ·(refine And.intro ?_ (And.intro ?_ (And.intro ?_ rfl))<;>(conv=>whnf)<;>repeat' (first|exact trivial|exact LeE.of (Le.refl _)|(with_reducible refine LeE.of ?_)|(first|exact rfl|exact leI (by first|rfl|(rw [wrap64 (by omega) (by omega)]; omega)|fail)|fail)|((with_reducible refine And.intro ?_ ?_)<;>conv=>whnf)))
   ·obtain rfl:c=p.b.length:=by omega
    have hv:varsB p.b=true:=by rw [varsB_t hp]; exact decide_eq_true (by omega)
    conv=>whnf
    repeat' (first|(refine And.intro (fun h=> ?_) (fun h=> ?_)<;>(first|(with_reducible have hd:_<_:=of_decide_eq_true h)|(with_reducible have hd:¬ (_<_):=of_decide_eq_false h)|fail)<;>(first|(first|omega)|(conv=>whnf)))|fail)
    refine loopI Nat (fun c=>c≤p.t.length∧∀ j,j<c→spQ p.t j=true) (fun c=>[(5,intA .i64 c)]) (fun _=>[.box ((cPl u v w p).map .c)]) (fun c=>p.t.length-c) 0 ⟨Nat.zero_le _,fun j hj=>absurd hj (Nat.not_lt_zero _)⟩ ?_ (fun _=>rfl) fun c ⟨hc,hp2⟩=> ?_
    ·(refine And.intro ?_ (And.intro ?_ (And.intro ?_ rfl))<;>(conv=>whnf)<;>repeat' (first|exact trivial|exact LeE.of (Le.refl _)|(first|exact rfl|fail)|((with_reducible refine And.intro ?_ ?_)<;>conv=>whnf)))
    ·by_cases hcl:c<p.t.length
     ·have hC:(0:Int)≤(c:Int)∧(c:Int)<(p.t.length:Int):=by omega
      have hM:=fun h=>pos_ix hcl (by omega) h
      have CK:=aCheckKR (p.t.getD c sp0).y (hz _ (by rw [List.getD_eq_getElem?_getD,List.getElem?_eq_getElem hcl]; exact List.getElem_mem hcl))
      have LS:=aLessKyR (p.t.getD (IntKind.i64.wrap ((c:Int)-1)).toNat sp0).y (p.t.getD c sp0).y
      conv=>whnf
      repeat' (first|(refine Exists.intro _ (And.intro (chainI (CK)) ?_); conv=>whnf)|(refine Exists.intro _ (And.intro (chainI (LS)) ?_); conv=>whnf)|(refine And.intro (fun h=> ?_) (fun h=> ?_)<;>(first|(with_reducible have hd:_<_:=of_decide_eq_true h)|(with_reducible have hd:¬ (_<_):=of_decide_eq_false h)|skip)<;>(first|(first|omega)|(conv=>whnf)))|((with_reducible refine DOg.l ?_); (conv=>whnf))|(refine And.intro ?_ ?_; (focus (first|(first|exact hC|exact chainI hC|fail)|((conv=>whnf); intros; (try simp only [decide_eq_true_eq,decide_eq_false_iff_not,Bool.and_eq_true,Bool.or_eq_true,Bool.and_eq_false_imp,Bool.or_eq_false_iff,Bool.not_eq_true',Bool.not_eq_false',beq_iff_eq,bne_iff_ne,ne_eq] at *); (first|(first|exact hM (by assumption)|fail)|fail)))); conv=>whnf)|fail)
      ·exact leB (okPl_t (stampsB_f hcl (spQ_eqR p.t c true h))).symm
      ·refine ⟨c+1,⟨hcl,next_q hp2 (spQ_eqR p.t c false h)⟩,?_,by omega⟩
       (refine And.intro ?_ (And.intro ?_ (And.intro ?_ rfl))<;>(conv=>whnf)<;>repeat' (first|exact trivial|exact LeE.of (Le.refl _)|(with_reducible refine LeE.of ?_)|(first|exact rfl|exact leI (by first|rfl|(rw [wrap64 (by omega) (by omega)]; omega)|fail)|fail)|((with_reducible refine And.intro ?_ ?_)<;>conv=>whnf)))
     ·obtain rfl:c=p.t.length:=by omega
      have ht:stampsB p.t=true:=by rw [stampsB_t hp2]; exact decide_eq_true (by omega)
      conv=>whnf
      repeat' (first|(refine And.intro (fun h=> ?_) (fun h=> ?_)<;>(first|(with_reducible have hd:_<_:=of_decide_eq_true h)|(with_reducible have hd:¬ (_<_):=of_decide_eq_false h)|fail)<;>(first|(first|omega)|(conv=>whnf)))|fail)
      refine loopI Nat (fun c=>c≤p.x.length∧∀ j,j<c→acQ p.x j=true) (fun c=>[(6,intA .i64 c)]) (fun _=>[.box ((cPl u v w p).map .c)]) (fun c=>p.x.length-c) 0 ⟨Nat.zero_le _,fun j hj=>absurd hj (Nat.not_lt_zero _)⟩ ?_ (fun _=>rfl) fun c ⟨hc,hp3⟩=> ?_
      ·(refine And.intro ?_ (And.intro ?_ (And.intro ?_ rfl))<;>(conv=>whnf)<;>repeat' (first|exact trivial|exact LeE.of (Le.refl _)|(first|exact rfl|fail)|((with_reducible refine And.intro ?_ ?_)<;>conv=>whnf)))
      ·by_cases hcl:c<p.x.length
       ·have hC:(0:Int)≤(c:Int)∧(c:Int)<(p.x.length:Int):=by omega
        have CA:=aCheckAct (p.x.getD c ac0) c (hy _ (by rw [List.getD_eq_getElem?_getD,List.getElem?_eq_getElem hcl]; exact List.getElem_mem hcl))
        conv=>whnf
        repeat' (first|(refine Exists.intro _ (And.intro (CA) ?_); conv=>whnf)|(refine And.intro (fun h=> ?_) (fun h=> ?_)<;>(first|(with_reducible have hd:_<_:=of_decide_eq_true h)|(with_reducible have hd:¬ (_<_):=of_decide_eq_false h)|skip)<;>(first|(first|omega)|(conv=>whnf)))|(refine And.intro ?_ ?_; (focus (first|(first|exact hC|fail)|fail)); conv=>whnf)|((with_reducible refine xc_pure ?_); conv=>whnf))
        ·have h:(!acR (p.x.getD c ac0) c)=true:=h
         refine leB (okPl_x (actsB_f hcl ?_)).symm
         unfold acR at h
         unfold acQ
         rw [Bool.not_eq_true'] at h
         rw [h]; rfl
        ·have h:(!acR (p.x.getD c ac0) c)=false:=h
         have h:(acK (p.x.getD c ac0)&&ahB (p.x.getD c ac0).h c)=true:=by simpa [acR] using h
         refine loopI Nat (fun k=>k≤c∧∀ j,j<k→(!eqD (p.x.getD c ac0) (p.x.getD j ac0))=true) (fun k=>[(7,intA .i64 k)]) (fun _=>[.box ((cPl u v w p).map .c)]) (fun k=>c-k) 0 ⟨Nat.zero_le _,fun j hj=>absurd hj (Nat.not_lt_zero _)⟩ ?_ (fun _=>rfl) fun k ⟨hk1,hk2⟩=> ?_
         ·(refine And.intro ?_ (And.intro ?_ (And.intro ?_ rfl))<;>(conv=>whnf)<;>repeat' (first|exact trivial|exact LeE.of (Le.refl _)|(first|exact rfl|fail)|((with_reducible refine And.intro ?_ ?_)<;>conv=>whnf)))
         ·by_cases hkl:k<c
          ·have hC2:(0:Int)≤(k:Int)∧(k:Int)<(p.x.length:Int):=by omega
           have hq:decide ((k:Int)<(c:Int))=true:=decide_eq_true (by omega)
           have hh:=h
           clear h
           conv=>whnf
           repeat' (first|(refine And.intro (fun h=> ?_) (fun h=> ?_)<;>(first|(with_reducible have hd:_<_:=of_decide_eq_true h)|(with_reducible have hd:¬ (_<_):=of_decide_eq_false h)|skip)<;>(first|(first|exact Bool.noConfusion (hq.symm.trans h)|fail)|(conv=>whnf)))|(refine And.intro ?_ ?_; (focus (first|(first|exact seKy|exact hC2|exact chainI hC2|exact hC|exact chainI hC|fail)|fail)); conv=>whnf)|fail)
           ·have h:eqD (p.x.getD k ac0) (p.x.getD c ac0)=true:=h
            rw [eqD_comm] at h
            refine leB (okPl_x (actsB_f hcl ?_)).symm
            unfold acQ
            rw [hasD_allQ _ c hc,allQ_f hkl (by rw [h]; rfl)]; simp
           ·have h:eqD (p.x.getD k ac0) (p.x.getD c ac0)=false:=h
            rw [eqD_comm] at h
            refine ⟨k+1,⟨hkl,next_q hk2 (by rw [h]; rfl)⟩,?_,by omega⟩
            (refine And.intro ?_ (And.intro ?_ (And.intro ?_ rfl))<;>(conv=>whnf)<;>repeat' (first|exact trivial|exact LeE.of (Le.refl _)|(with_reducible refine LeE.of ?_)|(first|exact rfl|exact leI (by first|rfl|(rw [wrap64 (by omega) (by omega)]; omega)|fail)|fail)|((with_reducible refine And.intro ?_ ?_)<;>conv=>whnf)))
          ·obtain rfl:k=c:=by omega
           have hq:decide ((k:Int)<(k:Int))=false:=decide_eq_false (by omega)
           have hh:=h
           clear h
           conv=>whnf
           repeat' (first|(refine And.intro (fun h=> ?_) (fun h=> ?_)<;>(first|(with_reducible have hd:_<_:=of_decide_eq_true h)|(with_reducible have hd:¬ (_<_):=of_decide_eq_false h)|fail)<;>(first|(first|exact Bool.noConfusion (hq.symm.trans h)|fail)|(conv=>whnf)))|fail)
           refine ⟨k+1,⟨hcl,next_q hp3 ?_⟩,?_,by omega⟩
           ·unfold acQ
            rw [hh,hasD_allQ _ k hc,allQ_t hk2]; rfl
           ·(refine And.intro ?_ (And.intro ?_ (And.intro ?_ rfl))<;>(conv=>whnf)<;>repeat' (first|exact trivial|exact LeE.of (Le.refl _)|(with_reducible refine LeE.of ?_)|(first|exact rfl|exact leI (by first|rfl|(rw [wrap64 (by omega) (by omega)]; omega)|fail)|fail)|((with_reducible refine And.intro ?_ ?_)<;>conv=>whnf)))
       ·obtain rfl:c=p.x.length:=by omega
        have hx:actsB p.x=true:=by rw [actsB_t hp3]; exact decide_eq_true (by omega)
        conv=>whnf
        repeat' (first|(refine And.intro (fun h=> ?_) (fun h=> ?_)<;>(first|(with_reducible have hd:_<_:=of_decide_eq_true h)|(with_reducible have hd:¬ (_<_):=of_decide_eq_false h)|fail)<;>(first|(first|omega)|(conv=>whnf)))|fail)
        refine leB ?_
        unfold okPl
        rw [hv,ht,hx,decide_eq_false hs]; rfl
end Go.Proofs.YtaecnniddhikbaaGreatDoor
