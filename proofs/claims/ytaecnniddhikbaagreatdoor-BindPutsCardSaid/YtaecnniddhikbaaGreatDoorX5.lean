/- What functions of the program answer,whatever their arguments. -/
import Derived.Test.YtaecnniddhikbaaGreatDoorX1
import Derived.Test.YtaecnniddhikbaaGreatDoorVw5
set_option linter.unusedSectionVars false
set_option linter.unnecessarySimpa false
set_option linter.unusedSimpArgs false
set_option linter.unusedVariables false
set_option maxRecDepth 100000
set_option maxHeartbeats 8000000
namespace Go.Proofs.YtaecnniddhikbaaGreatDoor
open Go Go.VA
theorem tk_get {ks:List ByteArray}{n c:Nat}(h:c<n)(h2:n≤ks.length):(ks.take n)[c]? =some (ks.getD c ByteArray.empty):=by
 rw [List.getElem?_take,if_pos h,List.getD_eq_getElem?_getD,List.getElem?_eq_getElem (by omega)]; rfl
theorem fidx_ge {α:Type}(p:α→Bool):∀ (l:List α) (c:Nat),-1≤fidx p l c
 | [],_=>by simp [fidx]
 | x::r,c=>by
  simp only [fidx]
  split
  ·omega
  ·exact fidx_ge p r (c+1)
theorem aFindV (t t':Bool)(v:V)(key:ByteArray):ACall Tryz.prog gl 158 [.ag (cVt t t' v),.c (.v (.string key))] [] (intA .i64 (findV v key)):=by
 have L:=aLen t t' v
 have hle:=nIt_le v
 cases h5:(v.k==5)
 ·have e:findV v key= -1:=by unfold findV; rw [h5]; rfl
  rw [e]
  refine acall_of_vc htb hmix (f:=158) rfl rfl rfl (by kernel_rfl) rfl rfl ?_; conv=>whnf
  repeat' (fail)
  refine loopI Nat (fun c=>c=0) (fun c=>[(5,intA .i64 c)]) (fun c=>[.box ((cVt t t' v).map .c)]) (fun c=>c) 0 rfl ?_ (fun _=>rfl) fun c hc=> ?_
  ·(refine And.intro ?_ (And.intro ?_ (And.intro ?_ rfl))<;>(conv=>whnf)<;>repeat' (first|exact trivial|exact LeE.of (Le.refl _)|(first|exact rfl|fail)|((with_reducible refine And.intro ?_ ?_)<;>conv=>whnf)))
  ·subst hc
   conv=>whnf
   repeat' (first|(refine Exists.intro _ (And.intro (L) ?_); conv=>whnf)|(refine And.intro (fun h=> ?_) (fun h=> ?_)<;>(first|skip)<;>(first|(conv=>whnf)))|((with_reducible refine xc_pure ?_); conv=>whnf))
   ·exfalso
    have h:(decide (((0:Nat):Int)<(nIt v:Int))&&(v.k==5))=true:=h
    rw [h5,Bool.and_false] at h
    exact absurd h (by decide)
   ·exact Le.refl _
 ·have hks:=nIt_ks (eq_of_beq h5)
  refine acall_of_vcb htb hmix (f:=158) rfl rfl rfl (by kernel_rfl) rfl rfl fun hb=> ?_; simp only [bndAll,AV.bnd,bnds,C.bnd,cVt,cS,true_and,and_true] at hb; conv=>whnf
  repeat' (fail)
  refine loopI Nat (fun c=>c≤nIt v∧fidx (fun k=>eqs k key) ((v.ks.take (nIt v)).drop c) c=findV v key) (fun c=>[(5,intA .i64 c)]) (fun c=>[.box ((cVt t t' v).map .c)]) (fun c=>nIt v-c) 0 ⟨Nat.zero_le _,by unfold findV; rw [h5]; rfl⟩ ?_ (fun _=>rfl) fun c ⟨hc,hR⟩=> ?_
  ·(refine And.intro ?_ (And.intro ?_ (And.intro ?_ rfl))<;>(conv=>whnf)<;>repeat' (first|exact trivial|exact LeE.of (Le.refl _)|(first|exact rfl|fail)|((with_reducible refine And.intro ?_ ?_)<;>conv=>whnf)))
  ·have hB:c<nIt v→(0:Int)≤(c:Int)∧(c:Int)<(v.ks.length:Int):=fun h=>by omega
   conv=>whnf
   repeat' (first|(refine Exists.intro _ (And.intro (L) ?_); conv=>whnf)|(refine And.intro (fun h=> ?_) (fun h=> ?_)<;>(first|skip)<;>(first|(conv=>whnf)))|(refine And.intro ?_ ?_; (focus (first|((conv=>whnf); intros; (try simp only [decide_eq_true_eq,decide_eq_false_iff_not,Bool.and_eq_true,Bool.or_eq_true,Bool.and_eq_false_imp,Bool.or_eq_false_iff,Bool.not_eq_true',Bool.not_eq_false',beq_iff_eq,bne_iff_ne,ne_eq] at *); (first|omega|fail)))); conv=>whnf)|((with_reducible refine xc_pure ?_); conv=>whnf))
   ·rename_i h0
    have h0:(decide ((c:Int)<(nIt v:Int))&&(v.k==5))=true:=h0
    rw [h5,Bool.and_true,decide_eq_true_eq] at h0
    have hcn:c<nIt v:=by omega
    have h:eqs (v.ks.getD c ByteArray.empty) key=true:=h
    have e:=tk_get hcn hks
    exact leI (by rw [← hR,drop_cons? e]; simp only [fidx]; rw [if_pos h])
   ·rename_i h0
    have h0:(decide ((c:Int)<(nIt v:Int))&&(v.k==5))=true:=h0
    rw [h5,Bool.and_true,decide_eq_true_eq] at h0
    have hcn:c<nIt v:=by omega
    have h:eqs (v.ks.getD c ByteArray.empty) key=false:=h
    have e:=tk_get hcn hks
    refine ⟨c+1,⟨hcn,?_⟩,?_,by show nIt v-(c+1)<nIt v-c; omega⟩
    ·rw [← hR,drop_cons? e]; simp only [fidx]; rw [if_neg (by rw [h]; simp)]
    ·(refine And.intro ?_ (And.intro ?_ (And.intro ?_ rfl))<;>(conv=>whnf)<;>repeat' (first|exact trivial|exact LeE.of (Le.refl _)|(with_reducible refine LeE.of ?_)|(first|exact rfl|exact leI (by first|rfl|(rw [wrap64 (by omega) (by omega)]; omega)|fail)|fail)|((with_reducible refine And.intro ?_ ?_)<;>conv=>whnf)))
   ·have h:(decide ((c:Int)<(nIt v:Int))&&(v.k==5))=false:=h
    rw [h5,Bool.and_true,decide_eq_false_iff_not] at h
    obtain rfl:c=nIt v:=by omega
    exact leI (by rw [← hR,List.drop_of_length_le (by rw [List.length_take]; omega)]; rfl)
theorem findV_lt (v:V)(key:ByteArray):findV v key<(nIt v:Int)∧ -1≤findV v key:=by
 unfold findV
 split
 ·by_cases h:0≤fidx (fun k=>eqs k key) (v.ks.take (nIt v)) 0
  ·obtain ⟨i,x,h1,_,h3⟩:=fidx_pos h
   have:=(List.getElem?_eq_some_iff.1 h1).1
   rw [List.length_take] at this
   omega
  ·have:=fidx_ge (fun k=>eqs k key) (v.ks.take (nIt v)) 0
   omega
 ·omega
theorem rV_int {l:List V}{c:Nat}(h:c<l.length):rV l ((c:Int)).toNat=cV (l.getD c V.z):=by rw [Int.toNat_natCast]; exact rV_getD h
theorem aKnownR (v:V):∀ (t t':Bool),ACall Tryz.prog gl 75 [.ag (cVt t t' v)] [] (boolA (known v)):=by
 induction v using V.ind with
 | h v ih =>
 intro t t'
 have hle:=nIt_le v
 have L:=aLen t t' v
 refine acall_of_vcb htb hmix (f:=75) rfl rfl rfl (by kernel_rfl) rfl rfl fun hb=> ?_; simp only [bndAll,AV.bnd,bnds,C.bnd,cVt,cS,true_and,and_true] at hb; conv=>whnf
 repeat' (first|(refine And.intro (fun h=> ?_) (fun h=> ?_)<;>(first|skip)<;>(first|(conv=>whnf)))|fail)
 ·exact leB (by rw [known_eq,eq_of_beq h]; rfl)
 ·have hk:(v.k != 6)=true:=by rw [bne,h]; rfl
  refine loopI Nat (fun c=>c≤nIt v∧((items v).drop c).any (fun x=> !known x)=(items v).any (fun x=> !known x)) (fun c=>[(3,intA .i64 c)]) (fun c=>[.box ((cVt t t' v).map .c)]) (fun c=>nIt v-c) 0 ⟨Nat.zero_le _,rfl⟩ ?_ (fun _=>rfl) fun c ⟨hc,hR⟩=> ?_
  ·(refine And.intro ?_ (And.intro ?_ (And.intro ?_ rfl))<;>(conv=>whnf)<;>repeat' (first|exact trivial|exact LeE.of (Le.refl _)|(first|exact rfl|fail)|((with_reducible refine And.intro ?_ ?_)<;>conv=>whnf)))
  ·conv=>whnf
   repeat' (first|(refine Exists.intro _ (And.intro (L) ?_); conv=>whnf)|(refine And.intro (fun h=> ?_) (fun h=> ?_)<;>(first|(with_reducible have hd:_<_:=of_decide_eq_true h)|(with_reducible have hd:¬ (_<_):=of_decide_eq_false h)|fail)<;>(first|(conv=>whnf)))|(refine And.intro ?_ ?_; (focus (first|(refine chainI ?_; (first|omega|fail))|fail)); conv=>whnf)|((with_reducible refine xc_pure ?_); conv=>whnf))
   ·have hca:c<nIt v:=by omega
    obtain ⟨x,hx,hm,he⟩:=rV_ex (l:=v.l) (c:=c) (by omega)
    rw [he]
    conv=>whnf
    repeat' (first|(refine Exists.intro _ (And.intro (ih x hm _ _) ?_); conv=>whnf)|(refine And.intro (fun h=> ?_) (fun h=> ?_)<;>(first|skip)<;>(first|(conv=>whnf)))|((with_reducible refine xc_pure ?_); conv=>whnf))
    ·exact leB (by rw [known_eq,← hR,drop_cons? (items_get hca hx),List.any_cons,hk,h]; simp)
    ·refine ⟨c+1,⟨hca,?_⟩,?_,by show nIt v-(c+1)<nIt v-c; omega⟩
     ·rw [← hR,drop_cons? (items_get hca hx),List.any_cons,h]; rfl
     ·(refine And.intro ?_ (And.intro ?_ (And.intro ?_ rfl))<;>(conv=>whnf)<;>repeat' (first|exact trivial|exact LeE.of (Le.refl _)|(with_reducible refine LeE.of ?_)|(first|exact rfl|exact leI (by first|rfl|(rw [wrap64 (by omega) (by omega)]; omega)|fail)|fail)|((with_reducible refine And.intro ?_ ?_)<;>conv=>whnf)))
   ·obtain rfl:c=nIt v:=by omega
    exact leB (by rw [known_eq,← hR,List.drop_of_length_le (by rw [items_len]; omega),hk]; rfl)
end Go.Proofs.YtaecnniddhikbaaGreatDoor
namespace Go.Proofs.YtaecnniddhikbaaGreatDoor
open Go Go.VA
def objIx (t:ByteArray) (v:V) (i:Nat):Bool:= !(eqs (v.ks.getD i ByteArray.empty) (atI t i).n)|| !(fits (v.l.getD i V.z) ((atI t i).k,(atI t i).o))||(atI t i).a&&(v.l.getD i V.z).k==0
theorem objI_x (t:ByteArray)(v:V)(i:Nat):objI t v i= !objIx t v i:=rfl
theorem objH_bits (t:ByteArray)(v:V)(ht:tyB t=true):objP t v=if objH t v then 8 else if (List.range (atN t 19).length).all (objI t v) then 0 else 8:=by unfold objP; rw [ht]; rfl
theorem all_lt {p:Nat→Bool}{n:Nat}(h:∀ j,j<n→p j=true):(List.range n).all p=true:=List.all_eq_true.2 fun j hj=>h j (List.mem_range.1 hj)
theorem all_no {p:Nat→Bool}{n c:Nat}(hc:c<n)(h:p c=false):(List.range n).all p=false:=by
 rw [List.all_eq_false]
 exact ⟨c,List.mem_range.2 hc,by rw [h]; decide⟩
theorem aObjectP (t t':Bool)(ty:ByteArray)(v:V):ACall Tryz.prog gl 103 [.c (.v (.string ty)),.ag (cVt t t' v)] [] (intA .i64 (objP ty v)):=by
 have A:=aAttrsE ty
 have CK:=fun a b=>aCheck a b v
 cases ht:tyB ty
 ·have e:objP ty v=9:=by unfold objP; rw [ht]; rfl
  rw [ht] at A
  rw [e]
  have hq:((9:Int) != 0)=true:=by decide
  refine acall_of_vc htb hmix (f:=103) rfl rfl rfl (by kernel_rfl) rfl rfl ?_; conv=>whnf
  repeat' (first|(refine Exists.intro _ (And.intro (A) ?_); conv=>whnf)|(refine And.intro (fun h=> ?_) (fun h=> ?_)<;>(first|skip)<;>(first|exact absurd h (by decide)|(conv=>whnf)))|((with_reducible refine xc_pure ?_); conv=>whnf))
  all_goals first
   | exact Le.refl _
   | skip
 ·rw [ht] at A
  rw [objH_bits ty v ht]
  cases hh:objH ty v
  ·have hh':=hh
   unfold objH at hh'
   simp only [Bool.or_eq_false_iff,bne_eq_false_iff_eq] at hh'
   obtain ⟨⟨h5,hck⟩,hl⟩:=hh'
   have hl2:v.ks.length=v.l.length:=(ok_of (by rw [← check_law,hck]; rfl)).f.ks5 h5
   have hq2:((0:Int) != 0)=false:=by decide
   have hq:(v.k != 5||checkV v != 0||(v.ks.length:Int) != ((atN ty 19).length:Int))=false:=hh
   rw [if_neg (by decide)]
   refine acall_of_vc htb hmix (f:=103) rfl rfl rfl (by kernel_rfl) rfl rfl ?_; conv=>whnf
   repeat' (first|(refine Exists.intro _ (And.intro (A) ?_); conv=>whnf)|((with_reducible refine GOr.l ?_); (conv=>whnf); refine Exists.intro _ (And.intro (chainI (CK _ _)) ?_); conv=>whnf)|(refine And.intro (fun h=> ?_) (fun h=> ?_)<;>(first|skip)<;>(first|exact absurd h (by decide)|(first|exact Bool.noConfusion (hq.symm.trans h)|fail)|(conv=>whnf)))|((with_reducible refine xc_pure ?_); conv=>whnf))
   ·refine loopI Nat (fun c=>c≤(atN ty 19).length∧∀ j,j<c→objI ty v j=true) (fun c=>[(36,intA .i64 c)]) (fun c=>[.box ((cVt t t' v).map .c)]) (fun c=>(atN ty 19).length-c) 0 ⟨Nat.zero_le _,fun j hj=>absurd hj (Nat.not_lt_zero _)⟩ ?_ (fun _=>rfl) fun c ⟨hc,hp⟩=> ?_
    ·(refine And.intro ?_ (And.intro ?_ (And.intro ?_ rfl))<;>(conv=>whnf)<;>repeat' (first|exact trivial|exact LeE.of (Le.refl _)|(first|exact rfl|fail)|((with_reducible refine And.intro ?_ ?_)<;>conv=>whnf)))
    ·by_cases hcn:c<(atN ty 19).length
     ·have hle:=atN_le ty 19
      have hr:=rV_int (l:=v.l) (c:=c) (by omega)
      have hM:(0:Int)≤(c:Int)∧(c:Int)<((atN ty 19).length:Int):=by omega
      have hC:(0:Int)≤(c:Int)∧(c:Int)<(v.l.length:Int):=by omega
      have hB:(0:Int)≤(c:Int)∧(c:Int)<(v.ks.length:Int):=by omega
      conv=>whnf
      repeat' (first|(refine Exists.intro _ (And.intro (chainI (aFits _ _ _ _ _)) ?_); conv=>whnf)|(refine And.intro (fun h=> ?_) (fun h=> ?_)<;>(first|(with_reducible have hd:_<_:=of_decide_eq_true h)|(with_reducible have hd:¬ (_<_):=of_decide_eq_false h)|skip)<;>(first|(first|omega)|(conv=>whnf)))|((with_reducible refine DOg.l ?_); (conv=>whnf))|(refine And.intro ?_ ?_; (focus (first|(first|exact hB|exact hC|exact hM|fail)|fail)); conv=>whnf)|(rw [hr]; conv=>whnf))
      ·have h:objIx ty v c=true:=h
       have h:objI ty v c=false:=by rw [objI_x,h]; rfl
       exact leI (by rw [all_no hcn h]; rfl)
      ·have h:objIx ty v c=false:=h
       have h:objI ty v c=true:=by rw [objI_x,h]; rfl
       refine ⟨c+1,⟨hcn,fun j hj=> ?_⟩,?_,by show (atN ty 19).length-(c+1)<(atN ty 19).length-c; omega⟩
       ·by_cases e:j=c
        ·subst e; exact h
        ·exact hp j (by omega)
       ·(refine And.intro ?_ (And.intro ?_ (And.intro ?_ rfl))<;>(conv=>whnf)<;>repeat' (first|exact trivial|exact LeE.of (Le.refl _)|(with_reducible refine LeE.of ?_)|(first|exact rfl|exact leI (by first|rfl|(rw [wrap64 (by omega) (by omega)]; omega)|fail)|fail)|((with_reducible refine And.intro ?_ ?_)<;>conv=>whnf)))
     ·obtain rfl:c=(atN ty 19).length:=by omega
      have hq:decide (((atN ty 19).length:Int)<((atN ty 19).length:Int))=false:=decide_eq_false (by omega)
      conv=>whnf
      repeat' (first|(refine And.intro (fun h=> ?_) (fun h=> ?_)<;>(first|(with_reducible have hd:_<_:=of_decide_eq_true h)|(with_reducible have hd:¬ (_<_):=of_decide_eq_false h)|fail)<;>(first|(first|exact Bool.noConfusion (hq.symm.trans h)|fail)|(conv=>whnf)))|fail)
      exact leI (by rw [all_lt hp]; rfl)
  ·have hq:(v.k != 5||checkV v != 0||(v.ks.length:Int) != ((atN ty 19).length:Int))=true:=hh
   have hq2:((0:Int) != 0)=false:=by decide
   rw [if_pos rfl]
   refine acall_of_vc htb hmix (f:=103) rfl rfl rfl (by kernel_rfl) rfl rfl ?_; conv=>whnf
   repeat' (first|(refine Exists.intro _ (And.intro (A) ?_); conv=>whnf)|((with_reducible refine GOr.l ?_); (conv=>whnf); refine Exists.intro _ (And.intro (chainI (CK _ _)) ?_); conv=>whnf)|(refine And.intro (fun h=> ?_) (fun h=> ?_)<;>(first|skip)<;>(first|exact absurd h (by decide)|(first|exact Bool.noConfusion (hq.symm.trans h)|fail)|(conv=>whnf)))|((with_reducible refine xc_pure ?_); conv=>whnf))
   all_goals first
    | exact Le.refl _
    | skip
def objJx (t:ByteArray) (v:V) (i:Nat):Bool:=decide (findV v (atI t i).n<0)|| !(fitsR (v.l.getD (findV v (atI t i).n).toNat V.z) ((atI t i).k,(atI t i).o))||(atI t i).a&&(v.l.getD (findV v (atI t i).n).toNat V.z).k==0
theorem objJ_x (t:ByteArray)(v:V)(i:Nat):objJ t v i= !objJx t v i:=rfl
theorem objG_bits (t:ByteArray)(v:V)(ht:tyB t=true):objR t v=if objG t v then 8 else if (List.range (atN t 19).length).all (objJ t v) then 0 else 8:=by unfold objR; rw [ht]; rfl
theorem aObjectR (t t':Bool)(ty:ByteArray)(v:V):ACall Tryz.prog gl 138 [.c (.v (.string ty)),.ag (cVt t t' v)] [] (intA .i64 (objR ty v)):=by
 have A:=aAttrs ty
 have CK:=fun a b=>aCheckR a b v
 cases ht:tyB ty
 ·have e:objR ty v=9:=by unfold objR; rw [ht]; rfl
  rw [at_nil ht] at A
  rw [e]
  have hq:((([]:List Aw).length:Int)==0)=true:=rfl
  refine acall_of_vc htb hmix (f:=138) rfl rfl rfl (by kernel_rfl) rfl rfl ?_; conv=>whnf
  repeat' (first|(refine Exists.intro _ (And.intro (A) ?_); conv=>whnf)|(refine And.intro (fun h=> ?_) (fun h=> ?_)<;>(first|skip)<;>(first|exact absurd h (by decide)|(conv=>whnf)))|((with_reducible refine xc_pure ?_); conv=>whnf))
  all_goals first
   | exact Le.refl _
   | skip
 ·have hpos:=at_pos ht
  rw [objG_bits ty v ht]
  have hq2:(((atN ty 19).length:Int)==0)=false:=by rw [beq_eq_false_iff_ne]; omega
  cases hh:objG ty v
  ·have hh':=hh
   unfold objG at hh'
   simp only [Bool.or_eq_false_iff,bne_eq_false_iff_eq,Bool.not_eq_false'] at hh'
   obtain ⟨⟨h5,hck⟩,hl⟩:=hh'
   have hl2:v.ks.length=v.l.length:=(ok_of hck).f.ks5 h5
   have hq:(v.k != 5|| !checkR v||(v.ks.length:Int) != ((atN ty 19).length:Int))=false:=hh
   rw [if_neg (by decide)]
   refine acall_of_vc htb hmix (f:=138) rfl rfl rfl (by kernel_rfl) rfl rfl ?_; conv=>whnf
   repeat' (first|(refine Exists.intro _ (And.intro (A) ?_); conv=>whnf)|((with_reducible refine GOr.l ?_); (conv=>whnf); refine Exists.intro _ (And.intro (chainI (CK _ _)) ?_); conv=>whnf)|(refine And.intro (fun h=> ?_) (fun h=> ?_)<;>(first|skip)<;>(first|(first|exact Bool.noConfusion (hq.symm.trans h)|exact Bool.noConfusion (hq2.symm.trans h)|fail)|(conv=>whnf)))|((with_reducible refine xc_pure ?_); conv=>whnf))
   ·refine loopI Nat (fun c=>c≤(atN ty 19).length∧∀ j,j<c→objJ ty v j=true) (fun c=>[(6,intA .i64 c)]) (fun c=>[.box ((cVt t t' v).map .c)]) (fun c=>(atN ty 19).length-c) 0 ⟨Nat.zero_le _,fun j hj=>absurd hj (Nat.not_lt_zero _)⟩ ?_ (fun _=>rfl) fun c ⟨hc,hp⟩=> ?_
    ·(refine And.intro ?_ (And.intro ?_ (And.intro ?_ rfl))<;>(conv=>whnf)<;>repeat' (first|exact trivial|exact LeE.of (Le.refl _)|(first|exact rfl|fail)|((with_reducible refine And.intro ?_ ?_)<;>conv=>whnf)))
    ·by_cases hcn:c<(atN ty 19).length
     ·have hle:=atN_le ty 19
      have hfl:=findV_lt v (atI ty c).n
      have hnl:=nIt_le v
      have F:=fun a b=>aFindV a b v (atI ty c).n
      have hr:rV v.l (findV v (atI ty c).n).toNat=cV (v.l.getD (findV v (atI ty c).n).toNat V.z):=rV_getD (by omega)
      have hM:(0:Int)≤(c:Int)∧(c:Int)<((atN ty 19).length:Int):=by omega
      have hC:decide (findV v (atI ty c).n<0)=false→(0:Int)≤findV v (atI ty c).n∧findV v (atI ty c).n<(v.l.length:Int):=fun h=>by
       have:=of_decide_eq_false h
       omega
      conv=>whnf
      repeat' (first|(refine Exists.intro _ (And.intro (chainI (F _ _)) ?_); conv=>whnf)|(refine Exists.intro _ (And.intro (chainI (aFitsR _ _ _ _ _)) ?_); conv=>whnf)|(refine And.intro (fun h=> ?_) (fun h=> ?_)<;>(first|(with_reducible have hd:_<_:=of_decide_eq_true h)|(with_reducible have hd:¬ (_<_):=of_decide_eq_false h)|skip)<;>(first|(first|omega)|(conv=>whnf)))|((with_reducible refine DOg.l ?_); (conv=>whnf))|((with_reducible refine DOr.l ?_); (conv=>whnf))|(refine And.intro ?_ ?_; (focus (first|(first|exact hC|exact hM|exact fun _=>hM|fail)|((conv=>whnf); intros; (try simp only [decide_eq_true_eq,decide_eq_false_iff_not,Bool.and_eq_true,Bool.or_eq_true,Bool.and_eq_false_imp,Bool.or_eq_false_iff,Bool.not_eq_true',Bool.not_eq_false',beq_iff_eq,bne_iff_ne,ne_eq] at *); (first|omega|fail)))); conv=>whnf)|(rw [hr]; conv=>whnf))
      ·have h:objJx ty v c=true:=h
       have h:objJ ty v c=false:=by rw [objJ_x,h]; rfl
       exact leI (by rw [all_no hcn h]; rfl)
      ·have h:objJx ty v c=false:=h
       have h:objJ ty v c=true:=by rw [objJ_x,h]; rfl
       refine ⟨c+1,⟨hcn,fun j hj=> ?_⟩,?_,by show (atN ty 19).length-(c+1)<(atN ty 19).length-c; omega⟩
       ·by_cases e:j=c
        ·subst e; exact h
        ·exact hp j (by omega)
       ·(refine And.intro ?_ (And.intro ?_ (And.intro ?_ rfl))<;>(conv=>whnf)<;>repeat' (first|exact trivial|exact LeE.of (Le.refl _)|(with_reducible refine LeE.of ?_)|(first|exact rfl|exact leI (by first|rfl|(rw [wrap64 (by omega) (by omega)]; omega)|fail)|fail)|((with_reducible refine And.intro ?_ ?_)<;>conv=>whnf)))
     ·obtain rfl:c=(atN ty 19).length:=by omega
      have hq:decide (((atN ty 19).length:Int)<((atN ty 19).length:Int))=false:=decide_eq_false (by omega)
      conv=>whnf
      repeat' (first|(refine And.intro (fun h=> ?_) (fun h=> ?_)<;>(first|(with_reducible have hd:_<_:=of_decide_eq_true h)|(with_reducible have hd:¬ (_<_):=of_decide_eq_false h)|fail)<;>(first|(first|exact Bool.noConfusion (hq.symm.trans h)|fail)|(conv=>whnf)))|fail)
      exact leI (by rw [all_lt hp]; rfl)
  ·have hq:(v.k != 5|| !checkR v||(v.ks.length:Int) != ((atN ty 19).length:Int))=true:=hh
   rw [if_pos rfl]
   refine acall_of_vc htb hmix (f:=138) rfl rfl rfl (by kernel_rfl) rfl rfl ?_; conv=>whnf
   repeat' (first|(refine Exists.intro _ (And.intro (A) ?_); conv=>whnf)|((with_reducible refine GOr.l ?_); (conv=>whnf); refine Exists.intro _ (And.intro (chainI (CK _ _)) ?_); conv=>whnf)|(refine And.intro (fun h=> ?_) (fun h=> ?_)<;>(first|skip)<;>(first|(first|exact Bool.noConfusion (hq.symm.trans h)|exact Bool.noConfusion (hq2.symm.trans h)|fail)|(conv=>whnf)))|((with_reducible refine xc_pure ?_); conv=>whnf))
   all_goals first
    | exact Le.refl _
    | skip
end Go.Proofs.YtaecnniddhikbaaGreatDoor
namespace Go.Proofs.YtaecnniddhikbaaGreatDoor
open Go Go.VA
end Go.Proofs.YtaecnniddhikbaaGreatDoor
