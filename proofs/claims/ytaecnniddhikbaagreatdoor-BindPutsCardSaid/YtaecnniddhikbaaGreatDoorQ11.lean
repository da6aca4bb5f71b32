/- What functions of the program answer,whatever their arguments. -/
import Derived.Test.YtaecnniddhikbaaGreatDoorQ8
import Derived.Test.YtaecnniddhikbaaGreatDoorQ10
set_option linter.unusedSectionVars false
set_option linter.unnecessarySimpa false
set_option linter.unusedSimpArgs false
set_option linter.unusedVariables false
set_option maxRecDepth 100000
set_option maxHeartbeats 8000000
namespace Go.Proofs.YtaecnniddhikbaaGreatDoor
open Go Go.VA
theorem catI0 (u v w:Bool)(p:Pl){F:Nat→List C}(hF:∀ j,j<32→F j=[nthCC (cPl u v w p) (0+0+(0+j))]):∀ i,i<(pb0 p).length→catF 0 (0+32+(shortL p.a.toNat).length+(shortL p.s.toNat).length) (catF 0 (0+32+(shortL p.a.toNat).length) (catF 0 (0+32) (catF 0 0 (fun _=>[]) F) (rB (shortL p.a.toNat))) (rB (shortL p.s.toNat))) (rB (shortL p.b.length)) i=rB (pb0 p) i:=by
 intro i hi
 refine catRB (A:=sumL p.c++shortL p.a.toNat++shortL p.s.toNat) (by rw [List.length_append,List.length_append,sumL_len,Nat.zero_add]) (fun j hj=> ?_) (fun _ _=>rfl) i hi
 refine catRB (A:=sumL p.c++shortL p.a.toNat) (by rw [List.length_append,sumL_len,Nat.zero_add]) (fun j hj=> ?_) (fun _ _=>rfl) j hj
 refine catRB (A:=sumL p.c) (by rw [sumL_len]) (fun j hj=> ?_) (fun _ _=>rfl) j hj
 refine catRB (A:=[]) (B:=sumL p.c) rfl (fun j hj=>absurd hj (Nat.not_lt_zero _)) (fun j hj=> ?_) j hj
 rw [sumL_len] at hj
 rw [hF j hj]
 exact cfgB u v w p j hj
theorem spl_at {p:Pl}(o:OkP p)(r:RgPl p){c:Nat}(hc:c<p.b.length):checkV (p.b.getD c bd0).v=0∧rgV (p.b.getD c bd0).v=true:=⟨(o.b c hc).v,r.b _ (by rw [List.getD_eq_getElem?_getD,List.getElem?_eq_getElem hc]; exact List.getElem_mem hc)⟩
theorem sx_at {p:Pl}(r:RgPl p){c:Nat}(hc:c<p.x.length):rgV (p.x.getD c ac0).p=true∧rgV (p.x.getD c ac0).w=true:=(r.x _ (by rw [List.getD_eq_getElem?_getD,List.getElem?_eq_getElem hc]; exact List.getElem_mem hc)).2.2
theorem acH_0 (x:Ac):acH x 0=[IntKind.u8.wrap x.k]++kyL x.y++layL x.p++layL x.w++shortL x.h.length:=by unfold acH ahL; simp
theorem acL_eq (x:Ac):acL x=acH x x.h.length:=rfl
def BOk (m:Nat):Prop:=m*(tb 5).bytes≤140737488355328
theorem catX0 (A K P W S:List Int)(x:Int):∀ i,i<A.length+(1+K.length+P.length+W.length+S.length) →
  catF 0 (A.length+1+K.length+P.length+W.length) (catF 0 (A.length+1+K.length+P.length) (catF 0 (A.length+1+K.length) (catF 0 (A.length+1) (catF 0 A.length (rB A) (nthC [cBy x])) (rB K)) (rB P)) (rB W)) (rB S) i=rB (A++([x]++K++P++W++S)) i:=by
 intro i hi
 have e:A++([x]++K++P++W++S)=A++[x]++K++P++W++S:=by simp only [List.append_assoc]
 rw [e]
 refine catRB (A:=A++[x]++K++P++W) (by simp only [List.length_append,List.length_singleton]) (catRB (A:=A++[x]++K++P) (by simp only [List.length_append,List.length_singleton]) (catRB (A:=A++[x]++K) (by simp only [List.length_append,List.length_singleton]) (catRB (A:=A++[x]) (by simp only [List.length_append,List.length_singleton]) (catRB rfl (fun _ _=>rfl) (rB1 x)) (fun _ _=>rfl)) (fun _ _=>rfl)) (fun _ _=>rfl)) (fun _ _=>rfl) i (by simp only [List.length_append,List.length_singleton]; omega)
attribute [local irreducible] kyL layL shortL bitsI acL strL sumL pxH ptH pbH acH
theorem gInP (p:Pl)(o:OkP p)(r:RgPl p):GCall Tryz.prog gl 34 [] [.ag (cPl false false false p)] [.row 1 (inP p).length (rB (inP p))] [.own 0 1 0 (inP p).length]:=by
 have a0:=r.a0
 have a1:=r.a1
 have s0:=r.s0
 have s1:=r.s1
 have hbl:=o.bl
 have htl:=o.tl
 have hxl:=o.xl
 have la:=shortL_len p.a.toNat
 have lb:=shortL_len p.s.toNat
 have lc:=shortL_len p.b.length
 have wl:IntKind.u64.wrap (p.b.length:Int)=p.b.length:=wrapU (by omega) (by omega)
 have wt:IntKind.u64.wrap (p.t.length:Int)=p.t.length:=wrapU (by omega) (by omega)
 have wx:IntKind.u64.wrap (p.x.length:Int)=p.x.length:=wrapU (by omega) (by omega)
 have D1:=aShortD p.a a0 a1
 have D2:=aShortD p.s s0 s1
 have D3:=aShortD (IntKind.u64.wrap (p.b.length:Int)) (by rw [wl]; omega) (by rw [wl]; omega)
 have D4:=aShortD (IntKind.u64.wrap (p.t.length:Int)) (by rw [wt]; omega) (by rw [wt]; omega)
 have D5:=aShortD (IntKind.u64.wrap (p.x.length:Int)) (by rw [wx]; omega) (by rw [wx]; omega)
 have BB:∀ m:Nat,m≤1000000000→BOk m:=fun m h=>by show m*1≤_; omega
 have B0:=BB (0+32) (by omega)
 have B1:=BB (0+32+(shortL p.a.toNat).length) (by omega)
 have B2:=BB (0+32+(shortL p.a.toNat).length+(shortL p.s.toNat).length) (by omega)
 have B3:=BB (0+32+(shortL p.a.toNat).length+(shortL p.s.toNat).length+(shortL (IntKind.u64.wrap (p.b.length:Int)).toNat).length) (by rw [wl,Int.toNat_natCast]; omega)
 have e0:pbH p 0=pb0 p:=by unfold pbH bdsL; simp
 have el0:(pbH p 0).length=32+(shortL p.a.toNat).length+(shortL p.s.toNat).length+(shortL p.b.length).length:=by rw [e0]; unfold pb0; simp only [List.length_append,sumL_len]
 refine gcall_of_vcb htb hmix (f:=34) rfl rfl rfl (by kernel_rfl) rfl rfl rfl fun hb hb2=> ?_; simp only [bndOs,bndO,gbnds,AV.gbnd,bnds,C.bnd,true_and,and_true] at hb hb2; conv=>whnf
 repeat' (first|(refine Exists.intro _ (And.intro (D1) ?_); conv=>whnf)|(refine Exists.intro _ (And.intro (D2) ?_); conv=>whnf)|(refine Exists.intro _ (And.intro (D3) ?_); conv=>whnf)|((with_reducible refine NilOr.l ?_); conv=>whnf)|((with_reducible refine FzOr.r ?_); conv=>whnf)|((with_reducible refine OwnOr.l ?_); (conv=>whnf))|(refine And.intro ?_ ?_; (focus (first|(first|exact B0|exact B1|exact B2|exact B3|fail)|fail)); conv=>whnf)|((with_reducible refine xc_pure ?_); conv=>whnf))
 refine loopI Nat (fun c=>c≤p.b.length) (fun c=>[(4,intA .i64 c),(3,.own 2 1 0 (pbH p c).length)]) (fun c=>[.dead,.row (tb 5).sz 0 (fun _=>[]),.row 1 (pbH p c).length (rB (pbH p c))]) (fun c=>p.b.length-c) 0 (Nat.zero_le _) ?_ (fun _=>rfl) fun c (hc:c≤p.b.length)=> ?_
 ·simp only [wl,Int.toNat_natCast]
  (refine And.intro ?_ (And.intro ?_ (And.intro ?_ rfl))<;>(conv=>whnf)<;>repeat' (first|exact trivial|exact LeE.of (Le.refl _)|(with_reducible refine LeE.of ?_)|(first|exact rfl|exact fun i hi=>LeCs.refl _|exact leOwn (by first|rfl|omega))|((with_reducible refine And.intro ?_ ?_)<;>conv=>whnf)))
  all_goals first
   | omega
   | exact leOwn (by omega)
   | exact fun i hi=>LeCs.of_eq (by rw [e0]; rw [e0] at hi; exact catI0 false false false p (fun _ _=>rfl) i hi)
 ·by_cases hcl:c<p.b.length
  ·have hC:(0:Int)≤(c:Int)∧(c:Int)<(p.b.length:Int):=by omega
   have hlen:=pbH_len o c hc
   have ob:=o.b c hcl
   have hn:=ob.n
   have ls:=strL_len (p.b.getD c bd0).n
   have hb:=check_big ob.v
   have lv:=layL_big (p.b.getD c bd0).v
   have E1:=aStrD (p.b.getD c bd0).n (by omega)
   have E2:=aFormV (p.b.getD c bd0).v ob.v (spl_at o r hcl).2 false false
   have B4:=BB ((pbH p c).length+(strL (p.b.getD c bd0).n).length) (by omega)
   have B5:=BB ((pbH p c).length+(strL (p.b.getD c bd0).n).length+(layL (p.b.getD c bd0).v).length) (by omega)
   have es:=pbH_succ hcl
   rw [bdL_eq] at es
   have el:=congrArg List.length es
   rw [List.length_append,List.length_append] at el
   conv=>whnf
   repeat' (first|(refine Exists.intro _ (And.intro (E1) ?_); conv=>whnf)|(refine Exists.intro _ (And.intro (E2) ?_); conv=>whnf)|(refine And.intro (fun h=> ?_) (fun h=> ?_)<;>(first|(with_reducible have hd:_<_:=of_decide_eq_true h)|(with_reducible have hd:¬ (_<_):=of_decide_eq_false h)|fail)<;>(first|omega|(conv=>whnf)))|(refine And.intro ?_ ?_; (focus (first|(first|exact B4|exact B5|exact hC|fail)|fail)); conv=>whnf)|((with_reducible refine xc_pure ?_); conv=>whnf))
   all_goals
    refine ⟨c+1,hcl,?_,by omega⟩
    (refine And.intro ?_ (And.intro ?_ (And.intro ?_ rfl))<;>(conv=>whnf)<;>repeat' (first|exact trivial|exact LeE.of (Le.refl _)|(with_reducible refine LeE.of ?_)|(first|exact rfl|exact leI (by first|rfl|(rw [wrap64 (by omega) (by omega)]; omega)|fail)|exact fun i hi=>LeCs.refl _|exact leOwn (by first|rfl|omega))|((with_reducible refine And.intro ?_ ?_)<;>conv=>whnf)))
    all_goals first
     | omega
     | exact leOwn (by omega)
     | exact fun i hi=>LeCs.of_eq (by rw [es]; rw [es] at hi; rw [← List.append_assoc]; rw [← List.append_assoc] at hi; exact catRB (by rw [List.length_append]) (catRB rfl (fun _ _=>rfl) (fun _ _=>rfl)) (fun _ _=>rfl) i hi)
  ·obtain rfl:c=p.b.length:=by omega
   have hlen:=pbH_len o p.b.length (Nat.le_refl _)
   have lt:=shortL_len p.t.length
   have B4:=BB ((pbH p p.b.length).length+(shortL (IntKind.u64.wrap (p.t.length:Int)).toNat).length) (by rw [wt,Int.toNat_natCast]; omega)
   conv=>whnf
   repeat' (first|(refine Exists.intro _ (And.intro (D4) ?_); conv=>whnf)|(refine And.intro (fun h=> ?_) (fun h=> ?_)<;>(first|(with_reducible have hd:_<_:=of_decide_eq_true h)|(with_reducible have hd:¬ (_<_):=of_decide_eq_false h)|fail)<;>(first|omega|(conv=>whnf)))|(refine And.intro ?_ ?_; (focus (first|(first|exact B4|fail)|fail)); conv=>whnf)|((with_reducible refine xc_pure ?_); conv=>whnf))
   have e1:ptH p 0=pbH p p.b.length++shortL p.t.length:=by unfold ptH pt0 spsL; simp
   have el1:(ptH p 0).length=(pbH p p.b.length).length+(shortL p.t.length).length:=by rw [e1,List.length_append]
   refine loopI Nat (fun c=>c≤p.t.length) (fun c=>[(5,intA .i64 c),(3,.own 2 1 0 (ptH p c).length)]) (fun c=>[.dead,.row (tb 5).sz 0 (fun _=>[]),.row 1 (ptH p c).length (rB (ptH p c))]) (fun c=>p.t.length-c) 0 (Nat.zero_le _) ?_ (fun _=>rfl) fun c (hc:c≤p.t.length)=> ?_
   ·simp only [wt,Int.toNat_natCast]
    (refine And.intro ?_ (And.intro ?_ (And.intro ?_ rfl))<;>(conv=>whnf)<;>repeat' (first|exact trivial|exact LeE.of (Le.refl _)|(with_reducible refine LeE.of ?_)|(first|exact rfl|exact fun i hi=>LeCs.refl _|exact leOwn (by first|rfl|omega))|((with_reducible refine And.intro ?_ ?_)<;>conv=>whnf)))
    all_goals first
     | omega
     | exact leOwn (by omega)
     | exact fun i hi=>LeCs.of_eq (by rw [e1]; rw [e1] at hi; exact catRB rfl (fun _ _=>rfl) (fun _ _=>rfl) i hi)
   ·by_cases hcl:c<p.t.length
    ·have hC:(0:Int)≤(c:Int)∧(c:Int)<(p.t.length:Int):=by omega
     have hlen:=ptH_len o c hc
     have ok:=o.t c hcl
     have lk:=kyL_len ok
     have E1:=aKyD (p.t.getD c sp0).y ok
     have B4:=BB ((ptH p c).length+(kyL (p.t.getD c sp0).y).length) (by omega)
     have B5:=BB ((ptH p c).length+(kyL (p.t.getD c sp0).y).length+32) (by omega)
     have es:=ptH_succ hcl
     rw [spL_eq] at es
     have el:=congrArg List.length es
     rw [List.length_append,List.length_append,sumL_len] at el
     conv=>whnf
     repeat' (first|(refine Exists.intro _ (And.intro (E1) ?_); conv=>whnf)|(refine And.intro (fun h=> ?_) (fun h=> ?_)<;>(first|(with_reducible have hd:_<_:=of_decide_eq_true h)|(with_reducible have hd:¬ (_<_):=of_decide_eq_false h)|fail)<;>(first|omega|(conv=>whnf)))|(refine And.intro ?_ ?_; (focus (first|(first|exact B4|exact B5|exact hC|fail)|fail)); conv=>whnf)|((with_reducible refine xc_pure ?_); conv=>whnf))
     all_goals
      refine ⟨c+1,hcl,?_,by omega⟩
      (refine And.intro ?_ (And.intro ?_ (And.intro ?_ rfl))<;>(conv=>whnf)<;>repeat' (first|exact trivial|exact LeE.of (Le.refl _)|(with_reducible refine LeE.of ?_)|(first|exact rfl|exact leI (by first|rfl|(rw [wrap64 (by omega) (by omega)]; omega)|fail)|exact fun i hi=>LeCs.refl _|exact leOwn (by first|rfl|omega))|((with_reducible refine And.intro ?_ ?_)<;>conv=>whnf)))
      all_goals first
       | omega
       | exact leOwn (by omega)
       | exact fun i hi=>LeCs.of_eq (by rw [es]; rw [es] at hi; rw [← List.append_assoc]; rw [← List.append_assoc] at hi; exact catRB (by rw [List.length_append]) (catRB rfl (fun _ _=>rfl) (fun _ _=>rfl)) (fun j hj=>spS _ _ rfl j (by rw [sumL_len] at hj; exact hj)) i hi)
    ·obtain rfl:c=p.t.length:=by omega
     have hlen2:=ptH_len o p.t.length (Nat.le_refl _)
     have lx:=shortL_len p.x.length
     have B4:=BB ((ptH p p.t.length).length+(shortL (IntKind.u64.wrap (p.x.length:Int)).toNat).length) (by rw [wx,Int.toNat_natCast]; omega)
     conv=>whnf
     repeat' (first|(refine Exists.intro _ (And.intro (D5) ?_); conv=>whnf)|(refine And.intro (fun h=> ?_) (fun h=> ?_)<;>(first|(with_reducible have hd:_<_:=of_decide_eq_true h)|(with_reducible have hd:¬ (_<_):=of_decide_eq_false h)|fail)<;>(first|omega|(conv=>whnf)))|(refine And.intro ?_ ?_; (focus (first|(first|exact B4|fail)|fail)); conv=>whnf)|((with_reducible refine xc_pure ?_); conv=>whnf))
     have e2:pxH p 0=ptH p p.t.length++shortL p.x.length:=by unfold pxH px0 acsL; simp
     have el2:(pxH p 0).length=(ptH p p.t.length).length+(shortL p.x.length).length:=by rw [e2,List.length_append]
     refine loopI Nat (fun c=>c≤p.x.length) (fun c=>[(6,intA .i64 c),(3,.own 2 1 0 (pxH p c).length)]) (fun c=>[.dead,.row (tb 5).sz 0 (fun _=>[]),.row 1 (pxH p c).length (rB (pxH p c))]) (fun c=>p.x.length-c) 0 (Nat.zero_le _) ?_ (fun _=>rfl) fun c (hc:c≤p.x.length)=> ?_
     ·simp only [wx,Int.toNat_natCast]
      (refine And.intro ?_ (And.intro ?_ (And.intro ?_ rfl))<;>(conv=>whnf)<;>repeat' (first|exact trivial|exact LeE.of (Le.refl _)|(with_reducible refine LeE.of ?_)|(first|exact rfl|exact fun i hi=>LeCs.refl _|exact leOwn (by first|rfl|omega))|((with_reducible refine And.intro ?_ ?_)<;>conv=>whnf)))
      all_goals first
       | omega
       | exact leOwn (by omega)
       | exact fun i hi=>LeCs.of_eq (by rw [e2]; rw [e2] at hi; exact catRB rfl (fun _ _=>rfl) (fun _ _=>rfl) i hi)
     ·by_cases hcl:c<p.x.length
      ·have hC:(0:Int)≤(c:Int)∧(c:Int)<(p.x.length:Int):=by omega
       have hlen:=pxH_len o c hc
       have oa:=o.x c hcl
       have rx:=sx_at r hcl
       have ep:=pxH_succ hcl
       have hbp:=check_big oa.p
       have hbw:=check_big oa.w
       have l1:=kyL_len oa.y
       have l2:=layL_big (p.x.getD c ac0).p
       have l3:=layL_big (p.x.getD c ac0).w
       have l4:=shortL_len (p.x.getD c ac0).h.length
       have hl:=oa.l
       have wh:IntKind.u64.wrap ((p.x.getD c ac0).h.length:Int)=(p.x.getD c ac0).h.length:=wrapU (by omega) (by omega)
       have E1:=aKyD (p.x.getD c ac0).y oa.y
       have E2:=aFormV (p.x.getD c ac0).p oa.p rx.1 false false
       have E3:=aFormV (p.x.getD c ac0).w oa.w rx.2 false false
       have E4:=aShortD (IntKind.u64.wrap ((p.x.getD c ac0).h.length:Int)) (by rw [wh]; omega) (by rw [wh]; omega)
       have B1:=BB ((pxH p c).length+1) (by omega)
       have B2:=BB ((pxH p c).length+1+(kyL (p.x.getD c ac0).y).length) (by omega)
       have B3:=BB ((pxH p c).length+1+(kyL (p.x.getD c ac0).y).length+(layL (p.x.getD c ac0).p).length) (by omega)
       have B4:=BB ((pxH p c).length+1+(kyL (p.x.getD c ac0).y).length+(layL (p.x.getD c ac0).p).length+(layL (p.x.getD c ac0).w).length) (by omega)
       have B5:=BB ((pxH p c).length+1+(kyL (p.x.getD c ac0).y).length+(layL (p.x.getD c ac0).p).length+(layL (p.x.getD c ac0).w).length+(shortL (IntKind.u64.wrap ((p.x.getD c ac0).h.length:Int)).toNat).length) (by rw [wh,Int.toNat_natCast]; omega)
       conv=>whnf
       repeat' (first|(refine Exists.intro _ (And.intro (E1) ?_); conv=>whnf)|(refine Exists.intro _ (And.intro (E2) ?_); conv=>whnf)|(refine Exists.intro _ (And.intro (E3) ?_); conv=>whnf)|(refine Exists.intro _ (And.intro (E4) ?_); conv=>whnf)|(refine And.intro (fun h=> ?_) (fun h=> ?_)<;>(first|(with_reducible have hd:_<_:=of_decide_eq_true h)|(with_reducible have hd:¬ (_<_):=of_decide_eq_false h)|fail)<;>(first|omega|(conv=>whnf)))|((with_reducible refine FzOr.l ?_); conv=>whnf)|((with_reducible refine OwnOr.l ?_); (conv=>whnf))|(refine And.intro ?_ ?_; (focus (first|(first|exact B1|exact B2|exact B3|exact B4|exact B5|exact hC|fail)|fail)); conv=>whnf)|((with_reducible refine xc_pure ?_); conv=>whnf))
       have g0:=acH_0 (p.x.getD c ac0)
       have gl0:(acH (p.x.getD c ac0) 0).length=1+(kyL (p.x.getD c ac0).y).length+(layL (p.x.getD c ac0).p).length+(layL (p.x.getD c ac0).w).length+(shortL (p.x.getD c ac0).h.length).length:=by rw [g0]; simp only [List.length_append,List.length_singleton]
       refine loopI Nat (fun k=>k≤(p.x.getD c ac0).h.length) (fun k=>[(8,intA .i64 k),(3,.own 2 1 0 ((pxH p c).length+(acH (p.x.getD c ac0) k).length))]) (fun k=>[.dead,.row (tb 5).sz 0 (fun _=>[]),.row 1 ((pxH p c).length+(acH (p.x.getD c ac0) k).length) (rB (pxH p c++acH (p.x.getD c ac0) k)),.box ((cAc (p.x.getD c ac0)).map .c)]) (fun k=>(p.x.getD c ac0).h.length-k) 0 (Nat.zero_le _) ?_ (fun _=>rfl) fun k (hk:k≤(p.x.getD c ac0).h.length)=> ?_
       ·simp only [wh,Int.toNat_natCast]
        (refine And.intro ?_ (And.intro ?_ (And.intro ?_ rfl))<;>(conv=>whnf)<;>repeat' (first|exact trivial|exact LeE.of (Le.refl _)|(with_reducible refine LeE.of ?_)|(first|exact rfl|exact fun i hi=>LeCs.refl _|exact leOwn (by first|rfl|omega))|((with_reducible refine And.intro ?_ ?_)<;>conv=>whnf)))
        all_goals first
         | omega
         | exact leOwn (by omega)
         | exact fun i hi=>LeCs.of_eq (by rw [g0]; exact catX0 _ _ _ _ _ _ i (by rw [gl0] at hi; omega))
       ·by_cases hkl:k<(p.x.getD c ac0).h.length
        ·have hC2:(0:Int)≤(k:Int)∧(k:Int)<((p.x.getD c ac0).h.length:Int):=by omega
         have alen:=acH_len oa k hk
         have hh:=oa.h k hkl
         have hs':=shortL_len ((p.x.getD c ac0).h.getD k 0).toNat
         have wk:IntKind.u64.wrap ((p.x.getD c ac0).h.getD k 0)=(p.x.getD c ac0).h.getD k 0:=wrapU hh.1 (by omega)
         have E5:=aShortD (IntKind.u64.wrap ((p.x.getD c ac0).h.getD k 0)) (by rw [wk]; omega) (by rw [wk]; omega)
         have B1:=BB ((pxH p c).length+(acH (p.x.getD c ac0) k).length+(shortL (IntKind.u64.wrap ((p.x.getD c ac0).h.getD k 0)).toNat).length) (by rw [wk]; omega)
         have es:=acH_succ hkl
         rw [← wk] at es
         have el:=congrArg List.length es
         rw [List.length_append] at el
         conv=>whnf
         repeat' (first|(refine Exists.intro _ (And.intro (E5) ?_); conv=>whnf)|(refine And.intro (fun h=> ?_) (fun h=> ?_)<;>(first|(with_reducible have hd:_<_:=of_decide_eq_true h)|(with_reducible have hd:¬ (_<_):=of_decide_eq_false h)|fail)<;>(first|omega|(conv=>whnf)))|(refine And.intro ?_ ?_; (focus (first|(first|exact B1|exact hC2|fail)|fail)); conv=>whnf)|((with_reducible refine xc_pure ?_); conv=>whnf))
         refine ⟨k+1,hkl,?_,by omega⟩
         (refine And.intro ?_ (And.intro ?_ (And.intro ?_ rfl))<;>(conv=>whnf)<;>repeat' (first|exact trivial|exact LeE.of (Le.refl _)|(with_reducible refine LeE.of ?_)|(first|exact rfl|exact leI (by first|rfl|(rw [wrap64 (by omega) (by omega)]; omega)|fail)|exact fun i hi=>LeCs.refl _|exact leOwn (by first|rfl|omega))|((with_reducible refine And.intro ?_ ?_)<;>conv=>whnf)))
         all_goals first
          | omega
          | exact leOwn (by omega)
          | exact fun i hi=>LeCs.of_eq (by rw [es,← List.append_assoc]; exact catRB (by rw [List.length_append]) (fun _ _=>rfl) (fun _ _=>rfl) i (by rw [List.length_append,List.length_append]; rw [el] at hi; omega))
        ·obtain rfl:k=(p.x.getD c ac0).h.length:=by omega
         have es:=ep
         have el:=congrArg List.length es
         rw [List.length_append,acL_eq] at el
         rw [acL_eq] at es
         conv=>whnf
         repeat' (first|(refine And.intro (fun h=> ?_) (fun h=> ?_)<;>(first|(with_reducible have hd:_<_:=of_decide_eq_true h)|(with_reducible have hd:¬ (_<_):=of_decide_eq_false h)|fail)<;>(first|omega|(conv=>whnf)))|fail)
         refine ⟨c+1,hcl,?_,by omega⟩
         (refine And.intro ?_ (And.intro ?_ (And.intro ?_ rfl))<;>(conv=>whnf)<;>repeat' (first|exact trivial|exact LeE.of (Le.refl _)|(with_reducible refine LeE.of ?_)|(first|exact rfl|exact leI (by first|rfl|(rw [wrap64 (by omega) (by omega)]; omega)|fail)|exact fun i hi=>LeCs.refl _|exact leOwn (by first|rfl|omega))|((with_reducible refine And.intro ?_ ?_)<;>conv=>whnf)))
         all_goals first
          | omega
          | exact leOwn (by omega)
          | exact fun i hi=>LeCs.of_eq (by rw [es])
      ·obtain rfl:c=p.x.length:=by omega
       conv=>whnf
       repeat' (first|(refine And.intro (fun h=> ?_) (fun h=> ?_)<;>(first|(with_reducible have hd:_<_:=of_decide_eq_true h)|(with_reducible have hd:¬ (_<_):=of_decide_eq_false h)|fail)<;>(first|omega|(conv=>whnf)))|(refine And.intro ?_ ?_; (focus (first|exact rfl|fail)); conv=>whnf)|fail)
       ((conv=>whnf); repeat' (first|exact trivial|exact rfl|exact (fun i hi=>LeCs.refl _)|((with_reducible refine And.intro ?_ ?_)<;>conv=>whnf)))
end Go.Proofs.YtaecnniddhikbaaGreatDoor
