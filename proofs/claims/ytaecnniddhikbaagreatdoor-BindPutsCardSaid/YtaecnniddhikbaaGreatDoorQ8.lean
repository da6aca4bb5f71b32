/- What functions of the program answer,whatever their arguments. -/
import Derived.Test.YtaecnniddhikbaaGreatDoorQ5
set_option linter.unusedSectionVars false
set_option linter.unnecessarySimpa false
set_option linter.unusedSimpArgs false
set_option linter.unusedVariables false
set_option maxRecDepth 100000
set_option maxHeartbeats 8000000
namespace Go.Proofs.YtaecnniddhikbaaGreatDoor
open Go Go.VA
theorem gPutO (v:V)(n:Nat)(f:Nat→List C)(hf:∀ i,i<n→NtCs (f i))(hc:checkV v=0)(hkey:keyed v=true)(hn:n+bigL v≤140737488355328) :
  GCall Tryz.prog gl 23 [.row 1 n f] [.own 0 1 0 n,.ag (cV v)] [.row 1 (n+(layL v).length) (catF 0 n f (rB (layL v)))] [.own 0 1 0 (n+(layL v).length)]:=by
 have P:=gLay v false false n (fun i=>f (0+i)) (ntShift hf) hkey hn
 have hc':(checkV v != 0)=false:=by rw [hc]; rfl
 refine gcall_of_vcb htb hmix (f:=23) rfl rfl rfl (by kernel_rfl) rfl rfl rfl fun hb hb2=> ?_; simp only [bndOs,bndO,gbnds,AV.gbnd,bnds,C.bnd,true_and,and_true] at hb hb2; conv=>whnf
 repeat' (first|(refine Exists.intro _ (And.intro (aCheck _ _ _) ?_); conv=>whnf)|(refine And.intro (fun h=> ?_) (fun h=> ?_)<;>(first|skip)<;>(first|(conv=>whnf)))|((with_reducible refine NilOr.l ?_); conv=>whnf)|(refine And.intro ?_ ?_; (focus (first|exact rfl|((conv=>whnf); intros; (try simp only [decide_eq_true_eq,decide_eq_false_iff_not,Bool.and_eq_true,Bool.or_eq_true,Bool.and_eq_false_imp,Bool.or_eq_false_iff,Bool.not_eq_true',Bool.not_eq_false',beq_iff_eq,bne_iff_ne,ne_eq] at *); (first|omega|fail)))); conv=>whnf)|((with_reducible refine xc_guard ?_); (first|(refine xc_g (gClone _ _ _) true (by first|(((conv=>whnf); repeat' (first|exact trivial|exact rfl|exact LeC.refl _|((with_reducible refine And.intro ?_ ?_)<;>conv=>whnf))); done)|fail) (by first|(((conv=>whnf); repeat' (first|exact trivial|(first|exact ntShift hf)|((with_reducible refine And.intro ?_ ?_)<;>conv=>whnf))); done)|fail) ?_)); conv=>whnf)|((with_reducible refine xc_guard ?_); (first|(refine xc_g (P) false (by first|(((conv=>whnf); repeat' (first|exact trivial|exact rfl|exact LeC.refl _|exact (fun i hi=>LeCs.refl _)|((with_reducible refine And.intro ?_ ?_)<;>conv=>whnf))); done)|fail) trivial ?_)|fail); conv=>whnf)|((with_reducible refine xc_pure ?_); conv=>whnf))
 all_goals try exact absurd ((‹(checkV v != 0)=true›).symm.trans hc') (by decide)
 ((conv=>whnf); repeat' (first|exact trivial|exact rfl|((with_reducible refine And.intro ?_ ?_)<;>conv=>whnf)))
 all_goals first
  | exact fun i hi=>LeCs.of_eq (catF_cong (fun i _=>by rw [Nat.zero_add]) i hi)
  | trace_state
end Go.Proofs.YtaecnniddhikbaaGreatDoor
namespace Go.Proofs.YtaecnniddhikbaaGreatDoor
open Go Go.VA
theorem nthCC_app:∀ (a b:List C)(i:Nat),i<a.length→nthCC (a++b) i=nthCC a i
 | [],_,_,h=>by simp at h
 | _::_,_,0,_=>rfl
 | _::a,b,i+1,h=>nthCC_app a b i (by simpa using h)
theorem cfgB (u v w:Bool)(p:Pl)(i:Nat)(hi:i<32):[nthCC (cPl u v w p) (0+0+(0+i))]=rB (sumL p.c) i:=by
 simp only [Nat.zero_add]
 show [nthCC (sumC p.c++cPt u v w p) i]=_
 rw [nthCC_app _ _ _ (by exact hi),← arr_sumC,nthCC_arr _ _ _ hi]
 exact rB_bytesO 32 _ i hi
theorem ntCfg (u v w:Bool)(p:Pl):∀ i,i<32→NtCs ((fun i=>[nthCC (cPl u v w p) (0+0+(0+i))]) i):=fun i hi=>by
 show NtCs [nthCC (cPl u v w p) (0+0+(0+i))]
 rw [cfgB u v w p i hi]
 exact ntB _ 32 i hi
theorem bdL_eq (b:Bd):bdL b=strL b.n++layL b.v:=rfl
theorem spL_eq (x:Sp):spL x=kyL x.y++sumL x.s:=rfl
theorem catB0 (u v w:Bool)(p:Pl):∀ i,i<(pb0 p).length→catF 0 (32+(shortL p.a.toNat).length+(shortL p.s.toNat).length) (fun i=>catF 0 (32+(shortL p.a.toNat).length) (fun i=>catF 0 32 (fun i=>[nthCC (cPl u v w p) (0+0+(0+i))]) (rB (shortL p.a.toNat)) (0+i)) (rB (shortL p.s.toNat)) (0+i)) (rB (shortL p.b.length)) i=rB (pb0 p) i:=by
 intro i hi
 refine catRB (A:=sumL p.c++shortL p.a.toNat++shortL p.s.toNat) (by rw [List.length_append,List.length_append,sumL_len]) (fun j hj=> ?_) (fun _ _=>rfl) i hi
 show catF 0 _ _ _ (0+j)=_
 rw [Nat.zero_add j]
 refine catRB (A:=sumL p.c++shortL p.a.toNat) (by rw [List.length_append,sumL_len]) (fun j hj=> ?_) (fun _ _=>rfl) j hj
 show catF 0 _ _ _ (0+j)=_
 rw [Nat.zero_add j]
 exact catRB (A:=sumL p.c) (by rw [sumL_len]) (fun j hj=>cfgB u v w p j (by rw [sumL_len] at hj; exact hj)) (fun _ _=>rfl) j hj
theorem spS (x:Sp)(k:Nat)(hk:k=6)(i:Nat)(hi:i<32):[nthCC (cSp x) (k+(0+i))]=rB (sumL x.s) i:=by
 subst hk
 rw [Nat.zero_add,Nat.add_comm 6 i]
 show [nthCC (sumC x.s) i]=_
 rw [← arr_sumC,nthCC_arr _ _ _ hi]
 exact rB_bytesO 32 _ i hi
theorem catS0 (A S:List Int):∀ i,i<(A++S).length→catF 0 A.length (fun i=>rB A (0+i)) (rB S) i=rB (A++S) i:=fun i hi =>
 catRB rfl (fun j _=>by show rB A (0+j)=_; rw [Nat.zero_add]) (fun _ _=>rfl) i hi
attribute [local irreducible] kyL layL shortL bitsI acL bdL spL strL
abbrev HBt (p:Pl) (c:Nat):Prop:=GCall Tryz.prog gl 24 [.row 1 (pbH p c).length (rB (pbH p c))] [.own 0 1 0 (pbH p c).length,.c (.v (.string (p.b.getD c bd0).n))] [.row 1 ((pbH p c).length+(strL (p.b.getD c bd0).n).length) (catF 0 (pbH p c).length (rB (pbH p c)) (rB (strL (p.b.getD c bd0).n)))] [.own 0 1 0 ((pbH p c).length+(strL (p.b.getD c bd0).n).length)]
abbrev HVt (p:Pl) (c:Nat):Prop:=GCall Tryz.prog gl 23 [.row 1 ((pbH p c).length+(strL (p.b.getD c bd0).n).length) (catF 0 (pbH p c).length (rB (pbH p c)) (rB (strL (p.b.getD c bd0).n)))] [.own 0 1 0 ((pbH p c).length+(strL (p.b.getD c bd0).n).length),.ag (cV (p.b.getD c bd0).v)] [.row 1 ((pbH p c).length+(strL (p.b.getD c bd0).n).length+(layL (p.b.getD c bd0).v).length) (catF 0 ((pbH p c).length+(strL (p.b.getD c bd0).n).length) (catF 0 (pbH p c).length (rB (pbH p c)) (rB (strL (p.b.getD c bd0).n))) (rB (layL (p.b.getD c bd0).v)))] [.own 0 1 0 ((pbH p c).length+(strL (p.b.getD c bd0).n).length+(layL (p.b.getD c bd0).v).length)]
abbrev HKt (p:Pl) (c:Nat):Prop:=GCall Tryz.prog gl 25 [.row 1 (ptH p c).length (rB (ptH p c))] [.own 0 1 0 (ptH p c).length,.ag (cKy (p.t.getD c sp0).y)] [.row 1 ((ptH p c).length+(kyL (p.t.getD c sp0).y).length) (catF 0 (ptH p c).length (rB (ptH p c)) (rB (kyL (p.t.getD c sp0).y)))] [.own 0 1 0 ((ptH p c).length+(kyL (p.t.getD c sp0).y).length)]
abbrev HAt (p:Pl) (c:Nat):Prop:=GCall Tryz.prog gl 26 [.row 1 (pxH p c).length (rB (pxH p c))] [.own 0 1 0 (pxH p c).length,.ag (cAc (p.x.getD c ac0))] [.row 1 ((pxH p c).length+(acL (p.x.getD c ac0)).length) (catF 0 (pxH p c).length (rB (pxH p c)) (rB (acL (p.x.getD c ac0))))] [.own 0 1 0 ((pxH p c).length+(acL (p.x.getD c ac0)).length)]
theorem gPlPutG (p:Pl)(ho:okPl p=true)(o:OkP p)(r:RgPl p)(HB:∀ c,c<p.b.length→HBt p c)(HV:∀ c,c<p.b.length→HVt p c)(HK:∀ c,c<p.t.length→HKt p c)(HA:∀ c,c<p.x.length→HAt p c):GCall Tryz.prog gl 8 [] [.ag (cPl false false false p)] [.row 1 (fmP p).length (rB (fmP p))] [.own 0 1 0 (fmP p).length]:=by
 have CK:=aCheckP false false false p
 rw [if_pos ho] at CK
 have a0:=r.a0
 have a1:=r.a1
 have s0:=r.s0
 have s1:=r.s1
 have hbl:=o.bl
 have la:=shortL_len p.a.toNat
 have lb:=shortL_len p.s.toNat
 have lc:=shortL_len p.b.length
 have wl:IntKind.u64.wrap (p.b.length:Int)=p.b.length:=wrapU (by omega) (by omega)
 have PS1:=fun F=>gPutShortI false 32 F p.a a0 a1 (by omega)
 have PS2:=fun F=>gPutShortI true (32+(shortL p.a.toNat).length) F p.s s0 s1 (by omega)
 have PS3:=fun F=>gPutShortI true (32+(shortL p.a.toNat).length+(shortL p.s.toNat).length) F (IntKind.u64.wrap (p.b.length:Int)) (by rw [wl]; omega) (by rw [wl]; omega) (by rw [wl,Int.toNat_natCast]; omega)
 have nt0:=ntCfg false false false p
 have nt1:=ntCatG (m:=(shortL p.a.toNat).length) nt0 (ntB (shortL p.a.toNat) _)
 have nt2:=ntCatG (m:=(shortL p.s.toNat).length) (ntShift nt1) (ntB (shortL p.s.toNat) _)
 have nt3:=ntCatG (m:=(shortL (IntKind.u64.wrap (p.b.length:Int)).toNat).length) (ntShift nt2) (ntB (shortL (IntKind.u64.wrap (p.b.length:Int)).toNat) _)
 refine gcall_of_vcb htb hmix (f:=8) rfl rfl rfl (by kernel_rfl) rfl rfl rfl fun hb hb2=> ?_; simp only [bndOs,bndO,gbnds,AV.gbnd,bnds,C.bnd,true_and,and_true] at hb hb2; conv=>whnf
 repeat' (first|(refine Exists.intro _ (And.intro (CK) ?_); conv=>whnf)|(refine And.intro (fun h=> ?_) (fun h=> ?_)<;>(first|skip)<;>(first|exact absurd h (by decide)|(conv=>whnf)))|((with_reducible refine Both.mk ?_ ?_)<;>conv=>whnf)|((with_reducible refine DOr.r ?_); (conv=>whnf))|((with_reducible refine NilOr.l ?_); conv=>whnf)|((with_reducible refine FzOr.r ?_); conv=>whnf)|((with_reducible apply Drawn.one); conv=>whnf)|((with_reducible refine Then.mk' ?_); conv=>whnf)|(first|exact RefS.self rfl|fail)|((with_reducible refine xc_guard ?_); (first|(refine xc_g (PS1 _) false (by first|(((conv=>whnf); repeat' (first|exact trivial|exact rfl|exact LeC.refl _|((with_reducible refine And.intro ?_ ?_)<;>conv=>whnf))); done)|fail) trivial ?_)|fail); conv=>whnf)|((with_reducible refine xc_guard ?_); (first|(refine xc_g (PS2 _) true (by first|(((conv=>whnf); repeat' (first|exact trivial|exact rfl|exact LeC.refl _|((with_reducible refine And.intro ?_ ?_)<;>conv=>whnf))); done)|fail) (by first|(((conv=>whnf); repeat' (first|exact trivial|(first|exact nt2|fail)|((with_reducible refine And.intro ?_ ?_)<;>conv=>whnf))); done)|fail) ?_)); conv=>whnf)|((with_reducible refine xc_guard ?_); (first|(refine xc_g (PS3 _) true (by first|(((conv=>whnf); repeat' (first|exact trivial|exact rfl|exact LeC.refl _|((with_reducible refine And.intro ?_ ?_)<;>conv=>whnf))); done)|fail) (by first|(((conv=>whnf); repeat' (first|exact trivial|(first|exact nt3|fail)|((with_reducible refine And.intro ?_ ?_)<;>conv=>whnf))); done)|fail) ?_)); conv=>whnf)|((with_reducible refine xc_pure ?_); conv=>whnf))
 have e0:pbH p 0=pb0 p:=by unfold pbH bdsL; simp
 have el0:(pbH p 0).length=32+(shortL p.a.toNat).length+(shortL p.s.toNat).length+(shortL p.b.length).length:=by rw [e0]; unfold pb0; simp only [List.length_append,sumL_len]
 refine loopI Nat (fun c=>c≤p.b.length) (fun c=>[(31,intA .i64 c),(3,.own 4 1 0 (pbH p c).length)]) (fun c=>[.dead,.row (tb 5).sz 0 (fun _=>[]),.dead,.dead,.row 1 (pbH p c).length (rB (pbH p c))]) (fun c=>p.b.length-c) 0 (Nat.zero_le _) ?_ (fun _=>rfl) fun c (hc:c≤p.b.length)=> ?_
 ·simp only [wl,Int.toNat_natCast]
  (refine And.intro ?_ (And.intro ?_ (And.intro ?_ rfl))<;>(conv=>whnf)<;>repeat' (first|exact trivial|exact LeE.of (Le.refl _)|(with_reducible refine LeE.of ?_)|(first|exact rfl|exact fun i hi=>LeCs.refl _|exact leOwn (by first|rfl|omega))|((with_reducible refine And.intro ?_ ?_)<;>conv=>whnf)))
  all_goals first
   | omega
   | exact leOwn (by omega)
   | exact fun i hi=>LeCs.of_eq (by rw [e0]; rw [e0] at hi; exact catB0 false false false p i hi)
 ·by_cases hcl:c<p.b.length
  ·have hC:(0:Int)≤(c:Int)∧(c:Int)<(p.b.length:Int):=by omega
   have hlen:=pbH_len o c hc
   have ob:=o.b c hcl
   have hn:=ob.n
   have ls:=strL_len (p.b.getD c bd0).n
   have hb:=check_big ob.v
   have PB:=HB c hcl
   have PV:=HV c hcl
   have es:=pbH_succ hcl
   rw [bdL_eq] at es
   have el:=congrArg List.length es
   rw [List.length_append,List.length_append] at el
   conv=>whnf
   repeat' (first|(refine And.intro (fun h=> ?_) (fun h=> ?_)<;>(first|(with_reducible have hd:_<_:=of_decide_eq_true h)|(with_reducible have hd:¬ (_<_):=of_decide_eq_false h)|fail)<;>(first|omega|(conv=>whnf)))|((with_reducible refine Both.mk ?_ ?_)<;>conv=>whnf)|((with_reducible refine DOr.r ?_); (conv=>whnf))|((with_reducible apply Drawn.one); conv=>whnf)|((with_reducible refine Then.mk' ?_); conv=>whnf)|(first|exact RefS.self rfl|fail)|(refine And.intro ?_ ?_; (focus (first|exact rfl|(first|exact hC|fail)|fail)); conv=>whnf)|((with_reducible refine xc_guard ?_); (first|(refine xc_g (PB) false (by first|(((conv=>whnf); repeat' (first|exact trivial|exact rfl|exact LeC.refl _|exact (fun i hi=>LeCs.refl _)|((with_reducible refine And.intro ?_ ?_)<;>conv=>whnf))); done)|fail) trivial ?_)|fail); conv=>whnf)|((with_reducible refine xc_guard ?_); (first|(refine xc_g (PV) false (by first|(((conv=>whnf); repeat' (first|exact trivial|exact rfl|exact LeC.refl _|exact (fun i hi=>LeCs.refl _)|((with_reducible refine And.intro ?_ ?_)<;>conv=>whnf))); done)|fail) trivial ?_)|fail); conv=>whnf)|fail)
   all_goals
    refine ⟨c+1,hcl,?_,by omega⟩
    (refine And.intro ?_ (And.intro ?_ (And.intro ?_ rfl))<;>(conv=>whnf)<;>repeat' (first|exact trivial|exact LeE.of (Le.refl _)|(with_reducible refine LeE.of ?_)|(first|exact rfl|exact leI (by first|rfl|(rw [wrap64 (by omega) (by omega)]; omega)|fail)|exact fun i hi=>LeCs.refl _|exact leOwn (by first|rfl|omega))|((with_reducible refine And.intro ?_ ?_)<;>conv=>whnf)))
    all_goals first
     | omega
     | exact leOwn (by omega)
     | exact fun i hi=>LeCs.of_eq (by rw [es]; rw [es] at hi; rw [← List.append_assoc]; rw [← List.append_assoc] at hi; exact catRB (by rw [List.length_append]) (catRB rfl (fun _ _=>rfl) (fun _ _=>rfl)) (fun _ _=>rfl) i hi)
  ·obtain rfl:c=p.b.length:=by omega
   have hlen:=pbH_len o p.b.length (Nat.le_refl _)
   have htl:=o.tl
   have lt:=shortL_len p.t.length
   have wl2:IntKind.u64.wrap (p.t.length:Int)=p.t.length:=wrapU (by omega) (by omega)
   have PS4:=fun F=>gPutShortI true (pbH p p.b.length).length F (IntKind.u64.wrap (p.t.length:Int)) (by rw [wl2]; omega) (by rw [wl2]; omega) (by rw [wl2,Int.toNat_natCast]; omega)
   conv=>whnf
   repeat' (first|(refine And.intro (fun h=> ?_) (fun h=> ?_)<;>(first|(with_reducible have hd:_<_:=of_decide_eq_true h)|(with_reducible have hd:¬ (_<_):=of_decide_eq_false h)|fail)<;>(first|omega|(conv=>whnf)))|((with_reducible refine xc_guard ?_); (first|(refine xc_g (PS4 _) true (by first|(((conv=>whnf); repeat' (first|exact trivial|exact rfl|exact LeC.refl _|((with_reducible refine And.intro ?_ ?_)<;>conv=>whnf))); done)|fail) (by first|(((conv=>whnf); repeat' (first|exact trivial|(first|exact ntCatG (ntShift (ntB _ _)) (ntB _ _)|fail)|((with_reducible refine And.intro ?_ ?_)<;>conv=>whnf))); done)|fail) ?_)); conv=>whnf)|fail)
   have e1:ptH p 0=pbH p p.b.length++shortL p.t.length:=by unfold ptH pt0 spsL; simp
   have el1:(ptH p 0).length=(pbH p p.b.length).length+(shortL p.t.length).length:=by rw [e1,List.length_append]
   refine loopI Nat (fun c=>c≤p.t.length) (fun c=>[(52,intA .i64 c),(3,.own 5 1 0 (ptH p c).length)]) (fun c=>[.dead,.row (tb 5).sz 0 (fun _=>[]),.dead,.dead,.dead,.row 1 (ptH p c).length (rB (ptH p c))]) (fun c=>p.t.length-c) 0 (Nat.zero_le _) ?_ (fun _=>rfl) fun c (hc:c≤p.t.length)=> ?_
   ·simp only [wl2,Int.toNat_natCast]
    (refine And.intro ?_ (And.intro ?_ (And.intro ?_ rfl))<;>(conv=>whnf)<;>repeat' (first|exact trivial|exact LeE.of (Le.refl _)|(with_reducible refine LeE.of ?_)|(first|exact rfl|exact fun i hi=>LeCs.refl _|exact leOwn (by first|rfl|omega))|((with_reducible refine And.intro ?_ ?_)<;>conv=>whnf)))
    all_goals first
     | omega
     | exact leOwn (by omega)
     | exact fun i hi=>LeCs.of_eq (by rw [e1]; rw [e1] at hi; exact catS0 _ _ i hi)
   ·by_cases hcl:c<p.t.length
    ·have hC:(0:Int)≤(c:Int)∧(c:Int)<(p.t.length:Int):=by omega
     have hlen:=ptH_len o c hc
     have ok:=o.t c hcl
     have lk:=kyL_len ok
     have PK:=HK c hcl
     have B1:((ptH p c).length+(kyL (p.t.getD c sp0).y).length+32)*(tb 5).bytes≤140737488355328:=by show (_+32)*1≤_; omega
     have es:=ptH_succ hcl
     rw [spL_eq] at es
     have el:=congrArg List.length es
     rw [List.length_append,List.length_append,sumL_len] at el
     conv=>whnf
     repeat' (first|(refine And.intro (fun h=> ?_) (fun h=> ?_)<;>(first|(with_reducible have hd:_<_:=of_decide_eq_true h)|(with_reducible have hd:¬ (_<_):=of_decide_eq_false h)|fail)<;>(first|omega|(conv=>whnf)))|((with_reducible refine Both.mk ?_ ?_)<;>conv=>whnf)|((with_reducible refine DOr.r ?_); (conv=>whnf))|((with_reducible refine FzOr.r ?_); conv=>whnf)|((with_reducible apply Drawn.one); conv=>whnf)|((with_reducible refine Then.mk' ?_); conv=>whnf)|(first|exact RefS.self rfl|fail)|(refine And.intro ?_ ?_; (focus (first|(first|exact B1|exact hC|fail)|fail)); conv=>whnf)|((with_reducible refine xc_guard ?_); (first|(refine xc_g (PK) false (by first|(((conv=>whnf); repeat' (first|exact trivial|exact rfl|exact LeC.refl _|exact (fun i hi=>LeCs.refl _)|((with_reducible refine And.intro ?_ ?_)<;>conv=>whnf))); done)|fail) trivial ?_)|fail); conv=>whnf)|fail)
     all_goals
      refine ⟨c+1,hcl,?_,by omega⟩
      (refine And.intro ?_ (And.intro ?_ (And.intro ?_ rfl))<;>(conv=>whnf)<;>repeat' (first|exact trivial|exact LeE.of (Le.refl _)|(with_reducible refine LeE.of ?_)|(first|exact rfl|exact leI (by first|rfl|(rw [wrap64 (by omega) (by omega)]; omega)|fail)|exact fun i hi=>LeCs.refl _|exact leOwn (by first|rfl|omega))|((with_reducible refine And.intro ?_ ?_)<;>conv=>whnf)))
      all_goals first
       | omega
       | exact leOwn (by omega)
       | exact fun i hi=>LeCs.of_eq (by rw [es]; rw [es] at hi; rw [← List.append_assoc]; rw [← List.append_assoc] at hi; exact catRB (by rw [List.length_append]) (catRB rfl (fun _ _=>rfl) (fun _ _=>rfl)) (fun j hj=>spS _ _ rfl j (by rw [sumL_len] at hj; exact hj)) i hi)
    ·obtain rfl:c=p.t.length:=by omega
     have hlen2:=ptH_len o p.t.length (Nat.le_refl _)
     have hxl:=o.xl
     have lx:=shortL_len p.x.length
     have wl3:IntKind.u64.wrap (p.x.length:Int)=p.x.length:=wrapU (by omega) (by omega)
     have PS5:=fun F=>gPutShortI true (ptH p p.t.length).length F (IntKind.u64.wrap (p.x.length:Int)) (by rw [wl3]; omega) (by rw [wl3]; omega) (by rw [wl3,Int.toNat_natCast]; omega)
     conv=>whnf
     repeat' (first|(refine And.intro (fun h=> ?_) (fun h=> ?_)<;>(first|(with_reducible have hd:_<_:=of_decide_eq_true h)|(with_reducible have hd:¬ (_<_):=of_decide_eq_false h)|fail)<;>(first|omega|(conv=>whnf)))|((with_reducible refine xc_guard ?_); (first|(refine xc_g (PS5 _) true (by first|(((conv=>whnf); repeat' (first|exact trivial|exact rfl|exact LeC.refl _|((with_reducible refine And.intro ?_ ?_)<;>conv=>whnf))); done)|fail) (by first|(((conv=>whnf); repeat' (first|exact trivial|(first|exact ntCatG (ntShift (ntB _ _)) (ntB _ _)|fail)|((with_reducible refine And.intro ?_ ?_)<;>conv=>whnf))); done)|fail) ?_)); conv=>whnf)|fail)
     have e2:pxH p 0=ptH p p.t.length++shortL p.x.length:=by unfold pxH px0 acsL; simp
     have el2:(pxH p 0).length=(ptH p p.t.length).length+(shortL p.x.length).length:=by rw [e2,List.length_append]
     refine loopI Nat (fun c=>c≤p.x.length) (fun c=>[(73,intA .i64 c),(3,.own 6 1 0 (pxH p c).length)]) (fun c=>[.dead,.row (tb 5).sz 0 (fun _=>[]),.dead,.dead,.dead,.dead,.row 1 (pxH p c).length (rB (pxH p c))]) (fun c=>p.x.length-c) 0 (Nat.zero_le _) ?_ (fun _=>rfl) fun c (hc:c≤p.x.length)=> ?_
     ·simp only [wl3,Int.toNat_natCast]
      (refine And.intro ?_ (And.intro ?_ (And.intro ?_ rfl))<;>(conv=>whnf)<;>repeat' (first|exact trivial|exact LeE.of (Le.refl _)|(with_reducible refine LeE.of ?_)|(first|exact rfl|exact fun i hi=>LeCs.refl _|exact leOwn (by first|rfl|omega))|((with_reducible refine And.intro ?_ ?_)<;>conv=>whnf)))
      all_goals first
       | omega
       | exact leOwn (by omega)
       | exact fun i hi=>LeCs.of_eq (by rw [e2]; rw [e2] at hi; exact catS0 _ _ i hi)
     ·by_cases hcl:c<p.x.length
      ·have hC:(0:Int)≤(c:Int)∧(c:Int)<(p.x.length:Int):=by omega
       have hlen:=pxH_len o c hc
       have PA:=HA c hcl
       have es:=pxH_succ hcl
       have el:=congrArg List.length es
       rw [List.length_append] at el
       conv=>whnf
       repeat' (first|(refine And.intro (fun h=> ?_) (fun h=> ?_)<;>(first|(with_reducible have hd:_<_:=of_decide_eq_true h)|(with_reducible have hd:¬ (_<_):=of_decide_eq_false h)|fail)<;>(first|omega|(conv=>whnf)))|((with_reducible refine FzOr.l ?_); conv=>whnf)|(refine And.intro ?_ ?_; (focus (first|(first|exact hC|fail)|fail)); conv=>whnf)|((with_reducible refine xc_guard ?_); (first|(refine xc_g (PA) false (by first|(((conv=>whnf); repeat' (first|exact trivial|exact rfl|exact LeC.refl _|exact (fun i hi=>LeCs.refl _)|((with_reducible refine And.intro ?_ ?_)<;>conv=>whnf))); done)|fail) trivial ?_)|fail); conv=>whnf)|fail)
       refine ⟨c+1,hcl,?_,by omega⟩
       (refine And.intro ?_ (And.intro ?_ (And.intro ?_ rfl))<;>(conv=>whnf)<;>repeat' (first|exact trivial|exact LeE.of (Le.refl _)|(with_reducible refine LeE.of ?_)|(first|exact rfl|exact leI (by first|rfl|(rw [wrap64 (by omega) (by omega)]; omega)|fail)|exact fun i hi=>LeCs.refl _|exact leOwn (by first|rfl|omega))|((with_reducible refine And.intro ?_ ?_)<;>conv=>whnf)))
       all_goals first
        | omega
        | exact leOwn (by omega)
        | exact fun i hi=>LeCs.of_eq (by rw [es]; exact catRB rfl (fun _ _=>rfl) (fun _ _=>rfl) i (by rw [es] at hi; exact hi))
      ·obtain rfl:c=p.x.length:=by omega
       have hbys:Bys (pxH p p.x.length):=bys_inP o r
       have hlen:=pxH_len o p.x.length (Nat.le_refl _)
       have S1:=aSha1G false false (baL (pxH p p.x.length)) (pxH p p.x.length).length (fun j=>rB (pxH p p.x.length) (0+j)) (nthC [[C.sl false 1 (pxH p p.x.length).length fun j=>rB (pxH p p.x.length) (0+j)]]) rfl (by rw [baL_size]) (fun j hj=>by rw [Nat.zero_add]; exact rB_strO hbys hj) (by rw [baL_size]; omega)
       have P4:=aPut4 (pxH p p.x.length).length (by omega)
       rw [← wrapU (n:=(((pxH p p.x.length).length:Nat):Int)) (by omega) (by omega)] at P4
       have hcn:=catN_q (fun j=>nthC [[C.v (.int .u8 115)],[C.v (.int .u8 112)],[C.v (.int .u8 108)],[C.v (.int .u8 49)]] (0+j)) (pxH p p.x.length)
       have hfl:=fmP_len p
       have CC:=gConcat false 4 (nthC [[C.sl false 1 4 (wQ (fun j=>nthC [[C.v (.int .u8 115)],[C.v (.int .u8 112)],[C.v (.int .u8 108)],[C.v (.int .u8 49)]] (0+j)) (pxH p p.x.length) 0).2],[C.sl false 1 4 (wQ (fun j=>nthC [[C.v (.int .u8 115)],[C.v (.int .u8 112)],[C.v (.int .u8 108)],[C.v (.int .u8 49)]] (0+j)) (pxH p p.x.length) 1).2],[C.sl false 1 (32-0) (wQ (fun j=>nthC [[C.v (.int .u8 115)],[C.v (.int .u8 112)],[C.v (.int .u8 108)],[C.v (.int .u8 49)]] (0+j)) (pxH p p.x.length) 2).2],[C.sl false 1 (pxH p p.x.length).length (wQ (fun j=>nthC [[C.v (.int .u8 115)],[C.v (.int .u8 112)],[C.v (.int .u8 108)],[C.v (.int .u8 49)]] (0+j)) (pxH p p.x.length) 3).2]]) (fun _=>false) (wQ (fun j=>nthC [[C.v (.int .u8 115)],[C.v (.int .u8 112)],[C.v (.int .u8 108)],[C.v (.int .u8 49)]] (0+j)) (pxH p p.x.length)) (fun j hj=>by
        match j,hj with
        | 0,_=>rfl
        | 1,_=>rfl
        | 2,_=>rfl
        | 3,_=>rfl) (by omega) (by omega)
       conv=>whnf
       repeat' (first|(refine Exists.intro _ (And.intro (S1) ?_); conv=>whnf)|(refine Exists.intro _ (And.intro (P4) ?_); conv=>whnf)|(refine And.intro (fun h=> ?_) (fun h=> ?_)<;>(first|(with_reducible have hd:_<_:=of_decide_eq_true h)|(with_reducible have hd:¬ (_<_):=of_decide_eq_false h)|fail)<;>(first|omega|(conv=>whnf)))|((with_reducible refine Both.mk ?_ ?_)<;>conv=>whnf)|((with_reducible refine DOr.r ?_); (conv=>whnf))|((with_reducible refine FzOr.l ?_); conv=>whnf)|((with_reducible refine OwnOr.r (A:=OwnOr (frzPs _ _ _ (fun _ _=>opBuildSlice _ 32 4 _ _)) _) ?_); (conv=>whnf))|((with_reducible refine OwnOr.l ?_); (conv=>whnf))|((with_reducible apply Drawn.one); conv=>whnf)|((with_reducible refine Then.mk' ?_); conv=>whnf)|(first|exact RefS.self rfl|fail)|(refine And.intro ?_ ?_; (focus (first|exact rfl|fail)); conv=>whnf)|((with_reducible refine xc_guard ?_); (first|(refine xc_g (CC) false (by first|(((conv=>whnf); repeat' (first|exact trivial|exact rfl|exact LeC.refl _|((with_reducible refine And.intro ?_ ?_)<;>conv=>whnf))); done)|fail) trivial ?_)|fail); conv=>whnf)|((with_reducible refine xc_pure ?_); conv=>whnf))
       all_goals (try ((conv=>whnf); repeat' (first|exact trivial|exact rfl|((with_reducible refine And.intro ?_ ?_)<;>conv=>whnf))))
       all_goals first
        | (rw [hcn,hfl]; rfl)
        | exact fun i hi=>LeCs.of_eq (catG_q (mg:=bytesL mgP) rfl (fun j hj=>by match j,hj with|0,_=>rfl|1,_=>rfl|2,_=>rfl|3,_=>rfl) i (by rw [hfl] at hi; exact hi))
theorem gPlPut (p:Pl)(ho:okPl p=true)(o:OkP p)(r:RgPl p):GCall Tryz.prog gl 8 [] [.ag (cPl false false false p)] [.row 1 (fmP p).length (rB (fmP p))] [.own 0 1 0 (fmP p).length] :=
 gPlPutG p ho o r
  (fun c hc=>gPutStrO (pbH p c).length (rB (pbH p c)) (p.b.getD c bd0).n (ntB _ _) (by
   have a:=pbH_len o c (Nat.le_of_lt hc)
   have ob:=(o.b c hc).n
   have ls:=strL_len (p.b.getD c bd0).n
   omega))
  (fun c hc=>gPutO (p.b.getD c bd0).v ((pbH p c).length+(strL (p.b.getD c bd0).n).length) (catF 0 (pbH p c).length (rB (pbH p c)) (rB (strL (p.b.getD c bd0).n))) (ntCatG (ntB _ _) (ntB _ _)) (o.b c hc).v (check_big (o.b c hc).v).2 (by
   have a:=pbH_len o c (Nat.le_of_lt hc)
   have ob:=(o.b c hc).n
   have ls:=strL_len (p.b.getD c bd0).n
   have hb:=(check_big (o.b c hc).v).1
   omega))
  (fun c hc=>gPutKyO (ptH p c).length (rB (ptH p c)) (p.t.getD c sp0).y (ntB _ _) (by
   have a:=ptH_len o c (Nat.le_of_lt hc)
   omega) (o.t c hc))
  (fun c hc=>gAct (pxH p c).length (rB (pxH p c)) (p.x.getD c ac0) (ntB _ _) (by
   have a:=pxH_len o c (Nat.le_of_lt hc)
   omega) (o.x c hc))
theorem aPlPut (p:Pl)(ho:okPl p=true)(o:OkP p)(r:RgPl p):ACall Tryz.prog gl 8 [.ag (cPl false false false p)] [] (.c (.sl false 1 (fmP p).length (rB (fmP p)))):=by
 have h:=ACall.of_gcall (gPlPut p ho o r)
 have e:(fun j=>rB (fmP p) (0+j))=rB (fmP p):=by funext j; rw [Nat.zero_add]
 rw [e] at h
 exact h
theorem aPlPutNo (p:Pl)(ho:okPl p=false):ACall Tryz.prog gl 8 [.ag (cPl false false false p)] [] (.c (.v (.slice none 0 0))):=by
 have CK:=aCheckP false false false p
 rw [ho,if_neg (by decide)] at CK
 refine acall_of_vc htb hmix (f:=8) rfl rfl rfl (by kernel_rfl) rfl rfl ?_; conv=>whnf
 repeat' (first|(refine Exists.intro _ (And.intro (CK) ?_); conv=>whnf)|(refine And.intro (fun h=> ?_) (fun h=> ?_)<;>(first|skip)<;>(first|exact absurd h (by decide)|(conv=>whnf)))|((with_reducible refine NilOr.r ?_); conv=>whnf)|((with_reducible refine FzOr.l ?_); conv=>whnf)|((with_reducible refine xc_pure ?_); conv=>whnf))
 exact Le.refl _
end Go.Proofs.YtaecnniddhikbaaGreatDoor
