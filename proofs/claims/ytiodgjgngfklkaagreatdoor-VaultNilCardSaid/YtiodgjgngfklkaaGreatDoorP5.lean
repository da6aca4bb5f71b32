/- Contracts of functions of the program,and the laws that stand on them: what each function answers,whatever its arguments. -/
import Derived.Test.YtiodgjgngfklkaaGreatDoorP4
set_option linter.all false
set_option maxRecDepth 100000
set_option maxHeartbeats 8000000
namespace Go.Proofs.YtiodgjgngfklkaaGreatDoor
open Go Go.VA
def ensL (l:List En) (c:Nat):List Int:=(l.take c).flatMap enL
def inH (s:St) (c:Nat):List Int:=shortL s.a.toNat++shortL s.s.toNat++shortL s.l.length++ensL s.l c
def inS (s:St):List Int:=inH s s.l.length
def mgS:ByteArray:={ data:= #[115,115,116,49] }
def fmS (s:St):List Int:=wrapL (bytesL mgS) (inS s)
theorem ensL_succ {l:List En}{c:Nat}(h:c<l.length):ensL l (c+1)=ensL l c++enL (l.getD c en0):=by
 unfold ensL
 rw [take_snoc? (getD_some h en0),List.flatMap_append]
 simp
theorem inH_succ {s:St}{c:Nat}(h:c<s.l.length):inH s (c+1)=inH s c++enL (s.l.getD c en0):=by
 unfold inH
 rw [ensL_succ h]
 simp only [List.append_assoc]
structure RgEn (e:En):Prop where
 y0:0≤e.y.n
 y1:e.y.n≤4294967295
 v:rgV e.v=true
structure RgSt (s:St):Prop where
 a0:0≤s.a
 a1:s.a<18446744073709551616
 s0:0≤s.s
 s1:s.s<18446744073709551616
 l:∀ e ∈ s.l,RgEn e
theorem okSt_parts {s:St}(h:okSt s=true):s.s≤4611686018427387904∧s.l.length≤64∧∀ j,j<s.l.length→okEn (s.l.getD j en0)=true:=by
 unfold okSt at h
 simp only [Bool.and_eq_true,Bool.not_eq_true',Bool.or_eq_false_iff,decide_eq_false_iff_not] at h
 refine ⟨by omega,by omega,fun j hj=> ?_⟩
 have:=allQ_at h.2 j hj
 unfold stQ at this
 simp only [Bool.and_eq_true] at this
 exact this.1
theorem ensL_len {l:List En}(h:∀ j,j<l.length→okEn (l.getD j en0)=true):∀ c,c≤l.length→(ensL l c).length≤2003000*c
 | 0,_=>by simp [ensL]
 | c+1,hc=>by
  have ih:=ensL_len h c (by omega)
  have:=enH_len (h c (by omega)) _ (Nat.le_refl _)
  rw [ensL_succ (by omega),List.length_append]
  unfold enL
  omega
theorem inH_len {s:St}(h:okSt s=true)(c:Nat)(hc:c≤s.l.length):(inH s c).length≤130000000:=by
 obtain ⟨h1,h2,h3⟩:=okSt_parts h
 have a:=shortL_len s.a.toNat
 have b:=shortL_len s.s.toNat
 have d:=shortL_len s.l.length
 have k:=ensL_len h3 c hc
 unfold inH
 simp only [List.length_append]
 omega
theorem bys_en {e:En}(h:okEn e=true):Bys (enL e):=by
 obtain ⟨h1,h2,h3⟩:=okEn_parts h
 obtain ⟨h4,h5⟩:=depsB_parts h3
 have hd:∀ c,c≤e.d.length→Bys (depsL e.d c):=by
  intro c
  induction c with
  | zero=>intro _ x hx; simp [depsL] at hx
  | succ c ih=>intro hc; rw [depsL_succ (by omega)]; exact bys_app (ih (by omega)) (bys_ky (kyA_ok (h5 c (by omega))))
 have hfl:Bys [flB e.t e.u]:=by
  cases e.t<;>cases e.u<;>exact bys_one (by decide)
 exact bys_app (bys_app (bys_app (bys_app (bys_ky h1) hfl) (layL_bys e.v 8 (check_parts h2).1 (by decide))) (bys_shortL (by omega))) (hd _ (Nat.le_refl _))
theorem bys_inH {s:St}(h:okSt s=true)(r:RgSt s):∀ c,c≤s.l.length→Bys (inH s c):=by
 obtain ⟨h1,h2,h3⟩:=okSt_parts h
 have a0:=r.a0
 have a1:=r.a1
 have s0:=r.s0
 intro c
 induction c with
 | zero =>
  intro _
  refine bys_app (bys_app (bys_app (bys_shortL (by omega)) (bys_shortL (by omega))) (bys_shortL (by omega))) (fun x hx=> ?_)
  simp [ensL] at hx
 | succ c ih=>intro hc; rw [inH_succ (by omega)]; exact bys_app (ih (by omega)) (bys_en (h3 c (by omega)))
theorem fmS_len (s:St):(fmS s).length=40+(inS s).length:=wrapL_len _ _ (by rw [bytesL_len]; rfl)
def wQ (m:Nat→List C) (L:List Int):Nat→Nat×(Nat→List C)
 | 0=>(4,m)
 | 1=>(4,Go.VA.byF (putB L.length 4))
 | 2=>(32,fun j=>[nthCC (sumC (shaA (baL L))) (0+j)])
 | _=>(L.length,fun j=>rB L (0+j))
theorem catN_q (m:Nat→List C)(L:List Int):catN (wQ m L) 4=40+L.length:=by
 show 0+4+4+32+L.length=_
 omega
theorem catF_00 {z g:Nat→List C}(j:Nat):catF 0 0 z g j=g j:=by
 unfold catF
 rw [if_neg (Nat.not_lt_zero _),Nat.sub_zero]
theorem catG_q {mg L:List Int}{m:Nat→List C}(h4:mg.length=4)(hm:∀ j,j<4→m j=rB mg j)(i:Nat)(hi:i<40+L.length):catG (wQ m L) 4 i=rB (wrapL mg L) i:=by
 refine catW (M:=catF 0 0 zF m) (P:=Go.VA.byF (putB L.length 4)) (S:=fun j=>[nthCC (sumC (shaA (baL L))) (0+j)]) (D:=fun j=>rB L (0+j)) h4 (fun j hj=> ?_) (fun j hj=> ?_) (fun j hj=> ?_) (fun j hj=> ?_) i hi
 ·rw [catF_00]; exact hm j hj
 ·exact rB_bytesO 4 _ j hj
 ·show [nthCC (sumC (shaA (baL L))) (0+j)]=_
  rw [Nat.zero_add,← arr_sumC,nthCC_arr _ _ _ hj]
  exact rB_bytesO 32 _ j hj
 ·show rB L (0+j)=_
  rw [Nat.zero_add]
theorem catN3 {z:Nat→List C}(A B D:List Int):∀ i,i<(A++B++D).length→catF 0 (0+A.length+B.length) (fun i=>catF 0 (0+A.length) (fun i=>catF 0 0 z (rB A) (0+i)) (rB B) (0+i)) (rB D) i=rB (A++B++D) i:=by
 intro i hi
 simp only [Nat.zero_add]
 exact catRB (A:=A++B) (by rw [List.length_append]) (catRB rfl (fun j _=>catF_00 j) (fun _ _=>rfl)) (fun _ _=>rfl) i hi
attribute [local irreducible] kyL layL shortL bitsI enL
theorem gStPutG (s:St)(ho:okSt s=true)(r:RgSt s)(hs:s.s≤4611686018427387904∧s.l.length≤64)(hlen':∀ c,c≤s.l.length→(inH s c).length≤130000000)(hbys:Bys (inH s s.l.length))
  (hE:∀ c n F,c<s.l.length→n≤1000000000→(∀ i,i<n→NtCs (F i))→GCall Tryz.prog gl 76 [.row 1 n F] [.own 0 1 0 n,.ag (cEn (s.l.getD c en0))] [.row 1 (n+(enL (s.l.getD c en0)).length) (catF 0 n F (rB (enL (s.l.getD c en0))))] [.own 0 1 0 (n+(enL (s.l.getD c en0)).length)]):GCall Tryz.prog gl 46 [] [.ag (cSt s)] [.row 1 (fmS s).length (rB (fmS s))] [.own 0 1 0 (fmS s).length]:=by
 have CK:=aCheckS s
 rw [if_pos ho] at CK
 obtain ⟨h1,h2⟩:=hs
 have a0:=r.a0
 have a1:=r.a1
 have s0:=r.s0
 have la:=shortL_len s.a.toNat
 have lb:=shortL_len s.s.toNat
 have ld:=shortL_len s.l.length
 have wl:IntKind.u64.wrap (s.l.length:Int)=s.l.length:=wrapU (by omega) (by omega)
 have PS1:=gPutShortI false 0 nF s.a a0 a1 (by omega)
 have PS2:=fun F=>gPutShortI true (0+(shortL s.a.toNat).length) F s.s s0 (by omega) (by omega)
 have PS3:=fun F=>gPutShortI true (0+(shortL s.a.toNat).length+(shortL s.s.toNat).length) F (IntKind.u64.wrap (s.l.length:Int)) (by rw [wl]; omega) (by rw [wl]; omega) (by rw [wl,Int.toNat_natCast]; omega)
 have nt0:∀ j,j<0→NtCs (nF j):=fun i hi=>absurd hi (Nat.not_lt_zero _)
 have nt1:=ntCatG (m:=(shortL s.a.toNat).length) nt0 (ntB (shortL s.a.toNat) _)
 have nt2:=ntCatG (m:=(shortL s.s.toNat).length) (ntShift nt1) (ntB (shortL s.s.toNat) _)
 have nt3:=ntCatG (m:=(shortL (IntKind.u64.wrap (s.l.length:Int)).toNat).length) (ntShift nt2) (ntB (shortL (IntKind.u64.wrap (s.l.length:Int)).toNat) _)
 refine gcall_of_vcb htb hmix (f:=46) rfl rfl rfl (by kernel_rfl) rfl rfl rfl fun hb hb2=> ?_; simp only [bndOs,bndO,gbnds,AV.gbnd,bnds,C.bnd,true_and,and_true] at hb hb2; conv=>whnf
 repeat' (first|(refine Exists.intro _ (And.intro (CK) ?_); conv=>whnf)|(refine And.intro (fun h=> ?_) (fun h=> ?_)<;>(first|skip)<;>(first|exact absurd h (by decide)|(conv=>whnf)))|((with_reducible refine Both.mk ?_ ?_)<;>conv=>whnf)|((with_reducible refine DOr.r ?_); (conv=>whnf))|((with_reducible refine NilOr.l ?_); conv=>whnf)|((with_reducible apply Drawn.one); conv=>whnf)|((with_reducible refine Then.mk' ?_); conv=>whnf)|(first|exact RefS.self rfl|fail)|(refine And.intro ?_ ?_; (focus (first|exact rfl|fail)); conv=>whnf)|((with_reducible refine xc_guard ?_); (first|(refine xc_g (PS1) false (by first|(((conv=>whnf); repeat' (first|exact trivial|exact rfl|exact LeC.refl _|exact LeC.nil rfl|((with_reducible refine And.intro ?_ ?_)<;>conv=>whnf))); done)|fail) trivial ?_)|fail); conv=>whnf)|((with_reducible refine xc_guard ?_); (first|(refine xc_g (PS2 _) true (by first|(((conv=>whnf); repeat' (first|exact trivial|exact rfl|exact LeC.refl _|((with_reducible refine And.intro ?_ ?_)<;>conv=>whnf))); done)|fail) (by first|(((conv=>whnf); repeat' (first|exact trivial|(first|exact nt2|fail)|((with_reducible refine And.intro ?_ ?_)<;>conv=>whnf))); done)|fail) ?_)); conv=>whnf)|((with_reducible refine xc_guard ?_); (first|(refine xc_g (PS3 _) true (by first|(((conv=>whnf); repeat' (first|exact trivial|exact rfl|exact LeC.refl _|((with_reducible refine And.intro ?_ ?_)<;>conv=>whnf))); done)|fail) (by first|(((conv=>whnf); repeat' (first|exact trivial|(first|exact nt3|fail)|((with_reducible refine And.intro ?_ ?_)<;>conv=>whnf))); done)|fail) ?_)); conv=>whnf)|((with_reducible refine xc_pure ?_); conv=>whnf))
 have e0:inH s 0=shortL s.a.toNat++shortL s.s.toNat++shortL s.l.length:=by unfold inH ensL; simp
 have el0:(inH s 0).length=(shortL s.a.toNat).length+(shortL s.s.toNat).length+(shortL s.l.length).length:=by rw [e0]; simp only [List.length_append]
 refine loopI Nat (fun c=>c≤s.l.length) (fun c=>[(24,intA .i64 c),(3,.own 4 1 0 (inH s c).length)]) (fun c=>[.box ((cSt s).map .c),.row (tb 5).sz 0 (fun _=>[]),.dead,.dead,.row 1 (inH s c).length (rB (inH s c))]) (fun c=>s.l.length-c) 0 (Nat.zero_le _) ?_ (fun _=>rfl) fun c (hc:c≤s.l.length)=> ?_
 ·simp only [wl,Int.toNat_natCast]
  (refine And.intro ?_ (And.intro ?_ (And.intro ?_ rfl))<;>(conv=>whnf)<;>repeat' (first|exact trivial|exact LeE.of (Le.refl _)|(with_reducible refine LeE.of ?_)|(first|exact rfl|exact fun i hi=>LeCs.refl _|exact leOwn (by first|rfl|omega))|((with_reducible refine And.intro ?_ ?_)<;>conv=>whnf)))
  all_goals first
   | omega
   | exact leOwn (by omega)
   | exact fun i hi=>LeCs.of_eq (by rw [e0]; rw [e0] at hi; exact catN3 _ _ _ i hi)
 ·by_cases hcl:c<s.l.length
  ·have hC:(0:Int)≤(c:Int)∧(c:Int)<(s.l.length:Int):=by omega
   have hlen:=hlen' c hc
   have PE:=hE c (inH s c).length (rB (inH s c)) hcl (by omega) (ntB _ _)
   have es:=inH_succ hcl
   have el:=congrArg List.length es
   rw [List.length_append] at el
   conv=>whnf
   repeat' (first|(refine And.intro (fun h=> ?_) (fun h=> ?_)<;>(first|(with_reducible have hd:_<_:=of_decide_eq_true h)|(with_reducible have hd:¬ (_<_):=of_decide_eq_false h)|fail)<;>(first|omega|(conv=>whnf)))|(refine And.intro ?_ ?_; (focus (first|(first|exact hC|fail)|fail)); conv=>whnf)|((with_reducible refine xc_guard ?_); (first|(refine xc_g (PE) false (by first|(((conv=>whnf); repeat' (first|exact trivial|exact rfl|exact LeC.refl _|exact (fun i hi=>LeCs.refl _)|((with_reducible refine And.intro ?_ ?_)<;>conv=>whnf))); done)|fail) trivial ?_)|fail); conv=>whnf)|fail)
   refine ⟨c+1,hcl,?_,by omega⟩
   (refine And.intro ?_ (And.intro ?_ (And.intro ?_ rfl))<;>(conv=>whnf)<;>repeat' (first|exact trivial|exact LeE.of (Le.refl _)|(with_reducible refine LeE.of ?_)|(first|exact rfl|exact leI (by first|rfl|(rw [wrap64 (by omega) (by omega)]; omega)|fail)|exact fun i hi=>LeCs.refl _|exact leOwn (by first|rfl|omega))|((with_reducible refine And.intro ?_ ?_)<;>conv=>whnf)))
   all_goals first
    | omega
    | exact leOwn (by omega)
    | exact fun i hi=>LeCs.of_eq (by rw [es]; exact catRB rfl (fun _ _=>rfl) (fun _ _=>rfl) i (by rw [es] at hi; exact hi))
  ·obtain rfl:c=s.l.length:=by omega
   have hlen:=hlen' s.l.length (Nat.le_refl _)
   have S1:=aSha1G false false (baL (inH s s.l.length)) (inH s s.l.length).length (fun j=>rB (inH s s.l.length) (0+j)) (nthC [[C.sl false 1 (inH s s.l.length).length fun j=>rB (inH s s.l.length) (0+j)]]) rfl (by rw [baL_size]) (fun j hj=>by rw [Nat.zero_add]; exact rB_strO hbys hj) (by rw [baL_size]; omega)
   have P4:=aPut4 (inH s s.l.length).length (by omega)
   rw [← wrapU (n:=(((inH s s.l.length).length:Nat):Int)) (by omega) (by omega)] at P4
   have hcn:=catN_q (fun j=>nthC [[C.v (.int .u8 115)],[C.v (.int .u8 115)],[C.v (.int .u8 116)],[C.v (.int .u8 49)]] (0+j)) (inH s s.l.length)
   have hfl:=fmS_len s
   have CC:=gConcat false 4 (nthC [[C.sl false 1 4 (wQ (fun j=>nthC [[C.v (.int .u8 115)],[C.v (.int .u8 115)],[C.v (.int .u8 116)],[C.v (.int .u8 49)]] (0+j)) (inH s s.l.length) 0).2],[C.sl false 1 4 (wQ (fun j=>nthC [[C.v (.int .u8 115)],[C.v (.int .u8 115)],[C.v (.int .u8 116)],[C.v (.int .u8 49)]] (0+j)) (inH s s.l.length) 1).2],[C.sl false 1 (32-0) (wQ (fun j=>nthC [[C.v (.int .u8 115)],[C.v (.int .u8 115)],[C.v (.int .u8 116)],[C.v (.int .u8 49)]] (0+j)) (inH s s.l.length) 2).2],[C.sl false 1 (inH s s.l.length).length (wQ (fun j=>nthC [[C.v (.int .u8 115)],[C.v (.int .u8 115)],[C.v (.int .u8 116)],[C.v (.int .u8 49)]] (0+j)) (inH s s.l.length) 3).2]]) (fun _=>false) (wQ (fun j=>nthC [[C.v (.int .u8 115)],[C.v (.int .u8 115)],[C.v (.int .u8 116)],[C.v (.int .u8 49)]] (0+j)) (inH s s.l.length)) (fun j hj=>by
    match j,hj with
    | 0,_=>rfl
    | 1,_=>rfl
    | 2,_=>rfl
    | 3,_=>rfl) (by omega) (by omega)
   conv=>whnf
   repeat' (first|(refine Exists.intro _ (And.intro (S1) ?_); conv=>whnf)|(refine Exists.intro _ (And.intro (P4) ?_); conv=>whnf)|(refine And.intro (fun h=> ?_) (fun h=> ?_)<;>(first|(with_reducible have hd:_<_:=of_decide_eq_true h)|(with_reducible have hd:¬ (_<_):=of_decide_eq_false h)|fail)<;>(first|omega|(conv=>whnf)))|((with_reducible refine Both.mk ?_ ?_)<;>conv=>whnf)|((with_reducible refine DOr.r ?_); (conv=>whnf))|((with_reducible refine FzOr.l ?_); conv=>whnf)|((with_reducible refine OwnOr.r (A:=OwnOr (frzPs _ _ _ (fun _ _=>opBuildSlice _ 64 4 _ _)) _) ?_); (conv=>whnf))|((with_reducible refine OwnOr.l ?_); (conv=>whnf))|((with_reducible apply Drawn.one); conv=>whnf)|((with_reducible refine Then.mk' ?_); conv=>whnf)|(first|exact RefS.self rfl|fail)|(refine And.intro ?_ ?_; (focus (first|exact rfl|fail)); conv=>whnf)|((with_reducible refine xc_guard ?_); (first|(refine xc_g (CC) false (by first|(((conv=>whnf); repeat' (first|exact trivial|exact rfl|exact LeC.refl _|((with_reducible refine And.intro ?_ ?_)<;>conv=>whnf))); done)|fail) trivial ?_)|fail); conv=>whnf)|((with_reducible refine xc_pure ?_); conv=>whnf))
   all_goals (try ((conv=>whnf); repeat' (first|exact trivial|exact rfl|((with_reducible refine And.intro ?_ ?_)<;>conv=>whnf))))
   all_goals first
    | (rw [hcn,hfl]; rfl)
    | exact fun i hi=>LeCs.of_eq (catG_q (mg:=bytesL mgS) rfl (fun j hj=>by match j,hj with|0,_=>rfl|1,_=>rfl|2,_=>rfl|3,_=>rfl) i (by rw [hfl] at hi; exact hi))
theorem gStPut (s:St)(ho:okSt s=true)(r:RgSt s):GCall Tryz.prog gl 46 [] [.ag (cSt s)] [.row 1 (fmS s).length (rB (fmS s))] [.own 0 1 0 (fmS s).length] :=
 gStPutG s ho r ⟨(okSt_parts ho).1,(okSt_parts ho).2.1⟩ (inH_len ho) (bys_inH ho r _ (Nat.le_refl _)) (fun c n F hc hn hF=>gEntO false n F _ hF hn ((okSt_parts ho).2.2 c hc))
theorem aStPut (s:St)(ho:okSt s=true)(r:RgSt s):ACall Tryz.prog gl 46 [.ag (cSt s)] [] (.c (.sl false 1 (fmS s).length (rB (fmS s)))):=by
 have h:=ACall.of_gcall (gStPut s ho r)
 have e:(fun j=>rB (fmS s) (0+j))=rB (fmS s):=by funext j; rw [Nat.zero_add]
 rw [e] at h
 exact h
end Go.Proofs.YtiodgjgngfklkaaGreatDoor
