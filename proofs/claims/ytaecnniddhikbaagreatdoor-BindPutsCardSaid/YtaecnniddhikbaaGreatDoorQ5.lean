/- What functions of the program answer,whatever their arguments. -/
import Derived.Test.YtaecnniddhikbaaGreatDoorQ1
import Derived.Test.YtaecnniddhikbaaGreatDoorP3
import Derived.Test.YtaecnniddhikbaaGreatDoorP4
import Derived.Test.YtaecnniddhikbaaGreatDoorP5
set_option linter.unusedSectionVars false
set_option linter.unnecessarySimpa false
set_option linter.unusedSimpArgs false
set_option linter.unusedVariables false
set_option maxRecDepth 100000
set_option maxHeartbeats 8000000
namespace Go.Proofs.YtaecnniddhikbaaGreatDoor
open Go Go.VA
theorem gPutShortO (n:Nat)(f:Nat→List C)(k:Nat)(hf:∀ i,i<n→NtCs (f i))(hk:k<2 ^ 64)(hn:n+(shortL k).length≤140737488355328) :
  GCall Tryz.prog gl 22 [.row 1 n f] [.own 0 1 0 n,intA .u64 k] [.row 1 (n+(shortL k).length) (catF 0 n f (rB (shortL k)))] [.own 0 1 0 (n+(shortL k).length)]:=by
 refine gcall_of_vcb htb hmix (f:=22) rfl rfl rfl (by kernel_rfl) rfl rfl rfl fun hb hb2=> ?_; simp only [bndOs,bndO,gbnds,AV.gbnd,bnds,C.bnd,true_and,and_true] at hb hb2; conv=>whnf
 repeat' (first|((with_reducible refine NilOr.l ?_); conv=>whnf)|((with_reducible refine xc_guard ?_); (first|(refine xc_g (gClone _ _ _) true (by first|(((conv=>whnf); repeat' (first|exact trivial|exact rfl|exact LeC.refl _|((with_reducible refine And.intro ?_ ?_)<;>conv=>whnf))); done)|fail) (by first|(((conv=>whnf); repeat' (first|exact trivial|(first|exact ntShift hf)|((with_reducible refine And.intro ?_ ?_)<;>conv=>whnf))); done)|fail) ?_)); conv=>whnf)|fail)
 refine loopI (List Int×Nat×Nat) (fun p=>p.1++shortF p.2.2 p.2.1=shortL k∧p.2.1<2 ^ (7*(p.2.2+1))∧p.1.length+p.2.2≤9) (fun p=>[(5,.own 2 1 0 (n+p.1.length)),(1,intA .u64 p.2.1)])
  (fun p=>[.dead,.row 1 0 (fun _=>[]),.row 1 (n+p.1.length) (catF 0 n f (rB p.1))]) (fun p=>p.2.2) ([],k,9) ⟨rfl,by show k<2 ^ 70; omega,Nat.le_refl _⟩ ?_ (fun _=>rfl) fun ⟨pre,k',m⟩ ⟨h1,h2,h3⟩=> ?_
 ·(refine And.intro ?_ (And.intro ?_ (And.intro ?_ rfl))<;>(conv=>whnf)<;>repeat' (first|exact trivial|exact LeE.of (Le.refl _)|(first|exact rfl|exact fun i hi=>LeCs.refl _|fail)|((with_reducible refine And.intro ?_ ?_)<;>conv=>whnf)))
  exact fun i hi=>LeCs.of_eq (by first|(show f (0+i)=_; rw [Nat.zero_add]; exact (catF_nil i hi _).symm))
 ·change pre++shortF m k'=shortL k at h1
  change k'<2 ^ (7*(m+1)) at h2
  change pre.length+m≤9 at h3
  have hlen:pre.length+1≤(shortL k).length:=by
   rw [← h1,List.length_append]
   have:1≤(shortF m k').length:=by
    cases m with
    | zero=>simp [shortF]
    | succ m=>simp only [shortF]; split<;>simp
   omega
  have B1:(n+pre.length+1)*(tb 5).bytes≤140737488355328:=by show (n+pre.length+1)*1≤_; omega
  conv=>whnf
  repeat' (first|(refine And.intro (fun h=> ?_) (fun h=> ?_)<;>(first|(with_reducible have hd:_≤_:=of_decide_eq_true h)|(with_reducible have hd:¬ (_≤_):=of_decide_eq_false h)|fail)<;>conv=>whnf)|((with_reducible refine OwnOr.l ?_); (conv=>whnf))|(refine And.intro ?_ ?_; (focus (first|exact rfl|(first|assumption)|(refine chainI ?_; (first|decide|fail))|fail)); conv=>whnf)|fail)
  ·have h:decide ((k':Int)≥128)=true:=h
   have hk':128≤k':=by have:=of_decide_eq_true h; omega
   obtain ⟨m',rfl⟩:∃ m',m=m'+1:=by
    cases m with
    | zero=>simp at h2; omega
    | succ m'=>exact ⟨m',rfl⟩
   rw [show 7*(m'+1+1)=7*(m'+1)+7 from by omega,Nat.pow_add] at h2
   have e1:(pre++[((k'%128+128:Nat):Int)]).length=pre.length+1:=by simp
   refine ⟨(pre++[((k'%128+128:Nat):Int)],k'/128,m'),⟨?_,?_,?_⟩,?_,Nat.lt_succ_self _⟩
   ·rw [← h1]; simp only [shortF]; rw [if_neg (by omega)]; simp
   ·show k'/128<2 ^ (7*(m'+1)); omega
   ·show (pre++[((k'%128+128:Nat):Int)]).length+m'≤9; omega
   ·(refine And.intro ?_ (And.intro ?_ (And.intro ?_ rfl))<;>(conv=>whnf)<;>repeat' (first|exact trivial|exact LeE.of (Le.refl _)|(with_reducible refine LeE.of ?_)|(first|exact rfl|exact fun i hi=>LeCs.refl _|fail)|((with_reducible refine And.intro ?_ ?_)<;>conv=>whnf)))
    all_goals first
     | exact leI (shr7 k')
     | exact leOwn (by simp; omega)
     | (show _=n+(pre++[((k'%128+128:Nat):Int)]).length; rw [e1]; rfl)
     | exact fun i hi=>LeCs.of_eq (by rw [← catF_snoc pre _ _ rfl i (by have:i<n+(pre++[((k'%128+128:Nat):Int)]).length:=hi; omega),← or128 k'])
  ·have h:decide ((k':Int)≥128)=false:=h
   have hk':k'<128:=by have:=of_decide_eq_false h; omega
   have e0:shortL k=pre++[(k':Int)]:=by
    rw [← h1]
    congr 1
    cases m with
    | zero=>rfl
    | succ m=>simp only [shortF]; rw [if_pos hk']
   rw [e0]
   ((conv=>whnf); repeat' (first|exact trivial|exact rfl|((with_reducible refine And.intro ?_ ?_)<;>conv=>whnf)))
   ·show n+pre.length+1=n+(pre++[(k':Int)]).length; simp; omega
   ·refine fun i hi=>LeCs.of_eq ?_
    show catF 0 (n+pre.length) (catF 0 n f (rB pre)) (nthC [cBy (IntKind.u8.wrap (k':Int))]) i=_
    rw [w8 k' (by omega)]
    exact catF_snoc pre _ _ rfl i (by have:i<n+(pre++[(k':Int)]).length:=hi; simp at this; omega)
   ·show n+pre.length+1=n+(pre++[(k':Int)]).length; simp; omega
theorem gPutShortOI (n:Nat)(f:Nat→List C)(k:Int)(hf:∀ i,i<n→NtCs (f i))(h0:0≤k)(hk:k<18446744073709551616)(hn:n+(shortL k.toNat).length≤140737488355328) :
  GCall Tryz.prog gl 22 [.row 1 n f] [.own 0 1 0 n,intA .u64 k] [.row 1 (n+(shortL k.toNat).length) (catF 0 n f (rB (shortL k.toNat)))] [.own 0 1 0 (n+(shortL k.toNat).length)]:=by
 have:=gPutShortO n f k.toNat hf (by omega) hn
 rwa [Int.toNat_of_nonneg h0] at this
end Go.Proofs.YtaecnniddhikbaaGreatDoor
namespace Go.Proofs.YtaecnniddhikbaaGreatDoor
open Go Go.VA
def ahL (h:List Int) (c:Nat):List Int:=(h.take c).flatMap fun k=>shortL k.toNat
def acH (x:Ac) (c:Nat):List Int:=[IntKind.u8.wrap x.k]++kyL x.y++layL x.p++layL x.w++shortL x.h.length++ahL x.h c
def acL (x:Ac):List Int:=acH x x.h.length
theorem ahL_succ {l:List Int}{c:Nat}(h:c<l.length):ahL l (c+1)=ahL l c++shortL (l.getD c 0).toNat:=by
 unfold ahL
 rw [take_snoc? (getD_some h 0),List.flatMap_append]
 simp
theorem acH_succ {x:Ac}{c:Nat}(h:c<x.h.length):acH x (c+1)=acH x c++shortL (x.h.getD c 0).toNat:=by
 unfold acH
 rw [ahL_succ h]
 simp only [List.append_assoc]
structure OkA (x:Ac):Prop where
 k:3≤x.k∧x.k≤5
 y:okKy x.y=true
 p:checkV x.p=0
 w:checkV x.w=0
 l:x.h.length≤64
 h:∀ n,n<x.h.length→0≤x.h.getD n 0∧x.h.getD n 0<64
theorem ah_ge {h:List Int}{i:Int}(hl:h.length≤140737488355328)(H:ahB h i=true):∀ n,n<h.length→(n:Int)≤h.getD n 0∧h.getD n 0<i:=by
 intro n
 induction n with
 | zero =>
  intro hn
  have:=allQ_at H 0 hn
  unfold ahX at this
  simp only [Bool.not_eq_true',Bool.or_eq_false_iff,decide_eq_false_iff_not] at this
  omega
 | succ n ih =>
  intro hn
  have:=allQ_at H (n+1) hn
  have i1:=ih (by omega)
  unfold ahX at this
  have e:(IntKind.i64.wrap (((n+1:Nat):Int)-1)).toNat=n:=by rw [wrap64 (by omega) (by omega)]; omega
  rw [e] at this
  simp only [Bool.not_eq_true',Bool.or_eq_false_iff,decide_eq_false_iff_not,Bool.and_eq_false_iff] at this
  omega
theorem okA_of {x:Ac}{i:Nat}(hi:i≤64)(hl:x.h.length≤140737488355328)(h1:acK x=true)(h2:ahB x.h i=true):OkA x:=by
 have g:=ah_ge hl h2
 unfold acK valB at h1
 simp only [Bool.and_eq_true] at h1
 obtain ⟨⟨a1,a2⟩,⟨b1,b2⟩,b3⟩:=h1
 refine ⟨?_,a1,by rw [checkV_if,b1]; rfl,by rw [checkV_if,b2]; rfl,?_,fun n hn=> ?_⟩
 ·split at b3
  ·rename_i h; rw [beq_iff_eq] at h; omega
  ·split at b3
   ·rename_i h; rw [beq_iff_eq] at h; omega
   ·split at b3
    ·rename_i h; rw [beq_iff_eq] at h; omega
    ·simp at b3
 ·by_cases h0:x.h.length=0
  ·omega
  ·have:=g (x.h.length-1) (by omega)
   omega
 ·have:=g n hn
  omega
theorem ahL_len {x:Ac}:∀ c,c≤x.h.length→(ahL x.h c).length≤10*c
 | 0,_=>by simp [ahL]
 | c+1,hc=>by
  have ih:=ahL_len (x:=x) c (by omega)
  have:=shortL_len (x.h.getD c 0).toNat
  rw [ahL_succ (by omega),List.length_append]
  omega
theorem acH_len {x:Ac}(o:OkA x)(c:Nat)(hc:c≤x.h.length):(acH x c).length≤4002000:=by
 have a:=kyL_len o.y
 have b:=(check_big o.p).1
 have b':=layL_big x.p
 have d:=(check_big o.w).1
 have d':=layL_big x.w
 have e:=shortL_len x.h.length
 have g:=ahL_len (x:=x) c hc
 have l:=o.l
 unfold acH
 simp only [List.length_append,List.length_singleton]
 omega
theorem catF_oneA {n:Nat}{f:Nat→List C}(x:Int)(i:Nat)(hi:i<n+1):catF 0 n f (nthC [cBy x]) i=catF 0 n f (rB [x]) i:=by
 unfold catF
 split
 ·rfl
 ·exact rB1 x _ (by show i-n<1; omega)
theorem catA {n:Nat}{f:Nat→List C}(K P W S:List Int)(x:Int):∀ i,i<n+([x]++K++P++W++S).length →
  catF 0 (n+1+K.length+P.length+W.length) (fun i=>catF 0 (n+1+K.length+P.length) (fun i=>catF 0 (n+1+K.length) (fun i=>catF 0 (n+1) (catF 0 n f (nthC [cBy x])) (rB K) (0+i)) (rB P) (0+i)) (rB W) (0+i)) (rB S) i=catF 0 n f (rB ([x]++K++P++W++S)) i:=by
 intro i hi
 have hi':i<n+1+K.length+P.length+W.length+S.length:=by
  rw [List.length_append,List.length_append,List.length_append,List.length_append,List.length_singleton] at hi
  omega
 simp only [Nat.zero_add]
 exact catL (a:=[x]++K++P++W) (b:=S) (by simp; omega) (catL (a:=[x]++K++P) (b:=W) (by simp; omega) (catL (a:=[x]++K) (b:=P) (by simp; omega) (catL (a:=[x]) (b:=K) (by simp) (fun i hi=>catF_oneA x i hi) (fun _ _=>rfl)) (fun _ _=>rfl)) (fun _ _=>rfl)) (fun _ _=>rfl) i hi'
attribute [local irreducible] kyL layL shortL bitsI
theorem gAct (n:Nat)(f:Nat→List C)(x:Ac)(hf:∀ i,i<n→NtCs (f i))(hn:n≤1000000000)(o:OkA x) :
  GCall Tryz.prog gl 26 [.row 1 n f] [.own 0 1 0 n,.ag (cAc x)] [.row 1 (n+(acL x).length) (catF 0 n f (rB (acL x)))] [.own 0 1 0 (n+(acL x).length)]:=by
 have hbp:=check_big o.p
 have hbw:=check_big o.w
 have ep:putLn x.p=layL x.p:=by unfold putLn; rw [o.p]; rfl
 have ew:putLn x.w=layL x.w:=by unfold putLn; rw [o.w]; rfl
 have l1:=kyL_len o.y
 have l2:=layL_big x.p
 have l3:=layL_big x.w
 have l4:=shortL_len x.h.length
 have hl:=o.l
 have B1:(n+1)*(tb 5).bytes≤140737488355328:=by show (n+1)*1≤_; omega
 have wl:IntKind.u64.wrap (x.h.length:Int)=x.h.length:=wrapU (by omega) (by omega)
 have nt1:∀ i,i<n+1→NtCs (catF 0 n f (nthC [cBy (IntKind.u8.wrap x.k)]) i):=ntCatG hf (ntOne _)
 have PK:=gPutKyO (n+1) (catF 0 n f (nthC [cBy (IntKind.u8.wrap x.k)])) x.y nt1 (by omega) o.y
 have nt2:=ntCatG (m:=(kyL x.y).length) nt1 (ntB (kyL x.y) _)
 have P1:=gPut x.p false false true (n+1+(kyL x.y).length) (fun i=>catF 0 (n+1) (catF 0 n f (nthC [cBy (IntKind.u8.wrap x.k)])) (rB (kyL x.y)) (0+i)) (ntShift nt2) (fun _=>hbp.2) (by omega)
 rw [ep] at P1
 have nt3:=ntCatG (m:=(layL x.p).length) (ntShift nt2) (ntB (layL x.p) _)
 have P2:=gPut x.w false false true (n+1+(kyL x.y).length+(layL x.p).length) (fun i=>catF 0 (n+1+(kyL x.y).length) (fun i=>catF 0 (n+1) (catF 0 n f (nthC [cBy (IntKind.u8.wrap x.k)])) (rB (kyL x.y)) (0+i)) (rB (layL x.p)) (0+i)) (ntShift nt3) (fun _=>hbw.2) (by omega)
 rw [ew] at P2
 have nt4:=ntCatG (m:=(layL x.w).length) (ntShift nt3) (ntB (layL x.w) _)
 have PS:=fun F=>gPutShortI true (n+1+(kyL x.y).length+(layL x.p).length+(layL x.w).length) F (IntKind.u64.wrap (x.h.length:Int)) (by rw [wl]; omega) (by rw [wl]; omega) (by rw [wl,Int.toNat_natCast]; omega)
 have nt5:=ntCatG (m:=(shortL (IntKind.u64.wrap (x.h.length:Int)).toNat).length) (ntShift nt4) (ntB (shortL (IntKind.u64.wrap (x.h.length:Int)).toNat) _)
 refine gcall_of_vcb htb hmix (f:=26) rfl rfl rfl (by kernel_rfl) rfl rfl rfl fun hb hb2=> ?_; simp only [bndOs,bndO,gbnds,AV.gbnd,bnds,C.bnd,true_and,and_true] at hb hb2; conv=>whnf
 repeat' (first|((with_reducible refine Both.mk ?_ ?_)<;>conv=>whnf)|((with_reducible refine DOr.r ?_); (conv=>whnf))|((with_reducible refine NilOr.l ?_); conv=>whnf)|((with_reducible refine FzOr.l ?_); conv=>whnf)|((with_reducible refine OwnOr.l ?_); (conv=>whnf))|((with_reducible apply Drawn.one); conv=>whnf)|((with_reducible refine Then.mk' ?_); conv=>whnf)|(first|exact RefS.self rfl|fail)|(refine And.intro ?_ ?_; (focus (first|exact rfl|(first|exact B1|fail)|fail)); conv=>whnf)|((with_reducible refine xc_guard ?_); (first|(refine xc_g (PK) false (by first|(((conv=>whnf); repeat' (first|exact trivial|exact rfl|exact LeC.refl _|exact (fun i hi=>LeCs.refl _)|((with_reducible refine And.intro ?_ ?_)<;>conv=>whnf))); done)|fail) trivial ?_)|fail); conv=>whnf)|((with_reducible refine xc_guard ?_); (first|(refine xc_g (P1) true (by first|(((conv=>whnf); repeat' (first|exact trivial|exact rfl|exact LeC.refl _|((with_reducible refine And.intro ?_ ?_)<;>conv=>whnf))); done)|fail) (by first|(((conv=>whnf); repeat' (first|exact trivial|(first|exact nt3|fail)|((with_reducible refine And.intro ?_ ?_)<;>conv=>whnf))); done)|fail) ?_)); conv=>whnf)|((with_reducible refine xc_guard ?_); (first|(refine xc_g (P2) true (by first|(((conv=>whnf); repeat' (first|exact trivial|exact rfl|exact LeC.refl _|((with_reducible refine And.intro ?_ ?_)<;>conv=>whnf))); done)|fail) (by first|(((conv=>whnf); repeat' (first|exact trivial|(first|exact nt4|fail)|((with_reducible refine And.intro ?_ ?_)<;>conv=>whnf))); done)|fail) ?_)); conv=>whnf)|((with_reducible refine xc_guard ?_); (first|(refine xc_g (PS _) true (by first|(((conv=>whnf); repeat' (first|exact trivial|exact rfl|exact LeC.refl _|((with_reducible refine And.intro ?_ ?_)<;>conv=>whnf))); done)|fail) (by first|(((conv=>whnf); repeat' (first|exact trivial|(first|exact nt5|fail)|((with_reducible refine And.intro ?_ ?_)<;>conv=>whnf))); done)|fail) ?_)); conv=>whnf)|fail)
 have e0:acH x 0=[IntKind.u8.wrap x.k]++kyL x.y++layL x.p++layL x.w++shortL x.h.length:=by unfold acH ahL; simp
 have el0:(acH x 0).length=1+(kyL x.y).length+(layL x.p).length+(layL x.w).length+(shortL x.h.length).length:=by rw [e0]; simp only [List.length_append,List.length_singleton]
 refine loopI Nat (fun c=>c≤x.h.length) (fun c=>[(32,intA .i64 c),(0,.own 5 1 0 (n+(acH x c).length))]) (fun c=>[.dead,.box ((cAc x).map .c),.row (tb 5).sz 0 (fun _=>[]),.dead,.dead,.row 1 (n+(acH x c).length) (catF 0 n f (rB (acH x c)))]) (fun c=>x.h.length-c) 0 (Nat.zero_le _) ?_ (fun _=>rfl) fun c (hc:c≤x.h.length)=> ?_
 ·simp only [wl,Int.toNat_natCast]
  (refine And.intro ?_ (And.intro ?_ (And.intro ?_ rfl))<;>(conv=>whnf)<;>repeat' (first|exact trivial|exact LeE.of (Le.refl _)|(with_reducible refine LeE.of ?_)|(first|exact rfl|exact fun i hi=>LeCs.refl _|exact leOwn (by first|rfl|omega))|((with_reducible refine And.intro ?_ ?_)<;>conv=>whnf)))
  all_goals first
   | omega
   | exact leOwn (by omega)
   | exact fun i hi=>LeCs.of_eq (by rw [e0]; rw [e0] at hi; exact catA _ _ _ _ _ i hi)
 ·by_cases hcl:c<x.h.length
  ·have hC:(0:Int)≤(c:Int)∧(c:Int)<(x.h.length:Int):=by omega
   have hlen:=acH_len o c hc
   have hh:=o.h c hcl
   have hs:=shortL_len (x.h.getD c 0).toNat
   have w:IntKind.u64.wrap (x.h.getD c 0)=x.h.getD c 0:=wrapU hh.1 (by omega)
   have PQ:=gPutShortOI (n+(acH x c).length) (catF 0 n f (rB (acH x c))) (IntKind.u64.wrap (x.h.getD c 0)) (ntCatG hf (ntB _ _)) (by rw [w]; omega) (by rw [w]; omega) (by rw [w]; omega)
   have es:=acH_succ hcl
   rw [← w] at es
   have el:=congrArg List.length es
   rw [List.length_append] at el
   conv=>whnf
   repeat' (first|(refine And.intro (fun h=> ?_) (fun h=> ?_)<;>(first|(with_reducible have hd:_<_:=of_decide_eq_true h)|(with_reducible have hd:¬ (_<_):=of_decide_eq_false h)|fail)<;>(first|omega|(conv=>whnf)))|(refine And.intro ?_ ?_; (focus (first|(first|exact hC|fail)|fail)); conv=>whnf)|((with_reducible refine xc_guard ?_); (first|(refine xc_g (PQ) false (by first|(((conv=>whnf); repeat' (first|exact trivial|exact rfl|exact LeC.refl _|exact (fun i hi=>LeCs.refl _)|((with_reducible refine And.intro ?_ ?_)<;>conv=>whnf))); done)|fail) trivial ?_)|fail); conv=>whnf)|fail)
   refine ⟨c+1,hcl,?_,by omega⟩
   (refine And.intro ?_ (And.intro ?_ (And.intro ?_ rfl))<;>(conv=>whnf)<;>repeat' (first|exact trivial|exact LeE.of (Le.refl _)|(with_reducible refine LeE.of ?_)|(first|exact rfl|exact leI (by first|rfl|(rw [wrap64 (by omega) (by omega)]; omega)|fail)|exact fun i hi=>LeCs.refl _|exact leOwn (by first|rfl|omega))|((with_reducible refine And.intro ?_ ?_)<;>conv=>whnf)))
   all_goals first
    | omega
    | exact leOwn (by omega)
    | exact fun i hi=>LeCs.of_eq (by rw [es]; exact catF_assoc _ _ _ rfl i (by omega))
  ·obtain rfl:c=x.h.length:=by omega
   conv=>whnf
   repeat' (first|(refine And.intro (fun h=> ?_) (fun h=> ?_)<;>(first|(with_reducible have hd:_<_:=of_decide_eq_true h)|(with_reducible have hd:¬ (_<_):=of_decide_eq_false h)|fail)<;>(first|omega|(conv=>whnf)))|(refine And.intro ?_ ?_; (focus (first|exact rfl|fail)); conv=>whnf)|fail)
   ((conv=>whnf); repeat' (first|exact trivial|exact rfl|exact (fun i hi=>LeCs.refl _)|((with_reducible refine And.intro ?_ ?_)<;>conv=>whnf)))
end Go.Proofs.YtaecnniddhikbaaGreatDoor
namespace Go.Proofs.YtaecnniddhikbaaGreatDoor
open Go Go.VA
def bdL (b:Bd):List Int:=strL b.n++layL b.v
def spL (x:Sp):List Int:=kyL x.y++sumL x.s
def bdsL (l:List Bd) (c:Nat):List Int:=(l.take c).flatMap bdL
def spsL (l:List Sp) (c:Nat):List Int:=(l.take c).flatMap spL
def acsL (l:List Ac) (c:Nat):List Int:=(l.take c).flatMap acL
def pb0 (p:Pl):List Int:=sumL p.c++shortL p.a.toNat++shortL p.s.toNat++shortL p.b.length
def pbH (p:Pl) (c:Nat):List Int:=pb0 p++bdsL p.b c
def pt0 (p:Pl):List Int:=pbH p p.b.length++shortL p.t.length
def ptH (p:Pl) (c:Nat):List Int:=pt0 p++spsL p.t c
def px0 (p:Pl):List Int:=ptH p p.t.length++shortL p.x.length
def pxH (p:Pl) (c:Nat):List Int:=px0 p++acsL p.x c
def inP (p:Pl):List Int:=pxH p p.x.length
def mgP:ByteArray:={ data:= #[115,112,108,49] }
def fmP (p:Pl):List Int:=wrapL (bytesL mgP) (inP p)
theorem fm_succ {α:Type}(enc:α→List Int)(d:α){l:List α}{c:Nat}(h:c<l.length):(l.take (c+1)).flatMap enc=(l.take c).flatMap enc++enc (l.getD c d):=by
 rw [take_snoc? (getD_some h d),List.flatMap_append]
 simp
theorem pbH_succ {p:Pl}{c:Nat}(h:c<p.b.length):pbH p (c+1)=pbH p c++bdL (p.b.getD c bd0):=by
 unfold pbH bdsL
 rw [fm_succ bdL bd0 h,List.append_assoc]
theorem ptH_succ {p:Pl}{c:Nat}(h:c<p.t.length):ptH p (c+1)=ptH p c++spL (p.t.getD c sp0):=by
 unfold ptH spsL
 rw [fm_succ spL sp0 h,List.append_assoc]
theorem pxH_succ {p:Pl}{c:Nat}(h:c<p.x.length):pxH p (c+1)=pxH p c++acL (p.x.getD c ac0):=by
 unfold pxH acsL
 rw [fm_succ acL ac0 h,List.append_assoc]
structure OkB (b:Bd):Prop where
 n:b.n.size≤24
 v:checkV b.v=0
structure OkP (p:Pl):Prop where
 s:p.s≤4611686018427387904
 bl:p.b.length≤128
 b:∀ j,j<p.b.length→OkB (p.b.getD j bd0)
 tl:p.t.length≤64
 t:∀ j,j<p.t.length→okKy (p.t.getD j sp0).y=true
 xl:p.x.length≤64
 x:∀ j,j<p.x.length→OkA (p.x.getD j ac0)
structure RgPl (p:Pl):Prop where
 a0:0≤p.a
 a1:p.a<18446744073709551616
 s0:0≤p.s
 s1:p.s<18446744073709551616
 c:∀ i,32≤i→p.c i=0
 b:∀ x ∈ p.b,rgV x.v=true
 t:∀ x ∈ p.t,0≤x.y.n∧x.y.n≤4294967295∧∀ i,32≤i→x.s i=0
 x:∀ x ∈ p.x,0≤x.y.n∧x.y.n≤4294967295∧rgV x.p=true∧rgV x.w=true
theorem okBd_of {l:List Bd}{c:Nat}(h:vrQ l c=true):OkB (l.getD c bd0):=by
 unfold vrQ at h
 simp only [Bool.and_eq_true] at h
 refine ⟨?_,by rw [checkV_if,h.1.2]; rfl⟩
 have:=h.1.1.2
 unfold nameB at this
 simp only [Bool.and_eq_true] at this
 exact spell_le this.1
theorem okP_of {p:Pl}(h:okPl p=true)(hl:∀ j,j<p.x.length→(p.x.getD j ac0).h.length≤140737488355328):OkP p:=by
 unfold okPl varsB stampsB actsB at h
 simp only [Bool.not_eq_true',Bool.or_eq_false_iff,Bool.not_eq_false',decide_eq_false_iff_not,Bool.and_eq_true,decide_eq_true_eq] at h
 obtain ⟨⟨⟨h1,h2,h3⟩,h4,h5⟩,h6,h7⟩:=h
 refine ⟨by omega,by omega,fun j hj=>okBd_of (allQ_at h2 j hj),by omega,fun j hj=> ?_,by omega,fun j hj=> ?_⟩
 ·have:=allQ_at h4 j hj
  unfold spQ at this
  simp only [Bool.and_eq_true] at this
  exact this.1
 ·have:=allQ_at h6 j hj
  unfold acQ at this
  simp only [Bool.and_eq_true] at this
  exact okA_of (i:=j) (by omega) (hl j hj) this.1.1 this.1.2
theorem fm_len {α:Type}(enc:α→List Int)(d:α)(m:Nat){l:List α}(h:∀ j,j<l.length→(enc (l.getD j d)).length≤m):∀ c,c≤l.length→((l.take c).flatMap enc).length≤m*c
 | 0,_=>by simp
 | c+1,hc=>by
  have ih:=fm_len enc d m h c (by omega)
  have:=h c (by omega)
  rw [fm_succ enc d (by omega),List.length_append,Nat.mul_add]
  omega
theorem fm_bys {α:Type}(enc:α→List Int)(d:α){l:List α}(h:∀ j,j<l.length→Bys (enc (l.getD j d))):∀ c,c≤l.length→Bys ((l.take c).flatMap enc)
 | 0,_=>by intro x hx; simp at hx
 | c+1,hc=>by
  rw [fm_succ enc d (by omega)]
  exact bys_app (fm_bys enc d h c (by omega)) (h c (by omega))
theorem bdL_len {b:Bd}(o:OkB b):(bdL b).length≤2000034:=by
 have a:=strL_len b.n
 have c:=o.n
 have d:=(check_big o.v).1
 have e:=layL_big b.v
 unfold bdL
 rw [List.length_append]
 omega
theorem spL_len {x:Sp}(o:okKy x.y=true):(spL x).length≤145:=by
 have a:=kyL_len o
 unfold spL
 rw [List.length_append,sumL_len]
 omega
theorem acL_len {x:Ac}(o:OkA x):(acL x).length≤4002000:=acH_len o _ (Nat.le_refl _)
theorem bys_bd {b:Bd}(o:OkB b):Bys (bdL b):=bys_app (bys_strL (by have:=o.n; omega)) (layL_bys b.v 8 (check_parts o.v).1 (by decide))
theorem bys_sp {x:Sp}(o:okKy x.y=true):Bys (spL x):=bys_app (bys_ky o) (bys_bytes 32 _)
theorem bys_ac {x:Ac}(o:OkA x):Bys (acL x):=by
 have k:=o.k
 have l:=o.l
 refine bys_app (bys_app (bys_app (bys_app (bys_app (bys_one (bys_w8 _)) (bys_ky o.y)) (layL_bys x.p 8 (check_parts o.p).1 (by decide))) (layL_bys x.w 8 (check_parts o.w).1 (by decide))) (bys_shortL (by omega))) ?_
 exact fm_bys (fun k:Int=>shortL k.toNat) 0 (fun j hj=>bys_shortL (by have:=o.h j hj; omega)) _ (Nat.le_refl _)
theorem pb0_len (p:Pl):(pb0 p).length≤62:=by
 have a:=shortL_len p.a.toNat
 have b:=shortL_len p.s.toNat
 have c:=shortL_len p.b.length
 unfold pb0
 simp only [List.length_append,sumL_len]
 omega
theorem pbH_len {p:Pl}(o:OkP p)(c:Nat)(hc:c≤p.b.length):(pbH p c).length≤256005000:=by
 have a:=pb0_len p
 have b:=fm_len bdL bd0 2000034 (fun j hj=>bdL_len (o.b j hj)) c hc
 have d:=o.bl
 unfold pbH bdsL
 rw [List.length_append]
 omega
theorem ptH_len {p:Pl}(o:OkP p)(c:Nat)(hc:c≤p.t.length):(ptH p c).length≤256020000:=by
 have a:=pbH_len o p.b.length (Nat.le_refl _)
 have b:=fm_len spL sp0 145 (fun j hj=>spL_len (o.t j hj)) c hc
 have e:=shortL_len p.t.length
 have d:=o.tl
 unfold ptH pt0 spsL
 rw [List.length_append,List.length_append]
 omega
theorem pxH_len {p:Pl}(o:OkP p)(c:Nat)(hc:c≤p.x.length):(pxH p c).length≤520000000:=by
 have a:=ptH_len o p.t.length (Nat.le_refl _)
 have b:=fm_len acL ac0 4002000 (fun j hj=>acL_len (o.x j hj)) c hc
 have e:=shortL_len p.x.length
 have d:=o.xl
 unfold pxH px0 acsL
 rw [List.length_append,List.length_append]
 omega
theorem bys_inP {p:Pl}(o:OkP p)(r:RgPl p):Bys (inP p):=by
 have a0:=r.a0
 have a1:=r.a1
 have s0:=r.s0
 have s1:=r.s1
 have b:=o.bl
 have t:=o.tl
 have x:=o.xl
 have h1:Bys (pb0 p):=bys_app (bys_app (bys_app (bys_bytes 32 _) (bys_shortL (by omega))) (bys_shortL (by omega))) (bys_shortL (by omega))
 have h2:Bys (pbH p p.b.length):=bys_app h1 (fm_bys bdL bd0 (fun j hj=>bys_bd (o.b j hj)) _ (Nat.le_refl _))
 have h3:Bys (ptH p p.t.length):=bys_app (bys_app h2 (bys_shortL (by omega))) (fm_bys spL sp0 (fun j hj=>bys_sp (o.t j hj)) _ (Nat.le_refl _))
 exact bys_app (bys_app h3 (bys_shortL (by omega))) (fm_bys acL ac0 (fun j hj=>bys_ac (o.x j hj)) _ (Nat.le_refl _))
theorem fmP_len (p:Pl):(fmP p).length=40+(inP p).length:=wrapL_len _ _ (by rw [bytesL_len]; rfl)
end Go.Proofs.YtaecnniddhikbaaGreatDoor
