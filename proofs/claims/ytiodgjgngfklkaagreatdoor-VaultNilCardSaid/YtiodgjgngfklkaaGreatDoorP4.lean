/- Contracts of functions of the program,and the laws that stand on them: what each function answers,whatever its arguments. -/
import Derived.Test.YtiodgjgngfklkaaGreatDoorP3
import Derived.Test.YtiodgjgngfklkaaGreatDoorP0
import Derived.Test.YtiodgjgngfklkaaGreatDoorTT
import Derived.Test.YtiodgjgngfklkaaGreatDoorA1
import Derived.Test.YtiodgjgngfklkaaGreatDoorC18
import Derived.Test.YtiodgjgngfklkaaGreatDoorC9
import Derived.Test.YtiodgjgngfklkaaGreatDoorE7
import Derived.Test.YtiodgjgngfklkaaGreatDoorEr
import Derived.Test.YtiodgjgngfklkaaGreatDoorC13
import Derived.Test.YtiodgjgngfklkaaGreatDoorA3
set_option linter.all false
set_option maxRecDepth 100000
set_option maxHeartbeats 8000000
namespace Go.Proofs.YtiodgjgngfklkaaGreatDoor
open Go Go.VA
def flB (t u:Bool):Int:=if t then (if u then bitsI .or .u8 (bitsI .or .u8 0 1) 2 else bitsI .or .u8 0 1) else (if u then bitsI .or .u8 0 2 else 0)
theorem flB_tt:flB true true=bitsI .or .u8 (bitsI .or .u8 0 1) 2:=rfl
theorem flB_tf:flB true false=bitsI .or .u8 0 1:=rfl
theorem flB_ft:flB false true=bitsI .or .u8 0 2:=rfl
theorem flB_ff:flB false false=0:=rfl
def kyA (a:Ad):Ky:=⟨a,1⟩
def depsL (l:List Ad) (c:Nat):List Int:=(l.take c).flatMap fun a=>kyL (kyA a)
def enH (e:En) (c:Nat):List Int:=kyL e.y++[flB e.t e.u]++layL e.v++shortL e.d.length++depsL e.d c
def enL (e:En):List Int:=enH e e.d.length
theorem getD_some {α:Type}{l:List α}{c:Nat}(h:c<l.length)(d:α):l[c]? =some (l.getD c d):=by
 rw [List.getD_eq_getElem?_getD,List.getElem?_eq_getElem h]; rfl
theorem depsL_succ {l:List Ad}{c:Nat}(h:c<l.length):depsL l (c+1)=depsL l c++kyL (kyA (l.getD c ad0)):=by
 unfold depsL
 rw [take_snoc? (getD_some h ad0),List.flatMap_append]
 simp
theorem enH_succ {e:En}{c:Nat}(h:c<e.d.length):enH e (c+1)=enH e c++kyL (kyA (e.d.getD c ad0)):=by
 unfold enH
 rw [depsL_succ h]
 simp only [List.append_assoc]
theorem kyA_ok {a:Ad}(h:okAd a=true):okKy (kyA a)=true:=by
 unfold okKy kyA
 rw [h]; rfl
theorem okEn_parts {e:En}(h:okEn e=true):okKy e.y=true∧checkV e.v=0∧depsB e.d=true:=by
 unfold okEn stB at h
 simp only [Bool.and_eq_true] at h
 exact ⟨h.1.1,by rw [checkV_if,h.1.2.1.1]; rfl,h.2⟩
theorem depsB_parts {l:List Ad}(h:depsB l=true):l.length≤24∧∀ j,j<l.length→okAd (l.getD j ad0)=true:=by
 unfold depsB at h
 simp only [Bool.and_eq_true,decide_eq_true_eq] at h
 refine ⟨h.2,fun j hj=> ?_⟩
 have:=allQ_at h.1 j hj
 unfold depQ at this
 simp only [Bool.and_eq_true] at this
 exact this.1
theorem depsL_len {l:List Ad}(h:∀ j,j<l.length→okAd (l.getD j ad0)=true):∀ c,c≤l.length→(depsL l c).length≤113*c
 | 0,_=>by simp [depsL]
 | c+1,hc=>by
  have ih:=depsL_len h c (by omega)
  have:=kyL_len (kyA_ok (h c (by omega)))
  rw [depsL_succ (by omega),List.length_append]
  omega
theorem enH_len {e:En}(h:okEn e=true)(c:Nat)(hc:c≤e.d.length):(enH e c).length≤2003000:=by
 obtain ⟨h1,h2,h3⟩:=okEn_parts h
 obtain ⟨h4,h5⟩:=depsB_parts h3
 have a:=kyL_len h1
 have b:=(check_big h2).1
 have b':=layL_big e.v
 have d:=shortL_len e.d.length
 have k:=depsL_len h5 c hc
 unfold enH
 simp only [List.length_append,List.length_singleton]
 omega
theorem catE {n:Nat}{f:Nat→List C}(A B D:List Int)(x:Int):∀ i,i<n+(A++[x]++B++D).length →
  catF 0 (n+A.length+1+B.length) (fun i=>catF 0 (n+A.length+1) (fun i=>catF 0 (n+A.length) (catF 0 n f (rB A)) (nthC [cBy x]) (0+i)) (rB B) (0+i)) (rB D) i=catF 0 n f (rB (A++[x]++B++D)) i:=by
 intro i hi
 have hi':i<n+A.length+1+B.length+D.length:=by
  rw [List.length_append,List.length_append,List.length_append,List.length_singleton] at hi
  omega
 simp only [Nat.zero_add]
 exact catL (a:=A++[x]++B) (b:=D) (by simp; omega) (catL (a:=A++[x]) (b:=B) (by simp; omega) (catL (b:=[x]) rfl (fun _ _=>rfl) (rB1 x)) (fun _ _=>rfl)) (fun _ _=>rfl) i hi'
attribute [local irreducible] kyL layL shortL bitsI
theorem gEntO (t:Bool)(n:Nat)(f:Nat→List C)(e:En)(hf:∀ i,i<n→NtCs (f i))(hn:n≤1000000000)(ho:okEn e=true) :
  GCall Tryz.prog gl 76 [.row 1 n f] [.own 0 1 0 n,.ag (cEn e)] [.row 1 (n+(enL e).length) (catF 0 n f (rB (enL e)))] [.own 0 1 0 (n+(enL e).length)]:=by
 obtain ⟨h1,h2,h3⟩:=okEn_parts ho
 obtain ⟨h4,h5⟩:=depsB_parts h3
 have hb:=check_big h2
 have ek:putKy e.y=kyL e.y:=if_pos h1
 have ev:putLn e.v=layL e.v:=by unfold putLn; rw [h2]; rfl
 have l1:=kyL_len h1
 have l2:=layL_big e.v
 have l3:=shortL_len e.d.length
 have PK:=gPutKyO n f e.y hf (by omega) h1
 try rw [ek] at PK
 have B1:(n+(kyL e.y).length+1)*(tb 5).bytes≤140737488355328:=by show (n+(kyL e.y).length+1)*1≤_; omega
 have nt1:=ntCatG (m:=(kyL e.y).length) hf (ntB (kyL e.y) _)
 have wl:IntKind.u64.wrap (e.d.length:Int)=e.d.length:=wrapU (by omega) (by omega)
 have nt2:=ntCatG nt1 (ntOne (flB e.t e.u))
 cases ht:e.t<;>cases hu:e.u
 all_goals
  have hfl:=congr (congrArg flB ht) hu
  first|rw [flB_tt] at hfl|rw [flB_tf] at hfl|rw [flB_ft] at hfl|rw [flB_ff] at hfl
  have P1:=gPut e.v false false true (n+(kyL e.y).length+1) (fun i=>catF 0 (n+(kyL e.y).length) (catF 0 n f (rB (kyL e.y))) (nthC [cBy (flB e.t e.u)]) (0+i)) (ntShift (ntCatG nt1 (ntOne _))) (fun _=>hb.2) (by omega)
  rw [ev,hfl] at P1
  have nt2:=ntCatG nt1 (ntOne (flB e.t e.u))
  rw [hfl] at nt2
  have nt3:=ntCatG (m:=(layL e.v).length) (ntShift nt2) (ntB (layL e.v) _)
  have PS:=fun F=>gPutShortI true (n+(kyL e.y).length+1+(layL e.v).length) F (IntKind.u64.wrap (e.d.length:Int)) (by rw [wl]; omega) (by rw [wl]; omega) (by rw [wl,Int.toNat_natCast]; omega)
  have nt4:=ntCatG (m:=(shortL (IntKind.u64.wrap (e.d.length:Int)).toNat).length) (ntShift nt3) (ntB (shortL (IntKind.u64.wrap (e.d.length:Int)).toNat) _)
  refine gcall_of_vcb htb hmix (f:=76) rfl rfl rfl (by kernel_rfl) rfl rfl rfl fun hb hb2=> ?_; simp only [bndOs,bndO,gbnds,AV.gbnd,bnds,C.bnd,true_and,and_true] at hb hb2; conv=>whnf
  repeat' (first|(refine And.intro (fun h=> ?_) (fun h=> ?_)<;>(first|skip)<;>(first|(first|exact Bool.noConfusion (ht.symm.trans h)|exact Bool.noConfusion (hu.symm.trans h)|fail)|(conv=>whnf)))|((with_reducible refine Both.mk ?_ ?_)<;>conv=>whnf)|((with_reducible refine NilOr.l ?_); conv=>whnf)|((with_reducible refine OwnOr.l ?_); (conv=>whnf))|((with_reducible apply Drawn.one); conv=>whnf)|((with_reducible refine Then.mk' ?_); conv=>whnf)|(first|exact RefS.self rfl|fail)|(refine And.intro ?_ ?_; (focus (first|(first|exact B1|fail)|fail)); conv=>whnf)|((with_reducible refine xc_guard ?_); (first|(refine xc_g (PK) false (by first|(((conv=>whnf); repeat' (first|exact trivial|exact rfl|exact LeC.refl _|exact (fun i hi=>LeCs.refl _)|((with_reducible refine And.intro ?_ ?_)<;>conv=>whnf))); done)|fail) trivial ?_)|fail); conv=>whnf)|((with_reducible refine xc_guard ?_); (first|(refine xc_g (P1) true (by first|(((conv=>whnf); repeat' (first|exact trivial|exact rfl|exact LeC.refl _|((with_reducible refine And.intro ?_ ?_)<;>conv=>whnf))); done)|fail) (by first|(((conv=>whnf); repeat' (first|exact trivial|(first|exact nt3|fail)|((with_reducible refine And.intro ?_ ?_)<;>conv=>whnf))); done)|fail) ?_)); conv=>whnf)|((with_reducible refine xc_guard ?_); (first|(refine xc_g (PS _) true (by first|(((conv=>whnf); repeat' (first|exact trivial|exact rfl|exact LeC.refl _|((with_reducible refine And.intro ?_ ?_)<;>conv=>whnf))); done)|fail) (by first|(((conv=>whnf); repeat' (first|exact trivial|(first|exact nt4|fail)|((with_reducible refine And.intro ?_ ?_)<;>conv=>whnf))); done)|fail) ?_)); conv=>whnf)|fail)
 all_goals
  have e0:enH e 0=kyL e.y++[flB e.t e.u]++layL e.v++shortL e.d.length:=by unfold enH depsL; simp
  have el0:(enH e 0).length=(kyL e.y).length+1+(layL e.v).length+(shortL e.d.length).length:=by rw [e0]; simp only [List.length_append,List.length_singleton]
  refine loopI Nat (fun c=>c≤e.d.length) (fun c=>[(36,intA .i64 c),(0,.own 4 1 0 (n+(enH e c).length))]) (fun c=>[.dead,.box ((cEn e).map .c),.row (tb 5).sz 0 (fun _=>[]),.dead,.row 1 (n+(enH e c).length) (catF 0 n f (rB (enH e c)))]) (fun c=>e.d.length-c) 0 (Nat.zero_le _) ?_ (fun _=>rfl) fun c (hc:c≤e.d.length)=> ?_
  ·simp only [wl,Int.toNat_natCast]
   (refine And.intro ?_ (And.intro ?_ (And.intro ?_ rfl))<;>(conv=>whnf)<;>repeat' (first|exact trivial|exact LeE.of (Le.refl _)|(with_reducible refine LeE.of ?_)|(first|exact rfl|exact fun i hi=>LeCs.refl _|exact leOwn (by first|rfl|omega))|((with_reducible refine And.intro ?_ ?_)<;>conv=>whnf)))
   all_goals first
    | omega
    | exact leOwn (by omega)
    | exact fun i hi=>LeCs.of_eq (by rw [e0,hfl]; rw [e0,hfl] at hi; exact catE _ _ _ _ i hi)
  ·by_cases hcl:c<e.d.length
   ·have hC:(0:Int)≤(c:Int)∧(c:Int)<(e.d.length:Int):=by omega
    have hlen:=enH_len ho c hc
    have hk:=kyA_ok (h5 c hcl)
    have PK2:=gPutKyO (n+(enH e c).length) (catF 0 n f (rB (enH e c))) (kyA (e.d.getD c ad0)) (ntCatG hf (ntB _ _)) (by omega) hk
    have es:=enH_succ hcl
    have el:=congrArg List.length es
    rw [List.length_append] at el
    conv=>whnf
    repeat' (first|(refine And.intro (fun h=> ?_) (fun h=> ?_)<;>(first|(with_reducible have hd:_<_:=of_decide_eq_true h)|(with_reducible have hd:¬ (_<_):=of_decide_eq_false h)|fail)<;>(first|(first|omega)|(conv=>whnf)))|(refine And.intro ?_ ?_; (focus (first|(first|exact hC|fail)|fail)); conv=>whnf)|((with_reducible refine xc_guard ?_); (first|(refine xc_g (PK2) false (by first|(((conv=>whnf); repeat' (first|exact trivial|exact rfl|exact LeC.refl _|exact (fun i hi=>LeCs.refl _)|((with_reducible refine And.intro ?_ ?_)<;>conv=>whnf))); done)|fail) trivial ?_)|fail); conv=>whnf)|fail)
    refine ⟨c+1,hcl,?_,by omega⟩
    (refine And.intro ?_ (And.intro ?_ (And.intro ?_ rfl))<;>(conv=>whnf)<;>repeat' (first|exact trivial|exact LeE.of (Le.refl _)|(with_reducible refine LeE.of ?_)|(first|exact rfl|exact leI (by first|rfl|(rw [wrap64 (by omega) (by omega)]; omega)|fail)|exact fun i hi=>LeCs.refl _|exact leOwn (by first|rfl|omega))|((with_reducible refine And.intro ?_ ?_)<;>conv=>whnf)))
    all_goals first
     | omega
     | exact leOwn (by omega)
     | exact fun i hi=>LeCs.of_eq (by rw [es]; exact catF_assoc _ _ _ rfl i (by omega))
   ·obtain rfl:c=e.d.length:=by omega
    conv=>whnf
    repeat' (first|(refine And.intro (fun h=> ?_) (fun h=> ?_)<;>(first|(with_reducible have hd:_<_:=of_decide_eq_true h)|(with_reducible have hd:¬ (_<_):=of_decide_eq_false h)|fail)<;>(first|(first|omega)|(conv=>whnf)))|(refine And.intro ?_ ?_; (focus (first|exact rfl|fail)); conv=>whnf)|fail)
    ((conv=>whnf); repeat' (first|exact trivial|exact rfl|exact (fun i hi=>LeCs.refl _)|((with_reducible refine And.intro ?_ ?_)<;>conv=>whnf)))
end Go.Proofs.YtiodgjgngfklkaaGreatDoor
