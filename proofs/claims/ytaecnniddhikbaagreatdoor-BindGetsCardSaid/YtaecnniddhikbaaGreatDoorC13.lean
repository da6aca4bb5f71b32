/- Contracts of functions of the program,and the laws that stand on them: what each function answers,whatever its arguments. -/
import Derived.Test.YtaecnniddhikbaaGreatDoorC9
import Derived.Test.YtaecnniddhikbaaGreatDoorVD
set_option linter.unusedSectionVars false
set_option linter.unnecessarySimpa false
set_option linter.unusedSimpArgs false
set_option linter.unusedVariables false
set_option maxRecDepth 100000
set_option maxHeartbeats 8000000
namespace Go.Proofs.YtaecnniddhikbaaGreatDoor
open Go Go.VA
theorem first_t {v:V} (h:v.sec=true):firstB v=bitsI .or .u8 (IntKind.u8.wrap v.k) 128:=by simp [firstB,h]
theorem first_f {v:V} (h:v.sec=false):firstB v=IntKind.u8.wrap v.k:=by simp [firstB,h]
theorem layB_1 {v:V} {rs:List (List Int)} (h:(v.k==1)=true):layB v rs=[IntKind.u8.wrap v.i]:=by simp only [layB,h,if_true]
theorem layB_2 {v:V} {rs:List (List Int)} (h1:(v.k==1)=false) (h:(v.k==2)=true):layB v rs=shortL (zigI v.i).toNat:=by simp only [layB,h,h1,if_true,Bool.false_eq_true,if_false]
theorem layB_3 {v:V} {rs:List (List Int)} (h1:(v.k==1)=false) (h2:(v.k==2)=false) (h:(v.k==3)=true):layB v rs=strL v.s:=by simp only [layB,h,h1,h2,if_true,Bool.false_eq_true,if_false]
theorem layB_6 {v:V} {rs:List (List Int)} (h1:(v.k==1)=false) (h2:(v.k==2)=false) (h3:(v.k==3)=false) (h:(v.k==6)=true):layB v rs=[codeT v.t]:=by simp only [layB,h,h1,h2,h3,if_true,Bool.false_eq_true,if_false]
theorem layB_0 {v:V} {rs:List (List Int)} (h1:(v.k==1)=false) (h2:(v.k==2)=false) (h3:(v.k==3)=false) (h6:(v.k==6)=false) (h4:(v.k==4)=false) (h5:(v.k==5)=false):layB v rs=[]:=by simp [layB,h1,h2,h3,h6,h4,h5]
theorem layB_45 {v:V} {rs:List (List Int)} (h1:(v.k==1)=false) (h2:(v.k==2)=false) (h3:(v.k==3)=false) (h6:(v.k==6)=false) (h:(v.k==4||v.k==5)=true):layB v rs=shortL v.l.length++layIts v rs v.l.length:=by simp only [layB,h1,h2,h3,h6,h,if_true,Bool.false_eq_true,if_false]
def hdL (v:V) (c:Nat):List Int:=firstB v::(shortL v.l.length++layIts v (v.l.map layL) c)
theorem hdL_succ4 {v:V} {c:Nat} {x:V} (h:(v.k==5)=false) (hx:v.l[c]? =some x) (hc:c<v.l.length):hdL v (c+1)=hdL v c++layL x:=by
 unfold hdL
 rw [layIts_succ,h,getD_map layL v.l c hc [] x hx]
 simp
theorem hdL_succ5 {v:V} {c:Nat} {x:V} (h:(v.k==5)=true) (hx:v.l[c]? =some x) (hc:c<v.l.length):hdL v (c+1)=hdL v c++strL (v.ks.getD c ByteArray.empty)++layL x:=by
 unfold hdL
 rw [layIts_succ,h,getD_map layL v.l c hc [] x hx]
 simp
theorem hdL_big {v:V} {c:Nat} {x:V} (hx:v.l[c]? =some x) (hc:c<v.l.length):(hdL v c).length+(strL (v.ks.getD c ByteArray.empty)).length+bigL x≤bigL v:=by
 have h1:=layIts_big v (fun x _=>layL_big x) c (by omega)
 have h2:=shortL_len v.l.length
 have h3:=strL_len (v.ks.getD c ByteArray.empty)
 have h4:=sumTo_mono v.ks (v.l.map bigL) (c+1) v.l.length (by omega)
 simp only [sumTo] at h4
 rw [getD_map bigL v.l c hc 0 x hx] at h4
 rw [bigL_eq v]
 simp only [hdL,List.length_cons,List.length_append]
 omega
theorem hdL_all {v:V} (h1:(v.k==1)=false) (h2:(v.k==2)=false) (h3:(v.k==3)=false) (h6:(v.k==6)=false) (h:(v.k==4||v.k==5)=true):layL v=hdL v v.l.length:=by rw [layL_eq,layB_45 h1 h2 h3 h6 h]; rfl
attribute [local irreducible] zigI
end Go.Proofs.YtaecnniddhikbaaGreatDoor
namespace Go.Proofs.YtaecnniddhikbaaGreatDoor
open Go Go.VA
end Go.Proofs.YtaecnniddhikbaaGreatDoor
namespace Go.Proofs.YtaecnniddhikbaaGreatDoor
open Go Go.VA
abbrev byF (g:Nat→Int) (i:Nat):List C:=cBy (g i)
def sameF (n m:Nat) (g h:Nat→Int):Bool:=decide (n=m∧∀ i,i<n→g i=h i)
theorem aSame01 (t u:Bool) (n m:Nat) (g q:Nat→Int):ACall Tryz.prog gl 10 [.c (.sl t 1 n (byF g)),.c (.sl u 1 m (byF q))] [] (boolA (sameF n m g q)):=by
 refine acall_of_vcb htb hmix (f:=10) rfl rfl rfl (by kernel_rfl) rfl rfl fun hb=> ?_; simp only [bndAll,AV.bnd,bnds,C.bnd,cVt,cS,true_and,and_true] at hb; conv=>whnf
 repeat' (first|(refine And.intro (fun h=> ?_) (fun h=> ?_)<;>(first|skip)<;>conv=>whnf)|fail)
 ·have h0:n≠m:=fun e=>by subst e; simp_all
  exact leB (by unfold sameF; simp [h0])
 ·have h0:n=m:=by
   have:(n:Int)=m:=by simpa using h
   omega
  subst h0
  refine loopN (fun c=>c≤n∧∀ i,i<c→g i=q i) (fun c=>[(5,intA .i64 c)]) (fun c=>[]) n (fun c h=>h.1) 0 ⟨Nat.zero_le _,fun i hi=>absurd hi (Nat.not_lt_zero _)⟩ ?_ (fun _=>rfl) fun c ⟨hc,hR⟩=> ?_
  ·(refine And.intro ?_ (And.intro ?_ (And.intro ?_ rfl))<;>(conv=>whnf)<;>repeat' (first|exact trivial|exact LeE.of (Le.refl _)|(first|exact rfl|fail)|((with_reducible refine And.intro ?_ ?_)<;>conv=>whnf)))
  ·conv=>whnf
   repeat' (first|(refine And.intro (fun h=> ?_) (fun h=> ?_)<;>(first|(with_reducible have hd:_<_:=of_decide_eq_true h)|(with_reducible have hd:¬ (_<_):=of_decide_eq_false h)|skip)<;>conv=>whnf)|(refine And.intro ?_ ?_; (focus (first|(refine chainI ?_; (first|omega|fail))|fail)); conv=>whnf)|fail)
   ·refine leB ?_
    have hne:g c≠q c:=fun e=>by
     have h':(g c != q c)=true:=h
     rw [e] at h'; simp at h'
    unfold sameF
    rw [decide_eq_false_iff_not.2 (fun hh=>hne (hh.2 c (by omega)))]
   ·have he:g c=q c:=by
     have h':(g c != q c)=false:=h
     simpa using h'
    refine ⟨c+1,⟨⟨by omega,fun i hi=> ?_⟩,by omega⟩,?_⟩
    ·rcases Nat.lt_or_ge i c with h1|h1
     ·exact hR i h1
     ·obtain rfl:i=c:=by omega
      exact he
    ·(refine And.intro ?_ (And.intro ?_ (And.intro ?_ rfl))<;>(conv=>whnf)<;>repeat' (first|exact trivial|exact LeE.of (Le.refl _)|(with_reducible refine LeE.of ?_)|(first|exact rfl|exact leI (by first|rfl|(rw [wrap64 (by omega) (by omega)]; omega)|fail)|fail)|((with_reducible refine And.intro ?_ ?_)<;>conv=>whnf)))
   ·obtain rfl:c=n:=by omega
    refine leB ?_
    unfold sameF
    rw [decide_eq_true_iff.2 ⟨rfl,hR⟩]
theorem aSameX (t u:Bool) (n m:Nat) (F G:Nat→List C) (g q:Nat→Int) (hF:∀ i,i<n→F i=cBy (g i)) (hG:∀ i,i<m→G i=cBy (q i)):ACall Tryz.prog gl 10 [.c (.sl t 1 n F),.c (.sl u 1 m G)] [] (boolA (sameF n m g q)) :=
 (aSame01 t u n m g q).le ⟨leSl rfl hF,leSl rfl hG,trivial⟩
end Go.Proofs.YtaecnniddhikbaaGreatDoor
namespace Go.Proofs.YtaecnniddhikbaaGreatDoor
open Go Go.VA
theorem sameF_self (n:Nat) (g:Nat→Int):sameF n n g g=true:=by simp [sameF]
end Go.Proofs.YtaecnniddhikbaaGreatDoor
namespace Go.Proofs.YtaecnniddhikbaaGreatDoor
open Go Go.VA
def lentF (s:ByteArray) (i:Nat):List C:=if i<s.size then strCells s i else cBy 165
def lentR (s:ByteArray) (c i:Nat):List C:=if i<c then lentF s i else cBy 0
theorem lent_put (s:ByteArray) (c:Nat) (x:Int) (hx:lentF s c=cBy x) (i:Nat):updF (lentR s c) (0+((c:Int)).toNat) (List.take 0 (lentR s c (0+((c:Int)).toNat))++[C.v (.int .u8 x)]++List.drop (0+(tb 5).sz) (lentR s c (0+((c:Int)).toNat))) i=lentR s (c+1) i:=by
 have e:lentR s c c=cBy 0:=by unfold lentR; rw [if_neg (Nat.lt_irrefl c)]
 have e2:(0+((c:Int)).toNat)=c:=by omega
 rw [e2,e]
 show (if i=c then cBy x else lentR s c i)=if i<c+1 then lentF s i else cBy 0
 by_cases h:i=c
 ·subst h; rw [if_pos rfl,if_pos (by omega),hx]
 ·rw [if_neg h]
  unfold lentR
  by_cases h2:i<c
  ·rw [if_pos h2,if_pos (by omega)]
  ·rw [if_neg h2,if_neg (by omega)]
theorem gLent (t:Bool) (s:ByteArray) (hs:s.size≤1000000):GCall Tryz.prog gl 15 [] [.c (.sl t 1 s.size (strCells s))] [.row 1 (s.size+8) (lentF s)] [.own 0 1 0 s.size]:=by
 refine gcall_of_vcb htb hmix (f:=15) rfl rfl rfl (by kernel_rfl) rfl rfl rfl fun hb hb2=> ?_; simp only [bndOs,bndO,gbnds,AV.gbnd,bnds,C.bnd,true_and,and_true] at hb hb2; conv=>whnf
 with_reducible refine NilOr.l ?_
 conv=>whnf
 have e8:IntKind.i64.wrap ((s.size:Int)+8)=((s.size+8:Nat):Int):=by rw [wrap64 (by omega) (by omega)]; omega
 rw [e8]
 have B1:(0:Int)≤((s.size+8:Nat):Int)∧((s.size+8:Nat):Int)≤((s.size+8:Nat):Int)∧((s.size+8:Nat):Int)≤140737488355328∧((s.size+8:Nat):Int)*((tb 5).bytes:Int)≤140737488355328:=⟨by omega,Int.le_refl _,by omega,by show ((s.size+8:Nat):Int)*(1:Int)≤_; omega⟩
 conv=>whnf
 repeat' (first|(refine And.intro ?_ ?_; (focus (first|(first|assumption)|fail)); conv=>whnf)|fail)
 refine loopI Nat (fun c=>c≤s.size+8) (fun c=>[(4,intA .i64 c),(3,.own 1 1 0 (s.size+8))]) (fun c=>[.row (tb 5).sz 0 fun x=>[],.row 1 (s.size+8) (lentR s c)]) (fun c=>s.size+8-c) 0 (Nat.zero_le _) ?_ (fun _=>rfl) fun c hc=> ?_
 ·(refine And.intro ?_ (And.intro ?_ (And.intro ?_ rfl))<;>(conv=>whnf)<;>repeat' (first|exact trivial|exact LeE.of (Le.refl _)|(first|exact rfl|exact fun i hi=>LeCs.refl _|fail)|((with_reducible refine And.intro ?_ ?_)<;>conv=>whnf)))
 ·have hM:(0:Int)≤(s.size:Int)∧(s.size:Int)≤((max (s.size+8) (min (s.size+8-0) 140737488355328):Nat):Int):=⟨by omega,by omega⟩
  conv=>whnf
  repeat' (first|(refine And.intro (fun h=> ?_) (fun h=> ?_)<;>(first|(with_reducible have hd:_<_:=of_decide_eq_true h)|(with_reducible have hd:¬ (_<_):=of_decide_eq_false h)|fail)<;>conv=>whnf)|(refine And.intro ?_ ?_; (focus (first|exact rfl|(first|exact hM|fail)|(refine chainI ?_; (first|omega|fail))|fail)); conv=>whnf)|fail)
  ·refine ⟨c+1,by omega,?_,by omega⟩
   (refine And.intro ?_ (And.intro ?_ (And.intro ?_ rfl))<;>(conv=>whnf)<;>repeat' (first|exact trivial|exact LeE.of (Le.refl _)|(with_reducible refine LeE.of ?_)|(first|exact rfl|exact leI (by first|rfl|(rw [wrap64 (by omega) (by omega)]; omega)|fail)|exact fun i hi=>LeCs.refl _|fail)|((with_reducible refine And.intro ?_ ?_)<;>conv=>whnf)))
   exact fun i hi=>LeCs.of_eq (lent_put s c _ (by unfold lentF; rw [if_pos (by omega)]; rfl) i)
  ·refine ⟨c+1,by omega,?_,by omega⟩
   (refine And.intro ?_ (And.intro ?_ (And.intro ?_ rfl))<;>(conv=>whnf)<;>repeat' (first|exact trivial|exact LeE.of (Le.refl _)|(with_reducible refine LeE.of ?_)|(first|exact rfl|exact leI (by first|rfl|(rw [wrap64 (by omega) (by omega)]; omega)|fail)|exact fun i hi=>LeCs.refl _|fail)|((with_reducible refine And.intro ?_ ?_)<;>conv=>whnf)))
   exact fun i hi=>LeCs.of_eq (lent_put s c _ (by unfold lentF; rw [if_neg (by omega)]) i)
  ·obtain rfl:c=s.size+8:=by omega
   ((conv=>whnf); repeat' (first|exact trivial|exact rfl|((with_reducible refine And.intro ?_ ?_)<;>conv=>whnf)))
   exact fun i hi=>LeCs.of_eq (by unfold lentR; rw [if_pos hi])
theorem gKept (t:Bool) (s:ByteArray) (hs:s.size≤1000000):GCall Tryz.prog gl 17 [.row 1 (s.size+8) (lentF s)] [.own 0 1 0 s.size,.c (.sl t 1 s.size (strCells s))] [.row 1 (s.size+8) (lentF s)] [boolA true]:=by
 have S:=aSameX true t s.size s.size (fun i=>lentF s (0+i)) (strCells s) (byteN s) (byteN s) (fun i hi=>by unfold lentF; rw [if_pos (by omega),Nat.zero_add]; rfl) (fun i hi=>rfl)
 rw [sameF_self] at S
 have e8:IntKind.i64.wrap ((s.size:Int)+8)=((s.size+8:Nat):Int):=by rw [wrap64 (by omega) (by omega)]; omega
 have hM:(0:Int)≤IntKind.i64.wrap ((s.size:Int)+8)∧IntKind.i64.wrap ((s.size:Int)+8)≤((max (s.size) (min (s.size+8-0) 140737488355328):Nat):Int):=by rw [e8]; exact ⟨by omega,by omega⟩
 refine gcall_of_vcb htb hmix (f:=17) rfl rfl rfl (by kernel_rfl) rfl rfl rfl fun hb hb2=> ?_; simp only [bndOs,bndO,gbnds,AV.gbnd,bnds,C.bnd,true_and,and_true] at hb hb2; conv=>whnf
 repeat' (first|(refine Exists.intro _ (And.intro (S) ?_); conv=>whnf)|(refine And.intro (fun h=> ?_) (fun h=> ?_)<;>(first|skip)<;>conv=>whnf)|(refine And.intro ?_ ?_; (focus (first|exact rfl|(first|exact hM|fail)|fail)); conv=>whnf)|(refine And.intro ?_ ?_; (focus (first|exact NoTag.bool|fail)); conv=>whnf)|((with_reducible refine xc_pure ?_); conv=>whnf))
 ·exact absurd h (by decide)
 ·rw [e8]
  refine loopI Nat (fun c=>s.size≤c∧c≤s.size+8) (fun c=>[(6,intA .i64 c),(5,.own 0 1 0 (s.size+8))]) (fun c=>[.row 1 (s.size+8) (lentF s)]) (fun c=>s.size+8-c) s.size ⟨Nat.le_refl _,by omega⟩ ?_ (fun _=>rfl) fun c ⟨hc,hc2⟩=> ?_
  ·(refine And.intro ?_ (And.intro ?_ (And.intro ?_ rfl))<;>(conv=>whnf)<;>repeat' (first|exact trivial|exact LeE.of (Le.refl _)|(first|exact rfl|exact fun i hi=>LeCs.refl _|fail)|((with_reducible refine And.intro ?_ ?_)<;>conv=>whnf)))
  ·have ec:lentF s (0+((c:Int)).toNat)=cBy 165:=by unfold lentF; rw [if_neg (by omega)]
   conv=>whnf
   repeat' (first|(refine And.intro (fun h=> ?_) (fun h=> ?_)<;>(first|(with_reducible have hd:_<_:=of_decide_eq_true h)|(with_reducible have hd:¬ (_<_):=of_decide_eq_false h)|skip)<;>conv=>whnf)|(refine And.intro ?_ ?_; (focus (first|exact rfl|(refine chainI ?_; (first|omega|fail))|fail)); conv=>whnf)|(rw [ec]; conv=>whnf))
   ·exact absurd h (by decide)
   ·refine ⟨c+1,⟨by omega,by omega⟩,?_,by omega⟩
    (refine And.intro ?_ (And.intro ?_ (And.intro ?_ rfl))<;>(conv=>whnf)<;>repeat' (first|exact trivial|exact LeE.of (Le.refl _)|(with_reducible refine LeE.of ?_)|(first|exact rfl|exact leI (by first|rfl|(rw [wrap64 (by omega) (by omega)]; omega)|fail)|exact fun i hi=>LeCs.refl _|fail)|((with_reducible refine And.intro ?_ ?_)<;>conv=>whnf)))
   ·((conv=>whnf); repeat' (first|exact trivial|exact LeC.refl _|exact (fun i hi=>LeCs.refl _)|((with_reducible refine And.intro ?_ ?_)<;>conv=>whnf)))
end Go.Proofs.YtaecnniddhikbaaGreatDoor
