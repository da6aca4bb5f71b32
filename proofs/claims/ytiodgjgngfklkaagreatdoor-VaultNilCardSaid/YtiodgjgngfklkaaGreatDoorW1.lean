/- Contracts of functions of the program,and the laws that stand on them: what each function answers,whatever its arguments. -/
import Derived.Test.YtiodgjgngfklkaaGreatDoorC9
import Derived.Test.YtiodgjgngfklkaaGreatDoorA3
import Derived.Test.YtiodgjgngfklkaaGreatDoorS5
import Derived.Test.YtiodgjgngfklkaaGreatDoorC13
import Derived.Test.YtiodgjgngfklkaaGreatDoorC18
set_option linter.all false
set_option maxRecDepth 100000
set_option maxHeartbeats 8000000
namespace Go.Proofs.YtiodgjgngfklkaaGreatDoor
open Go Go.VA
def zF:Nat→List C:=fun _=>[.v (.int .u8 0)]
theorem gGrow (n:Nat)(h0:0<n)(hn:n≤140737488355328):GCall Tryz.prog gl 91 [] [.c (.v (.slice none 0 0)),intA .i64 n] [.row 1 n zF] [.own 0 1 0 0]:=by
 have e:IntKind.i64.wrap ((n:Int)-IntKind.i64.wrap (0-0))=n:=wrap64 (n:=(n:Int)-IntKind.i64.wrap (0-0)) (by rw [show IntKind.i64.wrap (0-0)=0 from rfl]; omega) (by rw [show IntKind.i64.wrap (0-0)=0 from rfl]; omega) |>.trans (by rw [show IntKind.i64.wrap (0-0)=0 from rfl]; omega)
 have hB:(0:Int)<IntKind.i64.wrap ((n:Int)-IntKind.i64.wrap (0-0))∧IntKind.i64.wrap ((n:Int)-IntKind.i64.wrap (0-0))≤140737488355328∧IntKind.i64.wrap ((n:Int)-IntKind.i64.wrap (0-0))*((tb 5).bytes:Int)≤140737488355328:=by
  rw [e]; exact ⟨by omega,by omega,by show (n:Int)*1≤_; omega⟩
 refine gcall_of_vcb htb hmix (f:=91) rfl rfl rfl (by kernel_rfl) rfl rfl rfl fun hb hb2=> ?_; simp only [bndOs,bndO,gbnds,AV.gbnd,bnds,C.bnd,true_and,and_true] at hb hb2; conv=>whnf
 repeat' (first|(refine And.intro (fun h=> ?_) (fun h=> ?_)<;>(first|(with_reducible have hd:_<_:=of_decide_eq_true h)|(with_reducible have hd:¬ (_<_):=of_decide_eq_false h)|fail)<;>(first|(conv=>whnf)))|((with_reducible refine NilOr.l ?_); conv=>whnf)|(refine And.intro ?_ ?_; (focus (first|exact rfl|(first|exact hB|fail)|(refine chainI ?_; (first|decide|omega|fail))|fail)); conv=>whnf)|fail)
 ·omega
 ·have e':IntKind.i64.wrap ((n:Int)-IntKind.i64.wrap (0-((0:Nat):Int)))=n:=e
  simp only [e',Int.toNat_natCast]
  ((conv=>whnf); repeat' (first|exact trivial|exact rfl|exact (fun i hi=>LeCs.refl _)|((with_reducible refine And.intro ?_ ?_)<;>conv=>whnf)))
 ·have e':IntKind.i64.wrap ((n:Int)-IntKind.i64.wrap (0-((0:Nat):Int)))=n:=e
  rw [e'] at hd
  omega
def catN (ps:Nat→Nat×(Nat→List C)):Nat→Nat
 | 0=>0
 | i+1=>catN ps i+(ps i).1
def catG (ps:Nat→Nat×(Nat→List C)):Nat→Nat→List C
 | 0=>zF
 | i+1=>catF 0 (catN ps i) (catG ps i) (ps i).2
theorem catN_mono (ps:Nat→Nat×(Nat→List C)):∀ i j,i≤j→catN ps i≤catN ps j
 | i, 0, h => by obtain rfl : i = 0 := by omega
                 exact Nat.le_refl _
 | i,j+1,h=>by
  by_cases hi:i=j+1
  ·subst hi; exact Nat.le_refl _
  ·have:=catN_mono ps i j (by omega)
   simp only [catN]; omega
theorem gConcat (t:Bool)(N:Nat)(f:Nat→List C)(tg:Nat→Bool)(ps:Nat→Nat×(Nat→List C))(hf:∀ i,i<N→f i=[.sl (tg i) 1 (ps i).1 (ps i).2])(h0:0<catN ps N)(hN:catN ps N≤140737488355328) :
  GCall Tryz.prog gl 56 [] [.c (.sl t 1 N f)] [.row 1 (catN ps N) (catG ps N)] [.own 0 1 0 (catN ps N)]:=by
 have hpos:0<N:=by
  rcases Nat.eq_zero_or_pos N with h|h
  ·subst h; exact absurd h0 (Nat.lt_irrefl _)
  ·exact h
 refine gcall_of_vcb htb hmix (f:=56) rfl rfl rfl (by kernel_rfl) rfl rfl rfl fun hb hb2=> ?_; simp only [bndOs,bndO,gbnds,AV.gbnd,bnds,C.bnd,true_and,and_true] at hb hb2; conv=>whnf
 repeat' (first|((with_reducible refine NilOr.l ?_); conv=>whnf)|fail)
 refine loopI Nat (fun c=>c≤N) (fun c=>[(3,intA .i64 (catN ps c)),(11,intA .i64 c)]) (fun c=>[.row (tb 5).sz 0 fun x=>[]]) (fun c=>N-c) 0 (Nat.zero_le _) ?_ (fun _=>rfl) fun c hc=> ?_
 ·(refine And.intro ?_ (And.intro ?_ (And.intro ?_ rfl))<;>(conv=>whnf)<;>repeat' (first|exact trivial|exact LeE.of (Le.refl _)|(first|exact rfl|exact fun i hi=>LeCs.refl _|fail)|((with_reducible refine And.intro ?_ ?_)<;>conv=>whnf)))
 ·change c≤N at hc
  rcases Nat.lt_or_ge c N with hcl|hcl
  ·have ec:f ((c:Int)).toNat=[.sl (tg c) 1 (ps c).1 (ps c).2]:=hf c hcl
   have m1:=catN_mono ps (c+1) N hcl
   have es:catN ps (c+1)=catN ps c+(ps c).1:=rfl
   have ew:IntKind.i64.wrap ((catN ps c:Int)+((ps c).1:Int))=((catN ps (c+1):Nat):Int):=by rw [es,wrap64 (by omega) (by omega)]; omega
   conv=>whnf
   repeat' (first|(refine And.intro (fun h=> ?_) (fun h=> ?_)<;>(first|(with_reducible have hd:_<_:=of_decide_eq_true h)|(with_reducible have hd:¬ (_<_):=of_decide_eq_false h)|fail)<;>(first|(conv=>whnf)))|(refine And.intro ?_ ?_; (focus (first|(refine chainI ?_; (first|omega|fail))|fail)); conv=>whnf)|(rw [ec]; conv=>whnf))
   all_goals try (exfalso; rw [ew] at hd; omega)
   all_goals try (exfalso; omega)
   refine ⟨c+1,hcl,?_,by show N-(c+1)<N-c; omega⟩
   (refine And.intro ?_ (And.intro ?_ (And.intro ?_ rfl))<;>(conv=>whnf)<;>repeat' (first|exact trivial|exact LeE.of (Le.refl _)|(with_reducible refine LeE.of ?_)|(first|exact rfl|exact leI (by first|rfl|omega|(rw [wrap64 (by omega) (by omega)]; omega)|fail)|exact fun i hi=>LeCs.refl _|fail)|((with_reducible refine And.intro ?_ ?_)<;>conv=>whnf)))
   all_goals exact leI ew
  ·obtain rfl:c=N:=by omega
   have G:=gGrow (catN ps c) h0 hN
   conv=>whnf
   repeat' (first|(refine And.intro (fun h=> ?_) (fun h=> ?_)<;>(first|(with_reducible have hd:_<_:=of_decide_eq_true h)|(with_reducible have hd:¬ (_<_):=of_decide_eq_false h)|fail)<;>(first|(conv=>whnf)))|(refine And.intro ?_ ?_; (focus (first|(refine chainI ?_; (first|omega|fail))|fail)); conv=>whnf)|((with_reducible refine xc_guard ?_); (first|(refine xc_g (G) false (by first|(((conv=>whnf); repeat' (first|exact trivial|exact rfl|exact LeC.refl _|((with_reducible refine And.intro ?_ ?_)<;>conv=>whnf))); done)|fail) trivial ?_)|fail); conv=>whnf)|fail)
   all_goals try (exfalso; omega)
   refine loopI Nat (fun d=>d≤c) (fun d=>[(6,.own 1 1 0 (catN ps d)),(27,intA .i64 d)]) (fun d=>[.row (tb 5).sz 0 fun x=>[],.row 1 (if d=0 then catN ps c else catN ps d) (catG ps d)]) (fun d=>c-d) 0 (Nat.zero_le _) ?_ (fun _=>rfl) fun d hd0=> ?_
   ·(refine And.intro ?_ (And.intro ?_ (And.intro ?_ rfl))<;>(conv=>whnf)<;>repeat' (first|exact trivial|exact LeE.of (Le.refl _)|(first|exact rfl|exact fun i hi=>LeCs.refl _|fail)|((with_reducible refine And.intro ?_ ?_)<;>conv=>whnf)))
   ·change d≤c at hd0
    rcases Nat.lt_or_ge d c with hdl|hdl
    ·have ec:f ((d:Int)).toNat=[.sl (tg d) 1 (ps d).1 (ps d).2]:=hf d hdl
     have m1:=catN_mono ps (d+1) c hdl
     have es:catN ps (d+1)=catN ps d+(ps d).1:=rfl
     have hB:(catN ps d+(ps d).1)*(tb 5).bytes≤140737488355328:=by show (catN ps d+(ps d).1)*1≤_; omega
     conv=>whnf
     repeat' (first|(refine And.intro (fun h=> ?_) (fun h=> ?_)<;>(first|(with_reducible have hd:_<_:=of_decide_eq_true h)|(with_reducible have hd:¬ (_<_):=of_decide_eq_false h)|fail)<;>(first|(conv=>whnf)))|(refine And.intro ?_ ?_; (focus (first|exact rfl|(first|exact hB|fail)|(refine chainI ?_; (first|omega|fail))|(first|omega|fail)|fail)); conv=>whnf)|(rw [ec]; conv=>whnf))
     all_goals try (exfalso; omega)
     refine ⟨d+1,hdl,?_,by show c-(d+1)<c-d; omega⟩
     (refine And.intro ?_ (And.intro ?_ (And.intro ?_ rfl))<;>(conv=>whnf)<;>repeat' (first|exact trivial|exact LeE.of (Le.refl _)|(with_reducible refine LeE.of ?_)|(first|exact rfl|exact leI (by first|rfl|(rw [wrap64 (by omega) (by omega)]; omega)|fail)|exact fun i hi=>LeCs.refl _|fail)|((with_reducible refine And.intro ?_ ?_)<;>conv=>whnf)))
    ·obtain rfl:d=c:=by omega
     conv=>whnf
     repeat' (first|(refine And.intro (fun h=> ?_) (fun h=> ?_)<;>(first|(with_reducible have hd:_<_:=of_decide_eq_true h)|(with_reducible have hd:¬ (_<_):=of_decide_eq_false h)|fail)<;>(first|(conv=>whnf)))|(refine And.intro ?_ ?_; (focus (first|exact rfl|(refine chainI ?_; (first|omega|fail))|fail)); conv=>whnf)|fail)
     all_goals try (exfalso; omega)
     ((conv=>whnf); repeat' (first|exact trivial|exact rfl|exact (fun i hi=>LeCs.refl _)|((with_reducible refine And.intro ?_ ?_)<;>conv=>whnf)))
     all_goals (split<;>rfl)
structure It where
 n:Int
 k:Int
 y:Ky
def cIt (i:It):List C:=[.v (.int .u64 i.n),.v (.int .i64 i.k),.v (.string i.y.a.t),.v (.string i.y.a.n),.v (.int .i64 i.y.a.k),.v (.int .i64 i.y.a.i),.v (.string i.y.a.s),.v (.int .u32 i.y.n)]
def okIt (i:It):Bool:= !(decide (i.n>4611686018427387904)||decide (i.k<3)||decide (i.k>5))&&okKy i.y
theorem aCheckI (i:It):ACall Tryz.prog gl 25 [.ag (cIt i)] [] (intA .i64 (if okIt i then 0 else 1)):=by
 refine acall_of_vc htb hmix (f:=25) rfl rfl rfl (by kernel_rfl) rfl rfl ?_; conv=>whnf
 repeat' (first|(refine Exists.intro _ (And.intro (aCheckK i.y) ?_); conv=>whnf)|(refine And.intro (fun h=> ?_) (fun h=> ?_)<;>(first|skip)<;>(first|(conv=>whnf)))|((with_reducible refine xc_pure ?_); conv=>whnf))
 ·refine leI ?_
  unfold okIt
  rw [h]; rfl
 ·refine leI ?_
  unfold okIt
  rw [h]; rfl
def inL (i:It):List Int:=shortL i.n.toNat++[IntKind.u8.wrap i.k]++kyL i.y
theorem aEqual (t u:Bool)(n m:Nat)(f g:Nat→List C)(hf:isBytes n f)(hg:isBytes m g):ACall Tryz.prog gl 32 [.c (.sl t 1 n f),.c (.sl u 1 m g)] [] (boolA ((bytesOf n f).toList==(bytesOf m g).toList)):=by
 refine acall_of_vc htb hmix (f:=32) rfl rfl rfl (by kernel_rfl) rfl rfl ?_; conv=>whnf
 repeat' (first|(refine And.intro ?_ ?_; (focus (first|(first|assumption)|fail)); conv=>whnf)|fail)
 exact leB rfl
theorem sub_size (s:ByteArray)(a n:Nat):(subS s a n).size=n:=by
 show (bytesOf n _).data.size=n
 simp [bytesOf]
theorem sub_cells (s:ByteArray)(a n:Nat):∀ i,i<n→strCells (subS s a n) i=strCells s (a+i):=by
 intro i hi
 have h:(subS s a n).data.toList[i]? =some (byteC (strCells s (a+i))):=by
  show ((List.range n).map fun i=>byteC (strCells s (a+i)))[i]? =_
  rw [List.getElem?_map,List.getElem?_range hi]; rfl
 show [C.v (.int .u8 ((((subS s a n).data.toList[i]?).getD 0).toNat:Int))]=[C.v (.int .u8 (((s.data.toList[a+i]?).getD 0).toNat:Int))]
 rw [h]
 simp [byteC,strCells]
theorem aGetKyS (t:Bool)(x:ByteArray)(a n:Nat):ACall Tryz.prog gl 95 [.c (.sl t 1 n (fun i=>strCells x (a+i)))] [] (.tup [.ag (cKy (gKyA (subS x a n)).1),intA .i64 (gKyA (subS x a n)).2.1,intA .i64 (gKyA (subS x a n)).2.2]) :=
 (aGetKy t (subS x a n)).le ⟨leSl (sub_size x a n).symm (fun i hi=>(sub_cells x a n i (by rwa [sub_size] at hi)).symm),trivial⟩
def it0:It:=⟨0,0,ky0⟩
def wN (x:ByteArray):Int×Int×Int:=gS x 0 x.size 0 0
def wO (x:ByteArray):Int:=IntKind.i64.wrap ((wN x).2.1+1)
def wY (x:ByteArray):Ky×Int×Int:=gKyA (subS x (wO x).toNat (x.size-(wO x).toNat))
def wI (x:ByteArray):It:=⟨(wN x).1,IntKind.i64.wrap (byteN x (wN x).2.1.toNat),(wY x).1⟩
def wIn (x:ByteArray):It×Bool :=
 if (wN x).2.2 != 0||(wN x).2.1==x.size then (it0,false)
 else (wI x,(wY x).2.2==0&&IntKind.i64.wrap (wO x+(wY x).2.1)==x.size&&okIt (wI x))
theorem wN_rg {x:ByteArray}(hx:x.size≤140737488355328)(h:((wN x).2.2 != 0||(wN x).2.1==x.size)=false):wO x=(wN x).2.1+1∧0≤(wN x).2.1∧(wN x).2.1<x.size∧0≤wO x∧wO x≤x.size:=by
 simp only [Bool.or_eq_false_iff,bne_eq_false_iff_eq,beq_eq_false_iff_ne] at h
 have o:=gS_ok x 0 x.size 0 0 (Int.le_refl 0) h.1
 change ((0:Nat):Int)<(wN x).2.1∧(wN x).2.1≤((0:Nat):Int)+((x.size:Nat):Int)∧_ at o
 have hne:(wN x).2.1≠x.size:=h.2
 have:wO x=(wN x).2.1+1:=wrap64 (by omega) (by omega)
 omega
theorem ck0 (b:Bool):((if b=true then (0:Int) else 1)==0)=b:=by cases b<;>rfl
theorem aInner (t:Bool)(x:ByteArray):ACall Tryz.prog gl 130 [.c (.sl t 1 x.size (strCells x))] [] (.tup [.ag (cIt (wIn x).1),boolA (wIn x).2]):=by
 by_cases hA:((wN x).2.2 != 0||(wN x).2.1==x.size)=true
 ·have e:wIn x=(it0,false):=by unfold wIn; rw [if_pos hA]
  rw [e]
  have hA':((gS x 0 x.size 0 0).2.2 != 0||(gS x 0 x.size 0 0).2.1==x.size)=true:=hA
  have G0:ACall Tryz.prog gl 65 [.c (.sl t 1 x.size (strCells x))] [] (gT (gS x 0 x.size 0 0)):=(aGetShort t x.size x 0).le ⟨leSl rfl (fun i _=>by rw [Nat.zero_add]),trivial⟩
  have hB:((gS x 0 x.size 0 0).2.2 != 0||(gS x 0 x.size 0 0).2.1==x.size)=false→0≤IntKind.i64.wrap ((gS x 0 x.size 0 0).2.1+1)∧IntKind.i64.wrap ((gS x 0 x.size 0 0).2.1+1)≤x.size:=fun h=>by rw [hA'] at h; simp at h
  have hC:=hB
  refine acall_of_vc htb hmix (f:=130) rfl rfl rfl (by kernel_rfl) rfl rfl ?_; conv=>whnf
  repeat' (first|(refine Exists.intro _ (And.intro (G0) ?_); conv=>whnf)|(refine And.intro (fun h=> ?_) (fun h=> ?_)<;>(first|skip)<;>(first|(conv=>whnf)))|(refine And.intro ?_ ?_; (focus (first|(first|exact hB (by assumption)|fail)|fail)); conv=>whnf)|((with_reducible refine xc_pure ?_); conv=>whnf))
  ·exact Le.refl _
  ·rw [hA'] at h; simp at h
 ·have hA:((wN x).2.2 != 0||(wN x).2.1==x.size)=false:=by simpa using hA
  have e:wIn x=(wI x,(wY x).2.2==0&&IntKind.i64.wrap (wO x+(wY x).2.1)==x.size&&okIt (wI x)):=by unfold wIn; rw [hA,if_neg (by decide)]
  rw [e]
  have hA':((gS x 0 x.size 0 0).2.2 != 0||(gS x 0 x.size 0 0).2.1==x.size)=false:=hA
  have G0:ACall Tryz.prog gl 65 [.c (.sl t 1 x.size (strCells x))] [] (gT (gS x 0 x.size 0 0)):=(aGetShort t x.size x 0).le ⟨leSl rfl (fun i _=>by rw [Nat.zero_add]),trivial⟩
  have hcase:∀ (b1 b2:Bool),((wY x).2.2==0)=b1→(IntKind.i64.wrap (wO x+(wY x).2.1)==x.size)=b2→ACall Tryz.prog gl 130 [.c (.sl t 1 x.size (strCells x))] [] (.tup [.ag (cIt (wI x)),boolA (b1&&b2&&okIt (wI x))]):=by
   intro b1 b2 q1 q2
   have q1':((gKyA (subS x (IntKind.i64.wrap ((gS x 0 x.size 0 0).2.1+1)).toNat (x.size-(IntKind.i64.wrap ((gS x 0 x.size 0 0).2.1+1)).toNat))).2.2==0)=b1:=q1
   have q2':(IntKind.i64.wrap (IntKind.i64.wrap ((gS x 0 x.size 0 0).2.1+1)+(gKyA (subS x (IntKind.i64.wrap ((gS x 0 x.size 0 0).2.1+1)).toNat (x.size-(IntKind.i64.wrap ((gS x 0 x.size 0 0).2.1+1)).toNat))).2.1)==(x.size:Int))=b2:=q2
   have CI:=aCheckI (wI x)
   refine acall_of_vcb htb hmix (f:=130) rfl rfl rfl (by kernel_rfl) rfl rfl fun hb=> ?_; simp only [bndAll,AV.bnd,bnds,C.bnd,cVt,cS,true_and,and_true] at hb; conv=>whnf
   have hn:x.size≤140737488355328:=hb.1
   have R:=wN_rg hn hA
   have hB:((gS x 0 x.size 0 0).2.2 != 0||(gS x 0 x.size 0 0).2.1==x.size)=false→0≤IntKind.i64.wrap ((gS x 0 x.size 0 0).2.1+1)∧IntKind.i64.wrap ((gS x 0 x.size 0 0).2.1+1)≤x.size:=fun _=>R.2.2.2
   have hC:((gS x 0 x.size 0 0).2.2 != 0||(gS x 0 x.size 0 0).2.1==x.size)=false→0≤(gS x 0 x.size 0 0).2.1∧(gS x 0 x.size 0 0).2.1<x.size:=fun _=>⟨R.2.1,R.2.2.1⟩
   cases b1
   ·repeat' (first|(refine Exists.intro _ (And.intro (G0) ?_); conv=>whnf)|(refine Exists.intro _ (And.intro (aGetKyS _ _ _ _) ?_); conv=>whnf)|(refine And.intro (fun h=> ?_) (fun h=> ?_)<;>(first|skip)<;>(first|(conv=>whnf)))|((with_reducible refine Both.mk ?_ ?_)<;>conv=>whnf)|((with_reducible apply Drawn.one); conv=>whnf)|((with_reducible refine Then.mk' ?_); conv=>whnf)|(first|exact RefS.self rfl|fail)|(refine And.intro ?_ ?_; (focus (first|exact rfl|(first|exact hB (by assumption)|exact hC (by assumption)|fail)|fail)); conv=>whnf)|((with_reducible refine xc_pure ?_); conv=>whnf)|(rw [q1']; conv=>whnf)|fail)
    ·rw [hA'] at h; simp at h
    ·exact Le.refl _
   ·cases b2
    ·repeat' (first|(refine Exists.intro _ (And.intro (G0) ?_); conv=>whnf)|(refine Exists.intro _ (And.intro (aGetKyS _ _ _ _) ?_); conv=>whnf)|(refine And.intro (fun h=> ?_) (fun h=> ?_)<;>(first|skip)<;>(first|(conv=>whnf)))|((with_reducible refine Both.mk ?_ ?_)<;>conv=>whnf)|((with_reducible apply Drawn.one); conv=>whnf)|((with_reducible refine Then.mk' ?_); conv=>whnf)|(first|exact RefS.self rfl|fail)|(refine And.intro ?_ ?_; (focus (first|exact rfl|(first|exact hB (by assumption)|exact hC (by assumption)|fail)|fail)); conv=>whnf)|((with_reducible refine xc_pure ?_); conv=>whnf)|(rw [q1']; conv=>whnf)|(rw [q2']; conv=>whnf))
     ·rw [hA'] at h; simp at h
     ·exact Le.refl _
    ·repeat' (first|(refine Exists.intro _ (And.intro (G0) ?_); conv=>whnf)|(refine Exists.intro _ (And.intro (aGetKyS _ _ _ _) ?_); conv=>whnf)|(refine Exists.intro _ (And.intro (CI) ?_); conv=>whnf)|(refine And.intro (fun h=> ?_) (fun h=> ?_)<;>(first|skip)<;>(first|(conv=>whnf)))|((with_reducible refine Both.mk ?_ ?_)<;>conv=>whnf)|((with_reducible apply Drawn.one); conv=>whnf)|((with_reducible refine Then.mk' ?_); conv=>whnf)|(first|exact RefS.self rfl|fail)|(refine And.intro ?_ ?_; (focus (first|exact rfl|(first|exact hB (by assumption)|exact hC (by assumption)|fail)|fail)); conv=>whnf)|((with_reducible refine xc_pure ?_); conv=>whnf)|(rw [q1']; conv=>whnf)|(rw [q2']; conv=>whnf))
     ·rw [hA'] at h; simp at h
     ·simp only [ck0]; exact Le.refl _
  exact hcase _ _ rfl rfl
def shaA (s:ByteArray):Nat→UInt8:=shaB (fun j=>(s.data.toList[j]?).getD 0) s.size
theorem sha_one (n:Nat)(b:Nat→UInt8):shaB (accB (fun _=>(n,b)) 1) (accN (fun _=>(n,b)) 1)=shaB b n:=by
 have e1:accN (fun _=>(n,b)) 1=n:=by simp [accN]
 have e2:accB (fun _=>(n,b)) 1=b:=by
  funext j
  simp [accB,accN,catB]
 rw [e1,e2]
theorem aSha1 (t u:Bool)(s:ByteArray)(F:Nat→List C)(hF:∀ i,i<1→F i=[.sl u 1 s.size (strCells s)])(hs:s.size≤140737488355000):ACall Tryz.prog gl 38 [.c (.sl t 1 1 F)] [] (.ag (sumC (shaA s))):=by
 have h:=aSum t 1 (fun _=>u) (fun _=>(s.size,fun j=>(s.data.toList[j]?).getD 0)) (by simp [accN]; omega)
 rw [sha_one] at h
 exact h.le ⟨leSl rfl (fun i hi=>hF i hi),trivial⟩
theorem sub_get (s:ByteArray)(a n i:Nat)(hi:i<n):((subS s a n).data.toList[i]?).getD 0=(s.data.toList[a+i]?).getD 0:=by
 have h:(subS s a n).data.toList[i]? =some (byteC (strCells s (a+i))):=by
  show ((List.range n).map fun i=>byteC (strCells s (a+i)))[i]? =_
  rw [List.getElem?_map,List.getElem?_range hi]; rfl
 rw [h]
 simp [byteC,strCells]
theorem sha_sub (s:ByteArray)(a n:Nat):shaB (fun j=>(s.data.toList[a+j]?).getD 0) n=shaA (subS s a n):=by
 unfold shaA
 rw [sub_size]
 exact shaB_ext fun i hi=>(sub_get s a n i hi).symm
theorem aSha1S (t u:Bool)(s:ByteArray)(a n:Nat)(F:Nat→List C)(hF:∀ i,i<1→F i=[.sl u 1 n (fun i=>strCells s (a+i))])(hs:n≤140737488355000):ACall Tryz.prog gl 38 [.c (.sl t 1 1 F)] [] (.ag (sumC (shaA (subS s a n)))):=by
 have h:=aSum t 1 (fun _=>u) (fun _=>(n,fun j=>(s.data.toList[a+j]?).getD 0)) (by simp [accN]; omega)
 rw [sha_one,sha_sub] at h
 exact h.le ⟨leSl rfl (fun i hi=>hF i hi),trivial⟩
def be4 (s:ByteArray):Nat:=nB (fun i=>(s.data.toList[4+i]?).getD 0) 0 4
theorem be4_lt (s:ByteArray):be4 s<4294967296:=nB_lt _ 0 4
theorem aGet4 (t:Bool)(s:ByteArray)(h:8≤s.size):ACall Tryz.prog gl 37 [.c (.sl t 1 (s.size-4) (fun i=>strCells s (4+i))),intA .i64 4] [] (.tup [intA .u64 (be4 s:Int),intA .i64 0]):=by
 have:=aNumGet t (s.size-4) (fun i=>(s.data.toList[4+i]?).getD 0) 4 (by decide) (by decide)
 rw [if_neg (by omega),if_neg (by omega)] at this
 exact this
def mgB:ByteArray:={ data:= #[115,105,110,49] }
def preB (s:ByteArray):Bool:=(bytesOf 4 (fun i=>strCells s (0+i))).toList==mgB.toList
def sumB (s x:ByteArray):Bool:=(bytesOf 32 (fun i=>[nthCC (sumC (shaA x)) (0+i)])).toList==(bytesOf 32 (fun i=>strCells s (8+i))).toList
theorem bytesOf_eq (n:Nat)(f g:Nat→List C):((bytesOf n f).toList==(bytesOf n g).toList)=decide (∀ i,i<n→byteC (f i)=byteC (g i)):=by
 rw [ByteArray.toList_eq,ByteArray.toList_eq,Bool.eq_iff_iff,beq_iff_eq,decide_eq_true_eq]
 show (List.range n).map (fun i=>byteC (f i))=(List.range n).map (fun i=>byteC (g i)) ↔ _
 constructor
 ·intro h i hi
  have:=congrArg (fun l=>l[i]?) h
  simpa [List.getElem?_range hi] using this
 ·intro h
  exact List.map_congr_left fun i hi=>h i (by simpa using hi)
theorem aPre (t u:Bool)(s:ByteArray)(G:Nat→List C)(hs:4≤s.size)(hG:isBytes 4 G)(hb:bytesOf 4 G=mgB):ACall Tryz.prog gl 36 [.c (.sl t 1 s.size (strCells s)),.c (.sl u 1 4 G)] [] (boolA (preB s)):=by
 have hq:decide ((s.size:Int)≥((4:Nat):Int))=true:=by simp; omega
 have hB:decide ((s.size:Int)≥((4:Nat):Int))=true→(0:Int)≤((4:Nat):Int)∧((4:Nat):Int)≤s.size:=fun _=>by omega
 have E:=aEqual t u 4 4 (fun i=>strCells s (0+i)) G (isB 4 s (fun i=>0+i)) hG
 rw [hb] at E
 refine acall_of_vc htb hmix (f:=36) rfl rfl rfl (by kernel_rfl) rfl rfl ?_; conv=>whnf
 repeat' (first|((with_reducible refine GOr.l ?_); (conv=>whnf); refine Exists.intro _ (And.intro (chainI (E)) ?_); conv=>whnf)|(refine And.intro ?_ ?_; (focus (first|(first|assumption)|fail)); conv=>whnf)|fail)
 refine leB ?_
 show (decide ((s.size:Int)≥((4:Nat):Int))&&preB s)=preB s
 rw [hq,Bool.true_and]
theorem isB_sum (d:Nat→UInt8):isBytes 32 (fun i=>[nthCC (sumC d) (0+i)]):=fun i hi=>⟨d i,by show [nthCC (sumC d) (0+i)]=_; rw [Nat.zero_add,← arr_sumC,nthCC_arr _ _ _ hi]⟩
theorem aSumEq (t u:Bool)(s x:ByteArray):ACall Tryz.prog gl 32 [.c (.sl t 1 32 (fun i=>[nthCC (sumC (shaA x)) (0+i)])),.c (.sl u 1 32 (fun i=>strCells s (8+i)))] [] (boolA (sumB s x)) :=
 aEqual t u 32 32 _ _ (isB_sum _) (isB 32 s (fun i=>8+i))
def wX (s:ByteArray):ByteArray:=subS s 40 (be4 s)
def wGet (s:ByteArray):It×Int×Int :=
 if decide ((s.size:Int)<40) then (it0,0,2) else if !preB s then (it0,0,4)
 else if decide (IntKind.u64.wrap ((s.size-(40:Int).toNat:Nat):Int)<(be4 s:Int)) then (it0,0,2)
 else if !sumB s (wX s) then (it0,0,5) else if !(wIn (wX s)).2 then (it0,0,4) else ((wIn (wX s)).1,40+(be4 s:Int),0)
theorem mgI (t:Bool):isBytes 4 (fun i=>nthC [[C.v (.int .u8 115)],[C.v (.int .u8 105)],[C.v (.int .u8 110)],[C.v (.int .u8 49)]] (0+i)):=by
 intro i hi
 match i,hi with
 | 0,_=>exact ⟨115,rfl⟩
 | 1,_=>exact ⟨105,rfl⟩
 | 2,_=>exact ⟨110,rfl⟩
 | 3,_=>exact ⟨49,rfl⟩
theorem mgE:bytesOf 4 (fun i=>nthC [[C.v (.int .u8 115)],[C.v (.int .u8 105)],[C.v (.int .u8 110)],[C.v (.int .u8 49)]] (0+i))=mgB:=by
 unfold mgB bytesOf
 rfl
theorem aWGet (t:Bool)(s:ByteArray):ACall Tryz.prog gl 99 [.c (.sl t 1 s.size (strCells s))] [] (.tup [.ag (cIt (wGet s).1),intA .i64 (wGet s).2.1,intA .i64 (wGet s).2.2]):=by
 by_cases hA:(s.size:Int)<40
 ·have e:wGet s=(it0,0,2):=by unfold wGet; rw [if_pos (by simpa using hA)]
  rw [e]
  refine acall_of_vc htb hmix (f:=99) rfl rfl rfl (by kernel_rfl) rfl rfl ?_; conv=>whnf
  repeat' (first|(refine And.intro (fun h=> ?_) (fun h=> ?_)<;>(first|(with_reducible have hd:_<_:=of_decide_eq_true h)|(with_reducible have hd:¬ (_<_):=of_decide_eq_false h)|fail)<;>(first|(conv=>whnf)))|((with_reducible refine OwnOr.r ?_); (conv=>whnf))|fail)
  ·exact Le.refl _
  all_goals (exfalso; omega)
 ·have hq:decide ((s.size:Int)<40)=false:=by simpa using hA
  have hl:=be4_lt s
  have PR:=fun u=>aPre t u s (fun i=>nthC [[C.v (.int .u8 115)],[C.v (.int .u8 105)],[C.v (.int .u8 110)],[C.v (.int .u8 49)]] (0+i)) (by omega) (mgI true) mgE
  have G4:=aGet4 t s (by omega)
  have S1:=fun u=>aSha1S u t s 40 (be4 s) (fun i=>nthC [[C.sl t 1 (be4 s) (fun i=>strCells s (40+(0+i)))]] (0+i)) (fun i hi=>by
   obtain rfl:i=0:=by omega
   simp only [Nat.zero_add]; rfl) (by omega)
  have IN:ACall Tryz.prog gl 130 [.c (.sl t 1 (be4 s) (fun i=>strCells s (40+(0+i))))] [] (.tup [.ag (cIt (wIn (wX s)).1),boolA (wIn (wX s)).2]) :=
   (aInner t (wX s)).le ⟨leSl (sub_size s 40 _).symm (fun i hi=>by rw [Nat.zero_add]; exact (sub_cells s 40 _ i (by rwa [wX,sub_size] at hi)).symm),trivial⟩
  have hB:(0:Int)≤4∧(4:Int)≤s.size:=by omega
  refine acall_of_vcb htb hmix (f:=99) rfl rfl rfl (by kernel_rfl) rfl rfl fun hb=> ?_; simp only [bndAll,AV.bnd,bnds,C.bnd,cVt,cS,true_and,and_true] at hb; conv=>whnf
  have hn:s.size≤140737488355328:=hb.1
  have hD:decide (IntKind.u64.wrap ((s.size-(40:Int).toNat:Nat):Int)<(be4 s:Int))=false→(0:Int)≤(be4 s:Int)∧(be4 s:Int)≤((s.size-(40:Int).toNat:Nat):Int):=fun h=>by
   rw [wrapU (by omega) (by omega)] at h
   have:=of_decide_eq_false h
   omega
  repeat' (first|(refine Exists.intro _ (And.intro (PR _) ?_); conv=>whnf)|(refine Exists.intro _ (And.intro (G4) ?_); conv=>whnf)|(refine Exists.intro _ (And.intro (S1 _) ?_); conv=>whnf)|(refine Exists.intro _ (And.intro (aSumEq _ _ s (wX s)) ?_); conv=>whnf)|(refine Exists.intro _ (And.intro (IN) ?_); conv=>whnf)|(refine And.intro (fun h=> ?_) (fun h=> ?_)<;>(first|(with_reducible have hd:_<_:=of_decide_eq_true h)|(with_reducible have hd:¬ (_<_):=of_decide_eq_false h)|skip)<;>(first|(conv=>whnf)))|((with_reducible refine FzOr.l ?_); conv=>whnf)|((with_reducible refine OwnOr.r ?_); (conv=>whnf))|(refine And.intro ?_ ?_; (focus (first|(first|exact hB|exact hD (by assumption)|fail)|(refine chainI ?_; (first|decide|omega|fail))|fail)); conv=>whnf)|(refine And.intro ?_ ?_; (focus (first|exact NoTag.bool|(refine NoTag.of_scalar ?_; rfl))); conv=>whnf)|((with_reducible refine xc_pure ?_); conv=>whnf))
  all_goals unfold wGet
  all_goals repeat (first|(rw [ifT]; rotate_left; (focus assumption))|(rw [ifF]; rotate_left; (focus assumption)))
  all_goals first
   | exact Le.refl _
   | (refine leTup3 (Le.refl _) (leI ?_) (Le.refl _); show IntKind.i64.wrap (40+(((be4 s:Int).toNat-0:Nat):Int))=40+(be4 s:Int); rw [Nat.sub_zero,Int.toNat_natCast,wrap64 (by omega) (by omega)])
theorem sub_byte (s:ByteArray)(a n i:Nat)(hi:i<n):byteN (subS s a n) i=byteN s (a+i):=by
 unfold byteN
 rw [sub_get s a n i hi]
theorem leSlC {m:Nat}{t:Bool}{e n n':Nat}{f g:Nat→List C}(h:n=n')(hf:∀ i,i<n'→LeCs (f i) (g i)∧(g i).length=(f i).length):Le m (.c (.sl t e n f)) (.c (.sl t e n' g)):=by
 subst h
 refine ⟨fun B S u hn hu=> ?_⟩
 simp only [RelV,RepC] at hu ⊢
 obtain ⟨a,cap,rfl,h1,h2⟩:=hu
 refine ⟨a,cap,rfl,h1,?_⟩
 rcases h2 with h2|⟨b,o,rfl,h2⟩
 ·exact .inl h2
 ·exact .inr ⟨b,o,rfl,fun i hi=>⟨by rw [(hf i hi).2]; exact (h2 i hi).1,(hf i hi).1.2 _ _ _ (h2 i hi).2⟩⟩
theorem leC_sl {u:Bool}{n n':Nat}{f g:Nat→List C}(h:n=n')(hf:∀ i,i<n'→f i=g i):LeCs [.sl u 1 n f] [.sl u 1 n' g]:=by
 subst h
 refine ⟨rfl,fun S R o hr=> ?_⟩
 simp only [RepCs,and_true] at hr ⊢
 obtain ⟨v,h1,h2⟩:=hr
 refine ⟨v,h1,?_⟩
 have:=(leSl (m:=0) (t:=u) (e:=1) rfl hf).h [] S v (Nat.zero_le _) (by simpa only [RelV] using h2)
 simpa only [RelV] using this
theorem aSha1G (t u:Bool)(s:ByteArray)(n:Nat)(G F:Nat→List C)(hF:F 0=[.sl u 1 n G])(hn:n=s.size)(hG:∀ j,j<n→G j=strCells s j)(hs:s.size≤140737488355000):ACall Tryz.prog gl 38 [.c (.sl t 1 1 F)] [] (.ag (sumC (shaA s))):=by
 refine (aSha1 t u s (fun _=>[.sl u 1 s.size (strCells s)]) (fun _ _=>rfl) hs).le ⟨leSlC rfl (fun i hi=> ?_),trivial⟩
 obtain rfl:i=0:=by omega
 rw [hF]
 exact ⟨leC_sl hn (fun j hj=>hG j (by omega)),rfl⟩
theorem okIt_y {i:It}(h:okIt i=true):okKy i.y=true∧0≤i.k:=by
 unfold okIt at h
 simp only [Bool.and_eq_true,Bool.not_eq_true',Bool.or_eq_false_iff,decide_eq_false_iff_not] at h
 exact ⟨h.2,by omega⟩
theorem inL_len {i:It}(h:okIt i=true):(inL i).length≤130:=by
 have a:=shortL_len i.n.toNat
 have b:=kyL_len (okIt_y h).1
 unfold inL
 simp only [List.length_append,List.length_singleton]
 omega
structure RgIt (i:It):Prop where
 n0:0≤i.n
 y0:0≤i.y.n
 y1:i.y.n≤4294967295
def sumL (d:Nat→UInt8):List Int:=(List.range 32).map fun j=>((d j).toNat:Int)
def be4L (k:Nat):List Int:=(List.range 4).map fun j=>((putB k 4 j).toNat:Int)
def mgL:List Int:=[115,105,110,49]
def fmI (i:It):List Int:=mgL++be4L (inL i).length++sumL (shaA (baL (inL i)))++inL i
theorem be4L_len (k:Nat):(be4L k).length=4:=by simp [be4L]
theorem sumL_len (d:Nat→UInt8):(sumL d).length=32:=by simp [sumL]
theorem fmI_len (i:It):(fmI i).length=40+(inL i).length:=by
 unfold fmI
 simp only [List.length_append,be4L_len,sumL_len]
 rw [show mgL.length=4 from rfl]
theorem bys_ky {k:Ky}(ho:okKy k=true):Bys (kyL k):=by
 obtain ⟨⟨h1,h2,h3,h4,h5,h6,h7⟩,_⟩:=okKy_le ho
 have w:∀ x:Int,(IntKind.u64.wrap x).toNat<2 ^ 64:=fun x=>by
  have:IntKind.u64.wrap x=x%18446744073709551616:=rfl
  omega
 unfold kyL
 refine bys_app (bys_app (bys_app (bys_app (bys_strL (by omega)) (bys_strL (by omega))) (bys_one (bys_w8 _))) ?_) (bys_shortL (w _))
 split
 ·exact bys_shortL (w _)
 ·split
  ·exact bys_strL (by omega)
  ·exact fun x hx=>by simp at hx
theorem okIt_n {i:It}(h:okIt i=true):i.n≤4611686018427387904∧3≤i.k∧i.k≤5:=by
 unfold okIt at h
 simp only [Bool.and_eq_true,Bool.not_eq_true',Bool.or_eq_false_iff,decide_eq_false_iff_not] at h
 omega
theorem bys_in {i:It}(ho:okIt i=true):Bys (inL i):=by
 have:=okIt_n ho
 exact bys_app (bys_app (bys_shortL (by omega)) (bys_one (bys_w8 _))) (bys_ky (okIt_y ho).1)
theorem bys_bytes (n:Nat)(d:Nat→UInt8):Bys ((List.range n).map fun j=>((d j).toNat:Int)):=fun x hx=>by
 obtain ⟨j,_,rfl⟩:=List.mem_map.1 hx
 have:=(d j).toNat_lt
 omega
theorem bys_fm {i:It}(ho:okIt i=true):Bys (fmI i) :=
 bys_app (bys_app (bys_app (fun x hx=>by simp [mgL] at hx; omega) (bys_bytes 4 _)) (bys_bytes 32 _)) (bys_in ho)
theorem subS_ba {s:ByteArray}{a:Nat}{L:List Int}(h:AtL s a L):subS s a L.length=baL L:=by
 refine ba_ext (by rw [sub_size,baL_size]) fun j hj=> ?_
 rw [sub_size] at hj
 have hb:=h.2 j hj
 simp only [subS,bytesOf,baL]
 rw [List.getElem?_map,List.getElem?_range hj,List.getElem?_map,List.getElem?_eq_getElem hj]
 simp only [Option.map_some,byteC,strCells]
 rw [List.getD_eq_getElem?_getD,List.getElem?_eq_getElem hj,Option.getD_some] at hb
 rw [← hb]
 rfl
theorem AtL.sub {x:ByteArray}{a n:Nat}{L:List Int}(h:AtL x a L)(hn:L.length≤n):AtL (subS x a n) 0 L:=by
 refine ⟨by rw [sub_size]; omega,fun j hj=> ?_⟩
 rw [Nat.zero_add,sub_byte x a n j (by omega)]
 exact h.2 j hj
theorem wIn_back {x:ByteArray}{i:It}(ho:okIt i=true)(rg:RgIt i)(h:AtL x 0 (inL i))(hx:x.size=(inL i).length):wIn x=(i,true):=by
 obtain ⟨n1,k3,k5⟩:=okIt_n ho
 have n0:=rg.n0
 have hl:=inL_len ho
 have hA:AtL x 0 (shortL i.n.toNat):=h.left.left
 have hK:AtL x (0+(shortL i.n.toNat).length) [IntKind.u8.wrap i.k]:=h.left.right
 have hY:AtL x (0+(shortL i.n.toNat++[IntKind.u8.wrap i.k]).length) (kyL i.y):=h.right
 have g:=gSx_back x 0 i.n.toNat (by omega) hA
 have eN:wN x=((i.n.toNat:Int),((shortL i.n.toNat).length:Int),0):=g
 have elen:(inL i).length=(shortL i.n.toNat).length+1+(kyL i.y).length:=by
  unfold inL
  simp only [List.length_append,List.length_singleton]
 have eO:wO x=(((shortL i.n.toNat).length+1:Nat):Int):=by
  unfold wO; rw [eN]
  show IntKind.i64.wrap (((shortL i.n.toNat).length:Int)+1)=_
  rw [wrap64 (by omega) (by omega)]; push_cast; rfl
 have eY:wY x=(i.y,((kyL i.y).length:Int),0):=by
  unfold wY
  rw [eO,Int.toNat_natCast]
  refine ky_back _ i.y (okIt_y ho).1 rg.y0 rg.y1 (AtL.sub ?_ (by omega))
  rw [List.length_append,List.length_singleton,Nat.zero_add] at hY
  exact hY
 have eK:IntKind.i64.wrap (byteN x (wN x).2.1.toNat)=i.k:=by
  rw [eN]
  show IntKind.i64.wrap (byteN x ((shortL i.n.toNat).length:Int).toNat)=_
  rw [Int.toNat_natCast]
  have:=hK.head.1
  rw [Nat.zero_add] at this
  have w:IntKind.u8.wrap i.k=i.k:=by show i.k%256=i.k; omega
  rw [this,w,wrap64 (by omega) (by omega)]
 have eI:wI x=i:=by
  unfold wI
  rw [eK,eY,eN]
  show (⟨(i.n.toNat:Int),i.k,i.y⟩:It)=i
  rw [Int.toNat_of_nonneg n0]
 unfold wIn
 rw [eI,eY,eO,eN,ho]
 have q1:((((i.n.toNat:Int),((shortL i.n.toNat).length:Int),(0:Int)).2.2 != 0)||(((i.n.toNat:Int),((shortL i.n.toNat).length:Int),(0:Int)).2.1==(x.size:Int)))=false:=by
  show (((0:Int) != 0)||((shortL i.n.toNat).length:Int)==(x.size:Int))=false
  simp; omega
 rw [q1,if_neg (by decide)]
 have q2:(IntKind.i64.wrap ((((shortL i.n.toNat).length+1:Nat):Int)+((kyL i.y).length:Int))==(x.size:Int))=true:=by
  rw [wrap64 (by omega) (by omega)]
  simp; omega
 show (i,((0:Int)==0)&&(IntKind.i64.wrap ((((shortL i.n.toNat).length+1:Nat):Int)+((kyL i.y).length:Int))==(x.size:Int))&&true)=(i,true)
 rw [q2]; rfl
theorem nB_four (b:Nat→UInt8)(k:Nat)(hk:k<4294967296)(h:∀ j,j<4→b (0+j)=putB k 4 j):nB b 0 4=k:=by
 simp only [nB,h 0 (by decide),h 1 (by decide),h 2 (by decide),h 3 (by decide),putB,UInt8.toNat_ofNat']
 omega
theorem getD_bys (n:Nat)(d:Nat→UInt8)(j:Nat)(hj:j<n):((List.range n).map fun j=>((d j).toNat:Int)).getD j 0=((d j).toNat:Int):=by
 simp [List.getD_eq_getElem?_getD,List.getElem?_map,List.getElem?_range hj]
theorem byte_of {s:ByteArray}{a:Nat}{x:UInt8}(h:byteN s a=(x.toNat:Int)):(s.data.toList[a]?).getD 0=x:=by
 unfold byteN at h
 exact UInt8.toNat_inj.1 (by omega)
theorem be4_back {s:ByteArray}{k:Nat}(hk:k<4294967296)(h:AtL s 4 (be4L k)):be4 s=k:=by
 refine nB_four _ k hk fun j hj=> ?_
 have:=h.2 j (by rw [be4L_len]; exact hj)
 rw [be4L,getD_bys 4 _ j hj] at this
 rw [Nat.zero_add]
 exact byte_of this
theorem pre_back {s:ByteArray}(h:AtL s 0 mgL):preB s=true:=by
 have e:bytesOf 4 (fun i=>strCells s (0+i))=mgB:=subS_ba (s:=s) (a:=0) (L:=mgL) h
 unfold preB
 rw [e]; exact beq_self_eq_true _
theorem sum_back {s x:ByteArray}(h:AtL s 8 (sumL (shaA x))):sumB s x=true:=by
 unfold sumB
 rw [bytesOf_eq,decide_eq_true_eq]
 intro i hi
 have:=h.2 i (by rw [sumL_len]; exact hi)
 rw [sumL,getD_bys 32 _ i hi] at this
 rw [Nat.zero_add,← arr_sumC,nthCC_arr _ _ _ hi]
 simp only [byteC,strCells,byte_of this]
theorem wG_back {s:ByteArray}{i:It}(hs:s.size≤140737488355328)(ho:okIt i=true)(rg:RgIt i)(h:AtL s 0 (fmI i)):wGet s=(i,40+((inL i).length:Int),0):=by
 have hl:=inL_len ho
 have hz:=h.1
 rw [fmI_len] at hz
 have h1:AtL s 0 mgL:=h.left.left.left
 have h2:AtL s 4 (be4L (inL i).length):=h.left.left.right
 have h3:AtL s 8 (sumL (shaA (baL (inL i)))):=by
  have:=h.left.right
  rw [List.length_append,be4L_len] at this
  exact this
 have h4:AtL s 40 (inL i):=by
  have:=h.right
  rw [List.length_append,List.length_append,be4L_len,sumL_len] at this
  exact this
 have e4:=be4_back (by omega) h2
 have eX:wX s=baL (inL i):=by unfold wX; rw [e4]; exact subS_ba h4
 have eI:wIn (wX s)=(i,true):=by
  refine wIn_back ho rg ?_ (by rw [eX,baL_size])
  unfold wX; rw [e4]; exact h4.sub (Nat.le_refl _)
 unfold wGet
 rw [eI,pre_back h1]
 rw [eX,sum_back h3,e4,if_neg (by simp; omega),if_neg (by decide),if_neg,if_neg (by decide),if_neg (by simp)]
 have:(40:Int).toNat=40:=rfl
 rw [this,wrapU (by omega) (by omega)]
 simp; omega
def CutL (s:ByteArray) (a:Nat) (L:List Int):Prop:=a≤s.size∧s.size<a+L.length∧∀ j,a+j<s.size→byteN s (a+j)=L.getD j 0
theorem CutL.to {s:ByteArray}{a:Nat}{A B:List Int}(h:CutL s a (A++B))(hA:a+A.length≤s.size):AtL s a A:=by
 refine ⟨hA,fun j hj=> ?_⟩
 rw [h.2.2 j (by omega)]
 simp [List.getD_eq_getElem?_getD,List.getElem?_append_left hj]
theorem wG_cut {s:ByteArray}{i:It}(hs:s.size≤140737488355328)(ho:okIt i=true)(h:CutL s 0 (fmI i)):wGet s=(it0,0,2):=by
 have hl:=inL_len ho
 have hz:=h.2.1
 rw [fmI_len] at hz
 unfold wGet
 by_cases h40:s.size<40
 ·rw [if_pos (by simp; omega)]
 have hF:AtL s 0 (mgL++be4L (inL i).length++sumL (shaA (baL (inL i)))):=h.to (by
  simp only [List.length_append,be4L_len,sumL_len]
  rw [show mgL.length=4 from rfl]; omega)
 have e4:=be4_back (s:=s) (k:=(inL i).length) (by omega) hF.left.right
 rw [if_neg (by simp; omega),pre_back hF.left.left,if_neg (by decide),if_pos]
 have:(40:Int).toNat=40:=rfl
 rw [this,e4,wrapU (by omega) (by omega)]
 simp; omega
end Go.Proofs.YtiodgjgngfklkaaGreatDoor
