/- What functions of the program answer,whatever their arguments. -/
import Derived.Test.YtaecnniddhikbaaGreatDoorR1
import Derived.Test.YtaecnniddhikbaaGreatDoorP15
import Derived.Test.YtaecnniddhikbaaGreatDoorQ5
set_option linter.unusedSectionVars false
set_option linter.unnecessarySimpa false
set_option linter.unusedSimpArgs false
set_option linter.unusedVariables false
set_option maxRecDepth 100000
set_option maxHeartbeats 8000000
namespace Go.Proofs.YtaecnniddhikbaaGreatDoor
open Go Go.VA
section
variable {α:Type}
structure LpI (z:Nat) (A:Nat→Nat) (B:Nat→Bool) (E:Nat→α) (R:List α×Nat×Bool) (p:Nat×Int×Nat×List α×Bool):Prop where
 run:lpR A B E p.1 p.2.1 p.2.2.1 p.2.2.2.1 p.2.2.2.2=R
 le:p.2.2.1≤z
 ln:p.2.2.2.1.length≤p.2.2.1+(if p.2.2.2.2=true then 1 else 0)
 fu:z-p.2.2.1+(if p.2.2.2.2=true then 0 else 1)<p.1
variable {z:Nat} {A:Nat→Nat} {B:Nat→Bool} {E:Nat→α} {R:List α×Nat×Bool}
theorem LpI.init {i:Int}{a:Nat}{b:Bool}(h:a≤z):LpI z A B E (lpR A B E (z+2) i a [] b) (z+2,i,a,[],b) :=
 ⟨rfl,h,Nat.zero_le _,by show z-a+(if b=true then 0 else 1)<z+2; split<;>omega⟩
theorem LpI.len {p:Nat×Int×Nat×List α×Bool}(h:LpI z A B E R p):p.2.2.2.1.length≤z+1:=by
 have h1:=h.le
 have h2:=h.ln
 split at h2<;>omega
theorem LpI.next {m:Nat}{i:Int}{a:Nat}{acc:List α}{b:Bool}(h:LpI z A B E R (m,i,a,acc,b))(hc:(decide (i>0)&& !b)=true)(hA:a≤A a∧A a≤z∧(B a=false→a<A a)) :
  b=false∧∃ k,m=k+1∧LpI z A B E R (k,IntKind.u64.wrap (i-1),A a,acc++[E a],B a):=by
 have hi:0<i∧b=false:=by simpa using hc
 obtain ⟨hi,rfl⟩:=hi
 have j1:=h.run
 have j2:=h.le
 have j3:=h.ln
 have j4:=h.fu
 simp only [Bool.false_eq_true,if_false] at j1 j2 j3 j4
 obtain ⟨k,rfl⟩:∃ k,m=k+1:=⟨m-1,by omega⟩
 have e:lpR A B E (k+1) i a acc false=lpR A B E k (IntKind.u64.wrap (i-1)) (A a) (acc++[E a]) (B a):=by simp only [lpR]; rw [if_pos hc]
 rw [e] at j1
 refine ⟨rfl,k,rfl,j1,hA.2.1,?_,?_⟩
 ·show (acc++[E a]).length≤A a+(if B a=true then 1 else 0)
  rw [List.length_append,List.length_singleton]
  cases hb:B a
  ·have:=hA.2.2 hb
   simp only [Bool.false_eq_true,if_false]; omega
  ·rw [if_pos rfl]; omega
 ·show z-A a+(if B a=true then 0 else 1)<k
  cases hb:B a
  ·have:=hA.2.2 hb
   simp only [Bool.false_eq_true,if_false]; omega
  ·rw [if_pos rfl]; omega
theorem LpI.stop {m:Nat}{i:Int}{a:Nat}{acc:List α}{b:Bool}(h:LpI z A B E R (m,i,a,acc,b))(hc:(decide (i>0)&& !b)=false):R=(acc,a,b):=by
 have j1:=h.run
 have j4:=h.fu
 simp only at j1 j4
 obtain ⟨k,rfl⟩:∃ k,m=k+1:=⟨m-1,by omega⟩
 rw [← j1]
 simp only [lpR]
 rw [hc,if_neg (by decide)]
end
def plz:Pl:=⟨fun _=>0,0,0,[],[],[]⟩
def rPlG (s:ByteArray) (pm:Bool) (n4:Int) (q:Bool) (a:Nat) (b:Bool) (ok:Bool) (p:Pl):Pl×Int :=
 if decide ((s.size:Int)<40) then (plz,2) else if !pm then (plz,4)
 else if decide (IntKind.u64.wrap ((s.size-(40:Int).toNat:Nat):Int)<n4) then (plz,2)
 else if decide (IntKind.u64.wrap ((s.size-(40:Int).toNat:Nat):Int)>n4) then (plz,3)
 else if !q then (plz,5)
 else if b||decide (((s.size-a:Nat):Int)>0)|| !ok then (plz,4) else (p,0)
theorem mgIP:isBytes 4 (fun i=>nthC [[C.v (.int .u8 115)],[C.v (.int .u8 112)],[C.v (.int .u8 108)],[C.v (.int .u8 49)]] (0+i)):=by
 intro i hi
 match i,hi with
 | 0,_=>exact ⟨115,rfl⟩
 | 1,_=>exact ⟨112,rfl⟩
 | 2,_=>exact ⟨108,rfl⟩
 | 3,_=>exact ⟨49,rfl⟩
theorem mgEP:bytesOf 4 (fun i=>nthC [[C.v (.int .u8 115)],[C.v (.int .u8 112)],[C.v (.int .u8 108)],[C.v (.int .u8 49)]] (0+i))=mgP:=by
 unfold mgP bytesOf
 rfl
theorem plzLe:Le 0 (.ag (sumC (fun _=>0)++[.v (.int .u64 0),.v (.int .u64 0),.v (.slice none 0 0),.v (.slice none 0 0),.v (.slice none 0 0)])) (.ag (cPl false false false plz)):=leAg (by ((conv=>whnf); repeat' (first|exact trivial|exact LeC.refl _|exact LeC.nil rfl|((with_reducible refine And.intro ?_ ?_)<;>conv=>whnf))))
theorem aGetPG (t:Bool)(s:ByteArray)(hs:s.size≤4294967296)(h40:40≤s.size)(pm:Bool)(n4:Int)(d:Nat→UInt8)(q:Bool)
  (P1 P2 P3 P4:Nat) (F1 F2 F3 F4:Bool) (c0:Nat→UInt8) (x1 x2 x3:Int)
  (SA:Nat→Nat) (SE:Nat→Bool) (SV:Nat→Int) (NA LA KA MA:Nat→Nat) (NE LE' KE ME:Nat→Bool) (NV:Nat→ByteArray) (LV:Nat→V) (KV:Nat→Ky) (MV:Nat→Nat→UInt8)
  (A3:Nat→Nat) (B3:Nat→Bool) (E3:Nat→Ac) (ok:Pl→Bool)
  (PR:∀ u,ACall Tryz.prog gl 36 [.c (.sl t 1 s.size (strCells s)),.c (.sl u 1 4 (fun i=>nthC [[C.v (.int .u8 115)],[C.v (.int .u8 112)],[C.v (.int .u8 108)],[C.v (.int .u8 49)]] (0+i)))] [] (boolA pm))
  (G4:ACall Tryz.prog gl 37 [.c (.sl t 1 (s.size-4) (fun i=>strCells s (4+i))),intA .i64 4] [] (.tup [intA .u64 n4,intA .i64 0]))
  (S1:∀ u,ACall Tryz.prog gl 27 [.c (.sl u 1 1 (nthC [[C.sl t 1 (s.size-40) (fun i=>strCells s (40+i))]]))] [] (.ag (sumC d)))
  (SQ:∀ u v,ACall Tryz.prog gl 38 [.c (.sl u 1 32 (fun i=>[nthCC (sumC d) (0+i)])),.c (.sl v 1 32 (fun i=>strCells s (8+i)))] [] (boolA q))
  (m0:MCall Tryz.prog gl 39 [cRd t s 40 false] [.ptr 0 0] [cRd t s P1 F1] (.ag (sumC c0)))
  (m1:MCall Tryz.prog gl 40 [cRd t s P1 F1] [.ptr 0 0] [cRd t s P2 F2] (intA .u64 x1))
  (m2:MCall Tryz.prog gl 40 [cRd t s P2 F2] [.ptr 0 0] [cRd t s P3 F3] (intA .u64 x2))
  (m3:MCall Tryz.prog gl 40 [cRd t s P3 F3] [.ptr 0 0] [cRd t s P4 F4] (intA .u64 x3))
  (mS:∀ a b,MCall Tryz.prog gl 40 [cRd t s a b] [.ptr 0 0] [cRd t s (SA a) (b||SE a)] (intA .u64 (SV a)))
  (mN:∀ a b,MCall Tryz.prog gl 41 [cRd t s a b] [.ptr 0 0] [cRd t s (NA a) (b||NE a)] (.c (.v (.string (NV a)))))
  (mV:∀ a b,MCall Tryz.prog gl 42 [cRd t s a b] [.ptr 0 0] [cRd t s (LA a) (b||LE' a)] (.ag (cV (LV a))))
  (mK:∀ a b,MCall Tryz.prog gl 43 [cRd t s a b] [.ptr 0 0] [cRd t s (KA a) (b||KE a)] (.ag (cKy (KV a))))
  (mM:∀ a b,MCall Tryz.prog gl 39 [cRd t s a b] [.ptr 0 0] [cRd t s (MA a) (b||ME a)] (.ag (sumC (MV a))))
  (mA:∀ a,a≤s.size→MCall Tryz.prog gl 44 [cRd t s a false] [.ptr 0 0] [cRd t s (A3 a) (B3 a)] (.ag (cAc (E3 a))))
  (hP4:P4≤s.size) (hS:∀ a,a≤s.size→SA a≤s.size)
  (h1:∀ a,a≤s.size→a≤LA (NA a)∧LA (NA a)≤s.size∧((false||NE a||LE' (NA a))=false→a<LA (NA a)))
  (h2:∀ a,a≤s.size→a≤MA (KA a)∧MA (KA a)≤s.size∧((false||KE a||ME (KA a))=false→a<MA (KA a)))
  (h3:∀ a,a≤s.size→a≤A3 a∧A3 a≤s.size∧(B3 a=false→a<A3 a))
  (CK:∀ u v w p,ACall Tryz.prog gl 9 [.ag (cPl u v w p)] [] (intA .i64 (if ok p then 0 else 1)))
  (V1:List Bd×Nat×Bool) (hV1:lpR (fun a=>LA (NA a)) (fun a=>false||NE a||LE' (NA a)) (fun a=>⟨NV a,LV (NA a)⟩) (s.size+2) x3 P4 [] F4=V1)
  (T1:List Sp×Nat×Bool) (hT1:lpR (fun a=>MA (KA a)) (fun a=>false||KE a||ME (KA a)) (fun a=>⟨KV a,MV (KA a)⟩) (s.size+2) (SV V1.2.1) (SA V1.2.1) [] (V1.2.2||SE V1.2.1)=T1)
  (X1:List Ac×Nat×Bool) (hX1:lpR A3 B3 E3 (s.size+2) (SV T1.2.1) (SA T1.2.1) [] (T1.2.2||SE T1.2.1)=X1)
  (R:Pl×Int) (hR:R=rPlG s pm n4 q X1.2.1 X1.2.2 (ok ⟨c0,x1,x2,V1.1,T1.1,X1.1⟩) ⟨c0,x1,x2,V1.1,T1.1,X1.1⟩) :
  ACall Tryz.prog gl 13 [.c (.sl t 1 s.size (strCells s))] [] (.tup [.ag (cPl false false false R.1),intA .i64 R.2]):=by
 have hq:decide ((s.size:Int)<40)=false:=decide_eq_false (by omega)
 have hB:(0:Int)≤4∧(4:Int)≤s.size:=by omega
 have hC:(0:Int)≤40∧(40:Int)≤s.size:=by omega
 have hcond:true=true:=rfl
 refine acall_of_vc htb hmix (f:=13) rfl rfl rfl (by kernel_rfl) rfl rfl ?_; conv=>whnf
 repeat' (first|(refine Exists.intro _ (And.intro (PR _) ?_); conv=>whnf)|(refine Exists.intro _ (And.intro (G4) ?_); conv=>whnf)|(refine Exists.intro _ (And.intro (S1 _) ?_); conv=>whnf)|(refine Exists.intro _ (And.intro (SQ _ _) ?_); conv=>whnf)|(refine And.intro (fun h=> ?_) (fun h=> ?_)<;>(first|(with_reducible have hd:_<_:=of_decide_eq_true h)|(with_reducible have hd:¬ (_<_):=of_decide_eq_false h)|skip)<;>(first|(first|omega)|(conv=>whnf)))|((with_reducible refine FzOr.l ?_); conv=>whnf)|((with_reducible refine OwnOr.r (A:=OwnOr (frzPs _ _ _ (fun _ _=>opBuildSlice _ 32 4 _ _)) _) ?_); (conv=>whnf))|((with_reducible refine OwnOr.l ?_); (conv=>whnf))|(refine And.intro ?_ ?_; (focus (first|(first|exact hB|exact hC|fail)|(refine chainI ?_; (first|decide|fail))|fail)); conv=>whnf)|(refine And.intro ?_ ?_; (focus (first|exact NoTag.bool|fail)); conv=>whnf)|((with_reducible refine xc_guard ?_); refine xc_mb (by first|(((conv=>whnf); repeat' (first|exact trivial|exact rfl|exact LeC.refl _|((with_reducible refine And.intro ?_ ?_)<;>conv=>whnf))); done)|fail) (m0) rfl rfl rfl rfl ?_; conv=>whnf)|((with_reducible refine xc_guard ?_); refine xc_mb (by first|(((conv=>whnf); repeat' (first|exact trivial|exact rfl|exact LeC.refl _|((with_reducible refine And.intro ?_ ?_)<;>conv=>whnf))); done)|fail) (m1) rfl rfl rfl rfl ?_; conv=>whnf)|((with_reducible refine xc_guard ?_); refine xc_mb (by first|(((conv=>whnf); repeat' (first|exact trivial|exact rfl|exact LeC.refl _|((with_reducible refine And.intro ?_ ?_)<;>conv=>whnf))); done)|fail) (m2) rfl rfl rfl rfl ?_; conv=>whnf)|((with_reducible refine xc_guard ?_); refine xc_mb (by first|(((conv=>whnf); repeat' (first|exact trivial|exact rfl|exact LeC.refl _|((with_reducible refine And.intro ?_ ?_)<;>conv=>whnf))); done)|fail) (m3) rfl rfl rfl rfl ?_; conv=>whnf)|((with_reducible refine xc_pure ?_); conv=>whnf))
 iterate 4
  ·rw [hR]
   unfold rPlG
   (repeat (first|(rw [ifT]; rotate_left; (focus assumption))|(rw [ifF]; rotate_left; (focus assumption))))
   exact leTup2 plzLe (Le.refl _)
 ·have eR:R=if X1.2.2||decide (((s.size-X1.2.1:Nat):Int)>0)|| !ok ⟨c0,x1,x2,V1.1,T1.1,X1.1⟩ then (plz,4) else (⟨c0,x1,x2,V1.1,T1.1,X1.1⟩,0):=by
   rw [hR]
   unfold rPlG
   (repeat (first|(rw [ifF]; rotate_left; (focus assumption))))
  clear hR
  have BB:∀ (n b:Nat),n≤4294967297→b≤1000→(n+1)*b≤140737488355328:=fun n b h1 h2=>by
   have:=Nat.mul_le_mul (show n+1≤4294967298 by omega) h2
   omega
  refine loopI (Nat×Int×Nat×List Bd×Bool) (fun p=>LpI s.size (fun a=>LA (NA a)) (fun a=>false||NE a||LE' (NA a)) (fun a=>⟨NV a,LV (NA a)⟩) V1 p)
   (fun p=>[(11,intA .u64 p.2.1)])
   (fun p=>[.box (boxC (tb 29).zero),.dead,.dead,.box ((cRd t s p.2.2.1 p.2.2.2.2).map .c),.box ((sumC c0).map AV.c++[AV.c (.v (.int .u64 x1)),AV.c (.v (.int .u64 x2)),AV.own 5 9 0 p.2.2.2.1.length,AV.c (.v (.slice none 0 0)),AV.c (.v (.slice none 0 0))]),.row 9 p.2.2.2.1.length (rBd p.2.2.2.1)])
   (fun p=>p.1) (s.size+2,x3,P4,[],F4) (hV1 ▸ LpI.init hP4) ?_ (fun _=>rfl) fun ⟨m,i,a,acc,b⟩ hI=> ?_
  ·(refine And.intro ?_ (And.intro ?_ (And.intro ?_ rfl))<;>(conv=>whnf)<;>repeat' (first|exact trivial|exact LeE.of (Le.refl _)|exact LeE.nil rfl|(first|exact rfl|fail)|((with_reducible refine And.intro ?_ ?_)<;>conv=>whnf)))
  ·have hl:=hI.len
   have ha:a≤s.size:=hI.le
   change acc.length≤s.size+1 at hl
   have mN2:=mN a b
   have mV2:=mV (NA a) (b||NE a)
   have B1:=BB acc.length (tb 53).bytes (by omega) (by decide)
   cases hcond:(decide (i>0)&& !b)
   ·have hV:=hI.stop hcond
    have mS1:=mS a b
    conv=>whnf
    repeat' (first|(refine And.intro (fun h=> ?_) (fun h=> ?_)<;>(first|skip)<;>(first|(first|exact Bool.noConfusion (hcond.symm.trans h)|fail)|(conv=>whnf)))|((with_reducible refine xc_guard ?_); refine xc_mb (by first|(((conv=>whnf); repeat' (first|exact trivial|exact rfl|exact LeC.refl _|((with_reducible refine And.intro ?_ ?_)<;>conv=>whnf))); done)|fail) (mS1) rfl rfl rfl rfl ?_; conv=>whnf)|fail)
    subst hV
    clear hI
    refine loopI (Nat×Int×Nat×List Sp×Bool) (fun p=>LpI s.size (fun a=>MA (KA a)) (fun a=>false||KE a||ME (KA a)) (fun a=>⟨KV a,MV (KA a)⟩) T1 p)
     (fun p=>[(12,intA .u64 p.2.1)])
     (fun p=>[.box (boxC (tb 29).zero),.dead,.dead,.box ((cRd t s p.2.2.1 p.2.2.2.2).map .c),.box ((sumC c0).map AV.c++[AV.c (.v (.int .u64 x1)),AV.c (.v (.int .u64 x2)),AV.own 5 9 0 acc.length,AV.own 6 38 0 p.2.2.2.1.length,AV.c (.v (.slice none 0 0))]),.row 9 acc.length (rBd acc),.row 38 p.2.2.2.1.length (rSp p.2.2.2.1)])
     (fun p=>p.1) (s.size+2,SV a,SA a,[],b||SE a) (hT1 ▸ LpI.init (hS a ha)) ?_ (fun _=>rfl) fun ⟨m2,i2,a2,acc2,b2⟩ hI=> ?_
    ·(refine And.intro ?_ (And.intro ?_ (And.intro ?_ rfl))<;>(conv=>whnf)<;>repeat' (first|exact trivial|exact LeE.of (Le.refl _)|exact LeE.nil rfl|(first|exact rfl|exact fun i hi=>LeCs.refl _|fail)|((with_reducible refine And.intro ?_ ?_)<;>conv=>whnf)))
    ·have hl2:=hI.len
     have ha2:a2≤s.size:=hI.le
     change acc2.length≤s.size+1 at hl2
     have mK2:=mK a2 b2
     have mM2:=mM (KA a2) (b2||KE a2)
     have B1:=BB acc2.length (tb 61).bytes (by omega) (by decide)
     clear hcond
     cases hcond:(decide (i2>0)&& !b2)
     ·have hT:=hI.stop hcond
      have mS2:=mS a2 b2
      conv=>whnf
      repeat' (first|(refine And.intro (fun h=> ?_) (fun h=> ?_)<;>(first|skip)<;>(first|(first|exact Bool.noConfusion (hcond.symm.trans h)|fail)|(conv=>whnf)))|((with_reducible refine xc_guard ?_); refine xc_mb (by first|(((conv=>whnf); repeat' (first|exact trivial|exact rfl|exact LeC.refl _|((with_reducible refine And.intro ?_ ?_)<;>conv=>whnf))); done)|fail) (mS2) rfl rfl rfl rfl ?_; conv=>whnf)|fail)
      subst hT
      clear hI
      refine loopI (Nat×Int×Nat×List Ac×Bool) (fun p=>LpI s.size A3 B3 E3 X1 p)
       (fun p=>[(13,intA .u64 p.2.1)])
       (fun p=>[.box (boxC (tb 29).zero),.dead,.dead,.box ((cRd t s p.2.2.1 p.2.2.2.2).map .c),.box ((sumC c0).map AV.c++[AV.c (.v (.int .u64 x1)),AV.c (.v (.int .u64 x2)),AV.own 5 9 0 acc.length,AV.own 6 38 0 acc2.length,AV.own 7 24 0 p.2.2.2.1.length]),.row 9 acc.length (rBd acc),.row 38 acc2.length (rSp acc2),.row 24 p.2.2.2.1.length (rAc p.2.2.2.1)])
       (fun p=>p.1) (s.size+2,SV a2,SA a2,[],b2||SE a2) (hX1 ▸ LpI.init (hS a2 ha2)) ?_ (fun _=>rfl) fun ⟨m3,i3,a3,acc3,b3⟩ hI=> ?_
      ·(refine And.intro ?_ (And.intro ?_ (And.intro ?_ rfl))<;>(conv=>whnf)<;>repeat' (first|exact trivial|exact LeE.of (Le.refl _)|exact LeE.nil rfl|(first|exact rfl|exact fun i hi=>LeCs.refl _|fail)|((with_reducible refine And.intro ?_ ?_)<;>conv=>whnf)))
      ·have hl3:=hI.len
       have ha3:a3≤s.size:=hI.le
       change acc3.length≤s.size+1 at hl3
       have B1:=BB acc3.length (tb 64).bytes (by omega) (by decide)
       clear hcond
       cases hcond:(decide (i3>0)&& !b3)
       ·have hX:=hI.stop hcond
        subst hX
        clear hI
        have CK2:∀ u v w,ACall Tryz.prog gl 9 [.ag (sumC c0++[C.v (.int .u64 x1),C.v (.int .u64 x2),C.sl u 9 acc.length (fun i=>rBd acc (0+i)),C.sl v 38 acc2.length (fun i=>rSp acc2 (0+i)),C.sl w 24 acc3.length (fun i=>rAc acc3 (0+i))])] [] (intA .i64 (if ok ⟨c0,x1,x2,acc,acc2,acc3⟩ then 0 else 1)):=fun u v w=>(CK u v w ⟨c0,x1,x2,acc,acc2,acc3⟩).le ⟨leAg (by ((conv=>whnf); repeat' (first|exact trivial|exact LeC.refl _|exact LeC.sl rfl (fun i hi=>by rw [Nat.zero_add])|((with_reducible refine And.intro ?_ ?_)<;>conv=>whnf)))),trivial⟩
        conv=>whnf
        repeat' (first|((with_reducible refine GOr.l ?_); (conv=>whnf); refine Exists.intro _ (And.intro (chainI (CK2 _ _ _)) ?_); conv=>whnf)|(refine And.intro (fun h=> ?_) (fun h=> ?_)<;>(first|skip)<;>(first|(first|exact Bool.noConfusion (hcond.symm.trans h)|fail)|(conv=>whnf)))|((with_reducible refine FzOr.l ?_); conv=>whnf)|(refine And.intro ?_ ?_; (focus (first|exact NoTag.int|fail)); conv=>whnf)|fail)
        ·have h:(b3||decide (((s.size-a3:Nat):Int)>0)|| !ok ⟨c0,x1,x2,acc,acc2,acc3⟩)=true:=by rw [← ckA]; exact h
         rw [eR,ifT h]
         exact leTup2 plzLe (Le.refl _)
        ·have h:(b3||decide (((s.size-a3:Nat):Int)>0)|| !ok ⟨c0,x1,x2,acc,acc2,acc3⟩)=false:=by rw [← ckA]; exact h
         rw [eR,ifF h]
         exact leTup2 (leAg (by ((conv=>whnf); repeat' (first|exact trivial|exact LeC.refl _|exact LeC.sl rfl (fun i hi=>by rw [Nat.zero_add])|((with_reducible refine And.intro ?_ ?_)<;>conv=>whnf))))) (Le.refl _)
       ·have h:=hcond
        obtain ⟨rfl,k,rfl,hN⟩:=hI.next hcond (h3 a3 ha3)
        have mA2:=mA a3 ha3
        have hL:acc3.length+1=(acc3++[E3 a3]).length:=by simp
        conv=>whnf
        repeat' (first|(refine And.intro (fun h=> ?_) (fun h=> ?_)<;>(first|skip)<;>(first|(first|exact Bool.noConfusion (hcond.symm.trans h)|fail)|(conv=>whnf)))|((with_reducible refine Both.mk ?_ ?_)<;>conv=>whnf)|((with_reducible refine DOr.r ?_); (conv=>whnf))|((with_reducible refine OwnOr.l ?_); (conv=>whnf))|((with_reducible apply Drawn.one); conv=>whnf)|((with_reducible refine Then.mk' ?_); conv=>whnf)|(first|exact RefS.self rfl|fail)|(refine And.intro ?_ ?_; (focus (first|(first|exact B1|fail)|fail)); conv=>whnf)|((with_reducible refine xc_guard ?_); refine xc_mb (by first|(((conv=>whnf); repeat' (first|exact trivial|exact rfl|exact LeC.refl _|((with_reducible refine And.intro ?_ ?_)<;>conv=>whnf))); done)|fail) (mA2) rfl rfl rfl rfl ?_; conv=>whnf)|fail)
        refine ⟨(k,IntKind.u64.wrap (i3-1),A3 a3,acc3++[E3 a3],B3 a3),hN,?_,Nat.lt_succ_self _⟩
        (refine And.intro ?_ (And.intro ?_ (And.intro ?_ rfl))<;>(conv=>whnf)<;>repeat' (first|exact trivial|exact LeE.of (Le.refl _)|(with_reducible refine LeE.of ?_)|(first|exact leOwn hL|exact rfl|exact fun i hi=>LeCs.refl _|fail)|((with_reducible refine And.intro ?_ ?_)<;>conv=>whnf)))
        all_goals first
         | exact hL
         | exact fun i hi=>LeCs.of_eq (rowE_snoc (enc:=cAc) (d:=ac0) acc3 (E3 a3) acc3.length rfl i (by simpa using hi))
     ·have h:=hcond
      obtain ⟨rfl,k,rfl,hN⟩:=hI.next hcond (h2 a2 ha2)
      have hL:acc2.length+1=(acc2++[(⟨KV a2,MV (KA a2)⟩:Sp)]).length:=by simp
      conv=>whnf
      repeat' (first|(refine And.intro (fun h=> ?_) (fun h=> ?_)<;>(first|skip)<;>(first|(first|exact Bool.noConfusion (hcond.symm.trans h)|fail)|(conv=>whnf)))|((with_reducible refine Both.mk ?_ ?_)<;>conv=>whnf)|((with_reducible refine DOr.r ?_); (conv=>whnf))|((with_reducible refine OwnOr.l ?_); (conv=>whnf))|((with_reducible apply Drawn.one); conv=>whnf)|((with_reducible refine Then.mk' ?_); conv=>whnf)|(first|exact RefS.self rfl|fail)|(refine And.intro ?_ ?_; (focus (first|(first|exact B1|fail)|fail)); conv=>whnf)|((with_reducible refine xc_guard ?_); refine xc_mb (by first|(((conv=>whnf); repeat' (first|exact trivial|exact rfl|exact LeC.refl _|((with_reducible refine And.intro ?_ ?_)<;>conv=>whnf))); done)|fail) (mK2) rfl rfl rfl rfl ?_; conv=>whnf)|((with_reducible refine xc_guard ?_); refine xc_mb (by first|(((conv=>whnf); repeat' (first|exact trivial|exact rfl|exact LeC.refl _|((with_reducible refine And.intro ?_ ?_)<;>conv=>whnf))); done)|fail) (mM2) rfl rfl rfl rfl ?_; conv=>whnf)|fail)
      refine ⟨(k,IntKind.u64.wrap (i2-1),MA (KA a2),acc2++[⟨KV a2,MV (KA a2)⟩],false||KE a2||ME (KA a2)),hN,?_,Nat.lt_succ_self _⟩
      (refine And.intro ?_ (And.intro ?_ (And.intro ?_ rfl))<;>(conv=>whnf)<;>repeat' (first|exact trivial|exact LeE.of (Le.refl _)|(with_reducible refine LeE.of ?_)|(first|exact leOwn hL|exact rfl|exact fun i hi=>LeCs.refl _|fail)|((with_reducible refine And.intro ?_ ?_)<;>conv=>whnf)))
      all_goals first
       | exact hL
       | exact fun i hi=>LeCs.of_eq (rowE_snoc (enc:=cSp) (d:=sp0) acc2 ⟨KV a2,MV (KA a2)⟩ acc2.length rfl i (by simpa using hi))
   ·have h:=hcond
    obtain ⟨rfl,k,rfl,hN⟩:=hI.next hcond (h1 a ha)
    have hL:acc.length+1=(acc++[(⟨NV a,LV (NA a)⟩:Bd)]).length:=by simp
    conv=>whnf
    repeat' (first|(refine And.intro (fun h=> ?_) (fun h=> ?_)<;>(first|skip)<;>(first|(first|exact Bool.noConfusion (hcond.symm.trans h)|fail)|(conv=>whnf)))|((with_reducible refine Both.mk ?_ ?_)<;>conv=>whnf)|((with_reducible refine DOr.r ?_); (conv=>whnf))|((with_reducible refine OwnOr.l ?_); (conv=>whnf))|((with_reducible apply Drawn.one); conv=>whnf)|((with_reducible refine Then.mk' ?_); conv=>whnf)|(first|exact RefS.self rfl|fail)|(refine And.intro ?_ ?_; (focus (first|(first|exact B1|fail)|fail)); conv=>whnf)|((with_reducible refine xc_guard ?_); refine xc_mb (by first|(((conv=>whnf); repeat' (first|exact trivial|exact rfl|exact LeC.refl _|((with_reducible refine And.intro ?_ ?_)<;>conv=>whnf))); done)|fail) (mN2) rfl rfl rfl rfl ?_; conv=>whnf)|((with_reducible refine xc_guard ?_); refine xc_mb (by first|(((conv=>whnf); repeat' (first|exact trivial|exact rfl|exact LeC.refl _|((with_reducible refine And.intro ?_ ?_)<;>conv=>whnf))); done)|fail) (mV2) rfl rfl rfl rfl ?_; conv=>whnf)|fail)
    refine ⟨(k,IntKind.u64.wrap (i-1),LA (NA a),acc++[⟨NV a,LV (NA a)⟩],false||NE a||LE' (NA a)),hN,?_,Nat.lt_succ_self _⟩
    (refine And.intro ?_ (And.intro ?_ (And.intro ?_ rfl))<;>(conv=>whnf)<;>repeat' (first|exact trivial|exact LeE.of (Le.refl _)|(with_reducible refine LeE.of ?_)|(first|exact leOwn hL|exact rfl|fail)|((with_reducible refine And.intro ?_ ?_)<;>conv=>whnf)))
    all_goals first
     | exact hL
     | exact fun i hi=>LeCs.of_eq (rowE_snoc (enc:=cBd) (d:=bd0) acc ⟨NV a,LV (NA a)⟩ acc.length rfl i (by simpa using hi))
end Go.Proofs.YtaecnniddhikbaaGreatDoor
