/- Contracts of functions of the program,and the laws that stand on them: what each function answers,whatever its arguments. -/
import Derived.Test.YtiodgjgngfklkaaGreatDoorP7
import Derived.Test.YtiodgjgngfklkaaGreatDoorP5
import Derived.Test.YtiodgjgngfklkaaGreatDoorP0
set_option linter.all false
set_option maxRecDepth 100000
set_option maxHeartbeats 8000000
namespace Go.Proofs.YtiodgjgngfklkaaGreatDoor
open Go Go.VA
theorem dpR_rg (s:ByteArray):∀ (m:Nat) (i:Int) (a:Nat) (acc:List Ad) (b:Bool),a≤s.size→a≤(dpR s m i a acc b).2.1∧(dpR s m i a acc b).2.1≤s.size
 | 0,i,a,acc,b,h=>⟨Nat.le_refl _,h⟩
 | m+1,i,a,acc,b,h=>by
  simp only [dpR]
  split
  ·have:=dpR_rg s m (IntKind.u64.wrap (i-1)) (e1 s a) (acc++[(kd s a).1.a]) (b1 s a b||(kd s a).1.n != 1) (e1_le s a h)
   have h2:a≤e1 s a:=by unfold e1; omega
   omega
  ·exact ⟨Nat.le_refl _,h⟩
theorem dpR_bad (s:ByteArray)(m:Nat)(i:Int)(a:Nat)(acc:List Ad):(dpR s m i a acc true).2.2=true:=by
 cases m with
 | zero=>rfl
 | succ m=>simp only [dpR]; rw [if_neg (by simp)]
theorem e1_ge (s:ByteArray)(a:Nat):a≤e1 s a:=by unfold e1; omega
theorem e4_ge (s:ByteArray)(a:Nat):e1 s a≤e4 s a:=by unfold e4 e3 e2; omega
theorem dpS_rg (s:ByteArray)(a:Nat)(b:Bool)(h:a≤s.size):e4 s a≤(dpS s a b).2.1∧(dpS s a b).2.1≤s.size:=dpR_rg s _ _ _ _ _ (e4_le s a h)
theorem dpS_b4 {s:ByteArray}{a:Nat}{b:Bool}(h:(dpS s a b).2.2=false):b4 s a b=false:=by
 cases hb:b4 s a b
 ·rfl
 ·unfold dpS at h
  rw [hb,dpR_bad] at h
  exact absurd h (by decide)
theorem b4_parts {s:ByteArray}{a:Nat}{b:Bool}(h:b4 s a b=false):b=false∧(kd s a).2.2=0∧fgE s (e1 s a)=0∧fgV s (e1 s a)≤3∧(vl s (e2 s a)).2.2=0∧(sh s (e3 s a)).2.2=0:=by
 unfold b4 b3 b2 b1 at h
 simp only [Bool.or_eq_false_iff,bne_eq_false_iff_eq,decide_eq_false_iff_not] at h
 obtain ⟨⟨⟨⟨⟨h1,h2⟩,h3⟩,h4⟩,h5⟩,h6⟩:=h
 exact ⟨h1,h2,h3,by omega,h5,h6⟩
theorem dpS_pos {s:ByteArray}{a:Nat}{b:Bool}(h:a≤s.size)(h0:(dpS s a b).2.2=false):a<(dpS s a b).2.1:=by
 have h1:=(b4_parts (dpS_b4 h0)).2.1
 have h2:=kd_pos s a h1
 have h3:=e4_ge s a
 have h4:=dpS_rg s a b h
 have:a<e1 s a:=by unfold e1; omega
 omega
def stRG (A:Nat→Bool→Nat) (B:Nat→Bool→Bool) (E:Nat→Bool→En):Nat→Int→Nat→List En→Bool→List En×Nat×Bool
 | 0,_,a,acc,b=>(acc,a,b)
 | m+1,i,a,acc,b=>if decide (i>0)&& !b then stRG A B E m (IntKind.u64.wrap (i-1)) (A a b) (acc++[E a b]) (B a b) else (acc,a,b)
def stR (s:ByteArray):Nat→Int→Nat→List En→Bool→List En×Nat×Bool:=stRG (fun a b=>(dpS s a b).2.1) (fun a b=>(dpS s a b).2.2) (enS s)
def p1 (s:ByteArray):Nat:=40+(sh s 40).2.1.toNat
def p2 (s:ByteArray):Nat:=p1 s+(sh s (p1 s)).2.1.toNat
def p3 (s:ByteArray):Nat:=p2 s+(sh s (p2 s)).2.1.toNat
def c1 (s:ByteArray):Bool:=false||(sh s 40).2.2 != 0
def c2 (s:ByteArray):Bool:=c1 s||(sh s (p1 s)).2.2 != 0
def c3 (s:ByteArray):Bool:=c2 s||(sh s (p2 s)).2.2 != 0
def stS (s:ByteArray):List En×Nat×Bool:=stR s (s.size+2) (sh s (p2 s)).1 (p3 s) [] (c3 s)
def rdS (s:ByteArray):St:=⟨(sh s 40).1,(sh s (p1 s)).1,(stS s).1⟩
def stz:St:=⟨0,0,[]⟩
def wXs (s:ByteArray):ByteArray:=subS s 40 (s.size-40)
def rStG (s:ByteArray) (pm:Bool) (n4:Int) (q:Bool) (x1 x2:Int) (r:List En×Nat×Bool) (ok:List En→Bool):St×Int :=
 if decide ((s.size:Int)<40) then (stz,2) else if !pm then (stz,4)
 else if decide (IntKind.u64.wrap ((s.size-(40:Int).toNat:Nat):Int)<n4) then (stz,2)
 else if decide (IntKind.u64.wrap ((s.size-(40:Int).toNat:Nat):Int)>n4) then (stz,3)
 else if !q then (stz,5)
 else if r.2.2||decide (((s.size-r.2.1:Nat):Int)>0)|| !ok r.1 then (stz,4) else (⟨x1,x2,r.1⟩,0)
def rSt (s:ByteArray):St×Int:=rStG s (preM mgS s) (be4 s) (sumB s (wXs s)) (sh s 40).1 (sh s (p1 s)).1 (stS s) (fun l=>okSt ⟨(sh s 40).1,(sh s (p1 s)).1,l⟩)
theorem p1_le (s:ByteArray)(h:40≤s.size):p1 s≤s.size:=by
 have:=sh_rg s 40
 unfold p1; omega
theorem p2_le (s:ByteArray)(h:40≤s.size):p2 s≤s.size:=by
 have:=p1_le s h
 have:=sh_rg s (p1 s)
 unfold p2; omega
theorem p3_le (s:ByteArray)(h:40≤s.size):p3 s≤s.size:=by
 have:=p2_le s h
 have:=sh_rg s (p2 s)
 unfold p3; omega
theorem mgI0:isBytes 4 (fun i=>nthC [[C.v (.int .u8 115)],[C.v (.int .u8 115)],[C.v (.int .u8 116)],[C.v (.int .u8 49)]] (0+i)):=by
 intro i hi
 match i,hi with
 | 0,_=>exact ⟨115,rfl⟩
 | 1,_=>exact ⟨115,rfl⟩
 | 2,_=>exact ⟨116,rfl⟩
 | 3,_=>exact ⟨49,rfl⟩
theorem mgE0:bytesOf 4 (fun i=>nthC [[C.v (.int .u8 115)],[C.v (.int .u8 115)],[C.v (.int .u8 116)],[C.v (.int .u8 49)]] (0+i))=mgS:=by
 unfold mgS bytesOf
 rfl
theorem stzLe:Le 0 (.ag [.v (.int .u64 0),.v (.int .u64 0),.v (.slice none 0 0)]) (.ag (cSt stz)):=leAg ⟨LeC.refl _,LeC.refl _,LeC.nil rfl,trivial⟩
theorem aGetG (t:Bool)(s:ByteArray)(hs:s.size≤4294967296)(h40:40≤s.size)(pm:Bool)(n4:Int)(d:Nat→UInt8)(q:Bool)(x1 x2 x3:Int)(P1 P2 P3:Nat)(C1 C2 C3:Bool)(A:Nat→Bool→Nat)(B:Nat→Bool→Bool)(E:Nat→Bool→En)(ok:List En→Bool)
  (PR:∀ u,ACall Tryz.prog gl 36 [.c (.sl t 1 s.size (strCells s)),.c (.sl u 1 4 (fun i=>nthC [[C.v (.int .u8 115)],[C.v (.int .u8 115)],[C.v (.int .u8 116)],[C.v (.int .u8 49)]] (0+i)))] [] (boolA pm))
  (G4:ACall Tryz.prog gl 37 [.c (.sl t 1 (s.size-4) (fun i=>strCells s (4+i))),intA .i64 4] [] (.tup [intA .u64 n4,intA .i64 0]))
  (S1:∀ u,ACall Tryz.prog gl 38 [.c (.sl u 1 1 (nthC [[C.sl t 1 (s.size-40) (fun i=>strCells s (40+i))]]))] [] (.ag (sumC d)))
  (SE:∀ u v,ACall Tryz.prog gl 32 [.c (.sl u 1 32 (fun i=>[nthCC (sumC d) (0+i)])),.c (.sl v 1 32 (fun i=>strCells s (8+i)))] [] (boolA q))
  (m1:MCall Tryz.prog gl 39 [cRd t s 40 false] [.ptr 0 0] [cRd t s P1 C1] (intA .u64 x1))
  (m2:MCall Tryz.prog gl 39 [cRd t s P1 C1] [.ptr 0 0] [cRd t s P2 C2] (intA .u64 x2))
  (m3:MCall Tryz.prog gl 39 [cRd t s P2 C2] [.ptr 0 0] [cRd t s P3 C3] (intA .u64 x3))
  (mE:∀ a b,a≤s.size→MCall Tryz.prog gl 40 [cRd t s a b] [.ptr 0 0] [cRd t s (A a b) (B a b)] (.ag (cEn (E a b))))
  (hP3:P3≤s.size) (hA:∀ a b,a≤s.size→a≤A a b∧A a b≤s.size∧(B a b=false→a<A a b))
  (CK:∀ u l,ACall Tryz.prog gl 24 [.ag (cSu u ⟨x1,x2,l⟩)] [] (intA .i64 (if ok l then 0 else 1))) :
  ACall Tryz.prog gl 19 [.c (.sl t 1 s.size (strCells s))] [] (.tup [.ag (cSt (rStG s pm n4 q x1 x2 (stRG A B E (s.size+2) x3 P3 [] C3) ok).1),intA .i64 (rStG s pm n4 q x1 x2 (stRG A B E (s.size+2) x3 P3 [] C3) ok).2]):=by
 have hq:decide ((s.size:Int)<40)=false:=decide_eq_false (by omega)
 have hB:(0:Int)≤4∧(4:Int)≤s.size:=by omega
 have hC:(0:Int)≤40∧(40:Int)≤s.size:=by omega
 refine acall_of_vc htb hmix (f:=19) rfl rfl rfl (by kernel_rfl) rfl rfl ?_; conv=>whnf
 repeat' (first|(refine Exists.intro _ (And.intro (PR _) ?_); conv=>whnf)|(refine Exists.intro _ (And.intro (G4) ?_); conv=>whnf)|(refine Exists.intro _ (And.intro (S1 _) ?_); conv=>whnf)|(refine Exists.intro _ (And.intro (SE _ _) ?_); conv=>whnf)|(refine And.intro (fun h=> ?_) (fun h=> ?_)<;>(first|(with_reducible have hd:_<_:=of_decide_eq_true h)|(with_reducible have hd:¬ (_<_):=of_decide_eq_false h)|skip)<;>(first|(first|omega)|(conv=>whnf)))|((with_reducible refine FzOr.l ?_); conv=>whnf)|((with_reducible refine OwnOr.r (A:=OwnOr (frzPs _ _ _ (fun _ _=>opBuildSlice _ 64 4 _ _)) _) ?_); (conv=>whnf))|((with_reducible refine OwnOr.l ?_); (conv=>whnf))|(refine And.intro ?_ ?_; (focus (first|(first|exact hB|exact hC|fail)|(refine chainI ?_; (first|decide|fail))|fail)); conv=>whnf)|(refine And.intro ?_ ?_; (focus (first|exact NoTag.bool|fail)); conv=>whnf)|((with_reducible refine xc_guard ?_); refine xc_mb (by first|(((conv=>whnf); repeat' (first|exact trivial|exact rfl|exact LeC.refl _|((with_reducible refine And.intro ?_ ?_)<;>conv=>whnf))); done)|fail) (m1) rfl rfl rfl rfl ?_; conv=>whnf)|((with_reducible refine xc_guard ?_); refine xc_mb (by first|(((conv=>whnf); repeat' (first|exact trivial|exact rfl|exact LeC.refl _|((with_reducible refine And.intro ?_ ?_)<;>conv=>whnf))); done)|fail) (m2) rfl rfl rfl rfl ?_; conv=>whnf)|((with_reducible refine xc_guard ?_); refine xc_mb (by first|(((conv=>whnf); repeat' (first|exact trivial|exact rfl|exact LeC.refl _|((with_reducible refine And.intro ?_ ?_)<;>conv=>whnf))); done)|fail) (m3) rfl rfl rfl rfl ?_; conv=>whnf)|((with_reducible refine xc_pure ?_); conv=>whnf))
 iterate 4
  ·unfold rStG
   (repeat (first|(rw [ifT]; rotate_left; (focus assumption))|(rw [ifF]; rotate_left; (focus assumption))))
   exact leTup2 stzLe (Le.refl _)
 ·have eR:rStG s pm n4 q x1 x2 (stRG A B E (s.size+2) x3 P3 [] C3) ok=if (stRG A B E (s.size+2) x3 P3 [] C3).2.2||decide (((s.size-(stRG A B E (s.size+2) x3 P3 [] C3).2.1:Nat):Int)>0)|| !ok (stRG A B E (s.size+2) x3 P3 [] C3).1 then (stz,4) else (⟨x1,x2,(stRG A B E (s.size+2) x3 P3 [] C3).1⟩,0):=by
   unfold rStG
   (repeat (first|(rw [ifF]; rotate_left; (focus assumption))))
  rw [eR]
  generalize hR:stRG A B E (s.size+2) x3 P3 [] C3=R
  clear eR
  refine loopI (Nat×Int×Nat×List En×Bool) (fun p=>stRG A B E p.1 p.2.1 p.2.2.1 p.2.2.2.1 p.2.2.2.2=R∧p.2.2.1≤s.size∧p.2.2.2.1.length≤p.2.2.1+(if p.2.2.2.2=true then 1 else 0)∧s.size-p.2.2.1+(if p.2.2.2.2=true then 0 else 1)<p.1)
   (fun p=>[(11,intA .u64 p.2.1)])
   (fun p=>[.box (boxC (tb 25).zero),.dead,.dead,.box ((cRd t s p.2.2.1 p.2.2.2.2).map .c),.box [AV.c (C.v (.int .u64 x1)),AV.c (C.v (.int .u64 x2)),AV.own 5 17 0 p.2.2.2.1.length],.row 17 p.2.2.2.1.length (rE p.2.2.2.1)])
   (fun p=>p.1) (s.size+2,x3,P3,[],C3) ⟨hR,hP3,Nat.zero_le _,?_⟩ ?_ (fun _=>rfl) fun ⟨m,i,a,acc,b⟩ ⟨j1,j2,j3,j4⟩=> ?_
  ·show s.size-P3+(if C3=true then 0 else 1)<s.size+2
   split<;>omega
  ·(refine And.intro ?_ (And.intro ?_ (And.intro ?_ rfl))<;>(conv=>whnf)<;>repeat' (first|exact trivial|exact LeE.of (Le.refl _)|exact LeE.nil rfl|(first|exact rfl|fail)|((with_reducible refine And.intro ?_ ?_)<;>conv=>whnf)))
  ·change stRG A B E m i a acc b=R at j1
   change a≤s.size at j2
   change acc.length≤a+(if b=true then 1 else 0) at j3
   change s.size-a+(if b=true then 0 else 1)<m at j4
   have j3':acc.length≤a+1:=by split at j3<;>omega
   obtain ⟨k,rfl⟩:∃ k,m=k+1:=⟨m-1,by omega⟩
   have mE2:=mE a b j2
   have hA2:=hA a b j2
   have B1:(acc.length+1)*(tb 56).bytes≤140737488355328:=by show (acc.length+1)*208≤_; omega
   have CK2:∀ u,ACall Tryz.prog gl 24 [.ag [C.v (.int .u64 x1),C.v (.int .u64 x2),C.sl u 17 acc.length (fun i=>rE acc (0+i))]] [] (intA .i64 (if ok acc then 0 else 1)):=fun u=>(CK u acc).le ⟨leAg ⟨LeC.refl _,LeC.refl _,LeC.sl rfl (fun i hi=>by rw [Nat.zero_add]),trivial⟩,trivial⟩
   have hL:acc.length+1=(acc++[E a b]).length:=by simp
   cases hcond:(decide (i>0)&& !b)
   ·have e:stRG A B E (k+1) i a acc b=(acc,a,b):=by simp only [stRG]; rw [hcond,if_neg (by decide)]
    rw [e] at j1
    rw [← j1]
    conv=>whnf
    repeat' (first|((with_reducible refine GOr.l ?_); (conv=>whnf); refine Exists.intro _ (And.intro (chainI (CK2 _)) ?_); conv=>whnf)|(refine And.intro (fun h=> ?_) (fun h=> ?_)<;>(first|skip)<;>(first|(first|exact Bool.noConfusion (hcond.symm.trans h)|fail)|(conv=>whnf)))|(refine And.intro ?_ ?_; (focus (first|exact NoTag.int|fail)); conv=>whnf)|fail)
    ·have h:(b||decide (((s.size-a:Nat):Int)>0)|| !ok acc)=true:=by rw [← ckA]; exact h
     show Le 0 _ (.tup [.ag (cSt (if (b||decide (((s.size-a:Nat):Int)>0)|| !ok acc)=true then (stz,4) else (⟨x1,x2,acc⟩,0)).1),intA .i64 (if (b||decide (((s.size-a:Nat):Int)>0)|| !ok acc)=true then (stz,(4:Int)) else (⟨x1,x2,acc⟩,0)).2])
     rw [ifT h]
     exact leTup2 stzLe (Le.refl _)
    ·have h:(b||decide (((s.size-a:Nat):Int)>0)|| !ok acc)=false:=by rw [← ckA]; exact h
     show Le 0 _ (.tup [.ag (cSt (if (b||decide (((s.size-a:Nat):Int)>0)|| !ok acc)=true then (stz,4) else (⟨x1,x2,acc⟩,0)).1),intA .i64 (if (b||decide (((s.size-a:Nat):Int)>0)|| !ok acc)=true then (stz,(4:Int)) else (⟨x1,x2,acc⟩,0)).2])
     rw [ifF h]
     exact leTup2 (leAg ⟨LeC.refl _,LeC.refl _,LeC.sl rfl (fun i hi=>by rw [Nat.zero_add]),trivial⟩) (Le.refl _)
   ·have h:=hcond
    conv=>whnf
    repeat' (first|(refine And.intro (fun h=> ?_) (fun h=> ?_)<;>(first|skip)<;>(first|(first|exact Bool.noConfusion (hcond.symm.trans h)|fail)|(conv=>whnf)))|((with_reducible refine Both.mk ?_ ?_)<;>conv=>whnf)|((with_reducible refine DOr.r ?_); (conv=>whnf))|((with_reducible refine OwnOr.l ?_); (conv=>whnf))|((with_reducible apply Drawn.one); conv=>whnf)|((with_reducible refine Then.mk' ?_); conv=>whnf)|(first|exact RefS.self rfl|fail)|(refine And.intro ?_ ?_; (focus (first|(first|exact B1|fail)|fail)); conv=>whnf)|((with_reducible refine xc_guard ?_); refine xc_mb (by first|(((conv=>whnf); repeat' (first|exact trivial|exact rfl|exact LeC.refl _|((with_reducible refine And.intro ?_ ?_)<;>conv=>whnf))); done)|fail) (mE2) rfl rfl rfl rfl ?_; conv=>whnf)|fail)
    have hi:0<i∧b=false:=by simpa using h
    obtain ⟨hi,rfl⟩:=hi
    have e:stRG A B E (k+1) i a acc false=stRG A B E k (IntKind.u64.wrap (i-1)) (A a false) (acc++[E a false]) (B a false):=by simp only [stRG]; rw [if_pos h]
    rw [e] at j1
    simp only [Bool.false_eq_true,if_false] at j3 j4
    refine ⟨(k,IntKind.u64.wrap (i-1),A a false,acc++[E a false],B a false),⟨j1,hA2.2.1,?_,?_⟩,?_,Nat.lt_succ_self _⟩
    ·show (acc++[E a false]).length≤A a false+(if B a false=true then 1 else 0)
     rw [List.length_append,List.length_singleton]
     cases hb:B a false
     ·have:=hA2.2.2 hb
      simp only [Bool.false_eq_true,if_false]; omega
     ·rw [if_pos rfl]; omega
    ·show s.size-A a false+(if B a false=true then 0 else 1)<k
     cases hb:B a false
     ·have:=hA2.2.2 hb
      simp only [Bool.false_eq_true,if_false]; omega
     ·rw [if_pos rfl]; omega
    ·(refine And.intro ?_ (And.intro ?_ (And.intro ?_ rfl))<;>(conv=>whnf)<;>repeat' (first|exact trivial|exact LeE.of (Le.refl _)|(with_reducible refine LeE.of ?_)|(first|exact leOwn hL|exact rfl|fail)|((with_reducible refine And.intro ?_ ?_)<;>conv=>whnf)))
     all_goals first
      | exact hL
      | exact fun i hi=>LeCs.of_eq (rowE_snoc (enc:=cEn) (d:=en0) acc _ acc.length rfl i (by simpa using hi))
theorem aGetS (t:Bool)(s:ByteArray)(hs:s.size≤4294967296):ACall Tryz.prog gl 19 [.c (.sl t 1 s.size (strCells s))] [] (.tup [.ag (cSt (rSt s).1),intA .i64 (rSt s).2]):=by
 by_cases hA:(s.size:Int)<40
 ·have e:rSt s=(stz,2):=by unfold rSt rStG; rw [if_pos (by simpa using hA)]
  rw [e]
  have hcond:true=true:=rfl
  refine acall_of_vc htb hmix (f:=19) rfl rfl rfl (by kernel_rfl) rfl rfl ?_; conv=>whnf
  repeat' (first|(refine And.intro (fun h=> ?_) (fun h=> ?_)<;>(first|(with_reducible have hd:_<_:=of_decide_eq_true h)|(with_reducible have hd:¬ (_<_):=of_decide_eq_false h)|fail)<;>(first|(first|omega)|(conv=>whnf)))|fail)
  exact leTup2 stzLe (Le.refl _)
 ·exact aGetG t s hs (by omega) (preM mgS s) (be4 s) (shaA (wXs s)) (sumB s (wXs s)) _ _ _ (p1 s) (p2 s) (p3 s) (c1 s) (c2 s) (c3 s) _ _ _ _
   (fun u=>aPreM mgS t u s _ (by omega) mgI0 mgE0) (aGet4 t s (by omega))
   (fun u=>aSha1S u t s 40 (s.size-40) _ (fun i hi=>by
    obtain rfl:i=0:=by omega
    rfl) (by omega))
   (fun u v=>aSumEq u v s (wXs s))
   (mShortS t s 40 false) (mShortS t s (p1 s) (c1 s)) (mShortS t s (p2 s) (c2 s))
   (fun a b ha=>mEntryS t s a b hs ha) (p3_le s (by omega))
   (fun a b ha=>⟨by have:=dpS_rg s a b ha; have:=e4_ge s a; have:=e1_ge s a; show a≤(dpS s a b).2.1; omega,(dpS_rg s a b ha).2,fun h=>dpS_pos ha h⟩)
   (fun u l=>aCheckSu u ⟨_,_,l⟩)
def unEG (s:ByteArray) (pm:Bool) (n4:Int) (q:Bool):Int :=
 if decide ((s.size:Int)<40) then 2 else if !pm then 4
 else if decide (IntKind.u64.wrap ((s.size-(40:Int).toNat:Nat):Int)<n4) then 2
 else if decide (IntKind.u64.wrap ((s.size-(40:Int).toNat:Nat):Int)>n4) then 3
 else if !q then 5 else 0
def unE (mg s:ByteArray):Int:=unEG s (preM mg s) (be4 s) (sumB s (wXs s))
def dpG (G:Nat→Ky×Int×Int):Nat→Nat→List Ad→Option (List Ad×Nat)
 | 0,a,acc=>some (acc,a)
 | n+1,a,acc=>if (G a).2.2 != 0||(G a).1.n != 1 then none else dpG G n (a+(G a).2.1.toNat) (acc++[(G a).1.a])
def g1 (G:Nat→Ky×Int×Int) (a:Nat):Nat:=a+((G a).2.1.toNat+1)
def g2 (G:Nat→Ky×Int×Int) (Vv:Nat→V×Int×Int) (a:Nat):Nat:=g1 G a+(Vv (g1 G a)).2.1.toNat
def g3 (G:Nat→Ky×Int×Int) (Vv:Nat→V×Int×Int) (Sh:Nat→Int×Int×Int) (a:Nat):Nat:=g2 G Vv a+(Sh (g2 G Vv a)).2.1.toNat
def gEnG (s:ByteArray) (G:Nat→Ky×Int×Int) (Vv:Nat→V×Int×Int) (Sh:Nat→Int×Int×Int) (a:Nat):Option (En×Nat) :=
 if (G a).2.2 != 0||decide ((G a).2.1≥((s.size-a:Nat):Int))||decide (byteN s (a+(G a).2.1.toNat)>3) then none
 else if (Vv (g1 G a)).2.2 != 0 then none
 else if (Sh (g2 G Vv a)).2.2 != 0||decide ((Sh (g2 G Vv a)).1>((s.size-a:Nat):Int)) then none
 else (dpG G (Sh (g2 G Vv a)).1.toNat (g3 G Vv Sh a) []).map fun p=>(⟨(G a).1,(Vv (g1 G a)).1,(byteN s (a+(G a).2.1.toNat)).tmod 2==1,decide (byteN s (a+(G a).2.1.toNat)>1),p.1⟩,p.2)
def stG (EN:Nat→Option (En×Nat)):Nat→Nat→List En→Option (List En×Nat)
 | 0,a,acc=>some (acc,a)
 | n+1,a,acc=>match EN a with
  | none=>none
  | some p=>stG EN n p.2 (acc++[p.1])
def h1 (Sh:Nat→Int×Int×Int):Nat:=40+(Sh 40).2.1.toNat
def h2 (Sh:Nat→Int×Int×Int):Nat:=h1 Sh+(Sh (h1 Sh)).2.1.toNat
def h3 (Sh:Nat→Int×Int×Int):Nat:=h2 Sh+(Sh (h2 Sh)).2.1.toNat
def finG (s:ByteArray) (x1 x2:Int) (ok:List En→Bool):Option (List En×Nat)→St×Int
 | none=>(stz,4)
 | some p=>if ((p.2-40:Nat):Int) != ((s.size-40:Nat):Int)|| !ok p.1 then (stz,4) else (⟨x1,x2,p.1⟩,0)
def rGetG (s:ByteArray) (Sh:Nat→Int×Int×Int) (EN:Nat→Option (En×Nat)) (ok:List En→Bool):St×Int :=
 if (Sh 40).2.2 != 0 then (stz,4) else if (Sh (h1 Sh)).2.2 != 0 then (stz,4)
 else if (Sh (h2 Sh)).2.2 != 0||decide ((Sh (h2 Sh)).1>((s.size-40:Nat):Int)) then (stz,4)
 else finG s (Sh 40).1 (Sh (h1 Sh)).1 ok (stG EN (Sh (h2 Sh)).1.toNat (h3 Sh) [])
end Go.Proofs.YtiodgjgngfklkaaGreatDoor
