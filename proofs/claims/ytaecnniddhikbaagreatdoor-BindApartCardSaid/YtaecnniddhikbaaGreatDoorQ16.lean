/- Contracts of functions of the program,and the laws that stand on them: what each function answers,whatever its arguments. -/
import Derived.Test.YtaecnniddhikbaaGreatDoorQ14
import Derived.Test.YtaecnniddhikbaaGreatDoorP19
set_option linter.unusedSectionVars false
set_option linter.unnecessarySimpa false
set_option linter.unusedSimpArgs false
set_option linter.unusedVariables false
set_option maxRecDepth 100000
set_option maxHeartbeats 8000000
namespace Go.Proofs.YtaecnniddhikbaaGreatDoor
open Go Go.VA
theorem ntPl (p:Pl):NtCs (cPl false false false p):=by
 refine ntCs_app2 (a:=sumC p.c) ?_ ⟨trivial,trivial,⟨rfl,fun i hi=> ?_⟩,⟨rfl,fun i hi=> ?_⟩,⟨rfl,fun i hi=> ?_⟩,trivial⟩
 ·repeat' (first|exact trivial|(refine And.intro ?_ ?_))
 ·exact ⟨trivial,ntV _⟩
 ·repeat' (first|exact trivial|(refine And.intro ?_ ?_))
 ·refine ⟨trivial,ntCs_app2 (a:=cKy _) ⟨trivial,trivial,trivial,trivial,trivial,trivial,trivial⟩ (ntCs_app2 (ntV _) (ntCs_app2 (ntV _) ⟨⟨rfl,fun i hi=>⟨trivial,trivial⟩⟩,trivial⟩))⟩
theorem aGetL (t:Bool) (L:List Int) (F:Nat→List C) (hb:Bys L) (hL:L.length≤4294967296) (hF:∀ j,j<L.length→F j=rB L j):ACall Tryz.prog gl 13 [.c (.sl t 1 L.length F)] [] (.tup [.ag (cPl false false false (rPl (baL L)).1),intA .i64 (rPl (baL L)).2]):=by
 refine (aGetP t (baL L) (by rw [baL_size]; exact hL)).le ⟨leSl (by rw [baL_size]) (fun j hj=> ?_),trivial⟩
 rw [baL_size] at hj
 rw [hF j hj]
 exact rB_strO hb hj
theorem sameFm {a b:Pl} (ha:okPl a=true) (hb:okPl b=true) (oa:OkP a) (ob:OkP b) (ra:RgPl a) (rb:RgPl b):sameF (fmP a).length (fmP b).length (fun i=>(fmP a).getD i 0) (fun i=>(fmP b).getD i 0)=sameP a b:=by
 rw [Bool.eq_iff_iff]
 unfold sameF
 rw [decide_eq_true_eq]
 constructor
 ·rintro ⟨h1,h2⟩
  have:a=b:=by
   refine fmP_inj ha hb oa ob ra rb (List.ext_getElem h1 fun i hi hi'=> ?_)
   have:=h2 i hi
   simpa [List.getD_eq_getElem?_getD,List.getElem?_eq_getElem hi,List.getElem?_eq_getElem hi'] using this
  rw [this]; exact sameP_refl b
 ·intro h
  have:=sameP_eq ra rb h
  subst this
  exact ⟨rfl,fun _ _=>rfl⟩
def pickI (c n:Int):Int:=if c.tmod n<0 then c.tmod n+n else c.tmod n
theorem pick_rg (c n:Int) (h:1≤n):0≤pickI c n∧pickI c n<n:=by
 unfold pickI
 have h1:=Int.tmod_lt_of_pos c (show 0<n by omega)
 have h2: -n<c.tmod n:=by
  have:=Int.lt_tmod_of_pos c (show 0<n by omega)
  omega
 split<;>omega
theorem aPick (c n:Int) (h1:1≤n) (h2:n≤4611686018427387904):ACall Tryz.prog gl 18 [intA .i64 c,intA .i64 n] [] (intA .i64 (pickI c n)):=by
 have hq:=pick_rg c n h1
 have hp:true=true:=rfl
 refine acall_of_vc htb hmix (f:=18) rfl rfl rfl (by kernel_rfl) rfl rfl ?_; conv=>whnf
 repeat' (first|(refine And.intro (fun h=> ?_) (fun h=> ?_)<;>(first|(with_reducible have hd:_<_:=of_decide_eq_true h)|(with_reducible have hd:¬ (_<_):=of_decide_eq_false h)|fail)<;>(first|(first|omega)|(conv=>whnf)))|(refine And.intro ?_ ?_; (focus (first|(refine chainI ?_; (first|omega|fail))|fail)); conv=>whnf)|fail)
 ·have e:pickI c n=c.tmod n+n:=by unfold pickI; rw [if_pos hd]
  rw [e] at hq ⊢
  exact leI (wrap64 (by omega) (by omega))
 ·have e:pickI c n=c.tmod n:=by unfold pickI; rw [if_neg hd]
  rw [e]
  exact Le.refl _
theorem rPl_cut {x:Pl} (o:OkP x) (r:RgPl x) (k:Nat) (hk:k<(fmP x).length):rPl (baL ((fmP x).take k))=(plz,2):=by
 have lf:=fmP_big o
 have fl:=fmP_len x
 have hl:((fmP x).take k).length=k:=by rw [List.length_take]; omega
 have hb:Bys ((fmP x).take k):=fun y hy=>fmP_bys o r y (List.mem_of_mem_take hy)
 have hc:CutL (baL ((fmP x).take k)) 0 (wrapL (bytesL mgP) (inP x)):=by
  refine ⟨Nat.zero_le _,by rw [baL_size,hl]; show k<0+(fmP x).length; omega,fun j hj=> ?_⟩
  rw [baL_size,hl,Nat.zero_add] at hj
  rw [Nat.zero_add,baL_byte hb j (by omega)]
  show _=(fmP x).getD j 0
  rw [List.getD_eq_getElem?_getD,List.getD_eq_getElem?_getD,List.getElem?_take,if_pos hj]
 have e:=unE_cut (mg:=mgP) rfl (by rw [baL_size]; omega) (by omega) hc
 rw [rPl_e (by rw [e]; decide),e]
theorem rPl_more {x:Pl} (ho:okPl x=true) (o:OkP x) (r:RgPl x) (M:List Int) (hM:Bys M) (hm:M.length≤1000):rPl (baL (fmP x++M))=if M.length=0 then (x,0) else (plz,3):=by
 have lf:=fmP_big o
 have fl:=fmP_len x
 have hb:Bys (fmP x++M):=bys_app (fmP_bys o r) hM
 have hA:AtL (baL (fmP x++M)) 0 (fmP x):=by
  refine ⟨by rw [baL_size,List.length_append]; omega,fun j hj=> ?_⟩
  rw [Nat.zero_add,baL_byte hb j (by rw [List.length_append]; omega)]
  rw [List.getD_eq_getElem?_getD,List.getD_eq_getElem?_getD,List.getElem?_append_left hj]
 by_cases h0:M.length=0
 ·rw [if_pos h0]
  exact pl_back ho o r (by rw [baL_size,List.length_append]; omega) hA
 ·rw [if_neg h0]
  have e:=unE_more (mg:=mgP) (s:=baL (fmP x++M)) (L:=inP x) rfl (by rw [baL_size,List.length_append]; omega) (by omega) (by rw [baL_size,List.length_append]; omega) hA
  rw [rPl_e (by rw [e]; decide),e]
theorem bys_bytesL (m:ByteArray):Bys (bytesL m):=fun x hx=>by
 unfold bytesL at hx
 obtain ⟨j,_,rfl⟩:=List.mem_map.1 hx
 have:=j.toNat_lt
 omega
theorem aBindApart (x y:Pl) (c:Int) (t:Bool) (m:ByteArray) (r:RgPl x) (ry:RgPl y):ACall Tryz.prog gl 5 [.ag (cPl false false false x),.ag (cPl false false false y),intA .i64 c,.c (.sl t 1 m.size (strCells m))] [] (boolA true):=by
 have GA:=aGreatP false false false x
 have GB:=aGreatP false false false y
 have KA:=aRefCk false false false x (rg_hy r) (rg_hz r)
 have KB:=aRefCk false false false y (rg_hy ry) (rg_hz ry)
 have AW:=aAwakeP
 cases hp:(greatP x||greatP y|| !okPl x|| !okPl y||decide ((m.size:Int)>50))
 ·have hp':=hp
  simp only [Bool.or_eq_false_iff,Bool.not_eq_false',decide_eq_false_iff_not] at hp'
  obtain ⟨⟨⟨⟨g1,g2⟩,k1⟩,k2⟩,hm⟩:=hp'
  have o:=okP_of k1 (great_h g1)
  have oy:=okP_of k2 (great_h g2)
  have P1:=aPlPut x k1 o r
  have P2:=aPlPut y k2 oy ry
  have lf:=fmP_big o
  have fl:=fmP_len x
  have PK:=aPick c ((fmP x).length:Int) (by omega) (by omega)
  have hk:=pick_rg c ((fmP x).length:Int) (by omega)
  obtain ⟨k,ek⟩:∃ k:Nat,pickI c ((fmP x).length:Int)=(k:Int):=⟨(pickI c ((fmP x).length:Int)).toNat,by omega⟩
  rw [ek] at PK hk
  have hks:k<(fmP x).length:=by omega
  have hl:((fmP x).take k).length=k:=by rw [List.length_take]; omega
  have G1:=aGetL false ((fmP x).take k) (fun i=>rB (fmP x) (0+i)) (fun y hy=>fmP_bys o r y (List.mem_of_mem_take hy)) (by omega) (fun j hj=>by
   rw [hl] at hj
   rw [Nat.zero_add]
   show cBy ((fmP x).getD j 0)=cBy (((fmP x).take k).getD j 0)
   rw [List.getD_eq_getElem?_getD,List.getD_eq_getElem?_getD,List.getElem?_take,if_pos hj])
  rw [rPl_cut o r k hks,hl] at G1
  have hC:(0:Int)≤(k:Int)∧(k:Int)≤((fmP x).length:Int):=by omega
  have B1:(0+(fmP x).length)*(tb 5).bytes≤140737488355328:=by show _*1≤_; omega
  have B2:(0+(fmP x).length+m.size)*(tb 5).bytes≤140737488355328:=by show _*1≤_; omega
  have bl:(bytesL m).length=m.size:=bytesL_len m
  have S2:=aSameX false false (fmP x).length (fmP y).length (rB (fmP x)) (rB (fmP y)) (fun i=>(fmP x).getD i 0) (fun i=>(fmP y).getD i 0) (fun _ _=>rfl) (fun _ _=>rfl)
  rw [sameFm k1 k2 o oy r ry] at S2
  have S3:=aRefSame x y
  have GG:ACall Tryz.prog gl 13 [.c (.sl true 1 (0+(fmP x).length+m.size) (fun i=>catF 0 (0+(fmP x).length) (catF 0 0 (nthC []) (rB (fmP x))) (strCells m) (0+i)))] [] (.tup [.ag (cPl false false false (if m.size=0 then (x,(0:Int)) else (plz,3)).1),intA .i64 (if m.size=0 then (x,(0:Int)) else (plz,3)).2]):=by
   have h:=aGetL true (fmP x++bytesL m) (rB (fmP x++bytesL m)) (bys_app (fmP_bys o r) (bys_bytesL m)) (by rw [List.length_append,bl]; omega) (fun _ _=>rfl)
   rw [rPl_more k1 o r (bytesL m) (bys_bytesL m) (by omega),bl] at h
   refine h.le ⟨leSl (by rw [List.length_append,bl]; omega) (fun j hj=> ?_),trivial⟩
   rw [Nat.zero_add,Nat.zero_add]
   refine catRB rfl (fun j hj=>catF_00 j) (fun j hj=> ?_) j hj
   rw [bl] at hj
   exact strCells_eq m j hj
  by_cases hz:m.size=0
  ·rw [if_pos hz] at GG
   have ntG:NoTag (.tup [.ag (cPl false false false (x,(0:Int)).1),intA .i64 (x,(0:Int)).2]):=NoTag.tup ⟨NoTag.ag (ntPl x),NoTag.int,trivial⟩
   refine acall_of_vc htb hmix (f:=5) rfl rfl rfl (by kernel_rfl) rfl rfl ?_; conv=>whnf
   repeat' (first|(refine Exists.intro _ (And.intro (GA) ?_); conv=>whnf)|((with_reducible refine GOr.l ?_); (conv=>whnf); refine Exists.intro _ (And.intro (chainI (GB)) ?_); conv=>whnf)|((with_reducible refine GOr.l ?_); (conv=>whnf); refine Exists.intro _ (And.intro (chainI (KA)) ?_); conv=>whnf)|((with_reducible refine GOr.l ?_); (conv=>whnf); refine Exists.intro _ (And.intro (chainI (KB)) ?_); conv=>whnf)|(refine Exists.intro _ (And.intro (P1) ?_); conv=>whnf)|(refine Exists.intro _ (And.intro (chainI (P2)) ?_); conv=>whnf)|(refine Exists.intro _ (And.intro (chainI (S2)) ?_); conv=>whnf)|(refine Exists.intro _ (And.intro (chainI (S3)) ?_); conv=>whnf)|(refine Exists.intro _ (And.intro (PK) ?_); conv=>whnf)|(refine Exists.intro _ (And.intro (G1) ?_); conv=>whnf)|(refine Exists.intro _ (And.intro (GG) ?_); conv=>whnf)|((with_reducible refine GOr.l ?_); (conv=>whnf); refine Exists.intro _ (And.intro (chainI (AW)) ?_); conv=>whnf)|(refine And.intro (fun h=> ?_) (fun h=> ?_)<;>(first|skip)<;>(first|(first|exact Bool.noConfusion (hp.symm.trans h)|fail)|(conv=>whnf)))|((with_reducible refine DOr.l ?_); (conv=>whnf))|((with_reducible refine FzOr.l ?_); conv=>whnf)|((with_reducible refine OwnOr.r (A:=OwnOr (frzPs _ _ _ (fun _ _=>opBuildSlice _ _ 0 _ _)) _) ?_); (conv=>whnf))|(refine And.intro ?_ ?_; (focus (first|(first|exact ntG|exact B1|exact B2|exact hC|fail)|fail)); conv=>whnf)|((with_reducible refine xc_pure ?_); conv=>whnf))
   ·have h:(sameP x y != sameP x y)=true:=h
    rw [bne_self_eq_false] at h
    exact absurd h (by decide)
   ·refine leB ?_
    rw [hz]; rfl
  ·rw [if_neg hz] at GG
   have ntG:NoTag (.tup [.ag (cPl false false false (plz,(3:Int)).1),intA .i64 (plz,(3:Int)).2]):=NoTag.tup ⟨NoTag.ag (ntPl plz),NoTag.int,trivial⟩
   refine acall_of_vc htb hmix (f:=5) rfl rfl rfl (by kernel_rfl) rfl rfl ?_; conv=>whnf
   repeat' (first|(refine Exists.intro _ (And.intro (GA) ?_); conv=>whnf)|((with_reducible refine GOr.l ?_); (conv=>whnf); refine Exists.intro _ (And.intro (chainI (GB)) ?_); conv=>whnf)|((with_reducible refine GOr.l ?_); (conv=>whnf); refine Exists.intro _ (And.intro (chainI (KA)) ?_); conv=>whnf)|((with_reducible refine GOr.l ?_); (conv=>whnf); refine Exists.intro _ (And.intro (chainI (KB)) ?_); conv=>whnf)|(refine Exists.intro _ (And.intro (P1) ?_); conv=>whnf)|(refine Exists.intro _ (And.intro (chainI (P2)) ?_); conv=>whnf)|(refine Exists.intro _ (And.intro (chainI (S2)) ?_); conv=>whnf)|(refine Exists.intro _ (And.intro (chainI (S3)) ?_); conv=>whnf)|(refine Exists.intro _ (And.intro (PK) ?_); conv=>whnf)|(refine Exists.intro _ (And.intro (G1) ?_); conv=>whnf)|(refine Exists.intro _ (And.intro (GG) ?_); conv=>whnf)|((with_reducible refine GOr.l ?_); (conv=>whnf); refine Exists.intro _ (And.intro (chainI (AW)) ?_); conv=>whnf)|(refine And.intro (fun h=> ?_) (fun h=> ?_)<;>(first|skip)<;>(first|(first|exact Bool.noConfusion (hp.symm.trans h)|fail)|(conv=>whnf)))|((with_reducible refine DOr.l ?_); (conv=>whnf))|((with_reducible refine FzOr.l ?_); conv=>whnf)|((with_reducible refine OwnOr.r (A:=OwnOr (frzPs _ _ _ (fun _ _=>opBuildSlice _ _ 0 _ _)) _) ?_); (conv=>whnf))|(refine And.intro ?_ ?_; (focus (first|(first|exact ntG|exact B1|exact B2|exact hC|fail)|fail)); conv=>whnf)|((with_reducible refine xc_pure ?_); conv=>whnf))
   ·have h:(sameP x y != sameP x y)=true:=h
    rw [bne_self_eq_false] at h
    exact absurd h (by decide)
   ·refine leB ?_
    have e:(((m.size:Nat):Int)==0)=false:=beq_eq_false_iff_ne.2 (by omega)
    rw [e]; rfl
 ·refine acall_of_vc htb hmix (f:=5) rfl rfl rfl (by kernel_rfl) rfl rfl ?_; conv=>whnf
  repeat' (first|(refine Exists.intro _ (And.intro (GA) ?_); conv=>whnf)|((with_reducible refine GOr.l ?_); (conv=>whnf); refine Exists.intro _ (And.intro (chainI (GB)) ?_); conv=>whnf)|((with_reducible refine GOr.l ?_); (conv=>whnf); refine Exists.intro _ (And.intro (chainI (KA)) ?_); conv=>whnf)|((with_reducible refine GOr.l ?_); (conv=>whnf); refine Exists.intro _ (And.intro (chainI (KB)) ?_); conv=>whnf)|(refine Exists.intro _ (And.intro (AW) ?_); conv=>whnf)|(refine And.intro (fun h=> ?_) (fun h=> ?_)<;>(first|skip)<;>(first|(first|exact Bool.noConfusion (hp.symm.trans h)|fail)|(conv=>whnf)))|((with_reducible refine FzOr.l ?_); conv=>whnf)|((with_reducible refine xc_pure ?_); conv=>whnf))
  exact leB rfl
end Go.Proofs.YtaecnniddhikbaaGreatDoor
