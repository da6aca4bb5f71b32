/- Contracts of functions of the program,and the laws that stand on them: what each function answers,whatever its arguments. -/
import Derived.Test.YtiodgjgngfklkaaGreatDoorW1
import Derived.Test.YtiodgjgngfklkaaGreatDoorC13
set_option linter.all false
set_option maxRecDepth 100000
set_option maxHeartbeats 8000000
namespace Go.Proofs.YtiodgjgngfklkaaGreatDoor
open Go Go.VA
theorem rB_str {L:List Int}(hb:Bys L){j:Nat}(hj:j<L.length):rB L j=strCells (baL L) j:=by
 have:=baL_byte hb j hj
 show [C.v (.int .u8 (L.getD j 0))]=[C.v (.int .u8 (byteN (baL L) j))]
 rw [this]
theorem catF_nF (L:List Int)(j:Nat):catF 0 0 nF (rB L) j=rB L j:=by
 unfold catF
 rw [if_neg (Nat.not_lt_zero _),Nat.sub_zero]
def inF (i:It):Nat→List C :=
 catF 0 (0+(shortL i.n.toNat).length+1) (fun i_3=>catF 0 (0+(shortL i.n.toNat).length) (catF 0 0 nF (rB (shortL i.n.toNat))) (nthC [cBy (IntKind.u8.wrap i.k)]) (0+i_3)) (rB (kyL i.y))
theorem inRow (i:It)(ho:okIt i=true)(j:Nat)(hj:j<(inL i).length):inF i j=strCells (baL (inL i)) j:=by
 have e:inF i j=catF 0 0 nF (rB (inL i)) j:=by
  unfold inF inL
  simp only [Nat.zero_add]
  have hl:(inL i).length=(shortL i.n.toNat).length+1+(kyL i.y).length:=by unfold inL; simp; omega
  refine catL (n:=0) (by simp) (catL (n:=0) (b:=[IntKind.u8.wrap i.k]) (by simp) (fun _ _=>rfl) (rB1 _)) (fun _ _=>rfl) j (by rw [hl] at hj; exact hj)
 rw [e,catF_nF]
 exact rB_str (bys_in ho) hj
def wPs (n:Nat) (f:Nat→List C) (i:It):Nat→Nat×(Nat→List C)
 | 0=>(n,f)
 | 1=>(4,fun j=>nthC [[C.v (.int .u8 115)],[C.v (.int .u8 105)],[C.v (.int .u8 110)],[C.v (.int .u8 49)]] (0+j))
 | 2=>(4,Go.VA.byF (putB (0+(shortL i.n.toNat).length+1+(kyL i.y).length) 4))
 | 3=>(32,fun j=>[nthCC (sumC (shaA (baL (inL i)))) (0+j)])
 | _=>(0+(shortL i.n.toNat).length+1+(kyL i.y).length,fun j=>inF i (0+j))
theorem catN_w (n:Nat)(f:Nat→List C)(i:It):catN (wPs n f i) 5=n+(fmI i).length:=by
 have eN:0+(shortL i.n.toNat).length+1+(kyL i.y).length=(inL i).length:=by unfold inL; simp; omega
 rw [fmI_len]
 show 0+n+4+4+32+(0+(shortL i.n.toNat).length+1+(kyL i.y).length)=_
 omega
theorem rB_bytes (n:Nat)(d:Nat→UInt8)(j:Nat)(hj:j<n):[cb (d j)]=rB ((List.range n).map fun j=>((d j).toNat:Int)) j:=by
 show [C.v (.int .u8 ((d j).toNat:Int))]=[C.v (.int .u8 (((List.range n).map fun j=>((d j).toNat:Int)).getD j 0))]
 rw [getD_bys n d j hj]
theorem catG_w (n:Nat)(f:Nat→List C)(i:It)(ho:okIt i=true)(j:Nat)(hj:j<n+(fmI i).length):catG (wPs n f i) 5 j=catF 0 n f (rB (fmI i)) j:=by
 have eN:0+(shortL i.n.toNat).length+1+(kyL i.y).length=(inL i).length:=by unfold inL; simp; omega
 have c1:catN (wPs n f i) 1=n:=by show 0+n=n; omega
 have c2:catN (wPs n f i) 2=n+mgL.length:=by show 0+n+4=n+4; omega
 have c3:catN (wPs n f i) 3=n+(mgL++be4L (inL i).length).length:=by rw [List.length_append,be4L_len]; show 0+n+4+4=n+(4+4); omega
 have c4:catN (wPs n f i) 4=n+(mgL++be4L (inL i).length++sumL (shaA (baL (inL i)))).length:=by rw [List.length_append,List.length_append,be4L_len,sumL_len]; show 0+n+4+4+32=n+(4+4+32); omega
 have g2:∀ k,k<catN (wPs n f i) 2→catG (wPs n f i) 2 k=catF 0 n f (rB mgL) k:=by
  intro k hk
  rw [c2] at hk
  show catF 0 (catN (wPs n f i) 1) (catF 0 0 zF f) (fun j=>nthC [[C.v (.int .u8 115)],[C.v (.int .u8 105)],[C.v (.int .u8 110)],[C.v (.int .u8 49)]] (0+j)) k=_
  rw [c1]
  unfold catF
  by_cases h:k<n
  ·rw [if_pos h,if_pos h,if_neg (by omega),Nat.zero_add,Nat.sub_zero]
  ·rw [if_neg h,if_neg h]
   have hk4:k-n<4:=by have:mgL.length=4:=rfl; omega
   generalize k-n=m at hk4
   match m,hk4 with
   | 0,_=>rfl
   | 1,_=>rfl
   | 2,_=>rfl
   | 3,_=>rfl
 have g3:∀ k,k<catN (wPs n f i) 3→catG (wPs n f i) 3 k=catF 0 n f (rB (mgL++be4L (inL i).length)) k:=by
  intro k hk
  refine catL c2 g2 (fun m hm=> ?_) k (by rw [c3] at hk; rw [c2]; rw [List.length_append] at hk; omega)
  rw [be4L_len] at hm
  show Go.VA.byF (putB (0+(shortL i.n.toNat).length+1+(kyL i.y).length) 4) m=_
  rw [eN]
  exact rB_bytes 4 _ m hm
 have g4:∀ k,k<catN (wPs n f i) 4→catG (wPs n f i) 4 k=catF 0 n f (rB (mgL++be4L (inL i).length++sumL (shaA (baL (inL i))))) k:=by
  intro k hk
  refine catL c3 g3 (fun m hm=> ?_) k (by rw [c4] at hk; rw [c3]; have:= @List.length_append _ (mgL++be4L (inL i).length) (sumL (shaA (baL (inL i)))); omega)
  rw [sumL_len] at hm
  show [nthCC (sumC (shaA (baL (inL i)))) (0+m)]=_
  rw [Nat.zero_add,← arr_sumC,nthCC_arr _ _ _ hm]
  exact rB_bytes 32 _ m hm
 refine catL c4 g4 (fun m hm=> ?_) j (by rw [c4]; unfold fmI at hj; have:= @List.length_append _ (mgL++be4L (inL i).length++sumL (shaA (baL (inL i)))) (inL i); omega)
 show inF i (0+m)=rB (inL i) m
 rw [Nat.zero_add,inRow i ho m hm,rB_str (bys_in ho) hm]
theorem gWPut (t:Bool)(n:Nat)(f:Nat→List C)(i:It)(hn:n+400≤140737488355328)(ho:okIt i=true)(hi0:0≤i.n) :
  GCall Tryz.prog gl 27 [] [.c (.sl t 1 n f),.ag (cIt i)] [.row 1 (n+(fmI i).length) (catF 0 n f (rB (fmI i)))] [.own 0 1 0 (n+(fmI i).length)]:=by
 have CK:=aCheckI i
 rw [if_pos ho] at CK
 have hil:=inL_len ho
 have d:=shortL_len i.n.toNat
 have hky:=kyL_len (okIt_y ho).1
 have hnb:i.n<18446744073709551616:=by
  have:=ho
  unfold okIt at this
  simp only [Bool.and_eq_true,Bool.not_eq_true',Bool.or_eq_false_iff,decide_eq_false_iff_not] at this
  omega
 have ek:putKy i.y=kyL i.y:=if_pos (okIt_y ho).1
 have PS:=gPutShortI t 0 nF i.n hi0 hnb (by omega)
 have nt0:∀ j,j<0→NtCs (nF j):=fun i hi=>absurd hi (Nat.not_lt_zero _)
 have nt1:=ntCatG (m:=(shortL i.n.toNat).length) nt0 (ntB (shortL i.n.toNat) _)
 have nt2:=ntCatG nt1 (ntOne (IntKind.u8.wrap i.k))
 have nt3:=ntCatG (m:=(kyL i.y).length) (ntShift nt2) (ntB (kyL i.y) _)
 have PK:=fun t=>gPutKy t (0+(shortL i.n.toNat).length+1) _ i.y (ntShift nt2) (by omega)
 rw [ek] at PK
 have B1:(0+(shortL i.n.toNat).length+1)*(tb 5).bytes≤140737488355328:=by show _*1≤_; omega
 have eN:0+(shortL i.n.toNat).length+1+(kyL i.y).length=(inL i).length:=by unfold inL; simp; omega
 have eR:=inRow i ho
 have S1:=aSha1G false false (baL (inL i)) (0+(shortL i.n.toNat).length+1+(kyL i.y).length) (fun j=>inF i (0+j)) (nthC [[C.sl false 1 (0+(shortL i.n.toNat).length+1+(kyL i.y).length) fun j=>inF i (0+j)]]) rfl (by rw [baL_size]; exact eN) (fun j hj=>by rw [Nat.zero_add]; exact eR j (by omega)) (by rw [baL_size]; omega)
 have P4:=aPut4 (0+(shortL i.n.toNat).length+1+(kyL i.y).length) (by omega)
 rw [← wrapU (n:=((0+(shortL i.n.toNat).length+1+(kyL i.y).length:Nat):Int)) (by omega) (by omega)] at P4
 have hc:=catN_w n f i
 have hfl:=fmI_len i
 have CC:=gConcat false 5 (nthC [[C.sl t 1 n f],[C.sl false 1 4 (wPs n f i 1).2],[C.sl false 1 4 (wPs n f i 2).2],[C.sl false 1 (32-0) (wPs n f i 3).2],[C.sl false 1 (0+(shortL i.n.toNat).length+1+(kyL i.y).length) (wPs n f i 4).2]]) (fun j=>if j=0 then t else false) (wPs n f i) (fun j hj=>by
  match j,hj with
  | 0,_=>rfl
  | 1,_=>rfl
  | 2,_=>rfl
  | 3,_=>rfl
  | 4,_=>rfl) (by omega) (by omega)
 refine gcall_of_vcb htb hmix (f:=27) rfl rfl rfl (by kernel_rfl) rfl rfl rfl fun hb hb2=> ?_; simp only [bndOs,bndO,gbnds,AV.gbnd,bnds,C.bnd,true_and,and_true] at hb hb2; conv=>whnf
 repeat' (first|(refine Exists.intro _ (And.intro (CK) ?_); conv=>whnf)|(refine Exists.intro _ (And.intro (S1) ?_); conv=>whnf)|(refine Exists.intro _ (And.intro (P4) ?_); conv=>whnf)|(refine And.intro (fun h=> ?_) (fun h=> ?_)<;>(first|skip)<;>(first|exact absurd h (by decide)|(conv=>whnf)))|((with_reducible refine Both.mk ?_ ?_)<;>conv=>whnf)|((with_reducible refine DOr.r ?_); (conv=>whnf))|((with_reducible refine NilOr.l ?_); conv=>whnf)|((with_reducible refine FzOr.l ?_); conv=>whnf)|((with_reducible refine OwnOr.r (A:=OwnOr (frzPs _ _ _ (fun _ _=>opBuildSlice _ _ 4 _ _)) _) ?_); (conv=>whnf))|((with_reducible refine OwnOr.l ?_); (conv=>whnf))|((with_reducible apply Drawn.one); conv=>whnf)|((with_reducible refine Then.mk' ?_); conv=>whnf)|(first|exact RefS.self rfl|fail)|(refine And.intro ?_ ?_; (focus (first|exact rfl|(first|assumption)|fail)); conv=>whnf)|((with_reducible refine xc_guard ?_); (first|(refine xc_g (PS) false (by first|(((conv=>whnf); repeat' (first|exact trivial|exact rfl|exact LeC.refl _|exact LeC.nil rfl|((with_reducible refine And.intro ?_ ?_)<;>conv=>whnf))); done)|fail) trivial ?_)|fail); conv=>whnf)|((with_reducible refine xc_guard ?_); (first|(refine xc_g (PK _) true (by first|(((conv=>whnf); repeat' (first|exact trivial|exact rfl|exact LeC.refl _|((with_reducible refine And.intro ?_ ?_)<;>conv=>whnf))); done)|fail) (by first|(((conv=>whnf); repeat' (first|exact trivial|(first|exact nt3|fail)|((with_reducible refine And.intro ?_ ?_)<;>conv=>whnf))); done)|fail) ?_)); conv=>whnf)|((with_reducible refine xc_guard ?_); (first|(refine xc_g (CC) false (by first|(((conv=>whnf); repeat' (first|exact trivial|exact rfl|exact LeC.refl _|((with_reducible refine And.intro ?_ ?_)<;>conv=>whnf))); done)|fail) trivial ?_)|fail); conv=>whnf)|((with_reducible refine xc_pure ?_); conv=>whnf))
 all_goals (try ((conv=>whnf); repeat' (first|exact trivial|exact rfl|((with_reducible refine And.intro ?_ ?_)<;>conv=>whnf))))
 all_goals first
  | exact hc
  | exact fun k hk=>LeCs.of_eq (catG_w n f i ho k hk)
theorem wG_used {s:ByteArray}(hs:s.size≤140737488355328)(h:(wGet s).2.2=0):40≤(wGet s).2.1∧(wGet s).2.1≤s.size:=by
 have hl:=be4_lt s
 by_cases h1:decide ((s.size:Int)<40)=true
 ·unfold wGet at h; rw [if_pos h1] at h; exact absurd h (by decide)
 by_cases h2:(!preB s)=true
 ·unfold wGet at h; rw [if_neg h1,if_pos h2] at h; exact absurd h (by decide)
 by_cases h3:decide (IntKind.u64.wrap ((s.size-(40:Int).toNat:Nat):Int)<(be4 s:Int))=true
 ·unfold wGet at h; rw [if_neg h1,if_neg h2,if_pos h3] at h; exact absurd h (by decide)
 by_cases h4:(!sumB s (wX s))=true
 ·unfold wGet at h; rw [if_neg h1,if_neg h2,if_neg h3,if_pos h4] at h; exact absurd h (by decide)
 by_cases h5:(!(wIn (wX s)).2)=true
 ·unfold wGet at h; rw [if_neg h1,if_neg h2,if_neg h3,if_neg h4,if_pos h5] at h; exact absurd h (by decide)
 have e:wGet s=((wIn (wX s)).1,40+(be4 s:Int),0):=by unfold wGet; rw [if_neg h1,if_neg h2,if_neg h3,if_neg h4,if_neg h5]
 rw [e]
 have:(40:Int).toNat=40:=rfl
 simp only [decide_eq_true_eq] at h1 h3
 rw [this,wrapU (by omega) (by omega)] at h3
 show 40≤40+(be4 s:Int)∧40+(be4 s:Int)≤s.size
 omega
def tlW (s:ByteArray) (a:Nat):ByteArray:=subS s a (s.size-a)
def allG (s:ByteArray):Nat→Nat→List It×Nat
 | 0,a=>([],a)
 | m+1,a=>if (wGet (tlW s a)).2.2 != 0 then ([],a) else ((wGet (tlW s a)).1::(allG s m (a+(wGet (tlW s a)).2.1.toNat)).1,(allG s m (a+(wGet (tlW s a)).2.1.toNat)).2)
def allS (s:ByteArray):List It×Nat:=allG s (s.size+1) 0
def rI (l:List It):Nat→List C:=rowE cIt it0 l
theorem aWGetS (t:Bool)(s:ByteArray)(a:Nat):ACall Tryz.prog gl 99 [.c (.sl t 1 (s.size-a) (fun i=>strCells s (a+i)))] [] (.tup [.ag (cIt (wGet (tlW s a)).1),intA .i64 (wGet (tlW s a)).2.1,intA .i64 (wGet (tlW s a)).2.2]) :=
 (aWGet t (tlW s a)).le ⟨leSl (sub_size s a _).symm (fun i hi=>(sub_cells s a _ i (by rwa [tlW,sub_size] at hi)).symm),trivial⟩
theorem aAllW (t:Bool)(s:ByteArray)(hs:s.size≤1099511627776):ACall Tryz.prog gl 69 [.c (.sl t 1 s.size (strCells s))] [] (.tup [.c (.sl false 8 (allS s).1.length (rI (allS s).1)),intA .i64 (allS s).2]):=by
 refine acall_of_vc htb hmix (f:=69) rfl rfl rfl (by kernel_rfl) rfl rfl ?_; conv=>whnf
 repeat' (first|((with_reducible refine NilOr.l ?_); conv=>whnf)|fail)
 refine loopI (List It×Nat×Nat) (fun p=>s.size<p.2.1+p.2.2∧p.2.1≤s.size∧40*p.1.length≤p.2.1∧p.1++(allG s p.2.2 p.2.1).1=(allS s).1∧(allG s p.2.2 p.2.1).2=(allS s).2) (fun p=>[(2,.own 0 8 0 p.1.length),(3,intA .i64 p.2.1)]) (fun p=>[.row 8 p.1.length (rI p.1)]) (fun p=>p.2.2) ([],0,s.size+1) ⟨by show s.size<0+(s.size+1); omega,Nat.zero_le _,by simp,rfl,rfl⟩ ?_ (fun _=>rfl) fun ⟨pre,a,m⟩ ⟨h1,h2,h3,h4,h5⟩=> ?_
 ·(refine And.intro ?_ (And.intro ?_ (And.intro ?_ rfl))<;>(conv=>whnf)<;>repeat' (first|exact trivial|exact LeE.of (Le.refl _)|(first|exact rfl|fail)|((with_reducible refine And.intro ?_ ?_)<;>conv=>whnf)))
  exact fun i hi=>absurd hi (Nat.not_lt_zero _)
 ·have h1:s.size<a+m:=h1
  have h2:a≤s.size:=h2
  have h3:40*pre.length≤a:=h3
  have h4:pre++(allG s m a).1=(allS s).1:=h4
  have h5:(allG s m a).2=(allS s).2:=h5
  obtain ⟨m,rfl⟩:∃ k,m=k+1:=⟨m-1,by omega⟩
  have hB:(0:Int)≤(a:Int)∧(a:Int)≤s.size:=by omega
  have hC:(pre.length+1)*(tb 32).bytes≤140737488355328:=by show (pre.length+1)*88≤_; omega
  have G:=aWGetS t s a
  conv=>whnf
  repeat' (first|(refine Exists.intro _ (And.intro (G) ?_); conv=>whnf)|(refine And.intro (fun h=> ?_) (fun h=> ?_)<;>(first|skip)<;>(first|(conv=>whnf)))|((with_reducible refine OwnOr.l ?_); (conv=>whnf))|(refine And.intro ?_ ?_; (focus (first|(first|exact hB|exact hC|fail)|fail)); conv=>whnf)|((with_reducible refine xc_pure ?_); conv=>whnf))
  ·have e:allG s (m+1) a=([],a):=by simp only [allG]; rw [if_pos h]
   rw [e] at h4 h5
   simp only [List.append_nil] at h4
   rw [← h4,← h5]
   refine leTup2 (leSl rfl (fun i hi=>by rw [Nat.zero_add])) (Le.refl _)
  ·have hz:(wGet (tlW s a)).2.2=0:=by simpa using h
   have hsz:(tlW s a).size=s.size-a:=sub_size s a _
   have hu:=wG_used (by rw [hsz]; omega) hz
   rw [hsz] at hu
   have e:allG s (m+1) a=((wGet (tlW s a)).1::(allG s m (a+(wGet (tlW s a)).2.1.toNat)).1,(allG s m (a+(wGet (tlW s a)).2.1.toNat)).2):=by simp only [allG]; rw [h,if_neg (by decide)]
   rw [e] at h4 h5
   have hL:pre.length+1=(pre++[(wGet (tlW s a)).1]).length:=by simp
   have hW:IntKind.i64.wrap ((a:Int)+(wGet (tlW s a)).2.1)=((a+(wGet (tlW s a)).2.1.toNat:Nat):Int):=by rw [wrap64 (by omega) (by omega)]; omega
   refine ⟨(pre++[(wGet (tlW s a)).1],a+(wGet (tlW s a)).2.1.toNat,m),⟨by show s.size<_+_+m; omega,by show _+_≤s.size; omega,by simp; omega,by simpa using h4,h5⟩,?_,by show m<m+1; omega⟩
   (refine And.intro ?_ (And.intro ?_ (And.intro ?_ rfl))<;>(conv=>whnf)<;>repeat' (first|exact trivial|exact LeE.of (Le.refl _)|(with_reducible refine LeE.of ?_)|(first|exact leI hW|exact leOwn hL|exact rfl|fail)|((with_reducible refine And.intro ?_ ?_)<;>conv=>whnf)))
   all_goals first
    | exact hL
    | exact fun i hi=>LeCs.of_eq (rowE_snoc (enc:=cIt) (d:=it0) pre (wGet (tlW s a)).1 pre.length rfl i (by simpa using hi))
theorem allG_len (s:ByteArray)(hs:s.size≤1099511627776):∀ (m a:Nat),a≤s.size→40*(allG s m a).1.length+a≤(allG s m a).2∧(allG s m a).2≤s.size
 | 0,a,h=>by simp only [allG]; exact ⟨by simp,h⟩
 | m+1,a,h=>by
  by_cases hz:((wGet (tlW s a)).2.2 != 0)=true
  ·have e:allG s (m+1) a=([],a):=by simp only [allG]; rw [if_pos hz]
   rw [e]; exact ⟨by simp,h⟩
  ·have hz':(wGet (tlW s a)).2.2=0:=by simpa using hz
   have hsz:(tlW s a).size=s.size-a:=sub_size s a _
   have hu:=wG_used (by rw [hsz]; omega) hz'
   rw [hsz] at hu
   have e:allG s (m+1) a=((wGet (tlW s a)).1::(allG s m (a+(wGet (tlW s a)).2.1.toNat)).1,(allG s m (a+(wGet (tlW s a)).2.1.toNat)).2):=by simp only [allG]; rw [if_neg hz]
   have ih:=allG_len s hs m (a+(wGet (tlW s a)).2.1.toNat) (by omega)
   rw [e]
   refine ⟨?_,ih.2⟩
   have:=ih.1
   show 40*((wGet (tlW s a)).1::(allG s m (a+(wGet (tlW s a)).2.1.toNat)).1).length+a≤_
   rw [List.length_cons]
   omega
def lastI (s:ByteArray):It:=(allS s).1.getD ((allS s).1.length-1) it0
def openB (s:ByteArray) (k:Int):Bool:= !((allS s).1.length==0)&&(lastI s).n==k
theorem aOpen (t:Bool)(s:ByteArray)(k:Int)(hs:s.size≤1099511627776):ACall Tryz.prog gl 41 [.c (.sl t 1 s.size (strCells s)),intA .u64 k] [] (.tup [.ag (cIt (if openB s k then lastI s else it0)),boolA (openB s k)]):=by
 have A:=aAllW t s hs
 have hlen:(allS s).1.length≤140737488355328:=by
  have:=allG_len s hs (s.size+1) 0 (Nat.zero_le _)
  unfold allS
  omega
 generalize hl:(allS s).1=l at A hlen
 generalize (allS s).2=e at A
 have el:lastI s=l.getD (l.length-1) it0:=by unfold lastI; rw [hl]
 have hw:l.length≠0→IntKind.i64.wrap ((l.length:Int)-1)=((l.length-1:Nat):Int):=fun h=>by rw [wrap64 (by omega) (by omega)]; omega
 have hB:((l.length:Int)==0)=false→0≤IntKind.i64.wrap ((l.length:Int)-1)∧IntKind.i64.wrap ((l.length:Int)-1)<l.length:=fun h=>by
  have h0:l.length≠0:=by intro h1; rw [h1] at h; exact absurd h (by decide)
  rw [hw h0]; omega
 have hC:l.length≠0→0≤IntKind.i64.wrap ((l.length:Int)-1)∧IntKind.i64.wrap ((l.length:Int)-1)<l.length:=fun h0=>by rw [hw h0]; omega
 have hB2:∀ {b:Bool},((l.length:Int)==0||b)=false→0≤IntKind.i64.wrap ((l.length:Int)-1)∧IntKind.i64.wrap ((l.length:Int)-1)<l.length:=fun h=>hB (Bool.or_eq_false_iff.1 h).1
 have eo:openB s k= !((l.length:Int)==0||(l.getD (IntKind.i64.wrap ((l.length:Int)-1)).toNat it0).n != k):=by
  unfold openB
  rw [hl,el]
  by_cases h0:l.length=0
  ·have q:((l.length:Int)==0)=true:=by rw [h0]; rfl
   rw [q,h0]; rfl
  ·have q:((l.length:Int)==0)=false:=beq_eq_false_iff_ne.2 (by omega)
   have q':(l.length==0)=false:=beq_eq_false_iff_ne.2 h0
   rw [q,q',hw h0,Int.toNat_natCast]
   unfold bne
   rw [Bool.false_or,Bool.not_not]; rfl
 refine acall_of_vc htb hmix (f:=41) rfl rfl rfl (by kernel_rfl) rfl rfl ?_; conv=>whnf
 repeat' (first|(refine Exists.intro _ (And.intro (A) ?_); conv=>whnf)|(refine And.intro (fun h=> ?_) (fun h=> ?_)<;>(first|skip)<;>(first|(conv=>whnf)))|(refine And.intro ?_ ?_; (focus (first|(first|exact hB2 (by assumption)|exact hB|fail)|fail)); conv=>whnf)|((with_reducible refine xc_pure ?_); conv=>whnf))
 ·rw [eo,h]; exact Le.refl _
 ·rw [eo,h]
  have h0:l.length≠0:=by
   intro h1
   rw [h1] at h
   simp at h
  show Le 0 _ (AV.tup [AV.ag (cIt (lastI s)),boolA true])
  rw [el]
  rw [hw h0,Int.toNat_natCast]
  exact Le.refl _
theorem AtL.tlX {s:ByteArray}{a:Nat}{L:List Int}(h:AtL s a L):AtL (tlW s a) 0 L:=h.sub (by have:=h.1; omega)
theorem CutL.tlX {s:ByteArray}{a:Nat}{L:List Int}(h:CutL s a L):CutL (tlW s a) 0 L:=by
 obtain ⟨h1,h2,h3⟩:=h
 have hsz:(tlW s a).size=s.size-a:=sub_size s a _
 refine ⟨Nat.zero_le _,by omega,fun j hj=> ?_⟩
 rw [hsz] at hj
 rw [Nat.zero_add,tlW,sub_byte s a _ j (by omega)]
 exact h3 j (by omega)
def fmsI:List It→List Int
 | []=>[]
 | i::l=>fmI i++fmsI l
theorem allG_forms (s:ByteArray)(hs:s.size≤1099511627776)(z:It)(hz:okIt z=true):∀ (l:List It) (a m:Nat),(∀ i ∈ l,okIt i=true∧RgIt i)→AtL s a (fmsI l)→CutL s (a+(fmsI l).length) (fmI z)→l.length<m→allG s m a=(l,a+(fmsI l).length)
 | [],a,m,_,_,hc,hm=>by
  obtain ⟨m,rfl⟩:∃ k,m=k+1:=⟨m-1,by omega⟩
  have hsz:(tlW s a).size=s.size-a:=sub_size s a _
  have e:=wG_cut (s:=tlW s a) (by omega) hz (CutL.tlX (by simpa [fmsI] using hc))
  simp only [allG]
  rw [e,if_pos (by decide)]
  simp [fmsI]
 | i::l,a,m,h,hA,hc,hm=>by
  obtain ⟨m,rfl⟩:∃ k,m=k+1:=⟨m-1,by omega⟩
  have hsz:(tlW s a).size=s.size-a:=sub_size s a _
  have hi:=h i (by simp)
  have hA1:AtL s a (fmI i):=AtL.left (B:=fmsI l) hA
  have hA2:AtL s (a+(fmI i).length) (fmsI l):=AtL.right hA
  have e:=wG_back (s:=tlW s a) (by omega) hi.1 hi.2 hA1.tlX
  have el:(fmsI (i::l)).length=(fmI i).length+(fmsI l).length:=by simp [fmsI]
  have eu:a+(40+((inL i).length:Int)).toNat=a+(fmI i).length:=by rw [fmI_len]; omega
  rw [el,← Nat.add_assoc] at hc
  have ih:=allG_forms s hs z hz l (a+(fmI i).length) m (fun x hx=>h x (by simp [hx])) hA2 hc (by simp at hm; omega)
  simp only [allG]
  rw [e,if_neg (by simp)]
  show (i::(allG s m (a+(40+((inL i).length:Int)).toNat)).1,(allG s m (a+(40+((inL i).length:Int)).toNat)).2)=_
  rw [eu,ih,el,Nat.add_assoc]
def i0:It:=⟨3,3,⟨⟨{ data:= #[100,105,115,107] },{ data:= #[97] },0,0,ByteArray.empty⟩,1⟩⟩
end Go.Proofs.YtiodgjgngfklkaaGreatDoor
