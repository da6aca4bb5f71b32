/- What functions of the program answer,whatever their arguments. -/
import Derived.Test.YtaecnniddhikbaaGreatDoorW1
import Derived.Test.YtaecnniddhikbaaGreatDoorC13
import Derived.Test.YtaecnniddhikbaaGreatDoorEr
import Derived.Test.YtaecnniddhikbaaGreatDoorA3
import Derived.Test.YtaecnniddhikbaaGreatDoorVw5
import Derived.Test.YtaecnniddhikbaaGreatDoorVD
import Derived.Test.YtaecnniddhikbaaGreatDoorX5
import Derived.Test.YtaecnniddhikbaaGreatDoorE7
set_option linter.unusedSectionVars false
set_option linter.unnecessarySimpa false
set_option linter.unusedSimpArgs false
set_option linter.unusedVariables false
set_option maxRecDepth 100000
set_option maxHeartbeats 8000000
namespace Go.Proofs.YtaecnniddhikbaaGreatDoor
open Go Go.VA
def preM (mg s:ByteArray):Bool:=(bytesOf 4 (fun i=>strCells s (0+i))).toList==mg.toList
theorem aPreM (mg:ByteArray)(t u:Bool)(s:ByteArray)(G:Nat→List C)(hs:4≤s.size)(hG:isBytes 4 G)(hb:bytesOf 4 G=mg):ACall Tryz.prog gl 36 [.c (.sl t 1 s.size (strCells s)),.c (.sl u 1 4 G)] [] (boolA (preM mg s)):=by
 have hq:decide ((s.size:Int)≥((4:Nat):Int))=true:=by simp; omega
 have hB:decide ((s.size:Int)≥((4:Nat):Int))=true→(0:Int)≤((4:Nat):Int)∧((4:Nat):Int)≤s.size:=fun _=>by omega
 have E:=aEqual t u 4 4 (fun i=>strCells s (0+i)) G (isB 4 s (fun i=>0+i)) hG
 rw [hb] at E
 refine acall_of_vc htb hmix (f:=36) rfl rfl rfl (by kernel_rfl) rfl rfl ?_; conv=>whnf
 repeat' (first|((with_reducible refine GOr.l ?_); (conv=>whnf); refine Exists.intro _ (And.intro (chainI (E)) ?_); conv=>whnf)|(refine And.intro ?_ ?_; (focus (first|(first|exact hB|fail)|fail)); conv=>whnf)|fail)
 refine leB ?_
 show (decide ((s.size:Int)≥((4:Nat):Int))&&preM mg s)=preM mg s
 rw [hq,Bool.true_and]
def wrapL (mg L:List Int):List Int:=mg++be4L L.length++sumL (shaA (baL L))++L
theorem wrapL_len (mg L:List Int)(h:mg.length=4):(wrapL mg L).length=40+L.length:=by
 unfold wrapL
 simp only [List.length_append,be4L_len,sumL_len]
 omega
theorem bys_wrap {mg L:List Int}(h1:Bys mg)(h2:Bys L):Bys (wrapL mg L) :=
 bys_app (bys_app (bys_app h1 (bys_bytes 4 _)) (bys_bytes 32 _)) h2
theorem rB_bytesO (n:Nat)(d:Nat→UInt8)(j:Nat)(hj:j<n):[cb (d j)]=rB ((List.range n).map fun j=>((d j).toNat:Int)) j:=by
 show [C.v (.int .u8 ((d j).toNat:Int))]=[C.v (.int .u8 (((List.range n).map fun j=>((d j).toNat:Int)).getD j 0))]
 rw [getD_bys n d j hj]
theorem rB_strO {L:List Int}(hb:Bys L){j:Nat}(hj:j<L.length):rB L j=strCells (baL L) j:=by
 have:=baL_byte hb j hj
 show [C.v (.int .u8 (L.getD j 0))]=[C.v (.int .u8 (byteN (baL L) j))]
 rw [this]
theorem aShaL (t:Bool)(L:List Int)(F:Nat→List C)(hb:Bys L)(hF:∀ j,j<L.length→F j=rB L j)(hL:L.length≤140737488355000):ACall Tryz.prog gl 20 [.c (.sl t 1 L.length F)] [] (.ag (sumC (shaA (baL L)))):=by
 refine (aShaR t (baL L) (by rw [baL_size]; omega)).le ⟨leSl (by rw [baL_size]) fun j hj=> ?_,trivial⟩
 rw [baL_size] at hj
 rw [hF j hj,rB_strO hb hj]
theorem catW {mg L:List Int}{M P S D:Nat→List C}(hm:mg.length=4)(h1:∀ j,j<4→M j=rB mg j)(h2:∀ j,j<4→P j=rB (be4L L.length) j)(h3:∀ j,j<32→S j=rB (sumL (shaA (baL L))) j)(h4:∀ j,j<L.length→D j=rB L j) :
  ∀ i,i<40+L.length→catF 0 (4+4+32) (catF 0 (4+4) (catF 0 4 M P) S) D i=rB (wrapL mg L) i:=by
 intro i hi
 refine catRB (A:=mg++be4L L.length++sumL (shaA (baL L))) ?_ (catRB (A:=mg++be4L L.length) ?_ (catRB (A:=mg) hm.symm (fun j hj=>h1 j (by omega)) (fun j hj=>h2 j (by rw [be4L_len] at hj; exact hj))) (fun j hj=>h3 j (by rw [sumL_len] at hj; exact hj))) h4 i ?_
 ·rw [List.length_append,List.length_append,be4L_len,sumL_len,hm]
 ·rw [List.length_append,be4L_len,hm]
 ·rw [List.length_append,List.length_append,List.length_append,be4L_len,sumL_len,hm]; omega
theorem gWrapG (mg:ByteArray)(h4:mg.size=4)(t:Bool)(L:List Int)(F:Nat→List C)(hF:∀ j,j<L.length→F j=rB L j)(hb:Bys L)(hL:L.length≤1000000000):GCall Tryz.prog gl 33 [] [.c (.v (.string mg)),.c (.sl t 1 L.length F)] [.row 1 (wrapL (bytesL mg) L).length (rB (wrapL (bytesL mg) L))] [.own 0 1 0 (wrapL (bytesL mg) L).length]:=by
 have S:=aShaL t L F hb hF (by omega)
 have w1:IntKind.u64.wrap (L.length:Int)=L.length:=wrapU (by omega) (by omega)
 have FF:=aForm L.length 4 (by omega) (by decide)
 rw [← w1] at FF
 have hl:(wrapL (bytesL mg) L).length=40+L.length:=wrapL_len _ _ (by rw [bytesL_len]; exact h4)
 rw [hl]
 have BB:∀ m:Nat,m≤1000001000→m*(tb 5).bytes≤140737488355328:=fun m h=>by show m*1≤_; omega
 have B1:=BB (mg.size+4) (by omega)
 have B2:=BB (mg.size+4+32) (by omega)
 have B3:=BB (mg.size+4+32+L.length) (by omega)
 refine gcall_of_vcb htb hmix (f:=33) rfl rfl rfl (by kernel_rfl) rfl rfl rfl fun hb hb2=> ?_; simp only [bndOs,bndO,gbnds,AV.gbnd,bnds,C.bnd,true_and,and_true] at hb hb2; conv=>whnf
 repeat' (first|(refine Exists.intro _ (And.intro (S) ?_); conv=>whnf)|(refine Exists.intro _ (And.intro (FF) ?_); conv=>whnf)|((with_reducible refine NilOr.l ?_); conv=>whnf)|((with_reducible refine FzOr.l ?_); conv=>whnf)|((with_reducible refine OwnOr.r ?_); (conv=>whnf))|(refine And.intro ?_ ?_; (focus (first|exact rfl|(first|exact B1|exact B2|exact B3|fail)|(first|omega|fail)|fail)); conv=>whnf)|((with_reducible refine xc_pure ?_); conv=>whnf))
 all_goals (try ((conv=>whnf); repeat' (first|exact trivial|exact rfl|((with_reducible refine And.intro ?_ ?_)<;>conv=>whnf))))
 all_goals try first
  | (rw [h4]; done)
  | omega
 refine fun i hi=>LeCs.of_eq ?_
 rw [h4]
 refine catW (by rw [bytesL_len]; exact h4) (fun j hj=> ?_) (fun j hj=> ?_) (fun j hj=> ?_) hF i (by first|exact hi|fail)
 ·rw [strCells_eq mg _ (by omega)]
 ·exact rB_bytesO 4 _ j hj
 ·show [nthCC (sumC (shaA (baL L))) (0+j)]=_
  rw [Nat.zero_add,← arr_sumC,nthCC_arr _ _ _ hj]
  exact rB_bytesO 32 _ j hj
end Go.Proofs.YtaecnniddhikbaaGreatDoor
namespace Go.Proofs.YtaecnniddhikbaaGreatDoor
open Go Go.VA
theorem seAd:StructEq Tryz.prog 56 [8,8,3,3,8]:=structEq_of (d:=5) (by kernel_rfl)
theorem seKy:StructEq Tryz.prog 59 [8,8,3,3,8,6]:=structEq_of (d:=5) (by kernel_rfl)
theorem aCmp_u32 (x y:Int):ACall Tryz.prog gl 129 [intA .u32 x,intA .u32 y] [] (intA .i64 (cmpI x y)):=by
 refine acall_of_vc htb hmix (f:=129) rfl rfl rfl (by kernel_rfl) rfl rfl ?_; conv=>whnf
 repeat' (first|(refine And.intro (fun h=> ?_) (fun h=> ?_)<;>(first|(with_reducible have hd:_<_:=of_decide_eq_true h)|(with_reducible have hd:¬ (_<_):=of_decide_eq_false h)|skip)<;>(first|(conv=>whnf)))|(refine And.intro ?_ ?_; (focus (first|exact rfl|fail)); conv=>whnf)|((with_reducible refine xc_guard ?_); refine xc_in (f:=152) htb hmix rfl rfl rfl (by kernel_rfl) rfl ?_; intro vs; conv=>whnf)|fail)
 all_goals first
  | (exfalso; simp at *; done)
  | exact leI (by unfold cmpI; simp at *; omega)
theorem aOr5 (a b c d e:Int):ACall Tryz.prog gl 127 [.c (.sl false 1 5 (nthC [[.v (.int .i64 a)],[.v (.int .i64 b)],[.v (.int .i64 c)],[.v (.int .i64 d)],[.v (.int .i64 e)]]))] [] (intA .i64 (orI [a,b,c,d,e])):=by
 refine acall_of_vc htb hmix (f:=127) rfl rfl rfl (by kernel_rfl) rfl rfl ?_; conv=>whnf
 repeat' (fail)
 refine loopN (fun n=>n≤5∧orI ([a,b,c,d,e].drop n)=orI [a,b,c,d,e]) (fun n=>[(8,intA .i64 n)]) (fun _=>[]) 5 (fun _ h=>h.1) 0 ⟨Nat.zero_le _,rfl⟩ ?_ (fun _=>rfl) fun n ⟨hn,hR⟩=> ?_
 ·(refine And.intro ?_ (And.intro ?_ (And.intro ?_ rfl))<;>(conv=>whnf)<;>repeat' (first|exact trivial|exact LeE.of (Le.refl _)|(first|exact rfl|fail)|((with_reducible refine And.intro ?_ ?_)<;>conv=>whnf)))
 ·have hn4:n=0∨n=1∨n=2∨n=3∨n=4∨n=5:=by omega
  rcases hn4 with rfl|rfl|rfl|rfl|rfl|rfl
  ·conv=>whnf
   repeat' (first|(refine And.intro (fun h=> ?_) (fun h=> ?_)<;>(first|(with_reducible have hd:_<_:=of_decide_eq_true h)|(with_reducible have hd:¬ (_<_):=of_decide_eq_false h)|skip)<;>(first|exact absurd h (by decide)|(conv=>whnf)))|(refine And.intro ?_ ?_; (focus (first|(refine chainI ?_; (first|decide|fail))|fail)); conv=>whnf)|fail)
   ·exact leI (by rw [← hR]; simp only [List.drop_succ_cons,List.drop_zero,orI]; rw [if_pos (by assumption)])
   ·refine ⟨1,⟨⟨by decide,?_⟩,by decide⟩,?_⟩
    ·rw [← hR]; simp only [List.drop_succ_cons,List.drop_zero,orI,h,Bool.false_eq_true,↓reduceIte]
    ·(refine And.intro ?_ (And.intro ?_ (And.intro ?_ rfl))<;>(conv=>whnf)<;>repeat' (first|exact trivial|exact LeE.of (Le.refl _)|(first|exact rfl|fail)|((with_reducible refine And.intro ?_ ?_)<;>conv=>whnf)))
  ·conv=>whnf
   repeat' (first|(refine And.intro (fun h=> ?_) (fun h=> ?_)<;>(first|(with_reducible have hd:_<_:=of_decide_eq_true h)|(with_reducible have hd:¬ (_<_):=of_decide_eq_false h)|skip)<;>(first|exact absurd h (by decide)|(conv=>whnf)))|(refine And.intro ?_ ?_; (focus (first|(refine chainI ?_; (first|decide|fail))|fail)); conv=>whnf)|fail)
   ·exact leI (by rw [← hR]; simp only [List.drop_succ_cons,List.drop_zero,orI]; rw [if_pos (by assumption)])
   ·refine ⟨2,⟨⟨by decide,?_⟩,by decide⟩,?_⟩
    ·rw [← hR]; simp only [List.drop_succ_cons,List.drop_zero,orI,h,Bool.false_eq_true,↓reduceIte]
    ·(refine And.intro ?_ (And.intro ?_ (And.intro ?_ rfl))<;>(conv=>whnf)<;>repeat' (first|exact trivial|exact LeE.of (Le.refl _)|(first|exact rfl|fail)|((with_reducible refine And.intro ?_ ?_)<;>conv=>whnf)))
  ·conv=>whnf
   repeat' (first|(refine And.intro (fun h=> ?_) (fun h=> ?_)<;>(first|(with_reducible have hd:_<_:=of_decide_eq_true h)|(with_reducible have hd:¬ (_<_):=of_decide_eq_false h)|skip)<;>(first|exact absurd h (by decide)|(conv=>whnf)))|(refine And.intro ?_ ?_; (focus (first|(refine chainI ?_; (first|decide|fail))|fail)); conv=>whnf)|fail)
   ·exact leI (by rw [← hR]; simp only [List.drop_succ_cons,List.drop_zero,orI]; rw [if_pos (by assumption)])
   ·refine ⟨3,⟨⟨by decide,?_⟩,by decide⟩,?_⟩
    ·rw [← hR]; simp only [List.drop_succ_cons,List.drop_zero,orI,h,Bool.false_eq_true,↓reduceIte]
    ·(refine And.intro ?_ (And.intro ?_ (And.intro ?_ rfl))<;>(conv=>whnf)<;>repeat' (first|exact trivial|exact LeE.of (Le.refl _)|(first|exact rfl|fail)|((with_reducible refine And.intro ?_ ?_)<;>conv=>whnf)))
  ·conv=>whnf
   repeat' (first|(refine And.intro (fun h=> ?_) (fun h=> ?_)<;>(first|(with_reducible have hd:_<_:=of_decide_eq_true h)|(with_reducible have hd:¬ (_<_):=of_decide_eq_false h)|skip)<;>(first|exact absurd h (by decide)|(conv=>whnf)))|(refine And.intro ?_ ?_; (focus (first|(refine chainI ?_; (first|decide|fail))|fail)); conv=>whnf)|fail)
   ·exact leI (by rw [← hR]; simp only [List.drop_succ_cons,List.drop_zero,orI]; rw [if_pos (by assumption)])
   ·refine ⟨4,⟨⟨by decide,?_⟩,by decide⟩,?_⟩
    ·rw [← hR]; simp only [List.drop_succ_cons,List.drop_zero,orI,h,Bool.false_eq_true,↓reduceIte]
    ·(refine And.intro ?_ (And.intro ?_ (And.intro ?_ rfl))<;>(conv=>whnf)<;>repeat' (first|exact trivial|exact LeE.of (Le.refl _)|(first|exact rfl|fail)|((with_reducible refine And.intro ?_ ?_)<;>conv=>whnf)))
  ·conv=>whnf
   repeat' (first|(refine And.intro (fun h=> ?_) (fun h=> ?_)<;>(first|(with_reducible have hd:_<_:=of_decide_eq_true h)|(with_reducible have hd:¬ (_<_):=of_decide_eq_false h)|skip)<;>(first|exact absurd h (by decide)|(conv=>whnf)))|(refine And.intro ?_ ?_; (focus (first|(refine chainI ?_; (first|decide|fail))|fail)); conv=>whnf)|fail)
   ·exact leI (by rw [← hR]; simp only [List.drop_succ_cons,List.drop_zero,orI]; rw [if_pos (by assumption)])
   ·refine ⟨5,⟨⟨by decide,?_⟩,by decide⟩,?_⟩
    ·rw [← hR]; simp only [List.drop_succ_cons,List.drop_zero,orI,h,Bool.false_eq_true,↓reduceIte]
    ·(refine And.intro ?_ (And.intro ?_ (And.intro ?_ rfl))<;>(conv=>whnf)<;>repeat' (first|exact trivial|exact LeE.of (Le.refl _)|(first|exact rfl|fail)|((with_reducible refine And.intro ?_ ?_)<;>conv=>whnf)))
  ·conv=>whnf
   repeat' (first|(refine And.intro (fun h=> ?_) (fun h=> ?_)<;>(first|(with_reducible have hd:_<_:=of_decide_eq_true h)|(with_reducible have hd:¬ (_<_):=of_decide_eq_false h)|fail)<;>(first|exact absurd h (by decide)|(conv=>whnf)))|fail)
   exact leI hR
theorem aOr2 (a b:Int):ACall Tryz.prog gl 127 [.c (.sl false 1 2 (nthC [[.v (.int .i64 a)],[.v (.int .i64 b)]]))] [] (intA .i64 (orI [a,b])):=by
 refine acall_of_vc htb hmix (f:=127) rfl rfl rfl (by kernel_rfl) rfl rfl ?_; conv=>whnf
 repeat' (fail)
 refine loopN (fun n=>n≤2∧orI ([a,b].drop n)=orI [a,b]) (fun n=>[(8,intA .i64 n)]) (fun _=>[]) 2 (fun _ h=>h.1) 0 ⟨Nat.zero_le _,rfl⟩ ?_ (fun _=>rfl) fun n ⟨hn,hR⟩=> ?_
 ·(refine And.intro ?_ (And.intro ?_ (And.intro ?_ rfl))<;>(conv=>whnf)<;>repeat' (first|exact trivial|exact LeE.of (Le.refl _)|(first|exact rfl|fail)|((with_reducible refine And.intro ?_ ?_)<;>conv=>whnf)))
 ·have hn4:n=0∨n=1∨n=2:=by omega
  rcases hn4 with rfl|rfl|rfl
  ·conv=>whnf
   repeat' (first|(refine And.intro (fun h=> ?_) (fun h=> ?_)<;>(first|(with_reducible have hd:_<_:=of_decide_eq_true h)|(with_reducible have hd:¬ (_<_):=of_decide_eq_false h)|skip)<;>(first|exact absurd h (by decide)|(conv=>whnf)))|(refine And.intro ?_ ?_; (focus (first|(refine chainI ?_; (first|decide|fail))|fail)); conv=>whnf)|fail)
   ·exact leI (by rw [← hR]; simp only [List.drop_succ_cons,List.drop_zero,orI]; rw [if_pos (by assumption)])
   ·refine ⟨1,⟨⟨by decide,?_⟩,by decide⟩,?_⟩
    ·rw [← hR]; simp only [List.drop_succ_cons,List.drop_zero,orI,h,Bool.false_eq_true,↓reduceIte]
    ·(refine And.intro ?_ (And.intro ?_ (And.intro ?_ rfl))<;>(conv=>whnf)<;>repeat' (first|exact trivial|exact LeE.of (Le.refl _)|(first|exact rfl|fail)|((with_reducible refine And.intro ?_ ?_)<;>conv=>whnf)))
  ·conv=>whnf
   repeat' (first|(refine And.intro (fun h=> ?_) (fun h=> ?_)<;>(first|(with_reducible have hd:_<_:=of_decide_eq_true h)|(with_reducible have hd:¬ (_<_):=of_decide_eq_false h)|skip)<;>(first|exact absurd h (by decide)|(conv=>whnf)))|(refine And.intro ?_ ?_; (focus (first|(refine chainI ?_; (first|decide|fail))|fail)); conv=>whnf)|fail)
   ·exact leI (by rw [← hR]; simp only [List.drop_succ_cons,List.drop_zero,orI]; rw [if_pos (by assumption)])
   ·refine ⟨2,⟨⟨by decide,?_⟩,by decide⟩,?_⟩
    ·rw [← hR]; simp only [List.drop_succ_cons,List.drop_zero,orI,h,Bool.false_eq_true,↓reduceIte]
    ·(refine And.intro ?_ (And.intro ?_ (And.intro ?_ rfl))<;>(conv=>whnf)<;>repeat' (first|exact trivial|exact LeE.of (Le.refl _)|(first|exact rfl|fail)|((with_reducible refine And.intro ?_ ?_)<;>conv=>whnf)))
  ·conv=>whnf
   repeat' (first|(refine And.intro (fun h=> ?_) (fun h=> ?_)<;>(first|(with_reducible have hd:_<_:=of_decide_eq_true h)|(with_reducible have hd:¬ (_<_):=of_decide_eq_false h)|fail)<;>(first|exact absurd h (by decide)|(conv=>whnf)))|fail)
   exact leI hR
def cmpAd (a b:Ad):Int:=orI [cmpS a.t b.t,cmpS a.n b.n,cmpI a.k b.k,cmpI a.i b.i,cmpS a.s b.s]
def cmpKy (a b:Ky):Int:=orI [cmpAd a.a b.a,cmpI a.n b.n]
def lessAd (a b:Ad):Bool:=decide (cmpAd a b<0)
def lessKy (a b:Ky):Bool:=decide (cmpKy a b<0)
theorem aCmpAd (a b:Ad):ACall Tryz.prog gl 128 [.ag (cAd a),.ag (cAd b)] [] (intA .i64 (cmpAd a b)):=by
 refine acall_of_vc htb hmix (f:=128) rfl rfl rfl (by kernel_rfl) rfl rfl ?_; conv=>whnf
 repeat' (first|(refine Exists.intro _ (And.intro (chainI (aCmp_s _ _)) ?_); conv=>whnf)|(refine Exists.intro _ (And.intro (chainI (aCmp_int _ _)) ?_); conv=>whnf)|(refine Exists.intro _ (And.intro (chainI (aCmp_int64 _ _)) ?_); conv=>whnf)|(refine Exists.intro _ (And.intro (chainI (aOr5 _ _ _ _ _)) ?_); conv=>whnf)|((with_reducible refine DOr.l ?_); (conv=>whnf))|fail)
 exact Le.refl _
theorem aCmpKy (a b:Ky):ACall Tryz.prog gl 100 [.ag (cKy a),.ag (cKy b)] [] (intA .i64 (cmpKy a b)):=by
 refine acall_of_vc htb hmix (f:=100) rfl rfl rfl (by kernel_rfl) rfl rfl ?_; conv=>whnf
 repeat' (first|(refine Exists.intro _ (And.intro (chainI (aCmpAd a.a b.a)) ?_); conv=>whnf)|(refine Exists.intro _ (And.intro (chainI (aCmp_u32 _ _)) ?_); conv=>whnf)|(refine Exists.intro _ (And.intro (chainI (aOr2 _ _)) ?_); conv=>whnf)|((with_reducible refine DOr.l ?_); (conv=>whnf))|fail)
 exact Le.refl _
theorem aLessKy (a b:Ky):ACall Tryz.prog gl 65 [.ag (cKy a),.ag (cKy b)] [] (boolA (lessKy a b)):=by
 refine acall_of_vc htb hmix (f:=65) rfl rfl rfl (by kernel_rfl) rfl rfl ?_; conv=>whnf
 repeat' (first|(refine Exists.intro _ (And.intro (aCmpKy a b) ?_); conv=>whnf)|((with_reducible refine xc_pure ?_); conv=>whnf))
 exact leB rfl
def lessAdR (a b:Ad):Bool :=
 if !(a.t.toList==b.t.toList) then Op.bytesLess a.t.toList b.t.toList
 else if !(a.n.toList==b.n.toList) then Op.bytesLess a.n.toList b.n.toList
 else if a.k != b.k then decide (a.k<b.k)
 else if a.i != b.i then decide (a.i<b.i)
 else Op.bytesLess a.s.toList b.s.toList
theorem cmpS_lt (x y:ByteArray):decide (cmpS x y<0)=Op.bytesLess x.toList y.toList:=by
 unfold cmpS
 split
 ·rename_i h; rw [h]; rfl
 ·rename_i h
  have h:Op.bytesLess x.toList y.toList=false:=by simpa using h
  rw [h]; split<;>rfl
theorem cmpS_ne (x y:ByteArray):(cmpS x y != 0)= !(x.toList==y.toList):=by
 unfold cmpS
 split
 ·rename_i h
  cases he:(x.toList==y.toList)
  ·rfl
  ·rw [beq_iff_eq] at he
   rw [he,bytesLess_irr] at h
   exact absurd h (by decide)
 ·rename_i h
  have h:Op.bytesLess x.toList y.toList=false:=by simpa using h
  rw [h,Bool.false_or]
  cases he:(x.toList==y.toList)<;>rfl
theorem cmpI_lt (x y:Int):decide (cmpI x y<0)=decide (x<y):=by
 unfold cmpI
 rw [decide_eq_decide]
 split
 ·omega
 ·split<;>omega
theorem cmpI_ne (x y:Int):(cmpI x y != 0)=(x != y):=by
 unfold cmpI
 rw [Bool.eq_iff_iff,bne_iff_ne,bne_iff_ne]
 split
 ·omega
 ·split<;>omega
theorem or_lt (x:Int)(l:List Int):decide (orI (x::l)<0)=if x != 0 then decide (x<0) else decide (orI l<0):=by
 simp only [orI]
 split<;>rfl
theorem lessAd_eq (a b:Ad):lessAdR a b=lessAd a b:=by
 unfold lessAdR lessAd cmpAd
 rw [or_lt,or_lt,or_lt,or_lt,or_lt,cmpS_ne,cmpS_ne,cmpI_ne,cmpI_ne,cmpS_lt,cmpS_lt,cmpS_lt,cmpI_lt,cmpI_lt,cmpS_ne]
 cases he:(a.s.toList==b.s.toList)
 ·rfl
 ·rw [beq_iff_eq] at he
  rw [he,bytesLess_irr]
  rfl
theorem aLessAdR (a b:Ad):ACall Tryz.prog gl 111 [.ag (cAd a),.ag (cAd b)] [] (boolA (lessAd a b)):=by
 rw [← lessAd_eq]
 refine acall_of_vc htb hmix (f:=111) rfl rfl rfl (by kernel_rfl) rfl rfl ?_; conv=>whnf
 repeat' (first|(refine And.intro (fun h=> ?_) (fun h=> ?_)<;>(first|skip)<;>(first|(conv=>whnf)))|fail)
 all_goals
  refine leB ?_
  unfold lessAdR
  simp only [*,Bool.false_eq_true,↓reduceIte,Bool.not_true,Bool.not_false]
def eqAd (a b:Ad):Bool:=a.t==b.t&&(a.n==b.n&&(a.k==b.k&&(a.i==b.i&&a.s==b.s)))
theorem eqAd_iff {a b:Ad}:eqAd a b=true ↔ a=b:=by
 unfold eqAd
 simp only [Bool.and_eq_true,ba_beq,beq_iff_eq]
 constructor
 ·rintro ⟨h1,h2,h3,h4,h5⟩
  obtain ⟨t,n,k,i,s⟩:=a
  obtain ⟨t',n',k',i',s'⟩:=b
  simp only at h1 h2 h3 h4 h5
  rw [h1,h2,h3,h4,h5]
 ·rintro rfl; exact ⟨rfl,rfl,rfl,rfl,rfl⟩
theorem cmpAd_0 {a b:Ad}:cmpAd a b=0 ↔ a=b:=by
 constructor
 ·intro h
  have h:=orI_0 h
  have e (x y:ByteArray) (h:cmpS x y=0):x=y:=by
   have:=cmpS_ne x y
   rw [h] at this
   have:(x.toList==y.toList)=true:=by simpa using this.symm
   exact toL_inj (eq_of_beq this)
  obtain ⟨t,n,k,i,s⟩:=a
  obtain ⟨t',n',k',i',s'⟩:=b
  rw [e _ _ (h (cmpS t t') (by simp)),e _ _ (h (cmpS n n') (by simp)),cmpI_0 (h (cmpI k k') (by simp)),cmpI_0 (h (cmpI i i') (by simp)),e _ _ (h (cmpS s s') (by simp))]
 ·rintro rfl
  unfold cmpAd
  rw [cmpS_self,cmpS_self,cmpS_self]
  simp [cmpI,orI]
def lessKyR (a b:Ky):Bool:=if !eqAd a.a b.a then lessAd a.a b.a else decide (a.n<b.n)
theorem lessKy_eq (a b:Ky):lessKyR a b=lessKy a b:=by
 unfold lessKyR lessKy cmpKy
 rw [or_lt,or_lt,cmpI_ne,cmpI_lt]
 by_cases h:a.a=b.a
 ·rw [eqAd_iff.2 h,cmpAd_0.2 h]
  simp only [Bool.not_true,Bool.false_eq_true,if_false,bne_self_eq_false]
  by_cases hn:a.n=b.n
  ·rw [hn]; simp [orI]
  ·have:(a.n != b.n)=true:=by simpa using hn
   rw [this]; rfl
 ·have e1:eqAd a.a b.a=false:=by rw [Bool.eq_false_iff]; exact fun hh=>h (eqAd_iff.1 hh)
  have e2:(cmpAd a.a b.a != 0)=true:=by rw [bne_iff_ne]; exact fun hh=>h (cmpAd_0.1 hh)
  rw [e1,e2]; rfl
theorem aLessKyR (a b:Ky):ACall Tryz.prog gl 77 [.ag (cKy a),.ag (cKy b)] [] (boolA (lessKy a b)):=by
 rw [← lessKy_eq]
 refine acall_of_vc htb hmix (f:=77) rfl rfl rfl (by kernel_rfl) rfl rfl ?_; conv=>whnf
 repeat' (first|(refine Exists.intro _ (And.intro (aLessAdR a.a b.a) ?_); conv=>whnf)|(refine And.intro (fun h=> ?_) (fun h=> ?_)<;>(first|skip)<;>(first|(conv=>whnf)))|(refine And.intro ?_ ?_; (focus (first|(first|exact seAd|fail)|fail)); conv=>whnf)|((with_reducible refine xc_pure ?_); conv=>whnf))
 all_goals
  refine leB ?_
  unfold lessKyR eqAd
  simp only [*,Bool.false_eq_true,↓reduceIte,Bool.not_true,Bool.not_false]
end Go.Proofs.YtaecnniddhikbaaGreatDoor
namespace Go.Proofs.YtaecnniddhikbaaGreatDoor
open Go Go.VA
structure En where
 y:Ky
 v:V
 t:Bool
 u:Bool
 d:List Ad
structure St where
 a:Int
 s:Int
 l:List En
def allQ (q:Nat→Bool) (n:Nat):Bool:=(List.range n).all q
theorem allQ_f {q:Nat→Bool}{n c:Nat}(hc:c<n)(h:q c=false):allQ q n=false:=by
 unfold allQ
 rw [List.all_eq_false]
 exact ⟨c,by simpa using hc,by simp [h]⟩
theorem allQ_t {q:Nat→Bool}{n:Nat}(h:∀ j,j<n→q j=true):allQ q n=true:=by
 unfold allQ
 rw [List.all_eq_true]
 exact fun j hj=>h j (by simpa using hj)
theorem allQ_at {q:Nat→Bool}{n:Nat}(h:allQ q n=true)(j:Nat)(hj:j<n):q j=true:=by
 unfold allQ at h
 rw [List.all_eq_true] at h
 exact h j (by simpa using hj)
theorem next_q {q:Nat→Bool}{c:Nat}(hp:∀ j,j<c→q j=true)(h:q c=true):∀ j,j<c+1→q j=true:=fun j hj=>by
 rcases Nat.lt_or_ge j c with h2|h2
 ·exact hp j h2
 ·obtain rfl:j=c:=by omega
  exact h
theorem ckA (b:Bool):((if b=true then (0:Int) else 1) != 0)= !b:=by cases b<;>rfl
theorem pos_ix {c n:Nat}(hc:c<n)(hn:n≤140737488355328)(h:(c:Int)>0):0≤IntKind.i64.wrap ((c:Int)-1)∧IntKind.i64.wrap ((c:Int)-1)<n:=by
 rw [wrap64 (by omega) (by omega)]; omega
end Go.Proofs.YtaecnniddhikbaaGreatDoor
namespace Go.Proofs.YtaecnniddhikbaaGreatDoor
open Go Go.VA
end Go.Proofs.YtaecnniddhikbaaGreatDoor
