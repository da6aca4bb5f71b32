/- Contracts of functions of the program,and the laws that stand on them: what each function answers,whatever its arguments. -/
import Derived.Test.YtiodgjgngfklkaaGreatDoorW1
import Derived.Test.YtiodgjgngfklkaaGreatDoorC13
import Derived.Test.YtiodgjgngfklkaaGreatDoorEr
import Derived.Test.YtiodgjgngfklkaaGreatDoorA3
import Derived.Test.YtiodgjgngfklkaaGreatDoorVw5
import Derived.Test.YtiodgjgngfklkaaGreatDoorVD
import Derived.Test.YtiodgjgngfklkaaGreatDoorX5
import Derived.Test.YtiodgjgngfklkaaGreatDoorE7
set_option linter.all false
set_option maxRecDepth 100000
set_option maxHeartbeats 8000000
namespace Go.Proofs.YtiodgjgngfklkaaGreatDoor
open Go Go.VA
def preM (mg s:ByteArray):Bool:=(bytesOf 4 (fun i=>strCells s (0+i))).toList==mg.toList
theorem aPreM (mg:ByteArray)(t u:Bool)(s:ByteArray)(G:Nat→List C)(hs:4≤s.size)(hG:isBytes 4 G)(hb:bytesOf 4 G=mg):ACall Tryz.prog gl 36 [.c (.sl t 1 s.size (strCells s)),.c (.sl u 1 4 G)] [] (boolA (preM mg s)):=by
 have hq:decide ((s.size:Int)≥((4:Nat):Int))=true:=by simp; omega
 have hB:decide ((s.size:Int)≥((4:Nat):Int))=true→(0:Int)≤((4:Nat):Int)∧((4:Nat):Int)≤s.size:=fun _=>by omega
 have E:=aEqual t u 4 4 (fun i=>strCells s (0+i)) G (isB 4 s (fun i=>0+i)) hG
 rw [hb] at E
 refine acall_of_vc htb hmix (f:=36) rfl rfl rfl (by kernel_rfl) rfl rfl ?_; conv=>whnf
 repeat' (first|((with_reducible refine GOr.l ?_); (conv=>whnf); refine Exists.intro _ (And.intro (chainI (E)) ?_); conv=>whnf)|(refine And.intro ?_ ?_; (focus (first|(first|exact hB|fail)|fail)); conv=>whnf)|fail)
 refine leB ?_
 show (decide ((s.size:Int)≥((4:Nat):Int))&&preM mg s)=preM mg s
 rw [hq,Bool.true_and]
def wrapL (mg L:List Int):List Int:=mg++be4L L.length++sumL (shaA (baL L))++L
theorem wrapL_len (mg L:List Int)(h:mg.length=4):(wrapL mg L).length=40+L.length:=by
 unfold wrapL
 simp only [List.length_append,be4L_len,sumL_len]
 omega
theorem bys_wrap {mg L:List Int}(h1:Bys mg)(h2:Bys L):Bys (wrapL mg L) :=
 bys_app (bys_app (bys_app h1 (bys_bytes 4 _)) (bys_bytes 32 _)) h2
theorem rB_bytesO (n:Nat)(d:Nat→UInt8)(j:Nat)(hj:j<n):[cb (d j)]=rB ((List.range n).map fun j=>((d j).toNat:Int)) j:=by
 show [C.v (.int .u8 ((d j).toNat:Int))]=[C.v (.int .u8 (((List.range n).map fun j=>((d j).toNat:Int)).getD j 0))]
 rw [getD_bys n d j hj]
theorem rB_strO {L:List Int}(hb:Bys L){j:Nat}(hj:j<L.length):rB L j=strCells (baL L) j:=by
 have:=baL_byte hb j hj
 show [C.v (.int .u8 (L.getD j 0))]=[C.v (.int .u8 (byteN (baL L) j))]
 rw [this]
theorem catW {mg L:List Int}{M P S D:Nat→List C}(hm:mg.length=4)(h1:∀ j,j<4→M j=rB mg j)(h2:∀ j,j<4→P j=rB (be4L L.length) j)(h3:∀ j,j<32→S j=rB (sumL (shaA (baL L))) j)(h4:∀ j,j<L.length→D j=rB L j) :
  ∀ i,i<40+L.length→catF 0 (4+4+32) (catF 0 (4+4) (catF 0 4 M P) S) D i=rB (wrapL mg L) i:=by
 intro i hi
 refine catRB (A:=mg++be4L L.length++sumL (shaA (baL L))) ?_ (catRB (A:=mg++be4L L.length) ?_ (catRB (A:=mg) hm.symm (fun j hj=>h1 j (by omega)) (fun j hj=>h2 j (by rw [be4L_len] at hj; exact hj))) (fun j hj=>h3 j (by rw [sumL_len] at hj; exact hj))) h4 i ?_
 ·rw [List.length_append,List.length_append,be4L_len,sumL_len,hm]
 ·rw [List.length_append,be4L_len,hm]
 ·rw [List.length_append,List.length_append,List.length_append,be4L_len,sumL_len,hm]; omega
theorem seKy:StructEq Tryz.prog 30 [8,8,3,3,8,6]:=structEq_of (d:=5) (by kernel_rfl)
theorem aCmp_u32 (x y:Int):ACall Tryz.prog gl 106 [intA .u32 x,intA .u32 y] [] (intA .i64 (cmpI x y)):=by
 refine acall_of_vc htb hmix (f:=106) rfl rfl rfl (by kernel_rfl) rfl rfl ?_; conv=>whnf
 repeat' (first|(refine And.intro (fun h=> ?_) (fun h=> ?_)<;>(first|(with_reducible have hd:_<_:=of_decide_eq_true h)|(with_reducible have hd:¬ (_<_):=of_decide_eq_false h)|skip)<;>(first|(conv=>whnf)))|(refine And.intro ?_ ?_; (focus (first|exact rfl|fail)); conv=>whnf)|((with_reducible refine xc_guard ?_); refine xc_in (f:=137) htb hmix rfl rfl rfl (by kernel_rfl) rfl ?_; intro vs; conv=>whnf)|fail)
 all_goals first
  | (exfalso; simp at *; done)
  | exact leI (by unfold cmpI; simp at *; omega)
theorem aOr5 (a b c d e:Int):ACall Tryz.prog gl 104 [.c (.sl false 1 5 (nthC [[.v (.int .i64 a)],[.v (.int .i64 b)],[.v (.int .i64 c)],[.v (.int .i64 d)],[.v (.int .i64 e)]]))] [] (intA .i64 (orI [a,b,c,d,e])):=by
 refine acall_of_vc htb hmix (f:=104) rfl rfl rfl (by kernel_rfl) rfl rfl ?_; conv=>whnf
 repeat' (fail)
 refine loopN (fun n=>n≤5∧orI ([a,b,c,d,e].drop n)=orI [a,b,c,d,e]) (fun n=>[(8,intA .i64 n)]) (fun _=>[]) 5 (fun _ h=>h.1) 0 ⟨Nat.zero_le _,rfl⟩ ?_ (fun _=>rfl) fun n ⟨hn,hR⟩=> ?_
 ·(refine And.intro ?_ (And.intro ?_ (And.intro ?_ rfl))<;>(conv=>whnf)<;>repeat' (first|exact trivial|exact LeE.of (Le.refl _)|(first|exact rfl|fail)|((with_reducible refine And.intro ?_ ?_)<;>conv=>whnf)))
 ·have hn4:n=0∨n=1∨n=2∨n=3∨n=4∨n=5:=by omega
  rcases hn4 with rfl|rfl|rfl|rfl|rfl|rfl
  ·conv=>whnf
   repeat' (first|(refine And.intro (fun h=> ?_) (fun h=> ?_)<;>(first|(with_reducible have hd:_<_:=of_decide_eq_true h)|(with_reducible have hd:¬ (_<_):=of_decide_eq_false h)|skip)<;>(first|exact absurd h (by decide)|(conv=>whnf)))|(refine And.intro ?_ ?_; (focus (first|(refine chainI ?_; (first|decide|fail))|fail)); conv=>whnf)|fail)
   ·exact leI (by rw [← hR]; simp only [List.drop_succ_cons,List.drop_zero,orI]; rw [if_pos (by assumption)])
   ·refine ⟨1,⟨⟨by decide,?_⟩,by decide⟩,?_⟩
    ·rw [← hR]; simp only [List.drop_succ_cons,List.drop_zero,orI,h,Bool.false_eq_true,↓reduceIte]
    ·(refine And.intro ?_ (And.intro ?_ (And.intro ?_ rfl))<;>(conv=>whnf)<;>repeat' (first|exact trivial|exact LeE.of (Le.refl _)|(first|exact rfl|fail)|((with_reducible refine And.intro ?_ ?_)<;>conv=>whnf)))
  ·conv=>whnf
   repeat' (first|(refine And.intro (fun h=> ?_) (fun h=> ?_)<;>(first|(with_reducible have hd:_<_:=of_decide_eq_true h)|(with_reducible have hd:¬ (_<_):=of_decide_eq_false h)|skip)<;>(first|exact absurd h (by decide)|(conv=>whnf)))|(refine And.intro ?_ ?_; (focus (first|(refine chainI ?_; (first|decide|fail))|fail)); conv=>whnf)|fail)
   ·exact leI (by rw [← hR]; simp only [List.drop_succ_cons,List.drop_zero,orI]; rw [if_pos (by assumption)])
   ·refine ⟨2,⟨⟨by decide,?_⟩,by decide⟩,?_⟩
    ·rw [← hR]; simp only [List.drop_succ_cons,List.drop_zero,orI,h,Bool.false_eq_true,↓reduceIte]
    ·(refine And.intro ?_ (And.intro ?_ (And.intro ?_ rfl))<;>(conv=>whnf)<;>repeat' (first|exact trivial|exact LeE.of (Le.refl _)|(first|exact rfl|fail)|((with_reducible refine And.intro ?_ ?_)<;>conv=>whnf)))
  ·conv=>whnf
   repeat' (first|(refine And.intro (fun h=> ?_) (fun h=> ?_)<;>(first|(with_reducible have hd:_<_:=of_decide_eq_true h)|(with_reducible have hd:¬ (_<_):=of_decide_eq_false h)|skip)<;>(first|exact absurd h (by decide)|(conv=>whnf)))|(refine And.intro ?_ ?_; (focus (first|(refine chainI ?_; (first|decide|fail))|fail)); conv=>whnf)|fail)
   ·exact leI (by rw [← hR]; simp only [List.drop_succ_cons,List.drop_zero,orI]; rw [if_pos (by assumption)])
   ·refine ⟨3,⟨⟨by decide,?_⟩,by decide⟩,?_⟩
    ·rw [← hR]; simp only [List.drop_succ_cons,List.drop_zero,orI,h,Bool.false_eq_true,↓reduceIte]
    ·(refine And.intro ?_ (And.intro ?_ (And.intro ?_ rfl))<;>(conv=>whnf)<;>repeat' (first|exact trivial|exact LeE.of (Le.refl _)|(first|exact rfl|fail)|((with_reducible refine And.intro ?_ ?_)<;>conv=>whnf)))
  ·conv=>whnf
   repeat' (first|(refine And.intro (fun h=> ?_) (fun h=> ?_)<;>(first|(with_reducible have hd:_<_:=of_decide_eq_true h)|(with_reducible have hd:¬ (_<_):=of_decide_eq_false h)|skip)<;>(first|exact absurd h (by decide)|(conv=>whnf)))|(refine And.intro ?_ ?_; (focus (first|(refine chainI ?_; (first|decide|fail))|fail)); conv=>whnf)|fail)
   ·exact leI (by rw [← hR]; simp only [List.drop_succ_cons,List.drop_zero,orI]; rw [if_pos (by assumption)])
   ·refine ⟨4,⟨⟨by decide,?_⟩,by decide⟩,?_⟩
    ·rw [← hR]; simp only [List.drop_succ_cons,List.drop_zero,orI,h,Bool.false_eq_true,↓reduceIte]
    ·(refine And.intro ?_ (And.intro ?_ (And.intro ?_ rfl))<;>(conv=>whnf)<;>repeat' (first|exact trivial|exact LeE.of (Le.refl _)|(first|exact rfl|fail)|((with_reducible refine And.intro ?_ ?_)<;>conv=>whnf)))
  ·conv=>whnf
   repeat' (first|(refine And.intro (fun h=> ?_) (fun h=> ?_)<;>(first|(with_reducible have hd:_<_:=of_decide_eq_true h)|(with_reducible have hd:¬ (_<_):=of_decide_eq_false h)|skip)<;>(first|exact absurd h (by decide)|(conv=>whnf)))|(refine And.intro ?_ ?_; (focus (first|(refine chainI ?_; (first|decide|fail))|fail)); conv=>whnf)|fail)
   ·exact leI (by rw [← hR]; simp only [List.drop_succ_cons,List.drop_zero,orI]; rw [if_pos (by assumption)])
   ·refine ⟨5,⟨⟨by decide,?_⟩,by decide⟩,?_⟩
    ·rw [← hR]; simp only [List.drop_succ_cons,List.drop_zero,orI,h,Bool.false_eq_true,↓reduceIte]
    ·(refine And.intro ?_ (And.intro ?_ (And.intro ?_ rfl))<;>(conv=>whnf)<;>repeat' (first|exact trivial|exact LeE.of (Le.refl _)|(first|exact rfl|fail)|((with_reducible refine And.intro ?_ ?_)<;>conv=>whnf)))
  ·conv=>whnf
   repeat' (first|(refine And.intro (fun h=> ?_) (fun h=> ?_)<;>(first|(with_reducible have hd:_<_:=of_decide_eq_true h)|(with_reducible have hd:¬ (_<_):=of_decide_eq_false h)|fail)<;>(first|exact absurd h (by decide)|(conv=>whnf)))|fail)
   exact leI hR
theorem aOr2 (a b:Int):ACall Tryz.prog gl 104 [.c (.sl false 1 2 (nthC [[.v (.int .i64 a)],[.v (.int .i64 b)]]))] [] (intA .i64 (orI [a,b])):=by
 refine acall_of_vc htb hmix (f:=104) rfl rfl rfl (by kernel_rfl) rfl rfl ?_; conv=>whnf
 repeat' (fail)
 refine loopN (fun n=>n≤2∧orI ([a,b].drop n)=orI [a,b]) (fun n=>[(8,intA .i64 n)]) (fun _=>[]) 2 (fun _ h=>h.1) 0 ⟨Nat.zero_le _,rfl⟩ ?_ (fun _=>rfl) fun n ⟨hn,hR⟩=> ?_
 ·(refine And.intro ?_ (And.intro ?_ (And.intro ?_ rfl))<;>(conv=>whnf)<;>repeat' (first|exact trivial|exact LeE.of (Le.refl _)|(first|exact rfl|fail)|((with_reducible refine And.intro ?_ ?_)<;>conv=>whnf)))
 ·have hn4:n=0∨n=1∨n=2:=by omega
  rcases hn4 with rfl|rfl|rfl
  ·conv=>whnf
   repeat' (first|(refine And.intro (fun h=> ?_) (fun h=> ?_)<;>(first|(with_reducible have hd:_<_:=of_decide_eq_true h)|(with_reducible have hd:¬ (_<_):=of_decide_eq_false h)|skip)<;>(first|exact absurd h (by decide)|(conv=>whnf)))|(refine And.intro ?_ ?_; (focus (first|(refine chainI ?_; (first|decide|fail))|fail)); conv=>whnf)|fail)
   ·exact leI (by rw [← hR]; simp only [List.drop_succ_cons,List.drop_zero,orI]; rw [if_pos (by assumption)])
   ·refine ⟨1,⟨⟨by decide,?_⟩,by decide⟩,?_⟩
    ·rw [← hR]; simp only [List.drop_succ_cons,List.drop_zero,orI,h,Bool.false_eq_true,↓reduceIte]
    ·(refine And.intro ?_ (And.intro ?_ (And.intro ?_ rfl))<;>(conv=>whnf)<;>repeat' (first|exact trivial|exact LeE.of (Le.refl _)|(first|exact rfl|fail)|((with_reducible refine And.intro ?_ ?_)<;>conv=>whnf)))
  ·conv=>whnf
   repeat' (first|(refine And.intro (fun h=> ?_) (fun h=> ?_)<;>(first|(with_reducible have hd:_<_:=of_decide_eq_true h)|(with_reducible have hd:¬ (_<_):=of_decide_eq_false h)|skip)<;>(first|exact absurd h (by decide)|(conv=>whnf)))|(refine And.intro ?_ ?_; (focus (first|(refine chainI ?_; (first|decide|fail))|fail)); conv=>whnf)|fail)
   ·exact leI (by rw [← hR]; simp only [List.drop_succ_cons,List.drop_zero,orI]; rw [if_pos (by assumption)])
   ·refine ⟨2,⟨⟨by decide,?_⟩,by decide⟩,?_⟩
    ·rw [← hR]; simp only [List.drop_succ_cons,List.drop_zero,orI,h,Bool.false_eq_true,↓reduceIte]
    ·(refine And.intro ?_ (And.intro ?_ (And.intro ?_ rfl))<;>(conv=>whnf)<;>repeat' (first|exact trivial|exact LeE.of (Le.refl _)|(first|exact rfl|fail)|((with_reducible refine And.intro ?_ ?_)<;>conv=>whnf)))
  ·conv=>whnf
   repeat' (first|(refine And.intro (fun h=> ?_) (fun h=> ?_)<;>(first|(with_reducible have hd:_<_:=of_decide_eq_true h)|(with_reducible have hd:¬ (_<_):=of_decide_eq_false h)|fail)<;>(first|exact absurd h (by decide)|(conv=>whnf)))|fail)
   exact leI hR
def cmpAd (a b:Ad):Int:=orI [cmpS a.t b.t,cmpS a.n b.n,cmpI a.k b.k,cmpI a.i b.i,cmpS a.s b.s]
def cmpKy (a b:Ky):Int:=orI [cmpAd a.a b.a,cmpI a.n b.n]
def lessAd (a b:Ad):Bool:=decide (cmpAd a b<0)
def lessKy (a b:Ky):Bool:=decide (cmpKy a b<0)
theorem aCmpAd (a b:Ad):ACall Tryz.prog gl 105 [.ag (cAd a),.ag (cAd b)] [] (intA .i64 (cmpAd a b)):=by
 refine acall_of_vc htb hmix (f:=105) rfl rfl rfl (by kernel_rfl) rfl rfl ?_; conv=>whnf
 repeat' (first|(refine Exists.intro _ (And.intro (chainI (aCmp_s _ _)) ?_); conv=>whnf)|(refine Exists.intro _ (And.intro (chainI (aCmp_int _ _)) ?_); conv=>whnf)|(refine Exists.intro _ (And.intro (chainI (aCmp_int64 _ _)) ?_); conv=>whnf)|(refine Exists.intro _ (And.intro (chainI (aOr5 _ _ _ _ _)) ?_); conv=>whnf)|((with_reducible refine DOr.l ?_); (conv=>whnf))|fail)
 exact Le.refl _
theorem aCmpKy (a b:Ky):ACall Tryz.prog gl 79 [.ag (cKy a),.ag (cKy b)] [] (intA .i64 (cmpKy a b)):=by
 refine acall_of_vc htb hmix (f:=79) rfl rfl rfl (by kernel_rfl) rfl rfl ?_; conv=>whnf
 repeat' (first|(refine Exists.intro _ (And.intro (chainI (aCmpAd a.a b.a)) ?_); conv=>whnf)|(refine Exists.intro _ (And.intro (chainI (aCmp_u32 _ _)) ?_); conv=>whnf)|(refine Exists.intro _ (And.intro (chainI (aOr2 _ _)) ?_); conv=>whnf)|((with_reducible refine DOr.l ?_); (conv=>whnf))|fail)
 exact Le.refl _
theorem aLessAd (a b:Ad):ACall Tryz.prog gl 85 [.ag (cAd a),.ag (cAd b)] [] (boolA (lessAd a b)):=by
 refine acall_of_vc htb hmix (f:=85) rfl rfl rfl (by kernel_rfl) rfl rfl ?_; conv=>whnf
 repeat' (first|(refine Exists.intro _ (And.intro (aCmpAd a b) ?_); conv=>whnf)|((with_reducible refine xc_pure ?_); conv=>whnf))
 exact leB rfl
theorem aLessKy (a b:Ky):ACall Tryz.prog gl 49 [.ag (cKy a),.ag (cKy b)] [] (boolA (lessKy a b)):=by
 refine acall_of_vc htb hmix (f:=49) rfl rfl rfl (by kernel_rfl) rfl rfl ?_; conv=>whnf
 repeat' (first|(refine Exists.intro _ (And.intro (aCmpKy a b) ?_); conv=>whnf)|((with_reducible refine xc_pure ?_); conv=>whnf))
 exact leB rfl
structure En where
 y:Ky
 v:V
 t:Bool
 u:Bool
 d:List Ad
structure St where
 a:Int
 s:Int
 l:List En
def ad0:Ad:=⟨ByteArray.empty,ByteArray.empty,0,0,ByteArray.empty⟩
def en0:En:=⟨ky0,V.z,false,false,[]⟩
abbrev rA (l:List Ad):Nat→List C:=rowE cAd ad0 l
abbrev cEn (e:En):List C:=cKy e.y++(cV e.v++[.v (.bool e.t),.v (.bool e.u),.sl false 5 e.d.length (rA e.d)])
abbrev rE (l:List En):Nat→List C:=rowE cEn en0 l
abbrev cSt (s:St):List C:=[.v (.int .u64 s.a),.v (.int .u64 s.s),.sl false 17 s.l.length (rE s.l)]
def allQ (q:Nat→Bool) (n:Nat):Bool:=(List.range n).all q
theorem allQ_f {q:Nat→Bool}{n c:Nat}(hc:c<n)(h:q c=false):allQ q n=false:=by
 unfold allQ
 rw [List.all_eq_false]
 exact ⟨c,by simpa using hc,by simp [h]⟩
theorem allQ_t {q:Nat→Bool}{n:Nat}(h:∀ j,j<n→q j=true):allQ q n=true:=by
 unfold allQ
 rw [List.all_eq_true]
 exact fun j hj=>h j (by simpa using hj)
theorem allQ_at {q:Nat→Bool}{n:Nat}(h:allQ q n=true)(j:Nat)(hj:j<n):q j=true:=by
 unfold allQ at h
 rw [List.all_eq_true] at h
 exact h j (by simpa using hj)
theorem next_q {q:Nat→Bool}{c:Nat}(hp:∀ j,j<c→q j=true)(h:q c=true):∀ j,j<c+1→q j=true:=fun j hj=>by
 rcases Nat.lt_or_ge j c with h2|h2
 ·exact hp j h2
 ·obtain rfl:j=c:=by omega
  exact h
def depQ (l:List Ad) (j:Nat):Bool:=okAd (l.getD j ad0)&& !(decide ((j:Int)>0)&& !lessAd (l.getD (IntKind.i64.wrap ((j:Int)-1)).toNat ad0) (l.getD j ad0))
def depsB (l:List Ad):Bool:=allQ (depQ l) l.length&&decide (l.length≤24)
theorem ckA (b:Bool):((if b=true then (0:Int) else 1) != 0)= !b:=by cases b<;>rfl
theorem depQ_eq (l:List Ad)(c:Nat)(b:Bool)(h:((if okAd (l.getD c ad0)=true then (0:Int) else 1) != 0||decide ((c:Int)>0)&& !lessAd (l.getD (IntKind.i64.wrap ((c:Int)-1)).toNat ad0) (l.getD c ad0))=b):depQ l c= !b:=by
 rw [ckA] at h
 unfold depQ
 subst h
 cases okAd (l.getD c ad0)<;>cases decide ((c:Int)>0)<;>cases lessAd (l.getD (IntKind.i64.wrap ((c:Int)-1)).toNat ad0) (l.getD c ad0)<;>rfl
theorem pos_ix {c n:Nat}(hc:c<n)(hn:n≤140737488355328)(h:(c:Int)>0):0≤IntKind.i64.wrap ((c:Int)-1)∧IntKind.i64.wrap ((c:Int)-1)<n:=by
 rw [wrap64 (by omega) (by omega)]; omega
theorem depsB_f {l:List Ad}{c:Nat}(hc:c<l.length)(h:depQ l c=false):depsB l=false:=by unfold depsB; rw [allQ_f hc h]; rfl
theorem depsB_t {l:List Ad}(h:∀ j,j<l.length→depQ l j=true):depsB l=decide (l.length≤24):=by unfold depsB; rw [allQ_t h]; rfl
theorem len24 (n:Nat):decide ((n:Int)≤24)=decide (n≤24):=decide_eq_decide.2 (by omega)
theorem aDeps (t:Bool)(l:List Ad):ACall Tryz.prog gl 51 [.c (.sl t 5 l.length (rA l))] [] (boolA (depsB l)):=by
 refine acall_of_vcb htb hmix (f:=51) rfl rfl rfl (by kernel_rfl) rfl rfl fun hb=> ?_; simp only [bndAll,AV.bnd,bnds,C.bnd,cVt,cS,true_and,and_true] at hb; conv=>whnf
 have hn:l.length≤140737488355328:=hb.1
 repeat' (fail)
 refine loopI Nat (fun c=>c≤l.length∧∀ j,j<c→depQ l j=true) (fun c=>[(7,intA .i64 c)]) (fun _=>[]) (fun c=>l.length-c) 0 ⟨Nat.zero_le _,fun j hj=>absurd hj (Nat.not_lt_zero _)⟩ ?_ (fun _=>rfl) fun c ⟨hc,hp⟩=> ?_
 ·(refine And.intro ?_ (And.intro ?_ (And.intro ?_ rfl))<;>(conv=>whnf)<;>repeat' (first|exact trivial|exact LeE.of (Le.refl _)|(first|exact rfl|fail)|((with_reducible refine And.intro ?_ ?_)<;>conv=>whnf)))
 ·by_cases hcl:c<l.length
  ·have hC:(0:Int)≤(c:Int)∧(c:Int)<(l.length:Int):=by omega
   have hM:=fun h=>pos_ix hcl hn h
   have CA:=aCheckA (l.getD c ad0)
   have LS:=aLessAd (l.getD (IntKind.i64.wrap ((c:Int)-1)).toNat ad0) (l.getD c ad0)
   conv=>whnf
   repeat' (first|(refine Exists.intro _ (And.intro (chainI (CA)) ?_); conv=>whnf)|(refine Exists.intro _ (And.intro (chainI (LS)) ?_); conv=>whnf)|(refine And.intro (fun h=> ?_) (fun h=> ?_)<;>(first|(with_reducible have hd:_<_:=of_decide_eq_true h)|(with_reducible have hd:¬ (_<_):=of_decide_eq_false h)|skip)<;>(first|omega|(conv=>whnf)))|((with_reducible refine DOg.l ?_); (conv=>whnf))|(refine And.intro ?_ ?_; (focus (first|(first|exact hC|fail)|((conv=>whnf); intros; (try simp only [decide_eq_true_eq,decide_eq_false_iff_not,Bool.and_eq_true,Bool.or_eq_true,Bool.and_eq_false_imp,Bool.or_eq_false_iff,Bool.not_eq_true',Bool.not_eq_false',beq_iff_eq,bne_iff_ne,ne_eq] at *); (first|(first|exact hM (by assumption)|fail)|fail)))); conv=>whnf)|fail)
   ·exact leB (depsB_f hcl (depQ_eq l c true h)).symm
   ·refine ⟨c+1,⟨hcl,next_q hp (depQ_eq l c false h)⟩,?_,by omega⟩
    (refine And.intro ?_ (And.intro ?_ (And.intro ?_ rfl))<;>(conv=>whnf)<;>repeat' (first|exact trivial|exact LeE.of (Le.refl _)|(with_reducible refine LeE.of ?_)|(first|exact rfl|exact leI (by first|rfl|(rw [wrap64 (by omega) (by omega)]; omega)|fail)|fail)|((with_reducible refine And.intro ?_ ?_)<;>conv=>whnf)))
  ·obtain rfl:c=l.length:=by omega
   conv=>whnf
   repeat' (first|(refine And.intro (fun h=> ?_) (fun h=> ?_)<;>(first|(with_reducible have hd:_<_:=of_decide_eq_true h)|(with_reducible have hd:¬ (_<_):=of_decide_eq_false h)|fail)<;>(first|omega|(conv=>whnf)))|fail)
   exact leB (by rw [depsB_t hp]; exact len24 _)
def stB (e:En):Bool:=checkR e.v&&known e.v&&(if e.v.k==0 then (e.t||e.u)&& !e.v.sec&&tyL.any (eqs e.y.a.t) else finR e.y.a.t e.v==0)
theorem aStored (e:En):ACall Tryz.prog gl 50 [.ag (cEn e)] [] (boolA (stB e)):=by
 have P:=aCheck false false e.v
 rw [checkV_if] at P
 have KN:=aKnown e.v false false
 have C:=aConS false tyL e.y.a.t
 have F:=aFinalP false false e.y.a.t e.v
 rw [fin_law] at F
 refine acall_of_vc htb hmix (f:=50) rfl rfl rfl (by kernel_rfl) rfl rfl ?_; conv=>whnf
 repeat' (first|(refine Exists.intro _ (And.intro (P) ?_); conv=>whnf)|((with_reducible refine GOr.l ?_); (conv=>whnf); refine Exists.intro _ (And.intro (chainI (KN)) ?_); conv=>whnf)|(refine Exists.intro _ (And.intro (chainI (aTypes)) ?_); conv=>whnf)|(refine Exists.intro _ (And.intro (chainI (C)) ?_); conv=>whnf)|(refine Exists.intro _ (And.intro (F) ?_); conv=>whnf)|(refine And.intro (fun h=> ?_) (fun h=> ?_)<;>(first|skip)<;>(first|(conv=>whnf)))|((with_reducible refine DOg.l ?_); (conv=>whnf))|((with_reducible refine xc_pure ?_); conv=>whnf))
 ·rw [ckA] at h
  refine leB ?_
  unfold stB
  revert h
  cases checkR e.v<;>cases known e.v<;>simp
 ·rename_i h1
  rw [ckA] at h1
  refine leB ?_
  unfold stB
  rw [h]
  revert h1
  cases checkR e.v<;>cases known e.v<;>simp
 ·rename_i h1
  rw [ckA] at h1
  refine leB ?_
  unfold stB
  rw [h]
  revert h1
  cases checkR e.v<;>cases known e.v<;>simp
def okEn (e:En):Bool:=okKy e.y&&stB e&&depsB e.d
def stQ (l:List En) (j:Nat):Bool:=okEn (l.getD j en0)&& !(decide ((j:Int)>0)&& !lessKy (l.getD (IntKind.i64.wrap ((j:Int)-1)).toNat en0).y (l.getD j en0).y)
def okSt (s:St):Bool:= !(decide (s.s>4611686018427387904)||decide ((s.l.length:Int)>64))&&allQ (stQ s.l) s.l.length
theorem stQ_eq (l:List En)(c:Nat)(b:Bool)(h:((if okKy (l.getD c en0).y=true then (0:Int) else 1) != 0||decide ((c:Int)>0)&& !lessKy (l.getD (IntKind.i64.wrap ((c:Int)-1)).toNat en0).y (l.getD c en0).y|| !stB (l.getD c en0)|| !depsB (l.getD c en0).d)=b):stQ l c= !b:=by
 rw [ckA] at h
 unfold stQ okEn
 subst h
 cases okKy (l.getD c en0).y<;>cases decide ((c:Int)>0)<;>cases lessKy (l.getD (IntKind.i64.wrap ((c:Int)-1)).toNat en0).y (l.getD c en0).y<;>cases stB (l.getD c en0)<;>cases depsB (l.getD c en0).d<;>rfl
theorem okSt_h {s:St}(h:(decide (s.s>4611686018427387904)||decide ((s.l.length:Int)>64))=true):okSt s=false:=by unfold okSt; rw [h]; rfl
theorem okSt_f {s:St}{c:Nat}(hc:c<s.l.length)(h:stQ s.l c=false):okSt s=false:=by unfold okSt; rw [allQ_f hc h,Bool.and_false]
theorem okSt_t {s:St}(h0:(decide (s.s>4611686018427387904)||decide ((s.l.length:Int)>64))=false)(h:∀ j,j<s.l.length→stQ s.l j=true):okSt s=true:=by unfold okSt; rw [h0,allQ_t h]; rfl
theorem aCheckS (s:St):ACall Tryz.prog gl 24 [.ag (cSt s)] [] (intA .i64 (if okSt s then 0 else 1)):=by
 refine acall_of_vcb htb hmix (f:=24) rfl rfl rfl (by kernel_rfl) rfl rfl fun hb=> ?_; simp only [bndAll,AV.bnd,bnds,C.bnd,cVt,cS,true_and,and_true] at hb; conv=>whnf
 have hn:s.l.length≤140737488355328:=hb.1
 repeat' (first|(refine And.intro (fun h=> ?_) (fun h=> ?_)<;>(first|skip)<;>(first|(conv=>whnf)))|fail)
 ·exact leI (by rw [okSt_h h]; rfl)
 ·have h0:=h
  refine loopI Nat (fun c=>c≤s.l.length∧∀ j,j<c→stQ s.l j=true) (fun c=>[(17,intA .i64 c)]) (fun _=>[.box ((cSt s).map .c)]) (fun c=>s.l.length-c) 0 ⟨Nat.zero_le _,fun j hj=>absurd hj (Nat.not_lt_zero _)⟩ ?_ (fun _=>rfl) fun c ⟨hc,hp⟩=> ?_
  ·(refine And.intro ?_ (And.intro ?_ (And.intro ?_ rfl))<;>(conv=>whnf)<;>repeat' (first|exact trivial|exact LeE.of (Le.refl _)|(first|exact rfl|fail)|((with_reducible refine And.intro ?_ ?_)<;>conv=>whnf)))
  ·by_cases hcl:c<s.l.length
   ·have hC:(0:Int)≤(c:Int)∧(c:Int)<(s.l.length:Int):=by omega
    have hM:=fun h=>pos_ix hcl hn h
    have CK:=aCheckK (s.l.getD c en0).y
    have LS:=aLessKy (s.l.getD (IntKind.i64.wrap ((c:Int)-1)).toNat en0).y (s.l.getD c en0).y
    have SS:=aStored (s.l.getD c en0)
    have DD:=aDeps false (s.l.getD c en0).d
    conv=>whnf
    repeat' (first|(refine Exists.intro _ (And.intro (chainI (CK)) ?_); conv=>whnf)|(refine Exists.intro _ (And.intro (chainI (LS)) ?_); conv=>whnf)|(refine Exists.intro _ (And.intro (chainI (SS)) ?_); conv=>whnf)|(refine Exists.intro _ (And.intro (chainI (DD)) ?_); conv=>whnf)|(refine And.intro (fun h=> ?_) (fun h=> ?_)<;>(first|(with_reducible have hd:_<_:=of_decide_eq_true h)|(with_reducible have hd:¬ (_<_):=of_decide_eq_false h)|skip)<;>(first|omega|(conv=>whnf)))|((with_reducible refine DOg.l ?_); (conv=>whnf))|(refine And.intro ?_ ?_; (focus (first|(first|exact hC|fail)|((conv=>whnf); intros; (try simp only [decide_eq_true_eq,decide_eq_false_iff_not,Bool.and_eq_true,Bool.or_eq_true,Bool.and_eq_false_imp,Bool.or_eq_false_iff,Bool.not_eq_true',Bool.not_eq_false',beq_iff_eq,bne_iff_ne,ne_eq] at *); (first|(first|exact hM (by assumption)|fail)|fail)))); conv=>whnf)|fail)
    ·exact leI (by rw [okSt_f hcl (stQ_eq s.l c true h)]; rfl)
    ·refine ⟨c+1,⟨hcl,next_q hp (stQ_eq s.l c false h)⟩,?_,by omega⟩
     (refine And.intro ?_ (And.intro ?_ (And.intro ?_ rfl))<;>(conv=>whnf)<;>repeat' (first|exact trivial|exact LeE.of (Le.refl _)|(with_reducible refine LeE.of ?_)|(first|exact rfl|exact leI (by first|rfl|(rw [wrap64 (by omega) (by omega)]; omega)|fail)|fail)|((with_reducible refine And.intro ?_ ?_)<;>conv=>whnf)))
   ·obtain rfl:c=s.l.length:=by omega
    conv=>whnf
    repeat' (first|(refine And.intro (fun h=> ?_) (fun h=> ?_)<;>(first|(with_reducible have hd:_<_:=of_decide_eq_true h)|(with_reducible have hd:¬ (_<_):=of_decide_eq_false h)|fail)<;>(first|omega|(conv=>whnf)))|fail)
    exact leI (by rw [okSt_t h0 hp]; rfl)
abbrev cSu (v:Bool) (s:St):List C:=[.v (.int .u64 s.a),.v (.int .u64 s.s),.sl v 17 s.l.length (rE s.l)]
theorem aCheckSu (v:Bool)(s:St):ACall Tryz.prog gl 24 [.ag (cSu v s)] [] (intA .i64 (if okSt s then 0 else 1)):=by
 refine acall_of_vcb htb hmix (f:=24) rfl rfl rfl (by kernel_rfl) rfl rfl fun hb=> ?_; simp only [bndAll,AV.bnd,bnds,C.bnd,cVt,cS,true_and,and_true] at hb; conv=>whnf
 have hn:s.l.length≤140737488355328:=hb.1
 repeat' (first|(refine And.intro (fun h=> ?_) (fun h=> ?_)<;>(first|skip)<;>(first|(conv=>whnf)))|fail)
 ·exact leI (by rw [okSt_h h]; rfl)
 ·have h0:=h
  refine loopI Nat (fun c=>c≤s.l.length∧∀ j,j<c→stQ s.l j=true) (fun c=>[(17,intA .i64 c)]) (fun _=>[.box ((cSu v s).map .c)]) (fun c=>s.l.length-c) 0 ⟨Nat.zero_le _,fun j hj=>absurd hj (Nat.not_lt_zero _)⟩ ?_ (fun _=>rfl) fun c ⟨hc,hp⟩=> ?_
  ·(refine And.intro ?_ (And.intro ?_ (And.intro ?_ rfl))<;>(conv=>whnf)<;>repeat' (first|exact trivial|exact LeE.of (Le.refl _)|(first|exact rfl|fail)|((with_reducible refine And.intro ?_ ?_)<;>conv=>whnf)))
  ·by_cases hcl:c<s.l.length
   ·have hC:(0:Int)≤(c:Int)∧(c:Int)<(s.l.length:Int):=by omega
    have hM:=fun h=>pos_ix hcl hn h
    have CK:=aCheckK (s.l.getD c en0).y
    have LS:=aLessKy (s.l.getD (IntKind.i64.wrap ((c:Int)-1)).toNat en0).y (s.l.getD c en0).y
    have SS:=aStored (s.l.getD c en0)
    have DD:=aDeps false (s.l.getD c en0).d
    conv=>whnf
    repeat' (first|(refine Exists.intro _ (And.intro (chainI (CK)) ?_); conv=>whnf)|(refine Exists.intro _ (And.intro (chainI (LS)) ?_); conv=>whnf)|(refine Exists.intro _ (And.intro (chainI (SS)) ?_); conv=>whnf)|(refine Exists.intro _ (And.intro (chainI (DD)) ?_); conv=>whnf)|(refine And.intro (fun h=> ?_) (fun h=> ?_)<;>(first|(with_reducible have hd:_<_:=of_decide_eq_true h)|(with_reducible have hd:¬ (_<_):=of_decide_eq_false h)|skip)<;>(first|omega|(conv=>whnf)))|((with_reducible refine DOg.l ?_); (conv=>whnf))|(refine And.intro ?_ ?_; (focus (first|(first|exact hC|fail)|((conv=>whnf); intros; (try simp only [decide_eq_true_eq,decide_eq_false_iff_not,Bool.and_eq_true,Bool.or_eq_true,Bool.and_eq_false_imp,Bool.or_eq_false_iff,Bool.not_eq_true',Bool.not_eq_false',beq_iff_eq,bne_iff_ne,ne_eq] at *); (first|(first|exact hM (by assumption)|fail)|fail)))); conv=>whnf)|fail)
    ·exact leI (by rw [okSt_f hcl (stQ_eq s.l c true h)]; rfl)
    ·refine ⟨c+1,⟨hcl,next_q hp (stQ_eq s.l c false h)⟩,?_,by omega⟩
     (refine And.intro ?_ (And.intro ?_ (And.intro ?_ rfl))<;>(conv=>whnf)<;>repeat' (first|exact trivial|exact LeE.of (Le.refl _)|(with_reducible refine LeE.of ?_)|(first|exact rfl|exact leI (by first|rfl|(rw [wrap64 (by omega) (by omega)]; omega)|fail)|fail)|((with_reducible refine And.intro ?_ ?_)<;>conv=>whnf)))
   ·obtain rfl:c=s.l.length:=by omega
    conv=>whnf
    repeat' (first|(refine And.intro (fun h=> ?_) (fun h=> ?_)<;>(first|(with_reducible have hd:_<_:=of_decide_eq_true h)|(with_reducible have hd:¬ (_<_):=of_decide_eq_false h)|fail)<;>(first|omega|(conv=>whnf)))|fail)
    exact leI (by rw [okSt_t h0 hp]; rfl)
end Go.Proofs.YtiodgjgngfklkaaGreatDoor
