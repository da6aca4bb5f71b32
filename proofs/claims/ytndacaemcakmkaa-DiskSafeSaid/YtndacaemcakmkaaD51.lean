/- Contracts of functions of the program,and the laws that stand on them: what each function answers,whatever its arguments. -/
import Derived.Test.YtndacaemcakmkaaD49
import Derived.Test.YtndacaemcakmkaaD9
import Derived.Test.YtndacaemcakmkaaVD
import Derived.ChangeMaps5
import Derived.Carry
set_option linter.unusedSectionVars false
set_option linter.unnecessarySimpa false
set_option linter.unusedSimpArgs false
set_option linter.unusedVariables false
set_option maxRecDepth 100000
set_option maxHeartbeats 8000000
namespace Go.Proofs.Ytndacaemcakmkaa
open Go Go.VA Go.RowKit
def bigA (a:Ac):Bool:=decide ((a.b.size:Int)>2000)||decide ((a.nm.size:Int)>200)||decide ((a.to.size:Int)>200)
def grB (n:Nat) (A:Nat→Ac):Bool:=(List.range (min n 60)).any fun i=>bigA (A i)
theorem grB_t {n:Nat} {A:Nat→Ac} {c:Nat} (h1:c<n) (h2:c<60) (h:bigA (A c)=true):grB n A=true:=by
 unfold grB
 rw [List.any_eq_true]
 exact ⟨c,by simp; omega,h⟩
theorem grB_f {n:Nat} {A:Nat→Ac} (h:∀ j,j<n→j<60→bigA (A j)=false):grB n A=false:=by
 unfold grB
 rw [List.any_eq_false]
 intro j hj
 have:j<min n 60:=by simpa using hj
 rw [h j (by omega) (by omega)]
 simp
theorem aGreat (t:Bool) (n:Nat) (A:Nat→Ac) (f:Nat→List C) (hf:∀ i,i<n→f i=cAc (A i)):ACall Try.prog gl 6 [.c (.sl t 5 n f)] [] (boolA (grB n A)):=by
 refine acall_of_vc htb hmix (f:=6) rfl rfl rfl (by kernel_rfl) rfl rfl ?_; conv=>whnf
 repeat' (first|(refine And.intro (fun h=> ?_) (fun h=> ?_)<;>(first|(with_reducible have hd:_<_:=of_decide_eq_true h)|(with_reducible have hd:_≤_:=of_decide_eq_true h)|(with_reducible have hd:¬ (_<_):=of_decide_eq_false h)|(with_reducible have hd:¬ (_≤_):=of_decide_eq_false h)|skip)<;>(first|exact absurd h (by decide)|(first|exact Bool.noConfusion (hq.symm.trans h)|exact Bool.noConfusion (hq2.symm.trans h))|(conv=>whnf)))|((with_reducible refine Both.mk ?_ ?_)<;>conv=>whnf)|((with_reducible refine DOg.l ?_); (conv=>whnf))|((with_reducible refine DOr.l ?_); (conv=>whnf))|((with_reducible refine NilOr.l ?_); conv=>whnf)|((with_reducible refine FzOr.l ?_); conv=>whnf)|((with_reducible refine MinOr.l ?_); conv=>whnf)|((with_reducible refine OwnOr.l ?_); (conv=>whnf))|(refine And.intro ?_ ?_; (focus (first|exact trivial|exact rfl|(first|exact isb0 _|exact isbS _|exact hB _ (by omega)|exact hK|assumption)|(refine chainI ?_; (first|(first|exact isb0 _|exact isbS _|exact hB _ (by omega)|exact hK|assumption)|decide|omega|(refine And.intro ?_ ?_<;>first|omega|(simp; omega))|(simp only [IntKind.wrap_i64]; first|omega|(refine And.intro ?_ ?_<;>omega))))|(intro _; (first|(first|exact isb0 _|exact isbS _|exact hB _ (by omega)|exact hK|assumption)|decide|omega|(refine And.intro ?_ ?_<;>first|omega|(simp; omega))|(simp only [IntKind.wrap_i64]; first|omega|(refine And.intro ?_ ?_<;>omega))))|(intro _ _; (first|(first|exact isb0 _|exact isbS _|exact hB _ (by omega)|exact hK|assumption)|decide|omega|(refine And.intro ?_ ?_<;>first|omega|(simp; omega))|(simp only [IntKind.wrap_i64]; first|omega|(refine And.intro ?_ ?_<;>omega))))|(first|decide|omega|(refine And.intro ?_ ?_<;>first|omega|(simp; omega))|(simp only [IntKind.wrap_i64]; first|omega|(refine And.intro ?_ ?_<;>omega)))|((conv=>whnf); intros; (try simp only [decide_eq_true_eq,decide_eq_false_iff_not,Bool.and_eq_true,Bool.or_eq_true,Bool.and_eq_false_imp,Bool.or_eq_false_iff,Bool.not_eq_true',Bool.not_eq_false',beq_iff_eq,bne_iff_ne,ne_eq] at *); (first|(first|exact isb0 _|exact isbS _|exact hB _ (by omega)|exact hK|assumption)|decide|omega|(refine And.intro ?_ ?_<;>first|omega|(simp; omega))|(simp only [IntKind.wrap_i64]; first|omega|(refine And.intro ?_ ?_<;>omega)))))); conv=>whnf)|(refine And.intro ?_ ?_; (focus (first|exact NoTag.int|exact NoTag.bool|exact NoTag.str|(refine NoTag.of_scalar ?_; rfl))); conv=>whnf))
 refine loopI Nat (fun c=>(c≤n∧c≤60)∧∀ j,j<c→bigA (A j)=false) (fun c=>[(3,intA .i64 c)]) (fun _=>[]) (fun c=>n-c) 0 ⟨⟨Nat.zero_le _,Nat.zero_le _⟩,fun j hj=>absurd hj (Nat.not_lt_zero _)⟩ ?_ (fun _=>rfl) fun c ⟨⟨hc,hc2⟩,hj⟩=> ?_
 ·(refine And.intro ?_ (And.intro ?_ (And.intro ?_ rfl))<;>(conv=>whnf)<;>repeat' (first|exact trivial|exact LeE.of (Le.refl _)|exact LeE.nil rfl|(with_reducible refine LeE.of ?_)|(first|fail|exact Le.refl _|exact rfl|exact leI (by first|rfl|omega|(rw [wrap64 (by omega) (by omega)]; omega)|(rw [wrap64 (by omega) (by omega)]; done))|exact LeCs.refl _|exact fun i hi=>LeCs.refl _|exact leOwn (by first|rfl|omega))|((with_reducible refine And.intro ?_ ?_)<;>conv=>whnf)))
 ·by_cases hcl:c<n∧c<60
  ·have ec:f ((c:Int)).toNat=cAc (A c):=hf c hcl.1
   have hK:0≤(c:Int)∧(c:Int)<(n:Int):=by omega
   have hq:(decide ((c:Int)<(n:Int))&&decide ((c:Int)<60))=true:=by simp; omega
   conv=>whnf
   repeat' (first|(rw [ec]; conv=>whnf)|(refine And.intro (fun h=> ?_) (fun h=> ?_)<;>(first|(with_reducible have hd:_<_:=of_decide_eq_true h)|(with_reducible have hd:_≤_:=of_decide_eq_true h)|(with_reducible have hd:¬ (_<_):=of_decide_eq_false h)|(with_reducible have hd:¬ (_≤_):=of_decide_eq_false h)|skip)<;>(first|exact absurd h (by decide)|(first|exact Bool.noConfusion (hq.symm.trans h)|exact Bool.noConfusion (hq2.symm.trans h))|(conv=>whnf)))|((with_reducible refine Both.mk ?_ ?_)<;>conv=>whnf)|((with_reducible refine DOg.l ?_); (conv=>whnf))|((with_reducible refine DOr.l ?_); (conv=>whnf))|((with_reducible refine NilOr.l ?_); conv=>whnf)|((with_reducible refine FzOr.l ?_); conv=>whnf)|((with_reducible refine MinOr.l ?_); conv=>whnf)|((with_reducible refine OwnOr.l ?_); (conv=>whnf))|(refine And.intro ?_ ?_; (focus (first|exact trivial|exact rfl|(first|exact isb0 _|exact isbS _|exact hB _ (by omega)|exact hK|assumption)|(refine chainI ?_; (first|(first|exact isb0 _|exact isbS _|exact hB _ (by omega)|exact hK|assumption)|decide|omega|(refine And.intro ?_ ?_<;>first|omega|(simp; omega))|(simp only [IntKind.wrap_i64]; first|omega|(refine And.intro ?_ ?_<;>omega))))|(intro _; (first|(first|exact isb0 _|exact isbS _|exact hB _ (by omega)|exact hK|assumption)|decide|omega|(refine And.intro ?_ ?_<;>first|omega|(simp; omega))|(simp only [IntKind.wrap_i64]; first|omega|(refine And.intro ?_ ?_<;>omega))))|(intro _ _; (first|(first|exact isb0 _|exact isbS _|exact hB _ (by omega)|exact hK|assumption)|decide|omega|(refine And.intro ?_ ?_<;>first|omega|(simp; omega))|(simp only [IntKind.wrap_i64]; first|omega|(refine And.intro ?_ ?_<;>omega))))|(first|decide|omega|(refine And.intro ?_ ?_<;>first|omega|(simp; omega))|(simp only [IntKind.wrap_i64]; first|omega|(refine And.intro ?_ ?_<;>omega)))|((conv=>whnf); intros; (try simp only [decide_eq_true_eq,decide_eq_false_iff_not,Bool.and_eq_true,Bool.or_eq_true,Bool.and_eq_false_imp,Bool.or_eq_false_iff,Bool.not_eq_true',Bool.not_eq_false',beq_iff_eq,bne_iff_ne,ne_eq] at *); (first|(first|exact isb0 _|exact isbS _|exact hB _ (by omega)|exact hK|assumption)|decide|omega|(refine And.intro ?_ ?_<;>first|omega|(simp; omega))|(simp only [IntKind.wrap_i64]; first|omega|(refine And.intro ?_ ?_<;>omega)))))); conv=>whnf)|(refine And.intro ?_ ?_; (focus (first|exact NoTag.int|exact NoTag.bool|exact NoTag.str|(refine NoTag.of_scalar ?_; rfl))); conv=>whnf))
   ·exact Go.VA.leB (grB_t hcl.1 hcl.2 h).symm
   ·refine ⟨c+1,⟨⟨hcl.1,hcl.2⟩,fun j hj2=> ?_⟩,?_,by show n-(c+1)<n-c; omega⟩
    ·rcases Nat.lt_or_ge j c with h2|h2
     ·exact hj j h2
     ·obtain rfl:j=c:=by omega
      exact h
    ·(refine And.intro ?_ (And.intro ?_ (And.intro ?_ rfl))<;>(conv=>whnf)<;>repeat' (first|exact trivial|exact LeE.of (Le.refl _)|exact LeE.nil rfl|(with_reducible refine LeE.of ?_)|(first|fail|exact Le.refl _|exact rfl|exact leI (by first|rfl|omega|(rw [wrap64 (by omega) (by omega)]; omega)|(rw [wrap64 (by omega) (by omega)]; done))|exact LeCs.refl _|exact fun i hi=>LeCs.refl _|exact leOwn (by first|rfl|omega))|((with_reducible refine And.intro ?_ ?_)<;>conv=>whnf)))
  ·have hq:(decide ((c:Int)<(n:Int))&&decide ((c:Int)<60))=false:=by simp; omega
   conv=>whnf
   repeat' (first|(refine And.intro (fun h=> ?_) (fun h=> ?_)<;>(first|(with_reducible have hd:_<_:=of_decide_eq_true h)|(with_reducible have hd:_≤_:=of_decide_eq_true h)|(with_reducible have hd:¬ (_<_):=of_decide_eq_false h)|(with_reducible have hd:¬ (_≤_):=of_decide_eq_false h)|skip)<;>(first|exact absurd h (by decide)|(first|exact Bool.noConfusion (hq.symm.trans h)|exact Bool.noConfusion (hq2.symm.trans h))|(conv=>whnf)))|((with_reducible refine Both.mk ?_ ?_)<;>conv=>whnf)|((with_reducible refine DOg.l ?_); (conv=>whnf))|((with_reducible refine DOr.l ?_); (conv=>whnf))|((with_reducible refine NilOr.l ?_); conv=>whnf)|((with_reducible refine FzOr.l ?_); conv=>whnf)|((with_reducible refine MinOr.l ?_); conv=>whnf)|((with_reducible refine OwnOr.l ?_); (conv=>whnf))|(refine And.intro ?_ ?_; (focus (first|exact trivial|exact rfl|(first|exact isb0 _|exact isbS _|exact hB _ (by omega)|exact hK|assumption)|(refine chainI ?_; (first|(first|exact isb0 _|exact isbS _|exact hB _ (by omega)|exact hK|assumption)|decide|omega|(refine And.intro ?_ ?_<;>first|omega|(simp; omega))|(simp only [IntKind.wrap_i64]; first|omega|(refine And.intro ?_ ?_<;>omega))))|(intro _; (first|(first|exact isb0 _|exact isbS _|exact hB _ (by omega)|exact hK|assumption)|decide|omega|(refine And.intro ?_ ?_<;>first|omega|(simp; omega))|(simp only [IntKind.wrap_i64]; first|omega|(refine And.intro ?_ ?_<;>omega))))|(intro _ _; (first|(first|exact isb0 _|exact isbS _|exact hB _ (by omega)|exact hK|assumption)|decide|omega|(refine And.intro ?_ ?_<;>first|omega|(simp; omega))|(simp only [IntKind.wrap_i64]; first|omega|(refine And.intro ?_ ?_<;>omega))))|(first|decide|omega|(refine And.intro ?_ ?_<;>first|omega|(simp; omega))|(simp only [IntKind.wrap_i64]; first|omega|(refine And.intro ?_ ?_<;>omega)))|((conv=>whnf); intros; (try simp only [decide_eq_true_eq,decide_eq_false_iff_not,Bool.and_eq_true,Bool.or_eq_true,Bool.and_eq_false_imp,Bool.or_eq_false_iff,Bool.not_eq_true',Bool.not_eq_false',beq_iff_eq,bne_iff_ne,ne_eq] at *); (first|(first|exact isb0 _|exact isbS _|exact hB _ (by omega)|exact hK|assumption)|decide|omega|(refine And.intro ?_ ?_<;>first|omega|(simp; omega))|(simp only [IntKind.wrap_i64]; first|omega|(refine And.intro ?_ ?_<;>omega)))))); conv=>whnf)|(refine And.intro ?_ ?_; (focus (first|exact NoTag.int|exact NoTag.bool|exact NoTag.str|(refine NoTag.of_scalar ?_; rfl))); conv=>whnf))
   exact Go.VA.leB (grB_f fun j h1 h2=>hj j (by omega)).symm
end Go.Proofs.Ytndacaemcakmkaa
namespace Go.Proofs.Ytndacaemcakmkaa
open Go Go.VA Go.RowKit
abbrev kN:ByteArray:= .mk #[107,101,112,116]
theorem wK:wordB kN=true:=by decide
theorem doM_keep {a:Ac} {d x:Dk} {n:Nat} {w z:ByteArray} (hd:d.Ok n) (h1:a.nm≠w) (h2:a.to≠w) (h:lkF w d.l=some (z,z)):lkF w (doM a d x).1.l=some (z,z):=by
 have hchg:∀ (l':List Ft) (late:Bool),lkF w l'=some (z,z)→lkF w (d.chg l' late).1.l=some (z,z):=fun l' late hl=>by
  unfold Dk.chg
  dsimp only
  split
  ·exact h
  ·exact hl
 have hput:∀ (x y:ByteArray),lkF w (putF a.nm x y d.l)=some (z,z):=fun x y=>by rw [fnd_put,if_neg (Ne.symm h1)]; exact h
 have hw:∀ b,lkF w (d.wrt a.nm b).1.l=some (z,z):=fun b=>by
  unfold Dk.wrt
  repeat' split
  all_goals first
   | exact h
   | exact hchg _ _ (hput _ _)
 unfold doM
 repeat' split
 ·exact hw _
 ·exact hw _
 ·unfold Dk.syn
  repeat' split
  all_goals first
   | exact h
   | exact hchg _ _ (hput _ _)
 ·unfold Dk.ren
  repeat' split
  all_goals first
   | exact h
   | exact hchg _ _ (by rw [fnd_put,if_neg (Ne.symm h2),fnd_del _ _ _ hd.nodup,if_neg (Ne.symm h1)]; exact h)
 ·unfold Dk.rem
  repeat' split
  all_goals first
   | exact h
   | exact hchg _ _ (by rw [fnd_del _ _ _ hd.nodup,if_neg (Ne.symm h1)]; exact h)
 ·unfold Dk.fus
  split
  ·exact h
  ·exact h
 ·show lkF w (d.l.map (bootE a.n))=_
  rw [fnd_map,h]
  show some (torB a.n z z,torB a.n z z)=_
  rw [torB_same]
theorem okNil (n:Nat):(Dk.mk [] 0 false 0).Ok n:=⟨List.nodup_nil,fun e he=>absurd he (List.not_mem_nil),fun e he=>absurd he (List.not_mem_nil),Nat.zero_le _,by decide⟩
def dK (b:ByteArray):Dk:=⟨[(kN,b,b)],0,false,2⟩
theorem keepW1 (b:ByteArray) (hb:b.size≤2000):(Dk.mk [] 0 false 0).wrt kN b=(⟨[(kN,b,mtB)],0,false,1⟩,0):=by
 unfold Dk.wrt Dk.chg
 rw [if_neg (by simp),if_neg (by rw [wK]; simp),if_neg (by omega)]
 rfl
theorem keepS1 (b:ByteArray):(Dk.mk [(kN,b,mtB)] 0 false 1).syn kN=(dK b,0):=by
 unfold Dk.syn Dk.chg
 rw [if_neg (by simp),if_neg (by rw [wK]; simp)]
 rfl
theorem gKW (b:ByteArray) (t:Bool) (hb:b.size≤2000):GCall Try.prog gl 9 [dskB 0 false 0,.mp []] [.ptr 0 0,.c (.v (.string kN)),.c (.sl t 1 b.size (strCells b))] [dskB 0 false 1,.mp (mB [(kN,b,mtB)])] [intA .i64 0]:=by
 have h:=tWrite ⟨[],0,false,0⟩ kN b t
 rw [keepW1 b hb] at h
 exact h
theorem gKS (b:ByteArray):GCall Try.prog gl 10 [dskB 0 false 1,.mp (mB [(kN,b,mtB)])] [.ptr 0 0,.c (.v (.string kN))] [db (dK b),dm (dK b)] [intA .i64 0]:=by
 have h:=tSync ⟨[(kN,b,mtB)],0,false,1⟩ kN
 rw [keepS1 b] at h
 exact h
theorem okK (b:ByteArray) (hb:b.size≤2000):(dK b).Ok 1:=⟨by simp [dK],fun e he=>by
 simp [dK] at he
 subst he
 exact wK,fun e he=>by
 simp [dK] at he
 subst he
 exact ⟨by show b.size≤_; omega,by show b.size≤_; omega⟩,by simp [dK],by simp [dK]⟩
theorem leMost {L:List AO} {id off len a:Nat} (h:a≤len):0≤(a:Int)∧(a:Int)≤((mostO L id off len:Nat):Int):=by
 have:len≤mostO L id off len:=by
  unfold mostO
  split
  ·exact Nat.le_max_left _ _
  ·exact Nat.le_max_left _ _
  ·exact Nat.le_refl _
 omega
theorem keepB {d:Dk} {w z:ByteArray} (keep:Int) (h:lkF w d.l=some (z,z)):lkF w (d.bot keep).l=some (z,z):=by
 show lkF w (d.l.map (bootE keep))=_
 rw [fnd_map,h]
 show some (torB keep z z,torB keep z z)=_
 rw [torB_same]
theorem keepA {d:Dk} {n:Nat} {b more:ByteArray} (ok:d.Ok n) (hd:d.dead=false) (hf:d.fuse=0) (h:lkF kN d.l=some (b,b)) (hb:b.size≤2000) (hm:more.size≤2000) :
  (d.app kN more).2=0∧lkF kN (d.app kN more).1.l=some (b++more,b)∧(d.app kN more).1.Ok (n+1):=by
 have e:(d.app kN more)=(⟨putF kN (b++more) b d.l,0,false,IntKind.i64.wrap (d.ops+1)⟩,0):=by
  unfold Dk.app Dk.wrt Dk.chg
  rw [if_neg (by rw [hd]; simp),if_neg (by rw [wK]; simp)]
  have hg:getF kN d.l=(b,b):=by unfold getF; rw [h]; rfl
  rw [hg,if_neg (by show ¬ (b++more).size>262144; rw [cat_size]; omega),hf]
  rfl
 refine ⟨by rw [e],?_,ok.wrt _ _⟩
 rw [e]
 show lkF kN (putF kN (b++more) b d.l)=_
 rw [fnd_put,if_pos rfl]
theorem keepC {d:Dk} {w x z:ByteArray} (keep:Int) (h:lkF w d.l=some (x,z)):lkF w (d.bot keep).l=some (torB keep x z,torB keep x z):=by
 show lkF w (d.l.map (bootE keep))=_
 rw [fnd_map,h]
 rfl
theorem keepY (keep:Int) (b more:ByteArray):∃ k,b.size≤k∧k≤(b++more).size∧torB keep (b++more) b=(b++more).extract 0 k:=by
 by_cases h:b++more=b
 ·refine ⟨b.size,Nat.le_refl _,by rw [h]; exact Nat.le_refl _,?_⟩
  rw [h,torB_same,ext_self]
 ·have hb:begB (b++more) b=true:=by
   unfold begB
   simp [ByteArray.extract_append_eq_left]
  have hp:=pk_lt keep ((b++more).size-b.size)
  have hs:=cat_size b more
  exact ⟨_,by omega,by omega,torB_t h hb⟩
theorem aSafe (t:Bool) (n:Nat) (A:Nat→Ac) (f:Nat→List C) (hf:∀ i,i<n→f i=cAc (A i)) (hA:∀ i,i<n→(A i).n≤9223372036854775807) (b more:ByteArray) (keep:Int):ACall Try.prog gl 3 [.c (.sl t 5 n f),.c (oC b),.c (oC more),intA .i64 keep] [] (boolA true):=by
 by_cases hg:(grB n A||decide ((b.size:Int)>2000)||decide ((more.size:Int)>2000))=true
 ·have hq:=hg
  refine acall_of_vc htb hmix (f:=3) rfl rfl rfl (by kernel_rfl) rfl rfl ?_; conv=>whnf
  repeat' (first|(refine Exists.intro _ (And.intro (chainI (aGreat t n A f hf)) ?_); conv=>whnf)|(refine Exists.intro _ (And.intro (aGreat t n A f hf) ?_); conv=>whnf)|((with_reducible refine GOr.l ?_); (conv=>whnf); refine Exists.intro _ (And.intro (chainI (aGreat t n A f hf)) ?_); conv=>whnf)|(refine Exists.intro _ (And.intro (chainI (aAwake)) ?_); conv=>whnf)|(refine Exists.intro _ (And.intro (aAwake) ?_); conv=>whnf)|((with_reducible refine GOr.l ?_); (conv=>whnf); refine Exists.intro _ (And.intro (chainI (aAwake)) ?_); conv=>whnf)|(refine And.intro (fun h=> ?_) (fun h=> ?_)<;>(first|(with_reducible have hd:_<_:=of_decide_eq_true h)|(with_reducible have hd:_≤_:=of_decide_eq_true h)|(with_reducible have hd:¬ (_<_):=of_decide_eq_false h)|(with_reducible have hd:¬ (_≤_):=of_decide_eq_false h)|skip)<;>(first|exact absurd h (by decide)|(first|exact Bool.noConfusion (hq.symm.trans h)|exact Bool.noConfusion (hq2.symm.trans h)|exact Bool.noConfusion (hq3.symm.trans h))|(conv=>whnf)))|((with_reducible refine Both.mk ?_ ?_)<;>conv=>whnf)|((with_reducible refine DOg.l ?_); (conv=>whnf))|((with_reducible refine DOr.l ?_); (conv=>whnf))|((with_reducible refine NilOr.l ?_); conv=>whnf)|((with_reducible refine FzOr.l ?_); conv=>whnf)|((with_reducible refine MinOr.l ?_); conv=>whnf)|((with_reducible refine OwnOr.l ?_); (conv=>whnf))|(refine And.intro ?_ ?_; (focus (first|exact trivial|exact rfl|(first|exact isb0 _|exact isbS _|exact hB _ (by omega)|exact chainI (leMost y2)|exact hK|assumption)|(refine chainI ?_; (first|(first|exact isb0 _|exact isbS _|exact hB _ (by omega)|exact chainI (leMost y2)|exact hK|assumption)|decide|omega|(refine And.intro ?_ ?_<;>first|omega|(simp; omega))|(simp only [IntKind.wrap_i64]; first|omega|(refine And.intro ?_ ?_<;>omega))))|(intro _; (first|(first|exact isb0 _|exact isbS _|exact hB _ (by omega)|exact chainI (leMost y2)|exact hK|assumption)|decide|omega|(refine And.intro ?_ ?_<;>first|omega|(simp; omega))|(simp only [IntKind.wrap_i64]; first|omega|(refine And.intro ?_ ?_<;>omega))))|(intro _ _; (first|(first|exact isb0 _|exact isbS _|exact hB _ (by omega)|exact chainI (leMost y2)|exact hK|assumption)|decide|omega|(refine And.intro ?_ ?_<;>first|omega|(simp; omega))|(simp only [IntKind.wrap_i64]; first|omega|(refine And.intro ?_ ?_<;>omega))))|(first|decide|omega|(refine And.intro ?_ ?_<;>first|omega|(simp; omega))|(simp only [IntKind.wrap_i64]; first|omega|(refine And.intro ?_ ?_<;>omega)))|((conv=>whnf); intros; (try simp only [decide_eq_true_eq,decide_eq_false_iff_not,Bool.and_eq_true,Bool.or_eq_true,Bool.and_eq_false_imp,Bool.or_eq_false_iff,Bool.not_eq_true',Bool.not_eq_false',beq_iff_eq,bne_iff_ne,ne_eq] at *); (first|(first|exact isb0 _|exact isbS _|exact hB _ (by omega)|exact chainI (leMost y2)|exact hK|assumption)|decide|omega|(refine And.intro ?_ ?_<;>first|omega|(simp; omega))|(simp only [IntKind.wrap_i64]; first|omega|(refine And.intro ?_ ?_<;>omega)))))); conv=>whnf)|(refine And.intro ?_ ?_; (focus (first|exact NoTag.int|exact NoTag.bool|exact NoTag.str|(refine NoTag.of_scalar ?_; rfl))); conv=>whnf)|((with_reducible refine xc_pure ?_); conv=>whnf))
  all_goals exact Go.VA.leB rfl
 ·have hq:(grB n A||decide ((b.size:Int)>2000)||decide ((more.size:Int)>2000))=false:=by simpa using hg
  have hb:b.size≤2000:=by simp at hq; omega
  have hm:more.size≤2000:=by simp at hq; omega
  have hgr:grB n A=false:=by simp at hq; exact hq.1.1
  have W:=gKW b false hb
  have S:=gKS b
  refine acall_of_vc htb hmix (f:=3) rfl rfl rfl (by kernel_rfl) rfl rfl ?_; conv=>whnf
  repeat' (first|(refine Exists.intro _ (And.intro (chainI (aGreat t n A f hf)) ?_); conv=>whnf)|(refine Exists.intro _ (And.intro (aGreat t n A f hf) ?_); conv=>whnf)|((with_reducible refine GOr.l ?_); (conv=>whnf); refine Exists.intro _ (And.intro (chainI (aGreat t n A f hf)) ?_); conv=>whnf)|(refine And.intro (fun h=> ?_) (fun h=> ?_)<;>(first|(with_reducible have hd:_<_:=of_decide_eq_true h)|(with_reducible have hd:_≤_:=of_decide_eq_true h)|(with_reducible have hd:¬ (_<_):=of_decide_eq_false h)|(with_reducible have hd:¬ (_≤_):=of_decide_eq_false h)|skip)<;>(first|exact absurd h (by decide)|(first|exact Bool.noConfusion (hq.symm.trans h)|exact Bool.noConfusion (hq2.symm.trans h)|exact Bool.noConfusion (hq3.symm.trans h))|(conv=>whnf)))|((with_reducible refine Both.mk ?_ ?_)<;>conv=>whnf)|((with_reducible refine DOg.l ?_); (conv=>whnf))|((with_reducible refine DOr.l ?_); (conv=>whnf))|((with_reducible refine NilOr.l ?_); conv=>whnf)|((with_reducible refine FzOr.l ?_); conv=>whnf)|((with_reducible refine MinOr.l ?_); conv=>whnf)|((with_reducible refine OwnOr.l ?_); (conv=>whnf))|(refine And.intro ?_ ?_; (focus (first|exact trivial|exact rfl|(first|exact isb0 _|exact isbS _|exact hB _ (by omega)|exact chainI (leMost y2)|exact hK|assumption)|(refine chainI ?_; (first|(first|exact isb0 _|exact isbS _|exact hB _ (by omega)|exact chainI (leMost y2)|exact hK|assumption)|decide|omega|(refine And.intro ?_ ?_<;>first|omega|(simp; omega))|(simp only [IntKind.wrap_i64]; first|omega|(refine And.intro ?_ ?_<;>omega))))|(intro _; (first|(first|exact isb0 _|exact isbS _|exact hB _ (by omega)|exact chainI (leMost y2)|exact hK|assumption)|decide|omega|(refine And.intro ?_ ?_<;>first|omega|(simp; omega))|(simp only [IntKind.wrap_i64]; first|omega|(refine And.intro ?_ ?_<;>omega))))|(intro _ _; (first|(first|exact isb0 _|exact isbS _|exact hB _ (by omega)|exact chainI (leMost y2)|exact hK|assumption)|decide|omega|(refine And.intro ?_ ?_<;>first|omega|(simp; omega))|(simp only [IntKind.wrap_i64]; first|omega|(refine And.intro ?_ ?_<;>omega))))|(first|decide|omega|(refine And.intro ?_ ?_<;>first|omega|(simp; omega))|(simp only [IntKind.wrap_i64]; first|omega|(refine And.intro ?_ ?_<;>omega)))|((conv=>whnf); intros; (try simp only [decide_eq_true_eq,decide_eq_false_iff_not,Bool.and_eq_true,Bool.or_eq_true,Bool.and_eq_false_imp,Bool.or_eq_false_iff,Bool.not_eq_true',Bool.not_eq_false',beq_iff_eq,bne_iff_ne,ne_eq] at *); (first|(first|exact isb0 _|exact isbS _|exact hB _ (by omega)|exact chainI (leMost y2)|exact hK|assumption)|decide|omega|(refine And.intro ?_ ?_<;>first|omega|(simp; omega))|(simp only [IntKind.wrap_i64]; first|omega|(refine And.intro ?_ ?_<;>omega)))))); conv=>whnf)|(refine And.intro ?_ ?_; (focus (first|exact NoTag.int|exact NoTag.bool|exact NoTag.str|(refine NoTag.of_scalar ?_; rfl))); conv=>whnf)|((with_reducible refine xc_guard ?_); (first|(refine xc_g (gNew) false (by first|(((conv=>whnf); repeat' (first|exact trivial|exact rfl|exact LeC.refl _|exact LeC.nil rfl|exact LeC.emp rfl|exact LeCs.refl _|exact (fun i hi=>LeCs.refl _)|(first|exact LeMs.refl _|exact Le.refl _)|((with_reducible refine And.intro ?_ ?_)<;>conv=>whnf))); done)|fail) trivial ?_)|(refine xc_g (gNew) true (by first|(((conv=>whnf); repeat' (first|exact trivial|exact rfl|exact LeC.refl _|exact LeC.nil rfl|exact LeC.emp rfl|exact LeCs.refl _|exact (fun i hi=>LeCs.refl _)|(first|exact LeMs.refl _|exact Le.refl _)|((with_reducible refine And.intro ?_ ?_)<;>conv=>whnf))); done)|fail) (by first|(((conv=>whnf); repeat' (first|exact trivial|exact rfl|(first|exact ntMB _|exact ntOC _)|(intro i hi; exact ⟨trivial,trivial⟩)|((with_reducible refine And.intro ?_ ?_)<;>conv=>whnf))); done)|fail) ?_)); conv=>whnf)|((with_reducible refine xc_guard ?_); (first|(refine xc_g (W) false (by first|(((conv=>whnf); repeat' (first|exact trivial|exact rfl|exact LeC.refl _|exact LeC.nil rfl|exact LeC.emp rfl|exact LeCs.refl _|exact (fun i hi=>LeCs.refl _)|(first|exact LeMs.refl _|exact Le.refl _)|((with_reducible refine And.intro ?_ ?_)<;>conv=>whnf))); done)|fail) trivial ?_)|(refine xc_g (W) true (by first|(((conv=>whnf); repeat' (first|exact trivial|exact rfl|exact LeC.refl _|exact LeC.nil rfl|exact LeC.emp rfl|exact LeCs.refl _|exact (fun i hi=>LeCs.refl _)|(first|exact LeMs.refl _|exact Le.refl _)|((with_reducible refine And.intro ?_ ?_)<;>conv=>whnf))); done)|fail) (by first|(((conv=>whnf); repeat' (first|exact trivial|exact rfl|(first|exact ntMB _|exact ntOC _)|(intro i hi; exact ⟨trivial,trivial⟩)|((with_reducible refine And.intro ?_ ?_)<;>conv=>whnf))); done)|fail) ?_)); conv=>whnf)|((with_reducible refine xc_guard ?_); (first|(refine xc_g (S) false (by first|(((conv=>whnf); repeat' (first|exact trivial|exact rfl|exact LeC.refl _|exact LeC.nil rfl|exact LeC.emp rfl|exact LeCs.refl _|exact (fun i hi=>LeCs.refl _)|(first|exact LeMs.refl _|exact Le.refl _)|((with_reducible refine And.intro ?_ ?_)<;>conv=>whnf))); done)|fail) trivial ?_)|(refine xc_g (S) true (by first|(((conv=>whnf); repeat' (first|exact trivial|exact rfl|exact LeC.refl _|exact LeC.nil rfl|exact LeC.emp rfl|exact LeCs.refl _|exact (fun i hi=>LeCs.refl _)|(first|exact LeMs.refl _|exact Le.refl _)|((with_reducible refine And.intro ?_ ?_)<;>conv=>whnf))); done)|fail) (by first|(((conv=>whnf); repeat' (first|exact trivial|exact rfl|(first|exact ntMB _|exact ntOC _)|(intro i hi; exact ⟨trivial,trivial⟩)|((with_reducible refine And.intro ?_ ?_)<;>conv=>whnf))); done)|fail) ?_)); conv=>whnf)|((with_reducible refine GOr.r ?_); conv=>whnf)|((with_reducible refine xc_pure ?_); conv=>whnf))
  refine loopI (Nat×Dk×Dk) (fun p=>(p.1≤n∧p.1≤60)∧p.2.1.Ok (p.1+1)∧p.2.2.Ok p.1∧lkF kN p.2.1.l=some (b,b)) (fun p=>[(11,intA .i64 p.1)]) (fun p=>[db p.2.1,dm p.2.1,yb p.2.2,yr p.2.2]) (fun p=>n-p.1) (0,dK b,⟨[],0,false,0⟩) ⟨⟨Nat.zero_le _,Nat.zero_le _⟩,okK b hb,okNil 0,by simp [dK,lkF]⟩ ?_ (fun _=>rfl) fun ⟨c,d,x⟩ ⟨⟨hc,hc2⟩,okd,okx,hl⟩=> ?_
  ·(refine And.intro ?_ (And.intro ?_ (And.intro ?_ rfl))<;>(conv=>whnf)<;>repeat' (first|exact trivial|exact LeE.of (Le.refl _)|exact LeE.nil rfl|(with_reducible refine LeE.of ?_)|(first|fail|exact Le.refl _|exact rfl|exact leI (by first|rfl|omega|(rw [wrap64 (by omega) (by omega)]; omega)|(rw [wrap64 (by omega) (by omega)]; done))|exact LeCs.refl _|exact fun i hi=>LeCs.refl _|exact leOwn (by first|rfl|omega))|((with_reducible refine And.intro ?_ ?_)<;>conv=>whnf)))
   all_goals first
    | exact LeMs.refl _
    | exact fun i hi=>absurd hi (Nat.not_lt_zero _)
  ·change c≤n at hc
   change c≤60 at hc2
   change d.Ok (c+1) at okd
   change x.Ok c at okx
   change lkF kN d.l=some (b,b) at hl
   by_cases hcl:c<n∧c<60
   ·have ec:f ((c:Int)).toNat=cAc (A c):=hf c hcl.1
    have hK:0≤(c:Int)∧(c:Int)<(n:Int):=by omega
    have hq2:(decide ((c:Int)<(n:Int))&&decide ((c:Int)<60))=true:=by simp; omega
    have hbig:bigA (A c)=false:=by
     cases hbg:bigA (A c) with
     | false=>rfl
     | true=>rw [grB_t hcl.1 hcl.2 hbg] at hgr; cases hgr
    have hsz:(A c).b.size≤2000:=by unfold bigA at hbig; simp at hbig; omega
    have okD:=doM_ok (a:=A c) okd okx (hA c hcl.1)
    have G:=gDo d x okd (by omega) okx (by omega) (A c) hsz
    by_cases hk:(A c).nm=kN∨(A c).to=kN
    ·have hq3:((A c).nm.toList==kN.toList||(A c).to.toList==kN.toList)=true:=by rw [listEq,listEq]; simpa using hk
     conv=>whnf
     repeat' (first|(rw [ec]; conv=>whnf)|(refine And.intro (fun h=> ?_) (fun h=> ?_)<;>(first|(with_reducible have hd:_<_:=of_decide_eq_true h)|(with_reducible have hd:_≤_:=of_decide_eq_true h)|(with_reducible have hd:¬ (_<_):=of_decide_eq_false h)|(with_reducible have hd:¬ (_≤_):=of_decide_eq_false h)|skip)<;>(first|exact absurd h (by decide)|(first|exact Bool.noConfusion (hq.symm.trans h)|exact Bool.noConfusion (hq2.symm.trans h)|exact Bool.noConfusion (hq3.symm.trans h))|(conv=>whnf)))|((with_reducible refine Both.mk ?_ ?_)<;>conv=>whnf)|((with_reducible refine DOg.l ?_); (conv=>whnf))|((with_reducible refine DOr.l ?_); (conv=>whnf))|((with_reducible refine NilOr.l ?_); conv=>whnf)|((with_reducible refine FzOr.l ?_); conv=>whnf)|((with_reducible refine MinOr.l ?_); conv=>whnf)|((with_reducible refine OwnOr.l ?_); (conv=>whnf))|(refine And.intro ?_ ?_; (focus (first|exact trivial|exact rfl|(first|exact isb0 _|exact isbS _|exact hB _ (by omega)|exact chainI (leMost y2)|exact hK|assumption)|(refine chainI ?_; (first|(first|exact isb0 _|exact isbS _|exact hB _ (by omega)|exact chainI (leMost y2)|exact hK|assumption)|decide|omega|(refine And.intro ?_ ?_<;>first|omega|(simp; omega))|(simp only [IntKind.wrap_i64]; first|omega|(refine And.intro ?_ ?_<;>omega))))|(intro _; (first|(first|exact isb0 _|exact isbS _|exact hB _ (by omega)|exact chainI (leMost y2)|exact hK|assumption)|decide|omega|(refine And.intro ?_ ?_<;>first|omega|(simp; omega))|(simp only [IntKind.wrap_i64]; first|omega|(refine And.intro ?_ ?_<;>omega))))|(intro _ _; (first|(first|exact isb0 _|exact isbS _|exact hB _ (by omega)|exact chainI (leMost y2)|exact hK|assumption)|decide|omega|(refine And.intro ?_ ?_<;>first|omega|(simp; omega))|(simp only [IntKind.wrap_i64]; first|omega|(refine And.intro ?_ ?_<;>omega))))|(first|decide|omega|(refine And.intro ?_ ?_<;>first|omega|(simp; omega))|(simp only [IntKind.wrap_i64]; first|omega|(refine And.intro ?_ ?_<;>omega)))|((conv=>whnf); intros; (try simp only [decide_eq_true_eq,decide_eq_false_iff_not,Bool.and_eq_true,Bool.or_eq_true,Bool.and_eq_false_imp,Bool.or_eq_false_iff,Bool.not_eq_true',Bool.not_eq_false',beq_iff_eq,bne_iff_ne,ne_eq] at *); (first|(first|exact isb0 _|exact isbS _|exact hB _ (by omega)|exact chainI (leMost y2)|exact hK|assumption)|decide|omega|(refine And.intro ?_ ?_<;>first|omega|(simp; omega))|(simp only [IntKind.wrap_i64]; first|omega|(refine And.intro ?_ ?_<;>omega)))))); conv=>whnf)|(refine And.intro ?_ ?_; (focus (first|exact NoTag.int|exact NoTag.bool|exact NoTag.str|(refine NoTag.of_scalar ?_; rfl))); conv=>whnf))
     refine ⟨(c+1,d,x),⟨⟨hcl.1,hcl.2⟩,okd.more (Nat.le_succ _),okx.more (Nat.le_succ _),hl⟩,?_,by show n-(c+1)<n-c; omega⟩
     (refine And.intro ?_ (And.intro ?_ (And.intro ?_ rfl))<;>(conv=>whnf)<;>repeat' (first|exact trivial|exact LeE.of (Le.refl _)|exact LeE.nil rfl|(with_reducible refine LeE.of ?_)|(first|fail|exact Le.refl _|exact rfl|exact leI (by first|rfl|omega|(rw [wrap64 (by omega) (by omega)]; omega)|(rw [wrap64 (by omega) (by omega)]; done))|exact LeCs.refl _|exact fun i hi=>LeCs.refl _|exact leOwn (by first|rfl|omega))|((with_reducible refine And.intro ?_ ?_)<;>conv=>whnf)))
     all_goals first
      | exact LeMs.refl _
      | exact fun i hi=>LeCs.refl _
    ·have hq3:((A c).nm.toList==kN.toList||(A c).to.toList==kN.toList)=false:=by rw [listEq,listEq]; simpa using hk
     have hl2:=doM_keep (d:=d) (x:=x) okd (fun h=>hk (.inl h)) (fun h=>hk (.inr h)) hl
     have R:=tRead (doM (A c) d x).1 kN (b,b) hl2
     have S:=aSameB false false b b
     rw [decide_eq_true rfl] at S
     conv=>whnf
     repeat' (first|(rw [ec]; conv=>whnf)|(refine Exists.intro _ (And.intro (chainI (S)) ?_); conv=>whnf)|(refine Exists.intro _ (And.intro (S) ?_); conv=>whnf)|((with_reducible refine GOr.l ?_); (conv=>whnf); refine Exists.intro _ (And.intro (chainI (S)) ?_); conv=>whnf)|(refine And.intro (fun h=> ?_) (fun h=> ?_)<;>(first|(with_reducible have hd:_<_:=of_decide_eq_true h)|(with_reducible have hd:_≤_:=of_decide_eq_true h)|(with_reducible have hd:¬ (_<_):=of_decide_eq_false h)|(with_reducible have hd:¬ (_≤_):=of_decide_eq_false h)|skip)<;>(first|exact absurd h (by decide)|(first|exact Bool.noConfusion (hq.symm.trans h)|exact Bool.noConfusion (hq2.symm.trans h)|exact Bool.noConfusion (hq3.symm.trans h))|(conv=>whnf)))|((with_reducible refine Both.mk ?_ ?_)<;>conv=>whnf)|((with_reducible refine DOg.l ?_); (conv=>whnf))|((with_reducible refine DOr.l ?_); (conv=>whnf))|((with_reducible refine NilOr.l ?_); conv=>whnf)|((with_reducible refine FzOr.l ?_); conv=>whnf)|((with_reducible refine MinOr.l ?_); conv=>whnf)|((with_reducible refine OwnOr.l ?_); (conv=>whnf))|(refine And.intro ?_ ?_; (focus (first|exact trivial|exact rfl|(first|exact isb0 _|exact isbS _|exact hB _ (by omega)|exact chainI (leMost y2)|exact hK|assumption)|(refine chainI ?_; (first|(first|exact isb0 _|exact isbS _|exact hB _ (by omega)|exact chainI (leMost y2)|exact hK|assumption)|decide|omega|(refine And.intro ?_ ?_<;>first|omega|(simp; omega))|(simp only [IntKind.wrap_i64]; first|omega|(refine And.intro ?_ ?_<;>omega))))|(intro _; (first|(first|exact isb0 _|exact isbS _|exact hB _ (by omega)|exact chainI (leMost y2)|exact hK|assumption)|decide|omega|(refine And.intro ?_ ?_<;>first|omega|(simp; omega))|(simp only [IntKind.wrap_i64]; first|omega|(refine And.intro ?_ ?_<;>omega))))|(intro _ _; (first|(first|exact isb0 _|exact isbS _|exact hB _ (by omega)|exact chainI (leMost y2)|exact hK|assumption)|decide|omega|(refine And.intro ?_ ?_<;>first|omega|(simp; omega))|(simp only [IntKind.wrap_i64]; first|omega|(refine And.intro ?_ ?_<;>omega))))|(first|decide|omega|(refine And.intro ?_ ?_<;>first|omega|(simp; omega))|(simp only [IntKind.wrap_i64]; first|omega|(refine And.intro ?_ ?_<;>omega)))|((conv=>whnf); intros; (try simp only [decide_eq_true_eq,decide_eq_false_iff_not,Bool.and_eq_true,Bool.or_eq_true,Bool.and_eq_false_imp,Bool.or_eq_false_iff,Bool.not_eq_true',Bool.not_eq_false',beq_iff_eq,bne_iff_ne,ne_eq] at *); (first|(first|exact isb0 _|exact isbS _|exact hB _ (by omega)|exact chainI (leMost y2)|exact hK|assumption)|decide|omega|(refine And.intro ?_ ?_<;>first|omega|(simp; omega))|(simp only [IntKind.wrap_i64]; first|omega|(refine And.intro ?_ ?_<;>omega)))))); conv=>whnf)|(refine And.intro ?_ ?_; (focus (first|exact NoTag.int|exact NoTag.bool|exact NoTag.str|(refine NoTag.of_scalar ?_; rfl))); conv=>whnf)|((with_reducible refine xc_guard ?_); (first|(refine xc_g (G) false (by first|(((conv=>whnf); repeat' (first|exact trivial|exact rfl|exact LeC.refl _|exact LeC.nil rfl|exact LeC.emp rfl|exact LeCs.refl _|exact (fun i hi=>LeCs.refl _)|(first|exact LeMs.refl _|exact Le.refl _)|((with_reducible refine And.intro ?_ ?_)<;>conv=>whnf))); done)|fail) trivial ?_)|(refine xc_g (G) true (by first|(((conv=>whnf); repeat' (first|exact trivial|exact rfl|exact LeC.refl _|exact LeC.nil rfl|exact LeC.emp rfl|exact LeCs.refl _|exact (fun i hi=>LeCs.refl _)|(first|exact LeMs.refl _|exact Le.refl _)|((with_reducible refine And.intro ?_ ?_)<;>conv=>whnf))); done)|fail) (by first|(((conv=>whnf); repeat' (first|exact trivial|exact rfl|(first|exact ntMB _|exact ntOC _)|(intro i hi; exact ⟨trivial,trivial⟩)|((with_reducible refine And.intro ?_ ?_)<;>conv=>whnf))); done)|fail) ?_)); conv=>whnf)|((with_reducible refine xc_guard ?_); (first|(refine xc_g (R) false (by first|(((conv=>whnf); repeat' (first|exact trivial|exact rfl|exact LeC.refl _|exact LeC.nil rfl|exact LeC.emp rfl|exact LeCs.refl _|exact (fun i hi=>LeCs.refl _)|(first|exact LeMs.refl _|exact Le.refl _)|((with_reducible refine And.intro ?_ ?_)<;>conv=>whnf))); done)|fail) trivial ?_)|(refine xc_g (R) true (by first|(((conv=>whnf); repeat' (first|exact trivial|exact rfl|exact LeC.refl _|exact LeC.nil rfl|exact LeC.emp rfl|exact LeCs.refl _|exact (fun i hi=>LeCs.refl _)|(first|exact LeMs.refl _|exact Le.refl _)|((with_reducible refine And.intro ?_ ?_)<;>conv=>whnf))); done)|fail) (by first|(((conv=>whnf); repeat' (first|exact trivial|exact rfl|(first|exact ntMB _|exact ntOC _)|(intro i hi; exact ⟨trivial,trivial⟩)|((with_reducible refine And.intro ?_ ?_)<;>conv=>whnf))); done)|fail) ?_)); conv=>whnf)|((with_reducible refine GOr.r ?_); conv=>whnf)|((with_reducible refine xc_pure ?_); conv=>whnf))
     refine ⟨(c+1,(doM (A c) d x).1,(doM (A c) d x).2.1),⟨⟨hcl.1,hcl.2⟩,okD.1,okD.2,hl2⟩,?_,by show n-(c+1)<n-c; omega⟩
     (refine And.intro ?_ (And.intro ?_ (And.intro ?_ rfl))<;>(conv=>whnf)<;>repeat' (first|exact trivial|exact LeE.of (Le.refl _)|exact LeE.nil rfl|(with_reducible refine LeE.of ?_)|(first|fail|exact Le.refl _|exact rfl|exact leI (by first|rfl|omega|(rw [wrap64 (by omega) (by omega)]; omega)|(rw [wrap64 (by omega) (by omega)]; done))|exact LeCs.refl _|exact fun i hi=>LeCs.refl _|exact leOwn (by first|rfl|omega))|((with_reducible refine And.intro ?_ ?_)<;>conv=>whnf)))
     all_goals first
      | exact LeMs.refl _
      | exact fun i hi=>LeCs.refl _
   ·have hq2:(decide ((c:Int)<(n:Int))&&decide ((c:Int)<60))=false:=by simp; omega
    have ok1:(d.bot keep).Ok (c+1):=okd.bot keep
    have l1:=keepB keep hl
    obtain ⟨r2,l2,ok2⟩:=keepA (d:=d.bot keep) (more:=more) ok1 rfl rfl l1 hb hm
    have l3:=keepC keep l2
    have B1:=tBoot d (c+1) okd (by omega) keep
    have P:=tAppend (d.bot keep) kN more false (by unfold getF; rw [l1]; show b.size+more.size≤_; omega)
    rw [r2] at P
    have B2:=tBoot ((d.bot keep).app kN more).1 (c+1+1) ok2 (by omega) keep
    have R:=tRead (((d.bot keep).app kN more).1.bot keep) kN _ l3
    obtain ⟨k,k1,k2,k3⟩:=keepY keep b more
    obtain ⟨Y,hY⟩:∃ Y,Y=torB keep (b++more) b:=⟨_,rfl⟩
    rw [← hY] at R
    have y0:Y.size=k:=by rw [hY,k3,ext_size]; omega
    have y1:b.size≤Y.size:=by omega
    have y2:Y.size≤b.size+more.size:=by have:=cat_size b more; omega
    have y3:∀ i,i<Y.size→strCells (b++more) i=strCells Y i:=fun i hi=>by
     rw [hY,k3]
     exact cut_get (b++more) k i k2 (by omega)
    have hB:∀ k,k≤100000→k*(tb 5).bytes≤140737488355328:=fun k hk=>by
     show k*1≤_; omega
    have hK:0≤(Y.size:Int)∧(Y.size:Int)≤((b.size+more.size:Nat):Int):=by omega
    have CS:=aSameX false true Y.size Y.size (strCells Y) (fun i=>catF 0 b.size (strCells b) (strCells more) (0+i)) (byZ Y) (byZ Y) (fun _ _=>rfl) (fun i hi=>by rw [Nat.zero_add,cat_str]; exact y3 i hi)
    rw [byZ_eq,decide_eq_true rfl] at CS
    have hq3:decide ((Y.size:Int)≥(b.size:Int))=true:=by simp; omega
    have hq4:decide ((Y.size:Int)≤((b.size+more.size:Nat):Int))=true:=by simp; omega
    conv=>whnf
    repeat' (first|(refine Exists.intro _ (And.intro (chainI (CS)) ?_); conv=>whnf)|(refine Exists.intro _ (And.intro (CS) ?_); conv=>whnf)|((with_reducible refine GOr.l ?_); (conv=>whnf); refine Exists.intro _ (And.intro (chainI (CS)) ?_); conv=>whnf)|(refine Exists.intro _ (And.intro (chainI (aAwake)) ?_); conv=>whnf)|(refine Exists.intro _ (And.intro (aAwake) ?_); conv=>whnf)|((with_reducible refine GOr.l ?_); (conv=>whnf); refine Exists.intro _ (And.intro (chainI (aAwake)) ?_); conv=>whnf)|(refine And.intro (fun h=> ?_) (fun h=> ?_)<;>(first|(with_reducible have hd:_<_:=of_decide_eq_true h)|(with_reducible have hd:_≤_:=of_decide_eq_true h)|(with_reducible have hd:¬ (_<_):=of_decide_eq_false h)|(with_reducible have hd:¬ (_≤_):=of_decide_eq_false h)|skip)<;>(first|exact absurd h (by decide)|(first|exact Bool.noConfusion (hq.symm.trans h)|exact Bool.noConfusion (hq2.symm.trans h)|exact Bool.noConfusion (hq3.symm.trans h))|(conv=>whnf)))|((with_reducible refine Both.mk ?_ ?_)<;>conv=>whnf)|((with_reducible refine DOg.l ?_); (conv=>whnf))|((with_reducible refine DOr.l ?_); (conv=>whnf))|((with_reducible refine NilOr.l ?_); conv=>whnf)|((with_reducible refine FzOr.l ?_); conv=>whnf)|((with_reducible refine MinOr.l ?_); conv=>whnf)|((with_reducible refine OwnOr.l ?_); (conv=>whnf))|(refine And.intro ?_ ?_; (focus (first|exact trivial|exact rfl|(first|exact isb0 _|exact isbS _|exact hB _ (by omega)|exact chainI (leMost y2)|exact hK|assumption)|(refine chainI ?_; (first|(first|exact isb0 _|exact isbS _|exact hB _ (by omega)|exact chainI (leMost y2)|exact hK|assumption)|decide|omega|(refine And.intro ?_ ?_<;>first|omega|(simp; omega))|(simp only [IntKind.wrap_i64]; first|omega|(refine And.intro ?_ ?_<;>omega))))|(intro _; (first|(first|exact isb0 _|exact isbS _|exact hB _ (by omega)|exact chainI (leMost y2)|exact hK|assumption)|decide|omega|(refine And.intro ?_ ?_<;>first|omega|(simp; omega))|(simp only [IntKind.wrap_i64]; first|omega|(refine And.intro ?_ ?_<;>omega))))|(intro _ _; (first|(first|exact isb0 _|exact isbS _|exact hB _ (by omega)|exact chainI (leMost y2)|exact hK|assumption)|decide|omega|(refine And.intro ?_ ?_<;>first|omega|(simp; omega))|(simp only [IntKind.wrap_i64]; first|omega|(refine And.intro ?_ ?_<;>omega))))|(first|decide|omega|(refine And.intro ?_ ?_<;>first|omega|(simp; omega))|(simp only [IntKind.wrap_i64]; first|omega|(refine And.intro ?_ ?_<;>omega)))|((conv=>whnf); intros; (try simp only [decide_eq_true_eq,decide_eq_false_iff_not,Bool.and_eq_true,Bool.or_eq_true,Bool.and_eq_false_imp,Bool.or_eq_false_iff,Bool.not_eq_true',Bool.not_eq_false',beq_iff_eq,bne_iff_ne,ne_eq] at *); (first|(first|exact isb0 _|exact isbS _|exact hB _ (by omega)|exact chainI (leMost y2)|exact hK|assumption)|decide|omega|(refine And.intro ?_ ?_<;>first|omega|(simp; omega))|(simp only [IntKind.wrap_i64]; first|omega|(refine And.intro ?_ ?_<;>omega)))))); conv=>whnf)|(refine And.intro ?_ ?_; (focus (first|exact NoTag.int|exact NoTag.bool|exact NoTag.str|(refine NoTag.of_scalar ?_; rfl))); conv=>whnf)|((with_reducible refine xc_guard ?_); (first|(refine xc_g (B1) false (by first|(((conv=>whnf); repeat' (first|exact trivial|exact rfl|exact LeC.refl _|exact LeC.nil rfl|exact LeC.emp rfl|exact LeCs.refl _|exact (fun i hi=>LeCs.refl _)|(first|exact LeMs.refl _|exact Le.refl _)|((with_reducible refine And.intro ?_ ?_)<;>conv=>whnf))); done)|fail) trivial ?_)|(refine xc_g (B1) true (by first|(((conv=>whnf); repeat' (first|exact trivial|exact rfl|exact LeC.refl _|exact LeC.nil rfl|exact LeC.emp rfl|exact LeCs.refl _|exact (fun i hi=>LeCs.refl _)|(first|exact LeMs.refl _|exact Le.refl _)|((with_reducible refine And.intro ?_ ?_)<;>conv=>whnf))); done)|fail) (by first|(((conv=>whnf); repeat' (first|exact trivial|exact rfl|(first|exact ntMB _|exact ntOC _)|(intro i hi; exact ⟨trivial,trivial⟩)|((with_reducible refine And.intro ?_ ?_)<;>conv=>whnf))); done)|fail) ?_)); conv=>whnf)|((with_reducible refine xc_guard ?_); (first|(refine xc_g (P) false (by first|(((conv=>whnf); repeat' (first|exact trivial|exact rfl|exact LeC.refl _|exact LeC.nil rfl|exact LeC.emp rfl|exact LeCs.refl _|exact (fun i hi=>LeCs.refl _)|(first|exact LeMs.refl _|exact Le.refl _)|((with_reducible refine And.intro ?_ ?_)<;>conv=>whnf))); done)|fail) trivial ?_)|(refine xc_g (P) true (by first|(((conv=>whnf); repeat' (first|exact trivial|exact rfl|exact LeC.refl _|exact LeC.nil rfl|exact LeC.emp rfl|exact LeCs.refl _|exact (fun i hi=>LeCs.refl _)|(first|exact LeMs.refl _|exact Le.refl _)|((with_reducible refine And.intro ?_ ?_)<;>conv=>whnf))); done)|fail) (by first|(((conv=>whnf); repeat' (first|exact trivial|exact rfl|(first|exact ntMB _|exact ntOC _)|(intro i hi; exact ⟨trivial,trivial⟩)|((with_reducible refine And.intro ?_ ?_)<;>conv=>whnf))); done)|fail) ?_)); conv=>whnf)|((with_reducible refine xc_guard ?_); (first|(refine xc_g (B2) false (by first|(((conv=>whnf); repeat' (first|exact trivial|exact rfl|exact LeC.refl _|exact LeC.nil rfl|exact LeC.emp rfl|exact LeCs.refl _|exact (fun i hi=>LeCs.refl _)|(first|exact LeMs.refl _|exact Le.refl _)|((with_reducible refine And.intro ?_ ?_)<;>conv=>whnf))); done)|fail) trivial ?_)|(refine xc_g (B2) true (by first|(((conv=>whnf); repeat' (first|exact trivial|exact rfl|exact LeC.refl _|exact LeC.nil rfl|exact LeC.emp rfl|exact LeCs.refl _|exact (fun i hi=>LeCs.refl _)|(first|exact LeMs.refl _|exact Le.refl _)|((with_reducible refine And.intro ?_ ?_)<;>conv=>whnf))); done)|fail) (by first|(((conv=>whnf); repeat' (first|exact trivial|exact rfl|(first|exact ntMB _|exact ntOC _)|(intro i hi; exact ⟨trivial,trivial⟩)|((with_reducible refine And.intro ?_ ?_)<;>conv=>whnf))); done)|fail) ?_)); conv=>whnf)|((with_reducible refine xc_guard ?_); (first|(refine xc_g (R) false (by first|(((conv=>whnf); repeat' (first|exact trivial|exact rfl|exact LeC.refl _|exact LeC.nil rfl|exact LeC.emp rfl|exact LeCs.refl _|exact (fun i hi=>LeCs.refl _)|(first|exact LeMs.refl _|exact Le.refl _)|((with_reducible refine And.intro ?_ ?_)<;>conv=>whnf))); done)|fail) trivial ?_)|(refine xc_g (R) true (by first|(((conv=>whnf); repeat' (first|exact trivial|exact rfl|exact LeC.refl _|exact LeC.nil rfl|exact LeC.emp rfl|exact LeCs.refl _|exact (fun i hi=>LeCs.refl _)|(first|exact LeMs.refl _|exact Le.refl _)|((with_reducible refine And.intro ?_ ?_)<;>conv=>whnf))); done)|fail) (by first|(((conv=>whnf); repeat' (first|exact trivial|exact rfl|(first|exact ntMB _|exact ntOC _)|(intro i hi; exact ⟨trivial,trivial⟩)|((with_reducible refine And.intro ?_ ?_)<;>conv=>whnf))); done)|fail) ?_)); conv=>whnf)|((with_reducible refine GOr.r ?_); conv=>whnf)|((with_reducible refine xc_pure ?_); conv=>whnf))
    exact Go.VA.leB (by
     show ((0:Int)==0&&decide ((Y.size:Int)≥(b.size:Int))&&decide ((Y.size:Int)≤((b.size+more.size:Nat):Int))&&true&&true)=true
     rw [hq3,hq4]
     rfl)
end Go.Proofs.Ytndacaemcakmkaa
namespace Go.Proofs.Ytndacaemcakmkaa
open Go Go.VA Go.RowKit Go.ChangeShapes Go.WideShapes Go.ChangeAt
section
variable {H:Type} {enc:TypeId×Value→H} {W:World} {base:Nat} {sp:Nat→Bool} {held:Bool}
theorem open_byS {fuel:Nat} {cs:List Value} {x:DataW H×List MemPlace} (h:DataW.trod enc Try.prog W base sp held fuel 23 cs=some x) (hs:SzW Try.prog 23 x.1):∃ (s:ByteArray) (u:Value),cs=[u]∧RepC (S0 W) (oC s) u:=by
 obtain ⟨a,len,cap,m,e3,hm3,hlc,hcap0,hrows⟩:=tr_sliceS htb (t:=23) (e:=5) rfl rfl (by decide) h hs
 have hcap:len*1≤140737488351232:=hcap0
 rcases hrows with h0|⟨b,o,rfl,hr⟩
 ·subst h0
  exact ⟨ByteArray.empty,_,e3,repC_rows ⟨hlc,by simp⟩ (.inl rfl)⟩
 ·have hex:∀ i:Fin len,∃ x:UInt8,W.cell? ⟨b,o+i*1,none⟩=some (.int .u8 (x.toNat:Int)):=by
   intro ⟨i,hi⟩
   obtain ⟨ce,y,hl,hc,ht,_⟩:=hr i hi
   obtain ⟨n,rfl,h0,h255⟩:=tr_int htb (t:=5) (k:= .u8) rfl ht
   have h0:0≤n:=h0
   have h255:n≤255:=h255
   refine ⟨UInt8.ofNat n.toNat,?_⟩
   have:=hc 0 (by decide)
   have e:((UInt8.ofNat n.toNat).toNat:Int)=n:=by
    rw [UInt8.toNat_ofNat']
    omega
   rw [e]
   exact this
  have hf:=fun i=>Classical.choose_spec (hex i)
  refine ⟨⟨(List.ofFn fun i=>Classical.choose (hex i)).toArray⟩,_,e3,?_⟩
  have hsz:(ByteArray.mk (List.ofFn fun i=>Classical.choose (hex i)).toArray).size=len:=by simp [ByteArray.size]
  unfold oC
  rw [hsz]
  refine repC_rows ⟨hlc,by omega⟩ (.inr ⟨b,o,rfl,fun i hi=> ?_⟩)
  refine ⟨[.int .u8 ((Classical.choose (hex ⟨i,hi⟩)).toNat:Int)],rfl,fun j hj u hu=> ?_,rfl,?_⟩
  ·obtain rfl:j=0:=by omega
   simp at hu
   subst hu
   have:=hf ⟨i,hi⟩
   simpa [S0] using this
  ·have:strCells (ByteArray.mk (List.ofFn fun i=>Classical.choose (hex i)).toArray) i=[.v (.int .u8 ((Classical.choose (hex ⟨i,hi⟩)).toNat:Int))]:=by
    simp [strCells,hi]
   rw [this]
   simp only [RepVs]
   exact ⟨_,[],rfl,repV_i,rfl⟩
theorem open_Ac {fuel:Nat} {cs:List Value} {x:DataW H×List MemPlace} (h:DataW.trod enc Try.prog W base sp held fuel 36 cs=some x) (hs:SzW Try.prog 36 x.1):∃ a:Ac,RepVs (S0 W) (cAc a) cs∧a.n≤9223372036854775807:=by
 obtain ⟨hl,m,rfl,hx⟩:=tr_structS htb (t:=36) rfl h hs
 have hl:cs.length=5:=hl
 obtain ⟨y0,h0,s0⟩:=hx 0 0 3 rfl rfl
 obtain ⟨y1,h1,s1⟩:=hx 1 1 9 rfl rfl
 obtain ⟨y2,h2,s2⟩:=hx 2 2 9 rfl rfl
 obtain ⟨y3,h3,s3⟩:=hx 3 3 23 rfl rfl
 obtain ⟨y4,h4,s4⟩:=hx 4 4 3 rfl rfl
 obtain ⟨k,e0,_⟩:=tr_int htb (t:=3) (k:= .i64) rfl h0
 obtain ⟨s,e1,_⟩:=tr_str htb (t:=9) rfl h1
 obtain ⟨t,e2,_⟩:=tr_str htb (t:=9) rfl h2
 obtain ⟨b,u,e3,hu⟩:=open_byS h3 s3
 obtain ⟨i,e4,_,hi⟩:=tr_int htb (t:=3) (k:= .i64) rfl h4
 match cs,hl with
 | [c0,c1,c2,c3,c4],_ =>
  simp [tb,tbl,VA.look] at e0 e1 e2 e3 e4
  subst e0; subst e1; subst e2; subst e3; subst e4
  refine ⟨⟨k,s,t,b,i⟩,?_,hi⟩
  simp only [cAc,RepVs]
  exact ⟨_,_,rfl,repV_i,_,_,rfl,repV_s,_,_,rfl,repV_s,_,_,rfl,hu,_,_,rfl,repV_i,rfl⟩
theorem open_acts {v:Value} {d:DataW H} {ps:List MemPlace} {r:Reach} {b0:Nat} (hval:Value.okWide Try.prog W r b0 22 v) (hd:DataW.Trod enc Try.prog W base sp held 22 v d ps) (hs:SzW Try.prog 22 d) :
  ∃ (n:Nat) (A:Nat→Ac) (f:Nat→List C),(∀ i,i<n→f i=cAc (A i))∧(∀ i,i<n→(A i).n≤9223372036854775807)∧RelV [] (S0 W) (.c (.sl false 5 n f)) v:=by
 have hc:=arg_slice htb (t:=22) (e:=36) rfl hval
 obtain ⟨fuel,hf⟩:=hd
 rw [hc] at hf
 obtain ⟨a,len,cap,m,e3,hm3,hlc,hcap0,hrows⟩:=tr_sliceS htb (t:=22) (e:=36) rfl rfl (by decide) hf hs
 simp only [List.cons.injEq,and_true] at e3
 subst e3
 have hcap:len*72≤140737488351232:=hcap0
 rcases hrows with h0|⟨b,o,rfl,hr⟩
 ·subst h0
  exact ⟨0,fun _=>⟨0,mtB,mtB,mtB,0⟩,fun i=>cAc ((fun _=>⟨0,mtB,mtB,mtB,0⟩:Nat→Ac) i),fun _ _=>rfl,fun i hi=>absurd hi (Nat.not_lt_zero _),by simp only [RelV]; exact repC_rows ⟨hlc,by simp⟩ (.inl rfl)⟩
 ·have hex:∀ i:Nat,∃ v:Ac,i<len→(∃ ce:List Value,ce.length=5∧(∀ j,j<5→W.cell? ⟨b,o+i*5+j,none⟩=ce[j]?)∧RepVs (S0 W) (cAc v) ce)∧v.n≤9223372036854775807:=by
   intro i
   by_cases hi:i<len
   ·obtain ⟨ce,y,hl,hc,ht,hsy⟩:=hr i hi
    obtain ⟨v,hv,hn⟩:=open_Ac ht hsy
    exact ⟨v,fun _=>⟨⟨ce,hl,hc,hv⟩,hn⟩⟩
   ·exact ⟨⟨0,mtB,mtB,mtB,0⟩,fun h=>absurd h hi⟩
  refine ⟨len,fun i=>Classical.choose (hex i),fun i=>cAc (Classical.choose (hex i)),fun _ _=>rfl,fun i hi=>(Classical.choose_spec (hex i) hi).2,?_⟩
  simp only [RelV]
  refine repC_rows ⟨hlc,by omega⟩ (.inr ⟨b,o,rfl,fun i hi=> ?_⟩)
  obtain ⟨⟨ce,g1,g2,g3⟩,_⟩:=Classical.choose_spec (hex i) hi
  refine ⟨ce,g1,fun j hj u hu=> ?_,rfl,g3⟩
  have:=g2 j hj
  rw [hu] at this
  exact this
end
end Go.Proofs.Ytndacaemcakmkaa
