/- Contracts of functions of the program,and the laws that stand on them: what each function answers,whatever its arguments. -/
import Derived.Test.YtiodgjgngfklkaaGreatDoorC1
set_option linter.all false
set_option maxRecDepth 100000
set_option maxHeartbeats 8000000
namespace Go.Proofs.YtiodgjgngfklkaaGreatDoor
open Go Go.VA
abbrev cI (t:Bool) (s:ByteArray) (k:Int) (sec:Bool) (ks:List ByteArray) (l:List V) (a b:Int):List AO :=
 [.box [.c (.sl t 1 s.size (strCells s)),.c (.v (.int .i64 a)),.c (.v (.int .i64 b))],.box [.c (.v (.int .i64 k)),.c (.v (.int .i64 0)),.c (.v (.string ByteArray.empty)),.own 2 8 0 l.length,.own 3 1 0 ks.length,.c (.v (.int .i64 0)),.c (.v (.int .i64 0)),.c (.v (.bool sec))],.row 8 l.length (rV l),.row 1 ks.length (rS ks)]
def ValOk (t:Bool) (s:ByteArray) (deep:Int) (val:Int→Int→V×Int×Int):Prop:=∀ a b:Int,0≤a→a≤s.size→0≤(val a b).2.1∧(val a b).2.1≤s.size∧MCall Tryz.prog gl 96 [cR t s a b] [.ptr 0 0,intA .i64 (IntKind.i64.wrap (deep+1))] [cR t s (val a b).2.1 (val a b).2.2] (.ag (cV (val a b).1))
theorem rV_put2 {l:List V}{x:V}{n:Nat}{g:Nat→List C}(hn:n=l.length)(hg:(g 0).length=8){i:Nat}(h:i<n+1) :
  updF (catF 0 n (rV l) g) (0+(n:Int).toNat) (List.take 0 (catF 0 n (rV l) g (0+(n:Int).toNat))++cV x++List.drop (0+8) (catF 0 n (rV l) g (0+(n:Int).toNat))) i=rV (l++[x]) i:=by
 subst hn
 have e0:0+(l.length:Int).toNat=l.length:=by simp
 have e1:catF 0 l.length (rV l) g (0+(l.length:Int).toNat)=g 0:=by rw [e0]; unfold catF; rw [if_neg (Nat.lt_irrefl _),Nat.sub_self]
 rw [e1,e0,List.take_zero,List.nil_append,List.drop_eq_nil_of_le (by rw [hg]; exact Nat.le_refl _),List.append_nil]
 unfold updF
 by_cases hi:i=l.length
 ·rw [if_pos hi,hi,rV_get (by simp)]
  simp
 ·rw [if_neg hi,rV_get (by simp; omega)]
  unfold catF
  rw [if_pos (by omega),Nat.zero_add,rV_get (by omega)]
  congr 1
  rw [List.getElem_append_left (by omega)]
set_option maxHeartbeats 4000000 in
theorem mItems (t:Bool)(s:ByteArray)(a b k:Int)(sec:Bool)(deep:Int)(val:Int→Int→V×Int×Int)(h0:0≤a)(h1:a≤s.size)(hv:ValOk t s deep val) :
  MCall Tryz.prog gl 129 [cR t s a b,cB k sec] [.ptr 0 0,.ptr 1 0,intA .i64 deep]
   [cR t s (rdAll val s k a b).2.2.1 (rdAll val s k a b).2.2.2,cE k sec (rdAll val s k a b).1 (rdAll val s k a b).2.1] (.tup []):=by
 refine mcall_of_vcb htb hmix (f:=129) rfl rfl rfl (by kernel_rfl) rfl rfl rfl fun hb hb2=> ?_; simp only [bndPre,bndAll,AV.bnd,bnds,C.bnd,true_and,and_true] at hb hb2; conv=>whnf
 have hn:=hb.1
 repeat' (first|(refine And.intro (fun h=> ?_) (fun h=> ?_)<;>(first|(with_reducible have hd:_<_:=of_decide_eq_true h)|(with_reducible have hd:¬ (_<_):=of_decide_eq_false h)|fail)<;>conv=>whnf)|((with_reducible refine xc_guard ?_); refine xc_mb (by first|(((conv=>whnf); repeat' (first|exact trivial|exact rfl|exact LeC.refl _|((with_reducible refine And.intro ?_ ?_)<;>conv=>whnf))); done)|fail) (mShort _ _ _ _ h0 h1) rfl rfl rfl rfl ?_; conv=>whnf)|((with_reducible refine xc_guard ?_); refine xc_mb (by first|(((conv=>whnf); repeat' (first|exact trivial|exact rfl|exact LeC.refl _|((with_reducible refine And.intro ?_ ?_)<;>conv=>whnf))); done)|fail) (mFail _ _ _ _ _) rfl rfl rfl rfl ?_; conv=>whnf)|fail)
 ·have e:itB s a b=failB (rShort s a b).2.2 3:=by unfold itB; rw [if_pos h]
  have I0:=e ▸ ItI.init (val:=val) (k:=k) h0 h1
  clear e
  generalize failB (rShort s a b).2.2 3=b0 at *
  refine loopI (Nat×List ByteArray×List V×Int×Int) (fun p=>ItI val s k a b p.1 p.2.1 p.2.2.1 p.2.2.2.1 p.2.2.2.2) (fun p=>[(7,intA .u64 p.1)]) (fun p=>cI t s k sec p.2.1 p.2.2.1 p.2.2.2.1 p.2.2.2.2) (fun p=>(rShort s a b).1.toNat-p.1) (0,[],[],(rShort s a b).2.1,b0) I0 ?_ (fun _=>rfl) fun ⟨i,ks,l,a',b'⟩ hi=> ?_
  ·(refine And.intro ?_ (And.intro ?_ (And.intro ?_ rfl))<;>(conv=>whnf)<;>repeat' (first|exact trivial|exact LeE.of (Le.refl _)|exact LeE.nil rfl|(first|exact rfl|fail)|((with_reducible refine And.intro ?_ ?_)<;>conv=>whnf)))
  ·have hI:ItI val s k a b i ks l a' b':=hi
   conv=>whnf
   refine ⟨fun hq=> ?_,fun hq=> ?_⟩<;>conv=>whnf
   ·exfalso
    have h2:(i:Int)<(rShort s a b).1∧b'=0:=by simpa using hq
    have:=hI.sm h2.2
    omega
   ·repeat' (fail)
    have E:=hI.end1 hq
    rw [E]
    refine ⟨Le.refl _,?_⟩
    conv=>whnf
    repeat' (first|exact trivial|exact LeC.refl _|exact LeC.sl (by simp) (fun i hi=>by rw [Nat.zero_add])|((with_reducible refine And.intro ?_ ?_)<;>conv=>whnf))
 ·have e:itB s a b=(rShort s a b).2.2:=by unfold itB; rw [if_neg (by rw [h]; simp)]
  have I0:=e ▸ ItI.init (val:=val) (k:=k) h0 h1
  clear e h hd
  generalize (rShort s a b).2.2=b0 at *
  refine loopI (Nat×List ByteArray×List V×Int×Int) (fun p=>ItI val s k a b p.1 p.2.1 p.2.2.1 p.2.2.2.1 p.2.2.2.2) (fun p=>[(7,intA .u64 p.1)]) (fun p=>cI t s k sec p.2.1 p.2.2.1 p.2.2.2.1 p.2.2.2.2) (fun p=>(rShort s a b).1.toNat-p.1) (0,[],[],(rShort s a b).2.1,b0) I0 ?_ (fun _=>rfl) fun ⟨i,ks,l,a',b'⟩ hi=> ?_
  ·(refine And.intro ?_ (And.intro ?_ (And.intro ?_ rfl))<;>(conv=>whnf)<;>repeat' (first|exact trivial|exact LeE.of (Le.refl _)|exact LeE.nil rfl|(first|exact rfl|fail)|((with_reducible refine And.intro ?_ ?_)<;>conv=>whnf)))
  ·have hI:ItI val s k a b i ks l a' b':=hi
   have T:=rText_ok s a' b' hI.a0 hI.a1
   have B1:(decide ((i:Int)<(rShort s a b).1)&&(b'==0))=true→(l.length+1)*(tb 53).bytes≤140737488355328:=fun hq=>by
    have:(i:Int)<(rShort s a b).1∧b'=0:=by simpa using hq
    have:=hI.sm this.2
    show (l.length+1)*104≤_
    have:=hI.ln
    omega
   have B2:(decide ((i:Int)<(rShort s a b).1)&&(b'==0))=true→(ks.length+1)*(tb 9).bytes≤140737488355328:=fun hq=>by
    have:(i:Int)<(rShort s a b).1∧b'=0:=by simpa using hq
    have:=hI.sm this.2
    show (ks.length+1)*16≤_
    have:=hI.kn
    omega
   conv=>whnf
   refine ⟨fun hq=> ?_,fun hq=> ?_⟩<;>conv=>whnf
   ·have B1:=B1 hq
    have B2:=B2 hq
    have h2:(i:Int)<(rShort s a b).1∧b'=0:=by simpa using hq
    have hsm:=hI.sm h2.2
    have hkn:=hI.kn
    have hkl:ks.length≤200:=by omega
    have KB:(ks.length:Int)>0→0≤IntKind.i64.wrap ((ks.length:Int)-1)∧IntKind.i64.wrap ((ks.length:Int)-1)<(ks.length:Int):=fun hg=>by rw [wrap64 (by omega) (by omega)]; omega
    repeat' (first|(refine And.intro (fun h=> ?_) (fun h=> ?_)<;>(first|skip)<;>conv=>whnf)|((with_reducible refine Both.mk ?_ ?_)<;>conv=>whnf)|((with_reducible refine OwnOr.l ?_); (conv=>whnf))|((with_reducible refine Drawn.all ?_); conv=>whnf)|(refine And.intro ?_ ?_; (focus (first|(first|assumption|((conv=>whnf); exact fun hg=>KB (of_decide_eq_true hg)))|(refine chainI ?_; (first|omega|fail))|fail)); conv=>whnf)|((with_reducible refine xc_guard ?_); refine xc_mb (by first|(((conv=>whnf); repeat' (first|exact trivial|exact rfl|exact LeC.refl _|((with_reducible refine And.intro ?_ ?_)<;>conv=>whnf))); done)|fail) (mText _ _ _ _ hI.a0 hI.a1) rfl rfl rfl rfl ?_; conv=>whnf)|((with_reducible refine xc_guard ?_); refine xc_mb (by first|(((conv=>whnf); repeat' (first|exact trivial|exact rfl|exact LeC.refl _|((with_reducible refine And.intro ?_ ?_)<;>conv=>whnf))); done)|fail) (mFail _ _ _ _ _) rfl rfl rfl rfl ?_; conv=>whnf)|((with_reducible refine xc_guard ?_); refine xc_mb (by first|(((conv=>whnf); repeat' (first|exact trivial|exact rfl|exact LeC.refl _|((with_reducible refine And.intro ?_ ?_)<;>conv=>whnf))); done)|fail) ((hv _ _ (by first|exact hI.a0|exact T.1) (by first|exact hI.a1|exact T.2)).2.2) rfl rfl rfl rfl ?_; conv=>whnf)|fail)
    all_goals
     have hd5:∀ (q:Bool),(k==5)=true→keyBad ks (rText s a' b').1=q→rdK s k ks a' b'=(ks++[(rText s a' b').1],(rText s a' b').2.1,if q then failB (rText s a' b').2.2 4 else (rText s a' b').2.2):=fun q h5 hq=>by unfold rdK; rw [if_pos h5,hq]
     have hd0:(k==5)=false→rdK s k ks a' b'=(ks,a',b'):=fun h5=>by unfold rdK; rw [if_neg (by rw [h5]; simp)]
     have hz:=Nat.zero_add (IntKind.i64.wrap ((ks.length:Int)-1)).toNat
     first
      | (have E:=hd0 (by assumption); have hnx:=hI.next hq (by rw [E]; exact ⟨(hv _ _ hI.a0 hI.a1).1,(hv _ _ hI.a0 hI.a1).2.1⟩); rw [E] at hnx)
      | (have E:=hd5 true (by assumption) (by rw [← h,hz]; rfl); have hnx:=hI.next hq (by rw [E]; exact ⟨(hv _ _ T.1 T.2).1,(hv _ _ T.1 T.2).2.1⟩); rw [E] at hnx)
      | (have E:=hd5 false (by assumption) (by rw [← h,hz]; rfl); have hnx:=hI.next hq (by rw [E]; exact ⟨(hv _ _ T.1 T.2).1,(hv _ _ T.1 T.2).2.1⟩); rw [E] at hnx)
     clear hd5 hd0 E
    all_goals
     refine ⟨(i+1,_,_,_,_),hnx,?_,(by show (rShort s a b).1.toNat-(i+1)<(rShort s a b).1.toNat-i; have:=h2.1; omega)⟩
     (refine And.intro ?_ (And.intro ?_ (And.intro ?_ rfl))<;>(conv=>whnf)<;>repeat' (first|exact trivial|exact LeE.of (Le.refl _)|(with_reducible refine LeE.of ?_)|(first|exact rfl|exact fun i hi=>LeCs.refl _|fail)|((with_reducible refine And.intro ?_ ?_)<;>conv=>whnf)))
    all_goals first
     | (simp; done)
     | exact leOwn (by simp)
     | exact fun j hj=>LeCs.of_eq (rV_put2 rfl rfl (by simpa using hj))
     | exact fun j hj=>LeCs.of_eq (rS_snoc rfl (by simpa using hj))
     | exact leI (by show IntKind.u64.wrap ((i:Int)+1)=((i+1:Nat):Int); rw [wrapU (by omega) (by omega)]; omega)
   ·repeat' (fail)
    have E:=hI.end1 hq
    rw [E]
    refine ⟨Le.refl _,?_⟩
    conv=>whnf
    repeat' (first|exact trivial|exact LeC.refl _|exact LeC.sl (by simp) (fun i hi=>by rw [Nat.zero_add])|((with_reducible refine And.intro ?_ ?_)<;>conv=>whnf))
def kdOf (c:Int):Int:=IntKind.i64.wrap (bitsI .andNot .u8 c 128)
def scOf (c:Int):Bool:=bitsI .and .u8 c 128 != 0
def dpB (deep b:Int):Int:=if decide (deep>8) then failB b 12 else b
def vHd (s:ByteArray) (deep a b:Int):Int×Int×Int:=rByte s a (dpB deep b)
def vBd (s:ByteArray) (deep a b:Int):Int:=if decide (kdOf (vHd s deep a b).1>6) then failB (vHd s deep a b).2.2 4 else (vHd s deep a b).2.2
def rdKd (val:Int→Int→V×Int×Int) (s:ByteArray) (kd:Int) (sc:Bool) (a b:Int):V×Int×Int :=
 if kd==1 then (.mk kd (IntKind.i64.wrap (rByte s a b).1) ByteArray.empty [] [] 0 0 sc,(rByte s a b).2.1,if decide (IntKind.i64.wrap (rByte s a b).1>1) then failB (rByte s a b).2.2 4 else (rByte s a b).2.2)
 else if kd==2 then (.mk kd (zag (rShort s a b).1) ByteArray.empty [] [] 0 0 sc,(rShort s a b).2.1,(rShort s a b).2.2)
 else if kd==3 then (.mk kd 0 (rText s a b).1 [] [] 0 0 sc,(rText s a b).2.1,(rText s a b).2.2)
 else if kd==6 then (.mk kd 0 ByteArray.empty [] [] (ofC (rByte s a b).1).1.1 (ofC (rByte s a b).1).1.2 sc,(rByte s a b).2.1,if (ofC (rByte s a b).1).2 != 0 then failB (rByte s a b).2.2 (ofC (rByte s a b).1).2 else (rByte s a b).2.2)
 else if kd==4||kd==5 then (.mk kd 0 ByteArray.empty (rdAll val s kd a b).2.1 (rdAll val s kd a b).1 0 0 sc,(rdAll val s kd a b).2.2.1,(rdAll val s kd a b).2.2.2)
 else (.mk kd 0 ByteArray.empty [] [] 0 0 sc,a,b)
def rdV1 (val:Int→Int→V×Int×Int) (s:ByteArray) (deep a b:Int):V×Int×Int :=
 if vBd s deep a b != 0 then (V.z,(vHd s deep a b).2.1,vBd s deep a b) else rdKd val s (kdOf (vHd s deep a b).1) (scOf (vHd s deep a b).1) (vHd s deep a b).2.1 (vBd s deep a b)
theorem rByte_ok (s:ByteArray)(a b:Int)(h0:0≤a)(h1:a≤s.size):0≤(rByte s a b).2.1∧(rByte s a b).2.1≤s.size:=by
 unfold rByte
 split
 ·exact ⟨h0,h1⟩
 ·split
  ·exact ⟨h0,h1⟩
  ·rename_i h
   have:¬ a≥s.size:=by simpa using h
   exact ⟨by show 0≤a+1; omega,by show a+1≤_; omega⟩
theorem vBd_deep {s:ByteArray}{deep a b:Int}(h:vBd s deep a b=0):deep≤8:=by
 by_cases hd:deep>8
 ·exfalso
  have hb:dpB deep b≠0:=by
   unfold dpB failB
   rw [if_pos (by simpa using hd)]
   split<;>simp_all
  have e:vHd s deep a b=(0,a,dpB deep b):=by unfold vHd rByte; rw [if_pos (by simpa using hb)]
  unfold vBd at h
  rw [e,if_neg (by show ¬ (decide (kdOf 0>6)=true); decide)] at h
  exact hb h
 ·omega
theorem ne0 {x:Int}(h:(x != 0)=false):x=0:=by simpa using h
set_option maxHeartbeats 4000000 in
theorem mValue (t:Bool)(s:ByteArray)(a b deep:Int)(val:Int→Int→V×Int×Int)(h0:0≤a)(h1:a≤s.size)(hv:deep≤8→ValOk t s deep val) :
  MCall Tryz.prog gl 96 [cR t s a b] [.ptr 0 0,intA .i64 deep]
   [cR t s (rdV1 val s deep a b).2.1 (rdV1 val s deep a b).2.2] (.ag (cV (rdV1 val s deep a b).1)):=by
 refine mcall_of_vcb htb hmix (f:=96) rfl rfl rfl (by kernel_rfl) rfl rfl rfl fun hb hb2=> ?_; simp only [bndPre,bndAll,AV.bnd,bnds,C.bnd,true_and,and_true] at hb hb2; conv=>whnf
 have R1:∀ b',0≤(rByte s a b').2.1∧(rByte s a b').2.1≤s.size:=fun b'=>rByte_ok s a b' h0 h1
 repeat' (first|(refine Exists.intro _ (And.intro (aZag _) ?_); conv=>whnf)|(refine Exists.intro _ (And.intro (aOf _) ?_); conv=>whnf)|(refine And.intro (fun h=> ?_) (fun h=> ?_)<;>(first|(with_reducible have hd:_<_:=of_decide_eq_true h)|(with_reducible have hd:¬ (_<_):=of_decide_eq_false h)|skip)<;>conv=>whnf)|(refine And.intro ?_ ?_; (focus (first|((conv=>whnf); intros; (try simp only [decide_eq_true_eq,decide_eq_false_iff_not,Bool.and_eq_true,Bool.or_eq_true,Bool.and_eq_false_imp,Bool.or_eq_false_iff,Bool.not_eq_true',Bool.not_eq_false',beq_iff_eq,bne_iff_ne,ne_eq] at *); (first|omega|fail)))); conv=>whnf)|((with_reducible refine xc_guard ?_); refine xc_mb (by first|(((conv=>whnf); repeat' (first|exact trivial|exact rfl|exact LeC.refl _|((with_reducible refine And.intro ?_ ?_)<;>conv=>whnf))); done)|fail) (mByte _ _ _ _ (by first|exact h0|exact (R1 _).1) (by first|exact h1|exact (R1 _).2)) rfl rfl rfl rfl ?_; conv=>whnf)|((with_reducible refine xc_guard ?_); refine xc_mb (by first|(((conv=>whnf); repeat' (first|exact trivial|exact rfl|exact LeC.refl _|((with_reducible refine And.intro ?_ ?_)<;>conv=>whnf))); done)|fail) (mShort _ _ _ _ (R1 _).1 (R1 _).2) rfl rfl rfl rfl ?_; conv=>whnf)|((with_reducible refine xc_guard ?_); refine xc_mb (by first|(((conv=>whnf); repeat' (first|exact trivial|exact rfl|exact LeC.refl _|((with_reducible refine And.intro ?_ ?_)<;>conv=>whnf))); done)|fail) (mText _ _ _ _ (R1 _).1 (R1 _).2) rfl rfl rfl rfl ?_; conv=>whnf)|((with_reducible refine xc_guard ?_); refine xc_mb (by first|(((conv=>whnf); repeat' (first|exact trivial|exact rfl|exact LeC.refl _|((with_reducible refine And.intro ?_ ?_)<;>conv=>whnf))); done)|fail) (mFail _ _ _ _ _) rfl rfl rfl rfl ?_; conv=>whnf)|((with_reducible refine xc_guard ?_); refine xc_mb (by first|(((conv=>whnf); repeat' (first|exact trivial|exact rfl|exact LeC.refl _|((with_reducible refine And.intro ?_ ?_)<;>conv=>whnf))); done)|fail) (mItems _ _ _ _ _ _ _ val (R1 _).1 (R1 _).2 (hv (by refine vBd_deep (s:=s) (a:=a) (b:=b) ?_; simp only [vBd,vHd,dpB,kdOf,if_true,if_false,Bool.false_eq_true,decide_true,decide_false,gt_iff_lt, *]; exact ne0 (by assumption)))) rfl rfl rfl rfl ?_; conv=>whnf)|((with_reducible refine xc_pure ?_); conv=>whnf))
 all_goals first
  | trivial
  | exact (Bool.noConfusion ((show (IntKind.i64.wrap _==4)=true by assumption).symm.trans (by assumption:_=false)))
  | (simp only [rdV1,vBd,vHd,dpB,rdKd,kdOf,scOf,if_true,if_false,Bool.false_eq_true,decide_true,decide_false,gt_iff_lt,Bool.or_true,Bool.or_false,Bool.true_or,Bool.false_or, *]; done)
  | (simp only [rdV1, vBd, vHd, dpB, rdKd, kdOf, scOf, if_true, if_false, Bool.false_eq_true, decide_true, decide_false, gt_iff_lt, Bool.or_true, Bool.or_false, Bool.true_or, Bool.false_or, *]
     refine ⟨leAg ⟨LeC.refl _,LeC.refl _,LeC.refl _,?_,?_,LeC.refl _,LeC.refl _,LeC.refl _,trivial⟩,⟨LeC.refl _,LeC.refl _,LeC.refl _,trivial⟩,trivial⟩<;>first|exact LeC.refl _|exact LeC.nil rfl)
def rdVal (s:ByteArray):Nat→Int→Int→Int→V×Int×Int
 | 0,deep,a,b=>rdV1 (fun a b=>(V.z,a,b)) s deep a b
 | m+1,deep,a,b=>rdV1 (rdVal s m (IntKind.i64.wrap (deep+1))) s deep a b
theorem rdIt_ok {val:Int→Int→V×Int×Int}{s:ByteArray}{kind:Int}(hv:∀ a b:Int,0≤a→a≤s.size→0≤(val a b).2.1∧(val a b).2.1≤s.size):∀ (m:Nat) (ks:List ByteArray) (l:List V) (a b:Int),0≤a→a≤s.size→0≤(rdIt val s kind m ks l a b).2.2.1∧(rdIt val s kind m ks l a b).2.2.1≤s.size
 | 0,ks,l,a,b,h0,h1=>⟨h0,h1⟩
 | m+1,ks,l,a,b,h0,h1=>by
  simp only [rdIt]
  split
  ·exact ⟨h0,h1⟩
  ·have hk:0≤(rdK s kind ks a b).2.1∧(rdK s kind ks a b).2.1≤s.size:=by
    unfold rdK
    split
    ·exact rText_ok s a b h0 h1
    ·exact ⟨h0,h1⟩
   have:=hv (rdK s kind ks a b).2.1 (rdK s kind ks a b).2.2 hk.1 hk.2
   exact rdIt_ok hv m _ _ _ _ this.1 this.2
theorem rdV1_ok {val:Int→Int→V×Int×Int}{s:ByteArray}{deep a b:Int}(hv:deep≤8→∀ a b:Int,0≤a→a≤s.size→0≤(val a b).2.1∧(val a b).2.1≤s.size)(h0:0≤a)(h1:a≤s.size):0≤(rdV1 val s deep a b).2.1∧(rdV1 val s deep a b).2.1≤s.size:=by
 have q:=rByte_ok s a (dpB deep b) h0 h1
 have q:0≤(vHd s deep a b).2.1∧(vHd s deep a b).2.1≤s.size:=q
 unfold rdV1
 split
 ·exact q
 ·rename_i hb
  have hv:=hv (vBd_deep (by simpa using hb))
  generalize (vHd s deep a b).2.1=a' at *
  generalize vBd s deep a b=b' at *
  unfold rdKd
  split
  ·exact rByte_ok s a' b' q.1 q.2
  ·split
   ·exact (rShort_ok s a' b' q.1 q.2).2
   ·split
    ·exact rText_ok s a' b' q.1 q.2
    ·split
     ·exact rByte_ok s a' b' q.1 q.2
     ·split
      ·have o:=rShort_ok s a' b' q.1 q.2
       exact rdIt_ok hv _ _ _ _ _ o.2.1 o.2.2
      ·exact q
theorem mVal (t:Bool)(s:ByteArray):∀ (m:Nat) (deep:Int),1≤deep→deep≤1000→9≤deep+m→∀ a b:Int,0≤a→a≤s.size→0≤(rdVal s m deep a b).2.1∧(rdVal s m deep a b).2.1≤s.size ∧
  MCall Tryz.prog gl 96 [cR t s a b] [.ptr 0 0,intA .i64 deep] [cR t s (rdVal s m deep a b).2.1 (rdVal s m deep a b).2.2] (.ag (cV (rdVal s m deep a b).1))
 | 0,deep,h1,h2,h3,a,b,ha,hb=>by
  have:=rdV1_ok (val:=fun a b=>(V.z,a,b)) (deep:=deep) (b:=b) (fun h=>by omega) ha hb
  exact ⟨this.1,this.2,mValue t s a b deep _ ha hb fun h=>by omega⟩
 | m+1,deep,h1,h2,h3,a,b,ha,hb=>by
  have ih:=fun h:deep≤8=>mVal t s m (deep+1) (by omega) (by omega) (by omega)
  have hw:deep≤8→IntKind.i64.wrap (deep+1)=deep+1:=fun h=>wrap64 (by omega) (by omega)
  have:=rdV1_ok (val:=rdVal s m (IntKind.i64.wrap (deep+1))) (deep:=deep) (b:=b) (fun h a b ha hb=>by rw [hw h]; exact ⟨(ih h a b ha hb).1,(ih h a b ha hb).2.1⟩) ha hb
  exact ⟨this.1,this.2,mValue t s a b deep _ ha hb fun h=>by
   intro a b ha hb
   rw [hw h]
   exact ih h a b ha hb⟩
def gV (s:ByteArray):V×Int×Int:=rdVal s 8 1 0 0
def gBd (s:ByteArray):Int:=if (gV s).2.2==0&&decide (weight (gV s).1>512) then failB (gV s).2.2 3 else (gV s).2.2
def cGet (s:ByteArray):V×Int×Int:=if gBd s != 0 then (V.z,0,gBd s) else ((gV s).1,(gV s).2.1,0)
theorem gV_ok (t:Bool)(s:ByteArray):0≤(gV s).2.1∧(gV s).2.1≤s.size∧MCall Tryz.prog gl 96 [cR t s 0 0] [.ptr 0 0,intA .i64 1] [cR t s (gV s).2.1 (gV s).2.2] (.ag (cV (gV s).1)) :=
 mVal t s 8 1 (by decide) (by decide) (by decide) 0 0 (Int.le_refl 0) (by omega)
set_option maxHeartbeats 1000000 in
theorem aGet (t:Bool)(s:ByteArray):ACall Tryz.prog gl 68 [.c (.sl t 1 s.size (strCells s))] [] (.tup [.ag (cV (cGet s).1),intA .i64 (cGet s).2.1,intA .i64 (cGet s).2.2]):=by
 refine acall_of_vc htb hmix (f:=68) rfl rfl rfl (by kernel_rfl) rfl rfl ?_; conv=>whnf
 have G:=gV_ok t s
 repeat' (first|((with_reducible refine GOr.l ?_); (conv=>whnf); refine Exists.intro _ (And.intro (chainI (aWeight _ _ _)) ?_); conv=>whnf)|(refine And.intro (fun h=> ?_) (fun h=> ?_)<;>(first|skip)<;>conv=>whnf)|((with_reducible apply Drawn.one); conv=>whnf)|((with_reducible refine Then.mk' ?_); conv=>whnf)|(first|exact RefS.self rfl|fail)|(refine And.intro ?_ ?_; (focus (first|exact rfl|fail)); conv=>whnf)|((with_reducible refine xc_guard ?_); refine xc_mb (by first|(((conv=>whnf); repeat' (first|exact trivial|exact rfl|exact LeC.refl _|((with_reducible refine And.intro ?_ ?_)<;>conv=>whnf))); done)|fail) ((gV_ok _ _).2.2) rfl rfl rfl rfl ?_; conv=>whnf)|((with_reducible refine xc_guard ?_); refine xc_mb (by first|(((conv=>whnf); repeat' (first|exact trivial|exact rfl|exact LeC.refl _|((with_reducible refine And.intro ?_ ?_)<;>conv=>whnf))); done)|fail) (mFail _ _ _ _ _) rfl rfl rfl rfl ?_; conv=>whnf)|fail)
 all_goals
  simp only [cGet,gBd,if_true,if_false,Bool.false_eq_true, *]
  exact leTup3 (leAg ⟨LeC.refl _,LeC.refl _,LeC.refl _,(by first|exact LeC.refl _|exact LeC.nil rfl),(by first|exact LeC.refl _|exact LeC.nil rfl),LeC.refl _,LeC.refl _,LeC.refl _,trivial⟩) (Le.refl _) (Le.refl _)
end Go.Proofs.YtiodgjgngfklkaaGreatDoor
