/- Contracts of functions of the program,and the laws that stand on them: what each function answers,whatever its arguments. -/
import Derived.Test.YtiodgjgngfklkaaGreatDoorTT
set_option linter.all false
set_option maxRecDepth 100000
set_option maxHeartbeats 8000000
namespace Go.Proofs.YtiodgjgngfklkaaGreatDoor
open Go Go.VA
theorem aRot (x:W)(k:Nat)(h0:0<k)(h:k<32):ACall Tryz.prog gl 143 [.c (cw x),intA .i64 (IntKind.i64.wrap (0-(k:Int)))] [] (.c (cw (x.rotateRight k))):=by
 have e0:IntKind.i64.wrap (0-(k:Int))=0-(k:Int):=IntWalk.i64_in _ (by omega)
 have e1:bitsI .and .u64 (IntKind.u64.wrap (IntKind.i64.wrap (0-(k:Int)))) 31=((32-k:Nat):Int):=by
  rw [e0]
  have:∀ k:Fin 32,0<k.1→bitsI .and .u64 (IntKind.u64.wrap (0-(k.1:Int))) 31=((32-k.1:Nat):Int):=by decide
  exact this ⟨k,h⟩ h0
 have e2:IntKind.u64.wrap (32-((32-k:Nat):Int))=(k:Int):=by
  show (32-((32-k:Nat):Int))%18446744073709551616=_
  omega
 refine acall_of_vc htb hmix (f:=143) rfl rfl rfl (by kernel_rfl) rfl rfl ?_; conv=>whnf
 repeat' (first|(refine And.intro ?_ ?_; (focus (first|(refine chainI ?_; (first|omega|fail))|fail)); conv=>whnf)|(rw [e1]; conv=>whnf)|(rw [e2]; conv=>whnf))
 refine Le.of_eq ?_
 show AV.c (C.v (.int .u32 _))=_
 rw [w_shl _ _ (by omega),w_shr _ _ (by omega),w_or,rot_of _ _ h]
theorem aRight (x:W)(k:Nat)(h0:0<k)(h:k<32):ACall Tryz.prog gl 120 [.c (cw x),intA .i64 (k:Int)] [] (.c (cw (x.rotateRight k))):=by
 refine acall_of_vc htb hmix (f:=120) rfl rfl rfl (by kernel_rfl) rfl rfl ?_; conv=>whnf
 repeat' (first|(refine Exists.intro _ (And.intro (aRot _ k h0 h) ?_); conv=>whnf)|((with_reducible refine xc_pure ?_); conv=>whnf))
 exact Le.refl _
def nB (b:Nat→UInt8) (o:Nat):Nat→Nat
 | 0=>0
 | k+1=>nB b o k*256+(b (o+k)).toNat
theorem nB_lt (b:Nat→UInt8)(o:Nat):∀ k,nB b o k<256 ^ k
 | 0=>by simp [nB]
 | k+1=>by
  have:=nB_lt b o k
  have h2:=(b (o+k)).toNat_lt
  simp only [nB,Nat.pow_succ]
  omega
theorem nB_step (n:Nat)(x:UInt8)(h:n<72057594037927936):bitsI .or .u64 (shlI .u64 (n:Int) 8) (IntKind.u64.wrap (x.toNat:Int))=((n*256+x.toNat:Nat):Int):=by
 have hx:=x.toNat_lt
 have e1:shlI .u64 (n:Int) 8=((n <<< 8:Nat):Int):=by
  have:shlI .u64 (n:Int) 8=((n:Int)*256)%18446744073709551616:=rfl
  rw [this,Nat.shiftLeft_eq]; omega
 have e2:IntKind.u64.wrap (x.toNat:Int)=(x.toNat:Int):=by
  show (x.toNat:Int)%18446744073709551616=_
  omega
 rw [e1,e2]
 have e3:n <<< 8+x.toNat=n <<< 8 ||| x.toNat:=Nat.shiftLeft_add_eq_or_of_lt (i:=8) (by omega) n
 have h8:n <<< 8=n*256:=by rw [Nat.shiftLeft_eq]
 show IntKind.u64.wrap (((BitVec.ofInt 64 ((n <<< 8:Nat):Int) ||| BitVec.ofInt 64 (x.toNat:Int)).toNat:Nat):Int)=_
 rw [BitVec.toNat_or,BitVec.ofInt_natCast,BitVec.ofInt_natCast,BitVec.toNat_ofNat,BitVec.toNat_ofNat,Nat.mod_eq_of_lt (by rw [h8]; omega),Nat.mod_eq_of_lt (by omega),← e3,h8]
 show ((n*256+x.toNat:Nat):Int)%18446744073709551616=_
 omega
theorem aNumGet (t:Bool)(n:Nat)(b:Nat→UInt8)(w:Nat)(h1:1≤w)(h8:w≤8):ACall Tryz.prog gl 37 [.c (.sl t 1 n (byF b)),intA .i64 (w:Int)] []
  (.tup [intA .u64 (if n<w then 0 else (nB b 0 w:Int)),intA .i64 (if n<w then 2 else 0)]):=by
 refine acall_of_vcb htb hmix (f:=37) rfl rfl rfl (by kernel_rfl) rfl rfl fun hb=> ?_; simp only [bndAll,AV.bnd,bnds,C.bnd,cVt,cS,true_and,and_true] at hb; conv=>whnf
 have hn:n≤140737488355328:=hb.1.1
 repeat' (first|(refine And.intro (fun h=> ?_) (fun h=> ?_)<;>(first|(with_reducible have hd:_<_:=of_decide_eq_true h)|(with_reducible have hd:¬ (_<_):=of_decide_eq_false h)|skip)<;>conv=>whnf)|(refine And.intro ?_ ?_; (focus (first|(refine chainI ?_; (first|omega|fail))|fail)); conv=>whnf)|fail)
 ·exfalso
  simp at *
  omega
 ·have:((n:Int)<w):=hd
  have hlt:n<w:=by omega
  rw [if_pos hlt,if_pos hlt]; exact Le.refl _
 ·have:¬ ((n:Int)<w):=hd
  have hlt:¬ n<w:=by omega
  rw [if_neg hlt,if_neg hlt]
  refine loopI Nat (fun i=>i≤w) (fun i=>[(25,intA .i64 i),(6,intA .u64 (nB b 0 i))]) (fun _=>[]) (fun i=>w-i) 0 (Nat.zero_le _) ?_ (fun _=>rfl) fun i hi=> ?_
  ·(refine And.intro ?_ (And.intro ?_ (And.intro ?_ rfl))<;>(conv=>whnf)<;>repeat' (first|exact trivial|exact LeE.of (Le.refl _)|(first|exact rfl|fail)|((with_reducible refine And.intro ?_ ?_)<;>conv=>whnf)))
  ·change i≤w at hi
   conv=>whnf
   repeat' (first|(refine And.intro (fun h=> ?_) (fun h=> ?_)<;>(first|(with_reducible have hd:_<_:=of_decide_eq_true h)|(with_reducible have hd:¬ (_<_):=of_decide_eq_false h)|fail)<;>conv=>whnf)|(refine And.intro ?_ ?_; (focus (first|(refine chainI ?_; (first|decide|omega|fail))|fail)); conv=>whnf)|fail)
   ·have hi':i<w:=by
     have:(i:Int)<((w:Int).toNat-0:Nat):=hd
     omega
    refine ⟨i+1,hi',?_,by show w-(i+1)<w-i; omega⟩
    have hp:nB b 0 i<72057594037927936:=Nat.lt_of_lt_of_le (nB_lt b 0 i) (Nat.le_trans (Nat.pow_le_pow_right (by decide) (show i≤7 by omega)) (by decide))
    have e:bitsI .or .u64 (shlI .u64 (nB b 0 i:Int) 8) (IntKind.u64.wrap ((b (0+i)).toNat:Int))=(nB b 0 (i+1):Int):=by
     rw [nB_step _ _ hp]; rfl
    (refine And.intro ?_ (And.intro ?_ (And.intro ?_ rfl))<;>(conv=>whnf)<;>repeat' (first|exact trivial|exact LeE.of (Le.refl _)|(with_reducible refine LeE.of ?_)|(first|exact leI e|exact rfl|exact leI (by first|rfl|(rw [wrap64 (by omega) (by omega)]; omega)|fail)|fail)|((with_reducible refine And.intro ?_ ?_)<;>conv=>whnf)))
   ·have:¬ ((i:Int)<((w:Int).toNat-0:Nat)):=hd
    obtain rfl:i=w:=by omega
    exact Le.refl _
theorem u64nnS (n:Int):0≤IntKind.u64.wrap n:=by
 show 0≤n%_
 exact Int.emod_nonneg _ (by decide)
theorem catF_nilS {n:Nat}{f:Nat→List C}(i:Nat)(hi:i<n)(g:Nat→List C):catF 0 n f g i=f i:=by unfold catF; rw [if_pos hi,Nat.zero_add]
theorem gSClone (t:Bool)(n:Nat)(f:Nat→List C):GCall Tryz.prog gl 35 [] [.c (.sl t 1 n f)] [.row 1 n f] [.own 0 1 0 n]:=by
 refine gcall_of_vcb htb hmix (f:=35) rfl rfl rfl (by kernel_rfl) rfl rfl rfl fun hb hb2=> ?_; simp only [bndOs,bndO,gbnds,AV.gbnd,bnds,C.bnd,true_and,and_true] at hb hb2; conv=>whnf
 have hn:n≤140737488355328:=hb2.1
 have B1:n*(tb 5).bytes≤140737488355328:=by show n*1≤_; omega
 repeat' (first|(refine And.intro (fun h=> ?_) (fun h=> ?_)<;>(first|skip)<;>conv=>whnf)|((with_reducible refine NilOr.l ?_); conv=>whnf)|((with_reducible refine OwnOr.l ?_); (conv=>whnf))|(refine And.intro ?_ ?_; (focus (first|exact rfl|(first|assumption)|fail)); conv=>whnf)|fail)
 ·have h:n=0:=h rfl
  subst h
  ((conv=>whnf); repeat' (first|exact trivial|exact rfl|((with_reducible refine And.intro ?_ ?_)<;>conv=>whnf)))
  all_goals exact fun i hi=>absurd hi (Nat.not_lt_zero _)
 ·((conv=>whnf); repeat' (first|exact trivial|exact rfl|exact (fun i hi=>LeCs.refl _)|((with_reducible refine And.intro ?_ ?_)<;>conv=>whnf)))
theorem putB_eq (k w i:Nat)(hk:k<2 ^ 64)(hi:i<w)(hw:w≤8):IntKind.u8.wrap (shrI .u64 (k:Int) (IntKind.u64.wrap (8*IntKind.u64.wrap ((w:Int)-1-i))))=((putB k w i).toNat:Int):=by
 have e1:IntKind.u64.wrap ((w:Int)-1-i)=((w-1-i:Nat):Int):=by
  show ((w:Int)-1-i)%18446744073709551616=_
  omega
 have e2:IntKind.u64.wrap (8*((w-1-i:Nat):Int))=((8*(w-1-i):Nat):Int):=by
  show (8*((w-1-i:Nat):Int))%18446744073709551616=_
  omega
 rw [e1,e2]
 generalize hj:w-1-i=j
 have e3:shrI .u64 (k:Int) ((8*j:Nat):Int)=((k/256 ^ j:Nat):Int):=by
  have:shrI .u64 (k:Int) ((8*j:Nat):Int)=(k:Int).fdiv (2 ^ (min (8*j) 64)):=rfl
  rw [this,Nat.min_eq_left (by omega),Int.fdiv_eq_ediv_of_nonneg _ (by exact_mod_cast Nat.zero_le _),show 256 ^ j=2 ^ (8*j) from by rw [Nat.pow_mul]]
  push_cast
  rfl
 rw [e3]
 unfold putB
 rw [hj,UInt8.toNat_ofNat']
 show ((k/256 ^ j:Nat):Int)%256=_
 omega
theorem catF_put {n:Nat}{f:Nat→List C}(k w j:Nat)(m:Nat)(hm:m=n+j)(x:Int)(hx:x=((putB k w j).toNat:Int))(i:Nat)(hi:i<n+j+1):catF 0 m (catF 0 n f (byF (putB k w))) (nthC [[C.v (.int .u8 x)]]) i=catF 0 n f (byF (putB k w)) i:=by
 subst hm hx
 unfold catF
 by_cases h1:i<n
 ·rw [if_pos (by omega),if_pos (by omega),Nat.zero_add]
  rw [if_pos h1]
 ·by_cases h2:i<n+j
  ·rw [if_pos h2,if_neg (by omega),if_neg h1,Nat.zero_add]
  ·rw [if_neg h2,if_neg h1]
   obtain rfl:i=n+j:=by omega
   rw [Nat.sub_self,show n+j-n=j by omega]; rfl
theorem gNPut (t:Bool)(n:Nat)(f:Nat→List C)(k w:Nat)(hk:k<2 ^ 64)(h1:1≤w)(h8:w≤8)(hn:n+w≤140737488355328) :
  GCall Tryz.prog gl 57 [] [.c (.sl t 1 n f),intA .u64 k,intA .i64 (w:Int)] [.row 1 (n+w) (catF 0 n f (byF (putB k w)))] [.own 0 1 0 (n+w)]:=by
 refine gcall_of_vcb htb hmix (f:=57) rfl rfl rfl (by kernel_rfl) rfl rfl rfl fun hb hb2=> ?_; simp only [bndOs,bndO,gbnds,AV.gbnd,bnds,C.bnd,true_and,and_true] at hb hb2; conv=>whnf
 repeat' (first|(refine And.intro (fun h=> ?_) (fun h=> ?_)<;>(first|skip)<;>conv=>whnf)|((with_reducible refine NilOr.l ?_); conv=>whnf)|(refine And.intro ?_ ?_; (focus (first|exact rfl|((conv=>whnf); intros; (try simp only [decide_eq_true_eq,decide_eq_false_iff_not,Bool.and_eq_true,Bool.or_eq_true,Bool.and_eq_false_imp,Bool.or_eq_false_iff,Bool.not_eq_true',Bool.not_eq_false',beq_iff_eq,bne_iff_ne,ne_eq] at *); (first|omega|fail)))); conv=>whnf)|((with_reducible refine xc_guard ?_); (first|(refine xc_g (gSClone _ _ _) false (by first|(((conv=>whnf); repeat' (first|exact trivial|exact rfl|exact LeC.refl _|((with_reducible refine And.intro ?_ ?_)<;>conv=>whnf))); done)|fail) trivial ?_)|fail); conv=>whnf)|fail)
 ·exfalso
  simp at *
  omega
 ·refine loopI Nat (fun i=>i≤w) (fun i=>[(7,.own 1 1 0 (n+i)),(8,intA .i64 ((w:Int)-1-i))])
   (fun i=>[.row 1 0 (fun _=>[]),.row 1 (n+i) (catF 0 n f (byF (putB k w)))]) (fun i=>w-i) 0 (Nat.zero_le _) ?_ (fun _=>rfl) fun i hi=> ?_
  ·have e:IntKind.i64.wrap ((w:Int)-1)=(w:Int)-1-(0:Nat):=by rw [wrap64 (by omega) (by omega)]; simp
   have ec:∀ i,i<n→f i=catF 0 n f (byF (putB k w)) i:=fun i hi=>(catF_nilS i hi _).symm
   (refine And.intro ?_ (And.intro ?_ (And.intro ?_ rfl))<;>(conv=>whnf)<;>repeat' (first|exact trivial|exact LeE.of (Le.refl _)|(with_reducible refine LeE.of ?_)|(first|exact leI e|exact fun i hi=>LeCs.of_eq (ec i hi)|exact rfl|exact fun i hi=>LeCs.refl _|fail)|((with_reducible refine And.intro ?_ ?_)<;>conv=>whnf)))
  ·change i≤w at hi
   have B1:i<w→(n+i+1)*(tb 5).bytes≤140737488355328:=fun h=>by show (n+i+1)*1≤_; omega
   conv=>whnf
   repeat' (first|(refine And.intro (fun h=> ?_) (fun h=> ?_)<;>(first|(with_reducible have hd:_≤_:=of_decide_eq_true h)|(with_reducible have hd:¬ (_≤_):=of_decide_eq_false h)|fail)<;>conv=>whnf)|((with_reducible refine OwnOr.l ?_); (conv=>whnf))|(refine And.intro ?_ ?_; (focus (first|exact rfl|(first|exact u64nnS _|exact B1 (by omega)|fail)|fail)); conv=>whnf)|fail)
   ·have hi':i<w:=by
     have:0≤(w:Int)-1-i:=hd
     omega
    refine ⟨i+1,hi',?_,by show w-(i+1)<w-i; omega⟩
    have e:IntKind.i64.wrap ((w:Int)-1-i-1)=(w:Int)-1-(i+1:Nat):=by rw [wrap64 (by omega) (by omega)]; omega
    have ec:=catF_put (n:=n) (f:=f) k w i (n+i) rfl _ (putB_eq k w i hk hi' h8)
    (refine And.intro ?_ (And.intro ?_ (And.intro ?_ rfl))<;>(conv=>whnf)<;>repeat' (first|exact trivial|exact LeE.of (Le.refl _)|(with_reducible refine LeE.of ?_)|(first|exact leI e|exact fun i hi=>LeCs.of_eq (ec i hi)|exact rfl|exact fun i hi=>LeCs.refl _|fail)|((with_reducible refine And.intro ?_ ?_)<;>conv=>whnf)))
   ·have:¬ (0≤(w:Int)-1-i):=hd
    obtain rfl:i=w:=by omega
    ((conv=>whnf); repeat' (first|exact trivial|exact rfl|exact (fun i hi=>LeCs.refl _)|((with_reducible refine And.intro ?_ ?_)<;>conv=>whnf)))
theorem zAr (t n:Nat)(h:boxC (tb t).zero=(List.range n).map fun _=> .c (.v (.int .u32 0))):boxC (tb t).zero=List.map AV.c (arrC (fun _=>cw 0) n):=by
 rw [h,arrC_def,List.map_map]
 simp only [cw,wI_zero,Function.comp_def]
theorem z64:boxC (tb 180).zero=List.map AV.c (arrC (fun _=>cw 0) 64):=zAr _ 64 rfl
noncomputable def layW (b:Nat→UInt8) (i j:Nat):C:=cw (if j<i then wT b j else 0)
theorem aSpread (t:Bool)(b:Nat→UInt8):ACall Tryz.prog gl 119 [.c (.sl t 1 64 (byF b))] [] (.ag (arrC (fun i=>cw (wT b i)) 64)):=by
 refine acall_of_vc htb hmix (f:=119) rfl rfl rfl (by kernel_rfl) rfl rfl ?_; conv=>whnf
 repeat' (fail)
 refine loopI Nat (fun i=>i≤16) (fun i=>[(10,intA .i64 i)]) (fun i=>[.box (List.map AV.c (arrC (fun _=>cw 0) 64)),.box (List.map AV.c (arrC (layW b i) 64))]) (fun i=>16-i) 0 (Nat.zero_le _) ?_ (fun _=>rfl) fun i hi=> ?_
 ·have ea:∀ j,j<64→cw 0=layW b 0 j:=fun j _=>by unfold layW; rw [if_neg (by omega)]
  rw [z64]
  (refine And.intro ?_ (And.intro ?_ (And.intro ?_ rfl))<;>(conv=>whnf)<;>repeat' (first|exact trivial|exact LeE.of (Le.refl _)|(first|exact LeAs_c _ _ _|exact rfl|fail)|((with_reducible refine And.intro ?_ ?_)<;>conv=>whnf)))
 ·change i≤16 at hi
  conv=>whnf
  repeat' (first|(refine Exists.intro _ (And.intro (aNumGet _ _ _ 4 (by decide) (by decide)) ?_); conv=>whnf)|(refine And.intro (fun h=> ?_) (fun h=> ?_)<;>(first|(with_reducible have hd:_<_:=of_decide_eq_true h)|(with_reducible have hd:¬ (_<_):=of_decide_eq_false h)|fail)<;>conv=>whnf)|(refine And.intro ?_ ?_; (focus (first|(refine chainI ?_; (first|omega|(simp only [IntKind.wrap_i64]; first|omega|(refine And.intro ?_ ?_<;>omega))))|fail)); conv=>whnf)|((with_reducible refine xc_pure ?_); conv=>whnf)|((rw [arrA_layX]; rotate_left; exact rfl; exact rfl; (focus (first|omega|fail))); conv=>whnf)|fail)
  ·have hi':i<16:=by omega
   refine ⟨i+1,hi',?_,by show 16-(i+1)<16-i; omega⟩
   have e4:(IntKind.i64.wrap (4*(i:Int))).toNat=4*i:=by rw [wrap64 (by omega) (by omega)]; omega
   have ea:∀ j,j<64→updC (layW b i) (0+(i:Int).toNat) (C.v (.int .u32 (IntKind.u32.wrap (if 64-(IntKind.i64.wrap (4*(i:Int))).toNat<4 then 0 else (nB (fun k=>b ((IntKind.i64.wrap (4*(i:Int))).toNat+k)) 0 4:Int))))) j=layW b (i+1) j:=fun j hj=>by
    rw [e4,if_neg (by omega),w_of]
    unfold updC layW
    by_cases hji:j=0+(i:Int).toNat
    ·rw [if_pos hji]
     obtain rfl:j=i:=by omega
     rw [if_pos (by omega),wT_lo _ _ hi']
     congr 3
     unfold wB
     congr 1
     simp only [nB,Nat.zero_add,Nat.zero_mul,Nat.add_zero]
    ·rw [if_neg hji]
     by_cases hji2:j<i
     ·rw [if_pos hji2,if_pos (by omega)]
     ·rw [if_neg hji2,if_neg (by omega)]
   (refine And.intro ?_ (And.intro ?_ (And.intro ?_ rfl))<;>(conv=>whnf)<;>repeat' (first|exact trivial|exact LeE.of (Le.refl _)|(with_reducible refine LeE.of ?_)|(first|exact LeAs_c _ _ _|exact LeAs_arr ea|exact rfl|exact leI (by first|rfl|(rw [wrap64 (by omega) (by omega)]; omega)|fail)|fail)|((with_reducible refine And.intro ?_ ?_)<;>conv=>whnf)))
  ·obtain rfl:i=16:=by omega
   refine loopI Nat (fun i=>16≤i∧i≤64) (fun i=>[(7,intA .i64 i)]) (fun i=>[.box (List.map AV.c (arrC (fun _=>cw 0) 64)),.box (List.map AV.c (arrC (layW b i) 64))]) (fun i=>64-i) 16 (by decide) ?_ (fun _=>rfl) fun i hi=> ?_
   ·(refine And.intro ?_ (And.intro ?_ (And.intro ?_ rfl))<;>(conv=>whnf)<;>repeat' (first|exact trivial|exact LeE.of (Le.refl _)|(first|exact LeAs_c _ _ _|exact rfl|fail)|((with_reducible refine And.intro ?_ ?_)<;>conv=>whnf)))
   ·change 16≤i∧i≤64 at hi
    obtain ⟨hi1,hi2⟩:=hi
    conv=>whnf
    repeat' (first|(refine Exists.intro _ (And.intro (chainI (aRight _ 7 (by decide) (by decide))) ?_); conv=>whnf)|(refine Exists.intro _ (And.intro (chainI (aRight _ 17 (by decide) (by decide))) ?_); conv=>whnf)|(refine Exists.intro _ (And.intro (chainI (aRight _ 18 (by decide) (by decide))) ?_); conv=>whnf)|(refine Exists.intro _ (And.intro (chainI (aRight _ 19 (by decide) (by decide))) ?_); conv=>whnf)|(refine And.intro (fun h=> ?_) (fun h=> ?_)<;>(first|(with_reducible have hd:_<_:=of_decide_eq_true h)|(with_reducible have hd:¬ (_<_):=of_decide_eq_false h)|fail)<;>conv=>whnf)|((with_reducible refine DOr.l ?_); (conv=>whnf))|((with_reducible refine FzOr.l ?_); conv=>whnf)|(refine And.intro ?_ ?_; (focus (first|(refine chainI ?_; (first|decide|omega|(simp only [IntKind.wrap_i64]; first|omega|(refine And.intro ?_ ?_<;>omega))))|fail)); conv=>whnf)|((rw [arrA_cutZ]; rotate_left; exact rfl; exact rfl; (focus (first|(simp only [IntKind.wrap_i64]; omega)))); conv=>whnf)|((rw [arrA_layX]; rotate_left; exact rfl; exact rfl; (focus (first|omega|fail))); conv=>whnf)|((rw [arrA_cutN]; rotate_left; exact rfl); conv=>whnf)|(rw [arrA_len]; conv=>whnf)|((rw [layA_allN]; rotate_left; (focus (first|exact arrA_len _ _))); conv=>whnf)|((rw [mkA_arr]; rotate_left; exact rfl); conv=>whnf)|fail)
    ·have hi':i<64:=by omega
     refine ⟨i+1,⟨by omega,by omega⟩,?_,by show 64-(i+1)<64-i; omega⟩
     have q16:0+(IntKind.i64.wrap ((i:Int)-16)).toNat=i-16:=by rw [wrap64 (by omega) (by omega)]; omega
     have q15:0+(IntKind.i64.wrap ((i:Int)-15)).toNat=i-15:=by rw [wrap64 (by omega) (by omega)]; omega
     have q7:0+(IntKind.i64.wrap ((i:Int)-7)).toNat=i-7:=by rw [wrap64 (by omega) (by omega)]; omega
     have q2:0+(IntKind.i64.wrap ((i:Int)-2)).toNat=i-2:=by rw [wrap64 (by omega) (by omega)]; omega
     have qi:0+((i:Int)).toNat=i:=by omega
     have s3:∀ x:W,shrI .u32 (wI x) 3=wI (x >>> 3):=fun x=>w_shr x 3 (by decide)
     have s10:∀ x:W,shrI .u32 (wI x) 10=wI (x >>> 10):=fun x=>w_shr x 10 (by decide)
     have p16:i-16<i:=by omega
     have p15:i-15<i:=by omega
     have p7:i-7<i:=by omega
     have p2:i-2<i:=by omega
     (refine And.intro ?_ (And.intro ?_ (And.intro ?_ rfl))<;>(conv=>whnf)<;>repeat' (first|exact trivial|exact LeE.of (Le.refl _)|(with_reducible refine LeE.of ?_)|(first|exact LeAs_c _ _ _|(refine LeAs_arr (fun j hj=> ?_); simp only [updC,layW,q16,q15,q7,q2,qi,p16,p15,p7,p2,if_true,s3,s10,w_xor,w_add]; by_cases hji:j=i; (· subst hji; rw [if_pos rfl,if_pos (Nat.lt_succ_self _),wT_hi _ _ hi1 hi']; rfl); (· rw [if_neg hji]; by_cases hji2:j<i; (· rw [if_pos hji2,if_pos (by omega)]); (· rw [if_neg hji2,if_neg (by omega)])))|exact rfl|exact leI (by first|rfl|(rw [wrap64 (by omega) (by omega)]; omega)|fail)|fail)|((with_reducible refine And.intro ?_ ?_)<;>conv=>whnf)))
    ·obtain rfl:i=64:=by omega
     have ez:arrC (layW b 64) 64=arrC (fun i=>cw (wT b i)) 64:=arrC_congr fun j hj=>by unfold layW; rw [if_pos hj]
     rw [ez]
     exact Le.refl _
end Go.Proofs.YtiodgjgngfklkaaGreatDoor
