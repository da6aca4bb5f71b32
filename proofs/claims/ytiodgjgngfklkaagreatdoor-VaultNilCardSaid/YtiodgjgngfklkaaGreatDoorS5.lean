/- Contracts of functions of the program,and the laws that stand on them: what each function answers,whatever its arguments. -/
import Derived.Test.YtiodgjgngfklkaaGreatDoorS1
set_option linter.all false
set_option maxRecDepth 100000
set_option maxHeartbeats 8000000
namespace Go.Proofs.YtiodgjgngfklkaaGreatDoor
open Go Go.VA
noncomputable abbrev bW8 (h:Nat→W):List AV:=[.c (cw (h 0)),.c (cw (h 1)),.c (cw (h 2)),.c (cw (h 3)),.c (cw (h 4)),.c (cw (h 5)),.c (cw (h 6)),.c (cw (h 7))]
theorem gl1:gl.cells glR=rndC:=rfl
theorem qm:(if IntKind.u32.signed=true then -1 else IntKind.u32.max)=(4294967295:Int):=rfl
theorem aThrough (t:Bool)(hh:Nat→W)(b:Nat→UInt8):ACall Tryz.prog gl 94 [.ag (cW8 hh),.c (.sl t 1 64 (byF b))] [] (.ag (cW8 (thr hh b))):=by
 refine acall_of_vc htb hmix (f:=94) rfl rfl rfl (by kernel_rfl) rfl rfl ?_; conv=>whnf
 repeat' (first|(refine Exists.intro _ (And.intro (aSpread _ _) ?_); conv=>whnf)|((with_reducible refine FzOr.l ?_); conv=>whnf)|((with_reducible refine xc_pure ?_); conv=>whnf)|(rw [arrA_len]; conv=>whnf)|((rw [layA_allN]; rotate_left; (focus (first|exact rfl|fail))); conv=>whnf)|fail)
 refine loopI Nat (fun i=>i≤64) (fun i=>[(16,intA .i64 i)]) (fun i=>[.box (bW8 hh),.box (boxC (tb 150).zero),.box (List.map AV.c (arrC (fun j=>cw (wT b j)) 64)),.box (bW8 (rounds (wT b) hh i))]) (fun i=>64-i) 0 (Nat.zero_le _) ?_ (fun _=>rfl) fun i hi=> ?_
 ·(refine And.intro ?_ (And.intro ?_ (And.intro ?_ rfl))<;>(conv=>whnf)<;>repeat' (first|exact trivial|exact LeE.of (Le.refl _)|(first|exact LeAs_c _ _ _|exact rfl|fail)|((with_reducible refine And.intro ?_ ?_)<;>conv=>whnf)))
 ·change i≤64 at hi
  conv=>whnf
  repeat' (first|(refine Exists.intro _ (And.intro (chainI (aRight _ 2 (by decide) (by decide))) ?_); conv=>whnf)|(refine Exists.intro _ (And.intro (chainI (aRight _ 6 (by decide) (by decide))) ?_); conv=>whnf)|(refine Exists.intro _ (And.intro (chainI (aRight _ 11 (by decide) (by decide))) ?_); conv=>whnf)|(refine Exists.intro _ (And.intro (chainI (aRight _ 13 (by decide) (by decide))) ?_); conv=>whnf)|(refine Exists.intro _ (And.intro (chainI (aRight _ 22 (by decide) (by decide))) ?_); conv=>whnf)|(refine Exists.intro _ (And.intro (chainI (aRight _ 25 (by decide) (by decide))) ?_); conv=>whnf)|(refine And.intro (fun h=> ?_) (fun h=> ?_)<;>(first|(with_reducible have hd:_<_:=of_decide_eq_true h)|(with_reducible have hd:¬ (_<_):=of_decide_eq_false h)|fail)<;>conv=>whnf)|((with_reducible refine DOr.l ?_); (conv=>whnf))|(refine And.intro ?_ ?_; (focus (first|(refine chainI ?_; (first|decide|omega|fail))|fail)); conv=>whnf)|(rw [gl1]; conv=>whnf)|((rw [arrA_cutZ]; rotate_left; exact rfl; exact rfl; (focus (first|omega|fail))); conv=>whnf)|((rw [arrC_cutZ]; rotate_left; exact rfl; exact rfl; (focus (first|omega|fail))); conv=>whnf)|fail)
  ·have hi':i<64:=by omega
   refine ⟨i+1,hi',?_,by show 64-(i+1)<64-i; omega⟩
   have qi:0+((i:Int)).toNat=i:=by omega
   (refine And.intro ?_ (And.intro ?_ (And.intro ?_ rfl))<;>(conv=>whnf)<;>repeat' (first|exact trivial|exact LeE.of (Le.refl _)|(with_reducible refine LeE.of ?_)|(first|exact LeAs_c _ _ _|exact leI (by simp only [qi,qm,w_add,w_xor,w_and,w_not]; rfl)|exact rfl|exact leI (by first|rfl|(rw [wrap64 (by omega) (by omega)]; omega)|fail)|fail)|((with_reducible refine And.intro ?_ ?_)<;>conv=>whnf)))
  ·obtain rfl:i=64:=by omega
   refine loopI Nat (fun i=>i≤8) (fun i=>[(98,intA .i64 i)]) (fun i=>[.box (List.map AV.c (arrC (fun j=>cw (if j<i then hh j+rounds (wT b) hh 64 j else hh j)) 8)),.box (boxC (tb 150).zero),.box (List.map AV.c (arrC (fun j=>cw (wT b j)) 64)),.box (List.map AV.c (arrC (fun j=>cw (rounds (wT b) hh 64 j)) 8))]) (fun i=>8-i) 0 (Nat.zero_le _) ?_ (fun _=>rfl) fun i hi=> ?_
   ·(refine And.intro ?_ (And.intro ?_ (And.intro ?_ rfl))<;>(conv=>whnf)<;>repeat' (first|exact trivial|exact LeE.of (Le.refl _)|(first|exact LeAs_c _ _ _|exact LeAs_of (by rw [arrC_def]; rfl)|exact rfl|fail)|((with_reducible refine And.intro ?_ ?_)<;>conv=>whnf)))
   ·change i≤8 at hi
    conv=>whnf
    repeat' (first|(refine And.intro (fun h=> ?_) (fun h=> ?_)<;>(first|(with_reducible have hd:_<_:=of_decide_eq_true h)|(with_reducible have hd:¬ (_<_):=of_decide_eq_false h)|fail)<;>conv=>whnf)|(refine And.intro ?_ ?_; (focus (first|(refine chainI ?_; (first|omega|fail))|fail)); conv=>whnf)|((rw [arrA_cutZ]; rotate_left; exact rfl; exact rfl; (focus (first|omega|fail))); conv=>whnf)|((rw [arrA_layX]; rotate_left; exact rfl; exact rfl; (focus (first|omega|fail))); conv=>whnf)|((rw [arrA_cutN]; rotate_left; exact rfl); conv=>whnf)|(rw [arrA_len]; conv=>whnf)|((rw [layA_allN]; rotate_left; (focus (first|exact rfl|fail))); conv=>whnf)|((rw [mkA_arr]; rotate_left; exact rfl); conv=>whnf)|fail)
    ·have hi':i<8:=by omega
     refine ⟨i+1,hi',?_,by show 8-(i+1)<8-i; omega⟩
     have qi:0+((i:Int)).toNat=i:=by omega
     (refine And.intro ?_ (And.intro ?_ (And.intro ?_ rfl))<;>(conv=>whnf)<;>repeat' (first|exact trivial|exact LeE.of (Le.refl _)|(with_reducible refine LeE.of ?_)|(first|exact LeAs_c _ _ _|(refine LeAs_arr (fun j hj=> ?_); simp only [updC,qi,w_add]; by_cases hji:j=i; (· subst hji; rw [if_pos rfl,if_pos (Nat.lt_succ_self _),if_neg (Nat.lt_irrefl _)]); (· rw [if_neg hji]; by_cases hji2:j<i; (· rw [if_pos hji2,if_pos (by omega)]); (· rw [if_neg hji2,if_neg (by omega)])))|exact rfl|exact leI (by first|rfl|(rw [wrap64 (by omega) (by omega)]; omega)|fail)|fail)|((with_reducible refine And.intro ?_ ?_)<;>conv=>whnf)))
    ·obtain rfl:i=8:=by omega
     have ez:arrC (fun j=>cw (if j<8 then hh j+rounds (wT b) hh 64 j else hh j)) 8=cW8 (thr hh b):=by
      rw [arrC_def]; rfl
     rw [ez]
     exact Le.refl _
noncomputable abbrev wrB (h:Nat→W) (sz:Nat) (x:AV):List AV:=[.c (cw (h 0)),.c (cw (h 1)),.c (cw (h 2)),.c (cw (h 3)),.c (cw (h 4)),.c (cw (h 5)),.c (cw (h 6)),.c (cw (h 7)),.c (.v (.int .u64 (sz:Int))),x]
theorem gNew:GCall Tryz.prog gl 62 [] [] [.box (wrB bT 0 (.c (.v (.slice none 0 0))))] [.ptr 0 0]:=by
 refine gcall_of_vcb htb hmix (f:=62) rfl rfl rfl (by kernel_rfl) rfl rfl rfl fun hb hb2=> ?_; simp only [bndOs,bndO,gbnds,AV.gbnd,bnds,C.bnd,true_and,and_true] at hb hb2; conv=>whnf
 repeat' (first|(refine And.intro ?_ ?_; (focus (first|exact rfl|fail)); conv=>whnf)|fail)
 ((conv=>whnf); repeat' (first|exact trivial|exact rfl|exact LeC.refl _|((with_reducible refine And.intro ?_ ?_)<;>conv=>whnf)))
noncomputable abbrev wrM (m:Nat→UInt8) (n:Nat) (x:AV):AO:= .box (wrB (thrs bT m (n/64)) n x)
abbrev rwM (m:Nat→UInt8) (n:Nat):AO:= .row 1 (n%64) (byF fun i=>m (64*(n/64)+i))
theorem gWrite (t:Bool)(m c:Nat→UInt8)(n k:Nat)(hn:n+k≤140737488355328) :
  GCall Tryz.prog gl 63 [wrM m n (.own 1 1 0 (n%64)),rwM m n] [.ptr 0 0,.c (.sl t 1 k (byF c))] [wrM (catB n m c) (n+k) (.own 1 1 0 ((n+k)%64)),rwM (catB n m c) (n+k)] []:=by
 refine gcall_of_vcb htb hmix (f:=63) rfl rfl rfl (by kernel_rfl) rfl rfl rfl fun hb hb2=> ?_; simp only [bndOs,bndO,gbnds,AV.gbnd,bnds,C.bnd,true_and,and_true] at hb hb2; conv=>whnf
 have B1:(n%64+k)*(tb 5).bytes≤140737488355328:=by show (n%64+k)*1≤_; omega
 repeat' (first|(refine And.intro (fun h=> ?_) (fun h=> ?_)<;>(first|skip)<;>conv=>whnf)|(refine And.intro ?_ ?_; (focus (first|exact rfl|(first|exact B1|fail)|fail)); conv=>whnf)|fail)
 ·cases h
 refine loopI Nat (fun j=>64*j≤n%64+k) (fun j=>[(4,.own 1 1 (64*j) (n%64+k-64*j))]) (fun j=>[.box (wrB (thrs bT (catB n m c) (n/64+j)) (n+k) .any),.row 1 (n%64+k) (byF fun i=>catB n m c (64*(n/64)+i))]) (fun j=>n%64+k-64*j) 0 (Nat.zero_le _) ?_ (fun _=>rfl) fun j hj=> ?_
 ·have e:IntKind.u64.wrap ((n:Int)+IntKind.u64.wrap (k:Int))=((n+k:Nat):Int):=by
   show ((n:Int)+(k:Int)%18446744073709551616)%18446744073709551616=_
   omega
  have eh:thrs bT m (n/64)=thrs bT (catB n m c) (n/64+0):=thrs_ext _ fun i hi=>by unfold catB; rw [if_pos (by omega)]
  rw [eh]
  have ec:∀ i,i<n%64+k→catF 0 (n%64) (byF fun i=>m (64*(n/64)+i)) (byF c) i=byF (fun i=>catB n m c (64*(n/64)+i)) i:=fun i hi=>by
   rw [catF_by]
   show [cb _]=[cb _]
   congr 2
   have hs:64*(n/64)+i<n ↔ i<n%64:=by omega
   by_cases h:i<n%64
   ·simp [catB,h,hs]
   ·simp [catB,h,hs]; congr 1; omega
  (refine And.intro ?_ (And.intro ?_ (And.intro ?_ rfl))<;>(conv=>whnf)<;>repeat' (first|exact trivial|exact LeE.of (Le.refl _)|(with_reducible refine LeE.of ?_)|(first|exact leI e|exact fun i hi=>LeCs.of_eq (ec i hi)|exact rfl|fail)|((with_reducible refine And.intro ?_ ?_)<;>conv=>whnf)))
 ·change 64*j≤n%64+k at hj
  have B2:64≤n%64+k-64*j→(0:Int)≤64∧(64:Int)≤((max (n%64+k-64*j) (min (n%64+k-64*j) 140737488355328):Nat):Int):=fun h=>by omega
  have B3:n%64+k-64*j<64→(n%64+k-64*j)*(tb 5).bytes≤140737488355328:=fun h=>by show (n%64+k-64*j)*1≤_; omega
  conv=>whnf
  repeat' (first|(refine Exists.intro _ (And.intro (chainI (aThrough _ _ _)) ?_); conv=>whnf)|(refine And.intro (fun h=> ?_) (fun h=> ?_)<;>(first|(with_reducible have hd:_≤_:=of_decide_eq_true h)|(with_reducible have hd:¬ (_≤_):=of_decide_eq_false h)|fail)<;>conv=>whnf)|((with_reducible refine DOr.l ?_); (conv=>whnf))|((with_reducible refine OwnOr.l ?_); (conv=>whnf))|(refine And.intro ?_ ?_; (focus (first|exact rfl|(first|exact B2 (by omega)|exact B3 (by omega)|fail)|(refine chainI ?_; (first|omega|fail))|fail)); conv=>whnf)|(refine And.intro ?_ ?_; (focus (first|(refine NoTag.of_scalar ?_; rfl))); conv=>whnf)|fail)
  ·have hj':64≤n%64+k-64*j:=by omega
   refine ⟨j+1,by omega,?_,by show n%64+k-64*(j+1)<n%64+k-64*j; omega⟩
   have ht:thr (thrs bT (catB n m c) (n/64+j)) (fun i=>(fun i=>catB n m c (64*(n/64)+i)) (64*j+0+i))=thrs bT (catB n m c) (n/64+(j+1)):=by
    show _=thr (thrs bT (catB n m c) (n/64+j)) (fun i=>catB n m c (64*(n/64+j)+i))
    congr 1
    funext i
    show catB n m c (64*(n/64)+(64*j+0+i))=_
    congr 1; omega
   rw [ht]
   have eo:Le 2 (.own 1 1 (64*j+Int.toNat 64) (n%64+k-64*j-Int.toNat 64)) (.own 1 1 (64*(j+1)) (n%64+k-64*(j+1))):=Le.of_eq (by congr 1<;>omega)
   (refine And.intro ?_ (And.intro ?_ (And.intro ?_ rfl))<;>(conv=>whnf)<;>repeat' (first|exact trivial|exact LeE.of (Le.refl _)|(first|exact rfl|exact fun i hi=>LeCs.refl _|fail)|((with_reducible refine And.intro ?_ ?_)<;>conv=>whnf)))
  ·have hj':n%64+k-64*j<64:=by omega
   have e1:(n+k)/64=n/64+j:=by omega
   have e2:(n+k)%64=n%64+k-64*j:=by omega
   rw [show wrM (catB n m c) (n+k) (.own 1 1 0 ((n+k)%64))= .box (wrB (thrs bT (catB n m c) (n/64+j)) (n+k) (.own 1 1 0 (n%64+k-64*j))) from by (show AO.box (wrB (thrs bT (catB n m c) ((n+k)/64)) (n+k) (.own 1 1 0 ((n+k)%64)))=_; rw [e1,e2]),show rwM (catB n m c) (n+k)= .row 1 (n%64+k-64*j) (byF fun i=>catB n m c (64*(n/64+j)+i)) from by (show AO.row 1 ((n+k)%64) (byF fun i=>catB n m c (64*((n+k)/64)+i))=_; rw [e1,e2])]
   have ec:∀ i,i<n%64+k-64*j→byF (fun i=>catB n m c (64*(n/64)+i)) (64*j+i)=byF (fun i=>catB n m c (64*(n/64+j)+i)) i:=fun i _=>congrArg (fun z=>[cb (catB n m c z)]) (show 64*(n/64)+(64*j+i)=64*(n/64+j)+i by omega)
   ((conv=>whnf); repeat' (first|exact trivial|exact rfl|exact LeC.refl _|((with_reducible refine And.intro ?_ ?_)<;>conv=>whnf)))
   exact fun i hi=>LeCs.of_eq (ec i hi)
theorem w64 (x:W):IntKind.u64.wrap (wI x)=((x.toNat:Nat):Int):=by
 rw [wI_def]
 show ((x.toNat:Nat):Int)%18446744073709551616=_
 have:=x.isLt
 omega
theorem wlt (x:W):x.toNat<2 ^ 64:=Nat.lt_trans x.isLt (by decide)
noncomputable abbrev arr8 (h:Nat→W):List C:=arrC (fun i=>cw (h i)) 8
theorem arr8_eq (h:Nat→W):arr8 h=cW8 h:=by rw [arr8,arrC_def]; rfl
theorem aThroughA (t:Bool)(h:Nat→W)(b:Nat→UInt8):ACall Tryz.prog gl 94 [.ag (arrC (fun i=>cw (h i)) 8),.c (.sl t 1 64 (byF b))] [] (.ag (arrC (fun i=>cw (thr h b i)) 8)):=by
 show ACall Tryz.prog gl 94 [.ag (arr8 h),.c (.sl t 1 64 (byF b))] [] (.ag (arr8 (thr h b)))
 rw [arr8_eq,arr8_eq]; exact aThrough t h b
theorem ntArr8 (h:Nat→W):NoTag (.ag (arr8 h)):=NoTag.of_scalar (by show allScalar (arr8 h)=true; exact allScalar_arr fun _=>rfl)
theorem z32:boxC (tb 91).zero=List.map AV.c (arrC (fun _=>cb 0) 32):=by rw [arrC_def]; rfl
theorem aPut4 (k:Nat)(hk:k<2 ^ 64):ACall Tryz.prog gl 57 [.c (.v (.slice none 0 0)),intA .u64 k,intA .i64 4] [] (.c (.sl false 1 4 (byF (putB k 4)))):=by
 have h:=ACall.of_gcall (gNPut false 0 (fun _=>[]) k 4 hk (by decide) (by decide) (by decide))
 have e:(fun i=>catF 0 0 (fun _=>[]) (byF (putB k 4)) (0+i))=byF (putB k 4):=by funext i; simp [catF]
 rw [e] at h
 refine h.leA fun B S us hu=> ?_
 simp only [RelVs] at hu ⊢
 obtain ⟨u,r,e1,h1,h2⟩:=hu
 refine ⟨u,r,e1,?_,h2⟩
 simp only [RelV,RepC] at h1 ⊢
 exact ⟨none,0,h1.1,⟨Nat.le_refl _,by decide⟩,.inl trivial⟩
theorem aWSum (m b:Nat→UInt8)(n:Nat)(hb:∀ i,i<n%64→b i=m (64*(n/64)+i))(hn:n≤140737488355328) :
  ACall Tryz.prog gl 64 [.sp true [cw (thrs bT m (n/64) 0),cw (thrs bT m (n/64) 1),cw (thrs bT m (n/64) 2),cw (thrs bT m (n/64) 3),cw (thrs bT m (n/64) 4),cw (thrs bT m (n/64) 5),cw (thrs bT m (n/64) 6),cw (thrs bT m (n/64) 7),.v (.int .u64 (n:Int)),.sl true 1 (n%64) (byF b)] 0] [] (.ag (sumC (shaB m n))):=by
 refine acall_of_vc htb hmix (f:=64) rfl rfl rfl (by kernel_rfl) rfl rfl ?_; conv=>whnf
 have B1:(n%64)*(tb 5).bytes≤140737488355328:=by show (n%64)*1≤_; omega
 have B2:n%64<64→(n%64+1)*(tb 5).bytes≤140737488355328:=fun _=>by show (n%64+1)*1≤_; omega
 repeat' (first|(refine And.intro (fun h=> ?_) (fun h=> ?_)<;>(first|skip)<;>conv=>whnf)|((with_reducible refine OwnOr.l ?_); (conv=>whnf))|(refine And.intro ?_ ?_; (focus (first|(first|exact B1|exact B2 (by omega)|fail)|fail)); conv=>whnf)|fail)
 ·cases h
 have hQ:endQ n=1∧n%64<56∨endQ n=2∧56≤n%64:=by
  unfold endQ
  by_cases h:n%64<56
  ·rw [if_pos h]; exact .inl ⟨rfl,h⟩
  ·rw [if_neg h]; exact .inr ⟨rfl,by omega⟩
 generalize hQe:endQ n=Q at hQ
 have hbl:64*blocks n=64*(n/64)+64*Q:=by unfold blocks; rw [hQe]; omega
 refine loopI Nat (fun l=>n%64+1≤l∧l≤64*Q-8) (fun l=>[(3,.own 1 1 0 l)]) (fun l=>[.box (boxC (tb 91).zero),.row 1 l (byF fun i=>padM m n (64*(n/64)+i))]) (fun l=>64*Q-l) (n%64+1) (by omega) ?_ (fun _=>rfl) fun l hl=> ?_
 ·have ec:∀ i,i<n%64+1→catF 0 (n%64) (byF b) (nthC [[C.v (.int .u8 128)]]) i=byF (fun i=>padM m n (64*(n/64)+i)) i:=fun i hi=>by
   by_cases h:i<n%64
   ·have e1:padM m n (64*(n/64)+i)=b i:=by rw [padM_lo _ _ _ (by omega),hb i h]
    simp [catF,h,e1]
   ·obtain rfl:i=n%64:=by omega
    have e1:padM m n (64*(n/64)+n%64)=128:=by
     unfold padM
     rw [if_neg (by omega),if_pos (by omega)]
    simp only [catF,Nat.lt_irrefl,if_false,Nat.sub_self]
    exact (congrArg (fun z=>[cb z]) e1).symm
  (refine And.intro ?_ (And.intro ?_ (And.intro ?_ rfl))<;>(conv=>whnf)<;>repeat' (first|exact trivial|exact LeE.of (Le.refl _)|(first|exact fun i hi=>LeCs.of_eq (ec i hi)|exact rfl|fail)|((with_reducible refine And.intro ?_ ?_)<;>conv=>whnf)))
  all_goals trace_state
 ·change n%64+1≤l∧l≤64*Q-8 at hl
  obtain ⟨hl1,hl2⟩:=hl
  have e63:bitsI .and .i64 (l:Int) 63=((l%64:Nat):Int):=and63 l (by omega)
  have e8:shlI .u64 (n:Int) 3=((8*n:Nat):Int):=shl3 n (by omega)
  have B3:l<120→(l+1)*(tb 5).bytes≤140737488355328:=fun _=>by show (l+1)*1≤_; omega
  have P:=fun (t:Bool) (f:Nat→List C)=>gNPut t l f (8*n) 8 (by omega) (by decide) (by decide) (by omega)
  conv=>whnf
  repeat' (first|(refine And.intro (fun h=> ?_) (fun h=> ?_)<;>(first|skip)<;>conv=>whnf)|((with_reducible refine OwnOr.l ?_); (conv=>whnf))|(refine And.intro ?_ ?_; (focus (first|(refine chainI ?_; (first|decide|fail))|((conv=>whnf); intros; (try simp only [decide_eq_true_eq,decide_eq_false_iff_not,Bool.and_eq_true,Bool.or_eq_true,Bool.and_eq_false_imp,Bool.or_eq_false_iff,Bool.not_eq_true',Bool.not_eq_false',beq_iff_eq,bne_iff_ne,ne_eq] at *); (first|(first|exact B3 (by omega)|fail)|fail)))); conv=>whnf)|((with_reducible refine xc_guard ?_); (first|(refine xc_g (P _ _) true (by first|(((conv=>whnf); repeat' (first|exact trivial|exact rfl|exact LeC.refl _|((with_reducible refine And.intro ?_ ?_)<;>conv=>whnf))); done)|fail) (by first|(((conv=>whnf); repeat' (first|exact trivial|(intro i hi; unfold catF; split<;>exact ⟨trivial,trivial⟩)|((with_reducible refine And.intro ?_ ?_)<;>conv=>whnf))); done)|fail) ?_)); conv=>whnf)|(rw [e63]; conv=>whnf)|(rw [e8]; conv=>whnf))
  ·rw [e63] at h
   have h64:l%64≠56:=by intro e; rw [e] at h; simp at h
   have hlt:l<64*Q-8:=by omega
   refine ⟨l+1,⟨by omega,by omega⟩,?_,by show 64*Q-(l+1)<64*Q-l; omega⟩
   have ec:∀ i,i<l+1→catF 0 l (byF fun i=>padM m n (64*(n/64)+i)) (nthC [[C.v (.int .u8 0)]]) i=byF (fun i=>padM m n (64*(n/64)+i)) i:=fun i hi=>by
    by_cases h:i<l
    ·simp [catF,h]
    ·obtain rfl:i=l:=by omega
     have e1:padM m n (64*(n/64)+i)=0:=by
      unfold padM
      rw [if_neg (by omega),if_neg (by omega),if_pos (by omega)]
     simp only [catF,Nat.lt_irrefl,if_false,Nat.sub_self]
     exact (congrArg (fun z=>[cb z]) e1).symm
   (refine And.intro ?_ (And.intro ?_ (And.intro ?_ rfl))<;>(conv=>whnf)<;>repeat' (first|exact trivial|exact LeE.of (Le.refl _)|(first|exact fun i hi=>LeCs.of_eq (ec i hi)|exact rfl|fail)|((with_reducible refine And.intro ?_ ?_)<;>conv=>whnf)))
  ·rw [e63] at h
   have h64:l%64=56:=by
    have:¬ ((l%64:Nat):Int)≠56:=by simpa using h
    omega
   obtain rfl:l=64*Q-8:=by omega
   have eh:thrs bT m (n/64)=thrs bT (padM m n) (n/64+0):=thrs_ext _ fun i hi=>(padM_lo m n i (by omega)).symm
   refine loopI Nat (fun j=>j≤Q) (fun j=>[(3,.own 2 1 (64*j) (64*Q-64*j))]) (fun j=>[.box (boxC (tb 91).zero),.dead,.row 1 (64*Q) (byF fun i=>padM m n (64*(n/64)+i)),.box (List.map AV.c (arr8 (thrs bT (padM m n) (n/64+j))))]) (fun j=>Q-j) 0 (Nat.zero_le _) ?_ (fun _=>rfl) fun j hj=> ?_
   ·have ec:∀ i,i<64*Q→catF 0 (64*Q-8) (fun i=>byF (fun i=>padM m n (64*(n/64)+i)) (0+i)) (byF (putB (8*n) 8)) i=byF (fun i=>padM m n (64*(n/64)+i)) i:=fun i hi=>by
     by_cases h:i<64*Q-8
     ·simp [catF,h]
     ·have e1:padM m n (64*(n/64)+i)=putB (8*n) 8 (i-(64*Q-8)):=by
       unfold padM
       rw [if_neg (by omega),if_neg (by omega),if_neg (by omega)]
       congr 1; omega
      simp only [catF,h,if_false]
      exact (congrArg (fun z=>[cb z]) e1).symm
    have eo:Le 4 (.own (1+1) 1 0 (64*Q)) (.own 2 1 (64*0) (64*Q-64*0)):=Le.refl _
    rw [eh,show 64*Q-8+8=64*Q by omega]
    (refine And.intro ?_ (And.intro ?_ (And.intro ?_ rfl))<;>(conv=>whnf)<;>repeat' (first|exact trivial|exact LeE.of (Le.refl _)|(first|exact fun i hi=>LeCs.of_eq (ec i hi)|exact LeAs_of (by rw [arrC_def]; rfl)|exact rfl|fail)|((with_reducible refine And.intro ?_ ?_)<;>conv=>whnf)))
   ·change j≤Q at hj
    have B2:0<64*Q-64*j→(0:Int)≤64∧(64:Int)≤((max (64*Q-64*j) (min (64*Q-64*j) 140737488355328):Nat):Int):=fun h=>by omega
    conv=>whnf
    repeat' (first|(refine Exists.intro _ (And.intro (chainI (aThroughA _ _ _)) ?_); conv=>whnf)|(refine And.intro (fun h=> ?_) (fun h=> ?_)<;>(first|(with_reducible have hd:_<_:=of_decide_eq_true h)|(with_reducible have hd:¬ (_<_):=of_decide_eq_false h)|fail)<;>conv=>whnf)|((with_reducible refine DOr.l ?_); (conv=>whnf))|(refine And.intro ?_ ?_; (focus (first|(first|exact B2 (by omega)|fail)|(refine chainI ?_; (first|omega|fail))|fail)); conv=>whnf)|(refine And.intro (ntArr8 _) ?_; conv=>whnf)|((rw [arrA_cutN]; rotate_left; exact rfl); conv=>whnf)|(rw [arrA_len]; conv=>whnf)|((rw [layA_allN]; rotate_left; (focus (first|exact arrA_len _ _))); conv=>whnf)|((rw [mkA_arr]; rotate_left; exact rfl); conv=>whnf)|fail)
    ·have hj':j<Q:=by omega
     refine ⟨j+1,by omega,?_,by show Q-(j+1)<Q-j; omega⟩
     have ht:thr (thrs bT (padM m n) (n/64+j)) (fun i=>(fun i=>padM m n (64*(n/64)+i)) (64*j+0+i))=thrs bT (padM m n) (n/64+(j+1)):=by
      show _=thr (thrs bT (padM m n) (n/64+j)) (fun i=>padM m n (64*(n/64+j)+i))
      congr 1
      funext i
      show padM m n (64*(n/64)+(64*j+0+i))=_
      congr 1; omega
     rw [ht]
     have eo:Le 4 (.own 2 1 (64*j+Int.toNat 64) (64*Q-64*j-Int.toNat 64)) (.own 2 1 (64*(j+1)) (64*Q-64*(j+1))):=Le.of_eq (by congr 1<;>omega)
     (refine And.intro ?_ (And.intro ?_ (And.intro ?_ rfl))<;>(conv=>whnf)<;>repeat' (first|exact trivial|exact LeE.of (Le.refl _)|(first|exact LeAs_c _ _ _|exact rfl|exact fun i hi=>LeCs.refl _|fail)|((with_reducible refine And.intro ?_ ?_)<;>conv=>whnf)))
     all_goals trace_state
    ·obtain rfl:j=Q:=by omega
     have hbl':n/64+j=blocks n:=by omega
     refine loopI Nat (fun i=>i≤8) (fun i=>[(48,intA .i64 i)]) (fun i=>[.box (boxC (tb 91).zero),.dead,.dead,.dead,.box (List.map AV.c (arrC (fun k=>cb (if k<4*i then shaB m n k else 0)) 32))]) (fun i=>8-i) 0 (Nat.zero_le _) ?_ (fun _=>rfl) fun i hi=> ?_
     ·have ea:∀ k,k<32→cb 0=cb (if k<4*0 then shaB m n k else 0):=fun k _=>by rw [if_neg (by omega)]
      rw [z32]
      (refine And.intro ?_ (And.intro ?_ (And.intro ?_ rfl))<;>(conv=>whnf)<;>repeat' (first|exact trivial|exact LeE.of (Le.refl _)|(first|exact LeAs_c _ _ _|exact rfl|fail)|((with_reducible refine And.intro ?_ ?_)<;>conv=>whnf)))
     ·change i≤8 at hi
      clear B1 B2 B3
      have e4:4*i≤32→(IntKind.i64.wrap (4*(i:Int))).toNat=4*i:=fun _=>by rw [wrap64 (by omega) (by omega)]; omega
      have Bc:i<8→4≤32-(IntKind.i64.wrap (4*(i:Int))).toNat:=fun h=>by rw [e4 (by omega)]; omega
      have P4:=fun (x:W)=>aPut4 x.toNat (wlt x)
      conv=>whnf
      repeat' (first|(refine Exists.intro _ (And.intro (chainI (P4 _)) ?_); conv=>whnf)|(refine And.intro (fun h=> ?_) (fun h=> ?_)<;>(first|(with_reducible have hd:_<_:=of_decide_eq_true h)|(with_reducible have hd:¬ (_<_):=of_decide_eq_false h)|fail)<;>conv=>whnf)|((with_reducible refine DOr.l ?_); (conv=>whnf))|((with_reducible refine FzOr.l ?_); conv=>whnf)|((with_reducible refine MinOr.l ?_); conv=>whnf)|(refine And.intro ?_ ?_; (focus (first|(first|exact Bc (by omega)|fail)|(refine chainI ?_; (first|omega|(simp only [IntKind.wrap_i64]; first|omega|(refine And.intro ?_ ?_<;>omega))))|fail)); conv=>whnf)|((rw [arrC_cutM]; rotate_left; exact rfl; exact rfl; (focus (first|omega|fail))); conv=>whnf)|((rw [arrA_lenA]); conv=>whnf)|((rw [arrA_layX4]; rotate_left; exact rfl; exact rfl; (focus (first|omega|fail))); conv=>whnf)|((rw [arrA_cutN]; rotate_left; exact rfl); conv=>whnf)|(rw [arrA_len]; conv=>whnf)|((rw [layA_allN]; rotate_left; (focus (first|exact rfl|fail))); conv=>whnf)|((rw [mkA_arr]; rotate_left; exact rfl); conv=>whnf)|(rw [w64]; conv=>whnf))
      ·have hi':i<8:=by omega
       refine ⟨i+1,hi',?_,by show 8-(i+1)<8-i; omega⟩
       rw [e4 (by omega),hbl']
       have ea:=upd4_sha m n i _ rfl
       (refine And.intro ?_ (And.intro ?_ (And.intro ?_ rfl))<;>(conv=>whnf)<;>repeat' (first|exact trivial|exact LeE.of (Le.refl _)|(with_reducible refine LeE.of ?_)|(first|exact LeAs_arr ea|exact rfl|exact leI (by first|rfl|(rw [wrap64 (by omega) (by omega)]; omega)|fail)|fail)|((with_reducible refine And.intro ?_ ?_)<;>conv=>whnf)))
      ·obtain rfl:i=8:=by omega
       have ez:arrC (fun k=>cb (if k<4*8 then shaB m n k else 0)) 32=sumC (shaB m n):=by
        rw [← arr_sumC]; exact arrC_congr fun k hk=>by rw [if_pos (by omega)]
       rw [ez]
       exact Le.refl _
theorem layA_full {ys:List AV}{l:List C}(h:ys.length=l.length):layA ys 0 (List.map AV.c l)=some (List.map AV.c l):=by
 refine layA_eq (by rw [List.length_map]; exact h.symm) (by rw [List.length_map]; omega) fun i=> ?_
 rw [List.length_map]
 by_cases hi:i<l.length
 ·rw [if_pos (by omega),Nat.sub_zero]
 ·rw [if_neg (by omega),List.getElem?_eq_none (by rw [List.length_map]; omega),List.getElem?_eq_none (by omega)]
def accN (ps:Nat→Nat×(Nat→UInt8)):Nat→Nat
 | 0=>0
 | i+1=>accN ps i+(ps i).1
def accB (ps:Nat→Nat×(Nat→UInt8)):Nat→Nat→UInt8
 | 0=>fun _=>0
 | i+1=>catB (accN ps i) (accB ps i) (ps i).2
theorem accN_mono (ps:Nat→Nat×(Nat→UInt8)):∀ i j,i≤j→accN ps i≤accN ps j
 | i, 0, h => by obtain rfl : i = 0 := by omega
                 exact Nat.le_refl _
 | i,j+1,h=>by
  by_cases hi:i=j+1
  ·subst hi; exact Nat.le_refl _
  ·have:=accN_mono ps i j (by omega)
   simp only [accN]; omega
theorem aSum (t:Bool)(N:Nat)(tg:Nat→Bool)(ps:Nat→Nat×(Nat→UInt8))(hN:accN ps N≤140737488355328) :
  ACall Tryz.prog gl 38 [.c (.sl t 1 N (fun i=>[.sl (tg i) 1 (ps i).1 (byF (ps i).2)]))] [] (.ag (sumC (shaB (accB ps N) (accN ps N)))):=by
 refine acall_of_vcb htb hmix (f:=38) rfl rfl rfl (by kernel_rfl) rfl rfl fun hb=> ?_; simp only [bndAll,AV.bnd,bnds,C.bnd,cVt,cS,true_and,and_true] at hb; conv=>whnf
 have hNb:N≤140737488355328:=hb.1
 repeat' (first|((with_reducible refine xc_guard ?_); (first|(refine xc_g (gNew) false (by first|(((conv=>whnf); repeat' (first|exact trivial|exact rfl|((with_reducible refine And.intro ?_ ?_)<;>conv=>whnf))); done)|fail) trivial ?_)|fail); conv=>whnf)|fail)
 refine loopI Nat (fun i=>i≤N) (fun i=>[(9,intA .i64 i)]) (fun i=>[.box (List.map AV.c (arrC (fun _=>cb 0) 32)),wrM (accB ps i) (accN ps i) (.own 2 1 0 (accN ps i%64)),rwM (accB ps i) (accN ps i)]) (fun i=>N-i) 0 (Nat.zero_le _) ?_ (fun _=>rfl) fun i hi=> ?_
 ·have e0:∀ q,thrs bT (accB ps 0) (accN ps 0/64) q=bT q:=fun q=>by
   rw [show accN ps 0/64=0 from Nat.zero_div 64]; rfl
  rw [z32]
  (refine And.intro ?_ (And.intro ?_ (And.intro ?_ rfl))<;>(conv=>whnf)<;>repeat' (first|exact trivial|exact LeE.of (Le.refl _)|exact LeE.nil rfl|(with_reducible refine LeE.of ?_)|(first|exact LeAs_c _ _ _|exact Le.of_eq (congrArg (fun z=>AV.c (cw z)) (e0 _).symm)|exact rfl|fail)|((with_reducible refine And.intro ?_ ?_)<;>conv=>whnf)))
 ·change i≤N at hi
  have hi1:accN ps i≤140737488355328:=Nat.le_trans (accN_mono ps i N hi) hN
  have hi2:i<N→accN ps i+(ps i).1≤140737488355328:=fun h=>Nat.le_trans (accN_mono ps (i+1) N h) hN
  have PS:=fun b hb=>aWSum (accB ps i) b (accN ps i) hb hi1
  conv=>whnf
  repeat' (first|(refine Exists.intro _ (And.intro (PS _ (fun q _=>congrArg (accB ps i) (congrArg (64*(accN ps i/64)+ ·) (Nat.zero_add q)))) ?_); conv=>whnf)|(refine And.intro (fun h=> ?_) (fun h=> ?_)<;>(first|(with_reducible have hd:_<_:=of_decide_eq_true h)|(with_reducible have hd:¬ (_<_):=of_decide_eq_false h)|fail)<;>conv=>whnf)|((with_reducible refine FzOr.l ?_); conv=>whnf)|(refine And.intro ?_ ?_; (focus (first|(refine chainI ?_; (first|omega|fail))|fail)); conv=>whnf)|(refine And.intro ?_ ?_; (focus (first|(refine NoTag.of_scalar ?_; rfl))); conv=>whnf)|((with_reducible refine xc_guard ?_); (first|(refine xc_g (gWrite _ (accB ps i) (ps i).2 (accN ps i) (ps i).1 (hi2 (Nat.lt_of_not_le (fun hq=>absurd (Int.ofNat_lt.1 hd) (Nat.not_lt.2 hq))))) false (by first|(((conv=>whnf); repeat' (first|exact trivial|exact rfl|exact LeC.refl _|exact (fun i hi=>LeCs.refl _)|((with_reducible refine And.intro ?_ ?_)<;>conv=>whnf))); done)|fail) trivial ?_)|fail); conv=>whnf)|((with_reducible refine xc_pure ?_); conv=>whnf)|((rw [layA_full]; rotate_left; exact (arrA_len _ _)); conv=>whnf))
  ·have hi':i<N:=by omega
   refine ⟨i+1,hi',?_,by show N-(i+1)<N-i; omega⟩
   rw [show accN ps (i+1)=accN ps i+(ps i).1 from rfl,show accB ps (i+1)=catB (accN ps i) (accB ps i) (ps i).2 from rfl]
   (refine And.intro ?_ (And.intro ?_ (And.intro ?_ rfl))<;>(conv=>whnf)<;>repeat' (first|exact trivial|exact LeE.of (Le.refl _)|(with_reducible refine LeE.of ?_)|(first|exact LeAs_pc|exact rfl|exact leI (by first|rfl|(rw [wrap64 (by omega) (by omega)]; omega)|fail)|exact fun i hi=>LeCs.refl _|fail)|((with_reducible refine And.intro ?_ ?_)<;>conv=>whnf)))
  ·obtain rfl:i=N:=by
    have:¬ ((i:Int)<N):=hd
    omega
   exact Le.refl _
end Go.Proofs.YtiodgjgngfklkaaGreatDoor
