/- What functions of the program answer,whatever their arguments. -/
import Derived.Test.YtaecnniddhikbaaGreatDoorS5
set_option linter.unusedSectionVars false
set_option linter.unnecessarySimpa false
set_option linter.unusedSimpArgs false
set_option linter.unusedVariables false
set_option maxRecDepth 100000
set_option maxHeartbeats 8000000
namespace Go.Proofs.YtaecnniddhikbaaGreatDoor
open Go Go.VA
def numI (b:Nat→UInt8):Nat→Int
 | 0=>0
 | k+1=>IntKind.u64.wrap (IntKind.u64.wrap (numI b k*256)+IntKind.u64.wrap ((b k).toNat:Int))
theorem numI_eq (b:Nat→UInt8):∀ k,k≤8→numI b k=(nB b 0 k:Int)
 | 0,_=>rfl
 | k+1,h=>by
  simp only [numI,nB]
  rw [numI_eq b k (by omega),Nat.zero_add]
  have hp:nB b 0 k<72057594037927936:=Nat.lt_of_lt_of_le (nB_lt b 0 k) (Nat.le_trans (Nat.pow_le_pow_right (by decide) (show k≤7 by omega)) (by decide))
  have hx:=(b k).toNat_lt
  show (((nB b 0 k:Int)*256)%18446744073709551616+((b k).toNat:Int)%18446744073709551616)%18446744073709551616=_
  omega
theorem aNumber (t:Bool)(n:Nat)(b:Nat→UInt8):ACall Tryz.prog gl 46 [.c (.sl t 1 n (byF b))] [] (intA .u64 (numI b n)):=by
 refine acall_of_vcb htb hmix (f:=46) rfl rfl rfl (by kernel_rfl) rfl rfl fun hb=> ?_; simp only [bndAll,AV.bnd,bnds,C.bnd,cVt,cS,true_and,and_true] at hb; conv=>whnf
 have hn:n≤140737488355328:=hb.1
 repeat' (fail)
 refine loopI Nat (fun i=>i≤n) (fun i=>[(4,intA .i64 i),(3,intA .u64 (numI b i))]) (fun _=>[]) (fun i=>n-i) 0 (Nat.zero_le _) ?_ (fun _=>rfl) fun i hi=> ?_
 ·(refine And.intro ?_ (And.intro ?_ (And.intro ?_ rfl))<;>(conv=>whnf)<;>repeat' (first|exact trivial|exact LeE.of (Le.refl _)|(first|exact rfl|fail)|((with_reducible refine And.intro ?_ ?_)<;>conv=>whnf)))
 ·change i≤n at hi
  conv=>whnf
  repeat' (first|(refine And.intro (fun h=> ?_) (fun h=> ?_)<;>(first|(with_reducible have hd:_<_:=of_decide_eq_true h)|(with_reducible have hd:¬ (_<_):=of_decide_eq_false h)|fail)<;>conv=>whnf)|(refine And.intro ?_ ?_; (focus (first|(refine chainI ?_; (first|omega|fail))|fail)); conv=>whnf)|fail)
  ·have hi':i<n:=by omega
   refine ⟨i+1,hi',?_,by show n-(i+1)<n-i; omega⟩
   (refine And.intro ?_ (And.intro ?_ (And.intro ?_ rfl))<;>(conv=>whnf)<;>repeat' (first|exact trivial|exact LeE.of (Le.refl _)|(with_reducible refine LeE.of ?_)|(first|exact rfl|exact leI (by first|rfl|(rw [wrap64 (by omega) (by omega)]; omega)|fail)|fail)|((with_reducible refine And.intro ?_ ?_)<;>conv=>whnf)))
  ·have:¬ ((i:Int)<n):=hd
   obtain rfl:i=n:=by omega
   exact Le.refl _
def formC (k w j i:Nat):List C:=[cb (if w-j≤i then putB k w i else 0)]
theorem u8mod (k:Nat):IntKind.u8.wrap ((k:Int).tmod 256)=((UInt8.ofNat k).toNat:Int):=by
 rw [Int.tmod_eq_emod_of_nonneg (by omega),UInt8.toNat_ofNat']
 show ((k:Int)%256)%256=_
 omega
theorem u64div (k:Nat)(h:k<2 ^ 64):IntKind.u64.wrap ((k:Int).tdiv 256)=((k/256:Nat):Int):=by
 rw [Int.tdiv_eq_ediv_of_nonneg (by omega)]
 show ((k:Int)/256)%18446744073709551616=_
 omega
theorem aForm (k w:Nat)(hk:k<2 ^ 64)(h8:w≤8):ACall Tryz.prog gl 48 [intA .u64 (k:Int),intA .i64 (w:Int)] [] (.c (.sl false 1 w (byF (putB k w)))):=by
 have Bm:(0:Int)≤w∧(w:Int)≤w∧(w:Int)≤140737488355328∧(w:Int)*((tb 5).bytes:Int)≤140737488355328:=⟨by omega,by omega,by omega,by show (w:Int)*1≤_; omega⟩
 refine acall_of_vc htb hmix (f:=48) rfl rfl rfl (by kernel_rfl) rfl rfl ?_; conv=>whnf
 repeat' (first|((with_reducible refine NilOr.l ?_); conv=>whnf)|(refine And.intro ?_ ?_; (focus (first|(first|assumption)|fail)); conv=>whnf)|fail)
 refine loopI Nat (fun j=>j≤w) (fun j=>[(0,intA .u64 ((k/256 ^ j:Nat):Int)),(6,intA .i64 ((w:Int)-1-j))]) (fun j=>[.row 1 0 (fun _=>[]),.row 1 w (formC k w j)]) (fun j=>w-j) 0 (Nat.zero_le _) ?_ (fun _=>rfl) fun j hj=> ?_
 ·have e:IntKind.i64.wrap ((w:Int)-1)=(w:Int)-1-(0:Nat):=by rw [wrap64 (by omega) (by omega)]; simp
  have e0:k/256 ^ 0=k:=by simp
  have ec:∀ i,i<w→[C.v (.int .u8 0)]=formC k w 0 i:=fun i hi=>by
   unfold formC; rw [if_neg (by omega)]; rfl
  rw [e0]
  (refine And.intro ?_ (And.intro ?_ (And.intro ?_ rfl))<;>(conv=>whnf)<;>repeat' (first|exact trivial|exact LeE.of (Le.refl _)|(with_reducible refine LeE.of ?_)|(first|exact leI e|exact fun i hi=>LeCs.of_eq (ec i hi)|exact rfl|exact fun i hi=>LeCs.refl _|fail)|((with_reducible refine And.intro ?_ ?_)<;>conv=>whnf)))
  all_goals trace_state
 ·change j≤w at hj
  conv=>whnf
  repeat' (first|(refine And.intro (fun h=> ?_) (fun h=> ?_)<;>(first|(with_reducible have hd:_≤_:=of_decide_eq_true h)|(with_reducible have hd:¬ (_≤_):=of_decide_eq_false h)|fail)<;>conv=>whnf)|(refine And.intro ?_ ?_; (focus (first|(refine chainI ?_; (first|decide|omega|fail))|fail)); conv=>whnf)|fail)
  ·have hj':j<w:=by omega
   refine ⟨j+1,hj',?_,by show w-(j+1)<w-j; omega⟩
   have e:IntKind.i64.wrap ((w:Int)-1-j-1)=(w:Int)-1-(j+1:Nat):=by rw [wrap64 (by omega) (by omega)]; omega
   have ez:0+((w:Int)-1-j).toNat=w-1-j:=by omega
   have ed:k/256 ^ (j+1)=k/256 ^ j/256:=by rw [Nat.pow_succ,Nat.div_div_eq_div_mul]
   have ek:k/256 ^ j<2 ^ 64:=Nat.lt_of_le_of_lt (Nat.div_le_self _ _) hk
   have ec:∀ i,i<w→updF (formC k w j) (w-1-j) (List.take 0 (formC k w j (w-1-j))++[C.v (.int .u8 ((UInt8.ofNat (k/256 ^ j)).toNat:Int))]++List.drop (0+(tb 5).sz) (formC k w j (w-1-j))) i=formC k w (j+1) i:=fun i hi=>by
    unfold updF
    by_cases h:i=w-1-j
    ·rw [if_pos h]
     subst h
     unfold formC
     show [cb (UInt8.ofNat (k/256 ^ j))]=[cb (if w-(j+1)≤w-1-j then putB k w (w-1-j) else 0)]
     rw [if_pos (by omega)]
     unfold putB
     rw [show w-1-(w-1-j)=j by omega]
    ·rw [if_neg h]
     unfold formC
     by_cases h2:w-j≤i
     ·rw [if_pos h2,if_pos (by omega)]
     ·rw [if_neg h2,if_neg (by omega)]
   rw [ez,u8mod,u64div _ ek,← ed]
   (refine And.intro ?_ (And.intro ?_ (And.intro ?_ rfl))<;>(conv=>whnf)<;>repeat' (first|exact trivial|exact LeE.of (Le.refl _)|(with_reducible refine LeE.of ?_)|(first|exact leI e|exact fun i hi=>LeCs.of_eq (ec i hi)|exact rfl|exact fun i hi=>LeCs.refl _|fail)|((with_reducible refine And.intro ?_ ?_)<;>conv=>whnf)))
  ·obtain rfl:j=w:=by omega
   refine leSl (by omega) fun i hi=> ?_
   unfold formC
   rw [if_pos (by omega),Nat.zero_add]
theorem kC (i:Nat)(h:i<64):C.v (.int .u32 ((kN.getD i 0:Nat):Int))=cw (kT i):=by
 rw [cw,wI_def]
 unfold kT
 have:∀ j:Fin 64,kN.getD j.1 0<2 ^ 32:=by decide
 rw [BitVec.toNat_ofNat,Nat.mod_eq_of_lt (this ⟨i,h⟩)]
theorem aConstants:ACall Tryz.prog gl 49 [] [] (.c (.sl false 1 64 (fun i=>[cw (kT i)]))):=by
 refine acall_of_vc htb hmix (f:=49) rfl rfl rfl (by kernel_rfl) rfl rfl ?_; conv=>whnf
 repeat' (first|((with_reducible refine NilOr.l ?_); conv=>whnf)|((with_reducible refine OwnOr.l ?_); (conv=>whnf))|fail)
 refine leSl rfl fun i hi=> ?_
 rw [← kC i hi]
 have:∀ j:Fin 64,nthC (kN.map fun n:Nat=>[C.v (.int .u32 (n:Int))]) j.1=[C.v (.int .u32 ((kN.getD j.1 0:Nat):Int))]:=fun j=>by
  unfold nthC
  simp only [List.getD_eq_getElem?_getD,List.getElem?_map]
  have hl:j.1<kN.length:=j.2
  rw [List.getElem?_eq_getElem hl]; rfl
 exact this ⟨i,hi⟩
theorem w16 (P:Nat→UInt8)(j i o n:Nat)(hi:i<16)(ho:o=64*j+4*i)(hn:n=4):C.v (.int .u32 (IntKind.u32.wrap (numI (fun k=>P (0+o+k)) n)))=cw (wT (fun k=>P (64*j+k)) i):=by
 subst hn
 rw [numI_eq _ 4 (by decide),w_of,wT_lo _ _ hi]
 unfold wB
 have e:nB (fun k=>P (0+o+k)) 0 4=(((P (64*j+4*i)).toNat*256+(P (64*j+(4*i+1))).toNat)*256+(P (64*j+(4*i+2))).toNat)*256+(P (64*j+(4*i+3))).toNat:=by
  subst ho
  simp only [nB,Nat.zero_add,Nat.zero_mul,Nat.add_zero,Nat.add_assoc]
 rw [e]
end Go.Proofs.YtaecnniddhikbaaGreatDoor
namespace Go.Proofs.YtaecnniddhikbaaGreatDoor
open Go Go.VA
theorem bC:∀ i,i<8→nthC [[C.v (.int .u32 1779033703)],[C.v (.int .u32 3144134277)],[C.v (.int .u32 1013904242)],[C.v (.int .u32 2773480762)],[C.v (.int .u32 1359893119)],[C.v (.int .u32 2600822924)],[C.v (.int .u32 528734635)],[C.v (.int .u32 1541459225)]] i=[cw (bT i)]:=by
 have:∀ i:Fin 8,nthC [[C.v (.int .u32 1779033703)],[C.v (.int .u32 3144134277)],[C.v (.int .u32 1013904242)],[C.v (.int .u32 2773480762)],[C.v (.int .u32 1359893119)],[C.v (.int .u32 2600822924)],[C.v (.int .u32 528734635)],[C.v (.int .u32 1541459225)]] i.1=[C.v (.int .u32 ((bT i.1).toNat:Int))]:=by
  intro ⟨i,h⟩
  match i,h with
  | 0,_=>rfl
  | 1,_=>rfl
  | 2,_=>rfl
  | 3,_=>rfl
  | 4,_=>rfl
  | 5,_=>rfl
  | 6,_=>rfl
  | 7,_=>rfl
 intro i h
 rw [this ⟨i,h⟩,cw,wI_def]
theorem wS (x:W):IntKind.u32.wrap (4294967295-wI x)=wI (~~~ x):=w_sub _ x rfl
theorem endQ_or (n:Nat):(endQ n=1∧n%64<56∨endQ n=2∧56≤n%64)∧64*blocks n=64*(n/64)+64*endQ n:=by
 refine ⟨?_,by unfold blocks; omega⟩
 unfold endQ
 by_cases h:n%64<56
 ·rw [if_pos h]; exact .inl ⟨rfl,h⟩
 ·rw [if_neg h]; exact .inr ⟨rfl,by omega⟩
theorem aRefSum (t:Bool)(n:Nat)(b:Nat→UInt8)(hn:n≤140737488355000):ACall Tryz.prog gl 20 [.c (.sl t 1 n (byF b))] [] (.ag (sumC (shaB b n))):=by
 obtain ⟨hQ,hbl⟩:=endQ_or n
 have Bn:n*(tb 5).bytes≤140737488355328:=by show n*1≤_; omega
 have Bn1:(n+1)*(tb 5).bytes≤140737488355328:=by show (n+1)*1≤_; omega
 refine acall_of_vc htb hmix (f:=20) rfl rfl rfl (by kernel_rfl) rfl rfl ?_; conv=>whnf
 repeat' (first|((with_reducible refine OwnOr.l ?_); (conv=>whnf))|(refine And.intro ?_ ?_; (focus (first|(first|assumption)|fail)); conv=>whnf)|fail)
 refine loopI Nat (fun l=>n+1≤l∧l≤64*blocks n-8) (fun l=>[(3,.own 1 1 0 l)]) (fun l=>[.box (List.map AV.c (arrC (fun _=>cb 0) 32)),.row 1 l (byF (padM b n))]) (fun l=>64*blocks n-l) (n+1) (by omega) ?_ (fun _=>rfl) fun l hl=> ?_
 ·have ec:∀ i,i<n+1→catF 0 n (byF b) (nthC [[C.v (.int .u8 128)]]) i=byF (padM b n) i:=fun i hi=>by
   by_cases h:i<n
   ·have e1:padM b n i=b i:=padM_lo _ _ _ h
    simp [catF,h,e1]
   ·obtain rfl:i=n:=by omega
    have e1:padM b i i=128:=by
     unfold padM
     rw [if_neg (by omega),if_pos rfl]
    simp only [catF,Nat.lt_irrefl,if_false,Nat.sub_self]
    exact (congrArg (fun z=>[cb z]) e1).symm
  rw [z32]
  (refine And.intro ?_ (And.intro ?_ (And.intro ?_ rfl))<;>(conv=>whnf)<;>repeat' (first|exact trivial|exact LeE.of (Le.refl _)|(first|exact LeAs_pc|exact fun i hi=>LeCs.of_eq (ec i hi)|exact rfl|fail)|((with_reducible refine And.intro ?_ ?_)<;>conv=>whnf)))
 ·change n+1≤l∧l≤64*blocks n-8 at hl
  obtain ⟨hl1,hl2⟩:=hl
  have e63:(l:Int).tmod 64=((l%64:Nat):Int):=by rw [Int.tmod_eq_emod_of_nonneg (by omega)]; omega
  have e8:IntKind.u64.wrap (IntKind.u64.wrap (n:Int)*8)=((8*n:Nat):Int):=by
   show ((n:Int)%18446744073709551616*8)%18446744073709551616=_
   omega
  have Bl:(l+8)*(tb 5).bytes≤140737488355328:=by show (l+8)*1≤_; omega
  have B1:0<1→(l+1)*(tb 5).bytes≤140737488355328:=fun _=>by show (l+1)*1≤_; omega
  have P8:=aForm (8*n) 8 (by omega) (by decide)
  conv=>whnf
  repeat' (first|(refine Exists.intro _ (And.intro (P8) ?_); conv=>whnf)|(refine Exists.intro _ (And.intro (aConstants) ?_); conv=>whnf)|(refine And.intro (fun h=> ?_) (fun h=> ?_)<;>(first|skip)<;>conv=>whnf)|((with_reducible refine OwnOr.l ?_); (conv=>whnf))|(refine And.intro ?_ ?_; (focus (first|(first|exact B1 (by omega)|assumption)|(refine chainI ?_; (first|decide|fail))|fail)); conv=>whnf)|((with_reducible refine xc_pure ?_); conv=>whnf)|(rw [e63]; conv=>whnf)|(rw [e8]; conv=>whnf))
  ·rw [e63] at h
   have h64:l%64≠56:=by intro e; rw [e] at h; simp at h
   have hlt:l<64*blocks n-8:=by omega
   refine ⟨l+1,⟨by omega,by omega⟩,?_,by show 64*blocks n-(l+1)<64*blocks n-l; omega⟩
   have ec:∀ i,i<l+1→catF 0 l (byF (padM b n)) (nthC [[C.v (.int .u8 0)]]) i=byF (padM b n) i:=fun i hi=>by
    by_cases h:i<l
    ·simp [catF,h]
    ·obtain rfl:i=l:=by omega
     have e1:padM b n i=0:=by
      unfold padM
      rw [if_neg (by omega),if_neg (by omega),if_pos (by omega)]
     simp only [catF,Nat.lt_irrefl,if_false,Nat.sub_self]
     exact (congrArg (fun z=>[cb z]) e1).symm
   (refine And.intro ?_ (And.intro ?_ (And.intro ?_ rfl))<;>(conv=>whnf)<;>repeat' (first|exact trivial|exact LeE.of (Le.refl _)|(first|exact LeAs_pc|exact fun i hi=>LeCs.of_eq (ec i hi)|exact rfl|fail)|((with_reducible refine And.intro ?_ ?_)<;>conv=>whnf)))
  ·rw [e63] at h
   have h64:l%64=56:=by
    have:¬ ((l%64:Nat):Int)≠56:=by simpa using h
    omega
   obtain rfl:l=64*blocks n-8:=by omega
   clear Bn Bn1 Bl B1
   have eN:64*blocks n-8+8=64*blocks n:=by omega
   have ec:∀ i,i<64*blocks n→catF 0 (64*blocks n-8) (byF (padM b n)) (byF (putB (8*n) 8)) i=byF (padM b n) i:=fun i hi=>by
    by_cases h:i<64*blocks n-8
    ·simp [catF,h]
    ·have e1:padM b n i=putB (8*n) 8 (i-(64*blocks n-8)):=by
      unfold padM
      rw [if_neg (by omega),if_neg (by omega),if_neg (by omega)]
     simp only [catF,h,if_false]
     exact (congrArg (fun z=>[cb z]) e1).symm
   rw [eN]
   refine loopI Nat (fun j=>j≤blocks n) (fun j=>[(6,intA .i64 ((64*j:Nat):Int)),(4,.c (.sl false 1 8 (fun i=>[cw (thrs bT (padM b n) j i)])))]) (fun j=>[.box (List.map AV.c (arrC (fun _=>cb 0) 32)),.row 1 (64*blocks n) (byF (padM b n))]) (fun j=>blocks n-j) 0 (Nat.zero_le _) ?_ (fun _=>rfl) fun j hj=> ?_
   ·have eh:=bC
    (refine And.intro ?_ (And.intro ?_ (And.intro ?_ rfl))<;>(conv=>whnf)<;>repeat' (first|exact trivial|exact LeE.of (Le.refl _)|(with_reducible refine LeE.of ?_)|(first|exact LeAs_pc|exact fun i hi=>LeCs.of_eq (ec i hi)|exact leSl rfl eh|exact rfl|fail)|((with_reducible refine And.intro ?_ ?_)<;>conv=>whnf)))
    all_goals trace_state
   ·change j≤blocks n at hj
    clear ec eN h64 e63 hl1 hl2 P8 e8
    conv=>whnf
    repeat' (first|(refine And.intro (fun h=> ?_) (fun h=> ?_)<;>(first|(with_reducible have hd:_<_:=of_decide_eq_true h)|(with_reducible have hd:¬ (_<_):=of_decide_eq_false h)|fail)<;>conv=>whnf)|((with_reducible refine NilOr.l ?_); conv=>whnf)|fail)
    ·have hj':j<blocks n:=by omega
     have hjb:64*j+64≤64*blocks n:=by omega
     have hbn:64*blocks n≤140737488355328:=by omega
     refine loopI Nat (fun i=>i≤16) (fun i=>[(8,intA .i64 i),(7,.own 2 1 0 i)]) (fun i=>[.box (List.map AV.c (arrC (fun _=>cb 0) 32)),.row 1 (64*blocks n) (byF (padM b n)),.row 1 i (fun k=>[cw (wT (fun k=>padM b n (64*j+k)) k)])]) (fun i=>16-i) 0 (Nat.zero_le _) ?_ (fun _=>rfl) fun i hi=> ?_
     ·have ec:∀ i,i<0→([]:List C)=[cw (wT (fun k=>padM b n (64*j+k)) i)]:=fun i h=>absurd h (Nat.not_lt_zero _)
      (refine And.intro ?_ (And.intro ?_ (And.intro ?_ rfl))<;>(conv=>whnf)<;>repeat' (first|exact trivial|exact LeE.of (Le.refl _)|(first|exact LeAs_c _ _ _|exact fun i hi=>LeCs.of_eq (ec i hi)|exact rfl|exact fun i hi=>LeCs.refl _|fail)|((with_reducible refine And.intro ?_ ?_)<;>conv=>whnf)))
      all_goals trace_state
     ·change i≤16 at hi
      have q1:IntKind.i64.wrap (4*(i:Int))=((4*i:Nat):Int):=by rw [wrap64 (by omega) (by omega)]; omega
      have q2:IntKind.i64.wrap (((64*j:Nat):Int)+((4*i:Nat):Int))=((64*j+4*i:Nat):Int):=by rw [wrap64 (by omega) (by omega)]; omega
      have q3:i<16→IntKind.i64.wrap (((64*j+4*i:Nat):Int)+4)=((64*j+4*i+4:Nat):Int):=fun _=>by rw [wrap64 (by omega) (by omega)]; omega
      have Bs:i<16→(0:Int)≤((64*j+4*i+4:Nat):Int)∧((64*j+4*i+4:Nat):Int)≤((max (64*blocks n) (min (64*blocks n-0) 140737488355328):Nat):Int):=fun h=>by omega
      have Bt:i<16→(0:Int)≤((64*j+4*i:Nat):Int)∧((64*j+4*i:Nat):Int)≤(((((64*j+4*i+4:Nat):Int)).toNat:Nat):Int):=fun h=>by omega
      have B1:i<16→(i+1)*(tb 57).bytes≤140737488355328:=fun h=>by show (i+1)*4≤_; omega
      conv=>whnf
      repeat' (first|(rw [q1]; conv=>whnf)|(rw [q2]; conv=>whnf)|(rw [q3 (by omega)]; conv=>whnf)|(refine Exists.intro _ (And.intro (aNumber _ _ _) ?_); conv=>whnf)|(refine And.intro (fun h=> ?_) (fun h=> ?_)<;>(first|(with_reducible have hd:_<_:=of_decide_eq_true h)|(with_reducible have hd:¬ (_<_):=of_decide_eq_false h)|fail)<;>conv=>whnf)|((with_reducible refine OwnOr.l ?_); (conv=>whnf))|(refine And.intro ?_ ?_; (focus (first|(first|exact Bt (by omega)|exact Bs (by omega)|exact B1 (by omega)|fail)|fail)); conv=>whnf)|(refine And.intro ?_ ?_; (focus (first|exact NoTag.int|fail)); conv=>whnf)|((with_reducible refine xc_pure ?_); conv=>whnf))
      ·have hi':i<16:=by omega
       refine ⟨i+1,hi',?_,by show 16-(i+1)<16-i; omega⟩
       have hl:(((64*j+4*i+4:Nat):Int)).toNat-(((64*j+4*i:Nat):Int)).toNat=4:=by omega
       have ec:∀ k,k<i+1→catF 0 i (fun k=>[cw (wT (fun k=>padM b n (64*j+k)) k)]) (nthC [[C.v (.int .u32 (IntKind.u32.wrap (numI (fun k=>padM b n (0+(((64*j+4*i:Nat):Int)).toNat+k)) ((((64*j+4*i+4:Nat):Int)).toNat-(((64*j+4*i:Nat):Int)).toNat))))]]) k=[cw (wT (fun k=>padM b n (64*j+k)) k)]:=fun k hk=>by
        by_cases h:k<i
        ·simp [catF,h]
        ·obtain rfl:k=i:=by omega
         simp only [catF,Nat.lt_irrefl,if_false,Nat.sub_self]
         exact congrArg (fun z=>[z]) (w16 (padM b n) j k _ _ hi' (Int.toNat_natCast _) hl)
       (refine And.intro ?_ (And.intro ?_ (And.intro ?_ rfl))<;>(conv=>whnf)<;>repeat' (first|exact trivial|exact LeE.of (Le.refl _)|(with_reducible refine LeE.of ?_)|(first|exact LeAs_pc|exact fun i hi=>LeCs.of_eq (ec i hi)|exact rfl|exact leI (by first|rfl|(rw [wrap64 (by omega) (by omega)]; omega)|fail)|exact fun i hi=>LeCs.refl _|fail)|((with_reducible refine And.intro ?_ ?_)<;>conv=>whnf)))
       all_goals trace_state
      ·obtain rfl:i=16:=by omega
       clear q1 q2 q3 Bs Bt B1
       refine loopI Nat (fun i=>16≤i∧i≤64) (fun i=>[(9,intA .i64 i),(7,.own 2 1 0 i)]) (fun i=>[.box (List.map AV.c (arrC (fun _=>cb 0) 32)),.row 1 (64*blocks n) (byF (padM b n)),.row 1 i (fun k=>[cw (wT (fun k=>padM b n (64*j+k)) k)])]) (fun i=>64-i) 16 (by decide) ?_ (fun _=>rfl) fun i hi=> ?_
       ·(refine And.intro ?_ (And.intro ?_ (And.intro ?_ rfl))<;>(conv=>whnf)<;>repeat' (first|exact trivial|exact LeE.of (Le.refl _)|(first|exact LeAs_c _ _ _|exact rfl|exact fun i hi=>LeCs.refl _|fail)|((with_reducible refine And.intro ?_ ?_)<;>conv=>whnf)))
       ·change 16≤i∧i≤64 at hi
        obtain ⟨h16,hi2⟩:=hi
        have q15:IntKind.i64.wrap ((i:Int)-15)=((i-15:Nat):Int):=by rw [wrap64 (by omega) (by omega)]; omega
        have q16:IntKind.i64.wrap ((i:Int)-16)=((i-16:Nat):Int):=by rw [wrap64 (by omega) (by omega)]; omega
        have q7:IntKind.i64.wrap ((i:Int)-7)=((i-7:Nat):Int):=by rw [wrap64 (by omega) (by omega)]; omega
        have q2:IntKind.i64.wrap ((i:Int)-2)=((i-2:Nat):Int):=by rw [wrap64 (by omega) (by omega)]; omega
        have B1:0<1→(i+1)*(tb 57).bytes≤140737488355328:=fun h=>by show (i+1)*4≤_; omega
        conv=>whnf
        repeat' (first|(rw [q15]; conv=>whnf)|(rw [q16]; conv=>whnf)|(rw [q7]; conv=>whnf)|(rw [q2]; conv=>whnf)|(refine Exists.intro _ (And.intro (chainI (aTurn _ 7 (by decide))) ?_); conv=>whnf)|(refine Exists.intro _ (And.intro (chainI (aTurn _ 17 (by decide))) ?_); conv=>whnf)|(refine Exists.intro _ (And.intro (chainI (aTurn _ 18 (by decide))) ?_); conv=>whnf)|(refine Exists.intro _ (And.intro (chainI (aTurn _ 19 (by decide))) ?_); conv=>whnf)|(refine Exists.intro _ (And.intro (chainI (aCut _ 3 (by decide))) ?_); conv=>whnf)|(refine Exists.intro _ (And.intro (chainI (aCut _ 10 (by decide))) ?_); conv=>whnf)|(refine And.intro (fun h=> ?_) (fun h=> ?_)<;>(first|(with_reducible have hd:_<_:=of_decide_eq_true h)|(with_reducible have hd:¬ (_<_):=of_decide_eq_false h)|fail)<;>conv=>whnf)|((with_reducible refine DOr.l ?_); (conv=>whnf))|(refine And.intro ?_ ?_; (focus (first|(first|exact B1 (by omega)|fail)|(refine chainI ?_; (first|decide|omega|fail))|fail)); conv=>whnf)|fail)
        ·have hi':i<64:=by omega
         refine ⟨i+1,⟨by omega,by omega⟩,?_,by show 64-(i+1)<64-i; omega⟩
         (refine And.intro ?_ (And.intro ?_ (And.intro ?_ rfl))<;>(conv=>whnf)<;>repeat' (first|exact trivial|exact LeE.of (Le.refl _)|(with_reducible refine LeE.of ?_)|(first|exact LeAs_pc|(refine fun k hk=>LeCs.of_eq ?_; by_cases hki:k<i; (· simp only [catF,hki,if_true,Nat.zero_add]); (· have hki':k=i:=Nat.le_antisymm (Nat.le_of_lt_succ hk) (Nat.le_of_not_lt hki); subst hki'; simp only [catF,Nat.lt_irrefl,if_false,Nat.sub_self]; refine congrArg (fun z=>[C.v (.int .u32 z)]) ?_; simp only [Int.toNat_natCast,Nat.zero_add,w_xor,w_add]; rw [wT_hi _ _ h16 hi']; rfl))|exact rfl|exact leI (by first|rfl|(rw [wrap64 (by omega) (by omega)]; omega)|fail)|exact fun i hi=>LeCs.refl _|fail)|((with_reducible refine And.intro ?_ ?_)<;>conv=>whnf)))
         all_goals trace_state
        ·obtain rfl:i=64:=by omega
         clear q15 q16 q7 q2 B1
         refine loopI Nat (fun i=>i≤64) (fun i=>[(20,intA .i64 i),(12,.c (cw (rounds (wT (fun k=>padM b n (64*j+k))) (thrs bT (padM b n) j) i 0))),(13,.c (cw (rounds (wT (fun k=>padM b n (64*j+k))) (thrs bT (padM b n) j) i 1))),(14,.c (cw (rounds (wT (fun k=>padM b n (64*j+k))) (thrs bT (padM b n) j) i 2))),(15,.c (cw (rounds (wT (fun k=>padM b n (64*j+k))) (thrs bT (padM b n) j) i 3))),(16,.c (cw (rounds (wT (fun k=>padM b n (64*j+k))) (thrs bT (padM b n) j) i 4))),(17,.c (cw (rounds (wT (fun k=>padM b n (64*j+k))) (thrs bT (padM b n) j) i 5))),(18,.c (cw (rounds (wT (fun k=>padM b n (64*j+k))) (thrs bT (padM b n) j) i 6))),(19,.c (cw (rounds (wT (fun k=>padM b n (64*j+k))) (thrs bT (padM b n) j) i 7)))]) (fun i=>[.box (List.map AV.c (arrC (fun _=>cb 0) 32)),.row 1 (64*blocks n) (byF (padM b n)),.row 1 64 (fun k=>[cw (wT (fun k=>padM b n (64*j+k)) k)])]) (fun i=>64-i) 0 (Nat.zero_le _) ?_ (fun _=>rfl) fun i hi=> ?_
         ·(refine And.intro ?_ (And.intro ?_ (And.intro ?_ rfl))<;>(conv=>whnf)<;>repeat' (first|exact trivial|exact LeE.of (Le.refl _)|(first|exact LeAs_c _ _ _|exact rfl|exact fun i hi=>LeCs.refl _|fail)|((with_reducible refine And.intro ?_ ?_)<;>conv=>whnf)))
         ·change i≤64 at hi
          conv=>whnf
          repeat' (first|(refine Exists.intro _ (And.intro (aTurn _ 2 (by decide)) ?_); conv=>whnf)|(refine Exists.intro _ (And.intro (aTurn _ 6 (by decide)) ?_); conv=>whnf)|(refine Exists.intro _ (And.intro (aTurn _ 11 (by decide)) ?_); conv=>whnf)|(refine Exists.intro _ (And.intro (aTurn _ 13 (by decide)) ?_); conv=>whnf)|(refine Exists.intro _ (And.intro (aTurn _ 22 (by decide)) ?_); conv=>whnf)|(refine Exists.intro _ (And.intro (aTurn _ 25 (by decide)) ?_); conv=>whnf)|(refine And.intro (fun h=> ?_) (fun h=> ?_)<;>(first|(with_reducible have hd:_<_:=of_decide_eq_true h)|(with_reducible have hd:¬ (_<_):=of_decide_eq_false h)|fail)<;>conv=>whnf)|(refine And.intro ?_ ?_; (focus (first|(refine chainI ?_; (first|decide|omega|fail))|fail)); conv=>whnf)|((with_reducible refine xc_pure ?_); conv=>whnf))
          ·have hi':i<64:=by omega
           refine ⟨i+1,hi',?_,by show 64-(i+1)<64-i; omega⟩
           (refine And.intro ?_ (And.intro ?_ (And.intro ?_ rfl))<;>(conv=>whnf)<;>repeat' (first|exact trivial|exact LeE.of (Le.refl _)|(with_reducible refine LeE.of ?_)|(first|exact LeAs_c _ _ _|exact leI (by simp only [Int.toNat_natCast,Nat.zero_add,wS,w_add,w_xor,w_and]; rfl)|exact rfl|exact leI (by first|rfl|(rw [wrap64 (by omega) (by omega)]; omega)|fail)|exact fun i hi=>LeCs.refl _|fail)|((with_reducible refine And.intro ?_ ?_)<;>conv=>whnf)))
           all_goals trace_state
          ·obtain rfl:i=64:=by omega
           refine ⟨j+1,hj',?_,by show blocks n-(j+1)<blocks n-j; omega⟩
           have e:IntKind.i64.wrap (((64*j:Nat):Int)+64)=((64*(j+1):Nat):Int):=by rw [wrap64 (by omega) (by omega)]; omega
           (refine And.intro ?_ (And.intro ?_ (And.intro ?_ rfl))<;>(conv=>whnf)<;>repeat' (first|exact trivial|exact LeE.of (Le.refl _)|(with_reducible refine LeE.of ?_)|(first|exact LeAs_c _ _ _|exact leI e|(refine leSl rfl (fun q hq=> ?_); have hq8:q=0∨q=1∨q=2∨q=3∨q=4∨q=5∨q=6∨q=7:=(by omega); rcases hq8 with rfl|rfl|rfl|rfl|rfl|rfl|rfl|rfl<;>(refine congrArg (fun z=>[C.v (.int .u32 z)]) ?_; simp only [w_add]; rfl))|exact rfl|exact fun i hi=>LeCs.refl _|fail)|((with_reducible refine And.intro ?_ ?_)<;>conv=>whnf)))
           all_goals trace_state
    ·obtain rfl:j=blocks n:=by omega
     clear hQ hbl
     refine loopI Nat (fun i=>i≤32) (fun i=>[(25,intA .i64 i)]) (fun i=>[.box (List.map AV.c (arrC (fun _=>cb 0) 32)),.dead,.box (List.map AV.c (arrC (fun k=>cb (if k<i then shaB b n k else 0)) 32))]) (fun i=>32-i) 0 (Nat.zero_le _) ?_ (fun _=>rfl) fun i hi=> ?_
     ·have ea:∀ k,k<32→cb 0=cb (if k<0 then shaB b n k else 0):=fun k _=>by rw [if_neg (by omega)]
      rw [z32]
      (refine And.intro ?_ (And.intro ?_ (And.intro ?_ rfl))<;>(conv=>whnf)<;>repeat' (first|exact trivial|exact LeE.of (Le.refl _)|(first|exact LeAs_c _ _ _|exact rfl|fail)|((with_reducible refine And.intro ?_ ?_)<;>conv=>whnf)))
     ·change i≤32 at hi
      have r1:IntKind.i64.wrap ((i:Int).tdiv 4)=((i/4:Nat):Int):=by rw [Int.tdiv_eq_ediv_of_nonneg (by omega),wrap64 (by omega) (by omega)]; omega
      have r2:(i:Int).tmod 4=((i%4:Nat):Int):=by rw [Int.tmod_eq_emod_of_nonneg (by omega)]; omega
      have PF:=fun x:W=>aForm x.toNat 4 (wlt x) (by decide)
      conv=>whnf
      repeat' (first|(rw [r1]; conv=>whnf)|(rw [r2]; conv=>whnf)|(rw [w64]; conv=>whnf)|(refine Exists.intro _ (And.intro (PF _) ?_); conv=>whnf)|(refine And.intro (fun h=> ?_) (fun h=> ?_)<;>(first|(with_reducible have hd:_<_:=of_decide_eq_true h)|(with_reducible have hd:¬ (_<_):=of_decide_eq_false h)|fail)<;>conv=>whnf)|((with_reducible refine FzOr.l ?_); conv=>whnf)|(refine And.intro ?_ ?_; (focus (first|(refine chainI ?_; (first|decide|omega|fail))|fail)); conv=>whnf)|((with_reducible refine xc_pure ?_); conv=>whnf)|((rw [arrA_layX]; rotate_left; exact rfl; exact rfl; (focus (first|omega|fail))); conv=>whnf)|((rw [arrA_cutN]; rotate_left; exact rfl); conv=>whnf)|(rw [arrA_len]; conv=>whnf)|((rw [layA_allN]; rotate_left; (focus (first|exact arrA_len _ _))); conv=>whnf)|((rw [mkA_arr]; rotate_left; exact rfl); conv=>whnf)|fail)
      ·have hi':i<32:=by omega
       refine ⟨i+1,hi',?_,by show 32-(i+1)<32-i; omega⟩
       have ea:∀ k,k<32→updC (fun k=>cb (if k<i then shaB b n k else 0)) (0+(i:Int).toNat) (cb (putB (BitVec.toNat (thrs bT (padM b n) (blocks n) ((i/4:Nat):Int).toNat)) 4 ((i%4:Nat):Int).toNat)) k=cb (if k<i+1 then shaB b n k else 0):=fun k hk=>by
        rw [Int.toNat_natCast,Int.toNat_natCast,Int.toNat_natCast,Nat.zero_add]
        unfold updC
        by_cases h:k=i
        ·subst h; rw [if_pos rfl,if_pos (Nat.lt_succ_self _)]; rfl
        ·rw [if_neg h]
         show cb (if k<i then shaB b n k else 0)=_
         by_cases h2:k<i
         ·rw [if_pos h2,if_pos (by omega)]
         ·rw [if_neg h2,if_neg (by omega)]
       (refine And.intro ?_ (And.intro ?_ (And.intro ?_ rfl))<;>(conv=>whnf)<;>repeat' (first|exact trivial|exact LeE.of (Le.refl _)|(with_reducible refine LeE.of ?_)|(first|exact LeAs_c _ _ _|exact LeAs_arr ea|exact rfl|exact leI (by first|rfl|(rw [wrap64 (by omega) (by omega)]; omega)|fail)|fail)|((with_reducible refine And.intro ?_ ?_)<;>conv=>whnf)))
      ·obtain rfl:i=32:=by omega
       have ez:arrC (fun k=>cb (if k<32 then shaB b n k else 0)) 32=sumC (shaB b n):=by
        rw [← arr_sumC]; exact arrC_congr fun k hk=>by rw [if_pos hk]
       rw [ez]
       exact Le.refl _
end Go.Proofs.YtaecnniddhikbaaGreatDoor
