/- What functions of the program answer,whatever their arguments. -/
import Derived.Test.YtaecnniddhikbaaGreatDoorC18
import Derived.Test.YtaecnniddhikbaaGreatDoorA1
set_option linter.unusedSectionVars false
set_option linter.unnecessarySimpa false
set_option linter.unusedSimpArgs false
set_option linter.unusedVariables false
set_option maxRecDepth 100000
set_option maxHeartbeats 8000000
namespace Go.Proofs.YtaecnniddhikbaaGreatDoor
open Go Go.VA
theorem rowSn (pre:List Int)(x y:Int)(h:y=x):∀ i,i<(pre++[x]).length→LeCs (catF 0 pre.length (rB pre) (nthC [[.v (.int .u8 y)]]) i) (rB (pre++[x]) i):=fun i hi=>LeCs.of_eq (by
 subst h
 exact rowE_snoc (enc:=cBy) (d:=(0:Int)) pre _ pre.length rfl i (by simpa using hi))
theorem gShortR (k:Nat)(hk:k<2 ^ 64):GCall Tryz.prog gl 69 [] [intA .u64 k] [.row 1 (shortL k).length (rB (shortL k))] [.own 0 1 0 (shortL k).length]:=by
 refine gcall_of_vcb htb hmix (f:=69) rfl rfl rfl (by kernel_rfl) rfl rfl rfl fun hb hb2=> ?_; simp only [bndOs,bndO,gbnds,AV.gbnd,bnds,C.bnd,true_and,and_true] at hb hb2; conv=>whnf
 repeat' (first|((with_reducible refine NilOr.l ?_); conv=>whnf)|fail)
 refine loopI (List Int×Nat×Nat) (fun p=>p.1++shortF p.2.2 p.2.1=shortL k∧p.2.1<2 ^ (7*(p.2.2+1))∧p.1.length+p.2.2≤9) (fun p=>[(3,.own 1 1 0 p.1.length),(0,intA .u64 p.2.1)])
  (fun p=>[.row 1 0 (fun _=>[]),.row 1 p.1.length (rB p.1)]) (fun p=>p.2.2) ([],k,9) ⟨rfl,by show k<2 ^ 70; omega,Nat.le_refl _⟩ ?_ (fun _=>rfl) fun ⟨pre,k',m⟩ ⟨h1,h2,h3⟩=> ?_
 ·(refine And.intro ?_ (And.intro ?_ (And.intro ?_ rfl))<;>(conv=>whnf)<;>repeat' (first|exact trivial|exact LeE.of (Le.refl _)|(first|exact rfl|exact fun i hi=>LeCs.refl _|fail)|((with_reducible refine And.intro ?_ ?_)<;>conv=>whnf)))
  exact fun i hi=>absurd hi (Nat.not_lt_zero _)
 ·change pre++shortF m k'=shortL k at h1
  change k'<2 ^ (7*(m+1)) at h2
  change pre.length+m≤9 at h3
  have B1:(pre.length+1)*(tb 5).bytes≤140737488355328:=by show (pre.length+1)*1≤_; omega
  conv=>whnf
  repeat' (first|(refine And.intro (fun h=> ?_) (fun h=> ?_)<;>(first|(with_reducible have hd:_≤_:=of_decide_eq_true h)|(with_reducible have hd:¬ (_≤_):=of_decide_eq_false h)|fail)<;>(first|(conv=>whnf)))|((with_reducible refine OwnOr.l ?_); (conv=>whnf))|(refine And.intro ?_ ?_; (focus (first|exact rfl|(first|exact B1|fail)|(refine chainI ?_; (first|decide|fail))|fail)); conv=>whnf)|fail)
  ·have h:decide ((k':Int)≥128)=true:=h
   have hk':128≤k':=by have:=of_decide_eq_true h; omega
   obtain ⟨m',rfl⟩:∃ m',m=m'+1:=by
    cases m with
    | zero=>simp at h2; omega
    | succ m'=>exact ⟨m',rfl⟩
   rw [show 7*(m'+1+1)=7*(m'+1)+7 from by omega,Nat.pow_add] at h2
   have e1:(pre++[((k'%128+128:Nat):Int)]).length=pre.length+1:=by simp
   refine ⟨(pre++[((k'%128+128:Nat):Int)],k'/128,m'),⟨?_,?_,?_⟩,?_,Nat.lt_succ_self _⟩
   ·rw [← h1]; simp only [shortF]; rw [if_neg (by omega)]; simp
   ·show k'/128<2 ^ (7*(m'+1)); omega
   ·show (pre++[((k'%128+128:Nat):Int)]).length+m'≤9; omega
   ·have hD:IntKind.u64.wrap ((k':Int).tdiv 128)=((k'/128:Nat):Int):=by
     rw [show (k':Int).tdiv 128=((k'/128:Nat):Int) from rfl,wrapU (by omega) ?_]
     have:2 ^ (7*(m'+1))≤2 ^ (7*9):=Nat.pow_le_pow_right (by decide) (by omega)
     omega
    have hM:IntKind.u8.wrap (IntKind.u8.wrap ((k':Int).tmod 128)+128)=((k'%128+128:Nat):Int):=by
     rw [show (k':Int).tmod 128=((k'%128:Nat):Int) from rfl]
     show (((k'%128:Nat):Int)%256+128)%256=_
     omega
    (refine And.intro ?_ (And.intro ?_ (And.intro ?_ rfl))<;>(conv=>whnf)<;>repeat' (first|exact trivial|exact LeE.of (Le.refl _)|(with_reducible refine LeE.of ?_)|(first|exact rfl|exact leI (by first|rfl|omega|fail)|exact fun i hi=>LeCs.refl _|fail)|((with_reducible refine And.intro ?_ ?_)<;>conv=>whnf)))
    all_goals first
     | exact leI hD
     | exact leOwn (by simp)
     | exact e1.symm
     | exact rowSn pre _ _ hM
  ·have h:decide ((k':Int)≥128)=false:=h
   have hk':k'<128:=by have:=of_decide_eq_false h; omega
   have e0:shortL k=pre++[(k':Int)]:=by
    rw [← h1]
    congr 1
    cases m with
    | zero=>rfl
    | succ m=>simp only [shortF]; rw [if_pos hk']
   rw [e0]
   ((conv=>whnf); repeat' (first|exact trivial|exact rfl|((with_reducible refine And.intro ?_ ?_)<;>conv=>whnf)))
   all_goals first
    | (show pre.length+1=(pre++[(k':Int)]).length; simp; done)
    | exact rowSn pre _ _ (by show ((k':Int)%256)%256=_; omega)
    | exact rowSn pre _ _ (by show (k':Int)%256=_; omega)
theorem gShortRI (k:Int)(h0:0≤k)(hk:k<18446744073709551616):GCall Tryz.prog gl 69 [] [intA .u64 k] [.row 1 (shortL k.toNat).length (rB (shortL k.toNat))] [.own 0 1 0 (shortL k.toNat).length]:=by
 have:=gShortR k.toNat (by omega)
 rwa [Int.toNat_of_nonneg h0] at this
theorem gStrR (s:ByteArray)(hs:s.size≤100000):GCall Tryz.prog gl 70 [] [.c (.v (.string s))] [.row 1 (strL s).length (rB (strL s))] [.own 0 1 0 (strL s).length]:=by
 have w1:IntKind.u64.wrap (s.size:Int)=s.size:=wrapU (by omega) (by omega)
 have P:=gShortRI (IntKind.u64.wrap (s.size:Int)) (by rw [w1]; omega) (by rw [w1]; omega)
 have hl:=shortL_len s.size
 have hl2:=shortL_len (IntKind.u64.wrap (s.size:Int)).toNat
 have B1:((shortL (IntKind.u64.wrap (s.size:Int)).toNat).length+s.size)*(tb 5).bytes≤140737488355328:=by show _*1≤_; omega
 refine gcall_of_vcb htb hmix (f:=70) rfl rfl rfl (by kernel_rfl) rfl rfl rfl fun hb hb2=> ?_; simp only [bndOs,bndO,gbnds,AV.gbnd,bnds,C.bnd,true_and,and_true] at hb hb2; conv=>whnf
 repeat' (first|((with_reducible refine NilOr.l ?_); conv=>whnf)|((with_reducible refine OwnOr.l ?_); (conv=>whnf))|(refine And.intro ?_ ?_; (focus (first|exact rfl|(first|exact B1|fail)|(refine chainI ?_; (first|omega|fail))|fail)); conv=>whnf)|((with_reducible refine xc_guard ?_); (first|(refine xc_g (P) false (by first|(((conv=>whnf); repeat' (first|exact trivial|exact rfl|exact LeC.refl _|((with_reducible refine And.intro ?_ ?_)<;>conv=>whnf))); done)|fail) trivial ?_)|fail); conv=>whnf)|fail)
 all_goals rw [w1,Int.toNat_natCast]
 ((conv=>whnf); repeat' (first|exact trivial|exact rfl|((with_reducible refine And.intro ?_ ?_)<;>conv=>whnf)))
 ·show (shortL s.size).length+s.size=(strL s).length; rw [strL,List.length_append,bytesL_len]
 ·intro i hi
  refine LeCs.of_eq ?_
  have hi':i<(shortL s.size).length+s.size:=by rw [strL,List.length_append,bytesL_len] at hi; exact hi
  unfold catF strL
  by_cases h:i<(shortL s.size).length
  ·rw [if_pos h,Nat.zero_add]
   show cBy ((shortL s.size).getD i 0)=cBy ((shortL s.size++bytesL s).getD i 0)
   rw [List.getD_eq_getElem?_getD,List.getD_eq_getElem?_getD,List.getElem?_append_left h]
  ·rw [if_neg h,strCells_eq s _ (by omega)]
   show cBy ((bytesL s).getD _ 0)=cBy ((shortL s.size++bytesL s).getD i 0)
   rw [List.getD_eq_getElem?_getD,List.getD_eq_getElem?_getD,List.getElem?_append_right (by omega)]
 ·show (shortL s.size).length+s.size=(strL s).length; rw [strL,List.length_append,bytesL_len]
theorem aShortD (k:Int)(h0:0≤k)(hk:k<18446744073709551616):ACall Tryz.prog gl 69 [intA .u64 k] [] (.c (.sl false 1 (shortL k.toNat).length (rB (shortL k.toNat)))):=by
 have h:=ACall.of_gcall (gShortRI k h0 hk)
 have e:(fun j=>rB (shortL k.toNat) (0+j))=rB (shortL k.toNat):=by funext j; rw [Nat.zero_add]
 rw [e] at h
 exact h
theorem aStrD (s:ByteArray)(hs:s.size≤100000):ACall Tryz.prog gl 70 [.c (.v (.string s))] [] (.c (.sl false 1 (strL s).length (rB (strL s)))):=by
 have h:=ACall.of_gcall (gStrR s hs)
 have e:(fun j=>rB (strL s) (0+j))=rB (strL s):=by funext j; rw [Nat.zero_add]
 rw [e] at h
 exact h
theorem catRB {A B:List Int}{m:Nat}{F g:Nat→List C}(hm:m=A.length)(hF:∀ j,j<A.length→F j=rB A j)(hg:∀ j,j<B.length→g j=rB B j):∀ i,i<(A++B).length→catF 0 m F g i=rB (A++B) i:=by
 intro i hi
 rw [List.length_append] at hi
 subst hm
 unfold catF
 by_cases h:i<A.length
 ·rw [if_pos h,Nat.zero_add,hF i h]
  show cBy (A.getD i 0)=cBy ((A++B).getD i 0)
  rw [List.getD_eq_getElem?_getD,List.getD_eq_getElem?_getD,List.getElem?_append_left h]
 ·rw [if_neg h,hg _ (by omega)]
  show cBy (B.getD _ 0)=cBy ((A++B).getD i 0)
  rw [List.getD_eq_getElem?_getD,List.getD_eq_getElem?_getD,List.getElem?_append_right (by omega)]
theorem zigI_eq (i:Int)(h0: -9223372036854775808≤i)(h1:i≤9223372036854775807):zigI i=if i<0 then -1-2*i else 2*i:=by
 unfold zigI
 have hs:shrI .i64 i 63=if i<0 then -1 else 0:=by
  unfold shrI
  have:min ((63:Int)).toNat IntKind.i64.bits=63:=by decide
  rw [this,Int.fdiv_eq_ediv_of_nonneg i (by decide)]
  split<;>omega
 have hl:shlI .u64 (IntKind.u64.wrap i) 1=if i<0 then 18446744073709551616+2*i else 2*i:=by
  show (i%18446744073709551616*2 ^ 1)%18446744073709551616=_
  split<;>omega
 rw [hs,hl]
 by_cases hi:i<0
 ·rw [if_pos hi,if_pos hi,if_pos hi]
  obtain ⟨n,hn⟩:∃ n:Nat,18446744073709551616+2*i=(n:Int):=⟨(18446744073709551616+2*i).toNat,by omega⟩
  rw [hn]
  have hn':n<2 ^ 64:=by omega
  unfold bitsI
  show IntKind.u64.wrap (((BitVec.ofInt 64 (n:Int) ^^^ BitVec.ofInt 64 (IntKind.u64.wrap (-1))).toNat:Nat):Int)=_
  rw [show BitVec.ofInt 64 (IntKind.u64.wrap (-1))=BitVec.allOnes 64 from by decide,BitVec.xor_allOnes,BitVec.toNat_not,ofNat64 _ hn']
  show (((2 ^ 64-1-n:Nat):Int))%18446744073709551616=_
  omega
 ·rw [if_neg hi,if_neg hi,if_neg hi]
  obtain ⟨n,hn⟩:∃ n:Nat,2*i=(n:Int):=⟨(2*i).toNat,by omega⟩
  rw [hn]
  have hn':n<2 ^ 64:=by omega
  unfold bitsI
  show IntKind.u64.wrap (((BitVec.ofInt 64 (n:Int) ^^^ BitVec.ofInt 64 (IntKind.u64.wrap 0)).toNat:Nat):Int)=_
  rw [show BitVec.ofInt 64 (IntKind.u64.wrap 0)=0#64 from by decide,BitVec.xor_zero,ofNat64 _ hn']
  show ((n:Nat):Int)%18446744073709551616=_
  omega
theorem aZigR (i:Int)(h0: -9223372036854775808≤i)(h1:i≤9223372036854775807):ACall Tryz.prog gl 105 [intA .i64 i] [] (intA .u64 (zigI i)):=by
 refine acall_of_vc htb hmix (f:=105) rfl rfl rfl (by kernel_rfl) rfl rfl ?_; conv=>whnf
 repeat' (first|(refine And.intro (fun h=> ?_) (fun h=> ?_)<;>(first|(with_reducible have hd:_≤_:=of_decide_eq_true h)|(with_reducible have hd:¬ (_≤_):=of_decide_eq_false h)|fail)<;>(first|(conv=>whnf)))|fail)
 ·have h:decide (i≥0)=true:=h
  have h:=of_decide_eq_true h
  refine leI ?_
  rw [zigI_eq i h0 h1,if_neg (by omega)]
  show (i%18446744073709551616*2)%18446744073709551616=_
  omega
 ·have h:decide (i≥0)=false:=h
  have h:=of_decide_eq_false h
  refine leI ?_
  rw [zigI_eq i h0 h1,if_pos (by omega)]
  show ((((0-i%18446744073709551616)%18446744073709551616)*2)%18446744073709551616-1)%18446744073709551616=_
  omega
end Go.Proofs.YtaecnniddhikbaaGreatDoor
namespace Go.Proofs.YtaecnniddhikbaaGreatDoor
open Go Go.VA
theorem first_doc {v:V}(h0:0≤v.k)(h6:v.k≤6)(h:v.sec=true):IntKind.u8.wrap (IntKind.u8.wrap v.k+128)=firstB v:=by
 rw [first_t h]
 generalize v.k=k at *
 obtain ⟨a,rfl⟩:∃ a:Nat,k=(a:Int):=⟨k.toNat,by omega⟩
 have hf:∀ a:Fin 7,IntKind.u8.wrap (IntKind.u8.wrap (a.val:Int)+128)=bitsI .or .u8 (IntKind.u8.wrap (a.val:Int)) 128:=by decide +kernel
 exact hf ⟨a,by omega⟩
theorem code_doc (t:Ty)(h:chkR t=true):IntKind.u8.wrap (IntKind.i64.wrap (IntKind.i64.wrap (8*t.1)+t.2))=codeT t:=by
 obtain ⟨k,o⟩:=t
 unfold chkR at h
 split at h
 ·exact absurd h (by decide)
 ·rename_i hn
  simp at hn
  have hf:∀ a:Fin 6,∀ b:Fin 4,chkR ((a.val:Int),(b.val:Int))=true→IntKind.u8.wrap (IntKind.i64.wrap (IntKind.i64.wrap (8*(a.val:Int))+(b.val:Int)))=codeT ((a.val:Int),(b.val:Int)):=by decide +kernel
  obtain ⟨a,rfl⟩:∃ a:Nat,k=(a:Int):=⟨k.toNat,by omega⟩
  obtain ⟨b,rfl⟩:∃ b:Nat,o=(b:Int):=⟨o.toNat,by omega⟩
  refine hf ⟨a,by omega⟩ ⟨b,by omega⟩ ?_
  unfold chkR
  rw [if_neg (by simp; omega)]
  exact h
theorem shaped_ty {v:V}(h:shaped v=true)(h6:(v.k==6)=true):chkR v.t=true:=by
 rw [shaped_law v 1 (by omega)] at h
 simp only [Bool.and_eq_true,Bool.not_eq_true'] at h
 obtain ⟨⟨⟨⟨⟨⟨c1,c2⟩,c3⟩,c4⟩,c5⟩,c6⟩,ck⟩:=h
 unfold chk4 at c4
 simp only [Bool.or_eq_false_iff,h6,Bool.true_and,Bool.not_eq_false'] at c4
 exact c4.2
theorem e_sec {v:V}(h0:0≤v.k)(h6:v.k≤6)(h:v.sec=true):∀ j,j<[firstB v].length→updF (nthC [[C.v (Value.int IntKind.u8 (IntKind.u8.wrap v.k))]]) (0+Int.toNat 0)
  (List.take 0 (nthC [[C.v (Value.int IntKind.u8 (IntKind.u8.wrap v.k))]] (0+Int.toNat 0))++[C.v (Value.int IntKind.u8 (IntKind.u8.wrap (IntKind.u8.wrap v.k+128)))]++List.drop (0+(tb 5).sz) (nthC [[C.v (Value.int IntKind.u8 (IntKind.u8.wrap v.k))]] (0+Int.toNat 0))) j=rB [firstB v] j:=fun j hj=>by
 obtain rfl:j=0:=by simpa using hj
 rw [← first_doc h0 h6 h]; rfl
theorem e_ns {v:V}(h:v.sec=false):∀ j,j<[firstB v].length→nthC [[C.v (Value.int IntKind.u8 (IntKind.u8.wrap v.k))]] j=rB [firstB v] j:=fun j hj=>by
 obtain rfl:j=0:=by simpa using hj
 rw [first_f h]; rfl
attribute [local irreducible] zigI
set_option maxHeartbeats 2000000 in
theorem gVForm (v:V):∀ (d:Nat) (t t':Bool),allV v d=true→d≤8→rgV v=true→bigL v≤2000000 →
  GCall Tryz.prog gl 71 [] [.ag (cVt t t' v)] [.row 1 (layL v).length (rB (layL v))] [.own 0 1 0 (layL v).length]:=by
 induction v using V.ind with
 | h v ih =>
 intro d t t' hA hd hr hb
 have hL:=layL_eq v
 obtain ⟨h0,hS,hl⟩:=allV_parts hA
 obtain ⟨d,rfl⟩:∃ e,d=e+1:=⟨d-1,by omega⟩
 have hw:IntKind.i64.wrap (((d+1:Nat):Int)-1)=(d:Int):=by rw [wrap64 (by omega) (by omega)]; omega
 rw [hw] at hl
 obtain ⟨p1,p2,p3,p4,p5,p6,p7,p8⟩:=shaped_parts hS
 rw [rgV_eq] at hr
 simp only [Bool.and_eq_true,decide_eq_true_eq,List.all_eq_true] at hr
 have wl:IntKind.u64.wrap (v.l.length:Int)=v.l.length:=wrapU (by omega) (by omega)
 have s1:=shortL_len (zigI v.i).toNat
 have s2:=strL_len v.s
 have s3:=shortL_len v.l.length
 have BB:∀ m:Nat,m≤1000000→m*(tb 5).bytes≤140737488355328:=fun m h=>by show m*1≤_; omega
 have B0:=BB (1+1) (by omega)
 have B2:=BB (1+(shortL (zigI v.i).toNat).length) (by omega)
 have B3:=BB (1+(strL v.s).length) (by omega)
 have B4:=BB (1+(shortL (IntKind.u64.wrap (v.l.length:Int)).toNat).length) (by rw [wl,Int.toNat_natCast]; omega)
 have Z:=aZigR v.i (by omega) (by omega)
 have P2:=aShortD (zigI v.i) (zigI_rg v.i).1 (zigI_rg v.i).2
 have P3:=aStrD v.s (by omega)
 have P4:=aShortD (IntKind.u64.wrap (v.l.length:Int)) (by rw [wl]; omega) (by rw [wl]; omega)
 refine gcall_of_vcb htb hmix (f:=71) rfl rfl rfl (by kernel_rfl) rfl rfl rfl fun hb hb2=> ?_; simp only [bndOs,bndO,gbnds,AV.gbnd,bnds,C.bnd,true_and,and_true] at hb hb2; conv=>whnf
 repeat' (first|(refine Exists.intro _ (And.intro (Z) ?_); conv=>whnf)|(refine Exists.intro _ (And.intro (P2) ?_); conv=>whnf)|(refine Exists.intro _ (And.intro (P3) ?_); conv=>whnf)|(refine Exists.intro _ (And.intro (P4) ?_); conv=>whnf)|(refine And.intro (fun h=> ?_) (fun h=> ?_)<;>(first|skip)<;>conv=>whnf)|((with_reducible refine NilOr.l ?_); conv=>whnf)|((with_reducible refine OwnOr.r ?_); (conv=>whnf))|(refine And.intro ?_ ?_; (focus (first|exact rfl|(first|exact B0|exact B2|exact B3|exact B4|fail)|(refine chainI ?_; (first|decide|fail))|fail)); conv=>whnf)|((with_reducible refine xc_pure ?_); conv=>whnf))
 all_goals first
  | have e0:=e_sec p1 p2 (by assumption)
  | have e0:=e_ns (v:=v) (by assumption)
 all_goals try first
  | have e1:=layB_1 (v:=v) (rs:=v.l.map layL) (by assumption)
  | have e1:=layB_2 (v:=v) (rs:=v.l.map layL) (by assumption) (by assumption)
  | have e1:=layB_3 (v:=v) (rs:=v.l.map layL) (by assumption) (by assumption) (by assumption)
  | have e1:=layB_6 (v:=v) (rs:=v.l.map layL) (by assumption) (by assumption) (by assumption) (by assumption)
  | have e1:=layB_0 (v:=v) (rs:=v.l.map layL) (by assumption) (by assumption) (by assumption) (by assumption) (by assumption) (by assumption)
 all_goals try (rw [e1] at hL; rw [hL])
 all_goals try (guard_target =~ (_∧_); ((conv=>whnf); repeat' (first|exact trivial|exact rfl|((with_reducible refine And.intro ?_ ?_)<;>conv=>whnf))))
 all_goals try first
  | exact fun i hi=>LeCs.of_eq (e0 i hi)
  | (have e6:=code_doc v.t (shaped_ty hS (by assumption)); exact fun i hi=>LeCs.of_eq (catRB (A:=[firstB v]) rfl e0 (fun j hj=>by simp only [Nat.zero_add]; rw [← e6]; exact rB1 _ j hj) i hi))
  | exact fun i hi=>LeCs.of_eq (catRB (A:=[firstB v]) rfl e0 (fun j hj=>by simp only [Nat.zero_add]; exact rB1 _ j hj) i hi)
  | exact fun i hi=>LeCs.of_eq (catRB (A:=[firstB v]) rfl e0 (fun j hj=>by simp only [Nat.zero_add]) i hi)
  | exact fun i hi=>LeCs.of_eq (catRB (A:=[firstB v]) rfl e0 (fun j hj=>rfl) i hi)
  | (simp only [List.length_cons]; omega)
 all_goals try exact absurd ((‹(v.k==4)=true›).symm.trans ‹(v.k==4)=false›) (by decide)
 all_goals
  have e2:=hdL_all (v:=v) (by assumption) (by assumption) (by assumption) (by assumption) (by simp [*])
  refine loopI Nat (fun c=>c≤v.l.length) (fun c=>[(4,intA .i64 c),(3,.own 2 1 0 (hdL v c).length)]) (fun c=>[.box (List.map AV.c (cVt t t' v)),.row (tb 5).sz 0 (fun _=>[]),.row 1 (hdL v c).length (rB (hdL v c))]) (fun c=>v.l.length-c) 0 (Nat.zero_le _) ?_ (fun _=>rfl) fun c hc=> ?_
  ·have hz:hdL v 0=[firstB v]++shortL v.l.length:=by simp [hdL,layIts]
   rw [wl,Int.toNat_natCast]
   (refine And.intro ?_ (And.intro ?_ (And.intro ?_ rfl))<;>(conv=>whnf)<;>repeat' (first|exact trivial|exact LeE.of (Le.refl _)|(with_reducible refine LeE.of ?_)|(first|exact rfl|exact fun i hi=>LeCs.refl _|fail)|((with_reducible refine And.intro ?_ ?_)<;>conv=>whnf)))
   all_goals first
    | exact fun i hi=>LeCs.of_eq (by rw [hz]; exact catRB (A:=[firstB v]) rfl e0 (fun j hj=>by simp only [Nat.zero_add]) i (by rw [hz] at hi; exact hi))
    | exact fun i hi=>LeCs.of_eq (by rw [hz]; exact catRB (A:=[firstB v]) rfl e0 (fun j hj=>rfl) i (by rw [hz] at hi; exact hi))
    | exact leOwn (by rw [hz,List.length_append]; rfl)
    | (rw [hz,List.length_append]; rfl)
  ·rcases Nat.lt_or_ge c v.l.length with hcl|hcl
   ·obtain ⟨x,hx,hm,he⟩:=rV_ex hcl
    have hbig:=hdL_big hx hcl
    have hxl:=layL_big x
    have ks:=strL_len (v.ks.getD c ByteArray.empty)
    have hk1:(v.ks.getD c ByteArray.empty).size≤1024:=by
     rw [List.getD_eq_getElem?_getD]
     cases h:v.ks[c]? with
     | none=>show ByteArray.empty.size≤1024; decide
     | some y=>exact keys_small p8 c y h
    have PS:=aStrD (v.ks.getD c ByteArray.empty) (by omega)
    have PL:=fun t t'=>(show ACall Tryz.prog gl 71 [.ag (cVt t t' x)] [] (.c (.sl false 1 (layL x).length (rB (layL x)))) from by
     have h:=ACall.of_gcall (ih x hm d t t' (hl x hm) (by omega) (hr.2 x hm) (by omega))
     have e:(fun j=>rB (layL x) (0+j))=rB (layL x):=by funext j; rw [Nat.zero_add]
     rw [e] at h
     exact h)
    have BC:∀ m:Nat,m≤4000000→m*(tb 5).bytes≤140737488355328:=fun m h=>by show m*1≤_; omega
    have B5:=BC ((hdL v c).length+(strL (v.ks.getD c ByteArray.empty)).length) (by omega)
    have B6:=BC ((hdL v c).length+(layL x).length) (by omega)
    have B7:=BC ((hdL v c).length+(strL (v.ks.getD c ByteArray.empty)).length+(layL x).length) (by omega)
    conv=>whnf
    repeat' (first|(refine Exists.intro _ (And.intro (PS) ?_); conv=>whnf)|(refine And.intro (fun h=> ?_) (fun h=> ?_)<;>(first|(with_reducible have hd:_<_:=of_decide_eq_true h)|(with_reducible have hd:¬ (_<_):=of_decide_eq_false h)|skip)<;>conv=>whnf)|(refine And.intro ?_ ?_; (focus (first|exact rfl|(first|exact B5|fail)|(refine chainI ?_; (first|omega|fail))|(first|omega|fail)|((conv=>whnf); intros; (try simp only [decide_eq_true_eq,decide_eq_false_iff_not,Bool.and_eq_true,Bool.or_eq_true,Bool.and_eq_false_imp,Bool.or_eq_false_iff,Bool.not_eq_true',Bool.not_eq_false',beq_iff_eq,bne_iff_ne,ne_eq] at *); (first|omega|fail)))); conv=>whnf)|((with_reducible refine xc_pure ?_); conv=>whnf))
    all_goals try exact trivial
    all_goals (rw [he]; conv=>whnf)
    repeat' (first|(refine Exists.intro _ (And.intro (PL _ _) ?_); conv=>whnf)|(refine And.intro ?_ ?_; (focus (first|(first|exact B6|exact B7|fail)|fail)); conv=>whnf)|((with_reducible refine xc_pure ?_); conv=>whnf))
    all_goals try exact trivial
    all_goals try first
     | exact absurd ((‹(v.k==5)=true›).symm.trans ‹(v.k==5)=false›) (by decide)
     | exact absurd (eq_of_beq ‹(v.k==4)=true›) (by rw [eq_of_beq ‹(v.k==5)=true›]; decide)
    all_goals
     first|have es:=hdL_succ5 (v:=v) (c:=c) (by assumption) hx hcl|have es:=hdL_succ4 (v:=v) (c:=c) (by assumption) hx hcl
     have el:=congrArg List.length es
     simp only [List.length_append] at el
     refine ⟨c+1,by omega,?_,by omega⟩
     (refine And.intro ?_ (And.intro ?_ (And.intro ?_ rfl))<;>(conv=>whnf)<;>repeat' (first|exact trivial|exact LeE.of (Le.refl _)|(with_reducible refine LeE.of ?_)|(first|exact rfl|exact leI (by first|rfl|(rw [wrap64 (by omega) (by omega)]; omega)|fail)|exact fun i hi=>LeCs.refl _|exact leOwn (by first|rfl|omega))|((with_reducible refine And.intro ?_ ?_)<;>conv=>whnf)))
    all_goals try first
     | exact leI (by rw [wrap64 (by omega) (by omega)]; rfl)
     | exact leOwn (by omega)
     | omega
    all_goals first
     | exact fun i hi=>LeCs.of_eq (by rw [es]; exact catRB (A:=hdL v c) rfl (fun _ _=>rfl) (fun _ _=>rfl) i (by rw [es] at hi; exact hi))
     | exact fun i hi=>LeCs.of_eq (by rw [es]; exact catRB (A:=hdL v c++strL (v.ks.getD c ByteArray.empty)) (by rw [List.length_append]) (catRB rfl (fun _ _=>rfl) (fun _ _=>rfl)) (fun _ _=>rfl) i (by rw [es] at hi; exact hi))
   ·obtain rfl:c=v.l.length:=by omega
    conv=>whnf
    repeat' (first|(refine And.intro (fun h=> ?_) (fun h=> ?_)<;>(first|(with_reducible have hd:_<_:=of_decide_eq_true h)|(with_reducible have hd:¬ (_<_):=of_decide_eq_false h)|skip)<;>conv=>whnf)|(refine And.intro ?_ ?_; (focus (first|exact rfl|(refine chainI ?_; (first|omega|fail))|fail)); conv=>whnf)|fail)
    all_goals try (exfalso; omega)
    rw [e2]
    ((conv=>whnf); repeat' (first|exact trivial|exact rfl|exact (fun i hi=>LeCs.refl _)|((with_reducible refine And.intro ?_ ?_)<;>conv=>whnf)))
end Go.Proofs.YtaecnniddhikbaaGreatDoor
