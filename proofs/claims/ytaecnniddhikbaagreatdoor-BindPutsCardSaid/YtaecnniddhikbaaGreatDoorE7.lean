/- What functions of the program answer,whatever their arguments. -/
import Derived.Test.YtaecnniddhikbaaGreatDoorC1
import Derived.Test.YtaecnniddhikbaaGreatDoorVw5
set_option linter.unusedSectionVars false
set_option linter.unnecessarySimpa false
set_option linter.unusedSimpArgs false
set_option linter.unusedVariables false
set_option maxRecDepth 100000
set_option maxHeartbeats 8000000
namespace Go.Proofs.YtaecnniddhikbaaGreatDoor
open Go Go.VA
def tyL:List ByteArray:=[{ data:= #[100,105,115,107] },{ data:= #[110,111,100,101] },{ data:= #[110,111,116,101] },{ data:= #[114,117,108,101] }]
theorem aTypes:ACall Tryz.prog gl 67 [] [] (.c (.sl false 1 4 (rS tyL))):=by
 refine acall_of_vc htb hmix (f:=67) rfl rfl rfl (by kernel_rfl) rfl rfl ?_; conv=>whnf
 repeat' (first|((with_reducible refine NilOr.l ?_); conv=>whnf)|((with_reducible refine OwnOr.l ?_); (conv=>whnf))|fail)
 exact leSl rfl (fun i hi=>by match i,hi with|0,_=>rfl|1,_=>rfl|2,_=>rfl|3,_=>rfl)
theorem aIdxS (t:Bool)(l:List ByteArray)(x:ByteArray):ACall Tryz.prog gl 101 [.c (.sl t 1 l.length (rS l)),.c (.v (.string x))] [] (intA .i64 (fidx (eqs x) l 0)):=by
 refine acall_of_vcb htb hmix (f:=101) rfl rfl rfl (by kernel_rfl) rfl rfl fun hb=> ?_; simp only [bndAll,AV.bnd,bnds,C.bnd,cVt,cS,true_and,and_true] at hb; conv=>whnf
 repeat' (fail)
 refine loopI Nat (fun c=>c≤l.length∧fidx (eqs x) (l.drop c) c=fidx (eqs x) l 0) (fun c=>[(8,intA .i64 c)]) (fun c=>[]) (fun c=>l.length-c) 0 ⟨Nat.zero_le _,rfl⟩ ?_ (fun _=>rfl) fun c ⟨hc,hR⟩=> ?_
 ·(refine And.intro ?_ (And.intro ?_ (And.intro ?_ rfl))<;>(conv=>whnf)<;>repeat' (first|exact trivial|exact LeE.of (Le.refl _)|(first|exact rfl|fail)|((with_reducible refine And.intro ?_ ?_)<;>conv=>whnf)))
 ·conv=>whnf
  repeat' (first|(refine And.intro (fun h=> ?_) (fun h=> ?_)<;>(first|(with_reducible have hd:_<_:=of_decide_eq_true h)|(with_reducible have hd:¬ (_<_):=of_decide_eq_false h)|skip)<;>conv=>whnf)|(refine And.intro ?_ ?_; (focus (first|(refine chainI ?_; (first|omega|fail))|fail)); conv=>whnf)|fail)
  ·have h1:c<l.length:=by omega
   have h:eqs x (l.getD c ByteArray.empty)=true:=h
   have e:l[c]? =some (l.getD c ByteArray.empty):=by rw [List.getD_eq_getElem?_getD,List.getElem?_eq_getElem h1]; rfl
   exact leI (by rw [← hR,drop_cons? e]; simp only [fidx]; rw [if_pos h])
  ·have h1:c<l.length:=by omega
   have h:eqs x (l.getD c ByteArray.empty)=false:=h
   have e:l[c]? =some (l.getD c ByteArray.empty):=by rw [List.getD_eq_getElem?_getD,List.getElem?_eq_getElem h1]; rfl
   refine ⟨c+1,⟨h1,?_⟩,?_,by show l.length-(c+1)<l.length-c; omega⟩
   ·rw [← hR,drop_cons? e]; simp only [fidx]; rw [if_neg (by rw [h]; simp)]
   ·(refine And.intro ?_ (And.intro ?_ (And.intro ?_ rfl))<;>(conv=>whnf)<;>repeat' (first|exact trivial|exact LeE.of (Le.refl _)|(with_reducible refine LeE.of ?_)|(first|exact rfl|exact leI (by first|rfl|(rw [wrap64 (by omega) (by omega)]; omega)|fail)|fail)|((with_reducible refine And.intro ?_ ?_)<;>conv=>whnf)))
  ·obtain rfl:c=l.length:=by omega
   exact leI (by rw [← hR,List.drop_length]; rfl)
theorem aConS (t:Bool)(l:List ByteArray)(x:ByteArray):ACall Tryz.prog gl 66 [.c (.sl t 1 l.length (rS l)),.c (.v (.string x))] [] (boolA (l.any (eqs x))):=by
 refine acall_of_vc htb hmix (f:=66) rfl rfl rfl (by kernel_rfl) rfl rfl ?_; conv=>whnf
 repeat' (first|(refine Exists.intro _ (And.intro (aIdxS _ _ _) ?_); conv=>whnf)|((with_reducible refine xc_pure ?_); conv=>whnf))
 exact leB (fidx_any _ _ _)
structure Rw where
 t:ByteArray
 n:ByteArray
 k:Int
 o:Int
 i:ByteArray
def tabR:List Rw:=[
 ⟨{ data:= #[100,105,115,107] },{ data:= #[105,100] },3,0,{ data:= #[99] }⟩,
 ⟨{ data:= #[100,105,115,107] },{ data:= #[107,105,110,100] },3,0,{ data:= #[97] }⟩,
 ⟨{ data:= #[100,105,115,107] },{ data:= #[108,97,98,101,108] },3,0,{ data:= #[] }⟩,
 ⟨{ data:= #[100,105,115,107] },{ data:= #[115,101,114,105,97,108] },2,0,{ data:= #[99] }⟩,
 ⟨{ data:= #[100,105,115,107] },{ data:= #[115,105,122,101] },2,0,{ data:= #[110] }⟩,
 ⟨{ data:= #[110,111,100,101] },{ data:= #[97,100,100,114] },3,0,{ data:= #[99] }⟩,
 ⟨{ data:= #[110,111,100,101] },{ data:= #[100,105,115,107] },3,0,{ data:= #[] }⟩,
 ⟨{ data:= #[110,111,100,101] },{ data:= #[105,100] },3,0,{ data:= #[99] }⟩,
 ⟨{ data:= #[110,111,100,101] },{ data:= #[105,109,97,103,101] },3,0,{ data:= #[110,97] }⟩,
 ⟨{ data:= #[110,111,100,101] },{ data:= #[112,111,114,116,115] },4,2,{ data:= #[] }⟩,
 ⟨{ data:= #[110,111,100,101] },{ data:= #[115,101,99,114,101,116] },3,0,{ data:= #[111] }⟩,
 ⟨{ data:= #[110,111,100,101] },{ data:= #[116,97,103,115] },5,3,{ data:= #[] }⟩,
 ⟨{ data:= #[110,111,116,101] },{ data:= #[105,100] },3,0,{ data:= #[99] }⟩,
 ⟨{ data:= #[110,111,116,101] },{ data:= #[109,101,116,97] },5,0,{ data:= #[] }⟩,
 ⟨{ data:= #[110,111,116,101] },{ data:= #[116,101,120,116] },3,0,{ data:= #[] }⟩,
 ⟨{ data:= #[114,117,108,101] },{ data:= #[97,108,108,111,119] },4,3,{ data:= #[] }⟩,
 ⟨{ data:= #[114,117,108,101] },{ data:= #[102,114,111,109] },3,0,{ data:= #[110] }⟩,
 ⟨{ data:= #[114,117,108,101] },{ data:= #[105,100] },3,0,{ data:= #[99] }⟩,
 ⟨{ data:= #[114,117,108,101] },{ data:= #[116,111] },3,0,{ data:= #[] }⟩]
def cRw (r:Rw):List C:=[.v (.string r.t),.v (.string r.n),.v (.int .i64 r.k),.v (.int .i64 r.o),.v (.string r.i)]
def rw0:Rw:=⟨ByteArray.empty,ByteArray.empty,0,0,ByteArray.empty⟩
abbrev rRw (l:List Rw):Nat→List C:=rowE cRw rw0 l
theorem aTable:ACall Tryz.prog gl 136 [] [] (.c (.sl false 5 19 (rRw tabR))):=by
 refine acall_of_vc htb hmix (f:=136) rfl rfl rfl (by kernel_rfl) rfl rfl ?_; conv=>whnf
 repeat' (first|((with_reducible refine NilOr.l ?_); conv=>whnf)|((with_reducible refine OwnOr.l ?_); (conv=>whnf))|fail)
 exact leSl rfl (fun i hi=>by match i,hi with|0,_=>rfl|1,_=>rfl|2,_=>rfl|3,_=>rfl|4,_=>rfl|5,_=>rfl|6,_=>rfl|7,_=>rfl|8,_=>rfl|9,_=>rfl|10,_=>rfl|11,_=>rfl|12,_=>rfl|13,_=>rfl|14,_=>rfl|15,_=>rfl|16,_=>rfl|17,_=>rfl|18,_=>rfl|i+19,h=>exact absurd h (by omega))
def hasB (s:ByteArray) (c:Int):Bool:=(List.range s.size).any fun j=>byteN s j==c
theorem aHas (s:ByteArray)(c:Int)(hs:s.size≤1000):ACall Tryz.prog gl 157 [.c (.v (.string s)),intA .u8 c] [] (boolA (hasB s c)):=by
 refine acall_of_vc htb hmix (f:=157) rfl rfl rfl (by kernel_rfl) rfl rfl ?_; conv=>whnf
 repeat' (fail)
 refine loopI Nat (fun k=>k≤s.size∧∀ j,j<k→(byteN s j==c)=false) (fun k=>[(5,intA .i64 k)]) (fun _=>[]) (fun k=>s.size-k) 0 ⟨Nat.zero_le _,fun j hj=>absurd hj (Nat.not_lt_zero _)⟩ ?_ (fun _=>rfl) fun k ⟨hk,hp⟩=> ?_
 ·(refine And.intro ?_ (And.intro ?_ (And.intro ?_ rfl))<;>(conv=>whnf)<;>repeat' (first|exact trivial|exact LeE.of (Le.refl _)|(first|exact rfl|fail)|((with_reducible refine And.intro ?_ ?_)<;>conv=>whnf)))
 ·conv=>whnf
  repeat' (first|(refine And.intro (fun h=> ?_) (fun h=> ?_)<;>(first|(with_reducible have hd:_<_:=of_decide_eq_true h)|(with_reducible have hd:¬ (_<_):=of_decide_eq_false h)|skip)<;>conv=>whnf)|(refine And.intro ?_ ?_; (focus (first|(refine chainI ?_; (first|omega|fail))|fail)); conv=>whnf)|fail)
  ·have hks:k<s.size:=by omega
   have h:(byteN s k==c)=true:=h
   exact leB (List.any_eq_true.2 ⟨k,List.mem_range.2 hks,h⟩).symm
  ·have hks:k<s.size:=by omega
   have h:(byteN s k==c)=false:=h
   refine ⟨k+1,⟨hks,fun j hj=> ?_⟩,?_,by omega⟩
   ·by_cases e:j=k
    ·subst e; exact h
    ·exact hp j (by omega)
   ·(refine And.intro ?_ (And.intro ?_ (And.intro ?_ rfl))<;>(conv=>whnf)<;>repeat' (first|exact trivial|exact LeE.of (Le.refl _)|(with_reducible refine LeE.of ?_)|(first|exact rfl|exact leI (by first|rfl|(rw [wrap64 (by omega) (by omega)]; omega)|fail)|fail)|((with_reducible refine And.intro ?_ ?_)<;>conv=>whnf)))
  ·obtain rfl:k=s.size:=by omega
   refine leB ?_
   unfold hasB
   refine (Bool.eq_false_iff.2 fun ha=> ?_).symm
   obtain ⟨j,hj,he⟩:=List.any_eq_true.1 ha
   rw [hp j (List.mem_range.1 hj)] at he
   exact absurd he (by decide)
structure Aw where
 n:ByteArray
 k:Int
 o:Int
 a:Bool
 b:Bool
 c:Bool
 d:Bool
def cAw (r:Aw):List C:=[.v (.string r.n),.v (.int .i64 r.k),.v (.int .i64 r.o),.v (.bool r.a),.v (.bool r.b),.v (.bool r.c),.v (.bool r.d)]
def aw0:Aw:=⟨ByteArray.empty,0,0,false,false,false,false⟩
abbrev rAw (l:List Aw):Nat→List C:=rowE cAw aw0 l
def awOf (r:Rw):Aw:=⟨r.n,r.k,r.o,hasB r.i 110,hasB r.i 99,hasB r.i 97,hasB r.i 111⟩
theorem aAttr (r:Rw)(hr:r.i.size≤1000):ACall Tryz.prog gl 137 [.ag (cRw r)] [] (.ag (cAw (awOf r))):=by
 refine acall_of_vc htb hmix (f:=137) rfl rfl rfl (by kernel_rfl) rfl rfl ?_; conv=>whnf
 repeat' (first|(refine Exists.intro _ (And.intro (chainI (aHas _ _ hr)) ?_); conv=>whnf)|((with_reducible refine DOr.l ?_); (conv=>whnf))|fail)
 exact Le.refl _
theorem tab_i (c:Nat):(tabR.getD c rw0).i.size≤1000:=by
 have h:∀ r ∈ tabR,r.i.size≤1000:=by decide +kernel
 rw [List.getD_eq_getElem?_getD]
 cases hx:tabR[c]? with
 | none=>exact (by decide:(0:Nat)≤1000)
 | some r=>exact h r (List.mem_of_getElem? hx)
def atN (t:ByteArray) (c:Nat):List Aw:=((tabR.take c).filter fun r=>eqs r.t t).map awOf
theorem atN_le (t:ByteArray)(c:Nat):(atN t c).length≤c:=by
 unfold atN
 rw [List.length_map]
 exact Nat.le_trans (List.length_filter_le _ _) (by rw [List.length_take]; omega)
theorem atN_succ (t:ByteArray)(c:Nat)(hc:c<19):atN t (c+1)=if eqs (tabR.getD c rw0).t t then atN t c++[awOf (tabR.getD c rw0)] else atN t c:=by
 have hl:c<tabR.length:=hc
 unfold atN
 rw [List.take_add_one,List.getElem?_eq_getElem hl,List.getD_eq_getElem?_getD,List.getElem?_eq_getElem hl]
 simp only [Option.toList_some,List.filter_append,List.map_append,Option.getD_some,List.filter_cons,List.filter_nil]
 split<;>simp
theorem aAttrs (t:ByteArray):ACall Tryz.prog gl 112 [.c (.v (.string t))] [] (.c (.sl false 7 (atN t 19).length (rAw (atN t 19)))):=by
 refine acall_of_vc htb hmix (f:=112) rfl rfl rfl (by kernel_rfl) rfl rfl ?_; conv=>whnf
 repeat' (first|(refine Exists.intro _ (And.intro (aTable) ?_); conv=>whnf)|((with_reducible refine NilOr.l ?_); conv=>whnf)|((with_reducible refine xc_pure ?_); conv=>whnf))
 refine loopI Nat (fun c=>c≤19) (fun c=>[(5,intA .i64 c),(4,.own 1 7 0 (atN t c).length)]) (fun c=>[.row 7 0 (fun _=>[]),.row 7 (atN t c).length (rAw (atN t c))]) (fun c=>19-c) 0 (Nat.zero_le _) ?_ (fun _=>rfl) fun c (hc:c≤19)=> ?_
 ·(refine And.intro ?_ (And.intro ?_ (And.intro ?_ rfl))<;>(conv=>whnf)<;>repeat' (first|exact trivial|exact LeE.of (Le.refl _)|(first|exact rfl|exact fun i hi=>LeCs.refl _|fail)|((with_reducible refine And.intro ?_ ?_)<;>conv=>whnf)))
  exact fun i hi=>absurd hi (Nat.not_lt_zero _)
 ·have hl:=atN_le t c
  have B1:((atN t c).length+1)*(tb 185).bytes≤140737488355328:=by
   have:(tb 185).bytes≤1000:=by decide
   have:=Nat.mul_le_mul (show (atN t c).length+1≤20 by omega) this
   omega
  conv=>whnf
  repeat' (first|(refine Exists.intro _ (And.intro (aAttr (tabR.getD c rw0) (tab_i c)) ?_); conv=>whnf)|(refine And.intro (fun h=> ?_) (fun h=> ?_)<;>(first|(with_reducible have hd:_<_:=of_decide_eq_true h)|(with_reducible have hd:¬ (_<_):=of_decide_eq_false h)|skip)<;>conv=>whnf)|((with_reducible refine OwnOr.l ?_); (conv=>whnf))|(refine And.intro ?_ ?_; (focus (first|(first|exact B1|fail)|(refine chainI ?_; (first|omega|fail))|fail)); conv=>whnf)|((with_reducible refine xc_pure ?_); conv=>whnf))
  ·have h1:c<19:=by omega
   have h:eqs (tabR.getD c rw0).t t=true:=h
   have e:=atN_succ t c h1
   rw [if_pos h] at e
   have e1:(atN t (c+1)).length=(atN t c).length+1:=by rw [e,List.length_append]; rfl
   refine ⟨c+1,h1,?_,by show 19-(c+1)<19-c; omega⟩
   (refine And.intro ?_ (And.intro ?_ (And.intro ?_ rfl))<;>(conv=>whnf)<;>repeat' (first|exact trivial|exact LeE.of (Le.refl _)|(with_reducible refine LeE.of ?_)|(first|exact rfl|exact leI (by first|rfl|(rw [wrap64 (by omega) (by omega)]; omega)|fail)|exact fun i hi=>LeCs.refl _|exact leOwn (by first|rfl|omega))|((with_reducible refine And.intro ?_ ?_)<;>conv=>whnf)))
   ·exact e1.symm
   exact fun i hi=>LeCs.of_eq (by
    rw [e] at hi ⊢
    exact rowE_snoc (enc:=cAw) (x:=awOf (tabR.getD c rw0)) (d:=aw0) _ _ rfl i (by rw [List.length_append] at hi; exact hi))
  ·have h1:c<19:=by omega
   have h:eqs (tabR.getD c rw0).t t=false:=h
   have e:=atN_succ t c h1
   rw [h,if_neg (by decide)] at e
   refine ⟨c+1,h1,?_,by show 19-(c+1)<19-c; omega⟩
   rw [e]
   (refine And.intro ?_ (And.intro ?_ (And.intro ?_ rfl))<;>(conv=>whnf)<;>repeat' (first|exact trivial|exact LeE.of (Le.refl _)|(with_reducible refine LeE.of ?_)|(first|exact rfl|exact leI (by first|rfl|(rw [wrap64 (by omega) (by omega)]; omega)|fail)|exact fun i hi=>LeCs.refl _|fail)|((with_reducible refine And.intro ?_ ?_)<;>conv=>whnf)))
  ·obtain rfl:c=19:=by omega
   exact leSl rfl fun i hi=>by rw [Nat.zero_add]
theorem ty_law (t:ByteArray):decide (((atN t 19).length:Int)>0)=tyL.any (eqs t):=by
 rw [Bool.eq_iff_iff,decide_eq_true_eq,List.any_eq_true]
 have hs:∀ x y:ByteArray,eqs x y=eqs y x:=fun x y=>by unfold eqs; exact Bool.beq_comm
 have h1:∀ x ∈ tyL,∃ r ∈ tabR,r.t=x:=by decide +kernel
 have h2:∀ r ∈ tabR,∃ x ∈ tyL,r.t=x:=by decide +kernel
 constructor
 ·intro h
  have h0:atN t 19≠[]:=fun e=>by rw [e] at h; simp at h
  obtain ⟨a,ha⟩:=List.exists_mem_of_ne_nil _ h0
  unfold atN at ha
  obtain ⟨r,hr,_⟩:=List.mem_map.1 ha
  obtain ⟨hr1,hr2⟩:=List.mem_filter.1 hr
  obtain ⟨x,hx,e⟩:=h2 r (List.mem_of_mem_take hr1)
  exact ⟨x,hx,by rw [hs,← e]; exact hr2⟩
 ·rintro ⟨x,hx,he⟩
  obtain ⟨r,hr,rfl⟩:=h1 x hx
  have hm:awOf r ∈ atN t 19:=List.mem_map.2 ⟨r,List.mem_filter.2 ⟨by rw [List.take_of_length_le (by decide)]; exact hr,by rw [hs]; exact he⟩,rfl⟩
  have:=List.length_pos_of_mem hm
  omega
end Go.Proofs.YtaecnniddhikbaaGreatDoor
namespace Go.Proofs.YtaecnniddhikbaaGreatDoor
open Go Go.VA
theorem eqSs_len {a b:List ByteArray}(h:eqSs a b=true):a.length=b.length:=by
 induction a generalizing b with
 | nil=>cases b with
  | nil=>rfl
  | cons y b=>simp [eqSs] at h
 | cons x a ih=>cases b with
  | nil=>simp [eqSs] at h
  | cons y b =>
   simp only [eqSs,Bool.and_eq_true] at h
   simp only [List.length_cons,ih h.2]
theorem sameR_flat (a b:V):sameR a b true=(flat a b&&all2 (fun x y=>sameR x y true) a.l b.l):=by
 rw [sameR_eq]
 unfold flat
 by_cases hk:eqSs a.ks b.ks=true
 ·have hl:((a.ks.length:Int) != b.ks.length)=false:=by rw [eqSs_len hk]; simp
  rw [hk,hl]
  cases hA:(a.k==b.k)<;>cases hB:(a.i==b.i)<;>cases hC:eqs a.s b.s<;>cases hD:(a.tk==b.tk&&a.to==b.to)<;>cases hE:(a.sec==b.sec)<;>cases hF:((a.l.length:Int)==b.l.length)<;>simp_all [bne]
 ·have hk:eqSs a.ks b.ks=false:=by simpa using hk
  rw [hk]
  simp
theorem aSameV (a:V):∀ (b:V) (t t' u u':Bool),ACall Tryz.prog gl 102 [.ag (cVt t t' a),.ag (cVt u u' b)] [] (boolA (sameR a b true)):=by
 induction a using V.ind with
 | h a ih =>
 intro b t t' u u'
 refine acall_of_vc htb hmix (f:=102) rfl rfl rfl (by kernel_rfl) rfl rfl ?_; conv=>whnf
 repeat' (first|(refine Exists.intro _ (And.intro (aFlat _ _ _ _ a b) ?_); conv=>whnf)|((with_reducible refine GOr.l ?_); (conv=>whnf); refine Exists.intro _ (And.intro (chainI (aEqF _ _ (fun x y=>sameR x y true) _ _ _ _ (Nat.le_refl _) (Nat.le_refl _) fun x hx y _=>ih x hx y false false false false)) ?_); conv=>whnf)|((with_reducible refine xc_pure ?_); conv=>whnf))
 exact leB (by rw [sameR_flat,List.take_length,List.take_length])
theorem checkV_if (v:V):checkV v=if checkR v then 0 else 1:=by
 rw [← check_law]
 unfold checkV
 split<;>simp
end Go.Proofs.YtaecnniddhikbaaGreatDoor
