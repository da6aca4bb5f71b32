/- Contracts of functions of the program,and the laws that stand on them: what each function answers,whatever its arguments. -/
import Derived.Test.YtiodgjgngfklkaaGreatDoorP15
set_option linter.all false
set_option maxRecDepth 100000
set_option maxHeartbeats 8000000
namespace Go.Proofs.YtiodgjgngfklkaaGreatDoor
open Go Go.VA
theorem nt_ {b:Bool}(h:(!b)=true):b=false:=by cases b<;>simp_all
theorem nf {b:Bool}(h:(!b)=false):b=true:=by cases b<;>simp_all
def idxE (k:Ky):List En→Nat
 | []=>0
 | e::r=>if lessKy e.y k then idxE k r+1 else 0
theorem idxE_le (k:Ky):∀ l:List En,idxE k l≤l.length
 | []=>Nat.le_refl _
 | e::r=>by
  unfold idxE
  split
  ·exact Nat.succ_le_succ (idxE_le k r)
  ·exact Nat.zero_le _
theorem idxE_at (k:Ky):∀ (l:List En) (c:Nat),c≤l.length→(∀ j,j<c→lessKy (l.getD j en0).y k=true)→(c<l.length→lessKy (l.getD c en0).y k=false)→idxE k l=c
 | [],c,h,_,_=>by
  have:c=0:=by simpa using h
  rw [this]; rfl
 | e::r,0,_,_,h=>by
  unfold idxE
  have:=h (Nat.succ_pos _)
  rw [if_neg (by rw [show ((e::r).getD 0 en0)=e from rfl] at this; rw [this]; decide)]
 | e::r,c+1,hc,hp,h=>by
  unfold idxE
  have h0:=hp 0 (Nat.succ_pos _)
  rw [if_pos (show lessKy e.y k=true from h0),idxE_at k r c (Nat.le_of_succ_le_succ hc) (fun j hj=>hp (j+1) (Nat.succ_lt_succ hj)) (fun hj=>h (Nat.succ_lt_succ hj))]
def plB (k:Ky) (l:List En):Bool:=decide (idxE k l<l.length)&&eqK (l.getD (idxE k l) en0).y k
theorem aLessF (k:Ky)(e:En):ACall Tryz.prog gl 71 [.ag (cEn e),.sp true (cKy k) 0] [] (boolA (!lessKy e.y k)):=by
 have L:=aLessKy e.y k
 refine acall_of_vc htb hmix (f:=71) rfl rfl rfl (by kernel_rfl) rfl rfl ?_; conv=>whnf
 repeat' (first|(refine Exists.intro _ (And.intro (L) ?_); conv=>whnf)|((with_reducible refine xc_pure ?_); conv=>whnf))
 exact leB rfl
theorem aIdxE (t:Bool)(k:Ky)(l:List En):ACall Tryz.prog gl 70 [.c (.sl t 17 l.length (rE l)),.fn 71 [] [.sp true (cKy k) 0]] [] (intA .i64 (if idxE k l<l.length then (idxE k l:Int) else -1)):=by
 refine acall_of_vcb htb hmix (f:=70) rfl rfl rfl (by kernel_rfl) rfl rfl fun hb=> ?_; simp only [bndAll,AV.bnd,bnds,C.bnd,cVt,cS,true_and,and_true] at hb; conv=>whnf
 repeat' (fail)
 refine loopI Nat (fun c=>c≤l.length∧∀ j,j<c→lessKy (l.getD j en0).y k=true) (fun c=>[(8,intA .i64 c)]) (fun _=>[]) (fun c=>l.length-c) 0 ⟨Nat.zero_le _,fun j hj=>absurd hj (Nat.not_lt_zero _)⟩ ?_ (fun _=>rfl) fun c ⟨hc,hp⟩=> ?_
 ·(refine And.intro ?_ (And.intro ?_ (And.intro ?_ rfl))<;>(conv=>whnf)<;>repeat' (first|exact trivial|exact LeE.of (Le.refl _)|(first|exact rfl|fail)|((with_reducible refine And.intro ?_ ?_)<;>conv=>whnf)))
 ·by_cases hcl:c<l.length
  ·have hC:(0:Int)≤(c:Int)∧(c:Int)<(l.length:Int):=by omega
   have F:=aLessF k (l.getD c en0)
   conv=>whnf
   repeat' (first|(refine Exists.intro _ (And.intro (F) ?_); conv=>whnf)|(refine And.intro (fun h=> ?_) (fun h=> ?_)<;>(first|(with_reducible have hd:_<_:=of_decide_eq_true h)|(with_reducible have hd:¬ (_<_):=of_decide_eq_false h)|skip)<;>(first|omega|(conv=>whnf)))|(refine And.intro ?_ ?_; (focus (first|(first|exact hC|fail)|fail)); conv=>whnf)|((with_reducible refine xc_pure ?_); conv=>whnf))
   ·have e:=idxE_at k l c hc hp (fun _=>nt_ h)
    rw [e,if_pos hcl]
    exact Le.refl _
   ·refine ⟨c+1,⟨hcl,next_q (q:=fun j=>lessKy (l.getD j en0).y k) hp (nf h)⟩,?_,by omega⟩
    (refine And.intro ?_ (And.intro ?_ (And.intro ?_ rfl))<;>(conv=>whnf)<;>repeat' (first|exact trivial|exact LeE.of (Le.refl _)|(with_reducible refine LeE.of ?_)|(first|exact rfl|exact leI (by first|rfl|(rw [wrap64 (by omega) (by omega)]; omega)|fail)|fail)|((with_reducible refine And.intro ?_ ?_)<;>conv=>whnf)))
  ·obtain rfl:c=l.length:=by omega
   conv=>whnf
   repeat' (first|(refine And.intro (fun h=> ?_) (fun h=> ?_)<;>(first|(with_reducible have hd:_<_:=of_decide_eq_true h)|(with_reducible have hd:¬ (_<_):=of_decide_eq_false h)|fail)<;>(first|omega|(conv=>whnf)))|fail)
   have e:=idxE_at k l l.length hc hp (fun h=>absurd h (Nat.lt_irrefl _))
   rw [e,if_neg (Nat.lt_irrefl _)]
   exact Le.refl _
abbrev cSv (t:Bool) (s:St):List C:=[.v (.int .u64 s.a),.v (.int .u64 s.s),.sl t 17 s.l.length (rE s.l)]
theorem aPlaceE (t:Bool)(s:St)(k:Ky):ACall Tryz.prog gl 42 [.ag (cSv t s),.ag (cKy k)] [] (.tup [intA .i64 (idxE k s.l),boolA (plB k s.l)]):=by
 have F:=aIdxE t k s.l
 by_cases hx:idxE k s.l<s.l.length
 ·rw [if_pos hx] at F
  have hC:(0:Int)≤(idxE k s.l:Int)∧(idxE k s.l:Int)<(s.l.length:Int):=by omega
  have hp:plB k s.l=eqK (s.l.getD (idxE k s.l) en0).y k:=by unfold plB; rw [decide_eq_true hx]; rfl
  rw [hp]
  refine acall_of_vc htb hmix (f:=42) rfl rfl rfl (by kernel_rfl) rfl rfl ?_; conv=>whnf
  repeat' (first|(refine Exists.intro _ (And.intro (F) ?_); conv=>whnf)|(refine And.intro (fun h=> ?_) (fun h=> ?_)<;>(first|(with_reducible have hd:_<_:=of_decide_eq_true h)|(with_reducible have hd:¬ (_<_):=of_decide_eq_false h)|fail)<;>(first|omega|(conv=>whnf)))|(refine And.intro ?_ ?_; (focus (first|(first|exact seKy|exact hC|fail)|fail)); conv=>whnf)|(refine And.intro ?_ ?_; (focus (first|exact NoTag.int|fail)); conv=>whnf)|((with_reducible refine xc_pure ?_); conv=>whnf))
  all_goals first|(exfalso; simp at h; omega)|exact Le.refl _
 ·rw [if_neg hx] at F
  have hp:plB k s.l=false:=by unfold plB; rw [decide_eq_false hx]; rfl
  have he:idxE k s.l=s.l.length:=Nat.le_antisymm (idxE_le k _) (Nat.le_of_not_lt hx)
  rw [hp,he]
  refine acall_of_vc htb hmix (f:=42) rfl rfl rfl (by kernel_rfl) rfl rfl ?_; conv=>whnf
  repeat' (first|(refine Exists.intro _ (And.intro (F) ?_); conv=>whnf)|(refine And.intro (fun h=> ?_) (fun h=> ?_)<;>(first|(with_reducible have hd:_<_:=of_decide_eq_true h)|(with_reducible have hd:¬ (_<_):=of_decide_eq_false h)|fail)<;>(first|exact absurd h (by decide)|(conv=>whnf)))|(refine And.intro ?_ ?_; (focus (first|exact NoTag.int|fail)); conv=>whnf)|((with_reducible refine xc_pure ?_); conv=>whnf))
  all_goals first|(exfalso; revert h; decide)|exact Le.refl _
theorem aCloneA (t:Bool)(n:Nat)(f:Nat→List C)(hl:n≤4294967296):ACall Tryz.prog gl 73 [.c (.sl t 5 n f)] [] (.c (.sl false 5 n f)):=by
 have hby:n*(tb 27).bytes≤140737488355328:=by show n*64≤_; omega
 refine acall_of_vc htb hmix (f:=73) rfl rfl rfl (by kernel_rfl) rfl rfl ?_; conv=>whnf
 repeat' (first|(refine And.intro (fun h=> ?_) (fun h=> ?_)<;>(first|skip)<;>(first|(conv=>whnf)))|((with_reducible refine NilOr.l ?_); conv=>whnf)|((with_reducible refine OwnOr.l ?_); (conv=>whnf))|(refine And.intro ?_ ?_; (focus (first|(first|assumption)|fail)); conv=>whnf)|fail)
 ·exact leSl0 rfl (h rfl)
 ·exact leSl rfl fun i _=>by rw [Nat.zero_add]
def En.sm (e:En):Bool:=e.v.sm&&decide (e.d.length≤4294967296)
theorem aCopied (e:En)(hsm:e.sm=true):ACall Tryz.prog gl 43 [.ag (cEn e)] [] (.ag (cEn e)):=by
 unfold En.sm at hsm
 rw [Bool.and_eq_true,decide_eq_true_eq] at hsm
 have V:=aCopy e.v false false hsm.1
 have A:=aCloneA false e.d.length (rA e.d) hsm.2
 refine acall_of_vc htb hmix (f:=43) rfl rfl rfl (by kernel_rfl) rfl rfl ?_; conv=>whnf
 repeat' (first|(refine Exists.intro _ (And.intro (V) ?_); conv=>whnf)|(refine Exists.intro _ (And.intro (A) ?_); conv=>whnf)|((with_reducible refine xc_pure ?_); conv=>whnf))
 exact Le.refl _
def fndE (k:Ky) (l:List En):En:=if plB k l then l.getD (idxE k l) en0 else en0
theorem plB_lt {k:Ky}{l:List En}(h:plB k l=true):idxE k l<l.length:=by
 unfold plB at h
 rw [Bool.and_eq_true,decide_eq_true_eq] at h
 exact h.1
theorem mem_getD {l:List En}{j:Nat}(h:j<l.length):l.getD j en0 ∈ l:=by
 rw [List.getD_eq_getElem?_getD,List.getElem?_eq_getElem h]
 exact List.getElem_mem h
theorem aFindE (s:St)(k:Ky)(hsm:∀ e ∈ s.l,e.sm=true):ACall Tryz.prog gl 21 [.ag (cSt s),.ag (cKy k)] [] (.tup [.ag (cEn (fndE k s.l)),boolA (plB k s.l)]):=by
 have F:=aPlaceE false s k
 by_cases hx:plB k s.l=true
 ·have e:fndE k s.l=s.l.getD (idxE k s.l) en0:=if_pos hx
  have hlt:=plB_lt hx
  have hC:(0:Int)≤(idxE k s.l:Int)∧(idxE k s.l:Int)<(s.l.length:Int):=by omega
  have C:=aCopied (s.l.getD (idxE k s.l) en0) (hsm _ (mem_getD hlt))
  rw [hx] at F ⊢
  rw [e]
  refine acall_of_vc htb hmix (f:=21) rfl rfl rfl (by kernel_rfl) rfl rfl ?_; conv=>whnf
  repeat' (first|(refine Exists.intro _ (And.intro (F) ?_); conv=>whnf)|(refine Exists.intro _ (And.intro (C) ?_); conv=>whnf)|(refine And.intro (fun h=> ?_) (fun h=> ?_)<;>(first|skip)<;>(first|exact absurd h (by decide)|(conv=>whnf)))|(refine And.intro ?_ ?_; (focus (first|(first|exact hC|fail)|fail)); conv=>whnf)|((with_reducible refine xc_pure ?_); conv=>whnf))
  all_goals first|(exfalso; revert h; decide)|exact Le.refl _
 ·have hx:plB k s.l=false:=by simpa using hx
  have e:fndE k s.l=en0:=by unfold fndE; rw [hx]; rfl
  rw [hx] at F ⊢
  rw [e]
  refine acall_of_vc htb hmix (f:=21) rfl rfl rfl (by kernel_rfl) rfl rfl ?_; conv=>whnf
  repeat' (first|(refine Exists.intro _ (And.intro (F) ?_); conv=>whnf)|(refine And.intro (fun h=> ?_) (fun h=> ?_)<;>(first|skip)<;>(first|exact absurd h (by decide)|(conv=>whnf)))|((with_reducible refine xc_pure ?_); conv=>whnf))
  all_goals first|(exfalso; revert h; decide)|exact leTup2 (leAg ⟨LeC.refl _,LeC.refl _,LeC.refl _,LeC.refl _,LeC.refl _,LeC.refl _,LeC.refl _,LeC.refl _,LeC.refl _,LeC.nil rfl,LeC.nil rfl,LeC.refl _,LeC.refl _,LeC.refl _,LeC.refl _,LeC.refl _,LeC.nil rfl,trivial⟩) (Le.refl _)
theorem cat1E (l:List En){c i:Nat}(h:i<c+1):catF 0 c (rE l) (nthC [cEn (l.getD c en0)]) i=rE l i:=by
 unfold catF
 by_cases h1:i<c
 ·rw [if_pos h1,Nat.zero_add]
 ·obtain rfl:i=c:=by omega
  rw [if_neg h1,Nat.sub_self]
  rfl
theorem gCopyS (t:Bool)(s:St)(hsm:∀ e ∈ s.l,e.sm=true)(hl:s.l.length≤4294967296):GCall Tryz.prog gl 44 [] [.ag (cSv t s)] [.row 17 s.l.length (rE s.l)] [.agx [.c (.v (.int .u64 s.a)),.c (.v (.int .u64 s.s)),.own 0 17 0 s.l.length]]:=by
 refine gcall_of_vcb htb hmix (f:=44) rfl rfl rfl (by kernel_rfl) rfl rfl rfl fun hb hb2=> ?_; simp only [bndOs,bndO,gbnds,AV.gbnd,bnds,C.bnd,true_and,and_true] at hb hb2; conv=>whnf
 repeat' (fail)
 refine loopI Nat (fun c=>c≤s.l.length) (fun c=>[(11,intA .i64 c)]) (fun c=>[.box [.c (.v (.int .u64 s.a)),.c (.v (.int .u64 s.s)),.own 2 17 0 c],
  .box (boxC (tb 25).zero),.row 17 c (rE s.l)]) (fun c=>s.l.length-c) 0 (Nat.zero_le _) ?_ (fun _=>rfl) fun c hc=> ?_
 ·(refine And.intro ?_ (And.intro ?_ (And.intro ?_ rfl))<;>(conv=>whnf)<;>repeat' (first|exact trivial|exact LeE.of (Le.refl _)|exact LeE.nil rfl|(first|exact rfl|fail)|((with_reducible refine And.intro ?_ ?_)<;>conv=>whnf)))
 ·change c≤s.l.length at hc
  have hby:(c+1)*(tb 56).bytes≤140737488355328:=by show (c+1)*208≤_; omega
  by_cases hcl:c<s.l.length
  ·have hC:(0:Int)≤(c:Int)∧(c:Int)<(s.l.length:Int):=by omega
   have C:=aCopied (s.l.getD c en0) (hsm _ (mem_getD hcl))
   conv=>whnf
   repeat' (first|(refine Exists.intro _ (And.intro (chainI (C)) ?_); conv=>whnf)|(refine And.intro (fun h=> ?_) (fun h=> ?_)<;>(first|(with_reducible have hd:_<_:=of_decide_eq_true h)|(with_reducible have hd:¬ (_<_):=of_decide_eq_false h)|fail)<;>(first|omega|(conv=>whnf)))|((with_reducible refine DOr.l ?_); (conv=>whnf))|(refine And.intro ?_ ?_; (focus (first|(first|exact hC|exact hby|fail)|fail)); conv=>whnf)|fail)
   refine ⟨c+1,by omega,?_,by omega⟩
   (refine And.intro ?_ (And.intro ?_ (And.intro ?_ rfl))<;>(conv=>whnf)<;>repeat' (first|exact trivial|exact LeE.of (Le.refl _)|(with_reducible refine LeE.of ?_)|(first|exact rfl|exact leI (by first|rfl|(rw [wrap64 (by omega) (by omega)]; omega)|fail)|fail)|((with_reducible refine And.intro ?_ ?_)<;>conv=>whnf)))
   exact fun i hi=>LeCs.of_eq (cat1E s.l hi)
  ·obtain rfl:c=s.l.length:=by omega
   conv=>whnf
   repeat' (first|(refine And.intro (fun h=> ?_) (fun h=> ?_)<;>(first|(with_reducible have hd:_<_:=of_decide_eq_true h)|(with_reducible have hd:¬ (_<_):=of_decide_eq_false h)|fail)<;>(first|omega|(conv=>whnf)))|(refine And.intro ?_ ?_; (focus (first|exact rfl|fail)); conv=>whnf)|fail)
   ((conv=>whnf); repeat' (first|exact trivial|exact rfl|exact LeC.refl _|exact (fun i hi=>LeCs.refl _)|((with_reducible refine And.intro ?_ ?_)<;>conv=>whnf)))
def insE (i:Nat) (e:En) (l:List En):List En:=l.take i++e::l.drop i
theorem insE_len {i:Nat}{e:En}{l:List En}(h:i≤l.length):(insE i e l).length=l.length+1:=by
 unfold insE; simp; omega
theorem catEnd (l:List En)(e:En){i:Nat}(h:i<l.length+1):catF 0 l.length (rE l) (nthC [cEn e]) i=rE (insE l.length e l) i:=by
 unfold catF insE
 rw [List.take_length,List.drop_length]
 by_cases h1:i<l.length
 ·rw [if_pos h1,Nat.zero_add]
  show cEn _=cEn _
  congr 1
  simp [List.getD_eq_getElem?_getD,List.getElem?_append_left h1]
 ·obtain rfl:i=l.length:=by omega
  rw [if_neg h1,Nat.sub_self]
  show cEn _=cEn _
  congr 1
  simp [List.getD_eq_getElem?_getD]
theorem gInsEnd (l:List En)(e:En)(hl:l.length≤4294967296):GCall Tryz.prog gl 45 [.row 17 l.length (rE l)] [.own 0 17 0 l.length,intA .i64 l.length,.c (.sl false 17 1 (nthC [cEn e]))] [.row 17 (l.length+1) (rE (insE l.length e l))] [.own 0 17 0 (l.length+1)]:=by
 have hby:(l.length+1)*(tb 56).bytes≤140737488355328:=by show (l.length+1)*208≤_; omega
 have hC:(0:Int)≤(l.length:Int)∧(l.length:Int)≤(l.length:Int):=by omega
 refine gcall_of_vcb htb hmix (f:=45) rfl rfl rfl (by kernel_rfl) rfl rfl rfl fun hb hb2=> ?_; simp only [bndOs,bndO,gbnds,AV.gbnd,bnds,C.bnd,true_and,and_true] at hb hb2; conv=>whnf
 repeat' (first|(refine And.intro (fun h=> ?_) (fun h=> ?_)<;>(first|skip)<;>(first|exact absurd h (by decide)|(conv=>whnf)))|((with_reducible refine NilOr.l ?_); conv=>whnf)|(refine And.intro ?_ ?_; (focus (first|exact rfl|(first|exact hC|exact hby|fail)|fail)); conv=>whnf)|fail)
 ·((conv=>whnf); repeat' (first|exact trivial|exact rfl|((with_reducible refine And.intro ?_ ?_)<;>conv=>whnf)))
  exact fun i hi=>LeCs.of_eq (catEnd l e hi)
 ·exact absurd h (by simp)
def putE (e:En) (l:List En):List En:=if plB e.y l then l.set (idxE e.y l) e else insE (idxE e.y l) e l
theorem aPlaceO (s:St)(k:Ky):ACall Tryz.prog gl 42 [.ag [.v (.int .u64 s.a),.v (.int .u64 s.s),.sl true 17 s.l.length (fun i=>rE s.l (0+i))],.ag (cKy k)] [] (.tup [intA .i64 (idxE k s.l),boolA (plB k s.l)]):=by
 have P:=aPlaceE true s k
 simp only [Nat.zero_add]
 exact P
theorem aWithNew (s:St)(e:En)(hsm:∀ x ∈ s.l,x.sm=true)(he:e.sm=true)(hl:s.l.length≤4294967296)(hp:plB e.y s.l=false)
  (I:GCall Tryz.prog gl 45 [.row 17 s.l.length (rE s.l)] [.own 0 17 0 s.l.length,intA .i64 (idxE e.y s.l),.c (.sl false 17 1 (nthC [cEn e]))] [.row 17 (s.l.length+1) (rE (insE (idxE e.y s.l) e s.l))] [.own 0 17 0 (s.l.length+1)]) :
  ACall Tryz.prog gl 22 [.ag (cSt s),.ag (cEn e)] [] (.ag (cSt ⟨s.a,s.s,putE e s.l⟩)):=by
 have C:=gCopyS false s hsm hl
 have P:=aPlaceO s e.y
 rw [hp] at P
 have K:=aCopied e he
 have er:putE e s.l=insE (idxE e.y s.l) e s.l:=by unfold putE; rw [hp]; rfl
 rw [er]
 refine acall_of_vc htb hmix (f:=22) rfl rfl rfl (by kernel_rfl) rfl rfl ?_; conv=>whnf
 repeat' (first|(refine Exists.intro _ (And.intro (P) ?_); conv=>whnf)|(refine Exists.intro _ (And.intro (K) ?_); conv=>whnf)|(refine And.intro (fun h=> ?_) (fun h=> ?_)<;>(first|skip)<;>(first|exact absurd h (by decide)|(conv=>whnf)))|((with_reducible refine Both.mk ?_ ?_)<;>conv=>whnf)|((with_reducible refine DOr.r ?_); (conv=>whnf))|((with_reducible refine OwnOr.l ?_); (conv=>whnf))|((with_reducible apply Drawn.one); conv=>whnf)|((with_reducible refine Then.mk' ?_); conv=>whnf)|(first|exact RefS.self rfl|fail)|(refine And.intro ?_ ?_; (focus (first|(refine NoTag.of_scalar ?_; rfl))); conv=>whnf)|((with_reducible refine xc_guard ?_); (first|(refine xc_g (C) false (by first|(((conv=>whnf); repeat' (first|exact trivial|exact rfl|exact LeC.refl _|((with_reducible refine And.intro ?_ ?_)<;>conv=>whnf))); done)|fail) trivial ?_)|fail); conv=>whnf)|((with_reducible refine xc_guard ?_); (first|(refine xc_g (I) false (by first|(((conv=>whnf); repeat' (first|exact trivial|exact rfl|exact LeC.refl _|exact (fun i hi=>LeCs.refl _)|((with_reducible refine And.intro ?_ ?_)<;>conv=>whnf))); done)|fail) trivial ?_)|fail); conv=>whnf)|((with_reducible refine xc_pure ?_); conv=>whnf))
 all_goals first|(exfalso; revert h; decide)|exact leAg ⟨LeC.refl _,LeC.refl _,LeC.sl (insE_len (idxE_le _ _)).symm (fun i _=>by rw [Nat.zero_add]),trivial⟩
end Go.Proofs.YtiodgjgngfklkaaGreatDoor
