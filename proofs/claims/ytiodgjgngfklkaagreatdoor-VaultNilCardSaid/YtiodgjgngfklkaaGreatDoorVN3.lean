/- Contracts of functions of the program,and the laws that stand on them: what each function answers,whatever its arguments. -/
import Derived.Test.YtiodgjgngfklkaaGreatDoorVN1
import Derived.Test.YtiodgjgngfklkaaGreatDoorU2
set_option linter.all false
set_option maxRecDepth 100000
set_option maxHeartbeats 8000000
namespace Go.Proofs.YtiodgjgngfklkaaGreatDoor
open Go Go.VA
theorem iB_size (i:It)(ho:okIt i=true):(iB i).size≤400:=by
 unfold iB
 rw [baL_size,fmI_len]
 have:=inL_len ho
 omega
theorem gOpenV (l:List Ft)(o:Int)(s:St)(i:It)(ho:okIt i=true)(r:RgIt i){z:ByteArray}(hl:lkF intN l=some (iB i,z))(hn:i.n=s.s):GCall Tryz.prog gl 20 [vD l o,vM l,vB] [.ptr 2 0,.ag (cSt s)] [vD l o,vM l,vB] [.ag (cIt i),boolA true]:=by
 have G1:=vRead l o intN hl
 have A:=aOpen false (iB i) s.s (by have:=iB_size i ho; omega)
 have h1:=open1 i ho r
 have e2:lastI (iB i)=i:=by unfold lastI; rw [h1]; rfl
 have e1:openB (iB i) s.s=true:=by unfold openB; rw [e2,h1,hn]; simp
 rw [e1,if_pos rfl,e2] at A
 refine gcall_of_vcb htb hmix (f:=20) rfl rfl rfl (by kernel_rfl) rfl rfl rfl fun hb hb2=> ?_; simp only [bndOs,bndO,gbnds,AV.gbnd,bnds,C.bnd,true_and,and_true] at hb hb2; conv=>whnf
 repeat' (first|(refine Exists.intro _ (And.intro (A) ?_); conv=>whnf)|(refine And.intro (fun h=> ?_) (fun h=> ?_)<;>(first|skip)<;>(first|exact absurd h (by decide)|(conv=>whnf)))|(refine And.intro ?_ ?_; (focus (first|exact rfl|fail)); conv=>whnf)|((with_reducible refine xc_guard ?_); (first|(refine xc_g (G1) false (by first|(((conv=>whnf); repeat' (first|exact trivial|exact rfl|exact LeC.refl _|(first|exact LeMs.refl _|fail)|((with_reducible refine And.intro ?_ ?_)<;>conv=>whnf))); done)|fail) trivial ?_)|fail); conv=>whnf)|((with_reducible refine xc_guard ?_); refine xc_in (f:=17) htb hmix rfl rfl rfl (by kernel_rfl) rfl ?_; intro vs; conv=>whnf)|((with_reducible refine xc_pure ?_); conv=>whnf))
 all_goals try (exfalso; revert h; decide)
 ((conv=>whnf); repeat' (first|exact trivial|exact rfl|exact LeC.refl _|((with_reducible refine And.intro ?_ ?_)<;>conv=>whnf)))
 all_goals exact LeMs.refl _
theorem gSaveV (l:List Ft)(o:Int)(was s:St)(ho1:okSt was=true)(r1:RgSt was)(hz1:(stF was).size≤262144){z:ByteArray}(hl:lkF stN l=some (stF was,z))
  (ho:okSt s=true) (r:RgSt s) (hz:(stF s).size≤262144) (hc:(s.a != was.a||s.s != IntKind.u64.wrap (was.s+1))=false) :
  GCall Tryz.prog gl 11 [vD l o,vM l,vB] [.ptr 2 0,.ag (cSt s)] [vD l (wr (wr (wr o))),vM (lyF l (stF s)),vB] [intA .i64 0]:=by
 have G1:=gLoadV l o was ho1 r1 hz1 hl
 have K:=aCheckS s
 rw [if_pos ho] at K
 have G2:=gLayS l o s ho r hz
 have hce:=hc
 refine gcall_of_vcb htb hmix (f:=11) rfl rfl rfl (by kernel_rfl) rfl rfl rfl fun hb hb2=> ?_; simp only [bndOs,bndO,gbnds,AV.gbnd,bnds,C.bnd,true_and,and_true] at hb hb2; conv=>whnf
 repeat' (first|(refine Exists.intro _ (And.intro (K) ?_); conv=>whnf)|(refine And.intro (fun h=> ?_) (fun h=> ?_)<;>(first|skip)<;>(first|exact absurd h (by decide)|(first|exact Bool.noConfusion (hc.symm.trans h)|fail)|(conv=>whnf)))|(refine And.intro ?_ ?_; (focus (first|exact rfl|fail)); conv=>whnf)|((with_reducible refine xc_guard ?_); (first|(refine xc_g (G1) false (by first|(((conv=>whnf); repeat' (first|exact trivial|exact rfl|exact LeC.refl _|(first|exact LeMs.refl _|fail)|((with_reducible refine And.intro ?_ ?_)<;>conv=>whnf))); done)|fail) trivial ?_)|fail); conv=>whnf)|((with_reducible refine xc_guard ?_); (first|(refine xc_g (G2) false (by first|(((conv=>whnf); repeat' (first|exact trivial|exact rfl|exact LeC.refl _|(first|exact LeMs.refl _|fail)|((with_reducible refine And.intro ?_ ?_)<;>conv=>whnf))); done)|fail) trivial ?_)|fail); conv=>whnf)|((with_reducible refine xc_pure ?_); conv=>whnf))
 all_goals try (exfalso; revert h; decide)
 ((conv=>whnf); repeat' (first|exact trivial|exact rfl|exact LeC.refl _|((with_reducible refine And.intro ?_ ?_)<;>conv=>whnf)))
 all_goals exact LeMs.refl _
def xE (i:It) (l:List En):En:=⟨i.y,(fndE i.y l).v,true,true,(fndE i.y l).d⟩
def nxS (s:St) (i:It):St:=⟨s.a,IntKind.u64.wrap (s.s+1),putE (xE i s.l) s.l⟩
theorem gRecV (l:List Ft)(o:Int)(s:St)(i:It)(ho1:okSt s=true)(r1:RgSt s)(hz1:(stF s).size≤262144){z:ByteArray}(hl:lkF stN l=some (stF s,z))(hoi:okIt i=true)(ri:RgIt i)
  {z':ByteArray} (hi:lkF intN l=some (iB i,z')) (hn:i.n=s.s) (hc:(s.s==4611686018427387904)=false) (hsm:∀ e ∈ s.l,e.sm=true)
  (W:ACall Tryz.prog gl 22 [.ag (cSt s),.ag (cEn (xE i s.l))] [] (.ag (cSt ⟨s.a,s.s,putE (xE i s.l) s.l⟩)))
  (ho:okSt (nxS s i)=true) (r:RgSt (nxS s i)) (hz:(stF (nxS s i)).size≤262144) :
  GCall Tryz.prog gl 9 [vD l o,vM l,vB] [.ptr 2 0] [vD l (wr (wr (wr o))),vM (lyF l (stF (nxS s i))),vB] [.ag (cSt (nxS s i)),boolA true,intA .i64 0]:=by
 have G1:=gLoadV l o s ho1 r1 hz1 hl
 have G2:=gOpenV l o s i hoi ri hi hn
 have F:=aFindE s i.y hsm
 have G3:=gSaveV l o s (nxS s i) ho1 r1 hz1 hl ho r hz (by show (s.a != s.a||IntKind.u64.wrap (s.s+1) != IntKind.u64.wrap (s.s+1))=false; simp)
 have hce:=hc
 refine gcall_of_vcb htb hmix (f:=9) rfl rfl rfl (by kernel_rfl) rfl rfl rfl fun hb hb2=> ?_; simp only [bndOs,bndO,gbnds,AV.gbnd,bnds,C.bnd,true_and,and_true] at hb hb2; conv=>whnf
 repeat' (first|(refine Exists.intro _ (And.intro (F) ?_); conv=>whnf)|(refine Exists.intro _ (And.intro (W) ?_); conv=>whnf)|(refine And.intro (fun h=> ?_) (fun h=> ?_)<;>(first|skip)<;>(first|exact absurd h (by decide)|(first|exact Bool.noConfusion (hc.symm.trans h)|fail)|(conv=>whnf)))|(refine And.intro ?_ ?_; (focus (first|exact rfl|fail)); conv=>whnf)|((with_reducible refine xc_guard ?_); (first|(refine xc_g (G1) false (by first|(((conv=>whnf); repeat' (first|exact trivial|exact rfl|exact LeC.refl _|(first|exact LeMs.refl _|fail)|((with_reducible refine And.intro ?_ ?_)<;>conv=>whnf))); done)|fail) trivial ?_)|fail); conv=>whnf)|((with_reducible refine xc_guard ?_); (first|(refine xc_g (G2) false (by first|(((conv=>whnf); repeat' (first|exact trivial|exact rfl|exact LeC.refl _|(first|exact LeMs.refl _|fail)|((with_reducible refine And.intro ?_ ?_)<;>conv=>whnf))); done)|fail) trivial ?_)|fail); conv=>whnf)|((with_reducible refine xc_guard ?_); (first|(refine xc_g (G3) false (by first|(((conv=>whnf); repeat' (first|exact trivial|exact rfl|exact LeC.refl _|(first|exact LeMs.refl _|fail)|((with_reducible refine And.intro ?_ ?_)<;>conv=>whnf))); done)|fail) trivial ?_)|fail); conv=>whnf)|((with_reducible refine xc_pure ?_); conv=>whnf))
 all_goals try (exfalso; revert h; decide)
 ((conv=>whnf); repeat' (first|exact trivial|exact rfl|exact LeC.refl _|((with_reducible refine And.intro ?_ ?_)<;>conv=>whnf)))
 all_goals exact LeMs.refl _
def y1:Ky:=⟨⟨.mk #[110,111,116,101],.mk #[97],0,0,ByteArray.empty⟩,1⟩
def i1:It:=⟨1,3,y1⟩
def s1:St:=⟨7,1,[]⟩
def x1:En:=⟨y1,V.z,true,true,[]⟩
def s2:St:=⟨7,2,[x1]⟩
theorem s1_ok:okSt s1=true:=by decide +kernel
theorem s2_ok:okSt s2=true:=by decide +kernel
theorem i1_ok:okIt i1=true:=by decide +kernel
theorem i1_rg:RgIt i1:=⟨by decide,by decide,by decide⟩
theorem s1_rg:RgSt s1:=⟨by decide,by decide,by decide,by decide,fun e he=>absurd he List.not_mem_nil⟩
theorem s2_rg:RgSt s2:=⟨by decide,by decide,by decide,by decide,fun e he=>by
 have:e=x1:=by simpa [s2] using he
 subst this
 exact ⟨by decide,by decide,by decide +kernel⟩⟩
theorem s1_len:(inS s1).length≤1000:=by decide +kernel
theorem s2_len:(inS s2).length≤1000:=by decide +kernel
theorem s1_sz:(stF s1).size≤262144:=by unfold stF; rw [baL_size,fmS_len]; have:=s1_len; omega
theorem s2_sz:(stF s2).size≤262144:=by unfold stF; rw [baL_size,fmS_len]; have:=s2_len; omega
theorem nx1:nxS s1 i1=s2:=rfl
theorem aW1:ACall Tryz.prog gl 22 [.ag (cSt s1),.ag (cEn (xE i1 s1.l))] [] (.ag (cSt ⟨s1.a,s1.s,putE (xE i1 s1.l) s1.l⟩)) :=
 aWithNew s1 _ (fun x hx=>absurd hx List.not_mem_nil) (by decide +kernel) (by decide) rfl (gInsEnd [] _ (by decide))
def l1:List Ft:=[(stN,stF s1,stF s1)]
def l2:List Ft:=[(stN,stF s1,stF s1),(intN,iB i1,iB i1)]
theorem ly1 (F:ByteArray):lyF [] F=[(stN,F,F)]:=rfl
theorem nt1_ (F I:ByteArray):ntL [(stN,F,F)] I=[(stN,F,F),(intN,I,I)]:=rfl
theorem l2_ok (o:Int):(⟨l2,0,false,o⟩:Dk).Ok 2 where
 nodup:=by show [stN,intN].Nodup; decide
 word:=fun e he=>by
  simp only [l2,List.mem_cons,List.not_mem_nil,or_false] at he
  rcases he with rfl|rfl
  ·decide
  ·decide
 size:=fun e he=>by
  simp only [l2,List.mem_cons,List.not_mem_nil,or_false] at he
  have:=iB_size i1 i1_ok
  rcases he with rfl|rfl
  ·exact ⟨s1_sz,s1_sz⟩
  ·exact ⟨by show (iB i1).size≤_; omega,by show (iB i1).size≤_; omega⟩
 len:=Nat.le_refl 2
 fz:=⟨Int.le_refl _,by show (0:Int)≤_; decide⟩
theorem torB_same (k:Int)(x:ByteArray):torB k x x=x:=if_pos rfl
theorem l2_bot (k:Int)(o:Int):(⟨l2,0,false,o⟩:Dk).bot k=⟨l2,0,false,o⟩:=by
 unfold Dk.bot l2
 simp only [List.map,torB_same]
theorem vBoot (o k:Int):GCall Tryz.prog gl 16 [vD l2 o,vM l2] [.ptr 0 0,intA .i64 k] [vD l2 o,vM l2] []:=by
 have h:=tBoot ⟨l2,0,false,o⟩ 2 (l2_ok o) (by decide) k
 rw [l2_bot] at h
 exact upG h
theorem aAwakeV:ACall Tryz.prog gl 5 [] [] (boolA true):=by
 have N:=upG gNewD
 have B:=gBeginV [] 0 7 rfl s1_ok s1_rg s1_sz
 have T:=gNoteV l1 (wr (wr (wr 0))) i1 i1_ok i1_rg (by have:=iB_size i1 i1_ok; omega)
 have O:=vBoot (wr (wr (wr (wr (wr 0))))) 0
 have R:=gRecV l2 (wr (wr (wr (wr (wr 0))))) s1 i1 s1_ok s1_rg s1_sz (z:=stF s1) rfl i1_ok i1_rg (z':=iB i1) rfl rfl rfl (fun e he=>absurd he List.not_mem_nil) aW1 s2_ok s2_rg s2_sz
 rw [ly1,show (⟨7,1,[]⟩:St)=s1 from rfl] at B
 unfold l1 at T
 rw [nt1_] at T
 rw [nx1] at R
 generalize lyF l2 (stF s2)=l3 at R
 unfold l2 at R O
 generalize stF s1=F1 at *
 generalize iB i1=I1 at *
 refine acall_of_vc htb hmix (f:=5) rfl rfl rfl (by kernel_rfl) rfl rfl ?_; conv=>whnf
 repeat' (first|(refine And.intro ?_ ?_; (focus (first|exact rfl|(refine chainI ?_; (first|decide|fail))|fail)); conv=>whnf)|((with_reducible refine xc_guard ?_); (first|(refine xc_g (N) false (by first|(((conv=>whnf); repeat' (first|exact trivial|exact rfl|((with_reducible refine And.intro ?_ ?_)<;>conv=>whnf))); done)|fail) trivial ?_)|fail); conv=>whnf)|((with_reducible refine xc_guard ?_); (first|(refine xc_g (B) false (by first|(((conv=>whnf); repeat' (first|exact trivial|exact rfl|exact LeC.refl _|((with_reducible refine And.intro ?_ ?_)<;>conv=>whnf))); done)|fail) trivial ?_)|fail); conv=>whnf)|((with_reducible refine xc_guard ?_); (first|(refine xc_g (T) false (by first|(((conv=>whnf); repeat' (first|exact trivial|exact rfl|exact LeC.refl _|(first|exact Le.refl _)|((with_reducible refine And.intro ?_ ?_)<;>conv=>whnf))); done)|fail) trivial ?_)|fail); conv=>whnf)|((with_reducible refine xc_guard ?_); (first|(refine xc_g (O) false (by first|(((conv=>whnf); repeat' (first|exact trivial|exact rfl|exact LeC.refl _|(first|exact Le.refl _)|((with_reducible refine And.intro ?_ ?_)<;>conv=>whnf))); done)|fail) trivial ?_)|fail); conv=>whnf)|((with_reducible refine xc_guard ?_); (first|(refine xc_g (R) false (by first|(((conv=>whnf); repeat' (first|exact trivial|exact rfl|exact LeC.refl _|(first|exact Le.refl _)|((with_reducible refine And.intro ?_ ?_)<;>conv=>whnf))); done)|fail) trivial ?_)|fail); conv=>whnf)|((with_reducible refine xc_guard ?_); refine xc_in (f:=15) htb hmix rfl rfl rfl (by kernel_rfl) rfl ?_; intro vs; conv=>whnf)|((with_reducible refine xc_guard ?_); refine xc_in (f:=6) htb hmix rfl rfl rfl (by kernel_rfl) rfl ?_; intro vs; conv=>whnf)|fail)
 exact Go.VA.leB (by decide +kernel)
theorem aVaultNil (a:Int)(s:St)(i:It)(h0:0≤a)(h1:a<18446744073709551616)(rs:RgSt s)(ri:RgIt i):ACall Tryz.prog gl 3 [intA .u64 a,.ag (cSt s),.ag (cIt i)] [] (boolA true):=by
 have GR:=aGreatS s
 have AW:=aAwakeV
 cases hg:greatS s with
 | true =>
  rw [hg] at GR
  refine acall_of_vc htb hmix (f:=3) rfl rfl rfl (by kernel_rfl) rfl rfl ?_; conv=>whnf
  repeat' (first|(refine Exists.intro _ (And.intro (GR) ?_); conv=>whnf)|(refine Exists.intro _ (And.intro (AW) ?_); conv=>whnf)|(refine And.intro (fun h=> ?_) (fun h=> ?_)<;>(first|skip)<;>(first|exact absurd h (by decide)|(conv=>whnf)))|((with_reducible refine xc_pure ?_); conv=>whnf))
  all_goals first|exact Go.VA.leB rfl|(exfalso; revert h; decide)
 | false =>
  rw [hg] at GR
  have B1:=aBeginN a h0 h1
  have B2:=aBeginW a h0 h1
  have S0:∃ e,((e != 0)=true)∧ACall Tryz.prog gl 11 [nW,.ag (cSt s)] [] (intA .i64 e):=⟨_,by cases okSt s<;>decide,aSaveW s rs⟩
  have N0:∃ e,((e != 0)=true)∧ACall Tryz.prog gl 12 [nW,.ag (cIt i)] [] (intA .i64 e):=⟨_,by cases okIt i<;>decide,aNoteW i ri⟩
  obtain ⟨e1,k1,S⟩:=S0
  obtain ⟨e2,k2,T⟩:=N0
  refine acall_of_vc htb hmix (f:=3) rfl rfl rfl (by kernel_rfl) rfl rfl ?_; conv=>whnf
  repeat' (first|(refine Exists.intro _ (And.intro (GR) ?_); conv=>whnf)|((with_reducible refine GOr.l ?_); (conv=>whnf); refine Exists.intro _ (And.intro (chainI (AW)) ?_); conv=>whnf)|(refine Exists.intro _ (And.intro (aLoadN) ?_); conv=>whnf)|(refine Exists.intro _ (And.intro (aLoadW) ?_); conv=>whnf)|(refine Exists.intro _ (And.intro (aPendW) ?_); conv=>whnf)|(refine Exists.intro _ (And.intro (aRecW) ?_); conv=>whnf)|(refine Exists.intro _ (And.intro (B1) ?_); conv=>whnf)|((with_reducible refine GOr.l ?_); (conv=>whnf); refine Exists.intro _ (And.intro (chainI (B2)) ?_); conv=>whnf)|((with_reducible refine GOr.l ?_); (conv=>whnf); refine Exists.intro _ (And.intro (chainI (S)) ?_); conv=>whnf)|((with_reducible refine GOr.l ?_); (conv=>whnf); refine Exists.intro _ (And.intro (chainI (T)) ?_); conv=>whnf)|(refine And.intro (fun h=> ?_) (fun h=> ?_)<;>(first|skip)<;>(first|exact absurd h (by decide)|(conv=>whnf)))|(refine And.intro ?_ ?_; (focus (first|exact rfl|fail)); conv=>whnf)|(refine And.intro ?_ ?_; (focus (first|exact NoTag.int|(refine NoTag.of_scalar ?_; rfl))); conv=>whnf)|((with_reducible refine xc_guard ?_); refine xc_in (f:=6) htb hmix rfl rfl rfl (by kernel_rfl) rfl ?_; intro vs; conv=>whnf)|((with_reducible refine xc_pure ?_); conv=>whnf)|(rw [k1]; conv=>whnf)|(rw [k2]; conv=>whnf))
  all_goals first|exact Go.VA.leB rfl|(exfalso; revert h; decide)|trace_state
end Go.Proofs.YtiodgjgngfklkaaGreatDoor
