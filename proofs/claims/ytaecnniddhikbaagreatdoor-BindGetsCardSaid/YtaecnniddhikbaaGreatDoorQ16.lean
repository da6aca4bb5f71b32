/- Contracts of functions of the program,and the laws that stand on them: what each function answers,whatever its arguments. -/
import Derived.Test.YtaecnniddhikbaaGreatDoorQ14
import Derived.Test.YtaecnniddhikbaaGreatDoorP19
set_option linter.unusedSectionVars false
set_option linter.unnecessarySimpa false
set_option linter.unusedSimpArgs false
set_option linter.unusedVariables false
set_option maxRecDepth 100000
set_option maxHeartbeats 8000000
namespace Go.Proofs.YtaecnniddhikbaaGreatDoor
open Go Go.VA
abbrev InnC (p:Pl):Prop:=ACall Tryz.prog gl 34 [.ag (cPl false false false p)] [] (.c (.sl false 1 (inP p).length (rB (inP p))))
theorem ntPl (p:Pl):NtCs (cPl false false false p):=by
 refine ntCs_app2 (a:=sumC p.c) ?_ ⟨trivial,trivial,⟨rfl,fun i hi=> ?_⟩,⟨rfl,fun i hi=> ?_⟩,⟨rfl,fun i hi=> ?_⟩,trivial⟩
 ·repeat' (first|exact trivial|(refine And.intro ?_ ?_))
 ·exact ⟨trivial,ntV _⟩
 ·repeat' (first|exact trivial|(refine And.intro ?_ ?_))
 ·refine ⟨trivial,ntCs_app2 (a:=cKy _) ⟨trivial,trivial,trivial,trivial,trivial,trivial,trivial⟩ (ntCs_app2 (ntV _) (ntCs_app2 (ntV _) ⟨⟨rfl,fun i hi=>⟨trivial,trivial⟩⟩,trivial⟩))⟩
theorem aBindGets (t:Bool) (s:ByteArray) (D:∀ p,OkP p→RgPl p→InnC p):ACall Tryz.prog gl 4 [.c (.sl t 1 s.size (strCells s))] [] (boolA true):=by
 have AW:=aAwakeP
 have hp:true=true:=rfl
 by_cases hs:s.size≤4000
 ·have G1:ACall Tryz.prog gl 13 [.c (.sl true 1 s.size (fun i=>lentF s (0+i)))] [] (.tup [.ag (cPl false false false (rPl s).1),intA .i64 (rPl s).2]):=(aGetP true s (by omega)).le ⟨leSl rfl (fun i hi=>by unfold lentF; rw [if_pos (by omega),Nat.zero_add]),trivial⟩
  have U:=aUnwrap mgP t s (by omega)
  have K:=gKept t s (by omega)
  have L:=gLent t s (by omega)
  by_cases h0:(rPl s).2=0
  ·obtain ⟨hu,ho,r,o,hz,hA⟩:=pl_fwd (by omega) h0
   rw [h0] at G1
   rw [hu] at U
   generalize (rPl s).1=p at *
   have CR:=aRefCk false false false p (rg_hy r) (rg_hz r)
   rw [ho] at CR
   have F:=aFormPG p ho o r (D p o r)
   have S:=aSameX false t (fmP p).length s.size (rB (fmP p)) (strCells s) (fun i=>(fmP p).getD i 0) (fun i=>byteN s i) (fun _ _=>rfl) (fun _ _=>rfl)
   have e:sameF (fmP p).length s.size (fun i=>(fmP p).getD i 0) (fun i=>byteN s i)=true:=by
    unfold sameF
    rw [decide_eq_true_eq]
    refine ⟨hz.symm,fun i hi=> ?_⟩
    have:=hA.2 i (by first|exact hi|fail)
    rw [Nat.zero_add] at this
    exact this.symm
   rw [e] at S
   have ntG:NoTag (.tup [.ag (cPl false false false p),intA .i64 0]):=NoTag.tup ⟨NoTag.ag (ntPl p),NoTag.int,trivial⟩
   refine acall_of_vc htb hmix (f:=4) rfl rfl rfl (by kernel_rfl) rfl rfl ?_; conv=>whnf
   repeat' (first|(refine Exists.intro _ (And.intro (G1) ?_); conv=>whnf)|(refine Exists.intro _ (And.intro (U) ?_); conv=>whnf)|((with_reducible refine GOr.l ?_); (conv=>whnf); refine Exists.intro _ (And.intro (chainI (CR)) ?_); conv=>whnf)|((with_reducible refine GOr.l ?_); (conv=>whnf); refine Exists.intro _ (And.intro (chainI (F)) ?_); conv=>whnf)|((with_reducible refine GOr.l ?_); (conv=>whnf); refine Exists.intro _ (And.intro (chainI (S)) ?_); conv=>whnf)|((with_reducible refine GOr.l ?_); (conv=>whnf); refine Exists.intro _ (And.intro (chainI (AW)) ?_); conv=>whnf)|(refine And.intro (fun h=> ?_) (fun h=> ?_)<;>(first|(with_reducible have hd:_<_:=of_decide_eq_true h)|(with_reducible have hd:¬ (_<_):=of_decide_eq_false h)|skip)<;>(first|exact absurd h (by decide)|(first|omega)|(conv=>whnf)))|((with_reducible refine FzOr.l ?_); conv=>whnf)|(refine And.intro ?_ ?_; (focus (first|(first|exact ntG|fail)|fail)); conv=>whnf)|((with_reducible refine xc_guard ?_); (first|(refine xc_g (L) false (by first|(((conv=>whnf); repeat' (first|exact trivial|exact rfl|exact LeC.refl _|((with_reducible refine And.intro ?_ ?_)<;>conv=>whnf))); done)|fail) trivial ?_)|fail); conv=>whnf)|((with_reducible refine xc_guard ?_); (first|(refine xc_g (K) false (by first|(((conv=>whnf); repeat' (first|exact trivial|exact rfl|exact LeC.refl _|exact (fun i hi=>LeCs.refl _)|((with_reducible refine And.intro ?_ ?_)<;>conv=>whnf))); done)|fail) trivial ?_)|fail); conv=>whnf)|((with_reducible refine xc_pure ?_); conv=>whnf))
   exact leB rfl
  ·have hR1:(rPl s).1=plz:=by
    by_cases hu:(unE mgP s != 0)=true
    ·rw [rPl_e hu]
    ·have hu:unE mgP s=0:=by simpa using hu
     rw [rPl_0 hu] at h0 ⊢
     split
     ·rfl
     ·rename_i hc
      rw [if_neg hc] at h0
      exact absurd rfl h0
   have hR2:(unE mgP s != 0&&(rPl s).2==unE mgP s||unE mgP s==0&&(rPl s).2==4)=true:=by
    by_cases hu:(unE mgP s != 0)=true
    ·rw [rPl_e hu,hu]
     simp
    ·have hu:unE mgP s=0:=by simpa using hu
     have e:(rPl s).2=4:=by
      rw [rPl_0 hu] at h0 ⊢
      split
      ·rfl
      ·rename_i hc
       rw [if_neg hc] at h0
       exact absurd rfl h0
     rw [hu,e]
     rfl
   have hne:((rPl s).2 != 0)=true:=by simpa using h0
   rw [hR1] at G1
   generalize (rPl s).2=e at *
   generalize unE mgP s=f at *
   have RS:=aRefSameZ
   have ntG:NoTag (.tup [.ag (cPl false false false plz),intA .i64 e]):=NoTag.tup ⟨NoTag.ag (ntPl plz),NoTag.int,trivial⟩
   have hp:=hne
   refine acall_of_vc htb hmix (f:=4) rfl rfl rfl (by kernel_rfl) rfl rfl ?_; conv=>whnf
   repeat' (first|(refine Exists.intro _ (And.intro (G1) ?_); conv=>whnf)|(refine Exists.intro _ (And.intro (U) ?_); conv=>whnf)|(refine Exists.intro _ (And.intro (RS) ?_); conv=>whnf)|((with_reducible refine GOr.l ?_); (conv=>whnf); refine Exists.intro _ (And.intro (chainI (AW)) ?_); conv=>whnf)|(refine And.intro (fun h=> ?_) (fun h=> ?_)<;>(first|(with_reducible have hd:_<_:=of_decide_eq_true h)|(with_reducible have hd:¬ (_<_):=of_decide_eq_false h)|skip)<;>(first|exact absurd h (by decide)|(first|exact Bool.noConfusion (hp.symm.trans h)|omega)|(conv=>whnf)))|((with_reducible refine FzOr.l ?_); conv=>whnf)|(refine And.intro ?_ ?_; (focus (first|(first|exact ntG|fail)|fail)); conv=>whnf)|((with_reducible refine xc_guard ?_); (first|(refine xc_g (L) false (by first|(((conv=>whnf); repeat' (first|exact trivial|exact rfl|exact LeC.refl _|((with_reducible refine And.intro ?_ ?_)<;>conv=>whnf))); done)|fail) trivial ?_)|fail); conv=>whnf)|((with_reducible refine xc_guard ?_); (first|(refine xc_g (K) false (by first|(((conv=>whnf); repeat' (first|exact trivial|exact rfl|exact LeC.refl _|exact (fun i hi=>LeCs.refl _)|((with_reducible refine And.intro ?_ ?_)<;>conv=>whnf))); done)|fail) trivial ?_)|fail); conv=>whnf)|((with_reducible refine xc_pure ?_); conv=>whnf))
   refine leB ?_
   rw [Bool.true_and,Bool.and_true]
   exact hR2
 ·refine acall_of_vc htb hmix (f:=4) rfl rfl rfl (by kernel_rfl) rfl rfl ?_; conv=>whnf
  repeat' (first|(refine Exists.intro _ (And.intro (AW) ?_); conv=>whnf)|(refine And.intro (fun h=> ?_) (fun h=> ?_)<;>(first|(with_reducible have hd:_<_:=of_decide_eq_true h)|(with_reducible have hd:¬ (_<_):=of_decide_eq_false h)|fail)<;>(first|(first|omega)|(conv=>whnf)))|((with_reducible refine xc_pure ?_); conv=>whnf))
  ·exact leB rfl
end Go.Proofs.YtaecnniddhikbaaGreatDoor
