/- What functions of the program answer,whatever their arguments. -/
import Derived.Test.YtaecnniddhikbaaGreatDoorQ14
import Derived.Test.YtaecnniddhikbaaGreatDoorP19
set_option linter.unusedSectionVars false
set_option linter.unnecessarySimpa false
set_option linter.unusedSimpArgs false
set_option linter.unusedVariables false
set_option maxRecDepth 100000
set_option maxHeartbeats 8000000
namespace Go.Proofs.YtaecnniddhikbaaGreatDoor
open Go Go.VA
abbrev InnC (p:Pl):Prop:=ACall Tryz.prog gl 34 [.ag (cPl false false false p)] [] (.c (.sl false 1 (inP p).length (rB (inP p))))
theorem aBindPuts (p:Pl)(r:RgPl p)(D:OkP p→InnC p):ACall Tryz.prog gl 3 [.ag (cPl false false false p)] [] (boolA true):=by
 have G:=aGreatP false false false p
 have A:=aAwakeP
 cases hg:greatP p
 ·rw [hg] at G
  have C:=aCheckP false false false p
  have CR:=aRefCk false false false p (rg_hy r) (rg_hz r)
  cases ho:okPl p
  ·rw [ho] at C CR
   have P:=aPlPutNo p ho
   have F:=aFormPNo p ho r
   have S:ACall Tryz.prog gl 10 [.c (.v (.slice none 0 0)),.c (.v (.slice none 0 0))] [] (boolA true):=by
    have h:=aSameX false false 0 0 (fun _=>[]) (fun _=>[]) (fun _=>0) (fun _=>0) (fun i hi=>absurd hi (Nat.not_lt_zero _)) (fun i hi=>absurd hi (Nat.not_lt_zero _))
    have e:sameF 0 0 (fun _=>0) (fun _=>0)=true:=by unfold sameF; simp
    rw [e] at h
    refine h.leA fun B S us hu=> ?_
    simp only [RelVs] at hu ⊢
    obtain ⟨u,r,e1,h1,u2,r2,e2,h2,e3⟩:=hu
    refine ⟨u,r,e1,?_,u2,r2,e2,?_,e3⟩
    ·simp only [RelV,RepC] at h1 ⊢
     exact ⟨none,0,h1.1,⟨Nat.le_refl _,by decide⟩,.inl trivial⟩
    ·simp only [RelV,RepC] at h2 ⊢
     exact ⟨none,0,h2.1,⟨Nat.le_refl _,by decide⟩,.inl trivial⟩
   have hp:true=true:=rfl
   refine acall_of_vc htb hmix (f:=3) rfl rfl rfl (by kernel_rfl) rfl rfl ?_; conv=>whnf
   repeat' (first|(refine Exists.intro _ (And.intro (G) ?_); conv=>whnf)|(refine Exists.intro _ (And.intro (C) ?_); conv=>whnf)|((with_reducible refine GOr.l ?_); (conv=>whnf); refine Exists.intro _ (And.intro (chainI (CR)) ?_); conv=>whnf)|(refine Exists.intro _ (And.intro (P) ?_); conv=>whnf)|(refine Exists.intro _ (And.intro (F) ?_); conv=>whnf)|(refine Exists.intro _ (And.intro (S) ?_); conv=>whnf)|(refine Exists.intro _ (And.intro (A) ?_); conv=>whnf)|(refine And.intro (fun h=> ?_) (fun h=> ?_)<;>(first|skip)<;>(first|exact absurd h (by decide)|(conv=>whnf)))|((with_reducible refine FzOr.l ?_); conv=>whnf)|((with_reducible refine xc_pure ?_); conv=>whnf))
   exact Le.refl _
  ·rw [ho] at C CR
   have o:=okP_of ho (great_h hg)
   have P:=aPlPut p ho o r
   have F:=aFormPG p ho o r (D o)
   have S:=aSameX false false (fmP p).length (fmP p).length (rB (fmP p)) (rB (fmP p)) (fun i=>(fmP p).getD i 0) (fun i=>(fmP p).getD i 0) (fun _ _=>rfl) (fun _ _=>rfl)
   have e:sameF (fmP p).length (fmP p).length (fun i=>(fmP p).getD i 0) (fun i=>(fmP p).getD i 0)=true:=by unfold sameF; simp
   rw [e] at S
   have GT:=aGetF false ho o r
   have RS:=aRefSame p p
   rw [sameP_refl] at RS
   have hp:true=true:=rfl
   refine acall_of_vc htb hmix (f:=3) rfl rfl rfl (by kernel_rfl) rfl rfl ?_; conv=>whnf
   repeat' (first|(refine Exists.intro _ (And.intro (G) ?_); conv=>whnf)|(refine Exists.intro _ (And.intro (C) ?_); conv=>whnf)|((with_reducible refine GOr.l ?_); (conv=>whnf); refine Exists.intro _ (And.intro (chainI (CR)) ?_); conv=>whnf)|(refine Exists.intro _ (And.intro (P) ?_); conv=>whnf)|(refine Exists.intro _ (And.intro (F) ?_); conv=>whnf)|(refine Exists.intro _ (And.intro (S) ?_); conv=>whnf)|(refine Exists.intro _ (And.intro (GT) ?_); conv=>whnf)|((with_reducible refine GOr.l ?_); (conv=>whnf); refine Exists.intro _ (And.intro (chainI (RS)) ?_); conv=>whnf)|((with_reducible refine GOr.l ?_); (conv=>whnf); refine Exists.intro _ (And.intro (chainI (A)) ?_); conv=>whnf)|(refine And.intro (fun h=> ?_) (fun h=> ?_)<;>(first|skip)<;>(first|exact absurd h (by decide)|(conv=>whnf)))|((with_reducible refine FzOr.l ?_); conv=>whnf)|((with_reducible refine xc_pure ?_); conv=>whnf))
   exact leB rfl
 ·rw [hg] at G
  have hp:true=true:=rfl
  refine acall_of_vc htb hmix (f:=3) rfl rfl rfl (by kernel_rfl) rfl rfl ?_; conv=>whnf
  repeat' (first|(refine Exists.intro _ (And.intro (G) ?_); conv=>whnf)|(refine Exists.intro _ (And.intro (A) ?_); conv=>whnf)|(refine And.intro (fun h=> ?_) (fun h=> ?_)<;>(first|skip)<;>(first|exact absurd h (by decide)|(conv=>whnf)))|((with_reducible refine FzOr.l ?_); conv=>whnf)|((with_reducible refine xc_pure ?_); conv=>whnf))
  exact Le.refl _
end Go.Proofs.YtaecnniddhikbaaGreatDoor
