/- What functions of the program answer,whatever their arguments. -/
import Derived.Test.YtaecnniddhikbaaGreatDoorP5
set_option linter.unusedSectionVars false
set_option linter.unnecessarySimpa false
set_option linter.unusedSimpArgs false
set_option linter.unusedVariables false
set_option maxRecDepth 100000
set_option maxHeartbeats 8000000
namespace Go.Proofs.YtaecnniddhikbaaGreatDoor
open Go Go.VA
theorem gKyR (k:Ky)(ho:okKy k=true):GCall Tryz.prog gl 72 [] [.ag (cKy k)] [.row 1 (kyL k).length (rB (kyL k))] [.own 0 1 0 (kyL k).length]:=by
 obtain ⟨⟨z1,z2,z3,z4,z5,z6,z7⟩,z8⟩:=okKy_le ho
 have a:=strL_len k.a.t
 have b:=strL_len k.a.n
 have c:=strL_len k.a.s
 have d:=shortL_len (IntKind.u64.wrap k.a.i).toNat
 have e:=shortL_len (IntKind.u64.wrap k.n).toNat
 have P1:=gStrR k.a.t (by omega)
 have D2:=aStrD k.a.n (by omega)
 have D3:=aStrD k.a.s (by omega)
 have S1:=aShortD (IntKind.u64.wrap k.a.i) (u64nn _) (Int.emod_lt_of_pos _ (by decide))
 have S2:=aShortD (IntKind.u64.wrap k.n) (u64nn _) (Int.emod_lt_of_pos _ (by decide))
 have BB:∀ m:Nat,m≤1000→m*(tb 5).bytes≤140737488355328:=fun m h=>by show m*1≤_; omega
 have B1:=BB ((strL k.a.t).length+(strL k.a.n).length) (by omega)
 have B2:=BB ((strL k.a.t).length+(strL k.a.n).length+1) (by omega)
 have B3:=BB ((strL k.a.t).length+(strL k.a.n).length+1+(shortL (IntKind.u64.wrap k.a.i).toNat).length) (by omega)
 have B4:=BB ((strL k.a.t).length+(strL k.a.n).length+1+(strL k.a.s).length) (by omega)
 have B5:=BB ((strL k.a.t).length+(strL k.a.n).length+1+(shortL (IntKind.u64.wrap k.a.i).toNat).length+(shortL (IntKind.u64.wrap k.n).toNat).length) (by omega)
 have B6:=BB ((strL k.a.t).length+(strL k.a.n).length+1+(strL k.a.s).length+(shortL (IntKind.u64.wrap k.n).toNat).length) (by omega)
 have B7:=BB ((strL k.a.t).length+(strL k.a.n).length+1+(shortL (IntKind.u64.wrap k.n).toNat).length) (by omega)
 refine gcall_of_vcb htb hmix (f:=72) rfl rfl rfl (by kernel_rfl) rfl rfl rfl fun hb hb2=> ?_; simp only [bndOs,bndO,gbnds,AV.gbnd,bnds,C.bnd,true_and,and_true] at hb hb2; conv=>whnf
 repeat' (first|(refine Exists.intro _ (And.intro (D2) ?_); conv=>whnf)|(refine Exists.intro _ (And.intro (D3) ?_); conv=>whnf)|(refine Exists.intro _ (And.intro (S1) ?_); conv=>whnf)|(refine Exists.intro _ (And.intro (S2) ?_); conv=>whnf)|(refine And.intro (fun h=> ?_) (fun h=> ?_)<;>(first|skip)<;>(first|(conv=>whnf)))|((with_reducible refine DOr.r ?_); (conv=>whnf))|((with_reducible refine NilOr.l ?_); conv=>whnf)|((with_reducible refine OwnOr.l ?_); (conv=>whnf))|((with_reducible apply Drawn.one); conv=>whnf)|((with_reducible refine Then.mk' ?_); conv=>whnf)|(first|exact RefS.self rfl|fail)|(refine And.intro ?_ ?_; (focus (first|exact rfl|(first|exact B1|exact B2|exact B3|exact B4|exact B5|exact B6|exact B7|fail)|((conv=>whnf); intros; (try simp only [decide_eq_true_eq,decide_eq_false_iff_not,Bool.and_eq_true,Bool.or_eq_true,Bool.and_eq_false_imp,Bool.or_eq_false_iff,Bool.not_eq_true',Bool.not_eq_false',beq_iff_eq,bne_iff_ne,ne_eq] at *); (first|omega|fail)))); conv=>whnf)|((with_reducible refine xc_guard ?_); (first|(refine xc_g (P1) false (by first|(((conv=>whnf); repeat' (first|exact trivial|exact rfl|exact LeC.refl _|((with_reducible refine And.intro ?_ ?_)<;>conv=>whnf))); done)|fail) trivial ?_)|fail); conv=>whnf)|((with_reducible refine xc_pure ?_); conv=>whnf))
 all_goals first
  | trivial
  | rw [kyL_1 (k:=k) (by assumption)]
  | rw [kyL_2 (k:=k) (by assumption) (by assumption)]
  | rw [kyL_0 (k:=k) (by assumption) (by assumption)]
 all_goals (try ((conv=>whnf); repeat' (first|exact trivial|exact rfl|((with_reducible refine And.intro ?_ ?_)<;>conv=>whnf))))
 all_goals first
  | (simp only [List.length_append,List.length_singleton]; done)
  | (simp only [List.length_append,List.length_singleton]; omega)
  | (refine fun i hi=>LeCs.of_eq (catRB ?_ (catRB ?_ (catRB ?_ (catRB rfl (fun _ _=>rfl) (fun _ _=>rfl)) (rB1 _)) (fun _ _=>rfl)) (fun _ _=>rfl) i hi)<;>(simp only [List.length_append,List.length_singleton]))
  | (refine fun i hi=>LeCs.of_eq (catRB ?_ (catRB ?_ (catRB rfl (fun _ _=>rfl) (fun _ _=>rfl)) (rB1 _)) (fun _ _=>rfl) i hi)<;>(simp only [List.length_append,List.length_singleton]))
theorem aKyD (k:Ky)(ho:okKy k=true):ACall Tryz.prog gl 72 [.ag (cKy k)] [] (.c (.sl false 1 (kyL k).length (rB (kyL k)))):=by
 have h:=ACall.of_gcall (gKyR k ho)
 have e:(fun j=>rB (kyL k) (0+j))=rB (kyL k):=by funext j; rw [Nat.zero_add]
 rw [e] at h
 exact h
attribute [local irreducible] kyL layL shortL
end Go.Proofs.YtaecnniddhikbaaGreatDoor
