/- Contracts of functions of the program,and the laws that stand on them: what each function answers,whatever its arguments. -/
import Derived.Test.YtiodgjgngfklkaaGreatDoorP0
import Derived.Test.YtiodgjgngfklkaaGreatDoorTT
import Derived.Test.YtiodgjgngfklkaaGreatDoorA1
import Derived.Test.YtiodgjgngfklkaaGreatDoorC18
import Derived.Test.YtiodgjgngfklkaaGreatDoorC9
import Derived.Test.YtiodgjgngfklkaaGreatDoorE7
import Derived.Test.YtiodgjgngfklkaaGreatDoorEr
import Derived.Test.YtiodgjgngfklkaaGreatDoorC13
import Derived.Test.YtiodgjgngfklkaaGreatDoorA3
set_option linter.all false
set_option maxRecDepth 100000
set_option maxHeartbeats 8000000
namespace Go.Proofs.YtiodgjgngfklkaaGreatDoor
open Go Go.VA
theorem gPutKyO (n:Nat)(f:Nat→List C)(k:Ky)(hf:∀ i,i<n→NtCs (f i))(hn:n+200≤140737488355328)(hk:okKy k=true) :
  GCall Tryz.prog gl 54 [.row 1 n f] [.own 0 1 0 n,.ag (cKy k)] [.row 1 (n+(kyL k).length) (catF 0 n f (rB (kyL k)))] [.own 0 1 0 (n+(kyL k).length)]:=by
 have CK:=aCheckK k
 rw [if_pos hk] at CK
 obtain ⟨⟨h1,h2,h3,h4,h5,h6,h7⟩,h8⟩:=okKy_le hk
 have a:=strL_len k.a.t
 have b:=strL_len k.a.n
 have c:=strL_len k.a.s
 have d:=shortL_len (IntKind.u64.wrap k.a.i).toNat
 have e:=shortL_len (IntKind.u64.wrap k.n).toNat
 have P1:=gPutStrO n f k.a.t hf (by omega)
 have P2:=fun F=>gPutStr true (n+(strL k.a.t).length) F k.a.n (by omega)
 have P3:=fun F=>gPutStr true (n+(strL k.a.t).length+(strL k.a.n).length+1) F k.a.s (by omega)
 have P4:=fun F=>gPutShortI true (n+(strL k.a.t).length+(strL k.a.n).length+1) F (IntKind.u64.wrap k.a.i) (u64nn _) (Int.emod_lt_of_pos _ (by decide)) (by omega)
 have P5:=fun m F (hm:m+20≤140737488355328)=>gPutShortI true m F (IntKind.u64.wrap k.n) (u64nn _) (Int.emod_lt_of_pos _ (by decide)) (by omega)
 have P50:=fun F=>P5 (n+(strL k.a.t).length+(strL k.a.n).length+1) F (by omega)
 have P51:=fun F=>P5 (n+(strL k.a.t).length+(strL k.a.n).length+1+(shortL (IntKind.u64.wrap k.a.i).toNat).length) F (by omega)
 have P52:=fun F=>P5 (n+(strL k.a.t).length+(strL k.a.n).length+1+(strL k.a.s).length) F (by omega)
 have B1:(n+(strL k.a.t).length+(strL k.a.n).length+1)*(tb 5).bytes≤140737488355328:=by show _*1≤_; omega
 have nt1:=ntCatG (m:=(strL k.a.t).length) hf (ntB (strL k.a.t) _)
 have nt2:=ntCatG (m:=(strL k.a.n).length) (ntShift nt1) (ntB (strL k.a.n) _)
 have nt3:=ntCatG nt2 (ntOne (IntKind.u8.wrap k.a.k))
 have nt4:=ntCatG (m:=(strL k.a.s).length) (ntShift nt3) (ntB (strL k.a.s) _)
 have nt5:=ntCatG (m:=(shortL (IntKind.u64.wrap k.a.i).toNat).length) (ntShift nt3) (ntB (shortL (IntKind.u64.wrap k.a.i).toNat) _)
 refine gcall_of_vcb htb hmix (f:=54) rfl rfl rfl (by kernel_rfl) rfl rfl rfl fun hb hb2=> ?_; simp only [bndOs,bndO,gbnds,AV.gbnd,bnds,C.bnd,true_and,and_true] at hb hb2; conv=>whnf
 repeat' (first|(refine Exists.intro _ (And.intro (CK) ?_); conv=>whnf)|(refine And.intro (fun h=> ?_) (fun h=> ?_)<;>(first|skip)<;>(first|exact absurd h (by decide)|(conv=>whnf)))|((with_reducible refine Both.mk ?_ ?_)<;>conv=>whnf)|((with_reducible refine DOr.r ?_); (conv=>whnf))|((with_reducible refine NilOr.l ?_); conv=>whnf)|((with_reducible refine OwnOr.l ?_); (conv=>whnf))|((with_reducible apply Drawn.one); conv=>whnf)|((with_reducible refine Then.mk' ?_); conv=>whnf)|(first|exact RefS.self rfl|fail)|(refine And.intro ?_ ?_; (focus (first|exact rfl|(first|exact B1|fail)|fail)); conv=>whnf)|((with_reducible refine xc_guard ?_); (first|(refine xc_g (P1) false (by first|(((conv=>whnf); repeat' (first|exact trivial|exact rfl|exact LeC.refl _|exact (fun i hi=>LeCs.refl _)|((with_reducible refine And.intro ?_ ?_)<;>conv=>whnf))); done)|fail) trivial ?_)|fail); conv=>whnf)|((with_reducible refine xc_guard ?_); (first|(refine xc_g (P2 _) true (by first|(((conv=>whnf); repeat' (first|exact trivial|exact rfl|exact LeC.refl _|((with_reducible refine And.intro ?_ ?_)<;>conv=>whnf))); done)|fail) (by first|(((conv=>whnf); repeat' (first|exact trivial|(first|exact nt2|fail)|((with_reducible refine And.intro ?_ ?_)<;>conv=>whnf))); done)|fail) ?_)); conv=>whnf)|((with_reducible refine xc_guard ?_); (first|(refine xc_g (P3 _) true (by first|(((conv=>whnf); repeat' (first|exact trivial|exact rfl|exact LeC.refl _|((with_reducible refine And.intro ?_ ?_)<;>conv=>whnf))); done)|fail) (by first|(((conv=>whnf); repeat' (first|exact trivial|(first|exact nt4|fail)|((with_reducible refine And.intro ?_ ?_)<;>conv=>whnf))); done)|fail) ?_)); conv=>whnf)|((with_reducible refine xc_guard ?_); (first|(refine xc_g (P4 _) true (by first|(((conv=>whnf); repeat' (first|exact trivial|exact rfl|exact LeC.refl _|((with_reducible refine And.intro ?_ ?_)<;>conv=>whnf))); done)|fail) (by first|(((conv=>whnf); repeat' (first|exact trivial|(first|exact nt5|fail)|((with_reducible refine And.intro ?_ ?_)<;>conv=>whnf))); done)|fail) ?_)); conv=>whnf)|((with_reducible refine xc_guard ?_); (first|(refine xc_g (P50 _) true (by first|(((conv=>whnf); repeat' (first|exact trivial|exact rfl|exact LeC.refl _|((with_reducible refine And.intro ?_ ?_)<;>conv=>whnf))); done)|fail) (by first|(((conv=>whnf); repeat' (first|exact trivial|(first|exact ntCatG (ntShift nt3) (ntB _ _)|fail)|((with_reducible refine And.intro ?_ ?_)<;>conv=>whnf))); done)|fail) ?_)); conv=>whnf)|((with_reducible refine xc_guard ?_); (first|(refine xc_g (P51 _) true (by first|(((conv=>whnf); repeat' (first|exact trivial|exact rfl|exact LeC.refl _|((with_reducible refine And.intro ?_ ?_)<;>conv=>whnf))); done)|fail) (by first|(((conv=>whnf); repeat' (first|exact trivial|(first|exact ntCatG (ntShift nt5) (ntB _ _)|fail)|((with_reducible refine And.intro ?_ ?_)<;>conv=>whnf))); done)|fail) ?_)); conv=>whnf)|((with_reducible refine xc_guard ?_); (first|(refine xc_g (P52 _) true (by first|(((conv=>whnf); repeat' (first|exact trivial|exact rfl|exact LeC.refl _|((with_reducible refine And.intro ?_ ?_)<;>conv=>whnf))); done)|fail) (by first|(((conv=>whnf); repeat' (first|exact trivial|(first|exact ntCatG (ntShift nt4) (ntB _ _)|fail)|((with_reducible refine And.intro ?_ ?_)<;>conv=>whnf))); done)|fail) ?_)); conv=>whnf)|((with_reducible refine xc_pure ?_); conv=>whnf))
 all_goals first
  | rw [kyL_1 (k:=k) (by assumption)]
  | rw [kyL_2 (k:=k) (by assumption) (by assumption)]
  | rw [kyL_0 (k:=k) (by assumption) (by assumption)]
 all_goals ((conv=>whnf); repeat' (first|exact trivial|exact rfl|((with_reducible refine And.intro ?_ ?_)<;>conv=>whnf)))
 all_goals first
  | exact fun i hi=>LeCs.of_eq (catK _ _ _ _ _ i (by simp only [List.length_append,List.length_singleton] at hi; omega))
  | exact fun i hi=>LeCs.of_eq (catK0 _ _ _ _ i (by simp only [List.length_append,List.length_singleton] at hi; omega))
  | (simp only [List.length_append,List.length_singleton]; omega)
end Go.Proofs.YtiodgjgngfklkaaGreatDoor
