/- Contracts of functions of the program, and the laws that stand on them: what each function answers, whatever its arguments. -/
import Derived.Test.YtcgcamfhollnlaaGreatDoorE8
import Derived.Test.YtcgcamfhollnlaaGreatDoorE5
set_option linter.unusedSectionVars false
set_option linter.unnecessarySimpa false
namespace Go.Proofs.YtcgcamfhollnlaaGreatDoor
set_option linter.unusedSimpArgs false
set_option linter.unusedVariables false
set_option maxRecDepth 100000
set_option maxHeartbeats 8000000
open Go Go.VA
theorem bysKy {k : Ky} (ho : okKy k = true) : Bys (kyL k) := by
  obtain ⟨⟨z1, z2, z3, z4, z5, z6, z7⟩, z8⟩ := okKy_le ho
  have u (x : Int) : (IntKind.u64.wrap x).toNat < 2 ^ 64 := by
    have : IntKind.u64.wrap x < 18446744073709551616 := Int.emod_lt_of_pos _ (by decide)
    have := u64nn x
    omega
  unfold kyL
  refine bys_app (bys_app (bys_app (bys_app (bys_strL (by omega)) (bys_strL (by omega))) (bys_one (bys_w8 _))) ?_) (bys_shortL (u _))
  split
  · exact bys_shortL (u _)
  · split
    · exact bys_strL (by omega)
    · exact fun x hx => by simp at hx
theorem bys_rq {q : Rq} (ho : okRq q = true) : Bys (fmRq q) := by
  obtain ⟨a1, a2, a3, a4, a5⟩ := okRq_parts ho
  exact bys_app (a := [IntKind.u8.wrap q.k]) (bys_one (bys_w8 _)) (bys_app (bysKy a3) (bys_app (layL_bys q.p 8 (check_parts a4).1 (by decide)) (layL_bys q.w 8 (check_parts a5).1 (by decide))))
theorem sameRq_self (q : Rq) : sameRq q q = true := by unfold sameRq eqKy; rw [sameR_refl, sameR_refl]; simp [ba_beq]
end Go.Proofs.YtcgcamfhollnlaaGreatDoor
