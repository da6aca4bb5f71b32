/- Contracts of functions of the program, and the laws that stand on them: what each function answers, whatever its arguments. -/
import Derived.Test.YtcgcamfhollnlaaDoorC2
set_option linter.unusedSectionVars false
set_option linter.unnecessarySimpa false
namespace Go.Proofs.YtcgcamfhollnlaaDoor
set_option linter.unusedSimpArgs false
set_option linter.unusedVariables false
set_option maxRecDepth 100000
set_option maxHeartbeats 8000000
open Go Go.VA
def tOf (c : Int) : Ty := (IntKind.i64.wrap (shrI .u8 c 3), IntKind.i64.wrap (bitsI .and .u8 c 7))
def ofC (c : Int) : Ty × Int := if chk (tOf c) then (tOf c, 0) else ((0, 0), 4)
theorem gStr_ok (s : ByteArray) (k n : Nat) (most : Int) : ((gStr s k n most).2.2 = 0 → 0 ≤ (gStr s k n most).2.1 ∧ (gStr s k n most).2.1 ≤ n) ∧ ((gStr s k n most).2.2 ≠ 0 → (gStr s k n most).1 = ByteArray.empty ∧ (gStr s k n most).2.1 = 0) := by
  have ok := gS_ok s k n 0 0 (Int.le_refl 0)
  unfold gStr
  generalize IntKind.u64.wrap (if 0 > most then 0 else most) = mm
  split
  · rename_i h; exact ⟨fun _ => ⟨Int.le_refl _, by show (0 : Int) ≤ n; omega⟩, fun _ => ⟨rfl, rfl⟩⟩
  · rename_i h
    have o := ok (by simpa using h)
    split
    · exact ⟨fun h => by simp at h, fun _ => ⟨rfl, rfl⟩⟩
    · split
      · exact ⟨fun h => by simp at h, fun _ => ⟨rfl, rfl⟩⟩
      · rename_i h3
        simp only [gt_iff_lt, decide_eq_true_eq] at h3
        exact ⟨fun _ => ⟨by show 0 ≤ (gS s k n 0 0).2.1 + (gS s k n 0 0).1; omega, by show (gS s k n 0 0).2.1 + (gS s k n 0 0).1 ≤ n; omega⟩, fun h => absurd rfl h⟩
def rText (s : ByteArray) (a b : Int) : ByteArray × Int × Int := if b != 0 then (ByteArray.empty, a, b) else ((gStr s a.toNat (s.size - a.toNat) 1024).1, a + (gStr s a.toNat (s.size - a.toNat) 1024).2.1, (gStr s a.toNat (s.size - a.toNat) 1024).2.2)
end Go.Proofs.YtcgcamfhollnlaaDoor
