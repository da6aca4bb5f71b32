/- Contracts of functions of the program, and the laws that stand on them: what each function answers, whatever its arguments. -/
import Derived.Test.YtcgcamfhollnlaaDoorC1
set_option linter.unusedSectionVars false
set_option linter.unnecessarySimpa false
namespace Go.Proofs.YtcgcamfhollnlaaDoor
set_option linter.unusedSimpArgs false
set_option linter.unusedVariables false
set_option maxRecDepth 100000
set_option maxHeartbeats 8000000
open Go Go.VA
theorem gSt_nn (acc : Int) (i : Nat) (c : Int) : 0 ≤ gSt acc i c := u64nn _
theorem gS_ok (s : ByteArray) (k : Nat) : ∀ (m i : Nat) (acc : Int), 0 ≤ acc → (gS s k m i acc).2.2 = 0 → (i : Int) < (gS s k m i acc).2.1 ∧ (gS s k m i acc).2.1 ≤ i + m ∧ 0 ≤ (gS s k m i acc).1
  | 0, i, acc, _, h => by simp [gS] at h
  | m + 1, i, acc, ha, h => by
    simp only [gS] at h ⊢
    split at h
    · simp at h
    · rename_i h1
      rw [if_neg h1]
      split at h
      · rename_i h2
        rw [if_pos h2]
        split at h
        · simp at h
        · rename_i h3
          rw [if_neg h3]
          exact ⟨by show (i : Int) < i + 1; omega, by show (i : Int) + 1 ≤ i + (m + 1 : Nat); omega, gSt_nn _ _ _⟩
      · rename_i h2
        rw [if_neg h2]
        have := gS_ok s k m (i + 1) _ (gSt_nn acc i _) h
        refine ⟨by have := this.1; omega, by have := this.2.1; omega, this.2.2⟩
theorem wrapU {n : Int} (h0 : 0 ≤ n) (h : n ≤ 9223372036854775807) : IntKind.u64.wrap n = n := by
  show n % 18446744073709551616 = n
  exact Int.emod_eq_of_lt h0 (by omega)
def subS (s : ByteArray) (a m : Nat) : ByteArray := bytesOf m (fun i => strCells s (a + i))
def gStr (s : ByteArray) (k n : Nat) (most : Int) : ByteArray × Int × Int :=
  if (gS s k n 0 0).2.2 != 0 then (ByteArray.empty, 0, (gS s k n 0 0).2.2)
  else if decide ((gS s k n 0 0).1 > IntKind.u64.wrap (if 0 > most then 0 else most)) then (ByteArray.empty, 0, 3)
  else if decide ((gS s k n 0 0).1 > (n : Int) - (gS s k n 0 0).2.1) then (ByteArray.empty, 0, 2)
  else (subS s (k + (gS s k n 0 0).2.1.toNat) (gS s k n 0 0).1.toNat, (gS s k n 0 0).2.1 + (gS s k n 0 0).1, 0)
theorem gS_bad (s : ByteArray) (k : Nat) : ∀ (m i : Nat) (acc : Int), (gS s k m i acc).2.2 ≠ 0 → (gS s k m i acc).1 = 0 ∧ (gS s k m i acc).2.1 = 0
  | 0, i, acc, h => ⟨rfl, rfl⟩
  | m + 1, i, acc, h => by
    simp only [gS] at h ⊢
    split at h
    · rename_i h1; rw [if_pos h1]; exact ⟨rfl, rfl⟩
    · rename_i h1
      rw [if_neg h1]
      split at h
      · rename_i h2
        rw [if_pos h2]
        split at h
        · rename_i h3; rw [if_pos h3]; exact ⟨rfl, rfl⟩
        · simp at h
      · rename_i h2
        rw [if_neg h2]
        exact gS_bad s k m (i + 1) _ h
def rShort (s : ByteArray) (a b : Int) : Int × Int × Int := if b != 0 then (0, a, b) else ((gS s a.toNat (s.size - a.toNat) 0 0).1, a + (gS s a.toNat (s.size - a.toNat) 0 0).2.1, (gS s a.toNat (s.size - a.toNat) 0 0).2.2)
end Go.Proofs.YtcgcamfhollnlaaDoor
