/- Contracts of functions of the program, and the laws that stand on them: what each function answers, whatever its arguments. -/
import Derived.Test.YteidfcaciadgpaaDoorC15
import Derived.Test.YteidfcaciadgpaaDoorVD
import Derived.Test.YteidfcaciadgpaaDoorC13
set_option linter.unusedSectionVars false
set_option linter.unnecessarySimpa false
namespace Go.Proofs.YteidfcaciadgpaaDoor
set_option linter.unusedSimpArgs false
set_option linter.unusedVariables false
set_option maxRecDepth 100000
set_option maxHeartbeats 8000000
open Go Go.VA
def nF : Nat → List C := fun _ => []
end Go.Proofs.YteidfcaciadgpaaDoor

namespace Go.Proofs.YteidfcaciadgpaaDoor
set_option linter.unusedSimpArgs false
set_option linter.unusedVariables false
set_option maxRecDepth 100000
set_option maxHeartbeats 8000000
open Go Go.VA
end Go.Proofs.YteidfcaciadgpaaDoor

namespace Go.Proofs.YteidfcaciadgpaaDoor
set_option linter.unusedSimpArgs false
set_option linter.unusedVariables false
set_option maxRecDepth 100000
set_option maxHeartbeats 8000000
open Go Go.VA
abbrev Bys (l : List Int) : Prop := ∀ x ∈ l, 0 ≤ x ∧ x < 256
theorem bys_app {a b : List Int} (h : Bys a) (h2 : Bys b) : Bys (a ++ b) := fun x hx => (List.mem_append.1 hx).elim (h x) (h2 x)
theorem bys_short : ∀ (m k : Nat), k < 256 * 128 ^ m → Bys (shortF m k)
  | 0, k, h, x, hx => by simp [shortF] at hx; subst hx; simp at h; omega
  | m + 1, k, h, x, hx => by
    simp only [shortF] at hx
    split at hx
    · simp at hx; subst hx; omega
    · rcases List.mem_cons.1 hx with rfl | hx
      · omega
      · refine bys_short m (k / 128) ?_ x hx
        rw [Nat.pow_succ] at h
        have : k < 256 * 128 ^ m * 128 := by rw [Nat.mul_assoc]; exact h
        omega
theorem bys_shortL {k : Nat} (h : k < 2 ^ 64) : Bys (shortL k) := bys_short 9 k (by omega)
theorem bys_str (s : ByteArray) : Bys (bytesL s) := fun x hx => by
  obtain ⟨y, _, rfl⟩ := List.mem_map.1 hx
  have := y.toNat_lt
  omega
theorem bys_strL {s : ByteArray} (h : s.size ≤ 1024) : Bys (strL s) := bys_app (bys_shortL (by omega)) (bys_str s)
theorem bys_w8 (x : Int) : 0 ≤ IntKind.u8.wrap x ∧ IntKind.u8.wrap x < 256 := by
  show 0 ≤ x % 256 ∧ x % 256 < 256
  omega
theorem bys_one {x : Int} (h : 0 ≤ x ∧ x < 256) : Bys [x] := fun y hy => by simp at hy; subst hy; exact h
def baL (l : List Int) : ByteArray := ⟨(l.map fun x => UInt8.ofNat x.toNat).toArray⟩
theorem baL_size (l : List Int) : (baL l).size = l.length := by
  show (l.map fun x => UInt8.ofNat x.toNat).toArray.size = _
  rw [List.size_toArray, List.length_map]
theorem baL_byte {l : List Int} (h : Bys l) (i : Nat) (hi : i < l.length) : byteN (baL l) i = l.getD i 0 := by
  unfold byteN baL
  have hx : l[i]? = some l[i] := List.getElem?_eq_getElem hi
  rw [List.getElem?_map, hx, List.getD_eq_getElem?_getD, hx]
  have := h _ (List.mem_of_getElem? hx)
  show ((UInt8.ofNat l[i].toNat).toNat : Int) = l[i]
  rw [UInt8.toNat_ofNat']
  omega
end Go.Proofs.YteidfcaciadgpaaDoor
