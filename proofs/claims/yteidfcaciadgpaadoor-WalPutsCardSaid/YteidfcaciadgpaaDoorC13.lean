/- Contracts of functions of the program, and the laws that stand on them: what each function answers, whatever its arguments. -/
import Derived.Test.YteidfcaciadgpaaDoorC12
import Derived.Test.YteidfcaciadgpaaDoorVD
set_option linter.unusedSectionVars false
set_option linter.unnecessarySimpa false
namespace Go.Proofs.YteidfcaciadgpaaDoor
set_option linter.unusedSimpArgs false
set_option linter.unusedVariables false
set_option maxRecDepth 100000
set_option maxHeartbeats 8000000
open Go Go.VA
end Go.Proofs.YteidfcaciadgpaaDoor

namespace Go.Proofs.YteidfcaciadgpaaDoor
set_option linter.unusedSimpArgs false
set_option linter.unusedVariables false
set_option maxRecDepth 100000
set_option maxHeartbeats 8000000
open Go Go.VA
end Go.Proofs.YteidfcaciadgpaaDoor

namespace Go.Proofs.YteidfcaciadgpaaDoor
set_option linter.unusedSimpArgs false
set_option linter.unusedVariables false
set_option maxRecDepth 100000
set_option maxHeartbeats 8000000
open Go Go.VA
def AtL (s : ByteArray) (a : Nat) (L : List Int) : Prop := a + L.length ≤ s.size ∧ ∀ j, j < L.length → byteN s (a + j) = L.getD j 0
theorem AtL.left {s : ByteArray} {a : Nat} {A B : List Int} (h : AtL s a (A ++ B)) : AtL s a A := by
  have h1 := h.1
  rw [List.length_append] at h1
  refine ⟨by omega, fun j hj => ?_⟩
  rw [h.2 j (by rw [List.length_append]; omega)]
  simp [List.getD_eq_getElem?_getD, List.getElem?_append_left hj]
theorem AtL.right {s : ByteArray} {a : Nat} {A B : List Int} (h : AtL s a (A ++ B)) : AtL s (a + A.length) B := by
  have h1 := h.1
  rw [List.length_append] at h1
  refine ⟨by omega, fun j hj => ?_⟩
  have := h.2 (A.length + j) (by rw [List.length_append]; omega)
  rw [Nat.add_assoc, this]
  simp [List.getD_eq_getElem?_getD, List.getElem?_append_right (show A.length ≤ A.length + j by omega)]
theorem AtL.head {s : ByteArray} {a : Nat} {x : Int} {L : List Int} (h : AtL s a (x :: L)) : byteN s a = x ∧ a < s.size := by
  have h1 := h.1
  rw [List.length_cons] at h1
  exact ⟨h.2 0 (by simp), by omega⟩
theorem AtL.tail {s : ByteArray} {a : Nat} {x : Int} {L : List Int} (h : AtL s a (x :: L)) : AtL s (a + 1) L := AtL.right (A := [x]) (B := L) h
theorem pow7s (i : Nat) : 2 ^ (7 * (i + 1)) = 128 * 2 ^ (7 * i) := by rw [Nat.mul_add, Nat.pow_add]; omega
theorem gS_back (s : ByteArray) : ∀ (m k i acc n M : Nat), i + m = 9 → acc < 2 ^ (7 * i) → acc + n * 2 ^ (7 * i) < 2 ^ 64 → (0 < n ∨ i = 0) → AtL s (k + i) (shortF m n) → (shortF m n).length ≤ M →
    gS s k M i acc = (((acc + n * 2 ^ (7 * i) : Nat) : Int), ((i + (shortF m n).length : Nat) : Int), 0)
  | 0, k, i, acc, n, M, hi, ha, hn, h0, hL, hM => by
    obtain rfl : i = 9 := by omega
    have h1 : n ≤ 1 := by omega
    simp only [shortF] at hL hM ⊢
    obtain ⟨M, rfl⟩ : ∃ m, M = m + 1 := ⟨M - 1, by simp at hM; omega⟩
    have hb := hL.head.1
    simp only [gS]
    rw [hb]
    have hn0 : 0 < n := by omega
    rw [if_neg (by simp; omega), if_pos (by simp; omega), if_neg (by simp; omega), gSt_eq acc 9 n (by omega) (by omega) ha (fun _ => h1)]
    rw [Nat.mod_eq_of_lt (by omega)]
    rfl
  | m + 1, k, i, acc, n, M, hi, ha, hn, h0, hL, hM => by
    obtain ⟨M, rfl⟩ : ∃ m, M = m + 1 := ⟨M - 1, by
      have : 0 < (shortF (m + 1) n).length := by simp only [shortF]; split <;> simp
      omega⟩
    by_cases hs : n < 128
    · have e : shortF (m + 1) n = [(n : Int)] := by simp only [shortF]; rw [if_pos hs]
      rw [e] at hL ⊢
      have hb := hL.head.1
      simp only [gS]
      rw [hb, if_neg (by simp; omega), if_pos (by simp; omega), if_neg (by simp; omega), gSt_eq acc i n (by omega) (by omega) ha (fun h => by omega), Nat.mod_eq_of_lt hs]
      rfl
    · have e : shortF (m + 1) n = ((n % 128 + 128 : Nat) : Int) :: shortF m (n / 128) := by simp only [shortF]; rw [if_neg hs]
      rw [e] at hL hM ⊢
      have hb := hL.head.1
      have hp := pow7s i
      have hd : acc + n % 128 * 2 ^ (7 * i) + n / 128 * 2 ^ (7 * (i + 1)) = acc + n * 2 ^ (7 * i) := by
        rw [hp]
        have : n * 2 ^ (7 * i) = (128 * (n / 128) + n % 128) * 2 ^ (7 * i) := by rw [Nat.div_add_mod]
        rw [this]
        grind
      have hlt : acc + n % 128 * 2 ^ (7 * i) < 2 ^ (7 * (i + 1)) := by
        rw [hp]
        have h7 : n % 128 ≤ 127 := by omega
        have := Nat.mul_le_mul_right (2 ^ (7 * i)) h7
        omega
      simp only [gS]
      rw [hb, if_neg (by simp; omega), if_neg (by simp; omega), gSt_eq acc i (n % 128 + 128) (by omega) (by omega) ha (fun h => by omega)]
      rw [show (n % 128 + 128) % 128 = n % 128 by omega]
      have hL' : AtL s (k + (i + 1)) (shortF m (n / 128)) := hL.tail
      rw [gS_back s m k (i + 1) (acc + n % 128 * 2 ^ (7 * i)) (n / 128) M (by omega) hlt (by rw [hd]; exact hn) (.inl (by omega)) hL' (by simpa using hM), hd]
      rw [List.length_cons]
      congr 2
      push_cast; omega
theorem gSx_back (s : ByteArray) (a n : Nat) (hn : n < 2 ^ 64) (h : AtL s a (shortL n)) : gSx s (a : Int) = ((n : Int), ((shortL n).length : Int), 0) := by
  unfold gSx
  rw [Int.toNat_natCast]
  have hl := h.1
  have := gS_back s 9 a 0 0 n (s.size - a) rfl (by decide) (by rw [Nat.zero_add, Nat.mul_zero, Nat.pow_zero, Nat.mul_one]; exact hn) (.inr rfl) h (by show (shortL n).length ≤ _; omega)
  simp only [Nat.mul_zero, Nat.pow_zero, Nat.mul_one, Nat.zero_add] at this
  exact this
theorem ba_ext {x y : ByteArray} (h : x.size = y.size) (h2 : ∀ i, i < x.size → x.data.toList[i]? = y.data.toList[i]?) : x = y := by
  obtain ⟨⟨x⟩⟩ := x
  obtain ⟨⟨y⟩⟩ := y
  congr 2
  refine List.ext_getElem? fun i => ?_
  by_cases hi : i < x.length
  · exact h2 i (by simpa [ByteArray.size] using hi)
  · have : x.length = y.length := by simpa [ByteArray.size] using h
    rw [List.getElem?_eq_none (by omega), List.getElem?_eq_none (by omega)]
theorem subS_back (s t : ByteArray) (a : Nat) (h : AtL s a (bytesL t)) : subS s a t.size = t := by
  have hsz : (subS s a t.size).size = t.size := by
    show (List.map (fun i => byteC (strCells s (a + i))) (List.range t.size)).toArray.size = t.size
    rw [List.size_toArray, List.length_map, List.length_range]
  refine ba_ext hsz fun i hi => ?_
  rw [hsz] at hi
  have hb := h.2 i (by rw [bytesL_len]; exact hi)
  have hi' : i < t.data.toList.length := by simpa using hi
  have e1 : (bytesL t).getD i 0 = ((t.data.toList[i]?.getD 0).toNat : Int) := by
    simp [bytesL, List.getD_eq_getElem?_getD, List.getElem?_map, List.getElem?_eq_getElem hi']
  rw [e1] at hb
  unfold byteN at hb
  have hb : (s.data.toList[a + i]?.getD 0) = (t.data.toList[i]?.getD 0) := by
    apply UInt8.toNat_inj.1
    omega
  simp only [subS, bytesOf]
  rw [List.getElem?_map, List.getElem?_range hi]
  simp only [Option.map_some, byteC, strCells]
  rw [hb]
  rw [List.getElem?_eq_getElem hi']
  simp
end Go.Proofs.YteidfcaciadgpaaDoor
