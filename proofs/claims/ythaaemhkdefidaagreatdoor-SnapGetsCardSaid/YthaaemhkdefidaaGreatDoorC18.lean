/- Contracts of functions of the program, and the laws that stand on them: what each function answers, whatever its arguments. -/
import Derived.Test.YthaaemhkdefidaaGreatDoorC13
import Derived.Test.YthaaemhkdefidaaGreatDoorVD
set_option linter.unusedSectionVars false
set_option linter.unnecessarySimpa false
namespace Go.Proofs.YthaaemhkdefidaaGreatDoor
set_option linter.unusedSimpArgs false
set_option linter.unusedVariables false
set_option maxRecDepth 100000
set_option maxHeartbeats 8000000
open Go Go.VA
/-! ### what was laid is read as it was -/
/-- at a place of bytes lies a row of numbers -/
def AtL (s : ByteArray) (a : Nat) (L : List Int) : Prop := a + L.length ≤ s.size ∧ ∀ j, j < L.length → byteN s (a + j) = L.getD j 0
theorem AtL.right {s : ByteArray} {a : Nat} {A B : List Int} (h : AtL s a (A ++ B)) : AtL s (a + A.length) B := by
 have h1 := h.1
 rw [List.length_append] at h1
 refine ⟨by omega, fun j hj => ?_⟩
 have := h.2 (A.length + j) (by rw [List.length_append]; omega)
 rw [Nat.add_assoc, this]
 simp [List.getD_eq_getElem?_getD, List.getElem?_append_right (show A.length ≤ A.length + j by omega)]
theorem AtL.tail {s : ByteArray} {a : Nat} {x : Int} {L : List Int} (h : AtL s a (x :: L)) : AtL s (a + 1) L := AtL.right (A := [x]) (B := L) h
theorem keysOk_at (ks : List ByteArray) : ∀ (r : List ByteArray) (c : Nat), keysOk ks r c = true → ∀ (j : Nat) x, r[j]? = some x → keyOk ks (c + j) x = false
 | [], _, _, j, x, hx => by simp at hx
 | y :: r, c, h, 0, x, hx => by
  simp at hx
  subst hx
  simp only [keysOk] at h
  split at h
  ·exact absurd h (by decide)
  ·rename_i h1; simpa using h1
 | y :: r, c, h, j + 1, x, hx => by
  simp only [keysOk] at h
  split at h
  ·exact absurd h (by decide)
  ·have := keysOk_at ks r (c + 1) h j x (by simpa using hx)
   rw [show c + (j + 1) = c + 1 + j by omega]
   exact this
end Go.Proofs.YthaaemhkdefidaaGreatDoor

namespace Go.Proofs.YthaaemhkdefidaaGreatDoor
set_option linter.unusedSimpArgs false
set_option linter.unusedVariables false
set_option maxRecDepth 100000
set_option maxHeartbeats 8000000
open Go Go.VA
/-! ### sizes of values that may be, and their bytes -/
/-! bytes -/
abbrev Bys (l : List Int) : Prop := ∀ x ∈ l, 0 ≤ x ∧ x < 256
theorem bys_app {a b : List Int} (h : Bys a) (h2 : Bys b) : Bys (a ++ b) := fun x hx => (List.mem_append.1 hx).elim (h x) (h2 x)
/-- a row of numbers, as bytes -/
def baL (l : List Int) : ByteArray := ⟨(l.map fun x => UInt8.ofNat x.toNat).toArray⟩
theorem baL_size (l : List Int) : (baL l).size = l.length := by
 show (l.map fun x => UInt8.ofNat x.toNat).toArray.size = _
 rw [List.size_toArray, List.length_map]
theorem baL_byte {l : List Int} (h : Bys l) (i : Nat) (hi : i < l.length) : byteN (baL l) i = l.getD i 0 := by
 unfold byteN baL
 have hx : l[i]? = some l[i] := List.getElem?_eq_getElem hi
 rw [List.getElem?_map, hx, List.getD_eq_getElem?_getD, hx]
 have := h _ (List.mem_of_getElem? hx)
 show ((UInt8.ofNat l[i].toNat).toNat : Int) = l[i]
 rw [UInt8.toNat_ofNat']
 omega
theorem sameR_to (v : V) : ∀ w, sameR v w true = true → v = w := by
 induction v using V.ind with
 | h v ih =>
 intro w h
 rw [sameR_eq] at h
 split at h
 ·exact absurd h (by decide)
 ·rename_i h1
  split at h
  ·exact absurd h (by decide)
  ·rename_i h2
   have h2 : v.ks = w.ks := eqSs_iff.1 (by simpa using h2)
   have hl : v.l = w.l := by
    have hlen : v.l.length = w.l.length := by simp at h1; omega
    clear h1 h2
    generalize v.l = a at *
    generalize w.l = b at *
    induction a generalizing b with
    | nil => exact (List.eq_nil_of_length_eq_zero (by simpa using hlen.symm)).symm
    | cons x r ih2 =>
     cases b with
     | nil => simp at hlen
     | cons y q =>
      simp only [all2, Bool.and_eq_true] at h
      rw [ih x (by simp) y h.1, ih2 (fun z hz => ih z (by simp [hz])) q h.2 (by simpa using hlen)]
   obtain ⟨k, i, s, l, ks, tk, to, sec⟩ := v
   obtain ⟨k', i', s', l', ks', tk', to', sec'⟩ := w
   simp only [V.k, V.i, V.s, V.l, V.ks, V.tk, V.to, V.sec] at *
   subst h2; subst hl
   simp only [Bool.or_eq_true, not_or, bne_iff_ne, ne_eq, Decidable.not_not, Bool.not_eq_true', Bool.and_eq_true, Bool.not_eq_false, beq_iff_eq, Bool.true_and, eqs_iff, true_and] at h1
   obtain ⟨⟨⟨⟨⟨⟨a1, a2⟩, a3⟩, a4⟩, a5⟩, a6⟩, a7⟩ := h1
   have a5 : sec = sec' := by simpa using a5
   rw [a1, a2, a3, a4.1, a4.2, a5]
end Go.Proofs.YthaaemhkdefidaaGreatDoor

namespace Go.Proofs.YthaaemhkdefidaaGreatDoor
set_option linter.unusedSimpArgs false
set_option linter.unusedVariables false
set_option maxRecDepth 100000
set_option maxHeartbeats 8000000
open Go Go.VA
end Go.Proofs.YthaaemhkdefidaaGreatDoor
