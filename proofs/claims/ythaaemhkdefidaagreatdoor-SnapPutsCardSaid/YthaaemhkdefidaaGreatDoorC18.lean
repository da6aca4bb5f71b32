/- Contracts of functions of the program, and the laws that stand on them: what each function answers, whatever its arguments. -/
import Derived.Test.YthaaemhkdefidaaGreatDoorC13
import Derived.Test.YthaaemhkdefidaaGreatDoorVD
set_option linter.unusedSectionVars false
set_option linter.unnecessarySimpa false
namespace Go.Proofs.YthaaemhkdefidaaGreatDoor
set_option linter.unusedSimpArgs false
set_option linter.unusedVariables false
set_option maxRecDepth 100000
set_option maxHeartbeats 8000000
open Go Go.VA
/-! ### what was laid is read as it was -/
/-- at a place of bytes lies a row of numbers -/
def AtL (s : ByteArray) (a : Nat) (L : List Int) : Prop := a + L.length ≤ s.size ∧ ∀ j, j < L.length → byteN s (a + j) = L.getD j 0
theorem AtL.right {s : ByteArray} {a : Nat} {A B : List Int} (h : AtL s a (A ++ B)) : AtL s (a + A.length) B := by
 have h1 := h.1
 rw [List.length_append] at h1
 refine ⟨by omega, fun j hj => ?_⟩
 have := h.2 (A.length + j) (by rw [List.length_append]; omega)
 rw [Nat.add_assoc, this]
 simp [List.getD_eq_getElem?_getD, List.getElem?_append_right (show A.length ≤ A.length + j by omega)]
theorem AtL.tail {s : ByteArray} {a : Nat} {x : Int} {L : List Int} (h : AtL s a (x :: L)) : AtL s (a + 1) L := AtL.right (A := [x]) (B := L) h
theorem first_back (v : V) (h0 : 0 ≤ v.k) (h6 : v.k ≤ 6) : kdR (firstB v) = v.k ∧ scR (firstB v) = v.sec ∧ 0 ≤ firstB v ∧ firstB v < 256 := by
 obtain ⟨k, i, s, l, ks, tk, to, sec⟩ := v
 simp only [V.k, V.sec, firstB] at *
 obtain ⟨a, rfl⟩ : ∃ a : Nat, k = (a : Int) := ⟨k.toNat, by omega⟩
 have hf : ∀ a : Fin 7, ∀ sec : Bool, (let f := if sec = true then bitsI .or .u8 (IntKind.u8.wrap (a.val : Int)) 128 else IntKind.u8.wrap (a.val : Int); kdR f = (a.val : Int) ∧ scR f = sec ∧ 0 ≤ f ∧ f < 256) := by decide +kernel
 exact hf ⟨a, by omega⟩ sec
theorem keysOk_at (ks : List ByteArray) : ∀ (r : List ByteArray) (c : Nat), keysOk ks r c = true → ∀ (j : Nat) x, r[j]? = some x → keyOk ks (c + j) x = false
 | [], _, _, j, x, hx => by simp at hx
 | y :: r, c, h, 0, x, hx => by
  simp at hx
  subst hx
  simp only [keysOk] at h
  split at h
  ·exact absurd h (by decide)
  ·rename_i h1; simpa using h1
 | y :: r, c, h, j + 1, x, hx => by
  simp only [keysOk] at h
  split at h
  ·exact absurd h (by decide)
  ·have := keysOk_at ks r (c + 1) h j x (by simpa using hx)
   rw [show c + (j + 1) = c + 1 + j by omega]
   exact this
end Go.Proofs.YthaaemhkdefidaaGreatDoor

namespace Go.Proofs.YthaaemhkdefidaaGreatDoor
set_option linter.unusedSimpArgs false
set_option linter.unusedVariables false
set_option maxRecDepth 100000
set_option maxHeartbeats 8000000
open Go Go.VA
/-! ### sizes of values that may be, and their bytes -/
theorem shaped_parts {v : V} (h : shaped v = true) : 0 ≤ v.k ∧ v.k ≤ 6 ∧ v.s.size ≤ 1024 ∧ v.l.length ≤ 128 ∧ (v.k ≠ 4 → v.k ≠ 5 → v.l = []) ∧ (v.k = 5 → v.ks.length = v.l.length) ∧ (v.k ≠ 5 → v.ks = []) ∧ keysOk v.ks v.ks 0 = true := by
 rw [shaped_law v 1 (by omega)] at h
 simp only [Bool.and_eq_true, Bool.not_eq_true'] at h
 obtain ⟨⟨⟨⟨⟨⟨c1, c2⟩, c3⟩, c4⟩, c5⟩, c6⟩, ck⟩ := h
 unfold chk1 at c1; unfold chk3 at c3; unfold chk5 at c5; unfold chk6 at c6
 simp only [Bool.or_eq_false_iff, Bool.and_eq_false_iff, decide_eq_false_iff_not, bne_eq_false_iff_eq, Bool.not_eq_false', beq_eq_false_iff_ne] at c1 c3 c5 c6
 refine ⟨by omega, by omega, by omega, by omega, fun h4 h5 => ?_, fun h5 => ?_, fun h5 => ?_, ck⟩
 ·apply List.eq_nil_of_length_eq_zero
  rcases c5.1 with (h | h) | h
  ·exact absurd h h4
  ·exact absurd h h5
  ·omega
 ·rcases c6.2 with h | h
  ·exact absurd h5 h
  ·omega
 ·apply List.eq_nil_of_length_eq_zero
  rcases c6.1 with h | h
  ·exact absurd h h5
  ·omega
theorem nIt_all {v : V} (h : shaped v = true) : nIt v = v.l.length := by
 obtain ⟨_, _, _, _, h1, h2, _, _⟩ := shaped_parts h
 unfold nIt nPairs
 by_cases h4 : v.k = 4
 ·rw [if_pos (by simpa using h4)]
 ·rw [if_neg (by simpa using h4)]
  by_cases h5 : v.k = 5
  ·rw [if_pos (by simpa using h5), h2 h5]; omega
  ·rw [if_neg (by simpa using h5), h1 h4 h5]; rfl
theorem allV_parts {v : V} {d : Int} (h : allV v d = true) : d ≠ 0 ∧ shaped v = true ∧ ∀ x ∈ v.l, allV x (IntKind.i64.wrap (d - 1)) = true := by
 rw [allV_eq] at h
 split at h
 ·exact absurd h (by decide)
 ·rename_i hn
  simp only [Bool.or_eq_true, beq_iff_eq, Bool.not_eq_true', not_or] at hn
  exact ⟨hn.1, by simpa using hn.2, List.all_eq_true.1 h⟩
theorem fold_nat (B : Nat) : ∀ (l : List V) (acc : Nat), (∀ x ∈ l, ∃ n : Nat, weight x = n ∧ n ≤ B ∧ bigL x + 1044 ≤ 2108 * n) → acc + l.length * B < 2 ^ 63 →
  ∃ m : Nat, (l.map weight).foldl (fun n r => IntKind.i64.wrap (n + r)) (acc : Int) = ((acc + m : Nat) : Int) ∧ m ≤ l.length * B ∧ (l.map bigL).sum + 1044 * l.length ≤ 2108 * m
 | [], acc, _, _ => ⟨0, by simp, by simp, by simp⟩
 | x :: r, acc, hx, hb => by
  obtain ⟨n, h1, h2, h3⟩ := hx x (by simp)
  rw [List.length_cons, Nat.add_mul, Nat.one_mul] at hb
  obtain ⟨m, h4, h5, h6⟩ := fold_nat B r (acc + n) (fun y hy => hx y (by simp [hy])) (by omega)
  refine ⟨n + m, ?_, by rw [List.length_cons, Nat.add_mul, Nat.one_mul]; omega, by rw [List.map_cons, List.sum_cons, List.length_cons]; omega⟩
  rw [List.map_cons, List.foldl_cons, h1, show ((acc : Int) + (n : Int)) = ((acc + n : Nat) : Int) by push_cast; rfl, wrap64 (by omega) (by omega), h4, Nat.add_assoc]
theorem sumTo_le (ks : List ByteArray) (hk : ∀ (j : Nat) x, ks[j]? = some x → x.size ≤ 1024) (rs : List Nat) : ∀ c, c ≤ rs.length → sumTo ks rs c ≤ 1044 * c + (rs.take c).sum
 | 0, _ => by simp [sumTo]
 | c + 1, hc => by
  have ih := sumTo_le ks hk rs c (by omega)
  have hs : (ks.getD c ByteArray.empty).size ≤ 1024 := by
   rw [List.getD_eq_getElem?_getD]
   cases h : ks[c]? with
   | none => show ByteArray.empty.size ≤ 1024; decide
   | some x => exact hk c x h
  have hr : (rs.take (c + 1)).sum = (rs.take c).sum + rs.getD c 0 := by
   rw [List.take_add_one, List.sum_append, List.getD_eq_getElem?_getD, List.getElem?_eq_getElem (show c < rs.length by omega)]
   simp
  simp only [sumTo]
  rw [hr]; omega
theorem keys_small {ks : List ByteArray} (h : keysOk ks ks 0 = true) (j : Nat) (x : ByteArray) (hx : ks[j]? = some x) : x.size ≤ 1024 := by
 have := keysOk_at ks ks 0 h j x hx
 unfold keyOk at this
 rw [Bool.or_eq_false_iff] at this
 have := of_decide_eq_false this.1
 omega
theorem big_ok (v : V) : ∀ d : Nat, allV v d = true → d ≤ 8 → (∃ n : Nat, weight v = n ∧ n ≤ 129 ^ d ∧ bigL v + 1044 ≤ 2108 * n) ∧ keyed v = true := by
 induction v using V.ind with
 | h v ih =>
 intro d hA hd
 obtain ⟨h0, hS, hl⟩ := allV_parts hA
 obtain ⟨d, rfl⟩ : ∃ e, d = e + 1 := ⟨d - 1, by omega⟩
 have hw : IntKind.i64.wrap (((d + 1 : Nat) : Int) - 1) = (d : Int) := by rw [wrap64 (by omega) (by omega)]; omega
 rw [hw] at hl
 obtain ⟨p1, p2, p3, p4, p5, p6, p7, p8⟩ := shaped_parts hS
 have hx := fun x hx => ih x hx d (hl x hx) (by omega)
 have hp : (129 : Nat) ^ d ≤ 129 ^ 7 := Nat.pow_le_pow_right (by decide) (by omega)
 have hm : v.l.length * 129 ^ d ≤ 128 * 129 ^ d := Nat.mul_le_mul_right _ p4
 obtain ⟨m, h1, h2, h3⟩ := fold_nat (129 ^ d) v.l 1 (fun x hx' => (hx x hx').1) (by omega)
 constructor
 ·refine ⟨1 + m, ?_, ?_, ?_⟩
  ·rw [weight_eq]
   unfold items
   rw [nIt_all hS, List.take_length]
   exact h1
  ·rw [Nat.pow_succ]
   have : 0 < 129 ^ d := Nat.pow_pos (by decide)
   omega
  ·rw [bigL_eq]
   have := sumTo_le v.ks (keys_small p8) (v.l.map bigL) v.l.length (by simp)
   rw [List.take_of_length_le (by simp)] at this
   omega
 ·rw [keyed_eq]
  simp only [Bool.and_eq_true, List.all_eq_true]
  refine ⟨?_, fun x h => (hx x h).2⟩
  by_cases h5 : v.k = 5
  ·simp [p6 h5]
  ·simp [h5]
theorem check_parts {v : V} (h : checkV v = 0) : allV v 8 = true ∧ weight v ≤ 512 := by
 unfold checkV at h
 split at h
 ·exact absurd h (by decide)
 ·rename_i hn
  simpa using hn
theorem check_big {v : V} (h : checkV v = 0) : bigL v ≤ 2000000 ∧ keyed v = true := by
 obtain ⟨h1, h2⟩ := check_parts h
 obtain ⟨⟨n, h3, _, h4⟩, h5⟩ := big_ok v 8 h1 (by decide)
 exact ⟨by omega, h5⟩
/-! bytes -/
abbrev Bys (l : List Int) : Prop := ∀ x ∈ l, 0 ≤ x ∧ x < 256
theorem bys_app {a b : List Int} (h : Bys a) (h2 : Bys b) : Bys (a ++ b) := fun x hx => (List.mem_append.1 hx).elim (h x) (h2 x)
theorem bys_short : ∀ (m k : Nat), k < 256 * 128 ^ m → Bys (shortF m k)
 | 0, k, h, x, hx => by simp [shortF] at hx; subst hx; simp at h; omega
 | m + 1, k, h, x, hx => by
  simp only [shortF] at hx
  split at hx
  ·simp at hx; subst hx; omega
  ·rcases List.mem_cons.1 hx with rfl | hx
   ·omega
   ·refine bys_short m (k / 128) ?_ x hx
    rw [Nat.pow_succ] at h
    have : k < 256 * 128 ^ m * 128 := by rw [Nat.mul_assoc]; exact h
    omega
theorem bys_shortL {k : Nat} (h : k < 2 ^ 64) : Bys (shortL k) := bys_short 9 k (by omega)
theorem bys_str (s : ByteArray) : Bys (bytesL s) := fun x hx => by
 obtain ⟨y, _, rfl⟩ := List.mem_map.1 hx
 have := y.toNat_lt
 omega
theorem bys_strL {s : ByteArray} (h : s.size ≤ 1024) : Bys (strL s) := bys_app (bys_shortL (by omega)) (bys_str s)
theorem bys_w8 (x : Int) : 0 ≤ IntKind.u8.wrap x ∧ IntKind.u8.wrap x < 256 := by
 show 0 ≤ x % 256 ∧ x % 256 < 256
 omega
theorem bys_one {x : Int} (h : 0 ≤ x ∧ x < 256) : Bys [x] := fun y hy => by simp at hy; subst hy; exact h
theorem codeT_rg (t : Ty) : 0 ≤ codeT t ∧ codeT t < 256 := by
 unfold codeT
 split
 ·exact bys_w8 _
 ·decide
theorem layL_bys (v : V) : ∀ d : Nat, allV v d = true → d ≤ 8 → Bys (layL v) := by
 induction v using V.ind with
 | h v ih =>
 intro d hA hd
 obtain ⟨h0, hS, hl⟩ := allV_parts hA
 obtain ⟨d, rfl⟩ : ∃ e, d = e + 1 := ⟨d - 1, by omega⟩
 have hw : IntKind.i64.wrap (((d + 1 : Nat) : Int) - 1) = (d : Int) := by rw [wrap64 (by omega) (by omega)]; omega
 rw [hw] at hl
 obtain ⟨p1, p2, p3, p4, p5, p6, p7, p8⟩ := shaped_parts hS
 obtain ⟨_, _, f3, f4⟩ := first_back v p1 p2
 have hits : Bys (layIts v (v.l.map layL) v.l.length) := fun y hy => by
  unfold layIts at hy
  obtain ⟨j, hj, hy⟩ := List.mem_flatMap.1 hy
  have hj := List.mem_range.1 hj
  have hx : v.l[j]? = some v.l[j] := List.getElem?_eq_getElem hj
  rw [getD_map layL v.l j hj [] _ hx] at hy
  refine bys_app ?_ (ih _ (List.mem_of_getElem? hx) d (hl _ (List.mem_of_getElem? hx)) (by omega)) y hy
  split
  ·refine bys_strL ?_
   rw [List.getD_eq_getElem?_getD]
   cases h : v.ks[j]? with
   | none => show ByteArray.empty.size ≤ 1024; decide
   | some x => exact keys_small p8 j x h
  ·exact fun y hy => absurd hy (by simp)
 rw [layL_eq]
 refine bys_app (a := [firstB v]) (bys_one ⟨f3, f4⟩) ?_
 show Bys (if (v.k == 1) = true then [IntKind.u8.wrap v.i] else _)
 split
 ·exact bys_one (bys_w8 _)
 ·split
  ·have := zigI_rg v.i
   exact bys_shortL (by omega)
  ·split
   ·exact bys_strL p3
   ·split
    ·exact bys_one (codeT_rg _)
    ·split
     ·exact bys_app (bys_shortL (by omega)) hits
     ·exact fun y hy => absurd hy (by simp)
/-- a row of numbers, as bytes -/
def baL (l : List Int) : ByteArray := ⟨(l.map fun x => UInt8.ofNat x.toNat).toArray⟩
theorem baL_size (l : List Int) : (baL l).size = l.length := by
 show (l.map fun x => UInt8.ofNat x.toNat).toArray.size = _
 rw [List.size_toArray, List.length_map]
theorem baL_byte {l : List Int} (h : Bys l) (i : Nat) (hi : i < l.length) : byteN (baL l) i = l.getD i 0 := by
 unfold byteN baL
 have hx : l[i]? = some l[i] := List.getElem?_eq_getElem hi
 rw [List.getElem?_map, hx, List.getD_eq_getElem?_getD, hx]
 have := h _ (List.mem_of_getElem? hx)
 show ((UInt8.ofNat l[i].toNat).toNat : Int) = l[i]
 rw [UInt8.toNat_ofNat']
 omega
end Go.Proofs.YthaaemhkdefidaaGreatDoor

namespace Go.Proofs.YthaaemhkdefidaaGreatDoor
set_option linter.unusedSimpArgs false
set_option linter.unusedVariables false
set_option maxRecDepth 100000
set_option maxHeartbeats 8000000
open Go Go.VA
end Go.Proofs.YthaaemhkdefidaaGreatDoor
