/- Contracts of functions of the program, and the laws that stand on them: what each function answers, whatever its arguments. -/
import Derived.Test.YthaaemhkdefidaaGreatDoorVw5
import Derived.Test.YthaaemhkdefidaaGreatDoorVD
set_option linter.unusedSectionVars false
set_option linter.unnecessarySimpa false
namespace Go.Proofs.YthaaemhkdefidaaGreatDoor
set_option linter.unusedSimpArgs false
set_option linter.unusedVariables false
set_option maxRecDepth 100000
set_option maxHeartbeats 8000000
open Go Go.VA
theorem u64nn (n : Int) : 0 ≤ IntKind.u64.wrap n := by
 show 0 ≤ n % _
 exact Int.emod_nonneg _ (by decide)
def failB (b e : Int) : Int := if b == 0 then e else b
/-- the byte at a place -/
def byteN (s : ByteArray) (i : Nat) : Int := ((s.data.toList[i]?).getD 0).toNat
abbrev byteAt (s : ByteArray) (i : Int) : Int := byteN s i.toNat
def rByte (s : ByteArray) (a b : Int) : Int × Int × Int := if b != 0 then (0, a, b) else if decide (a ≥ s.size) then (0, a, 2) else (byteAt s a, a + 1, 0)
/-- a zigzag's number -/
def zag (n : Int) : Int := bitsI .xor .i64 (IntKind.i64.wrap (shrI .u64 n 1)) (IntKind.i64.wrap (0 - (IntKind.i64.wrap (bitsI .and .u64 n 1))))
/-- a number of seven bits each, as it is read: what it is, how many bytes, what is wrong -/
def gSt (acc : Int) (i : Nat) (c : Int) : Int := bitsI .or .u64 acc (shlI .u64 (IntKind.u64.wrap (bitsI .and .u8 c 127)) (IntKind.u64.wrap (7 * IntKind.u64.wrap i)))
def gS (s : ByteArray) (k : Nat) : Nat → Nat → Int → Int × Int × Int
 | 0, _, _ => (0, 0, 2)
 | m + 1, i, acc =>
  if ((i : Int) == 9 && decide (byteN s (k + i) > 1)) then (0, 0, 4)
  else if decide (byteN s (k + i) < 128) then (if (byteN s (k + i) == 0 && decide ((i : Int) > 0)) then (0, 0, 4) else (gSt acc i (byteN s (k + i)), (i : Int) + 1, 0))
  else gS s k m (i + 1) (gSt acc i (byteN s (k + i)))
end Go.Proofs.YthaaemhkdefidaaGreatDoor

namespace Go.Proofs.YthaaemhkdefidaaGreatDoor
set_option linter.unusedSimpArgs false
set_option linter.unusedVariables false
set_option maxRecDepth 100000
set_option maxHeartbeats 8000000
open Go Go.VA
theorem isB (n : Nat) (s : ByteArray) (f : Nat → Nat) : isBytes n (fun i => strCells s (f i)) := fun i _ => ⟨_, rfl⟩
theorem wrapU {n : Int} (h0 : 0 ≤ n) (h : n ≤ 9223372036854775807) : IntKind.u64.wrap n = n := by
 show n % 18446744073709551616 = n
 exact Int.emod_eq_of_lt h0 (by omega)
def subS (s : ByteArray) (a m : Nat) : ByteArray := bytesOf m (fun i => strCells s (a + i))
/-- a text, as it is read -/
def gStr (s : ByteArray) (k n : Nat) (most : Int) : ByteArray × Int × Int :=
 if (gS s k n 0 0).2.2 != 0 then (ByteArray.empty, 0, (gS s k n 0 0).2.2)
 else if decide ((gS s k n 0 0).1 > IntKind.u64.wrap (if 0 > most then 0 else most)) then (ByteArray.empty, 0, 3)
 else if decide ((gS s k n 0 0).1 > (n : Int) - (gS s k n 0 0).2.1) then (ByteArray.empty, 0, 2)
 else (subS s (k + (gS s k n 0 0).2.1.toNat) (gS s k n 0 0).1.toNat, (gS s k n 0 0).2.1 + (gS s k n 0 0).1, 0)
def rShort (s : ByteArray) (a b : Int) : Int × Int × Int := if b != 0 then (0, a, b) else ((gS s a.toNat (s.size - a.toNat) 0 0).1, a + (gS s a.toNat (s.size - a.toNat) 0 0).2.1, (gS s a.toNat (s.size - a.toNat) 0 0).2.2)
end Go.Proofs.YthaaemhkdefidaaGreatDoor

namespace Go.Proofs.YthaaemhkdefidaaGreatDoor
set_option linter.unusedSimpArgs false
set_option linter.unusedVariables false
set_option maxRecDepth 100000
set_option maxHeartbeats 8000000
open Go Go.VA
def tOf (c : Int) : Ty := (IntKind.i64.wrap (shrI .u8 c 3), IntKind.i64.wrap (bitsI .and .u8 c 7))
def ofC (c : Int) : Ty × Int := if chk (tOf c) then (tOf c, 0) else ((0, 0), 4)
def rText (s : ByteArray) (a b : Int) : ByteArray × Int × Int := if b != 0 then (ByteArray.empty, a, b) else ((gStr s a.toNat (s.size - a.toNat) 1024).1, a + (gStr s a.toNat (s.size - a.toNat) 1024).2.1, (gStr s a.toNat (s.size - a.toNat) 1024).2.2)
end Go.Proofs.YthaaemhkdefidaaGreatDoor

namespace Go.Proofs.YthaaemhkdefidaaGreatDoor
set_option linter.unusedSimpArgs false
set_option linter.unusedVariables false
set_option maxRecDepth 100000
set_option maxHeartbeats 8000000
open Go Go.VA
end Go.Proofs.YthaaemhkdefidaaGreatDoor

namespace Go.Proofs.YthaaemhkdefidaaGreatDoor
set_option linter.unusedSimpArgs false
set_option linter.unusedVariables false
set_option maxRecDepth 100000
set_option maxHeartbeats 8000000
open Go Go.VA
def keyBad (ks : List ByteArray) (x : ByteArray) : Bool := decide ((ks.length : Int) > 0) && !(Op.bytesLess (ks.getD (IntKind.i64.wrap ((ks.length : Int) - 1)).toNat ByteArray.empty).toList x.toList)
/-- a key, as it is read: the keys, the place, what is wrong -/
def rdK (s : ByteArray) (kind : Int) (ks : List ByteArray) (a b : Int) : List ByteArray × Int × Int := if kind == 5 then (ks ++ [(rText s a b).1], (rText s a b).2.1, if keyBad ks (rText s a b).1 then failB (rText s a b).2.2 4 else (rText s a b).2.2) else (ks, a, b)
/-- elements, as they are read -/
def rdIt (val : Int → Int → V × Int × Int) (s : ByteArray) (kind : Int) : Nat → List ByteArray → List V → Int → Int → List ByteArray × List V × Int × Int
 | 0, ks, l, a, b => (ks, l, a, b)
 | m + 1, ks, l, a, b => if b != 0 then (ks, l, a, b) else
  rdIt val s kind m (rdK s kind ks a b).1 (l ++ [(val (rdK s kind ks a b).2.1 (rdK s kind ks a b).2.2).1]) (val (rdK s kind ks a b).2.1 (rdK s kind ks a b).2.2).2.1 (val (rdK s kind ks a b).2.1 (rdK s kind ks a b).2.2).2.2
/-- where the elements begin, and what is wrong there -/
def itB (s : ByteArray) (a b : Int) : Int := if decide ((rShort s a b).1 > 128) then failB (rShort s a b).2.2 3 else (rShort s a b).2.2
def rdAll (val : Int → Int → V × Int × Int) (s : ByteArray) (kind a b : Int) : List ByteArray × List V × Int × Int := rdIt val s kind (rShort s a b).1.toNat [] [] (rShort s a b).2.1 (itB s a b)
/-- what holds ahead of each element -/
structure ItI (val : Int → Int → V × Int × Int) (s : ByteArray) (k a b : Int) (i : Nat) (ks : List ByteArray) (l : List V) (a' b' : Int) : Prop where
 run : rdIt val s k ((rShort s a b).1.toNat - i) ks l a' b' = rdAll val s k a b
 le : (i : Int) ≤ (rShort s a b).1
 ln : l.length = i
 kn : ks.length ≤ i
 a0 : 0 ≤ a'
 a1 : a' ≤ s.size
 sm : b' = 0 → (rShort s a b).1 ≤ 128
theorem ItI.next {val : Int → Int → V × Int × Int} {s : ByteArray} {k a b : Int} {i : Nat} {ks : List ByteArray} {l : List V} {a' b' : Int} (h : ItI val s k a b i ks l a' b') (hq : (decide ((i : Int) < (rShort s a b).1) && (b' == 0)) = true)
  (hv : 0 ≤ (val (rdK s k ks a' b').2.1 (rdK s k ks a' b').2.2).2.1 ∧ (val (rdK s k ks a' b').2.1 (rdK s k ks a' b').2.2).2.1 ≤ s.size) :
  ItI val s k a b (i + 1) (rdK s k ks a' b').1 (l ++ [(val (rdK s k ks a' b').2.1 (rdK s k ks a' b').2.2).1]) (val (rdK s k ks a' b').2.1 (rdK s k ks a' b').2.2).2.1 (val (rdK s k ks a' b').2.1 (rdK s k ks a' b').2.2).2.2 := by
 have h0 : (i : Int) < (rShort s a b).1 ∧ b' = 0 := by simpa using hq
 refine ⟨?_, by have := h0.1; omega, by simp [h.ln], ?_, hv.1, hv.2, fun _ => h.sm h0.2⟩
 ·rw [← h.run, show (rShort s a b).1.toNat - i = ((rShort s a b).1.toNat - (i + 1)) + 1 from by omega, rdIt, if_neg (by simp [h0.2])]
 ·have := h.kn
  unfold rdK
  split <;> simp <;> omega
end Go.Proofs.YthaaemhkdefidaaGreatDoor
