/- Contracts of functions of the program, and the laws that stand on them: what each function answers, whatever its arguments. -/
import Derived.Test.YtcgcamfhollnlaaDoorC3
import Derived.Test.YtcgcamfhollnlaaDoorVD
set_option linter.unusedSectionVars false
set_option linter.unnecessarySimpa false
namespace Go.Proofs.YtcgcamfhollnlaaDoor
set_option linter.unusedSimpArgs false
set_option linter.unusedVariables false
set_option maxRecDepth 100000
set_option maxHeartbeats 8000000
open Go Go.VA
end Go.Proofs.YtcgcamfhollnlaaDoor

namespace Go.Proofs.YtcgcamfhollnlaaDoor
set_option linter.unusedSimpArgs false
set_option linter.unusedVariables false
set_option maxRecDepth 100000
set_option maxHeartbeats 8000000
open Go Go.VA
def keyBad (ks : List ByteArray) (x : ByteArray) : Bool := decide ((ks.length : Int) > 0) && !(Op.bytesLess (ks.getD (IntKind.i64.wrap ((ks.length : Int) - 1)).toNat ByteArray.empty).toList x.toList)
def rdK (s : ByteArray) (kind : Int) (ks : List ByteArray) (a b : Int) : List ByteArray × Int × Int := if kind == 5 then (ks ++ [(rText s a b).1], (rText s a b).2.1, if keyBad ks (rText s a b).1 then failB (rText s a b).2.2 4 else (rText s a b).2.2) else (ks, a, b)
def rdIt (val : Int → Int → V × Int × Int) (s : ByteArray) (kind : Int) : Nat → List ByteArray → List V → Int → Int → List ByteArray × List V × Int × Int
  | 0, ks, l, a, b => (ks, l, a, b)
  | m + 1, ks, l, a, b => if b != 0 then (ks, l, a, b) else
    rdIt val s kind m (rdK s kind ks a b).1 (l ++ [(val (rdK s kind ks a b).2.1 (rdK s kind ks a b).2.2).1]) (val (rdK s kind ks a b).2.1 (rdK s kind ks a b).2.2).2.1 (val (rdK s kind ks a b).2.1 (rdK s kind ks a b).2.2).2.2
def itB (s : ByteArray) (a b : Int) : Int := if decide ((rShort s a b).1 > 128) then failB (rShort s a b).2.2 3 else (rShort s a b).2.2
def rdAll (val : Int → Int → V × Int × Int) (s : ByteArray) (kind a b : Int) : List ByteArray × List V × Int × Int := rdIt val s kind (rShort s a b).1.toNat [] [] (rShort s a b).2.1 (itB s a b)
theorem rText_ok (s : ByteArray) (a b : Int) (h0 : 0 ≤ a) (h1 : a ≤ s.size) : 0 ≤ (rText s a b).2.1 ∧ (rText s a b).2.1 ≤ s.size := by
  have g := gStr_ok s a.toNat (s.size - a.toNat) 1024
  unfold rText
  split
  · exact ⟨h0, h1⟩
  · by_cases e : (gStr s a.toNat (s.size - a.toNat) 1024).2.2 = 0
    · have := g.1 e
      exact ⟨by show 0 ≤ a + _; omega, by show a + _ ≤ _; omega⟩
    · have := g.2 e
      exact ⟨by show 0 ≤ a + _; omega, by show a + _ ≤ _; omega⟩
theorem rShort_ok (s : ByteArray) (a b : Int) (h0 : 0 ≤ a) (h1 : a ≤ s.size) : 0 ≤ (rShort s a b).1 ∧ 0 ≤ (rShort s a b).2.1 ∧ (rShort s a b).2.1 ≤ s.size := by
  have g := gS_ok s a.toNat (s.size - a.toNat) 0 0 (Int.le_refl 0)
  have g2 := gS_bad s a.toNat (s.size - a.toNat) 0 0
  unfold rShort
  split
  · exact ⟨Int.le_refl 0, h0, h1⟩
  · by_cases e : (gS s a.toNat (s.size - a.toNat) 0 0).2.2 = 0
    · have := g e
      exact ⟨this.2.2, by show 0 ≤ a + _; omega, by show a + _ ≤ _; omega⟩
    · have := g2 e
      exact ⟨by show 0 ≤ _; omega, by show 0 ≤ a + _; omega, by show a + _ ≤ _; omega⟩
structure ItI (val : Int → Int → V × Int × Int) (s : ByteArray) (k a b : Int) (i : Nat) (ks : List ByteArray) (l : List V) (a' b' : Int) : Prop where
  run : rdIt val s k ((rShort s a b).1.toNat - i) ks l a' b' = rdAll val s k a b
  le : (i : Int) ≤ (rShort s a b).1
  ln : l.length = i
  kn : ks.length ≤ i
  a0 : 0 ≤ a'
  a1 : a' ≤ s.size
  sm : b' = 0 → (rShort s a b).1 ≤ 128
theorem ItI.next {val : Int → Int → V × Int × Int} {s : ByteArray} {k a b : Int} {i : Nat} {ks : List ByteArray} {l : List V} {a' b' : Int} (h : ItI val s k a b i ks l a' b') (hq : (decide ((i : Int) < (rShort s a b).1) && (b' == 0)) = true)
    (hv : 0 ≤ (val (rdK s k ks a' b').2.1 (rdK s k ks a' b').2.2).2.1 ∧ (val (rdK s k ks a' b').2.1 (rdK s k ks a' b').2.2).2.1 ≤ s.size) :
    ItI val s k a b (i + 1) (rdK s k ks a' b').1 (l ++ [(val (rdK s k ks a' b').2.1 (rdK s k ks a' b').2.2).1]) (val (rdK s k ks a' b').2.1 (rdK s k ks a' b').2.2).2.1 (val (rdK s k ks a' b').2.1 (rdK s k ks a' b').2.2).2.2 := by
  have h0 : (i : Int) < (rShort s a b).1 ∧ b' = 0 := by simpa using hq
  refine ⟨?_, by have := h0.1; omega, by simp [h.ln], ?_, hv.1, hv.2, fun _ => h.sm h0.2⟩
  · rw [← h.run, show (rShort s a b).1.toNat - i = ((rShort s a b).1.toNat - (i + 1)) + 1 from by omega, rdIt, if_neg (by simp [h0.2])]
  · have := h.kn
    unfold rdK
    split <;> simp <;> omega
end Go.Proofs.YtcgcamfhollnlaaDoor
