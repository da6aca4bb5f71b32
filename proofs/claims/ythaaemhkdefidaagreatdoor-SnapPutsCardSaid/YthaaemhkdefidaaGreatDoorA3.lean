/- Contracts of functions of the program, and the laws that stand on them: what each function answers, whatever its arguments. -/
import Derived.Test.YthaaemhkdefidaaGreatDoorA1
import Derived.Test.YthaaemhkdefidaaGreatDoorS1
import Derived.Test.YthaaemhkdefidaaGreatDoorC9
import Derived.Test.YthaaemhkdefidaaGreatDoorC18
set_option linter.unusedSectionVars false
set_option linter.unnecessarySimpa false
namespace Go.Proofs.YthaaemhkdefidaaGreatDoor
set_option linter.unusedSimpArgs false
set_option linter.unusedVariables false
set_option maxRecDepth 100000
set_option maxHeartbeats 8000000
open Go Go.VA
/-! ### A key is read -/
def rTx (s : ByteArray) (a b : Int) : ByteArray × Int × Int := if b != 0 then (ByteArray.empty, a, b) else ((gStr s a.toNat (s.size - a.toNat) 24).1, a + (gStr s a.toNat (s.size - a.toNat) 24).2.1, (gStr s a.toNat (s.size - a.toNat) 24).2.2)
def rKd (s : ByteArray) (a b : Int) : Int × Int × Int := if b != 0 then (0, a, b) else if decide (a ≥ s.size) then (0, a + 1, 2) else (byteAt s a, a + 1, if decide (byteAt s a > 2) then 4 else 0)
theorem wT {a n : Int} {s : ByteArray} (hs : s.size ≤ 140737488355328) (h : 0 ≤ a + n ∧ a + n ≤ s.size) : IntKind.i64.wrap (a + n) = a + n := wrap64 (by omega) (by omega)
end Go.Proofs.YthaaemhkdefidaaGreatDoor

namespace Go.Proofs.YthaaemhkdefidaaGreatDoor
set_option linter.unusedSimpArgs false
set_option linter.unusedVariables false
set_option maxRecDepth 100000
set_option maxHeartbeats 8000000
open Go Go.VA
def ky0 : Ky := ⟨⟨ByteArray.empty, ByteArray.empty, 0, 0, ByteArray.empty⟩, 0⟩
def kyFin (k : Ky) (i n a e : Int) : Ky × Int × Int :=
 if e != 0 then (ky0, 0, e) else if decide (i > 9223372036854775807) || decide (n > 4294967295) || !okKy k then (ky0, 0, 4) else (k, a, 0)
def gK1 (s : ByteArray) : ByteArray × Int × Int := rTx s 0 0
def gK2 (s : ByteArray) : ByteArray × Int × Int := rTx s (gK1 s).2.1 (gK1 s).2.2
def gK3 (s : ByteArray) : Int × Int × Int := rKd s (gK2 s).2.1 (gK2 s).2.2
def gK4 (s : ByteArray) : Int × Int × Int := rShort s (gK3 s).2.1 (gK3 s).2.2
def gK5 (s : ByteArray) : ByteArray × Int × Int := rTx s (gK3 s).2.1 (gK3 s).2.2
def gKyA (s : ByteArray) : Ky × Int × Int :=
 if (gK3 s).1 == 1 then
  let r := rShort s (gK4 s).2.1 (gK4 s).2.2
  kyFin ⟨⟨(gK1 s).1, (gK2 s).1, (gK3 s).1, IntKind.i64.wrap (bitsI .and .u64 (gK4 s).1 9223372036854775807), ByteArray.empty⟩, IntKind.u32.wrap r.1⟩ (gK4 s).1 r.1 r.2.1 r.2.2
 else if (gK3 s).1 == 2 then
  let r := rShort s (gK5 s).2.1 (gK5 s).2.2
  kyFin ⟨⟨(gK1 s).1, (gK2 s).1, (gK3 s).1, 0, (gK5 s).1⟩, IntKind.u32.wrap r.1⟩ 0 r.1 r.2.1 r.2.2
 else kyFin ⟨⟨(gK1 s).1, (gK2 s).1, (gK3 s).1, 0, ByteArray.empty⟩, IntKind.u32.wrap (gK4 s).1⟩ 0 (gK4 s).1 (gK4 s).2.1 (gK4 s).2.2
end Go.Proofs.YthaaemhkdefidaaGreatDoor

namespace Go.Proofs.YthaaemhkdefidaaGreatDoor
set_option linter.unusedSimpArgs false
set_option linter.unusedVariables false
set_option maxRecDepth 100000
set_option maxHeartbeats 8000000
open Go Go.VA
/-! ### The document's answers: names, keys, their forms -/
theorem aSmallR (c : Int) : ACall Tryz.prog gl 140 [intA .u8 c] [] (boolA (smZ c)) := by
 refine acall_of_vc htb hmix (f := 140) rfl rfl rfl (by kernel_rfl) rfl rfl ?_; conv => whnf
 repeat' (fail)
 exact leB rfl
theorem spell_split {p : Int → Bool} {s : ByteArray} (h1 : ¬ (s.size : Int) < 1) (h2 : ¬ (s.size : Int) > 24) : spell p s = allB p s := by
 unfold spell
 have a : (s.size == 0) = false := beq_eq_false_iff_ne.2 (by omega)
 have b : s.size ≤ 24 := by omega
 simp [a, b]
theorem allB_t {p : Int → Bool} {s : ByteArray} (h : ∀ j, j < s.size → p (byteN s j) = true) : allB p s = true := by
 unfold allB
 rw [List.all_eq_true]
 intro j hj
 exact h j (by simpa using hj)
theorem allB_f {p : Int → Bool} {s : ByteArray} {c : Nat} (hc : c < s.size) (h : p (byteN s c) = false) : allB p s = false := by
 unfold allB
 rw [List.all_eq_false]
 exact ⟨c, by simpa using hc, by rw [h]; decide⟩
theorem nm_ref (c : Int) : (!smZ c && !(decide (c ≥ 48) && decide (c ≤ 57)) && c != 95) = !nmZ c := by
 unfold nmZ dgZ
 cases smZ c <;> cases (decide (c ≥ 48) && decide (c ≤ 57)) <;> simp [bne]
theorem wd_ref (c : Nat) (h : c < 256) : (!smZ (c : Int) && !(decide ((c : Int) ≥ 65) && decide ((c : Int) ≤ 90)) && !(decide ((c : Int) ≥ 48) && decide ((c : Int) ≤ 57)) && (c : Int) != 95 && (c : Int) != 45 && (c : Int) != 46) = !wdZ (c : Int) := by
 have : ∀ c : Fin 256, (!smZ (c.val : Int) && !(decide ((c.val : Int) ≥ 65) && decide ((c.val : Int) ≤ 90)) && !(decide ((c.val : Int) ≥ 48) && decide ((c.val : Int) ≤ 57)) && (c.val : Int) != 95 && (c.val : Int) != 45 && (c.val : Int) != 46) = !wdZ (c.val : Int) := by decide +kernel
 exact this ⟨c, h⟩
theorem wd_refB (s : ByteArray) (c : Nat) : (!smZ (byteN s c) && !(decide (byteN s c ≥ 65) && decide (byteN s c ≤ 90)) && !(decide (byteN s c ≥ 48) && decide (byteN s c ≤ 57)) && byteN s c != 95 && byteN s c != 45 && byteN s c != 46) = !wdZ (byteN s c) := by
 have e : ((byteN s c).toNat : Int) = byteN s c := by have := byteN_lt s c; omega
 have := wd_ref (byteN s c).toNat (by have := byteN_lt s c; omega)
 rwa [e] at this
theorem aNameR (s : ByteArray) : ACall Tryz.prog gl 101 [.c (.v (.string s))] [] (boolA (nameB s)) := by
 by_cases hA : (s.size : Int) < 1
 ·have hn : nameB s = false := by unfold nameB spell; have : s.size = 0 := by omega
                                  simp [this]
  rw [hn]
  have hq : decide ((s.size : Int) < 1) = true := by simpa using hA
  have hB : (decide ((s.size : Int) < 1) || decide ((s.size : Int) > 24)) = false → (0 : Int) ≤ 0 ∧ (0 : Int) < s.size := fun h => by rw [hq] at h; simp at h
  refine acall_of_vc htb hmix (f := 101) rfl rfl rfl (by kernel_rfl) rfl rfl ?_; conv => whnf
  repeat' (first | ((with_reducible refine GOr.l ?_); (conv => whnf); refine Exists.intro _ (And.intro (chainI (aSmallR _)) ?_); conv => whnf) | (refine And.intro (fun h => ?_) (fun h => ?_) <;> (first | skip) <;> (first | (conv => whnf))) | (refine And.intro ?_ ?_; (focus (first | (first | exact hB | fail) | fail)); conv => whnf) | fail)
  ·exact leB rfl
  ·rw [hq] at h; simp at h
 ·by_cases hC : (s.size : Int) > 24
  ·have hn : nameB s = false := by unfold nameB spell; have : ¬ s.size ≤ 24 := by omega
                                   simp [this]
   rw [hn]
   have hq : decide ((s.size : Int) > 24) = true := by simpa using hC
   have hB : (decide ((s.size : Int) < 1) || decide ((s.size : Int) > 24)) = false → (0 : Int) ≤ 0 ∧ (0 : Int) < s.size := fun h => by rw [hq] at h; simp at h
   refine acall_of_vc htb hmix (f := 101) rfl rfl rfl (by kernel_rfl) rfl rfl ?_; conv => whnf
   repeat' (first | ((with_reducible refine GOr.l ?_); (conv => whnf); refine Exists.intro _ (And.intro (chainI (aSmallR _)) ?_); conv => whnf) | (refine And.intro (fun h => ?_) (fun h => ?_) <;> (first | skip) <;> (first | (conv => whnf))) | (refine And.intro ?_ ?_; (focus (first | (first | exact hB | fail) | fail)); conv => whnf) | fail)
   ·exact leB rfl
   ·rw [hq] at h; simp at h
  ·have hn : nameB s = (allB nmZ s && smZ (byteN s 0)) := by unfold nameB; rw [spell_split hA hC]
   have hB : (decide ((s.size : Int) < 1) || decide ((s.size : Int) > 24)) = false → (0 : Int) ≤ 0 ∧ (0 : Int) < s.size := fun h => by omega
   rw [hn]
   refine acall_of_vc htb hmix (f := 101) rfl rfl rfl (by kernel_rfl) rfl rfl ?_; conv => whnf
   repeat' (first | ((with_reducible refine GOr.l ?_); (conv => whnf); refine Exists.intro _ (And.intro (chainI (aSmallR _)) ?_); conv => whnf) | (refine And.intro (fun h => ?_) (fun h => ?_) <;> (first | skip) <;> (first | (conv => whnf))) | (refine And.intro ?_ ?_; (focus (first | (first | exact hB | fail) | fail)); conv => whnf) | fail)
   ·have q1 : decide ((s.size : Int) < 1) = false := by simpa using hA
    have q2 : decide ((s.size : Int) > 24) = false := by simpa using hC
    rw [q1, q2] at h
    have h : (!smZ (byteN s 0)) = true := h
    refine leB ?_
    have : smZ (byteN s 0) = false := by simpa using h
    rw [this]; simp
   ·have q1 : decide ((s.size : Int) < 1) = false := by simpa using hA
    have q2 : decide ((s.size : Int) > 24) = false := by simpa using hC
    rw [q1, q2] at h
    have h : (!smZ (byteN s 0)) = false := h
    have h0 : smZ (byteN s 0) = true := by simpa using h
    refine loopI Nat (fun c => c ≤ s.size ∧ ∀ j, j < c → nmZ (byteN s j) = true) (fun c => [(3, intA .i64 c)]) (fun _ => []) (fun c => s.size - c) 0 ⟨Nat.zero_le _, fun j hj => absurd hj (Nat.not_lt_zero _)⟩ ?_ (fun _ => rfl) fun c ⟨hc, hp⟩ => ?_
    ·(refine And.intro ?_ (And.intro ?_ (And.intro ?_ rfl)) <;> (conv => whnf) <;> repeat' (first | exact trivial | exact LeE.of (Le.refl _) | (first | exact rfl | fail) | ((with_reducible refine And.intro ?_ ?_) <;> conv => whnf)))
    ·conv => whnf
     repeat' (first | (refine Exists.intro _ (And.intro (aSmallR _) ?_); conv => whnf) | (refine And.intro (fun h => ?_) (fun h => ?_) <;> (first | (with_reducible have hd : _ < _ := of_decide_eq_true h) | (with_reducible have hd : ¬ (_ < _) := of_decide_eq_false h) | skip) <;> (first | (conv => whnf))) | (refine And.intro ?_ ?_; (focus (first | (refine chainI ?_; (first | omega | fail)) | fail)); conv => whnf) | ((with_reducible refine xc_pure ?_); conv => whnf))
     ·have hcs : c < s.size := by omega
      have hq : (!smZ (byteN s c) && !(decide (byteN s c ≥ 48) && decide (byteN s c ≤ 57)) && byteN s c != 95) = true := h
      rw [nm_ref] at hq
      refine leB ?_
      rw [allB_f hcs (by simpa using hq)]; rfl
     ·have hcs : c < s.size := by omega
      have hq : (!smZ (byteN s c) && !(decide (byteN s c ≥ 48) && decide (byteN s c ≤ 57)) && byteN s c != 95) = false := h
      rw [nm_ref] at hq
      refine ⟨c + 1, ⟨hcs, fun j hj => ?_⟩, ?_, by show s.size - (c + 1) < s.size - c; omega⟩
      ·rcases Nat.lt_or_ge j c with h2 | h2
       ·exact hp j h2
       ·obtain rfl : j = c := by omega
        simpa using hq
      ·(refine And.intro ?_ (And.intro ?_ (And.intro ?_ rfl)) <;> (conv => whnf) <;> repeat' (first | exact trivial | exact LeE.of (Le.refl _) | (with_reducible refine LeE.of ?_) | (first | exact rfl | exact leI (by first | rfl | (rw [wrap64 (by omega) (by omega)]; omega) | fail) | fail) | ((with_reducible refine And.intro ?_ ?_) <;> conv => whnf)))
     ·obtain rfl : c = s.size := by omega
      refine leB ?_
      rw [allB_t hp, h0]; rfl
theorem aWordR (s : ByteArray) : ACall Tryz.prog gl 102 [.c (.v (.string s))] [] (boolA (wordB s)) := by
 refine acall_of_vc htb hmix (f := 102) rfl rfl rfl (by kernel_rfl) rfl rfl ?_; conv => whnf
 repeat' (first | (refine And.intro (fun h => ?_) (fun h => ?_) <;> (first | skip) <;> (first | (conv => whnf))) | fail)
 ·refine leB ?_
  unfold wordB spell
  simp only [Bool.or_eq_true, decide_eq_true_eq] at h
  rcases h with h | h
  ·have : s.size = 0 := by omega
   simp [this]
  ·have : ¬ s.size ≤ 24 := by omega
   simp [this]
 ·simp only [Bool.or_eq_false_iff, decide_eq_false_iff_not] at h
  have hw : wordB s = allB wdZ s := spell_split h.1 h.2
  rw [hw]
  refine loopI Nat (fun c => c ≤ s.size ∧ ∀ j, j < c → wdZ (byteN s j) = true) (fun c => [(3, intA .i64 c)]) (fun _ => []) (fun c => s.size - c) 0 ⟨Nat.zero_le _, fun j hj => absurd hj (Nat.not_lt_zero _)⟩ ?_ (fun _ => rfl) fun c ⟨hc, hp⟩ => ?_
  ·(refine And.intro ?_ (And.intro ?_ (And.intro ?_ rfl)) <;> (conv => whnf) <;> repeat' (first | exact trivial | exact LeE.of (Le.refl _) | (first | exact rfl | fail) | ((with_reducible refine And.intro ?_ ?_) <;> conv => whnf)))
  ·conv => whnf
   repeat' (first | (refine Exists.intro _ (And.intro (aSmallR _) ?_); conv => whnf) | (refine And.intro (fun h => ?_) (fun h => ?_) <;> (first | (with_reducible have hd : _ < _ := of_decide_eq_true h) | (with_reducible have hd : ¬ (_ < _) := of_decide_eq_false h) | skip) <;> (first | (conv => whnf))) | (refine And.intro ?_ ?_; (focus (first | (refine chainI ?_; (first | omega | fail)) | fail)); conv => whnf) | ((with_reducible refine xc_pure ?_); conv => whnf))
   ·have hcs : c < s.size := by omega
    have hq : (!smZ (byteN s c) && !(decide (byteN s c ≥ 65) && decide (byteN s c ≤ 90)) && !(decide (byteN s c ≥ 48) && decide (byteN s c ≤ 57)) && byteN s c != 95 && byteN s c != 45 && byteN s c != 46) = true := h
    rw [wd_refB] at hq
    refine leB ?_
    rw [allB_f hcs (by simpa using hq)]
   ·have hcs : c < s.size := by omega
    have hq : (!smZ (byteN s c) && !(decide (byteN s c ≥ 65) && decide (byteN s c ≤ 90)) && !(decide (byteN s c ≥ 48) && decide (byteN s c ≤ 57)) && byteN s c != 95 && byteN s c != 45 && byteN s c != 46) = false := h
    rw [wd_refB] at hq
    refine ⟨c + 1, ⟨hcs, fun j hj => ?_⟩, ?_, by show s.size - (c + 1) < s.size - c; omega⟩
    ·rcases Nat.lt_or_ge j c with h2 | h2
     ·exact hp j h2
     ·obtain rfl : j = c := by omega
      simpa using hq
    ·(refine And.intro ?_ (And.intro ?_ (And.intro ?_ rfl)) <;> (conv => whnf) <;> repeat' (first | exact trivial | exact LeE.of (Le.refl _) | (with_reducible refine LeE.of ?_) | (first | exact rfl | exact leI (by first | rfl | (rw [wrap64 (by omega) (by omega)]; omega) | fail) | fail) | ((with_reducible refine And.intro ?_ ?_) <;> conv => whnf)))
   ·obtain rfl : c = s.size := by omega
    refine leB ?_
    rw [allB_t hp]
theorem aCheckAR (a : Ad) : ACall Tryz.prog gl 54 [.ag (cAd a)] [] (boolA (okAd a)) := by
 refine acall_of_vc htb hmix (f := 54) rfl rfl rfl (by kernel_rfl) rfl rfl ?_; conv => whnf
 repeat' (first | (refine Exists.intro _ (And.intro (aNameR _) ?_); conv => whnf) | ((with_reducible refine GOr.l ?_); (conv => whnf); refine Exists.intro _ (And.intro (chainI (aNameR _)) ?_); conv => whnf) | ((with_reducible refine GOr.l ?_); (conv => whnf); refine Exists.intro _ (And.intro (chainI (aWordR _)) ?_); conv => whnf) | (refine And.intro (fun h => ?_) (fun h => ?_) <;> (first | skip) <;> (first | (conv => whnf))) | ((with_reducible refine xc_pure ?_); conv => whnf))
 all_goals
  refine leB ?_
  try simp only [str_empty]
  unfold okAd
  generalize (a.s.size == 0) = z at *
  simp_all
 all_goals grind
theorem aCheckKR (k : Ky) (hn : 0 ≤ k.n) : ACall Tryz.prog gl 51 [.ag (cKy k)] [] (boolA (okKy k)) := by
 refine acall_of_vc htb hmix (f := 51) rfl rfl rfl (by kernel_rfl) rfl rfl ?_; conv => whnf
 repeat' (first | (refine Exists.intro _ (And.intro (aCheckAR k.a) ?_); conv => whnf) | ((with_reducible refine xc_pure ?_); conv => whnf))
 refine leB ?_
 have e : decide (k.n > 0) = !(k.n == 0) := by
  by_cases h : k.n = 0
  ·rw [h]; rfl
  ·have : k.n > 0 := by omega
   simp [h, this]
 rw [e]
 unfold okKy
 cases okAd k.a <;> cases (k.n == 0) <;> rfl
end Go.Proofs.YthaaemhkdefidaaGreatDoor

namespace Go.Proofs.YthaaemhkdefidaaGreatDoor
set_option linter.unusedSimpArgs false
set_option linter.unusedVariables false
set_option maxRecDepth 100000
set_option maxHeartbeats 8000000
open Go Go.VA
section
variable (s : ByteArray)
end
end Go.Proofs.YthaaemhkdefidaaGreatDoor

namespace Go.Proofs.YthaaemhkdefidaaGreatDoor
set_option linter.unusedSimpArgs false
set_option linter.unusedVariables false
set_option maxRecDepth 100000
set_option maxHeartbeats 8000000
open Go Go.VA
/-! ### Keys: what is read is what the document says -/
end Go.Proofs.YthaaemhkdefidaaGreatDoor

namespace Go.Proofs.YthaaemhkdefidaaGreatDoor
set_option linter.unusedSimpArgs false
set_option linter.unusedVariables false
set_option maxRecDepth 100000
set_option maxHeartbeats 8000000
open Go Go.VA
/-! ### a key that was laid is read as it was -/
end Go.Proofs.YthaaemhkdefidaaGreatDoor
