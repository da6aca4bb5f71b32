/- Contracts of functions of the program, and the laws that stand on them: what each function answers, whatever its arguments. -/
import Derived.Test.YtcgcamfhollnlaaGreatDoorA4
import Derived.Test.YtcgcamfhollnlaaGreatDoorC8
import Derived.Test.YtcgcamfhollnlaaGreatDoorC17
set_option linter.unusedSectionVars false
set_option linter.unnecessarySimpa false
namespace Go.Proofs.YtcgcamfhollnlaaGreatDoor
set_option linter.unusedSimpArgs false
set_option linter.unusedVariables false
set_option maxRecDepth 100000
set_option maxHeartbeats 8000000
open Go Go.VA
theorem aSmallR (c : Int) : ACall Tryz.prog gl 86 [intA .u8 c] [] (boolA (smZ c)) := by
  refine acall_of_vc htb hmix (f := 86) rfl rfl rfl (by kernel_rfl) rfl rfl ?_; conv => whnf
  repeat' (fail)
  exact leB rfl
theorem spell_split {p : Int → Bool} {s : ByteArray} (h1 : ¬ (s.size : Int) < 1) (h2 : ¬ (s.size : Int) > 24) : spell p s = allB p s := by
  unfold spell
  have a : (s.size == 0) = false := beq_eq_false_iff_ne.2 (by omega)
  have b : s.size ≤ 24 := by omega
  simp [a, b]
theorem allB_t {p : Int → Bool} {s : ByteArray} (h : ∀ j, j < s.size → p (byteN s j) = true) : allB p s = true := by
  unfold allB
  rw [List.all_eq_true]
  intro j hj
  exact h j (by simpa using hj)
theorem allB_f {p : Int → Bool} {s : ByteArray} {c : Nat} (hc : c < s.size) (h : p (byteN s c) = false) : allB p s = false := by
  unfold allB
  rw [List.all_eq_false]
  exact ⟨c, by simpa using hc, by rw [h]; decide⟩
theorem nm_ref (c : Int) : (!smZ c && !(decide (c ≥ 48) && decide (c ≤ 57)) && c != 95) = !nmZ c := by
  unfold nmZ dgZ
  cases smZ c <;> cases (decide (c ≥ 48) && decide (c ≤ 57)) <;> simp [bne]
theorem wd_ref (c : Nat) (h : c < 256) : (!smZ (c : Int) && !(decide ((c : Int) ≥ 65) && decide ((c : Int) ≤ 90)) && !(decide ((c : Int) ≥ 48) && decide ((c : Int) ≤ 57)) && (c : Int) != 95 && (c : Int) != 45 && (c : Int) != 46) = !wdZ (c : Int) := by
  have : ∀ c : Fin 256, (!smZ (c.val : Int) && !(decide ((c.val : Int) ≥ 65) && decide ((c.val : Int) ≤ 90)) && !(decide ((c.val : Int) ≥ 48) && decide ((c.val : Int) ≤ 57)) && (c.val : Int) != 95 && (c.val : Int) != 45 && (c.val : Int) != 46) = !wdZ (c.val : Int) := by decide +kernel
  exact this ⟨c, h⟩
theorem wd_refB (s : ByteArray) (c : Nat) : (!smZ (byteN s c) && !(decide (byteN s c ≥ 65) && decide (byteN s c ≤ 90)) && !(decide (byteN s c ≥ 48) && decide (byteN s c ≤ 57)) && byteN s c != 95 && byteN s c != 45 && byteN s c != 46) = !wdZ (byteN s c) := by
  have e : ((byteN s c).toNat : Int) = byteN s c := by have := byteN_lt s c; omega
  have := wd_ref (byteN s c).toNat (by have := byteN_lt s c; omega)
  rwa [e] at this
theorem aNameR (s : ByteArray) : ACall Tryz.prog gl 64 [.c (.v (.string s))] [] (boolA (nameB s)) := by
  by_cases hA : (s.size : Int) < 1
  · have hn : nameB s = false := by unfold nameB spell; have : s.size = 0 := by omega
                                    simp [this]
    rw [hn]
    have hq : decide ((s.size : Int) < 1) = true := by simpa using hA
    have hB : (decide ((s.size : Int) < 1) || decide ((s.size : Int) > 24)) = false → (0 : Int) ≤ 0 ∧ (0 : Int) < s.size := fun h => by rw [hq] at h; simp at h
    refine acall_of_vc htb hmix (f := 64) rfl rfl rfl (by kernel_rfl) rfl rfl ?_; conv => whnf
    repeat' (first | ((with_reducible refine GOr.l ?_); (conv => whnf); refine Exists.intro _ (And.intro (chainI (aSmallR _)) ?_); conv => whnf) | (refine And.intro (fun h => ?_) (fun h => ?_) <;> (first | skip) <;> (first | (conv => whnf))) | (refine And.intro ?_ ?_; (focus (first | (first | exact hB | fail) | fail)); conv => whnf) | fail)
    · exact leB rfl
    · rw [hq] at h; simp at h
  · by_cases hC : (s.size : Int) > 24
    · have hn : nameB s = false := by unfold nameB spell; have : ¬ s.size ≤ 24 := by omega
                                      simp [this]
      rw [hn]
      have hq : decide ((s.size : Int) > 24) = true := by simpa using hC
      have hB : (decide ((s.size : Int) < 1) || decide ((s.size : Int) > 24)) = false → (0 : Int) ≤ 0 ∧ (0 : Int) < s.size := fun h => by rw [hq] at h; simp at h
      refine acall_of_vc htb hmix (f := 64) rfl rfl rfl (by kernel_rfl) rfl rfl ?_; conv => whnf
      repeat' (first | ((with_reducible refine GOr.l ?_); (conv => whnf); refine Exists.intro _ (And.intro (chainI (aSmallR _)) ?_); conv => whnf) | (refine And.intro (fun h => ?_) (fun h => ?_) <;> (first | skip) <;> (first | (conv => whnf))) | (refine And.intro ?_ ?_; (focus (first | (first | exact hB | fail) | fail)); conv => whnf) | fail)
      · exact leB rfl
      · rw [hq] at h; simp at h
    · have hn : nameB s = (allB nmZ s && smZ (byteN s 0)) := by unfold nameB; rw [spell_split hA hC]
      have hB : (decide ((s.size : Int) < 1) || decide ((s.size : Int) > 24)) = false → (0 : Int) ≤ 0 ∧ (0 : Int) < s.size := fun h => by omega
      rw [hn]
      refine acall_of_vc htb hmix (f := 64) rfl rfl rfl (by kernel_rfl) rfl rfl ?_; conv => whnf
      repeat' (first | ((with_reducible refine GOr.l ?_); (conv => whnf); refine Exists.intro _ (And.intro (chainI (aSmallR _)) ?_); conv => whnf) | (refine And.intro (fun h => ?_) (fun h => ?_) <;> (first | skip) <;> (first | (conv => whnf))) | (refine And.intro ?_ ?_; (focus (first | (first | exact hB | fail) | fail)); conv => whnf) | fail)
      · have q1 : decide ((s.size : Int) < 1) = false := by simpa using hA
        have q2 : decide ((s.size : Int) > 24) = false := by simpa using hC
        rw [q1, q2] at h
        have h : (!smZ (byteN s 0)) = true := h
        refine leB ?_
        have : smZ (byteN s 0) = false := by simpa using h
        rw [this]; simp
      · have q1 : decide ((s.size : Int) < 1) = false := by simpa using hA
        have q2 : decide ((s.size : Int) > 24) = false := by simpa using hC
        rw [q1, q2] at h
        have h : (!smZ (byteN s 0)) = false := h
        have h0 : smZ (byteN s 0) = true := by simpa using h
        refine loopI Nat (fun c => c ≤ s.size ∧ ∀ j, j < c → nmZ (byteN s j) = true) (fun c => [(3, intA .i64 c)]) (fun _ => []) (fun c => s.size - c) 0 ⟨Nat.zero_le _, fun j hj => absurd hj (Nat.not_lt_zero _)⟩ ?_ (fun _ => rfl) fun c ⟨hc, hp⟩ => ?_
        · (refine And.intro ?_ (And.intro ?_ (And.intro ?_ rfl)) <;> (conv => whnf) <;> repeat' (first | exact trivial | exact LeE.of (Le.refl _) | (first | exact rfl | fail) | ((with_reducible refine And.intro ?_ ?_) <;> conv => whnf)))
        · conv => whnf
          repeat' (first | (refine Exists.intro _ (And.intro (aSmallR _) ?_); conv => whnf) | (refine And.intro (fun h => ?_) (fun h => ?_) <;> (first | (with_reducible have hd : _ < _ := of_decide_eq_true h) | (with_reducible have hd : ¬ (_ < _) := of_decide_eq_false h) | skip) <;> (first | (conv => whnf))) | (refine And.intro ?_ ?_; (focus (first | (refine chainI ?_; (first | omega | fail)) | fail)); conv => whnf) | ((with_reducible refine xc_pure ?_); conv => whnf))
          · have hcs : c < s.size := by omega
            have hq : (!smZ (byteN s c) && !(decide (byteN s c ≥ 48) && decide (byteN s c ≤ 57)) && byteN s c != 95) = true := h
            rw [nm_ref] at hq
            refine leB ?_
            rw [allB_f hcs (by simpa using hq)]; rfl
          · have hcs : c < s.size := by omega
            have hq : (!smZ (byteN s c) && !(decide (byteN s c ≥ 48) && decide (byteN s c ≤ 57)) && byteN s c != 95) = false := h
            rw [nm_ref] at hq
            refine ⟨c + 1, ⟨hcs, fun j hj => ?_⟩, ?_, by show s.size - (c + 1) < s.size - c; omega⟩
            · rcases Nat.lt_or_ge j c with h2 | h2
              · exact hp j h2
              · obtain rfl : j = c := by omega
                simpa using hq
            · (refine And.intro ?_ (And.intro ?_ (And.intro ?_ rfl)) <;> (conv => whnf) <;> repeat' (first | exact trivial | exact LeE.of (Le.refl _) | (with_reducible refine LeE.of ?_) | (first | exact rfl | exact leI (by first | rfl | (rw [wrap64 (by omega) (by omega)]; omega) | fail) | fail) | ((with_reducible refine And.intro ?_ ?_) <;> conv => whnf)))
          · obtain rfl : c = s.size := by omega
            refine leB ?_
            rw [allB_t hp, h0]; rfl
theorem aWordR (s : ByteArray) : ACall Tryz.prog gl 65 [.c (.v (.string s))] [] (boolA (wordB s)) := by
  refine acall_of_vc htb hmix (f := 65) rfl rfl rfl (by kernel_rfl) rfl rfl ?_; conv => whnf
  repeat' (first | (refine And.intro (fun h => ?_) (fun h => ?_) <;> (first | skip) <;> (first | (conv => whnf))) | fail)
  · refine leB ?_
    unfold wordB spell
    simp only [Bool.or_eq_true, decide_eq_true_eq] at h
    rcases h with h | h
    · have : s.size = 0 := by omega
      simp [this]
    · have : ¬ s.size ≤ 24 := by omega
      simp [this]
  · simp only [Bool.or_eq_false_iff, decide_eq_false_iff_not] at h
    have hw : wordB s = allB wdZ s := spell_split h.1 h.2
    rw [hw]
    refine loopI Nat (fun c => c ≤ s.size ∧ ∀ j, j < c → wdZ (byteN s j) = true) (fun c => [(3, intA .i64 c)]) (fun _ => []) (fun c => s.size - c) 0 ⟨Nat.zero_le _, fun j hj => absurd hj (Nat.not_lt_zero _)⟩ ?_ (fun _ => rfl) fun c ⟨hc, hp⟩ => ?_
    · (refine And.intro ?_ (And.intro ?_ (And.intro ?_ rfl)) <;> (conv => whnf) <;> repeat' (first | exact trivial | exact LeE.of (Le.refl _) | (first | exact rfl | fail) | ((with_reducible refine And.intro ?_ ?_) <;> conv => whnf)))
    · conv => whnf
      repeat' (first | (refine Exists.intro _ (And.intro (aSmallR _) ?_); conv => whnf) | (refine And.intro (fun h => ?_) (fun h => ?_) <;> (first | (with_reducible have hd : _ < _ := of_decide_eq_true h) | (with_reducible have hd : ¬ (_ < _) := of_decide_eq_false h) | skip) <;> (first | (conv => whnf))) | (refine And.intro ?_ ?_; (focus (first | (refine chainI ?_; (first | omega | fail)) | fail)); conv => whnf) | ((with_reducible refine xc_pure ?_); conv => whnf))
      · have hcs : c < s.size := by omega
        have hq : (!smZ (byteN s c) && !(decide (byteN s c ≥ 65) && decide (byteN s c ≤ 90)) && !(decide (byteN s c ≥ 48) && decide (byteN s c ≤ 57)) && byteN s c != 95 && byteN s c != 45 && byteN s c != 46) = true := h
        rw [wd_refB] at hq
        refine leB ?_
        rw [allB_f hcs (by simpa using hq)]
      · have hcs : c < s.size := by omega
        have hq : (!smZ (byteN s c) && !(decide (byteN s c ≥ 65) && decide (byteN s c ≤ 90)) && !(decide (byteN s c ≥ 48) && decide (byteN s c ≤ 57)) && byteN s c != 95 && byteN s c != 45 && byteN s c != 46) = false := h
        rw [wd_refB] at hq
        refine ⟨c + 1, ⟨hcs, fun j hj => ?_⟩, ?_, by show s.size - (c + 1) < s.size - c; omega⟩
        · rcases Nat.lt_or_ge j c with h2 | h2
          · exact hp j h2
          · obtain rfl : j = c := by omega
            simpa using hq
        · (refine And.intro ?_ (And.intro ?_ (And.intro ?_ rfl)) <;> (conv => whnf) <;> repeat' (first | exact trivial | exact LeE.of (Le.refl _) | (with_reducible refine LeE.of ?_) | (first | exact rfl | exact leI (by first | rfl | (rw [wrap64 (by omega) (by omega)]; omega) | fail) | fail) | ((with_reducible refine And.intro ?_ ?_) <;> conv => whnf)))
      · obtain rfl : c = s.size := by omega
        refine leB ?_
        rw [allB_t hp]
theorem aCheckAR (a : Ad) : ACall Tryz.prog gl 40 [.ag (cAd a)] [] (boolA (okAd a)) := by
  refine acall_of_vc htb hmix (f := 40) rfl rfl rfl (by kernel_rfl) rfl rfl ?_; conv => whnf
  repeat' (first | (refine Exists.intro _ (And.intro (aNameR _) ?_); conv => whnf) | ((with_reducible refine GOr.l ?_); (conv => whnf); refine Exists.intro _ (And.intro (chainI (aNameR _)) ?_); conv => whnf) | ((with_reducible refine GOr.l ?_); (conv => whnf); refine Exists.intro _ (And.intro (chainI (aWordR _)) ?_); conv => whnf) | (refine And.intro (fun h => ?_) (fun h => ?_) <;> (first | skip) <;> (first | (conv => whnf))) | ((with_reducible refine xc_pure ?_); conv => whnf))
  all_goals
    refine leB ?_
    try simp only [str_empty]
    unfold okAd
    generalize (a.s.size == 0) = z at *
    simp_all
  all_goals grind
theorem aCheckKR (k : Ky) (hn : 0 ≤ k.n) : ACall Tryz.prog gl 21 [.ag (cKy k)] [] (boolA (okKy k)) := by
  refine acall_of_vc htb hmix (f := 21) rfl rfl rfl (by kernel_rfl) rfl rfl ?_; conv => whnf
  repeat' (first | (refine Exists.intro _ (And.intro (aCheckAR k.a) ?_); conv => whnf) | ((with_reducible refine xc_pure ?_); conv => whnf))
  refine leB ?_
  have e : decide (k.n > 0) = !(k.n == 0) := by
    by_cases h : k.n = 0
    · rw [h]; rfl
    · have : k.n > 0 := by omega
      simp [h, this]
  rw [e]
  unfold okKy
  cases okAd k.a <;> cases (k.n == 0) <;> rfl
end Go.Proofs.YtcgcamfhollnlaaGreatDoor

namespace Go.Proofs.YtcgcamfhollnlaaGreatDoor
set_option linter.unusedSimpArgs false
set_option linter.unusedVariables false
set_option maxRecDepth 100000
set_option maxHeartbeats 8000000
open Go Go.VA
section
variable (s : ByteArray)
def dK1 : ByteArray × Int × Int := gStr s 0 s.size 24
def dK2 : ByteArray × Int × Int := gStr s (dK1 s).2.1.toNat (s.size - (dK1 s).2.1.toNat) 24
def dA2 : Int := IntKind.i64.wrap ((dK1 s).2.1 + (dK2 s).2.1)
def dB : Int := IntKind.i64.wrap (byteN s (dA2 s).toNat)
def dA3 : Int := IntKind.i64.wrap (dA2 s + 1)
def dN : Int × Int × Int := gS s (dA3 s).toNat (s.size - (dA3 s).toNat) 0 0
def dX : ByteArray × Int × Int := gStr s (dA3 s).toNat (s.size - (dA3 s).toNat) 24
def dR (a : Int) : Int × Int × Int := gS s a.toNat (s.size - a.toNat) 0 0
def dFin (k i : Int) (x : ByteArray) (a : Int) : Ky × Int × Int :=
  if (dR s a).2.2 != 0 then (ky0, 0, (dR s a).2.2) else if decide (i > 1000) || decide ((dR s a).1 > 4294967295) then (ky0, 0, 4)
  else if !okKy ⟨⟨(dK1 s).1, (dK2 s).1, k, IntKind.i64.wrap i, x⟩, IntKind.u32.wrap (dR s a).1⟩ then (ky0, 0, 4)
  else (⟨⟨(dK1 s).1, (dK2 s).1, k, IntKind.i64.wrap i, x⟩, IntKind.u32.wrap (dR s a).1⟩, IntKind.i64.wrap (a + (dR s a).2.1), 0)
def dKy : Ky × Int × Int :=
  if (dK1 s).2.2 != 0 then (ky0, 0, (dK1 s).2.2) else if (dK2 s).2.2 != 0 then (ky0, 0, (dK2 s).2.2)
  else if decide (dA2 s ≥ s.size) then (ky0, 0, 2) else if decide (dB s > 2) then (ky0, 0, 4)
  else if dB s == 1 then (if (dN s).2.2 != 0 then (ky0, 0, (dN s).2.2) else dFin s (dB s) (dN s).1 ByteArray.empty (IntKind.i64.wrap (dA3 s + (dN s).2.1)))
  else if dB s == 2 then (if (dX s).2.2 != 0 then (ky0, 0, (dX s).2.2) else dFin s (dB s) 0 (dX s).1 (IntKind.i64.wrap (dA3 s + (dX s).2.1)))
  else dFin s (dB s) 0 ByteArray.empty (dA3 s)
end
theorem ifT {α : Type} {b : Bool} {x y : α} (h : b = true) : (if b = true then x else y) = x := if_pos h
theorem ifF {α : Type} {b : Bool} {x y : α} (h : b = false) : (if b = true then x else y) = y := if_neg (by rw [h]; decide)
structure DRg (s : ByteArray) : Prop where
  b1 : ((dK1 s).2.2 != 0) = false → 0 ≤ (dK1 s).2.1 ∧ (dK1 s).2.1 ≤ s.size
  e2 : ((dK1 s).2.2 != 0) = false → ((dK2 s).2.2 != 0) = false → dA2 s = (dK1 s).2.1 + (dK2 s).2.1 ∧ 0 ≤ dA2 s ∧ dA2 s ≤ s.size
  e3 : ((dK1 s).2.2 != 0) = false → ((dK2 s).2.2 != 0) = false → decide (dA2 s ≥ s.size) = false → dA3 s = dA2 s + 1 ∧ 0 ≤ dA2 s ∧ dA2 s < s.size ∧ 0 ≤ dA3 s ∧ dA3 s ≤ s.size
  e4 : ((dK1 s).2.2 != 0) = false → ((dK2 s).2.2 != 0) = false → decide (dA2 s ≥ s.size) = false → ((dN s).2.2 != 0) = false → IntKind.i64.wrap (dA3 s + (dN s).2.1) = dA3 s + (dN s).2.1 ∧ 0 ≤ dA3 s + (dN s).2.1 ∧ dA3 s + (dN s).2.1 ≤ s.size
  e5 : ((dK1 s).2.2 != 0) = false → ((dK2 s).2.2 != 0) = false → decide (dA2 s ≥ s.size) = false → ((dX s).2.2 != 0) = false → IntKind.i64.wrap (dA3 s + (dX s).2.1) = dA3 s + (dX s).2.1 ∧ 0 ≤ dA3 s + (dX s).2.1 ∧ dA3 s + (dX s).2.1 ≤ s.size
theorem dRg {s : ByteArray} (hs : s.size ≤ 140737488355328) : DRg s := by
  have b1 : ((dK1 s).2.2 != 0) = false → 0 ≤ (dK1 s).2.1 ∧ (dK1 s).2.1 ≤ s.size := fun h => by
    have hz : (dK1 s).2.2 = 0 := by simpa using h
    exact (gStr_ok s 0 s.size 24).1 hz
  have e2 : ((dK1 s).2.2 != 0) = false → ((dK2 s).2.2 != 0) = false → dA2 s = (dK1 s).2.1 + (dK2 s).2.1 ∧ 0 ≤ dA2 s ∧ dA2 s ≤ s.size := fun h1 h2 => by
    have q1 := b1 h1
    have hz : (dK2 s).2.2 = 0 := by simpa using h2
    have q2 := (gStr_ok s (dK1 s).2.1.toNat (s.size - (dK1 s).2.1.toNat) 24).1 hz
    change 0 ≤ (dK2 s).2.1 ∧ (dK2 s).2.1 ≤ ((s.size - (dK1 s).2.1.toNat : Nat) : Int) at q2
    have : dA2 s = (dK1 s).2.1 + (dK2 s).2.1 := wrap64 (by omega) (by omega)
    omega
  have e3 : ((dK1 s).2.2 != 0) = false → ((dK2 s).2.2 != 0) = false → decide (dA2 s ≥ s.size) = false → dA3 s = dA2 s + 1 ∧ 0 ≤ dA2 s ∧ dA2 s < s.size ∧ 0 ≤ dA3 s ∧ dA3 s ≤ s.size := fun h1 h2 h3 => by
    have q2 := e2 h1 h2
    simp only [ge_iff_le, decide_eq_false_iff_not] at h3
    have : dA3 s = dA2 s + 1 := wrap64 (by omega) (by omega)
    omega
  refine ⟨b1, e2, e3, fun h1 h2 h3 h4 => ?_, fun h1 h2 h3 h4 => ?_⟩
  · have q3 := e3 h1 h2 h3
    have hz : (dN s).2.2 = 0 := by simpa using h4
    have q4 := gS_ok s (dA3 s).toNat (s.size - (dA3 s).toNat) 0 0 (Int.le_refl 0) hz
    change ((0 : Nat) : Int) < (dN s).2.1 ∧ (dN s).2.1 ≤ ((0 : Nat) : Int) + ((s.size - (dA3 s).toNat : Nat) : Int) ∧ _ at q4
    have : IntKind.i64.wrap (dA3 s + (dN s).2.1) = dA3 s + (dN s).2.1 := wrap64 (by omega) (by omega)
    omega
  · have q3 := e3 h1 h2 h3
    have hz : (dX s).2.2 = 0 := by simpa using h4
    have q4 := (gStr_ok s (dA3 s).toNat (s.size - (dA3 s).toNat) 24).1 hz
    change 0 ≤ (dX s).2.1 ∧ (dX s).2.1 ≤ ((s.size - (dA3 s).toNat : Nat) : Int) at q4
    have : IntKind.i64.wrap (dA3 s + (dX s).2.1) = dA3 s + (dX s).2.1 := wrap64 (by omega) (by omega)
    omega
theorem aGetKyR (t : Bool) (s : ByteArray) : ACall Tryz.prog gl 28 [.c (.sl t 1 s.size (strCells s))] [] (.tup [.ag (cKy (dKy s).1), intA .i64 (dKy s).2.1, intA .i64 (dKy s).2.2]) := by
  refine acall_of_vcb htb hmix (f := 28) rfl rfl rfl (by kernel_rfl) rfl rfl fun hb => ?_; simp only [bndAll, AV.bnd, bnds, C.bnd, cVt, cS, true_and, and_true] at hb; conv => whnf
  have hn : s.size ≤ 140737488355328 := hb.1
  have R := dRg hn
  have b1 := R.b1
  have b2 := fun h1 h2 h3 => (show 0 ≤ dA2 s ∧ dA2 s < s.size from ⟨(R.e3 h1 h2 h3).2.1, (R.e3 h1 h2 h3).2.2.1⟩)
  have b3 := fun h1 h2 h3 => (R.e3 h1 h2 h3).2.2.2
  have b4 := fun h1 h2 h3 h4 => (show 0 ≤ IntKind.i64.wrap (dA3 s + (dN s).2.1) ∧ IntKind.i64.wrap (dA3 s + (dN s).2.1) ≤ s.size from by have := R.e4 h1 h2 h3 h4; omega)
  have b5 := fun h1 h2 h3 h4 => (show 0 ≤ IntKind.i64.wrap (dA3 s + (dX s).2.1) ∧ IntKind.i64.wrap (dA3 s + (dX s).2.1) ≤ s.size from by have := R.e5 h1 h2 h3 h4; omega)
  have k12 : (dB s == 1) = true → (dB s == 2) = true → False := fun h1 h2 => absurd (eq_of_beq h1) (by rw [eq_of_beq h2]; decide)
  have wu : 0 ≤ IntKind.u32.wrap 0 := by decide
  have G0 : ACall Tryz.prog gl 54 [.c (.sl t 1 s.size (strCells s)), intA .i64 24] [] (.tup [.c (.v (.string (dK1 s).1)), intA .i64 (dK1 s).2.1, intA .i64 (dK1 s).2.2]) := (aGetStrR t s.size s 0 24).le ⟨leSl rfl (fun i _ => by rw [Nat.zero_add]), Le.refl _, trivial⟩
  have CK := fun k h => aCheckKR k h
  repeat' (first | (refine Exists.intro _ (And.intro (G0) ?_); conv => whnf) | (refine Exists.intro _ (And.intro (aGetStrR _ _ _ _ _) ?_); conv => whnf) | (refine Exists.intro _ (And.intro (aShortR _ _ _ _) ?_); conv => whnf) | (refine Exists.intro _ (And.intro (aCheckKR ⟨⟨_, _, _, _, _⟩, _⟩ (Int.emod_nonneg _ (by decide))) ?_); conv => whnf) | (refine And.intro (fun h => ?_) (fun h => ?_) <;> (first | (with_reducible have hd : _ < _ := of_decide_eq_true h) | (with_reducible have hd : _ ≤ _ := of_decide_eq_true h) | (with_reducible have hd : ¬ (_ < _) := of_decide_eq_false h) | (with_reducible have hd : ¬ (_ ≤ _) := of_decide_eq_false h) | skip) <;> (first | exact (k12 (by assumption) h).elim | (conv => whnf))) | (refine And.intro ?_ ?_; (focus (first | (first | exact b1 (by assumption) | exact b2 (by assumption) (by assumption) (by assumption) | exact b3 (by assumption) (by assumption) (by assumption) | exact b4 (by assumption) (by assumption) (by assumption) (by assumption) | exact b5 (by assumption) (by assumption) (by assumption) (by assumption) | fail) | fail)); conv => whnf) | ((with_reducible refine xc_pure ?_); conv => whnf))
  all_goals unfold dKy dFin
  all_goals repeat (first | (rw [ifT]; rotate_left; (focus assumption)) | (rw [ifF]; rotate_left; (focus assumption)))
  all_goals exact Le.refl _
end Go.Proofs.YtcgcamfhollnlaaGreatDoor

namespace Go.Proofs.YtcgcamfhollnlaaGreatDoor
set_option linter.unusedSimpArgs false
set_option linter.unusedVariables false
set_option maxRecDepth 100000
set_option maxHeartbeats 8000000
open Go Go.VA
theorem and_max (i : Int) (h0 : 0 ≤ i) (h : i ≤ 9223372036854775807) : bitsI .and .u64 i 9223372036854775807 = i := by
  obtain ⟨n, rfl⟩ := Int.eq_ofNat_of_zero_le h0
  unfold bitsI
  show IntKind.u64.wrap (((BitVec.ofInt 64 (n : Int) &&& BitVec.ofInt 64 9223372036854775807).toNat : Nat) : Int) = _
  rw [BitVec.toNat_and, ofNat64 _ (by omega), show (BitVec.ofInt 64 9223372036854775807).toNat = 2 ^ 63 - 1 from by decide, Nat.and_two_pow_sub_one_eq_mod, Nat.mod_eq_of_lt (by omega)]
  exact wrapU (by omega) (by omega)
theorem gS_nn (s : ByteArray) (k : Nat) : ∀ (m i : Nat) (acc : Int), 0 ≤ acc → 0 ≤ (gS s k m i acc).1
  | 0, _, _, _ => Int.le_refl 0
  | m + 1, i, acc, h => by
    simp only [gS]
    split
    · exact Int.le_refl 0
    · split
      · split
        · exact Int.le_refl 0
        · exact gSt_nn _ _ _
      · exact gS_nn s k m (i + 1) _ (gSt_nn _ _ _)
theorem rTx_bad {s : ByteArray} {a b : Int} (h : (b != 0) = true) : rTx s a b = (ByteArray.empty, a, b) := by unfold rTx; rw [if_pos h]
theorem rKd_bad {s : ByteArray} {a b : Int} (h : (b != 0) = true) : rKd s a b = (0, a, b) := by unfold rKd; rw [if_pos h]
theorem rSh_bad {s : ByteArray} {a b : Int} (h : (b != 0) = true) : rShort s a b = (0, a, b) := by unfold rShort; rw [if_pos h]
theorem rTx_go (s : ByteArray) (a : Int) : rTx s a 0 = ((gStr s a.toNat (s.size - a.toNat) 24).1, a + (gStr s a.toNat (s.size - a.toNat) 24).2.1, (gStr s a.toNat (s.size - a.toNat) 24).2.2) := by unfold rTx; rw [if_neg (by decide)]
theorem rSh_go (s : ByteArray) (a : Int) : rShort s a 0 = ((dR s a).1, a + (dR s a).2.1, (dR s a).2.2) := by unfold rShort; rw [if_neg (by decide)]; rfl
theorem rKd_go (s : ByteArray) (a : Int) : rKd s a 0 = if decide (a ≥ s.size) then (0, a + 1, 2) else (byteAt s a, a + 1, if decide (byteAt s a > 2) then 4 else 0) := by unfold rKd; rw [if_neg (by decide)]
theorem gK1_eq (s : ByteArray) : gK1 s = ((dK1 s).1, (dK1 s).2.1, (dK1 s).2.2) := by
  unfold gK1
  rw [rTx_go]
  show (_, 0 + (dK1 s).2.1, _) = _
  rw [Int.zero_add]; rfl
theorem z0 {x : Int} (h : (x != 0) = false) : x = 0 := by simpa using h
theorem gKy_err {s : ByteArray} (h : ((gK3 s).2.2 != 0) = true) (h1 : ((gK3 s).1 == 1) = false) (h2 : ((gK3 s).1 == 2) = false) : gKyA s = (ky0, 0, (gK3 s).2.2) := by
  rw [gKyA_0 h1 h2]
  have e : gK4 s = (0, (gK3 s).2.1, (gK3 s).2.2) := rSh_bad h
  rw [e]
  exact kyFin_e h
theorem fin_law {s : ByteArray} (hs : s.size ≤ 140737488355328) {k i I a : Int} {x : ByteArray} (h0 : 0 ≤ i) (hI : i ≤ 1000 → I = IntKind.i64.wrap i) (hbig : 1000 < i → i ≤ 9223372036854775807 → 128 ≤ I) (ha : 0 ≤ a ∧ a ≤ s.size) :
    kyFin ⟨⟨(dK1 s).1, (dK2 s).1, k, I, x⟩, IntKind.u32.wrap (dR s a).1⟩ i (dR s a).1 (a + (dR s a).2.1) (dR s a).2.2 = dFin s k i x a := by
  unfold kyFin dFin
  by_cases he : ((dR s a).2.2 != 0) = true
  · rw [if_pos he, if_pos he]
  · rw [if_neg he, if_neg he]
    have he0 : (dR s a).2.2 = 0 := by simpa using he
    by_cases hi : i > 1000
    · rw [if_pos (show (decide (i > 1000) || decide ((dR s a).1 > 4294967295)) = true by simp [hi])]
      refine if_pos ?_
      by_cases hm : i > 9223372036854775807
      · simp [hm]
      · have hI2 := hbig hi (by omega)
        have : okKy ⟨⟨(dK1 s).1, (dK2 s).1, k, I, x⟩, IntKind.u32.wrap (dR s a).1⟩ = false := by
          rw [Bool.eq_false_iff]
          intro hk
          have := (okKy_le hk).1.2.2.2.2.2.2
          have : I < 128 := this
          omega
        rw [this]; simp
    · have hI1 := hI (by omega)
      subst hI1
      have q1 : decide (i > 9223372036854775807) = false := by simp; omega
      have q2 : decide (i > 1000) = false := by simp; omega
      have q := gS_ok s a.toNat (s.size - a.toNat) 0 0 (Int.le_refl 0) he0
      change ((0 : Nat) : Int) < (dR s a).2.1 ∧ (dR s a).2.1 ≤ ((0 : Nat) : Int) + ((s.size - a.toNat : Nat) : Int) ∧ _ at q
      rw [wrap64 (n := a + (dR s a).2.1) (by omega) (by omega), q1, q2]
      by_cases hn : (dR s a).1 > 4294967295
      · rw [if_pos (by simp [hn]), if_pos (by simp [hn])]
      · have qn : decide ((dR s a).1 > 4294967295) = false := by simpa using hn
        rw [qn]
        simp only [Bool.or_self, Bool.false_or, Bool.false_eq_true, if_false]
theorem ky_eq {s : ByteArray} (hs : s.size ≤ 140737488355328) : gKyA s = dKy s := by
  have R := dRg hs
  have e1 := gK1_eq s
  unfold dKy
  by_cases h1 : ((dK1 s).2.2 != 0) = true
  · rw [ifT h1]
    have e2 : gK2 s = (ByteArray.empty, (dK1 s).2.1, (dK1 s).2.2) := by unfold gK2; rw [e1]; exact rTx_bad h1
    have e3 : gK3 s = (0, (dK1 s).2.1, (dK1 s).2.2) := by unfold gK3; rw [e2]; exact rKd_bad h1
    rw [gKy_err (by rw [e3]; exact h1) (by rw [e3]; rfl) (by rw [e3]; rfl), e3]
  have h1 : ((dK1 s).2.2 != 0) = false := by simpa using h1
  rw [ifF h1]
  have e2 : gK2 s = ((dK2 s).1, (dK1 s).2.1 + (dK2 s).2.1, (dK2 s).2.2) := by unfold gK2; rw [e1]; show rTx s (dK1 s).2.1 (dK1 s).2.2 = _; rw [z0 h1, rTx_go]; rfl
  by_cases h2 : ((dK2 s).2.2 != 0) = true
  · rw [ifT h2]
    have e3 : gK3 s = (0, (dK1 s).2.1 + (dK2 s).2.1, (dK2 s).2.2) := by unfold gK3; rw [e2]; exact rKd_bad h2
    rw [gKy_err (by rw [e3]; exact h2) (by rw [e3]; rfl) (by rw [e3]; rfl), e3]
  have h2 : ((dK2 s).2.2 != 0) = false := by simpa using h2
  rw [ifF h2]
  have a2 := (R.e2 h1 h2).1
  have e3 : gK3 s = if decide (dA2 s ≥ s.size) then (0, dA2 s + 1, 2) else (byteAt s (dA2 s), dA2 s + 1, if decide (byteAt s (dA2 s) > 2) then 4 else 0) := by
    unfold gK3; rw [e2]; show rKd s ((dK1 s).2.1 + (dK2 s).2.1) (dK2 s).2.2 = _; rw [← a2, z0 h2, rKd_go]
  by_cases h3 : decide (dA2 s ≥ s.size) = true
  · rw [ifT h3]
    rw [ifT h3] at e3
    rw [gKy_err (by rw [e3]; rfl) (by rw [e3]; rfl) (by rw [e3]; rfl), e3]
  have h3 : decide (dA2 s ≥ s.size) = false := by simpa using h3
  rw [ifF h3]
  rw [ifF h3] at e3
  have q3 := R.e3 h1 h2 h3
  have hb := byteN_lt s (dA2 s).toNat
  have eB : dB s = byteAt s (dA2 s) := wrap64 (by omega) (by omega)
  rw [← eB, ← q3.1] at e3
  by_cases h4 : decide (dB s > 2) = true
  · rw [ifT h4]
    rw [ifT h4] at e3
    have h4' := of_decide_eq_true h4
    rw [gKy_err (by rw [e3]; rfl) (by rw [e3]; exact beq_eq_false_iff_ne.2 (by show dB s ≠ 1; omega)) (by rw [e3]; exact beq_eq_false_iff_ne.2 (by show dB s ≠ 2; omega)), e3]
  have h4 : decide (dB s > 2) = false := by simpa using h4
  rw [ifF h4]
  rw [ifF h4] at e3
  have e4 : gK4 s = ((dN s).1, dA3 s + (dN s).2.1, (dN s).2.2) := by unfold gK4; rw [e3]; exact rSh_go s _
  have e5 : gK5 s = ((dX s).1, dA3 s + (dX s).2.1, (dX s).2.2) := by unfold gK5; rw [e3]; exact rTx_go s _
  have n1 : (gK1 s).1 = (dK1 s).1 := by rw [e1]
  have n2 : (gK2 s).1 = (dK2 s).1 := by rw [e2]
  have n3 : (gK3 s).1 = dB s := by rw [e3]
  by_cases h5 : (dB s == 1) = true
  · rw [ifT h5, gKyA_1 (by rw [n3]; exact h5), n1, n2, n3, e4]
    have q := gS_nn s (dA3 s).toNat (s.size - (dA3 s).toNat) 0 0 (Int.le_refl 0)
    change 0 ≤ (dN s).1 at q
    by_cases h6 : ((dN s).2.2 != 0) = true
    · rw [ifT h6]
      show kyFin _ _ (rShort s _ (dN s).2.2).1 (rShort s _ (dN s).2.2).2.1 (rShort s _ (dN s).2.2).2.2 = _
      rw [rSh_bad h6]
      exact kyFin_e h6
    · have h6 : ((dN s).2.2 != 0) = false := by simpa using h6
      rw [ifF h6]
      have q6 := R.e4 h1 h2 h3 h6
      rw [q6.1]
      show kyFin ⟨⟨_, _, _, _, _⟩, IntKind.u32.wrap (rShort s (dA3 s + (dN s).2.1) (dN s).2.2).1⟩ _ (rShort s _ (dN s).2.2).1 (rShort s _ (dN s).2.2).2.1 (rShort s _ (dN s).2.2).2.2 = _
      rw [z0 h6, rSh_go]
      refine fin_law hs q (fun h => by rw [and_max _ q (by omega)]) (fun h h' => by rw [and_max _ q h', wrap64 (by omega) (by omega)]; omega) q6.2
  have h5 : (dB s == 1) = false := by simpa using h5
  rw [ifF h5]
  by_cases h7 : (dB s == 2) = true
  · rw [ifT h7, gKyA_2 (by rw [n3]; exact h5) (by rw [n3]; exact h7), n1, n2, n3, e5]
    by_cases h6 : ((dX s).2.2 != 0) = true
    · rw [ifT h6]
      show kyFin _ _ (rShort s _ (dX s).2.2).1 (rShort s _ (dX s).2.2).2.1 (rShort s _ (dX s).2.2).2.2 = _
      rw [rSh_bad h6]
      exact kyFin_e h6
    · have h6 : ((dX s).2.2 != 0) = false := by simpa using h6
      rw [ifF h6]
      have q6 := R.e5 h1 h2 h3 h6
      rw [q6.1]
      show kyFin ⟨⟨_, _, _, _, _⟩, IntKind.u32.wrap (rShort s (dA3 s + (dX s).2.1) (dX s).2.2).1⟩ _ (rShort s _ (dX s).2.2).1 (rShort s _ (dX s).2.2).2.1 (rShort s _ (dX s).2.2).2.2 = _
      rw [z0 h6, rSh_go]
      exact fin_law hs (Int.le_refl 0) (fun _ => rfl) (fun h => absurd h (by decide)) q6.2
  have h7 : (dB s == 2) = false := by simpa using h7
  rw [ifF h7, gKyA_0 (by rw [n3]; exact h5) (by rw [n3]; exact h7), n1, n2, n3]
  have e4' : gK4 s = ((dR s (dA3 s)).1, dA3 s + (dR s (dA3 s)).2.1, (dR s (dA3 s)).2.2) := e4
  rw [e4']
  exact fin_law hs (Int.le_refl 0) (fun _ => rfl) (fun h => absurd h (by decide)) q3.2.2.2
end Go.Proofs.YtcgcamfhollnlaaGreatDoor

namespace Go.Proofs.YtcgcamfhollnlaaGreatDoor
set_option linter.unusedSimpArgs false
set_option linter.unusedVariables false
set_option maxRecDepth 100000
set_option maxHeartbeats 8000000
open Go Go.VA
theorem rTx_back (s t : ByteArray) (a : Nat) (ht : t.size ≤ 24) (h : AtL s a (strL t)) : rTx s (a : Int) 0 = (t, ((a + (strL t).length : Nat) : Int), 0) := by
  have h1 : AtL s a (shortL t.size) := h.left
  have h2 : AtL s (a + (shortL t.size).length) (bytesL t) := h.right
  have hg := gSx_back s a t.size (by omega) h1
  have hl := h2.1
  rw [bytesL_len] at hl
  unfold gSx at hg
  rw [Int.toNat_natCast] at hg
  unfold rTx gStr
  rw [Int.toNat_natCast, hg]
  have w : IntKind.u64.wrap (if (0 : Int) > 24 then 0 else 24) = 24 := rfl
  rw [if_neg (by decide), if_neg (by simp), w, if_neg (by simp; omega), if_neg (by simp; omega)]
  simp only [Int.toNat_natCast]
  rw [subS_back s t _ h2]
  have : (strL t).length = (shortL t.size).length + t.size := by rw [strL, List.length_append, bytesL_len]
  rw [this]
  push_cast
  rfl
theorem rSh_back (s : ByteArray) (a n : Nat) (hn : n < 2 ^ 64) (h : AtL s a (shortL n)) : rShort s (a : Int) 0 = ((n : Int), ((a + (shortL n).length : Nat) : Int), 0) := by
  have hg := gSx_back s a n hn h
  unfold gSx at hg
  unfold rShort
  rw [if_neg (by decide), hg]
  push_cast
  rfl
theorem rKd_back (s : ByteArray) (a : Nat) (x : Int) (h0 : 0 ≤ x) (h2 : x ≤ 2) (h : AtL s a [IntKind.u8.wrap x]) : rKd s (a : Int) 0 = (x, ((a + 1 : Nat) : Int), 0) := by
  have w : IntKind.u8.wrap x = x := by show x % 256 = x; omega
  rw [w] at h
  have hb := h.head
  unfold rKd byteAt
  rw [Int.toNat_natCast, hb.1, if_neg (by decide), if_neg (by simp; omega), if_neg (by simp; omega)]
  rfl
theorem ba_empty {s : ByteArray} (h : s.size = 0) : s = ByteArray.empty := ba_ext h fun i hi => by omega
theorem okAd_0 {a : Ad} (h : okAd a = true) (h0 : a.k = 0) : a.i = 0 ∧ a.s = ByteArray.empty := by
  unfold okAd at h
  simp [h0] at h
  exact ⟨h.1.2, ba_empty (by simpa using h.2)⟩
theorem okAd_1 {a : Ad} (h : okAd a = true) (h0 : a.k = 1) : a.s = ByteArray.empty := by
  unfold okAd at h
  simp [h0] at h
  exact ba_empty (by simpa using h.2)
theorem okAd_2 {a : Ad} (h : okAd a = true) (h0 : a.k = 2) : a.i = 0 := by
  unfold okAd at h
  simp [h0] at h
  exact h.1.2
theorem ky_back (s : ByteArray) (k : Ky) (ho : okKy k = true) (h0 : 0 ≤ k.n) (h1 : k.n ≤ 4294967295) (h : AtL s 0 (kyL k)) : gKyA s = (k, ((kyL k).length : Int), 0) := by
  obtain ⟨⟨z1, z2, z3, z4, z5, z6, z7⟩, z8⟩ := okKy_le ho
  have hoa : okAd k.a = true := by
    unfold okKy at ho
    simp only [Bool.and_eq_true] at ho
    exact ho.2
  have wn : (IntKind.u64.wrap k.n).toNat = k.n.toNat := by rw [wrapU h0 (by omega)]
  have wi : (IntKind.u64.wrap k.a.i).toNat = k.a.i.toNat := by rw [wrapU z6 (by omega)]
  have w32 : IntKind.u32.wrap k.n = k.n := by show k.n % 4294967296 = k.n; omega
  unfold kyL at h
  rw [wn, wi] at h
  have hA := h.left.left.left.left
  have hB := h.left.left.left.right
  have hC := h.left.left.right
  have hD := h.left.right
  have hE := h.right
  have e1 : gK1 s = (k.a.t, ((0 + (strL k.a.t).length : Nat) : Int), 0) := rTx_back s k.a.t 0 z1 hA
  have e2 : gK2 s = (k.a.n, ((0 + (strL k.a.t).length + (strL k.a.n).length : Nat) : Int), 0) := by
    unfold gK2; rw [e1]; exact rTx_back s k.a.n _ z2 hB
  have e3 : gK3 s = (k.a.k, ((0 + (strL k.a.t ++ strL k.a.n).length + 1 : Nat) : Int), 0) := by
    unfold gK3; rw [e2]
    have := rKd_back s _ k.a.k z4 z5 hC
    rw [List.length_append] at this ⊢
    rw [← Nat.add_assoc] at this ⊢
    exact this
  have el : 0 + (strL k.a.t ++ strL k.a.n).length + 1 = 0 + (strL k.a.t ++ strL k.a.n ++ [IntKind.u8.wrap k.a.k]).length := by simp; omega
  have fin : kyFin k (if k.a.k = 1 then k.a.i else 0) k.n ((kyL k).length : Int) 0 = (k, ((kyL k).length : Int), 0) := by
    unfold kyFin
    rw [if_neg (by decide), if_neg]
    have q1 : decide ((if k.a.k = 1 then k.a.i else 0) > 9223372036854775807) = false := by
      split <;> simp <;> omega
    have q2 : decide (k.n > 4294967295) = false := by simp; omega
    rw [q1, q2, ho]; decide
  have elen : ((kyL k).length : Int) = ((0 + (strL k.a.t ++ strL k.a.n ++ [IntKind.u8.wrap k.a.k] ++ (if k.a.k == 1 then shortL k.a.i.toNat else if k.a.k == 2 then strL k.a.s else [])).length + (shortL k.n.toNat).length : Nat) : Int) := by
    unfold kyL
    rw [wn, wi, List.length_append, Nat.zero_add]
  have hk : k.a.k = 0 ∨ k.a.k = 1 ∨ k.a.k = 2 := by omega
  rw [el] at e3
  rw [elen]
  rw [elen] at fin
  have g1 : (gK1 s).1 = k.a.t := by rw [e1]
  have g2 : (gK2 s).1 = k.a.n := by rw [e2]
  have g3 : (gK3 s).1 = k.a.k := by rw [e3]
  have wm : (k.n.toNat : Int) = k.n := Int.toNat_of_nonneg h0
  rcases hk with hk | hk | hk
  · obtain ⟨i0, s0⟩ := okAd_0 hoa hk
    have b1 : (k.a.k == 1) = false := by rw [hk]; rfl
    have b2 : (k.a.k == 2) = false := by rw [hk]; rfl
    simp only [b1, b2, Bool.false_eq_true, if_false, List.append_nil] at hE fin ⊢
    have r4 := rSh_back s _ k.n.toNat (by omega) hE
    have e4 : gK4 s = _ := Eq.trans (by unfold gK4; rw [e3]) r4
    unfold gKyA
    rw [g1, g2, g3, b1, b2, e4, if_neg (by decide), if_neg (by decide)]
    rw [if_neg (by omega)] at fin
    have ek : (⟨⟨k.a.t, k.a.n, k.a.k, 0, ByteArray.empty⟩, IntKind.u32.wrap (k.n.toNat : Int)⟩ : Ky) = k := by
      rw [wm, w32]
      conv => rhs; rw [show k = ⟨⟨k.a.t, k.a.n, k.a.k, k.a.i, k.a.s⟩, k.n⟩ from rfl, i0, s0]
    show kyFin ⟨⟨k.a.t, k.a.n, k.a.k, 0, ByteArray.empty⟩, IntKind.u32.wrap (k.n.toNat : Int)⟩ 0 (k.n.toNat : Int) _ 0 = _
    rw [ek, wm]
    exact fin
  · have s0 := okAd_1 hoa hk
    have b1 : (k.a.k == 1) = true := by rw [hk]; rfl
    simp only [b1, if_true] at hD hE fin ⊢
    have r4 := rSh_back s _ k.a.i.toNat (by omega) hD
    have e4 : gK4 s = _ := Eq.trans (by unfold gK4; rw [e3]) r4
    have a4 : ∀ (A B : List Int), 0 + (A ++ B).length = 0 + A.length + B.length := fun A B => by rw [List.length_append]; omega
    rw [a4] at hE
    have r5 := rSh_back s _ k.n.toNat (by omega) hE
    have e5 : rShort s (gK4 s).2.1 (gK4 s).2.2 = _ := Eq.trans (by rw [e4]) r5
    unfold gKyA
    rw [g1, g2, g3, b1, if_pos rfl, e5, e4]
    rw [if_pos hk] at fin
    have wj : (k.a.i.toNat : Int) = k.a.i := Int.toNat_of_nonneg z6
    have wb : IntKind.i64.wrap (bitsI .and .u64 (k.a.i.toNat : Int) 9223372036854775807) = k.a.i := by rw [wj]; rw [and_max _ z6 (by omega), wrap64 (by omega) (by omega)]
    have ek : (⟨⟨k.a.t, k.a.n, k.a.k, IntKind.i64.wrap (bitsI .and .u64 (k.a.i.toNat : Int) 9223372036854775807), ByteArray.empty⟩, IntKind.u32.wrap (k.n.toNat : Int)⟩ : Ky) = k := by
      rw [wb, wm, w32]
      conv => rhs; rw [show k = ⟨⟨k.a.t, k.a.n, k.a.k, k.a.i, k.a.s⟩, k.n⟩ from rfl, s0]
    show kyFin ⟨⟨k.a.t, k.a.n, k.a.k, IntKind.i64.wrap (bitsI .and .u64 (k.a.i.toNat : Int) 9223372036854775807), ByteArray.empty⟩, IntKind.u32.wrap (k.n.toNat : Int)⟩ (k.a.i.toNat : Int) (k.n.toNat : Int) _ 0 = _
    rw [ek, wm, wj, ← a4 _ (shortL k.a.i.toNat)]
    exact fin
  · have i0 := okAd_2 hoa hk
    have b1 : (k.a.k == 1) = false := by rw [hk]; rfl
    have b2 : (k.a.k == 2) = true := by rw [hk]; rfl
    simp only [b1, b2, Bool.false_eq_true, if_false, if_true] at hD hE fin ⊢
    have r4 := rTx_back s k.a.s _ z3 hD
    have e4 : gK5 s = _ := Eq.trans (by unfold gK5; rw [e3]) r4
    have a4 : ∀ (A B : List Int), 0 + (A ++ B).length = 0 + A.length + B.length := fun A B => by rw [List.length_append]; omega
    rw [a4] at hE
    have r5 := rSh_back s _ k.n.toNat (by omega) hE
    have e5 : rShort s (gK5 s).2.1 (gK5 s).2.2 = _ := Eq.trans (by rw [e4]) r5
    unfold gKyA
    rw [g1, g2, g3, b1, b2, if_neg (by decide), if_pos rfl, e5, e4]
    rw [if_neg (by omega)] at fin
    have ek : (⟨⟨k.a.t, k.a.n, k.a.k, 0, k.a.s⟩, IntKind.u32.wrap (k.n.toNat : Int)⟩ : Ky) = k := by
      rw [wm, w32]
      conv => rhs; rw [show k = ⟨⟨k.a.t, k.a.n, k.a.k, k.a.i, k.a.s⟩, k.n⟩ from rfl, i0]
    show kyFin ⟨⟨k.a.t, k.a.n, k.a.k, 0, k.a.s⟩, IntKind.u32.wrap (k.n.toNat : Int)⟩ 0 (k.n.toNat : Int) _ 0 = _
    rw [ek, wm, ← a4 _ (strL k.a.s)]
    exact fin
end Go.Proofs.YtcgcamfhollnlaaGreatDoor
