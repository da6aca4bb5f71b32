/- Contracts of functions of the program, and the laws that stand on them: what each function answers, whatever its arguments. -/
import Derived.Test.YteidfcaciadgpaaDoorA5
import Derived.Test.YteidfcaciadgpaaDoorC9
set_option linter.unusedSectionVars false
set_option linter.unnecessarySimpa false
namespace Go.Proofs.YteidfcaciadgpaaDoor
set_option linter.unusedSimpArgs false
set_option linter.unusedVariables false
set_option maxRecDepth 100000
set_option maxHeartbeats 8000000
open Go Go.VA
section
variable (s : ByteArray)
def dK1 : ByteArray × Int × Int := gStr s 0 s.size 24
def dK2 : ByteArray × Int × Int := gStr s (dK1 s).2.1.toNat (s.size - (dK1 s).2.1.toNat) 24
def dA2 : Int := IntKind.i64.wrap ((dK1 s).2.1 + (dK2 s).2.1)
def dB : Int := IntKind.i64.wrap (byteN s (dA2 s).toNat)
def dA3 : Int := IntKind.i64.wrap (dA2 s + 1)
def dN : Int × Int × Int := gS s (dA3 s).toNat (s.size - (dA3 s).toNat) 0 0
def dX : ByteArray × Int × Int := gStr s (dA3 s).toNat (s.size - (dA3 s).toNat) 24
def dR (a : Int) : Int × Int × Int := gS s a.toNat (s.size - a.toNat) 0 0
def dFin (k i : Int) (x : ByteArray) (a : Int) : Ky × Int × Int :=
  if (dR s a).2.2 != 0 then (ky0, 0, (dR s a).2.2) else if decide (i > 1000) || decide ((dR s a).1 > 4294967295) then (ky0, 0, 4)
  else if !okKy ⟨⟨(dK1 s).1, (dK2 s).1, k, IntKind.i64.wrap i, x⟩, IntKind.u32.wrap (dR s a).1⟩ then (ky0, 0, 4)
  else (⟨⟨(dK1 s).1, (dK2 s).1, k, IntKind.i64.wrap i, x⟩, IntKind.u32.wrap (dR s a).1⟩, IntKind.i64.wrap (a + (dR s a).2.1), 0)
def dKy : Ky × Int × Int :=
  if (dK1 s).2.2 != 0 then (ky0, 0, (dK1 s).2.2) else if (dK2 s).2.2 != 0 then (ky0, 0, (dK2 s).2.2)
  else if decide (dA2 s ≥ s.size) then (ky0, 0, 2) else if decide (dB s > 2) then (ky0, 0, 4)
  else if dB s == 1 then (if (dN s).2.2 != 0 then (ky0, 0, (dN s).2.2) else dFin s (dB s) (dN s).1 ByteArray.empty (IntKind.i64.wrap (dA3 s + (dN s).2.1)))
  else if dB s == 2 then (if (dX s).2.2 != 0 then (ky0, 0, (dX s).2.2) else dFin s (dB s) 0 (dX s).1 (IntKind.i64.wrap (dA3 s + (dX s).2.1)))
  else dFin s (dB s) 0 ByteArray.empty (dA3 s)
end
theorem ifT {α : Type} {b : Bool} {x y : α} (h : b = true) : (if b = true then x else y) = x := if_pos h
theorem ifF {α : Type} {b : Bool} {x y : α} (h : b = false) : (if b = true then x else y) = y := if_neg (by rw [h]; decide)
structure DRg (s : ByteArray) : Prop where
  b1 : ((dK1 s).2.2 != 0) = false → 0 ≤ (dK1 s).2.1 ∧ (dK1 s).2.1 ≤ s.size
  e2 : ((dK1 s).2.2 != 0) = false → ((dK2 s).2.2 != 0) = false → dA2 s = (dK1 s).2.1 + (dK2 s).2.1 ∧ 0 ≤ dA2 s ∧ dA2 s ≤ s.size
  e3 : ((dK1 s).2.2 != 0) = false → ((dK2 s).2.2 != 0) = false → decide (dA2 s ≥ s.size) = false → dA3 s = dA2 s + 1 ∧ 0 ≤ dA2 s ∧ dA2 s < s.size ∧ 0 ≤ dA3 s ∧ dA3 s ≤ s.size
  e4 : ((dK1 s).2.2 != 0) = false → ((dK2 s).2.2 != 0) = false → decide (dA2 s ≥ s.size) = false → ((dN s).2.2 != 0) = false → IntKind.i64.wrap (dA3 s + (dN s).2.1) = dA3 s + (dN s).2.1 ∧ 0 ≤ dA3 s + (dN s).2.1 ∧ dA3 s + (dN s).2.1 ≤ s.size
  e5 : ((dK1 s).2.2 != 0) = false → ((dK2 s).2.2 != 0) = false → decide (dA2 s ≥ s.size) = false → ((dX s).2.2 != 0) = false → IntKind.i64.wrap (dA3 s + (dX s).2.1) = dA3 s + (dX s).2.1 ∧ 0 ≤ dA3 s + (dX s).2.1 ∧ dA3 s + (dX s).2.1 ≤ s.size
theorem dRg {s : ByteArray} (hs : s.size ≤ 140737488355328) : DRg s := by
  have b1 : ((dK1 s).2.2 != 0) = false → 0 ≤ (dK1 s).2.1 ∧ (dK1 s).2.1 ≤ s.size := fun h => by
    have hz : (dK1 s).2.2 = 0 := by simpa using h
    exact (gStr_ok s 0 s.size 24).1 hz
  have e2 : ((dK1 s).2.2 != 0) = false → ((dK2 s).2.2 != 0) = false → dA2 s = (dK1 s).2.1 + (dK2 s).2.1 ∧ 0 ≤ dA2 s ∧ dA2 s ≤ s.size := fun h1 h2 => by
    have q1 := b1 h1
    have hz : (dK2 s).2.2 = 0 := by simpa using h2
    have q2 := (gStr_ok s (dK1 s).2.1.toNat (s.size - (dK1 s).2.1.toNat) 24).1 hz
    change 0 ≤ (dK2 s).2.1 ∧ (dK2 s).2.1 ≤ ((s.size - (dK1 s).2.1.toNat : Nat) : Int) at q2
    have : dA2 s = (dK1 s).2.1 + (dK2 s).2.1 := wrap64 (by omega) (by omega)
    omega
  have e3 : ((dK1 s).2.2 != 0) = false → ((dK2 s).2.2 != 0) = false → decide (dA2 s ≥ s.size) = false → dA3 s = dA2 s + 1 ∧ 0 ≤ dA2 s ∧ dA2 s < s.size ∧ 0 ≤ dA3 s ∧ dA3 s ≤ s.size := fun h1 h2 h3 => by
    have q2 := e2 h1 h2
    simp only [ge_iff_le, decide_eq_false_iff_not] at h3
    have : dA3 s = dA2 s + 1 := wrap64 (by omega) (by omega)
    omega
  refine ⟨b1, e2, e3, fun h1 h2 h3 h4 => ?_, fun h1 h2 h3 h4 => ?_⟩
  · have q3 := e3 h1 h2 h3
    have hz : (dN s).2.2 = 0 := by simpa using h4
    have q4 := gS_ok s (dA3 s).toNat (s.size - (dA3 s).toNat) 0 0 (Int.le_refl 0) hz
    change ((0 : Nat) : Int) < (dN s).2.1 ∧ (dN s).2.1 ≤ ((0 : Nat) : Int) + ((s.size - (dA3 s).toNat : Nat) : Int) ∧ _ at q4
    have : IntKind.i64.wrap (dA3 s + (dN s).2.1) = dA3 s + (dN s).2.1 := wrap64 (by omega) (by omega)
    omega
  · have q3 := e3 h1 h2 h3
    have hz : (dX s).2.2 = 0 := by simpa using h4
    have q4 := (gStr_ok s (dA3 s).toNat (s.size - (dA3 s).toNat) 24).1 hz
    change 0 ≤ (dX s).2.1 ∧ (dX s).2.1 ≤ ((s.size - (dA3 s).toNat : Nat) : Int) at q4
    have : IntKind.i64.wrap (dA3 s + (dX s).2.1) = dA3 s + (dX s).2.1 := wrap64 (by omega) (by omega)
    omega
theorem aGetKyR (t : Bool) (s : ByteArray) : ACall Tryd.prog gl 33 [.c (.sl t 1 s.size (strCells s))] [] (.tup [.ag (cKy (dKy s).1), intA .i64 (dKy s).2.1, intA .i64 (dKy s).2.2]) := by
  refine acall_of_vcb htb hmix (f := 33) rfl rfl rfl (by kernel_rfl) rfl rfl fun hb => ?_; simp only [bndAll, AV.bnd, bnds, C.bnd, cVt, cS, true_and, and_true] at hb; conv => whnf
  have hn : s.size ≤ 140737488355328 := hb.1
  have R := dRg hn
  have b1 := R.b1
  have b2 := fun h1 h2 h3 => (show 0 ≤ dA2 s ∧ dA2 s < s.size from ⟨(R.e3 h1 h2 h3).2.1, (R.e3 h1 h2 h3).2.2.1⟩)
  have b3 := fun h1 h2 h3 => (R.e3 h1 h2 h3).2.2.2
  have b4 := fun h1 h2 h3 h4 => (show 0 ≤ IntKind.i64.wrap (dA3 s + (dN s).2.1) ∧ IntKind.i64.wrap (dA3 s + (dN s).2.1) ≤ s.size from by have := R.e4 h1 h2 h3 h4; omega)
  have b5 := fun h1 h2 h3 h4 => (show 0 ≤ IntKind.i64.wrap (dA3 s + (dX s).2.1) ∧ IntKind.i64.wrap (dA3 s + (dX s).2.1) ≤ s.size from by have := R.e5 h1 h2 h3 h4; omega)
  have k12 : (dB s == 1) = true → (dB s == 2) = true → False := fun h1 h2 => absurd (eq_of_beq h1) (by rw [eq_of_beq h2]; decide)
  have wu : 0 ≤ IntKind.u32.wrap 0 := by decide
  have G0 : ACall Tryd.prog gl 52 [.c (.sl t 1 s.size (strCells s)), intA .i64 24] [] (.tup [.c (.v (.string (dK1 s).1)), intA .i64 (dK1 s).2.1, intA .i64 (dK1 s).2.2]) := (aGetStrR t s.size s 0 24).le ⟨leSl rfl (fun i _ => by rw [Nat.zero_add]), Le.refl _, trivial⟩
  have CK := fun k h => aCheckKR k h
  repeat' (first | (refine Exists.intro _ (And.intro (G0) ?_); conv => whnf) | (refine Exists.intro _ (And.intro (aGetStrR _ _ _ _ _) ?_); conv => whnf) | (refine Exists.intro _ (And.intro (aShortR _ _ _ _) ?_); conv => whnf) | (refine Exists.intro _ (And.intro (aCheckKR ⟨⟨_, _, _, _, _⟩, _⟩ (Int.emod_nonneg _ (by decide))) ?_); conv => whnf) | (refine And.intro (fun h => ?_) (fun h => ?_) <;> (first | (with_reducible have hd : _ < _ := of_decide_eq_true h) | (with_reducible have hd : _ ≤ _ := of_decide_eq_true h) | (with_reducible have hd : ¬ (_ < _) := of_decide_eq_false h) | (with_reducible have hd : ¬ (_ ≤ _) := of_decide_eq_false h) | skip) <;> (first | exact absurd h (by decide) | exact (k12 (by assumption) h).elim | (conv => whnf))) | (refine And.intro ?_ ?_; (focus (first | exact trivial | exact rfl | (first | exact seT | exact u64nn _ | exact b1 (by assumption) | exact b2 (by assumption) (by assumption) (by assumption) | exact b3 (by assumption) (by assumption) (by assumption) | exact b4 (by assumption) (by assumption) (by assumption) (by assumption) | exact b5 (by assumption) (by assumption) (by assumption) (by assumption) | exact wu | assumption) | (refine chainI ?_; (first | (first | exact seT | exact u64nn _ | exact b1 (by assumption) | exact b2 (by assumption) (by assumption) (by assumption) | exact b3 (by assumption) (by assumption) (by assumption) | exact b4 (by assumption) (by assumption) (by assumption) (by assumption) | exact b5 (by assumption) (by assumption) (by assumption) (by assumption) | exact wu | assumption) | decide | omega | (refine And.intro ?_ ?_ <;> first | omega | (simp; omega)) | (simp only [IntKind.wrap_i64]; first | omega | (refine And.intro ?_ ?_ <;> omega)))) | (intro _; (first | (first | exact seT | exact u64nn _ | exact b1 (by assumption) | exact b2 (by assumption) (by assumption) (by assumption) | exact b3 (by assumption) (by assumption) (by assumption) | exact b4 (by assumption) (by assumption) (by assumption) (by assumption) | exact b5 (by assumption) (by assumption) (by assumption) (by assumption) | exact wu | assumption) | decide | omega | (refine And.intro ?_ ?_ <;> first | omega | (simp; omega)) | (simp only [IntKind.wrap_i64]; first | omega | (refine And.intro ?_ ?_ <;> omega)))) | (intro _ _; (first | (first | exact seT | exact u64nn _ | exact b1 (by assumption) | exact b2 (by assumption) (by assumption) (by assumption) | exact b3 (by assumption) (by assumption) (by assumption) | exact b4 (by assumption) (by assumption) (by assumption) (by assumption) | exact b5 (by assumption) (by assumption) (by assumption) (by assumption) | exact wu | assumption) | decide | omega | (refine And.intro ?_ ?_ <;> first | omega | (simp; omega)) | (simp only [IntKind.wrap_i64]; first | omega | (refine And.intro ?_ ?_ <;> omega)))) | (first | decide | omega | (refine And.intro ?_ ?_ <;> first | omega | (simp; omega)) | (simp only [IntKind.wrap_i64]; first | omega | (refine And.intro ?_ ?_ <;> omega))) | ((conv => whnf); intros; (try simp only [decide_eq_true_eq, decide_eq_false_iff_not, Bool.and_eq_true, Bool.or_eq_true, Bool.and_eq_false_imp, Bool.or_eq_false_iff, Bool.not_eq_true', Bool.not_eq_false', beq_iff_eq, bne_iff_ne, ne_eq] at *); (first | (first | exact seT | exact u64nn _ | exact b1 (by assumption) | exact b2 (by assumption) (by assumption) (by assumption) | exact b3 (by assumption) (by assumption) (by assumption) | exact b4 (by assumption) (by assumption) (by assumption) (by assumption) | exact b5 (by assumption) (by assumption) (by assumption) (by assumption) | exact wu | assumption) | decide | omega | (refine And.intro ?_ ?_ <;> first | omega | (simp; omega)) | (simp only [IntKind.wrap_i64]; first | omega | (refine And.intro ?_ ?_ <;> omega)))))); conv => whnf) | ((with_reducible refine xc_pure ?_); conv => whnf))
  all_goals unfold dKy dFin
  all_goals repeat (first | (rw [ifT]; rotate_left; (focus assumption)) | (rw [ifF]; rotate_left; (focus assumption)))
  all_goals exact Le.refl _
end Go.Proofs.YteidfcaciadgpaaDoor

namespace Go.Proofs.YteidfcaciadgpaaDoor
set_option linter.unusedSimpArgs false
set_option linter.unusedVariables false
set_option maxRecDepth 100000
set_option maxHeartbeats 8000000
open Go Go.VA
theorem and_max (i : Int) (h0 : 0 ≤ i) (h : i ≤ 9223372036854775807) : bitsI .and .u64 i 9223372036854775807 = i := by
  obtain ⟨n, rfl⟩ := Int.eq_ofNat_of_zero_le h0
  unfold bitsI
  show IntKind.u64.wrap (((BitVec.ofInt 64 (n : Int) &&& BitVec.ofInt 64 9223372036854775807).toNat : Nat) : Int) = _
  rw [BitVec.toNat_and, ofNat64 _ (by omega), show (BitVec.ofInt 64 9223372036854775807).toNat = 2 ^ 63 - 1 from by decide, Nat.and_two_pow_sub_one_eq_mod, Nat.mod_eq_of_lt (by omega)]
  exact wrapU (by omega) (by omega)
theorem gS_nn (s : ByteArray) (k : Nat) : ∀ (m i : Nat) (acc : Int), 0 ≤ acc → 0 ≤ (gS s k m i acc).1
  | 0, _, _, _ => Int.le_refl 0
  | m + 1, i, acc, h => by
    simp only [gS]
    split
    · exact Int.le_refl 0
    · split
      · split
        · exact Int.le_refl 0
        · exact gSt_nn _ _ _
      · exact gS_nn s k m (i + 1) _ (gSt_nn _ _ _)
theorem rTx_bad {s : ByteArray} {a b : Int} (h : (b != 0) = true) : rTx s a b = (ByteArray.empty, a, b) := by unfold rTx; rw [if_pos h]
theorem rKd_bad {s : ByteArray} {a b : Int} (h : (b != 0) = true) : rKd s a b = (0, a, b) := by unfold rKd; rw [if_pos h]
theorem rSh_bad {s : ByteArray} {a b : Int} (h : (b != 0) = true) : rShort s a b = (0, a, b) := by unfold rShort; rw [if_pos h]
theorem rTx_go (s : ByteArray) (a : Int) : rTx s a 0 = ((gStr s a.toNat (s.size - a.toNat) 24).1, a + (gStr s a.toNat (s.size - a.toNat) 24).2.1, (gStr s a.toNat (s.size - a.toNat) 24).2.2) := by unfold rTx; rw [if_neg (by decide)]
theorem rSh_go (s : ByteArray) (a : Int) : rShort s a 0 = ((dR s a).1, a + (dR s a).2.1, (dR s a).2.2) := by unfold rShort; rw [if_neg (by decide)]; rfl
theorem rKd_go (s : ByteArray) (a : Int) : rKd s a 0 = if decide (a ≥ s.size) then (0, a + 1, 2) else (byteAt s a, a + 1, if decide (byteAt s a > 2) then 4 else 0) := by unfold rKd; rw [if_neg (by decide)]
theorem gK1_eq (s : ByteArray) : gK1 s = ((dK1 s).1, (dK1 s).2.1, (dK1 s).2.2) := by
  unfold gK1
  rw [rTx_go]
  show (_, 0 + (dK1 s).2.1, _) = _
  rw [Int.zero_add]; rfl
theorem z0 {x : Int} (h : (x != 0) = false) : x = 0 := by simpa using h
theorem gKy_err {s : ByteArray} (h : ((gK3 s).2.2 != 0) = true) (h1 : ((gK3 s).1 == 1) = false) (h2 : ((gK3 s).1 == 2) = false) : gKyA s = (ky0, 0, (gK3 s).2.2) := by
  rw [gKyA_0 h1 h2]
  have e : gK4 s = (0, (gK3 s).2.1, (gK3 s).2.2) := rSh_bad h
  rw [e]
  exact kyFin_e h
theorem fin_law {s : ByteArray} (hs : s.size ≤ 140737488355328) {k i I a : Int} {x : ByteArray} (h0 : 0 ≤ i) (hI : i ≤ 1000 → I = IntKind.i64.wrap i) (hbig : 1000 < i → i ≤ 9223372036854775807 → 128 ≤ I) (ha : 0 ≤ a ∧ a ≤ s.size) :
    kyFin ⟨⟨(dK1 s).1, (dK2 s).1, k, I, x⟩, IntKind.u32.wrap (dR s a).1⟩ i (dR s a).1 (a + (dR s a).2.1) (dR s a).2.2 = dFin s k i x a := by
  unfold kyFin dFin
  by_cases he : ((dR s a).2.2 != 0) = true
  · rw [if_pos he, if_pos he]
  · rw [if_neg he, if_neg he]
    have he0 : (dR s a).2.2 = 0 := by simpa using he
    by_cases hi : i > 1000
    · rw [if_pos (show (decide (i > 1000) || decide ((dR s a).1 > 4294967295)) = true by simp [hi])]
      refine if_pos ?_
      by_cases hm : i > 9223372036854775807
      · simp [hm]
      · have hI2 := hbig hi (by omega)
        have : okKy ⟨⟨(dK1 s).1, (dK2 s).1, k, I, x⟩, IntKind.u32.wrap (dR s a).1⟩ = false := by
          rw [Bool.eq_false_iff]
          intro hk
          have := (okKy_le hk).1.2.2.2.2.2.2
          have : I < 128 := this
          omega
        rw [this]; simp
    · have hI1 := hI (by omega)
      subst hI1
      have q1 : decide (i > 9223372036854775807) = false := by simp; omega
      have q2 : decide (i > 1000) = false := by simp; omega
      have q := gS_ok s a.toNat (s.size - a.toNat) 0 0 (Int.le_refl 0) he0
      change ((0 : Nat) : Int) < (dR s a).2.1 ∧ (dR s a).2.1 ≤ ((0 : Nat) : Int) + ((s.size - a.toNat : Nat) : Int) ∧ _ at q
      rw [wrap64 (n := a + (dR s a).2.1) (by omega) (by omega), q1, q2]
      by_cases hn : (dR s a).1 > 4294967295
      · rw [if_pos (by simp [hn]), if_pos (by simp [hn])]
      · have qn : decide ((dR s a).1 > 4294967295) = false := by simpa using hn
        rw [qn]
        simp only [Bool.or_self, Bool.false_or, Bool.false_eq_true, if_false]
theorem ky_eq {s : ByteArray} (hs : s.size ≤ 140737488355328) : gKyA s = dKy s := by
  have R := dRg hs
  have e1 := gK1_eq s
  unfold dKy
  by_cases h1 : ((dK1 s).2.2 != 0) = true
  · rw [ifT h1]
    have e2 : gK2 s = (ByteArray.empty, (dK1 s).2.1, (dK1 s).2.2) := by unfold gK2; rw [e1]; exact rTx_bad h1
    have e3 : gK3 s = (0, (dK1 s).2.1, (dK1 s).2.2) := by unfold gK3; rw [e2]; exact rKd_bad h1
    rw [gKy_err (by rw [e3]; exact h1) (by rw [e3]; rfl) (by rw [e3]; rfl), e3]
  have h1 : ((dK1 s).2.2 != 0) = false := by simpa using h1
  rw [ifF h1]
  have e2 : gK2 s = ((dK2 s).1, (dK1 s).2.1 + (dK2 s).2.1, (dK2 s).2.2) := by unfold gK2; rw [e1]; show rTx s (dK1 s).2.1 (dK1 s).2.2 = _; rw [z0 h1, rTx_go]; rfl
  by_cases h2 : ((dK2 s).2.2 != 0) = true
  · rw [ifT h2]
    have e3 : gK3 s = (0, (dK1 s).2.1 + (dK2 s).2.1, (dK2 s).2.2) := by unfold gK3; rw [e2]; exact rKd_bad h2
    rw [gKy_err (by rw [e3]; exact h2) (by rw [e3]; rfl) (by rw [e3]; rfl), e3]
  have h2 : ((dK2 s).2.2 != 0) = false := by simpa using h2
  rw [ifF h2]
  have a2 := (R.e2 h1 h2).1
  have e3 : gK3 s = if decide (dA2 s ≥ s.size) then (0, dA2 s + 1, 2) else (byteAt s (dA2 s), dA2 s + 1, if decide (byteAt s (dA2 s) > 2) then 4 else 0) := by
    unfold gK3; rw [e2]; show rKd s ((dK1 s).2.1 + (dK2 s).2.1) (dK2 s).2.2 = _; rw [← a2, z0 h2, rKd_go]
  by_cases h3 : decide (dA2 s ≥ s.size) = true
  · rw [ifT h3]
    rw [ifT h3] at e3
    rw [gKy_err (by rw [e3]; rfl) (by rw [e3]; rfl) (by rw [e3]; rfl), e3]
  have h3 : decide (dA2 s ≥ s.size) = false := by simpa using h3
  rw [ifF h3]
  rw [ifF h3] at e3
  have q3 := R.e3 h1 h2 h3
  have hb := byteN_lt s (dA2 s).toNat
  have eB : dB s = byteAt s (dA2 s) := wrap64 (by omega) (by omega)
  rw [← eB, ← q3.1] at e3
  by_cases h4 : decide (dB s > 2) = true
  · rw [ifT h4]
    rw [ifT h4] at e3
    have h4' := of_decide_eq_true h4
    rw [gKy_err (by rw [e3]; rfl) (by rw [e3]; exact beq_eq_false_iff_ne.2 (by show dB s ≠ 1; omega)) (by rw [e3]; exact beq_eq_false_iff_ne.2 (by show dB s ≠ 2; omega)), e3]
  have h4 : decide (dB s > 2) = false := by simpa using h4
  rw [ifF h4]
  rw [ifF h4] at e3
  have e4 : gK4 s = ((dN s).1, dA3 s + (dN s).2.1, (dN s).2.2) := by unfold gK4; rw [e3]; exact rSh_go s _
  have e5 : gK5 s = ((dX s).1, dA3 s + (dX s).2.1, (dX s).2.2) := by unfold gK5; rw [e3]; exact rTx_go s _
  have n1 : (gK1 s).1 = (dK1 s).1 := by rw [e1]
  have n2 : (gK2 s).1 = (dK2 s).1 := by rw [e2]
  have n3 : (gK3 s).1 = dB s := by rw [e3]
  by_cases h5 : (dB s == 1) = true
  · rw [ifT h5, gKyA_1 (by rw [n3]; exact h5), n1, n2, n3, e4]
    have q := gS_nn s (dA3 s).toNat (s.size - (dA3 s).toNat) 0 0 (Int.le_refl 0)
    change 0 ≤ (dN s).1 at q
    by_cases h6 : ((dN s).2.2 != 0) = true
    · rw [ifT h6]
      show kyFin _ _ (rShort s _ (dN s).2.2).1 (rShort s _ (dN s).2.2).2.1 (rShort s _ (dN s).2.2).2.2 = _
      rw [rSh_bad h6]
      exact kyFin_e h6
    · have h6 : ((dN s).2.2 != 0) = false := by simpa using h6
      rw [ifF h6]
      have q6 := R.e4 h1 h2 h3 h6
      rw [q6.1]
      show kyFin ⟨⟨_, _, _, _, _⟩, IntKind.u32.wrap (rShort s (dA3 s + (dN s).2.1) (dN s).2.2).1⟩ _ (rShort s _ (dN s).2.2).1 (rShort s _ (dN s).2.2).2.1 (rShort s _ (dN s).2.2).2.2 = _
      rw [z0 h6, rSh_go]
      refine fin_law hs q (fun h => by rw [and_max _ q (by omega)]) (fun h h' => by rw [and_max _ q h', wrap64 (by omega) (by omega)]; omega) q6.2
  have h5 : (dB s == 1) = false := by simpa using h5
  rw [ifF h5]
  by_cases h7 : (dB s == 2) = true
  · rw [ifT h7, gKyA_2 (by rw [n3]; exact h5) (by rw [n3]; exact h7), n1, n2, n3, e5]
    by_cases h6 : ((dX s).2.2 != 0) = true
    · rw [ifT h6]
      show kyFin _ _ (rShort s _ (dX s).2.2).1 (rShort s _ (dX s).2.2).2.1 (rShort s _ (dX s).2.2).2.2 = _
      rw [rSh_bad h6]
      exact kyFin_e h6
    · have h6 : ((dX s).2.2 != 0) = false := by simpa using h6
      rw [ifF h6]
      have q6 := R.e5 h1 h2 h3 h6
      rw [q6.1]
      show kyFin ⟨⟨_, _, _, _, _⟩, IntKind.u32.wrap (rShort s (dA3 s + (dX s).2.1) (dX s).2.2).1⟩ _ (rShort s _ (dX s).2.2).1 (rShort s _ (dX s).2.2).2.1 (rShort s _ (dX s).2.2).2.2 = _
      rw [z0 h6, rSh_go]
      exact fin_law hs (Int.le_refl 0) (fun _ => rfl) (fun h => absurd h (by decide)) q6.2
  have h7 : (dB s == 2) = false := by simpa using h7
  rw [ifF h7, gKyA_0 (by rw [n3]; exact h5) (by rw [n3]; exact h7), n1, n2, n3]
  have e4' : gK4 s = ((dR s (dA3 s)).1, dA3 s + (dR s (dA3 s)).2.1, (dR s (dA3 s)).2.2) := e4
  rw [e4']
  exact fin_law hs (Int.le_refl 0) (fun _ => rfl) (fun h => absurd h (by decide)) q3.2.2.2
end Go.Proofs.YteidfcaciadgpaaDoor
