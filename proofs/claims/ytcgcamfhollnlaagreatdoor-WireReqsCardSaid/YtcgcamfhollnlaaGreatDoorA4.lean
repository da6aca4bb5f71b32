/- Contracts of functions of the program, and the laws that stand on them: what each function answers, whatever its arguments. -/
import Derived.Test.YtcgcamfhollnlaaGreatDoorA3
set_option linter.unusedSectionVars false
set_option linter.unnecessarySimpa false
namespace Go.Proofs.YtcgcamfhollnlaaGreatDoor
set_option linter.unusedSimpArgs false
set_option linter.unusedVariables false
set_option maxRecDepth 100000
set_option maxHeartbeats 8000000
open Go Go.VA
def ky0 : Ky := ⟨⟨ByteArray.empty, ByteArray.empty, 0, 0, ByteArray.empty⟩, 0⟩
def kyFin (k : Ky) (i n a e : Int) : Ky × Int × Int :=
  if e != 0 then (ky0, 0, e) else if decide (i > 9223372036854775807) || decide (n > 4294967295) || !okKy k then (ky0, 0, 4) else (k, a, 0)
def gK1 (s : ByteArray) : ByteArray × Int × Int := rTx s 0 0
def gK2 (s : ByteArray) : ByteArray × Int × Int := rTx s (gK1 s).2.1 (gK1 s).2.2
def gK3 (s : ByteArray) : Int × Int × Int := rKd s (gK2 s).2.1 (gK2 s).2.2
def gK4 (s : ByteArray) : Int × Int × Int := rShort s (gK3 s).2.1 (gK3 s).2.2
def gK5 (s : ByteArray) : ByteArray × Int × Int := rTx s (gK3 s).2.1 (gK3 s).2.2
def gKyA (s : ByteArray) : Ky × Int × Int :=
  if (gK3 s).1 == 1 then
    let r := rShort s (gK4 s).2.1 (gK4 s).2.2
    kyFin ⟨⟨(gK1 s).1, (gK2 s).1, (gK3 s).1, IntKind.i64.wrap (bitsI .and .u64 (gK4 s).1 9223372036854775807), ByteArray.empty⟩, IntKind.u32.wrap r.1⟩ (gK4 s).1 r.1 r.2.1 r.2.2
  else if (gK3 s).1 == 2 then
    let r := rShort s (gK5 s).2.1 (gK5 s).2.2
    kyFin ⟨⟨(gK1 s).1, (gK2 s).1, (gK3 s).1, 0, (gK5 s).1⟩, IntKind.u32.wrap r.1⟩ 0 r.1 r.2.1 r.2.2
  else kyFin ⟨⟨(gK1 s).1, (gK2 s).1, (gK3 s).1, 0, ByteArray.empty⟩, IntKind.u32.wrap (gK4 s).1⟩ 0 (gK4 s).1 (gK4 s).2.1 (gK4 s).2.2
theorem rTx_rg {s : ByteArray} {a b : Int} (h : RgOk s a b) : RgOk s (rTx s a b).2.1 (rTx s a b).2.2 := by
  unfold RgOk rTx
  split
  · rename_i hb
    intro h0
    have h0 : b = 0 := h0
    rw [h0] at hb
    exact absurd hb (by decide)
  · rename_i hb
    intro h0
    have hb : b = 0 := by simpa using hb
    have := (gStr_ok s a.toNat (s.size - a.toNat) 24).1 h0
    have := h hb
    show 0 ≤ a + (gStr s a.toNat (s.size - a.toNat) 24).2.1 ∧ a + (gStr s a.toNat (s.size - a.toNat) 24).2.1 ≤ s.size
    omega
theorem rSh_rg {s : ByteArray} {a b : Int} (h : RgOk s a b) : RgOk s (rShort s a b).2.1 (rShort s a b).2.2 := by
  unfold RgOk rShort
  split
  · rename_i hb
    intro h0
    have h0 : b = 0 := h0
    rw [h0] at hb
    exact absurd hb (by decide)
  · rename_i hb
    intro h0
    have hb : b = 0 := by simpa using hb
    have := gS_ok s a.toNat (s.size - a.toNat) 0 0 (Int.le_refl 0) h0
    have := h hb
    show 0 ≤ a + (gS s a.toNat (s.size - a.toNat) 0 0).2.1 ∧ a + (gS s a.toNat (s.size - a.toNat) 0 0).2.1 ≤ s.size
    omega
theorem rKd_rg {s : ByteArray} {a b : Int} (h : RgOk s a b) : RgOk s (rKd s a b).2.1 (rKd s a b).2.2 := by
  unfold RgOk rKd
  split
  · rename_i hb
    intro h0
    have h0 : b = 0 := h0
    rw [h0] at hb
    exact absurd hb (by decide)
  · rename_i hb
    have hb : b = 0 := by simpa using hb
    have := h hb
    split
    · intro h0; exact absurd (show (2 : Int) = 0 from h0) (by decide)
    · rename_i h2
      intro _
      simp only [ge_iff_le, decide_eq_true_eq] at h2
      show 0 ≤ a + 1 ∧ a + 1 ≤ s.size
      omega
theorem rg0 (s : ByteArray) : RgOk s 0 0 := fun _ => ⟨Int.le_refl _, by omega⟩
theorem ckn (b : Bool) : ((if b = true then (0 : Int) else 1) != 0) = !b := by cases b <;> rfl
theorem kyFin_e {k : Ky} {i n a e : Int} (h : (e != 0) = true) : kyFin k i n a e = (ky0, 0, e) := by unfold kyFin; rw [if_pos h]
theorem kyFin_b {k : Ky} {i n a e : Int} (h : (e != 0) = false) (h2 : (decide (i > 9223372036854775807) || decide (n > 4294967295) || !okKy k) = true) : kyFin k i n a e = (ky0, 0, 4) := by unfold kyFin; rw [h, if_neg (by decide), if_pos h2]
theorem kyFin_ok {k : Ky} {i n a e : Int} (h : (e != 0) = false) (h2 : (decide (i > 9223372036854775807) || decide (n > 4294967295) || !okKy k) = false) : kyFin k i n a e = (k, a, 0) := by unfold kyFin; rw [h, if_neg (by decide), h2, if_neg (by decide)]
theorem gKyA_1 {s : ByteArray} (h : ((gK3 s).1 == 1) = true) : gKyA s = kyFin ⟨⟨(gK1 s).1, (gK2 s).1, (gK3 s).1, IntKind.i64.wrap (bitsI .and .u64 (gK4 s).1 9223372036854775807), ByteArray.empty⟩, IntKind.u32.wrap (rShort s (gK4 s).2.1 (gK4 s).2.2).1⟩ (gK4 s).1 (rShort s (gK4 s).2.1 (gK4 s).2.2).1 (rShort s (gK4 s).2.1 (gK4 s).2.2).2.1 (rShort s (gK4 s).2.1 (gK4 s).2.2).2.2 := by unfold gKyA; rw [if_pos h]
theorem gKyA_2 {s : ByteArray} (h1 : ((gK3 s).1 == 1) = false) (h : ((gK3 s).1 == 2) = true) : gKyA s = kyFin ⟨⟨(gK1 s).1, (gK2 s).1, (gK3 s).1, 0, (gK5 s).1⟩, IntKind.u32.wrap (rShort s (gK5 s).2.1 (gK5 s).2.2).1⟩ 0 (rShort s (gK5 s).2.1 (gK5 s).2.2).1 (rShort s (gK5 s).2.1 (gK5 s).2.2).2.1 (rShort s (gK5 s).2.1 (gK5 s).2.2).2.2 := by unfold gKyA; rw [h1, if_neg (by decide), if_pos h]
theorem gKyA_0 {s : ByteArray} (h1 : ((gK3 s).1 == 1) = false) (h : ((gK3 s).1 == 2) = false) : gKyA s = kyFin ⟨⟨(gK1 s).1, (gK2 s).1, (gK3 s).1, 0, ByteArray.empty⟩, IntKind.u32.wrap (gK4 s).1⟩ 0 (gK4 s).1 (gK4 s).2.1 (gK4 s).2.2 := by unfold gKyA; rw [h1, if_neg (by decide), h, if_neg (by decide)]
theorem aGetKy (t : Bool) (s : ByteArray) : ACall Tryz.prog gl 26 [.c (.sl t 1 s.size (strCells s))] [] (.tup [.ag (cKy (gKyA s).1), intA .i64 (gKyA s).2.1, intA .i64 (gKyA s).2.2]) := by
  have r1 : RgOk s (gK1 s).2.1 (gK1 s).2.2 := rTx_rg (rg0 s)
  have r2 : RgOk s (gK2 s).2.1 (gK2 s).2.2 := rTx_rg r1
  have r3 : RgOk s (gK3 s).2.1 (gK3 s).2.2 := rKd_rg r2
  have r4 : RgOk s (gK4 s).2.1 (gK4 s).2.2 := rSh_rg r3
  have r5 : RgOk s (gK5 s).2.1 (gK5 s).2.2 := rTx_rg r3
  have r0 := rg0 s
  refine acall_of_vc htb hmix (f := 26) rfl rfl rfl (by kernel_rfl) rfl rfl ?_; conv => whnf
  repeat' (first | ((with_reducible refine GOr.l ?_); (conv => whnf); refine Exists.intro _ (And.intro (chainI (aCheckK ⟨⟨_, _, _, _, _⟩, _⟩)) ?_); conv => whnf) | (refine And.intro (fun h => ?_) (fun h => ?_) <;> (first | skip) <;> (first | (conv => whnf))) | ((with_reducible apply Drawn.one); conv => whnf) | ((with_reducible refine Then.mk' ?_); conv => whnf) | (first | exact RefS.self rfl | fail) | (refine And.intro ?_ ?_; (focus (first | exact rfl | fail)); conv => whnf) | ((with_reducible refine xc_guard ?_); refine xc_mb (by (conv => whnf); repeat' (first | exact trivial | exact rfl | exact LeC.refl _ | ((with_reducible refine And.intro ?_ ?_) <;> conv => whnf))) (mTextA _ _ _ _ ?_) rfl rfl rfl rfl ?_; (focus assumption); conv => whnf) | ((with_reducible refine xc_guard ?_); refine xc_mb (by (conv => whnf); repeat' (first | exact trivial | exact rfl | exact LeC.refl _ | ((with_reducible refine And.intro ?_ ?_) <;> conv => whnf))) (mKindA _ _ _ _ ?_) rfl rfl rfl rfl ?_; (focus assumption); conv => whnf) | ((with_reducible refine xc_guard ?_); refine xc_mb (by (conv => whnf); repeat' (first | exact trivial | exact rfl | exact LeC.refl _ | ((with_reducible refine And.intro ?_ ?_) <;> conv => whnf))) (mNumA _ _ _ _ ?_) rfl rfl rfl rfl ?_; (focus assumption); conv => whnf) | fail)
  all_goals try simp only [ckn] at h
  all_goals first
    | rw [gKyA_1 (s := s) (by assumption)]
    | rw [gKyA_2 (s := s) (by assumption) (by assumption)]
    | rw [gKyA_0 (s := s) (by assumption) (by assumption)]
  all_goals first
    | (rw [kyFin_e (by assumption)]; exact Le.refl _)
    | (rw [kyFin_b (by assumption) (by assumption)]; exact Le.refl _)
    | (rw [kyFin_ok (by assumption) (by assumption)]; exact Le.refl _)
end Go.Proofs.YtcgcamfhollnlaaGreatDoor
