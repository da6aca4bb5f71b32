/- Contracts of functions of the program, and the laws that stand on them: what each function answers, whatever its arguments. -/
import Derived.Test.YthaaemhkdefidaaGreatDoorA1
import Derived.Test.YthaaemhkdefidaaGreatDoorS1
import Derived.Test.YthaaemhkdefidaaGreatDoorC9
import Derived.Test.YthaaemhkdefidaaGreatDoorC18
set_option linter.unusedSectionVars false
set_option linter.unnecessarySimpa false
namespace Go.Proofs.YthaaemhkdefidaaGreatDoor
set_option linter.unusedSimpArgs false
set_option linter.unusedVariables false
set_option maxRecDepth 100000
set_option maxHeartbeats 8000000
open Go Go.VA
/-! ### A key is read -/
theorem mStep (t : Bool) (s : ByteArray) (a b n e : Int) : MCall Tryz.prog gl 191 [cR t s a b] [.ptr 0 0, intA .i64 n, intA .i64 e] [cR t s (IntKind.i64.wrap (a + n)) e] (.tup []) := by
 refine mcall_of_vcb htb hmix (f := 191) rfl rfl rfl (by kernel_rfl) rfl rfl rfl fun hb hb2 => ?_; simp only [bndPre, bndAll, AV.bnd, bnds, C.bnd, true_and, and_true] at hb hb2; conv => whnf
 repeat' (fail)
 exact ⟨Le.refl _, ⟨LeC.refl _, LeC.refl _, LeC.refl _, trivial⟩, trivial⟩
def RgOk (s : ByteArray) (a e : Int) : Prop := e = 0 → 0 ≤ a ∧ a ≤ s.size
def rTx (s : ByteArray) (a b : Int) : ByteArray × Int × Int := if b != 0 then (ByteArray.empty, a, b) else ((gStr s a.toNat (s.size - a.toNat) 24).1, a + (gStr s a.toNat (s.size - a.toNat) 24).2.1, (gStr s a.toNat (s.size - a.toNat) 24).2.2)
def rKd (s : ByteArray) (a b : Int) : Int × Int × Int := if b != 0 then (0, a, b) else if decide (a ≥ s.size) then (0, a + 1, 2) else (byteAt s a, a + 1, if decide (byteAt s a > 2) then 4 else 0)
theorem nB_one (s : ByteArray) (k : Nat) : (nB (fun i => (s.data.toList[k + i]?).getD 0) 0 1 : Int) = byteN s k := by
 simp [nB, byteN]
theorem wT {a n : Int} {s : ByteArray} (hs : s.size ≤ 140737488355328) (h : 0 ≤ a + n ∧ a + n ≤ s.size) : IntKind.i64.wrap (a + n) = a + n := wrap64 (by omega) (by omega)
theorem mTextA (t : Bool) (s : ByteArray) (a b : Int) (h : RgOk s a b) : MCall Tryz.prog gl 173 [cR t s a b] [.ptr 0 0] [cR t s (rTx s a b).2.1 (rTx s a b).2.2] (.c (.v (.string (rTx s a b).1))) := by
 by_cases hb0 : b = 0
 ·obtain ⟨h0, h1⟩ := h hb0
  have hM : (0 : Int) ≤ a ∧ a ≤ s.size := ⟨h0, h1⟩
  subst hb0
  have ok := gStr_ok s a.toNat (s.size - a.toNat) 24
  have e : rTx s a 0 = ((gStr s a.toNat (s.size - a.toNat) 24).1, a + (gStr s a.toNat (s.size - a.toNat) 24).2.1, (gStr s a.toNat (s.size - a.toNat) 24).2.2) := by unfold rTx; rw [if_neg (by decide)]
  rw [e]
  refine mcall_of_vcb htb hmix (f := 173) rfl rfl rfl (by kernel_rfl) rfl rfl rfl fun hb hb2 => ?_; simp only [bndPre, bndAll, AV.bnd, bnds, C.bnd, true_and, and_true] at hb hb2; conv => whnf
  have hn := hb.1
  repeat' (first | (refine Exists.intro _ (And.intro (chainI (aGetStr _ _ _ _ _)) ?_); conv => whnf) | (refine And.intro (fun h => ?_) (fun h => ?_) <;> (first | skip) <;> (first | exact absurd h (by decide) | (conv => whnf))) | ((with_reducible refine DOr.l ?_); (conv => whnf)) | (refine And.intro ?_ ?_; (focus (first | (first | assumption) | fail)); conv => whnf) | ((with_reducible refine xc_guard ?_); refine xc_mb (by (conv => whnf); repeat' (first | exact trivial | exact rfl | exact LeC.refl _ | ((with_reducible refine And.intro ?_ ?_) <;> conv => whnf))) (mStep _ _ _ _ _ _) rfl rfl rfl rfl ?_; conv => whnf) | fail)
  refine ⟨Le.refl _, ⟨LeC.refl _, LeC.of_eq (C.eqI ?_), LeC.refl _, trivial⟩, trivial⟩
  by_cases hz : (gStr s a.toNat (s.size - a.toNat) 24).2.2 = 0
  ·have := ok.1 hz
   exact wrap64 (by omega) (by omega)
  ·have := (ok.2 hz).2
   exact wrap64 (by omega) (by omega)
 ·have e : rTx s a b = (ByteArray.empty, a, b) := by unfold rTx; rw [if_pos (by simpa using hb0)]
  rw [e]
  have hq : (b != 0) = true := by simpa using hb0
  refine mcall_of_vcb htb hmix (f := 173) rfl rfl rfl (by kernel_rfl) rfl rfl rfl fun hb hb2 => ?_; simp only [bndPre, bndAll, AV.bnd, bnds, C.bnd, true_and, and_true] at hb hb2; conv => whnf
  repeat' (first | (refine And.intro (fun h => ?_) (fun h => ?_) <;> (first | skip) <;> (first | (conv => whnf))) | ((with_reducible refine DOr.l ?_); (conv => whnf)) | fail)
  ·exact ⟨Le.refl _, ⟨LeC.refl _, LeC.refl _, LeC.refl _, trivial⟩, trivial⟩
  ·exact absurd (h.symm.trans hq) (by decide)
theorem mNumA (t : Bool) (s : ByteArray) (a b : Int) (h : RgOk s a b) : MCall Tryz.prog gl 175 [cR t s a b] [.ptr 0 0] [cR t s (rShort s a b).2.1 (rShort s a b).2.2] (intA .u64 (rShort s a b).1) := by
 by_cases hb0 : b = 0
 ·obtain ⟨h0, h1⟩ := h hb0
  have hM : (0 : Int) ≤ a ∧ a ≤ s.size := ⟨h0, h1⟩
  subst hb0
  have ok := gS_ok s a.toNat (s.size - a.toNat) 0 0 (Int.le_refl 0)
  have bad := gS_bad s a.toNat (s.size - a.toNat) 0 0
  have e : rShort s a 0 = ((gS s a.toNat (s.size - a.toNat) 0 0).1, a + (gS s a.toNat (s.size - a.toNat) 0 0).2.1, (gS s a.toNat (s.size - a.toNat) 0 0).2.2) := by unfold rShort; rw [if_neg (by decide)]
  rw [e]
  refine mcall_of_vcb htb hmix (f := 175) rfl rfl rfl (by kernel_rfl) rfl rfl rfl fun hb hb2 => ?_; simp only [bndPre, bndAll, AV.bnd, bnds, C.bnd, true_and, and_true] at hb hb2; conv => whnf
  have hn := hb.1
  repeat' (first | (refine Exists.intro _ (And.intro (chainI (aGetShort _ _ _ _)) ?_); conv => whnf) | (refine And.intro (fun h => ?_) (fun h => ?_) <;> (first | skip) <;> (first | exact absurd h (by decide) | (conv => whnf))) | ((with_reducible refine DOr.l ?_); (conv => whnf)) | (refine And.intro ?_ ?_; (focus (first | (first | assumption) | fail)); conv => whnf) | ((with_reducible refine xc_guard ?_); refine xc_mb (by (conv => whnf); repeat' (first | exact trivial | exact rfl | exact LeC.refl _ | ((with_reducible refine And.intro ?_ ?_) <;> conv => whnf))) (mStep _ _ _ _ _ _) rfl rfl rfl rfl ?_; conv => whnf) | fail)
  refine ⟨Le.refl _, ⟨LeC.refl _, LeC.of_eq (C.eqI ?_), LeC.refl _, trivial⟩, trivial⟩
  by_cases hz : (gS s a.toNat (s.size - a.toNat) 0 0).2.2 = 0
  ·have := ok hz
   exact wrap64 (by omega) (by omega)
  ·have := (bad hz).2
   exact wrap64 (by omega) (by omega)
 ·have e : rShort s a b = (0, a, b) := by unfold rShort; rw [if_pos (by simpa using hb0)]
  rw [e]
  have hq : (b != 0) = true := by simpa using hb0
  refine mcall_of_vcb htb hmix (f := 175) rfl rfl rfl (by kernel_rfl) rfl rfl rfl fun hb hb2 => ?_; simp only [bndPre, bndAll, AV.bnd, bnds, C.bnd, true_and, and_true] at hb hb2; conv => whnf
  repeat' (first | (refine And.intro (fun h => ?_) (fun h => ?_) <;> (first | skip) <;> (first | (conv => whnf))) | ((with_reducible refine DOr.l ?_); (conv => whnf)) | fail)
  ·exact ⟨Le.refl _, ⟨LeC.refl _, LeC.refl _, LeC.refl _, trivial⟩, trivial⟩
  ·exact absurd (h.symm.trans hq) (by decide)
theorem mKindA (t : Bool) (s : ByteArray) (a b : Int) (h : RgOk s a b) : MCall Tryz.prog gl 174 [cR t s a b] [.ptr 0 0] [cR t s (rKd s a b).2.1 (rKd s a b).2.2] (intA .i64 (rKd s a b).1) := by
 by_cases hb0 : b = 0
 ·obtain ⟨h0, h1⟩ := h hb0
  have hM : (0 : Int) ≤ a ∧ a ≤ s.size := ⟨h0, h1⟩
  subst hb0
  have hlt := byteN_lt s a.toNat
  have G : ACall Tryz.prog gl 75 [.c (.sl t 1 (s.size - a.toNat) (fun i => strCells s (a.toNat + i))), intA .i64 1] [] (.tup [intA .u64 (if s.size - a.toNat < 1 then 0 else byteN s a.toNat), intA .i64 (if s.size - a.toNat < 1 then 2 else 0)]) := by
   have := aNumGet t (s.size - a.toNat) (fun i => (s.data.toList[a.toNat + i]?).getD 0) 1 (by decide) (by decide)
   rw [nB_one] at this
   exact this
  by_cases hsz : s.size - a.toNat < 1
  ·rw [if_pos hsz, if_pos hsz] at G
   have e : rKd s a 0 = (0, a + 1, 2) := by unfold rKd; rw [if_neg (by decide), if_pos (by simp; omega)]
   rw [e]
   refine mcall_of_vcb htb hmix (f := 174) rfl rfl rfl (by kernel_rfl) rfl rfl rfl fun hb hb2 => ?_; simp only [bndPre, bndAll, AV.bnd, bnds, C.bnd, true_and, and_true] at hb hb2; conv => whnf
   have hn := hb.1
   repeat' (first | (refine Exists.intro _ (And.intro (chainI (G)) ?_); conv => whnf) | (refine And.intro (fun h => ?_) (fun h => ?_) <;> (first | skip) <;> (first | exact absurd h (by decide) | (conv => whnf))) | ((with_reducible refine DOr.l ?_); (conv => whnf)) | (refine And.intro ?_ ?_; (focus (first | (first | assumption) | fail)); conv => whnf) | ((with_reducible refine xc_guard ?_); refine xc_mb (by (conv => whnf); repeat' (first | exact trivial | exact rfl | exact LeC.refl _ | ((with_reducible refine And.intro ?_ ?_) <;> conv => whnf))) (mStep _ _ _ _ _ _) rfl rfl rfl rfl ?_; conv => whnf) | fail)
   exact ⟨Le.refl _, ⟨LeC.refl _, LeC.of_eq (C.eqI (wrap64 (by omega) (by omega))), LeC.refl _, trivial⟩, trivial⟩
  ·rw [if_neg hsz, if_neg hsz] at G
   have e : rKd s a 0 = (byteN s a.toNat, a + 1, if decide (byteN s a.toNat > 2) then 4 else 0) := by unfold rKd; rw [if_neg (by decide), if_neg (by simp; omega)]
   rw [e]
   have wb : IntKind.i64.wrap (byteN s a.toNat) = byteN s a.toNat := wrap64 (by omega) (by omega)
   refine mcall_of_vcb htb hmix (f := 174) rfl rfl rfl (by kernel_rfl) rfl rfl rfl fun hb hb2 => ?_; simp only [bndPre, bndAll, AV.bnd, bnds, C.bnd, true_and, and_true] at hb hb2; conv => whnf
   have hn := hb.1
   repeat' (first | (refine Exists.intro _ (And.intro (chainI (G)) ?_); conv => whnf) | (refine And.intro (fun h => ?_) (fun h => ?_) <;> (first | skip) <;> (first | exact absurd h (by decide) | (conv => whnf))) | ((with_reducible refine DOr.l ?_); (conv => whnf)) | (refine And.intro ?_ ?_; (focus (first | (first | assumption) | fail)); conv => whnf) | ((with_reducible refine xc_guard ?_); refine xc_mb (by (conv => whnf); repeat' (first | exact trivial | exact rfl | exact LeC.refl _ | ((with_reducible refine And.intro ?_ ?_) <;> conv => whnf))) (mStep _ _ _ _ _ _) rfl rfl rfl rfl ?_; conv => whnf) | fail)
   ·rw [if_pos (by simpa using h)]
    exact ⟨leI wb, ⟨LeC.refl _, LeC.of_eq (C.eqI (wrap64 (by omega) (by omega))), LeC.refl _, trivial⟩, trivial⟩
   ·rw [if_neg (by simpa using h)]
    exact ⟨leI wb, ⟨LeC.refl _, LeC.of_eq (C.eqI (wrap64 (by omega) (by omega))), LeC.refl _, trivial⟩, trivial⟩
 ·have e : rKd s a b = (0, a, b) := by unfold rKd; rw [if_pos (by simpa using hb0)]
  rw [e]
  have hq : (b != 0) = true := by simpa using hb0
  refine mcall_of_vcb htb hmix (f := 174) rfl rfl rfl (by kernel_rfl) rfl rfl rfl fun hb hb2 => ?_; simp only [bndPre, bndAll, AV.bnd, bnds, C.bnd, true_and, and_true] at hb hb2; conv => whnf
  repeat' (first | (refine And.intro (fun h => ?_) (fun h => ?_) <;> (first | skip) <;> (first | (conv => whnf))) | ((with_reducible refine DOr.l ?_); (conv => whnf)) | fail)
  ·exact ⟨Le.refl _, ⟨LeC.refl _, LeC.refl _, LeC.refl _, trivial⟩, trivial⟩
  ·exact absurd (h.symm.trans hq) (by decide)
end Go.Proofs.YthaaemhkdefidaaGreatDoor

namespace Go.Proofs.YthaaemhkdefidaaGreatDoor
set_option linter.unusedSimpArgs false
set_option linter.unusedVariables false
set_option maxRecDepth 100000
set_option maxHeartbeats 8000000
open Go Go.VA
def ky0 : Ky := ⟨⟨ByteArray.empty, ByteArray.empty, 0, 0, ByteArray.empty⟩, 0⟩
def kyFin (k : Ky) (i n a e : Int) : Ky × Int × Int :=
 if e != 0 then (ky0, 0, e) else if decide (i > 9223372036854775807) || decide (n > 4294967295) || !okKy k then (ky0, 0, 4) else (k, a, 0)
def gK1 (s : ByteArray) : ByteArray × Int × Int := rTx s 0 0
def gK2 (s : ByteArray) : ByteArray × Int × Int := rTx s (gK1 s).2.1 (gK1 s).2.2
def gK3 (s : ByteArray) : Int × Int × Int := rKd s (gK2 s).2.1 (gK2 s).2.2
def gK4 (s : ByteArray) : Int × Int × Int := rShort s (gK3 s).2.1 (gK3 s).2.2
def gK5 (s : ByteArray) : ByteArray × Int × Int := rTx s (gK3 s).2.1 (gK3 s).2.2
def gKyA (s : ByteArray) : Ky × Int × Int :=
 if (gK3 s).1 == 1 then
  let r := rShort s (gK4 s).2.1 (gK4 s).2.2
  kyFin ⟨⟨(gK1 s).1, (gK2 s).1, (gK3 s).1, IntKind.i64.wrap (bitsI .and .u64 (gK4 s).1 9223372036854775807), ByteArray.empty⟩, IntKind.u32.wrap r.1⟩ (gK4 s).1 r.1 r.2.1 r.2.2
 else if (gK3 s).1 == 2 then
  let r := rShort s (gK5 s).2.1 (gK5 s).2.2
  kyFin ⟨⟨(gK1 s).1, (gK2 s).1, (gK3 s).1, 0, (gK5 s).1⟩, IntKind.u32.wrap r.1⟩ 0 r.1 r.2.1 r.2.2
 else kyFin ⟨⟨(gK1 s).1, (gK2 s).1, (gK3 s).1, 0, ByteArray.empty⟩, IntKind.u32.wrap (gK4 s).1⟩ 0 (gK4 s).1 (gK4 s).2.1 (gK4 s).2.2
theorem rTx_rg {s : ByteArray} {a b : Int} (h : RgOk s a b) : RgOk s (rTx s a b).2.1 (rTx s a b).2.2 := by
 unfold RgOk rTx
 split
 ·rename_i hb
  intro h0
  have h0 : b = 0 := h0
  rw [h0] at hb
  exact absurd hb (by decide)
 ·rename_i hb
  intro h0
  have hb : b = 0 := by simpa using hb
  have := (gStr_ok s a.toNat (s.size - a.toNat) 24).1 h0
  have := h hb
  show 0 ≤ a + (gStr s a.toNat (s.size - a.toNat) 24).2.1 ∧ a + (gStr s a.toNat (s.size - a.toNat) 24).2.1 ≤ s.size
  omega
theorem rSh_rg {s : ByteArray} {a b : Int} (h : RgOk s a b) : RgOk s (rShort s a b).2.1 (rShort s a b).2.2 := by
 unfold RgOk rShort
 split
 ·rename_i hb
  intro h0
  have h0 : b = 0 := h0
  rw [h0] at hb
  exact absurd hb (by decide)
 ·rename_i hb
  intro h0
  have hb : b = 0 := by simpa using hb
  have := gS_ok s a.toNat (s.size - a.toNat) 0 0 (Int.le_refl 0) h0
  have := h hb
  show 0 ≤ a + (gS s a.toNat (s.size - a.toNat) 0 0).2.1 ∧ a + (gS s a.toNat (s.size - a.toNat) 0 0).2.1 ≤ s.size
  omega
theorem rKd_rg {s : ByteArray} {a b : Int} (h : RgOk s a b) : RgOk s (rKd s a b).2.1 (rKd s a b).2.2 := by
 unfold RgOk rKd
 split
 ·rename_i hb
  intro h0
  have h0 : b = 0 := h0
  rw [h0] at hb
  exact absurd hb (by decide)
 ·rename_i hb
  have hb : b = 0 := by simpa using hb
  have := h hb
  split
  ·intro h0; exact absurd (show (2 : Int) = 0 from h0) (by decide)
  ·rename_i h2
   intro _
   simp only [ge_iff_le, decide_eq_true_eq] at h2
   show 0 ≤ a + 1 ∧ a + 1 ≤ s.size
   omega
theorem rg0 (s : ByteArray) : RgOk s 0 0 := fun _ => ⟨Int.le_refl _, by omega⟩
theorem ckn (b : Bool) : ((if b = true then (0 : Int) else 1) != 0) = !b := by cases b <;> rfl
theorem kyFin_e {k : Ky} {i n a e : Int} (h : (e != 0) = true) : kyFin k i n a e = (ky0, 0, e) := by unfold kyFin; rw [if_pos h]
theorem kyFin_b {k : Ky} {i n a e : Int} (h : (e != 0) = false) (h2 : (decide (i > 9223372036854775807) || decide (n > 4294967295) || !okKy k) = true) : kyFin k i n a e = (ky0, 0, 4) := by unfold kyFin; rw [h, if_neg (by decide), if_pos h2]
theorem kyFin_ok {k : Ky} {i n a e : Int} (h : (e != 0) = false) (h2 : (decide (i > 9223372036854775807) || decide (n > 4294967295) || !okKy k) = false) : kyFin k i n a e = (k, a, 0) := by unfold kyFin; rw [h, if_neg (by decide), h2, if_neg (by decide)]
theorem gKyA_1 {s : ByteArray} (h : ((gK3 s).1 == 1) = true) : gKyA s = kyFin ⟨⟨(gK1 s).1, (gK2 s).1, (gK3 s).1, IntKind.i64.wrap (bitsI .and .u64 (gK4 s).1 9223372036854775807), ByteArray.empty⟩, IntKind.u32.wrap (rShort s (gK4 s).2.1 (gK4 s).2.2).1⟩ (gK4 s).1 (rShort s (gK4 s).2.1 (gK4 s).2.2).1 (rShort s (gK4 s).2.1 (gK4 s).2.2).2.1 (rShort s (gK4 s).2.1 (gK4 s).2.2).2.2 := by unfold gKyA; rw [if_pos h]
theorem gKyA_2 {s : ByteArray} (h1 : ((gK3 s).1 == 1) = false) (h : ((gK3 s).1 == 2) = true) : gKyA s = kyFin ⟨⟨(gK1 s).1, (gK2 s).1, (gK3 s).1, 0, (gK5 s).1⟩, IntKind.u32.wrap (rShort s (gK5 s).2.1 (gK5 s).2.2).1⟩ 0 (rShort s (gK5 s).2.1 (gK5 s).2.2).1 (rShort s (gK5 s).2.1 (gK5 s).2.2).2.1 (rShort s (gK5 s).2.1 (gK5 s).2.2).2.2 := by unfold gKyA; rw [h1, if_neg (by decide), if_pos h]
theorem gKyA_0 {s : ByteArray} (h1 : ((gK3 s).1 == 1) = false) (h : ((gK3 s).1 == 2) = false) : gKyA s = kyFin ⟨⟨(gK1 s).1, (gK2 s).1, (gK3 s).1, 0, ByteArray.empty⟩, IntKind.u32.wrap (gK4 s).1⟩ 0 (gK4 s).1 (gK4 s).2.1 (gK4 s).2.2 := by unfold gKyA; rw [h1, if_neg (by decide), h, if_neg (by decide)]
theorem aGetKy (t : Bool) (s : ByteArray) : ACall Tryz.prog gl 148 [.c (.sl t 1 s.size (strCells s))] [] (.tup [.ag (cKy (gKyA s).1), intA .i64 (gKyA s).2.1, intA .i64 (gKyA s).2.2]) := by
 have r1 : RgOk s (gK1 s).2.1 (gK1 s).2.2 := rTx_rg (rg0 s)
 have r2 : RgOk s (gK2 s).2.1 (gK2 s).2.2 := rTx_rg r1
 have r3 : RgOk s (gK3 s).2.1 (gK3 s).2.2 := rKd_rg r2
 have r4 : RgOk s (gK4 s).2.1 (gK4 s).2.2 := rSh_rg r3
 have r5 : RgOk s (gK5 s).2.1 (gK5 s).2.2 := rTx_rg r3
 have r0 := rg0 s
 refine acall_of_vc htb hmix (f := 148) rfl rfl rfl (by kernel_rfl) rfl rfl ?_; conv => whnf
 repeat' (first | ((with_reducible refine GOr.l ?_); (conv => whnf); refine Exists.intro _ (And.intro (chainI (aCheckK ⟨⟨_, _, _, _, _⟩, _⟩)) ?_); conv => whnf) | (refine And.intro (fun h => ?_) (fun h => ?_) <;> (first | skip) <;> (first | (conv => whnf))) | ((with_reducible apply Drawn.one); conv => whnf) | ((with_reducible refine Then.mk' ?_); conv => whnf) | (first | exact RefS.self rfl | fail) | (refine And.intro ?_ ?_; (focus (first | exact rfl | fail)); conv => whnf) | ((with_reducible refine xc_guard ?_); refine xc_mb (by (conv => whnf); repeat' (first | exact trivial | exact rfl | exact LeC.refl _ | ((with_reducible refine And.intro ?_ ?_) <;> conv => whnf))) (mTextA _ _ _ _ ?_) rfl rfl rfl rfl ?_; (focus assumption); conv => whnf) | ((with_reducible refine xc_guard ?_); refine xc_mb (by (conv => whnf); repeat' (first | exact trivial | exact rfl | exact LeC.refl _ | ((with_reducible refine And.intro ?_ ?_) <;> conv => whnf))) (mKindA _ _ _ _ ?_) rfl rfl rfl rfl ?_; (focus assumption); conv => whnf) | ((with_reducible refine xc_guard ?_); refine xc_mb (by (conv => whnf); repeat' (first | exact trivial | exact rfl | exact LeC.refl _ | ((with_reducible refine And.intro ?_ ?_) <;> conv => whnf))) (mNumA _ _ _ _ ?_) rfl rfl rfl rfl ?_; (focus assumption); conv => whnf) | fail)
 all_goals try simp only [ckn] at h
 all_goals first
  | rw [gKyA_1 (s := s) (by assumption)]
  | rw [gKyA_2 (s := s) (by assumption) (by assumption)]
  | rw [gKyA_0 (s := s) (by assumption) (by assumption)]
 all_goals first
  | (rw [kyFin_e (by assumption)]; exact Le.refl _)
  | (rw [kyFin_b (by assumption) (by assumption)]; exact Le.refl _)
  | (rw [kyFin_ok (by assumption) (by assumption)]; exact Le.refl _)
end Go.Proofs.YthaaemhkdefidaaGreatDoor

namespace Go.Proofs.YthaaemhkdefidaaGreatDoor
set_option linter.unusedSimpArgs false
set_option linter.unusedVariables false
set_option maxRecDepth 100000
set_option maxHeartbeats 8000000
open Go Go.VA
/-! ### The document's answers: names, keys, their forms -/
theorem aSmallR (c : Int) : ACall Tryz.prog gl 140 [intA .u8 c] [] (boolA (smZ c)) := by
 refine acall_of_vc htb hmix (f := 140) rfl rfl rfl (by kernel_rfl) rfl rfl ?_; conv => whnf
 repeat' (fail)
 exact leB rfl
theorem spell_split {p : Int → Bool} {s : ByteArray} (h1 : ¬ (s.size : Int) < 1) (h2 : ¬ (s.size : Int) > 24) : spell p s = allB p s := by
 unfold spell
 have a : (s.size == 0) = false := beq_eq_false_iff_ne.2 (by omega)
 have b : s.size ≤ 24 := by omega
 simp [a, b]
theorem allB_t {p : Int → Bool} {s : ByteArray} (h : ∀ j, j < s.size → p (byteN s j) = true) : allB p s = true := by
 unfold allB
 rw [List.all_eq_true]
 intro j hj
 exact h j (by simpa using hj)
theorem allB_f {p : Int → Bool} {s : ByteArray} {c : Nat} (hc : c < s.size) (h : p (byteN s c) = false) : allB p s = false := by
 unfold allB
 rw [List.all_eq_false]
 exact ⟨c, by simpa using hc, by rw [h]; decide⟩
theorem nm_ref (c : Int) : (!smZ c && !(decide (c ≥ 48) && decide (c ≤ 57)) && c != 95) = !nmZ c := by
 unfold nmZ dgZ
 cases smZ c <;> cases (decide (c ≥ 48) && decide (c ≤ 57)) <;> simp [bne]
theorem wd_ref (c : Nat) (h : c < 256) : (!smZ (c : Int) && !(decide ((c : Int) ≥ 65) && decide ((c : Int) ≤ 90)) && !(decide ((c : Int) ≥ 48) && decide ((c : Int) ≤ 57)) && (c : Int) != 95 && (c : Int) != 45 && (c : Int) != 46) = !wdZ (c : Int) := by
 have : ∀ c : Fin 256, (!smZ (c.val : Int) && !(decide ((c.val : Int) ≥ 65) && decide ((c.val : Int) ≤ 90)) && !(decide ((c.val : Int) ≥ 48) && decide ((c.val : Int) ≤ 57)) && (c.val : Int) != 95 && (c.val : Int) != 45 && (c.val : Int) != 46) = !wdZ (c.val : Int) := by decide +kernel
 exact this ⟨c, h⟩
theorem wd_refB (s : ByteArray) (c : Nat) : (!smZ (byteN s c) && !(decide (byteN s c ≥ 65) && decide (byteN s c ≤ 90)) && !(decide (byteN s c ≥ 48) && decide (byteN s c ≤ 57)) && byteN s c != 95 && byteN s c != 45 && byteN s c != 46) = !wdZ (byteN s c) := by
 have e : ((byteN s c).toNat : Int) = byteN s c := by have := byteN_lt s c; omega
 have := wd_ref (byteN s c).toNat (by have := byteN_lt s c; omega)
 rwa [e] at this
theorem aNameR (s : ByteArray) : ACall Tryz.prog gl 101 [.c (.v (.string s))] [] (boolA (nameB s)) := by
 by_cases hA : (s.size : Int) < 1
 ·have hn : nameB s = false := by unfold nameB spell; have : s.size = 0 := by omega
                                  simp [this]
  rw [hn]
  have hq : decide ((s.size : Int) < 1) = true := by simpa using hA
  have hB : (decide ((s.size : Int) < 1) || decide ((s.size : Int) > 24)) = false → (0 : Int) ≤ 0 ∧ (0 : Int) < s.size := fun h => by rw [hq] at h; simp at h
  refine acall_of_vc htb hmix (f := 101) rfl rfl rfl (by kernel_rfl) rfl rfl ?_; conv => whnf
  repeat' (first | ((with_reducible refine GOr.l ?_); (conv => whnf); refine Exists.intro _ (And.intro (chainI (aSmallR _)) ?_); conv => whnf) | (refine And.intro (fun h => ?_) (fun h => ?_) <;> (first | skip) <;> (first | (conv => whnf))) | (refine And.intro ?_ ?_; (focus (first | (first | exact hB | fail) | fail)); conv => whnf) | fail)
  ·exact leB rfl
  ·rw [hq] at h; simp at h
 ·by_cases hC : (s.size : Int) > 24
  ·have hn : nameB s = false := by unfold nameB spell; have : ¬ s.size ≤ 24 := by omega
                                   simp [this]
   rw [hn]
   have hq : decide ((s.size : Int) > 24) = true := by simpa using hC
   have hB : (decide ((s.size : Int) < 1) || decide ((s.size : Int) > 24)) = false → (0 : Int) ≤ 0 ∧ (0 : Int) < s.size := fun h => by rw [hq] at h; simp at h
   refine acall_of_vc htb hmix (f := 101) rfl rfl rfl (by kernel_rfl) rfl rfl ?_; conv => whnf
   repeat' (first | ((with_reducible refine GOr.l ?_); (conv => whnf); refine Exists.intro _ (And.intro (chainI (aSmallR _)) ?_); conv => whnf) | (refine And.intro (fun h => ?_) (fun h => ?_) <;> (first | skip) <;> (first | (conv => whnf))) | (refine And.intro ?_ ?_; (focus (first | (first | exact hB | fail) | fail)); conv => whnf) | fail)
   ·exact leB rfl
   ·rw [hq] at h; simp at h
  ·have hn : nameB s = (allB nmZ s && smZ (byteN s 0)) := by unfold nameB; rw [spell_split hA hC]
   have hB : (decide ((s.size : Int) < 1) || decide ((s.size : Int) > 24)) = false → (0 : Int) ≤ 0 ∧ (0 : Int) < s.size := fun h => by omega
   rw [hn]
   refine acall_of_vc htb hmix (f := 101) rfl rfl rfl (by kernel_rfl) rfl rfl ?_; conv => whnf
   repeat' (first | ((with_reducible refine GOr.l ?_); (conv => whnf); refine Exists.intro _ (And.intro (chainI (aSmallR _)) ?_); conv => whnf) | (refine And.intro (fun h => ?_) (fun h => ?_) <;> (first | skip) <;> (first | (conv => whnf))) | (refine And.intro ?_ ?_; (focus (first | (first | exact hB | fail) | fail)); conv => whnf) | fail)
   ·have q1 : decide ((s.size : Int) < 1) = false := by simpa using hA
    have q2 : decide ((s.size : Int) > 24) = false := by simpa using hC
    rw [q1, q2] at h
    have h : (!smZ (byteN s 0)) = true := h
    refine leB ?_
    have : smZ (byteN s 0) = false := by simpa using h
    rw [this]; simp
   ·have q1 : decide ((s.size : Int) < 1) = false := by simpa using hA
    have q2 : decide ((s.size : Int) > 24) = false := by simpa using hC
    rw [q1, q2] at h
    have h : (!smZ (byteN s 0)) = false := h
    have h0 : smZ (byteN s 0) = true := by simpa using h
    refine loopI Nat (fun c => c ≤ s.size ∧ ∀ j, j < c → nmZ (byteN s j) = true) (fun c => [(3, intA .i64 c)]) (fun _ => []) (fun c => s.size - c) 0 ⟨Nat.zero_le _, fun j hj => absurd hj (Nat.not_lt_zero _)⟩ ?_ (fun _ => rfl) fun c ⟨hc, hp⟩ => ?_
    ·(refine And.intro ?_ (And.intro ?_ (And.intro ?_ rfl)) <;> (conv => whnf) <;> repeat' (first | exact trivial | exact LeE.of (Le.refl _) | (first | exact rfl | fail) | ((with_reducible refine And.intro ?_ ?_) <;> conv => whnf)))
    ·conv => whnf
     repeat' (first | (refine Exists.intro _ (And.intro (aSmallR _) ?_); conv => whnf) | (refine And.intro (fun h => ?_) (fun h => ?_) <;> (first | (with_reducible have hd : _ < _ := of_decide_eq_true h) | (with_reducible have hd : ¬ (_ < _) := of_decide_eq_false h) | skip) <;> (first | (conv => whnf))) | (refine And.intro ?_ ?_; (focus (first | (refine chainI ?_; (first | omega | fail)) | fail)); conv => whnf) | ((with_reducible refine xc_pure ?_); conv => whnf))
     ·have hcs : c < s.size := by omega
      have hq : (!smZ (byteN s c) && !(decide (byteN s c ≥ 48) && decide (byteN s c ≤ 57)) && byteN s c != 95) = true := h
      rw [nm_ref] at hq
      refine leB ?_
      rw [allB_f hcs (by simpa using hq)]; rfl
     ·have hcs : c < s.size := by omega
      have hq : (!smZ (byteN s c) && !(decide (byteN s c ≥ 48) && decide (byteN s c ≤ 57)) && byteN s c != 95) = false := h
      rw [nm_ref] at hq
      refine ⟨c + 1, ⟨hcs, fun j hj => ?_⟩, ?_, by show s.size - (c + 1) < s.size - c; omega⟩
      ·rcases Nat.lt_or_ge j c with h2 | h2
       ·exact hp j h2
       ·obtain rfl : j = c := by omega
        simpa using hq
      ·(refine And.intro ?_ (And.intro ?_ (And.intro ?_ rfl)) <;> (conv => whnf) <;> repeat' (first | exact trivial | exact LeE.of (Le.refl _) | (with_reducible refine LeE.of ?_) | (first | exact rfl | exact leI (by first | rfl | (rw [wrap64 (by omega) (by omega)]; omega) | fail) | fail) | ((with_reducible refine And.intro ?_ ?_) <;> conv => whnf)))
     ·obtain rfl : c = s.size := by omega
      refine leB ?_
      rw [allB_t hp, h0]; rfl
theorem aWordR (s : ByteArray) : ACall Tryz.prog gl 102 [.c (.v (.string s))] [] (boolA (wordB s)) := by
 refine acall_of_vc htb hmix (f := 102) rfl rfl rfl (by kernel_rfl) rfl rfl ?_; conv => whnf
 repeat' (first | (refine And.intro (fun h => ?_) (fun h => ?_) <;> (first | skip) <;> (first | (conv => whnf))) | fail)
 ·refine leB ?_
  unfold wordB spell
  simp only [Bool.or_eq_true, decide_eq_true_eq] at h
  rcases h with h | h
  ·have : s.size = 0 := by omega
   simp [this]
  ·have : ¬ s.size ≤ 24 := by omega
   simp [this]
 ·simp only [Bool.or_eq_false_iff, decide_eq_false_iff_not] at h
  have hw : wordB s = allB wdZ s := spell_split h.1 h.2
  rw [hw]
  refine loopI Nat (fun c => c ≤ s.size ∧ ∀ j, j < c → wdZ (byteN s j) = true) (fun c => [(3, intA .i64 c)]) (fun _ => []) (fun c => s.size - c) 0 ⟨Nat.zero_le _, fun j hj => absurd hj (Nat.not_lt_zero _)⟩ ?_ (fun _ => rfl) fun c ⟨hc, hp⟩ => ?_
  ·(refine And.intro ?_ (And.intro ?_ (And.intro ?_ rfl)) <;> (conv => whnf) <;> repeat' (first | exact trivial | exact LeE.of (Le.refl _) | (first | exact rfl | fail) | ((with_reducible refine And.intro ?_ ?_) <;> conv => whnf)))
  ·conv => whnf
   repeat' (first | (refine Exists.intro _ (And.intro (aSmallR _) ?_); conv => whnf) | (refine And.intro (fun h => ?_) (fun h => ?_) <;> (first | (with_reducible have hd : _ < _ := of_decide_eq_true h) | (with_reducible have hd : ¬ (_ < _) := of_decide_eq_false h) | skip) <;> (first | (conv => whnf))) | (refine And.intro ?_ ?_; (focus (first | (refine chainI ?_; (first | omega | fail)) | fail)); conv => whnf) | ((with_reducible refine xc_pure ?_); conv => whnf))
   ·have hcs : c < s.size := by omega
    have hq : (!smZ (byteN s c) && !(decide (byteN s c ≥ 65) && decide (byteN s c ≤ 90)) && !(decide (byteN s c ≥ 48) && decide (byteN s c ≤ 57)) && byteN s c != 95 && byteN s c != 45 && byteN s c != 46) = true := h
    rw [wd_refB] at hq
    refine leB ?_
    rw [allB_f hcs (by simpa using hq)]
   ·have hcs : c < s.size := by omega
    have hq : (!smZ (byteN s c) && !(decide (byteN s c ≥ 65) && decide (byteN s c ≤ 90)) && !(decide (byteN s c ≥ 48) && decide (byteN s c ≤ 57)) && byteN s c != 95 && byteN s c != 45 && byteN s c != 46) = false := h
    rw [wd_refB] at hq
    refine ⟨c + 1, ⟨hcs, fun j hj => ?_⟩, ?_, by show s.size - (c + 1) < s.size - c; omega⟩
    ·rcases Nat.lt_or_ge j c with h2 | h2
     ·exact hp j h2
     ·obtain rfl : j = c := by omega
      simpa using hq
    ·(refine And.intro ?_ (And.intro ?_ (And.intro ?_ rfl)) <;> (conv => whnf) <;> repeat' (first | exact trivial | exact LeE.of (Le.refl _) | (with_reducible refine LeE.of ?_) | (first | exact rfl | exact leI (by first | rfl | (rw [wrap64 (by omega) (by omega)]; omega) | fail) | fail) | ((with_reducible refine And.intro ?_ ?_) <;> conv => whnf)))
   ·obtain rfl : c = s.size := by omega
    refine leB ?_
    rw [allB_t hp]
theorem aCheckAR (a : Ad) : ACall Tryz.prog gl 54 [.ag (cAd a)] [] (boolA (okAd a)) := by
 refine acall_of_vc htb hmix (f := 54) rfl rfl rfl (by kernel_rfl) rfl rfl ?_; conv => whnf
 repeat' (first | (refine Exists.intro _ (And.intro (aNameR _) ?_); conv => whnf) | ((with_reducible refine GOr.l ?_); (conv => whnf); refine Exists.intro _ (And.intro (chainI (aNameR _)) ?_); conv => whnf) | ((with_reducible refine GOr.l ?_); (conv => whnf); refine Exists.intro _ (And.intro (chainI (aWordR _)) ?_); conv => whnf) | (refine And.intro (fun h => ?_) (fun h => ?_) <;> (first | skip) <;> (first | (conv => whnf))) | ((with_reducible refine xc_pure ?_); conv => whnf))
 all_goals
  refine leB ?_
  try simp only [str_empty]
  unfold okAd
  generalize (a.s.size == 0) = z at *
  simp_all
 all_goals grind
theorem aCheckKR (k : Ky) (hn : 0 ≤ k.n) : ACall Tryz.prog gl 51 [.ag (cKy k)] [] (boolA (okKy k)) := by
 refine acall_of_vc htb hmix (f := 51) rfl rfl rfl (by kernel_rfl) rfl rfl ?_; conv => whnf
 repeat' (first | (refine Exists.intro _ (And.intro (aCheckAR k.a) ?_); conv => whnf) | ((with_reducible refine xc_pure ?_); conv => whnf))
 refine leB ?_
 have e : decide (k.n > 0) = !(k.n == 0) := by
  by_cases h : k.n = 0
  ·rw [h]; rfl
  ·have : k.n > 0 := by omega
   simp [h, this]
 rw [e]
 unfold okKy
 cases okAd k.a <;> cases (k.n == 0) <;> rfl
end Go.Proofs.YthaaemhkdefidaaGreatDoor

namespace Go.Proofs.YthaaemhkdefidaaGreatDoor
set_option linter.unusedSimpArgs false
set_option linter.unusedVariables false
set_option maxRecDepth 100000
set_option maxHeartbeats 8000000
open Go Go.VA
section
variable (s : ByteArray)
def dK1 : ByteArray × Int × Int := gStr s 0 s.size 24
def dK2 : ByteArray × Int × Int := gStr s (dK1 s).2.1.toNat (s.size - (dK1 s).2.1.toNat) 24
def dA2 : Int := IntKind.i64.wrap ((dK1 s).2.1 + (dK2 s).2.1)
def dB : Int := IntKind.i64.wrap (byteN s (dA2 s).toNat)
def dA3 : Int := IntKind.i64.wrap (dA2 s + 1)
def dN : Int × Int × Int := gS s (dA3 s).toNat (s.size - (dA3 s).toNat) 0 0
def dX : ByteArray × Int × Int := gStr s (dA3 s).toNat (s.size - (dA3 s).toNat) 24
def dR (a : Int) : Int × Int × Int := gS s a.toNat (s.size - a.toNat) 0 0
def dFin (k i : Int) (x : ByteArray) (a : Int) : Ky × Int × Int :=
 if (dR s a).2.2 != 0 then (ky0, 0, (dR s a).2.2) else if decide (i > 1000) || decide ((dR s a).1 > 4294967295) then (ky0, 0, 4)
 else if !okKy ⟨⟨(dK1 s).1, (dK2 s).1, k, IntKind.i64.wrap i, x⟩, IntKind.u32.wrap (dR s a).1⟩ then (ky0, 0, 4)
 else (⟨⟨(dK1 s).1, (dK2 s).1, k, IntKind.i64.wrap i, x⟩, IntKind.u32.wrap (dR s a).1⟩, IntKind.i64.wrap (a + (dR s a).2.1), 0)
def dKy : Ky × Int × Int :=
 if (dK1 s).2.2 != 0 then (ky0, 0, (dK1 s).2.2) else if (dK2 s).2.2 != 0 then (ky0, 0, (dK2 s).2.2)
 else if decide (dA2 s ≥ s.size) then (ky0, 0, 2) else if decide (dB s > 2) then (ky0, 0, 4)
 else if dB s == 1 then (if (dN s).2.2 != 0 then (ky0, 0, (dN s).2.2) else dFin s (dB s) (dN s).1 ByteArray.empty (IntKind.i64.wrap (dA3 s + (dN s).2.1)))
 else if dB s == 2 then (if (dX s).2.2 != 0 then (ky0, 0, (dX s).2.2) else dFin s (dB s) 0 (dX s).1 (IntKind.i64.wrap (dA3 s + (dX s).2.1)))
 else dFin s (dB s) 0 ByteArray.empty (dA3 s)
end
theorem ifT {α : Type} {b : Bool} {x y : α} (h : b = true) : (if b = true then x else y) = x := if_pos h
theorem ifF {α : Type} {b : Bool} {x y : α} (h : b = false) : (if b = true then x else y) = y := if_neg (by rw [h]; decide)
structure DRg (s : ByteArray) : Prop where
 b1 : ((dK1 s).2.2 != 0) = false → 0 ≤ (dK1 s).2.1 ∧ (dK1 s).2.1 ≤ s.size
 e2 : ((dK1 s).2.2 != 0) = false → ((dK2 s).2.2 != 0) = false → dA2 s = (dK1 s).2.1 + (dK2 s).2.1 ∧ 0 ≤ dA2 s ∧ dA2 s ≤ s.size
 e3 : ((dK1 s).2.2 != 0) = false → ((dK2 s).2.2 != 0) = false → decide (dA2 s ≥ s.size) = false → dA3 s = dA2 s + 1 ∧ 0 ≤ dA2 s ∧ dA2 s < s.size ∧ 0 ≤ dA3 s ∧ dA3 s ≤ s.size
 e4 : ((dK1 s).2.2 != 0) = false → ((dK2 s).2.2 != 0) = false → decide (dA2 s ≥ s.size) = false → ((dN s).2.2 != 0) = false → IntKind.i64.wrap (dA3 s + (dN s).2.1) = dA3 s + (dN s).2.1 ∧ 0 ≤ dA3 s + (dN s).2.1 ∧ dA3 s + (dN s).2.1 ≤ s.size
 e5 : ((dK1 s).2.2 != 0) = false → ((dK2 s).2.2 != 0) = false → decide (dA2 s ≥ s.size) = false → ((dX s).2.2 != 0) = false → IntKind.i64.wrap (dA3 s + (dX s).2.1) = dA3 s + (dX s).2.1 ∧ 0 ≤ dA3 s + (dX s).2.1 ∧ dA3 s + (dX s).2.1 ≤ s.size
theorem dRg {s : ByteArray} (hs : s.size ≤ 140737488355328) : DRg s := by
 have b1 : ((dK1 s).2.2 != 0) = false → 0 ≤ (dK1 s).2.1 ∧ (dK1 s).2.1 ≤ s.size := fun h => by
  have hz : (dK1 s).2.2 = 0 := by simpa using h
  exact (gStr_ok s 0 s.size 24).1 hz
 have e2 : ((dK1 s).2.2 != 0) = false → ((dK2 s).2.2 != 0) = false → dA2 s = (dK1 s).2.1 + (dK2 s).2.1 ∧ 0 ≤ dA2 s ∧ dA2 s ≤ s.size := fun h1 h2 => by
  have q1 := b1 h1
  have hz : (dK2 s).2.2 = 0 := by simpa using h2
  have q2 := (gStr_ok s (dK1 s).2.1.toNat (s.size - (dK1 s).2.1.toNat) 24).1 hz
  change 0 ≤ (dK2 s).2.1 ∧ (dK2 s).2.1 ≤ ((s.size - (dK1 s).2.1.toNat : Nat) : Int) at q2
  have : dA2 s = (dK1 s).2.1 + (dK2 s).2.1 := wrap64 (by omega) (by omega)
  omega
 have e3 : ((dK1 s).2.2 != 0) = false → ((dK2 s).2.2 != 0) = false → decide (dA2 s ≥ s.size) = false → dA3 s = dA2 s + 1 ∧ 0 ≤ dA2 s ∧ dA2 s < s.size ∧ 0 ≤ dA3 s ∧ dA3 s ≤ s.size := fun h1 h2 h3 => by
  have q2 := e2 h1 h2
  simp only [ge_iff_le, decide_eq_false_iff_not] at h3
  have : dA3 s = dA2 s + 1 := wrap64 (by omega) (by omega)
  omega
 refine ⟨b1, e2, e3, fun h1 h2 h3 h4 => ?_, fun h1 h2 h3 h4 => ?_⟩
 ·have q3 := e3 h1 h2 h3
  have hz : (dN s).2.2 = 0 := by simpa using h4
  have q4 := gS_ok s (dA3 s).toNat (s.size - (dA3 s).toNat) 0 0 (Int.le_refl 0) hz
  change ((0 : Nat) : Int) < (dN s).2.1 ∧ (dN s).2.1 ≤ ((0 : Nat) : Int) + ((s.size - (dA3 s).toNat : Nat) : Int) ∧ _ at q4
  have : IntKind.i64.wrap (dA3 s + (dN s).2.1) = dA3 s + (dN s).2.1 := wrap64 (by omega) (by omega)
  omega
 ·have q3 := e3 h1 h2 h3
  have hz : (dX s).2.2 = 0 := by simpa using h4
  have q4 := (gStr_ok s (dA3 s).toNat (s.size - (dA3 s).toNat) 24).1 hz
  change 0 ≤ (dX s).2.1 ∧ (dX s).2.1 ≤ ((s.size - (dA3 s).toNat : Nat) : Int) at q4
  have : IntKind.i64.wrap (dA3 s + (dX s).2.1) = dA3 s + (dX s).2.1 := wrap64 (by omega) (by omega)
  omega
theorem aGetKyR (t : Bool) (s : ByteArray) : ACall Tryz.prog gl 121 [.c (.sl t 1 s.size (strCells s))] [] (.tup [.ag (cKy (dKy s).1), intA .i64 (dKy s).2.1, intA .i64 (dKy s).2.2]) := by
 refine acall_of_vcb htb hmix (f := 121) rfl rfl rfl (by kernel_rfl) rfl rfl fun hb => ?_; simp only [bndAll, AV.bnd, bnds, C.bnd, cVt, cS, true_and, and_true] at hb; conv => whnf
 have hn : s.size ≤ 140737488355328 := hb.1
 have R := dRg hn
 have b1 := R.b1
 have b2 := fun h1 h2 h3 => (show 0 ≤ dA2 s ∧ dA2 s < s.size from ⟨(R.e3 h1 h2 h3).2.1, (R.e3 h1 h2 h3).2.2.1⟩)
 have b3 := fun h1 h2 h3 => (R.e3 h1 h2 h3).2.2.2
 have b4 := fun h1 h2 h3 h4 => (show 0 ≤ IntKind.i64.wrap (dA3 s + (dN s).2.1) ∧ IntKind.i64.wrap (dA3 s + (dN s).2.1) ≤ s.size from by have := R.e4 h1 h2 h3 h4; omega)
 have b5 := fun h1 h2 h3 h4 => (show 0 ≤ IntKind.i64.wrap (dA3 s + (dX s).2.1) ∧ IntKind.i64.wrap (dA3 s + (dX s).2.1) ≤ s.size from by have := R.e5 h1 h2 h3 h4; omega)
 have k12 : (dB s == 1) = true → (dB s == 2) = true → False := fun h1 h2 => absurd (eq_of_beq h1) (by rw [eq_of_beq h2]; decide)
 have wu : 0 ≤ IntKind.u32.wrap 0 := by decide
 have G0 : ACall Tryz.prog gl 151 [.c (.sl t 1 s.size (strCells s)), intA .i64 24] [] (.tup [.c (.v (.string (dK1 s).1)), intA .i64 (dK1 s).2.1, intA .i64 (dK1 s).2.2]) := (aGetStrR t s.size s 0 24).le ⟨leSl rfl (fun i _ => by rw [Nat.zero_add]), Le.refl _, trivial⟩
 have CK := fun k h => aCheckKR k h
 repeat' (first | (refine Exists.intro _ (And.intro (G0) ?_); conv => whnf) | (refine Exists.intro _ (And.intro (aGetStrR _ _ _ _ _) ?_); conv => whnf) | (refine Exists.intro _ (And.intro (aShortR _ _ _ _) ?_); conv => whnf) | (refine Exists.intro _ (And.intro (aCheckKR ⟨⟨_, _, _, _, _⟩, _⟩ (Int.emod_nonneg _ (by decide))) ?_); conv => whnf) | (refine And.intro (fun h => ?_) (fun h => ?_) <;> (first | (with_reducible have hd : _ < _ := of_decide_eq_true h) | (with_reducible have hd : _ ≤ _ := of_decide_eq_true h) | (with_reducible have hd : ¬ (_ < _) := of_decide_eq_false h) | (with_reducible have hd : ¬ (_ ≤ _) := of_decide_eq_false h) | skip) <;> (first | exact (k12 (by assumption) h).elim | (conv => whnf))) | (refine And.intro ?_ ?_; (focus (first | (first | exact b1 (by assumption) | exact b2 (by assumption) (by assumption) (by assumption) | exact b3 (by assumption) (by assumption) (by assumption) | exact b4 (by assumption) (by assumption) (by assumption) (by assumption) | exact b5 (by assumption) (by assumption) (by assumption) (by assumption) | fail) | fail)); conv => whnf) | ((with_reducible refine xc_pure ?_); conv => whnf))
 all_goals unfold dKy dFin
 all_goals repeat (first | (rw [ifT]; rotate_left; (focus assumption)) | (rw [ifF]; rotate_left; (focus assumption)))
 all_goals exact Le.refl _
end Go.Proofs.YthaaemhkdefidaaGreatDoor

namespace Go.Proofs.YthaaemhkdefidaaGreatDoor
set_option linter.unusedSimpArgs false
set_option linter.unusedVariables false
set_option maxRecDepth 100000
set_option maxHeartbeats 8000000
open Go Go.VA
/-! ### Keys: what is read is what the document says -/
theorem and_max (i : Int) (h0 : 0 ≤ i) (h : i ≤ 9223372036854775807) : bitsI .and .u64 i 9223372036854775807 = i := by
 obtain ⟨n, rfl⟩ := Int.eq_ofNat_of_zero_le h0
 unfold bitsI
 show IntKind.u64.wrap (((BitVec.ofInt 64 (n : Int) &&& BitVec.ofInt 64 9223372036854775807).toNat : Nat) : Int) = _
 rw [BitVec.toNat_and, ofNat64 _ (by omega), show (BitVec.ofInt 64 9223372036854775807).toNat = 2 ^ 63 - 1 from by decide, Nat.and_two_pow_sub_one_eq_mod, Nat.mod_eq_of_lt (by omega)]
 exact wrapU (by omega) (by omega)
theorem gS_nn (s : ByteArray) (k : Nat) : ∀ (m i : Nat) (acc : Int), 0 ≤ acc → 0 ≤ (gS s k m i acc).1
 | 0, _, _, _ => Int.le_refl 0
 | m + 1, i, acc, h => by
  simp only [gS]
  split
  ·exact Int.le_refl 0
  ·split
   ·split
    ·exact Int.le_refl 0
    ·exact gSt_nn _ _ _
   ·exact gS_nn s k m (i + 1) _ (gSt_nn _ _ _)
theorem rTx_bad {s : ByteArray} {a b : Int} (h : (b != 0) = true) : rTx s a b = (ByteArray.empty, a, b) := by unfold rTx; rw [if_pos h]
theorem rKd_bad {s : ByteArray} {a b : Int} (h : (b != 0) = true) : rKd s a b = (0, a, b) := by unfold rKd; rw [if_pos h]
theorem rSh_bad {s : ByteArray} {a b : Int} (h : (b != 0) = true) : rShort s a b = (0, a, b) := by unfold rShort; rw [if_pos h]
theorem rTx_go (s : ByteArray) (a : Int) : rTx s a 0 = ((gStr s a.toNat (s.size - a.toNat) 24).1, a + (gStr s a.toNat (s.size - a.toNat) 24).2.1, (gStr s a.toNat (s.size - a.toNat) 24).2.2) := by unfold rTx; rw [if_neg (by decide)]
theorem rSh_go (s : ByteArray) (a : Int) : rShort s a 0 = ((dR s a).1, a + (dR s a).2.1, (dR s a).2.2) := by unfold rShort; rw [if_neg (by decide)]; rfl
theorem rKd_go (s : ByteArray) (a : Int) : rKd s a 0 = if decide (a ≥ s.size) then (0, a + 1, 2) else (byteAt s a, a + 1, if decide (byteAt s a > 2) then 4 else 0) := by unfold rKd; rw [if_neg (by decide)]
theorem gK1_eq (s : ByteArray) : gK1 s = ((dK1 s).1, (dK1 s).2.1, (dK1 s).2.2) := by
 unfold gK1
 rw [rTx_go]
 show (_, 0 + (dK1 s).2.1, _) = _
 rw [Int.zero_add]; rfl
theorem z0 {x : Int} (h : (x != 0) = false) : x = 0 := by simpa using h
theorem gKy_err {s : ByteArray} (h : ((gK3 s).2.2 != 0) = true) (h1 : ((gK3 s).1 == 1) = false) (h2 : ((gK3 s).1 == 2) = false) : gKyA s = (ky0, 0, (gK3 s).2.2) := by
 rw [gKyA_0 h1 h2]
 have e : gK4 s = (0, (gK3 s).2.1, (gK3 s).2.2) := rSh_bad h
 rw [e]
 exact kyFin_e h
theorem kfin_law {s : ByteArray} (hs : s.size ≤ 140737488355328) {k i I a : Int} {x : ByteArray} (h0 : 0 ≤ i) (hI : i ≤ 1000 → I = IntKind.i64.wrap i) (hbig : 1000 < i → i ≤ 9223372036854775807 → 128 ≤ I) (ha : 0 ≤ a ∧ a ≤ s.size) :
  kyFin ⟨⟨(dK1 s).1, (dK2 s).1, k, I, x⟩, IntKind.u32.wrap (dR s a).1⟩ i (dR s a).1 (a + (dR s a).2.1) (dR s a).2.2 = dFin s k i x a := by
 unfold kyFin dFin
 by_cases he : ((dR s a).2.2 != 0) = true
 ·rw [if_pos he, if_pos he]
 ·rw [if_neg he, if_neg he]
  have he0 : (dR s a).2.2 = 0 := by simpa using he
  by_cases hi : i > 1000
  ·rw [if_pos (show (decide (i > 1000) || decide ((dR s a).1 > 4294967295)) = true by simp [hi])]
   refine if_pos ?_
   by_cases hm : i > 9223372036854775807
   ·simp [hm]
   ·have hI2 := hbig hi (by omega)
    have : okKy ⟨⟨(dK1 s).1, (dK2 s).1, k, I, x⟩, IntKind.u32.wrap (dR s a).1⟩ = false := by
     rw [Bool.eq_false_iff]
     intro hk
     have := (okKy_le hk).1.2.2.2.2.2.2
     have : I < 128 := this
     omega
    rw [this]; simp
  ·have hI1 := hI (by omega)
   subst hI1
   have q1 : decide (i > 9223372036854775807) = false := by simp; omega
   have q2 : decide (i > 1000) = false := by simp; omega
   have q := gS_ok s a.toNat (s.size - a.toNat) 0 0 (Int.le_refl 0) he0
   change ((0 : Nat) : Int) < (dR s a).2.1 ∧ (dR s a).2.1 ≤ ((0 : Nat) : Int) + ((s.size - a.toNat : Nat) : Int) ∧ _ at q
   rw [wrap64 (n := a + (dR s a).2.1) (by omega) (by omega), q1, q2]
   by_cases hn : (dR s a).1 > 4294967295
   ·rw [if_pos (by simp [hn]), if_pos (by simp [hn])]
   ·have qn : decide ((dR s a).1 > 4294967295) = false := by simpa using hn
    rw [qn]
    simp only [Bool.or_self, Bool.false_or, Bool.false_eq_true, if_false]
theorem ky_eq {s : ByteArray} (hs : s.size ≤ 140737488355328) : gKyA s = dKy s := by
 have R := dRg hs
 have e1 := gK1_eq s
 unfold dKy
 by_cases h1 : ((dK1 s).2.2 != 0) = true
 ·rw [ifT h1]
  have e2 : gK2 s = (ByteArray.empty, (dK1 s).2.1, (dK1 s).2.2) := by unfold gK2; rw [e1]; exact rTx_bad h1
  have e3 : gK3 s = (0, (dK1 s).2.1, (dK1 s).2.2) := by unfold gK3; rw [e2]; exact rKd_bad h1
  rw [gKy_err (by rw [e3]; exact h1) (by rw [e3]; rfl) (by rw [e3]; rfl), e3]
 have h1 : ((dK1 s).2.2 != 0) = false := by simpa using h1
 rw [ifF h1]
 have e2 : gK2 s = ((dK2 s).1, (dK1 s).2.1 + (dK2 s).2.1, (dK2 s).2.2) := by unfold gK2; rw [e1]; show rTx s (dK1 s).2.1 (dK1 s).2.2 = _; rw [z0 h1, rTx_go]; rfl
 by_cases h2 : ((dK2 s).2.2 != 0) = true
 ·rw [ifT h2]
  have e3 : gK3 s = (0, (dK1 s).2.1 + (dK2 s).2.1, (dK2 s).2.2) := by unfold gK3; rw [e2]; exact rKd_bad h2
  rw [gKy_err (by rw [e3]; exact h2) (by rw [e3]; rfl) (by rw [e3]; rfl), e3]
 have h2 : ((dK2 s).2.2 != 0) = false := by simpa using h2
 rw [ifF h2]
 have a2 := (R.e2 h1 h2).1
 have e3 : gK3 s = if decide (dA2 s ≥ s.size) then (0, dA2 s + 1, 2) else (byteAt s (dA2 s), dA2 s + 1, if decide (byteAt s (dA2 s) > 2) then 4 else 0) := by
  unfold gK3; rw [e2]; show rKd s ((dK1 s).2.1 + (dK2 s).2.1) (dK2 s).2.2 = _; rw [← a2, z0 h2, rKd_go]
 by_cases h3 : decide (dA2 s ≥ s.size) = true
 ·rw [ifT h3]
  rw [ifT h3] at e3
  rw [gKy_err (by rw [e3]; rfl) (by rw [e3]; rfl) (by rw [e3]; rfl), e3]
 have h3 : decide (dA2 s ≥ s.size) = false := by simpa using h3
 rw [ifF h3]
 rw [ifF h3] at e3
 have q3 := R.e3 h1 h2 h3
 have hb := byteN_lt s (dA2 s).toNat
 have eB : dB s = byteAt s (dA2 s) := wrap64 (by omega) (by omega)
 rw [← eB, ← q3.1] at e3
 by_cases h4 : decide (dB s > 2) = true
 ·rw [ifT h4]
  rw [ifT h4] at e3
  have h4' := of_decide_eq_true h4
  rw [gKy_err (by rw [e3]; rfl) (by rw [e3]; exact beq_eq_false_iff_ne.2 (by show dB s ≠ 1; omega)) (by rw [e3]; exact beq_eq_false_iff_ne.2 (by show dB s ≠ 2; omega)), e3]
 have h4 : decide (dB s > 2) = false := by simpa using h4
 rw [ifF h4]
 rw [ifF h4] at e3
 have e4 : gK4 s = ((dN s).1, dA3 s + (dN s).2.1, (dN s).2.2) := by unfold gK4; rw [e3]; exact rSh_go s _
 have e5 : gK5 s = ((dX s).1, dA3 s + (dX s).2.1, (dX s).2.2) := by unfold gK5; rw [e3]; exact rTx_go s _
 have n1 : (gK1 s).1 = (dK1 s).1 := by rw [e1]
 have n2 : (gK2 s).1 = (dK2 s).1 := by rw [e2]
 have n3 : (gK3 s).1 = dB s := by rw [e3]
 by_cases h5 : (dB s == 1) = true
 ·rw [ifT h5, gKyA_1 (by rw [n3]; exact h5), n1, n2, n3, e4]
  have q := gS_nn s (dA3 s).toNat (s.size - (dA3 s).toNat) 0 0 (Int.le_refl 0)
  change 0 ≤ (dN s).1 at q
  by_cases h6 : ((dN s).2.2 != 0) = true
  ·rw [ifT h6]
   show kyFin _ _ (rShort s _ (dN s).2.2).1 (rShort s _ (dN s).2.2).2.1 (rShort s _ (dN s).2.2).2.2 = _
   rw [rSh_bad h6]
   exact kyFin_e h6
  ·have h6 : ((dN s).2.2 != 0) = false := by simpa using h6
   rw [ifF h6]
   have q6 := R.e4 h1 h2 h3 h6
   rw [q6.1]
   show kyFin ⟨⟨_, _, _, _, _⟩, IntKind.u32.wrap (rShort s (dA3 s + (dN s).2.1) (dN s).2.2).1⟩ _ (rShort s _ (dN s).2.2).1 (rShort s _ (dN s).2.2).2.1 (rShort s _ (dN s).2.2).2.2 = _
   rw [z0 h6, rSh_go]
   refine kfin_law hs q (fun h => by rw [and_max _ q (by omega)]) (fun h h' => by rw [and_max _ q h', wrap64 (by omega) (by omega)]; omega) q6.2
 have h5 : (dB s == 1) = false := by simpa using h5
 rw [ifF h5]
 by_cases h7 : (dB s == 2) = true
 ·rw [ifT h7, gKyA_2 (by rw [n3]; exact h5) (by rw [n3]; exact h7), n1, n2, n3, e5]
  by_cases h6 : ((dX s).2.2 != 0) = true
  ·rw [ifT h6]
   show kyFin _ _ (rShort s _ (dX s).2.2).1 (rShort s _ (dX s).2.2).2.1 (rShort s _ (dX s).2.2).2.2 = _
   rw [rSh_bad h6]
   exact kyFin_e h6
  ·have h6 : ((dX s).2.2 != 0) = false := by simpa using h6
   rw [ifF h6]
   have q6 := R.e5 h1 h2 h3 h6
   rw [q6.1]
   show kyFin ⟨⟨_, _, _, _, _⟩, IntKind.u32.wrap (rShort s (dA3 s + (dX s).2.1) (dX s).2.2).1⟩ _ (rShort s _ (dX s).2.2).1 (rShort s _ (dX s).2.2).2.1 (rShort s _ (dX s).2.2).2.2 = _
   rw [z0 h6, rSh_go]
   exact kfin_law hs (Int.le_refl 0) (fun _ => rfl) (fun h => absurd h (by decide)) q6.2
 have h7 : (dB s == 2) = false := by simpa using h7
 rw [ifF h7, gKyA_0 (by rw [n3]; exact h5) (by rw [n3]; exact h7), n1, n2, n3]
 have e4' : gK4 s = ((dR s (dA3 s)).1, dA3 s + (dR s (dA3 s)).2.1, (dR s (dA3 s)).2.2) := e4
 rw [e4']
 exact kfin_law hs (Int.le_refl 0) (fun _ => rfl) (fun h => absurd h (by decide)) q3.2.2.2
end Go.Proofs.YthaaemhkdefidaaGreatDoor

namespace Go.Proofs.YthaaemhkdefidaaGreatDoor
set_option linter.unusedSimpArgs false
set_option linter.unusedVariables false
set_option maxRecDepth 100000
set_option maxHeartbeats 8000000
open Go Go.VA
/-! ### a key that was laid is read as it was -/
end Go.Proofs.YthaaemhkdefidaaGreatDoor
