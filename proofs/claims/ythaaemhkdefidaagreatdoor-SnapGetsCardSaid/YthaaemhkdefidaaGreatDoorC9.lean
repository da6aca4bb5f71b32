/- Contracts of functions of the program, and the laws that stand on them: what each function answers, whatever its arguments. -/
import Derived.Test.YthaaemhkdefidaaGreatDoorC6
set_option linter.unusedSectionVars false
set_option linter.unnecessarySimpa false
namespace Go.Proofs.YthaaemhkdefidaaGreatDoor
set_option linter.unusedSimpArgs false
set_option linter.unusedVariables false
set_option maxRecDepth 100000
set_option maxHeartbeats 8000000
open Go Go.VA
theorem byteN_lt (s : ByteArray) (i : Nat) : 0 ≤ byteN s i ∧ byteN s i < 256 := by
 unfold byteN
 have := ((s.data.toList[i]?).getD 0).toNat_lt
 omega
theorem or_sum (x z k : Nat) (hx : x < 2 ^ k) (h : x + z * 2 ^ k < 2 ^ 64) : bitsI .or .u64 x ((z * 2 ^ k : Nat) : Int) = ((x + z * 2 ^ k : Nat) : Int) := by
 unfold bitsI
 show IntKind.u64.wrap (((BitVec.ofInt 64 (x : Int) ||| BitVec.ofInt 64 ((z * 2 ^ k : Nat) : Int)).toNat : Nat) : Int) = _
 have e1 : (BitVec.ofInt 64 (x : Int)).toNat = x := by simp; omega
 have e2 : (BitVec.ofInt 64 ((z * 2 ^ k : Nat) : Int)).toNat = z * 2 ^ k := by
  rw [BitVec.ofInt_natCast, BitVec.toNat_ofNat]; omega
 rw [BitVec.toNat_or, e1, e2, Nat.or_comm, Nat.mul_comm z, ← Nat.two_pow_add_eq_or_of_lt hx, Nat.mul_comm, Nat.add_comm]
 show ((x + z * 2 ^ k : Nat) : Int) % 18446744073709551616 = _
 omega
theorem and127 (c : Nat) (h : c < 256) : IntKind.u64.wrap (bitsI .and .u8 c 127) = ((c % 128 : Nat) : Int) := by
 have : ∀ c : Fin 256, IntKind.u64.wrap (bitsI .and .u8 (c.val : Int) 127) = ((c.val % 128 : Nat) : Int) := by decide +kernel
 exact this ⟨c, h⟩
theorem shl7 (x : Int) (i : Nat) (hi : i ≤ 9) : shlI .u64 x (IntKind.u64.wrap (7 * IntKind.u64.wrap i)) = (x * 2 ^ (7 * i)) % 18446744073709551616 := by
 have hi' : i = 0 ∨ i = 1 ∨ i = 2 ∨ i = 3 ∨ i = 4 ∨ i = 5 ∨ i = 6 ∨ i = 7 ∨ i = 8 ∨ i = 9 := by omega
 rcases hi' with rfl | rfl | rfl | rfl | rfl | rfl | rfl | rfl | rfl | rfl <;> rfl
theorem pow7 (c i : Nat) (hi : i ≤ 9) (h9 : i = 9 → c ≤ 1) : (c % 128) * 2 ^ (7 * i) + 2 ^ (7 * i) ≤ 2 ^ 64 := by
 have hm : c % 128 < 128 := Nat.mod_lt _ (by decide)
 have hi' : i = 0 ∨ i = 1 ∨ i = 2 ∨ i = 3 ∨ i = 4 ∨ i = 5 ∨ i = 6 ∨ i = 7 ∨ i = 8 ∨ i = 9 := by omega
 rcases hi' with rfl | rfl | rfl | rfl | rfl | rfl | rfl | rfl | rfl | rfl <;> omega
theorem gSt_eq (acc : Nat) (i : Nat) (c : Nat) (hc : c < 256) (hi : i ≤ 9) (ha : acc < 2 ^ (7 * i)) (h9 : i = 9 → c ≤ 1) : gSt acc i c = ((acc + (c % 128) * 2 ^ (7 * i) : Nat) : Int) := by
 unfold gSt
 have hp := pow7 c i hi h9
 have e : (((c % 128 : Nat) : Int) * 2 ^ (7 * i)) % 18446744073709551616 = (((c % 128) * 2 ^ (7 * i) : Nat) : Int) := by
  have : (((c % 128 : Nat) : Int) * 2 ^ (7 * i)) = (((c % 128) * 2 ^ (7 * i) : Nat) : Int) := by push_cast; rfl
  rw [this]
  omega
 rw [and127 c hc, shl7 _ i hi, e]
 exact or_sum acc (c % 128) (7 * i) ha (by omega)
theorem gRt_eq (acc : Nat) (i : Nat) (c : Nat) (hc : c < 256) (hi : i ≤ 9) (ha : acc < 2 ^ (7 * i)) (h9 : i = 9 → c ≤ 1) :
  IntKind.u64.wrap ((acc : Int) + IntKind.u64.wrap (IntKind.u64.wrap (((c : Nat) : Int).tmod 128) * ((2 ^ (7 * i) : Nat) : Int))) = ((acc + (c % 128) * 2 ^ (7 * i) : Nat) : Int) := by
 have hp := pow7 c i hi h9
 have e0 : IntKind.u64.wrap (((c : Nat) : Int).tmod 128) = ((c % 128 : Nat) : Int) := by
  have : ((c : Nat) : Int).tmod 128 = ((c % 128 : Nat) : Int) := by rw [Int.tmod_eq_emod_of_nonneg (by omega)]; rfl
  rw [this, wrapU (by omega) (by omega)]
 rw [e0, show ((c % 128 : Nat) : Int) * ((2 ^ (7 * i) : Nat) : Int) = (((c % 128) * 2 ^ (7 * i) : Nat) : Int) by push_cast; rfl]
 have w : ∀ n : Nat, n < 2 ^ 64 → IntKind.u64.wrap (n : Int) = (n : Int) := fun n hn => by show (n : Int) % 18446744073709551616 = _; omega
 rw [w _ (by omega), show (acc : Int) + (((c % 128) * 2 ^ (7 * i) : Nat) : Int) = ((acc + (c % 128) * 2 ^ (7 * i) : Nat) : Int) by push_cast; rfl, w _ (by omega)]
/-- the document's numbers are these -/
theorem gR_eq (s : ByteArray) (k : Nat) : ∀ (m i acc : Nat), i ≤ 9 → acc < 2 ^ (7 * i) → gR s k (min m (10 - i)) i acc ((2 ^ (7 * i) : Nat) : Int) = gS s k m i acc
 | 0, i, acc, hi, ha => by simp [gR, gS]
 | m + 1, i, acc, hi, ha => by
  rw [show min (m + 1) (10 - i) = min m (9 - i) + 1 from by omega]
  simp only [gR, gS]
  have hb := byteN_lt s (k + i)
  obtain ⟨c, hc⟩ : ∃ c : Nat, byteN s (k + i) = (c : Int) := ⟨(byteN s (k + i)).toNat, by omega⟩
  rw [hc]
  have hc' : c < 256 := by omega
  by_cases h1 : ((i : Int) == 9 && decide ((c : Int) > 1)) = true
  ·rw [if_pos h1, if_pos h1]
  ·rw [if_neg h1, if_neg h1]
   have h9 : i = 9 → c ≤ 1 := fun h => by subst h; simp at h1; omega
   by_cases h2 : decide ((c : Int) < 128) = true
   ·rw [if_pos h2, if_pos h2, gRt_eq acc i c hc' hi ha h9, gSt_eq acc i c hc' hi ha h9]
   ·rw [if_neg h2, if_neg h2, gRt_eq acc i c hc' hi ha h9, gSt_eq acc i c hc' hi ha h9]
    have hi' : i ≤ 8 := by
     by_cases h : i = 9
     ·have := h9 h; simp at h2; omega
     ·omega
    have hp := pow7 c i hi h9
    have hp1 : 2 ^ (7 * (i + 1)) = 128 * 2 ^ (7 * i) := by rw [show 7 * (i + 1) = 7 + 7 * i from by omega, Nat.pow_add]
    have hu : IntKind.u64.wrap (((2 ^ (7 * i) : Nat) : Int) * 128) = ((2 ^ (7 * (i + 1)) : Nat) : Int) := by
     have hi2 : i = 0 ∨ i = 1 ∨ i = 2 ∨ i = 3 ∨ i = 4 ∨ i = 5 ∨ i = 6 ∨ i = 7 ∨ i = 8 := by omega
     rcases hi2 with rfl | rfl | rfl | rfl | rfl | rfl | rfl | rfl | rfl <;> rfl
    rw [hu]
    have hm : c % 128 < 128 := Nat.mod_lt _ (by decide)
    have := gR_eq s k m (i + 1) (acc + (c % 128) * 2 ^ (7 * i)) (by omega) (by
     rw [hp1]
     have : (c % 128) * 2 ^ (7 * i) ≤ 127 * 2 ^ (7 * i) := Nat.mul_le_mul_right _ (by omega)
     omega)
    rw [show 10 - (i + 1) = 9 - i from by omega] at this
    exact this
theorem aShortR (t : Bool) (n : Nat) (s : ByteArray) (k : Nat) : ACall Tryz.prog gl 80 [.c (.sl t 1 n (fun i => strCells s (k + i)))] [] (gT (gS s k n 0 0)) := by
 have := gR_eq s k n 0 0 (by decide) (by decide)
 have e : gR s k (min n 10) 0 0 1 = gS s k n 0 0 := this
 rw [← e]
 exact aGetShortR t n s k
theorem aGetStrR (t : Bool) (n : Nat) (s : ByteArray) (k : Nat) (most : Int) : ACall Tryz.prog gl 151 [.c (.sl t 1 n (fun i => strCells s (k + i))), intA .i64 most] [] (.tup [.c (.v (.string (gStr s k n most).1)), intA .i64 (gStr s k n most).2.1, intA .i64 (gStr s k n most).2.2]) := by
 refine acall_of_vcb htb hmix (f := 151) rfl rfl rfl (by kernel_rfl) rfl rfl fun hb => ?_; simp only [bndAll, AV.bnd, bnds, C.bnd, cVt, cS, true_and, and_true] at hb; conv => whnf
 have hn : n ≤ 140737488355328 := hb.1.1
 have ok := gS_ok s k n 0 0 (Int.le_refl 0)
 repeat' (first | (refine Exists.intro _ (And.intro (aShortR _ _ _ _) ?_); conv => whnf) | (refine And.intro (fun h => ?_) (fun h => ?_) <;> (first | (with_reducible have hd : _ < _ := of_decide_eq_true h) | (with_reducible have hd : ¬ (_ < _) := of_decide_eq_false h) | skip) <;> conv => whnf) | ((with_reducible refine xc_pure ?_); conv => whnf))
 ·have e : gStr s k n most = (ByteArray.empty, 0, (gS s k n 0 0).2.2) := by unfold gStr; rw [if_pos h]
  rw [e]; exact Le.refl _
 ·rename_i h1
  have e : gStr s k n most = (ByteArray.empty, 0, 3) := by unfold gStr; rw [if_neg (by rw [h1]; simp), if_pos h]
  rw [e]; exact Le.refl _
 ·rename_i h1 h2 _
  have o := ok (by simpa using h1)
  rw [wrap64 (by omega) (by omega), wrapU (by omega) (by omega)] at h
  have e : gStr s k n most = (ByteArray.empty, 0, 2) := by unfold gStr; rw [if_neg (by rw [h1]; simp), if_neg (by rw [h2]; simp), if_pos h]
  rw [e]; exact Le.refl _
 ·rename_i h1 h2 _
  have o := ok (by simpa using h1)
  have w1 : IntKind.u64.wrap (IntKind.i64.wrap ((n : Int) - (gS s k n 0 0).2.1)) = (n : Int) - (gS s k n 0 0).2.1 := by rw [wrap64 (by omega) (by omega), wrapU (by omega) (by omega)]
  rw [w1] at h hd
  have e : gStr s k n most = (subS s (k + (gS s k n 0 0).2.1.toNat) (gS s k n 0 0).1.toNat, (gS s k n 0 0).2.1 + (gS s k n 0 0).1, 0) := by unfold gStr; rw [if_neg (by rw [h1]; simp), if_neg (by rw [h2]; simp), if_neg (by rw [h]; simp)]
  have w2 : IntKind.i64.wrap (gS s k n 0 0).1 = (gS s k n 0 0).1 := wrap64 (by omega) (by omega)
  have w3 : IntKind.i64.wrap ((gS s k n 0 0).2.1 + IntKind.i64.wrap (gS s k n 0 0).1) = (gS s k n 0 0).2.1 + (gS s k n 0 0).1 := by rw [w2, wrap64 (by omega) (by omega)]
  rw [e]
  have B1 : 0 ≤ IntKind.i64.wrap ((gS s k n 0 0).2.1 + IntKind.i64.wrap (gS s k n 0 0).1) ∧ IntKind.i64.wrap ((gS s k n 0 0).2.1 + IntKind.i64.wrap (gS s k n 0 0).1) ≤ n := by rw [w3]; omega
  repeat' (first | (refine And.intro ?_ ?_; (focus (first | (first | exact chainI (isB _ _ _) | assumption) | (refine chainI ?_; (first | omega | fail)) | fail)); conv => whnf) | fail)
  refine leTup3 (Le.of_eq ?_) (leI w3) (Le.refl _)
  show AV.c (.v (.string (bytesOf _ _))) = .c (.v (.string (bytesOf _ _)))
  rw [w3, show ((gS s k n 0 0).2.1 + (gS s k n 0 0).1).toNat - (gS s k n 0 0).2.1.toNat = (gS s k n 0 0).1.toNat from by omega]
  simp only [Nat.add_assoc]
end Go.Proofs.YthaaemhkdefidaaGreatDoor

namespace Go.Proofs.YthaaemhkdefidaaGreatDoor
set_option linter.unusedSimpArgs false
set_option linter.unusedVariables false
set_option maxRecDepth 100000
set_option maxHeartbeats 8000000
open Go Go.VA
def kdR (c : Int) : Int := IntKind.i64.wrap (c.tmod 128)
def scR (c : Int) : Bool := decide (c ≥ 128)
def gTx (s : ByteArray) (a : Int) : ByteArray × Int × Int := gStr s a.toNat (s.size - a.toNat) 1024
def gSx (s : ByteArray) (a : Int) : Int × Int × Int := gS s a.toNat (s.size - a.toNat) 0 0
def zgR (n : Int) : Int := if n.tmod 2 == 1 then IntKind.i64.wrap (-1 - IntKind.i64.wrap (IntKind.u64.wrap (n.tdiv 2))) else IntKind.i64.wrap (IntKind.u64.wrap (n.tdiv 2))
def tyR (c : Int) : Ty := (IntKind.i64.wrap (IntKind.u8.wrap (c.tdiv 8)), IntKind.i64.wrap (c.tmod 8))
def rIt (val : Int → V × Int × Int) (s : ByteArray) (kind : Int) : Nat → List ByteArray → List V → Int → List ByteArray × List V × Int × Int
 | 0, ks, l, a => (ks, l, a, 0)
 | m + 1, ks, l, a =>
  if kind == 5 then
   if (gTx s a).2.2 != 0 then ([], [], 0, (gTx s a).2.2)
   else if keyBad ks (gTx s a).1 then ([], [], 0, 4)
   else if (val (a + (gTx s a).2.1)).2.2 != 0 then ([], [], 0, (val (a + (gTx s a).2.1)).2.2)
   else rIt val s kind m (ks ++ [(gTx s a).1]) (l ++ [(val (a + (gTx s a).2.1)).1]) (val (a + (gTx s a).2.1)).2.1
  else if (val a).2.2 != 0 then ([], [], 0, (val a).2.2)
  else rIt val s kind m ks (l ++ [(val a).1]) (val a).2.1
def rAll (val : Int → V × Int × Int) (s : ByteArray) (kd a : Int) : List ByteArray × List V × Int × Int := rIt val s kd (gSx s a).1.toNat [] [] (a + (gSx s a).2.1)
def rGk (val : Int → V × Int × Int) (s : ByteArray) (kd : Int) (sc : Bool) (a : Int) : V × Int × Int :=
 if kd == 0 then (.mk kd 0 ByteArray.empty [] [] 0 0 sc, a, 0)
 else if kd == 1 then if decide (a ≥ s.size) then (V.z, 0, 2) else if decide (byteAt s a > 1) then (V.z, 0, 4) else (.mk kd (IntKind.i64.wrap (byteAt s a)) ByteArray.empty [] [] 0 0 sc, a + 1, 0)
 else if kd == 2 then if (gSx s a).2.2 != 0 then (V.z, 0, (gSx s a).2.2) else (.mk kd (zgR (gSx s a).1) ByteArray.empty [] [] 0 0 sc, a + (gSx s a).2.1, 0)
 else if kd == 3 then if (gTx s a).2.2 != 0 then (V.z, 0, (gTx s a).2.2) else (.mk kd 0 (gTx s a).1 [] [] 0 0 sc, a + (gTx s a).2.1, 0)
 else if kd == 6 then if decide (a ≥ s.size) then (V.z, 0, 2) else if !(chkR (tyR (byteAt s a))) then (V.z, 0, 4) else (.mk kd 0 ByteArray.empty [] [] (tyR (byteAt s a)).1 (tyR (byteAt s a)).2 sc, a + 1, 0)
 else if kd == 4 || kd == 5 then
  if (gSx s a).2.2 != 0 then (V.z, 0, (gSx s a).2.2) else if decide ((gSx s a).1 > 128) then (V.z, 0, 3)
  else if (rAll val s kd a).2.2.2 != 0 then (V.z, 0, (rAll val s kd a).2.2.2) else (.mk kd 0 ByteArray.empty (rAll val s kd a).2.1 (rAll val s kd a).1 0 0 sc, (rAll val s kd a).2.2.1, 0)
 else (V.z, 0, 4)
def rG1 (val : Int → V × Int × Int) (s : ByteArray) (deep a : Int) : V × Int × Int :=
 if decide (deep > 8) then (V.z, 0, 12) else if decide (a ≥ s.size) then (V.z, 0, 2) else rGk val s (kdR (byteAt s a)) (scR (byteAt s a)) (a + 1)
def VrOk (t : Bool) (s : ByteArray) (deep : Int) (val : Int → V × Int × Int) : Prop := ∀ a : Int, 0 ≤ a → a ≤ s.size → 0 ≤ (val a).2.1 ∧ (val a).2.1 ≤ s.size ∧
 ACall Tryz.prog gl 152 [.c (.sl t 1 s.size (strCells s)), intA .i64 a, intA .i64 (IntKind.i64.wrap (deep + 1))] [] (.tup [.ag (cV (val a).1), intA .i64 (val a).2.1, intA .i64 (val a).2.2])
/-- what holds ahead of each element -/
structure RiI (val : Int → V × Int × Int) (s : ByteArray) (k a : Int) (i : Nat) (ks : List ByteArray) (l : List V) (a' : Int) : Prop where
 run : rIt val s k ((gSx s a).1.toNat - i) ks l a' = rAll val s k a
 le : (i : Int) ≤ (gSx s a).1
 ln : l.length = i
 kn : ks.length ≤ i
 k5 : (k == 5) = true → ks.length = i
 a0 : 0 ≤ a'
 a1 : a' ≤ s.size
theorem rV_snocD {l : List V} {x : V} {n : Nat} (hn : n = l.length) {i : Nat} (h : i < n + 1) : catF 0 n (rV l) (nthC [cV x]) i = rV (l ++ [x]) i := by subst hn; exact rV_snoc h
theorem keyBad_i {ks : List ByteArray} {i : Nat} {x : ByteArray} (h : ks.length = i) : keyBad ks x = (decide ((i : Int) > 0) && !(Op.bytesLess (ks.getD (IntKind.i64.wrap ((i : Int) - 1)).toNat ByteArray.empty).toList x.toList)) := by subst h; rfl
set_option maxHeartbeats 4000000 in
theorem aGetR1 (t : Bool) (s : ByteArray) (a deep : Int) (val : Int → V × Int × Int) (h0 : 0 ≤ a) (h1 : a ≤ s.size) (hv : deep ≤ 8 → VrOk t s deep val) :
  ACall Tryz.prog gl 152 [.c (.sl t 1 s.size (strCells s)), intA .i64 a, intA .i64 deep] [] (.tup [.ag (cV (rG1 val s deep a).1), intA .i64 (rG1 val s deep a).2.1, intA .i64 (rG1 val s deep a).2.2]) := by
 refine acall_of_vcb htb hmix (f := 152) rfl rfl rfl (by kernel_rfl) rfl rfl fun hb => ?_; simp only [bndAll, AV.bnd, bnds, C.bnd, cVt, cS, true_and, and_true] at hb; conv => whnf
 have hn : s.size ≤ 140737488355328 := hb.1.1
 have KB : True → True ∧ True := fun _ => ⟨trivial, trivial⟩
 have gs : ∀ a : Int, (gSx s a).2.2 = 0 → (0 : Int) < (gSx s a).2.1 ∧ (gSx s a).2.1 ≤ ((s.size - a.toNat : Nat) : Int) ∧ 0 ≤ (gSx s a).1 := fun a h => by
  have := gS_ok s a.toNat (s.size - a.toNat) 0 0 (Int.le_refl 0) h
  have h2 : (gSx s a).2.1 ≤ ((0 : Nat) : Int) + ((s.size - a.toNat : Nat) : Int) := this.2.1
  exact ⟨this.1, by omega, this.2.2⟩
 have gt : ∀ a : Int, (gTx s a).2.2 = 0 → 0 ≤ (gTx s a).2.1 ∧ (gTx s a).2.1 ≤ ((s.size - a.toNat : Nat) : Int) := fun a h => (gStr_ok s a.toNat (s.size - a.toNat) 1024).1 h
 conv => whnf
 refine ⟨fun h => ?_, fun hdp => ?_⟩ <;> conv => whnf
 ·repeat' (fail)
  simp only [rG1, *, if_true, decide_true]
  (first | exact leTup3 (leAg ⟨LeC.refl _, LeC.refl _, LeC.refl _, (by first | exact LeC.nil rfl | fail), (by first | exact LeC.nil rfl | fail), LeC.refl _, LeC.refl _, LeC.refl _, trivial⟩) (Le.refl _) (Le.refl _) | fail)
 refine ⟨fun h => ?_, fun hsz => ?_⟩ <;> conv => whnf
 ·repeat' (fail)
  simp only [rG1, *, if_true, decide_true, if_false, Bool.false_eq_true]
  (first | exact leTup3 (leAg ⟨LeC.refl _, LeC.refl _, LeC.refl _, (by first | exact LeC.nil rfl | fail), (by first | exact LeC.nil rfl | fail), LeC.refl _, LeC.refl _, LeC.refl _, trivial⟩) (Le.refl _) (Le.refl _) | fail)
 have hsz' : a < s.size := by have := of_decide_eq_false hsz; omega
 have W1 : IntKind.i64.wrap (a + 1) = a + 1 := wrap64 (by omega) (by omega)
 have W2 : IntKind.i64.wrap (a + 1 + 1) = a + 1 + 1 := wrap64 (by omega) (by omega)
 have W3 : IntKind.i64.wrap (a + 1 + (gS s (a + 1).toNat (s.size - (a + 1).toNat) 0 0).2.1) = a + 1 + (gS s (a + 1).toNat (s.size - (a + 1).toNat) 0 0).2.1 := by
  by_cases e : (gS s (a + 1).toNat (s.size - (a + 1).toNat) 0 0).2.2 = 0
  ·have := gs (a + 1) e
   exact wrap64 (by show _ ≤ a + 1 + (gSx s (a + 1)).2.1; omega) (by show a + 1 + (gSx s (a + 1)).2.1 ≤ _; omega)
  ·rw [(gS_bad _ _ _ _ _ e).2]; exact wrap64 (by omega) (by omega)
 have W4 : IntKind.i64.wrap (a + 1 + (gStr s (a + 1).toNat (s.size - (a + 1).toNat) 1024).2.1) = a + 1 + (gStr s (a + 1).toNat (s.size - (a + 1).toNat) 1024).2.1 := by
  by_cases e : (gStr s (a + 1).toNat (s.size - (a + 1).toNat) 1024).2.2 = 0
  ·have := gt (a + 1) e
   exact wrap64 (by show _ ≤ a + 1 + (gTx s (a + 1)).2.1; omega) (by show a + 1 + (gTx s (a + 1)).2.1 ≤ _; omega)
  ·rw [((gStr_ok _ _ _ _).2 e).2]; exact wrap64 (by omega) (by omega)
 repeat' (first | (refine Exists.intro _ (And.intro (aShortR _ _ _ _) ?_); conv => whnf) | (refine Exists.intro _ (And.intro (aGetStrR _ _ _ _ _) ?_); conv => whnf) | (refine Exists.intro _ (And.intro (aChkR _ _) ?_); conv => whnf) | (refine And.intro (fun h => ?_) (fun h => ?_) <;> (first | (with_reducible have hd : _ < _ := of_decide_eq_true h) | (with_reducible have hd : _ ≤ _ := of_decide_eq_true h) | (with_reducible have hd : ¬ (_ < _) := of_decide_eq_false h) | (with_reducible have hd : ¬ (_ ≤ _) := of_decide_eq_false h) | skip) <;> conv => whnf) | ((with_reducible refine Both.mk ?_ ?_) <;> conv => whnf) | ((with_reducible apply Drawn.one); conv => whnf) | ((with_reducible refine Then.mk' ?_); conv => whnf) | (first | exact RefS.self rfl | fail) | (refine And.intro ?_ ?_; (focus (first | (refine chainI ?_; (first | decide | omega | fail)) | fail)); conv => whnf) | ((with_reducible refine xc_pure ?_); conv => whnf))
 all_goals simp only [W1] at *
 all_goals first
  | (simp only [rG1, rGk, gSx, gTx, kdR, scR, byteAt, byteN, zgR, tyR, *, if_true, if_false, Bool.false_eq_true, decide_true, decide_false, Bool.or_true, Bool.or_false, Bool.true_or, Bool.false_or, gt_iff_lt, ge_iff_le]
     (first | exact leTup3 (leAg ⟨LeC.refl _, LeC.refl _, LeC.refl _, (by first | exact LeC.nil rfl | fail), (by first | exact LeC.nil rfl | fail), LeC.refl _, LeC.refl _, LeC.refl _, trivial⟩) (Le.refl _) (Le.refl _) | fail))
  | exact (Bool.noConfusion ((show (IntKind.i64.wrap _ == 4) = true by assumption).symm.trans (by assumption : _ = false)))
  | skip
 all_goals
  have e0 : (gSx s (a + 1)).2.2 = 0 := ne0 (show ((gS s (a + 1).toNat (s.size - (a + 1).toNat) 0 0).2.2 != 0) = false by assumption)
  have n128 : decide ((gSx s (a + 1)).1 > 128) = false := (show decide ((gS s (a + 1).toNat (s.size - (a + 1).toNat) 0 0).1 > 128) = false by assumption)
  have G := gs (a + 1) e0
  have hd8 : deep ≤ 8 := by have := of_decide_eq_false hdp; omega
  have hv := hv hd8
  have RES : ∀ R, rAll val s (kdR (byteAt s a)) (a + 1) = R → rG1 val s deep a = if R.2.2.2 != 0 then (V.z, 0, R.2.2.2) else (.mk (kdR (byteAt s a)) 0 ByteArray.empty R.2.1 R.1 0 0 (scR (byteAt s a)), R.2.2.1, 0) := by
   rintro R rfl
   have q1 : (((gSx s (a + 1)).2.2 != 0)) = false := by rw [e0]; rfl
   simp only [rG1, rGk, *, if_true, if_false, Bool.false_eq_true]
   simp only [kdR, byteAt, byteN, *, if_true, if_false, Bool.false_eq_true, Bool.or_true, Bool.or_false, Bool.true_or, Bool.false_or, bne_self_eq_false]
  have hk5 : ((kdR (byteAt s a)) == 5) = (IntKind.i64.wrap ((((s.data.toList[a.toNat]?).getD 0).toNat : Int).tmod 128) == 5) := rfl
  refine loopI (Nat × List ByteArray × List V × Int) (fun p => RiI val s (kdR (byteAt s a)) (a + 1) p.1 p.2.1 p.2.2.1 p.2.2.2) (fun p => [(21, intA .i64 p.1), (1, intA .i64 p.2.2.2)])
   (fun p => [.box ((cV V.z).map .c), .box ((cV V.z).map .c), .box [.c (.v (.int .i64 (kdR (byteAt s a)))), .c (.v (.int .i64 0)), .c (.v (.string ByteArray.empty)), .own 3 8 0 p.2.2.1.length, .own 4 1 0 p.2.1.length, .c (.v (.int .i64 0)), .c (.v (.int .i64 0)), .c (.v (.bool (scR (byteAt s a))))], .row 8 p.2.2.1.length (rV p.2.2.1), .row 1 p.2.1.length (rS p.2.1)])
   (fun p => (gSx s (a + 1)).1.toNat - p.1) (0, [], [], a + 1 + (gSx s (a + 1)).2.1) ⟨rfl, G.2.2, rfl, Nat.le_refl _, fun _ => rfl, by show 0 ≤ a + 1 + (gSx s (a + 1)).2.1; omega, by show a + 1 + (gSx s (a + 1)).2.1 ≤ _; omega⟩ ?_ (fun _ => rfl) fun ⟨i, ks, l, a'⟩ hi => ?_
  ·(refine And.intro ?_ (And.intro ?_ (And.intro ?_ rfl)) <;> (conv => whnf) <;> repeat' (first | exact trivial | exact LeE.of (Le.refl _) | exact LeE.nil rfl | (with_reducible refine LeE.of ?_) | (first | exact rfl | fail) | ((with_reducible refine And.intro ?_ ?_) <;> conv => whnf)))
   all_goals first | exact leI W3 | exact Le.toC (LeC.nil rfl)
  have hI : RiI val s (kdR (byteAt s a)) (a + 1) i ks l a' := hi
  have hle := hI.le
  have hln := hI.ln
  have hkn := hI.kn
  have ha0 := hI.a0
  have ha1 := hI.a1
  have n128' : (gSx s (a + 1)).1 ≤ 128 := by have := of_decide_eq_false n128; omega
  have WN : IntKind.i64.wrap (gS s (a + 1).toNat (s.size - (a + 1).toNat) 0 0).1 = (gSx s (a + 1)).1 := wrap64 (by show _ ≤ (gSx s (a + 1)).1; omega) (by show (gSx s (a + 1)).1 ≤ _; omega)
  conv => whnf
  refine ⟨fun hlt => ?_, fun hlt => ?_⟩ <;> conv => whnf
  ·have hlt : decide ((i : Int) < IntKind.i64.wrap (gS s (a + 1).toNat (s.size - (a + 1).toNat) 0 0).1) = true := hlt
   rw [WN] at hlt
   have hlt : (i : Int) < (gSx s (a + 1)).1 := of_decide_eq_true hlt
   have hm : (gSx s (a + 1)).1.toNat - i = ((gSx s (a + 1)).1.toNat - (i + 1)) + 1 := by omega
   have hrun := hI.run
   rw [hm] at hrun
   have B1 : (l.length + 1) * (tb 43).bytes ≤ 140737488355328 := by show (l.length + 1) * 104 ≤ _; omega
   have B2 : (ks.length + 1) * (tb 9).bytes ≤ 140737488355328 := by show (ks.length + 1) * 16 ≤ _; omega
   refine ⟨fun h5 => ?_, fun h5 => ?_⟩ <;> conv => whnf
   ·have hk : ks.length = i := hI.k5 h5
    have KB : (i : Int) > 0 → 0 ≤ IntKind.i64.wrap ((i : Int) - 1) ∧ IntKind.i64.wrap ((i : Int) - 1) < (ks.length : Int) := fun hg => by rw [wrap64 (by omega) (by omega), hk]; omega
    have W5 : IntKind.i64.wrap (a' + (gStr s a'.toNat (s.size - a'.toNat) 1024).2.1) = a' + (gStr s a'.toNat (s.size - a'.toNat) 1024).2.1 := by
     by_cases e : (gStr s a'.toNat (s.size - a'.toNat) 1024).2.2 = 0
     ·have := gt a' e
      exact wrap64 (by show _ ≤ a' + (gTx s a').2.1; omega) (by show a' + (gTx s a').2.1 ≤ _; omega)
     ·rw [((gStr_ok _ _ _ _).2 e).2]; exact wrap64 (by omega) (by omega)
    have P5 : 0 ≤ a' + (gStr s a'.toNat (s.size - a'.toNat) 1024).2.1 ∧ a' + (gStr s a'.toNat (s.size - a'.toNat) 1024).2.1 ≤ s.size := by
     by_cases e : (gStr s a'.toNat (s.size - a'.toNat) 1024).2.2 = 0
     ·have := gt a' e
      exact ⟨by show 0 ≤ a' + (gTx s a').2.1; omega, by show a' + (gTx s a').2.1 ≤ _; omega⟩
     ·rw [((gStr_ok _ _ _ _).2 e).2]; omega
    have R := RES _ hrun.symm
    have V5 := hv _ P5.1 P5.2
    repeat' (first | (refine Exists.intro _ (And.intro (aGetStrR _ _ _ _ _) ?_); conv => whnf) | (refine Exists.intro _ (And.intro ((hv _ (by rw [W5]; exact P5.1) (by rw [W5]; exact P5.2)).2.2) ?_); conv => whnf) | (refine And.intro (fun h => ?_) (fun h => ?_) <;> (first | skip) <;> conv => whnf) | ((with_reducible refine OwnOr.l ?_); (conv => whnf)) | (refine And.intro ?_ ?_; (focus (first | (first | assumption | ((conv => whnf); exact fun hg => KB (of_decide_eq_true hg))) | (refine chainI ?_; (first | (refine And.intro ?_ ?_ <;> first | omega | (simp; omega)) | fail)) | fail)); conv => whnf) | ((with_reducible refine xc_pure ?_); conv => whnf))
    all_goals (try simp only [Nat.zero_add, W5] at *)
    all_goals first
     | (simp only [R, rIt, gTx, keyBad_i hk, h5, *, if_true, if_false, Bool.false_eq_true]
        (first | exact leTup3 (leAg ⟨LeC.refl _, LeC.refl _, LeC.refl _, (by first | exact LeC.refl _ | fail), (by first | exact LeC.refl _ | fail), LeC.refl _, LeC.refl _, LeC.refl _, trivial⟩) (Le.refl _) (Le.refl _) | fail))
     | skip
    refine ⟨(i + 1, ks ++ [(gTx s a').1], l ++ [(val (a' + (gTx s a').2.1)).1], (val (a' + (gTx s a').2.1)).2.1), ⟨?_, by show ((i + 1 : Nat) : Int) ≤ _; omega, by simp [hln], by simp [hk], fun _ => by simp [hk], V5.1, V5.2.1⟩, ?_, (by show (gSx s (a + 1)).1.toNat - (i + 1) < (gSx s (a + 1)).1.toNat - i; omega)⟩
    ·rw [← hrun]; simp only [rIt, gTx, keyBad_i hk, h5, *, if_true, if_false, Bool.false_eq_true]
    ·(refine And.intro ?_ (And.intro ?_ (And.intro ?_ rfl)) <;> (conv => whnf) <;> repeat' (first | exact trivial | exact LeE.of (Le.refl _) | (with_reducible refine LeE.of ?_) | (first | exact rfl | exact leI (by first | rfl | (rw [wrap64 (by omega) (by omega)]; omega) | fail) | fail) | ((with_reducible refine And.intro ?_ ?_) <;> conv => whnf)))
     all_goals first
      | (simp; done)
      | exact leOwn (by simp)
      | exact leI (by show IntKind.i64.wrap ((i : Int) + 1) = ((i + 1 : Nat) : Int); rw [wrap64 (by omega) (by omega)]; omega)
      | exact fun j hj => LeCs.of_eq (rV_snocD rfl (by simpa using hj))
      | exact fun j hj => LeCs.of_eq (rS_snoc rfl (by simpa using hj))
   ·have R := RES _ hrun.symm
    have V5 := hv _ ha0 ha1
    repeat' (first | (refine Exists.intro _ (And.intro ((hv _ ha0 ha1).2.2) ?_); conv => whnf) | (refine And.intro (fun h => ?_) (fun h => ?_) <;> (first | skip) <;> conv => whnf) | ((with_reducible refine OwnOr.l ?_); (conv => whnf)) | (refine And.intro ?_ ?_; (focus (first | (first | assumption | fail) | fail)); conv => whnf) | ((with_reducible refine xc_pure ?_); conv => whnf))
    all_goals (try simp only [Nat.zero_add] at *)
    all_goals first
     | (simp only [R, rIt, h5, *, if_true, if_false, Bool.false_eq_true]
        (first | exact leTup3 (leAg ⟨LeC.refl _, LeC.refl _, LeC.refl _, (by first | exact LeC.refl _ | fail), (by first | exact LeC.refl _ | fail), LeC.refl _, LeC.refl _, LeC.refl _, trivial⟩) (Le.refl _) (Le.refl _) | fail))
     | skip
    refine ⟨(i + 1, ks, l ++ [(val a').1], (val a').2.1), ⟨?_, by show ((i + 1 : Nat) : Int) ≤ _; omega, by simp [hln], by show ks.length ≤ i + 1; omega, fun h => by rw [h] at h5; simp at h5, V5.1, V5.2.1⟩, ?_, (by show (gSx s (a + 1)).1.toNat - (i + 1) < (gSx s (a + 1)).1.toNat - i; omega)⟩
    ·rw [← hrun]; simp only [rIt, h5, *, if_true, if_false, Bool.false_eq_true]
    ·(refine And.intro ?_ (And.intro ?_ (And.intro ?_ rfl)) <;> (conv => whnf) <;> repeat' (first | exact trivial | exact LeE.of (Le.refl _) | (with_reducible refine LeE.of ?_) | (first | exact rfl | exact leI (by first | rfl | (rw [wrap64 (by omega) (by omega)]; omega) | fail) | exact fun i hi => LeCs.refl _ | fail) | ((with_reducible refine And.intro ?_ ?_) <;> conv => whnf)))
     all_goals first
      | (simp; done)
      | exact leOwn (by simp)
      | exact leI (by show IntKind.i64.wrap ((i : Int) + 1) = ((i + 1 : Nat) : Int); rw [wrap64 (by omega) (by omega)]; omega)
      | exact fun j hj => LeCs.of_eq (rV_snocD rfl (by simpa using hj))
  ·have hlt : decide ((i : Int) < IntKind.i64.wrap (gS s (a + 1).toNat (s.size - (a + 1).toNat) 0 0).1) = false := hlt
   rw [WN] at hlt
   have hlt : ¬ (i : Int) < (gSx s (a + 1)).1 := of_decide_eq_false hlt
   have hrun := hI.run
   rw [show (gSx s (a + 1)).1.toNat - i = 0 from by omega] at hrun
   have R : rG1 val s deep a = (.mk (kdR (byteAt s a)) 0 ByteArray.empty l ks 0 0 (scR (byteAt s a)), a', 0) := (RES _ hrun.symm).trans (by simp [rIt])
   repeat' (fail)
   rw [R]
   (first | exact leTup3 (leAg ⟨LeC.refl _, LeC.refl _, LeC.refl _, (by first | exact LeC.sl rfl (fun i _ => by first | (rw [Nat.zero_add]; rfl))), (by first | exact LeC.sl rfl (fun i _ => by first | (rw [Nat.zero_add]; rfl))), LeC.refl _, LeC.refl _, LeC.refl _, trivial⟩) (Le.refl _) (Le.refl _) | fail)
def rGet (s : ByteArray) : Nat → Int → Int → V × Int × Int
 | 0, deep, a => rG1 (fun a => (V.z, a, 0)) s deep a
 | m + 1, deep, a => rG1 (rGet s m (IntKind.i64.wrap (deep + 1))) s deep a
theorem rIt_ok {val : Int → V × Int × Int} {s : ByteArray} {kind : Int} (hv : ∀ a : Int, 0 ≤ a → a ≤ s.size → 0 ≤ (val a).2.1 ∧ (val a).2.1 ≤ s.size) : ∀ (m : Nat) (ks : List ByteArray) (l : List V) (a : Int), 0 ≤ a → a ≤ s.size → 0 ≤ (rIt val s kind m ks l a).2.2.1 ∧ (rIt val s kind m ks l a).2.2.1 ≤ s.size
 | 0, ks, l, a, h0, h1 => ⟨h0, h1⟩
 | m + 1, ks, l, a, h0, h1 => by
  have z : (0 : Int) ≤ 0 ∧ (0 : Int) ≤ s.size := ⟨Int.le_refl _, by omega⟩
  simp only [rIt]
  split
  ·split
   ·exact z
   ·rename_i h
    have g := (gStr_ok s a.toNat (s.size - a.toNat) 1024).1 (show (gTx s a).2.2 = 0 by simpa using h)
    have g1 : 0 ≤ (gTx s a).2.1 := g.1
    have g2 : (gTx s a).2.1 ≤ ((s.size - a.toNat : Nat) : Int) := g.2
    have q := hv (a + (gTx s a).2.1) (by omega) (by omega)
    split
    ·exact z
    ·split
     ·exact z
     ·exact rIt_ok hv m _ _ _ q.1 q.2
  ·split
   ·exact z
   ·have q := hv a h0 h1
    exact rIt_ok hv m _ _ _ q.1 q.2
theorem rG1_ok {val : Int → V × Int × Int} {s : ByteArray} {deep a : Int} (hv : deep ≤ 8 → ∀ a : Int, 0 ≤ a → a ≤ s.size → 0 ≤ (val a).2.1 ∧ (val a).2.1 ≤ s.size) (h0 : 0 ≤ a) (h1 : a ≤ s.size) : 0 ≤ (rG1 val s deep a).2.1 ∧ (rG1 val s deep a).2.1 ≤ s.size := by
 have z : (0 : Int) ≤ 0 ∧ (0 : Int) ≤ s.size := ⟨Int.le_refl _, by omega⟩
 unfold rG1
 split
 ·exact z
 ·rename_i hd
  have hv := hv (by simpa using hd)
  split
  ·exact z
  ·rename_i hs
   have hs : ¬ a ≥ s.size := by simpa using hs
   generalize hq : a + 1 = a1
   have h2 : 0 ≤ a1 := by omega
   have h3 : a1 ≤ s.size := by omega
   have gs : (gSx s a1).2.2 = 0 → (0 : Int) < (gSx s a1).2.1 ∧ (gSx s a1).2.1 ≤ ((s.size - a1.toNat : Nat) : Int) := fun h => by
    have := gS_ok s a1.toNat (s.size - a1.toNat) 0 0 (Int.le_refl 0) h
    have h2 : (gSx s a1).2.1 ≤ ((0 : Nat) : Int) + ((s.size - a1.toNat : Nat) : Int) := this.2.1
    exact ⟨this.1, by omega⟩
   have gt : (gTx s a1).2.2 = 0 → 0 ≤ (gTx s a1).2.1 ∧ (gTx s a1).2.1 ≤ ((s.size - a1.toNat : Nat) : Int) := fun h => (gStr_ok s a1.toNat (s.size - a1.toNat) 1024).1 h
   unfold rGk
   split
   ·exact ⟨h2, h3⟩
   ·split
    ·split
     ·exact z
     ·rename_i h
      have h : ¬ a1 ≥ s.size := by simpa using h
      split
      ·exact z
      ·exact ⟨by show 0 ≤ a1 + 1; omega, by show a1 + 1 ≤ _; omega⟩
    ·split
     ·split
      ·exact z
      ·rename_i h
       have := gs (by simpa using h)
       exact ⟨by show 0 ≤ a1 + (gSx s a1).2.1; omega, by show a1 + (gSx s a1).2.1 ≤ _; omega⟩
     ·split
      ·split
       ·exact z
       ·rename_i h
        have := gt (by simpa using h)
        exact ⟨by show 0 ≤ a1 + (gTx s a1).2.1; omega, by show a1 + (gTx s a1).2.1 ≤ _; omega⟩
      ·split
       ·split
        ·exact z
        ·rename_i h
         have h : ¬ a1 ≥ s.size := by simpa using h
         split
         ·exact z
         ·exact ⟨by show 0 ≤ a1 + 1; omega, by show a1 + 1 ≤ _; omega⟩
       ·split
        ·split
         ·exact z
         ·rename_i h
          have := gs (by simpa using h)
          split
          ·exact z
          ·split
           ·exact z
           ·exact rIt_ok hv _ _ _ _ (by omega) (by omega)
        ·exact z
theorem aRGet (t : Bool) (s : ByteArray) : ∀ (m : Nat) (deep : Int), 1 ≤ deep → deep ≤ 1000 → 9 ≤ deep + m → ∀ a : Int, 0 ≤ a → a ≤ s.size → 0 ≤ (rGet s m deep a).2.1 ∧ (rGet s m deep a).2.1 ≤ s.size ∧
  ACall Tryz.prog gl 152 [.c (.sl t 1 s.size (strCells s)), intA .i64 a, intA .i64 deep] [] (.tup [.ag (cV (rGet s m deep a).1), intA .i64 (rGet s m deep a).2.1, intA .i64 (rGet s m deep a).2.2])
 | 0, deep, h1, h2, h3, a, ha, hb => by
  have := rG1_ok (val := fun a => (V.z, a, 0)) (deep := deep) (fun h => by omega) ha hb
  exact ⟨this.1, this.2, aGetR1 t s a deep _ ha hb fun h => by omega⟩
 | m + 1, deep, h1, h2, h3, a, ha, hb => by
  have ih := fun h : deep ≤ 8 => aRGet t s m (deep + 1) (by omega) (by omega) (by omega)
  have hw : deep ≤ 8 → IntKind.i64.wrap (deep + 1) = deep + 1 := fun h => wrap64 (by omega) (by omega)
  have := rG1_ok (val := rGet s m (IntKind.i64.wrap (deep + 1))) (deep := deep) (fun h a ha hb => by rw [hw h]; exact ⟨(ih h a ha hb).1, (ih h a ha hb).2.1⟩) ha hb
  exact ⟨this.1, this.2, aGetR1 t s a deep _ ha hb fun h => by
   intro a ha hb
   rw [hw h]
   exact ih h a ha hb⟩
/-- the document's answer: what it is, how many bytes, what is wrong -/
def dGe (s : ByteArray) : Int := if (rGet s 8 1 0).2.2 == 0 && decide (weight (rGet s 8 1 0).1 > 512) then 3 else (rGet s 8 1 0).2.2
def dGet (s : ByteArray) : V × Int × Int := if dGe s != 0 then (V.z, 0, dGe s) else ((rGet s 8 1 0).1, (rGet s 8 1 0).2.1, 0)
theorem aDGet (t : Bool) (s : ByteArray) : ACall Tryz.prog gl 122 [.c (.sl t 1 s.size (strCells s))] [] (.tup [.ag (cV (dGet s).1), intA .i64 (dGet s).2.1, intA .i64 (dGet s).2.2]) := by
 have G := (aRGet t s 8 1 (by decide) (by decide) (by decide) 0 (Int.le_refl 0) (by omega)).2.2
 refine acall_of_vc htb hmix (f := 122) rfl rfl rfl (by kernel_rfl) rfl rfl ?_; conv => whnf
 repeat' (first | (refine Exists.intro _ (And.intro (G) ?_); conv => whnf) | ((with_reducible refine GOr.l ?_); (conv => whnf); refine Exists.intro _ (And.intro (chainI (aWeightR _ _ _)) ?_); conv => whnf) | (refine And.intro (fun h => ?_) (fun h => ?_) <;> (first | skip) <;> conv => whnf) | ((with_reducible refine xc_pure ?_); conv => whnf))
 all_goals
  simp only [dGet, dGe, *, if_true, if_false, Bool.false_eq_true]
  (first | exact leTup3 (leAg ⟨LeC.refl _, LeC.refl _, LeC.refl _, (by first | exact LeC.refl _ | exact LeC.nil rfl | fail), (by first | exact LeC.refl _ | exact LeC.nil rfl | fail), LeC.refl _, LeC.refl _, LeC.refl _, trivial⟩) (Le.refl _) (Le.refl _) | fail)
end Go.Proofs.YthaaemhkdefidaaGreatDoor

namespace Go.Proofs.YthaaemhkdefidaaGreatDoor
set_option linter.unusedSimpArgs false
set_option linter.unusedVariables false
set_option maxRecDepth 100000
set_option maxHeartbeats 8000000
open Go Go.VA
/-! ### Plain laws: what is read is what the document says -/
theorem byte_facts (c : Nat) (h : c < 256) : kdOf c = kdR c ∧ scOf c = scR c ∧ IntKind.i64.wrap (c : Int) = c ∧ (ofC c).1 = (if chkR (tyR c) then tyR c else (0, 0)) ∧ (ofC c).2 = (if chkR (tyR c) then 0 else 4) ∧ (0 ≤ kdR c) := by
 have : ∀ c : Fin 256, kdOf (c.val : Int) = kdR (c.val : Int) ∧ scOf (c.val : Int) = scR (c.val : Int) ∧ IntKind.i64.wrap (c.val : Int) = (c.val : Int) ∧ (ofC (c.val : Int)).1 = (if chkR (tyR (c.val : Int)) then tyR (c.val : Int) else (0, 0)) ∧ (ofC (c.val : Int)).2 = (if chkR (tyR (c.val : Int)) then 0 else 4) ∧ (0 ≤ kdR (c.val : Int)) := by decide +kernel
 exact this ⟨c, h⟩
theorem byteAt_nat (s : ByteArray) (a : Int) : ∃ c : Nat, byteAt s a = (c : Int) ∧ c < 256 := by
 have := byteN_lt s a.toNat
 exact ⟨(byteN s a.toNat).toNat, by show byteN s a.toNat = _; omega, by omega⟩
theorem ofNat64 (n : Nat) (h : n < 2 ^ 64) : (BitVec.ofInt 64 (n : Int)).toNat = n := by rw [BitVec.ofInt_natCast, BitVec.toNat_ofNat]; omega
theorem zag_eq (n : Nat) (h : n < 2 ^ 64) : zag n = zgR n := by
 unfold zag zgR
 have hs : shrI .u64 (n : Int) 1 = ((n / 2 : Nat) : Int) := by
  show (n : Int).fdiv (2 ^ 1) = _
  rw [Int.fdiv_eq_ediv_of_nonneg _ (by decide)]
  omega
 have ht : (n : Int).tdiv 2 = ((n / 2 : Nat) : Int) := by rw [Int.tdiv_eq_ediv_of_nonneg (by omega)]; omega
 have hm : (n : Int).tmod 2 = ((n % 2 : Nat) : Int) := by rw [Int.tmod_eq_emod_of_nonneg (by omega)]; omega
 have hd : n / 2 < 2 ^ 63 := by omega
 have w1 : IntKind.i64.wrap ((n / 2 : Nat) : Int) = ((n / 2 : Nat) : Int) := wrap64 (by omega) (by omega)
 have w2 : IntKind.u64.wrap ((n / 2 : Nat) : Int) = ((n / 2 : Nat) : Int) := wrapU (by omega) (by omega)
 have ha : IntKind.i64.wrap (bitsI .and .u64 (n : Int) 1) = ((n % 2 : Nat) : Int) := by
  have e : bitsI .and .u64 (n : Int) 1 = ((n % 2 : Nat) : Int) := by
   unfold bitsI
   show IntKind.u64.wrap (((BitVec.ofInt 64 (n : Int) &&& BitVec.ofInt 64 1).toNat : Nat) : Int) = _
   have e1 : (BitVec.ofInt 64 (n : Int)).toNat = n := by rw [BitVec.ofInt_natCast, BitVec.toNat_ofNat]; omega
   rw [BitVec.toNat_and, e1, show (BitVec.ofInt 64 1).toNat = 1 from rfl, Nat.and_one_is_mod]
   exact wrapU (by omega) (by omega)
  rw [e]; exact wrap64 (by omega) (by omega)
 rw [hs, ht, hm, w1, w2, ha, w1]
 have h2 : n % 2 = 0 ∨ n % 2 = 1 := by omega
 rcases h2 with h2 | h2
 ·rw [h2]
  rw [if_neg (by decide)]
  unfold bitsI
  show IntKind.i64.wrap (((BitVec.ofInt 64 ((n / 2 : Nat) : Int) ^^^ BitVec.ofInt 64 (IntKind.i64.wrap (0 - ((0 : Nat) : Int)))).toNat : Nat) : Int) = _
  rw [BitVec.toNat_xor, ofNat64 _ (by omega), show (BitVec.ofInt 64 (IntKind.i64.wrap (0 - ((0 : Nat) : Int)))).toNat = 0 from by decide, Nat.xor_zero, w1]
 ·rw [h2]
  rw [if_pos (by decide)]
  unfold bitsI
  show IntKind.i64.wrap (((BitVec.ofInt 64 ((n / 2 : Nat) : Int) ^^^ BitVec.ofInt 64 (IntKind.i64.wrap (0 - ((1 : Nat) : Int)))).toNat : Nat) : Int) = _
  rw [show BitVec.ofInt 64 (IntKind.i64.wrap (0 - ((1 : Nat) : Int))) = BitVec.allOnes 64 from by decide, BitVec.xor_allOnes, BitVec.toNat_not, ofNat64 _ (by omega), IntKind.wrap_i64, wrap64 (n := -1 - ((n / 2 : Nat) : Int)) (by omega) (by omega)]
  omega
theorem gS_lt (s : ByteArray) (k : Nat) : ∀ (m i : Nat) (acc : Int), acc < 18446744073709551616 → (gS s k m i acc).1 < 18446744073709551616
 | 0, _, _, _ => by show (0 : Int) < 18446744073709551616; decide
 | m + 1, i, acc, h => by
  have hw : ∀ c, gSt acc i c < 18446744073709551616 := fun c => by
   unfold gSt bitsI
   exact Int.emod_lt_of_pos _ (by decide)
  simp only [gS]
  split
  ·decide
  ·split
   ·split
    ·decide
    ·exact hw _
   ·exact gS_lt s k m (i + 1) _ (hw _)
/-- what the document says, and what is read -/
structure Agree {α : Type} (d r : α × Int × Int) : Prop where
 ok : d.2.2 = 0 → r = d
 bad : d.2.2 ≠ 0 → r.2.2 = d.2.2
theorem Agree.rfl' {α : Type} (d : α × Int × Int) : Agree d d := ⟨fun _ => rfl, fun _ => rfl⟩
structure AgreeI (d r : List ByteArray × List V × Int × Int) : Prop where
 ok : d.2.2.2 = 0 → r = d
 bad : d.2.2.2 ≠ 0 → r.2.2.2 = d.2.2.2
structure Both2 (s : ByteArray) (vd : Int → V × Int × Int) (vr : Int → Int → V × Int × Int) : Prop where
 ag : ∀ a : Int, 0 ≤ a → a ≤ s.size → Agree (vd a) (vr a 0)
 rg : ∀ a : Int, 0 ≤ a → a ≤ s.size → 0 ≤ (vd a).2.1 ∧ (vd a).2.1 ≤ s.size
 stop : ∀ a b : Int, b ≠ 0 → (vr a b).2.2 = b
theorem rText0 (s : ByteArray) (a : Int) : rText s a 0 = ((gTx s a).1, a + (gTx s a).2.1, (gTx s a).2.2) := by unfold rText; rw [if_neg (by decide)]; rfl
theorem rShort0 (s : ByteArray) (a : Int) : rShort s a 0 = ((gSx s a).1, a + (gSx s a).2.1, (gSx s a).2.2) := by unfold rShort; rw [if_neg (by decide)]; rfl
theorem rByte0 (s : ByteArray) (a : Int) : rByte s a 0 = if decide (a ≥ s.size) then (0, a, 2) else (byteAt s a, a + 1, 0) := by unfold rByte; rw [if_neg (by decide)]
theorem failB_ne {b e : Int} (h : b ≠ 0) : failB b e = b := by unfold failB; rw [if_neg (by simpa using h)]
theorem failB0 (e : Int) : failB 0 e = e := rfl
theorem rdIt_stop {vr : Int → Int → V × Int × Int} {s : ByteArray} {kd : Int} (m : Nat) (ks : List ByteArray) (l : List V) (a b : Int) (h : b ≠ 0) : rdIt vr s kd m ks l a b = (ks, l, a, b) := by
 cases m with
 | zero => rfl
 | succ m => simp only [rdIt]; rw [if_pos (by simpa using h)]
theorem gTx_rg (s : ByteArray) (a : Int) (h0 : 0 ≤ a) (h1 : a ≤ s.size) : 0 ≤ a + (gTx s a).2.1 ∧ a + (gTx s a).2.1 ≤ s.size := by
 have := rText_ok s a 0 h0 h1
 rw [rText0] at this
 exact this
theorem it_agree {s : ByteArray} {vd : Int → V × Int × Int} {vr : Int → Int → V × Int × Int} (hv : Both2 s vd vr) (kd : Int) : ∀ (m : Nat) (ks : List ByteArray) (l : List V) (a : Int), 0 ≤ a → a ≤ s.size → AgreeI (rIt vd s kd m ks l a) (rdIt vr s kd m ks l a 0)
 | 0, ks, l, a, h0, h1 => ⟨fun _ => rfl, fun h => absurd rfl h⟩
 | m + 1, ks, l, a, h0, h1 => by
  simp only [rIt, rdIt]
  rw [if_neg (show ¬ ((0 : Int) != 0) = true by decide)]
  by_cases h5 : (kd == 5) = true
  ·rw [if_pos h5]
   have hg := gTx_rg s a h0 h1
   by_cases he : ((gTx s a).2.2 != 0) = true
   ·have he' : (gTx s a).2.2 ≠ 0 := by simpa using he
    rw [if_pos he]
    have hk : (rdK s kd ks a 0).2.2 = (gTx s a).2.2 := by
     unfold rdK
     rw [if_pos h5, rText0]
     show (if keyBad ks (gTx s a).1 = true then failB (gTx s a).2.2 4 else (gTx s a).2.2) = _
     split
     ·exact failB_ne he'
     ·rfl
    have hs := hv.stop (rdK s kd ks a 0).2.1 (rdK s kd ks a 0).2.2 (by rw [hk]; exact he')
    refine ⟨fun h => absurd h he', fun _ => ?_⟩
    rw [rdIt_stop _ _ _ _ _ (by rw [hs, hk]; exact he')]
    exact hs.trans hk
   ·have he0 : (gTx s a).2.2 = 0 := by simpa using he
    rw [if_neg he]
    by_cases hb : keyBad ks (gTx s a).1 = true
    ·rw [if_pos hb]
     have hk : (rdK s kd ks a 0).2.2 = 4 := by
      unfold rdK
      rw [if_pos h5, rText0]
      show (if keyBad ks (gTx s a).1 = true then failB (gTx s a).2.2 4 else (gTx s a).2.2) = _
      rw [if_pos hb, he0]; rfl
     have hs := hv.stop (rdK s kd ks a 0).2.1 (rdK s kd ks a 0).2.2 (by rw [hk]; decide)
     refine ⟨fun h => absurd h (by show (4 : Int) ≠ 0; decide), fun _ => ?_⟩
     rw [rdIt_stop _ _ _ _ _ (by rw [hs, hk]; decide)]
     exact hs.trans hk
    ·rw [if_neg hb]
     have hk : rdK s kd ks a 0 = (ks ++ [(gTx s a).1], a + (gTx s a).2.1, 0) := by
      unfold rdK
      rw [if_pos h5, rText0]
      show (ks ++ [(gTx s a).1], a + (gTx s a).2.1, if keyBad ks (gTx s a).1 = true then failB (gTx s a).2.2 4 else (gTx s a).2.2) = _
      rw [if_neg hb, he0]
     rw [hk]
     have q := hv.ag (a + (gTx s a).2.1) hg.1 hg.2
     have r := hv.rg (a + (gTx s a).2.1) hg.1 hg.2
     by_cases hq : ((vd (a + (gTx s a).2.1)).2.2 != 0) = true
     ·rw [if_pos hq]
      have hq' : (vd (a + (gTx s a).2.1)).2.2 ≠ 0 := by simpa using hq
      refine ⟨fun h => absurd h hq', fun _ => ?_⟩
      show (rdIt vr s kd m (ks ++ [(gTx s a).1]) (l ++ [(vr (a + (gTx s a).2.1) 0).1]) (vr (a + (gTx s a).2.1) 0).2.1 (vr (a + (gTx s a).2.1) 0).2.2).2.2.2 = _
      rw [q.bad hq', rdIt_stop _ _ _ _ _ hq']
     ·rw [if_neg hq]
      have hq0 : (vd (a + (gTx s a).2.1)).2.2 = 0 := by simpa using hq
      show AgreeI _ (rdIt vr s kd m (ks ++ [(gTx s a).1]) (l ++ [(vr (a + (gTx s a).2.1) 0).1]) (vr (a + (gTx s a).2.1) 0).2.1 (vr (a + (gTx s a).2.1) 0).2.2)
      rw [q.ok hq0, hq0]
      exact it_agree hv kd m _ _ _ r.1 r.2
  ·rw [if_neg h5]
   have hk : rdK s kd ks a 0 = (ks, a, 0) := by unfold rdK; rw [if_neg h5]
   rw [hk]
   have q := hv.ag a h0 h1
   have r := hv.rg a h0 h1
   by_cases hq : ((vd a).2.2 != 0) = true
   ·rw [if_pos hq]
    have hq' : (vd a).2.2 ≠ 0 := by simpa using hq
    refine ⟨fun h => absurd h hq', fun _ => ?_⟩
    show (rdIt vr s kd m ks (l ++ [(vr a 0).1]) (vr a 0).2.1 (vr a 0).2.2).2.2.2 = _
    rw [q.bad hq', rdIt_stop _ _ _ _ _ hq']
   ·rw [if_neg hq]
    have hq0 : (vd a).2.2 = 0 := by simpa using hq
    show AgreeI _ (rdIt vr s kd m ks (l ++ [(vr a 0).1]) (vr a 0).2.1 (vr a 0).2.2)
    rw [q.ok hq0, hq0]
    exact it_agree hv kd m _ _ _ r.1 r.2
theorem gSx_rg (s : ByteArray) (a : Int) (h0 : 0 ≤ a) (h1 : a ≤ s.size) : 0 ≤ (gSx s a).1 ∧ 0 ≤ a + (gSx s a).2.1 ∧ a + (gSx s a).2.1 ≤ s.size := by
 have := rShort_ok s a 0 h0 h1
 rw [rShort0] at this
 exact this
theorem all_agree {s : ByteArray} {vd : Int → V × Int × Int} {vr : Int → Int → V × Int × Int} (hv : Both2 s vd vr) (kd : Int) (sc : Bool) (a : Int) (h0 : 0 ≤ a) (h1 : a ≤ s.size) :
  Agree (if (gSx s a).2.2 != 0 then (V.z, 0, (gSx s a).2.2) else if decide ((gSx s a).1 > 128) then (V.z, 0, 3)
   else if (rAll vd s kd a).2.2.2 != 0 then (V.z, 0, (rAll vd s kd a).2.2.2) else (.mk kd 0 ByteArray.empty (rAll vd s kd a).2.1 (rAll vd s kd a).1 0 0 sc, (rAll vd s kd a).2.2.1, 0))
   ((.mk kd 0 ByteArray.empty (rdAll vr s kd a 0).2.1 (rdAll vr s kd a 0).1 0 0 sc, (rdAll vr s kd a 0).2.2.1, (rdAll vr s kd a 0).2.2.2) : V × Int × Int) := by
 have g := gSx_rg s a h0 h1
 have e : rdAll vr s kd a 0 = rdIt vr s kd (gSx s a).1.toNat [] [] (a + (gSx s a).2.1) (if decide ((gSx s a).1 > 128) then failB (gSx s a).2.2 3 else (gSx s a).2.2) := by unfold rdAll itB; rw [rShort0]
 by_cases he : ((gSx s a).2.2 != 0) = true
 ·rw [if_pos he]
  have he' : (gSx s a).2.2 ≠ 0 := by simpa using he
  have hb : (if decide ((gSx s a).1 > 128) = true then failB (gSx s a).2.2 3 else (gSx s a).2.2) = (gSx s a).2.2 := by
   split
   ·exact failB_ne he'
   ·rfl
  refine ⟨fun h => absurd h he', fun _ => ?_⟩
  rw [e, hb, rdIt_stop _ _ _ _ _ he']
 ·rw [if_neg he]
  have he0 : (gSx s a).2.2 = 0 := by simpa using he
  by_cases h128 : decide ((gSx s a).1 > 128) = true
  ·rw [if_pos h128]
   refine ⟨fun h => absurd h (by show (3 : Int) ≠ 0; decide), fun _ => ?_⟩
   rw [e, if_pos h128, he0, failB0, rdIt_stop _ _ _ _ _ (by decide)]
  ·rw [if_neg h128]
   rw [if_neg h128, he0] at e
   have q := it_agree hv kd (gSx s a).1.toNat [] [] (a + (gSx s a).2.1) g.2.1 g.2.2
   rw [← e] at q
   have q : AgreeI (rAll vd s kd a) (rdAll vr s kd a 0) := q
   by_cases hr : ((rAll vd s kd a).2.2.2 != 0) = true
   ·rw [if_pos hr]
    have hr' : (rAll vd s kd a).2.2.2 ≠ 0 := by simpa using hr
    exact ⟨fun h => absurd h hr', fun _ => q.bad hr'⟩
   ·rw [if_neg hr]
    have hr0 : (rAll vd s kd a).2.2.2 = 0 := by simpa using hr
    refine ⟨fun _ => ?_, fun h => absurd rfl h⟩
    rw [q.ok hr0, hr0]
theorem kd_agree {s : ByteArray} {vd : Int → V × Int × Int} {vr : Int → Int → V × Int × Int} (hv : Both2 s vd vr) (kd : Int) (sc : Bool) (a : Int) (h0 : 0 ≤ a) (h1 : a ≤ s.size) (k0 : 0 ≤ kd) (k6 : kd ≤ 6) : Agree (rGk vd s kd sc a) (rdKd vr s kd sc a 0) := by
 obtain ⟨c, hc, hc2⟩ := byteAt_nat s a
 have bf := byte_facts c hc2
 have hkd : kd = 0 ∨ kd = 1 ∨ kd = 2 ∨ kd = 3 ∨ kd = 4 ∨ kd = 5 ∨ kd = 6 := by omega
 rcases hkd with rfl | rfl | rfl | rfl | rfl | rfl | rfl
 ·exact Agree.rfl' _
 ·show Agree (if decide (a ≥ s.size) then (V.z, 0, 2) else if decide (byteAt s a > 1) then (V.z, 0, 4) else (.mk 1 (IntKind.i64.wrap (byteAt s a)) ByteArray.empty [] [] 0 0 sc, a + 1, 0))
   (.mk 1 (IntKind.i64.wrap (rByte s a 0).1) ByteArray.empty [] [] 0 0 sc, (rByte s a 0).2.1, if decide (IntKind.i64.wrap (rByte s a 0).1 > 1) then failB (rByte s a 0).2.2 4 else (rByte s a 0).2.2)
  rw [rByte0]
  by_cases hs : decide (a ≥ s.size) = true
  ·rw [if_pos hs, if_pos hs]
   exact ⟨fun h => absurd h (by show (2 : Int) ≠ 0; decide), fun _ => rfl⟩
  ·rw [if_neg hs, if_neg hs, hc]
   show Agree _ (V.mk 1 (IntKind.i64.wrap (c : Int)) ByteArray.empty [] [] 0 0 sc, a + 1, if decide (IntKind.i64.wrap (c : Int) > 1) then failB 0 4 else 0)
   rw [bf.2.2.1]
   by_cases h1 : decide ((c : Int) > 1) = true
   ·rw [if_pos h1, if_pos h1]
    exact ⟨fun h => absurd h (by show (4 : Int) ≠ 0; decide), fun _ => rfl⟩
   ·rw [if_neg h1, if_neg h1]
    exact Agree.rfl' _
 ·show Agree (if (gSx s a).2.2 != 0 then (V.z, 0, (gSx s a).2.2) else (.mk 2 (zgR (gSx s a).1) ByteArray.empty [] [] 0 0 sc, a + (gSx s a).2.1, 0)) (.mk 2 (zag (rShort s a 0).1) ByteArray.empty [] [] 0 0 sc, (rShort s a 0).2.1, (rShort s a 0).2.2)
  rw [rShort0]
  have g := gSx_rg s a h0 h1
  have hl : (gSx s a).1 < 18446744073709551616 := gS_lt s _ _ _ _ (by decide)
  have hz : zag (gSx s a).1 = zgR (gSx s a).1 := by
   have := zag_eq (gSx s a).1.toNat (by omega)
   rwa [Int.toNat_of_nonneg g.1] at this
  by_cases he : ((gSx s a).2.2 != 0) = true
  ·rw [if_pos he]
   have he' : (gSx s a).2.2 ≠ 0 := by simpa using he
   exact ⟨fun h => absurd h he', fun _ => rfl⟩
  ·rw [if_neg he]
   have he0 : (gSx s a).2.2 = 0 := by simpa using he
   refine ⟨fun _ => ?_, fun h => absurd rfl h⟩
   show (V.mk 2 (zag (gSx s a).1) ByteArray.empty [] [] 0 0 sc, a + (gSx s a).2.1, (gSx s a).2.2) = _
   rw [hz, he0]
 ·show Agree (if (gTx s a).2.2 != 0 then (V.z, 0, (gTx s a).2.2) else (.mk 3 0 (gTx s a).1 [] [] 0 0 sc, a + (gTx s a).2.1, 0)) (.mk 3 0 (rText s a 0).1 [] [] 0 0 sc, (rText s a 0).2.1, (rText s a 0).2.2)
  rw [rText0]
  by_cases he : ((gTx s a).2.2 != 0) = true
  ·rw [if_pos he]
   have he' : (gTx s a).2.2 ≠ 0 := by simpa using he
   exact ⟨fun h => absurd h he', fun _ => rfl⟩
  ·rw [if_neg he]
   have he0 : (gTx s a).2.2 = 0 := by simpa using he
   refine ⟨fun _ => ?_, fun h => absurd rfl h⟩
   show (V.mk 3 0 (gTx s a).1 [] [] 0 0 sc, a + (gTx s a).2.1, (gTx s a).2.2) = _
   rw [he0]
 ·exact all_agree hv 4 sc a h0 h1
 ·exact all_agree hv 5 sc a h0 h1
 ·show Agree (if decide (a ≥ s.size) then (V.z, 0, 2) else if !(chkR (tyR (byteAt s a))) then (V.z, 0, 4) else (.mk 6 0 ByteArray.empty [] [] (tyR (byteAt s a)).1 (tyR (byteAt s a)).2 sc, a + 1, 0))
   (.mk 6 0 ByteArray.empty [] [] (ofC (rByte s a 0).1).1.1 (ofC (rByte s a 0).1).1.2 sc, (rByte s a 0).2.1, if (ofC (rByte s a 0).1).2 != 0 then failB (rByte s a 0).2.2 (ofC (rByte s a 0).1).2 else (rByte s a 0).2.2)
  rw [rByte0]
  by_cases hs : decide (a ≥ s.size) = true
  ·rw [if_pos hs, if_pos hs]
   refine ⟨fun h => absurd h (by show (2 : Int) ≠ 0; decide), fun _ => ?_⟩
   dsimp only
   split
   ·exact failB_ne (by decide)
   ·rfl
  ·rw [if_neg hs, if_neg hs, hc]
   show Agree _ (V.mk 6 0 ByteArray.empty [] [] (ofC (c : Int)).1.1 (ofC (c : Int)).1.2 sc, a + 1, if (ofC (c : Int)).2 != 0 then failB 0 (ofC (c : Int)).2 else 0)
   rw [bf.2.2.2.1, bf.2.2.2.2.1]
   by_cases hk : chkR (tyR (c : Int)) = true
   ·rw [hk]
    exact Agree.rfl' _
   ·have hk : chkR (tyR (c : Int)) = false := by simpa using hk
    rw [hk]
    exact ⟨fun h => absurd h (by show (4 : Int) ≠ 0; decide), fun _ => rfl⟩
theorem rByte_bad {s : ByteArray} {a b : Int} (h : b ≠ 0) : rByte s a b = (0, a, b) := by unfold rByte; rw [if_pos (by simpa using h)]
theorem kd06 : decide (kdOf 0 > 6) = false := by decide
theorem vBd_of {s : ByteArray} {deep a b a' b' : Int} (h : vHd s deep a b = (0, a', b')) : vBd s deep a b = b' := by
 unfold vBd
 rw [h]
 show (if decide (kdOf 0 > 6) = true then failB b' 4 else b') = b'
 rw [kd06]; rfl
theorem v1_stop {vr : Int → Int → V × Int × Int} {s : ByteArray} {deep a b : Int} (h : b ≠ 0) : (rdV1 vr s deep a b).2.2 = b := by
 have hd : dpB deep b = b := by
  unfold dpB
  split
  ·exact failB_ne h
  ·rfl
 have hh : vHd s deep a b = (0, a, b) := by unfold vHd; rw [hd, rByte_bad h]
 have hb : vBd s deep a b = b := vBd_of hh
 unfold rdV1
 rw [hb, if_pos (by simpa using h)]
theorem v1_agree {s : ByteArray} {vd : Int → V × Int × Int} {vr : Int → Int → V × Int × Int} {deep : Int} (hv : deep ≤ 8 → Both2 s vd vr) (a : Int) (h0 : 0 ≤ a) (h1 : a ≤ s.size) : Agree (rG1 vd s deep a) (rdV1 vr s deep a 0) := by
 unfold rG1
 by_cases hd : decide (deep > 8) = true
 ·rw [if_pos hd]
  refine ⟨fun h => absurd h (by show (12 : Int) ≠ 0; decide), fun _ => ?_⟩
  have hh : vHd s deep a 0 = (0, a, 12) := by unfold vHd dpB; rw [if_pos hd, failB0, rByte_bad (by decide)]
  have hb : vBd s deep a 0 = 12 := vBd_of hh
  unfold rdV1
  rw [hb]; rfl
 ·rw [if_neg hd]
  have hd0 : dpB deep 0 = 0 := by unfold dpB; rw [if_neg hd]
  have hh : vHd s deep a 0 = if decide (a ≥ s.size) then (0, a, 2) else (byteAt s a, a + 1, 0) := by unfold vHd; rw [hd0, rByte0]
  by_cases hs : decide (a ≥ s.size) = true
  ·rw [if_pos hs]
   rw [if_pos hs] at hh
   refine ⟨fun h => absurd h (by show (2 : Int) ≠ 0; decide), fun _ => ?_⟩
   have hb : vBd s deep a 0 = 2 := vBd_of hh
   unfold rdV1
   rw [hb]; rfl
  ·rw [if_neg hs]
   rw [if_neg hs] at hh
   have hs' : ¬ a ≥ s.size := by simpa using hs
   obtain ⟨c, hc, hc2⟩ := byteAt_nat s a
   have bf := byte_facts c hc2
   rw [hc] at hh
   rw [hc, ← bf.1, ← bf.2.1]
   have hk0 : 0 ≤ kdOf c := by rw [bf.1]; exact bf.2.2.2.2.2
   by_cases h6 : decide (kdOf c > 6) = true
   ·have hb : vBd s deep a 0 = 4 := by unfold vBd; rw [hh, if_pos h6]; rfl
    have h6' : kdOf c > 6 := of_decide_eq_true h6
    have hg : rGk vd s (kdOf c) (scOf c) (a + 1) = (V.z, 0, 4) := by
     unfold rGk
     have e : ∀ n : Int, n ≤ 6 → ¬ (kdOf c == n) = true := fun n hn h => by have : kdOf c = n := by simpa using h
                                                                            omega
     rw [if_neg (e 0 (by decide)), if_neg (e 1 (by decide)), if_neg (e 2 (by decide)), if_neg (e 3 (by decide)), if_neg (e 6 (by decide)), if_neg]
     simp only [Bool.or_eq_true, not_or]
     exact ⟨e 4 (by decide), e 5 (by decide)⟩
    rw [hg]
    refine ⟨fun h => absurd h (by show (4 : Int) ≠ 0; decide), fun _ => ?_⟩
    unfold rdV1
    rw [hb]; rfl
   ·have hb : vBd s deep a 0 = 0 := by unfold vBd; rw [hh, if_neg h6]
    have h6' : ¬ kdOf c > 6 := of_decide_eq_false (by simpa using h6)
    have e : rdV1 vr s deep a 0 = rdKd vr s (kdOf c) (scOf c) (a + 1) 0 := by
     unfold rdV1
     rw [hb, if_neg (by decide), hh]
    rw [e]
    exact kd_agree (hv (by have := of_decide_eq_false (by simpa using hd : decide (deep > 8) = false); omega)) _ _ _ (by omega) (by omega) hk0 (by omega)
theorem val_both (s : ByteArray) : ∀ (m : Nat) (deep : Int), 1 ≤ deep → deep ≤ 1000 → 9 ≤ deep + m → Both2 s (rGet s m deep) (rdVal s m deep)
 | 0, deep, h1, h2, h3 => ⟨fun a ha hb => v1_agree (fun h => by omega) a ha hb, fun a ha hb => rG1_ok (fun h => by omega) ha hb, fun a b hb => v1_stop hb⟩
 | m + 1, deep, h1, h2, h3 => by
  have hw : deep ≤ 8 → IntKind.i64.wrap (deep + 1) = deep + 1 := fun h => wrap64 (by omega) (by omega)
  have ih : deep ≤ 8 → Both2 s (rGet s m (IntKind.i64.wrap (deep + 1))) (rdVal s m (IntKind.i64.wrap (deep + 1))) := fun h => by rw [hw h]; exact val_both s m (deep + 1) (by omega) (by omega) (by omega)
  exact ⟨fun a ha hb => v1_agree ih a ha hb, fun a ha hb => rG1_ok (fun h => (ih h).rg) ha hb, fun a b hb => v1_stop hb⟩
/-- a value is read as the document says -/
theorem cGet_eq (s : ByteArray) : cGet s = dGet s := by
 have q := (val_both s 8 1 (by decide) (by decide) (by decide)).ag 0 (Int.le_refl 0) (by omega)
 have q : Agree (rGet s 8 1 0) (gV s) := q
 unfold cGet dGet gBd dGe
 by_cases he : (rGet s 8 1 0).2.2 = 0
 ·rw [q.ok he, he, failB0]
 ·rw [q.bad he]
  have : ((rGet s 8 1 0).2.2 == 0) = false := by simpa using he
  rw [this]
  simp only [Bool.false_and, Bool.false_eq_true, if_false]
  rw [if_pos (by simpa using he), if_pos (by simpa using he)]
end Go.Proofs.YthaaemhkdefidaaGreatDoor

namespace Go.Proofs.YthaaemhkdefidaaGreatDoor
set_option linter.unusedSimpArgs false
set_option linter.unusedVariables false
set_option maxRecDepth 100000
set_option maxHeartbeats 8000000
open Go Go.VA
theorem gClone (t : Bool) (n : Nat) (f : Nat → List C) : GCall Tryz.prog gl 91 [] [.c (.sl t 1 n f)] [.row 1 n f] [.own 0 1 0 n] := by
 refine gcall_of_vcb htb hmix (f := 91) rfl rfl rfl (by kernel_rfl) rfl rfl rfl fun hb hb2 => ?_; simp only [bndOs, bndO, gbnds, AV.gbnd, bnds, C.bnd, true_and, and_true] at hb hb2; conv => whnf
 have hn : n ≤ 140737488355328 := hb2.1
 have B1 : n * (tb 5).bytes ≤ 140737488355328 := by show n * 1 ≤ _; omega
 repeat' (first | (refine And.intro (fun h => ?_) (fun h => ?_) <;> (first | skip) <;> conv => whnf) | ((with_reducible refine NilOr.l ?_); conv => whnf) | ((with_reducible refine OwnOr.l ?_); (conv => whnf)) | (refine And.intro ?_ ?_; (focus (first | exact rfl | (first | assumption) | fail)); conv => whnf) | fail)
 ·have h : n = 0 := h rfl
  subst h
  ((conv => whnf); repeat' (first | exact trivial | exact rfl | ((with_reducible refine And.intro ?_ ?_) <;> conv => whnf)))
  all_goals exact fun i hi => absurd hi (Nat.not_lt_zero _)
 ·((conv => whnf); repeat' (first | exact trivial | exact rfl | exact (fun i hi => LeCs.refl _) | ((with_reducible refine And.intro ?_ ?_) <;> conv => whnf)))
/-- bytes, in a row -/
abbrev cBy (x : Int) : List C := [.v (.int .u8 x)]
abbrev rB (l : List Int) : Nat → List C := rowE cBy 0 l
/-- a number of seven bits each -/
def shortF : Nat → Nat → List Int
 | 0, k => [(k : Int)]
 | m + 1, k => if k < 128 then [(k : Int)] else ((k % 128 + 128 : Nat) : Int) :: shortF m (k / 128)
theorem or128 (c : Nat) : bitsI .or .u8 (IntKind.u8.wrap (c : Int)) 128 = ((c % 128 + 128 : Nat) : Int) := by
 have h : ∀ c : Fin 256, bitsI .or .u8 (c.val : Int) 128 = ((c.val % 128 + 128 : Nat) : Int) := by decide +kernel
 have e : IntKind.u8.wrap (c : Int) = ((c % 256 : Nat) : Int) := by show (c : Int) % 256 = _; omega
 rw [e]
 have := h ⟨c % 256, Nat.mod_lt _ (by decide)⟩
 simp only at this
 rw [this]
 congr 1
 omega
theorem shr7 (c : Nat) : shrI .u64 (c : Int) 7 = ((c / 128 : Nat) : Int) := by
 show (c : Int).fdiv (2 ^ 7) = _
 rw [Int.fdiv_eq_ediv_of_nonneg _ (by decide)]
 omega
theorem w8 (c : Nat) (h : c < 256) : IntKind.u8.wrap (c : Int) = c := by show (c : Int) % 256 = _; omega
theorem shortF_len : ∀ (m k : Nat), (shortF m k).length ≤ m + 1
 | 0, k => by simp [shortF]
 | m + 1, k => by
  simp only [shortF]
  split
  ·simp
  ·simp; exact shortF_len m _
def shortL (k : Nat) : List Int := shortF 9 k
theorem catF_assoc {n : Nat} {f : Nat → List C} (a b : List Int) (m : Nat) (hm : m = n + a.length) (i : Nat) (hi : i < n + a.length + b.length) : catF 0 m (catF 0 n f (rB a)) (rB b) i = catF 0 n f (rB (a ++ b)) i := by
 subst hm
 show catF 0 (n + a.length) (catF 0 n f fun i => cBy (a.getD i 0)) (fun i => cBy (b.getD i 0)) i = catF 0 n f (fun i => cBy ((a ++ b).getD i 0)) i
 unfold catF
 by_cases h1 : i < n
 ·rw [if_pos (by omega), if_pos (by omega), if_pos h1, Nat.zero_add]
 ·rw [if_neg h1]
  by_cases h2 : i < n + a.length
  ·rw [if_pos h2, if_neg (by omega)]
   simp [List.getD_eq_getElem?_getD, List.getElem?_append_left (show i - n < a.length by omega)]
  ·rw [if_neg h2]
   simp [List.getD_eq_getElem?_getD, List.getElem?_append_right (show a.length ≤ i - n by omega)]
   congr 2; omega
theorem catF_nil {n : Nat} {f : Nat → List C} (i : Nat) (hi : i < n) (g : Nat → List C) : catF 0 n f g i = f i := by unfold catF; rw [if_pos hi, Nat.zero_add]
theorem catF_snoc {n : Nat} {f : Nat → List C} (a : List Int) (x : Int) (m : Nat) (hm : m = n + a.length) (i : Nat) (hi : i < n + a.length + 1) : catF 0 m (catF 0 n f (rB a)) (nthC [cBy x]) i = catF 0 n f (rB (a ++ [x])) i := by
 have := catF_assoc (n := n) (f := f) a [x] m hm i (by simpa using hi)
 rw [← this]
 unfold catF
 split
 ·rfl
 ·subst hm
  obtain rfl : i = n + a.length := by omega
  rw [Nat.sub_self]; rfl
theorem gPutShort (t : Bool) (n : Nat) (f : Nat → List C) (k : Nat) (hk : k < 2 ^ 64) (hn : n + (shortL k).length ≤ 140737488355328) :
  GCall Tryz.prog gl 45 [] [.c (.sl t 1 n f), intA .u64 k] [.row 1 (n + (shortL k).length) (catF 0 n f (rB (shortL k)))] [.own 0 1 0 (n + (shortL k).length)] := by
 refine gcall_of_vcb htb hmix (f := 45) rfl rfl rfl (by kernel_rfl) rfl rfl rfl fun hb hb2 => ?_; simp only [bndOs, bndO, gbnds, AV.gbnd, bnds, C.bnd, true_and, and_true] at hb hb2; conv => whnf
 repeat' (first | ((with_reducible refine NilOr.l ?_); conv => whnf) | ((with_reducible refine xc_guard ?_); (first | (refine xc_g (gClone _ _ _) false (by first | (((conv => whnf); repeat' (first | exact trivial | exact rfl | exact LeC.refl _ | ((with_reducible refine And.intro ?_ ?_) <;> conv => whnf))); done) | fail) trivial ?_) | fail); conv => whnf) | fail)
 refine loopI (List Int × Nat × Nat) (fun p => p.1 ++ shortF p.2.2 p.2.1 = shortL k ∧ p.2.1 < 2 ^ (7 * (p.2.2 + 1)) ∧ p.1.length + p.2.2 ≤ 9) (fun p => [(5, .own 1 1 0 (n + p.1.length)), (1, intA .u64 p.2.1)])
  (fun p => [.row 1 0 (fun _ => []), .row 1 (n + p.1.length) (catF 0 n f (rB p.1))]) (fun p => p.2.2) ([], k, 9) ⟨rfl, by show k < 2 ^ 70; omega, Nat.le_refl _⟩ ?_ (fun _ => rfl) fun ⟨pre, k', m⟩ ⟨h1, h2, h3⟩ => ?_
 ·(refine And.intro ?_ (And.intro ?_ (And.intro ?_ rfl)) <;> (conv => whnf) <;> repeat' (first | exact trivial | exact LeE.of (Le.refl _) | (first | exact rfl | exact fun i hi => LeCs.refl _ | fail) | ((with_reducible refine And.intro ?_ ?_) <;> conv => whnf)))
  exact fun i hi => LeCs.of_eq (catF_nil i hi _).symm
 ·change pre ++ shortF m k' = shortL k at h1
  change k' < 2 ^ (7 * (m + 1)) at h2
  change pre.length + m ≤ 9 at h3
  have hlen : pre.length + 1 ≤ (shortL k).length := by
   rw [← h1, List.length_append]
   have : 1 ≤ (shortF m k').length := by
    cases m with
    | zero => simp [shortF]
    | succ m => simp only [shortF]; split <;> simp
   omega
  have B1 : (n + pre.length + 1) * (tb 5).bytes ≤ 140737488355328 := by show (n + pre.length + 1) * 1 ≤ _; omega
  conv => whnf
  repeat' (first | (refine And.intro (fun h => ?_) (fun h => ?_) <;> (first | (with_reducible have hd : _ ≤ _ := of_decide_eq_true h) | (with_reducible have hd : ¬ (_ ≤ _) := of_decide_eq_false h) | fail) <;> conv => whnf) | ((with_reducible refine OwnOr.l ?_); (conv => whnf)) | (refine And.intro ?_ ?_; (focus (first | exact rfl | (first | assumption) | (refine chainI ?_; (first | decide | fail)) | fail)); conv => whnf) | fail)
  ·have h : decide ((k' : Int) ≥ 128) = true := h
   have hk' : 128 ≤ k' := by have := of_decide_eq_true h; omega
   obtain ⟨m', rfl⟩ : ∃ m', m = m' + 1 := by
    cases m with
    | zero => simp at h2; omega
    | succ m' => exact ⟨m', rfl⟩
   rw [show 7 * (m' + 1 + 1) = 7 * (m' + 1) + 7 from by omega, Nat.pow_add] at h2
   have e1 : (pre ++ [((k' % 128 + 128 : Nat) : Int)]).length = pre.length + 1 := by simp
   refine ⟨(pre ++ [((k' % 128 + 128 : Nat) : Int)], k' / 128, m'), ⟨?_, ?_, ?_⟩, ?_, Nat.lt_succ_self _⟩
   ·rw [← h1]; simp only [shortF]; rw [if_neg (by omega)]; simp
   ·show k' / 128 < 2 ^ (7 * (m' + 1)); omega
   ·show (pre ++ [((k' % 128 + 128 : Nat) : Int)]).length + m' ≤ 9; omega
   ·(refine And.intro ?_ (And.intro ?_ (And.intro ?_ rfl)) <;> (conv => whnf) <;> repeat' (first | exact trivial | exact LeE.of (Le.refl _) | (with_reducible refine LeE.of ?_) | (first | exact rfl | exact fun i hi => LeCs.refl _ | fail) | ((with_reducible refine And.intro ?_ ?_) <;> conv => whnf)))
    all_goals first
     | exact leI (shr7 k')
     | exact leOwn (by simp; omega)
     | (show _ = n + (pre ++ [((k' % 128 + 128 : Nat) : Int)]).length; rw [e1]; rfl)
     | exact fun i hi => LeCs.of_eq (by rw [← catF_snoc pre _ _ rfl i (by have : i < n + (pre ++ [((k' % 128 + 128 : Nat) : Int)]).length := hi; omega), ← or128 k'])
  ·have h : decide ((k' : Int) ≥ 128) = false := h
   have hk' : k' < 128 := by have := of_decide_eq_false h; omega
   have e0 : shortL k = pre ++ [(k' : Int)] := by
    rw [← h1]
    congr 1
    cases m with
    | zero => rfl
    | succ m => simp only [shortF]; rw [if_pos hk']
   rw [e0]
   ((conv => whnf); repeat' (first | exact trivial | exact rfl | ((with_reducible refine And.intro ?_ ?_) <;> conv => whnf)))
   ·show n + pre.length + 1 = n + (pre ++ [(k' : Int)]).length; simp; omega
   ·refine fun i hi => LeCs.of_eq ?_
    show catF 0 (n + pre.length) (catF 0 n f (rB pre)) (nthC [cBy (IntKind.u8.wrap (k' : Int))]) i = _
    rw [w8 k' (by omega)]
    exact catF_snoc pre _ _ rfl i (by have : i < n + (pre ++ [(k' : Int)]).length := hi; simp at this; omega)
   ·show n + pre.length + 1 = n + (pre ++ [(k' : Int)]).length; simp; omega
theorem gPutShortI (t : Bool) (n : Nat) (f : Nat → List C) (k : Int) (h0 : 0 ≤ k) (hk : k < 18446744073709551616) (hn : n + (shortL k.toNat).length ≤ 140737488355328) :
  GCall Tryz.prog gl 45 [] [.c (.sl t 1 n f), intA .u64 k] [.row 1 (n + (shortL k.toNat).length) (catF 0 n f (rB (shortL k.toNat)))] [.own 0 1 0 (n + (shortL k.toNat).length)] := by
 have := gPutShort t n f k.toNat (by omega) hn
 rwa [Int.toNat_of_nonneg h0] at this
/-- a text's bytes -/
def bytesL (s : ByteArray) : List Int := s.data.toList.map fun x => (x.toNat : Int)
def strL (s : ByteArray) : List Int := shortL s.size ++ bytesL s
theorem bytesL_len (s : ByteArray) : (bytesL s).length = s.size := by simp [bytesL]
theorem ntCatG {n m : Nat} {f g : Nat → List C} (hf : ∀ i, i < n → NtCs (f i)) (hg : ∀ i, i < m → NtCs (g i)) : ∀ i, i < n + m → NtCs (catF 0 n f g i) := by
 intro i hi
 unfold catF
 split
 ·rename_i h; rw [Nat.zero_add]; exact hf i h
 ·exact hg _ (by omega)
theorem ntB (l : List Int) (n : Nat) : ∀ i, i < n → NtCs (rB l i) := fun i _ => ⟨trivial, trivial⟩
theorem ntShift {n : Nat} {F : Nat → List C} (h : ∀ i, i < n → NtCs (F i)) : ∀ i, i < n → NtCs (F (0 + i)) := fun i hi => by rw [Nat.zero_add]; exact h i hi
def zigI (i : Int) : Int := bitsI .xor .u64 (shlI .u64 (IntKind.u64.wrap i) 1) (IntKind.u64.wrap (shrI .i64 i 63))
def firstB (v : V) : Int := if v.sec then bitsI .or .u8 (IntKind.u8.wrap v.k) 128 else IntKind.u8.wrap v.k
def layIts (v : V) (rs : List (List Int)) (c : Nat) : List Int := (List.range c).flatMap fun j => (if v.k == 5 then strL (v.ks.getD j ByteArray.empty) else []) ++ rs.getD j []
def layB (v : V) (rs : List (List Int)) : List Int :=
 if v.k == 1 then [IntKind.u8.wrap v.i] else if v.k == 2 then shortL (zigI v.i).toNat else if v.k == 3 then strL v.s else if v.k == 6 then [codeT v.t]
 else if v.k == 4 || v.k == 5 then shortL v.l.length ++ layIts v rs v.l.length else []
/-- a value's form -/
def layL : V → List Int := V.fold fun v rs => firstB v :: layB v rs
theorem shortL_len (k : Nat) : (shortL k).length ≤ 10 := shortF_len 9 k
end Go.Proofs.YthaaemhkdefidaaGreatDoor
