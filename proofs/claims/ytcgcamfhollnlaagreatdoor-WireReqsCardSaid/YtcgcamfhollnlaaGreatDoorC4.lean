/- Contracts of functions of the program, and the laws that stand on them: what each function answers, whatever its arguments. -/
import Derived.Test.YtcgcamfhollnlaaGreatDoorC3
import Derived.Test.YtcgcamfhollnlaaGreatDoorVD
set_option linter.unusedSectionVars false
set_option linter.unnecessarySimpa false
namespace Go.Proofs.YtcgcamfhollnlaaGreatDoor
set_option linter.unusedSimpArgs false
set_option linter.unusedVariables false
set_option maxRecDepth 100000
set_option maxHeartbeats 8000000
open Go Go.VA
def gR (s : ByteArray) (k : Nat) : Nat → Nat → Int → Int → Int × Int × Int
  | 0, _, _, _ => (0, 0, 2)
  | m + 1, i, acc, u =>
    if ((i : Int) == 9 && decide (byteN s (k + i) > 1)) then (0, 0, 4)
    else if decide (byteN s (k + i) < 128) then (if (byteN s (k + i) == 0 && decide ((i : Int) > 0)) then (0, 0, 4) else (IntKind.u64.wrap (acc + IntKind.u64.wrap (IntKind.u64.wrap ((byteN s (k + i)).tmod 128) * u)), (i : Int) + 1, 0))
    else gR s k m (i + 1) (IntKind.u64.wrap (acc + IntKind.u64.wrap (IntKind.u64.wrap ((byteN s (k + i)).tmod 128) * u))) (IntKind.u64.wrap (u * 128))
theorem aGetShortR (t : Bool) (n : Nat) (s : ByteArray) (k : Nat) : ACall Tryz.prog gl 55 [.c (.sl t 1 n (fun i => strCells s (k + i)))] [] (gT (gR s k (min n 10) 0 0 1)) := by
  refine acall_of_vcb htb hmix (f := 55) rfl rfl rfl (by kernel_rfl) rfl rfl fun hb => ?_; simp only [bndAll, AV.bnd, bnds, C.bnd, cVt, cS, true_and, and_true] at hb; conv => whnf
  have hn : n ≤ 140737488355328 := hb.1
  repeat' (fail)
  refine loopI (Nat × Int × Int) (fun p => p.1 ≤ min n 10 ∧ gR s k (min n 10 - p.1) p.1 p.2.1 p.2.2 = gR s k (min n 10) 0 0 1) (fun p => [(7, intA .i64 p.1), (5, intA .u64 p.2.1), (6, intA .u64 p.2.2), (2, intA .u64 0), (3, intA .i64 0), (4, intA .i64 0)]) (fun _ => []) (fun p => min n 10 - p.1) (0, 0, 1) ⟨Nat.zero_le _, rfl⟩ ?_ (fun _ => rfl) fun ⟨i, acc, u⟩ ⟨hi, hR⟩ => ?_
  · (refine And.intro ?_ (And.intro ?_ (And.intro ?_ rfl)) <;> (conv => whnf) <;> repeat' (first | exact trivial | exact LeE.of (Le.refl _) | (first | exact rfl | fail) | ((with_reducible refine And.intro ?_ ?_) <;> conv => whnf)))
  · change i ≤ min n 10 at hi
    change gR s k (min n 10 - i) i acc u = _ at hR
    conv => whnf
    repeat' (first | (refine And.intro (fun h => ?_) (fun h => ?_) <;> (first | (with_reducible have hd : _ < _ := of_decide_eq_true h) | (with_reducible have hd : ¬ (_ < _) := of_decide_eq_false h) | skip) <;> conv => whnf) | (refine And.intro ?_ ?_; (focus (first | (refine chainI ?_; (first | decide | fail)) | ((conv => whnf); intros; (try simp only [decide_eq_true_eq, decide_eq_false_iff_not, Bool.and_eq_true, Bool.or_eq_true, Bool.and_eq_false_imp, Bool.or_eq_false_iff, Bool.not_eq_true', Bool.not_eq_false', beq_iff_eq, bne_iff_ne, ne_eq] at *); (first | omega | fail)))); conv => whnf) | fail)
    · rename_i h0
      have hl : (decide ((i : Int) < n) && decide ((i : Int) < 10)) = true := h0
      have hi' : i < min n 10 := by simp at hl; omega
      have h : ((i : Int) == 9 && decide (byteN s (k + i) > 1)) = true := h
      have e : gR s k (min n 10) 0 0 1 = (0, 0, 4) := by rw [← hR, show min n 10 - i = (min n 10 - (i + 1)) + 1 from by omega]; simp only [gR]; rw [if_pos h]
      rw [e]; exact Le.refl _
    · rename_i h0 h1 h2
      have hl : (decide ((i : Int) < n) && decide ((i : Int) < 10)) = true := h0
      have hi' : i < min n 10 := by simp at hl; omega
      have h1 : ((i : Int) == 9 && decide (byteN s (k + i) > 1)) = false := h1
      have h2 : decide (byteN s (k + i) < 128) = true := h2
      have h : (byteN s (k + i) == 0 && decide ((i : Int) > 0)) = true := h
      have e : gR s k (min n 10) 0 0 1 = (0, 0, 4) := by rw [← hR, show min n 10 - i = (min n 10 - (i + 1)) + 1 from by omega]; simp only [gR]; rw [if_neg (by rw [h1]; simp), if_pos h2, if_pos h]
      rw [e]; exact Le.refl _
    · rename_i h0 h1 h2
      have hl : (decide ((i : Int) < n) && decide ((i : Int) < 10)) = true := h0
      have hi' : i < min n 10 := by simp at hl; omega
      have h1 : ((i : Int) == 9 && decide (byteN s (k + i) > 1)) = false := h1
      have h2 : decide (byteN s (k + i) < 128) = true := h2
      have h : (byteN s (k + i) == 0 && decide ((i : Int) > 0)) = false := h
      have e : gR s k (min n 10) 0 0 1 = (IntKind.u64.wrap (acc + IntKind.u64.wrap (IntKind.u64.wrap ((byteN s (k + i)).tmod 128) * u)), (i : Int) + 1, 0) := by rw [← hR, show min n 10 - i = (min n 10 - (i + 1)) + 1 from by omega]; simp only [gR]; rw [if_neg (by rw [h1]; simp), if_pos h2, if_neg (by rw [h]; simp)]
      rw [e]
      exact leTup3 (Le.refl _) (leI (wrap64 (by omega) (by omega))) (Le.refl _)
    · rename_i h0 h1
      have hl : (decide ((i : Int) < n) && decide ((i : Int) < 10)) = true := h0
      have hi' : i < min n 10 := by simp at hl; omega
      have h1 : ((i : Int) == 9 && decide (byteN s (k + i) > 1)) = false := h1
      have h : decide (byteN s (k + i) < 128) = false := h
      refine ⟨(i + 1, IntKind.u64.wrap (acc + IntKind.u64.wrap (IntKind.u64.wrap ((byteN s (k + i)).tmod 128) * u)), IntKind.u64.wrap (u * 128)), ⟨hi', ?_⟩, ?_, by show min n 10 - (i + 1) < min n 10 - i; omega⟩
      · rw [← hR, show min n 10 - i = (min n 10 - (i + 1)) + 1 from by omega]
        simp only [gR]; rw [if_neg (by rw [h1]; simp), if_neg (by rw [h]; simp)]
      · (refine And.intro ?_ (And.intro ?_ (And.intro ?_ rfl)) <;> (conv => whnf) <;> repeat' (first | exact trivial | exact LeE.of (Le.refl _) | (with_reducible refine LeE.of ?_) | (first | exact rfl | exact leI (by first | rfl | (rw [wrap64 (by omega) (by omega)]; omega) | fail) | fail) | ((with_reducible refine And.intro ?_ ?_) <;> conv => whnf)))
    · have hl : (decide ((i : Int) < n) && decide ((i : Int) < 10)) = false := h
      obtain rfl : i = min n 10 := by
        simp at hl; omega
      have e : gR s k (min n 10) 0 0 1 = (0, 0, 2) := by rw [← hR, Nat.sub_self]; rfl
      rw [e]; exact Le.refl _
end Go.Proofs.YtcgcamfhollnlaaGreatDoor

namespace Go.Proofs.YtcgcamfhollnlaaGreatDoor
set_option linter.unusedSimpArgs false
set_option linter.unusedVariables false
set_option maxRecDepth 100000
set_option maxHeartbeats 8000000
open Go Go.VA
abbrev cB (k : Int) (sec : Bool) : List C := [.v (.int .i64 k), .v (.int .i64 0), .v (.string ByteArray.empty), .v (.slice none 0 0), .v (.slice none 0 0), .v (.int .i64 0), .v (.int .i64 0), .v (.bool sec)]
def keyBad (ks : List ByteArray) (x : ByteArray) : Bool := decide ((ks.length : Int) > 0) && !(Op.bytesLess (ks.getD (IntKind.i64.wrap ((ks.length : Int) - 1)).toNat ByteArray.empty).toList x.toList)
def rdK (s : ByteArray) (kind : Int) (ks : List ByteArray) (a b : Int) : List ByteArray × Int × Int := if kind == 5 then (ks ++ [(rText s a b).1], (rText s a b).2.1, if keyBad ks (rText s a b).1 then failB (rText s a b).2.2 4 else (rText s a b).2.2) else (ks, a, b)
def rdIt (val : Int → Int → V × Int × Int) (s : ByteArray) (kind : Int) : Nat → List ByteArray → List V → Int → Int → List ByteArray × List V × Int × Int
  | 0, ks, l, a, b => (ks, l, a, b)
  | m + 1, ks, l, a, b => if b != 0 then (ks, l, a, b) else
    rdIt val s kind m (rdK s kind ks a b).1 (l ++ [(val (rdK s kind ks a b).2.1 (rdK s kind ks a b).2.2).1]) (val (rdK s kind ks a b).2.1 (rdK s kind ks a b).2.2).2.1 (val (rdK s kind ks a b).2.1 (rdK s kind ks a b).2.2).2.2
def itB (s : ByteArray) (a b : Int) : Int := if decide ((rShort s a b).1 > 128) then failB (rShort s a b).2.2 3 else (rShort s a b).2.2
def rdAll (val : Int → Int → V × Int × Int) (s : ByteArray) (kind a b : Int) : List ByteArray × List V × Int × Int := rdIt val s kind (rShort s a b).1.toNat [] [] (rShort s a b).2.1 (itB s a b)
abbrev cE (k : Int) (sec : Bool) (ks : List ByteArray) (l : List V) : List C := [.v (.int .i64 k), .v (.int .i64 0), .v (.string ByteArray.empty), .sl false 8 l.length (rV l), .sl false 1 ks.length (rS ks), .v (.int .i64 0), .v (.int .i64 0), .v (.bool sec)]
theorem rText_ok (s : ByteArray) (a b : Int) (h0 : 0 ≤ a) (h1 : a ≤ s.size) : 0 ≤ (rText s a b).2.1 ∧ (rText s a b).2.1 ≤ s.size := by
  have g := gStr_ok s a.toNat (s.size - a.toNat) 1024
  unfold rText
  split
  · exact ⟨h0, h1⟩
  · by_cases e : (gStr s a.toNat (s.size - a.toNat) 1024).2.2 = 0
    · have := g.1 e
      exact ⟨by show 0 ≤ a + _; omega, by show a + _ ≤ _; omega⟩
    · have := g.2 e
      exact ⟨by show 0 ≤ a + _; omega, by show a + _ ≤ _; omega⟩
theorem rShort_ok (s : ByteArray) (a b : Int) (h0 : 0 ≤ a) (h1 : a ≤ s.size) : 0 ≤ (rShort s a b).1 ∧ 0 ≤ (rShort s a b).2.1 ∧ (rShort s a b).2.1 ≤ s.size := by
  have g := gS_ok s a.toNat (s.size - a.toNat) 0 0 (Int.le_refl 0)
  have g2 := gS_bad s a.toNat (s.size - a.toNat) 0 0
  unfold rShort
  split
  · exact ⟨Int.le_refl 0, h0, h1⟩
  · by_cases e : (gS s a.toNat (s.size - a.toNat) 0 0).2.2 = 0
    · have := g e
      exact ⟨this.2.2, by show 0 ≤ a + _; omega, by show a + _ ≤ _; omega⟩
    · have := g2 e
      exact ⟨by show 0 ≤ _; omega, by show 0 ≤ a + _; omega, by show a + _ ≤ _; omega⟩
structure ItI (val : Int → Int → V × Int × Int) (s : ByteArray) (k a b : Int) (i : Nat) (ks : List ByteArray) (l : List V) (a' b' : Int) : Prop where
  run : rdIt val s k ((rShort s a b).1.toNat - i) ks l a' b' = rdAll val s k a b
  le : (i : Int) ≤ (rShort s a b).1
  ln : l.length = i
  kn : ks.length ≤ i
  a0 : 0 ≤ a'
  a1 : a' ≤ s.size
  sm : b' = 0 → (rShort s a b).1 ≤ 128
theorem ItI.end1 {val : Int → Int → V × Int × Int} {s : ByteArray} {k a b : Int} {i : Nat} {ks : List ByteArray} {l : List V} {a' b' : Int} (h : ItI val s k a b i ks l a' b') (hq : (decide ((i : Int) < (rShort s a b).1) && (b' == 0)) = false) : rdAll val s k a b = (ks, l, a', b') := by
  rw [← h.run]
  have := h.le
  by_cases h1 : (i : Int) < (rShort s a b).1
  · have hb : (b' != 0) = true := by simp [h1] at hq; simpa using hq
    obtain ⟨m, hm⟩ : ∃ m, (rShort s a b).1.toNat - i = m + 1 := ⟨(rShort s a b).1.toNat - i - 1, by omega⟩
    rw [hm, rdIt, if_pos hb]
  · rw [show (rShort s a b).1.toNat - i = 0 from by omega]; rfl
theorem ItI.next {val : Int → Int → V × Int × Int} {s : ByteArray} {k a b : Int} {i : Nat} {ks : List ByteArray} {l : List V} {a' b' : Int} (h : ItI val s k a b i ks l a' b') (hq : (decide ((i : Int) < (rShort s a b).1) && (b' == 0)) = true)
    (hv : 0 ≤ (val (rdK s k ks a' b').2.1 (rdK s k ks a' b').2.2).2.1 ∧ (val (rdK s k ks a' b').2.1 (rdK s k ks a' b').2.2).2.1 ≤ s.size) :
    ItI val s k a b (i + 1) (rdK s k ks a' b').1 (l ++ [(val (rdK s k ks a' b').2.1 (rdK s k ks a' b').2.2).1]) (val (rdK s k ks a' b').2.1 (rdK s k ks a' b').2.2).2.1 (val (rdK s k ks a' b').2.1 (rdK s k ks a' b').2.2).2.2 := by
  have h0 : (i : Int) < (rShort s a b).1 ∧ b' = 0 := by simpa using hq
  refine ⟨?_, by have := h0.1; omega, by simp [h.ln], ?_, hv.1, hv.2, fun _ => h.sm h0.2⟩
  · rw [← h.run, show (rShort s a b).1.toNat - i = ((rShort s a b).1.toNat - (i + 1)) + 1 from by omega, rdIt, if_neg (by simp [h0.2])]
  · have := h.kn
    unfold rdK
    split <;> simp <;> omega
theorem ItI.init {val : Int → Int → V × Int × Int} {s : ByteArray} {k a b : Int} (h0 : 0 ≤ a) (h1 : a ≤ s.size) : ItI val s k a b 0 [] [] (rShort s a b).2.1 (itB s a b) := by
  have o := rShort_ok s a b h0 h1
  refine ⟨rfl, o.1, rfl, Nat.le_refl _, o.2.1, o.2.2, fun h => ?_⟩
  unfold itB at h
  split at h
  · unfold failB at h
    split at h <;> simp_all
  · rename_i hn; simpa using hn
theorem rS_snoc {ks : List ByteArray} {x : ByteArray} {n : Nat} (hn : n = ks.length) {i : Nat} (h : i < n + 1) : catF 0 n (rS ks) (nthC [cS x]) i = rS (ks ++ [x]) i := rowE_snoc (enc := cS) ks x n hn i h
end Go.Proofs.YtcgcamfhollnlaaGreatDoor
