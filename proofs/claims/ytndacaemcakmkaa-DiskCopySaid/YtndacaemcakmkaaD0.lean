/- Contracts of functions of the program, and the laws that stand on them: what each function answers, whatever its arguments. -/
import Derived.Test.YtndacaemcakmkaaTT
set_option linter.unusedSectionVars false
set_option linter.unnecessarySimpa false
namespace Go.Proofs.Ytndacaemcakmkaa
set_option linter.unusedSimpArgs false
set_option linter.unusedVariables false
set_option maxRecDepth 100000
set_option maxHeartbeats 8000000
open Go Go.VA
/-! ### words, copies of bytes -/
def byteN (s : ByteArray) (i : Nat) : Int := ((s.data.toList[i]?).getD 0).toNat
def smZ (c : Int) : Bool := decide (c ≥ 97) && decide (c ≤ 122)
def dgZ (c : Int) : Bool := decide (c ≥ 48) && decide (c ≤ 57)
def wdZ (c : Int) : Bool := smZ (bitsI .or .u8 c 32) || dgZ c || c == 95 || c == 45 || c == 46
def allB (p : Int → Bool) (s : ByteArray) : Bool := (List.range s.size).all fun j => p (byteN s j)
def spell (p : Int → Bool) (s : ByteArray) : Bool := !(s.size == 0) && decide (s.size ≤ 24) && allB p s
def wordB (s : ByteArray) : Bool := spell wdZ s
theorem str_empty (s : ByteArray) : (s.toList == ({ data := #[] } : ByteArray).toList) = (s.size == 0) := by
 rw [ByteArray.toList_eq, ByteArray.toList_eq, Bool.eq_iff_iff, beq_iff_eq, beq_iff_eq]
 show s.data.toList = [] ↔ s.data.size = 0
 rw [Array.toList_eq_nil_iff, Array.size_eq_zero_iff]
theorem aSmall (c : Int) : ACall Try.prog gl 64 [intA .u8 c] [] (boolA (smZ c)) := by
 refine acall_of_vc htb hmix (f := 64) rfl rfl rfl (by kernel_rfl) rfl rfl ?_; conv => whnf
 repeat' (fail)
 exact leB rfl
theorem aDigit6 (c : Int) : ACall Try.prog gl 65 [intA .u8 c] [] (boolA (dgZ c)) := by
 refine acall_of_vc htb hmix (f := 65) rfl rfl rfl (by kernel_rfl) rfl rfl ?_; conv => whnf
 repeat' (fail)
 exact leB rfl
theorem aWord1 (c : Int) : ACall Try.prog gl 63 [intA .u8 c] [] (boolA (wdZ c)) := by
 refine acall_of_vc htb hmix (f := 63) rfl rfl rfl (by kernel_rfl) rfl rfl ?_; conv => whnf
 repeat' (first | (refine Exists.intro _ (And.intro (aSmall _) ?_); conv => whnf) | ((with_reducible refine GOr.l ?_); (conv => whnf); refine Exists.intro _ (And.intro (chainI (aDigit6 _)) ?_); conv => whnf) | ((with_reducible refine xc_pure ?_); conv => whnf))
 exact leB rfl
theorem aSpelled (F : Nat) (p : Int → Bool) (hF : ∀ c, ACall Try.prog gl F [intA .u8 c] [] (boolA (p c))) (s : ByteArray) : ACall Try.prog gl 62 [.c (.v (.string s)), .fn F [] []] [] (boolA (spell p s)) := by
 have e0 := str_empty s
 refine acall_of_vc htb hmix (f := 62) rfl rfl rfl (by kernel_rfl) rfl rfl ?_; conv => whnf
 repeat' (first | (refine And.intro (fun h => ?_) (fun h => ?_) <;> (first | skip) <;> (first | (conv => whnf))) | fail)
 ·rw [e0] at h
  refine leB ?_
  unfold spell
  simp only [Bool.or_eq_true, beq_iff_eq, decide_eq_true_eq] at h
  have : (!(s.size == 0) && decide (s.size ≤ 24)) = false := by
   rcases h with h | h
   ·simp [h]
   ·simp; omega
  rw [this]; rfl
 ·rw [e0] at h
  simp only [Bool.or_eq_false_iff, beq_eq_false_iff_ne, decide_eq_false_iff_not] at h
  have h0 := h
  refine loopI Nat (fun c => c ≤ s.size ∧ ∀ j, j < c → p (byteN s j) = true) (fun c => [(15, intA .i64 c)]) (fun _ => []) (fun c => s.size - c) 0 ⟨Nat.zero_le _, fun j hj => absurd hj (Nat.not_lt_zero _)⟩ ?_ (fun _ => rfl) fun c ⟨hc, hp⟩ => ?_
  ·(refine And.intro ?_ (And.intro ?_ (And.intro ?_ rfl)) <;> (conv => whnf) <;> repeat' (first | exact trivial | exact LeE.of (Le.refl _) | (first | exact rfl | fail) | ((with_reducible refine And.intro ?_ ?_) <;> conv => whnf)))
  ·conv => whnf
   repeat' (first | (refine Exists.intro _ (And.intro (hF _) ?_); conv => whnf) | (refine And.intro (fun h => ?_) (fun h => ?_) <;> (first | (with_reducible have hd : _ < _ := of_decide_eq_true h) | (with_reducible have hd : ¬ (_ < _) := of_decide_eq_false h) | skip) <;> (first | (conv => whnf))) | (refine And.intro ?_ ?_; (focus (first | (refine chainI ?_; (first | omega | fail)) | fail)); conv => whnf) | ((with_reducible refine xc_pure ?_); conv => whnf))
   ·have hcs : c < s.size := by omega
    refine leB ?_
    unfold spell allB
    have hq : (!p (byteN s c)) = true := h
    have : (List.range s.size).all (fun j => p (byteN s j)) = false := by
     rw [List.all_eq_false]
     exact ⟨c, by simpa using hcs, by simpa using hq⟩
    rw [this]; simp
   ·have hcs : c < s.size := by omega
    have hq : (!p (byteN s c)) = false := h
    refine ⟨c + 1, ⟨hcs, fun j hj => ?_⟩, ?_, by show s.size - (c + 1) < s.size - c; omega⟩
    ·rcases Nat.lt_or_ge j c with h2 | h2
     ·exact hp j h2
     ·obtain rfl : j = c := by omega
      simpa using hq
    ·(refine And.intro ?_ (And.intro ?_ (And.intro ?_ rfl)) <;> (conv => whnf) <;> repeat' (first | exact trivial | exact LeE.of (Le.refl _) | (with_reducible refine LeE.of ?_) | (first | exact rfl | exact leI (by first | rfl | (rw [wrap64 (by omega) (by omega)]; omega) | fail) | fail) | ((with_reducible refine And.intro ?_ ?_) <;> conv => whnf)))
   ·obtain rfl : c = s.size := by omega
    refine leB ?_
    unfold spell allB
    have : (List.range s.size).all (fun j => p (byteN s j)) = true := by
     rw [List.all_eq_true]
     intro j hj
     exact hp j (by simpa using hj)
    rw [this]
    have h1 : (s.size == 0) = false := by simpa using h0.1
    have h2 : s.size ≤ 24 := by omega
    simp [h1, h2]
theorem aWord6 (s : ByteArray) : ACall Try.prog gl 43 [.c (.v (.string s))] [] (boolA (wordB s)) := by
 refine acall_of_vc htb hmix (f := 43) rfl rfl rfl (by kernel_rfl) rfl rfl ?_; conv => whnf
 repeat' (first | (refine Exists.intro _ (And.intro (aSpelled _ wdZ aWord1 _) ?_); conv => whnf) | ((with_reducible refine xc_pure ?_); conv => whnf))
 exact leB rfl
theorem gClone (t : Bool) (n : Nat) (f : Nat → List C) : GCall Try.prog gl 20 [] [.c (.sl t 1 n f)] [.row 1 n f] [.own 0 1 0 n] := by
 refine gcall_of_vcb htb hmix (f := 20) rfl rfl rfl (by kernel_rfl) rfl rfl rfl fun hb hb2 => ?_; simp only [bndOs, bndO, gbnds, AV.gbnd, bnds, C.bnd, true_and, and_true] at hb hb2; conv => whnf
 have hn : n ≤ 140737488355328 := hb2.1
 have B1 : n * (tb 5).bytes ≤ 140737488355328 := by show n * 1 ≤ _; omega
 repeat' (first | (refine And.intro (fun h => ?_) (fun h => ?_) <;> (first | skip) <;> (first | (conv => whnf))) | ((with_reducible refine NilOr.l ?_); conv => whnf) | ((with_reducible refine OwnOr.l ?_); (conv => whnf)) | (refine And.intro ?_ ?_; (focus (first | exact rfl | (first | assumption) | fail)); conv => whnf) | fail)
 ·have h : n = 0 := h rfl
  subst h
  ((conv => whnf); repeat' (first | exact trivial | exact rfl | ((with_reducible refine And.intro ?_ ?_) <;> conv => whnf)))
  all_goals exact fun i hi => absurd hi (Nat.not_lt_zero _)
 ·((conv => whnf); repeat' (first | exact trivial | exact rfl | exact (fun i hi => LeCs.refl _) | ((with_reducible refine And.intro ?_ ?_) <;> conv => whnf)))
def zF : Nat → List C := fun _ => [.v (.int .u8 0)]
theorem gGrow (n : Nat) (h0 : 0 < n) (hn : n ≤ 140737488355328) : GCall Try.prog gl 58 [] [.c (.v (.slice none 0 0)), intA .i64 n] [.row 1 n zF] [.own 0 1 0 0] := by
 have e : IntKind.i64.wrap ((n : Int) - IntKind.i64.wrap (0 - 0)) = n := wrap64 (n := (n : Int) - IntKind.i64.wrap (0 - 0)) (by rw [show IntKind.i64.wrap (0 - 0) = 0 from rfl]; omega) (by rw [show IntKind.i64.wrap (0 - 0) = 0 from rfl]; omega) |>.trans (by rw [show IntKind.i64.wrap (0 - 0) = 0 from rfl]; omega)
 have hB : (0 : Int) < IntKind.i64.wrap ((n : Int) - IntKind.i64.wrap (0 - 0)) ∧ IntKind.i64.wrap ((n : Int) - IntKind.i64.wrap (0 - 0)) ≤ 140737488355328 ∧ IntKind.i64.wrap ((n : Int) - IntKind.i64.wrap (0 - 0)) * ((tb 5).bytes : Int) ≤ 140737488355328 := by
  rw [e]; exact ⟨by omega, by omega, by show (n : Int) * 1 ≤ _; omega⟩
 refine gcall_of_vcb htb hmix (f := 58) rfl rfl rfl (by kernel_rfl) rfl rfl rfl fun hb hb2 => ?_; simp only [bndOs, bndO, gbnds, AV.gbnd, bnds, C.bnd, true_and, and_true] at hb hb2; conv => whnf
 repeat' (first | (refine And.intro (fun h => ?_) (fun h => ?_) <;> (first | (with_reducible have hd : _ < _ := of_decide_eq_true h) | (with_reducible have hd : ¬ (_ < _) := of_decide_eq_false h) | fail) <;> (first | (conv => whnf))) | ((with_reducible refine NilOr.l ?_); conv => whnf) | (refine And.intro ?_ ?_; (focus (first | exact rfl | (first | exact hB | fail) | (refine chainI ?_; (first | decide | omega | fail)) | fail)); conv => whnf) | fail)
 ·omega
 ·have e' : IntKind.i64.wrap ((n : Int) - IntKind.i64.wrap (0 - ((0 : Nat) : Int))) = n := e
  simp only [e', Int.toNat_natCast]
  ((conv => whnf); repeat' (first | exact trivial | exact rfl | exact (fun i hi => LeCs.refl _) | ((with_reducible refine And.intro ?_ ?_) <;> conv => whnf)))
 ·have e' : IntKind.i64.wrap ((n : Int) - IntKind.i64.wrap (0 - ((0 : Nat) : Int))) = n := e
  rw [e'] at hd
  omega
/-- how long parts are, and what they hold, one behind the other -/
def catN (ps : Nat → Nat × (Nat → List C)) : Nat → Nat
 | 0 => 0
 | i + 1 => catN ps i + (ps i).1
def catG (ps : Nat → Nat × (Nat → List C)) : Nat → Nat → List C
 | 0 => zF
 | i + 1 => catF 0 (catN ps i) (catG ps i) (ps i).2
theorem catN_mono (ps : Nat → Nat × (Nat → List C)) : ∀ i j, i ≤ j → catN ps i ≤ catN ps j
 | i, 0, h => by obtain rfl : i = 0 := by omega
                 exact Nat.le_refl _
 | i, j + 1, h => by
  by_cases hi : i = j + 1
  ·subst hi; exact Nat.le_refl _
  ·have := catN_mono ps i j (by omega)
   simp only [catN]; omega
theorem gConcat (t : Bool) (N : Nat) (f : Nat → List C) (tg : Nat → Bool) (ps : Nat → Nat × (Nat → List C)) (hf : ∀ i, i < N → f i = [.sl (tg i) 1 (ps i).1 (ps i).2]) (h0 : 0 < catN ps N) (hN : catN ps N ≤ 140737488355328) :
  GCall Try.prog gl 34 [] [.c (.sl t 1 N f)] [.row 1 (catN ps N) (catG ps N)] [.own 0 1 0 (catN ps N)] := by
 have hpos : 0 < N := by
  rcases Nat.eq_zero_or_pos N with h | h
  ·subst h; exact absurd h0 (Nat.lt_irrefl _)
  ·exact h
 refine gcall_of_vcb htb hmix (f := 34) rfl rfl rfl (by kernel_rfl) rfl rfl rfl fun hb hb2 => ?_; simp only [bndOs, bndO, gbnds, AV.gbnd, bnds, C.bnd, true_and, and_true] at hb hb2; conv => whnf
 repeat' (first | ((with_reducible refine NilOr.l ?_); conv => whnf) | fail)
 refine loopI Nat (fun c => c ≤ N) (fun c => [(3, intA .i64 (catN ps c)), (11, intA .i64 c)]) (fun c => [.row (tb 5).sz 0 fun x => []]) (fun c => N - c) 0 (Nat.zero_le _) ?_ (fun _ => rfl) fun c hc => ?_
 ·(refine And.intro ?_ (And.intro ?_ (And.intro ?_ rfl)) <;> (conv => whnf) <;> repeat' (first | exact trivial | exact LeE.of (Le.refl _) | (first | exact rfl | exact fun i hi => LeCs.refl _ | fail) | ((with_reducible refine And.intro ?_ ?_) <;> conv => whnf)))
 ·change c ≤ N at hc
  rcases Nat.lt_or_ge c N with hcl | hcl
  ·have ec : f ((c : Int)).toNat = [.sl (tg c) 1 (ps c).1 (ps c).2] := hf c hcl
   have m1 := catN_mono ps (c + 1) N hcl
   have es : catN ps (c + 1) = catN ps c + (ps c).1 := rfl
   have ew : IntKind.i64.wrap ((catN ps c : Int) + ((ps c).1 : Int)) = ((catN ps (c + 1) : Nat) : Int) := by rw [es, wrap64 (by omega) (by omega)]; omega
   conv => whnf
   repeat' (first | (refine And.intro (fun h => ?_) (fun h => ?_) <;> (first | (with_reducible have hd : _ < _ := of_decide_eq_true h) | (with_reducible have hd : ¬ (_ < _) := of_decide_eq_false h) | fail) <;> (first | (conv => whnf))) | (refine And.intro ?_ ?_; (focus (first | (refine chainI ?_; (first | omega | fail)) | fail)); conv => whnf) | (rw [ec]; conv => whnf))
   all_goals try (exfalso; rw [ew] at hd; omega)
   all_goals try (exfalso; omega)
   refine ⟨c + 1, hcl, ?_, by show N - (c + 1) < N - c; omega⟩
   (refine And.intro ?_ (And.intro ?_ (And.intro ?_ rfl)) <;> (conv => whnf) <;> repeat' (first | exact trivial | exact LeE.of (Le.refl _) | (with_reducible refine LeE.of ?_) | (first | exact rfl | exact leI (by first | rfl | omega | (rw [wrap64 (by omega) (by omega)]; omega) | fail) | exact fun i hi => LeCs.refl _ | fail) | ((with_reducible refine And.intro ?_ ?_) <;> conv => whnf)))
   all_goals exact leI ew
  ·obtain rfl : c = N := by omega
   have G := gGrow (catN ps c) h0 hN
   conv => whnf
   repeat' (first | (refine And.intro (fun h => ?_) (fun h => ?_) <;> (first | (with_reducible have hd : _ < _ := of_decide_eq_true h) | (with_reducible have hd : ¬ (_ < _) := of_decide_eq_false h) | fail) <;> (first | (conv => whnf))) | (refine And.intro ?_ ?_; (focus (first | (refine chainI ?_; (first | omega | fail)) | fail)); conv => whnf) | ((with_reducible refine xc_guard ?_); (first | (refine xc_g (G) false (by first | (((conv => whnf); repeat' (first | exact trivial | exact rfl | exact LeC.refl _ | ((with_reducible refine And.intro ?_ ?_) <;> conv => whnf))); done) | fail) trivial ?_) | fail); conv => whnf) | fail)
   all_goals try (exfalso; omega)
   refine loopI Nat (fun d => d ≤ c) (fun d => [(6, .own 1 1 0 (catN ps d)), (27, intA .i64 d)]) (fun d => [.row (tb 5).sz 0 fun x => [], .row 1 (if d = 0 then catN ps c else catN ps d) (catG ps d)]) (fun d => c - d) 0 (Nat.zero_le _) ?_ (fun _ => rfl) fun d hd0 => ?_
   ·(refine And.intro ?_ (And.intro ?_ (And.intro ?_ rfl)) <;> (conv => whnf) <;> repeat' (first | exact trivial | exact LeE.of (Le.refl _) | (first | exact rfl | exact fun i hi => LeCs.refl _ | fail) | ((with_reducible refine And.intro ?_ ?_) <;> conv => whnf)))
   ·change d ≤ c at hd0
    rcases Nat.lt_or_ge d c with hdl | hdl
    ·have ec : f ((d : Int)).toNat = [.sl (tg d) 1 (ps d).1 (ps d).2] := hf d hdl
     have m1 := catN_mono ps (d + 1) c hdl
     have es : catN ps (d + 1) = catN ps d + (ps d).1 := rfl
     have hB : (catN ps d + (ps d).1) * (tb 5).bytes ≤ 140737488355328 := by show (catN ps d + (ps d).1) * 1 ≤ _; omega
     conv => whnf
     repeat' (first | (refine And.intro (fun h => ?_) (fun h => ?_) <;> (first | (with_reducible have hd : _ < _ := of_decide_eq_true h) | (with_reducible have hd : ¬ (_ < _) := of_decide_eq_false h) | fail) <;> (first | (conv => whnf))) | (refine And.intro ?_ ?_; (focus (first | exact rfl | (first | exact hB | fail) | (refine chainI ?_; (first | omega | fail)) | (first | omega | fail) | fail)); conv => whnf) | (rw [ec]; conv => whnf))
     all_goals try (exfalso; omega)
     refine ⟨d + 1, hdl, ?_, by show c - (d + 1) < c - d; omega⟩
     (refine And.intro ?_ (And.intro ?_ (And.intro ?_ rfl)) <;> (conv => whnf) <;> repeat' (first | exact trivial | exact LeE.of (Le.refl _) | (with_reducible refine LeE.of ?_) | (first | exact rfl | exact leI (by first | rfl | (rw [wrap64 (by omega) (by omega)]; omega) | fail) | exact fun i hi => LeCs.refl _ | fail) | ((with_reducible refine And.intro ?_ ?_) <;> conv => whnf)))
    ·obtain rfl : d = c := by omega
     conv => whnf
     repeat' (first | (refine And.intro (fun h => ?_) (fun h => ?_) <;> (first | (with_reducible have hd : _ < _ := of_decide_eq_true h) | (with_reducible have hd : ¬ (_ < _) := of_decide_eq_false h) | fail) <;> (first | (conv => whnf))) | (refine And.intro ?_ ?_; (focus (first | exact rfl | (refine chainI ?_; (first | omega | fail)) | fail)); conv => whnf) | fail)
     all_goals try (exfalso; omega)
     ((conv => whnf); repeat' (first | exact trivial | exact rfl | exact (fun i hi => LeCs.refl _) | ((with_reducible refine And.intro ?_ ?_) <;> conv => whnf)))
     all_goals (split <;> rfl)

theorem aCloneD (t : Bool) (n : Nat) (f : Nat → List C) : ACall Try.prog gl 20 [.c (.sl t 1 n f)] [] (.c (.sl false 1 n f)) := by
 have h := ACall.of_gcall (gClone t n f)
 have e : (fun j => f (0 + j)) = f := by funext j; rw [Nat.zero_add]
 rw [e] at h
 exact h
end Go.Proofs.Ytndacaemcakmkaa

namespace Go.Proofs.Ytndacaemcakmkaa
set_option linter.unusedSimpArgs false
set_option linter.unusedVariables false
set_option maxRecDepth 100000
set_option maxHeartbeats 8000000
open Go Go.VA Go.RowKit
/-! ### the disk's small functions -/
abbrev dskB (fuse : Int) (dead : Bool) (ops : Int) : AO := .box [.mpv 1, intA .i64 fuse, boolA dead, intA .i64 ops]
abbrev fl (x y : C) : AV := .ag [x, y]
abbrev mFnd (s : ByteArray) (m : List (Value × AV)) (q : AV × Bool) : Prop := MFind (.string s) (.ag (consC (tb 52).zero)) m q
theorem gNew : GCall Try.prog gl 8 [] [] [.box [.mpv 1, intA .i64 0, boolA false, intA .i64 0], .mp []] [.ptr 0 0] := by
 refine gcall_of_vcb htb hmix (f := 8) rfl rfl rfl (by kernel_rfl) rfl rfl rfl fun hb hb2 => ?_; simp only [bndOs, bndO, gbnds, AV.gbnd, bnds, C.bnd, true_and, and_true] at hb hb2; conv => whnf
 repeat' (first | (refine And.intro ?_ ?_; (focus (first | exact rfl | fail)); conv => whnf) | fail)
 ((conv => whnf); repeat' (first | exact trivial | exact rfl | exact LeC.refl _ | ((with_reducible refine And.intro ?_ ?_) <;> conv => whnf)))
theorem gPut1 (fuse : Int) (dead : Bool) (ops : Int) (s : ByteArray) (m : List (Value × AV)) (hm : mOk (tb 9).k m = true) (x z : C) (b : Bool) (hq : mFnd s m (fl x z, b)) (n : Nat) (f : Nat → List C) : GCall Try.prog gl 44 [dskB fuse dead ops, .mp m, .box [.ptr 0 0], .box [.c (.v (.string s))], .box [.c (.sl false 1 n f)]] [.ptr 2 0, .ptr 3 0, .ptr 4 0]
  [dskB fuse dead ops, .mp (mPut (.string s) (fl (.sl false 1 n f) z) m), .box [.ptr 0 0], .box [.c (.v (.string s))], .box [.c (.sl false 1 n f)]] [] := by
 refine gcall_of_vcb htb hmix (f := 44) rfl rfl rfl (by kernel_rfl) rfl rfl rfl fun hb hb2 => ?_; simp only [bndOs, bndO, gbnds, AV.gbnd, bnds, C.bnd, true_and, and_true] at hb hb2; conv => whnf
 repeat' (first | (refine Exists.intro _ (And.intro (hq) ?_); conv => whnf) | ((with_reducible refine Both.mk ?_ ?_) <;> conv => whnf) | ((with_reducible apply Drawn.one); conv => whnf) | ((with_reducible refine Then.mk' ?_); conv => whnf) | (first | exact RefS.self rfl | fail) | (refine And.intro ?_ ?_; (focus (first | exact rfl | (first | assumption) | fail)); conv => whnf) | fail)
 ((conv => whnf); repeat' (first | exact trivial | exact rfl | exact LeC.refl _ | ((with_reducible refine And.intro ?_ ?_) <;> conv => whnf)))
 exact LeMs.refl _
theorem gSync1 (fuse : Int) (dead : Bool) (ops : Int) (s : ByteArray) (m : List (Value × AV)) (hm : mOk (tb 9).k m = true) (x z : C) (b : Bool) (hq : mFnd s m (fl x z, b)) : GCall Try.prog gl 23 [dskB fuse dead ops, .mp m, .box [.ptr 0 0], .box [.c (.v (.string s))]] [.ptr 2 0, .ptr 3 0]
  [dskB fuse dead ops, .mp (mPut (.string s) (fl x x) m), .box [.ptr 0 0], .box [.c (.v (.string s))]] [] := by
 refine gcall_of_vcb htb hmix (f := 23) rfl rfl rfl (by kernel_rfl) rfl rfl rfl fun hb hb2 => ?_; simp only [bndOs, bndO, gbnds, AV.gbnd, bnds, C.bnd, true_and, and_true] at hb hb2; conv => whnf
 repeat' (first | (refine Exists.intro _ (And.intro (hq) ?_); conv => whnf) | ((with_reducible refine Both.mk ?_ ?_) <;> conv => whnf) | ((with_reducible apply Drawn.one); conv => whnf) | ((with_reducible refine Then.mk' ?_); conv => whnf) | (first | exact RefS.self rfl | fail) | (refine And.intro ?_ ?_; (focus (first | exact rfl | (first | assumption) | fail)); conv => whnf) | fail)
 ((conv => whnf); repeat' (first | exact trivial | exact rfl | exact LeC.refl _ | ((with_reducible refine And.intro ?_ ?_) <;> conv => whnf)))
 exact LeMs.refl _
theorem aWordN (s : ByteArray) : ACall Try.prog gl 42 [.c (.v (.string s))] [] (boolA (!wordB s)) := by
 refine acall_of_vc htb hmix (f := 42) rfl rfl rfl (by kernel_rfl) rfl rfl ?_; conv => whnf
 repeat' (first | (refine Exists.intro _ (And.intro (aWord6 _) ?_); conv => whnf) | ((with_reducible refine xc_pure ?_); conv => whnf))
 exact leB rfl
theorem aIndexW (t : Bool) (n : Nat) (l : Nat → ByteArray) (f : Nat → List C) (hf : ∀ i, i < n → f i = [.v (.string (l i))]) (hw : ∀ i, i < n → wordB (l i) = true) : ACall Try.prog gl 61 [.c (.sl t 1 n f), .fn 42 [] []] [] (intA .i64 (-1)) := by
 refine acall_of_vcb htb hmix (f := 61) rfl rfl rfl (by kernel_rfl) rfl rfl fun hb => ?_; simp only [bndAll, AV.bnd, bnds, C.bnd, cVt, cS, true_and, and_true] at hb; conv => whnf
 repeat' (fail)
 refine loopI Nat (fun c => c ≤ n) (fun c => [(8, intA .i64 c)]) (fun _ => []) (fun c => n - c) 0 (Nat.zero_le _) ?_ (fun _ => rfl) fun c hc => ?_
 ·(refine And.intro ?_ (And.intro ?_ (And.intro ?_ rfl)) <;> (conv => whnf) <;> repeat' (first | exact trivial | exact LeE.of (Le.refl _) | (first | exact rfl | fail) | ((with_reducible refine And.intro ?_ ?_) <;> conv => whnf)))
 ·change c ≤ n at hc
  rcases Nat.lt_or_ge c n with hcl | hcl
  ·have ec : f ((c : Int)).toNat = [.v (.string (l c))] := hf c hcl
   have ew : (!wordB (l c)) = false := by rw [hw c hcl]; rfl
   conv => whnf
   repeat' (first | (refine Exists.intro _ (And.intro (aWordN _) ?_); conv => whnf) | (refine And.intro (fun h => ?_) (fun h => ?_) <;> (first | (with_reducible have hd : _ < _ := of_decide_eq_true h) | (with_reducible have hd : ¬ (_ < _) := of_decide_eq_false h) | skip) <;> (first | (conv => whnf))) | (refine And.intro ?_ ?_; (focus (first | (refine chainI ?_; (first | omega | fail)) | fail)); conv => whnf) | ((with_reducible refine xc_pure ?_); conv => whnf) | (rw [ec]; conv => whnf))
   all_goals try (exfalso; omega)
   ·exact absurd (ew.symm.trans h) (by decide)
   ·refine ⟨c + 1, hcl, ?_, by show n - (c + 1) < n - c; omega⟩
    (refine And.intro ?_ (And.intro ?_ (And.intro ?_ rfl)) <;> (conv => whnf) <;> repeat' (first | exact trivial | exact LeE.of (Le.refl _) | (with_reducible refine LeE.of ?_) | (first | exact rfl | exact leI (by first | rfl | (rw [wrap64 (by omega) (by omega)]; omega) | fail) | fail) | ((with_reducible refine And.intro ?_ ?_) <;> conv => whnf)))
  ·obtain rfl : c = n := by omega
   conv => whnf
   repeat' (first | (refine And.intro (fun h => ?_) (fun h => ?_) <;> (first | (with_reducible have hd : _ < _ := of_decide_eq_true h) | (with_reducible have hd : ¬ (_ < _) := of_decide_eq_false h) | fail) <;> (first | (conv => whnf))) | (refine And.intro ?_ ?_; (focus (first | (refine chainI ?_; (first | omega | fail)) | fail)); conv => whnf) | fail)
   all_goals try (exfalso; omega)
   exact Le.refl _
theorem aContW (t : Bool) (n : Nat) (l : Nat → ByteArray) (f : Nat → List C) (hf : ∀ i, i < n → f i = [.v (.string (l i))]) (hw : ∀ i, i < n → wordB (l i) = true) : ACall Try.prog gl 41 [.c (.sl t 1 n f), .fn 42 [] []] [] (boolA false) := by
 refine acall_of_vc htb hmix (f := 41) rfl rfl rfl (by kernel_rfl) rfl rfl ?_; conv => whnf
 repeat' (first | (refine Exists.intro _ (And.intro (aIndexW t n l f hf hw) ?_); conv => whnf) | ((with_reducible refine xc_pure ?_); conv => whnf))
 exact leB rfl
/-! ### no disk -/
end Go.Proofs.Ytndacaemcakmkaa
