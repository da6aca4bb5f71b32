/- Contracts of functions of the program, and the laws that stand on them: what each function answers, whatever its arguments. -/
import Derived.Test.YteidfcaciadgpaaDoorC15
import Derived.Test.YteidfcaciadgpaaDoorVD
import Derived.Test.YteidfcaciadgpaaDoorC13
set_option linter.unusedSectionVars false
set_option linter.unnecessarySimpa false
namespace Go.Proofs.YteidfcaciadgpaaDoor
set_option linter.unusedSimpArgs false
set_option linter.unusedVariables false
set_option maxRecDepth 100000
set_option maxHeartbeats 8000000
open Go Go.VA
def nF : Nat → List C := fun _ => []
theorem tnt {p : Prop} (h : true = !true) : p := absurd h (by decide)
theorem sameF_self (n : Nat) (g : Nat → Int) : sameF n n g g = true := by simp [sameF]
end Go.Proofs.YteidfcaciadgpaaDoor

namespace Go.Proofs.YteidfcaciadgpaaDoor
set_option linter.unusedSimpArgs false
set_option linter.unusedVariables false
set_option maxRecDepth 100000
set_option maxHeartbeats 8000000
open Go Go.VA
def lentF (s : ByteArray) (i : Nat) : List C := if i < s.size then strCells s i else cBy 165
def lentR (s : ByteArray) (c i : Nat) : List C := if i < c then lentF s i else cBy 0
theorem lent_put (s : ByteArray) (c : Nat) (x : Int) (hx : lentF s c = cBy x) (i : Nat) : updF (lentR s c) (0 + ((c : Int)).toNat) (List.take 0 (lentR s c (0 + ((c : Int)).toNat)) ++ [C.v (.int .u8 x)] ++ List.drop (0 + (tb 5).sz) (lentR s c (0 + ((c : Int)).toNat))) i = lentR s (c + 1) i := by
  have e : lentR s c c = cBy 0 := by unfold lentR; rw [if_neg (Nat.lt_irrefl c)]
  have e2 : (0 + ((c : Int)).toNat) = c := by omega
  rw [e2, e]
  show (if i = c then cBy x else lentR s c i) = if i < c + 1 then lentF s i else cBy 0
  by_cases h : i = c
  · subst h; rw [if_pos rfl, if_pos (by omega), hx]
  · rw [if_neg h]
    unfold lentR
    by_cases h2 : i < c
    · rw [if_pos h2, if_pos (by omega)]
    · rw [if_neg h2, if_neg (by omega)]
theorem gLent (t : Bool) (s : ByteArray) (hs : s.size ≤ 1000000) : GCall Tryd.prog gl 9 [] [.c (.sl t 1 s.size (strCells s))] [.row 1 (s.size + 8) (lentF s)] [.own 0 1 0 s.size] := by
  refine gcall_of_vcb htb hmix (f := 9) rfl rfl rfl (by kernel_rfl) rfl rfl rfl fun hb hb2 => ?_; simp only [bndOs, bndO, gbnds, AV.gbnd, bnds, C.bnd, true_and, and_true] at hb hb2; conv => whnf
  have e8 : IntKind.i64.wrap ((s.size : Int) + 8) = ((s.size + 8 : Nat) : Int) := by rw [wrap64 (by omega) (by omega)]; omega
  rw [e8]
  have B1 : (0 : Int) ≤ ((s.size + 8 : Nat) : Int) ∧ ((s.size + 8 : Nat) : Int) ≤ ((s.size + 8 : Nat) : Int) ∧ ((s.size + 8 : Nat) : Int) ≤ 140737488355328 ∧ ((s.size + 8 : Nat) : Int) * ((tb 5).bytes : Int) ≤ 140737488355328 := ⟨by omega, Int.le_refl _, by omega, by show ((s.size + 8 : Nat) : Int) * (1 : Int) ≤ _; omega⟩
  conv => whnf
  repeat' (first | (refine And.intro ?_ ?_; (focus (first | exact trivial | exact rfl | (first | exact seT | exact hM | exact NoTag.v3 _ _ _ _ _ | exact u64nn _ | assumption) | (refine chainI ?_; (first | (first | exact seT | exact hM | exact NoTag.v3 _ _ _ _ _ | exact u64nn _ | assumption) | decide | omega | (refine And.intro ?_ ?_ <;> first | omega | (simp; omega)) | (simp only [IntKind.wrap_i64]; first | omega | (refine And.intro ?_ ?_ <;> omega)))) | (intro _; (first | (first | exact seT | exact hM | exact NoTag.v3 _ _ _ _ _ | exact u64nn _ | assumption) | decide | omega | (refine And.intro ?_ ?_ <;> first | omega | (simp; omega)) | (simp only [IntKind.wrap_i64]; first | omega | (refine And.intro ?_ ?_ <;> omega)))) | (intro _ _; (first | (first | exact seT | exact hM | exact NoTag.v3 _ _ _ _ _ | exact u64nn _ | assumption) | decide | omega | (refine And.intro ?_ ?_ <;> first | omega | (simp; omega)) | (simp only [IntKind.wrap_i64]; first | omega | (refine And.intro ?_ ?_ <;> omega)))) | (first | decide | omega | (refine And.intro ?_ ?_ <;> first | omega | (simp; omega)) | (simp only [IntKind.wrap_i64]; first | omega | (refine And.intro ?_ ?_ <;> omega))) | ((conv => whnf); intros; (try simp only [decide_eq_true_eq, decide_eq_false_iff_not, Bool.and_eq_true, Bool.or_eq_true, Bool.and_eq_false_imp, Bool.or_eq_false_iff, Bool.not_eq_true', Bool.not_eq_false', beq_iff_eq, bne_iff_ne, ne_eq] at *); (first | (first | exact seT | exact hM | exact NoTag.v3 _ _ _ _ _ | exact u64nn _ | assumption) | decide | omega | (refine And.intro ?_ ?_ <;> first | omega | (simp; omega)) | (simp only [IntKind.wrap_i64]; first | omega | (refine And.intro ?_ ?_ <;> omega)))))); conv => whnf))
  refine loopI Nat (fun c => c ≤ s.size + 8) (fun c => [(4, intA .i64 c), (3, .own 1 1 0 (s.size + 8))]) (fun c => [.row (tb 5).sz 0 fun x => [], .row 1 (s.size + 8) (lentR s c)]) (fun c => s.size + 8 - c) 0 (Nat.zero_le _) ?_ (fun _ => rfl) fun c hc => ?_
  · (refine And.intro ?_ (And.intro ?_ (And.intro ?_ rfl)) <;> (conv => whnf) <;> repeat' (first | exact trivial | exact LeE.of (Le.refl _) | exact LeE.nil rfl | (with_reducible refine LeE.of ?_) | (first | fail | exact Le.refl _ | exact rfl | exact leI (by first | rfl | omega | (rw [wrap64 (by omega) (by omega)]; omega) | (rw [wrap64 (by omega) (by omega)]; done)) | exact LeCs.refl _ | exact fun i hi => LeCs.refl _ | exact leOwn (by first | rfl | omega)) | ((with_reducible refine And.intro ?_ ?_) <;> conv => whnf)))
  · have hM : (0 : Int) ≤ (s.size : Int) ∧ (s.size : Int) ≤ ((max (s.size + 8) (min (s.size + 8 - 0) 140737488355328) : Nat) : Int) := ⟨by omega, by omega⟩
    conv => whnf
    repeat' (first | (refine And.intro (fun h => ?_) (fun h => ?_) <;> (first | (with_reducible have hd : _ < _ := of_decide_eq_true h) | (with_reducible have hd : _ ≤ _ := of_decide_eq_true h) | (with_reducible have hd : ¬ (_ < _) := of_decide_eq_false h) | (with_reducible have hd : ¬ (_ ≤ _) := of_decide_eq_false h) | skip) <;> conv => whnf) | (refine And.intro ?_ ?_; (focus (first | exact trivial | exact rfl | (first | exact seT | exact hM | exact NoTag.v3 _ _ _ _ _ | exact u64nn _ | assumption) | (refine chainI ?_; (first | (first | exact seT | exact hM | exact NoTag.v3 _ _ _ _ _ | exact u64nn _ | assumption) | decide | omega | (refine And.intro ?_ ?_ <;> first | omega | (simp; omega)) | (simp only [IntKind.wrap_i64]; first | omega | (refine And.intro ?_ ?_ <;> omega)))) | (intro _; (first | (first | exact seT | exact hM | exact NoTag.v3 _ _ _ _ _ | exact u64nn _ | assumption) | decide | omega | (refine And.intro ?_ ?_ <;> first | omega | (simp; omega)) | (simp only [IntKind.wrap_i64]; first | omega | (refine And.intro ?_ ?_ <;> omega)))) | (intro _ _; (first | (first | exact seT | exact hM | exact NoTag.v3 _ _ _ _ _ | exact u64nn _ | assumption) | decide | omega | (refine And.intro ?_ ?_ <;> first | omega | (simp; omega)) | (simp only [IntKind.wrap_i64]; first | omega | (refine And.intro ?_ ?_ <;> omega)))) | (first | decide | omega | (refine And.intro ?_ ?_ <;> first | omega | (simp; omega)) | (simp only [IntKind.wrap_i64]; first | omega | (refine And.intro ?_ ?_ <;> omega))) | ((conv => whnf); intros; (try simp only [decide_eq_true_eq, decide_eq_false_iff_not, Bool.and_eq_true, Bool.or_eq_true, Bool.and_eq_false_imp, Bool.or_eq_false_iff, Bool.not_eq_true', Bool.not_eq_false', beq_iff_eq, bne_iff_ne, ne_eq] at *); (first | (first | exact seT | exact hM | exact NoTag.v3 _ _ _ _ _ | exact u64nn _ | assumption) | decide | omega | (refine And.intro ?_ ?_ <;> first | omega | (simp; omega)) | (simp only [IntKind.wrap_i64]; first | omega | (refine And.intro ?_ ?_ <;> omega)))))); conv => whnf))
    · refine ⟨c + 1, by omega, ?_, by omega⟩
      (refine And.intro ?_ (And.intro ?_ (And.intro ?_ rfl)) <;> (conv => whnf) <;> repeat' (first | exact trivial | exact LeE.of (Le.refl _) | exact LeE.nil rfl | (with_reducible refine LeE.of ?_) | (first | fail | exact Le.refl _ | exact rfl | exact leI (by first | rfl | omega | (rw [wrap64 (by omega) (by omega)]; omega) | (rw [wrap64 (by omega) (by omega)]; done)) | exact LeCs.refl _ | exact fun i hi => LeCs.refl _ | exact leOwn (by first | rfl | omega)) | ((with_reducible refine And.intro ?_ ?_) <;> conv => whnf)))
      exact fun i hi => LeCs.of_eq (lent_put s c _ (by unfold lentF; rw [if_pos (by omega)]; rfl) i)
    · refine ⟨c + 1, by omega, ?_, by omega⟩
      (refine And.intro ?_ (And.intro ?_ (And.intro ?_ rfl)) <;> (conv => whnf) <;> repeat' (first | exact trivial | exact LeE.of (Le.refl _) | exact LeE.nil rfl | (with_reducible refine LeE.of ?_) | (first | fail | exact Le.refl _ | exact rfl | exact leI (by first | rfl | omega | (rw [wrap64 (by omega) (by omega)]; omega) | (rw [wrap64 (by omega) (by omega)]; done)) | exact LeCs.refl _ | exact fun i hi => LeCs.refl _ | exact leOwn (by first | rfl | omega)) | ((with_reducible refine And.intro ?_ ?_) <;> conv => whnf)))
      exact fun i hi => LeCs.of_eq (lent_put s c _ (by unfold lentF; rw [if_neg (by omega)]) i)
    · obtain rfl : c = s.size + 8 := by omega
      ((conv => whnf); repeat' (first | exact trivial | exact rfl | exact LeC.refl _ | exact LeC.nil rfl | exact LeC.emp rfl | exact LeCs.refl _ | exact (fun i hi => LeCs.refl _) | ((with_reducible refine And.intro ?_ ?_) <;> conv => whnf)))
      exact fun i hi => LeCs.of_eq (by unfold lentR; rw [if_pos hi])
theorem gKept (t : Bool) (s : ByteArray) (hs : s.size ≤ 1000000) : GCall Tryd.prog gl 17 [.row 1 (s.size + 8) (lentF s)] [.own 0 1 0 s.size, .c (.sl t 1 s.size (strCells s))] [.row 1 (s.size + 8) (lentF s)] [boolA true] := by
  have S := aSameX true t s.size s.size (fun i => lentF s (0 + i)) (strCells s) (byteN s) (byteN s) (fun i hi => by unfold lentF; rw [if_pos (by omega), Nat.zero_add]; rfl) (fun i hi => rfl)
  rw [sameF_self] at S
  have e8 : IntKind.i64.wrap ((s.size : Int) + 8) = ((s.size + 8 : Nat) : Int) := by rw [wrap64 (by omega) (by omega)]; omega
  have hM : (0 : Int) ≤ IntKind.i64.wrap ((s.size : Int) + 8) ∧ IntKind.i64.wrap ((s.size : Int) + 8) ≤ ((max (s.size) (min (s.size + 8 - 0) 140737488355328) : Nat) : Int) := by rw [e8]; exact ⟨by omega, by omega⟩
  refine gcall_of_vcb htb hmix (f := 17) rfl rfl rfl (by kernel_rfl) rfl rfl rfl fun hb hb2 => ?_; simp only [bndOs, bndO, gbnds, AV.gbnd, bnds, C.bnd, true_and, and_true] at hb hb2; conv => whnf
  repeat' (first | (refine Exists.intro _ (And.intro (S) ?_); conv => whnf) | (refine And.intro (fun h => ?_) (fun h => ?_) <;> (first | (with_reducible have hd : _ < _ := of_decide_eq_true h) | (with_reducible have hd : _ ≤ _ := of_decide_eq_true h) | (with_reducible have hd : ¬ (_ < _) := of_decide_eq_false h) | (with_reducible have hd : ¬ (_ ≤ _) := of_decide_eq_false h) | skip) <;> conv => whnf) | (refine And.intro ?_ ?_; (focus (first | exact trivial | exact rfl | (first | exact seT | exact hM | exact NoTag.v3 _ _ _ _ _ | exact u64nn _ | assumption) | (refine chainI ?_; (first | (first | exact seT | exact hM | exact NoTag.v3 _ _ _ _ _ | exact u64nn _ | assumption) | decide | omega | (refine And.intro ?_ ?_ <;> first | omega | (simp; omega)) | (simp only [IntKind.wrap_i64]; first | omega | (refine And.intro ?_ ?_ <;> omega)))) | (intro _; (first | (first | exact seT | exact hM | exact NoTag.v3 _ _ _ _ _ | exact u64nn _ | assumption) | decide | omega | (refine And.intro ?_ ?_ <;> first | omega | (simp; omega)) | (simp only [IntKind.wrap_i64]; first | omega | (refine And.intro ?_ ?_ <;> omega)))) | (intro _ _; (first | (first | exact seT | exact hM | exact NoTag.v3 _ _ _ _ _ | exact u64nn _ | assumption) | decide | omega | (refine And.intro ?_ ?_ <;> first | omega | (simp; omega)) | (simp only [IntKind.wrap_i64]; first | omega | (refine And.intro ?_ ?_ <;> omega)))) | (first | decide | omega | (refine And.intro ?_ ?_ <;> first | omega | (simp; omega)) | (simp only [IntKind.wrap_i64]; first | omega | (refine And.intro ?_ ?_ <;> omega))) | ((conv => whnf); intros; (try simp only [decide_eq_true_eq, decide_eq_false_iff_not, Bool.and_eq_true, Bool.or_eq_true, Bool.and_eq_false_imp, Bool.or_eq_false_iff, Bool.not_eq_true', Bool.not_eq_false', beq_iff_eq, bne_iff_ne, ne_eq] at *); (first | (first | exact seT | exact hM | exact NoTag.v3 _ _ _ _ _ | exact u64nn _ | assumption) | decide | omega | (refine And.intro ?_ ?_ <;> first | omega | (simp; omega)) | (simp only [IntKind.wrap_i64]; first | omega | (refine And.intro ?_ ?_ <;> omega)))))); conv => whnf) | (refine And.intro ?_ ?_; (focus (first | exact NoTag.int | exact NoTag.bool | exact NoTag.str | (refine NoTag.of_scalar ?_; rfl))); conv => whnf) | ((with_reducible refine xc_pure ?_); conv => whnf))
  · exact absurd h (by decide)
  · rw [e8]
    refine loopI Nat (fun c => s.size ≤ c ∧ c ≤ s.size + 8) (fun c => [(6, intA .i64 c), (5, .own 0 1 0 (s.size + 8))]) (fun c => [.row 1 (s.size + 8) (lentF s)]) (fun c => s.size + 8 - c) s.size ⟨Nat.le_refl _, by omega⟩ ?_ (fun _ => rfl) fun c ⟨hc, hc2⟩ => ?_
    · (refine And.intro ?_ (And.intro ?_ (And.intro ?_ rfl)) <;> (conv => whnf) <;> repeat' (first | exact trivial | exact LeE.of (Le.refl _) | exact LeE.nil rfl | (with_reducible refine LeE.of ?_) | (first | fail | exact Le.refl _ | exact rfl | exact leI (by first | rfl | omega | (rw [wrap64 (by omega) (by omega)]; omega) | (rw [wrap64 (by omega) (by omega)]; done)) | exact LeCs.refl _ | exact fun i hi => LeCs.refl _ | exact leOwn (by first | rfl | omega)) | ((with_reducible refine And.intro ?_ ?_) <;> conv => whnf)))
    · have ec : lentF s (0 + ((c : Int)).toNat) = cBy 165 := by unfold lentF; rw [if_neg (by omega)]
      conv => whnf
      repeat' (first | (refine And.intro (fun h => ?_) (fun h => ?_) <;> (first | (with_reducible have hd : _ < _ := of_decide_eq_true h) | (with_reducible have hd : _ ≤ _ := of_decide_eq_true h) | (with_reducible have hd : ¬ (_ < _) := of_decide_eq_false h) | (with_reducible have hd : ¬ (_ ≤ _) := of_decide_eq_false h) | skip) <;> conv => whnf) | (refine And.intro ?_ ?_; (focus (first | exact trivial | exact rfl | (first | exact seT | exact hM | exact NoTag.v3 _ _ _ _ _ | exact u64nn _ | assumption) | (refine chainI ?_; (first | (first | exact seT | exact hM | exact NoTag.v3 _ _ _ _ _ | exact u64nn _ | assumption) | decide | omega | (refine And.intro ?_ ?_ <;> first | omega | (simp; omega)) | (simp only [IntKind.wrap_i64]; first | omega | (refine And.intro ?_ ?_ <;> omega)))) | (intro _; (first | (first | exact seT | exact hM | exact NoTag.v3 _ _ _ _ _ | exact u64nn _ | assumption) | decide | omega | (refine And.intro ?_ ?_ <;> first | omega | (simp; omega)) | (simp only [IntKind.wrap_i64]; first | omega | (refine And.intro ?_ ?_ <;> omega)))) | (intro _ _; (first | (first | exact seT | exact hM | exact NoTag.v3 _ _ _ _ _ | exact u64nn _ | assumption) | decide | omega | (refine And.intro ?_ ?_ <;> first | omega | (simp; omega)) | (simp only [IntKind.wrap_i64]; first | omega | (refine And.intro ?_ ?_ <;> omega)))) | (first | decide | omega | (refine And.intro ?_ ?_ <;> first | omega | (simp; omega)) | (simp only [IntKind.wrap_i64]; first | omega | (refine And.intro ?_ ?_ <;> omega))) | ((conv => whnf); intros; (try simp only [decide_eq_true_eq, decide_eq_false_iff_not, Bool.and_eq_true, Bool.or_eq_true, Bool.and_eq_false_imp, Bool.or_eq_false_iff, Bool.not_eq_true', Bool.not_eq_false', beq_iff_eq, bne_iff_ne, ne_eq] at *); (first | (first | exact seT | exact hM | exact NoTag.v3 _ _ _ _ _ | exact u64nn _ | assumption) | decide | omega | (refine And.intro ?_ ?_ <;> first | omega | (simp; omega)) | (simp only [IntKind.wrap_i64]; first | omega | (refine And.intro ?_ ?_ <;> omega)))))); conv => whnf) | (rw [ec]; conv => whnf))
      · exact absurd h (by decide)
      · refine ⟨c + 1, ⟨by omega, by omega⟩, ?_, by omega⟩
        (refine And.intro ?_ (And.intro ?_ (And.intro ?_ rfl)) <;> (conv => whnf) <;> repeat' (first | exact trivial | exact LeE.of (Le.refl _) | exact LeE.nil rfl | (with_reducible refine LeE.of ?_) | (first | fail | exact Le.refl _ | exact rfl | exact leI (by first | rfl | omega | (rw [wrap64 (by omega) (by omega)]; omega) | (rw [wrap64 (by omega) (by omega)]; done)) | exact LeCs.refl _ | exact fun i hi => LeCs.refl _ | exact leOwn (by first | rfl | omega)) | ((with_reducible refine And.intro ?_ ?_) <;> conv => whnf)))
      · ((conv => whnf); repeat' (first | exact trivial | exact rfl | exact LeC.refl _ | exact LeC.nil rfl | exact LeC.emp rfl | exact LeCs.refl _ | exact (fun i hi => LeCs.refl _) | ((with_reducible refine And.intro ?_ ?_) <;> conv => whnf)))
end Go.Proofs.YteidfcaciadgpaaDoor

namespace Go.Proofs.YteidfcaciadgpaaDoor
set_option linter.unusedSimpArgs false
set_option linter.unusedVariables false
set_option maxRecDepth 100000
set_option maxHeartbeats 8000000
open Go Go.VA
abbrev Bys (l : List Int) : Prop := ∀ x ∈ l, 0 ≤ x ∧ x < 256
theorem bys_app {a b : List Int} (h : Bys a) (h2 : Bys b) : Bys (a ++ b) := fun x hx => (List.mem_append.1 hx).elim (h x) (h2 x)
theorem bys_short : ∀ (m k : Nat), k < 256 * 128 ^ m → Bys (shortF m k)
  | 0, k, h, x, hx => by simp [shortF] at hx; subst hx; simp at h; omega
  | m + 1, k, h, x, hx => by
    simp only [shortF] at hx
    split at hx
    · simp at hx; subst hx; omega
    · rcases List.mem_cons.1 hx with rfl | hx
      · omega
      · refine bys_short m (k / 128) ?_ x hx
        rw [Nat.pow_succ] at h
        have : k < 256 * 128 ^ m * 128 := by rw [Nat.mul_assoc]; exact h
        omega
theorem bys_shortL {k : Nat} (h : k < 2 ^ 64) : Bys (shortL k) := bys_short 9 k (by omega)
theorem bys_str (s : ByteArray) : Bys (bytesL s) := fun x hx => by
  obtain ⟨y, _, rfl⟩ := List.mem_map.1 hx
  have := y.toNat_lt
  omega
theorem bys_strL {s : ByteArray} (h : s.size ≤ 1024) : Bys (strL s) := bys_app (bys_shortL (by omega)) (bys_str s)
theorem bys_w8 (x : Int) : 0 ≤ IntKind.u8.wrap x ∧ IntKind.u8.wrap x < 256 := by
  show 0 ≤ x % 256 ∧ x % 256 < 256
  omega
theorem bys_one {x : Int} (h : 0 ≤ x ∧ x < 256) : Bys [x] := fun y hy => by simp at hy; subst hy; exact h
def baL (l : List Int) : ByteArray := ⟨(l.map fun x => UInt8.ofNat x.toNat).toArray⟩
theorem baL_size (l : List Int) : (baL l).size = l.length := by
  show (l.map fun x => UInt8.ofNat x.toNat).toArray.size = _
  rw [List.size_toArray, List.length_map]
theorem baL_byte {l : List Int} (h : Bys l) (i : Nat) (hi : i < l.length) : byteN (baL l) i = l.getD i 0 := by
  unfold byteN baL
  have hx : l[i]? = some l[i] := List.getElem?_eq_getElem hi
  rw [List.getElem?_map, hx, List.getD_eq_getElem?_getD, hx]
  have := h _ (List.mem_of_getElem? hx)
  show ((UInt8.ofNat l[i].toNat).toNat : Int) = l[i]
  rw [UInt8.toNat_ofNat']
  omega
end Go.Proofs.YteidfcaciadgpaaDoor
