/- Contracts of functions of the program, and the laws that stand on them: what each function answers, whatever its arguments. -/
import Derived.Test.YthaaemhkdefidaaGreatDoorC6
set_option linter.unusedSectionVars false
set_option linter.unnecessarySimpa false
namespace Go.Proofs.YthaaemhkdefidaaGreatDoor
set_option linter.unusedSimpArgs false
set_option linter.unusedVariables false
set_option maxRecDepth 100000
set_option maxHeartbeats 8000000
open Go Go.VA
theorem byteN_lt (s : ByteArray) (i : Nat) : 0 ≤ byteN s i ∧ byteN s i < 256 := by
 unfold byteN
 have := ((s.data.toList[i]?).getD 0).toNat_lt
 omega
end Go.Proofs.YthaaemhkdefidaaGreatDoor

namespace Go.Proofs.YthaaemhkdefidaaGreatDoor
set_option linter.unusedSimpArgs false
set_option linter.unusedVariables false
set_option maxRecDepth 100000
set_option maxHeartbeats 8000000
open Go Go.VA
def kdR (c : Int) : Int := IntKind.i64.wrap (c.tmod 128)
def scR (c : Int) : Bool := decide (c ≥ 128)
end Go.Proofs.YthaaemhkdefidaaGreatDoor

namespace Go.Proofs.YthaaemhkdefidaaGreatDoor
set_option linter.unusedSimpArgs false
set_option linter.unusedVariables false
set_option maxRecDepth 100000
set_option maxHeartbeats 8000000
open Go Go.VA
/-! ### Plain laws: what is read is what the document says -/
theorem ofNat64 (n : Nat) (h : n < 2 ^ 64) : (BitVec.ofInt 64 (n : Int)).toNat = n := by rw [BitVec.ofInt_natCast, BitVec.toNat_ofNat]; omega
end Go.Proofs.YthaaemhkdefidaaGreatDoor

namespace Go.Proofs.YthaaemhkdefidaaGreatDoor
set_option linter.unusedSimpArgs false
set_option linter.unusedVariables false
set_option maxRecDepth 100000
set_option maxHeartbeats 8000000
open Go Go.VA
theorem gClone (t : Bool) (n : Nat) (f : Nat → List C) : GCall Tryz.prog gl 91 [] [.c (.sl t 1 n f)] [.row 1 n f] [.own 0 1 0 n] := by
 refine gcall_of_vcb htb hmix (f := 91) rfl rfl rfl (by kernel_rfl) rfl rfl rfl fun hb hb2 => ?_; simp only [bndOs, bndO, gbnds, AV.gbnd, bnds, C.bnd, true_and, and_true] at hb hb2; conv => whnf
 have hn : n ≤ 140737488355328 := hb2.1
 have B1 : n * (tb 5).bytes ≤ 140737488355328 := by show n * 1 ≤ _; omega
 repeat' (first | (refine And.intro (fun h => ?_) (fun h => ?_) <;> (first | skip) <;> conv => whnf) | ((with_reducible refine NilOr.l ?_); conv => whnf) | ((with_reducible refine OwnOr.l ?_); (conv => whnf)) | (refine And.intro ?_ ?_; (focus (first | exact rfl | (first | assumption) | fail)); conv => whnf) | fail)
 ·have h : n = 0 := h rfl
  subst h
  ((conv => whnf); repeat' (first | exact trivial | exact rfl | ((with_reducible refine And.intro ?_ ?_) <;> conv => whnf)))
  all_goals exact fun i hi => absurd hi (Nat.not_lt_zero _)
 ·((conv => whnf); repeat' (first | exact trivial | exact rfl | exact (fun i hi => LeCs.refl _) | ((with_reducible refine And.intro ?_ ?_) <;> conv => whnf)))
/-- bytes, in a row -/
abbrev cBy (x : Int) : List C := [.v (.int .u8 x)]
abbrev rB (l : List Int) : Nat → List C := rowE cBy 0 l
/-- a number of seven bits each -/
def shortF : Nat → Nat → List Int
 | 0, k => [(k : Int)]
 | m + 1, k => if k < 128 then [(k : Int)] else ((k % 128 + 128 : Nat) : Int) :: shortF m (k / 128)
theorem or128 (c : Nat) : bitsI .or .u8 (IntKind.u8.wrap (c : Int)) 128 = ((c % 128 + 128 : Nat) : Int) := by
 have h : ∀ c : Fin 256, bitsI .or .u8 (c.val : Int) 128 = ((c.val % 128 + 128 : Nat) : Int) := by decide +kernel
 have e : IntKind.u8.wrap (c : Int) = ((c % 256 : Nat) : Int) := by show (c : Int) % 256 = _; omega
 rw [e]
 have := h ⟨c % 256, Nat.mod_lt _ (by decide)⟩
 simp only at this
 rw [this]
 congr 1
 omega
theorem shr7 (c : Nat) : shrI .u64 (c : Int) 7 = ((c / 128 : Nat) : Int) := by
 show (c : Int).fdiv (2 ^ 7) = _
 rw [Int.fdiv_eq_ediv_of_nonneg _ (by decide)]
 omega
theorem w8 (c : Nat) (h : c < 256) : IntKind.u8.wrap (c : Int) = c := by show (c : Int) % 256 = _; omega
theorem shortF_len : ∀ (m k : Nat), (shortF m k).length ≤ m + 1
 | 0, k => by simp [shortF]
 | m + 1, k => by
  simp only [shortF]
  split
  ·simp
  ·simp; exact shortF_len m _
def shortL (k : Nat) : List Int := shortF 9 k
theorem catF_assoc {n : Nat} {f : Nat → List C} (a b : List Int) (m : Nat) (hm : m = n + a.length) (i : Nat) (hi : i < n + a.length + b.length) : catF 0 m (catF 0 n f (rB a)) (rB b) i = catF 0 n f (rB (a ++ b)) i := by
 subst hm
 show catF 0 (n + a.length) (catF 0 n f fun i => cBy (a.getD i 0)) (fun i => cBy (b.getD i 0)) i = catF 0 n f (fun i => cBy ((a ++ b).getD i 0)) i
 unfold catF
 by_cases h1 : i < n
 ·rw [if_pos (by omega), if_pos (by omega), if_pos h1, Nat.zero_add]
 ·rw [if_neg h1]
  by_cases h2 : i < n + a.length
  ·rw [if_pos h2, if_neg (by omega)]
   simp [List.getD_eq_getElem?_getD, List.getElem?_append_left (show i - n < a.length by omega)]
  ·rw [if_neg h2]
   simp [List.getD_eq_getElem?_getD, List.getElem?_append_right (show a.length ≤ i - n by omega)]
   congr 2; omega
theorem catF_nil {n : Nat} {f : Nat → List C} (i : Nat) (hi : i < n) (g : Nat → List C) : catF 0 n f g i = f i := by unfold catF; rw [if_pos hi, Nat.zero_add]
theorem catF_snoc {n : Nat} {f : Nat → List C} (a : List Int) (x : Int) (m : Nat) (hm : m = n + a.length) (i : Nat) (hi : i < n + a.length + 1) : catF 0 m (catF 0 n f (rB a)) (nthC [cBy x]) i = catF 0 n f (rB (a ++ [x])) i := by
 have := catF_assoc (n := n) (f := f) a [x] m hm i (by simpa using hi)
 rw [← this]
 unfold catF
 split
 ·rfl
 ·subst hm
  obtain rfl : i = n + a.length := by omega
  rw [Nat.sub_self]; rfl
theorem gPutShort (t : Bool) (n : Nat) (f : Nat → List C) (k : Nat) (hk : k < 2 ^ 64) (hn : n + (shortL k).length ≤ 140737488355328) :
  GCall Tryz.prog gl 45 [] [.c (.sl t 1 n f), intA .u64 k] [.row 1 (n + (shortL k).length) (catF 0 n f (rB (shortL k)))] [.own 0 1 0 (n + (shortL k).length)] := by
 refine gcall_of_vcb htb hmix (f := 45) rfl rfl rfl (by kernel_rfl) rfl rfl rfl fun hb hb2 => ?_; simp only [bndOs, bndO, gbnds, AV.gbnd, bnds, C.bnd, true_and, and_true] at hb hb2; conv => whnf
 repeat' (first | ((with_reducible refine NilOr.l ?_); conv => whnf) | ((with_reducible refine xc_guard ?_); (first | (refine xc_g (gClone _ _ _) false (by first | (((conv => whnf); repeat' (first | exact trivial | exact rfl | exact LeC.refl _ | ((with_reducible refine And.intro ?_ ?_) <;> conv => whnf))); done) | fail) trivial ?_) | fail); conv => whnf) | fail)
 refine loopI (List Int × Nat × Nat) (fun p => p.1 ++ shortF p.2.2 p.2.1 = shortL k ∧ p.2.1 < 2 ^ (7 * (p.2.2 + 1)) ∧ p.1.length + p.2.2 ≤ 9) (fun p => [(5, .own 1 1 0 (n + p.1.length)), (1, intA .u64 p.2.1)])
  (fun p => [.row 1 0 (fun _ => []), .row 1 (n + p.1.length) (catF 0 n f (rB p.1))]) (fun p => p.2.2) ([], k, 9) ⟨rfl, by show k < 2 ^ 70; omega, Nat.le_refl _⟩ ?_ (fun _ => rfl) fun ⟨pre, k', m⟩ ⟨h1, h2, h3⟩ => ?_
 ·(refine And.intro ?_ (And.intro ?_ (And.intro ?_ rfl)) <;> (conv => whnf) <;> repeat' (first | exact trivial | exact LeE.of (Le.refl _) | (first | exact rfl | exact fun i hi => LeCs.refl _ | fail) | ((with_reducible refine And.intro ?_ ?_) <;> conv => whnf)))
  exact fun i hi => LeCs.of_eq (catF_nil i hi _).symm
 ·change pre ++ shortF m k' = shortL k at h1
  change k' < 2 ^ (7 * (m + 1)) at h2
  change pre.length + m ≤ 9 at h3
  have hlen : pre.length + 1 ≤ (shortL k).length := by
   rw [← h1, List.length_append]
   have : 1 ≤ (shortF m k').length := by
    cases m with
    | zero => simp [shortF]
    | succ m => simp only [shortF]; split <;> simp
   omega
  have B1 : (n + pre.length + 1) * (tb 5).bytes ≤ 140737488355328 := by show (n + pre.length + 1) * 1 ≤ _; omega
  conv => whnf
  repeat' (first | (refine And.intro (fun h => ?_) (fun h => ?_) <;> (first | (with_reducible have hd : _ ≤ _ := of_decide_eq_true h) | (with_reducible have hd : ¬ (_ ≤ _) := of_decide_eq_false h) | fail) <;> conv => whnf) | ((with_reducible refine OwnOr.l ?_); (conv => whnf)) | (refine And.intro ?_ ?_; (focus (first | exact rfl | (first | assumption) | (refine chainI ?_; (first | decide | fail)) | fail)); conv => whnf) | fail)
  ·have h : decide ((k' : Int) ≥ 128) = true := h
   have hk' : 128 ≤ k' := by have := of_decide_eq_true h; omega
   obtain ⟨m', rfl⟩ : ∃ m', m = m' + 1 := by
    cases m with
    | zero => simp at h2; omega
    | succ m' => exact ⟨m', rfl⟩
   rw [show 7 * (m' + 1 + 1) = 7 * (m' + 1) + 7 from by omega, Nat.pow_add] at h2
   have e1 : (pre ++ [((k' % 128 + 128 : Nat) : Int)]).length = pre.length + 1 := by simp
   refine ⟨(pre ++ [((k' % 128 + 128 : Nat) : Int)], k' / 128, m'), ⟨?_, ?_, ?_⟩, ?_, Nat.lt_succ_self _⟩
   ·rw [← h1]; simp only [shortF]; rw [if_neg (by omega)]; simp
   ·show k' / 128 < 2 ^ (7 * (m' + 1)); omega
   ·show (pre ++ [((k' % 128 + 128 : Nat) : Int)]).length + m' ≤ 9; omega
   ·(refine And.intro ?_ (And.intro ?_ (And.intro ?_ rfl)) <;> (conv => whnf) <;> repeat' (first | exact trivial | exact LeE.of (Le.refl _) | (with_reducible refine LeE.of ?_) | (first | exact rfl | exact fun i hi => LeCs.refl _ | fail) | ((with_reducible refine And.intro ?_ ?_) <;> conv => whnf)))
    all_goals first
     | exact leI (shr7 k')
     | exact leOwn (by simp; omega)
     | (show _ = n + (pre ++ [((k' % 128 + 128 : Nat) : Int)]).length; rw [e1]; rfl)
     | exact fun i hi => LeCs.of_eq (by rw [← catF_snoc pre _ _ rfl i (by have : i < n + (pre ++ [((k' % 128 + 128 : Nat) : Int)]).length := hi; omega), ← or128 k'])
  ·have h : decide ((k' : Int) ≥ 128) = false := h
   have hk' : k' < 128 := by have := of_decide_eq_false h; omega
   have e0 : shortL k = pre ++ [(k' : Int)] := by
    rw [← h1]
    congr 1
    cases m with
    | zero => rfl
    | succ m => simp only [shortF]; rw [if_pos hk']
   rw [e0]
   ((conv => whnf); repeat' (first | exact trivial | exact rfl | ((with_reducible refine And.intro ?_ ?_) <;> conv => whnf)))
   ·show n + pre.length + 1 = n + (pre ++ [(k' : Int)]).length; simp; omega
   ·refine fun i hi => LeCs.of_eq ?_
    show catF 0 (n + pre.length) (catF 0 n f (rB pre)) (nthC [cBy (IntKind.u8.wrap (k' : Int))]) i = _
    rw [w8 k' (by omega)]
    exact catF_snoc pre _ _ rfl i (by have : i < n + (pre ++ [(k' : Int)]).length := hi; simp at this; omega)
   ·show n + pre.length + 1 = n + (pre ++ [(k' : Int)]).length; simp; omega
theorem gPutShortI (t : Bool) (n : Nat) (f : Nat → List C) (k : Int) (h0 : 0 ≤ k) (hk : k < 18446744073709551616) (hn : n + (shortL k.toNat).length ≤ 140737488355328) :
  GCall Tryz.prog gl 45 [] [.c (.sl t 1 n f), intA .u64 k] [.row 1 (n + (shortL k.toNat).length) (catF 0 n f (rB (shortL k.toNat)))] [.own 0 1 0 (n + (shortL k.toNat).length)] := by
 have := gPutShort t n f k.toNat (by omega) hn
 rwa [Int.toNat_of_nonneg h0] at this
/-- a text's bytes -/
def bytesL (s : ByteArray) : List Int := s.data.toList.map fun x => (x.toNat : Int)
def strL (s : ByteArray) : List Int := shortL s.size ++ bytesL s
theorem bytesL_len (s : ByteArray) : (bytesL s).length = s.size := by simp [bytesL]
theorem strCells_eq (s : ByteArray) (i : Nat) (h : i < s.size) : strCells s i = rB (bytesL s) i := by
 have hl : i < s.data.toList.length := by simpa using h
 show [C.v (.int .u8 (((s.data.toList[i]?).getD 0).toNat : Int))] = [C.v (.int .u8 ((bytesL s).getD i 0))]
 simp [bytesL, List.getD_eq_getElem?_getD, List.getElem?_eq_getElem hl]
theorem ntCatG {n m : Nat} {f g : Nat → List C} (hf : ∀ i, i < n → NtCs (f i)) (hg : ∀ i, i < m → NtCs (g i)) : ∀ i, i < n + m → NtCs (catF 0 n f g i) := by
 intro i hi
 unfold catF
 split
 ·rename_i h; rw [Nat.zero_add]; exact hf i h
 ·exact hg _ (by omega)
theorem ntB (l : List Int) (n : Nat) : ∀ i, i < n → NtCs (rB l i) := fun i _ => ⟨trivial, trivial⟩
theorem ntShift {n : Nat} {F : Nat → List C} (h : ∀ i, i < n → NtCs (F i)) : ∀ i, i < n → NtCs (F (0 + i)) := fun i hi => by rw [Nat.zero_add]; exact h i hi
theorem ntOne (x : Int) : ∀ i, i < 1 → NtCs (nthC [cBy x] i) := fun i hi => by
 obtain rfl : i = 0 := by omega
 exact ⟨trivial, trivial⟩
/-- the same bytes, behind the same row -/
theorem catF_str {n : Nat} {f : Nat → List C} (a : List Int) (s : ByteArray) (m : Nat) (hm : m = n + a.length) (i : Nat) (hi : i < n + a.length + s.size) : catF 0 m (catF 0 n f (rB a)) (strCells s) i = catF 0 n f (rB (a ++ bytesL s)) i := by
 rw [← catF_assoc a (bytesL s) m hm i (by rw [bytesL_len]; exact hi)]
 unfold catF
 split
 ·rfl
 ·exact strCells_eq s _ (by omega)
theorem gPutStr (t : Bool) (n : Nat) (f : Nat → List C) (s : ByteArray) (hn : n + (strL s).length ≤ 140737488355328) :
  GCall Tryz.prog gl 136 [] [.c (.sl t 1 n f), .c (.v (.string s))] [.row 1 (n + (strL s).length) (catF 0 n f (rB (strL s)))] [.own 0 1 0 (n + (strL s).length)] := by
 have hl : (strL s).length = (shortL s.size).length + s.size := by simp [strL, bytesL_len]
 have w1 : IntKind.u64.wrap (s.size : Int) = s.size := wrapU (by omega) (by omega)
 refine gcall_of_vcb htb hmix (f := 136) rfl rfl rfl (by kernel_rfl) rfl rfl rfl fun hb hb2 => ?_; simp only [bndOs, bndO, gbnds, AV.gbnd, bnds, C.bnd, true_and, and_true] at hb hb2; conv => whnf
 have P := gPutShortI t n f (IntKind.u64.wrap (s.size : Int)) (by rw [w1]; omega) (by rw [w1]; omega) (by rw [w1]; show n + (shortL s.size).length ≤ _; omega)
 have B1 : (n + (shortL (IntKind.u64.wrap (s.size : Int)).toNat).length + s.size) * (tb 5).bytes ≤ 140737488355328 := by rw [w1]; show (n + (shortL s.size).length + s.size) * 1 ≤ _; omega
 repeat' (first | ((with_reducible refine NilOr.l ?_); conv => whnf) | (refine And.intro ?_ ?_; (focus (first | exact rfl | (first | assumption) | fail)); conv => whnf) | ((with_reducible refine xc_guard ?_); (first | (refine xc_g (P) false (by first | (((conv => whnf); repeat' (first | exact trivial | exact rfl | exact LeC.refl _ | ((with_reducible refine And.intro ?_ ?_) <;> conv => whnf))); done) | fail) trivial ?_) | fail); conv => whnf) | fail)
 simp only [w1, Int.toNat_natCast]
 ((conv => whnf); repeat' (first | exact trivial | exact rfl | ((with_reducible refine And.intro ?_ ?_) <;> conv => whnf)))
 ·show n + (shortL s.size).length + s.size = n + (strL s).length; omega
 ·exact fun i hi => LeCs.of_eq (catF_str (shortL s.size) s _ rfl i (by omega))
 ·show n + (shortL s.size).length + s.size = n + (strL s).length; omega
def zigI (i : Int) : Int := bitsI .xor .u64 (shlI .u64 (IntKind.u64.wrap i) 1) (IntKind.u64.wrap (shrI .i64 i 63))
theorem zigI_rg (i : Int) : 0 ≤ zigI i ∧ zigI i < 18446744073709551616 := by
 unfold zigI bitsI
 exact ⟨Int.emod_nonneg _ (by decide), Int.emod_lt_of_pos _ (by decide)⟩
theorem aZig (i : Int) : ACall Tryz.prog gl 167 [intA .i64 i] [] (intA .u64 (zigI i)) := by
 refine acall_of_vc htb hmix (f := 167) rfl rfl rfl (by kernel_rfl) rfl rfl ?_; conv => whnf
 repeat' (first | (refine And.intro ?_ ?_; (focus (first | (refine chainI ?_; (first | decide | fail)) | fail)); conv => whnf) | fail)
 exact Le.refl _
def firstB (v : V) : Int := if v.sec then bitsI .or .u8 (IntKind.u8.wrap v.k) 128 else IntKind.u8.wrap v.k
def layIts (v : V) (rs : List (List Int)) (c : Nat) : List Int := (List.range c).flatMap fun j => (if v.k == 5 then strL (v.ks.getD j ByteArray.empty) else []) ++ rs.getD j []
def layB (v : V) (rs : List (List Int)) : List Int :=
 if v.k == 1 then [IntKind.u8.wrap v.i] else if v.k == 2 then shortL (zigI v.i).toNat else if v.k == 3 then strL v.s else if v.k == 6 then [codeT v.t]
 else if v.k == 4 || v.k == 5 then shortL v.l.length ++ layIts v rs v.l.length else []
/-- a value's form -/
def layL : V → List Int := V.fold fun v rs => firstB v :: layB v rs
theorem layL_eq (v : V) : layL v = firstB v :: layB v (v.l.map layL) := V.fold_eq _ v
theorem layIts_succ (v : V) (rs : List (List Int)) (c : Nat) : layIts v rs (c + 1) = layIts v rs c ++ ((if v.k == 5 then strL (v.ks.getD c ByteArray.empty) else []) ++ rs.getD c []) := by
 unfold layIts; rw [List.range_succ, List.flatMap_append]; simp
/-- each map has as many keys as elements -/
def keyed : V → Bool := V.fold fun v rs => (v.k != 5 || v.ks.length == v.l.length) && rs.all id
theorem keyed_eq (v : V) : keyed v = ((v.k != 5 || v.ks.length == v.l.length) && v.l.all keyed) := by
 unfold keyed; rw [V.fold_eq]; simp [List.all_map]
/-- more than a value's form has -/
def sumTo (ks : List ByteArray) (rs : List Nat) : Nat → Nat
 | 0 => 0
 | c + 1 => sumTo ks rs c + (20 + (ks.getD c ByteArray.empty).size + rs.getD c 0)
def bigL : V → Nat := V.fold fun v rs => 40 + v.s.size + sumTo v.ks rs v.l.length
theorem bigL_eq (v : V) : bigL v = 40 + v.s.size + sumTo v.ks (v.l.map bigL) v.l.length := V.fold_eq _ v
theorem shortL_len (k : Nat) : (shortL k).length ≤ 10 := shortF_len 9 k
theorem strL_len (s : ByteArray) : (strL s).length ≤ 10 + s.size := by
 have := shortL_len s.size
 simp [strL, bytesL_len]; omega
theorem getD_map {α β : Type} (g : α → β) (l : List α) (c : Nat) (hc : c < l.length) (d : β) (x : α) (hx : l[c]? = some x) : (l.map g).getD c d = g x := by
 simp [List.getD_eq_getElem?_getD, List.getElem?_map, hx]
theorem layIts_big (v : V) (hl : ∀ x ∈ v.l, (layL x).length ≤ bigL x) : ∀ c, c ≤ v.l.length → (layIts v (v.l.map layL) c).length ≤ sumTo v.ks (v.l.map bigL) c
 | 0, _ => by simp [layIts, sumTo]
 | c + 1, h => by
  have ih := layIts_big v hl c (by omega)
  rw [layIts_succ, List.length_append, List.length_append]
  obtain ⟨x, hx, hm, _⟩ := rV_ex (l := v.l) (c := c) (by omega)
  rw [getD_map layL v.l c (by omega) [] x hx]
  simp only [sumTo]
  rw [getD_map bigL v.l c (by omega) 0 x hx]
  have h1 := hl x hm
  have h2 : (if (v.k == 5) = true then strL (v.ks.getD c ByteArray.empty) else []).length ≤ 10 + (v.ks.getD c ByteArray.empty).size := by
   split
   ·exact strL_len _
   ·simp
  omega
theorem sumTo_mono (ks : List ByteArray) (rs : List Nat) (c : Nat) : ∀ d, c ≤ d → sumTo ks rs c ≤ sumTo ks rs d := by
 intro d h
 induction d with
 | zero => obtain rfl : c = 0 := by omega
           exact Nat.le_refl _
 | succ d ih =>
  by_cases hc : c = d + 1
  ·rw [hc]; exact Nat.le_refl _
  ·have := ih (by omega); simp only [sumTo]; omega
theorem layL_big (v : V) : (layL v).length ≤ bigL v := by
 induction v using V.ind with
 | h v ih =>
 rw [layL_eq, bigL_eq, List.length_cons]
 have h1 := layIts_big v ih v.l.length (Nat.le_refl _)
 have h2 := shortL_len (zigI v.i).toNat
 have h3 := strL_len v.s
 have h4 := shortL_len v.l.length
 unfold layB
 split
 ·simp; omega
 ·split
  ·omega
  ·split
   ·omega
   ·split
    ·simp; omega
    ·split
     ·rw [List.length_append]; omega
     ·simp; omega
end Go.Proofs.YthaaemhkdefidaaGreatDoor
