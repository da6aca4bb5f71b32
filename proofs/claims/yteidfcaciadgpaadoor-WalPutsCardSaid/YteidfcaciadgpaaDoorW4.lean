/- Contracts of functions of the program, and the laws that stand on them: what each function answers, whatever its arguments. -/
import Derived.Test.YteidfcaciadgpaaDoorW3
import Derived.Test.YteidfcaciadgpaaDoorC15
set_option linter.unusedSectionVars false
set_option linter.unnecessarySimpa false
namespace Go.Proofs.YteidfcaciadgpaaDoor
set_option linter.unusedSimpArgs false
set_option linter.unusedVariables false
set_option maxRecDepth 100000
set_option maxHeartbeats 8000000
open Go Go.VA
def shaA (s : ByteArray) : Nat → UInt8 := shaB (fun j => (s.data.toList[j]?).getD 0) s.size
theorem aShaR (t : Bool) (s : ByteArray) (hs : s.size ≤ 140737488355000) : ACall Tryd.prog gl 31 [.c (.sl t 1 s.size (strCells s))] [] (.ag (sumC (shaA s))) := aRefSum t s.size (fun j => (s.data.toList[j]?).getD 0) hs
theorem sha_one (n : Nat) (b : Nat → UInt8) : shaB (accB (fun _ => (n, b)) 1) (accN (fun _ => (n, b)) 1) = shaB b n := by
  have e1 : accN (fun _ => (n, b)) 1 = n := by simp [accN]
  have e2 : accB (fun _ => (n, b)) 1 = b := by
    funext j
    simp [accB, accN, catB]
  rw [e1, e2]
theorem aSha1 (t u : Bool) (s : ByteArray) (F : Nat → List C) (hF : ∀ i, i < 1 → F i = [.sl u 1 s.size (strCells s)]) (hs : s.size ≤ 140737488355000) : ACall Tryd.prog gl 27 [.c (.sl t 1 1 F)] [] (.ag (sumC (shaA s))) := by
  have h := aSum t 1 (fun _ => u) (fun _ => (s.size, fun j => (s.data.toList[j]?).getD 0)) (by simp [accN]; omega)
  rw [sha_one] at h
  exact h.le ⟨leSl rfl (fun i hi => hF i hi), trivial⟩
theorem sub_get (s : ByteArray) (a n i : Nat) (hi : i < n) : ((subS s a n).data.toList[i]?).getD 0 = (s.data.toList[a + i]?).getD 0 := by
  have h : (subS s a n).data.toList[i]? = some (byteC (strCells s (a + i))) := by
    show ((List.range n).map fun i => byteC (strCells s (a + i)))[i]? = _
    rw [List.getElem?_map, List.getElem?_range hi]; rfl
  rw [h]
  simp [byteC, strCells]
theorem sha_sub (s : ByteArray) (a n : Nat) : shaB (fun j => (s.data.toList[a + j]?).getD 0) n = shaA (subS s a n) := by
  unfold shaA
  rw [sub_size]
  exact shaB_ext fun i hi => (sub_get s a n i hi).symm
theorem aSha1S (t u : Bool) (s : ByteArray) (a n : Nat) (F : Nat → List C) (hF : ∀ i, i < 1 → F i = [.sl u 1 n (fun i => strCells s (a + i))]) (hs : n ≤ 140737488355000) : ACall Tryd.prog gl 27 [.c (.sl t 1 1 F)] [] (.ag (sumC (shaA (subS s a n)))) := by
  have h := aSum t 1 (fun _ => u) (fun _ => (n, fun j => (s.data.toList[a + j]?).getD 0)) (by simp [accN]; omega)
  rw [sha_one, sha_sub] at h
  exact h.le ⟨leSl rfl (fun i hi => hF i hi), trivial⟩
theorem aShaRS (t : Bool) (s : ByteArray) (a n : Nat) (hs : n ≤ 140737488355000) : ACall Tryd.prog gl 31 [.c (.sl t 1 n (fun i => strCells s (a + i)))] [] (.ag (sumC (shaA (subS s a n)))) := by
  have h := aRefSum t n (fun j => (s.data.toList[a + j]?).getD 0) hs
  rw [sha_sub] at h
  exact h
def be4 (s : ByteArray) : Nat := nB (fun i => (s.data.toList[4 + i]?).getD 0) 0 4
theorem be4_lt (s : ByteArray) : be4 s < 4294967296 := nB_lt _ 0 4
theorem aGet4 (t : Bool) (s : ByteArray) (h : 8 ≤ s.size) : ACall Tryd.prog gl 26 [.c (.sl t 1 (s.size - 4) (fun i => strCells s (4 + i))), intA .i64 4] [] (.tup [intA .u64 (be4 s : Int), intA .i64 0]) := by
  have := aNumGet t (s.size - 4) (fun i => (s.data.toList[4 + i]?).getD 0) 4 (by decide) (by decide)
  rw [if_neg (by omega), if_neg (by omega)] at this
  exact this
theorem aNum4 (t : Bool) (s : ByteArray) : ACall Tryd.prog gl 30 [.c (.sl t 1 4 (fun i => strCells s (4 + i)))] [] (intA .u64 (be4 s : Int)) := by
  have := aNumber t 4 (fun i => (s.data.toList[4 + i]?).getD 0)
  rw [numI_eq _ 4 (by decide)] at this
  exact this
def mgB : ByteArray := { data := #[115, 105, 110, 49] }
def preB (s : ByteArray) : Bool := (bytesOf 4 (fun i => strCells s (0 + i))).toList == mgB.toList
def sumB (s x : ByteArray) : Bool := (bytesOf 32 (fun i => [nthCC (sumC (shaA x)) (0 + i)])).toList == (bytesOf 32 (fun i => strCells s (8 + i))).toList
theorem bytesOf_eq (n : Nat) (f g : Nat → List C) : ((bytesOf n f).toList == (bytesOf n g).toList) = decide (∀ i, i < n → byteC (f i) = byteC (g i)) := by
  rw [ByteArray.toList_eq, ByteArray.toList_eq, Bool.eq_iff_iff, beq_iff_eq, decide_eq_true_eq]
  show (List.range n).map (fun i => byteC (f i)) = (List.range n).map (fun i => byteC (g i)) ↔ _
  constructor
  · intro h i hi
    have := congrArg (fun l => l[i]?) h
    simpa [List.getElem?_range hi] using this
  · intro h
    exact List.map_congr_left fun i hi => h i (by simpa using hi)
theorem aPre (t u : Bool) (s : ByteArray) (G : Nat → List C) (hs : 4 ≤ s.size) (hG : isBytes 4 G) (hb : bytesOf 4 G = mgB) : ACall Tryd.prog gl 25 [.c (.sl t 1 s.size (strCells s)), .c (.sl u 1 4 G)] [] (boolA (preB s)) := by
  have hq : decide ((s.size : Int) ≥ ((4 : Nat) : Int)) = true := by simp; omega
  have hB : decide ((s.size : Int) ≥ ((4 : Nat) : Int)) = true → (0 : Int) ≤ ((4 : Nat) : Int) ∧ ((4 : Nat) : Int) ≤ s.size := fun _ => by omega
  have E := aEqual t u 4 4 (fun i => strCells s (0 + i)) G (isB 4 s (fun i => 0 + i)) hG
  rw [hb] at E
  refine acall_of_vc htb hmix (f := 25) rfl rfl rfl (by kernel_rfl) rfl rfl ?_; conv => whnf
  repeat' (first | ((with_reducible refine GOr.l ?_); (conv => whnf); refine Exists.intro _ (And.intro (chainI (E)) ?_); conv => whnf) | (refine And.intro ?_ ?_; (focus (first | exact trivial | exact rfl | (first | exact seT | exact u64nn _ | exact hB (by assumption) | assumption) | (refine chainI ?_; (first | (first | exact seT | exact u64nn _ | exact hB (by assumption) | assumption) | decide | omega | (refine And.intro ?_ ?_ <;> first | omega | (simp; omega)) | (simp only [IntKind.wrap_i64]; first | omega | (refine And.intro ?_ ?_ <;> omega)))) | (intro _; (first | (first | exact seT | exact u64nn _ | exact hB (by assumption) | assumption) | decide | omega | (refine And.intro ?_ ?_ <;> first | omega | (simp; omega)) | (simp only [IntKind.wrap_i64]; first | omega | (refine And.intro ?_ ?_ <;> omega)))) | (intro _ _; (first | (first | exact seT | exact u64nn _ | exact hB (by assumption) | assumption) | decide | omega | (refine And.intro ?_ ?_ <;> first | omega | (simp; omega)) | (simp only [IntKind.wrap_i64]; first | omega | (refine And.intro ?_ ?_ <;> omega)))) | (first | decide | omega | (refine And.intro ?_ ?_ <;> first | omega | (simp; omega)) | (simp only [IntKind.wrap_i64]; first | omega | (refine And.intro ?_ ?_ <;> omega))) | ((conv => whnf); intros; (try simp only [decide_eq_true_eq, decide_eq_false_iff_not, Bool.and_eq_true, Bool.or_eq_true, Bool.and_eq_false_imp, Bool.or_eq_false_iff, Bool.not_eq_true', Bool.not_eq_false', beq_iff_eq, bne_iff_ne, ne_eq] at *); (first | (first | exact seT | exact u64nn _ | exact hB (by assumption) | assumption) | decide | omega | (refine And.intro ?_ ?_ <;> first | omega | (simp; omega)) | (simp only [IntKind.wrap_i64]; first | omega | (refine And.intro ?_ ?_ <;> omega)))))); conv => whnf))
  refine leB ?_
  show (decide ((s.size : Int) ≥ ((4 : Nat) : Int)) && preB s) = preB s
  rw [hq, Bool.true_and]
theorem isB_sum (d : Nat → UInt8) : isBytes 32 (fun i => [nthCC (sumC d) (0 + i)]) := fun i hi => ⟨d i, by show [nthCC (sumC d) (0 + i)] = _; rw [Nat.zero_add, ← arr_sumC, nthCC_arr _ _ _ hi]⟩
theorem aSumEq (t u : Bool) (s x : ByteArray) : ACall Tryd.prog gl 28 [.c (.sl t 1 32 (fun i => [nthCC (sumC (shaA x)) (0 + i)])), .c (.sl u 1 32 (fun i => strCells s (8 + i)))] [] (boolA (sumB s x)) :=
  aEqual t u 32 32 _ _ (isB_sum _) (isB 32 s (fun i => 8 + i))
theorem aSumSame (t u : Bool) (s x : ByteArray) : ACall Tryd.prog gl 15 [.c (.sl t 1 32 (fun i => [nthCC (sumC (shaA x)) (0 + i)])), .c (.sl u 1 32 (fun i => strCells s (8 + i)))] [] (boolA (sumB s x)) := by
  have h := aSameX t u 32 32 (fun i => [nthCC (sumC (shaA x)) (0 + i)]) (fun i => strCells s (8 + i)) (fun i => ((shaA x i).toNat : Int)) (fun i => byteN s (8 + i)) (fun i hi => by rw [Nat.zero_add, ← arr_sumC, nthCC_arr _ _ _ hi]) (fun i hi => rfl)
  have e : sameF 32 32 (fun i => ((shaA x i).toNat : Int)) (fun i => byteN s (8 + i)) = sumB s x := by
    unfold sameF sumB
    rw [bytesOf_eq, Bool.eq_iff_iff, decide_eq_true_eq, decide_eq_true_eq]
    constructor
    · rintro ⟨_, h⟩ i hi
      have : ((shaA x i).toNat : Int) = byteN s (8 + i) := h i hi
      show byteC [nthCC (sumC (shaA x)) (0 + i)] = byteC (strCells s (8 + i))
      rw [Nat.zero_add, ← arr_sumC, nthCC_arr _ _ _ hi]
      simp only [byteC, strCells]
      show UInt8.ofNat ((shaA x i).toNat : Int).toNat = UInt8.ofNat (byteN s (8 + i)).toNat
      rw [this]
    · intro h
      refine ⟨rfl, fun i hi => ?_⟩
      have := h i hi
      change byteC [nthCC (sumC (shaA x)) (0 + i)] = byteC (strCells s (8 + i)) at this
      rw [Nat.zero_add, ← arr_sumC, nthCC_arr _ _ _ hi] at this
      simp only [byteC, strCells] at this
      have hlt := byteN_lt s (8 + i)
      change UInt8.ofNat ((shaA x i).toNat : Int).toNat = UInt8.ofNat (byteN s (8 + i)).toNat at this
      have := congrArg UInt8.toNat this
      rw [UInt8.toNat_ofNat', UInt8.toNat_ofNat'] at this
      have h8 := (shaA x i).toNat_lt
      simp only [Int.toNat_natCast] at this
      show ((shaA x i).toNat : Int) = byteN s (8 + i)
      omega
  rw [e] at h
  exact h
end Go.Proofs.YteidfcaciadgpaaDoor

namespace Go.Proofs.YteidfcaciadgpaaDoor
set_option linter.unusedSimpArgs false
set_option linter.unusedVariables false
set_option maxRecDepth 100000
set_option maxHeartbeats 8000000
open Go Go.VA
def wX (s : ByteArray) : ByteArray := subS s 40 (be4 s)
def wGet (s : ByteArray) : It × Int × Int :=
  if decide ((s.size : Int) < 40) then (it0, 0, 2) else if !preB s then (it0, 0, 4)
  else if decide (IntKind.u64.wrap ((s.size - (40 : Int).toNat : Nat) : Int) < (be4 s : Int)) then (it0, 0, 2)
  else if !sumB s (wX s) then (it0, 0, 5) else if !(wIn (wX s)).2 then (it0, 0, 4) else ((wIn (wX s)).1, 40 + (be4 s : Int), 0)
theorem mgI (t : Bool) : isBytes 4 (fun i => nthC [[C.v (.int .u8 115)], [C.v (.int .u8 105)], [C.v (.int .u8 110)], [C.v (.int .u8 49)]] (0 + i)) := by
  intro i hi
  match i, hi with
  | 0, _ => exact ⟨115, rfl⟩
  | 1, _ => exact ⟨105, rfl⟩
  | 2, _ => exact ⟨110, rfl⟩
  | 3, _ => exact ⟨49, rfl⟩
theorem mgE : bytesOf 4 (fun i => nthC [[C.v (.int .u8 115)], [C.v (.int .u8 105)], [C.v (.int .u8 110)], [C.v (.int .u8 49)]] (0 + i)) = mgB := by
  unfold mgB bytesOf
  rfl
theorem aWGet (t : Bool) (s : ByteArray) : ACall Tryd.prog gl 12 [.c (.sl t 1 s.size (strCells s))] [] (.tup [.ag (cIt (wGet s).1), intA .i64 (wGet s).2.1, intA .i64 (wGet s).2.2]) := by
  by_cases hA : (s.size : Int) < 40
  · have e : wGet s = (it0, 0, 2) := by unfold wGet; rw [if_pos (by simpa using hA)]
    rw [e]
    refine acall_of_vc htb hmix (f := 12) rfl rfl rfl (by kernel_rfl) rfl rfl ?_; conv => whnf
    repeat' (first | (refine And.intro (fun h => ?_) (fun h => ?_) <;> (first | (with_reducible have hd : _ < _ := of_decide_eq_true h) | (with_reducible have hd : _ ≤ _ := of_decide_eq_true h) | (with_reducible have hd : ¬ (_ < _) := of_decide_eq_false h) | (with_reducible have hd : ¬ (_ ≤ _) := of_decide_eq_false h) | skip) <;> (first | exact absurd h (by decide) | (conv => whnf))) | ((with_reducible refine OwnOr.r ?_); (conv => whnf)))
    · exact Le.refl _
    all_goals (exfalso; omega)
  · have hq : decide ((s.size : Int) < 40) = false := by simpa using hA
    have hl := be4_lt s
    have PR := fun u => aPre t u s (fun i => nthC [[C.v (.int .u8 115)], [C.v (.int .u8 105)], [C.v (.int .u8 110)], [C.v (.int .u8 49)]] (0 + i)) (by omega) (mgI true) mgE
    have G4 := aGet4 t s (by omega)
    have S1 := fun u => aSha1S u t s 40 (be4 s) (fun i => nthC [[C.sl t 1 (be4 s) (fun i => strCells s (40 + (0 + i)))]] (0 + i)) (fun i hi => by
      obtain rfl : i = 0 := by omega
      simp only [Nat.zero_add]; rfl) (by omega)
    have IN : ACall Tryd.prog gl 29 [.c (.sl t 1 (be4 s) (fun i => strCells s (40 + (0 + i))))] [] (.tup [.ag (cIt (wIn (wX s)).1), boolA (wIn (wX s)).2]) :=
      (aInner t (wX s)).le ⟨leSl (sub_size s 40 _).symm (fun i hi => by rw [Nat.zero_add]; exact (sub_cells s 40 _ i (by rwa [wX, sub_size] at hi)).symm), trivial⟩
    have hB : (0 : Int) ≤ 4 ∧ (4 : Int) ≤ s.size := by omega
    refine acall_of_vcb htb hmix (f := 12) rfl rfl rfl (by kernel_rfl) rfl rfl fun hb => ?_; simp only [bndAll, AV.bnd, bnds, C.bnd, cVt, cS, true_and, and_true] at hb; conv => whnf
    have hn : s.size ≤ 140737488355328 := hb.1
    have hD : decide (IntKind.u64.wrap ((s.size - (40 : Int).toNat : Nat) : Int) < (be4 s : Int)) = false → (0 : Int) ≤ (be4 s : Int) ∧ (be4 s : Int) ≤ ((s.size - (40 : Int).toNat : Nat) : Int) := fun h => by
      rw [wrapU (by omega) (by omega)] at h
      have := of_decide_eq_false h
      omega
    repeat' (first | (refine Exists.intro _ (And.intro (PR _) ?_); conv => whnf) | (refine Exists.intro _ (And.intro (G4) ?_); conv => whnf) | (refine Exists.intro _ (And.intro (S1 _) ?_); conv => whnf) | (refine Exists.intro _ (And.intro (aSumEq _ _ s (wX s)) ?_); conv => whnf) | (refine Exists.intro _ (And.intro (IN) ?_); conv => whnf) | (refine And.intro (fun h => ?_) (fun h => ?_) <;> (first | (with_reducible have hd : _ < _ := of_decide_eq_true h) | (with_reducible have hd : _ ≤ _ := of_decide_eq_true h) | (with_reducible have hd : ¬ (_ < _) := of_decide_eq_false h) | (with_reducible have hd : ¬ (_ ≤ _) := of_decide_eq_false h) | skip) <;> (first | exact absurd h (by decide) | (conv => whnf))) | ((with_reducible refine OwnOr.r ?_); (conv => whnf)) | (refine And.intro ?_ ?_; (focus (first | exact trivial | exact rfl | (first | exact seT | exact u64nn _ | exact hB | exact hC | exact hD (by assumption) | assumption) | (refine chainI ?_; (first | (first | exact seT | exact u64nn _ | exact hB | exact hC | exact hD (by assumption) | assumption) | decide | omega | (refine And.intro ?_ ?_ <;> first | omega | (simp; omega)) | (simp only [IntKind.wrap_i64]; first | omega | (refine And.intro ?_ ?_ <;> omega)))) | (intro _; (first | (first | exact seT | exact u64nn _ | exact hB | exact hC | exact hD (by assumption) | assumption) | decide | omega | (refine And.intro ?_ ?_ <;> first | omega | (simp; omega)) | (simp only [IntKind.wrap_i64]; first | omega | (refine And.intro ?_ ?_ <;> omega)))) | (intro _ _; (first | (first | exact seT | exact u64nn _ | exact hB | exact hC | exact hD (by assumption) | assumption) | decide | omega | (refine And.intro ?_ ?_ <;> first | omega | (simp; omega)) | (simp only [IntKind.wrap_i64]; first | omega | (refine And.intro ?_ ?_ <;> omega)))) | (first | decide | omega | (refine And.intro ?_ ?_ <;> first | omega | (simp; omega)) | (simp only [IntKind.wrap_i64]; first | omega | (refine And.intro ?_ ?_ <;> omega))) | ((conv => whnf); intros; (try simp only [decide_eq_true_eq, decide_eq_false_iff_not, Bool.and_eq_true, Bool.or_eq_true, Bool.and_eq_false_imp, Bool.or_eq_false_iff, Bool.not_eq_true', Bool.not_eq_false', beq_iff_eq, bne_iff_ne, ne_eq] at *); (first | (first | exact seT | exact u64nn _ | exact hB | exact hC | exact hD (by assumption) | assumption) | decide | omega | (refine And.intro ?_ ?_ <;> first | omega | (simp; omega)) | (simp only [IntKind.wrap_i64]; first | omega | (refine And.intro ?_ ?_ <;> omega)))))); conv => whnf) | (refine And.intro ?_ ?_; (focus (first | exact NoTag.int | exact NoTag.bool | exact NoTag.str | (refine NoTag.of_scalar ?_; rfl))); conv => whnf) | ((with_reducible refine xc_pure ?_); conv => whnf))
    all_goals unfold wGet
    all_goals repeat (first | (rw [ifT]; rotate_left; (focus assumption)) | (rw [ifF]; rotate_left; (focus assumption)))
    all_goals first
      | exact Le.refl _
      | (refine leTup3 (Le.refl _) (leI ?_) (Le.refl _); show IntKind.i64.wrap (40 + (((be4 s : Int).toNat - 0 : Nat) : Int)) = 40 + (be4 s : Int); rw [Nat.sub_zero, Int.toNat_natCast, wrap64 (by omega) (by omega)])
end Go.Proofs.YteidfcaciadgpaaDoor
