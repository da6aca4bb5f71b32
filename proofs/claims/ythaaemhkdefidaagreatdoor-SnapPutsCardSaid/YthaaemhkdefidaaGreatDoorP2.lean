/- Contracts of functions of the program, and the laws that stand on them: what each function answers, whatever its arguments. -/
import Derived.Test.YthaaemhkdefidaaGreatDoorP1
import Derived.Test.YthaaemhkdefidaaGreatDoorX5
import Derived.Test.YthaaemhkdefidaaGreatDoorE7
set_option linter.unusedSectionVars false
set_option linter.unnecessarySimpa false
namespace Go.Proofs.YthaaemhkdefidaaGreatDoor
set_option linter.unusedSimpArgs false
set_option linter.unusedVariables false
set_option maxRecDepth 100000
set_option maxHeartbeats 8000000
open Go Go.VA
/-! ### entries, states: which may be -/
structure En where
 y : Ky
 v : V
 t : Bool
 u : Bool
 d : List Ad
structure St where
 a : Int
 s : Int
 l : List En
def ad0 : Ad := ⟨ByteArray.empty, ByteArray.empty, 0, 0, ByteArray.empty⟩
def en0 : En := ⟨ky0, V.z, false, false, []⟩
abbrev rA (l : List Ad) : Nat → List C := rowE cAd ad0 l
abbrev cEn (e : En) : List C := cKy e.y ++ (cV e.v ++ [.v (.bool e.t), .v (.bool e.u), .sl false 5 e.d.length (rA e.d)])
abbrev rE (l : List En) : Nat → List C := rowE cEn en0 l
abbrev cSt (s : St) : List C := [.v (.int .u64 s.a), .v (.int .u64 s.s), .sl false 17 s.l.length (rE s.l)]
def allQ (q : Nat → Bool) (n : Nat) : Bool := (List.range n).all q
theorem allQ_f {q : Nat → Bool} {n c : Nat} (hc : c < n) (h : q c = false) : allQ q n = false := by
 unfold allQ
 rw [List.all_eq_false]
 exact ⟨c, by simpa using hc, by simp [h]⟩
theorem allQ_t {q : Nat → Bool} {n : Nat} (h : ∀ j, j < n → q j = true) : allQ q n = true := by
 unfold allQ
 rw [List.all_eq_true]
 exact fun j hj => h j (by simpa using hj)
theorem allQ_at {q : Nat → Bool} {n : Nat} (h : allQ q n = true) (j : Nat) (hj : j < n) : q j = true := by
 unfold allQ at h
 rw [List.all_eq_true] at h
 exact h j (by simpa using hj)
theorem next_q {q : Nat → Bool} {c : Nat} (hp : ∀ j, j < c → q j = true) (h : q c = true) : ∀ j, j < c + 1 → q j = true := fun j hj => by
 rcases Nat.lt_or_ge j c with h2 | h2
 ·exact hp j h2
 ·obtain rfl : j = c := by omega
  exact h
def depQ (l : List Ad) (j : Nat) : Bool := okAd (l.getD j ad0) && !(decide ((j : Int) > 0) && !lessAd (l.getD (IntKind.i64.wrap ((j : Int) - 1)).toNat ad0) (l.getD j ad0))
def depsB (l : List Ad) : Bool := allQ (depQ l) l.length && decide (l.length ≤ 24)
theorem ckA (b : Bool) : ((if b = true then (0 : Int) else 1) != 0) = !b := by cases b <;> rfl
theorem depQ_eq (l : List Ad) (c : Nat) (b : Bool) (h : ((if okAd (l.getD c ad0) = true then (0 : Int) else 1) != 0 || decide ((c : Int) > 0) && !lessAd (l.getD (IntKind.i64.wrap ((c : Int) - 1)).toNat ad0) (l.getD c ad0)) = b) : depQ l c = !b := by
 rw [ckA] at h
 unfold depQ
 subst h
 cases okAd (l.getD c ad0) <;> cases decide ((c : Int) > 0) <;> cases lessAd (l.getD (IntKind.i64.wrap ((c : Int) - 1)).toNat ad0) (l.getD c ad0) <;> rfl
theorem pos_ix {c n : Nat} (hc : c < n) (hn : n ≤ 140737488355328) (h : (c : Int) > 0) : 0 ≤ IntKind.i64.wrap ((c : Int) - 1) ∧ IntKind.i64.wrap ((c : Int) - 1) < n := by
 rw [wrap64 (by omega) (by omega)]; omega
theorem depsB_f {l : List Ad} {c : Nat} (hc : c < l.length) (h : depQ l c = false) : depsB l = false := by unfold depsB; rw [allQ_f hc h]; rfl
theorem depsB_t {l : List Ad} (h : ∀ j, j < l.length → depQ l j = true) : depsB l = decide (l.length ≤ 24) := by unfold depsB; rw [allQ_t h]; rfl
theorem len24 (n : Nat) : decide ((n : Int) ≤ 24) = decide (n ≤ 24) := decide_eq_decide.2 (by omega)
theorem aDeps (t : Bool) (l : List Ad) : ACall Tryz.prog gl 43 [.c (.sl t 5 l.length (rA l))] [] (boolA (depsB l)) := by
 refine acall_of_vcb htb hmix (f := 43) rfl rfl rfl (by kernel_rfl) rfl rfl fun hb => ?_; simp only [bndAll, AV.bnd, bnds, C.bnd, cVt, cS, true_and, and_true] at hb; conv => whnf
 have hn : l.length ≤ 140737488355328 := hb.1
 repeat' (fail)
 refine loopI Nat (fun c => c ≤ l.length ∧ ∀ j, j < c → depQ l j = true) (fun c => [(7, intA .i64 c)]) (fun _ => []) (fun c => l.length - c) 0 ⟨Nat.zero_le _, fun j hj => absurd hj (Nat.not_lt_zero _)⟩ ?_ (fun _ => rfl) fun c ⟨hc, hp⟩ => ?_
 ·(refine And.intro ?_ (And.intro ?_ (And.intro ?_ rfl)) <;> (conv => whnf) <;> repeat' (first | exact trivial | exact LeE.of (Le.refl _) | (first | exact rfl | fail) | ((with_reducible refine And.intro ?_ ?_) <;> conv => whnf)))
 ·by_cases hcl : c < l.length
  ·have hC : (0 : Int) ≤ (c : Int) ∧ (c : Int) < (l.length : Int) := by omega
   have hM := fun h => pos_ix hcl hn h
   have CA := aCheckA (l.getD c ad0)
   have LS := aLessAd (l.getD (IntKind.i64.wrap ((c : Int) - 1)).toNat ad0) (l.getD c ad0)
   conv => whnf
   repeat' (first | (refine Exists.intro _ (And.intro (chainI (CA)) ?_); conv => whnf) | (refine Exists.intro _ (And.intro (chainI (LS)) ?_); conv => whnf) | (refine And.intro (fun h => ?_) (fun h => ?_) <;> (first | (with_reducible have hd : _ < _ := of_decide_eq_true h) | (with_reducible have hd : ¬ (_ < _) := of_decide_eq_false h) | skip) <;> (first | omega | (conv => whnf))) | ((with_reducible refine DOg.l ?_); (conv => whnf)) | (refine And.intro ?_ ?_; (focus (first | (first | exact hC | fail) | ((conv => whnf); intros; (try simp only [decide_eq_true_eq, decide_eq_false_iff_not, Bool.and_eq_true, Bool.or_eq_true, Bool.and_eq_false_imp, Bool.or_eq_false_iff, Bool.not_eq_true', Bool.not_eq_false', beq_iff_eq, bne_iff_ne, ne_eq] at *); (first | (first | exact hM (by assumption) | fail) | fail)))); conv => whnf) | fail)
   ·exact leB (depsB_f hcl (depQ_eq l c true h)).symm
   ·refine ⟨c + 1, ⟨hcl, next_q hp (depQ_eq l c false h)⟩, ?_, by omega⟩
    (refine And.intro ?_ (And.intro ?_ (And.intro ?_ rfl)) <;> (conv => whnf) <;> repeat' (first | exact trivial | exact LeE.of (Le.refl _) | (with_reducible refine LeE.of ?_) | (first | exact rfl | exact leI (by first | rfl | (rw [wrap64 (by omega) (by omega)]; omega) | fail) | fail) | ((with_reducible refine And.intro ?_ ?_) <;> conv => whnf)))
  ·obtain rfl : c = l.length := by omega
   conv => whnf
   repeat' (first | (refine And.intro (fun h => ?_) (fun h => ?_) <;> (first | (with_reducible have hd : _ < _ := of_decide_eq_true h) | (with_reducible have hd : ¬ (_ < _) := of_decide_eq_false h) | fail) <;> (first | omega | (conv => whnf))) | fail)
   exact leB (by rw [depsB_t hp]; exact len24 _)
def stB (e : En) : Bool := checkR e.v && known e.v && (if e.v.k == 0 then (e.t || e.u) && !e.v.sec && tyL.any (eqs e.y.a.t) else finR e.y.a.t e.v == 0)
theorem aStored (e : En) : ACall Tryz.prog gl 42 [.ag (cEn e)] [] (boolA (stB e)) := by
 have P := aCheck false false e.v
 rw [checkV_if] at P
 have KN := aKnown e.v false false
 have C := aConS false tyL e.y.a.t
 have F := aFinalP false false e.y.a.t e.v
 rw [fin_law] at F
 refine acall_of_vc htb hmix (f := 42) rfl rfl rfl (by kernel_rfl) rfl rfl ?_; conv => whnf
 repeat' (first | (refine Exists.intro _ (And.intro (P) ?_); conv => whnf) | ((with_reducible refine GOr.l ?_); (conv => whnf); refine Exists.intro _ (And.intro (chainI (KN)) ?_); conv => whnf) | (refine Exists.intro _ (And.intro (chainI (aTypes)) ?_); conv => whnf) | (refine Exists.intro _ (And.intro (chainI (C)) ?_); conv => whnf) | (refine Exists.intro _ (And.intro (F) ?_); conv => whnf) | (refine And.intro (fun h => ?_) (fun h => ?_) <;> (first | skip) <;> (first | (conv => whnf))) | ((with_reducible refine DOg.l ?_); (conv => whnf)) | ((with_reducible refine xc_pure ?_); conv => whnf))
 ·rw [ckA] at h
  refine leB ?_
  unfold stB
  revert h
  cases checkR e.v <;> cases known e.v <;> simp
 ·rename_i h1
  rw [ckA] at h1
  refine leB ?_
  unfold stB
  rw [h]
  revert h1
  cases checkR e.v <;> cases known e.v <;> simp
 ·rename_i h1
  rw [ckA] at h1
  refine leB ?_
  unfold stB
  rw [h]
  revert h1
  cases checkR e.v <;> cases known e.v <;> simp
def okEn (e : En) : Bool := okKy e.y && stB e && depsB e.d
def stQ (l : List En) (j : Nat) : Bool := okEn (l.getD j en0) && !(decide ((j : Int) > 0) && !lessKy (l.getD (IntKind.i64.wrap ((j : Int) - 1)).toNat en0).y (l.getD j en0).y)
def okSt (s : St) : Bool := !(decide (s.s > 4611686018427387904) || decide ((s.l.length : Int) > 64)) && allQ (stQ s.l) s.l.length
theorem stQ_eq (l : List En) (c : Nat) (b : Bool) (h : ((if okKy (l.getD c en0).y = true then (0 : Int) else 1) != 0 || decide ((c : Int) > 0) && !lessKy (l.getD (IntKind.i64.wrap ((c : Int) - 1)).toNat en0).y (l.getD c en0).y || !stB (l.getD c en0) || !depsB (l.getD c en0).d) = b) : stQ l c = !b := by
 rw [ckA] at h
 unfold stQ okEn
 subst h
 cases okKy (l.getD c en0).y <;> cases decide ((c : Int) > 0) <;> cases lessKy (l.getD (IntKind.i64.wrap ((c : Int) - 1)).toNat en0).y (l.getD c en0).y <;> cases stB (l.getD c en0) <;> cases depsB (l.getD c en0).d <;> rfl
theorem okSt_h {s : St} (h : (decide (s.s > 4611686018427387904) || decide ((s.l.length : Int) > 64)) = true) : okSt s = false := by unfold okSt; rw [h]; rfl
theorem okSt_f {s : St} {c : Nat} (hc : c < s.l.length) (h : stQ s.l c = false) : okSt s = false := by unfold okSt; rw [allQ_f hc h, Bool.and_false]
theorem okSt_t {s : St} (h0 : (decide (s.s > 4611686018427387904) || decide ((s.l.length : Int) > 64)) = false) (h : ∀ j, j < s.l.length → stQ s.l j = true) : okSt s = true := by unfold okSt; rw [h0, allQ_t h]; rfl
theorem aCheckS (s : St) : ACall Tryz.prog gl 11 [.ag (cSt s)] [] (intA .i64 (if okSt s then 0 else 1)) := by
 refine acall_of_vcb htb hmix (f := 11) rfl rfl rfl (by kernel_rfl) rfl rfl fun hb => ?_; simp only [bndAll, AV.bnd, bnds, C.bnd, cVt, cS, true_and, and_true] at hb; conv => whnf
 have hn : s.l.length ≤ 140737488355328 := hb.1
 repeat' (first | (refine And.intro (fun h => ?_) (fun h => ?_) <;> (first | skip) <;> (first | (conv => whnf))) | fail)
 ·exact leI (by rw [okSt_h h]; rfl)
 ·have h0 := h
  refine loopI Nat (fun c => c ≤ s.l.length ∧ ∀ j, j < c → stQ s.l j = true) (fun c => [(17, intA .i64 c)]) (fun _ => [.box ((cSt s).map .c)]) (fun c => s.l.length - c) 0 ⟨Nat.zero_le _, fun j hj => absurd hj (Nat.not_lt_zero _)⟩ ?_ (fun _ => rfl) fun c ⟨hc, hp⟩ => ?_
  ·(refine And.intro ?_ (And.intro ?_ (And.intro ?_ rfl)) <;> (conv => whnf) <;> repeat' (first | exact trivial | exact LeE.of (Le.refl _) | (first | exact rfl | fail) | ((with_reducible refine And.intro ?_ ?_) <;> conv => whnf)))
  ·by_cases hcl : c < s.l.length
   ·have hC : (0 : Int) ≤ (c : Int) ∧ (c : Int) < (s.l.length : Int) := by omega
    have hM := fun h => pos_ix hcl hn h
    have CK := aCheckK (s.l.getD c en0).y
    have LS := aLessKy (s.l.getD (IntKind.i64.wrap ((c : Int) - 1)).toNat en0).y (s.l.getD c en0).y
    have SS := aStored (s.l.getD c en0)
    have DD := aDeps false (s.l.getD c en0).d
    conv => whnf
    repeat' (first | (refine Exists.intro _ (And.intro (chainI (CK)) ?_); conv => whnf) | (refine Exists.intro _ (And.intro (chainI (LS)) ?_); conv => whnf) | (refine Exists.intro _ (And.intro (chainI (SS)) ?_); conv => whnf) | (refine Exists.intro _ (And.intro (chainI (DD)) ?_); conv => whnf) | (refine And.intro (fun h => ?_) (fun h => ?_) <;> (first | (with_reducible have hd : _ < _ := of_decide_eq_true h) | (with_reducible have hd : ¬ (_ < _) := of_decide_eq_false h) | skip) <;> (first | omega | (conv => whnf))) | ((with_reducible refine DOg.l ?_); (conv => whnf)) | (refine And.intro ?_ ?_; (focus (first | (first | exact hC | fail) | ((conv => whnf); intros; (try simp only [decide_eq_true_eq, decide_eq_false_iff_not, Bool.and_eq_true, Bool.or_eq_true, Bool.and_eq_false_imp, Bool.or_eq_false_iff, Bool.not_eq_true', Bool.not_eq_false', beq_iff_eq, bne_iff_ne, ne_eq] at *); (first | (first | exact hM (by assumption) | fail) | fail)))); conv => whnf) | fail)
    ·exact leI (by rw [okSt_f hcl (stQ_eq s.l c true h)]; rfl)
    ·refine ⟨c + 1, ⟨hcl, next_q hp (stQ_eq s.l c false h)⟩, ?_, by omega⟩
     (refine And.intro ?_ (And.intro ?_ (And.intro ?_ rfl)) <;> (conv => whnf) <;> repeat' (first | exact trivial | exact LeE.of (Le.refl _) | (with_reducible refine LeE.of ?_) | (first | exact rfl | exact leI (by first | rfl | (rw [wrap64 (by omega) (by omega)]; omega) | fail) | fail) | ((with_reducible refine And.intro ?_ ?_) <;> conv => whnf)))
   ·obtain rfl : c = s.l.length := by omega
    conv => whnf
    repeat' (first | (refine And.intro (fun h => ?_) (fun h => ?_) <;> (first | (with_reducible have hd : _ < _ := of_decide_eq_true h) | (with_reducible have hd : ¬ (_ < _) := of_decide_eq_false h) | fail) <;> (first | omega | (conv => whnf))) | fail)
    exact leI (by rw [okSt_t h0 hp]; rfl)
/-! the document's -/
theorem len24' (n : Nat) : decide ((n : Int) > 24) = !decide (n ≤ 24) := by rw [← decide_not]; exact decide_eq_decide.2 (by omega)
theorem depQ_eqR (l : List Ad) (c : Nat) (b : Bool) (h : (!okAd (l.getD c ad0) || decide ((c : Int) > 0) && !lessAd (l.getD (IntKind.i64.wrap ((c : Int) - 1)).toNat ad0) (l.getD c ad0)) = b) : depQ l c = !b := by
 refine depQ_eq l c b ?_
 rw [ckA]; exact h
theorem stQ_eqR (l : List En) (c : Nat) (b : Bool) (h : (!okEn (l.getD c en0) || decide ((c : Int) > 0) && !lessKy (l.getD (IntKind.i64.wrap ((c : Int) - 1)).toNat en0).y (l.getD c en0).y) = b) : stQ l c = !b := by
 unfold stQ
 subst h
 cases okEn (l.getD c en0) <;> cases decide ((c : Int) > 0) <;> cases lessKy (l.getD (IntKind.i64.wrap ((c : Int) - 1)).toNat en0).y (l.getD c en0).y <;> rfl
theorem getD_y {l : List En} (hy : ∀ e ∈ l, 0 ≤ e.y.n) {c : Nat} (hc : c < l.length) : 0 ≤ (l.getD c en0).y.n := by
 rw [List.getD_eq_getElem?_getD, List.getElem?_eq_getElem hc]
 exact hy _ (List.getElem_mem hc)
theorem aCheckEnR (e : En) (hy : 0 ≤ e.y.n) : ACall Tryz.prog gl 16 [.ag (cEn e)] [] (boolA (okEn e)) := by
 have K := aCheckKR e.y hy
 have P := aCheckR false false e.v
 have KN := aKnownR e.v false false
 have A := aAttrs e.y.a.t
 have L := ty_law e.y.a.t
 have F := aFinalR false false e.y.a.t e.v
 refine acall_of_vcb htb hmix (f := 16) rfl rfl rfl (by kernel_rfl) rfl rfl fun hb => ?_; simp only [bndAll, AV.bnd, bnds, C.bnd, cVt, cS, true_and, and_true] at hb; conv => whnf
 repeat' (first | (refine Exists.intro _ (And.intro (K) ?_); conv => whnf) | ((with_reducible refine GOr.l ?_); (conv => whnf); refine Exists.intro _ (And.intro (chainI (P)) ?_); conv => whnf) | ((with_reducible refine GOr.l ?_); (conv => whnf); refine Exists.intro _ (And.intro (chainI (KN)) ?_); conv => whnf) | (refine And.intro (fun h => ?_) (fun h => ?_) <;> (first | skip) <;> (first | (conv => whnf))) | ((with_reducible refine xc_pure ?_); conv => whnf))
 ·refine leB ?_
  unfold okEn stB depsB
  rw [len24'] at h
  revert h
  cases okKy e.y <;> cases checkR e.v <;> cases known e.v <;> cases decide (e.d.length ≤ 24) <;> simp
 ·have h0 := h
  have hn : e.d.length ≤ 24 := by
   simp only [Bool.or_eq_false_iff, decide_eq_false_iff_not] at h
   omega
  have hk : okKy e.y = true ∧ checkR e.v = true ∧ known e.v = true := by
   simp only [Bool.or_eq_false_iff, Bool.not_eq_false'] at h
   exact ⟨h.1.1.1, h.1.1.2, h.1.2⟩
  refine loopI Nat (fun c => c ≤ e.d.length ∧ ∀ j, j < c → depQ e.d j = true) (fun c => [(3, intA .i64 c)]) (fun _ => [.box ((cEn e).map .c)]) (fun c => e.d.length - c) 0 ⟨Nat.zero_le _, fun j hj => absurd hj (Nat.not_lt_zero _)⟩ ?_ (fun _ => rfl) fun c ⟨hc, hp⟩ => ?_
  ·(refine And.intro ?_ (And.intro ?_ (And.intro ?_ rfl)) <;> (conv => whnf) <;> repeat' (first | exact trivial | exact LeE.of (Le.refl _) | (first | exact rfl | fail) | ((with_reducible refine And.intro ?_ ?_) <;> conv => whnf)))
  ·by_cases hcl : c < e.d.length
   ·have hC : (0 : Int) ≤ (c : Int) ∧ (c : Int) < (e.d.length : Int) := by omega
    have hM := fun h => pos_ix hcl (by omega) h
    have CA := aCheckAR (e.d.getD c ad0)
    have LS := aLessAdR (e.d.getD (IntKind.i64.wrap ((c : Int) - 1)).toNat ad0) (e.d.getD c ad0)
    conv => whnf
    repeat' (first | (refine Exists.intro _ (And.intro (chainI (CA)) ?_); conv => whnf) | (refine Exists.intro _ (And.intro (chainI (LS)) ?_); conv => whnf) | (refine And.intro (fun h => ?_) (fun h => ?_) <;> (first | (with_reducible have hd : _ < _ := of_decide_eq_true h) | (with_reducible have hd : ¬ (_ < _) := of_decide_eq_false h) | skip) <;> (first | omega | (conv => whnf))) | ((with_reducible refine DOg.l ?_); (conv => whnf)) | (refine And.intro ?_ ?_; (focus (first | (first | exact hC | exact chainI hC | fail) | ((conv => whnf); intros; (try simp only [decide_eq_true_eq, decide_eq_false_iff_not, Bool.and_eq_true, Bool.or_eq_true, Bool.and_eq_false_imp, Bool.or_eq_false_iff, Bool.not_eq_true', Bool.not_eq_false', beq_iff_eq, bne_iff_ne, ne_eq] at *); (first | (first | exact hM (by assumption) | fail) | fail)))); conv => whnf) | fail)
    ·refine leB ?_
     unfold okEn
     rw [depsB_f hcl (depQ_eqR e.d c true h), Bool.and_false]
    ·refine ⟨c + 1, ⟨hcl, next_q hp (depQ_eqR e.d c false h)⟩, ?_, by omega⟩
     (refine And.intro ?_ (And.intro ?_ (And.intro ?_ rfl)) <;> (conv => whnf) <;> repeat' (first | exact trivial | exact LeE.of (Le.refl _) | (with_reducible refine LeE.of ?_) | (first | exact rfl | exact leI (by first | rfl | (rw [wrap64 (by omega) (by omega)]; omega) | fail) | fail) | ((with_reducible refine And.intro ?_ ?_) <;> conv => whnf)))
   ·obtain rfl : c = e.d.length := by omega
    have hd4 : depsB e.d = true := by rw [depsB_t hp, decide_eq_true hn]
    conv => whnf
    repeat' (first | ((with_reducible refine GOr.l ?_); (conv => whnf); refine Exists.intro _ (And.intro (chainI (A)) ?_); conv => whnf) | (refine Exists.intro _ (And.intro (F) ?_); conv => whnf) | (refine And.intro (fun h => ?_) (fun h => ?_) <;> (first | (with_reducible have hd : _ < _ := of_decide_eq_true h) | (with_reducible have hd : ¬ (_ < _) := of_decide_eq_false h) | skip) <;> (first | omega | (conv => whnf))) | ((with_reducible refine xc_pure ?_); conv => whnf))
    ·refine leB ?_
     unfold okEn stB
     rw [hk.1, hk.2.1, hk.2.2, hd4, h, if_pos rfl, ← L]
     simp
    ·refine leB ?_
     unfold okEn stB
     rw [hk.1, hk.2.1, hk.2.2, hd4, h, if_neg (by decide)]
     simp
theorem aCheckSR (s : St) (hy : ∀ e ∈ s.l, 0 ≤ e.y.n) : ACall Tryz.prog gl 12 [.ag (cSt s)] [] (boolA (okSt s)) := by
 refine acall_of_vcb htb hmix (f := 12) rfl rfl rfl (by kernel_rfl) rfl rfl fun hb => ?_; simp only [bndAll, AV.bnd, bnds, C.bnd, cVt, cS, true_and, and_true] at hb; conv => whnf
 have hn : s.l.length ≤ 140737488355328 := hb.1
 repeat' (first | (refine And.intro (fun h => ?_) (fun h => ?_) <;> (first | skip) <;> (first | (conv => whnf))) | fail)
 ·exact leB (okSt_h h).symm
 ·have h0 := h
  refine loopI Nat (fun c => c ≤ s.l.length ∧ ∀ j, j < c → stQ s.l j = true) (fun c => [(3, intA .i64 c)]) (fun _ => [.box ((cSt s).map .c)]) (fun c => s.l.length - c) 0 ⟨Nat.zero_le _, fun j hj => absurd hj (Nat.not_lt_zero _)⟩ ?_ (fun _ => rfl) fun c ⟨hc, hp⟩ => ?_
  ·(refine And.intro ?_ (And.intro ?_ (And.intro ?_ rfl)) <;> (conv => whnf) <;> repeat' (first | exact trivial | exact LeE.of (Le.refl _) | (first | exact rfl | fail) | ((with_reducible refine And.intro ?_ ?_) <;> conv => whnf)))
  ·by_cases hcl : c < s.l.length
   ·have hC : (0 : Int) ≤ (c : Int) ∧ (c : Int) < (s.l.length : Int) := by omega
    have hM := fun h => pos_ix hcl hn h
    have CK := aCheckEnR (s.l.getD c en0) (getD_y hy hcl)
    have LS := aLessKyR (s.l.getD (IntKind.i64.wrap ((c : Int) - 1)).toNat en0).y (s.l.getD c en0).y
    conv => whnf
    repeat' (first | (refine Exists.intro _ (And.intro (chainI (CK)) ?_); conv => whnf) | (refine Exists.intro _ (And.intro (chainI (LS)) ?_); conv => whnf) | (refine And.intro (fun h => ?_) (fun h => ?_) <;> (first | (with_reducible have hd : _ < _ := of_decide_eq_true h) | (with_reducible have hd : ¬ (_ < _) := of_decide_eq_false h) | skip) <;> (first | omega | (conv => whnf))) | ((with_reducible refine DOg.l ?_); (conv => whnf)) | (refine And.intro ?_ ?_; (focus (first | (first | exact hC | exact chainI hC | fail) | ((conv => whnf); intros; (try simp only [decide_eq_true_eq, decide_eq_false_iff_not, Bool.and_eq_true, Bool.or_eq_true, Bool.and_eq_false_imp, Bool.or_eq_false_iff, Bool.not_eq_true', Bool.not_eq_false', beq_iff_eq, bne_iff_ne, ne_eq] at *); (first | (first | exact hM (by assumption) | fail) | fail)))); conv => whnf) | fail)
    ·exact leB (okSt_f hcl (stQ_eqR s.l c true h)).symm
    ·refine ⟨c + 1, ⟨hcl, next_q hp (stQ_eqR s.l c false h)⟩, ?_, by omega⟩
     (refine And.intro ?_ (And.intro ?_ (And.intro ?_ rfl)) <;> (conv => whnf) <;> repeat' (first | exact trivial | exact LeE.of (Le.refl _) | (with_reducible refine LeE.of ?_) | (first | exact rfl | exact leI (by first | rfl | (rw [wrap64 (by omega) (by omega)]; omega) | fail) | fail) | ((with_reducible refine And.intro ?_ ?_) <;> conv => whnf)))
   ·obtain rfl : c = s.l.length := by omega
    conv => whnf
    repeat' (first | (refine And.intro (fun h => ?_) (fun h => ?_) <;> (first | (with_reducible have hd : _ < _ := of_decide_eq_true h) | (with_reducible have hd : ¬ (_ < _) := of_decide_eq_false h) | fail) <;> (first | omega | (conv => whnf))) | fail)
    exact leB (okSt_t h0 hp).symm
end Go.Proofs.YthaaemhkdefidaaGreatDoor

namespace Go.Proofs.YthaaemhkdefidaaGreatDoor
set_option linter.unusedSimpArgs false
set_option linter.unusedVariables false
set_option maxRecDepth 100000
set_option maxHeartbeats 8000000
open Go Go.VA
/-! ### a state whose entries are lent -/
end Go.Proofs.YthaaemhkdefidaaGreatDoor
