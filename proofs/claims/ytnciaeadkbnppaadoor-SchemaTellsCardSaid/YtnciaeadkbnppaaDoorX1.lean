/- Contracts of functions of the program, and the laws that stand on them: what each function answers, whatever its arguments. -/
import Derived.Test.YtnciaeadkbnppaaDoorE7
import Derived.Test.YtnciaeadkbnppaaDoorVD
set_option linter.unusedSectionVars false
set_option linter.unnecessarySimpa false
namespace Go.Proofs.YtnciaeadkbnppaaDoor
set_option linter.unusedSimpArgs false
set_option linter.unusedVariables false
set_option maxRecDepth 100000
set_option maxHeartbeats 8000000
open Go Go.VA
def nmD : ByteArray := { data := #[100, 105, 115, 107] }
def nmN : ByteArray := { data := #[110, 111, 100, 101] }
def nmO : ByteArray := { data := #[110, 111, 116, 101] }
def nmR : ByteArray := { data := #[114, 117, 108, 101] }
def lD : List Aw := [⟨{ data := #[105, 100] }, 3, 0, false, true, false, false⟩, ⟨{ data := #[107, 105, 110, 100] }, 3, 0, false, false, true, false⟩, ⟨{ data := #[108, 97, 98, 101, 108] }, 3, 0, false, false, false, false⟩, ⟨{ data := #[115, 101, 114, 105, 97, 108] }, 2, 0, false, true, false, false⟩, ⟨{ data := #[115, 105, 122, 101] }, 2, 0, true, false, false, false⟩]
def lN : List Aw := [⟨{ data := #[97, 100, 100, 114] }, 3, 0, false, true, false, false⟩, ⟨{ data := #[100, 105, 115, 107] }, 3, 0, false, false, false, false⟩, ⟨{ data := #[105, 100] }, 3, 0, false, true, false, false⟩, ⟨{ data := #[105, 109, 97, 103, 101] }, 3, 0, true, false, true, false⟩, ⟨{ data := #[112, 111, 114, 116, 115] }, 4, 2, false, false, false, false⟩, ⟨{ data := #[115, 101, 99, 114, 101, 116] }, 3, 0, false, false, false, true⟩, ⟨{ data := #[116, 97, 103, 115] }, 5, 3, false, false, false, false⟩]
def lO : List Aw := [⟨{ data := #[105, 100] }, 3, 0, false, true, false, false⟩, ⟨{ data := #[109, 101, 116, 97] }, 5, 0, false, false, false, false⟩, ⟨{ data := #[116, 101, 120, 116] }, 3, 0, false, false, false, false⟩]
def lR : List Aw := [⟨{ data := #[97, 108, 108, 111, 119] }, 4, 3, false, false, false, false⟩, ⟨{ data := #[102, 114, 111, 109] }, 3, 0, true, false, false, false⟩, ⟨{ data := #[105, 100] }, 3, 0, false, true, false, false⟩, ⟨{ data := #[116, 111] }, 3, 0, false, false, false, false⟩]
theorem atN_of (t : ByteArray) : atN t 19 = (tabR.filter fun r => decide (r.t = t)).map awOf := by
  unfold atN
  rw [List.take_of_length_le (by decide)]
  congr 1
  refine List.filter_congr fun r _ => ?_
  rw [Bool.eq_iff_iff, eqs_iff, decide_eq_true_eq]
theorem atN_D : atN nmD 19 = lD := by rw [atN_of]; kernel_rfl
theorem atN_N : atN nmN 19 = lN := by rw [atN_of]; kernel_rfl
theorem atN_O : atN nmO 19 = lO := by rw [atN_of]; kernel_rfl
theorem atN_R : atN nmR 19 = lR := by rw [atN_of]; kernel_rfl
def tyB (t : ByteArray) : Bool := tyL.any (eqs t)
theorem tyB_or (t : ByteArray) : tyB t = (eqs t nmD || (eqs t nmN || (eqs t nmO || eqs t nmR))) := by
  unfold tyB tyL
  simp only [List.any_cons, List.any_nil, Bool.or_false]
  rfl
theorem aAttrsY (t : ByteArray) (h0 : tyB t = true) : ACall Tryd.prog gl 29 [.c (.v (.string t))] [] (.c (.sl false 7 (atN t 19).length (rAw (atN t 19)))) := by
  rw [tyB_or] at h0
  refine acall_of_vc htb hmix (f := 29) rfl rfl rfl (by kernel_rfl) rfl rfl ?_; conv => whnf
  repeat' (first | (refine And.intro (fun h => ?_) (fun h => ?_) <;> (first | (with_reducible have hd : _ < _ := of_decide_eq_true h) | (with_reducible have hd : _ ≤ _ := of_decide_eq_true h) | (with_reducible have hd : ¬ (_ < _) := of_decide_eq_false h) | (with_reducible have hd : ¬ (_ ≤ _) := of_decide_eq_false h) | skip) <;> (first | exact absurd h (by decide) | (conv => whnf))) | ((with_reducible refine Both.mk ?_ ?_) <;> conv => whnf) | ((with_reducible refine DOg.l ?_); (conv => whnf)) | ((with_reducible refine DOr.l ?_); (conv => whnf)) | ((with_reducible refine NilOr.l ?_); conv => whnf) | ((with_reducible refine OwnOr.l ?_); (conv => whnf)) | (refine And.intro ?_ ?_; (focus (first | exact trivial | exact rfl | (first | exact seT | exact u64nn _ | assumption) | (refine chainI ?_; (first | (first | exact seT | exact u64nn _ | assumption) | decide | omega | (refine And.intro ?_ ?_ <;> first | omega | (simp; omega)) | (simp only [IntKind.wrap_i64]; first | omega | (refine And.intro ?_ ?_ <;> omega)))) | (intro _; (first | (first | exact seT | exact u64nn _ | assumption) | decide | omega | (refine And.intro ?_ ?_ <;> first | omega | (simp; omega)) | (simp only [IntKind.wrap_i64]; first | omega | (refine And.intro ?_ ?_ <;> omega)))) | (intro _ _; (first | (first | exact seT | exact u64nn _ | assumption) | decide | omega | (refine And.intro ?_ ?_ <;> first | omega | (simp; omega)) | (simp only [IntKind.wrap_i64]; first | omega | (refine And.intro ?_ ?_ <;> omega)))) | (first | decide | omega | (refine And.intro ?_ ?_ <;> first | omega | (simp; omega)) | (simp only [IntKind.wrap_i64]; first | omega | (refine And.intro ?_ ?_ <;> omega))) | ((conv => whnf); intros; (try simp only [decide_eq_true_eq, decide_eq_false_iff_not, Bool.and_eq_true, Bool.or_eq_true, Bool.and_eq_false_imp, Bool.or_eq_false_iff, Bool.not_eq_true', Bool.not_eq_false', beq_iff_eq, bne_iff_ne, ne_eq] at *); (first | (first | exact seT | exact u64nn _ | assumption) | decide | omega | (refine And.intro ?_ ?_ <;> first | omega | (simp; omega)) | (simp only [IntKind.wrap_i64]; first | omega | (refine And.intro ?_ ?_ <;> omega)))))); conv => whnf) | (refine And.intro ?_ ?_; (focus (first | exact NoTag.int | exact NoTag.bool | exact NoTag.str | (refine NoTag.of_scalar ?_; rfl))); conv => whnf))
  · have h : eqs t nmD = true := h
    rw [eqs_iff.1 h, atN_D]
    exact leSl rfl (fun i hi => by match i, hi with | 0, _ => rfl | 1, _ => rfl | 2, _ => rfl | 3, _ => rfl | 4, _ => rfl)
  · have h : eqs t nmN = true := h
    rw [eqs_iff.1 h, atN_N]
    exact leSl rfl (fun i hi => by match i, hi with | 0, _ => rfl | 1, _ => rfl | 2, _ => rfl | 3, _ => rfl | 4, _ => rfl | 5, _ => rfl | 6, _ => rfl)
  · have h : eqs t nmO = true := h
    rw [eqs_iff.1 h, atN_O]
    exact leSl rfl (fun i hi => by match i, hi with | 0, _ => rfl | 1, _ => rfl | 2, _ => rfl)
  · have h : eqs t nmR = true := h
    rw [eqs_iff.1 h, atN_R]
    exact leSl rfl (fun i hi => by match i, hi with | 0, _ => rfl | 1, _ => rfl | 2, _ => rfl | 3, _ => rfl)
  · exfalso
    rename_i h1 h2 h3
    have h1 : eqs t nmD = false := h1
    have h2 : eqs t nmN = false := h2
    have h3 : eqs t nmO = false := h3
    have h : eqs t nmR = false := h
    rw [h1, h2, h3, h] at h0
    exact absurd h0 (by decide)
theorem aAttrsN (t : ByteArray) (h0 : tyB t = false) : ACall Tryd.prog gl 29 [.c (.v (.string t))] [] (.c (.v (.slice none 0 0))) := by
  rw [tyB_or] at h0
  simp only [Bool.or_eq_false_iff] at h0
  obtain ⟨h1, h2, h3, h4⟩ := h0
  refine acall_of_vc htb hmix (f := 29) rfl rfl rfl (by kernel_rfl) rfl rfl ?_; conv => whnf
  repeat' (first | (refine And.intro (fun h => ?_) (fun h => ?_) <;> (first | (with_reducible have hd : _ < _ := of_decide_eq_true h) | (with_reducible have hd : _ ≤ _ := of_decide_eq_true h) | (with_reducible have hd : ¬ (_ < _) := of_decide_eq_false h) | (with_reducible have hd : ¬ (_ ≤ _) := of_decide_eq_false h) | skip) <;> (first | exact absurd h (by decide) | (conv => whnf))) | ((with_reducible refine Both.mk ?_ ?_) <;> conv => whnf) | ((with_reducible refine DOg.l ?_); (conv => whnf)) | ((with_reducible refine DOr.l ?_); (conv => whnf)) | ((with_reducible refine NilOr.r ?_); conv => whnf) | ((with_reducible refine OwnOr.l ?_); (conv => whnf)) | (refine And.intro ?_ ?_; (focus (first | exact trivial | exact rfl | (first | exact seT | exact u64nn _ | assumption) | (refine chainI ?_; (first | (first | exact seT | exact u64nn _ | assumption) | decide | omega | (refine And.intro ?_ ?_ <;> first | omega | (simp; omega)) | (simp only [IntKind.wrap_i64]; first | omega | (refine And.intro ?_ ?_ <;> omega)))) | (intro _; (first | (first | exact seT | exact u64nn _ | assumption) | decide | omega | (refine And.intro ?_ ?_ <;> first | omega | (simp; omega)) | (simp only [IntKind.wrap_i64]; first | omega | (refine And.intro ?_ ?_ <;> omega)))) | (intro _ _; (first | (first | exact seT | exact u64nn _ | assumption) | decide | omega | (refine And.intro ?_ ?_ <;> first | omega | (simp; omega)) | (simp only [IntKind.wrap_i64]; first | omega | (refine And.intro ?_ ?_ <;> omega)))) | (first | decide | omega | (refine And.intro ?_ ?_ <;> first | omega | (simp; omega)) | (simp only [IntKind.wrap_i64]; first | omega | (refine And.intro ?_ ?_ <;> omega))) | ((conv => whnf); intros; (try simp only [decide_eq_true_eq, decide_eq_false_iff_not, Bool.and_eq_true, Bool.or_eq_true, Bool.and_eq_false_imp, Bool.or_eq_false_iff, Bool.not_eq_true', Bool.not_eq_false', beq_iff_eq, bne_iff_ne, ne_eq] at *); (first | (first | exact seT | exact u64nn _ | assumption) | decide | omega | (refine And.intro ?_ ?_ <;> first | omega | (simp; omega)) | (simp only [IntKind.wrap_i64]; first | omega | (refine And.intro ?_ ?_ <;> omega)))))); conv => whnf) | (refine And.intro ?_ ?_; (focus (first | exact NoTag.int | exact NoTag.bool | exact NoTag.str | (refine NoTag.of_scalar ?_; rfl))); conv => whnf))
  · exact absurd (h1.symm.trans h) (by decide)
  · exact absurd (h2.symm.trans h) (by decide)
  · exact absurd (h3.symm.trans h) (by decide)
  · exact absurd (h4.symm.trans h) (by decide)
  · exact Le.refl _
theorem at_pos {t : ByteArray} (h : tyB t = true) : 0 < (atN t 19).length := by
  have := ty_law t
  have h : tyL.any (eqs t) = true := h
  rw [h] at this
  have := of_decide_eq_true this
  omega
theorem at_nil {t : ByteArray} (h : tyB t = false) : atN t 19 = [] := by
  have := ty_law t
  have h : tyL.any (eqs t) = false := h
  rw [h] at this
  have := of_decide_eq_false this
  exact List.eq_nil_of_length_eq_zero (by omega)
theorem aAttrsE (t : ByteArray) : ACall Tryd.prog gl 7 [.c (.v (.string t))] [] (.tup [.c (.sl false 7 (atN t 19).length (rAw (atN t 19))), intA .i64 (if tyB t then 0 else 9)]) := by
  cases h0 : tyB t
  · have A := aAttrsN t h0
    rw [at_nil h0]
    refine acall_of_vc htb hmix (f := 7) rfl rfl rfl (by kernel_rfl) rfl rfl ?_; conv => whnf
    repeat' (first | (refine Exists.intro _ (And.intro (chainI (A)) ?_); conv => whnf) | (refine Exists.intro _ (And.intro (A) ?_); conv => whnf) | ((with_reducible refine GOr.l ?_); (conv => whnf); refine Exists.intro _ (And.intro (chainI (A)) ?_); conv => whnf) | (refine And.intro (fun h => ?_) (fun h => ?_) <;> (first | (with_reducible have hd : _ < _ := of_decide_eq_true h) | (with_reducible have hd : _ ≤ _ := of_decide_eq_true h) | (with_reducible have hd : ¬ (_ < _) := of_decide_eq_false h) | (with_reducible have hd : ¬ (_ ≤ _) := of_decide_eq_false h) | skip) <;> (first | exact absurd h (by decide) | (conv => whnf))) | ((with_reducible refine Both.mk ?_ ?_) <;> conv => whnf) | ((with_reducible refine DOg.l ?_); (conv => whnf)) | ((with_reducible refine DOr.l ?_); (conv => whnf)) | ((with_reducible refine NilOr.r ?_); conv => whnf) | ((with_reducible refine OwnOr.l ?_); (conv => whnf)) | (refine And.intro ?_ ?_; (focus (first | exact trivial | exact rfl | (first | exact seT | exact u64nn _ | assumption) | (refine chainI ?_; (first | (first | exact seT | exact u64nn _ | assumption) | decide | omega | (refine And.intro ?_ ?_ <;> first | omega | (simp; omega)) | (simp only [IntKind.wrap_i64]; first | omega | (refine And.intro ?_ ?_ <;> omega)))) | (intro _; (first | (first | exact seT | exact u64nn _ | assumption) | decide | omega | (refine And.intro ?_ ?_ <;> first | omega | (simp; omega)) | (simp only [IntKind.wrap_i64]; first | omega | (refine And.intro ?_ ?_ <;> omega)))) | (intro _ _; (first | (first | exact seT | exact u64nn _ | assumption) | decide | omega | (refine And.intro ?_ ?_ <;> first | omega | (simp; omega)) | (simp only [IntKind.wrap_i64]; first | omega | (refine And.intro ?_ ?_ <;> omega)))) | (first | decide | omega | (refine And.intro ?_ ?_ <;> first | omega | (simp; omega)) | (simp only [IntKind.wrap_i64]; first | omega | (refine And.intro ?_ ?_ <;> omega))) | ((conv => whnf); intros; (try simp only [decide_eq_true_eq, decide_eq_false_iff_not, Bool.and_eq_true, Bool.or_eq_true, Bool.and_eq_false_imp, Bool.or_eq_false_iff, Bool.not_eq_true', Bool.not_eq_false', beq_iff_eq, bne_iff_ne, ne_eq] at *); (first | (first | exact seT | exact u64nn _ | assumption) | decide | omega | (refine And.intro ?_ ?_ <;> first | omega | (simp; omega)) | (simp only [IntKind.wrap_i64]; first | omega | (refine And.intro ?_ ?_ <;> omega)))))); conv => whnf) | (refine And.intro ?_ ?_; (focus (first | exact NoTag.int | exact NoTag.bool | exact NoTag.str | (refine NoTag.of_scalar ?_; rfl))); conv => whnf) | ((with_reducible refine xc_pure ?_); conv => whnf))
    exact leTup2 (Le.toC (LeC.nil rfl)) (Le.refl _)
  · have A := aAttrsY t h0
    have hp := at_pos h0
    refine acall_of_vc htb hmix (f := 7) rfl rfl rfl (by kernel_rfl) rfl rfl ?_; conv => whnf
    repeat' (first | (refine Exists.intro _ (And.intro (chainI (A)) ?_); conv => whnf) | (refine Exists.intro _ (And.intro (A) ?_); conv => whnf) | ((with_reducible refine GOr.l ?_); (conv => whnf); refine Exists.intro _ (And.intro (chainI (A)) ?_); conv => whnf) | (refine And.intro (fun h => ?_) (fun h => ?_) <;> (first | (with_reducible have hd : _ < _ := of_decide_eq_true h) | (with_reducible have hd : _ ≤ _ := of_decide_eq_true h) | (with_reducible have hd : ¬ (_ < _) := of_decide_eq_false h) | (with_reducible have hd : ¬ (_ ≤ _) := of_decide_eq_false h) | skip) <;> (first | exact absurd h (by decide) | (conv => whnf))) | ((with_reducible refine Both.mk ?_ ?_) <;> conv => whnf) | ((with_reducible refine DOg.l ?_); (conv => whnf)) | ((with_reducible refine DOr.l ?_); (conv => whnf)) | ((with_reducible refine NilOr.r ?_); conv => whnf) | ((with_reducible refine OwnOr.l ?_); (conv => whnf)) | (refine And.intro ?_ ?_; (focus (first | exact trivial | exact rfl | (first | exact seT | exact u64nn _ | assumption) | (refine chainI ?_; (first | (first | exact seT | exact u64nn _ | assumption) | decide | omega | (refine And.intro ?_ ?_ <;> first | omega | (simp; omega)) | (simp only [IntKind.wrap_i64]; first | omega | (refine And.intro ?_ ?_ <;> omega)))) | (intro _; (first | (first | exact seT | exact u64nn _ | assumption) | decide | omega | (refine And.intro ?_ ?_ <;> first | omega | (simp; omega)) | (simp only [IntKind.wrap_i64]; first | omega | (refine And.intro ?_ ?_ <;> omega)))) | (intro _ _; (first | (first | exact seT | exact u64nn _ | assumption) | decide | omega | (refine And.intro ?_ ?_ <;> first | omega | (simp; omega)) | (simp only [IntKind.wrap_i64]; first | omega | (refine And.intro ?_ ?_ <;> omega)))) | (first | decide | omega | (refine And.intro ?_ ?_ <;> first | omega | (simp; omega)) | (simp only [IntKind.wrap_i64]; first | omega | (refine And.intro ?_ ?_ <;> omega))) | ((conv => whnf); intros; (try simp only [decide_eq_true_eq, decide_eq_false_iff_not, Bool.and_eq_true, Bool.or_eq_true, Bool.and_eq_false_imp, Bool.or_eq_false_iff, Bool.not_eq_true', Bool.not_eq_false', beq_iff_eq, bne_iff_ne, ne_eq] at *); (first | (first | exact seT | exact u64nn _ | assumption) | decide | omega | (refine And.intro ?_ ?_ <;> first | omega | (simp; omega)) | (simp only [IntKind.wrap_i64]; first | omega | (refine And.intro ?_ ?_ <;> omega)))))); conv => whnf) | (refine And.intro ?_ ?_; (focus (first | exact NoTag.int | exact NoTag.bool | exact NoTag.str | (refine NoTag.of_scalar ?_; rfl))); conv => whnf) | ((with_reducible refine xc_pure ?_); conv => whnf))
    · exfalso
      have h : true = true → (atN t 19).length = 0 := h
      have := h rfl
      omega
    · exact Le.refl _
end Go.Proofs.YtnciaeadkbnppaaDoor

namespace Go.Proofs.YtnciaeadkbnppaaDoor
set_option linter.unusedSimpArgs false
set_option linter.unusedVariables false
set_option maxRecDepth 100000
set_option maxHeartbeats 8000000
open Go Go.VA
def atI (t : ByteArray) (i : Nat) : Aw := (atN t 19).getD i aw0
def findV (v : V) (key : ByteArray) : Int := if v.k == 5 then fidx (fun k => eqs k key) (v.ks.take (nIt v)) 0 else -1
def names (t : ByteArray) : List ByteArray := (atN t 19).map Aw.n
def fromV (v x : V) : V := .mk x.k x.i x.s x.l x.ks x.tk x.to (x.sec || v.sec)
def elemV (v : V) (key : ByteArray) : V := if findV v key ≥ 0 then fromV v (v.l.getD (findV v key).toNat V.z) else V.z
end Go.Proofs.YtnciaeadkbnppaaDoor

namespace Go.Proofs.YtnciaeadkbnppaaDoor
set_option linter.unusedSimpArgs false
set_option linter.unusedVariables false
set_option maxRecDepth 100000
set_option maxHeartbeats 8000000
open Go Go.VA
theorem eqs_comm (a b : ByteArray) : eqs a b = eqs b a := by unfold eqs; exact Bool.beq_comm
def findA (t name : ByteArray) : Option Aw := (atN t 19).find? fun y => eqs y.n name
end Go.Proofs.YtnciaeadkbnppaaDoor
