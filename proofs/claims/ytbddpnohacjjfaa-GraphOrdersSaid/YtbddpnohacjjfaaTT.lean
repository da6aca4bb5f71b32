/- Contracts of functions of the program, and the laws that stand on them: what each function answers, whatever its arguments. -/
import Derived.Test.YtbddpnohacjjfaaVD
import Derived.Test.YtbddpnohacjjfaaProg
set_option linter.unusedSectionVars false
set_option linter.unnecessarySimpa false
namespace Go.Proofs.Ytbddpnohacjjfaa
open Go Go.VA
def tbl : List (Nat × TI) := [
  (1, ⟨.func, 1, 8, [.nilFunc]⟩),
  (2, ⟨.int .i64, 1, 8, [.int .i64 0]⟩),
  (3, ⟨.int .i64, 1, 8, [.int .i64 0]⟩),
  (4, ⟨.bool, 1, 1, [.bool false]⟩),
  (5, ⟨.int .u8, 1, 1, [.int .u8 0]⟩),
  (6, ⟨.int .u8, 1, 1, [.int .u8 0]⟩),
  (7, ⟨.struct [(0, 2), (1, 3), (2, 4), (3, 6)], 4, 24, [.int .i64 0, .int .i64 0, .bool false, .int .u8 0]⟩),
  (8, ⟨.struct [(0, 2), (1, 3), (2, 4), (3, 6)], 4, 24, [.int .i64 0, .int .i64 0, .bool false, .int .u8 0]⟩),
  (9, ⟨.str, 1, 16, [.string ByteArray.empty]⟩),
  (10, ⟨.str, 1, 16, [.string ByteArray.empty]⟩),
  (11, ⟨.str, 1, 16, [.string ByteArray.empty]⟩),
  (12, ⟨.int .u64, 1, 8, [.int .u64 0]⟩),
  (13, ⟨.struct [(0, 9), (1, 12)], 2, 24, [.string ByteArray.empty, .int .u64 0]⟩),
  (14, ⟨.struct [(0, 9), (1, 12)], 2, 24, [.string ByteArray.empty, .int .u64 0]⟩),
  (15, ⟨.ptr 50, 1, 8, [.pointer none]⟩),
  (16, ⟨.ptr 53, 1, 8, [.pointer none]⟩),
  (17, ⟨.ptr 62, 1, 8, [.pointer none]⟩),
  (18, ⟨.struct [(0, 17)], 1, 8, [.pointer none]⟩),
  (19, ⟨.struct [(0, 17)], 1, 8, [.pointer none]⟩),
  (21, ⟨.int .i32, 1, 4, [.int .i32 0]⟩),
  (22, ⟨.slice 25, 1, 24, [.slice none 0 0]⟩),
  (23, ⟨.func, 1, 8, [.nilFunc]⟩),
  (24, ⟨.func, 1, 8, [.nilFunc]⟩),
  (25, ⟨.slice 3, 1, 24, [.slice none 0 0]⟩),
  (27, ⟨.ptr 35, 1, 8, [.pointer none]⟩),
  (28, ⟨.func, 1, 8, [.nilFunc]⟩),
  (29, ⟨.func, 1, 8, [.nilFunc]⟩),
  (30, ⟨.ptr 45, 1, 8, [.pointer none]⟩),
  (31, ⟨.func, 1, 8, [.nilFunc]⟩),
  (32, ⟨.func, 1, 8, [.nilFunc]⟩),
  (33, ⟨.slice 38, 1, 24, [.slice none 0 0]⟩),
  (34, ⟨.struct [(0, 33), (1, 33)], 2, 48, [.slice none 0 0, .slice none 0 0]⟩),
  (35, ⟨.struct [(0, 33), (1, 33)], 2, 48, [.slice none 0 0, .slice none 0 0]⟩),
  (36, ⟨.int .u64, 1, 8, [.int .u64 0]⟩),
  (37, ⟨.array 2 36, 2, 16, [.int .u64 0, .int .u64 0]⟩),
  (38, ⟨.array 2 36, 2, 16, [.int .u64 0, .int .u64 0]⟩),
  (39, ⟨.func, 1, 8, [.nilFunc]⟩),
  (40, ⟨.func, 1, 8, [.nilFunc]⟩),
  (41, ⟨.func, 1, 8, [.nilFunc]⟩),
  (42, ⟨.func, 1, 8, [.nilFunc]⟩),
  (43, ⟨.slice 46, 1, 24, [.slice none 0 0]⟩),
  (44, ⟨.struct [(0, 3), (1, 43)], 2, 32, [.int .i64 0, .slice none 0 0]⟩),
  (45, ⟨.struct [(0, 3), (1, 43)], 2, 32, [.int .i64 0, .slice none 0 0]⟩),
  (46, ⟨.slice 4, 1, 24, [.slice none 0 0]⟩),
  (47, ⟨.int .u64, 1, 8, [.int .u64 0]⟩),
  (48, ⟨.func, 1, 8, [.nilFunc]⟩),
  (49, ⟨.struct [(0, 17), (1, 17), (2, 17), (3, 9)], 4, 40, [.pointer none, .pointer none, .pointer none, .string ByteArray.empty]⟩),
  (50, ⟨.struct [(0, 17), (1, 17), (2, 17), (3, 9)], 4, 40, [.pointer none, .pointer none, .pointer none, .string ByteArray.empty]⟩),
  (51, ⟨.array 0 16, 0, 0, []⟩),
  (52, ⟨.struct [(0, 51)], 0, 0, []⟩),
  (53, ⟨.struct [(0, 51)], 0, 0, []⟩),
  (54, ⟨.int .u32, 1, 4, [.int .u32 0]⟩),
  (55, ⟨.int .u8, 1, 1, [.int .u8 0]⟩),
  (56, ⟨.int .u8, 1, 1, [.int .u8 0]⟩),
  (57, ⟨.func, 1, 8, [.nilFunc]⟩),
  (58, ⟨.ptr 5, 1, 8, [.pointer none]⟩),
  (59, ⟨.int .i32, 1, 4, [.int .i32 0]⟩),
  (60, ⟨.int .i32, 1, 4, [.int .i32 0]⟩),
  (61, ⟨.struct [(0, 12), (1, 12), (2, 54), (3, 55), (4, 5), (5, 5), (6, 56), (7, 57), (8, 58), (9, 59), (10, 60)], 11, 48, [.int .u64 0, .int .u64 0, .int .u32 0, .int .u8 0, .int .u8 0, .int .u8 0, .int .u8 0, .nilFunc, .pointer none, .int .i32 0, .int .i32 0]⟩),
  (62, ⟨.struct [(0, 12), (1, 12), (2, 54), (3, 55), (4, 5), (5, 5), (6, 56), (7, 57), (8, 58), (9, 59), (10, 60)], 11, 48, [.int .u64 0, .int .u64 0, .int .u32 0, .int .u8 0, .int .u8 0, .int .u8 0, .int .u8 0, .nilFunc, .pointer none, .int .i32 0, .int .i32 0]⟩),
  (63, ⟨.func, 1, 8, [.nilFunc]⟩)]
abbrev tb : TB := VA.look tbl
theorem htb : TbOk Try.prog tb := tbOk_of_chk (by kernel_rfl)
theorem hmix : Try.prog.follows .mixedOrders = true := by kernel_rfl
def gl : Gl := ⟨fun _ => []⟩
end Go.Proofs.Ytbddpnohacjjfaa

namespace Go.Proofs.Ytbddpnohacjjfaa
set_option linter.unusedSimpArgs false
set_option linter.unusedVariables false
set_option maxRecDepth 100000
set_option maxHeartbeats 8000000
open Go Go.VA
theorem shr6 (i : Nat) : shrI .i64 (i : Int) 6 = ((i / 64 : Nat) : Int) := by
  show (i : Int).fdiv (2 ^ 6) = _
  rw [Int.fdiv_eq_ediv_of_nonneg _ (by decide)]
  omega
theorem and63 (i : Nat) (h : i < 18446744073709551616) : bitsI .and .u64 (IntKind.u64.wrap (i : Int)) 63 = ((i % 64 : Nat) : Int) := by
  have e : IntKind.u64.wrap (i : Int) = uI (BitVec.ofNat 64 i) := by rw [wrapU64, uI_def, BitVec.toNat_ofNat]; omega
  have e2 : (63 : Int) = uI 63 := by rw [uI_def]; rfl
  rw [e, e2, u_and, uI_def, BitVec.toNat_and, BitVec.toNat_ofNat]
  rw [show (BitVec.toNat (63 : BitVec 64)) = 2 ^ 6 - 1 from rfl, Nat.and_two_pow_sub_one_eq_mod]
  omega
theorem aHas (S : Nat → Bool) (i : Nat) (hi : i < 128) : ACall Try.prog gl 13 [.ag (setC S), intA .i64 i] [] (boolA (S i)) := by
  have hB : (0 : Int) ≤ shrI .i64 (i : Int) 6 ∧ shrI .i64 (i : Int) 6 < 2 := by rw [shr6]; omega
  have hS : (0 : Int) ≤ bitsI .and .u64 (IntKind.u64.wrap (i : Int)) 63 := by rw [and63 _ (by omega)]; omega
  refine acall_of_vc htb hmix (f := 13) rfl rfl rfl (by kernel_rfl) rfl rfl ?_; conv => whnf
  repeat' (first | (refine And.intro (fun h => ?_) (fun h => ?_) <;> (first | (with_reducible have hd : _ < _ := of_decide_eq_true h) | (with_reducible have hd : _ ≤ _ := of_decide_eq_true h) | (with_reducible have hd : ¬ (_ < _) := of_decide_eq_false h) | (with_reducible have hd : ¬ (_ ≤ _) := of_decide_eq_false h) | skip) <;> conv => whnf) | ((with_reducible refine Both.mk ?_ ?_) <;> conv => whnf) | ((with_reducible refine DOr.l ?_); (conv => whnf)) | ((with_reducible refine OwnOr.l ?_); (conv => whnf)) | (refine And.intro ?_ ?_; (focus (first | exact trivial | exact rfl | (first | exact hB | exact chainI hB | exact hS | exact chainI hS | assumption) | (refine chainI ?_; (first | (first | exact hB | exact chainI hB | exact hS | exact chainI hS | assumption) | decide | omega | (refine And.intro ?_ ?_ <;> first | omega | (simp; omega)) | (simp only [IntKind.wrap_i64]; first | omega | (refine And.intro ?_ ?_ <;> omega)))) | (intro _; (first | (first | exact hB | exact chainI hB | exact hS | exact chainI hS | assumption) | decide | omega | (refine And.intro ?_ ?_ <;> first | omega | (simp; omega)) | (simp only [IntKind.wrap_i64]; first | omega | (refine And.intro ?_ ?_ <;> omega)))) | (intro _ _; (first | (first | exact hB | exact chainI hB | exact hS | exact chainI hS | assumption) | decide | omega | (refine And.intro ?_ ?_ <;> first | omega | (simp; omega)) | (simp only [IntKind.wrap_i64]; first | omega | (refine And.intro ?_ ?_ <;> omega)))) | (first | decide | omega | (refine And.intro ?_ ?_ <;> first | omega | (simp; omega)) | (simp only [IntKind.wrap_i64]; first | omega | (refine And.intro ?_ ?_ <;> omega))) | ((conv => whnf); intros; (try simp only [decide_eq_true_eq, decide_eq_false_iff_not, Bool.and_eq_true, Bool.or_eq_true, Bool.and_eq_false_imp, Bool.or_eq_false_iff, Bool.not_eq_true', Bool.not_eq_false', beq_iff_eq, bne_iff_ne, ne_eq] at *); (first | (first | exact hB | exact chainI hB | exact hS | exact chainI hS | assumption) | decide | omega | (refine And.intro ?_ ?_ <;> first | omega | (simp; omega)) | (simp only [IntKind.wrap_i64]; first | omega | (refine And.intro ?_ ?_ <;> omega)))))); conv => whnf) | (refine And.intro ?_ ?_; (focus (first | exact NoTag.int | exact NoTag.bool | exact NoTag.str | (refine NoTag.of_scalar ?_; rfl))); conv => whnf) | ((rw [arrA_cutZ]; rotate_left; exact rfl; exact rfl; (focus (first | omega | (simp only [IntKind.wrap_i64]; omega)))); conv => whnf) | ((rw [arrA_layX]; rotate_left; exact rfl; exact rfl; (focus (first | omega | (simp only [IntKind.wrap_i64]; omega)))); conv => whnf) | ((rw [arrC_cutZ]; rotate_left; exact rfl; exact rfl; (focus (first | omega | (simp only [IntKind.wrap_i64]; omega)))); conv => whnf) | ((rw [arrA_cutN]; rotate_left; exact rfl); conv => whnf) | ((rw [arrC_cutN]; rotate_left; exact rfl); conv => whnf) | (rw [arrA_len]; conv => whnf) | ((rw [layA_allN]; rotate_left; (focus (first | exact rfl | exact arrA_len _ _))); conv => whnf) | (rw [toCs_arr]; conv => whnf) | ((rw [mkA_arr]; rotate_left; exact rfl); conv => whnf) | ((rw [mkC_arr]; rotate_left; exact rfl); conv => whnf))
  refine leB ?_
  rw [shr6, and63 _ (by omega), u_shr _ _ (by omega), u_one, u_and]
  rw [show (0 + ((i / 64 : Nat) : Int).toNat) = i / 64 by omega, show (1 : BitVec 64) = 1#64 from rfl, wd_has]
  cases S i
  · rw [Bool.eq_false_iff]
    intro h
    have := u_inj (eq_of_beq h)
    exact absurd this (by decide)
  · simp
theorem aWith (S : Nat → Bool) (i : Nat) (hi : i < 128) : ACall Try.prog gl 11 [.ag (setC S), intA .i64 i] [] (.ag (setC (fun j => S j || j == i))) := by
  have hB : (0 : Int) ≤ shrI .i64 (i : Int) 6 ∧ shrI .i64 (i : Int) 6 < 2 := by rw [shr6]; omega
  have hS : (0 : Int) ≤ bitsI .and .u64 (IntKind.u64.wrap (i : Int)) 63 := by rw [and63 _ (by omega)]; omega
  refine acall_of_vc htb hmix (f := 11) rfl rfl rfl (by kernel_rfl) rfl rfl ?_; conv => whnf
  repeat' (first | (refine And.intro (fun h => ?_) (fun h => ?_) <;> (first | (with_reducible have hd : _ < _ := of_decide_eq_true h) | (with_reducible have hd : _ ≤ _ := of_decide_eq_true h) | (with_reducible have hd : ¬ (_ < _) := of_decide_eq_false h) | (with_reducible have hd : ¬ (_ ≤ _) := of_decide_eq_false h) | skip) <;> conv => whnf) | ((with_reducible refine Both.mk ?_ ?_) <;> conv => whnf) | ((with_reducible refine DOr.l ?_); (conv => whnf)) | ((with_reducible refine OwnOr.l ?_); (conv => whnf)) | (refine And.intro ?_ ?_; (focus (first | exact trivial | exact rfl | (first | exact hB | exact chainI hB | exact hS | exact chainI hS | assumption) | (refine chainI ?_; (first | (first | exact hB | exact chainI hB | exact hS | exact chainI hS | assumption) | decide | omega | (refine And.intro ?_ ?_ <;> first | omega | (simp; omega)) | (simp only [IntKind.wrap_i64]; first | omega | (refine And.intro ?_ ?_ <;> omega)))) | (intro _; (first | (first | exact hB | exact chainI hB | exact hS | exact chainI hS | assumption) | decide | omega | (refine And.intro ?_ ?_ <;> first | omega | (simp; omega)) | (simp only [IntKind.wrap_i64]; first | omega | (refine And.intro ?_ ?_ <;> omega)))) | (intro _ _; (first | (first | exact hB | exact chainI hB | exact hS | exact chainI hS | assumption) | decide | omega | (refine And.intro ?_ ?_ <;> first | omega | (simp; omega)) | (simp only [IntKind.wrap_i64]; first | omega | (refine And.intro ?_ ?_ <;> omega)))) | (first | decide | omega | (refine And.intro ?_ ?_ <;> first | omega | (simp; omega)) | (simp only [IntKind.wrap_i64]; first | omega | (refine And.intro ?_ ?_ <;> omega))) | ((conv => whnf); intros; (try simp only [decide_eq_true_eq, decide_eq_false_iff_not, Bool.and_eq_true, Bool.or_eq_true, Bool.and_eq_false_imp, Bool.or_eq_false_iff, Bool.not_eq_true', Bool.not_eq_false', beq_iff_eq, bne_iff_ne, ne_eq] at *); (first | (first | exact hB | exact chainI hB | exact hS | exact chainI hS | assumption) | decide | omega | (refine And.intro ?_ ?_ <;> first | omega | (simp; omega)) | (simp only [IntKind.wrap_i64]; first | omega | (refine And.intro ?_ ?_ <;> omega)))))); conv => whnf) | (refine And.intro ?_ ?_; (focus (first | exact NoTag.int | exact NoTag.bool | exact NoTag.str | (refine NoTag.of_scalar ?_; rfl))); conv => whnf) | ((rw [arrA_cutZ]; rotate_left; exact rfl; exact rfl; (focus (first | omega | (simp only [IntKind.wrap_i64]; omega)))); conv => whnf) | ((rw [arrA_layX]; rotate_left; exact rfl; exact rfl; (focus (first | omega | (simp only [IntKind.wrap_i64]; omega)))); conv => whnf) | ((rw [arrC_cutZ]; rotate_left; exact rfl; exact rfl; (focus (first | omega | (simp only [IntKind.wrap_i64]; omega)))); conv => whnf) | ((rw [arrA_cutN]; rotate_left; exact rfl); conv => whnf) | ((rw [arrC_cutN]; rotate_left; exact rfl); conv => whnf) | (rw [arrA_len]; conv => whnf) | ((rw [layA_allN]; rotate_left; (focus (first | exact rfl | exact arrA_len _ _))); conv => whnf) | (rw [toCs_arr]; conv => whnf) | ((rw [mkA_arr]; rotate_left; exact rfl); conv => whnf) | ((rw [mkC_arr]; rotate_left; exact rfl); conv => whnf))
  refine Le.of_eq (congrArg AV.ag (arrC_congr fun k hk => ?_))
  rw [shr6, and63 _ (by omega), u_one, u_shl _ _ (by omega), u_or]
  rw [show (0 + ((i / 64 : Nat) : Int).toNat) = i / 64 by omega]
  unfold updC
  by_cases h : k = i / 64
  · rw [if_pos h, h, show (1 : BitVec 64) = 1#64 from rfl, wd_single]
  · rw [if_neg h]
    have e := wd_congr (k := k) (S := S) (T := fun j => S j || j == i) fun j hj => by
      have : (64 * k + j == i) = false := by simp; omega
      rw [this]; simp
    exact congrArg (fun z => C.v (.int .u64 (uI z))) e
theorem aLen (t u v : Bool) (n m : Nat) (f g : Nat → List C) : ACall Try.prog gl 12 [.sp t [.sl u 2 n f, .sl v 2 m g] 0] [] (intA .i64 n) := by
  refine acall_of_vc htb hmix (f := 12) rfl rfl rfl (by kernel_rfl) rfl rfl ?_; conv => whnf
  repeat' (first | (refine And.intro (fun h => ?_) (fun h => ?_) <;> (first | (with_reducible have hd : _ < _ := of_decide_eq_true h) | (with_reducible have hd : _ ≤ _ := of_decide_eq_true h) | (with_reducible have hd : ¬ (_ < _) := of_decide_eq_false h) | (with_reducible have hd : ¬ (_ ≤ _) := of_decide_eq_false h) | skip) <;> conv => whnf) | ((with_reducible refine Both.mk ?_ ?_) <;> conv => whnf) | ((with_reducible refine DOr.l ?_); (conv => whnf)) | ((with_reducible refine OwnOr.l ?_); (conv => whnf)) | (refine And.intro ?_ ?_; (focus (first | exact trivial | exact rfl | (first | exact hB | exact chainI hB | exact hS | exact chainI hS | assumption) | (refine chainI ?_; (first | (first | exact hB | exact chainI hB | exact hS | exact chainI hS | assumption) | decide | omega | (refine And.intro ?_ ?_ <;> first | omega | (simp; omega)) | (simp only [IntKind.wrap_i64]; first | omega | (refine And.intro ?_ ?_ <;> omega)))) | (intro _; (first | (first | exact hB | exact chainI hB | exact hS | exact chainI hS | assumption) | decide | omega | (refine And.intro ?_ ?_ <;> first | omega | (simp; omega)) | (simp only [IntKind.wrap_i64]; first | omega | (refine And.intro ?_ ?_ <;> omega)))) | (intro _ _; (first | (first | exact hB | exact chainI hB | exact hS | exact chainI hS | assumption) | decide | omega | (refine And.intro ?_ ?_ <;> first | omega | (simp; omega)) | (simp only [IntKind.wrap_i64]; first | omega | (refine And.intro ?_ ?_ <;> omega)))) | (first | decide | omega | (refine And.intro ?_ ?_ <;> first | omega | (simp; omega)) | (simp only [IntKind.wrap_i64]; first | omega | (refine And.intro ?_ ?_ <;> omega))) | ((conv => whnf); intros; (try simp only [decide_eq_true_eq, decide_eq_false_iff_not, Bool.and_eq_true, Bool.or_eq_true, Bool.and_eq_false_imp, Bool.or_eq_false_iff, Bool.not_eq_true', Bool.not_eq_false', beq_iff_eq, bne_iff_ne, ne_eq] at *); (first | (first | exact hB | exact chainI hB | exact hS | exact chainI hS | assumption) | decide | omega | (refine And.intro ?_ ?_ <;> first | omega | (simp; omega)) | (simp only [IntKind.wrap_i64]; first | omega | (refine And.intro ?_ ?_ <;> omega)))))); conv => whnf) | (refine And.intro ?_ ?_; (focus (first | exact NoTag.int | exact NoTag.bool | exact NoTag.str | (refine NoTag.of_scalar ?_; rfl))); conv => whnf))
  · exact absurd h (by decide)
  · exact Le.refl _
end Go.Proofs.Ytbddpnohacjjfaa

namespace Go.Proofs.Ytbddpnohacjjfaa
set_option linter.unusedSimpArgs false
set_option linter.unusedVariables false
set_option maxRecDepth 100000
set_option maxHeartbeats 8000000
open Go Go.VA
theorem arrC_cutY {g : Nat → C} {n z s m : Nat} (hm : m = 1) (hs : s = 1) (h : z < n) : cut (arrC g n) (z * s) m = some [g z] := by
  subst hm; subst hs; rw [Nat.mul_one]; exact arrC_cut1 g n _ h
def subB (S T : Nat → Bool) : Bool := (List.range 128).all fun j => !S j || T j
theorem subB_iff {S T : Nat → Bool} : subB S T = true ↔ ∀ j, j < 128 → S j = true → T j = true := by
  unfold subB
  rw [List.all_eq_true]
  constructor
  · intro h j hj hs
    have := h j (List.mem_range.2 hj)
    rw [hs] at this; simpa using this
  · intro h j hj
    have := h j (List.mem_range.1 hj)
    cases hs : S j
    · rfl
    · rw [this hs]; rfl
theorem sub_word (S T : Nat → Bool) (k : Nat) : (bitsI .andNot .u64 (uI (wd S k)) (uI (wd T k)) != 0) = false ↔ ∀ j, j < 64 → S (64 * k + j) = true → T (64 * k + j) = true := by
  rw [u_andNot, wd_sub, bne_eq_false_iff_eq]
  constructor
  · intro h j hj hs
    have h2 := (wd_zero _ _).1 (u_inj (h.trans u_zero)) j hj
    rw [hs] at h2; simpa using h2
  · intro h
    refine Eq.trans (congrArg uI ((wd_zero _ _).2 fun j hj => ?_)) u_zero.symm
    cases hs : S (64 * k + j)
    · rfl
    · rw [h j hj hs]; rfl
theorem aWithin (S T : Nat → Bool) : ACall Try.prog gl 14 [.ag (setC S), .ag (setC T)] [] (boolA (subB S T)) := by
  refine acall_of_vc htb hmix (f := 14) rfl rfl rfl (by kernel_rfl) rfl rfl ?_; conv => whnf
  repeat' (first | (refine And.intro (fun h => ?_) (fun h => ?_) <;> (first | (with_reducible have hd : _ < _ := of_decide_eq_true h) | (with_reducible have hd : _ ≤ _ := of_decide_eq_true h) | (with_reducible have hd : ¬ (_ < _) := of_decide_eq_false h) | (with_reducible have hd : ¬ (_ ≤ _) := of_decide_eq_false h) | skip) <;> conv => whnf) | ((with_reducible refine Both.mk ?_ ?_) <;> conv => whnf) | ((with_reducible refine DOr.l ?_); (conv => whnf)) | ((with_reducible refine OwnOr.l ?_); (conv => whnf)) | (refine And.intro ?_ ?_; (focus (first | exact trivial | exact rfl | (first | exact hB | exact chainI hB | exact hS | exact chainI hS | assumption) | (refine chainI ?_; (first | (first | exact hB | exact chainI hB | exact hS | exact chainI hS | assumption) | decide | omega | (refine And.intro ?_ ?_ <;> first | omega | (simp; omega)) | (simp only [IntKind.wrap_i64]; first | omega | (refine And.intro ?_ ?_ <;> omega)))) | (intro _; (first | (first | exact hB | exact chainI hB | exact hS | exact chainI hS | assumption) | decide | omega | (refine And.intro ?_ ?_ <;> first | omega | (simp; omega)) | (simp only [IntKind.wrap_i64]; first | omega | (refine And.intro ?_ ?_ <;> omega)))) | (intro _ _; (first | (first | exact hB | exact chainI hB | exact hS | exact chainI hS | assumption) | decide | omega | (refine And.intro ?_ ?_ <;> first | omega | (simp; omega)) | (simp only [IntKind.wrap_i64]; first | omega | (refine And.intro ?_ ?_ <;> omega)))) | (first | decide | omega | (refine And.intro ?_ ?_ <;> first | omega | (simp; omega)) | (simp only [IntKind.wrap_i64]; first | omega | (refine And.intro ?_ ?_ <;> omega))) | ((conv => whnf); intros; (try simp only [decide_eq_true_eq, decide_eq_false_iff_not, Bool.and_eq_true, Bool.or_eq_true, Bool.and_eq_false_imp, Bool.or_eq_false_iff, Bool.not_eq_true', Bool.not_eq_false', beq_iff_eq, bne_iff_ne, ne_eq] at *); (first | (first | exact hB | exact chainI hB | exact hS | exact chainI hS | assumption) | decide | omega | (refine And.intro ?_ ?_ <;> first | omega | (simp; omega)) | (simp only [IntKind.wrap_i64]; first | omega | (refine And.intro ?_ ?_ <;> omega)))))); conv => whnf) | (refine And.intro ?_ ?_; (focus (first | exact NoTag.int | exact NoTag.bool | exact NoTag.str | (refine NoTag.of_scalar ?_; rfl))); conv => whnf) | ((rw [arrC_cutY]; rotate_left; exact rfl; exact rfl; (focus (first | omega | (simp only [IntKind.wrap_i64]; omega)))); conv => whnf) | ((rw [arrA_cutZ]; rotate_left; exact rfl; exact rfl; (focus (first | omega | (simp only [IntKind.wrap_i64]; omega)))); conv => whnf) | ((rw [arrA_layX]; rotate_left; exact rfl; exact rfl; (focus (first | omega | (simp only [IntKind.wrap_i64]; omega)))); conv => whnf) | ((rw [arrC_cutZ]; rotate_left; exact rfl; exact rfl; (focus (first | omega | (simp only [IntKind.wrap_i64]; omega)))); conv => whnf) | ((rw [arrA_cutN]; rotate_left; exact rfl); conv => whnf) | ((rw [arrC_cutN]; rotate_left; exact rfl); conv => whnf) | (rw [arrA_len]; conv => whnf) | ((rw [layA_allN]; rotate_left; (focus (first | exact rfl | exact arrA_len _ _))); conv => whnf) | (rw [toCs_arr]; conv => whnf) | ((rw [mkA_arr]; rotate_left; exact rfl); conv => whnf) | ((rw [mkC_arr]; rotate_left; exact rfl); conv => whnf))
  refine loopI Nat (fun c => c ≤ 2 ∧ ∀ j, j < 64 * c → S j = true → T j = true) (fun c => [(8, intA .i64 c)]) (fun c => [.box (List.map AV.c (setC S)), .box (List.map AV.c (setC T))]) (fun c => 2 - c) 0 ⟨by omega, fun j hj => by omega⟩ ?_ (fun _ => rfl) fun c ⟨hc, hp⟩ => ?_
  · (refine And.intro ?_ (And.intro ?_ (And.intro ?_ rfl)) <;> (conv => whnf) <;> repeat' (first | exact trivial | exact LeE.of (Le.refl _) | exact LeE.nil rfl | (with_reducible refine LeE.of ?_) | (first | first | exact LeAs_c _ _ _ | exact leI e | exact eo | exact Le.refl _ | exact rfl | exact leI (by first | rfl | omega | (rw [wrap64 (by omega) (by omega)]; omega) | (rw [wrap64 (by omega) (by omega)]; done)) | exact LeCs.refl _ | exact fun i hi => LeCs.refl _ | exact leOwn (by first | rfl | omega)) | ((with_reducible refine And.intro ?_ ?_) <;> conv => whnf)))
  · rcases Nat.lt_or_ge c 2 with hcl | hcl
    · have hB : (0 : Int) ≤ (c : Int) ∧ (c : Int) < 2 := by omega
      have ec : 0 + (c : Int).toNat = c := by omega
      have ec2 : (c : Int).toNat = c := by omega
      conv => whnf
      repeat' (first | (refine And.intro (fun h => ?_) (fun h => ?_) <;> (first | (with_reducible have hd : _ < _ := of_decide_eq_true h) | (with_reducible have hd : _ ≤ _ := of_decide_eq_true h) | (with_reducible have hd : ¬ (_ < _) := of_decide_eq_false h) | (with_reducible have hd : ¬ (_ ≤ _) := of_decide_eq_false h) | skip) <;> conv => whnf) | ((with_reducible refine Both.mk ?_ ?_) <;> conv => whnf) | ((with_reducible refine DOr.l ?_); (conv => whnf)) | ((with_reducible refine OwnOr.l ?_); (conv => whnf)) | (refine And.intro ?_ ?_; (focus (first | exact trivial | exact rfl | (first | exact hB | exact chainI hB | exact hS | exact chainI hS | assumption) | (refine chainI ?_; (first | (first | exact hB | exact chainI hB | exact hS | exact chainI hS | assumption) | decide | omega | (refine And.intro ?_ ?_ <;> first | omega | (simp; omega)) | (simp only [IntKind.wrap_i64]; first | omega | (refine And.intro ?_ ?_ <;> omega)))) | (intro _; (first | (first | exact hB | exact chainI hB | exact hS | exact chainI hS | assumption) | decide | omega | (refine And.intro ?_ ?_ <;> first | omega | (simp; omega)) | (simp only [IntKind.wrap_i64]; first | omega | (refine And.intro ?_ ?_ <;> omega)))) | (intro _ _; (first | (first | exact hB | exact chainI hB | exact hS | exact chainI hS | assumption) | decide | omega | (refine And.intro ?_ ?_ <;> first | omega | (simp; omega)) | (simp only [IntKind.wrap_i64]; first | omega | (refine And.intro ?_ ?_ <;> omega)))) | (first | decide | omega | (refine And.intro ?_ ?_ <;> first | omega | (simp; omega)) | (simp only [IntKind.wrap_i64]; first | omega | (refine And.intro ?_ ?_ <;> omega))) | ((conv => whnf); intros; (try simp only [decide_eq_true_eq, decide_eq_false_iff_not, Bool.and_eq_true, Bool.or_eq_true, Bool.and_eq_false_imp, Bool.or_eq_false_iff, Bool.not_eq_true', Bool.not_eq_false', beq_iff_eq, bne_iff_ne, ne_eq] at *); (first | (first | exact hB | exact chainI hB | exact hS | exact chainI hS | assumption) | decide | omega | (refine And.intro ?_ ?_ <;> first | omega | (simp; omega)) | (simp only [IntKind.wrap_i64]; first | omega | (refine And.intro ?_ ?_ <;> omega)))))); conv => whnf) | (refine And.intro ?_ ?_; (focus (first | exact NoTag.int | exact NoTag.bool | exact NoTag.str | (refine NoTag.of_scalar ?_; rfl))); conv => whnf) | ((rw [arrC_cutY]; rotate_left; exact rfl; exact rfl; (focus (first | omega | (simp only [IntKind.wrap_i64]; omega)))); conv => whnf) | ((rw [arrA_cutZ]; rotate_left; exact rfl; exact rfl; (focus (first | omega | (simp only [IntKind.wrap_i64]; omega)))); conv => whnf) | ((rw [arrA_layX]; rotate_left; exact rfl; exact rfl; (focus (first | omega | (simp only [IntKind.wrap_i64]; omega)))); conv => whnf) | ((rw [arrC_cutZ]; rotate_left; exact rfl; exact rfl; (focus (first | omega | (simp only [IntKind.wrap_i64]; omega)))); conv => whnf) | ((rw [arrA_cutN]; rotate_left; exact rfl); conv => whnf) | ((rw [arrC_cutN]; rotate_left; exact rfl); conv => whnf) | (rw [arrA_len]; conv => whnf) | ((rw [layA_allN]; rotate_left; (focus (first | exact rfl | exact arrA_len _ _))); conv => whnf) | (rw [toCs_arr]; conv => whnf) | ((rw [mkA_arr]; rotate_left; exact rfl); conv => whnf) | ((rw [mkC_arr]; rotate_left; exact rfl); conv => whnf))
      · rw [ec, ec2] at h
        refine leB ?_
        rw [eq_comm, Bool.eq_false_iff]
        intro hs
        rw [subB_iff] at hs
        rw [(sub_word S T c).2 fun j hj => hs _ (by omega)] at h
        cases h
      · rw [ec, ec2] at h
        refine ⟨c + 1, ⟨hcl, fun j hj hs => ?_⟩, ?_, by show 2 - (c + 1) < 2 - c; omega⟩
        · by_cases h2 : j < 64 * c
          · exact hp j h2 hs
          · have := (sub_word S T c).1 h (j - 64 * c) (by omega)
            rw [show 64 * c + (j - 64 * c) = j by omega] at this
            exact this hs
        · (refine And.intro ?_ (And.intro ?_ (And.intro ?_ rfl)) <;> (conv => whnf) <;> repeat' (first | exact trivial | exact LeE.of (Le.refl _) | exact LeE.nil rfl | (with_reducible refine LeE.of ?_) | (first | first | exact LeAs_c _ _ _ | exact leI e | exact eo | exact Le.refl _ | exact rfl | exact leI (by first | rfl | omega | (rw [wrap64 (by omega) (by omega)]; omega) | (rw [wrap64 (by omega) (by omega)]; done)) | exact LeCs.refl _ | exact fun i hi => LeCs.refl _ | exact leOwn (by first | rfl | omega)) | ((with_reducible refine And.intro ?_ ?_) <;> conv => whnf)))
      · exact absurd hB.2 hd
    · obtain rfl : c = 2 := by omega
      conv => whnf
      repeat' (first | (refine And.intro (fun h => ?_) (fun h => ?_) <;> (first | (with_reducible have hd : _ < _ := of_decide_eq_true h) | (with_reducible have hd : _ ≤ _ := of_decide_eq_true h) | (with_reducible have hd : ¬ (_ < _) := of_decide_eq_false h) | (with_reducible have hd : ¬ (_ ≤ _) := of_decide_eq_false h) | skip) <;> conv => whnf) | ((with_reducible refine Both.mk ?_ ?_) <;> conv => whnf) | ((with_reducible refine DOr.l ?_); (conv => whnf)) | ((with_reducible refine OwnOr.l ?_); (conv => whnf)) | (refine And.intro ?_ ?_; (focus (first | exact trivial | exact rfl | (first | exact hB | exact chainI hB | exact hS | exact chainI hS | assumption) | (refine chainI ?_; (first | (first | exact hB | exact chainI hB | exact hS | exact chainI hS | assumption) | decide | omega | (refine And.intro ?_ ?_ <;> first | omega | (simp; omega)) | (simp only [IntKind.wrap_i64]; first | omega | (refine And.intro ?_ ?_ <;> omega)))) | (intro _; (first | (first | exact hB | exact chainI hB | exact hS | exact chainI hS | assumption) | decide | omega | (refine And.intro ?_ ?_ <;> first | omega | (simp; omega)) | (simp only [IntKind.wrap_i64]; first | omega | (refine And.intro ?_ ?_ <;> omega)))) | (intro _ _; (first | (first | exact hB | exact chainI hB | exact hS | exact chainI hS | assumption) | decide | omega | (refine And.intro ?_ ?_ <;> first | omega | (simp; omega)) | (simp only [IntKind.wrap_i64]; first | omega | (refine And.intro ?_ ?_ <;> omega)))) | (first | decide | omega | (refine And.intro ?_ ?_ <;> first | omega | (simp; omega)) | (simp only [IntKind.wrap_i64]; first | omega | (refine And.intro ?_ ?_ <;> omega))) | ((conv => whnf); intros; (try simp only [decide_eq_true_eq, decide_eq_false_iff_not, Bool.and_eq_true, Bool.or_eq_true, Bool.and_eq_false_imp, Bool.or_eq_false_iff, Bool.not_eq_true', Bool.not_eq_false', beq_iff_eq, bne_iff_ne, ne_eq] at *); (first | (first | exact hB | exact chainI hB | exact hS | exact chainI hS | assumption) | decide | omega | (refine And.intro ?_ ?_ <;> first | omega | (simp; omega)) | (simp only [IntKind.wrap_i64]; first | omega | (refine And.intro ?_ ?_ <;> omega)))))); conv => whnf) | (refine And.intro ?_ ?_; (focus (first | exact NoTag.int | exact NoTag.bool | exact NoTag.str | (refine NoTag.of_scalar ?_; rfl))); conv => whnf))
      · exact absurd hd (by decide)
      · exact leB (subB_iff.2 hp).symm
end Go.Proofs.Ytbddpnohacjjfaa
