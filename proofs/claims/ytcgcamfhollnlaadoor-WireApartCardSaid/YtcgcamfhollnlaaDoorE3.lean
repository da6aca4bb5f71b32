/- Contracts of functions of the program, and the laws that stand on them: what each function answers, whatever its arguments. -/
import Derived.Test.YtcgcamfhollnlaaDoorA2
import Derived.Test.YtcgcamfhollnlaaDoorC19
import Derived.Test.YtcgcamfhollnlaaDoorC10
import Derived.Test.YtcgcamfhollnlaaDoorC11
import Derived.Test.YtcgcamfhollnlaaDoorE1
set_option linter.unusedSectionVars false
set_option linter.unnecessarySimpa false
namespace Go.Proofs.YtcgcamfhollnlaaDoor
set_option linter.unusedSimpArgs false
set_option linter.unusedVariables false
set_option maxRecDepth 100000
set_option maxHeartbeats 8000000
open Go Go.VA
def fmRp (r : Rp) : List Int := IntKind.u8.wrap r.e :: layL r.v
theorem okRp_parts {r : Rp} (h : okRp r = true) : 0 ≤ r.e ∧ r.e ≤ 255 ∧ checkV r.v = 0 := by
  unfold okRp at h
  simp only [Bool.and_eq_true, decide_eq_true_eq] at h
  refine ⟨h.1.1, h.1.2, ?_⟩
  rw [checkV_if, h.2]; rfl
theorem gPutRp (t : Bool) (n : Nat) (f : Nat → List C) (r : Rp) (hf : ∀ i, i < n → NtCs (f i)) (hn : n ≤ 1000000) (ho : okRp r = true) :
    GCall Tryd.prog gl 19 [] [.c (.sl t 1 n f), .ag (cRp r)] [.row 1 (n + (fmRp r).length) (catF 0 n f (rB (fmRp r)))] [.own 0 1 0 (n + (fmRp r).length)] := by
  have CK := aCheckRp r
  rw [ho] at CK
  have hc := (okRp_parts ho).2.2
  have hb := check_big hc
  have CL := gClone t n f
  have nt1 : ∀ i, i < n + 1 → NtCs (catF 0 n f (nthC [cBy (IntKind.u8.wrap r.e)]) i) := ntCatG hf (ntOne _)
  have P := fun t'' => gPut r.v false false t'' (n + 1) (fun i => catF 0 n f (nthC [cBy (IntKind.u8.wrap r.e)]) (0 + i)) (ntShift nt1) (fun _ => hb.2) (by omega)
  have B1 : (n + 1) * (tb 5).bytes ≤ 140737488355328 := by show (n + 1) * 1 ≤ _; omega
  have e : putLn r.v = layL r.v := by unfold putLn; rw [hc]; rfl
  rw [e] at P
  refine gcall_of_vcb htb hmix (f := 19) rfl rfl rfl (by kernel_rfl) rfl rfl rfl fun hb hb2 => ?_; simp only [bndOs, bndO, gbnds, AV.gbnd, bnds, C.bnd, true_and, and_true] at hb hb2; conv => whnf
  repeat' (first | (refine Exists.intro _ (And.intro (chainI (CK)) ?_); conv => whnf) | (refine Exists.intro _ (And.intro (CK) ?_); conv => whnf) | ((with_reducible refine GOr.l ?_); (conv => whnf); refine Exists.intro _ (And.intro (chainI (CK)) ?_); conv => whnf) | (refine And.intro (fun h => ?_) (fun h => ?_) <;> (first | (with_reducible have hd : _ < _ := of_decide_eq_true h) | (with_reducible have hd : _ ≤ _ := of_decide_eq_true h) | (with_reducible have hd : ¬ (_ < _) := of_decide_eq_false h) | (with_reducible have hd : ¬ (_ ≤ _) := of_decide_eq_false h) | skip) <;> (first | exact absurd h (by decide) | omega | (conv => whnf))) | ((with_reducible refine Both.mk ?_ ?_) <;> conv => whnf) | ((with_reducible refine DOg.l ?_); (conv => whnf)) | ((with_reducible refine DOr.l ?_); (conv => whnf)) | ((with_reducible refine OwnOr.l ?_); (conv => whnf)) | ((with_reducible apply Drawn.one); conv => whnf) | ((with_reducible refine Then.mk' ?_); conv => whnf) | (first | exact RefS.self rfl | ((with_reducible refine RefS.mk ?_ ?_); (focus (refine And.intro ?_ (And.intro ?_ (And.intro ?_ rfl)) <;> (conv => whnf) <;> repeat' (first | exact trivial | exact LeE.of (Le.refl _) | exact LeE.nil rfl | (with_reducible refine LeE.of ?_) | (first | fail | exact Le.refl _ | exact rfl | exact leI (by first | rfl | omega | (rw [wrap64 (by omega) (by omega)]; omega) | (rw [wrap64 (by omega) (by omega)]; done)) | exact LeCs.refl _ | exact fun i hi => LeCs.refl _ | exact leOwn (by first | rfl | omega)) | ((with_reducible refine And.intro ?_ ?_) <;> conv => whnf)))); exact rfl)) | (refine And.intro ?_ ?_; (focus (first | exact trivial | exact rfl | (first | exact seT | exact u64nn _ | exact hB | exact B1 | assumption) | (refine chainI ?_; (first | (first | exact seT | exact u64nn _ | exact hB | exact B1 | assumption) | decide | omega | (refine And.intro ?_ ?_ <;> first | omega | (simp; omega)) | (simp only [IntKind.wrap_i64]; first | omega | (refine And.intro ?_ ?_ <;> omega)))) | (intro _; (first | (first | exact seT | exact u64nn _ | exact hB | exact B1 | assumption) | decide | omega | (refine And.intro ?_ ?_ <;> first | omega | (simp; omega)) | (simp only [IntKind.wrap_i64]; first | omega | (refine And.intro ?_ ?_ <;> omega)))) | (intro _ _; (first | (first | exact seT | exact u64nn _ | exact hB | exact B1 | assumption) | decide | omega | (refine And.intro ?_ ?_ <;> first | omega | (simp; omega)) | (simp only [IntKind.wrap_i64]; first | omega | (refine And.intro ?_ ?_ <;> omega)))) | (first | decide | omega | (refine And.intro ?_ ?_ <;> first | omega | (simp; omega)) | (simp only [IntKind.wrap_i64]; first | omega | (refine And.intro ?_ ?_ <;> omega))) | ((conv => whnf); intros; (try simp only [decide_eq_true_eq, decide_eq_false_iff_not, Bool.and_eq_true, Bool.or_eq_true, Bool.and_eq_false_imp, Bool.or_eq_false_iff, Bool.not_eq_true', Bool.not_eq_false', beq_iff_eq, bne_iff_ne, ne_eq] at *); (first | (first | exact seT | exact u64nn _ | exact hB | exact B1 | assumption) | decide | omega | (refine And.intro ?_ ?_ <;> first | omega | (simp; omega)) | (simp only [IntKind.wrap_i64]; first | omega | (refine And.intro ?_ ?_ <;> omega)))))); conv => whnf) | (refine And.intro ?_ ?_; (focus (first | exact NoTag.int | exact NoTag.bool | exact NoTag.str | (refine NoTag.of_scalar ?_; rfl))); conv => whnf) | ((with_reducible refine xc_guard ?_); (first | (refine xc_g (CL) false (by first | (((conv => whnf); repeat' (first | exact trivial | exact rfl | exact LeC.refl _ | exact LeC.nil rfl | exact LeC.emp rfl | exact LeCs.refl _ | exact (fun i hi => LeCs.refl _) | fail | ((with_reducible refine And.intro ?_ ?_) <;> conv => whnf))); done) | fail) trivial ?_) | (refine xc_g (CL) true (by first | (((conv => whnf); repeat' (first | exact trivial | exact rfl | exact LeC.refl _ | exact LeC.nil rfl | exact LeC.emp rfl | exact LeCs.refl _ | exact (fun i hi => LeCs.refl _) | fail | ((with_reducible refine And.intro ?_ ?_) <;> conv => whnf))); done) | fail) (by first | (((conv => whnf); repeat' (first | exact trivial | exact rfl | (first | exact hf | exact nt1 | exact ntShift nt1 | exact ntCatG (ntShift nt1) (ntB _ _) | exact ntCatG nt1 (ntB _ _) | exact fun i hi => absurd hi (Nat.not_lt_zero _)) | (intro i hi; exact ⟨trivial, trivial⟩) | ((with_reducible refine And.intro ?_ ?_) <;> conv => whnf))); done) | fail) ?_)); conv => whnf) | ((with_reducible refine xc_guard ?_); (first | (refine xc_g (P _) false (by first | (((conv => whnf); repeat' (first | exact trivial | exact rfl | exact LeC.refl _ | exact LeC.nil rfl | exact LeC.emp rfl | exact LeCs.refl _ | exact (fun i hi => LeCs.refl _) | fail | ((with_reducible refine And.intro ?_ ?_) <;> conv => whnf))); done) | fail) trivial ?_) | (refine xc_g (P _) true (by first | (((conv => whnf); repeat' (first | exact trivial | exact rfl | exact LeC.refl _ | exact LeC.nil rfl | exact LeC.emp rfl | exact LeCs.refl _ | exact (fun i hi => LeCs.refl _) | fail | ((with_reducible refine And.intro ?_ ?_) <;> conv => whnf))); done) | fail) (by first | (((conv => whnf); repeat' (first | exact trivial | exact rfl | (first | exact hf | exact nt1 | exact ntShift nt1 | exact ntCatG (ntShift nt1) (ntB _ _) | exact ntCatG nt1 (ntB _ _) | exact fun i hi => absurd hi (Nat.not_lt_zero _)) | (intro i hi; exact ⟨trivial, trivial⟩) | ((with_reducible refine And.intro ?_ ?_) <;> conv => whnf))); done) | fail) ?_)); conv => whnf) | ((with_reducible refine GOr.r ?_); conv => whnf) | ((with_reducible refine xc_pure ?_); conv => whnf))
  all_goals (try ((conv => whnf); repeat' (first | exact trivial | exact rfl | exact LeC.refl _ | exact LeC.nil rfl | exact LeC.emp rfl | exact LeCs.refl _ | exact (fun i hi => LeCs.refl _) | ((with_reducible refine And.intro ?_ ?_) <;> conv => whnf))))
  all_goals first
    | (show n + 1 + (layL r.v).length = n + ((layL r.v).length + 1); omega)
    | exact fun i hi => LeCs.of_eq (leafB _ _ i (by have : i < n + ((layL r.v).length + 1) := hi; omega))
theorem subZ (s : ByteArray) (a n : Nat) : (subS s a n).size = n := by
  show (bytesOf n _).data.size = n
  simp [bytesOf]
theorem subC (s : ByteArray) (a n : Nat) : ∀ i, i < n → strCells (subS s a n) i = strCells s (a + i) := by
  intro i hi
  have h : (subS s a n).data.toList[i]? = some (byteC (strCells s (a + i))) := by
    show ((List.range n).map fun i => byteC (strCells s (a + i)))[i]? = _
    rw [List.getElem?_map, List.getElem?_range hi]; rfl
  show [C.v (.int .u8 ((((subS s a n).data.toList[i]?).getD 0).toNat : Int))] = [C.v (.int .u8 (((s.data.toList[a + i]?).getD 0).toNat : Int))]
  rw [h]
  simp [byteC, strCells]
end Go.Proofs.YtcgcamfhollnlaaDoor
