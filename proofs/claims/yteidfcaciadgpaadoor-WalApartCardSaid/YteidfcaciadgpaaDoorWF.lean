/- Contracts of functions of the program, and the laws that stand on them: what each function answers, whatever its arguments. -/
import Derived.Test.YteidfcaciadgpaaDoorWE
set_option linter.unusedSectionVars false
set_option linter.unnecessarySimpa false
namespace Go.Proofs.YteidfcaciadgpaaDoor
set_option linter.unusedSimpArgs false
set_option linter.unusedVariables false
set_option maxRecDepth 100000
set_option maxHeartbeats 8000000
open Go Go.VA
theorem aPutNil (i : It) (ho : okIt i = true) (h0 : 0 ≤ i.n) : ACall Tryd.prog gl 16 [.c (.v (.slice none 0 0)), .ag (cIt i)] [] (.c (.sl false 1 (fmI i).length (rB (fmI i)))) := by
  have h := ACall.of_gcall (gWPut false 0 (fun _ => []) i (by decide) ho h0)
  have e : (fun j => catF 0 0 (fun _ => []) (rB (fmI i)) (0 + j)) = rB (fmI i) := by funext j; simp [catF]
  rw [e, Nat.zero_add] at h
  refine h.leA fun B S us hu => ?_
  simp only [RelVs] at hu ⊢
  obtain ⟨u, r, e1, h1, h2⟩ := hu
  refine ⟨u, r, e1, ?_, h2⟩
  simp only [RelV, RepC] at h1 ⊢
  exact ⟨none, 0, h1.1, ⟨Nat.le_refl _, by decide⟩, .inl trivial⟩
theorem aPutB (t : Bool) (s : ByteArray) (i : It) (hs : s.size ≤ 140737488354000) (ho : okIt i = true) (h0 : 0 ≤ i.n) : ACall Tryd.prog gl 16 [.c (.sl t 1 s.size (strCells s)), .ag (cIt i)] [] (.c (.sl false 1 (s.size + (fmI i).length) (fun j => catF 0 s.size (strCells s) (rB (fmI i)) (0 + j)))) :=
  ACall.of_gcall (gWPut t s.size (strCells s) i (by omega) ho h0)
theorem fm_at {i : It} (ho : okIt i = true) : AtL (baL (fmI i)) 0 (fmI i) := ⟨by rw [baL_size]; omega, fun j hj => by rw [Nat.zero_add]; exact baL_byte (bys_fm ho) j hj⟩
theorem fm_inj {a b : It} (ha : okIt a = true) (hb : okIt b = true) (ra : RgIt a) (rb : RgIt b) (h : fmI a = fmI b) : a = b := by
  have la := inL_len ha
  have hl := fmI_len a
  have h1 := wG_back (s := baL (fmI a)) (by rw [baL_size]; omega) ha ra (fm_at ha)
  have h2 := wG_back (s := baL (fmI b)) (by rw [baL_size, ← h]; omega) hb rb (fm_at hb)
  rw [← h, h1] at h2
  exact congrArg Prod.fst h2
theorem sameFm {a b : It} (ha : okIt a = true) (hb : okIt b = true) (ra : RgIt a) (rb : RgIt b) : sameF (fmI a).length (fmI b).length (fun i => (fmI a).getD i 0) (fun i => (fmI b).getD i 0) = eqIt a b := by
  rw [Bool.eq_iff_iff, eqIt_iff]
  unfold sameF
  rw [decide_eq_true_eq]
  constructor
  · rintro ⟨h1, h2⟩
    refine fm_inj ha hb ra rb (List.ext_getElem h1 fun i hi hi' => ?_)
    have := h2 i hi
    simpa [List.getD_eq_getElem?_getD, List.getElem?_eq_getElem hi, List.getElem?_eq_getElem hi'] using this
  · rintro rfl
    exact ⟨rfl, fun _ _ => rfl⟩
theorem aGetBack (s : ByteArray) (i : It) (ho : okIt i = true) (rg : RgIt i) : ACall Tryd.prog gl 12 [.c (.sl false 1 (s.size + (fmI i).length - (s.size : Int).toNat) (fun j => catF 0 s.size (strCells s) (rB (fmI i)) (0 + ((s.size : Int).toNat + j))))] [] (.tup [.ag (cIt i), intA .i64 ((fmI i).length : Int), intA .i64 0]) := by
  have hl := inL_len ho
  have e := wG_back (s := baL (fmI i)) (by rw [baL_size, fmI_len]; omega) ho rg (fm_at ho)
  have h := aWGet false (baL (fmI i))
  rw [e, baL_size] at h
  have ef : ((40 : Int) + ((inL i).length : Int)) = ((fmI i).length : Int) := by rw [fmI_len]; push_cast; rfl
  rw [ef] at h
  refine h.le ⟨leSl (by rw [Int.toNat_natCast]; omega) (fun j hj => ?_), trivial⟩
  rw [Int.toNat_natCast]
  unfold catF
  rw [if_neg (by omega)]
  rw [show 0 + (s.size + j) - s.size = j by omega]
  exact rB_str (bys_fm ho) hj
theorem aWalApart (t : Bool) (a b : It) (s : ByteArray) (ra : RgIt a) (rb : RgIt b) : ACall Tryd.prog gl 5 [.ag (cIt a), .ag (cIt b), .c (.sl t 1 s.size (strCells s))] [] (boolA true) := by
  by_cases hp : (greatI a || greatI b || !okIt a || !okIt b || decide ((s.size : Int) > 500)) = true
  · have GA := aGreatI a
    have GB := aGreatI b
    have KA := aCheckIR a ra.y0
    have KB := aCheckIR b rb.y0
    refine acall_of_vc htb hmix (f := 5) rfl rfl rfl (by kernel_rfl) rfl rfl ?_; conv => whnf
    repeat' (first | (refine Exists.intro _ (And.intro (chainI (GA)) ?_); conv => whnf) | (refine Exists.intro _ (And.intro (GA) ?_); conv => whnf) | ((with_reducible refine GOr.l ?_); (conv => whnf); refine Exists.intro _ (And.intro (chainI (GA)) ?_); conv => whnf) | (refine Exists.intro _ (And.intro (chainI (GB)) ?_); conv => whnf) | (refine Exists.intro _ (And.intro (GB) ?_); conv => whnf) | ((with_reducible refine GOr.l ?_); (conv => whnf); refine Exists.intro _ (And.intro (chainI (GB)) ?_); conv => whnf) | (refine Exists.intro _ (And.intro (chainI (KA)) ?_); conv => whnf) | (refine Exists.intro _ (And.intro (KA) ?_); conv => whnf) | ((with_reducible refine GOr.l ?_); (conv => whnf); refine Exists.intro _ (And.intro (chainI (KA)) ?_); conv => whnf) | (refine Exists.intro _ (And.intro (chainI (KB)) ?_); conv => whnf) | (refine Exists.intro _ (And.intro (KB) ?_); conv => whnf) | ((with_reducible refine GOr.l ?_); (conv => whnf); refine Exists.intro _ (And.intro (chainI (KB)) ?_); conv => whnf) | (refine Exists.intro _ (And.intro (chainI (aAwakeW)) ?_); conv => whnf) | (refine Exists.intro _ (And.intro (aAwakeW) ?_); conv => whnf) | ((with_reducible refine GOr.l ?_); (conv => whnf); refine Exists.intro _ (And.intro (chainI (aAwakeW)) ?_); conv => whnf) | (refine And.intro (fun h => ?_) (fun h => ?_) <;> (first | (with_reducible have hd : _ < _ := of_decide_eq_true h) | (with_reducible have hd : _ ≤ _ := of_decide_eq_true h) | (with_reducible have hd : ¬ (_ < _) := of_decide_eq_false h) | (with_reducible have hd : ¬ (_ ≤ _) := of_decide_eq_false h) | skip) <;> (first | exact absurd h (by decide) | (exact absurd (hp.symm.trans h) (by decide)) | (conv => whnf))) | ((with_reducible refine Both.mk ?_ ?_) <;> conv => whnf) | ((with_reducible refine DOr.l ?_); (conv => whnf)) | ((with_reducible refine OwnOr.l ?_); (conv => whnf)) | ((with_reducible apply Drawn.one); conv => whnf) | ((with_reducible refine Then.mk' ?_); conv => whnf) | (first | exact RefS.self rfl | ((with_reducible refine RefS.mk ?_ ?_); (focus (refine And.intro ?_ (And.intro ?_ (And.intro ?_ rfl)) <;> (conv => whnf) <;> repeat' (first | exact trivial | exact LeE.of (Le.refl _) | exact LeE.nil rfl | (with_reducible refine LeE.of ?_) | (first | fail | exact Le.refl _ | exact rfl | exact leI (by first | rfl | omega | (rw [wrap64 (by omega) (by omega)]; omega) | (rw [wrap64 (by omega) (by omega)]; done)) | exact LeCs.refl _ | exact fun i hi => LeCs.refl _ | exact leOwn (by first | rfl | omega)) | ((with_reducible refine And.intro ?_ ?_) <;> conv => whnf)))); exact rfl)) | (refine And.intro ?_ ?_; (focus (first | exact trivial | exact rfl | (first | exact seI | exact hB | exact hC | exact seT | exact u64nn _ | assumption) | (refine chainI ?_; (first | (first | exact seI | exact hB | exact hC | exact seT | exact u64nn _ | assumption) | decide | omega | (refine And.intro ?_ ?_ <;> first | omega | (simp; omega)) | (simp only [IntKind.wrap_i64]; first | omega | (refine And.intro ?_ ?_ <;> omega)))) | (intro _; (first | (first | exact seI | exact hB | exact hC | exact seT | exact u64nn _ | assumption) | decide | omega | (refine And.intro ?_ ?_ <;> first | omega | (simp; omega)) | (simp only [IntKind.wrap_i64]; first | omega | (refine And.intro ?_ ?_ <;> omega)))) | (intro _ _; (first | (first | exact seI | exact hB | exact hC | exact seT | exact u64nn _ | assumption) | decide | omega | (refine And.intro ?_ ?_ <;> first | omega | (simp; omega)) | (simp only [IntKind.wrap_i64]; first | omega | (refine And.intro ?_ ?_ <;> omega)))) | (first | decide | omega | (refine And.intro ?_ ?_ <;> first | omega | (simp; omega)) | (simp only [IntKind.wrap_i64]; first | omega | (refine And.intro ?_ ?_ <;> omega))) | ((conv => whnf); intros; (try simp only [decide_eq_true_eq, decide_eq_false_iff_not, Bool.and_eq_true, Bool.or_eq_true, Bool.and_eq_false_imp, Bool.or_eq_false_iff, Bool.not_eq_true', Bool.not_eq_false', beq_iff_eq, bne_iff_ne, ne_eq] at *); (first | (first | exact seI | exact hB | exact hC | exact seT | exact u64nn _ | assumption) | decide | omega | (refine And.intro ?_ ?_ <;> first | omega | (simp; omega)) | (simp only [IntKind.wrap_i64]; first | omega | (refine And.intro ?_ ?_ <;> omega)))))); conv => whnf) | (refine And.intro ?_ ?_; (focus (first | exact NoTag.int | exact NoTag.bool | exact NoTag.str | (refine NoTag.of_scalar ?_; rfl))); conv => whnf) | ((with_reducible refine xc_pure ?_); conv => whnf))
    exact leB rfl
  · have hp : (greatI a || greatI b || !okIt a || !okIt b || decide ((s.size : Int) > 500)) = false := by simpa using hp
    have hp' := hp
    simp only [Bool.or_eq_false_iff, Bool.not_eq_false', decide_eq_false_iff_not] at hp'
    obtain ⟨⟨⟨⟨g1, g2⟩, k1⟩, k2⟩, h5⟩ := hp'
    have la := inL_len k1
    have hfa := fmI_len a
    have GA := aGreatI a
    have GB := aGreatI b
    have KA := aCheckIR a ra.y0
    have KB := aCheckIR b rb.y0
    have P1 := aPutNil a k1 ra.n0
    have P2 := aPutNil b k2 rb.n0
    have P3 := aPutB t s a (by omega) k1 ra.n0
    have G := aGetBack s a k1 ra
    have S := aSameX false false (fmI a).length (fmI b).length (rB (fmI a)) (rB (fmI b)) (fun i => (fmI a).getD i 0) (fun i => (fmI b).getD i 0) (fun _ _ => rfl) (fun _ _ => rfl)
    rw [sameFm k1 k2 ra rb] at S
    have hB : (0 : Int) ≤ (s.size : Int) ∧ (s.size : Int) ≤ ((s.size + (fmI a).length : Nat) : Int) := by omega
    refine acall_of_vc htb hmix (f := 5) rfl rfl rfl (by kernel_rfl) rfl rfl ?_; conv => whnf
    repeat' (first | (refine Exists.intro _ (And.intro (chainI (GA)) ?_); conv => whnf) | (refine Exists.intro _ (And.intro (GA) ?_); conv => whnf) | ((with_reducible refine GOr.l ?_); (conv => whnf); refine Exists.intro _ (And.intro (chainI (GA)) ?_); conv => whnf) | (refine Exists.intro _ (And.intro (chainI (GB)) ?_); conv => whnf) | (refine Exists.intro _ (And.intro (GB) ?_); conv => whnf) | ((with_reducible refine GOr.l ?_); (conv => whnf); refine Exists.intro _ (And.intro (chainI (GB)) ?_); conv => whnf) | (refine Exists.intro _ (And.intro (chainI (KA)) ?_); conv => whnf) | (refine Exists.intro _ (And.intro (KA) ?_); conv => whnf) | ((with_reducible refine GOr.l ?_); (conv => whnf); refine Exists.intro _ (And.intro (chainI (KA)) ?_); conv => whnf) | (refine Exists.intro _ (And.intro (chainI (KB)) ?_); conv => whnf) | (refine Exists.intro _ (And.intro (KB) ?_); conv => whnf) | ((with_reducible refine GOr.l ?_); (conv => whnf); refine Exists.intro _ (And.intro (chainI (KB)) ?_); conv => whnf) | (refine Exists.intro _ (And.intro (chainI (P1)) ?_); conv => whnf) | (refine Exists.intro _ (And.intro (P1) ?_); conv => whnf) | ((with_reducible refine GOr.l ?_); (conv => whnf); refine Exists.intro _ (And.intro (chainI (P1)) ?_); conv => whnf) | (refine Exists.intro _ (And.intro (chainI (P2)) ?_); conv => whnf) | (refine Exists.intro _ (And.intro (P2) ?_); conv => whnf) | ((with_reducible refine GOr.l ?_); (conv => whnf); refine Exists.intro _ (And.intro (chainI (P2)) ?_); conv => whnf) | (refine Exists.intro _ (And.intro (chainI (P3)) ?_); conv => whnf) | (refine Exists.intro _ (And.intro (P3) ?_); conv => whnf) | ((with_reducible refine GOr.l ?_); (conv => whnf); refine Exists.intro _ (And.intro (chainI (P3)) ?_); conv => whnf) | (refine Exists.intro _ (And.intro (chainI (G)) ?_); conv => whnf) | (refine Exists.intro _ (And.intro (G) ?_); conv => whnf) | ((with_reducible refine GOr.l ?_); (conv => whnf); refine Exists.intro _ (And.intro (chainI (G)) ?_); conv => whnf) | (refine Exists.intro _ (And.intro (chainI (S)) ?_); conv => whnf) | (refine Exists.intro _ (And.intro (S) ?_); conv => whnf) | ((with_reducible refine GOr.l ?_); (conv => whnf); refine Exists.intro _ (And.intro (chainI (S)) ?_); conv => whnf) | (refine Exists.intro _ (And.intro (chainI (aAwakeW)) ?_); conv => whnf) | (refine Exists.intro _ (And.intro (aAwakeW) ?_); conv => whnf) | ((with_reducible refine GOr.l ?_); (conv => whnf); refine Exists.intro _ (And.intro (chainI (aAwakeW)) ?_); conv => whnf) | (refine And.intro (fun h => ?_) (fun h => ?_) <;> (first | (with_reducible have hd : _ < _ := of_decide_eq_true h) | (with_reducible have hd : _ ≤ _ := of_decide_eq_true h) | (with_reducible have hd : ¬ (_ < _) := of_decide_eq_false h) | (with_reducible have hd : ¬ (_ ≤ _) := of_decide_eq_false h) | skip) <;> (first | exact absurd h (by decide) | (exact absurd (hp.symm.trans h) (by decide)) | (conv => whnf))) | ((with_reducible refine Both.mk ?_ ?_) <;> conv => whnf) | ((with_reducible refine DOr.l ?_); (conv => whnf)) | ((with_reducible refine OwnOr.l ?_); (conv => whnf)) | ((with_reducible apply Drawn.one); conv => whnf) | ((with_reducible refine Then.mk' ?_); conv => whnf) | (first | exact RefS.self rfl | ((with_reducible refine RefS.mk ?_ ?_); (focus (refine And.intro ?_ (And.intro ?_ (And.intro ?_ rfl)) <;> (conv => whnf) <;> repeat' (first | exact trivial | exact LeE.of (Le.refl _) | exact LeE.nil rfl | (with_reducible refine LeE.of ?_) | (first | fail | exact Le.refl _ | exact rfl | exact leI (by first | rfl | omega | (rw [wrap64 (by omega) (by omega)]; omega) | (rw [wrap64 (by omega) (by omega)]; done)) | exact LeCs.refl _ | exact fun i hi => LeCs.refl _ | exact leOwn (by first | rfl | omega)) | ((with_reducible refine And.intro ?_ ?_) <;> conv => whnf)))); exact rfl)) | (refine And.intro ?_ ?_; (focus (first | exact trivial | exact rfl | (first | exact seI | exact hB | exact hC | exact seT | exact u64nn _ | assumption) | (refine chainI ?_; (first | (first | exact seI | exact hB | exact hC | exact seT | exact u64nn _ | assumption) | decide | omega | (refine And.intro ?_ ?_ <;> first | omega | (simp; omega)) | (simp only [IntKind.wrap_i64]; first | omega | (refine And.intro ?_ ?_ <;> omega)))) | (intro _; (first | (first | exact seI | exact hB | exact hC | exact seT | exact u64nn _ | assumption) | decide | omega | (refine And.intro ?_ ?_ <;> first | omega | (simp; omega)) | (simp only [IntKind.wrap_i64]; first | omega | (refine And.intro ?_ ?_ <;> omega)))) | (intro _ _; (first | (first | exact seI | exact hB | exact hC | exact seT | exact u64nn _ | assumption) | decide | omega | (refine And.intro ?_ ?_ <;> first | omega | (simp; omega)) | (simp only [IntKind.wrap_i64]; first | omega | (refine And.intro ?_ ?_ <;> omega)))) | (first | decide | omega | (refine And.intro ?_ ?_ <;> first | omega | (simp; omega)) | (simp only [IntKind.wrap_i64]; first | omega | (refine And.intro ?_ ?_ <;> omega))) | ((conv => whnf); intros; (try simp only [decide_eq_true_eq, decide_eq_false_iff_not, Bool.and_eq_true, Bool.or_eq_true, Bool.and_eq_false_imp, Bool.or_eq_false_iff, Bool.not_eq_true', Bool.not_eq_false', beq_iff_eq, bne_iff_ne, ne_eq] at *); (first | (first | exact seI | exact hB | exact hC | exact seT | exact u64nn _ | assumption) | decide | omega | (refine And.intro ?_ ?_ <;> first | omega | (simp; omega)) | (simp only [IntKind.wrap_i64]; first | omega | (refine And.intro ?_ ?_ <;> omega)))))); conv => whnf) | (refine And.intro ?_ ?_; (focus (first | exact NoTag.int | exact NoTag.bool | exact NoTag.str | (refine NoTag.of_scalar ?_; rfl))); conv => whnf) | ((with_reducible refine xc_pure ?_); conv => whnf))
    · exfalso
      rw [wrap64 (by omega) (by omega)] at h
      have e : ((s.size + (fmI a).length : Nat) : Int) = (s.size : Int) + ((fmI a).length : Int) := by push_cast; rfl
      rw [e] at h
      simp at h
    · refine leB ?_
      show ((((eqIt a b == eqIt a b) && (0 : Int) == 0) && eqIt a a) && (((fmI a).length : Int) == ((fmI a).length : Int)) && true) = true
      rw [eqIt_self]
      simp
end Go.Proofs.YteidfcaciadgpaaDoor
