/- Contracts of functions of the program, and the laws that stand on them: what each function answers, whatever its arguments. -/
import Derived.Test.YteidfcaciadgpaaDoorW8a
import Derived.Test.YteidfcaciadgpaaDoorC16
set_option linter.unusedSectionVars false
set_option linter.unnecessarySimpa false
namespace Go.Proofs.YteidfcaciadgpaaDoor
set_option linter.unusedSimpArgs false
set_option linter.unusedVariables false
set_option maxRecDepth 100000
set_option maxHeartbeats 8000000
open Go Go.VA
theorem rB_str {L : List Int} (hb : Bys L) {j : Nat} (hj : j < L.length) : rB L j = strCells (baL L) j := by
  have := baL_byte hb j hj
  show [C.v (.int .u8 (L.getD j 0))] = [C.v (.int .u8 (byteN (baL L) j))]
  rw [this]
theorem catF_nF (L : List Int) (j : Nat) : catF 0 0 nF (rB L) j = rB L j := by
  unfold catF
  rw [if_neg (Nat.not_lt_zero _), Nat.sub_zero]
def inF (i : It) : Nat → List C :=
  catF 0 (0 + (shortL i.n.toNat).length + 1) (fun i_3 => catF 0 (0 + (shortL i.n.toNat).length) (catF 0 0 nF (rB (shortL i.n.toNat))) (nthC [cBy (IntKind.u8.wrap i.k)]) (0 + i_3)) (rB (kyL i.y))
theorem inRow (i : It) (ho : okIt i = true) (j : Nat) (hj : j < (inL i).length) : inF i j = strCells (baL (inL i)) j := by
  have e : inF i j = catF 0 0 nF (rB (inL i)) j := by
    unfold inF inL
    simp only [Nat.zero_add]
    have hl : (inL i).length = (shortL i.n.toNat).length + 1 + (kyL i.y).length := by unfold inL; simp; omega
    refine catL (n := 0) (by simp) (catL (n := 0) (b := [IntKind.u8.wrap i.k]) (by simp) (fun _ _ => rfl) (rB1 _)) (fun _ _ => rfl) j (by rw [hl] at hj; exact hj)
  rw [e, catF_nF]
  exact rB_str (bys_in ho) hj
def wPs (n : Nat) (f : Nat → List C) (i : It) : Nat → Nat × (Nat → List C)
  | 0 => (n, f)
  | 1 => (4, fun j => nthC [[C.v (.int .u8 115)], [C.v (.int .u8 105)], [C.v (.int .u8 110)], [C.v (.int .u8 49)]] (0 + j))
  | 2 => (4, Go.VA.byF (putB (0 + (shortL i.n.toNat).length + 1 + (kyL i.y).length) 4))
  | 3 => (32, fun j => [nthCC (sumC (shaA (baL (inL i)))) (0 + j)])
  | _ => (0 + (shortL i.n.toNat).length + 1 + (kyL i.y).length, fun j => inF i (0 + j))
theorem catN_w (n : Nat) (f : Nat → List C) (i : It) : catN (wPs n f i) 5 = n + (fmI i).length := by
  have eN : 0 + (shortL i.n.toNat).length + 1 + (kyL i.y).length = (inL i).length := by unfold inL; simp; omega
  rw [fmI_len]
  show 0 + n + 4 + 4 + 32 + (0 + (shortL i.n.toNat).length + 1 + (kyL i.y).length) = _
  omega
theorem rB_bytes (n : Nat) (d : Nat → UInt8) (j : Nat) (hj : j < n) : [cb (d j)] = rB ((List.range n).map fun j => ((d j).toNat : Int)) j := by
  show [C.v (.int .u8 ((d j).toNat : Int))] = [C.v (.int .u8 (((List.range n).map fun j => ((d j).toNat : Int)).getD j 0))]
  rw [getD_bys n d j hj]
theorem catG_w (n : Nat) (f : Nat → List C) (i : It) (ho : okIt i = true) (j : Nat) (hj : j < n + (fmI i).length) : catG (wPs n f i) 5 j = catF 0 n f (rB (fmI i)) j := by
  have eN : 0 + (shortL i.n.toNat).length + 1 + (kyL i.y).length = (inL i).length := by unfold inL; simp; omega
  have c1 : catN (wPs n f i) 1 = n := by show 0 + n = n; omega
  have c2 : catN (wPs n f i) 2 = n + mgL.length := by show 0 + n + 4 = n + 4; omega
  have c3 : catN (wPs n f i) 3 = n + (mgL ++ be4L (inL i).length).length := by rw [List.length_append, be4L_len]; show 0 + n + 4 + 4 = n + (4 + 4); omega
  have c4 : catN (wPs n f i) 4 = n + (mgL ++ be4L (inL i).length ++ sumL (shaA (baL (inL i)))).length := by rw [List.length_append, List.length_append, be4L_len, sumL_len]; show 0 + n + 4 + 4 + 32 = n + (4 + 4 + 32); omega
  have g2 : ∀ k, k < catN (wPs n f i) 2 → catG (wPs n f i) 2 k = catF 0 n f (rB mgL) k := by
    intro k hk
    rw [c2] at hk
    show catF 0 (catN (wPs n f i) 1) (catF 0 0 zF f) (fun j => nthC [[C.v (.int .u8 115)], [C.v (.int .u8 105)], [C.v (.int .u8 110)], [C.v (.int .u8 49)]] (0 + j)) k = _
    rw [c1]
    unfold catF
    by_cases h : k < n
    · rw [if_pos h, if_pos h, if_neg (by omega), Nat.zero_add, Nat.sub_zero]
    · rw [if_neg h, if_neg h]
      have hk4 : k - n < 4 := by have : mgL.length = 4 := rfl; omega
      generalize k - n = m at hk4
      match m, hk4 with
      | 0, _ => rfl
      | 1, _ => rfl
      | 2, _ => rfl
      | 3, _ => rfl
  have g3 : ∀ k, k < catN (wPs n f i) 3 → catG (wPs n f i) 3 k = catF 0 n f (rB (mgL ++ be4L (inL i).length)) k := by
    intro k hk
    refine catL c2 g2 (fun m hm => ?_) k (by rw [c3] at hk; rw [c2]; rw [List.length_append] at hk; omega)
    rw [be4L_len] at hm
    show Go.VA.byF (putB (0 + (shortL i.n.toNat).length + 1 + (kyL i.y).length) 4) m = _
    rw [eN]
    exact rB_bytes 4 _ m hm
  have g4 : ∀ k, k < catN (wPs n f i) 4 → catG (wPs n f i) 4 k = catF 0 n f (rB (mgL ++ be4L (inL i).length ++ sumL (shaA (baL (inL i))))) k := by
    intro k hk
    refine catL c3 g3 (fun m hm => ?_) k (by rw [c4] at hk; rw [c3]; have := @List.length_append _ (mgL ++ be4L (inL i).length) (sumL (shaA (baL (inL i)))); omega)
    rw [sumL_len] at hm
    show [nthCC (sumC (shaA (baL (inL i)))) (0 + m)] = _
    rw [Nat.zero_add, ← arr_sumC, nthCC_arr _ _ _ hm]
    exact rB_bytes 32 _ m hm
  refine catL c4 g4 (fun m hm => ?_) j (by rw [c4]; unfold fmI at hj; have := @List.length_append _ (mgL ++ be4L (inL i).length ++ sumL (shaA (baL (inL i)))) (inL i); omega)
  show inF i (0 + m) = rB (inL i) m
  rw [Nat.zero_add, inRow i ho m hm, rB_str (bys_in ho) hm]
theorem gWPut (t : Bool) (n : Nat) (f : Nat → List C) (i : It) (hn : n + 400 ≤ 140737488355328) (ho : okIt i = true) (hi0 : 0 ≤ i.n) :
    GCall Tryd.prog gl 16 [] [.c (.sl t 1 n f), .ag (cIt i)] [.row 1 (n + (fmI i).length) (catF 0 n f (rB (fmI i)))] [.own 0 1 0 (n + (fmI i).length)] := by
  have CK := aCheckI i
  rw [if_pos ho] at CK
  have hil := inL_len ho
  have d := shortL_len i.n.toNat
  have hky := kyL_len (okIt_y ho).1
  have hnb : i.n < 18446744073709551616 := by
    have := ho
    unfold okIt at this
    simp only [Bool.and_eq_true, Bool.not_eq_true', Bool.or_eq_false_iff, decide_eq_false_iff_not] at this
    omega
  have ek : putKy i.y = kyL i.y := if_pos (okIt_y ho).1
  have PS := gPutShortI t 0 nF i.n hi0 hnb (by omega)
  have nt0 : ∀ j, j < 0 → NtCs (nF j) := fun i hi => absurd hi (Nat.not_lt_zero _)
  have nt1 := ntCatG (m := (shortL i.n.toNat).length) nt0 (ntB (shortL i.n.toNat) _)
  have nt2 := ntCatG nt1 (ntOne (IntKind.u8.wrap i.k))
  have nt3 := ntCatG (m := (kyL i.y).length) (ntShift nt2) (ntB (kyL i.y) _)
  have PK := fun t => gPutKy t (0 + (shortL i.n.toNat).length + 1) _ i.y (ntShift nt2) (by omega)
  rw [ek] at PK
  have B1 : (0 + (shortL i.n.toNat).length + 1) * (tb 5).bytes ≤ 140737488355328 := by show _ * 1 ≤ _; omega
  have eN : 0 + (shortL i.n.toNat).length + 1 + (kyL i.y).length = (inL i).length := by unfold inL; simp; omega
  have eR := inRow i ho
  have S1 := aSha1G false false (baL (inL i)) (0 + (shortL i.n.toNat).length + 1 + (kyL i.y).length) (fun j => inF i (0 + j)) (nthC [[C.sl false 1 (0 + (shortL i.n.toNat).length + 1 + (kyL i.y).length) fun j => inF i (0 + j)]]) rfl (by rw [baL_size]; exact eN) (fun j hj => by rw [Nat.zero_add]; exact eR j (by omega)) (by rw [baL_size]; omega)
  have P4 := aPut4 (0 + (shortL i.n.toNat).length + 1 + (kyL i.y).length) (by omega)
  rw [← wrapU (n := ((0 + (shortL i.n.toNat).length + 1 + (kyL i.y).length : Nat) : Int)) (by omega) (by omega)] at P4
  have hc := catN_w n f i
  have hfl := fmI_len i
  have CC := gConcat false 5 (nthC [[C.sl t 1 n f], [C.sl false 1 4 (wPs n f i 1).2], [C.sl false 1 4 (wPs n f i 2).2], [C.sl false 1 (32 - 0) (wPs n f i 3).2], [C.sl false 1 (0 + (shortL i.n.toNat).length + 1 + (kyL i.y).length) (wPs n f i 4).2]]) (fun j => if j = 0 then t else false) (wPs n f i) (fun j hj => by
    match j, hj with
    | 0, _ => rfl
    | 1, _ => rfl
    | 2, _ => rfl
    | 3, _ => rfl
    | 4, _ => rfl) (by omega) (by omega)
  refine gcall_of_vcb htb hmix (f := 16) rfl rfl rfl (by kernel_rfl) rfl rfl rfl fun hb hb2 => ?_; simp only [bndOs, bndO, gbnds, AV.gbnd, bnds, C.bnd, true_and, and_true] at hb hb2; conv => whnf
  repeat' (first | (refine Exists.intro _ (And.intro (CK) ?_); conv => whnf) | (refine Exists.intro _ (And.intro (S1) ?_); conv => whnf) | (refine Exists.intro _ (And.intro (P4) ?_); conv => whnf) | (refine And.intro (fun h => ?_) (fun h => ?_) <;> (first | (with_reducible have hd : _ < _ := of_decide_eq_true h) | (with_reducible have hd : _ ≤ _ := of_decide_eq_true h) | (with_reducible have hd : ¬ (_ < _) := of_decide_eq_false h) | (with_reducible have hd : ¬ (_ ≤ _) := of_decide_eq_false h) | skip) <;> (first | exact absurd h (by decide) | (conv => whnf))) | ((with_reducible refine Both.mk ?_ ?_) <;> conv => whnf) | ((with_reducible refine DOr.r ?_); (conv => whnf)) | ((with_reducible refine OwnOr.r (A := frzPs _ _ _ (fun _ _ => opBuildSlice _ _ 4 _ _)) ?_); (conv => whnf)) | ((with_reducible refine OwnOr.l ?_); (conv => whnf)) | ((with_reducible apply Drawn.one); conv => whnf) | ((with_reducible refine Then.mk' ?_); conv => whnf) | (first | exact RefS.self rfl | ((with_reducible refine RefS.mk ?_ ?_); (focus (refine And.intro ?_ (And.intro ?_ (And.intro ?_ rfl)) <;> (conv => whnf) <;> repeat' (first | exact trivial | exact LeE.of (Le.refl _) | exact LeE.nil rfl | (with_reducible refine LeE.of ?_) | (first | fail | exact Le.refl _ | exact rfl | exact leI (by first | rfl | omega | (rw [wrap64 (by omega) (by omega)]; omega) | (rw [wrap64 (by omega) (by omega)]; done)) | exact LeCs.refl _ | exact fun i hi => LeCs.refl _ | exact leOwn (by first | rfl | omega)) | ((with_reducible refine And.intro ?_ ?_) <;> conv => whnf)))); exact rfl)) | (refine And.intro ?_ ?_; (focus (first | exact trivial | exact rfl | (first | exact seT | exact u64nn _ | exact hB | exact hC | assumption) | (refine chainI ?_; (first | (first | exact seT | exact u64nn _ | exact hB | exact hC | assumption) | decide | omega | (refine And.intro ?_ ?_ <;> first | omega | (simp; omega)) | (simp only [IntKind.wrap_i64]; first | omega | (refine And.intro ?_ ?_ <;> omega)))) | (intro _; (first | (first | exact seT | exact u64nn _ | exact hB | exact hC | assumption) | decide | omega | (refine And.intro ?_ ?_ <;> first | omega | (simp; omega)) | (simp only [IntKind.wrap_i64]; first | omega | (refine And.intro ?_ ?_ <;> omega)))) | (intro _ _; (first | (first | exact seT | exact u64nn _ | exact hB | exact hC | assumption) | decide | omega | (refine And.intro ?_ ?_ <;> first | omega | (simp; omega)) | (simp only [IntKind.wrap_i64]; first | omega | (refine And.intro ?_ ?_ <;> omega)))) | (first | decide | omega | (refine And.intro ?_ ?_ <;> first | omega | (simp; omega)) | (simp only [IntKind.wrap_i64]; first | omega | (refine And.intro ?_ ?_ <;> omega))) | ((conv => whnf); intros; (try simp only [decide_eq_true_eq, decide_eq_false_iff_not, Bool.and_eq_true, Bool.or_eq_true, Bool.and_eq_false_imp, Bool.or_eq_false_iff, Bool.not_eq_true', Bool.not_eq_false', beq_iff_eq, bne_iff_ne, ne_eq] at *); (first | (first | exact seT | exact u64nn _ | exact hB | exact hC | assumption) | decide | omega | (refine And.intro ?_ ?_ <;> first | omega | (simp; omega)) | (simp only [IntKind.wrap_i64]; first | omega | (refine And.intro ?_ ?_ <;> omega)))))); conv => whnf) | ((with_reducible refine xc_guard ?_); (first | (refine xc_g (PS) false (by first | (((conv => whnf); repeat' (first | exact trivial | exact rfl | exact LeC.refl _ | exact LeC.nil rfl | exact LeC.emp rfl | exact LeCs.refl _ | exact (fun i hi => LeCs.refl _) | fail | ((with_reducible refine And.intro ?_ ?_) <;> conv => whnf))); done) | fail) trivial ?_) | (refine xc_g (PS) true (by first | (((conv => whnf); repeat' (first | exact trivial | exact rfl | exact LeC.refl _ | exact LeC.nil rfl | exact LeC.emp rfl | exact LeCs.refl _ | exact (fun i hi => LeCs.refl _) | fail | ((with_reducible refine And.intro ?_ ?_) <;> conv => whnf))); done) | fail) (by first | (((conv => whnf); repeat' (first | exact trivial | exact rfl | (first | exact hf | exact fun i hi => absurd hi (Nat.not_lt_zero _) | exact nt1 | exact ntShift nt1 | exact nt2 | exact ntShift nt2 | exact nt3 | exact ntShift nt3 | exact ntCatG (fun i hi => absurd hi (Nat.not_lt_zero _)) (ntB _ _)) | (intro i hi; exact ⟨trivial, trivial⟩) | ((with_reducible refine And.intro ?_ ?_) <;> conv => whnf))); done) | fail) ?_)); conv => whnf) | ((with_reducible refine xc_guard ?_); (first | (refine xc_g (PK _) false (by first | (((conv => whnf); repeat' (first | exact trivial | exact rfl | exact LeC.refl _ | exact LeC.nil rfl | exact LeC.emp rfl | exact LeCs.refl _ | exact (fun i hi => LeCs.refl _) | fail | ((with_reducible refine And.intro ?_ ?_) <;> conv => whnf))); done) | fail) trivial ?_) | (refine xc_g (PK _) true (by first | (((conv => whnf); repeat' (first | exact trivial | exact rfl | exact LeC.refl _ | exact LeC.nil rfl | exact LeC.emp rfl | exact LeCs.refl _ | exact (fun i hi => LeCs.refl _) | fail | ((with_reducible refine And.intro ?_ ?_) <;> conv => whnf))); done) | fail) (by first | (((conv => whnf); repeat' (first | exact trivial | exact rfl | (first | exact hf | exact fun i hi => absurd hi (Nat.not_lt_zero _) | exact nt1 | exact ntShift nt1 | exact nt2 | exact ntShift nt2 | exact nt3 | exact ntShift nt3 | exact ntCatG (fun i hi => absurd hi (Nat.not_lt_zero _)) (ntB _ _)) | (intro i hi; exact ⟨trivial, trivial⟩) | ((with_reducible refine And.intro ?_ ?_) <;> conv => whnf))); done) | fail) ?_)); conv => whnf) | ((with_reducible refine xc_guard ?_); (first | (refine xc_g (CC) false (by first | (((conv => whnf); repeat' (first | exact trivial | exact rfl | exact LeC.refl _ | exact LeC.nil rfl | exact LeC.emp rfl | exact LeCs.refl _ | exact (fun i hi => LeCs.refl _) | fail | ((with_reducible refine And.intro ?_ ?_) <;> conv => whnf))); done) | fail) trivial ?_) | (refine xc_g (CC) true (by first | (((conv => whnf); repeat' (first | exact trivial | exact rfl | exact LeC.refl _ | exact LeC.nil rfl | exact LeC.emp rfl | exact LeCs.refl _ | exact (fun i hi => LeCs.refl _) | fail | ((with_reducible refine And.intro ?_ ?_) <;> conv => whnf))); done) | fail) (by first | (((conv => whnf); repeat' (first | exact trivial | exact rfl | (first | exact hf | exact fun i hi => absurd hi (Nat.not_lt_zero _) | exact nt1 | exact ntShift nt1 | exact nt2 | exact ntShift nt2 | exact nt3 | exact ntShift nt3 | exact ntCatG (fun i hi => absurd hi (Nat.not_lt_zero _)) (ntB _ _)) | (intro i hi; exact ⟨trivial, trivial⟩) | ((with_reducible refine And.intro ?_ ?_) <;> conv => whnf))); done) | fail) ?_)); conv => whnf) | ((with_reducible refine xc_pure ?_); conv => whnf))
  all_goals (try ((conv => whnf); repeat' (first | exact trivial | exact rfl | exact LeC.refl _ | exact LeC.nil rfl | exact LeC.emp rfl | exact LeCs.refl _ | exact (fun i hi => LeCs.refl _) | ((with_reducible refine And.intro ?_ ?_) <;> conv => whnf))))
  all_goals first
    | exact hc
    | exact fun k hk => LeCs.of_eq (catG_w n f i ho k hk)
theorem gWPutNo (t : Bool) (n : Nat) (f : Nat → List C) (i : It) (hf : ∀ i, i < n → NtCs (f i)) (hn : n ≤ 140737488355328) (ho : okIt i = false) :
    GCall Tryd.prog gl 16 [] [.c (.sl t 1 n f), .ag (cIt i)] [.row 1 n f] [.own 0 1 0 n] := by
  have CK := aCheckI i
  rw [ho, if_neg (by decide)] at CK
  have CL := gClone t n f
  refine gcall_of_vcb htb hmix (f := 16) rfl rfl rfl (by kernel_rfl) rfl rfl rfl fun hb hb2 => ?_; simp only [bndOs, bndO, gbnds, AV.gbnd, bnds, C.bnd, true_and, and_true] at hb hb2; conv => whnf
  repeat' (first | (refine Exists.intro _ (And.intro (CK) ?_); conv => whnf) | (refine And.intro (fun h => ?_) (fun h => ?_) <;> (first | (with_reducible have hd : _ < _ := of_decide_eq_true h) | (with_reducible have hd : _ ≤ _ := of_decide_eq_true h) | (with_reducible have hd : ¬ (_ < _) := of_decide_eq_false h) | (with_reducible have hd : ¬ (_ ≤ _) := of_decide_eq_false h) | skip) <;> (first | exact absurd h (by decide) | (conv => whnf))) | (refine And.intro ?_ ?_; (focus (first | exact trivial | exact rfl | (first | exact seT | exact u64nn _ | exact hB | exact hC | assumption) | (refine chainI ?_; (first | (first | exact seT | exact u64nn _ | exact hB | exact hC | assumption) | decide | omega | (refine And.intro ?_ ?_ <;> first | omega | (simp; omega)) | (simp only [IntKind.wrap_i64]; first | omega | (refine And.intro ?_ ?_ <;> omega)))) | (intro _; (first | (first | exact seT | exact u64nn _ | exact hB | exact hC | assumption) | decide | omega | (refine And.intro ?_ ?_ <;> first | omega | (simp; omega)) | (simp only [IntKind.wrap_i64]; first | omega | (refine And.intro ?_ ?_ <;> omega)))) | (intro _ _; (first | (first | exact seT | exact u64nn _ | exact hB | exact hC | assumption) | decide | omega | (refine And.intro ?_ ?_ <;> first | omega | (simp; omega)) | (simp only [IntKind.wrap_i64]; first | omega | (refine And.intro ?_ ?_ <;> omega)))) | (first | decide | omega | (refine And.intro ?_ ?_ <;> first | omega | (simp; omega)) | (simp only [IntKind.wrap_i64]; first | omega | (refine And.intro ?_ ?_ <;> omega))) | ((conv => whnf); intros; (try simp only [decide_eq_true_eq, decide_eq_false_iff_not, Bool.and_eq_true, Bool.or_eq_true, Bool.and_eq_false_imp, Bool.or_eq_false_iff, Bool.not_eq_true', Bool.not_eq_false', beq_iff_eq, bne_iff_ne, ne_eq] at *); (first | (first | exact seT | exact u64nn _ | exact hB | exact hC | assumption) | decide | omega | (refine And.intro ?_ ?_ <;> first | omega | (simp; omega)) | (simp only [IntKind.wrap_i64]; first | omega | (refine And.intro ?_ ?_ <;> omega)))))); conv => whnf) | ((with_reducible refine xc_guard ?_); (first | (refine xc_g (CL) false (by first | (((conv => whnf); repeat' (first | exact trivial | exact rfl | exact LeC.refl _ | exact LeC.nil rfl | exact LeC.emp rfl | exact LeCs.refl _ | exact (fun i hi => LeCs.refl _) | fail | ((with_reducible refine And.intro ?_ ?_) <;> conv => whnf))); done) | fail) trivial ?_) | (refine xc_g (CL) true (by first | (((conv => whnf); repeat' (first | exact trivial | exact rfl | exact LeC.refl _ | exact LeC.nil rfl | exact LeC.emp rfl | exact LeCs.refl _ | exact (fun i hi => LeCs.refl _) | fail | ((with_reducible refine And.intro ?_ ?_) <;> conv => whnf))); done) | fail) (by first | (((conv => whnf); repeat' (first | exact trivial | exact rfl | (first | exact hf | exact fun i hi => absurd hi (Nat.not_lt_zero _) | exact nt1 | exact ntShift nt1 | exact nt2 | exact ntShift nt2 | exact nt3 | exact ntShift nt3 | exact ntCatG (fun i hi => absurd hi (Nat.not_lt_zero _)) (ntB _ _)) | (intro i hi; exact ⟨trivial, trivial⟩) | ((with_reducible refine And.intro ?_ ?_) <;> conv => whnf))); done) | fail) ?_)); conv => whnf) | ((with_reducible refine xc_pure ?_); conv => whnf))
  all_goals ((conv => whnf); repeat' (first | exact trivial | exact rfl | exact LeC.refl _ | exact LeC.nil rfl | exact LeC.emp rfl | exact LeCs.refl _ | exact (fun i hi => LeCs.refl _) | ((with_reducible refine And.intro ?_ ?_) <;> conv => whnf)))
end Go.Proofs.YteidfcaciadgpaaDoor
