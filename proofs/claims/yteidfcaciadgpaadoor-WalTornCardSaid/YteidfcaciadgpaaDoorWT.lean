/- Contracts of functions of the program, and the laws that stand on them: what each function answers, whatever its arguments. -/
import Derived.Test.YteidfcaciadgpaaDoorWE
set_option linter.unusedSectionVars false
set_option linter.unnecessarySimpa false
namespace Go.Proofs.YteidfcaciadgpaaDoor
set_option linter.unusedSimpArgs false
set_option linter.unusedVariables false
set_option maxRecDepth 100000
set_option maxHeartbeats 8000000
open Go Go.VA
theorem leOwn0 {m id esz off : Nat} {t : Bool} {f : Nat → List C} : Le m (.own id esz off 0) (.c (.sl t esz 0 f)) := by
  refine ⟨fun B S u hn hu => ?_⟩
  simp only [RelV, RepC] at hu ⊢
  rcases hu with ⟨bi, cap, _, e, h, _⟩ | ⟨_, ⟨a, e⟩, _⟩
  · exact ⟨_, cap, e, h, .inl trivial⟩
  · exact ⟨a, 0, e, ⟨Nat.le_refl _, by decide⟩, .inl trivial⟩
theorem aPutL (L : List Int) (i : It) (hs : L.length ≤ 140737488354000) (ho : okIt i = true) (h0 : 0 ≤ i.n) : ACall Tryd.prog gl 16 [.c (.sl false 1 L.length (rB L)), .ag (cIt i)] [] (.c (.sl false 1 (L ++ fmI i).length (rB (L ++ fmI i)))) := by
  have h := ACall.of_gcall (gWPut false L.length (rB L) i (by omega) ho h0)
  refine h.res rfl (leSl (by simp) fun j hj => ?_)
  rw [Nat.zero_add]
  have := catF_assoc (n := 0) (f := nF) L (fmI i) L.length (by omega) j (by simp at hj ⊢; omega)
  rw [catF_nF] at this
  rw [← this]
  unfold catF
  by_cases h : j < L.length
  · rw [if_pos h, if_pos h, Nat.zero_add, if_neg (by omega), Nat.sub_zero]
  · rw [if_neg h, if_neg h]
def pickI (c n : Int) : Int := if c.tmod n < 0 then c.tmod n + n else c.tmod n
theorem pick_rg (c n : Int) (h : 1 ≤ n) : 0 ≤ pickI c n ∧ pickI c n < n := by
  unfold pickI
  have h1 := Int.tmod_lt_of_pos c (show 0 < n by omega)
  have h2 : -n < c.tmod n := by
    have := Int.lt_tmod_of_pos c (show 0 < n by omega)
    omega
  split <;> omega
theorem aPick (c n : Int) (h1 : 1 ≤ n) (h2 : n ≤ 4611686018427387904) : ACall Tryd.prog gl 18 [intA .i64 c, intA .i64 n] [] (intA .i64 (pickI c n)) := by
  have hq := pick_rg c n h1
  refine acall_of_vc htb hmix (f := 18) rfl rfl rfl (by kernel_rfl) rfl rfl ?_; conv => whnf
  repeat' (first | (refine And.intro (fun h => ?_) (fun h => ?_) <;> (first | (with_reducible have hd : _ < _ := of_decide_eq_true h) | (with_reducible have hd : _ ≤ _ := of_decide_eq_true h) | (with_reducible have hd : ¬ (_ < _) := of_decide_eq_false h) | (with_reducible have hd : ¬ (_ ≤ _) := of_decide_eq_false h) | skip) <;> (first | exact absurd h (by decide) | omega | (conv => whnf))) | ((with_reducible refine Both.mk ?_ ?_) <;> conv => whnf) | ((with_reducible refine DOr.l ?_); (conv => whnf)) | ((with_reducible refine OwnOr.l ?_); (conv => whnf)) | (refine And.intro ?_ ?_; (focus (first | exact trivial | exact rfl | (first | exact seI | exact hB | exact hC | exact seT | exact u64nn _ | assumption) | (refine chainI ?_; (first | (first | exact seI | exact hB | exact hC | exact seT | exact u64nn _ | assumption) | decide | omega | (refine And.intro ?_ ?_ <;> first | omega | (simp; omega)) | (simp only [IntKind.wrap_i64]; first | omega | (refine And.intro ?_ ?_ <;> omega)))) | (intro _; (first | (first | exact seI | exact hB | exact hC | exact seT | exact u64nn _ | assumption) | decide | omega | (refine And.intro ?_ ?_ <;> first | omega | (simp; omega)) | (simp only [IntKind.wrap_i64]; first | omega | (refine And.intro ?_ ?_ <;> omega)))) | (intro _ _; (first | (first | exact seI | exact hB | exact hC | exact seT | exact u64nn _ | assumption) | decide | omega | (refine And.intro ?_ ?_ <;> first | omega | (simp; omega)) | (simp only [IntKind.wrap_i64]; first | omega | (refine And.intro ?_ ?_ <;> omega)))) | (first | decide | omega | (refine And.intro ?_ ?_ <;> first | omega | (simp; omega)) | (simp only [IntKind.wrap_i64]; first | omega | (refine And.intro ?_ ?_ <;> omega))) | ((conv => whnf); intros; (try simp only [decide_eq_true_eq, decide_eq_false_iff_not, Bool.and_eq_true, Bool.or_eq_true, Bool.and_eq_false_imp, Bool.or_eq_false_iff, Bool.not_eq_true', Bool.not_eq_false', beq_iff_eq, bne_iff_ne, ne_eq] at *); (first | (first | exact seI | exact hB | exact hC | exact seT | exact u64nn _ | assumption) | decide | omega | (refine And.intro ?_ ?_ <;> first | omega | (simp; omega)) | (simp only [IntKind.wrap_i64]; first | omega | (refine And.intro ?_ ?_ <;> omega)))))); conv => whnf) | (refine And.intro ?_ ?_; (focus (first | exact NoTag.int | exact NoTag.bool | exact NoTag.str | (refine NoTag.of_scalar ?_; rfl))); conv => whnf))
  · have e : pickI c n = c.tmod n + n := by unfold pickI; rw [if_pos hd]
    rw [e] at hq ⊢
    exact leI (wrap64 (by omega) (by omega))
  · have e : pickI c n = c.tmod n := by unfold pickI; rw [if_neg hd]
    rw [e]
    exact Le.refl _
def whN : List It → Nat → Nat
  | [], _ => 0
  | i :: l, k => if (fmI i).length ≤ k then whN l (k - (fmI i).length) + 1 else 0
def endN (l : List It) (c : Nat) : Nat := (fmsI (l.take c)).length
theorem endN_zero (l : List It) : endN l 0 = 0 := rfl
theorem endN_cons (i : It) (l : List It) (c : Nat) : endN (i :: l) (c + 1) = (fmI i).length + endN l c := by
  unfold endN
  rw [List.take_succ_cons]
  simp [fmsI]
theorem whN_le : ∀ (l : List It) (k : Nat), whN l k ≤ l.length ∧ endN l (whN l k) ≤ k
  | [], k => by simp [whN, endN, fmsI]
  | i :: l, k => by
    simp only [whN]
    by_cases h : (fmI i).length ≤ k
    · rw [if_pos h]
      have ih := whN_le l (k - (fmI i).length)
      rw [endN_cons]
      exact ⟨by simp; exact ih.1, by omega⟩
    · rw [if_neg h]
      exact ⟨Nat.zero_le _, Nat.zero_le _⟩
theorem whN_iff : ∀ (l : List It) (k c : Nat), c < l.length → (endN l (c + 1) ≤ k ↔ c < whN l k)
  | [], k, c, h => absurd h (Nat.not_lt_zero _)
  | i :: l, k, c, hc => by
    simp only [whN]
    rw [endN_cons]
    by_cases h : (fmI i).length ≤ k
    · rw [if_pos h]
      cases c with
      | zero => rw [endN_zero]; omega
      | succ c =>
        have ih := whN_iff l (k - (fmI i).length) c (by simpa using hc)
        omega
    · rw [if_neg h]; omega
theorem fmsI_app : ∀ (a b : List It), fmsI (a ++ b) = fmsI a ++ fmsI b
  | [], b => rfl
  | i :: a, b => by
    show fmI i ++ fmsI (a ++ b) = (fmI i ++ fmsI a) ++ fmsI b
    rw [fmsI_app a b, List.append_assoc]
theorem bys_fms : ∀ (l : List It), (∀ i ∈ l, okIt i = true) → Bys (fmsI l)
  | [], _ => fun x hx => by simp [fmsI] at hx
  | i :: l, h => bys_app (bys_fm (h i (by simp))) (bys_fms l fun x hx => h x (by simp [hx]))
theorem fms_len : ∀ (l : List It), 40 * l.length ≤ (fmsI l).length
  | [] => Nat.le_refl _
  | i :: l => by
    have := fms_len l
    have := fmI_len i
    simp only [fmsI, List.length_append, List.length_cons]
    omega
theorem all_cut (l : List It) (k : Nat) (hl : ∀ i ∈ l, okIt i = true ∧ RgIt i) (hk : k ≤ (fmsI l).length) (hb : (fmsI l).length ≤ 1099511627776) :
    allS (baL ((fmsI l).take k)) = (l.take (whN l k), endN l (whN l k)) := by
  have hbys : Bys ((fmsI l).take k) := fun x hx => bys_fms l (fun i hi => (hl i hi).1) x (List.mem_of_mem_take hx)
  have hsz : (baL ((fmsI l).take k)).size = k := by rw [baL_size, List.length_take]; omega
  have hat : ∀ j, j < k → byteN (baL ((fmsI l).take k)) j = (fmsI l).getD j 0 := fun j hj => by
    rw [baL_byte hbys j (by rw [List.length_take]; omega), List.getD_eq_getElem?_getD, List.getElem?_take_of_lt hj, ← List.getD_eq_getElem?_getD]
  obtain ⟨w1, w2⟩ := whN_le l k
  have hsplit : fmsI l = fmsI (l.take (whN l k)) ++ fmsI (l.drop (whN l k)) := by rw [← fmsI_app, List.take_append_drop]
  have hA : AtL (baL ((fmsI l).take k)) 0 (fmsI (l.take (whN l k))) := by
    refine ⟨by rw [hsz]; unfold endN at w2; omega, fun j hj => ?_⟩
    unfold endN at w2
    rw [Nat.zero_add, hat j (by omega), hsplit, List.getD_eq_getElem?_getD, List.getElem?_append_left hj, ← List.getD_eq_getElem?_getD]
  have hC : ∃ z, okIt z = true ∧ CutL (baL ((fmsI l).take k)) (0 + (fmsI (l.take (whN l k))).length) (fmI z) := by
    rcases Nat.lt_or_ge (whN l k) l.length with hw | hw
    · refine ⟨l[whN l k], (hl _ (List.getElem_mem hw)).1, ?_⟩
      have hn : ¬ endN l (whN l k + 1) ≤ k := fun h => absurd ((whN_iff l k _ hw).1 h) (Nat.lt_irrefl _)
      have e1 : fmsI (l.take (whN l k + 1)) = fmsI (l.take (whN l k)) ++ fmI l[whN l k] := by
        rw [List.take_add_one, List.getElem?_eq_getElem hw, fmsI_app]
        simp [fmsI]
      unfold endN at hn w2
      rw [e1, List.length_append] at hn
      have ed : l.drop (whN l k) = l[whN l k] :: l.drop (whN l k + 1) := List.drop_eq_getElem_cons hw
      rw [ed] at hsplit
      refine ⟨by rw [hsz]; omega, by rw [hsz]; omega, fun j hj => ?_⟩
      rw [hsz] at hj
      rw [hat _ hj, hsplit, List.getD_eq_getElem?_getD, List.getElem?_append_right (by omega), Nat.zero_add, Nat.add_sub_cancel_left]
      show ((fmI l[whN l k] ++ fmsI (l.drop (whN l k + 1)))[j]?).getD 0 = _
      rw [List.getElem?_append_left (by omega), ← List.getD_eq_getElem?_getD]
    · have e : l.take (whN l k) = l := List.take_of_length_le hw
      unfold endN at w2
      rw [e] at w2 ⊢
      exact ⟨i0, i0_ok, by rw [hsz]; omega, by rw [hsz, i0_len]; omega, fun j hj => by rw [hsz] at hj; omega⟩
  obtain ⟨z, hz, hC⟩ := hC
  have h := allG_forms (baL ((fmsI l).take k)) (by rw [hsz]; omega) z hz (l.take (whN l k)) 0 ((baL ((fmsI l).take k)).size + 1) (fun i hi => hl i (List.mem_of_mem_take hi)) hA hC (by
    rw [hsz, List.length_take]
    have : 40 * (l.take (whN l k)).length ≤ (fmsI (l.take (whN l k))).length := fms_len _
    rw [List.length_take] at this
    unfold endN at w2
    omega)
  unfold allS
  rw [h, Nat.zero_add]
  rfl
end Go.Proofs.YteidfcaciadgpaaDoor
