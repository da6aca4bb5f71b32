/- Contracts of functions of the program, and the laws that stand on them: what each function answers, whatever its arguments. -/
import Derived.Test.YtbddpnohacjjfaaDoorG32
set_option linter.unusedSectionVars false
set_option linter.unnecessarySimpa false
namespace Go.Proofs.YtbddpnohacjjfaaDoor
set_option linter.unusedSimpArgs false
set_option linter.unusedVariables false
set_option maxRecDepth 100000
set_option maxHeartbeats 8000000
open Go Go.VA
def bothR (N : Nat) (A E : Nat → Nat → Bool) : List (List Int) := (List.range N).map fun k : Nat => castL (ahL N A (k : Int) ++ ahL N E (k : Int))
theorem bothR_len (N : Nat) (A E : Nat → Nat → Bool) : (bothR N A E).length = N := by unfold bothR; rw [List.length_map, List.length_range]
theorem bothR_get {N : Nat} {A E : Nat → Nat → Bool} {k : Nat} (h : k < N) : (bothR N A E).getD k [] = castL (ahL N A (k : Int) ++ ahL N E (k : Int)) := by
  unfold bothR
  rw [List.getD_eq_getElem?_getD, List.getElem?_map, List.getElem?_eq_getElem (by rw [List.length_range]; exact h)]
  simp
theorem ahL_mem {N : Nat} {A : Nat → Nat → Bool} (hA : GrOk N A) {i k : Nat} (hi : i < N) : k ∈ ahL N A (i : Int) ↔ A i k = true := by
  have hin : inN N (i : Int) = true := inN_iff.2 ⟨by omega, by omega⟩
  unfold ahL
  rw [if_pos hin]
  show k ∈ upS (A i) N ↔ _
  exact upS_mem fun j hj => (hA i j hj).2
theorem grA_both {N : Nat} {A E : Nat → Nat → Bool} (hA : GrOk N A) (hE : GrOk N E) : grA N (bothR N A E) = orA A E := funext fun i => funext fun k => by
  unfold grA
  rw [Bool.eq_iff_iff]
  simp only [Bool.and_eq_true, decide_eq_true_eq, Bool.or_eq_true]
  constructor
  · rintro ⟨⟨h1, h2⟩, h3⟩
    rw [bothR_get h1] at h3
    unfold castL at h3
    simp only [List.contains_iff_mem, List.mem_map, List.mem_append] at h3
    obtain ⟨x, hx, e⟩ := h3
    obtain rfl : x = k := by omega
    rcases hx with hx | hx
    · exact .inl ((ahL_mem hA h1).1 hx)
    · exact .inr ((ahL_mem hE h1).1 hx)
  · intro h
    have hik : i < N ∧ k < N := by
      rcases h with h | h
      · exact hA i k h
      · exact hE i k h
    refine ⟨hik, ?_⟩
    rw [bothR_get hik.1]
    unfold castL
    simp only [List.contains_iff_mem, List.mem_map, List.mem_append]
    refine ⟨k, ?_, rfl⟩
    rcases h with h | h
    · exact .inl ((ahL_mem hA hik.1).2 h)
    · exact .inr ((ahL_mem hE hik.1).2 h)
theorem ahL_len (N : Nat) (A : Nat → Nat → Bool) (i : Int) : (ahL N A i).length ≤ N := by
  unfold ahL
  split
  · exact upS_len _ _
  · exact Nat.zero_le _
theorem NoTag.spF {xs : List C} {k : Nat} (h : NtCs xs) : NoTag (.sp false xs k) := ⟨fun B S S' u hS hu => by
  simp only [RelV] at hu ⊢
  obtain ⟨b, o, e, h1⟩ := hu
  exact ⟨b, o, e, NtCs.reps hS (fun o u h => hS b o u h) xs o h h1⟩⟩
theorem rg_noTag (N : Nat) (A : Nat → Nat → Bool) : NoTag (.sp false [.v (.int .i64 N), .sl false 1 N (rBB N A)] 0) := NoTag.spF ⟨trivial, ⟨rfl, fun i _ => ⟨⟨rfl, fun j _ => ⟨trivial, trivial⟩⟩, trivial⟩⟩, trivial⟩
theorem both_row {l1 l2 : List Nat} {z : Nat} (hz : z = 1) : LeC (.sl false z (l1.length + l2.length) fun i => catF 0 l1.length (rN l1) (rN l2) (0 + i)) (.sl false 1 (castL (l1 ++ l2)).length (rX (castL (l1 ++ l2)))) := by
  subst hz
  have e : (castL (l1 ++ l2)).length = (l1 ++ l2).length := by unfold castL; rw [List.length_map]
  rw [e]
  refine LeC.sl (by rw [List.length_append]) fun i hi => ?_
  rw [Nat.zero_add]
  unfold castL
  rw [rN_rX _ _ hi]
  exact rowE_cat (enc := cN) (d := 0) l1 l2 l1.length rfl i
theorem aGBoth (t s : Bool) (n m : Int) (ra rb : List (List Int)) (tg : Nat → Bool) (i : Int) : ACall Tryd.prog gl 6 [intA .i64 n, intA .i64 m, .c (.sl t 1 ra.length (rL tg ra)), .c (.sl s 1 rb.length (rL tg rb)), intA .i64 i] [] (boolA true) := by
  have G1 := aGreat t n ra tg
  have G2 := aGreat s m rb tg
  have N1 := aNewG t n ra tg (rL tg ra) fun i _ => rfl
  have N2 := aNewG s m rb tg (rL tg rb) fun i _ => rfl
  have hN := clN_le n
  have hA : GrOk (clN n) (grA (clN n) ra) := grA_ok _ _
  have hM := clN_le m
  have hE : GrOk (clN m) (grA (clN m) rb) := grA_ok _ _
  generalize grA (clN n) ra = A at *
  generalize grA (clN m) rb = E at *
  generalize clN n = N at *
  generalize clN m = M at *
  have hA2 := grOk_tr hA
  have hE2 := grOk_tr hE
  have L1 := aLen false false false N N (rSet A) (rSet (fun i k => A k i))
  have L2 := aLen false false false M M (rSet E) (rSet (fun i k => E k i))
  generalize hgr : grB n ra = b1 at *
  generalize hgr2 : grB m rb = b2 at *
  by_cases hNM : N = M
  · subst hNM
    have Bo := aBoth false false false false false false N A (trA A) E (trA E) hN
    have hz : ((N : Int) != (N : Int)) = false := by simp
    have Y1 := fun (q : Bool) (f : Nat → List C) (hf : ∀ k, f k = rL (fun _ => false) (bothR N A E) k) => aRNew q (N : Int) (bothR N A E) (fun _ => false) f hf
    have hcl : clN (N : Int) = N := by unfold clN; omega
    rw [bothR_len, hcl, grA_both hA hE] at Y1
    have hor : GrOk N (orA A E) := fun i k h => by
      rw [Bool.or_eq_true] at h
      rcases h with h | h
      · exact hA i k h
      · exact hE i k h
    refine acall_of_vc htb hmix (f := 6) rfl rfl rfl (by kernel_rfl) rfl rfl ?_; conv => whnf
    repeat' (first | (refine Exists.intro _ (And.intro (chainI (aAwake)) ?_); conv => whnf) | (refine Exists.intro _ (And.intro (aAwake) ?_); conv => whnf) | ((with_reducible refine GOr.l ?_); (conv => whnf); refine Exists.intro _ (And.intro (chainI (aAwake)) ?_); conv => whnf) | (refine Exists.intro _ (And.intro (chainI (G1)) ?_); conv => whnf) | (refine Exists.intro _ (And.intro (G1) ?_); conv => whnf) | ((with_reducible refine GOr.l ?_); (conv => whnf); refine Exists.intro _ (And.intro (chainI (G1)) ?_); conv => whnf) | (refine Exists.intro _ (And.intro (chainI (G2)) ?_); conv => whnf) | (refine Exists.intro _ (And.intro (G2) ?_); conv => whnf) | ((with_reducible refine GOr.l ?_); (conv => whnf); refine Exists.intro _ (And.intro (chainI (G2)) ?_); conv => whnf) | (refine Exists.intro _ (And.intro (chainI (N1)) ?_); conv => whnf) | (refine Exists.intro _ (And.intro (N1) ?_); conv => whnf) | ((with_reducible refine GOr.l ?_); (conv => whnf); refine Exists.intro _ (And.intro (chainI (N1)) ?_); conv => whnf) | (refine Exists.intro _ (And.intro (chainI (N2)) ?_); conv => whnf) | (refine Exists.intro _ (And.intro (N2) ?_); conv => whnf) | ((with_reducible refine GOr.l ?_); (conv => whnf); refine Exists.intro _ (And.intro (chainI (N2)) ?_); conv => whnf) | (refine Exists.intro _ (And.intro (chainI (L1)) ?_); conv => whnf) | (refine Exists.intro _ (And.intro (L1) ?_); conv => whnf) | ((with_reducible refine GOr.l ?_); (conv => whnf); refine Exists.intro _ (And.intro (chainI (L1)) ?_); conv => whnf) | (refine Exists.intro _ (And.intro (chainI (L2)) ?_); conv => whnf) | (refine Exists.intro _ (And.intro (L2) ?_); conv => whnf) | ((with_reducible refine GOr.l ?_); (conv => whnf); refine Exists.intro _ (And.intro (chainI (L2)) ?_); conv => whnf) | (refine Exists.intro _ (And.intro (chainI (Bo)) ?_); conv => whnf) | (refine Exists.intro _ (And.intro (Bo) ?_); conv => whnf) | ((with_reducible refine GOr.l ?_); (conv => whnf); refine Exists.intro _ (And.intro (chainI (Bo)) ?_); conv => whnf) | (refine Exists.intro _ (And.intro (chainI (nLen)) ?_); conv => whnf) | (refine Exists.intro _ (And.intro (nLen) ?_); conv => whnf) | ((with_reducible refine GOr.l ?_); (conv => whnf); refine Exists.intro _ (And.intro (chainI (nLen)) ?_); conv => whnf) | (refine Exists.intro _ (And.intro (chainI (nTurned)) ?_); conv => whnf) | (refine Exists.intro _ (And.intro (nTurned) ?_); conv => whnf) | ((with_reducible refine GOr.l ?_); (conv => whnf); refine Exists.intro _ (And.intro (chainI (nTurned)) ?_); conv => whnf) | (refine Exists.intro _ (And.intro (chainI (nAhead)) ?_); conv => whnf) | (refine Exists.intro _ (And.intro (nAhead) ?_); conv => whnf) | ((with_reducible refine GOr.l ?_); (conv => whnf); refine Exists.intro _ (And.intro (chainI (nAhead)) ?_); conv => whnf) | (refine Exists.intro _ (And.intro (chainI (nUnder _)) ?_); conv => whnf) | (refine Exists.intro _ (And.intro (nUnder _) ?_); conv => whnf) | ((with_reducible refine GOr.l ?_); (conv => whnf); refine Exists.intro _ (And.intro (chainI (nUnder _)) ?_); conv => whnf) | (refine Exists.intro _ (And.intro (chainI (nOver _)) ?_); conv => whnf) | (refine Exists.intro _ (And.intro (nOver _) ?_); conv => whnf) | ((with_reducible refine GOr.l ?_); (conv => whnf); refine Exists.intro _ (And.intro (chainI (nOver _)) ?_); conv => whnf) | (refine Exists.intro _ (And.intro (chainI (nBoth)) ?_); conv => whnf) | (refine Exists.intro _ (And.intro (nBoth) ?_); conv => whnf) | ((with_reducible refine GOr.l ?_); (conv => whnf); refine Exists.intro _ (And.intro (chainI (nBoth)) ?_); conv => whnf) | (refine And.intro (fun h => ?_) (fun h => ?_) <;> (first | (with_reducible have hd : _ < _ := of_decide_eq_true h) | (with_reducible have hd : _ ≤ _ := of_decide_eq_true h) | (with_reducible have hd : ¬ (_ < _) := of_decide_eq_false h) | (with_reducible have hd : ¬ (_ ≤ _) := of_decide_eq_false h) | skip) <;> (first | exact absurd h (by decide) | first | exact Bool.noConfusion (h.symm.trans hz) | exact Bool.noConfusion (h.symm.trans hne) | exact Bool.noConfusion (h.symm.trans hne2) | exact absurd hd hB1 | exact absurd hB1.2 hd | (conv => whnf))) | ((with_reducible refine Both.mk ?_ ?_) <;> conv => whnf) | ((with_reducible refine DOr.l ?_); (conv => whnf)) | ((with_reducible refine OwnOr.l ?_); (conv => whnf)) | (refine And.intro ?_ ?_; (focus (first | exact trivial | exact rfl | (first | exact hB | exact hB1 | exact hC | exact chainI hB | assumption) | (refine chainI ?_; (first | (first | exact hB | exact hB1 | exact hC | exact chainI hB | assumption) | decide | omega | (refine And.intro ?_ ?_ <;> first | omega | (simp; omega)) | (simp only [IntKind.wrap_i64]; first | omega | (refine And.intro ?_ ?_ <;> omega)))) | (intro _; (first | (first | exact hB | exact hB1 | exact hC | exact chainI hB | assumption) | decide | omega | (refine And.intro ?_ ?_ <;> first | omega | (simp; omega)) | (simp only [IntKind.wrap_i64]; first | omega | (refine And.intro ?_ ?_ <;> omega)))) | (intro _ _; (first | (first | exact hB | exact hB1 | exact hC | exact chainI hB | assumption) | decide | omega | (refine And.intro ?_ ?_ <;> first | omega | (simp; omega)) | (simp only [IntKind.wrap_i64]; first | omega | (refine And.intro ?_ ?_ <;> omega)))) | (first | decide | omega | (refine And.intro ?_ ?_ <;> first | omega | (simp; omega)) | (simp only [IntKind.wrap_i64]; first | omega | (refine And.intro ?_ ?_ <;> omega))) | ((conv => whnf); intros; (try simp only [decide_eq_true_eq, decide_eq_false_iff_not, Bool.and_eq_true, Bool.or_eq_true, Bool.and_eq_false_imp, Bool.or_eq_false_iff, Bool.not_eq_true', Bool.not_eq_false', beq_iff_eq, bne_iff_ne, ne_eq] at *); (first | (first | exact hB | exact hB1 | exact hC | exact chainI hB | assumption) | decide | omega | (refine And.intro ?_ ?_ <;> first | omega | (simp; omega)) | (simp only [IntKind.wrap_i64]; first | omega | (refine And.intro ?_ ?_ <;> omega)))))); conv => whnf) | (refine And.intro ?_ ?_; (focus (first | exact NoTag.int | exact NoTag.bool | exact NoTag.str | (refine NoTag.of_scalar ?_; rfl))); conv => whnf) | ((with_reducible refine xc_pure ?_); conv => whnf) | (rw [hz]; conv => whnf))
    · exact leB rfl
    refine loopI Nat (fun c => c ≤ N) (fun c => [(15, .own 0 1 0 c), (16, intA .i64 c)]) (fun c => [.row 1 c (rL (fun _ => false) (bothR N A E))]) (fun c => N - c) 0 (Nat.zero_le _) ?_ (fun _ => rfl) fun c hc => ?_
    · (refine And.intro ?_ (And.intro ?_ (And.intro ?_ rfl)) <;> (conv => whnf) <;> repeat' (first | exact trivial | exact LeE.of (Le.refl _) | exact LeE.nil rfl | (with_reducible refine LeE.of ?_) | (first | first | exact LeAs_c _ _ _ | exact LeAs_pc | exact leI e | exact eo | exact eo _ | exact LeE.nil rfl | exact Le.refl _ | exact rfl | exact leI (by first | rfl | omega | (rw [wrap64 (by omega) (by omega)]; omega) | (rw [wrap64 (by omega) (by omega)]; done)) | exact LeCs.refl _ | exact fun i hi => LeCs.refl _ | exact leOwn (by first | rfl | omega)) | ((with_reducible refine And.intro ?_ ?_) <;> conv => whnf)))
      exact fun q hq => absurd hq (Nat.not_lt_zero _)
    · have hc : c ≤ N := hc
      rcases Nat.lt_or_ge c N with hcl | hcl
      · have hB1 : (0 : Int) ≤ (c : Int) ∧ (c : Int) < (N : Int) := by omega
        have Z1 := aAhead false false false N A (trA A) (c : Int) hN hA
        have Z2 := aAhead false false false N E (trA E) (c : Int) hN hE
        have hg := bothR_get (A := A) (E := E) hcl
        have hl1 := ahL_len N A (c : Int)
        have hl2 := ahL_len N E (c : Int)
        generalize ahL N A (c : Int) = l1 at *
        generalize ahL N E (c : Int) = l2 at *
        have hB : l1.length * (tb 3).bytes ≤ 140737488355328 := by show l1.length * 8 ≤ _; omega
        have hC : (l1.length + l2.length) * (tb 3).bytes ≤ 140737488355328 := by show (l1.length + l2.length) * 8 ≤ _; omega
        have hD : (c + 1) * (tb 27).bytes ≤ 140737488355328 := by show (c + 1) * 24 ≤ _; omega
        conv => whnf
        repeat' (first | (refine Exists.intro _ (And.intro (chainI (L1)) ?_); conv => whnf) | (refine Exists.intro _ (And.intro (L1) ?_); conv => whnf) | ((with_reducible refine GOr.l ?_); (conv => whnf); refine Exists.intro _ (And.intro (chainI (L1)) ?_); conv => whnf) | (refine Exists.intro _ (And.intro (chainI (L2)) ?_); conv => whnf) | (refine Exists.intro _ (And.intro (L2) ?_); conv => whnf) | ((with_reducible refine GOr.l ?_); (conv => whnf); refine Exists.intro _ (And.intro (chainI (L2)) ?_); conv => whnf) | (refine Exists.intro _ (And.intro (chainI (Z1)) ?_); conv => whnf) | (refine Exists.intro _ (And.intro (Z1) ?_); conv => whnf) | ((with_reducible refine GOr.l ?_); (conv => whnf); refine Exists.intro _ (And.intro (chainI (Z1)) ?_); conv => whnf) | (refine Exists.intro _ (And.intro (chainI (Z2)) ?_); conv => whnf) | (refine Exists.intro _ (And.intro (Z2) ?_); conv => whnf) | ((with_reducible refine GOr.l ?_); (conv => whnf); refine Exists.intro _ (And.intro (chainI (Z2)) ?_); conv => whnf) | (refine And.intro (fun h => ?_) (fun h => ?_) <;> (first | (with_reducible have hd : _ < _ := of_decide_eq_true h) | (with_reducible have hd : _ ≤ _ := of_decide_eq_true h) | (with_reducible have hd : ¬ (_ < _) := of_decide_eq_false h) | (with_reducible have hd : ¬ (_ ≤ _) := of_decide_eq_false h) | skip) <;> (first | exact absurd h (by decide) | first | exact Bool.noConfusion (h.symm.trans hz) | exact Bool.noConfusion (h.symm.trans hne) | exact Bool.noConfusion (h.symm.trans hne2) | exact absurd hd hB1 | exact absurd hB1.2 hd | (conv => whnf))) | ((with_reducible refine Both.mk ?_ ?_) <;> conv => whnf) | ((with_reducible refine DOr.l ?_); (conv => whnf)) | ((with_reducible refine OwnOr.l ?_); (conv => whnf)) | (refine And.intro ?_ ?_; (focus (first | exact trivial | exact rfl | (first | exact hB | exact hB1 | exact hC | exact chainI hB | assumption) | (refine chainI ?_; (first | (first | exact hB | exact hB1 | exact hC | exact chainI hB | assumption) | decide | omega | (refine And.intro ?_ ?_ <;> first | omega | (simp; omega)) | (simp only [IntKind.wrap_i64]; first | omega | (refine And.intro ?_ ?_ <;> omega)))) | (intro _; (first | (first | exact hB | exact hB1 | exact hC | exact chainI hB | assumption) | decide | omega | (refine And.intro ?_ ?_ <;> first | omega | (simp; omega)) | (simp only [IntKind.wrap_i64]; first | omega | (refine And.intro ?_ ?_ <;> omega)))) | (intro _ _; (first | (first | exact hB | exact hB1 | exact hC | exact chainI hB | assumption) | decide | omega | (refine And.intro ?_ ?_ <;> first | omega | (simp; omega)) | (simp only [IntKind.wrap_i64]; first | omega | (refine And.intro ?_ ?_ <;> omega)))) | (first | decide | omega | (refine And.intro ?_ ?_ <;> first | omega | (simp; omega)) | (simp only [IntKind.wrap_i64]; first | omega | (refine And.intro ?_ ?_ <;> omega))) | ((conv => whnf); intros; (try simp only [decide_eq_true_eq, decide_eq_false_iff_not, Bool.and_eq_true, Bool.or_eq_true, Bool.and_eq_false_imp, Bool.or_eq_false_iff, Bool.not_eq_true', Bool.not_eq_false', beq_iff_eq, bne_iff_ne, ne_eq] at *); (first | (first | exact hB | exact hB1 | exact hC | exact chainI hB | assumption) | decide | omega | (refine And.intro ?_ ?_ <;> first | omega | (simp; omega)) | (simp only [IntKind.wrap_i64]; first | omega | (refine And.intro ?_ ?_ <;> omega)))))); conv => whnf) | (refine And.intro ?_ ?_; (focus (first | exact NoTag.int | exact NoTag.bool | exact NoTag.str | (refine NoTag.of_scalar ?_; rfl))); conv => whnf) | ((with_reducible refine xc_pure ?_); conv => whnf))
        refine ⟨c + 1, hcl, ?_, by show N - (c + 1) < N - c; omega⟩
        (refine And.intro ?_ (And.intro ?_ (And.intro ?_ rfl)) <;> (conv => whnf) <;> repeat' (first | exact trivial | exact LeE.of (Le.refl _) | exact LeE.nil rfl | (with_reducible refine LeE.of ?_) | (first | first | exact LeAs_c _ _ _ | exact LeAs_pc | exact leI e | exact eo | exact eo _ | exact LeE.nil rfl | exact Le.refl _ | exact rfl | exact leI (by first | rfl | omega | (rw [wrap64 (by omega) (by omega)]; omega) | (rw [wrap64 (by omega) (by omega)]; done)) | exact LeCs.refl _ | exact fun i hi => LeCs.refl _ | exact leOwn (by first | rfl | omega)) | ((with_reducible refine And.intro ?_ ?_) <;> conv => whnf)))
        intro q hq
        unfold catF
        split
        · rw [Nat.zero_add]; exact LeCs.refl _
        · obtain rfl : q = c := by omega
          rw [Nat.sub_self]
          unfold rL
          rw [hg]
          exact leCs_one (both_row rfl)
      · have hcN : c = N := by omega
        have hB1 : ¬ ((N : Int) < (N : Int)) := by omega
        have Yh : ∀ q : Bool, ACall Tryd.prog gl 17 [intA .i64 (N : Int), .c (.sl q 1 N (fun k => rL (fun _ => false) (bothR N A E) (0 + k)))] [] (rgD false N (orA A E)) := fun q => Y1 q _ fun k => by rw [Nat.zero_add]
        have hnt := rg_noTag N (orA A E)
        have X1 := aAhead false false false N (orA A E) (orA (trA A) (trA E)) i hN hor
        have X2 := aBehind false false false N (orA A E) (orA (trA A) (trA E)) i hN (grOk_tr hor)
        have Q1 := aRList false N (orA A E) i hN
        have Q2 := aRTurned false N (orA A E) hN hor
        have Q3 := aRList false N (trA (orA A E)) i hN
        have S1 := aSame false false (ahL N (orA A E) i)
        have S2 := aSame false false (ahL N (trA (orA A E)) i)
        rw [hcN]
        conv => whnf
        repeat' (first | (refine Exists.intro _ (And.intro (chainI (aAwake)) ?_); conv => whnf) | (refine Exists.intro _ (And.intro (aAwake) ?_); conv => whnf) | ((with_reducible refine GOr.l ?_); (conv => whnf); refine Exists.intro _ (And.intro (chainI (aAwake)) ?_); conv => whnf) | (refine Exists.intro _ (And.intro (chainI (L1)) ?_); conv => whnf) | (refine Exists.intro _ (And.intro (L1) ?_); conv => whnf) | ((with_reducible refine GOr.l ?_); (conv => whnf); refine Exists.intro _ (And.intro (chainI (L1)) ?_); conv => whnf) | (refine Exists.intro _ (And.intro (chainI (Yh _)) ?_); conv => whnf) | (refine Exists.intro _ (And.intro (Yh _) ?_); conv => whnf) | ((with_reducible refine GOr.l ?_); (conv => whnf); refine Exists.intro _ (And.intro (chainI (Yh _)) ?_); conv => whnf) | (refine Exists.intro _ (And.intro (chainI (X1)) ?_); conv => whnf) | (refine Exists.intro _ (And.intro (X1) ?_); conv => whnf) | ((with_reducible refine GOr.l ?_); (conv => whnf); refine Exists.intro _ (And.intro (chainI (X1)) ?_); conv => whnf) | (refine Exists.intro _ (And.intro (chainI (X2)) ?_); conv => whnf) | (refine Exists.intro _ (And.intro (X2) ?_); conv => whnf) | ((with_reducible refine GOr.l ?_); (conv => whnf); refine Exists.intro _ (And.intro (chainI (X2)) ?_); conv => whnf) | (refine Exists.intro _ (And.intro (chainI (Q1)) ?_); conv => whnf) | (refine Exists.intro _ (And.intro (Q1) ?_); conv => whnf) | ((with_reducible refine GOr.l ?_); (conv => whnf); refine Exists.intro _ (And.intro (chainI (Q1)) ?_); conv => whnf) | (refine Exists.intro _ (And.intro (chainI (Q2)) ?_); conv => whnf) | (refine Exists.intro _ (And.intro (Q2) ?_); conv => whnf) | ((with_reducible refine GOr.l ?_); (conv => whnf); refine Exists.intro _ (And.intro (chainI (Q2)) ?_); conv => whnf) | (refine Exists.intro _ (And.intro (chainI (Q3)) ?_); conv => whnf) | (refine Exists.intro _ (And.intro (Q3) ?_); conv => whnf) | ((with_reducible refine GOr.l ?_); (conv => whnf); refine Exists.intro _ (And.intro (chainI (Q3)) ?_); conv => whnf) | (refine Exists.intro _ (And.intro (chainI (S1)) ?_); conv => whnf) | (refine Exists.intro _ (And.intro (S1) ?_); conv => whnf) | ((with_reducible refine GOr.l ?_); (conv => whnf); refine Exists.intro _ (And.intro (chainI (S1)) ?_); conv => whnf) | (refine Exists.intro _ (And.intro (chainI (S2)) ?_); conv => whnf) | (refine Exists.intro _ (And.intro (S2) ?_); conv => whnf) | ((with_reducible refine GOr.l ?_); (conv => whnf); refine Exists.intro _ (And.intro (chainI (S2)) ?_); conv => whnf) | (refine And.intro (fun h => ?_) (fun h => ?_) <;> (first | (with_reducible have hd : _ < _ := of_decide_eq_true h) | (with_reducible have hd : _ ≤ _ := of_decide_eq_true h) | (with_reducible have hd : ¬ (_ < _) := of_decide_eq_false h) | (with_reducible have hd : ¬ (_ ≤ _) := of_decide_eq_false h) | skip) <;> (first | exact absurd h (by decide) | first | exact Bool.noConfusion (h.symm.trans hz) | exact Bool.noConfusion (h.symm.trans hne) | exact Bool.noConfusion (h.symm.trans hne2) | exact absurd hd hB1 | exact absurd hB1.2 hd | (conv => whnf))) | ((with_reducible refine Both.mk ?_ ?_) <;> conv => whnf) | ((with_reducible refine DOr.l ?_); (conv => whnf)) | ((with_reducible refine OwnOr.l ?_); (conv => whnf)) | (refine And.intro ?_ ?_; (focus (first | exact trivial | exact rfl | (first | exact hB | exact hB1 | exact hC | exact chainI hB | assumption) | (refine chainI ?_; (first | (first | exact hB | exact hB1 | exact hC | exact chainI hB | assumption) | decide | omega | (refine And.intro ?_ ?_ <;> first | omega | (simp; omega)) | (simp only [IntKind.wrap_i64]; first | omega | (refine And.intro ?_ ?_ <;> omega)))) | (intro _; (first | (first | exact hB | exact hB1 | exact hC | exact chainI hB | assumption) | decide | omega | (refine And.intro ?_ ?_ <;> first | omega | (simp; omega)) | (simp only [IntKind.wrap_i64]; first | omega | (refine And.intro ?_ ?_ <;> omega)))) | (intro _ _; (first | (first | exact hB | exact hB1 | exact hC | exact chainI hB | assumption) | decide | omega | (refine And.intro ?_ ?_ <;> first | omega | (simp; omega)) | (simp only [IntKind.wrap_i64]; first | omega | (refine And.intro ?_ ?_ <;> omega)))) | (first | decide | omega | (refine And.intro ?_ ?_ <;> first | omega | (simp; omega)) | (simp only [IntKind.wrap_i64]; first | omega | (refine And.intro ?_ ?_ <;> omega))) | ((conv => whnf); intros; (try simp only [decide_eq_true_eq, decide_eq_false_iff_not, Bool.and_eq_true, Bool.or_eq_true, Bool.and_eq_false_imp, Bool.or_eq_false_iff, Bool.not_eq_true', Bool.not_eq_false', beq_iff_eq, bne_iff_ne, ne_eq] at *); (first | (first | exact hB | exact hB1 | exact hC | exact chainI hB | assumption) | decide | omega | (refine And.intro ?_ ?_ <;> first | omega | (simp; omega)) | (simp only [IntKind.wrap_i64]; first | omega | (refine And.intro ?_ ?_ <;> omega)))))); conv => whnf) | (refine And.intro ?_ ?_; (focus (first | exact NoTag.int | exact NoTag.bool | exact NoTag.str | (refine NoTag.of_scalar ?_; rfl))); conv => whnf) | ((with_reducible refine xc_pure ?_); conv => whnf))
        exact leB rfl
  · have Bo := aBothNot false false false false false false N M A (trA A) E (trA E) hNM
    have hz : ((N : Int) != (M : Int)) = true := by rw [bne_iff_ne]; omega
    refine acall_of_vc htb hmix (f := 6) rfl rfl rfl (by kernel_rfl) rfl rfl ?_; conv => whnf
    repeat' (first | (refine Exists.intro _ (And.intro (chainI (aAwake)) ?_); conv => whnf) | (refine Exists.intro _ (And.intro (aAwake) ?_); conv => whnf) | ((with_reducible refine GOr.l ?_); (conv => whnf); refine Exists.intro _ (And.intro (chainI (aAwake)) ?_); conv => whnf) | (refine Exists.intro _ (And.intro (chainI (G1)) ?_); conv => whnf) | (refine Exists.intro _ (And.intro (G1) ?_); conv => whnf) | ((with_reducible refine GOr.l ?_); (conv => whnf); refine Exists.intro _ (And.intro (chainI (G1)) ?_); conv => whnf) | (refine Exists.intro _ (And.intro (chainI (G2)) ?_); conv => whnf) | (refine Exists.intro _ (And.intro (G2) ?_); conv => whnf) | ((with_reducible refine GOr.l ?_); (conv => whnf); refine Exists.intro _ (And.intro (chainI (G2)) ?_); conv => whnf) | (refine Exists.intro _ (And.intro (chainI (N1)) ?_); conv => whnf) | (refine Exists.intro _ (And.intro (N1) ?_); conv => whnf) | ((with_reducible refine GOr.l ?_); (conv => whnf); refine Exists.intro _ (And.intro (chainI (N1)) ?_); conv => whnf) | (refine Exists.intro _ (And.intro (chainI (N2)) ?_); conv => whnf) | (refine Exists.intro _ (And.intro (N2) ?_); conv => whnf) | ((with_reducible refine GOr.l ?_); (conv => whnf); refine Exists.intro _ (And.intro (chainI (N2)) ?_); conv => whnf) | (refine Exists.intro _ (And.intro (chainI (L1)) ?_); conv => whnf) | (refine Exists.intro _ (And.intro (L1) ?_); conv => whnf) | ((with_reducible refine GOr.l ?_); (conv => whnf); refine Exists.intro _ (And.intro (chainI (L1)) ?_); conv => whnf) | (refine Exists.intro _ (And.intro (chainI (L2)) ?_); conv => whnf) | (refine Exists.intro _ (And.intro (L2) ?_); conv => whnf) | ((with_reducible refine GOr.l ?_); (conv => whnf); refine Exists.intro _ (And.intro (chainI (L2)) ?_); conv => whnf) | (refine Exists.intro _ (And.intro (chainI (Bo)) ?_); conv => whnf) | (refine Exists.intro _ (And.intro (Bo) ?_); conv => whnf) | ((with_reducible refine GOr.l ?_); (conv => whnf); refine Exists.intro _ (And.intro (chainI (Bo)) ?_); conv => whnf) | (refine Exists.intro _ (And.intro (chainI (nLen)) ?_); conv => whnf) | (refine Exists.intro _ (And.intro (nLen) ?_); conv => whnf) | ((with_reducible refine GOr.l ?_); (conv => whnf); refine Exists.intro _ (And.intro (chainI (nLen)) ?_); conv => whnf) | (refine Exists.intro _ (And.intro (chainI (nTurned)) ?_); conv => whnf) | (refine Exists.intro _ (And.intro (nTurned) ?_); conv => whnf) | ((with_reducible refine GOr.l ?_); (conv => whnf); refine Exists.intro _ (And.intro (chainI (nTurned)) ?_); conv => whnf) | (refine Exists.intro _ (And.intro (chainI (nAhead)) ?_); conv => whnf) | (refine Exists.intro _ (And.intro (nAhead) ?_); conv => whnf) | ((with_reducible refine GOr.l ?_); (conv => whnf); refine Exists.intro _ (And.intro (chainI (nAhead)) ?_); conv => whnf) | (refine Exists.intro _ (And.intro (chainI (nUnder _)) ?_); conv => whnf) | (refine Exists.intro _ (And.intro (nUnder _) ?_); conv => whnf) | ((with_reducible refine GOr.l ?_); (conv => whnf); refine Exists.intro _ (And.intro (chainI (nUnder _)) ?_); conv => whnf) | (refine Exists.intro _ (And.intro (chainI (nOver _)) ?_); conv => whnf) | (refine Exists.intro _ (And.intro (nOver _) ?_); conv => whnf) | ((with_reducible refine GOr.l ?_); (conv => whnf); refine Exists.intro _ (And.intro (chainI (nOver _)) ?_); conv => whnf) | (refine Exists.intro _ (And.intro (chainI (nBoth)) ?_); conv => whnf) | (refine Exists.intro _ (And.intro (nBoth) ?_); conv => whnf) | ((with_reducible refine GOr.l ?_); (conv => whnf); refine Exists.intro _ (And.intro (chainI (nBoth)) ?_); conv => whnf) | (refine And.intro (fun h => ?_) (fun h => ?_) <;> (first | (with_reducible have hd : _ < _ := of_decide_eq_true h) | (with_reducible have hd : _ ≤ _ := of_decide_eq_true h) | (with_reducible have hd : ¬ (_ < _) := of_decide_eq_false h) | (with_reducible have hd : ¬ (_ ≤ _) := of_decide_eq_false h) | skip) <;> (first | exact absurd h (by decide) | first | exact Bool.noConfusion (h.symm.trans hz) | exact Bool.noConfusion (h.symm.trans hne) | exact Bool.noConfusion (h.symm.trans hne2) | exact absurd hd hB1 | exact absurd hB1.2 hd | (conv => whnf))) | ((with_reducible refine Both.mk ?_ ?_) <;> conv => whnf) | ((with_reducible refine DOr.l ?_); (conv => whnf)) | ((with_reducible refine OwnOr.l ?_); (conv => whnf)) | (refine And.intro ?_ ?_; (focus (first | exact trivial | exact rfl | (first | exact hB | exact hB1 | exact hC | exact chainI hB | assumption) | (refine chainI ?_; (first | (first | exact hB | exact hB1 | exact hC | exact chainI hB | assumption) | decide | omega | (refine And.intro ?_ ?_ <;> first | omega | (simp; omega)) | (simp only [IntKind.wrap_i64]; first | omega | (refine And.intro ?_ ?_ <;> omega)))) | (intro _; (first | (first | exact hB | exact hB1 | exact hC | exact chainI hB | assumption) | decide | omega | (refine And.intro ?_ ?_ <;> first | omega | (simp; omega)) | (simp only [IntKind.wrap_i64]; first | omega | (refine And.intro ?_ ?_ <;> omega)))) | (intro _ _; (first | (first | exact hB | exact hB1 | exact hC | exact chainI hB | assumption) | decide | omega | (refine And.intro ?_ ?_ <;> first | omega | (simp; omega)) | (simp only [IntKind.wrap_i64]; first | omega | (refine And.intro ?_ ?_ <;> omega)))) | (first | decide | omega | (refine And.intro ?_ ?_ <;> first | omega | (simp; omega)) | (simp only [IntKind.wrap_i64]; first | omega | (refine And.intro ?_ ?_ <;> omega))) | ((conv => whnf); intros; (try simp only [decide_eq_true_eq, decide_eq_false_iff_not, Bool.and_eq_true, Bool.or_eq_true, Bool.and_eq_false_imp, Bool.or_eq_false_iff, Bool.not_eq_true', Bool.not_eq_false', beq_iff_eq, bne_iff_ne, ne_eq] at *); (first | (first | exact hB | exact hB1 | exact hC | exact chainI hB | assumption) | decide | omega | (refine And.intro ?_ ?_ <;> first | omega | (simp; omega)) | (simp only [IntKind.wrap_i64]; first | omega | (refine And.intro ?_ ?_ <;> omega)))))); conv => whnf) | (refine And.intro ?_ ?_; (focus (first | exact NoTag.int | exact NoTag.bool | exact NoTag.str | (refine NoTag.of_scalar ?_; rfl))); conv => whnf) | ((with_reducible refine xc_pure ?_); conv => whnf) | (rw [hz]; conv => whnf))
    all_goals exact leB rfl
end Go.Proofs.YtbddpnohacjjfaaDoor
