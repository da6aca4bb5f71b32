/- Contracts of functions of the program, and the laws that stand on them: what each function answers, whatever its arguments. -/
import Derived.Test.YtnciaeadkbnppaaDoorX6
import Derived.Test.YtnciaeadkbnppaaDoorVD
set_option linter.unusedSectionVars false
set_option linter.unnecessarySimpa false
namespace Go.Proofs.YtnciaeadkbnppaaDoor
set_option linter.unusedSimpArgs false
set_option linter.unusedVariables false
set_option maxRecDepth 100000
set_option maxHeartbeats 8000000
open Go Go.VA
theorem kyPl : KeyS Tryd.prog 63 [8, 8] := keyS_of (d := 5) (by kernel_rfl) (by kernel_rfl)
def entK (r : Rw) : Value := .agg #[.string r.t, .string r.n]
def entV (r : Rw) : AV := .ag (cAw (awOf r))
def entM (n : Nat) : List (Value × AV) := (tabR.take n).map fun r => (entK r, entV r)
theorem mOk_ents : ∀ l : List Rw, mOkS [8, 8] (l.map fun r => (entK r, entV r)) = true
  | [] => rfl
  | _ :: l => mOk_ents l
theorem mPut_new {k : Value} {y : AV} : ∀ {m : List (Value × AV)}, mFind k m = none → mPut k y m = m ++ [(k, y)]
  | [], _ => rfl
  | p :: r, h => by
    simp only [mFind] at h
    split at h
    · simp at h
    · rename_i hq
      simp only [mPut, hq, List.cons_append]
      rw [mPut_new h]
theorem mFind_none {k : Value} : ∀ {m : List (Value × AV)}, (∀ p ∈ m, keqV k p.1 = false) → mFind k m = none
  | [], _ => rfl
  | p :: r, h => by simp only [mFind, h p (by simp)]; exact mFind_none fun q hq => h q (by simp [hq])
theorem keq_ent (t n : ByteArray) (r : Rw) : keqV (.agg #[.string t, .string n]) (entK r) = (eqs r.t t && eqs r.n n) := by
  have e (a b : ByteArray) : (a == b) = eqs b a := by
    rw [Bool.eq_iff_iff, ba_beq, eqs_iff]
    exact ⟨fun h => h.symm, fun h => h.symm⟩
  show (match eqVs [Value.string t, Value.string n] [Value.string r.t, Value.string r.n] with | some q => q | none => false) = _
  show ((t == r.t) && ((n == r.n) && true)) = _
  rw [e, e, Bool.and_true]
theorem ent_next (c : Nat) (h : c < 19) : mPut (entK (tabR.getD c rw0)) (entV (tabR.getD c rw0)) (entM c) = entM (c + 1) := by
  have hn : ∀ c < 19, (tabR.take c).all (fun p => !(decide (p.t = (tabR.getD c rw0).t) && decide (p.n = (tabR.getD c rw0).n))) = true := by decide +kernel
  rw [mPut_new (mFind_none fun p hp => ?_)]
  · have hc : tabR[c]? = some (tabR.getD c rw0) := by
      have hl : c < tabR.length := h
      rw [List.getD_eq_getElem?_getD, List.getElem?_eq_getElem hl]; rfl
    unfold entM
    rw [take_snoc? hc, List.map_append]; rfl
  · have := List.all_eq_true.1 (hn c h)
    simp only [entM, List.mem_map] at hp
    obtain ⟨q, hq, rfl⟩ := hp
    have := this q hq
    show keqV (.agg #[.string (tabR.getD c rw0).t, .string (tabR.getD c rw0).n]) (entK q) = false
    rw [keq_ent]
    rw [Bool.not_eq_true', Bool.and_eq_false_iff, decide_eq_false_iff_not, decide_eq_false_iff_not] at this
    rw [Bool.and_eq_false_iff]
    rcases this with h | h
    · exact .inl (Bool.eq_false_iff.2 fun hh => h (eqs_iff.1 hh))
    · exact .inr (Bool.eq_false_iff.2 fun hh => h (eqs_iff.1 hh))
theorem mFind_ents (t n : ByteArray) : ∀ l : List Rw, mFind (.agg #[.string t, .string n]) (l.map fun r => (entK r, entV r)) = (((l.filter fun r => eqs r.t t).map awOf).find? fun y => eqs y.n n).map fun a => .ag (cAw a)
  | [] => rfl
  | r :: l => by
    simp only [List.map_cons, mFind, keq_ent]
    rw [List.filter_cons]
    cases h1 : eqs r.t t
    · rw [Bool.false_and, if_neg (by decide)]
      exact mFind_ents t n l
    · rw [Bool.true_and, if_pos rfl, List.map_cons, List.find?_cons]
      have e : (awOf r).n = r.n := rfl
      rw [e]
      cases h2 : eqs r.n n
      · exact mFind_ents t n l
      · rfl
def fndA (t n : ByteArray) : Aw := (findA t n).getD aw0
theorem ent_law (t n : ByteArray) : MFind (.agg #[.string t, .string n]) (.ag (consC (tb 31).zero)) (entM 19) (.ag (cAw (fndA t n)), (findA t n).isSome) := by
  unfold MFind
  have e : entM 19 = tabR.map fun r => (entK r, entV r) := by unfold entM; rw [List.take_of_length_le (by decide)]
  have ea : (((tabR.filter fun r => eqs r.t t).map awOf).find? fun y => eqs y.n n) = findA t n := by
    unfold findA atN
    rw [List.take_of_length_le (by decide)]
  rw [e, mFind_ents, ea]
  unfold fndA
  cases findA t n with
  | none => exact ⟨Le.refl _, rfl⟩
  | some p => exact ⟨Le.refl _, rfl⟩
def offT (c : Nat) : Nat := [0, 5, 12, 15, 19].getD c 0
theorem seg_t (c : Nat) (h : c < 4) : tyB (tyL.getD c ByteArray.empty) = true ∧ offT (c + 1) = offT c + (atN (tyL.getD c ByteArray.empty) 19).length ∧ offT (c + 1) ≤ 19 ∧
    ∀ d, d < (atN (tyL.getD c ByteArray.empty) 19).length → entK (tabR.getD (offT c + d) rw0) = .agg #[.string (tyL.getD c ByteArray.empty), .string (atI (tyL.getD c ByteArray.empty) d).n] ∧ awOf (tabR.getD (offT c + d) rw0) = atI (tyL.getD c ByteArray.empty) d := by
  match c, h with
  | 0, _ => exact ⟨by decide +kernel, by show 5 = 0 + (atN nmD 19).length; rw [atN_D]; rfl, by decide, fun d hd => by
      have hd : d < (atN nmD 19).length := hd
      show _ = Value.agg #[.string nmD, .string (atI nmD d).n] ∧ _ = atI nmD d
      unfold atI; rw [atN_D] at hd ⊢
      match d, hd with | 0, _ => exact ⟨rfl, by kernel_rfl⟩ | 1, _ => exact ⟨rfl, by kernel_rfl⟩ | 2, _ => exact ⟨rfl, by kernel_rfl⟩ | 3, _ => exact ⟨rfl, by kernel_rfl⟩ | 4, _ => exact ⟨rfl, by kernel_rfl⟩⟩
  | 1, _ => exact ⟨by decide +kernel, by show 12 = 5 + (atN nmN 19).length; rw [atN_N]; rfl, by decide, fun d hd => by
      have hd : d < (atN nmN 19).length := hd
      show _ = Value.agg #[.string nmN, .string (atI nmN d).n] ∧ _ = atI nmN d
      unfold atI; rw [atN_N] at hd ⊢
      match d, hd with | 0, _ => exact ⟨rfl, by kernel_rfl⟩ | 1, _ => exact ⟨rfl, by kernel_rfl⟩ | 2, _ => exact ⟨rfl, by kernel_rfl⟩ | 3, _ => exact ⟨rfl, by kernel_rfl⟩ | 4, _ => exact ⟨rfl, by kernel_rfl⟩ | 5, _ => exact ⟨rfl, by kernel_rfl⟩ | 6, _ => exact ⟨rfl, by kernel_rfl⟩⟩
  | 2, _ => exact ⟨by decide +kernel, by show 15 = 12 + (atN nmO 19).length; rw [atN_O]; rfl, by decide, fun d hd => by
      have hd : d < (atN nmO 19).length := hd
      show _ = Value.agg #[.string nmO, .string (atI nmO d).n] ∧ _ = atI nmO d
      unfold atI; rw [atN_O] at hd ⊢
      match d, hd with | 0, _ => exact ⟨rfl, by kernel_rfl⟩ | 1, _ => exact ⟨rfl, by kernel_rfl⟩ | 2, _ => exact ⟨rfl, by kernel_rfl⟩⟩
  | 3, _ => exact ⟨by decide +kernel, by show 19 = 15 + (atN nmR 19).length; rw [atN_R]; rfl, by decide, fun d hd => by
      have hd : d < (atN nmR 19).length := hd
      show _ = Value.agg #[.string nmR, .string (atI nmR d).n] ∧ _ = atI nmR d
      unfold atI; rw [atN_R] at hd ⊢
      match d, hd with | 0, _ => exact ⟨rfl, by kernel_rfl⟩ | 1, _ => exact ⟨rfl, by kernel_rfl⟩ | 2, _ => exact ⟨rfl, by kernel_rfl⟩ | 3, _ => exact ⟨rfl, by kernel_rfl⟩⟩
theorem leMs {a b : List (Value × AV)} (h : a = b) : LeMs a b := h ▸ LeMs.refl _
theorem mOkP_ent (n : Nat) : mOkS [8, 8] (entM n) = true := mOk_ents _
theorem aFindP (t n : ByteArray) : ACall Tryd.prog gl 9 [.c (.v (.string t)), .c (.v (.string n))] [] (.tup [.ag (cAw (fndA t n)), intA .i64 (if (findA t n).isSome then 0 else 9)]) := by
  have LAW := ent_law t n
  refine acall_of_vc htb hmix (f := 9) rfl rfl rfl (by kernel_rfl) rfl rfl ?_; conv => whnf
  repeat' (first | (refine Exists.intro _ (And.intro (chainI (aTypes)) ?_); conv => whnf) | (refine Exists.intro _ (And.intro (aTypes) ?_); conv => whnf) | ((with_reducible refine GOr.l ?_); (conv => whnf); refine Exists.intro _ (And.intro (chainI (aTypes)) ?_); conv => whnf) | (refine And.intro (fun h => ?_) (fun h => ?_) <;> (first | (with_reducible have hd : _ < _ := of_decide_eq_true h) | (with_reducible have hd : _ ≤ _ := of_decide_eq_true h) | (with_reducible have hd : ¬ (_ < _) := of_decide_eq_false h) | (with_reducible have hd : ¬ (_ ≤ _) := of_decide_eq_false h) | skip) <;> (first | exact absurd h (by decide) | (first | exact Bool.noConfusion (hq.symm.trans h) | omega) | (conv => whnf))) | ((with_reducible refine Both.mk ?_ ?_) <;> conv => whnf) | ((with_reducible refine DOg.l ?_); (conv => whnf)) | ((with_reducible refine DOr.l ?_); (conv => whnf)) | ((with_reducible refine NilOr.l ?_); conv => whnf) | ((with_reducible refine OwnOr.l ?_); (conv => whnf)) | ((with_reducible apply Drawn.one); conv => whnf) | ((with_reducible refine Then.mk' ?_); conv => whnf) | (first | exact RefS.self rfl | ((with_reducible refine RefS.mk ?_ ?_); (focus (refine And.intro ?_ (And.intro ?_ (And.intro ?_ rfl)) <;> (conv => whnf) <;> repeat' (first | exact trivial | exact LeE.of (Le.refl _) | exact LeE.nil rfl | (with_reducible refine LeE.of ?_) | (first | first | exact leMs e | exact leI e2 | exact Le.refl _ | exact rfl | exact leI (by first | rfl | omega | (rw [wrap64 (by omega) (by omega)]; omega) | (rw [wrap64 (by omega) (by omega)]; done)) | exact LeCs.refl _ | exact fun i hi => LeCs.refl _ | exact leOwn (by first | rfl | omega)) | ((with_reducible refine And.intro ?_ ?_) <;> conv => whnf)))); exact rfl)) | (refine And.intro ?_ ?_; (focus (first | exact trivial | exact rfl | (first | exact seT | exact sePl | exact kyPl | exact mOkP_ent _ | exact hC | exact hM | exact fun _ => hC | exact chainI hC | exact chainI hM | assumption) | (refine chainI ?_; (first | (first | exact seT | exact sePl | exact kyPl | exact mOkP_ent _ | exact hC | exact hM | exact fun _ => hC | exact chainI hC | exact chainI hM | assumption) | decide | omega | (refine And.intro ?_ ?_ <;> first | omega | (simp; omega)) | (simp only [IntKind.wrap_i64]; first | omega | (refine And.intro ?_ ?_ <;> omega)))) | (intro _; (first | (first | exact seT | exact sePl | exact kyPl | exact mOkP_ent _ | exact hC | exact hM | exact fun _ => hC | exact chainI hC | exact chainI hM | assumption) | decide | omega | (refine And.intro ?_ ?_ <;> first | omega | (simp; omega)) | (simp only [IntKind.wrap_i64]; first | omega | (refine And.intro ?_ ?_ <;> omega)))) | (intro _ _; (first | (first | exact seT | exact sePl | exact kyPl | exact mOkP_ent _ | exact hC | exact hM | exact fun _ => hC | exact chainI hC | exact chainI hM | assumption) | decide | omega | (refine And.intro ?_ ?_ <;> first | omega | (simp; omega)) | (simp only [IntKind.wrap_i64]; first | omega | (refine And.intro ?_ ?_ <;> omega)))) | (first | decide | omega | (refine And.intro ?_ ?_ <;> first | omega | (simp; omega)) | (simp only [IntKind.wrap_i64]; first | omega | (refine And.intro ?_ ?_ <;> omega))) | ((conv => whnf); intros; (try simp only [decide_eq_true_eq, decide_eq_false_iff_not, Bool.and_eq_true, Bool.or_eq_true, Bool.and_eq_false_imp, Bool.or_eq_false_iff, Bool.not_eq_true', Bool.not_eq_false', beq_iff_eq, bne_iff_ne, ne_eq] at *); (first | (first | exact seT | exact sePl | exact kyPl | exact mOkP_ent _ | exact hC | exact hM | exact fun _ => hC | exact chainI hC | exact chainI hM | assumption) | decide | omega | (refine And.intro ?_ ?_ <;> first | omega | (simp; omega)) | (simp only [IntKind.wrap_i64]; first | omega | (refine And.intro ?_ ?_ <;> omega)))))); conv => whnf) | (refine And.intro ?_ ?_; (focus (first | exact NoTag.int | exact NoTag.bool | exact NoTag.str | (refine NoTag.of_scalar ?_; rfl))); conv => whnf) | ((with_reducible refine xc_guard ?_); refine xc_in (f := 32) htb hmix rfl rfl rfl (by kernel_rfl) rfl ?_; intro vs; conv => whnf) | ((with_reducible refine GOr.r ?_); conv => whnf) | ((with_reducible refine xc_pure ?_); conv => whnf))
  refine loopI Nat (· ≤ 4) (fun c => [(9, intA .i64 c)]) (fun c => [.box (boxC (tb 31).zero), .amb vs [.c (.v (.int .i64 0)), .ptr 0 0, .c (.v (.string t)), .c (.v (.string n))], .mp (entM (offT c))]) (fun c => 4 - c) 0 (Nat.zero_le _) ?_ (fun _ => rfl) fun c (hc : c ≤ 4) => ?_
  · (refine And.intro ?_ (And.intro ?_ (And.intro ?_ rfl)) <;> (conv => whnf) <;> repeat' (first | exact trivial | exact LeE.of (Le.refl _) | exact LeE.nil rfl | (with_reducible refine LeE.of ?_) | (first | first | exact leMs e | exact leI e2 | exact Le.refl _ | exact rfl | exact leI (by first | rfl | omega | (rw [wrap64 (by omega) (by omega)]; omega) | (rw [wrap64 (by omega) (by omega)]; done)) | exact LeCs.refl _ | exact fun i hi => LeCs.refl _ | exact leOwn (by first | rfl | omega)) | ((with_reducible refine And.intro ?_ ?_) <;> conv => whnf)))
  · by_cases hcn : c < 4
    · obtain ⟨ht, ho, ho2, hseg⟩ := seg_t c hcn
      have A := aAttrsY _ ht
      have hC : (0 : Int) ≤ (c : Int) ∧ (c : Int) < ((4 : Nat) : Int) := by omega
      conv => whnf
      repeat' (first | (refine Exists.intro _ (And.intro (chainI (A)) ?_); conv => whnf) | (refine Exists.intro _ (And.intro (A) ?_); conv => whnf) | ((with_reducible refine GOr.l ?_); (conv => whnf); refine Exists.intro _ (And.intro (chainI (A)) ?_); conv => whnf) | (refine And.intro (fun h => ?_) (fun h => ?_) <;> (first | (with_reducible have hd : _ < _ := of_decide_eq_true h) | (with_reducible have hd : _ ≤ _ := of_decide_eq_true h) | (with_reducible have hd : ¬ (_ < _) := of_decide_eq_false h) | (with_reducible have hd : ¬ (_ ≤ _) := of_decide_eq_false h) | skip) <;> (first | exact absurd h (by decide) | (first | exact Bool.noConfusion (hq.symm.trans h) | omega) | (conv => whnf))) | ((with_reducible refine Both.mk ?_ ?_) <;> conv => whnf) | ((with_reducible refine DOg.l ?_); (conv => whnf)) | ((with_reducible refine DOr.l ?_); (conv => whnf)) | ((with_reducible refine NilOr.l ?_); conv => whnf) | ((with_reducible refine OwnOr.l ?_); (conv => whnf)) | (refine And.intro ?_ ?_; (focus (first | exact trivial | exact rfl | (first | exact seT | exact sePl | exact kyPl | exact mOkP_ent _ | exact hC | exact hM | exact fun _ => hC | exact chainI hC | exact chainI hM | assumption) | (refine chainI ?_; (first | (first | exact seT | exact sePl | exact kyPl | exact mOkP_ent _ | exact hC | exact hM | exact fun _ => hC | exact chainI hC | exact chainI hM | assumption) | decide | omega | (refine And.intro ?_ ?_ <;> first | omega | (simp; omega)) | (simp only [IntKind.wrap_i64]; first | omega | (refine And.intro ?_ ?_ <;> omega)))) | (intro _; (first | (first | exact seT | exact sePl | exact kyPl | exact mOkP_ent _ | exact hC | exact hM | exact fun _ => hC | exact chainI hC | exact chainI hM | assumption) | decide | omega | (refine And.intro ?_ ?_ <;> first | omega | (simp; omega)) | (simp only [IntKind.wrap_i64]; first | omega | (refine And.intro ?_ ?_ <;> omega)))) | (intro _ _; (first | (first | exact seT | exact sePl | exact kyPl | exact mOkP_ent _ | exact hC | exact hM | exact fun _ => hC | exact chainI hC | exact chainI hM | assumption) | decide | omega | (refine And.intro ?_ ?_ <;> first | omega | (simp; omega)) | (simp only [IntKind.wrap_i64]; first | omega | (refine And.intro ?_ ?_ <;> omega)))) | (first | decide | omega | (refine And.intro ?_ ?_ <;> first | omega | (simp; omega)) | (simp only [IntKind.wrap_i64]; first | omega | (refine And.intro ?_ ?_ <;> omega))) | ((conv => whnf); intros; (try simp only [decide_eq_true_eq, decide_eq_false_iff_not, Bool.and_eq_true, Bool.or_eq_true, Bool.and_eq_false_imp, Bool.or_eq_false_iff, Bool.not_eq_true', Bool.not_eq_false', beq_iff_eq, bne_iff_ne, ne_eq] at *); (first | (first | exact seT | exact sePl | exact kyPl | exact mOkP_ent _ | exact hC | exact hM | exact fun _ => hC | exact chainI hC | exact chainI hM | assumption) | decide | omega | (refine And.intro ?_ ?_ <;> first | omega | (simp; omega)) | (simp only [IntKind.wrap_i64]; first | omega | (refine And.intro ?_ ?_ <;> omega)))))); conv => whnf) | (refine And.intro ?_ ?_; (focus (first | exact NoTag.int | exact NoTag.bool | exact NoTag.str | (refine NoTag.of_scalar ?_; rfl))); conv => whnf) | ((with_reducible refine xc_pure ?_); conv => whnf))
      refine loopI Nat (· ≤ (atN (tyL.getD c ByteArray.empty) 19).length) (fun d => [(16, intA .i64 d)]) (fun d => [.box (boxC (tb 31).zero), .amb vs [.c (.v (.int .i64 0)), .ptr 0 0, .c (.v (.string t)), .c (.v (.string n))], .mp (entM (offT c + d))]) (fun d => (atN (tyL.getD c ByteArray.empty) 19).length - d) 0 (Nat.zero_le _) ?_ (fun _ => rfl) fun d (hd : d ≤ (atN (tyL.getD c ByteArray.empty) 19).length) => ?_
      · (refine And.intro ?_ (And.intro ?_ (And.intro ?_ rfl)) <;> (conv => whnf) <;> repeat' (first | exact trivial | exact LeE.of (Le.refl _) | exact LeE.nil rfl | (with_reducible refine LeE.of ?_) | (first | first | exact leMs e | exact leI e2 | exact Le.refl _ | exact rfl | exact leI (by first | rfl | omega | (rw [wrap64 (by omega) (by omega)]; omega) | (rw [wrap64 (by omega) (by omega)]; done)) | exact LeCs.refl _ | exact fun i hi => LeCs.refl _ | exact leOwn (by first | rfl | omega)) | ((with_reducible refine And.intro ?_ ?_) <;> conv => whnf)))
        exact leMs rfl
      · by_cases hdn : d < (atN (tyL.getD c ByteArray.empty) 19).length
        · have hM : (0 : Int) ≤ (d : Int) ∧ (d : Int) < ((atN (tyL.getD c ByteArray.empty) 19).length : Int) := by omega
          have e2 : IntKind.i64.wrap ((d : Int) + 1) = ((d + 1 : Nat) : Int) := by rw [wrap64 (by omega) (by omega)]; omega
          obtain ⟨q1, q2⟩ := hseg d hdn
          have e := ent_next (offT c + d) (by omega)
          unfold entV at e
          rw [q1, q2] at e
          conv => whnf
          repeat' (first | (refine And.intro (fun h => ?_) (fun h => ?_) <;> (first | (with_reducible have hd : _ < _ := of_decide_eq_true h) | (with_reducible have hd : _ ≤ _ := of_decide_eq_true h) | (with_reducible have hd : ¬ (_ < _) := of_decide_eq_false h) | (with_reducible have hd : ¬ (_ ≤ _) := of_decide_eq_false h) | skip) <;> (first | exact absurd h (by decide) | (first | exact Bool.noConfusion (hq.symm.trans h) | omega) | (conv => whnf))) | ((with_reducible refine Both.mk ?_ ?_) <;> conv => whnf) | ((with_reducible refine DOg.l ?_); (conv => whnf)) | ((with_reducible refine DOr.l ?_); (conv => whnf)) | ((with_reducible refine NilOr.l ?_); conv => whnf) | ((with_reducible refine OwnOr.l ?_); (conv => whnf)) | (refine And.intro ?_ ?_; (focus (first | exact trivial | exact rfl | (first | exact seT | exact sePl | exact kyPl | exact mOkP_ent _ | exact hC | exact hM | exact fun _ => hC | exact chainI hC | exact chainI hM | assumption) | (refine chainI ?_; (first | (first | exact seT | exact sePl | exact kyPl | exact mOkP_ent _ | exact hC | exact hM | exact fun _ => hC | exact chainI hC | exact chainI hM | assumption) | decide | omega | (refine And.intro ?_ ?_ <;> first | omega | (simp; omega)) | (simp only [IntKind.wrap_i64]; first | omega | (refine And.intro ?_ ?_ <;> omega)))) | (intro _; (first | (first | exact seT | exact sePl | exact kyPl | exact mOkP_ent _ | exact hC | exact hM | exact fun _ => hC | exact chainI hC | exact chainI hM | assumption) | decide | omega | (refine And.intro ?_ ?_ <;> first | omega | (simp; omega)) | (simp only [IntKind.wrap_i64]; first | omega | (refine And.intro ?_ ?_ <;> omega)))) | (intro _ _; (first | (first | exact seT | exact sePl | exact kyPl | exact mOkP_ent _ | exact hC | exact hM | exact fun _ => hC | exact chainI hC | exact chainI hM | assumption) | decide | omega | (refine And.intro ?_ ?_ <;> first | omega | (simp; omega)) | (simp only [IntKind.wrap_i64]; first | omega | (refine And.intro ?_ ?_ <;> omega)))) | (first | decide | omega | (refine And.intro ?_ ?_ <;> first | omega | (simp; omega)) | (simp only [IntKind.wrap_i64]; first | omega | (refine And.intro ?_ ?_ <;> omega))) | ((conv => whnf); intros; (try simp only [decide_eq_true_eq, decide_eq_false_iff_not, Bool.and_eq_true, Bool.or_eq_true, Bool.and_eq_false_imp, Bool.or_eq_false_iff, Bool.not_eq_true', Bool.not_eq_false', beq_iff_eq, bne_iff_ne, ne_eq] at *); (first | (first | exact seT | exact sePl | exact kyPl | exact mOkP_ent _ | exact hC | exact hM | exact fun _ => hC | exact chainI hC | exact chainI hM | assumption) | decide | omega | (refine And.intro ?_ ?_ <;> first | omega | (simp; omega)) | (simp only [IntKind.wrap_i64]; first | omega | (refine And.intro ?_ ?_ <;> omega)))))); conv => whnf) | (refine And.intro ?_ ?_; (focus (first | exact NoTag.int | exact NoTag.bool | exact NoTag.str | (refine NoTag.of_scalar ?_; rfl))); conv => whnf))
          refine ⟨d + 1, hdn, ?_, by show (atN (tyL.getD c ByteArray.empty) 19).length - (d + 1) < (atN (tyL.getD c ByteArray.empty) 19).length - d; omega⟩
          (refine And.intro ?_ (And.intro ?_ (And.intro ?_ rfl)) <;> (conv => whnf) <;> repeat' (first | exact trivial | exact LeE.of (Le.refl _) | exact LeE.nil rfl | (with_reducible refine LeE.of ?_) | (first | first | exact leMs e | exact leI e2 | exact Le.refl _ | exact rfl | exact leI (by first | rfl | omega | (rw [wrap64 (by omega) (by omega)]; omega) | (rw [wrap64 (by omega) (by omega)]; done)) | exact LeCs.refl _ | exact fun i hi => LeCs.refl _ | exact leOwn (by first | rfl | omega)) | ((with_reducible refine And.intro ?_ ?_) <;> conv => whnf)))
        · obtain rfl : d = (atN (tyL.getD c ByteArray.empty) 19).length := by omega
          have hq : decide (((atN (tyL.getD c ByteArray.empty) 19).length : Int) < ((atN (tyL.getD c ByteArray.empty) 19).length : Int)) = false := decide_eq_false (by omega)
          conv => whnf
          repeat' (first | (refine And.intro (fun h => ?_) (fun h => ?_) <;> (first | (with_reducible have hd : _ < _ := of_decide_eq_true h) | (with_reducible have hd : _ ≤ _ := of_decide_eq_true h) | (with_reducible have hd : ¬ (_ < _) := of_decide_eq_false h) | (with_reducible have hd : ¬ (_ ≤ _) := of_decide_eq_false h) | skip) <;> (first | exact absurd h (by decide) | (first | exact Bool.noConfusion (hq.symm.trans h) | omega) | (conv => whnf))) | ((with_reducible refine Both.mk ?_ ?_) <;> conv => whnf) | ((with_reducible refine DOg.l ?_); (conv => whnf)) | ((with_reducible refine DOr.l ?_); (conv => whnf)) | ((with_reducible refine NilOr.l ?_); conv => whnf) | ((with_reducible refine OwnOr.l ?_); (conv => whnf)) | (refine And.intro ?_ ?_; (focus (first | exact trivial | exact rfl | (first | exact seT | exact sePl | exact kyPl | exact mOkP_ent _ | exact hC | exact hM | exact fun _ => hC | exact chainI hC | exact chainI hM | assumption) | (refine chainI ?_; (first | (first | exact seT | exact sePl | exact kyPl | exact mOkP_ent _ | exact hC | exact hM | exact fun _ => hC | exact chainI hC | exact chainI hM | assumption) | decide | omega | (refine And.intro ?_ ?_ <;> first | omega | (simp; omega)) | (simp only [IntKind.wrap_i64]; first | omega | (refine And.intro ?_ ?_ <;> omega)))) | (intro _; (first | (first | exact seT | exact sePl | exact kyPl | exact mOkP_ent _ | exact hC | exact hM | exact fun _ => hC | exact chainI hC | exact chainI hM | assumption) | decide | omega | (refine And.intro ?_ ?_ <;> first | omega | (simp; omega)) | (simp only [IntKind.wrap_i64]; first | omega | (refine And.intro ?_ ?_ <;> omega)))) | (intro _ _; (first | (first | exact seT | exact sePl | exact kyPl | exact mOkP_ent _ | exact hC | exact hM | exact fun _ => hC | exact chainI hC | exact chainI hM | assumption) | decide | omega | (refine And.intro ?_ ?_ <;> first | omega | (simp; omega)) | (simp only [IntKind.wrap_i64]; first | omega | (refine And.intro ?_ ?_ <;> omega)))) | (first | decide | omega | (refine And.intro ?_ ?_ <;> first | omega | (simp; omega)) | (simp only [IntKind.wrap_i64]; first | omega | (refine And.intro ?_ ?_ <;> omega))) | ((conv => whnf); intros; (try simp only [decide_eq_true_eq, decide_eq_false_iff_not, Bool.and_eq_true, Bool.or_eq_true, Bool.and_eq_false_imp, Bool.or_eq_false_iff, Bool.not_eq_true', Bool.not_eq_false', beq_iff_eq, bne_iff_ne, ne_eq] at *); (first | (first | exact seT | exact sePl | exact kyPl | exact mOkP_ent _ | exact hC | exact hM | exact fun _ => hC | exact chainI hC | exact chainI hM | assumption) | decide | omega | (refine And.intro ?_ ?_ <;> first | omega | (simp; omega)) | (simp only [IntKind.wrap_i64]; first | omega | (refine And.intro ?_ ?_ <;> omega)))))); conv => whnf) | (refine And.intro ?_ ?_; (focus (first | exact NoTag.int | exact NoTag.bool | exact NoTag.str | (refine NoTag.of_scalar ?_; rfl))); conv => whnf))
          have e2 : IntKind.i64.wrap ((c : Int) + 1) = ((c + 1 : Nat) : Int) := by rw [wrap64 (by omega) (by omega)]; omega
          refine ⟨c + 1, hcn, ?_, by show 4 - (c + 1) < 4 - c; omega⟩
          rw [← ho]
          have e : entM (offT (c + 1)) = entM (offT (c + 1)) := rfl
          (refine And.intro ?_ (And.intro ?_ (And.intro ?_ rfl)) <;> (conv => whnf) <;> repeat' (first | exact trivial | exact LeE.of (Le.refl _) | exact LeE.nil rfl | (with_reducible refine LeE.of ?_) | (first | first | exact leMs e | exact leI e2 | exact Le.refl _ | exact rfl | exact leI (by first | rfl | omega | (rw [wrap64 (by omega) (by omega)]; omega) | (rw [wrap64 (by omega) (by omega)]; done)) | exact LeCs.refl _ | exact fun i hi => LeCs.refl _ | exact leOwn (by first | rfl | omega)) | ((with_reducible refine And.intro ?_ ?_) <;> conv => whnf)))
    · obtain rfl : c = 4 := by omega
      have hq : decide (((4 : Nat) : Int) < ((4 : Nat) : Int)) = false := by decide
      conv => whnf
      repeat' (first | (refine Exists.intro _ (And.intro (chainI (LAW)) ?_); conv => whnf) | (refine Exists.intro _ (And.intro (LAW) ?_); conv => whnf) | ((with_reducible refine GOr.l ?_); (conv => whnf); refine Exists.intro _ (And.intro (chainI (LAW)) ?_); conv => whnf) | (refine And.intro (fun h => ?_) (fun h => ?_) <;> (first | (with_reducible have hd : _ < _ := of_decide_eq_true h) | (with_reducible have hd : _ ≤ _ := of_decide_eq_true h) | (with_reducible have hd : ¬ (_ < _) := of_decide_eq_false h) | (with_reducible have hd : ¬ (_ ≤ _) := of_decide_eq_false h) | skip) <;> (first | exact absurd h (by decide) | (first | exact Bool.noConfusion (hq.symm.trans h) | omega) | (conv => whnf))) | ((with_reducible refine Both.mk ?_ ?_) <;> conv => whnf) | ((with_reducible refine DOg.l ?_); (conv => whnf)) | ((with_reducible refine DOr.l ?_); (conv => whnf)) | ((with_reducible refine NilOr.l ?_); conv => whnf) | ((with_reducible refine OwnOr.l ?_); (conv => whnf)) | (refine And.intro ?_ ?_; (focus (first | exact trivial | exact rfl | (first | exact seT | exact sePl | exact kyPl | exact mOkP_ent _ | exact hC | exact hM | exact fun _ => hC | exact chainI hC | exact chainI hM | assumption) | (refine chainI ?_; (first | (first | exact seT | exact sePl | exact kyPl | exact mOkP_ent _ | exact hC | exact hM | exact fun _ => hC | exact chainI hC | exact chainI hM | assumption) | decide | omega | (refine And.intro ?_ ?_ <;> first | omega | (simp; omega)) | (simp only [IntKind.wrap_i64]; first | omega | (refine And.intro ?_ ?_ <;> omega)))) | (intro _; (first | (first | exact seT | exact sePl | exact kyPl | exact mOkP_ent _ | exact hC | exact hM | exact fun _ => hC | exact chainI hC | exact chainI hM | assumption) | decide | omega | (refine And.intro ?_ ?_ <;> first | omega | (simp; omega)) | (simp only [IntKind.wrap_i64]; first | omega | (refine And.intro ?_ ?_ <;> omega)))) | (intro _ _; (first | (first | exact seT | exact sePl | exact kyPl | exact mOkP_ent _ | exact hC | exact hM | exact fun _ => hC | exact chainI hC | exact chainI hM | assumption) | decide | omega | (refine And.intro ?_ ?_ <;> first | omega | (simp; omega)) | (simp only [IntKind.wrap_i64]; first | omega | (refine And.intro ?_ ?_ <;> omega)))) | (first | decide | omega | (refine And.intro ?_ ?_ <;> first | omega | (simp; omega)) | (simp only [IntKind.wrap_i64]; first | omega | (refine And.intro ?_ ?_ <;> omega))) | ((conv => whnf); intros; (try simp only [decide_eq_true_eq, decide_eq_false_iff_not, Bool.and_eq_true, Bool.or_eq_true, Bool.and_eq_false_imp, Bool.or_eq_false_iff, Bool.not_eq_true', Bool.not_eq_false', beq_iff_eq, bne_iff_ne, ne_eq] at *); (first | (first | exact seT | exact sePl | exact kyPl | exact mOkP_ent _ | exact hC | exact hM | exact fun _ => hC | exact chainI hC | exact chainI hM | assumption) | decide | omega | (refine And.intro ?_ ?_ <;> first | omega | (simp; omega)) | (simp only [IntKind.wrap_i64]; first | omega | (refine And.intro ?_ ?_ <;> omega)))))); conv => whnf) | (refine And.intro ?_ ?_; (focus (first | exact NoTag.int | exact NoTag.bool | exact NoTag.str | (refine NoTag.of_scalar ?_; rfl))); conv => whnf) | ((with_reducible refine xc_pure ?_); conv => whnf))
      · have h : (!(findA t n).isSome) = true := h
        have h : (findA t n).isSome = false := by simpa using h
        have hf : findA t n = none := by simpa using h
        unfold fndA
        rw [hf]
        exact Le.refl _
      · have h : (!(findA t n).isSome) = false := h
        have h : (findA t n).isSome = true := by simpa using h
        rw [h]
        exact Le.refl _
end Go.Proofs.YtnciaeadkbnppaaDoor
