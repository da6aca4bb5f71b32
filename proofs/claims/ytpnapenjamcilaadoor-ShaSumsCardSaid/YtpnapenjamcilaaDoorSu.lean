/- Contracts of functions of the program, and the laws that stand on them: what each function answers, whatever its arguments. -/
import Derived.Test.YtpnapenjamcilaaDoorSj
import Derived.Test.YtpnapenjamcilaaDoorS8
import Derived.Test.YtpnapenjamcilaaDoorC9
set_option linter.unusedSectionVars false
set_option linter.unnecessarySimpa false
namespace Go.Proofs.YtpnapenjamcilaaDoor
set_option linter.unusedSimpArgs false
set_option linter.unusedVariables false
set_option maxRecDepth 100000
set_option maxHeartbeats 8000000
open Go Go.VA
def pickI (c n : Int) : Int := if c.tmod n < 0 then c.tmod n + n else c.tmod n
theorem pick_rg (c n : Int) (h : 1 ≤ n) : 0 ≤ pickI c n ∧ pickI c n < n := by
  unfold pickI
  have h1 := Int.tmod_lt_of_pos c (show 0 < n by omega)
  have h2 : -n < c.tmod n := by
    have := Int.lt_tmod_of_pos c (show 0 < n by omega)
    omega
  split <;> omega
theorem aPick (c n : Int) (h1 : 1 ≤ n) (h2 : n ≤ 4611686018427387904) : ACall Tryd.prog gl 9 [intA .i64 c, intA .i64 n] [] (intA .i64 (pickI c n)) := by
  have hq := pick_rg c n h1
  refine acall_of_vc htb hmix (f := 9) rfl rfl rfl (by kernel_rfl) rfl rfl ?_; conv => whnf
  repeat' (first | (refine And.intro (fun h => ?_) (fun h => ?_) <;> (first | (with_reducible have hd : _ < _ := of_decide_eq_true h) | (with_reducible have hd : _ ≤ _ := of_decide_eq_true h) | (with_reducible have hd : ¬ (_ < _) := of_decide_eq_false h) | (with_reducible have hd : ¬ (_ ≤ _) := of_decide_eq_false h) | skip) <;> (first | exact absurd h (by decide) | (first | exact absurd hd (by omega) | omega) | (conv => whnf))) | ((with_reducible refine Both.mk ?_ ?_) <;> conv => whnf) | ((with_reducible refine DOg.l ?_); (conv => whnf)) | ((with_reducible refine DOr.l ?_); (conv => whnf)) | ((with_reducible refine NilOr.l ?_); conv => whnf) | ((with_reducible refine OwnOr.l ?_); (conv => whnf)) | (refine And.intro ?_ ?_; (focus (first | exact trivial | exact rfl | (first | exact seSum | exact chainI seSum | exact fun _ => seSum | exact seT | exact hM1 | exact hM2 | exact chainI hM1 | exact chainI hM2 | assumption) | (refine chainI ?_; (first | (first | exact seSum | exact chainI seSum | exact fun _ => seSum | exact seT | exact hM1 | exact hM2 | exact chainI hM1 | exact chainI hM2 | assumption) | decide | omega | (refine And.intro ?_ ?_ <;> first | omega | (simp; omega)) | (simp only [IntKind.wrap_i64]; first | omega | (refine And.intro ?_ ?_ <;> omega)))) | (intro _; (first | (first | exact seSum | exact chainI seSum | exact fun _ => seSum | exact seT | exact hM1 | exact hM2 | exact chainI hM1 | exact chainI hM2 | assumption) | decide | omega | (refine And.intro ?_ ?_ <;> first | omega | (simp; omega)) | (simp only [IntKind.wrap_i64]; first | omega | (refine And.intro ?_ ?_ <;> omega)))) | (intro _ _; (first | (first | exact seSum | exact chainI seSum | exact fun _ => seSum | exact seT | exact hM1 | exact hM2 | exact chainI hM1 | exact chainI hM2 | assumption) | decide | omega | (refine And.intro ?_ ?_ <;> first | omega | (simp; omega)) | (simp only [IntKind.wrap_i64]; first | omega | (refine And.intro ?_ ?_ <;> omega)))) | (first | decide | omega | (refine And.intro ?_ ?_ <;> first | omega | (simp; omega)) | (simp only [IntKind.wrap_i64]; first | omega | (refine And.intro ?_ ?_ <;> omega))) | ((conv => whnf); intros; (try simp only [decide_eq_true_eq, decide_eq_false_iff_not, Bool.and_eq_true, Bool.or_eq_true, Bool.and_eq_false_imp, Bool.or_eq_false_iff, Bool.not_eq_true', Bool.not_eq_false', beq_iff_eq, bne_iff_ne, ne_eq] at *); (first | (first | exact seSum | exact chainI seSum | exact fun _ => seSum | exact seT | exact hM1 | exact hM2 | exact chainI hM1 | exact chainI hM2 | assumption) | decide | omega | (refine And.intro ?_ ?_ <;> first | omega | (simp; omega)) | (simp only [IntKind.wrap_i64]; first | omega | (refine And.intro ?_ ?_ <;> omega)))))); conv => whnf) | (refine And.intro ?_ ?_; (focus (first | exact NoTag.int | exact NoTag.bool | exact NoTag.str | (refine NoTag.of_scalar ?_; rfl))); conv => whnf))
  · have e : pickI c n = c.tmod n + n := by unfold pickI; rw [if_pos hd]
    rw [e] at hq ⊢
    exact leI (wrap64 (by omega) (by omega))
  · have e : pickI c n = c.tmod n := by unfold pickI; rw [if_neg hd]
    rw [e]
    exact Le.refl _

def baB (s : ByteArray) (j : Nat) : UInt8 := (s.data.toList[j]?).getD 0
theorem accN1 (n : Nat) (b : Nat → UInt8) : shaB (accB (fun _ => (n, b)) 1) (accN (fun _ => (n, b)) 1) = shaB b n := by
  have e1 : accN (fun _ => (n, b)) 1 = n := by simp [accN]
  have e2 : accB (fun _ => (n, b)) 1 = b := by
    funext j
    simp [accB, accN, catB]
  rw [e1, e2]
def twoP (s : ByteArray) (k : Nat) (i : Nat) : Nat × (Nat → UInt8) := if i = 0 then (k, baB s) else (s.size - k, fun j => baB s (k + j))
theorem accN2 (s : ByteArray) (k : Nat) (hk : k ≤ s.size) : accN (twoP s k) 2 = s.size := by
  show 0 + k + (s.size - k) = s.size
  omega
theorem accB2 (s : ByteArray) (k : Nat) (hk : k ≤ s.size) : shaB (accB (twoP s k) 2) (accN (twoP s k) 2) = shaB (baB s) s.size := by
  rw [accN2 s k hk]
  refine shaB_ext fun j hj => ?_
  show catB (0 + k) (catB 0 (fun _ => 0) (baB s)) (fun j => baB s (k + j)) j = baB s j
  unfold catB
  by_cases h : j < 0 + k
  · rw [if_pos h, if_neg (by omega), Nat.sub_zero]
  · rw [if_neg h]
    exact congrArg (baB s) (by omega)
theorem lent_byF (s : ByteArray) (k j : Nat) (h : k + j < s.size) : lentF s (k + j) = VA.byF (fun j => baB s (k + j)) j := by
  unfold lentF
  rw [if_pos h]
  rfl
theorem leCs_sl {u : Bool} {n n' : Nat} {f g : Nat → List C} (h : n = n') (hf : ∀ i, i < n' → f i = g i) : LeCs [.sl u 1 n f] [.sl u 1 n' g] := by
  subst h
  refine ⟨rfl, fun S R o hr => ?_⟩
  simp only [RepCs, and_true] at hr ⊢
  obtain ⟨v, h1, h2⟩ := hr
  refine ⟨v, h1, ?_⟩
  have := (leSl (m := 0) (t := u) (e := 1) rfl hf).h [] S v (Nat.zero_le _) (by simpa only [RelV] using h2)
  simpa only [RelV] using this
theorem leSl2 {m : Nat} {t : Bool} {e n : Nat} {f g : Nat → List C} (hf : ∀ i, i < n → LeCs (f i) (g i) ∧ (g i).length = (f i).length) : Le m (.c (.sl t e n f)) (.c (.sl t e n g)) := by
  refine ⟨fun B S u hn hu => ?_⟩
  simp only [RelV, RepC] at hu ⊢
  obtain ⟨a, cap, rfl, h1, h2⟩ := hu
  refine ⟨a, cap, rfl, h1, ?_⟩
  rcases h2 with h2 | ⟨b, o, rfl, h2⟩
  · exact .inl h2
  · exact .inr ⟨b, o, rfl, fun i hi => ⟨by rw [(hf i hi).2]; exact (h2 i hi).1, (hf i hi).1.2 _ _ _ (h2 i hi).2⟩⟩
theorem aSums (t : Bool) (s : ByteArray) (c : Int) : ACall Tryd.prog gl 3 [.c (.sl t 1 s.size (strCells s)), intA .i64 c] [] (boolA true) := by
  by_cases hs : s.size ≤ 300
  · have K := gKept t s (by omega)
    have L := gLent t s (by omega)
    have ew : IntKind.i64.wrap ((s.size : Int) + 1) = (s.size : Int) + 1 := wrap64 (by omega) (by omega)
    have PK := aPick c ((s.size : Int) + 1) (by omega) (by omega)
    have hk := pick_rg c ((s.size : Int) + 1) (by omega)
    obtain ⟨k, ek⟩ : ∃ k : Nat, pickI c ((s.size : Int) + 1) = (k : Int) := ⟨(pickI c ((s.size : Int) + 1)).toNat, by omega⟩
    rw [ek] at PK hk
    have hks : k ≤ s.size := by omega
    have RS : ACall Tryd.prog gl 10 [.c (.sl t 1 s.size (strCells s))] [] (.ag (sumC (shaB (baB s) s.size))) := aRefSum t s.size (baB s) (by omega)
    have S1 : ACall Tryd.prog gl 11 [.c (.sl true 1 1 (fun i => [nthCC [.sl true 1 s.size (fun i => lentF s (0 + i))] (0 + i)]))] [] (.ag (sumC (shaB (baB s) s.size))) := by
      have h := aSum true 1 (fun _ => true) (fun _ => (s.size, baB s)) (by simp [accN]; omega)
      rw [accN1] at h
      refine h.le ⟨leSl2 fun i hi => ?_, trivial⟩
      obtain rfl : i = 0 := by omega
      exact ⟨leCs_sl rfl fun j hj => by
        have := lent_byF s 0 j (by omega)
        rw [this]
        show VA.byF (fun j => baB s (0 + j)) j = VA.byF (baB s) j
        simp only [Nat.zero_add], rfl⟩
    have S2 : ACall Tryd.prog gl 11 [.c (.sl true 1 2 (fun i => [nthCC [.sl true 1 k (fun i => lentF s (0 + i)), .sl true 1 (s.size - k) (fun i => lentF s (0 + k + i))] (0 + i)]))] [] (.ag (sumC (shaB (baB s) s.size))) := by
      have h := aSum true 2 (fun _ => true) (twoP s k) (by rw [accN2 s k hks]; omega)
      rw [accB2 s k hks] at h
      refine h.le ⟨leSl2 fun i hi => ?_, trivial⟩
      match i, hi with
      | 0, _ =>
        exact ⟨leCs_sl rfl fun j hj => by
          have hj : j < k := hj
          have := lent_byF s 0 j (by omega)
          rw [this]
          show VA.byF (fun j => baB s (0 + j)) j = VA.byF (baB s) j
          simp only [Nat.zero_add], rfl⟩
      | 1, _ =>
        exact ⟨leCs_sl rfl fun j hj => by
          have hj : j < s.size - k := hj
          have := lent_byF s k j (by omega)
          rw [Nat.zero_add, this]
          rfl, rfl⟩
    have hM1 : (0 : Int) ≤ (k : Int) ∧ (k : Int) ≤ ((max (s.size) (min (s.size + 8 - 0) 140737488355328) : Nat) : Int) := ⟨by omega, by omega⟩
    have hM2 : (0 : Int) ≤ (k : Int) ∧ (k : Int) ≤ (s.size : Int) := ⟨by omega, by omega⟩
    obtain ⟨d, hd⟩ : ∃ d, d = shaB (baB s) s.size := ⟨_, rfl⟩
    rw [← hd] at RS S1 S2
    clear hd
    have hE : (((d 0).toNat : Int) == ((d 0).toNat : Int) && (((d 1).toNat : Int) == ((d 1).toNat : Int) && (((d 2).toNat : Int) == ((d 2).toNat : Int) && (((d 3).toNat : Int) == ((d 3).toNat : Int) && (((d 4).toNat : Int) == ((d 4).toNat : Int) && (((d 5).toNat : Int) == ((d 5).toNat : Int) && (((d 6).toNat : Int) == ((d 6).toNat : Int) && (((d 7).toNat : Int) == ((d 7).toNat : Int) && (((d 8).toNat : Int) == ((d 8).toNat : Int) && (((d 9).toNat : Int) == ((d 9).toNat : Int) && (((d 10).toNat : Int) == ((d 10).toNat : Int) && (((d 11).toNat : Int) == ((d 11).toNat : Int) && (((d 12).toNat : Int) == ((d 12).toNat : Int) && (((d 13).toNat : Int) == ((d 13).toNat : Int) && (((d 14).toNat : Int) == ((d 14).toNat : Int) && (((d 15).toNat : Int) == ((d 15).toNat : Int) && (((d 16).toNat : Int) == ((d 16).toNat : Int) && (((d 17).toNat : Int) == ((d 17).toNat : Int) && (((d 18).toNat : Int) == ((d 18).toNat : Int) && (((d 19).toNat : Int) == ((d 19).toNat : Int) && (((d 20).toNat : Int) == ((d 20).toNat : Int) && (((d 21).toNat : Int) == ((d 21).toNat : Int) && (((d 22).toNat : Int) == ((d 22).toNat : Int) && (((d 23).toNat : Int) == ((d 23).toNat : Int) && (((d 24).toNat : Int) == ((d 24).toNat : Int) && (((d 25).toNat : Int) == ((d 25).toNat : Int) && (((d 26).toNat : Int) == ((d 26).toNat : Int) && (((d 27).toNat : Int) == ((d 27).toNat : Int) && (((d 28).toNat : Int) == ((d 28).toNat : Int) && (((d 29).toNat : Int) == ((d 29).toNat : Int) && (((d 30).toNat : Int) == ((d 30).toNat : Int) && (((d 31).toNat : Int) == ((d 31).toNat : Int))))))))))))))))))))))))))))))))) = true := by simp only [beq_self_eq_true, Bool.and_self]
    refine acall_of_vc htb hmix (f := 3) rfl rfl rfl (by kernel_rfl) rfl rfl ?_; conv => whnf
    repeat' (first | (refine Exists.intro _ (And.intro (chainI (RS)) ?_); conv => whnf) | (refine Exists.intro _ (And.intro (RS) ?_); conv => whnf) | ((with_reducible refine GOr.l ?_); (conv => whnf); refine Exists.intro _ (And.intro (chainI (RS)) ?_); conv => whnf) | (refine Exists.intro _ (And.intro (chainI (S1)) ?_); conv => whnf) | (refine Exists.intro _ (And.intro (S1) ?_); conv => whnf) | ((with_reducible refine GOr.l ?_); (conv => whnf); refine Exists.intro _ (And.intro (chainI (S1)) ?_); conv => whnf) | (refine Exists.intro _ (And.intro (chainI (S2)) ?_); conv => whnf) | (refine Exists.intro _ (And.intro (S2) ?_); conv => whnf) | ((with_reducible refine GOr.l ?_); (conv => whnf); refine Exists.intro _ (And.intro (chainI (S2)) ?_); conv => whnf) | (refine Exists.intro _ (And.intro (chainI (PK)) ?_); conv => whnf) | (refine Exists.intro _ (And.intro (PK) ?_); conv => whnf) | ((with_reducible refine GOr.l ?_); (conv => whnf); refine Exists.intro _ (And.intro (chainI (PK)) ?_); conv => whnf) | (refine Exists.intro _ (And.intro (chainI (aAwake)) ?_); conv => whnf) | (refine Exists.intro _ (And.intro (aAwake) ?_); conv => whnf) | ((with_reducible refine GOr.l ?_); (conv => whnf); refine Exists.intro _ (And.intro (chainI (aAwake)) ?_); conv => whnf) | (refine And.intro (fun h => ?_) (fun h => ?_) <;> (first | (with_reducible have hd : _ < _ := of_decide_eq_true h) | (with_reducible have hd : _ ≤ _ := of_decide_eq_true h) | (with_reducible have hd : ¬ (_ < _) := of_decide_eq_false h) | (with_reducible have hd : ¬ (_ ≤ _) := of_decide_eq_false h) | skip) <;> (first | exact absurd h (by decide) | (first | exact absurd hd (by omega) | omega) | (conv => whnf))) | ((with_reducible refine Both.mk ?_ ?_) <;> conv => whnf) | ((with_reducible refine DOg.r ?_); (conv => whnf)) | ((with_reducible refine DOr.l ?_); (conv => whnf)) | ((with_reducible refine NilOr.l ?_); conv => whnf) | ((with_reducible refine OwnOr.l (OwnOr.r ?_)); conv => whnf) | ((with_reducible refine OwnOr.l ?_); (conv => whnf)) | ((with_reducible apply Drawn.one); conv => whnf) | ((with_reducible refine Then.mk' ?_); conv => whnf) | (first | exact RefS.self rfl | ((with_reducible refine RefS.mk ?_ ?_); (focus (refine And.intro ?_ (And.intro ?_ (And.intro ?_ rfl)) <;> (conv => whnf) <;> repeat' (first | exact trivial | exact LeE.of (Le.refl _) | exact LeE.nil rfl | (with_reducible refine LeE.of ?_) | (first | first | exact LeAs_c _ _ _ | exact LeAs_pc | exact leI e | exact eo | exact Le.refl _ | exact rfl | exact leI (by first | rfl | omega | (rw [wrap64 (by omega) (by omega)]; omega) | (rw [wrap64 (by omega) (by omega)]; done)) | exact LeCs.refl _ | exact fun i hi => LeCs.refl _ | exact leOwn (by first | rfl | omega)) | ((with_reducible refine And.intro ?_ ?_) <;> conv => whnf)))); exact rfl)) | (refine And.intro ?_ ?_; (focus (first | exact trivial | exact rfl | (first | exact seSum | exact chainI seSum | exact fun _ => seSum | exact seT | exact hM1 | exact hM2 | exact chainI hM1 | exact chainI hM2 | assumption) | (refine chainI ?_; (first | (first | exact seSum | exact chainI seSum | exact fun _ => seSum | exact seT | exact hM1 | exact hM2 | exact chainI hM1 | exact chainI hM2 | assumption) | decide | omega | (refine And.intro ?_ ?_ <;> first | omega | (simp; omega)) | (simp only [IntKind.wrap_i64]; first | omega | (refine And.intro ?_ ?_ <;> omega)))) | (intro _; (first | (first | exact seSum | exact chainI seSum | exact fun _ => seSum | exact seT | exact hM1 | exact hM2 | exact chainI hM1 | exact chainI hM2 | assumption) | decide | omega | (refine And.intro ?_ ?_ <;> first | omega | (simp; omega)) | (simp only [IntKind.wrap_i64]; first | omega | (refine And.intro ?_ ?_ <;> omega)))) | (intro _ _; (first | (first | exact seSum | exact chainI seSum | exact fun _ => seSum | exact seT | exact hM1 | exact hM2 | exact chainI hM1 | exact chainI hM2 | assumption) | decide | omega | (refine And.intro ?_ ?_ <;> first | omega | (simp; omega)) | (simp only [IntKind.wrap_i64]; first | omega | (refine And.intro ?_ ?_ <;> omega)))) | (first | decide | omega | (refine And.intro ?_ ?_ <;> first | omega | (simp; omega)) | (simp only [IntKind.wrap_i64]; first | omega | (refine And.intro ?_ ?_ <;> omega))) | ((conv => whnf); intros; (try simp only [decide_eq_true_eq, decide_eq_false_iff_not, Bool.and_eq_true, Bool.or_eq_true, Bool.and_eq_false_imp, Bool.or_eq_false_iff, Bool.not_eq_true', Bool.not_eq_false', beq_iff_eq, bne_iff_ne, ne_eq] at *); (first | (first | exact seSum | exact chainI seSum | exact fun _ => seSum | exact seT | exact hM1 | exact hM2 | exact chainI hM1 | exact chainI hM2 | assumption) | decide | omega | (refine And.intro ?_ ?_ <;> first | omega | (simp; omega)) | (simp only [IntKind.wrap_i64]; first | omega | (refine And.intro ?_ ?_ <;> omega)))))); conv => whnf) | (refine And.intro ?_ ?_; (focus (first | exact NoTag.int | exact NoTag.bool | exact NoTag.str | (refine NoTag.of_scalar ?_; rfl))); conv => whnf) | ((with_reducible refine xc_guard ?_); (first | (refine xc_g (L) false (by first | (((conv => whnf); repeat' (first | exact trivial | exact rfl | exact LeC.refl _ | exact LeC.nil rfl | exact LeC.emp rfl | exact LeCs.refl _ | exact (fun i hi => LeCs.refl _) | fail | ((with_reducible refine And.intro ?_ ?_) <;> conv => whnf))); done) | fail) trivial ?_) | (refine xc_g (L) true (by first | (((conv => whnf); repeat' (first | exact trivial | exact rfl | exact LeC.refl _ | exact LeC.nil rfl | exact LeC.emp rfl | exact LeCs.refl _ | exact (fun i hi => LeCs.refl _) | fail | ((with_reducible refine And.intro ?_ ?_) <;> conv => whnf))); done) | fail) (by first | (((conv => whnf); repeat' (first | exact trivial | exact rfl | fail | (intro i hi; exact ⟨trivial, trivial⟩) | ((with_reducible refine And.intro ?_ ?_) <;> conv => whnf))); done) | fail) ?_)); conv => whnf) | ((with_reducible refine xc_guard ?_); (first | (refine xc_g (K) false (by first | (((conv => whnf); repeat' (first | exact trivial | exact rfl | exact LeC.refl _ | exact LeC.nil rfl | exact LeC.emp rfl | exact LeCs.refl _ | exact (fun i hi => LeCs.refl _) | fail | ((with_reducible refine And.intro ?_ ?_) <;> conv => whnf))); done) | fail) trivial ?_) | (refine xc_g (K) true (by first | (((conv => whnf); repeat' (first | exact trivial | exact rfl | exact LeC.refl _ | exact LeC.nil rfl | exact LeC.emp rfl | exact LeCs.refl _ | exact (fun i hi => LeCs.refl _) | fail | ((with_reducible refine And.intro ?_ ?_) <;> conv => whnf))); done) | fail) (by first | (((conv => whnf); repeat' (first | exact trivial | exact rfl | fail | (intro i hi; exact ⟨trivial, trivial⟩) | ((with_reducible refine And.intro ?_ ?_) <;> conv => whnf))); done) | fail) ?_)); conv => whnf) | ((with_reducible refine GOr.r ?_); conv => whnf) | ((with_reducible refine xc_pure ?_); conv => whnf) | (rw [ew]; conv => whnf) | (rw [hE]; conv => whnf))
    · exact leB rfl
  · refine acall_of_vc htb hmix (f := 3) rfl rfl rfl (by kernel_rfl) rfl rfl ?_; conv => whnf
    repeat' (first | (refine Exists.intro _ (And.intro (chainI (aAwake)) ?_); conv => whnf) | (refine Exists.intro _ (And.intro (aAwake) ?_); conv => whnf) | ((with_reducible refine GOr.l ?_); (conv => whnf); refine Exists.intro _ (And.intro (chainI (aAwake)) ?_); conv => whnf) | (refine And.intro (fun h => ?_) (fun h => ?_) <;> (first | (with_reducible have hd : _ < _ := of_decide_eq_true h) | (with_reducible have hd : _ ≤ _ := of_decide_eq_true h) | (with_reducible have hd : ¬ (_ < _) := of_decide_eq_false h) | (with_reducible have hd : ¬ (_ ≤ _) := of_decide_eq_false h) | skip) <;> (first | exact absurd h (by decide) | (first | exact absurd hd (by omega) | omega) | (conv => whnf))) | ((with_reducible refine Both.mk ?_ ?_) <;> conv => whnf) | ((with_reducible refine DOg.l ?_); (conv => whnf)) | ((with_reducible refine DOr.l ?_); (conv => whnf)) | ((with_reducible refine NilOr.l ?_); conv => whnf) | ((with_reducible refine OwnOr.l ?_); (conv => whnf)) | ((with_reducible apply Drawn.one); conv => whnf) | ((with_reducible refine Then.mk' ?_); conv => whnf) | (first | exact RefS.self rfl | ((with_reducible refine RefS.mk ?_ ?_); (focus (refine And.intro ?_ (And.intro ?_ (And.intro ?_ rfl)) <;> (conv => whnf) <;> repeat' (first | exact trivial | exact LeE.of (Le.refl _) | exact LeE.nil rfl | (with_reducible refine LeE.of ?_) | (first | first | exact LeAs_c _ _ _ | exact LeAs_pc | exact leI e | exact eo | exact Le.refl _ | exact rfl | exact leI (by first | rfl | omega | (rw [wrap64 (by omega) (by omega)]; omega) | (rw [wrap64 (by omega) (by omega)]; done)) | exact LeCs.refl _ | exact fun i hi => LeCs.refl _ | exact leOwn (by first | rfl | omega)) | ((with_reducible refine And.intro ?_ ?_) <;> conv => whnf)))); exact rfl)) | (refine And.intro ?_ ?_; (focus (first | exact trivial | exact rfl | (first | exact seSum | exact chainI seSum | exact fun _ => seSum | exact seT | exact hM1 | exact hM2 | exact chainI hM1 | exact chainI hM2 | assumption) | (refine chainI ?_; (first | (first | exact seSum | exact chainI seSum | exact fun _ => seSum | exact seT | exact hM1 | exact hM2 | exact chainI hM1 | exact chainI hM2 | assumption) | decide | omega | (refine And.intro ?_ ?_ <;> first | omega | (simp; omega)) | (simp only [IntKind.wrap_i64]; first | omega | (refine And.intro ?_ ?_ <;> omega)))) | (intro _; (first | (first | exact seSum | exact chainI seSum | exact fun _ => seSum | exact seT | exact hM1 | exact hM2 | exact chainI hM1 | exact chainI hM2 | assumption) | decide | omega | (refine And.intro ?_ ?_ <;> first | omega | (simp; omega)) | (simp only [IntKind.wrap_i64]; first | omega | (refine And.intro ?_ ?_ <;> omega)))) | (intro _ _; (first | (first | exact seSum | exact chainI seSum | exact fun _ => seSum | exact seT | exact hM1 | exact hM2 | exact chainI hM1 | exact chainI hM2 | assumption) | decide | omega | (refine And.intro ?_ ?_ <;> first | omega | (simp; omega)) | (simp only [IntKind.wrap_i64]; first | omega | (refine And.intro ?_ ?_ <;> omega)))) | (first | decide | omega | (refine And.intro ?_ ?_ <;> first | omega | (simp; omega)) | (simp only [IntKind.wrap_i64]; first | omega | (refine And.intro ?_ ?_ <;> omega))) | ((conv => whnf); intros; (try simp only [decide_eq_true_eq, decide_eq_false_iff_not, Bool.and_eq_true, Bool.or_eq_true, Bool.and_eq_false_imp, Bool.or_eq_false_iff, Bool.not_eq_true', Bool.not_eq_false', beq_iff_eq, bne_iff_ne, ne_eq] at *); (first | (first | exact seSum | exact chainI seSum | exact fun _ => seSum | exact seT | exact hM1 | exact hM2 | exact chainI hM1 | exact chainI hM2 | assumption) | decide | omega | (refine And.intro ?_ ?_ <;> first | omega | (simp; omega)) | (simp only [IntKind.wrap_i64]; first | omega | (refine And.intro ?_ ?_ <;> omega)))))); conv => whnf) | (refine And.intro ?_ ?_; (focus (first | exact NoTag.int | exact NoTag.bool | exact NoTag.str | (refine NoTag.of_scalar ?_; rfl))); conv => whnf) | ((with_reducible refine xc_pure ?_); conv => whnf))
    · exact leB rfl
end Go.Proofs.YtpnapenjamcilaaDoor
