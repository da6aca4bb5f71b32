/- Contracts of functions of the program, and the laws that stand on them: what each function answers, whatever its arguments. -/
import Derived.Test.YtcgcamfhollnlaaGreatDoorC13
set_option linter.unusedSectionVars false
set_option linter.unnecessarySimpa false
namespace Go.Proofs.YtcgcamfhollnlaaGreatDoor
set_option linter.unusedSimpArgs false
set_option linter.unusedVariables false
set_option maxRecDepth 100000
set_option maxHeartbeats 8000000
open Go Go.VA
def putLn (v : V) : List Int := if checkV v != 0 then [] else layL v
set_option maxHeartbeats 1000000 in
theorem gPut (v : V) (t t' t'' : Bool) (n : Nat) (f : Nat → List C) (hf : ∀ i, i < n → NtCs (f i)) (hkey : checkV v = 0 → keyed v = true) (hn : n + bigL v ≤ 140737488355328) :
    GCall Tryz.prog gl 20 [] [.c (.sl t'' 1 n f), .ag (cVt t t' v)] [.row 1 (n + (putLn v).length) (catF 0 n f (rB (putLn v)))] [.own 0 1 0 (n + (putLn v).length)] := by
  by_cases hc : checkV v = 0
  · have P := gLay v t t' n f hf (hkey hc) hn
    have hc' : (checkV v != 0) = false := by rw [hc]; rfl
    have e : putLn v = layL v := by unfold putLn; rw [hc']; rfl
    rw [e]
    refine gcall_of_vcb htb hmix (f := 20) rfl rfl rfl (by kernel_rfl) rfl rfl rfl fun hb hb2 => ?_; simp only [bndOs, bndO, gbnds, AV.gbnd, bnds, C.bnd, true_and, and_true] at hb hb2; conv => whnf
    repeat' (first | (refine Exists.intro _ (And.intro (aCheck _ _ _) ?_); conv => whnf) | (refine And.intro (fun h => ?_) (fun h => ?_) <;> (first | skip) <;> conv => whnf) | (refine And.intro ?_ ?_; (focus (first | exact rfl | ((conv => whnf); intros; (try simp only [decide_eq_true_eq, decide_eq_false_iff_not, Bool.and_eq_true, Bool.or_eq_true, Bool.and_eq_false_imp, Bool.or_eq_false_iff, Bool.not_eq_true', Bool.not_eq_false', beq_iff_eq, bne_iff_ne, ne_eq] at *); (first | omega | fail)))); conv => whnf) | ((with_reducible refine xc_guard ?_); (first | (refine xc_g (gClone _ _ _) false (by first | (((conv => whnf); repeat' (first | exact trivial | exact rfl | exact LeC.refl _ | ((with_reducible refine And.intro ?_ ?_) <;> conv => whnf))); done) | fail) trivial ?_) | fail); conv => whnf) | ((with_reducible refine xc_guard ?_); (first | (refine xc_g (P) false (by first | (((conv => whnf); repeat' (first | exact trivial | exact rfl | exact LeC.refl _ | exact (fun i hi => LeCs.refl _) | ((with_reducible refine And.intro ?_ ?_) <;> conv => whnf))); done) | fail) trivial ?_) | fail); conv => whnf) | ((with_reducible refine xc_pure ?_); conv => whnf))
    all_goals try exact absurd ((‹(checkV v != 0) = true›).symm.trans hc') (by decide)
    ((conv => whnf); repeat' (first | exact trivial | exact rfl | exact (fun i hi => LeCs.refl _) | ((with_reducible refine And.intro ?_ ?_) <;> conv => whnf)))
  · have hc' : (checkV v != 0) = true := by simpa using hc
    have e : putLn v = [] := by unfold putLn; rw [hc']; rfl
    rw [e]
    refine gcall_of_vcb htb hmix (f := 20) rfl rfl rfl (by kernel_rfl) rfl rfl rfl fun hb hb2 => ?_; simp only [bndOs, bndO, gbnds, AV.gbnd, bnds, C.bnd, true_and, and_true] at hb hb2; conv => whnf
    repeat' (first | (refine Exists.intro _ (And.intro (aCheck _ _ _) ?_); conv => whnf) | (refine And.intro (fun h => ?_) (fun h => ?_) <;> (first | skip) <;> conv => whnf) | (refine And.intro ?_ ?_; (focus (first | exact rfl | fail)); conv => whnf) | ((with_reducible refine xc_guard ?_); (first | (refine xc_g (gClone _ _ _) false (by first | (((conv => whnf); repeat' (first | exact trivial | exact rfl | exact LeC.refl _ | ((with_reducible refine And.intro ?_ ?_) <;> conv => whnf))); done) | fail) trivial ?_) | fail); conv => whnf) | ((with_reducible refine xc_pure ?_); conv => whnf))
    all_goals try exact absurd ((‹(checkV v != 0) = false›).symm.trans hc') (by decide)
    ((conv => whnf); repeat' (first | exact trivial | exact rfl | ((with_reducible refine And.intro ?_ ?_) <;> conv => whnf)))
    all_goals first
      | exact fun i hi => LeCs.of_eq (catF_nil i hi _).symm
      | rfl
end Go.Proofs.YtcgcamfhollnlaaGreatDoor

namespace Go.Proofs.YtcgcamfhollnlaaGreatDoor
set_option linter.unusedSimpArgs false
set_option linter.unusedVariables false
set_option maxRecDepth 100000
set_option maxHeartbeats 8000000
open Go Go.VA
abbrev byF (g : Nat → Int) (i : Nat) : List C := cBy (g i)
def sameF (n m : Nat) (g h : Nat → Int) : Bool := decide (n = m ∧ ∀ i, i < n → g i = h i)
theorem aSame01 (t u : Bool) (n m : Nat) (g q : Nat → Int) : ACall Tryz.prog gl 12 [.c (.sl t 1 n (byF g)), .c (.sl u 1 m (byF q))] [] (boolA (sameF n m g q)) := by
  refine acall_of_vcb htb hmix (f := 12) rfl rfl rfl (by kernel_rfl) rfl rfl fun hb => ?_; simp only [bndAll, AV.bnd, bnds, C.bnd, cVt, cS, true_and, and_true] at hb; conv => whnf
  repeat' (first | (refine And.intro (fun h => ?_) (fun h => ?_) <;> (first | skip) <;> conv => whnf) | fail)
  · have h0 : n ≠ m := fun e => by subst e; simp_all
    exact leB (by unfold sameF; simp [h0])
  · have h0 : n = m := by
      have : (n : Int) = m := by simpa using h
      omega
    subst h0
    refine loopN (fun c => c ≤ n ∧ ∀ i, i < c → g i = q i) (fun c => [(5, intA .i64 c)]) (fun c => []) n (fun c h => h.1) 0 ⟨Nat.zero_le _, fun i hi => absurd hi (Nat.not_lt_zero _)⟩ ?_ (fun _ => rfl) fun c ⟨hc, hR⟩ => ?_
    · (refine And.intro ?_ (And.intro ?_ (And.intro ?_ rfl)) <;> (conv => whnf) <;> repeat' (first | exact trivial | exact LeE.of (Le.refl _) | (first | exact rfl | fail) | ((with_reducible refine And.intro ?_ ?_) <;> conv => whnf)))
    · conv => whnf
      repeat' (first | (refine And.intro (fun h => ?_) (fun h => ?_) <;> (first | (with_reducible have hd : _ < _ := of_decide_eq_true h) | (with_reducible have hd : ¬ (_ < _) := of_decide_eq_false h) | skip) <;> conv => whnf) | (refine And.intro ?_ ?_; (focus (first | (refine chainI ?_; (first | omega | fail)) | fail)); conv => whnf) | fail)
      · refine leB ?_
        have hne : g c ≠ q c := fun e => by
          have h' : (g c != q c) = true := h
          rw [e] at h'; simp at h'
        unfold sameF
        rw [decide_eq_false_iff_not.2 (fun hh => hne (hh.2 c (by omega)))]
      · have he : g c = q c := by
          have h' : (g c != q c) = false := h
          simpa using h'
        refine ⟨c + 1, ⟨⟨by omega, fun i hi => ?_⟩, by omega⟩, ?_⟩
        · rcases Nat.lt_or_ge i c with h1 | h1
          · exact hR i h1
          · obtain rfl : i = c := by omega
            exact he
        · (refine And.intro ?_ (And.intro ?_ (And.intro ?_ rfl)) <;> (conv => whnf) <;> repeat' (first | exact trivial | exact LeE.of (Le.refl _) | (with_reducible refine LeE.of ?_) | (first | exact rfl | exact leI (by first | rfl | (rw [wrap64 (by omega) (by omega)]; omega) | fail) | fail) | ((with_reducible refine And.intro ?_ ?_) <;> conv => whnf)))
      · obtain rfl : c = n := by omega
        refine leB ?_
        unfold sameF
        rw [decide_eq_true_iff.2 ⟨rfl, hR⟩]
theorem aSameX (t u : Bool) (n m : Nat) (F G : Nat → List C) (g q : Nat → Int) (hF : ∀ i, i < n → F i = cBy (g i)) (hG : ∀ i, i < m → G i = cBy (q i)) : ACall Tryz.prog gl 12 [.c (.sl t 1 n F), .c (.sl u 1 m G)] [] (boolA (sameF n m g q)) :=
  (aSame01 t u n m g q).le ⟨leSl rfl hF, leSl rfl hG, trivial⟩
end Go.Proofs.YtcgcamfhollnlaaGreatDoor

namespace Go.Proofs.YtcgcamfhollnlaaGreatDoor
set_option linter.unusedSimpArgs false
set_option linter.unusedVariables false
set_option maxRecDepth 100000
set_option maxHeartbeats 8000000
open Go Go.VA
theorem sameF_self (n : Nat) (g : Nat → Int) : sameF n n g g = true := by simp [sameF]
end Go.Proofs.YtcgcamfhollnlaaGreatDoor
