/- Contracts of functions of the program, and the laws that stand on them: what each function answers, whatever its arguments. -/
import Derived.Test.YtcgcamfhollnlaaGreatDoorC17
set_option linter.unusedSectionVars false
set_option linter.unnecessarySimpa false
namespace Go.Proofs.YtcgcamfhollnlaaGreatDoor
set_option linter.unusedSimpArgs false
set_option linter.unusedVariables false
set_option maxRecDepth 100000
set_option maxHeartbeats 8000000
open Go Go.VA
theorem rowSn (pre : List Int) (x y : Int) (h : y = x) : ∀ i, i < (pre ++ [x]).length → LeCs (catF 0 pre.length (rB pre) (nthC [[.v (.int .u8 y)]]) i) (rB (pre ++ [x]) i) := fun i hi => LeCs.of_eq (by
  subst h
  exact rowE_snoc (enc := cBy) (d := (0 : Int)) pre _ pre.length rfl i (by simpa using hi))
theorem gShortR (k : Nat) (hk : k < 2 ^ 64) : GCall Tryz.prog gl 46 [] [intA .u64 k] [.row 1 (shortL k).length (rB (shortL k))] [.own 0 1 0 (shortL k).length] := by
  refine gcall_of_vcb htb hmix (f := 46) rfl rfl rfl (by kernel_rfl) rfl rfl rfl fun hb hb2 => ?_; simp only [bndOs, bndO, gbnds, AV.gbnd, bnds, C.bnd, true_and, and_true] at hb hb2; conv => whnf
  repeat' (fail)
  refine loopI (List Int × Nat × Nat) (fun p => p.1 ++ shortF p.2.2 p.2.1 = shortL k ∧ p.2.1 < 2 ^ (7 * (p.2.2 + 1)) ∧ p.1.length + p.2.2 ≤ 9) (fun p => [(3, .own 1 1 0 p.1.length), (0, intA .u64 p.2.1)])
    (fun p => [.row 1 0 (fun _ => []), .row 1 p.1.length (rB p.1)]) (fun p => p.2.2) ([], k, 9) ⟨rfl, by show k < 2 ^ 70; omega, Nat.le_refl _⟩ ?_ (fun _ => rfl) fun ⟨pre, k', m⟩ ⟨h1, h2, h3⟩ => ?_
  · (refine And.intro ?_ (And.intro ?_ (And.intro ?_ rfl)) <;> (conv => whnf) <;> repeat' (first | exact trivial | exact LeE.of (Le.refl _) | (first | exact rfl | exact fun i hi => LeCs.refl _ | fail) | ((with_reducible refine And.intro ?_ ?_) <;> conv => whnf)))
    exact fun i hi => absurd hi (Nat.not_lt_zero _)
  · change pre ++ shortF m k' = shortL k at h1
    change k' < 2 ^ (7 * (m + 1)) at h2
    change pre.length + m ≤ 9 at h3
    have B1 : (pre.length + 1) * (tb 5).bytes ≤ 140737488355328 := by show (pre.length + 1) * 1 ≤ _; omega
    conv => whnf
    repeat' (first | (refine And.intro (fun h => ?_) (fun h => ?_) <;> (first | (with_reducible have hd : _ ≤ _ := of_decide_eq_true h) | (with_reducible have hd : ¬ (_ ≤ _) := of_decide_eq_false h) | fail) <;> (first | (conv => whnf))) | ((with_reducible refine OwnOr.l ?_); (conv => whnf)) | (refine And.intro ?_ ?_; (focus (first | exact rfl | (first | exact B1 | fail) | (refine chainI ?_; (first | decide | fail)) | fail)); conv => whnf) | fail)
    · have h : decide ((k' : Int) ≥ 128) = true := h
      have hk' : 128 ≤ k' := by have := of_decide_eq_true h; omega
      obtain ⟨m', rfl⟩ : ∃ m', m = m' + 1 := by
        cases m with
        | zero => simp at h2; omega
        | succ m' => exact ⟨m', rfl⟩
      rw [show 7 * (m' + 1 + 1) = 7 * (m' + 1) + 7 from by omega, Nat.pow_add] at h2
      have e1 : (pre ++ [((k' % 128 + 128 : Nat) : Int)]).length = pre.length + 1 := by simp
      refine ⟨(pre ++ [((k' % 128 + 128 : Nat) : Int)], k' / 128, m'), ⟨?_, ?_, ?_⟩, ?_, Nat.lt_succ_self _⟩
      · rw [← h1]; simp only [shortF]; rw [if_neg (by omega)]; simp
      · show k' / 128 < 2 ^ (7 * (m' + 1)); omega
      · show (pre ++ [((k' % 128 + 128 : Nat) : Int)]).length + m' ≤ 9; omega
      · have hD : IntKind.u64.wrap ((k' : Int).tdiv 128) = ((k' / 128 : Nat) : Int) := by
          rw [show (k' : Int).tdiv 128 = ((k' / 128 : Nat) : Int) from rfl, wrapU (by omega) ?_]
          have : 2 ^ (7 * (m' + 1)) ≤ 2 ^ (7 * 9) := Nat.pow_le_pow_right (by decide) (by omega)
          omega
        have hM : IntKind.u8.wrap (IntKind.u8.wrap ((k' : Int).tmod 128) + 128) = ((k' % 128 + 128 : Nat) : Int) := by
          rw [show (k' : Int).tmod 128 = ((k' % 128 : Nat) : Int) from rfl]
          show (((k' % 128 : Nat) : Int) % 256 + 128) % 256 = _
          omega
        (refine And.intro ?_ (And.intro ?_ (And.intro ?_ rfl)) <;> (conv => whnf) <;> repeat' (first | exact trivial | exact LeE.of (Le.refl _) | (with_reducible refine LeE.of ?_) | (first | exact rfl | exact leI (by first | rfl | omega | fail) | exact fun i hi => LeCs.refl _ | fail) | ((with_reducible refine And.intro ?_ ?_) <;> conv => whnf)))
        all_goals first
          | exact leI hD
          | exact leOwn (by simp)
          | exact e1.symm
          | exact rowSn pre _ _ hM
    · have h : decide ((k' : Int) ≥ 128) = false := h
      have hk' : k' < 128 := by have := of_decide_eq_false h; omega
      have e0 : shortL k = pre ++ [(k' : Int)] := by
        rw [← h1]
        congr 1
        cases m with
        | zero => rfl
        | succ m => simp only [shortF]; rw [if_pos hk']
      rw [e0]
      ((conv => whnf); repeat' (first | exact trivial | exact rfl | ((with_reducible refine And.intro ?_ ?_) <;> conv => whnf)))
      all_goals first
        | (show pre.length + 1 = (pre ++ [(k' : Int)]).length; simp; done)
        | exact rowSn pre _ _ (by show ((k' : Int) % 256) % 256 = _; omega)
        | exact rowSn pre _ _ (by show (k' : Int) % 256 = _; omega)
theorem gShortRI (k : Int) (h0 : 0 ≤ k) (hk : k < 18446744073709551616) : GCall Tryz.prog gl 46 [] [intA .u64 k] [.row 1 (shortL k.toNat).length (rB (shortL k.toNat))] [.own 0 1 0 (shortL k.toNat).length] := by
  have := gShortR k.toNat (by omega)
  rwa [Int.toNat_of_nonneg h0] at this
theorem gStrR (s : ByteArray) (hs : s.size ≤ 100000) : GCall Tryz.prog gl 45 [] [.c (.v (.string s))] [.row 1 (strL s).length (rB (strL s))] [.own 0 1 0 (strL s).length] := by
  have w1 : IntKind.u64.wrap (s.size : Int) = s.size := wrapU (by omega) (by omega)
  have P := gShortRI (IntKind.u64.wrap (s.size : Int)) (by rw [w1]; omega) (by rw [w1]; omega)
  have hl := shortL_len s.size
  have hl2 := shortL_len (IntKind.u64.wrap (s.size : Int)).toNat
  have B1 : ((shortL (IntKind.u64.wrap (s.size : Int)).toNat).length + s.size) * (tb 5).bytes ≤ 140737488355328 := by show _ * 1 ≤ _; omega
  refine gcall_of_vcb htb hmix (f := 45) rfl rfl rfl (by kernel_rfl) rfl rfl rfl fun hb hb2 => ?_; simp only [bndOs, bndO, gbnds, AV.gbnd, bnds, C.bnd, true_and, and_true] at hb hb2; conv => whnf
  repeat' (first | ((with_reducible refine OwnOr.l ?_); (conv => whnf)) | (refine And.intro ?_ ?_; (focus (first | exact rfl | (first | exact B1 | fail) | (refine chainI ?_; (first | omega | fail)) | fail)); conv => whnf) | ((with_reducible refine xc_guard ?_); (first | (refine xc_g (P) false (by first | (((conv => whnf); repeat' (first | exact trivial | exact rfl | exact LeC.refl _ | ((with_reducible refine And.intro ?_ ?_) <;> conv => whnf))); done) | fail) trivial ?_) | fail); conv => whnf) | fail)
  all_goals rw [w1, Int.toNat_natCast]
  ((conv => whnf); repeat' (first | exact trivial | exact rfl | ((with_reducible refine And.intro ?_ ?_) <;> conv => whnf)))
  · show (shortL s.size).length + s.size = (strL s).length; rw [strL, List.length_append, bytesL_len]
  · intro i hi
    refine LeCs.of_eq ?_
    have hi' : i < (shortL s.size).length + s.size := by rw [strL, List.length_append, bytesL_len] at hi; exact hi
    unfold catF strL
    by_cases h : i < (shortL s.size).length
    · rw [if_pos h, Nat.zero_add]
      show cBy ((shortL s.size).getD i 0) = cBy ((shortL s.size ++ bytesL s).getD i 0)
      rw [List.getD_eq_getElem?_getD, List.getD_eq_getElem?_getD, List.getElem?_append_left h]
    · rw [if_neg h, strCells_eq s _ (by omega)]
      show cBy ((bytesL s).getD _ 0) = cBy ((shortL s.size ++ bytesL s).getD i 0)
      rw [List.getD_eq_getElem?_getD, List.getD_eq_getElem?_getD, List.getElem?_append_right (by omega)]
  · show (shortL s.size).length + s.size = (strL s).length; rw [strL, List.length_append, bytesL_len]
theorem aShortD (k : Int) (h0 : 0 ≤ k) (hk : k < 18446744073709551616) : ACall Tryz.prog gl 46 [intA .u64 k] [] (.c (.sl false 1 (shortL k.toNat).length (rB (shortL k.toNat)))) := by
  have h := ACall.of_gcall (gShortRI k h0 hk)
  have e : (fun j => rB (shortL k.toNat) (0 + j)) = rB (shortL k.toNat) := by funext j; rw [Nat.zero_add]
  rw [e] at h
  exact h
theorem aStrD (s : ByteArray) (hs : s.size ≤ 100000) : ACall Tryz.prog gl 45 [.c (.v (.string s))] [] (.c (.sl false 1 (strL s).length (rB (strL s)))) := by
  have h := ACall.of_gcall (gStrR s hs)
  have e : (fun j => rB (strL s) (0 + j)) = rB (strL s) := by funext j; rw [Nat.zero_add]
  rw [e] at h
  exact h
theorem catRB {A B : List Int} {m : Nat} {F g : Nat → List C} (hm : m = A.length) (hF : ∀ j, j < A.length → F j = rB A j) (hg : ∀ j, j < B.length → g j = rB B j) : ∀ i, i < (A ++ B).length → catF 0 m F g i = rB (A ++ B) i := by
  intro i hi
  rw [List.length_append] at hi
  subst hm
  unfold catF
  by_cases h : i < A.length
  · rw [if_pos h, Nat.zero_add, hF i h]
    show cBy (A.getD i 0) = cBy ((A ++ B).getD i 0)
    rw [List.getD_eq_getElem?_getD, List.getD_eq_getElem?_getD, List.getElem?_append_left h]
  · rw [if_neg h, hg _ (by omega)]
    show cBy (B.getD _ 0) = cBy ((A ++ B).getD i 0)
    rw [List.getD_eq_getElem?_getD, List.getD_eq_getElem?_getD, List.getElem?_append_right (by omega)]
theorem zigI_eq (i : Int) (h0 : -9223372036854775808 ≤ i) (h1 : i ≤ 9223372036854775807) : zigI i = if i < 0 then -1 - 2 * i else 2 * i := by
  unfold zigI
  have hs : shrI .i64 i 63 = if i < 0 then -1 else 0 := by
    unfold shrI
    have : min ((63 : Int)).toNat IntKind.i64.bits = 63 := by decide
    rw [this, Int.fdiv_eq_ediv_of_nonneg i (by decide)]
    split <;> omega
  have hl : shlI .u64 (IntKind.u64.wrap i) 1 = if i < 0 then 18446744073709551616 + 2 * i else 2 * i := by
    show (i % 18446744073709551616 * 2 ^ 1) % 18446744073709551616 = _
    split <;> omega
  rw [hs, hl]
  by_cases hi : i < 0
  · rw [if_pos hi, if_pos hi, if_pos hi]
    obtain ⟨n, hn⟩ : ∃ n : Nat, 18446744073709551616 + 2 * i = (n : Int) := ⟨(18446744073709551616 + 2 * i).toNat, by omega⟩
    rw [hn]
    have hn' : n < 2 ^ 64 := by omega
    unfold bitsI
    show IntKind.u64.wrap (((BitVec.ofInt 64 (n : Int) ^^^ BitVec.ofInt 64 (IntKind.u64.wrap (-1))).toNat : Nat) : Int) = _
    rw [show BitVec.ofInt 64 (IntKind.u64.wrap (-1)) = BitVec.allOnes 64 from by decide, BitVec.xor_allOnes, BitVec.toNat_not, ofNat64 _ hn']
    show (((2 ^ 64 - 1 - n : Nat) : Int)) % 18446744073709551616 = _
    omega
  · rw [if_neg hi, if_neg hi, if_neg hi]
    obtain ⟨n, hn⟩ : ∃ n : Nat, 2 * i = (n : Int) := ⟨(2 * i).toNat, by omega⟩
    rw [hn]
    have hn' : n < 2 ^ 64 := by omega
    unfold bitsI
    show IntKind.u64.wrap (((BitVec.ofInt 64 (n : Int) ^^^ BitVec.ofInt 64 (IntKind.u64.wrap 0)).toNat : Nat) : Int) = _
    rw [show BitVec.ofInt 64 (IntKind.u64.wrap 0) = 0#64 from by decide, BitVec.xor_zero, ofNat64 _ hn']
    show ((n : Nat) : Int) % 18446744073709551616 = _
    omega
theorem aZigR (i : Int) (h0 : -9223372036854775808 ≤ i) (h1 : i ≤ 9223372036854775807) : ACall Tryz.prog gl 47 [intA .i64 i] [] (intA .u64 (zigI i)) := by
  refine acall_of_vc htb hmix (f := 47) rfl rfl rfl (by kernel_rfl) rfl rfl ?_; conv => whnf
  repeat' (first | (refine And.intro (fun h => ?_) (fun h => ?_) <;> (first | (with_reducible have hd : _ ≤ _ := of_decide_eq_true h) | (with_reducible have hd : ¬ (_ ≤ _) := of_decide_eq_false h) | fail) <;> (first | (conv => whnf))) | fail)
  · have h : decide (i ≥ 0) = true := h
    have h := of_decide_eq_true h
    refine leI ?_
    rw [zigI_eq i h0 h1, if_neg (by omega)]
    show (i % 18446744073709551616 * 2) % 18446744073709551616 = _
    omega
  · have h : decide (i ≥ 0) = false := h
    have h := of_decide_eq_false h
    refine leI ?_
    rw [zigI_eq i h0 h1, if_pos (by omega)]
    show ((((0 - i % 18446744073709551616) % 18446744073709551616) * 2) % 18446744073709551616 - 1) % 18446744073709551616 = _
    omega
end Go.Proofs.YtcgcamfhollnlaaGreatDoor
