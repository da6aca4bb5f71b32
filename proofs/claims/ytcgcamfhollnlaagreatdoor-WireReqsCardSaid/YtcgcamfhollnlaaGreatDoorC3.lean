/- Contracts of functions of the program, and the laws that stand on them: what each function answers, whatever its arguments. -/
import Derived.Test.YtcgcamfhollnlaaGreatDoorC2
set_option linter.unusedSectionVars false
set_option linter.unnecessarySimpa false
namespace Go.Proofs.YtcgcamfhollnlaaGreatDoor
set_option linter.unusedSimpArgs false
set_option linter.unusedVariables false
set_option maxRecDepth 100000
set_option maxHeartbeats 8000000
open Go Go.VA
abbrev rowT (l : List Ty) : Nat → List C := rowE cT (0, 0) l
def inn (k : Nat) : Nat → List Ty
  | 0 => []
  | o + 1 => if chk (k, o) then inn k o ++ [((k : Int), (o : Int))] else inn k o
def outr : Nat → List Ty
  | 0 => []
  | k + 1 => outr k ++ inn k 4
theorem inn_le (k : Nat) : ∀ c, (inn k c).length ≤ c
  | 0 => Nat.le_refl _
  | c + 1 => by
    have := inn_le k c
    unfold inn
    split <;> simp <;> omega
theorem outr_le : ∀ c, (outr c).length ≤ 4 * c
  | 0 => Nat.le_refl _
  | c + 1 => by
    have := outr_le c
    have := inn_le c 4
    simp only [outr, List.length_append]
    omega
theorem outr_6 : outr 6 = tys := by decide

theorem aAllT : ACall Tryz.prog gl 88 [] [] (.c (.sl false 2 12 (rowT tys))) := by
  refine acall_of_vc htb hmix (f := 88) rfl rfl rfl (by kernel_rfl) rfl rfl ?_; conv => whnf
  repeat' (fail)
  refine loopI Nat (· ≤ 6) (fun c => [(1, .own 1 2 0 (outr c).length), (5, intA .i64 c)]) (fun c => [.row 2 0 (fun _ => []), .row 2 (outr c).length (rowT (outr c))]) (fun c => 6 - c) 0 (Nat.zero_le _) ?_ (fun _ => rfl) fun c (hc : c ≤ 6) => ?_
  · (refine And.intro ?_ (And.intro ?_ (And.intro ?_ rfl)) <;> (conv => whnf) <;> repeat' (first | exact trivial | exact LeE.of (Le.refl _) | (first | exact rfl | exact fun i hi => LeCs.refl _ | fail) | ((with_reducible refine And.intro ?_ ?_) <;> conv => whnf)))
    exact fun i hi => absurd hi (Nat.not_lt_zero _)
  · have hl := outr_le c
    conv => whnf
    repeat' (first | (refine And.intro (fun h => ?_) (fun h => ?_) <;> (first | (with_reducible have hd : _ < _ := of_decide_eq_true h) | (with_reducible have hd : ¬ (_ < _) := of_decide_eq_false h) | fail) <;> conv => whnf) | fail)
    · have h1 : c < 6 := by omega
      refine loopI Nat (· ≤ 4) (fun o => [(1, .own 1 2 0 (outr c ++ inn c o).length), (8, intA .i64 o)]) (fun o => [.row 2 0 (fun _ => []), .row 2 (outr c ++ inn c o).length (rowT (outr c ++ inn c o))]) (fun o => 4 - o) 0 (Nat.zero_le _) ?_ (fun _ => rfl) fun o (ho : o ≤ 4) => ?_
      · have e0 : outr c ++ inn c 0 = outr c := by simp [inn]
        rw [e0]
        (refine And.intro ?_ (And.intro ?_ (And.intro ?_ rfl)) <;> (conv => whnf) <;> repeat' (first | exact trivial | exact LeE.of (Le.refl _) | (first | exact rfl | exact fun i hi => LeCs.refl _ | fail) | ((with_reducible refine And.intro ?_ ?_) <;> conv => whnf)))
      · have hl2 := inn_le c o
        have hb : ((outr c ++ inn c o).length + 1) * (tb 31).bytes ≤ 140737488355328 := by show ((outr c ++ inn c o).length + 1) * 16 ≤ _; simp only [List.length_append]; omega
        conv => whnf
        repeat' (first | (refine Exists.intro _ (And.intro (aChk _ _) ?_); conv => whnf) | (refine And.intro (fun h => ?_) (fun h => ?_) <;> (first | (with_reducible have hd : _ < _ := of_decide_eq_true h) | (with_reducible have hd : ¬ (_ < _) := of_decide_eq_false h) | skip) <;> conv => whnf) | ((with_reducible refine OwnOr.l ?_); (conv => whnf)) | (refine And.intro ?_ ?_; (focus (first | (first | assumption) | fail)); conv => whnf) | ((with_reducible refine xc_pure ?_); conv => whnf))
        · have h2 : o < 4 := by omega
          have e : outr c ++ inn c (o + 1) = outr c ++ inn c o ++ [((c : Int), (o : Int))] := by
            rw [List.append_assoc]; congr 1
            have h : ((if chk ((c : Int), (o : Int)) = true then (0 : Int) else 1) == 0) = true := h
            exact if_pos (by revert h; cases chk ((c : Int), (o : Int)) <;> simp)
          have e1 : (outr c ++ inn c (o + 1)).length = (outr c ++ inn c o).length + 1 := by rw [e, List.length_append]; rfl
          refine ⟨o + 1, h2, ?_, by show 4 - (o + 1) < 4 - o; omega⟩
          (refine And.intro ?_ (And.intro ?_ (And.intro ?_ rfl)) <;> (conv => whnf) <;> repeat' (first | exact trivial | exact LeE.of (Le.refl _) | (with_reducible refine LeE.of ?_) | (first | exact rfl | exact leI (by first | rfl | (rw [wrap64 (by omega) (by omega)]; omega) | fail) | exact fun i hi => LeCs.refl _ | exact leOwn (by first | rfl | omega)) | ((with_reducible refine And.intro ?_ ?_) <;> conv => whnf)))
          · exact e1.symm
          exact fun i hi => LeCs.of_eq (by
            rw [e] at hi ⊢
            exact rowE_snoc (enc := cT) (x := ((c : Int), (o : Int))) (d := ((0 : Int), (0 : Int))) _ _ rfl i (by rw [List.length_append] at hi; exact hi))
        · have h2 : o < 4 := by omega
          have e : outr c ++ inn c (o + 1) = outr c ++ inn c o := by
            congr 1
            have h : ((if chk ((c : Int), (o : Int)) = true then (0 : Int) else 1) == 0) = false := h
            exact if_neg (by revert h; cases chk ((c : Int), (o : Int)) <;> simp)
          refine ⟨o + 1, h2, ?_, by show 4 - (o + 1) < 4 - o; omega⟩
          rw [e]
          (refine And.intro ?_ (And.intro ?_ (And.intro ?_ rfl)) <;> (conv => whnf) <;> repeat' (first | exact trivial | exact LeE.of (Le.refl _) | (with_reducible refine LeE.of ?_) | (first | exact rfl | exact leI (by first | rfl | (rw [wrap64 (by omega) (by omega)]; omega) | fail) | exact fun i hi => LeCs.refl _ | fail) | ((with_reducible refine And.intro ?_ ?_) <;> conv => whnf)))
        · obtain rfl : o = 4 := by omega
          refine ⟨c + 1, h1, ?_, by show 6 - (c + 1) < 6 - c; omega⟩
          have e : outr (c + 1) = outr c ++ inn c 4 := rfl
          rw [e]
          (refine And.intro ?_ (And.intro ?_ (And.intro ?_ rfl)) <;> (conv => whnf) <;> repeat' (first | exact trivial | exact LeE.of (Le.refl _) | (with_reducible refine LeE.of ?_) | (first | exact rfl | exact leI (by first | rfl | (rw [wrap64 (by omega) (by omega)]; omega) | fail) | exact fun i hi => LeCs.refl _ | fail) | ((with_reducible refine And.intro ?_ ?_) <;> conv => whnf)))
    · obtain rfl : c = 6 := by omega
      exact leSl rfl fun i hi => by rw [Nat.zero_add, outr_6]
def eqT (a b : Ty) : Bool := a.1 == b.1 && a.2 == b.2
theorem aIdxT (k o : Int) : ACall Tryz.prog gl 102 [.c (.sl false 2 12 (rowT tys)), .ag [.v (.int .i64 k), .v (.int .i64 o)]] [] (intA .i64 (fidx (eqT (k, o)) tys 0)) := by
  refine acall_of_vc htb hmix (f := 102) rfl rfl rfl (by kernel_rfl) rfl rfl ?_; conv => whnf
  repeat' (fail)
  refine loopI Nat (fun c => c ≤ 12 ∧ fidx (eqT (k, o)) (tys.drop c) c = fidx (eqT (k, o)) tys 0) (fun c => [(8, intA .i64 c)]) (fun c => [.box [.c (.v (.int .i64 k)), .c (.v (.int .i64 o))]]) (fun c => 12 - c) 0 ⟨Nat.zero_le _, rfl⟩ ?_ (fun _ => rfl) fun c ⟨hc, hR⟩ => ?_
  · (refine And.intro ?_ (And.intro ?_ (And.intro ?_ rfl)) <;> (conv => whnf) <;> repeat' (first | exact trivial | exact LeE.of (Le.refl _) | (first | exact rfl | fail) | ((with_reducible refine And.intro ?_ ?_) <;> conv => whnf)))
  · conv => whnf
    repeat' (first | (refine And.intro (fun h => ?_) (fun h => ?_) <;> (first | (with_reducible have hd : _ < _ := of_decide_eq_true h) | (with_reducible have hd : ¬ (_ < _) := of_decide_eq_false h) | skip) <;> conv => whnf) | (refine And.intro ?_ ?_; (focus (first | (first | exact seT | fail) | (refine chainI ?_; (first | omega | fail)) | fail)); conv => whnf) | fail)
    · have h1 : c < 12 := by omega
      have h : eqT (k, o) (tys.getD c (0, 0)) = true := h
      have e : tys[c]? = some (tys.getD c (0, 0)) := by
        have hl : c < tys.length := h1
        rw [List.getD_eq_getElem?_getD, List.getElem?_eq_getElem hl]; rfl
      exact leI (by rw [← hR, drop_cons? e]; simp only [fidx]; rw [if_pos h])
    · have h1 : c < 12 := by omega
      have h : eqT (k, o) (tys.getD c (0, 0)) = false := h
      have e : tys[c]? = some (tys.getD c (0, 0)) := by
        have hl : c < tys.length := h1
        rw [List.getD_eq_getElem?_getD, List.getElem?_eq_getElem hl]; rfl
      refine ⟨c + 1, ⟨h1, ?_⟩, ?_, by show 12 - (c + 1) < 12 - c; omega⟩
      · rw [← hR, drop_cons? e]; simp only [fidx]; rw [if_neg (by rw [h]; simp)]
      · (refine And.intro ?_ (And.intro ?_ (And.intro ?_ rfl)) <;> (conv => whnf) <;> repeat' (first | exact trivial | exact LeE.of (Le.refl _) | (with_reducible refine LeE.of ?_) | (first | exact rfl | exact leI (by first | rfl | (rw [wrap64 (by omega) (by omega)]; omega) | fail) | fail) | ((with_reducible refine And.intro ?_ ?_) <;> conv => whnf)))
    · obtain rfl : c = 12 := by omega
      exact leI (by rw [← hR]; rfl)
theorem aConT (k o : Int) : ACall Tryz.prog gl 87 [.c (.sl false 2 12 (rowT tys)), .ag [.v (.int .i64 k), .v (.int .i64 o)]] [] (boolA (chk (k, o))) := by
  refine acall_of_vc htb hmix (f := 87) rfl rfl rfl (by kernel_rfl) rfl rfl ?_; conv => whnf
  repeat' (first | (refine Exists.intro _ (And.intro (aIdxT _ _) ?_); conv => whnf) | ((with_reducible refine xc_pure ?_); conv => whnf))
  refine leB ?_
  rw [fidx_any]
  by_cases h : chk (k, o) = true
  · rw [h]
    exact List.any_eq_true.2 ⟨_, chk_mem h, by simp [eqT]⟩
  · have h : chk (k, o) = false := by simpa using h
    rw [h]
    refine Bool.eq_false_iff.2 fun ha => ?_
    obtain ⟨p, hp, he⟩ := List.any_eq_true.1 ha
    simp only [eqT, Bool.and_eq_true, beq_iff_eq] at he
    have : ∀ p ∈ tys, chk p = true := by decide
    have hq := this p hp
    rw [show (k, o) = p from Prod.ext he.1 he.2] at h
    rw [h] at hq; simp at hq
def tOf (c : Int) : Ty := (IntKind.i64.wrap (shrI .u8 c 3), IntKind.i64.wrap (bitsI .and .u8 c 7))
def ofC (c : Int) : Ty × Int := if chk (tOf c) then (tOf c, 0) else ((0, 0), 4)
theorem aOf (c : Int) : ACall Tryz.prog gl 77 [intA .u8 c] [] (.tup [tA (ofC c).1, intA .i64 (ofC c).2]) := by
  refine acall_of_vc htb hmix (f := 77) rfl rfl rfl (by kernel_rfl) rfl rfl ?_; conv => whnf
  repeat' (first | (refine Exists.intro _ (And.intro (chainI (aAllT)) ?_); conv => whnf) | (refine Exists.intro _ (And.intro (chainI (aConT _ _)) ?_); conv => whnf) | (refine And.intro (fun h => ?_) (fun h => ?_) <;> (first | skip) <;> conv => whnf) | ((with_reducible refine DOr.l ?_); (conv => whnf)) | (refine And.intro ?_ ?_; (focus (first | (refine chainI ?_; (first | decide | fail)) | fail)); conv => whnf) | fail)
  · have h : (!chk (tOf c)) = true := h
    exact Le.of_eq (by unfold ofC; rw [if_neg (by simpa using h)]; rfl)
  · have h : (!chk (tOf c)) = false := h
    exact Le.of_eq (by unfold ofC; rw [if_pos (by simpa using h)]; rfl)
theorem gStr_ok (s : ByteArray) (k n : Nat) (most : Int) : ((gStr s k n most).2.2 = 0 → 0 ≤ (gStr s k n most).2.1 ∧ (gStr s k n most).2.1 ≤ n) ∧ ((gStr s k n most).2.2 ≠ 0 → (gStr s k n most).1 = ByteArray.empty ∧ (gStr s k n most).2.1 = 0) := by
  have ok := gS_ok s k n 0 0 (Int.le_refl 0)
  unfold gStr
  generalize IntKind.u64.wrap (if 0 > most then 0 else most) = mm
  split
  · rename_i h; exact ⟨fun _ => ⟨Int.le_refl _, by show (0 : Int) ≤ n; omega⟩, fun _ => ⟨rfl, rfl⟩⟩
  · rename_i h
    have o := ok (by simpa using h)
    split
    · exact ⟨fun h => by simp at h, fun _ => ⟨rfl, rfl⟩⟩
    · split
      · exact ⟨fun h => by simp at h, fun _ => ⟨rfl, rfl⟩⟩
      · rename_i h3
        simp only [gt_iff_lt, decide_eq_true_eq] at h3
        exact ⟨fun _ => ⟨by show 0 ≤ (gS s k n 0 0).2.1 + (gS s k n 0 0).1; omega, by show (gS s k n 0 0).2.1 + (gS s k n 0 0).1 ≤ n; omega⟩, fun h => absurd rfl h⟩
def rText (s : ByteArray) (a b : Int) : ByteArray × Int × Int := if b != 0 then (ByteArray.empty, a, b) else ((gStr s a.toNat (s.size - a.toNat) 1024).1, a + (gStr s a.toNat (s.size - a.toNat) 1024).2.1, (gStr s a.toNat (s.size - a.toNat) 1024).2.2)
theorem mText (t : Bool) (s : ByteArray) (a b : Int) (h0 : 0 ≤ a) (h1 : a ≤ s.size) : MCall Tryz.prog gl 76 [cR t s a b] [.ptr 0 0] [cR t s (rText s a b).2.1 (rText s a b).2.2] (.c (.v (.string (rText s a b).1))) := by
  refine mcall_of_vcb htb hmix (f := 76) rfl rfl rfl (by kernel_rfl) rfl rfl rfl fun hb hb2 => ?_; simp only [bndPre, bndAll, AV.bnd, bnds, C.bnd, true_and, and_true] at hb hb2; conv => whnf
  have hn := hb.1
  repeat' (first | (refine Exists.intro _ (And.intro (chainI (aGetStr _ _ _ _ _)) ?_); conv => whnf) | (refine And.intro (fun h => ?_) (fun h => ?_) <;> (first | skip) <;> conv => whnf) | ((with_reducible refine DOr.l ?_); (conv => whnf)) | (refine And.intro ?_ ?_; (focus (first | (refine chainI ?_; (first | omega | fail)) | fail)); conv => whnf) | ((with_reducible refine xc_guard ?_); refine xc_mb (by (conv => whnf); repeat' (first | exact trivial | exact rfl | exact LeC.refl _ | ((with_reducible refine And.intro ?_ ?_) <;> conv => whnf))) (mFail _ _ _ _ _) rfl rfl rfl rfl ?_; conv => whnf) | fail)
  · have e : rText s a b = (ByteArray.empty, a, b) := by unfold rText; rw [if_pos h]
    rw [e]; exact ⟨Le.refl _, ⟨LeC.refl _, LeC.refl _, LeC.refl _, trivial⟩, trivial⟩
  · rename_i hb0
    have b0 : b = 0 := by simpa using hb0
    have o := (gStr_ok s a.toNat (s.size - a.toNat) 1024).2 (by simpa using h)
    have e : rText s a b = (ByteArray.empty, a, (gStr s a.toNat (s.size - a.toNat) 1024).2.2) := by unfold rText; rw [if_neg (by rw [hb0]; simp), o.1, o.2, Int.add_zero]
    rw [e]
    exact ⟨Le.of_eq (congrArg (fun x => AV.c (.v (.string x))) o.1), ⟨LeC.refl _, LeC.of_eq (C.eqI (show IntKind.i64.wrap (a + (gStr s a.toNat (s.size - a.toNat) 1024).2.1) = a by rw [o.2, Int.add_zero]; exact wrap64 (by omega) (by omega))), LeC.of_eq (C.eqI (by rw [b0]; rfl)), trivial⟩, trivial⟩
  · rename_i hb0
    have b0 : b = 0 := by simpa using hb0
    have e0 : (gStr s a.toNat (s.size - a.toNat) 1024).2.2 = 0 := by simpa using h
    have o := (gStr_ok s a.toNat (s.size - a.toNat) 1024).1 e0
    have e : rText s a b = ((gStr s a.toNat (s.size - a.toNat) 1024).1, a + (gStr s a.toNat (s.size - a.toNat) 1024).2.1, 0) := by unfold rText; rw [if_neg (by rw [hb0]; simp), e0]
    rw [e]
    exact ⟨Le.refl _, ⟨LeC.refl _, LeC.of_eq (C.eqI (wrap64 (by omega) (by omega))), LeC.of_eq (C.eqI b0), trivial⟩, trivial⟩
end Go.Proofs.YtcgcamfhollnlaaGreatDoor
