/- Contracts of functions of the program, and the laws that stand on them: what each function answers, whatever its arguments. -/
import Derived.Test.YtcgcamfhollnlaaGreatDoorC4
set_option linter.unusedSectionVars false
set_option linter.unnecessarySimpa false
namespace Go.Proofs.YtcgcamfhollnlaaGreatDoor
set_option linter.unusedSimpArgs false
set_option linter.unusedVariables false
set_option maxRecDepth 100000
set_option maxHeartbeats 8000000
open Go Go.VA
abbrev cI (t : Bool) (s : ByteArray) (k : Int) (sec : Bool) (ks : List ByteArray) (l : List V) (a b : Int) : List AO :=
  [.box [.c (.sl t 1 s.size (strCells s)), .c (.v (.int .i64 a)), .c (.v (.int .i64 b))], .box [.c (.v (.int .i64 k)), .c (.v (.int .i64 0)), .c (.v (.string ByteArray.empty)), .own 2 8 0 l.length, .own 3 1 0 ks.length, .c (.v (.int .i64 0)), .c (.v (.int .i64 0)), .c (.v (.bool sec))], .row 8 l.length (rV l), .row 1 ks.length (rS ks)]
def ValOk (t : Bool) (s : ByteArray) (deep : Int) (val : Int → Int → V × Int × Int) : Prop := ∀ a b : Int, 0 ≤ a → a ≤ s.size → 0 ≤ (val a b).2.1 ∧ (val a b).2.1 ≤ s.size ∧ MCall Tryz.prog gl 51 [cR t s a b] [.ptr 0 0, intA .i64 (IntKind.i64.wrap (deep + 1))] [cR t s (val a b).2.1 (val a b).2.2] (.ag (cV (val a b).1))
theorem rV_put2 {l : List V} {x : V} {n : Nat} {g : Nat → List C} (hn : n = l.length) (hg : (g 0).length = 8) {i : Nat} (h : i < n + 1) :
    updF (catF 0 n (rV l) g) (0 + (n : Int).toNat) (List.take 0 (catF 0 n (rV l) g (0 + (n : Int).toNat)) ++ cV x ++ List.drop (0 + 8) (catF 0 n (rV l) g (0 + (n : Int).toNat))) i = rV (l ++ [x]) i := by
  subst hn
  have e0 : 0 + (l.length : Int).toNat = l.length := by simp
  have e1 : catF 0 l.length (rV l) g (0 + (l.length : Int).toNat) = g 0 := by rw [e0]; unfold catF; rw [if_neg (Nat.lt_irrefl _), Nat.sub_self]
  rw [e1, e0, List.take_zero, List.nil_append, List.drop_eq_nil_of_le (by rw [hg]; exact Nat.le_refl _), List.append_nil]
  unfold updF
  by_cases hi : i = l.length
  · rw [if_pos hi, hi, rV_get (by simp)]
    simp
  · rw [if_neg hi, rV_get (by simp; omega)]
    unfold catF
    rw [if_pos (by omega), Nat.zero_add, rV_get (by omega)]
    congr 1
    rw [List.getElem_append_left (by omega)]
set_option maxHeartbeats 4000000 in
theorem mItems (t : Bool) (s : ByteArray) (a b k : Int) (sec : Bool) (deep : Int) (val : Int → Int → V × Int × Int) (h0 : 0 ≤ a) (h1 : a ≤ s.size) (hv : ValOk t s deep val) :
    MCall Tryz.prog gl 78 [cR t s a b, cB k sec] [.ptr 0 0, .ptr 1 0, intA .i64 deep]
      [cR t s (rdAll val s k a b).2.2.1 (rdAll val s k a b).2.2.2, cE k sec (rdAll val s k a b).1 (rdAll val s k a b).2.1] (.tup []) := by
  refine mcall_of_vcb htb hmix (f := 78) rfl rfl rfl (by kernel_rfl) rfl rfl rfl fun hb hb2 => ?_; simp only [bndPre, bndAll, AV.bnd, bnds, C.bnd, true_and, and_true] at hb hb2; conv => whnf
  have hn := hb.1
  repeat' (first | (refine And.intro (fun h => ?_) (fun h => ?_) <;> (first | (with_reducible have hd : _ < _ := of_decide_eq_true h) | (with_reducible have hd : ¬ (_ < _) := of_decide_eq_false h) | fail) <;> conv => whnf) | ((with_reducible refine xc_guard ?_); refine xc_mb (by (conv => whnf); repeat' (first | exact trivial | exact rfl | exact LeC.refl _ | ((with_reducible refine And.intro ?_ ?_) <;> conv => whnf))) (mShort _ _ _ _ h0 h1) rfl rfl rfl rfl ?_; conv => whnf) | ((with_reducible refine xc_guard ?_); refine xc_mb (by (conv => whnf); repeat' (first | exact trivial | exact rfl | exact LeC.refl _ | ((with_reducible refine And.intro ?_ ?_) <;> conv => whnf))) (mFail _ _ _ _ _) rfl rfl rfl rfl ?_; conv => whnf) | fail)
  · have e : itB s a b = failB (rShort s a b).2.2 3 := by unfold itB; rw [if_pos h]
    have I0 := e ▸ ItI.init (val := val) (k := k) h0 h1
    clear e
    generalize failB (rShort s a b).2.2 3 = b0 at *
    refine loopI (Nat × List ByteArray × List V × Int × Int) (fun p => ItI val s k a b p.1 p.2.1 p.2.2.1 p.2.2.2.1 p.2.2.2.2) (fun p => [(7, intA .u64 p.1)]) (fun p => cI t s k sec p.2.1 p.2.2.1 p.2.2.2.1 p.2.2.2.2) (fun p => (rShort s a b).1.toNat - p.1) (0, [], [], (rShort s a b).2.1, b0) I0 ?_ (fun _ => rfl) fun ⟨i, ks, l, a', b'⟩ hi => ?_
    · (refine And.intro ?_ (And.intro ?_ (And.intro ?_ rfl)) <;> (conv => whnf) <;> repeat' (first | exact trivial | exact LeE.of (Le.refl _) | exact LeE.nil rfl | (first | exact rfl | fail) | ((with_reducible refine And.intro ?_ ?_) <;> conv => whnf)))
    · have hI : ItI val s k a b i ks l a' b' := hi
      conv => whnf
      refine ⟨fun hq => ?_, fun hq => ?_⟩ <;> conv => whnf
      · exfalso
        have h2 : (i : Int) < (rShort s a b).1 ∧ b' = 0 := by simpa using hq
        have := hI.sm h2.2
        omega
      · repeat' (fail)
        have E := hI.end1 hq
        rw [E]
        refine ⟨Le.refl _, ?_⟩
        conv => whnf
        repeat' (first | exact trivial | exact LeC.refl _ | exact LeC.sl (by simp) (fun i hi => by rw [Nat.zero_add]) | ((with_reducible refine And.intro ?_ ?_) <;> conv => whnf))
  · have e : itB s a b = (rShort s a b).2.2 := by unfold itB; rw [if_neg (by rw [h]; simp)]
    have I0 := e ▸ ItI.init (val := val) (k := k) h0 h1
    clear e h hd
    generalize (rShort s a b).2.2 = b0 at *
    refine loopI (Nat × List ByteArray × List V × Int × Int) (fun p => ItI val s k a b p.1 p.2.1 p.2.2.1 p.2.2.2.1 p.2.2.2.2) (fun p => [(7, intA .u64 p.1)]) (fun p => cI t s k sec p.2.1 p.2.2.1 p.2.2.2.1 p.2.2.2.2) (fun p => (rShort s a b).1.toNat - p.1) (0, [], [], (rShort s a b).2.1, b0) I0 ?_ (fun _ => rfl) fun ⟨i, ks, l, a', b'⟩ hi => ?_
    · (refine And.intro ?_ (And.intro ?_ (And.intro ?_ rfl)) <;> (conv => whnf) <;> repeat' (first | exact trivial | exact LeE.of (Le.refl _) | exact LeE.nil rfl | (first | exact rfl | fail) | ((with_reducible refine And.intro ?_ ?_) <;> conv => whnf)))
    · have hI : ItI val s k a b i ks l a' b' := hi
      have T := rText_ok s a' b' hI.a0 hI.a1
      have B1 : (decide ((i : Int) < (rShort s a b).1) && (b' == 0)) = true → (l.length + 1) * (tb 33).bytes ≤ 140737488355328 := fun hq => by
        have : (i : Int) < (rShort s a b).1 ∧ b' = 0 := by simpa using hq
        have := hI.sm this.2
        show (l.length + 1) * 104 ≤ _
        have := hI.ln
        omega
      have B2 : (decide ((i : Int) < (rShort s a b).1) && (b' == 0)) = true → (ks.length + 1) * (tb 9).bytes ≤ 140737488355328 := fun hq => by
        have : (i : Int) < (rShort s a b).1 ∧ b' = 0 := by simpa using hq
        have := hI.sm this.2
        show (ks.length + 1) * 16 ≤ _
        have := hI.kn
        omega
      conv => whnf
      refine ⟨fun hq => ?_, fun hq => ?_⟩ <;> conv => whnf
      · have B1 := B1 hq
        have B2 := B2 hq
        have h2 : (i : Int) < (rShort s a b).1 ∧ b' = 0 := by simpa using hq
        have hsm := hI.sm h2.2
        have hkn := hI.kn
        have hkl : ks.length ≤ 200 := by omega
        have KB : (ks.length : Int) > 0 → 0 ≤ IntKind.i64.wrap ((ks.length : Int) - 1) ∧ IntKind.i64.wrap ((ks.length : Int) - 1) < (ks.length : Int) := fun hg => by rw [wrap64 (by omega) (by omega)]; omega
        repeat' (first | (refine And.intro (fun h => ?_) (fun h => ?_) <;> (first | skip) <;> conv => whnf) | ((with_reducible refine Both.mk ?_ ?_) <;> conv => whnf) | ((with_reducible refine OwnOr.l ?_); (conv => whnf)) | ((with_reducible refine Drawn.all ?_); conv => whnf) | (refine And.intro ?_ ?_; (focus (first | (first | assumption | ((conv => whnf); exact fun hg => KB (of_decide_eq_true hg))) | (refine chainI ?_; (first | omega | fail)) | fail)); conv => whnf) | ((with_reducible refine xc_guard ?_); refine xc_mb (by (conv => whnf); repeat' (first | exact trivial | exact rfl | exact LeC.refl _ | ((with_reducible refine And.intro ?_ ?_) <;> conv => whnf))) (mText _ _ _ _ hI.a0 hI.a1) rfl rfl rfl rfl ?_; conv => whnf) | ((with_reducible refine xc_guard ?_); refine xc_mb (by (conv => whnf); repeat' (first | exact trivial | exact rfl | exact LeC.refl _ | ((with_reducible refine And.intro ?_ ?_) <;> conv => whnf))) (mFail _ _ _ _ _) rfl rfl rfl rfl ?_; conv => whnf) | ((with_reducible refine xc_guard ?_); refine xc_mb (by (conv => whnf); repeat' (first | exact trivial | exact rfl | exact LeC.refl _ | ((with_reducible refine And.intro ?_ ?_) <;> conv => whnf))) ((hv _ _ (by first | exact hI.a0 | exact T.1) (by first | exact hI.a1 | exact T.2)).2.2) rfl rfl rfl rfl ?_; conv => whnf) | fail)
        all_goals
          have hd5 : ∀ (q : Bool), (k == 5) = true → keyBad ks (rText s a' b').1 = q → rdK s k ks a' b' = (ks ++ [(rText s a' b').1], (rText s a' b').2.1, if q then failB (rText s a' b').2.2 4 else (rText s a' b').2.2) := fun q h5 hq => by unfold rdK; rw [if_pos h5, hq]
          have hd0 : (k == 5) = false → rdK s k ks a' b' = (ks, a', b') := fun h5 => by unfold rdK; rw [if_neg (by rw [h5]; simp)]
          have hz := Nat.zero_add (IntKind.i64.wrap ((ks.length : Int) - 1)).toNat
          first
            | (have E := hd0 (by assumption); have hnx := hI.next hq (by rw [E]; exact ⟨(hv _ _ hI.a0 hI.a1).1, (hv _ _ hI.a0 hI.a1).2.1⟩); rw [E] at hnx)
            | (have E := hd5 true (by assumption) (by rw [← h, hz]; rfl); have hnx := hI.next hq (by rw [E]; exact ⟨(hv _ _ T.1 T.2).1, (hv _ _ T.1 T.2).2.1⟩); rw [E] at hnx)
            | (have E := hd5 false (by assumption) (by rw [← h, hz]; rfl); have hnx := hI.next hq (by rw [E]; exact ⟨(hv _ _ T.1 T.2).1, (hv _ _ T.1 T.2).2.1⟩); rw [E] at hnx)
          clear hd5 hd0 E
        all_goals
          refine ⟨(i + 1, _, _, _, _), hnx, ?_, (by show (rShort s a b).1.toNat - (i + 1) < (rShort s a b).1.toNat - i; have := h2.1; omega)⟩
          (refine And.intro ?_ (And.intro ?_ (And.intro ?_ rfl)) <;> (conv => whnf) <;> repeat' (first | exact trivial | exact LeE.of (Le.refl _) | (with_reducible refine LeE.of ?_) | (first | exact rfl | exact fun i hi => LeCs.refl _ | fail) | ((with_reducible refine And.intro ?_ ?_) <;> conv => whnf)))
        all_goals first
          | (simp; done)
          | exact leOwn (by simp)
          | exact fun j hj => LeCs.of_eq (rV_put2 rfl rfl (by simpa using hj))
          | exact fun j hj => LeCs.of_eq (rS_snoc rfl (by simpa using hj))
          | exact leI (by show IntKind.u64.wrap ((i : Int) + 1) = ((i + 1 : Nat) : Int); rw [wrapU (by omega) (by omega)]; omega)
      · repeat' (fail)
        have E := hI.end1 hq
        rw [E]
        refine ⟨Le.refl _, ?_⟩
        conv => whnf
        repeat' (first | exact trivial | exact LeC.refl _ | exact LeC.sl (by simp) (fun i hi => by rw [Nat.zero_add]) | ((with_reducible refine And.intro ?_ ?_) <;> conv => whnf))
end Go.Proofs.YtcgcamfhollnlaaGreatDoor
