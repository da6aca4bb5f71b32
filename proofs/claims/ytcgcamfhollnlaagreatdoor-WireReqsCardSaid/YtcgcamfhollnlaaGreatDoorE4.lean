/- Contracts of functions of the program, and the laws that stand on them: what each function answers, whatever its arguments. -/
import Derived.Test.YtcgcamfhollnlaaGreatDoorEr
import Derived.Test.YtcgcamfhollnlaaGreatDoorC19
import Derived.Test.YtcgcamfhollnlaaGreatDoorA2
set_option linter.unusedSectionVars false
set_option linter.unnecessarySimpa false
namespace Go.Proofs.YtcgcamfhollnlaaGreatDoor
set_option linter.unusedSimpArgs false
set_option linter.unusedVariables false
set_option maxRecDepth 100000
set_option maxHeartbeats 8000000
open Go Go.VA
theorem first_doc {v : V} (h0 : 0 ≤ v.k) (h6 : v.k ≤ 6) (h : v.sec = true) : IntKind.u8.wrap (IntKind.u8.wrap v.k + 128) = firstB v := by
  rw [first_t h]
  generalize v.k = k at *
  obtain ⟨a, rfl⟩ : ∃ a : Nat, k = (a : Int) := ⟨k.toNat, by omega⟩
  have hf : ∀ a : Fin 7, IntKind.u8.wrap (IntKind.u8.wrap (a.val : Int) + 128) = bitsI .or .u8 (IntKind.u8.wrap (a.val : Int)) 128 := by decide +kernel
  exact hf ⟨a, by omega⟩
theorem code_doc (t : Ty) (h : chkR t = true) : IntKind.u8.wrap (IntKind.i64.wrap (IntKind.i64.wrap (8 * t.1) + t.2)) = codeT t := by
  obtain ⟨k, o⟩ := t
  unfold chkR at h
  split at h
  · exact absurd h (by decide)
  · rename_i hn
    simp at hn
    have hf : ∀ a : Fin 6, ∀ b : Fin 4, chkR ((a.val : Int), (b.val : Int)) = true → IntKind.u8.wrap (IntKind.i64.wrap (IntKind.i64.wrap (8 * (a.val : Int)) + (b.val : Int))) = codeT ((a.val : Int), (b.val : Int)) := by decide +kernel
    obtain ⟨a, rfl⟩ : ∃ a : Nat, k = (a : Int) := ⟨k.toNat, by omega⟩
    obtain ⟨b, rfl⟩ : ∃ b : Nat, o = (b : Int) := ⟨o.toNat, by omega⟩
    refine hf ⟨a, by omega⟩ ⟨b, by omega⟩ ?_
    unfold chkR
    rw [if_neg (by simp; omega)]
    exact h
theorem shaped_ty {v : V} (h : shaped v = true) (h6 : (v.k == 6) = true) : chkR v.t = true := by
  rw [shaped_law v 1 (by omega)] at h
  simp only [Bool.and_eq_true, Bool.not_eq_true'] at h
  obtain ⟨⟨⟨⟨⟨⟨c1, c2⟩, c3⟩, c4⟩, c5⟩, c6⟩, ck⟩ := h
  unfold chk4 at c4
  simp only [Bool.or_eq_false_iff, h6, Bool.true_and, Bool.not_eq_false'] at c4
  exact c4.2
theorem e_sec {v : V} (h0 : 0 ≤ v.k) (h6 : v.k ≤ 6) (h : v.sec = true) : ∀ j, j < [firstB v].length → updF (nthC [[C.v (Value.int IntKind.u8 (IntKind.u8.wrap v.k))]]) (0 + Int.toNat 0)
    (List.take 0 (nthC [[C.v (Value.int IntKind.u8 (IntKind.u8.wrap v.k))]] (0 + Int.toNat 0)) ++ [C.v (Value.int IntKind.u8 (IntKind.u8.wrap (IntKind.u8.wrap v.k + 128)))] ++ List.drop (0 + (tb 5).sz) (nthC [[C.v (Value.int IntKind.u8 (IntKind.u8.wrap v.k))]] (0 + Int.toNat 0))) j = rB [firstB v] j := fun j hj => by
  obtain rfl : j = 0 := by simpa using hj
  rw [← first_doc h0 h6 h]; rfl
theorem e_ns {v : V} (h : v.sec = false) : ∀ j, j < [firstB v].length → nthC [[C.v (Value.int IntKind.u8 (IntKind.u8.wrap v.k))]] j = rB [firstB v] j := fun j hj => by
  obtain rfl : j = 0 := by simpa using hj
  rw [first_f h]; rfl
attribute [local irreducible] zigI
set_option maxHeartbeats 2000000 in
theorem gVForm (v : V) : ∀ (d : Nat) (t t' : Bool), allV v d = true → d ≤ 8 → rgV v = true → bigL v ≤ 2000000 →
    GCall Tryz.prog gl 25 [] [.ag (cVt t t' v)] [.row 1 (layL v).length (rB (layL v))] [.own 0 1 0 (layL v).length] := by
  induction v using V.ind with
  | h v ih =>
  intro d t t' hA hd hr hb
  have hL := layL_eq v
  obtain ⟨h0, hS, hl⟩ := allV_parts hA
  obtain ⟨d, rfl⟩ : ∃ e, d = e + 1 := ⟨d - 1, by omega⟩
  have hw : IntKind.i64.wrap (((d + 1 : Nat) : Int) - 1) = (d : Int) := by rw [wrap64 (by omega) (by omega)]; omega
  rw [hw] at hl
  obtain ⟨p1, p2, p3, p4, p5, p6, p7, p8⟩ := shaped_parts hS
  rw [rgV_eq] at hr
  simp only [Bool.and_eq_true, decide_eq_true_eq, List.all_eq_true] at hr
  have wl : IntKind.u64.wrap (v.l.length : Int) = v.l.length := wrapU (by omega) (by omega)
  have s1 := shortL_len (zigI v.i).toNat
  have s2 := strL_len v.s
  have s3 := shortL_len v.l.length
  have BB : ∀ m : Nat, m ≤ 1000000 → m * (tb 5).bytes ≤ 140737488355328 := fun m h => by show m * 1 ≤ _; omega
  have B0 := BB (1 + 1) (by omega)
  have B2 := BB (1 + (shortL (zigI v.i).toNat).length) (by omega)
  have B3 := BB (1 + (strL v.s).length) (by omega)
  have B4 := BB (1 + (shortL (IntKind.u64.wrap (v.l.length : Int)).toNat).length) (by rw [wl, Int.toNat_natCast]; omega)
  have Z := aZigR v.i (by omega) (by omega)
  have P2 := aShortD (zigI v.i) (zigI_rg v.i).1 (zigI_rg v.i).2
  have P3 := aStrD v.s (by omega)
  have P4 := aShortD (IntKind.u64.wrap (v.l.length : Int)) (by rw [wl]; omega) (by rw [wl]; omega)
  refine gcall_of_vcb htb hmix (f := 25) rfl rfl rfl (by kernel_rfl) rfl rfl rfl fun hb hb2 => ?_; simp only [bndOs, bndO, gbnds, AV.gbnd, bnds, C.bnd, true_and, and_true] at hb hb2; conv => whnf
  repeat' (first | (refine Exists.intro _ (And.intro (Z) ?_); conv => whnf) | (refine Exists.intro _ (And.intro (P2) ?_); conv => whnf) | (refine Exists.intro _ (And.intro (P3) ?_); conv => whnf) | (refine Exists.intro _ (And.intro (P4) ?_); conv => whnf) | (refine And.intro (fun h => ?_) (fun h => ?_) <;> (first | skip) <;> conv => whnf) | ((with_reducible refine OwnOr.r ?_); (conv => whnf)) | (refine And.intro ?_ ?_; (focus (first | exact rfl | (first | exact B0 | exact B2 | exact B3 | exact B4 | fail) | (refine chainI ?_; (first | decide | fail)) | fail)); conv => whnf) | ((with_reducible refine xc_pure ?_); conv => whnf))
  all_goals first
    | have e0 := e_sec p1 p2 (by assumption)
    | have e0 := e_ns (v := v) (by assumption)
  all_goals try first
    | have e1 := layB_1 (v := v) (rs := v.l.map layL) (by assumption)
    | have e1 := layB_2 (v := v) (rs := v.l.map layL) (by assumption) (by assumption)
    | have e1 := layB_3 (v := v) (rs := v.l.map layL) (by assumption) (by assumption) (by assumption)
    | have e1 := layB_6 (v := v) (rs := v.l.map layL) (by assumption) (by assumption) (by assumption) (by assumption)
    | have e1 := layB_0 (v := v) (rs := v.l.map layL) (by assumption) (by assumption) (by assumption) (by assumption) (by assumption) (by assumption)
  all_goals try (rw [e1] at hL; rw [hL])
  all_goals try (guard_target =~ (_ ∧ _); ((conv => whnf); repeat' (first | exact trivial | exact rfl | ((with_reducible refine And.intro ?_ ?_) <;> conv => whnf))))
  all_goals try first
    | exact fun i hi => LeCs.of_eq (e0 i hi)
    | (have e6 := code_doc v.t (shaped_ty hS (by assumption)); exact fun i hi => LeCs.of_eq (catRB (A := [firstB v]) rfl e0 (fun j hj => by simp only [Nat.zero_add]; rw [← e6]; exact rB1 _ j hj) i hi))
    | exact fun i hi => LeCs.of_eq (catRB (A := [firstB v]) rfl e0 (fun j hj => by simp only [Nat.zero_add]; exact rB1 _ j hj) i hi)
    | exact fun i hi => LeCs.of_eq (catRB (A := [firstB v]) rfl e0 (fun j hj => by simp only [Nat.zero_add]) i hi)
    | exact fun i hi => LeCs.of_eq (catRB (A := [firstB v]) rfl e0 (fun j hj => rfl) i hi)
    | (simp only [List.length_cons]; omega)
  all_goals try exact absurd ((‹(v.k == 4) = true›).symm.trans ‹(v.k == 4) = false›) (by decide)
  all_goals
    have e2 := hdL_all (v := v) (by assumption) (by assumption) (by assumption) (by assumption) (by simp [*])
    refine loopI Nat (fun c => c ≤ v.l.length) (fun c => [(4, intA .i64 c), (3, .own 2 1 0 (hdL v c).length)]) (fun c => [.box (List.map AV.c (cVt t t' v)), .row (tb 5).sz 0 (fun _ => []), .row 1 (hdL v c).length (rB (hdL v c))]) (fun c => v.l.length - c) 0 (Nat.zero_le _) ?_ (fun _ => rfl) fun c hc => ?_
    · have hz : hdL v 0 = [firstB v] ++ shortL v.l.length := by simp [hdL, layIts]
      rw [wl, Int.toNat_natCast]
      (refine And.intro ?_ (And.intro ?_ (And.intro ?_ rfl)) <;> (conv => whnf) <;> repeat' (first | exact trivial | exact LeE.of (Le.refl _) | (with_reducible refine LeE.of ?_) | (first | exact rfl | exact fun i hi => LeCs.refl _ | fail) | ((with_reducible refine And.intro ?_ ?_) <;> conv => whnf)))
      all_goals first
        | exact fun i hi => LeCs.of_eq (by rw [hz]; exact catRB (A := [firstB v]) rfl e0 (fun j hj => by simp only [Nat.zero_add]) i (by rw [hz] at hi; exact hi))
        | exact fun i hi => LeCs.of_eq (by rw [hz]; exact catRB (A := [firstB v]) rfl e0 (fun j hj => rfl) i (by rw [hz] at hi; exact hi))
        | exact leOwn (by rw [hz, List.length_append]; rfl)
        | (rw [hz, List.length_append]; rfl)
    · rcases Nat.lt_or_ge c v.l.length with hcl | hcl
      · obtain ⟨x, hx, hm, he⟩ := rV_ex hcl
        have hbig := hdL_big hx hcl
        have hxl := layL_big x
        have ks := strL_len (v.ks.getD c ByteArray.empty)
        have hk1 : (v.ks.getD c ByteArray.empty).size ≤ 1024 := by
          rw [List.getD_eq_getElem?_getD]
          cases h : v.ks[c]? with
          | none => show ByteArray.empty.size ≤ 1024; decide
          | some y => exact keys_small p8 c y h
        have PS := aStrD (v.ks.getD c ByteArray.empty) (by omega)
        have PL := fun t t' => (show ACall Tryz.prog gl 25 [.ag (cVt t t' x)] [] (.c (.sl false 1 (layL x).length (rB (layL x)))) from by
          have h := ACall.of_gcall (ih x hm d t t' (hl x hm) (by omega) (hr.2 x hm) (by omega))
          have e : (fun j => rB (layL x) (0 + j)) = rB (layL x) := by funext j; rw [Nat.zero_add]
          rw [e] at h
          exact h)
        have BC : ∀ m : Nat, m ≤ 4000000 → m * (tb 5).bytes ≤ 140737488355328 := fun m h => by show m * 1 ≤ _; omega
        have B5 := BC ((hdL v c).length + (strL (v.ks.getD c ByteArray.empty)).length) (by omega)
        have B6 := BC ((hdL v c).length + (layL x).length) (by omega)
        have B7 := BC ((hdL v c).length + (strL (v.ks.getD c ByteArray.empty)).length + (layL x).length) (by omega)
        conv => whnf
        repeat' (first | (refine Exists.intro _ (And.intro (PS) ?_); conv => whnf) | (refine And.intro (fun h => ?_) (fun h => ?_) <;> (first | (with_reducible have hd : _ < _ := of_decide_eq_true h) | (with_reducible have hd : ¬ (_ < _) := of_decide_eq_false h) | skip) <;> conv => whnf) | (refine And.intro ?_ ?_; (focus (first | exact rfl | (first | exact B5 | fail) | (refine chainI ?_; (first | omega | fail)) | (first | omega | fail) | ((conv => whnf); intros; (try simp only [decide_eq_true_eq, decide_eq_false_iff_not, Bool.and_eq_true, Bool.or_eq_true, Bool.and_eq_false_imp, Bool.or_eq_false_iff, Bool.not_eq_true', Bool.not_eq_false', beq_iff_eq, bne_iff_ne, ne_eq] at *); (first | omega | fail)))); conv => whnf) | ((with_reducible refine xc_pure ?_); conv => whnf))
        all_goals try exact trivial
        all_goals (rw [he]; conv => whnf)
        repeat' (first | (refine Exists.intro _ (And.intro (PL _ _) ?_); conv => whnf) | (refine And.intro ?_ ?_; (focus (first | (first | exact B6 | exact B7 | fail) | fail)); conv => whnf) | ((with_reducible refine xc_pure ?_); conv => whnf))
        all_goals try exact trivial
        all_goals try first
          | exact absurd ((‹(v.k == 5) = true›).symm.trans ‹(v.k == 5) = false›) (by decide)
          | exact absurd (eq_of_beq ‹(v.k == 4) = true›) (by rw [eq_of_beq ‹(v.k == 5) = true›]; decide)
        all_goals
          first | have es := hdL_succ5 (v := v) (c := c) (by assumption) hx hcl | have es := hdL_succ4 (v := v) (c := c) (by assumption) hx hcl
          have el := congrArg List.length es
          simp only [List.length_append] at el
          refine ⟨c + 1, by omega, ?_, by omega⟩
          (refine And.intro ?_ (And.intro ?_ (And.intro ?_ rfl)) <;> (conv => whnf) <;> repeat' (first | exact trivial | exact LeE.of (Le.refl _) | (with_reducible refine LeE.of ?_) | (first | exact rfl | exact leI (by first | rfl | (rw [wrap64 (by omega) (by omega)]; omega) | fail) | exact fun i hi => LeCs.refl _ | exact leOwn (by first | rfl | omega)) | ((with_reducible refine And.intro ?_ ?_) <;> conv => whnf)))
        all_goals try first
          | exact leI (by rw [wrap64 (by omega) (by omega)]; rfl)
          | exact leOwn (by omega)
          | omega
        all_goals first
          | exact fun i hi => LeCs.of_eq (by rw [es]; exact catRB (A := hdL v c) rfl (fun _ _ => rfl) (fun _ _ => rfl) i (by rw [es] at hi; exact hi))
          | exact fun i hi => LeCs.of_eq (by rw [es]; exact catRB (A := hdL v c ++ strL (v.ks.getD c ByteArray.empty)) (by rw [List.length_append]) (catRB rfl (fun _ _ => rfl) (fun _ _ => rfl)) (fun _ _ => rfl) i (by rw [es] at hi; exact hi))
      · obtain rfl : c = v.l.length := by omega
        conv => whnf
        repeat' (first | (refine And.intro (fun h => ?_) (fun h => ?_) <;> (first | (with_reducible have hd : _ < _ := of_decide_eq_true h) | (with_reducible have hd : ¬ (_ < _) := of_decide_eq_false h) | skip) <;> conv => whnf) | (refine And.intro ?_ ?_; (focus (first | exact rfl | (refine chainI ?_; (first | omega | fail)) | fail)); conv => whnf) | fail)
        all_goals try (exfalso; omega)
        rw [e2]
        ((conv => whnf); repeat' (first | exact trivial | exact rfl | exact (fun i hi => LeCs.refl _) | ((with_reducible refine And.intro ?_ ?_) <;> conv => whnf)))
end Go.Proofs.YtcgcamfhollnlaaGreatDoor
