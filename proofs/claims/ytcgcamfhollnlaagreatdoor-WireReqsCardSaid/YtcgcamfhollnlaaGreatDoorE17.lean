/- Contracts of functions of the program, and the laws that stand on them: what each function answers, whatever its arguments. -/
import Derived.Test.YtcgcamfhollnlaaGreatDoorEr
import Derived.Test.YtcgcamfhollnlaaGreatDoorE15
import Derived.Test.YtcgcamfhollnlaaGreatDoorE9
set_option linter.unusedSectionVars false
set_option linter.unnecessarySimpa false
namespace Go.Proofs.YtcgcamfhollnlaaGreatDoor
set_option linter.unusedSimpArgs false
set_option linter.unusedVariables false
set_option maxRecDepth 100000
set_option maxHeartbeats 8000000
open Go Go.VA
theorem gPutRqNo (t : Bool) (n : Nat) (f : Nat → List C) (r : Rq) (hf : ∀ i, i < n → NtCs (f i)) (hn : n ≤ 140737488355328) (ho : okRq r = false) :
    GCall Tryz.prog gl 7 [] [.c (.sl t 1 n f), .ag (cRq r)] [.row 1 n f] [.own 0 1 0 n] := by
  have CK := aCheckRq r
  rw [ho, if_neg (by decide)] at CK
  have CL := gClone t n f
  refine gcall_of_vcb htb hmix (f := 7) rfl rfl rfl (by kernel_rfl) rfl rfl rfl fun hb hb2 => ?_; simp only [bndOs, bndO, gbnds, AV.gbnd, bnds, C.bnd, true_and, and_true] at hb hb2; conv => whnf
  repeat' (first | (refine Exists.intro _ (And.intro (CK) ?_); conv => whnf) | (refine And.intro (fun h => ?_) (fun h => ?_) <;> (first | skip) <;> (first | exact absurd h (by decide) | (conv => whnf))) | (refine And.intro ?_ ?_; (focus (first | exact rfl | fail)); conv => whnf) | ((with_reducible refine xc_guard ?_); (first | (refine xc_g (CL) false (by first | (((conv => whnf); repeat' (first | exact trivial | exact rfl | exact LeC.refl _ | ((with_reducible refine And.intro ?_ ?_) <;> conv => whnf))); done) | fail) trivial ?_) | fail); conv => whnf) | ((with_reducible refine xc_pure ?_); conv => whnf))
  all_goals ((conv => whnf); repeat' (first | exact trivial | exact rfl | exact (fun i hi => LeCs.refl _) | ((with_reducible refine And.intro ?_ ?_) <;> conv => whnf)))
theorem gKyR (k : Ky) (ho : okKy k = true) : GCall Tryz.prog gl 24 [] [.ag (cKy k)] [.row 1 (kyL k).length (rB (kyL k))] [.own 0 1 0 (kyL k).length] := by
  obtain ⟨⟨z1, z2, z3, z4, z5, z6, z7⟩, z8⟩ := okKy_le ho
  have a := strL_len k.a.t
  have b := strL_len k.a.n
  have c := strL_len k.a.s
  have d := shortL_len (IntKind.u64.wrap k.a.i).toNat
  have e := shortL_len (IntKind.u64.wrap k.n).toNat
  have P1 := gStrR k.a.t (by omega)
  have D2 := aStrD k.a.n (by omega)
  have D3 := aStrD k.a.s (by omega)
  have S1 := aShortD (IntKind.u64.wrap k.a.i) (u64nn _) (Int.emod_lt_of_pos _ (by decide))
  have S2 := aShortD (IntKind.u64.wrap k.n) (u64nn _) (Int.emod_lt_of_pos _ (by decide))
  have BB : ∀ m : Nat, m ≤ 1000 → m * (tb 5).bytes ≤ 140737488355328 := fun m h => by show m * 1 ≤ _; omega
  have B1 := BB ((strL k.a.t).length + (strL k.a.n).length) (by omega)
  have B2 := BB ((strL k.a.t).length + (strL k.a.n).length + 1) (by omega)
  have B3 := BB ((strL k.a.t).length + (strL k.a.n).length + 1 + (shortL (IntKind.u64.wrap k.a.i).toNat).length) (by omega)
  have B4 := BB ((strL k.a.t).length + (strL k.a.n).length + 1 + (strL k.a.s).length) (by omega)
  have B5 := BB ((strL k.a.t).length + (strL k.a.n).length + 1 + (shortL (IntKind.u64.wrap k.a.i).toNat).length + (shortL (IntKind.u64.wrap k.n).toNat).length) (by omega)
  have B6 := BB ((strL k.a.t).length + (strL k.a.n).length + 1 + (strL k.a.s).length + (shortL (IntKind.u64.wrap k.n).toNat).length) (by omega)
  have B7 := BB ((strL k.a.t).length + (strL k.a.n).length + 1 + (shortL (IntKind.u64.wrap k.n).toNat).length) (by omega)
  refine gcall_of_vcb htb hmix (f := 24) rfl rfl rfl (by kernel_rfl) rfl rfl rfl fun hb hb2 => ?_; simp only [bndOs, bndO, gbnds, AV.gbnd, bnds, C.bnd, true_and, and_true] at hb hb2; conv => whnf
  repeat' (first | (refine Exists.intro _ (And.intro (D2) ?_); conv => whnf) | (refine Exists.intro _ (And.intro (D3) ?_); conv => whnf) | (refine Exists.intro _ (And.intro (S1) ?_); conv => whnf) | (refine Exists.intro _ (And.intro (S2) ?_); conv => whnf) | (refine And.intro (fun h => ?_) (fun h => ?_) <;> (first | skip) <;> (first | (conv => whnf))) | ((with_reducible refine DOr.r ?_); (conv => whnf)) | ((with_reducible refine OwnOr.l ?_); (conv => whnf)) | ((with_reducible apply Drawn.one); conv => whnf) | ((with_reducible refine Then.mk' ?_); conv => whnf) | (first | exact RefS.self rfl | fail) | (refine And.intro ?_ ?_; (focus (first | exact rfl | (first | exact B1 | exact B2 | exact B3 | exact B4 | exact B5 | exact B6 | exact B7 | fail) | ((conv => whnf); intros; (try simp only [decide_eq_true_eq, decide_eq_false_iff_not, Bool.and_eq_true, Bool.or_eq_true, Bool.and_eq_false_imp, Bool.or_eq_false_iff, Bool.not_eq_true', Bool.not_eq_false', beq_iff_eq, bne_iff_ne, ne_eq] at *); (first | omega | fail)))); conv => whnf) | ((with_reducible refine xc_guard ?_); (first | (refine xc_g (P1) false (by first | (((conv => whnf); repeat' (first | exact trivial | exact rfl | exact LeC.refl _ | ((with_reducible refine And.intro ?_ ?_) <;> conv => whnf))); done) | fail) trivial ?_) | fail); conv => whnf) | ((with_reducible refine xc_pure ?_); conv => whnf))
  all_goals first
    | trivial
    | rw [kyL_1 (k := k) (by assumption)]
    | rw [kyL_2 (k := k) (by assumption) (by assumption)]
    | rw [kyL_0 (k := k) (by assumption) (by assumption)]
  all_goals (try ((conv => whnf); repeat' (first | exact trivial | exact rfl | ((with_reducible refine And.intro ?_ ?_) <;> conv => whnf))))
  all_goals first
    | (simp only [List.length_append, List.length_singleton]; done)
    | (simp only [List.length_append, List.length_singleton]; omega)
    | (refine fun i hi => LeCs.of_eq (catRB ?_ (catRB ?_ (catRB ?_ (catRB rfl (fun _ _ => rfl) (fun _ _ => rfl)) (rB1 _)) (fun _ _ => rfl)) (fun _ _ => rfl) i hi) <;> (simp only [List.length_append, List.length_singleton]))
    | (refine fun i hi => LeCs.of_eq (catRB ?_ (catRB ?_ (catRB rfl (fun _ _ => rfl) (fun _ _ => rfl)) (rB1 _)) (fun _ _ => rfl) i hi) <;> (simp only [List.length_append, List.length_singleton]))
theorem aKyD (k : Ky) (ho : okKy k = true) : ACall Tryz.prog gl 24 [.ag (cKy k)] [] (.c (.sl false 1 (kyL k).length (rB (kyL k)))) := by
  have h := ACall.of_gcall (gKyR k ho)
  have e : (fun j => rB (kyL k) (0 + j)) = rB (kyL k) := by funext j; rw [Nat.zero_add]
  rw [e] at h
  exact h
theorem gFormRq (q : Rq) (ho : okRq q = true) (hr : RgRq q) : GCall Tryz.prog gl 9 [] [.ag (cRq q)] [.row 1 (fmRq q).length (rB (fmRq q))] [.own 0 1 0 (fmRq q).length] := by
  obtain ⟨k1, k2, hk, c1, c2⟩ := okRq_parts ho
  have K := aKyD q.y hk
  have P := aFormV q.p c1 hr.p false false
  have W := aFormV q.w c2 hr.w false false
  have b1 := check_big c1
  have b2 := check_big c2
  have hky := kyL_len hk
  have l1 := layL_big q.p
  have l2 := layL_big q.w
  have B1 : (1 + (kyL q.y).length) * (tb 5).bytes ≤ 140737488355328 := by show _ * 1 ≤ _; omega
  have B2 : (1 + (kyL q.y).length + (layL q.p).length) * (tb 5).bytes ≤ 140737488355328 := by show _ * 1 ≤ _; omega
  have B3 : (1 + (kyL q.y).length + (layL q.p).length + (layL q.w).length) * (tb 5).bytes ≤ 140737488355328 := by show _ * 1 ≤ _; omega
  refine gcall_of_vcb htb hmix (f := 9) rfl rfl rfl (by kernel_rfl) rfl rfl rfl fun hb hb2 => ?_; simp only [bndOs, bndO, gbnds, AV.gbnd, bnds, C.bnd, true_and, and_true] at hb hb2; conv => whnf
  repeat' (first | (refine Exists.intro _ (And.intro (K) ?_); conv => whnf) | (refine Exists.intro _ (And.intro (P) ?_); conv => whnf) | (refine Exists.intro _ (And.intro (W) ?_); conv => whnf) | ((with_reducible refine Both.mk ?_ ?_) <;> conv => whnf) | ((with_reducible refine DOr.r ?_); (conv => whnf)) | ((with_reducible refine OwnOr.r ?_); (conv => whnf)) | ((with_reducible apply Drawn.one); conv => whnf) | ((with_reducible refine Then.mk' ?_); conv => whnf) | (first | exact RefS.self rfl | fail) | (refine And.intro ?_ ?_; (focus (first | exact rfl | (first | exact B1 | exact B2 | exact B3 | fail) | fail)); conv => whnf) | ((with_reducible refine xc_pure ?_); conv => whnf))
  all_goals (try ((conv => whnf); repeat' (first | exact trivial | exact rfl | ((with_reducible refine And.intro ?_ ?_) <;> conv => whnf))))
  all_goals first
    | (show 1 + (kyL q.y).length + (layL q.p).length + (layL q.w).length = (IntKind.u8.wrap q.k :: (kyL q.y ++ (layL q.p ++ layL q.w))).length; simp only [List.length_append, List.length_cons]; omega)
    | exact fun i hi => LeCs.of_eq (by
        have e : fmRq q = [IntKind.u8.wrap q.k] ++ kyL q.y ++ layL q.p ++ layL q.w := by simp [fmRq]
        rw [e] at hi ⊢
        exact catRB (A := [IntKind.u8.wrap q.k] ++ kyL q.y ++ layL q.p) (by simp only [List.length_append, List.length_singleton]) (catRB (A := [IntKind.u8.wrap q.k] ++ kyL q.y) (by simp only [List.length_append, List.length_singleton]) (catRB (A := [IntKind.u8.wrap q.k]) rfl (rB1 _) (fun _ _ => rfl)) (fun _ _ => rfl)) (fun _ _ => rfl) i hi)
theorem aFormRq (r : Rq) (ho : okRq r = true) (hr : RgRq r) : ACall Tryz.prog gl 9 [.ag (cRq r)] [] (.c (.sl false 1 (fmRq r).length (rB (fmRq r)))) := by
  have h := ACall.of_gcall (gFormRq r ho hr)
  have e : (fun j => rB (fmRq r) (0 + j)) = rB (fmRq r) := by funext j; rw [Nat.zero_add]
  rw [e] at h
  exact h
theorem ntCs_app : ∀ {a b : List C}, NtCs a → NtCs b → NtCs (a ++ b)
  | [], _, _, hb => hb
  | _ :: _, _, ha, hb => ⟨ha.1, ntCs_app ha.2 hb⟩
theorem NoTag.rq (r : Rq) (n m : Int) : NoTag (.tup [.ag (cRq r), intA .i64 n, intA .i64 m]) := NoTag.tup ⟨NoTag.ag ⟨trivial, ntCs_app (a := cKy r.y) ⟨trivial, trivial, trivial, trivial, trivial, trivial, trivial⟩ (ntCs_app (ntV r.p) (ntV r.w))⟩, NoTag.int, NoTag.int, trivial⟩
theorem at_app {X Y : List Int} (h : Bys (X ++ Y)) : AtL (baL (X ++ Y)) X.length Y := by
  refine ⟨by rw [baL_size, List.length_append]; omega, fun j hj => ?_⟩
  rw [baL_byte h (X.length + j) (by rw [List.length_append]; omega)]
  simp only [List.getD_eq_getElem?_getD]
  rw [List.getElem?_append_right (by omega), Nat.add_sub_cancel_left]
theorem at_pre {X Y : List Int} (h : Bys (X ++ Y)) : AtL (baL (X ++ Y)) 0 X := by
  refine ⟨by rw [baL_size, List.length_append]; omega, fun j hj => ?_⟩
  rw [Nat.zero_add, baL_byte h j (by rw [List.length_append]; omega)]
  simp only [List.getD_eq_getElem?_getD]
  rw [List.getElem?_append_left hj]
theorem drop_app {X Y : List Int} {a : Int} (h : Bys (X ++ Y)) (ha : a = X.length) : dropS (baL (X ++ Y)) a = baL Y := by
  subst ha
  unfold dropS
  rw [Int.toNat_natCast, baL_size, List.length_append, Nat.add_sub_cancel_left]
  exact subBa (at_app h)
theorem gRq_back {q : Rq} {B : List Int} (ho : okRq q = true) (hr : RgRq q) (hB : Bys B) : gRq (baL (fmRq q ++ B)) = (q, ((fmRq q).length : Int), 0) := by
  obtain ⟨k1, k2, hk, c1, c2⟩ := okRq_parts ho
  have b1 := check_big c1
  have b2 := check_big c2
  have hky := kyL_len hk
  have l1 := layL_big q.p
  have l2 := layL_big q.w
  have hby := bys_app (bys_rq ho) hB
  have hbw : Bys (layL q.w ++ B) := bys_app (layL_bys q.w 8 (check_parts c2).1 (by decide)) hB
  have hbp : Bys (layL q.p ++ (layL q.w ++ B)) := bys_app (layL_bys q.p 8 (check_parts c1).1 (by decide)) hbw
  have hbk : Bys (kyL q.y ++ (layL q.p ++ (layL q.w ++ B))) := bys_app (bysKy hk) hbp
  have e0 : fmRq q ++ B = [IntKind.u8.wrap q.k] ++ (kyL q.y ++ (layL q.p ++ (layL q.w ++ B))) := by simp [fmRq]
  have e1 : fmRq q ++ B = ([IntKind.u8.wrap q.k] ++ kyL q.y) ++ (layL q.p ++ (layL q.w ++ B)) := by simp [fmRq]
  have e2 : fmRq q ++ B = ([IntKind.u8.wrap q.k] ++ kyL q.y ++ layL q.p) ++ (layL q.w ++ B) := by simp [fmRq]
  have d1 : dropS (baL (fmRq q ++ B)) 1 = baL (kyL q.y ++ (layL q.p ++ (layL q.w ++ B))) := by
    have h := hby
    rw [e0] at h ⊢
    exact drop_app h rfl
  have hK : rqK (baL (fmRq q ++ B)) = (q.y, ((kyL q.y).length : Int), 0) := by
    unfold rqK
    rw [d1]
    exact ky_back _ q.y hk hr.y0 hr.y1 (at_pre hbk)
  have hA : rqA (baL (fmRq q ++ B)) = (([IntKind.u8.wrap q.k] ++ kyL q.y).length : Int) := by
    unfold rqA
    rw [hK, wrap64 (by show _ ≤ 1 + ((kyL q.y).length : Int); omega) (by show 1 + ((kyL q.y).length : Int) ≤ _; omega)]
    simp only [List.length_append, List.length_singleton]
    omega
  have hP : rqP (baL (fmRq q ++ B)) = (q.p, ((layL q.p).length : Int), 0) := by
    unfold rqP
    have h := hby
    rw [e1] at h
    rw [hA]
    conv => lhs; rw [e1]
    rw [drop_app h rfl]
    exact cGet_app c1 hr.p hbw
  have hBB : rqB (baL (fmRq q ++ B)) = (([IntKind.u8.wrap q.k] ++ kyL q.y ++ layL q.p).length : Int) := by
    unfold rqB
    rw [hP, hA]
    simp only [List.length_append, List.length_singleton]
    rw [wrap64 (by omega) (by omega)]
    omega
  have hW : rqW (baL (fmRq q ++ B)) = (q.w, ((layL q.w).length : Int), 0) := by
    unfold rqW
    have h := hby
    rw [e2] at h
    rw [hBB]
    conv => lhs; rw [e2]
    rw [drop_app h rfl]
    exact cGet_app c2 hr.w hB
  have hE : rqE (baL (fmRq q ++ B)) = ((fmRq q).length : Int) := by
    unfold rqE
    rw [hW, hBB]
    simp only [fmRq, List.length_append, List.length_singleton, List.length_cons, List.length_nil]
    rw [wrap64 (by omega) (by omega)]
    omega
  have hb0 : byteN (baL (fmRq q ++ B)) 0 = IntKind.u8.wrap q.k := by rw [baL_byte hby 0 (by simp [fmRq])]; rfl
  have hQ : rqQ (baL (fmRq q ++ B)) = q := by
    unfold rqQ
    rw [hK, hP, hW, hb0]
    have h1 : IntKind.u8.wrap q.k = q.k := by show q.k % 256 = q.k; omega
    rw [h1, wrap64 (by omega) (by omega)]
  rw [gRq_y (beq_eq_false_iff_ne.2 (by rw [baL_size]; simp [fmRq])) (by rw [hK]; rfl) (by rw [hP]; rfl) (by rw [hW]; rfl) (by rw [hQ, ho]; rfl), hQ, hE]
theorem aGetWantQ (s : ByteArray) (r : Rq) (ho : okRq r = true) (rg : RgRq r) : ACall Tryz.prog gl 10 [.c (.sl true 1 (0 + (0 + s.size + (fmRq r).length - ((s.size : Int)).toNat) + s.size) fun i => catF 0 (0 + (0 + s.size + (fmRq r).length - ((s.size : Int)).toNat)) (catF 0 0 (nthC []) fun i => catF 0 (0 + s.size) (catF 0 0 (nthC []) (strCells s)) (rB (fmRq r)) (0 + ((s.size : Int)).toNat + i)) (strCells s) (0 + i))] [] (.tup [.ag (cRq r), intA .i64 ((fmRq r).length : Int), intA .i64 0]) := by
  have h := aGetRq true (baL (fmRq r ++ bytesL s))
  rw [gRq_back ho rg (bys_str s)] at h
  have hz : (baL (fmRq r ++ bytesL s)).size = (fmRq r).length + s.size := by rw [baL_size, List.length_append, bytesL_len]
  refine h.le ⟨leSl (by rw [hz, Int.toNat_natCast]; omega) (fun i hi => ?_), trivial⟩
  rw [hz] at hi
  show _ = cBy (byteN (baL (fmRq r ++ bytesL s)) i)
  rw [baL_byte (bys_app (bys_rq ho) (bys_str s)) i (by rw [List.length_append, bytesL_len]; omega), Int.toNat_natCast]
  by_cases hl : i < (fmRq r).length
  · unfold catF
    rw [if_pos (by omega), if_neg (Nat.not_lt_zero _)]
    show (if 0 + s.size + (0 + (0 + i) - 0) < 0 + s.size then _ else _) = _
    rw [if_neg (by omega)]
    show cBy ((fmRq r).getD (0 + s.size + (0 + (0 + i) - 0) - (0 + s.size)) 0) = _
    rw [show 0 + s.size + (0 + (0 + i) - 0) - (0 + s.size) = i by omega]
    simp [List.getD_eq_getElem?_getD, List.getElem?_append_left hl]
  · unfold catF
    rw [if_neg (by omega), strCells_eq s _ (by omega)]
    show cBy ((bytesL s).getD (0 + i - (0 + (0 + s.size + (fmRq r).length - s.size))) 0) = _
    rw [show 0 + i - (0 + (0 + s.size + (fmRq r).length - s.size)) = i - (fmRq r).length by omega]
    simp [List.getD_eq_getElem?_getD, List.getElem?_append_right (show (fmRq r).length ≤ i by omega)]
theorem aGetWantQNo (s : ByteArray) : ACall Tryz.prog gl 10 [.c (.sl true 1 (0 + (0 + s.size - ((s.size : Int)).toNat) + s.size) fun i => catF 0 (0 + (0 + s.size - ((s.size : Int)).toNat)) (catF 0 0 (nthC []) fun i => catF 0 0 (nthC []) (strCells s) (0 + ((s.size : Int)).toNat + i)) (strCells s) (0 + i))] [] (.tup [.ag (cRq (gRq s).1), intA .i64 (gRq s).2.1, intA .i64 (gRq s).2.2]) := by
  refine (aGetRq true s).le ⟨leSl (by rw [Int.toNat_natCast]; omega) (fun i hi => ?_), trivial⟩
  rw [Int.toNat_natCast]
  unfold catF
  rw [if_neg (by omega)]
  rw [show 0 + i - (0 + (0 + s.size - s.size)) = i by omega]
end Go.Proofs.YtcgcamfhollnlaaGreatDoor
