/- Contracts of functions of the program, and the laws that stand on them: what each function answers, whatever its arguments. -/
import Derived.Test.YtcgcamfhollnlaaDoorE4
import Derived.Test.YtcgcamfhollnlaaDoorE3
import Derived.Test.YtcgcamfhollnlaaDoorE1
import Derived.Test.YtcgcamfhollnlaaDoorC17
set_option linter.unusedSectionVars false
set_option linter.unnecessarySimpa false
namespace Go.Proofs.YtcgcamfhollnlaaDoor
set_option linter.unusedSimpArgs false
set_option linter.unusedVariables false
set_option maxRecDepth 100000
set_option maxHeartbeats 8000000
open Go Go.VA
theorem aFormV (v : V) (hc : checkV v = 0) (hr : rgV v = true) (t t' : Bool) : ACall Tryd.prog gl 40 [.ag (cVt t t' v)] [] (.c (.sl false 1 (layL v).length (rB (layL v)))) := by
  have h := ACall.of_gcall (gVForm v 8 t t' (check_parts hc).1 (by decide) hr (check_big hc).1)
  have e : (fun j => rB (layL v) (0 + j)) = rB (layL v) := by funext j; rw [Nat.zero_add]
  rw [e] at h
  exact h
theorem gFormRp (r : Rp) (ho : okRp r = true) (hr : rgV r.v = true) : GCall Tryd.prog gl 22 [] [.ag (cRp r)] [.row 1 (fmRp r).length (rB (fmRp r))] [.own 0 1 0 (fmRp r).length] := by
  have hc := (okRp_parts ho).2.2
  have F := aFormV r.v hc hr false false
  have hb := check_big hc
  have hl := layL_big r.v
  have B1 : (1 + (layL r.v).length) * (tb 5).bytes ≤ 140737488355328 := by show _ * 1 ≤ _; omega
  refine gcall_of_vcb htb hmix (f := 22) rfl rfl rfl (by kernel_rfl) rfl rfl rfl fun hb hb2 => ?_; simp only [bndOs, bndO, gbnds, AV.gbnd, bnds, C.bnd, true_and, and_true] at hb hb2; conv => whnf
  repeat' (first | (refine Exists.intro _ (And.intro (chainI (F)) ?_); conv => whnf) | (refine Exists.intro _ (And.intro (F) ?_); conv => whnf) | ((with_reducible refine GOr.l ?_); (conv => whnf); refine Exists.intro _ (And.intro (chainI (F)) ?_); conv => whnf) | (refine And.intro (fun h => ?_) (fun h => ?_) <;> (first | (with_reducible have hd : _ < _ := of_decide_eq_true h) | (with_reducible have hd : _ ≤ _ := of_decide_eq_true h) | (with_reducible have hd : ¬ (_ < _) := of_decide_eq_false h) | (with_reducible have hd : ¬ (_ ≤ _) := of_decide_eq_false h) | skip) <;> (first | exact absurd h (by decide) | omega | (conv => whnf))) | ((with_reducible refine Both.mk ?_ ?_) <;> conv => whnf) | ((with_reducible refine DOg.l ?_); (conv => whnf)) | ((with_reducible refine DOr.r ?_); (conv => whnf)) | ((with_reducible refine OwnOr.r ?_); (conv => whnf)) | ((with_reducible apply Drawn.one); conv => whnf) | ((with_reducible refine Then.mk' ?_); conv => whnf) | (first | exact RefS.self rfl | ((with_reducible refine RefS.mk ?_ ?_); (focus (refine And.intro ?_ (And.intro ?_ (And.intro ?_ rfl)) <;> (conv => whnf) <;> repeat' (first | exact trivial | exact LeE.of (Le.refl _) | exact LeE.nil rfl | (with_reducible refine LeE.of ?_) | (first | fail | exact Le.refl _ | exact rfl | exact leI (by first | rfl | omega | (rw [wrap64 (by omega) (by omega)]; omega) | (rw [wrap64 (by omega) (by omega)]; done)) | exact LeCs.refl _ | exact fun i hi => LeCs.refl _ | exact leOwn (by first | rfl | omega)) | ((with_reducible refine And.intro ?_ ?_) <;> conv => whnf)))); exact rfl)) | (refine And.intro ?_ ?_; (focus (first | exact trivial | exact rfl | (first | exact seI | exact B1 | exact B2 | exact ntP | exact ntG | exact seT | exact u64nn _ | assumption) | (refine chainI ?_; (first | (first | exact seI | exact B1 | exact B2 | exact ntP | exact ntG | exact seT | exact u64nn _ | assumption) | decide | omega | (refine And.intro ?_ ?_ <;> first | omega | (simp; omega)) | (simp only [IntKind.wrap_i64]; first | omega | (refine And.intro ?_ ?_ <;> omega)))) | (intro _; (first | (first | exact seI | exact B1 | exact B2 | exact ntP | exact ntG | exact seT | exact u64nn _ | assumption) | decide | omega | (refine And.intro ?_ ?_ <;> first | omega | (simp; omega)) | (simp only [IntKind.wrap_i64]; first | omega | (refine And.intro ?_ ?_ <;> omega)))) | (intro _ _; (first | (first | exact seI | exact B1 | exact B2 | exact ntP | exact ntG | exact seT | exact u64nn _ | assumption) | decide | omega | (refine And.intro ?_ ?_ <;> first | omega | (simp; omega)) | (simp only [IntKind.wrap_i64]; first | omega | (refine And.intro ?_ ?_ <;> omega)))) | (first | decide | omega | (refine And.intro ?_ ?_ <;> first | omega | (simp; omega)) | (simp only [IntKind.wrap_i64]; first | omega | (refine And.intro ?_ ?_ <;> omega))) | ((conv => whnf); intros; (try simp only [decide_eq_true_eq, decide_eq_false_iff_not, Bool.and_eq_true, Bool.or_eq_true, Bool.and_eq_false_imp, Bool.or_eq_false_iff, Bool.not_eq_true', Bool.not_eq_false', beq_iff_eq, bne_iff_ne, ne_eq] at *); (first | (first | exact seI | exact B1 | exact B2 | exact ntP | exact ntG | exact seT | exact u64nn _ | assumption) | decide | omega | (refine And.intro ?_ ?_ <;> first | omega | (simp; omega)) | (simp only [IntKind.wrap_i64]; first | omega | (refine And.intro ?_ ?_ <;> omega)))))); conv => whnf) | (refine And.intro ?_ ?_; (focus (first | exact NoTag.int | exact NoTag.bool | exact NoTag.str | (refine NoTag.of_scalar ?_; rfl))); conv => whnf) | ((with_reducible refine xc_pure ?_); conv => whnf))
  all_goals (try ((conv => whnf); repeat' (first | exact trivial | exact rfl | exact LeC.refl _ | exact LeC.nil rfl | exact LeC.emp rfl | exact LeCs.refl _ | exact (fun i hi => LeCs.refl _) | ((with_reducible refine And.intro ?_ ?_) <;> conv => whnf))))
  all_goals first
    | (show 1 + (layL r.v).length = (layL r.v).length + 1; omega)
    | exact fun i hi => LeCs.of_eq (catRB (A := [IntKind.u8.wrap r.e]) rfl (rB1 _) (fun _ _ => rfl) i hi)
theorem aFormRp (r : Rp) (ho : okRp r = true) (hr : rgV r.v = true) : ACall Tryd.prog gl 22 [.ag (cRp r)] [] (.c (.sl false 1 (fmRp r).length (rB (fmRp r)))) := by
  have h := ACall.of_gcall (gFormRp r ho hr)
  have e : (fun j => rB (fmRp r) (0 + j)) = rB (fmRp r) := by funext j; rw [Nat.zero_add]
  rw [e] at h
  exact h
theorem NoTag.cc {x : C} (h : NtC x) : NoTag (.c x) := ⟨fun B S S' u hF hu => by
  simp only [RelV] at hu ⊢
  exact NtC.rep hF x u h hu⟩
theorem NoTag.rp (r : Rp) (n m : Int) : NoTag (.tup [.ag (cRp r), intA .i64 n, intA .i64 m]) := NoTag.tup ⟨NoTag.ag ⟨trivial, ntV r.v⟩, NoTag.int, NoTag.int, trivial⟩
theorem subBa {s : ByteArray} {a : Nat} {L : List Int} (h : AtL s a L) : subS s a L.length = baL L := by
  refine ba_ext (by rw [subZ, baL_size]) fun j hj => ?_
  rw [subZ] at hj
  have hb := h.2 j hj
  simp only [subS, bytesOf, baL]
  rw [List.getElem?_map, List.getElem?_range hj, List.getElem?_map, List.getElem?_eq_getElem hj]
  simp only [Option.map_some, byteC, strCells]
  rw [List.getD_eq_getElem?_getD, List.getElem?_eq_getElem hj, Option.getD_some] at hb
  rw [← hb]
  rfl
theorem bys_rp {r : Rp} (ho : okRp r = true) : Bys (fmRp r) := bys_app (a := [IntKind.u8.wrap r.e]) (bys_one (bys_w8 _)) (layL_bys r.v 8 (check_parts (okRp_parts ho).2.2).1 (by decide))
theorem gRp_back {r : Rp} {B : List Int} (ho : okRp r = true) (hr : rgV r.v = true) (hB : Bys B) : gRp (baL (fmRp r ++ B)) = (r, ((fmRp r).length : Int), 0) := by
  obtain ⟨h1, h2, h3⟩ := okRp_parts ho
  have hby := bys_app (bys_rp ho) hB
  have hs : (baL (fmRp r ++ B)).size = (layL r.v ++ B).length + 1 := by rw [baL_size]; simp [fmRp]
  have hb0 : byteN (baL (fmRp r ++ B)) 0 = IntKind.u8.wrap r.e := by rw [baL_byte hby 0 (by simp [fmRp])]; rfl
  have ht : tlS (baL (fmRp r ++ B)) = baL (layL r.v ++ B) := by
    unfold tlS
    rw [hs, Nat.add_sub_cancel]
    refine subBa ⟨by rw [hs]; omega, fun j hj => ?_⟩
    rw [baL_byte hby (1 + j) (by have := hs; rw [baL_size] at this; omega)]
    rw [Nat.add_comm]
    rfl
  have hg := cGet_app h3 hr hB
  have hl := check_big h3
  have hl2 := layL_big r.v
  rw [gRp_k (by rw [hs]; omega) (by rw [ht, hg]; rfl), hb0, ht, hg]
  have e1 : IntKind.i64.wrap (IntKind.u8.wrap r.e) = r.e := by
    have : IntKind.u8.wrap r.e = r.e := by show r.e % 256 = r.e; omega
    rw [this, wrap64 (by omega) (by omega)]
  have e2 : IntKind.i64.wrap (((layL r.v).length : Int) + 1) = ((fmRp r).length : Int) := by
    rw [wrap64 (by omega) (by omega)]; simp [fmRp]
  show ((⟨IntKind.i64.wrap (IntKind.u8.wrap r.e), r.v⟩ : Rp), IntKind.i64.wrap (((layL r.v).length : Int) + 1), (0 : Int)) = _
  rw [e1, e2]
theorem sameRp_self (r : Rp) : sameRp r r = true := by unfold sameRp; rw [sameR_refl]; simp
theorem aGetWant (s : ByteArray) (r : Rp) (ho : okRp r = true) (rg : rgV r.v = true) : ACall Tryd.prog gl 23 [.c (.sl true 1 (0 + (0 + s.size + (fmRp r).length - ((s.size : Int)).toNat) + s.size) fun i => catF 0 (0 + (0 + s.size + (fmRp r).length - ((s.size : Int)).toNat)) (catF 0 0 (nthC []) fun i => catF 0 (0 + s.size) (catF 0 0 (nthC []) (strCells s)) (rB (fmRp r)) (0 + ((s.size : Int)).toNat + i)) (strCells s) (0 + i))] [] (.tup [.ag (cRp r), intA .i64 ((fmRp r).length : Int), intA .i64 0]) := by
  have h := aGetRp true (baL (fmRp r ++ bytesL s))
  rw [gRp_back ho rg (bys_str s)] at h
  have hz : (baL (fmRp r ++ bytesL s)).size = (fmRp r).length + s.size := by rw [baL_size, List.length_append, bytesL_len]
  refine h.le ⟨leSl (by rw [hz, Int.toNat_natCast]; omega) (fun i hi => ?_), trivial⟩
  rw [hz] at hi
  show _ = cBy (byteN (baL (fmRp r ++ bytesL s)) i)
  rw [baL_byte (bys_app (bys_rp ho) (bys_str s)) i (by rw [List.length_append, bytesL_len]; omega), Int.toNat_natCast]
  by_cases hl : i < (fmRp r).length
  · unfold catF
    rw [if_pos (by omega), if_neg (Nat.not_lt_zero _)]
    show (if 0 + s.size + (0 + (0 + i) - 0) < 0 + s.size then _ else _) = _
    rw [if_neg (by omega)]
    show cBy ((fmRp r).getD (0 + s.size + (0 + (0 + i) - 0) - (0 + s.size)) 0) = _
    rw [show 0 + s.size + (0 + (0 + i) - 0) - (0 + s.size) = i by omega]
    simp [List.getD_eq_getElem?_getD, List.getElem?_append_left hl]
  · unfold catF
    rw [if_neg (by omega), strCells_eq s _ (by omega)]
    show cBy ((bytesL s).getD (0 + i - (0 + (0 + s.size + (fmRp r).length - s.size))) 0) = _
    rw [show 0 + i - (0 + (0 + s.size + (fmRp r).length - s.size)) = i - (fmRp r).length by omega]
    simp [List.getD_eq_getElem?_getD, List.getElem?_append_right (show (fmRp r).length ≤ i by omega)]
theorem aGetWantNo (s : ByteArray) : ACall Tryd.prog gl 23 [.c (.sl true 1 (0 + (0 + s.size - ((s.size : Int)).toNat) + s.size) fun i => catF 0 (0 + (0 + s.size - ((s.size : Int)).toNat)) (catF 0 0 (nthC []) fun i => catF 0 0 (nthC []) (strCells s) (0 + ((s.size : Int)).toNat + i)) (strCells s) (0 + i))] [] (.tup [.ag (cRp (gRp s).1), intA .i64 (gRp s).2.1, intA .i64 (gRp s).2.2]) := by
  refine (aGetRp true s).le ⟨leSl (by rw [Int.toNat_natCast]; omega) (fun i hi => ?_), trivial⟩
  rw [Int.toNat_natCast]
  unfold catF
  rw [if_neg (by omega)]
  rw [show 0 + i - (0 + (0 + s.size - s.size)) = i by omega]
end Go.Proofs.YtcgcamfhollnlaaDoor
