/- Contracts of functions of the program, and the laws that stand on them: what each function answers, whatever its arguments. -/
import Derived.Test.YthaaemhkdefidaaGreatDoorW1
import Derived.Test.YthaaemhkdefidaaGreatDoorC13
import Derived.Test.YthaaemhkdefidaaGreatDoorEr
set_option linter.unusedSectionVars false
set_option linter.unnecessarySimpa false
namespace Go.Proofs.YthaaemhkdefidaaGreatDoor
set_option linter.unusedSimpArgs false
set_option linter.unusedVariables false
set_option maxRecDepth 100000
set_option maxHeartbeats 8000000
open Go Go.VA
/-! ### what stands behind a magic, its number, its fingerprint -/
/-- a row behind its magic, its number, its fingerprint -/
def wrapL (mg L : List Int) : List Int := mg ++ be4L L.length ++ sumL (shaA (baL L)) ++ L
theorem wrapL_len (mg L : List Int) (h : mg.length = 4) : (wrapL mg L).length = 40 + L.length := by
 unfold wrapL
 simp only [List.length_append, be4L_len, sumL_len]
 omega
theorem bys_wrap {mg L : List Int} (h1 : Bys mg) (h2 : Bys L) : Bys (wrapL mg L) :=
 bys_app (bys_app (bys_app h1 (bys_bytes 4 _)) (bys_bytes 32 _)) h2
theorem rB_bytesO (n : Nat) (d : Nat → UInt8) (j : Nat) (hj : j < n) : [cb (d j)] = rB ((List.range n).map fun j => ((d j).toNat : Int)) j := by
 show [C.v (.int .u8 ((d j).toNat : Int))] = [C.v (.int .u8 (((List.range n).map fun j => ((d j).toNat : Int)).getD j 0))]
 rw [getD_bys n d j hj]
theorem rB_strO {L : List Int} (hb : Bys L) {j : Nat} (hj : j < L.length) : rB L j = strCells (baL L) j := by
 have := baL_byte hb j hj
 show [C.v (.int .u8 (L.getD j 0))] = [C.v (.int .u8 (byteN (baL L) j))]
 rw [this]
theorem aShaL (t : Bool) (L : List Int) (F : Nat → List C) (hb : Bys L) (hF : ∀ j, j < L.length → F j = rB L j) (hL : L.length ≤ 140737488355000) : ACall Tryz.prog gl 31 [.c (.sl t 1 L.length F)] [] (.ag (sumC (shaA (baL L)))) := by
 refine (aShaR t (baL L) (by rw [baL_size]; omega)).le ⟨leSl (by rw [baL_size]) fun j hj => ?_, trivial⟩
 rw [baL_size] at hj
 rw [hF j hj, rB_strO hb hj]
theorem catW {mg L : List Int} {M P S D : Nat → List C} (hm : mg.length = 4) (h1 : ∀ j, j < 4 → M j = rB mg j) (h2 : ∀ j, j < 4 → P j = rB (be4L L.length) j) (h3 : ∀ j, j < 32 → S j = rB (sumL (shaA (baL L))) j) (h4 : ∀ j, j < L.length → D j = rB L j) :
  ∀ i, i < 40 + L.length → catF 0 (4 + 4 + 32) (catF 0 (4 + 4) (catF 0 4 M P) S) D i = rB (wrapL mg L) i := by
 intro i hi
 refine catRB (A := mg ++ be4L L.length ++ sumL (shaA (baL L))) ?_ (catRB (A := mg ++ be4L L.length) ?_ (catRB (A := mg) hm.symm (fun j hj => h1 j (by omega)) (fun j hj => h2 j (by rw [be4L_len] at hj; exact hj))) (fun j hj => h3 j (by rw [sumL_len] at hj; exact hj))) h4 i ?_
 ·rw [List.length_append, List.length_append, be4L_len, sumL_len, hm]
 ·rw [List.length_append, be4L_len, hm]
 ·rw [List.length_append, List.length_append, List.length_append, be4L_len, sumL_len, hm]; omega
theorem gWrapG (mg : ByteArray) (h4 : mg.size = 4) (t : Bool) (L : List Int) (F : Nat → List C) (hF : ∀ j, j < L.length → F j = rB L j) (hb : Bys L) (hL : L.length ≤ 1000000000) : GCall Tryz.prog gl 50 [] [.c (.v (.string mg)), .c (.sl t 1 L.length F)] [.row 1 (wrapL (bytesL mg) L).length (rB (wrapL (bytesL mg) L))] [.own 0 1 0 (wrapL (bytesL mg) L).length] := by
 have S := aShaL t L F hb hF (by omega)
 have w1 : IntKind.u64.wrap (L.length : Int) = L.length := wrapU (by omega) (by omega)
 have FF := aForm L.length 4 (by omega) (by decide)
 rw [← w1] at FF
 have hl : (wrapL (bytesL mg) L).length = 40 + L.length := wrapL_len _ _ (by rw [bytesL_len]; exact h4)
 rw [hl]
 have BB : ∀ m : Nat, m ≤ 1000001000 → m * (tb 5).bytes ≤ 140737488355328 := fun m h => by show m * 1 ≤ _; omega
 have B1 := BB (mg.size + 4) (by omega)
 have B2 := BB (mg.size + 4 + 32) (by omega)
 have B3 := BB (mg.size + 4 + 32 + L.length) (by omega)
 refine gcall_of_vcb htb hmix (f := 50) rfl rfl rfl (by kernel_rfl) rfl rfl rfl fun hb hb2 => ?_; simp only [bndOs, bndO, gbnds, AV.gbnd, bnds, C.bnd, true_and, and_true] at hb hb2; conv => whnf
 repeat' (first | (refine Exists.intro _ (And.intro (S) ?_); conv => whnf) | (refine Exists.intro _ (And.intro (FF) ?_); conv => whnf) | ((with_reducible refine NilOr.l ?_); conv => whnf) | ((with_reducible refine OwnOr.r ?_); (conv => whnf)) | (refine And.intro ?_ ?_; (focus (first | exact rfl | (first | exact B1 | exact B2 | exact B3 | fail) | (first | omega | fail) | fail)); conv => whnf) | ((with_reducible refine xc_pure ?_); conv => whnf))
 all_goals (try ((conv => whnf); repeat' (first | exact trivial | exact rfl | ((with_reducible refine And.intro ?_ ?_) <;> conv => whnf))))
 all_goals try first
  | (rw [h4]; done)
  | omega
 refine fun i hi => LeCs.of_eq ?_
 rw [h4]
 refine catW (by rw [bytesL_len]; exact h4) (fun j hj => ?_) (fun j hj => ?_) (fun j hj => ?_) hF i (by first | exact hi | fail)
 ·rw [strCells_eq mg _ (by omega)]
 ·exact rB_bytesO 4 _ j hj
 ·show [nthCC (sumC (shaA (baL L))) (0 + j)] = _
  rw [Nat.zero_add, ← arr_sumC, nthCC_arr _ _ _ hj]
  exact rB_bytesO 32 _ j hj
end Go.Proofs.YthaaemhkdefidaaGreatDoor
