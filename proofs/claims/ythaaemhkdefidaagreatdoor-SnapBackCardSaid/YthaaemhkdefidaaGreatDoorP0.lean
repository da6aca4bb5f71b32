/- Contracts of functions of the program, and the laws that stand on them: what each function answers, whatever its arguments. -/
import Derived.Test.YthaaemhkdefidaaGreatDoorW1
import Derived.Test.YthaaemhkdefidaaGreatDoorC13
import Derived.Test.YthaaemhkdefidaaGreatDoorEr
set_option linter.unusedSectionVars false
set_option linter.unnecessarySimpa false
namespace Go.Proofs.YthaaemhkdefidaaGreatDoor
set_option linter.unusedSimpArgs false
set_option linter.unusedVariables false
set_option maxRecDepth 100000
set_option maxHeartbeats 8000000
open Go Go.VA
/-! ### what stands behind a magic, its number, its fingerprint -/
def preM (mg s : ByteArray) : Bool := (bytesOf 4 (fun i => strCells s (0 + i))).toList == mg.toList
theorem aPreM (mg : ByteArray) (t u : Bool) (s : ByteArray) (G : Nat → List C) (hs : 4 ≤ s.size) (hG : isBytes 4 G) (hb : bytesOf 4 G = mg) : ACall Tryz.prog gl 74 [.c (.sl t 1 s.size (strCells s)), .c (.sl u 1 4 G)] [] (boolA (preM mg s)) := by
 have hq : decide ((s.size : Int) ≥ ((4 : Nat) : Int)) = true := by simp; omega
 have hB : decide ((s.size : Int) ≥ ((4 : Nat) : Int)) = true → (0 : Int) ≤ ((4 : Nat) : Int) ∧ ((4 : Nat) : Int) ≤ s.size := fun _ => by omega
 have E := aEqual t u 4 4 (fun i => strCells s (0 + i)) G (isB 4 s (fun i => 0 + i)) hG
 rw [hb] at E
 refine acall_of_vc htb hmix (f := 74) rfl rfl rfl (by kernel_rfl) rfl rfl ?_; conv => whnf
 repeat' (first | ((with_reducible refine GOr.l ?_); (conv => whnf); refine Exists.intro _ (And.intro (chainI (E)) ?_); conv => whnf) | (refine And.intro ?_ ?_; (focus (first | (first | exact hB | fail) | fail)); conv => whnf) | fail)
 refine leB ?_
 show (decide ((s.size : Int) ≥ ((4 : Nat) : Int)) && preM mg s) = preM mg s
 rw [hq, Bool.true_and]
/-- a row behind its magic, its number, its fingerprint -/
def wrapL (mg L : List Int) : List Int := mg ++ be4L L.length ++ sumL (shaA (baL L)) ++ L
theorem wrapL_len (mg L : List Int) (h : mg.length = 4) : (wrapL mg L).length = 40 + L.length := by
 unfold wrapL
 simp only [List.length_append, be4L_len, sumL_len]
 omega
theorem bys_wrap {mg L : List Int} (h1 : Bys mg) (h2 : Bys L) : Bys (wrapL mg L) :=
 bys_app (bys_app (bys_app h1 (bys_bytes 4 _)) (bys_bytes 32 _)) h2
theorem rB_bytesO (n : Nat) (d : Nat → UInt8) (j : Nat) (hj : j < n) : [cb (d j)] = rB ((List.range n).map fun j => ((d j).toNat : Int)) j := by
 show [C.v (.int .u8 ((d j).toNat : Int))] = [C.v (.int .u8 (((List.range n).map fun j => ((d j).toNat : Int)).getD j 0))]
 rw [getD_bys n d j hj]
theorem rB_strO {L : List Int} (hb : Bys L) {j : Nat} (hj : j < L.length) : rB L j = strCells (baL L) j := by
 have := baL_byte hb j hj
 show [C.v (.int .u8 (L.getD j 0))] = [C.v (.int .u8 (byteN (baL L) j))]
 rw [this]
theorem catW {mg L : List Int} {M P S D : Nat → List C} (hm : mg.length = 4) (h1 : ∀ j, j < 4 → M j = rB mg j) (h2 : ∀ j, j < 4 → P j = rB (be4L L.length) j) (h3 : ∀ j, j < 32 → S j = rB (sumL (shaA (baL L))) j) (h4 : ∀ j, j < L.length → D j = rB L j) :
  ∀ i, i < 40 + L.length → catF 0 (4 + 4 + 32) (catF 0 (4 + 4) (catF 0 4 M P) S) D i = rB (wrapL mg L) i := by
 intro i hi
 refine catRB (A := mg ++ be4L L.length ++ sumL (shaA (baL L))) ?_ (catRB (A := mg ++ be4L L.length) ?_ (catRB (A := mg) hm.symm (fun j hj => h1 j (by omega)) (fun j hj => h2 j (by rw [be4L_len] at hj; exact hj))) (fun j hj => h3 j (by rw [sumL_len] at hj; exact hj))) h4 i ?_
 ·rw [List.length_append, List.length_append, be4L_len, sumL_len, hm]
 ·rw [List.length_append, be4L_len, hm]
 ·rw [List.length_append, List.length_append, List.length_append, be4L_len, sumL_len, hm]; omega
end Go.Proofs.YthaaemhkdefidaaGreatDoor
