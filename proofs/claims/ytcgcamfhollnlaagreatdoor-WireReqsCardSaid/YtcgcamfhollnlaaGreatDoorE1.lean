/- Contracts of functions of the program, and the laws that stand on them: what each function answers, whatever its arguments. -/
import Derived.Test.YtcgcamfhollnlaaGreatDoorTT
import Derived.Test.YtcgcamfhollnlaaGreatDoorVw5
set_option linter.unusedSectionVars false
set_option linter.unnecessarySimpa false
namespace Go.Proofs.YtcgcamfhollnlaaGreatDoor
set_option linter.unusedSimpArgs false
set_option linter.unusedVariables false
set_option maxRecDepth 100000
set_option maxHeartbeats 8000000
open Go Go.VA
def dkB : ByteArray := { data := #[100, 105, 115, 107] }
def aB1 : ByteArray := { data := #[97] }
def exK : List C := [.v (.string dkB), .v (.string aB1), .v (.int .i64 0), .v (.int .i64 0), .v (.string ByteArray.empty), .v (.int .u32 1)]
theorem aSmallOne : ACall Tryz.prog gl 98 [intA .i64 1] [] (.c (.v (.string { data := #[49] }))) := by
  refine acall_of_vc htb hmix (f := 98) rfl rfl rfl (by kernel_rfl) rfl rfl ?_; conv => whnf
  repeat' (first | (refine And.intro (fun h => ?_) (fun h => ?_) <;> (first | (with_reducible have hd : _ < _ := of_decide_eq_true h) | (with_reducible have hd : ¬ (_ < _) := of_decide_eq_false h) | fail) <;> (first | exact absurd h (by decide) | (conv => whnf))) | (refine And.intro ?_ ?_; (focus (first | (refine chainI ?_; (first | decide | fail)) | fail)); conv => whnf) | fail)
  exact leS (by decide +kernel)
theorem aFmtOne : ACall Tryz.prog gl 84 [intA .u64 1, intA .i64 10] [] (.c (.v (.string { data := #[49] }))) := by
  refine acall_of_vc htb hmix (f := 84) rfl rfl rfl (by kernel_rfl) rfl rfl ?_; conv => whnf
  repeat' (first | (refine Exists.intro _ (And.intro (aSmallOne) ?_); conv => whnf) | (refine And.intro (fun h => ?_) (fun h => ?_) <;> (first | (with_reducible have hd : _ < _ := of_decide_eq_true h) | (with_reducible have hd : ¬ (_ < _) := of_decide_eq_false h) | skip) <;> (first | exact absurd h (by decide) | (conv => whnf))) | ((with_reducible refine xc_pure ?_); conv => whnf))
  exact leS (by decide +kernel)
theorem aFmtOneS : ACall Tryz.prog gl 61 [intA .u64 1, intA .i64 10] [] (.c (.v (.string { data := #[49] }))) := by
  refine acall_of_vc htb hmix (f := 61) rfl rfl rfl (by kernel_rfl) rfl rfl ?_; conv => whnf
  repeat' (first | (refine Exists.intro _ (And.intro (aFmtOne) ?_); conv => whnf) | ((with_reducible refine xc_pure ?_); conv => whnf))
  exact leS (by decide +kernel)
theorem aPrintEx : ACall Tryz.prog gl 60 [.ag [.v (.string dkB), .v (.string aB1), .v (.int .i64 0), .v (.int .i64 0), .v (.string ByteArray.empty)]] [] (.c (.v (.string { data := #[100, 105, 115, 107, 46, 97] }))) := by
  refine acall_of_vc htb hmix (f := 60) rfl rfl rfl (by kernel_rfl) rfl rfl ?_; conv => whnf
  repeat' (first | (refine And.intro (fun h => ?_) (fun h => ?_) <;> (first | skip) <;> (first | exact absurd h (by decide) | (conv => whnf))) | (refine And.intro ?_ ?_; (focus (first | (refine chainI ?_; (first | decide | fail)) | fail)); conv => whnf) | fail)
  exact leS (by decide +kernel)
theorem aPrintKEx : ACall Tryz.prog gl 36 [.ag exK] [] (.c (.v (.string { data := #[100, 105, 115, 107, 46, 97, 35, 49] }))) := by
  unfold exK
  refine acall_of_vc htb hmix (f := 36) rfl rfl rfl (by kernel_rfl) rfl rfl ?_; conv => whnf
  repeat' (first | (refine Exists.intro _ (And.intro (chainI (aPrintEx)) ?_); conv => whnf) | (refine Exists.intro _ (And.intro (chainI (aFmtOneS)) ?_); conv => whnf) | ((with_reducible refine DOr.l ?_); (conv => whnf)) | (refine And.intro ?_ ?_; (focus (first | (refine chainI ?_; (first | decide | fail)) | fail)); conv => whnf) | fail)
  exact leS (by decide +kernel)
def exTx : ByteArray := { data := #[109, 97, 107, 101, 32, 100, 105, 115, 107, 46, 97, 35, 49] }
def zV8 : List C := [.v (.int .i64 0), .v (.int .i64 0), .v (.string ByteArray.empty), .v (.slice none 0 0), .v (.slice none 0 0), .v (.int .i64 0), .v (.int .i64 0), .v (.bool false)]
theorem aTextEx : ACall Tryz.prog gl 17 [.ag ([.v (.int .i64 3)] ++ [.v (.string dkB), .v (.string aB1), .v (.int .i64 0), .v (.int .i64 0), .v (.string ByteArray.empty), .v (.int .u32 1)] ++ zV8 ++ zV8)] [] (.c (.v (.string exTx))) := by
  have P := aPrintKEx
  unfold exK at P
  refine acall_of_vc htb hmix (f := 17) rfl rfl rfl (by kernel_rfl) rfl rfl ?_; conv => whnf
  repeat' (first | (refine Exists.intro _ (And.intro (chainI (P)) ?_); conv => whnf) | (refine And.intro (fun h => ?_) (fun h => ?_) <;> (first | skip) <;> (first | exact absurd h (by decide) | (conv => whnf))) | ((with_reducible refine DOr.l ?_); (conv => whnf)) | (refine And.intro ?_ ?_; (focus (first | (refine chainI ?_; (first | decide | fail)) | fail)); conv => whnf) | fail)
  exact leS (by decide +kernel)
theorem aAwakeE : ACall Tryz.prog gl 5 [] [] (boolA true) := by
  have P := aTextEx
  refine acall_of_vc htb hmix (f := 5) rfl rfl rfl (by kernel_rfl) rfl rfl ?_; conv => whnf
  repeat' (first | (refine Exists.intro _ (And.intro (P) ?_); conv => whnf) | ((with_reducible refine xc_pure ?_); conv => whnf))
  exact leB (by decide +kernel)
end Go.Proofs.YtcgcamfhollnlaaGreatDoor

namespace Go.Proofs.YtcgcamfhollnlaaGreatDoor
set_option linter.unusedSimpArgs false
set_option linter.unusedVariables false
set_option maxRecDepth 100000
set_option maxHeartbeats 8000000
open Go Go.VA
theorem eqSs_len {a b : List ByteArray} (h : eqSs a b = true) : a.length = b.length := by
  induction a generalizing b with
  | nil => cases b with
    | nil => rfl
    | cons y b => simp [eqSs] at h
  | cons x a ih => cases b with
    | nil => simp [eqSs] at h
    | cons y b =>
      simp only [eqSs, Bool.and_eq_true] at h
      simp only [List.length_cons, ih h.2]
theorem checkV_if (v : V) : checkV v = if checkR v then 0 else 1 := by
  rw [← check_law]
  unfold checkV
  split <;> simp
end Go.Proofs.YtcgcamfhollnlaaGreatDoor
