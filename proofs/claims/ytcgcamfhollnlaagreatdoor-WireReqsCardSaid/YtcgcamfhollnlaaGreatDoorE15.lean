/- Contracts of functions of the program, and the laws that stand on them: what each function answers, whatever its arguments. -/
import Derived.Test.YtcgcamfhollnlaaGreatDoorE8
import Derived.Test.YtcgcamfhollnlaaGreatDoorE5
import Derived.Test.YtcgcamfhollnlaaGreatDoorA5
set_option linter.unusedSectionVars false
set_option linter.unnecessarySimpa false
namespace Go.Proofs.YtcgcamfhollnlaaGreatDoor
set_option linter.unusedSimpArgs false
set_option linter.unusedVariables false
set_option maxRecDepth 100000
set_option maxHeartbeats 8000000
open Go Go.VA
def dropS (s : ByteArray) (a : Int) : ByteArray := subS s a.toNat (s.size - a.toNat)
theorem dropZ (s : ByteArray) (a : Int) : (dropS s a).size = s.size - a.toNat := subZ _ _ _
theorem dropLe (s : ByteArray) (a : Int) (t : Bool) : Le 0 (.c (.sl t 1 (s.size - a.toNat) (fun i => strCells s (a.toNat + i)))) (.c (.sl t 1 (dropS s a).size (strCells (dropS s a)))) :=
  leSl (dropZ s a).symm (fun i hi => (subC s a.toNat _ i (by rwa [dropZ] at hi)).symm)
theorem aGetKyD (t : Bool) (s : ByteArray) (a : Int) : ACall Tryz.prog gl 26 [.c (.sl t 1 (s.size - a.toNat) (fun i => strCells s (a.toNat + i)))] [] (.tup [.ag (cKy (gKyA (dropS s a)).1), intA .i64 (gKyA (dropS s a)).2.1, intA .i64 (gKyA (dropS s a)).2.2]) :=
  (aGetKy t (dropS s a)).le ⟨dropLe s a t, trivial⟩
theorem aGetKyRD (t : Bool) (s : ByteArray) (a : Int) (h : (dropS s a).size ≤ 140737488355328) : ACall Tryz.prog gl 28 [.c (.sl t 1 (s.size - a.toNat) (fun i => strCells s (a.toNat + i)))] [] (.tup [.ag (cKy (gKyA (dropS s a)).1), intA .i64 (gKyA (dropS s a)).2.1, intA .i64 (gKyA (dropS s a)).2.2]) := by
  rw [ky_eq h]
  exact (aGetKyR t (dropS s a)).le ⟨dropLe s a t, trivial⟩
theorem aGetD (t : Bool) (s : ByteArray) (a : Int) : ACall Tryz.prog gl 27 [.c (.sl t 1 (s.size - a.toNat) (fun i => strCells s (a.toNat + i)))] [] (.tup [.ag (cV (cGet (dropS s a)).1), intA .i64 (cGet (dropS s a)).2.1, intA .i64 (cGet (dropS s a)).2.2]) :=
  (aGet t (dropS s a)).le ⟨dropLe s a t, trivial⟩
theorem aGetRD (t : Bool) (s : ByteArray) (a : Int) : ACall Tryz.prog gl 29 [.c (.sl t 1 (s.size - a.toNat) (fun i => strCells s (a.toNat + i)))] [] (.tup [.ag (cV (cGet (dropS s a)).1), intA .i64 (cGet (dropS s a)).2.1, intA .i64 (cGet (dropS s a)).2.2]) := by
  have h := aDGet t (dropS s a)
  rw [← cGet_eq] at h
  exact h.le ⟨dropLe s a t, trivial⟩
theorem cGet_rg (x : ByteArray) : 0 ≤ (cGet x).2.1 ∧ (cGet x).2.1 ≤ x.size := by
  unfold cGet
  split
  · exact ⟨Int.le_refl _, by show (0 : Int) ≤ _; omega⟩
  · have := gV_ok false x
    exact ⟨this.1, this.2.1⟩
theorem kyFin_rg {s : ByteArray} {k : Ky} {i n a e : Int} (h : RgOk s a e) : 0 ≤ (kyFin k i n a e).2.1 ∧ (kyFin k i n a e).2.1 ≤ s.size := by
  have z : (0 : Int) ≤ 0 ∧ (0 : Int) ≤ s.size := ⟨Int.le_refl _, by omega⟩
  unfold kyFin
  split
  · exact z
  · rename_i he
    split
    · exact z
    · exact h (by simpa using he)
theorem gKyA_rg (s : ByteArray) : 0 ≤ (gKyA s).2.1 ∧ (gKyA s).2.1 ≤ s.size := by
  have r1 : RgOk s (gK1 s).2.1 (gK1 s).2.2 := rTx_rg (rg0 s)
  have r2 : RgOk s (gK2 s).2.1 (gK2 s).2.2 := rTx_rg r1
  have r3 : RgOk s (gK3 s).2.1 (gK3 s).2.2 := rKd_rg r2
  have r4 : RgOk s (gK4 s).2.1 (gK4 s).2.2 := rSh_rg r3
  have r5 : RgOk s (gK5 s).2.1 (gK5 s).2.2 := rTx_rg r3
  unfold gKyA
  split
  · exact kyFin_rg (rSh_rg r4)
  · split
    · exact kyFin_rg (rSh_rg r5)
    · exact kyFin_rg r4
theorem kyFin_n {k : Ky} {i n a e : Int} (h : 0 ≤ k.n) : 0 ≤ (kyFin k i n a e).1.n := by
  unfold kyFin
  split
  · exact Int.le_refl _
  · split
    · exact Int.le_refl _
    · exact h
theorem gKyA_n (s : ByteArray) : 0 ≤ (gKyA s).1.n := by
  have u (x : Int) : 0 ≤ IntKind.u32.wrap x := Int.emod_nonneg _ (by decide)
  unfold gKyA
  split
  · exact kyFin_n (u _)
  · split
    · exact kyFin_n (u _)
    · exact kyFin_n (u _)
def rqK (s : ByteArray) : Ky × Int × Int := gKyA (dropS s 1)
def rqA (s : ByteArray) : Int := IntKind.i64.wrap (1 + (rqK s).2.1)
def rqP (s : ByteArray) : V × Int × Int := cGet (dropS s (rqA s))
def rqB (s : ByteArray) : Int := IntKind.i64.wrap (rqA s + (rqP s).2.1)
def rqW (s : ByteArray) : V × Int × Int := cGet (dropS s (rqB s))
def rqE (s : ByteArray) : Int := IntKind.i64.wrap (rqB s + (rqW s).2.1)
def rqQ (s : ByteArray) : Rq := ⟨IntKind.i64.wrap (byteN s 0), (rqK s).1, (rqP s).1, (rqW s).1⟩
def zRq : Rq := ⟨0, ky0, V.z, V.z⟩
def gRq (s : ByteArray) : Rq × Int × Int :=
  if s.size == 0 then (zRq, 0, 2) else if (rqK s).2.2 != 0 then (zRq, 0, (rqK s).2.2) else if (rqP s).2.2 != 0 then (zRq, 0, (rqP s).2.2)
  else if (rqW s).2.2 != 0 then (zRq, 0, (rqW s).2.2) else if !okRq (rqQ s) then (zRq, 0, 4) else (rqQ s, rqE s, 0)
theorem rqA_rg {s : ByteArray} (h0 : 0 < s.size) (hn : s.size ≤ 140737488355328) : 0 ≤ rqA s ∧ rqA s ≤ s.size := by
  have := gKyA_rg (dropS s 1)
  rw [dropZ] at this
  have h1 : rqA s = 1 + (rqK s).2.1 := wrap64 (by unfold rqK; omega) (by unfold rqK; omega)
  rw [h1]; unfold rqK
  have h2 : (1 : Int).toNat = 1 := rfl
  rw [h2] at this
  omega
theorem rqB_rg {s : ByteArray} (h0 : 0 < s.size) (hn : s.size ≤ 140737488355328) : 0 ≤ rqB s ∧ rqB s ≤ s.size := by
  have hA := rqA_rg h0 hn
  have := cGet_rg (dropS s (rqA s))
  rw [dropZ] at this
  have h1 : rqB s = rqA s + (rqP s).2.1 := wrap64 (by unfold rqP; omega) (by unfold rqP; omega)
  rw [h1]; unfold rqP
  omega
def rqBox (s : ByteArray) (c : Nat) : List AV := match c with
  | 0 => (cRq ⟨IntKind.i64.wrap (byteN s 0), (rqK s).1, V.z, V.z⟩).map .c
  | 1 => (cRq ⟨IntKind.i64.wrap (byteN s 0), (rqK s).1, (rqP s).1, V.z⟩).map .c
  | _ => (cRq (rqQ s)).map .c
def rqU (s : ByteArray) (c : Nat) : Int := match c with
  | 0 => rqA s
  | 1 => rqB s
  | _ => rqE s
structure RqI (s : ByteArray) (c : Nat) : Prop where
  le : c ≤ 2
  p : 1 ≤ c → ((rqP s).2.2 != 0) = false
  w : 2 ≤ c → ((rqW s).2.2 != 0) = false
theorem zRqLe : Le 0 (.ag (C.v (.int .i64 0) :: C.v (.string ByteArray.empty) :: C.v (.string ByteArray.empty) :: C.v (.int .i64 0) :: C.v (.int .i64 0) :: C.v (.string ByteArray.empty) :: C.v (.int .u32 0) :: ([.v (.int .i64 0), .v (.int .i64 0), .v (.string ByteArray.empty), .v (.slice none 0 0), .v (.slice none 0 0), .v (.int .i64 0), .v (.int .i64 0), .v (.bool false)] ++ [.v (.int .i64 0), .v (.int .i64 0), .v (.string ByteArray.empty), .v (.slice none 0 0), .v (.slice none 0 0), .v (.int .i64 0), .v (.int .i64 0), .v (.bool false)]))) (.ag (cRq zRq)) :=
  leAg ⟨LeC.refl _, LeC.refl _, LeC.refl _, LeC.refl _, LeC.refl _, LeC.refl _, LeC.refl _, LeC.refl _, LeC.refl _, LeC.refl _, LeC.nil rfl, LeC.nil rfl, LeC.refl _, LeC.refl _, LeC.refl _, LeC.refl _, LeC.refl _, LeC.refl _, LeC.nil rfl, LeC.nil rfl, LeC.refl _, LeC.refl _, LeC.refl _, trivial⟩
theorem okn (b : Bool) : ((if b = true then (0 : Int) else 1) != 0) = !b := by cases b <;> rfl
theorem gRq_0 {s : ByteArray} (e0 : (s.size == 0) = true) : gRq s = (zRq, 0, 2) := by unfold gRq; rw [ifT e0]
theorem gRq_k {s : ByteArray} (e0 : (s.size == 0) = false) (h : ((rqK s).2.2 != 0) = true) : gRq s = (zRq, 0, (rqK s).2.2) := by unfold gRq; rw [ifF e0, ifT h]
theorem gRq_p {s : ByteArray} (e0 : (s.size == 0) = false) (hk : ((rqK s).2.2 != 0) = false) (h : ((rqP s).2.2 != 0) = true) : gRq s = (zRq, 0, (rqP s).2.2) := by unfold gRq; rw [ifF e0, ifF hk, ifT h]
theorem gRq_w {s : ByteArray} (e0 : (s.size == 0) = false) (hk : ((rqK s).2.2 != 0) = false) (hp : ((rqP s).2.2 != 0) = false) (h : ((rqW s).2.2 != 0) = true) : gRq s = (zRq, 0, (rqW s).2.2) := by unfold gRq; rw [ifF e0, ifF hk, ifF hp, ifT h]
theorem gRq_n {s : ByteArray} (e0 : (s.size == 0) = false) (hk : ((rqK s).2.2 != 0) = false) (hp : ((rqP s).2.2 != 0) = false) (hw : ((rqW s).2.2 != 0) = false) (h : (!okRq (rqQ s)) = true) : gRq s = (zRq, 0, 4) := by unfold gRq; rw [ifF e0, ifF hk, ifF hp, ifF hw, ifT h]
theorem gRq_y {s : ByteArray} (e0 : (s.size == 0) = false) (hk : ((rqK s).2.2 != 0) = false) (hp : ((rqP s).2.2 != 0) = false) (hw : ((rqW s).2.2 != 0) = false) (h : (!okRq (rqQ s)) = false) : gRq s = (rqQ s, rqE s, 0) := by unfold gRq; rw [ifF e0, ifF hk, ifF hp, ifF hw, ifF h]
theorem aGetRq (t : Bool) (s : ByteArray) : ACall Tryz.prog gl 10 [.c (.sl t 1 s.size (strCells s))] [] (.tup [.ag (cRq (gRq s).1), intA .i64 (gRq s).2.1, intA .i64 (gRq s).2.2]) := by
  rcases Nat.eq_zero_or_pos s.size with h0 | h0
  · refine acall_of_vc htb hmix (f := 10) rfl rfl rfl (by kernel_rfl) rfl rfl ?_; conv => whnf
    repeat' (first | (refine And.intro (fun h => ?_) (fun h => ?_) <;> (first | skip) <;> (first | (conv => whnf))) | fail)
    · rw [gRq_0 (by rw [h0]; rfl)]
      exact leTup3 zRqLe (Le.refl _) (Le.refl _)
    all_goals (exfalso; rw [h0] at h; exact absurd h (by decide))
  · have K := aGetKyD t s 1
    have P := aGetD t s (rqA s)
    have W := aGetD t s (rqB s)
    have CK := aCheckRq (rqQ s)
    have e0 : (s.size == 0) = false := beq_eq_false_iff_ne.2 (by omega)
    refine acall_of_vcb htb hmix (f := 10) rfl rfl rfl (by kernel_rfl) rfl rfl fun hb => ?_; simp only [bndAll, AV.bnd, bnds, C.bnd, cVt, cS, true_and, and_true] at hb; conv => whnf
    have hn : s.size ≤ 140737488355328 := hb.1
    have rA := rqA_rg h0 hn
    have rB := rqB_rg h0 hn
    have hA := fun (_ : ((rqK s).2.2 != 0) = false) => rA
    have hB := fun (_ : ((rqK s).2.2 != 0) = false) (_ : ((rqP s).2.2 != 0) = false) => rB
    have hM : (0 : Int) ≤ 1 ∧ (1 : Int) ≤ s.size := by omega
    have hM0 : (0 : Int) ≤ 0 ∧ (0 : Int) < s.size := by omega
    repeat' (first | (refine Exists.intro _ (And.intro (K) ?_); conv => whnf) | (refine And.intro (fun h => ?_) (fun h => ?_) <;> (first | skip) <;> (first | (conv => whnf))) | ((with_reducible refine OwnOr.l (OwnOr.r ?_)); conv => whnf) | (refine And.intro ?_ ?_; (focus (first | (first | exact hM | assumption) | fail)); conv => whnf) | ((with_reducible refine xc_pure ?_); conv => whnf))
    · exfalso
      have h' : ((s.size : Int) == 0) = true := h
      rw [beq_iff_eq] at h'
      omega
    · have h : ((rqK s).2.2 != 0) = true := h
      rw [gRq_k e0 h]
      exact leTup3 zRqLe (Le.refl _) (Le.refl _)
    · have hk : ((rqK s).2.2 != 0) = false := h
      refine loopI Nat (RqI s) (fun c => [(42, intA .i64 c), (3, intA .i64 (rqU s c))]) (fun c => [.box (rqBox s c), .box ((cKy (rqK s).1).map .c), .box [.ptr 0 7, .ptr 0 15]]) (fun c => 2 - c) 0 ⟨by decide, fun h => absurd h (by decide), fun h => absurd h (by decide)⟩ ?_ (fun _ => rfl) fun c hc => ?_
      · (refine And.intro ?_ (And.intro ?_ (And.intro ?_ rfl)) <;> (conv => whnf) <;> repeat' (first | exact trivial | exact LeE.of (Le.refl _) | (with_reducible refine LeE.of ?_) | (first | exact rfl | fail) | ((with_reducible refine And.intro ?_ ?_) <;> conv => whnf)))
        all_goals exact Le.toC (LeC.nil rfl)
      · have hc2 := hc.le
        have hcs : c = 0 ∨ c = 1 ∨ c = 2 := by omega
        rcases hcs with rfl | rfl | rfl
        · conv => whnf
          repeat' (first | (refine Exists.intro _ (And.intro (P) ?_); conv => whnf) | (refine And.intro (fun h => ?_) (fun h => ?_) <;> (first | (with_reducible have hd : _ < _ := of_decide_eq_true h) | (with_reducible have hd : ¬ (_ < _) := of_decide_eq_false h) | skip) <;> (first | exact absurd h (by decide) | (conv => whnf))) | (refine And.intro ?_ ?_; (focus (first | (first | exact hA (by assumption) | fail) | (refine chainI ?_; (first | decide | fail)) | fail)); conv => whnf) | ((with_reducible refine xc_pure ?_); conv => whnf))
          · have h : ((rqP s).2.2 != 0) = true := h
            rw [gRq_p e0 hk h]
            exact leTup3 zRqLe (Le.refl _) (Le.refl _)
          · have h : ((rqP s).2.2 != 0) = false := h
            refine ⟨1, ⟨by decide, fun _ => h, fun hh => absurd hh (by decide)⟩, ?_, by decide⟩
            (refine And.intro ?_ (And.intro ?_ (And.intro ?_ rfl)) <;> (conv => whnf) <;> repeat' (first | exact trivial | exact LeE.of (Le.refl _) | (first | exact rfl | fail) | ((with_reducible refine And.intro ?_ ?_) <;> conv => whnf)))
            all_goals first | exact leI rfl | exact Le.toC (LeC.nil rfl)
        · conv => whnf
          repeat' (first | (refine Exists.intro _ (And.intro (W) ?_); conv => whnf) | (refine And.intro (fun h => ?_) (fun h => ?_) <;> (first | (with_reducible have hd : _ < _ := of_decide_eq_true h) | (with_reducible have hd : ¬ (_ < _) := of_decide_eq_false h) | skip) <;> (first | exact absurd h (by decide) | (conv => whnf))) | (refine And.intro ?_ ?_; (focus (first | (first | assumption) | (refine chainI ?_; (first | decide | fail)) | fail)); conv => whnf) | ((with_reducible refine xc_pure ?_); conv => whnf))
          · have hp := hc.p (by decide)
            have h : ((rqW s).2.2 != 0) = true := h
            rw [gRq_w e0 hk hp h]
            exact leTup3 zRqLe (Le.refl _) (Le.refl _)
          · have h : ((rqW s).2.2 != 0) = false := h
            refine ⟨2, ⟨by decide, fun _ => hc.p (by decide), fun hh => h⟩, ?_, by decide⟩
            (refine And.intro ?_ (And.intro ?_ (And.intro ?_ rfl)) <;> (conv => whnf) <;> repeat' (first | exact trivial | exact LeE.of (Le.refl _) | (first | exact rfl | fail) | ((with_reducible refine And.intro ?_ ?_) <;> conv => whnf)))
            all_goals first | exact leI rfl | exact Le.toC (LeC.nil rfl)
        · conv => whnf
          have hp := hc.p (by decide)
          have hw := hc.w (by decide)
          repeat' (first | (refine Exists.intro _ (And.intro (CK) ?_); conv => whnf) | (refine And.intro (fun h => ?_) (fun h => ?_) <;> (first | (with_reducible have hd : _ < _ := of_decide_eq_true h) | (with_reducible have hd : ¬ (_ < _) := of_decide_eq_false h) | skip) <;> (first | exact absurd h (by decide) | (conv => whnf))) | ((with_reducible refine xc_pure ?_); conv => whnf))
          · have h : ((if okRq (rqQ s) = true then (0 : Int) else 1) != 0) = true := h
            rw [okn] at h
            rw [gRq_n e0 hk hp hw h]
            exact leTup3 zRqLe (Le.refl _) (Le.refl _)
          · have h : ((if okRq (rqQ s) = true then (0 : Int) else 1) != 0) = false := h
            rw [okn] at h
            rw [gRq_y e0 hk hp hw h]
            exact Le.refl _
end Go.Proofs.YtcgcamfhollnlaaGreatDoor

namespace Go.Proofs.YtcgcamfhollnlaaGreatDoor
set_option linter.unusedSimpArgs false
set_option linter.unusedVariables false
set_option maxRecDepth 100000
set_option maxHeartbeats 8000000
open Go Go.VA
theorem aGetRqR (t : Bool) (s : ByteArray) : ACall Tryz.prog gl 11 [.c (.sl t 1 s.size (strCells s))] [] (.tup [.ag (cRq (gRq s).1), intA .i64 (gRq s).2.1, intA .i64 (gRq s).2.2]) := by
  rcases Nat.eq_zero_or_pos s.size with h0 | h0
  · refine acall_of_vc htb hmix (f := 11) rfl rfl rfl (by kernel_rfl) rfl rfl ?_; conv => whnf
    repeat' (first | (refine And.intro (fun h => ?_) (fun h => ?_) <;> (first | skip) <;> (first | (conv => whnf))) | fail)
    · rw [gRq_0 (by rw [h0]; rfl)]
      exact leTup3 zRqLe (Le.refl _) (Le.refl _)
    all_goals (exfalso; rw [h0] at h; exact absurd h (by decide))
  · have P := aGetRD t s (rqA s)
    have W := aGetRD t s (rqB s)
    have e0 : (s.size == 0) = false := beq_eq_false_iff_ne.2 (by omega)
    refine acall_of_vcb htb hmix (f := 11) rfl rfl rfl (by kernel_rfl) rfl rfl fun hb => ?_; simp only [bndAll, AV.bnd, bnds, C.bnd, cVt, cS, true_and, and_true] at hb; conv => whnf
    have hn : s.size ≤ 140737488355328 := hb.1
    have K := aGetKyRD t s 1 (by rw [dropZ]; omega)
    have yn : 0 ≤ (rqQ s).y.n := gKyA_n (dropS s 1)
    have CK := aCheckRqR (rqQ s) yn
    have rA := rqA_rg h0 hn
    have rB := rqB_rg h0 hn
    have hA := fun (_ : ((rqK s).2.2 != 0) = false) => rA
    have hB := fun (_ : ((rqK s).2.2 != 0) = false) (_ : ((rqP s).2.2 != 0) = false) => rB
    have hM : (0 : Int) ≤ 1 ∧ (1 : Int) ≤ s.size := by omega
    have hM0 : (0 : Int) ≤ 0 ∧ (0 : Int) < s.size := by omega
    repeat' (first | (refine Exists.intro _ (And.intro (K) ?_); conv => whnf) | (refine Exists.intro _ (And.intro (P) ?_); conv => whnf) | (refine Exists.intro _ (And.intro (W) ?_); conv => whnf) | (refine Exists.intro _ (And.intro (CK) ?_); conv => whnf) | (refine And.intro (fun h => ?_) (fun h => ?_) <;> (first | skip) <;> (first | (conv => whnf))) | ((with_reducible refine Both.mk ?_ ?_) <;> conv => whnf) | ((with_reducible apply Drawn.one); conv => whnf) | ((with_reducible refine Then.mk' ?_); conv => whnf) | (first | exact RefS.self rfl | fail) | (refine And.intro ?_ ?_; (focus (first | exact rfl | (first | exact hM | exact hM0 | exact rA | exact rB) | fail)); conv => whnf) | ((with_reducible refine xc_pure ?_); conv => whnf))
    · exfalso
      have h' : ((s.size : Int) == 0) = true := h
      rw [beq_iff_eq] at h'
      omega
    · have hk : ((rqK s).2.2 != 0) = true := h
      rw [gRq_k e0 hk]
      exact leTup3 zRqLe (Le.refl _) (Le.refl _)
    · rename_i hk
      have hk : ((rqK s).2.2 != 0) = false := hk
      have hp : ((rqP s).2.2 != 0) = true := h
      rw [gRq_p e0 hk hp]
      exact leTup3 zRqLe (Le.refl _) (Le.refl _)
    · rename_i hk hp
      have hk : ((rqK s).2.2 != 0) = false := hk
      have hp : ((rqP s).2.2 != 0) = false := hp
      have hw : ((rqW s).2.2 != 0) = true := h
      rw [gRq_w e0 hk hp hw]
      exact leTup3 zRqLe (Le.refl _) (Le.refl _)
    · rename_i hk hp hw
      have hk : ((rqK s).2.2 != 0) = false := hk
      have hp : ((rqP s).2.2 != 0) = false := hp
      have hw : ((rqW s).2.2 != 0) = false := hw
      have h : (!okRq (rqQ s)) = true := h
      rw [gRq_n e0 hk hp hw h]
      exact leTup3 zRqLe (Le.refl _) (Le.refl _)
    · rename_i hk hp hw
      have hk : ((rqK s).2.2 != 0) = false := hk
      have hp : ((rqP s).2.2 != 0) = false := hp
      have hw : ((rqW s).2.2 != 0) = false := hw
      have h : (!okRq (rqQ s)) = false := h
      rw [gRq_y e0 hk hp hw h]
      exact Le.refl _
end Go.Proofs.YtcgcamfhollnlaaGreatDoor
