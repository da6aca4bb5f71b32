/- Contracts of functions of the program, and the laws that stand on them: what each function answers, whatever its arguments. -/
import Derived.Test.YtldccngnojnhbaaDoorTT
import Derived.Test.YtldccngnojnhbaaDoorTrydShelf
import Derived.Lib.Walk
import Derived.Lib.ItoaMem
import Derived.Lib.AppendIntMem
import Derived.Lib.ItoaNum
import Derived.Lib.SliceRun
import Derived.Lib.Hide
import Derived.WalkKit
import Derived.BigCall
import Derived.BigGuard
set_option linter.unusedSectionVars false
set_option linter.unnecessarySimpa false
namespace Go.Proofs.YtldccngnojnhbaaDoor
set_option linter.unusedSimpArgs false
set_option linter.unusedVariables false
set_option maxRecDepth 100000
set_option maxHeartbeats 8000000
open Go Go.RowKit Go.Sort Go.Lib
def Pw (w : World) : Prop := ∀ q, q < 20 → w.cell? ⟨0, q, none⟩ = some (.int .u64 ((10 ^ q : Nat) : Int))
theorem Pw.alloc {w : World} (h : Pw w) (o : Obj) : Pw (w.alloc o) := fun q hq => cell?_alloc_some o (h q hq)
set_option maxHeartbeats 4000000 in
theorem numDig (u : Nat) (h1 : 1 ≤ u) (h2 : u < 18446744073709551616) (w : World) (htab : Pw w) :
    Calls Tryd.prog 30 #[.int .u64 u] w fun e w' => e = .returned (.int .i64 (Lib.nDigits u)) ∧ w' = w := by
  have eA : ∀ args w, (callFunc 35 args).run Tryd.prog w = .ok (.enter 35 args) w := enters_of Tryd.func35 (by kernel_rfl) rfl
  have eB : ∀ args w, (callFunc 34 args).run Tryd.prog w = .ok (.enter 34 args) w := enters_of Tryd.func34 (by kernel_rfl) rfl
  have eC : ∀ args w, (callFunc 36 args).run Tryd.prog w = .ok (.enter 36 args) w := enters_of Tryd.func36 (by kernel_rfl) rfl
  obtain ⟨hnd, h19⟩ := Lib.numDigits_eq u h1 h2
  have hL : Lib.bitLen u ≤ 64 := Lib.bitLen_le u 64 (Nat.le_refl _) h2
  have hcell := htab (Lib.l10 (Lib.bitLen u)) (by omega)
  have hto : ((u : Int)).toNat = u := by omega
  generalize hq : Lib.l10 (Lib.bitLen u) = q at hnd h19 hcell
  generalize hT : 10 ^ q = T at hnd hcell
  have h20 : q < 20 := by omega
  have Hnd := Lib.hid hnd
  clear hnd htab
  go_enter Tryd.func30, Tryd.ntmps30
  go_wp2_with (first
    | (go_at_fn 35; refine (Tryd.bits_Len64 _ _ (by omega) (by omega)).mono ?_; rintro e w' ⟨rfl, rfl⟩)
    | (go_at_fn 34; refine (Tryd.internal_strconv_log10Pow2 _ (by first | exact hL | (rw [hto]; exact hL)) _).mono ?_; rintro e w' ⟨rfl, rfl⟩)
    | (go_at_fn 36; refine (Tryd.internal_strconv_bool2_int _ _).mono ?_; rintro e w' ⟨rfl, rfl⟩))
  all_goals go_ret
  all_goals (
    refine ⟨?_, rfl⟩
    have hnd := Hnd.out
    congr 2
    split at hnd <;> simp_all <;> omega)
set_option maxHeartbeats 6400000 in
theorem fmtU (u : Nat) (hu64 : u < 18446744073709551616) (w : World) (htab : Pw w) :
    Calls Tryd.prog 27 #[.int .u64 u, .int .i64 10] w fun e w' => e = .returned (.string ⟨(Lib.decDigits u).toArray⟩) ∧ ∃ k os, w' = grow (w.drewN k) os := by
  have eA : ∀ args w, (callFunc 29 args).run Tryd.prog w = .ok (.enter 29 args) w := enters_of Tryd.func29 (by kernel_rfl) rfl
  have eB : ∀ args w, (callFunc 30 args).run Tryd.prog w = .ok (.enter 30 args) w := enters_of Tryd.func30 (by kernel_rfl) rfl
  have eC : ∀ args w, (callFunc 31 args).run Tryd.prog w = .ok (.enter 31 args) w := enters_of Tryd.func31 (by kernel_rfl) rfl
  by_cases hs : u < 100
  · have hi : (u : Int) < 100 := by omega
    go_enter Tryd.func27, Tryd.ntmps27
    go_wp2_with (go_at_fn 29; refine (Tryd.internal_strconv_small u hs _).mono ?_; rintro e w' ⟨rfl, rfl⟩)
    go_ret
    exact ⟨rfl, 0, #[], by simp [World.drewN_zero]⟩
  · have hu1 : 1 ≤ u := by omega
    have hnd20 : Lib.nDigits u ≤ 20 := by have := Lib.numDigits_eq u hu1 hu64; split at this <;> omega
    have hsl : ∀ W, (Instr.sliceAt 59 (.pointer (some ⟨w.heap.size, 0, none⟩)) none (some (.int .i64 (Lib.nDigits u : Int))) none).run Tryd.prog W = .ok (.slice (some ⟨w.heap.size, 0, none⟩) (Lib.nDigits u) 24) W := fun W => by
      have hal : Tryd.prog.arrayLen 59 = 24 := by simp [Program.arrayLen, Tryd.underlying59]
      rw [run_sliceAt_array_h W 59 ⟨w.heap.size, 0, none⟩ (by simp [Program.arrayLen, Program.elem, Tryd.underlying59]) .i64 (Lib.nDigits u : Int) (by omega) (by rw [hal]; omega)]
      go_simp
    have hH0 := Lib.holds_zero0 w 59 (Lib.nDigits u) (by omega)
    have hfmt := Tryd.internal_strconv_formatBase10 w.heap.size 0 24 u (Array.replicate (Lib.nDigits u) 0) (w.alloc (.cells Lib.zeros24 59)) hH0 (by rw [Array.size_replicate]; exact Lib.lt_pow_nDigits u) hu64 (by rw [Array.size_replicate]; omega)
    rw [Array.size_replicate] at hfmt
    have HH0 := Lib.hid hH0
    have iu : (100 : Int) ≤ (u : Int) := by omega
    clear hH0
    go_enter Tryd.func27, Tryd.ntmps27
    go_wp2_with (first
      | (go_at_fn 30; refine (numDig u hu1 hu64 _ (htab.alloc _)).mono ?_; rintro e w' ⟨rfl, rfl⟩))
    go_at_fn 31
    refine hfmt.mono ?_
    rintro e w' ⟨rfl, k, v', dk, rfl, hF⟩
    have hcv : (convert 62 9 (.slice (some ⟨w.heap.size, 0, none⟩) (Lib.nDigits u) 24)).run Tryd.prog ((putRow (fun (b : UInt8) => Value.int .u8 (b.toNat : Int)) (w.alloc (.cells Lib.zeros24 59)) w.heap.size 0 dk).drewN k) = .ok (.string ⟨(Lib.decDigits u).toArray⟩) ((putRow (fun (b : UInt8) => Value.int .u8 (b.toNat : Int)) (w.alloc (.cells Lib.zeros24 59)) w.heap.size 0 dk).drewN k) := by
      have h := run_convert_bytes_back (P := Tryd.prog) ((putRow (fun (b : UInt8) => Value.int .u8 (b.toNat : Int)) (w.alloc (.cells Lib.zeros24 59)) w.heap.size 0 dk).drewN k) 62 9 5 ⟨w.heap.size, 0, none⟩ 24 (Lib.decDigits u) Tryd.underlying62 Tryd.underlying5 Tryd.underlying9 (fun j hj => by
        rw [Lib.row_is_numeral hF j hj, Lib.add_plain, World.cell?_drewN]
        exact cell?_putRow (fun (b : UInt8) => Value.int .u8 (b.toNat : Int)) _ w.heap.size 0 _ dk HH0.out (by rw [hF.size, Array.size_replicate]) j (by rw [hF.size]; rw [Lib.decDigits_length] at hj; exact hj))
      rw [Lib.decDigits_length] at h
      exact h
    go_wp2
    go_ret
    obtain ⟨os, eo⟩ := Lib.fin_at w (.cells Lib.zeros24 59) dk k 0
    exact ⟨rfl, k, os, eo⟩
set_option maxHeartbeats 6400000 in
theorem fmtI (n : Int) (h0 : -9223372036854775808 ≤ n) (h1 : n ≤ 9223372036854775807) (w : World) (htab : Pw w) :
    Calls Tryd.prog 33 #[.int .i64 n, .int .i64 10] w fun e w' => e = .returned (.string ⟨(Lib.itoa n).toArray⟩) ∧ ∃ k os, w' = grow (w.drewN k) os := by
  have eA : ∀ args w, (callFunc 29 args).run Tryd.prog w = .ok (.enter 29 args) w := enters_of Tryd.func29 (by kernel_rfl) rfl
  have eB : ∀ args w, (callFunc 30 args).run Tryd.prog w = .ok (.enter 30 args) w := enters_of Tryd.func30 (by kernel_rfl) rfl
  have eC : ∀ args w, (callFunc 31 args).run Tryd.prog w = .ok (.enter 31 args) w := enters_of Tryd.func31 (by kernel_rfl) rfl
  by_cases hs : 0 ≤ n ∧ n < 100
  · obtain ⟨i, rfl⟩ : ∃ i : Nat, n = i := ⟨n.toNat, by omega⟩
    have hi : i < 100 := by omega
    go_enter Tryd.func33, Tryd.ntmps33
    go_wp2_with (go_at_fn 29; refine (Tryd.internal_strconv_small i hi _).mono ?_; rintro e w' ⟨rfl, rfl⟩)
    go_ret
    refine ⟨?_, 0, #[], by simp [World.drewN_zero]⟩
    rw [Lib.itoa_nonneg]
    rfl
  · by_cases hneg : n < 0
    · obtain ⟨u, rfl⟩ : ∃ u : Nat, n = -(u : Int) := ⟨n.natAbs, by omega⟩
      have hu1 : 1 ≤ u := by omega
      have hu64 : u < 18446744073709551616 := by omega
      have hnd20 : Lib.nDigits u ≤ 20 := by have := Lib.numDigits_eq u hu1 hu64; split at this <;> omega
      have hwr : IntKind.u64.wrap (-IntKind.u64.wrap (-(u : Int))) = (u : Int) := by rw [IntKind.wrap_u64, IntKind.wrap_u64]; omega
      have hb3 : Lib.nDigits u ≤ 23 := by omega
      have hal : Tryd.prog.arrayLen 59 = 24 := by simp [Program.arrayLen, Tryd.underlying59]
      have hsl1 : ∀ W, (Instr.sliceAt 59 (.pointer (some ⟨w.heap.size, 0, none⟩)) (some (.int .i64 1)) (some (.int .i64 (1 + (Lib.nDigits u : Int)))) none).run Tryd.prog W = .ok (.slice (some ⟨w.heap.size, 1, none⟩) (Lib.nDigits u) 23) W := fun W => by
        rw [run_sliceAt_array_lh W 59 ⟨w.heap.size, 0, none⟩ (by simp [Program.arrayLen, Program.elem, Tryd.underlying59]) .i64 .i64 1 (1 + (Lib.nDigits u : Int)) (by omega) (by omega) (by rw [hal]; omega)]
        go_simp
        omega
      have hH0 := Lib.holds_zero w 59 (Lib.nDigits u) (by omega)
      have hfmt := Tryd.internal_strconv_formatBase10 w.heap.size 1 23 u (Array.replicate (Lib.nDigits u) 0) (w.alloc (.cells Lib.zeros24 59)) hH0 (by rw [Array.size_replicate]; exact Lib.lt_pow_nDigits u) hu64 (by rw [Array.size_replicate]; omega)
      rw [Array.size_replicate] at hfmt
      have HH0 := Lib.hid hH0
      clear hH0 hal
      go_enter Tryd.func33, Tryd.ntmps33
      go_wp2_with (first
        | (go_at_fn 30; refine (numDig u hu1 hu64 _ (htab.alloc _)).mono ?_; rintro e w' ⟨rfl, rfl⟩))
      go_at_fn 31
      refine hfmt.mono ?_
      rintro e w' ⟨rfl, k, v', dk, rfl, hF⟩
      have hc0 : ((putRow (fun (b : UInt8) => Value.int .u8 (b.toNat : Int)) (w.alloc (.cells Lib.zeros24 59)) w.heap.size 1 dk).drewN k).cell? ⟨w.heap.size, 0, none⟩ = some (.int .u8 0) := by
        rw [World.cell?_drewN, cell?_putRow_other _ _ _ _ _ _ (Or.inr (Or.inl (Nat.zero_lt_one))), World.cell?_alloc_new]
        exact Lib.zeros24_at 0 (by omega)
      have hf0 : ((putRow (fun (b : UInt8) => Value.int .u8 (b.toNat : Int)) (w.alloc (.cells Lib.zeros24 59)) w.heap.size 1 dk).drewN k).frozen? ⟨w.heap.size, 0, none⟩ = false := by
        rw [World.frozen?_drewN, frozen?_putRow]
        exact World.frozen?_alloc_new _ _ _ _
      have hal : Tryd.prog.arrayLen 59 = 24 := by simp [Program.arrayLen, Tryd.underlying59]
      have hsl2 : ∀ W, (Instr.sliceAt 59 (.pointer (some ⟨w.heap.size, 0, none⟩)) none (some (.int .i64 (1 + (Lib.nDigits u : Int)))) none).run Tryd.prog W = .ok (.slice (some ⟨w.heap.size, 0, none⟩) (1 + Lib.nDigits u) 24) W := fun W => by
        rw [run_sliceAt_array_h W 59 ⟨w.heap.size, 0, none⟩ (by simp [Program.arrayLen, Program.elem, Tryd.underlying59]) .i64 (1 + (Lib.nDigits u : Int)) (by omega) (by rw [hal]; omega)]
        go_simp
        omega
      clear hal
      have hcv : (convert 62 9 (.slice (some ⟨w.heap.size, 0, none⟩) (1 + Lib.nDigits u) 24)).run Tryd.prog (((putRow (fun (b : UInt8) => Value.int .u8 (b.toNat : Int)) (w.alloc (.cells Lib.zeros24 59)) w.heap.size 1 dk).drewN k).setCell ⟨w.heap.size, 0, none⟩ (.int .u8 45)) = .ok (.string ⟨(45 :: Lib.decDigits u).toArray⟩) (((putRow (fun (b : UInt8) => Value.int .u8 (b.toNat : Int)) (w.alloc (.cells Lib.zeros24 59)) w.heap.size 1 dk).drewN k).setCell ⟨w.heap.size, 0, none⟩ (.int .u8 45)) := by
        have h := run_convert_bytes_back (P := Tryd.prog) (((putRow (fun (b : UInt8) => Value.int .u8 (b.toNat : Int)) (w.alloc (.cells Lib.zeros24 59)) w.heap.size 1 dk).drewN k).setCell ⟨w.heap.size, 0, none⟩ (.int .u8 45)) 62 9 5 ⟨w.heap.size, 0, none⟩ 24 (45 :: Lib.decDigits u) Tryd.underlying62 Tryd.underlying5 Tryd.underlying9 (fun j hj => by
          rw [Lib.add_plain]
          cases j with
          | zero => exact World.cell?_setCell_same _ _ _ hc0
          | succ i =>
            have hi : i < (Lib.decDigits u).length := by simpa using hj
            rw [World.cell?_setCell_other _ _ _ _ (by simp), List.getElem_cons_succ, Lib.row_is_numeral hF i hi, World.cell?_drewN, show 0 + (i + 1) = 1 + i by omega]
            exact cell?_putRow (fun (b : UInt8) => Value.int .u8 (b.toNat : Int)) _ w.heap.size 1 _ dk HH0.out (by rw [hF.size, Array.size_replicate]) i (by rw [hF.size]; rw [Lib.decDigits_length] at hi; exact hi))
        rw [List.length_cons, Lib.decDigits_length, Nat.add_comm] at h
        exact h
      go_wp2
      go_ret
      obtain ⟨os, eo⟩ := Lib.fin_neg w (.cells Lib.zeros24 59) dk k (.int .u8 45)
      refine ⟨?_, k, os, eo⟩
      rw [Lib.itoa_neg u hu1]
      rfl
    · obtain ⟨u, rfl⟩ : ∃ u : Nat, n = u := ⟨n.toNat, by omega⟩
      have hu1 : 1 ≤ u := by omega
      have hu64 : u < 18446744073709551616 := by omega
      have hnd20 : Lib.nDigits u ≤ 20 := by have := Lib.numDigits_eq u hu1 hu64; split at this <;> omega
      have hb3 : Lib.nDigits u ≤ 23 := by omega
      have hal : Tryd.prog.arrayLen 59 = 24 := by simp [Program.arrayLen, Tryd.underlying59]
      have hsl1 : ∀ W, (Instr.sliceAt 59 (.pointer (some ⟨w.heap.size, 0, none⟩)) (some (.int .i64 1)) (some (.int .i64 (1 + (Lib.nDigits u : Int)))) none).run Tryd.prog W = .ok (.slice (some ⟨w.heap.size, 1, none⟩) (Lib.nDigits u) 23) W := fun W => by
        rw [run_sliceAt_array_lh W 59 ⟨w.heap.size, 0, none⟩ (by simp [Program.arrayLen, Program.elem, Tryd.underlying59]) .i64 .i64 1 (1 + (Lib.nDigits u : Int)) (by omega) (by omega) (by rw [hal]; omega)]
        go_simp
        omega
      have hH0 := Lib.holds_zero w 59 (Lib.nDigits u) (by omega)
      have hfmt := Tryd.internal_strconv_formatBase10 w.heap.size 1 23 u (Array.replicate (Lib.nDigits u) 0) (w.alloc (.cells Lib.zeros24 59)) hH0 (by rw [Array.size_replicate]; exact Lib.lt_pow_nDigits u) hu64 (by rw [Array.size_replicate]; omega)
      rw [Array.size_replicate] at hfmt
      have HH0 := Lib.hid hH0
      clear hH0 hal
      go_enter Tryd.func33, Tryd.ntmps33
      go_wp2_with (first
        | (go_at_fn 30; refine (numDig u hu1 hu64 _ (htab.alloc _)).mono ?_; rintro e w' ⟨rfl, rfl⟩))
      go_at_fn 31
      refine hfmt.mono ?_
      rintro e w' ⟨rfl, k, v', dk, rfl, hF⟩
      have hcv : (convert 62 9 (.slice (some ⟨w.heap.size, 1, none⟩) (Lib.nDigits u) 23)).run Tryd.prog ((putRow (fun (b : UInt8) => Value.int .u8 (b.toNat : Int)) (w.alloc (.cells Lib.zeros24 59)) w.heap.size 1 dk).drewN k) = .ok (.string ⟨(Lib.decDigits u).toArray⟩) ((putRow (fun (b : UInt8) => Value.int .u8 (b.toNat : Int)) (w.alloc (.cells Lib.zeros24 59)) w.heap.size 1 dk).drewN k) := by
        have h := run_convert_bytes_back (P := Tryd.prog) ((putRow (fun (b : UInt8) => Value.int .u8 (b.toNat : Int)) (w.alloc (.cells Lib.zeros24 59)) w.heap.size 1 dk).drewN k) 62 9 5 ⟨w.heap.size, 1, none⟩ 23 (Lib.decDigits u) Tryd.underlying62 Tryd.underlying5 Tryd.underlying9 (fun j hj => by
          rw [Lib.row_is_numeral hF j hj, Lib.add_plain, World.cell?_drewN]
          exact cell?_putRow (fun (b : UInt8) => Value.int .u8 (b.toNat : Int)) _ w.heap.size 1 _ dk HH0.out (by rw [hF.size, Array.size_replicate]) j (by rw [hF.size]; rw [Lib.decDigits_length] at hj; exact hj))
        rw [Lib.decDigits_length] at h
        exact h
      go_wp2
      go_ret
      obtain ⟨os, eo⟩ := Lib.fin_pos w (.cells Lib.zeros24 59) dk k
      refine ⟨?_, k, os, eo⟩
      rw [Lib.itoa_nonneg]
      rfl
open Go.VA
def dcB (u : Nat) : ByteArray := ⟨(Lib.decDigits u).toArray⟩
def itB (n : Int) : ByteArray := ⟨(Lib.itoa n).toArray⟩
theorem pw_of {B : List (Option BI)} {M : Mz} {L : List AO} {w : World} (h : GlOk gl (Sr M B L w)) : Pw w := fun q hq => by
  have hx : (gl.cells 0)[q]? = some (.v (.int .u64 ((10 ^ q : Nat) : Int))) := by
    match q, hq with
    | 0, _ => rfl
    | 1, _ => rfl
    | 2, _ => rfl
    | 3, _ => rfl
    | 4, _ => rfl
    | 5, _ => rfl
    | 6, _ => rfl
    | 7, _ => rfl
    | 8, _ => rfl
    | 9, _ => rfl
    | 10, _ => rfl
    | 11, _ => rfl
    | 12, _ => rfl
    | 13, _ => rfl
    | 14, _ => rfl
    | 15, _ => rfl
    | 16, _ => rfl
    | 17, _ => rfl
    | 18, _ => rfl
    | 19, _ => rfl
    | q + 20, h => exact absurd h (by omega)
  obtain ⟨u, h1, h2⟩ := RepCs.nth _ 0 q _ (h 0) hx
  simp only [RepC] at h2
  have h1 := h1.2
  rw [Nat.zero_add] at h1
  rw [h1]
  first | exact congrArg some h2 | exact congrArg some h2.1
theorem aFmtU (z : Int) (h0 : 0 ≤ z) (h1 : z ≤ 18446744073709551615) : ACall Tryd.prog gl 27 [intA .u64 z, intA .i64 10] [] (.c (.v (.string (dcB z.toNat)))) where
  callable := ⟨_, Tryd.func27, by kernel_rfl, by kernel_rfl⟩
  closed := rfl
  run := fun w M B vals hro hL hG hv => by
    have hvals : vals = #[.int .u64 z, .int .i64 10] := by
      apply Array.ext'
      simpa [RelVs, RelV, RepC, intA, Value.oneCell'] using hv
    subst hvals
    obtain ⟨u, rfl⟩ : ∃ u : Nat, z = u := ⟨z.toNat, by omega⟩
    refine (fmtU u (by omega) w (pw_of hG)).mono fun e w' ⟨he, k, os, hw⟩ => ⟨_, he, ?_, by simp [RelV, RepC, Value.oneCell', dcB]⟩
    subst hw
    exact Lib.below_grow _ w (Nat.le_refl _) k os
theorem aFmtI (z : Int) (h0 : -9223372036854775808 ≤ z) (h1 : z ≤ 9223372036854775807) : ACall Tryd.prog gl 33 [intA .i64 z, intA .i64 10] [] (.c (.v (.string (itB z)))) where
  callable := ⟨_, Tryd.func33, by kernel_rfl, by kernel_rfl⟩
  closed := rfl
  run := fun w M B vals hro hL hG hv => by
    have hvals : vals = #[.int .i64 z, .int .i64 10] := by
      apply Array.ext'
      simpa [RelVs, RelV, RepC, intA, Value.oneCell'] using hv
    subst hvals
    refine (fmtI z h0 h1 w (pw_of hG)).mono fun e w' ⟨he, k, os, hw⟩ => ⟨_, he, ?_, by simp [RelV, RepC, Value.oneCell', itB]⟩
    subst hw
    exact Lib.below_grow _ w (Nat.le_refl _) k os
end Go.Proofs.YtldccngnojnhbaaDoor
