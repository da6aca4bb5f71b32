/- Contracts of functions of the program, and the laws that stand on them: what each function answers, whatever its arguments. -/
import Derived.Test.YtpnapenjamcilaaDoorSh
import Derived.Test.YtpnapenjamcilaaDoorVD
set_option linter.unusedSectionVars false
set_option linter.unnecessarySimpa false
namespace Go.Proofs.YtpnapenjamcilaaDoor
set_option linter.unusedSimpArgs false
set_option linter.unusedVariables false
set_option maxRecDepth 100000
set_option maxHeartbeats 8000000
open Go Go.RowKit Go.VA
theorem glOk_le {W W' : World} (h : GlOk gl (S0 W)) (hb : Below W.heap.size W W') : GlOk gl (S0 W') := by
  have := Sr_ext (M := M0) (B := []) (L := []) hb
  rw [Sr_M0, Sr_M0] at this
  exact h.mono this
theorem awake_walk (W : World) (hG : GlOk gl (S0 W)) : Calls Tryd.prog 7 #[] W fun e w' => e = .returned (.bool true) ∧ Below W.heap.size W w' := by
  have PA := aSum false 1 (fun _ => false) (fun _ => (3, lB [97, 98, 99])) (by decide)
  have e0 : shaB (accB (fun _ => (3, lB [97, 98, 99])) 1) (accN (fun _ => (3, lB [97, 98, 99])) 1) = shaB (lB [97, 98, 99]) 3 := by
    show shaB (catB 0 (fun _ => 0) (lB [97, 98, 99])) (0 + 3) = _
    exact shaB_ext fun i _ => by simp [catB]
  rw [e0] at PA
  have PH := aHex (shaB (lB [97, 98, 99]) 3)
  rw [abcHex] at PH
  clear e0
  go_enter Tryd.func7, Tryd.ntmps7
  have hconv : (convert 22 22 (.slice (some ⟨W.heap.size, 0, none⟩) 3 3)).run Tryd.prog (W.alloc (.cells #[.int .u8 97, .int .u8 98, .int .u8 99] 5)) =
      .ok (.slice (some ⟨W.heap.size, 0, none⟩) 3 3) ((W.alloc (.cells #[.int .u8 97, .int .u8 98, .int .u8 99] 5)).freeze ⟨W.heap.size, 3, none⟩ 1) := by
    have hsh : (W.alloc (.cells #[.int .u8 97, .int .u8 98, .int .u8 99] 5)).shape? W.heap.size = some (5, 3) := by
      have := heap_alloc_new W (.cells #[.int .u8 97, .int .u8 98, .int .u8 99] 5)
      simp only [World.shape?]; rw [this]; rfl
    have hms : (markStringish ⟨W.heap.size, 0, none⟩).run Tryd.prog (W.alloc (.cells #[.int .u8 97, .int .u8 98, .int .u8 99] 5)) = .ok () ((W.alloc (.cells #[.int .u8 97, .int .u8 98, .int .u8 99] 5)).freeze ⟨W.heap.size, 3, none⟩ 1) := by
      simp [markStringish, hsh]
    simp [convert, run_underlying Tryd.underlying22, run_underlying Tryd.underlying5, hms]
  have hB2 : Below W.heap.size W ((W.alloc (.cells #[.int .u8 97, .int .u8 98, .int .u8 99] 5)).freeze ⟨W.heap.size, 3, none⟩ 1) := Lib.below_freeze ((Below.refl _ W).alloc (Nat.le_refl _) _) (Nat.le_refl _) 1
  have hB3 := hB2.alloc hB2.size (.cells #[.slice (some ⟨W.heap.size, 0, none⟩) 3 3] 22)
  have hc1 : ∀ i, i < 3 → (((W.alloc (.cells #[.int .u8 97, .int .u8 98, .int .u8 99] 5)).freeze ⟨W.heap.size, 3, none⟩ 1).alloc (.cells #[.slice (some ⟨W.heap.size, 0, none⟩) 3 3] 22)).cell? ⟨W.heap.size, 0 + i * 1, none⟩ = some (.int .u8 ((lB [97, 98, 99] i).toNat : Int)) := fun i hi => by
    have hlt : W.heap.size < ((W.alloc (.cells #[.int .u8 97, .int .u8 98, .int .u8 99] 5)).freeze ⟨W.heap.size, 3, none⟩ 1).heap.size := by
      have := hB2.size
      have h2 := Go.VA.cell_freeze (W.alloc (.cells #[.int .u8 97, .int .u8 98, .int .u8 99] 5)) ⟨W.heap.size, 3, none⟩ ⟨W.heap.size, 0, none⟩ 1
      have h3 : (W.alloc (.cells #[.int .u8 97, .int .u8 98, .int .u8 99] 5)).cell? ⟨W.heap.size, 0, none⟩ = some (.int .u8 97) := by
        rw [Lib.cell_of_heap (heap_alloc_new W _)]; rfl
      rw [h3] at h2
      exact block_lt h2
    have e1 := ((Below.refl _ ((W.alloc (.cells #[.int .u8 97, .int .u8 98, .int .u8 99] 5)).freeze ⟨W.heap.size, 3, none⟩ 1)).alloc (Nat.le_refl _) (.cells #[.slice (some ⟨W.heap.size, 0, none⟩) 3 3] 22)).cell (p := ⟨W.heap.size, 0 + i * 1, none⟩) hlt
    rw [e1, Go.VA.cell_freeze, Lib.cell_of_heap (heap_alloc_new W _)]
    match i, hi with
    | 0, _ => rfl
    | 1, _ => rfl
    | 2, _ => rfl
  have hc2 : (((W.alloc (.cells #[.int .u8 97, .int .u8 98, .int .u8 99] 5)).freeze ⟨W.heap.size, 3, none⟩ 1).alloc (.cells #[.slice (some ⟨W.heap.size, 0, none⟩) 3 3] 22)).cell? ⟨((W.alloc (.cells #[.int .u8 97, .int .u8 98, .int .u8 99] 5)).freeze ⟨W.heap.size, 3, none⟩ 1).heap.size, 0 + 0 * 1, none⟩ = some (.slice (some ⟨W.heap.size, 0, none⟩) 3 3) := by
    rw [Lib.cell_of_heap (heap_alloc_new _ _)]; rfl
  go_wp2_with (go_at_call 11; refine (acall_run PA _ _ ?hg ?hr).mono ?_)
  case hg => exact glOk_le hG hB3
  case hr =>
    simp only [RelVs, RelV, RepC, and_true, exists_eq_left']
    refine ⟨_, [], rfl, ⟨_, 1, rfl, ⟨Nat.le_refl _, by decide⟩, .inr ⟨_, _, rfl, fun i hi => ⟨rfl, ?_⟩⟩⟩, rfl⟩
    obtain rfl : i = 0 := by omega
    simp only [RepCs, RepC, and_true]
    refine ⟨_, hc2, _, 3, rfl, ⟨Nat.le_refl _, by decide⟩, .inr ⟨_, _, rfl, fun i hi => ⟨rfl, ?_⟩⟩⟩
    simp only [RepCs, RepC, and_true, Value.oneCell']
    exact ⟨_, hc1 i hi, rfl⟩
  intro e W1 u he hb1 hu
  subst he
  have hB1 : Below W.heap.size W W1 := hB3.trans ⟨hb1.os, hb1.tape, hb1.output, hb1.size, fun k hk => hb1.block k (Nat.lt_of_lt_of_le hk (Nat.le_succ_of_le hB2.size))⟩
  go_wp2_with (go_at_call 17; refine (acall_run PH _ _ ?hg ?hr).mono ?_)
  case hg => exact glOk_le hG hB1
  case hr =>
    simp only [RelVs]
    exact ⟨_, [], rfl, hu, rfl⟩
  rintro e W2 ⟨v, he, hb2, hv⟩
  subst he
  simp only [RelV, RepC] at hv
  obtain ⟨rfl, _⟩ := hv
  go_wp2
  go_ret
  exact ⟨rfl, hB1.trans ⟨hb2.os, hb2.tape, hb2.output, hb2.size, fun k hk => hb2.block k (Nat.lt_of_lt_of_le hk hB1.size)⟩⟩
theorem aAwake : ACall Tryd.prog gl 7 [] [] (boolA true) where
  callable := ⟨_, Tryd.func7, by kernel_rfl, by kernel_rfl⟩
  closed := rfl
  run := fun w M B vals hro hL hG hv => by
    have e1 : vals.toList = [] := by simpa only [RelVs] using hv
    obtain rfl : vals = #[] := by apply Array.ext'; simpa using e1
    have hG0 : GlOk gl (S0 w) := hG.mono fun t b o u h => h.2
    refine (awake_walk w hG0).mono fun e w' ⟨he, hb⟩ => ⟨_, he, hb, by simp [boolA, RelV, RepC, Value.oneCell']⟩
end Go.Proofs.YtpnapenjamcilaaDoor
