/- Contracts of functions of the program, and the laws that stand on them: what each function answers, whatever its arguments. -/
import Derived.Test.YtpnapenjamcilaaDoorSb
import Derived.Test.YtpnapenjamcilaaDoorTrydShelf
import Derived.Shelf.Strings.Builder1
import Derived.Shelf.Small.Strs
import Derived.Shelf.Strings.Search1
import Derived.Test.YtpnapenjamcilaaDoorProg
set_option linter.unusedSectionVars false
set_option linter.unnecessarySimpa false
namespace Go.Proofs.YtpnapenjamcilaaDoor
set_option linter.unusedSimpArgs false
set_option linter.unusedVariables false
set_option maxRecDepth 100000
set_option maxHeartbeats 8000000
open Go Go.RowKit
def hx (n : Nat) : UInt8 := ([48, 49, 50, 51, 52, 53, 54, 55, 56, 57, 97, 98, 99, 100, 101, 102] : List UInt8).getD n 0
def hexL (d : Nat → UInt8) : Nat → List UInt8
  | 0 => []
  | i + 1 => hexL d i ++ [hx ((d i).toNat / 16), hx ((d i).toNat % 16)]
theorem hexL_len (d : Nat → UInt8) : ∀ i, (hexL d i).length = 2 * i
  | 0 => rfl
  | i + 1 => by simp [hexL, hexL_len d i]; omega
theorem load_step {P : Program} {o : Oper} {a : Act} {w : World} {next : Act → World → Prop} {Q : Exit → Act → World → Prop} {t : TypeId} {x : Operand} {u v : Value} (ho : o.op = .load t x) (hx : a.eval x = u)
    (h : (Instr.loadAt t u).run P w = .ok v w) (hn : next (a.put o.dst v) w) : o.wp P a w next Q := by
  unfold Oper.wp
  rw [show (execOp a.eval o).run P w = .ok (.value v) w from by simp [execOp, ho, hx, h], Oper.upon_value]
  exact hn
abbrev digS : ByteArray := { data := #[48, 49, 50, 51, 52, 53, 54, 55, 56, 57, 97, 98, 99, 100, 101, 102] }
theorem digS_at (n : Nat) (h : n < digS.size) : digS[n]'h = hx n := by
  have : ∀ j : Fin 16, digS[j.1]'j.2 = hx j.1 := by decide
  exact this ⟨n, h⟩
theorem hex_step (d : Nat → UInt8) (i : Nat) (h1 : (d i).toNat / 16 < digS.size) (h2 : (d i).toNat % 16 < digS.size) :
    Lib.byteCells (hexL d i) ++ [.int .u8 ((digS[(d i).toNat / 16]'h1).toNat : Int)] ++ [.int .u8 ((digS[(d i).toNat % 16]'h2).toNat : Int)] = Lib.byteCells (hexL d (i + 1)) := by
  simp only [hexL, Lib.byteCells, List.map_append, digS_at, List.map_cons, List.map_nil, List.append_assoc, List.cons_append, List.nil_append]
theorem hex_walk (d : Nat → UInt8) (arr : Array Value) (hsz : arr.size = 32) (w : World)
    (hload : ∀ W : World, (∀ j v, arr.toList[j]? = some v → W.cell? ⟨w.heap.size, 0 + j, none⟩ = some v) → (Instr.loadAt 27 (.pointer (some ⟨w.heap.size, 0, none⟩))).run Tryd.prog W = .ok (.agg arr) W)
    (hidx : ∀ (W : World) (i : Nat), i < 32 → (Instr.index 27 (.agg arr) (.int .i64 (i : Int))).run Tryd.prog W = .ok (.int .u8 ((d i).toNat : Int)) W) :
    Calls Tryd.prog 17 #[.agg arr] w fun e w' => e = .returned (.string ⟨(hexL d 32).toArray⟩) ∧ Below w.heap.size w w' := by
  go_enter Tryd.func17, Tryd.ntmps17
  (first | go_values | go_skip | go_guarded | go_step | go_upon | go_in | go_back)
  (first | go_values | go_skip | go_guarded | go_step | go_upon | go_in | go_back)
  (first | go_values | go_skip | go_guarded | go_step | go_upon | go_in | go_back)
  (first | go_values | go_skip | go_guarded | go_step | go_upon | go_in | go_back)
  (first | go_values | go_skip | go_guarded | go_step | go_upon | go_in | go_back)
  (first | go_values | go_skip | go_guarded | go_step | go_upon | go_in | go_back)
  (first | go_values | go_skip | go_guarded | go_step | go_upon | go_in | go_back)
  (first | go_values | go_skip | go_guarded | go_step | go_upon | go_in | go_back)
  (first | go_values | go_skip | go_guarded | go_step | go_upon | go_in | go_back)
  (first | go_values | go_skip | go_guarded | go_step | go_upon | go_in | go_back)
  (first | go_values | go_skip | go_guarded | go_step | go_upon | go_in | go_back)
  (first | go_values | go_skip | go_guarded | go_step | go_upon | go_in | go_back)
  (first | go_values | go_skip | go_guarded | go_step | go_upon | go_in | go_back)
  (first | go_values | go_skip | go_guarded | go_step | go_upon | go_in | go_back)
  (first | go_values | go_skip | go_guarded | go_step | go_upon | go_in | go_back)
  (first | go_values | go_skip | go_guarded | go_step | go_upon | go_in | go_back)
  (first | go_values | go_skip | go_guarded | go_step | go_upon | go_in | go_back)
  (first | go_values | go_skip | go_guarded | go_step | go_upon | go_in | go_back)
  (first | go_values | go_skip | go_guarded | go_step | go_upon | go_in | go_back)
  (first | go_values | go_skip | go_guarded | go_step | go_upon | go_in | go_back)
  (first | go_values | go_skip | go_guarded | go_step | go_upon | go_in | go_back)
  (first | go_values | go_skip | go_guarded | go_step | go_upon | go_in | go_back)
  (first | go_values | go_skip | go_guarded | go_step | go_upon | go_in | go_back)
  (first | go_values | go_skip | go_guarded | go_step | go_upon | go_in | go_back)
  have hload := hload ((w.alloc (.cells arr 27)).alloc (.cells #[.pointer none, .slice none 0 0] 63)) (fun j v hj => by
    rw [Nat.zero_add, Lib.cell_of_heap (b := w.heap.size) (cs := arr) (T := 27) (fr := (0, 0)) (by rw [Lib.alloc_old _ _ _ (by simp)]; exact heap_alloc_new w _), ← Array.getElem?_toList]; exact hj)
  with_reducible refine load_step (x := .tmp 1) ?_ ?_ hload ?_
  exact rfl
  exact rfl
  clear hload
  go_wp2
  go_loopw [7] (fun v wr => ∃ i : Nat, i ≤ 32 ∧ v = .int .i64 i ∧ Lib.IsBuilder 63 5 w.heap.size (w.heap.size + 1) (Lib.byteCells (hexL d i)) wr ∧ Below w.heap.size w wr) (fun v _ => 32 - (intOf v).toNat)
  case atStart =>
    refine ⟨0, Nat.zero_le _, rfl, Or.inl ⟨Nat.le_succ _, .slice none 0 0, ?_, World.ownsRow_nil _ _ _ _, by simp [Value.ownBlock]⟩, ((Below.refl _ w).alloc (Nat.le_refl _) _).alloc (by simp) _⟩
    have := heap_alloc_new (w.alloc (.cells arr 27)) (.cells #[.pointer none, .slice none 0 0] 63)
    simpa using this
  case round =>
    obtain ⟨i, hi, rfl, hI, hbw⟩ := hrel
    by_cases hlt : i < 32
    · have hix := hidx wr i hlt
      have hn1 : (d i).toNat / 16 < 16 := by have := (d i).toNat_lt; omega
      have hlen : (Lib.byteCells (hexL d i)).length = 2 * i := by rw [Lib.byteCells_length, hexL_len]
      have hsz1 : w.heap.size ≤ wr.heap.size := hbw.size
      go_wp2_with (first | ((with_reducible refine index_step (x := .tmp 6) (y := .tmp 7) ?_ ?_ ?_ hix ?_); exact rfl; exact rfl; exact rfl) | (go_at_call 30; refine (bWrite w.heap.size (w.heap.size + 1) _ _ _ hI (by omega) hsz1).mono ?_))
      rintro e W1 ⟨rfl, h1, b1⟩
      have hn2 : (d i).toNat % 16 < 16 := Nat.mod_lt _ (by decide)
      have hsz2 : w.heap.size ≤ W1.heap.size := Nat.le_trans hsz1 b1.size
      go_wp2_with (go_at_call 30; refine (bWrite w.heap.size (w.heap.size + 1) _ _ _ (Or.inr h1) (by simp only [List.length_append, List.length_singleton]; omega) hsz2).mono ?_)
      rintro e W2 ⟨rfl, h2, b2⟩
      go_wp2
      go_roundw
      case rel =>
        refine ⟨i + 1, by omega, ?_, ?_, hbw.trans (b1.trans b2)⟩
        · rfl
        · refine Or.inr ?_
          rw [← hex_step d i hn1 hn2]; exact h2
      case measure =>
        simp only [intOf]; omega
    · obtain rfl : i = 32 := by omega
      go_wp2_with (go_at_call 31; refine (Tryd.Builder_String_any w.heap.size (w.heap.size + 1) (hexL d 32) _ hI hbw.size).mono ?_)
      rintro e W1 ⟨rfl, b1⟩
      go_wp2
      go_ret
      exact ⟨rfl, hbw.trans b1⟩
open Go.VA
theorem aHex (d : Nat → UInt8) : ACall Tryd.prog gl 17 [.ag (sumC d)] [] (.c (.v (.string ⟨(hexL d 32).toArray⟩))) where
  callable := ⟨_, Tryd.func17, by kernel_rfl, by kernel_rfl⟩
  closed := rfl
  run := fun w M B vals hro hL hG hv => by
    obtain ⟨u, r, e1, h1, h2⟩ := (show ∃ u r, vals.toList = u :: r ∧ RelV B (Sr M B [] w) (.ag (sumC d)) u ∧ RelVs B (Sr M B [] w) [] r from by simpa only [RelVs] using hv)
    obtain rfl : r = [] := by simpa only [RelVs] using h2
    obtain ⟨arr, rfl, h3⟩ := (show ∃ arr : Array Value, u = .agg arr ∧ RepVs (Sr M B [] w) (sumC d) arr.toList from by simpa only [RelV] using h1)
    rw [← arr_sumC] at h3
    have hsz : arr.size = 32 := by have := RepVs.length _ _ h3; rw [arrC_length] at this; simpa using this
    have hvals : vals = #[.agg arr] := by apply Array.ext'; simpa using e1
    subst hvals
    refine (hex_walk d arr hsz w (fun W hc => ?_) (fun W i hi => ?_)).mono fun e w' ⟨he, hb⟩ => ⟨_, he, hb, by simp [RelV, RepC, Value.oneCell']⟩
    · obtain ⟨v, r1, r2, _⟩ := Go.VA.run_load htb (t := 27) rfl W w.heap.size 0 arr.toList (show arr.toList.length = 32 by simpa using hsz) hc
      rw [r1, r2 rfl]
    · obtain ⟨y, hy, hr⟩ := opIndex_sound (P := Tryd.prog) htb (ch := fun p => p) (t := 27) (x := .ag (arrC (fun i => cb (d i)) 32)) (i := intA .i64 (i : Int)) (K := fun y => y = .c (cb (d i))) (by
        show (0 ≤ (i : Int) ∧ (i : Int) < 32) ∧ cutC false (arrC (fun i => cb (d i)) 32) ((i : Int).toNat * 1) 1 _
        refine ⟨⟨by omega, by omega⟩, ?_⟩
        unfold cutC
        rw [arrC_cutM rfl rfl (by omega)]
        rfl)
      subst hy
      obtain ⟨r, k1, k2⟩ := hr B (Sr M B [] w) W (.agg arr) (.int .i64 i) (fun p hp => hp) (by simp only [RelV]; exact ⟨arr, rfl, h3⟩) (by simp [intA, RelV, RepC, Value.oneCell'])
      simp only [RelV, RepC] at k2
      rw [k1, k2.1]
def lB (l : List UInt8) (i : Nat) : UInt8 := l.getD i 0
set_option maxRecDepth 100000 in
theorem abcHex : hexL (shaB (lB [97, 98, 99]) 3) 32 = [98, 97, 55, 56, 49, 54, 98, 102, 56, 102, 48, 49, 99, 102, 101, 97, 52, 49, 52, 49, 52, 48, 100, 101, 53, 100, 97, 101, 50, 50, 50, 51, 98, 48, 48, 51, 54, 49, 97, 51, 57, 54, 49, 55, 55, 97, 57, 99, 98, 52, 49, 48, 102, 102, 54, 49, 102, 50, 48, 48, 49, 53, 97, 100] := by decide +kernel
end Go.Proofs.YtpnapenjamcilaaDoor
