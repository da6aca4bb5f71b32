/- Contracts of functions of the program, and the laws that stand on them: what each function answers, whatever its arguments. -/
import Derived.Test.YtkhdnhjdmpdblaaTT
import Derived.Test.YtkhdnhjdmpdblaaTryShelf
import Derived.RangeFuncBox
import Derived.Shelf.SlIter.Sorted
import Derived.Shelf.SortM.Plain
import Derived.Shelf.SortM.SortNone
import Derived.WalkKit
import Derived.OwnWalkIn
import Derived.TacticsInMore
import Derived.LoopNIn
import Derived.LoopIn
set_option linter.unusedSectionVars false
set_option linter.unnecessarySimpa false
namespace Go.Proofs.Ytkhdnhjdmpdblaa
set_option linter.unusedSimpArgs false
set_option linter.unusedVariables false
set_option maxRecDepth 100000
set_option maxHeartbeats 8000000
open Go Go.RowKit Go.Maps Go.Sort Go.Shelf
def SeqGivesB {α : Type} (F : Fence) (n : Nat) (P : Program) (g : Nat) (lb : Array Value) (enc : α → Value) (S : List α → Prop) (N : Nat) (w : World) : Prop :=
  ∀ (l : Nat) (J : List α → World → Prop) (W : World), Below w.heap.size w W → AbidesFrom W.heap.size J → (∀ pre W1, J pre W1 → Below w.heap.size w W1) →
    (∀ pre x W1, J pre W1 → pre.length < N → YieldAt F (n - 1) P l #[enc x] W1 fun e W' => e = .returned (.bool true) ∧ J (pre ++ [x]) W' ∧ KeepsWalks W1 W') →
    J [] W →
    CallsIn F n P g (#[.func (.yield l) #[] #[]] ++ lb) W fun e W' => (∃ v, e = .returned v) ∧ ∃ xs, S xs ∧ J xs W'
section
variable {P : Program} {ρ : Ren}
set_option maxRecDepth 100000 in
set_option maxHeartbeats 2000000 in
theorem appendSeqB (L : SlLaysZ.n11 P ρ) (F : Fence) (n : Nat) (h11 : F.fn (ρ.f 11)) (hro : F.round = none) (hn : 2 ≤ n) (g : Nat) (lb : Array Value) (hFg : F.fn g) (eg : ∀ args w, (callFunc g args).run P w = .ok (.enter g args) w)
    (S : List (List UInt8) → Prop) (N : Nat) (hN : N ≤ maxLen) (hNb : N * 16 ≤ 140737488355328) (w : World) (hseq : SeqGivesB F (n - 1) P g lb encStr S N w) :
    CallsIn F n P (ρ.f 11) #[.slice none 0 0, .func (.func g) #[] lb] w fun e w' => ∃ (v : Value) (ss : List (List UInt8)), e = .returned v ∧ S ss ∧ w'.ownsRow w.heap.size (ρ.t 26) 1 v ss.length (ss.map encStr) ∧ (v = .slice none 0 0 ↔ ss = []) ∧ Below w.heap.size w w' := by
  have h1 : 1 ≤ n := by omega
  have mixed := L.mixed; have t0 := L.t0; have a0 := L.a0; have z0 := L.z0; have v0 := L.v0; have t24 := L.t24; have a24 := L.a24; have z24 := L.z24; have v24 := L.v24; have t26 := L.t26; have a26 := L.a26; have z26 := L.z26; have v26 := L.v26; have t28 := L.t28; have a28 := L.a28; have z28 := L.z28; have v28 := L.v28
  have hne : ρ.t 24 ≠ ρ.t 26 := fun e => by have h := L.t24; rw [e, L.t26] at h; cases h
  have u0 := run_underlying L.t0; have u24 := run_underlying L.t24; have u26 := run_underlying L.t26; have u28 := run_underlying L.t28
  obtain ⟨_, _, FG⟩ := L.f11
  refine callsIn_of_wp_marks FG rfl h11 ?_ hro
  simp only [SlBodyZ.n11_ntmps ρ, List.size_toArray, List.length_cons, List.length_nil, Nat.reduceAdd, Nat.reduceSub, Array.replicate_succ, Array.replicate_zero, List.push_toArray, List.append_toArray, List.nil_append, List.cons_append]
  gi_wp2
  refine wpIn_rangeFunc ?_
  intro fn hfn
  rw [hro]
  obtain ⟨W0, hW0⟩ : ∃ W0, w.alloc (.cells #[.slice none 0 0] (ρ.t 24)) = W0 := ⟨_, rfl⟩
  have hs0 : W0.heap.size = w.heap.size + 1 := by rw [← hW0]; simp
  have hv0 : W0.heap[w.heap.size]? = some (.cells #[.slice none 0 0] (ρ.t 24) (0, 0)) := by rw [← hW0]; exact World.alloc_heap_new w _
  have hb0 : Below w.heap.size w W0 := by rw [← hW0]; exact (Below.refl _ w).alloc (Nat.le_refl _) _
  rw [hW0]
  obtain ⟨W1, hW1⟩ : ∃ W1, (W0.alloc (.deferred (some []))).alloc (.loop (AnyZ.apRec ρ fn (.func (.func g) #[] lb) w.heap.size W0.heap.size .ready none)) = W1 := ⟨_, rfl⟩
  have hold : ∀ k, k < W0.heap.size → W1.heap[k]? = W0.heap[k]? := fun k hk => by
    rw [← hW1]; exact (Below.heap_alloc _ _ k (by simp; omega)).trans (Below.heap_alloc _ _ k hk)
  have hb1 : Below w.heap.size w W1 := by rw [← hW1]; exact (hb0.alloc hb0.size _).alloc (by have := hb0.size; simp; omega) _
  have hs1 : W1.heap.size = W0.heap.size + 2 := by rw [← hW1]; simp
  have hM : AnyZ.ApAt ρ w fn (.func (.func g) #[] lb) w.heap.size (W0.heap.size + 1) W0.heap.size [] W1 :=
    ⟨⟨_, (hold w.heap.size (by omega)).trans hv0, ⟨rfl, .inl ⟨rfl, rfl⟩⟩, by simp⟩,
     by rw [← hW1]; have := World.alloc_heap_new (W0.alloc (.deferred (some []))) (.loop (AnyZ.apRec ρ fn (.func (.func g) #[] lb) w.heap.size W0.heap.size .ready none)); rwa [World.size_alloc] at this,
     by rw [← hW1]; exact (Below.heap_alloc _ _ _ (by simp)).trans (World.alloc_heap_new W0 _), hb1⟩
  refine ⟨W0.heap.size + 1, [{ target := .collected W0.heap.size, args := #[] }], W1, { target := .fn (.func g) lb, args := #[.func (.yield (W0.heap.size + 1)) #[] #[]] }, W1, g,
    #[.func (.yield (W0.heap.size + 1)) #[] #[]] ++ lb, W1, ?_, ?_, ?_, ?_, fun _ => h1, ?_⟩
  · rw [← hW1]; exact run_enterLoop_outer _ _ _ _ _
  · simp [resolve, go_sem]
  · intro f' hf'; simp [Target.leads] at hf'; subst hf'; exact hFg
  · simp [invoke, go_sem, eg]
  · refine (hseq (W0.heap.size + 1) (AnyZ.ApAt ρ w fn (.func (.func g) #[] lb) w.heap.size (W0.heap.size + 1) W0.heap.size) W1 hb1 (AnyZ.ap_abides ρ _ _ _ _ _ _ _ hb1.size) (fun _ _ h => h.below)
      (fun pre x W hJ hl => AnyZ.apYield { L with } F (n - 1 - 1) w fn hfn _ w.heap.size (W0.heap.size + 1) W0.heap.size (by omega) (by omega) (by omega) (Nat.le_refl _) (by omega) N hN hNb pre x W hJ hl) hM).mono ?_
    rintro e W2 ⟨⟨v0, rfl⟩, ss, hS, h2⟩
    obtain ⟨v, hv, hrow, hnil⟩ := h2.box
    have hend := run_endLoop (P := P) h2.L (by simp [AnyZ.apRec])
    obtain ⟨W3, hW3⟩ : ∃ W3, W2.putObj (W0.heap.size + 1) (.loop { AnyZ.apRec ρ fn (.func (.func g) #[] lb) w.heap.size W0.heap.size .ready none with state := .exhausted }) = W3 := ⟨_, rfl⟩
    rw [hW3] at hend
    have hg3 : W2.grownBy W3 (some (W0.heap.size + 1)) := by rw [← hW3]; exact grownBy_putObj_a _ _ _
    have hv3 : W3.heap[w.heap.size]? = some (.cells #[v] (ρ.t 24) (0, 0)) := by rw [← hW3]; exact (World.putObj_heap_other (by omega)).trans hv
    have hK3 : W3.heap[W0.heap.size]? = some (.deferred (some [])) := by rw [← hW3]; exact (World.putObj_heap_other (by omega)).trans h2.K
    have hrow3 := hrow.kept hg3 (ownsRow_ne_a hrow h2.L (fun cur e => by first | cases e | exact hne (Obj.cells.inj e).2.1))
    have hb3 : Below w.heap.size w W3 := h2.below.grown hg3 h2.below.size (fun k e => by cases e; omega)
    obtain ⟨hc3, hf3⟩ := cell_of_box_a hv3
    clear hW3
    refine ⟨none, W3, hend, ?_⟩
    gi_wp2
    rw [← hs0]
    refine ⟨by simp, .inl ⟨_, _, rfl, run_takeDeferred hK3, ?_⟩⟩
    exact ⟨_, results_tmp rfl _ _ _, v, ss, rfl, hS, hrow3.kept (grownBy_putObj_a _ _ _) (ownsRow_ne_a hrow3 hK3 (fun cur e => by first | cases e | exact hne (Obj.cells.inj e).2.1)), hnil, hb3.grown (grownBy_putObj_a _ _ _) hb3.size (fun k e => by cases e; omega)⟩

set_option maxHeartbeats 1000000 in
theorem collectB (L : SlLaysZ.n8 P ρ) (F : Fence) (n : Nat) (h8 : F.fn (ρ.f 8)) (h11 : F.fn (ρ.f 11)) (hro : F.round = none) (hn : 3 ≤ n) (g : Nat) (lb : Array Value) (hFg : F.fn g) (eg : ∀ args w, (callFunc g args).run P w = .ok (.enter g args) w)
    (S : List (List UInt8) → Prop) (N : Nat) (hN : N ≤ maxLen) (hNb : N * 16 ≤ 140737488355328) (w : World) (hseq : SeqGivesB F (n - 1 - 1) P g lb encStr S N w) :
    CallsIn F n P (ρ.f 8) #[.func (.func g) #[] lb] w fun e w' => ∃ (v : Value) (ss : List (List UInt8)), e = .returned v ∧ S ss ∧ w'.ownsRow w.heap.size (ρ.t 26) 1 v ss.length (ss.map encStr) ∧ (v = .slice none 0 0 ↔ ss = []) ∧ Below w.heap.size w w' := by
  have h1 : 1 ≤ n := by omega
  have e11 : ∀ args w, (callFunc (ρ.f 11) args).run P w = .ok (.enter (ρ.f 11) args) w := L.f11.enters rfl
  have mixed := L.mixed; have t0 := L.t0; have a0 := L.a0; have z0 := L.z0; have v0 := L.v0; have t24 := L.t24; have a24 := L.a24; have z24 := L.z24; have v24 := L.v24; have t26 := L.t26; have a26 := L.a26; have z26 := L.z26; have v26 := L.v26; have t28 := L.t28; have a28 := L.a28; have z28 := L.z28; have v28 := L.v28
  have u0 := run_underlying L.t0; have u24 := run_underlying L.t24; have u26 := run_underlying L.t26; have u28 := run_underlying L.t28
  obtain ⟨_, _, FG⟩ := L.f8
  refine callsIn_of_wp FG rfl h8 ?_ hro
  simp only [SlBodyZ.n8_ntmps ρ, List.size_toArray, List.length_cons, List.length_nil, Nat.reduceAdd, Nat.reduceSub, Array.replicate_succ, Array.replicate_zero, List.push_toArray, List.append_toArray, List.nil_append, List.cons_append]
  gi_wp2_with (gi_at_fn (ρ.f 11); refine (appendSeqB { L with } F (n - 1) h11 hro (by omega) g lb hFg eg S N hN hNb _ hseq).mono ?_; rintro e w' ⟨v, ss, rfl, hS, hrow, hnil, hb⟩)
  go_ret
  exact ⟨v, ss, rfl, hS, hrow, hnil, hb⟩

set_option maxRecDepth 100000 in
set_option maxHeartbeats 2000000 in
theorem sortedB (L : SlLaysZ.n6 P ρ) (F : Fence) (n : Nat) (h6 : F.fn (ρ.f 6)) (h8 : F.fn (ρ.f 8)) (h9 : F.fn (ρ.f 9)) (h11 : F.fn (ρ.f 11)) (hro : F.round = none) (hn : 4 ≤ n) (hsort : AnyZ.SortsIn P ρ F (n - 1)) (e9 : ∀ args w, (callFunc (ρ.f 9) args).run P w = .ok (.enter (ρ.f 9) args) w) (g : Nat) (lb : Array Value) (hFg : F.fn g) (eg : ∀ args w, (callFunc g args).run P w = .ok (.enter g args) w)
    (S : List (List UInt8) → Prop) (N : Nat) (hSN : ∀ ss, S ss → ss.length ≤ N) (hN : N ≤ maxLen) (hNb : N * 16 ≤ 140737488355328) (w : World) (hseq : SeqGivesB F (n - 1 - 1 - 1) P g lb encStr S N w) :
    CallsIn F n P (ρ.f 6) #[.func (.func g) #[] lb] w fun e w' => ∃ (v : Value) (ss : List (List UInt8)), e = .returned v ∧ S ss ∧
      w'.ownsRow w.heap.size (ρ.t 26) 1 v ss.length ((ss.mergeSort (fun x y => decide (x ≤ y))).map encStr) ∧ (v = .slice none 0 0 ↔ ss = []) ∧ Below w.heap.size w w' := by
  have h1 : 1 ≤ n := by omega
  have e8 : ∀ args w, (callFunc (ρ.f 8) args).run P w = .ok (.enter (ρ.f 8) args) w := L.f8.enters rfl
  have mixed := L.mixed; have t0 := L.t0; have a0 := L.a0; have z0 := L.z0; have v0 := L.v0; have t24 := L.t24; have a24 := L.a24; have z24 := L.z24; have v24 := L.v24; have t26 := L.t26; have a26 := L.a26; have z26 := L.z26; have v26 := L.v26; have t28 := L.t28; have a28 := L.a28; have z28 := L.z28; have v28 := L.v28
  have u0 := run_underlying L.t0; have u24 := run_underlying L.t24; have u26 := run_underlying L.t26; have u28 := run_underlying L.t28
  obtain ⟨_, _, FG⟩ := L.f6
  refine callsIn_of_wp FG rfl h6 ?_ hro
  simp only [SlBodyZ.n6_ntmps ρ, List.size_toArray, List.length_cons, List.length_nil, Nat.reduceAdd, Nat.reduceSub, Array.replicate_succ, Array.replicate_zero, List.push_toArray, List.append_toArray, List.nil_append, List.cons_append]
  gi_wp2_with (gi_at_fn (ρ.f 8); refine (collectB { L with } F (n - 1) h8 h11 hro (by omega) g lb hFg eg _ N hN hNb _ hseq).mono ?_; rintro e W ⟨v, ss, rfl, hS, hrow, hnil, hb⟩)
  have hlen := hSN _ hS
  rcases hrow.2 with ⟨rfl, hz⟩ | ⟨gb, cap, cur, rfl, hbase, hgb, r1, r2, r3, r4⟩
  · -- nothing came: the nil slice is sorted and handed back
    have hss : ss = [] := List.eq_nil_of_length_eq_zero hz
    subst hss
    gi_wp2_with (gi_at_fn (ρ.f 9); refine (hsort.2 none 0 W).mono ?_; rintro e w' ⟨rfl, rfl⟩)
    go_ret
    exact ⟨.slice none 0 0, [], rfl, hS, by simpa using hrow, by simp, hb⟩
  · have hH : Holds encStr W gb 0 ss.toArray := holds_of_block hgb (by simpa using r4)
    have hgl : gb < W.heap.size := (Array.getElem?_eq_some_iff.1 hgb).1
    have hsz : ss.length < 4611686018427387904 := by omega
    have cS := hsort.1 gb 0 cap ss W hH hgl hsz
    gi_wp2_with (gi_at_fn (ρ.f 9); refine cS.mono ?_; rintro e w' ⟨rfl, nn, os, rfl⟩)
    go_ret
    exact ⟨_, ss, rfl, hS, ownsRow_sorted (by simp) hbase hgb r1 r2 r3, hnil, hb.grown (grownBy_sorted _) hb.size (fun j hj => by cases hj; exact hbase)⟩

end

def upto {α : Type} (f : Nat → α) (k : Nat) : List α := (List.range k).map f
theorem upto_succ {α : Type} (f : Nat → α) (k : Nat) : upto f (k + 1) = upto f k ++ [f k] := by simp [upto, List.range_succ]
theorem upto_length {α : Type} (f : Nat → α) (k : Nat) : (upto f k).length = k := by simp [upto]
attribute [local go_sem] Oper.semAt_some
set_option maxRecDepth 100000 in
set_option maxHeartbeats 2000000 in
theorem values1 (F : Fence) (n : Nat) (h7 : F.fn 36) (hro : F.round = none) (hn : 1 ≤ n) (Bs b off len cap : Nat) (ks : Nat → List UInt8) (hreach : len * 16 ≤ 140737488355328) (w : World) (hBl : Bs < w.heap.size) (hbl : b < w.heap.size)
    (hBs : w.cell? ⟨Bs, 0, none⟩ = some (.slice (some ⟨b, off, none⟩) len cap)) (hc : ∀ j, j < len → w.cell? ⟨b, off + j, none⟩ = some (encStr (ks j))) :
    SeqGivesB F n Try.prog 36 #[.pointer (some ⟨Bs, 0, none⟩)] encStr (fun ss => ss = upto ks len) len w := fun l J W hW hJ hJb hY h0 => by
  refine callsIn_of_wp Try.func36 rfl h7 ?_ hro
  have hBs := (hW.cell (p := ⟨Bs, 0, none⟩) hBl).trans hBs
  simp only [Try.ntmps36, List.size_toArray, List.length_cons, List.length_nil, Nat.reduceAdd, Nat.reduceSub, Array.replicate_succ, Array.replicate_zero, List.push_toArray, List.append_toArray, List.nil_append, List.cons_append]
  gi_wp2
  gi_loopw [7] (fun i wr => ∃ k : Nat, k ≤ len ∧ i = .int .i64 k ∧ J (upto ks k) wr)
    (fun i _ => len - (intOf i).toNat)
  case atStart => exact ⟨0, Nat.zero_le _, rfl, h0⟩
  case round =>
    obtain ⟨k, hk, rfl, hJs⟩ := hrel
    have hnx := hJb _ _ hJs
    have hcx : k < len → wr.cell? ⟨b, off + k, none⟩ = some (encStr (ks k)) := fun h => (hnx.cell (p := ⟨b, off + k, none⟩) hbl).trans (hc k h)
    by_cases hlt : k < len
    · obtain ⟨fn, tmps, assign, body, hy, hR⟩ := hY _ (ks k) wr hJs (by rw [upto_length]; exact hlt)
      have hcx' := hcx hlt
      gi_wp2
      refine hR.mono ?_
      rintro e W3 ⟨rfl, hJ3, hk3⟩
      gi_wp2
      go_roundw
      case rel => exact ⟨k + 1, by omega, by simp, by rw [upto_succ]; exact hJ3⟩
      case measure => simp [intOf]; omega
    · obtain rfl : k = len := by omega
      gi_wp2
      go_end0
      exact ⟨⟨_, rfl⟩, _, rfl, hJs⟩
set_option maxRecDepth 100000 in
set_option maxHeartbeats 1000000 in
theorem values0 (F : Fence) (n : Nat) (h7 : F.fn 36) (hro : F.round = none) (Bs : Nat) (a : Option Addr) (cap : Nat) (w : World) (hBl : Bs < w.heap.size) (hBs : w.cell? ⟨Bs, 0, none⟩ = some (.slice a 0 cap)) :
    SeqGivesB F n Try.prog 36 #[.pointer (some ⟨Bs, 0, none⟩)] encStr (fun ss => ss = []) 0 w := fun l J W hW hJ hJb hY h0 => by
  refine callsIn_of_wp Try.func36 rfl h7 ?_ hro
  have hBs := (hW.cell (p := ⟨Bs, 0, none⟩) hBl).trans hBs
  simp only [Try.ntmps36, List.size_toArray, List.length_cons, List.length_nil, Nat.reduceAdd, Nat.reduceSub, Array.replicate_succ, Array.replicate_zero, List.push_toArray, List.append_toArray, List.nil_append, List.cons_append]
  gi_wp2
  gi_loopw [7] (fun i wr => i = .int .i64 0 ∧ J [] wr) (fun _ _ => 0)
  case atStart => exact ⟨rfl, h0⟩
  case round =>
    obtain ⟨rfl, hJs⟩ := hrel
    gi_wp2
    go_end0
    exact ⟨⟨_, rfl⟩, _, rfl, hJs⟩
theorem sorts20 (m : Nat) : AnyZ.SortsIn Try.prog Try.sorted20_ren Fence.wide m :=
  ⟨fun blk off cap ss W hH hblk hsz => callsIn_wide.2 (AnyM.slices_Sort_string Try.sort35 blk off cap ss W hH hblk hsz),
   fun p cap W => callsIn_wide.2 (AnyM.slices_Sort_string_none Try.sort35 p cap W)⟩
theorem sortedW (Bs : Nat) (a : Option Addr) (len cap : Nat) (ks : Nat → List UInt8) (hreach : len * 16 ≤ 140737488355328) (w : World) (hBl : Bs < w.heap.size)
    (hBs : w.cell? ⟨Bs, 0, none⟩ = some (.slice a len cap)) (hc : len = 0 ∨ ∃ b off, a = some ⟨b, off, none⟩ ∧ b < w.heap.size ∧ ∀ j, j < len → w.cell? ⟨b, off + j, none⟩ = some (encStr (ks j))) :
    Calls Try.prog 20 #[.func (.func 36) #[] #[.pointer (some ⟨Bs, 0, none⟩)]] w fun e w' => ∃ (v : Value), e = .returned v ∧
      w'.ownsRow w.heap.size 9 1 v len (((upto ks len).mergeSort (fun x y => decide (x ≤ y))).map encStr) ∧ Below w.heap.size w w' := by
  have hseq : SeqGivesB Fence.wide 2 Try.prog 36 #[.pointer (some ⟨Bs, 0, none⟩)] encStr (fun ss => ss = upto ks len) len w := by
    rcases hc with rfl | ⟨b, off, rfl, hb, hc⟩
    · exact values0 Fence.wide 2 trivial rfl Bs a cap w hBl hBs
    · exact values1 Fence.wide 2 trivial rfl (by decide) Bs b off len cap ks hreach w hBl hb hBs hc
  refine callsIn_wide.1 ((sortedB Try.sorted20 Fence.wide 5 trivial trivial trivial trivial rfl (by omega) (sorts20 _) (enters_of Try.func35 (by kernel_rfl) rfl) 36 _ trivial (enters_of Try.func36 (by kernel_rfl) rfl) _ len (fun ss h => by rw [h, upto_length]; exact Nat.le_refl _) (by unfold maxLen; omega) hreach w hseq).mono ?_)
  rintro e w' ⟨v, ss, rfl, rfl, hrow, _, hb⟩
  rw [upto_length] at hrow
  exact ⟨v, rfl, hrow, hb⟩
end Go.Proofs.Ytkhdnhjdmpdblaa
