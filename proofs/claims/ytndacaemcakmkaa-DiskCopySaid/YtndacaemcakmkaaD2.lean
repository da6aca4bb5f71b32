/- Contracts of functions of the program, and the laws that stand on them: what each function answers, whatever its arguments. -/
import Derived.Test.YtndacaemcakmkaaD0
import Derived.Defers
import Derived.StillTactics
import Derived.Lib.Hide
import Derived.WalkKit
set_option linter.unusedSectionVars false
set_option linter.unnecessarySimpa false
namespace Go.Proofs.Ytndacaemcakmkaa
set_option linter.unusedSimpArgs false
set_option linter.unusedVariables false
set_option maxRecDepth 100000
set_option maxHeartbeats 8000000
open Go Go.VA Go.RowKit
/-! ### blocks kept from sight -/
def hideM (M : Mz) (e : Nat) : Mz := ⟨M.ro, fun b => M.f b ∨ b = e, fun b => M.t b ∨ b = e, fun b h => h.imp (M.le b) id⟩
theorem MU_hide {M : Mz} {e : Nat} {B : List (Option BI)} {L : List AO} (t : Bool) (b : Nat) : MU (hideM M e) B L t b ↔ MU M B L t b ∨ b = e := by
 cases t <;> simp only [MU, hideM] <;> constructor <;> rintro h
 all_goals (rcases h with (h | h) | h <;> first | exact .inl (.inl h) | exact .inr h | exact .inl (.inr h) | exact .inl (.inl (.inl h)))
theorem Sr_hide_alloc {M : Mz} {B : List (Option BI)} {L : List AO} {w : World} (o : Obj) : (Sr M B L w).le (Sr (hideM M w.heap.size) B L (w.alloc o)) := by
 rintro t b k u ⟨h1, h2⟩
 have hb := block_lt h2
 refine ⟨fun h => ?_, ?_⟩
 ·rcases (MU_hide t b).1 h with h | h
  ·exact h1 h
  ·exact absurd h (Nat.ne_of_lt hb)
 ·rw [World.cell?_of_block (w := w) (Below.heap_alloc w o b hb)]; exact h2
theorem hide_alloc {M : Mz} {B : List (Option BI)} {L : List AO} {w : World} (hL : RelL M B L w) (o : Obj) : RelL (hideM M w.heap.size) B L (w.alloc o) where
 len := hL.len
 bnd := fun id bi h => by have := hL.bnd id bi h; simp; omega
 mbnd := fun b h => by
  rcases h with h | h
  ·have := hL.mbnd b h; simp; omega
  ·simp [h]
 notM := fun id bi h hl hm => by
  rcases hm with hm | hm
  ·exact hL.notM id bi h hl hm
  ·exact absurd hm (Nat.ne_of_lt (hL.bnd id bi h))
 dist := hL.dist
 obj := fun id bo h => RelO_keep (Sr_hide_alloc o) _ bo (fun _ bi e => Below.heap_alloc w o bi.b (hL.bnd id bi (e ▸ h))) (hL.obj id bo h)
theorem Sr_hidden {M : Mz} {B : List (Option BI)} {L : List AO} {w w' : World} {e : Nat} (ht : M.t e) (hk : ∀ b, b < w.heap.size → b ≠ e → w'.heap[b]? = w.heap[b]?) : (Sr M B L w).le (Sr M B L w') := by
 rintro t b k u ⟨h1, h2⟩
 have hb := block_lt h2
 have hne : b ≠ e := fun h => h1 (by
  subst h
  cases t with
  | false => exact .inl (M.le _ ht)
  | true => exact .inl ht)
 exact ⟨h1, by rw [World.cell?_of_block (w := w) (hk b hb hne)]; exact h2⟩
theorem hidden {M : Mz} {B : List (Option BI)} {L : List AO} {w w' : World} {e : Nat} (ht : M.t e) (hs : w.heap.size ≤ w'.heap.size) (hk : ∀ b, b < w.heap.size → b ≠ e → w'.heap[b]? = w.heap[b]?) (hL : RelL M B L w) : RelL M B L w' where
 len := hL.len
 bnd := fun id bi h => Nat.lt_of_lt_of_le (hL.bnd id bi h) hs
 mbnd := fun b h => Nat.lt_of_lt_of_le (hL.mbnd b h) hs
 notM := hL.notM
 dist := hL.dist
 obj := fun id bo h => by
  refine RelO_keep (Sr_hidden ht hk) _ bo (fun hl bi eb => ?_) (hL.obj id bo h)
  subst eb
  exact hk bi.b (hL.bnd id bi h) (fun h2 => hL.notM id bi h hl (by rw [h2]; exact M.le _ ht))
theorem Sr_unhide {M : Mz} {B : List (Option BI)} {L : List AO} {w : World} {e : Nat} : (Sr (hideM M e) B L w).le (Sr M B L w) := by
 rintro t b k u ⟨h1, h2⟩
 exact ⟨fun h => h1 ((MU_hide t b).2 (.inl h)), h2⟩
theorem unhide {M : Mz} {B : List (Option BI)} {L : List AO} {w : World} {e : Nat} (hL : RelL (hideM M e) B L w) : RelL M B L w where
 len := hL.len
 bnd := hL.bnd
 mbnd := fun b h => hL.mbnd b (.inl h)
 notM := fun id bi h hl hm => hL.notM id bi h hl (.inl hm)
 dist := hL.dist
 obj := fun id bo h => RelO_keep Sr_unhide _ bo (fun _ _ _ => rfl) (hL.obj id bo h)
/-! ### the deferred closure -/
theorem lateT (p q : Addr) (u : FrameMode) (w : World) (x : Int) (hp : w.cell? p = some (.bool true)) (hq : w.cell? q = some (.int .i64 x)) (hz : w.frozen? q = false) :
  CallsD Try.prog 46 #[.pointer (some p), .pointer (some q)] u w fun e u' w' => u' = u ∧ (e = .returned (.tuple #[]) ∧ w' = w.setCell q (.int .i64 21)) := by
 go_enter_d Try.func46, Try.ntmps46
 go_wp2
 go_end0
 exact ⟨rfl, rfl⟩
theorem lateF (p q : Addr) (u : FrameMode) (w : World) (hp : w.cell? p = some (.bool false)) :
  CallsD Try.prog 46 #[.pointer (some p), .pointer (some q)] u w fun e u' w' => u' = u ∧ (e = .returned (.tuple #[]) ∧ w' = w) := by
 go_enter_d Try.func46, Try.ntmps46
 go_wp2
 go_end0
 exact ⟨rfl, rfl⟩
theorem hanew (w : World) (o : Obj) : (w.alloc o).heap[w.heap.size]? = some o := (MapKept.heap_alloc w o).1
theorem setCell_size (w : World) (a : Addr) (v : Value) : (w.setCell a v).heap.size = w.heap.size := by simp [World.setCell]
theorem setCell_heap_ne (w : World) (a : Addr) (v : Value) {k : Nat} (h : k ≠ a.block) : (w.setCell a v).heap[k]? = w.heap[k]? := by
 simp only [World.setCell, Array.getElem?_modify]
 rw [if_neg (fun e => h e.symm)]
theorem frmSet {mt : Nat → Prop} {w w' : World} (h : Frm mt w w') {a : Addr} (v : Value) (hb : w.heap.size ≤ a.block) : Frm mt w (w'.setCell a v) where
 os := h.os
 tape := h.tape
 output := h.output
 size := by rw [setCell_size]; exact h.size
 block := fun k hk hn => (setCell_heap_ne _ _ _ (by omega)).trans (h.block k hk hn)
theorem cellSame {w : World} {a : Addr} {u : Value} (v : Value) (h : w.cell? a = some u) : (w.setCell a v).cell? a = some v := World.cell?_setCell_same' w a v (by rw [h]; rfl)
theorem cellOther {w : World} {a : Addr} {b o : Nat} (v : Value) (h : b ≠ a.block) : (w.setCell a v).cell? ⟨b, o, none⟩ = w.cell? ⟨b, o, none⟩ := World.cell?_of_block (w := w) (setCell_heap_ne _ _ _ h)
theorem pushA {B : List (Option BI)} {S : Rd} {x : AV} {xs : List AV} {vals : List Value} (h : RelVs B S (x :: xs) vals) : ∃ u r, vals = u :: r ∧ RelV B S x u ∧ RelVs B S xs r := h
set_option maxHeartbeats 4000000 in
theorem gChangePut (fuse fuse' ops ops' : Int) (dead dead' : Bool) (m m' : List (Value × AV)) (X : List AO) (caps : List AV) (burnt late : Bool) (hbl : burnt = true → late = true)
  (hX : ∀ i, i < X.length → (getO X i).kd ≠ 3) (hcaps : ∀ B S S' us, RelVs B S caps us → RelVs B S' caps us)
  (hbn : GCall Try.prog gl 45 (dskB fuse dead ops :: .mp m :: X) [.ptr 0 0] (dskB fuse' dead' ops' :: .mp m :: X) [boolA burnt])
  (hdo : GCall Try.prog gl 44 (dskB fuse' dead' ops' :: .mp m :: X) caps (dskB fuse' dead' ops' :: .mp m' :: X) []) :
  GCall Try.prog gl 22 (dskB fuse dead ops :: .mp m :: X) [.ptr 0 0, boolA late, .fn 44 [] caps] (dskB fuse' dead' ops' :: .mp m' :: X) [intA .i64 (if burnt then 21 else 0)] where
 callable := ⟨_, Try.func22, by kernel_rfl, by kernel_rfl⟩
 len := Nat.le_refl _
 kinds := fun i hi => by
  match i, hi with
  | 0, _ => rfl
  | 1, _ => rfl
  | i + 2, _ => rfl
 livep := hbn.livep
 liveq := hdo.liveq
 run := fun w M B vals hro hL hG hv => by
  obtain ⟨u0, r0, e0, h0, hv⟩ := pushA hv
  obtain ⟨u1, r1, rfl, h1, hv⟩ := pushA hv
  obtain ⟨u2, r2, rfl, h2, hv⟩ := pushA hv
  simp only [RelVs] at hv
  subst hv
  simp only [RelV, RepC, RelVs] at h0 h1 h2
  obtain ⟨bi, hbi, rfl⟩ := h0
  obtain ⟨rfl, _⟩ := h1
  obtain ⟨a1, a2, rfl, ea, hca⟩ := h2
  obtain rfl : a1 = #[] := Array.ext' ea
  obtain rfl : vals = #[.pointer (some ⟨bi.b, bi.o + 0, none⟩), .bool late, .func (.func 44) #[] a2] := Array.ext' e0
  have hmf : ∀ (fn : Fn) (first cap : Array Value) (w : World), (Instr.makeFunc fn first cap).run Try.prog w = .ok (.func fn first cap) w := fun _ _ _ _ => rfl
  have hnot : ∀ (x : Bool) (w : World), (Op.unary .not (.bool x)).run Try.prog w = .ok (.bool (!x)) w := fun _ _ => rfl
  -- the result's variable
  have hL1 := hide_alloc hL (.cells #[.int .i64 0] 28)
  have hS1 := Sr_hide_alloc (M := M) (B := B) (L := dskB fuse dead ops :: .mp m :: X) (w := w) (.cells #[.int .i64 0] 28)
  have cbn := hbn.run (w.alloc (.cells #[.int .i64 0] 28)) (hideM M w.heap.size) B #[.pointer (some ⟨bi.b, bi.o + 0, none⟩)] hro hL1 (GlOk.mono hS1 hG) (by
   simp only [RelVs, RelV]
   exact ⟨_, _, rfl, ⟨bi, hbi, rfl⟩, rfl⟩)
  have cbn2 : Calls Try.prog 45 #[.pointer (some ⟨bi.b, bi.o + 0, none⟩)] (w.alloc (.cells #[.int .i64 0] 28)) fun e W2 => e = .returned (.bool burnt) ∧ Frm (Bl B) (w.alloc (.cells #[.int .i64 0] 28)) W2 ∧ RelL (hideM M w.heap.size) B (dskB fuse' dead' ops' :: .mp m :: X) W2 := cbn.mono fun e W2 h => by
   obtain ⟨u, B2, rfl, hF2, hL2, hu, hB2a, hB2b⟩ := h
   simp only [retA, RelV, RepC] at hu
   obtain ⟨rfl, _⟩ := hu
   have hB : B2 = B := by
    have l1 := hL2.len
    have l2 := hL.len
    refine List.ext_getElem? fun id => ?_
    rcases Nat.lt_or_ge id (X.length + 2) with h | h
    ·refine hB2b id (by simpa using h) ?_
     match id, h with
     | 0, _ => exact (by decide : (1 : Nat) ≠ 3)
     | 1, _ => exact (by decide : (2 : Nat) ≠ 3)
     | id + 2, h => exact hX id (by omega)
    ·rw [List.getElem?_eq_none (by rw [l1]; simp; omega), List.getElem?_eq_none (by rw [l2]; simp; omega)]
   subst hB
   exact ⟨rfl, hF2, hL2⟩
  clear cbn
  have hbl0 : burnt = false ∨ (burnt = true ∧ late = true) := by cases burnt <;> simp_all
  have hGl : ∀ S, GlOk gl S := fun S g => trivial
  have cdo : ∀ W2, Frm (Bl B) (w.alloc (.cells #[.int .i64 0] 28)) W2 → RelL (hideM M w.heap.size) B (dskB fuse' dead' ops' :: .mp m :: X) W2 →
    Calls Try.prog 44 a2 (W2.alloc (.cells #[.bool burnt] 4)) fun e W3 => e = .returned (.tuple #[]) ∧ W3.cell? ⟨w.heap.size, 0, none⟩ = some (.int .i64 0) ∧ W3.frozen? ⟨w.heap.size, 0, none⟩ = false ∧
     W3.cell? ⟨W2.heap.size, 0, none⟩ = some (.bool burnt) ∧ ¬ W2.heap.size = w.heap.size ∧ RowKit.Hid (Frm (Bl B) w W3 ∧ w.heap.size < W3.heap.size ∧ RelL (hideM M w.heap.size) B (dskB fuse' dead' ops' :: .mp m' :: X) W3) := fun W2 hF2 hL2 => by
   have hs2 : w.heap.size + 1 ≤ W2.heap.size := by have := hF2.size; simpa using this
   have hNB : ∀ k, w.heap.size ≤ k → ¬ Bl B k := fun k hk ⟨id, b, h1, h2⟩ => by have := hL.bnd id b h1; omega
   refine (hdo.run (W2.alloc (.cells #[.bool burnt] 4)) (hideM (hideM M w.heap.size) W2.heap.size) B a2 hro (hide_alloc hL2 _) (hGl _) (hcaps _ _ _ _ hca)).mono fun e W3 h => ?_
   obtain ⟨u, B3, rfl, hF3, hL3, hu, hB3a, hB3b⟩ := h
   simp only [retA, RelV, RelVs] at hu
   obtain ⟨arr, rfl, ha⟩ := hu
   obtain rfl : arr = #[] := Array.ext' ha
   have hB : B3 = B := by
    have l1 := hL3.len
    have l2 := hL.len
    refine List.ext_getElem? fun id => ?_
    rcases Nat.lt_or_ge id (X.length + 2) with h | h
    ·refine hB3b id (by simpa using h) ?_
     match id, h with
     | 0, _ => exact (by decide : (1 : Nat) ≠ 3)
     | 1, _ => exact (by decide : (2 : Nat) ≠ 3)
     | id + 2, h => exact hX id (by omega)
    ·rw [List.getElem?_eq_none (by rw [l1]; simp; omega), List.getElem?_eq_none (by rw [l2]; simp; omega)]
   subst hB
   have hbE : W3.heap[w.heap.size]? = some (.cells #[.int .i64 0] 28) := by
    rw [hF3.block _ (by simp; omega) (hNB _ (Nat.le_refl _)), Below.heap_alloc _ _ _ (by omega), hF2.block _ (by simp) (hNB _ (Nat.le_refl _))]
    exact hanew w _
   have hbB : W3.heap[W2.heap.size]? = some (.cells #[.bool burnt] 4) := by
    rw [hF3.block _ (by simp) (hNB _ (by omega))]
    exact hanew W2 _
   have hs3 := hF3.size
   refine ⟨rfl, by simp [World.cell?, hbE], by simp [World.frozen?, hbE], by simp [World.cell?, hbB], by omega, Lib.hid ⟨⟨?_, ?_, ?_, ?_, fun k hk hn => ?_⟩, ?_, unhide hL3⟩⟩
   ·rw [hF3.os]; exact hF2.os
   ·rw [hF3.tape]; exact hF2.tape
   ·rw [hF3.output]; exact hF2.output
   ·simp at hs3; omega
   ·rw [hF3.block k (by simp; omega) hn, Below.heap_alloc _ _ _ (by omega), hF2.block k (by simp; omega) hn, Below.heap_alloc _ _ _ hk]
   ·simp at hs3; omega
  rcases hbl0 with rfl | ⟨rfl, rfl⟩
  ·go_enter_defers Try.func22, Try.ntmps22
   go_wp2_with (go_at_call 45; refine cbn2.mono ?_; rintro e W2 ⟨rfl, hF2, hL2⟩)
   refine (cdo _ hF2 hL2).mono ?_
   clear hF2 hL2 cdo cbn2 hL1 hS1
   rintro e W3 ⟨rfl, hc1, hc2, hc3, hne, hH⟩
   go_wp2
   refine leaves_cons (f := 46) (args := #[.pointer (some ⟨W2.heap.size, 0, none⟩), .pointer (some ⟨w.heap.size, 0, none⟩)]) (by simp) (by simp [go_sem]) ?_
   refine (lateF _ _ .returning _ (by rw [cellOther _ hne]; exact hc3)).mono ?_
   rintro e u' w'' ⟨rfl, rfl, rfl⟩
   obtain ⟨hF, hlt, hR⟩ := hH
   have hh : ∀ k, k < W3.heap.size → k ≠ w.heap.size → (W3.setCell ⟨w.heap.size, 0, none⟩ (.int .i64 0)).heap[k]? = W3.heap[k]? := fun k _ hk => setCell_heap_ne _ _ _ hk
   have hR2 := unhide (hidden (.inr rfl) (by rw [setCell_size]; exact Nat.le_refl _) hh hR)
   refine ⟨.int .i64 0, by simp [results, Try.results22, go_sem, cellSame _ hc1], .int .i64 0, rfl, frmSet hF _ (Nat.le_refl _), B, hR2, ⟨rfl, rfl⟩, fun id b h => .inr ⟨id, b, h, rfl⟩, fun _ _ _ => rfl⟩
  ·go_enter_defers Try.func22, Try.ntmps22
   go_wp2_with (go_at_call 45; refine cbn2.mono ?_; rintro e W2 ⟨rfl, hF2, hL2⟩)
   refine (cdo _ hF2 hL2).mono ?_
   clear hF2 hL2 cdo cbn2 hL1 hS1
   rintro e W3 ⟨rfl, hc1, hc2, hc3, hne, hH⟩
   go_wp2
   have hc4 := cellSame (.int .i64 0) hc1
   refine leaves_cons (f := 46) (args := #[.pointer (some ⟨W2.heap.size, 0, none⟩), .pointer (some ⟨w.heap.size, 0, none⟩)]) (by simp) (by simp [go_sem]) ?_
   refine (lateT _ _ .returning _ 0 (by rw [cellOther _ hne]; exact hc3) hc4 (by rw [World.frozen?_setCell]; exact hc2)).mono ?_
   rintro e u' w'' ⟨rfl, rfl, rfl⟩
   obtain ⟨hF, hlt, hR⟩ := hH
   have hh : ∀ k, k < W3.heap.size → k ≠ w.heap.size → ((W3.setCell ⟨w.heap.size, 0, none⟩ (.int .i64 0)).setCell ⟨w.heap.size, 0, none⟩ (.int .i64 21)).heap[k]? = W3.heap[k]? := fun k _ hk => (setCell_heap_ne _ _ _ hk).trans (setCell_heap_ne _ _ _ hk)
   have hR2 := unhide (hidden (.inr rfl) (by rw [setCell_size, setCell_size]; exact Nat.le_refl _) hh hR)
   refine ⟨.int .i64 21, by simp [results, Try.results22, go_sem, cellSame _ hc4], .int .i64 21, rfl, frmSet (frmSet hF _ (Nat.le_refl _)) _ (Nat.le_refl _), B, hR2, ⟨rfl, rfl⟩, fun id b h => .inr ⟨id, b, h, rfl⟩, fun _ _ _ => rfl⟩
set_option maxHeartbeats 4000000 in
theorem gChangeSync (fuse fuse' ops ops' : Int) (dead dead' : Bool) (m m' : List (Value × AV)) (X : List AO) (caps : List AV) (burnt late : Bool) (hbl : burnt = true → late = true)
  (hX : ∀ i, i < X.length → (getO X i).kd ≠ 3) (hcaps : ∀ B S S' us, RelVs B S caps us → RelVs B S' caps us)
  (hbn : GCall Try.prog gl 45 (dskB fuse dead ops :: .mp m :: X) [.ptr 0 0] (dskB fuse' dead' ops' :: .mp m :: X) [boolA burnt])
  (hdo : GCall Try.prog gl 23 (dskB fuse' dead' ops' :: .mp m :: X) caps (dskB fuse' dead' ops' :: .mp m' :: X) []) :
  GCall Try.prog gl 22 (dskB fuse dead ops :: .mp m :: X) [.ptr 0 0, boolA late, .fn 23 [] caps] (dskB fuse' dead' ops' :: .mp m' :: X) [intA .i64 (if burnt then 21 else 0)] where
 callable := ⟨_, Try.func22, by kernel_rfl, by kernel_rfl⟩
 len := Nat.le_refl _
 kinds := fun i hi => by
  match i, hi with
  | 0, _ => rfl
  | 1, _ => rfl
  | i + 2, _ => rfl
 livep := hbn.livep
 liveq := hdo.liveq
 run := fun w M B vals hro hL hG hv => by
  obtain ⟨u0, r0, e0, h0, hv⟩ := pushA hv
  obtain ⟨u1, r1, rfl, h1, hv⟩ := pushA hv
  obtain ⟨u2, r2, rfl, h2, hv⟩ := pushA hv
  simp only [RelVs] at hv
  subst hv
  simp only [RelV, RepC, RelVs] at h0 h1 h2
  obtain ⟨bi, hbi, rfl⟩ := h0
  obtain ⟨rfl, _⟩ := h1
  obtain ⟨a1, a2, rfl, ea, hca⟩ := h2
  obtain rfl : a1 = #[] := Array.ext' ea
  obtain rfl : vals = #[.pointer (some ⟨bi.b, bi.o + 0, none⟩), .bool late, .func (.func 23) #[] a2] := Array.ext' e0
  have hmf : ∀ (fn : Fn) (first cap : Array Value) (w : World), (Instr.makeFunc fn first cap).run Try.prog w = .ok (.func fn first cap) w := fun _ _ _ _ => rfl
  have hnot : ∀ (x : Bool) (w : World), (Op.unary .not (.bool x)).run Try.prog w = .ok (.bool (!x)) w := fun _ _ => rfl
  -- the result's variable
  have hL1 := hide_alloc hL (.cells #[.int .i64 0] 28)
  have hS1 := Sr_hide_alloc (M := M) (B := B) (L := dskB fuse dead ops :: .mp m :: X) (w := w) (.cells #[.int .i64 0] 28)
  have cbn := hbn.run (w.alloc (.cells #[.int .i64 0] 28)) (hideM M w.heap.size) B #[.pointer (some ⟨bi.b, bi.o + 0, none⟩)] hro hL1 (GlOk.mono hS1 hG) (by
   simp only [RelVs, RelV]
   exact ⟨_, _, rfl, ⟨bi, hbi, rfl⟩, rfl⟩)
  have cbn2 : Calls Try.prog 45 #[.pointer (some ⟨bi.b, bi.o + 0, none⟩)] (w.alloc (.cells #[.int .i64 0] 28)) fun e W2 => e = .returned (.bool burnt) ∧ Frm (Bl B) (w.alloc (.cells #[.int .i64 0] 28)) W2 ∧ RelL (hideM M w.heap.size) B (dskB fuse' dead' ops' :: .mp m :: X) W2 := cbn.mono fun e W2 h => by
   obtain ⟨u, B2, rfl, hF2, hL2, hu, hB2a, hB2b⟩ := h
   simp only [retA, RelV, RepC] at hu
   obtain ⟨rfl, _⟩ := hu
   have hB : B2 = B := by
    have l1 := hL2.len
    have l2 := hL.len
    refine List.ext_getElem? fun id => ?_
    rcases Nat.lt_or_ge id (X.length + 2) with h | h
    ·refine hB2b id (by simpa using h) ?_
     match id, h with
     | 0, _ => exact (by decide : (1 : Nat) ≠ 3)
     | 1, _ => exact (by decide : (2 : Nat) ≠ 3)
     | id + 2, h => exact hX id (by omega)
    ·rw [List.getElem?_eq_none (by rw [l1]; simp; omega), List.getElem?_eq_none (by rw [l2]; simp; omega)]
   subst hB
   exact ⟨rfl, hF2, hL2⟩
  clear cbn
  have hbl0 : burnt = false ∨ (burnt = true ∧ late = true) := by cases burnt <;> simp_all
  have hGl : ∀ S, GlOk gl S := fun S g => trivial
  have cdo : ∀ W2, Frm (Bl B) (w.alloc (.cells #[.int .i64 0] 28)) W2 → RelL (hideM M w.heap.size) B (dskB fuse' dead' ops' :: .mp m :: X) W2 →
    Calls Try.prog 23 a2 (W2.alloc (.cells #[.bool burnt] 4)) fun e W3 => e = .returned (.tuple #[]) ∧ W3.cell? ⟨w.heap.size, 0, none⟩ = some (.int .i64 0) ∧ W3.frozen? ⟨w.heap.size, 0, none⟩ = false ∧
     W3.cell? ⟨W2.heap.size, 0, none⟩ = some (.bool burnt) ∧ ¬ W2.heap.size = w.heap.size ∧ RowKit.Hid (Frm (Bl B) w W3 ∧ w.heap.size < W3.heap.size ∧ RelL (hideM M w.heap.size) B (dskB fuse' dead' ops' :: .mp m' :: X) W3) := fun W2 hF2 hL2 => by
   have hs2 : w.heap.size + 1 ≤ W2.heap.size := by have := hF2.size; simpa using this
   have hNB : ∀ k, w.heap.size ≤ k → ¬ Bl B k := fun k hk ⟨id, b, h1, h2⟩ => by have := hL.bnd id b h1; omega
   refine (hdo.run (W2.alloc (.cells #[.bool burnt] 4)) (hideM (hideM M w.heap.size) W2.heap.size) B a2 hro (hide_alloc hL2 _) (hGl _) (hcaps _ _ _ _ hca)).mono fun e W3 h => ?_
   obtain ⟨u, B3, rfl, hF3, hL3, hu, hB3a, hB3b⟩ := h
   simp only [retA, RelV, RelVs] at hu
   obtain ⟨arr, rfl, ha⟩ := hu
   obtain rfl : arr = #[] := Array.ext' ha
   have hB : B3 = B := by
    have l1 := hL3.len
    have l2 := hL.len
    refine List.ext_getElem? fun id => ?_
    rcases Nat.lt_or_ge id (X.length + 2) with h | h
    ·refine hB3b id (by simpa using h) ?_
     match id, h with
     | 0, _ => exact (by decide : (1 : Nat) ≠ 3)
     | 1, _ => exact (by decide : (2 : Nat) ≠ 3)
     | id + 2, h => exact hX id (by omega)
    ·rw [List.getElem?_eq_none (by rw [l1]; simp; omega), List.getElem?_eq_none (by rw [l2]; simp; omega)]
   subst hB
   have hbE : W3.heap[w.heap.size]? = some (.cells #[.int .i64 0] 28) := by
    rw [hF3.block _ (by simp; omega) (hNB _ (Nat.le_refl _)), Below.heap_alloc _ _ _ (by omega), hF2.block _ (by simp) (hNB _ (Nat.le_refl _))]
    exact hanew w _
   have hbB : W3.heap[W2.heap.size]? = some (.cells #[.bool burnt] 4) := by
    rw [hF3.block _ (by simp) (hNB _ (by omega))]
    exact hanew W2 _
   have hs3 := hF3.size
   refine ⟨rfl, by simp [World.cell?, hbE], by simp [World.frozen?, hbE], by simp [World.cell?, hbB], by omega, Lib.hid ⟨⟨?_, ?_, ?_, ?_, fun k hk hn => ?_⟩, ?_, unhide hL3⟩⟩
   ·rw [hF3.os]; exact hF2.os
   ·rw [hF3.tape]; exact hF2.tape
   ·rw [hF3.output]; exact hF2.output
   ·simp at hs3; omega
   ·rw [hF3.block k (by simp; omega) hn, Below.heap_alloc _ _ _ (by omega), hF2.block k (by simp; omega) hn, Below.heap_alloc _ _ _ hk]
   ·simp at hs3; omega
  rcases hbl0 with rfl | ⟨rfl, rfl⟩
  ·go_enter_defers Try.func22, Try.ntmps22
   go_wp2_with (go_at_call 45; refine cbn2.mono ?_; rintro e W2 ⟨rfl, hF2, hL2⟩)
   refine (cdo _ hF2 hL2).mono ?_
   clear hF2 hL2 cdo cbn2 hL1 hS1
   rintro e W3 ⟨rfl, hc1, hc2, hc3, hne, hH⟩
   go_wp2
   refine leaves_cons (f := 46) (args := #[.pointer (some ⟨W2.heap.size, 0, none⟩), .pointer (some ⟨w.heap.size, 0, none⟩)]) (by simp) (by simp [go_sem]) ?_
   refine (lateF _ _ .returning _ (by rw [cellOther _ hne]; exact hc3)).mono ?_
   rintro e u' w'' ⟨rfl, rfl, rfl⟩
   obtain ⟨hF, hlt, hR⟩ := hH
   have hh : ∀ k, k < W3.heap.size → k ≠ w.heap.size → (W3.setCell ⟨w.heap.size, 0, none⟩ (.int .i64 0)).heap[k]? = W3.heap[k]? := fun k _ hk => setCell_heap_ne _ _ _ hk
   have hR2 := unhide (hidden (.inr rfl) (by rw [setCell_size]; exact Nat.le_refl _) hh hR)
   refine ⟨.int .i64 0, by simp [results, Try.results22, go_sem, cellSame _ hc1], .int .i64 0, rfl, frmSet hF _ (Nat.le_refl _), B, hR2, ⟨rfl, rfl⟩, fun id b h => .inr ⟨id, b, h, rfl⟩, fun _ _ _ => rfl⟩
  ·go_enter_defers Try.func22, Try.ntmps22
   go_wp2_with (go_at_call 45; refine cbn2.mono ?_; rintro e W2 ⟨rfl, hF2, hL2⟩)
   refine (cdo _ hF2 hL2).mono ?_
   clear hF2 hL2 cdo cbn2 hL1 hS1
   rintro e W3 ⟨rfl, hc1, hc2, hc3, hne, hH⟩
   go_wp2
   have hc4 := cellSame (.int .i64 0) hc1
   refine leaves_cons (f := 46) (args := #[.pointer (some ⟨W2.heap.size, 0, none⟩), .pointer (some ⟨w.heap.size, 0, none⟩)]) (by simp) (by simp [go_sem]) ?_
   refine (lateT _ _ .returning _ 0 (by rw [cellOther _ hne]; exact hc3) hc4 (by rw [World.frozen?_setCell]; exact hc2)).mono ?_
   rintro e u' w'' ⟨rfl, rfl, rfl⟩
   obtain ⟨hF, hlt, hR⟩ := hH
   have hh : ∀ k, k < W3.heap.size → k ≠ w.heap.size → ((W3.setCell ⟨w.heap.size, 0, none⟩ (.int .i64 0)).setCell ⟨w.heap.size, 0, none⟩ (.int .i64 21)).heap[k]? = W3.heap[k]? := fun k _ hk => (setCell_heap_ne _ _ _ hk).trans (setCell_heap_ne _ _ _ hk)
   have hR2 := unhide (hidden (.inr rfl) (by rw [setCell_size, setCell_size]; exact Nat.le_refl _) hh hR)
   refine ⟨.int .i64 21, by simp [results, Try.results22, go_sem, cellSame _ hc4], .int .i64 21, rfl, frmSet (frmSet hF _ (Nat.le_refl _)) _ (Nat.le_refl _), B, hR2, ⟨rfl, rfl⟩, fun id b h => .inr ⟨id, b, h, rfl⟩, fun _ _ _ => rfl⟩
end Go.Proofs.Ytndacaemcakmkaa

namespace Go.Proofs.Ytndacaemcakmkaa
set_option linter.unusedSimpArgs false
set_option linter.unusedVariables false
set_option maxRecDepth 100000
set_option maxHeartbeats 8000000
open Go Go.VA Go.RowKit
/-! ### changes -/
abbrev xP (s : ByteArray) (n : Nat) (f : Nat → List C) : List AO := [.box [.ptr 0 0], .box [.c (.v (.string s))], .box [.c (.sl false 1 n f)]]
abbrev xS (s : ByteArray) : List AO := [.box [.ptr 0 0], .box [.c (.v (.string s))]]
theorem gBurnP0 (s : ByteArray) (n : Nat) (f : Nat → List C) (dead : Bool) (ops : Int) (m : List (Value × AV)) : GCall Try.prog gl 45 (dskB 0 dead ops :: .mp m :: xP s n f) [.ptr 0 0] (dskB 0 dead (IntKind.i64.wrap (ops + 1)) :: .mp m :: xP s n f) [boolA false] := by
 refine gcall_of_vcb htb hmix (f := 45) rfl rfl rfl (by kernel_rfl) rfl rfl rfl fun hb hb2 => ?_; simp only [bndOs, bndO, gbnds, AV.gbnd, bnds, C.bnd, true_and, and_true] at hb hb2; conv => whnf
 repeat' (first | (refine And.intro (fun h => ?_) (fun h => ?_) <;> (first | skip) <;> (first | exact absurd h (by decide) | (conv => whnf))) | (refine And.intro ?_ ?_; (focus (first | exact rfl | fail)); conv => whnf) | fail)
 all_goals try (exfalso; revert h; decide)
 ((conv => whnf); repeat' (first | exact trivial | exact rfl | exact LeC.refl _ | ((with_reducible refine And.intro ?_ ?_) <;> conv => whnf)))
 all_goals exact LeMs.refl _
theorem gBurnPN (s : ByteArray) (n : Nat) (f : Nat → List C) (fuse : Int) (hf : (fuse == 0) = false) (dead : Bool) (ops : Int) (m : List (Value × AV)) : GCall Try.prog gl 45 (dskB fuse dead ops :: .mp m :: xP s n f) [.ptr 0 0] (dskB (IntKind.i64.wrap (fuse - 1)) (IntKind.i64.wrap (fuse - 1) == 0) (IntKind.i64.wrap (ops + 1)) :: .mp m :: xP s n f) [boolA (IntKind.i64.wrap (fuse - 1) == 0)] := by
 refine gcall_of_vcb htb hmix (f := 45) rfl rfl rfl (by kernel_rfl) rfl rfl rfl fun hb hb2 => ?_; simp only [bndOs, bndO, gbnds, AV.gbnd, bnds, C.bnd, true_and, and_true] at hb hb2; conv => whnf
 repeat' (first | (refine And.intro (fun h => ?_) (fun h => ?_) <;> (first | skip) <;> (first | (conv => whnf))) | (refine And.intro ?_ ?_; (focus (first | exact rfl | fail)); conv => whnf) | fail)
 all_goals try (exact absurd (hf.symm.trans h) (by decide))
 ((conv => whnf); repeat' (first | exact trivial | exact rfl | exact LeC.refl _ | ((with_reducible refine And.intro ?_ ?_) <;> conv => whnf)))
 all_goals exact LeMs.refl _
theorem gBurnS0 (s : ByteArray)  (dead : Bool) (ops : Int) (m : List (Value × AV)) : GCall Try.prog gl 45 (dskB 0 dead ops :: .mp m :: xS s) [.ptr 0 0] (dskB 0 dead (IntKind.i64.wrap (ops + 1)) :: .mp m :: xS s) [boolA false] := by
 refine gcall_of_vcb htb hmix (f := 45) rfl rfl rfl (by kernel_rfl) rfl rfl rfl fun hb hb2 => ?_; simp only [bndOs, bndO, gbnds, AV.gbnd, bnds, C.bnd, true_and, and_true] at hb hb2; conv => whnf
 repeat' (first | (refine And.intro (fun h => ?_) (fun h => ?_) <;> (first | skip) <;> (first | exact absurd h (by decide) | (conv => whnf))) | (refine And.intro ?_ ?_; (focus (first | exact rfl | fail)); conv => whnf) | fail)
 all_goals try (exfalso; revert h; decide)
 ((conv => whnf); repeat' (first | exact trivial | exact rfl | exact LeC.refl _ | ((with_reducible refine And.intro ?_ ?_) <;> conv => whnf)))
 all_goals exact LeMs.refl _
theorem gBurnSN (s : ByteArray)  (fuse : Int) (hf : (fuse == 0) = false) (dead : Bool) (ops : Int) (m : List (Value × AV)) : GCall Try.prog gl 45 (dskB fuse dead ops :: .mp m :: xS s) [.ptr 0 0] (dskB (IntKind.i64.wrap (fuse - 1)) (IntKind.i64.wrap (fuse - 1) == 0) (IntKind.i64.wrap (ops + 1)) :: .mp m :: xS s) [boolA (IntKind.i64.wrap (fuse - 1) == 0)] := by
 refine gcall_of_vcb htb hmix (f := 45) rfl rfl rfl (by kernel_rfl) rfl rfl rfl fun hb hb2 => ?_; simp only [bndOs, bndO, gbnds, AV.gbnd, bnds, C.bnd, true_and, and_true] at hb hb2; conv => whnf
 repeat' (first | (refine And.intro (fun h => ?_) (fun h => ?_) <;> (first | skip) <;> (first | (conv => whnf))) | (refine And.intro ?_ ?_; (focus (first | exact rfl | fail)); conv => whnf) | fail)
 all_goals try (exact absurd (hf.symm.trans h) (by decide))
 ((conv => whnf); repeat' (first | exact trivial | exact rfl | exact LeC.refl _ | ((with_reducible refine And.intro ?_ ?_) <;> conv => whnf)))
 all_goals exact LeMs.refl _
theorem gPut (fuse fuse' ops ops' : Int) (dead dead' burnt : Bool) (s : ByteArray) (m : List (Value × AV)) (hm : mOk (tb 9).k m = true) (x z : C) (b : Bool) (hq : mFnd s m (fl x z, b)) (n : Nat) (f : Nat → List C) (hn : n ≤ 262144)
  (hbn : GCall Try.prog gl 45 (dskB fuse dead ops :: .mp m :: xP s n f) [.ptr 0 0] (dskB fuse' dead' ops' :: .mp m :: xP s n f) [boolA burnt]) :
  GCall Try.prog gl 19 [dskB fuse dead ops, .mp m] [.ptr 0 0, .c (.v (.string s)), .c (.sl false 1 n f)]
   [dskB fuse' dead' ops', .mp (mPut (.string s) (fl (.sl false 1 n f) z) m)] [intA .i64 (if burnt then 21 else 0)] := by
 have G := gChangePut fuse fuse' ops ops' dead dead' m (mPut (.string s) (fl (.sl false 1 n f) z) m) (xP s n f) [.ptr 2 0, .ptr 3 0, .ptr 4 0] burnt true (fun _ => rfl) (fun i hi => by
  match i, hi with
  | 0, _ => exact (by decide : (1 : Nat) ≠ 3)
  | 1, _ => exact (by decide : (1 : Nat) ≠ 3)
  | 2, _ => exact (by decide : (1 : Nat) ≠ 3)) (fun B S S' us h => by simpa only [RelVs, RelV] using h) hbn (gPut1 fuse' dead' ops' s m hm x z b hq n f)
 refine gcall_of_vcb htb hmix (f := 19) rfl rfl rfl (by kernel_rfl) rfl rfl rfl fun hb hb2 => ?_; simp only [bndOs, bndO, gbnds, AV.gbnd, bnds, C.bnd, true_and, and_true] at hb hb2; conv => whnf
 repeat' (first | (refine And.intro (fun h => ?_) (fun h => ?_) <;> (first | (with_reducible have hd : _ < _ := of_decide_eq_true h) | (with_reducible have hd : ¬ (_ < _) := of_decide_eq_false h) | fail) <;> (first | (conv => whnf))) | (refine And.intro ?_ ?_; (focus (first | exact rfl | (intro _; (first | omega | fail)) | (first | omega | fail) | fail)); conv => whnf) | ((with_reducible refine xc_guard ?_); (first | (refine xc_g (G) false (by first | (((conv => whnf); repeat' (first | exact trivial | exact rfl | exact LeC.refl _ | exact LeMs.refl _ | ((with_reducible refine And.intro ?_ ?_) <;> conv => whnf))); done) | fail) trivial ?_) | fail); conv => whnf) | fail)
 all_goals try (exfalso; omega)
 ((conv => whnf); repeat' (first | exact trivial | exact rfl | exact LeC.refl _ | ((with_reducible refine And.intro ?_ ?_) <;> conv => whnf)))
 all_goals exact LeMs.refl _
end Go.Proofs.Ytndacaemcakmkaa

namespace Go.Proofs.Ytndacaemcakmkaa
set_option linter.unusedSimpArgs false
set_option linter.unusedVariables false
set_option maxRecDepth 100000
set_option maxHeartbeats 8000000
open Go Go.VA Go.RowKit
theorem oneS (s : ByteArray) (i : Nat) (hi : i < 1) : nthC [[C.v (.string s)]] i = [C.v (.string s)] := by
 have : i = 0 := Nat.lt_one_iff.1 hi
 subst this
 rfl
theorem gNames (t : Bool) (n : Nat) (l : Nat → ByteArray) (f : Nat → List C) (hf : ∀ i, i < n → f i = [.v (.string (l i))]) (hw : ∀ i, i < n → wordB (l i) = true) (fuse : Int) (ops : Int) (m : List (Value × AV)) :
  GCall Try.prog gl 18 [dskB fuse false ops, .mp m] [.ptr 0 0, .c (.sl t 1 n f)] [dskB fuse false ops, .mp m] [intA .i64 0] := by
 refine gcall_of_vcb htb hmix (f := 18) rfl rfl rfl (by kernel_rfl) rfl rfl rfl fun hb hb2 => ?_; simp only [bndOs, bndO, gbnds, AV.gbnd, bnds, C.bnd, true_and, and_true] at hb hb2; conv => whnf
 repeat' (first | (refine Exists.intro _ (And.intro (aContW t n l f hf hw) ?_); conv => whnf) | (refine And.intro (fun h => ?_) (fun h => ?_) <;> (first | skip) <;> (first | exact absurd h (by decide) | (conv => whnf))) | (refine And.intro ?_ ?_; (focus (first | exact rfl | fail)); conv => whnf) | ((with_reducible refine xc_pure ?_); conv => whnf))
 all_goals try (exfalso; revert h; decide)
 ((conv => whnf); repeat' (first | exact trivial | exact rfl | exact LeC.refl _ | ((with_reducible refine And.intro ?_ ?_) <;> conv => whnf)))
 all_goals exact LeMs.refl _
theorem gThere (s : ByteArray) (m : List (Value × AV)) (hm : mOk (tb 9).k m = true) (x z : C) (hq : mFnd s m (fl x z, true)) (fuse : Int) (dead : Bool) (ops : Int) :
  GCall Try.prog gl 21 [dskB fuse dead ops, .mp m] [.ptr 0 0, .c (.v (.string s))] [dskB fuse dead ops, .mp m] [intA .i64 0] := by
 refine gcall_of_vcb htb hmix (f := 21) rfl rfl rfl (by kernel_rfl) rfl rfl rfl fun hb hb2 => ?_; simp only [bndOs, bndO, gbnds, AV.gbnd, bnds, C.bnd, true_and, and_true] at hb hb2; conv => whnf
 repeat' (first | (refine Exists.intro _ (And.intro (hq) ?_); conv => whnf) | (refine And.intro (fun h => ?_) (fun h => ?_) <;> (first | skip) <;> (first | exact absurd h (by decide) | (conv => whnf))) | (refine And.intro ?_ ?_; (focus (first | exact rfl | (first | assumption) | fail)); conv => whnf) | fail)
 all_goals try (exfalso; revert h; decide)
 ((conv => whnf); repeat' (first | exact trivial | exact rfl | exact LeC.refl _ | ((with_reducible refine And.intro ?_ ?_) <;> conv => whnf)))
 all_goals exact LeMs.refl _
theorem gWrite (fuse fuse' ops ops' : Int) (dead' burnt : Bool) (s : ByteArray) (hs : wordB s = true) (m : List (Value × AV)) (hm : mOk (tb 9).k m = true) (x z : C) (b : Bool) (hq : mFnd s m (fl x z, b)) (t : Bool) (n : Nat) (f : Nat → List C) (hn : n ≤ 262144)
  (hbn : GCall Try.prog gl 45 (dskB fuse false ops :: .mp m :: xP s n f) [.ptr 0 0] (dskB fuse' dead' ops' :: .mp m :: xP s n f) [boolA burnt]) :
  GCall Try.prog gl 9 [dskB fuse false ops, .mp m] [.ptr 0 0, .c (.v (.string s)), .c (.sl t 1 n f)]
   [dskB fuse' dead' ops', .mp (mPut (.string s) (fl (.sl false 1 n f) z) m)] [intA .i64 (if burnt then 21 else 0)] := by
 have G := gPut fuse fuse' ops ops' false dead' burnt s m hm x z b hq n f hn hbn
 have N := gNames false 1 (fun _ => s) (nthC [[C.v (.string s)]]) (oneS s) (fun i _ => hs) fuse ops m
 refine gcall_of_vcb htb hmix (f := 9) rfl rfl rfl (by kernel_rfl) rfl rfl rfl fun hb hb2 => ?_; simp only [bndOs, bndO, gbnds, AV.gbnd, bnds, C.bnd, true_and, and_true] at hb hb2; conv => whnf
 repeat' (first | (refine Exists.intro _ (And.intro (aCloneD t n f) ?_); conv => whnf) | (refine And.intro (fun h => ?_) (fun h => ?_) <;> (first | skip) <;> (first | exact absurd h (by decide) | (conv => whnf))) | ((with_reducible refine OwnOr.l ?_); (conv => whnf)) | (refine And.intro ?_ ?_; (focus (first | exact rfl | fail)); conv => whnf) | ((with_reducible refine xc_guard ?_); (first | (refine xc_g (G) false (by first | (((conv => whnf); repeat' (first | exact trivial | exact rfl | exact LeC.refl _ | exact LeMs.refl _ | ((with_reducible refine And.intro ?_ ?_) <;> conv => whnf))); done) | fail) trivial ?_) | fail); conv => whnf) | ((with_reducible refine xc_guard ?_); (first | (refine xc_g (N) false (by first | (((conv => whnf); repeat' (first | exact trivial | exact rfl | exact LeC.refl _ | exact LeMs.refl _ | ((with_reducible refine And.intro ?_ ?_) <;> conv => whnf))); done) | fail) trivial ?_) | fail); conv => whnf) | ((with_reducible refine xc_pure ?_); conv => whnf))
 all_goals try (exfalso; revert h; decide)
 ((conv => whnf); repeat' (first | exact trivial | exact rfl | exact LeC.refl _ | ((with_reducible refine And.intro ?_ ?_) <;> conv => whnf)))
 all_goals exact LeMs.refl _
theorem gSync (fuse fuse' ops ops' : Int) (dead' : Bool) (s : ByteArray) (hs : wordB s = true) (m : List (Value × AV)) (hm : mOk (tb 9).k m = true) (x z : C) (hq : mFnd s m (fl x z, true))
  (hbn : GCall Try.prog gl 45 (dskB fuse false ops :: .mp m :: xS s) [.ptr 0 0] (dskB fuse' dead' ops' :: .mp m :: xS s) [boolA false]) :
  GCall Try.prog gl 10 [dskB fuse false ops, .mp m] [.ptr 0 0, .c (.v (.string s))] [dskB fuse' dead' ops', .mp (mPut (.string s) (fl x x) m)] [intA .i64 0] := by
 have N := gNames false 1 (fun _ => s) (nthC [[C.v (.string s)]]) (oneS s) (fun i _ => hs) fuse ops m
 have T := gThere s m hm x z hq fuse false ops
 have G := gChangeSync fuse fuse' ops ops' false dead' m (mPut (.string s) (fl x x) m) (xS s) [.ptr 2 0, .ptr 3 0] false false (fun h => h) (fun i hi => by
  match i, hi with
  | 0, _ => exact (by decide : (1 : Nat) ≠ 3)
  | 1, _ => exact (by decide : (1 : Nat) ≠ 3)) (fun B S S' us h => by simpa only [RelVs, RelV] using h) hbn (gSync1 fuse' dead' ops' s m hm x z true hq)
 refine gcall_of_vcb htb hmix (f := 10) rfl rfl rfl (by kernel_rfl) rfl rfl rfl fun hb hb2 => ?_; simp only [bndOs, bndO, gbnds, AV.gbnd, bnds, C.bnd, true_and, and_true] at hb hb2; conv => whnf
 repeat' (first | (refine And.intro (fun h => ?_) (fun h => ?_) <;> (first | skip) <;> (first | exact absurd h (by decide) | (conv => whnf))) | ((with_reducible refine OwnOr.l ?_); (conv => whnf)) | (refine And.intro ?_ ?_; (focus (first | exact rfl | fail)); conv => whnf) | ((with_reducible refine xc_guard ?_); (first | (refine xc_g (G) false (by first | (((conv => whnf); repeat' (first | exact trivial | exact rfl | exact LeC.refl _ | exact LeMs.refl _ | ((with_reducible refine And.intro ?_ ?_) <;> conv => whnf))); done) | fail) trivial ?_) | fail); conv => whnf) | ((with_reducible refine xc_guard ?_); (first | (refine xc_g (N) false (by first | (((conv => whnf); repeat' (first | exact trivial | exact rfl | exact LeC.refl _ | exact LeMs.refl _ | ((with_reducible refine And.intro ?_ ?_) <;> conv => whnf))); done) | fail) trivial ?_) | fail); conv => whnf) | ((with_reducible refine xc_guard ?_); (first | (refine xc_g (T) false (by first | (((conv => whnf); repeat' (first | exact trivial | exact rfl | exact LeC.refl _ | exact LeMs.refl _ | ((with_reducible refine And.intro ?_ ?_) <;> conv => whnf))); done) | fail) trivial ?_) | fail); conv => whnf) | fail)
 all_goals try (exfalso; revert h; decide)
 ((conv => whnf); repeat' (first | exact trivial | exact rfl | exact LeC.refl _ | ((with_reducible refine And.intro ?_ ?_) <;> conv => whnf)))
 all_goals exact LeMs.refl _
theorem gRead (fuse ops : Int) (dead : Bool) (s : ByteArray) (m : List (Value × AV)) (hm : mOk (tb 9).k m = true) (n : Nat) (f : Nat → List C) (z : C) (hq : mFnd s m (fl (.sl false 1 n f) z, true)) :
  GCall Try.prog gl 12 [dskB fuse dead ops, .mp m] [.ptr 0 0, .c (.v (.string s))] [dskB fuse dead ops, .mp m] [.c (.sl false 1 n f), intA .i64 0] := by
 have T := gThere s m hm (.sl false 1 n f) z hq fuse dead ops
 refine gcall_of_vcb htb hmix (f := 12) rfl rfl rfl (by kernel_rfl) rfl rfl rfl fun hb hb2 => ?_; simp only [bndOs, bndO, gbnds, AV.gbnd, bnds, C.bnd, true_and, and_true] at hb hb2; conv => whnf
 repeat' (first | (refine Exists.intro _ (And.intro (aCloneD false n f) ?_); conv => whnf) | (refine Exists.intro _ (And.intro (hq) ?_); conv => whnf) | (refine And.intro (fun h => ?_) (fun h => ?_) <;> (first | skip) <;> (first | exact absurd h (by decide) | (conv => whnf))) | ((with_reducible refine NilOr.l ?_); conv => whnf) | (refine And.intro ?_ ?_; (focus (first | exact rfl | (first | assumption) | fail)); conv => whnf) | ((with_reducible refine xc_guard ?_); (first | (refine xc_g (T) false (by first | (((conv => whnf); repeat' (first | exact trivial | exact rfl | exact LeC.refl _ | exact LeMs.refl _ | ((with_reducible refine And.intro ?_ ?_) <;> conv => whnf))); done) | fail) trivial ?_) | fail); conv => whnf) | ((with_reducible refine xc_pure ?_); conv => whnf))
 all_goals try (exfalso; revert h; decide)
 ((conv => whnf); repeat' (first | exact trivial | exact rfl | exact LeC.refl _ | ((with_reducible refine And.intro ?_ ?_) <;> conv => whnf)))
 all_goals exact LeMs.refl _
theorem aConcat2 (t : Bool) (n1 n2 : Nat) (f1 f2 : Nat → List C) (h0 : 0 < n1 + n2) (hN : n1 + n2 ≤ 140737488355328) : ACall Try.prog gl 34 [.c (.sl false 1 2 (nthC [[.sl false 1 n1 f1], [.sl t 1 n2 f2]]))] [] (.c (.sl false 1 (n1 + n2) (catF 0 n1 f1 f2))) := by
 have e0 : catN (fun i => if i = 0 then (n1, f1) else (n2, f2)) 2 = n1 + n2 := by show 0 + n1 + n2 = _; omega
 have h := ACall.of_gcall (gConcat false 2 (nthC [[.sl false 1 n1 f1], [.sl t 1 n2 f2]]) (fun i => if i = 0 then false else t) (fun i => if i = 0 then (n1, f1) else (n2, f2)) (fun i hi => by
  match i, hi with
  | 0, _ => rfl
  | 1, _ => rfl) (by rw [e0]; exact h0) (by rw [e0]; exact hN))
 rw [e0] at h
 have e : (fun j => catG (fun i => if i = 0 then (n1, f1) else (n2, f2)) 2 (0 + j)) = catF 0 n1 f1 f2 := by
  funext j
  show catF 0 (0 + n1) (catF 0 0 zF f1) f2 (0 + j) = _
  unfold catF
  simp
 rw [e] at h
 exact h
theorem gAppend (fuse fuse' ops ops' : Int) (dead' burnt : Bool) (s : ByteArray) (hs : wordB s = true) (m : List (Value × AV)) (hm : mOk (tb 9).k m = true) (n1 : Nat) (f1 : Nat → List C) (z : C) (hq : mFnd s m (fl (.sl false 1 n1 f1) z, true)) (t : Bool) (n : Nat) (f : Nat → List C) (h0 : 0 < n1 + n) (hn : n1 + n ≤ 262144)
  (hbn : GCall Try.prog gl 45 (dskB fuse false ops :: .mp m :: xP s (n1 + n) (catF 0 n1 f1 f)) [.ptr 0 0] (dskB fuse' dead' ops' :: .mp m :: xP s (n1 + n) (catF 0 n1 f1 f)) [boolA burnt]) :
  GCall Try.prog gl 15 [dskB fuse false ops, .mp m] [.ptr 0 0, .c (.v (.string s)), .c (.sl t 1 n f)]
   [dskB fuse' dead' ops', .mp (mPut (.string s) (fl (.sl false 1 (n1 + n) (catF 0 n1 f1 f)) z) m)] [intA .i64 (if burnt then 21 else 0)] := by
 have G := gPut fuse fuse' ops ops' false dead' burnt s m hm (.sl false 1 n1 f1) z true hq (n1 + n) (catF 0 n1 f1 f) hn hbn
 have N := gNames false 1 (fun _ => s) (nthC [[C.v (.string s)]]) (oneS s) (fun i _ => hs) fuse ops m
 refine gcall_of_vcb htb hmix (f := 15) rfl rfl rfl (by kernel_rfl) rfl rfl rfl fun hb hb2 => ?_; simp only [bndOs, bndO, gbnds, AV.gbnd, bnds, C.bnd, true_and, and_true] at hb hb2; conv => whnf
 repeat' (first | (refine Exists.intro _ (And.intro (aConcat2 t n1 n f1 f h0 (by omega)) ?_); conv => whnf) | (refine Exists.intro _ (And.intro (hq) ?_); conv => whnf) | (refine And.intro (fun h => ?_) (fun h => ?_) <;> (first | skip) <;> (first | exact absurd h (by decide) | (conv => whnf))) | ((with_reducible refine OwnOr.l ?_); (conv => whnf)) | (refine And.intro ?_ ?_; (focus (first | exact rfl | (first | assumption) | fail)); conv => whnf) | ((with_reducible refine xc_guard ?_); (first | (refine xc_g (G) false (by first | (((conv => whnf); repeat' (first | exact trivial | exact rfl | exact LeC.refl _ | exact LeMs.refl _ | ((with_reducible refine And.intro ?_ ?_) <;> conv => whnf))); done) | fail) trivial ?_) | fail); conv => whnf) | ((with_reducible refine xc_guard ?_); (first | (refine xc_g (N) false (by first | (((conv => whnf); repeat' (first | exact trivial | exact rfl | exact LeC.refl _ | exact LeMs.refl _ | ((with_reducible refine And.intro ?_ ?_) <;> conv => whnf))); done) | fail) trivial ?_) | fail); conv => whnf) | ((with_reducible refine xc_pure ?_); conv => whnf))
 all_goals try (exfalso; revert h; decide)
 ((conv => whnf); repeat' (first | exact trivial | exact rfl | exact LeC.refl _ | ((with_reducible refine And.intro ?_ ?_) <;> conv => whnf)))
 all_goals exact LeMs.refl _
end Go.Proofs.Ytndacaemcakmkaa
