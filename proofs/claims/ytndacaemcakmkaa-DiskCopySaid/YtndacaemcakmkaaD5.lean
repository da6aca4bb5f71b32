/- Contracts of functions of the program, and the laws that stand on them: what each function answers, whatever its arguments. -/
import Derived.Test.YtndacaemcakmkaaD2
import Derived.RangeFuncNested
import Derived.RangeFuncWrites
import Derived.RangeFuncBound
import Derived.RangeFuncCalls
import Derived.RangeFuncLeaves
import Derived.RangeFuncMany
import Derived.Shelf.Abstract
import Derived.Shelf.RegionOpen
import Derived.Sort.MapsRangeIn
import Derived.Sort.KeysCollected
import Derived.WalkKit
import Derived.WalkSpells
import Derived.Laws.Externs
import Derived.MapKept
import Derived.OwnWalkIn
import Derived.TacticsInMore
import Derived.RegionIn
import Derived.LoopNIn
import Derived.LoopIn
set_option linter.unusedSectionVars false
set_option linter.unnecessarySimpa false
namespace Go.Proofs.Ytndacaemcakmkaa
set_option linter.unusedSimpArgs false
set_option linter.unusedVariables false
set_option maxRecDepth 100000
set_option maxHeartbeats 8000000
open Go Go.VA Go.RowKit Go.Maps Go.Sort Go.Shelf
open Go.Proofs (encStr)
theorem encInj {a b : List UInt8} (h : encStr a = encStr b) : a = b := by simpa [encStr] using h
/-! ### going through a map of files -/
abbrev SV := Option Addr × Nat × Nat
abbrev svV (s : SV) : Value := .slice s.1 s.2.1 s.2.2
abbrev flV (p : SV × SV) : Value := .agg #[svV p.1, svV p.2]
open Classical in
noncomputable def rF (v : Value) : Option (DataW Value × List MemPlace) := if ∃ p, v = flV p then some (.held v, []) else none
theorem rF_of (p : SV × SV) : rF (flV p) = some (.held (flV p), []) := if_pos ⟨p, rfl⟩
theorem rF_inv {v : Value} {z : DataW Value × List MemPlace} (h : rF v = some z) : ∃ p, v = flV p ∧ z = (.held v, []) := by
 unfold rF at h
 split at h
 ·rename_i hp
  obtain ⟨p, rfl⟩ := hp
  exact ⟨p, rfl, (Option.some.inj h).symm⟩
 ·cases h
theorem flV_inj {p q : SV × SV} (h : flV p = flV q) : p = q := by
 obtain ⟨⟨a, b, c⟩, a', b', c'⟩ := p
 obtain ⟨⟨d, e, f⟩, d', e', f'⟩ := q
 simp only [Value.agg.injEq, Array.mk.injEq, List.cons.injEq, Value.slice.injEq] at h
 obtain ⟨⟨rfl, rfl, rfl⟩, ⟨rfl, rfl, rfl⟩, _⟩ := h
 rfl
/-- an entry of the map: its name, its value -/
def EntOf (D0 : DataW Value) (p : List UInt8 × SV × SV) : Prop := has D0 (.string p.1) = true ∧ ∀ zd, D0.atKey (.string p.1) zd = .held (flV p.2)
abbrev Ent (D0 : DataW Value) := { p : List UInt8 × SV × SV // EntOf D0 p }
abbrev encE {D0 : DataW Value} (p : Ent D0) : Array Value := #[encStr p.1.1, flV p.1.2]
/-- what a round keeps: maps and walks from n on -/
structure KeepW (n : Nat) (W W' : World) : Prop where
 size : W.heap.size ≤ W'.heap.size
 same : ∀ (k : Nat) (o : Obj), n ≤ k → W.heap[k]? = some o → o.isWalk = true → W'.heap[k]? = some o
theorem KeepW.trans {n : Nat} {A B C : World} (h : KeepW n A B) (k : KeepW n B C) : KeepW n A C := ⟨Nat.le_trans h.size k.size, fun i o hn hi ho => k.same i o hn (h.same i o hn hi ho) ho⟩
theorem KeepW.ranges {n : Nat} {w w' : World} {k : TypeId} {R : Value → Option (DataW Value × List MemPlace)} {b r nn : Nat} {D : DataW Value} {left : Lit → Bool} {cnt : Nat}
  (h : w.ranges Try.prog k R b r nn D left cnt) (hk : KeepW n w w') (hb : n ≤ b) (hr : n ≤ r) : w'.ranges Try.prog k R b r nn D left cnt := by
 obtain ⟨es, clock, since, seen, c0, h1, F, hs, hD, h2, rest⟩ := h
 exact ⟨es, clock, since, seen, c0, hk.same b _ hb h1 rfl, F, hs, hD, hk.same r _ hr h2 rfl, rest⟩
attribute [local go_sem] Oper.semAt_some
set_option maxRecDepth 100000 in
set_option maxHeartbeats 4000000 in
theorem allF1 (F : Fence) (n : Nat) (h8 : F.fn 55) (hro : F.round = none) (hn : 1 ≤ n) (l Bm b nn n₀ : Nat) (D0 : DataW Value) (J Jx : List (Ent D0) → World → Prop)
  (hY : ∀ pre x W, J pre W → pre.length < Maps.size D0 → YieldAt F (n - 1) Try.prog l (encE x) W fun e W' =>
   (e = .returned (.bool true) ∧ J (pre ++ [x]) W' ∧ KeepW n₀ W W') ∨ (e = .returned (.bool false) ∧ Jx (pre ++ [x]) W'))
  (W : World) (hJ : AbidesFrom W.heap.size J) (hb0 : n₀ ≤ b) (hW0 : n₀ ≤ W.heap.size) (hm : W.cell? ⟨Bm, 0, none⟩ = some (.map (some b))) (hown : W.ownsMap Try.prog 9 rF b nn D0) (h0 : J [] W) :
  CallsIn F n Try.prog 55 #[.func (.yield l) #[] #[], .pointer (some ⟨Bm, 0, none⟩)] W fun e W' => (∃ v, e = .returned v) ∧
   ((∃ ps : List (Ent D0), ((ps.map (·.1.1)).Perm (strKeys D0) ∧ (∀ x, x ∈ ps.map (·.1.1) ↔ has D0 (.string x) = true)) ∧ J ps W') ∨ (∃ pre, True ∧ Jx pre W')) := by
 have t9 : Try.prog.underlying 9 = some .string := Try.underlying9
 refine callsIn_of_wp Try.func55 rfl h8 ?_ hro
 simp only [Try.ntmps55, List.size_toArray, List.length_cons, List.length_nil, Nat.reduceAdd, Nat.reduceSub, Array.replicate_succ, Array.replicate_zero, List.push_toArray, List.append_toArray, List.nil_append, List.cons_append]
 gi_wp2_with (first
  | (gi_at_range; refine wpListIn_range_own _ rfl _ 45 rfl 9 52 (string_keyed t9) Try.underlying45 _ b nn _ rfl hown ?_; intro w0 hrg0 hg0 hs0)
  | gi_in)
 go_frame
 gi_loopw [3, 4] (fun _ _ wr => ∃ (left : Lit → Bool) (cnt : Nat) (ps : List (Ent D0)), wr.ranges Try.prog 9 rF b W.heap.size nn D0 left cnt ∧ ps.length + cnt ≤ Maps.size D0 ∧ Collected D0 left (ps.map (·.1.1)) ∧ J ps wr)
  (fun _ _ wr => wr.rangeLeft b W.heap.size)
 case atStart =>
  exact ⟨_, _, [], hrg0, by simp, Collected.start D0, hJ [] W w0 none h0 hg0 (fun r e => by cases e)⟩
 case round =>
  obtain ⟨left, cnt, ps, hrg, hcs, hC, hJs⟩ := hrel
  gi_wp2_with (first
   | (gi_at_next; refine wpListIn_next_ranges _ rfl _ rfl 9 (string_keyed t9) rF encStr flV (fun key kl hk => by obtain ⟨x, hx, _⟩ := Maps.keyOf_str t9 hk; exact ⟨x, hx⟩) (fun v y hv => by obtain ⟨c, rfl, _⟩ := rF_inv hv; exact ⟨c, rfl⟩) b W.heap.size nn _ _ _ rfl hrg ?_ ?_)
   | gi_in)
  ·intro hc0 hl0
   gi_wp2
   go_end0
   exact ⟨⟨_, rfl⟩, .inl ⟨ps, ⟨hC.perm hown (string_keyed t9) t9 hl0, fun x => by rw [hC.2 x, hl0]; simp⟩, hJs⟩⟩
  ·intro x c1 c2 c3 d1 d2 d3 kl yd yp w2 cnt2 hkey hlk hv hat hrg2 hlt hg2 hs2 hen
   obtain ⟨x', ex, rfl, _⟩ := Maps.keyOf_str t9 hkey
   obtain rfl : x = x' := encInj ex
   rw [rF_of] at hv
   obtain ⟨rfl, rfl⟩ := Prod.mk.inj (Option.some.inj hv)
   have hJ2 : J ps w2 := hJ ps wr w2 (some W.heap.size) hJs hg2 (fun r e => by cases e; exact ⟨Nat.le_refl _, hrg.iter_walk⟩)
   have hE : EntOf D0 (x, (c1, c2, c3), (d1, d2, d3)) := ⟨has_true_of_atKey hat, hat⟩
   obtain ⟨fn, tmps, assign, body, hy, hR⟩ := hY ps ⟨(x, (c1, c2, c3), (d1, d2, d3)), hE⟩ (w2.alloc (.cells #[.slice c1 c2 c3, .slice d1 d2 d3] 52)) (hJ ps w2 _ none hJ2 (World.grownBy_alloc _ _ _) (fun r e => by cases e)) (by omega)
   dsimp only [encE] at hy
   clear hs2
   gi_wp2
   refine hR.mono ?_
   have hC2 : Collected D0 (fun z => left z && !z.sameKey (.string x)) ((ps ++ [(⟨(x, (c1, c2, c3), (d1, d2, d3)), hE⟩ : Ent D0)]).map (·.1.1)) := by simpa using hC.step hlk hat
   have hk0 : KeepW n₀ w2 (w2.alloc (.cells #[.slice c1 c2 c3, .slice d1 d2 d3] 52)) := ⟨by simp, fun k o _ ho _ => (Below.heap_alloc _ _ _ (Array.getElem?_eq_some_iff.1 ho).1).trans ho⟩
   rintro e W3 (⟨rfl, hJ3, hk3⟩ | ⟨rfl, hJx3⟩)
   ·gi_wp2
    have hrg3 := KeepW.ranges hrg2 (hk0.trans hk3) hb0 hW0
    go_roundw
    case rel => exact ⟨_, cnt2, ps ++ [(⟨(x, (c1, c2, c3), (d1, d2, d3)), hE⟩ : Ent D0)], hrg3, by simp; omega, hC2, hJ3⟩
    case measure => rw [hrg3.left_eq, hrg.left_eq]; exact hlt
   ·gi_wp2
    refine bodyPost_ret (results_none rfl _ _ _) rfl ?_
    exact ⟨⟨_, rfl⟩, .inr ⟨_, trivial, hJx3⟩⟩
set_option maxHeartbeats 1000000 in
theorem allF (F : Fence) (n : Nat) (hf : F.fn 30) (hro : F.round = none) (mb : Option Nat) (w : World) :
  CallsIn F n Try.prog 30 #[.map mb] w fun e w' => e = .returned (.func (.func 55) #[] #[.pointer (some ⟨w.heap.size, 0, none⟩)]) ∧ w' = w.alloc (.cells #[.map mb] 45) := by
 refine callsIn_of_wp Try.func30 rfl hf ?_ hro
 simp only [Try.ntmps30, List.size_toArray, List.length_cons, List.length_nil, Nat.reduceAdd, Nat.reduceSub, Array.replicate_succ, Array.replicate_zero, List.push_toArray, List.append_toArray, List.nil_append, List.cons_append]
 gi_wp2
 go_ret
 exact ⟨rfl, rfl⟩
theorem allF_stops (F : Fence) (n : Nat) (h8 : F.fn 55) (hro : F.round = none) (hn : 1 ≤ n) (Bm b nn n₀ : Nat) (D0 : DataW Value) (w : World) (hBm : Bm < w.heap.size) (hb0 : n₀ ≤ b)
  (hm : w.cell? ⟨Bm, 0, none⟩ = some (.map (some b))) (hown : w.ownsMap Try.prog 9 rF b nn D0) :
  SeqStopsK F n Try.prog 55 #[.pointer (some ⟨Bm, 0, none⟩)] (encE (D0 := D0)) (KeepW n₀) (fun ps => (ps.map (·.1.1)).Perm (strKeys D0) ∧ (∀ x, x ∈ ps.map (·.1.1) ↔ has D0 (.string x) = true)) (fun _ => True) (Maps.size D0) w := fun l J Jx W hW hJ _ hY h0 => by
 have hbl := hown.lt
 have hown' : W.ownsMap Try.prog 9 rF b nn D0 := by
  obtain ⟨es, clock, hb, Ft, hs, hD⟩ := hown
  exact ⟨es, clock, (hW.block b hbl).trans hb, Ft, hs, hD⟩
 exact allF1 F n h8 hro hn l Bm b nn n₀ D0 J Jx hY W hJ hb0 (by have := hW.size; omega) ((hW.cell (p := ⟨Bm, 0, none⟩) hBm).trans hm) hown' h0
theorem run_eql_map_nil_d (w : World) (p : Option Nat) : (binOp .eql 45 (.map p) (.map none)).run Try.prog w = .ok (.bool p.isNone) w := run_eql_map_nil w _ _ _ p Try.underlying45
theorem runClone (w : World) {r : Nat} {es : Array MapEntry} {clock : Nat} (t : TypeId) (hb : w.heap[r]? = some (.map es clock)) :
  (Extern.MapsClone.clone #[.iface t (.map (some r))]).run Try.prog w = .ok (.iface t (.map (some w.heap.size))) (w.alloc (.map es clock)) := by
 obtain ⟨k, e, hk⟩ : ∃ k : Obj → Sem Value, Extern.MapsClone.clone #[.iface t (.map (some r))] = (getObj r >>= k) ∧ ∀ es clock, k (.map es clock) = (newObj (.map es clock) >>= fun n => pure (.iface t (.map (some n)))) := ⟨_, rfl, fun _ _ => rfl⟩
 rw [e]
 simp [MapKept.run_getObj_map hb, Result.andThen, go_sem, hk]
theorem runAssert (w : World) (xT : TypeId) (v : Value) : (Instr.typeAssert (.iface 45 v) xT 45 false).run Try.prog w = .ok v w := by
 simp [Instr.typeAssert, run_underlying Try.underlying45, go_sem, Result.andThen]
theorem cloneF (b : Nat) (es : Array MapEntry) (clock : Nat) (w : World) (hb : w.heap[b]? = some (.map es clock)) :
  Calls Try.prog 31 #[.map (some b)] w fun e w' => e = .returned (.map (some w.heap.size)) ∧ w' = w.alloc (.map es clock) := by
 have hq := fun w => run_eql_map_nil_d w (some b)
 have hc : (callFunc 56 #[.iface 45 (.map (some b))]).run Try.prog w = .ok (.value (.iface 45 (.map (some w.heap.size)))) (w.alloc (.map es clock)) := by
  rw [run_callFunc_extern Try.func56 (by kernel_rfl) (by kernel_rfl) (by kernel_rfl) (e := Extern.MapsClone.clone) (by kernel_rfl), runClone w _ hb]
  rfl
 have ha := runAssert
 go_enter Try.func31, Try.ntmps31
 go_wp2
 go_ret
 exact ⟨rfl, rfl⟩
end Go.Proofs.Ytndacaemcakmkaa

namespace Go.Proofs.Ytndacaemcakmkaa
set_option linter.unusedSimpArgs false
set_option linter.unusedVariables false
set_option maxRecDepth 100000
set_option maxHeartbeats 8000000
open Go Go.VA Go.RowKit
/-! ### what is left of a file's bytes -/
theorem aEqual (t u : Bool) (n m : Nat) (f g : Nat → List C) (hf : isBytes n f) (hg : isBytes m g) : ACall Try.prog gl 32 [.c (.sl t 1 n f), .c (.sl u 1 m g)] [] (boolA ((bytesOf n f).toList == (bytesOf m g).toList)) := by
 refine acall_of_vc htb hmix (f := 32) rfl rfl rfl (by kernel_rfl) rfl rfl ?_; conv => whnf
 repeat' (first | (refine And.intro ?_ ?_; (focus (first | (first | assumption) | fail)); conv => whnf) | fail)
 exact Go.VA.leB rfl
abbrev fAb : Nat → List C := nthC [[C.v (.int .u8 97)], [C.v (.int .u8 98)]]
abbrev fCd : Nat → List C := nthC [[C.v (.int .u8 99)], [C.v (.int .u8 100)]]
abbrev fAll : Nat → List C := catF 0 2 fAb fCd
theorem isB {n : Nat} {f : Nat → List C} (l : List UInt8) (h : n = l.length) (hf : ∀ i, i < l.length → f i = [.v (.int .u8 ((l.getD i 0).toNat : Int))]) : isBytes n f := fun i hi => ⟨_, hf i (h ▸ hi)⟩
theorem isbAb : isBytes 2 fAb := isB [97, 98] rfl (fun i hi => by
 match i, hi with
 | 0, _ => rfl
 | 1, _ => rfl)
theorem isbAll : isBytes 4 fAll := isB [97, 98, 99, 100] rfl (fun i hi => by
 match i, hi with
 | 0, _ => rfl
 | 1, _ => rfl
 | 2, _ => rfl
 | 3, _ => rfl)
theorem isbAllP : isBytes 2 (fun j => fAll (0 + j)) := isB [97, 98] rfl (fun i hi => by
 match i, hi with
 | 0, _ => rfl
 | 1, _ => rfl)
theorem aEqB (t u : Bool) (n m : Nat) (f g : Nat → List C) (hf : isBytes n f) (hg : isBytes m g) (q : Bool) (h : ((bytesOf n f).toList == (bytesOf m g).toList) = q) : ACall Try.prog gl 32 [.c (.sl t 1 n f), .c (.sl u 1 m g)] [] (boolA q) := h ▸ aEqual t u n m f g hf hg
theorem aPreA (t u : Bool) : ACall Try.prog gl 57 [.c (.sl t 1 4 fAll), .c (.sl u 1 2 fAb)] [] (boolA true) := by
 have E := aEqB t u 2 2 (fun j => fAll (0 + j)) fAb isbAllP isbAb true (by rw [ByteArray.toList_eq, ByteArray.toList_eq]; rfl)
 refine acall_of_vc htb hmix (f := 57) rfl rfl rfl (by kernel_rfl) rfl rfl ?_; conv => whnf
 repeat' (first | ((with_reducible refine GOr.l ?_); (conv => whnf); refine Exists.intro _ (And.intro (chainI (E)) ?_); conv => whnf) | (refine And.intro ?_ ?_; (focus (first | (refine chainI ?_; (first | decide | fail)) | fail)); conv => whnf) | fail)
 all_goals exact Go.VA.leB rfl
end Go.Proofs.Ytndacaemcakmkaa

namespace Go.Proofs.Ytndacaemcakmkaa
set_option linter.unusedSimpArgs false
set_option linter.unusedVariables false
set_option maxRecDepth 100000
set_option maxHeartbeats 8000000
open Go Go.VA Go.RowKit Go.Maps Go.Sort Go.Shelf
open Go.Proofs (encStr)
open Go.WideElems (Fit rd rg pl rd_key rd_val rg_of)
/-! ### the map's entries, while the power comes back -/
/-- a file: its name, its bytes, what is safe, what it will have -/
abbrev Fl := ByteArray × C × C × C
def mm (l : List Fl) (pre : List (List UInt8)) : List (Value × AV) := l.map fun e => (Value.string e.1, if e.1.data.toList ∈ pre then fl e.2.2.2 e.2.2.2 else fl e.2.1 e.2.2.1)
theorem bytes_inj {a b : ByteArray} (h : a.data.toList = b.data.toList) : a = b := by
 cases a; cases b; simpa using Array.ext' h
theorem ba_beq (a b : ByteArray) : (a == b) = decide (a = b) := by
 cases a with | mk a => cases b with | mk b =>
 show (a == b) = _
 rw [Bool.eq_iff_iff]
 simp
theorem mm_put {e : Fl} {pre : List (List UInt8)} : ∀ (l : List Fl), e ∈ l → (l.map (·.1)).Nodup → mPut (.string e.1) (fl e.2.2.2 e.2.2.2) (mm l pre) = mm l (pre ++ [e.1.data.toList])
 | [], h, _ => by cases h
 | a :: r, h, hn => by
  have hn' := List.nodup_cons.1 (by simpa using hn : (a.1 :: r.map (·.1)).Nodup)
  rcases List.mem_cons.1 h with rfl | h
  ·have e1 : mm r (pre ++ [e.1.data.toList]) = mm r pre := by
    refine List.map_congr_left fun b hb => ?_
    have hne : b.1.data.toList ≠ e.1.data.toList := fun h => hn'.1 (bytes_inj h ▸ List.mem_map_of_mem hb)
    simp [hne]
   show mPut _ _ ((Value.string e.1, _) :: mm r pre) = (Value.string e.1, _) :: mm r (pre ++ [e.1.data.toList])
   rw [e1]
   simp [mPut, keqV, ba_beq]
  ·have hne : e.1 ≠ a.1 := fun h' => hn'.1 (h' ▸ List.mem_map_of_mem h)
   have hne2 : a.1.data.toList ≠ e.1.data.toList := fun h' => hne (bytes_inj h').symm
   have hk : keqV (.string e.1) (.string a.1) = false := by simp [keqV, ba_beq, hne]
   show mPut _ _ ((Value.string a.1, _) :: mm r pre) = (Value.string a.1, _) :: mm r (pre ++ [e.1.data.toList])
   rw [← mm_put r h hn'.2]
   simp [mPut, hk, hne2]
theorem mm_ok (l : List Fl) (pre : List (List UInt8)) : mOk (tb 9).k (mm l pre) = true := by
 induction l with
 | nil => rfl
 | cons a r ih => exact ih
theorem relM_get {S : Rd} : ∀ (m : List (Value × AV)) (es : List MapEntry), RelM S m es → es.length = m.length ∧ ∀ e ∈ es, ∃ p ∈ m, e.key = p.1 ∧ RelV [] S p.2 e.val
 | [], es, h => by simp only [RelM] at h; subst h; simp
 | p :: r, es, h => by
  simp only [RelM] at h
  obtain ⟨e, t, rfl, h1, h2, h3⟩ := h
  obtain ⟨h4, h5⟩ := relM_get r t h3
  refine ⟨by simp [h4], fun e' he => ?_⟩
  rcases List.mem_cons.1 he with rfl | he
  ·exact ⟨p, by simp, h1, h2⟩
  ·obtain ⟨q, hq, h6⟩ := h5 e' he
   exact ⟨q, by simp [hq], h6⟩
theorem relM_keys {S : Rd} : ∀ (m : List (Value × AV)) (es : List MapEntry), RelM S m es → es.map (·.key) = m.map (·.1)
 | [], es, h => by simp only [RelM] at h; subst h; rfl
 | p :: r, es, h => by
  simp only [RelM] at h
  obtain ⟨e, t, rfl, h1, h2, h3⟩ := h
  simp [h1, relM_keys r t h3]
/-- bytes that a file may have -/
def isSl : C → Bool
 | .sl .. => true
 | .v (.slice none 0 0) => true
 | _ => false
theorem isSl_val {x : C} (h : isSl x = true) {S : Rd} {u : Value} (hu : RepC S x u) : ∃ s : SV, u = svV s := by
 unfold isSl at h
 split at h
 ·simp only [RepC] at hu
  obtain ⟨a, cap, rfl, _⟩ := hu
  exact ⟨(a, _, cap), rfl⟩
 ·simp only [RepC] at hu
  obtain ⟨rfl, _⟩ := hu
  exact ⟨(none, 0, 0), rfl⟩
 ·cases h
theorem fl_val {x z : C} (hx : isSl x = true) (hz : isSl z = true) {B : List (Option BI)} {S : Rd} {u : Value} (hu : RelV B S (fl x z) u) : ∃ p : SV × SV, u = flV p ∧ RepC S x (svV p.1) ∧ RepC S z (svV p.2) := by
 simp only [RelV, RepVs] at hu
 obtain ⟨arr, rfl, u1, r, e1, h1, u2, r2, rfl, h2, rfl⟩ := hu
 obtain ⟨s, rfl⟩ := isSl_val hx h1
 obtain ⟨t, rfl⟩ := isSl_val hz h2
 exact ⟨(s, t), by rw [show arr = #[svV s, svV t] from Array.ext' e1], h1, h2⟩
/-- what is known of the files ahead -/
structure OkL (l : List Fl) : Prop where
 nodup : (l.map (·.1)).Nodup
 small : ∀ e ∈ l, e.1.size ≤ maxLen
 len : l.length < maxLen
 sl : ∀ e ∈ l, isSl e.2.1 = true ∧ isSl e.2.2.1 = true ∧ isSl e.2.2.2 = true
theorem mm_entry {l : List Fl} (ok : OkL l) {S : Rd} {es : List MapEntry} (h : RelM S (mm l []) es) {e : MapEntry} (he : e ∈ es) : ∃ f ∈ l, e.key = .string f.1 ∧ ∃ p, e.val = flV p ∧ RepC S f.2.1 (svV p.1) ∧ RepC S f.2.2.1 (svV p.2) := by
 obtain ⟨q, hq, h1, h2⟩ := (relM_get _ _ h).2 e he
 obtain ⟨f, hf, rfl⟩ := List.mem_map.1 hq
 obtain ⟨p, h3⟩ := fl_val (ok.sl f hf).1 (ok.sl f hf).2.1 (by simpa using h2)
 exact ⟨f, hf, h1, p, h3⟩
theorem mm_fit {l : List Fl} (ok : OkL l) {S : Rd} {es : Array MapEntry} {clock : Nat} (h : RelM S (mm l []) es.toList) (hb : Bst es clock) : Fit Try.prog 9 rF es clock where
 size := by have := (relM_get _ _ h).1; have := ok.len; simp [mm] at *; omega
 stamped := ⟨hb.1, hb.2, by
  rw [relM_keys _ _ h]
  have e : (mm l []).map (·.1) = (l.map (·.1)).map Value.string := by simp [mm]
  rw [e]
  show List.Pairwise _ _
  rw [List.pairwise_map]
  exact ok.nodup.imp (fun h h' => h (by cases h'; rfl))⟩
 reads := fun x hx => by
  obtain ⟨f, hf, hk, p, hv, _⟩ := mm_entry ok h hx
  refine ⟨(.string f.1.data.toList, .held (flV p)), ?_⟩
  have hkey : keyOf Try.prog 9 x.key = some (.string f.1.data.toList) := by
   rw [hk]
   have := ok.small f hf
   simp [keyOf, Try.underlying9, mapKey, this]
  simp [rd, hkey, hv, rF_of]
noncomputable abbrev dOf (es : Array MapEntry) : DataW Value := .map ((es.toList.map (rg Try.prog 9 rF)).foldr DataW.insert [])
theorem rg_file {l : List Fl} (ok : OkL l) {S : Rd} {es : Array MapEntry} (h : RelM S (mm l []) es.toList) {e : MapEntry} (he : e ∈ es.toList) : ∃ f ∈ l, ∃ p, e.key = .string f.1 ∧ rg Try.prog 9 rF e = (.string f.1.data.toList, .held (flV p)) ∧ RepC S f.2.1 (svV p.1) ∧ RepC S f.2.2.1 (svV p.2) := by
 obtain ⟨f, hf, hk, p, hv, h1⟩ := mm_entry ok h he
 refine ⟨f, hf, p, hk, ?_, h1⟩
 have hkey : keyOf Try.prog 9 e.key = some (.string f.1.data.toList) := by
  rw [hk]
  have := ok.small f hf
  simp [keyOf, Try.underlying9, mapKey, this]
 have : rd Try.prog 9 rF e = some (.string f.1.data.toList, .held (flV p)) := by simp [rd, hkey, hv, rF_of]
 exact rg_of this
theorem same_str {a : Lit} {b : List UInt8} (h : a.sameKey (.string b) = true) : a = .string b := by
 cases a <;> simp_all [Lit.sameKey]
theorem ent_file {l : List Fl} (ok : OkL l) {S : Rd} {es : Array MapEntry} (h : RelM S (mm l []) es.toList) (x : Ent (dOf es)) : ∃ f ∈ l, x.1.1 = f.1.data.toList ∧ RepC S f.2.1 (svV x.1.2.1) ∧ RepC S f.2.2.1 (svV x.1.2.2) := by
 have hat := x.2.2 .nil
 simp only [dOf, DataW.atKey] at hat
 split at hat
 ·rename_i p hp
  have hk0 : p.1.sameKey (.string x.1.1) = true := by simpa using List.find?_some hp
  have hk := same_str hk0
  have hm := mem_sorted.1 (List.mem_of_find?_eq_some hp)
  obtain ⟨e, he, rfl⟩ := List.mem_map.1 hm
  obtain ⟨f, hf, q, _, hr, h1, h2⟩ := rg_file ok h he
  rw [hr] at hk hat
  have e1 : q = x.1.2 := flV_inj (by simpa using hat)
  subst e1
  exact ⟨f, hf, by simpa using hk.symm, h1, h2⟩
 ·cases hat
theorem has_file {l : List Fl} (ok : OkL l) {S : Rd} {es : Array MapEntry} (h : RelM S (mm l []) es.toList) {f : Fl} (hf : f ∈ l) : has (dOf es) (.string f.1.data.toList) = true := by
 have hk : Value.string f.1 ∈ es.toList.map (·.key) := by
  rw [relM_keys _ _ h]
  simp only [mm, List.map_map]
  exact List.mem_map.2 ⟨f, hf, rfl⟩
 obtain ⟨e, he, hek⟩ := List.mem_map.1 hk
 obtain ⟨g, _, p, hgk, hr, _⟩ := rg_file ok h he
 have e1 : g.1 = f.1 := by
  have := hgk.symm.trans hek
  simpa using this
 rw [has_eq, List.any_eq_true]
 refine ⟨(.string f.1.data.toList, .held (flV p)), mem_sorted.2 (List.mem_map.2 ⟨e, he, by rw [hr, e1]⟩), ?_⟩
 simp [Lit.sameKey]
theorem size_file {l : List Fl} {S : Rd} {es : Array MapEntry} (h : RelM S (mm l []) es.toList) : Maps.size (dOf es) = l.length := by
 have := (relM_get _ _ h).1
 simp only [dOf, size_eq, length_sorted, List.length_map]
 simpa [mm] using this
/-- a store into the map -/
theorem runPut (w : World) (b : Nat) (es : Array MapEntry) (clock : Nat) (hb : w.heap[b]? = some (.map es clock)) (k : ByteArray) (val : Value) (m : List (Value × AV)) {S : Rd} (hm : RelM S m es.toList) (hmo : mOk (tb 9).k m = true) (y : AV) (hy : ∀ S', S.le S' → RelV [] S' y val) (hst : Bst es clock) :
  ∃ es' clock', (Instr.mapUpdate 45 (.map (some b)) (.string k) val).run Try.prog w = .ok () { w with heap := w.heap.setIfInBounds b (.map es' clock') } ∧ (∀ S', S.le S' → RelM S' (mPut (.string k) y m) es'.toList) ∧ Bst es' clock' := by
 have hu : Try.prog.underlying 45 = some (.map 9 52) := Try.underlying45
 have hKL : KeyL Try.prog 9 (.string k) m := keyL_of htb rfl hmo
 have hgo : (getObj b).run Try.prog w = .ok (.map es clock) w := by simp [getObj, Sem.run, hb]
 have hset := fun ob => MapKept.run_setObj_map (P := Try.prog) (w := w) ob hb
 have hck := hKL.check false w
 rcases hKL.find es.toList w hm with ⟨_, k2, k3⟩ | ⟨j, e, _, _, k2, k3, _, k5, k6⟩
 ·refine ⟨es.push { key := .string k, val := val, born := clock }, clock + 1, by simp [Instr.mapUpdate, run_underlying hu, hgo, hck, k2, hset], fun S' hS => ?_, hst.push _ _⟩
  rw [Array.toList_push]
  rcases hKL.find es.toList w (RelM.mono hS _ _ hm) with ⟨_, _, q3⟩ | ⟨_, _, _, _, q2, _⟩
  ·exact q3 _ _ _ (hy S' hS)
  ·rw [k2] at q2; simp at q2
 ·have hge : es[j]? = some e := by simpa using k3
  refine ⟨es.modify j fun e => { e with key := .string k, val := val }, clock, by simp [Instr.mapUpdate, run_underlying hu, hgo, hck, k2, hset, hge, k5, Instr.keyThatStays, hKL.stays], fun S' hS => ?_, hst.modify _ _ _⟩
  rw [Array.toList_modify]
  rcases hKL.find es.toList w (RelM.mono hS _ _ hm) with ⟨_, q2, _⟩ | ⟨j', _, _, _, q2, _, _, _, q6⟩
  ·rw [k2] at q2; simp at q2
  ·rw [k2] at q2
   simp only [Result.ok.injEq, Option.some.injEq, Prod.mk.injEq] at q2
   obtain rfl : j = j' := q2.1.1
   exact q6 _ _ (hy S' hS)
end Go.Proofs.Ytndacaemcakmkaa
