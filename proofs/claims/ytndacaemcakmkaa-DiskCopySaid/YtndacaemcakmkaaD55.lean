/- Contracts of functions of the program, and the laws that stand on them: what each function answers, whatever its arguments. -/
import Derived.Test.YtndacaemcakmkaaD51
import Derived.Test.YtndacaemcakmkaaTryShelf
import Derived.Shelf.SlIter.Sorted
import Derived.Shelf.SortM.Plain
import Derived.Shelf.SortM.SortNone
import Derived.Test.YtndacaemcakmkaaVD
set_option linter.unusedSectionVars false
set_option linter.unnecessarySimpa false
namespace Go.Proofs.Ytndacaemcakmkaa
set_option linter.unusedSimpArgs false
set_option linter.unusedVariables false
set_option maxRecDepth 100000
set_option maxHeartbeats 8000000
open Go Go.VA Go.RowKit Go.Maps Go.Sort Go.Shelf
open Go.Proofs (encStr)
/-! ### a disk's names -/
def sortN (l : List Ft) : List ByteArray := ((l.map (·.1.data.toList)).mergeSort leB).map (fun x => ⟨x.toArray⟩)
abbrev rN (l : List ByteArray) (i : Nat) : List C := [.v (.string (l.getD i mtB))]
theorem sortN_length (l : List Ft) : (sortN l).length = l.length := by unfold sortN; rw [List.length_map, List.length_mergeSort, List.length_map]
theorem sortN_cell (l : List Ft) (i : Nat) (hi : i < l.length) : ((((l.map (·.1.data.toList)).mergeSort leB).map encStr)[i]?) = some (.string ((sortN l).getD i mtB)) := by
 unfold sortN
 rw [List.getElem?_map, List.getD_eq_getElem?_getD, List.getElem?_map]
 cases h : ((l.map (·.1.data.toList)).mergeSort leB)[i]? with
 | none =>
  exfalso
  rw [List.getElem?_eq_none_iff, List.length_mergeSort, List.length_map] at h
  omega
 | some x => rfl
theorem names_perm {l : List Fl} (ok : OkL l) {S : Rd} {es : Array MapEntry} (h : RelM S (mm l []) es.toList) {w : World} {b nn : Nat} (hown : w.ownsMap Try.prog 9 rF b nn (dOf es)) : (l.map (·.1.data.toList)).Perm (strKeys (dOf es)) := by
 have t9 : Try.prog.underlying 9 = some .string := Try.underlying9
 refine Collected.perm (left := fun _ => false) ⟨?_, fun x => ⟨fun hx => ⟨?_, rfl⟩, fun ⟨hx, _⟩ => ?_⟩⟩ hown (string_keyed t9) t9 (fun _ => rfl)
 ·have e : l.map (·.1.data.toList) = (l.map (·.1)).map (·.data.toList) := by simp
  rw [e]
  exact List.pairwise_map.2 (ok.nodup.imp fun {a b} hne e => hne (bytes_inj e))
 ·obtain ⟨f, hf, rfl⟩ := List.mem_map.1 hx
  exact has_file ok h hf
 ·rw [has_eq, List.any_eq_true] at hx
  obtain ⟨p, hp, hk⟩ := hx
  obtain ⟨e, he, rfl⟩ := List.mem_map.1 (mem_sorted.1 hp)
  obtain ⟨f, hf, q, _, hr, _⟩ := rg_file ok h he
  rw [hr] at hk
  have := same_str hk
  simp only [Lit.string.injEq] at this
  exact List.mem_map.2 ⟨f, hf, this⟩
theorem sorts59 (m : Nat) : AnyZ.SortsIn Try.prog Try.sorted59_ren Fence.wide m :=
 ⟨fun blk off cap ss W hH hblk hsz => callsIn_wide.2 (AnyM.slices_Sort_string Try.sort68 blk off cap ss W hH hblk hsz),
  fun p cap W => callsIn_wide.2 (AnyM.slices_Sort_string_none Try.sort68 p cap W)⟩
theorem namesW {l : List Fl} (ok : OkL l) (hl : l.length ≤ 1000000) {S : Rd} {es : Array MapEntry} {clock : Nat} (h : RelM S (mm l []) es.toList) (hst : Bst es clock) (w : World) (Bm b : Nat) (hBm : Bm < w.heap.size) (hm : w.cell? ⟨Bm, 0, none⟩ = some (.map (some b))) (hb : w.heap[b]? = some (.map es clock)) :
  Calls Try.prog 59 #[.func (.func 69) #[] #[.pointer (some ⟨Bm, 0, none⟩)]] w fun e w' => ∃ (v : Value), e = .returned v ∧
   w'.ownsRow w.heap.size 9 1 v l.length (((l.map (·.1.data.toList)).mergeSort leB).map encStr) ∧ Below w.heap.size w w' := by
 have hown : w.ownsMap Try.prog 9 rF b es.size (dOf es) := ⟨es, clock, hb, mm_fit ok h hst, Nat.le_refl _, rfl⟩
 have hsz := size_file h
 have hp := names_perm ok h hown
 have hseq := AnyZ.keys_gives Try.keys69 Fence.wide 2 trivial rfl (by decide) Bm b es.size (dOf es) (R := rF) w hBm hm hown
 refine callsIn_wide.1 ((AnyZ.sorted_in Try.sorted59 Fence.wide 5 trivial trivial trivial trivial rfl (by omega) (sorts59 _) (enters_of Try.func68 (by kernel_rfl) rfl) 69 _ trivial (enters_of Try.func69 (by kernel_rfl) rfl) _ (Maps.size (dOf es)) (by rw [hsz]; unfold maxLen; omega) (by rw [hsz]; omega) w hseq).mono ?_)
 rintro e w' ⟨v, ss, rfl, hS, hrow, _, hbl⟩
 have hlen : ss.length = l.length := by
  have h1 := hS.length_eq
  have h2 := hp.length_eq
  rw [List.length_map] at h2
  omega
 have hsort : ss.mergeSort leB = (l.map (·.1.data.toList)).mergeSort leB := mergeSort_of_perm (hS.trans hp.symm)
 rw [hlen] at hrow
 have hrow : w'.ownsRow w.heap.size 9 1 v l.length ((ss.mergeSort leB).map encStr) := hrow
 rw [hsort] at hrow
 exact ⟨v, rfl, hrow, hbl⟩
end Go.Proofs.Ytndacaemcakmkaa

namespace Go.Proofs.Ytndacaemcakmkaa
set_option linter.unusedSimpArgs false
set_option linter.unusedVariables false
set_option maxRecDepth 100000
set_option maxHeartbeats 8000000
open Go Go.VA Go.RowKit Go.Maps Go.Sort Go.Shelf
open Go.Proofs (encStr)
/-! ### a disk's names, as contracts -/
theorem okLB {d : Dk} {n : Nat} (ok : d.Ok n) (hn : n < 1000000) (keep : Int) : OkL (flB keep d.l) := ⟨by
  rw [List.map_map]
  exact ok.nodup, fun e he => by
  obtain ⟨f, hf, rfl⟩ := List.mem_map.1 he
  have := word_size (ok.word f hf)
  exact Nat.le_trans this (by decide), by
  rw [List.length_map]
  have := ok.len
  have : (1000000 : Nat) < maxLen := by decide
  omega, fun e he => by
  obtain ⟨f, hf, rfl⟩ := List.mem_map.1 he
  exact ⟨rfl, rfl, rfl⟩⟩
theorem gSortedN (d : Dk) {n : Nat} (ok : d.Ok n) (hn : n < 1000000) : GCall Try.prog gl 59 [.mp (mB d.l), .box [.mpv 0]] [.fn 69 [] [.ptr 1 0]] [.mp (mB d.l), .box [.mpv 0]] [.c (.sl false 1 d.l.length (rN (sortN d.l)))] where
 callable := ⟨_, Try.func59, by kernel_rfl, by kernel_rfl⟩
 len := Nat.le_refl _
 kinds := fun i hi => rfl
 livep := fun i hi => by
  match i, hi with
  | 0, _ => rfl
  | 1, _ => rfl
 liveq := fun i hi => by
  match i, hi with
  | 0, _ => rfl
  | 1, _ => rfl
 run := fun w M B vals hro hL hG hv => by
  have hlen := hL.len
  obtain ⟨bo0, bo1, rfl⟩ : ∃ b0 b1, B = [b0, b1] := by
   match B, hlen with
   | [b0, b1], _ => exact ⟨b0, b1, rfl⟩
  obtain ⟨bm, es, clock, rfl, hmap, hrel, hst⟩ := hL.obj 0 bo0 rfl
  obtain ⟨bi, cs, ty, rfl, hblk, ho, ⟨hsz, hcn⟩, _, hcs⟩ := hL.obj 1 bo1 rfl
  have hvals : vals = #[.func (.func 69) #[] #[.pointer (some ⟨bi.b, 0, none⟩)]] := by
   simp only [RelVs] at hv
   obtain ⟨u, r, e1, h1, rfl⟩ := hv
   simp only [RelV, RelVs] at h1
   obtain ⟨a1, a2, rfl, e2, u2, r2, e3, ⟨bi', hb', rfl⟩, rfl⟩ := h1
   have hb' : some bi = some bi' := by simpa using hb'
   cases hb'
   apply Array.ext'
   rw [e1]
   have ea : a1 = #[] := Array.ext' e2
   have eb : a2 = #[.pointer (some ⟨bi.b, bi.o + 0, none⟩)] := Array.ext' e3
   rw [ea, eb, ho]
  subst hvals
  simp only [RelVs] at hcs
  obtain ⟨u, r, e1, h1, rfl⟩ := hcs
  have hcell : w.cell? ⟨bi.b, 0, none⟩ = some u := by
   have : cs[0]? = some u := by rw [← Array.getElem?_toList, e1]; rfl
   simp [World.cell?, hblk, this]
  simp only [RelV] at h1
  obtain ⟨bm', hbm', rfl⟩ := h1
  have hbm' : some bm = some bm' := by simpa using hbm'
  cases hbm'
  have hlt : bi.b < w.heap.size := hL.bnd 1 bi rfl
  have hll := ok.len
  rw [← mm_B 0] at hrel
  have key := namesW (okLB ok hn 0) (by rw [List.length_map]; omega) hrel hst w bi.b bm.b hlt hcell hmap
  have el : (flB 0 d.l).length = d.l.length := List.length_map ..
  have en : (flB 0 d.l).map (·.1.data.toList) = d.l.map (·.1.data.toList) := by rw [List.map_map]; rfl
  rw [el, en] at key
  refine key.mono ?_
  rintro e w' ⟨v, rfl, hrow, hb⟩
  have hL' := RelL_ext hb hL
  refine ⟨v, [some bm, some bi], rfl, ⟨hb.os, hb.tape, hb.output, hb.size, fun k hk _ => hb.block k hk⟩, hL', ?_, fun id bi' h => ?_, fun id _ _ => rfl⟩
  ·show RelV _ _ (.c _) v
   simp only [RelV, RepC]
   rcases hrow.2 with ⟨rfl, hz⟩ | ⟨g, cp, cur, rfl, hbase, hg, r1, r2, r3, r4⟩
   ·exact ⟨none, 0, by rw [hz], ⟨by omega, by omega⟩, .inl hz⟩
   ·refine ⟨_, cp, rfl, ⟨r1, by omega⟩, .inr ⟨g, 0, rfl, fun i hi => ⟨rfl, ?_⟩⟩⟩
    show RepCs _ _ _ [.v (.string ((sortN d.l).getD i mtB))]
    simp only [RepCs, RepC]
    refine ⟨⟨_, ⟨?_, ?_⟩, rfl, rfl⟩, trivial⟩
    ·intro hm
     have := MU_lt hL false g hm
     omega
    ·have h5 := sortN_cell d.l i hi
     rw [← r4, List.getElem?_take] at h5
     split at h5
     ·simp only [World.cell?, hg, Nat.zero_add, Nat.mul_one]
      rw [← Array.getElem?_toList]
      exact h5
     ·simp at h5
  ·exact .inr ⟨id, bi', h, rfl⟩
theorem gNms (d : Dk) {n : Nat} (ok : d.Ok n) (hn : n < 1000000) : GCall Try.prog gl 35 [db d, dm d] [.ptr 0 0] [db d, dm d] [.c (.sl false 1 d.l.length (rN (sortN d.l)))] := by
 have S := gSortedN d ok hn
 refine gcall_of_vcb htb hmix (f := 35) rfl rfl rfl (by kernel_rfl) rfl rfl rfl fun hb hb2 => ?_; simp only [bndOs, bndO, gbnds, AV.gbnd, bnds, C.bnd, true_and, and_true] at hb hb2; conv => whnf
 repeat' (first | (refine And.intro (fun h => ?_) (fun h => ?_) <;> (first | skip) <;> (first | exact absurd h (by decide) | (conv => whnf))) | ((with_reducible refine NilOr.l ?_); conv => whnf) | (refine And.intro ?_ ?_; (focus (first | exact rfl | fail)); conv => whnf) | ((with_reducible refine xc_guard ?_); (first | (refine xc_g (S) false (by first | (((conv => whnf); repeat' (first | exact trivial | exact rfl | (first | exact LeMs.refl _ | fail) | ((with_reducible refine And.intro ?_ ?_) <;> conv => whnf))); done) | fail) trivial ?_) | fail); conv => whnf) | ((with_reducible refine xc_guard ?_); refine xc_in (f := 60) htb hmix rfl rfl rfl (by kernel_rfl) rfl ?_; intro vs; conv => whnf) | fail)
 all_goals try (exfalso; revert h; decide)
 ((conv => whnf); repeat' (first | exact trivial | exact rfl | exact LeC.refl _ | ((with_reducible refine And.intro ?_ ?_) <;> conv => whnf)))
 all_goals exact LeMs.refl _
theorem gDead (d : Dk) : GCall Try.prog gl 38 [db d, dm d] [.ptr 0 0] [db d, dm d] [boolA d.dead] := by
 refine gcall_of_vcb htb hmix (f := 38) rfl rfl rfl (by kernel_rfl) rfl rfl rfl fun hb hb2 => ?_; simp only [bndOs, bndO, gbnds, AV.gbnd, bnds, C.bnd, true_and, and_true] at hb hb2; conv => whnf
 repeat' (first | (refine And.intro ?_ ?_; (focus (first | exact rfl | fail)); conv => whnf) | fail)
 ((conv => whnf); repeat' (first | exact trivial | exact rfl | exact LeC.refl _ | ((with_reducible refine And.intro ?_ ?_) <;> conv => whnf)))
 all_goals exact LeMs.refl _
theorem gOps (d : Dk) : GCall Try.prog gl 39 [db d, dm d] [.ptr 0 0] [db d, dm d] [intA .i64 d.ops] := by
 refine gcall_of_vcb htb hmix (f := 39) rfl rfl rfl (by kernel_rfl) rfl rfl rfl fun hb hb2 => ?_; simp only [bndOs, bndO, gbnds, AV.gbnd, bnds, C.bnd, true_and, and_true] at hb hb2; conv => whnf
 repeat' (first | (refine And.intro (fun h => ?_) (fun h => ?_) <;> (first | skip) <;> (first | exact absurd h (by decide) | (conv => whnf))) | (refine And.intro ?_ ?_; (focus (first | exact rfl | fail)); conv => whnf) | fail)
 all_goals try (exfalso; revert h; decide)
 ((conv => whnf); repeat' (first | exact trivial | exact rfl | exact LeC.refl _ | ((with_reducible refine And.intro ?_ ?_) <;> conv => whnf)))
 all_goals exact LeMs.refl _
end Go.Proofs.Ytndacaemcakmkaa

namespace Go.Proofs.Ytndacaemcakmkaa
set_option linter.unusedSimpArgs false
set_option linter.unusedVariables false
set_option maxRecDepth 100000
set_option maxHeartbeats 8000000
open Go Go.VA Go.RowKit Go.Sort
/-! ### the disk and the document's, plainly -/
theorem gtS_bl {a b : ByteArray} : gtS a b = bl b a := by
 unfold gtS bl
 cases h : Op.bytesLess b.toList a.toList with
 | true =>
  have h2 := bytesLess_asym _ _ h
  have h3 : (a.toList == b.toList) = false := by
   rw [beq_eq_false_iff_ne]
   intro e
   rw [e, bytesLess_irr] at h
   cases h
  rw [h2, h3]
  rfl
 | false =>
  cases h2 : Op.bytesLess a.toList b.toList with
  | true => rfl
  | false =>
   rw [bytesLess_tri _ _ h2 h]
   simp
/-- the same files; the document's rise -/
structure RlL (l r : List Ft) : Prop where
 lk : ∀ t, lkF t l = lkF t r
 srt : Srt (r.map (·.1))
structure Rl (d x : Dk) : Prop where
 l : RlL d.l x.l
 fuse : d.fuse = x.fuse
 dead : d.dead = x.dead
 ops : d.ops = x.ops
theorem srt_drop {s : ByteArray} {l : List Ft} (h : Srt (l.map (·.1))) : Srt ((dropL s l).map (·.1)) := h.sublist (List.filter_sublist.map _)
theorem srt_ins {f : Ft} {l : List Ft} (h : Srt (l.map (·.1))) : Srt ((insL f l).map (·.1)) := by
 obtain ⟨A, B, h1, h2, h3, h4⟩ := insL_split f l
 have hd := srt_drop (s := f.1) h
 have hne : ∀ e ∈ A ++ B, e.1 ≠ f.1 := fun e he => (drop_mem (h1 ▸ he)).2
 rw [h1, List.map_append] at hd
 obtain ⟨hA, hB, hAB⟩ := List.pairwise_append.1 hd
 have hAf : ∀ e ∈ A, bl e.1 f.1 = true := fun e he => by
  have h5 := h3 e he
  rw [gtS_bl] at h5
  cases h6 : bl e.1 f.1 with
  | true => rfl
  | false => exact absurd (toL_inj (bytesLess_tri _ _ h6 h5)) (hne e (List.mem_append_left _ he))
 have hfB : ∀ e ∈ B, bl f.1 e.1 = true := fun e he => by
  cases B with
  | nil => cases he
  | cons b r =>
   have h5 := h4 b r rfl
   rw [gtS_bl] at h5
   rcases List.mem_cons.1 he with rfl | he
   ·exact h5
   ·exact bytesLess_trans _ _ _ h5 ((List.pairwise_cons.1 hB).1 e.1 (List.mem_map_of_mem he))
 rw [h2, List.map_append, List.map_cons]
 refine List.pairwise_append.2 ⟨hA, List.pairwise_cons.2 ⟨fun t ht => ?_, hB⟩, fun t ht u hu => ?_⟩
 ·obtain ⟨e, he, rfl⟩ := List.mem_map.1 ht
  exact hfB e he
 ·obtain ⟨e, he, rfl⟩ := List.mem_map.1 ht
  rcases List.mem_cons.1 hu with rfl | hu
  ·exact hAf e he
  ·exact hAB _ ht _ hu
theorem RlL.put {l r : List Ft} (h : RlL l r) (s x z : ByteArray) : RlL (putF s x z l) (insL (s, x, z) r) := ⟨fun t => by
 rw [fnd_put, fnd_ins, h.lk]
 , srt_ins h.srt⟩
theorem RlL.del {l r : List Ft} (h : RlL l r) (hn : (l.map (·.1)).Nodup) (s : ByteArray) : RlL (delF s l) (dropL s r) := ⟨fun t => by
 rw [fnd_del _ _ _ hn, fnd_drop, h.lk]
 , srt_drop h.srt⟩
theorem RlL.get {l r : List Ft} (h : RlL l r) (s : ByteArray) : getF s l = getF s r := by unfold getF; rw [h.lk]
theorem Rl.chg {d x : Dk} (h : Rl d x) {l r : List Ft} (hl : RlL l r) (late : Bool) : (d.chg l late).2 = (x.chg r late).2 ∧ Rl (d.chg l late).1 (x.chg r late).1 := by
 unfold Dk.chg
 rw [h.fuse]
 refine ⟨rfl, ⟨?_, rfl, rfl, by show IntKind.i64.wrap (d.ops + 1) = IntKind.i64.wrap (x.ops + 1); rw [h.ops]⟩⟩
 show RlL (if bnt x.fuse = true ∧ late = false then d.l else l) (if bnt x.fuse = true ∧ late = false then x.l else r)
 split
 ·exact h.l
 ·exact hl
theorem Rl.wrt {d x : Dk} (h : Rl d x) (s b : ByteArray) : (d.wrt s b).2 = (x.wrtR s b).2 ∧ Rl (d.wrt s b).1 (x.wrtR s b).1 := by
 unfold Dk.wrt Dk.wrtR
 rw [h.dead]
 repeat' split
 ·exact ⟨rfl, h⟩
 ·exact ⟨rfl, h⟩
 ·exact ⟨rfl, h⟩
 ·rw [h.l.get]
  exact h.chg (h.l.put _ _ _) true
theorem Rl.app {d x : Dk} (h : Rl d x) (s b : ByteArray) : (d.app s b).2 = (x.appR s b).2 ∧ Rl (d.app s b).1 (x.appR s b).1 := by
 unfold Dk.app Dk.appR
 rw [h.l.get]
 exact h.wrt _ _
theorem Rl.syn {d x : Dk} (h : Rl d x) (s : ByteArray) : (d.syn s).2 = (x.synR s).2 ∧ Rl (d.syn s).1 (x.synR s).1 := by
 unfold Dk.syn Dk.synR
 rw [h.dead, h.l.lk]
 split
 ·exact ⟨rfl, h⟩
 ·split
  ·exact ⟨rfl, h⟩
  ·cases lkF s x.l with
   | none => exact ⟨rfl, h⟩
   | some p => exact h.chg (h.l.put _ _ _) false
theorem Rl.ren {d x : Dk} {n : Nat} (hd : d.Ok n) (h : Rl d x) (s t : ByteArray) : (d.ren s t).2 = (x.renR s t).2 ∧ Rl (d.ren s t).1 (x.renR s t).1 := by
 unfold Dk.ren Dk.renR
 rw [h.dead, h.l.lk]
 split
 ·exact ⟨rfl, h⟩
 ·split
  ·exact ⟨rfl, h⟩
  ·cases lkF s x.l with
   | none => exact ⟨rfl, h⟩
   | some p => exact h.chg ((h.l.del hd.nodup _).put _ _ _) false
theorem Rl.rem {d x : Dk} {n : Nat} (hd : d.Ok n) (h : Rl d x) (s : ByteArray) : (d.rem s).2 = (x.remR s).2 ∧ Rl (d.rem s).1 (x.remR s).1 := by
 unfold Dk.rem Dk.remR
 rw [h.dead, h.l.lk]
 split
 ·exact ⟨rfl, h⟩
 ·split
  ·exact ⟨rfl, h⟩
  ·cases lkF s x.l with
   | none => exact ⟨rfl, h⟩
   | some p => exact h.chg (h.l.del hd.nodup _) false
theorem Rl.fus {d x : Dk} (h : Rl d x) (k : Int) : (d.fus k).2 = (x.fus k).2 ∧ Rl (d.fus k).1 (x.fus k).1 := by
 unfold Dk.fus
 rw [h.dead]
 split
 ·exact ⟨rfl, h⟩
 ·exact ⟨rfl, h.l, rfl, rfl, h.ops⟩
theorem map_names (keep : Int) (l : List Ft) : (l.map (bootE keep)).map (·.1) = l.map (·.1) := by rw [List.map_map]; rfl
theorem Rl.bot {d x : Dk} (h : Rl d x) (k : Int) : Rl (d.bot k) (x.bot k) := ⟨⟨fun t => by
  show lkF t (d.l.map (bootE k)) = lkF t (x.l.map (bootE k))
  rw [fnd_map, fnd_map, h.l.lk], by
  show Srt ((x.l.map (bootE k)).map (·.1))
  rw [map_names]
  exact h.l.srt⟩, rfl, rfl, h.ops⟩
theorem doM_rel {a : Ac} {d x : Dk} {n : Nat} (hd : d.Ok n) (h : Rl d x) : (doM a d x).2.2 = true ∧ Rl (doM a d x).1 (doM a d x).2.1 := by
 have go : ∀ {p q : Dk × Int}, p.2 = q.2 ∧ Rl p.1 q.1 → (p.2 == q.2) = true ∧ Rl p.1 q.1 := fun h => ⟨beq_iff_eq.2 h.1, h.2⟩
 unfold doM
 repeat' split
 ·exact go (h.wrt _ _)
 ·exact go (h.app _ _)
 ·exact go (h.syn _)
 ·exact go (h.ren hd _ _)
 ·exact go (h.rem hd _)
 ·exact go (h.fus _)
 ·exact ⟨rfl, h.bot _⟩
theorem rlNil : Rl ⟨[], 0, false, 0⟩ ⟨[], 0, false, 0⟩ := ⟨⟨fun _ => rfl, List.Pairwise.nil⟩, rfl, rfl, rfl⟩
/-- the names, in one order -/
theorem srt_nodup {l : List ByteArray} (h : Srt l) : l.Nodup := List.Pairwise.imp (fun {a b} hab e => by subst e; rw [bl_irr] at hab; cases hab) h
theorem mem_names {t : ByteArray} {l : List Ft} : t ∈ l.map (·.1) ↔ lkF t l ≠ none := by rw [Ne, fnd_mem, Classical.not_not]
theorem nms_eq {d x : Dk} {n : Nat} (hd : d.Ok n) (h : Rl d x) : sortN d.l = x.l.map (·.1) := by
 have hx := srt_nodup h.l.srt
 have hp : (d.l.map (·.1)).Perm (x.l.map (·.1)) := (List.perm_ext_iff_of_nodup hd.nodup hx).2 fun t => by rw [mem_names, mem_names, h.l.lk]
 have hp2 : (d.l.map (·.1.data.toList)).Perm (x.l.map (·.1.data.toList)) := by
  have := hp.map (·.data.toList)
  rw [List.map_map, List.map_map] at this
  exact this
 have hs : (x.l.map (·.1.data.toList)).Pairwise (fun a b => leB a b = true) := by
  have e : x.l.map (·.1.data.toList) = (x.l.map (·.1)).map (·.data.toList) := by rw [List.map_map]; rfl
  rw [e]
  refine List.pairwise_map.2 (List.Pairwise.imp (fun {a b} hab => ?_) h.l.srt)
  have hab : Op.bytesLess a.toList b.toList = true := hab
  rw [Go.Proofs.bytesLess_eq, decide_eq_true_eq, ByteArray.toList_eq, ByteArray.toList_eq] at hab
  show decide (a.data.toList ≤ b.data.toList) = true
  rw [decide_eq_true_eq]
  exact List.le_of_lt hab
 unfold sortN
 rw [mergeSort_of_perm hp2, List.mergeSort_of_pairwise hs, List.map_map]
 refine List.map_congr_left fun e he => ?_
 show ByteArray.mk e.1.data.toList.toArray = e.1
 simp
theorem len_eq {d x : Dk} {n : Nat} (hd : d.Ok n) (h : Rl d x) : d.l.length = x.l.length := by
 have := congrArg List.length (nms_eq hd h)
 rw [sortN_length, List.length_map] at this
 exact this
end Go.Proofs.Ytndacaemcakmkaa
