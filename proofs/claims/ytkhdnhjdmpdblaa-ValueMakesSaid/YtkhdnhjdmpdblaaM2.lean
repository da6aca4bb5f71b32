/- Contracts of functions of the program, and the laws that stand on them: what each function answers, whatever its arguments. -/
import Derived.Test.YtkhdnhjdmpdblaaM1
import Derived.Test.YtkhdnhjdmpdblaaVw8
import Derived.Test.YtkhdnhjdmpdblaaVD
import Derived.Test.YtkhdnhjdmpdblaaX0
import Derived.Sort.Walk0
set_option linter.unusedSectionVars false
set_option linter.unnecessarySimpa false
namespace Go.Proofs.Ytkhdnhjdmpdblaa
set_option linter.unusedSimpArgs false
set_option linter.unusedVariables false
set_option maxRecDepth 100000
set_option maxHeartbeats 8000000
open Go Go.VA
def sortB (l : List ByteArray) : List ByteArray := ((upto (fun j => (l.getD j ByteArray.empty).data.toList) l.length).mergeSort (fun x y => decide (x ≤ y))).map (fun x => ⟨x.toArray⟩)
theorem sortB_length (l : List ByteArray) : (sortB l).length = l.length := by unfold sortB; rw [List.length_map, List.length_mergeSort, upto_length]
theorem sortB_cell (l : List ByteArray) (i : Nat) (hi : i < l.length) : ((((upto (fun j => (l.getD j ByteArray.empty).data.toList) l.length).mergeSort (fun x y => decide (x ≤ y))).map Go.Proofs.encStr)[i]?) = some (.string ((sortB l).getD i ByteArray.empty)) := by
  unfold sortB
  rw [List.getElem?_map, List.getD_eq_getElem?_getD, List.getElem?_map]
  cases h : ((upto (fun j => (l.getD j ByteArray.empty).data.toList) l.length).mergeSort (fun x y => decide (x ≤ y)))[i]? with
  | none =>
    exfalso
    rw [List.getElem?_eq_none_iff, List.length_mergeSort, upto_length] at h
    omega
  | some x => rfl
theorem cell_lt {w : World} {b o : Nat} {u : Value} (h : w.cell? ⟨b, o, none⟩ = some u) : b < w.heap.size := by
  rcases Nat.lt_or_ge b w.heap.size with h' | h'
  · exact h'
  · simp [World.cell?, Array.getElem?_eq_none h'] at h
theorem gSorted (t : Bool) (l : List ByteArray) (hl : l.length ≤ 1000000) : GCall Try.prog gl 20 [.box [.c (.sl t 1 l.length (rS l))]] [.fn 36 [] [.ptr 0 0]] [.box [.c (.sl t 1 l.length (rS l))]] [.c (.sl false 1 l.length (rS (sortB l)))] where
  callable := ⟨_, Try.func20, by kernel_rfl, by kernel_rfl⟩
  len := Nat.le_refl _
  kinds := fun i hi => rfl
  livep := fun i hi => by
    match i, hi with
    | 0, _ => rfl
  liveq := fun i hi => by
    match i, hi with
    | 0, _ => rfl
  run := fun w M B vals hro hL hG hv => by
    have hlen := hL.len
    obtain ⟨bo, rfl⟩ : ∃ bo, B = [bo] := List.length_eq_one_iff.1 hlen
    obtain ⟨bi, cs, ty, rfl, hblk, ho, ⟨hsz, hn⟩, _, hcs⟩ := hL.obj 0 bo rfl
    have hvals : vals = #[.func (.func 36) #[] #[.pointer (some ⟨bi.b, 0, none⟩)]] := by
      simp only [RelVs] at hv
      obtain ⟨u, r, e1, h1, rfl⟩ := hv
      simp only [RelV, RelVs] at h1
      obtain ⟨a1, a2, rfl, e2, u2, r2, e3, ⟨bi', hb', rfl⟩, rfl⟩ := h1
      have hb' : some bi = some bi' := by simpa using hb'
      cases hb'
      apply Array.ext'
      rw [e1]
      have ea : a1 = #[] := Array.ext' e2
      have eb : a2 = #[.pointer (some ⟨bi.b, bi.o + 0, none⟩)] := Array.ext' e3
      rw [ea, eb, ho]
    subst hvals
    simp only [RelVs] at hcs
    obtain ⟨u, r, e1, h1, rfl⟩ := hcs
    have hcell : w.cell? ⟨bi.b, 0, none⟩ = some u := by
      have : cs[0]? = some u := by rw [← Array.getElem?_toList, e1]; rfl
      simp [World.cell?, hblk, this]
    simp only [RelV, RepC] at h1
    obtain ⟨a, cap, rfl, ⟨hc1, hc2⟩, h1⟩ := h1
    have hlt : bi.b < w.heap.size := hL.bnd 0 bi rfl
    refine (sortedW bi.b a l.length cap (fun j => (l.getD j ByteArray.empty).data.toList) (by omega) w hlt hcell ?_).mono ?_
    · rcases h1 with h1 | ⟨b, o, rfl, h1⟩
      · exact .inl h1
      · by_cases h0 : l.length = 0
        · exact .inl h0
        · refine .inr ⟨b, o, rfl, ?_, fun j hj => ?_⟩
          · obtain ⟨_, ⟨u, ⟨_, h3⟩, _⟩, _⟩ := h1 0 (by omega)
            exact cell_lt h3
          · obtain ⟨_, h2⟩ := h1 j hj
            have : RepCs (Sr M [some bi] [.box [.c (.sl t 1 l.length (rS l))]] w) (Sr M [some bi] [.box [.c (.sl t 1 l.length (rS l))]] w t b) (o + j * 1) [.v (.string (l.getD j ByteArray.empty))] := h2
            simp only [RepCs, RepC] at this
            obtain ⟨⟨u, ⟨_, h3⟩, rfl, _⟩, _⟩ := this
            rw [Nat.mul_one] at h3
            exact h3
    · rintro e w' ⟨v, rfl, hrow, hb⟩
      have hL' := RelL_ext hb hL
      refine ⟨v, [some bi], rfl, ⟨hb.os, hb.tape, hb.output, hb.size, fun k hk _ => hb.block k hk⟩, hL', ?_, fun id bi' h => ?_, fun id _ _ => rfl⟩
      · show RelV _ _ (.c _) v
        simp only [RelV, RepC]
        rcases hrow.2 with ⟨rfl, hz⟩ | ⟨g, cp, cur, rfl, hbase, hg, r1, r2, r3, r4⟩
        · exact ⟨none, 0, by rw [hz], ⟨by omega, by omega⟩, .inl hz⟩
        · refine ⟨_, cp, rfl, ⟨r1, by omega⟩, .inr ⟨g, 0, rfl, fun i hi => ⟨rfl, ?_⟩⟩⟩
          show RepCs _ _ _ [.v (.string ((sortB l).getD i ByteArray.empty))]
          simp only [RepCs, RepC]
          refine ⟨⟨_, ⟨?_, ?_⟩, rfl, rfl⟩, trivial⟩
          · intro hm
            have := MU_lt hL false g hm
            omega
          · have h5 := sortB_cell l i hi
            rw [← r4, List.getElem?_take] at h5
            split at h5
            · simp only [World.cell?, hg, Nat.zero_add, Nat.mul_one]
              rw [← Array.getElem?_toList]
              exact h5
            · simp at h5
      · exact .inr ⟨id, bi', h, rfl⟩
end Go.Proofs.Ytkhdnhjdmpdblaa

namespace Go.Proofs.Ytkhdnhjdmpdblaa
set_option linter.unusedSimpArgs false
set_option linter.unusedVariables false
set_option maxRecDepth 100000
set_option maxHeartbeats 8000000
open Go Go.VA
theorem upto_map (l : List ByteArray) : upto (fun j => (l.getD j ByteArray.empty).data.toList) l.length = l.map fun s => s.data.toList := by
  refine List.ext_getElem (by simp [upto]) fun i h1 h2 => ?_
  have hi : i < l.length := by simpa using h2
  simp [upto, hi]
theorem sortB_perm (l : List ByteArray) : (sortB l).Perm l := by
  unfold sortB
  rw [upto_map]
  have h := (List.mergeSort_perm (l.map fun s => s.data.toList) (fun x y => decide (x ≤ y))).map (fun x => (⟨x.toArray⟩ : ByteArray))
  refine h.trans ?_
  rw [List.map_map]
  have : (l.map ((fun x => (⟨x.toArray⟩ : ByteArray)) ∘ fun s => s.data.toList)) = l := by
    conv => rhs; rw [← List.map_id l]
    refine List.map_congr_left fun s _ => ?_
    rfl
  rw [this]
theorem sortB_le (l : List ByteArray) : (sortB l).Pairwise fun x y => x.toList ≤ y.toList := by
  unfold sortB
  rw [List.pairwise_map]
  have h := List.pairwise_mergeSort (le := fun x y : List UInt8 => decide (x ≤ y)) (fun a b c h1 h2 => by
    simp only [decide_eq_true_eq] at *; exact List.le_trans h1 h2) (fun a b => by
    simp only [Bool.or_eq_true, decide_eq_true_eq]; exact List.le_total a b) (upto (fun j => (l.getD j ByteArray.empty).data.toList) l.length)
  refine h.imp fun {a b} h => ?_
  simp only [decide_eq_true_eq] at h
  rw [ByteArray.toList_eq, ByteArray.toList_eq]
  simpa using h
def fnd (ks : List ByteArray) (c : Nat) (s : ByteArray) : Option Nat := (List.range c).find? fun i => s == ks.getD i ByteArray.empty
def mapK (ks : List ByteArray) (c : Nat) : List (Value × AV) := (List.range c).map fun i => (.string (ks.getD i ByteArray.empty), intA .i64 (i : Int))
theorem mOk_mapK (ks : List ByteArray) (c : Nat) : mOk .str (mapK ks c) = true := by
  unfold mapK
  generalize List.range c = l
  induction l with
  | nil => rfl
  | cons x r ih => simp only [List.map_cons, mOk, kOk]; exact ih
theorem mFind_mapK (ks : List ByteArray) (c : Nat) (s : ByteArray) : mFind (.string s) (mapK ks c) = (fnd ks c s).map fun i => intA .i64 (i : Int) := by
  unfold mapK fnd
  generalize List.range c = l
  induction l with
  | nil => rfl
  | cons x r ih =>
    simp only [List.map_cons, mFind, keqV, List.find?_cons]
    cases s == ks.getD x ByteArray.empty with
    | true => rfl
    | false => exact ih
theorem mPut_new {k : Value} {y : AV} : ∀ {m : List (Value × AV)}, mFind k m = none → mPut k y m = m ++ [(k, y)]
  | [], _ => rfl
  | p :: r, h => by
    simp only [mFind] at h
    split at h
    · simp at h
    · rename_i hq
      simp only [mPut, hq, List.cons_append]
      rw [mPut_new h]
theorem mapK_put (ks : List ByteArray) (c : Nat) (h : fnd ks c (ks.getD c ByteArray.empty) = none) : mPut (.string (ks.getD c ByteArray.empty)) (intA .i64 (c : Int)) (mapK ks c) = mapK ks (c + 1) := by
  rw [mPut_new (by rw [mFind_mapK, h]; rfl)]
  unfold mapK
  rw [List.range_succ, List.map_append]; rfl
def isT (o : Option Nat) : Bool := match o with | some _ => true | none => false
theorem mLawK (ks : List ByteArray) (c : Nat) (s : ByteArray) : MFind (.string s) (.c (.v (.int .i64 0))) (mapK ks c) (intA .i64 (((fnd ks c s).getD 0 : Nat) : Int), isT (fnd ks c s)) := by
  unfold MFind
  rw [mFind_mapK]
  cases fnd ks c s with
  | none => exact ⟨Le.refl _, rfl⟩
  | some p => exact ⟨Le.refl _, rfl⟩
def dupB (ks : List ByteArray) (n : Nat) : Bool := (List.range n).any fun i => isT (fnd ks i (ks.getD i ByteArray.empty))
theorem dup_t {ks : List ByteArray} {n c : Nat} (hc : c < n) (h : isT (fnd ks c (ks.getD c ByteArray.empty)) = true) : dupB ks n = true :=
  List.any_eq_true.2 ⟨c, List.mem_range.2 hc, h⟩
theorem dup_f {ks : List ByteArray} {n : Nat} (h : ∀ i, i < n → isT (fnd ks i (ks.getD i ByteArray.empty)) = false) : dupB ks n = false := by
  unfold dupB
  rw [List.any_eq_false]
  intro i hi
  rw [h i (List.mem_range.1 hi)]
  simp
theorem isT_none {o : Option Nat} (h : isT o = false) : o = none := by cases o with | none => rfl | some _ => simp [isT] at h
def mkL (ks : List ByteArray) (vs : List V) : List V := (sortB ks).map fun k => vs.getD ((fnd ks ks.length k).getD 0) V.z
def mkV (ks : List ByteArray) (vs : List V) : V := .mk 5 0 ByteArray.empty (mkL ks vs) (sortB ks) 0 0 false
theorem mkL_length (ks : List ByteArray) (vs : List V) : (mkL ks vs).length = ks.length := by unfold mkL; rw [List.length_map, sortB_length]
theorem fnd_lt {ks : List ByteArray} {c i : Nat} {s : ByteArray} (h : fnd ks c s = some i) : i < c ∧ s = ks.getD i ByteArray.empty := by
  unfold fnd at h
  exact ⟨List.mem_range.1 (List.mem_of_find?_eq_some h), ba_beq.1 (by simpa using List.find?_some h)⟩
end Go.Proofs.Ytkhdnhjdmpdblaa

namespace Go.Proofs.Ytkhdnhjdmpdblaa
set_option linter.unusedSimpArgs false
set_option linter.unusedVariables false
set_option maxRecDepth 100000
set_option maxHeartbeats 8000000
open Go Go.VA
theorem fnd_none {ks : List ByteArray} {c : Nat} {s : ByteArray} (h : fnd ks c s = none) : ∀ i, i < c → s ≠ ks.getD i ByteArray.empty := by
  unfold fnd at h
  rw [List.find?_eq_none] at h
  intro i hi e
  exact h i (List.mem_range.2 hi) (by rw [ba_beq]; exact e)
theorem dup_ne {ks : List ByteArray} {n : Nat} (h : dupB ks n = false) : ∀ i j, i < j → j < n → ks.getD i ByteArray.empty ≠ ks.getD j ByteArray.empty := by
  intro i j hij hj e
  unfold dupB at h
  rw [List.any_eq_false] at h
  have h1 := h j (List.mem_range.2 hj)
  have h2 := isT_none (by simpa using h1)
  exact fnd_none h2 i hij e.symm
theorem fnd_self {ks : List ByteArray} {n : Nat} (h : dupB ks n = false) {k : Nat} (hk : k < n) : fnd ks n (ks.getD k ByteArray.empty) = some k := by
  cases hf : fnd ks n (ks.getD k ByteArray.empty) with
  | none => exact absurd rfl (fnd_none hf k hk)
  | some i =>
    obtain ⟨h1, h2⟩ := fnd_lt hf
    rcases Nat.lt_trichotomy i k with h3 | h3 | h3
    · exact absurd h2.symm (dup_ne h i k h3 hk)
    · rw [h3]
    · exact absurd h2 (dup_ne h k i h3 h1)
theorem nodup_of {ks : List ByteArray} (h : dupB ks ks.length = false) : ks.Nodup := by
  rw [List.nodup_iff_pairwise_ne, List.pairwise_iff_getElem]
  intro i j hi hj hij
  have := dup_ne h i j hij hj
  simpa [List.getD_eq_getElem?_getD, hi, hj] using this
theorem sortB_lt {ks : List ByteArray} (h : dupB ks ks.length = false) {k : Nat} (h0 : 0 < k) (hk : k < ks.length) : Op.bytesLess ((sortB ks).getD (k - 1) ByteArray.empty).toList ((sortB ks).getD k ByteArray.empty).toList = true := by
  rw [Go.Proofs.bytesLess_eq, decide_eq_true_eq]
  have hl := sortB_length ks
  have hle := (List.pairwise_iff_getElem.1 (sortB_le ks)) (k - 1) k (by omega) (by omega) (by omega)
  have hn : (sortB ks).Nodup := (sortB_perm ks).nodup_iff.2 (nodup_of h)
  have hne := (List.pairwise_iff_getElem.1 (List.nodup_iff_pairwise_ne.1 hn)) (k - 1) k (by omega) (by omega) (by omega)
  rw [List.getD_eq_getElem?_getD, List.getD_eq_getElem?_getD, List.getElem?_eq_getElem (by omega), List.getElem?_eq_getElem (by omega)]
  show (sortB ks)[k - 1].toList < (sortB ks)[k].toList
  rcases List.le_iff_lt_or_eq.1 hle with h | h
  · exact h
  · exfalso
    apply hne
    rw [ByteArray.toList_eq, ByteArray.toList_eq] at h
    exact ByteArray.ext (Array.toList_inj.1 h)
theorem fidx_some {α : Type} {p : α → Bool} : ∀ {l : List α} {c : Nat} {x : α}, x ∈ l → p x = true → 0 ≤ fidx p l c
  | y :: r, c, x, hx, h => by
    simp only [fidx]
    split
    · omega
    · rename_i hp
      rcases List.mem_cons.1 hx with rfl | hx
      · exact absurd h hp
      · exact fidx_some hx h
theorem mk_find {ks : List ByteArray} {vs : List V} (hd : dupB ks ks.length = false) {k : Nat} (hk : k < ks.length) (sec : Bool) :
    0 ≤ findV (.mk 5 0 ByteArray.empty (mkL ks vs) (sortB ks) 0 0 sec) (ks.getD k ByteArray.empty) ∧ findV (.mk 5 0 ByteArray.empty (mkL ks vs) (sortB ks) 0 0 sec) (ks.getD k ByteArray.empty) < (ks.length : Int) ∧
    (mkL ks vs).getD (findV (.mk 5 0 ByteArray.empty (mkL ks vs) (sortB ks) 0 0 sec) (ks.getD k ByteArray.empty)).toNat V.z = vs.getD k V.z := by
  have e : findV (.mk 5 0 ByteArray.empty (mkL ks vs) (sortB ks) 0 0 sec) (ks.getD k ByteArray.empty) = fidx (fun x => eqs x (ks.getD k ByteArray.empty)) (sortB ks) 0 := by
    unfold findV
    have hn : nIt (.mk 5 0 ByteArray.empty (mkL ks vs) (sortB ks) 0 0 sec) = ks.length := by
      show (if _ then _ else _) = _
      simp [nPairs, V.k, V.l, V.ks, mkL_length, sortB_length]
    rw [hn, List.take_of_length_le (by show (sortB ks).length ≤ _; rw [sortB_length]; exact Nat.le_refl _)]
    rfl
  have hm : ks.getD k ByteArray.empty ∈ sortB ks := by
    rw [(sortB_perm ks).mem_iff, List.getD_eq_getElem?_getD, List.getElem?_eq_getElem hk]
    exact List.getElem_mem _
  have h0 := fidx_some (p := fun x => eqs x (ks.getD k ByteArray.empty)) (c := 0) hm (eqs_refl _)
  obtain ⟨i, x, h1, h2, h3⟩ := fidx_pos h0
  rw [e, h3]
  have hi : i < (sortB ks).length := (List.getElem?_eq_some_iff.1 h1).1
  rw [sortB_length] at hi
  refine ⟨by omega, by omega, ?_⟩
  have hx : x = ks.getD k ByteArray.empty := eqs_iff.1 h2
  have ei : ((0 + i : Nat) : Int).toNat = i := by omega
  rw [ei]
  unfold mkL
  rw [List.getD_eq_getElem?_getD, List.getElem?_map, h1, Option.map_some, hx, fnd_self hd hk]
  rfl
end Go.Proofs.Ytkhdnhjdmpdblaa
