/- Contracts of functions of the program, and the laws that stand on them: what each function answers, whatever its arguments. -/
import Derived.Test.YtndacaemcakmkaaD33
set_option linter.unusedSectionVars false
set_option linter.unnecessarySimpa false
namespace Go.Proofs.Ytndacaemcakmkaa
set_option linter.unusedSimpArgs false
set_option linter.unusedVariables false
set_option maxRecDepth 100000
set_option maxHeartbeats 8000000
open Go Go.VA Go.RowKit
/-! ### nothing behind nothing -/
theorem aGrow0 : ACall Try.prog gl 58 [.c (.v (.slice none 0 0)), intA .i64 0] [] (.c (.v (.slice none 0 0))) := by
 refine acall_of_vc htb hmix (f := 58) rfl rfl rfl (by kernel_rfl) rfl rfl ?_; conv => whnf
 repeat' (first | (refine And.intro (fun h => ?_) (fun h => ?_) <;> (first | (with_reducible have hd : _ < _ := of_decide_eq_true h) | (with_reducible have hd : ¬ (_ < _) := of_decide_eq_false h) | fail) <;> (first | exact absurd h (by decide) | (conv => whnf))) | ((with_reducible refine NilOr.l ?_); conv => whnf) | fail)
 all_goals try (exfalso; revert h; decide)
 all_goals exact Le.refl _
theorem gConcat0 (t : Bool) (N : Nat) (f : Nat → List C) (tg : Nat → Bool) (ps : Nat → Nat × (Nat → List C)) (hf : ∀ i, i < N → f i = [.sl (tg i) 1 (ps i).1 (ps i).2]) (h0 : ∀ i, i < N → (ps i).1 = 0) (hpos : 0 < N) :
  GCall Try.prog gl 34 [] [.c (.sl t 1 N f)] [.row 1 0 zF] [.own 0 1 0 0] := by
 refine gcall_of_vcb htb hmix (f := 34) rfl rfl rfl (by kernel_rfl) rfl rfl rfl fun hb hb2 => ?_; simp only [bndOs, bndO, gbnds, AV.gbnd, bnds, C.bnd, true_and, and_true] at hb hb2; conv => whnf
 repeat' (first | ((with_reducible refine NilOr.l ?_); conv => whnf) | fail)
 refine loopI Nat (fun c => c ≤ N) (fun c => [(3, intA .i64 0), (11, intA .i64 c)]) (fun c => [.row (tb 5).sz 0 fun x => []]) (fun c => N - c) 0 (Nat.zero_le _) ?_ (fun _ => rfl) fun c hc => ?_
 ·(refine And.intro ?_ (And.intro ?_ (And.intro ?_ rfl)) <;> (conv => whnf) <;> repeat' (first | exact trivial | exact LeE.of (Le.refl _) | (first | exact rfl | exact fun i hi => LeCs.refl _ | fail) | ((with_reducible refine And.intro ?_ ?_) <;> conv => whnf)))
 ·change c ≤ N at hc
  rcases Nat.lt_or_ge c N with hcl | hcl
  ·have ec : f ((c : Int)).toNat = [.sl (tg c) 1 (ps c).1 (ps c).2] := hf c hcl
   have es := h0 c hcl
   conv => whnf
   repeat' (first | (refine And.intro (fun h => ?_) (fun h => ?_) <;> (first | (with_reducible have hd : _ < _ := of_decide_eq_true h) | (with_reducible have hd : ¬ (_ < _) := of_decide_eq_false h) | fail) <;> (first | (conv => whnf))) | (refine And.intro ?_ ?_; (focus (first | (refine chainI ?_; (first | omega | fail)) | fail)); conv => whnf) | (rw [ec]; conv => whnf))
   all_goals try (exfalso; rw [es] at hd; exact absurd hd (by decide))
   all_goals try (exfalso; omega)
   refine ⟨c + 1, hcl, ?_, by show N - (c + 1) < N - c; omega⟩
   (refine And.intro ?_ (And.intro ?_ (And.intro ?_ rfl)) <;> (conv => whnf) <;> repeat' (first | exact trivial | exact LeE.of (Le.refl _) | (with_reducible refine LeE.of ?_) | (first | exact rfl | exact leI (by first | rfl | (rw [wrap64 (by omega) (by omega)]; omega) | fail) | exact fun i hi => LeCs.refl _ | fail) | ((with_reducible refine And.intro ?_ ?_) <;> conv => whnf)))
   all_goals exact leI (by rw [es]; rfl)
  ·obtain rfl : c = N := by omega
   conv => whnf
   repeat' (first | (refine Exists.intro _ (And.intro (aGrow0) ?_); conv => whnf) | (refine And.intro (fun h => ?_) (fun h => ?_) <;> (first | (with_reducible have hd : _ < _ := of_decide_eq_true h) | (with_reducible have hd : ¬ (_ < _) := of_decide_eq_false h) | fail) <;> (first | (conv => whnf))) | (refine And.intro ?_ ?_; (focus (first | (refine chainI ?_; (first | omega | fail)) | fail)); conv => whnf) | ((with_reducible refine xc_pure ?_); conv => whnf))
   all_goals try (exfalso; omega)
   refine loopI Nat (fun d => d ≤ c) (fun d => [(6, .own 1 1 0 0), (27, intA .i64 d)]) (fun d => [.row (tb 5).sz 0 fun x => [], .row 1 0 zF]) (fun d => c - d) 0 (Nat.zero_le _) ?_ (fun _ => rfl) fun d hd0 => ?_
   ·(refine And.intro ?_ (And.intro ?_ (And.intro ?_ rfl)) <;> (conv => whnf) <;> repeat' (first | exact trivial | exact LeE.of (Le.refl _) | exact LeE.nil rfl | (first | exact rfl | exact fun i hi => LeCs.refl _ | fail) | ((with_reducible refine And.intro ?_ ?_) <;> conv => whnf)))
   ·change d ≤ c at hd0
    rcases Nat.lt_or_ge d c with hdl | hdl
    ·have ec : f ((d : Int)).toNat = [.sl (tg d) 1 (ps d).1 (ps d).2] := hf d hdl
     have es := h0 d hdl
     have hB : (0 + (ps d).1) * (tb 5).bytes ≤ 140737488355328 := by rw [es]; decide
     conv => whnf
     repeat' (first | (refine And.intro (fun h => ?_) (fun h => ?_) <;> (first | (with_reducible have hd : _ < _ := of_decide_eq_true h) | (with_reducible have hd : ¬ (_ < _) := of_decide_eq_false h) | fail) <;> (first | (conv => whnf))) | (refine And.intro ?_ ?_; (focus (first | exact rfl | (first | exact hB | fail) | (refine chainI ?_; (first | omega | fail)) | (first | omega | fail) | fail)); conv => whnf) | (rw [ec]; conv => whnf))
     all_goals try (exfalso; omega)
     refine ⟨d + 1, hdl, ?_, by show c - (d + 1) < c - d; omega⟩
     (refine And.intro ?_ (And.intro ?_ (And.intro ?_ rfl)) <;> (conv => whnf) <;> repeat' (first | exact trivial | exact LeE.of (Le.refl _) | (with_reducible refine LeE.of ?_) | (first | exact rfl | exact leI (by first | rfl | (rw [wrap64 (by omega) (by omega)]; omega) | fail) | exact fun i hi => LeCs.refl _ | exact leOwn (by first | rfl | omega)) | ((with_reducible refine And.intro ?_ ?_) <;> conv => whnf)))
     all_goals first
      | omega
      | exact fun i hi => absurd hi (Nat.not_lt_zero _)
      | exact leOwn (by omega)
    ·obtain rfl : d = c := by omega
     conv => whnf
     repeat' (first | (refine And.intro (fun h => ?_) (fun h => ?_) <;> (first | (with_reducible have hd : _ < _ := of_decide_eq_true h) | (with_reducible have hd : ¬ (_ < _) := of_decide_eq_false h) | fail) <;> (first | (conv => whnf))) | (refine And.intro ?_ ?_; (focus (first | exact rfl | (refine chainI ?_; (first | omega | fail)) | fail)); conv => whnf) | fail)
     all_goals try (exfalso; omega)
     ((conv => whnf); repeat' (first | exact trivial | exact rfl | exact (fun i hi => LeCs.refl _) | ((with_reducible refine And.intro ?_ ?_) <;> conv => whnf)))
theorem aConcat2Z (t : Bool) (f1 f2 g : Nat → List C) : ACall Try.prog gl 34 [.c (.sl false 1 2 (nthC [[.sl false 1 0 f1], [.sl t 1 0 f2]]))] [] (.c (.sl false 1 0 g)) := by
 have h := ACall.of_gcall (gConcat0 false 2 (nthC [[.sl false 1 0 f1], [.sl t 1 0 f2]]) (fun i => if i = 0 then false else t) (fun i => if i = 0 then (0, f1) else (0, f2)) (fun i hi => by
  match i, hi with
  | 0, _ => rfl
  | 1, _ => rfl) (fun i hi => by
  match i, hi with
  | 0, _ => rfl
  | 1, _ => rfl) (by decide))
 exact h.res rfl (leSl rfl fun i hi => absurd hi (Nat.not_lt_zero _))
/-- bytes behind bytes -/
theorem cat_str (x b : ByteArray) : catF 0 x.size (strCells x) (strCells b) = strCells (x ++ b) := by
 funext i
 unfold catF strCells
 have hx : x.size = x.data.toList.length := rfl
 have e : (x ++ b).data.toList = x.data.toList ++ b.data.toList := by simp
 rw [e]
 simp only [Nat.zero_add]
 split
 ·rename_i h
  rw [List.getElem?_append_left (by omega)]
 ·rename_i h
  rw [List.getElem?_append_right (by omega), hx]
theorem cat_size (x b : ByteArray) : (x ++ b).size = x.size + b.size := by simp
theorem aConcatS (t : Bool) (x b : ByteArray) (hN : x.size + b.size ≤ 140737488355328) : ACall Try.prog gl 34 [.c (.sl false 1 2 (nthC [[oC x], [.sl t 1 b.size (strCells b)]]))] [] (.c (oC (x ++ b))) := by
 by_cases h0 : 0 < x.size + b.size
 ·have h := aConcat2 t x.size b.size (strCells x) (strCells b) h0 hN
  rw [cat_str, ← cat_size] at h
  exact h
 ·have hx : x.size = 0 := by omega
  have hb : b.size = 0 := by omega
  have h := aConcat2Z t (strCells x) (strCells b) (strCells (x ++ b))
  have e : (x ++ b).size = 0 := by rw [cat_size]; omega
  unfold oC
  rw [hx, hb, e]
  exact h
theorem appLong (fuse ops : Int) (s : ByteArray) (hs : wordB s = true) (m : List (Value × AV)) (hm : mOk (tb 9).k m = true) (x b : ByteArray) (z : C) (q : Bool) (hq : mFnd s m (fl (oC x) z, q)) (t : Bool) (hN : x.size + b.size ≤ 140737488355328) (hn : (x ++ b).size > 262144) : GCall Try.prog gl 15 [dskB fuse false ops, .mp m] [.ptr 0 0, .c (.v (.string s)), .c (.sl t 1 b.size (strCells b))] [dskB fuse false ops, .mp m] [intA .i64 3] := by
 have G := gPutLong fuse ops false s m (x ++ b).size (strCells (x ++ b)) hn
 have N := gNames false 1 (fun _ => s) (nthC [[C.v (.string s)]]) (oneS s) (fun i _ => hs) fuse ops m
 refine gcall_of_vcb htb hmix (f := 15) rfl rfl rfl (by kernel_rfl) rfl rfl rfl fun hb hb2 => ?_; simp only [bndOs, bndO, gbnds, AV.gbnd, bnds, C.bnd, true_and, and_true] at hb hb2; conv => whnf
 repeat' (first | (refine Exists.intro _ (And.intro (aConcatS t x b hN) ?_); conv => whnf) | (refine Exists.intro _ (And.intro (hq) ?_); conv => whnf) | (refine And.intro (fun h => ?_) (fun h => ?_) <;> (first | skip) <;> (first | exact absurd h (by decide) | (conv => whnf))) | ((with_reducible refine OwnOr.l ?_); (conv => whnf)) | (refine And.intro ?_ ?_; (focus (first | exact rfl | (first | assumption) | fail)); conv => whnf) | ((with_reducible refine xc_guard ?_); (first | (refine xc_g (G) false (by first | (((conv => whnf); repeat' (first | exact trivial | exact rfl | exact LeC.refl _ | (first | exact LeMs.refl _ | fail) | ((with_reducible refine And.intro ?_ ?_) <;> conv => whnf))); done) | fail) trivial ?_) | fail); conv => whnf) | ((with_reducible refine xc_guard ?_); (first | (refine xc_g (N) false (by first | (((conv => whnf); repeat' (first | exact trivial | exact rfl | exact LeC.refl _ | (first | exact LeMs.refl _ | fail) | ((with_reducible refine And.intro ?_ ?_) <;> conv => whnf))); done) | fail) trivial ?_) | fail); conv => whnf) | ((with_reducible refine xc_pure ?_); conv => whnf))
 all_goals try (exfalso; revert h; decide)
 ((conv => whnf); repeat' (first | exact trivial | exact rfl | exact LeC.refl _ | ((with_reducible refine And.intro ?_ ?_) <;> conv => whnf)))
 all_goals exact LeMs.refl _
theorem appX (fuse fuse' ops ops' : Int) (dead' burnt : Bool) (s : ByteArray) (hs : wordB s = true) (m : List (Value × AV)) (hm : mOk (tb 9).k m = true) (x b : ByteArray) (z : C) (q : Bool) (hq : mFnd s m (fl (oC x) z, q)) (t : Bool) (hN : x.size + b.size ≤ 140737488355328) (hn : (x ++ b).size ≤ 262144)
  (hbn : GCall Try.prog gl 45 (dskB fuse false ops :: .mp m :: xP s (x ++ b).size (strCells (x ++ b))) [.ptr 0 0] (dskB fuse' dead' ops' :: .mp m :: xP s (x ++ b).size (strCells (x ++ b))) [boolA burnt]) :
  GCall Try.prog gl 15 [dskB fuse false ops, .mp m] [.ptr 0 0, .c (.v (.string s)), .c (.sl t 1 b.size (strCells b))]
   [dskB fuse' dead' ops', .mp (mPut (.string s) (fl (oC (x ++ b)) z) m)] [intA .i64 (if burnt then 21 else 0)] := by
 have G := gPut fuse fuse' ops ops' false dead' burnt s m hm (oC x) z q hq (x ++ b).size (strCells (x ++ b)) hn hbn
 have N := gNames false 1 (fun _ => s) (nthC [[C.v (.string s)]]) (oneS s) (fun i _ => hs) fuse ops m
 refine gcall_of_vcb htb hmix (f := 15) rfl rfl rfl (by kernel_rfl) rfl rfl rfl fun hb hb2 => ?_; simp only [bndOs, bndO, gbnds, AV.gbnd, bnds, C.bnd, true_and, and_true] at hb hb2; conv => whnf
 repeat' (first | (refine Exists.intro _ (And.intro (aConcatS t x b hN) ?_); conv => whnf) | (refine Exists.intro _ (And.intro (hq) ?_); conv => whnf) | (refine And.intro (fun h => ?_) (fun h => ?_) <;> (first | skip) <;> (first | exact absurd h (by decide) | (conv => whnf))) | ((with_reducible refine OwnOr.l ?_); (conv => whnf)) | (refine And.intro ?_ ?_; (focus (first | exact rfl | (first | assumption) | fail)); conv => whnf) | ((with_reducible refine xc_guard ?_); (first | (refine xc_g (G) false (by first | (((conv => whnf); repeat' (first | exact trivial | exact rfl | exact LeC.refl _ | (first | exact LeMs.refl _ | fail) | ((with_reducible refine And.intro ?_ ?_) <;> conv => whnf))); done) | fail) trivial ?_) | fail); conv => whnf) | ((with_reducible refine xc_guard ?_); (first | (refine xc_g (N) false (by first | (((conv => whnf); repeat' (first | exact trivial | exact rfl | exact LeC.refl _ | (first | exact LeMs.refl _ | fail) | ((with_reducible refine And.intro ?_ ?_) <;> conv => whnf))); done) | fail) trivial ?_) | fail); conv => whnf) | ((with_reducible refine xc_pure ?_); conv => whnf))
 all_goals try (exfalso; revert h; decide)
 ((conv => whnf); repeat' (first | exact trivial | exact rfl | exact LeC.refl _ | ((with_reducible refine And.intro ?_ ?_) <;> conv => whnf)))
 all_goals exact LeMs.refl _
section
variable (d : Dk)
theorem tAppend (s b : ByteArray) (t : Bool) (hN : (getF s d.l).1.size + b.size ≤ 140737488355328) : GCall Try.prog gl 15 [d.dB, d.mp] [.ptr 0 0, .c (.v (.string s)), .c (.sl t 1 b.size (strCells b))] [(d.app s b).1.dB, (d.app s b).1.mp] [intA .i64 (d.app s b).2] := by
 unfold Dk.app Dk.wrt
 by_cases hd : d.dead = true
 ·rw [if_pos hd]
  exact deadAppend d.fuse d.ops d.dead (mB d.l) s t _ _ 21 (by unfold nmsR; rw [if_pos hd]) (by decide)
 ·rw [if_neg hd]
  by_cases hs : wordB s = false
  ·rw [if_pos hs]
   exact deadAppend d.fuse d.ops d.dead (mB d.l) s t _ _ 1 (by unfold nmsR; rw [if_neg hd, if_pos hs]) (by decide)
  ·rw [if_neg hs]
   have hs : wordB s = true := by simpa using hs
   obtain ⟨q, hq⟩ := mB_get s d.l
   by_cases hn : ((getF s d.l).1 ++ b).size > 262144
   ·rw [if_pos hn]
    simp only [Dk.dB, Dk.mp, eqF hd]
    exact appLong d.fuse d.ops s hs (mB d.l) (mB_ok _) _ b _ q hq t hN hn
   ·rw [if_neg hn]
    have h := appX d.fuse (fzN d.fuse) d.ops (IntKind.i64.wrap (d.ops + 1)) (bnt d.fuse) (bnt d.fuse) s hs (mB d.l) (mB_ok _) _ b _ q hq t hN (by omega) (gBurnPA s _ _ d.fuse d.ops (mB d.l))
    rw [mB_put] at h
    unfold Dk.chg
    rw [if_neg (by simp)]
    simp only [Dk.dB, Dk.mp, eqF hd]
    exact h
theorem fusDead (k fuse ops : Int) (m : List (Value × AV)) : GCall Try.prog gl 28 [dskB fuse true ops, .mp m] [.ptr 0 0, intA .i64 k] [dskB fuse true ops, .mp m] [intA .i64 21] := by
 refine gcall_of_vcb htb hmix (f := 28) rfl rfl rfl (by kernel_rfl) rfl rfl rfl fun hb hb2 => ?_; simp only [bndOs, bndO, gbnds, AV.gbnd, bnds, C.bnd, true_and, and_true] at hb hb2; conv => whnf
 repeat' (first | (refine And.intro (fun h => ?_) (fun h => ?_) <;> (first | skip) <;> (first | exact absurd h (by decide) | (conv => whnf))) | (refine And.intro ?_ ?_; (focus (first | exact rfl | fail)); conv => whnf) | fail)
 all_goals try (exfalso; revert h; decide)
 ((conv => whnf); repeat' (first | exact trivial | exact rfl | exact LeC.refl _ | ((with_reducible refine And.intro ?_ ?_) <;> conv => whnf)))
 all_goals exact LeMs.refl _
theorem tFuse (k : Int) : GCall Try.prog gl 28 [d.dB, d.mp] [.ptr 0 0, intA .i64 k] [(d.fus k).1.dB, (d.fus k).1.mp] [intA .i64 (d.fus k).2] := by
 unfold Dk.fus
 by_cases hd : d.dead = true
 ·rw [if_pos hd]
  simp only [Dk.dB, Dk.mp, hd]
  exact fusDead k d.fuse d.ops _
 ·rw [if_neg hd]
  simp only [Dk.dB, Dk.mp, eqF hd]
  exact gFuse k d.fuse d.ops _
theorem tRead (s : ByteArray) (p : ByteArray × ByteArray) (h : lkF s d.l = some p) : GCall Try.prog gl 12 [d.dB, d.mp] [.ptr 0 0, .c (.v (.string s))] [d.dB, d.mp] [.c (oC p.1), intA .i64 0] :=
 gRead d.fuse d.ops d.dead s (mB d.l) (mB_ok _) p.1.size (strCells p.1) (oC p.2) (mB_some h)
abbrev flB (keep : Int) (l : List Ft) : List Fl := l.map fun e => (e.1, oC e.2.1, oC e.2.2, oC (torB keep e.2.1 e.2.2))
theorem mm_B (keep : Int) (l : List Ft) : mm (flB keep l) [] = mB l := by
 unfold mm mB
 rw [List.map_map]
 rfl
theorem mm_B2 (keep : Int) (l : List Ft) : mm (flB keep l) ((flB keep l).map (·.1.data.toList)) = mB (l.map fun e => (e.1, torB keep e.2.1 e.2.2, torB keep e.2.1 e.2.2)) := by
 unfold mm mB
 rw [List.map_map, List.map_map, List.map_map]
 refine List.map_congr_left fun e he => ?_
 have hm : e.1.data.toList ∈ (flB keep l).map (·.1.data.toList) := by
  rw [List.map_map]
  exact List.mem_map_of_mem (f := (fun x : Fl => x.1.data.toList) ∘ fun e : Ft => (e.1, oC e.2.1, oC e.2.2, oC (torB keep e.2.1 e.2.2))) he
 simp only [Function.comp]
 rw [List.map_map] at hm
 rw [if_pos hm]
theorem word_size {s : ByteArray} (h : wordB s = true) : s.size ≤ 24 := by
 unfold wordB spell at h
 simp only [Bool.and_eq_true, decide_eq_true_eq] at h
 exact h.1.2
theorem tBoot (n : Nat) (ok : d.Ok n) (hn : n < 1000000) (keep : Int) : GCall Try.prog gl 14 [d.dB, d.mp] [.ptr 0 0, intA .i64 keep] [(d.bot keep).dB, (d.bot keep).mp] [] := by
 have h := gBoot (flB keep d.l) ⟨by
   rw [List.map_map]
   exact ok.nodup, fun e he => by
   obtain ⟨f, hf, rfl⟩ := List.mem_map.1 he
   have := word_size (ok.word f hf)
   exact Nat.le_trans this (by decide), by
   rw [List.length_map]
   have := ok.len
   have : (1000000 : Nat) < maxLen := by decide
   omega, fun e he => by
   obtain ⟨f, hf, rfl⟩ := List.mem_map.1 he
   exact ⟨rfl, rfl, rfl⟩⟩ d.fuse d.ops keep d.dead (fun f hf => by
   obtain ⟨e, he, rfl⟩ := List.mem_map.1 hf
   exact btAll keep e.1 e.2.1 e.2.2 (ok.size e he).1)
 rw [mm_B, mm_B2] at h
 exact h
end
end Go.Proofs.Ytndacaemcakmkaa

namespace Go.Proofs.Ytndacaemcakmkaa
set_option linter.unusedSimpArgs false
set_option linter.unusedVariables false
set_option maxRecDepth 100000
set_option maxHeartbeats 8000000
open Go Go.VA Go.RowKit
/-! ### the document's disk: words, picks -/
theorem aSmallR (c : Int) : ACall Try.prog gl 66 [intA .u8 c] [] (boolA (smZ c)) := by
 refine acall_of_vc htb hmix (f := 66) rfl rfl rfl (by kernel_rfl) rfl rfl ?_; conv => whnf
 repeat' (fail)
 exact Go.VA.leB rfl
theorem spell_split {p : Int → Bool} {s : ByteArray} (h1 : ¬ (s.size : Int) < 1) (h2 : ¬ (s.size : Int) > 24) : spell p s = allB p s := by
 unfold spell
 have a : (s.size == 0) = false := beq_eq_false_iff_ne.2 (by omega)
 have b : s.size ≤ 24 := by omega
 simp [a, b]
theorem allB_t {p : Int → Bool} {s : ByteArray} (h : ∀ j, j < s.size → p (byteN s j) = true) : allB p s = true := by
 unfold allB
 rw [List.all_eq_true]
 intro j hj
 exact h j (by simpa using hj)
theorem allB_f {p : Int → Bool} {s : ByteArray} {c : Nat} (hc : c < s.size) (h : p (byteN s c) = false) : allB p s = false := by
 unfold allB
 rw [List.all_eq_false]
 exact ⟨c, by simpa using hc, by rw [h]; decide⟩
theorem wd_ref (c : Nat) (h : c < 256) : (!smZ (c : Int) && !(decide ((c : Int) ≥ 65) && decide ((c : Int) ≤ 90)) && !(decide ((c : Int) ≥ 48) && decide ((c : Int) ≤ 57)) && (c : Int) != 95 && (c : Int) != 45 && (c : Int) != 46) = !wdZ (c : Int) := by
 have : ∀ c : Fin 256, (!smZ (c.val : Int) && !(decide ((c.val : Int) ≥ 65) && decide ((c.val : Int) ≤ 90)) && !(decide ((c.val : Int) ≥ 48) && decide ((c.val : Int) ≤ 57)) && (c.val : Int) != 95 && (c.val : Int) != 45 && (c.val : Int) != 46) = !wdZ (c.val : Int) := by decide +kernel
 exact this ⟨c, h⟩
theorem byteN_lt (s : ByteArray) (c : Nat) : 0 ≤ byteN s c ∧ byteN s c < 256 := by
 unfold byteN
 have := UInt8.toNat_lt ((s.data.toList[c]?).getD 0)
 omega
theorem wd_refB (s : ByteArray) (c : Nat) : (!smZ (byteN s c) && !(decide (byteN s c ≥ 65) && decide (byteN s c ≤ 90)) && !(decide (byteN s c ≥ 48) && decide (byteN s c ≤ 57)) && byteN s c != 95 && byteN s c != 45 && byteN s c != 46) = !wdZ (byteN s c) := by
 have e : ((byteN s c).toNat : Int) = byteN s c := by have := byteN_lt s c; omega
 have := wd_ref (byteN s c).toNat (by have := byteN_lt s c; omega)
 rwa [e] at this
theorem aWordR (s : ByteArray) : ACall Try.prog gl 48 [.c (.v (.string s))] [] (boolA (wordB s)) := by
 refine acall_of_vc htb hmix (f := 48) rfl rfl rfl (by kernel_rfl) rfl rfl ?_; conv => whnf
 repeat' (first | (refine And.intro (fun h => ?_) (fun h => ?_) <;> (first | skip) <;> (first | (conv => whnf))) | fail)
 ·refine Go.VA.leB ?_
  unfold wordB spell
  simp only [Bool.or_eq_true, decide_eq_true_eq] at h
  rcases h with h | h
  ·have : s.size = 0 := by omega
   simp [this]
  ·have : ¬ s.size ≤ 24 := by omega
   simp [this]
 ·simp only [Bool.or_eq_false_iff, decide_eq_false_iff_not] at h
  have hw : wordB s = allB wdZ s := spell_split h.1 h.2
  rw [hw]
  refine loopI Nat (fun c => c ≤ s.size ∧ ∀ j, j < c → wdZ (byteN s j) = true) (fun c => [(3, intA .i64 c)]) (fun _ => []) (fun c => s.size - c) 0 ⟨Nat.zero_le _, fun j hj => absurd hj (Nat.not_lt_zero _)⟩ ?_ (fun _ => rfl) fun c ⟨hc, hp⟩ => ?_
  ·(refine And.intro ?_ (And.intro ?_ (And.intro ?_ rfl)) <;> (conv => whnf) <;> repeat' (first | exact trivial | exact LeE.of (Le.refl _) | (first | exact rfl | fail) | ((with_reducible refine And.intro ?_ ?_) <;> conv => whnf)))
  ·conv => whnf
   repeat' (first | (refine Exists.intro _ (And.intro (aSmallR _) ?_); conv => whnf) | (refine And.intro (fun h => ?_) (fun h => ?_) <;> (first | (with_reducible have hd : _ < _ := of_decide_eq_true h) | (with_reducible have hd : ¬ (_ < _) := of_decide_eq_false h) | skip) <;> (first | (conv => whnf))) | (refine And.intro ?_ ?_; (focus (first | (refine chainI ?_; (first | omega | fail)) | fail)); conv => whnf) | ((with_reducible refine xc_pure ?_); conv => whnf))
   ·have hcs : c < s.size := by omega
    have hq : (!smZ (byteN s c) && !(decide (byteN s c ≥ 65) && decide (byteN s c ≤ 90)) && !(decide (byteN s c ≥ 48) && decide (byteN s c ≤ 57)) && byteN s c != 95 && byteN s c != 45 && byteN s c != 46) = true := h
    rw [wd_refB] at hq
    refine Go.VA.leB ?_
    rw [allB_f hcs (by simpa using hq)]
   ·have hcs : c < s.size := by omega
    have hq : (!smZ (byteN s c) && !(decide (byteN s c ≥ 65) && decide (byteN s c ≤ 90)) && !(decide (byteN s c ≥ 48) && decide (byteN s c ≤ 57)) && byteN s c != 95 && byteN s c != 45 && byteN s c != 46) = false := h
    rw [wd_refB] at hq
    refine ⟨c + 1, ⟨hcs, fun j hj => ?_⟩, ?_, by show s.size - (c + 1) < s.size - c; omega⟩
    ·rcases Nat.lt_or_ge j c with h2 | h2
     ·exact hp j h2
     ·obtain rfl : j = c := by omega
      simpa using hq
    ·(refine And.intro ?_ (And.intro ?_ (And.intro ?_ rfl)) <;> (conv => whnf) <;> repeat' (first | exact trivial | exact LeE.of (Le.refl _) | (with_reducible refine LeE.of ?_) | (first | exact rfl | exact leI (by first | rfl | (rw [wrap64 (by omega) (by omega)]; omega) | fail) | fail) | ((with_reducible refine And.intro ?_ ?_) <;> conv => whnf)))
   ·obtain rfl : c = s.size := by omega
    refine Go.VA.leB ?_
    rw [allB_t hp]
def pickI (c n : Int) : Int := if c.tmod n < 0 then c.tmod n + n else c.tmod n
theorem pick_rg (c n : Int) (h : 1 ≤ n) : 0 ≤ pickI c n ∧ pickI c n < n := by
 unfold pickI
 have h1 := Int.tmod_lt_of_pos c (show 0 < n by omega)
 have h2 : -n < c.tmod n := by
  have := Int.lt_tmod_of_pos c (show 0 < n by omega)
  omega
 split <;> omega
theorem aPick (c n : Int) (h1 : 1 ≤ n) (h2 : n ≤ 4611686018427387904) : ACall Try.prog gl 47 [intA .i64 c, intA .i64 n] [] (intA .i64 (pickI c n)) := by
 have hq := pick_rg c n h1
 refine acall_of_vc htb hmix (f := 47) rfl rfl rfl (by kernel_rfl) rfl rfl ?_; conv => whnf
 repeat' (first | (refine And.intro (fun h => ?_) (fun h => ?_) <;> (first | (with_reducible have hd : _ < _ := of_decide_eq_true h) | (with_reducible have hd : ¬ (_ < _) := of_decide_eq_false h) | fail) <;> (first | (conv => whnf))) | (refine And.intro ?_ ?_; (focus (first | (refine chainI ?_; (first | omega | fail)) | fail)); conv => whnf) | fail)
 ·exfalso; omega
 ·have e : pickI c n = c.tmod n + n := by unfold pickI; rw [if_pos hd]
  rw [e] at hq ⊢
  exact leI (wrap64 (by omega) (by omega))
 ·have e : pickI c n = c.tmod n := by unfold pickI; rw [if_neg hd]
  rw [e]
  exact Le.refl _

end Go.Proofs.Ytndacaemcakmkaa
