/- Contracts of functions of the program, and the laws that stand on them: what each function answers, whatever its arguments. -/
import Derived.Test.YtndacaemcakmkaaD45
set_option linter.unusedSectionVars false
set_option linter.unnecessarySimpa false
namespace Go.Proofs.Ytndacaemcakmkaa
set_option linter.unusedSimpArgs false
set_option linter.unusedVariables false
set_option maxRecDepth 100000
set_option maxHeartbeats 8000000
open Go Go.VA Go.RowKit
/-! ### the document's disk: the power comes back -/
abbrev cBy (x : Int) : List C := [.v (.int .u8 x)]
/-- bytes by place -/
abbrev byF (g : Nat → Int) (i : Nat) : List C := cBy (g i)
def sameF (n m : Nat) (g h : Nat → Int) : Bool := decide (n = m ∧ ∀ i, i < n → g i = h i)
theorem aSame01 (t u : Bool) (n m : Nat) (g q : Nat → Int) : ACall Try.prog gl 13 [.c (.sl t 1 n (byF g)), .c (.sl u 1 m (byF q))] [] (boolA (sameF n m g q)) := by
 refine acall_of_vcb htb hmix (f := 13) rfl rfl rfl (by kernel_rfl) rfl rfl fun hb => ?_; simp only [bndAll, AV.bnd, bnds, C.bnd, cVt, cS, true_and, and_true] at hb; conv => whnf
 repeat' (first | (refine And.intro (fun h => ?_) (fun h => ?_) <;> (first | skip) <;> (first | (conv => whnf))) | fail)
 ·have h0 : n ≠ m := fun e => by subst e; simp_all
  exact Go.VA.leB (by unfold sameF; simp [h0])
 ·have h0 : n = m := by
   have : (n : Int) = m := by simpa using h
   omega
  subst h0
  refine loopN (fun c => c ≤ n ∧ ∀ i, i < c → g i = q i) (fun c => [(5, intA .i64 c)]) (fun c => []) n (fun c h => h.1) 0 ⟨Nat.zero_le _, fun i hi => absurd hi (Nat.not_lt_zero _)⟩ ?_ (fun _ => rfl) fun c ⟨hc, hR⟩ => ?_
  ·(refine And.intro ?_ (And.intro ?_ (And.intro ?_ rfl)) <;> (conv => whnf) <;> repeat' (first | exact trivial | exact LeE.of (Le.refl _) | (first | exact rfl | fail) | ((with_reducible refine And.intro ?_ ?_) <;> conv => whnf)))
  ·conv => whnf
   repeat' (first | (refine And.intro (fun h => ?_) (fun h => ?_) <;> (first | (with_reducible have hd : _ < _ := of_decide_eq_true h) | (with_reducible have hd : ¬ (_ < _) := of_decide_eq_false h) | skip) <;> (first | (conv => whnf))) | (refine And.intro ?_ ?_; (focus (first | (refine chainI ?_; (first | (first | omega | fail) | fail)) | fail)); conv => whnf) | fail)
   ·refine Go.VA.leB ?_
    have hne : g c ≠ q c := fun e => by
     have h' : (g c != q c) = true := h
     rw [e] at h'; simp at h'
    unfold sameF
    rw [decide_eq_false_iff_not.2 (fun hh => hne (hh.2 c (by omega)))]
   ·have he : g c = q c := by
     have h' : (g c != q c) = false := h
     simpa using h'
    refine ⟨c + 1, ⟨⟨by omega, fun i hi => ?_⟩, by omega⟩, ?_⟩
    ·rcases Nat.lt_or_ge i c with h1 | h1
     ·exact hR i h1
     ·obtain rfl : i = c := by omega
      exact he
    ·(refine And.intro ?_ (And.intro ?_ (And.intro ?_ rfl)) <;> (conv => whnf) <;> repeat' (first | exact trivial | exact LeE.of (Le.refl _) | (with_reducible refine LeE.of ?_) | (first | exact rfl | exact leI (by first | rfl | (rw [wrap64 (by omega) (by omega)]; omega) | fail) | fail) | ((with_reducible refine And.intro ?_ ?_) <;> conv => whnf)))
   ·obtain rfl : c = n := by omega
    refine Go.VA.leB ?_
    unfold sameF
    rw [decide_eq_true_iff.2 ⟨rfl, hR⟩]
theorem aSameX (t u : Bool) (n m : Nat) (F G : Nat → List C) (g q : Nat → Int) (hF : ∀ i, i < n → F i = cBy (g i)) (hG : ∀ i, i < m → G i = cBy (q i)) : ACall Try.prog gl 13 [.c (.sl t 1 n F), .c (.sl u 1 m G)] [] (boolA (sameF n m g q)) :=
 (aSame01 t u n m g q).le ⟨leSl rfl hF, leSl rfl hG, trivial⟩
def byZ (s : ByteArray) (i : Nat) : Int := ((s.data.toList[i]?).getD 0).toNat
theorem byZ_eq {x z : ByteArray} : sameF x.size z.size (byZ x) (byZ z) = decide (x = z) := by
 unfold sameF
 refine decide_eq_decide.2 ⟨fun ⟨h1, h2⟩ => ?_, fun h => by subst h; exact ⟨rfl, fun _ _ => rfl⟩⟩
 refine bytes_inj (List.ext_getElem? fun i => ?_)
 have hx : x.size = x.data.toList.length := rfl
 have hz : z.size = z.data.toList.length := rfl
 rcases Nat.lt_or_ge i x.size with hi | hi
 ·have h3 := h2 i hi
  unfold byZ at h3
  rw [List.getElem?_eq_getElem (by omega), List.getElem?_eq_getElem (by omega)] at h3 ⊢
  simp only [Option.getD_some, Int.natCast_inj] at h3
  rw [UInt8.toNat_inj.1 h3]
 ·rw [List.getElem?_eq_none (by omega), List.getElem?_eq_none (by omega)]
theorem aSameB (t u : Bool) (x z : ByteArray) : ACall Try.prog gl 13 [.c (.sl t 1 x.size (strCells x)), .c (.sl u 1 z.size (strCells z))] [] (boolA (decide (x = z))) :=
 byZ_eq ▸ aSameX t u x.size z.size (strCells x) (strCells z) (byZ x) (byZ z) (fun i _ => rfl) (fun i _ => rfl)
theorem aSameP (t u : Bool) (x z : ByteArray) (k : Nat) (hk : k ≤ x.size) : ACall Try.prog gl 13 [.c (.sl t 1 k (fun j => strCells x (0 + j))), .c (.sl u 1 z.size (strCells z))] [] (boolA (decide (x.extract 0 k = z))) := by
 have h := aSameX t u k z.size (fun j => strCells x (0 + j)) (strCells z) (byZ (x.extract 0 k)) (byZ z) (fun i hi => by rw [Nat.zero_add]; exact cut_get x k i hk hi) (fun i _ => rfl)
 have e : (x.extract 0 k).size = k := by rw [ext_size]; omega
 have h2 := byZ_eq (x := x.extract 0 k) (z := z)
 rw [e] at h2
 rw [h2] at h
 exact h
theorem aStarts (t u : Bool) (x z : ByteArray) : ACall Try.prog gl 54 [.c (.sl t 1 x.size (strCells x)), .c (.sl u 1 z.size (strCells z))] [] (boolA (begB x z)) := by
 by_cases hz : z.size ≤ x.size
 ·have hB : decide ((z.size : Int) ≤ (x.size : Int)) = true := by simpa using hz
  have E := aSameP t u x z z.size hz
  have er : begB x z = decide (x.extract 0 z.size = z) := by unfold begB; simp [hz]
  rw [er]
  refine acall_of_vc htb hmix (f := 54) rfl rfl rfl (by kernel_rfl) rfl rfl ?_; conv => whnf
  repeat' (first | ((with_reducible refine GOr.l ?_); (conv => whnf); refine Exists.intro _ (And.intro (chainI (E)) ?_); conv => whnf) | (refine And.intro ?_ ?_; (focus (first | (refine chainI ?_; (first | (first | omega | fail) | fail)) | fail)); conv => whnf) | (rw [hB]; conv => whnf))
  all_goals exact Go.VA.leB rfl
 ·have hB : decide ((z.size : Int) ≤ (x.size : Int)) = false := by simpa using hz
  have er : begB x z = false := by unfold begB; simp [hz]
  have E := aSameX t u z.size z.size (fun j => strCells x (0 + j)) (strCells z) (fun j => byZ x (0 + j)) (byZ z) (fun i _ => rfl) (fun i _ => rfl)
  rw [er]
  refine acall_of_vc htb hmix (f := 54) rfl rfl rfl (by kernel_rfl) rfl rfl ?_; conv => whnf
  repeat' (first | ((with_reducible refine GOr.l ?_); (conv => whnf); refine Exists.intro _ (And.intro (chainI (E)) ?_); conv => whnf) | (refine And.intro ?_ ?_; (focus (first | ((conv => whnf); intros; (try simp only [decide_eq_true_eq, decide_eq_false_iff_not, Bool.and_eq_true, Bool.or_eq_true, Bool.and_eq_false_imp, Bool.or_eq_false_iff, Bool.not_eq_true', Bool.not_eq_false', beq_iff_eq, bne_iff_ne, ne_eq] at *); (first | (first | omega | fail) | fail)))); conv => whnf) | (rw [hB]; conv => whnf))
  all_goals exact Go.VA.leB rfl
theorem pick_pk (keep : Int) (m : Nat) : pickI keep ((m : Int) + 1) = (pk keep m : Int) := by
 unfold pickI pk
 have h1 := tmod_b keep (m := (m : Int) + 1) (by omega)
 have h3 : 0 ≤ (keep.tmod ((m : Int) + 1) + ((m : Int) + 1)).tmod ((m : Int) + 1) := (pk_le keep m).1
 rw [Int.toNat_of_nonneg h3]
 clear h3
 generalize keep.tmod ((m : Int) + 1) = r at *
 split
 ·rw [Int.tmod_eq_of_lt (by omega) (by omega)]
 ·rename_i h
  rw [Int.tmod_eq_emod_of_nonneg (by omega), Int.add_emod_right, Int.emod_eq_of_lt (by omega) (by omega)]
def bootE (keep : Int) (e : Ft) : Ft := (e.1, torB keep e.2.1 e.2.2, torB keep e.2.1 e.2.2)
def mixL (keep : Int) (l : List Ft) (c : Nat) : List Ft := (l.take c).map (bootE keep) ++ l.drop c
theorem mix_len (keep : Int) (l : List Ft) (c : Nat) : (mixL keep l c).length = l.length := by
 unfold mixL
 rw [List.length_append, List.length_map, List.length_take, List.length_drop]
 omega
theorem mix_at (keep : Int) (l : List Ft) (c i : Nat) (hi : i < l.length) : fE (mixL keep l c) i = if i < c then bootE keep (fE l i) else fE l i := by
 rw [fE_lt (by rw [mix_len]; exact hi), fE_lt hi]
 unfold mixL
 split
 ·rename_i h
  rw [List.getElem_append_left (by rw [List.length_map, List.length_take]; omega)]
  simp
 ·rename_i h
  rw [List.getElem_append_right (by rw [List.length_map, List.length_take]; omega)]
  simp only [List.length_map, List.length_take, List.getElem_drop]
  congr 1
  omega
theorem leCs3 {a : Value} {X Y X' Y' : C} (hX : ∀ S u, RepC S X u → RepC S X' u) (hY : ∀ S u, RepC S Y u → RepC S Y' u) : LeCs [.v a, X, Y] [.v a, X', Y'] := ⟨rfl, fun S R o h => by
 simp only [RepCs] at h ⊢
 obtain ⟨h1, ⟨u, h2, h3⟩, ⟨u', h4, h5⟩, h6⟩ := h
 exact ⟨h1, ⟨u, h2, hX S u h3⟩, ⟨u', h4, hY S u' h5⟩, h6⟩⟩
theorem pickT (keep : Int) (n q : Nat) (hq : q ≤ n) (hn : n ≤ 262144) : ACall Try.prog gl 47 [intA .i64 keep, intA .i64 (IntKind.i64.wrap (IntKind.i64.wrap ((n : Int) - (q : Int)) + 1))] [] (intA .i64 (pk keep (n - q) : Int)) := by
 have e : IntKind.i64.wrap (IntKind.i64.wrap ((n : Int) - (q : Int)) + 1) = ((n - q : Nat) : Int) + 1 := by
  rw [wrap64 (n := (n : Int) - (q : Int)) (by omega) (by omega), wrap64 (by omega) (by omega)]
  omega
 rw [e, ← pick_pk]
 exact aPick keep _ (by omega) (by omega)
theorem pickF (keep : Int) (n : Nat) (hn : n ≤ 262144) : ACall Try.prog gl 47 [intA .i64 keep, intA .i64 (IntKind.i64.wrap (IntKind.i64.wrap ((n : Int) - 0) + 1))] [] (intA .i64 (pk keep (n - 0) : Int)) := pickT keep n 0 (Nat.zero_le _) hn
/-- what is left, as the document's slice -/
theorem cutI (x : ByteArray) (k : Nat) (m : Int) (hm : m = (k : Int)) (hk : k ≤ x.size) : ∀ S u, RepC S (.sl false 1 (m.toNat - 0) (fun j => strCells x (0 + j))) u → RepC S (oC (x.extract 0 k)) u := by
 have e : (fun j => strCells x (0 + j)) = strCells x := by funext j; rw [Nat.zero_add]
 have e2 : m.toNat - 0 = k := by omega
 rw [e, e2]
 exact cut_le x k hk
theorem upd_mix (keep : Int) (l : List Ft) (c : Nat) (hcl : c < l.length) (xs : List C) (hxs : LeCs xs (cF (bootE keep (fE l c)))) : ∀ i, i < l.length → LeCs (updF (rwF (mixL keep l c)) (0 + ((c : Nat) : Int).toNat) xs i) (rwF (mixL keep l (c + 1)) i) := fun i hi => by
 rw [zc]
 have e1 : rwF (mixL keep l (c + 1)) i = cF (if i < c + 1 then bootE keep (fE l i) else fE l i) := by
  unfold rwF cF
  rw [mix_at _ _ _ _ hi]
 have e2 : rwF (mixL keep l c) i = cF (if i < c then bootE keep (fE l i) else fE l i) := by
  unfold rwF cF
  rw [mix_at _ _ _ _ hi]
 rw [e1]
 unfold updF
 by_cases h : i = c
 ·subst h
  rw [if_pos rfl, if_pos (Nat.lt_succ_self _)]
  exact hxs
 ·rw [if_neg h, e2]
  by_cases h2 : i < c
  ·rw [if_pos h2, if_pos (by omega)]
   exact LeCs.refl _
  ·rw [if_neg h2, if_neg (by omega)]
   exact LeCs.refl _
theorem torB_same (keep : Int) (x : ByteArray) : torB keep x x = x := by unfold torB; rw [if_pos rfl]
theorem torB_t {keep : Int} {x z : ByteArray} (h : x ≠ z) (hb : begB x z = true) : torB keep x z = x.extract 0 (z.size + pk keep (x.size - z.size)) := by unfold torB; rw [if_neg h, hb]; rfl
theorem torB_f {keep : Int} {x z : ByteArray} (h : x ≠ z) (hb : begB x z = false) : torB keep x z = x.extract 0 (0 + pk keep (x.size - 0)) := by unfold torB; rw [if_neg h, hb]; rfl
theorem gBootR0 (l : List Ft) (fuse ops keep : Int) (dead : Bool) (hl : l.length ≤ 1000000) (hsz : ∀ i, i < l.length → (fE l i).2.1.size ≤ 262144 ∧ (fE l i).2.2.size ≤ 262144) : GCall Try.prog gl 29 [xB l.length fuse dead ops, xR0 l] [.ptr 0 0, intA .i64 keep] [xB l.length 0 false ops, .row 3 l.length (rwF (mixL keep l l.length))] [] := by
 refine gcall_of_vcb htb hmix (f := 29) rfl rfl rfl (by kernel_rfl) rfl rfl rfl fun hb hb2 => ?_; simp only [bndOs, bndO, gbnds, AV.gbnd, bnds, C.bnd, true_and, and_true] at hb hb2; conv => whnf
 repeat' (fail)
 refine loopI Nat (fun c => c ≤ l.length) (fun c => [(4, intA .i64 c)]) (fun c => [xB l.length fuse dead ops, .row 3 l.length (rwF (mixL keep l c))]) (fun c => l.length - c) 0 (Nat.zero_le _) ?_ (fun _ => rfl) fun c hc => ?_
 ·(refine And.intro ?_ (And.intro ?_ (And.intro ?_ rfl)) <;> (conv => whnf) <;> repeat' (first | exact trivial | exact LeE.of (Le.refl _) | (first | exact rfl | exact fun i hi => LeCs.refl _ | fail) | ((with_reducible refine And.intro ?_ ?_) <;> conv => whnf)))
 ·change c ≤ l.length at hc
  rcases Nat.lt_or_ge c l.length with hcl | hcl
  ·have e : fE (mixL keep l c) (0 + ((c : Nat) : Int).toNat) = fE l c := by rw [zc, mix_at _ _ _ _ hcl, if_neg (Nat.lt_irrefl _)]
   obtain ⟨q, he⟩ : ∃ q, fE l c = q := ⟨_, rfl⟩
   obtain ⟨s, x, z⟩ := q
   have hx := (hsz c hcl).1
   rw [he] at hx e
   have hx : x.size ≤ 262144 := hx
   have hK : 0 ≤ (c : Int) ∧ (c : Int) < (l.length : Int) := by omega
   by_cases hxz : x = z
   ·have hq : (!decide (x = z)) = false := by simp [hxz]
    conv => whnf
    repeat' (first | (rw [e]; conv => whnf) | (refine Exists.intro _ (And.intro (aSameB _ _ _ _) ?_); conv => whnf) | (refine And.intro (fun h => ?_) (fun h => ?_) <;> (first | (with_reducible have hd : _ < _ := of_decide_eq_true h) | (with_reducible have hd : ¬ (_ < _) := of_decide_eq_false h) | skip) <;> (first | (first | exact Bool.noConfusion (hq.symm.trans h) | fail) | (conv => whnf))) | (refine And.intro ?_ ?_; (focus (first | exact rfl | (first | exact hK | omega | fail) | fail)); conv => whnf) | ((with_reducible refine xc_pure ?_); conv => whnf))
    all_goals try (exfalso; omega)
    refine ⟨c + 1, hcl, ?_, by show l.length - (c + 1) < l.length - c; omega⟩
    (refine And.intro ?_ (And.intro ?_ (And.intro ?_ rfl)) <;> (conv => whnf) <;> repeat' (first | exact trivial | exact LeE.of (Le.refl _) | (with_reducible refine LeE.of ?_) | (first | exact rfl | exact leI (by first | rfl | (rw [wrap64 (by omega) (by omega)]; omega) | fail) | fail) | ((with_reducible refine And.intro ?_ ?_) <;> conv => whnf)))
    refine upd_mix keep l c hcl _ ?_
    rw [he, show bootE keep (s, x, z) = (s, x, x) from by unfold bootE; dsimp only; rw [← hxz, torB_same]]
    exact leCs3 (fun _ _ h => h) (fun _ _ h => h)
   ·have hq : (!decide (x = z)) = true := by simp [hxz]
    cases hbe : begB x z with
    | true =>
     have hz : z.size ≤ x.size := (of_decide_eq_true hbe).1
     have hp := pk_lt keep (x.size - z.size)
     have hm : IntKind.i64.wrap ((z.size : Int) + (pk keep (x.size - z.size) : Int)) = ((z.size + pk keep (x.size - z.size) : Nat) : Int) := by rw [wrap64 (by omega) (by omega)]; omega
     have hC : 0 ≤ IntKind.i64.wrap ((z.size : Int) + (pk keep (x.size - z.size) : Int)) ∧ IntKind.i64.wrap ((z.size : Int) + (pk keep (x.size - z.size) : Int)) ≤ (x.size : Int) := by rw [hm]; omega
     have hq2 := hbe
     conv => whnf
     repeat' (first | (rw [e]; conv => whnf) | (refine Exists.intro _ (And.intro (aSameB _ _ _ _) ?_); conv => whnf) | (refine Exists.intro _ (And.intro (aStarts _ _ _ _) ?_); conv => whnf) | (refine Exists.intro _ (And.intro (chainI (pickT keep x.size z.size hz hx)) ?_); conv => whnf) | (refine And.intro (fun h => ?_) (fun h => ?_) <;> (first | (with_reducible have hd : _ < _ := of_decide_eq_true h) | (with_reducible have hd : ¬ (_ < _) := of_decide_eq_false h) | skip) <;> (first | (first | exact Bool.noConfusion (hq.symm.trans h) | exact Bool.noConfusion (hq2.symm.trans h)) | (conv => whnf))) | ((with_reducible refine DOr.l ?_); (conv => whnf)) | (refine And.intro ?_ ?_; (focus (first | exact rfl | (first | exact hC | exact hK | omega | fail) | fail)); conv => whnf) | ((with_reducible refine xc_pure ?_); conv => whnf))
     all_goals try (exfalso; omega)
     refine ⟨c + 1, hcl, ?_, by show l.length - (c + 1) < l.length - c; omega⟩
     (refine And.intro ?_ (And.intro ?_ (And.intro ?_ rfl)) <;> (conv => whnf) <;> repeat' (first | exact trivial | exact LeE.of (Le.refl _) | (with_reducible refine LeE.of ?_) | (first | exact rfl | exact leI (by first | rfl | (rw [wrap64 (by omega) (by omega)]; omega) | fail) | fail) | ((with_reducible refine And.intro ?_ ?_) <;> conv => whnf)))
     refine upd_mix keep l c hcl _ ?_
     rw [he, show bootE keep (s, x, z) = (s, x.extract 0 (z.size + pk keep (x.size - z.size)), x.extract 0 (z.size + pk keep (x.size - z.size))) from by unfold bootE; dsimp only; rw [torB_t hxz hbe]]
     exact leCs3 (cutI x _ _ hm (by omega)) (cutI x _ _ hm (by omega))
    | false =>
     have hp := pk_lt keep (x.size - 0)
     have hm : IntKind.i64.wrap (0 + (pk keep (x.size - 0) : Int)) = ((0 + pk keep (x.size - 0) : Nat) : Int) := by rw [wrap64 (by omega) (by omega)]; omega
     have hC : 0 ≤ IntKind.i64.wrap (0 + (pk keep (x.size - 0) : Int)) ∧ IntKind.i64.wrap (0 + (pk keep (x.size - 0) : Int)) ≤ (x.size : Int) := by rw [hm]; omega
     have hq2 := hbe
     conv => whnf
     repeat' (first | (rw [e]; conv => whnf) | (refine Exists.intro _ (And.intro (aSameB _ _ _ _) ?_); conv => whnf) | (refine Exists.intro _ (And.intro (aStarts _ _ _ _) ?_); conv => whnf) | (refine Exists.intro _ (And.intro (chainI (pickF keep x.size hx)) ?_); conv => whnf) | (refine And.intro (fun h => ?_) (fun h => ?_) <;> (first | (with_reducible have hd : _ < _ := of_decide_eq_true h) | (with_reducible have hd : ¬ (_ < _) := of_decide_eq_false h) | skip) <;> (first | (first | exact Bool.noConfusion (hq.symm.trans h) | exact Bool.noConfusion (hq2.symm.trans h)) | (conv => whnf))) | ((with_reducible refine DOr.l ?_); (conv => whnf)) | (refine And.intro ?_ ?_; (focus (first | exact rfl | (first | exact hC | exact hK | omega | fail) | fail)); conv => whnf) | ((with_reducible refine xc_pure ?_); conv => whnf))
     all_goals try (exfalso; omega)
     refine ⟨c + 1, hcl, ?_, by show l.length - (c + 1) < l.length - c; omega⟩
     (refine And.intro ?_ (And.intro ?_ (And.intro ?_ rfl)) <;> (conv => whnf) <;> repeat' (first | exact trivial | exact LeE.of (Le.refl _) | (with_reducible refine LeE.of ?_) | (first | exact rfl | exact leI (by first | rfl | (rw [wrap64 (by omega) (by omega)]; omega) | fail) | fail) | ((with_reducible refine And.intro ?_ ?_) <;> conv => whnf)))
     refine upd_mix keep l c hcl _ ?_
     rw [he, show bootE keep (s, x, z) = (s, x.extract 0 (0 + pk keep (x.size - 0)), x.extract 0 (0 + pk keep (x.size - 0))) from by unfold bootE; dsimp only; rw [torB_f hxz hbe]]
     exact leCs3 (cutI x _ _ hm (by omega)) (cutI x _ _ hm (by omega))
  ·obtain rfl : c = l.length := by omega
   conv => whnf
   repeat' (first | (refine And.intro (fun h => ?_) (fun h => ?_) <;> (first | (with_reducible have hd : _ < _ := of_decide_eq_true h) | (with_reducible have hd : ¬ (_ < _) := of_decide_eq_false h) | fail) <;> (first | (conv => whnf))) | (refine And.intro ?_ ?_; (focus (first | exact rfl | (first | omega | fail) | fail)); conv => whnf) | fail)
   all_goals try (exfalso; omega)
   ((conv => whnf); repeat' (first | exact trivial | exact rfl | exact LeC.refl _ | exact (fun i hi => LeCs.refl _) | ((with_reducible refine And.intro ?_ ?_) <;> conv => whnf)))
theorem mix_all (keep : Int) (l : List Ft) : mixL keep l l.length = l.map (bootE keep) := by
 unfold mixL
 rw [List.take_length, List.drop_length, List.append_nil]
theorem uBoot (d : Dk) {n : Nat} (ok : d.Ok n) (hn : n ≤ 1000000) (keep : Int) : GCall Try.prog gl 29 [d.xb, d.xr] [.ptr 0 0, intA .i64 keep] [(d.bot keep).xb, (d.bot keep).xr] [] := by
 have h := gBootR0 d.l d.fuse d.ops keep d.dead (Nat.le_trans ok.len hn) (fun i hi => by
  rw [fE_lt hi]
  exact ok.size _ (List.getElem_mem hi))
 rw [mix_all] at h
 have e : (d.l.map (bootE keep)).length = d.l.length := List.length_map ..
 unfold Dk.bot Dk.xb Dk.xr
 show GCall _ _ _ _ _ [xB (d.l.map (bootE keep)).length 0 false d.ops, .row 3 (d.l.map (bootE keep)).length (rwF (d.l.map (bootE keep)))] _
 rw [e]
 exact h
end Go.Proofs.Ytndacaemcakmkaa

namespace Go.Proofs.Ytndacaemcakmkaa
set_option linter.unusedSimpArgs false
set_option linter.unusedVariables false
set_option maxRecDepth 100000
set_option maxHeartbeats 8000000
open Go Go.VA Go.RowKit
/-! ### an act, on both -/
structure Ac where
 k : Int
 nm : ByteArray
 to : ByteArray
 b : ByteArray
 n : Int
abbrev cAc (a : Ac) : List C := [.v (.int .i64 a.k), .v (.string a.nm), .v (.string a.to), oC a.b, .v (.int .i64 a.n)]
theorem aChoose (k : Int) : ACall Try.prog gl 24 [intA .i64 k] [] (intA .i64 (pickI k 9)) := by
 refine acall_of_vc htb hmix (f := 24) rfl rfl rfl (by kernel_rfl) rfl rfl ?_; conv => whnf
 repeat' (first | (refine Exists.intro _ (And.intro (aPick k 9 (by decide) (by decide)) ?_); conv => whnf) | ((with_reducible refine xc_pure ?_); conv => whnf))
 exact Le.refl _
abbrev yb (x : Dk) : AO := .box [.own 3 3 0 x.l.length, intA .i64 x.fuse, boolA x.dead, intA .i64 x.ops]
abbrev db (d : Dk) : AO := dskB d.fuse d.dead d.ops
abbrev dm (d : Dk) : AO := .mp (mB d.l)
abbrev yr (x : Dk) : AO := xR0 x.l
section
variable (d x : Dk) {n m : Nat} (okd : d.Ok n) (hn : n < 1000000) (okx : x.Ok m) (hm : m ≤ 1000000) (a : Ac)
include okd hn okx hm
theorem do8 (hk : pickI a.k 9 = 8) : GCall Try.prog gl 11 [db d, dm d, yb x, yr x] [.ptr 0 0, .ptr 2 0, .ag (cAc a)] [db (d.bot a.n), dm (d.bot a.n), yb (x.bot a.n), yr (x.bot a.n)] [boolA true] := by
 have D := tBoot d n okd hn a.n
 have X := uBoot x okx hm a.n
 unfold Dk.dB Dk.mp at D
 unfold Dk.xb Dk.xr at X
 refine gcall_of_vcb htb hmix (f := 11) rfl rfl rfl (by kernel_rfl) rfl rfl rfl fun hb hb2 => ?_; simp only [bndOs, bndO, gbnds, AV.gbnd, bnds, C.bnd, true_and, and_true] at hb hb2; conv => whnf
 repeat' (first | (rw [hk]; conv => whnf) | (refine Exists.intro _ (And.intro (aChoose a.k) ?_); conv => whnf) | (refine And.intro (fun h => ?_) (fun h => ?_) <;> (first | skip) <;> (first | exact absurd h (by decide) | (conv => whnf))) | (refine And.intro ?_ ?_; (focus (first | exact rfl | fail)); conv => whnf) | ((with_reducible refine xc_guard ?_); (first | (refine xc_g (D) false (by first | (((conv => whnf); repeat' (first | exact trivial | exact rfl | exact LeC.refl _ | (first | exact LeMs.refl _ | fail) | ((with_reducible refine And.intro ?_ ?_) <;> conv => whnf))); done) | fail) trivial ?_) | fail); conv => whnf) | ((with_reducible refine xc_guard ?_); (first | (refine xc_g (X) false (by first | (((conv => whnf); repeat' (first | exact trivial | exact rfl | exact LeC.refl _ | exact (fun i hi => LeCs.refl _) | ((with_reducible refine And.intro ?_ ?_) <;> conv => whnf))); done) | fail) trivial ?_) | fail); conv => whnf) | ((with_reducible refine xc_pure ?_); conv => whnf))
 all_goals try (exfalso; revert h; decide)
 ((conv => whnf); repeat' (first | exact trivial | exact rfl | exact LeC.refl _ | exact (fun i hi => LeCs.refl _) | ((with_reducible refine And.intro ?_ ?_) <;> conv => whnf)))
 all_goals exact LeMs.refl _
theorem do2 (hb0 : a.b.size ≤ 2000) (hk : pickI a.k 9 = 2) : GCall Try.prog gl 11 [db d, dm d, yb x, yr x] [.ptr 0 0, .ptr 2 0, .ag (cAc a)] [db (d.app a.nm a.b).1, dm (d.app a.nm a.b).1, yb (x.appR a.nm a.b).1, yr (x.appR a.nm a.b).1] [boolA ((d.app a.nm a.b).2 == (x.appR a.nm a.b).2)] := by
 have D := tAppend d a.nm a.b false (by have := getF_size okd a.nm; omega)
 have X := uAppend x okx hm a.nm { data := #[] } a.b (by omega)
 unfold Dk.dB Dk.mp at D
 unfold Dk.xb Dk.xr at X
 refine gcall_of_vcb htb hmix (f := 11) rfl rfl rfl (by kernel_rfl) rfl rfl rfl fun hb hb2 => ?_; simp only [bndOs, bndO, gbnds, AV.gbnd, bnds, C.bnd, true_and, and_true] at hb hb2; conv => whnf
 repeat' (first | (rw [hk]; conv => whnf) | (refine Exists.intro _ (And.intro (aChoose a.k) ?_); conv => whnf) | (refine And.intro (fun h => ?_) (fun h => ?_) <;> (first | skip) <;> (first | exact absurd h (by decide) | (conv => whnf))) | ((with_reducible refine Both.mk ?_ ?_) <;> conv => whnf) | ((with_reducible refine DOr.r ?_); (conv => whnf)) | ((with_reducible apply Drawn.one); conv => whnf) | ((with_reducible refine Then.mk' ?_); conv => whnf) | (first | exact RefS.self rfl | fail) | (refine And.intro ?_ ?_; (focus (first | exact rfl | fail)); conv => whnf) | ((with_reducible refine xc_guard ?_); (first | (refine xc_g (D) false (by first | (((conv => whnf); repeat' (first | exact trivial | exact rfl | exact LeC.refl _ | (first | exact LeMs.refl _ | fail) | ((with_reducible refine And.intro ?_ ?_) <;> conv => whnf))); done) | fail) trivial ?_) | fail); conv => whnf) | ((with_reducible refine xc_guard ?_); (first | (refine xc_g (X) false (by first | (((conv => whnf); repeat' (first | exact trivial | exact rfl | exact LeC.refl _ | exact (fun i hi => LeCs.refl _) | ((with_reducible refine And.intro ?_ ?_) <;> conv => whnf))); done) | fail) trivial ?_) | fail); conv => whnf) | ((with_reducible refine xc_pure ?_); conv => whnf))
 all_goals try (exfalso; revert h; decide)
 ((conv => whnf); repeat' (first | exact trivial | exact rfl | exact LeC.refl _ | exact (fun i hi => LeCs.refl _) | ((with_reducible refine And.intro ?_ ?_) <;> conv => whnf)))
 all_goals exact LeMs.refl _
theorem do3 (hk : pickI a.k 9 = 3) : GCall Try.prog gl 11 [db d, dm d, yb x, yr x] [.ptr 0 0, .ptr 2 0, .ag (cAc a)] [db (d.syn a.nm).1, dm (d.syn a.nm).1, yb (x.synR a.nm).1, yr (x.synR a.nm).1] [boolA ((d.syn a.nm).2 == (x.synR a.nm).2)] := by
 have D := tSync d a.nm
 have X := uSync x okx hm a.nm { data := #[] }
 unfold Dk.dB Dk.mp at D
 unfold Dk.xb Dk.xr at X
 refine gcall_of_vcb htb hmix (f := 11) rfl rfl rfl (by kernel_rfl) rfl rfl rfl fun hb hb2 => ?_; simp only [bndOs, bndO, gbnds, AV.gbnd, bnds, C.bnd, true_and, and_true] at hb hb2; conv => whnf
 repeat' (first | (rw [hk]; conv => whnf) | (refine Exists.intro _ (And.intro (aChoose a.k) ?_); conv => whnf) | (refine And.intro (fun h => ?_) (fun h => ?_) <;> (first | skip) <;> (first | exact absurd h (by decide) | (conv => whnf))) | ((with_reducible refine DOr.r ?_); (conv => whnf)) | ((with_reducible apply Drawn.one); conv => whnf) | ((with_reducible refine Then.mk' ?_); conv => whnf) | (first | exact RefS.self rfl | fail) | (refine And.intro ?_ ?_; (focus (first | exact rfl | fail)); conv => whnf) | ((with_reducible refine xc_guard ?_); (first | (refine xc_g (D) false (by first | (((conv => whnf); repeat' (first | exact trivial | exact rfl | exact LeC.refl _ | (first | exact LeMs.refl _ | fail) | ((with_reducible refine And.intro ?_ ?_) <;> conv => whnf))); done) | fail) trivial ?_) | fail); conv => whnf) | ((with_reducible refine xc_guard ?_); (first | (refine xc_g (X) false (by first | (((conv => whnf); repeat' (first | exact trivial | exact rfl | exact LeC.refl _ | exact (fun i hi => LeCs.refl _) | ((with_reducible refine And.intro ?_ ?_) <;> conv => whnf))); done) | fail) trivial ?_) | fail); conv => whnf) | ((with_reducible refine xc_pure ?_); conv => whnf))
 all_goals try (exfalso; revert h; decide)
 ((conv => whnf); repeat' (first | exact trivial | exact rfl | exact LeC.refl _ | exact (fun i hi => LeCs.refl _) | ((with_reducible refine And.intro ?_ ?_) <;> conv => whnf)))
 all_goals exact LeMs.refl _
theorem do4 (hk : pickI a.k 9 = 4) : GCall Try.prog gl 11 [db d, dm d, yb x, yr x] [.ptr 0 0, .ptr 2 0, .ag (cAc a)] [db (d.syn a.nm).1, dm (d.syn a.nm).1, yb (x.synR a.nm).1, yr (x.synR a.nm).1] [boolA ((d.syn a.nm).2 == (x.synR a.nm).2)] := by
 have D := tSync d a.nm
 have X := uSync x okx hm a.nm { data := #[] }
 unfold Dk.dB Dk.mp at D
 unfold Dk.xb Dk.xr at X
 refine gcall_of_vcb htb hmix (f := 11) rfl rfl rfl (by kernel_rfl) rfl rfl rfl fun hb hb2 => ?_; simp only [bndOs, bndO, gbnds, AV.gbnd, bnds, C.bnd, true_and, and_true] at hb hb2; conv => whnf
 repeat' (first | (rw [hk]; conv => whnf) | (refine Exists.intro _ (And.intro (aChoose a.k) ?_); conv => whnf) | (refine And.intro (fun h => ?_) (fun h => ?_) <;> (first | skip) <;> (first | exact absurd h (by decide) | (conv => whnf))) | ((with_reducible refine DOr.r ?_); (conv => whnf)) | ((with_reducible apply Drawn.one); conv => whnf) | ((with_reducible refine Then.mk' ?_); conv => whnf) | (first | exact RefS.self rfl | fail) | (refine And.intro ?_ ?_; (focus (first | exact rfl | fail)); conv => whnf) | ((with_reducible refine xc_guard ?_); (first | (refine xc_g (D) false (by first | (((conv => whnf); repeat' (first | exact trivial | exact rfl | exact LeC.refl _ | (first | exact LeMs.refl _ | fail) | ((with_reducible refine And.intro ?_ ?_) <;> conv => whnf))); done) | fail) trivial ?_) | fail); conv => whnf) | ((with_reducible refine xc_guard ?_); (first | (refine xc_g (X) false (by first | (((conv => whnf); repeat' (first | exact trivial | exact rfl | exact LeC.refl _ | exact (fun i hi => LeCs.refl _) | ((with_reducible refine And.intro ?_ ?_) <;> conv => whnf))); done) | fail) trivial ?_) | fail); conv => whnf) | ((with_reducible refine xc_pure ?_); conv => whnf))
 all_goals try (exfalso; revert h; decide)
 ((conv => whnf); repeat' (first | exact trivial | exact rfl | exact LeC.refl _ | exact (fun i hi => LeCs.refl _) | ((with_reducible refine And.intro ?_ ?_) <;> conv => whnf)))
 all_goals exact LeMs.refl _
theorem do5 (hk : pickI a.k 9 = 5) : GCall Try.prog gl 11 [db d, dm d, yb x, yr x] [.ptr 0 0, .ptr 2 0, .ag (cAc a)] [db (d.ren a.nm a.to).1, dm (d.ren a.nm a.to).1, yb (x.renR a.nm a.to).1, yr (x.renR a.nm a.to).1] [boolA ((d.ren a.nm a.to).2 == (x.renR a.nm a.to).2)] := by
 have D := tRename d a.nm a.to
 have X := uRename x okx hm a.nm a.to
 unfold Dk.dB Dk.mp at D
 unfold Dk.xb Dk.xr at X
 refine gcall_of_vcb htb hmix (f := 11) rfl rfl rfl (by kernel_rfl) rfl rfl rfl fun hb hb2 => ?_; simp only [bndOs, bndO, gbnds, AV.gbnd, bnds, C.bnd, true_and, and_true] at hb hb2; conv => whnf
 repeat' (first | (rw [hk]; conv => whnf) | (refine Exists.intro _ (And.intro (aChoose a.k) ?_); conv => whnf) | (refine And.intro (fun h => ?_) (fun h => ?_) <;> (first | skip) <;> (first | exact absurd h (by decide) | (conv => whnf))) | ((with_reducible refine DOr.r ?_); (conv => whnf)) | ((with_reducible apply Drawn.one); conv => whnf) | ((with_reducible refine Then.mk' ?_); conv => whnf) | (first | exact RefS.self rfl | fail) | (refine And.intro ?_ ?_; (focus (first | exact rfl | fail)); conv => whnf) | ((with_reducible refine xc_guard ?_); (first | (refine xc_g (D) false (by first | (((conv => whnf); repeat' (first | exact trivial | exact rfl | exact LeC.refl _ | (first | exact LeMs.refl _ | fail) | ((with_reducible refine And.intro ?_ ?_) <;> conv => whnf))); done) | fail) trivial ?_) | fail); conv => whnf) | ((with_reducible refine xc_guard ?_); (first | (refine xc_g (X) false (by first | (((conv => whnf); repeat' (first | exact trivial | exact rfl | exact LeC.refl _ | exact (fun i hi => LeCs.refl _) | ((with_reducible refine And.intro ?_ ?_) <;> conv => whnf))); done) | fail) trivial ?_) | fail); conv => whnf) | ((with_reducible refine xc_pure ?_); conv => whnf))
 all_goals try (exfalso; revert h; decide)
 ((conv => whnf); repeat' (first | exact trivial | exact rfl | exact LeC.refl _ | exact (fun i hi => LeCs.refl _) | ((with_reducible refine And.intro ?_ ?_) <;> conv => whnf)))
 all_goals exact LeMs.refl _
theorem do6 (hk : pickI a.k 9 = 6) : GCall Try.prog gl 11 [db d, dm d, yb x, yr x] [.ptr 0 0, .ptr 2 0, .ag (cAc a)] [db (d.rem a.nm).1, dm (d.rem a.nm).1, yb (x.remR a.nm).1, yr (x.remR a.nm).1] [boolA ((d.rem a.nm).2 == (x.remR a.nm).2)] := by
 have D := tRemove d a.nm
 have X := uRemove x okx hm a.nm { data := #[] }
 unfold Dk.dB Dk.mp at D
 unfold Dk.xb Dk.xr at X
 refine gcall_of_vcb htb hmix (f := 11) rfl rfl rfl (by kernel_rfl) rfl rfl rfl fun hb hb2 => ?_; simp only [bndOs, bndO, gbnds, AV.gbnd, bnds, C.bnd, true_and, and_true] at hb hb2; conv => whnf
 repeat' (first | (rw [hk]; conv => whnf) | (refine Exists.intro _ (And.intro (aChoose a.k) ?_); conv => whnf) | (refine And.intro (fun h => ?_) (fun h => ?_) <;> (first | skip) <;> (first | exact absurd h (by decide) | (conv => whnf))) | ((with_reducible refine DOr.r ?_); (conv => whnf)) | ((with_reducible apply Drawn.one); conv => whnf) | ((with_reducible refine Then.mk' ?_); conv => whnf) | (first | exact RefS.self rfl | fail) | (refine And.intro ?_ ?_; (focus (first | exact rfl | fail)); conv => whnf) | ((with_reducible refine xc_guard ?_); (first | (refine xc_g (D) false (by first | (((conv => whnf); repeat' (first | exact trivial | exact rfl | exact LeC.refl _ | (first | exact LeMs.refl _ | fail) | ((with_reducible refine And.intro ?_ ?_) <;> conv => whnf))); done) | fail) trivial ?_) | fail); conv => whnf) | ((with_reducible refine xc_guard ?_); (first | (refine xc_g (X) false (by first | (((conv => whnf); repeat' (first | exact trivial | exact rfl | exact LeC.refl _ | exact (fun i hi => LeCs.refl _) | ((with_reducible refine And.intro ?_ ?_) <;> conv => whnf))); done) | fail) trivial ?_) | fail); conv => whnf) | ((with_reducible refine xc_pure ?_); conv => whnf))
 all_goals try (exfalso; revert h; decide)
 ((conv => whnf); repeat' (first | exact trivial | exact rfl | exact LeC.refl _ | exact (fun i hi => LeCs.refl _) | ((with_reducible refine And.intro ?_ ?_) <;> conv => whnf)))
 all_goals exact LeMs.refl _
end
end Go.Proofs.Ytndacaemcakmkaa
