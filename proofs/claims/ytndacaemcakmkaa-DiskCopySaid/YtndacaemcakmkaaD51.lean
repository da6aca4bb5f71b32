/- Contracts of functions of the program, and the laws that stand on them: what each function answers, whatever its arguments. -/
import Derived.Test.YtndacaemcakmkaaD49
import Derived.Test.YtndacaemcakmkaaD9
import Derived.Test.YtndacaemcakmkaaVD
import Derived.ChangeMaps5
import Derived.Carry
set_option linter.unusedSectionVars false
set_option linter.unnecessarySimpa false
namespace Go.Proofs.Ytndacaemcakmkaa
set_option linter.unusedSimpArgs false
set_option linter.unusedVariables false
set_option maxRecDepth 100000
set_option maxHeartbeats 8000000
open Go Go.VA Go.RowKit
/-! ### is there more than is looked at? -/
def bigA (a : Ac) : Bool := decide ((a.b.size : Int) > 2000) || decide ((a.nm.size : Int) > 200) || decide ((a.to.size : Int) > 200)
def grB (n : Nat) (A : Nat → Ac) : Bool := (List.range (min n 60)).any fun i => bigA (A i)
theorem grB_t {n : Nat} {A : Nat → Ac} {c : Nat} (h1 : c < n) (h2 : c < 60) (h : bigA (A c) = true) : grB n A = true := by
 unfold grB
 rw [List.any_eq_true]
 exact ⟨c, by simp; omega, h⟩
theorem grB_f {n : Nat} {A : Nat → Ac} (h : ∀ j, j < n → j < 60 → bigA (A j) = false) : grB n A = false := by
 unfold grB
 rw [List.any_eq_false]
 intro j hj
 have : j < min n 60 := by simpa using hj
 rw [h j (by omega) (by omega)]
 simp
theorem aGreat (t : Bool) (n : Nat) (A : Nat → Ac) (f : Nat → List C) (hf : ∀ i, i < n → f i = cAc (A i)) : ACall Try.prog gl 6 [.c (.sl t 5 n f)] [] (boolA (grB n A)) := by
 refine acall_of_vc htb hmix (f := 6) rfl rfl rfl (by kernel_rfl) rfl rfl ?_; conv => whnf
 repeat' (fail)
 refine loopI Nat (fun c => (c ≤ n ∧ c ≤ 60) ∧ ∀ j, j < c → bigA (A j) = false) (fun c => [(3, intA .i64 c)]) (fun _ => []) (fun c => n - c) 0 ⟨⟨Nat.zero_le _, Nat.zero_le _⟩, fun j hj => absurd hj (Nat.not_lt_zero _)⟩ ?_ (fun _ => rfl) fun c ⟨⟨hc, hc2⟩, hj⟩ => ?_
 ·(refine And.intro ?_ (And.intro ?_ (And.intro ?_ rfl)) <;> (conv => whnf) <;> repeat' (first | exact trivial | exact LeE.of (Le.refl _) | (first | exact rfl | fail) | ((with_reducible refine And.intro ?_ ?_) <;> conv => whnf)))
 ·by_cases hcl : c < n ∧ c < 60
  ·have ec : f ((c : Int)).toNat = cAc (A c) := hf c hcl.1
   have hK : 0 ≤ (c : Int) ∧ (c : Int) < (n : Int) := by omega
   have hq : (decide ((c : Int) < (n : Int)) && decide ((c : Int) < 60)) = true := by simp; omega
   conv => whnf
   repeat' (first | (rw [ec]; conv => whnf) | (refine And.intro (fun h => ?_) (fun h => ?_) <;> (first | skip) <;> (first | (first | exact Bool.noConfusion (hq.symm.trans h) | fail) | (conv => whnf))) | (refine And.intro ?_ ?_; (focus (first | (first | exact hK | fail) | (refine chainI ?_; (first | (first | exact hK | fail) | fail)) | fail)); conv => whnf) | fail)
   ·exact Go.VA.leB (grB_t hcl.1 hcl.2 h).symm
   ·refine ⟨c + 1, ⟨⟨hcl.1, hcl.2⟩, fun j hj2 => ?_⟩, ?_, by show n - (c + 1) < n - c; omega⟩
    ·rcases Nat.lt_or_ge j c with h2 | h2
     ·exact hj j h2
     ·obtain rfl : j = c := by omega
      exact h
    ·(refine And.intro ?_ (And.intro ?_ (And.intro ?_ rfl)) <;> (conv => whnf) <;> repeat' (first | exact trivial | exact LeE.of (Le.refl _) | (with_reducible refine LeE.of ?_) | (first | exact rfl | exact leI (by first | rfl | (rw [wrap64 (by omega) (by omega)]; omega) | fail) | fail) | ((with_reducible refine And.intro ?_ ?_) <;> conv => whnf)))
  ·have hq : (decide ((c : Int) < (n : Int)) && decide ((c : Int) < 60)) = false := by simp; omega
   conv => whnf
   repeat' (first | (refine And.intro (fun h => ?_) (fun h => ?_) <;> (first | skip) <;> (first | (first | exact Bool.noConfusion (hq.symm.trans h) | fail) | (conv => whnf))) | fail)
   exact Go.VA.leB (grB_f fun j h1 h2 => hj j (by omega)).symm
end Go.Proofs.Ytndacaemcakmkaa

namespace Go.Proofs.Ytndacaemcakmkaa
set_option linter.unusedSimpArgs false
set_option linter.unusedVariables false
set_option maxRecDepth 100000
set_option maxHeartbeats 8000000
open Go Go.VA Go.RowKit
/-! ### DiskSafe -/
theorem okNil (n : Nat) : (Dk.mk [] 0 false 0).Ok n := ⟨List.nodup_nil, fun e he => absurd he (List.not_mem_nil), fun e he => absurd he (List.not_mem_nil), Nat.zero_le _, by decide⟩
end Go.Proofs.Ytndacaemcakmkaa

namespace Go.Proofs.Ytndacaemcakmkaa
set_option linter.unusedSimpArgs false
set_option linter.unusedVariables false
set_option maxRecDepth 100000
set_option maxHeartbeats 8000000
open Go Go.VA Go.RowKit Go.ChangeShapes Go.WideShapes Go.ChangeAt
/-! ### acts that are handed over -/
section
variable {H : Type} {enc : TypeId × Value → H} {W : World} {base : Nat} {sp : Nat → Bool} {held : Bool}
theorem open_byS {fuel : Nat} {cs : List Value} {x : DataW H × List MemPlace} (h : DataW.trod enc Try.prog W base sp held fuel 23 cs = some x) (hs : SzW Try.prog 23 x.1) : ∃ (s : ByteArray) (u : Value), cs = [u] ∧ RepC (S0 W) (oC s) u := by
 obtain ⟨a, len, cap, m, e3, hm3, hlc, hcap0, hrows⟩ := tr_sliceS htb (t := 23) (e := 5) rfl rfl (by decide) h hs
 have hcap : len * 1 ≤ 140737488351232 := hcap0
 rcases hrows with h0 | ⟨b, o, rfl, hr⟩
 ·subst h0
  exact ⟨ByteArray.empty, _, e3, repC_rows ⟨hlc, by simp⟩ (.inl rfl)⟩
 ·have hex : ∀ i : Fin len, ∃ x : UInt8, W.cell? ⟨b, o + i * 1, none⟩ = some (.int .u8 (x.toNat : Int)) := by
   intro ⟨i, hi⟩
   obtain ⟨ce, y, hl, hc, ht, _⟩ := hr i hi
   obtain ⟨n, rfl, h0, h255⟩ := tr_int htb (t := 5) (k := .u8) rfl ht
   have h0 : 0 ≤ n := h0
   have h255 : n ≤ 255 := h255
   refine ⟨UInt8.ofNat n.toNat, ?_⟩
   have := hc 0 (by decide)
   have e : ((UInt8.ofNat n.toNat).toNat : Int) = n := by
    rw [UInt8.toNat_ofNat']
    omega
   rw [e]
   exact this
  have hf := fun i => Classical.choose_spec (hex i)
  refine ⟨⟨(List.ofFn fun i => Classical.choose (hex i)).toArray⟩, _, e3, ?_⟩
  have hsz : (ByteArray.mk (List.ofFn fun i => Classical.choose (hex i)).toArray).size = len := by simp [ByteArray.size]
  unfold oC
  rw [hsz]
  refine repC_rows ⟨hlc, by omega⟩ (.inr ⟨b, o, rfl, fun i hi => ?_⟩)
  refine ⟨[.int .u8 ((Classical.choose (hex ⟨i, hi⟩)).toNat : Int)], rfl, fun j hj u hu => ?_, rfl, ?_⟩
  ·obtain rfl : j = 0 := by omega
   simp at hu
   subst hu
   have := hf ⟨i, hi⟩
   simpa [S0] using this
  ·have : strCells (ByteArray.mk (List.ofFn fun i => Classical.choose (hex i)).toArray) i = [.v (.int .u8 ((Classical.choose (hex ⟨i, hi⟩)).toNat : Int))] := by
    simp [strCells, hi]
   rw [this]
   simp only [RepVs]
   exact ⟨_, [], rfl, repV_i, rfl⟩
theorem open_Ac {fuel : Nat} {cs : List Value} {x : DataW H × List MemPlace} (h : DataW.trod enc Try.prog W base sp held fuel 36 cs = some x) (hs : SzW Try.prog 36 x.1) : ∃ a : Ac, RepVs (S0 W) (cAc a) cs ∧ a.n ≤ 9223372036854775807 := by
 obtain ⟨hl, m, rfl, hx⟩ := tr_structS htb (t := 36) rfl h hs
 have hl : cs.length = 5 := hl
 obtain ⟨y0, h0, s0⟩ := hx 0 0 3 rfl rfl
 obtain ⟨y1, h1, s1⟩ := hx 1 1 9 rfl rfl
 obtain ⟨y2, h2, s2⟩ := hx 2 2 9 rfl rfl
 obtain ⟨y3, h3, s3⟩ := hx 3 3 23 rfl rfl
 obtain ⟨y4, h4, s4⟩ := hx 4 4 3 rfl rfl
 obtain ⟨k, e0, _⟩ := tr_int htb (t := 3) (k := .i64) rfl h0
 obtain ⟨s, e1, _⟩ := tr_str htb (t := 9) rfl h1
 obtain ⟨t, e2, _⟩ := tr_str htb (t := 9) rfl h2
 obtain ⟨b, u, e3, hu⟩ := open_byS h3 s3
 obtain ⟨i, e4, _, hi⟩ := tr_int htb (t := 3) (k := .i64) rfl h4
 match cs, hl with
 | [c0, c1, c2, c3, c4], _ =>
  simp [tb, tbl, VA.look] at e0 e1 e2 e3 e4
  subst e0; subst e1; subst e2; subst e3; subst e4
  refine ⟨⟨k, s, t, b, i⟩, ?_, hi⟩
  simp only [cAc, RepVs]
  exact ⟨_, _, rfl, repV_i, _, _, rfl, repV_s, _, _, rfl, repV_s, _, _, rfl, hu, _, _, rfl, repV_i, rfl⟩
theorem open_acts {v : Value} {d : DataW H} {ps : List MemPlace} {r : Reach} {b0 : Nat} (hval : Value.okWide Try.prog W r b0 22 v) (hd : DataW.Trod enc Try.prog W base sp held 22 v d ps) (hs : SzW Try.prog 22 d) :
  ∃ (n : Nat) (A : Nat → Ac) (f : Nat → List C), (∀ i, i < n → f i = cAc (A i)) ∧ (∀ i, i < n → (A i).n ≤ 9223372036854775807) ∧ RelV [] (S0 W) (.c (.sl false 5 n f)) v := by
 have hc := arg_slice htb (t := 22) (e := 36) rfl hval
 obtain ⟨fuel, hf⟩ := hd
 rw [hc] at hf
 obtain ⟨a, len, cap, m, e3, hm3, hlc, hcap0, hrows⟩ := tr_sliceS htb (t := 22) (e := 36) rfl rfl (by decide) hf hs
 simp only [List.cons.injEq, and_true] at e3
 subst e3
 have hcap : len * 72 ≤ 140737488351232 := hcap0
 rcases hrows with h0 | ⟨b, o, rfl, hr⟩
 ·subst h0
  exact ⟨0, fun _ => ⟨0, mtB, mtB, mtB, 0⟩, fun i => cAc ((fun _ => ⟨0, mtB, mtB, mtB, 0⟩ : Nat → Ac) i), fun _ _ => rfl, fun i hi => absurd hi (Nat.not_lt_zero _), by simp only [RelV]; exact repC_rows ⟨hlc, by simp⟩ (.inl rfl)⟩
 ·have hex : ∀ i : Nat, ∃ v : Ac, i < len → (∃ ce : List Value, ce.length = 5 ∧ (∀ j, j < 5 → W.cell? ⟨b, o + i * 5 + j, none⟩ = ce[j]?) ∧ RepVs (S0 W) (cAc v) ce) ∧ v.n ≤ 9223372036854775807 := by
   intro i
   by_cases hi : i < len
   ·obtain ⟨ce, y, hl, hc, ht, hsy⟩ := hr i hi
    obtain ⟨v, hv, hn⟩ := open_Ac ht hsy
    exact ⟨v, fun _ => ⟨⟨ce, hl, hc, hv⟩, hn⟩⟩
   ·exact ⟨⟨0, mtB, mtB, mtB, 0⟩, fun h => absurd h hi⟩
  refine ⟨len, fun i => Classical.choose (hex i), fun i => cAc (Classical.choose (hex i)), fun _ _ => rfl, fun i hi => (Classical.choose_spec (hex i) hi).2, ?_⟩
  simp only [RelV]
  refine repC_rows ⟨hlc, by omega⟩ (.inr ⟨b, o, rfl, fun i hi => ?_⟩)
  obtain ⟨⟨ce, g1, g2, g3⟩, _⟩ := Classical.choose_spec (hex i) hi
  refine ⟨ce, g1, fun j hj u hu => ?_, rfl, g3⟩
  have := g2 j hj
  rw [hu] at this
  exact this
end
end Go.Proofs.Ytndacaemcakmkaa
