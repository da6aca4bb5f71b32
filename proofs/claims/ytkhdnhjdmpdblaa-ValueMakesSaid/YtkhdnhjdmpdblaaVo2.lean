/- Contracts of functions of the program, and the laws that stand on them: what each function answers, whatever its arguments. -/
import Derived.Test.YtkhdnhjdmpdblaaTT
import Derived.Test.YtkhdnhjdmpdblaaVD
set_option linter.unusedSectionVars false
set_option linter.unnecessarySimpa false
namespace Go.Proofs.Ytkhdnhjdmpdblaa
set_option linter.unusedSimpArgs false
set_option linter.unusedVariables false
set_option maxRecDepth 100000
set_option maxHeartbeats 8000000
open Go Go.VA Go.RowKit Go.ChangeShapes Go.WideShapes Go.ChangeAt
section
variable {H : Type} {enc : TypeId × Value → H} {W : World} {base : Nat} {sp : Nat → Bool} {held : Bool}
theorem repVs_one {S : Rd} {x : C} {u : Value} (h : RepC S x u) : RepVs S [x] [u] := by simp only [RepVs]; exact ⟨u, [], rfl, h, rfl⟩
theorem open_strs {fuel : Nat} {cs : List Value} {x : DataW H × List MemPlace} (h : DataW.trod enc Try.prog W base sp held fuel 22 cs = some x) (hs : SzW Try.prog 22 x.1) : ∃ l : List ByteArray, ∃ u, cs = [u] ∧ RepC (S0 W) (.sl false 1 l.length (rS l)) u := by
  obtain ⟨a, len, cap, m, rfl, rfl, hlc, hcap0, hrows⟩ := tr_sliceS htb (t := 22) (e := 9) rfl rfl (by decide) h hs
  have hcap : len * 16 ≤ 140737488351232 := hcap0
  have key : len = 0 ∨ ∃ b o, a = some ⟨b, o, none⟩ ∧ ∃ l : List ByteArray, l.length = len ∧ ∀ i, i < len → ∃ ce : List Value, ce.length = 1 ∧ (∀ j, j < 1 → ∀ u, ce[j]? = some u → S0 W false b (o + i * 1 + j) u) ∧ RepVs (S0 W) (rS l i) ce := by
    rcases hrows with h0 | ⟨b, o, rfl, hr⟩
    · exact .inl h0
    · refine .inr ⟨b, o, rfl, ?_⟩
      have hex : ∀ i : Fin len, ∃ s : ByteArray, W.cell? ⟨b, o + i * 1, none⟩ = some (.string s) := by
        intro ⟨i, hi⟩
        obtain ⟨ce, y, hl, hc, ht, _⟩ := hr i hi
        obtain ⟨s, rfl, _⟩ := tr_str htb (t := 9) rfl ht
        refine ⟨s, ?_⟩
        have := hc 0 (by decide)
        exact this
      have hf := fun i => Classical.choose_spec (hex i)
      refine ⟨List.ofFn fun i => Classical.choose (hex i), by simp, fun i hi => ⟨[.string (Classical.choose (hex ⟨i, hi⟩))], rfl, fun j hj u hu => ?_, ?_⟩⟩
      · obtain rfl : j = 0 := by omega
        simp at hu
        subst hu
        have := hf ⟨i, hi⟩
        simpa [S0] using this
      · have : rS (List.ofFn fun i => Classical.choose (hex i)) i = [.v (.string (Classical.choose (hex ⟨i, hi⟩)))] := by
          simp [rS, rowE, cS, List.getD_eq_getElem?_getD, hi]
        rw [this]
        exact repVs_one repV_s
  rcases key with h0 | ⟨b, o, rfl, l, hl, hr⟩
  · subst h0
    exact ⟨[], _, rfl, repC_rows ⟨hlc, by simp⟩ (.inl rfl)⟩
  · subst hl
    refine ⟨l, _, rfl, repC_rows ⟨hlc, by omega⟩ (.inr ⟨b, o, rfl, fun i hi => ?_⟩)⟩
    obtain ⟨ce, h1, h2, h3⟩ := hr i hi
    exact ⟨ce, h1, fun j hj u hu => h2 j hj u hu, by simp [rS, rowE, cS], h3⟩
theorem len8 {l : List Value} (h : l.length = 8) : ∃ a b c d e f g i, l = [a, b, c, d, e, f, g, i] := by
  match l, h with
  | [a, b, c, d, e, f, g, i], _ => exact ⟨_, _, _, _, _, _, _, _, rfl⟩
theorem open_V (n : Nat) : ∀ (fuel : Nat), fuel < n → ∀ (cs : List Value) (x : DataW H × List MemPlace), DataW.trod enc Try.prog W base sp held fuel 29 cs = some x → SzW Try.prog 29 x.1 → ∃ v : V, RepVs (S0 W) (cV v) cs ∧ rgV v = true := by
  induction n with
  | zero => intro fuel h; omega
  | succ n ih =>
    intro fuel hfu cs x h hs
    obtain ⟨hl, m, rfl, hx⟩ := tr_structS htb (t := 29) rfl h hs
    obtain ⟨c0, c1, c2, c3, c4, c5, c6, c7, rfl⟩ := len8 hl
    obtain ⟨y0, h0, s0⟩ := hx 0 0 3 rfl rfl
    obtain ⟨y1, h1, s1⟩ := hx 1 1 2 rfl rfl
    obtain ⟨y2, h2, s2⟩ := hx 2 2 9 rfl rfl
    obtain ⟨y3, h3, s3⟩ := hx 3 3 23 rfl rfl
    obtain ⟨y4, h4, s4⟩ := hx 4 4 22 rfl rfl
    obtain ⟨y5, h5, s5⟩ := hx 5 5 27 rfl rfl
    obtain ⟨y6, h6, s6⟩ := hx 6 7 4 rfl rfl
    obtain ⟨k, e0, _⟩ := tr_int htb (t := 3) (k := .i64) rfl h0
    obtain ⟨i, e1, i0, i1⟩ := tr_int htb (t := 2) (k := .i64) rfl h1
    obtain ⟨s, e2, _⟩ := tr_str htb (t := 9) rfl h2
    obtain ⟨ks, u4, e4, r4⟩ := open_strs h4 s4
    obtain ⟨se, e6⟩ := tr_bool htb (t := 4) rfl h6
    obtain ⟨hl5, m5, rfl, hx5⟩ := tr_struct htb (t := 27) rfl h5
    obtain ⟨z0, g0⟩ := hx5 0 0 3 rfl rfl
    obtain ⟨z1, g1⟩ := hx5 1 1 3 rfl rfl
    obtain ⟨tk, e50, _⟩ := tr_int htb (t := 3) (k := .i64) rfl g0
    obtain ⟨to, e51, _⟩ := tr_int htb (t := 3) (k := .i64) rfl g1
    obtain ⟨a, len, cap, m3, e3, hm3, hlc, hcap0, hrows⟩ := tr_sliceS htb (t := 23) (e := 29) rfl rfl (by decide) h3 s3
    have hcap : len * 104 ≤ 140737488351232 := hcap0
    simp [tb, tbl, VA.look] at e0 e1 e2 e3 e4 e6 e50 e51
    subst e0; subst e1; subst e2; subst e3; subst e4; subst e6; subst e50; subst e51
    have key : ∃ l : List V, RepC (S0 W) (.sl false 8 l.length (rV l)) (.slice a len cap) ∧ ∀ x ∈ l, rgV x = true := by
      rcases hrows with h0 | ⟨b, o, rfl, hr⟩
      · subst h0
        exact ⟨[], repC_rows ⟨hlc, by simp⟩ (.inl rfl), fun x hx => absurd hx (by simp)⟩
      · have hex : ∀ i : Fin len, ∃ v : V, ∃ ce : List Value, ce.length = 8 ∧ (∀ j, j < 8 → W.cell? ⟨b, o + i * 8 + j, none⟩ = ce[j]?) ∧ RepVs (S0 W) (cV v) ce ∧ rgV v = true := by
          intro ⟨i, hi⟩
          obtain ⟨ce, y, hl, hc, ht, hsy⟩ := hr i hi
          obtain ⟨v, hv, hg⟩ := ih m3 (by omega) ce y ht hsy
          exact ⟨v, ce, hl, hc, hv, hg⟩
        have hf := fun i => Classical.choose_spec (hex i)
        refine ⟨List.ofFn fun i => Classical.choose (hex i), ?_, fun x hx => ?_⟩
        rotate_left
        · obtain ⟨i, rfl⟩ := List.mem_ofFn.1 hx
          obtain ⟨_, _, _, _, g⟩ := hf i
          exact g
        rw [List.length_ofFn]
        refine repC_rows ⟨hlc, by omega⟩ (.inr ⟨b, o, rfl, fun i hi => ?_⟩)
        obtain ⟨ce, g1, g2, g3, _⟩ := hf ⟨i, hi⟩
        have hrow : rV (List.ofFn fun i => Classical.choose (hex i)) i = cV (Classical.choose (hex ⟨i, hi⟩)) := by
          rw [rV_get (by simpa using hi)]; simp
        rw [hrow]
        refine ⟨ce, g1, fun j hj u hu => ?_, rfl, g3⟩
        have := g2 j hj
        rw [hu] at this
        exact this
    obtain ⟨l, r3, hg⟩ := key
    refine ⟨.mk k i s l ks tk to se, ?_, ?_⟩
    rotate_left
    · rw [rgV_eq]
      simp only [V.i, V.l, Bool.and_eq_true, decide_eq_true_eq, List.all_eq_true]
      exact ⟨⟨decide_eq_true i0, decide_eq_true i1⟩, hg⟩
    show RepVs (S0 W) [.v (.int .i64 k), .v (.int .i64 i), .v (.string s), .sl false 8 l.length (rV l), .sl false 1 ks.length (rS ks), .v (.int .i64 tk), .v (.int .i64 to), .v (.bool se)] _
    simp only [RepVs]
    exact ⟨_, _, rfl, repV_i, _, _, rfl, repV_i, _, _, rfl, repV_s, _, _, rfl, r3, _, _, rfl, r4, _, _, rfl, repV_i, _, _, rfl, repV_i, _, _, rfl, repV_b, rfl⟩
end
end Go.Proofs.Ytkhdnhjdmpdblaa
