/- Contracts of functions of the program, and the laws that stand on them: what each function answers, whatever its arguments. -/
import Derived.Test.YtleaaimipgpfjaaD9
import Derived.Test.YtleaaimipgpfjaaVD
import Derived.ChangeMaps5
import Derived.Carry
import Derived.Test.YtleaaimipgpfjaaRows
set_option linter.unusedSectionVars false
set_option linter.unnecessarySimpa false
namespace Go.Proofs.Ytleaaimipgpfjaa
set_option linter.unusedSimpArgs false
set_option linter.unusedVariables false
set_option maxRecDepth 100000
set_option maxHeartbeats 8000000
open Go Go.VA Go.RowKit Go.ChangeShapes Go.WideShapes Go.ChangeAt
/-! ### the row -/
theorem own : ownKnob Try.prog.godebug = none := by kernel_rfl
theorem laidOut : laidOutB Try.prog = true := by kernel_rfl
section
variable {H : Type} {enc : TypeId × Value → H} {W : World} {base : Nat} {sp : Nat → Bool} {held : Bool}
theorem openBy {fuel : Nat} {cs : List Value} {x : DataW H × List MemPlace} (h : DataW.trod enc Try.prog W base sp held fuel 22 cs = some x) (hs : SzW Try.prog 22 x.1) : ∃ (n : Nat) (f : Nat → List C) (u : Value), cs = [u] ∧ RepC (S0 W) (.sl false 1 n f) u := by
  obtain ⟨a, len, cap, m, e3, hm3, hlc, hcap0, hrows⟩ := tr_sliceS htb (t := 22) (e := 5) rfl rfl (by decide) h hs
  have hcap : len * 1 ≤ 140737488351232 := hcap0
  rcases hrows with h0 | ⟨b, o, rfl, hr⟩
  · subst h0
    exact ⟨0, fun _ => [], _, e3, repC_rows ⟨hlc, by simp⟩ (.inl rfl)⟩
  · have hex : ∀ i : Fin len, ∃ n : Int, W.cell? ⟨b, o + i * 1, none⟩ = some (.int .u8 n) := by
      intro ⟨i, hi⟩
      obtain ⟨ce, y, hl, hc, ht, _⟩ := hr i hi
      obtain ⟨n, rfl, h0, h255⟩ := tr_int htb (t := 5) (k := .u8) rfl ht
      exact ⟨n, hc 0 (by decide)⟩
    have hf := fun i => Classical.choose_spec (hex i)
    refine ⟨len, fun i => [.v (.int .u8 (if h : i < len then Classical.choose (hex ⟨i, h⟩) else 0))], _, e3, repC_rows ⟨hlc, by omega⟩ (.inr ⟨b, o, rfl, fun i hi => ?_⟩)⟩
    refine ⟨[.int .u8 (Classical.choose (hex ⟨i, hi⟩))], rfl, fun j hj u hu => ?_, rfl, ?_⟩
    · obtain rfl : j = 0 := by omega
      simp at hu
      subst hu
      have := hf ⟨i, hi⟩
      simpa [S0] using this
    · simp only [RepVs, dif_pos hi]
      exact ⟨_, _, rfl, repV_i, rfl⟩
theorem len5 {l : List Value} (h : l.length = 5) : ∃ a b c d e, l = [a, b, c, d, e] := by
  match l, h with
  | [a, b, c, d, e], _ => exact ⟨_, _, _, _, _, rfl⟩
theorem open_act {v : Value} {d : DataW H} {ps : List MemPlace} {r : Reach} {b0 : Nat} (hval : Value.okWide Try.prog W r b0 24 v) (hd : DataW.Trod enc Try.prog W base sp held 24 v d ps) (hs : SzW Try.prog 24 d) :
    ∃ (k : Int) (s t : ByteArray) (n : Nat) (f : Nat → List C) (i : Int), RelV [] (S0 W) (.ag [.v (.int .i64 k), .v (.string s), .v (.string t), .sl false 1 n f, .v (.int .i64 i)]) v := by
  obtain ⟨arr, rfl, hc⟩ := arg_agg htb (t := 24) rfl hval
  obtain ⟨fuel, hf⟩ := hd
  rw [hc] at hf
  obtain ⟨hl, m, rfl, hx⟩ := tr_structS htb (t := 24) rfl hf hs
  have hl : arr.toList.length = 5 := hl
  have hrel : ∀ xs : List C, RepVs (S0 W) xs arr.toList → RelV [] (S0 W) (.ag xs) (.agg arr) := fun xs h => relV_agg rfl h
  generalize arr.toList = l at *
  obtain ⟨c0, c1, c2, c3, c4, rfl⟩ := len5 hl
  obtain ⟨y0, h0, s0⟩ := hx 0 0 3 rfl rfl
  obtain ⟨y1, h1, s1⟩ := hx 1 1 9 rfl rfl
  obtain ⟨y2, h2, s2⟩ := hx 2 2 9 rfl rfl
  obtain ⟨y3, h3, s3⟩ := hx 3 3 22 rfl rfl
  obtain ⟨y4, h4, s4⟩ := hx 4 4 3 rfl rfl
  obtain ⟨k, e0, _⟩ := tr_int htb (t := 3) (k := .i64) rfl h0
  obtain ⟨s, e1, _⟩ := tr_str htb (t := 9) rfl h1
  obtain ⟨t, e2, _⟩ := tr_str htb (t := 9) rfl h2
  obtain ⟨n, f, u, e3, hu⟩ := openBy h3 s3
  obtain ⟨i, e4, _⟩ := tr_int htb (t := 3) (k := .i64) rfl h4
  simp [tb, tbl, VA.look] at e0 e1 e2 e3 e4
  subst e0; subst e1; subst e2; subst e3; subst e4
  refine ⟨k, s, t, n, f, i, hrel _ ?_⟩
  simp only [RepVs]
  exact ⟨_, _, rfl, repV_i, _, _, rfl, repV_s, _, _, rfl, repV_s, _, _, rfl, hu, _, _, rfl, repV_i, rfl⟩
end
theorem diskNil_lifted (os : Os) (started : os.Started) (H : Type) (enc : TypeId × Value → H) :
    ReturnsInHanded {} Try.checked os 3 .any (Rows.diskNilSpec.pre6 enc Try.prog Try.f3 Rows.diskNilRow.domain false) (Rows.diskNilSpec.post enc Try.prog Try.f3 false true false false) := by
  refine law_liftedS os started own (by kernel_rfl) Try.func3 laidOut (by kernel_rfl) rfl rfl rfl (tb := 4) (by kernel_rfl) (fun ds h => ?_)
    (ChangeSpec.witness6 (enc := enc) (C := Try.checked) false ⟨#[], #[.agg #[.int .i64 0, .string ByteArray.empty, .string ByteArray.empty, .slice none 0 0, .int .i64 0]], []⟩ 8 (by kernel_rfl) (by kernel_rfl) (by kernel_rfl) (by kernel_rfl)) ?_
  · match ds, h with | [_], _ => rfl
  · intro W base args ds ps hval hA0 hs
    have hA : DataW.TrodAll enc Try.prog W 0 (fun _ => true) true [24] args.toList ds ps := hA0
    obtain ⟨v0, d0, rfl, rfl, h0⟩ := trodAll_one hA
    obtain ⟨k, s, t, n, f, i, e0⟩ := open_act (hval 0 24 v0 rfl rfl) h0 (hs 0 24 d0 rfl rfl)
    exact acall_true (aDiskNil k s t false n f i) W _ (glOk_nil _) ⟨_, _, rfl, e0, rfl⟩
theorem diskNil_holds : Rows.DiskNilSaid :=
  OpenClaim.holds_of_wide 3 Try.f3 rfl rfl rfl rfl rfl rfl rfl ⟨rfl, rfl, rfl, rfl, rfl⟩ rfl rfl rfl rfl rfl (by kernel_rfl) Try.func3 (by kernel_rfl)
    (of_decide_eq_true (by kernel_rfl)) (by unfold Func.isWrapper; rw [if_neg (by decide +kernel)]; exact ⟨rfl, rfl⟩)
    (fun os started H enc _ => diskNil_lifted os started H enc)
#print axioms diskNil_holds
end Go.Proofs.Ytleaaimipgpfjaa
