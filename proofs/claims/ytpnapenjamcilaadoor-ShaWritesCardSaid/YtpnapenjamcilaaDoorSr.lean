/- Contracts of functions of the program, and the laws that stand on them: what each function answers, whatever its arguments. -/
import Derived.Test.YtpnapenjamcilaaDoorSq
import Derived.Test.YtpnapenjamcilaaDoorSk
set_option linter.unusedSectionVars false
set_option linter.unnecessarySimpa false
namespace Go.Proofs.YtpnapenjamcilaaDoor
set_option linter.unusedSimpArgs false
set_option linter.unusedVariables false
set_option maxRecDepth 100000
set_option maxHeartbeats 8000000
open Go Go.VA Go.RowKit Go.ChangeShapes Go.WideShapes Go.ChangeAt
section
variable {H : Type} {enc : TypeId × Value → H} {W : World} {base : Nat} {sp : Nat → Bool} {held : Bool}
theorem open_bytesC {fuel : Nat} {cs : List Value} {x : DataW H × List MemPlace} (h : DataW.trod enc Tryd.prog W base sp held fuel 22 cs = some x) (hs : SzW Tryd.prog 22 x.1) : ∃ (n : Nat) (c : Nat → UInt8), ∃ u, cs = [u] ∧ RepC (S0 W) (.sl false 1 n (byF c)) u := by
  obtain ⟨a, len, cap, m3, e3, hm3, hlc, hcap0, hrows⟩ := tr_sliceS htb (t := 22) (e := 5) rfl rfl (by decide) h hs
  have hcap : len * 1 ≤ 140737488351232 := hcap0
  subst e3
  rcases hrows with h0 | ⟨b, o, rfl, hr⟩
  · subst h0
    exact ⟨0, fun _ => 0, _, rfl, repC_rows ⟨hlc, by simp⟩ (.inl rfl)⟩
  · have hex : ∀ i : Nat, ∃ v : UInt8, i < len → W.cell? ⟨b, o + i * 1, none⟩ = some (.int .u8 (v.toNat : Int)) := by
      intro i
      by_cases hi : i < len
      · obtain ⟨ce, y, hl, hc, ht, hsy⟩ := hr i hi
        obtain ⟨n, e0, h0, h255⟩ := tr_int htb (t := 5) (k := .u8) rfl ht
        have h0 : 0 ≤ n := h0
        have h255 : n ≤ 255 := h255
        refine ⟨UInt8.ofNat n.toNat, fun _ => ?_⟩
        have e : ((UInt8.ofNat n.toNat).toNat : Int) = n := by
          rw [UInt8.toNat_ofNat']; omega
        rw [e]
        have := hc 0 (by decide)
        rw [e0] at this
        exact this
      · exact ⟨0, fun h => absurd h hi⟩
    have hf := fun i => Classical.choose_spec (hex i)
    refine ⟨len, fun i => Classical.choose (hex i), _, rfl, ?_⟩
    refine repC_rows ⟨hlc, by omega⟩ (.inr ⟨b, o, rfl, fun i hi => ?_⟩)
    have g := hf i hi
    refine ⟨[.int .u8 ((Classical.choose (hex i)).toNat : Int)], rfl, fun j hj u hu => ?_, rfl, ?_⟩
    · obtain rfl : j = 0 := by simpa using hj
      have e : u = .int .u8 ((Classical.choose (hex i)).toNat : Int) := by simpa using hu.symm
      rw [e]; exact g
    · exact ⟨_, [], rfl, by simp [RepC, Value.oneCell', cb], rfl⟩
theorem open_parts {v : Value} {d : DataW H} {ps : List MemPlace} {r : Reach} {b0 : Nat} (hval : Value.okWide Tryd.prog W r b0 32 v) (hd : DataW.Trod enc Tryd.prog W base sp held 32 v d ps) (hs : SzW Tryd.prog 32 d) :
    ∃ (N : Nat) (qs : Nat → Nat × (Nat → UInt8)), RelV [] (S0 W) (.c (.sl false 1 N (fun i => [.sl false 1 (qs i).1 (byF (qs i).2)]))) v := by
  have hc := arg_slice htb (t := 32) (e := 22) rfl hval
  obtain ⟨fuel, hf⟩ := hd
  rw [hc] at hf
  obtain ⟨a, len, cap, m3, e3, hm3, hlc, hcap0, hrows⟩ := tr_sliceS htb (t := 32) (e := 22) rfl rfl (by decide) hf hs
  have hcap : len * 24 ≤ 140737488351232 := hcap0
  obtain rfl : v = .slice a len cap := by simpa using e3
  rcases hrows with h0 | ⟨b, o, rfl, hr⟩
  · subst h0
    exact ⟨0, fun _ => (0, fun _ => 0), by simp only [RelV]; exact repC_rows ⟨hlc, by simp⟩ (.inl rfl)⟩
  · have hex : ∀ i : Nat, ∃ q : Nat × (Nat → UInt8), i < len → ∃ u, W.cell? ⟨b, o + i * 1, none⟩ = some u ∧ RepC (S0 W) (.sl false 1 q.1 (byF q.2)) u := by
      intro i
      by_cases hi : i < len
      · obtain ⟨ce, y, hl, hc, ht, hsy⟩ := hr i hi
        obtain ⟨n, c, u, e0, hu⟩ := open_bytesC ht hsy
        refine ⟨(n, c), fun _ => ⟨u, ?_, hu⟩⟩
        have := hc 0 (by decide)
        rw [e0] at this
        exact this
      · exact ⟨(0, fun _ => 0), fun h => absurd h hi⟩
    have hf := fun i => Classical.choose_spec (hex i)
    refine ⟨len, fun i => Classical.choose (hex i), ?_⟩
    simp only [RelV]
    refine repC_rows ⟨hlc, by omega⟩ (.inr ⟨b, o, rfl, fun i hi => ?_⟩)
    obtain ⟨u, g1, g2⟩ := hf i hi
    refine ⟨[u], rfl, fun j hj u' hu => ?_, rfl, ?_⟩
    · obtain rfl : j = 0 := by simpa using hj
      have e : u' = u := by simpa using hu.symm
      rw [e]; exact g1
    · exact ⟨_, [], rfl, g2, rfl⟩
end
set_option maxRecDepth 100000 in
theorem shaWrites_lifted (os : Os) (started : os.Started) (H : Type) (enc : TypeId × Value → H) :
    ReturnsInHanded {} Tryd.checked os 4 .any (fun w args => (Rows.shaWritesSpec.pre enc Tryd.prog Tryd.f4 Rows.shaWritesRow.domain false w args ∧ laidMetH Tryd.prog Rows.shaNilRow.laid w) ∧ sizedMet enc Tryd.prog Tryd.f4 (OpenSpec.ofChange Rows.shaWritesSpec) false w args) (Rows.shaWritesSpec.post enc Tryd.prog Tryd.f4 false true false false) := by
  refine law_liftedL Rows.shaNilRow.laid os started own (by kernel_rfl) Tryd.func4 laidOut (by kernel_rfl) rfl rfl rfl (tb := 4) (by kernel_rfl) (fun ds h => ?_)
    (ChangeSpec.witness_shaped (enc := enc) (C := Tryd.checked) (os := os) (X := fun w _ => laidMetH Tryd.prog Rows.shaNilRow.laid w) false (World.doorLaid Tryd.prog 19 os) #[.slice none 0 0] 8 rfl (World.shaped_of_RefB (by kernel_rfl) (by kernel_rfl)) (by kernel_rfl) (by kernel_rfl) (by kernel_rfl) (door_met os _)) ?_
  · match ds, h with | [_], _ => rfl
  · intro W base args ds ps hval hA0 hs hL
    have hA : DataW.TrodAll enc Tryd.prog W 0 (fun _ => true) true [32] args.toList ds ps := hA0
    obtain ⟨v0, d0, rfl, rfl, h0⟩ := trodAll_one hA
    obtain ⟨N, qs, e0⟩ := open_parts (hval 0 32 v0 rfl rfl) h0 (hs 0 32 d0 rfl rfl)
    exact acall_true (aWrites false N _ (fun _ => false) qs fun i _ => rfl) W _ (glOk_laid hL) ⟨_, _, rfl, e0, rfl⟩
theorem shaWrites_holds : Rows.ShaWritesSaid :=
  OpenClaim.holds_of_wide 4 Tryd.f4 rfl rfl rfl rfl rfl rfl rfl ⟨rfl, rfl, rfl, rfl, rfl⟩ rfl rfl rfl rfl rfl (by kernel_rfl) Tryd.func4 (by kernel_rfl)
    (of_decide_eq_true (by kernel_rfl)) (by unfold Func.isWrapper; rw [if_neg (by decide +kernel)]; exact ⟨rfl, rfl⟩)
    (fun os started H enc _ => shaWrites_lifted os started H enc)
theorem shaWritesCard_holds : Rows.ShaWritesCardSaid :=
  Claim7.holds_tied_plain_at .later [] [.data, .data] true (true, "4ca3d889da210cb43c6a61a2d049359a7945a6de1e862ab237ab2b0cbaf27429") false
    shaWrites_holds (fun _ h => by cases h) (by kernel_rfl) (fun _ h => by cases h) shaWrites_row_tie rfl ⟨rfl, rfl⟩ (by kernel_rfl) rfl
    (fun f fn hf hfn => by
      obtain rfl : f = 4 := Option.some.inj ((show Tryd.prog.funcNamed Rows.shaWritesRow.func = some 4 by kernel_rfl).symm.trans hf) |>.symm
      obtain rfl : fn = Tryd.f4 := (Option.some.inj (Tryd.func4.symm.trans hfn)).symm
      exact ⟨by kernel_rfl, fun j t ht => by
        have ht' : (#[32] : Array TypeId)[j]? = some t := ht
        have hm : t ∈ [32] := by simpa using Array.mem_of_getElem? ht'
        have hall : ([32].all fun u => !Tryd.prog.wantsStandIn u) = true := by kernel_rfl
        exact (show Tryd.prog.wantsStandIn t = false by simpa using List.all_eq_true.1 hall t hm)⟩)
    (by kernel_rfl)
#print axioms shaWritesCard_holds
end Go.Proofs.YtpnapenjamcilaaDoor
