/- Contracts of functions of the program, and the laws that stand on them: what each function answers, whatever its arguments. -/
import Derived.Test.YtcgcamfhollnlaaGreatDoorC10
set_option linter.unusedSectionVars false
set_option linter.unnecessarySimpa false
namespace Go.Proofs.YtcgcamfhollnlaaGreatDoor
set_option linter.unusedSimpArgs false
set_option linter.unusedVariables false
set_option maxRecDepth 100000
set_option maxHeartbeats 8000000
open Go Go.VA
theorem byte_facts (c : Nat) (h : c < 256) : kdOf c = kdR c ∧ scOf c = scR c ∧ IntKind.i64.wrap (c : Int) = c ∧ (ofC c).1 = (if chkR (tyR c) then tyR c else (0, 0)) ∧ (ofC c).2 = (if chkR (tyR c) then 0 else 4) ∧ (0 ≤ kdR c) := by
  have : ∀ c : Fin 256, kdOf (c.val : Int) = kdR (c.val : Int) ∧ scOf (c.val : Int) = scR (c.val : Int) ∧ IntKind.i64.wrap (c.val : Int) = (c.val : Int) ∧ (ofC (c.val : Int)).1 = (if chkR (tyR (c.val : Int)) then tyR (c.val : Int) else (0, 0)) ∧ (ofC (c.val : Int)).2 = (if chkR (tyR (c.val : Int)) then 0 else 4) ∧ (0 ≤ kdR (c.val : Int)) := by decide +kernel
  exact this ⟨c, h⟩
theorem byteAt_nat (s : ByteArray) (a : Int) : ∃ c : Nat, byteAt s a = (c : Int) ∧ c < 256 := by
  have := byteN_lt s a.toNat
  exact ⟨(byteN s a.toNat).toNat, by show byteN s a.toNat = _; omega, by omega⟩
theorem ofNat64 (n : Nat) (h : n < 2 ^ 64) : (BitVec.ofInt 64 (n : Int)).toNat = n := by rw [BitVec.ofInt_natCast, BitVec.toNat_ofNat]; omega
theorem zag_eq (n : Nat) (h : n < 2 ^ 64) : zag n = zgR n := by
  unfold zag zgR
  have hs : shrI .u64 (n : Int) 1 = ((n / 2 : Nat) : Int) := by
    show (n : Int).fdiv (2 ^ 1) = _
    rw [Int.fdiv_eq_ediv_of_nonneg _ (by decide)]
    omega
  have ht : (n : Int).tdiv 2 = ((n / 2 : Nat) : Int) := by rw [Int.tdiv_eq_ediv_of_nonneg (by omega)]; omega
  have hm : (n : Int).tmod 2 = ((n % 2 : Nat) : Int) := by rw [Int.tmod_eq_emod_of_nonneg (by omega)]; omega
  have hd : n / 2 < 2 ^ 63 := by omega
  have w1 : IntKind.i64.wrap ((n / 2 : Nat) : Int) = ((n / 2 : Nat) : Int) := wrap64 (by omega) (by omega)
  have w2 : IntKind.u64.wrap ((n / 2 : Nat) : Int) = ((n / 2 : Nat) : Int) := wrapU (by omega) (by omega)
  have ha : IntKind.i64.wrap (bitsI .and .u64 (n : Int) 1) = ((n % 2 : Nat) : Int) := by
    have e : bitsI .and .u64 (n : Int) 1 = ((n % 2 : Nat) : Int) := by
      unfold bitsI
      show IntKind.u64.wrap (((BitVec.ofInt 64 (n : Int) &&& BitVec.ofInt 64 1).toNat : Nat) : Int) = _
      have e1 : (BitVec.ofInt 64 (n : Int)).toNat = n := by rw [BitVec.ofInt_natCast, BitVec.toNat_ofNat]; omega
      rw [BitVec.toNat_and, e1, show (BitVec.ofInt 64 1).toNat = 1 from rfl, Nat.and_one_is_mod]
      exact wrapU (by omega) (by omega)
    rw [e]; exact wrap64 (by omega) (by omega)
  rw [hs, ht, hm, w1, w2, ha, w1]
  have h2 : n % 2 = 0 ∨ n % 2 = 1 := by omega
  rcases h2 with h2 | h2
  · rw [h2]
    rw [if_neg (by decide)]
    unfold bitsI
    show IntKind.i64.wrap (((BitVec.ofInt 64 ((n / 2 : Nat) : Int) ^^^ BitVec.ofInt 64 (IntKind.i64.wrap (0 - ((0 : Nat) : Int)))).toNat : Nat) : Int) = _
    rw [BitVec.toNat_xor, ofNat64 _ (by omega), show (BitVec.ofInt 64 (IntKind.i64.wrap (0 - ((0 : Nat) : Int)))).toNat = 0 from by decide, Nat.xor_zero, w1]
  · rw [h2]
    rw [if_pos (by decide)]
    unfold bitsI
    show IntKind.i64.wrap (((BitVec.ofInt 64 ((n / 2 : Nat) : Int) ^^^ BitVec.ofInt 64 (IntKind.i64.wrap (0 - ((1 : Nat) : Int)))).toNat : Nat) : Int) = _
    rw [show BitVec.ofInt 64 (IntKind.i64.wrap (0 - ((1 : Nat) : Int))) = BitVec.allOnes 64 from by decide, BitVec.xor_allOnes, BitVec.toNat_not, ofNat64 _ (by omega), IntKind.wrap_i64, wrap64 (n := -1 - ((n / 2 : Nat) : Int)) (by omega) (by omega)]
    omega
theorem gS_lt (s : ByteArray) (k : Nat) : ∀ (m i : Nat) (acc : Int), acc < 18446744073709551616 → (gS s k m i acc).1 < 18446744073709551616
  | 0, _, _, _ => by show (0 : Int) < 18446744073709551616; decide
  | m + 1, i, acc, h => by
    have hw : ∀ c, gSt acc i c < 18446744073709551616 := fun c => by
      unfold gSt bitsI
      exact Int.emod_lt_of_pos _ (by decide)
    simp only [gS]
    split
    · decide
    · split
      · split
        · decide
        · exact hw _
      · exact gS_lt s k m (i + 1) _ (hw _)
structure Agree {α : Type} (d r : α × Int × Int) : Prop where
  ok : d.2.2 = 0 → r = d
  bad : d.2.2 ≠ 0 → r.2.2 = d.2.2
theorem Agree.rfl' {α : Type} (d : α × Int × Int) : Agree d d := ⟨fun _ => rfl, fun _ => rfl⟩
structure AgreeI (d r : List ByteArray × List V × Int × Int) : Prop where
  ok : d.2.2.2 = 0 → r = d
  bad : d.2.2.2 ≠ 0 → r.2.2.2 = d.2.2.2
structure Both2 (s : ByteArray) (vd : Int → V × Int × Int) (vr : Int → Int → V × Int × Int) : Prop where
  ag : ∀ a : Int, 0 ≤ a → a ≤ s.size → Agree (vd a) (vr a 0)
  rg : ∀ a : Int, 0 ≤ a → a ≤ s.size → 0 ≤ (vd a).2.1 ∧ (vd a).2.1 ≤ s.size
  stop : ∀ a b : Int, b ≠ 0 → (vr a b).2.2 = b
theorem rText0 (s : ByteArray) (a : Int) : rText s a 0 = ((gTx s a).1, a + (gTx s a).2.1, (gTx s a).2.2) := by unfold rText; rw [if_neg (by decide)]; rfl
theorem rShort0 (s : ByteArray) (a : Int) : rShort s a 0 = ((gSx s a).1, a + (gSx s a).2.1, (gSx s a).2.2) := by unfold rShort; rw [if_neg (by decide)]; rfl
theorem rByte0 (s : ByteArray) (a : Int) : rByte s a 0 = if decide (a ≥ s.size) then (0, a, 2) else (byteAt s a, a + 1, 0) := by unfold rByte; rw [if_neg (by decide)]
theorem failB_ne {b e : Int} (h : b ≠ 0) : failB b e = b := by unfold failB; rw [if_neg (by simpa using h)]
theorem failB0 (e : Int) : failB 0 e = e := rfl
theorem rdIt_stop {vr : Int → Int → V × Int × Int} {s : ByteArray} {kd : Int} (m : Nat) (ks : List ByteArray) (l : List V) (a b : Int) (h : b ≠ 0) : rdIt vr s kd m ks l a b = (ks, l, a, b) := by
  cases m with
  | zero => rfl
  | succ m => simp only [rdIt]; rw [if_pos (by simpa using h)]
theorem gTx_rg (s : ByteArray) (a : Int) (h0 : 0 ≤ a) (h1 : a ≤ s.size) : 0 ≤ a + (gTx s a).2.1 ∧ a + (gTx s a).2.1 ≤ s.size := by
  have := rText_ok s a 0 h0 h1
  rw [rText0] at this
  exact this
theorem it_agree {s : ByteArray} {vd : Int → V × Int × Int} {vr : Int → Int → V × Int × Int} (hv : Both2 s vd vr) (kd : Int) : ∀ (m : Nat) (ks : List ByteArray) (l : List V) (a : Int), 0 ≤ a → a ≤ s.size → AgreeI (rIt vd s kd m ks l a) (rdIt vr s kd m ks l a 0)
  | 0, ks, l, a, h0, h1 => ⟨fun _ => rfl, fun h => absurd rfl h⟩
  | m + 1, ks, l, a, h0, h1 => by
    simp only [rIt, rdIt]
    rw [if_neg (show ¬ ((0 : Int) != 0) = true by decide)]
    by_cases h5 : (kd == 5) = true
    · rw [if_pos h5]
      have hg := gTx_rg s a h0 h1
      by_cases he : ((gTx s a).2.2 != 0) = true
      · have he' : (gTx s a).2.2 ≠ 0 := by simpa using he
        rw [if_pos he]
        have hk : (rdK s kd ks a 0).2.2 = (gTx s a).2.2 := by
          unfold rdK
          rw [if_pos h5, rText0]
          show (if keyBad ks (gTx s a).1 = true then failB (gTx s a).2.2 4 else (gTx s a).2.2) = _
          split
          · exact failB_ne he'
          · rfl
        have hs := hv.stop (rdK s kd ks a 0).2.1 (rdK s kd ks a 0).2.2 (by rw [hk]; exact he')
        refine ⟨fun h => absurd h he', fun _ => ?_⟩
        rw [rdIt_stop _ _ _ _ _ (by rw [hs, hk]; exact he')]
        exact hs.trans hk
      · have he0 : (gTx s a).2.2 = 0 := by simpa using he
        rw [if_neg he]
        by_cases hb : keyBad ks (gTx s a).1 = true
        · rw [if_pos hb]
          have hk : (rdK s kd ks a 0).2.2 = 4 := by
            unfold rdK
            rw [if_pos h5, rText0]
            show (if keyBad ks (gTx s a).1 = true then failB (gTx s a).2.2 4 else (gTx s a).2.2) = _
            rw [if_pos hb, he0]; rfl
          have hs := hv.stop (rdK s kd ks a 0).2.1 (rdK s kd ks a 0).2.2 (by rw [hk]; decide)
          refine ⟨fun h => absurd h (by show (4 : Int) ≠ 0; decide), fun _ => ?_⟩
          rw [rdIt_stop _ _ _ _ _ (by rw [hs, hk]; decide)]
          exact hs.trans hk
        · rw [if_neg hb]
          have hk : rdK s kd ks a 0 = (ks ++ [(gTx s a).1], a + (gTx s a).2.1, 0) := by
            unfold rdK
            rw [if_pos h5, rText0]
            show (ks ++ [(gTx s a).1], a + (gTx s a).2.1, if keyBad ks (gTx s a).1 = true then failB (gTx s a).2.2 4 else (gTx s a).2.2) = _
            rw [if_neg hb, he0]
          rw [hk]
          have q := hv.ag (a + (gTx s a).2.1) hg.1 hg.2
          have r := hv.rg (a + (gTx s a).2.1) hg.1 hg.2
          by_cases hq : ((vd (a + (gTx s a).2.1)).2.2 != 0) = true
          · rw [if_pos hq]
            have hq' : (vd (a + (gTx s a).2.1)).2.2 ≠ 0 := by simpa using hq
            refine ⟨fun h => absurd h hq', fun _ => ?_⟩
            show (rdIt vr s kd m (ks ++ [(gTx s a).1]) (l ++ [(vr (a + (gTx s a).2.1) 0).1]) (vr (a + (gTx s a).2.1) 0).2.1 (vr (a + (gTx s a).2.1) 0).2.2).2.2.2 = _
            rw [q.bad hq', rdIt_stop _ _ _ _ _ hq']
          · rw [if_neg hq]
            have hq0 : (vd (a + (gTx s a).2.1)).2.2 = 0 := by simpa using hq
            show AgreeI _ (rdIt vr s kd m (ks ++ [(gTx s a).1]) (l ++ [(vr (a + (gTx s a).2.1) 0).1]) (vr (a + (gTx s a).2.1) 0).2.1 (vr (a + (gTx s a).2.1) 0).2.2)
            rw [q.ok hq0, hq0]
            exact it_agree hv kd m _ _ _ r.1 r.2
    · rw [if_neg h5]
      have hk : rdK s kd ks a 0 = (ks, a, 0) := by unfold rdK; rw [if_neg h5]
      rw [hk]
      have q := hv.ag a h0 h1
      have r := hv.rg a h0 h1
      by_cases hq : ((vd a).2.2 != 0) = true
      · rw [if_pos hq]
        have hq' : (vd a).2.2 ≠ 0 := by simpa using hq
        refine ⟨fun h => absurd h hq', fun _ => ?_⟩
        show (rdIt vr s kd m ks (l ++ [(vr a 0).1]) (vr a 0).2.1 (vr a 0).2.2).2.2.2 = _
        rw [q.bad hq', rdIt_stop _ _ _ _ _ hq']
      · rw [if_neg hq]
        have hq0 : (vd a).2.2 = 0 := by simpa using hq
        show AgreeI _ (rdIt vr s kd m ks (l ++ [(vr a 0).1]) (vr a 0).2.1 (vr a 0).2.2)
        rw [q.ok hq0, hq0]
        exact it_agree hv kd m _ _ _ r.1 r.2
theorem gSx_rg (s : ByteArray) (a : Int) (h0 : 0 ≤ a) (h1 : a ≤ s.size) : 0 ≤ (gSx s a).1 ∧ 0 ≤ a + (gSx s a).2.1 ∧ a + (gSx s a).2.1 ≤ s.size := by
  have := rShort_ok s a 0 h0 h1
  rw [rShort0] at this
  exact this
theorem all_agree {s : ByteArray} {vd : Int → V × Int × Int} {vr : Int → Int → V × Int × Int} (hv : Both2 s vd vr) (kd : Int) (sc : Bool) (a : Int) (h0 : 0 ≤ a) (h1 : a ≤ s.size) :
    Agree (if (gSx s a).2.2 != 0 then (V.z, 0, (gSx s a).2.2) else if decide ((gSx s a).1 > 128) then (V.z, 0, 3)
      else if (rAll vd s kd a).2.2.2 != 0 then (V.z, 0, (rAll vd s kd a).2.2.2) else (.mk kd 0 ByteArray.empty (rAll vd s kd a).2.1 (rAll vd s kd a).1 0 0 sc, (rAll vd s kd a).2.2.1, 0))
      ((.mk kd 0 ByteArray.empty (rdAll vr s kd a 0).2.1 (rdAll vr s kd a 0).1 0 0 sc, (rdAll vr s kd a 0).2.2.1, (rdAll vr s kd a 0).2.2.2) : V × Int × Int) := by
  have g := gSx_rg s a h0 h1
  have e : rdAll vr s kd a 0 = rdIt vr s kd (gSx s a).1.toNat [] [] (a + (gSx s a).2.1) (if decide ((gSx s a).1 > 128) then failB (gSx s a).2.2 3 else (gSx s a).2.2) := by unfold rdAll itB; rw [rShort0]
  by_cases he : ((gSx s a).2.2 != 0) = true
  · rw [if_pos he]
    have he' : (gSx s a).2.2 ≠ 0 := by simpa using he
    have hb : (if decide ((gSx s a).1 > 128) = true then failB (gSx s a).2.2 3 else (gSx s a).2.2) = (gSx s a).2.2 := by
      split
      · exact failB_ne he'
      · rfl
    refine ⟨fun h => absurd h he', fun _ => ?_⟩
    rw [e, hb, rdIt_stop _ _ _ _ _ he']
  · rw [if_neg he]
    have he0 : (gSx s a).2.2 = 0 := by simpa using he
    by_cases h128 : decide ((gSx s a).1 > 128) = true
    · rw [if_pos h128]
      refine ⟨fun h => absurd h (by show (3 : Int) ≠ 0; decide), fun _ => ?_⟩
      rw [e, if_pos h128, he0, failB0, rdIt_stop _ _ _ _ _ (by decide)]
    · rw [if_neg h128]
      rw [if_neg h128, he0] at e
      have q := it_agree hv kd (gSx s a).1.toNat [] [] (a + (gSx s a).2.1) g.2.1 g.2.2
      rw [← e] at q
      have q : AgreeI (rAll vd s kd a) (rdAll vr s kd a 0) := q
      by_cases hr : ((rAll vd s kd a).2.2.2 != 0) = true
      · rw [if_pos hr]
        have hr' : (rAll vd s kd a).2.2.2 ≠ 0 := by simpa using hr
        exact ⟨fun h => absurd h hr', fun _ => q.bad hr'⟩
      · rw [if_neg hr]
        have hr0 : (rAll vd s kd a).2.2.2 = 0 := by simpa using hr
        refine ⟨fun _ => ?_, fun h => absurd rfl h⟩
        rw [q.ok hr0, hr0]
theorem kd_agree {s : ByteArray} {vd : Int → V × Int × Int} {vr : Int → Int → V × Int × Int} (hv : Both2 s vd vr) (kd : Int) (sc : Bool) (a : Int) (h0 : 0 ≤ a) (h1 : a ≤ s.size) (k0 : 0 ≤ kd) (k6 : kd ≤ 6) : Agree (rGk vd s kd sc a) (rdKd vr s kd sc a 0) := by
  obtain ⟨c, hc, hc2⟩ := byteAt_nat s a
  have bf := byte_facts c hc2
  have hkd : kd = 0 ∨ kd = 1 ∨ kd = 2 ∨ kd = 3 ∨ kd = 4 ∨ kd = 5 ∨ kd = 6 := by omega
  rcases hkd with rfl | rfl | rfl | rfl | rfl | rfl | rfl
  · exact Agree.rfl' _
  · show Agree (if decide (a ≥ s.size) then (V.z, 0, 2) else if decide (byteAt s a > 1) then (V.z, 0, 4) else (.mk 1 (IntKind.i64.wrap (byteAt s a)) ByteArray.empty [] [] 0 0 sc, a + 1, 0))
      (.mk 1 (IntKind.i64.wrap (rByte s a 0).1) ByteArray.empty [] [] 0 0 sc, (rByte s a 0).2.1, if decide (IntKind.i64.wrap (rByte s a 0).1 > 1) then failB (rByte s a 0).2.2 4 else (rByte s a 0).2.2)
    rw [rByte0]
    by_cases hs : decide (a ≥ s.size) = true
    · rw [if_pos hs, if_pos hs]
      exact ⟨fun h => absurd h (by show (2 : Int) ≠ 0; decide), fun _ => rfl⟩
    · rw [if_neg hs, if_neg hs, hc]
      show Agree _ (V.mk 1 (IntKind.i64.wrap (c : Int)) ByteArray.empty [] [] 0 0 sc, a + 1, if decide (IntKind.i64.wrap (c : Int) > 1) then failB 0 4 else 0)
      rw [bf.2.2.1]
      by_cases h1 : decide ((c : Int) > 1) = true
      · rw [if_pos h1, if_pos h1]
        exact ⟨fun h => absurd h (by show (4 : Int) ≠ 0; decide), fun _ => rfl⟩
      · rw [if_neg h1, if_neg h1]
        exact Agree.rfl' _
  · show Agree (if (gSx s a).2.2 != 0 then (V.z, 0, (gSx s a).2.2) else (.mk 2 (zgR (gSx s a).1) ByteArray.empty [] [] 0 0 sc, a + (gSx s a).2.1, 0)) (.mk 2 (zag (rShort s a 0).1) ByteArray.empty [] [] 0 0 sc, (rShort s a 0).2.1, (rShort s a 0).2.2)
    rw [rShort0]
    have g := gSx_rg s a h0 h1
    have hl : (gSx s a).1 < 18446744073709551616 := gS_lt s _ _ _ _ (by decide)
    have hz : zag (gSx s a).1 = zgR (gSx s a).1 := by
      have := zag_eq (gSx s a).1.toNat (by omega)
      rwa [Int.toNat_of_nonneg g.1] at this
    by_cases he : ((gSx s a).2.2 != 0) = true
    · rw [if_pos he]
      have he' : (gSx s a).2.2 ≠ 0 := by simpa using he
      exact ⟨fun h => absurd h he', fun _ => rfl⟩
    · rw [if_neg he]
      have he0 : (gSx s a).2.2 = 0 := by simpa using he
      refine ⟨fun _ => ?_, fun h => absurd rfl h⟩
      show (V.mk 2 (zag (gSx s a).1) ByteArray.empty [] [] 0 0 sc, a + (gSx s a).2.1, (gSx s a).2.2) = _
      rw [hz, he0]
  · show Agree (if (gTx s a).2.2 != 0 then (V.z, 0, (gTx s a).2.2) else (.mk 3 0 (gTx s a).1 [] [] 0 0 sc, a + (gTx s a).2.1, 0)) (.mk 3 0 (rText s a 0).1 [] [] 0 0 sc, (rText s a 0).2.1, (rText s a 0).2.2)
    rw [rText0]
    by_cases he : ((gTx s a).2.2 != 0) = true
    · rw [if_pos he]
      have he' : (gTx s a).2.2 ≠ 0 := by simpa using he
      exact ⟨fun h => absurd h he', fun _ => rfl⟩
    · rw [if_neg he]
      have he0 : (gTx s a).2.2 = 0 := by simpa using he
      refine ⟨fun _ => ?_, fun h => absurd rfl h⟩
      show (V.mk 3 0 (gTx s a).1 [] [] 0 0 sc, a + (gTx s a).2.1, (gTx s a).2.2) = _
      rw [he0]
  · exact all_agree hv 4 sc a h0 h1
  · exact all_agree hv 5 sc a h0 h1
  · show Agree (if decide (a ≥ s.size) then (V.z, 0, 2) else if !(chkR (tyR (byteAt s a))) then (V.z, 0, 4) else (.mk 6 0 ByteArray.empty [] [] (tyR (byteAt s a)).1 (tyR (byteAt s a)).2 sc, a + 1, 0))
      (.mk 6 0 ByteArray.empty [] [] (ofC (rByte s a 0).1).1.1 (ofC (rByte s a 0).1).1.2 sc, (rByte s a 0).2.1, if (ofC (rByte s a 0).1).2 != 0 then failB (rByte s a 0).2.2 (ofC (rByte s a 0).1).2 else (rByte s a 0).2.2)
    rw [rByte0]
    by_cases hs : decide (a ≥ s.size) = true
    · rw [if_pos hs, if_pos hs]
      refine ⟨fun h => absurd h (by show (2 : Int) ≠ 0; decide), fun _ => ?_⟩
      dsimp only
      split
      · exact failB_ne (by decide)
      · rfl
    · rw [if_neg hs, if_neg hs, hc]
      show Agree _ (V.mk 6 0 ByteArray.empty [] [] (ofC (c : Int)).1.1 (ofC (c : Int)).1.2 sc, a + 1, if (ofC (c : Int)).2 != 0 then failB 0 (ofC (c : Int)).2 else 0)
      rw [bf.2.2.2.1, bf.2.2.2.2.1]
      by_cases hk : chkR (tyR (c : Int)) = true
      · rw [hk]
        exact Agree.rfl' _
      · have hk : chkR (tyR (c : Int)) = false := by simpa using hk
        rw [hk]
        exact ⟨fun h => absurd h (by show (4 : Int) ≠ 0; decide), fun _ => rfl⟩
theorem rByte_bad {s : ByteArray} {a b : Int} (h : b ≠ 0) : rByte s a b = (0, a, b) := by unfold rByte; rw [if_pos (by simpa using h)]
theorem kd06 : decide (kdOf 0 > 6) = false := by decide
theorem vBd_of {s : ByteArray} {deep a b a' b' : Int} (h : vHd s deep a b = (0, a', b')) : vBd s deep a b = b' := by
  unfold vBd
  rw [h]
  show (if decide (kdOf 0 > 6) = true then failB b' 4 else b') = b'
  rw [kd06]; rfl
theorem v1_stop {vr : Int → Int → V × Int × Int} {s : ByteArray} {deep a b : Int} (h : b ≠ 0) : (rdV1 vr s deep a b).2.2 = b := by
  have hd : dpB deep b = b := by
    unfold dpB
    split
    · exact failB_ne h
    · rfl
  have hh : vHd s deep a b = (0, a, b) := by unfold vHd; rw [hd, rByte_bad h]
  have hb : vBd s deep a b = b := vBd_of hh
  unfold rdV1
  rw [hb, if_pos (by simpa using h)]
theorem v1_agree {s : ByteArray} {vd : Int → V × Int × Int} {vr : Int → Int → V × Int × Int} {deep : Int} (hv : deep ≤ 8 → Both2 s vd vr) (a : Int) (h0 : 0 ≤ a) (h1 : a ≤ s.size) : Agree (rG1 vd s deep a) (rdV1 vr s deep a 0) := by
  unfold rG1
  by_cases hd : decide (deep > 8) = true
  · rw [if_pos hd]
    refine ⟨fun h => absurd h (by show (12 : Int) ≠ 0; decide), fun _ => ?_⟩
    have hh : vHd s deep a 0 = (0, a, 12) := by unfold vHd dpB; rw [if_pos hd, failB0, rByte_bad (by decide)]
    have hb : vBd s deep a 0 = 12 := vBd_of hh
    unfold rdV1
    rw [hb]; rfl
  · rw [if_neg hd]
    have hd0 : dpB deep 0 = 0 := by unfold dpB; rw [if_neg hd]
    have hh : vHd s deep a 0 = if decide (a ≥ s.size) then (0, a, 2) else (byteAt s a, a + 1, 0) := by unfold vHd; rw [hd0, rByte0]
    by_cases hs : decide (a ≥ s.size) = true
    · rw [if_pos hs]
      rw [if_pos hs] at hh
      refine ⟨fun h => absurd h (by show (2 : Int) ≠ 0; decide), fun _ => ?_⟩
      have hb : vBd s deep a 0 = 2 := vBd_of hh
      unfold rdV1
      rw [hb]; rfl
    · rw [if_neg hs]
      rw [if_neg hs] at hh
      have hs' : ¬ a ≥ s.size := by simpa using hs
      obtain ⟨c, hc, hc2⟩ := byteAt_nat s a
      have bf := byte_facts c hc2
      rw [hc] at hh
      rw [hc, ← bf.1, ← bf.2.1]
      have hk0 : 0 ≤ kdOf c := by rw [bf.1]; exact bf.2.2.2.2.2
      by_cases h6 : decide (kdOf c > 6) = true
      · have hb : vBd s deep a 0 = 4 := by unfold vBd; rw [hh, if_pos h6]; rfl
        have h6' : kdOf c > 6 := of_decide_eq_true h6
        have hg : rGk vd s (kdOf c) (scOf c) (a + 1) = (V.z, 0, 4) := by
          unfold rGk
          have e : ∀ n : Int, n ≤ 6 → ¬ (kdOf c == n) = true := fun n hn h => by have : kdOf c = n := by simpa using h
                                                                                 omega
          rw [if_neg (e 0 (by decide)), if_neg (e 1 (by decide)), if_neg (e 2 (by decide)), if_neg (e 3 (by decide)), if_neg (e 6 (by decide)), if_neg]
          simp only [Bool.or_eq_true, not_or]
          exact ⟨e 4 (by decide), e 5 (by decide)⟩
        rw [hg]
        refine ⟨fun h => absurd h (by show (4 : Int) ≠ 0; decide), fun _ => ?_⟩
        unfold rdV1
        rw [hb]; rfl
      · have hb : vBd s deep a 0 = 0 := by unfold vBd; rw [hh, if_neg h6]
        have h6' : ¬ kdOf c > 6 := of_decide_eq_false (by simpa using h6)
        have e : rdV1 vr s deep a 0 = rdKd vr s (kdOf c) (scOf c) (a + 1) 0 := by
          unfold rdV1
          rw [hb, if_neg (by decide), hh]
        rw [e]
        exact kd_agree (hv (by have := of_decide_eq_false (by simpa using hd : decide (deep > 8) = false); omega)) _ _ _ (by omega) (by omega) hk0 (by omega)
theorem val_both (s : ByteArray) : ∀ (m : Nat) (deep : Int), 1 ≤ deep → deep ≤ 1000 → 9 ≤ deep + m → Both2 s (rGet s m deep) (rdVal s m deep)
  | 0, deep, h1, h2, h3 => ⟨fun a ha hb => v1_agree (fun h => by omega) a ha hb, fun a ha hb => rG1_ok (fun h => by omega) ha hb, fun a b hb => v1_stop hb⟩
  | m + 1, deep, h1, h2, h3 => by
    have hw : deep ≤ 8 → IntKind.i64.wrap (deep + 1) = deep + 1 := fun h => wrap64 (by omega) (by omega)
    have ih : deep ≤ 8 → Both2 s (rGet s m (IntKind.i64.wrap (deep + 1))) (rdVal s m (IntKind.i64.wrap (deep + 1))) := fun h => by rw [hw h]; exact val_both s m (deep + 1) (by omega) (by omega) (by omega)
    exact ⟨fun a ha hb => v1_agree ih a ha hb, fun a ha hb => rG1_ok (fun h => (ih h).rg) ha hb, fun a b hb => v1_stop hb⟩
theorem cGet_eq (s : ByteArray) : cGet s = dGet s := by
  have q := (val_both s 8 1 (by decide) (by decide) (by decide)).ag 0 (Int.le_refl 0) (by omega)
  have q : Agree (rGet s 8 1 0) (gV s) := q
  unfold cGet dGet gBd dGe
  by_cases he : (rGet s 8 1 0).2.2 = 0
  · rw [q.ok he, he, failB0]
  · rw [q.bad he]
    have : ((rGet s 8 1 0).2.2 == 0) = false := by simpa using he
    rw [this]
    simp only [Bool.false_and, Bool.false_eq_true, if_false]
    rw [if_pos (by simpa using he), if_pos (by simpa using he)]
end Go.Proofs.YtcgcamfhollnlaaGreatDoor
