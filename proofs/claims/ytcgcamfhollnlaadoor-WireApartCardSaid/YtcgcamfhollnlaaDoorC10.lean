/- Contracts of functions of the program, and the laws that stand on them: what each function answers, whatever its arguments. -/
import Derived.Test.YtcgcamfhollnlaaDoorC8
set_option linter.unusedSectionVars false
set_option linter.unnecessarySimpa false
namespace Go.Proofs.YtcgcamfhollnlaaDoor
set_option linter.unusedSimpArgs false
set_option linter.unusedVariables false
set_option maxRecDepth 100000
set_option maxHeartbeats 8000000
open Go Go.VA
def kdR (c : Int) : Int := IntKind.i64.wrap (c.tmod 128)
def scR (c : Int) : Bool := decide (c ≥ 128)
def gTx (s : ByteArray) (a : Int) : ByteArray × Int × Int := gStr s a.toNat (s.size - a.toNat) 1024
def gSx (s : ByteArray) (a : Int) : Int × Int × Int := gS s a.toNat (s.size - a.toNat) 0 0
def zgR (n : Int) : Int := if n.tmod 2 == 1 then IntKind.i64.wrap (-1 - IntKind.i64.wrap (IntKind.u64.wrap (n.tdiv 2))) else IntKind.i64.wrap (IntKind.u64.wrap (n.tdiv 2))
def tyR (c : Int) : Ty := (IntKind.i64.wrap (IntKind.u8.wrap (c.tdiv 8)), IntKind.i64.wrap (c.tmod 8))
def rIt (val : Int → V × Int × Int) (s : ByteArray) (kind : Int) : Nat → List ByteArray → List V → Int → List ByteArray × List V × Int × Int
  | 0, ks, l, a => (ks, l, a, 0)
  | m + 1, ks, l, a =>
    if kind == 5 then
      if (gTx s a).2.2 != 0 then ([], [], 0, (gTx s a).2.2)
      else if keyBad ks (gTx s a).1 then ([], [], 0, 4)
      else if (val (a + (gTx s a).2.1)).2.2 != 0 then ([], [], 0, (val (a + (gTx s a).2.1)).2.2)
      else rIt val s kind m (ks ++ [(gTx s a).1]) (l ++ [(val (a + (gTx s a).2.1)).1]) (val (a + (gTx s a).2.1)).2.1
    else if (val a).2.2 != 0 then ([], [], 0, (val a).2.2)
    else rIt val s kind m ks (l ++ [(val a).1]) (val a).2.1
def rAll (val : Int → V × Int × Int) (s : ByteArray) (kd a : Int) : List ByteArray × List V × Int × Int := rIt val s kd (gSx s a).1.toNat [] [] (a + (gSx s a).2.1)
def rGk (val : Int → V × Int × Int) (s : ByteArray) (kd : Int) (sc : Bool) (a : Int) : V × Int × Int :=
  if kd == 0 then (.mk kd 0 ByteArray.empty [] [] 0 0 sc, a, 0)
  else if kd == 1 then if decide (a ≥ s.size) then (V.z, 0, 2) else if decide (byteAt s a > 1) then (V.z, 0, 4) else (.mk kd (IntKind.i64.wrap (byteAt s a)) ByteArray.empty [] [] 0 0 sc, a + 1, 0)
  else if kd == 2 then if (gSx s a).2.2 != 0 then (V.z, 0, (gSx s a).2.2) else (.mk kd (zgR (gSx s a).1) ByteArray.empty [] [] 0 0 sc, a + (gSx s a).2.1, 0)
  else if kd == 3 then if (gTx s a).2.2 != 0 then (V.z, 0, (gTx s a).2.2) else (.mk kd 0 (gTx s a).1 [] [] 0 0 sc, a + (gTx s a).2.1, 0)
  else if kd == 6 then if decide (a ≥ s.size) then (V.z, 0, 2) else if !(chkR (tyR (byteAt s a))) then (V.z, 0, 4) else (.mk kd 0 ByteArray.empty [] [] (tyR (byteAt s a)).1 (tyR (byteAt s a)).2 sc, a + 1, 0)
  else if kd == 4 || kd == 5 then
    if (gSx s a).2.2 != 0 then (V.z, 0, (gSx s a).2.2) else if decide ((gSx s a).1 > 128) then (V.z, 0, 3)
    else if (rAll val s kd a).2.2.2 != 0 then (V.z, 0, (rAll val s kd a).2.2.2) else (.mk kd 0 ByteArray.empty (rAll val s kd a).2.1 (rAll val s kd a).1 0 0 sc, (rAll val s kd a).2.2.1, 0)
  else (V.z, 0, 4)
def rG1 (val : Int → V × Int × Int) (s : ByteArray) (deep a : Int) : V × Int × Int :=
  if decide (deep > 8) then (V.z, 0, 12) else if decide (a ≥ s.size) then (V.z, 0, 2) else rGk val s (kdR (byteAt s a)) (scR (byteAt s a)) (a + 1)
def rGet (s : ByteArray) : Nat → Int → Int → V × Int × Int
  | 0, deep, a => rG1 (fun a => (V.z, a, 0)) s deep a
  | m + 1, deep, a => rG1 (rGet s m (IntKind.i64.wrap (deep + 1))) s deep a
theorem rIt_ok {val : Int → V × Int × Int} {s : ByteArray} {kind : Int} (hv : ∀ a : Int, 0 ≤ a → a ≤ s.size → 0 ≤ (val a).2.1 ∧ (val a).2.1 ≤ s.size) : ∀ (m : Nat) (ks : List ByteArray) (l : List V) (a : Int), 0 ≤ a → a ≤ s.size → 0 ≤ (rIt val s kind m ks l a).2.2.1 ∧ (rIt val s kind m ks l a).2.2.1 ≤ s.size
  | 0, ks, l, a, h0, h1 => ⟨h0, h1⟩
  | m + 1, ks, l, a, h0, h1 => by
    have z : (0 : Int) ≤ 0 ∧ (0 : Int) ≤ s.size := ⟨Int.le_refl _, by omega⟩
    simp only [rIt]
    split
    · split
      · exact z
      · rename_i h
        have g := (gStr_ok s a.toNat (s.size - a.toNat) 1024).1 (show (gTx s a).2.2 = 0 by simpa using h)
        have g1 : 0 ≤ (gTx s a).2.1 := g.1
        have g2 : (gTx s a).2.1 ≤ ((s.size - a.toNat : Nat) : Int) := g.2
        have q := hv (a + (gTx s a).2.1) (by omega) (by omega)
        split
        · exact z
        · split
          · exact z
          · exact rIt_ok hv m _ _ _ q.1 q.2
    · split
      · exact z
      · have q := hv a h0 h1
        exact rIt_ok hv m _ _ _ q.1 q.2
theorem rG1_ok {val : Int → V × Int × Int} {s : ByteArray} {deep a : Int} (hv : deep ≤ 8 → ∀ a : Int, 0 ≤ a → a ≤ s.size → 0 ≤ (val a).2.1 ∧ (val a).2.1 ≤ s.size) (h0 : 0 ≤ a) (h1 : a ≤ s.size) : 0 ≤ (rG1 val s deep a).2.1 ∧ (rG1 val s deep a).2.1 ≤ s.size := by
  have z : (0 : Int) ≤ 0 ∧ (0 : Int) ≤ s.size := ⟨Int.le_refl _, by omega⟩
  unfold rG1
  split
  · exact z
  · rename_i hd
    have hv := hv (by simpa using hd)
    split
    · exact z
    · rename_i hs
      have hs : ¬ a ≥ s.size := by simpa using hs
      generalize hq : a + 1 = a1
      have h2 : 0 ≤ a1 := by omega
      have h3 : a1 ≤ s.size := by omega
      have gs : (gSx s a1).2.2 = 0 → (0 : Int) < (gSx s a1).2.1 ∧ (gSx s a1).2.1 ≤ ((s.size - a1.toNat : Nat) : Int) := fun h => by
        have := gS_ok s a1.toNat (s.size - a1.toNat) 0 0 (Int.le_refl 0) h
        have h2 : (gSx s a1).2.1 ≤ ((0 : Nat) : Int) + ((s.size - a1.toNat : Nat) : Int) := this.2.1
        exact ⟨this.1, by omega⟩
      have gt : (gTx s a1).2.2 = 0 → 0 ≤ (gTx s a1).2.1 ∧ (gTx s a1).2.1 ≤ ((s.size - a1.toNat : Nat) : Int) := fun h => (gStr_ok s a1.toNat (s.size - a1.toNat) 1024).1 h
      unfold rGk
      split
      · exact ⟨h2, h3⟩
      · split
        · split
          · exact z
          · rename_i h
            have h : ¬ a1 ≥ s.size := by simpa using h
            split
            · exact z
            · exact ⟨by show 0 ≤ a1 + 1; omega, by show a1 + 1 ≤ _; omega⟩
        · split
          · split
            · exact z
            · rename_i h
              have := gs (by simpa using h)
              exact ⟨by show 0 ≤ a1 + (gSx s a1).2.1; omega, by show a1 + (gSx s a1).2.1 ≤ _; omega⟩
          · split
            · split
              · exact z
              · rename_i h
                have := gt (by simpa using h)
                exact ⟨by show 0 ≤ a1 + (gTx s a1).2.1; omega, by show a1 + (gTx s a1).2.1 ≤ _; omega⟩
            · split
              · split
                · exact z
                · rename_i h
                  have h : ¬ a1 ≥ s.size := by simpa using h
                  split
                  · exact z
                  · exact ⟨by show 0 ≤ a1 + 1; omega, by show a1 + 1 ≤ _; omega⟩
              · split
                · split
                  · exact z
                  · rename_i h
                    have := gs (by simpa using h)
                    split
                    · exact z
                    · split
                      · exact z
                      · exact rIt_ok hv _ _ _ _ (by omega) (by omega)
                · exact z
def dGe (s : ByteArray) : Int := if (rGet s 8 1 0).2.2 == 0 && decide (weight (rGet s 8 1 0).1 > 512) then 3 else (rGet s 8 1 0).2.2
def dGet (s : ByteArray) : V × Int × Int := if dGe s != 0 then (V.z, 0, dGe s) else ((rGet s 8 1 0).1, (rGet s 8 1 0).2.1, 0)
end Go.Proofs.YtcgcamfhollnlaaDoor
