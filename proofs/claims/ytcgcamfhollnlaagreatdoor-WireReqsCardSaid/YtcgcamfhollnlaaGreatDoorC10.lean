/- Contracts of functions of the program, and the laws that stand on them: what each function answers, whatever its arguments. -/
import Derived.Test.YtcgcamfhollnlaaGreatDoorC8
set_option linter.unusedSectionVars false
set_option linter.unnecessarySimpa false
namespace Go.Proofs.YtcgcamfhollnlaaGreatDoor
set_option linter.unusedSimpArgs false
set_option linter.unusedVariables false
set_option maxRecDepth 100000
set_option maxHeartbeats 8000000
open Go Go.VA
def kdR (c : Int) : Int := IntKind.i64.wrap (c.tmod 128)
def scR (c : Int) : Bool := decide (c ≥ 128)
def gTx (s : ByteArray) (a : Int) : ByteArray × Int × Int := gStr s a.toNat (s.size - a.toNat) 1024
def gSx (s : ByteArray) (a : Int) : Int × Int × Int := gS s a.toNat (s.size - a.toNat) 0 0
def zgR (n : Int) : Int := if n.tmod 2 == 1 then IntKind.i64.wrap (-1 - IntKind.i64.wrap (IntKind.u64.wrap (n.tdiv 2))) else IntKind.i64.wrap (IntKind.u64.wrap (n.tdiv 2))
def tyR (c : Int) : Ty := (IntKind.i64.wrap (IntKind.u8.wrap (c.tdiv 8)), IntKind.i64.wrap (c.tmod 8))
def rIt (val : Int → V × Int × Int) (s : ByteArray) (kind : Int) : Nat → List ByteArray → List V → Int → List ByteArray × List V × Int × Int
  | 0, ks, l, a => (ks, l, a, 0)
  | m + 1, ks, l, a =>
    if kind == 5 then
      if (gTx s a).2.2 != 0 then ([], [], 0, (gTx s a).2.2)
      else if keyBad ks (gTx s a).1 then ([], [], 0, 4)
      else if (val (a + (gTx s a).2.1)).2.2 != 0 then ([], [], 0, (val (a + (gTx s a).2.1)).2.2)
      else rIt val s kind m (ks ++ [(gTx s a).1]) (l ++ [(val (a + (gTx s a).2.1)).1]) (val (a + (gTx s a).2.1)).2.1
    else if (val a).2.2 != 0 then ([], [], 0, (val a).2.2)
    else rIt val s kind m ks (l ++ [(val a).1]) (val a).2.1
def rAll (val : Int → V × Int × Int) (s : ByteArray) (kd a : Int) : List ByteArray × List V × Int × Int := rIt val s kd (gSx s a).1.toNat [] [] (a + (gSx s a).2.1)
def rGk (val : Int → V × Int × Int) (s : ByteArray) (kd : Int) (sc : Bool) (a : Int) : V × Int × Int :=
  if kd == 0 then (.mk kd 0 ByteArray.empty [] [] 0 0 sc, a, 0)
  else if kd == 1 then if decide (a ≥ s.size) then (V.z, 0, 2) else if decide (byteAt s a > 1) then (V.z, 0, 4) else (.mk kd (IntKind.i64.wrap (byteAt s a)) ByteArray.empty [] [] 0 0 sc, a + 1, 0)
  else if kd == 2 then if (gSx s a).2.2 != 0 then (V.z, 0, (gSx s a).2.2) else (.mk kd (zgR (gSx s a).1) ByteArray.empty [] [] 0 0 sc, a + (gSx s a).2.1, 0)
  else if kd == 3 then if (gTx s a).2.2 != 0 then (V.z, 0, (gTx s a).2.2) else (.mk kd 0 (gTx s a).1 [] [] 0 0 sc, a + (gTx s a).2.1, 0)
  else if kd == 6 then if decide (a ≥ s.size) then (V.z, 0, 2) else if !(chkR (tyR (byteAt s a))) then (V.z, 0, 4) else (.mk kd 0 ByteArray.empty [] [] (tyR (byteAt s a)).1 (tyR (byteAt s a)).2 sc, a + 1, 0)
  else if kd == 4 || kd == 5 then
    if (gSx s a).2.2 != 0 then (V.z, 0, (gSx s a).2.2) else if decide ((gSx s a).1 > 128) then (V.z, 0, 3)
    else if (rAll val s kd a).2.2.2 != 0 then (V.z, 0, (rAll val s kd a).2.2.2) else (.mk kd 0 ByteArray.empty (rAll val s kd a).2.1 (rAll val s kd a).1 0 0 sc, (rAll val s kd a).2.2.1, 0)
  else (V.z, 0, 4)
def rG1 (val : Int → V × Int × Int) (s : ByteArray) (deep a : Int) : V × Int × Int :=
  if decide (deep > 8) then (V.z, 0, 12) else if decide (a ≥ s.size) then (V.z, 0, 2) else rGk val s (kdR (byteAt s a)) (scR (byteAt s a)) (a + 1)
def VrOk (t : Bool) (s : ByteArray) (deep : Int) (val : Int → V × Int × Int) : Prop := ∀ a : Int, 0 ≤ a → a ≤ s.size → 0 ≤ (val a).2.1 ∧ (val a).2.1 ≤ s.size ∧
  ACall Tryz.prog gl 56 [.c (.sl t 1 s.size (strCells s)), intA .i64 a, intA .i64 (IntKind.i64.wrap (deep + 1))] [] (.tup [.ag (cV (val a).1), intA .i64 (val a).2.1, intA .i64 (val a).2.2])
structure RiI (val : Int → V × Int × Int) (s : ByteArray) (k a : Int) (i : Nat) (ks : List ByteArray) (l : List V) (a' : Int) : Prop where
  run : rIt val s k ((gSx s a).1.toNat - i) ks l a' = rAll val s k a
  le : (i : Int) ≤ (gSx s a).1
  ln : l.length = i
  kn : ks.length ≤ i
  k5 : (k == 5) = true → ks.length = i
  a0 : 0 ≤ a'
  a1 : a' ≤ s.size
theorem rV_snocD {l : List V} {x : V} {n : Nat} (hn : n = l.length) {i : Nat} (h : i < n + 1) : catF 0 n (rV l) (nthC [cV x]) i = rV (l ++ [x]) i := by subst hn; exact rV_snoc h
theorem keyBad_i {ks : List ByteArray} {i : Nat} {x : ByteArray} (h : ks.length = i) : keyBad ks x = (decide ((i : Int) > 0) && !(Op.bytesLess (ks.getD (IntKind.i64.wrap ((i : Int) - 1)).toNat ByteArray.empty).toList x.toList)) := by subst h; rfl
set_option maxHeartbeats 4000000 in
theorem aGetR1 (t : Bool) (s : ByteArray) (a deep : Int) (val : Int → V × Int × Int) (h0 : 0 ≤ a) (h1 : a ≤ s.size) (hv : deep ≤ 8 → VrOk t s deep val) :
    ACall Tryz.prog gl 56 [.c (.sl t 1 s.size (strCells s)), intA .i64 a, intA .i64 deep] [] (.tup [.ag (cV (rG1 val s deep a).1), intA .i64 (rG1 val s deep a).2.1, intA .i64 (rG1 val s deep a).2.2]) := by
  refine acall_of_vcb htb hmix (f := 56) rfl rfl rfl (by kernel_rfl) rfl rfl fun hb => ?_; simp only [bndAll, AV.bnd, bnds, C.bnd, cVt, cS, true_and, and_true] at hb; conv => whnf
  have hn : s.size ≤ 140737488355328 := hb.1.1
  have KB : True → True ∧ True := fun _ => ⟨trivial, trivial⟩
  have gs : ∀ a : Int, (gSx s a).2.2 = 0 → (0 : Int) < (gSx s a).2.1 ∧ (gSx s a).2.1 ≤ ((s.size - a.toNat : Nat) : Int) ∧ 0 ≤ (gSx s a).1 := fun a h => by
    have := gS_ok s a.toNat (s.size - a.toNat) 0 0 (Int.le_refl 0) h
    have h2 : (gSx s a).2.1 ≤ ((0 : Nat) : Int) + ((s.size - a.toNat : Nat) : Int) := this.2.1
    exact ⟨this.1, by omega, this.2.2⟩
  have gt : ∀ a : Int, (gTx s a).2.2 = 0 → 0 ≤ (gTx s a).2.1 ∧ (gTx s a).2.1 ≤ ((s.size - a.toNat : Nat) : Int) := fun a h => (gStr_ok s a.toNat (s.size - a.toNat) 1024).1 h
  conv => whnf
  refine ⟨fun h => ?_, fun hdp => ?_⟩ <;> conv => whnf
  · repeat' (fail)
    simp only [rG1, *, if_true, decide_true]
    (first | exact leTup3 (leAg ⟨LeC.refl _, LeC.refl _, LeC.refl _, (by first | exact LeC.nil rfl | fail), (by first | exact LeC.nil rfl | fail), LeC.refl _, LeC.refl _, LeC.refl _, trivial⟩) (Le.refl _) (Le.refl _) | fail)
  refine ⟨fun h => ?_, fun hsz => ?_⟩ <;> conv => whnf
  · repeat' (fail)
    simp only [rG1, *, if_true, decide_true, if_false, Bool.false_eq_true]
    (first | exact leTup3 (leAg ⟨LeC.refl _, LeC.refl _, LeC.refl _, (by first | exact LeC.nil rfl | fail), (by first | exact LeC.nil rfl | fail), LeC.refl _, LeC.refl _, LeC.refl _, trivial⟩) (Le.refl _) (Le.refl _) | fail)
  have hsz' : a < s.size := by have := of_decide_eq_false hsz; omega
  have W1 : IntKind.i64.wrap (a + 1) = a + 1 := wrap64 (by omega) (by omega)
  have W2 : IntKind.i64.wrap (a + 1 + 1) = a + 1 + 1 := wrap64 (by omega) (by omega)
  have W3 : IntKind.i64.wrap (a + 1 + (gS s (a + 1).toNat (s.size - (a + 1).toNat) 0 0).2.1) = a + 1 + (gS s (a + 1).toNat (s.size - (a + 1).toNat) 0 0).2.1 := by
    by_cases e : (gS s (a + 1).toNat (s.size - (a + 1).toNat) 0 0).2.2 = 0
    · have := gs (a + 1) e
      exact wrap64 (by show _ ≤ a + 1 + (gSx s (a + 1)).2.1; omega) (by show a + 1 + (gSx s (a + 1)).2.1 ≤ _; omega)
    · rw [(gS_bad _ _ _ _ _ e).2]; exact wrap64 (by omega) (by omega)
  have W4 : IntKind.i64.wrap (a + 1 + (gStr s (a + 1).toNat (s.size - (a + 1).toNat) 1024).2.1) = a + 1 + (gStr s (a + 1).toNat (s.size - (a + 1).toNat) 1024).2.1 := by
    by_cases e : (gStr s (a + 1).toNat (s.size - (a + 1).toNat) 1024).2.2 = 0
    · have := gt (a + 1) e
      exact wrap64 (by show _ ≤ a + 1 + (gTx s (a + 1)).2.1; omega) (by show a + 1 + (gTx s (a + 1)).2.1 ≤ _; omega)
    · rw [((gStr_ok _ _ _ _).2 e).2]; exact wrap64 (by omega) (by omega)
  repeat' (first | (refine Exists.intro _ (And.intro (aShortR _ _ _ _) ?_); conv => whnf) | (refine Exists.intro _ (And.intro (aGetStrR _ _ _ _ _) ?_); conv => whnf) | (refine Exists.intro _ (And.intro (aChkR _ _) ?_); conv => whnf) | (refine And.intro (fun h => ?_) (fun h => ?_) <;> (first | (with_reducible have hd : _ < _ := of_decide_eq_true h) | (with_reducible have hd : _ ≤ _ := of_decide_eq_true h) | (with_reducible have hd : ¬ (_ < _) := of_decide_eq_false h) | (with_reducible have hd : ¬ (_ ≤ _) := of_decide_eq_false h) | skip) <;> conv => whnf) | ((with_reducible refine Both.mk ?_ ?_) <;> conv => whnf) | ((with_reducible apply Drawn.one); conv => whnf) | ((with_reducible refine Then.mk' ?_); conv => whnf) | (first | exact RefS.self rfl | fail) | (refine And.intro ?_ ?_; (focus (first | (refine chainI ?_; (first | decide | omega | fail)) | fail)); conv => whnf) | ((with_reducible refine xc_pure ?_); conv => whnf))
  all_goals simp only [W1] at *
  all_goals first
    | (simp only [rG1, rGk, gSx, gTx, kdR, scR, byteAt, byteN, zgR, tyR, *, if_true, if_false, Bool.false_eq_true, decide_true, decide_false, Bool.or_true, Bool.or_false, Bool.true_or, Bool.false_or, gt_iff_lt, ge_iff_le]
       (first | exact leTup3 (leAg ⟨LeC.refl _, LeC.refl _, LeC.refl _, (by first | exact LeC.nil rfl | fail), (by first | exact LeC.nil rfl | fail), LeC.refl _, LeC.refl _, LeC.refl _, trivial⟩) (Le.refl _) (Le.refl _) | fail))
    | exact (Bool.noConfusion ((show (IntKind.i64.wrap _ == 4) = true by assumption).symm.trans (by assumption : _ = false)))
    | skip
  all_goals
    have e0 : (gSx s (a + 1)).2.2 = 0 := ne0 (show ((gS s (a + 1).toNat (s.size - (a + 1).toNat) 0 0).2.2 != 0) = false by assumption)
    have n128 : decide ((gSx s (a + 1)).1 > 128) = false := (show decide ((gS s (a + 1).toNat (s.size - (a + 1).toNat) 0 0).1 > 128) = false by assumption)
    have G := gs (a + 1) e0
    have hd8 : deep ≤ 8 := by have := of_decide_eq_false hdp; omega
    have hv := hv hd8
    have RES : ∀ R, rAll val s (kdR (byteAt s a)) (a + 1) = R → rG1 val s deep a = if R.2.2.2 != 0 then (V.z, 0, R.2.2.2) else (.mk (kdR (byteAt s a)) 0 ByteArray.empty R.2.1 R.1 0 0 (scR (byteAt s a)), R.2.2.1, 0) := by
      rintro R rfl
      have q1 : (((gSx s (a + 1)).2.2 != 0)) = false := by rw [e0]; rfl
      simp only [rG1, rGk, *, if_true, if_false, Bool.false_eq_true]
      simp only [kdR, byteAt, byteN, *, if_true, if_false, Bool.false_eq_true, Bool.or_true, Bool.or_false, Bool.true_or, Bool.false_or, bne_self_eq_false]
    have hk5 : ((kdR (byteAt s a)) == 5) = (IntKind.i64.wrap ((((s.data.toList[a.toNat]?).getD 0).toNat : Int).tmod 128) == 5) := rfl
    refine loopI (Nat × List ByteArray × List V × Int) (fun p => RiI val s (kdR (byteAt s a)) (a + 1) p.1 p.2.1 p.2.2.1 p.2.2.2) (fun p => [(21, intA .i64 p.1), (1, intA .i64 p.2.2.2)])
      (fun p => [.box ((cV V.z).map .c), .box ((cV V.z).map .c), .box [.c (.v (.int .i64 (kdR (byteAt s a)))), .c (.v (.int .i64 0)), .c (.v (.string ByteArray.empty)), .own 3 8 0 p.2.2.1.length, .own 4 1 0 p.2.1.length, .c (.v (.int .i64 0)), .c (.v (.int .i64 0)), .c (.v (.bool (scR (byteAt s a))))], .row 8 p.2.2.1.length (rV p.2.2.1), .row 1 p.2.1.length (rS p.2.1)])
      (fun p => (gSx s (a + 1)).1.toNat - p.1) (0, [], [], a + 1 + (gSx s (a + 1)).2.1) ⟨rfl, G.2.2, rfl, Nat.le_refl _, fun _ => rfl, by show 0 ≤ a + 1 + (gSx s (a + 1)).2.1; omega, by show a + 1 + (gSx s (a + 1)).2.1 ≤ _; omega⟩ ?_ (fun _ => rfl) fun ⟨i, ks, l, a'⟩ hi => ?_
    · (refine And.intro ?_ (And.intro ?_ (And.intro ?_ rfl)) <;> (conv => whnf) <;> repeat' (first | exact trivial | exact LeE.of (Le.refl _) | exact LeE.nil rfl | (with_reducible refine LeE.of ?_) | (first | exact rfl | fail) | ((with_reducible refine And.intro ?_ ?_) <;> conv => whnf)))
      all_goals first | exact leI W3 | exact Le.toC (LeC.nil rfl)
    have hI : RiI val s (kdR (byteAt s a)) (a + 1) i ks l a' := hi
    have hle := hI.le
    have hln := hI.ln
    have hkn := hI.kn
    have ha0 := hI.a0
    have ha1 := hI.a1
    have n128' : (gSx s (a + 1)).1 ≤ 128 := by have := of_decide_eq_false n128; omega
    have WN : IntKind.i64.wrap (gS s (a + 1).toNat (s.size - (a + 1).toNat) 0 0).1 = (gSx s (a + 1)).1 := wrap64 (by show _ ≤ (gSx s (a + 1)).1; omega) (by show (gSx s (a + 1)).1 ≤ _; omega)
    conv => whnf
    refine ⟨fun hlt => ?_, fun hlt => ?_⟩ <;> conv => whnf
    · have hlt : decide ((i : Int) < IntKind.i64.wrap (gS s (a + 1).toNat (s.size - (a + 1).toNat) 0 0).1) = true := hlt
      rw [WN] at hlt
      have hlt : (i : Int) < (gSx s (a + 1)).1 := of_decide_eq_true hlt
      have hm : (gSx s (a + 1)).1.toNat - i = ((gSx s (a + 1)).1.toNat - (i + 1)) + 1 := by omega
      have hrun := hI.run
      rw [hm] at hrun
      have B1 : (l.length + 1) * (tb 33).bytes ≤ 140737488355328 := by show (l.length + 1) * 104 ≤ _; omega
      have B2 : (ks.length + 1) * (tb 9).bytes ≤ 140737488355328 := by show (ks.length + 1) * 16 ≤ _; omega
      refine ⟨fun h5 => ?_, fun h5 => ?_⟩ <;> conv => whnf
      · have hk : ks.length = i := hI.k5 h5
        have KB : (i : Int) > 0 → 0 ≤ IntKind.i64.wrap ((i : Int) - 1) ∧ IntKind.i64.wrap ((i : Int) - 1) < (ks.length : Int) := fun hg => by rw [wrap64 (by omega) (by omega), hk]; omega
        have W5 : IntKind.i64.wrap (a' + (gStr s a'.toNat (s.size - a'.toNat) 1024).2.1) = a' + (gStr s a'.toNat (s.size - a'.toNat) 1024).2.1 := by
          by_cases e : (gStr s a'.toNat (s.size - a'.toNat) 1024).2.2 = 0
          · have := gt a' e
            exact wrap64 (by show _ ≤ a' + (gTx s a').2.1; omega) (by show a' + (gTx s a').2.1 ≤ _; omega)
          · rw [((gStr_ok _ _ _ _).2 e).2]; exact wrap64 (by omega) (by omega)
        have P5 : 0 ≤ a' + (gStr s a'.toNat (s.size - a'.toNat) 1024).2.1 ∧ a' + (gStr s a'.toNat (s.size - a'.toNat) 1024).2.1 ≤ s.size := by
          by_cases e : (gStr s a'.toNat (s.size - a'.toNat) 1024).2.2 = 0
          · have := gt a' e
            exact ⟨by show 0 ≤ a' + (gTx s a').2.1; omega, by show a' + (gTx s a').2.1 ≤ _; omega⟩
          · rw [((gStr_ok _ _ _ _).2 e).2]; omega
        have R := RES _ hrun.symm
        have V5 := hv _ P5.1 P5.2
        repeat' (first | (refine Exists.intro _ (And.intro (aGetStrR _ _ _ _ _) ?_); conv => whnf) | (refine Exists.intro _ (And.intro ((hv _ (by rw [W5]; exact P5.1) (by rw [W5]; exact P5.2)).2.2) ?_); conv => whnf) | (refine And.intro (fun h => ?_) (fun h => ?_) <;> (first | skip) <;> conv => whnf) | ((with_reducible refine OwnOr.l ?_); (conv => whnf)) | (refine And.intro ?_ ?_; (focus (first | (first | assumption | ((conv => whnf); exact fun hg => KB (of_decide_eq_true hg))) | (refine chainI ?_; (first | (refine And.intro ?_ ?_ <;> first | omega | (simp; omega)) | fail)) | fail)); conv => whnf) | ((with_reducible refine xc_pure ?_); conv => whnf))
        all_goals (try simp only [Nat.zero_add, W5] at *)
        all_goals first
          | (simp only [R, rIt, gTx, keyBad_i hk, h5, *, if_true, if_false, Bool.false_eq_true]
             (first | exact leTup3 (leAg ⟨LeC.refl _, LeC.refl _, LeC.refl _, (by first | exact LeC.refl _ | fail), (by first | exact LeC.refl _ | fail), LeC.refl _, LeC.refl _, LeC.refl _, trivial⟩) (Le.refl _) (Le.refl _) | fail))
          | skip
        refine ⟨(i + 1, ks ++ [(gTx s a').1], l ++ [(val (a' + (gTx s a').2.1)).1], (val (a' + (gTx s a').2.1)).2.1), ⟨?_, by show ((i + 1 : Nat) : Int) ≤ _; omega, by simp [hln], by simp [hk], fun _ => by simp [hk], V5.1, V5.2.1⟩, ?_, (by show (gSx s (a + 1)).1.toNat - (i + 1) < (gSx s (a + 1)).1.toNat - i; omega)⟩
        · rw [← hrun]; simp only [rIt, gTx, keyBad_i hk, h5, *, if_true, if_false, Bool.false_eq_true]
        · (refine And.intro ?_ (And.intro ?_ (And.intro ?_ rfl)) <;> (conv => whnf) <;> repeat' (first | exact trivial | exact LeE.of (Le.refl _) | (with_reducible refine LeE.of ?_) | (first | exact rfl | exact leI (by first | rfl | (rw [wrap64 (by omega) (by omega)]; omega) | fail) | fail) | ((with_reducible refine And.intro ?_ ?_) <;> conv => whnf)))
          all_goals first
            | (simp; done)
            | exact leOwn (by simp)
            | exact leI (by show IntKind.i64.wrap ((i : Int) + 1) = ((i + 1 : Nat) : Int); rw [wrap64 (by omega) (by omega)]; omega)
            | exact fun j hj => LeCs.of_eq (rV_snocD rfl (by simpa using hj))
            | exact fun j hj => LeCs.of_eq (rS_snoc rfl (by simpa using hj))
      · have R := RES _ hrun.symm
        have V5 := hv _ ha0 ha1
        repeat' (first | (refine Exists.intro _ (And.intro ((hv _ ha0 ha1).2.2) ?_); conv => whnf) | (refine And.intro (fun h => ?_) (fun h => ?_) <;> (first | skip) <;> conv => whnf) | ((with_reducible refine OwnOr.l ?_); (conv => whnf)) | (refine And.intro ?_ ?_; (focus (first | (first | assumption | fail) | fail)); conv => whnf) | ((with_reducible refine xc_pure ?_); conv => whnf))
        all_goals (try simp only [Nat.zero_add] at *)
        all_goals first
          | (simp only [R, rIt, h5, *, if_true, if_false, Bool.false_eq_true]
             (first | exact leTup3 (leAg ⟨LeC.refl _, LeC.refl _, LeC.refl _, (by first | exact LeC.refl _ | fail), (by first | exact LeC.refl _ | fail), LeC.refl _, LeC.refl _, LeC.refl _, trivial⟩) (Le.refl _) (Le.refl _) | fail))
          | skip
        refine ⟨(i + 1, ks, l ++ [(val a').1], (val a').2.1), ⟨?_, by show ((i + 1 : Nat) : Int) ≤ _; omega, by simp [hln], by show ks.length ≤ i + 1; omega, fun h => by rw [h] at h5; simp at h5, V5.1, V5.2.1⟩, ?_, (by show (gSx s (a + 1)).1.toNat - (i + 1) < (gSx s (a + 1)).1.toNat - i; omega)⟩
        · rw [← hrun]; simp only [rIt, h5, *, if_true, if_false, Bool.false_eq_true]
        · (refine And.intro ?_ (And.intro ?_ (And.intro ?_ rfl)) <;> (conv => whnf) <;> repeat' (first | exact trivial | exact LeE.of (Le.refl _) | (with_reducible refine LeE.of ?_) | (first | exact rfl | exact leI (by first | rfl | (rw [wrap64 (by omega) (by omega)]; omega) | fail) | exact fun i hi => LeCs.refl _ | fail) | ((with_reducible refine And.intro ?_ ?_) <;> conv => whnf)))
          all_goals first
            | (simp; done)
            | exact leOwn (by simp)
            | exact leI (by show IntKind.i64.wrap ((i : Int) + 1) = ((i + 1 : Nat) : Int); rw [wrap64 (by omega) (by omega)]; omega)
            | exact fun j hj => LeCs.of_eq (rV_snocD rfl (by simpa using hj))
    · have hlt : decide ((i : Int) < IntKind.i64.wrap (gS s (a + 1).toNat (s.size - (a + 1).toNat) 0 0).1) = false := hlt
      rw [WN] at hlt
      have hlt : ¬ (i : Int) < (gSx s (a + 1)).1 := of_decide_eq_false hlt
      have hrun := hI.run
      rw [show (gSx s (a + 1)).1.toNat - i = 0 from by omega] at hrun
      have R : rG1 val s deep a = (.mk (kdR (byteAt s a)) 0 ByteArray.empty l ks 0 0 (scR (byteAt s a)), a', 0) := (RES _ hrun.symm).trans (by simp [rIt])
      repeat' (fail)
      rw [R]
      (first | exact leTup3 (leAg ⟨LeC.refl _, LeC.refl _, LeC.refl _, (by first | exact LeC.sl rfl (fun i _ => by first | (rw [Nat.zero_add]; rfl))), (by first | exact LeC.sl rfl (fun i _ => by first | (rw [Nat.zero_add]; rfl))), LeC.refl _, LeC.refl _, LeC.refl _, trivial⟩) (Le.refl _) (Le.refl _) | fail)
def rGet (s : ByteArray) : Nat → Int → Int → V × Int × Int
  | 0, deep, a => rG1 (fun a => (V.z, a, 0)) s deep a
  | m + 1, deep, a => rG1 (rGet s m (IntKind.i64.wrap (deep + 1))) s deep a
theorem rIt_ok {val : Int → V × Int × Int} {s : ByteArray} {kind : Int} (hv : ∀ a : Int, 0 ≤ a → a ≤ s.size → 0 ≤ (val a).2.1 ∧ (val a).2.1 ≤ s.size) : ∀ (m : Nat) (ks : List ByteArray) (l : List V) (a : Int), 0 ≤ a → a ≤ s.size → 0 ≤ (rIt val s kind m ks l a).2.2.1 ∧ (rIt val s kind m ks l a).2.2.1 ≤ s.size
  | 0, ks, l, a, h0, h1 => ⟨h0, h1⟩
  | m + 1, ks, l, a, h0, h1 => by
    have z : (0 : Int) ≤ 0 ∧ (0 : Int) ≤ s.size := ⟨Int.le_refl _, by omega⟩
    simp only [rIt]
    split
    · split
      · exact z
      · rename_i h
        have g := (gStr_ok s a.toNat (s.size - a.toNat) 1024).1 (show (gTx s a).2.2 = 0 by simpa using h)
        have g1 : 0 ≤ (gTx s a).2.1 := g.1
        have g2 : (gTx s a).2.1 ≤ ((s.size - a.toNat : Nat) : Int) := g.2
        have q := hv (a + (gTx s a).2.1) (by omega) (by omega)
        split
        · exact z
        · split
          · exact z
          · exact rIt_ok hv m _ _ _ q.1 q.2
    · split
      · exact z
      · have q := hv a h0 h1
        exact rIt_ok hv m _ _ _ q.1 q.2
theorem rG1_ok {val : Int → V × Int × Int} {s : ByteArray} {deep a : Int} (hv : deep ≤ 8 → ∀ a : Int, 0 ≤ a → a ≤ s.size → 0 ≤ (val a).2.1 ∧ (val a).2.1 ≤ s.size) (h0 : 0 ≤ a) (h1 : a ≤ s.size) : 0 ≤ (rG1 val s deep a).2.1 ∧ (rG1 val s deep a).2.1 ≤ s.size := by
  have z : (0 : Int) ≤ 0 ∧ (0 : Int) ≤ s.size := ⟨Int.le_refl _, by omega⟩
  unfold rG1
  split
  · exact z
  · rename_i hd
    have hv := hv (by simpa using hd)
    split
    · exact z
    · rename_i hs
      have hs : ¬ a ≥ s.size := by simpa using hs
      generalize hq : a + 1 = a1
      have h2 : 0 ≤ a1 := by omega
      have h3 : a1 ≤ s.size := by omega
      have gs : (gSx s a1).2.2 = 0 → (0 : Int) < (gSx s a1).2.1 ∧ (gSx s a1).2.1 ≤ ((s.size - a1.toNat : Nat) : Int) := fun h => by
        have := gS_ok s a1.toNat (s.size - a1.toNat) 0 0 (Int.le_refl 0) h
        have h2 : (gSx s a1).2.1 ≤ ((0 : Nat) : Int) + ((s.size - a1.toNat : Nat) : Int) := this.2.1
        exact ⟨this.1, by omega⟩
      have gt : (gTx s a1).2.2 = 0 → 0 ≤ (gTx s a1).2.1 ∧ (gTx s a1).2.1 ≤ ((s.size - a1.toNat : Nat) : Int) := fun h => (gStr_ok s a1.toNat (s.size - a1.toNat) 1024).1 h
      unfold rGk
      split
      · exact ⟨h2, h3⟩
      · split
        · split
          · exact z
          · rename_i h
            have h : ¬ a1 ≥ s.size := by simpa using h
            split
            · exact z
            · exact ⟨by show 0 ≤ a1 + 1; omega, by show a1 + 1 ≤ _; omega⟩
        · split
          · split
            · exact z
            · rename_i h
              have := gs (by simpa using h)
              exact ⟨by show 0 ≤ a1 + (gSx s a1).2.1; omega, by show a1 + (gSx s a1).2.1 ≤ _; omega⟩
          · split
            · split
              · exact z
              · rename_i h
                have := gt (by simpa using h)
                exact ⟨by show 0 ≤ a1 + (gTx s a1).2.1; omega, by show a1 + (gTx s a1).2.1 ≤ _; omega⟩
            · split
              · split
                · exact z
                · rename_i h
                  have h : ¬ a1 ≥ s.size := by simpa using h
                  split
                  · exact z
                  · exact ⟨by show 0 ≤ a1 + 1; omega, by show a1 + 1 ≤ _; omega⟩
              · split
                · split
                  · exact z
                  · rename_i h
                    have := gs (by simpa using h)
                    split
                    · exact z
                    · split
                      · exact z
                      · exact rIt_ok hv _ _ _ _ (by omega) (by omega)
                · exact z
theorem aRGet (t : Bool) (s : ByteArray) : ∀ (m : Nat) (deep : Int), 1 ≤ deep → deep ≤ 1000 → 9 ≤ deep + m → ∀ a : Int, 0 ≤ a → a ≤ s.size → 0 ≤ (rGet s m deep a).2.1 ∧ (rGet s m deep a).2.1 ≤ s.size ∧
    ACall Tryz.prog gl 56 [.c (.sl t 1 s.size (strCells s)), intA .i64 a, intA .i64 deep] [] (.tup [.ag (cV (rGet s m deep a).1), intA .i64 (rGet s m deep a).2.1, intA .i64 (rGet s m deep a).2.2])
  | 0, deep, h1, h2, h3, a, ha, hb => by
    have := rG1_ok (val := fun a => (V.z, a, 0)) (deep := deep) (fun h => by omega) ha hb
    exact ⟨this.1, this.2, aGetR1 t s a deep _ ha hb fun h => by omega⟩
  | m + 1, deep, h1, h2, h3, a, ha, hb => by
    have ih := fun h : deep ≤ 8 => aRGet t s m (deep + 1) (by omega) (by omega) (by omega)
    have hw : deep ≤ 8 → IntKind.i64.wrap (deep + 1) = deep + 1 := fun h => wrap64 (by omega) (by omega)
    have := rG1_ok (val := rGet s m (IntKind.i64.wrap (deep + 1))) (deep := deep) (fun h a ha hb => by rw [hw h]; exact ⟨(ih h a ha hb).1, (ih h a ha hb).2.1⟩) ha hb
    exact ⟨this.1, this.2, aGetR1 t s a deep _ ha hb fun h => by
      intro a ha hb
      rw [hw h]
      exact ih h a ha hb⟩
def dGe (s : ByteArray) : Int := if (rGet s 8 1 0).2.2 == 0 && decide (weight (rGet s 8 1 0).1 > 512) then 3 else (rGet s 8 1 0).2.2
def dGet (s : ByteArray) : V × Int × Int := if dGe s != 0 then (V.z, 0, dGe s) else ((rGet s 8 1 0).1, (rGet s 8 1 0).2.1, 0)
theorem aDGet (t : Bool) (s : ByteArray) : ACall Tryz.prog gl 29 [.c (.sl t 1 s.size (strCells s))] [] (.tup [.ag (cV (dGet s).1), intA .i64 (dGet s).2.1, intA .i64 (dGet s).2.2]) := by
  have G := (aRGet t s 8 1 (by decide) (by decide) (by decide) 0 (Int.le_refl 0) (by omega)).2.2
  refine acall_of_vc htb hmix (f := 29) rfl rfl rfl (by kernel_rfl) rfl rfl ?_; conv => whnf
  repeat' (first | (refine Exists.intro _ (And.intro (G) ?_); conv => whnf) | ((with_reducible refine GOr.l ?_); (conv => whnf); refine Exists.intro _ (And.intro (chainI (aWeightR _ _ _)) ?_); conv => whnf) | (refine And.intro (fun h => ?_) (fun h => ?_) <;> (first | skip) <;> conv => whnf) | ((with_reducible refine xc_pure ?_); conv => whnf))
  all_goals
    simp only [dGet, dGe, *, if_true, if_false, Bool.false_eq_true]
    (first | exact leTup3 (leAg ⟨LeC.refl _, LeC.refl _, LeC.refl _, (by first | exact LeC.refl _ | exact LeC.nil rfl | fail), (by first | exact LeC.refl _ | exact LeC.nil rfl | fail), LeC.refl _, LeC.refl _, LeC.refl _, trivial⟩) (Le.refl _) (Le.refl _) | fail)
end Go.Proofs.YtcgcamfhollnlaaGreatDoor
