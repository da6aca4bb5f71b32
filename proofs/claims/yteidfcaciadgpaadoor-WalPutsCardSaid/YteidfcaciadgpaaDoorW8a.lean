/- Contracts of functions of the program, and the laws that stand on them: what each function answers, whatever its arguments. -/
import Derived.Test.YteidfcaciadgpaaDoorW7
import Derived.Test.YteidfcaciadgpaaDoorC16
import Derived.Test.YteidfcaciadgpaaDoorA6
import Derived.Test.YteidfcaciadgpaaDoorC13
set_option linter.unusedSectionVars false
set_option linter.unnecessarySimpa false
namespace Go.Proofs.YteidfcaciadgpaaDoor
set_option linter.unusedSimpArgs false
set_option linter.unusedVariables false
set_option maxRecDepth 100000
set_option maxHeartbeats 8000000
open Go Go.VA
theorem leSlC {m : Nat} {t : Bool} {e n n' : Nat} {f g : Nat → List C} (h : n = n') (hf : ∀ i, i < n' → LeCs (f i) (g i) ∧ (g i).length = (f i).length) : Le m (.c (.sl t e n f)) (.c (.sl t e n' g)) := by
  subst h
  refine ⟨fun B S u hn hu => ?_⟩
  simp only [RelV, RepC] at hu ⊢
  obtain ⟨a, cap, rfl, h1, h2⟩ := hu
  refine ⟨a, cap, rfl, h1, ?_⟩
  rcases h2 with h2 | ⟨b, o, rfl, h2⟩
  · exact .inl h2
  · exact .inr ⟨b, o, rfl, fun i hi => ⟨by rw [(hf i hi).2]; exact (h2 i hi).1, (hf i hi).1.2 _ _ _ (h2 i hi).2⟩⟩
theorem leC_sl {u : Bool} {n n' : Nat} {f g : Nat → List C} (h : n = n') (hf : ∀ i, i < n' → f i = g i) : LeCs [.sl u 1 n f] [.sl u 1 n' g] := by
  subst h
  refine ⟨rfl, fun S R o hr => ?_⟩
  simp only [RepCs, and_true] at hr ⊢
  obtain ⟨v, h1, h2⟩ := hr
  refine ⟨v, h1, ?_⟩
  have := (leSl (m := 0) (t := u) (e := 1) rfl hf).h [] S v (Nat.zero_le _) (by simpa only [RelV] using h2)
  simpa only [RelV] using this
theorem aSha1G (t u : Bool) (s : ByteArray) (n : Nat) (G F : Nat → List C) (hF : F 0 = [.sl u 1 n G]) (hn : n = s.size) (hG : ∀ j, j < n → G j = strCells s j) (hs : s.size ≤ 140737488355000) : ACall Tryd.prog gl 27 [.c (.sl t 1 1 F)] [] (.ag (sumC (shaA s))) := by
  refine (aSha1 t u s (fun _ => [.sl u 1 s.size (strCells s)]) (fun _ _ => rfl) hs).le ⟨leSlC rfl (fun i hi => ?_), trivial⟩
  obtain rfl : i = 0 := by omega
  rw [hF]
  exact ⟨leC_sl hn (fun j hj => hG j (by omega)), rfl⟩
theorem okIt_y {i : It} (h : okIt i = true) : okKy i.y = true ∧ 0 ≤ i.k := by
  unfold okIt at h
  simp only [Bool.and_eq_true, Bool.not_eq_true', Bool.or_eq_false_iff, decide_eq_false_iff_not] at h
  exact ⟨h.2, by omega⟩
theorem inL_len {i : It} (h : okIt i = true) : (inL i).length ≤ 130 := by
  have a := shortL_len i.n.toNat
  have b := kyL_len (okIt_y h).1
  unfold inL
  simp only [List.length_append, List.length_singleton]
  omega
end Go.Proofs.YteidfcaciadgpaaDoor

namespace Go.Proofs.YteidfcaciadgpaaDoor
set_option linter.unusedSimpArgs false
set_option linter.unusedVariables false
set_option maxRecDepth 100000
set_option maxHeartbeats 8000000
open Go Go.VA
theorem rTx_back (s t : ByteArray) (a : Nat) (ht : t.size ≤ 24) (h : AtL s a (strL t)) : rTx s (a : Int) 0 = (t, ((a + (strL t).length : Nat) : Int), 0) := by
  have h1 : AtL s a (shortL t.size) := h.left
  have h2 : AtL s (a + (shortL t.size).length) (bytesL t) := h.right
  have hg := gSx_back s a t.size (by omega) h1
  have hl := h2.1
  rw [bytesL_len] at hl
  unfold gSx at hg
  rw [Int.toNat_natCast] at hg
  unfold rTx gStr
  rw [Int.toNat_natCast, hg]
  have w : IntKind.u64.wrap (if (0 : Int) > 24 then 0 else 24) = 24 := rfl
  rw [if_neg (by decide), if_neg (by simp), w, if_neg (by simp; omega), if_neg (by simp; omega)]
  simp only [Int.toNat_natCast]
  rw [subS_back s t _ h2]
  have : (strL t).length = (shortL t.size).length + t.size := by rw [strL, List.length_append, bytesL_len]
  rw [this]
  push_cast
  rfl
theorem rSh_back (s : ByteArray) (a n : Nat) (hn : n < 2 ^ 64) (h : AtL s a (shortL n)) : rShort s (a : Int) 0 = ((n : Int), ((a + (shortL n).length : Nat) : Int), 0) := by
  have hg := gSx_back s a n hn h
  unfold gSx at hg
  unfold rShort
  rw [if_neg (by decide), hg]
  push_cast
  rfl
theorem rKd_back (s : ByteArray) (a : Nat) (x : Int) (h0 : 0 ≤ x) (h2 : x ≤ 2) (h : AtL s a [IntKind.u8.wrap x]) : rKd s (a : Int) 0 = (x, ((a + 1 : Nat) : Int), 0) := by
  have w : IntKind.u8.wrap x = x := by show x % 256 = x; omega
  rw [w] at h
  have hb := h.head
  unfold rKd byteAt
  rw [Int.toNat_natCast, hb.1, if_neg (by decide), if_neg (by simp; omega), if_neg (by simp; omega)]
  rfl
theorem ba_empty {s : ByteArray} (h : s.size = 0) : s = ByteArray.empty := ba_ext h fun i hi => by omega
theorem okAd_0 {a : Ad} (h : okAd a = true) (h0 : a.k = 0) : a.i = 0 ∧ a.s = ByteArray.empty := by
  unfold okAd at h
  simp [h0] at h
  exact ⟨h.1.2, ba_empty (by simpa using h.2)⟩
theorem okAd_1 {a : Ad} (h : okAd a = true) (h0 : a.k = 1) : a.s = ByteArray.empty := by
  unfold okAd at h
  simp [h0] at h
  exact ba_empty (by simpa using h.2)
theorem okAd_2 {a : Ad} (h : okAd a = true) (h0 : a.k = 2) : a.i = 0 := by
  unfold okAd at h
  simp [h0] at h
  exact h.1.2
theorem ky_back (s : ByteArray) (k : Ky) (ho : okKy k = true) (h0 : 0 ≤ k.n) (h1 : k.n ≤ 4294967295) (h : AtL s 0 (kyL k)) : gKyA s = (k, ((kyL k).length : Int), 0) := by
  obtain ⟨⟨z1, z2, z3, z4, z5, z6, z7⟩, z8⟩ := okKy_le ho
  have hoa : okAd k.a = true := by
    unfold okKy at ho
    simp only [Bool.and_eq_true] at ho
    exact ho.2
  have wn : (IntKind.u64.wrap k.n).toNat = k.n.toNat := by rw [wrapU h0 (by omega)]
  have wi : (IntKind.u64.wrap k.a.i).toNat = k.a.i.toNat := by rw [wrapU z6 (by omega)]
  have w32 : IntKind.u32.wrap k.n = k.n := by show k.n % 4294967296 = k.n; omega
  unfold kyL at h
  rw [wn, wi] at h
  have hA := h.left.left.left.left
  have hB := h.left.left.left.right
  have hC := h.left.left.right
  have hD := h.left.right
  have hE := h.right
  have e1 : gK1 s = (k.a.t, ((0 + (strL k.a.t).length : Nat) : Int), 0) := rTx_back s k.a.t 0 z1 hA
  have e2 : gK2 s = (k.a.n, ((0 + (strL k.a.t).length + (strL k.a.n).length : Nat) : Int), 0) := by
    unfold gK2; rw [e1]; exact rTx_back s k.a.n _ z2 hB
  have e3 : gK3 s = (k.a.k, ((0 + (strL k.a.t ++ strL k.a.n).length + 1 : Nat) : Int), 0) := by
    unfold gK3; rw [e2]
    have := rKd_back s _ k.a.k z4 z5 hC
    rw [List.length_append] at this ⊢
    rw [← Nat.add_assoc] at this ⊢
    exact this
  have el : 0 + (strL k.a.t ++ strL k.a.n).length + 1 = 0 + (strL k.a.t ++ strL k.a.n ++ [IntKind.u8.wrap k.a.k]).length := by simp; omega
  have fin : kyFin k (if k.a.k = 1 then k.a.i else 0) k.n ((kyL k).length : Int) 0 = (k, ((kyL k).length : Int), 0) := by
    unfold kyFin
    rw [if_neg (by decide), if_neg]
    have q1 : decide ((if k.a.k = 1 then k.a.i else 0) > 9223372036854775807) = false := by
      split <;> simp <;> omega
    have q2 : decide (k.n > 4294967295) = false := by simp; omega
    rw [q1, q2, ho]; decide
  have elen : ((kyL k).length : Int) = ((0 + (strL k.a.t ++ strL k.a.n ++ [IntKind.u8.wrap k.a.k] ++ (if k.a.k == 1 then shortL k.a.i.toNat else if k.a.k == 2 then strL k.a.s else [])).length + (shortL k.n.toNat).length : Nat) : Int) := by
    unfold kyL
    rw [wn, wi, List.length_append, Nat.zero_add]
  have hk : k.a.k = 0 ∨ k.a.k = 1 ∨ k.a.k = 2 := by omega
  rw [el] at e3
  rw [elen]
  rw [elen] at fin
  have g1 : (gK1 s).1 = k.a.t := by rw [e1]
  have g2 : (gK2 s).1 = k.a.n := by rw [e2]
  have g3 : (gK3 s).1 = k.a.k := by rw [e3]
  have wm : (k.n.toNat : Int) = k.n := Int.toNat_of_nonneg h0
  rcases hk with hk | hk | hk
  · obtain ⟨i0, s0⟩ := okAd_0 hoa hk
    have b1 : (k.a.k == 1) = false := by rw [hk]; rfl
    have b2 : (k.a.k == 2) = false := by rw [hk]; rfl
    simp only [b1, b2, Bool.false_eq_true, if_false, List.append_nil] at hE fin ⊢
    have r4 := rSh_back s _ k.n.toNat (by omega) hE
    have e4 : gK4 s = _ := Eq.trans (by unfold gK4; rw [e3]) r4
    unfold gKyA
    rw [g1, g2, g3, b1, b2, e4, if_neg (by decide), if_neg (by decide)]
    rw [if_neg (by omega)] at fin
    have ek : (⟨⟨k.a.t, k.a.n, k.a.k, 0, ByteArray.empty⟩, IntKind.u32.wrap (k.n.toNat : Int)⟩ : Ky) = k := by
      rw [wm, w32]
      conv => rhs; rw [show k = ⟨⟨k.a.t, k.a.n, k.a.k, k.a.i, k.a.s⟩, k.n⟩ from rfl, i0, s0]
    show kyFin ⟨⟨k.a.t, k.a.n, k.a.k, 0, ByteArray.empty⟩, IntKind.u32.wrap (k.n.toNat : Int)⟩ 0 (k.n.toNat : Int) _ 0 = _
    rw [ek, wm]
    exact fin
  · have s0 := okAd_1 hoa hk
    have b1 : (k.a.k == 1) = true := by rw [hk]; rfl
    simp only [b1, if_true] at hD hE fin ⊢
    have r4 := rSh_back s _ k.a.i.toNat (by omega) hD
    have e4 : gK4 s = _ := Eq.trans (by unfold gK4; rw [e3]) r4
    have a4 : ∀ (A B : List Int), 0 + (A ++ B).length = 0 + A.length + B.length := fun A B => by rw [List.length_append]; omega
    rw [a4] at hE
    have r5 := rSh_back s _ k.n.toNat (by omega) hE
    have e5 : rShort s (gK4 s).2.1 (gK4 s).2.2 = _ := Eq.trans (by rw [e4]) r5
    unfold gKyA
    rw [g1, g2, g3, b1, if_pos rfl, e5, e4]
    rw [if_pos hk] at fin
    have wj : (k.a.i.toNat : Int) = k.a.i := Int.toNat_of_nonneg z6
    have wb : IntKind.i64.wrap (bitsI .and .u64 (k.a.i.toNat : Int) 9223372036854775807) = k.a.i := by rw [wj]; rw [and_max _ z6 (by omega), wrap64 (by omega) (by omega)]
    have ek : (⟨⟨k.a.t, k.a.n, k.a.k, IntKind.i64.wrap (bitsI .and .u64 (k.a.i.toNat : Int) 9223372036854775807), ByteArray.empty⟩, IntKind.u32.wrap (k.n.toNat : Int)⟩ : Ky) = k := by
      rw [wb, wm, w32]
      conv => rhs; rw [show k = ⟨⟨k.a.t, k.a.n, k.a.k, k.a.i, k.a.s⟩, k.n⟩ from rfl, s0]
    show kyFin ⟨⟨k.a.t, k.a.n, k.a.k, IntKind.i64.wrap (bitsI .and .u64 (k.a.i.toNat : Int) 9223372036854775807), ByteArray.empty⟩, IntKind.u32.wrap (k.n.toNat : Int)⟩ (k.a.i.toNat : Int) (k.n.toNat : Int) _ 0 = _
    rw [ek, wm, wj, ← a4 _ (shortL k.a.i.toNat)]
    exact fin
  · have i0 := okAd_2 hoa hk
    have b1 : (k.a.k == 1) = false := by rw [hk]; rfl
    have b2 : (k.a.k == 2) = true := by rw [hk]; rfl
    simp only [b1, b2, Bool.false_eq_true, if_false, if_true] at hD hE fin ⊢
    have r4 := rTx_back s k.a.s _ z3 hD
    have e4 : gK5 s = _ := Eq.trans (by unfold gK5; rw [e3]) r4
    have a4 : ∀ (A B : List Int), 0 + (A ++ B).length = 0 + A.length + B.length := fun A B => by rw [List.length_append]; omega
    rw [a4] at hE
    have r5 := rSh_back s _ k.n.toNat (by omega) hE
    have e5 : rShort s (gK5 s).2.1 (gK5 s).2.2 = _ := Eq.trans (by rw [e4]) r5
    unfold gKyA
    rw [g1, g2, g3, b1, b2, if_neg (by decide), if_pos rfl, e5, e4]
    rw [if_neg (by omega)] at fin
    have ek : (⟨⟨k.a.t, k.a.n, k.a.k, 0, k.a.s⟩, IntKind.u32.wrap (k.n.toNat : Int)⟩ : Ky) = k := by
      rw [wm, w32]
      conv => rhs; rw [show k = ⟨⟨k.a.t, k.a.n, k.a.k, k.a.i, k.a.s⟩, k.n⟩ from rfl, i0]
    show kyFin ⟨⟨k.a.t, k.a.n, k.a.k, 0, k.a.s⟩, IntKind.u32.wrap (k.n.toNat : Int)⟩ 0 (k.n.toNat : Int) _ 0 = _
    rw [ek, wm, ← a4 _ (strL k.a.s)]
    exact fin
end Go.Proofs.YteidfcaciadgpaaDoor

namespace Go.Proofs.YteidfcaciadgpaaDoor
set_option linter.unusedSimpArgs false
set_option linter.unusedVariables false
set_option maxRecDepth 100000
set_option maxHeartbeats 8000000
open Go Go.VA
structure RgIt (i : It) : Prop where
  n0 : 0 ≤ i.n
  y0 : 0 ≤ i.y.n
  y1 : i.y.n ≤ 4294967295
def sumL (d : Nat → UInt8) : List Int := (List.range 32).map fun j => ((d j).toNat : Int)
def be4L (k : Nat) : List Int := (List.range 4).map fun j => ((putB k 4 j).toNat : Int)
def mgL : List Int := [115, 105, 110, 49]
def fmI (i : It) : List Int := mgL ++ be4L (inL i).length ++ sumL (shaA (baL (inL i))) ++ inL i
theorem be4L_len (k : Nat) : (be4L k).length = 4 := by simp [be4L]
theorem sumL_len (d : Nat → UInt8) : (sumL d).length = 32 := by simp [sumL]
theorem fmI_len (i : It) : (fmI i).length = 40 + (inL i).length := by
  unfold fmI
  simp only [List.length_append, be4L_len, sumL_len]
  rw [show mgL.length = 4 from rfl]
theorem bys_ky {k : Ky} (ho : okKy k = true) : Bys (kyL k) := by
  obtain ⟨⟨h1, h2, h3, h4, h5, h6, h7⟩, _⟩ := okKy_le ho
  have w : ∀ x : Int, (IntKind.u64.wrap x).toNat < 2 ^ 64 := fun x => by
    have : IntKind.u64.wrap x = x % 18446744073709551616 := rfl
    omega
  unfold kyL
  refine bys_app (bys_app (bys_app (bys_app (bys_strL (by omega)) (bys_strL (by omega))) (bys_one (bys_w8 _))) ?_) (bys_shortL (w _))
  split
  · exact bys_shortL (w _)
  · split
    · exact bys_strL (by omega)
    · exact fun x hx => by simp at hx
theorem okIt_n {i : It} (h : okIt i = true) : i.n ≤ 4611686018427387904 ∧ 3 ≤ i.k ∧ i.k ≤ 5 := by
  unfold okIt at h
  simp only [Bool.and_eq_true, Bool.not_eq_true', Bool.or_eq_false_iff, decide_eq_false_iff_not] at h
  omega
theorem bys_in {i : It} (ho : okIt i = true) : Bys (inL i) := by
  have := okIt_n ho
  exact bys_app (bys_app (bys_shortL (by omega)) (bys_one (bys_w8 _))) (bys_ky (okIt_y ho).1)
theorem bys_bytes (n : Nat) (d : Nat → UInt8) : Bys ((List.range n).map fun j => ((d j).toNat : Int)) := fun x hx => by
  obtain ⟨j, _, rfl⟩ := List.mem_map.1 hx
  have := (d j).toNat_lt
  omega
theorem bys_fm {i : It} (ho : okIt i = true) : Bys (fmI i) :=
  bys_app (bys_app (bys_app (fun x hx => by simp [mgL] at hx; omega) (bys_bytes 4 _)) (bys_bytes 32 _)) (bys_in ho)
theorem subS_ba {s : ByteArray} {a : Nat} {L : List Int} (h : AtL s a L) : subS s a L.length = baL L := by
  refine ba_ext (by rw [sub_size, baL_size]) fun j hj => ?_
  rw [sub_size] at hj
  have hb := h.2 j hj
  simp only [subS, bytesOf, baL]
  rw [List.getElem?_map, List.getElem?_range hj, List.getElem?_map, List.getElem?_eq_getElem hj]
  simp only [Option.map_some, byteC, strCells]
  rw [List.getD_eq_getElem?_getD, List.getElem?_eq_getElem hj, Option.getD_some] at hb
  rw [← hb]
  rfl
theorem AtL.sub {x : ByteArray} {a n : Nat} {L : List Int} (h : AtL x a L) (hn : L.length ≤ n) : AtL (subS x a n) 0 L := by
  refine ⟨by rw [sub_size]; omega, fun j hj => ?_⟩
  rw [Nat.zero_add, sub_byte x a n j (by omega)]
  exact h.2 j hj
theorem wIn_back {x : ByteArray} {i : It} (ho : okIt i = true) (rg : RgIt i) (h : AtL x 0 (inL i)) (hx : x.size = (inL i).length) : wIn x = (i, true) := by
  obtain ⟨n1, k3, k5⟩ := okIt_n ho
  have n0 := rg.n0
  have hl := inL_len ho
  have hA : AtL x 0 (shortL i.n.toNat) := h.left.left
  have hK : AtL x (0 + (shortL i.n.toNat).length) [IntKind.u8.wrap i.k] := h.left.right
  have hY : AtL x (0 + (shortL i.n.toNat ++ [IntKind.u8.wrap i.k]).length) (kyL i.y) := h.right
  have g := gSx_back x 0 i.n.toNat (by omega) hA
  have eN : wN x = ((i.n.toNat : Int), ((shortL i.n.toNat).length : Int), 0) := g
  have elen : (inL i).length = (shortL i.n.toNat).length + 1 + (kyL i.y).length := by
    unfold inL
    simp only [List.length_append, List.length_singleton]
  have eO : wO x = (((shortL i.n.toNat).length + 1 : Nat) : Int) := by
    unfold wO; rw [eN]
    show IntKind.i64.wrap (((shortL i.n.toNat).length : Int) + 1) = _
    rw [wrap64 (by omega) (by omega)]; push_cast; rfl
  have eY : wY x = (i.y, ((kyL i.y).length : Int), 0) := by
    unfold wY
    rw [eO, Int.toNat_natCast]
    refine ky_back _ i.y (okIt_y ho).1 rg.y0 rg.y1 (AtL.sub ?_ (by omega))
    rw [List.length_append, List.length_singleton, Nat.zero_add] at hY
    exact hY
  have eK : IntKind.i64.wrap (byteN x (wN x).2.1.toNat) = i.k := by
    rw [eN]
    show IntKind.i64.wrap (byteN x ((shortL i.n.toNat).length : Int).toNat) = _
    rw [Int.toNat_natCast]
    have := hK.head.1
    rw [Nat.zero_add] at this
    have w : IntKind.u8.wrap i.k = i.k := by show i.k % 256 = i.k; omega
    rw [this, w, wrap64 (by omega) (by omega)]
  have eI : wI x = i := by
    unfold wI
    rw [eK, eY, eN]
    show (⟨(i.n.toNat : Int), i.k, i.y⟩ : It) = i
    rw [Int.toNat_of_nonneg n0]
  unfold wIn
  rw [eI, eY, eO, eN, ho]
  have q1 : ((((i.n.toNat : Int), ((shortL i.n.toNat).length : Int), (0 : Int)).2.2 != 0) || (((i.n.toNat : Int), ((shortL i.n.toNat).length : Int), (0 : Int)).2.1 == (x.size : Int))) = false := by
    show (((0 : Int) != 0) || ((shortL i.n.toNat).length : Int) == (x.size : Int)) = false
    simp; omega
  rw [q1, if_neg (by decide)]
  have q2 : (IntKind.i64.wrap ((((shortL i.n.toNat).length + 1 : Nat) : Int) + ((kyL i.y).length : Int)) == (x.size : Int)) = true := by
    rw [wrap64 (by omega) (by omega)]
    simp; omega
  show (i, ((0 : Int) == 0) && (IntKind.i64.wrap ((((shortL i.n.toNat).length + 1 : Nat) : Int) + ((kyL i.y).length : Int)) == (x.size : Int)) && true) = (i, true)
  rw [q2]; rfl
theorem nB_four (b : Nat → UInt8) (k : Nat) (hk : k < 4294967296) (h : ∀ j, j < 4 → b (0 + j) = putB k 4 j) : nB b 0 4 = k := by
  simp only [nB, h 0 (by decide), h 1 (by decide), h 2 (by decide), h 3 (by decide), putB, UInt8.toNat_ofNat']
  omega
theorem getD_bys (n : Nat) (d : Nat → UInt8) (j : Nat) (hj : j < n) : ((List.range n).map fun j => ((d j).toNat : Int)).getD j 0 = ((d j).toNat : Int) := by
  simp [List.getD_eq_getElem?_getD, List.getElem?_map, List.getElem?_range hj]
theorem byte_of {s : ByteArray} {a : Nat} {x : UInt8} (h : byteN s a = (x.toNat : Int)) : (s.data.toList[a]?).getD 0 = x := by
  unfold byteN at h
  exact UInt8.toNat_inj.1 (by omega)
theorem be4_back {s : ByteArray} {k : Nat} (hk : k < 4294967296) (h : AtL s 4 (be4L k)) : be4 s = k := by
  refine nB_four _ k hk fun j hj => ?_
  have := h.2 j (by rw [be4L_len]; exact hj)
  rw [be4L, getD_bys 4 _ j hj] at this
  rw [Nat.zero_add]
  exact byte_of this
theorem pre_back {s : ByteArray} (h : AtL s 0 mgL) : preB s = true := by
  have e : bytesOf 4 (fun i => strCells s (0 + i)) = mgB := subS_ba (s := s) (a := 0) (L := mgL) h
  unfold preB
  rw [e]; exact beq_self_eq_true _
theorem sum_back {s x : ByteArray} (h : AtL s 8 (sumL (shaA x))) : sumB s x = true := by
  unfold sumB
  rw [bytesOf_eq, decide_eq_true_eq]
  intro i hi
  have := h.2 i (by rw [sumL_len]; exact hi)
  rw [sumL, getD_bys 32 _ i hi] at this
  rw [Nat.zero_add, ← arr_sumC, nthCC_arr _ _ _ hi]
  simp only [byteC, strCells, byte_of this]
theorem wG_back {s : ByteArray} {i : It} (hs : s.size ≤ 140737488355328) (ho : okIt i = true) (rg : RgIt i) (h : AtL s 0 (fmI i)) : wGet s = (i, 40 + ((inL i).length : Int), 0) := by
  have hl := inL_len ho
  have hz := h.1
  rw [fmI_len] at hz
  have h1 : AtL s 0 mgL := h.left.left.left
  have h2 : AtL s 4 (be4L (inL i).length) := h.left.left.right
  have h3 : AtL s 8 (sumL (shaA (baL (inL i)))) := by
    have := h.left.right
    rw [List.length_append, be4L_len] at this
    exact this
  have h4 : AtL s 40 (inL i) := by
    have := h.right
    rw [List.length_append, List.length_append, be4L_len, sumL_len] at this
    exact this
  have e4 := be4_back (by omega) h2
  have eX : wX s = baL (inL i) := by unfold wX; rw [e4]; exact subS_ba h4
  have eI : wIn (wX s) = (i, true) := by
    refine wIn_back ho rg ?_ (by rw [eX, baL_size])
    unfold wX; rw [e4]; exact h4.sub (Nat.le_refl _)
  unfold wGet
  rw [eI, pre_back h1]
  rw [eX, sum_back h3, e4, if_neg (by simp; omega), if_neg (by decide), if_neg, if_neg (by decide), if_neg (by simp)]
  have : (40 : Int).toNat = 40 := rfl
  rw [this, wrapU (by omega) (by omega)]
  simp; omega
def CutL (s : ByteArray) (a : Nat) (L : List Int) : Prop := a ≤ s.size ∧ s.size < a + L.length ∧ ∀ j, a + j < s.size → byteN s (a + j) = L.getD j 0
theorem CutL.to {s : ByteArray} {a : Nat} {A B : List Int} (h : CutL s a (A ++ B)) (hA : a + A.length ≤ s.size) : AtL s a A := by
  refine ⟨hA, fun j hj => ?_⟩
  rw [h.2.2 j (by omega)]
  simp [List.getD_eq_getElem?_getD, List.getElem?_append_left hj]
theorem wG_cut {s : ByteArray} {i : It} (hs : s.size ≤ 140737488355328) (ho : okIt i = true) (h : CutL s 0 (fmI i)) : wGet s = (it0, 0, 2) := by
  have hl := inL_len ho
  have hz := h.2.1
  rw [fmI_len] at hz
  unfold wGet
  by_cases h40 : s.size < 40
  · rw [if_pos (by simp; omega)]
  have hF : AtL s 0 (mgL ++ be4L (inL i).length ++ sumL (shaA (baL (inL i)))) := h.to (by
    simp only [List.length_append, be4L_len, sumL_len]
    rw [show mgL.length = 4 from rfl]; omega)
  have e4 := be4_back (s := s) (k := (inL i).length) (by omega) hF.left.right
  rw [if_neg (by simp; omega), pre_back hF.left.left, if_neg (by decide), if_pos]
  have : (40 : Int).toNat = 40 := rfl
  rw [this, e4, wrapU (by omega) (by omega)]
  simp; omega
end Go.Proofs.YteidfcaciadgpaaDoor
