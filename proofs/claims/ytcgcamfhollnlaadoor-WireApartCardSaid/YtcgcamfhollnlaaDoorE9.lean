/- Contracts of functions of the program, and the laws that stand on them: what each function answers, whatever its arguments. -/
import Derived.Test.YtcgcamfhollnlaaDoorE8
import Derived.Test.YtcgcamfhollnlaaDoorE5
set_option linter.unusedSectionVars false
set_option linter.unnecessarySimpa false
namespace Go.Proofs.YtcgcamfhollnlaaDoor
set_option linter.unusedSimpArgs false
set_option linter.unusedVariables false
set_option maxRecDepth 100000
set_option maxHeartbeats 8000000
open Go Go.VA
theorem subB (x : ByteArray) (a n j : Nat) (hj : j < n) : byteN (subS x a n) j = byteN x (a + j) := by
  have h := subC x a n j hj
  have h2 : [C.v (.int .u8 (byteN (subS x a n) j))] = [C.v (.int .u8 (byteN x (a + j)))] := h
  simpa using h2
theorem atl_sub {x : ByteArray} {a n : Nat} {L : List Int} (h : AtL x a L) (hn : L.length ≤ n) : AtL (subS x a n) 0 L := by
  refine ⟨by rw [subZ]; omega, fun j hj => ?_⟩
  rw [Nat.zero_add, subB x a n j (by omega)]
  exact h.2 j hj
theorem atl_v {S : ByteArray} {a : Nat} {v w : V} (hv : checkV v = 0) (hw : checkV w = 0) (rv : rgV v = true) (rw' : rgV w = true) (h1 : AtL S a (layL v)) (h2 : AtL S a (layL w)) : v = w := by
  have e1 := cGet_back _ v hv rv (atl_sub (n := (layL v).length + (layL w).length) h1 (by omega))
  have e2 := cGet_back _ w hw rw' (atl_sub (n := (layL v).length + (layL w).length) h2 (by omega))
  rw [e1] at e2
  exact congrArg Prod.fst e2
theorem atl_k {S : ByteArray} {a : Nat} {v w : Ky} (hv : okKy v = true) (hw : okKy w = true) (v0 : 0 ≤ v.n) (v1 : v.n ≤ 4294967295) (w0 : 0 ≤ w.n) (w1 : w.n ≤ 4294967295) (h1 : AtL S a (kyL v)) (h2 : AtL S a (kyL w)) : v = w := by
  have e1 := ky_back _ v hv v0 v1 (atl_sub (n := (kyL v).length + (kyL w).length) h1 (by omega))
  have e2 := ky_back _ w hw w0 w1 (atl_sub (n := (kyL v).length + (kyL w).length) h2 (by omega))
  rw [e1] at e2
  exact congrArg Prod.fst e2
theorem rq_inj {S : ByteArray} {a b : Rq} (ha : okRq a = true) (hb : okRq b = true) (ra : RgRq a) (rb : RgRq b) (h1 : AtL S 0 (fmRq a)) (h2 : AtL S 0 (fmRq b)) : a = b := by
  obtain ⟨a1, a2, a3, a4, a5⟩ := okRq_parts ha
  obtain ⟨b1, b2, b3, b4, b5⟩ := okRq_parts hb
  have hk : a.k = b.k := by
    have e := h1.head.1.symm.trans h2.head.1
    have e : a.k % 256 = b.k % 256 := e
    omega
  have t1 := h1.tail
  have t2 := h2.tail
  have hy := atl_k a3 b3 ra.y0 ra.y1 rb.y0 rb.y1 t1.left t2.left
  have u1 := t1.right
  have u2 := t2.right
  rw [← hy] at u2
  have hp := atl_v a4 b4 ra.p rb.p u1.left u2.left
  have x1 := u1.right
  have x2 := u2.right
  rw [← hp] at x2
  have hw := atl_v a5 b5 ra.w rb.w x1 x2
  obtain ⟨k, y, p, w⟩ := a
  obtain ⟨k', y', p', w'⟩ := b
  simp only at hk hy hp hw
  rw [hk, hy, hp, hw]
theorem rp_inj {S : ByteArray} {a b : Rp} (ha : okRp a = true) (hb : okRp b = true) (ra : rgV a.v = true) (rb : rgV b.v = true) (h1 : AtL S 0 (fmRp a)) (h2 : AtL S 0 (fmRp b)) : a = b := by
  obtain ⟨a1, a2, a3⟩ := okRp_parts ha
  obtain ⟨b1, b2, b3⟩ := okRp_parts hb
  have hk : a.e = b.e := by
    have e := h1.head.1.symm.trans h2.head.1
    have e : a.e % 256 = b.e % 256 := e
    omega
  have hp := atl_v a3 b3 ra rb h1.tail h2.tail
  obtain ⟨k, y⟩ := a
  obtain ⟨k', y'⟩ := b
  simp only at hk hp
  rw [hk, hp]
def preS (A B : List Int) : Bool := decide ((A.length : Int) ≤ B.length) && sameF A.length A.length (fun i => A.getD i 0) (fun i => B.getD i 0)
theorem preS_at {A B : List Int} (hB : Bys B) (h : preS A B = true) : AtL (baL B) 0 A := by
  simp only [preS, Bool.and_eq_true, decide_eq_true_eq, sameF, true_and] at h
  refine ⟨by rw [baL_size]; omega, fun j hj => ?_⟩
  rw [Nat.zero_add, h.2 j hj, baL_byte hB j (by omega)]
theorem preS_self (A : List Int) : preS A A = true := by simp [preS, sameF]
theorem at_self {B : List Int} (hB : Bys B) : AtL (baL B) 0 B := preS_at hB (preS_self B)
theorem bysKy {k : Ky} (ho : okKy k = true) : Bys (kyL k) := by
  obtain ⟨⟨z1, z2, z3, z4, z5, z6, z7⟩, z8⟩ := okKy_le ho
  have u (x : Int) : (IntKind.u64.wrap x).toNat < 2 ^ 64 := by
    have : IntKind.u64.wrap x < 18446744073709551616 := Int.emod_lt_of_pos _ (by decide)
    have := u64nn x
    omega
  unfold kyL
  refine bys_app (bys_app (bys_app (bys_app (bys_strL (by omega)) (bys_strL (by omega))) (bys_one (bys_w8 _))) ?_) (bys_shortL (u _))
  split
  · exact bys_shortL (u _)
  · split
    · exact bys_strL (by omega)
    · exact fun x hx => by simp at hx
theorem bys_rq {q : Rq} (ho : okRq q = true) : Bys (fmRq q) := by
  obtain ⟨a1, a2, a3, a4, a5⟩ := okRq_parts ho
  exact bys_app (a := [IntKind.u8.wrap q.k]) (bys_one (bys_w8 _)) (bys_app (bysKy a3) (bys_app (layL_bys q.p 8 (check_parts a4).1 (by decide)) (layL_bys q.w 8 (check_parts a5).1 (by decide))))
theorem eqb_to {a b : ByteArray} (h : (a == b) = true) : a = b := ba_beq.1 h
theorem sameRq_self (q : Rq) : sameRq q q = true := by unfold sameRq eqKy; rw [sameR_refl, sameR_refl]; simp [ba_beq]
theorem sameRq_to {a b : Rq} (h : sameRq a b = true) : a = b := by
  unfold sameRq eqKy at h
  simp only [Bool.and_eq_true] at h
  obtain ⟨⟨⟨h1, h2, h3, h4, h5, h6, h7⟩, h8⟩, h9⟩ := h
  obtain ⟨k, ⟨⟨t, n, kk, i, s⟩, g⟩, p, w⟩ := a
  obtain ⟨k', ⟨⟨t', n', kk', i', s'⟩, g'⟩, p', w'⟩ := b
  simp only at h1 h2 h3 h4 h5 h6 h7 h8 h9
  rw [eq_of_beq h1, eqb_to h2, eqb_to h3, eq_of_beq h4, eq_of_beq h5, eqb_to h6, eq_of_beq h7, sameR_to p p' h8, sameR_to w w' h9]
theorem sameRp_to {a b : Rp} (h : sameRp a b = true) : a = b := by
  unfold sameRp at h
  simp only [Bool.and_eq_true] at h
  obtain ⟨k, p⟩ := a
  obtain ⟨k', p'⟩ := b
  simp only at h
  rw [eq_of_beq h.1, sameR_to p p' h.2]
theorem pre_rq {a b : Rq} (ha : okRq a = true) (hb : okRq b = true) (ra : RgRq a) (rb : RgRq b) : preS (fmRq a) (fmRq b) = sameRq a b := by
  rw [Bool.eq_iff_iff]
  constructor
  · intro h
    rw [rq_inj ha hb ra rb (preS_at (bys_rq hb) h) (at_self (bys_rq hb))]
    exact sameRq_self b
  · intro h
    rw [sameRq_to h]
    exact preS_self _
theorem pre_rp {a b : Rp} (ha : okRp a = true) (hb : okRp b = true) (ra : rgV a.v = true) (rb : rgV b.v = true) : preS (fmRp a) (fmRp b) = sameRp a b := by
  rw [Bool.eq_iff_iff]
  constructor
  · intro h
    rw [rp_inj ha hb ra rb (preS_at (bys_rp hb) h) (at_self (bys_rp hb))]
    exact sameRp_self b
  · intro h
    rw [sameRp_to h]
    exact preS_self _
end Go.Proofs.YtcgcamfhollnlaaDoor
