/- Contracts of functions of the program, and the laws that stand on them: what each function answers, whatever its arguments. -/
import Derived.Test.YtndacaemcakmkaaD7
set_option linter.unusedSectionVars false
set_option linter.unnecessarySimpa false
namespace Go.Proofs.Ytndacaemcakmkaa
set_option linter.unusedSimpArgs false
set_option linter.unusedVariables false
set_option maxRecDepth 100000
set_option maxHeartbeats 8000000
open Go Go.VA Go.RowKit
/-! ### Boot as a contract; the example; no disk -/
theorem gBoot (l : List Fl) (ok : OkL l) (fuse ops keep : Int) (dead : Bool) (hbt : ∀ f ∈ l, Bt keep f) : GCall Try.prog gl 14 [dskB fuse dead ops, .mp (mm l [])] [.ptr 0 0, intA .i64 keep] [dskB 0 false ops, .mp (mm l (l.map (·.1.data.toList)))] [] where
 callable := ⟨_, Try.func14, by kernel_rfl, by kernel_rfl⟩
 len := Nat.le_refl _
 kinds := fun i hi => by
  match i, hi with
  | 0, _ => rfl
  | 1, _ => rfl
 livep := fun i hi => by
  match i, hi with
  | 0, _ => rfl
  | 1, _ => rfl
 liveq := fun i hi => by
  match i, hi with
  | 0, _ => rfl
  | 1, _ => rfl
 run := fun w M B vals hro hL hG hv => by
  have hlen := hL.len
  obtain ⟨bo0, bo1, rfl⟩ : ∃ b0 b1, B = [b0, b1] := by
   match B, hlen with
   | [b0, b1], _ => exact ⟨b0, b1, rfl⟩
  obtain ⟨bi, cs, ty, rfl, hblk, ho, ⟨hsz, hn⟩, hone, hcs⟩ := hL.obj 0 bo0 rfl
  obtain ⟨bm, es, clock, rfl, hmap, hrel, hst⟩ := hL.obj 1 bo1 rfl
  have hbi := hL.bnd 0 bi rfl
  have hbm := hL.bnd 1 bm rfl
  have hne : bi.b ≠ bm.b := hL.dist 0 1 bi bm (by decide) rfl rfl rfl rfl
  obtain ⟨u0, r0, e0, h0, hv⟩ := pushA hv
  obtain ⟨u1, r1, rfl, h1, hv⟩ := pushA hv
  simp only [RelVs] at hv
  subst hv
  obtain ⟨bi', hb', rfl⟩ := h0
  have hb' : some bi = some bi' := by simpa using hb'
  cases hb'
  obtain ⟨rfl, _⟩ : u1 = .int .i64 keep ∧ _ := h1
  rw [ho] at e0
  obtain rfl : vals = #[.pointer (some ⟨bi.b, 0, none⟩), .int .i64 keep] := Array.ext' e0
  obtain ⟨c0, s0, f0, g0, hcs⟩ := pushA hcs
  obtain ⟨c1, s1, rfl, g1, hcs⟩ := pushA hcs
  obtain ⟨c2, s2, rfl, g2, hcs⟩ := pushA hcs
  obtain ⟨c3, s3, rfl, g3, hcs⟩ := pushA hcs
  simp only [RelVs] at hcs
  subst hcs
  obtain ⟨bm', hbm', rfl⟩ := g0
  have hbm' : some bm = some bm' := by simpa using hbm'
  cases hbm'
  obtain ⟨rfl, _⟩ : c1 = .int .i64 fuse ∧ _ := g1
  obtain ⟨rfl, _⟩ : c2 = .bool dead ∧ _ := g2
  obtain ⟨rfl, _⟩ : c3 = .int .i64 ops ∧ _ := g3
  obtain rfl : cs = #[.map (some bm.b), .int .i64 fuse, .bool dead, .int .i64 ops] := Array.ext' f0
  have hMb : ∀ t id (b : BI), ([some bi, some bm] : List (Option BI))[id]? = some (some b) → MU M [some bi, some bm] [dskB fuse dead ops, .mp (mm l [])] t b.b := fun t id b h => by
   have hid : id < 2 := (List.getElem?_eq_some_iff.1 h).1
   have hl : (getO [dskB fuse dead ops, .mp (mm l [])] id).live = true := by
    rcases Nat.lt_or_ge id 1 with h1 | h1
    ·obtain rfl : id = 0 := Nat.lt_one_iff.1 h1
     rfl
    ·obtain rfl : id = 1 := by omega
     rfl
   cases t with
   | false => exact .inr ⟨id, b, h, rfl, hl⟩
   | true => exact .inr ⟨id, b, by omega, h, rfl, hl⟩
  have hS : ∀ t b o u, Sr M [some bi, some bm] [dskB fuse dead ops, .mp (mm l [])] w t b o u → b ≠ bm.b ∧ w.cell? ⟨b, o, none⟩ = some u := fun t b o u h => ⟨fun e => h.1 (e ▸ hMb t 1 bm rfl), h.2⟩
  refine (bootW l ok _ ty bi.b bm.b fuse ops keep dead w es clock hbt hblk hmap hrel hst hS).mono ?_
  rintro e W ⟨rfl, w1, w2, w3, w4, w5, w6, es', ck', w7, w8, w9⟩
  have hle : (Sr M [some bi, some bm] [dskB fuse dead ops, .mp (mm l [])] w).le (Sr M [some bi, some bm] [dskB 0 false ops, .mp (mm l (l.map (·.1.data.toList)))] W) := by
   rintro t b o u ⟨k1, k2⟩
   refine ⟨fun hm => k1 ?_, ?_⟩
   ·cases t with
    | false =>
     rcases hm with hm | ⟨id, b', k3, rfl, _⟩
     ·exact .inl hm
     ·exact hMb false id b' k3
    | true =>
     rcases hm with hm | ⟨id, b', _, k3, rfl, _⟩
     ·exact .inl hm
     ·exact hMb true id b' k3
   ·rw [World.cell?_of_block (w := w) (w5 b (block_lt k2) (fun e => k1 (e ▸ hMb t 1 bm rfl)) (fun e => k1 (e ▸ hMb t 0 bi rfl)))]
    exact k2
  refine ⟨.tuple #[], [some bi, some bm], rfl, ⟨w1, w2, w3, w4, fun k hk hn => w5 k hk (fun e => hn ⟨1, bm, rfl, e.symm⟩) (fun e => hn ⟨0, bi, rfl, e.symm⟩)⟩, ?_, ⟨#[], rfl, rfl⟩, fun id b h => .inr ⟨id, b, h, rfl⟩, fun _ _ _ => rfl⟩
  have hlv : ∀ id, (getO [dskB 0 false ops, .mp (mm l (l.map (·.1.data.toList)))] id).live = (getO [dskB fuse dead ops, .mp (mm l [])] id).live := fun id => by
   match id with
   | 0 => rfl
   | 1 => rfl
   | n + 2 => rfl
  exact {
   len := rfl
   bnd := fun id b h => Nat.lt_of_lt_of_le (hL.bnd id b h) w4
   mbnd := fun b h => Nat.lt_of_lt_of_le (hL.mbnd b h) w4
   notM := fun id b h hl => hL.notM id b h (by rw [← hlv]; exact hl)
   dist := fun i j b b' hij h h' hl hl' => hL.dist i j b b' hij h h' (by rw [← hlv]; exact hl) (by rw [← hlv]; exact hl')
   obj := fun id bo h => by
    have hid : id < 2 := (List.getElem?_eq_some_iff.1 h).1
    rcases Nat.lt_or_ge id 1 with h1 | h1
    ·obtain rfl : id = 0 := Nat.lt_one_iff.1 h1
     obtain rfl : some bi = bo := by simpa using h
     exact ⟨bi, _, ty, rfl, w6, ho, ⟨hsz, hn⟩, by simp [Value.oneCell'], _, _, rfl, ⟨bm, rfl, rfl⟩, _, _, rfl, ⟨rfl, rfl⟩, _, _, rfl, ⟨rfl, rfl⟩, _, _, rfl, ⟨rfl, rfl⟩, rfl⟩
    ·obtain rfl : id = 1 := by omega
     obtain rfl : some bm = bo := by simpa using h
     exact ⟨bm, es', ck', rfl, w7, RelM.mono hle _ _ w8, w9⟩ }
end Go.Proofs.Ytndacaemcakmkaa

namespace Go.Proofs.Ytndacaemcakmkaa
set_option linter.unusedSimpArgs false
set_option linter.unusedVariables false
set_option maxRecDepth 100000
set_option maxHeartbeats 8000000
open Go Go.VA Go.RowKit
/-! ### the example, and the law -/
abbrev nF : ByteArray := .mk #[102]
abbrev nilC : C := .v (.slice none 0 0)
abbrev mpF (x z : C) : List (Value × AV) := [(.string nF, fl x z)]
theorem wF : wordB nF = true := by decide
theorem fnd0 : mFnd nF [] (fl nilC nilC, false) := ⟨Le.refl _, rfl⟩
theorem fndF (x z : C) : mFnd nF (mpF x z) (fl x z, true) := ⟨Le.refl _, rfl⟩
theorem isb3 : isBytes 3 fAll := isB [97, 98, 99] rfl (fun i hi => by
 match i, hi with
 | 0, _ => rfl
 | 1, _ => rfl
 | 2, _ => rfl)
theorem gWriteA : GCall Try.prog gl 9 [dskB 0 false 0, .mp []] [.ptr 0 0, .c (.v (.string nF)), .c (.sl true 1 2 (fun j => fAb (0 + j)))] [dskB 0 false 1, .mp (mpF (.sl false 1 2 fAb) nilC)] [intA .i64 0] := by
 simp only [Nat.zero_add]
 exact gWrite 0 0 0 1 false false nF wF [] rfl nilC nilC false fnd0 true 2 fAb (by decide) (gBurnP0 nF 2 fAb false 0 [])
theorem gSyncA : GCall Try.prog gl 10 [dskB 0 false 1, .mp (mpF (.sl false 1 2 fAb) nilC)] [.ptr 0 0, .c (.v (.string nF))] [dskB 0 false 2, .mp (mpF (.sl false 1 2 fAb) (.sl false 1 2 fAb))] [intA .i64 0] :=
 gSync 0 0 1 2 false nF wF (mpF (.sl false 1 2 fAb) nilC) rfl (.sl false 1 2 fAb) nilC (fndF _ _) (gBurnS0 nF false 1 _)
theorem gAppendA : GCall Try.prog gl 15 [dskB 0 false 2, .mp (mpF (.sl false 1 2 fAb) (.sl false 1 2 fAb))] [.ptr 0 0, .c (.v (.string nF)), .c (.sl true 1 2 (fun j => fCd (0 + j)))] [dskB 0 false 3, .mp (mpF (.sl false 1 4 fAll) (.sl false 1 2 fAb))] [intA .i64 0] := by
 simp only [Nat.zero_add]
 exact gAppend 0 0 2 3 false false nF wF (mpF (.sl false 1 2 fAb) (.sl false 1 2 fAb)) rfl 2 fAb (.sl false 1 2 fAb) (fndF _ _) true 2 fCd (by decide) (by decide) (gBurnP0 nF 4 fAll false 2 _)
theorem gBootA : GCall Try.prog gl 14 [dskB 0 false 3, .mp (mpF (.sl false 1 4 fAll) (.sl false 1 2 fAb))] [.ptr 0 0, intA .i64 1] [dskB 0 false 3, .mp (mpF (.sl false 1 3 fAll) (.sl false 1 3 fAll))] [] :=
 gBoot [(nF, .sl false 1 4 fAll, .sl false 1 2 fAb, .sl false 1 3 fAll)] ⟨by simp, fun e he => by simp at he; subst he; decide, by decide, fun e he => by simp at he; subst he; exact ⟨rfl, rfl, rfl⟩⟩ 0 3 1 false (fun e he => by
  simp at he; subst he
  exact .inr ⟨aEqB false false 4 2 fAll fAb isbAll isbAb false (by rw [ByteArray.toList_eq, ByteArray.toList_eq]; rfl), tornA⟩)
theorem gReadA : GCall Try.prog gl 12 [dskB 0 false 3, .mp (mpF (.sl false 1 3 fAll) (.sl false 1 3 fAll))] [.ptr 0 0, .c (.v (.string nF))] [dskB 0 false 3, .mp (mpF (.sl false 1 3 fAll) (.sl false 1 3 fAll))] [.c (.sl false 1 3 fAll), intA .i64 0] :=
 gRead 0 3 false nF _ rfl 3 fAll (.sl false 1 3 fAll) (fndF _ _)
theorem ntAb (i : Nat) (hi : i < 2) : NtCs (fAb i) := by
 match i, hi with
 | 0, _ => exact ⟨trivial, trivial⟩
 | 1, _ => exact ⟨trivial, trivial⟩
theorem ntAll (i : Nat) (hi : i < 4) : NtCs (fAll i) := by
 match i, hi with
 | 0, _ => exact ⟨trivial, trivial⟩
 | 1, _ => exact ⟨trivial, trivial⟩
 | 2, _ => exact ⟨trivial, trivial⟩
 | 3, _ => exact ⟨trivial, trivial⟩
theorem ntW : ∀ p ∈ mpF (.sl false 1 2 fAb) nilC, ntA p.2 := fun p hp => by
 simp only [List.mem_singleton] at hp
 subst hp
 exact ⟨⟨rfl, ntAb⟩, trivial, trivial⟩
theorem ntP : ∀ p ∈ mpF (.sl false 1 4 fAll) (.sl false 1 2 fAb), ntA p.2 := fun p hp => by
 simp only [List.mem_singleton] at hp
 subst hp
 exact ⟨⟨rfl, ntAll⟩, ⟨rfl, ntAb⟩, trivial⟩
theorem aAwake : ACall Try.prog gl 7 [] [] (boolA true) := by
 refine acall_of_vc htb hmix (f := 7) rfl rfl rfl (by kernel_rfl) rfl rfl ?_; conv => whnf
 repeat' (first | ((with_reducible refine OwnOr.r (A := OwnOr (frzPs _ _ _ (fun _ _ => opBuildSlice _ _ 2 _ _)) _) ?_); (conv => whnf)) | (refine And.intro ?_ ?_; (focus (first | (refine chainI ?_; (first | (first | exact isb3 | fail) | fail)) | fail)); conv => whnf) | ((with_reducible refine xc_guard ?_); (first | (refine xc_g (gNew) false (by first | (((conv => whnf); repeat' (first | exact trivial | exact rfl | ((with_reducible refine And.intro ?_ ?_) <;> conv => whnf))); done) | fail) trivial ?_) | fail); conv => whnf) | ((with_reducible refine xc_guard ?_); (first | (refine xc_g (gWriteA) true (by first | (((conv => whnf); repeat' (first | exact trivial | exact rfl | exact LeC.refl _ | ((with_reducible refine And.intro ?_ ?_) <;> conv => whnf))); done) | fail) (by first | (((conv => whnf); repeat' (first | exact trivial | (first | exact ntW | fail) | ((with_reducible refine And.intro ?_ ?_) <;> conv => whnf))); done) | fail) ?_)); conv => whnf) | ((with_reducible refine xc_guard ?_); (first | (refine xc_g (gSyncA) false (by first | (((conv => whnf); repeat' (first | exact trivial | exact rfl | exact LeC.refl _ | (first | exact Le.refl _) | ((with_reducible refine And.intro ?_ ?_) <;> conv => whnf))); done) | fail) trivial ?_) | fail); conv => whnf) | ((with_reducible refine xc_guard ?_); (first | (refine xc_g (gAppendA) true (by first | (((conv => whnf); repeat' (first | exact trivial | exact rfl | exact LeC.refl _ | (first | exact Le.refl _) | ((with_reducible refine And.intro ?_ ?_) <;> conv => whnf))); done) | fail) (by first | (((conv => whnf); repeat' (first | exact trivial | (first | exact ntP) | ((with_reducible refine And.intro ?_ ?_) <;> conv => whnf))); done) | fail) ?_)); conv => whnf) | ((with_reducible refine xc_guard ?_); (first | (refine xc_g (gBootA) false (by first | (((conv => whnf); repeat' (first | exact trivial | exact rfl | exact LeC.refl _ | (first | exact Le.refl _) | ((with_reducible refine And.intro ?_ ?_) <;> conv => whnf))); done) | fail) trivial ?_) | fail); conv => whnf) | ((with_reducible refine xc_guard ?_); (first | (refine xc_g (gReadA) false (by first | (((conv => whnf); repeat' (first | exact trivial | exact rfl | exact LeC.refl _ | (first | exact Le.refl _) | ((with_reducible refine And.intro ?_ ?_) <;> conv => whnf))); done) | fail) trivial ?_) | fail); conv => whnf) | fail)
 exact Go.VA.leB (by rw [ByteArray.toList_eq, ByteArray.toList_eq]; rfl)
end Go.Proofs.Ytndacaemcakmkaa
