/- An executor of the model over symbolic values, and the proof that what it shows of a function holds of every call: no condition. -/
import Derived.Test.YtndacaemcakmkaaVC
import Derived.Laws.Strings
import Derived.ProofKit
import Derived.SizedLaws
import Derived.LaidMore
import Derived.OpenShut
import Derived.MakeChecks
import Derived.Stop.Joined
set_option linter.unusedSimpArgs false
set_option linter.unusedVariables false
set_option linter.unusedSectionVars false
set_option linter.unnecessarySimpa false
namespace Go.VA
open Go Go.RowKit

/-! ### Such a call, in the midst of what is known -/

mutual
def renG (sel : List Nat) : AV → AV
 | .ptr i o => .ptr (nthD sel i) o
 | .pe i e k j => .pe (nthD sel i) e k j
 | .own i e o l => .own (nthD sel i) e o l
 | .mpv i => .mpv (nthD sel i)
 | .agx xs => .agx (renGs sel xs)
 | .tup xs => .tup (renGs sel xs)
 | .fn f xs ys => .fn f (renGs sel xs) (renGs sel ys)
 | .gd .. => .any
 | .any => .any
 | .c x => .c x
 | .ag xs => .ag xs
 | .sp t xs k => .sp t xs k
 | .ub p => .ub p
def renGs (sel : List Nat) : List AV → List AV
 | [] => []
 | x :: r => renG sel x :: renGs sel r
end
def renGO (sel : List Nat) : AO → AO
 | .box xs => .box (renGs sel xs)
 | x => x
theorem renG_ret (sel : List Nat) (res : List AV) : renG sel (retA res) = retA (renGs sel res) := by
 match res with
 | [] => rfl
 | [x] => rfl
 | x :: y :: r => simp [retA, renG, renGs]

mutual
/-- nothing of it lies in data that stays only while this call runs -/
def NtC : C → Prop
 | .v _ => True
 | .emp => True
 | .sl t _ n f => t = false ∧ ∀ i, i < n → NtCs (f i)
def NtCs : List C → Prop
 | [] => True
 | x :: r => NtC x ∧ NtCs r
end
mutual
def ntA : AV → Prop
 | .c x => NtC x
 | .ag xs => NtCs xs
 | .agx xs => ntAs xs
 | .tup xs => ntAs xs
 | .own .. => True
 | .ptr .. => True
 | .pe .. => True
 | .mpv .. => True
 | .any => True
 | .ub .. => True
 | .gd .. => True
 | .sp .. => False
 | .fn .. => False
def ntAs : List AV → Prop
 | [] => True
 | x :: r => ntA x ∧ ntAs r
end
def ntO : AO → Prop
 | .box xs => ntAs xs
 | .row _ n f => ∀ i, i < n → NtCs (f i)
 | .mp m => ∀ p ∈ m, ntA p.2
 | _ => True
def ntL : List AO → Prop
 | [] => True
 | x :: r => ntO x ∧ ntL r
theorem ntL_get : ∀ {l : List AO} (i : Nat), ntL l → ntO (getO l i)
 | [], i, _ => by simp [getO, ntO]
 | x :: r, 0, h => h.1
 | x :: r, i + 1, h => ntL_get (l := r) i h.2

section
variable {S S' : Rd} (hF : ∀ b o v, S false b o v → S' false b o v)
include hF
mutual
theorem NtC.rep : ∀ (x : C) (u : Value), NtC x → RepC S x u → RepC S' x u
 | .v _, _, _, h => by simpa [RepC] using h
 | .emp, _, _, h => by simpa [RepC] using h
 | .sl t esz n f, u, hn, h => by
  simp only [NtC] at hn
  obtain ⟨rfl, hn⟩ := hn
  simp only [RepC] at h ⊢
  obtain ⟨a, cap, hu, hc, h1⟩ := h
  refine ⟨a, cap, hu, hc, ?_⟩
  rcases h1 with h1 | ⟨b, o, ha, h1⟩
  ·exact .inl h1
  ·exact .inr ⟨b, o, ha, fun i hi => ⟨(h1 i hi).1, NtCs.reps (R := S false b) (R' := S' false b) (hF b) (f i) _ (hn i hi) (h1 i hi).2⟩⟩
theorem NtCs.reps {R R' : Nat → Value → Prop} (hR : ∀ o u, R o u → R' o u) : ∀ (xs : List C) (o : Nat), NtCs xs → RepCs S R o xs → RepCs S' R' o xs
 | [], _, _, _ => by simp [RepCs]
 | x :: xs, o, hn, h => by
  simp only [NtCs] at hn
  simp only [RepCs] at h ⊢
  obtain ⟨⟨u, h1, h2⟩, h3⟩ := h
  exact ⟨⟨u, hR o u h1, NtC.rep x u hn.1 h2⟩, NtCs.reps hR xs _ hn.2 h3⟩
end
theorem NtCs.vs : ∀ (xs : List C) (us : List Value), NtCs xs → RepVs S xs us → RepVs S' xs us
 | [], _, _, h => by simpa [RepVs] using h
 | x :: xs, us, hn, h => by
  simp only [NtCs] at hn
  simp only [RepVs] at h ⊢
  obtain ⟨u, r, h1, h2, h3⟩ := h
  exact ⟨u, r, h1, NtC.rep hF x u hn.1 h2, NtCs.vs xs r hn.2 h3⟩
end

section
variable {B B' : List (Option BI)} {S S' : Rd} {sel : List Nat} (hF : ∀ b o v, S false b o v → S' false b o v) (hB : ∀ (i : Nat) (x : BI), B[i]? = some (some x) → B'[nthD sel i]? = some (some x)) (hB0 : ∀ (i : Nat) (x : Option BI), B[i]? = some x → B'[nthD sel i]? = some x)
include hF hB hB0
mutual
theorem renG_rel : ∀ (x : AV) (u : Value), (S.le S' ∨ ntA x) → RelV B S x u → RelV B' S' (renG sel x) u
 | .any, u, _, _ => by simp [renG, RelV]
 | .c x, u, hc, h => by
  simp only [renG, RelV] at h ⊢
  rcases hc with hc | hc
  ·exact RepC.mono hc _ _ h
  ·exact NtC.rep hF _ _ hc h
 | .ag xs, u, hc, h => by
  simp only [renG, RelV] at h ⊢
  obtain ⟨arr, e, h⟩ := h
  rcases hc with hc | hc
  ·exact ⟨arr, e, RepVs.mono hc _ _ h⟩
  ·exact ⟨arr, e, NtCs.vs hF _ _ hc h⟩
 | .agx xs, u, hc, h => by
  simp only [renG, RelV] at h ⊢
  obtain ⟨arr, e, h0, h⟩ := h
  exact ⟨arr, e, h0, renGs_rel xs _ (by simpa only [ntA] using hc) h⟩
 | .tup xs, u, hc, h => by
  simp only [renG, RelV] at h ⊢
  obtain ⟨arr, e, h⟩ := h
  exact ⟨arr, e, renGs_rel xs _ (by simpa only [ntA] using hc) h⟩
 | .ptr i o, u, _, h => by
  simp only [renG, RelV] at h ⊢
  obtain ⟨bi, h1, h2⟩ := h
  exact ⟨bi, hB i _ h1, h2⟩
 | .pe i e k j, u, _, h => by
  simp only [renG, RelV] at h ⊢
  obtain ⟨bi, h1, h2⟩ := h
  exact ⟨bi, hB i _ h1, h2⟩
 | .mpv i, u, _, h => by
  simp only [renG, RelV] at h ⊢
  obtain ⟨bi, h1, h2⟩ := h
  exact ⟨bi, hB i _ h1, h2⟩
 | .own i e o l, u, _, h => by
  simp only [renG, RelV] at h ⊢
  rcases h with ⟨bi, cap, h1, h2⟩ | ⟨h1, h2, bo, h3⟩
  ·exact .inl ⟨bi, cap, hB i _ h1, h2⟩
  ·exact .inr ⟨h1, h2, bo, hB0 i _ h3.1, h3.2⟩
 | .sp t xs k, u, hc, h => by
  rcases hc with hc | hc
  ·simp only [renG, RelV] at h ⊢
   obtain ⟨b, o, e, h⟩ := h
   exact ⟨b, o, e, RepCs.mono hc (hc t b) _ _ h⟩
  ·simp [ntA] at hc
 | .fn f xs ys, u, hc, h => by
  rcases hc with hc | hc
  ·simp only [renG, RelV] at h ⊢
   obtain ⟨a1, a2, e, h1, h2⟩ := h
   exact ⟨a1, a2, e, renGs_rel xs _ (.inl hc) h1, renGs_rel ys _ (.inl hc) h2⟩
  ·simp [ntA] at hc
 | .gd .., u, _, _ => by simp [renG, RelV]
 | .ub p, u, _, h => by simpa only [renG, RelV] using h
theorem renGs_rel : ∀ (xs : List AV) (us : List Value), (S.le S' ∨ ntAs xs) → RelVs B S xs us → RelVs B' S' (renGs sel xs) us
 | [], us, _, h => by simpa [renGs, RelVs] using h
 | x :: xs, us, hc, h => by
  simp only [renGs, RelVs] at h ⊢
  obtain ⟨u, r, e, h1, h2⟩ := h
  have hc1 : S.le S' ∨ ntA x := hc.imp id fun h => by simp only [ntAs] at h; exact h.1
  have hc2 : S.le S' ∨ ntAs xs := hc.imp id fun h => by simp only [ntAs] at h; exact h.2
  exact ⟨u, r, e, renG_rel x u hc1 h1, renGs_rel xs r hc2 h2⟩
end
theorem RelM_nt : ∀ {m : List (Value × AV)} {es : List MapEntry}, (∀ p ∈ m, ntA p.2) → RelM S m es → RelM S' m es
 | [], es, _, h => by simpa [RelM] using h
 | x :: xs, es, hn, h => by
  simp only [RelM] at h ⊢
  obtain ⟨e, r, h1, h2, h3, h4⟩ := h
  refine ⟨e, r, h1, h2, ?_, RelM_nt (fun p hp => hn p (by simp [hp])) h4⟩
  have key : ∀ (x : AV) (u : Value), ntA x → RelV [] S x u → RelV [] S' x u := by
   have all : (∀ (x : AV) (u : Value), ntA x → RelV [] S x u → RelV [] S' x u) := by
    intro x
    refine AV.rec (motive_1 := fun x => ∀ u, ntA x → RelV [] S x u → RelV [] S' x u) (motive_2 := fun xs => ∀ us, ntAs xs → RelVs [] S xs us → RelVs [] S' xs us) ?_ ?_ ?_ ?_ ?_ ?_ ?_ ?_ ?_ ?_ ?_ ?_ ?_ ?_ ?_ x
    ·intro u _ _; simp [RelV]
    ·intro x u hn h; simp only [RelV] at h ⊢; exact NtC.rep hF _ _ hn h
    ·intro xs u hn h; simp only [RelV] at h ⊢; obtain ⟨arr, e, h⟩ := h; exact ⟨arr, e, NtCs.vs hF _ _ hn h⟩
    ·intro xs ih u hn h; simp only [RelV] at h ⊢; obtain ⟨arr, e, h0, h⟩ := h; exact ⟨arr, e, h0, ih _ hn h⟩
    ·intro i o u _ h; simpa [RelV] using h
    ·intro i e k j u _ h; simpa [RelV] using h
    ·intro t xs k u hn _; simp [ntA] at hn
    ·intro i e o l u _ h; simpa [RelV] using h
    ·intro xs ih u hn h; simp only [RelV] at h ⊢; obtain ⟨arr, e, h⟩ := h; exact ⟨arr, e, ih _ hn h⟩
    ·intro f a b _ _ u hn _; simp [ntA] at hn
    ·intro s w x _ u _ _; simp [RelV]
    ·intro i u _ h; simpa [RelV] using h
    ·intro p u _ h; simpa only [RelV] using h
    ·intro us _ h; simpa [RelVs] using h
    ·intro x xs ih1 ih2 us hn h
     simp only [ntAs] at hn
     simp only [RelVs] at h ⊢
     obtain ⟨u, r, e, h1, h2⟩ := h
     exact ⟨u, r, e, ih1 u hn.1 h1, ih2 r hn.2 h2⟩
   exact all
  exact key _ _ (hn x (by simp)) h3
theorem renGO_rel {w : World} : ∀ (x : AO) (bo : Option BI), x.live = true → (S.le S' ∨ ntO x) → RelO B S w x bo → RelO B' S' w (renGO sel x) bo
 | .box xs, bo, _, hc, h => by
  obtain ⟨bi, cs, ty, e, h1, h2, h3, h4, h5⟩ := h
  exact ⟨bi, cs, ty, e, h1, h2, h3, h4, renGs_rel hF hB hB0 xs _ hc h5⟩
 | .row e n f, none, _, _, h => h
 | .row e n f, some bi, _, hc, h => by
  obtain ⟨h0, cs, ty, h1, h2, h3, h4⟩ := h
  refine ⟨h0, cs, ty, h1, h2, h3, fun i hi => ⟨(h4 i hi).1, ?_⟩⟩
  rcases hc with hc | hc
  ·exact RepCs.mono hc (fun _ _ x => x) _ _ (h4 i hi).2
  ·exact NtCs.reps hF (fun _ _ x => x) _ _ (hc i hi) (h4 i hi).2
 | .mp m, bo, _, hc, h => by
  obtain ⟨bi, es, clock, e, h1, h2, h3⟩ := h
  refine ⟨bi, es, clock, e, h1, ?_, h3⟩
  rcases hc with hc | hc
  ·exact RelM.mono hc _ _ h2
  ·exact RelM_nt hF hB hB0 hc h2
 | .frz .., _, hl, _, _ => by simp [AO.live] at hl
 | .amb .., _, hl, _, _ => by simp [AO.live] at hl
 | .dead, _, hl, _, _ => by simp [AO.live] at hl
end

theorem renGO_live (sel : List Nat) (x : AO) : (renGO sel x).live = x.live ∧ (renGO sel x).kd = x.kd := by cases x <;> exact ⟨rfl, rfl⟩

/-! rows that were handed on: what was known of them is forgotten -/
def purgeEs : List Nat → List AO → Env → Env
 | s :: r, y :: pr, env => match Nat.beq y.kd 3 with | true => purgeEs r pr (purgeE s env) | false => purgeEs r pr env
 | _, _, env => env
def purgeLs : List Nat → List AO → List AO → List AO
 | s :: r, y :: pr, L => match Nat.beq y.kd 3 with | true => purgeLs r pr (purgeL s L) | false => purgeLs r pr L
 | _, _, L => L
def purgeOs : List Nat → List AO → AO → AO
 | s :: r, y :: pr, x => match Nat.beq y.kd 3 with | true => purgeOs r pr (purgeO s x) | false => purgeOs r pr x
 | _, _, x => x
def setB : List Nat → List AO → List (Option BI) → List (Option BI) → List (Option BI)
 | s :: r, y :: pr, b :: bs, B => match Nat.beq y.kd 3 with | true => setB r pr bs (B.set s b) | false => setB r pr bs B
 | _, _, _, B => B
theorem purgeEs_keys : ∀ (sel : List Nat) (pre : List AO) (env : Env), keysE (purgeEs sel pre env) = keysE env
 | [], _, _ => by simp [purgeEs]
 | _ :: _, [], _ => by simp [purgeEs]
 | s :: r, y :: pr, env => by
  simp only [purgeEs]
  split
  ·rw [purgeEs_keys r pr, purgeE_keys]
  ·rw [purgeEs_keys r pr]
theorem purgeLs_length : ∀ (sel : List Nat) (pre L : List AO), (purgeLs sel pre L).length = L.length
 | [], _, _ => by simp [purgeLs]
 | _ :: _, [], _ => by simp [purgeLs]
 | s :: r, y :: pr, L => by
  simp only [purgeLs]
  split
  ·rw [purgeLs_length r pr, purgeL_length]
  ·rw [purgeLs_length r pr]
theorem purgeLs_get : ∀ (sel : List Nat) (pre L : List AO) (j : Nat), getO (purgeLs sel pre L) j = purgeOs sel pre (getO L j)
 | [], _, _, _ => by simp [purgeLs, purgeOs]
 | _ :: _, [], _, _ => by simp [purgeLs, purgeOs]
 | s :: r, y :: pr, L, j => by
  simp only [purgeLs, purgeOs]
  split
  ·rw [purgeLs_get r pr, purgeL_get]
  ·rw [purgeLs_get r pr]
theorem purgeOs_live : ∀ (sel : List Nat) (pre : List AO) (x : AO), (purgeOs sel pre x).live = x.live ∧ (purgeOs sel pre x).kd = x.kd
 | [], _, _ => by simp [purgeOs]
 | _ :: _, [], _ => by simp [purgeOs]
 | s :: r, y :: pr, x => by
  simp only [purgeOs]
  split
  ·have := purgeOs_live r pr (purgeO s x)
   rw [this.1, this.2, purgeO_live, purgeO_kd]; exact ⟨rfl, rfl⟩
  ·exact purgeOs_live r pr x
theorem setB_length : ∀ (sel : List Nat) (pre : List AO) (bs B : List (Option BI)), (setB sel pre bs B).length = B.length
 | [], _, _, _ => by simp [setB]
 | _ :: _, [], _, _ => by simp [setB]
 | _ :: _, _ :: _, [], _ => by simp [setB]
 | s :: r, y :: pr, b :: bs, B => by
  simp only [setB]
  split
  ·rw [setB_length r pr bs, List.length_set]
  ·rw [setB_length r pr bs]
theorem purgeEs_rel {S S' : Rd} {a : Act} (hS : S.le S') : ∀ (sel : List Nat) (pre : List AO) (bs B : List (Option BI)) (env : Env) (t : Nat), pre.length ≤ bs.length →
  RelSl B S a (get env t) (a.tmps.getD t undef) → RelSl (setB sel pre bs B) S' a (get (purgeEs sel pre env) t) (a.tmps.getD t undef) := by
 have base : ∀ (B : List (Option BI)) (x : AV) (u : Value), RelSl B S a x u → RelSl B S' a x u := by
  intro B x u h
  cases x <;> simp only [RelSl] at h ⊢ <;> first | exact RelV.mono (Ble.refl B) hS _ _ h | exact ⟨fun e => RelV.mono (Ble.refl B) hS _ _ (h.1 e), h.2⟩
 intro sel
 induction sel with
 | nil => intro pre bs B env t _ h; simp only [setB, purgeEs]; exact base _ _ _ h
 | cons s r ih =>
  intro pre bs B env t hl h
  cases pre with
  | nil => simp only [setB, purgeEs]; exact base _ _ _ h
  | cons y pr =>
   cases bs with
   | nil => simp at hl
   | cons b bs =>
    simp only [setB, purgeEs]
    split
    ·exact ih pr bs _ _ t (by simpa using hl) (purgeE_rel (Rd.le_refl S) env t h)
    ·exact ih pr bs _ _ t (by simpa using hl) h
theorem purgeOs_rel {S : Rd} {w : World} : ∀ (sel : List Nat) (pre : List AO) (bs B : List (Option BI)) (x : AO) (bo : Option BI), pre.length ≤ bs.length →
  RelO B S w x bo → RelO (setB sel pre bs B) S w (purgeOs sel pre x) bo
 | [], _, _, _, _, _, _, h => by simpa [setB, purgeOs] using h
 | _ :: _, [], _, _, _, _, _, h => by simpa [setB, purgeOs] using h
 | _ :: _, _ :: _, [], _, _, _, hl, _ => by simp at hl
 | s :: r, y :: pr, b :: bs, B, x, bo, hl, h => by
  simp only [setB, purgeOs]
  split
  ·exact purgeOs_rel r pr bs _ _ bo (by simpa using hl) (purgeO_rel _ _ h)
  ·exact purgeOs_rel r pr bs _ _ bo (by simpa using hl) h

/-- no number twice -/
def DN (l : List Nat) : Prop := ∀ (i j : Nat) x, i ≠ j → l[i]? = some x → l[j]? = some x → False
theorem DN.tail {s : Nat} {r : List Nat} (h : DN (s :: r)) : s ∉ r ∧ DN r :=
 ⟨fun hm => by obtain ⟨i, hi, e⟩ := List.mem_iff_getElem.1 hm; exact h 0 (i + 1) s (by omega) rfl (by simp [List.getElem?_eq_getElem hi, e]), fun i j x hij hi hj => h (i + 1) (j + 1) x (by omega) (by simpa using hi) (by simpa using hj)⟩
theorem setB_get : ∀ (sel : List Nat) (pre : List AO) (bs B : List (Option BI)), (∀ s ∈ sel, s < B.length) → DN sel → sel.length = pre.length → pre.length ≤ bs.length →
  (∀ j, j ∉ sel → (setB sel pre bs B)[j]? = B[j]?) ∧ ∀ (i j : Nat), sel[i]? = some j → ((getO pre i).kd = 3 → (setB sel pre bs B)[j]? = bs[i]?) ∧ ((getO pre i).kd ≠ 3 → (setB sel pre bs B)[j]? = B[j]?)
 | [], pre, bs, B, _, _, _, _ => ⟨fun j _ => by simp [setB], fun i j h => by simp at h⟩
 | _ :: _, [], _, _, _, _, h, _ => by simp at h
 | _ :: _, _ :: _, [], _, _, _, _, h => by simp at h
 | s :: r, y :: pr, b :: bs, B, hlt, hd, hl, hl2 => by
  obtain ⟨hs, hd'⟩ := hd.tail
  have hsl := hlt s (by simp)
  simp only [setB]
  split
  ·rename_i hk
   have hk := Nat.beq_spec hk
   obtain ⟨k1, k2⟩ := setB_get r pr bs (B.set s b) (fun x hx => by rw [List.length_set]; exact hlt x (by simp [hx])) hd' (by simpa using hl) (by simpa using hl2)
   refine ⟨fun j hj => ?_, fun i j hi => ?_⟩
   ·simp only [List.mem_cons, not_or] at hj
    rw [k1 j hj.2, List.getElem?_set_ne (fun e => hj.1 e.symm)]
   ·cases i with
    | zero =>
     simp only [List.getElem?_cons_zero, Option.some.injEq] at hi
     subst hi
     refine ⟨fun _ => by rw [k1 s hs, List.getElem?_set_self hsl]; rfl, fun h => absurd hk h⟩
    | succ i =>
     have hi' : r[i]? = some j := by simpa using hi
     have := k2 i j hi'
     refine ⟨fun h => by rw [this.1 h]; rfl, fun h => ?_⟩
     rw [this.2 h, List.getElem?_set_ne (fun (e : s = j) => hs (by rw [e]; exact List.mem_of_getElem? hi'))]
  ·rename_i hk
   have hk : y.kd ≠ 3 := fun e => by rw [e] at hk; simp at hk
   obtain ⟨k1, k2⟩ := setB_get r pr bs B (fun x hx => hlt x (by simp [hx])) hd' (by simpa using hl) (by simpa using hl2)
   refine ⟨fun j hj => ?_, fun i j hi => ?_⟩
   ·simp only [List.mem_cons, not_or] at hj
    exact k1 j hj.2
   ·cases i with
    | zero =>
     simp only [List.getElem?_cons_zero, Option.some.injEq] at hi
     subst hi
     exact ⟨fun h => absurd h hk, fun _ => k1 s hs⟩
    | succ i =>
     have hi' : r[i]? = some j := by simpa using hi
     exact k2 i j hi'

def putG (selF : List Nat) : List Nat → List AO → List AO → List AO
 | s :: r, y :: pr, L => putG selF r pr (setO L s (renGO selF y))
 | _, _, L => L
theorem putG_length (selF : List Nat) : ∀ (sel : List Nat) (post L : List AO), (putG selF sel post L).length = L.length
 | [], _, _ => by simp [putG]
 | _ :: _, [], _ => by simp [putG]
 | s :: r, y :: pr, L => by simp only [putG]; rw [putG_length selF r pr, setO_length]
theorem getO_putG (selF : List Nat) : ∀ (sel : List Nat) (post L : List AO), (∀ s ∈ sel, s < L.length) → DN sel → sel.length = post.length →
  (∀ j, j ∉ sel → getO (putG selF sel post L) j = getO L j) ∧ ∀ (i j : Nat), sel[i]? = some j → getO (putG selF sel post L) j = renGO selF (getO post i)
 | [], post, L, _, _, _ => ⟨fun j _ => by simp [putG], fun i j h => by simp at h⟩
 | _ :: _, [], _, _, _, h => by simp at h
 | s :: r, y :: pr, L, hlt, hd, hl => by
  obtain ⟨hs, hd'⟩ := hd.tail
  have hsl := hlt s (by simp)
  obtain ⟨k1, k2⟩ := getO_putG selF r pr (setO L s (renGO selF y)) (fun x hx => by rw [setO_length]; exact hlt x (by simp [hx])) hd' (by simpa using hl)
  simp only [putG]
  refine ⟨fun j hj => ?_, fun i j hi => ?_⟩
  ·simp only [List.mem_cons, not_or] at hj
   rw [k1 j hj.2, getO_setO L s j _ hsl, if_neg hj.1]
  ·cases i with
   | zero =>
    simp only [List.getElem?_cons_zero, Option.some.injEq] at hi
    subst hi
    rw [k1 s hs, getO_setO L s s _ hsl, if_pos rfl]
    rfl
   | succ i => exact k2 i j (by simpa using hi)

/-- how what is not handed on reads for the one that is called -/
def viewU (ld : Bool) (sel : List Nat) (L : List AO) : Vw := fun id esz off len => match getO L id with
 | .row e _ f => match ld with
  | true => match Nat.beq e esz with
   | true => match memN id sel with
    | false => some (.sl true esz len fun i => f (off + i))
    | true => none
   | false => none
  | false => none
 | .frz e _ f => match Nat.beq e esz with
  | true => some (.sl false esz len fun i => f (off + i))
  | false => none
 | _ => none

theorem viewU_sound {M : Mz} {B : List (Option BI)} {L : List AO} {w : World} {ld : Bool} {sel : List Nat} {S' : Rd} (hrel : RelL M B L w) (hle : (Sr M B L w).le S')
  (hown : ld = true → ∀ (id : Nat) (bi : BI), id ∉ sel → B[id]? = some (some bi) → (getO L id).live = true → ∀ o u, w.cell? ⟨bi.b, o, none⟩ = some u → S' true bi.b o u)
  (id esz off len : Nat) (y : C) (u : Value) (hv : viewU ld sel L id esz off len = some y) (hu : RelV B (Sr M B L w) (.own id esz off len) u) : RepC S' y u := by
 unfold viewU at hv
 have fin : ∀ (t : Bool) (f : Nat → List C), y = .sl t esz len (fun i => f (off + i)) →
   (∀ bi, B[id]? = some (some bi) → ∀ i, i < bi.n → (f i).length = esz ∧ RepCs S' (S' t bi.b) (bi.o + i * esz) (f i)) → RepC S' y u := by
  intro t f hy hf
  subst hy
  simp only [RelV] at hu
  simp only [RepC]
  rcases hu with ⟨bi, cap, hb, rfl, h1, h2, h3⟩ | ⟨rfl, ⟨a, rfl⟩, _⟩
  ·refine ⟨_, cap, rfl, h1, ?_⟩
   by_cases h0 : len = 0
   ·exact .inl h0
   ·refine .inr ⟨bi.b, _, rfl, fun i hi => ?_⟩
    have := hf bi hb (off + i) (by omega)
    refine ⟨this.1, ?_⟩
    rw [show bi.o + off * esz + i * esz = bi.o + (off + i) * esz from by rw [Nat.add_mul]; omega]
    exact this.2
  ·exact ⟨a, 0, rfl, ⟨Nat.le_refl _, Nat.zero_le _⟩, .inl rfl⟩
 split at hv
 ·rename_i e m f hO
  split at hv
  ·split at hv
   ·rename_i he
    obtain rfl := Nat.beq_spec he
    split at hv
    ·rename_i hr
     have hr : id ∉ sel := fun e => by rw [memN_spec.2 e] at hr; simp at hr
     simp only [Option.some.injEq] at hv
     refine fin true f hv.symm fun bi hb i hi => ?_
     have := hrel.obj id _ hb
     rw [hO] at this
     obtain ⟨hn, cs, ty, h1, h2, h3, h4⟩ := this
     have := h4 i (by omega)
     refine ⟨this.1, RepCs.mono hle (fun o u hh => hown rfl id bi hr hb (by rw [hO]; rfl) o u (by simpa [h1.cell] using hh)) _ _ this.2⟩
    ·simp at hv
   ·simp at hv
  ·simp at hv
 ·rename_i e m f hO
  split at hv
  ·rename_i he
   obtain rfl := Nat.beq_spec he
   simp only [Option.some.injEq] at hv
   refine fin false f hv.symm fun bi hb i hi => ?_
   have := hrel.obj id _ hb
   rw [hO] at this
   obtain ⟨hn, h4⟩ := this
   exact ⟨(h4 i (by omega)).1, RepCs.mono hle (fun o u hh => hle _ _ _ _ hh) _ _ (h4 i (by omega)).2⟩
  ·simp at hv
 ·simp at hv
end Go.VA

namespace Go.VA
open Go Go.RowKit

theorem RelO.ble {B B' : List (Option BI)} {S : Rd} {w : World} (hB : Ble B B') {x : AO} {bo : Option BI} (h : RelO B S w x bo) : RelO B' S w x bo := by
 cases x with
 | box xs =>
  obtain ⟨bi, cs, ty, e, h1, h2, h3, h4, h5⟩ := h
  exact ⟨bi, cs, ty, e, h1, h2, h3, h4, RelVs.mono hB (Rd.le_refl S) _ _ h5⟩
 | row e n f => cases bo <;> exact h
 | frz e n f => cases bo <;> exact h
 | mp m => exact h
 | amb vs xs => exact RelVs.mono hB (Rd.le_refl S) _ _ h
 | dead => trivial
theorem RelSl.ble {B B' : List (Option BI)} {S : Rd} {a : Act} (hB : Ble B B') {x : AV} {u : Value} (h : RelSl B S a x u) : RelSl B' S a x u := by
 cases x <;> simp only [RelSl] at h ⊢ <;> first | exact RelV.mono hB (Rd.le_refl S) _ _ h | exact ⟨fun e => RelV.mono hB (Rd.le_refl S) _ _ (h.1 e), h.2⟩
theorem getO_get : ∀ (l : List AO) (j : Nat) (h : j < l.length), l[j]? = some (getO l j)
 | [], j, h => by simp at h
 | x :: r, 0, _ => rfl
 | x :: r, j + 1, h => by simpa [getO] using getO_get r j (by simpa using h)

section
variable {P : Program} {gl : Gl}

theorem xc_g_core {f : Nat} {pre post : List AO} {args' res : List AV} (h : GCall P gl f pre args' post res) (ld : Bool) (sel : List Nat) {ro : Nat} {first cap args : List AV} {env : Env} {L : List AO} {K : AV → Env → List AO → Prop}
  (hd : distN sel = true) (hro' : ∀ s ∈ sel, ro ≤ s) (hsl : sel.length = pre.length) (hpre : GLeL (viewU ld sel L) sel L 0 pre) (hargs : GLes (viewU ld sel L) sel args' (first ++ args ++ cap))
  (hnt : ld = true → ntL post ∧ ntAs res)
  (hK : K (retA (renGs (sel ++ upTo (post.length - pre.length) L.length) res)) (purgeEs sel pre env)
   (putG (sel ++ upTo (post.length - pre.length) L.length) (sel ++ upTo (post.length - pre.length) L.length) post (purgeLs sel pre L ++ List.replicate (post.length - pre.length) .dead))) : XCall P gl ro (.fn f first cap) args env L K := by
 refine ⟨fun X B a w o c fo hgl hro hS ho hc hfr hav => ?_⟩
 subst hro
 simp only [RelV] at hfr
 obtain ⟨a1, a2, hfv, h1, h2⟩ := hfr
 have hL := hS.relL
 have hlen := h.len
 have hvals : RelVs B (Sr X.M B L w) (first ++ args ++ cap) (a1 ++ c.args.map a.eval ++ a2).toList := by
  have := RelVs.append _ _ _ _ (RelVs.append _ _ _ _ h1 hav) h2
  simpa using this
 -- the objects that are handed on
 have sobj : ∀ (i s : Nat), sel[i]? = some s → i < pre.length ∧ GLeO (viewU ld sel L) sel (getO pre i) (getO L s) := by
  intro i s hs
  have hlt : i < pre.length := by rw [← hsl]; exact (List.getElem?_eq_some_iff.1 hs).1
  obtain ⟨s', g1, g2⟩ := GLeL_get hpre i _ (getO_get pre i hlt)
  rw [Nat.zero_add, hs] at g1
  simp only [Option.some.injEq] at g1
  subst g1
  exact ⟨hlt, g2⟩
 have sg : ∀ (s : Nat), s ∈ sel → X.M.ro ≤ s ∧ s < L.length ∧ (getO L s).live = true := by
  intro s hs
  obtain ⟨i, hi, rfl⟩ := List.mem_iff_getElem.1 hs
  have := GLeO_live (sobj i _ (List.getElem?_eq_getElem hi)).2
  exact ⟨hro' _ hs, live_lt this.1, this.1⟩
 have hdn : DN sel := fun i j x hij hi hj => distN_spec hd i j x hij hi hj
 let rest : Bool → Nat → Prop := fun t b => match t with
  | false => X.M.f b ∨ ∃ (id : Nat) (bi : BI), id ∉ sel ∧ B[id]? = some (some bi) ∧ bi.b = b ∧ (getO L id).live = true
  | true => X.M.t b ∨ ∃ (id : Nat) (bi : BI), id ∉ sel ∧ X.M.ro ≤ id ∧ B[id]? = some (some bi) ∧ bi.b = b ∧ (getO L id).live = true
 have hrtf : ∀ b, rest true b → rest false b := by
  rintro b (hb | ⟨id, bi, h0, _, h1⟩)
  ·exact .inl (X.M.le b hb)
  ·exact .inr ⟨id, bi, h0, h1⟩
 let T : Nat → Prop := fun b => match ld with | true => X.M.t b | false => rest true b
 have hT1 : ∀ b, X.M.t b → T b := by intro b hb; cases ld; exact .inl hb; exact hb
 have hT2 : ∀ b, T b → rest true b := by intro b hb; cases ld; exact hb; exact .inl hb
 let M' : Mz := ⟨0, rest false, T, fun b hb => hrtf b (hT2 b hb)⟩
 let B' : List (Option BI) := sel.map fun s => (B[s]?).getD none
 have hB' : ∀ (i s : Nat), sel[i]? = some s → B'[i]? = B[s]? := by
  intro i s hs
  have hlt : s < B.length := by rw [hL.len]; exact (sg s (List.mem_of_getElem? hs)).2.1
  simp only [B', List.getElem?_map, hs, Option.map_some, List.getElem?_eq_getElem hlt, Option.getD_some]
 have hB'l : B'.length = sel.length := by simp [B']
 have hB'i : ∀ (i : Nat) (bo : Option BI), B'[i]? = some bo → ∃ s, sel[i]? = some s ∧ B[s]? = some bo := by
  intro i bo hi
  have hlt : i < sel.length := by have := (List.getElem?_eq_some_iff.1 hi).1; simpa [B'] using this
  exact ⟨sel[i], List.getElem?_eq_getElem hlt, by rw [← hB' i _ (List.getElem?_eq_getElem hlt)]; exact hi⟩
 have hSr : (Sr X.M B L w).le (Sr M' B' pre w) := by
  intro t b q u hh
  refine ⟨fun hm => hh.1 ?_, hh.2⟩
  cases t with
  | false =>
   rcases hm with hm | ⟨i, bi, k1, k2, _⟩
   ·rcases hm with hm | ⟨id, bi, _, k1, k2, k3⟩
    ·exact .inl hm
    ·exact .inr ⟨id, bi, k1, k2, k3⟩
   ·obtain ⟨s, q1, q2⟩ := hB'i i _ k1
    exact .inr ⟨s, bi, q2, k2, (sg s (List.mem_of_getElem? q1)).2.2⟩
  | true =>
   rcases hm with hm | ⟨i, bi, _, k1, k2, _⟩
   ·rcases hT2 b hm with hm | ⟨id, bi, _, k0, k1, k2, k3⟩
    ·exact .inl hm
    ·exact .inr ⟨id, bi, k0, k1, k2, k3⟩
   ·obtain ⟨s, q1, q2⟩ := hB'i i _ k1
    have := sg s (List.mem_of_getElem? q1)
    exact .inr ⟨s, bi, this.1, q2, k2, this.2.2⟩
 have hnM : ∀ (i : Nat) (bi : BI), B'[i]? = some (some bi) → ¬ rest false bi.b := by
  intro i bi hi
  obtain ⟨s, k1, k2⟩ := hB'i i _ hi
  have hs := sg s (List.mem_of_getElem? k1)
  rintro (hm | ⟨id, bi', q0, q1, q2, q3⟩)
  ·exact hL.notM s bi k2 hs.2.2 hm
  ·exact hL.dist id s bi' bi (fun e => q0 (e ▸ List.mem_of_getElem? k1)) q1 k2 q3 hs.2.2 q2
 have hdst : ∀ (i j : Nat) (bi bj : BI), i ≠ j → B'[i]? = some (some bi) → B'[j]? = some (some bj) → bi.b ≠ bj.b := by
  intro i j bi bj hij hi hj
  obtain ⟨s, k1, k2⟩ := hB'i i _ hi
  obtain ⟨s', k3, k4⟩ := hB'i j _ hj
  exact hL.dist s s' bi bj (fun e => hdn i j s hij k1 (e ▸ k3)) k2 k4 (sg s (List.mem_of_getElem? k1)).2.2 (sg s' (List.mem_of_getElem? k3)).2.2
 have hvw := fun i e o l z u => viewU_sound (ld := ld) (sel := sel) (S' := Sr M' B' pre w) hL hSr (fun hld id bi hid hb hl o u hc => ⟨by
  rintro (hm | ⟨j, bi', _, q1, q2, q3⟩)
  ·have : X.M.t bi.b := by subst hld; exact hm
   exact hL.notM id bi hb hl (X.M.le _ this)
  ·obtain ⟨s, g1, g2⟩ := hB'i j _ q1
   exact hL.dist s id bi' bi (fun e => hid (e ▸ List.mem_of_getElem? g1)) g2 hb (sg s (List.mem_of_getElem? g1)).2.2 hl q2, hc⟩) i e o l z u
 have hRel : RelL M' B' pre w := {
  len := by rw [hB'l, hsl]
  bnd := fun i bi hi => by obtain ⟨s, _, k2⟩ := hB'i i _ hi; exact hL.bnd s bi k2
  mbnd := fun b hb => by
   rcases hb with hb | ⟨id, bi, _, k1, k2, _⟩
   ·exact hL.mbnd b hb
   ·rw [← k2]; exact hL.bnd id bi k1
  notM := fun i bi hi _ => hnM i bi hi
  dist := fun i j bi bj hij hi hj _ _ => hdst i j bi bj hij hi hj
  obj := fun i bo hi => by
   obtain ⟨s, k1, k2⟩ := hB'i i _ hi
   exact GLeO_rel hSr hB' hB'l hvw (sobj i s k1).2 (hL.obj s bo k2) }
 have hG : GlOk gl (Sr M' B' pre w) := by rw [← hgl]; exact hS.glob.mono hSr
 have hav' : RelVs B' (Sr M' B' pre w) args' (a1 ++ c.args.map a.eval ++ a2).toList := GLes_rel hSr hB' hB'l hvw _ _ _ hargs hvals
 have hrun := h.run w M' B' (a1 ++ c.args.map a.eval ++ a2) rfl hRel hG hav'
 intro next Q hn
 unfold Oper.wp
 rw [run_enter ho hc hfv h.callable, Oper.upon_enter]
 refine hrun.mono ?_
 rintro e w' ⟨u, B2, rfl, hfrm, hRel', hu, hfresh, hsame⟩
 -- behind it
 generalize hmd : post.length - pre.length = md at hK
 generalize hsf : sel ++ upTo md L.length = selF at hK
 have hsfl : selF.length = post.length := by rw [← hsf, List.length_append, upTo_length]; omega
 have hB2l : B2.length = post.length := hRel'.len
 have sf1 : ∀ (i s : Nat), selF[i]? = some s → (i < pre.length ∧ sel[i]? = some s) ∨ (pre.length ≤ i ∧ i < post.length ∧ s = L.length + (i - pre.length)) := by
  intro i s hs
  have hlt := (List.getElem?_eq_some_iff.1 hs).1
  rw [← hsf] at hs
  by_cases hi : i < sel.length
  ·rw [List.getElem?_append_left hi] at hs
   exact .inl ⟨by omega, hs⟩
  ·rw [List.getElem?_append_right (by omega), upTo_get _ _ _ (by omega)] at hs
   simp only [Option.some.injEq] at hs
   exact .inr ⟨by omega, by omega, by omega⟩
 have sf0 : ∀ (i s : Nat), sel[i]? = some s → selF[i]? = some s := by
  intro i s hs
  rw [← hsf, List.getElem?_append_left (List.getElem?_eq_some_iff.1 hs).1]
  exact hs
 have hdnF : DN selF := by
  intro i j x hij hi hj
  rcases sf1 i x hi with ⟨k1, k2⟩ | ⟨k1, k2, k3⟩ <;> rcases sf1 j x hj with ⟨q1, q2⟩ | ⟨q1, q2, q3⟩
  ·exact hdn i j x hij k2 q2
  ·have := (sg x (List.mem_of_getElem? k2)).2.1; omega
  ·have := (sg x (List.mem_of_getElem? q2)).2.1; omega
  ·omega
 generalize hL1 : purgeLs sel pre L ++ List.replicate md AO.dead = L1 at hK
 have hL1l : L1.length = L.length + md := by rw [← hL1, List.length_append, purgeLs_length, List.length_replicate]
 have hL1g : ∀ j, j < L.length → getO L1 j = purgeOs sel pre (getO L j) := by
  intro j hj
  rw [← hL1, ← purgeLs_get]
  have : ∀ (l r : List AO) (j : Nat), j < l.length → getO (l ++ r) j = getO l j := by
   intro l r
   induction l with
   | nil => intro j h; simp at h
   | cons x l ih =>
    intro j h
    cases j with
    | zero => rfl
    | succ j => simpa [getO] using ih j (by simpa using h)
  exact this _ _ _ (by rw [purgeLs_length]; exact hj)
 have hltF : ∀ s ∈ selF, s < L1.length := by
  intro s hs
  obtain ⟨i, hi, e⟩ := List.mem_iff_getElem.1 hs
  rcases sf1 i s (by rw [List.getElem?_eq_getElem hi, e]) with ⟨_, k2⟩ | ⟨k1, k2, k3⟩
  ·have := (sg s (List.mem_of_getElem? k2)).2.1; omega
  ·omega
 obtain ⟨hp1, hp2⟩ := getO_putG selF selF post L1 hltF hdnF hsfl
 generalize hL2 : putG selF selF post L1 = L2 at hK hp1 hp2
 have hL2l : L2.length = L.length + md := by rw [← hL2, putG_length, hL1l]
 -- the blocks
 let B1 := setB sel pre B2 B
 have hB1l : B1.length = L.length := by rw [setB_length, hL.len]
 let B3 := B1 ++ B2.drop pre.length
 have hB3l : B3.length = L.length + md := by simp only [B3, List.length_append, hB1l, List.length_drop]; omega
 obtain ⟨hb1, hb2⟩ := setB_get sel pre B2 B (fun s hs => by rw [hL.len]; exact (sg s hs).2.1) hdn hsl (by omega)
 have hb3 : ∀ j, j < L.length → j ∉ sel → B3[j]? = B[j]? := by
  intro j hj hjs
  simp only [B3]
  rw [List.getElem?_append_left (by omega)]
  exact hb1 j hjs
 have hb4 : ∀ (i s : Nat), selF[i]? = some s → B3[s]? = B2[i]? := by
  intro i s hs
  rcases sf1 i s hs with ⟨k1, k2⟩ | ⟨k1, k2, k3⟩
  ·have := (sg s (List.mem_of_getElem? k2)).2.1
   simp only [B3]
   rw [List.getElem?_append_left (by omega)]
   by_cases hk : (getO pre i).kd = 3
   ·exact (hb2 i s k2).1 hk
   ·have e1 : B1[s]? = B[s]? := (hb2 i s k2).2 hk
    rw [e1, hsame i k1 (by rw [h.kinds i k1]; exact hk), hB' i s k2]
  ·simp only [B3]
   rw [k3, List.getElem?_append_right (by omega), hB1l, List.getElem?_drop]
   congr 1; omega
 have hcov : ∀ id, id < L.length + md → (id < L.length ∧ id ∉ sel ∧ id ∉ selF) ∨ ∃ i, i < post.length ∧ selF[i]? = some id := by
  intro id hid
  by_cases hs : id ∈ selF
  ·obtain ⟨i, hi, e⟩ := List.mem_iff_getElem.1 hs
   exact .inr ⟨i, by omega, by rw [List.getElem?_eq_getElem hi, e]⟩
  ·have h1 : id ∉ sel := fun hm => hs (by rw [← hsf]; exact List.mem_append_left _ hm)
   refine .inl ⟨?_, h1, hs⟩
   by_cases hlt : id < L.length
   ·exact hlt
   ·exfalso
    refine hs ?_
    have hi : pre.length + (id - L.length) < selF.length := by omega
    rcases sf1 _ _ (List.getElem?_eq_getElem hi) with ⟨k1, _⟩ | ⟨_, _, k3⟩
    ·omega
    ·have : selF[pre.length + (id - L.length)] = id := by omega
     exact this ▸ List.getElem_mem hi
 have hnsel : ∀ id, id ∉ selF → id < L.length → getO L2 id = purgeOs sel pre (getO L id) := fun id hid hlt => by rw [hp1 id hid, hL1g id hlt]
 have hoL : ∀ (i s : Nat), selF[i]? = some s → (getO L2 s).live = true ∧ (getO L2 s).kd = (getO post i).kd := by
  intro i s hs
  have hi : i < post.length := by rw [← hsfl]; exact (List.getElem?_eq_some_iff.1 hs).1
  rw [hp2 i s hs, (renGO_live _ _).1, (renGO_live _ _).2]
  exact ⟨h.liveq i hi, rfl⟩
 have hidlt : ∀ (id : Nat) (bo : Option BI), B3[id]? = some bo → id < L.length + md := fun id bo e => by rw [← hB3l]; exact (List.getElem?_eq_some_iff.1 e).1
 -- what may be written now
 have hmuB : ∀ t b, MU X.M B3 L2 t b → (∃ b0, b0 = b ∧ b < w.heap.size → MU X.M B L t b) ∧ (b < w.heap.size → MU X.M B L t b) := by
  intro t b hm
  have key : b < w.heap.size → MU X.M B L t b := by
   intro hlt
   have fin : ∀ (id : Nat) (bi : BI), (t = true → X.M.ro ≤ id) → B3[id]? = some (some bi) → bi.b = b → (getO L2 id).live = true → MU X.M B L t b := by
    intro id bi g0 g1 g2 g3
    rcases hcov id (hidlt id _ g1) with ⟨k1, k2, k3⟩ | ⟨i, k1, k2⟩
    ·rw [hb3 id k1 k2] at g1
     rw [hnsel id k3 k1, (purgeOs_live _ _ _).1] at g3
     cases t with
     | false => exact .inr ⟨id, bi, g1, g2, g3⟩
     | true => exact .inr ⟨id, bi, g0 rfl, g1, g2, g3⟩
    ·rw [hb4 i id k2] at g1
     rcases hfresh i bi g1 with q1 | ⟨j, bj, q1, q2⟩
     ·omega
     ·obtain ⟨s, r1, r2⟩ := hB'i j _ q1
      have := sg s (List.mem_of_getElem? r1)
      cases t with
      | false => exact .inr ⟨s, bj, r2, q2.trans g2, this.2.2⟩
      | true => exact .inr ⟨s, bj, this.1, r2, q2.trans g2, this.2.2⟩
   cases t with
   | false =>
    rcases hm with hm | ⟨id, bi, g1, g2, g3⟩
    ·exact .inl hm
    ·exact fin id bi (by simp) g1 g2 g3
   | true =>
    rcases hm with hm | ⟨id, bi, g0, g1, g2, g3⟩
    ·exact .inl hm
    ·exact fin id bi (fun _ => g0) g1 g2 g3
  exact ⟨⟨b, fun hb => key hb.2⟩, key⟩
 have hblk : ∀ b, Bl B' b → MU X.M B L true b := by
  rintro b ⟨i, bi, q1, q2⟩
  obtain ⟨s, k1, k2⟩ := hB'i i _ q1
  have := sg s (List.mem_of_getElem? k1)
  exact .inr ⟨s, bi, this.1, k2, q2, this.2.2⟩
 have hle : (Sr X.M B L w).le (Sr X.M B3 L2 w') := by
  intro t b q v hh
  have hlt := block_lt hh.2
  refine ⟨fun hm => hh.1 ((hmuB t b hm).2 hlt), ?_⟩
  rw [World.cell?_of_block (w := w) (hfrm.block b hlt fun hbl => hh.1 (by
   cases t with
   | false => exact MU_le true b (hblk b hbl)
   | true => exact hblk b hbl))]
  exact hh.2
 have hbackF : ∀ b q v, Sr M' B2 post w' false b q v → Sr X.M B3 L2 w' false b q v := by
  rintro b q v hh
  refine ⟨fun hm => hh.1 ?_, hh.2⟩
  rcases hm with hm | ⟨id, bi, g1, g2, g3⟩
  ·exact .inl (.inl hm)
  ·rcases hcov id (hidlt id _ g1) with ⟨k1, k2, k3⟩ | ⟨i, k1, k2⟩
   ·rw [hb3 id k1 k2] at g1
    rw [hnsel id k3 k1, (purgeOs_live _ _ _).1] at g3
    exact .inl (.inr ⟨id, bi, k2, g1, g2, g3⟩)
   ·rw [hb4 i id k2] at g1
    exact .inr ⟨i, bi, g1, g2, h.liveq i k1⟩
 have hback : ld = false → (Sr M' B2 post w').le (Sr X.M B3 L2 w') := by
  intro hld t b q v hh
  cases t with
  | false => exact hbackF b q v hh
  | true =>
   refine ⟨fun hm => hh.1 ?_, hh.2⟩
   rcases hm with hm | ⟨id, bi, g0, g1, g2, g3⟩
   ·exact .inl (hT1 b hm)
   ·rcases hcov id (hidlt id _ g1) with ⟨k1, k2, k3⟩ | ⟨i, k1, k2⟩
    ·rw [hb3 id k1 k2] at g1
     rw [hnsel id k3 k1, (purgeOs_live _ _ _).1] at g3
     refine .inl ?_
     show T b
     subst hld
     exact .inr ⟨id, bi, k2, g0, g1, g2, g3⟩
    ·rw [hb4 i id k2] at g1
     exact .inr ⟨i, bi, Nat.zero_le _, g1, g2, h.liveq i k1⟩
 have hcd : ∀ {p : Prop}, (ld = true → p) → ((Sr M' B2 post w').le (Sr X.M B3 L2 w') ∨ p) := by
  intro p hp
  cases hq : ld with
  | false => exact .inl (hback hq)
  | true => exact .inr (hp hq)
 have hren0 : ∀ (i : Nat) (x : Option BI), B2[i]? = some x → B3[nthD selF i]? = some x := by
  intro i x hx
  have hi : i < selF.length := by rw [hsfl, ← hB2l]; exact (List.getElem?_eq_some_iff.1 hx).1
  rw [nthD_eq (List.getElem?_eq_getElem hi), hb4 i _ (List.getElem?_eq_getElem hi)]
  exact hx
 have hble : Ble B1 B3 := fun id x hx => by
  simp only [B3]
  rw [List.getElem?_append_left (List.getElem?_eq_some_iff.1 hx).1]
  exact hx
 have hS2 : St X B3 (purgeEs sel pre env) L2 a w' := {
  relL := {
   len := by rw [hB3l, hL2l]
   bnd := fun id bi hb => by
    rcases hcov id (hidlt id _ hb) with ⟨k1, k2, k3⟩ | ⟨i, k1, k2⟩
    ·rw [hb3 id k1 k2] at hb
     exact Nat.lt_of_lt_of_le (hL.bnd id bi hb) hfrm.size
    ·rw [hb4 i id k2] at hb
     exact hRel'.bnd i bi hb
   mbnd := fun b hb => Nat.lt_of_lt_of_le (hL.mbnd b hb) hfrm.size
   notM := fun id bi hb hl => by
    rcases hcov id (hidlt id _ hb) with ⟨k1, k2, k3⟩ | ⟨i, k1, k2⟩
    ·rw [hb3 id k1 k2] at hb
     rw [hnsel id k3 k1, (purgeOs_live _ _ _).1] at hl
     exact hL.notM id bi hb hl
    ·rw [hb4 i id k2] at hb
     exact fun hm => hRel'.notM i bi hb (h.liveq i k1) (.inl hm)
   dist := fun id jd bi bj hij hi hj hli hlj => by
    rcases hcov id (hidlt id _ hi) with ⟨k1, k2, k3⟩ | ⟨i, k1, k2⟩ <;> rcases hcov jd (hidlt jd _ hj) with ⟨q1, q2, q3⟩ | ⟨j, q1, q2⟩
    ·rw [hb3 id k1 k2] at hi
     rw [hb3 jd q1 q2] at hj
     rw [hnsel id k3 k1, (purgeOs_live _ _ _).1] at hli
     rw [hnsel jd q3 q1, (purgeOs_live _ _ _).1] at hlj
     exact hL.dist id jd bi bj hij hi hj hli hlj
    ·rw [hb3 id k1 k2] at hi
     rw [hnsel id k3 k1, (purgeOs_live _ _ _).1] at hli
     rw [hb4 j jd q2] at hj
     exact fun e => hRel'.notM j bj hj (h.liveq j q1) (.inr ⟨id, bi, k2, hi, e, hli⟩)
    ·rw [hb4 i id k2] at hi
     rw [hb3 jd q1 q2] at hj
     rw [hnsel jd q3 q1, (purgeOs_live _ _ _).1] at hlj
     exact fun e => hRel'.notM i bi hi (h.liveq i k1) (.inr ⟨jd, bj, q2, hj, e.symm, hlj⟩)
    ·rw [hb4 i id k2] at hi
     rw [hb4 j jd q2] at hj
     exact hRel'.dist i j bi bj (fun e => hij (by subst e; exact Option.some.inj (k2.symm.trans q2))) hi hj (h.liveq i k1) (h.liveq j q1)
   obj := fun id bo hb => by
    rcases hcov id (hidlt id _ hb) with ⟨k1, k2, k3⟩ | ⟨i, k1, k2⟩
    ·rw [hb3 id k1 k2] at hb
     rw [hnsel id k3 k1]
     refine RelO.ble hble (purgeOs_rel sel pre B2 B _ _ (by omega) ?_)
     refine RelO_keep hle _ _ (fun hl b e => ?_) (hL.obj id bo hb)
     subst e
     refine hfrm.block b.b (hL.bnd id b hb) ?_
     rintro ⟨i, bi, h1, h2⟩
     obtain ⟨s, k1, k2'⟩ := hB'i i _ h1
     exact hL.dist s id bi b (fun e => k2 (e ▸ List.mem_of_getElem? k1)) k2' hb (sg s (List.mem_of_getElem? k1)).2.2 hl h2
    ·rw [hb4 i id k2] at hb
     rw [hp2 i id k2]
     exact renGO_rel hbackF (fun i x hx => hren0 i _ hx) hren0 _ _ (h.liveq i k1) (hcd fun hl => ntL_get i (hnt hl).1) (hRel'.obj i bo hb) }
  glob := hS.glob.mono hle
  relE := fun t => RelSl.ble hble (purgeEs_rel hle sel pre B2 B env t (by omega) (hS.relE t))
  below := by
   refine ⟨hfrm.os.trans hS.below.os, hfrm.tape.trans hS.below.tape, hfrm.output.trans hS.below.output, Nat.le_trans hS.below.size hfrm.size, fun k hk hm => ?_⟩
   rw [← hS.below.block k hk hm]
   refine hfrm.block k (Nat.lt_of_lt_of_le hk hS.below.size) ?_
   rintro ⟨i, bi, h1, h2⟩
   obtain ⟨s, k1, k2⟩ := hB'i i _ h1
   have := sg s (List.mem_of_getElem? k1)
   rcases hS.fresh s bi this.1 k2 this.2.2 with h4 | h4
   ·omega
   ·exact hm (h2 ▸ h4)
  fresh := fun id bi h1 hb hl => by
   rcases hcov id (hidlt id _ hb) with ⟨k1, k2, k3⟩ | ⟨i, k1, k2⟩
   ·rw [hb3 id k1 k2] at hb
    rw [hnsel id k3 k1, (purgeOs_live _ _ _).1] at hl
    exact hS.fresh id bi h1 hb hl
   ·rw [hb4 i id k2] at hb
    rcases hfresh i bi hb with q1 | ⟨j, bj, q1, q2⟩
    ·exact .inl (Nat.le_trans hS.below.size q1)
    ·obtain ⟨s, r1, r2⟩ := hB'i j _ q1
     have := sg s (List.mem_of_getElem? r1)
     rw [← q2]
     exact hS.fresh s bj this.1 r2 this.2.2
  old := fun id hid => by
   have hlt : id < L.length := Nat.lt_of_lt_of_le hid hS.rol
   have hns : id ∉ sel := fun hm => by have := hro' id hm; omega
   have hnf : id ∉ selF := fun hm => by
    obtain ⟨i, hi, e⟩ := List.mem_iff_getElem.1 hm
    rcases sf1 i id (by rw [List.getElem?_eq_getElem hi, e]) with ⟨_, k2⟩ | ⟨_, _, k3⟩
    ·exact hns (List.mem_of_getElem? k2)
    ·omega
   rw [hb3 id hlt hns, hnsel id hnf hlt, (purgeOs_live _ _ _).1]
   exact hS.old id hid
  rol := by rw [hL2l]; have := hS.rol; omega
  l0 := by rw [hL2l]; have := hS.l0; omega
  knd := fun id h0 h1 => by
   have hlt : id < L.length := Nat.lt_of_lt_of_le h0 hS.l0
   have hk := hS.knd id h0 hlt
   by_cases hs : id ∈ sel
   ·obtain ⟨i, hi, e⟩ := List.mem_iff_getElem.1 hs
    have hsi : sel[i]? = some id := by rw [List.getElem?_eq_getElem hi, e]
    have hi' : i < pre.length := by omega
    have hkk := (GLeO_live (sobj i id hsi).2).2.2
    rw [(hoL i id (sf0 i id hsi)).2, h.kinds i hi', ← hkk, hb4 i id (sf0 i id hsi)]
    rcases hk with hk | ⟨hk, hk2⟩
    ·exact .inl hk
    ·refine .inr ⟨hk, fun h3 => ?_⟩
     rw [hsame i hi' (by rw [h.kinds i hi', ← hkk]; exact h3), hB' i id hsi]
     exact hk2 h3
   ·have hnf : id ∉ selF := fun hm => by
     obtain ⟨i, hi, e⟩ := List.mem_iff_getElem.1 hm
     rcases sf1 i id (by rw [List.getElem?_eq_getElem hi, e]) with ⟨_, k2⟩ | ⟨_, _, k3⟩
     ·exact hs (List.mem_of_getElem? k2)
     ·omega
    rw [hnsel id hnf hlt, (purgeOs_live _ _ _).2, hb3 id hlt hs]
    exact hk
  dfr := hS.dfr
  sz := hS.sz }
 refine hn _ _ _ _ _ _ hK (purgeEs_keys _ _ _) hS2 ?_
 have hnr : ∀ (res : List AV), ntAs res → ntA (retA res) := by
  intro res hr
  match res, hr with
  | [], hr => simp [retA, ntA, ntAs]
  | [x], hr => exact hr.1
  | x :: y :: r, hr => simpa [retA, ntA] using hr
 rw [← renG_ret]
 exact renG_rel hbackF (fun i x hx => hren0 i _ hx) hren0 _ _ (hcd fun hl => hnr _ (hnt hl).2) hu
end
end Go.VA

namespace Go.VA
open Go Go.RowKit

def forceI (sel : List Nat) (i : Nat) (K : Nat → Prop) : Prop := match nthG sel i with | some s => K s | none => K 0
theorem forceI_eq (sel : List Nat) (i : Nat) (K : Nat → Prop) : forceI sel i K = K (nthD sel i) := by
 unfold forceI nthD
 cases nthG sel i <;> rfl
mutual
def renK (sel : List Nat) : AV → (AV → Prop) → Prop
 | .ptr i o, K => forceI sel i fun i => K (.ptr i o)
 | .pe i e k j, K => forceI sel i fun i => K (.pe i e k j)
 | .own i e o l, K => forceI sel i fun i => K (.own i e o l)
 | .mpv i, K => forceI sel i fun i => K (.mpv i)
 | .agx xs, K => renKs sel xs fun xs => K (.agx xs)
 | .tup xs, K => renKs sel xs fun xs => K (.tup xs)
 | .fn f xs ys, K => renKs sel xs fun xs => renKs sel ys fun ys => K (.fn f xs ys)
 | .gd .., K => K .any
 | .any, K => K .any
 | .c x, K => K (.c x)
 | .ag xs, K => K (.ag xs)
 | .sp t xs k, K => K (.sp t xs k)
 | .ub p, K => K (.ub p)
def renKs (sel : List Nat) : List AV → (List AV → Prop) → Prop
 | [], K => K []
 | x :: r, K => renK sel x fun x => renKs sel r fun r => K (x :: r)
end
mutual
theorem renK_eq (sel : List Nat) : ∀ (x : AV) (K : AV → Prop), renK sel x K = K (renG sel x)
 | .ptr i o, K => by simp only [renK, renG]; rw [forceI_eq]
 | .pe i e k j, K => by simp only [renK, renG]; rw [forceI_eq]
 | .own i e o l, K => by simp only [renK, renG]; rw [forceI_eq]
 | .mpv i, K => by simp only [renK, renG]; rw [forceI_eq]
 | .agx xs, K => by simp only [renK, renG]; rw [renKs_eq sel xs]
 | .tup xs, K => by simp only [renK, renG]; rw [renKs_eq sel xs]
 | .fn f xs ys, K => by simp only [renK, renG]; rw [renKs_eq sel xs, renKs_eq sel ys]
 | .gd .., K => by simp only [renK, renG]
 | .any, K => by simp only [renK, renG]
 | .c x, K => by simp only [renK, renG]
 | .ag xs, K => by simp only [renK, renG]
 | .sp t xs k, K => by simp only [renK, renG]
 | .ub p, K => by simp only [renK, renG]
theorem renKs_eq (sel : List Nat) : ∀ (xs : List AV) (K : List AV → Prop), renKs sel xs K = K (renGs sel xs)
 | [], K => by simp only [renKs, renGs]
 | x :: r, K => by simp only [renKs, renGs]; rw [renK_eq sel x, renKs_eq sel r]
end
def renOK (sel : List Nat) : AO → (AO → Prop) → Prop
 | .box xs, K => renKs sel xs fun xs => K (.box xs)
 | .row e n f, K => K (.row e n f)
 | .frz e n f, K => K (.frz e n f)
 | .mp m, K => K (.mp m)
 | .amb vs xs, K => K (.amb vs xs)
 | .dead, K => K .dead
theorem renOK_eq (sel : List Nat) (x : AO) (K : AO → Prop) : renOK sel x K = K (renGO sel x) := by
 cases x <;> simp only [renOK, renGO]
 rw [renKs_eq]
def putGK (selF : List Nat) : List Nat → List AO → List AO → (List AO → Prop) → Prop
 | [], _, L, K => K L
 | s :: r, post, L, K => match post with
  | [] => K L
  | y :: pr => renOK selF y fun y => putGK selF r pr (setO L s y) K
theorem putGK_eq (selF : List Nat) : ∀ (sel : List Nat) (post L : List AO) (K : List AO → Prop), putGK selF sel post L K = K (putG selF sel post L)
 | [], _, _, _ => by simp [putGK, putG]
 | _ :: _, [], _, _ => by simp [putGK, putG]
 | s :: r, y :: pr, L, K => by simp only [putGK, putG]; rw [renOK_eq, putGK_eq selF r pr]
def appL : List AO → List AO → List AO
 | [], r => r
 | x :: l, r => x :: appL l r
theorem appL_eq : ∀ l r, appL l r = l ++ r
 | [], r => rfl
 | x :: l, r => by simp [appL, appL_eq l r]
def deads : Nat → List AO
 | 0 => []
 | n + 1 => .dead :: deads n
theorem deads_eq : ∀ n, deads n = List.replicate n .dead
 | 0 => rfl
 | n + 1 => by simp [deads, List.replicate_succ, deads_eq n]
def appA : List AV → List AV → List AV
 | [], r => r
 | x :: l, r => x :: appA l r
theorem appA_eq : ∀ l r, appA l r = l ++ r
 | [], r => rfl
 | x :: l, r => by simp [appA, appA_eq l r]
def allGe (ro : Nat) : List Nat → Bool
 | [] => true
 | s :: r => match Nat.ble ro s with | true => allGe ro r | false => false
theorem allGe_spec {ro : Nat} : ∀ {l : List Nat}, allGe ro l = true → ∀ s ∈ l, ro ≤ s
 | [], _, s, h => by simp at h
 | x :: r, h, s, hs => by
  simp only [allGe] at h
  split at h
  ·rename_i h0
   rcases List.mem_cons.1 hs with rfl | hs
   ·exact Nat.le_of_ble_eq_true h0
   ·exact allGe_spec h s hs
  ·simp at h
/-- the objects that a call is handed -/
def selU (pre L : List AO) (args' args : List AV) : List Nat := selFrom (expP pre L (expP pre L (pairAs args' args []))) (lenO pre) 0
def condG (ld : Bool) (ro : Nat) (pre L : List AO) (args' args : List AV) : Prop :=
 forceNs (selU pre L args' args) fun sel => distN sel = true ∧ allGe ro sel = true ∧ GLeL (viewU ld sel L) sel L 0 pre ∧ GLes (viewU ld sel L) sel args' args
def ntG (ld : Bool) (post : List AO) (res : List AV) : Prop := match ld with | true => ntL post ∧ ntAs res | false => True
def afterG (pre post : List AO) (res args' args : List AV) (env : Env) (L : List AO) (K : AV → Env → List AO → Prop) : Prop :=
 forceNs (selU pre L args' args) fun sel => forceNs (appN sel (upTo (lenO post - lenO pre) (lenO L))) fun selF =>
  putGK selF selF post (appL (purgeLs sel pre L) (deads (lenO post - lenO pre))) fun L2 => forceL L2 fun L2 => renKs selF res fun rs => K (retA rs) (purgeEs sel pre env) L2

section
variable {P : Program} {tb : TB} {gl : Gl}
/-- a call that turns objects, and hands back new ones; ld: what it reads may be rows of the caller's own -/
theorem xc_g {f : Nat} {pre post : List AO} {args' res : List AV} (h : GCall P gl f pre args' post res) (ld : Bool) {ro : Nat} {first cap args : List AV} {env : Env} {L : List AO} {K : AV → Env → List AO → Prop}
  (hc : condG ld ro pre L args' (appA first (appA args cap))) (hnt : ntG ld post res)
  (hK : afterG pre post res args' (appA first (appA args cap)) env L K) : XCall P gl ro (.fn f first cap) args env L K := by
 unfold condG at hc
 unfold afterG at hK
 rw [forceNs_eq] at hc hK
 rw [forceNs_eq, putGK_eq, forceL_eq, renKs_eq, appN_eq, appL_eq, deads_eq, lenO_eq, lenO_eq, lenO_eq] at hK
 obtain ⟨h1, h2, h3, h4⟩ := hc
 rw [appA_eq, appA_eq, ← List.append_assoc] at h3 h4 h1 h2 hK
 exact xc_g_core h ld _ h1 (allGe_spec h2) (by unfold selU; rw [selFrom_length, lenO_eq]) h3 h4 (fun hl => by subst hl; exact hnt) hK

def allLive : List AO → Bool
 | [] => true
 | x :: r => match x.live with | true => allLive r | false => false
theorem allLive_get : ∀ {l : List AO}, allLive l = true → ∀ i, i < l.length → (getO l i).live = true
 | [], _, i, h => by simp at h
 | x :: r, h, i, hi => by
  simp only [allLive] at h
  split at h
  ·rename_i h0
   cases i with
   | zero => exact h0
   | succ i => exact allLive_get h i (by simpa using hi)
  ·simp at h
theorem gcall_of_vcb (htb : TbOk P tb) (hmix : P.follows .mixedOrders = true) {f : Nat} {fn : Func} {c : Code} (hf : P.funcs[f]? = some fn) (hb : fn.body = some c)
  (hname : (fn.name == "runtime.NumGoroutine") = false) (hok : codeOk fn.ntmps c = true) {pre post : List AO} {args res : List AV} (hargs' : Nat.ble args.length fn.ntmps = true) (hkd : kdsOk pre post = true)
  (hlq : allLive post = true)
  (h : bndOs pre → gbnds args → crossK fn.results.toList c fun U => vc P tb gl 0 pre.length U c (envOf 0 args) pre (EndG tb fn.results.toList pre.length post res)) : GCall P gl f pre args post res :=
 gcall_of_vc htb hmix hf hb hname hok hargs' hkd (allLive_get hlq) h
end
end Go.VA

namespace Go.VA
open Go Go.RowKit

theorem lenL_eq : ∀ l : List AO, lenL l = l.length
 | [] => rfl
 | _ :: r => by simp [lenL, lenL_eq r]
theorem refE_self {k n : Nat} : ∀ (env env0 : Env) (ws : List Nat), nodupE ws env = true → allLtE n env = true → (∀ t, t ∉ ws → get env0 t = get env t) → RefE env0 k n env
 | [], _, _, _, _, _ => trivial
 | (s, x) :: r, env0, ws, h, hl, hg => by
  simp only [nodupE] at h
  split at h
  ·simp at h
  ·rename_i hm
   have hs : s ∉ ws := fun e => by rw [memN_spec.2 e] at hm; simp at hm
   simp only [allLtE] at hl
   split at hl
   ·rename_i hx
    refine ⟨⟨?_, hx⟩, refE_self r env0 (s :: ws) h hl fun t ht => ?_⟩
    ·rw [hg s hs]
     exact LeE.of (Le.of_eq (by simp [get]))
    ·simp only [List.mem_cons, not_or] at ht
     rw [hg t ht.2]
     simp only [get]
     split
     ·rename_i e; exact absurd (Nat.beq_spec e).symm ht.1
     ·rfl
   ·simp at hl
theorem leAs_self {k n : Nat} : ∀ xs : List AV, AV.lts n xs = true → LeAs k n xs xs
 | [], _ => trivial
 | x :: xs, h => by
  simp only [AV.lts] at h
  split at h
  ·rename_i hx; exact ⟨⟨LeE.of (Le.refl x), hx⟩, leAs_self xs h⟩
  ·simp at h
theorem refL_self {q n : Nat} : ∀ L : List AO, allLtO n L = true → RefL q n L L
 | [], _ => trivial
 | x :: r, h => by
  simp only [allLtO] at h
  split at h
  ·rename_i hx
   refine ⟨?_, refL_self r h⟩
   cases x with
   | box xs => exact leAs_self xs hx
   | row e k g => exact ⟨rfl, rfl, fun i _ => LeCs.refl _⟩
   | frz e k g => exact ⟨rfl, rfl, fun i _ => LeCs.refl _⟩
   | mp m => exact LeMs.refl m
   | amb vs xs => exact ⟨rfl, leAs_self xs hx⟩
   | dead => trivial
  ·simp at h
theorem refR_self : ∀ (k : Nat) (L : List AO), k ≤ L.length → RefR k L L
 | 0, _, _ => trivial
 | k + 1, [], h => by simp at h
 | k + 1, x :: r, h => ⟨rfl, refR_self k r (by simpa using h)⟩
theorem RefS.self {ro n0 : Nat} {env : Env} {L : List AO} (h : selfOk ro n0 env L = true) : RefS ro n0 env L (env, L) := by
 unfold selfOk at h
 split at h
 ·simp at h
 ·rename_i h1
  split at h
  ·simp at h
  ·rename_i h2
   split at h
   ·simp at h
   ·rename_i h3
    split at h
    ·simp at h
    ·rename_i h4
     split at h
     ·simp at h
     ·rename_i h5
      rw [lenL_eq] at h3 h4 h5 h
      exact ⟨⟨refE_self env env [] h1 h3 fun _ _ => rfl, refL_self L h4, refR_self ro L (Nat.le_of_ble_eq_true h5), h⟩, h2⟩
theorem Then.mk' {s : Env × List AO} {K : Env → List AO → Prop} (h : K s.1 s.2) : Then s K := ⟨h⟩
end Go.VA

namespace Go.VA
open Go Go.RowKit
section
variable {P : Program} {gl : Gl}
/-- a new row that is handed back, as data that stays -/
theorem ACall.of_gcall {f : Nat} {args : List AV} {esz n : Nat} {g : Nat → List C} (h : GCall P gl f [] args [.row esz n g] [.own 0 esz 0 n]) : ACall P gl f args [] (.c (.sl false esz n (fun i => g (0 + i)))) where
 callable := h.callable
 closed := rfl
 run := fun w M B vals hro hL hG hv => by
  have hB : B = [] := List.length_eq_zero_iff.1 hL.len
  subst hB
  refine (h.run w M [] vals hro hL hG hv).mono fun e w' ⟨u, B', he, hf, hrel, hu, _, _⟩ => ⟨u, he, ?_, ?_⟩
  ·have : Frm (fun _ => False) w w' := ⟨hf.os, hf.tape, hf.output, hf.size, fun k hk hm => hf.block k hk fun ⟨id, bi, h1, _⟩ => by simp at h1⟩
   exact this.below
  ·simp only [RelV]
   have hle : (Sr M B' [.row esz n g] w').le (Sr M [] [] w') := fun t b o u hh => ⟨fun hm => hh.1 (by
    cases t with
    | false => rcases hm with hm | ⟨id, bi, h1, _⟩
               ·exact .inl hm
               ·simp at h1
    | true => rcases hm with hm | ⟨id, bi, _, h1, _⟩
              ·exact .inl hm
              ·simp at h1), hh.2⟩
   refine viewE_sound (sel := []) hrel hle (fun id bi _ hb hl o u hc => ⟨?_, hc⟩) 0 esz 0 n _ u ?_ hu
   ·rintro (hm | ⟨j, bj, h1, _⟩)
    ·exact hrel.notM id bi hb hl hm
    ·simp at h1
   ·simp [viewE, getO, memN]
end
end Go.VA

namespace Go.VA
open Go Go.RowKit

/-! ### Arrays of words -/
/-! ### Words of 32 bits -/
abbrev W := BitVec 32
end Go.VA

namespace Go.VA
open Go Go.RowKit
/-! ### The fingerprint: the rounds' constants, the words at the beginning, what a block makes of words -/
def sg (a b c : Nat) (x : W) : W := x.rotateRight a ^^^ x.rotateRight b ^^^ x.rotateRight c
def sl (a b c : Nat) (x : W) : W := x.rotateRight a ^^^ x.rotateRight b ^^^ (x >>> c)
def twoW (v : Nat → W) : W := sg 2 13 22 (v 0) + ((v 0 &&& v 1) ^^^ (v 0 &&& v 2) ^^^ (v 1 &&& v 2))
end Go.VA

namespace Go.VA
open Go Go.RowKit
end Go.VA

namespace Go.VA
open Go Go.RowKit

/-- a value -/
inductive V where
 | mk (k i : Int) (s : ByteArray) (l : List V) (ks : List ByteArray) (tk to : Int) (sec : Bool)

namespace V
def k : V → Int | mk k _ _ _ _ _ _ _ => k
def i : V → Int | mk _ i _ _ _ _ _ _ => i
def s : V → ByteArray | mk _ _ s _ _ _ _ _ => s
def l : V → List V | mk _ _ _ l _ _ _ _ => l
def ks : V → List ByteArray | mk _ _ _ _ ks _ _ _ => ks
def tk : V → Int | mk _ _ _ _ _ tk _ _ => tk
def to : V → Int | mk _ _ _ _ _ _ to _ => to
def sec : V → Bool | mk _ _ _ _ _ _ _ sec => sec
/-- no value -/
def z : V := mk 0 0 ByteArray.empty [] [] 0 0 false
instance : Inhabited V := ⟨z⟩
end V

mutual
/-- what a function of a value, and of what it is of its elements, is -/
def V.fold {α : Type} (f : V → List α → α) : V → α
 | .mk k i s l ks tk to sec => f (.mk k i s l ks tk to sec) (V.foldL f l)
def V.foldL {α : Type} (f : V → List α → α) : List V → List α
 | [] => []
 | x :: r => V.fold f x :: V.foldL f r
end
theorem V.foldL_eq {α : Type} (f : V → List α → α) : ∀ l : List V, V.foldL f l = l.map (V.fold f)
 | [] => rfl
 | x :: r => by simp [V.foldL, V.foldL_eq f r]
theorem V.fold_eq {α : Type} (f : V → List α → α) (v : V) : V.fold f v = f v (v.l.map (V.fold f)) := by
 cases v; simp only [V.fold, V.l, V.foldL_eq]

def cS (s : ByteArray) : List C := [.v (.string s)]
abbrev rS (ks : List ByteArray) : Nat → List C := rowE cS ByteArray.empty ks

mutual
def cV0 : V → List C
 | .mk k i s l ks tk to sec => [.v (.int .i64 k), .v (.int .i64 i), .v (.string s), .sl false 8 l.length (rV l), .sl false 1 ks.length (rS ks), .v (.int .i64 tk), .v (.int .i64 to), .v (.bool sec)]
def rV : List V → Nat → List C
 | [], _ => []
 | x :: _, 0 => cV0 x
 | _ :: r, n + 1 => rV r n
end

/-- the cells of a value; t, t': its elements, its keys are lent -/
def cVt (t t' : Bool) (v : V) : List C :=
 [.v (.int .i64 v.k), .v (.int .i64 v.i), .v (.string v.s), .sl t 8 v.l.length (rV v.l), .sl t' 1 v.ks.length (rS v.ks), .v (.int .i64 v.tk), .v (.int .i64 v.to), .v (.bool v.sec)]
/-- equal texts -/
def eqs (a b : ByteArray) : Bool := a.toList == b.toList
end Go.VA

namespace Go.VA
open Go Go.RowKit
/-! ### types -/
/-- a type: its kind, and of what -/
abbrev Ty := Int × Int
def cT (p : Ty) : List C := [.v (.int .i64 p.1), .v (.int .i64 p.2)]
def chk (p : Ty) : Bool := !(decide (p.1 < 0) || decide (p.1 > 5) || decide (p.2 < 0) || decide (p.2 > 3) || (!(p.1 == 4 || p.1 == 5) && p.2 != 0))
def chkR (p : Ty) : Bool := if (decide (p.1 < 0) || decide (p.1 > 5) || decide (p.2 < 0) || decide (p.2 > 3)) then false else (p.2 == 0 || decide (p.1 > 3))
theorem chkR_eq (a : Ty) : chkR a = chk a := by
 obtain ⟨k, o⟩ := a
 rw [Bool.eq_iff_iff]
 simp only [chk, chkR]
 split
 ·simp at *; omega
 ·simp at *; omega
/-! ### values -/
namespace V
def t (v : V) : Ty := (v.tk, v.to)
end V
def nPairs (v : V) : Nat := min v.ks.length v.l.length
def nIt (v : V) : Nat := if v.k == 4 then v.l.length else if v.k == 5 then nPairs v else 0
/-- how many keys it has -/
def nKs (v : V) : Nat := if v.k != 5 then 0 else nPairs v
def keys (v : V) : List ByteArray := v.ks.take (nKs v)
/-- what its kind has -/
def only (v : V) : V := .mk v.k (if v.k == 1 || v.k == 2 then v.i else 0) (if v.k == 3 then v.s else ByteArray.empty) (if v.k == 5 || v.k == 4 then v.l else []) (if v.k == 5 then v.ks else [])
 (if v.k == 6 then v.tk else 0) (if v.k == 6 then v.to else 0) v.sec
def keyOk (ks : List ByteArray) (c : Nat) (x : ByteArray) : Bool := decide ((x.size : Int) > 1024) || decide ((c : Int) > 0) && !(Op.bytesLess (ks.getD (IntKind.i64.wrap ((c : Int) - 1)).toNat ByteArray.empty).toList x.toList)
def keysOk (ks : List ByteArray) : List ByteArray → Nat → Bool
 | [], _ => true
 | x :: r, c => if keyOk ks c x then false else keysOk ks r (c + 1)
def known : V → Bool := V.fold fun v rs => v.k != 6 && !((rs.take (nIt v)).any fun r => !r)
end Go.VA

namespace Go.VA
open Go Go.RowKit
/-! ### the order of values -/
/-! ### the document's -/
def chk1 (v : V) (d : Int) : Bool := decide (d < 1) || decide (v.k < 0) || decide (v.k > 6)
def chk2 (v : V) : Bool := v.k != 1 && v.k != 2 && v.i != 0 || v.k == 1 && v.i != 0 && v.i != 1
def chk3 (v : V) : Bool := v.k != 3 && !(v.s.toList == ({ data := #[] } : ByteArray).toList) || decide ((v.s.size : Int) > 1024)
def chk4 (v : V) : Bool := v.k != 6 && !(v.tk == 0 && v.to == 0) || v.k == 6 && !chkR v.t
def chk5 (v : V) : Bool := v.k != 4 && v.k != 5 && decide ((v.l.length : Int) > 0) || decide ((v.l.length : Int) > 128)
def chk6 (v : V) : Bool := v.k != 5 && decide ((v.ks.length : Int) > 0) || v.k == 5 && (v.ks.length : Int) != v.l.length
def checkRV : V → Int → Bool := V.fold fun v rs d =>
 if chk1 v d then false else if chk2 v then false else if chk3 v then false else if chk4 v then false else if chk5 v then false else if chk6 v then false
 else if !keysOk v.ks v.ks 0 then false else rs.all fun r => r (IntKind.i64.wrap (d - 1))
theorem checkRV_eq (v : V) (d : Int) : checkRV v d =
 if chk1 v d then false else if chk2 v then false else if chk3 v then false else if chk4 v then false else if chk5 v then false else if chk6 v then false
 else if !keysOk v.ks v.ks 0 then false else v.l.all fun x => checkRV x (IntKind.i64.wrap (d - 1)) := by
 rw [checkRV, V.fold_eq, List.all_map]; rfl
end Go.VA

namespace Go.VA
open Go Go.RowKit
/-! ### plain laws of values -/
theorem eqs_emp (s : ByteArray) : eqs s ByteArray.empty = (s.toList == ({ data := #[] } : ByteArray).toList) := rfl
theorem eqs_iff {a b : ByteArray} : eqs a b = true ↔ a = b := by
 unfold eqs
 rw [beq_iff_eq]
 refine ⟨fun h => ?_, fun h => by rw [h]⟩
 rw [ByteArray.toList_eq, ByteArray.toList_eq] at h
 cases a; cases b
 simp at h
 simpa using h
/-! ### values that may be -/
def Ok (v : V) : Prop := ∃ d, checkRV v d = true
structure Okf (v : V) : Prop where
 k0 : 0 ≤ v.k
 k6 : v.k ≤ 6
 i : v.k ≠ 1 → v.k ≠ 2 → v.i = 0
 s : v.k ≠ 3 → v.s = ByteArray.empty
 t : v.k ≠ 6 → v.tk = 0 ∧ v.to = 0
 t6 : v.k = 6 → chk v.t = true
 l : v.k ≠ 4 → v.k ≠ 5 → v.l = []
 ks : v.k ≠ 5 → v.ks = []
 ks5 : v.k = 5 → v.ks.length = v.l.length
 ok : ∀ x ∈ v.l, Ok x
theorem Ok.f {v : V} (h : Ok v) : Okf v := by
 obtain ⟨d, h⟩ := h
 rw [checkRV_eq] at h
 by_cases h1 : chk1 v d = true
 ·simp [h1] at h
 by_cases h2 : chk2 v = true
 ·simp [h1, h2] at h
 by_cases h3 : chk3 v = true
 ·simp [h1, h2, h3] at h
 by_cases h4 : chk4 v = true
 ·simp [h1, h2, h3, h4] at h
 by_cases h5 : chk5 v = true
 ·simp [h1, h2, h3, h4, h5] at h
 by_cases h6 : chk6 v = true
 ·simp [h1, h2, h3, h4, h5, h6] at h
 by_cases h7 : keysOk v.ks v.ks 0 = true
 ·simp only [h1, h2, h3, h4, h5, h6, h7] at h
  simp only [chk1, Bool.or_eq_true, decide_eq_true_eq, not_or] at h1
  refine ⟨by omega, by omega, fun a b => ?_, fun a => ?_, fun a => ?_, fun a => ?_, fun a b => ?_, fun a => ?_, fun a => ?_, fun x hx => ⟨_, List.all_eq_true.1 h x hx⟩⟩
  ·simp [chk2] at h2
   exact h2.1 a b
  ·have := (by simpa [chk3] using h3 : (¬v.k = 3 → v.s.toList = []) ∧ _).1 a
   exact eqs_iff.1 (by rw [eqs_emp, this]; simp)
  ·simp [chk4] at h4
   exact h4.1 a
  ·simp [chk4] at h4
   rw [← chkR_eq]; exact h4.2 a
  ·simp [chk5] at h5
   exact h5.1 a b
  ·simp [chk6] at h6
   exact h6.1 a
  ·simp [chk6] at h6
   have := h6.2 a
   omega
 ·simp [h1, h2, h3, h4, h5, h6, h7] at h
theorem Okf.keys {v : V} (h : Okf v) : keys v = v.ks := by
 unfold VA.keys nKs nPairs
 split
 ·rename_i h5; rw [h.ks (by simpa using h5)]; rfl
 ·rename_i h5; have := h.ks5 (by simpa using h5); rw [List.take_of_length_le (by omega)]
end Go.VA

namespace Go.VA
open Go Go.RowKit
/-! ### to refine -/
/-! #### itself, and what is unknown of its type -/
end Go.VA

namespace Go.VA
open Go Go.RowKit
/-! ### to refine is an order -/
end Go.VA

namespace Go.VA
open Go Go.RowKit
/-! ### the order of values that may be -/
abbrev bl (a b : ByteArray) : Bool := Op.bytesLess a.toList b.toList
theorem bytesLess_irr : ∀ l : List UInt8, Op.bytesLess l l = false
 | [] => rfl
 | x :: r => by simp [Op.bytesLess, bytesLess_irr r]
theorem bytesLess_asym : ∀ l m : List UInt8, Op.bytesLess l m = true → Op.bytesLess m l = false
 | [], [], h => by simp [Op.bytesLess] at h
 | [], _ :: _, _ => rfl
 | _ :: _, [], h => by simp [Op.bytesLess] at h
 | x :: r, y :: s, h => by
  simp only [Op.bytesLess, Bool.or_eq_true, decide_eq_true_eq, Bool.and_eq_true, beq_iff_eq] at h
  simp only [Op.bytesLess, Bool.or_eq_false_iff, decide_eq_false_iff_not, Bool.and_eq_false_iff, beq_eq_false_iff_ne, UInt8.not_lt]
  rcases h with h | ⟨rfl, h⟩
  ·have hne : y ≠ x := fun e => by subst e; exact absurd h (UInt8.lt_irrefl _)
   exact ⟨UInt8.le_of_lt h, .inl hne⟩
  ·exact ⟨UInt8.le_refl _, .inr (bytesLess_asym r s h)⟩
theorem bytesLess_tri : ∀ l m : List UInt8, Op.bytesLess l m = false → Op.bytesLess m l = false → l = m
 | [], [], _, _ => rfl
 | [], _ :: _, h, _ => by simp [Op.bytesLess] at h
 | _ :: _, [], _, h => by simp [Op.bytesLess] at h
 | x :: r, y :: s, h, h2 => by
  simp only [Op.bytesLess, Bool.or_eq_false_iff, decide_eq_false_iff_not, Bool.and_eq_false_iff, beq_eq_false_iff_ne, UInt8.not_lt] at h h2
  have e : x = y := UInt8.le_antisymm h2.1 h.1
  subst e
  rw [bytesLess_tri r s (by simpa using h.2) (by simpa using h2.2)]
theorem toL_inj {a b : ByteArray} (h : a.toList = b.toList) : a = b := eqs_iff.1 (by simp [eqs, h])
/-! #### the two orders are one -/
/-! #### of two unlike ones just one is ahead -/
end Go.VA

namespace Go.VA
open Go Go.RowKit
/-! ### values that lie in data that stays -/
theorem NoTag.ag {xs : List C} (h : NtCs xs) : NoTag (.ag xs) := ⟨fun B S S' u hF hu => by
 simp only [RelV] at hu ⊢
 obtain ⟨arr, e, h'⟩ := hu
 exact ⟨arr, e, NtCs.vs hF _ _ h h'⟩⟩
theorem NoTag.c {x : C} (h : NtC x) : NoTag (.c x) := ⟨fun B S S' u hF hu => by
 simp only [RelV] at hu ⊢
 exact NtC.rep hF _ _ h hu⟩
def allNoTag : List AV → Prop
 | [] => True
 | x :: r => NoTag x ∧ allNoTag r
theorem NoTag.tup {xs : List AV} (h : allNoTag xs) : NoTag (.tup xs) := ⟨fun B S S' u hF hu => by
 simp only [RelV] at hu ⊢
 obtain ⟨arr, e, h'⟩ := hu
 refine ⟨arr, e, ?_⟩
 clear e
 revert h'
 generalize arr.toList = us
 induction xs generalizing us with
 | nil => exact fun h => h
 | cons x r ih =>
  intro h'
  simp only [RelVs] at h' ⊢
  obtain ⟨u, r', h1, h2, h3⟩ := h'
  exact ⟨u, r', h1, h.1.h B S S' u hF h2, ih h.2 _ h3⟩⟩
end Go.VA

namespace Go.VA
open Go Go.RowKit Go.ChangeShapes Go.WideShapes Go.ChangeAt

/-- what a memory holds -/
def S0 (W : World) : Rd := fun _ b o u => W.cell? ⟨b, o, none⟩ = some u
def M0 : Mz := ⟨0, fun _ => False, fun _ => False, fun _ h => h⟩
theorem Sr_M0 (W : World) : Sr M0 [] [] W = S0 W := by
 funext t b o u
 simp only [Sr, S0, eq_iff_iff, and_iff_right_iff_imp]
 intro _ h
 cases t <;> simp [MU, M0] at h
theorem relL_nil (W : World) : RelL M0 [] [] W where
 len := rfl
 bnd := by simp
 mbnd := by simp [M0]
 notM := by simp
 dist := by simp
 obj := by simp

section
variable {P : Program} {gl : Gl} {f : Nat} {args : List AV}

/-- a contract, in an open state -/
theorem acall_run {r : AV} (h : ACall P gl f args [] r) (W : World) (vals : Array Value) (hG : GlOk gl (S0 W)) (hv : RelVs [] (S0 W) args vals.toList) :
  Calls P f vals W fun e w' => ∃ u, e = .returned u ∧ Below W.heap.size W w' ∧ RelV [] (S0 w') r u := by
 have := h.run W M0 [] vals rfl (relL_nil W) (by rw [Sr_M0]; exact hG) (by rw [Sr_M0]; exact hv)
 refine this.mono fun e w' ⟨u, h1, h2, h3⟩ => ⟨u, h1, h2, ?_⟩
 rwa [Sr_M0] at h3

theorem acall_true (h : ACall P gl f args [] (boolA true)) (W : World) (vals : Array Value) (hG : GlOk gl (S0 W)) (hv : RelVs [] (S0 W) args vals.toList) :
  Calls P f vals W fun e w' => e = .returned (.bool true) ∧ Below W.heap.size W w' := by
 refine (acall_run h W vals hG hv).mono fun e w' ⟨u, h1, h2, h3⟩ => ?_
 simp only [boolA, RelV, RepC] at h3
 rw [h1, h3.1]
 exact ⟨rfl, h2⟩

theorem glOk_nil (S : Rd) : GlOk ⟨fun _ => []⟩ S := fun _ => by simp [RepCs]
end

section
variable {H : Type} {enc : TypeId × Value → H} {P : Program}

theorem post_of_below {f : Func} {s : ChangeSpec} {apart fresh handsOn again : Bool} {W W' : World} {args : Array Value} {v : Value} {ds gs : List (DataW H)} {before pa pv : List MemPlace}
  (hW : DataW.Whole enc P f.params.toList s.vars apart W args.toList ds gs before)
  (hres : ∀ (b : Nat) (sp : Nat → Bool) (hd : Bool), DataW.TrodAll enc P W' b sp hd f.resultTypes.toList (v.resultList f.resultTypes.size) (s.fn H (ds ++ gs)).results [])
  (hargs : ∀ sp : Nat → Bool, (∀ p ∈ before, sp p.block = true) → DataW.TrodAll enc P W' 0 sp true f.params.toList args.toList (s.fn H (ds ++ gs)).args pa)
  (hvars : ∀ sp : Nat → Bool, (∀ p ∈ before, sp p.block = true) → DataW.TrodVars enc P W' sp s.vars (s.fn H (ds ++ gs)).vars pv)
  (hps : before = pa ++ pv) (hb : Below W.heap.size W W')
  (hok : ∀ (j : Nat) (t : TypeId) (r : Value), f.resultTypes[j]? = some t → (v.resultList f.resultTypes.size)[j]? = some r → Value.okWide P W' .any 0 t r) :
  s.post enc P f apart fresh handsOn again W args v W' := by
 have hlt : ∀ p ∈ before, p.block < W.heap.size := fun p hp => hW.lt p hp
 have hold : ∀ p ∈ before, (fun b => decide (b < W.heap.size)) p.block = true := fun p hp => by simpa using hlt p hp
 refine ⟨ds, gs, before, [], pa, pv, hW, hres _ _ _, hargs _ hold, hvars _ hold, World.keptBut_mono (fun p hp => ⟨hp, ?_⟩) (hb.frame (· ∈ before)), fun _ => ?_⟩
 ·rw [hps, List.mem_append] at hp
  exact Or.inr hp
 ·obtain ⟨_, _, _, _, _, hz, hn⟩ := hW
  refine ⟨hok, _, _, ([] ++ pa) ++ pv, ⟨[] ++ pa, pv, trodAll_append (hargs _ (fun _ _ => rfl)) (hres _ _ _), hvars _ (fun _ _ => rfl), rfl, ?_, ?_⟩, ?_⟩
  ·intro b off hp
   have hin : MemPlace.cell b off ∈ before := by rw [hps]; simpa using hp
   rw [hb.frozen (hlt _ hin)]
   exact hz b off hin
  ·intro ha
   have := hn ha
   rw [hps] at this
   simpa using this
  ·intro p hp _
   rw [hps]
   simpa using hp

def carried (P : Program) : List TypeId → Bool
 | [] => true
 | t :: ts => P.readableRec t && decide (t < P.types.size) && carried P ts

theorem trodAll_below (hl : laidOutB P = true) {W W' : World} (hb : Below W.heap.size W W') : ∀ {ts : List TypeId} {vs : List Value} {ds : List (DataW H)} {ps : List MemPlace},
  carried P ts = true → DataW.TrodAll enc P W 0 (fun _ => true) true ts vs ds ps → (∀ x ∈ ps, x.block < W.heap.size) →
  ∀ sp : Nat → Bool, (∀ p ∈ ps, sp p.block = true) → DataW.TrodAll enc P W' 0 sp true ts vs ds ps
 | [], [], [], _, _, h, _, _, _ => h
 | t :: ts, v :: vs, d :: ds, ps, hc, h, hlt, sp, hsp => by
  simp only [carried, Bool.and_eq_true, decide_eq_true_eq] at hc
  obtain ⟨p, q, h1, h2, rfl⟩ := h
  have h3 := Below.trod hl hc.1.1 hc.1.2 h1 hb fun x hx => hlt x (List.mem_append_left _ hx)
  refine ⟨p, q, ?_, trodAll_below hl hb hc.2 h2 (fun x hx => hlt x (List.mem_append_right _ hx)) sp (fun x hx => hsp x (List.mem_append_right _ hx)), rfl⟩
  exact WideElems.Trod_stays hl hc.1.1 hc.1.2 h1 (fun x hx => hb.same (hlt x (List.mem_append_left _ hx))) (fun x hx => hsp x (List.mem_append_left _ hx))
 | [], _ :: _, _, _, _, h, _, _, _ => h.elim
 | _ :: _, [], _, _, _, h, _, _, _ => h.elim
 | [], [], _ :: _, _, _, h, _, _, _ => h.elim
 | _ :: _, _ :: _, [], _, _, h, _, _, _ => h.elim
end

end Go.VA

namespace Go.VA
open Go Go.RowKit Go.ChangeShapes Go.WideShapes Go.ChangeAt

section
variable {H : Type} {enc : TypeId × Value → H} {P : Program} {tb : TB} {w : World} {base : Nat} {spare : Nat → Bool} {held : Bool} {fuel : Nat} {t : TypeId} {cs : List Value} {x : DataW H × List MemPlace}

theorem cellsOf_tb (htb : TbOk P tb) (ho : (tb t).k.isOther = false) : P.cellsOf t = (tb t).sz := by
 obtain ⟨i, d, z, h1, h2, h3, h4, _⟩ := (htb t).ok ho
 unfold Program.cellsOf
 rw [h1]
 simpa using h4

theorem tr_int (htb : TbOk P tb) {k : IntKind} (hk : (tb t).k = .int k) (h : DataW.trod enc P w base spare held fuel t cs = some x) : ∃ n, cs = [.int k n] ∧ k.min ≤ n ∧ n ≤ k.max := by
 obtain ⟨d, h2, h3⟩ := (htb t).under (by rw [hk]; rfl)
 rw [hk] at h3
 simp only [TKok] at h3
 subst h3
 obtain ⟨n, h4, _, h5⟩ := DataW.trod_int h2 h
 simp only [Lit.wf, Bool.and_eq_true, decide_eq_true_eq] at h5
 exact ⟨n, h4, h5⟩

theorem tr_str (htb : TbOk P tb) (hk : (tb t).k = .str) (h : DataW.trod enc P w base spare held fuel t cs = some x) : ∃ s : ByteArray, cs = [.string s] ∧ s.size ≤ maxLen := by
 obtain ⟨d, h2, h3⟩ := (htb t).under (by rw [hk]; rfl)
 rw [hk] at h3
 simp only [TKok] at h3
 subst h3
 obtain ⟨n, h4, _, h5⟩ := DataW.trod_string h2 h
 exact ⟨n, h4, h5⟩

theorem repCs_of_repVs {S : Rd} {R : Nat → Value → Prop} : ∀ {xs : List C} {us : List Value} {o : Nat}, RepVs S xs us → (∀ j u, us[j]? = some u → R (o + j) u) → RepCs S R o xs
 | [], us, o, _, _ => by simp [RepCs]
 | x :: xs, us, o, h, hR => by
  simp only [RepVs] at h
  obtain ⟨u, r, rfl, h1, h2⟩ := h
  simp only [RepCs]
  refine ⟨⟨u, hR 0 u rfl, h1⟩, repCs_of_repVs h2 fun j v hv => ?_⟩
  rw [Nat.add_assoc, Nat.add_comm 1 j]
  exact hR (j + 1) v (by simpa using hv)

/-- rows in memory -/
theorem repC_rows {S : Rd} {a : Option Addr} {len cap esz : Nat} {f : Nat → List C} {tg : Bool} (hc : len ≤ cap ∧ len ≤ 140737488355328)
  (h : len = 0 ∨ ∃ b o, a = some ⟨b, o, none⟩ ∧ ∀ i, i < len → ∃ ce : List Value, ce.length = esz ∧ (∀ j, j < esz → ∀ u, ce[j]? = some u → S tg b (o + i * esz + j) u) ∧ (f i).length = esz ∧ RepVs S (f i) ce) :
  RepC S (.sl tg esz len f) (.slice a len cap) := by
 simp only [RepC]
 refine ⟨a, cap, rfl, hc, ?_⟩
 rcases h with h | ⟨b, o, h1, h2⟩
 ·exact .inl h
 ·refine .inr ⟨b, o, h1, fun i hi => ?_⟩
  obtain ⟨ce, k1, k2, k3, k4⟩ := h2 i hi
  refine ⟨k3, repCs_of_repVs k4 fun j u hu => ?_⟩
  have := (List.getElem?_eq_some_iff.1 hu).1
  exact k2 j (by omega) u hu

theorem repV_i {S : Rd} {k : IntKind} {n : Int} : RepC S (.v (.int k n)) (.int k n) := by simp [RepC, Value.oneCell']
theorem repV_s {S : Rd} {b : ByteArray} : RepC S (.v (.string b)) (.string b) := by simp [RepC, Value.oneCell']

end
end Go.VA

namespace Go.VA
open Go Go.RowKit Go.ChangeShapes Go.WideShapes Go.ChangeAt

section
variable {H : Type} {enc : TypeId × Value → H} {P : Program} {tb : TB} {w : World} {base : Nat} {spare : Nat → Bool} {held : Bool} {fuel : Nat} {t : TypeId} {cs : List Value} {x : DataW H × List MemPlace}

/-- each slice, text and map of a datum is of a size that memory has -/
def SzW (P : Program) (t : TypeId) (d : DataW H) : Prop := ∀ n ∈ d.weights P t, n ≤ reachBytes

theorem bytesOf_tb (htb : TbOk P tb) (ho : (tb t).k.isOther = false) : P.bytesOf t = (tb t).bytes := by
 obtain ⟨i, d, z, h1, h2, h3, h4, h5, _⟩ := (htb t).ok ho
 unfold Program.bytesOf
 rw [h1]
 simpa using h5

theorem tr_structS (htb : TbOk P tb) {fs : List (Nat × Nat)} (hk : (tb t).k = .struct fs) (h : DataW.trod enc P w base spare held fuel t cs = some x) (hs : SzW P t x.1) :
  cs.length = (tb t).sz ∧ ∃ m, fuel = m + 1 ∧ ∀ i o ty : Nat, fs[i]? = some (o, ty) → (tb ty).k.isOther = false → ∃ y, DataW.trod enc P w base spare held m ty ((cs.drop o).take (tb ty).sz) = some y ∧ SzW P ty y.1 := by
 obtain ⟨d, h2, h3⟩ := (htb t).under (by rw [hk]; rfl)
 have hsz := cellsOf_tb htb (t := t) (by rw [hk]; rfl)
 rw [hk] at h3
 simp only [TKok] at h3
 obtain ⟨f, rfl, hf⟩ := h3
 obtain ⟨xs, n, h4, h8, h5, h6, h7⟩ := DataW.trod_struct h2 h
 refine ⟨by rw [h5, hsz], n, h4, fun i o ty hi ho => ?_⟩
 rw [← hf.1, List.getElem?_map, Option.map_eq_some_iff] at hi
 obtain ⟨g, k1, k2⟩ := hi
 rw [Array.getElem?_toList] at k1
 have := h7 i g k1
 simp only [Prod.mk.injEq] at k2
 rw [k2.1, k2.2, cellsOf_tb htb ho] at this
 have hlt : i < xs.length := by
  rw [h6]
  exact (Array.getElem?_eq_some_iff.1 k1).1
 rw [List.getElem?_eq_getElem hlt] at this
 refine ⟨_, this, fun m hm => hs m ?_⟩
 rw [h8]
 simp only [DataW.weights, h2]
 exact DataW.weights_mem_each (j := i) (t := ty) (d := xs[i].1) (by rw [List.getElem?_map, Array.getElem?_toList, k1]; simp [k2.2]) (by simp [hlt]) m hm

theorem weightsAll_mem {e : TypeId} : ∀ {l : List (DataW H)} {d : DataW H}, d ∈ l → ∀ n ∈ d.weights P e, n ∈ DataW.weightsAll P e l
 | y :: r, d, hd, n, hn => by
  simp only [DataW.weightsAll, List.mem_append]
  rcases List.mem_cons.1 hd with rfl | hd
  ·exact .inl hn
  ·exact .inr (weightsAll_mem hd n hn)

theorem tr_sliceS (htb : TbOk P tb) {e : TypeId} (hk : (tb t).k = .slice e) (he : (tb e).k.isOther = false) (h0 : 0 < (tb e).sz) (h : DataW.trod enc P w base spare held fuel t cs = some x) (hs : SzW P t x.1) :
  ∃ a len cap m, cs = [.slice a len cap] ∧ fuel = m + 1 ∧ len ≤ cap ∧ len * (tb e).bytes ≤ 140737488351232 ∧ (len = 0 ∨ ∃ b o, a = some ⟨b, o, none⟩ ∧ ∀ i, i < len → ∃ ce y, ce.length = (tb e).sz ∧ (∀ j, j < (tb e).sz → w.cell? ⟨b, o + i * (tb e).sz + j, none⟩ = ce[j]?) ∧
   DataW.trod enc P w base spare held m e ce = some y ∧ SzW P e y.1) := by
 obtain ⟨d, h2, h3⟩ := (htb t).under (by rw [hk]; rfl)
 have hsz := cellsOf_tb htb he
 have hby := bytesOf_tb htb he
 rw [hk] at h3
 simp only [TKok] at h3
 subst h3
 rcases DataW.trod_slice h2 h with ⟨h4, _⟩ | ⟨a, len, cap, elems, rest, n, h4, h5, hx, h6, h7, h8, h9, h10, _⟩
 ·cases fuel with
  | zero => simp [DataW.trod] at h
  | succ m => exact ⟨none, 0, 0, m, h4, rfl, Nat.le_refl _, by simp, .inl rfl⟩
 ·have hw : (elems.length + rest.length) * P.bytesOf e ≤ reachBytes := by
   refine hs _ ?_
   rw [hx]
   simp [DataW.weights, h2]
  refine ⟨some a, len, cap, n, h5, h4, h7, ?_, ?_⟩
  ·rw [← h9, ← hby]
   have : elems.length * P.bytesOf e ≤ (elems.length + rest.length) * P.bytesOf e := Nat.mul_le_mul_right _ (Nat.le_add_right _ _)
   unfold reachBytes at hw
   omega
  by_cases hl : len = 0
  ·exact .inl hl
  ·right
   have key : ∀ i, i < len → ∃ ce y, w.cells? base (a.add (i * (tb e).sz)) (tb e).sz = some ce ∧ DataW.trod enc P w base spare held n e ce = some y ∧ SzW P e y.1 := by
    intro i hi
    have := h10 i hi
    rw [hsz] at this
    rw [List.getElem?_eq_getElem (by omega)] at this
    obtain ⟨ce, k1, k2⟩ := Option.bind_eq_some_iff.1 this
    refine ⟨ce, _, k1, k2, fun m hm => hs m ?_⟩
    rw [hx]
    simp only [DataW.weights, h2, List.mem_cons, List.mem_append]
    refine .inr (.inl (weightsAll_mem (d := (elems[i]'(by omega)).1) (List.mem_map.2 ⟨elems[i]'(by omega), List.getElem_mem _, rfl⟩) m hm))
   obtain ⟨b, o, spot⟩ := a
   obtain ⟨ce0, y0, k1, _⟩ := key 0 (by omega)
   obtain ⟨_, k3, k4⟩ := World.cells?_some k1
   have g0 := k4 0 h0
   rw [List.getElem?_eq_getElem (by omega)] at g0
   have hspot : spot = none := by simpa [Addr.add] using World.cell?_spot g0
   subst hspot
   refine ⟨b, o, rfl, fun i hi => ?_⟩
   obtain ⟨ce, y, k1, k2, k5⟩ := key i hi
   obtain ⟨_, k3, k4⟩ := World.cells?_some k1
   refine ⟨ce, y, k3, fun j hj => ?_, k2, k5⟩
   have := k4 j hj
   rw [← this]
   congr 1
   simp only [Addr.add]
   split <;> split <;> simp_all
end

/-- a law's row, out of its contract; no argument is greater than memory -/
theorem law_liftedS {C : Checked} {f : FuncId} {fn : Func} {s : ChangeSpec} {conds : List PathCond} (os : Os) (started : os.Started) {H : Type} {enc : TypeId × Value → H} {tb : TypeId}
  (own : ownKnob C.prog.godebug = none) (noInit : C.prog.inits.idxOf? f = none) (hfn : C.prog.funcs[f]? = some fn)
  (hl : laidOutB C.prog = true) (hc : carried C.prog fn.params.toList = true) (hv : s.vars = []) (hvt : s.plain.varTypes C.prog = []) (hr : fn.resultTypes = #[tb]) (htb : C.prog.underlying tb = some .bool)
  (hspec : ∀ ds : List (DataW H), ds.length = fn.params.size → s.fn H ds = { results := [.lit (.bool true)], args := ds })
  (witness : ∃ (w : World) (tape : Tape) (i : Input), w.os = os ∧ (w.forCall tape i).Shaped C.prog ∧ i.vars = [] ∧ Input.okWide C.prog (w.forCall tape i) .any w.heap.size f i ∧
   s.pre6 enc C.prog fn conds false (w.forCall tape i).memory i.args ∧ ({} : Assume).holds C.prog (lone (Frame.enter C.prog f i.args .normal) [] (w.forCall tape i)))
  (call : ∀ (W : World) (base : Nat) (args : Array Value) (ds : List (DataW H)) (ps : List MemPlace),
   (∀ (j : Nat) t v, fn.params[j]? = some t → args[j]? = some v → Value.okWide C.prog W .any base t v) →
   DataW.TrodAll enc C.prog W 0 (fun _ => true) true fn.params.toList args.toList ds ps →
   (∀ (j : Nat) t d, fn.params.toList[j]? = some t → ds[j]? = some d → SzW C.prog t d) →
   Calls C.prog f args W fun e w' => e = .returned (.bool true) ∧ Below W.heap.size W w') :
  ReturnsInHanded {} C os f .any (s.pre6 enc C.prog fn conds false) (s.post enc C.prog fn false true false false) := by
 refine returnsInHanded_of_change_sized own started noInit hfn witness ?_
 intro W base args ds gs before hval hW _ hsz _
 have hW' := hW
 obtain ⟨p, q, hA, hV, hpq, hfz, hnd⟩ := hW
 rw [hv] at hV
 obtain ⟨rfl, rfl⟩ := trodVars_none hV
 rw [List.append_nil] at hpq
 subst hpq
 have hlen : ds.length = fn.params.size := by
  have : ∀ {ts : List TypeId} {vs : List Value} {ds : List (DataW H)} {ps : List MemPlace}, DataW.TrodAll enc C.prog W 0 (fun _ => true) true ts vs ds ps → ds.length = ts.length := by
   intro ts
   induction ts with
   | nil => intro vs ds ps h; cases vs <;> cases ds <;> first | rfl | exact h.elim
   | cons t ts ih =>
    intro vs ds ps h
    cases vs with
    | nil => exact h.elim
    | cons v vs =>
     cases ds with
     | nil => exact h.elim
     | cons d ds =>
      obtain ⟨_, _, _, h2, _⟩ := h
      simp [ih h2]
  rw [this hA]; simp
 rw [hvt, List.append_nil, List.append_nil] at hsz
 have hsz' : ∀ (j : Nat) t d, fn.params.toList[j]? = some t → ds[j]? = some d → SzW C.prog t d := fun j t d h1 h2 n hn => by
  have := List.all_eq_true.1 hsz n (DataW.weights_mem_each h1 h2 n hn)
  simpa using this
 refine (call W base args ds before hval hA hsz').mono fun e W' ⟨he, hb⟩ => ⟨_, he, ?_⟩
 have hs := hspec ds hlen
 refine post_of_below (pa := before) (pv := []) hW' (fun b sp hd => ?_) (fun sp hsp => ?_) (fun sp _ => ?_) (by simp) hb ?_
 ·rw [List.append_nil, hs, hr]
  refine trodAll_mk1 ⟨1, ?_⟩
  simp [DataW.trod, htb, Value.cells]
 ·rw [List.append_nil, hs]
  exact trodAll_below hl hb hc hA (fun x hx => hW'.lt x hx) sp hsp
 ·rw [hv, List.append_nil, hs]
  rfl
 ·exact ok_one hr rfl (okWide_bool_mk htb true)
end Go.VA

namespace Go.VA
open Go Go.RowKit Go.ChangeShapes Go.WideShapes Go.ChangeAt
section
variable {H : Type} {enc : TypeId × Value → H} {P : Program} {tb : TB} {w W : World} {base : Nat} {sp : Nat → Bool} {held : Bool} {t : TypeId}
/-- the value of an argument that is a slice: its one cell -/
theorem arg_slice (htb : TbOk P tb) {e : TypeId} (hk : (tb t).k = .slice e) {v : Value} {r : Reach} {b0 : Nat} (hval : Value.okWide P w r b0 t v) : v.cells.toList = [v] := by
 obtain ⟨d, h2, h3⟩ := (htb t).under (by rw [hk]; rfl)
 rw [hk] at h3
 simp only [TKok] at h3
 subst h3
 cases v <;> first | rfl | (exfalso; simp [Value.okWide, h2, Cell.okWide, Cell.ok] at hval)
end
end Go.VA

namespace Go.VA
open Go Go.RowKit Go.ChangeShapes Go.WideShapes Go.ChangeAt

end Go.VA

namespace Go.VA
open Go Go.RowKit
/-! ### two rows change their numbers -/
def swN (i j k : Nat) : Nat := match Nat.beq k i with
 | true => j
 | false => match Nat.beq k j with
  | true => i
  | false => k
theorem swN_eq (i j k : Nat) : swN i j k = if k = i then j else if k = j then i else k := by
 unfold swN
 split
 ·rename_i h; rw [if_pos (Nat.beq_spec h)]
 ·rename_i h
  rw [if_neg (fun e => by subst e; simp at h)]
  split
  ·rename_i h2; rw [if_pos (Nat.beq_spec h2)]
  ·rename_i h2; rw [if_neg (fun e => by subst e; simp at h2)]
theorem swN_swN (i j k : Nat) : swN i j (swN i j k) = k := by
 simp only [swN_eq]
 repeat' split
 all_goals omega
mutual
def swA (i j : Nat) : AV → AV
 | .agx xs => .agx (swAs i j xs)
 | .ptr id off => .ptr (swN i j id) off
 | .pe id esz x k => .pe (swN i j id) esz x k
 | .own id esz off len => .own (swN i j id) esz off len
 | .tup xs => .tup (swAs i j xs)
 | .fn f a b => .fn f (swAs i j a) (swAs i j b)
 | .gd s w x => .gd s w (swA i j x)
 | .mpv id => .mpv (swN i j id)
 | x => x
def swAs (i j : Nat) : List AV → List AV
 | [] => []
 | x :: r => swA i j x :: swAs i j r
end
def swO (i j : Nat) : AO → AO
 | .box xs => .box (swAs i j xs)
 | .amb vs xs => .amb vs (swAs i j xs)
 | x => x
def swE (i j : Nat) : Env → Env
 | [] => []
 | (s, x) :: r => (s, swA i j x) :: swE i j r
def mapO (i j : Nat) : List AO → List AO
 | [] => []
 | x :: r => swO i j x :: mapO i j r
def swL (i j : Nat) (L : List AO) : List AO := mapO i j (setO (setO L i (getO L j)) j (getO L i))
def swB (i j : Nat) (B : List (Option BI)) : List (Option BI) := (List.range B.length).map fun k => (B[swN i j k]?).getD none
theorem swB_get {i j : Nat} {B : List (Option BI)} (hi : i < B.length) (hj : j < B.length) (k : Nat) : (swB i j B)[k]? = B[swN i j k]? := by
 unfold swB
 rw [List.getElem?_map]
 rcases Nat.lt_or_ge k B.length with h | h
 ·have h2 : swN i j k < B.length := by rw [swN_eq]; (repeat' split) <;> omega
  rw [List.getElem?_eq_getElem (by simpa using h), List.getElem?_eq_getElem h2]
  simp
  rw [List.getElem?_eq_getElem h2]
  rfl
 ·have h2 : B.length ≤ swN i j k := by rw [swN_eq]; (repeat' split) <;> omega
  rw [List.getElem?_eq_none (by simpa using h), List.getElem?_eq_none h2]
  rfl
theorem swB_len (i j : Nat) (B : List (Option BI)) : (swB i j B).length = B.length := by simp [swB]
theorem setO_len : ∀ (L : List AO) (i : Nat) (x : AO), (setO L i x).length = L.length
 | [], _, _ => rfl
 | _ :: _, 0, _ => rfl
 | _ :: r, n + 1, x => by simp [setO, setO_len r n x]
theorem getO_mapO (i j : Nat) : ∀ (L : List AO) (k : Nat), getO (mapO i j L) k = swO i j (getO L k)
 | [], _ => rfl
 | _ :: _, 0 => rfl
 | _ :: r, n + 1 => getO_mapO i j r n
theorem mapO_len (i j : Nat) : ∀ (L : List AO), (mapO i j L).length = L.length
 | [] => rfl
 | _ :: r => by simp [mapO, mapO_len i j r]
theorem swL_len (i j : Nat) (L : List AO) : (swL i j L).length = L.length := by unfold swL; rw [mapO_len, setO_len, setO_len]
theorem getO_swL {i j : Nat} {L : List AO} (hi : i < L.length) (hj : j < L.length) (k : Nat) : getO (swL i j L) k = swO i j (getO L (swN i j k)) := by
 unfold swL
 rw [getO_mapO, getO_setO _ _ _ _ (by rw [setO_len]; exact hj), getO_setO _ _ _ _ hi, swN_eq]
 by_cases h1 : k = j
 ·subst h1
  rw [if_pos rfl]
  by_cases h2 : k = i
  ·subst h2; simp
  ·rw [if_neg h2, if_pos rfl]
 ·rw [if_neg h1]
  by_cases h2 : k = i
  ·rw [if_pos h2, if_pos h2]
  ·rw [if_neg h2, if_neg h2, if_neg h1]
theorem swO_live (i j : Nat) (x : AO) : (swO i j x).live = x.live := by cases x <;> rfl
theorem swO_kd (i j : Nat) (x : AO) : (swO i j x).kd = x.kd := by cases x <;> rfl
theorem gkey_swA (i j : Nat) (x : AV) : gkey (swA i j x) = gkey x := by cases x <;> rfl
theorem get_swE (i j : Nat) : ∀ (env : Env) (t : Nat), get (swE i j env) t = swA i j (get env t)
 | [], t => rfl
 | (s, x) :: r, t => by
  simp only [swE, get]
  split
  ·rfl
  ·exact get_swE i j r t
mutual
theorem RelV.sw {i j : Nat} {B : List (Option BI)} {S : Rd} (hi : i < B.length) (hj : j < B.length) : ∀ (x : AV) (u : Value), RelV B S x u → RelV (swB i j B) S (swA i j x) u
 | .any, _, _ => by simp [swA, RelV]
 | .c x, u, hh => hh
 | .ag xs, u, hh => hh
 | .agx xs, u, hh => by
  simp only [swA, RelV] at hh ⊢
  obtain ⟨arr, hu, h0, h1⟩ := hh
  exact ⟨arr, hu, h0, RelVs.sw hi hj xs _ h1⟩
 | .ptr id off, u, hh => by
  simp only [swA, RelV] at hh ⊢
  obtain ⟨bi, h1, h2⟩ := hh
  exact ⟨bi, by rw [swB_get hi hj, swN_swN]; exact h1, h2⟩
 | .pe id esz x k, u, hh => by
  simp only [swA, RelV] at hh ⊢
  obtain ⟨bi, h1, h2⟩ := hh
  exact ⟨bi, by rw [swB_get hi hj, swN_swN]; exact h1, h2⟩
 | .sp t xs k, u, hh => hh
 | .own id esz off len, u, hh => by
  simp only [swA, RelV] at hh ⊢
  rw [swB_get hi hj, swN_swN]
  exact hh
 | .tup xs, u, hh => by
  simp only [swA, RelV] at hh ⊢
  obtain ⟨arr, hu, h1⟩ := hh
  exact ⟨arr, hu, RelVs.sw hi hj xs _ h1⟩
 | .fn f first cap, u, hh => by
  simp only [swA, RelV] at hh ⊢
  obtain ⟨a1, a2, hu, h1, h2⟩ := hh
  exact ⟨a1, a2, hu, RelVs.sw hi hj first _ h1, RelVs.sw hi hj cap _ h2⟩
 | .gd .., _, _ => by simp [swA, RelV]
 | .mpv id, u, hh => by
  simp only [swA, RelV] at hh ⊢
  obtain ⟨bi, h1, h2⟩ := hh
  exact ⟨bi, by rw [swB_get hi hj, swN_swN]; exact h1, h2⟩
 | .ub p, u, hh => hh
theorem RelVs.sw {i j : Nat} {B : List (Option BI)} {S : Rd} (hi : i < B.length) (hj : j < B.length) : ∀ (xs : List AV) (us : List Value), RelVs B S xs us → RelVs (swB i j B) S (swAs i j xs) us
 | [], _, hh => hh
 | x :: xs, us, hh => by
  simp only [swAs, RelVs] at hh ⊢
  obtain ⟨u, r, h1, h2, h3⟩ := hh
  exact ⟨u, r, h1, RelV.sw hi hj x u h2, RelVs.sw hi hj xs r h3⟩
end
theorem RelSl.sw {i j : Nat} {B : List (Option BI)} {S : Rd} {a : Act} (hi : i < B.length) (hj : j < B.length) : ∀ (x : AV) (u : Value), RelSl B S a x u → RelSl (swB i j B) S a (swA i j x) u := fun x u h => by
 cases hk : gkey x with
 | none => exact (relSl_iff (by rw [gkey_swA]; exact hk)).2 (RelV.sw hi hj _ _ ((relSl_iff hk).1 h))
 | some k =>
  cases x <;> simp only [gkey, reduceCtorEq] at hk
  exact ⟨fun e => RelV.sw hi hj _ _ (h.1 e), h.2⟩
theorem RelO.sw {i j : Nat} {B : List (Option BI)} {S : Rd} {w : World} (hi : i < B.length) (hj : j < B.length) {x : AO} {bo : Option BI} (h : RelO B S w x bo) : RelO (swB i j B) S w (swO i j x) bo := by
 cases x with
 | box xs =>
  simp only [swO, RelO] at h ⊢
  obtain ⟨bi, cs, ty, h1, h2, h3, h4, h5, h6⟩ := h
  exact ⟨bi, cs, ty, h1, h2, h3, h4, h5, RelVs.sw hi hj _ _ h6⟩
 | row e n f => cases bo <;> exact h
 | frz e n f => cases bo <;> exact h
 | mp m => exact h
 | amb vs xs => exact RelVs.sw hi hj _ _ h
 | dead => exact h
theorem swN_ro {i j k ro : Nat} (hi : ro ≤ i) (hj : ro ≤ j) (h : ro ≤ k) : ro ≤ swN i j k := by rw [swN_eq]; (repeat' split) <;> omega
theorem swN_lo {i j k ro : Nat} (hi : ro ≤ i) (hj : ro ≤ j) (h : k < ro) : swN i j k = k := by rw [swN_eq, if_neg (by omega), if_neg (by omega)]
theorem MU_sw {M : Mz} {i j : Nat} {B : List (Option BI)} {L : List AO} (hlen : B.length = L.length) (hi : i < L.length) (hj : j < L.length) (ri : M.ro ≤ i) (rj : M.ro ≤ j) (t : Bool) (b : Nat) (h : MU M (swB i j B) (swL i j L) t b) : MU M B L t b := by
 have hiB : i < B.length := by omega
 have hjB : j < B.length := by omega
 cases t with
 | false =>
  rcases h with h | ⟨id, bi, h1, h2, h3⟩
  ·exact .inl h
  ·rw [swB_get hiB hjB] at h1
   rw [getO_swL hi hj, swO_live] at h3
   exact .inr ⟨_, bi, h1, h2, h3⟩
 | true =>
  rcases h with h | ⟨id, bi, h0, h1, h2, h3⟩
  ·exact .inl h
  ·rw [swB_get hiB hjB] at h1
   rw [getO_swL hi hj, swO_live] at h3
   exact .inr ⟨_, bi, swN_ro ri rj h0, h1, h2, h3⟩
theorem St.sw {X : Fx} {B : List (Option BI)} {env : Env} {L : List AO} {a : Act} {w : World} (h : St X B env L a w) {i j : Nat} (ri : X.M.ro ≤ i) (rj : X.M.ro ≤ j) (hi : i < L.length) (hj : j < L.length)
  (ki : (getO L i).kd = 3) (kj : (getO L j).kd = 3) : St X (swB i j B) (swE i j env) (swL i j L) a w ∧ (Sr X.M B L w).le (Sr X.M (swB i j B) (swL i j L) w) := by
 have hlen := h.relL.len
 have hiB : i < B.length := by omega
 have hjB : j < B.length := by omega
 have hle : (Sr X.M B L w).le (Sr X.M (swB i j B) (swL i j L) w) := fun t b o u hh => ⟨fun hm => hh.1 (MU_sw hlen hi hj ri rj t b hm), hh.2⟩
 refine ⟨⟨⟨by rw [swB_len, swL_len]; exact hlen, fun id bi hb => ?_, h.relL.mbnd, fun id bi hb hl => ?_, fun p q bp bq hpq hp hq hlp hlq => ?_, fun id bo hb => ?_⟩, h.glob.mono hle, fun t => ?_, h.below, fun id bi h0 hb hl => ?_, fun id hid => ?_, by rw [swL_len]; exact h.rol, by rw [swL_len]; exact h.l0, fun id i0 i1 => ?_, h.dfr, h.sz⟩, hle⟩
 ·rw [swB_get hiB hjB] at hb
  exact h.relL.bnd _ bi hb
 ·rw [swB_get hiB hjB] at hb
  rw [getO_swL hi hj, swO_live] at hl
  exact h.relL.notM _ bi hb hl
 ·rw [swB_get hiB hjB] at hp hq
  rw [getO_swL hi hj, swO_live] at hlp hlq
  exact h.relL.dist _ _ bp bq (fun e => hpq (by rw [← swN_swN i j p, e, swN_swN])) hp hq hlp hlq
 ·rw [swB_get hiB hjB] at hb
  rw [getO_swL hi hj]
  have := RelO.sw (B := B) hiB hjB (h.relL.obj _ bo hb)
  revert this
  have hm : ∀ (x : AO), RelO (swB i j B) (Sr X.M B L w) w x bo → RelO (swB i j B) (Sr X.M (swB i j B) (swL i j L) w) w x bo := fun x hx => RelO_keep hle x bo (fun _ _ _ => rfl) hx
  exact hm _
 ·rw [get_swE]
  have := RelSl.sw (a := a) hiB hjB _ _ (h.relE t)
  exact RelSl.mono (Ble.refl _) hle _ _ this
 ·rw [swB_get hiB hjB] at hb
  rw [getO_swL hi hj, swO_live] at hl
  exact h.fresh _ bi (swN_ro ri rj h0) hb hl
 ·have e := swN_lo ri rj hid
  rw [swB_get hiB hjB, getO_swL hi hj, swO_live, e]
  exact h.old id hid
 ·rw [swL_len] at i1
  rw [getO_swL hi hj, swO_kd, swB_get hiB hjB]
  by_cases e : swN i j id = id
  ·rw [e]
   exact h.knd id i0 i1
  ·have h3 : (getO L id).kd = 3 ∧ (getO L (swN i j id)).kd = 3 := by
    rw [swN_eq] at e ⊢
    by_cases e1 : id = i
    ·subst e1; rw [if_pos rfl]; exact ⟨ki, kj⟩
    ·rw [if_neg e1] at e ⊢
     by_cases e2 : id = j
     ·subst e2; rw [if_pos rfl]; exact ⟨kj, ki⟩
     ·rw [if_neg e2] at e; exact absurd rfl e
   rcases h.knd id i0 i1 with h6 | ⟨h6, _⟩
   ·rw [h3.1] at h6; cases h6
   ·exact .inr ⟨by rw [h3.2, ← h6, h3.1], fun h8 => absurd h3.2 h8⟩
end Go.VA

namespace Go.VA
open Go Go.RowKit
section
variable {P : Program} {gl : Gl}
/-- what a call hands back: two rows change their numbers, and what lies behind is forgotten -/
theorem GCall.sw {f : Nat} {pre post : List AO} {args res : List AV} (h : GCall P gl f pre args post res) (i j : Nat) (post' : List AO) (hcl : (retA res).closed = true)
  (hi : i < post.length) (hj : j < post.length) (ki : (getO post i).kd = 3) (kj : (getO post j).kd = 3) (hm : pre.length ≤ post'.length) (hm2 : post'.length ≤ post.length)
  (hp : ∀ id, id < post'.length → LeO post'.length post'.length (getO (swL i j post) id) (getO post' id))
  (kinds : ∀ id, id < pre.length → (getO post' id).kd = (getO pre id).kd) (liveq : ∀ id, id < post'.length → (getO post' id).live = true) : GCall P gl f pre args post' res where
 callable := h.callable
 len := hm
 kinds := kinds
 livep := h.livep
 liveq := liveq
 run := fun w M B vals hro hL hG hv => (h.run w M B vals hro hL hG hv).mono fun e w' ⟨u, B', he, hf, hrel, hu, hb1, hb2⟩ => by
  have hlen := hrel.len
  have hiB : i < B'.length := by omega
  have hjB : j < B'.length := by omega
  have hget : ∀ (id : Nat) (bo : Option BI), ((swB i j B').take post'.length)[id]? = some bo → id < post'.length ∧ B'[swN i j id]? = some bo := fun id bo hb => by
   have hid : id < post'.length := by
    rcases Nat.lt_or_ge id post'.length with h3 | h3
    ·exact h3
    ·rw [List.getElem?_eq_none (by simp; omega)] at hb; simp at hb
   rw [List.getElem?_take_of_lt hid, swB_get hiB hjB] at hb
   exact ⟨hid, hb⟩
  have hlive : ∀ id, id < post'.length → (getO post' id).live = true → (getO post (swN i j id)).live = true := fun id hid hl => by
   have := (hp id hid).live hl
   rw [getO_swL hi hj, swO_live] at this
   exact this
  have hmu : ∀ t b, MU M ((swB i j B').take post'.length) post' t b → MU M B' post t b := fun t b hm => by
   cases t with
   | false =>
    rcases hm with hm | ⟨id, bi, h1, h2, h3⟩
    ·exact .inl hm
    ·obtain ⟨k1, k2⟩ := hget id _ h1
     exact .inr ⟨_, bi, k2, h2, hlive id k1 h3⟩
   | true =>
    rcases hm with hm | ⟨id, bi, h0, h1, h2, h3⟩
    ·exact .inl hm
    ·obtain ⟨k1, k2⟩ := hget id _ h1
     exact .inr ⟨_, bi, by rw [hro]; exact Nat.zero_le _, k2, h2, hlive id k1 h3⟩
  have hle : (Sr M B' post w').le (Sr M ((swB i j B').take post'.length) post' w') := fun t b o u hh => ⟨fun hm => hh.1 (hmu t b hm), hh.2⟩
  refine ⟨u, (swB i j B').take post'.length, he, hf, ⟨by rw [List.length_take, swB_len]; omega, fun id bi hb => hrel.bnd _ bi (hget id _ hb).2, hrel.mbnd, fun id bi hb hl => ?_, fun p q bp bq hpq hbp hbq hlp hlq => ?_, fun id bo hb => ?_⟩, ?_, fun id bi hb => hb1 _ bi (hget id _ hb).2, fun id hid hk => ?_⟩
  ·obtain ⟨k1, k2⟩ := hget id _ hb
   exact hrel.notM _ bi k2 (hlive id k1 hl)
  ·obtain ⟨k1, k2⟩ := hget p _ hbp
   obtain ⟨k3, k4⟩ := hget q _ hbq
   exact hrel.dist _ _ bp bq (fun e => hpq (by rw [← swN_swN i j p, e, swN_swN])) k2 k4 (hlive p k1 hlp) (hlive q k3 hlq)
  ·obtain ⟨k1, k2⟩ := hget id _ hb
   have h1 := RelO.sw (i := i) (j := j) (B := B') hiB hjB (hrel.obj _ bo k2)
   rw [← getO_swL hi hj] at h1
   exact RelO.cut hle (by rw [swB_len]; omega) (fun k h2 h3 => absurd h3 (Nat.not_lt.2 h2)) (hp id k1) h1
  ·exact closed_rel hle _ _ hcl hu
  ·have hid' : id < post'.length := by omega
   have hk3 : swN i j id = id := by
    rw [swN_eq]
    by_cases e1 : id = i
    ·exact absurd ((kinds id hid).trans ((h.kinds id hid).symm.trans (e1 ▸ ki))) hk
    ·rw [if_neg e1]
     by_cases e2 : id = j
     ·exact absurd ((kinds id hid).trans ((h.kinds id hid).symm.trans (e2 ▸ kj))) hk
     ·rw [if_neg e2]
   rw [List.getElem?_take_of_lt hid', swB_get hiB hjB, hk3]
   exact hb2 id hid (by rw [h.kinds id hid, ← kinds id hid]; exact hk)
end
/-- arguments, written no more -/
def frzAs (ro : Nat) : List AO → List AV → (List AV → List AO → Prop) → Prop
 | L, [], K => K [] L
 | L, x :: r, K => frzA ro L x fun y L => frzAs ro L r fun ys L => K (y :: ys) L
theorem frzAs_sound {ro : Nat} : ∀ (xs : List AV) (L : List AO) {K : List AV → List AO → Prop}, frzAs ro L xs K → ∃ ys L', K ys L' ∧
  ∀ (X : Fx) (B : List (Option BI)) (env : Env) (a : Act) (w : World) (us : List Value), X.M.ro = ro → St X B env L a w → RelVs B (Sr X.M B L w) xs us →
   St X B env L' a w ∧ (Sr X.M B L w).le (Sr X.M B L' w) ∧ RelVs B (Sr X.M B L' w) ys us
 | [], L, K, h => ⟨[], L, h, fun _ _ _ _ _ _ _ hS hu => ⟨hS, Rd.le_refl _, hu⟩⟩
 | x :: xs, L, K, h => by
  simp only [frzAs] at h
  obtain ⟨y, L1, h1, hy⟩ := frzA_sound h
  obtain ⟨ys, L2, h2, hys⟩ := frzAs_sound xs L1 h1
  refine ⟨_, _, h2, fun X B env a w us hX hS hu => ?_⟩
  simp only [RelVs] at hu ⊢
  obtain ⟨u, r, rfl, k1, k2⟩ := hu
  obtain ⟨s1, l1, r1⟩ := hy X B env a w u hX hS k1
  obtain ⟨s2, l2, r2⟩ := hys X B env a w r hX s1 (RelVs.mono (Ble.refl B) l1 _ _ k2)
  exact ⟨s2, Rd.le_trans l1 l2, u, r, rfl, RelV.mono (Ble.refl B) l2 _ _ r1, r2⟩
section
variable {P : Program} {tb : TB} {gl : Gl}
/-- ahead of a call its arguments' rows are written no more -/
theorem xc_frzA {f : AV} {args : List AV} {ro : Nat} {env : Env} {L : List AO} {K : AV → Env → List AO → Prop} (h : frzAs ro L args fun ys L' => XCall P gl ro f ys env L' K) : XCall P gl ro f args env L K where
 h X B a w o c fo hgl hro hS ho hc hf hargs := by
  obtain ⟨ys, L', h1, h2⟩ := frzAs_sound args L h
  obtain ⟨s1, l1, r1⟩ := h2 X B env a w _ hro hS hargs
  exact h1.h X B a w o c fo hgl hro s1 ho hc (RelV.mono (Ble.refl B) l1 _ _ hf) r1
end
end Go.VA

namespace Go.VA
open Go Go.RowKit
/-! ### Keys that rise -/
theorem bytesLess_trans : ∀ l m n : List UInt8, Op.bytesLess l m = true → Op.bytesLess m n = true → Op.bytesLess l n = true
 | _, [], _, h, _ => by rename_i l n; cases l <;> simp [Op.bytesLess] at h
 | _, _ :: _, [], _, h => by simp [Op.bytesLess] at h
 | [], _ :: _, _ :: _, _, _ => rfl
 | x :: r, y :: s, z :: t, h, k => by
  simp only [Op.bytesLess, Bool.or_eq_true, decide_eq_true_eq, Bool.and_eq_true, beq_iff_eq] at h k ⊢
  rcases h with h | ⟨rfl, h⟩
  ·rcases k with k | ⟨rfl, k⟩
   ·exact .inl (UInt8.lt_trans h k)
   ·exact .inl h
  ·rcases k with k | ⟨rfl, k⟩
   ·exact .inl k
   ·exact .inr ⟨rfl, bytesLess_trans r s t h k⟩
/-- rising -/
abbrev Srt (l : List ByteArray) : Prop := l.Pairwise fun a b => bl a b = true
theorem bl_irr (a : ByteArray) : bl a a = false := bytesLess_irr _
theorem srt_of_next : ∀ {l : List ByteArray}, (∀ (i : Nat) a b, l[i]? = some a → l[i + 1]? = some b → bl a b = true) → Srt l
 | [], _ => List.Pairwise.nil
 | [x], _ => List.pairwise_singleton _ x
 | x :: y :: r, h => by
  have ih : Srt (y :: r) := srt_of_next fun i a b ha hb => h (i + 1) a b (by simpa using ha) (by simpa using hb)
  have hxy := h 0 x y rfl rfl
  refine List.pairwise_cons.2 ⟨fun z hz => ?_, ih⟩
  rcases List.mem_cons.1 hz with rfl | hz
  ·exact hxy
  ·exact bytesLess_trans _ _ _ hxy ((List.pairwise_cons.1 ih).1 z hz)
theorem keysOk_at {ks : List ByteArray} : ∀ {l : List ByteArray} {c : Nat}, keysOk ks l c = true → ∀ (i : Nat) x, l[i]? = some x → keyOk ks (c + i) x = false
 | [], _, _, i, x, hx => by simp at hx
 | y :: r, c, h, i, x, hx => by
  simp only [keysOk] at h
  cases hk : keyOk ks c y
  ·rw [hk, if_neg (by decide)] at h
   cases i with
   | zero => simp at hx; subst hx; exact hk
   | succ i =>
    have := keysOk_at h i x (by simpa using hx)
    rwa [show c + 1 + i = c + (i + 1) from by omega] at this
  ·rw [hk, if_pos rfl] at h; exact absurd h (by decide)
theorem keysOk_srt {ks : List ByteArray} (h : keysOk ks ks 0 = true) (hl : ks.length ≤ 1000000) : Srt ks := by
 refine srt_of_next fun i a b ha hb => ?_
 have hi : i + 1 < ks.length := (List.getElem?_eq_some_iff.1 hb).1
 have := keysOk_at h (i + 1) b hb
 unfold keyOk at this
 have h0 : decide (((0 + (i + 1) : Nat) : Int) > 0) = true := decide_eq_true (by omega)
 have h1 : IntKind.i64.wrap (((0 + (i + 1) : Nat) : Int) - 1) = i := by rw [wrap64 (by omega) (by omega)]; omega
 rw [h0, h1, Int.toNat_natCast] at this
 have ea : ks.getD i ByteArray.empty = a := by rw [List.getD_eq_getElem?_getD, ha]; rfl
 rw [ea] at this
 simp only [Bool.or_eq_false_iff, Bool.true_and, Bool.not_eq_false'] at this
 exact this.2
theorem Ok.keys {v : V} (h : Ok v) : keysOk v.ks v.ks 0 = true ∧ v.l.length ≤ 128 := by
 obtain ⟨d, h⟩ := h
 rw [checkRV_eq] at h
 by_cases h1 : chk1 v d = true
 ·simp [h1] at h
 by_cases h2 : chk2 v = true
 ·simp [h1, h2] at h
 by_cases h3 : chk3 v = true
 ·simp [h1, h2, h3] at h
 by_cases h4 : chk4 v = true
 ·simp [h1, h2, h3, h4] at h
 by_cases h5 : chk5 v = true
 ·simp [h1, h2, h3, h4, h5] at h
 by_cases h6 : chk6 v = true
 ·simp [h1, h2, h3, h4, h5, h6] at h
 by_cases h7 : keysOk v.ks v.ks 0 = true
 ·refine ⟨h7, ?_⟩
  simp only [chk5, Bool.or_eq_true, decide_eq_true_eq, not_or] at h5
  omega
 ·simp [h1, h2, h3, h4, h5, h6, h7] at h
theorem Ok.srt {v : V} (h : Ok v) : Srt v.ks := by
 obtain ⟨a, b⟩ := h.keys
 by_cases h5 : v.k = 5
 ·exact keysOk_srt a (by rw [h.f.ks5 h5]; omega)
 ·rw [h.f.ks h5]; exact List.Pairwise.nil
end Go.VA
