/- An executor of the model over symbolic values, and the proof that what it shows of a function holds of every call: no condition. -/
import Derived.Test.YtnciaeadkbnppaaDoorVC
import Derived.Laws.Strings
import Derived.ProofKit
import Derived.SizedLaws
import Derived.LaidMore
import Derived.OpenShut
import Derived.MakeChecks
import Derived.Stop.Joined
import Derived.Carry
import Derived.WideKeyRuns
set_option linter.unusedSimpArgs false
set_option linter.unusedVariables false
set_option linter.unusedSectionVars false
set_option linter.unnecessarySimpa false
namespace Go.VA
open Go Go.RowKit


mutual
def NtC : C → Prop
  | .v _ => True
  | .emp => True
  | .sl t _ n f => t = false ∧ ∀ i, i < n → NtCs (f i)
def NtCs : List C → Prop
  | [] => True
  | x :: r => NtC x ∧ NtCs r
end
section
variable {S S' : Rd} (hF : ∀ b o v, S false b o v → S' false b o v)
include hF
mutual
theorem NtC.rep : ∀ (x : C) (u : Value), NtC x → RepC S x u → RepC S' x u
  | .v _, _, _, h => by simpa [RepC] using h
  | .emp, _, _, h => by simpa [RepC] using h
  | .sl t esz n f, u, hn, h => by
    simp only [NtC] at hn
    obtain ⟨rfl, hn⟩ := hn
    simp only [RepC] at h ⊢
    obtain ⟨a, cap, hu, hc, h1⟩ := h
    refine ⟨a, cap, hu, hc, ?_⟩
    rcases h1 with h1 | ⟨b, o, ha, h1⟩
    · exact .inl h1
    · exact .inr ⟨b, o, ha, fun i hi => ⟨(h1 i hi).1, NtCs.reps (R := S false b) (R' := S' false b) (hF b) (f i) _ (hn i hi) (h1 i hi).2⟩⟩
theorem NtCs.reps {R R' : Nat → Value → Prop} (hR : ∀ o u, R o u → R' o u) : ∀ (xs : List C) (o : Nat), NtCs xs → RepCs S R o xs → RepCs S' R' o xs
  | [], _, _, _ => by simp [RepCs]
  | x :: xs, o, hn, h => by
    simp only [NtCs] at hn
    simp only [RepCs] at h ⊢
    obtain ⟨⟨u, h1, h2⟩, h3⟩ := h
    exact ⟨⟨u, hR o u h1, NtC.rep x u hn.1 h2⟩, NtCs.reps hR xs _ hn.2 h3⟩
end
theorem NtCs.vs : ∀ (xs : List C) (us : List Value), NtCs xs → RepVs S xs us → RepVs S' xs us
  | [], _, _, h => by simpa [RepVs] using h
  | x :: xs, us, hn, h => by
    simp only [NtCs] at hn
    simp only [RepVs] at h ⊢
    obtain ⟨u, r, h1, h2, h3⟩ := h
    exact ⟨u, r, h1, NtC.rep hF x u hn.1 h2, NtCs.vs xs r hn.2 h3⟩
end


def DN (l : List Nat) : Prop := ∀ (i j : Nat) x, i ≠ j → l[i]? = some x → l[j]? = some x → False
theorem DN.tail {s : Nat} {r : List Nat} (h : DN (s :: r)) : s ∉ r ∧ DN r :=
  ⟨fun hm => by obtain ⟨i, hi, e⟩ := List.mem_iff_getElem.1 hm; exact h 0 (i + 1) s (by omega) rfl (by simp [List.getElem?_eq_getElem hi, e]), fun i j x hij hi hj => h (i + 1) (j + 1) x (by omega) (by simpa using hi) (by simpa using hj)⟩
end Go.VA

namespace Go.VA
open Go Go.RowKit

theorem RelO.ble {B B' : List (Option BI)} {S : Rd} {w : World} (hB : Ble B B') {x : AO} {bo : Option BI} (h : RelO B S w x bo) : RelO B' S w x bo := by
  cases x with
  | box xs =>
    obtain ⟨bi, cs, ty, e, h1, h2, h3, h4, h5⟩ := h
    exact ⟨bi, cs, ty, e, h1, h2, h3, h4, RelVs.mono hB (Rd.le_refl S) _ _ h5⟩
  | row e n f => cases bo <;> exact h
  | frz e n f => cases bo <;> exact h
  | mp m => exact h
  | amb vs xs => exact RelVs.mono hB (Rd.le_refl S) _ _ h
  | dead => trivial
theorem RelSl.ble {B B' : List (Option BI)} {S : Rd} {a : Act} (hB : Ble B B') {x : AV} {u : Value} (h : RelSl B S a x u) : RelSl B' S a x u := by
  cases x <;> simp only [RelSl] at h ⊢ <;> first | exact RelV.mono hB (Rd.le_refl S) _ _ h | exact ⟨fun e => RelV.mono hB (Rd.le_refl S) _ _ (h.1 e), h.2⟩
end Go.VA

namespace Go.VA
open Go Go.RowKit

def appA : List AV → List AV → List AV
  | [], r => r
  | x :: l, r => x :: appA l r
end Go.VA

namespace Go.VA
open Go Go.RowKit

theorem lenL_eq : ∀ l : List AO, lenL l = l.length
  | [] => rfl
  | _ :: r => by simp [lenL, lenL_eq r]
theorem refE_self {k n : Nat} : ∀ (env env0 : Env) (ws : List Nat), nodupE ws env = true → allLtE n env = true → (∀ t, t ∉ ws → get env0 t = get env t) → RefE env0 k n env
  | [], _, _, _, _, _ => trivial
  | (s, x) :: r, env0, ws, h, hl, hg => by
    simp only [nodupE] at h
    split at h
    · simp at h
    · rename_i hm
      have hs : s ∉ ws := fun e => by rw [memN_spec.2 e] at hm; simp at hm
      simp only [allLtE] at hl
      split at hl
      · rename_i hx
        refine ⟨⟨?_, hx⟩, refE_self r env0 (s :: ws) h hl fun t ht => ?_⟩
        · rw [hg s hs]
          exact LeE.of (Le.of_eq (by simp [get]))
        · simp only [List.mem_cons, not_or] at ht
          rw [hg t ht.2]
          simp only [get]
          split
          · rename_i e; exact absurd (Nat.beq_spec e).symm ht.1
          · rfl
      · simp at hl
theorem leAs_self {k n : Nat} : ∀ xs : List AV, AV.lts n xs = true → LeAs k n xs xs
  | [], _ => trivial
  | x :: xs, h => by
    simp only [AV.lts] at h
    split at h
    · rename_i hx; exact ⟨⟨LeE.of (Le.refl x), hx⟩, leAs_self xs h⟩
    · simp at h
theorem refL_self {q n : Nat} : ∀ L : List AO, allLtO n L = true → RefL q n L L
  | [], _ => trivial
  | x :: r, h => by
    simp only [allLtO] at h
    split at h
    · rename_i hx
      refine ⟨?_, refL_self r h⟩
      cases x with
      | box xs => exact leAs_self xs hx
      | row e k g => exact ⟨rfl, rfl, fun i _ => LeCs.refl _⟩
      | frz e k g => exact ⟨rfl, rfl, fun i _ => LeCs.refl _⟩
      | mp m => exact LeMs.refl m
      | amb vs xs => exact ⟨rfl, leAs_self xs hx⟩
      | dead => trivial
    · simp at h
theorem refR_self : ∀ (k : Nat) (L : List AO), k ≤ L.length → RefR k L L
  | 0, _, _ => trivial
  | k + 1, [], h => by simp at h
  | k + 1, x :: r, h => ⟨rfl, refR_self k r (by simpa using h)⟩
theorem RefS.self {ro n0 : Nat} {env : Env} {L : List AO} (h : selfOk ro n0 env L = true) : RefS ro n0 env L (env, L) := by
  unfold selfOk at h
  split at h
  · simp at h
  · rename_i h1
    split at h
    · simp at h
    · rename_i h2
      split at h
      · simp at h
      · rename_i h3
        split at h
        · simp at h
        · rename_i h4
          split at h
          · simp at h
          · rename_i h5
            rw [lenL_eq] at h3 h4 h5 h
            exact ⟨⟨refE_self env env [] h1 h3 fun _ _ => rfl, refL_self L h4, refR_self ro L (Nat.le_of_ble_eq_true h5), h⟩, h2⟩
theorem Then.mk' {s : Env × List AO} {K : Env → List AO → Prop} (h : K s.1 s.2) : Then s K := ⟨h⟩
end Go.VA

namespace Go.VA
open Go Go.RowKit
end Go.VA

namespace Go.VA
open Go Go.RowKit

abbrev W := BitVec 32
end Go.VA

namespace Go.VA
open Go Go.RowKit
def sl (a b c : Nat) (x : W) : W := x.rotateRight a ^^^ x.rotateRight b ^^^ (x >>> c)
end Go.VA

namespace Go.VA
open Go Go.RowKit
end Go.VA

namespace Go.VA
open Go Go.RowKit

inductive V where
  | mk (k i : Int) (s : ByteArray) (l : List V) (ks : List ByteArray) (tk to : Int) (sec : Bool)

namespace V
def k : V → Int | mk k _ _ _ _ _ _ _ => k
def i : V → Int | mk _ i _ _ _ _ _ _ => i
def s : V → ByteArray | mk _ _ s _ _ _ _ _ => s
def l : V → List V | mk _ _ _ l _ _ _ _ => l
def ks : V → List ByteArray | mk _ _ _ _ ks _ _ _ => ks
def tk : V → Int | mk _ _ _ _ _ tk _ _ => tk
def to : V → Int | mk _ _ _ _ _ _ to _ => to
def sec : V → Bool | mk _ _ _ _ _ _ _ sec => sec
def z : V := mk 0 0 ByteArray.empty [] [] 0 0 false
instance : Inhabited V := ⟨z⟩
theorem sz_mem {x : V} {v : V} (h : x ∈ v.l) : SizeOf.sizeOf x < SizeOf.sizeOf v := by
  cases v with
  | mk k i s l ks tk to sec =>
    have := List.sizeOf_lt_of_mem (show x ∈ l from h)
    simp
    omega
theorem ind {p : V → Prop} (h : ∀ v, (∀ x ∈ v.l, p x) → p v) (v : V) : p v := by
  have : ∀ n (v : V), SizeOf.sizeOf v < n → p v := by
    intro n
    induction n with
    | zero => intro v hv; omega
    | succ n ih => intro v hv; exact h v fun x hx => ih x (by have := sz_mem hx; omega)
  exact this _ v (Nat.lt_succ_self _)
end V

mutual
def V.fold {α : Type} (f : V → List α → α) : V → α
  | .mk k i s l ks tk to sec => f (.mk k i s l ks tk to sec) (V.foldL f l)
def V.foldL {α : Type} (f : V → List α → α) : List V → List α
  | [] => []
  | x :: r => V.fold f x :: V.foldL f r
end
theorem V.foldL_eq {α : Type} (f : V → List α → α) : ∀ l : List V, V.foldL f l = l.map (V.fold f)
  | [] => rfl
  | x :: r => by simp [V.foldL, V.foldL_eq f r]
theorem V.fold_eq {α : Type} (f : V → List α → α) (v : V) : V.fold f v = f v (v.l.map (V.fold f)) := by
  cases v; simp only [V.fold, V.l, V.foldL_eq]

def cS (s : ByteArray) : List C := [.v (.string s)]
abbrev rS (ks : List ByteArray) : Nat → List C := rowE cS ByteArray.empty ks

mutual
def cV0 : V → List C
  | .mk k i s l ks tk to sec => [.v (.int .i64 k), .v (.int .i64 i), .v (.string s), .sl false 8 l.length (rV l), .sl false 1 ks.length (rS ks), .v (.int .i64 tk), .v (.int .i64 to), .v (.bool sec)]
def rV : List V → Nat → List C
  | [], _ => []
  | x :: _, 0 => cV0 x
  | _ :: r, n + 1 => rV r n
end

def cVt (t t' : Bool) (v : V) : List C :=
  [.v (.int .i64 v.k), .v (.int .i64 v.i), .v (.string v.s), .sl t 8 v.l.length (rV v.l), .sl t' 1 v.ks.length (rS v.ks), .v (.int .i64 v.tk), .v (.int .i64 v.to), .v (.bool v.sec)]
abbrev cV (v : V) : List C := cVt false false v
theorem cV0_eq (v : V) : cV0 v = cV v := by cases v; rfl
theorem rV_get {l : List V} {i : Nat} (h : i < l.length) : rV l i = cV l[i] := by
  induction l generalizing i with
  | nil => simp at h
  | cons x r ih =>
    cases i with
    | zero => simp only [rV]; exact cV0_eq x
    | succ i => simp only [rV]; rw [ih (by simpa using h)]; rfl
theorem rV_getD {l : List V} {i : Nat} (h : i < l.length) : rV l i = cV (l.getD i V.z) := by
  rw [rV_get h]; simp [List.getD_eq_getElem?_getD, h]
theorem rV_snoc {l : List V} {x : V} {i : Nat} (h : i < l.length + 1) : catF 0 l.length (rV l) (nthC [cV x]) i = rV (l ++ [x]) i := by
  unfold catF
  by_cases hi : i < l.length
  · rw [if_pos hi, Nat.zero_add, rV_get hi, rV_get (by simp; omega)]
    congr 1
    rw [List.getElem_append_left hi]
  · rw [if_neg hi]
    obtain rfl : i = l.length := by omega
    rw [rV_get (by simp)]
    simp [nthC]
theorem rV_ex {l : List V} {c : Nat} (h : c < l.length) : ∃ x, l[c]? = some x ∧ x ∈ l ∧ rV l ((c : Int)).toNat = cV x :=
  ⟨l[c], List.getElem?_eq_getElem h, List.getElem_mem h, by rw [← rV_get h]; rfl⟩
theorem take_snoc? {α : Type} {l : List α} {c : Nat} {x : α} (h : l[c]? = some x) : l.take (c + 1) = l.take c ++ [x] := by
  obtain ⟨h1, h2⟩ := List.getElem?_eq_some_iff.1 h
  rw [List.take_succ_eq_append_getElem h1, h2]
theorem drop_cons? {α : Type} {l : List α} {c : Nat} {x : α} (h : l[c]? = some x) : l.drop c = x :: l.drop (c + 1) := by
  obtain ⟨h1, h2⟩ := List.getElem?_eq_some_iff.1 h
  rw [List.drop_eq_getElem_cons h1, h2]
def eqs (a b : ByteArray) : Bool := a.toList == b.toList
def eqSs : List ByteArray → List ByteArray → Bool
  | [], [] => true
  | x :: xs, y :: ys => eqs x y && eqSs xs ys
  | _, _ => false
def all2 {α β : Type} (p : α → β → Bool) : List α → List β → Bool
  | [], [] => true
  | x :: xs, y :: ys => p x y && all2 p xs ys
  | _, _ => false
theorem all2_map {α β γ : Type} (p : α → β → Bool) (g : γ → α) : ∀ (l : List γ) (m : List β), all2 p (l.map g) m = all2 (fun x y => p (g x) y) l m
  | [], [] => rfl
  | [], _ :: _ => rfl
  | _ :: _, [] => rfl
  | x :: l, y :: m => by simp [all2, all2_map p g l m]
theorem eqSs_len : ∀ {l m : List ByteArray}, l.length ≠ m.length → eqSs l m = false
  | [], [], h => absurd rfl h
  | [], _ :: _, _ => rfl
  | _ :: _, [], _ => rfl
  | x :: l, y :: m, h => by simp only [eqSs]; rw [eqSs_len (l := l) (m := m) (by simpa using h)]; simp
def fidx {α : Type} (p : α → Bool) : List α → Nat → Int
  | [], _ => -1
  | x :: r, i => if p x then i else fidx p r (i + 1)
theorem fidx_any {α : Type} (p : α → Bool) : ∀ (l : List α) (i : Nat), (decide (fidx p l i ≥ 0)) = l.any p
  | [], _ => by simp [fidx]
  | x :: r, i => by
    simp only [fidx, List.any_cons]
    by_cases h : p x = true
    · simp [h]
    · have := fidx_any p r (i + 1); simp [h] at this ⊢; exact this
theorem nthS {l : List ByteArray} {c : Nat} (h : c < l.length) : ∃ x, l[c]? = some x ∧ l.getD c ByteArray.empty = x :=
  ⟨l[c], List.getElem?_eq_getElem h, by simp [List.getD_eq_getElem?_getD, h]⟩
theorem take_get? {α : Type} {l : List α} {n c : Nat} {x : α} (hc : c < n) (h : l[c]? = some x) : (l.take n)[c]? = some x := by
  rw [List.getElem?_take, if_pos hc, h]
end Go.VA

namespace Go.VA
open Go Go.RowKit
abbrev Ty := Int × Int
def chk (p : Ty) : Bool := !(decide (p.1 < 0) || decide (p.1 > 5) || decide (p.2 < 0) || decide (p.2 > 3) || (!(p.1 == 4 || p.1 == 5) && p.2 != 0))
def chkR (p : Ty) : Bool := if (decide (p.1 < 0) || decide (p.1 > 5) || decide (p.2 < 0) || decide (p.2 > 3)) then false else (p.2 == 0 || decide (p.1 > 3))
def errc (p : Ty) : Int := if chk p then 0 else 1
def wi (a b : Ty) : Bool := if (errc a != 0 || errc b != 0) then false else (b.1 == 0 && b.2 == 0 || a.1 == b.1 && a.2 == b.2 || a.1 == b.1 && b.2 == 0)
def wiR (a b : Ty) : Bool := if (!chkR a || !chkR b) then false else (b.1 == 0 || a.1 == b.1 && a.2 == b.2 || a.1 == b.1 && b.2 == 0)
def tys : List Ty := [(0, 0), (1, 0), (2, 0), (3, 0), (4, 0), (4, 1), (4, 2), (4, 3), (5, 0), (5, 1), (5, 2), (5, 3)]
theorem chk_mem {a : Ty} (h : chk a = true) : a ∈ tys := by
  obtain ⟨k, o⟩ := a
  simp only [chk, Bool.not_eq_true', Bool.or_eq_false_iff, decide_eq_false_iff_not, Bool.and_eq_false_imp, Bool.not_eq_true, bne_eq_false_iff_eq] at h
  obtain ⟨⟨⟨⟨h1, h2⟩, h3⟩, h4⟩, h5⟩ := h
  have hk : k = 0 ∨ k = 1 ∨ k = 2 ∨ k = 3 ∨ k = 4 ∨ k = 5 := by omega
  have ho : o = 0 ∨ o = 1 ∨ o = 2 ∨ o = 3 := by omega
  rcases hk with rfl | rfl | rfl | rfl | rfl | rfl <;> rcases ho with rfl | rfl | rfl | rfl <;> first | decide | (exfalso; revert h5; decide)
theorem chkR_eq (a : Ty) : chkR a = chk a := by
  obtain ⟨k, o⟩ := a
  rw [Bool.eq_iff_iff]
  simp only [chk, chkR]
  split
  · simp at *; omega
  · simp at *; omega
namespace V
def t (v : V) : Ty := (v.tk, v.to)
end V
def nPairs (v : V) : Nat := min v.ks.length v.l.length
def nIt (v : V) : Nat := if v.k == 4 then v.l.length else if v.k == 5 then nPairs v else 0
theorem nPairs_le (v : V) : nPairs v ≤ v.l.length := by unfold nPairs; omega
theorem nPairs_le' (v : V) : nPairs v ≤ v.ks.length := by unfold nPairs; omega
theorem nIt_le (v : V) : nIt v ≤ v.l.length := by
  unfold nIt nPairs; split
  · omega
  · split <;> omega
theorem nIt_ks {v : V} (h : v.k = 5) : nIt v ≤ v.ks.length := by unfold nIt nPairs; rw [h]; simp; omega
def nKs (v : V) : Nat := if v.k != 5 then 0 else nPairs v
def items (v : V) : List V := v.l.take (nIt v)
def keys (v : V) : List ByteArray := v.ks.take (nKs v)
theorem items_len (v : V) : (items v).length = nIt v := by unfold items; have := nIt_le v; simp; omega
theorem items_mem {v x : V} (h : x ∈ items v) : x ∈ v.l := List.mem_of_mem_take h
theorem nKs_le (v : V) : nKs v ≤ v.ks.length := by unfold nKs nPairs; split <;> omega
theorem keys_len (v : V) : (keys v).length = nKs v := by unfold keys; have := nKs_le v; simp; omega

def weight : V → Int := V.fold fun v rs => (rs.take (nIt v)).foldl (fun n r => IntKind.i64.wrap (n + r)) 1
theorem weight_eq (v : V) : weight v = ((items v).map weight).foldl (fun n r => IntKind.i64.wrap (n + r)) 1 := by
  rw [weight, V.fold_eq, ← List.map_take]; rfl
def flat (a b : V) : Bool := a.k == b.k && a.i == b.i && eqs a.s b.s && (a.tk == b.tk && a.to == b.to) && a.sec == b.sec && (a.l.length : Int) == b.l.length && eqSs a.ks b.ks
def only (v : V) : V := .mk v.k (if v.k == 1 || v.k == 2 then v.i else 0) (if v.k == 3 then v.s else ByteArray.empty) (if v.k == 5 || v.k == 4 then v.l else []) (if v.k == 5 then v.ks else [])
  (if v.k == 6 then v.tk else 0) (if v.k == 6 then v.to else 0) v.sec
theorem only_k (v : V) : (only v).k = v.k := rfl
theorem only_i (v : V) : (only v).i = if v.k == 1 || v.k == 2 then v.i else 0 := rfl
theorem only_s (v : V) : (only v).s = if v.k == 3 then v.s else ByteArray.empty := rfl
theorem only_l (v : V) : (only v).l = if v.k == 5 || v.k == 4 then v.l else [] := rfl
theorem only_ks (v : V) : (only v).ks = if v.k == 5 then v.ks else [] := rfl
theorem only_tk (v : V) : (only v).tk = if v.k == 6 then v.tk else 0 := rfl
theorem only_to (v : V) : (only v).to = if v.k == 6 then v.to else 0 := rfl
theorem only_sec (v : V) : (only v).sec = v.sec := rfl
def keyOk (ks : List ByteArray) (c : Nat) (x : ByteArray) : Bool := decide ((x.size : Int) > 1024) || decide ((c : Int) > 0) && !(Op.bytesLess (ks.getD (IntKind.i64.wrap ((c : Int) - 1)).toNat ByteArray.empty).toList x.toList)
def keysOk (ks : List ByteArray) : List ByteArray → Nat → Bool
  | [], _ => true
  | x :: r, c => if keyOk ks c x then false else keysOk ks r (c + 1)
def shaped (v : V) : Bool :=
  if (decide (v.k < 0) || decide (v.k > 6) || !flat v (only v) || decide ((v.s.size : Int) > 1024) || decide ((v.l.length : Int) > 128)) then false
  else if v.k == 1 then shrI .i64 v.i 1 == 0
  else if v.k == 6 then errc v.t == 0
  else if v.k == 5 then (if (v.ks.length : Int) != v.l.length then false else keysOk v.ks v.ks 0)
  else true
def allV : V → Int → Bool := V.fold fun v rs d => if (d == 0 || !shaped v) then false else rs.all fun r => r (IntKind.i64.wrap (d - 1))
theorem allV_eq (v : V) (d : Int) : allV v d = if (d == 0 || !shaped v) then false else v.l.all fun x => allV x (IntKind.i64.wrap (d - 1)) := by
  rw [allV, V.fold_eq]
  simp only [List.all_map]
  rfl
def checkV (v : V) : Int := if (!allV v 8 || decide (weight v > 512)) then 1 else 0

def fits : V → Ty → Bool := V.fold fun v rs t =>
  if errc t != 0 then false
  else if (t.1 == 0 || v.k == 0) then true
  else if v.k == 6 then wi v.t t
  else if v.k != t.1 then false
  else !((rs.take (nIt v)).any fun r => !(r (t.2, 0)))
theorem fits_eq (v : V) (t : Ty) : fits v t = if errc t != 0 then false
  else if (t.1 == 0 || v.k == 0) then true
  else if v.k == 6 then wi v.t t
  else if v.k != t.1 then false
  else !((items v).any fun x => !(fits x (t.2, 0))) := by
  rw [fits, V.fold_eq, ← List.map_take, List.any_map]; rfl
def known : V → Bool := V.fold fun v rs => v.k != 6 && !((rs.take (nIt v)).any fun r => !r)
theorem known_eq (v : V) : known v = (v.k != 6 && !((items v).any fun x => !(known x))) := by
  rw [known, V.fold_eq, ← List.map_take, List.any_map]; rfl
def V.sm : V → Bool := V.fold fun v rs => decide (v.l.length ≤ 4294967296) && decide (v.ks.length ≤ 4294967296) && rs.all id
theorem V.sm_eq (v : V) : v.sm = (decide (v.l.length ≤ 4294967296) && decide (v.ks.length ≤ 4294967296) && v.l.all V.sm) := by
  rw [V.sm, V.fold_eq, List.all_map]; rfl
theorem V.sm_l {v : V} (h : v.sm = true) : v.l.length ≤ 4294967296 ∧ v.ks.length ≤ 4294967296 ∧ ∀ x ∈ v.l, x.sm = true := by
  rw [V.sm_eq] at h
  simp only [Bool.and_eq_true, decide_eq_true_eq, List.all_eq_true] at h
  exact ⟨h.1.1, h.1.2, h.2⟩
end Go.VA

namespace Go.VA
open Go Go.RowKit
theorem nKs_5 {v : V} (h : v.k = 5) : nKs v = nIt v := by unfold nKs nIt; rw [h]; simp
def fitsR : V → Ty → Bool := V.fold fun v rs t =>
  if !chkR t then false
  else if (t.1 == 0 || v.k == 0) then true
  else if v.k == 6 then wiR v.t t
  else if v.k != t.1 then false
  else (rs.take (nIt v)).all fun r => r (t.2, 0)
theorem fitsR_eq (v : V) (t : Ty) : fitsR v t = if !chkR t then false
  else if (t.1 == 0 || v.k == 0) then true
  else if v.k == 6 then wiR v.t t
  else if v.k != t.1 then false
  else (items v).all fun x => fitsR x (t.2, 0) := by
  rw [fitsR, V.fold_eq, ← List.map_take, List.all_map]; rfl
def sameR : V → V → Bool → Bool := V.fold fun a rs b m =>
  if (a.k != b.k || a.i != b.i || !eqs a.s b.s || !(a.tk == b.tk && a.to == b.to) || m && !(a.sec == b.sec) || (a.l.length : Int) != b.l.length || (a.ks.length : Int) != b.ks.length) then false
  else if !eqSs a.ks b.ks then false else all2 (fun r y => r y m) rs b.l
theorem sameR_eq (a b : V) (m : Bool) : sameR a b m =
  if (a.k != b.k || a.i != b.i || !eqs a.s b.s || !(a.tk == b.tk && a.to == b.to) || m && !(a.sec == b.sec) || (a.l.length : Int) != b.l.length || (a.ks.length : Int) != b.ks.length) then false
  else if !eqSs a.ks b.ks then false else all2 (fun x y => sameR x y m) a.l b.l := by
  rw [sameR, V.fold_eq, all2_map]
def chk1 (v : V) (d : Int) : Bool := decide (d < 1) || decide (v.k < 0) || decide (v.k > 6)
def chk2 (v : V) : Bool := v.k != 1 && v.k != 2 && v.i != 0 || v.k == 1 && v.i != 0 && v.i != 1
def chk3 (v : V) : Bool := v.k != 3 && !(v.s.toList == ({ data := #[] } : ByteArray).toList) || decide ((v.s.size : Int) > 1024)
def chk4 (v : V) : Bool := v.k != 6 && !(v.tk == 0 && v.to == 0) || v.k == 6 && !chkR v.t
def chk5 (v : V) : Bool := v.k != 4 && v.k != 5 && decide ((v.l.length : Int) > 0) || decide ((v.l.length : Int) > 128)
def chk6 (v : V) : Bool := v.k != 5 && decide ((v.ks.length : Int) > 0) || v.k == 5 && (v.ks.length : Int) != v.l.length
def checkRV : V → Int → Bool := V.fold fun v rs d =>
  if chk1 v d then false else if chk2 v then false else if chk3 v then false else if chk4 v then false else if chk5 v then false else if chk6 v then false
  else if !keysOk v.ks v.ks 0 then false else rs.all fun r => r (IntKind.i64.wrap (d - 1))
theorem checkRV_eq (v : V) (d : Int) : checkRV v d =
  if chk1 v d then false else if chk2 v then false else if chk3 v then false else if chk4 v then false else if chk5 v then false else if chk6 v then false
  else if !keysOk v.ks v.ks 0 then false else v.l.all fun x => checkRV x (IntKind.i64.wrap (d - 1)) := by
  rw [checkRV, V.fold_eq, List.all_map]; rfl
def checkR (v : V) : Bool := checkRV v 8 && decide (weight v ≤ 512)
def greatK : List ByteArray → Int → Int
  | [], n => n
  | k :: r, n => if decide (n ≤ 600) then greatK r (IntKind.i64.wrap (n + IntKind.i64.wrap ((if (4000 : Int) < k.size then 4000 else (k.size : Int)).tdiv 4))) else n
def greatL (d : Int) : List (Int → Int) → Int → Int
  | [], n => n
  | r :: rs, n => if decide (n ≤ 600) then greatL d rs (IntKind.i64.wrap (n + r (IntKind.i64.wrap (d - 1)))) else n
theorem greatK_stop {l : List ByteArray} {n : Int} (h : decide (n ≤ 600) = false) : greatK l n = n := by cases l <;> simp [greatK, h]
theorem greatL_stop {d : Int} {l : List (Int → Int)} {n : Int} (h : decide (n ≤ 600) = false) : greatL d l n = n := by cases l <;> simp [greatL, h]
theorem greatK_go {l : List ByteArray} {n : Int} {c : Nat} {x : ByteArray} (hx : l[c]? = some x) (h : n ≤ 600) :
    greatK (l.drop c) n = greatK (l.drop (c + 1)) (IntKind.i64.wrap (n + IntKind.i64.wrap ((if (4000 : Int) < x.size then 4000 else (x.size : Int)).tdiv 4))) := by
  rw [drop_cons? hx]; simp [greatK, h]
theorem greatL_go {d : Int} {l : List (Int → Int)} {n : Int} {c : Nat} {r : Int → Int} (hx : l[c]? = some r) (h : n ≤ 600) :
    greatL d (l.drop c) n = greatL d (l.drop (c + 1)) (IntKind.i64.wrap (n + r (IntKind.i64.wrap (d - 1)))) := by
  rw [drop_cons? hx]; simp [greatL, h]
def great0 (v : V) : Int := IntKind.i64.wrap (IntKind.i64.wrap (1 + IntKind.i64.wrap ((if (2000 : Int) < v.s.size then 2000 else (v.s.size : Int)).tdiv 4)) + (if (700 : Int) < v.ks.length then 700 else (v.ks.length : Int)))
def greatV : V → Int → Int := V.fold fun v rs d => if d == 0 then 601 else
  let n := greatL d rs (greatK v.ks (great0 v)); if 601 < n then 601 else n
theorem greatV_eq (v : V) (d : Int) : greatV v d = if d == 0 then 601 else
  let n := greatL d (v.l.map greatV) (greatK v.ks (great0 v)); if 601 < n then 601 else n := by
  rw [greatV, V.fold_eq]
end Go.VA

namespace Go.VA
open Go Go.RowKit
theorem eqs_refl (a : ByteArray) : eqs a a = true := by simp [eqs]
theorem eqSs_refl : ∀ l : List ByteArray, eqSs l l = true
  | [] => rfl
  | x :: r => by simp [eqSs, eqs_refl, eqSs_refl r]
theorem all2_refl {α : Type} {p : α → α → Bool} : ∀ {l : List α}, (∀ x ∈ l, p x x = true) → all2 p l l = true
  | [], _ => rfl
  | x :: r, h => by simp only [all2, Bool.and_eq_true]; exact ⟨h x (by simp), all2_refl fun y hy => h y (by simp [hy])⟩
theorem sameR_refl (v : V) : ∀ m, sameR v v m = true := by
  refine V.ind (p := fun v => ∀ m, sameR v v m = true) (fun v ih m => ?_) v
  rw [sameR_eq]
  simp [eqs_refl, eqSs_refl, all2_refl (p := fun x y => sameR x y m) fun x hx => ih x hx m]
theorem shr1 (i : Int) : (shrI .i64 i 1 == 0) = (i == 0 || i == 1) := by
  rw [Bool.eq_iff_iff]
  have h : shrI .i64 i 1 = i / 2 := by
    unfold shrI
    have : min ((1 : Int)).toNat IntKind.i64.bits = 1 := by decide
    rw [this]
    exact (Int.fdiv_eq_ediv_of_nonneg i (by decide))
  simp only [beq_iff_eq, Bool.or_eq_true, h]
  omega
theorem keysOk_nil (ks : List ByteArray) (c : Nat) : keysOk ks [] c = true := rfl
theorem wrap_small {d : Int} (h0 : 0 ≤ d) (h8 : d ≤ 8) : IntKind.i64.wrap (d - 1) = d - 1 := wrap64 (by omega) (by omega)
theorem eqs_emp (s : ByteArray) : eqs s ByteArray.empty = (s.toList == ({ data := #[] } : ByteArray).toList) := rfl
theorem eqSs_emp (l : List ByteArray) : eqSs l [] = decide (l.length = 0) := by cases l <;> simp [eqSs]
theorem shaped_law (v : V) (d : Int) (h1 : 1 ≤ d) :
    shaped v = (!chk1 v d && !chk2 v && !chk3 v && !chk4 v && !chk5 v && !chk6 v && keysOk v.ks v.ks 0) := by
  by_cases hk : v.k < 0 ∨ v.k > 6
  · have e1 : chk1 v d = true := by unfold chk1; simp; omega
    have e2 : shaped v = false := by
      unfold shaped
      rw [if_pos (by simp; omega)]
    rw [e1, e2]; rfl
  · have hd : chk1 v d = false := by unfold chk1; simp; omega
    have hr : v.k = 0 ∨ v.k = 1 ∨ v.k = 2 ∨ v.k = 3 ∨ v.k = 4 ∨ v.k = 5 ∨ v.k = 6 := by omega
    have kb : (decide (v.k < 0) || decide (v.k > 6)) = false := by simp; omega
    have hks : v.ks = [] → keysOk v.ks v.ks 0 = true := fun e => by rw [e]; rfl
    rw [hd]
    unfold shaped
    rw [kb]
    unfold flat chk2 chk3 chk4 chk5 chk6 errc
    rw [only_k, only_i, only_s, only_l, only_ks, only_tk, only_to, only_sec, ← chkR_eq]
    have e0 : v.t = (v.tk, v.to) := rfl
    obtain ⟨k, i, s, l, ks, tk, to, sec⟩ := v
    simp only [V.k, V.i, V.s, V.l, V.ks, V.tk, V.to, V.sec] at *
    rcases hr with rfl | rfl | rfl | rfl | rfl | rfl | rfl
    all_goals
      rw [Bool.eq_iff_iff]
      simp [eqs_refl, eqSs_refl, eqs_emp, eqSs_emp, shr1, e0]
      try (by_cases hl : l = [] <;> by_cases hq : ks = [] <;> simp [hl, hq, keysOk_nil, List.length_pos_iff])
      all_goals try grind
theorem all_congr' {α : Type} {p q : α → Bool} : ∀ {l : List α}, (∀ x ∈ l, p x = q x) → l.all p = l.all q
  | [], _ => rfl
  | x :: r, h => by simp only [List.all_cons]; rw [h x (by simp), all_congr' fun y hy => h y (by simp [hy])]
theorem allV_check (v : V) : ∀ d : Int, 0 ≤ d → d ≤ 8 → allV v d = checkRV v d := by
  refine V.ind (p := fun v => ∀ d : Int, 0 ≤ d → d ≤ 8 → allV v d = checkRV v d) (fun v ih d h0 h8 => ?_) v
  rw [allV_eq, checkRV_eq]
  by_cases hd : d = 0
  · subst hd; simp [chk1]
  · rw [shaped_law v d (by omega), all_congr' fun x hx => ih x hx (IntKind.i64.wrap (d - 1)) (by rw [wrap_small h0 h8]; omega) (by rw [wrap_small h0 h8]; omega)]
    have : (d == 0) = false := by simpa using hd
    rw [this]
    cases chk1 v d <;> cases chk2 v <;> cases chk3 v <;> cases chk4 v <;> cases chk5 v <;> cases chk6 v <;> cases keysOk v.ks v.ks 0 <;> rfl
theorem check_law (v : V) : (checkV v == 0) = checkR v := by
  unfold checkV checkR
  rw [allV_check v 8 (by decide) (by decide)]
  cases h : checkRV v 8 <;> by_cases hw : weight v > 512 <;> simp [hw] <;> omega
theorem eqs_iff {a b : ByteArray} : eqs a b = true ↔ a = b := by
  unfold eqs
  rw [beq_iff_eq]
  refine ⟨fun h => ?_, fun h => by rw [h]⟩
  rw [ByteArray.toList_eq, ByteArray.toList_eq] at h
  cases a; cases b
  simp at h
  simpa using h
def Ok (v : V) : Prop := ∃ d, checkRV v d = true
theorem ok_of {v : V} (h : checkR v = true) : Ok v := by
  unfold checkR at h
  simp only [Bool.and_eq_true] at h
  exact ⟨8, h.1⟩
structure Okf (v : V) : Prop where
  k0 : 0 ≤ v.k
  k6 : v.k ≤ 6
  i : v.k ≠ 1 → v.k ≠ 2 → v.i = 0
  s : v.k ≠ 3 → v.s = ByteArray.empty
  t : v.k ≠ 6 → v.tk = 0 ∧ v.to = 0
  t6 : v.k = 6 → chk v.t = true
  l : v.k ≠ 4 → v.k ≠ 5 → v.l = []
  ks : v.k ≠ 5 → v.ks = []
  ks5 : v.k = 5 → v.ks.length = v.l.length
  ok : ∀ x ∈ v.l, Ok x
theorem Ok.f {v : V} (h : Ok v) : Okf v := by
  obtain ⟨d, h⟩ := h
  rw [checkRV_eq] at h
  by_cases h1 : chk1 v d = true
  · simp [h1] at h
  by_cases h2 : chk2 v = true
  · simp [h1, h2] at h
  by_cases h3 : chk3 v = true
  · simp [h1, h2, h3] at h
  by_cases h4 : chk4 v = true
  · simp [h1, h2, h3, h4] at h
  by_cases h5 : chk5 v = true
  · simp [h1, h2, h3, h4, h5] at h
  by_cases h6 : chk6 v = true
  · simp [h1, h2, h3, h4, h5, h6] at h
  by_cases h7 : keysOk v.ks v.ks 0 = true
  · simp only [h1, h2, h3, h4, h5, h6, h7] at h
    simp only [chk1, Bool.or_eq_true, decide_eq_true_eq, not_or] at h1
    refine ⟨by omega, by omega, fun a b => ?_, fun a => ?_, fun a => ?_, fun a => ?_, fun a b => ?_, fun a => ?_, fun a => ?_, fun x hx => ⟨_, List.all_eq_true.1 h x hx⟩⟩
    · simp [chk2] at h2
      exact h2.1 a b
    · have := (by simpa [chk3] using h3 : (¬v.k = 3 → v.s.toList = []) ∧ _).1 a
      exact eqs_iff.1 (by rw [eqs_emp, this]; simp)
    · simp [chk4] at h4
      exact h4.1 a
    · simp [chk4] at h4
      rw [← chkR_eq]; exact h4.2 a
    · simp [chk5] at h5
      exact h5.1 a b
    · simp [chk6] at h6
      exact h6.1 a
    · simp [chk6] at h6
      have := h6.2 a
      omega
  · simp [h1, h2, h3, h4, h5, h6, h7] at h
theorem Okf.keys {v : V} (h : Okf v) : keys v = v.ks := by
  unfold VA.keys nKs nPairs
  split
  · rename_i h5; rw [h.ks (by simpa using h5)]; rfl
  · rename_i h5; have := h.ks5 (by simpa using h5); rw [List.take_of_length_le (by omega)]
end Go.VA

namespace Go.VA
open Go Go.RowKit
theorem errc_ne (t : Ty) : (errc t != 0) = !chk t := by unfold errc; split <;> simp_all
theorem wi_eq (a b : Ty) : wi a b = wiR a b := by
  by_cases ha : chk a = true
  · by_cases hb : chk b = true
    · have : ∀ a ∈ tys, ∀ b ∈ tys, wi a b = wiR a b := by decide +kernel
      exact this a (chk_mem ha) b (chk_mem hb)
    · have hb : chk b = false := by simpa using hb
      simp [wi, wiR, chkR_eq, errc, hb]
  · have ha : chk a = false := by simpa using ha
    simp [wi, wiR, chkR_eq, errc, ha]
theorem fits_R (v : V) : ∀ t, fits v t = fitsR v t := by
  refine V.ind (p := fun v => ∀ t, fits v t = fitsR v t) (fun v ih t => ?_) v
  rw [fits_eq, fitsR_eq, errc_ne, chkR_eq, wi_eq]
  have : (!((items v).any fun x => !(fits x (t.2, 0)))) = (items v).all fun x => fitsR x (t.2, 0) := by
    rw [List.not_any_eq_all_not]
    exact all_congr' fun x hx => by rw [ih x (items_mem hx)]; simp
  rw [this]
end Go.VA

namespace Go.VA
open Go Go.RowKit
end Go.VA

namespace Go.VA
open Go Go.RowKit
abbrev bl (a b : ByteArray) : Bool := Op.bytesLess a.toList b.toList
theorem bytesLess_irr : ∀ l : List UInt8, Op.bytesLess l l = false
  | [] => rfl
  | x :: r => by simp [Op.bytesLess, bytesLess_irr r]
theorem bytesLess_asym : ∀ l m : List UInt8, Op.bytesLess l m = true → Op.bytesLess m l = false
  | [], [], h => by simp [Op.bytesLess] at h
  | [], _ :: _, _ => rfl
  | _ :: _, [], h => by simp [Op.bytesLess] at h
  | x :: r, y :: s, h => by
    simp only [Op.bytesLess, Bool.or_eq_true, decide_eq_true_eq, Bool.and_eq_true, beq_iff_eq] at h
    simp only [Op.bytesLess, Bool.or_eq_false_iff, decide_eq_false_iff_not, Bool.and_eq_false_iff, beq_eq_false_iff_ne, UInt8.not_lt]
    rcases h with h | ⟨rfl, h⟩
    · have hne : y ≠ x := fun e => by subst e; exact absurd h (UInt8.lt_irrefl _)
      exact ⟨UInt8.le_of_lt h, .inl hne⟩
    · exact ⟨UInt8.le_refl _, .inr (bytesLess_asym r s h)⟩
end Go.VA

namespace Go.VA
open Go Go.RowKit
theorem NoTag.ag {xs : List C} (h : NtCs xs) : NoTag (.ag xs) := ⟨fun B S S' u hF hu => by
  simp only [RelV] at hu ⊢
  obtain ⟨arr, e, h'⟩ := hu
  exact ⟨arr, e, NtCs.vs hF _ _ h h'⟩⟩
theorem NoTag.c {x : C} (h : NtC x) : NoTag (.c x) := ⟨fun B S S' u hF hu => by
  simp only [RelV] at hu ⊢
  exact NtC.rep hF _ _ h hu⟩
def allNoTag : List AV → Prop
  | [] => True
  | x :: r => NoTag x ∧ allNoTag r
theorem NoTag.tup {xs : List AV} (h : allNoTag xs) : NoTag (.tup xs) := ⟨fun B S S' u hF hu => by
  simp only [RelV] at hu ⊢
  obtain ⟨arr, e, h'⟩ := hu
  refine ⟨arr, e, ?_⟩
  clear e
  revert h'
  generalize arr.toList = us
  induction xs generalizing us with
  | nil => exact fun h => h
  | cons x r ih =>
    intro h'
    simp only [RelVs] at h' ⊢
    obtain ⟨u, r', h1, h2, h3⟩ := h'
    exact ⟨u, r', h1, h.1.h B S S' u hF h2, ih h.2 _ h3⟩⟩
def rgV : V → Bool := V.fold fun v rs => decide (-9223372036854775808 ≤ v.i) && decide (v.i ≤ 9223372036854775807) && rs.all id
theorem rgV_eq (v : V) : rgV v = (decide (-9223372036854775808 ≤ v.i) && decide (v.i ≤ 9223372036854775807) && v.l.all rgV) := by
  unfold rgV; rw [V.fold_eq]; simp [List.all_map]
end Go.VA

namespace Go.VA
open Go Go.RowKit Go.ChangeShapes Go.WideShapes Go.ChangeAt

def S0 (W : World) : Rd := fun _ b o u => W.cell? ⟨b, o, none⟩ = some u
def M0 : Mz := ⟨0, fun _ => False, fun _ => False, fun _ h => h⟩
theorem Sr_M0 (W : World) : Sr M0 [] [] W = S0 W := by
  funext t b o u
  simp only [Sr, S0, eq_iff_iff, and_iff_right_iff_imp]
  intro _ h
  cases t <;> simp [MU, M0] at h
theorem relL_nil (W : World) : RelL M0 [] [] W where
  len := rfl
  bnd := by simp
  mbnd := by simp [M0]
  notM := by simp
  dist := by simp
  obj := by simp

section
variable {P : Program} {gl : Gl} {f : Nat} {args : List AV}

theorem acall_run {r : AV} (h : ACall P gl f args [] r) (W : World) (vals : Array Value) (hG : GlOk gl (S0 W)) (hv : RelVs [] (S0 W) args vals.toList) :
    Calls P f vals W fun e w' => ∃ u, e = .returned u ∧ Below W.heap.size W w' ∧ RelV [] (S0 w') r u := by
  have := h.run W M0 [] vals rfl (relL_nil W) (by rw [Sr_M0]; exact hG) (by rw [Sr_M0]; exact hv)
  refine this.mono fun e w' ⟨u, h1, h2, h3⟩ => ⟨u, h1, h2, ?_⟩
  rwa [Sr_M0] at h3

theorem acall_true (h : ACall P gl f args [] (boolA true)) (W : World) (vals : Array Value) (hG : GlOk gl (S0 W)) (hv : RelVs [] (S0 W) args vals.toList) :
    Calls P f vals W fun e w' => e = .returned (.bool true) ∧ Below W.heap.size W w' := by
  refine (acall_run h W vals hG hv).mono fun e w' ⟨u, h1, h2, h3⟩ => ?_
  simp only [boolA, RelV, RepC] at h3
  rw [h1, h3.1]
  exact ⟨rfl, h2⟩

end

section
variable {H : Type} {enc : TypeId × Value → H} {P : Program}

theorem post_of_below {f : Func} {s : ChangeSpec} {apart fresh handsOn again : Bool} {W W' : World} {args : Array Value} {v : Value} {ds gs : List (DataW H)} {before pa pv : List MemPlace}
    (hW : DataW.Whole enc P f.params.toList s.vars apart W args.toList ds gs before)
    (hres : ∀ (b : Nat) (sp : Nat → Bool) (hd : Bool), DataW.TrodAll enc P W' b sp hd f.resultTypes.toList (v.resultList f.resultTypes.size) (s.fn H (ds ++ gs)).results [])
    (hargs : ∀ sp : Nat → Bool, (∀ p ∈ before, sp p.block = true) → DataW.TrodAll enc P W' 0 sp true f.params.toList args.toList (s.fn H (ds ++ gs)).args pa)
    (hvars : ∀ sp : Nat → Bool, (∀ p ∈ before, sp p.block = true) → DataW.TrodVars enc P W' sp s.vars (s.fn H (ds ++ gs)).vars pv)
    (hps : before = pa ++ pv) (hb : Below W.heap.size W W')
    (hok : ∀ (j : Nat) (t : TypeId) (r : Value), f.resultTypes[j]? = some t → (v.resultList f.resultTypes.size)[j]? = some r → Value.okWide P W' .any 0 t r) :
    s.post enc P f apart fresh handsOn again W args v W' := by
  have hlt : ∀ p ∈ before, p.block < W.heap.size := fun p hp => hW.lt p hp
  have hold : ∀ p ∈ before, (fun b => decide (b < W.heap.size)) p.block = true := fun p hp => by simpa using hlt p hp
  refine ⟨ds, gs, before, [], pa, pv, hW, hres _ _ _, hargs _ hold, hvars _ hold, World.keptBut_mono (fun p hp => ⟨hp, ?_⟩) (hb.frame (· ∈ before)), fun _ => ?_⟩
  · rw [hps, List.mem_append] at hp
    exact Or.inr hp
  · obtain ⟨_, _, _, _, _, hz, hn⟩ := hW
    refine ⟨hok, _, _, ([] ++ pa) ++ pv, ⟨[] ++ pa, pv, trodAll_append (hargs _ (fun _ _ => rfl)) (hres _ _ _), hvars _ (fun _ _ => rfl), rfl, ?_, ?_⟩, ?_⟩
    · intro b off hp
      have hin : MemPlace.cell b off ∈ before := by rw [hps]; simpa using hp
      rw [hb.frozen (hlt _ hin)]
      exact hz b off hin
    · intro ha
      have := hn ha
      rw [hps] at this
      simpa using this
    · intro p hp _
      rw [hps]
      simpa using hp

def carried (P : Program) : List TypeId → Bool
  | [] => true
  | t :: ts => P.readableRec t && decide (t < P.types.size) && carried P ts

theorem trodAll_below (hl : laidOutB P = true) {W W' : World} (hb : Below W.heap.size W W') : ∀ {ts : List TypeId} {vs : List Value} {ds : List (DataW H)} {ps : List MemPlace},
    carried P ts = true → DataW.TrodAll enc P W 0 (fun _ => true) true ts vs ds ps → (∀ x ∈ ps, x.block < W.heap.size) →
    ∀ sp : Nat → Bool, (∀ p ∈ ps, sp p.block = true) → DataW.TrodAll enc P W' 0 sp true ts vs ds ps
  | [], [], [], _, _, h, _, _, _ => h
  | t :: ts, v :: vs, d :: ds, ps, hc, h, hlt, sp, hsp => by
    simp only [carried, Bool.and_eq_true, decide_eq_true_eq] at hc
    obtain ⟨p, q, h1, h2, rfl⟩ := h
    have h3 := Below.trod hl hc.1.1 hc.1.2 h1 hb fun x hx => hlt x (List.mem_append_left _ hx)
    refine ⟨p, q, ?_, trodAll_below hl hb hc.2 h2 (fun x hx => hlt x (List.mem_append_right _ hx)) sp (fun x hx => hsp x (List.mem_append_right _ hx)), rfl⟩
    exact WideElems.Trod_stays hl hc.1.1 hc.1.2 h1 (fun x hx => hb.same (hlt x (List.mem_append_left _ hx))) (fun x hx => hsp x (List.mem_append_left _ hx))
  | [], _ :: _, _, _, _, h, _, _, _ => h.elim
  | _ :: _, [], _, _, _, h, _, _, _ => h.elim
  | [], [], _ :: _, _, _, h, _, _, _ => h.elim
  | _ :: _, _ :: _, [], _, _, h, _, _, _ => h.elim
end

end Go.VA

namespace Go.VA
open Go Go.RowKit Go.ChangeShapes Go.WideShapes Go.ChangeAt

section
variable {H : Type} {enc : TypeId × Value → H} {P : Program} {tb : TB} {w : World} {base : Nat} {spare : Nat → Bool} {held : Bool} {fuel : Nat} {t : TypeId} {cs : List Value} {x : DataW H × List MemPlace}

theorem cellsOf_tb (htb : TbOk P tb) (ho : (tb t).k.isOther = false) : P.cellsOf t = (tb t).sz := by
  obtain ⟨i, d, z, h1, h2, h3, h4, _⟩ := (htb t).ok ho
  unfold Program.cellsOf
  rw [h1]
  simpa using h4

theorem tr_int (htb : TbOk P tb) {k : IntKind} (hk : (tb t).k = .int k) (h : DataW.trod enc P w base spare held fuel t cs = some x) : ∃ n, cs = [.int k n] ∧ k.min ≤ n ∧ n ≤ k.max := by
  obtain ⟨d, h2, h3⟩ := (htb t).under (by rw [hk]; rfl)
  rw [hk] at h3
  simp only [TKok] at h3
  subst h3
  obtain ⟨n, h4, _, h5⟩ := DataW.trod_int h2 h
  simp only [Lit.wf, Bool.and_eq_true, decide_eq_true_eq] at h5
  exact ⟨n, h4, h5⟩

theorem tr_bool (htb : TbOk P tb) (hk : (tb t).k = .bool) (h : DataW.trod enc P w base spare held fuel t cs = some x) : ∃ b, cs = [.bool b] := by
  obtain ⟨d, h2, h3⟩ := (htb t).under (by rw [hk]; rfl)
  rw [hk] at h3
  simp only [TKok] at h3
  subst h3
  obtain ⟨n, h4, _⟩ := DataW.trod_bool h2 h
  exact ⟨n, h4⟩

theorem tr_str (htb : TbOk P tb) (hk : (tb t).k = .str) (h : DataW.trod enc P w base spare held fuel t cs = some x) : ∃ s : ByteArray, cs = [.string s] ∧ s.size ≤ maxLen := by
  obtain ⟨d, h2, h3⟩ := (htb t).under (by rw [hk]; rfl)
  rw [hk] at h3
  simp only [TKok] at h3
  subst h3
  obtain ⟨n, h4, _, h5⟩ := DataW.trod_string h2 h
  exact ⟨n, h4, h5⟩

theorem tr_struct (htb : TbOk P tb) {fs : List (Nat × Nat)} (hk : (tb t).k = .struct fs) (h : DataW.trod enc P w base spare held fuel t cs = some x) :
    cs.length = (tb t).sz ∧ ∃ m, fuel = m + 1 ∧ ∀ i o ty : Nat, fs[i]? = some (o, ty) → (tb ty).k.isOther = false → ∃ y, DataW.trod enc P w base spare held m ty ((cs.drop o).take (tb ty).sz) = some y := by
  obtain ⟨d, h2, h3⟩ := (htb t).under (by rw [hk]; rfl)
  have hsz := cellsOf_tb htb (t := t) (by rw [hk]; rfl)
  rw [hk] at h3
  simp only [TKok] at h3
  obtain ⟨f, rfl, hf⟩ := h3
  obtain ⟨xs, n, h4, _, h5, h6, h7⟩ := DataW.trod_struct h2 h
  refine ⟨by rw [h5, hsz], n, h4, fun i o ty hi ho => ?_⟩
  rw [← hf.1, List.getElem?_map, Option.map_eq_some_iff] at hi
  obtain ⟨g, k1, k2⟩ := hi
  rw [Array.getElem?_toList] at k1
  have := h7 i g k1
  simp only [Prod.mk.injEq] at k2
  rw [k2.1, k2.2, cellsOf_tb htb ho] at this
  have hlt : i < xs.length := by
    rw [h6]
    exact (Array.getElem?_eq_some_iff.1 k1).1
  rw [List.getElem?_eq_getElem hlt] at this
  exact ⟨_, this⟩

theorem repCs_of_repVs {S : Rd} {R : Nat → Value → Prop} : ∀ {xs : List C} {us : List Value} {o : Nat}, RepVs S xs us → (∀ j u, us[j]? = some u → R (o + j) u) → RepCs S R o xs
  | [], us, o, _, _ => by simp [RepCs]
  | x :: xs, us, o, h, hR => by
    simp only [RepVs] at h
    obtain ⟨u, r, rfl, h1, h2⟩ := h
    simp only [RepCs]
    refine ⟨⟨u, hR 0 u rfl, h1⟩, repCs_of_repVs h2 fun j v hv => ?_⟩
    rw [Nat.add_assoc, Nat.add_comm 1 j]
    exact hR (j + 1) v (by simpa using hv)

theorem repC_rows {S : Rd} {a : Option Addr} {len cap esz : Nat} {f : Nat → List C} {tg : Bool} (hc : len ≤ cap ∧ len ≤ 140737488355328)
    (h : len = 0 ∨ ∃ b o, a = some ⟨b, o, none⟩ ∧ ∀ i, i < len → ∃ ce : List Value, ce.length = esz ∧ (∀ j, j < esz → ∀ u, ce[j]? = some u → S tg b (o + i * esz + j) u) ∧ (f i).length = esz ∧ RepVs S (f i) ce) :
    RepC S (.sl tg esz len f) (.slice a len cap) := by
  simp only [RepC]
  refine ⟨a, cap, rfl, hc, ?_⟩
  rcases h with h | ⟨b, o, h1, h2⟩
  · exact .inl h
  · refine .inr ⟨b, o, h1, fun i hi => ?_⟩
    obtain ⟨ce, k1, k2, k3, k4⟩ := h2 i hi
    refine ⟨k3, repCs_of_repVs k4 fun j u hu => ?_⟩
    have := (List.getElem?_eq_some_iff.1 hu).1
    exact k2 j (by omega) u hu

theorem relV_agg {S : Rd} {B : List (Option BI)} {v : Value} {xs : List C} {arr : Array Value} (hv : v = .agg arr) (h : RepVs S xs arr.toList) : RelV B S (.ag xs) v := by
  simp only [RelV]
  exact ⟨arr, hv, h⟩
theorem repV_i {S : Rd} {k : IntKind} {n : Int} : RepC S (.v (.int k n)) (.int k n) := by simp [RepC, Value.oneCell']
theorem repV_b {S : Rd} {b : Bool} : RepC S (.v (.bool b)) (.bool b) := by simp [RepC, Value.oneCell']
theorem repV_s {S : Rd} {b : ByteArray} : RepC S (.v (.string b)) (.string b) := by simp [RepC, Value.oneCell']

theorem arg_agg (htb : TbOk P tb) (hk : (tb t).k.agg = true) {v : Value} {r : Reach} {b0 : Nat} (hval : Value.okWide P w r b0 t v) : ∃ arr, v = .agg arr ∧ v.cells.toList = arr.toList := by
  obtain ⟨d, h2, h3⟩ := (htb t).under (by cases h : (tb t).k <;> rw [h] at hk <;> simp_all [TK.agg, TK.isOther])
  cases h : (tb t).k <;> rw [h] at hk h3 <;> simp only [TK.agg, Bool.false_eq_true] at hk
  case struct fs =>
    simp only [TKok] at h3
    obtain ⟨f, rfl, _⟩ := h3
    obtain ⟨cs, rfl, _⟩ := okWide_struct h2 hval
    exact ⟨cs, rfl, rfl⟩
  case array n e =>
    simp only [TKok] at h3
    subst h3
    simp only [Value.okWide, h2] at hval
    obtain ⟨cs, rfl, _⟩ := hval
    exact ⟨cs, rfl, rfl⟩
end
end Go.VA

namespace Go.VA
open Go Go.RowKit Go.ChangeShapes Go.WideShapes Go.ChangeAt

section
variable {H : Type} {enc : TypeId × Value → H} {P : Program} {tb : TB} {w : World} {base : Nat} {spare : Nat → Bool} {held : Bool} {fuel : Nat} {t : TypeId} {cs : List Value} {x : DataW H × List MemPlace}

def SzW (P : Program) (t : TypeId) (d : DataW H) : Prop := ∀ n ∈ d.weights P t, n ≤ reachBytes

theorem bytesOf_tb (htb : TbOk P tb) (ho : (tb t).k.isOther = false) : P.bytesOf t = (tb t).bytes := by
  obtain ⟨i, d, z, h1, h2, h3, h4, h5, _⟩ := (htb t).ok ho
  unfold Program.bytesOf
  rw [h1]
  simpa using h5

theorem tr_structS (htb : TbOk P tb) {fs : List (Nat × Nat)} (hk : (tb t).k = .struct fs) (h : DataW.trod enc P w base spare held fuel t cs = some x) (hs : SzW P t x.1) :
    cs.length = (tb t).sz ∧ ∃ m, fuel = m + 1 ∧ ∀ i o ty : Nat, fs[i]? = some (o, ty) → (tb ty).k.isOther = false → ∃ y, DataW.trod enc P w base spare held m ty ((cs.drop o).take (tb ty).sz) = some y ∧ SzW P ty y.1 := by
  obtain ⟨d, h2, h3⟩ := (htb t).under (by rw [hk]; rfl)
  have hsz := cellsOf_tb htb (t := t) (by rw [hk]; rfl)
  rw [hk] at h3
  simp only [TKok] at h3
  obtain ⟨f, rfl, hf⟩ := h3
  obtain ⟨xs, n, h4, h8, h5, h6, h7⟩ := DataW.trod_struct h2 h
  refine ⟨by rw [h5, hsz], n, h4, fun i o ty hi ho => ?_⟩
  rw [← hf.1, List.getElem?_map, Option.map_eq_some_iff] at hi
  obtain ⟨g, k1, k2⟩ := hi
  rw [Array.getElem?_toList] at k1
  have := h7 i g k1
  simp only [Prod.mk.injEq] at k2
  rw [k2.1, k2.2, cellsOf_tb htb ho] at this
  have hlt : i < xs.length := by
    rw [h6]
    exact (Array.getElem?_eq_some_iff.1 k1).1
  rw [List.getElem?_eq_getElem hlt] at this
  refine ⟨_, this, fun m hm => hs m ?_⟩
  rw [h8]
  simp only [DataW.weights, h2]
  exact DataW.weights_mem_each (j := i) (t := ty) (d := xs[i].1) (by rw [List.getElem?_map, Array.getElem?_toList, k1]; simp [k2.2]) (by simp [hlt]) m hm

theorem weightsAll_mem {e : TypeId} : ∀ {l : List (DataW H)} {d : DataW H}, d ∈ l → ∀ n ∈ d.weights P e, n ∈ DataW.weightsAll P e l
  | y :: r, d, hd, n, hn => by
    simp only [DataW.weightsAll, List.mem_append]
    rcases List.mem_cons.1 hd with rfl | hd
    · exact .inl hn
    · exact .inr (weightsAll_mem hd n hn)

theorem tr_sliceS (htb : TbOk P tb) {e : TypeId} (hk : (tb t).k = .slice e) (he : (tb e).k.isOther = false) (h0 : 0 < (tb e).sz) (h : DataW.trod enc P w base spare held fuel t cs = some x) (hs : SzW P t x.1) :
    ∃ a len cap m, cs = [.slice a len cap] ∧ fuel = m + 1 ∧ len ≤ cap ∧ len * (tb e).bytes ≤ 140737488351232 ∧ (len = 0 ∨ ∃ b o, a = some ⟨b, o, none⟩ ∧ ∀ i, i < len → ∃ ce y, ce.length = (tb e).sz ∧ (∀ j, j < (tb e).sz → w.cell? ⟨b, o + i * (tb e).sz + j, none⟩ = ce[j]?) ∧
      DataW.trod enc P w base spare held m e ce = some y ∧ SzW P e y.1) := by
  obtain ⟨d, h2, h3⟩ := (htb t).under (by rw [hk]; rfl)
  have hsz := cellsOf_tb htb he
  have hby := bytesOf_tb htb he
  rw [hk] at h3
  simp only [TKok] at h3
  subst h3
  rcases DataW.trod_slice h2 h with ⟨h4, _⟩ | ⟨a, len, cap, elems, rest, n, h4, h5, hx, h6, h7, h8, h9, h10, _⟩
  · cases fuel with
    | zero => simp [DataW.trod] at h
    | succ m => exact ⟨none, 0, 0, m, h4, rfl, Nat.le_refl _, by simp, .inl rfl⟩
  · have hw : (elems.length + rest.length) * P.bytesOf e ≤ reachBytes := by
      refine hs _ ?_
      rw [hx]
      simp [DataW.weights, h2]
    refine ⟨some a, len, cap, n, h5, h4, h7, ?_, ?_⟩
    · rw [← h9, ← hby]
      have : elems.length * P.bytesOf e ≤ (elems.length + rest.length) * P.bytesOf e := Nat.mul_le_mul_right _ (Nat.le_add_right _ _)
      unfold reachBytes at hw
      omega
    by_cases hl : len = 0
    · exact .inl hl
    · right
      have key : ∀ i, i < len → ∃ ce y, w.cells? base (a.add (i * (tb e).sz)) (tb e).sz = some ce ∧ DataW.trod enc P w base spare held n e ce = some y ∧ SzW P e y.1 := by
        intro i hi
        have := h10 i hi
        rw [hsz] at this
        rw [List.getElem?_eq_getElem (by omega)] at this
        obtain ⟨ce, k1, k2⟩ := Option.bind_eq_some_iff.1 this
        refine ⟨ce, _, k1, k2, fun m hm => hs m ?_⟩
        rw [hx]
        simp only [DataW.weights, h2, List.mem_cons, List.mem_append]
        refine .inr (.inl (weightsAll_mem (d := (elems[i]'(by omega)).1) (List.mem_map.2 ⟨elems[i]'(by omega), List.getElem_mem _, rfl⟩) m hm))
      obtain ⟨b, o, spot⟩ := a
      obtain ⟨ce0, y0, k1, _⟩ := key 0 (by omega)
      obtain ⟨_, k3, k4⟩ := World.cells?_some k1
      have g0 := k4 0 h0
      rw [List.getElem?_eq_getElem (by omega)] at g0
      have hspot : spot = none := by simpa [Addr.add] using World.cell?_spot g0
      subst hspot
      refine ⟨b, o, rfl, fun i hi => ?_⟩
      obtain ⟨ce, y, k1, k2, k5⟩ := key i hi
      obtain ⟨_, k3, k4⟩ := World.cells?_some k1
      refine ⟨ce, y, k3, fun j hj => ?_, k2, k5⟩
      have := k4 j hj
      rw [← this]
      congr 1
      simp only [Addr.add]
      split <;> split <;> simp_all
end

end Go.VA

namespace Go.VA
open Go Go.RowKit Go.ChangeShapes Go.WideShapes Go.ChangeAt
end Go.VA


namespace Go.VA
open Go Go.RowKit Go.ChangeShapes Go.WideShapes Go.ChangeAt

theorem law_liftedL {C : Checked} {f : FuncId} {fn : Func} {s : ChangeSpec} {conds : List PathCond} (laid : List (String × DataW Unit)) (os : Os) (started : os.Started) {H : Type} {enc : TypeId × Value → H} {tb : TypeId}
    (own : ownKnob C.prog.godebug = none) (noInit : C.prog.inits.idxOf? f = none) (hfn : C.prog.funcs[f]? = some fn)
    (hl : laidOutB C.prog = true) (hc : carried C.prog fn.params.toList = true) (hv : s.vars = []) (hvt : s.plain.varTypes C.prog = []) (hr : fn.resultTypes = #[tb]) (htb : C.prog.underlying tb = some .bool)
    (hspec : ∀ ds : List (DataW H), ds.length = fn.params.size → s.fn H ds = { results := [.lit (.bool true)], args := ds })
    (witness : ∃ (w : World) (tape : Tape) (i : Input), w.os = os ∧ (w.forCall tape i).Shaped C.prog ∧ i.vars = [] ∧ Input.okWide C.prog (w.forCall tape i) .any w.heap.size f i ∧
      ((s.pre enc C.prog fn conds false (w.forCall tape i).memory i.args ∧ laidMetH C.prog laid (w.forCall tape i).memory) ∧ sizedMet enc C.prog fn (OpenSpec.ofChange s) false (w.forCall tape i).memory i.args) ∧ ({} : Assume).holds C.prog (lone (Frame.enter C.prog f i.args .normal) [] (w.forCall tape i)))
    (call : ∀ (W : World) (base : Nat) (args : Array Value) (ds : List (DataW H)) (ps : List MemPlace),
      (∀ (j : Nat) t v, fn.params[j]? = some t → args[j]? = some v → Value.okWide C.prog W .any base t v) →
      DataW.TrodAll enc C.prog W 0 (fun _ => true) true fn.params.toList args.toList ds ps →
      (∀ (j : Nat) t d, fn.params.toList[j]? = some t → ds[j]? = some d → SzW C.prog t d) →
      laidMetH C.prog laid W →
      Calls C.prog f args W fun e w' => e = .returned (.bool true) ∧ Below W.heap.size W w') :
    ReturnsInHanded {} C os f .any (fun w args => (s.pre enc C.prog fn conds false w args ∧ laidMetH C.prog laid w) ∧ sizedMet enc C.prog fn (OpenSpec.ofChange s) false w args) (s.post enc C.prog fn false true false false) := by
  refine returnsInHanded_of_change_and (X := fun w _ => laidMetH C.prog laid w) (fun _ _ _ hh h => h.of_heap hh) own started noInit hfn witness ?_
  intro W base args ds gs before hval hW _ hsz hX _
  have hW' := hW
  obtain ⟨p, q, hA, hV, hpq, hfz, hnd⟩ := hW
  rw [hv] at hV
  obtain ⟨rfl, rfl⟩ := trodVars_none hV
  rw [List.append_nil] at hpq
  subst hpq
  have hlen : ds.length = fn.params.size := by
    have : ∀ {ts : List TypeId} {vs : List Value} {ds : List (DataW H)} {ps : List MemPlace}, DataW.TrodAll enc C.prog W 0 (fun _ => true) true ts vs ds ps → ds.length = ts.length := by
      intro ts
      induction ts with
      | nil => intro vs ds ps h; cases vs <;> cases ds <;> first | rfl | exact h.elim
      | cons t ts ih =>
        intro vs ds ps h
        cases vs with
        | nil => exact h.elim
        | cons v vs =>
          cases ds with
          | nil => exact h.elim
          | cons d ds =>
            obtain ⟨_, _, _, h2, _⟩ := h
            simp [ih h2]
    rw [this hA]; simp
  rw [hvt, List.append_nil, List.append_nil] at hsz
  have hsz' : ∀ (j : Nat) t d, fn.params.toList[j]? = some t → ds[j]? = some d → SzW C.prog t d := fun j t d h1 h2 n hn => by
    have := List.all_eq_true.1 hsz n (DataW.weights_mem_each h1 h2 n hn)
    simpa using this
  refine (call W base args ds before hval hA hsz' hX).mono fun e W' ⟨he, hb⟩ => ⟨_, he, ?_⟩
  have hs := hspec ds hlen
  refine post_of_below (pa := before) (pv := []) hW' (fun b sp hd => ?_) (fun sp hsp => ?_) (fun sp _ => ?_) (by simp) hb ?_
  · rw [List.append_nil, hs, hr]
    refine trodAll_mk1 ⟨1, ?_⟩
    simp [DataW.trod, htb, Value.cells]
  · rw [List.append_nil, hs]
    exact trodAll_below hl hb hc hA (fun x hx => hW'.lt x hx) sp hsp
  · rw [hv, List.append_nil, hs]
    rfl
  · exact ok_one hr rfl (okWide_bool_mk htb true)
end Go.VA

namespace Go.VA
open Go Go.RowKit Go.ChangeShapes Go.WideShapes Go.ChangeAt
end Go.VA

namespace Go.VA
open Go Go.RowKit Go.ChangeShapes Go.WideShapes Go.ChangeAt
section
variable {P : Program} {tb : TB} {W : World}
theorem laid_two (htb : TbOk P tb) {e : Nat} {k : IntKind} {t : TypeId} (hk : (tb t).k = .struct [(0, e), (1, e)]) (he : (tb e).k = .int k) (h1 : (tb e).sz = 1) {a b : Int} {r : List (String × DataW Unit)} {ps : List MemPlace} {nm : String} {g : Nat}
    (hg : P.globalNamed nm = some g) (ht : (P.globals[g]?).map (·.type) = some t) (h : DataW.LaidVars P W ((nm, .agg [.lit (.int k a), .lit (.int k b)]) :: r) ps) :
    RepCs (S0 W) (S0 W false g) 0 [.v (.int k a), .v (.int k b)] ∧ ∃ q, DataW.LaidVars P W r q := by
  obtain ⟨g', t', cs, fuel, p, q, hg', ht', hv, hd, hr, _⟩ := h
  obtain rfl := Option.some.inj (hg.symm.trans hg')
  obtain rfl := Option.some.inj (ht.symm.trans ht')
  refine ⟨?_, q, hr⟩
  obtain ⟨d, hd2, hT⟩ := (htb t).under (by simp [hk, TK.isOther])
  rw [hk] at hT
  simp only [TKok] at hT
  obtain ⟨f, rfl, hf⟩ := hT
  obtain ⟨d, hd3, hT⟩ := (htb e).under (by simp [he, TK.isOther])
  rw [he] at hT
  simp only [TKok] at hT
  subst hT
  have hce : P.cellsOf e = 1 := by rw [cellsOf_tb htb (by rw [he]; rfl), h1]
  obtain ⟨xs, m, _, hx, hlen, hn, hel⟩ := DataW.trod_struct hd2 hd
  simp only [Prod.mk.injEq, DataW.agg.injEq] at hx
  have hx1 := hx.1
  have hf1 := hf.1
  have key : ∀ (j : Nat) (i : Int), j < 2 → ([a, b] : List Int)[j]? = some i → W.cell? ⟨g, j, none⟩ = some (.int k i) := fun j i hj hi => by
    have hfj : (f.toList.map fun f => (f.offset, f.type))[j]? = some (j, e) := by
      rw [hf1]
      match j, hj with | 0, _ => rfl | 1, _ => rfl
    rw [List.getElem?_map, Option.map_eq_some_iff] at hfj
    obtain ⟨gf, k1, k2⟩ := hfj
    rw [Array.getElem?_toList] at k1
    have hy := hel j gf k1
    simp only [Prod.mk.injEq] at k2
    have hxl : j < xs.length := by rw [hn]; exact (Array.getElem?_eq_some_iff.1 k1).1
    rw [k2.1, k2.2, hce, List.getElem?_eq_getElem hxl] at hy
    obtain ⟨z, e1, e2, _⟩ := DataW.trod_int hd3 hy
    have hq : (xs.map (·.1))[j]? = ([.lit (.int k a), .lit (.int k b)] : List (DataW Unit))[j]? := by rw [hx1]
    have hq2 : ([.lit (.int k a), .lit (.int k b)] : List (DataW Unit))[j]? = some (.lit (.int k i)) := by
      match j, hj, hi with
      | 0, _, hi => simp at hi; subst hi; rfl
      | 1, _, hi => simp at hi; subst hi; rfl
    rw [hq2, List.getElem?_map, List.getElem?_eq_getElem hxl] at hq
    simp only [Option.map_some, Option.some.injEq] at hq
    rw [e2] at hq
    simp only [DataW.lit.injEq, Lit.int.injEq, true_and] at hq
    subst hq
    rw [World.var?_cell hg hv j, ← Array.getElem?_toList]
    have := congrArg (fun l => l[0]?) e1
    simpa [List.getElem?_take, List.getElem?_drop] using this
  refine RepCs.mk _ _ fun j x hj => ?_
  have hj2 : j < 2 := (List.getElem?_eq_some_iff.1 hj).1
  match j, hj2, hj with
  | 0, _, hj =>
    simp at hj; subst hj
    exact ⟨.int k a, by rw [Nat.zero_add]; exact key 0 a (by decide) rfl, by simp [RepC, Value.oneCell']⟩
  | 1, _, hj =>
    simp at hj; subst hj
    exact ⟨.int k b, by rw [Nat.zero_add]; exact key 1 b (by decide) rfl, by simp [RepC, Value.oneCell']⟩
end
end Go.VA

namespace Go.VA
open Go Go.RowKit
section
variable {P : Program}
theorem equal_of_seChk {d : Nat} {t : TypeId} {S : List Nat} (h : seChk P d t S = true) (xs ys : Array Value) (q : Bool) (hx : xs.toList.map shV = S) (hy : ys.toList.map shV = S) (hq : eqVs xs.toList ys.toList = some q) (w : World) :
    (Op.equal t (.agg xs) (.agg ys)).run P w = .ok q w := by
  have hfm : ∀ cs, Fm P t (.agg cs) := by
    intro cs
    unfold seChk at h
    unfold Fm
    split at h
    · exact ⟨_, rfl⟩
    · exact ⟨_, rfl⟩
    · simp at h
  have hgo : seChk.go P d t S = true := by
    unfold seChk at h
    split at h
    · exact h
    · exact h
    · simp at h
  unfold seChk.go at hgo
  split at hgo; · simp at hgo
  rename_i s hs
  split at hgo; · simp at hgo
  rename_i hS
  have hS := beqNs_spec hS
  subst hS
  split at hgo; · simp at hgo
  have hd : d ≤ 10000 := Nat.le_of_ble_eq_true hgo
  have hse := seAt_sound (10000 - d) d t s hs
  rw [show 10000 - d + d = 10000 from by omega] at hse
  obtain ⟨q', hq', hr⟩ := hse w (.agg xs) (.agg ys) (hfm xs) (hfm ys) hx hy
  simp only [Value.cells] at hq'
  rw [hq] at hq'
  simp only [Option.some.injEq] at hq'
  subst hq'
  exact hr
def keyChk (P : Program) (t : TypeId) (S : List Nat) : Bool :=
  (match P.underlying t with
  | some (.struct fs) => fs.toList.all fun f => f.name != "_" && P.plainKey f.type && Nat.blt f.offset S.length
  | _ => false) && S.all fun c => c != 10
theorem checkKey_plain {e : TypeId} (he : P.plainKey e = true) (em : Bool) (n : Nat) (a : Value) (w : World) : (Instr.checkKey em (n + 1) e a).run P w = .ok () w := by
  unfold Program.plainKey at he
  cases hu : P.underlying e with
  | none => simp [hu] at he
  | some k =>
    cases k <;> simp [hu] at he
    all_goals simp [Instr.checkKey, run_underlying hu]
theorem keyS_of {d : Nat} {t : TypeId} {S : List Nat} (h : seChk P d t S = true) (hk : keyChk P t S = true) : KeyS P t S := by
  unfold keyChk at hk
  rw [Bool.and_eq_true] at hk
  obtain ⟨hk, hs⟩ := hk
  split at hk
  · rename_i fs hu
    refine ⟨by simp [hu], ⟨_, hu⟩, fun c hc => by simpa using List.all_eq_true.1 hs c hc, fun em xs w hx => ?_, fun xs ys q hx hy hq w => equal_of_seChk h xs ys q hx hy hq w⟩
    have hlen : xs.size = S.length := by
      have := congrArg List.length hx
      simpa using this
    show (Instr.checkKey em (9999 + 1) t (.agg xs)).run P w = .ok () w
    rw [Instr.checkKey]
    simp only [Sem.run_bind, run_underlying hu, Result.andThen_ok]
    rw [← Array.forIn_toList]
    have each := List.all_eq_true.1 hk
    clear hk
    generalize fs.toList = L at each
    induction L with
    | nil => simp
    | cons f L ih =>
      have hf := each f (by simp)
      rw [Bool.and_eq_true, Bool.and_eq_true] at hf
      obtain ⟨⟨hn, hp⟩, ho⟩ := hf
      have hn : f.name ≠ "_" := by simpa using hn
      have ho : f.offset < xs.size := by
        rw [hlen]
        have := ho
        unfold Nat.blt at this
        exact Nat.le_of_ble_eq_true this
      have hpart := run_part_plain w hp (v := xs[f.offset]) (Array.getElem?_eq_getElem ho)
      have hck := checkKey_plain hp em 9998 xs[f.offset] w
      simp only [List.forIn_cons, Sem.run_bind, hn, ne_eq, not_false_eq_true, if_true, Result.andThen_ok, hpart, hck, Sem.run_pure]
      exact ih (fun y hy => each y (by simp [hy]))
  · simp at hk
end
end Go.VA

namespace Go.VA
open Go Go.RowKit
theorem bytesLess_trans : ∀ l m n : List UInt8, Op.bytesLess l m = true → Op.bytesLess m n = true → Op.bytesLess l n = true
  | _, [], _, h, _ => by rename_i l n; cases l <;> simp [Op.bytesLess] at h
  | _, _ :: _, [], _, h => by simp [Op.bytesLess] at h
  | [], _ :: _, _ :: _, _, _ => rfl
  | x :: r, y :: s, z :: t, h, k => by
    simp only [Op.bytesLess, Bool.or_eq_true, decide_eq_true_eq, Bool.and_eq_true, beq_iff_eq] at h k ⊢
    rcases h with h | ⟨rfl, h⟩
    · rcases k with k | ⟨rfl, k⟩
      · exact .inl (UInt8.lt_trans h k)
      · exact .inl h
    · rcases k with k | ⟨rfl, k⟩
      · exact .inl k
      · exact .inr ⟨rfl, bytesLess_trans r s t h k⟩
abbrev Srt (l : List ByteArray) : Prop := l.Pairwise fun a b => bl a b = true
theorem bl_irr (a : ByteArray) : bl a a = false := bytesLess_irr _
theorem srt_of_next : ∀ {l : List ByteArray}, (∀ (i : Nat) a b, l[i]? = some a → l[i + 1]? = some b → bl a b = true) → Srt l
  | [], _ => List.Pairwise.nil
  | [x], _ => List.pairwise_singleton _ x
  | x :: y :: r, h => by
    have ih : Srt (y :: r) := srt_of_next fun i a b ha hb => h (i + 1) a b (by simpa using ha) (by simpa using hb)
    have hxy := h 0 x y rfl rfl
    refine List.pairwise_cons.2 ⟨fun z hz => ?_, ih⟩
    rcases List.mem_cons.1 hz with rfl | hz
    · exact hxy
    · exact bytesLess_trans _ _ _ hxy ((List.pairwise_cons.1 ih).1 z hz)
theorem keysOk_at {ks : List ByteArray} : ∀ {l : List ByteArray} {c : Nat}, keysOk ks l c = true → ∀ (i : Nat) x, l[i]? = some x → keyOk ks (c + i) x = false
  | [], _, _, i, x, hx => by simp at hx
  | y :: r, c, h, i, x, hx => by
    simp only [keysOk] at h
    cases hk : keyOk ks c y
    · rw [hk, if_neg (by decide)] at h
      cases i with
      | zero => simp at hx; subst hx; exact hk
      | succ i =>
        have := keysOk_at h i x (by simpa using hx)
        rwa [show c + 1 + i = c + (i + 1) from by omega] at this
    · rw [hk, if_pos rfl] at h; exact absurd h (by decide)
theorem keysOk_srt {ks : List ByteArray} (h : keysOk ks ks 0 = true) (hl : ks.length ≤ 1000000) : Srt ks := by
  refine srt_of_next fun i a b ha hb => ?_
  have hi : i + 1 < ks.length := (List.getElem?_eq_some_iff.1 hb).1
  have := keysOk_at h (i + 1) b hb
  unfold keyOk at this
  have h0 : decide (((0 + (i + 1) : Nat) : Int) > 0) = true := decide_eq_true (by omega)
  have h1 : IntKind.i64.wrap (((0 + (i + 1) : Nat) : Int) - 1) = i := by rw [wrap64 (by omega) (by omega)]; omega
  rw [h0, h1, Int.toNat_natCast] at this
  have ea : ks.getD i ByteArray.empty = a := by rw [List.getD_eq_getElem?_getD, ha]; rfl
  rw [ea] at this
  simp only [Bool.or_eq_false_iff, Bool.true_and, Bool.not_eq_false'] at this
  exact this.2
theorem Ok.keys {v : V} (h : Ok v) : keysOk v.ks v.ks 0 = true ∧ v.l.length ≤ 128 := by
  obtain ⟨d, h⟩ := h
  rw [checkRV_eq] at h
  by_cases h1 : chk1 v d = true
  · simp [h1] at h
  by_cases h2 : chk2 v = true
  · simp [h1, h2] at h
  by_cases h3 : chk3 v = true
  · simp [h1, h2, h3] at h
  by_cases h4 : chk4 v = true
  · simp [h1, h2, h3, h4] at h
  by_cases h5 : chk5 v = true
  · simp [h1, h2, h3, h4, h5] at h
  by_cases h6 : chk6 v = true
  · simp [h1, h2, h3, h4, h5, h6] at h
  by_cases h7 : keysOk v.ks v.ks 0 = true
  · refine ⟨h7, ?_⟩
    simp only [chk5, Bool.or_eq_true, decide_eq_true_eq, not_or] at h5
    omega
  · simp [h1, h2, h3, h4, h5, h6, h7] at h
theorem Ok.srt {v : V} (h : Ok v) : Srt v.ks := by
  obtain ⟨a, b⟩ := h.keys
  by_cases h5 : v.k = 5
  · exact keysOk_srt a (by rw [h.f.ks5 h5]; omega)
  · rw [h.f.ks h5]; exact List.Pairwise.nil
theorem srt_sub : ∀ {ks ns : List ByteArray}, Srt ks → Srt ns → (∀ x ∈ ns, x ∈ ks) → ns.length ≤ ks.length
  | _, [], _, _, _ => Nat.zero_le _
  | [], n :: _, _, _, h => by simpa using h n (by simp)
  | k :: ks, n :: ns, hk, hn, h => by
    obtain ⟨k1, k2⟩ := List.pairwise_cons.1 hk
    obtain ⟨n1, n2⟩ := List.pairwise_cons.1 hn
    have hx := h n (by simp)
    rcases List.mem_cons.1 hx with rfl | hx
    · have := srt_sub k2 n2 fun z hz => by
        rcases List.mem_cons.1 (h z (by simp [hz])) with e | h2
        · have := n1 z hz; rw [e, bl_irr] at this; exact absurd this (by decide)
        · exact h2
      simp only [List.length_cons]; omega
    · have := srt_sub k2 hn fun z hz => by
        rcases List.mem_cons.1 (h z hz) with e | h2
        · exfalso
          have a := k1 n hx
          rcases List.mem_cons.1 hz with e2 | h3
          · rw [← e, e2, bl_irr] at a; exact absurd a (by decide)
          · have b := n1 z h3
            rw [e] at b
            have c : bl n k = false := bytesLess_asym _ _ a
            rw [c] at b; exact absurd b (by decide)
        · exact h2
      simp only [List.length_cons] at this ⊢; omega
theorem srt_eq : ∀ {ks ns : List ByteArray}, Srt ks → Srt ns → ks.length = ns.length → (∀ x ∈ ns, x ∈ ks) → ks = ns
  | [], [], _, _, _, _ => rfl
  | [], _ :: _, _, _, h, _ => by simp at h
  | _ :: _, [], _, _, h, _ => by simp at h
  | k :: ks, n :: ns, hk, hn, hl, h => by
    obtain ⟨k1, k2⟩ := List.pairwise_cons.1 hk
    obtain ⟨n1, n2⟩ := List.pairwise_cons.1 hn
    have hx := h n (by simp)
    rcases List.mem_cons.1 hx with rfl | hx
    · rw [srt_eq k2 n2 (by simpa using hl) fun z hz => by
        rcases List.mem_cons.1 (h z (by simp [hz])) with e | h2
        · have := n1 z hz; rw [e, bl_irr] at this; exact absurd this (by decide)
        · exact h2]
    · exfalso
      have := srt_sub k2 hn fun z hz => by
        rcases List.mem_cons.1 (h z hz) with e | h2
        · exfalso
          have a := k1 n hx
          rcases List.mem_cons.1 hz with e2 | h3
          · rw [← e, e2, bl_irr] at a; exact absurd a (by decide)
          · have b := n1 z h3
            rw [e] at b
            have c : bl n k = false := bytesLess_asym _ _ a
            rw [c] at b; exact absurd b (by decide)
        · exact h2
      simp only [List.length_cons] at this hl; omega
theorem fidx_at {ks : List ByteArray} (hs : Srt ks) : ∀ (c i : Nat) (x : ByteArray), ks[i]? = some x → fidx (fun k => eqs k x) ks c = ((c + i : Nat) : Int) := by
  induction ks with
  | nil => intro c i x h; simp at h
  | cons k ks ih =>
    intro c i x h
    obtain ⟨k1, k2⟩ := List.pairwise_cons.1 hs
    simp only [fidx]
    cases i with
    | zero =>
      simp at h; subst h
      rw [if_pos (eqs_refl _)]; simp
    | succ i =>
      have h : ks[i]? = some x := by simpa using h
      have hne : eqs k x = false := by
        cases he : eqs k x
        · rfl
        · have := eqs_iff.1 he
          subst this
          have := k1 k (List.mem_of_getElem? h)
          rw [bl_irr] at this; exact absurd this (by decide)
      rw [if_neg (by rw [hne]; decide), ih k2 (c + 1) i x h]
      omega
theorem fidx_pos {α : Type} {p : α → Bool} : ∀ {l : List α} {c : Nat}, 0 ≤ fidx p l c → ∃ (i : Nat) (x : α), l[i]? = some x ∧ p x = true ∧ fidx p l c = ((c + i : Nat) : Int)
  | [], c, h => by simp [fidx] at h
  | y :: r, c, h => by
    simp only [fidx] at h ⊢
    cases hp : p y
    · rw [hp, if_neg (by decide)] at h
      rw [if_neg (by decide)]
      obtain ⟨i, x, h1, h2, h3⟩ := fidx_pos h
      exact ⟨i + 1, x, by simpa using h1, h2, by rw [h3]; omega⟩
    · rw [if_pos rfl]
      exact ⟨0, y, rfl, hp, by simp⟩
end Go.VA
