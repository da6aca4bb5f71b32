/- An executor of the model over symbolic values, and the proof that what it shows of a function holds of every call: no condition. -/
import Derived.Test.YtldccngnojnhbaaDoorVC
import Derived.Laws.Strings
import Derived.ProofKit
import Derived.SizedLaws
import Derived.LaidMore
import Derived.OpenShut
import Derived.MakeChecks
import Derived.Stop.Joined
import Derived.Carry
set_option linter.unusedSimpArgs false
set_option linter.unusedVariables false
set_option linter.unusedSectionVars false
set_option linter.unnecessarySimpa false
namespace Go.VA
open Go Go.RowKit


mutual
def NtC : C → Prop
  | .v _ => True
  | .emp => True
  | .sl t _ n f => t = false ∧ ∀ i, i < n → NtCs (f i)
def NtCs : List C → Prop
  | [] => True
  | x :: r => NtC x ∧ NtCs r
end
section
variable {S S' : Rd} (hF : ∀ b o v, S false b o v → S' false b o v)
include hF
mutual
theorem NtC.rep : ∀ (x : C) (u : Value), NtC x → RepC S x u → RepC S' x u
  | .v _, _, _, h => by simpa [RepC] using h
  | .emp, _, _, h => by simpa [RepC] using h
  | .sl t esz n f, u, hn, h => by
    simp only [NtC] at hn
    obtain ⟨rfl, hn⟩ := hn
    simp only [RepC] at h ⊢
    obtain ⟨a, cap, hu, hc, h1⟩ := h
    refine ⟨a, cap, hu, hc, ?_⟩
    rcases h1 with h1 | ⟨b, o, ha, h1⟩
    · exact .inl h1
    · exact .inr ⟨b, o, ha, fun i hi => ⟨(h1 i hi).1, NtCs.reps (R := S false b) (R' := S' false b) (hF b) (f i) _ (hn i hi) (h1 i hi).2⟩⟩
theorem NtCs.reps {R R' : Nat → Value → Prop} (hR : ∀ o u, R o u → R' o u) : ∀ (xs : List C) (o : Nat), NtCs xs → RepCs S R o xs → RepCs S' R' o xs
  | [], _, _, _ => by simp [RepCs]
  | x :: xs, o, hn, h => by
    simp only [NtCs] at hn
    simp only [RepCs] at h ⊢
    obtain ⟨⟨u, h1, h2⟩, h3⟩ := h
    exact ⟨⟨u, hR o u h1, NtC.rep x u hn.1 h2⟩, NtCs.reps hR xs _ hn.2 h3⟩
end
theorem NtCs.vs : ∀ (xs : List C) (us : List Value), NtCs xs → RepVs S xs us → RepVs S' xs us
  | [], _, _, h => by simpa [RepVs] using h
  | x :: xs, us, hn, h => by
    simp only [NtCs] at hn
    simp only [RepVs] at h ⊢
    obtain ⟨u, r, h1, h2, h3⟩ := h
    exact ⟨u, r, h1, NtC.rep hF x u hn.1 h2, NtCs.vs xs r hn.2 h3⟩
end


def DN (l : List Nat) : Prop := ∀ (i j : Nat) x, i ≠ j → l[i]? = some x → l[j]? = some x → False
theorem DN.tail {s : Nat} {r : List Nat} (h : DN (s :: r)) : s ∉ r ∧ DN r :=
  ⟨fun hm => by obtain ⟨i, hi, e⟩ := List.mem_iff_getElem.1 hm; exact h 0 (i + 1) s (by omega) rfl (by simp [List.getElem?_eq_getElem hi, e]), fun i j x hij hi hj => h (i + 1) (j + 1) x (by omega) (by simpa using hi) (by simpa using hj)⟩
end Go.VA

namespace Go.VA
open Go Go.RowKit

theorem RelO.ble {B B' : List (Option BI)} {S : Rd} {w : World} (hB : Ble B B') {x : AO} {bo : Option BI} (h : RelO B S w x bo) : RelO B' S w x bo := by
  cases x with
  | box xs =>
    obtain ⟨bi, cs, ty, e, h1, h2, h3, h4, h5⟩ := h
    exact ⟨bi, cs, ty, e, h1, h2, h3, h4, RelVs.mono hB (Rd.le_refl S) _ _ h5⟩
  | row e n f => cases bo <;> exact h
  | frz e n f => cases bo <;> exact h
  | mp m => exact h
  | amb vs xs => exact RelVs.mono hB (Rd.le_refl S) _ _ h
  | dead => trivial
theorem RelSl.ble {B B' : List (Option BI)} {S : Rd} {a : Act} (hB : Ble B B') {x : AV} {u : Value} (h : RelSl B S a x u) : RelSl B' S a x u := by
  cases x <;> simp only [RelSl] at h ⊢ <;> first | exact RelV.mono hB (Rd.le_refl S) _ _ h | exact ⟨fun e => RelV.mono hB (Rd.le_refl S) _ _ (h.1 e), h.2⟩
end Go.VA

namespace Go.VA
open Go Go.RowKit

def appA : List AV → List AV → List AV
  | [], r => r
  | x :: l, r => x :: appA l r
end Go.VA

namespace Go.VA
open Go Go.RowKit

end Go.VA

namespace Go.VA
open Go Go.RowKit
end Go.VA

namespace Go.VA
open Go Go.RowKit

abbrev W := BitVec 32
end Go.VA

namespace Go.VA
open Go Go.RowKit
def sl (a b c : Nat) (x : W) : W := x.rotateRight a ^^^ x.rotateRight b ^^^ (x >>> c)
end Go.VA

namespace Go.VA
open Go Go.RowKit
end Go.VA

namespace Go.VA
open Go Go.RowKit

inductive V where
  | mk (k i : Int) (s : ByteArray) (l : List V) (ks : List ByteArray) (tk to : Int) (sec : Bool)

namespace V
def k : V → Int | mk k _ _ _ _ _ _ _ => k
def i : V → Int | mk _ i _ _ _ _ _ _ => i
def s : V → ByteArray | mk _ _ s _ _ _ _ _ => s
def l : V → List V | mk _ _ _ l _ _ _ _ => l
def ks : V → List ByteArray | mk _ _ _ _ ks _ _ _ => ks
def tk : V → Int | mk _ _ _ _ _ tk _ _ => tk
def to : V → Int | mk _ _ _ _ _ _ to _ => to
def sec : V → Bool | mk _ _ _ _ _ _ _ sec => sec
def z : V := mk 0 0 ByteArray.empty [] [] 0 0 false
instance : Inhabited V := ⟨z⟩
theorem sz_mem {x : V} {v : V} (h : x ∈ v.l) : SizeOf.sizeOf x < SizeOf.sizeOf v := by
  cases v with
  | mk k i s l ks tk to sec =>
    have := List.sizeOf_lt_of_mem (show x ∈ l from h)
    simp
    omega
theorem ind {p : V → Prop} (h : ∀ v, (∀ x ∈ v.l, p x) → p v) (v : V) : p v := by
  have : ∀ n (v : V), SizeOf.sizeOf v < n → p v := by
    intro n
    induction n with
    | zero => intro v hv; omega
    | succ n ih => intro v hv; exact h v fun x hx => ih x (by have := sz_mem hx; omega)
  exact this _ v (Nat.lt_succ_self _)
end V

mutual
def V.fold {α : Type} (f : V → List α → α) : V → α
  | .mk k i s l ks tk to sec => f (.mk k i s l ks tk to sec) (V.foldL f l)
def V.foldL {α : Type} (f : V → List α → α) : List V → List α
  | [] => []
  | x :: r => V.fold f x :: V.foldL f r
end
theorem V.foldL_eq {α : Type} (f : V → List α → α) : ∀ l : List V, V.foldL f l = l.map (V.fold f)
  | [] => rfl
  | x :: r => by simp [V.foldL, V.foldL_eq f r]
theorem V.fold_eq {α : Type} (f : V → List α → α) (v : V) : V.fold f v = f v (v.l.map (V.fold f)) := by
  cases v; simp only [V.fold, V.l, V.foldL_eq]

def cS (s : ByteArray) : List C := [.v (.string s)]
abbrev rS (ks : List ByteArray) : Nat → List C := rowE cS ByteArray.empty ks

mutual
def cV0 : V → List C
  | .mk k i s l ks tk to sec => [.v (.int .i64 k), .v (.int .i64 i), .v (.string s), .sl false 8 l.length (rV l), .sl false 1 ks.length (rS ks), .v (.int .i64 tk), .v (.int .i64 to), .v (.bool sec)]
def rV : List V → Nat → List C
  | [], _ => []
  | x :: _, 0 => cV0 x
  | _ :: r, n + 1 => rV r n
end

def cVt (t t' : Bool) (v : V) : List C :=
  [.v (.int .i64 v.k), .v (.int .i64 v.i), .v (.string v.s), .sl t 8 v.l.length (rV v.l), .sl t' 1 v.ks.length (rS v.ks), .v (.int .i64 v.tk), .v (.int .i64 v.to), .v (.bool v.sec)]
abbrev cV (v : V) : List C := cVt false false v
theorem cV0_eq (v : V) : cV0 v = cV v := by cases v; rfl
theorem rV_get {l : List V} {i : Nat} (h : i < l.length) : rV l i = cV l[i] := by
  induction l generalizing i with
  | nil => simp at h
  | cons x r ih =>
    cases i with
    | zero => simp only [rV]; exact cV0_eq x
    | succ i => simp only [rV]; rw [ih (by simpa using h)]; rfl
theorem rV_ex {l : List V} {c : Nat} (h : c < l.length) : ∃ x, l[c]? = some x ∧ x ∈ l ∧ rV l ((c : Int)).toNat = cV x :=
  ⟨l[c], List.getElem?_eq_getElem h, List.getElem_mem h, by rw [← rV_get h]; rfl⟩
theorem drop_cons? {α : Type} {l : List α} {c : Nat} {x : α} (h : l[c]? = some x) : l.drop c = x :: l.drop (c + 1) := by
  obtain ⟨h1, h2⟩ := List.getElem?_eq_some_iff.1 h
  rw [List.drop_eq_getElem_cons h1, h2]
def eqs (a b : ByteArray) : Bool := a.toList == b.toList
def eqSs : List ByteArray → List ByteArray → Bool
  | [], [] => true
  | x :: xs, y :: ys => eqs x y && eqSs xs ys
  | _, _ => false
def all2 {α β : Type} (p : α → β → Bool) : List α → List β → Bool
  | [], [] => true
  | x :: xs, y :: ys => p x y && all2 p xs ys
  | _, _ => false
theorem all2_map {α β γ : Type} (p : α → β → Bool) (g : γ → α) : ∀ (l : List γ) (m : List β), all2 p (l.map g) m = all2 (fun x y => p (g x) y) l m
  | [], [] => rfl
  | [], _ :: _ => rfl
  | _ :: _, [] => rfl
  | x :: l, y :: m => by simp [all2, all2_map p g l m]
theorem all2_len {α β : Type} {p : α → β → Bool} : ∀ {l : List α} {m : List β}, l.length ≠ m.length → all2 p l m = false
  | [], [], h => absurd rfl h
  | [], _ :: _, _ => rfl
  | _ :: _, [], _ => rfl
  | x :: l, y :: m, h => by simp only [all2]; rw [all2_len (l := l) (m := m) (by simpa using h)]; simp
theorem eqSs_len : ∀ {l m : List ByteArray}, l.length ≠ m.length → eqSs l m = false
  | [], [], h => absurd rfl h
  | [], _ :: _, _ => rfl
  | _ :: _, [], _ => rfl
  | x :: l, y :: m, h => by simp only [eqSs]; rw [eqSs_len (l := l) (m := m) (by simpa using h)]; simp
theorem nthS {l : List ByteArray} {c : Nat} (h : c < l.length) : ∃ x, l[c]? = some x ∧ l.getD c ByteArray.empty = x :=
  ⟨l[c], List.getElem?_eq_getElem h, by simp [List.getD_eq_getElem?_getD, h]⟩
theorem take_get? {α : Type} {l : List α} {n c : Nat} {x : α} (hc : c < n) (h : l[c]? = some x) : (l.take n)[c]? = some x := by
  rw [List.getElem?_take, if_pos hc, h]
end Go.VA

namespace Go.VA
open Go Go.RowKit
abbrev Ty := Int × Int
def chk (p : Ty) : Bool := !(decide (p.1 < 0) || decide (p.1 > 5) || decide (p.2 < 0) || decide (p.2 > 3) || (!(p.1 == 4 || p.1 == 5) && p.2 != 0))
def chkR (p : Ty) : Bool := if (decide (p.1 < 0) || decide (p.1 > 5) || decide (p.2 < 0) || decide (p.2 > 3)) then false else (p.2 == 0 || decide (p.1 > 3))
namespace V
def t (v : V) : Ty := (v.tk, v.to)
end V
def nPairs (v : V) : Nat := min v.ks.length v.l.length
def nIt (v : V) : Nat := if v.k == 4 then v.l.length else if v.k == 5 then nPairs v else 0
def nKs (v : V) : Nat := if v.k != 5 then 0 else nPairs v
def keys (v : V) : List ByteArray := v.ks.take (nKs v)
def flat (a b : V) : Bool := a.k == b.k && a.i == b.i && eqs a.s b.s && (a.tk == b.tk && a.to == b.to) && a.sec == b.sec && (a.l.length : Int) == b.l.length && eqSs a.ks b.ks
def only (v : V) : V := .mk v.k (if v.k == 1 || v.k == 2 then v.i else 0) (if v.k == 3 then v.s else ByteArray.empty) (if v.k == 5 || v.k == 4 then v.l else []) (if v.k == 5 then v.ks else [])
  (if v.k == 6 then v.tk else 0) (if v.k == 6 then v.to else 0) v.sec
def keyOk (ks : List ByteArray) (c : Nat) (x : ByteArray) : Bool := decide ((x.size : Int) > 1024) || decide ((c : Int) > 0) && !(Op.bytesLess (ks.getD (IntKind.i64.wrap ((c : Int) - 1)).toNat ByteArray.empty).toList x.toList)
def keysOk (ks : List ByteArray) : List ByteArray → Nat → Bool
  | [], _ => true
  | x :: r, c => if keyOk ks c x then false else keysOk ks r (c + 1)
def known : V → Bool := V.fold fun v rs => v.k != 6 && !((rs.take (nIt v)).any fun r => !r)
end Go.VA

namespace Go.VA
open Go Go.RowKit
def sameR : V → V → Bool → Bool := V.fold fun a rs b m =>
  if (a.k != b.k || a.i != b.i || !eqs a.s b.s || !(a.tk == b.tk && a.to == b.to) || m && !(a.sec == b.sec) || (a.l.length : Int) != b.l.length || (a.ks.length : Int) != b.ks.length) then false
  else if !eqSs a.ks b.ks then false else all2 (fun r y => r y m) rs b.l
theorem sameR_eq (a b : V) (m : Bool) : sameR a b m =
  if (a.k != b.k || a.i != b.i || !eqs a.s b.s || !(a.tk == b.tk && a.to == b.to) || m && !(a.sec == b.sec) || (a.l.length : Int) != b.l.length || (a.ks.length : Int) != b.ks.length) then false
  else if !eqSs a.ks b.ks then false else all2 (fun x y => sameR x y m) a.l b.l := by
  rw [sameR, V.fold_eq, all2_map]
def chk1 (v : V) (d : Int) : Bool := decide (d < 1) || decide (v.k < 0) || decide (v.k > 6)
def chk2 (v : V) : Bool := v.k != 1 && v.k != 2 && v.i != 0 || v.k == 1 && v.i != 0 && v.i != 1
def chk3 (v : V) : Bool := v.k != 3 && !(v.s.toList == ({ data := #[] } : ByteArray).toList) || decide ((v.s.size : Int) > 1024)
def chk4 (v : V) : Bool := v.k != 6 && !(v.tk == 0 && v.to == 0) || v.k == 6 && !chkR v.t
def chk5 (v : V) : Bool := v.k != 4 && v.k != 5 && decide ((v.l.length : Int) > 0) || decide ((v.l.length : Int) > 128)
def chk6 (v : V) : Bool := v.k != 5 && decide ((v.ks.length : Int) > 0) || v.k == 5 && (v.ks.length : Int) != v.l.length
def checkRV : V → Int → Bool := V.fold fun v rs d =>
  if chk1 v d then false else if chk2 v then false else if chk3 v then false else if chk4 v then false else if chk5 v then false else if chk6 v then false
  else if !keysOk v.ks v.ks 0 then false else rs.all fun r => r (IntKind.i64.wrap (d - 1))
def greatK : List ByteArray → Int → Int
  | [], n => n
  | k :: r, n => if decide (n ≤ 600) then greatK r (IntKind.i64.wrap (n + IntKind.i64.wrap ((if (4000 : Int) < k.size then 4000 else (k.size : Int)).tdiv 4))) else n
def greatL (d : Int) : List (Int → Int) → Int → Int
  | [], n => n
  | r :: rs, n => if decide (n ≤ 600) then greatL d rs (IntKind.i64.wrap (n + r (IntKind.i64.wrap (d - 1)))) else n
theorem greatK_stop {l : List ByteArray} {n : Int} (h : decide (n ≤ 600) = false) : greatK l n = n := by cases l <;> simp [greatK, h]
theorem greatL_stop {d : Int} {l : List (Int → Int)} {n : Int} (h : decide (n ≤ 600) = false) : greatL d l n = n := by cases l <;> simp [greatL, h]
theorem greatK_go {l : List ByteArray} {n : Int} {c : Nat} {x : ByteArray} (hx : l[c]? = some x) (h : n ≤ 600) :
    greatK (l.drop c) n = greatK (l.drop (c + 1)) (IntKind.i64.wrap (n + IntKind.i64.wrap ((if (4000 : Int) < x.size then 4000 else (x.size : Int)).tdiv 4))) := by
  rw [drop_cons? hx]; simp [greatK, h]
theorem greatL_go {d : Int} {l : List (Int → Int)} {n : Int} {c : Nat} {r : Int → Int} (hx : l[c]? = some r) (h : n ≤ 600) :
    greatL d (l.drop c) n = greatL d (l.drop (c + 1)) (IntKind.i64.wrap (n + r (IntKind.i64.wrap (d - 1)))) := by
  rw [drop_cons? hx]; simp [greatL, h]
def great0 (v : V) : Int := IntKind.i64.wrap (IntKind.i64.wrap (1 + IntKind.i64.wrap ((if (2000 : Int) < v.s.size then 2000 else (v.s.size : Int)).tdiv 4)) + (if (700 : Int) < v.ks.length then 700 else (v.ks.length : Int)))
def greatV : V → Int → Int := V.fold fun v rs d => if d == 0 then 601 else
  let n := greatL d rs (greatK v.ks (great0 v)); if 601 < n then 601 else n
theorem greatV_eq (v : V) (d : Int) : greatV v d = if d == 0 then 601 else
  let n := greatL d (v.l.map greatV) (greatK v.ks (great0 v)); if 601 < n then 601 else n := by
  rw [greatV, V.fold_eq]
end Go.VA

namespace Go.VA
open Go Go.RowKit
theorem eqs_refl (a : ByteArray) : eqs a a = true := by simp [eqs]
theorem eqSs_refl : ∀ l : List ByteArray, eqSs l l = true
  | [] => rfl
  | x :: r => by simp [eqSs, eqs_refl, eqSs_refl r]
theorem all2_refl {α : Type} {p : α → α → Bool} : ∀ {l : List α}, (∀ x ∈ l, p x x = true) → all2 p l l = true
  | [], _ => rfl
  | x :: r, h => by simp only [all2, Bool.and_eq_true]; exact ⟨h x (by simp), all2_refl fun y hy => h y (by simp [hy])⟩
theorem sameR_refl (v : V) : ∀ m, sameR v v m = true := by
  refine V.ind (p := fun v => ∀ m, sameR v v m = true) (fun v ih m => ?_) v
  rw [sameR_eq]
  simp [eqs_refl, eqSs_refl, all2_refl (p := fun x y => sameR x y m) fun x hx => ih x hx m]
def Ok (v : V) : Prop := ∃ d, checkRV v d = true
structure Okf (v : V) : Prop where
  k0 : 0 ≤ v.k
  k6 : v.k ≤ 6
  i : v.k ≠ 1 → v.k ≠ 2 → v.i = 0
  s : v.k ≠ 3 → v.s = ByteArray.empty
  t : v.k ≠ 6 → v.tk = 0 ∧ v.to = 0
  t6 : v.k = 6 → chk v.t = true
  l : v.k ≠ 4 → v.k ≠ 5 → v.l = []
  ks : v.k ≠ 5 → v.ks = []
  ks5 : v.k = 5 → v.ks.length = v.l.length
  ok : ∀ x ∈ v.l, Ok x
theorem Okf.keys {v : V} (h : Okf v) : keys v = v.ks := by
  unfold VA.keys nKs nPairs
  split
  · rename_i h5; rw [h.ks (by simpa using h5)]; rfl
  · rename_i h5; have := h.ks5 (by simpa using h5); rw [List.take_of_length_le (by omega)]
end Go.VA

namespace Go.VA
open Go Go.RowKit
end Go.VA

namespace Go.VA
open Go Go.RowKit
end Go.VA

namespace Go.VA
open Go Go.RowKit
end Go.VA

namespace Go.VA
open Go Go.RowKit
theorem NoTag.ag {xs : List C} (h : NtCs xs) : NoTag (.ag xs) := ⟨fun B S S' u hF hu => by
  simp only [RelV] at hu ⊢
  obtain ⟨arr, e, h'⟩ := hu
  exact ⟨arr, e, NtCs.vs hF _ _ h h'⟩⟩
theorem NoTag.c {x : C} (h : NtC x) : NoTag (.c x) := ⟨fun B S S' u hF hu => by
  simp only [RelV] at hu ⊢
  exact NtC.rep hF _ _ h hu⟩
def allNoTag : List AV → Prop
  | [] => True
  | x :: r => NoTag x ∧ allNoTag r
theorem NoTag.tup {xs : List AV} (h : allNoTag xs) : NoTag (.tup xs) := ⟨fun B S S' u hF hu => by
  simp only [RelV] at hu ⊢
  obtain ⟨arr, e, h'⟩ := hu
  refine ⟨arr, e, ?_⟩
  clear e
  revert h'
  generalize arr.toList = us
  induction xs generalizing us with
  | nil => exact fun h => h
  | cons x r ih =>
    intro h'
    simp only [RelVs] at h' ⊢
    obtain ⟨u, r', h1, h2, h3⟩ := h'
    exact ⟨u, r', h1, h.1.h B S S' u hF h2, ih h.2 _ h3⟩⟩
def rgV : V → Bool := V.fold fun v rs => decide (-9223372036854775808 ≤ v.i) && decide (v.i ≤ 9223372036854775807) && rs.all id
theorem rgV_eq (v : V) : rgV v = (decide (-9223372036854775808 ≤ v.i) && decide (v.i ≤ 9223372036854775807) && v.l.all rgV) := by
  unfold rgV; rw [V.fold_eq]; simp [List.all_map]
end Go.VA

namespace Go.VA
open Go Go.RowKit Go.ChangeShapes Go.WideShapes Go.ChangeAt

def S0 (W : World) : Rd := fun _ b o u => W.cell? ⟨b, o, none⟩ = some u
def M0 : Mz := ⟨0, fun _ => False, fun _ => False, fun _ h => h⟩
theorem Sr_M0 (W : World) : Sr M0 [] [] W = S0 W := by
  funext t b o u
  simp only [Sr, S0, eq_iff_iff, and_iff_right_iff_imp]
  intro _ h
  cases t <;> simp [MU, M0] at h
theorem relL_nil (W : World) : RelL M0 [] [] W where
  len := rfl
  bnd := by simp
  mbnd := by simp [M0]
  notM := by simp
  dist := by simp
  obj := by simp

section
variable {P : Program} {gl : Gl} {f : Nat} {args : List AV}

theorem acall_run {r : AV} (h : ACall P gl f args [] r) (W : World) (vals : Array Value) (hG : GlOk gl (S0 W)) (hv : RelVs [] (S0 W) args vals.toList) :
    Calls P f vals W fun e w' => ∃ u, e = .returned u ∧ Below W.heap.size W w' ∧ RelV [] (S0 w') r u := by
  have := h.run W M0 [] vals rfl (relL_nil W) (by rw [Sr_M0]; exact hG) (by rw [Sr_M0]; exact hv)
  refine this.mono fun e w' ⟨u, h1, h2, h3⟩ => ⟨u, h1, h2, ?_⟩
  rwa [Sr_M0] at h3

theorem acall_true (h : ACall P gl f args [] (boolA true)) (W : World) (vals : Array Value) (hG : GlOk gl (S0 W)) (hv : RelVs [] (S0 W) args vals.toList) :
    Calls P f vals W fun e w' => e = .returned (.bool true) ∧ Below W.heap.size W w' := by
  refine (acall_run h W vals hG hv).mono fun e w' ⟨u, h1, h2, h3⟩ => ?_
  simp only [boolA, RelV, RepC] at h3
  rw [h1, h3.1]
  exact ⟨rfl, h2⟩

end

section
variable {H : Type} {enc : TypeId × Value → H} {P : Program}

theorem post_of_below {f : Func} {s : ChangeSpec} {apart fresh handsOn again : Bool} {W W' : World} {args : Array Value} {v : Value} {ds gs : List (DataW H)} {before pa pv : List MemPlace}
    (hW : DataW.Whole enc P f.params.toList s.vars apart W args.toList ds gs before)
    (hres : ∀ (b : Nat) (sp : Nat → Bool) (hd : Bool), DataW.TrodAll enc P W' b sp hd f.resultTypes.toList (v.resultList f.resultTypes.size) (s.fn H (ds ++ gs)).results [])
    (hargs : ∀ sp : Nat → Bool, (∀ p ∈ before, sp p.block = true) → DataW.TrodAll enc P W' 0 sp true f.params.toList args.toList (s.fn H (ds ++ gs)).args pa)
    (hvars : ∀ sp : Nat → Bool, (∀ p ∈ before, sp p.block = true) → DataW.TrodVars enc P W' sp s.vars (s.fn H (ds ++ gs)).vars pv)
    (hps : before = pa ++ pv) (hb : Below W.heap.size W W')
    (hok : ∀ (j : Nat) (t : TypeId) (r : Value), f.resultTypes[j]? = some t → (v.resultList f.resultTypes.size)[j]? = some r → Value.okWide P W' .any 0 t r) :
    s.post enc P f apart fresh handsOn again W args v W' := by
  have hlt : ∀ p ∈ before, p.block < W.heap.size := fun p hp => hW.lt p hp
  have hold : ∀ p ∈ before, (fun b => decide (b < W.heap.size)) p.block = true := fun p hp => by simpa using hlt p hp
  refine ⟨ds, gs, before, [], pa, pv, hW, hres _ _ _, hargs _ hold, hvars _ hold, World.keptBut_mono (fun p hp => ⟨hp, ?_⟩) (hb.frame (· ∈ before)), fun _ => ?_⟩
  · rw [hps, List.mem_append] at hp
    exact Or.inr hp
  · obtain ⟨_, _, _, _, _, hz, hn⟩ := hW
    refine ⟨hok, _, _, ([] ++ pa) ++ pv, ⟨[] ++ pa, pv, trodAll_append (hargs _ (fun _ _ => rfl)) (hres _ _ _), hvars _ (fun _ _ => rfl), rfl, ?_, ?_⟩, ?_⟩
    · intro b off hp
      have hin : MemPlace.cell b off ∈ before := by rw [hps]; simpa using hp
      rw [hb.frozen (hlt _ hin)]
      exact hz b off hin
    · intro ha
      have := hn ha
      rw [hps] at this
      simpa using this
    · intro p hp _
      rw [hps]
      simpa using hp

def carried (P : Program) : List TypeId → Bool
  | [] => true
  | t :: ts => P.readableRec t && decide (t < P.types.size) && carried P ts

theorem trodAll_below (hl : laidOutB P = true) {W W' : World} (hb : Below W.heap.size W W') : ∀ {ts : List TypeId} {vs : List Value} {ds : List (DataW H)} {ps : List MemPlace},
    carried P ts = true → DataW.TrodAll enc P W 0 (fun _ => true) true ts vs ds ps → (∀ x ∈ ps, x.block < W.heap.size) →
    ∀ sp : Nat → Bool, (∀ p ∈ ps, sp p.block = true) → DataW.TrodAll enc P W' 0 sp true ts vs ds ps
  | [], [], [], _, _, h, _, _, _ => h
  | t :: ts, v :: vs, d :: ds, ps, hc, h, hlt, sp, hsp => by
    simp only [carried, Bool.and_eq_true, decide_eq_true_eq] at hc
    obtain ⟨p, q, h1, h2, rfl⟩ := h
    have h3 := Below.trod hl hc.1.1 hc.1.2 h1 hb fun x hx => hlt x (List.mem_append_left _ hx)
    refine ⟨p, q, ?_, trodAll_below hl hb hc.2 h2 (fun x hx => hlt x (List.mem_append_right _ hx)) sp (fun x hx => hsp x (List.mem_append_right _ hx)), rfl⟩
    exact WideElems.Trod_stays hl hc.1.1 hc.1.2 h1 (fun x hx => hb.same (hlt x (List.mem_append_left _ hx))) (fun x hx => hsp x (List.mem_append_left _ hx))
  | [], _ :: _, _, _, _, h, _, _, _ => h.elim
  | _ :: _, [], _, _, _, h, _, _, _ => h.elim
  | [], [], _ :: _, _, _, h, _, _, _ => h.elim
  | _ :: _, _ :: _, [], _, _, h, _, _, _ => h.elim
end

end Go.VA

namespace Go.VA
open Go Go.RowKit Go.ChangeShapes Go.WideShapes Go.ChangeAt

section
variable {H : Type} {enc : TypeId × Value → H} {P : Program} {tb : TB} {w : World} {base : Nat} {spare : Nat → Bool} {held : Bool} {fuel : Nat} {t : TypeId} {cs : List Value} {x : DataW H × List MemPlace}

theorem cellsOf_tb (htb : TbOk P tb) (ho : (tb t).k.isOther = false) : P.cellsOf t = (tb t).sz := by
  obtain ⟨i, d, z, h1, h2, h3, h4, _⟩ := (htb t).ok ho
  unfold Program.cellsOf
  rw [h1]
  simpa using h4

theorem tr_int (htb : TbOk P tb) {k : IntKind} (hk : (tb t).k = .int k) (h : DataW.trod enc P w base spare held fuel t cs = some x) : ∃ n, cs = [.int k n] ∧ k.min ≤ n ∧ n ≤ k.max := by
  obtain ⟨d, h2, h3⟩ := (htb t).under (by rw [hk]; rfl)
  rw [hk] at h3
  simp only [TKok] at h3
  subst h3
  obtain ⟨n, h4, _, h5⟩ := DataW.trod_int h2 h
  simp only [Lit.wf, Bool.and_eq_true, decide_eq_true_eq] at h5
  exact ⟨n, h4, h5⟩

theorem tr_bool (htb : TbOk P tb) (hk : (tb t).k = .bool) (h : DataW.trod enc P w base spare held fuel t cs = some x) : ∃ b, cs = [.bool b] := by
  obtain ⟨d, h2, h3⟩ := (htb t).under (by rw [hk]; rfl)
  rw [hk] at h3
  simp only [TKok] at h3
  subst h3
  obtain ⟨n, h4, _⟩ := DataW.trod_bool h2 h
  exact ⟨n, h4⟩

theorem tr_str (htb : TbOk P tb) (hk : (tb t).k = .str) (h : DataW.trod enc P w base spare held fuel t cs = some x) : ∃ s : ByteArray, cs = [.string s] ∧ s.size ≤ maxLen := by
  obtain ⟨d, h2, h3⟩ := (htb t).under (by rw [hk]; rfl)
  rw [hk] at h3
  simp only [TKok] at h3
  subst h3
  obtain ⟨n, h4, _, h5⟩ := DataW.trod_string h2 h
  exact ⟨n, h4, h5⟩

theorem tr_struct (htb : TbOk P tb) {fs : List (Nat × Nat)} (hk : (tb t).k = .struct fs) (h : DataW.trod enc P w base spare held fuel t cs = some x) :
    cs.length = (tb t).sz ∧ ∃ m, fuel = m + 1 ∧ ∀ i o ty : Nat, fs[i]? = some (o, ty) → (tb ty).k.isOther = false → ∃ y, DataW.trod enc P w base spare held m ty ((cs.drop o).take (tb ty).sz) = some y := by
  obtain ⟨d, h2, h3⟩ := (htb t).under (by rw [hk]; rfl)
  have hsz := cellsOf_tb htb (t := t) (by rw [hk]; rfl)
  rw [hk] at h3
  simp only [TKok] at h3
  obtain ⟨f, rfl, hf⟩ := h3
  obtain ⟨xs, n, h4, _, h5, h6, h7⟩ := DataW.trod_struct h2 h
  refine ⟨by rw [h5, hsz], n, h4, fun i o ty hi ho => ?_⟩
  rw [← hf.1, List.getElem?_map, Option.map_eq_some_iff] at hi
  obtain ⟨g, k1, k2⟩ := hi
  rw [Array.getElem?_toList] at k1
  have := h7 i g k1
  simp only [Prod.mk.injEq] at k2
  rw [k2.1, k2.2, cellsOf_tb htb ho] at this
  have hlt : i < xs.length := by
    rw [h6]
    exact (Array.getElem?_eq_some_iff.1 k1).1
  rw [List.getElem?_eq_getElem hlt] at this
  exact ⟨_, this⟩

theorem repCs_of_repVs {S : Rd} {R : Nat → Value → Prop} : ∀ {xs : List C} {us : List Value} {o : Nat}, RepVs S xs us → (∀ j u, us[j]? = some u → R (o + j) u) → RepCs S R o xs
  | [], us, o, _, _ => by simp [RepCs]
  | x :: xs, us, o, h, hR => by
    simp only [RepVs] at h
    obtain ⟨u, r, rfl, h1, h2⟩ := h
    simp only [RepCs]
    refine ⟨⟨u, hR 0 u rfl, h1⟩, repCs_of_repVs h2 fun j v hv => ?_⟩
    rw [Nat.add_assoc, Nat.add_comm 1 j]
    exact hR (j + 1) v (by simpa using hv)

theorem repC_rows {S : Rd} {a : Option Addr} {len cap esz : Nat} {f : Nat → List C} {tg : Bool} (hc : len ≤ cap ∧ len ≤ 140737488355328)
    (h : len = 0 ∨ ∃ b o, a = some ⟨b, o, none⟩ ∧ ∀ i, i < len → ∃ ce : List Value, ce.length = esz ∧ (∀ j, j < esz → ∀ u, ce[j]? = some u → S tg b (o + i * esz + j) u) ∧ (f i).length = esz ∧ RepVs S (f i) ce) :
    RepC S (.sl tg esz len f) (.slice a len cap) := by
  simp only [RepC]
  refine ⟨a, cap, rfl, hc, ?_⟩
  rcases h with h | ⟨b, o, h1, h2⟩
  · exact .inl h
  · refine .inr ⟨b, o, h1, fun i hi => ?_⟩
    obtain ⟨ce, k1, k2, k3, k4⟩ := h2 i hi
    refine ⟨k3, repCs_of_repVs k4 fun j u hu => ?_⟩
    have := (List.getElem?_eq_some_iff.1 hu).1
    exact k2 j (by omega) u hu

theorem relV_agg {S : Rd} {B : List (Option BI)} {v : Value} {xs : List C} {arr : Array Value} (hv : v = .agg arr) (h : RepVs S xs arr.toList) : RelV B S (.ag xs) v := by
  simp only [RelV]
  exact ⟨arr, hv, h⟩
theorem repV_i {S : Rd} {k : IntKind} {n : Int} : RepC S (.v (.int k n)) (.int k n) := by simp [RepC, Value.oneCell']
theorem repV_b {S : Rd} {b : Bool} : RepC S (.v (.bool b)) (.bool b) := by simp [RepC, Value.oneCell']
theorem repV_s {S : Rd} {b : ByteArray} : RepC S (.v (.string b)) (.string b) := by simp [RepC, Value.oneCell']

theorem arg_agg (htb : TbOk P tb) (hk : (tb t).k.agg = true) {v : Value} {r : Reach} {b0 : Nat} (hval : Value.okWide P w r b0 t v) : ∃ arr, v = .agg arr ∧ v.cells.toList = arr.toList := by
  obtain ⟨d, h2, h3⟩ := (htb t).under (by cases h : (tb t).k <;> rw [h] at hk <;> simp_all [TK.agg, TK.isOther])
  cases h : (tb t).k <;> rw [h] at hk h3 <;> simp only [TK.agg, Bool.false_eq_true] at hk
  case struct fs =>
    simp only [TKok] at h3
    obtain ⟨f, rfl, _⟩ := h3
    obtain ⟨cs, rfl, _⟩ := okWide_struct h2 hval
    exact ⟨cs, rfl, rfl⟩
  case array n e =>
    simp only [TKok] at h3
    subst h3
    simp only [Value.okWide, h2] at hval
    obtain ⟨cs, rfl, _⟩ := hval
    exact ⟨cs, rfl, rfl⟩
end
end Go.VA

namespace Go.VA
open Go Go.RowKit Go.ChangeShapes Go.WideShapes Go.ChangeAt

section
variable {H : Type} {enc : TypeId × Value → H} {P : Program} {tb : TB} {w : World} {base : Nat} {spare : Nat → Bool} {held : Bool} {fuel : Nat} {t : TypeId} {cs : List Value} {x : DataW H × List MemPlace}

def SzW (P : Program) (t : TypeId) (d : DataW H) : Prop := ∀ n ∈ d.weights P t, n ≤ reachBytes

theorem bytesOf_tb (htb : TbOk P tb) (ho : (tb t).k.isOther = false) : P.bytesOf t = (tb t).bytes := by
  obtain ⟨i, d, z, h1, h2, h3, h4, h5, _⟩ := (htb t).ok ho
  unfold Program.bytesOf
  rw [h1]
  simpa using h5

theorem tr_structS (htb : TbOk P tb) {fs : List (Nat × Nat)} (hk : (tb t).k = .struct fs) (h : DataW.trod enc P w base spare held fuel t cs = some x) (hs : SzW P t x.1) :
    cs.length = (tb t).sz ∧ ∃ m, fuel = m + 1 ∧ ∀ i o ty : Nat, fs[i]? = some (o, ty) → (tb ty).k.isOther = false → ∃ y, DataW.trod enc P w base spare held m ty ((cs.drop o).take (tb ty).sz) = some y ∧ SzW P ty y.1 := by
  obtain ⟨d, h2, h3⟩ := (htb t).under (by rw [hk]; rfl)
  have hsz := cellsOf_tb htb (t := t) (by rw [hk]; rfl)
  rw [hk] at h3
  simp only [TKok] at h3
  obtain ⟨f, rfl, hf⟩ := h3
  obtain ⟨xs, n, h4, h8, h5, h6, h7⟩ := DataW.trod_struct h2 h
  refine ⟨by rw [h5, hsz], n, h4, fun i o ty hi ho => ?_⟩
  rw [← hf.1, List.getElem?_map, Option.map_eq_some_iff] at hi
  obtain ⟨g, k1, k2⟩ := hi
  rw [Array.getElem?_toList] at k1
  have := h7 i g k1
  simp only [Prod.mk.injEq] at k2
  rw [k2.1, k2.2, cellsOf_tb htb ho] at this
  have hlt : i < xs.length := by
    rw [h6]
    exact (Array.getElem?_eq_some_iff.1 k1).1
  rw [List.getElem?_eq_getElem hlt] at this
  refine ⟨_, this, fun m hm => hs m ?_⟩
  rw [h8]
  simp only [DataW.weights, h2]
  exact DataW.weights_mem_each (j := i) (t := ty) (d := xs[i].1) (by rw [List.getElem?_map, Array.getElem?_toList, k1]; simp [k2.2]) (by simp [hlt]) m hm

theorem weightsAll_mem {e : TypeId} : ∀ {l : List (DataW H)} {d : DataW H}, d ∈ l → ∀ n ∈ d.weights P e, n ∈ DataW.weightsAll P e l
  | y :: r, d, hd, n, hn => by
    simp only [DataW.weightsAll, List.mem_append]
    rcases List.mem_cons.1 hd with rfl | hd
    · exact .inl hn
    · exact .inr (weightsAll_mem hd n hn)

theorem tr_sliceS (htb : TbOk P tb) {e : TypeId} (hk : (tb t).k = .slice e) (he : (tb e).k.isOther = false) (h0 : 0 < (tb e).sz) (h : DataW.trod enc P w base spare held fuel t cs = some x) (hs : SzW P t x.1) :
    ∃ a len cap m, cs = [.slice a len cap] ∧ fuel = m + 1 ∧ len ≤ cap ∧ len * (tb e).bytes ≤ 140737488351232 ∧ (len = 0 ∨ ∃ b o, a = some ⟨b, o, none⟩ ∧ ∀ i, i < len → ∃ ce y, ce.length = (tb e).sz ∧ (∀ j, j < (tb e).sz → w.cell? ⟨b, o + i * (tb e).sz + j, none⟩ = ce[j]?) ∧
      DataW.trod enc P w base spare held m e ce = some y ∧ SzW P e y.1) := by
  obtain ⟨d, h2, h3⟩ := (htb t).under (by rw [hk]; rfl)
  have hsz := cellsOf_tb htb he
  have hby := bytesOf_tb htb he
  rw [hk] at h3
  simp only [TKok] at h3
  subst h3
  rcases DataW.trod_slice h2 h with ⟨h4, _⟩ | ⟨a, len, cap, elems, rest, n, h4, h5, hx, h6, h7, h8, h9, h10, _⟩
  · cases fuel with
    | zero => simp [DataW.trod] at h
    | succ m => exact ⟨none, 0, 0, m, h4, rfl, Nat.le_refl _, by simp, .inl rfl⟩
  · have hw : (elems.length + rest.length) * P.bytesOf e ≤ reachBytes := by
      refine hs _ ?_
      rw [hx]
      simp [DataW.weights, h2]
    refine ⟨some a, len, cap, n, h5, h4, h7, ?_, ?_⟩
    · rw [← h9, ← hby]
      have : elems.length * P.bytesOf e ≤ (elems.length + rest.length) * P.bytesOf e := Nat.mul_le_mul_right _ (Nat.le_add_right _ _)
      unfold reachBytes at hw
      omega
    by_cases hl : len = 0
    · exact .inl hl
    · right
      have key : ∀ i, i < len → ∃ ce y, w.cells? base (a.add (i * (tb e).sz)) (tb e).sz = some ce ∧ DataW.trod enc P w base spare held n e ce = some y ∧ SzW P e y.1 := by
        intro i hi
        have := h10 i hi
        rw [hsz] at this
        rw [List.getElem?_eq_getElem (by omega)] at this
        obtain ⟨ce, k1, k2⟩ := Option.bind_eq_some_iff.1 this
        refine ⟨ce, _, k1, k2, fun m hm => hs m ?_⟩
        rw [hx]
        simp only [DataW.weights, h2, List.mem_cons, List.mem_append]
        refine .inr (.inl (weightsAll_mem (d := (elems[i]'(by omega)).1) (List.mem_map.2 ⟨elems[i]'(by omega), List.getElem_mem _, rfl⟩) m hm))
      obtain ⟨b, o, spot⟩ := a
      obtain ⟨ce0, y0, k1, _⟩ := key 0 (by omega)
      obtain ⟨_, k3, k4⟩ := World.cells?_some k1
      have g0 := k4 0 h0
      rw [List.getElem?_eq_getElem (by omega)] at g0
      have hspot : spot = none := by simpa [Addr.add] using World.cell?_spot g0
      subst hspot
      refine ⟨b, o, rfl, fun i hi => ?_⟩
      obtain ⟨ce, y, k1, k2, k5⟩ := key i hi
      obtain ⟨_, k3, k4⟩ := World.cells?_some k1
      refine ⟨ce, y, k3, fun j hj => ?_, k2, k5⟩
      have := k4 j hj
      rw [← this]
      congr 1
      simp only [Addr.add]
      split <;> split <;> simp_all
end

end Go.VA

namespace Go.VA
open Go Go.RowKit Go.ChangeShapes Go.WideShapes Go.ChangeAt
end Go.VA


namespace Go.VA
open Go Go.RowKit Go.ChangeShapes Go.WideShapes Go.ChangeAt
section
variable {P : Program} {tb : TB} {W : World}
theorem laid_ints (htb : TbOk P tb) {n e : Nat} {k : IntKind} {t : TypeId} (hk : (tb t).k = .array n e) (he : (tb e).k = .int k) (h1 : (tb e).sz = 1) {l : List Int} {r : List (String × DataW Unit)} {ps : List MemPlace} {nm : String} {g : Nat}
    (hg : P.globalNamed nm = some g) (ht : (P.globals[g]?).map (·.type) = some t) (h : DataW.LaidVars P W ((nm, .agg (l.map fun i => .lit (.int k i))) :: r) ps) :
    RepCs (S0 W) (S0 W false g) 0 (l.map fun i => .v (.int k i)) ∧ ∃ q, DataW.LaidVars P W r q := by
  obtain ⟨g', t', cs, fuel, p, q, hg', ht', hv, hd, hr, _⟩ := h
  obtain rfl := Option.some.inj (hg.symm.trans hg')
  obtain rfl := Option.some.inj (ht.symm.trans ht')
  refine ⟨?_, q, hr⟩
  obtain ⟨d, hd2, hT⟩ := (htb t).under (by simp [hk, TK.isOther])
  rw [hk] at hT
  simp only [TKok] at hT
  subst hT
  obtain ⟨d, hd3, hT⟩ := (htb e).under (by simp [he, TK.isOther])
  rw [he] at hT
  simp only [TKok] at hT
  subst hT
  have hce : P.cellsOf e = 1 := by rw [cellsOf_tb htb (by rw [he]; rfl), h1]
  obtain ⟨xs, m, _, hx, hlen, hn, hel⟩ := DataW.trod_array hd2 hd
  simp only [Prod.mk.injEq, DataW.agg.injEq] at hx
  have hx1 := hx.1
  have hll : l.length = n := by have := congrArg List.length hx1; simpa [hn] using this
  refine RepCs.mk _ _ fun j x hj => ?_
  rw [List.getElem?_map, Option.map_eq_some_iff] at hj
  obtain ⟨i, hi, rfl⟩ := hj
  have hjl : j < n := by have := (List.getElem?_eq_some_iff.1 hi).1; omega
  refine ⟨.int k i, ?_, by simp [RepC, Value.oneCell']⟩
  have hy := hel j hjl
  rw [List.getElem?_eq_getElem (by omega), hce] at hy
  obtain ⟨z, e1, e2, _⟩ := DataW.trod_int hd3 hy
  have hq : (xs.map (·.1))[j]? = (l.map fun i => (DataW.lit (.int k i) : DataW Unit))[j]? := by rw [hx1]
  rw [List.getElem?_map, List.getElem?_map, hi, List.getElem?_eq_getElem (by omega)] at hq
  simp only [Option.map_some, Option.some.injEq] at hq
  rw [e2] at hq
  simp only [DataW.lit.injEq, Lit.int.injEq, true_and] at hq
  subst hq
  show W.cell? _ = _
  rw [Nat.zero_add, World.var?_cell hg hv j, ← Array.getElem?_toList]
  have := congrArg (fun l => l[0]?) e1
  simpa [List.getElem?_take, List.getElem?_drop] using this
end

theorem law_liftedL {C : Checked} {f : FuncId} {fn : Func} {s : ChangeSpec} {conds : List PathCond} (laid : List (String × DataW Unit)) (os : Os) (started : os.Started) {H : Type} {enc : TypeId × Value → H} {tb : TypeId}
    (own : ownKnob C.prog.godebug = none) (noInit : C.prog.inits.idxOf? f = none) (hfn : C.prog.funcs[f]? = some fn)
    (hl : laidOutB C.prog = true) (hc : carried C.prog fn.params.toList = true) (hv : s.vars = []) (hvt : s.plain.varTypes C.prog = []) (hr : fn.resultTypes = #[tb]) (htb : C.prog.underlying tb = some .bool)
    (hspec : ∀ ds : List (DataW H), ds.length = fn.params.size → s.fn H ds = { results := [.lit (.bool true)], args := ds })
    (witness : ∃ (w : World) (tape : Tape) (i : Input), w.os = os ∧ (w.forCall tape i).Shaped C.prog ∧ i.vars = [] ∧ Input.okWide C.prog (w.forCall tape i) .any w.heap.size f i ∧
      ((s.pre enc C.prog fn conds false (w.forCall tape i).memory i.args ∧ laidMetH C.prog laid (w.forCall tape i).memory) ∧ sizedMet enc C.prog fn (OpenSpec.ofChange s) false (w.forCall tape i).memory i.args) ∧ ({} : Assume).holds C.prog (lone (Frame.enter C.prog f i.args .normal) [] (w.forCall tape i)))
    (call : ∀ (W : World) (base : Nat) (args : Array Value) (ds : List (DataW H)) (ps : List MemPlace),
      (∀ (j : Nat) t v, fn.params[j]? = some t → args[j]? = some v → Value.okWide C.prog W .any base t v) →
      DataW.TrodAll enc C.prog W 0 (fun _ => true) true fn.params.toList args.toList ds ps →
      (∀ (j : Nat) t d, fn.params.toList[j]? = some t → ds[j]? = some d → SzW C.prog t d) →
      laidMetH C.prog laid W →
      Calls C.prog f args W fun e w' => e = .returned (.bool true) ∧ Below W.heap.size W w') :
    ReturnsInHanded {} C os f .any (fun w args => (s.pre enc C.prog fn conds false w args ∧ laidMetH C.prog laid w) ∧ sizedMet enc C.prog fn (OpenSpec.ofChange s) false w args) (s.post enc C.prog fn false true false false) := by
  refine returnsInHanded_of_change_and (X := fun w _ => laidMetH C.prog laid w) (fun _ _ _ hh h => h.of_heap hh) own started noInit hfn witness ?_
  intro W base args ds gs before hval hW _ hsz hX _
  have hW' := hW
  obtain ⟨p, q, hA, hV, hpq, hfz, hnd⟩ := hW
  rw [hv] at hV
  obtain ⟨rfl, rfl⟩ := trodVars_none hV
  rw [List.append_nil] at hpq
  subst hpq
  have hlen : ds.length = fn.params.size := by
    have : ∀ {ts : List TypeId} {vs : List Value} {ds : List (DataW H)} {ps : List MemPlace}, DataW.TrodAll enc C.prog W 0 (fun _ => true) true ts vs ds ps → ds.length = ts.length := by
      intro ts
      induction ts with
      | nil => intro vs ds ps h; cases vs <;> cases ds <;> first | rfl | exact h.elim
      | cons t ts ih =>
        intro vs ds ps h
        cases vs with
        | nil => exact h.elim
        | cons v vs =>
          cases ds with
          | nil => exact h.elim
          | cons d ds =>
            obtain ⟨_, _, _, h2, _⟩ := h
            simp [ih h2]
    rw [this hA]; simp
  rw [hvt, List.append_nil, List.append_nil] at hsz
  have hsz' : ∀ (j : Nat) t d, fn.params.toList[j]? = some t → ds[j]? = some d → SzW C.prog t d := fun j t d h1 h2 n hn => by
    have := List.all_eq_true.1 hsz n (DataW.weights_mem_each h1 h2 n hn)
    simpa using this
  refine (call W base args ds before hval hA hsz' hX).mono fun e W' ⟨he, hb⟩ => ⟨_, he, ?_⟩
  have hs := hspec ds hlen
  refine post_of_below (pa := before) (pv := []) hW' (fun b sp hd => ?_) (fun sp hsp => ?_) (fun sp _ => ?_) (by simp) hb ?_
  · rw [List.append_nil, hs, hr]
    refine trodAll_mk1 ⟨1, ?_⟩
    simp [DataW.trod, htb, Value.cells]
  · rw [List.append_nil, hs]
    exact trodAll_below hl hb hc hA (fun x hx => hW'.lt x hx) sp hsp
  · rw [hv, List.append_nil, hs]
    rfl
  · exact ok_one hr rfl (okWide_bool_mk htb true)
end Go.VA

namespace Go.VA
open Go Go.RowKit Go.ChangeShapes Go.WideShapes Go.ChangeAt
end Go.VA

namespace Go.VA
open Go Go.RowKit Go.ChangeShapes Go.WideShapes Go.ChangeAt
end Go.VA

namespace Go.VA
open Go Go.RowKit Go.ChangeShapes Go.WideShapes Go.ChangeAt
section
variable {H : Type} {enc : TypeId × Value → H} {P : Program} {tb : TB} {w : World} {base : Nat} {spare : Nat → Bool} {held : Bool} {fuel : Nat} {t : TypeId} {cs : List Value} {x : DataW H × List MemPlace}
theorem tr_strS (htb : TbOk P tb) (hk : (tb t).k = .str) (h : DataW.trod enc P w base spare held fuel t cs = some x) (hs : SzW P t x.1) : ∃ s : ByteArray, cs = [.string s] ∧ s.size ≤ 140737488351232 := by
  obtain ⟨d, h2, h3⟩ := (htb t).under (by rw [hk]; rfl)
  rw [hk] at h3
  simp only [TKok] at h3
  subst h3
  obtain ⟨n, h4, h6, h5⟩ := DataW.trod_string h2 h
  refine ⟨n, h4, ?_⟩
  have := hs n.data.toList.length (by rw [h6]; simp [DataW.weights])
  rw [Array.length_toList] at this
  exact Nat.le_trans this (Nat.le_of_ble_eq_true rfl)
end
end Go.VA
