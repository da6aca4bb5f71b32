/- An executor of the model over symbolic values, and the proof that what it shows of a function holds of every call: no condition. -/
import Derived.Test.YtbddpnohacjjfaaDoorVC
import Derived.Laws.Strings
import Derived.ProofKit
import Derived.SizedLaws
import Derived.LaidMore
import Derived.OpenShut
import Derived.MakeChecks
import Derived.Stop.Joined
set_option linter.unusedSimpArgs false
set_option linter.unusedVariables false
set_option linter.unusedSectionVars false
set_option linter.unnecessarySimpa false
namespace Go.VA
open Go Go.RowKit

theorem RelO.ble {B B' : List (Option BI)} {S : Rd} {w : World} (hB : Ble B B') {x : AO} {bo : Option BI} (h : RelO B S w x bo) : RelO B' S w x bo := by
  cases x with
  | box xs =>
    obtain ⟨bi, cs, ty, e, h1, h2, h3, h4, h5⟩ := h
    exact ⟨bi, cs, ty, e, h1, h2, h3, h4, RelVs.mono hB (Rd.le_refl S) _ _ h5⟩
  | row e n f => cases bo <;> exact h
  | frz e n f => cases bo <;> exact h
  | mp m => exact h
  | amb vs xs => exact RelVs.mono hB (Rd.le_refl S) _ _ h
  | dead => trivial
theorem RelSl.ble {B B' : List (Option BI)} {S : Rd} {a : Act} (hB : Ble B B') {x : AV} {u : Value} (h : RelSl B S a x u) : RelSl B' S a x u := by
  cases x <;> simp only [RelSl] at h ⊢ <;> first | exact RelV.mono hB (Rd.le_refl S) _ _ h | exact ⟨fun e => RelV.mono hB (Rd.le_refl S) _ _ (h.1 e), h.2⟩
section
variable {P : Program} {gl : Gl}

end
end Go.VA

namespace Go.VA
open Go Go.RowKit

def forceI (sel : List Nat) (i : Nat) (K : Nat → Prop) : Prop := match nthG sel i with | some s => K s | none => K 0
mutual
def renK (sel : List Nat) : AV → (AV → Prop) → Prop
  | .ptr i o, K => forceI sel i fun i => K (.ptr i o)
  | .pe i e k j, K => forceI sel i fun i => K (.pe i e k j)
  | .own i e o l, K => forceI sel i fun i => K (.own i e o l)
  | .mpv i, K => forceI sel i fun i => K (.mpv i)
  | .agx xs, K => renKs sel xs fun xs => K (.agx xs)
  | .tup xs, K => renKs sel xs fun xs => K (.tup xs)
  | .fn f xs ys, K => renKs sel xs fun xs => renKs sel ys fun ys => K (.fn f xs ys)
  | .gd .., K => K .any
  | .any, K => K .any
  | .c x, K => K (.c x)
  | .ag xs, K => K (.ag xs)
  | .sp t xs k, K => K (.sp t xs k)
  | .ub p, K => K (.ub p)
def renKs (sel : List Nat) : List AV → (List AV → Prop) → Prop
  | [], K => K []
  | x :: r, K => renK sel x fun x => renKs sel r fun r => K (x :: r)
end
def renOK (sel : List Nat) : AO → (AO → Prop) → Prop
  | .box xs, K => renKs sel xs fun xs => K (.box xs)
  | .row e n f, K => K (.row e n f)
  | .frz e n f, K => K (.frz e n f)
  | .mp m, K => K (.mp m)
  | .amb vs xs, K => K (.amb vs xs)
  | .dead, K => K .dead
def putGK (selF : List Nat) : List Nat → List AO → List AO → (List AO → Prop) → Prop
  | [], _, L, K => K L
  | s :: r, post, L, K => match post with
    | [] => K L
    | y :: pr => renOK selF y fun y => putGK selF r pr (setO L s y) K
def allGe (ro : Nat) : List Nat → Bool
  | [] => true
  | s :: r => match Nat.ble ro s with | true => allGe ro r | false => false
section
variable {P : Program} {tb : TB} {gl : Gl}
def allLive : List AO → Bool
  | [] => true
  | x :: r => match x.live with | true => allLive r | false => false
theorem allLive_get : ∀ {l : List AO}, allLive l = true → ∀ i, i < l.length → (getO l i).live = true
  | [], _, i, h => by simp at h
  | x :: r, h, i, hi => by
    simp only [allLive] at h
    split at h
    · rename_i h0
      cases i with
      | zero => exact h0
      | succ i => exact allLive_get h i (by simpa using hi)
    · simp at h
theorem gcall_of_vcb (htb : TbOk P tb) (hmix : P.follows .mixedOrders = true) {f : Nat} {fn : Func} {c : Code} (hf : P.funcs[f]? = some fn) (hb : fn.body = some c)
    (hname : (fn.name == "runtime.NumGoroutine") = false) (hok : codeOk fn.ntmps c = true) {pre post : List AO} {args res : List AV} (hargs' : Nat.ble args.length fn.ntmps = true) (hkd : kdsOk pre post = true)
    (hlq : allLive post = true)
    (h : bndOs pre → gbnds args → crossK fn.results.toList c fun U => vc P tb gl 0 pre.length U c (envOf 0 args) pre (EndG tb fn.results.toList pre.length post res)) : GCall P gl f pre args post res :=
  gcall_of_vc htb hmix hf hb hname hok hargs' hkd (allLive_get hlq) h
end
end Go.VA

namespace Go.VA
open Go Go.RowKit

end Go.VA

namespace Go.VA
open Go Go.RowKit
section
variable {P : Program} {gl : Gl}
end
section
variable {P : Program} {tb : TB} {gl : Gl}
end
end Go.VA

namespace Go.VA
open Go Go.RowKit

@[irreducible] noncomputable def arrC (g : Nat → C) (n : Nat) : List C := Classical.choose (⟨(List.range n).map g, rfl⟩ : ∃ l, l = (List.range n).map g)
theorem arrC_def (g : Nat → C) (n : Nat) : arrC g n = (List.range n).map g := by unfold arrC; exact Classical.choose_spec (⟨(List.range n).map g, rfl⟩ : ∃ l, l = (List.range n).map g)
theorem arrC_length (g : Nat → C) (n : Nat) : (arrC g n).length = n := by rw [arrC_def]; simp
theorem arrC_get (g : Nat → C) (n i : Nat) : (arrC g n)[i]? = if i < n then some (g i) else none := by
  rw [arrC_def]
  simp only [List.getElem?_map]
  by_cases h : i < n
  · rw [if_pos h, List.getElem?_range h]; rfl
  · rw [if_neg h, List.getElem?_eq_none (by simp; omega)]; rfl
theorem arrC_ext {l : List C} {g : Nat → C} {n : Nat} (h : l.length = n) (k : ∀ i, i < n → l[i]? = some (g i)) : l = arrC g n := by
  apply List.ext_getElem?
  intro i
  rw [arrC_get]
  by_cases hi : i < n
  · rw [if_pos hi, k i hi]
  · rw [if_neg hi, List.getElem?_eq_none (by omega)]
theorem arrC_congr {f g : Nat → C} {n : Nat} (h : ∀ i, i < n → f i = g i) : arrC f n = arrC g n :=
  arrC_ext (arrC_length f n) fun i hi => by rw [arrC_get, if_pos hi, h i hi]
theorem arrC_one (g : Nat → C) : arrC g 1 = [g 0] := by rw [arrC_def]; rfl
theorem cut_drop {α : Type} : ∀ (xs : List α) (k n : Nat), k + n ≤ xs.length → cut xs k n = some ((xs.drop k).take n)
  | [], 0, 0, _ => rfl
  | _ :: _, 0, 0, _ => rfl
  | [], 0, n + 1, h => by simp at h
  | [], k + 1, n, h => by simp at h
  | x :: r, 0, n + 1, h => by
    have := cut_drop r 0 n (by simp at h; omega)
    simp only [cut, this]
    simp
  | x :: r, k + 1, n, h => by
    have := cut_drop r k n (by simp at h; omega)
    simp only [cut, this]
    simp
theorem arrC_cut (g : Nat → C) (n k m : Nat) (h : k + m ≤ n) : cut (arrC g n) k m = some (arrC (fun i => g (k + i)) m) := by
  rw [cut_drop _ _ _ (by rw [arrC_length]; exact h)]
  congr 1
  refine arrC_ext (by rw [List.length_take, List.length_drop, arrC_length]; omega) fun i hi => ?_
  rw [List.getElem?_take, if_pos hi, List.getElem?_drop, arrC_get, if_pos (by omega)]
theorem arrC_cut1 (g : Nat → C) (n k : Nat) (h : k < n) : cut (arrC g n) k 1 = some [g k] := by
  rw [arrC_cut g n k 1 h, arrC_one]; rfl
theorem arrC_cutAll (g : Nat → C) (n : Nat) : cut (arrC g n) 0 n = some (arrC g n) := by
  rw [arrC_cut g n 0 n (by omega)]; congr 1; exact arrC_congr fun i _ => by rw [Nat.zero_add]
theorem cut_map {α β : Type} (f : α → β) : ∀ (xs : List α) (k n : Nat), k + n ≤ xs.length → cut (xs.map f) k n = some (((xs.drop k).take n).map f) := by
  intro xs k n h
  rw [cut_drop _ _ _ (by simpa using h), List.map_take, List.map_drop]
theorem arrA_cut1 (g : Nat → C) (n k : Nat) (h : k < n) : cut (List.map AV.c (arrC g n)) k 1 = some [.c (g k)] := by
  rw [cut_map _ _ _ _ (by rw [arrC_length]; exact h)]
  have := arrC_cut1 g n k h
  rw [cut_drop _ _ _ (by rw [arrC_length]; exact h)] at this
  simp only [Option.some.injEq] at this
  rw [this]; rfl
theorem arrA_cutAll (g : Nat → C) (n : Nat) : cut (List.map AV.c (arrC g n)) 0 n = some (List.map AV.c (arrC g n)) := by
  rw [cut_map _ _ _ _ (by rw [arrC_length]; omega)]
  have := arrC_cutAll g n
  rw [cut_drop _ _ _ (by rw [arrC_length]; omega)] at this
  simp only [Option.some.injEq] at this
  rw [this]
theorem arrA_len (g : Nat → C) (n : Nat) : (List.map AV.c (arrC g n)).length = n := by rw [List.length_map, arrC_length]
theorem toCs_mapC : ∀ (xs : List C), toCs (xs.map AV.c) = some xs
  | [] => rfl
  | x :: r => by simp [toCs, toCs_mapC r]
theorem layA_ok : ∀ (ys : List AV) (o : Nat) (xs : List AV), o + xs.length ≤ ys.length → ∃ zs, layA ys o xs = some zs
  | ys, 0, [], _ => ⟨ys, by cases ys <;> rfl⟩
  | [], 0, x :: xs, h => by simp at h
  | [], o + 1, xs, h => by simp at h
  | y :: r, 0, x :: xs, h => by
    obtain ⟨z, hz⟩ := layA_ok r 0 xs (by simpa using h)
    exact ⟨x :: z, by simp [layA, hz]⟩
  | y :: r, o + 1, xs, h => by
    obtain ⟨z, hz⟩ := layA_ok r o xs (by simp at h; omega)
    exact ⟨y :: z, by simp [layA, hz]⟩
theorem layA_eq {ys xs zs : List AV} {o : Nat} (hl : zs.length = ys.length) (h : o + xs.length ≤ ys.length) (hz : ∀ i, zs[i]? = if o ≤ i ∧ i < o + xs.length then xs[i - o]? else ys[i]?) : layA ys o xs = some zs := by
  obtain ⟨z, k⟩ := layA_ok ys o xs h
  obtain ⟨_, h2, h3⟩ := layA_spec _ _ _ _ k
  rw [k]; congr 1
  apply List.ext_getElem?
  intro i
  rw [h3, hz]
theorem layA_all {ys : List AV} (g : Nat → C) (n : Nat) (h : ys.length = n) : layA ys 0 (List.map AV.c (arrC g n)) = some (List.map AV.c (arrC g n)) := by
  refine layA_eq (by rw [arrA_len, h]) (by rw [arrA_len, h]; omega) fun i => ?_
  rw [arrA_len]
  by_cases hi : i < n
  · rw [if_pos (by omega), Nat.sub_zero]
  · rw [if_neg (by omega), List.getElem?_eq_none (by rw [arrA_len]; omega), List.getElem?_eq_none (by omega)]
def updC (g : Nat → C) (k : Nat) (x : C) (i : Nat) : C := if i = k then x else g i
theorem arrA_lay1 (g : Nat → C) (n k : Nat) (x : C) (h : k < n) : layA (List.map AV.c (arrC g n)) k [.c x] = some (List.map AV.c (arrC (updC g k x) n)) := by
  refine layA_eq (by rw [arrA_len, arrA_len]) (by rw [arrA_len]; simp; omega) fun i => ?_
  simp only [List.length_singleton, List.getElem?_map, arrC_get, updC]
  by_cases hi : i = k
  · subst hi; rw [if_pos (by omega), if_pos h, if_pos rfl]; simp
  · have hn : ¬ (k ≤ i ∧ i < k + 1) := by omega
    simp only [hi, if_false]
    rw [if_neg hn]
theorem LeAs_c (k n : Nat) : ∀ (xs : List C), LeAs k n (xs.map AV.c) (xs.map AV.c)
  | [] => trivial
  | x :: r => ⟨⟨LeE.of (Le.refl _), rfl⟩, LeAs_c k n r⟩
theorem mkA_arr {a : Bool} {g : Nat → C} {n : Nat} (h : a = true) : mkA a (List.map AV.c (arrC g n)) = .ag (arrC g n) := by subst h; unfold mkA; simp only; rw [show toCs (List.map AV.c (arrC g n)) = some (arrC g n) from toCs_mapC _]
theorem mkC_arr {a : Bool} {g : Nat → C} {n : Nat} (h : a = true) : mkC a (arrC g n) = .ag (arrC g n) := by subst h; rfl
theorem arrC_cutZ {g : Nat → C} {n o z s m : Nat} (hm : m = 1) (hs : s = 1) (h : o + z < n) : cut (arrC g n) (o + z * s) m = some [g (o + z)] := by
  subst hm; subst hs; rw [Nat.mul_one]; exact arrC_cut1 g n _ h
theorem arrA_cutZ {g : Nat → C} {n o z s m : Nat} (hm : m = 1) (hs : s = 1) (h : o + z < n) : cut (List.map AV.c (arrC g n)) (o + z * s) m = some [.c (g (o + z))] := by
  subst hm; subst hs; rw [Nat.mul_one]; exact arrA_cut1 g n _ h
theorem arrA_layZ {g : Nat → C} {n o z s : Nat} {x : C} (hs : s = 1) (h : o + z < n) : layA (List.map AV.c (arrC g n)) (o + z * s) [.c x] = some (List.map AV.c (arrC (updC g (o + z) x) n)) := by
  subst hs; rw [Nat.mul_one]; exact arrA_lay1 g n _ x h
theorem arrA_layX {g : Nat → C} {n o z s : Nat} {x : AV} {y : C} (hx : x = .c y) (hs : s = 1) (h : o + z < n) : layA (List.map AV.c (arrC g n)) (o + z * s) [x] = some (List.map AV.c (arrC (updC g (o + z) y) n)) := by
  subst hx; exact arrA_layZ hs h
theorem arrA_cutN {g : Nat → C} {n m : Nat} (h : m = n) : cut (List.map AV.c (arrC g n)) 0 m = some (List.map AV.c (arrC g n)) := by subst h; exact arrA_cutAll g m
theorem arrC_cutN {g : Nat → C} {n m : Nat} (h : m = n) : cut (arrC g n) 0 m = some (arrC g n) := by subst h; exact arrC_cutAll g m
theorem layA_allN {ys : List AV} {g : Nat → C} {n : Nat} (h : ys.length = n) : layA ys 0 (List.map AV.c (arrC g n)) = some (List.map AV.c (arrC g n)) := layA_all g n h
theorem toCs_arr {g : Nat → C} {n : Nat} : toCs (List.map AV.c (arrC g n)) = some (arrC g n) := toCs_mapC _

abbrev W := BitVec 32
end Go.VA

namespace Go.VA
open Go Go.RowKit
def sl (a b c : Nat) (x : W) : W := x.rotateRight a ^^^ x.rotateRight b ^^^ (x >>> c)
end Go.VA

namespace Go.VA
open Go Go.RowKit
theorem purge_c (id : Nat) : ∀ xs : List C, List.map (AV.purge id) (List.map AV.c xs) = List.map AV.c xs
  | [] => rfl
  | x :: r => by simp only [List.map_cons]; rw [purge_c id r]; rfl
theorem LeAs_pc {k n id : Nat} {xs : List C} : LeAs k n (List.map (AV.purge id) (List.map AV.c xs)) (List.map AV.c xs) := by rw [purge_c]; exact LeAs_c _ _ _
theorem and63 (n : Nat) (h : n < 9223372036854775808) : bitsI .and .i64 (n : Int) 63 = ((n % 64 : Nat) : Int) := by
  show IntKind.i64.wrap (((BitVec.ofInt 64 (n : Int) &&& BitVec.ofInt 64 63).toNat : Nat) : Int) = _
  have e : (BitVec.ofInt 64 (n : Int) &&& BitVec.ofInt 64 63).toNat = n % 64 := by
    rw [BitVec.toNat_and, BitVec.ofInt_natCast, BitVec.toNat_ofNat, Nat.mod_eq_of_lt (by omega), show (BitVec.ofInt 64 63).toNat = 2 ^ 6 - 1 from by decide, Nat.and_two_pow_sub_one_eq_mod]
  rw [e]
  exact IntWalk.i64_in _ (by omega)
end Go.VA

namespace Go.VA
open Go Go.RowKit

inductive V where
  | mk (k i : Int) (s : ByteArray) (l : List V) (ks : List ByteArray) (tk to : Int) (sec : Bool)

namespace V
def k : V → Int | mk k _ _ _ _ _ _ _ => k
def i : V → Int | mk _ i _ _ _ _ _ _ => i
def s : V → ByteArray | mk _ _ s _ _ _ _ _ => s
def l : V → List V | mk _ _ _ l _ _ _ _ => l
def ks : V → List ByteArray | mk _ _ _ _ ks _ _ _ => ks
def tk : V → Int | mk _ _ _ _ _ tk _ _ => tk
def to : V → Int | mk _ _ _ _ _ _ to _ => to
def sec : V → Bool | mk _ _ _ _ _ _ _ sec => sec
def z : V := mk 0 0 ByteArray.empty [] [] 0 0 false
instance : Inhabited V := ⟨z⟩
end V

mutual
def V.fold {α : Type} (f : V → List α → α) : V → α
  | .mk k i s l ks tk to sec => f (.mk k i s l ks tk to sec) (V.foldL f l)
def V.foldL {α : Type} (f : V → List α → α) : List V → List α
  | [] => []
  | x :: r => V.fold f x :: V.foldL f r
end
def cS (s : ByteArray) : List C := [.v (.string s)]
abbrev rS (ks : List ByteArray) : Nat → List C := rowE cS ByteArray.empty ks

mutual
def cV0 : V → List C
  | .mk k i s l ks tk to sec => [.v (.int .i64 k), .v (.int .i64 i), .v (.string s), .sl false 8 l.length (rV l), .sl false 1 ks.length (rS ks), .v (.int .i64 tk), .v (.int .i64 to), .v (.bool sec)]
def rV : List V → Nat → List C
  | [], _ => []
  | x :: _, 0 => cV0 x
  | _ :: r, n + 1 => rV r n
end

def cVt (t t' : Bool) (v : V) : List C :=
  [.v (.int .i64 v.k), .v (.int .i64 v.i), .v (.string v.s), .sl t 8 v.l.length (rV v.l), .sl t' 1 v.ks.length (rS v.ks), .v (.int .i64 v.tk), .v (.int .i64 v.to), .v (.bool v.sec)]
end Go.VA

namespace Go.VA
open Go Go.RowKit
abbrev Ty := Int × Int
def chk (p : Ty) : Bool := !(decide (p.1 < 0) || decide (p.1 > 5) || decide (p.2 < 0) || decide (p.2 > 3) || (!(p.1 == 4 || p.1 == 5) && p.2 != 0))
def chkR (p : Ty) : Bool := if (decide (p.1 < 0) || decide (p.1 > 5) || decide (p.2 < 0) || decide (p.2 > 3)) then false else (p.2 == 0 || decide (p.1 > 3))
namespace V
def t (v : V) : Ty := (v.tk, v.to)
end V
def nPairs (v : V) : Nat := min v.ks.length v.l.length
def nKs (v : V) : Nat := if v.k != 5 then 0 else nPairs v
def keys (v : V) : List ByteArray := v.ks.take (nKs v)
def only (v : V) : V := .mk v.k (if v.k == 1 || v.k == 2 then v.i else 0) (if v.k == 3 then v.s else ByteArray.empty) (if v.k == 5 || v.k == 4 then v.l else []) (if v.k == 5 then v.ks else [])
  (if v.k == 6 then v.tk else 0) (if v.k == 6 then v.to else 0) v.sec
def keyOk (ks : List ByteArray) (c : Nat) (x : ByteArray) : Bool := decide ((x.size : Int) > 1024) || decide ((c : Int) > 0) && !(Op.bytesLess (ks.getD (IntKind.i64.wrap ((c : Int) - 1)).toNat ByteArray.empty).toList x.toList)
def keysOk (ks : List ByteArray) : List ByteArray → Nat → Bool
  | [], _ => true
  | x :: r, c => if keyOk ks c x then false else keysOk ks r (c + 1)
end Go.VA

namespace Go.VA
open Go Go.RowKit
def chk1 (v : V) (d : Int) : Bool := decide (d < 1) || decide (v.k < 0) || decide (v.k > 6)
def chk2 (v : V) : Bool := v.k != 1 && v.k != 2 && v.i != 0 || v.k == 1 && v.i != 0 && v.i != 1
def chk3 (v : V) : Bool := v.k != 3 && !(v.s.toList == ({ data := #[] } : ByteArray).toList) || decide ((v.s.size : Int) > 1024)
def chk4 (v : V) : Bool := v.k != 6 && !(v.tk == 0 && v.to == 0) || v.k == 6 && !chkR v.t
def chk5 (v : V) : Bool := v.k != 4 && v.k != 5 && decide ((v.l.length : Int) > 0) || decide ((v.l.length : Int) > 128)
def chk6 (v : V) : Bool := v.k != 5 && decide ((v.ks.length : Int) > 0) || v.k == 5 && (v.ks.length : Int) != v.l.length
def checkRV : V → Int → Bool := V.fold fun v rs d =>
  if chk1 v d then false else if chk2 v then false else if chk3 v then false else if chk4 v then false else if chk5 v then false else if chk6 v then false
  else if !keysOk v.ks v.ks 0 then false else rs.all fun r => r (IntKind.i64.wrap (d - 1))
end Go.VA

namespace Go.VA
open Go Go.RowKit
def Ok (v : V) : Prop := ∃ d, checkRV v d = true
structure Okf (v : V) : Prop where
  k0 : 0 ≤ v.k
  k6 : v.k ≤ 6
  i : v.k ≠ 1 → v.k ≠ 2 → v.i = 0
  s : v.k ≠ 3 → v.s = ByteArray.empty
  t : v.k ≠ 6 → v.tk = 0 ∧ v.to = 0
  t6 : v.k = 6 → chk v.t = true
  l : v.k ≠ 4 → v.k ≠ 5 → v.l = []
  ks : v.k ≠ 5 → v.ks = []
  ks5 : v.k = 5 → v.ks.length = v.l.length
  ok : ∀ x ∈ v.l, Ok x
theorem Okf.keys {v : V} (h : Okf v) : keys v = v.ks := by
  unfold VA.keys nKs nPairs
  split
  · rename_i h5; rw [h.ks (by simpa using h5)]; rfl
  · rename_i h5; have := h.ks5 (by simpa using h5); rw [List.take_of_length_le (by omega)]
end Go.VA

namespace Go.VA
open Go Go.RowKit
end Go.VA

namespace Go.VA
open Go Go.RowKit
end Go.VA

namespace Go.VA
open Go Go.RowKit
end Go.VA

namespace Go.VA
open Go Go.RowKit
theorem NoTag.ag {xs : List C} (h : NtCs xs) : NoTag (.ag xs) := ⟨fun B S S' u hF hu => by
  simp only [RelV] at hu ⊢
  obtain ⟨arr, e, h'⟩ := hu
  exact ⟨arr, e, NtCs.vs hF _ _ h h'⟩⟩
theorem NoTag.c {x : C} (h : NtC x) : NoTag (.c x) := ⟨fun B S S' u hF hu => by
  simp only [RelV] at hu ⊢
  exact NtC.rep hF _ _ h hu⟩
def allNoTag : List AV → Prop
  | [] => True
  | x :: r => NoTag x ∧ allNoTag r
theorem NoTag.tup {xs : List AV} (h : allNoTag xs) : NoTag (.tup xs) := ⟨fun B S S' u hF hu => by
  simp only [RelV] at hu ⊢
  obtain ⟨arr, e, h'⟩ := hu
  refine ⟨arr, e, ?_⟩
  clear e
  revert h'
  generalize arr.toList = us
  induction xs generalizing us with
  | nil => exact fun h => h
  | cons x r ih =>
    intro h'
    simp only [RelVs] at h' ⊢
    obtain ⟨u, r', h1, h2, h3⟩ := h'
    exact ⟨u, r', h1, h.1.h B S S' u hF h2, ih h.2 _ h3⟩⟩
end Go.VA

namespace Go.VA
open Go Go.RowKit Go.ChangeShapes Go.WideShapes Go.ChangeAt

def S0 (W : World) : Rd := fun _ b o u => W.cell? ⟨b, o, none⟩ = some u
def M0 : Mz := ⟨0, fun _ => False, fun _ => False, fun _ h => h⟩
theorem Sr_M0 (W : World) : Sr M0 [] [] W = S0 W := by
  funext t b o u
  simp only [Sr, S0, eq_iff_iff, and_iff_right_iff_imp]
  intro _ h
  cases t <;> simp [MU, M0] at h
theorem relL_nil (W : World) : RelL M0 [] [] W where
  len := rfl
  bnd := by simp
  mbnd := by simp [M0]
  notM := by simp
  dist := by simp
  obj := by simp

section
variable {P : Program} {gl : Gl} {f : Nat} {args : List AV}

theorem acall_run {r : AV} (h : ACall P gl f args [] r) (W : World) (vals : Array Value) (hG : GlOk gl (S0 W)) (hv : RelVs [] (S0 W) args vals.toList) :
    Calls P f vals W fun e w' => ∃ u, e = .returned u ∧ Below W.heap.size W w' ∧ RelV [] (S0 w') r u := by
  have := h.run W M0 [] vals rfl (relL_nil W) (by rw [Sr_M0]; exact hG) (by rw [Sr_M0]; exact hv)
  refine this.mono fun e w' ⟨u, h1, h2, h3⟩ => ⟨u, h1, h2, ?_⟩
  rwa [Sr_M0] at h3

theorem acall_true (h : ACall P gl f args [] (boolA true)) (W : World) (vals : Array Value) (hG : GlOk gl (S0 W)) (hv : RelVs [] (S0 W) args vals.toList) :
    Calls P f vals W fun e w' => e = .returned (.bool true) ∧ Below W.heap.size W w' := by
  refine (acall_run h W vals hG hv).mono fun e w' ⟨u, h1, h2, h3⟩ => ?_
  simp only [boolA, RelV, RepC] at h3
  rw [h1, h3.1]
  exact ⟨rfl, h2⟩

end

section
variable {H : Type} {enc : TypeId × Value → H} {P : Program}

theorem post_of_below {f : Func} {s : ChangeSpec} {apart fresh handsOn again : Bool} {W W' : World} {args : Array Value} {v : Value} {ds gs : List (DataW H)} {before pa pv : List MemPlace}
    (hW : DataW.Whole enc P f.params.toList s.vars apart W args.toList ds gs before)
    (hres : ∀ (b : Nat) (sp : Nat → Bool) (hd : Bool), DataW.TrodAll enc P W' b sp hd f.resultTypes.toList (v.resultList f.resultTypes.size) (s.fn H (ds ++ gs)).results [])
    (hargs : ∀ sp : Nat → Bool, (∀ p ∈ before, sp p.block = true) → DataW.TrodAll enc P W' 0 sp true f.params.toList args.toList (s.fn H (ds ++ gs)).args pa)
    (hvars : ∀ sp : Nat → Bool, (∀ p ∈ before, sp p.block = true) → DataW.TrodVars enc P W' sp s.vars (s.fn H (ds ++ gs)).vars pv)
    (hps : before = pa ++ pv) (hb : Below W.heap.size W W')
    (hok : ∀ (j : Nat) (t : TypeId) (r : Value), f.resultTypes[j]? = some t → (v.resultList f.resultTypes.size)[j]? = some r → Value.okWide P W' .any 0 t r) :
    s.post enc P f apart fresh handsOn again W args v W' := by
  have hlt : ∀ p ∈ before, p.block < W.heap.size := fun p hp => hW.lt p hp
  have hold : ∀ p ∈ before, (fun b => decide (b < W.heap.size)) p.block = true := fun p hp => by simpa using hlt p hp
  refine ⟨ds, gs, before, [], pa, pv, hW, hres _ _ _, hargs _ hold, hvars _ hold, World.keptBut_mono (fun p hp => ⟨hp, ?_⟩) (hb.frame (· ∈ before)), fun _ => ?_⟩
  · rw [hps, List.mem_append] at hp
    exact Or.inr hp
  · obtain ⟨_, _, _, _, _, hz, hn⟩ := hW
    refine ⟨hok, _, _, ([] ++ pa) ++ pv, ⟨[] ++ pa, pv, trodAll_append (hargs _ (fun _ _ => rfl)) (hres _ _ _), hvars _ (fun _ _ => rfl), rfl, ?_, ?_⟩, ?_⟩
    · intro b off hp
      have hin : MemPlace.cell b off ∈ before := by rw [hps]; simpa using hp
      rw [hb.frozen (hlt _ hin)]
      exact hz b off hin
    · intro ha
      have := hn ha
      rw [hps] at this
      simpa using this
    · intro p hp _
      rw [hps]
      simpa using hp

def carried (P : Program) : List TypeId → Bool
  | [] => true
  | t :: ts => P.readableRec t && decide (t < P.types.size) && carried P ts

theorem trodAll_below (hl : laidOutB P = true) {W W' : World} (hb : Below W.heap.size W W') : ∀ {ts : List TypeId} {vs : List Value} {ds : List (DataW H)} {ps : List MemPlace},
    carried P ts = true → DataW.TrodAll enc P W 0 (fun _ => true) true ts vs ds ps → (∀ x ∈ ps, x.block < W.heap.size) →
    ∀ sp : Nat → Bool, (∀ p ∈ ps, sp p.block = true) → DataW.TrodAll enc P W' 0 sp true ts vs ds ps
  | [], [], [], _, _, h, _, _, _ => h
  | t :: ts, v :: vs, d :: ds, ps, hc, h, hlt, sp, hsp => by
    simp only [carried, Bool.and_eq_true, decide_eq_true_eq] at hc
    obtain ⟨p, q, h1, h2, rfl⟩ := h
    have h3 := Below.trod hl hc.1.1 hc.1.2 h1 hb fun x hx => hlt x (List.mem_append_left _ hx)
    refine ⟨p, q, ?_, trodAll_below hl hb hc.2 h2 (fun x hx => hlt x (List.mem_append_right _ hx)) sp (fun x hx => hsp x (List.mem_append_right _ hx)), rfl⟩
    exact WideElems.Trod_stays hl hc.1.1 hc.1.2 h1 (fun x hx => hb.same (hlt x (List.mem_append_left _ hx))) (fun x hx => hsp x (List.mem_append_left _ hx))
  | [], _ :: _, _, _, _, h, _, _, _ => h.elim
  | _ :: _, [], _, _, _, h, _, _, _ => h.elim
  | [], [], _ :: _, _, _, h, _, _, _ => h.elim
  | _ :: _, _ :: _, [], _, _, h, _, _, _ => h.elim
end

end Go.VA

namespace Go.VA
open Go Go.RowKit Go.ChangeShapes Go.WideShapes Go.ChangeAt

section
variable {H : Type} {enc : TypeId × Value → H} {P : Program} {tb : TB} {w : World} {base : Nat} {spare : Nat → Bool} {held : Bool} {fuel : Nat} {t : TypeId} {cs : List Value} {x : DataW H × List MemPlace}

theorem cellsOf_tb (htb : TbOk P tb) (ho : (tb t).k.isOther = false) : P.cellsOf t = (tb t).sz := by
  obtain ⟨i, d, z, h1, h2, h3, h4, _⟩ := (htb t).ok ho
  unfold Program.cellsOf
  rw [h1]
  simpa using h4

theorem tr_int (htb : TbOk P tb) {k : IntKind} (hk : (tb t).k = .int k) (h : DataW.trod enc P w base spare held fuel t cs = some x) : ∃ n, cs = [.int k n] ∧ k.min ≤ n ∧ n ≤ k.max := by
  obtain ⟨d, h2, h3⟩ := (htb t).under (by rw [hk]; rfl)
  rw [hk] at h3
  simp only [TKok] at h3
  subst h3
  obtain ⟨n, h4, _, h5⟩ := DataW.trod_int h2 h
  simp only [Lit.wf, Bool.and_eq_true, decide_eq_true_eq] at h5
  exact ⟨n, h4, h5⟩

theorem repCs_of_repVs {S : Rd} {R : Nat → Value → Prop} : ∀ {xs : List C} {us : List Value} {o : Nat}, RepVs S xs us → (∀ j u, us[j]? = some u → R (o + j) u) → RepCs S R o xs
  | [], us, o, _, _ => by simp [RepCs]
  | x :: xs, us, o, h, hR => by
    simp only [RepVs] at h
    obtain ⟨u, r, rfl, h1, h2⟩ := h
    simp only [RepCs]
    refine ⟨⟨u, hR 0 u rfl, h1⟩, repCs_of_repVs h2 fun j v hv => ?_⟩
    rw [Nat.add_assoc, Nat.add_comm 1 j]
    exact hR (j + 1) v (by simpa using hv)

theorem repC_rows {S : Rd} {a : Option Addr} {len cap esz : Nat} {f : Nat → List C} {tg : Bool} (hc : len ≤ cap ∧ len ≤ 140737488355328)
    (h : len = 0 ∨ ∃ b o, a = some ⟨b, o, none⟩ ∧ ∀ i, i < len → ∃ ce : List Value, ce.length = esz ∧ (∀ j, j < esz → ∀ u, ce[j]? = some u → S tg b (o + i * esz + j) u) ∧ (f i).length = esz ∧ RepVs S (f i) ce) :
    RepC S (.sl tg esz len f) (.slice a len cap) := by
  simp only [RepC]
  refine ⟨a, cap, rfl, hc, ?_⟩
  rcases h with h | ⟨b, o, h1, h2⟩
  · exact .inl h
  · refine .inr ⟨b, o, h1, fun i hi => ?_⟩
    obtain ⟨ce, k1, k2, k3, k4⟩ := h2 i hi
    refine ⟨k3, repCs_of_repVs k4 fun j u hu => ?_⟩
    have := (List.getElem?_eq_some_iff.1 hu).1
    exact k2 j (by omega) u hu

end
end Go.VA

namespace Go.VA
open Go Go.RowKit Go.ChangeShapes Go.WideShapes Go.ChangeAt

section
variable {H : Type} {enc : TypeId × Value → H} {P : Program} {tb : TB} {w : World} {base : Nat} {spare : Nat → Bool} {held : Bool} {fuel : Nat} {t : TypeId} {cs : List Value} {x : DataW H × List MemPlace}

def SzW (P : Program) (t : TypeId) (d : DataW H) : Prop := ∀ n ∈ d.weights P t, n ≤ reachBytes

theorem bytesOf_tb (htb : TbOk P tb) (ho : (tb t).k.isOther = false) : P.bytesOf t = (tb t).bytes := by
  obtain ⟨i, d, z, h1, h2, h3, h4, h5, _⟩ := (htb t).ok ho
  unfold Program.bytesOf
  rw [h1]
  simpa using h5

theorem weightsAll_mem {e : TypeId} : ∀ {l : List (DataW H)} {d : DataW H}, d ∈ l → ∀ n ∈ d.weights P e, n ∈ DataW.weightsAll P e l
  | y :: r, d, hd, n, hn => by
    simp only [DataW.weightsAll, List.mem_append]
    rcases List.mem_cons.1 hd with rfl | hd
    · exact .inl hn
    · exact .inr (weightsAll_mem hd n hn)

theorem tr_sliceS (htb : TbOk P tb) {e : TypeId} (hk : (tb t).k = .slice e) (he : (tb e).k.isOther = false) (h0 : 0 < (tb e).sz) (h : DataW.trod enc P w base spare held fuel t cs = some x) (hs : SzW P t x.1) :
    ∃ a len cap m, cs = [.slice a len cap] ∧ fuel = m + 1 ∧ len ≤ cap ∧ len * (tb e).bytes ≤ 140737488351232 ∧ (len = 0 ∨ ∃ b o, a = some ⟨b, o, none⟩ ∧ ∀ i, i < len → ∃ ce y, ce.length = (tb e).sz ∧ (∀ j, j < (tb e).sz → w.cell? ⟨b, o + i * (tb e).sz + j, none⟩ = ce[j]?) ∧
      DataW.trod enc P w base spare held m e ce = some y ∧ SzW P e y.1) := by
  obtain ⟨d, h2, h3⟩ := (htb t).under (by rw [hk]; rfl)
  have hsz := cellsOf_tb htb he
  have hby := bytesOf_tb htb he
  rw [hk] at h3
  simp only [TKok] at h3
  subst h3
  rcases DataW.trod_slice h2 h with ⟨h4, _⟩ | ⟨a, len, cap, elems, rest, n, h4, h5, hx, h6, h7, h8, h9, h10, _⟩
  · cases fuel with
    | zero => simp [DataW.trod] at h
    | succ m => exact ⟨none, 0, 0, m, h4, rfl, Nat.le_refl _, by simp, .inl rfl⟩
  · have hw : (elems.length + rest.length) * P.bytesOf e ≤ reachBytes := by
      refine hs _ ?_
      rw [hx]
      simp [DataW.weights, h2]
    refine ⟨some a, len, cap, n, h5, h4, h7, ?_, ?_⟩
    · rw [← h9, ← hby]
      have : elems.length * P.bytesOf e ≤ (elems.length + rest.length) * P.bytesOf e := Nat.mul_le_mul_right _ (Nat.le_add_right _ _)
      unfold reachBytes at hw
      omega
    by_cases hl : len = 0
    · exact .inl hl
    · right
      have key : ∀ i, i < len → ∃ ce y, w.cells? base (a.add (i * (tb e).sz)) (tb e).sz = some ce ∧ DataW.trod enc P w base spare held n e ce = some y ∧ SzW P e y.1 := by
        intro i hi
        have := h10 i hi
        rw [hsz] at this
        rw [List.getElem?_eq_getElem (by omega)] at this
        obtain ⟨ce, k1, k2⟩ := Option.bind_eq_some_iff.1 this
        refine ⟨ce, _, k1, k2, fun m hm => hs m ?_⟩
        rw [hx]
        simp only [DataW.weights, h2, List.mem_cons, List.mem_append]
        refine .inr (.inl (weightsAll_mem (d := (elems[i]'(by omega)).1) (List.mem_map.2 ⟨elems[i]'(by omega), List.getElem_mem _, rfl⟩) m hm))
      obtain ⟨b, o, spot⟩ := a
      obtain ⟨ce0, y0, k1, _⟩ := key 0 (by omega)
      obtain ⟨_, k3, k4⟩ := World.cells?_some k1
      have g0 := k4 0 h0
      rw [List.getElem?_eq_getElem (by omega)] at g0
      have hspot : spot = none := by simpa [Addr.add] using World.cell?_spot g0
      subst hspot
      refine ⟨b, o, rfl, fun i hi => ?_⟩
      obtain ⟨ce, y, k1, k2, k5⟩ := key i hi
      obtain ⟨_, k3, k4⟩ := World.cells?_some k1
      refine ⟨ce, y, k3, fun j hj => ?_, k2, k5⟩
      have := k4 j hj
      rw [← this]
      congr 1
      simp only [Addr.add]
      split <;> split <;> simp_all
end

end Go.VA

namespace Go.VA
open Go Go.RowKit Go.ChangeShapes Go.WideShapes Go.ChangeAt
section
variable {H : Type} {enc : TypeId × Value → H} {P : Program} {tb : TB} {w W : World} {base : Nat} {sp : Nat → Bool} {held : Bool} {t : TypeId}
theorem arg_slice (htb : TbOk P tb) {e : TypeId} (hk : (tb t).k = .slice e) {v : Value} {r : Reach} {b0 : Nat} (hval : Value.okWide P w r b0 t v) : v.cells.toList = [v] := by
  obtain ⟨d, h2, h3⟩ := (htb t).under (by rw [hk]; rfl)
  rw [hk] at h3
  simp only [TKok] at h3
  subst h3
  cases v <;> first | rfl | (exfalso; simp [Value.okWide, h2, Cell.okWide, Cell.ok] at hval)
end
end Go.VA


namespace Go.VA
open Go Go.RowKit Go.ChangeShapes Go.WideShapes Go.ChangeAt
section
variable {P : Program} {tb : TB} {W : World}
theorem laid_ints (htb : TbOk P tb) {n e : Nat} {k : IntKind} {t : TypeId} (hk : (tb t).k = .array n e) (he : (tb e).k = .int k) (h1 : (tb e).sz = 1) {l : List Int} {r : List (String × DataW Unit)} {ps : List MemPlace} {nm : String} {g : Nat}
    (hg : P.globalNamed nm = some g) (ht : (P.globals[g]?).map (·.type) = some t) (h : DataW.LaidVars P W ((nm, .agg (l.map fun i => .lit (.int k i))) :: r) ps) :
    RepCs (S0 W) (S0 W false g) 0 (l.map fun i => .v (.int k i)) ∧ ∃ q, DataW.LaidVars P W r q := by
  obtain ⟨g', t', cs, fuel, p, q, hg', ht', hv, hd, hr, _⟩ := h
  obtain rfl := Option.some.inj (hg.symm.trans hg')
  obtain rfl := Option.some.inj (ht.symm.trans ht')
  refine ⟨?_, q, hr⟩
  obtain ⟨d, hd2, hT⟩ := (htb t).under (by simp [hk, TK.isOther])
  rw [hk] at hT
  simp only [TKok] at hT
  subst hT
  obtain ⟨d, hd3, hT⟩ := (htb e).under (by simp [he, TK.isOther])
  rw [he] at hT
  simp only [TKok] at hT
  subst hT
  have hce : P.cellsOf e = 1 := by rw [cellsOf_tb htb (by rw [he]; rfl), h1]
  obtain ⟨xs, m, _, hx, hlen, hn, hel⟩ := DataW.trod_array hd2 hd
  simp only [Prod.mk.injEq, DataW.agg.injEq] at hx
  have hx1 := hx.1
  have hll : l.length = n := by have := congrArg List.length hx1; simpa [hn] using this
  refine RepCs.mk _ _ fun j x hj => ?_
  rw [List.getElem?_map, Option.map_eq_some_iff] at hj
  obtain ⟨i, hi, rfl⟩ := hj
  have hjl : j < n := by have := (List.getElem?_eq_some_iff.1 hi).1; omega
  refine ⟨.int k i, ?_, by simp [RepC, Value.oneCell']⟩
  have hy := hel j hjl
  rw [List.getElem?_eq_getElem (by omega), hce] at hy
  obtain ⟨z, e1, e2, _⟩ := DataW.trod_int hd3 hy
  have hq : (xs.map (·.1))[j]? = (l.map fun i => (DataW.lit (.int k i) : DataW Unit))[j]? := by rw [hx1]
  rw [List.getElem?_map, List.getElem?_map, hi, List.getElem?_eq_getElem (by omega)] at hq
  simp only [Option.map_some, Option.some.injEq] at hq
  rw [e2] at hq
  simp only [DataW.lit.injEq, Lit.int.injEq, true_and] at hq
  subst hq
  show W.cell? _ = _
  rw [Nat.zero_add, World.var?_cell hg hv j, ← Array.getElem?_toList]
  have := congrArg (fun l => l[0]?) e1
  simpa [List.getElem?_take, List.getElem?_drop] using this
end

theorem law_liftedL {C : Checked} {f : FuncId} {fn : Func} {s : ChangeSpec} {conds : List PathCond} (laid : List (String × DataW Unit)) (os : Os) (started : os.Started) {H : Type} {enc : TypeId × Value → H} {tb : TypeId}
    (own : ownKnob C.prog.godebug = none) (noInit : C.prog.inits.idxOf? f = none) (hfn : C.prog.funcs[f]? = some fn)
    (hl : laidOutB C.prog = true) (hc : carried C.prog fn.params.toList = true) (hv : s.vars = []) (hvt : s.plain.varTypes C.prog = []) (hr : fn.resultTypes = #[tb]) (htb : C.prog.underlying tb = some .bool)
    (hspec : ∀ ds : List (DataW H), ds.length = fn.params.size → s.fn H ds = { results := [.lit (.bool true)], args := ds })
    (witness : ∃ (w : World) (tape : Tape) (i : Input), w.os = os ∧ (w.forCall tape i).Shaped C.prog ∧ i.vars = [] ∧ Input.okWide C.prog (w.forCall tape i) .any w.heap.size f i ∧
      ((s.pre enc C.prog fn conds false (w.forCall tape i).memory i.args ∧ laidMetH C.prog laid (w.forCall tape i).memory) ∧ sizedMet enc C.prog fn (OpenSpec.ofChange s) false (w.forCall tape i).memory i.args) ∧ ({} : Assume).holds C.prog (lone (Frame.enter C.prog f i.args .normal) [] (w.forCall tape i)))
    (call : ∀ (W : World) (base : Nat) (args : Array Value) (ds : List (DataW H)) (ps : List MemPlace),
      (∀ (j : Nat) t v, fn.params[j]? = some t → args[j]? = some v → Value.okWide C.prog W .any base t v) →
      DataW.TrodAll enc C.prog W 0 (fun _ => true) true fn.params.toList args.toList ds ps →
      (∀ (j : Nat) t d, fn.params.toList[j]? = some t → ds[j]? = some d → SzW C.prog t d) →
      laidMetH C.prog laid W →
      Calls C.prog f args W fun e w' => e = .returned (.bool true) ∧ Below W.heap.size W w') :
    ReturnsInHanded {} C os f .any (fun w args => (s.pre enc C.prog fn conds false w args ∧ laidMetH C.prog laid w) ∧ sizedMet enc C.prog fn (OpenSpec.ofChange s) false w args) (s.post enc C.prog fn false true false false) := by
  refine returnsInHanded_of_change_and (X := fun w _ => laidMetH C.prog laid w) (fun _ _ _ hh h => h.of_heap hh) own started noInit hfn witness ?_
  intro W base args ds gs before hval hW _ hsz hX _
  have hW' := hW
  obtain ⟨p, q, hA, hV, hpq, hfz, hnd⟩ := hW
  rw [hv] at hV
  obtain ⟨rfl, rfl⟩ := trodVars_none hV
  rw [List.append_nil] at hpq
  subst hpq
  have hlen : ds.length = fn.params.size := by
    have : ∀ {ts : List TypeId} {vs : List Value} {ds : List (DataW H)} {ps : List MemPlace}, DataW.TrodAll enc C.prog W 0 (fun _ => true) true ts vs ds ps → ds.length = ts.length := by
      intro ts
      induction ts with
      | nil => intro vs ds ps h; cases vs <;> cases ds <;> first | rfl | exact h.elim
      | cons t ts ih =>
        intro vs ds ps h
        cases vs with
        | nil => exact h.elim
        | cons v vs =>
          cases ds with
          | nil => exact h.elim
          | cons d ds =>
            obtain ⟨_, _, _, h2, _⟩ := h
            simp [ih h2]
    rw [this hA]; simp
  rw [hvt, List.append_nil, List.append_nil] at hsz
  have hsz' : ∀ (j : Nat) t d, fn.params.toList[j]? = some t → ds[j]? = some d → SzW C.prog t d := fun j t d h1 h2 n hn => by
    have := List.all_eq_true.1 hsz n (DataW.weights_mem_each h1 h2 n hn)
    simpa using this
  refine (call W base args ds before hval hA hsz' hX).mono fun e W' ⟨he, hb⟩ => ⟨_, he, ?_⟩
  have hs := hspec ds hlen
  refine post_of_below (pa := before) (pv := []) hW' (fun b sp hd => ?_) (fun sp hsp => ?_) (fun sp _ => ?_) (by simp) hb ?_
  · rw [List.append_nil, hs, hr]
    refine trodAll_mk1 ⟨1, ?_⟩
    simp [DataW.trod, htb, Value.cells]
  · rw [List.append_nil, hs]
    exact trodAll_below hl hb hc hA (fun x hx => hW'.lt x hx) sp hsp
  · rw [hv, List.append_nil, hs]
    rfl
  · exact ok_one hr rfl (okWide_bool_mk htb true)
end Go.VA

namespace Go.VA
open Go Go.RowKit
@[irreducible] noncomputable def uI (x : BitVec 64) : Int := Classical.choose (⟨(x.toNat : Int), rfl⟩ : ∃ i, i = (x.toNat : Int))
theorem uI_def (x : BitVec 64) : uI x = (x.toNat : Int) := by unfold uI; exact Classical.choose_spec (⟨(x.toNat : Int), rfl⟩ : ∃ i, i = (x.toNat : Int))
noncomputable abbrev cu (x : BitVec 64) : C := .v (.int .u64 (uI x))
theorem ofInt_uI (x : BitVec 64) : BitVec.ofInt 64 (uI x) = x := by rw [uI_def]; simp
theorem wrapU64 (n : Int) : IntKind.u64.wrap n = n % 18446744073709551616 := rfl
theorem uI_wrap (x : BitVec 64) : IntKind.u64.wrap ((x.toNat : Nat) : Int) = uI x := by rw [wrapU64, uI_def]; have := x.isLt; omega
theorem u_or (x y : BitVec 64) : bitsI .or .u64 (uI x) (uI y) = uI (x ||| y) := by
  show IntKind.u64.wrap (((BitVec.ofInt 64 (uI x) ||| BitVec.ofInt 64 (uI y)).toNat : Nat) : Int) = _
  rw [ofInt_uI, ofInt_uI, uI_wrap]
theorem u_and (x y : BitVec 64) : bitsI .and .u64 (uI x) (uI y) = uI (x &&& y) := by
  show IntKind.u64.wrap (((BitVec.ofInt 64 (uI x) &&& BitVec.ofInt 64 (uI y)).toNat : Nat) : Int) = _
  rw [ofInt_uI, ofInt_uI, uI_wrap]
theorem u_andNot (x y : BitVec 64) : bitsI .andNot .u64 (uI x) (uI y) = uI (x &&& ~~~ y) := by
  show IntKind.u64.wrap (((BitVec.ofInt 64 (uI x) &&& ~~~ BitVec.ofInt 64 (uI y)).toNat : Nat) : Int) = _
  rw [ofInt_uI, ofInt_uI, uI_wrap]
theorem u_sub (x y : BitVec 64) : IntKind.u64.wrap (uI x - uI y) = uI (x - y) := by
  rw [wrapU64, uI_def, uI_def, uI_def, BitVec.toNat_sub]; have := x.isLt; have := y.isLt; omega
theorem u_one : (1 : Int) = uI 1 := by rw [uI_def]; rfl
theorem u_zero : (0 : Int) = uI 0 := by rw [uI_def]; rfl
theorem u_inj {x y : BitVec 64} (h : uI x = uI y) : x = y := by
  rw [uI_def, uI_def] at h
  exact BitVec.eq_of_toNat_eq (by omega)
theorem u_shr (x : BitVec 64) (k : Nat) (h : k ≤ 64) : shrI .u64 (uI x) (k : Int) = uI (x >>> k) := by
  have e : shrI .u64 (uI x) (k : Int) = (uI x).fdiv (2 ^ (min k 64)) := rfl
  rw [e, Nat.min_eq_left h, uI_def, uI_def, BitVec.toNat_ushiftRight, Nat.shiftRight_eq_div_pow, Int.fdiv_eq_ediv_of_nonneg _ (by exact_mod_cast Nat.zero_le _)]
  push_cast
  rfl
theorem u_shl (x : BitVec 64) (k : Nat) (h : k ≤ 64) : shlI .u64 (uI x) (k : Int) = uI (x <<< k) := by
  have e : shlI .u64 (uI x) (k : Int) = IntKind.u64.wrap (uI x * 2 ^ (min k 64)) := rfl
  rw [e, Nat.min_eq_left h, wrapU64, uI_def, uI_def, BitVec.toNat_shiftLeft, Nat.shiftLeft_eq]
  rw [Int.natCast_emod, Int.natCast_mul, Int.natCast_pow]
  rfl
def wd (S : Nat → Bool) (k : Nat) : BitVec 64 := (BitVec.ofBoolListLE ((List.range 64).map fun j => S (64 * k + j))).cast (by simp)
theorem wd_bit (S : Nat → Bool) (k j : Nat) : (wd S k).getLsbD j = (decide (j < 64) && S (64 * k + j)) := by
  unfold wd
  rw [BitVec.getLsbD_cast, BitVec.getLsbD_ofBoolListLE]
  by_cases h : j < 64
  · simp [h]
  · simp [h]
theorem wd_ext {S : Nat → Bool} {k : Nat} {x : BitVec 64} (h : ∀ j, j < 64 → x.getLsbD j = S (64 * k + j)) : x = wd S k := by
  apply BitVec.eq_of_getLsbD_eq
  intro j hj
  rw [wd_bit, h j hj]; simp [hj]
theorem wd_congr {S T : Nat → Bool} {k : Nat} (h : ∀ j, j < 64 → S (64 * k + j) = T (64 * k + j)) : wd S k = wd T k := wd_ext fun j hj => by rw [wd_bit, h j hj]; simp [hj]
theorem wd_zero (S : Nat → Bool) (k : Nat) : wd S k = 0 ↔ ∀ j, j < 64 → S (64 * k + j) = false := by
  constructor
  · intro h j hj
    have := wd_bit S k j
    rw [h] at this
    simpa [hj] using this.symm
  · intro h
    exact (wd_ext fun j hj => by rw [h j hj]; simp).symm
theorem wd_sub (S T : Nat → Bool) (k : Nat) : wd S k &&& ~~~ wd T k = wd (fun i => S i && !T i) k := wd_ext fun j hj => by
  rw [BitVec.getLsbD_and, BitVec.getLsbD_not, wd_bit, wd_bit]; simp [hj]
theorem wd_single (S : Nat → Bool) (i : Nat) : wd S (i / 64) ||| (1#64 <<< (i % 64)) = wd (fun j => S j || j == i) (i / 64) := wd_ext fun j hj => by
  rw [BitVec.getLsbD_or, wd_bit, BitVec.getLsbD_shiftLeft]
  have hm : i % 64 < 64 := Nat.mod_lt _ (by decide)
  simp only [hj, decide_true, Bool.true_and, BitVec.getLsbD_one]
  have : (!decide (j < i % 64) && (decide (0 < 64) && decide (j - i % 64 = 0))) = (64 * (i / 64) + j == i) := by
    rw [Bool.eq_iff_iff]
    simp
    omega
  simp only [this]
theorem wd_has (S : Nat → Bool) (i : Nat) : ((wd S (i / 64) >>> (i % 64)) &&& 1#64) = if S i then 1#64 else 0#64 := by
  apply BitVec.eq_of_getLsbD_eq
  intro j hj
  rw [BitVec.getLsbD_and, BitVec.getLsbD_ushiftRight, wd_bit, BitVec.getLsbD_one]
  have hm : i % 64 < 64 := Nat.mod_lt _ (by decide)
  by_cases h0 : j = 0
  · subst h0
    have e : 64 * (i / 64) + (i % 64 + 0) = i := by omega
    rw [e]
    cases S i <;> simp [hm]
  · cases S i <;> simp [h0]
noncomputable abbrev setC (S : Nat → Bool) : List C := arrC (fun k => cu (wd S k)) 2
theorem setC_congr {S T : Nat → Bool} (h : ∀ i, i < 128 → S i = T i) : setC S = setC T := arrC_congr fun k hk => by rw [wd_congr fun j hj => h _ (by omega)]
theorem setC_nil : setC (fun _ => false) = [.v (.int .u64 0), .v (.int .u64 0)] := by
  have h : ∀ k, wd (fun _ => false) k = 0 := fun k => (wd_zero _ k).2 fun _ _ => rfl
  show arrC _ 2 = _
  rw [arrC_def]
  simp only [h]
  show [cu 0, cu 0] = _
  rw [show cu 0 = .v (.int .u64 0) from by show C.v (.int .u64 (uI 0)) = _; rw [← u_zero]]
end Go.VA

namespace Go.VA
open Go Go.RowKit
def grA (N : Nat) (rows : List (List Int)) (i k : Nat) : Bool := decide (i < N) && decide (k < N) && ((rows.getD i []).contains (k : Int))
def IsL (p : Nat → Bool) (N : Nat) : Option Nat → Prop
  | none => ∀ j, j < N → p j = false
  | some i => i < N ∧ p i = true ∧ ∀ j, j < i → p j = false
theorem find_isL {p : Nat → Bool} {N : Nat} {o : Option Nat} (h : IsL p N o) : (List.range N).find? p = o := by
  cases o with
  | none =>
    rw [List.find?_eq_none]
    intro x hx
    rw [h x (List.mem_range.1 hx)]; decide
  | some i =>
    obtain ⟨h1, h2, h3⟩ := h
    rw [List.find?_range_eq_some]
    exact ⟨h2, List.mem_range.2 h1, fun j hj => by rw [h3 j hj]; rfl⟩
theorem isL_find (p : Nat → Bool) (N : Nat) : IsL p N ((List.range N).find? p) := by
  cases h : (List.range N).find? p with
  | none =>
    intro j hj
    rw [List.find?_eq_none] at h
    simpa using h j (List.mem_range.2 hj)
  | some i =>
    rw [List.find?_range_eq_some] at h
    exact ⟨List.mem_range.1 h.2.1, h.1, fun j hj => by simpa using h.2.2 j hj⟩
def rdy (N : Nat) (A : Nat → Nat → Bool) (L : List Nat) (i : Nat) : Bool := !L.contains i && (List.range N).all fun k => !A i k || L.contains k
def gOrd (N : Nat) (A : Nat → Nat → Bool) : Nat → List Nat
  | 0 => []
  | t + 1 => match (List.range N).find? (rdy N A (gOrd N A t)) with
    | none => gOrd N A t
    | some i => gOrd N A t ++ [i]
theorem gOrd_none {N : Nat} {A : Nat → Nat → Bool} {t : Nat} (h : IsL (rdy N A (gOrd N A t)) N none) : gOrd N A (t + 1) = gOrd N A t := by
  simp only [gOrd]; rw [find_isL h]
theorem gOrd_some {N : Nat} {A : Nat → Nat → Bool} {t i : Nat} (h : IsL (rdy N A (gOrd N A t)) N (some i)) : gOrd N A (t + 1) = gOrd N A t ++ [i] := by
  simp only [gOrd]; rw [find_isL h]
theorem gOrd_stop {N : Nat} {A : Nat → Nat → Bool} {t : Nat} (h : IsL (rdy N A (gOrd N A t)) N none) : ∀ s, gOrd N A (t + s) = gOrd N A t
  | 0 => rfl
  | s + 1 => by
    have e := gOrd_stop h s
    show gOrd N A ((t + s) + 1) = _
    rw [gOrd_none (by rw [e]; exact h), e]
theorem gOrd_len (N : Nat) (A : Nat → Nat → Bool) : ∀ t, (gOrd N A t).length ≤ t
  | 0 => Nat.le_refl _
  | t + 1 => by
    have h := gOrd_len N A t
    simp only [gOrd]
    split
    · omega
    · rw [List.length_append]; simpa using h
theorem gOrd_lt (N : Nat) (A : Nat → Nat → Bool) : ∀ t i, i ∈ gOrd N A t → i < N
  | 0, i, h => by cases h
  | t + 1, i, h => by
    have ih := gOrd_lt N A t
    simp only [gOrd] at h
    split at h
    · exact ih i h
    · rename_i j hj
      rw [List.mem_append] at h
      rcases h with h | h
      · exact ih i h
      · have := isL_find (rdy N A (gOrd N A t)) N
        rw [hj] at this
        rw [List.mem_singleton] at h
        subst h; exact this.1
theorem gOrd_nodup (N : Nat) (A : Nat → Nat → Bool) : ∀ t, (gOrd N A t).Nodup
  | 0 => List.nodup_nil
  | t + 1 => by
    have ih := gOrd_nodup N A t
    simp only [gOrd]
    split
    · exact ih
    · rename_i j hj
      have := isL_find (rdy N A (gOrd N A t)) N
      rw [hj] at this
      have h2 := this.2.1
      unfold rdy at h2
      rw [Bool.and_eq_true] at h2
      have h3 : j ∉ gOrd N A t := by simpa using h2.1
      rw [List.nodup_append]
      refine ⟨ih, by simp, fun a ha b hb => ?_⟩
      rw [List.mem_singleton] at hb
      subst hb
      exact fun e => h3 (e ▸ ha)
def gStk (N : Nat) (L : List Nat) : List Nat := (List.range N).filter fun i => !L.contains i
theorem gStk_len (N : Nat) (L : List Nat) : (gStk N L).length ≤ N := by
  have := List.length_filter_le (fun i => !L.contains i) (List.range N)
  rw [List.length_range] at this
  exact this
theorem gStk_no {L : List Nat} {c : Nat} (h : L.contains c = false) : gStk (c + 1) L = gStk c L ++ [c] := by
  unfold gStk
  rw [List.range_succ, List.filter_append]
  simp only [List.filter, h]; rfl
theorem gStk_yes {L : List Nat} {c : Nat} (h : L.contains c = true) : gStk (c + 1) L = gStk c L := by
  unfold gStk
  rw [List.range_succ, List.filter_append]
  simp only [List.filter, h]; simp
end Go.VA

namespace Go.VA
open Go Go.RowKit
inductive Rch (N : Nat) (A : Nat → Nat → Bool) (S : Nat → Prop) : Nat → Prop
  | base {i : Nat} : i < N → S i → Rch N A S i
  | step {i k : Nat} : Rch N A S i → A i k = true → Rch N A S k
def GrOk (N : Nat) (A : Nat → Nat → Bool) : Prop := ∀ i k, A i k = true → i < N ∧ k < N
theorem grA_ok (N : Nat) (rows : List (List Int)) : GrOk N (grA N rows) := fun i k h => by
  unfold grA at h
  simp only [Bool.and_eq_true, decide_eq_true_eq] at h
  exact h.1
theorem Rch.lt {N : Nat} {A : Nat → Nat → Bool} {S : Nat → Prop} (hA : GrOk N A) {i : Nat} (h : Rch N A S i) : i < N := by
  cases h with
  | base h _ => exact h
  | step _ h => exact (hA _ _ h).2
theorem Rch.mono {N : Nat} {A : Nat → Nat → Bool} {S T : Nat → Prop} (hS : ∀ i, i < N → S i → T i) {i : Nat} (h : Rch N A S i) : Rch N A T i := by
  induction h with
  | base h h2 => exact .base h (hS _ h h2)
  | step _ h ih => exact .step ih h
theorem Rch.trans {N : Nat} {A : Nat → Nat → Bool} {S T : Nat → Prop} (hS : ∀ i, S i → Rch N A T i) {i : Nat} (h : Rch N A S i) : Rch N A T i := by
  induction h with
  | base _ h2 => exact hS _ h2
  | step _ h ih => exact .step ih h
noncomputable def rchB (N : Nat) (A : Nat → Nat → Bool) (S : Nat → Bool) (i : Nat) : Bool := @decide (Rch N A (S · = true) i) (Classical.propDecidable _)
theorem rchB_iff {N : Nat} {A : Nat → Nat → Bool} {S : Nat → Bool} {i : Nat} : rchB N A S i = true ↔ Rch N A (S · = true) i := by unfold rchB; exact @decide_eq_true_iff _ (Classical.propDecidable _)
structure Dfs (N : Nat) (A : Nat → Nat → Bool) (S : Nat → Bool) (met : Nat → Bool) (todo : List Nat) : Prop where
  metR : ∀ i, met i = true → rchB N A S i = true
  todoR : ∀ i, i ∈ todo → rchB N A S i = true
  base : ∀ i, i < N → S i = true → met i = true ∨ i ∈ todo
  step : ∀ i k, met i = true → A i k = true → met k = true ∨ k ∈ todo
theorem Dfs.done {N : Nat} {A : Nat → Nat → Bool} {S : Nat → Bool} {met : Nat → Bool} (h : Dfs N A S met []) (i : Nat) : met i = rchB N A S i := by
  rw [Bool.eq_iff_iff]
  refine ⟨h.metR i, fun hr => ?_⟩
  rw [rchB_iff] at hr
  induction hr with
  | base h1 h2 => rcases h.base _ h1 h2 with h | h
                  · exact h
                  · cases h
  | step _ h2 ih => rcases h.step _ _ ih h2 with h | h
                    · exact h
                    · cases h
theorem Dfs.skip {N : Nat} {A : Nat → Nat → Bool} {S : Nat → Bool} {met : Nat → Bool} {todo : List Nat} {i : Nat} (h : Dfs N A S met (todo ++ [i])) (hi : met i = true) : Dfs N A S met todo where
  metR := h.metR
  todoR := fun j hj => h.todoR j (List.mem_append_left _ hj)
  base := fun j h1 h2 => by
    rcases h.base j h1 h2 with h | h
    · exact .inl h
    · rcases List.mem_append.1 h with h | h
      · exact .inr h
      · rw [List.mem_singleton] at h; subst h; exact .inl hi
  step := fun j k h1 h2 => by
    rcases h.step j k h1 h2 with h | h
    · exact .inl h
    · rcases List.mem_append.1 h with h | h
      · exact .inr h
      · rw [List.mem_singleton] at h; subst h; exact .inl hi
theorem Dfs.take {N : Nat} {A : Nat → Nat → Bool} {S : Nat → Bool} {met : Nat → Bool} {todo l : List Nat} {i : Nat} (h : Dfs N A S met (todo ++ [i])) (hl : ∀ k, k ∈ l ↔ A i k = true) : Dfs N A S (fun j => met j || j == i) (todo ++ l) := by
  have hir : rchB N A S i = true := h.todoR i (by simp)
  have key : ∀ j, (met j = true ∨ j ∈ todo ++ [i]) → ((met j || j == i) = true ∨ j ∈ todo ++ l) := fun j hj => by
    rcases hj with h | h
    · exact .inl (by rw [h]; rfl)
    · rcases List.mem_append.1 h with h | h
      · exact .inr (List.mem_append_left _ h)
      · rw [List.mem_singleton] at h; subst h; exact .inl (by simp)
  refine ⟨fun j hj => ?_, fun j hj => ?_, fun j h1 h2 => key j (h.base j h1 h2), fun j k h1 h2 => ?_⟩
  · rw [Bool.or_eq_true] at hj
    rcases hj with hj | hj
    · exact h.metR j hj
    · rw [beq_iff_eq] at hj; subst hj; exact hir
  · rcases List.mem_append.1 hj with hj | hj
    · exact h.todoR j (List.mem_append_left _ hj)
    · rw [rchB_iff] at hir ⊢
      exact .step hir ((hl j).1 hj)
  · rw [Bool.or_eq_true] at h1
    rcases h1 with h1 | h1
    · exact key k (h.step j k h1 h2)
    · rw [beq_iff_eq] at h1; subst h1
      exact .inr (List.mem_append_right _ ((hl k).2 h2))
def unm (n : Nat) (S : Nat → Bool) : Nat := ((List.range n).filter fun i => !S i).length
theorem unm_le (n : Nat) (S : Nat → Bool) : unm n S ≤ n := by
  have := List.length_filter_le (fun i => !S i) (List.range n)
  rw [List.length_range] at this
  exact this
theorem unm_mono (n : Nat) {S T : Nat → Bool} (h : ∀ i, i < n → S i = true → T i = true) : unm n T ≤ unm n S := by
  unfold unm
  rw [← List.countP_eq_length_filter, ← List.countP_eq_length_filter]
  exact List.countP_mono_left fun i hi ht => by
    have hi := List.mem_range.1 hi
    cases hs : S i
    · rfl
    · rw [h i hi hs] at ht; exact ht
theorem unm_lt {n : Nat} {S T : Nat → Bool} (h : ∀ i, i < n → S i = true → T i = true) {i : Nat} (hi : i < n) (h1 : S i = false) (h2 : T i = true) : unm n T < unm n S := by
  induction n with
  | zero => omega
  | succ n ih =>
    have step : ∀ U : Nat → Bool, unm (n + 1) U = unm n U + (if U n then 0 else 1) := fun U => by
      unfold unm
      rw [List.range_succ, List.filter_append, List.length_append]
      congr 1
      cases hU : U n <;> simp [hU]
    rw [step, step]
    by_cases e : i = n
    · subst e
      have := unm_mono i (S := S) (T := T) fun j hj => h j (by omega)
      rw [h1, h2]
      simp; omega
    · have := ih (fun j hj => h j (by omega)) (by omega)
      have h3 := h n (by omega)
      cases hs : S n
      · split <;> simp <;> omega
      · rw [h3 hs]; simpa using this
def rel1 (A : Nat → Nat → Bool) (S : Nat → Bool) (i j : Nat) : Bool := S j || (S i && A i j)
def relN (A : Nat → Nat → Bool) (S : Nat → Bool) : Nat → Nat → Bool
  | 0 => S
  | i + 1 => rel1 A (relN A S i) i
theorem relN_mono (A : Nat → Nat → Bool) (S : Nat → Bool) (j : Nat) : ∀ i m, relN A S i j = true → relN A S (i + m) j = true
  | _, 0, h => h
  | i, m + 1, h => by
    have := relN_mono A S j i m h
    show rel1 A (relN A S (i + m)) (i + m) j = true
    unfold rel1; rw [this]; rfl
def relT (N : Nat) (A : Nat → Nat → Bool) (S : Nat → Bool) : Nat → Nat → Bool
  | 0 => S
  | t + 1 => relN A (relT N A S t) N
def Closed (A : Nat → Nat → Bool) (S : Nat → Bool) : Prop := ∀ i k, S i = true → A i k = true → S k = true
theorem rel1_closed {A : Nat → Nat → Bool} {S : Nat → Bool} (h : Closed A S) (i : Nat) : rel1 A S i = S := by
  funext j
  unfold rel1
  cases hj : S j
  · cases hi : S i
    · rfl
    · cases ha : A i j
      · rfl
      · rw [h i j hi ha] at hj; cases hj
  · rfl
theorem relN_closed {A : Nat → Nat → Bool} {S : Nat → Bool} (h : Closed A S) : ∀ i, relN A S i = S
  | 0 => rfl
  | i + 1 => by
    show rel1 A (relN A S i) i = S
    rw [relN_closed h i, rel1_closed h]
theorem closed_of_relN {N : Nat} {A : Nat → Nat → Bool} {S : Nat → Bool} (hA : GrOk N A) (h : ∀ j, j < N → relN A S N j = true → S j = true) : Closed A S := fun i k hi ha => by
  obtain ⟨h1, h2⟩ := hA i k ha
  refine h k h2 ?_
  have e : N = (i + 1) + (N - (i + 1)) := by omega
  rw [e]
  refine relN_mono A S k (i + 1) _ ?_
  show rel1 A (relN A S i) i k = true
  have : relN A S i i = true := by
    have := relN_mono A S i 0 i hi
    rwa [Nat.zero_add] at this
  unfold rel1; rw [this, ha]; simp
theorem relT_prog {N : Nat} {A : Nat → Nat → Bool} (S : Nat → Bool) (hA : GrOk N A) : ∀ t, Closed A (relT N A S t) ∨ unm N (relT N A S t) + t ≤ N
  | 0 => .inr (by have := unm_le N S; simpa [relT] using this)
  | t + 1 => by
    rcases relT_prog S hA t with h | h
    · left
      show Closed A (relN A (relT N A S t) N)
      rw [relN_closed h]; exact h
    · by_cases hc : ∀ j, j < N → relN A (relT N A S t) N j = true → relT N A S t j = true
      · have hcl := closed_of_relN hA hc
        left
        show Closed A (relN A (relT N A S t) N)
        rw [relN_closed hcl]; exact hcl
      · right
        obtain ⟨j, hj⟩ := Classical.not_forall.1 hc
        have h1 : j < N := Classical.byContradiction fun h => hj fun g => absurd g h
        have h2 : relN A (relT N A S t) N j = true := Classical.byContradiction fun h => hj fun _ g => absurd g h
        have h3 : relT N A S t j = false := by
          cases e : relT N A S t j
          · rfl
          · exact absurd (fun _ _ => e) hj
        have hm : ∀ i, i < N → relT N A S t i = true → relN A (relT N A S t) N i = true := fun i _ h => by
          have := relN_mono A (relT N A S t) i 0 N h
          rwa [Nat.zero_add] at this
        have := unm_lt hm h1 h3 h2
        show unm N (relN A (relT N A S t) N) + (t + 1) ≤ N
        omega
theorem relT_closed {N : Nat} {A : Nat → Nat → Bool} (S : Nat → Bool) (hA : GrOk N A) : Closed A (relT N A S N) := by
  rcases relT_prog S hA N with h | h
  · exact h
  · intro i k hi ha
    obtain ⟨h1, h2⟩ := hA i k ha
    have h0 : unm N (relT N A S N) = 0 := by omega
    cases e : relT N A S N k
    · unfold unm at h0
      rw [List.length_eq_zero_iff, List.filter_eq_nil_iff] at h0
      have := h0 k (List.mem_range.2 h2)
      rw [e] at this
      exact absurd rfl this
    · rfl
theorem relN_sound {N : Nat} {A : Nat → Nat → Bool} {S T : Nat → Bool} (h : ∀ j, T j = true → Rch N A (S · = true) j) : ∀ i j, relN A T i j = true → Rch N A (S · = true) j
  | 0, j, hj => h j hj
  | i + 1, j, hj => by
    have ih := relN_sound h i
    replace hj : rel1 A (relN A T i) i j = true := hj
    unfold rel1 at hj
    rw [Bool.or_eq_true, Bool.and_eq_true] at hj
    rcases hj with hj | ⟨h1, h2⟩
    · exact ih j hj
    · exact .step (ih i h1) h2
theorem relT_sound {N : Nat} {A : Nat → Nat → Bool} {S : Nat → Bool} (hS : ∀ j, S j = true → j < N) : ∀ t j, relT N A S t j = true → Rch N A (S · = true) j
  | 0, j, hj => .base (hS j hj) hj
  | t + 1, j, hj => relN_sound (relT_sound hS t) N j hj
theorem relT_all {N : Nat} {A : Nat → Nat → Bool} {S : Nat → Bool} (hA : GrOk N A) (hS : ∀ j, S j = true → j < N) (j : Nat) : relT N A S N j = rchB N A S j := by
  rw [Bool.eq_iff_iff]
  refine ⟨fun h => rchB_iff.2 (relT_sound hS N j h), fun h => ?_⟩
  rw [rchB_iff] at h
  induction h with
  | base _ h2 =>
    have : ∀ t, relT N A S t _ = true := fun t => by
      induction t with
      | zero => exact h2
      | succ t ih =>
        have := relN_mono A (relT N A S t) _ 0 N ih
        rwa [Nat.zero_add] at this
    exact this N
  | step _ h2 ih => exact relT_closed S hA _ _ ih h2
end Go.VA

namespace Go.VA
open Go Go.RowKit
section
variable {P : Program} {gl : Gl}
theorem repCs_of_relVs {B : List (Option BI)} {S S' : Rd} (hle : S.le S') {R : Nat → Value → Prop} : ∀ (xs : List C) (us : List Value) (o : Nat), RelVs B S (xs.map AV.c) us → (∀ (j : Nat) (u : Value), us[j]? = some u → R (o + j) u) → RepCs S' R o xs
  | [], _, _, _, _ => by simp [RepCs]
  | x :: xs, us, o, h, hR => by
    simp only [List.map_cons, RelVs] at h
    obtain ⟨u, r, rfl, h1, h2⟩ := h
    simp only [RelV] at h1
    refine ⟨⟨u, hR 0 u rfl, RepC.mono hle _ _ h1⟩, repCs_of_relVs hle xs r (o + 1) h2 fun j u hj => ?_⟩
    have := hR (j + 1) u (by simpa using hj)
    rwa [show o + (j + 1) = o + 1 + j by omega] at this
theorem ACall.of_gcall_box {f : Nat} {args : List AV} {cs : List C} (h : GCall P gl f [] args [.box (cs.map AV.c)] [.ptr 0 0]) : ACall P gl f args [] (.sp false cs 0) where
  callable := h.callable
  closed := rfl
  run := fun w M B vals hro hL hG hv => by
    have hB : B = [] := List.length_eq_zero_iff.1 hL.len
    subst hB
    refine (h.run w M [] vals hro hL hG hv).mono fun e w' ⟨u, B', he, hf, hrel, hu, _, _⟩ => ⟨u, he, ?_, ?_⟩
    · have : Frm (fun _ => False) w w' := ⟨hf.os, hf.tape, hf.output, hf.size, fun k hk hm => hf.block k hk fun ⟨id, bi, h1, _⟩ => by simp at h1⟩
      exact this.below
    · have hle : (Sr M B' [.box (cs.map AV.c)] w').le (Sr M [] [] w') := fun t b o u hh => ⟨fun hm => hh.1 (by
        cases t with
        | false => rcases hm with hm | ⟨id, bi, h1, _⟩
                   · exact .inl hm
                   · simp at h1
        | true => rcases hm with hm | ⟨id, bi, _, h1, _⟩
                  · exact .inl hm
                  · simp at h1), hh.2⟩
      replace hu : RelV B' (Sr M B' [.box (cs.map AV.c)] w') (.ptr 0 0) u := hu
      simp only [RelV] at hu ⊢
      obtain ⟨bi, h0, rfl⟩ := hu
      refine ⟨bi.b, bi.o, rfl, ?_⟩
      have ho := hrel.obj 0 _ h0
      have hm := hrel.notM 0 bi h0 rfl
      obtain ⟨bi', vs, ty, e, hw, ho0, hsz, h1c, hvs⟩ := ho
      simp only [Option.some.injEq] at e
      subst e
      refine repCs_of_relVs hle cs vs.toList _ hvs fun j u hj => ⟨?_, ?_⟩
      · rintro (g | ⟨id, bj, h1, _⟩)
        · exact hm g
        · simp at h1
      · rw [ho0, Nat.zero_add]
        simpa [World.cell?, hw] using hj
end
end Go.VA

namespace Go.VA
open Go Go.RowKit
def IsLow (x : BitVec 64) (j : Nat) : Prop := j < 64 ∧ x.getLsbD j = true ∧ ∀ i, i < j → x.getLsbD i = false
theorem low_ex {x : BitVec 64} (h : x ≠ 0) : ∃ j, IsLow x j := by
  cases hf : (List.range 64).find? (fun i => x.getLsbD i) with
  | none =>
    rw [List.find?_eq_none] at hf
    refine absurd (BitVec.eq_of_getLsbD_eq fun i hi => ?_) h
    have := hf i (List.mem_range.2 hi)
    simpa using this
  | some j =>
    rw [List.find?_range_eq_some] at hf
    exact ⟨j, List.mem_range.1 hf.2.1, hf.1, fun i hi => by simpa using hf.2.2 i hi⟩
theorem low_nat {x : BitVec 64} {j : Nat} (h : IsLow x j) : ∃ q, x.toNat = 2 ^ j * (2 * q + 1) := by
  have h1 : x.toNat % 2 ^ j = 0 := by
    refine Nat.eq_of_testBit_eq fun i => ?_
    rw [Nat.testBit_mod_two_pow, Nat.zero_testBit]
    by_cases hi : i < j
    · have := h.2.2 i hi
      rw [BitVec.getLsbD] at this
      simp [this]
    · simp [hi]
  have h2 : x.toNat / 2 ^ j % 2 = 1 := by
    have := h.2.1
    rw [BitVec.getLsbD, Nat.testBit_eq_decide_div_mod_eq] at this
    simpa using this
  refine ⟨x.toNat / 2 ^ j / 2, ?_⟩
  have h3 := Nat.div_add_mod x.toNat (2 ^ j)
  rw [h1, Nat.add_zero] at h3
  rw [show 2 * (x.toNat / 2 ^ j / 2) + 1 = x.toNat / 2 ^ j by omega]
  exact h3.symm
theorem bit_succ (q k : Nat) : (2 * q + 1).testBit (k + 1) = (2 * q).testBit (k + 1) := by
  rw [Nat.testBit_succ, Nat.testBit_succ]
  congr 1; omega
theorem low_pred {x : BitVec 64} {j : Nat} (h : IsLow x j) (i : Nat) (hi : i < 64) : (x - 1).getLsbD i = if i < j then true else if i = j then false else x.getLsbD i := by
  obtain ⟨q, hq⟩ := low_nat h
  have hp : 0 < 2 ^ j := Nat.two_pow_pos j
  have e : (x - 1).toNat = 2 ^ j * (2 * q) + (2 ^ j - 1) := by
    have h1 : (1 : BitVec 64).toNat = 1 := rfl
    rw [BitVec.toNat_sub, h1]
    have hx := x.isLt
    have e2 : 2 ^ j * (2 * q + 1) = 2 ^ j * (2 * q) + 2 ^ j := by rw [Nat.mul_add, Nat.mul_one]
    rw [hq] at hx ⊢
    rw [e2] at hx ⊢
    omega
  have ex : x.toNat = 2 ^ j * (2 * q + 1) + 0 := by rw [hq]; rfl
  rw [BitVec.getLsbD, BitVec.getLsbD, e, ex, Nat.testBit_two_pow_mul_add _ (by omega), Nat.testBit_two_pow_mul_add _ hp]
  by_cases h1 : i < j
  · simp [h1]
  · rw [if_neg h1, if_neg h1, if_neg h1]
    by_cases h2 : i = j
    · subst h2; simp
    · rw [if_neg h2]
      obtain ⟨k, hk⟩ : ∃ k, i - j = k + 1 := ⟨i - j - 1, by omega⟩
      rw [hk, bit_succ]
theorem low_drop {x : BitVec 64} {j : Nat} (h : IsLow x j) (i : Nat) (hi : i < 64) : (x &&& (x - 1)).getLsbD i = (x.getLsbD i && !(i == j)) := by
  rw [BitVec.getLsbD_and, low_pred h i hi]
  by_cases h1 : i < j
  · rw [h.2.2 i h1]; rfl
  · rw [if_neg h1]
    by_cases h2 : i = j
    · simp [h2]
    · rw [if_neg h2]; simp [h2]
theorem low_one {x : BitVec 64} {j : Nat} (h : IsLow x j) : x &&& -x = 1#64 <<< j := by
  have e : -x = ~~~(x - 1) := by
    apply BitVec.eq_of_toNat_eq
    have h1 : (1 : BitVec 64).toNat = 1 := rfl
    rw [BitVec.toNat_neg, BitVec.toNat_not, BitVec.toNat_sub, h1]
    have := x.isLt
    omega
  rw [e]
  refine BitVec.eq_of_getLsbD_eq fun i hi => ?_
  rw [BitVec.getLsbD_and, BitVec.getLsbD_not, low_pred h i hi, BitVec.getLsbD_shiftLeft, BitVec.getLsbD_one]
  by_cases h1 : i < j
  · rw [h.2.2 i h1]; simp [h1]
  · rw [if_neg h1]
    by_cases h2 : i = j
    · subst h2; simp [h.2.1, hi]
    · rw [if_neg h2]
      have : ¬ (i - j = 0) := by omega
      simp [this]
      exact fun a _ => a
theorem u_neg (x : BitVec 64) : IntKind.u64.wrap (-(uI x)) = uI (-x) := by
  rw [wrapU64, uI_def, uI_def, BitVec.toNat_neg]
  have := x.isLt
  omega
theorem u_mul (x : BitVec 64) (c : Nat) : IntKind.u64.wrap (uI x * (c : Int)) = uI (BitVec.ofNat 64 (x.toNat * c)) := by
  rw [wrapU64, uI_def, uI_def, BitVec.toNat_ofNat]
  rw [Int.natCast_emod, Int.natCast_mul]
  rfl
theorem one_mul_shr (j : Nat) (hj : j < 64) (c : Nat) : uI ((BitVec.ofNat 64 ((1#64 <<< j).toNat * c)) >>> 58) = (((2 ^ j * c % 2 ^ 64) / 2 ^ 58 : Nat) : Int) := by
  rw [uI_def, BitVec.toNat_ushiftRight, BitVec.toNat_ofNat, Nat.shiftRight_eq_div_pow, BitVec.toNat_shiftLeft, Nat.shiftLeft_eq]
  have h : 2 ^ j < 2 ^ 64 := Nat.pow_lt_pow_right (by decide) hj
  have e : (1#64).toNat = 1 := rfl
  rw [e, Nat.one_mul, Nat.mod_eq_of_lt h]
end Go.VA

namespace Go.VA
open Go Go.RowKit
end Go.VA

namespace Go.VA
open Go Go.RowKit
def mxN (A : Nat → Nat → Bool) (d : Nat → Int) (i : Nat) : Nat → Int
  | 0 => 0
  | m + 1 => if A i m && decide (d m > mxN A d i m) then d m else mxN A d i m
def dpS (A : Nat → Nat → Bool) (N : Nat) (d : Nat → Int) (i k : Nat) : Int := if k = i then mxN A d i N + 1 else d k
def dpF (A : Nat → Nat → Bool) (N : Nat) (p : List Nat) : Nat → Int := p.foldl (dpS A N) (fun _ => 0)
theorem dpF_snoc (A : Nat → Nat → Bool) (N : Nat) (p : List Nat) (i : Nat) : dpF A N (p ++ [i]) = dpS A N (dpF A N p) i := by
  unfold dpF; rw [List.foldl_append]; rfl
theorem mxN_bnd {A : Nat → Nat → Bool} {d : Nat → Int} {i : Nat} {b : Int} (hb : 0 ≤ b) (h : ∀ k, 0 ≤ d k ∧ d k ≤ b) : ∀ m, 0 ≤ mxN A d i m ∧ mxN A d i m ≤ b
  | 0 => ⟨Int.le_refl _, hb⟩
  | m + 1 => by
    simp only [mxN]
    split
    · exact h m
    · exact mxN_bnd hb h m
theorem list_snoc_ind {α : Type} {P : List α → Prop} (h0 : P []) (h1 : ∀ l x, P l → P (l ++ [x])) (l : List α) : P l := by
  rw [← List.reverse_reverse l]
  induction l.reverse with
  | nil => exact h0
  | cons x r ih => rw [List.reverse_cons]; exact h1 _ _ ih
theorem dpF_bnd (A : Nat → Nat → Bool) (N : Nat) (p : List Nat) : ∀ k, 0 ≤ dpF A N p k ∧ dpF A N p k ≤ p.length := by
  refine list_snoc_ind (P := fun p => ∀ k, 0 ≤ dpF A N p k ∧ dpF A N p k ≤ p.length) (fun k => ⟨Int.le_refl _, Int.le_refl _⟩) (fun l x ih k => ?_) p
  rw [dpF_snoc, List.length_append]
  unfold dpS
  have hm := mxN_bnd (A := A) (i := x) (by omega) ih N
  have := ih k
  split <;> (simp only [List.length_singleton]; omega)
theorem dpF_out (A : Nat → Nat → Bool) (N : Nat) (p : List Nat) : ∀ k, k ∉ p → dpF A N p k = 0 := by
  refine list_snoc_ind (P := fun p => ∀ k, k ∉ p → dpF A N p k = 0) (fun _ _ => rfl) (fun l x ih k hk => ?_) p
  rw [dpF_snoc]
  unfold dpS
  rw [if_neg (fun e => hk (by simp [e])), ih k fun e => hk (by simp [e])]
def vL (d : Nat → Int) (l : List Nat) : Int := l.foldl (fun v x => if d x > v then d x else v) 0
theorem vL_snoc (d : Nat → Int) (l : List Nat) (x : Nat) : vL d (l ++ [x]) = if d x > vL d l then d x else vL d l := by
  unfold vL; rw [List.foldl_append]; rfl
theorem vL_nonneg (d : Nat → Int) (l : List Nat) : 0 ≤ vL d l := by
  refine list_snoc_ind (P := fun l => 0 ≤ vL d l) (Int.le_refl _) (fun l x ih => ?_) l
  rw [vL_snoc]
  split <;> omega
theorem vL_filter (A : Nat → Nat → Bool) (d : Nat → Int) (i : Nat) : ∀ m, vL d ((List.range m).filter (A i)) = mxN A d i m
  | 0 => rfl
  | m + 1 => by
    have ih := vL_filter A d i m
    rw [List.range_succ, List.filter_append]
    cases h : A i m
    · have : [m].filter (A i) = [] := by simp [h]
      rw [this, List.append_nil, ih]
      simp only [mxN, h, Bool.false_and]; rfl
    · have : [m].filter (A i) = [m] := by simp [h]
      rw [this, vL_snoc, ih]
      simp only [mxN, h, Bool.true_and, decide_eq_true_eq]
end Go.VA
