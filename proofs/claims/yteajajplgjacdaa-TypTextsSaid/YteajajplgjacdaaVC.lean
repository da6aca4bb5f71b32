/- An executor of the model over symbolic values, and the proof that what it shows of a function holds of every call: no condition. -/
import Derived.Test.YteajajplgjacdaaVB
import Derived.Laws.Strings
import Derived.ProofKit
set_option linter.unusedSimpArgs false
set_option linter.unusedVariables false
namespace Go.VA
open Go Go.RowKit
/-! ### the order of values -/
/-- element by element -/
def cmpL (fin : Int) : List ByteArray → List ByteArray → List (V → Int) → List V → Int
  | _, _, [], _ => fin
  | _, _, _ :: _, [] => fin
  | k :: ks, k' :: ks', r :: rs, y :: ys => if cmpS k k' != 0 then cmpS k k' else if r y != 0 then r y else cmpL fin ks ks' rs ys
  | [], ks', r :: rs, y :: ys => if r y != 0 then r y else cmpL fin [] ks' rs ys
  | _ :: _, [], _ :: _, _ :: _ => 0
def headC (a b : V) : Int := orI [cmpI a.k b.k, cmpI a.i b.i, cmpS a.s b.s, cmpI (codeT a.t) (codeT b.t)]
def cmpV : V → V → Int := V.fold fun a rs b => if headC a b != 0 then headC a b else cmpL (cmpI (nIt a) (nIt b)) (keys a) (keys b) (rs.take (nIt a)) (items b)
theorem cmpV_eq (a b : V) : cmpV a b = if headC a b != 0 then headC a b else cmpL (cmpI (nIt a) (nIt b)) (keys a) (keys b) ((items a).map cmpV) (items b) := by
  rw [cmpV, V.fold_eq, ← List.map_take]; rfl
theorem cmpI_0 {x y : Int} (h : cmpI x y = 0) : x = y := by unfold cmpI at h; split at h <;> (try split at h) <;> omega
theorem orI_0 : ∀ {l : List Int}, orI l = 0 → ∀ x ∈ l, x = 0
  | [], _, x, hx => by simp at hx
  | y :: r, h, x, hx => by
    simp only [orI] at h
    split at h
    · rename_i hy; simp [h] at hy
    · rename_i hy
      rcases List.mem_cons.1 hx with rfl | hx
      · simpa using hy
      · exact orI_0 h x hx
theorem headC_k {a b : V} (h : headC a b = 0) : a.k = b.k := cmpI_0 (orI_0 h _ (by simp))
theorem nKs_5 {v : V} (h : v.k = 5) : nKs v = nIt v := by unfold nKs nIt; rw [h]; simp
theorem nKs_pos {v : V} (h : 0 < nKs v) : v.k = 5 := by
  unfold nKs at h
  split at h
  · omega
  · rename_i h2; simpa using h2
theorem keys_get {v : V} {c : Nat} (hc : c < nKs v) : (keys v)[c]? = some (v.ks.getD c ByteArray.empty) := by
  have := nKs_le v
  unfold keys
  rw [List.getElem?_take, if_pos hc, List.getElem?_eq_getElem (by omega), List.getD_eq_getElem?_getD, List.getElem?_eq_getElem (by omega)]
  rfl
theorem keys_nil {v : V} (h : ¬ 0 < nKs v) : keys v = [] := by
  unfold keys; rw [show nKs v = 0 by omega]; rfl
def lessV (a b : V) : Bool := decide (cmpV (only a) (only b) < 0)
/-! ### the document's -/
def fitsR : V → Ty → Bool := V.fold fun v rs t =>
  if !chkR t then false
  else if (t.1 == 0 || v.k == 0) then true
  else if v.k == 6 then wiR v.t t
  else if v.k != t.1 then false
  else (rs.take (nIt v)).all fun r => r (t.2, 0)
theorem fitsR_eq (v : V) (t : Ty) : fitsR v t = if !chkR t then false
  else if (t.1 == 0 || v.k == 0) then true
  else if v.k == 6 then wiR v.t t
  else if v.k != t.1 then false
  else (items v).all fun x => fitsR x (t.2, 0) := by
  rw [fitsR, V.fold_eq, ← List.map_take, List.all_map]; rfl
/-- element by element, with the keys ahead -/
def refL : List ByteArray → List ByteArray → List (V → Bool) → List V → Bool
  | _, _, [], _ => true
  | _, _, _ :: _, [] => true
  | k :: ks, k' :: ks', r :: rs, y :: ys => if !eqs k k' || !r y then false else refL ks ks' rs ys
  | [], ks', r :: rs, y :: ys => if !r y then false else refL [] ks' rs ys
  | _ :: _, [], _ :: _, _ :: _ => false
def refinesR : V → V → Bool := V.fold fun a rs b =>
  if b.k == 6 then fitsR a b.t
  else if (a.k != b.k || a.i != b.i || !eqs a.s b.s || (nIt a : Int) != nIt b) then false
  else refL (keys a) (keys b) (rs.take (nIt a)) (items b)
theorem refinesR_eq (a b : V) : refinesR a b = if b.k == 6 then fitsR a b.t
  else if (a.k != b.k || a.i != b.i || !eqs a.s b.s || (nIt a : Int) != nIt b) then false
  else refL (keys a) (keys b) ((items a).map refinesR) (items b) := by
  rw [refinesR, V.fold_eq, ← List.map_take]; rfl
def ordL (fin : Int) : List ByteArray → List ByteArray → List (V → Int) → List V → Int
  | _, _, [], _ => fin
  | _, _, _ :: _, [] => fin
  | k :: ks, k' :: ks', r :: rs, y :: ys => if !eqs k k' then (if Op.bytesLess k.toList k'.toList then -1 else 1) else if r y != 0 then r y else ordL fin ks ks' rs ys
  | [], ks', r :: rs, y :: ys => if r y != 0 then r y else ordL fin [] ks' rs ys
  | _ :: _, [], _ :: _, _ :: _ => 0
def codeN (t : Ty) : Int := IntKind.i64.wrap (IntKind.i64.wrap (8 * t.1) + t.2)
def lessF (a b : V) : Bool := if a.k == 1 || a.k == 2 then decide (a.i < b.i) else if a.k == 3 then Op.bytesLess a.s.toList b.s.toList else if a.k == 6 then decide (codeN a.t < codeN b.t) else false
def moreF (a b : V) : Bool := if a.k == 1 || a.k == 2 then decide (a.i > b.i) else if a.k == 3 then !(Op.bytesLess a.s.toList b.s.toList || a.s.toList == b.s.toList) else if a.k == 6 then decide (codeN a.t > codeN b.t) else false
def endO (a b : V) : Int := if (lessF a b || decide ((nIt a : Int) < nIt b)) then -1 else if (moreF a b || decide ((nIt a : Int) > nIt b)) then 1 else 0
def ordV : V → V → Int := V.fold fun a rs b => if a.k != b.k then (if decide (a.k < b.k) then -1 else 1) else ordL (endO a b) (keys a) (keys b) (rs.take (nIt a)) (items b)
theorem ordV_eq (a b : V) : ordV a b = if a.k != b.k then (if decide (a.k < b.k) then -1 else 1) else ordL (endO a b) (keys a) (keys b) ((items a).map ordV) (items b) := by
  rw [ordV, V.fold_eq, ← List.map_take]; rfl
def lessR (a b : V) : Bool := decide (ordV a b < 0)
def sameR : V → V → Bool → Bool := V.fold fun a rs b m =>
  if (a.k != b.k || a.i != b.i || !eqs a.s b.s || !(a.tk == b.tk && a.to == b.to) || m && !(a.sec == b.sec) || (a.l.length : Int) != b.l.length || (a.ks.length : Int) != b.ks.length) then false
  else if !eqSs a.ks b.ks then false else all2 (fun r y => r y m) rs b.l
theorem sameR_eq (a b : V) (m : Bool) : sameR a b m =
  if (a.k != b.k || a.i != b.i || !eqs a.s b.s || !(a.tk == b.tk && a.to == b.to) || m && !(a.sec == b.sec) || (a.l.length : Int) != b.l.length || (a.ks.length : Int) != b.ks.length) then false
  else if !eqSs a.ks b.ks then false else all2 (fun x y => sameR x y m) a.l b.l := by
  rw [sameR, V.fold_eq, all2_map]
def chk1 (v : V) (d : Int) : Bool := decide (d < 1) || decide (v.k < 0) || decide (v.k > 6)
def chk2 (v : V) : Bool := v.k != 1 && v.k != 2 && v.i != 0 || v.k == 1 && v.i != 0 && v.i != 1
def chk3 (v : V) : Bool := v.k != 3 && !(v.s.toList == ({ data := #[] } : ByteArray).toList) || decide ((v.s.size : Int) > 1024)
def chk4 (v : V) : Bool := v.k != 6 && !(v.tk == 0 && v.to == 0) || v.k == 6 && !chkR v.t
def chk5 (v : V) : Bool := v.k != 4 && v.k != 5 && decide ((v.l.length : Int) > 0) || decide ((v.l.length : Int) > 128)
def chk6 (v : V) : Bool := v.k != 5 && decide ((v.ks.length : Int) > 0) || v.k == 5 && (v.ks.length : Int) != v.l.length
def checkRV : V → Int → Bool := V.fold fun v rs d =>
  if chk1 v d then false else if chk2 v then false else if chk3 v then false else if chk4 v then false else if chk5 v then false else if chk6 v then false
  else if !keysOk v.ks v.ks 0 then false else rs.all fun r => r (IntKind.i64.wrap (d - 1))
theorem checkRV_eq (v : V) (d : Int) : checkRV v d =
  if chk1 v d then false else if chk2 v then false else if chk3 v then false else if chk4 v then false else if chk5 v then false else if chk6 v then false
  else if !keysOk v.ks v.ks 0 then false else v.l.all fun x => checkRV x (IntKind.i64.wrap (d - 1)) := by
  rw [checkRV, V.fold_eq, List.all_map]; rfl
def checkR (v : V) : Bool := checkRV v 8 && decide (weight v ≤ 512)
/-- how much it has -/
def greatK : List ByteArray → Int → Int
  | [], n => n
  | k :: r, n => if decide (n ≤ 600) then greatK r (IntKind.i64.wrap (n + IntKind.i64.wrap ((if (4000 : Int) < k.size then 4000 else (k.size : Int)).tdiv 4))) else n
def greatL (d : Int) : List (Int → Int) → Int → Int
  | [], n => n
  | r :: rs, n => if decide (n ≤ 600) then greatL d rs (IntKind.i64.wrap (n + r (IntKind.i64.wrap (d - 1)))) else n
theorem greatK_stop {l : List ByteArray} {n : Int} (h : decide (n ≤ 600) = false) : greatK l n = n := by cases l <;> simp [greatK, h]
theorem greatL_stop {d : Int} {l : List (Int → Int)} {n : Int} (h : decide (n ≤ 600) = false) : greatL d l n = n := by cases l <;> simp [greatL, h]
theorem greatK_go {l : List ByteArray} {n : Int} {c : Nat} {x : ByteArray} (hx : l[c]? = some x) (h : n ≤ 600) :
    greatK (l.drop c) n = greatK (l.drop (c + 1)) (IntKind.i64.wrap (n + IntKind.i64.wrap ((if (4000 : Int) < x.size then 4000 else (x.size : Int)).tdiv 4))) := by
  rw [drop_cons? hx]; simp [greatK, h]
theorem greatL_go {d : Int} {l : List (Int → Int)} {n : Int} {c : Nat} {r : Int → Int} (hx : l[c]? = some r) (h : n ≤ 600) :
    greatL d (l.drop c) n = greatL d (l.drop (c + 1)) (IntKind.i64.wrap (n + r (IntKind.i64.wrap (d - 1)))) := by
  rw [drop_cons? hx]; simp [greatL, h]
def great0 (v : V) : Int := IntKind.i64.wrap (IntKind.i64.wrap (1 + IntKind.i64.wrap ((if (2000 : Int) < v.s.size then 2000 else (v.s.size : Int)).tdiv 4)) + (if (700 : Int) < v.ks.length then 700 else (v.ks.length : Int)))
def greatV : V → Int → Int := V.fold fun v rs d => if d == 0 then 601 else
  let n := greatL d rs (greatK v.ks (great0 v)); if 601 < n then 601 else n
theorem greatV_eq (v : V) (d : Int) : greatV v d = if d == 0 then 601 else
  let n := greatL d (v.l.map greatV) (greatK v.ks (great0 v)); if 601 < n then 601 else n := by
  rw [greatV, V.fold_eq]
end Go.VA

namespace Go.VA
open Go Go.RowKit
/-! ### plain laws of values -/
theorem eqs_refl (a : ByteArray) : eqs a a = true := by simp [eqs]
theorem eqSs_refl : ∀ l : List ByteArray, eqSs l l = true
  | [] => rfl
  | x :: r => by simp [eqSs, eqs_refl, eqSs_refl r]
theorem all2_refl {α : Type} {p : α → α → Bool} : ∀ {l : List α}, (∀ x ∈ l, p x x = true) → all2 p l l = true
  | [], _ => rfl
  | x :: r, h => by simp only [all2, Bool.and_eq_true]; exact ⟨h x (by simp), all2_refl fun y hy => h y (by simp [hy])⟩
theorem sameR_refl (v : V) : ∀ m, sameR v v m = true := by
  refine V.ind (p := fun v => ∀ m, sameR v v m = true) (fun v ih m => ?_) v
  rw [sameR_eq]
  simp [eqs_refl, eqSs_refl, all2_refl (p := fun x y => sameR x y m) fun x hx => ih x hx m]
theorem shr1 (i : Int) : (shrI .i64 i 1 == 0) = (i == 0 || i == 1) := by
  rw [Bool.eq_iff_iff]
  have h : shrI .i64 i 1 = i / 2 := by
    unfold shrI
    have : min ((1 : Int)).toNat IntKind.i64.bits = 1 := by decide
    rw [this]
    exact (Int.fdiv_eq_ediv_of_nonneg i (by decide))
  simp only [beq_iff_eq, Bool.or_eq_true, h]
  omega
theorem keysOk_nil (ks : List ByteArray) (c : Nat) : keysOk ks [] c = true := rfl
theorem empty_of_len {α : Type} {l : List α} (h : (l.length : Int) = 0) : l = [] := by
  cases l with
  | nil => rfl
  | cons x r => simp at h; omega
theorem wrap_small {d : Int} (h0 : 0 ≤ d) (h8 : d ≤ 8) : IntKind.i64.wrap (d - 1) = d - 1 := wrap64 (by omega) (by omega)
theorem eqs_emp (s : ByteArray) : eqs s ByteArray.empty = (s.toList == ({ data := #[] } : ByteArray).toList) := rfl
theorem eqSs_emp (l : List ByteArray) : eqSs l [] = decide (l.length = 0) := by cases l <;> simp [eqSs]
/-- right shapes, by both texts -/
theorem shaped_law (v : V) (d : Int) (h1 : 1 ≤ d) :
    shaped v = (!chk1 v d && !chk2 v && !chk3 v && !chk4 v && !chk5 v && !chk6 v && keysOk v.ks v.ks 0) := by
  by_cases hk : v.k < 0 ∨ v.k > 6
  · have e1 : chk1 v d = true := by unfold chk1; simp; omega
    have e2 : shaped v = false := by
      unfold shaped
      rw [if_pos (by simp; omega)]
    rw [e1, e2]; rfl
  · have hd : chk1 v d = false := by unfold chk1; simp; omega
    have hr : v.k = 0 ∨ v.k = 1 ∨ v.k = 2 ∨ v.k = 3 ∨ v.k = 4 ∨ v.k = 5 ∨ v.k = 6 := by omega
    have kb : (decide (v.k < 0) || decide (v.k > 6)) = false := by simp; omega
    have hks : v.ks = [] → keysOk v.ks v.ks 0 = true := fun e => by rw [e]; rfl
    rw [hd]
    unfold shaped
    rw [kb]
    unfold flat chk2 chk3 chk4 chk5 chk6 errc
    rw [only_k, only_i, only_s, only_l, only_ks, only_tk, only_to, only_sec, ← chkR_eq]
    have e0 : v.t = (v.tk, v.to) := rfl
    obtain ⟨k, i, s, l, ks, tk, to, sec⟩ := v
    simp only [V.k, V.i, V.s, V.l, V.ks, V.tk, V.to, V.sec] at *
    rcases hr with rfl | rfl | rfl | rfl | rfl | rfl | rfl
    all_goals
      rw [Bool.eq_iff_iff]
      simp [eqs_refl, eqSs_refl, eqs_emp, eqSs_emp, shr1, e0]
      try (by_cases hl : l = [] <;> by_cases hq : ks = [] <;> simp [hl, hq, keysOk_nil, List.length_pos_iff])
      all_goals try grind
theorem all_congr' {α : Type} {p q : α → Bool} : ∀ {l : List α}, (∀ x ∈ l, p x = q x) → l.all p = l.all q
  | [], _ => rfl
  | x :: r, h => by simp only [List.all_cons]; rw [h x (by simp), all_congr' fun y hy => h y (by simp [hy])]
theorem allV_check (v : V) : ∀ d : Int, 0 ≤ d → d ≤ 8 → allV v d = checkRV v d := by
  refine V.ind (p := fun v => ∀ d : Int, 0 ≤ d → d ≤ 8 → allV v d = checkRV v d) (fun v ih d h0 h8 => ?_) v
  rw [allV_eq, checkRV_eq]
  by_cases hd : d = 0
  · subst hd; simp [chk1]
  · rw [shaped_law v d (by omega), all_congr' fun x hx => ih x hx (IntKind.i64.wrap (d - 1)) (by rw [wrap_small h0 h8]; omega) (by rw [wrap_small h0 h8]; omega)]
    have : (d == 0) = false := by simpa using hd
    rw [this]
    cases chk1 v d <;> cases chk2 v <;> cases chk3 v <;> cases chk4 v <;> cases chk5 v <;> cases chk6 v <;> cases keysOk v.ks v.ks 0 <;> rfl
theorem check_law (v : V) : (checkV v == 0) = checkR v := by
  unfold checkV checkR
  rw [allV_check v 8 (by decide) (by decide)]
  cases h : checkRV v 8 <;> by_cases hw : weight v > 512 <;> simp [hw] <;> omega
theorem check_01 (v : V) : (checkV v == 0 || checkV v == 1) = true := by
  unfold checkV; split <;> rfl
theorem eqs_iff {a b : ByteArray} : eqs a b = true ↔ a = b := by
  unfold eqs
  rw [beq_iff_eq]
  refine ⟨fun h => ?_, fun h => by rw [h]⟩
  rw [ByteArray.toList_eq, ByteArray.toList_eq] at h
  cases a; cases b
  simp at h
  simpa using h
theorem eqSs_iff : ∀ {a b : List ByteArray}, eqSs a b = true ↔ a = b
  | [], [] => by simp [eqSs]
  | [], _ :: _ => by simp [eqSs]
  | _ :: _, [] => by simp [eqSs]
  | x :: r, y :: s => by simp only [eqSs, Bool.and_eq_true, eqs_iff, eqSs_iff, List.cons.injEq]
theorem all2_iff {α : Type} {p : α → α → Bool} : ∀ {l m : List α}, all2 p l m = true ↔ l.length = m.length ∧ ∀ (i : Nat) (x y : α), l[i]? = some x → m[i]? = some y → p x y = true
  | [], [] => by simp [all2]
  | [], _ :: _ => by simp [all2]
  | _ :: _, [] => by simp [all2]
  | x :: r, y :: s => by
    simp only [all2, Bool.and_eq_true, all2_iff, List.length_cons]
    constructor
    · rintro ⟨h1, h2, h3⟩
      refine ⟨by omega, fun i a b ha hb => ?_⟩
      cases i with
      | zero => simp at ha hb; subst ha; subst hb; exact h1
      | succ i => exact h3 i a b (by simpa using ha) (by simpa using hb)
    · rintro ⟨h1, h2⟩
      exact ⟨h2 0 x y rfl rfl, by omega, fun i a b ha hb => h2 (i + 1) a b (by simpa using ha) (by simpa using hb)⟩
/-! ### values that may be -/
def Ok (v : V) : Prop := ∃ d, checkRV v d = true
theorem ok_of {v : V} (h : checkR v = true) : Ok v := by
  unfold checkR at h
  simp only [Bool.and_eq_true] at h
  exact ⟨8, h.1⟩
structure Okf (v : V) : Prop where
  k0 : 0 ≤ v.k
  k6 : v.k ≤ 6
  i : v.k ≠ 1 → v.k ≠ 2 → v.i = 0
  s : v.k ≠ 3 → v.s = ByteArray.empty
  t : v.k ≠ 6 → v.tk = 0 ∧ v.to = 0
  t6 : v.k = 6 → chk v.t = true
  l : v.k ≠ 4 → v.k ≠ 5 → v.l = []
  ks : v.k ≠ 5 → v.ks = []
  ks5 : v.k = 5 → v.ks.length = v.l.length
  ok : ∀ x ∈ v.l, Ok x
theorem Ok.f {v : V} (h : Ok v) : Okf v := by
  obtain ⟨d, h⟩ := h
  rw [checkRV_eq] at h
  by_cases h1 : chk1 v d = true
  · simp [h1] at h
  by_cases h2 : chk2 v = true
  · simp [h1, h2] at h
  by_cases h3 : chk3 v = true
  · simp [h1, h2, h3] at h
  by_cases h4 : chk4 v = true
  · simp [h1, h2, h3, h4] at h
  by_cases h5 : chk5 v = true
  · simp [h1, h2, h3, h4, h5] at h
  by_cases h6 : chk6 v = true
  · simp [h1, h2, h3, h4, h5, h6] at h
  by_cases h7 : keysOk v.ks v.ks 0 = true
  · simp only [h1, h2, h3, h4, h5, h6, h7] at h
    simp only [chk1, Bool.or_eq_true, decide_eq_true_eq, not_or] at h1
    refine ⟨by omega, by omega, fun a b => ?_, fun a => ?_, fun a => ?_, fun a => ?_, fun a b => ?_, fun a => ?_, fun a => ?_, fun x hx => ⟨_, List.all_eq_true.1 h x hx⟩⟩
    · simp [chk2] at h2
      exact h2.1 a b
    · have := (by simpa [chk3] using h3 : (¬v.k = 3 → v.s.toList = []) ∧ _).1 a
      exact eqs_iff.1 (by rw [eqs_emp, this]; simp)
    · simp [chk4] at h4
      exact h4.1 a
    · simp [chk4] at h4
      rw [← chkR_eq]; exact h4.2 a
    · simp [chk5] at h5
      exact h5.1 a b
    · simp [chk6] at h6
      exact h6.1 a
    · simp [chk6] at h6
      have := h6.2 a
      omega
  · simp [h1, h2, h3, h4, h5, h6, h7] at h
theorem Okf.items {v : V} (h : Okf v) : items v = v.l ∧ nIt v = v.l.length := by
  have : nIt v = v.l.length := by
    unfold nIt nPairs
    split
    · rfl
    · split
      · rename_i h5; have := h.ks5 (by simpa using h5); omega
      · rename_i h4 h5; rw [h.l (by simpa using h4) (by simpa using h5)]; rfl
  exact ⟨by unfold VA.items; rw [this, List.take_length], this⟩
theorem Okf.keys {v : V} (h : Okf v) : keys v = v.ks := by
  unfold VA.keys nKs nPairs
  split
  · rename_i h5; rw [h.ks (by simpa using h5)]; rfl
  · rename_i h5; have := h.ks5 (by simpa using h5); rw [List.take_of_length_le (by omega)]
theorem Okf.only {v : V} (h : Okf v) : only v = v := by
  have e := V.eta v
  unfold VA.only
  have h1 := h.i; have h2 := h.s; have h3 := h.t; have h4 := h.l; have h5 := h.ks
  have a1 : (if v.k == 1 || v.k == 2 then v.i else 0) = v.i := by
    split
    · rfl
    · rename_i g; simp at g; rw [h1 g.1 g.2]
  have a2 : (if v.k == 3 then v.s else ByteArray.empty) = v.s := by
    split
    · rfl
    · rename_i g; rw [h2 (by simpa using g)]
  have a3 : (if v.k == 5 || v.k == 4 then v.l else []) = v.l := by
    split
    · rfl
    · rename_i g; simp at g; rw [h4 g.2 g.1]
  have a4 : (if v.k == 5 then v.ks else []) = v.ks := by
    split
    · rfl
    · rename_i g; rw [h5 (by simpa using g)]
  have a5 : (if v.k == 6 then v.tk else 0) = v.tk := by
    split
    · rfl
    · rename_i g; rw [(h3 (by simpa using g)).1]
  have a6 : (if v.k == 6 then v.to else 0) = v.to := by
    split
    · rfl
    · rename_i g; rw [(h3 (by simpa using g)).2]
  rw [a1, a2, a3, a4, a5, a6, e]
end Go.VA

namespace Go.VA
open Go Go.RowKit
/-! ### to refine -/
theorem errc_ne (t : Ty) : (errc t != 0) = !chk t := by unfold errc; split <;> simp_all
theorem wi_chk {a b : Ty} (h : wi a b = true) : chk a = true ∧ chk b = true := by
  simp only [wi, errc_ne] at h
  cases ha : chk a <;> cases hb : chk b <;> simp_all
theorem wi_eq (a b : Ty) : wi a b = wiR a b := by
  by_cases ha : chk a = true
  · by_cases hb : chk b = true
    · have : ∀ a ∈ tys, ∀ b ∈ tys, wi a b = wiR a b := by decide +kernel
      exact this a (chk_mem ha) b (chk_mem hb)
    · have hb : chk b = false := by simpa using hb
      simp [wi, wiR, chkR_eq, errc, hb]
  · have ha : chk a = false := by simpa using ha
    simp [wi, wiR, chkR_eq, errc, ha]
theorem fits_R (v : V) : ∀ t, fits v t = fitsR v t := by
  refine V.ind (p := fun v => ∀ t, fits v t = fitsR v t) (fun v ih t => ?_) v
  rw [fits_eq, fitsR_eq, errc_ne, chkR_eq, wi_eq]
  have : (!((items v).any fun x => !(fits x (t.2, 0)))) = (items v).all fun x => fitsR x (t.2, 0) := by
    rw [List.not_any_eq_all_not]
    exact all_congr' fun x hx => by rw [ih x (items_mem hx)]; simp
  rw [this]
theorem refL_eq : ∀ (rs : List (V → Bool)) (ys : List V) (ks ks' : List ByteArray), rs.length = ys.length → ks.length = ks'.length → (ks = [] ∨ ks.length = rs.length) →
    refL ks ks' rs ys = (eqSs ks ks' && all2 (fun r y => r y) rs ys)
  | [], [], [], [], _, _, _ => rfl
  | [], [], k :: ks, ks', _, _, h => by simp at h
  | r :: rs, y :: ys, [], [], h, _, _ => by
    have e := refL_eq rs ys [] [] (by simpa using h) rfl (.inl rfl)
    simp only [refL, e, eqSs, all2]
    cases r y <;> rfl
  | r :: rs, y :: ys, k :: ks, k' :: ks', h, h2, h3 => by
    have h3' : ks.length = rs.length := by simpa using h3
    have e := refL_eq rs ys ks ks' (by simpa using h) (by simpa using h2) (.inr h3')
    simp only [refL, e, eqSs, all2]
    cases r y <;> cases eqs k k' <;> simp
theorem refines_R (a : V) : ∀ b, refines a b = refinesR a b := by
  refine V.ind (p := fun a => ∀ b, refines a b = refinesR a b) (fun a ih b => ?_) a
  rw [refines_eq, refinesR_eq, fits_R]
  have e2 : all2 refines (items a) (items b) = all2 (fun r y => r y) ((items a).map refinesR) (items b) := by
    rw [all2_map]
    have : ∀ (l m : List V), (∀ x ∈ l, ∀ y, refines x y = refinesR x y) → all2 refines l m = all2 (fun x y => refinesR x y) l m := by
      intro l
      induction l with
      | nil => intro m h; cases m <;> rfl
      | cons x r ih2 =>
        intro m h
        cases m with
        | nil => rfl
        | cons y s => simp only [all2]; rw [h x (by simp), ih2 s fun z hz => h z (by simp [hz])]
    exact this _ _ fun x hx => ih x (items_mem hx)
  by_cases h6 : b.k == 6
  · simp [h6]
  · simp only [h6]
    by_cases hk : a.k = b.k
    · by_cases hn : nIt a = nIt b
      · have kl : (keys a).length = (keys b).length := by
          rw [keys_len, keys_len]
          by_cases h5 : a.k = 5
          · rw [nKs_5 h5, nKs_5 (hk ▸ h5), hn]
          · simp [nKs, hk ▸ h5, h5]
        have kl2 : keys a = [] ∨ (keys a).length = ((items a).map refinesR).length := by
          by_cases h5 : a.k = 5
          · right; rw [keys_len, nKs_5 h5]; simp [items_len]
          · left; simp [keys, nKs, h5]
        rw [refL_eq _ _ _ _ (by simp [items_len, hn]) kl kl2, e2]
        simp only [hn]
        cases eqSs (keys a) (keys b) <;> simp
      · have e1 : all2 refines (items a) (items b) = false := all2_len (by rw [items_len, items_len]; exact hn)
        have : ((nIt a : Int) != nIt b) = true := by simp; omega
        rw [e1, this]
        simp
    · have : (a.k != b.k) = true := by simpa using hk
      simp [this]
/-! #### itself, and what is unknown of its type -/
theorem wi_refl {t : Ty} (h : chk t = true) : wi t t = true := by simp [wi, errc_ne, h]
theorem fits_eq' (v : V) (t : Ty) : fits v t = (chk t && (t.1 == 0 || v.k == 0 || if v.k == 6 then wi v.t t else v.k == t.1 && (items v).all fun x => fits x (t.2, 0))) := by
  rw [fits_eq, errc_ne]
  have : (!((items v).any fun x => !(fits x (t.2, 0)))) = (items v).all fun x => fits x (t.2, 0) := by
    rw [List.not_any_eq_all_not]
    exact all_congr' fun x hx => by simp
  rw [this]
  by_cases h1 : chk t = true
  · simp only [h1]
    by_cases h2 : (t.1 == 0 || v.k == 0) = true
    · simp [h2]
    · simp only [h2]
      by_cases h3 : v.k == 6
      · simp [h3]
      · by_cases h4 : v.k = t.1 <;> simp [h3, h4]
  · simp [h1]
theorem refines_eq' (a b : V) : refines a b = if b.k == 6 then fits a b.t else (a.k == b.k && a.i == b.i && eqs a.s b.s && eqSs (keys a) (keys b) && all2 refines (items a) (items b)) := by
  rw [refines_eq]
  by_cases h6 : b.k == 6
  · simp [h6]
  · simp only [h6]
    by_cases h1 : a.k = b.k <;> by_cases h2 : a.i = b.i <;> by_cases h3 : eqs a.s b.s = true <;> by_cases h4 : eqSs (keys a) (keys b) = true <;> simp [h1, h2, h3, h4]
theorem fits_00 (v : V) : fits v (0, 0) = true := by rw [fits_eq']; simp; decide
theorem refines_self (v : V) (h : Ok v) : refines v v = true := by
  revert h
  refine V.ind (p := fun v => Ok v → refines v v = true) (fun v ih h => ?_) v
  have f := h.f
  rw [refines_eq']
  split
  · rename_i h6
    have h6 : v.k = 6 := by simpa using h6
    rw [fits_eq', f.t6 h6, h6]
    simp [wi_refl (f.t6 h6)]
  · simp [eqs_refl, eqSs_refl, all2_refl (p := refines) fun x hx => ih x (items_mem hx) (f.ok x (items_mem hx))]
theorem jo_cases (a b : Ty) : jo a b = (0, 0) ∨ (chk a = true ∧ chk b = true ∧ a.1 = b.1 ∧ (jo a b).1 = a.1 ∧ chk (jo a b) = true) := by
  by_cases ha : chk a = true
  · by_cases hb : chk b = true
    · have : ∀ a ∈ tys, ∀ b ∈ tys, (jo a b == (0, 0) || (a.1 == b.1 && (jo a b).1 == a.1 && chk (jo a b))) = true := by decide +kernel
      have := this a (chk_mem ha) b (chk_mem hb)
      simp only [Bool.or_eq_true, Bool.and_eq_true, beq_iff_eq] at this
      rcases this with h | ⟨⟨h1, h2⟩, h3⟩
      · exact .inl h
      · exact .inr ⟨ha, hb, h1, h2, h3⟩
    · left; simp [jo, errc, hb]
  · left; simp [jo, errc, ha]
theorem jo_0 (b : Ty) : (jo (0, 0) b).1 = 0 := by
  rcases jo_cases (0, 0) b with h | ⟨_, _, _, h, _⟩ <;> rw [h]
theorem fold_jo : ∀ (r : List Ty) (t : Ty), (r.foldl jo t).1 = 0 ∨ ((r.foldl jo t).1 = t.1 ∧ ∀ s ∈ r, chk s = true ∧ s.1 = t.1)
  | [], t => .inr ⟨rfl, by simp⟩
  | s :: r, t => by
    simp only [List.foldl_cons]
    rcases jo_cases t s with h | ⟨_, h2, h3, h4, _⟩
    · left
      rw [h]
      rcases fold_jo r (0, 0) with h5 | ⟨h5, _⟩ <;> exact h5
    · rcases fold_jo r (jo t s) with h5 | ⟨h5, h6⟩
      · exact .inl h5
      · refine .inr ⟨by rw [h5, h4], fun x hx => ?_⟩
        rcases List.mem_cons.1 hx with rfl | hx
        · exact ⟨h2, h3.symm⟩
        · have := h6 x hx; exact ⟨this.1, by rw [this.2, h4]⟩
/-- each one of a list fits the list's Of -/
theorem common_fits {l : List V} (h : ∀ x ∈ l, chk (typeOf x) = true ∧ fits x (typeOf x) = true) :
    (0 ≤ commonT (l.map typeOf) ∧ commonT (l.map typeOf) ≤ 3) ∧ ∀ x ∈ l, fits x (commonT (l.map typeOf), 0) = true := by
  cases l with
  | nil => simp [commonT]
  | cons x r =>
    simp only [List.map_cons, commonT]
    have hx := h x (by simp)
    have key := fold_jo (r.map typeOf) (typeOf x)
    generalize he : (r.map typeOf).foldl jo (typeOf x) = j at *
    have k0 : ∀ t : Ty, chk t = true → 0 ≤ t.1 ∧ (t.1 ≤ 3 → t.2 = 0) := by
      intro t ht
      have : ∀ t ∈ tys, (decide (0 ≤ t.1) && (!decide (t.1 ≤ 3) || t.2 == 0)) = true := by decide +kernel
      have := this t (chk_mem ht)
      simp at this
      refine ⟨this.1, fun h => ?_⟩
      rcases this.2 with h2 | h2 <;> omega
    rcases key with h0 | ⟨h1, h2⟩
    · have : (if decide (j.1 > 3) = true then 0 else j.1) = 0 := by rw [h0]; decide
      rw [this]
      exact ⟨by decide, fun y _ => fits_00 y⟩
    · by_cases h3 : j.1 > 3
      · rw [if_pos (by simpa using h3)]
        exact ⟨by decide, fun y _ => fits_00 y⟩
      · rw [if_neg (by simpa using h3)]
        have q := k0 _ hx.1
        refine ⟨by omega, fun y hy => ?_⟩
        have hy' : chk (typeOf y) = true ∧ (typeOf y).1 = (typeOf x).1 := by
          rcases List.mem_cons.1 hy with rfl | hy
          · exact ⟨hx.1, rfl⟩
          · exact h2 _ (List.mem_map.2 ⟨y, hy, rfl⟩)
        have q2 := k0 _ hy'.1
        have : typeOf y = (j.1, 0) := Prod.ext (by rw [hy'.2, h1]) (q2.2 (by omega))
        rw [← this]
        exact (h y hy).2
theorem chk_4 {c : Int} (h0 : 0 ≤ c) (h3 : c ≤ 3) : chk (4, c) = true ∧ chk (5, c) = true := by
  have : c = 0 ∨ c = 1 ∨ c = 2 ∨ c = 3 := by omega
  rcases this with rfl | rfl | rfl | rfl <;> decide
theorem fits_type (v : V) (h : Ok v) : chk (typeOf v) = true ∧ fits v (typeOf v) = true := by
  revert h
  refine V.ind (p := fun v => Ok v → chk (typeOf v) = true ∧ fits v (typeOf v) = true) (fun v ih h => ?_) v
  have f := h.f
  have g := f.items
  have ih' : ∀ x ∈ v.l, chk (typeOf x) = true ∧ fits x (typeOf x) = true := fun x hx => ih x hx (f.ok x hx)
  have c := common_fits ih'
  have c4 := chk_4 c.1.1 c.1.2
  have hr : v.k = 0 ∨ v.k = 1 ∨ v.k = 2 ∨ v.k = 3 ∨ v.k = 4 ∨ v.k = 5 ∨ v.k = 6 := by have := f.k0; have := f.k6; omega
  rw [fits_eq', typeOf_eq, g.1]
  rcases hr with e | e | e | e | e | e | e
  · simp only [e]; simp; decide
  · simp only [e]; simp [f.l (by omega) (by omega)]; decide
  · simp only [e]; simp [f.l (by omega) (by omega)]; decide
  · simp only [e]; simp [f.l (by omega) (by omega)]; decide
  · simp only [e]; simp [c4]; exact c.2
  · simp only [e]; simp [c4]; exact c.2
  · simp only [e]; simp [f.t6 e, wi_refl]
end Go.VA

namespace Go.VA
open Go Go.RowKit Go.ChangeShapes Go.WideShapes Go.ChangeAt

/-- what a memory holds -/
def S0 (W : World) : Rd := fun _ b o u => W.cell? ⟨b, o, none⟩ = some u
def M0 : Mz := ⟨0, fun _ => False, fun _ => False, fun _ h => h⟩
theorem Sr_M0 (W : World) : Sr M0 [] [] W = S0 W := by
  funext t b o u
  simp only [Sr, S0, eq_iff_iff, and_iff_right_iff_imp]
  intro _ h
  cases t <;> simp [MU, M0] at h
theorem relL_nil (W : World) : RelL M0 [] [] W where
  len := rfl
  bnd := by simp
  mbnd := by simp [M0]
  notM := by simp
  dist := by simp
  obj := by simp

section
variable {P : Program} {gl : Gl} {f : Nat} {args : List AV}

/-- a contract, in an open state -/
theorem acall_run {r : AV} (h : ACall P gl f args [] r) (W : World) (vals : Array Value) (hG : GlOk gl (S0 W)) (hv : RelVs [] (S0 W) args vals.toList) :
    Calls P f vals W fun e w' => ∃ u, e = .returned u ∧ Below W.heap.size W w' ∧ RelV [] (S0 w') r u := by
  have := h.run W M0 [] vals rfl (relL_nil W) (by rw [Sr_M0]; exact hG) (by rw [Sr_M0]; exact hv)
  refine this.mono fun e w' ⟨u, h1, h2, h3⟩ => ⟨u, h1, h2, ?_⟩
  rwa [Sr_M0] at h3

theorem acall_true (h : ACall P gl f args [] (boolA true)) (W : World) (vals : Array Value) (hG : GlOk gl (S0 W)) (hv : RelVs [] (S0 W) args vals.toList) :
    Calls P f vals W fun e w' => e = .returned (.bool true) ∧ Below W.heap.size W w' := by
  refine (acall_run h W vals hG hv).mono fun e w' ⟨u, h1, h2, h3⟩ => ?_
  simp only [boolA, RelV, RepC] at h3
  rw [h1, h3.1]
  exact ⟨rfl, h2⟩

theorem glOk_nil (S : Rd) : GlOk ⟨fun _ => []⟩ S := fun _ => by simp [RepCs]
end

section
variable {H : Type} {enc : TypeId × Value → H} {P : Program}

theorem post_of_below {f : Func} {s : ChangeSpec} {apart fresh handsOn again : Bool} {W W' : World} {args : Array Value} {v : Value} {ds gs : List (DataW H)} {before pa pv : List MemPlace}
    (hW : DataW.Whole enc P f.params.toList s.vars apart W args.toList ds gs before)
    (hres : ∀ (b : Nat) (sp : Nat → Bool) (hd : Bool), DataW.TrodAll enc P W' b sp hd f.resultTypes.toList (v.resultList f.resultTypes.size) (s.fn H (ds ++ gs)).results [])
    (hargs : ∀ sp : Nat → Bool, (∀ p ∈ before, sp p.block = true) → DataW.TrodAll enc P W' 0 sp true f.params.toList args.toList (s.fn H (ds ++ gs)).args pa)
    (hvars : ∀ sp : Nat → Bool, (∀ p ∈ before, sp p.block = true) → DataW.TrodVars enc P W' sp s.vars (s.fn H (ds ++ gs)).vars pv)
    (hps : before = pa ++ pv) (hb : Below W.heap.size W W')
    (hok : ∀ (j : Nat) (t : TypeId) (r : Value), f.resultTypes[j]? = some t → (v.resultList f.resultTypes.size)[j]? = some r → Value.okWide P W' .any 0 t r) :
    s.post enc P f apart fresh handsOn again W args v W' := by
  have hlt : ∀ p ∈ before, p.block < W.heap.size := fun p hp => hW.lt p hp
  have hold : ∀ p ∈ before, (fun b => decide (b < W.heap.size)) p.block = true := fun p hp => by simpa using hlt p hp
  refine ⟨ds, gs, before, [], pa, pv, hW, hres _ _ _, hargs _ hold, hvars _ hold, World.keptBut_mono (fun p hp => ⟨hp, ?_⟩) (hb.frame (· ∈ before)), fun _ => ?_⟩
  · rw [hps, List.mem_append] at hp
    exact Or.inr hp
  · obtain ⟨_, _, _, _, _, hz, hn⟩ := hW
    refine ⟨hok, _, _, ([] ++ pa) ++ pv, ⟨[] ++ pa, pv, trodAll_append (hargs _ (fun _ _ => rfl)) (hres _ _ _), hvars _ (fun _ _ => rfl), rfl, ?_, ?_⟩, ?_⟩
    · intro b off hp
      have hin : MemPlace.cell b off ∈ before := by rw [hps]; simpa using hp
      rw [hb.frozen (hlt _ hin)]
      exact hz b off hin
    · intro ha
      have := hn ha
      rw [hps] at this
      simpa using this
    · intro p hp _
      rw [hps]
      simpa using hp

def carried (P : Program) : List TypeId → Bool
  | [] => true
  | t :: ts => P.readableRec t && decide (t < P.types.size) && carried P ts

theorem trodAll_below (hl : laidOutB P = true) {W W' : World} (hb : Below W.heap.size W W') : ∀ {ts : List TypeId} {vs : List Value} {ds : List (DataW H)} {ps : List MemPlace},
    carried P ts = true → DataW.TrodAll enc P W 0 (fun _ => true) true ts vs ds ps → (∀ x ∈ ps, x.block < W.heap.size) →
    ∀ sp : Nat → Bool, (∀ p ∈ ps, sp p.block = true) → DataW.TrodAll enc P W' 0 sp true ts vs ds ps
  | [], [], [], _, _, h, _, _, _ => h
  | t :: ts, v :: vs, d :: ds, ps, hc, h, hlt, sp, hsp => by
    simp only [carried, Bool.and_eq_true, decide_eq_true_eq] at hc
    obtain ⟨p, q, h1, h2, rfl⟩ := h
    have h3 := Below.trod hl hc.1.1 hc.1.2 h1 hb fun x hx => hlt x (List.mem_append_left _ hx)
    refine ⟨p, q, ?_, trodAll_below hl hb hc.2 h2 (fun x hx => hlt x (List.mem_append_right _ hx)) sp (fun x hx => hsp x (List.mem_append_right _ hx)), rfl⟩
    exact WideElems.Trod_stays hl hc.1.1 hc.1.2 h1 (fun x hx => hb.same (hlt x (List.mem_append_left _ hx))) (fun x hx => hsp x (List.mem_append_left _ hx))
  | [], _ :: _, _, _, _, h, _, _, _ => h.elim
  | _ :: _, [], _, _, _, h, _, _, _ => h.elim
  | [], [], _ :: _, _, _, h, _, _, _ => h.elim
  | _ :: _, _ :: _, [], _, _, h, _, _, _ => h.elim
end

/-- a law's row, out of its contract: it returns true, and nothing that was there turns -/
theorem law_lifted {C : Checked} {f : FuncId} {fn : Func} {s : ChangeSpec} {conds : List PathCond} (os : Os) (started : os.Started) {H : Type} {enc : TypeId × Value → H} {tb : TypeId}
    (own : ownKnob C.prog.godebug = none) (noInit : C.prog.inits.idxOf? f = none) (hfn : C.prog.funcs[f]? = some fn)
    (hl : laidOutB C.prog = true) (hc : carried C.prog fn.params.toList = true) (hv : s.vars = []) (hr : fn.resultTypes = #[tb]) (htb : C.prog.underlying tb = some .bool)
    (hspec : ∀ ds : List (DataW H), ds.length = fn.params.size → s.fn H ds = { results := [.lit (.bool true)], args := ds })
    (witness : ∃ (w : World) (tape : Tape) (i : Input), w.os = os ∧ (w.forCall tape i).Shaped C.prog ∧ i.vars = [] ∧ Input.okWide C.prog (w.forCall tape i) .any w.heap.size f i ∧
      s.pre6 enc C.prog fn conds false (w.forCall tape i).memory i.args ∧ ({} : Assume).holds C.prog (lone (Frame.enter C.prog f i.args .normal) [] (w.forCall tape i)))
    (call : ∀ (W : World) (base : Nat) (args : Array Value) (ds : List (DataW H)) (ps : List MemPlace),
      (∀ (j : Nat) t v, fn.params[j]? = some t → args[j]? = some v → Value.okWide C.prog W .any base t v) →
      DataW.TrodAll enc C.prog W 0 (fun _ => true) true fn.params.toList args.toList ds ps →
      Calls C.prog f args W fun e w' => e = .returned (.bool true) ∧ Below W.heap.size W w') :
    ReturnsInHanded {} C os f .any (s.pre6 enc C.prog fn conds false) (s.post enc C.prog fn false true false false) := by
  refine returnsInHanded_of_change own started noInit hfn witness ?_
  intro W base args ds gs before hval hW _ _
  have hW' := hW
  obtain ⟨p, q, hA, hV, hpq, hfz, hnd⟩ := hW
  rw [hv] at hV
  obtain ⟨rfl, rfl⟩ := trodVars_none hV
  rw [List.append_nil] at hpq
  subst hpq
  have hlen : ds.length = fn.params.size := by
    have : ∀ {ts : List TypeId} {vs : List Value} {ds : List (DataW H)} {ps : List MemPlace}, DataW.TrodAll enc C.prog W 0 (fun _ => true) true ts vs ds ps → ds.length = ts.length := by
      intro ts
      induction ts with
      | nil => intro vs ds ps h; cases vs <;> cases ds <;> first | rfl | exact h.elim
      | cons t ts ih =>
        intro vs ds ps h
        cases vs with
        | nil => exact h.elim
        | cons v vs =>
          cases ds with
          | nil => exact h.elim
          | cons d ds =>
            obtain ⟨_, _, _, h2, _⟩ := h
            simp [ih h2]
    rw [this hA]; simp
  refine (call W base args ds before hval hA).mono fun e W' ⟨he, hb⟩ => ⟨_, he, ?_⟩
  have hs := hspec ds hlen
  refine post_of_below (pa := before) (pv := []) hW' (fun b sp hd => ?_) (fun sp hsp => ?_) (fun sp _ => ?_) (by simp) hb ?_
  · rw [List.append_nil, hs, hr]
    refine trodAll_mk1 ⟨1, ?_⟩
    simp [DataW.trod, htb, Value.cells]
  · rw [List.append_nil, hs]
    exact trodAll_below hl hb hc hA (fun x hx => hW'.lt x hx) sp hsp
  · rw [hv, List.append_nil, hs]
    rfl
  · exact ok_one hr rfl (okWide_bool_mk htb true)
end Go.VA

namespace Go.VA
open Go Go.RowKit Go.ChangeShapes Go.WideShapes Go.ChangeAt

section
variable {H : Type} {enc : TypeId × Value → H} {P : Program} {tb : TB} {w : World} {base : Nat} {spare : Nat → Bool} {held : Bool} {fuel : Nat} {t : TypeId} {cs : List Value} {x : DataW H × List MemPlace}

theorem cellsOf_tb (htb : TbOk P tb) (ho : (tb t).k.isOther = false) : P.cellsOf t = (tb t).sz := by
  obtain ⟨i, d, z, h1, h2, h3, h4, _⟩ := (htb t).ok ho
  unfold Program.cellsOf
  rw [h1]
  simpa using h4

theorem tr_int (htb : TbOk P tb) {k : IntKind} (hk : (tb t).k = .int k) (h : DataW.trod enc P w base spare held fuel t cs = some x) : ∃ n, cs = [.int k n] ∧ k.min ≤ n ∧ n ≤ k.max := by
  obtain ⟨d, h2, h3⟩ := (htb t).under (by rw [hk]; rfl)
  rw [hk] at h3
  simp only [TKok] at h3
  subst h3
  obtain ⟨n, h4, _, h5⟩ := DataW.trod_int h2 h
  simp only [Lit.wf, Bool.and_eq_true, decide_eq_true_eq] at h5
  exact ⟨n, h4, h5⟩

theorem tr_bool (htb : TbOk P tb) (hk : (tb t).k = .bool) (h : DataW.trod enc P w base spare held fuel t cs = some x) : ∃ b, cs = [.bool b] := by
  obtain ⟨d, h2, h3⟩ := (htb t).under (by rw [hk]; rfl)
  rw [hk] at h3
  simp only [TKok] at h3
  subst h3
  obtain ⟨n, h4, _⟩ := DataW.trod_bool h2 h
  exact ⟨n, h4⟩

theorem tr_str (htb : TbOk P tb) (hk : (tb t).k = .str) (h : DataW.trod enc P w base spare held fuel t cs = some x) : ∃ s : ByteArray, cs = [.string s] ∧ s.size ≤ maxLen := by
  obtain ⟨d, h2, h3⟩ := (htb t).under (by rw [hk]; rfl)
  rw [hk] at h3
  simp only [TKok] at h3
  subst h3
  obtain ⟨n, h4, _, h5⟩ := DataW.trod_string h2 h
  exact ⟨n, h4, h5⟩

theorem tr_struct (htb : TbOk P tb) {fs : List (Nat × Nat)} (hk : (tb t).k = .struct fs) (h : DataW.trod enc P w base spare held fuel t cs = some x) :
    cs.length = (tb t).sz ∧ ∃ m, fuel = m + 1 ∧ ∀ i o ty : Nat, fs[i]? = some (o, ty) → (tb ty).k.isOther = false → ∃ y, DataW.trod enc P w base spare held m ty ((cs.drop o).take (tb ty).sz) = some y := by
  obtain ⟨d, h2, h3⟩ := (htb t).under (by rw [hk]; rfl)
  have hsz := cellsOf_tb htb (t := t) (by rw [hk]; rfl)
  rw [hk] at h3
  simp only [TKok] at h3
  obtain ⟨f, rfl, hf⟩ := h3
  obtain ⟨xs, n, h4, _, h5, h6, h7⟩ := DataW.trod_struct h2 h
  refine ⟨by rw [h5, hsz], n, h4, fun i o ty hi ho => ?_⟩
  rw [← hf.1, List.getElem?_map, Option.map_eq_some_iff] at hi
  obtain ⟨g, k1, k2⟩ := hi
  rw [Array.getElem?_toList] at k1
  have := h7 i g k1
  simp only [Prod.mk.injEq] at k2
  rw [k2.1, k2.2, cellsOf_tb htb ho] at this
  have hlt : i < xs.length := by
    rw [h6]
    exact (Array.getElem?_eq_some_iff.1 k1).1
  rw [List.getElem?_eq_getElem hlt] at this
  exact ⟨_, this⟩

theorem tr_slice (htb : TbOk P tb) {e : TypeId} (hk : (tb t).k = .slice e) (he : (tb e).k.isOther = false) (h0 : 0 < (tb e).sz) (h : DataW.trod enc P w base spare held fuel t cs = some x) :
    ∃ a len cap m, cs = [.slice a len cap] ∧ fuel = m + 1 ∧ len ≤ cap ∧ cap ≤ maxLen ∧ (len = 0 ∨ ∃ b o, a = some ⟨b, o, none⟩ ∧ ∀ i, i < len → ∃ ce y, ce.length = (tb e).sz ∧ (∀ j, j < (tb e).sz → w.cell? ⟨b, o + i * (tb e).sz + j, none⟩ = ce[j]?) ∧
      DataW.trod enc P w base spare held m e ce = some y) := by
  obtain ⟨d, h2, h3⟩ := (htb t).under (by rw [hk]; rfl)
  have hsz := cellsOf_tb htb he
  rw [hk] at h3
  simp only [TKok] at h3
  subst h3
  rcases DataW.trod_slice h2 h with ⟨h4, _⟩ | ⟨a, len, cap, elems, rest, n, h4, h5, _, h6, h7, h8, h9, h10, _⟩
  · cases fuel with
    | zero => simp [DataW.trod] at h
    | succ m => exact ⟨none, 0, 0, m, h4, rfl, Nat.le_refl _, Nat.zero_le _, .inl rfl⟩
  · refine ⟨some a, len, cap, n, h5, h4, h7, h8, ?_⟩
    by_cases hl : len = 0
    · exact .inl hl
    · right
      have key : ∀ i, i < len → ∃ ce y, w.cells? base (a.add (i * (tb e).sz)) (tb e).sz = some ce ∧ DataW.trod enc P w base spare held n e ce = some y := by
        intro i hi
        have := h10 i hi
        rw [hsz] at this
        rw [List.getElem?_eq_getElem (by omega)] at this
        obtain ⟨ce, k1, k2⟩ := Option.bind_eq_some_iff.1 this
        exact ⟨ce, _, k1, k2⟩
      obtain ⟨b, o, spot⟩ := a
      obtain ⟨ce0, y0, k1, _⟩ := key 0 (by omega)
      obtain ⟨_, k3, k4⟩ := World.cells?_some k1
      have g0 := k4 0 h0
      rw [List.getElem?_eq_getElem (by omega)] at g0
      have hspot : spot = none := by simpa [Addr.add] using World.cell?_spot g0
      subst hspot
      refine ⟨b, o, rfl, fun i hi => ?_⟩
      obtain ⟨ce, y, k1, k2⟩ := key i hi
      obtain ⟨_, k3, k4⟩ := World.cells?_some k1
      refine ⟨ce, y, k3, fun j hj => ?_, k2⟩
      have := k4 j hj
      rw [← this]
      congr 1
      simp only [Addr.add]
      split <;> split <;> simp_all

theorem repCs_of_repVs {S : Rd} {R : Nat → Value → Prop} : ∀ {xs : List C} {us : List Value} {o : Nat}, RepVs S xs us → (∀ j u, us[j]? = some u → R (o + j) u) → RepCs S R o xs
  | [], us, o, _, _ => by simp [RepCs]
  | x :: xs, us, o, h, hR => by
    simp only [RepVs] at h
    obtain ⟨u, r, rfl, h1, h2⟩ := h
    simp only [RepCs]
    refine ⟨⟨u, hR 0 u rfl, h1⟩, repCs_of_repVs h2 fun j v hv => ?_⟩
    rw [Nat.add_assoc, Nat.add_comm 1 j]
    exact hR (j + 1) v (by simpa using hv)

/-- rows in memory -/
theorem repC_rows {S : Rd} {a : Option Addr} {len cap esz : Nat} {f : Nat → List C} {tg : Bool} (hc : len ≤ cap ∧ len ≤ 140737488355328)
    (h : len = 0 ∨ ∃ b o, a = some ⟨b, o, none⟩ ∧ ∀ i, i < len → ∃ ce : List Value, ce.length = esz ∧ (∀ j, j < esz → ∀ u, ce[j]? = some u → S tg b (o + i * esz + j) u) ∧ (f i).length = esz ∧ RepVs S (f i) ce) :
    RepC S (.sl tg esz len f) (.slice a len cap) := by
  simp only [RepC]
  refine ⟨a, cap, rfl, hc, ?_⟩
  rcases h with h | ⟨b, o, h1, h2⟩
  · exact .inl h
  · refine .inr ⟨b, o, h1, fun i hi => ?_⟩
    obtain ⟨ce, k1, k2, k3, k4⟩ := h2 i hi
    refine ⟨k3, repCs_of_repVs k4 fun j u hu => ?_⟩
    have := (List.getElem?_eq_some_iff.1 hu).1
    exact k2 j (by omega) u hu

theorem relV_agg {S : Rd} {B : List (Option BI)} {v : Value} {xs : List C} {arr : Array Value} (hv : v = .agg arr) (h : RepVs S xs arr.toList) : RelV B S (.ag xs) v := by
  simp only [RelV]
  exact ⟨arr, hv, h⟩
theorem repV_i {S : Rd} {k : IntKind} {n : Int} : RepC S (.v (.int k n)) (.int k n) := by simp [RepC, Value.oneCell']
theorem repV_b {S : Rd} {b : Bool} : RepC S (.v (.bool b)) (.bool b) := by simp [RepC, Value.oneCell']
theorem repV_s {S : Rd} {b : ByteArray} : RepC S (.v (.string b)) (.string b) := by simp [RepC, Value.oneCell']

/-- the value of an argument: its cells -/
theorem arg_agg (htb : TbOk P tb) (hk : (tb t).k.agg = true) {v : Value} {r : Reach} {b0 : Nat} (hval : Value.okWide P w r b0 t v) : ∃ arr, v = .agg arr ∧ v.cells.toList = arr.toList := by
  obtain ⟨d, h2, h3⟩ := (htb t).under (by cases h : (tb t).k <;> rw [h] at hk <;> simp_all [TK.agg, TK.isOther])
  cases h : (tb t).k <;> rw [h] at hk h3 <;> simp only [TK.agg, Bool.false_eq_true] at hk
  case struct fs =>
    simp only [TKok] at h3
    obtain ⟨f, rfl, _⟩ := h3
    obtain ⟨cs, rfl, _⟩ := okWide_struct h2 hval
    exact ⟨cs, rfl, rfl⟩
  case array n e =>
    simp only [TKok] at h3
    subst h3
    simp only [Value.okWide, h2] at hval
    obtain ⟨cs, rfl, _⟩ := hval
    exact ⟨cs, rfl, rfl⟩
end
end Go.VA
