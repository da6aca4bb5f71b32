/- An executor of the model over symbolic values, and the proof that what it shows of a function holds of every call: no condition. -/
import Derived.Test.YtkcbgdbfnajdaaaVB
import Derived.Laws.Strings
import Derived.ProofKit
import Derived.SizedLaws
set_option linter.unusedSimpArgs false
set_option linter.unusedVariables false
namespace Go.VA
open Go Go.RowKit
/-! ### plain laws of values -/
theorem eqs_refl (a : ByteArray) : eqs a a = true := by simp [eqs]
theorem eqSs_refl : ∀ l : List ByteArray, eqSs l l = true
  | [] => rfl
  | x :: r => by simp [eqSs, eqs_refl, eqSs_refl r]
theorem all2_refl {α : Type} {p : α → α → Bool} : ∀ {l : List α}, (∀ x ∈ l, p x x = true) → all2 p l l = true
  | [], _ => rfl
  | x :: r, h => by simp only [all2, Bool.and_eq_true]; exact ⟨h x (by simp), all2_refl fun y hy => h y (by simp [hy])⟩
theorem sameR_refl (v : V) : ∀ m, sameR v v m = true := by
  refine V.ind (p := fun v => ∀ m, sameR v v m = true) (fun v ih m => ?_) v
  rw [sameR_eq]
  simp [eqs_refl, eqSs_refl, all2_refl (p := fun x y => sameR x y m) fun x hx => ih x hx m]
theorem shr1 (i : Int) : (shrI .i64 i 1 == 0) = (i == 0 || i == 1) := by
  rw [Bool.eq_iff_iff]
  have h : shrI .i64 i 1 = i / 2 := by
    unfold shrI
    have : min ((1 : Int)).toNat IntKind.i64.bits = 1 := by decide
    rw [this]
    exact (Int.fdiv_eq_ediv_of_nonneg i (by decide))
  simp only [beq_iff_eq, Bool.or_eq_true, h]
  omega
theorem keysOk_nil (ks : List ByteArray) (c : Nat) : keysOk ks [] c = true := rfl
theorem empty_of_len {α : Type} {l : List α} (h : (l.length : Int) = 0) : l = [] := by
  cases l with
  | nil => rfl
  | cons x r => simp at h; omega
theorem wrap_small {d : Int} (h0 : 0 ≤ d) (h8 : d ≤ 8) : IntKind.i64.wrap (d - 1) = d - 1 := wrap64 (by omega) (by omega)
theorem eqs_emp (s : ByteArray) : eqs s ByteArray.empty = (s.toList == ({ data := #[] } : ByteArray).toList) := rfl
theorem eqSs_emp (l : List ByteArray) : eqSs l [] = decide (l.length = 0) := by cases l <;> simp [eqSs]
/-- right shapes, by both texts -/
theorem shaped_law (v : V) (d : Int) (h1 : 1 ≤ d) :
    shaped v = (!chk1 v d && !chk2 v && !chk3 v && !chk4 v && !chk5 v && !chk6 v && keysOk v.ks v.ks 0) := by
  by_cases hk : v.k < 0 ∨ v.k > 6
  · have e1 : chk1 v d = true := by unfold chk1; simp; omega
    have e2 : shaped v = false := by
      unfold shaped
      rw [if_pos (by simp; omega)]
    rw [e1, e2]; rfl
  · have hd : chk1 v d = false := by unfold chk1; simp; omega
    have hr : v.k = 0 ∨ v.k = 1 ∨ v.k = 2 ∨ v.k = 3 ∨ v.k = 4 ∨ v.k = 5 ∨ v.k = 6 := by omega
    have kb : (decide (v.k < 0) || decide (v.k > 6)) = false := by simp; omega
    have hks : v.ks = [] → keysOk v.ks v.ks 0 = true := fun e => by rw [e]; rfl
    rw [hd]
    unfold shaped
    rw [kb]
    unfold flat chk2 chk3 chk4 chk5 chk6 errc
    rw [only_k, only_i, only_s, only_l, only_ks, only_tk, only_to, only_sec, ← chkR_eq]
    have e0 : v.t = (v.tk, v.to) := rfl
    obtain ⟨k, i, s, l, ks, tk, to, sec⟩ := v
    simp only [V.k, V.i, V.s, V.l, V.ks, V.tk, V.to, V.sec] at *
    rcases hr with rfl | rfl | rfl | rfl | rfl | rfl | rfl
    all_goals
      rw [Bool.eq_iff_iff]
      simp [eqs_refl, eqSs_refl, eqs_emp, eqSs_emp, shr1, e0]
      try (by_cases hl : l = [] <;> by_cases hq : ks = [] <;> simp [hl, hq, keysOk_nil, List.length_pos_iff])
      all_goals try grind
theorem all_congr' {α : Type} {p q : α → Bool} : ∀ {l : List α}, (∀ x ∈ l, p x = q x) → l.all p = l.all q
  | [], _ => rfl
  | x :: r, h => by simp only [List.all_cons]; rw [h x (by simp), all_congr' fun y hy => h y (by simp [hy])]
theorem allV_check (v : V) : ∀ d : Int, 0 ≤ d → d ≤ 8 → allV v d = checkRV v d := by
  refine V.ind (p := fun v => ∀ d : Int, 0 ≤ d → d ≤ 8 → allV v d = checkRV v d) (fun v ih d h0 h8 => ?_) v
  rw [allV_eq, checkRV_eq]
  by_cases hd : d = 0
  · subst hd; simp [chk1]
  · rw [shaped_law v d (by omega), all_congr' fun x hx => ih x hx (IntKind.i64.wrap (d - 1)) (by rw [wrap_small h0 h8]; omega) (by rw [wrap_small h0 h8]; omega)]
    have : (d == 0) = false := by simpa using hd
    rw [this]
    cases chk1 v d <;> cases chk2 v <;> cases chk3 v <;> cases chk4 v <;> cases chk5 v <;> cases chk6 v <;> cases keysOk v.ks v.ks 0 <;> rfl
theorem check_law (v : V) : (checkV v == 0) = checkR v := by
  unfold checkV checkR
  rw [allV_check v 8 (by decide) (by decide)]
  cases h : checkRV v 8 <;> by_cases hw : weight v > 512 <;> simp [hw] <;> omega
theorem check_01 (v : V) : (checkV v == 0 || checkV v == 1) = true := by
  unfold checkV; split <;> rfl
theorem eqs_iff {a b : ByteArray} : eqs a b = true ↔ a = b := by
  unfold eqs
  rw [beq_iff_eq]
  refine ⟨fun h => ?_, fun h => by rw [h]⟩
  rw [ByteArray.toList_eq, ByteArray.toList_eq] at h
  cases a; cases b
  simp at h
  simpa using h
theorem eqSs_iff : ∀ {a b : List ByteArray}, eqSs a b = true ↔ a = b
  | [], [] => by simp [eqSs]
  | [], _ :: _ => by simp [eqSs]
  | _ :: _, [] => by simp [eqSs]
  | x :: r, y :: s => by simp only [eqSs, Bool.and_eq_true, eqs_iff, eqSs_iff, List.cons.injEq]
theorem all2_iff {α : Type} {p : α → α → Bool} : ∀ {l m : List α}, all2 p l m = true ↔ l.length = m.length ∧ ∀ (i : Nat) (x y : α), l[i]? = some x → m[i]? = some y → p x y = true
  | [], [] => by simp [all2]
  | [], _ :: _ => by simp [all2]
  | _ :: _, [] => by simp [all2]
  | x :: r, y :: s => by
    simp only [all2, Bool.and_eq_true, all2_iff, List.length_cons]
    constructor
    · rintro ⟨h1, h2, h3⟩
      refine ⟨by omega, fun i a b ha hb => ?_⟩
      cases i with
      | zero => simp at ha hb; subst ha; subst hb; exact h1
      | succ i => exact h3 i a b (by simpa using ha) (by simpa using hb)
    · rintro ⟨h1, h2⟩
      exact ⟨h2 0 x y rfl rfl, by omega, fun i a b ha hb => h2 (i + 1) a b (by simpa using ha) (by simpa using hb)⟩
/-! ### values that may be -/
def Ok (v : V) : Prop := ∃ d, checkRV v d = true
theorem ok_of {v : V} (h : checkR v = true) : Ok v := by
  unfold checkR at h
  simp only [Bool.and_eq_true] at h
  exact ⟨8, h.1⟩
structure Okf (v : V) : Prop where
  k0 : 0 ≤ v.k
  k6 : v.k ≤ 6
  i : v.k ≠ 1 → v.k ≠ 2 → v.i = 0
  s : v.k ≠ 3 → v.s = ByteArray.empty
  t : v.k ≠ 6 → v.tk = 0 ∧ v.to = 0
  t6 : v.k = 6 → chk v.t = true
  l : v.k ≠ 4 → v.k ≠ 5 → v.l = []
  ks : v.k ≠ 5 → v.ks = []
  ks5 : v.k = 5 → v.ks.length = v.l.length
  ok : ∀ x ∈ v.l, Ok x
theorem Ok.f {v : V} (h : Ok v) : Okf v := by
  obtain ⟨d, h⟩ := h
  rw [checkRV_eq] at h
  by_cases h1 : chk1 v d = true
  · simp [h1] at h
  by_cases h2 : chk2 v = true
  · simp [h1, h2] at h
  by_cases h3 : chk3 v = true
  · simp [h1, h2, h3] at h
  by_cases h4 : chk4 v = true
  · simp [h1, h2, h3, h4] at h
  by_cases h5 : chk5 v = true
  · simp [h1, h2, h3, h4, h5] at h
  by_cases h6 : chk6 v = true
  · simp [h1, h2, h3, h4, h5, h6] at h
  by_cases h7 : keysOk v.ks v.ks 0 = true
  · simp only [h1, h2, h3, h4, h5, h6, h7] at h
    simp only [chk1, Bool.or_eq_true, decide_eq_true_eq, not_or] at h1
    refine ⟨by omega, by omega, fun a b => ?_, fun a => ?_, fun a => ?_, fun a => ?_, fun a b => ?_, fun a => ?_, fun a => ?_, fun x hx => ⟨_, List.all_eq_true.1 h x hx⟩⟩
    · simp [chk2] at h2
      exact h2.1 a b
    · have := (by simpa [chk3] using h3 : (¬v.k = 3 → v.s.toList = []) ∧ _).1 a
      exact eqs_iff.1 (by rw [eqs_emp, this]; simp)
    · simp [chk4] at h4
      exact h4.1 a
    · simp [chk4] at h4
      rw [← chkR_eq]; exact h4.2 a
    · simp [chk5] at h5
      exact h5.1 a b
    · simp [chk6] at h6
      exact h6.1 a
    · simp [chk6] at h6
      have := h6.2 a
      omega
  · simp [h1, h2, h3, h4, h5, h6, h7] at h
theorem Okf.items {v : V} (h : Okf v) : items v = v.l ∧ nIt v = v.l.length := by
  have : nIt v = v.l.length := by
    unfold nIt nPairs
    split
    · rfl
    · split
      · rename_i h5; have := h.ks5 (by simpa using h5); omega
      · rename_i h4 h5; rw [h.l (by simpa using h4) (by simpa using h5)]; rfl
  exact ⟨by unfold VA.items; rw [this, List.take_length], this⟩
theorem Okf.keys {v : V} (h : Okf v) : keys v = v.ks := by
  unfold VA.keys nKs nPairs
  split
  · rename_i h5; rw [h.ks (by simpa using h5)]; rfl
  · rename_i h5; have := h.ks5 (by simpa using h5); rw [List.take_of_length_le (by omega)]
theorem Okf.only {v : V} (h : Okf v) : only v = v := by
  have e := V.eta v
  unfold VA.only
  have h1 := h.i; have h2 := h.s; have h3 := h.t; have h4 := h.l; have h5 := h.ks
  have a1 : (if v.k == 1 || v.k == 2 then v.i else 0) = v.i := by
    split
    · rfl
    · rename_i g; simp at g; rw [h1 g.1 g.2]
  have a2 : (if v.k == 3 then v.s else ByteArray.empty) = v.s := by
    split
    · rfl
    · rename_i g; rw [h2 (by simpa using g)]
  have a3 : (if v.k == 5 || v.k == 4 then v.l else []) = v.l := by
    split
    · rfl
    · rename_i g; simp at g; rw [h4 g.2 g.1]
  have a4 : (if v.k == 5 then v.ks else []) = v.ks := by
    split
    · rfl
    · rename_i g; rw [h5 (by simpa using g)]
  have a5 : (if v.k == 6 then v.tk else 0) = v.tk := by
    split
    · rfl
    · rename_i g; rw [(h3 (by simpa using g)).1]
  have a6 : (if v.k == 6 then v.to else 0) = v.to := by
    split
    · rfl
    · rename_i g; rw [(h3 (by simpa using g)).2]
  rw [a1, a2, a3, a4, a5, a6, e]
end Go.VA

namespace Go.VA
open Go Go.RowKit
/-! ### to refine -/
theorem errc_ne (t : Ty) : (errc t != 0) = !chk t := by unfold errc; split <;> simp_all
theorem wi_chk {a b : Ty} (h : wi a b = true) : chk a = true ∧ chk b = true := by
  simp only [wi, errc_ne] at h
  cases ha : chk a <;> cases hb : chk b <;> simp_all
theorem wi_eq (a b : Ty) : wi a b = wiR a b := by
  by_cases ha : chk a = true
  · by_cases hb : chk b = true
    · have : ∀ a ∈ tys, ∀ b ∈ tys, wi a b = wiR a b := by decide +kernel
      exact this a (chk_mem ha) b (chk_mem hb)
    · have hb : chk b = false := by simpa using hb
      simp [wi, wiR, chkR_eq, errc, hb]
  · have ha : chk a = false := by simpa using ha
    simp [wi, wiR, chkR_eq, errc, ha]
theorem fits_R (v : V) : ∀ t, fits v t = fitsR v t := by
  refine V.ind (p := fun v => ∀ t, fits v t = fitsR v t) (fun v ih t => ?_) v
  rw [fits_eq, fitsR_eq, errc_ne, chkR_eq, wi_eq]
  have : (!((items v).any fun x => !(fits x (t.2, 0)))) = (items v).all fun x => fitsR x (t.2, 0) := by
    rw [List.not_any_eq_all_not]
    exact all_congr' fun x hx => by rw [ih x (items_mem hx)]; simp
  rw [this]
theorem refL_eq : ∀ (rs : List (V → Bool)) (ys : List V) (ks ks' : List ByteArray), rs.length = ys.length → ks.length = ks'.length → (ks = [] ∨ ks.length = rs.length) →
    refL ks ks' rs ys = (eqSs ks ks' && all2 (fun r y => r y) rs ys)
  | [], [], [], [], _, _, _ => rfl
  | [], [], k :: ks, ks', _, _, h => by simp at h
  | r :: rs, y :: ys, [], [], h, _, _ => by
    have e := refL_eq rs ys [] [] (by simpa using h) rfl (.inl rfl)
    simp only [refL, e, eqSs, all2]
    cases r y <;> rfl
  | r :: rs, y :: ys, k :: ks, k' :: ks', h, h2, h3 => by
    have h3' : ks.length = rs.length := by simpa using h3
    have e := refL_eq rs ys ks ks' (by simpa using h) (by simpa using h2) (.inr h3')
    simp only [refL, e, eqSs, all2]
    cases r y <;> cases eqs k k' <;> simp
theorem refines_R (a : V) : ∀ b, refines a b = refinesR a b := by
  refine V.ind (p := fun a => ∀ b, refines a b = refinesR a b) (fun a ih b => ?_) a
  rw [refines_eq, refinesR_eq, fits_R]
  have e2 : all2 refines (items a) (items b) = all2 (fun r y => r y) ((items a).map refinesR) (items b) := by
    rw [all2_map]
    have : ∀ (l m : List V), (∀ x ∈ l, ∀ y, refines x y = refinesR x y) → all2 refines l m = all2 (fun x y => refinesR x y) l m := by
      intro l
      induction l with
      | nil => intro m h; cases m <;> rfl
      | cons x r ih2 =>
        intro m h
        cases m with
        | nil => rfl
        | cons y s => simp only [all2]; rw [h x (by simp), ih2 s fun z hz => h z (by simp [hz])]
    exact this _ _ fun x hx => ih x (items_mem hx)
  by_cases h6 : b.k == 6
  · simp [h6]
  · simp only [h6]
    by_cases hk : a.k = b.k
    · by_cases hn : nIt a = nIt b
      · have kl : (keys a).length = (keys b).length := by
          rw [keys_len, keys_len]
          by_cases h5 : a.k = 5
          · rw [nKs_5 h5, nKs_5 (hk ▸ h5), hn]
          · simp [nKs, hk ▸ h5, h5]
        have kl2 : keys a = [] ∨ (keys a).length = ((items a).map refinesR).length := by
          by_cases h5 : a.k = 5
          · right; rw [keys_len, nKs_5 h5]; simp [items_len]
          · left; simp [keys, nKs, h5]
        rw [refL_eq _ _ _ _ (by simp [items_len, hn]) kl kl2, e2]
        simp only [hn]
        cases eqSs (keys a) (keys b) <;> simp
      · have e1 : all2 refines (items a) (items b) = false := all2_len (by rw [items_len, items_len]; exact hn)
        have : ((nIt a : Int) != nIt b) = true := by simp; omega
        rw [e1, this]
        simp
    · have : (a.k != b.k) = true := by simpa using hk
      simp [this]
/-! #### itself, and what is unknown of its type -/
theorem wi_refl {t : Ty} (h : chk t = true) : wi t t = true := by simp [wi, errc_ne, h]
theorem fits_eq' (v : V) (t : Ty) : fits v t = (chk t && (t.1 == 0 || v.k == 0 || if v.k == 6 then wi v.t t else v.k == t.1 && (items v).all fun x => fits x (t.2, 0))) := by
  rw [fits_eq, errc_ne]
  have : (!((items v).any fun x => !(fits x (t.2, 0)))) = (items v).all fun x => fits x (t.2, 0) := by
    rw [List.not_any_eq_all_not]
    exact all_congr' fun x hx => by simp
  rw [this]
  by_cases h1 : chk t = true
  · simp only [h1]
    by_cases h2 : (t.1 == 0 || v.k == 0) = true
    · simp [h2]
    · simp only [h2]
      by_cases h3 : v.k == 6
      · simp [h3]
      · by_cases h4 : v.k = t.1 <;> simp [h3, h4]
  · simp [h1]
theorem refines_eq' (a b : V) : refines a b = if b.k == 6 then fits a b.t else (a.k == b.k && a.i == b.i && eqs a.s b.s && eqSs (keys a) (keys b) && all2 refines (items a) (items b)) := by
  rw [refines_eq]
  by_cases h6 : b.k == 6
  · simp [h6]
  · simp only [h6]
    by_cases h1 : a.k = b.k <;> by_cases h2 : a.i = b.i <;> by_cases h3 : eqs a.s b.s = true <;> by_cases h4 : eqSs (keys a) (keys b) = true <;> simp [h1, h2, h3, h4]
theorem fits_00 (v : V) : fits v (0, 0) = true := by rw [fits_eq']; simp; decide
theorem refines_self (v : V) (h : Ok v) : refines v v = true := by
  revert h
  refine V.ind (p := fun v => Ok v → refines v v = true) (fun v ih h => ?_) v
  have f := h.f
  rw [refines_eq']
  split
  · rename_i h6
    have h6 : v.k = 6 := by simpa using h6
    rw [fits_eq', f.t6 h6, h6]
    simp [wi_refl (f.t6 h6)]
  · simp [eqs_refl, eqSs_refl, all2_refl (p := refines) fun x hx => ih x (items_mem hx) (f.ok x (items_mem hx))]
theorem jo_cases (a b : Ty) : jo a b = (0, 0) ∨ (chk a = true ∧ chk b = true ∧ a.1 = b.1 ∧ (jo a b).1 = a.1 ∧ chk (jo a b) = true) := by
  by_cases ha : chk a = true
  · by_cases hb : chk b = true
    · have : ∀ a ∈ tys, ∀ b ∈ tys, (jo a b == (0, 0) || (a.1 == b.1 && (jo a b).1 == a.1 && chk (jo a b))) = true := by decide +kernel
      have := this a (chk_mem ha) b (chk_mem hb)
      simp only [Bool.or_eq_true, Bool.and_eq_true, beq_iff_eq] at this
      rcases this with h | ⟨⟨h1, h2⟩, h3⟩
      · exact .inl h
      · exact .inr ⟨ha, hb, h1, h2, h3⟩
    · left; simp [jo, errc, hb]
  · left; simp [jo, errc, ha]
theorem jo_0 (b : Ty) : (jo (0, 0) b).1 = 0 := by
  rcases jo_cases (0, 0) b with h | ⟨_, _, _, h, _⟩ <;> rw [h]
theorem fold_jo : ∀ (r : List Ty) (t : Ty), (r.foldl jo t).1 = 0 ∨ ((r.foldl jo t).1 = t.1 ∧ ∀ s ∈ r, chk s = true ∧ s.1 = t.1)
  | [], t => .inr ⟨rfl, by simp⟩
  | s :: r, t => by
    simp only [List.foldl_cons]
    rcases jo_cases t s with h | ⟨_, h2, h3, h4, _⟩
    · left
      rw [h]
      rcases fold_jo r (0, 0) with h5 | ⟨h5, _⟩ <;> exact h5
    · rcases fold_jo r (jo t s) with h5 | ⟨h5, h6⟩
      · exact .inl h5
      · refine .inr ⟨by rw [h5, h4], fun x hx => ?_⟩
        rcases List.mem_cons.1 hx with rfl | hx
        · exact ⟨h2, h3.symm⟩
        · have := h6 x hx; exact ⟨this.1, by rw [this.2, h4]⟩
/-- each one of a list fits the list's Of -/
theorem common_fits {l : List V} (h : ∀ x ∈ l, chk (typeOf x) = true ∧ fits x (typeOf x) = true) :
    (0 ≤ commonT (l.map typeOf) ∧ commonT (l.map typeOf) ≤ 3) ∧ ∀ x ∈ l, fits x (commonT (l.map typeOf), 0) = true := by
  cases l with
  | nil => simp [commonT]
  | cons x r =>
    simp only [List.map_cons, commonT]
    have hx := h x (by simp)
    have key := fold_jo (r.map typeOf) (typeOf x)
    generalize he : (r.map typeOf).foldl jo (typeOf x) = j at *
    have k0 : ∀ t : Ty, chk t = true → 0 ≤ t.1 ∧ (t.1 ≤ 3 → t.2 = 0) := by
      intro t ht
      have : ∀ t ∈ tys, (decide (0 ≤ t.1) && (!decide (t.1 ≤ 3) || t.2 == 0)) = true := by decide +kernel
      have := this t (chk_mem ht)
      simp at this
      refine ⟨this.1, fun h => ?_⟩
      rcases this.2 with h2 | h2 <;> omega
    rcases key with h0 | ⟨h1, h2⟩
    · have : (if decide (j.1 > 3) = true then 0 else j.1) = 0 := by rw [h0]; decide
      rw [this]
      exact ⟨by decide, fun y _ => fits_00 y⟩
    · by_cases h3 : j.1 > 3
      · rw [if_pos (by simpa using h3)]
        exact ⟨by decide, fun y _ => fits_00 y⟩
      · rw [if_neg (by simpa using h3)]
        have q := k0 _ hx.1
        refine ⟨by omega, fun y hy => ?_⟩
        have hy' : chk (typeOf y) = true ∧ (typeOf y).1 = (typeOf x).1 := by
          rcases List.mem_cons.1 hy with rfl | hy
          · exact ⟨hx.1, rfl⟩
          · exact h2 _ (List.mem_map.2 ⟨y, hy, rfl⟩)
        have q2 := k0 _ hy'.1
        have : typeOf y = (j.1, 0) := Prod.ext (by rw [hy'.2, h1]) (q2.2 (by omega))
        rw [← this]
        exact (h y hy).2
theorem chk_4 {c : Int} (h0 : 0 ≤ c) (h3 : c ≤ 3) : chk (4, c) = true ∧ chk (5, c) = true := by
  have : c = 0 ∨ c = 1 ∨ c = 2 ∨ c = 3 := by omega
  rcases this with rfl | rfl | rfl | rfl <;> decide
theorem fits_type (v : V) (h : Ok v) : chk (typeOf v) = true ∧ fits v (typeOf v) = true := by
  revert h
  refine V.ind (p := fun v => Ok v → chk (typeOf v) = true ∧ fits v (typeOf v) = true) (fun v ih h => ?_) v
  have f := h.f
  have g := f.items
  have ih' : ∀ x ∈ v.l, chk (typeOf x) = true ∧ fits x (typeOf x) = true := fun x hx => ih x hx (f.ok x hx)
  have c := common_fits ih'
  have c4 := chk_4 c.1.1 c.1.2
  have hr : v.k = 0 ∨ v.k = 1 ∨ v.k = 2 ∨ v.k = 3 ∨ v.k = 4 ∨ v.k = 5 ∨ v.k = 6 := by have := f.k0; have := f.k6; omega
  rw [fits_eq', typeOf_eq, g.1]
  rcases hr with e | e | e | e | e | e | e
  · simp only [e]; simp; decide
  · simp only [e]; simp [f.l (by omega) (by omega)]; decide
  · simp only [e]; simp [f.l (by omega) (by omega)]; decide
  · simp only [e]; simp [f.l (by omega) (by omega)]; decide
  · simp only [e]; simp [c4]; exact c.2
  · simp only [e]; simp [c4]; exact c.2
  · simp only [e]; simp [f.t6 e, wi_refl]
end Go.VA

namespace Go.VA
open Go Go.RowKit
/-! ### to refine is an order -/
theorem chk_0 {t : Ty} (h : chk t = true) (h0 : t.1 = 0) : t = (0, 0) := by
  have : ∀ t ∈ tys, (!(t.1 == 0) || t == (0, 0)) = true := by decide +kernel
  have := this t (chk_mem h)
  simpa [h0] using this
theorem wi_trans {a b c : Ty} (h : wi a b = true) (h2 : wi b c = true) : wi a c = true := by
  have : ∀ a ∈ tys, ∀ b ∈ tys, ∀ c ∈ tys, (!(wi a b && wi b c) || wi a c) = true := by decide +kernel
  have := this a (chk_mem (wi_chk h).1) b (chk_mem (wi_chk h).2) c (chk_mem (wi_chk h2).2)
  simpa [h, h2] using this
theorem wi_anti {a b : Ty} (h : wi a b = true) (h2 : wi b a = true) : a = b := by
  have : ∀ a ∈ tys, ∀ b ∈ tys, (!(wi a b && wi b a) || a == b) = true := by decide +kernel
  have := this a (chk_mem (wi_chk h).1) b (chk_mem (wi_chk h).2)
  simpa [h, h2] using this
theorem wi_form {a b : Ty} (h : wi a b = true) : b = (0, 0) ∨ a = b ∨ (a.1 = b.1 ∧ b.2 = 0) := by
  have h0 := wi_chk h
  simp only [wi, errc_ne, h0.1, h0.2] at h
  simp only [Bool.not_true, Bool.or_self, Bool.false_eq_true, if_false, Bool.or_eq_true, Bool.and_eq_true, beq_iff_eq] at h
  rcases h with (h | h) | h
  · exact .inl (Prod.ext h.1 h.2)
  · exact .inr (.inl (Prod.ext h.1 h.2))
  · exact .inr (.inr h)
theorem fits_wi {v : V} {s t : Ty} (h : fits v s = true) (h2 : wi s t = true) : fits v t = true := by
  have hc := (wi_chk h2).2
  rcases wi_form h2 with e | e | ⟨e1, e2⟩
  · rw [e]; exact fits_00 v
  · rw [← e]; exact h
  · rw [fits_eq'] at h ⊢
    rw [hc]
    simp only [Bool.true_and, Bool.and_eq_true] at h ⊢
    obtain ⟨_, h⟩ := h
    rw [← e1]
    rcases Bool.or_eq_true _ _ ▸ h with h | h
    · rw [h]; rfl
    · split at h
      · rename_i h6
        rw [if_pos h6, wi_trans h h2]; simp
      · rename_i h6
        rw [if_neg h6]
        simp only [Bool.and_eq_true] at h
        rw [h.1, e2]
        simp only [Bool.true_and, Bool.or_eq_true, List.all_eq_true]
        exact .inr fun x _ => fits_00 x
theorem fits_v {v : V} {t : Ty} : fits v t = true ↔ chk t = true ∧ (t.1 = 0 ∨ v.k = 0 ∨ (v.k = 6 ∧ wi v.t t = true) ∨ (v.k ≠ 6 ∧ v.k = t.1 ∧ ∀ x ∈ items v, fits x (t.2, 0) = true)) := by
  rw [fits_eq']
  simp only [Bool.and_eq_true, Bool.or_eq_true, beq_iff_eq]
  by_cases h6 : v.k = 6
  · simp [h6, or_assoc]
  · simp [h6, or_assoc]
theorem refines_v {a b : V} (h : b.k ≠ 6) : refines a b = true ↔ a.k = b.k ∧ a.i = b.i ∧ a.s = b.s ∧ keys a = keys b ∧ all2 refines (items a) (items b) = true := by
  rw [refines_eq']
  have : (b.k == 6) = false := by simpa using h
  rw [this]
  simp only [Bool.false_eq_true, if_false, Bool.and_eq_true, beq_iff_eq, eqs_iff, eqSs_iff, and_assoc]
theorem refines_6 {a b : V} (h : b.k = 6) : refines a b = fits a b.t := by rw [refines_eq', h]; rfl
theorem all2_fits {l m : List V} {t : Ty} (ih : ∀ x ∈ l, ∀ y t, refines x y = true → fits y t = true → fits x t = true) (h : all2 refines l m = true) (h2 : ∀ y ∈ m, fits y t = true) : ∀ x ∈ l, fits x t = true := by
  intro x hx
  obtain ⟨hl, h⟩ := all2_iff.1 h
  obtain ⟨i, hi, rfl⟩ := List.mem_iff_getElem.1 hx
  exact ih _ hx _ t (h i l[i] (m[i]'(by omega)) (List.getElem?_eq_getElem hi) (List.getElem?_eq_getElem (by omega))) (h2 _ (List.getElem_mem _))
theorem refines_fits (a : V) : ∀ b t, refines a b = true → fits b t = true → fits a t = true := by
  refine V.ind (p := fun a => ∀ b t, refines a b = true → fits b t = true → fits a t = true) (fun a ih b t h h2 => ?_) a
  by_cases h6 : b.k = 6
  · rw [refines_6 h6] at h
    obtain ⟨c, h2⟩ := fits_v.1 h2
    rcases h2 with h0 | h0 | ⟨_, hw⟩ | ⟨h0, _⟩
    · rw [chk_0 c h0]; exact fits_00 a
    · omega
    · exact fits_wi h hw
    · exact absurd h6 h0
  · obtain ⟨e1, e2, e3, e4, e5⟩ := (refines_v h6).1 h
    obtain ⟨c, h2⟩ := fits_v.1 h2
    refine fits_v.2 ⟨c, ?_⟩
    rcases h2 with h0 | h0 | ⟨h0, _⟩ | ⟨_, h3, h4⟩
    · exact .inl h0
    · exact .inr (.inl (by omega))
    · exact absurd h0 h6
    · exact .inr (.inr (.inr ⟨by omega, by omega, all2_fits (fun x hx => ih x (items_mem hx)) e5 h4⟩))
theorem all2_trans {l m n : List V} (ih : ∀ x ∈ l, ∀ y z, refines x y = true → refines y z = true → refines x z = true) (h : all2 refines l m = true) (h2 : all2 refines m n = true) : all2 refines l n = true := by
  obtain ⟨h0, h⟩ := all2_iff.1 h
  obtain ⟨h1, h2⟩ := all2_iff.1 h2
  refine all2_iff.2 ⟨by omega, fun i x z hx hz => ?_⟩
  have hi := (List.getElem?_eq_some_iff.1 hx).1
  exact ih x (List.mem_of_getElem? hx) _ _ (h i x (m[i]'(by omega)) hx (List.getElem?_eq_getElem (by omega))) (h2 i _ z (List.getElem?_eq_getElem (by omega)) hz)
theorem refines_trans (a : V) : ∀ b c, refines a b = true → refines b c = true → refines a c = true := by
  refine V.ind (p := fun a => ∀ b c, refines a b = true → refines b c = true → refines a c = true) (fun a ih b c h h2 => ?_) a
  by_cases h6 : c.k = 6
  · rw [refines_6 h6] at h2 ⊢
    exact refines_fits a b _ h h2
  · obtain ⟨f1, f2, f3, f4, f5⟩ := (refines_v h6).1 h2
    obtain ⟨e1, e2, e3, e4, e5⟩ := (refines_v (a := a) (b := b) (by omega)).1 h
    exact (refines_v h6).2 ⟨by omega, by omega, e3.trans f3, e4.trans f4, all2_trans (fun x hx => ih x (items_mem hx)) e5 f5⟩
theorem like_v {a b : V} : like a b = true ↔ (a.k = b.k ∧ a.i = b.i ∧ a.s = b.s ∧ a.tk = b.tk ∧ a.to = b.to ∧ a.l.length = b.l.length ∧ a.ks = b.ks) ∧ all2 like a.l b.l = true := by
  have u : ∀ v : V, (unsec v).k = v.k ∧ (unsec v).i = v.i ∧ (unsec v).s = v.s ∧ (unsec v).l = v.l ∧ (unsec v).ks = v.ks ∧ (unsec v).tk = v.tk ∧ (unsec v).to = v.to ∧ (unsec v).sec = false := fun v => ⟨rfl, rfl, rfl, rfl, rfl, rfl, rfl, rfl⟩
  rw [like_eq]
  unfold flat
  obtain ⟨a1, a2, a3, a4, a5, a6, a7, a8⟩ := u a
  obtain ⟨b1, b2, b3, b4, b5, b6, b7, b8⟩ := u b
  rw [a1, a2, a3, a4, a5, a6, a7, a8, b1, b2, b3, b4, b5, b6, b7, b8]
  simp only [Bool.and_eq_true, beq_iff_eq, eqs_iff, eqSs_iff, and_assoc, Int.natCast_inj, true_and]
theorem Okf.like6 {a b : V} (fa : Okf a) (fb : Okf b) (ha : a.k = 6) (hb : b.k = 6) (ht : a.t = b.t) : like a b = true := by
  have e := fun v (f : Okf v) (h : v.k = 6) => (⟨f.i (by omega) (by omega), f.s (by omega), f.l (by omega) (by omega), f.ks (by omega)⟩ : v.i = 0 ∧ v.s = ByteArray.empty ∧ v.l = [] ∧ v.ks = [])
  obtain ⟨a1, a2, a3, a4⟩ := e a fa ha
  obtain ⟨b1, b2, b3, b4⟩ := e b fb hb
  refine like_v.2 ⟨⟨by omega, by omega, by rw [a2, b2], congrArg Prod.fst ht, congrArg Prod.snd ht, by rw [a3, b3], by rw [a4, b4]⟩, by rw [a3, b3]; rfl⟩
/-- of the same kind, number, text, keys, and elements alike -/
theorem Okf.like {a b : V} (fa : Okf a) (fb : Okf b) (h6 : b.k ≠ 6) (h : a.k = b.k ∧ a.i = b.i ∧ a.s = b.s ∧ VA.keys a = VA.keys b ∧ all2 VA.like (VA.items a) (VA.items b) = true) : VA.like a b = true := by
  obtain ⟨e1, e2, e3, e4, e5⟩ := h
  rw [fa.items.1, fb.items.1] at e5
  rw [fa.keys, fb.keys] at e4
  have ta := fa.t (by omega)
  have tb := fb.t h6
  exact like_v.2 ⟨⟨e1, e2, e3, by omega, by omega, (all2_iff.1 e5).1, e4⟩, e5⟩
theorem refines_both (a : V) : ∀ b, Ok a → Ok b → refines a b = true → refines b a = true → like a b = true := by
  refine V.ind (p := fun a => ∀ b, Ok a → Ok b → refines a b = true → refines b a = true → like a b = true) (fun a ih b oa ob h h2 => ?_) a
  have fa := oa.f
  have fb := ob.f
  by_cases h6 : b.k = 6
  · by_cases ha : a.k = 6
    · rw [refines_6 h6] at h
      rw [refines_6 ha] at h2
      have key : ∀ {x y : V}, Okf x → Okf y → x.k = 6 → y.k = 6 → fits x y.t = true → wi x.t y.t = true := by
        intro x y fx fy hx hy hf
        obtain ⟨c, q⟩ := fits_v.1 hf
        rcases q with h0 | h0 | ⟨_, hw⟩ | ⟨h0, _⟩
        · rw [chk_0 c h0]; simp [wi, errc_ne, fx.t6 hx]; decide
        · omega
        · exact hw
        · exact absurd hx h0
      exact fa.like6 fb ha h6 (wi_anti (key fa fb ha h6 h) (key fb fa h6 ha h2))
    · obtain ⟨e1, _⟩ := (refines_v ha).1 h2
      omega
  · obtain ⟨e1, e2, e3, e4, e5⟩ := (refines_v h6).1 h
    obtain ⟨_, _, _, _, g5⟩ := (refines_v (a := b) (b := a) (by omega)).1 h2
    refine fa.like fb h6 ⟨e1, e2, e3, e4, ?_⟩
    obtain ⟨l5, e5⟩ := all2_iff.1 e5
    obtain ⟨_, g5⟩ := all2_iff.1 g5
    refine all2_iff.2 ⟨l5, fun i x y hx hy => ?_⟩
    exact ih x (items_mem (List.mem_of_getElem? hx)) y (fa.ok x (items_mem (List.mem_of_getElem? hx))) (fb.ok y (items_mem (List.mem_of_getElem? hy))) (e5 i x y hx hy) (g5 i y x hy hx)
theorem known_v {v : V} : known v = true ↔ v.k ≠ 6 ∧ ∀ x ∈ items v, known x = true := by
  rw [known_eq]
  simp
theorem refines_known (a : V) : ∀ b, Ok a → Ok b → refines a b = true → known b = true → like a b = true := by
  refine V.ind (p := fun a => ∀ b, Ok a → Ok b → refines a b = true → known b = true → like a b = true) (fun a ih b oa ob h h2 => ?_) a
  have fa := oa.f
  have fb := ob.f
  obtain ⟨h6, hk⟩ := known_v.1 h2
  obtain ⟨e1, e2, e3, e4, e5⟩ := (refines_v h6).1 h
  refine fa.like fb h6 ⟨e1, e2, e3, e4, ?_⟩
  obtain ⟨l5, e5⟩ := all2_iff.1 e5
  refine all2_iff.2 ⟨l5, fun i x y hx hy => ?_⟩
  exact ih x (items_mem (List.mem_of_getElem? hx)) y (fa.ok x (items_mem (List.mem_of_getElem? hx))) (fb.ok y (items_mem (List.mem_of_getElem? hy))) (e5 i x y hx hy) (hk y (List.mem_of_getElem? hy))
end Go.VA

namespace Go.VA
open Go Go.RowKit
/-! ### the order of values that may be -/
abbrev bl (a b : ByteArray) : Bool := Op.bytesLess a.toList b.toList
theorem bytesLess_irr : ∀ l : List UInt8, Op.bytesLess l l = false
  | [] => rfl
  | x :: r => by simp [Op.bytesLess, bytesLess_irr r]
theorem bytesLess_asym : ∀ l m : List UInt8, Op.bytesLess l m = true → Op.bytesLess m l = false
  | [], [], h => by simp [Op.bytesLess] at h
  | [], _ :: _, _ => rfl
  | _ :: _, [], h => by simp [Op.bytesLess] at h
  | x :: r, y :: s, h => by
    simp only [Op.bytesLess, Bool.or_eq_true, decide_eq_true_eq, Bool.and_eq_true, beq_iff_eq] at h
    simp only [Op.bytesLess, Bool.or_eq_false_iff, decide_eq_false_iff_not, Bool.and_eq_false_iff, beq_eq_false_iff_ne, UInt8.not_lt]
    rcases h with h | ⟨rfl, h⟩
    · have hne : y ≠ x := fun e => by subst e; exact absurd h (UInt8.lt_irrefl _)
      exact ⟨UInt8.le_of_lt h, .inl hne⟩
    · exact ⟨UInt8.le_refl _, .inr (bytesLess_asym r s h)⟩
theorem bytesLess_tri : ∀ l m : List UInt8, Op.bytesLess l m = false → Op.bytesLess m l = false → l = m
  | [], [], _, _ => rfl
  | [], _ :: _, h, _ => by simp [Op.bytesLess] at h
  | _ :: _, [], _, h => by simp [Op.bytesLess] at h
  | x :: r, y :: s, h, h2 => by
    simp only [Op.bytesLess, Bool.or_eq_false_iff, decide_eq_false_iff_not, Bool.and_eq_false_iff, beq_eq_false_iff_ne, UInt8.not_lt] at h h2
    have e : x = y := UInt8.le_antisymm h2.1 h.1
    subst e
    rw [bytesLess_tri r s (by simpa using h.2) (by simpa using h2.2)]
theorem toL_inj {a b : ByteArray} (h : a.toList = b.toList) : a = b := eqs_iff.1 (by simp [eqs, h])
theorem cmpS_self (a : ByteArray) : cmpS a a = 0 := by simp [cmpS, bytesLess_irr]
theorem cmpS_ne {a b : ByteArray} (h : a ≠ b) : cmpS a b = (if bl a b then -1 else 1) := by
  have : (a.toList == b.toList) = false := by simpa using fun e => h (toL_inj e)
  unfold cmpS bl
  rw [this]
  cases Op.bytesLess a.toList b.toList <;> rfl
theorem cmpS_neg (a b : ByteArray) : cmpS b a = - cmpS a b := by
  by_cases h : a = b
  · subst h; rw [cmpS_self]; rfl
  · rw [cmpS_ne h, cmpS_ne (fun e => h e.symm)]
    by_cases h1 : bl a b = true
    · rw [if_pos h1, if_neg (by rw [bl, bytesLess_asym _ _ h1]; simp)]; rfl
    · by_cases h2 : bl b a = true
      · rw [if_neg h1, if_pos h2]
      · exact absurd (toL_inj (bytesLess_tri _ _ (by simpa using h1) (by simpa using h2))) h
theorem cmpS_0 {a b : ByteArray} : cmpS a b = 0 ↔ a = b := by
  refine ⟨fun h => ?_, fun h => by rw [h, cmpS_self]⟩
  by_cases e : a = b
  · exact e
  · rw [cmpS_ne e] at h; split at h <;> simp at h
theorem cmpI_neg (x y : Int) : cmpI y x = - cmpI x y := by
  unfold cmpI
  by_cases h1 : x < y
  · rw [if_pos h1, if_neg (by omega), if_pos (by omega)]; rfl
  · by_cases h2 : x > y
    · rw [if_pos (by omega), if_neg h1, if_pos h2]
    · rw [if_neg (by omega), if_neg (by omega), if_neg h1, if_neg h2]; rfl
theorem cmpI_self (x : Int) : cmpI x x = 0 := by unfold cmpI; simp
theorem cmpI_0' {x y : Int} : cmpI x y = 0 ↔ x = y := ⟨cmpI_0, fun h => by rw [h, cmpI_self]⟩
theorem codeT_inj {a b : Ty} (ha : chk a = true) (hb : chk b = true) (h : codeT a = codeT b) : a = b := by
  have : ∀ a ∈ tys, ∀ b ∈ tys, (!(codeT a == codeT b) || a == b) = true := by decide +kernel
  have := this a (chk_mem ha) b (chk_mem hb)
  simpa [h] using this
theorem codeT_N {a : Ty} (ha : chk a = true) : codeT a = codeN a := by
  have : ∀ a ∈ tys, (codeT a == codeN a) = true := by decide +kernel
  simpa using this a (chk_mem ha)
theorem Okf.chk {v : V} (f : Okf v) : VA.chk v.t = true := by
  by_cases h : v.k = 6
  · exact f.t6 h
  · have := f.t h
    rw [show v.t = (0, 0) from Prod.ext this.1 this.2]; decide
theorem headC_eq (a b : V) : headC a b = if cmpI a.k b.k ≠ 0 then cmpI a.k b.k else if cmpI a.i b.i ≠ 0 then cmpI a.i b.i else if cmpS a.s b.s ≠ 0 then cmpS a.s b.s else cmpI (codeT a.t) (codeT b.t) := by
  simp only [headC, orI, bne_iff_ne]
  by_cases h : cmpI (codeT a.t) (codeT b.t) = 0 <;> simp [h]
theorem headC_neg (a b : V) : headC b a = - headC a b := by
  rw [headC_eq, headC_eq, cmpI_neg a.k, cmpI_neg a.i, cmpS_neg a.s, cmpI_neg (codeT a.t)]
  by_cases h1 : cmpI a.k b.k = 0 <;> by_cases h2 : cmpI a.i b.i = 0 <;> by_cases h3 : cmpS a.s b.s = 0 <;> simp [h1, h2, h3]
theorem headC_0 {a b : V} (fa : Okf a) (fb : Okf b) : headC a b = 0 ↔ a.k = b.k ∧ a.i = b.i ∧ a.s = b.s ∧ a.t = b.t := by
  rw [headC_eq, ← cmpI_0' (x := a.k), ← cmpI_0' (x := a.i), ← cmpS_0]
  have : a.t = b.t ↔ cmpI (codeT a.t) (codeT b.t) = 0 := by
    rw [cmpI_0']
    exact ⟨fun h => by rw [h], codeT_inj fa.chk fb.chk⟩
  rw [this]
  by_cases h1 : cmpI a.k b.k = 0 <;> by_cases h2 : cmpI a.i b.i = 0 <;> by_cases h3 : cmpS a.s b.s = 0 <;> simp [h1, h2, h3]
/-! #### the two orders are one -/
theorem cmpL_ord (fin : Int) : ∀ (l : List V) (m : List V) (ks ks' : List ByteArray), (∀ x ∈ l, ∀ y ∈ m, cmpV x y = ordV x y) → cmpL fin ks ks' (l.map cmpV) m = ordL fin ks ks' (l.map ordV) m
  | [], _, _, _, _ => by simp [cmpL, ordL]
  | _ :: _, [], _, _, _ => by simp [cmpL, ordL]
  | x :: l, y :: m, [], ks', h => by
    simp only [List.map_cons, cmpL, ordL]
    rw [h x (by simp) y (by simp), cmpL_ord fin l m [] ks' fun z hz w hw => h z (by simp [hz]) w (by simp [hw])]
  | x :: l, y :: m, k :: ks, [], h => by simp [cmpL, ordL]
  | x :: l, y :: m, k :: ks, k' :: ks', h => by
    simp only [List.map_cons, cmpL, ordL]
    rw [h x (by simp) y (by simp), cmpL_ord fin l m ks ks' fun z hz w hw => h z (by simp [hz]) w (by simp [hw])]
    by_cases e : k = k'
    · subst e; simp [cmpS_self, eqs_refl]
    · have e1 : eqs k k' = false := by simpa using fun q => e (eqs_iff.1 q)
      rw [e1, cmpS_ne e]
      unfold bl
      cases Op.bytesLess k.toList k'.toList <;> rfl
theorem ordL_nil (fin : Int) (ks ks' : List ByteArray) (m : List V) : ordL fin ks ks' [] m = fin := by cases ks <;> cases ks' <;> cases m <;> rfl
theorem cmpV_ord (a : V) : ∀ b, Ok a → Ok b → cmpV a b = ordV a b := by
  refine V.ind (p := fun a => ∀ b, Ok a → Ok b → cmpV a b = ordV a b) (fun a ih b oa ob => ?_) a
  have fa := oa.f
  have fb := ob.f
  rw [cmpV_eq, ordV_eq]
  by_cases hk : a.k = b.k
  · have hk' : (a.k != b.k) = false := by simpa using hk
    rw [hk']
    simp only [Bool.false_eq_true, if_false]
    by_cases hh : headC a b = 0
    · rw [hh]
      simp only [bne_self_eq_false, Bool.false_eq_true, if_false]
      have h0 := (headC_0 fa fb).1 hh
      have e : cmpI (nIt a) (nIt b) = endO a b := by
        have e1 : lessF a b = false := by
          unfold lessF
          rw [h0.2.1, h0.2.2.1, h0.2.2.2]
          simp [bytesLess_irr]
        have e2 : moreF a b = false := by
          unfold moreF
          rw [h0.2.1, h0.2.2.1, h0.2.2.2]
          simp
        unfold endO cmpI
        rw [e1, e2]
        simp
      rw [e]
      exact cmpL_ord _ _ _ _ _ fun x hx y hy => ih x (items_mem hx) y (fa.ok x (items_mem hx)) (fb.ok y (items_mem hy))
    · have hh' : (headC a b != 0) = true := by simpa using hh
      rw [hh']
      simp only [if_true]
      have hne : a.k ≠ 4 ∧ a.k ≠ 5 := by
        refine ⟨fun h => hh ((headC_0 fa fb).2 ?_), fun h => hh ((headC_0 fa fb).2 ?_)⟩
        all_goals
          have ta := fa.t (by omega); have tb := fb.t (by omega)
          exact ⟨hk, by rw [fa.i (by omega) (by omega), fb.i (by omega) (by omega)], by rw [fa.s (by omega), fb.s (by omega)], Prod.ext (ta.1.trans tb.1.symm) (ta.2.trans tb.2.symm)⟩
      have la : items a = [] := by rw [fa.items.1]; exact fa.l hne.1 hne.2
      have na : nIt a = 0 := by rw [fa.items.2, fa.l hne.1 hne.2]; rfl
      have nb : nIt b = 0 := by rw [fb.items.2, fb.l (by omega) (by omega)]; rfl
      rw [la]
      simp only [List.map_nil, ordL_nil]
      have hE : endO a b = if lessF a b then -1 else if moreF a b then 1 else 0 := by
        unfold endO; rw [na, nb]; simp
      rw [hE]
      have hr : a.k = 0 ∨ a.k = 1 ∨ a.k = 2 ∨ a.k = 3 ∨ a.k = 6 := by have := fa.k0; have := fa.k6; omega
      rw [headC_eq] at hh ⊢
      have c1 : cmpI a.k b.k = 0 := cmpI_0'.2 hk
      rw [c1] at hh ⊢
      simp only [ne_eq, not_true_eq_false, if_false] at hh ⊢
      have nt : a.k ≠ 6 → cmpI (codeT a.t) (codeT b.t) = 0 := fun h => by
        have ta := fa.t h; have tb := fb.t (by omega)
        rw [show a.t = b.t from Prod.ext (ta.1.trans tb.1.symm) (ta.2.trans tb.2.symm), cmpI_self]
      have ns : a.k ≠ 3 → cmpS a.s b.s = 0 := fun h => by rw [fa.s h, fb.s (by omega), cmpS_self]
      have ni : a.k ≠ 1 → a.k ≠ 2 → cmpI a.i b.i = 0 := fun h h2 => by rw [fa.i h h2, fb.i (by omega) (by omega), cmpI_self]
      have cI : ∀ x y : Int, cmpI x y = if decide (x < y) = true then -1 else if decide (x > y) = true then 1 else 0 := fun x y => by simp [cmpI]
      rcases hr with e | e | e | e | e
      · rw [nt (by omega), ns (by omega), ni (by omega) (by omega)] at hh
        simp at hh
      · have l1 : lessF a b = decide (a.i < b.i) := by unfold lessF; simp [e]
        have l2 : moreF a b = decide (a.i > b.i) := by unfold moreF; simp [e]
        rw [nt (by omega), ns (by omega)] at hh ⊢
        rw [l1, l2, ← cI]
        simp only [not_true_eq_false, if_false]
        split <;> simp_all
      · have l1 : lessF a b = decide (a.i < b.i) := by unfold lessF; simp [e]
        have l2 : moreF a b = decide (a.i > b.i) := by unfold moreF; simp [e]
        rw [nt (by omega), ns (by omega)] at hh ⊢
        rw [l1, l2, ← cI]
        simp only [not_true_eq_false, if_false]
        split <;> simp_all
      · have l1 : lessF a b = Op.bytesLess a.s.toList b.s.toList := by unfold lessF; simp [e]
        have l2 : moreF a b = !(Op.bytesLess a.s.toList b.s.toList || a.s.toList == b.s.toList) := by unfold moreF; simp [e]
        rw [nt (by omega), ni (by omega) (by omega)] at hh ⊢
        rw [l1, l2]
        simp only [not_true_eq_false, if_false]
        show (if ¬cmpS a.s b.s = 0 then cmpS a.s b.s else 0) = cmpS a.s b.s
        split <;> simp_all
      · have l1 : lessF a b = decide (codeN a.t < codeN b.t) := by unfold lessF; simp [e]
        have l2 : moreF a b = decide (codeN a.t > codeN b.t) := by unfold moreF; simp [e]
        rw [ns (by omega), ni (by omega) (by omega)]
        rw [codeT_N fa.chk, codeT_N fb.chk]
        rw [l1, l2, ← cI]
        simp only [not_true_eq_false, if_false]
  · have hk' : (a.k != b.k) = true := by simpa using hk
    have hc : headC a b = cmpI a.k b.k := by
      rw [headC_eq, if_pos (fun h => hk (cmpI_0 h))]
    have hc' : (cmpI a.k b.k != 0) = true := by simpa using fun h => hk (cmpI_0 h)
    rw [hc, hc', hk']
    simp only [if_true, cmpI]
    by_cases q : a.k < b.k
    · simp [q]
    · simp [q]; omega
/-! #### of two unlike ones just one is ahead -/
def kOk (ks : List ByteArray) (n : Nat) : Prop := ks = [] ∨ ks.length = n
theorem cmpL_neg {fin fin' : Int} (hf : fin' = - fin) : ∀ (l m : List V) (ks ks' : List ByteArray), (ks = [] ∧ ks' = [] ∨ ks.length = l.length ∧ ks'.length = m.length) → (∀ x ∈ l, ∀ y ∈ m, cmpV y x = - cmpV x y) →
    cmpL fin' ks' ks (m.map cmpV) l = - cmpL fin ks ks' (l.map cmpV) m
  | [], [], ks, ks', _, _ => by simp [cmpL, hf]
  | [], y :: m, ks, ks', _, _ => by simp [cmpL, hf]
  | x :: l, [], ks, ks', _, _ => by simp [cmpL, hf]
  | x :: l, y :: m, [], [], h, hh => by
    have ih := cmpL_neg hf l m [] [] (.inl ⟨rfl, rfl⟩) fun z hz w hw => hh z (by simp [hz]) w (by simp [hw])
    simp only [List.map_cons, cmpL]
    rw [ih, hh x (by simp) y (by simp)]
    by_cases q : cmpV x y = 0 <;> simp [q]
  | x :: l, y :: m, [], k' :: ks', h, _ => by simp at h
  | x :: l, y :: m, k :: ks, [], h, _ => by simp at h
  | x :: l, y :: m, k :: ks, k' :: ks', h, hh => by
    have ih := cmpL_neg hf l m ks ks' (.inr (by simpa using h)) fun z hz w hw => hh z (by simp [hz]) w (by simp [hw])
    simp only [List.map_cons, cmpL]
    rw [ih, hh x (by simp) y (by simp), cmpS_neg k k']
    by_cases q : cmpV x y = 0 <;> by_cases q2 : cmpS k k' = 0 <;> simp [q, q2]
theorem Okf.kk {a b : V} (fa : Okf a) (fb : Okf b) (h : a.k = b.k) : VA.keys a = [] ∧ VA.keys b = [] ∨ (VA.keys a).length = (VA.items a).length ∧ (VA.keys b).length = (VA.items b).length := by
  rw [fa.keys, fb.keys, fa.items.1, fb.items.1]
  by_cases h5 : a.k = 5
  · exact .inr ⟨fa.ks5 h5, fb.ks5 (by omega)⟩
  · exact .inl ⟨fa.ks h5, fb.ks (by omega)⟩
theorem cmpV_neg (a : V) : ∀ b, Ok a → Ok b → cmpV b a = - cmpV a b := by
  refine V.ind (p := fun a => ∀ b, Ok a → Ok b → cmpV b a = - cmpV a b) (fun a ih b oa ob => ?_) a
  have fa := oa.f
  have fb := ob.f
  rw [cmpV_eq, cmpV_eq, headC_neg a b]
  by_cases h : headC a b = 0
  · simp only [h, Int.neg_zero, bne_self_eq_false, Bool.false_eq_true, if_false]
    exact cmpL_neg (cmpI_neg _ _) _ _ _ _ (fa.kk fb ((headC_0 fa fb).1 h).1) fun x hx y hy => ih x (items_mem hx) y (fa.ok x (items_mem hx)) (fb.ok y (items_mem hy))
  · have h1 : (headC a b != 0) = true := by simpa using h
    have h2 : (-headC a b != 0) = true := by simpa using h
    rw [h1, h2]; simp
theorem cmpL_0 {fin : Int} : ∀ (l m : List V) (ks ks' : List ByteArray), (ks = [] ∧ ks' = [] ∨ ks.length = l.length ∧ ks'.length = m.length) → (fin = 0 → l.length = m.length) → (∀ x ∈ l, ∀ y ∈ m, cmpV x y = 0 ↔ like x y = true) →
    (cmpL fin ks ks' (l.map cmpV) m = 0 ↔ fin = 0 ∧ ks = ks' ∧ all2 like l m = true)
  | [], [], ks, ks', hk, _, _ => by
    have : ks = ks' := by
      rcases hk with ⟨rfl, rfl⟩ | ⟨h1, h2⟩
      · rfl
      · rw [List.eq_nil_of_length_eq_zero h1, List.eq_nil_of_length_eq_zero h2]
    simp [cmpL, all2, this]
  | [], y :: m, ks, ks', _, hl, _ => by
    simp only [List.map_nil, cmpL, all2, Bool.false_eq_true, and_false, iff_false]
    intro h; have := hl h; simp at this
  | x :: l, [], ks, ks', _, hl, _ => by
    simp only [List.map_cons, cmpL, all2, Bool.false_eq_true, and_false, iff_false]
    intro h; have := hl h; simp at this
  | x :: l, y :: m, [], [], _, hl, hh => by
    have ih := cmpL_0 l m [] [] (.inl ⟨rfl, rfl⟩) (fun h => by simpa using hl h) fun z hz w hw => hh z (by simp [hz]) w (by simp [hw])
    have h0 := hh x (by simp) y (by simp)
    simp only [List.map_cons, cmpL, all2, Bool.and_eq_true]
    by_cases q : cmpV x y = 0
    · simp [q, ih, h0.1 q]
    · have : like x y ≠ true := fun e => q (h0.2 e)
      simp [q, this]
  | x :: l, y :: m, [], k' :: ks', h, _, _ => by simp at h
  | x :: l, y :: m, k :: ks, [], h, _, _ => by simp at h
  | x :: l, y :: m, k :: ks, k' :: ks', h, hl, hh => by
    have ih := cmpL_0 l m ks ks' (.inr (by simpa using h)) (fun h => by simpa using hl h) fun z hz w hw => hh z (by simp [hz]) w (by simp [hw])
    have h0 := hh x (by simp) y (by simp)
    simp only [List.map_cons, cmpL, all2, Bool.and_eq_true, List.cons.injEq]
    by_cases e : k = k'
    · subst e
      by_cases q : cmpV x y = 0
      · simp [cmpS_self, q, ih, h0.1 q]
      · have : like x y ≠ true := fun e => q (h0.2 e)
        simp [cmpS_self, q, this]
    · have : cmpS k k' ≠ 0 := fun q => e (cmpS_0.1 q)
      simp [this, e]
theorem cmpV_like (a : V) : ∀ b, Ok a → Ok b → (cmpV a b = 0 ↔ like a b = true) := by
  refine V.ind (p := fun a => ∀ b, Ok a → Ok b → (cmpV a b = 0 ↔ like a b = true)) (fun a ih b oa ob => ?_) a
  have fa := oa.f
  have fb := ob.f
  rw [cmpV_eq, like_v]
  by_cases h : headC a b = 0
  · have h1 := (headC_0 fa fb).1 h
    have hc := cmpL_0 (fin := cmpI (nIt a) (nIt b)) (items a) (items b) (keys a) (keys b) (fa.kk fb h1.1) (fun e => by rw [items_len, items_len]; have := cmpI_0 e; omega)
      fun x hx y hy => ih x (items_mem hx) y (fa.ok x (items_mem hx)) (fb.ok y (items_mem hy))
    simp only [h, bne_self_eq_false, Bool.false_eq_true, if_false]
    rw [hc, fa.keys, fb.keys, fa.items.1, fb.items.1, cmpI_0', fa.items.2, fb.items.2]
    have t1 : a.tk = b.tk := congrArg Prod.fst h1.2.2.2
    have t2 : a.to = b.to := congrArg Prod.snd h1.2.2.2
    simp [h1.1, h1.2.1, h1.2.2.1, t1, t2, Int.natCast_inj, and_assoc]
  · have h1 : (headC a b != 0) = true := by simpa using h
    rw [h1]
    simp only [if_true, h, false_iff]
    rintro ⟨⟨e1, e2, e3, e4, e5, _⟩, _⟩
    exact h ((headC_0 fa fb).2 ⟨e1, e2, e3, Prod.ext e4 e5⟩)
theorem less_law {a b : V} (oa : Ok a) (ob : Ok b) : lessV a b = lessR a b ∧ (lessV a b && lessV b a) = false ∧ (lessV a b || lessV b a) = !like a b := by
  have e1 := oa.f.only
  have e2 := ob.f.only
  unfold lessV lessR
  rw [e1, e2, cmpV_ord a b oa ob, ← cmpV_ord a b oa ob, cmpV_neg a b oa ob]
  refine ⟨rfl, ?_, ?_⟩
  · simp; omega
  · have := cmpV_like a b oa ob
    rw [Bool.eq_iff_iff]
    simp only [Bool.or_eq_true, decide_eq_true_eq, Bool.not_eq_true', Bool.eq_false_iff, ne_eq, ← this]
    omega
end Go.VA

namespace Go.VA
open Go Go.RowKit Go.ChangeShapes Go.WideShapes Go.ChangeAt

/-- what a memory holds -/
def S0 (W : World) : Rd := fun _ b o u => W.cell? ⟨b, o, none⟩ = some u
def M0 : Mz := ⟨0, fun _ => False, fun _ => False, fun _ h => h⟩
theorem Sr_M0 (W : World) : Sr M0 [] [] W = S0 W := by
  funext t b o u
  simp only [Sr, S0, eq_iff_iff, and_iff_right_iff_imp]
  intro _ h
  cases t <;> simp [MU, M0] at h
theorem relL_nil (W : World) : RelL M0 [] [] W where
  len := rfl
  bnd := by simp
  mbnd := by simp [M0]
  notM := by simp
  dist := by simp
  obj := by simp

section
variable {P : Program} {gl : Gl} {f : Nat} {args : List AV}

/-- a contract, in an open state -/
theorem acall_run {r : AV} (h : ACall P gl f args [] r) (W : World) (vals : Array Value) (hG : GlOk gl (S0 W)) (hv : RelVs [] (S0 W) args vals.toList) :
    Calls P f vals W fun e w' => ∃ u, e = .returned u ∧ Below W.heap.size W w' ∧ RelV [] (S0 w') r u := by
  have := h.run W M0 [] vals rfl (relL_nil W) (by rw [Sr_M0]; exact hG) (by rw [Sr_M0]; exact hv)
  refine this.mono fun e w' ⟨u, h1, h2, h3⟩ => ⟨u, h1, h2, ?_⟩
  rwa [Sr_M0] at h3

theorem acall_true (h : ACall P gl f args [] (boolA true)) (W : World) (vals : Array Value) (hG : GlOk gl (S0 W)) (hv : RelVs [] (S0 W) args vals.toList) :
    Calls P f vals W fun e w' => e = .returned (.bool true) ∧ Below W.heap.size W w' := by
  refine (acall_run h W vals hG hv).mono fun e w' ⟨u, h1, h2, h3⟩ => ?_
  simp only [boolA, RelV, RepC] at h3
  rw [h1, h3.1]
  exact ⟨rfl, h2⟩

theorem glOk_nil (S : Rd) : GlOk ⟨fun _ => []⟩ S := fun _ => by simp [RepCs]
end

section
variable {H : Type} {enc : TypeId × Value → H} {P : Program}

theorem post_of_below {f : Func} {s : ChangeSpec} {apart fresh handsOn again : Bool} {W W' : World} {args : Array Value} {v : Value} {ds gs : List (DataW H)} {before pa pv : List MemPlace}
    (hW : DataW.Whole enc P f.params.toList s.vars apart W args.toList ds gs before)
    (hres : ∀ (b : Nat) (sp : Nat → Bool) (hd : Bool), DataW.TrodAll enc P W' b sp hd f.resultTypes.toList (v.resultList f.resultTypes.size) (s.fn H (ds ++ gs)).results [])
    (hargs : ∀ sp : Nat → Bool, (∀ p ∈ before, sp p.block = true) → DataW.TrodAll enc P W' 0 sp true f.params.toList args.toList (s.fn H (ds ++ gs)).args pa)
    (hvars : ∀ sp : Nat → Bool, (∀ p ∈ before, sp p.block = true) → DataW.TrodVars enc P W' sp s.vars (s.fn H (ds ++ gs)).vars pv)
    (hps : before = pa ++ pv) (hb : Below W.heap.size W W')
    (hok : ∀ (j : Nat) (t : TypeId) (r : Value), f.resultTypes[j]? = some t → (v.resultList f.resultTypes.size)[j]? = some r → Value.okWide P W' .any 0 t r) :
    s.post enc P f apart fresh handsOn again W args v W' := by
  have hlt : ∀ p ∈ before, p.block < W.heap.size := fun p hp => hW.lt p hp
  have hold : ∀ p ∈ before, (fun b => decide (b < W.heap.size)) p.block = true := fun p hp => by simpa using hlt p hp
  refine ⟨ds, gs, before, [], pa, pv, hW, hres _ _ _, hargs _ hold, hvars _ hold, World.keptBut_mono (fun p hp => ⟨hp, ?_⟩) (hb.frame (· ∈ before)), fun _ => ?_⟩
  · rw [hps, List.mem_append] at hp
    exact Or.inr hp
  · obtain ⟨_, _, _, _, _, hz, hn⟩ := hW
    refine ⟨hok, _, _, ([] ++ pa) ++ pv, ⟨[] ++ pa, pv, trodAll_append (hargs _ (fun _ _ => rfl)) (hres _ _ _), hvars _ (fun _ _ => rfl), rfl, ?_, ?_⟩, ?_⟩
    · intro b off hp
      have hin : MemPlace.cell b off ∈ before := by rw [hps]; simpa using hp
      rw [hb.frozen (hlt _ hin)]
      exact hz b off hin
    · intro ha
      have := hn ha
      rw [hps] at this
      simpa using this
    · intro p hp _
      rw [hps]
      simpa using hp

def carried (P : Program) : List TypeId → Bool
  | [] => true
  | t :: ts => P.readableRec t && decide (t < P.types.size) && carried P ts

theorem trodAll_below (hl : laidOutB P = true) {W W' : World} (hb : Below W.heap.size W W') : ∀ {ts : List TypeId} {vs : List Value} {ds : List (DataW H)} {ps : List MemPlace},
    carried P ts = true → DataW.TrodAll enc P W 0 (fun _ => true) true ts vs ds ps → (∀ x ∈ ps, x.block < W.heap.size) →
    ∀ sp : Nat → Bool, (∀ p ∈ ps, sp p.block = true) → DataW.TrodAll enc P W' 0 sp true ts vs ds ps
  | [], [], [], _, _, h, _, _, _ => h
  | t :: ts, v :: vs, d :: ds, ps, hc, h, hlt, sp, hsp => by
    simp only [carried, Bool.and_eq_true, decide_eq_true_eq] at hc
    obtain ⟨p, q, h1, h2, rfl⟩ := h
    have h3 := Below.trod hl hc.1.1 hc.1.2 h1 hb fun x hx => hlt x (List.mem_append_left _ hx)
    refine ⟨p, q, ?_, trodAll_below hl hb hc.2 h2 (fun x hx => hlt x (List.mem_append_right _ hx)) sp (fun x hx => hsp x (List.mem_append_right _ hx)), rfl⟩
    exact WideElems.Trod_stays hl hc.1.1 hc.1.2 h1 (fun x hx => hb.same (hlt x (List.mem_append_left _ hx))) (fun x hx => hsp x (List.mem_append_left _ hx))
  | [], _ :: _, _, _, _, h, _, _, _ => h.elim
  | _ :: _, [], _, _, _, h, _, _, _ => h.elim
  | [], [], _ :: _, _, _, h, _, _, _ => h.elim
  | _ :: _, _ :: _, [], _, _, h, _, _, _ => h.elim
end

/-- a law's row, out of its contract: it returns true, and nothing that was there turns -/
theorem law_lifted {C : Checked} {f : FuncId} {fn : Func} {s : ChangeSpec} {conds : List PathCond} (os : Os) (started : os.Started) {H : Type} {enc : TypeId × Value → H} {tb : TypeId}
    (own : ownKnob C.prog.godebug = none) (noInit : C.prog.inits.idxOf? f = none) (hfn : C.prog.funcs[f]? = some fn)
    (hl : laidOutB C.prog = true) (hc : carried C.prog fn.params.toList = true) (hv : s.vars = []) (hr : fn.resultTypes = #[tb]) (htb : C.prog.underlying tb = some .bool)
    (hspec : ∀ ds : List (DataW H), ds.length = fn.params.size → s.fn H ds = { results := [.lit (.bool true)], args := ds })
    (witness : ∃ (w : World) (tape : Tape) (i : Input), w.os = os ∧ (w.forCall tape i).Shaped C.prog ∧ i.vars = [] ∧ Input.okWide C.prog (w.forCall tape i) .any w.heap.size f i ∧
      s.pre6 enc C.prog fn conds false (w.forCall tape i).memory i.args ∧ ({} : Assume).holds C.prog (lone (Frame.enter C.prog f i.args .normal) [] (w.forCall tape i)))
    (call : ∀ (W : World) (base : Nat) (args : Array Value) (ds : List (DataW H)) (ps : List MemPlace),
      (∀ (j : Nat) t v, fn.params[j]? = some t → args[j]? = some v → Value.okWide C.prog W .any base t v) →
      DataW.TrodAll enc C.prog W 0 (fun _ => true) true fn.params.toList args.toList ds ps →
      Calls C.prog f args W fun e w' => e = .returned (.bool true) ∧ Below W.heap.size W w') :
    ReturnsInHanded {} C os f .any (s.pre6 enc C.prog fn conds false) (s.post enc C.prog fn false true false false) := by
  refine returnsInHanded_of_change own started noInit hfn witness ?_
  intro W base args ds gs before hval hW _ _
  have hW' := hW
  obtain ⟨p, q, hA, hV, hpq, hfz, hnd⟩ := hW
  rw [hv] at hV
  obtain ⟨rfl, rfl⟩ := trodVars_none hV
  rw [List.append_nil] at hpq
  subst hpq
  have hlen : ds.length = fn.params.size := by
    have : ∀ {ts : List TypeId} {vs : List Value} {ds : List (DataW H)} {ps : List MemPlace}, DataW.TrodAll enc C.prog W 0 (fun _ => true) true ts vs ds ps → ds.length = ts.length := by
      intro ts
      induction ts with
      | nil => intro vs ds ps h; cases vs <;> cases ds <;> first | rfl | exact h.elim
      | cons t ts ih =>
        intro vs ds ps h
        cases vs with
        | nil => exact h.elim
        | cons v vs =>
          cases ds with
          | nil => exact h.elim
          | cons d ds =>
            obtain ⟨_, _, _, h2, _⟩ := h
            simp [ih h2]
    rw [this hA]; simp
  refine (call W base args ds before hval hA).mono fun e W' ⟨he, hb⟩ => ⟨_, he, ?_⟩
  have hs := hspec ds hlen
  refine post_of_below (pa := before) (pv := []) hW' (fun b sp hd => ?_) (fun sp hsp => ?_) (fun sp _ => ?_) (by simp) hb ?_
  · rw [List.append_nil, hs, hr]
    refine trodAll_mk1 ⟨1, ?_⟩
    simp [DataW.trod, htb, Value.cells]
  · rw [List.append_nil, hs]
    exact trodAll_below hl hb hc hA (fun x hx => hW'.lt x hx) sp hsp
  · rw [hv, List.append_nil, hs]
    rfl
  · exact ok_one hr rfl (okWide_bool_mk htb true)
end Go.VA

namespace Go.VA
open Go Go.RowKit Go.ChangeShapes Go.WideShapes Go.ChangeAt

section
variable {H : Type} {enc : TypeId × Value → H} {P : Program} {tb : TB} {w : World} {base : Nat} {spare : Nat → Bool} {held : Bool} {fuel : Nat} {t : TypeId} {cs : List Value} {x : DataW H × List MemPlace}

theorem cellsOf_tb (htb : TbOk P tb) (ho : (tb t).k.isOther = false) : P.cellsOf t = (tb t).sz := by
  obtain ⟨i, d, z, h1, h2, h3, h4, _⟩ := (htb t).ok ho
  unfold Program.cellsOf
  rw [h1]
  simpa using h4

theorem tr_int (htb : TbOk P tb) {k : IntKind} (hk : (tb t).k = .int k) (h : DataW.trod enc P w base spare held fuel t cs = some x) : ∃ n, cs = [.int k n] ∧ k.min ≤ n ∧ n ≤ k.max := by
  obtain ⟨d, h2, h3⟩ := (htb t).under (by rw [hk]; rfl)
  rw [hk] at h3
  simp only [TKok] at h3
  subst h3
  obtain ⟨n, h4, _, h5⟩ := DataW.trod_int h2 h
  simp only [Lit.wf, Bool.and_eq_true, decide_eq_true_eq] at h5
  exact ⟨n, h4, h5⟩

theorem tr_bool (htb : TbOk P tb) (hk : (tb t).k = .bool) (h : DataW.trod enc P w base spare held fuel t cs = some x) : ∃ b, cs = [.bool b] := by
  obtain ⟨d, h2, h3⟩ := (htb t).under (by rw [hk]; rfl)
  rw [hk] at h3
  simp only [TKok] at h3
  subst h3
  obtain ⟨n, h4, _⟩ := DataW.trod_bool h2 h
  exact ⟨n, h4⟩

theorem tr_str (htb : TbOk P tb) (hk : (tb t).k = .str) (h : DataW.trod enc P w base spare held fuel t cs = some x) : ∃ s : ByteArray, cs = [.string s] ∧ s.size ≤ maxLen := by
  obtain ⟨d, h2, h3⟩ := (htb t).under (by rw [hk]; rfl)
  rw [hk] at h3
  simp only [TKok] at h3
  subst h3
  obtain ⟨n, h4, _, h5⟩ := DataW.trod_string h2 h
  exact ⟨n, h4, h5⟩

theorem tr_struct (htb : TbOk P tb) {fs : List (Nat × Nat)} (hk : (tb t).k = .struct fs) (h : DataW.trod enc P w base spare held fuel t cs = some x) :
    cs.length = (tb t).sz ∧ ∃ m, fuel = m + 1 ∧ ∀ i o ty : Nat, fs[i]? = some (o, ty) → (tb ty).k.isOther = false → ∃ y, DataW.trod enc P w base spare held m ty ((cs.drop o).take (tb ty).sz) = some y := by
  obtain ⟨d, h2, h3⟩ := (htb t).under (by rw [hk]; rfl)
  have hsz := cellsOf_tb htb (t := t) (by rw [hk]; rfl)
  rw [hk] at h3
  simp only [TKok] at h3
  obtain ⟨f, rfl, hf⟩ := h3
  obtain ⟨xs, n, h4, _, h5, h6, h7⟩ := DataW.trod_struct h2 h
  refine ⟨by rw [h5, hsz], n, h4, fun i o ty hi ho => ?_⟩
  rw [← hf.1, List.getElem?_map, Option.map_eq_some_iff] at hi
  obtain ⟨g, k1, k2⟩ := hi
  rw [Array.getElem?_toList] at k1
  have := h7 i g k1
  simp only [Prod.mk.injEq] at k2
  rw [k2.1, k2.2, cellsOf_tb htb ho] at this
  have hlt : i < xs.length := by
    rw [h6]
    exact (Array.getElem?_eq_some_iff.1 k1).1
  rw [List.getElem?_eq_getElem hlt] at this
  exact ⟨_, this⟩

theorem tr_slice (htb : TbOk P tb) {e : TypeId} (hk : (tb t).k = .slice e) (he : (tb e).k.isOther = false) (h0 : 0 < (tb e).sz) (h : DataW.trod enc P w base spare held fuel t cs = some x) :
    ∃ a len cap m, cs = [.slice a len cap] ∧ fuel = m + 1 ∧ len ≤ cap ∧ cap ≤ maxLen ∧ (len = 0 ∨ ∃ b o, a = some ⟨b, o, none⟩ ∧ ∀ i, i < len → ∃ ce y, ce.length = (tb e).sz ∧ (∀ j, j < (tb e).sz → w.cell? ⟨b, o + i * (tb e).sz + j, none⟩ = ce[j]?) ∧
      DataW.trod enc P w base spare held m e ce = some y) := by
  obtain ⟨d, h2, h3⟩ := (htb t).under (by rw [hk]; rfl)
  have hsz := cellsOf_tb htb he
  rw [hk] at h3
  simp only [TKok] at h3
  subst h3
  rcases DataW.trod_slice h2 h with ⟨h4, _⟩ | ⟨a, len, cap, elems, rest, n, h4, h5, _, h6, h7, h8, h9, h10, _⟩
  · cases fuel with
    | zero => simp [DataW.trod] at h
    | succ m => exact ⟨none, 0, 0, m, h4, rfl, Nat.le_refl _, Nat.zero_le _, .inl rfl⟩
  · refine ⟨some a, len, cap, n, h5, h4, h7, h8, ?_⟩
    by_cases hl : len = 0
    · exact .inl hl
    · right
      have key : ∀ i, i < len → ∃ ce y, w.cells? base (a.add (i * (tb e).sz)) (tb e).sz = some ce ∧ DataW.trod enc P w base spare held n e ce = some y := by
        intro i hi
        have := h10 i hi
        rw [hsz] at this
        rw [List.getElem?_eq_getElem (by omega)] at this
        obtain ⟨ce, k1, k2⟩ := Option.bind_eq_some_iff.1 this
        exact ⟨ce, _, k1, k2⟩
      obtain ⟨b, o, spot⟩ := a
      obtain ⟨ce0, y0, k1, _⟩ := key 0 (by omega)
      obtain ⟨_, k3, k4⟩ := World.cells?_some k1
      have g0 := k4 0 h0
      rw [List.getElem?_eq_getElem (by omega)] at g0
      have hspot : spot = none := by simpa [Addr.add] using World.cell?_spot g0
      subst hspot
      refine ⟨b, o, rfl, fun i hi => ?_⟩
      obtain ⟨ce, y, k1, k2⟩ := key i hi
      obtain ⟨_, k3, k4⟩ := World.cells?_some k1
      refine ⟨ce, y, k3, fun j hj => ?_, k2⟩
      have := k4 j hj
      rw [← this]
      congr 1
      simp only [Addr.add]
      split <;> split <;> simp_all

theorem repCs_of_repVs {S : Rd} {R : Nat → Value → Prop} : ∀ {xs : List C} {us : List Value} {o : Nat}, RepVs S xs us → (∀ j u, us[j]? = some u → R (o + j) u) → RepCs S R o xs
  | [], us, o, _, _ => by simp [RepCs]
  | x :: xs, us, o, h, hR => by
    simp only [RepVs] at h
    obtain ⟨u, r, rfl, h1, h2⟩ := h
    simp only [RepCs]
    refine ⟨⟨u, hR 0 u rfl, h1⟩, repCs_of_repVs h2 fun j v hv => ?_⟩
    rw [Nat.add_assoc, Nat.add_comm 1 j]
    exact hR (j + 1) v (by simpa using hv)

/-- rows in memory -/
theorem repC_rows {S : Rd} {a : Option Addr} {len cap esz : Nat} {f : Nat → List C} {tg : Bool} (hc : len ≤ cap ∧ len ≤ 140737488355328)
    (h : len = 0 ∨ ∃ b o, a = some ⟨b, o, none⟩ ∧ ∀ i, i < len → ∃ ce : List Value, ce.length = esz ∧ (∀ j, j < esz → ∀ u, ce[j]? = some u → S tg b (o + i * esz + j) u) ∧ (f i).length = esz ∧ RepVs S (f i) ce) :
    RepC S (.sl tg esz len f) (.slice a len cap) := by
  simp only [RepC]
  refine ⟨a, cap, rfl, hc, ?_⟩
  rcases h with h | ⟨b, o, h1, h2⟩
  · exact .inl h
  · refine .inr ⟨b, o, h1, fun i hi => ?_⟩
    obtain ⟨ce, k1, k2, k3, k4⟩ := h2 i hi
    refine ⟨k3, repCs_of_repVs k4 fun j u hu => ?_⟩
    have := (List.getElem?_eq_some_iff.1 hu).1
    exact k2 j (by omega) u hu

theorem relV_agg {S : Rd} {B : List (Option BI)} {v : Value} {xs : List C} {arr : Array Value} (hv : v = .agg arr) (h : RepVs S xs arr.toList) : RelV B S (.ag xs) v := by
  simp only [RelV]
  exact ⟨arr, hv, h⟩
theorem repV_i {S : Rd} {k : IntKind} {n : Int} : RepC S (.v (.int k n)) (.int k n) := by simp [RepC, Value.oneCell']
theorem repV_b {S : Rd} {b : Bool} : RepC S (.v (.bool b)) (.bool b) := by simp [RepC, Value.oneCell']
theorem repV_s {S : Rd} {b : ByteArray} : RepC S (.v (.string b)) (.string b) := by simp [RepC, Value.oneCell']

/-- the value of an argument: its cells -/
theorem arg_agg (htb : TbOk P tb) (hk : (tb t).k.agg = true) {v : Value} {r : Reach} {b0 : Nat} (hval : Value.okWide P w r b0 t v) : ∃ arr, v = .agg arr ∧ v.cells.toList = arr.toList := by
  obtain ⟨d, h2, h3⟩ := (htb t).under (by cases h : (tb t).k <;> rw [h] at hk <;> simp_all [TK.agg, TK.isOther])
  cases h : (tb t).k <;> rw [h] at hk h3 <;> simp only [TK.agg, Bool.false_eq_true] at hk
  case struct fs =>
    simp only [TKok] at h3
    obtain ⟨f, rfl, _⟩ := h3
    obtain ⟨cs, rfl, _⟩ := okWide_struct h2 hval
    exact ⟨cs, rfl, rfl⟩
  case array n e =>
    simp only [TKok] at h3
    subst h3
    simp only [Value.okWide, h2] at hval
    obtain ⟨cs, rfl, _⟩ := hval
    exact ⟨cs, rfl, rfl⟩
end
end Go.VA

namespace Go.VA
open Go Go.RowKit Go.ChangeShapes Go.WideShapes Go.ChangeAt

section
variable {H : Type} {enc : TypeId × Value → H} {P : Program} {tb : TB} {w : World} {base : Nat} {spare : Nat → Bool} {held : Bool} {fuel : Nat} {t : TypeId} {cs : List Value} {x : DataW H × List MemPlace}

/-- each slice, text and map of a datum is of a size that memory has -/
def SzW (P : Program) (t : TypeId) (d : DataW H) : Prop := ∀ n ∈ d.weights P t, n ≤ reachBytes

theorem bytesOf_tb (htb : TbOk P tb) (ho : (tb t).k.isOther = false) : P.bytesOf t = (tb t).bytes := by
  obtain ⟨i, d, z, h1, h2, h3, h4, h5, _⟩ := (htb t).ok ho
  unfold Program.bytesOf
  rw [h1]
  simpa using h5

theorem tr_structS (htb : TbOk P tb) {fs : List (Nat × Nat)} (hk : (tb t).k = .struct fs) (h : DataW.trod enc P w base spare held fuel t cs = some x) (hs : SzW P t x.1) :
    cs.length = (tb t).sz ∧ ∃ m, fuel = m + 1 ∧ ∀ i o ty : Nat, fs[i]? = some (o, ty) → (tb ty).k.isOther = false → ∃ y, DataW.trod enc P w base spare held m ty ((cs.drop o).take (tb ty).sz) = some y ∧ SzW P ty y.1 := by
  obtain ⟨d, h2, h3⟩ := (htb t).under (by rw [hk]; rfl)
  have hsz := cellsOf_tb htb (t := t) (by rw [hk]; rfl)
  rw [hk] at h3
  simp only [TKok] at h3
  obtain ⟨f, rfl, hf⟩ := h3
  obtain ⟨xs, n, h4, h8, h5, h6, h7⟩ := DataW.trod_struct h2 h
  refine ⟨by rw [h5, hsz], n, h4, fun i o ty hi ho => ?_⟩
  rw [← hf.1, List.getElem?_map, Option.map_eq_some_iff] at hi
  obtain ⟨g, k1, k2⟩ := hi
  rw [Array.getElem?_toList] at k1
  have := h7 i g k1
  simp only [Prod.mk.injEq] at k2
  rw [k2.1, k2.2, cellsOf_tb htb ho] at this
  have hlt : i < xs.length := by
    rw [h6]
    exact (Array.getElem?_eq_some_iff.1 k1).1
  rw [List.getElem?_eq_getElem hlt] at this
  refine ⟨_, this, fun m hm => hs m ?_⟩
  rw [h8]
  simp only [DataW.weights, h2]
  exact DataW.weights_mem_each (j := i) (t := ty) (d := xs[i].1) (by rw [List.getElem?_map, Array.getElem?_toList, k1]; simp [k2.2]) (by simp [hlt]) m hm

theorem weightsAll_mem {e : TypeId} : ∀ {l : List (DataW H)} {d : DataW H}, d ∈ l → ∀ n ∈ d.weights P e, n ∈ DataW.weightsAll P e l
  | y :: r, d, hd, n, hn => by
    simp only [DataW.weightsAll, List.mem_append]
    rcases List.mem_cons.1 hd with rfl | hd
    · exact .inl hn
    · exact .inr (weightsAll_mem hd n hn)

theorem tr_sliceS (htb : TbOk P tb) {e : TypeId} (hk : (tb t).k = .slice e) (he : (tb e).k.isOther = false) (h0 : 0 < (tb e).sz) (h : DataW.trod enc P w base spare held fuel t cs = some x) (hs : SzW P t x.1) :
    ∃ a len cap m, cs = [.slice a len cap] ∧ fuel = m + 1 ∧ len ≤ cap ∧ len * (tb e).bytes ≤ 140737488351232 ∧ (len = 0 ∨ ∃ b o, a = some ⟨b, o, none⟩ ∧ ∀ i, i < len → ∃ ce y, ce.length = (tb e).sz ∧ (∀ j, j < (tb e).sz → w.cell? ⟨b, o + i * (tb e).sz + j, none⟩ = ce[j]?) ∧
      DataW.trod enc P w base spare held m e ce = some y ∧ SzW P e y.1) := by
  obtain ⟨d, h2, h3⟩ := (htb t).under (by rw [hk]; rfl)
  have hsz := cellsOf_tb htb he
  have hby := bytesOf_tb htb he
  rw [hk] at h3
  simp only [TKok] at h3
  subst h3
  rcases DataW.trod_slice h2 h with ⟨h4, _⟩ | ⟨a, len, cap, elems, rest, n, h4, h5, hx, h6, h7, h8, h9, h10, _⟩
  · cases fuel with
    | zero => simp [DataW.trod] at h
    | succ m => exact ⟨none, 0, 0, m, h4, rfl, Nat.le_refl _, by simp, .inl rfl⟩
  · have hw : (elems.length + rest.length) * P.bytesOf e ≤ reachBytes := by
      refine hs _ ?_
      rw [hx]
      simp [DataW.weights, h2]
    refine ⟨some a, len, cap, n, h5, h4, h7, ?_, ?_⟩
    · rw [← h9, ← hby]
      have : elems.length * P.bytesOf e ≤ (elems.length + rest.length) * P.bytesOf e := Nat.mul_le_mul_right _ (Nat.le_add_right _ _)
      unfold reachBytes at hw
      omega
    by_cases hl : len = 0
    · exact .inl hl
    · right
      have key : ∀ i, i < len → ∃ ce y, w.cells? base (a.add (i * (tb e).sz)) (tb e).sz = some ce ∧ DataW.trod enc P w base spare held n e ce = some y ∧ SzW P e y.1 := by
        intro i hi
        have := h10 i hi
        rw [hsz] at this
        rw [List.getElem?_eq_getElem (by omega)] at this
        obtain ⟨ce, k1, k2⟩ := Option.bind_eq_some_iff.1 this
        refine ⟨ce, _, k1, k2, fun m hm => hs m ?_⟩
        rw [hx]
        simp only [DataW.weights, h2, List.mem_cons, List.mem_append]
        refine .inr (.inl (weightsAll_mem (d := (elems[i]'(by omega)).1) (List.mem_map.2 ⟨elems[i]'(by omega), List.getElem_mem _, rfl⟩) m hm))
      obtain ⟨b, o, spot⟩ := a
      obtain ⟨ce0, y0, k1, _⟩ := key 0 (by omega)
      obtain ⟨_, k3, k4⟩ := World.cells?_some k1
      have g0 := k4 0 h0
      rw [List.getElem?_eq_getElem (by omega)] at g0
      have hspot : spot = none := by simpa [Addr.add] using World.cell?_spot g0
      subst hspot
      refine ⟨b, o, rfl, fun i hi => ?_⟩
      obtain ⟨ce, y, k1, k2, k5⟩ := key i hi
      obtain ⟨_, k3, k4⟩ := World.cells?_some k1
      refine ⟨ce, y, k3, fun j hj => ?_, k2, k5⟩
      have := k4 j hj
      rw [← this]
      congr 1
      simp only [Addr.add]
      split <;> split <;> simp_all
end

/-- a law's row, out of its contract; no argument is greater than memory -/
theorem law_liftedS {C : Checked} {f : FuncId} {fn : Func} {s : ChangeSpec} {conds : List PathCond} (os : Os) (started : os.Started) {H : Type} {enc : TypeId × Value → H} {tb : TypeId}
    (own : ownKnob C.prog.godebug = none) (noInit : C.prog.inits.idxOf? f = none) (hfn : C.prog.funcs[f]? = some fn)
    (hl : laidOutB C.prog = true) (hc : carried C.prog fn.params.toList = true) (hv : s.vars = []) (hvt : s.plain.varTypes C.prog = []) (hr : fn.resultTypes = #[tb]) (htb : C.prog.underlying tb = some .bool)
    (hspec : ∀ ds : List (DataW H), ds.length = fn.params.size → s.fn H ds = { results := [.lit (.bool true)], args := ds })
    (witness : ∃ (w : World) (tape : Tape) (i : Input), w.os = os ∧ (w.forCall tape i).Shaped C.prog ∧ i.vars = [] ∧ Input.okWide C.prog (w.forCall tape i) .any w.heap.size f i ∧
      s.pre6 enc C.prog fn conds false (w.forCall tape i).memory i.args ∧ ({} : Assume).holds C.prog (lone (Frame.enter C.prog f i.args .normal) [] (w.forCall tape i)))
    (call : ∀ (W : World) (base : Nat) (args : Array Value) (ds : List (DataW H)) (ps : List MemPlace),
      (∀ (j : Nat) t v, fn.params[j]? = some t → args[j]? = some v → Value.okWide C.prog W .any base t v) →
      DataW.TrodAll enc C.prog W 0 (fun _ => true) true fn.params.toList args.toList ds ps →
      (∀ (j : Nat) t d, fn.params.toList[j]? = some t → ds[j]? = some d → SzW C.prog t d) →
      Calls C.prog f args W fun e w' => e = .returned (.bool true) ∧ Below W.heap.size W w') :
    ReturnsInHanded {} C os f .any (s.pre6 enc C.prog fn conds false) (s.post enc C.prog fn false true false false) := by
  refine returnsInHanded_of_change_sized own started noInit hfn witness ?_
  intro W base args ds gs before hval hW _ hsz _
  have hW' := hW
  obtain ⟨p, q, hA, hV, hpq, hfz, hnd⟩ := hW
  rw [hv] at hV
  obtain ⟨rfl, rfl⟩ := trodVars_none hV
  rw [List.append_nil] at hpq
  subst hpq
  have hlen : ds.length = fn.params.size := by
    have : ∀ {ts : List TypeId} {vs : List Value} {ds : List (DataW H)} {ps : List MemPlace}, DataW.TrodAll enc C.prog W 0 (fun _ => true) true ts vs ds ps → ds.length = ts.length := by
      intro ts
      induction ts with
      | nil => intro vs ds ps h; cases vs <;> cases ds <;> first | rfl | exact h.elim
      | cons t ts ih =>
        intro vs ds ps h
        cases vs with
        | nil => exact h.elim
        | cons v vs =>
          cases ds with
          | nil => exact h.elim
          | cons d ds =>
            obtain ⟨_, _, _, h2, _⟩ := h
            simp [ih h2]
    rw [this hA]; simp
  rw [hvt, List.append_nil, List.append_nil] at hsz
  have hsz' : ∀ (j : Nat) t d, fn.params.toList[j]? = some t → ds[j]? = some d → SzW C.prog t d := fun j t d h1 h2 n hn => by
    have := List.all_eq_true.1 hsz n (DataW.weights_mem_each h1 h2 n hn)
    simpa using this
  refine (call W base args ds before hval hA hsz').mono fun e W' ⟨he, hb⟩ => ⟨_, he, ?_⟩
  have hs := hspec ds hlen
  refine post_of_below (pa := before) (pv := []) hW' (fun b sp hd => ?_) (fun sp hsp => ?_) (fun sp _ => ?_) (by simp) hb ?_
  · rw [List.append_nil, hs, hr]
    refine trodAll_mk1 ⟨1, ?_⟩
    simp [DataW.trod, htb, Value.cells]
  · rw [List.append_nil, hs]
    exact trodAll_below hl hb hc hA (fun x hx => hW'.lt x hx) sp hsp
  · rw [hv, List.append_nil, hs]
    rfl
  · exact ok_one hr rfl (okWide_bool_mk htb true)
end Go.VA
