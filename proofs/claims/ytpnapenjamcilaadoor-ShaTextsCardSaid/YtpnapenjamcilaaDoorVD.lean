/- An executor of the model over symbolic values, and the proof that what it shows of a function holds of every call: no condition. -/
import Derived.Test.YtpnapenjamcilaaDoorVC
import Derived.ProofKit
import Derived.SizedLaws
import Derived.LaidMore
import Derived.OpenShut
import Derived.MakeChecks
import Derived.Stop.Joined
set_option linter.unusedSimpArgs false
set_option linter.unusedVariables false
set_option linter.unusedSectionVars false
set_option linter.unnecessarySimpa false
namespace Go.VA
open Go Go.RowKit
/-! ### to refine -/
theorem errc_ne (t : Ty) : (errc t != 0) = !chk t := by unfold errc; split <;> simp_all
theorem wi_chk {a b : Ty} (h : wi a b = true) : chk a = true ∧ chk b = true := by
  simp only [wi, errc_ne] at h
  cases ha : chk a <;> cases hb : chk b <;> simp_all
theorem wi_eq (a b : Ty) : wi a b = wiR a b := by
  by_cases ha : chk a = true
  · by_cases hb : chk b = true
    · have : ∀ a ∈ tys, ∀ b ∈ tys, wi a b = wiR a b := by decide +kernel
      exact this a (chk_mem ha) b (chk_mem hb)
    · have hb : chk b = false := by simpa using hb
      simp [wi, wiR, chkR_eq, errc, hb]
  · have ha : chk a = false := by simpa using ha
    simp [wi, wiR, chkR_eq, errc, ha]
theorem fits_R (v : V) : ∀ t, fits v t = fitsR v t := by
  refine V.ind (p := fun v => ∀ t, fits v t = fitsR v t) (fun v ih t => ?_) v
  rw [fits_eq, fitsR_eq, errc_ne, chkR_eq, wi_eq]
  have : (!((items v).any fun x => !(fits x (t.2, 0)))) = (items v).all fun x => fitsR x (t.2, 0) := by
    rw [List.not_any_eq_all_not]
    exact all_congr' fun x hx => by rw [ih x (items_mem hx)]; simp
  rw [this]
theorem refL_eq : ∀ (rs : List (V → Bool)) (ys : List V) (ks ks' : List ByteArray), rs.length = ys.length → ks.length = ks'.length → (ks = [] ∨ ks.length = rs.length) →
    refL ks ks' rs ys = (eqSs ks ks' && all2 (fun r y => r y) rs ys)
  | [], [], [], [], _, _, _ => rfl
  | [], [], k :: ks, ks', _, _, h => by simp at h
  | r :: rs, y :: ys, [], [], h, _, _ => by
    have e := refL_eq rs ys [] [] (by simpa using h) rfl (.inl rfl)
    simp only [refL, e, eqSs, all2]
    cases r y <;> rfl
  | r :: rs, y :: ys, k :: ks, k' :: ks', h, h2, h3 => by
    have h3' : ks.length = rs.length := by simpa using h3
    have e := refL_eq rs ys ks ks' (by simpa using h) (by simpa using h2) (.inr h3')
    simp only [refL, e, eqSs, all2]
    cases r y <;> cases eqs k k' <;> simp
theorem refines_R (a : V) : ∀ b, refines a b = refinesR a b := by
  refine V.ind (p := fun a => ∀ b, refines a b = refinesR a b) (fun a ih b => ?_) a
  rw [refines_eq, refinesR_eq, fits_R]
  have e2 : all2 refines (items a) (items b) = all2 (fun r y => r y) ((items a).map refinesR) (items b) := by
    rw [all2_map]
    have : ∀ (l m : List V), (∀ x ∈ l, ∀ y, refines x y = refinesR x y) → all2 refines l m = all2 (fun x y => refinesR x y) l m := by
      intro l
      induction l with
      | nil => intro m h; cases m <;> rfl
      | cons x r ih2 =>
        intro m h
        cases m with
        | nil => rfl
        | cons y s => simp only [all2]; rw [h x (by simp), ih2 s fun z hz => h z (by simp [hz])]
    exact this _ _ fun x hx => ih x (items_mem hx)
  by_cases h6 : b.k == 6
  · simp [h6]
  · simp only [h6]
    by_cases hk : a.k = b.k
    · by_cases hn : nIt a = nIt b
      · have kl : (keys a).length = (keys b).length := by
          rw [keys_len, keys_len]
          by_cases h5 : a.k = 5
          · rw [nKs_5 h5, nKs_5 (hk ▸ h5), hn]
          · simp [nKs, hk ▸ h5, h5]
        have kl2 : keys a = [] ∨ (keys a).length = ((items a).map refinesR).length := by
          by_cases h5 : a.k = 5
          · right; rw [keys_len, nKs_5 h5]; simp [items_len]
          · left; simp [keys, nKs, h5]
        rw [refL_eq _ _ _ _ (by simp [items_len, hn]) kl kl2, e2]
        simp only [hn]
        cases eqSs (keys a) (keys b) <;> simp
      · have e1 : all2 refines (items a) (items b) = false := all2_len (by rw [items_len, items_len]; exact hn)
        have : ((nIt a : Int) != nIt b) = true := by simp; omega
        rw [e1, this]
        simp
    · have : (a.k != b.k) = true := by simpa using hk
      simp [this]
/-! #### itself, and what is unknown of its type -/
theorem wi_refl {t : Ty} (h : chk t = true) : wi t t = true := by simp [wi, errc_ne, h]
theorem fits_eq' (v : V) (t : Ty) : fits v t = (chk t && (t.1 == 0 || v.k == 0 || if v.k == 6 then wi v.t t else v.k == t.1 && (items v).all fun x => fits x (t.2, 0))) := by
  rw [fits_eq, errc_ne]
  have : (!((items v).any fun x => !(fits x (t.2, 0)))) = (items v).all fun x => fits x (t.2, 0) := by
    rw [List.not_any_eq_all_not]
    exact all_congr' fun x hx => by simp
  rw [this]
  by_cases h1 : chk t = true
  · simp only [h1]
    by_cases h2 : (t.1 == 0 || v.k == 0) = true
    · simp [h2]
    · simp only [h2]
      by_cases h3 : v.k == 6
      · simp [h3]
      · by_cases h4 : v.k = t.1 <;> simp [h3, h4]
  · simp [h1]
theorem refines_eq' (a b : V) : refines a b = if b.k == 6 then fits a b.t else (a.k == b.k && a.i == b.i && eqs a.s b.s && eqSs (keys a) (keys b) && all2 refines (items a) (items b)) := by
  rw [refines_eq]
  by_cases h6 : b.k == 6
  · simp [h6]
  · simp only [h6]
    by_cases h1 : a.k = b.k <;> by_cases h2 : a.i = b.i <;> by_cases h3 : eqs a.s b.s = true <;> by_cases h4 : eqSs (keys a) (keys b) = true <;> simp [h1, h2, h3, h4]
theorem fits_00 (v : V) : fits v (0, 0) = true := by rw [fits_eq']; simp; decide
theorem refines_self (v : V) (h : Ok v) : refines v v = true := by
  revert h
  refine V.ind (p := fun v => Ok v → refines v v = true) (fun v ih h => ?_) v
  have f := h.f
  rw [refines_eq']
  split
  · rename_i h6
    have h6 : v.k = 6 := by simpa using h6
    rw [fits_eq', f.t6 h6, h6]
    simp [wi_refl (f.t6 h6)]
  · simp [eqs_refl, eqSs_refl, all2_refl (p := refines) fun x hx => ih x (items_mem hx) (f.ok x (items_mem hx))]
theorem jo_cases (a b : Ty) : jo a b = (0, 0) ∨ (chk a = true ∧ chk b = true ∧ a.1 = b.1 ∧ (jo a b).1 = a.1 ∧ chk (jo a b) = true) := by
  by_cases ha : chk a = true
  · by_cases hb : chk b = true
    · have : ∀ a ∈ tys, ∀ b ∈ tys, (jo a b == (0, 0) || (a.1 == b.1 && (jo a b).1 == a.1 && chk (jo a b))) = true := by decide +kernel
      have := this a (chk_mem ha) b (chk_mem hb)
      simp only [Bool.or_eq_true, Bool.and_eq_true, beq_iff_eq] at this
      rcases this with h | ⟨⟨h1, h2⟩, h3⟩
      · exact .inl h
      · exact .inr ⟨ha, hb, h1, h2, h3⟩
    · left; simp [jo, errc, hb]
  · left; simp [jo, errc, ha]
theorem jo_0 (b : Ty) : (jo (0, 0) b).1 = 0 := by
  rcases jo_cases (0, 0) b with h | ⟨_, _, _, h, _⟩ <;> rw [h]
theorem fold_jo : ∀ (r : List Ty) (t : Ty), (r.foldl jo t).1 = 0 ∨ ((r.foldl jo t).1 = t.1 ∧ ∀ s ∈ r, chk s = true ∧ s.1 = t.1)
  | [], t => .inr ⟨rfl, by simp⟩
  | s :: r, t => by
    simp only [List.foldl_cons]
    rcases jo_cases t s with h | ⟨_, h2, h3, h4, _⟩
    · left
      rw [h]
      rcases fold_jo r (0, 0) with h5 | ⟨h5, _⟩ <;> exact h5
    · rcases fold_jo r (jo t s) with h5 | ⟨h5, h6⟩
      · exact .inl h5
      · refine .inr ⟨by rw [h5, h4], fun x hx => ?_⟩
        rcases List.mem_cons.1 hx with rfl | hx
        · exact ⟨h2, h3.symm⟩
        · have := h6 x hx; exact ⟨this.1, by rw [this.2, h4]⟩
/-- each one of a list fits the list's Of -/
theorem common_fits {l : List V} (h : ∀ x ∈ l, chk (typeOf x) = true ∧ fits x (typeOf x) = true) :
    (0 ≤ commonT (l.map typeOf) ∧ commonT (l.map typeOf) ≤ 3) ∧ ∀ x ∈ l, fits x (commonT (l.map typeOf), 0) = true := by
  cases l with
  | nil => simp [commonT]
  | cons x r =>
    simp only [List.map_cons, commonT]
    have hx := h x (by simp)
    have key := fold_jo (r.map typeOf) (typeOf x)
    generalize he : (r.map typeOf).foldl jo (typeOf x) = j at *
    have k0 : ∀ t : Ty, chk t = true → 0 ≤ t.1 ∧ (t.1 ≤ 3 → t.2 = 0) := by
      intro t ht
      have : ∀ t ∈ tys, (decide (0 ≤ t.1) && (!decide (t.1 ≤ 3) || t.2 == 0)) = true := by decide +kernel
      have := this t (chk_mem ht)
      simp at this
      refine ⟨this.1, fun h => ?_⟩
      rcases this.2 with h2 | h2 <;> omega
    rcases key with h0 | ⟨h1, h2⟩
    · have : (if decide (j.1 > 3) = true then 0 else j.1) = 0 := by rw [h0]; decide
      rw [this]
      exact ⟨by decide, fun y _ => fits_00 y⟩
    · by_cases h3 : j.1 > 3
      · rw [if_pos (by simpa using h3)]
        exact ⟨by decide, fun y _ => fits_00 y⟩
      · rw [if_neg (by simpa using h3)]
        have q := k0 _ hx.1
        refine ⟨by omega, fun y hy => ?_⟩
        have hy' : chk (typeOf y) = true ∧ (typeOf y).1 = (typeOf x).1 := by
          rcases List.mem_cons.1 hy with rfl | hy
          · exact ⟨hx.1, rfl⟩
          · exact h2 _ (List.mem_map.2 ⟨y, hy, rfl⟩)
        have q2 := k0 _ hy'.1
        have : typeOf y = (j.1, 0) := Prod.ext (by rw [hy'.2, h1]) (q2.2 (by omega))
        rw [← this]
        exact (h y hy).2
theorem chk_4 {c : Int} (h0 : 0 ≤ c) (h3 : c ≤ 3) : chk (4, c) = true ∧ chk (5, c) = true := by
  have : c = 0 ∨ c = 1 ∨ c = 2 ∨ c = 3 := by omega
  rcases this with rfl | rfl | rfl | rfl <;> decide
theorem fits_type (v : V) (h : Ok v) : chk (typeOf v) = true ∧ fits v (typeOf v) = true := by
  revert h
  refine V.ind (p := fun v => Ok v → chk (typeOf v) = true ∧ fits v (typeOf v) = true) (fun v ih h => ?_) v
  have f := h.f
  have g := f.items
  have ih' : ∀ x ∈ v.l, chk (typeOf x) = true ∧ fits x (typeOf x) = true := fun x hx => ih x hx (f.ok x hx)
  have c := common_fits ih'
  have c4 := chk_4 c.1.1 c.1.2
  have hr : v.k = 0 ∨ v.k = 1 ∨ v.k = 2 ∨ v.k = 3 ∨ v.k = 4 ∨ v.k = 5 ∨ v.k = 6 := by have := f.k0; have := f.k6; omega
  rw [fits_eq', typeOf_eq, g.1]
  rcases hr with e | e | e | e | e | e | e
  · simp only [e]; simp; decide
  · simp only [e]; simp [f.l (by omega) (by omega)]; decide
  · simp only [e]; simp [f.l (by omega) (by omega)]; decide
  · simp only [e]; simp [f.l (by omega) (by omega)]; decide
  · simp only [e]; simp [c4]; exact c.2
  · simp only [e]; simp [c4]; exact c.2
  · simp only [e]; simp [f.t6 e, wi_refl]
end Go.VA

namespace Go.VA
open Go Go.RowKit Go.ChangeShapes Go.WideShapes Go.ChangeAt

/-- what a memory holds -/
def S0 (W : World) : Rd := fun _ b o u => W.cell? ⟨b, o, none⟩ = some u
def M0 : Mz := ⟨0, fun _ => False, fun _ => False, fun _ h => h⟩
theorem Sr_M0 (W : World) : Sr M0 [] [] W = S0 W := by
  funext t b o u
  simp only [Sr, S0, eq_iff_iff, and_iff_right_iff_imp]
  intro _ h
  cases t <;> simp [MU, M0] at h
theorem relL_nil (W : World) : RelL M0 [] [] W where
  len := rfl
  bnd := by simp
  mbnd := by simp [M0]
  notM := by simp
  dist := by simp
  obj := by simp

section
variable {P : Program} {gl : Gl} {f : Nat} {args : List AV}

/-- a contract, in an open state -/
theorem acall_run {r : AV} (h : ACall P gl f args [] r) (W : World) (vals : Array Value) (hG : GlOk gl (S0 W)) (hv : RelVs [] (S0 W) args vals.toList) :
    Calls P f vals W fun e w' => ∃ u, e = .returned u ∧ Below W.heap.size W w' ∧ RelV [] (S0 w') r u := by
  have := h.run W M0 [] vals rfl (relL_nil W) (by rw [Sr_M0]; exact hG) (by rw [Sr_M0]; exact hv)
  refine this.mono fun e w' ⟨u, h1, h2, h3⟩ => ⟨u, h1, h2, ?_⟩
  rwa [Sr_M0] at h3

theorem acall_true (h : ACall P gl f args [] (boolA true)) (W : World) (vals : Array Value) (hG : GlOk gl (S0 W)) (hv : RelVs [] (S0 W) args vals.toList) :
    Calls P f vals W fun e w' => e = .returned (.bool true) ∧ Below W.heap.size W w' := by
  refine (acall_run h W vals hG hv).mono fun e w' ⟨u, h1, h2, h3⟩ => ?_
  simp only [boolA, RelV, RepC] at h3
  rw [h1, h3.1]
  exact ⟨rfl, h2⟩

theorem glOk_nil (S : Rd) : GlOk ⟨fun _ => []⟩ S := fun _ => by simp [RepCs]
end

section
variable {H : Type} {enc : TypeId × Value → H} {P : Program}

theorem post_of_below {f : Func} {s : ChangeSpec} {apart fresh handsOn again : Bool} {W W' : World} {args : Array Value} {v : Value} {ds gs : List (DataW H)} {before pa pv : List MemPlace}
    (hW : DataW.Whole enc P f.params.toList s.vars apart W args.toList ds gs before)
    (hres : ∀ (b : Nat) (sp : Nat → Bool) (hd : Bool), DataW.TrodAll enc P W' b sp hd f.resultTypes.toList (v.resultList f.resultTypes.size) (s.fn H (ds ++ gs)).results [])
    (hargs : ∀ sp : Nat → Bool, (∀ p ∈ before, sp p.block = true) → DataW.TrodAll enc P W' 0 sp true f.params.toList args.toList (s.fn H (ds ++ gs)).args pa)
    (hvars : ∀ sp : Nat → Bool, (∀ p ∈ before, sp p.block = true) → DataW.TrodVars enc P W' sp s.vars (s.fn H (ds ++ gs)).vars pv)
    (hps : before = pa ++ pv) (hb : Below W.heap.size W W')
    (hok : ∀ (j : Nat) (t : TypeId) (r : Value), f.resultTypes[j]? = some t → (v.resultList f.resultTypes.size)[j]? = some r → Value.okWide P W' .any 0 t r) :
    s.post enc P f apart fresh handsOn again W args v W' := by
  have hlt : ∀ p ∈ before, p.block < W.heap.size := fun p hp => hW.lt p hp
  have hold : ∀ p ∈ before, (fun b => decide (b < W.heap.size)) p.block = true := fun p hp => by simpa using hlt p hp
  refine ⟨ds, gs, before, [], pa, pv, hW, hres _ _ _, hargs _ hold, hvars _ hold, World.keptBut_mono (fun p hp => ⟨hp, ?_⟩) (hb.frame (· ∈ before)), fun _ => ?_⟩
  · rw [hps, List.mem_append] at hp
    exact Or.inr hp
  · obtain ⟨_, _, _, _, _, hz, hn⟩ := hW
    refine ⟨hok, _, _, ([] ++ pa) ++ pv, ⟨[] ++ pa, pv, trodAll_append (hargs _ (fun _ _ => rfl)) (hres _ _ _), hvars _ (fun _ _ => rfl), rfl, ?_, ?_⟩, ?_⟩
    · intro b off hp
      have hin : MemPlace.cell b off ∈ before := by rw [hps]; simpa using hp
      rw [hb.frozen (hlt _ hin)]
      exact hz b off hin
    · intro ha
      have := hn ha
      rw [hps] at this
      simpa using this
    · intro p hp _
      rw [hps]
      simpa using hp

def carried (P : Program) : List TypeId → Bool
  | [] => true
  | t :: ts => P.readableRec t && decide (t < P.types.size) && carried P ts

theorem trodAll_below (hl : laidOutB P = true) {W W' : World} (hb : Below W.heap.size W W') : ∀ {ts : List TypeId} {vs : List Value} {ds : List (DataW H)} {ps : List MemPlace},
    carried P ts = true → DataW.TrodAll enc P W 0 (fun _ => true) true ts vs ds ps → (∀ x ∈ ps, x.block < W.heap.size) →
    ∀ sp : Nat → Bool, (∀ p ∈ ps, sp p.block = true) → DataW.TrodAll enc P W' 0 sp true ts vs ds ps
  | [], [], [], _, _, h, _, _, _ => h
  | t :: ts, v :: vs, d :: ds, ps, hc, h, hlt, sp, hsp => by
    simp only [carried, Bool.and_eq_true, decide_eq_true_eq] at hc
    obtain ⟨p, q, h1, h2, rfl⟩ := h
    have h3 := Below.trod hl hc.1.1 hc.1.2 h1 hb fun x hx => hlt x (List.mem_append_left _ hx)
    refine ⟨p, q, ?_, trodAll_below hl hb hc.2 h2 (fun x hx => hlt x (List.mem_append_right _ hx)) sp (fun x hx => hsp x (List.mem_append_right _ hx)), rfl⟩
    exact WideElems.Trod_stays hl hc.1.1 hc.1.2 h1 (fun x hx => hb.same (hlt x (List.mem_append_left _ hx))) (fun x hx => hsp x (List.mem_append_left _ hx))
  | [], _ :: _, _, _, _, h, _, _, _ => h.elim
  | _ :: _, [], _, _, _, h, _, _, _ => h.elim
  | [], [], _ :: _, _, _, h, _, _, _ => h.elim
  | _ :: _, _ :: _, [], _, _, h, _, _, _ => h.elim
end

/-- a law's row, out of its contract: it returns true, and nothing that was there turns -/
theorem law_lifted {C : Checked} {f : FuncId} {fn : Func} {s : ChangeSpec} {conds : List PathCond} (os : Os) (started : os.Started) {H : Type} {enc : TypeId × Value → H} {tb : TypeId}
    (own : ownKnob C.prog.godebug = none) (noInit : C.prog.inits.idxOf? f = none) (hfn : C.prog.funcs[f]? = some fn)
    (hl : laidOutB C.prog = true) (hc : carried C.prog fn.params.toList = true) (hv : s.vars = []) (hr : fn.resultTypes = #[tb]) (htb : C.prog.underlying tb = some .bool)
    (hspec : ∀ ds : List (DataW H), ds.length = fn.params.size → s.fn H ds = { results := [.lit (.bool true)], args := ds })
    (witness : ∃ (w : World) (tape : Tape) (i : Input), w.os = os ∧ (w.forCall tape i).Shaped C.prog ∧ i.vars = [] ∧ Input.okWide C.prog (w.forCall tape i) .any w.heap.size f i ∧
      s.pre6 enc C.prog fn conds false (w.forCall tape i).memory i.args ∧ ({} : Assume).holds C.prog (lone (Frame.enter C.prog f i.args .normal) [] (w.forCall tape i)))
    (call : ∀ (W : World) (base : Nat) (args : Array Value) (ds : List (DataW H)) (ps : List MemPlace),
      (∀ (j : Nat) t v, fn.params[j]? = some t → args[j]? = some v → Value.okWide C.prog W .any base t v) →
      DataW.TrodAll enc C.prog W 0 (fun _ => true) true fn.params.toList args.toList ds ps →
      Calls C.prog f args W fun e w' => e = .returned (.bool true) ∧ Below W.heap.size W w') :
    ReturnsInHanded {} C os f .any (s.pre6 enc C.prog fn conds false) (s.post enc C.prog fn false true false false) := by
  refine returnsInHanded_of_change own started noInit hfn witness ?_
  intro W base args ds gs before hval hW _ _
  have hW' := hW
  obtain ⟨p, q, hA, hV, hpq, hfz, hnd⟩ := hW
  rw [hv] at hV
  obtain ⟨rfl, rfl⟩ := trodVars_none hV
  rw [List.append_nil] at hpq
  subst hpq
  have hlen : ds.length = fn.params.size := by
    have : ∀ {ts : List TypeId} {vs : List Value} {ds : List (DataW H)} {ps : List MemPlace}, DataW.TrodAll enc C.prog W 0 (fun _ => true) true ts vs ds ps → ds.length = ts.length := by
      intro ts
      induction ts with
      | nil => intro vs ds ps h; cases vs <;> cases ds <;> first | rfl | exact h.elim
      | cons t ts ih =>
        intro vs ds ps h
        cases vs with
        | nil => exact h.elim
        | cons v vs =>
          cases ds with
          | nil => exact h.elim
          | cons d ds =>
            obtain ⟨_, _, _, h2, _⟩ := h
            simp [ih h2]
    rw [this hA]; simp
  refine (call W base args ds before hval hA).mono fun e W' ⟨he, hb⟩ => ⟨_, he, ?_⟩
  have hs := hspec ds hlen
  refine post_of_below (pa := before) (pv := []) hW' (fun b sp hd => ?_) (fun sp hsp => ?_) (fun sp _ => ?_) (by simp) hb ?_
  · rw [List.append_nil, hs, hr]
    refine trodAll_mk1 ⟨1, ?_⟩
    simp [DataW.trod, htb, Value.cells]
  · rw [List.append_nil, hs]
    exact trodAll_below hl hb hc hA (fun x hx => hW'.lt x hx) sp hsp
  · rw [hv, List.append_nil, hs]
    rfl
  · exact ok_one hr rfl (okWide_bool_mk htb true)
end Go.VA

namespace Go.VA
open Go Go.RowKit Go.ChangeShapes Go.WideShapes Go.ChangeAt

section
variable {H : Type} {enc : TypeId × Value → H} {P : Program} {tb : TB} {w : World} {base : Nat} {spare : Nat → Bool} {held : Bool} {fuel : Nat} {t : TypeId} {cs : List Value} {x : DataW H × List MemPlace}

theorem cellsOf_tb (htb : TbOk P tb) (ho : (tb t).k.isOther = false) : P.cellsOf t = (tb t).sz := by
  obtain ⟨i, d, z, h1, h2, h3, h4, _⟩ := (htb t).ok ho
  unfold Program.cellsOf
  rw [h1]
  simpa using h4

theorem tr_int (htb : TbOk P tb) {k : IntKind} (hk : (tb t).k = .int k) (h : DataW.trod enc P w base spare held fuel t cs = some x) : ∃ n, cs = [.int k n] ∧ k.min ≤ n ∧ n ≤ k.max := by
  obtain ⟨d, h2, h3⟩ := (htb t).under (by rw [hk]; rfl)
  rw [hk] at h3
  simp only [TKok] at h3
  subst h3
  obtain ⟨n, h4, _, h5⟩ := DataW.trod_int h2 h
  simp only [Lit.wf, Bool.and_eq_true, decide_eq_true_eq] at h5
  exact ⟨n, h4, h5⟩

theorem tr_bool (htb : TbOk P tb) (hk : (tb t).k = .bool) (h : DataW.trod enc P w base spare held fuel t cs = some x) : ∃ b, cs = [.bool b] := by
  obtain ⟨d, h2, h3⟩ := (htb t).under (by rw [hk]; rfl)
  rw [hk] at h3
  simp only [TKok] at h3
  subst h3
  obtain ⟨n, h4, _⟩ := DataW.trod_bool h2 h
  exact ⟨n, h4⟩

theorem tr_str (htb : TbOk P tb) (hk : (tb t).k = .str) (h : DataW.trod enc P w base spare held fuel t cs = some x) : ∃ s : ByteArray, cs = [.string s] ∧ s.size ≤ maxLen := by
  obtain ⟨d, h2, h3⟩ := (htb t).under (by rw [hk]; rfl)
  rw [hk] at h3
  simp only [TKok] at h3
  subst h3
  obtain ⟨n, h4, _, h5⟩ := DataW.trod_string h2 h
  exact ⟨n, h4, h5⟩

theorem tr_struct (htb : TbOk P tb) {fs : List (Nat × Nat)} (hk : (tb t).k = .struct fs) (h : DataW.trod enc P w base spare held fuel t cs = some x) :
    cs.length = (tb t).sz ∧ ∃ m, fuel = m + 1 ∧ ∀ i o ty : Nat, fs[i]? = some (o, ty) → (tb ty).k.isOther = false → ∃ y, DataW.trod enc P w base spare held m ty ((cs.drop o).take (tb ty).sz) = some y := by
  obtain ⟨d, h2, h3⟩ := (htb t).under (by rw [hk]; rfl)
  have hsz := cellsOf_tb htb (t := t) (by rw [hk]; rfl)
  rw [hk] at h3
  simp only [TKok] at h3
  obtain ⟨f, rfl, hf⟩ := h3
  obtain ⟨xs, n, h4, _, h5, h6, h7⟩ := DataW.trod_struct h2 h
  refine ⟨by rw [h5, hsz], n, h4, fun i o ty hi ho => ?_⟩
  rw [← hf.1, List.getElem?_map, Option.map_eq_some_iff] at hi
  obtain ⟨g, k1, k2⟩ := hi
  rw [Array.getElem?_toList] at k1
  have := h7 i g k1
  simp only [Prod.mk.injEq] at k2
  rw [k2.1, k2.2, cellsOf_tb htb ho] at this
  have hlt : i < xs.length := by
    rw [h6]
    exact (Array.getElem?_eq_some_iff.1 k1).1
  rw [List.getElem?_eq_getElem hlt] at this
  exact ⟨_, this⟩

theorem tr_slice (htb : TbOk P tb) {e : TypeId} (hk : (tb t).k = .slice e) (he : (tb e).k.isOther = false) (h0 : 0 < (tb e).sz) (h : DataW.trod enc P w base spare held fuel t cs = some x) :
    ∃ a len cap m, cs = [.slice a len cap] ∧ fuel = m + 1 ∧ len ≤ cap ∧ cap ≤ maxLen ∧ (len = 0 ∨ ∃ b o, a = some ⟨b, o, none⟩ ∧ ∀ i, i < len → ∃ ce y, ce.length = (tb e).sz ∧ (∀ j, j < (tb e).sz → w.cell? ⟨b, o + i * (tb e).sz + j, none⟩ = ce[j]?) ∧
      DataW.trod enc P w base spare held m e ce = some y) := by
  obtain ⟨d, h2, h3⟩ := (htb t).under (by rw [hk]; rfl)
  have hsz := cellsOf_tb htb he
  rw [hk] at h3
  simp only [TKok] at h3
  subst h3
  rcases DataW.trod_slice h2 h with ⟨h4, _⟩ | ⟨a, len, cap, elems, rest, n, h4, h5, _, h6, h7, h8, h9, h10, _⟩
  · cases fuel with
    | zero => simp [DataW.trod] at h
    | succ m => exact ⟨none, 0, 0, m, h4, rfl, Nat.le_refl _, Nat.zero_le _, .inl rfl⟩
  · refine ⟨some a, len, cap, n, h5, h4, h7, h8, ?_⟩
    by_cases hl : len = 0
    · exact .inl hl
    · right
      have key : ∀ i, i < len → ∃ ce y, w.cells? base (a.add (i * (tb e).sz)) (tb e).sz = some ce ∧ DataW.trod enc P w base spare held n e ce = some y := by
        intro i hi
        have := h10 i hi
        rw [hsz] at this
        rw [List.getElem?_eq_getElem (by omega)] at this
        obtain ⟨ce, k1, k2⟩ := Option.bind_eq_some_iff.1 this
        exact ⟨ce, _, k1, k2⟩
      obtain ⟨b, o, spot⟩ := a
      obtain ⟨ce0, y0, k1, _⟩ := key 0 (by omega)
      obtain ⟨_, k3, k4⟩ := World.cells?_some k1
      have g0 := k4 0 h0
      rw [List.getElem?_eq_getElem (by omega)] at g0
      have hspot : spot = none := by simpa [Addr.add] using World.cell?_spot g0
      subst hspot
      refine ⟨b, o, rfl, fun i hi => ?_⟩
      obtain ⟨ce, y, k1, k2⟩ := key i hi
      obtain ⟨_, k3, k4⟩ := World.cells?_some k1
      refine ⟨ce, y, k3, fun j hj => ?_, k2⟩
      have := k4 j hj
      rw [← this]
      congr 1
      simp only [Addr.add]
      split <;> split <;> simp_all

theorem repCs_of_repVs {S : Rd} {R : Nat → Value → Prop} : ∀ {xs : List C} {us : List Value} {o : Nat}, RepVs S xs us → (∀ j u, us[j]? = some u → R (o + j) u) → RepCs S R o xs
  | [], us, o, _, _ => by simp [RepCs]
  | x :: xs, us, o, h, hR => by
    simp only [RepVs] at h
    obtain ⟨u, r, rfl, h1, h2⟩ := h
    simp only [RepCs]
    refine ⟨⟨u, hR 0 u rfl, h1⟩, repCs_of_repVs h2 fun j v hv => ?_⟩
    rw [Nat.add_assoc, Nat.add_comm 1 j]
    exact hR (j + 1) v (by simpa using hv)

/-- rows in memory -/
theorem repC_rows {S : Rd} {a : Option Addr} {len cap esz : Nat} {f : Nat → List C} {tg : Bool} (hc : len ≤ cap ∧ len ≤ 140737488355328)
    (h : len = 0 ∨ ∃ b o, a = some ⟨b, o, none⟩ ∧ ∀ i, i < len → ∃ ce : List Value, ce.length = esz ∧ (∀ j, j < esz → ∀ u, ce[j]? = some u → S tg b (o + i * esz + j) u) ∧ (f i).length = esz ∧ RepVs S (f i) ce) :
    RepC S (.sl tg esz len f) (.slice a len cap) := by
  simp only [RepC]
  refine ⟨a, cap, rfl, hc, ?_⟩
  rcases h with h | ⟨b, o, h1, h2⟩
  · exact .inl h
  · refine .inr ⟨b, o, h1, fun i hi => ?_⟩
    obtain ⟨ce, k1, k2, k3, k4⟩ := h2 i hi
    refine ⟨k3, repCs_of_repVs k4 fun j u hu => ?_⟩
    have := (List.getElem?_eq_some_iff.1 hu).1
    exact k2 j (by omega) u hu

theorem relV_agg {S : Rd} {B : List (Option BI)} {v : Value} {xs : List C} {arr : Array Value} (hv : v = .agg arr) (h : RepVs S xs arr.toList) : RelV B S (.ag xs) v := by
  simp only [RelV]
  exact ⟨arr, hv, h⟩
theorem repV_i {S : Rd} {k : IntKind} {n : Int} : RepC S (.v (.int k n)) (.int k n) := by simp [RepC, Value.oneCell']
theorem repV_b {S : Rd} {b : Bool} : RepC S (.v (.bool b)) (.bool b) := by simp [RepC, Value.oneCell']
theorem repV_s {S : Rd} {b : ByteArray} : RepC S (.v (.string b)) (.string b) := by simp [RepC, Value.oneCell']

/-- the value of an argument: its cells -/
theorem arg_agg (htb : TbOk P tb) (hk : (tb t).k.agg = true) {v : Value} {r : Reach} {b0 : Nat} (hval : Value.okWide P w r b0 t v) : ∃ arr, v = .agg arr ∧ v.cells.toList = arr.toList := by
  obtain ⟨d, h2, h3⟩ := (htb t).under (by cases h : (tb t).k <;> rw [h] at hk <;> simp_all [TK.agg, TK.isOther])
  cases h : (tb t).k <;> rw [h] at hk h3 <;> simp only [TK.agg, Bool.false_eq_true] at hk
  case struct fs =>
    simp only [TKok] at h3
    obtain ⟨f, rfl, _⟩ := h3
    obtain ⟨cs, rfl, _⟩ := okWide_struct h2 hval
    exact ⟨cs, rfl, rfl⟩
  case array n e =>
    simp only [TKok] at h3
    subst h3
    simp only [Value.okWide, h2] at hval
    obtain ⟨cs, rfl, _⟩ := hval
    exact ⟨cs, rfl, rfl⟩
end
end Go.VA

namespace Go.VA
open Go Go.RowKit Go.ChangeShapes Go.WideShapes Go.ChangeAt

section
variable {H : Type} {enc : TypeId × Value → H} {P : Program} {tb : TB} {w : World} {base : Nat} {spare : Nat → Bool} {held : Bool} {fuel : Nat} {t : TypeId} {cs : List Value} {x : DataW H × List MemPlace}

/-- each slice, text and map of a datum is of a size that memory has -/
def SzW (P : Program) (t : TypeId) (d : DataW H) : Prop := ∀ n ∈ d.weights P t, n ≤ reachBytes

theorem bytesOf_tb (htb : TbOk P tb) (ho : (tb t).k.isOther = false) : P.bytesOf t = (tb t).bytes := by
  obtain ⟨i, d, z, h1, h2, h3, h4, h5, _⟩ := (htb t).ok ho
  unfold Program.bytesOf
  rw [h1]
  simpa using h5

theorem tr_structS (htb : TbOk P tb) {fs : List (Nat × Nat)} (hk : (tb t).k = .struct fs) (h : DataW.trod enc P w base spare held fuel t cs = some x) (hs : SzW P t x.1) :
    cs.length = (tb t).sz ∧ ∃ m, fuel = m + 1 ∧ ∀ i o ty : Nat, fs[i]? = some (o, ty) → (tb ty).k.isOther = false → ∃ y, DataW.trod enc P w base spare held m ty ((cs.drop o).take (tb ty).sz) = some y ∧ SzW P ty y.1 := by
  obtain ⟨d, h2, h3⟩ := (htb t).under (by rw [hk]; rfl)
  have hsz := cellsOf_tb htb (t := t) (by rw [hk]; rfl)
  rw [hk] at h3
  simp only [TKok] at h3
  obtain ⟨f, rfl, hf⟩ := h3
  obtain ⟨xs, n, h4, h8, h5, h6, h7⟩ := DataW.trod_struct h2 h
  refine ⟨by rw [h5, hsz], n, h4, fun i o ty hi ho => ?_⟩
  rw [← hf.1, List.getElem?_map, Option.map_eq_some_iff] at hi
  obtain ⟨g, k1, k2⟩ := hi
  rw [Array.getElem?_toList] at k1
  have := h7 i g k1
  simp only [Prod.mk.injEq] at k2
  rw [k2.1, k2.2, cellsOf_tb htb ho] at this
  have hlt : i < xs.length := by
    rw [h6]
    exact (Array.getElem?_eq_some_iff.1 k1).1
  rw [List.getElem?_eq_getElem hlt] at this
  refine ⟨_, this, fun m hm => hs m ?_⟩
  rw [h8]
  simp only [DataW.weights, h2]
  exact DataW.weights_mem_each (j := i) (t := ty) (d := xs[i].1) (by rw [List.getElem?_map, Array.getElem?_toList, k1]; simp [k2.2]) (by simp [hlt]) m hm

theorem weightsAll_mem {e : TypeId} : ∀ {l : List (DataW H)} {d : DataW H}, d ∈ l → ∀ n ∈ d.weights P e, n ∈ DataW.weightsAll P e l
  | y :: r, d, hd, n, hn => by
    simp only [DataW.weightsAll, List.mem_append]
    rcases List.mem_cons.1 hd with rfl | hd
    · exact .inl hn
    · exact .inr (weightsAll_mem hd n hn)

theorem tr_sliceS (htb : TbOk P tb) {e : TypeId} (hk : (tb t).k = .slice e) (he : (tb e).k.isOther = false) (h0 : 0 < (tb e).sz) (h : DataW.trod enc P w base spare held fuel t cs = some x) (hs : SzW P t x.1) :
    ∃ a len cap m, cs = [.slice a len cap] ∧ fuel = m + 1 ∧ len ≤ cap ∧ len * (tb e).bytes ≤ 140737488351232 ∧ (len = 0 ∨ ∃ b o, a = some ⟨b, o, none⟩ ∧ ∀ i, i < len → ∃ ce y, ce.length = (tb e).sz ∧ (∀ j, j < (tb e).sz → w.cell? ⟨b, o + i * (tb e).sz + j, none⟩ = ce[j]?) ∧
      DataW.trod enc P w base spare held m e ce = some y ∧ SzW P e y.1) := by
  obtain ⟨d, h2, h3⟩ := (htb t).under (by rw [hk]; rfl)
  have hsz := cellsOf_tb htb he
  have hby := bytesOf_tb htb he
  rw [hk] at h3
  simp only [TKok] at h3
  subst h3
  rcases DataW.trod_slice h2 h with ⟨h4, _⟩ | ⟨a, len, cap, elems, rest, n, h4, h5, hx, h6, h7, h8, h9, h10, _⟩
  · cases fuel with
    | zero => simp [DataW.trod] at h
    | succ m => exact ⟨none, 0, 0, m, h4, rfl, Nat.le_refl _, by simp, .inl rfl⟩
  · have hw : (elems.length + rest.length) * P.bytesOf e ≤ reachBytes := by
      refine hs _ ?_
      rw [hx]
      simp [DataW.weights, h2]
    refine ⟨some a, len, cap, n, h5, h4, h7, ?_, ?_⟩
    · rw [← h9, ← hby]
      have : elems.length * P.bytesOf e ≤ (elems.length + rest.length) * P.bytesOf e := Nat.mul_le_mul_right _ (Nat.le_add_right _ _)
      unfold reachBytes at hw
      omega
    by_cases hl : len = 0
    · exact .inl hl
    · right
      have key : ∀ i, i < len → ∃ ce y, w.cells? base (a.add (i * (tb e).sz)) (tb e).sz = some ce ∧ DataW.trod enc P w base spare held n e ce = some y ∧ SzW P e y.1 := by
        intro i hi
        have := h10 i hi
        rw [hsz] at this
        rw [List.getElem?_eq_getElem (by omega)] at this
        obtain ⟨ce, k1, k2⟩ := Option.bind_eq_some_iff.1 this
        refine ⟨ce, _, k1, k2, fun m hm => hs m ?_⟩
        rw [hx]
        simp only [DataW.weights, h2, List.mem_cons, List.mem_append]
        refine .inr (.inl (weightsAll_mem (d := (elems[i]'(by omega)).1) (List.mem_map.2 ⟨elems[i]'(by omega), List.getElem_mem _, rfl⟩) m hm))
      obtain ⟨b, o, spot⟩ := a
      obtain ⟨ce0, y0, k1, _⟩ := key 0 (by omega)
      obtain ⟨_, k3, k4⟩ := World.cells?_some k1
      have g0 := k4 0 h0
      rw [List.getElem?_eq_getElem (by omega)] at g0
      have hspot : spot = none := by simpa [Addr.add] using World.cell?_spot g0
      subst hspot
      refine ⟨b, o, rfl, fun i hi => ?_⟩
      obtain ⟨ce, y, k1, k2, k5⟩ := key i hi
      obtain ⟨_, k3, k4⟩ := World.cells?_some k1
      refine ⟨ce, y, k3, fun j hj => ?_, k2, k5⟩
      have := k4 j hj
      rw [← this]
      congr 1
      simp only [Addr.add]
      split <;> split <;> simp_all
end

/-- a law's row, out of its contract; no argument is greater than memory -/
theorem law_liftedS {C : Checked} {f : FuncId} {fn : Func} {s : ChangeSpec} {conds : List PathCond} (os : Os) (started : os.Started) {H : Type} {enc : TypeId × Value → H} {tb : TypeId}
    (own : ownKnob C.prog.godebug = none) (noInit : C.prog.inits.idxOf? f = none) (hfn : C.prog.funcs[f]? = some fn)
    (hl : laidOutB C.prog = true) (hc : carried C.prog fn.params.toList = true) (hv : s.vars = []) (hvt : s.plain.varTypes C.prog = []) (hr : fn.resultTypes = #[tb]) (htb : C.prog.underlying tb = some .bool)
    (hspec : ∀ ds : List (DataW H), ds.length = fn.params.size → s.fn H ds = { results := [.lit (.bool true)], args := ds })
    (witness : ∃ (w : World) (tape : Tape) (i : Input), w.os = os ∧ (w.forCall tape i).Shaped C.prog ∧ i.vars = [] ∧ Input.okWide C.prog (w.forCall tape i) .any w.heap.size f i ∧
      s.pre6 enc C.prog fn conds false (w.forCall tape i).memory i.args ∧ ({} : Assume).holds C.prog (lone (Frame.enter C.prog f i.args .normal) [] (w.forCall tape i)))
    (call : ∀ (W : World) (base : Nat) (args : Array Value) (ds : List (DataW H)) (ps : List MemPlace),
      (∀ (j : Nat) t v, fn.params[j]? = some t → args[j]? = some v → Value.okWide C.prog W .any base t v) →
      DataW.TrodAll enc C.prog W 0 (fun _ => true) true fn.params.toList args.toList ds ps →
      (∀ (j : Nat) t d, fn.params.toList[j]? = some t → ds[j]? = some d → SzW C.prog t d) →
      Calls C.prog f args W fun e w' => e = .returned (.bool true) ∧ Below W.heap.size W w') :
    ReturnsInHanded {} C os f .any (s.pre6 enc C.prog fn conds false) (s.post enc C.prog fn false true false false) := by
  refine returnsInHanded_of_change_sized own started noInit hfn witness ?_
  intro W base args ds gs before hval hW _ hsz _
  have hW' := hW
  obtain ⟨p, q, hA, hV, hpq, hfz, hnd⟩ := hW
  rw [hv] at hV
  obtain ⟨rfl, rfl⟩ := trodVars_none hV
  rw [List.append_nil] at hpq
  subst hpq
  have hlen : ds.length = fn.params.size := by
    have : ∀ {ts : List TypeId} {vs : List Value} {ds : List (DataW H)} {ps : List MemPlace}, DataW.TrodAll enc C.prog W 0 (fun _ => true) true ts vs ds ps → ds.length = ts.length := by
      intro ts
      induction ts with
      | nil => intro vs ds ps h; cases vs <;> cases ds <;> first | rfl | exact h.elim
      | cons t ts ih =>
        intro vs ds ps h
        cases vs with
        | nil => exact h.elim
        | cons v vs =>
          cases ds with
          | nil => exact h.elim
          | cons d ds =>
            obtain ⟨_, _, _, h2, _⟩ := h
            simp [ih h2]
    rw [this hA]; simp
  rw [hvt, List.append_nil, List.append_nil] at hsz
  have hsz' : ∀ (j : Nat) t d, fn.params.toList[j]? = some t → ds[j]? = some d → SzW C.prog t d := fun j t d h1 h2 n hn => by
    have := List.all_eq_true.1 hsz n (DataW.weights_mem_each h1 h2 n hn)
    simpa using this
  refine (call W base args ds before hval hA hsz').mono fun e W' ⟨he, hb⟩ => ⟨_, he, ?_⟩
  have hs := hspec ds hlen
  refine post_of_below (pa := before) (pv := []) hW' (fun b sp hd => ?_) (fun sp hsp => ?_) (fun sp _ => ?_) (by simp) hb ?_
  · rw [List.append_nil, hs, hr]
    refine trodAll_mk1 ⟨1, ?_⟩
    simp [DataW.trod, htb, Value.cells]
  · rw [List.append_nil, hs]
    exact trodAll_below hl hb hc hA (fun x hx => hW'.lt x hx) sp hsp
  · rw [hv, List.append_nil, hs]
    rfl
  · exact ok_one hr rfl (okWide_bool_mk htb true)
end Go.VA

namespace Go.VA
open Go Go.RowKit Go.ChangeShapes Go.WideShapes Go.ChangeAt
section
variable {H : Type} {enc : TypeId × Value → H} {P : Program} {tb : TB} {w W : World} {base : Nat} {sp : Nat → Bool} {held : Bool} {t : TypeId}
/-- the value of an argument that is a slice: its one cell -/
theorem arg_slice (htb : TbOk P tb) {e : TypeId} (hk : (tb t).k = .slice e) {v : Value} {r : Reach} {b0 : Nat} (hval : Value.okWide P w r b0 t v) : v.cells.toList = [v] := by
  obtain ⟨d, h2, h3⟩ := (htb t).under (by rw [hk]; rfl)
  rw [hk] at h3
  simp only [TKok] at h3
  subst h3
  cases v <;> first | rfl | (exfalso; simp [Value.okWide, h2, Cell.okWide, Cell.ok] at hval)
/-- bytes that are handed over -/
theorem open_bytes (htb : TbOk P tb) {e : TypeId} (hk : (tb t).k = .slice e) (he : (tb e).k = .int .u8) (h1 : (tb e).sz = 1) (hb : (tb e).bytes = 1) {v : Value} {d : DataW H} {ps : List MemPlace} {r : Reach} {b0 : Nat}
    (hval : Value.okWide P W r b0 t v) (hd : DataW.Trod enc P W base sp held t v d ps) (hs : SzW P t d) :
    ∃ s : ByteArray, RelV [] (S0 W) (.c (.sl false 1 s.size (strCells s))) v := by
  have hc := arg_slice htb hk hval
  obtain ⟨fuel, hf⟩ := hd
  rw [hc] at hf
  obtain ⟨a, len, cap, m, e3, hm3, hlc, hcap0, hrows⟩ := tr_sliceS htb hk (by rw [he]; rfl) (by rw [h1]; decide) hf hs
  simp only [List.cons.injEq, and_true] at e3
  subst e3
  rw [hb] at hcap0
  rcases hrows with h0 | ⟨b, o, rfl, hr⟩
  · subst h0
    exact ⟨ByteArray.empty, by simp only [RelV]; exact repC_rows ⟨hlc, by simp⟩ (.inl rfl)⟩
  · have hex : ∀ i : Fin len, ∃ x : UInt8, W.cell? ⟨b, o + i * 1, none⟩ = some (.int .u8 (x.toNat : Int)) := by
      intro ⟨i, hi⟩
      obtain ⟨ce, y, hl, hc, ht, _⟩ := hr i hi
      obtain ⟨n, rfl, h0, h255⟩ := tr_int htb he ht
      have h0 : 0 ≤ n := h0
      have h255 : n ≤ 255 := h255
      refine ⟨UInt8.ofNat n.toNat, ?_⟩
      have := hc 0 (by rw [h1]; decide)
      rw [h1] at this
      simp only [Nat.add_zero] at this
      rw [this]
      have e : ((UInt8.ofNat n.toNat).toNat : Int) = n := by
        rw [UInt8.toNat_ofNat']
        omega
      rw [e]; rfl
    have hf := fun i => Classical.choose_spec (hex i)
    refine ⟨⟨(List.ofFn fun i => Classical.choose (hex i)).toArray⟩, ?_⟩
    have hsz : (ByteArray.mk (List.ofFn fun i => Classical.choose (hex i)).toArray).size = len := by simp [ByteArray.size]
    rw [hsz]
    simp only [RelV]
    refine repC_rows ⟨hlc, by omega⟩ (.inr ⟨b, o, rfl, fun i hi => ?_⟩)
    refine ⟨[.int .u8 ((Classical.choose (hex ⟨i, hi⟩)).toNat : Int)], rfl, fun j hj u hu => ?_, rfl, ?_⟩
    · obtain rfl : j = 0 := by omega
      simp at hu
      subst hu
      have := hf ⟨i, hi⟩
      simpa [S0] using this
    · have : strCells (ByteArray.mk (List.ofFn fun i => Classical.choose (hex i)).toArray) i = [.v (.int .u8 ((Classical.choose (hex ⟨i, hi⟩)).toNat : Int))] := by
        simp [strCells, hi]
      rw [this]
      simp only [RepVs]
      exact ⟨_, [], rfl, repV_i, rfl⟩
end
end Go.VA


namespace Go.VA
open Go Go.RowKit Go.ChangeShapes Go.WideShapes Go.ChangeAt
section
variable {P : Program} {tb : TB} {W : World}
/-- a table of numbers, as its datum says -/
theorem laid_ints (htb : TbOk P tb) {n e : Nat} {k : IntKind} {t : TypeId} (hk : (tb t).k = .array n e) (he : (tb e).k = .int k) (h1 : (tb e).sz = 1) {l : List Int} {r : List (String × DataW Unit)} {ps : List MemPlace} {nm : String} {g : Nat}
    (hg : P.globalNamed nm = some g) (ht : (P.globals[g]?).map (·.type) = some t) (h : DataW.LaidVars P W ((nm, .agg (l.map fun i => .lit (.int k i))) :: r) ps) :
    RepCs (S0 W) (S0 W false g) 0 (l.map fun i => .v (.int k i)) ∧ ∃ q, DataW.LaidVars P W r q := by
  obtain ⟨g', t', cs, fuel, p, q, hg', ht', hv, hd, hr, _⟩ := h
  obtain rfl := Option.some.inj (hg.symm.trans hg')
  obtain rfl := Option.some.inj (ht.symm.trans ht')
  refine ⟨?_, q, hr⟩
  obtain ⟨d, hd2, hT⟩ := (htb t).under (by simp [hk, TK.isOther])
  rw [hk] at hT
  simp only [TKok] at hT
  subst hT
  obtain ⟨d, hd3, hT⟩ := (htb e).under (by simp [he, TK.isOther])
  rw [he] at hT
  simp only [TKok] at hT
  subst hT
  have hce : P.cellsOf e = 1 := by rw [cellsOf_tb htb (by rw [he]; rfl), h1]
  obtain ⟨xs, m, _, hx, hlen, hn, hel⟩ := DataW.trod_array hd2 hd
  simp only [Prod.mk.injEq, DataW.agg.injEq] at hx
  have hx1 := hx.1
  have hll : l.length = n := by have := congrArg List.length hx1; simpa [hn] using this
  refine RepCs.mk _ _ fun j x hj => ?_
  rw [List.getElem?_map, Option.map_eq_some_iff] at hj
  obtain ⟨i, hi, rfl⟩ := hj
  have hjl : j < n := by have := (List.getElem?_eq_some_iff.1 hi).1; omega
  refine ⟨.int k i, ?_, by simp [RepC, Value.oneCell']⟩
  have hy := hel j hjl
  rw [List.getElem?_eq_getElem (by omega), hce] at hy
  obtain ⟨z, e1, e2, _⟩ := DataW.trod_int hd3 hy
  have hq : (xs.map (·.1))[j]? = (l.map fun i => (DataW.lit (.int k i) : DataW Unit))[j]? := by rw [hx1]
  rw [List.getElem?_map, List.getElem?_map, hi, List.getElem?_eq_getElem (by omega)] at hq
  simp only [Option.map_some, Option.some.injEq] at hq
  rw [e2] at hq
  simp only [DataW.lit.injEq, Lit.int.injEq, true_and] at hq
  subst hq
  show W.cell? _ = _
  rw [Nat.zero_add, World.var?_cell hg hv j, ← Array.getElem?_toList]
  have := congrArg (fun l => l[0]?) e1
  simpa [List.getElem?_take, List.getElem?_drop] using this
end

/-- a law's row, out of its contract, where variables hold what is listed -/
theorem law_liftedL {C : Checked} {f : FuncId} {fn : Func} {s : ChangeSpec} {conds : List PathCond} (laid : List (String × DataW Unit)) (os : Os) (started : os.Started) {H : Type} {enc : TypeId × Value → H} {tb : TypeId}
    (own : ownKnob C.prog.godebug = none) (noInit : C.prog.inits.idxOf? f = none) (hfn : C.prog.funcs[f]? = some fn)
    (hl : laidOutB C.prog = true) (hc : carried C.prog fn.params.toList = true) (hv : s.vars = []) (hvt : s.plain.varTypes C.prog = []) (hr : fn.resultTypes = #[tb]) (htb : C.prog.underlying tb = some .bool)
    (hspec : ∀ ds : List (DataW H), ds.length = fn.params.size → s.fn H ds = { results := [.lit (.bool true)], args := ds })
    (witness : ∃ (w : World) (tape : Tape) (i : Input), w.os = os ∧ (w.forCall tape i).Shaped C.prog ∧ i.vars = [] ∧ Input.okWide C.prog (w.forCall tape i) .any w.heap.size f i ∧
      ((s.pre enc C.prog fn conds false (w.forCall tape i).memory i.args ∧ laidMetH C.prog laid (w.forCall tape i).memory) ∧ sizedMet enc C.prog fn (OpenSpec.ofChange s) false (w.forCall tape i).memory i.args) ∧ ({} : Assume).holds C.prog (lone (Frame.enter C.prog f i.args .normal) [] (w.forCall tape i)))
    (call : ∀ (W : World) (base : Nat) (args : Array Value) (ds : List (DataW H)) (ps : List MemPlace),
      (∀ (j : Nat) t v, fn.params[j]? = some t → args[j]? = some v → Value.okWide C.prog W .any base t v) →
      DataW.TrodAll enc C.prog W 0 (fun _ => true) true fn.params.toList args.toList ds ps →
      (∀ (j : Nat) t d, fn.params.toList[j]? = some t → ds[j]? = some d → SzW C.prog t d) →
      laidMetH C.prog laid W →
      Calls C.prog f args W fun e w' => e = .returned (.bool true) ∧ Below W.heap.size W w') :
    ReturnsInHanded {} C os f .any (fun w args => (s.pre enc C.prog fn conds false w args ∧ laidMetH C.prog laid w) ∧ sizedMet enc C.prog fn (OpenSpec.ofChange s) false w args) (s.post enc C.prog fn false true false false) := by
  refine returnsInHanded_of_change_and (X := fun w _ => laidMetH C.prog laid w) (fun _ _ _ hh h => h.of_heap hh) own started noInit hfn witness ?_
  intro W base args ds gs before hval hW _ hsz hX _
  have hW' := hW
  obtain ⟨p, q, hA, hV, hpq, hfz, hnd⟩ := hW
  rw [hv] at hV
  obtain ⟨rfl, rfl⟩ := trodVars_none hV
  rw [List.append_nil] at hpq
  subst hpq
  have hlen : ds.length = fn.params.size := by
    have : ∀ {ts : List TypeId} {vs : List Value} {ds : List (DataW H)} {ps : List MemPlace}, DataW.TrodAll enc C.prog W 0 (fun _ => true) true ts vs ds ps → ds.length = ts.length := by
      intro ts
      induction ts with
      | nil => intro vs ds ps h; cases vs <;> cases ds <;> first | rfl | exact h.elim
      | cons t ts ih =>
        intro vs ds ps h
        cases vs with
        | nil => exact h.elim
        | cons v vs =>
          cases ds with
          | nil => exact h.elim
          | cons d ds =>
            obtain ⟨_, _, _, h2, _⟩ := h
            simp [ih h2]
    rw [this hA]; simp
  rw [hvt, List.append_nil, List.append_nil] at hsz
  have hsz' : ∀ (j : Nat) t d, fn.params.toList[j]? = some t → ds[j]? = some d → SzW C.prog t d := fun j t d h1 h2 n hn => by
    have := List.all_eq_true.1 hsz n (DataW.weights_mem_each h1 h2 n hn)
    simpa using this
  refine (call W base args ds before hval hA hsz' hX).mono fun e W' ⟨he, hb⟩ => ⟨_, he, ?_⟩
  have hs := hspec ds hlen
  refine post_of_below (pa := before) (pv := []) hW' (fun b sp hd => ?_) (fun sp hsp => ?_) (fun sp _ => ?_) (by simp) hb ?_
  · rw [List.append_nil, hs, hr]
    refine trodAll_mk1 ⟨1, ?_⟩
    simp [DataW.trod, htb, Value.cells]
  · rw [List.append_nil, hs]
    exact trodAll_below hl hb hc hA (fun x hx => hW'.lt x hx) sp hsp
  · rw [hv, List.append_nil, hs]
    rfl
  · exact ok_one hr rfl (okWide_bool_mk htb true)
end Go.VA

namespace Go.VA
open Go Go.RowKit

/-! ### Arrays of words -/
@[irreducible] noncomputable def arrC (g : Nat → C) (n : Nat) : List C := Classical.choose (⟨(List.range n).map g, rfl⟩ : ∃ l, l = (List.range n).map g)
theorem arrC_def (g : Nat → C) (n : Nat) : arrC g n = (List.range n).map g := by unfold arrC; exact Classical.choose_spec (⟨(List.range n).map g, rfl⟩ : ∃ l, l = (List.range n).map g)
theorem arrC_length (g : Nat → C) (n : Nat) : (arrC g n).length = n := by rw [arrC_def]; simp
theorem arrC_get (g : Nat → C) (n i : Nat) : (arrC g n)[i]? = if i < n then some (g i) else none := by
  rw [arrC_def]
  simp only [List.getElem?_map]
  by_cases h : i < n
  · rw [if_pos h, List.getElem?_range h]; rfl
  · rw [if_neg h, List.getElem?_eq_none (by simp; omega)]; rfl
theorem arrC_ext {l : List C} {g : Nat → C} {n : Nat} (h : l.length = n) (k : ∀ i, i < n → l[i]? = some (g i)) : l = arrC g n := by
  apply List.ext_getElem?
  intro i
  rw [arrC_get]
  by_cases hi : i < n
  · rw [if_pos hi, k i hi]
  · rw [if_neg hi, List.getElem?_eq_none (by omega)]
theorem arrC_congr {f g : Nat → C} {n : Nat} (h : ∀ i, i < n → f i = g i) : arrC f n = arrC g n :=
  arrC_ext (arrC_length f n) fun i hi => by rw [arrC_get, if_pos hi, h i hi]
theorem arrC_one (g : Nat → C) : arrC g 1 = [g 0] := by rw [arrC_def]; rfl
theorem cut_drop {α : Type} : ∀ (xs : List α) (k n : Nat), k + n ≤ xs.length → cut xs k n = some ((xs.drop k).take n)
  | [], 0, 0, _ => rfl
  | _ :: _, 0, 0, _ => rfl
  | [], 0, n + 1, h => by simp at h
  | [], k + 1, n, h => by simp at h
  | x :: r, 0, n + 1, h => by
    have := cut_drop r 0 n (by simp at h; omega)
    simp only [cut, this]
    simp
  | x :: r, k + 1, n, h => by
    have := cut_drop r k n (by simp at h; omega)
    simp only [cut, this]
    simp
theorem arrC_cut (g : Nat → C) (n k m : Nat) (h : k + m ≤ n) : cut (arrC g n) k m = some (arrC (fun i => g (k + i)) m) := by
  rw [cut_drop _ _ _ (by rw [arrC_length]; exact h)]
  congr 1
  refine arrC_ext (by rw [List.length_take, List.length_drop, arrC_length]; omega) fun i hi => ?_
  rw [List.getElem?_take, if_pos hi, List.getElem?_drop, arrC_get, if_pos (by omega)]
theorem arrC_cut1 (g : Nat → C) (n k : Nat) (h : k < n) : cut (arrC g n) k 1 = some [g k] := by
  rw [arrC_cut g n k 1 h, arrC_one]; rfl
theorem arrC_cutAll (g : Nat → C) (n : Nat) : cut (arrC g n) 0 n = some (arrC g n) := by
  rw [arrC_cut g n 0 n (by omega)]; congr 1; exact arrC_congr fun i _ => by rw [Nat.zero_add]
noncomputable abbrev arrA (g : Nat → C) (n : Nat) : List AV := (arrC g n).map AV.c
theorem cut_map {α β : Type} (f : α → β) : ∀ (xs : List α) (k n : Nat), k + n ≤ xs.length → cut (xs.map f) k n = some (((xs.drop k).take n).map f) := by
  intro xs k n h
  rw [cut_drop _ _ _ (by simpa using h), List.map_take, List.map_drop]
theorem arrA_cut1 (g : Nat → C) (n k : Nat) (h : k < n) : cut (List.map AV.c (arrC g n)) k 1 = some [.c (g k)] := by
  rw [cut_map _ _ _ _ (by rw [arrC_length]; exact h)]
  have := arrC_cut1 g n k h
  rw [cut_drop _ _ _ (by rw [arrC_length]; exact h)] at this
  simp only [Option.some.injEq] at this
  rw [this]; rfl
theorem arrA_cutAll (g : Nat → C) (n : Nat) : cut (List.map AV.c (arrC g n)) 0 n = some (List.map AV.c (arrC g n)) := by
  rw [cut_map _ _ _ _ (by rw [arrC_length]; omega)]
  have := arrC_cutAll g n
  rw [cut_drop _ _ _ (by rw [arrC_length]; omega)] at this
  simp only [Option.some.injEq] at this
  rw [this]
theorem arrA_len (g : Nat → C) (n : Nat) : (List.map AV.c (arrC g n)).length = n := by rw [List.length_map, arrC_length]
theorem arrA_lenA (g : Nat → C) (n : Nat) : lenA (List.map AV.c (arrC g n)) = n := by rw [lenA_eq, arrA_len]
theorem toCs_mapC : ∀ (xs : List C), toCs (xs.map AV.c) = some xs
  | [] => rfl
  | x :: r => by simp [toCs, toCs_mapC r]
theorem layA_ok : ∀ (ys : List AV) (o : Nat) (xs : List AV), o + xs.length ≤ ys.length → ∃ zs, layA ys o xs = some zs
  | ys, 0, [], _ => ⟨ys, by cases ys <;> rfl⟩
  | [], 0, x :: xs, h => by simp at h
  | [], o + 1, xs, h => by simp at h
  | y :: r, 0, x :: xs, h => by
    obtain ⟨z, hz⟩ := layA_ok r 0 xs (by simpa using h)
    exact ⟨x :: z, by simp [layA, hz]⟩
  | y :: r, o + 1, xs, h => by
    obtain ⟨z, hz⟩ := layA_ok r o xs (by simp at h; omega)
    exact ⟨y :: z, by simp [layA, hz]⟩
theorem layA_eq {ys xs zs : List AV} {o : Nat} (hl : zs.length = ys.length) (h : o + xs.length ≤ ys.length) (hz : ∀ i, zs[i]? = if o ≤ i ∧ i < o + xs.length then xs[i - o]? else ys[i]?) : layA ys o xs = some zs := by
  obtain ⟨z, k⟩ := layA_ok ys o xs h
  obtain ⟨_, h2, h3⟩ := layA_spec _ _ _ _ k
  rw [k]; congr 1
  apply List.ext_getElem?
  intro i
  rw [h3, hz]
theorem layA_all {ys : List AV} (g : Nat → C) (n : Nat) (h : ys.length = n) : layA ys 0 (List.map AV.c (arrC g n)) = some (List.map AV.c (arrC g n)) := by
  refine layA_eq (by rw [arrA_len, h]) (by rw [arrA_len, h]; omega) fun i => ?_
  rw [arrA_len]
  by_cases hi : i < n
  · rw [if_pos (by omega), Nat.sub_zero]
  · rw [if_neg (by omega), List.getElem?_eq_none (by rw [arrA_len]; omega), List.getElem?_eq_none (by omega)]
def updC (g : Nat → C) (k : Nat) (x : C) (i : Nat) : C := if i = k then x else g i
theorem arrA_lay1 (g : Nat → C) (n k : Nat) (x : C) (h : k < n) : layA (List.map AV.c (arrC g n)) k [.c x] = some (List.map AV.c (arrC (updC g k x) n)) := by
  refine layA_eq (by rw [arrA_len, arrA_len]) (by rw [arrA_len]; simp; omega) fun i => ?_
  simp only [List.length_singleton, List.getElem?_map, arrC_get, updC]
  by_cases hi : i = k
  · subst hi; rw [if_pos (by omega), if_pos h, if_pos rfl]; simp
  · have hn : ¬ (k ≤ i ∧ i < k + 1) := by omega
    simp only [hi, if_false]
    rw [if_neg hn]
/-- four cells laid over an array's -/
def upd4 (g : Nat → C) (k : Nat) (a b c d : C) (i : Nat) : C := if i = k then a else if i = k + 1 then b else if i = k + 2 then c else if i = k + 3 then d else g i
theorem arrA_lay4 (g : Nat → C) (n k : Nat) (a b c d : C) (h : k + 4 ≤ n) : layA (List.map AV.c (arrC g n)) k [.c a, .c b, .c c, .c d] = some (List.map AV.c (arrC (upd4 g k a b c d) n)) := by
  refine layA_eq (by rw [arrA_len, arrA_len]) (by rw [arrA_len]; simp; omega) fun i => ?_
  simp only [List.length_cons, List.length_nil, List.getElem?_map, arrC_get, upd4]
  by_cases hi : k ≤ i ∧ i < k + (0 + 1 + 1 + 1 + 1)
  · rw [if_pos hi, if_pos (by omega)]
    have : i = k ∨ i = k + 1 ∨ i = k + 2 ∨ i = k + 3 := by omega
    rcases this with rfl | rfl | rfl | rfl
    · simp
    · simp
    · rw [if_neg (by omega), if_neg (by omega), if_pos rfl]; simp
    · rw [if_neg (by omega), if_neg (by omega), if_neg (by omega), if_pos rfl]; simp
  · rw [if_neg hi]
    by_cases h2 : i < n
    · rw [if_pos h2, if_neg (by omega), if_neg (by omega), if_neg (by omega), if_neg (by omega), if_pos h2]
    · rw [if_neg h2, if_neg h2]
theorem nthCC_arr (g : Nat → C) (n i : Nat) (h : i < n) : nthCC (arrC g n) i = g i := nthCC_get _ _ _ (by rw [arrC_get, if_pos h])
theorem LeAs_c (k n : Nat) : ∀ (xs : List C), LeAs k n (xs.map AV.c) (xs.map AV.c)
  | [] => trivial
  | x :: r => ⟨⟨LeE.of (Le.refl _), rfl⟩, LeAs_c k n r⟩
theorem LeAs_of {k n : Nat} {xs : List AV} {g : Nat → C} {m : Nat} (h : xs = List.map AV.c (arrC g m)) : LeAs k n xs (List.map AV.c (arrC g m)) := by subst h; exact LeAs_c k n _
theorem LeAs_arr {k n m : Nat} {f g : Nat → C} (h : ∀ i, i < m → f i = g i) : LeAs k n (List.map AV.c (arrC f m)) (List.map AV.c (arrC g m)) := by
  have e := arrC_congr h
  rw [e]; exact LeAs_c _ _ _
theorem lts_c (n : Nat) : ∀ (xs : List C), AV.lts n (xs.map AV.c) = true
  | [] => rfl
  | x :: r => by simp [AV.lts, AV.lt, lts_c n r]
theorem mkAgg_arr (g : Nat → C) (n : Nat) : mkAgg (List.map AV.c (arrC g n)) = .ag (arrC g n) := by unfold mkAgg; rw [show toCs (List.map AV.c (arrC g n)) = some (arrC g n) from toCs_mapC _]
theorem mkA_arr {a : Bool} {g : Nat → C} {n : Nat} (h : a = true) : mkA a (List.map AV.c (arrC g n)) = .ag (arrC g n) := by subst h; unfold mkA; simp only; rw [show toCs (List.map AV.c (arrC g n)) = some (arrC g n) from toCs_mapC _]
theorem mkC_arr {a : Bool} {g : Nat → C} {n : Nat} (h : a = true) : mkC a (arrC g n) = .ag (arrC g n) := by subst h; rfl
theorem allScalar_arr {g : Nat → C} {n : Nat} (h : ∀ i, (g i).scalar = true) : allScalar (arrC g n) = true := by
  have : ∀ l : List C, (∀ x ∈ l, x.scalar = true) → allScalar l = true := by
    intro l; induction l with
    | nil => intro _; rfl
    | cons x r ih => intro hl; simp only [allScalar, hl x (by simp)]; exact ih fun y hy => hl y (by simp [hy])
  refine this _ fun x hx => ?_
  rw [arrC_def] at hx
  obtain ⟨i, _, rfl⟩ := List.mem_map.1 hx
  exact h i

/-- at a place that is reckoned -/
theorem arrC_cutZ {g : Nat → C} {n o z s m : Nat} (hm : m = 1) (hs : s = 1) (h : o + z < n) : cut (arrC g n) (o + z * s) m = some [g (o + z)] := by
  subst hm; subst hs; rw [Nat.mul_one]; exact arrC_cut1 g n _ h
theorem arrA_cutZ {g : Nat → C} {n o z s m : Nat} (hm : m = 1) (hs : s = 1) (h : o + z < n) : cut (List.map AV.c (arrC g n)) (o + z * s) m = some [.c (g (o + z))] := by
  subst hm; subst hs; rw [Nat.mul_one]; exact arrA_cut1 g n _ h
theorem arrA_layZ {g : Nat → C} {n o z s : Nat} {x : C} (hs : s = 1) (h : o + z < n) : layA (List.map AV.c (arrC g n)) (o + z * s) [.c x] = some (List.map AV.c (arrC (updC g (o + z) x) n)) := by
  subst hs; rw [Nat.mul_one]; exact arrA_lay1 g n _ x h
theorem arrA_layX {g : Nat → C} {n o z s : Nat} {x : AV} {y : C} (hx : x = .c y) (hs : s = 1) (h : o + z < n) : layA (List.map AV.c (arrC g n)) (o + z * s) [x] = some (List.map AV.c (arrC (updC g (o + z) y) n)) := by
  subst hx; exact arrA_layZ hs h
theorem arrA_cutN {g : Nat → C} {n m : Nat} (h : m = n) : cut (List.map AV.c (arrC g n)) 0 m = some (List.map AV.c (arrC g n)) := by subst h; exact arrA_cutAll g m
theorem arrC_cutN {g : Nat → C} {n m : Nat} (h : m = n) : cut (arrC g n) 0 m = some (arrC g n) := by subst h; exact arrC_cutAll g m
theorem layA_allN {ys : List AV} {g : Nat → C} {n : Nat} (h : ys.length = n) : layA ys 0 (List.map AV.c (arrC g n)) = some (List.map AV.c (arrC g n)) := layA_all g n h
theorem toCs_arr {g : Nat → C} {n : Nat} : toCs (List.map AV.c (arrC g n)) = some (arrC g n) := toCs_mapC _

/-! ### Words of 32 bits -/
abbrev W := BitVec 32
/-- a word's number -/
@[irreducible] noncomputable def wI (x : W) : Int := Classical.choose (⟨(x.toNat : Int), rfl⟩ : ∃ i, i = (x.toNat : Int))
theorem wI_def (x : W) : wI x = (x.toNat : Int) := by unfold wI; exact Classical.choose_spec (⟨(x.toNat : Int), rfl⟩ : ∃ i, i = (x.toNat : Int))
noncomputable abbrev cw (x : W) : C := .v (.int .u32 (wI x))
theorem wI_zero : wI 0 = 0 := by rw [wI_def]; rfl
theorem wI_nonneg (x : W) : 0 ≤ wI x := by rw [wI_def]; omega
theorem wI_lt (x : W) : wI x < 4294967296 := by rw [wI_def]; have := x.isLt; omega
theorem ofInt_wI (x : W) : BitVec.ofInt 32 (wI x) = x := by rw [wI_def]; simp
theorem wrap32 (n : Int) : IntKind.u32.wrap n = n % 4294967296 := rfl
theorem w_of (n : Nat) : IntKind.u32.wrap (n : Int) = wI (BitVec.ofNat 32 n) := by
  rw [wrap32, wI_def, BitVec.toNat_ofNat]; omega
theorem w_add (x y : W) : IntKind.u32.wrap (wI x + wI y) = wI (x + y) := by
  rw [wrap32, wI_def, wI_def, wI_def, BitVec.toNat_add]; omega
theorem w_sub (n : Int) (x : W) (h : n = 4294967295) : IntKind.u32.wrap (n - wI x) = wI (~~~ x) := by
  subst h
  rw [wrap32, wI_def, wI_def, BitVec.toNat_not]; have := x.isLt; omega
theorem w_xor (x y : W) : bitsI .xor .u32 (wI x) (wI y) = wI (x ^^^ y) := by
  show IntKind.u32.wrap (((BitVec.ofInt 32 (wI x) ^^^ BitVec.ofInt 32 (wI y)).toNat : Nat) : Int) = _
  rw [ofInt_wI, ofInt_wI, wrap32, wI_def]; have := (x ^^^ y).isLt; omega
theorem w_and (x y : W) : bitsI .and .u32 (wI x) (wI y) = wI (x &&& y) := by
  show IntKind.u32.wrap (((BitVec.ofInt 32 (wI x) &&& BitVec.ofInt 32 (wI y)).toNat : Nat) : Int) = _
  rw [ofInt_wI, ofInt_wI, wrap32, wI_def]; have := (x &&& y).isLt; omega
theorem w_or (x y : W) : bitsI .or .u32 (wI x) (wI y) = wI (x ||| y) := by
  show IntKind.u32.wrap (((BitVec.ofInt 32 (wI x) ||| BitVec.ofInt 32 (wI y)).toNat : Nat) : Int) = _
  rw [ofInt_wI, ofInt_wI, wrap32, wI_def]; have := (x ||| y).isLt; omega
theorem w_not (x : W) : bitsI .xor .u32 4294967295 (wI x) = wI (~~~ x) := by
  show IntKind.u32.wrap (((BitVec.ofInt 32 4294967295 ^^^ BitVec.ofInt 32 (wI x)).toNat : Nat) : Int) = _
  rw [ofInt_wI, wrap32, wI_def]
  have e : BitVec.ofInt 32 4294967295 ^^^ x = ~~~ x := by
    rw [show BitVec.ofInt 32 4294967295 = BitVec.allOnes 32 from by decide, BitVec.allOnes_xor]
  rw [e]; have := (~~~ x).isLt; omega
theorem w_shl (x : W) (k : Nat) (h : k ≤ 32) : shlI .u32 (wI x) (k : Int) = wI (x <<< k) := by
  have e : shlI .u32 (wI x) (k : Int) = IntKind.u32.wrap (wI x * 2 ^ (min k 32)) := rfl
  rw [e, Nat.min_eq_left h, wrap32, wI_def, wI_def, BitVec.toNat_shiftLeft, Nat.shiftLeft_eq]
  rw [Int.natCast_emod, Int.natCast_mul, Int.natCast_pow]
  rfl
theorem w_shr (x : W) (k : Nat) (h : k ≤ 32) : shrI .u32 (wI x) (k : Int) = wI (x >>> k) := by
  have e : shrI .u32 (wI x) (k : Int) = (wI x).fdiv (2 ^ (min k 32)) := rfl
  rw [e, Nat.min_eq_left h, wI_def, wI_def, BitVec.toNat_ushiftRight, Nat.shiftRight_eq_div_pow, Int.fdiv_eq_ediv_of_nonneg _ (by exact_mod_cast Nat.zero_le _)]
  push_cast
  rfl
theorem w_half (x : W) : IntKind.u32.wrap ((wI x).tdiv 2) = wI (x >>> 1) := by
  rw [wrap32, wI_def, wI_def, BitVec.toNat_ushiftRight, Nat.shiftRight_eq_div_pow, Int.tdiv_eq_ediv_of_nonneg (by omega)]
  have := x.isLt
  omega
theorem w_turn (x : W) : IntKind.u32.wrap (IntKind.u32.wrap ((wI x).tdiv 2) + IntKind.u32.wrap ((wI x).tmod 2 * 2147483648)) = wI (x.rotateRight 1) := by
  have h : (x.rotateRight 1).toNat = x.toNat / 2 + (x.toNat % 2) * 2147483648 := by
    rw [BitVec.toNat_rotateRight]
    simp only [Nat.reduceMod, Nat.shiftRight_eq_div_pow, Nat.pow_one, Nat.reduceSub]
    have h1 : x.toNat / 2 < 2 ^ 31 := by have := x.isLt; omega
    have h2 : x.toNat <<< 31 % 2 ^ 32 = (x.toNat % 2) <<< 31 := by rw [Nat.shiftLeft_eq, Nat.shiftLeft_eq]; omega
    rw [h2, Nat.or_comm, ← Nat.shiftLeft_add_eq_or_of_lt h1, Nat.shiftLeft_eq]; omega
  rw [wrap32, wrap32, wrap32, wI_def, wI_def, h, Int.tdiv_eq_ediv_of_nonneg (by omega), Int.tmod_eq_emod_of_nonneg (by omega)]
  have := x.isLt
  omega
theorem rot_succ (x : W) (k : Nat) (h : k < 31) : (x.rotateRight k).rotateRight 1 = x.rotateRight (k + 1) := by
  apply BitVec.eq_of_toNat_eq
  have hx := x.isLt
  have key : ∀ (y : W) (j : Nat), j < 32 → (y.rotateRight j).toNat = y.toNat / 2 ^ j + (y.toNat % 2 ^ j) * 2 ^ (32 - j) := by
    intro y j hj
    have hy := y.isLt
    rw [BitVec.toNat_rotateRight, Nat.mod_eq_of_lt hj, Nat.shiftRight_eq_div_pow]
    have e32 : (2 : Nat) ^ 32 = 2 ^ j * 2 ^ (32 - j) := by rw [← Nat.pow_add]; congr 1; omega
    have h1 : y.toNat / 2 ^ j < 2 ^ (32 - j) := by
      rw [Nat.div_lt_iff_lt_mul (Nat.two_pow_pos j), Nat.mul_comm, ← e32]; exact hy
    have h2 : y.toNat <<< (32 - j) % 2 ^ 32 = (y.toNat % 2 ^ j) <<< (32 - j) := by
      rw [Nat.shiftLeft_eq, Nat.shiftLeft_eq, e32, Nat.mul_mod_mul_right]
    rw [h2, Nat.or_comm, ← Nat.shiftLeft_add_eq_or_of_lt h1, Nat.shiftLeft_eq, Nat.add_comm]
  rw [key _ 1 (by omega), key x k (by omega), key x (k + 1) (by omega)]
  obtain ⟨d, hd⟩ : ∃ d, 32 - k = d + 2 := ⟨30 - k, by omega⟩
  have e1 : 32 - (k + 1) = d + 1 := by omega
  rw [hd, e1]
  have hm : x.toNat % 2 ^ (k + 1) = x.toNat % 2 ^ k + 2 ^ k * (x.toNat / 2 ^ k % 2) := Nat.mod_pow_succ
  have hdv : x.toNat / 2 ^ (k + 1) = x.toNat / 2 ^ k / 2 := by rw [Nat.pow_succ, Nat.div_div_eq_div_mul]
  rw [hm, hdv]
  generalize x.toNat / 2 ^ k = q
  generalize x.toNat % 2 ^ k = r
  have p1 : r * 2 ^ (d + 2) = (r * 2 ^ (d + 1)) * 2 := by rw [Nat.pow_succ 2 (d + 1), Nat.mul_assoc]
  have p2 : (r + 2 ^ k * (q % 2)) * 2 ^ (d + 1) = r * 2 ^ (d + 1) + 2147483648 * (q % 2) := by
    rw [Nat.add_mul, Nat.mul_assoc, Nat.mul_comm (q % 2), ← Nat.mul_assoc, ← Nat.pow_add, show k + (d + 1) = 31 by omega]
  rw [p1, p2]
  generalize r * 2 ^ (d + 1) = m
  simp only [Nat.pow_one, Nat.reduceSub]
  omega
theorem rot_of (x : W) (k : Nat) (h : k < 32) : (x <<< (32 - k)) ||| (x >>> k) = x.rotateRight k := by
  rw [BitVec.or_comm]
  unfold BitVec.rotateRight BitVec.rotateRightAux
  rw [Nat.mod_eq_of_lt h]
theorem rot_zero (x : W) : x.rotateRight 0 = x := by
  unfold BitVec.rotateRight BitVec.rotateRightAux
  simp
end Go.VA

namespace Go.VA
open Go Go.RowKit
/-! ### The fingerprint: the rounds' constants, the words at the beginning, what a block makes of words -/
def kN : List Nat := [1116352408, 1899447441, 3049323471, 3921009573, 961987163, 1508970993, 2453635748, 2870763221, 3624381080, 310598401, 607225278, 1426881987, 1925078388, 2162078206, 2614888103, 3248222580, 3835390401, 4022224774, 264347078, 604807628, 770255983, 1249150122, 1555081692, 1996064986, 2554220882, 2821834349, 2952996808, 3210313671, 3336571891, 3584528711, 113926993, 338241895, 666307205, 773529912, 1294757372, 1396182291, 1695183700, 1986661051, 2177026350, 2456956037, 2730485921, 2820302411, 3259730800, 3345764771, 3516065817, 3600352804, 4094571909, 275423344, 430227734, 506948616, 659060556, 883997877, 958139571, 1322822218, 1537002063, 1747873779, 1955562222, 2024104815, 2227730452, 2361852424, 2428436474, 2756734187, 3204031479, 3329325298]
def bN : List Nat := [1779033703, 3144134277, 1013904242, 2773480762, 1359893119, 2600822924, 528734635, 1541459225]
def kT (i : Nat) : W := BitVec.ofNat 32 (kN.getD i 0)
def bT (i : Nat) : W := BitVec.ofNat 32 (bN.getD i 0)
noncomputable abbrev rndC : List C := arrC (fun i => cw (kT i)) 64
/-- words, one by one -/
noncomputable abbrev cW8 (h : Nat → W) : List C := [cw (h 0), cw (h 1), cw (h 2), cw (h 3), cw (h 4), cw (h 5), cw (h 6), cw (h 7)]
def sg (a b c : Nat) (x : W) : W := x.rotateRight a ^^^ x.rotateRight b ^^^ x.rotateRight c
def sl (a b c : Nat) (x : W) : W := x.rotateRight a ^^^ x.rotateRight b ^^^ (x >>> c)
/-- a word out of four bytes -/
def wB (b : Nat → UInt8) (i : Nat) : W := BitVec.ofNat 32 ((((b (4 * i)).toNat * 256 + (b (4 * i + 1)).toNat) * 256 + (b (4 * i + 2)).toNat) * 256 + (b (4 * i + 3)).toNat)
/-- the words of a block: all up to the n-th -/
def wN (l : List W) (n : Nat) : W := l.getD (n - 16) 0 + sl 7 18 3 (l.getD (n - 15) 0) + l.getD (n - 7) 0 + sl 17 19 10 (l.getD (n - 2) 0)
def wL (b : Nat → UInt8) : Nat → List W
  | 0 => []
  | n + 1 => wL b n ++ [if n < 16 then wB b n else wN (wL b n) n]
def wT (b : Nat → UInt8) (i : Nat) : W := (wL b 64).getD i 0
def oneW (k w : W) (v : Nat → W) : W := v 7 + sg 6 11 25 (v 4) + ((v 4 &&& v 5) ^^^ (~~~ (v 4) &&& v 6)) + k + w
def twoW (v : Nat → W) : W := sg 2 13 22 (v 0) + ((v 0 &&& v 1) ^^^ (v 0 &&& v 2) ^^^ (v 1 &&& v 2))
def stepV (k w : W) (v : Nat → W) : Nat → W
  | 0 => oneW k w v + twoW v
  | 1 => v 0
  | 2 => v 1
  | 3 => v 2
  | 4 => v 3 + oneW k w v
  | 5 => v 4
  | 6 => v 5
  | _ => v 6
def rounds (w : Nat → W) (h : Nat → W) : Nat → Nat → W
  | 0 => h
  | n + 1 => stepV (kT n) (w n) (rounds w h n)
/-- words go through a block -/
def thr (h : Nat → W) (b : Nat → UInt8) (i : Nat) : W := h i + rounds (wT b) h 64 i
/-- and through n blocks -/
def thrs (h : Nat → W) (b : Nat → UInt8) : Nat → Nat → W
  | 0 => h
  | n + 1 => thr (thrs h b n) (fun i => b (64 * n + i))
theorem wL_len (b : Nat → UInt8) : ∀ n, (wL b n).length = n
  | 0 => rfl
  | n + 1 => by simp [wL, wL_len b n]
theorem wL_get (b : Nat → UInt8) (i : Nat) : ∀ n m, i < n → (wL b (n + m)).getD i 0 = (wL b n).getD i 0
  | n, 0, _ => rfl
  | n, m + 1, h => by
    rw [← Nat.add_assoc]
    simp only [wL]
    rw [← wL_get b i n m h]
    simp only [List.getD_eq_getElem?_getD]
    rw [List.getElem?_append_left (by rw [wL_len]; omega)]
theorem wT_get (b : Nat → UInt8) (i n : Nat) (h : i < n) (hn : n ≤ 64) : (wL b n).getD i 0 = wT b i := by
  unfold wT
  have := wL_get b i n (64 - n) h
  rw [show n + (64 - n) = 64 by omega] at this
  exact this.symm
theorem wT_at (b : Nat → UInt8) (i : Nat) (h : i < 64) : wT b i = if i < 16 then wB b i else wN (wL b i) i := by
  rw [← wT_get b i (i + 1) (by omega) (by omega)]
  simp only [wL, List.getD_eq_getElem?_getD]
  rw [List.getElem?_append_right (by rw [wL_len]; omega), wL_len, Nat.sub_self]
  rfl
theorem wT_lo (b : Nat → UInt8) (i : Nat) (h : i < 16) : wT b i = wB b i := by rw [wT_at b i (by omega), if_pos h]
theorem wT_hi (b : Nat → UInt8) (i : Nat) (h : 16 ≤ i) (h2 : i < 64) : wT b i = wT b (i - 16) + sl 7 18 3 (wT b (i - 15)) + wT b (i - 7) + sl 17 19 10 (wT b (i - 2)) := by
  rw [wT_at b i h2, if_neg (by omega)]
  unfold wN
  rw [wT_get b _ i (by omega) (by omega), wT_get b _ i (by omega) (by omega), wT_get b _ i (by omega) (by omega), wT_get b _ i (by omega) (by omega)]
end Go.VA

namespace Go.VA
open Go Go.RowKit
/-- a byte -/
abbrev cb (x : UInt8) : C := .v (.int .u8 (x.toNat : Int))
abbrev byF (b : Nat → UInt8) (i : Nat) : List C := [cb (b i)]
/-- bytes, and behind n of them others -/
def catB (n : Nat) (b c : Nat → UInt8) (i : Nat) : UInt8 := if i < n then b i else c (i - n)
/-- the form of a number, in w bytes, the highest first -/
def putB (k w i : Nat) : UInt8 := UInt8.ofNat (k / 256 ^ (w - 1 - i))
theorem catF_by (n : Nat) (b c : Nat → UInt8) (i : Nat) : catF 0 n (byF b) (byF c) i = byF (catB n b c) i := by
  by_cases h : i < n
  · simp [catF, catB, h]
  · simp [catF, catB, h]

theorem wL_ext {b c : Nat → UInt8} (h : ∀ i, i < 64 → b i = c i) : ∀ n, wL b n = wL c n
  | 0 => rfl
  | n + 1 => by
    simp only [wL]
    rw [wL_ext h n]
    by_cases hn : n < 16
    · rw [if_pos hn, if_pos hn]
      unfold wB
      rw [h _ (by omega), h _ (by omega), h _ (by omega), h _ (by omega)]
    · rw [if_neg hn, if_neg hn]
theorem thr_ext {h : Nat → W} {b c : Nat → UInt8} (k : ∀ i, i < 64 → b i = c i) : thr h b = thr h c := by
  have : wT b = wT c := by funext i; unfold wT; rw [wL_ext k 64]
  funext i
  unfold thr
  rw [this]
theorem thrs_ext {h : Nat → W} {b c : Nat → UInt8} : ∀ n, (∀ i, i < 64 * n → b i = c i) → thrs h b n = thrs h c n
  | 0, _ => rfl
  | n + 1, k => by
    simp only [thrs]
    rw [thrs_ext n fun i hi => k i (by omega)]
    exact thr_ext fun i hi => k _ (by omega)
theorem thrs_add (h : Nat → W) (b : Nat → UInt8) (j : Nat) : ∀ n, thrs (thrs h b j) (fun i => b (64 * j + i)) n = thrs h b (j + n)
  | 0 => rfl
  | n + 1 => by
    rw [show j + (n + 1) = (j + n) + 1 from rfl]
    simp only [thrs]
    rw [thrs_add h b j n]
    congr 1
    funext i
    congr 1
    omega
/-- how many blocks the end of n bytes makes -/
def endQ (n : Nat) : Nat := if n % 64 < 56 then 1 else 2
def blocks (n : Nat) : Nat := n / 64 + endQ n
/-- n bytes, and their end -/
def padM (m : Nat → UInt8) (n i : Nat) : UInt8 := if i < n then m i else if i = n then 128 else if i < 64 * blocks n - 8 then 0 else putB (8 * n) 8 (i - (64 * blocks n - 8))
/-- the fingerprint of n bytes, byte by byte -/
def shaB (m : Nat → UInt8) (n i : Nat) : UInt8 := putB (thrs bT (padM m n) (blocks n) (i / 4)).toNat 4 (i % 4)
abbrev sumC (d : Nat → UInt8) : List C := [cb (d 0), cb (d 1), cb (d 2), cb (d 3), cb (d 4), cb (d 5), cb (d 6), cb (d 7), cb (d 8), cb (d 9), cb (d 10), cb (d 11), cb (d 12), cb (d 13), cb (d 14), cb (d 15),
  cb (d 16), cb (d 17), cb (d 18), cb (d 19), cb (d 20), cb (d 21), cb (d 22), cb (d 23), cb (d 24), cb (d 25), cb (d 26), cb (d 27), cb (d 28), cb (d 29), cb (d 30), cb (d 31)]
theorem arr_sumC (d : Nat → UInt8) : arrC (fun i => cb (d i)) 32 = sumC d := by rw [arrC_def]; rfl
theorem padM_lo (m : Nat → UInt8) (n i : Nat) (h : i < n) : padM m n i = m i := by unfold padM; rw [if_pos h]
theorem shaB_ext {m m' : Nat → UInt8} {n : Nat} (h : ∀ i, i < n → m i = m' i) : shaB m n = shaB m' n := by
  have : padM m n = padM m' n := by
    funext i
    unfold padM
    by_cases hi : i < n
    · rw [if_pos hi, if_pos hi, h i hi]
    · rw [if_neg hi, if_neg hi]
  funext i
  unfold shaB
  rw [this]
theorem upd4_sha (m : Nat → UInt8) (n i : Nat) (h : Nat → W) (hh : h = thrs bT (padM m n) (blocks n)) (k : Nat) (hk : k < 32) :
    upd4 (fun k => cb (if k < 4 * i then shaB m n k else 0)) (4 * i) (cb (putB (h i).toNat 4 0)) (cb (putB (h i).toNat 4 (0 + 1))) (cb (putB (h i).toNat 4 (0 + 1 + 1))) (cb (putB (h i).toNat 4 (0 + 1 + 1 + 1))) k = cb (if k < 4 * (i + 1) then shaB m n k else 0) := by
  subst hh
  have key : ∀ d, d < 4 → shaB m n (4 * i + d) = putB (thrs bT (padM m n) (blocks n) i).toNat 4 d := fun d hd => by
    unfold shaB
    rw [show (4 * i + d) / 4 = i by omega, show (4 * i + d) % 4 = d by omega]
  unfold upd4
  by_cases h0 : k = 4 * i
  · subst h0; rw [if_pos rfl, if_pos (by omega)]; exact congrArg cb (key 0 (by omega)).symm
  · rw [if_neg h0]
    by_cases h1 : k = 4 * i + 1
    · subst h1; rw [if_pos rfl, if_pos (by omega)]; exact congrArg cb (key 1 (by omega)).symm
    · rw [if_neg h1]
      by_cases h2 : k = 4 * i + 2
      · subst h2; rw [if_pos rfl, if_pos (by omega)]; exact congrArg cb (key 2 (by omega)).symm
      · rw [if_neg h2]
        by_cases h3 : k = 4 * i + 3
        · subst h3; rw [if_pos rfl, if_pos (by omega)]; exact congrArg cb (key 3 (by omega)).symm
        · rw [if_neg h3]
          show cb (if k < 4 * i then shaB m n k else 0) = _
          by_cases h4 : k < 4 * i
          · rw [if_pos h4, if_pos (by omega)]
          · rw [if_neg h4, if_neg (by omega)]
theorem purge_c (id : Nat) : ∀ xs : List C, List.map (AV.purge id) (List.map AV.c xs) = List.map AV.c xs
  | [] => rfl
  | x :: r => by simp only [List.map_cons]; rw [purge_c id r]; rfl
theorem LeAs_pc {k n id : Nat} {xs : List C} : LeAs k n (List.map (AV.purge id) (List.map AV.c xs)) (List.map AV.c xs) := by rw [purge_c]; exact LeAs_c _ _ _
theorem and63 (n : Nat) (h : n < 9223372036854775808) : bitsI .and .i64 (n : Int) 63 = ((n % 64 : Nat) : Int) := by
  show IntKind.i64.wrap (((BitVec.ofInt 64 (n : Int) &&& BitVec.ofInt 64 63).toNat : Nat) : Int) = _
  have e : (BitVec.ofInt 64 (n : Int) &&& BitVec.ofInt 64 63).toNat = n % 64 := by
    rw [BitVec.toNat_and, BitVec.ofInt_natCast, BitVec.toNat_ofNat, Nat.mod_eq_of_lt (by omega), show (BitVec.ofInt 64 63).toNat = 2 ^ 6 - 1 from by decide, Nat.and_two_pow_sub_one_eq_mod]
  rw [e]
  exact IntWalk.i64_in _ (by omega)
theorem shl3 (n : Nat) (h : n < 1152921504606846976) : shlI .u64 (n : Int) 3 = ((8 * n : Nat) : Int) := by
  have : shlI .u64 (n : Int) 3 = ((n : Int) * 8) % 18446744073709551616 := rfl
  rw [this]; omega
theorem arrC_cutM {g : Nat → C} {n z s m : Nat} (hm : m = 1) (hs : s = 1) (h : z < n) : cut (arrC g n) (z * s) m = some [g z] := by
  subst hm; subst hs; rw [Nat.mul_one]; exact arrC_cut1 g n _ h
theorem arrA_layX4 {g : Nat → C} {n z s : Nat} {xs : List AV} {a b c d : C} (hx : xs = [.c a, .c b, .c c, .c d]) (hs : s = 1) (h : z + 4 ≤ n) : layA (List.map AV.c (arrC g n)) (z * s) xs = some (List.map AV.c (arrC (upd4 g z a b c d) n)) := by
  subst hx; subst hs; rw [Nat.mul_one]; exact arrA_lay4 g n z a b c d h
end Go.VA
