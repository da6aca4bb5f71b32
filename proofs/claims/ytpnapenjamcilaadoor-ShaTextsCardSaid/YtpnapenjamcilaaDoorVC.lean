/- An executor of the model over symbolic values, and the proof that what it shows of a function holds of every call: no condition. -/
import Derived.Test.YtpnapenjamcilaaDoorVB
import Derived.DeepKeys
import Derived.Laws.Strings
set_option linter.unusedSimpArgs false
set_option linter.unusedVariables false
set_option linter.unusedSectionVars false
set_option linter.unnecessarySimpa false
namespace Go.VA
open Go Go.RowKit

section
variable {P : Program} {tb : TB} {gl : Gl}

theorem not_MU0 {X : Fx} {B : List (Option BI)} {env : Env} {L : List AO} {a : Act} {w : World} (h : St X B env L a w) (h0 : X.B0.length = X.M.ro) (hl0 : X.L0.length = X.M.ro) (t : Bool) (b : Nat)
    (hm : ¬ MU X.M B L t b) : ¬ MU X.M X.B0 X.L0 t b := by
  intro hh
  apply hm
  cases t with
  | false =>
    rcases hh with hh | ⟨id, bi, h1, h2, h3⟩
    · exact .inl hh
    · have hid : id < X.M.ro := by rw [← h0]; exact (List.getElem?_eq_some_iff.1 h1).1
      have := h.old id hid
      exact .inr ⟨id, bi, by rw [this.1]; exact h1, h2, by rw [this.2]; exact h3⟩
  | true =>
    rcases hh with hh | ⟨id, bi, h4, h1, h2, h3⟩
    · exact .inl hh
    · have hid : id < X.M.ro := by rw [← h0]; exact (List.getElem?_eq_some_iff.1 h1).1
      omega

theorem viewR_sound {X : Fx} {B : List (Option BI)} {env : Env} {L : List AO} {a : Act} {w : World} (h : St X B env L a w) (h0 : X.B0.length = X.M.ro) (hl0 : X.L0.length = X.M.ro) {id esz off len : Nat} {y : C}
    (hv : viewR X.M.ro L id esz off len = some y) {u : Value} (hu : RelV B (Sr X.M B L w) (.own id esz off len) u) : RepC (Sr X.M X.B0 X.L0 w) y u := by
  have hle : (Sr X.M B L w).le (Sr X.M X.B0 X.L0 w) := fun t b o u hh => ⟨not_MU0 h h0 hl0 t b hh.1, hh.2⟩
  have hL := h.relL
  unfold viewR at hv
  have fin : ∀ (t : Bool) (f : Nat → List C), y = .sl t esz len (fun i => f (off + i)) →
      (∀ bi, B[id]? = some (some bi) → ∀ i, i < bi.n → (f i).length = esz ∧ RepCs (Sr X.M X.B0 X.L0 w) (Sr X.M X.B0 X.L0 w t bi.b) (bi.o + i * esz) (f i)) → RepC (Sr X.M X.B0 X.L0 w) y u := by
    intro t f hy hf
    subst hy
    simp only [RelV] at hu
    simp only [RepC]
    rcases hu with ⟨bi, cap, hb, rfl, h1, h2, h3⟩ | ⟨rfl, ⟨a, rfl⟩, _⟩
    · refine ⟨_, cap, rfl, h1, ?_⟩
      by_cases h0 : len = 0
      · exact .inl h0
      · refine .inr ⟨bi.b, _, rfl, fun i hi => ?_⟩
        have := hf bi hb (off + i) (by omega)
        refine ⟨this.1, ?_⟩
        rw [show bi.o + off * esz + i * esz = bi.o + (off + i) * esz from by rw [Nat.add_mul]; omega]
        exact this.2
    · exact ⟨a, 0, rfl, ⟨Nat.le_refl _, Nat.zero_le _⟩, .inl rfl⟩
  have own : ∀ (n : Nat) (f : Nat → List C) (t : Bool), getO L id = .row esz n f → (t = false → X.M.ro ≤ id) → ∀ bi, B[id]? = some (some bi) → ∀ i, i < bi.n →
      (f i).length = esz ∧ RepCs (Sr X.M X.B0 X.L0 w) (Sr X.M X.B0 X.L0 w t bi.b) (bi.o + i * esz) (f i) := by
    intro n f t hO ht bi hb i hi
    have := hL.obj id _ hb
    rw [hO] at this
    obtain ⟨hn, cs, ty, h1, h2, h3, h4⟩ := this
    have := h4 i (by omega)
    have hlive : (getO L id).live = true := by rw [hO]; rfl
    refine ⟨this.1, RepCs.mono hle (fun o u hh => ⟨?_, by simpa [World.cell?, h1] using hh⟩) _ _ this.2⟩
    cases t with
    | true =>
      rintro (hm | ⟨id', bi', h5, h6, _⟩)
      · exact hL.notM id bi hb hlive (X.M.le _ hm)
      · have := (List.getElem?_eq_some_iff.1 h6).1; omega
    | false =>
      have hid := ht rfl
      rintro (hm | ⟨id', bi', h6, h7, h8⟩)
      · exact hL.notM id bi hb hlive hm
      · have hid' : id' < X.M.ro := by rw [← h0]; exact (List.getElem?_eq_some_iff.1 h6).1
        have hold := h.old id' hid'
        exact hL.dist id' id bi' bi (by omega) (by rw [hold.1]; exact h6) hb (by rw [hold.2]; exact h8) hlive h7
  split at hv
  · rename_i e n f hO
    split at hv
    · rename_i he
      obtain rfl := Nat.beq_spec he
      split at hv
      · rename_i hr
        simp only [Option.some.injEq] at hv
        exact fin false f hv.symm (own n f false hO fun _ => Nat.le_of_ble_eq_true hr)
      · simp only [Option.some.injEq] at hv
        exact fin true f hv.symm (own n f true hO (by simp))
    · simp at hv
  · rename_i e n f hO
    split at hv
    · rename_i he
      obtain rfl := Nat.beq_spec he
      simp only [Option.some.injEq] at hv
      refine fin false f hv.symm fun bi hb i hi => ?_
      have := hL.obj id _ hb
      rw [hO] at this
      obtain ⟨hn, h4⟩ := this
      exact ⟨(h4 i (by omega)).1, RepCs.mono hle (fun o u hh => hle _ _ _ _ hh) _ _ (h4 i (by omega)).2⟩
    · simp at hv
  · simp at hv

theorem viewRs_sound {X : Fx} {B : List (Option BI)} {env : Env} {L : List AO} {a : Act} {w : World} (h : St X B env L a w) (h0 : X.B0.length = X.M.ro) (hl0 : X.L0.length = X.M.ro) : ∀ (ys : List AV) (xs : List C) (us : List Value),
    viewRs X.M.ro L ys = some xs → RelVs B (Sr X.M B L w) ys us → RepVs (Sr X.M X.B0 X.L0 w) xs us
  | [], xs, us, hv, hu => by
    simp only [viewRs, Option.some.injEq] at hv; subst hv
    simpa [RelVs, RepVs] using hu
  | y :: ys, xs, us, hv, hu => by
    have hle : (Sr X.M B L w).le (Sr X.M X.B0 X.L0 w) := fun t b o u hh => ⟨not_MU0 h h0 hl0 t b hh.1, hh.2⟩
    simp only [viewRs] at hv
    simp only [RelVs] at hu
    obtain ⟨u, r, rfl, h1, h2⟩ := hu
    split at hv
    · simp at hv
    · rename_i zs hz
      have ih := viewRs_sound h h0 hl0 ys zs r hz h2
      split at hv
      · simp only [Option.some.injEq] at hv; subst hv
        simp only [RelV] at h1
        simp only [RepVs]
        exact ⟨u, r, rfl, RepC.mono hle _ _ h1, ih⟩
      · split at hv
        · rename_i y' hy
          simp only [Option.some.injEq] at hv; subst hv
          simp only [RepVs]
          exact ⟨u, r, rfl, viewR_sound h h0 hl0 hy h1, ih⟩
        · simp at hv
      · simp at hv

theorem resV_sound {X : Fx} {B : List (Option BI)} {env : Env} {L : List AO} {a : Act} {w : World} (h : St X B env L a w) (h0 : X.B0.length = X.M.ro) (hl0 : X.L0.length = X.M.ro) {x y : AV}
    (hv : resV X.M.ro L x = some y) {u : Value} (hu : RelV B (Sr X.M B L w) x u) : RelV X.B0 (Sr X.M X.B0 X.L0 w) y u := by
  have hle : (Sr X.M B L w).le (Sr X.M X.B0 X.L0 w) := fun t b o u hh => ⟨not_MU0 h h0 hl0 t b hh.1, hh.2⟩
  unfold resV at hv
  split at hv
  · simp only [Option.some.injEq] at hv; subst hv
    simp only [RelV] at hu ⊢
    exact RepC.mono hle _ _ hu
  · simp only [Option.some.injEq] at hv; subst hv
    simp only [RelV] at hu ⊢
    obtain ⟨arr, e, hu⟩ := hu
    exact ⟨arr, e, RepVs.mono hle _ _ hu⟩
  · simp only [Option.some.injEq] at hv; subst hv
    simp only [RelV] at hu ⊢
    obtain ⟨b, o, e, hu⟩ := hu
    exact ⟨b, o, e, RepCs.mono hle (fun o u hh => hle _ _ _ _ hh) _ _ hu⟩
  · split at hv
    · rename_i z hz
      simp only [Option.some.injEq] at hv; subst hv
      simp only [RelV]
      exact viewR_sound h h0 hl0 hz hu
    · simp at hv
  · split at hv
    · rename_i z hz
      simp only [Option.some.injEq] at hv; subst hv
      simp only [RelV] at hu ⊢
      obtain ⟨arr, e, _, hu⟩ := hu
      exact ⟨arr, e, viewRs_sound h h0 hl0 _ _ _ hz hu⟩
    · simp at hv
  · rename_i id off
    split at hv
    · rename_i ys hO
      split at hv
      · rename_i hr
        have hr := Nat.le_of_ble_eq_true hr
        split at hv
        · rename_i z hz
          simp only [Option.some.injEq] at hv; subst hv
          simp only [RelV] at hu ⊢
          obtain ⟨bi, hb, rfl⟩ := hu
          have hob := h.relL.obj id _ hb
          rw [hO] at hob
          obtain ⟨bi', cs, ty, e, h1, h2, h3, h4, h5⟩ := hob
          simp only [Option.some.injEq] at e
          subst e
          refine ⟨bi.b, 0, by rw [h2], ?_⟩
          refine RepVs.toRepCs _ _ 0 (viewRs_sound h h0 hl0 _ _ _ hz h5) fun j v hv => ⟨?_, ?_⟩
          · have hlive : (getO L id).live = true := by rw [hO]; rfl
            rintro (hm | ⟨id', bi', h6, h7, h8⟩)
            · exact h.relL.notM id bi hb hlive hm
            · have hid' : id' < X.M.ro := by rw [← h0]; exact (List.getElem?_eq_some_iff.1 h6).1
              have hold := h.old id' hid'
              exact h.relL.dist id' id bi' bi (by omega) (by rw [hold.1]; exact h6) hb (by rw [hold.2]; exact h8) hlive h7
          · simp only [World.cell?, h1, Nat.zero_add]
            simpa using hv
        · simp at hv
      · simp at hv
    · simp at hv
  · simp at hv

theorem run_mapM_vs {α : Type} (g : α → Sem Value) (w : World) : ∀ (l : List α) (vs : List Value), l.length = vs.length → (∀ (i : Nat) r v, l[i]? = some r → vs[i]? = some v → (g r).run P w = .ok v w) →
    (l.mapM g).run P w = .ok vs w
  | [], [], _, _ => by simp [List.mapM_nil]
  | [], _ :: _, h, _ => by simp at h
  | _ :: _, [], h, _ => by simp at h
  | r :: l, v :: vs, h, hh => by
    have ih := run_mapM_vs g w l vs (by simpa using h) fun i r v h1 h2 => hh (i + 1) r v (by simpa using h1) (by simpa using h2)
    simp [List.mapM_cons, hh 0 r v rfl rfl, ih]

def rvOne (tmps : Array Value) : ResultVar → Sem Value
  | .tmp t => pure (tmps.getD t undef)
  | .cell a t => do loadVar t (← asAddr (tmps.getD a undef))

theorem run_results (fn : Func) (tmps : Array Value) (w : World) (vs : List Value) (hl : fn.results.toList.length = vs.length)
    (hh : ∀ (i : Nat) r v, fn.results.toList[i]? = some r → vs[i]? = some v → (rvOne tmps r).run P w = .ok v w) :
    (results fn tmps).run P w = .ok (if h : vs.toArray.size = 1 then vs.toArray[0] else .tuple vs.toArray) w := by
  have h1 := run_mapM_vs (P := P) (rvOne tmps) w fn.results.toList vs hl hh
  have h2 : fn.results.mapM (rvOne tmps) = (do let x ← fn.results.toList.mapM (rvOne tmps); pure x.toArray : Sem (Array Value)) := by
    rw [Array.mapM_eq_mapM_toList]
    simp
  have h3 : results fn tmps = (do let vs ← fn.results.mapM (rvOne tmps); pure (if h : vs.size = 1 then vs[0] else .tuple vs)) := by
    unfold results
    congr 1
  rw [h3, h2]
  simp [h1]

theorem resK_sound (htb : TbOk P tb) {X : Fx} {B : List (Option BI)} {env : Env} {L : List AO} {a : Act} {w : World} (h : St X B env L a w) (hn : NoGd env) (h0 : X.B0.length = X.M.ro) (hl0 : X.L0.length = X.M.ro) :
    ∀ (rs : List ResultVar) (K : List AV → Prop), resK X.M.ro env tb L rs K → ∃ xs vs, K xs ∧ rs.length = vs.length ∧ (∀ (i : Nat) r v, rs[i]? = some r → vs[i]? = some v → (rvOne a.tmps r).run P w = .ok v w) ∧
      RelVs X.B0 (Sr X.M X.B0 X.L0 w) xs vs
  | [], K, hK => ⟨[], [], hK, rfl, by simp, by simp [RelVs]⟩
  | r :: rs, K, hK => by
    have hsl : ∀ t, RelV B (Sr X.M B L w) (get env t) (a.tmps.getD t undef) := by
      intro t
      have := h.relE t
      rwa [relSl_iff] at this
      cases hq : get env t <;> try rfl
      have := hn _ (get_key hq)
      simp at this
    have fin : ∀ (x : AV) (v : Value), (rvOne a.tmps r).run P w = .ok v w → RelV X.B0 (Sr X.M X.B0 X.L0 w) x v → resK X.M.ro env tb L rs (fun xs => K (x :: xs)) →
        ∃ xs vs, K xs ∧ (r :: rs).length = vs.length ∧ (∀ (i : Nat) r' v, (r :: rs)[i]? = some r' → vs[i]? = some v → (rvOne a.tmps r').run P w = .ok v w) ∧ RelVs X.B0 (Sr X.M X.B0 X.L0 w) xs vs := by
      intro x v h1 h2 h3
      obtain ⟨xs, vs, k1, k2, k3, k4⟩ := resK_sound htb h hn h0 hl0 rs _ h3
      refine ⟨x :: xs, v :: vs, k1, by simp [k2], fun i r' v' e1 e2 => ?_, ?_⟩
      · cases i with
        | zero => simp at e1 e2; subst e1; subst e2; exact h1
        | succ i => exact k3 i r' v' (by simpa using e1) (by simpa using e2)
      · simp only [RelVs]; exact ⟨v, vs, rfl, h2, k4⟩
    simp only [resK] at hK
    split at hK
    · rename_i t
      split at hK
      · rename_i x hx
        exact fin x _ rfl (resV_sound h h0 hl0 hx (hsl t)) hK
      · exact hK.elim
    · rename_i ad t
      obtain ⟨y, hy, hh⟩ := opLoad_sound htb hK
      split at hy
      · rename_i x hx
        obtain ⟨v, h1, h2⟩ := hh X.M B w _ h.relL (hsl ad)
        refine fin x v ?_ (resV_sound h h0 hl0 hx h2) hy
        simp only [rvOne]
        generalize a.tmps.getD ad undef = p at h1
        cases p with
        | pointer q =>
          cases q with
          | some q => simpa [Instr.loadAt, Instr.sureAddr, asAddr] using h1
          | none => simp [Instr.loadAt, Instr.sureAddr] at h1
        | _ => simp [Instr.loadAt, Instr.sureAddr] at h1
      · exact hy.elim

theorem retA_sound {B : List (Option BI)} {S : Rd} {xs : List AV} {vs : List Value} (h : RelVs B S xs vs) : RelV B S (retA xs) (if h : vs.toArray.size = 1 then vs.toArray[0] else .tuple vs.toArray) := by
  have hl := RelVs.length _ _ h
  unfold retA
  split
  · rename_i x
    simp only [RelVs] at h
    obtain ⟨u, r, rfl, h1, rfl⟩ := h
    simpa using h1
  · rename_i hne
    have : ¬ vs.toArray.size = 1 := by
      intro e
      simp at e
      rw [e] at hl
      match xs, hl with
      | [x], _ => exact hne x rfl
    rw [dif_neg this]
    simp only [RelV]
    exact ⟨_, rfl, by simpa using h⟩

/-- the slots of a call at its start -/
def envOf : Nat → List AV → Env
  | _, [] => []
  | i, x :: xs => (i, strip x) :: envOf (i + 1) xs

theorem envOf_noGd : ∀ (i : Nat) (xs : List AV), NoGd (envOf i xs)
  | _, [] => fun k hk => by simp [envOf, keysE] at hk
  | i, x :: xs => fun k hk => by
    simp only [envOf, keysE, List.map_cons, List.mem_cons] at hk
    rcases hk with hk | hk
    · rw [hk]; exact strip_key x
    · exact envOf_noGd (i + 1) xs k hk

theorem envOf_get : ∀ (i : Nat) (xs : List AV) (t : Nat), get (envOf i xs) t = .any ∨ ∃ j x, xs[j]? = some x ∧ t = i + j ∧ get (envOf i xs) t = strip x
  | _, [], _ => .inl rfl
  | i, x :: xs, t => by
    simp only [envOf, get]
    split
    · rename_i e
      exact .inr ⟨0, x, rfl, by rw [Nat.beq_spec e]; rfl, rfl⟩
    · rcases envOf_get (i + 1) xs t with h | ⟨j, y, h1, h2, h3⟩
      · exact .inl h
      · exact .inr ⟨j + 1, y, by simpa using h1, by omega, h3⟩

/-- a function's contract, from its text -/
theorem acall_of_vc (htb : TbOk P tb) (hmix : P.follows .mixedOrders = true) {f : Nat} {fn : Func} {c : Code} (hf : P.funcs[f]? = some fn) (hb : fn.body = some c)
    (hname : (fn.name == "runtime.NumGoroutine") = false) (hok : codeOk fn.ntmps c = true) {args : List AV} {L : List AO} {r : AV} (hr : r.closed = true) (hargs' : Nat.ble args.length fn.ntmps = true)
    (h : crossK fn.results.toList c fun U => vc P tb gl L.length L.length U c (envOf 0 args) L (EndK L.length tb fn.results.toList r)) : ACall P gl f args L r := by
  rw [crossK_eq] at h
  have hargs := Nat.le_of_ble_eq_true hargs'
  refine ⟨⟨fn, hf, hname, by rw [hb]; rfl⟩, hr, fun w M B vals hro hL hG hv => ?_⟩
  have hlv := RelVs.length _ _ hv
  rw [Array.length_toList] at hlv
  let X : Fx := ⟨gl, w, M, B, L, fn.ntmps, fun _ => False⟩
  have hS : St X B (envOf 0 args) L { tmps := vals ++ Array.replicate (fn.ntmps - vals.size) undef, defers := [] } w := by
    refine ⟨hL, hG, fun t => ?_, Frm.refl _ _, fun id bi h1 h2 h3 => ?_, fun id _ => ⟨rfl, rfl⟩, by simp only [X]; omega, Nat.le_refl _, fun id _ _ => .inr ⟨rfl, fun _ => rfl⟩, rfl, ?_⟩
    · rcases envOf_get 0 args t with h1 | ⟨j, x, h1, h2, h3⟩
      · rw [h1]; simp [RelSl, RelV]
      · rw [h3]
        refine RelV.notGd (strip_key x) (strip_rel ?_)
        obtain ⟨u, k1, k2⟩ := RelVs.nth _ _ j x hv h1
        obtain rfl : t = j := by omega
        have hlt : t < vals.size := by
          have := (List.getElem?_eq_some_iff.1 k1).1
          simpa using this
        have : (vals ++ Array.replicate (fn.ntmps - vals.size) undef).getD t undef = u := by
          rw [Array.getD_eq_getD_getElem?, Array.getElem?_append_left hlt]
          rw [Array.getElem?_toList] at k1
          rw [k1]
          rfl
        simp only
        rw [this]
        exact k2
    · exfalso
      have := (List.getElem?_eq_some_iff.1 h2).1
      rw [hL.len] at this
      simp only [X] at h1
      omega
    · simp only [Array.size_append, Array.size_replicate, X]
      omega
  refine calls_of_wp hf hb (vc_sound htb hmix (X := X) rfl hro rfl c _ L B _ w _ _ hok (envOf_noGd 0 args) hS h ?_)
  intro e env' L' B' a' w' hK hn' hS'
  have key : ∀ (K : Prop), resK L.length env' tb L' fn.results.toList (fun xs => Le 0 (retA xs) r) →
      (a'.defers = [] ∧ ∃ v, (results fn a'.tmps).run P w' = .ok v w' ∧ (∃ u, Ending.returned v = .returned u ∧ Below w.heap.size w w' ∧ RelV B (Sr M B L w') r u)) := by
    intro _ hres
    rw [← hro] at hres
    obtain ⟨xs, vs, k1, k2, k3, k4⟩ := resK_sound htb hS' hn' (by rw [hL.len]; exact hro.symm) hro.symm _ _ hres
    exact ⟨hS'.dfr, _, run_results fn a'.tmps w' vs k2 k3, _, rfl, hS'.below.below, k1.h _ _ _ (Nat.zero_le _) (retA_sound k4)⟩
  cases e with
  | normal => exact key True hK
  | ret => exact key True hK
  | exit i => exact hK.elim

end
end Go.VA

namespace Go.VA
open Go Go.RowKit

/-! ### The type table, looked over once -/

def look : List (Nat × TI) → Nat → TI
  | [], _ => ⟨.other, 0, 0, []⟩
  | (s, x) :: r, t => match Nat.beq s t with | true => x | false => look r t

def isEmp (s : ByteArray) : Bool := match s.data.toList with | [] => true | _ => false

def eqZ1 : Value → Value → Bool
  | .int k a, .int k' b => match Nat.beq (kindNo k) (kindNo k') with | true => decide (a = b) | false => false
  | .bool a, .bool b => beqB a b
  | .string a, .string b => match isEmp a with | true => isEmp b | false => false
  | .slice none a b, .slice none c d => match Nat.beq a c with | true => Nat.beq b d | false => false
  | .pointer none, .pointer none => true
  | .map none, .map none => true
  | .nilFunc, .nilFunc => true
  | .nilIface, .nilIface => true
  | _, _ => false

def eqZ : List Value → List Value → Bool
  | [], [] => true
  | x :: xs, y :: ys => match eqZ1 x y with | true => eqZ xs ys | false => false
  | _, _ => false

theorem isEmp_spec {a : ByteArray} (h : isEmp a = true) : a = ByteArray.empty := by
  obtain ⟨⟨l⟩⟩ := a
  cases l with
  | nil => rfl
  | cons x r => simp [isEmp] at h

theorem eqZ1_spec {x y : Value} (h : eqZ1 x y = true) : x = y := by
  unfold eqZ1 at h
  split at h <;> try rfl
  · split at h
    · rename_i hk; rw [beqK hk, of_decide_eq_true h]
    · simp at h
  · rw [beqB_spec h]
  · split at h
    · rename_i ha; rw [isEmp_spec ha, isEmp_spec h]
    · simp at h
  · split at h
    · rename_i ha; rw [Nat.beq_spec ha, Nat.beq_spec h]
    · simp at h
  · simp at h

theorem eqZ_spec : ∀ {xs ys : List Value}, eqZ xs ys = true → xs = ys
  | [], [], _ => rfl
  | x :: xs, y :: ys, h => by
    simp only [eqZ] at h
    split at h
    · rename_i hx; rw [eqZ1_spec hx, eqZ_spec h]
    · simp at h
  | [], _ :: _, h => by simp [eqZ] at h
  | _ :: _, [], h => by simp [eqZ] at h

def fldsOk (P : Program) : List Field → List (Nat × Nat) → Bool
  | [], [] => true
  | f :: r, (o, t) :: s => match Nat.beq f.offset o with
    | true => match Nat.beq f.type t with
      | true => match P.info? f.type with
        | some _ => fldsOk P r s
        | none => false
      | false => false
    | false => false
  | _, _ => false

theorem fldsOk_spec {P : Program} : ∀ {fs : List Field} {xs : List (Nat × Nat)}, fldsOk P fs xs = true → fs.map (fun f => (f.offset, f.type)) = xs ∧ ∀ f ∈ fs, ∃ i, P.info? f.type = some i
  | [], [], _ => by simp
  | f :: r, (o, t) :: s, h => by
    simp only [fldsOk] at h
    split at h
    · rename_i h1
      split at h
      · rename_i h2
        split at h
        · rename_i i h3
          have := fldsOk_spec h
          refine ⟨by simp [this.1, Nat.beq_spec h1, Nat.beq_spec h2], fun g hg => ?_⟩
          rcases List.mem_cons.1 hg with rfl | hg
          · exact ⟨i, h3⟩
          · exact this.2 g hg
        · simp at h
      · simp at h
    · simp at h
  | [], _ :: _, h => by simp [fldsOk] at h
  | _ :: _, [], h => by simp [fldsOk] at h

def tkChk (P : Program) (k : TK) (d : TypeDesc) : Bool := match k with
  | .other => true
  | .int k => match d with | .int k' => Nat.beq (kindNo k) (kindNo k') | _ => false
  | .bool => match d with | .bool => true | _ => false
  | .str => match d with | .string => true | _ => false
  | .ptr e => match d with | .pointer e' => Nat.beq e e' | _ => false
  | .func => match d with | .func .. => true | _ => false
  | .slice e => match d with | .slice e' => Nat.beq e e' | _ => false
  | .struct fs => match d with | .struct g => fldsOk P g.toList fs | _ => false
  | .array n e => match d with | .array n' e' => (match Nat.beq n n' with | true => Nat.beq e e' | false => false) | _ => false
  | .map k e => match d with | .map k' e' => (match Nat.beq k k' with | true => Nat.beq e e' | false => false) | _ => false

theorem tkChk_spec {P : Program} {k : TK} {d : TypeDesc} (h : tkChk P k d = true) : TKok P k d := by
  unfold tkChk at h
  cases k <;> simp only at h <;> simp only [TKok]
  case int k =>
    split at h
    · rw [beqK h]
    · simp at h
  case bool => split at h <;> first | rfl | simp at h
  case str => split at h <;> first | rfl | simp at h
  case ptr e =>
    split at h
    · rw [Nat.beq_spec h]
    · simp at h
  case func =>
    split at h
    · exact ⟨_, _, _, rfl⟩
    · simp at h
  case slice e =>
    split at h
    · rw [Nat.beq_spec h]
    · simp at h
  case struct fs =>
    split at h
    · rename_i g
      have := fldsOk_spec h
      exact ⟨g, rfl, this.1, this.2⟩
    · simp at h
  case array n e =>
    split at h
    · split at h
      · rename_i h1; rw [Nat.beq_spec h1, Nat.beq_spec h]
      · simp at h
    · simp at h
  case map k e =>
    split at h
    · split at h
      · rename_i h1; rw [Nat.beq_spec h1, Nat.beq_spec h]
      · simp at h
    · simp at h

def tiChk (P : Program) (t : Nat) (x : TI) : Bool :=
  match P.info? t with
  | none => false
  | some i => match P.underlying t with
    | none => false
    | some d => match tkChk P x.k d with
      | false => false
      | true => match Nat.beq i.size x.sz with
        | false => false
        | true => match Nat.beq i.bytes x.bytes with
          | false => false
          | true => match i.zero with
            | none => false
            | some z => match eqZ z.cells.toList x.zero with
              | false => false
              | true => match Nat.beq x.zero.length x.sz with
                | false => false
                | true => match allOne x.zero with
                  | false => false
                  | true => match x.k.agg with
                    | true => match z with | .agg _ => true | _ => false
                    | false => Nat.beq x.sz 1

theorem allOne_mem : ∀ {l : List Value}, allOne l = true → ∀ v ∈ l, v.oneCell' = true
  | [], _, v, hv => by simp at hv
  | x :: r, h, v, hv => by
    simp only [allOne] at h
    split at h
    · rename_i hx
      rcases List.mem_cons.1 hv with rfl | hv
      · exact hx
      · exact allOne_mem h v hv
    · simp at h

theorem tiChk_spec {P : Program} {t : Nat} {x : TI} (h : tiChk P t x = true) : TIok P t x := by
  refine ⟨fun _ => ?_⟩
  unfold tiChk at h
  split at h; · simp at h
  rename_i i h1
  split at h; · simp at h
  rename_i d h2
  split at h; · simp at h
  rename_i h3
  split at h; · simp at h
  rename_i h4
  split at h; · simp at h
  rename_i h5
  split at h; · simp at h
  rename_i z h6
  split at h; · simp at h
  rename_i h7
  split at h; · simp at h
  rename_i h8
  split at h; · simp at h
  rename_i h9
  have e7 := eqZ_spec h7
  refine ⟨i, d, z, h1, h2, tkChk_spec h3, Nat.beq_spec h4, Nat.beq_spec h5, h6, e7, Nat.beq_spec h8, allOne_mem h9, fun ha => ?_, fun ha => ?_⟩
  · rw [ha] at h
    simp only at h
    split at h
    · rename_i cs
      rw [← e7]
      rfl
    · simp at h
  · rw [ha] at h
    exact Nat.beq_spec h

def tbChk (P : Program) : List (Nat × TI) → Bool
  | [] => true
  | (t, x) :: r => match tiChk P t x with | true => tbChk P r | false => false

theorem tbOk_of_chk {P : Program} : ∀ {l : List (Nat × TI)}, tbChk P l = true → TbOk P (look l)
  | [], _, t => ⟨fun h => by simp [look, TK.isOther] at h⟩
  | (s, x) :: r, h, t => by
    simp only [tbChk] at h
    split at h
    · rename_i hx
      simp only [look]
      split
      · rename_i e; rw [← Nat.beq_spec e]; exact tiChk_spec hx
      · exact tbOk_of_chk h t
    · simp at h

end Go.VA

namespace Go.VA
open Go Go.RowKit

/-! ### Structs and arrays of plain cells are compared cell by cell -/

def seFs (P : Program) (g : TypeId → Option (List Nat)) : List Field → Nat → Option (List Nat)
  | [], _ => some []
  | f :: r, off => match f.name != "_" with
    | false => none
    | true => match Nat.beq f.offset off with
      | false => none
      | true => match g f.type with
        | none => none
        | some s => match Nat.beq (P.cellsOf f.type) s.length with
          | false => none
          | true => match seFs P g r (off + s.length) with
            | none => none
            | some s' => some (s ++ s')

def repN (s : List Nat) : Nat → List Nat
  | 0 => []
  | n + 1 => s ++ repN s n

def seAt (P : Program) : Nat → TypeId → Option (List Nat)
  | 0, _ => none
  | d + 1, t => match P.underlying t with
    | some .bool => some [9]
    | some (.int k) => some [kindNo k]
    | some .string => some [8]
    | some (.struct _) => match P.stoodInHeld t with
      | true => none
      | false => seFs P (seAt P d) (P.fieldsOf t).toList 0
    | some (.array n e) => match seAt P d e with
      | none => none
      | some s => match Nat.beq (P.cellsOf e) s.length with
        | false => none
        | true => match Nat.blt 0 s.length with
          | false => none
          | true => some (repN s n)
    | _ => none

/-- the form of a value of type t -/
def Fm (P : Program) (t : TypeId) (u : Value) : Prop := match P.underlying t with
  | some (.struct _) => ∃ cs, u = .agg cs
  | some (.array _ _) => ∃ cs, u = .agg cs
  | _ => u.cells = #[u]

def SeAt (P : Program) (dd : Nat) (t : TypeId) (S : List Nat) : Prop :=
  ∀ (w : World) (u v : Value), Fm P t u → Fm P t v → u.cells.toList.map shV = S → v.cells.toList.map shV = S →
    ∃ q, eqVs u.cells.toList v.cells.toList = some q ∧ (Op.equalIn dd t u v).run P w = .ok q w

theorem eqVs_append : ∀ {a b c d : List Value} {q q' : Bool}, eqVs a c = some q → eqVs b d = some q' → eqVs (a ++ b) (c ++ d) = some (q && q')
  | [], b, [], d, q, q', h, h' => by
    simp only [eqVs, Option.some.injEq] at h
    subst h
    simpa using h'
  | x :: a, b, y :: c, d, q, q', h, h' => by
    simp only [eqVs] at h
    split at h
    · rename_i p r h1 h2
      simp only [Option.some.injEq] at h
      subst h
      have := eqVs_append h2 h'
      simp [eqVs, h1, this, Bool.and_assoc]
    · simp at h
  | [], _, _ :: _, _, _, _, h, _ => by simp [eqVs] at h
  | _ :: _, _, [], _, _, _, h, _ => by simp [eqVs] at h

theorem take_map {S : List Nat} {xs : List Value} {off n : Nat} (h : xs.map shV = S) : ((xs.drop off).take n).map shV = (S.drop off).take n := by
  rw [List.map_take, List.map_drop, h]

section
variable {P : Program}

theorem kindNo_inj {k k' : IntKind} (h : kindNo k = kindNo k') : k = k' := beqK (by rw [h]; exact Nat.beq_refl _)

theorem kindNo_lt (k : IntKind) : kindNo k < 8 := by cases k <;> decide

theorem shV_int {u : Value} {k : IntKind} (h : shV u = kindNo k) : ∃ n, u = .int k n := by
  have := kindNo_lt k
  cases u <;> simp only [shV] at h <;> first | omega | skip
  exact ⟨_, by rw [kindNo_inj h]⟩

theorem shV_str {u : Value} (h : shV u = 8) : ∃ s, u = .string s := by
  cases u <;> simp only [shV] at h <;> first | exact ⟨_, rfl⟩ | omega | skip
  rename_i k n
  have := kindNo_lt k
  omega

theorem shV_bool {u : Value} (h : shV u = 9) : ∃ s, u = .bool s := by
  cases u <;> simp only [shV] at h <;> first | exact ⟨_, rfl⟩ | omega | skip
  rename_i k n
  have := kindNo_lt k
  omega

theorem one_of {u : Value} {c : Nat} (hf : u.cells = #[u]) (h : u.cells.toList.map shV = [c]) : shV u = c := by
  rw [hf] at h
  simpa using h

theorem run_partS {e : TypeId} {i : TypeInfo} (hi : P.info? e = some i) {xs : Array Value} {off : Nat} {S : List Nat} (hc : P.cellsOf e = S.length) (hone : (match P.underlying e with | some (.struct _) => True | some (.array _ _) => True | _ => S.length = 1))
    (hu : ∃ d, P.underlying e = some d) (hlen : off + S.length ≤ xs.size) (hcell : ∀ x ∈ xs.toList, x.cells = #[x]) (w : World) :
    ∃ u, (part e xs off).run P w = .ok u w ∧ Fm P e u ∧ u.cells.toList = (xs.toList.drop off).take S.length := by
  obtain ⟨d, hd⟩ := hu
  have agg : (isAgg e).run P w = .ok true w → (match P.underlying e with | some (.struct _) => True | some (.array _ _) => True | _ => False) → ∃ u, (part e xs off).run P w = .ok u w ∧ Fm P e u ∧ u.cells.toList = (xs.toList.drop off).take S.length := by
    intro ha hm
    refine ⟨.agg (xs.extract off (off + S.length)), ?_, ?_, ?_⟩
    · simp [part, ha, run_sizeOf w hi, hc]
    · unfold Fm
      split at hm
      · exact ⟨_, rfl⟩
      · exact ⟨_, rfl⟩
      · exact hm.elim
    · simp [Value.cells]
  have one : (isAgg e).run P w = .ok false w → S.length = 1 → (∀ u, u.cells = #[u] → Fm P e u) → ∃ u, (part e xs off).run P w = .ok u w ∧ Fm P e u ∧ u.cells.toList = (xs.toList.drop off).take S.length := by
    intro ha h1 hf
    have hlt : off < xs.size := by omega
    have hx : xs[off].cells = #[xs[off]] := hcell _ (by simp)
    refine ⟨xs[off], ?_, hf _ hx, ?_⟩
    · simp [part, ha, hlt]
    · rw [hx, h1]
      have hlt' : off < xs.toList.length := by simpa using hlt
      rw [List.drop_eq_getElem_cons hlt']
      simp
  cases d with
  | struct fs => exact agg (by simp [isAgg, run_underlying hd]) (by rw [hd]; trivial)
  | array n e' => exact agg (by simp [isAgg, run_underlying hd]) (by rw [hd]; trivial)
  | _ => exact one (by simp [isAgg, run_underlying hd]) (by rw [hd] at hone; exact hone) (fun u hu => by unfold Fm; rw [hd]; exact hu)

theorem seAt_info {d : Nat} {t : TypeId} {S : List Nat} (h : seAt P d t = some S) : (∃ k, P.underlying t = some k) ∧ (match P.underlying t with | some (.struct _) => True | some (.array _ _) => True | _ => S.length = 1) := by
  cases d with
  | zero => simp [seAt] at h
  | succ d =>
    simp only [seAt] at h
    split at h
    · rename_i hu; rw [hu]; simp only [Option.some.injEq] at h; subst h; exact ⟨⟨_, rfl⟩, rfl⟩
    · rename_i hu; rw [hu]; simp only [Option.some.injEq] at h; subst h; exact ⟨⟨_, rfl⟩, rfl⟩
    · rename_i hu; rw [hu]; simp only [Option.some.injEq] at h; subst h; exact ⟨⟨_, rfl⟩, rfl⟩
    · rename_i hu; rw [hu]; exact ⟨⟨_, rfl⟩, trivial⟩
    · rename_i hu; rw [hu]; exact ⟨⟨_, rfl⟩, trivial⟩
    · simp at h

theorem seFs_sound {g : TypeId → Option (List Nat)} {dd : Nat} (hg : ∀ t S, g t = some S → SeAt P dd t S ∧ (∃ k, P.underlying t = some k) ∧ (match P.underlying t with | some (.struct _) => True | some (.array _ _) => True | _ => S.length = 1))
    (w : World) (xs ys : Array Value) (hx : ∀ x ∈ xs.toList, x.cells = #[x]) (hy : ∀ x ∈ ys.toList, x.cells = #[x]) : ∀ (fs : List Field) (off : Nat) (S : List Nat), seFs P g fs off = some S →
    (xs.toList.drop off).map shV = S → (ys.toList.drop off).map shV = S → ∃ q, eqVs (xs.toList.drop off) (ys.toList.drop off) = some q ∧ (Op.eqFields dd xs ys fs).run P w = .ok q w
  | [], off, S, h, h1, h2 => by
    simp only [seFs, Option.some.injEq] at h
    subst h
    simp only [List.map_eq_nil_iff] at h1 h2
    refine ⟨true, by rw [h1, h2]; rfl, by simp [Op.eqFields]⟩
  | f :: r, off, S, h, h1, h2 => by
    simp only [seFs] at h
    split at h; · simp at h
    rename_i hn
    split at h; · simp at h
    rename_i ho
    obtain rfl := Nat.eq_of_beq_eq_true ho
    split at h; · simp at h
    rename_i s hs
    split at h; · simp at h
    rename_i hc
    have hc := Nat.eq_of_beq_eq_true hc
    split at h; · simp at h
    rename_i s' hs'
    simp only [Option.some.injEq] at h
    subst h
    obtain ⟨hse, hu, hone⟩ := hg _ _ hs
    have hi : ∃ i, P.info? f.type = some i := by obtain ⟨k, hk⟩ := hu; exact info_of_underlying hk
    obtain ⟨i, hi⟩ := hi
    have l1 := congrArg List.length h1
    have l2 := congrArg List.length h2
    simp only [List.length_map, List.length_drop, List.length_append, Array.length_toList] at l1 l2
    rcases Nat.lt_or_ge 0 s.length with h0 | h0
    · obtain ⟨u, p1, f1, c1⟩ := run_partS hi hc hone hu (xs := xs) (off := f.offset) (by omega) hx w
      obtain ⟨v, p2, f2, c2⟩ := run_partS hi hc hone hu (xs := ys) (off := f.offset) (by omega) hy w
      have e1 : u.cells.toList.map shV = s := by rw [c1, List.map_take, h1]; simp
      have e2 : v.cells.toList.map shV = s := by rw [c2, List.map_take, h2]; simp
      obtain ⟨q, hq, hr⟩ := hse w u v f1 f2 e1 e2
      have d1 : (xs.toList.drop (f.offset + s.length)).map shV = s' := by rw [← List.drop_drop, List.map_drop, h1]; simp
      have d2 : (ys.toList.drop (f.offset + s.length)).map shV = s' := by rw [← List.drop_drop, List.map_drop, h2]; simp
      obtain ⟨q', hq', hr'⟩ := seFs_sound hg w xs ys hx hy r (f.offset + s.length) s' hs' d1 d2
      have hn' : ¬ f.name = "_" := by simpa using hn
      refine ⟨q && q', ?_, ?_⟩
      · rw [c1, c2] at hq
        have := eqVs_append hq hq'
        rwa [← List.drop_drop, ← List.drop_drop, List.take_append_drop, List.take_append_drop] at this
      · simp only [Op.eqFields, hn', ne_eq, not_false_eq_true, if_true, Sem.run_bind, p1, p2, hr, Result.andThen_ok]
        cases q
        · simp
        · simpa using hr'
    · -- nothing in it
      obtain ⟨u, p1, f1, c1⟩ : ∃ u, (part f.type xs f.offset).run P w = .ok u w ∧ Fm P f.type u ∧ u.cells.toList = [] := by
        obtain ⟨k, hk⟩ := hu
        rw [hk] at hone
        have hs0 : s.length = 0 := by omega
        cases k with
        | struct fs => exact ⟨.agg (xs.extract f.offset (f.offset + P.cellsOf f.type)), by simp [part, isAgg, run_underlying hk, run_sizeOf w hi], by unfold Fm; rw [hk]; exact ⟨_, rfl⟩, by simp [Value.cells, hc, hs0]⟩
        | array n e => exact ⟨.agg (xs.extract f.offset (f.offset + P.cellsOf f.type)), by simp [part, isAgg, run_underlying hk, run_sizeOf w hi], by unfold Fm; rw [hk]; exact ⟨_, rfl⟩, by simp [Value.cells, hc, hs0]⟩
        | _ => simp only at hone; omega
      obtain ⟨v, p2, f2, c2⟩ : ∃ u, (part f.type ys f.offset).run P w = .ok u w ∧ Fm P f.type u ∧ u.cells.toList = [] := by
        obtain ⟨k, hk⟩ := hu
        rw [hk] at hone
        have hs0 : s.length = 0 := by omega
        cases k with
        | struct fs => exact ⟨.agg (ys.extract f.offset (f.offset + P.cellsOf f.type)), by simp [part, isAgg, run_underlying hk, run_sizeOf w hi], by unfold Fm; rw [hk]; exact ⟨_, rfl⟩, by simp [Value.cells, hc, hs0]⟩
        | array n e => exact ⟨.agg (ys.extract f.offset (f.offset + P.cellsOf f.type)), by simp [part, isAgg, run_underlying hk, run_sizeOf w hi], by unfold Fm; rw [hk]; exact ⟨_, rfl⟩, by simp [Value.cells, hc, hs0]⟩
        | _ => simp only at hone; omega
      have hs0 : s = [] := List.length_eq_zero_iff.1 (by omega)
      subst hs0
      obtain ⟨q, hq, hr⟩ := hse w u v f1 f2 (by rw [c1]; rfl) (by rw [c2]; rfl)
      rw [c1, c2] at hq
      simp only [eqVs, Option.some.injEq] at hq
      subst hq
      obtain ⟨q', hq', hr'⟩ := seFs_sound hg w xs ys hx hy r (f.offset + 0) s' hs' (by simpa using h1) (by simpa using h2)
      have hn' : ¬ f.name = "_" := by simpa using hn
      refine ⟨q', by simpa using hq', ?_⟩
      simp only [Op.eqFields, hn', ne_eq, not_false_eq_true, if_true, Sem.run_bind, p1, p2, hr, Result.andThen_ok]
      simpa using hr'

theorem seItems_sound {e : TypeId} {S : List Nat} {dd : Nat} (hse : SeAt P dd e S) (hu : ∃ k, P.underlying e = some k) (hone : (match P.underlying e with | some (.struct _) => True | some (.array _ _) => True | _ => S.length = 1)) (hc : P.cellsOf e = S.length) (h0 : 0 < S.length)
    (w : World) (xs ys : Array Value) (hx : ∀ x ∈ xs.toList, x.cells = #[x]) (hy : ∀ x ∈ ys.toList, x.cells = #[x]) : ∀ (n i : Nat),
    (xs.toList.drop (i * S.length)).map shV = repN S n → (ys.toList.drop (i * S.length)).map shV = repN S n →
      ∃ q, eqVs (xs.toList.drop (i * S.length)) (ys.toList.drop (i * S.length)) = some q ∧ (Op.eqItems dd e (P.cellsOf e) xs ys (List.range' i n)).run P w = .ok q w
  | 0, i, h1, h2 => by
    simp only [repN, List.map_eq_nil_iff] at h1 h2
    exact ⟨true, by rw [h1, h2]; rfl, by simp [Op.eqItems]⟩
  | n + 1, i, h1, h2 => by
    obtain ⟨ti, hi⟩ : ∃ i, P.info? e = some i := by obtain ⟨k, hk⟩ := hu; exact info_of_underlying hk
    simp only [repN] at h1 h2
    have l1 := congrArg List.length h1
    have l2 := congrArg List.length h2
    simp only [List.length_map, List.length_drop, List.length_append, Array.length_toList] at l1 l2
    obtain ⟨u, p1, f1, c1⟩ := run_partS hi hc hone hu (xs := xs) (off := i * S.length) (by omega) hx w
    obtain ⟨v, p2, f2, c2⟩ := run_partS hi hc hone hu (xs := ys) (off := i * S.length) (by omega) hy w
    have e1 : u.cells.toList.map shV = S := by rw [c1, List.map_take, h1]; simp
    have e2 : v.cells.toList.map shV = S := by rw [c2, List.map_take, h2]; simp
    obtain ⟨q, hq, hr⟩ := hse w u v f1 f2 e1 e2
    have hmul : (i + 1) * S.length = i * S.length + S.length := by rw [Nat.add_mul]; omega
    have d1 : (xs.toList.drop ((i + 1) * S.length)).map shV = repN S n := by rw [hmul, ← List.drop_drop, List.map_drop, h1]; simp
    have d2 : (ys.toList.drop ((i + 1) * S.length)).map shV = repN S n := by rw [hmul, ← List.drop_drop, List.map_drop, h2]; simp
    obtain ⟨q', hq', hr'⟩ := seItems_sound hse hu hone hc h0 w xs ys hx hy n (i + 1) d1 d2
    refine ⟨q && q', ?_, ?_⟩
    · rw [c1, c2] at hq
      rw [hmul] at hq'
      have := eqVs_append hq hq'
      rwa [← List.drop_drop, ← List.drop_drop, List.take_append_drop, List.take_append_drop] at this
    · rw [← hc] at p1 p2
      simp only [List.range'_succ, Op.eqItems, Sem.run_bind, p1, p2, hr, Result.andThen_ok]
      cases q
      · simp
      · simpa using hr'

theorem cells_of_sh {xs : List Value} (h : ∀ c ∈ xs.map shV, c ≠ 10) : ∀ x ∈ xs, x.cells = #[x] := by
  intro x hx
  have := h (shV x) (List.mem_map.2 ⟨x, hx, rfl⟩)
  cases x <;> first | rfl | simp [shV] at this

theorem seFs_ne {g : TypeId → Option (List Nat)} (hg : ∀ t S, g t = some S → ∀ c ∈ S, c ≠ 10) : ∀ (fs : List Field) (off : Nat) (S : List Nat), seFs P g fs off = some S → ∀ c ∈ S, c ≠ 10
  | [], off, S, h => by simp only [seFs, Option.some.injEq] at h; subst h; simp
  | f :: r, off, S, h => by
    simp only [seFs] at h
    split at h; · simp at h
    split at h; · simp at h
    split at h; · simp at h
    rename_i s hs
    split at h; · simp at h
    split at h; · simp at h
    rename_i s' hs'
    simp only [Option.some.injEq] at h
    subst h
    intro c hc
    rcases List.mem_append.1 hc with hc | hc
    · exact hg _ _ hs c hc
    · exact seFs_ne hg r _ _ hs' c hc

theorem repN_ne {s : List Nat} (h : ∀ c ∈ s, c ≠ 10) : ∀ n, ∀ c ∈ repN s n, c ≠ 10
  | 0, c, hc => by simp [repN] at hc
  | n + 1, c, hc => by
    simp only [repN, List.mem_append] at hc
    rcases hc with hc | hc
    · exact h c hc
    · exact repN_ne h n c hc

theorem seAt_ne : ∀ (d : Nat) (t : TypeId) (S : List Nat), seAt P d t = some S → ∀ c ∈ S, c ≠ 10
  | 0, t, S, h => by simp [seAt] at h
  | d + 1, t, S, h => by
    simp only [seAt] at h
    split at h
    · simp only [Option.some.injEq] at h; subst h; simp
    · rename_i k _
      have := kindNo_lt k
      simp only [Option.some.injEq] at h; subst h; simp; omega
    · simp only [Option.some.injEq] at h; subst h; simp
    · split at h
      · simp at h
      · exact seFs_ne (seAt_ne d) _ _ _ h
    · split at h; · simp at h
      rename_i s hs
      split at h; · simp at h
      split at h; · simp at h
      simp only [Option.some.injEq] at h
      subst h
      exact repN_ne (seAt_ne d _ _ hs) _
    · simp at h

theorem seAt_sound (dd : Nat) : ∀ (d : Nat) (t : TypeId) (S : List Nat), seAt P d t = some S → SeAt P (dd + d) t S
  | 0, t, S, h => by simp [seAt] at h
  | d + 1, t, S, h => by
    intro w u v fu fv hu hv
    have hne := seAt_ne (d + 1) t S h
    simp only [seAt] at h
    split at h
    · rename_i hd
      simp only [Option.some.injEq] at h
      subst h
      simp only [Fm, hd] at fu fv
      obtain ⟨a, rfl⟩ := shV_bool (one_of fu hu)
      obtain ⟨b, rfl⟩ := shV_bool (one_of fv hv)
      exact ⟨a == b, by simp [Value.cells, eqVs, eqV], equalIn_bool hd (dd + d) a b w⟩
    · rename_i k hd
      simp only [Option.some.injEq] at h
      subst h
      simp only [Fm, hd] at fu fv
      obtain ⟨a, rfl⟩ := shV_int (one_of fu hu)
      obtain ⟨b, rfl⟩ := shV_int (one_of fv hv)
      exact ⟨a == b, by simp [Value.cells, eqVs, eqV], by rw [show dd + (d + 1) = (dd + d) + 1 from rfl]; simp [Op.equalIn, run_underlying hd]⟩
    · rename_i hd
      simp only [Option.some.injEq] at h
      subst h
      simp only [Fm, hd] at fu fv
      obtain ⟨a, rfl⟩ := shV_str (one_of fu hu)
      obtain ⟨b, rfl⟩ := shV_str (one_of fv hv)
      exact ⟨a == b, by simp [Value.cells, eqVs, eqV], by rw [show dd + (d + 1) = (dd + d) + 1 from rfl]; simp [Op.equalIn, run_underlying hd]⟩
    · rename_i fs hd
      split at h; · simp at h
      rename_i hst
      simp only [Fm, hd] at fu fv
      obtain ⟨xs, rfl⟩ := fu
      obtain ⟨ys, rfl⟩ := fv
      simp only [Value.cells] at hu hv ⊢
      have hfs : P.fieldsOf t = fs := by simp [Program.fieldsOf, hd]
      obtain ⟨q, hq, hr⟩ := seFs_sound (P := P) (g := seAt P d) (dd := dd + d) (fun t S ht => ⟨seAt_sound dd d t S ht, seAt_info ht⟩) w xs ys (cells_of_sh (by rw [hu]; exact hne)) (cells_of_sh (by rw [hv]; exact hne)) _ 0 S h (by simpa using hu) (by simpa using hv)
      refine ⟨q, by simpa using hq, ?_⟩
      rw [show dd + (d + 1) = (dd + d) + 1 from rfl, run_equalIn_struct w (dd + d) t xs ys (by rw [hfs]; exact hd) hst]
      exact hr
    · rename_i n e hd
      split at h; · simp at h
      rename_i s hs
      split at h; · simp at h
      rename_i hc
      have hc := Nat.eq_of_beq_eq_true hc
      split at h; · simp at h
      rename_i h0
      have h0 := bltN h0
      simp only [Option.some.injEq] at h
      simp only [Fm, hd] at fu fv
      obtain ⟨xs, rfl⟩ := fu
      obtain ⟨ys, rfl⟩ := fv
      simp only [Value.cells] at hu hv ⊢
      obtain ⟨hk, hone⟩ := seAt_info hs
      obtain ⟨ti, hi⟩ : ∃ i, P.info? e = some i := by obtain ⟨k, hk⟩ := hk; exact info_of_underlying hk
      rw [show dd + (d + 1) = (dd + d) + 1 from rfl, run_equalIn_array w (dd + d) xs ys hd hi, List.range_eq_range']
      obtain ⟨q, hq, hr⟩ := seItems_sound (seAt_sound dd d e s hs) hk hone hc h0 w xs ys (cells_of_sh (by rw [hu]; exact hne)) (cells_of_sh (by rw [hv]; exact hne)) n 0 (by simpa [h] using hu) (by simpa [h] using hv)
      exact ⟨q, by simpa using hq, hr⟩
    · simp at h

def seChk (P : Program) (d : Nat) (t : TypeId) (S : List Nat) : Bool :=
  match P.underlying t with
  | some (.struct _) => go
  | some (.array _ _) => go
  | _ => false
where go : Bool := match seAt P d t with
  | none => false
  | some s => match beqNs s S with
    | false => false
    | true => match P.eqGuardType P.depth t with
      | true => false
      | false => Nat.ble d 10000

theorem structEq_of {d : Nat} {t : TypeId} {S : List Nat} (h : seChk P d t S = true) : StructEq P t S := by
  have hfm : ∀ cs, Fm P t (.agg cs) := by
    intro cs
    unfold seChk at h
    unfold Fm
    split at h
    · exact ⟨_, rfl⟩
    · exact ⟨_, rfl⟩
    · simp at h
  have hgo : seChk.go P d t S = true := by
    unfold seChk at h
    split at h
    · exact h
    · exact h
    · simp at h
  unfold seChk.go at hgo
  split at hgo; · simp at hgo
  rename_i s hs
  split at hgo; · simp at hgo
  rename_i hS
  have hS := beqNs_spec hS
  subst hS
  split at hgo; · simp at hgo
  rename_i hg
  have hd : d ≤ 10000 := Nat.le_of_ble_eq_true hgo
  have hse := seAt_sound (10000 - d) d t s hs
  rw [show 10000 - d + d = 10000 from by omega] at hse
  intro x y xs ys q hx hy hq w
  obtain ⟨q', hq', hr⟩ := hse w (.agg xs) (.agg ys) (hfm xs) (hfm ys) hx hy
  simp only [Value.cells] at hq'
  rw [hq] at hq'
  simp only [Option.some.injEq] at hq'
  subst hq'
  have hr' : (Op.equal t (.agg xs) (.agg ys)).run P w = .ok q w := hr
  constructor
  · simp [eqGuard, binOp, hg, hr']
  · simp [eqGuard, binOp, hg, hr']

end
end Go.VA

namespace Go.VA
open Go Go.RowKit

/-- the rows of a list -/
def rowE {α : Type} (enc : α → List C) (d : α) (l : List α) (i : Nat) : List C := enc (l.getD i d)

section
variable {α : Type} {enc : α → List C} {d : α}

theorem rowE_cat (l r : List α) (n : Nat) (hn : n = l.length) (i : Nat) : catF 0 n (rowE enc d l) (rowE enc d r) i = rowE enc d (l ++ r) i := by
  subst hn
  unfold catF rowE
  by_cases h : i < l.length
  · rw [if_pos h, Nat.zero_add]; simp [List.getD_eq_getElem?_getD, List.getElem?_append_left h]
  · rw [if_neg h]; simp [List.getD_eq_getElem?_getD, List.getElem?_append_right (Nat.le_of_not_lt h)]

theorem rowE_one (x : α) : nthC [enc x] 0 = rowE enc d [x] 0 := rfl

theorem rowE_snoc (l : List α) (x : α) (n : Nat) (hn : n = l.length) (i : Nat) (hi : i < n + 1) : catF 0 n (rowE enc d l) (nthC [enc x]) i = rowE enc d (l ++ [x]) i := by
  subst hn
  unfold catF rowE
  by_cases h : i < l.length
  · rw [if_pos h, Nat.zero_add]; simp [List.getD_eq_getElem?_getD, List.getElem?_append_left h]
  · rw [if_neg h]
    obtain rfl : i = l.length := by omega
    simp [nthC]

theorem rowE_set (l : List α) (k : Nat) (x : α) (hk : k < l.length) (i : Nat) : updF (rowE enc d l) k (enc x) i = rowE enc d (l.set k x) i := by
  unfold updF rowE
  by_cases h : i = k
  · subst h
    simp [List.getD_eq_getElem?_getD, hk]
  · rw [if_neg h]
    simp [List.getD_eq_getElem?_getD, List.getElem?_set, Ne.symm h]

theorem rowE_drop (l : List α) (k i : Nat) : rowE enc d l (k + i) = rowE enc d (l.drop k) i := by
  unfold rowE
  simp [List.getD_eq_getElem?_getD, List.getElem?_drop]

theorem rowE_take (l : List α) (k i : Nat) (h : i < k) : rowE enc d l i = rowE enc d (l.take k) i := by
  unfold rowE
  simp [List.getD_eq_getElem?_getD, List.getElem?_take, h]
end

/-- of equal rows -/
theorem LeCs.row {f g : Nat → List C} (h : ∀ i, f i = g i) (i : Nat) : LeCs (f i) (g i) := LeCs.of_eq (h i)

/-- numbers -/
theorem wrap64 {n : Int} (h1 : -9223372036854775808 ≤ n) (h2 : n ≤ 9223372036854775807) : IntKind.i64.wrap n = n := by
  rw [IntKind.wrap_i64]; omega

theorem C.eqI {k : IntKind} {a b : Int} (h : a = b) : C.v (.int k a) = C.v (.int k b) := h ▸ rfl
theorem intA_eq {k : IntKind} {a b : Int} (h : a = b) : intA k a = intA k b := h ▸ rfl
theorem leI {m : Nat} {k : IntKind} {a b : Int} (h : a = b) : Le m (.c (.v (.int k a))) (.c (.v (.int k b))) := Le.of_eq (h ▸ rfl)
theorem leB {m : Nat} {a b : Bool} (h : a = b) : Le m (.c (.v (.bool a))) (.c (.v (.bool b))) := Le.of_eq (h ▸ rfl)
theorem leS {m : Nat} {a b : ByteArray} (h : a = b) : Le m (.c (.v (.string a))) (.c (.v (.string b))) := Le.of_eq (h ▸ rfl)
theorem leOwn {m : Nat} {id esz off n n' : Nat} (h : n = n') : Le m (.own id esz off n) (.own id esz off n') := Le.of_eq (h ▸ rfl)

/-- n rounds at most, one by one -/
def unroll (V : Env → List AO → (Ex → Env → List AO → Prop) → Prop) (K : Ex → Env → List AO → Prop) : Nat → Env → List AO → Prop
  | 0, _, _ => False
  | n + 1, env, L => V env L fun x env' L' => match x with
    | .normal => unroll V K n env' L'
    | x => K x env' L'

/-- shared rows that read alike -/
theorem leSl {m : Nat} {t : Bool} {e n n' : Nat} {f g : Nat → List C} (h : n = n') (hf : ∀ i, i < n' → f i = g i) : Le m (.c (.sl t e n f)) (.c (.sl t e n' g)) := by
  subst h
  refine ⟨fun B S u _ hu => ?_⟩
  simp only [RelV, RepC] at hu ⊢
  obtain ⟨a, cap, h1, h2, h3⟩ := hu
  refine ⟨a, cap, h1, h2, ?_⟩
  rcases h3 with h3 | ⟨b, o, h3, h4⟩
  · exact .inl h3
  · exact .inr ⟨b, o, h3, fun i hi => by rw [← hf i hi]; exact h4 i hi⟩

end Go.VA
namespace Go.VA
theorem chainI {env : Env} {n : Nat} {key : Key} {p : Prop} (h : p) : chain env n key p := by
  induction n generalizing key p with
  | zero => exact h
  | succ n ih =>
    cases key with
    | no => exact h
    | _ s w =>
      simp only [chain]
      split
      · exact fun _ => h
      · exact ih fun _ => h
      · exact h
end Go.VA

namespace Go.VA
open Go Go.RowKit

/-! ### Functions that are gone through where they are called -/

/-- what a caller's slots hold, each once -/
def ambA : List Nat → Env → List AV
  | _, [] => []
  | seen, (s, x) :: r => (match memN s seen with | true => .any | false => strip x) :: ambA (s :: seen) r

def ambK : List Nat → Env → (List AV → Prop) → Prop
  | _, [], K => K []
  | seen, (s, x) :: r, K => match memN s seen with
    | true => ambK (s :: seen) r fun xs => K (.any :: xs)
    | false => stripK x fun x => ambK (s :: seen) r fun xs => K (x :: xs)

theorem ambK_eq : ∀ (seen : List Nat) (env : Env) (K : List AV → Prop), ambK seen env K = K (ambA seen env)
  | _, [], _ => rfl
  | seen, (s, x) :: r, K => by
    simp only [ambK, ambA]
    split
    · rw [ambK_eq (s :: seen) r]
    · rw [stripK_eq, ambK_eq (s :: seen) r]

def closedOr (y : AV) : AV := match y.closed with | true => y | false => .any

/-- the slots again, with what they hold now -/
def joinE : Env → List AV → Env
  | [], _ => []
  | (s, x) :: r, xs => (s, match x with
    | .gd s' w y => .gd s' w (closedOr y)
    | _ => match xs with | [] => .any | y :: _ => strip y) :: joinE r xs.tail

def joinK : Env → List AV → (Env → Prop) → Prop
  | [], _, K => K []
  | (s, x) :: r, xs, K => match x with
    | .gd s' w y => joinK r xs.tail fun e => K ((s, .gd s' w (closedOr y)) :: e)
    | _ => match xs with
      | [] => joinK r [] fun e => K ((s, .any) :: e)
      | y :: ys => stripK y fun y => joinK r ys fun e => K ((s, y) :: e)

theorem joinK_eq : ∀ (env : Env) (xs : List AV) (K : Env → Prop), joinK env xs K = K (joinE env xs)
  | [], _, _ => rfl
  | (s, x) :: r, xs, K => by
    have h1 := joinK_eq r xs.tail
    have h2 := joinK_eq r []
    cases x <;> simp only [joinK, joinE] <;> first
      | (rw [h1]; done)
      | (cases xs with
         | nil => simp only [List.tail_nil]; rw [h2]
         | cons y ys => simp only [List.tail_cons] at h1 ⊢; rw [stripK_eq, h1])

theorem joinE_keys : ∀ (env : Env) (xs : List AV), keysE (joinE env xs) = keysE env
  | [], _ => rfl
  | (s, x) :: r, xs => by
    have ih := joinE_keys r xs.tail
    unfold keysE at ih ⊢
    simp only [joinE, List.map_cons, ih]
    congr 1
    cases x <;> simp only [gkey] <;> (cases xs <;> simp only [gkey] <;> exact strip_key _)

/-- what a function that was gone through hands back -/
def resI (env : Env) (tb : TB) (L : List AO) : List ResultVar → (List AV → Prop) → Prop
  | [], K => K []
  | r :: rs, K => match r with
    | .tmp t => stripK (get env t) fun x => resI env tb L rs fun xs => K (x :: xs)
    | .cell a t => opLoad tb L t (get env a) fun y => stripK y fun y => resI env tb L rs fun xs => K (y :: xs)

def EndI (tb : TB) (rs : List ResultVar) (vs : List Value) (n : Nat) (env0 : Env) (K : AV → Env → List AO → Prop) (x : Ex) (env : Env) (L : List AO) : Prop := match x with
  | .exit _ => False
  | _ => resI env tb L rs fun xs => match getO L n with
    | .amb vs' ys => vs' = vs ∧ joinK env0 ys fun env1 => forceL (setO L n .dead) fun L => K (retA xs) env1 L
    | _ => False

section
variable {P : Program} {tb : TB} {gl : Gl}

theorem ambA_rel {B : List (Option BI)} {S : Rd} {a : Act} : ∀ (env : Env) (seen : List Nat), (∀ t, t ∉ seen → RelSl B S a (get env t) (a.tmps.getD t undef)) → RelVs B S (ambA seen env) (env.map fun p => a.tmps.getD p.1 undef)
  | [], _, _ => by simp [ambA, RelVs]
  | (s, x) :: r, seen, h => by
    simp only [ambA, List.map_cons, RelVs]
    refine ⟨_, _, rfl, ?_, ambA_rel r (s :: seen) fun t ht => ?_⟩
    · split
      · simp [RelV]
      · rename_i hm
        have hm : s ∉ seen := fun e => by rw [memN_spec.2 e] at hm; simp at hm
        have := h s hm
        have e : get ((s, x) :: r) s = x := by simp [get]
        rw [e] at this
        cases x <;> first | exact this | simp [strip, RelV]
    · have hts : t ≠ s := fun e => ht (by simp [e])
      have := h t (fun e => ht (by simp [e]))
      have e : get ((s, x) :: r) t = get r t := by
        simp only [get]
        split
        · rename_i e; exact absurd (Nat.beq_spec e).symm hts
        · rfl
      rwa [e] at this


theorem joinE_rel {B B' : List (Option BI)} {S S' : Rd} (hS : S.le S') {a : Act} : ∀ (env : Env) (ys : List AV) (t : Nat), RelSl B S a (get env t) (a.tmps.getD t undef) → RelVs B' S' ys (env.map fun p => a.tmps.getD p.1 undef) →
    RelSl B' S' a (get (joinE env ys) t) (a.tmps.getD t undef)
  | [], ys, t, _, _ => by simp [joinE, get, RelSl, RelV]
  | (s, x) :: r, ys, t, h, hy => by
    simp only [List.map_cons] at hy
    have hy0 : ∃ y zs, ys = y :: zs ∧ RelV B' S' y (a.tmps.getD s undef) ∧ RelVs B' S' zs (r.map fun p => a.tmps.getD p.1 undef) := by
      cases ys with
      | nil => simp [RelVs] at hy
      | cons y zs =>
        simp only [RelVs] at hy
        obtain ⟨u, r', e, h1, h2⟩ := hy
        simp only [List.cons.injEq] at e
        obtain ⟨rfl, rfl⟩ := e
        exact ⟨y, zs, rfl, h1, h2⟩
    obtain ⟨y, zs, rfl, h1, h2⟩ := hy0
    simp only [joinE, List.tail_cons, get] at h ⊢
    split
    · rename_i e
      obtain rfl := Nat.beq_spec e
      simp only [Nat.beq_refl, e] at h
      have key : RelSl B' S' a (strip y) (a.tmps.getD s undef) := RelV.notGd (strip_key y) (strip_rel h1)
      cases x
      case gd s' w z =>
        simp only [RelSl] at h ⊢
        refine ⟨fun e => ?_, h.2⟩
        unfold closedOr
        split
        · rename_i hc; exact closed_rel hS _ _ hc (h.1 e)
        · simp [RelV]
      all_goals exact key
    · rename_i e
      simp only [e] at h
      exact joinE_rel hS r zs t h h2

/-- a callee begins -/
def Fx.into (X : Fx) (B : List (Option BI)) (L : List AO) (w : World) (nt : Nat) : Fx :=
  { gl := X.gl, w0 := w, M := X.M, B0 := B, L0 := L, nt := nt, mt := fun b => ∃ (id : Nat) (bi : BI), X.M.ro ≤ id ∧ B[id]? = some (some bi) ∧ (getO L id).live = true ∧ bi.b = b }

theorem RelE.envOf {B : List (Option BI)} {S : Rd} {args : List AV} {vals : Array Value} (hv : RelVs B S args vals.toList) (nt : Nat) :
    RelE B S (envOf 0 args) { tmps := vals ++ Array.replicate (nt - vals.size) undef, defers := [] } := by
  intro t
  rcases envOf_get 0 args t with h1 | ⟨j, x, h1, h2, h3⟩
  · rw [h1]; simp [RelSl, RelV]
  · rw [h3]
    refine RelV.notGd (strip_key x) (strip_rel ?_)
    obtain ⟨u, k1, k2⟩ := RelVs.nth _ _ j x hv h1
    obtain rfl : t = j := by omega
    have hlt : t < vals.size := by
      have := (List.getElem?_eq_some_iff.1 k1).1
      simpa using this
    have : (vals ++ Array.replicate (nt - vals.size) undef).getD t undef = u := by
      rw [Array.getD_eq_getD_getElem?, Array.getElem?_append_left hlt]
      rw [Array.getElem?_toList] at k1
      rw [k1]
      rfl
    simp only
    rw [this]
    exact k2

theorem St.enter {X : Fx} {B : List (Option BI)} {env : Env} {L : List AO} {a : Act} {w : World} (h : St X B env L a w) {args : List AV} {vals : Array Value} (hv : RelVs B (Sr X.M B L w) args vals.toList) {nt : Nat} (hn : vals.size ≤ nt) :
    St (X.into B L w nt) B (envOf 0 args) L { tmps := vals ++ Array.replicate (nt - vals.size) undef, defers := [] } w where
  relL := h.relL
  glob := h.glob
  relE := RelE.envOf hv nt
  below := Frm.refl _ _
  fresh id bi h1 h2 h3 := .inr ⟨id, bi, h1, h2, h3, rfl⟩
  old id _ := ⟨rfl, rfl⟩
  rol := h.rol
  l0 := Nat.le_refl _
  knd id _ _ := .inr ⟨rfl, fun _ => rfl⟩
  dfr := rfl
  sz := by simp only [Fx.into, Array.size_append, Array.size_replicate]; omega

theorem St.leave {X : Fx} {B B' : List (Option BI)} {env env1 env' : Env} {L L' : List AO} {a a' : Act} {w w' : World} {nt : Nat} (h : St X B env L a w) (h' : St (X.into B L w nt) B' env' L' a' w')
    (hE : RelE B' (Sr X.M B' L' w') env1 a) : St X B' env1 L' a w' where
  relL := h'.relL
  glob := h'.glob
  relE := hE
  below := by
    refine ⟨h'.below.os.trans h.below.os, h'.below.tape.trans h.below.tape, h'.below.output.trans h.below.output, Nat.le_trans h.below.size h'.below.size, fun k hk hm => ?_⟩
    rw [← h.below.block k hk hm]
    refine h'.below.block k (Nat.lt_of_lt_of_le hk h.below.size) ?_
    rintro ⟨id, bi, h1, h2, h3, rfl⟩
    rcases h.fresh id bi h1 h2 h3 with h4 | h4
    · omega
    · exact hm h4
  fresh id bi h1 h2 h3 := by
    rcases h'.fresh id bi h1 h2 h3 with h4 | ⟨id', bi', k1, k2, k3, k4⟩
    · exact .inl (Nat.le_trans h.below.size h4)
    · rw [← k4]; exact h.fresh id' bi' k1 k2 k3
  old id hid := by
    have h1 := h'.old id hid
    have h2 := h.old id hid
    exact ⟨h1.1.trans h2.1, h1.2.trans h2.2⟩
  rol := h'.rol
  l0 := Nat.le_trans h.l0 h'.l0
  knd id h0 h1 := by
    have hl : id < L.length := Nat.lt_of_lt_of_le h0 h.l0
    rcases h'.knd id hl h1 with h2 | ⟨h2, h3⟩
    · exact .inl h2
    · simp only [Fx.into] at h2 h3
      rcases h.knd id h0 hl with h4 | ⟨h4, h5⟩
      · exact .inl (h2.trans h4)
      · exact .inr ⟨h2.trans h4, fun h6 => (h3 h6).trans (h5 (h2 ▸ h6))⟩
  dfr := h.dfr
  sz := h.sz

theorem resI_sound (htb : TbOk P tb) {X : Fx} {B : List (Option BI)} {env : Env} {L : List AO} {a : Act} {w : World} (h : St X B env L a w) (hn : NoGd env) :
    ∀ (rs : List ResultVar) (K : List AV → Prop), resI env tb L rs K → ∃ xs vs, K xs ∧ rs.length = vs.length ∧ (∀ (i : Nat) r v, rs[i]? = some r → vs[i]? = some v → (rvOne a.tmps r).run P w = .ok v w) ∧
      RelVs B (Sr X.M B L w) xs vs
  | [], K, hK => ⟨[], [], hK, rfl, by simp, by simp [RelVs]⟩
  | r :: rs, K, hK => by
    have hsl : ∀ t, RelV B (Sr X.M B L w) (get env t) (a.tmps.getD t undef) := by
      intro t
      have := h.relE t
      rwa [relSl_iff] at this
      cases hq : get env t <;> try rfl
      have := hn _ (get_key hq)
      simp at this
    have fin : ∀ (x : AV) (v : Value), (rvOne a.tmps r).run P w = .ok v w → RelV B (Sr X.M B L w) x v → resI env tb L rs (fun xs => K (x :: xs)) →
        ∃ xs vs, K xs ∧ (r :: rs).length = vs.length ∧ (∀ (i : Nat) r' v, (r :: rs)[i]? = some r' → vs[i]? = some v → (rvOne a.tmps r').run P w = .ok v w) ∧ RelVs B (Sr X.M B L w) xs vs := by
      intro x v h1 h2 h3
      obtain ⟨xs, vs, k1, k2, k3, k4⟩ := resI_sound htb h hn rs _ h3
      refine ⟨x :: xs, v :: vs, k1, by simp [k2], fun i r' v' e1 e2 => ?_, ?_⟩
      · cases i with
        | zero => simp at e1 e2; subst e1; subst e2; exact h1
        | succ i => exact k3 i r' v' (by simpa using e1) (by simpa using e2)
      · simp only [RelVs]; exact ⟨v, vs, rfl, h2, k4⟩
    simp only [resI] at hK
    split at hK
    · rename_i t
      rw [stripK_eq] at hK
      exact fin _ _ rfl (strip_rel (hsl t)) hK
    · rename_i ad t
      obtain ⟨y, hy, hh⟩ := opLoad_sound htb hK
      rw [stripK_eq] at hy
      obtain ⟨v, h1, h2⟩ := hh X.M B w _ h.relL (hsl ad)
      refine fin _ v ?_ (strip_rel h2) hy
      simp only [rvOne]
      generalize a.tmps.getD ad undef = p at h1
      cases p with
      | pointer q =>
        cases q with
        | some q => simpa [Instr.loadAt, Instr.sureAddr, asAddr] using h1
        | none => simp [Instr.loadAt, Instr.sureAddr] at h1
      | _ => simp [Instr.loadAt, Instr.sureAddr] at h1

theorem run_enter {o : Oper} {c : Call} {fo : Operand} {a : Act} {w : World} {f : Nat} {a1 a2 : Array Value} (ho : o.op = .call c) (hc : c.callee = .value fo) (hfv : a.eval fo = .func (.func f) a1 a2) (hC : Callable P f) :
    (execOp a.eval o).run P w = .ok (.enter f (a1 ++ c.args.map a.eval ++ a2)) w := by
  obtain ⟨fn, g1, g2, g3⟩ := hC
  have g2' : ¬ fn.name = "runtime.NumGoroutine" := by simpa using g2
  have g3' : ¬ fn.body = none := fun e => by simp [e] at g3
  simp [execOp, ho, resolve, hc, hfv, Deferred.ofValue, invoke, callFunc, program, Sem.run, g1, g2', g3']

/-- a call of a function whose contract is known -/
theorem xc_pure {ro : Nat} {f : AV} {args : List AV} {env : Env} {L : List AO} {K : AV → Env → List AO → Prop} (h : opCall P gl (fun p => p) L f args fun x => K x env L) : XCall P gl ro f args env L K := by
  refine ⟨fun X B a w o c fo hgl hro hS ho hc hf hargs => ?_⟩
  obtain ⟨y, hy, hh⟩ := opCall_sound h
  intro next Q hn
  subst hgl
  refine hh X.M B o c fo a w (fun _ h => h) hS.relL hS.glob ho hc hf hargs next Q fun u w' ⟨h1, h2⟩ => ?_
  exact hn _ _ _ _ _ _ hy rfl (hS.ext h1) h2

/-- a call of a function that is gone through at once -/
theorem xc_in (htb : TbOk P tb) (hmix : P.follows .mixedOrders = true) {f : Nat} {fn : Func} {cd : Code} (hf : P.funcs[f]? = some fn) (hb : fn.body = some cd)
    (hname : (fn.name == "runtime.NumGoroutine") = false) (hok : codeOk fn.ntmps cd = true) {ro : Nat} {first cap args : List AV} {env : Env} {L : List AO} {K : AV → Env → List AO → Prop}
    (hlen : Nat.ble (first ++ args ++ cap).length fn.ntmps = true)
    (h : ∀ vs, ambK [] env fun xs => appK L (.amb vs xs) 0 fun n L' => crossK fn.results.toList cd fun U => vc P tb gl ro (n + 1) U cd (envOf 0 (first ++ args ++ cap)) L' (EndI tb fn.results.toList vs n env K)) :
    XCall P gl ro (.fn f first cap) args env L K := by
  refine ⟨fun X B a w o c fo hgl hro hS ho hc hfr hargs => ?_⟩
  have hC : Callable P f := ⟨fn, hf, hname, by rw [hb]; rfl⟩
  simp only [RelV] at hfr
  obtain ⟨a1, a2, hfv, h1, h2⟩ := hfr
  have h := h (env.map fun p => a.tmps.getD p.1 undef)
  rw [ambK_eq, appK0, crossK_eq] at h
  have hamb := ambA_rel (B := B) (S := Sr X.M B L w) (a := a) env [] fun t _ => hS.relE t
  generalize hvq : (env.map fun p => a.tmps.getD p.1 undef) = vs at h hamb
  obtain ⟨hS1, hle1⟩ := hS.push (Below.refl _ w) none (.amb vs (ambA [] env)) (fun bi e => by simp at e) (fun hle => RelVs.mono (Ble.app B none) hle _ _ hamb)
  have hv : RelVs (B ++ [none]) (Sr X.M (B ++ [none]) (L ++ [.amb vs (ambA [] env)]) w) (first ++ args ++ cap) (a1 ++ c.args.map a.eval ++ a2).toList := by
    have := RelVs.append _ _ _ _ (RelVs.append _ _ _ _ h1 hargs) h2
    exact RelVs.mono (Ble.app B none) hle1 _ _ (by simpa using this)
  have hlv := RelVs.length _ _ hv
  rw [Array.length_toList] at hlv
  have hlen := Nat.le_of_ble_eq_true hlen
  have hent := hS1.enter hv (nt := fn.ntmps) (by omega)
  intro next Q hn
  unfold Oper.wp
  rw [run_enter ho hc hfv hC, Oper.upon_enter]
  refine (calls_of_wp (R := fun e w' => ∃ u, e = .returned u ∧ next (a.put o.dst u) w') hf hb (vc_sound htb hmix (X := X.into (B ++ [none]) (L ++ [AO.amb vs (ambA [] env)]) w fn.ntmps) hgl hro (by simp [Fx.into]) cd _ _ _ _ w _ _ hok (envOf_noGd 0 _) hent h ?_)).mono ?_
  · intro e env' L' B' a' w' hK hn' hS'
    have key : ∀ (K' : Prop), resI env' tb L' fn.results.toList (fun xs => match getO L' L.length with
        | .amb vs' ys => vs' = vs ∧ joinK env ys fun env1 => forceL (setO L' L.length .dead) fun L => K (retA xs) env1 L
        | _ => False) → (a'.defers = [] ∧ ∃ v, (results fn a'.tmps).run P w' = .ok v w' ∧ ∃ u, Ending.returned v = .returned u ∧ next (a.put o.dst u) w') := by
      intro _ hres
      obtain ⟨xs, ws, k1, k2, k3, k4⟩ := resI_sound htb hS' hn' _ _ hres
      refine ⟨hS'.dfr, _, run_results fn a'.tmps w' ws k2 k3, _, rfl, ?_⟩
      split at k1
      · rename_i vs' ys hO
        obtain ⟨rfl, k1⟩ := k1
        rw [joinK_eq, forceL_eq] at k1
        have hlt : L.length < L'.length := by have := hS'.l0; simp [Fx.into] at this; omega
        have hids : ∃ bo, B'[L.length]? = some bo := by
          have : L.length < B'.length := by rw [hS'.relL.len]; exact hlt
          exact ⟨_, List.getElem?_eq_getElem this⟩
        obtain ⟨bo, hbo⟩ := hids
        have hob := hS'.relL.obj _ _ hbo
        rw [hO] at hob
        simp only [RelO] at hob
        have hSl : (Sr X.M B L w).le (Sr X.M B' L' w') := by
          intro t b q u hh
          have hlt := block_lt hh.2
          -- what was shared is shared still
          have hnm : ¬ (X.into (B ++ [none]) (L ++ [.amb vs' (ambA [] env)]) w fn.ntmps).mt b := by
            rintro ⟨id, bi, g1, g2, g3, rfl⟩
            have hid : id < B.length ∨ id = B.length := by have := (List.getElem?_eq_some_iff.1 g2).1; simp at this; omega
            have hBL := hS.relL.len
            rcases hid with hid | hid
            · rw [List.getElem?_append_left hid] at g2
              rw [getO_append, if_neg (by omega)] at g3
              refine hh.1 ?_
              cases t with
              | false => exact .inr ⟨id, bi, g2, rfl, g3⟩
              | true => exact .inr ⟨id, bi, g1, g2, rfl, g3⟩
            · subst hid
              simp at g2
          refine ⟨fun hm => ?_, by rw [World.cell?_of_block (w := w) (hS'.below.block b hlt hnm)]; exact hh.2⟩
          have fin : ∀ (id : Nat) (bi : BI), (t = true → X.M.ro ≤ id) → B'[id]? = some (some bi) → bi.b = b → (getO L' id).live = true → False := by
            intro id bi g0 g1 g2 g3
            by_cases hid : id < X.M.ro
            · have := hS'.old id hid
              simp only [Fx.into] at this
              have hBL := hS.relL.len
              have hrol := hS.rol
              rw [List.getElem?_append_left (by omega)] at this
              have g4 := this.2
              rw [getO_append, if_neg (by omega)] at g4
              refine hh.1 ?_
              cases t with
              | false => exact .inr ⟨id, bi, by rw [← this.1]; exact g1, g2, by rw [← g4]; exact g3⟩
              | true => have := g0 rfl; omega
            · rcases hS'.fresh id bi (by simp only [Fx.into]; omega) g1 g3 with g4 | g4
              · simp only [Fx.into] at g4; omega
              · exact hnm (g2 ▸ g4)
          cases t with
          | false =>
            rcases hm with hm | ⟨id, bi, g1, g2, g3⟩
            · exact hh.1 (.inl hm)
            · exact fin id bi (by simp) g1 g2 g3
          | true =>
            rcases hm with hm | ⟨id, bi, g0, g1, g2, g3⟩
            · exact hh.1 (.inl hm)
            · exact fin id bi (fun _ => g0) g1 g2 g3
        have hl1 : X.M.ro ≤ L.length := hS.rol
        have hE : RelE B' (Sr X.M B' L' w') (joinE env ys) a := fun t => joinE_rel hSl env ys t (hS.relE t) (by rw [hvq]; exact hob)
        have hS2 := (hS1.leave hS' hE).unlive (id := L.length) (x := .dead) hl1 hlt rfl (.inl rfl) (fun _ _ => by simp [RelO])
        refine hn _ _ _ _ _ _ k1 (joinE_keys env ys) hS2 (RelV.mono (Ble.refl _) (Sr_unlive rfl) _ _ (retA_sound k4))
      · exact k1.elim
    cases e with
    | normal => exact key True hK
    | ret => exact key True hK
    | exit i => exact hK.elim
  · rintro e w' ⟨u, rfl, hu⟩; exact hu

end
end Go.VA

namespace Go.VA
open Go Go.RowKit

/-- a loop, by the slots that its rounds write -/
theorem loopI {base : Env} {ro n0 : Nat} {V : Env → List AO → (Ex → Env → List AO → Prop) → Prop} {env : Env} {L : List AO} {K : Ex → Env → List AO → Prop}
    (σ : Type) (I : σ → Prop) (ce : σ → Env) (cl : σ → List AO) (m : σ → Nat) (s0 : σ) (h0 : I s0) (hr : Ref ro n0 env L (ce s0 ++ base, cl s0))
    (hg : ∀ s, NoGdE (ce s ++ base) = true)
    (hround : ∀ s, I s → V (ce s ++ base) (cl s) (loopK (fun env' L' => ∃ s', I s' ∧ Ref ro n0 env' L' (ce s' ++ base, cl s') ∧ m s' < m s) K)) : LoopEv base ro n0 V env L K :=
  ⟨⟨σ, I, fun s => (ce s ++ base, cl s), m, ⟨s0, h0, hr⟩, fun s hs => ⟨hg s, hround s hs⟩⟩⟩

/-- the objects, but for some, as they are -/
def putL : List (Nat × AO) → List AO → List AO
  | [], L => L
  | (i, x) :: r, L => putL r (setO L i x)

theorem loopN {base : Env} {ro n0 : Nat} {V : Env → List AO → (Ex → Env → List AO → Prop) → Prop} {env : Env} {L : List AO} {K : Ex → Env → List AO → Prop}
    (I : Nat → Prop) (ce : Nat → Env) (co : Nat → List (Nat × AO)) (top : Nat) (htop : ∀ s, I s → s ≤ top) (s0 : Nat) (h0 : I s0) (hr : Ref ro n0 env L (ce s0 ++ base, putL (co s0) L))
    (hg : ∀ s, NoGdE (ce s ++ base) = true)
    (hround : ∀ s, I s → V (ce s ++ base) (putL (co s) L) (loopK (fun env' L' => ∃ s', (I s' ∧ s < s') ∧ Ref ro n0 env' L' (ce s' ++ base, putL (co s') L)) K)) : LoopEv base ro n0 V env L K := by
  refine loopI Nat I ce (fun s => putL (co s) L) (fun s => top - s) s0 h0 hr hg fun s hs => ?_
  have := hround s hs
  have e : (fun (env' : Env) (L' : List AO) => ∃ s', (I s' ∧ s < s') ∧ Ref ro n0 env' L' (ce s' ++ base, putL (co s') L)) = (fun env' L' => ∃ s', I s' ∧ Ref ro n0 env' L' (ce s' ++ base, putL (co s') L) ∧ top - s' < top - s) := by
    funext env' L'
    simp only [eq_iff_iff]
    constructor
    · rintro ⟨s', ⟨h1, h2⟩, h3⟩
      exact ⟨s', h1, h3, by have := htop s' h1; omega⟩
    · rintro ⟨s', h1, h3, h4⟩
      exact ⟨s', ⟨h1, by omega⟩, h3⟩
  rw [e] at this
  exact this

theorem leSl0 {m : Nat} {t t' : Bool} {e n n' : Nat} {f g : Nat → List C} (h : n = 0) (h' : n' = 0) : Le m (.c (.sl t e n f)) (.c (.sl t' e n' g)) := by
  subst h; subst h'
  refine ⟨fun B S u _ hu => ?_⟩
  simp only [RelV, RepC] at hu ⊢
  obtain ⟨a, cap, h1, h2, _⟩ := hu
  exact ⟨a, cap, h1, h2, .inl trivial⟩
theorem leNil {m : Nat} {t : Bool} {e n : Nat} {g : Nat → List C} (h : n = 0) : Le m (.c (.v (.slice none 0 0))) (.c (.sl t e n g)) := by
  subst h
  refine ⟨fun B S u _ hu => ?_⟩
  simp only [RelV, RepC] at hu ⊢
  exact ⟨none, 0, hu.1, ⟨Nat.le_refl _, Nat.zero_le _⟩, .inl trivial⟩
theorem leEmp {m : Nat} {t : Bool} {e n : Nat} {g : Nat → List C} (h : n = 0) : Le m (.c .emp) (.c (.sl t e n g)) := by
  subst h
  refine ⟨fun B S u _ hu => ?_⟩
  simp only [RelV, RepC] at hu ⊢
  obtain ⟨a, rfl⟩ := hu
  exact ⟨a, 0, rfl, ⟨Nat.le_refl _, Nat.zero_le _⟩, .inl trivial⟩

/-- cells that say more -/
def LeC (x y : C) : Prop := ∀ S u, RepC S x u → RepC S y u
theorem LeC.refl (x : C) : LeC x x := fun _ _ h => h
theorem LeC.of_eq {x y : C} (h : x = y) : LeC x y := h ▸ LeC.refl x
theorem Le.toC {m : Nat} {x y : C} (h : LeC x y) : Le m (.c x) (.c y) := ⟨fun B S u _ hu => by simp only [RelV] at hu ⊢; exact h S u hu⟩
theorem LeC.sl {t : Bool} {e n n' : Nat} {f g : Nat → List C} (h : n = n') (hf : ∀ i, i < n' → f i = g i) : LeC (.sl t e n f) (.sl t e n' g) := fun S u hu => by
  have := (leSl (m := 0) (t := t) (e := e) h hf).h [] S u (Nat.zero_le _) (by simpa only [RelV] using hu)
  simpa only [RelV] using this
theorem LeC.nil {t : Bool} {e n : Nat} {g : Nat → List C} (h : n = 0) : LeC (.v (.slice none 0 0)) (.sl t e n g) := fun S u hu => by
  have := (leNil (m := 0) (t := t) (e := e) (g := g) h).h [] S u (Nat.zero_le _) (by simpa only [RelV] using hu)
  simpa only [RelV] using this
theorem LeC.sl0 {t t' : Bool} {e n n' : Nat} {f g : Nat → List C} (h : n = 0) (h' : n' = 0) : LeC (.sl t e n f) (.sl t' e n' g) := fun S u hu => by
  have := (leSl0 (m := 0) (t := t) (t' := t') (e := e) (f := f) (g := g) h h').h [] S u (Nat.zero_le _) (by simpa only [RelV] using hu)
  simpa only [RelV] using this
theorem LeC.emp {t : Bool} {e n : Nat} {g : Nat → List C} (h : n = 0) : LeC .emp (.sl t e n g) := fun S u hu => by
  have := (leEmp (m := 0) (t := t) (e := e) (g := g) h).h [] S u (Nat.zero_le _) (by simpa only [RelV] using hu)
  simpa only [RelV] using this

def LeCl : List C → List C → Prop
  | [], [] => True
  | x :: xs, y :: ys => LeC x y ∧ LeCl xs ys
  | _, _ => False
theorem LeCl.vs : ∀ {xs ys : List C}, LeCl xs ys → ∀ S us, RepVs S xs us → RepVs S ys us
  | [], [], _, S, us, h => by simpa [RepVs] using h
  | x :: xs, y :: ys, h, S, us, hu => by
    simp only [LeCl] at h
    simp only [RepVs] at hu ⊢
    obtain ⟨u, r, e, h1, h2⟩ := hu
    exact ⟨u, r, e, h.1 S u h1, LeCl.vs h.2 S r h2⟩
  | [], _ :: _, h, _, _, _ => by simp [LeCl] at h
  | _ :: _, [], h, _, _, _ => by simp [LeCl] at h
theorem LeCl.cs : ∀ {xs ys : List C}, LeCl xs ys → LeCs xs ys
  | [], [], _ => LeCs.refl _
  | x :: xs, y :: ys, h => by
    simp only [LeCl] at h
    have ih := LeCl.cs h.2
    refine ⟨by simp [ih.1], fun S R o hu => ?_⟩
    simp only [RepCs] at hu ⊢
    obtain ⟨⟨u, h1, h2⟩, h3⟩ := hu
    exact ⟨⟨u, h1, h.1 S u h2⟩, ih.2 S R _ h3⟩
  | [], _ :: _, h => by simp [LeCl] at h
  | _ :: _, [], h => by simp [LeCl] at h
theorem leAg {m : Nat} {xs ys : List C} (h : LeCl xs ys) : Le m (.ag xs) (.ag ys) := ⟨fun B S u _ hu => by
  simp only [RelV] at hu ⊢
  obtain ⟨arr, e, hu⟩ := hu
  exact ⟨arr, e, LeCl.vs h S _ hu⟩⟩
theorem leTup {m : Nat} : ∀ {xs ys : List AV}, xs.length = ys.length → (∀ (i : Nat) x y, xs[i]? = some x → ys[i]? = some y → Le m x y) → Le m (.tup xs) (.tup ys) := by
  intro xs ys hl h
  refine ⟨fun B S u hm hu => ?_⟩
  simp only [RelV] at hu ⊢
  obtain ⟨arr, e, hu⟩ := hu
  refine ⟨arr, e, RelVs.mk _ _ (by rw [RelVs.length _ _ hu, hl]) fun j y hy => ?_⟩
  have hj : j < xs.length := by rw [hl]; exact (List.getElem?_eq_some_iff.1 hy).1
  obtain ⟨u, k1, k2⟩ := RelVs.nth _ _ j _ hu (List.getElem?_eq_getElem hj)
  exact ⟨u, k1, (h j _ y (List.getElem?_eq_getElem hj) hy).h B S u hm k2⟩
theorem leTup2 {m : Nat} {a b a' b' : AV} (h : Le m a a') (h' : Le m b b') : Le m (.tup [a, b]) (.tup [a', b']) := leTup rfl fun i x y hx hy => by
  match i with
  | 0 => simp at hx hy; subst hx; subst hy; exact h
  | 1 => simp at hx hy; subst hx; subst hy; exact h'
  | n + 2 => simp at hx
theorem leTup3 {m : Nat} {a b c a' b' c' : AV} (h : Le m a a') (h' : Le m b b') (h'' : Le m c c') : Le m (.tup [a, b, c]) (.tup [a', b', c']) := leTup rfl fun i x y hx hy => by
  match i with
  | 0 => simp at hx hy; subst hx; subst hy; exact h
  | 1 => simp at hx hy; subst hx; subst hy; exact h'
  | 2 => simp at hx hy; subst hx; subst hy; exact h''
  | n + 3 => simp at hx

theorem NoTag.int {k : IntKind} {n : Int} : NoTag (intA k n) := NoTag.of_scalar rfl
theorem NoTag.bool {b : Bool} : NoTag (boolA b) := NoTag.of_scalar rfl
theorem NoTag.str {s : ByteArray} : NoTag (.c (.v (.string s))) := NoTag.of_scalar rfl

/-! ### No slice is longer than memory -/
mutual
def C.bnd : C → Prop
  | .v _ => True
  | .emp => True
  | .sl _ _ n f => n ≤ 140737488355328 ∧ ∀ i, i < n → bnds (f i)
def bnds : List C → Prop
  | [] => True
  | x :: r => x.bnd ∧ bnds r
end
def AV.bnd : AV → Prop
  | .c x => x.bnd
  | .ag xs => bnds xs
  | .sp _ xs _ => bnds xs
  | _ => True
def bndAll : List AV → Prop
  | [] => True
  | x :: r => x.bnd ∧ bndAll r

mutual
theorem RepC.bnd {S : Rd} : ∀ (x : C) (u : Value), RepC S x u → x.bnd
  | .v _, _, _ => by simp [C.bnd]
  | .emp, _, _ => by simp [C.bnd]
  | .sl t esz n f, u, h => by
    simp only [RepC] at h
    obtain ⟨a, cap, hu, hc, h1⟩ := h
    simp only [C.bnd]
    refine ⟨hc.2, fun i hi => ?_⟩
    rcases h1 with h1 | ⟨b, o, ha, h1⟩
    · omega
    · exact RepCs.bnd (f i) _ (h1 i hi).2
theorem RepCs.bnd {S : Rd} {R : Nat → Value → Prop} : ∀ (xs : List C) (o : Nat), RepCs S R o xs → bnds xs
  | [], _, _ => by simp [bnds]
  | x :: xs, o, h => by
    simp only [RepCs] at h
    obtain ⟨⟨u, h1, h2⟩, h3⟩ := h
    simp only [bnds]
    exact ⟨RepC.bnd x u h2, RepCs.bnd xs _ h3⟩
end
theorem RepVs.bnd {S : Rd} : ∀ (xs : List C) (us : List Value), RepVs S xs us → bnds xs
  | [], _, _ => by simp [bnds]
  | x :: xs, us, h => by
    simp only [RepVs] at h
    obtain ⟨u, r, _, h1, h2⟩ := h
    simp only [bnds]
    exact ⟨RepC.bnd x u h1, RepVs.bnd xs r h2⟩
theorem RelV.bnd {B : List (Option BI)} {S : Rd} (x : AV) (u : Value) (h : RelV B S x u) : x.bnd := by
  cases x <;> simp only [AV.bnd]
  case c x => simp only [RelV] at h; exact RepC.bnd x u h
  case ag xs => simp only [RelV] at h; obtain ⟨arr, _, h⟩ := h; exact RepVs.bnd xs _ h
  case sp t xs k => simp only [RelV] at h; obtain ⟨b, o, _, h⟩ := h; exact RepCs.bnd xs _ h
theorem RelVs.bnd {B : List (Option BI)} {S : Rd} : ∀ (xs : List AV) (us : List Value), RelVs B S xs us → bndAll xs
  | [], _, _ => by simp [bndAll]
  | x :: xs, us, h => by
    simp only [RelVs] at h
    obtain ⟨u, r, _, h1, h2⟩ := h
    simp only [bndAll]
    exact ⟨RelV.bnd x u h1, RelVs.bnd xs r h2⟩

section
variable {P : Program} {tb : TB} {gl : Gl}
/-- a function's contract, from its text, where no argument is longer than memory -/
theorem acall_of_vcb (htb : TbOk P tb) (hmix : P.follows .mixedOrders = true) {f : Nat} {fn : Func} {c : Code} (hf : P.funcs[f]? = some fn) (hb : fn.body = some c)
    (hname : (fn.name == "runtime.NumGoroutine") = false) (hok : codeOk fn.ntmps c = true) {args : List AV} {L : List AO} {r : AV} (hr : r.closed = true) (hargs' : Nat.ble args.length fn.ntmps = true)
    (h : bndAll args → crossK fn.results.toList c fun U => vc P tb gl L.length L.length U c (envOf 0 args) L (EndK L.length tb fn.results.toList r)) : ACall P gl f args L r :=
  ⟨⟨fn, hf, hname, by rw [hb]; rfl⟩, hr, fun w M B vals hro hL hG hv => (acall_of_vc htb hmix hf hb hname hok hr hargs' (h (RelVs.bnd _ _ hv))).run w M B vals hro hL hG hv⟩
end
end Go.VA
namespace Go.VA
theorem xc_guard {P : Program} {gl : Gl} {ro : Nat} {f : AV} {args : List AV} {env : Env} {L : List AO} {K : AV → Env → List AO → Prop} (h : XCall P gl ro f args env L K) : XCall P gl ro f args env L K := h
end Go.VA
namespace Go.VA
open Go Go.RowKit
def LeAll (n : Nat) : List AV → List AV → Prop
  | [], [] => True
  | x :: xs, y :: ys => Le n x y ∧ LeAll n xs ys
  | _, _ => False
theorem RelVs.leAll {B : List (Option BI)} {S : Rd} {n : Nat} (hn : n ≤ B.length) : ∀ {xs ys : List AV} {us : List Value}, LeAll n xs ys → RelVs B S xs us → RelVs B S ys us
  | [], [], us, _, h => h
  | x :: xs, y :: ys, us, hl, h => by
    simp only [LeAll] at hl
    simp only [RelVs] at h ⊢
    obtain ⟨u, r, e, h1, h2⟩ := h
    exact ⟨u, r, e, hl.1.h _ _ _ hn h1, RelVs.leAll hn hl.2 h2⟩
  | [], _ :: _, _, hl, _ => by simp [LeAll] at hl
  | _ :: _, [], _, hl, _ => by simp [LeAll] at hl
/-- a contract, of arguments of which more is known -/
theorem ACall.le {P : Program} {gl : Gl} {f : Nat} {args args' : List AV} {L : List AO} {r : AV} (h : ACall P gl f args' L r) (hl : LeAll L.length args args') : ACall P gl f args L r :=
  ⟨h.callable, h.closed, fun w M B vals hro hL hG hv => h.run w M B vals hro hL hG (RelVs.leAll (by rw [hL.len]; exact Nat.le_refl _) hl hv)⟩
theorem ACall.res {P : Program} {gl : Gl} {f : Nat} {args : List AV} {L : List AO} {r r' : AV} (h : ACall P gl f args L r) (hr : r'.closed = true) (hl : Le 0 r r') : ACall P gl f args L r' :=
  ⟨h.callable, hr, fun w M B vals hro hL hG hv => (h.run w M B vals hro hL hG hv).mono fun e w' ⟨u, h1, h2, h3⟩ => ⟨u, h1, h2, hl.h _ _ _ (Nat.zero_le _) h3⟩⟩
end Go.VA

namespace Go.VA
open Go Go.RowKit

/-! ### Calls that change objects of the caller's: boxes -/

def boxes (l : List (List C)) : List AO := l.map fun cs => .box (cs.map .c)

/-- the blocks of some objects -/
def Bl (B : List (Option BI)) (b : Nat) : Prop := ∃ (id : Nat) (bi : BI), B[id]? = some (some bi) ∧ bi.b = b

/-- a call that turns the boxes that are handed to it, and nothing else that was there -/
structure MCall (P : Program) (gl : Gl) (f : Nat) (pre : List (List C)) (args : List AV) (post : List (List C)) (r : AV) : Prop where
  callable : Callable P f
  closed : r.closed = true
  run : ∀ (w : World) (M : Mz) (B : List (Option BI)) (vals : Array Value), M.ro = 0 →
    RelL M B (boxes pre) w → GlOk gl (Sr M B (boxes pre) w) → RelVs B (Sr M B (boxes pre) w) args vals.toList →
    Calls P f vals w fun e w' => ∃ u, e = .returned u ∧ Frm (Bl B) w w' ∧ RelL M B (boxes post) w' ∧ RelV B (Sr M B (boxes post) w') r u

def viewN (n : Nat) (L : List AO) (id esz off len : Nat) : Option C := match getO L id with
  | .row e _ f => match Nat.beq e esz with
    | true => match Nat.ble n id with
      | true => some (.sl false esz len fun i => f (off + i))
      | false => none
    | false => none
  | .frz e _ f => match Nat.beq e esz with
    | true => some (.sl false esz len fun i => f (off + i))
    | false => none
  | _ => none
def viewNs (n : Nat) (L : List AO) : List AV → Option (List C)
  | [] => some []
  | y :: ys => match viewNs n L ys with
    | none => none
    | some zs => match y with
      | .c x => some (x :: zs)
      | .own id esz off len => match viewN n L id esz off len with
        | some x => some (x :: zs)
        | none => none
      | _ => none
def resN (n : Nat) (L : List AO) : AV → Option AV
  | .c x => some (.c x)
  | .ag xs => some (.ag xs)
  | .own id esz off len => match viewN n L id esz off len with
    | some y => some (.c y)
    | none => none
  | .agx ys => match viewNs n L ys with
    | some xs => some (.ag xs)
    | none => none
  | _ => none
def resM (n : Nat) (env : Env) (tb : TB) (L : List AO) : List ResultVar → (List AV → Prop) → Prop
  | [], K => K []
  | r :: rs, K => match r with
    | .tmp t => match resN n L (get env t) with
      | some x => resM n env tb L rs fun xs => K (x :: xs)
      | none => False
    | .cell a t => opLoad tb L t (get env a) fun y => match resN n L y with
      | some x => resM n env tb L rs fun xs => K (x :: xs)
      | none => False
/-- the boxes that were handed on, at the end -/
def endB (n : Nat) (L : List AO) : Nat → List (List C) → Prop
  | _, [] => True
  | i, cs :: r => (match getO L i with
    | .box ys => match viewNs n L ys with
      | some zs => LeCl zs cs
      | none => False
    | _ => False) ∧ endB n L (i + 1) r
def EndM (tb : TB) (rs : List ResultVar) (post : List (List C)) (r : AV) (x : Ex) (env : Env) (L : List AO) : Prop := match x with
  | .exit _ => False
  | _ => resM post.length env tb L rs fun xs => Le 0 (retA xs) r ∧ endB post.length L 0 post

theorem getO_boxes : ∀ (l : List (List C)) (i : Nat), getO (boxes l) i = match l[i]? with | some cs => .box (cs.map .c) | none => .dead
  | [], i => by simp [boxes, getO]
  | x :: r, 0 => by simp [boxes, getO]
  | x :: r, i + 1 => by
    have := getO_boxes r i
    simp only [boxes, List.map_cons, getO, List.getElem?_cons_succ] at this ⊢
    exact this
theorem boxes_len (l : List (List C)) : (boxes l).length = l.length := by simp [boxes]
theorem boxes_live {l : List (List C)} {i : Nat} : (getO (boxes l) i).live = true ↔ i < l.length := by
  rw [getO_boxes]
  by_cases h : i < l.length
  · rw [List.getElem?_eq_getElem h]; simp [h, AO.live]
  · rw [List.getElem?_eq_none (by omega)]; simp [h, AO.live]

theorem repVs_map {B : List (Option BI)} {S : Rd} : ∀ (xs : List C) (us : List Value), RelVs B S (xs.map .c) us ↔ RepVs S xs us
  | [], us => by simp [RelVs, RepVs]
  | x :: xs, us => by
    simp only [List.map_cons, RelVs, RepVs, RelV]
    constructor
    · rintro ⟨u, r, e, h1, h2⟩; exact ⟨u, r, e, h1, (repVs_map xs r).1 h2⟩
    · rintro ⟨u, r, e, h1, h2⟩; exact ⟨u, r, e, h1, (repVs_map xs r).2 h2⟩

section
variable {P : Program} {tb : TB} {gl : Gl}

/-- what a state hands on, when its objects from n on are forgotten -/
structure Fgt (M : Mz) (B : List (Option BI)) (L : List AO) (w : World) (n : Nat) (S' : Rd) : Prop where
  rel : RelL M B L w
  le : (Sr M B L w).le S'
  own : ∀ (id : Nat) (bi : BI), n ≤ id → B[id]? = some (some bi) → (getO L id).live = true → ∀ o u, w.cell? ⟨bi.b, o, none⟩ = some u → S' false bi.b o u

theorem viewN_sound {M : Mz} {B : List (Option BI)} {L : List AO} {w : World} {n : Nat} {S' : Rd} (h : Fgt M B L w n S') {id esz off len : Nat} {y : C}
    (hv : viewN n L id esz off len = some y) {u : Value} (hu : RelV B (Sr M B L w) (.own id esz off len) u) : RepC S' y u := by
  unfold viewN at hv
  have fin : ∀ (f : Nat → List C), y = .sl false esz len (fun i => f (off + i)) →
      (∀ bi, B[id]? = some (some bi) → ∀ i, i < bi.n → (f i).length = esz ∧ RepCs S' (S' false bi.b) (bi.o + i * esz) (f i)) → RepC S' y u := by
    intro f hy hf
    subst hy
    simp only [RelV] at hu
    simp only [RepC]
    rcases hu with ⟨bi, cap, hb, rfl, h1, h2, h3⟩ | ⟨rfl, ⟨a, rfl⟩, _⟩
    · refine ⟨_, cap, rfl, h1, ?_⟩
      by_cases h0 : len = 0
      · exact .inl h0
      · refine .inr ⟨bi.b, _, rfl, fun i hi => ?_⟩
        have := hf bi hb (off + i) (by omega)
        refine ⟨this.1, ?_⟩
        rw [show bi.o + off * esz + i * esz = bi.o + (off + i) * esz from by rw [Nat.add_mul]; omega]
        exact this.2
    · exact ⟨a, 0, rfl, ⟨Nat.le_refl _, Nat.zero_le _⟩, .inl rfl⟩
  split at hv
  · rename_i e m f hO
    split at hv
    · rename_i he
      obtain rfl := Nat.beq_spec he
      split at hv
      · rename_i hr
        simp only [Option.some.injEq] at hv
        refine fin f hv.symm fun bi hb i hi => ?_
        have := h.rel.obj id _ hb
        rw [hO] at this
        obtain ⟨hn, cs, ty, h1, h2, h3, h4⟩ := this
        have := h4 i (by omega)
        refine ⟨this.1, RepCs.mono h.le (fun o u hh => h.own id bi (Nat.le_of_ble_eq_true hr) hb (by rw [hO]; rfl) o u (by simpa [World.cell?, h1] using hh)) _ _ this.2⟩
      · simp at hv
    · simp at hv
  · rename_i e m f hO
    split at hv
    · rename_i he
      obtain rfl := Nat.beq_spec he
      simp only [Option.some.injEq] at hv
      refine fin f hv.symm fun bi hb i hi => ?_
      have := h.rel.obj id _ hb
      rw [hO] at this
      obtain ⟨hn, h4⟩ := this
      exact ⟨(h4 i (by omega)).1, RepCs.mono h.le (fun o u hh => h.le _ _ _ _ hh) _ _ (h4 i (by omega)).2⟩
    · simp at hv
  · simp at hv

theorem viewNs_sound {M : Mz} {B : List (Option BI)} {L : List AO} {w : World} {n : Nat} {S' : Rd} (h : Fgt M B L w n S') : ∀ (ys : List AV) (xs : List C) (us : List Value),
    viewNs n L ys = some xs → RelVs B (Sr M B L w) ys us → RepVs S' xs us
  | [], xs, us, hv, hu => by
    simp only [viewNs, Option.some.injEq] at hv; subst hv
    simpa [RelVs, RepVs] using hu
  | y :: ys, xs, us, hv, hu => by
    simp only [viewNs] at hv
    simp only [RelVs] at hu
    obtain ⟨u, r, rfl, h1, h2⟩ := hu
    split at hv
    · simp at hv
    · rename_i zs hz
      have ih := viewNs_sound h ys zs r hz h2
      split at hv
      · simp only [Option.some.injEq] at hv; subst hv
        simp only [RelV] at h1
        simp only [RepVs]
        exact ⟨u, r, rfl, RepC.mono h.le _ _ h1, ih⟩
      · split at hv
        · rename_i y' hy
          simp only [Option.some.injEq] at hv; subst hv
          simp only [RepVs]
          exact ⟨u, r, rfl, viewN_sound h hy h1, ih⟩
        · simp at hv
      · simp at hv

theorem resN_sound {M : Mz} {B B2 : List (Option BI)} {L : List AO} {w : World} {n : Nat} {S' : Rd} (h : Fgt M B L w n S') {x y : AV} (hv : resN n L x = some y) {u : Value} (hu : RelV B (Sr M B L w) x u) : RelV B2 S' y u := by
  unfold resN at hv
  split at hv
  · simp only [Option.some.injEq] at hv; subst hv
    simp only [RelV] at hu ⊢
    exact RepC.mono h.le _ _ hu
  · simp only [Option.some.injEq] at hv; subst hv
    simp only [RelV] at hu ⊢
    obtain ⟨arr, e, hu⟩ := hu
    exact ⟨arr, e, RepVs.mono h.le _ _ hu⟩
  · split at hv
    · rename_i z hz
      simp only [Option.some.injEq] at hv; subst hv
      simp only [RelV]
      exact viewN_sound h hz hu
    · simp at hv
  · split at hv
    · rename_i z hz
      simp only [Option.some.injEq] at hv; subst hv
      simp only [RelV] at hu ⊢
      obtain ⟨arr, e, _, hu⟩ := hu
      exact ⟨arr, e, viewNs_sound h _ _ _ hz hu⟩
    · simp at hv
  · simp at hv

theorem resM_sound (htb : TbOk P tb) {X : Fx} {B B2 : List (Option BI)} {env : Env} {L : List AO} {a : Act} {w : World} (h : St X B env L a w) (hn : NoGd env) {n : Nat} {S' : Rd} (hf : Fgt X.M B L w n S') :
    ∀ (rs : List ResultVar) (K : List AV → Prop), resM n env tb L rs K → ∃ xs vs, K xs ∧ rs.length = vs.length ∧ (∀ (i : Nat) r v, rs[i]? = some r → vs[i]? = some v → (rvOne a.tmps r).run P w = .ok v w) ∧
      RelVs B2 S' xs vs
  | [], K, hK => ⟨[], [], hK, rfl, by simp, by simp [RelVs]⟩
  | r :: rs, K, hK => by
    have hsl : ∀ t, RelV B (Sr X.M B L w) (get env t) (a.tmps.getD t undef) := by
      intro t
      have := h.relE t
      rwa [relSl_iff] at this
      cases hq : get env t <;> try rfl
      have := hn _ (get_key hq)
      simp at this
    have fin : ∀ (x : AV) (v : Value), (rvOne a.tmps r).run P w = .ok v w → RelV B2 S' x v → resM n env tb L rs (fun xs => K (x :: xs)) →
        ∃ xs vs, K xs ∧ (r :: rs).length = vs.length ∧ (∀ (i : Nat) r' v, (r :: rs)[i]? = some r' → vs[i]? = some v → (rvOne a.tmps r').run P w = .ok v w) ∧ RelVs B2 S' xs vs := by
      intro x v h1 h2 h3
      obtain ⟨xs, vs, k1, k2, k3, k4⟩ := resM_sound htb h hn hf rs _ h3
      refine ⟨x :: xs, v :: vs, k1, by simp [k2], fun i r' v' e1 e2 => ?_, ?_⟩
      · cases i with
        | zero => simp at e1 e2; subst e1; subst e2; exact h1
        | succ i => exact k3 i r' v' (by simpa using e1) (by simpa using e2)
      · simp only [RelVs]; exact ⟨v, vs, rfl, h2, k4⟩
    simp only [resM] at hK
    split at hK
    · rename_i t
      split at hK
      · rename_i x hx
        exact fin x _ rfl (resN_sound hf hx (hsl t)) hK
      · exact hK.elim
    · rename_i ad t
      obtain ⟨y, hy, hh⟩ := opLoad_sound htb hK
      split at hy
      · rename_i x hx
        obtain ⟨v, h1, h2⟩ := hh X.M B w _ h.relL (hsl ad)
        refine fin x v ?_ (resN_sound hf hx h2) hy
        simp only [rvOne]
        generalize a.tmps.getD ad undef = p at h1
        cases p with
        | pointer q =>
          cases q with
          | some q => simpa [Instr.loadAt, Instr.sureAddr, asAddr] using h1
          | none => simp [Instr.loadAt, Instr.sureAddr] at h1
        | _ => simp [Instr.loadAt, Instr.sureAddr] at h1
      · exact hy.elim

theorem endB_get {n : Nat} {L : List AO} : ∀ {l : List (List C)} {i : Nat}, endB n L i l → ∀ (j : Nat) cs, l[j]? = some cs → ∃ ys zs, getO L (i + j) = .box ys ∧ viewNs n L ys = some zs ∧ LeCl zs cs
  | [], i, _, j, cs, h => by simp at h
  | x :: r, i, h, j, cs, hj => by
    simp only [endB] at h
    cases j with
    | zero =>
      simp only [List.getElem?_cons_zero, Option.some.injEq] at hj
      subst hj
      have h1 := h.1
      split at h1
      · rename_i ys hO
        split at h1
        · rename_i zs hz
          exact ⟨ys, zs, hO, hz, h1⟩
        · exact h1.elim
      · exact h1.elim
    | succ j =>
      obtain ⟨ys, zs, k1, k2⟩ := endB_get h.2 j cs (by simpa using hj)
      exact ⟨ys, zs, by rw [← k1]; congr 1; omega, k2⟩

/-- a contract of a call that turns boxes, from its text -/
theorem mcall_of_vc (htb : TbOk P tb) (hmix : P.follows .mixedOrders = true) {f : Nat} {fn : Func} {c : Code} (hf : P.funcs[f]? = some fn) (hb : fn.body = some c)
    (hname : (fn.name == "runtime.NumGoroutine") = false) (hok : codeOk fn.ntmps c = true) {pre post : List (List C)} {args : List AV} {r : AV} (hr : r.closed = true) (hargs' : Nat.ble args.length fn.ntmps = true) (hpp : post.length = pre.length)
    (h : crossK fn.results.toList c fun U => vc P tb gl 0 pre.length U c (envOf 0 args) (boxes pre) (EndM tb fn.results.toList post r)) : MCall P gl f pre args post r := by
  rw [crossK_eq] at h
  have hargs := Nat.le_of_ble_eq_true hargs'
  refine ⟨⟨fn, hf, hname, by rw [hb]; rfl⟩, hr, fun w M B vals hro hL hG hv => ?_⟩
  have hlv := RelVs.length _ _ hv
  rw [Array.length_toList] at hlv
  let X : Fx := ⟨gl, w, M, B, boxes pre, fn.ntmps, Bl B⟩
  have hS : St X B (envOf 0 args) (boxes pre) { tmps := vals ++ Array.replicate (fn.ntmps - vals.size) undef, defers := [] } w :=
    ⟨hL, hG, RelE.envOf hv fn.ntmps, Frm.refl _ _, fun id bi h1 h2 h3 => .inr ⟨id, bi, h2, rfl⟩, fun id h => by simp only [X, hro] at h; omega, by simp only [X, hro]; omega, Nat.le_refl _, fun id _ _ => .inr ⟨rfl, fun _ => rfl⟩, rfl, by
      simp only [Array.size_append, Array.size_replicate, X]; omega⟩
  refine calls_of_wp hf hb (vc_sound htb hmix (X := X) rfl hro (by simp [X, boxes_len]) c _ (boxes pre) B _ w _ _ hok (envOf_noGd 0 args) hS h ?_)
  intro e env' L' B' a' w' hK hn' hS'
  have key : ∀ (K : Prop), (resM post.length env' tb L' fn.results.toList fun xs => Le 0 (retA xs) r ∧ endB post.length L' 0 post) →
      (a'.defers = [] ∧ ∃ v, (results fn a'.tmps).run P w' = .ok v w' ∧ (∃ u, Ending.returned v = .returned u ∧ Frm (Bl B) w w' ∧ RelL M B (boxes post) w' ∧ RelV B (Sr M B (boxes post) w') r u)) := by
    intro _ hres
    have hBL : B.length = pre.length := by have := hL.len; rwa [boxes_len] at this
    -- the boxes are there still
    have hend : endB post.length L' 0 post := by
      have : ∀ (rs : List ResultVar) (K : List AV → Prop), resM post.length env' tb L' rs K → ∃ xs, K xs := by
        intro rs
        induction rs with
        | nil => intro K h; exact ⟨_, h⟩
        | cons q rs ih =>
          intro K h
          simp only [resM] at h
          split at h
          · split at h
            · obtain ⟨xs, h⟩ := ih _ h; exact ⟨_, h⟩
            · exact h.elim
          · obtain ⟨y, hy, _⟩ := opLoad_sound htb h
            split at hy
            · obtain ⟨xs, h⟩ := ih _ hy; exact ⟨_, h⟩
            · exact hy.elim
      obtain ⟨_, h⟩ := this _ _ hres
      exact h.2
    have hl0 : pre.length ≤ L'.length := by have := hS'.l0; simpa [X, boxes_len] using this
    have hbox : ∀ (id : Nat), id < post.length → ∃ ys zs cs, post[id]? = some cs ∧ getO L' id = .box ys ∧ viewNs post.length L' ys = some zs ∧ LeCl zs cs ∧ B'[id]? = B[id]? := by
      intro id hid
      obtain ⟨ys, zs, k1, k2, k3⟩ := endB_get hend id post[id] (List.getElem?_eq_getElem hid)
      rw [Nat.zero_add] at k1
      refine ⟨ys, zs, _, List.getElem?_eq_getElem hid, k1, k2, k3, ?_⟩
      have := hS'.knd id (by simp only [X, boxes_len]; omega) (by omega)
      rw [k1] at this
      rcases this with h0 | ⟨_, h0⟩
      · simp [AO.kd] at h0
      · exact h0 (by simp [AO.kd])
    have hle : (Sr M B' L' w').le (Sr M B (boxes post) w') := by
      intro t b o u hh
      refine ⟨fun hm => hh.1 ?_, hh.2⟩
      have mem : ∀ (id : Nat) (bi : BI), B[id]? = some (some bi) → (getO (boxes post) id).live = true → B'[id]? = some (some bi) ∧ (getO L' id).live = true := by
        intro id bi h1 h2
        obtain ⟨ys, _, _, _, k1, _, _, k4⟩ := hbox id (boxes_live.1 h2)
        exact ⟨k4.trans h1, by rw [k1]; rfl⟩
      cases t with
      | false =>
        rcases hm with hm | ⟨id, bi, h1, h2, h3⟩
        · exact .inl hm
        · obtain ⟨k1, k2⟩ := mem id bi h1 h3
          exact .inr ⟨id, bi, k1, h2, k2⟩
      | true =>
        rcases hm with hm | ⟨id, bi, h0, h1, h2, h3⟩
        · exact .inl hm
        · obtain ⟨k1, k2⟩ := mem id bi h1 h3
          exact .inr ⟨id, bi, h0, k1, h2, k2⟩
    have hf : Fgt M B' L' w' post.length (Sr M B (boxes post) w') := by
      refine ⟨hS'.relL, hle, fun id bi hid hb hl o u hc => ⟨?_, hc⟩⟩
      rintro (hm | ⟨id', bi', h1, h2, h3⟩)
      · exact hS'.relL.notM id bi hb hl hm
      · have hid' := boxes_live.1 h3
        obtain ⟨ys, _, _, _, k1, _, _, k4⟩ := hbox id' hid'
        exact hS'.relL.dist id' id bi' bi (by omega) (k4.trans h1) hb (by rw [k1]; rfl) hl h2
    obtain ⟨xs, vs, ⟨k1, _⟩, k2, k3, k4⟩ := resM_sound (B2 := B) htb hS' hn' hf _ _ hres
    refine ⟨hS'.dfr, _, run_results fn a'.tmps w' vs k2 k3, _, rfl, hS'.below, ?_, k1.h _ _ _ (Nat.zero_le _) (retA_sound k4)⟩
    have hsz := hS'.below.size
    exact {
      len := by rw [boxes_len, hpp]; exact hBL
      bnd := fun id bi h => Nat.lt_of_lt_of_le (hL.bnd id bi h) hsz
      mbnd := fun b h => Nat.lt_of_lt_of_le (hL.mbnd b h) hsz
      notM := fun id bi h hl => hL.notM id bi h (by rw [boxes_live] at hl ⊢; omega)
      dist := fun i j bi bj hij hi hj hli hlj => hL.dist i j bi bj hij hi hj (by rw [boxes_live] at hli ⊢; omega) (by rw [boxes_live] at hlj ⊢; omega)
      obj := fun id bo h => by
        have hid : id < post.length := by have := (List.getElem?_eq_some_iff.1 h).1; omega
        obtain ⟨ys, zs, cs, q1, q2, q3, q4, q5⟩ := hbox id hid
        have := hS'.relL.obj id bo (q5.trans h)
        rw [q2] at this
        obtain ⟨bi, cells, ty, rfl, g1, g2, g3, g4, g5⟩ := this
        rw [getO_boxes, q1]
        exact ⟨bi, cells, ty, rfl, g1, g2, g3, g4, (repVs_map _ _).2 (LeCl.vs q4 _ _ (viewNs_sound hf _ _ _ q3 g5))⟩ }
  cases e with
  | normal => exact key True hK
  | ret => exact key True hK
  | exit i => exact hK.elim
end
end Go.VA

namespace Go.VA
open Go Go.RowKit

/-! ### Such a call, in the midst of what is known -/

def renA (sel : List Nat) : AV → AV
  | .ptr i off => .ptr (sel.getD i 0) off
  | x => x
def argOk (n : Nat) : AV → Bool
  | .ptr i _ => Nat.blt i n
  | x => x.closed
def argsOk (n : Nat) : List AV → Bool
  | [] => true
  | x :: r => match argOk n x with | true => argsOk n r | false => false
def renAs (sel : List Nat) : List AV → List AV
  | [] => []
  | x :: r => renA sel x :: renAs sel r
def boxCs : AO → Option (List C)
  | .box ys => toCs ys
  | _ => none
def selOk (ro : Nat) (L : List AO) : List Nat → List (List C) → Prop
  | [], [] => True
  | s :: r, cs :: pr => (Nat.ble ro s = true ∧ match boxCs (getO L s) with | some zs => LeCl zs cs | none => False) ∧ selOk ro L r pr
  | _, _ => False
def distN : List Nat → Bool
  | [] => true
  | x :: r => match memN x r with | true => false | false => distN r
def putS : List Nat → List (List C) → List AO → List AO
  | s :: r, cs :: pr, L => putS r pr (setO L s (.box (cs.map .c)))
  | _, _, L => L

theorem toCs_map : ∀ {ys : List AV} {zs : List C}, toCs ys = some zs → ys = zs.map .c
  | [], zs, h => by simp [toCs] at h; subst h; rfl
  | y :: ys, zs, h => by
    cases y <;> simp only [toCs, reduceCtorEq] at h
    split at h
    · rename_i xs hx
      simp only [Option.some.injEq] at h
      subst h
      rw [toCs_map hx]; rfl
    · simp at h

theorem selOk_get {ro : Nat} {L : List AO} : ∀ {sel : List Nat} {pre : List (List C)}, selOk ro L sel pre → sel.length = pre.length ∧
    ∀ (i s : Nat) cs, sel[i]? = some s → pre[i]? = some cs → ro ≤ s ∧ ∃ zs, getO L s = .box (zs.map .c) ∧ LeCl zs cs
  | [], [], _ => ⟨rfl, by simp⟩
  | s :: r, cs :: pr, h => by
    simp only [selOk] at h
    obtain ⟨⟨h1, h2⟩, h3⟩ := h
    obtain ⟨k1, k2⟩ := selOk_get h3
    refine ⟨by simp [k1], fun i s' cs' hs hc => ?_⟩
    cases i with
    | zero =>
      simp at hs hc
      subst hs; subst hc
      refine ⟨Nat.le_of_ble_eq_true h1, ?_⟩
      split at h2
      · rename_i zs hz
        refine ⟨zs, ?_, h2⟩
        unfold boxCs at hz
        split at hz
        · rename_i ys hO; rw [hO, toCs_map hz]
        · simp at hz
      · exact h2.elim
    | succ i => exact k2 i s' cs' (by simpa using hs) (by simpa using hc)
  | [], _ :: _, h => h.elim
  | _ :: _, [], h => h.elim

theorem distN_spec : ∀ {l : List Nat}, distN l = true → ∀ (i j : Nat) x, i ≠ j → l[i]? = some x → l[j]? = some x → False
  | [], _, i, j, x, _, h, _ => by simp at h
  | y :: r, h, i, j, x, hij, hi, hj => by
    simp only [distN] at h
    split at h
    · simp at h
    · rename_i hm
      have hn : y ∉ r := fun e => by rw [memN_spec.2 e] at hm; simp at hm
      cases i with
      | zero =>
        cases j with
        | zero => exact hij rfl
        | succ j => simp at hi hj; subst hi; exact hn (List.mem_of_getElem? hj)
      | succ i =>
        cases j with
        | zero => simp at hi hj; subst hj; exact hn (List.mem_of_getElem? hi)
        | succ j => exact distN_spec h i j x (by omega) (by simpa using hi) (by simpa using hj)

theorem putS_length : ∀ (sel : List Nat) (post : List (List C)) (L : List AO), (putS sel post L).length = L.length
  | [], _, _ => by simp [putS]
  | _ :: _, [], _ => by simp [putS]
  | s :: r, cs :: pr, L => by simp only [putS]; rw [putS_length, setO_length]

theorem getO_putS : ∀ (sel : List Nat) (post : List (List C)) (L : List AO) (j : Nat), (∀ s ∈ sel, s < L.length) → distN sel = true → sel.length = post.length →
    (j ∉ sel → getO (putS sel post L) j = getO L j) ∧ ∀ (i : Nat) cs, sel[i]? = some j → post[i]? = some cs → getO (putS sel post L) j = .box (cs.map .c)
  | [], [], L, j, _, _, _ => ⟨fun _ => rfl, by simp⟩
  | [], _ :: _, _, _, _, _, h => by simp at h
  | _ :: _, [], _, _, _, _, h => by simp at h
  | s :: r, cs :: pr, L, j, hlt, hd, hl => by
    have hd' : memN s r = false ∧ distN r = true := by
      simp only [distN] at hd
      split at hd
      · simp at hd
      · rename_i h; exact ⟨h, hd⟩
    have hs : s ∉ r := fun e => by have := hd'.1; rw [memN_spec.2 e] at this; simp at this
    have hsl := hlt s (by simp)
    obtain ⟨k1, k2⟩ := getO_putS r pr (setO L s (.box (cs.map .c))) j (fun x hx => by rw [setO_length]; exact hlt x (by simp [hx])) hd'.2 (by simpa using hl)
    simp only [putS]
    refine ⟨fun hj => ?_, fun i cs' hi hc => ?_⟩
    · simp only [List.mem_cons, not_or] at hj
      rw [k1 hj.2, getO_setO L s j _ hsl, if_neg hj.1]
    · cases i with
      | zero =>
        simp at hi hc
        subst hi; subst hc
        rw [k1 hs, getO_setO L s s _ hsl, if_pos rfl]
      | succ i => exact k2 i cs' (by simpa using hi) (by simpa using hc)

section
variable {P : Program} {gl : Gl}

/-- an object that lies elsewhere -/
theorem RelO_keep {B : List (Option BI)} {S S' : Rd} {w w' : World} (hS : S.le S') : ∀ (o : AO) (bo : Option BI), (o.live = true → ∀ b, bo = some b → w'.heap[b.b]? = w.heap[b.b]?) → RelO B S w o bo → RelO B S' w' o bo
  | .box xs, bo, hk, hr => by
    obtain ⟨b, cs, ty, rfl, k1, k2, k3, k4, k5⟩ := hr
    exact ⟨b, cs, ty, rfl, by rw [hk rfl b rfl]; exact k1, k2, k3, k4, RelVs.mono (Ble.refl _) hS _ _ k5⟩
  | .row e n f, none, hk, hr => hr
  | .row e n f, some b, hk, hr => by
    obtain ⟨h0, cs, ty, k1, k2, k3, k4⟩ := hr
    exact ⟨h0, cs, ty, by rw [hk rfl b rfl]; exact k1, k2, k3, fun i hi => ⟨(k4 i hi).1, RepCs.mono hS (fun _ _ x => x) _ _ (k4 i hi).2⟩⟩
  | .frz e n f, none, hk, hr => hr
  | .frz e n f, some b, hk, hr => by
    obtain ⟨h0, k4⟩ := hr
    exact ⟨h0, fun i hi => ⟨(k4 i hi).1, RepCs.mono hS (hS false b.b) _ _ (k4 i hi).2⟩⟩
  | .mp m, bo, hk, hr => by
    obtain ⟨b, es, clock, rfl, k1, k2⟩ := hr
    exact ⟨b, es, clock, rfl, by rw [hk rfl b rfl]; exact k1, RelM.mono hS _ _ k2⟩
  | .amb vs xs, bo, hk, hr => RelVs.mono (Ble.refl _) hS _ _ hr
  | .dead, _, _, _ => trivial

theorem args_ren {B B' : List (Option BI)} {S S' : Rd} {sel : List Nat} (hS : S.le S') (hB : ∀ (i s : Nat), sel[i]? = some s → B'[i]? = B[s]?) : ∀ (xs : List AV) (us : List Value), argsOk sel.length xs = true → RelVs B S (renAs sel xs) us → RelVs B' S' xs us
  | [], us, _, h => by simpa [renAs, RelVs] using h
  | x :: r, us, hc, h => by
    simp only [argsOk] at hc
    split at hc
    · rename_i h0
      simp only [renAs, RelVs] at h ⊢
      obtain ⟨u, q, e, h1, h2⟩ := h
      refine ⟨u, q, e, ?_, args_ren hS hB r q hc h2⟩
      cases x with
      | ptr i off =>
        simp only [argOk] at h0
        have hi := bltN h0
        simp only [renA, RelV] at h1 ⊢
        obtain ⟨bi, g1, g2⟩ := h1
        have hs : sel[i]? = some (sel.getD i 0) := by rw [List.getD_eq_getElem?_getD, List.getElem?_eq_getElem hi]; rfl
        exact ⟨bi, by rw [hB i _ hs]; exact g1, g2⟩
      | _ => exact closed_rel hS _ _ h0 h1
    · simp at hc

/-- a call that turns boxes -/
theorem xc_m {f : Nat} {pre post : List (List C)} {args' : List AV} {r : AV} (h : MCall P gl f pre args' post r) (sel : List Nat) {ro : Nat} {args : List AV} {env : Env} {L : List AO} {K : AV → Env → List AO → Prop}
    (hargs : renAs sel args' = args) (hao : argsOk sel.length args' = true) (hd : distN sel = true) (hpp : post.length = pre.length) (hsel : selOk ro L sel pre)
    (hK : forceL (putS sel post L) fun L' => K r env L') : XCall P gl ro (.fn f [] []) args env L K := by
  refine ⟨fun X B a w o c fo hgl hro hS ho hc hfr hav => ?_⟩
  rw [forceL_eq] at hK
  subst hargs
  subst hro
  obtain ⟨hsl, hsg⟩ := selOk_get hsel
  simp only [RelV, RelVs] at hfr
  obtain ⟨a1, a2, hfv, h1, h2⟩ := hfr
  have ha1 : a1 = #[] := by simpa using h1
  have ha2 : a2 = #[] := by simpa using h2
  subst ha1; subst ha2
  have hL := hS.relL
  -- the objects that are handed on
  have sg : ∀ (s : Nat), s ∈ sel → X.M.ro ≤ s ∧ s < L.length ∧ (getO L s).live = true ∧ (getO L s).kd = 1 := by
    intro s hs
    obtain ⟨i, hi, rfl⟩ := List.mem_iff_getElem.1 hs
    obtain ⟨k1, zs, k2, _⟩ := hsg i sel[i] (pre[i]'(by omega)) (List.getElem?_eq_getElem hi) (List.getElem?_eq_getElem (by omega))
    have hl : (getO L sel[i]).live = true := by rw [k2]; rfl
    exact ⟨k1, live_lt hl, hl, by rw [k2]; rfl⟩
  let rest : Bool → Nat → Prop := fun t b => match t with
    | false => X.M.f b ∨ ∃ (id : Nat) (bi : BI), id ∉ sel ∧ B[id]? = some (some bi) ∧ bi.b = b ∧ (getO L id).live = true
    | true => X.M.t b ∨ ∃ (id : Nat) (bi : BI), id ∉ sel ∧ X.M.ro ≤ id ∧ B[id]? = some (some bi) ∧ bi.b = b ∧ (getO L id).live = true
  let M' : Mz := ⟨0, rest false, rest true, fun b hb => by
    rcases hb with hb | ⟨id, bi, h0, _, h1⟩
    · exact .inl (X.M.le b hb)
    · exact .inr ⟨id, bi, h0, h1⟩⟩
  let B' : List (Option BI) := sel.map fun s => (B[s]?).getD none
  have hB' : ∀ (i s : Nat), sel[i]? = some s → B'[i]? = B[s]? := by
    intro i s hs
    have hlt : s < B.length := by rw [hL.len]; exact (sg s (List.mem_of_getElem? hs)).2.1
    simp only [B', List.getElem?_map, hs, Option.map_some, List.getElem?_eq_getElem hlt, Option.getD_some]
  have hB'i : ∀ (i : Nat) (bo : Option BI), B'[i]? = some bo → ∃ s, sel[i]? = some s ∧ B[s]? = some bo := by
    intro i bo hi
    have hlt : i < sel.length := by have := (List.getElem?_eq_some_iff.1 hi).1; simpa [B'] using this
    exact ⟨sel[i], List.getElem?_eq_getElem hlt, by rw [← hB' i _ (List.getElem?_eq_getElem hlt)]; exact hi⟩
  -- what may be written is the same
  have hmu : ∀ (Ls Lb : List AO), Ls.length = sel.length → (∀ i, i < sel.length → (getO Ls i).live = true) → (∀ j, (getO Lb j).live = (getO L j).live) → ∀ t b, MU M' B' Ls t b ↔ MU X.M B Lb t b := by
    intro Ls Lb hlen hlv hlb t b
    cases t with
    | false =>
      constructor
      · rintro (hm | ⟨i, bi, h1, h2, _⟩)
        · rcases hm with hm | ⟨id, bi, _, k1, k2, k3⟩
          · exact .inl hm
          · exact .inr ⟨id, bi, k1, k2, by rw [hlb]; exact k3⟩
        · obtain ⟨s, k1, k2⟩ := hB'i i _ h1
          exact .inr ⟨s, bi, k2, h2, by rw [hlb]; exact (sg s (List.mem_of_getElem? k1)).2.2.1⟩
      · rintro (hm | ⟨id, bi, h1, h2, h3⟩)
        · exact .inl (.inl hm)
        · rw [hlb] at h3
          by_cases hid : id ∈ sel
          · obtain ⟨i, hi, rfl⟩ := List.mem_iff_getElem.1 hid
            exact .inr ⟨i, bi, by rw [hB' i _ (List.getElem?_eq_getElem hi)]; exact h1, h2, hlv i hi⟩
          · exact .inl (.inr ⟨id, bi, hid, h1, h2, h3⟩)
    | true =>
      constructor
      · rintro (hm | ⟨i, bi, _, h1, h2, _⟩)
        · rcases hm with hm | ⟨id, bi, _, k0, k1, k2, k3⟩
          · exact .inl hm
          · exact .inr ⟨id, bi, k0, k1, k2, by rw [hlb]; exact k3⟩
        · obtain ⟨s, k1, k2⟩ := hB'i i _ h1
          have := sg s (List.mem_of_getElem? k1)
          exact .inr ⟨s, bi, this.1, k2, h2, by rw [hlb]; exact this.2.2.1⟩
      · rintro (hm | ⟨id, bi, h0, h1, h2, h3⟩)
        · exact .inl (.inl hm)
        · rw [hlb] at h3
          by_cases hid : id ∈ sel
          · obtain ⟨i, hi, rfl⟩ := List.mem_iff_getElem.1 hid
            exact .inr ⟨i, bi, Nat.zero_le _, by rw [hB' i _ (List.getElem?_eq_getElem hi)]; exact h1, h2, hlv i hi⟩
          · exact .inl (.inr ⟨id, bi, hid, h0, h1, h2, h3⟩)
  have hpl : (boxes pre).length = sel.length := by rw [boxes_len]; exact hsl.symm
  have hmu0 := hmu (boxes pre) L hpl (fun i hi => boxes_live.2 (by omega)) (fun _ => rfl)
  have hSr : ∀ w0, (Sr X.M B L w0).le (Sr M' B' (boxes pre) w0) := fun w0 t b q u hh => ⟨fun hm => hh.1 ((hmu0 t b).1 hm), hh.2⟩
  have hnM : ∀ (i : Nat) (bi : BI), B'[i]? = some (some bi) → ¬ rest false bi.b := by
    intro i bi hi
    obtain ⟨s, k1, k2⟩ := hB'i i _ hi
    have hs := sg s (List.mem_of_getElem? k1)
    rintro (hm | ⟨id, bi', q0, q1, q2, q3⟩)
    · exact hL.notM s bi k2 hs.2.2.1 hm
    · exact hL.dist id s bi' bi (fun e => q0 (e ▸ List.mem_of_getElem? k1)) q1 k2 q3 hs.2.2.1 q2
  have hdst : ∀ (i j : Nat) (bi bj : BI), i ≠ j → B'[i]? = some (some bi) → B'[j]? = some (some bj) → bi.b ≠ bj.b := by
    intro i j bi bj hij hi hj
    obtain ⟨s, k1, k2⟩ := hB'i i _ hi
    obtain ⟨s', k3, k4⟩ := hB'i j _ hj
    have e1 := sg s (List.mem_of_getElem? k1)
    have e2 := sg s' (List.mem_of_getElem? k3)
    exact hL.dist s s' bi bj (fun e => distN_spec hd i j s hij k1 (e ▸ k3)) k2 k4 e1.2.2.1 e2.2.2.1
  have hRel : RelL M' B' (boxes pre) w := {
    len := by rw [hpl]; simp [B']
    bnd := fun i bi hi => by obtain ⟨s, _, k2⟩ := hB'i i _ hi; exact hL.bnd s bi k2
    mbnd := fun b hb => by
      rcases hb with hb | ⟨id, bi, _, k1, k2, _⟩
      · exact hL.mbnd b hb
      · rw [← k2]; exact hL.bnd id bi k1
    notM := fun i bi hi _ => hnM i bi hi
    dist := fun i j bi bj hij hi hj _ _ => hdst i j bi bj hij hi hj
    obj := fun i bo hi => by
      obtain ⟨s, k1, k2⟩ := hB'i i _ hi
      have hlt : i < pre.length := by have := (List.getElem?_eq_some_iff.1 k1).1; omega
      obtain ⟨_, zs, g1, g2⟩ := hsg i s pre[i] k1 (List.getElem?_eq_getElem hlt)
      have := hL.obj s bo k2
      rw [g1] at this
      obtain ⟨bi, cells, ty, rfl, q1, q2, q3, q4, q5⟩ := this
      rw [getO_boxes, List.getElem?_eq_getElem hlt]
      exact ⟨bi, cells, ty, rfl, q1, q2, q3, q4, (repVs_map _ _).2 (LeCl.vs g2 _ _ (RepVs.mono (hSr w) _ _ ((repVs_map _ _).1 q5)))⟩ }
  have hG : GlOk gl (Sr M' B' (boxes pre) w) := by rw [← hgl]; exact hS.glob.mono (hSr w)
  have hav' : RelVs B' (Sr M' B' (boxes pre) w) args' (c.args.map a.eval).toList := args_ren (hSr w) hB' _ _ hao hav
  have hrun := h.run w M' B' (c.args.map a.eval) rfl hRel hG hav'
  intro next Q hn
  unfold Oper.wp
  rw [run_enter ho hc hfv h.callable, Oper.upon_enter]
  have he : (#[] ++ c.args.map a.eval ++ #[] : Array Value) = c.args.map a.eval := by simp
  rw [he]
  refine hrun.mono ?_
  rintro e w' ⟨u, rfl, hfrm, hRel', hu⟩
  -- behind it
  have hlts : ∀ s ∈ sel, s < L.length := fun s hs => (sg s hs).2.1
  have hps : sel.length = post.length := by omega
  have hput := fun j => getO_putS sel post L j hlts hd hps
  have hkind : ∀ j, (getO (putS sel post L) j).kd = (getO L j).kd ∧ (getO (putS sel post L) j).live = (getO L j).live := by
    intro j
    by_cases hj : j ∈ sel
    · obtain ⟨i, hi, rfl⟩ := List.mem_iff_getElem.1 hj
      rw [(hput sel[i]).2 i (post[i]'(by omega)) (List.getElem?_eq_getElem hi) (List.getElem?_eq_getElem (by omega))]
      have := sg sel[i] hj
      exact ⟨this.2.2.2.symm, this.2.2.1.symm⟩
    · rw [(hput j).1 hj]; exact ⟨rfl, rfl⟩
  have hmu1 := hmu (boxes post) (putS sel post L) (by rw [boxes_len]; omega) (fun i hi => boxes_live.2 (by omega)) (fun j => (hkind j).2)
  have hmu2 := hmu (boxes pre) (putS sel post L) hpl (fun i hi => boxes_live.2 (by omega)) (fun j => (hkind j).2)
  have hback : (Sr M' B' (boxes post) w').le (Sr X.M B (putS sel post L) w') := fun t b q v hh => ⟨fun hm => hh.1 ((hmu1 t b).2 hm), hh.2⟩
  have hblk : ∀ b, ¬ MU X.M B L false b → ¬ Bl B' b := by
    rintro b hb ⟨i, bi, h1, h2⟩
    obtain ⟨s, k1, k2⟩ := hB'i i _ h1
    exact hb (.inr ⟨s, bi, k2, h2, (sg s (List.mem_of_getElem? k1)).2.2.1⟩)
  have hle : (Sr X.M B L w).le (Sr X.M B (putS sel post L) w') := by
    intro t b q v hh
    refine ⟨fun hm => hh.1 ((hmu0 t b).1 ((hmu2 t b).2 hm)), ?_⟩
    by_cases hbl : Bl B' b
    · exfalso
      obtain ⟨i, bi, h1, h2⟩ := hbl
      obtain ⟨s, k1, k2⟩ := hB'i i _ h1
      have := sg s (List.mem_of_getElem? k1)
      refine hh.1 ?_
      cases t with
      | false => exact .inr ⟨s, bi, k2, h2, this.2.2.1⟩
      | true => exact .inr ⟨s, bi, this.1, k2, h2, this.2.2.1⟩
    · rw [World.cell?_of_block (w := w) (hfrm.block b (block_lt hh.2) hbl)]
      exact hh.2
  have hS2 : St X B env (putS sel post L) a w' := {
    relL := {
      len := by rw [putS_length]; exact hL.len
      bnd := fun id bi h => Nat.lt_of_lt_of_le (hL.bnd id bi h) hfrm.size
      mbnd := fun b h => Nat.lt_of_lt_of_le (hL.mbnd b h) hfrm.size
      notM := fun id bi h hl => hL.notM id bi h ((hkind id).2 ▸ hl)
      dist := fun i j bi bj hij hi hj hli hlj => hL.dist i j bi bj hij hi hj ((hkind i).2 ▸ hli) ((hkind j).2 ▸ hlj)
      obj := fun id bo hb => by
        by_cases hid : id ∈ sel
        · obtain ⟨i, hi, rfl⟩ := List.mem_iff_getElem.1 hid
          have hlt : i < post.length := by omega
          rw [(hput sel[i]).2 i post[i] (List.getElem?_eq_getElem hi) (List.getElem?_eq_getElem hlt)]
          have := hRel'.obj i bo (by rw [hB' i _ (List.getElem?_eq_getElem hi)]; exact hb)
          rw [getO_boxes, List.getElem?_eq_getElem hlt] at this
          obtain ⟨bi, cells, ty, rfl, q1, q2, q3, q4, q5⟩ := this
          exact ⟨bi, cells, ty, rfl, q1, q2, q3, q4, (repVs_map _ _).2 (RepVs.mono hback _ _ ((repVs_map _ _).1 q5))⟩
        · rw [(hput id).1 hid]
          refine RelO_keep hle _ _ (fun hl b e => ?_) (hL.obj id bo hb)
          subst e
          refine hfrm.block b.b (hL.bnd id b hb) ?_
          rintro ⟨i, bi, h1, h2⟩
          obtain ⟨s, k1, k2⟩ := hB'i i _ h1
          exact hL.dist s id bi b (fun e => hid (e ▸ List.mem_of_getElem? k1)) k2 hb (sg s (List.mem_of_getElem? k1)).2.2.1 hl h2 }
    glob := hS.glob.mono hle
    relE := hS.relE.mono (Ble.refl B) hle
    below := by
      refine ⟨hfrm.os.trans hS.below.os, hfrm.tape.trans hS.below.tape, hfrm.output.trans hS.below.output, Nat.le_trans hS.below.size hfrm.size, fun k hk hm => ?_⟩
      rw [← hS.below.block k hk hm]
      refine hfrm.block k (Nat.lt_of_lt_of_le hk hS.below.size) ?_
      rintro ⟨i, bi, h1, h2⟩
      obtain ⟨s, k1, k2⟩ := hB'i i _ h1
      have := sg s (List.mem_of_getElem? k1)
      rcases hS.fresh s bi this.1 k2 this.2.2.1 with h4 | h4
      · omega
      · exact hm (h2 ▸ h4)
    fresh := fun id bi h1 h2 h3 => hS.fresh id bi h1 h2 ((hkind id).2 ▸ h3)
    old := fun id hid => by rw [(hkind id).2]; exact hS.old id hid
    rol := by rw [putS_length]; exact hS.rol
    l0 := by rw [putS_length]; exact hS.l0
    knd := fun id h0 h1 => by rw [putS_length] at h1; rw [(hkind id).1]; exact hS.knd id h0 h1
    dfr := hS.dfr
    sz := hS.sz }
  exact hn _ _ _ _ _ _ hK rfl hS2 (closed_rel hback _ _ h.closed hu)
end
end Go.VA

namespace Go.VA
open Go Go.RowKit
def selOf : List AV → List Nat
  | [] => []
  | .ptr i _ :: r => match memN i (selOf r) with | true => selOf r | false => i :: selOf r
  | _ :: r => selOf r
section
variable {P : Program} {tb : TB} {gl : Gl}
def bndPre : List (List C) → Prop
  | [] => True
  | cs :: r => bnds cs ∧ bndPre r
theorem bndPre_of : ∀ {l : List (List C)}, (∀ (i : Nat) cs, l[i]? = some cs → bnds cs) → bndPre l
  | [], _ => trivial
  | cs :: r, h => ⟨h 0 cs rfl, bndPre_of fun i x hx => h (i + 1) x (by simpa using hx)⟩
/-- what it is given is of sizes that memory has -/
theorem mcall_of_bnd {f : Nat} {pre post : List (List C)} {args : List AV} {r : AV} (hc : Callable P f) (hr : r.closed = true) (h : bndPre pre → bndAll args → MCall P gl f pre args post r) : MCall P gl f pre args post r := by
  refine ⟨hc, hr, fun w M B vals hro hL hG hv => ?_⟩
  refine (h (bndPre_of fun i cs hi => ?_) (RelVs.bnd _ _ hv)).run w M B vals hro hL hG hv
  have hlt : i < B.length := by rw [hL.len, boxes_len]; exact (List.getElem?_eq_some_iff.1 hi).1
  have := hL.obj i _ (List.getElem?_eq_getElem hlt)
  rw [getO_boxes, hi] at this
  obtain ⟨bi, cells, ty, _, _, _, _, _, q⟩ := this
  exact RepVs.bnd _ _ ((repVs_map _ _).1 q)
theorem mcall_of_vcb (htb : TbOk P tb) (hmix : P.follows .mixedOrders = true) {f : Nat} {fn : Func} {c : Code} (hf : P.funcs[f]? = some fn) (hb : fn.body = some c)
    (hname : (fn.name == "runtime.NumGoroutine") = false) (hok : codeOk fn.ntmps c = true) {pre post : List (List C)} {args : List AV} {r : AV} (hr : r.closed = true) (hargs' : Nat.ble args.length fn.ntmps = true) (hpp : post.length = pre.length)
    (h : bndPre pre → bndAll args → crossK fn.results.toList c fun U => vc P tb gl 0 pre.length U c (envOf 0 args) (boxes pre) (EndM tb fn.results.toList post r)) : MCall P gl f pre args post r :=
  mcall_of_bnd ⟨fn, hf, hname, by rw [hb]; rfl⟩ hr fun h1 h2 => mcall_of_vc htb hmix hf hb hname hok hr hargs' hpp (h h1 h2)
/-- a call that turns boxes: those that its arguments lead to -/
theorem xc_ma {f : Nat} {pre post : List (List C)} {args' : List AV} {r : AV} (h : MCall P gl f pre args' post r) {ro : Nat} {args : List AV} {env : Env} {L : List AO} {K : AV → Env → List AO → Prop}
    (hargs : renAs (selOf args) args' = args) (hao : argsOk (selOf args).length args' = true) (hd : distN (selOf args) = true) (hpp : post.length = pre.length) (hsel : selOk ro L (selOf args) pre)
    (hK : forceL (putS (selOf args) post L) fun L' => K r env L') : XCall P gl ro (.fn f [] []) args env L K := xc_m h (selOf args) hargs hao hd hpp hsel hK
/-- the same, with what fixes the contract's places ahead of it -/
theorem xc_mb {f : Nat} {pre post : List (List C)} {args' : List AV} {r : AV} {ro : Nat} {args : List AV} {env : Env} {L : List AO} {K : AV → Env → List AO → Prop} (hsel : selOk ro L (selOf args) pre)
    (h : MCall P gl f pre args' post r) (hargs : renAs (selOf args) args' = args) (hao : argsOk (selOf args).length args' = true) (hd : distN (selOf args) = true) (hpp : post.length = pre.length)
    (hK : forceL (putS (selOf args) post L) fun L' => K r env L') : XCall P gl ro (.fn f [] []) args env L K := xc_m h (selOf args) hargs hao hd hpp hsel hK
end
end Go.VA

namespace Go.VA
open Go Go.RowKit

/-! ### Calls that turn objects of any kind, and hand back new ones -/

/-- a small number, written out -/
def forceN (n : Nat) (K : Nat → Prop) : Prop :=
  match Nat.beq n (nat_lit 0) with | true => K (nat_lit 0) | false => (
  match Nat.beq n (nat_lit 1) with | true => K (nat_lit 1) | false => (
  match Nat.beq n (nat_lit 2) with | true => K (nat_lit 2) | false => (
  match Nat.beq n (nat_lit 3) with | true => K (nat_lit 3) | false => (
  match Nat.beq n (nat_lit 4) with | true => K (nat_lit 4) | false => (
  match Nat.beq n (nat_lit 5) with | true => K (nat_lit 5) | false => (
  match Nat.beq n (nat_lit 6) with | true => K (nat_lit 6) | false => (
  match Nat.beq n (nat_lit 7) with | true => K (nat_lit 7) | false => (
  match Nat.beq n (nat_lit 8) with | true => K (nat_lit 8) | false => (
  match Nat.beq n (nat_lit 9) with | true => K (nat_lit 9) | false => (
  match Nat.beq n (nat_lit 10) with | true => K (nat_lit 10) | false => (
  match Nat.beq n (nat_lit 11) with | true => K (nat_lit 11) | false => (
  match Nat.beq n (nat_lit 12) with | true => K (nat_lit 12) | false => (
  match Nat.beq n (nat_lit 13) with | true => K (nat_lit 13) | false => (
  match Nat.beq n (nat_lit 14) with | true => K (nat_lit 14) | false => (
  match Nat.beq n (nat_lit 15) with | true => K (nat_lit 15) | false => (
  match Nat.beq n (nat_lit 16) with | true => K (nat_lit 16) | false => (
  match Nat.beq n (nat_lit 17) with | true => K (nat_lit 17) | false => (
  match Nat.beq n (nat_lit 18) with | true => K (nat_lit 18) | false => (
  match Nat.beq n (nat_lit 19) with | true => K (nat_lit 19) | false => (
  match Nat.beq n (nat_lit 20) with | true => K (nat_lit 20) | false => (
  match Nat.beq n (nat_lit 21) with | true => K (nat_lit 21) | false => (
  match Nat.beq n (nat_lit 22) with | true => K (nat_lit 22) | false => (
  match Nat.beq n (nat_lit 23) with | true => K (nat_lit 23) | false => (
  match Nat.beq n (nat_lit 24) with | true => K (nat_lit 24) | false => (
  match Nat.beq n (nat_lit 25) with | true => K (nat_lit 25) | false => (
  match Nat.beq n (nat_lit 26) with | true => K (nat_lit 26) | false => (
  match Nat.beq n (nat_lit 27) with | true => K (nat_lit 27) | false => (
  match Nat.beq n (nat_lit 28) with | true => K (nat_lit 28) | false => (
  match Nat.beq n (nat_lit 29) with | true => K (nat_lit 29) | false => (
  match Nat.beq n (nat_lit 30) with | true => K (nat_lit 30) | false => (
  match Nat.beq n (nat_lit 31) with | true => K (nat_lit 31) | false => (
  match Nat.beq n (nat_lit 32) with | true => K (nat_lit 32) | false => (
  match Nat.beq n (nat_lit 33) with | true => K (nat_lit 33) | false => (
  match Nat.beq n (nat_lit 34) with | true => K (nat_lit 34) | false => (
  match Nat.beq n (nat_lit 35) with | true => K (nat_lit 35) | false => (
  match Nat.beq n (nat_lit 36) with | true => K (nat_lit 36) | false => (
  match Nat.beq n (nat_lit 37) with | true => K (nat_lit 37) | false => (
  match Nat.beq n (nat_lit 38) with | true => K (nat_lit 38) | false => (
  match Nat.beq n (nat_lit 39) with | true => K (nat_lit 39) | false => (
  match Nat.beq n (nat_lit 40) with | true => K (nat_lit 40) | false => (
  match Nat.beq n (nat_lit 41) with | true => K (nat_lit 41) | false => (
  match Nat.beq n (nat_lit 42) with | true => K (nat_lit 42) | false => (
  match Nat.beq n (nat_lit 43) with | true => K (nat_lit 43) | false => (
  match Nat.beq n (nat_lit 44) with | true => K (nat_lit 44) | false => (
  match Nat.beq n (nat_lit 45) with | true => K (nat_lit 45) | false => (
  match Nat.beq n (nat_lit 46) with | true => K (nat_lit 46) | false => (
  match Nat.beq n (nat_lit 47) with | true => K (nat_lit 47) | false => (
  K n))))))))))))))))))))))))))))))))))))))))))))))))
theorem forceN_eq (n : Nat) (K : Nat → Prop) : forceN n K = K n := by
  unfold forceN
  repeat' (split; first | (rename_i h; rw [Nat.beq_eq] at h; subst h; rfl) | skip)
  rfl
def forceNs : List Nat → (List Nat → Prop) → Prop
  | [], K => K []
  | x :: r, K => forceN x fun x => forceNs r fun r => K (x :: r)
theorem forceNs_eq : ∀ (l : List Nat) (K : List Nat → Prop), forceNs l K = K l
  | [], _ => rfl
  | x :: r, K => by simp only [forceNs]; rw [forceN_eq, forceNs_eq r]

def nthG : List Nat → Nat → Option Nat
  | [], _ => none
  | x :: _, 0 => some x
  | _ :: r, n + 1 => nthG r n
theorem nthG_eq : ∀ (l : List Nat) (i : Nat), nthG l i = l[i]?
  | [], i => by simp [nthG]
  | x :: r, 0 => by simp [nthG]
  | x :: r, i + 1 => by simp [nthG, nthG_eq r i]
def nthD (l : List Nat) (i : Nat) : Nat := match nthG l i with | some s => s | none => 0
def lenS : List Nat → Nat
  | [] => 0
  | _ :: r => lenS r + 1
theorem lenS_eq : ∀ l : List Nat, lenS l = l.length
  | [] => rfl
  | _ :: r => by simp [lenS, lenS_eq r]
theorem nthD_eq {l : List Nat} {i s : Nat} (h : l[i]? = some s) : nthD l i = s := by unfold nthD; rw [nthG_eq, h]

/-- how a slice of the caller's reads for the one that is called -/
abbrev Vw := Nat → Nat → Nat → Nat → Option C

mutual
/-- x, in the numbers of one side, is as y, in those of the other; sel: whose number stands for which -/
def GLe (v : Vw) (sel : List Nat) : AV → AV → Prop
  | .any, _ => True
  | .c y, x => match x with
    | .c x => LeC x y
    | .own i e o l => match v i e o l with | some z => LeC z y | none => False
    | _ => False
  | .ag ys, x => match x with
    | .ag xs => LeCl xs ys
    | .agx xs => GLcs v xs ys
    | _ => False
  | .agx ys, x => match x with
    | .agx xs => GLes v sel ys xs
    | .ag xs => GLes v sel ys (xs.map .c)
    | _ => False
  | .ptr j o, x => match x with | .ptr i o' => nthG sel j = some i ∧ o' = o | _ => False
  | .own j e o l, x => match x with
    | .own i e' o' l' => nthG sel j = some i ∧ e' = e ∧ o' = o ∧ l' = l
    | _ => False
  | .mpv j, x => match x with | .mpv i => nthG sel j = some i | _ => False
  | .sp t ys k, x => match x with | .sp t' xs k' => t' = t ∧ k' = k ∧ LeCl xs ys | _ => False
  | .fn f as bs, x => match x with | .fn f' as' bs' => f' = f ∧ GLes v sel as as' ∧ GLes v sel bs bs' | _ => False
  | .tup ys, x => match x with | .tup xs => GLes v sel ys xs | _ => False
  | _, _ => False
def GLes (v : Vw) (sel : List Nat) : List AV → List AV → Prop
  | [], xs => match xs with | [] => True | _ => False
  | y :: ys, xs => match xs with | [] => False | x :: xs => GLe v sel y x ∧ GLes v sel ys xs
/-- cells, of a slice some -/
def GLcs (v : Vw) : List AV → List C → Prop
  | [], ys => match ys with | [] => True | _ => False
  | x :: xs, ys => match ys with
    | [] => False
    | y :: ys => (match x with
      | .c x => LeC x y
      | .own i e o l => match v i e o l with | some z => LeC z y | none => False
      | _ => False) ∧ GLcs v xs ys
end

theorem LeCl.reps {S : Rd} {R : Nat → Value → Prop} {xs ys : List C} (h : LeCl xs ys) (o : Nat) (hr : RepCs S R o xs) : RepCs S R o ys := (LeCl.cs h).2 S R o hr

section
variable {B B' : List (Option BI)} {S S' : Rd} {v : Vw} {sel : List Nat}

theorem GLcs_rel (hS : S.le S') (hv : ∀ i e o l z u, v i e o l = some z → RelV B S (.own i e o l) u → RepC S' z u) : ∀ (xs : List AV) (ys : List C) (us : List Value), GLcs v xs ys → RelVs B S xs us → RepVs S' ys us
  | [], ys, us, h, hu => by
    cases ys <;> simp only [GLcs] at h
    simpa [RelVs, RepVs] using hu
  | x :: xs, [], us, h, _ => by simp [GLcs] at h
  | x :: xs, y :: ys, us, h, hu => by
    simp only [GLcs] at h
    simp only [RelVs] at hu
    obtain ⟨u, r, rfl, h1, h2⟩ := hu
    simp only [RepVs]
    refine ⟨u, r, rfl, ?_, GLcs_rel hS hv xs ys r h.2 h2⟩
    have h := h.1
    split at h
    · simp only [RelV] at h1; exact h S' u (RepC.mono hS _ _ h1)
    · split at h
      · rename_i z hz; exact h S' u (hv _ _ _ _ _ _ hz h1)
      · exact h.elim
    · exact h.elim

mutual
theorem GLe_rel (hS : S.le S') (hB : ∀ (j i : Nat), sel[j]? = some i → B'[j]? = B[i]?) (hl : B'.length = sel.length) (hv : ∀ i e o l z u, v i e o l = some z → RelV B S (.own i e o l) u → RepC S' z u) :
    ∀ (y x : AV) (u : Value), GLe v sel y x → RelV B S x u → RelV B' S' y u
  | .any, x, u, _, _ => by simp [RelV]
  | .c y, x, u, h, hu => by
    simp only [GLe] at h
    simp only [RelV]
    split at h
    · simp only [RelV] at hu; exact h S' u (RepC.mono hS _ _ hu)
    · split at h
      · rename_i z hz; exact h S' u (hv _ _ _ _ _ _ hz hu)
      · exact h.elim
    · exact h.elim
  | .ag ys, x, u, h, hu => by
    simp only [GLe] at h
    simp only [RelV]
    split at h
    · simp only [RelV] at hu
      obtain ⟨arr, e, hu⟩ := hu
      exact ⟨arr, e, LeCl.vs h _ _ (RepVs.mono hS _ _ hu)⟩
    · simp only [RelV] at hu
      obtain ⟨arr, e, _, hu⟩ := hu
      exact ⟨arr, e, GLcs_rel hS hv _ _ _ h hu⟩
    · exact h.elim
  | .agx ys, x, u, h, hu => by
    simp only [GLe] at h
    simp only [RelV]
    split at h
    · simp only [RelV] at hu
      obtain ⟨arr, e, h0, hu⟩ := hu
      exact ⟨arr, e, h0, GLes_rel hS hB hl hv ys _ _ h hu⟩
    · rename_i xs
      simp only [RelV] at hu
      obtain ⟨arr, e, hu⟩ := hu
      refine ⟨arr, e, ?_, GLes_rel hS hB hl hv ys _ _ h ((repVs_map (B := B) xs _).2 hu)⟩
      have : ∀ (xs : List C) (us : List Value), RepVs S xs us → ∀ v ∈ us, v.oneCell' = true := by
        intro xs
        induction xs with
        | nil => intro us h; simp only [RepVs] at h; subst h; simp
        | cons x xs ih =>
          intro us h
          simp only [RepVs] at h
          obtain ⟨u, r, rfl, h1, h2⟩ := h
          intro v hv
          rcases List.mem_cons.1 hv with rfl | hv
          · cases x <;> simp only [RepC] at h1
            · exact h1.1 ▸ h1.2
            · obtain ⟨a, cap, e, _⟩ := h1; subst e; rfl
            · obtain ⟨a, e⟩ := h1; subst e; rfl
          · exact ih r h2 v hv
      exact this xs _ hu
    · exact h.elim
  | .ptr j o, x, u, h, hu => by
    simp only [GLe] at h
    split at h
    · rename_i i o'
      obtain ⟨h1, rfl⟩ := h
      rw [nthG_eq] at h1
      simp only [RelV] at hu ⊢
      rw [hB j i h1]
      exact hu
    · exact h.elim
  | .own j e o l, x, u, h, hu => by
    simp only [GLe] at h
    split at h
    · obtain ⟨h1, rfl, rfl, rfl⟩ := h
      rw [nthG_eq] at h1
      simp only [RelV] at hu ⊢
      rw [hB j _ h1]
      exact hu
    · exact h.elim
  | .mpv j, x, u, h, hu => by
    simp only [GLe] at h
    split at h
    · rw [nthG_eq] at h
      simp only [RelV] at hu ⊢
      rw [hB j _ h]
      exact hu
    · exact h.elim
  | .sp t ys k, x, u, h, hu => by
    simp only [GLe] at h
    split at h
    · obtain ⟨rfl, rfl, h⟩ := h
      simp only [RelV] at hu ⊢
      obtain ⟨b, o, e, hu⟩ := hu
      exact ⟨b, o, e, LeCl.reps h _ (RepCs.mono hS (hS _ b) _ _ hu)⟩
    · exact h.elim
  | .fn f as bs, x, u, h, hu => by
    simp only [GLe] at h
    split at h
    · obtain ⟨rfl, h1, h2⟩ := h
      simp only [RelV] at hu ⊢
      obtain ⟨a1, a2, e, k1, k2⟩ := hu
      exact ⟨a1, a2, e, GLes_rel hS hB hl hv as _ _ h1 k1, GLes_rel hS hB hl hv bs _ _ h2 k2⟩
    · exact h.elim
  | .tup ys, x, u, h, hu => by
    simp only [GLe] at h
    split at h
    · simp only [RelV] at hu ⊢
      obtain ⟨arr, e, hu⟩ := hu
      exact ⟨arr, e, GLes_rel hS hB hl hv ys _ _ h hu⟩
    · exact h.elim
  | .pe .., _, _, h, _ => by simp [GLe] at h
  | .gd .., _, _, h, _ => by simp [GLe] at h
  | .ub .., _, _, h, _ => by simp [GLe] at h
theorem GLes_rel (hS : S.le S') (hB : ∀ (j i : Nat), sel[j]? = some i → B'[j]? = B[i]?) (hl : B'.length = sel.length) (hv : ∀ i e o l z u, v i e o l = some z → RelV B S (.own i e o l) u → RepC S' z u) :
    ∀ (ys xs : List AV) (us : List Value), GLes v sel ys xs → RelVs B S xs us → RelVs B' S' ys us
  | [], xs, us, h, hu => by
    cases xs <;> simp only [GLes] at h
    simpa [RelVs] using hu
  | y :: ys, [], us, h, _ => by simp [GLes] at h
  | y :: ys, x :: xs, us, h, hu => by
    simp only [GLes] at h
    simp only [RelVs] at hu ⊢
    obtain ⟨u, r, e, h1, h2⟩ := hu
    exact ⟨u, r, e, GLe_rel hS hB hl hv y x u h.1 h1, GLes_rel hS hB hl hv ys xs r h.2 h2⟩
end
end

/-- an object -/
def GLeO (v : Vw) (sel : List Nat) (y x : AO) : Prop := match y with
  | .box ys => match x with | .box xs => GLes v sel ys xs | _ => False
  | .row e n g => match x with | .row e' n' f => e' = e ∧ n' = n ∧ ∀ i, i < n → LeCs (f i) (g i) | _ => False
  | .mp m' => match x with | .mp m => LeMs m m' | _ => False
  | _ => False
/-- each of some objects -/
def GLeL (v : Vw) (sel : List Nat) (L : List AO) : Nat → List AO → Prop
  | _, [] => True
  | i, y :: r => (match nthG sel i with | some s => GLeO v sel y (getO L s) | none => False) ∧ GLeL v sel L (i + 1) r

theorem GLeL_get {v : Vw} {sel : List Nat} {L : List AO} : ∀ {l : List AO} {i : Nat}, GLeL v sel L i l → ∀ (j : Nat) y, l[j]? = some y → ∃ s, sel[i + j]? = some s ∧ GLeO v sel y (getO L s)
  | [], i, _, j, y, h => by simp at h
  | x :: r, i, h, j, y, hj => by
    simp only [GLeL] at h
    cases j with
    | zero =>
      simp only [List.getElem?_cons_zero, Option.some.injEq] at hj
      subst hj
      have h1 := h.1
      rw [nthG_eq] at h1
      split at h1
      · rename_i s hs; exact ⟨s, hs, h1⟩
      · exact h1.elim
    | succ j =>
      obtain ⟨s, k1, k2⟩ := GLeL_get h.2 j y (by simpa using hj)
      exact ⟨s, by rw [← k1]; congr 1; omega, k2⟩

theorem GLeO_live {v : Vw} {sel : List Nat} {y x : AO} (h : GLeO v sel y x) : x.live = true ∧ y.live = true ∧ x.kd = y.kd := by
  cases y <;> cases x <;> simp only [GLeO] at h <;> exact ⟨rfl, rfl, rfl⟩

theorem GLeO_rel {B B' : List (Option BI)} {S S' : Rd} {v : Vw} {sel : List Nat} {w : World} (hS : S.le S') (hB : ∀ (j i : Nat), sel[j]? = some i → B'[j]? = B[i]?) (hl : B'.length = sel.length) (hv : ∀ i e o l z u, v i e o l = some z → RelV B S (.own i e o l) u → RepC S' z u)
    {y x : AO} {bo : Option BI} (h : GLeO v sel y x) (hr : RelO B S w x bo) : RelO B' S' w y bo := by
  cases y <;> cases x <;> simp only [GLeO] at h
  · obtain ⟨bi, cs, ty, e, h1, h2, h3, h4, h5⟩ := hr
    exact ⟨bi, cs, ty, e, h1, h2, h3, h4, GLes_rel hS hB hl hv _ _ _ h h5⟩
  · obtain ⟨rfl, rfl, h⟩ := h
    cases bo with
    | none => exact hr
    | some bi =>
      obtain ⟨h0, cs, ty, h1, h2, h3, h4⟩ := hr
      refine ⟨h0, cs, ty, h1, h2, h3, fun i hi => ?_⟩
      have := h4 i hi
      have hc := h i hi
      exact ⟨hc.1.trans this.1, hc.2 _ _ _ (RepCs.mono hS (fun _ _ x => x) _ _ this.2)⟩
  · obtain ⟨bi, es, clock, e, h1, h2⟩ := hr
    exact ⟨bi, es, clock, e, h1, LeMs.rel hS h h2⟩
end Go.VA

namespace Go.VA
open Go Go.RowKit

/-- a call that turns what is handed to it, hands back new objects, and turns nothing else that was there -/
structure GCall (P : Program) (gl : Gl) (f : Nat) (pre : List AO) (args : List AV) (post : List AO) (res : List AV) : Prop where
  callable : Callable P f
  len : pre.length ≤ post.length
  kinds : ∀ i, i < pre.length → (getO post i).kd = (getO pre i).kd
  livep : ∀ i, i < pre.length → (getO pre i).live = true
  liveq : ∀ i, i < post.length → (getO post i).live = true
  run : ∀ (w : World) (M : Mz) (B : List (Option BI)) (vals : Array Value), M.ro = 0 →
    RelL M B pre w → GlOk gl (Sr M B pre w) → RelVs B (Sr M B pre w) args vals.toList →
    Calls P f vals w fun e w' => ∃ u B', e = .returned u ∧ Frm (Bl B) w w' ∧ RelL M B' post w' ∧ RelV B' (Sr M B' post w') (retA res) u ∧
      (∀ (id : Nat) (bi : BI), B'[id]? = some (some bi) → w.heap.size ≤ bi.b ∨ Bl B bi.b) ∧
      (∀ (id : Nat), id < pre.length → (getO post id).kd ≠ 3 → B'[id]? = B[id]?)

/-! which object stands for which -/
mutual
def pairA : AV → AV → List (Nat × Nat) → List (Nat × Nat)
  | .own j .., x, acc => match x with | .own i .. => (j, i) :: acc | _ => acc
  | .ptr j _, x, acc => match x with | .ptr i _ => (j, i) :: acc | _ => acc
  | .mpv j, x, acc => match x with | .mpv i => (j, i) :: acc | _ => acc
  | .agx ys, x, acc => match x with | .agx xs => pairAs ys xs acc | _ => acc
  | .tup ys, x, acc => match x with | .tup xs => pairAs ys xs acc | _ => acc
  | .fn _ as bs, x, acc => match x with | .fn _ as' bs' => pairAs as as' (pairAs bs bs' acc) | _ => acc
  | _, _, acc => acc
def pairAs : List AV → List AV → List (Nat × Nat) → List (Nat × Nat)
  | [], _, acc => acc
  | y :: ys, xs, acc => match xs with | [] => acc | x :: xs => pairA y x (pairAs ys xs acc)
end
def findP (k : Nat) : List (Nat × Nat) → Nat
  | [] => nat_lit 9999
  | (j, i) :: r => match Nat.beq j k with | true => i | false => findP k r
/-- the boxes' cells too -/
def expP (Y X : List AO) : List (Nat × Nat) → List (Nat × Nat)
  | [] => []
  | (j, i) :: r => match getO Y j with
    | .box ys => match getO X i with
      | .box xs => (j, i) :: pairAs ys xs (expP Y X r)
      | _ => (j, i) :: expP Y X r
    | _ => (j, i) :: expP Y X r
def selFrom (ps : List (Nat × Nat)) : Nat → Nat → List Nat
  | 0, _ => []
  | m + 1, k => findP k ps :: selFrom ps m (k + 1)
def upTo : Nat → Nat → List Nat
  | 0, _ => []
  | m + 1, k => k :: upTo m (k + 1)
def zipP : List Nat → List (Nat × Nat)
  | [] => []
  | i :: r => (i, i) :: zipP r
def lenO : List AO → Nat
  | [] => 0
  | _ :: r => lenO r + 1
theorem lenO_eq : ∀ l : List AO, lenO l = l.length
  | [] => rfl
  | _ :: r => by simp [lenO, lenO_eq r]
theorem selFrom_length (ps : List (Nat × Nat)) : ∀ m k, (selFrom ps m k).length = m
  | 0, _ => rfl
  | m + 1, k => by simp [selFrom, selFrom_length ps m]
theorem upTo_length : ∀ m k, (upTo m k).length = m
  | 0, _ => rfl
  | m + 1, k => by simp [upTo, upTo_length m]
theorem upTo_get : ∀ (m k i : Nat), i < m → (upTo m k)[i]? = some (k + i)
  | 0, _, _, h => by omega
  | m + 1, k, 0, _ => by simp [upTo]
  | m + 1, k, i + 1, h => by
    simp only [upTo, List.getElem?_cons_succ]
    rw [upTo_get m (k + 1) i (by omega)]
    congr 1; omega
def appN : List Nat → List Nat → List Nat
  | [], r => r
  | x :: l, r => x :: appN l r
theorem appN_eq : ∀ l r, appN l r = l ++ r
  | [], r => rfl
  | x :: l, r => by simp [appN, appN_eq l r]
def selE (n : Nat) (L post : List AO) (res xs : List AV) : List Nat :=
  selFrom (expP post L (expP post L (pairAs res xs (zipP (upTo n 0))))) (lenO post) 0
/-- boxes and maps that were handed on stay what they are; a row may have become another one -/
def idOk (n : Nat) : Nat → List AO → List Nat → Bool
  | _, [], _ => true
  | i, y :: r, sel => match sel with
    | [] => true
    | s :: t => match Nat.blt i n with
      | false => true
      | true => match (match Nat.beq y.kd 3 with | true => true | false => Nat.beq s i) with
        | true => idOk n (i + 1) r t
        | false => false
theorem idOk_spec {n : Nat} : ∀ {l : List AO} {sel : List Nat} {i : Nat}, idOk n i l sel = true → l.length = sel.length → ∀ j, j < l.length → i + j < n → (getO l j).kd ≠ 3 → sel[j]? = some (i + j)
  | [], _, _, _, _, j, h, _, _ => by simp at h
  | _ :: _, [], _, _, h, _, _, _, _ => by simp at h
  | y :: r, s :: t, i, h, hl, j, hj, hn, hk => by
    have hin : i < n := by omega
    have hb : Nat.blt i n = true := by simpa [Nat.blt_eq] using hin
    simp only [idOk, hb] at h
    split at h
    · rename_i hc
      cases j with
      | zero =>
        have hk : y.kd ≠ 3 := hk
        have hf : Nat.beq y.kd 3 = false := by
          cases hq : Nat.beq y.kd 3 with
          | false => rfl
          | true => exact absurd (Nat.beq_spec hq) hk
        rw [hf] at hc
        simp only at hc
        simp [Nat.beq_spec hc]
      | succ j =>
        have := idOk_spec h (by simpa using hl) j (by simpa using hj) (by omega) hk
        simp only [List.getElem?_cons_succ]
        rw [this]; congr 1; omega
    · simp at h

/-- a row that is forgotten reads as what stays -/
def viewE (sel : List Nat) (L : List AO) : Vw := fun id esz off len => match getO L id with
  | .row e _ f => match Nat.beq e esz with
    | true => match memN id sel with
      | false => some (.sl false esz len fun i => f (off + i))
      | true => none
    | false => none
  | .frz e _ f => match Nat.beq e esz with
    | true => some (.sl false esz len fun i => f (off + i))
    | false => none
  | _ => none

def EndG (tb : TB) (rs : List ResultVar) (n : Nat) (post : List AO) (res : List AV) (x : Ex) (env : Env) (L : List AO) : Prop := match x with
  | .exit _ => False
  | _ => resI env tb L rs fun xs => forceNs (selE n L post res xs) fun sel => distN sel = true ∧ idOk n 0 post sel = true ∧ GLeL (viewE sel L) sel L 0 post ∧ GLes (viewE sel L) sel res xs

section
variable {P : Program} {tb : TB} {gl : Gl}

theorem viewE_sound {M : Mz} {B : List (Option BI)} {L : List AO} {w : World} {sel : List Nat} {S' : Rd} (hrel : RelL M B L w) (hle : (Sr M B L w).le S')
    (hown : ∀ (id : Nat) (bi : BI), id ∉ sel → B[id]? = some (some bi) → (getO L id).live = true → ∀ o u, w.cell? ⟨bi.b, o, none⟩ = some u → S' false bi.b o u)
    (id esz off len : Nat) (y : C) (u : Value) (hv : viewE sel L id esz off len = some y) (hu : RelV B (Sr M B L w) (.own id esz off len) u) : RepC S' y u := by
  unfold viewE at hv
  have fin : ∀ (f : Nat → List C), y = .sl false esz len (fun i => f (off + i)) →
      (∀ bi, B[id]? = some (some bi) → ∀ i, i < bi.n → (f i).length = esz ∧ RepCs S' (S' false bi.b) (bi.o + i * esz) (f i)) → RepC S' y u := by
    intro f hy hf
    subst hy
    simp only [RelV] at hu
    simp only [RepC]
    rcases hu with ⟨bi, cap, hb, rfl, h1, h2, h3⟩ | ⟨rfl, ⟨a, rfl⟩, _⟩
    · refine ⟨_, cap, rfl, h1, ?_⟩
      by_cases h0 : len = 0
      · exact .inl h0
      · refine .inr ⟨bi.b, _, rfl, fun i hi => ?_⟩
        have := hf bi hb (off + i) (by omega)
        refine ⟨this.1, ?_⟩
        rw [show bi.o + off * esz + i * esz = bi.o + (off + i) * esz from by rw [Nat.add_mul]; omega]
        exact this.2
    · exact ⟨a, 0, rfl, ⟨Nat.le_refl _, Nat.zero_le _⟩, .inl rfl⟩
  split at hv
  · rename_i e m f hO
    split at hv
    · rename_i he
      obtain rfl := Nat.beq_spec he
      split at hv
      · rename_i hr
        have hr : id ∉ sel := fun e => by rw [memN_spec.2 e] at hr; simp at hr
        simp only [Option.some.injEq] at hv
        refine fin f hv.symm fun bi hb i hi => ?_
        have := hrel.obj id _ hb
        rw [hO] at this
        obtain ⟨hn, cs, ty, h1, h2, h3, h4⟩ := this
        have := h4 i (by omega)
        refine ⟨this.1, RepCs.mono hle (fun o u hh => hown id bi hr hb (by rw [hO]; rfl) o u (by simpa [World.cell?, h1] using hh)) _ _ this.2⟩
      · simp at hv
    · simp at hv
  · rename_i e m f hO
    split at hv
    · rename_i he
      obtain rfl := Nat.beq_spec he
      simp only [Option.some.injEq] at hv
      refine fin f hv.symm fun bi hb i hi => ?_
      have := hrel.obj id _ hb
      rw [hO] at this
      obtain ⟨hn, h4⟩ := this
      exact ⟨(h4 i (by omega)).1, RepCs.mono hle (fun o u hh => hle _ _ _ _ hh) _ _ (h4 i (by omega)).2⟩
    · simp at hv
  · simp at hv

def kdsOk : List AO → List AO → Bool
  | [], _ => true
  | x :: xs, ys => match ys with
    | [] => false
    | y :: ys => match x.live with
      | true => match Nat.beq y.kd x.kd with | true => kdsOk xs ys | false => false
      | false => false
theorem kdsOk_get : ∀ {xs ys : List AO}, kdsOk xs ys = true → xs.length ≤ ys.length ∧ ∀ i, i < xs.length → (getO xs i).live = true ∧ (getO ys i).kd = (getO xs i).kd
  | [], ys, _ => ⟨by simp, fun i h => by simp at h⟩
  | x :: xs, [], h => by simp [kdsOk] at h
  | x :: xs, y :: ys, h => by
    simp only [kdsOk] at h
    split at h
    · rename_i h1
      split at h
      · rename_i h2
        obtain ⟨k1, k2⟩ := kdsOk_get h
        refine ⟨by simp; exact k1, fun i hi => ?_⟩
        cases i with
        | zero => exact ⟨h1, Nat.beq_spec h2⟩
        | succ i => exact k2 i (by simpa using hi)
      · simp at h
    · simp at h

mutual
def AV.gbnd : AV → Prop
  | .c x => x.bnd
  | .ag xs => bnds xs
  | .sp _ xs _ => bnds xs
  | .own _ _ _ len => len ≤ 140737488355328
  | .agx xs => gbnds xs
  | .tup xs => gbnds xs
  | _ => True
def gbnds : List AV → Prop
  | [] => True
  | x :: r => x.gbnd ∧ gbnds r
end
def bndO : AO → Prop
  | .box xs => gbnds xs
  | .row _ n f => ∀ i, i < n → bnds (f i)
  | _ => True
def bndOs : List AO → Prop
  | [] => True
  | x :: r => bndO x ∧ bndOs r

mutual
theorem RelV.gbnd {B : List (Option BI)} {S : Rd} : ∀ (x : AV) (u : Value), RelV B S x u → x.gbnd
  | .c x, u, h => by simp only [RelV] at h; simp only [AV.gbnd]; exact RepC.bnd x u h
  | .ag xs, u, h => by simp only [RelV] at h; simp only [AV.gbnd]; obtain ⟨arr, _, h⟩ := h; exact RepVs.bnd xs _ h
  | .sp t xs k, u, h => by simp only [RelV] at h; simp only [AV.gbnd]; obtain ⟨b, o, _, h⟩ := h; exact RepCs.bnd xs _ h
  | .own _ _ _ len, u, h => by
    simp only [RelV] at h; simp only [AV.gbnd]
    rcases h with ⟨bi, cap, _, _, h, _⟩ | ⟨h, _⟩
    · exact h.2
    · omega
  | .agx xs, u, h => by simp only [RelV] at h; simp only [AV.gbnd]; obtain ⟨arr, _, _, h⟩ := h; exact RelVs.gbnds xs _ h
  | .tup xs, u, h => by simp only [RelV] at h; simp only [AV.gbnd]; obtain ⟨arr, _, h⟩ := h; exact RelVs.gbnds xs _ h
  | .any, _, _ => by simp [AV.gbnd]
  | .ptr .., _, _ => by simp [AV.gbnd]
  | .pe .., _, _ => by simp [AV.gbnd]
  | .fn .., _, _ => by simp [AV.gbnd]
  | .gd .., _, _ => by simp [AV.gbnd]
  | .mpv .., _, _ => by simp [AV.gbnd]
  | .ub .., _, _ => by simp [AV.gbnd]
theorem RelVs.gbnds {B : List (Option BI)} {S : Rd} : ∀ (xs : List AV) (us : List Value), RelVs B S xs us → gbnds xs
  | [], _, _ => by simp [VA.gbnds]
  | x :: xs, us, h => by
    simp only [RelVs] at h
    obtain ⟨u, r, _, h1, h2⟩ := h
    simp only [VA.gbnds]
    exact ⟨RelV.gbnd x u h1, RelVs.gbnds xs r h2⟩
end
theorem RelO.bndO {B : List (Option BI)} {S : Rd} {w : World} {x : AO} {bo : Option BI} (h : RelO B S w x bo) : bndO x := by
  cases x <;> simp only [VA.bndO]
  case box xs => obtain ⟨_, cs, _, _, _, _, _, _, h⟩ := h; exact RelVs.gbnds xs _ h
  case row e n f =>
    intro i hi
    cases bo with
    | none => simp only [RelO] at h; omega
    | some bi => obtain ⟨_, cs, ty, _, _, _, h4⟩ := h; exact RepCs.bnd _ _ (h4 i hi).2
theorem bndOs_of : ∀ {l : List AO}, (∀ i, i < l.length → bndO (getO l i)) → bndOs l
  | [], _ => trivial
  | x :: r, h => ⟨h 0 (by simp), bndOs_of fun i hi => h (i + 1) (by simpa using hi)⟩

/-- such a contract, from a function's text -/
theorem gcall_of_vc (htb : TbOk P tb) (hmix : P.follows .mixedOrders = true) {f : Nat} {fn : Func} {c : Code} (hf : P.funcs[f]? = some fn) (hb : fn.body = some c)
    (hname : (fn.name == "runtime.NumGoroutine") = false) (hok : codeOk fn.ntmps c = true) {pre post : List AO} {args res : List AV} (hargs' : Nat.ble args.length fn.ntmps = true) (hkd : kdsOk pre post = true)
    (hlq : ∀ i, i < post.length → (getO post i).live = true)
    (h : bndOs pre → gbnds args → crossK fn.results.toList c fun U => vc P tb gl 0 pre.length U c (envOf 0 args) pre (EndG tb fn.results.toList pre.length post res)) : GCall P gl f pre args post res := by
  have hargs := Nat.le_of_ble_eq_true hargs'
  obtain ⟨hlen, hkds⟩ := kdsOk_get hkd
  refine ⟨⟨fn, hf, hname, by rw [hb]; rfl⟩, hlen, fun i hi => (hkds i hi).2, fun i hi => (hkds i hi).1, hlq, fun w M B vals hro hL hG hv => ?_⟩
  have h := h (bndOs_of fun i hi => by
    have hlt : i < B.length := by rw [hL.len]; exact hi
    exact RelO.bndO (hL.obj i _ (List.getElem?_eq_getElem hlt))) (RelVs.gbnds _ _ hv)
  rw [crossK_eq] at h
  have hlv := RelVs.length _ _ hv
  rw [Array.length_toList] at hlv
  let X : Fx := ⟨gl, w, M, B, pre, fn.ntmps, Bl B⟩
  have hS : St X B (envOf 0 args) pre { tmps := vals ++ Array.replicate (fn.ntmps - vals.size) undef, defers := [] } w :=
    ⟨hL, hG, RelE.envOf hv fn.ntmps, Frm.refl _ _, fun id bi h1 h2 h3 => .inr ⟨id, bi, h2, rfl⟩, fun id h => by simp only [X, hro] at h; omega, by simp only [X, hro]; omega, Nat.le_refl _, fun id _ _ => .inr ⟨rfl, fun _ => rfl⟩, rfl, by
      simp only [Array.size_append, Array.size_replicate, X]; omega⟩
  refine calls_of_wp hf hb (vc_sound htb hmix (X := X) rfl hro (by simp [X]) c _ pre B _ w _ _ hok (envOf_noGd 0 args) hS h ?_)
  intro e env' L' B' a' w' hK hn' hS'
  have key : ∀ (_ : Prop), (resI env' tb L' fn.results.toList fun xs => forceNs (selE pre.length L' post res xs) fun sel => distN sel = true ∧ idOk pre.length 0 post sel = true ∧ GLeL (viewE sel L') sel L' 0 post ∧ GLes (viewE sel L') sel res xs) →
      (a'.defers = [] ∧ ∃ v, (results fn a'.tmps).run P w' = .ok v w' ∧ (∃ u B2, Ending.returned v = .returned u ∧ Frm (Bl B) w w' ∧ RelL M B2 post w' ∧ RelV B2 (Sr M B2 post w') (retA res) u ∧
        (∀ (id : Nat) (bi : BI), B2[id]? = some (some bi) → w.heap.size ≤ bi.b ∨ Bl B bi.b) ∧ (∀ (id : Nat), id < pre.length → (getO post id).kd ≠ 3 → B2[id]? = B[id]?))) := by
    intro _ hres
    obtain ⟨xs, vs, k1, k2, k3, k4⟩ := resI_sound htb hS' hn' _ _ hres
    rw [forceNs_eq] at k1
    generalize hselq : selE pre.length L' post res xs = sel at k1
    have hsl : sel.length = post.length := by
      rw [← hselq]; unfold selE; rw [selFrom_length, lenO_eq]
    obtain ⟨hd, hid, hpost, hrs⟩ := k1
    have hL' := hS'.relL
    have hobj : ∀ (j i : Nat), sel[j]? = some i → j < post.length ∧ (getO L' i).live = true ∧ (getO post j).live = true ∧ (getO L' i).kd = (getO post j).kd ∧ GLeO (viewE sel L') sel (getO post j) (getO L' i) := by
      intro j i hj
      have hlt : j < post.length := by rw [← hsl]; exact (List.getElem?_eq_some_iff.1 hj).1
      have hgo : ∀ (l : List AO) (j : Nat) (h : j < l.length), l[j]? = some (getO l j) := by
        intro l
        induction l with
        | nil => intro j h; simp at h
        | cons x r ih =>
          intro j h
          cases j with
          | zero => rfl
          | succ j => simpa [getO] using ih j (by simpa using h)
      obtain ⟨s, g1, g2⟩ := GLeL_get hpost j _ (hgo post j hlt)
      rw [Nat.zero_add, hj] at g1
      simp only [Option.some.injEq] at g1
      subst g1
      have := GLeO_live g2
      exact ⟨hlt, this.1, this.2.1, this.2.2, g2⟩
    have hlt' : ∀ (j i : Nat), sel[j]? = some i → i < B'.length := fun j i hj => by rw [hL'.len]; exact live_lt (hobj j i hj).2.1
    let B2 : List (Option BI) := sel.map fun s => (B'[s]?).getD none
    have hB2 : ∀ (j i : Nat), sel[j]? = some i → B2[j]? = B'[i]? := by
      intro j i hj
      simp only [B2, List.getElem?_map, hj, Option.map_some, List.getElem?_eq_getElem (hlt' j i hj), Option.getD_some]
    have hB2i : ∀ (j : Nat) (bo : Option BI), B2[j]? = some bo → ∃ i, sel[j]? = some i ∧ B'[i]? = some bo := by
      intro j bo hj
      have hlt : j < sel.length := by have := (List.getElem?_eq_some_iff.1 hj).1; simpa [B2] using this
      exact ⟨sel[j], List.getElem?_eq_getElem hlt, by rw [← hB2 j _ (List.getElem?_eq_getElem hlt)]; exact hj⟩
    have hB2l : B2.length = sel.length := by simp [B2]
    have hle : (Sr X.M B' L' w').le (Sr M B2 post w') := by
      intro t b o u hh
      refine ⟨fun hm => hh.1 ?_, hh.2⟩
      cases t with
      | false =>
        rcases hm with hm | ⟨j, bi, h1, h2, h3⟩
        · exact .inl hm
        · obtain ⟨i, q1, q2⟩ := hB2i j _ h1
          exact .inr ⟨i, bi, q2, h2, (hobj j i q1).2.1⟩
      | true =>
        rcases hm with hm | ⟨j, bi, h0, h1, h2, h3⟩
        · exact .inl hm
        · obtain ⟨i, q1, q2⟩ := hB2i j _ h1
          exact .inr ⟨i, bi, by simp only [X, hro]; omega, q2, h2, (hobj j i q1).2.1⟩
    have hv2 := fun i e o l z u => viewE_sound (sel := sel) (S' := Sr M B2 post w') hL' hle (fun id bi hid hb hl o u hc => ⟨by
      rintro (hm | ⟨j, bi', h1, h2, h3⟩)
      · exact hL'.notM id bi hb hl hm
      · obtain ⟨i, q1, q2⟩ := hB2i j _ h1
        exact hL'.dist i id bi' bi (fun e => hid (e ▸ List.mem_of_getElem? q1)) q2 hb (hobj j i q1).2.1 hl h2, hc⟩) i e o l z u
    have hrv := GLes_rel hle hB2 hB2l hv2 res xs vs hrs k4
    refine ⟨hS'.dfr, _, run_results fn a'.tmps w' vs k2 k3, _, B2, rfl, hS'.below, ?_, retA_sound hrv, fun j bi hj => ?_, fun j hj hk => ?_⟩
    · exact {
        len := by rw [hB2l, hsl]
        bnd := fun j bi hj => by obtain ⟨i, q1, q2⟩ := hB2i j _ hj; exact hL'.bnd i bi q2
        mbnd := hL'.mbnd
        notM := fun j bi hj _ => by obtain ⟨i, q1, q2⟩ := hB2i j _ hj; exact hL'.notM i bi q2 (hobj j i q1).2.1
        dist := fun i j bi bj hij hi hj _ _ => by
          obtain ⟨s, q1, q2⟩ := hB2i i _ hi
          obtain ⟨s', q3, q4⟩ := hB2i j _ hj
          exact hL'.dist s s' bi bj (fun e => distN_spec hd i j s hij q1 (e ▸ q3)) q2 q4 (hobj i s q1).2.1 (hobj j s' q3).2.1
        obj := fun j bo hj => by
          obtain ⟨i, q1, q2⟩ := hB2i j _ hj
          exact GLeO_rel hle hB2 hB2l hv2 (hobj j i q1).2.2.2.2 (hL'.obj i bo q2) }
    · obtain ⟨i, q1, q2⟩ := hB2i j _ hj
      exact hS'.fresh i bi (by simp only [X, hro]; omega) q2 (hobj j i q1).2.1
    · have hs : sel[j]? = some j := by
        have := idOk_spec hid hsl.symm j (by omega) (by omega) hk
        rwa [Nat.zero_add] at this
      rw [hB2 j j hs]
      have ho := hobj j j hs
      have := hS'.knd j (by simp only [X]; exact hj) (by rw [← hL'.len]; exact hlt' j j hs)
      rcases this with h0 | ⟨_, h0⟩
      · have hlv := ho.2.1
        cases hq : getO L' j <;> rw [hq] at h0 hlv <;> simp [AO.kd, AO.live] at h0 hlv
      · exact h0 (by rw [ho.2.2.2.1]; exact hk)
  cases e with
  | normal => exact key True hK
  | ret => exact key True hK
  | exit i => exact hK.elim
end
end Go.VA

namespace Go.VA
open Go Go.RowKit

/-! ### Such a call, in the midst of what is known -/

mutual
def renG (sel : List Nat) : AV → AV
  | .ptr i o => .ptr (nthD sel i) o
  | .pe i e k j => .pe (nthD sel i) e k j
  | .own i e o l => .own (nthD sel i) e o l
  | .mpv i => .mpv (nthD sel i)
  | .agx xs => .agx (renGs sel xs)
  | .tup xs => .tup (renGs sel xs)
  | .fn f xs ys => .fn f (renGs sel xs) (renGs sel ys)
  | .gd .. => .any
  | .any => .any
  | .c x => .c x
  | .ag xs => .ag xs
  | .sp t xs k => .sp t xs k
  | .ub p => .ub p
def renGs (sel : List Nat) : List AV → List AV
  | [] => []
  | x :: r => renG sel x :: renGs sel r
end
def renGO (sel : List Nat) : AO → AO
  | .box xs => .box (renGs sel xs)
  | x => x
theorem renG_ret (sel : List Nat) (res : List AV) : renG sel (retA res) = retA (renGs sel res) := by
  match res with
  | [] => rfl
  | [x] => rfl
  | x :: y :: r => simp [retA, renG, renGs]

mutual
/-- nothing of it lies in data that stays only while this call runs -/
def NtC : C → Prop
  | .v _ => True
  | .emp => True
  | .sl t _ n f => t = false ∧ ∀ i, i < n → NtCs (f i)
def NtCs : List C → Prop
  | [] => True
  | x :: r => NtC x ∧ NtCs r
end
mutual
def ntA : AV → Prop
  | .c x => NtC x
  | .ag xs => NtCs xs
  | .agx xs => ntAs xs
  | .tup xs => ntAs xs
  | .own .. => True
  | .ptr .. => True
  | .pe .. => True
  | .mpv .. => True
  | .any => True
  | .ub .. => True
  | .gd .. => True
  | .sp .. => False
  | .fn .. => False
def ntAs : List AV → Prop
  | [] => True
  | x :: r => ntA x ∧ ntAs r
end
def ntO : AO → Prop
  | .box xs => ntAs xs
  | .row _ n f => ∀ i, i < n → NtCs (f i)
  | .mp m => ∀ p ∈ m, ntA p.2
  | _ => True
def ntL : List AO → Prop
  | [] => True
  | x :: r => ntO x ∧ ntL r
theorem ntL_get : ∀ {l : List AO} (i : Nat), ntL l → ntO (getO l i)
  | [], i, _ => by simp [getO, ntO]
  | x :: r, 0, h => h.1
  | x :: r, i + 1, h => ntL_get (l := r) i h.2

section
variable {S S' : Rd} (hF : ∀ b o v, S false b o v → S' false b o v)
include hF
mutual
theorem NtC.rep : ∀ (x : C) (u : Value), NtC x → RepC S x u → RepC S' x u
  | .v _, _, _, h => by simpa [RepC] using h
  | .emp, _, _, h => by simpa [RepC] using h
  | .sl t esz n f, u, hn, h => by
    simp only [NtC] at hn
    obtain ⟨rfl, hn⟩ := hn
    simp only [RepC] at h ⊢
    obtain ⟨a, cap, hu, hc, h1⟩ := h
    refine ⟨a, cap, hu, hc, ?_⟩
    rcases h1 with h1 | ⟨b, o, ha, h1⟩
    · exact .inl h1
    · exact .inr ⟨b, o, ha, fun i hi => ⟨(h1 i hi).1, NtCs.reps (R := S false b) (R' := S' false b) (hF b) (f i) _ (hn i hi) (h1 i hi).2⟩⟩
theorem NtCs.reps {R R' : Nat → Value → Prop} (hR : ∀ o u, R o u → R' o u) : ∀ (xs : List C) (o : Nat), NtCs xs → RepCs S R o xs → RepCs S' R' o xs
  | [], _, _, _ => by simp [RepCs]
  | x :: xs, o, hn, h => by
    simp only [NtCs] at hn
    simp only [RepCs] at h ⊢
    obtain ⟨⟨u, h1, h2⟩, h3⟩ := h
    exact ⟨⟨u, hR o u h1, NtC.rep x u hn.1 h2⟩, NtCs.reps hR xs _ hn.2 h3⟩
end
theorem NtCs.vs : ∀ (xs : List C) (us : List Value), NtCs xs → RepVs S xs us → RepVs S' xs us
  | [], _, _, h => by simpa [RepVs] using h
  | x :: xs, us, hn, h => by
    simp only [NtCs] at hn
    simp only [RepVs] at h ⊢
    obtain ⟨u, r, h1, h2, h3⟩ := h
    exact ⟨u, r, h1, NtC.rep hF x u hn.1 h2, NtCs.vs xs r hn.2 h3⟩
end

section
variable {B B' : List (Option BI)} {S S' : Rd} {sel : List Nat} (hF : ∀ b o v, S false b o v → S' false b o v) (hB : ∀ (i : Nat) (x : BI), B[i]? = some (some x) → B'[nthD sel i]? = some (some x)) (hB0 : ∀ (i : Nat) (x : Option BI), B[i]? = some x → B'[nthD sel i]? = some x)
include hF hB hB0
mutual
theorem renG_rel : ∀ (x : AV) (u : Value), (S.le S' ∨ ntA x) → RelV B S x u → RelV B' S' (renG sel x) u
  | .any, u, _, _ => by simp [renG, RelV]
  | .c x, u, hc, h => by
    simp only [renG, RelV] at h ⊢
    rcases hc with hc | hc
    · exact RepC.mono hc _ _ h
    · exact NtC.rep hF _ _ hc h
  | .ag xs, u, hc, h => by
    simp only [renG, RelV] at h ⊢
    obtain ⟨arr, e, h⟩ := h
    rcases hc with hc | hc
    · exact ⟨arr, e, RepVs.mono hc _ _ h⟩
    · exact ⟨arr, e, NtCs.vs hF _ _ hc h⟩
  | .agx xs, u, hc, h => by
    simp only [renG, RelV] at h ⊢
    obtain ⟨arr, e, h0, h⟩ := h
    exact ⟨arr, e, h0, renGs_rel xs _ (by simpa only [ntA] using hc) h⟩
  | .tup xs, u, hc, h => by
    simp only [renG, RelV] at h ⊢
    obtain ⟨arr, e, h⟩ := h
    exact ⟨arr, e, renGs_rel xs _ (by simpa only [ntA] using hc) h⟩
  | .ptr i o, u, _, h => by
    simp only [renG, RelV] at h ⊢
    obtain ⟨bi, h1, h2⟩ := h
    exact ⟨bi, hB i _ h1, h2⟩
  | .pe i e k j, u, _, h => by
    simp only [renG, RelV] at h ⊢
    obtain ⟨bi, h1, h2⟩ := h
    exact ⟨bi, hB i _ h1, h2⟩
  | .mpv i, u, _, h => by
    simp only [renG, RelV] at h ⊢
    obtain ⟨bi, h1, h2⟩ := h
    exact ⟨bi, hB i _ h1, h2⟩
  | .own i e o l, u, _, h => by
    simp only [renG, RelV] at h ⊢
    rcases h with ⟨bi, cap, h1, h2⟩ | ⟨h1, h2, bo, h3⟩
    · exact .inl ⟨bi, cap, hB i _ h1, h2⟩
    · exact .inr ⟨h1, h2, bo, hB0 i _ h3.1, h3.2⟩
  | .sp t xs k, u, hc, h => by
    rcases hc with hc | hc
    · simp only [renG, RelV] at h ⊢
      obtain ⟨b, o, e, h⟩ := h
      exact ⟨b, o, e, RepCs.mono hc (hc t b) _ _ h⟩
    · simp [ntA] at hc
  | .fn f xs ys, u, hc, h => by
    rcases hc with hc | hc
    · simp only [renG, RelV] at h ⊢
      obtain ⟨a1, a2, e, h1, h2⟩ := h
      exact ⟨a1, a2, e, renGs_rel xs _ (.inl hc) h1, renGs_rel ys _ (.inl hc) h2⟩
    · simp [ntA] at hc
  | .gd .., u, _, _ => by simp [renG, RelV]
  | .ub p, u, _, h => by simpa only [renG, RelV] using h
theorem renGs_rel : ∀ (xs : List AV) (us : List Value), (S.le S' ∨ ntAs xs) → RelVs B S xs us → RelVs B' S' (renGs sel xs) us
  | [], us, _, h => by simpa [renGs, RelVs] using h
  | x :: xs, us, hc, h => by
    simp only [renGs, RelVs] at h ⊢
    obtain ⟨u, r, e, h1, h2⟩ := h
    have hc1 : S.le S' ∨ ntA x := hc.imp id fun h => by simp only [ntAs] at h; exact h.1
    have hc2 : S.le S' ∨ ntAs xs := hc.imp id fun h => by simp only [ntAs] at h; exact h.2
    exact ⟨u, r, e, renG_rel x u hc1 h1, renGs_rel xs r hc2 h2⟩
end
theorem RelM_nt : ∀ {m : List (Value × AV)} {es : List MapEntry}, (∀ p ∈ m, ntA p.2) → RelM S m es → RelM S' m es
  | [], es, _, h => by simpa [RelM] using h
  | x :: xs, es, hn, h => by
    simp only [RelM] at h ⊢
    obtain ⟨e, r, h1, h2, h3, h4⟩ := h
    refine ⟨e, r, h1, h2, ?_, RelM_nt (fun p hp => hn p (by simp [hp])) h4⟩
    have key : ∀ (x : AV) (u : Value), ntA x → RelV [] S x u → RelV [] S' x u := by
      have all : (∀ (x : AV) (u : Value), ntA x → RelV [] S x u → RelV [] S' x u) := by
        intro x
        refine AV.rec (motive_1 := fun x => ∀ u, ntA x → RelV [] S x u → RelV [] S' x u) (motive_2 := fun xs => ∀ us, ntAs xs → RelVs [] S xs us → RelVs [] S' xs us) ?_ ?_ ?_ ?_ ?_ ?_ ?_ ?_ ?_ ?_ ?_ ?_ ?_ ?_ ?_ x
        · intro u _ _; simp [RelV]
        · intro x u hn h; simp only [RelV] at h ⊢; exact NtC.rep hF _ _ hn h
        · intro xs u hn h; simp only [RelV] at h ⊢; obtain ⟨arr, e, h⟩ := h; exact ⟨arr, e, NtCs.vs hF _ _ hn h⟩
        · intro xs ih u hn h; simp only [RelV] at h ⊢; obtain ⟨arr, e, h0, h⟩ := h; exact ⟨arr, e, h0, ih _ hn h⟩
        · intro i o u _ h; simpa [RelV] using h
        · intro i e k j u _ h; simpa [RelV] using h
        · intro t xs k u hn _; simp [ntA] at hn
        · intro i e o l u _ h; simpa [RelV] using h
        · intro xs ih u hn h; simp only [RelV] at h ⊢; obtain ⟨arr, e, h⟩ := h; exact ⟨arr, e, ih _ hn h⟩
        · intro f a b _ _ u hn _; simp [ntA] at hn
        · intro s w x _ u _ _; simp [RelV]
        · intro i u _ h; simpa [RelV] using h
        · intro p u _ h; simpa only [RelV] using h
        · intro us _ h; simpa [RelVs] using h
        · intro x xs ih1 ih2 us hn h
          simp only [ntAs] at hn
          simp only [RelVs] at h ⊢
          obtain ⟨u, r, e, h1, h2⟩ := h
          exact ⟨u, r, e, ih1 u hn.1 h1, ih2 r hn.2 h2⟩
      exact all
    exact key _ _ (hn x (by simp)) h3
theorem renGO_rel {w : World} : ∀ (x : AO) (bo : Option BI), x.live = true → (S.le S' ∨ ntO x) → RelO B S w x bo → RelO B' S' w (renGO sel x) bo
  | .box xs, bo, _, hc, h => by
    obtain ⟨bi, cs, ty, e, h1, h2, h3, h4, h5⟩ := h
    exact ⟨bi, cs, ty, e, h1, h2, h3, h4, renGs_rel hF hB hB0 xs _ hc h5⟩
  | .row e n f, none, _, _, h => h
  | .row e n f, some bi, _, hc, h => by
    obtain ⟨h0, cs, ty, h1, h2, h3, h4⟩ := h
    refine ⟨h0, cs, ty, h1, h2, h3, fun i hi => ⟨(h4 i hi).1, ?_⟩⟩
    rcases hc with hc | hc
    · exact RepCs.mono hc (fun _ _ x => x) _ _ (h4 i hi).2
    · exact NtCs.reps hF (fun _ _ x => x) _ _ (hc i hi) (h4 i hi).2
  | .mp m, bo, _, hc, h => by
    obtain ⟨bi, es, clock, e, h1, h2⟩ := h
    refine ⟨bi, es, clock, e, h1, ?_⟩
    rcases hc with hc | hc
    · exact RelM.mono hc _ _ h2
    · exact RelM_nt hF hB hB0 hc h2
  | .frz .., _, hl, _, _ => by simp [AO.live] at hl
  | .amb .., _, hl, _, _ => by simp [AO.live] at hl
  | .dead, _, hl, _, _ => by simp [AO.live] at hl
end

theorem renGO_live (sel : List Nat) (x : AO) : (renGO sel x).live = x.live ∧ (renGO sel x).kd = x.kd := by cases x <;> exact ⟨rfl, rfl⟩

/-! rows that were handed on: what was known of them is forgotten -/
def purgeEs : List Nat → List AO → Env → Env
  | s :: r, y :: pr, env => match Nat.beq y.kd 3 with | true => purgeEs r pr (purgeE s env) | false => purgeEs r pr env
  | _, _, env => env
def purgeLs : List Nat → List AO → List AO → List AO
  | s :: r, y :: pr, L => match Nat.beq y.kd 3 with | true => purgeLs r pr (purgeL s L) | false => purgeLs r pr L
  | _, _, L => L
def purgeOs : List Nat → List AO → AO → AO
  | s :: r, y :: pr, x => match Nat.beq y.kd 3 with | true => purgeOs r pr (purgeO s x) | false => purgeOs r pr x
  | _, _, x => x
def setB : List Nat → List AO → List (Option BI) → List (Option BI) → List (Option BI)
  | s :: r, y :: pr, b :: bs, B => match Nat.beq y.kd 3 with | true => setB r pr bs (B.set s b) | false => setB r pr bs B
  | _, _, _, B => B
theorem purgeEs_keys : ∀ (sel : List Nat) (pre : List AO) (env : Env), keysE (purgeEs sel pre env) = keysE env
  | [], _, _ => by simp [purgeEs]
  | _ :: _, [], _ => by simp [purgeEs]
  | s :: r, y :: pr, env => by
    simp only [purgeEs]
    split
    · rw [purgeEs_keys r pr, purgeE_keys]
    · rw [purgeEs_keys r pr]
theorem purgeLs_length : ∀ (sel : List Nat) (pre L : List AO), (purgeLs sel pre L).length = L.length
  | [], _, _ => by simp [purgeLs]
  | _ :: _, [], _ => by simp [purgeLs]
  | s :: r, y :: pr, L => by
    simp only [purgeLs]
    split
    · rw [purgeLs_length r pr, purgeL_length]
    · rw [purgeLs_length r pr]
theorem purgeLs_get : ∀ (sel : List Nat) (pre L : List AO) (j : Nat), getO (purgeLs sel pre L) j = purgeOs sel pre (getO L j)
  | [], _, _, _ => by simp [purgeLs, purgeOs]
  | _ :: _, [], _, _ => by simp [purgeLs, purgeOs]
  | s :: r, y :: pr, L, j => by
    simp only [purgeLs, purgeOs]
    split
    · rw [purgeLs_get r pr, purgeL_get]
    · rw [purgeLs_get r pr]
theorem purgeOs_live : ∀ (sel : List Nat) (pre : List AO) (x : AO), (purgeOs sel pre x).live = x.live ∧ (purgeOs sel pre x).kd = x.kd
  | [], _, _ => by simp [purgeOs]
  | _ :: _, [], _ => by simp [purgeOs]
  | s :: r, y :: pr, x => by
    simp only [purgeOs]
    split
    · have := purgeOs_live r pr (purgeO s x)
      rw [this.1, this.2, purgeO_live, purgeO_kd]; exact ⟨rfl, rfl⟩
    · exact purgeOs_live r pr x
theorem setB_length : ∀ (sel : List Nat) (pre : List AO) (bs B : List (Option BI)), (setB sel pre bs B).length = B.length
  | [], _, _, _ => by simp [setB]
  | _ :: _, [], _, _ => by simp [setB]
  | _ :: _, _ :: _, [], _ => by simp [setB]
  | s :: r, y :: pr, b :: bs, B => by
    simp only [setB]
    split
    · rw [setB_length r pr bs, List.length_set]
    · rw [setB_length r pr bs]
theorem purgeEs_rel {S S' : Rd} {a : Act} (hS : S.le S') : ∀ (sel : List Nat) (pre : List AO) (bs B : List (Option BI)) (env : Env) (t : Nat), pre.length ≤ bs.length →
    RelSl B S a (get env t) (a.tmps.getD t undef) → RelSl (setB sel pre bs B) S' a (get (purgeEs sel pre env) t) (a.tmps.getD t undef) := by
  have base : ∀ (B : List (Option BI)) (x : AV) (u : Value), RelSl B S a x u → RelSl B S' a x u := by
    intro B x u h
    cases x <;> simp only [RelSl] at h ⊢ <;> first | exact RelV.mono (Ble.refl B) hS _ _ h | exact ⟨fun e => RelV.mono (Ble.refl B) hS _ _ (h.1 e), h.2⟩
  intro sel
  induction sel with
  | nil => intro pre bs B env t _ h; simp only [setB, purgeEs]; exact base _ _ _ h
  | cons s r ih =>
    intro pre bs B env t hl h
    cases pre with
    | nil => simp only [setB, purgeEs]; exact base _ _ _ h
    | cons y pr =>
      cases bs with
      | nil => simp at hl
      | cons b bs =>
        simp only [setB, purgeEs]
        split
        · exact ih pr bs _ _ t (by simpa using hl) (purgeE_rel (Rd.le_refl S) env t h)
        · exact ih pr bs _ _ t (by simpa using hl) h
theorem purgeOs_rel {S : Rd} {w : World} : ∀ (sel : List Nat) (pre : List AO) (bs B : List (Option BI)) (x : AO) (bo : Option BI), pre.length ≤ bs.length →
    RelO B S w x bo → RelO (setB sel pre bs B) S w (purgeOs sel pre x) bo
  | [], _, _, _, _, _, _, h => by simpa [setB, purgeOs] using h
  | _ :: _, [], _, _, _, _, _, h => by simpa [setB, purgeOs] using h
  | _ :: _, _ :: _, [], _, _, _, hl, _ => by simp at hl
  | s :: r, y :: pr, b :: bs, B, x, bo, hl, h => by
    simp only [setB, purgeOs]
    split
    · exact purgeOs_rel r pr bs _ _ bo (by simpa using hl) (purgeO_rel _ _ h)
    · exact purgeOs_rel r pr bs _ _ bo (by simpa using hl) h

/-- no number twice -/
def DN (l : List Nat) : Prop := ∀ (i j : Nat) x, i ≠ j → l[i]? = some x → l[j]? = some x → False
theorem DN.tail {s : Nat} {r : List Nat} (h : DN (s :: r)) : s ∉ r ∧ DN r :=
  ⟨fun hm => by obtain ⟨i, hi, e⟩ := List.mem_iff_getElem.1 hm; exact h 0 (i + 1) s (by omega) rfl (by simp [List.getElem?_eq_getElem hi, e]), fun i j x hij hi hj => h (i + 1) (j + 1) x (by omega) (by simpa using hi) (by simpa using hj)⟩
theorem setB_get : ∀ (sel : List Nat) (pre : List AO) (bs B : List (Option BI)), (∀ s ∈ sel, s < B.length) → DN sel → sel.length = pre.length → pre.length ≤ bs.length →
    (∀ j, j ∉ sel → (setB sel pre bs B)[j]? = B[j]?) ∧ ∀ (i j : Nat), sel[i]? = some j → ((getO pre i).kd = 3 → (setB sel pre bs B)[j]? = bs[i]?) ∧ ((getO pre i).kd ≠ 3 → (setB sel pre bs B)[j]? = B[j]?)
  | [], pre, bs, B, _, _, _, _ => ⟨fun j _ => by simp [setB], fun i j h => by simp at h⟩
  | _ :: _, [], _, _, _, _, h, _ => by simp at h
  | _ :: _, _ :: _, [], _, _, _, _, h => by simp at h
  | s :: r, y :: pr, b :: bs, B, hlt, hd, hl, hl2 => by
    obtain ⟨hs, hd'⟩ := hd.tail
    have hsl := hlt s (by simp)
    simp only [setB]
    split
    · rename_i hk
      have hk := Nat.beq_spec hk
      obtain ⟨k1, k2⟩ := setB_get r pr bs (B.set s b) (fun x hx => by rw [List.length_set]; exact hlt x (by simp [hx])) hd' (by simpa using hl) (by simpa using hl2)
      refine ⟨fun j hj => ?_, fun i j hi => ?_⟩
      · simp only [List.mem_cons, not_or] at hj
        rw [k1 j hj.2, List.getElem?_set_ne (fun e => hj.1 e.symm)]
      · cases i with
        | zero =>
          simp only [List.getElem?_cons_zero, Option.some.injEq] at hi
          subst hi
          refine ⟨fun _ => by rw [k1 s hs, List.getElem?_set_self hsl]; rfl, fun h => absurd hk h⟩
        | succ i =>
          have hi' : r[i]? = some j := by simpa using hi
          have := k2 i j hi'
          refine ⟨fun h => by rw [this.1 h]; rfl, fun h => ?_⟩
          rw [this.2 h, List.getElem?_set_ne (fun (e : s = j) => hs (by rw [e]; exact List.mem_of_getElem? hi'))]
    · rename_i hk
      have hk : y.kd ≠ 3 := fun e => by rw [e] at hk; simp at hk
      obtain ⟨k1, k2⟩ := setB_get r pr bs B (fun x hx => hlt x (by simp [hx])) hd' (by simpa using hl) (by simpa using hl2)
      refine ⟨fun j hj => ?_, fun i j hi => ?_⟩
      · simp only [List.mem_cons, not_or] at hj
        exact k1 j hj.2
      · cases i with
        | zero =>
          simp only [List.getElem?_cons_zero, Option.some.injEq] at hi
          subst hi
          exact ⟨fun h => absurd h hk, fun _ => k1 s hs⟩
        | succ i =>
          have hi' : r[i]? = some j := by simpa using hi
          exact k2 i j hi'

def putG (selF : List Nat) : List Nat → List AO → List AO → List AO
  | s :: r, y :: pr, L => putG selF r pr (setO L s (renGO selF y))
  | _, _, L => L
theorem putG_length (selF : List Nat) : ∀ (sel : List Nat) (post L : List AO), (putG selF sel post L).length = L.length
  | [], _, _ => by simp [putG]
  | _ :: _, [], _ => by simp [putG]
  | s :: r, y :: pr, L => by simp only [putG]; rw [putG_length selF r pr, setO_length]
theorem getO_putG (selF : List Nat) : ∀ (sel : List Nat) (post L : List AO), (∀ s ∈ sel, s < L.length) → DN sel → sel.length = post.length →
    (∀ j, j ∉ sel → getO (putG selF sel post L) j = getO L j) ∧ ∀ (i j : Nat), sel[i]? = some j → getO (putG selF sel post L) j = renGO selF (getO post i)
  | [], post, L, _, _, _ => ⟨fun j _ => by simp [putG], fun i j h => by simp at h⟩
  | _ :: _, [], _, _, _, h => by simp at h
  | s :: r, y :: pr, L, hlt, hd, hl => by
    obtain ⟨hs, hd'⟩ := hd.tail
    have hsl := hlt s (by simp)
    obtain ⟨k1, k2⟩ := getO_putG selF r pr (setO L s (renGO selF y)) (fun x hx => by rw [setO_length]; exact hlt x (by simp [hx])) hd' (by simpa using hl)
    simp only [putG]
    refine ⟨fun j hj => ?_, fun i j hi => ?_⟩
    · simp only [List.mem_cons, not_or] at hj
      rw [k1 j hj.2, getO_setO L s j _ hsl, if_neg hj.1]
    · cases i with
      | zero =>
        simp only [List.getElem?_cons_zero, Option.some.injEq] at hi
        subst hi
        rw [k1 s hs, getO_setO L s s _ hsl, if_pos rfl]
        rfl
      | succ i => exact k2 i j (by simpa using hi)

/-- how what is not handed on reads for the one that is called -/
def viewU (ld : Bool) (sel : List Nat) (L : List AO) : Vw := fun id esz off len => match getO L id with
  | .row e _ f => match ld with
    | true => match Nat.beq e esz with
      | true => match memN id sel with
        | false => some (.sl true esz len fun i => f (off + i))
        | true => none
      | false => none
    | false => none
  | .frz e _ f => match Nat.beq e esz with
    | true => some (.sl false esz len fun i => f (off + i))
    | false => none
  | _ => none

theorem viewU_sound {M : Mz} {B : List (Option BI)} {L : List AO} {w : World} {ld : Bool} {sel : List Nat} {S' : Rd} (hrel : RelL M B L w) (hle : (Sr M B L w).le S')
    (hown : ld = true → ∀ (id : Nat) (bi : BI), id ∉ sel → B[id]? = some (some bi) → (getO L id).live = true → ∀ o u, w.cell? ⟨bi.b, o, none⟩ = some u → S' true bi.b o u)
    (id esz off len : Nat) (y : C) (u : Value) (hv : viewU ld sel L id esz off len = some y) (hu : RelV B (Sr M B L w) (.own id esz off len) u) : RepC S' y u := by
  unfold viewU at hv
  have fin : ∀ (t : Bool) (f : Nat → List C), y = .sl t esz len (fun i => f (off + i)) →
      (∀ bi, B[id]? = some (some bi) → ∀ i, i < bi.n → (f i).length = esz ∧ RepCs S' (S' t bi.b) (bi.o + i * esz) (f i)) → RepC S' y u := by
    intro t f hy hf
    subst hy
    simp only [RelV] at hu
    simp only [RepC]
    rcases hu with ⟨bi, cap, hb, rfl, h1, h2, h3⟩ | ⟨rfl, ⟨a, rfl⟩, _⟩
    · refine ⟨_, cap, rfl, h1, ?_⟩
      by_cases h0 : len = 0
      · exact .inl h0
      · refine .inr ⟨bi.b, _, rfl, fun i hi => ?_⟩
        have := hf bi hb (off + i) (by omega)
        refine ⟨this.1, ?_⟩
        rw [show bi.o + off * esz + i * esz = bi.o + (off + i) * esz from by rw [Nat.add_mul]; omega]
        exact this.2
    · exact ⟨a, 0, rfl, ⟨Nat.le_refl _, Nat.zero_le _⟩, .inl rfl⟩
  split at hv
  · rename_i e m f hO
    split at hv
    · split at hv
      · rename_i he
        obtain rfl := Nat.beq_spec he
        split at hv
        · rename_i hr
          have hr : id ∉ sel := fun e => by rw [memN_spec.2 e] at hr; simp at hr
          simp only [Option.some.injEq] at hv
          refine fin true f hv.symm fun bi hb i hi => ?_
          have := hrel.obj id _ hb
          rw [hO] at this
          obtain ⟨hn, cs, ty, h1, h2, h3, h4⟩ := this
          have := h4 i (by omega)
          refine ⟨this.1, RepCs.mono hle (fun o u hh => hown rfl id bi hr hb (by rw [hO]; rfl) o u (by simpa [World.cell?, h1] using hh)) _ _ this.2⟩
        · simp at hv
      · simp at hv
    · simp at hv
  · rename_i e m f hO
    split at hv
    · rename_i he
      obtain rfl := Nat.beq_spec he
      simp only [Option.some.injEq] at hv
      refine fin false f hv.symm fun bi hb i hi => ?_
      have := hrel.obj id _ hb
      rw [hO] at this
      obtain ⟨hn, h4⟩ := this
      exact ⟨(h4 i (by omega)).1, RepCs.mono hle (fun o u hh => hle _ _ _ _ hh) _ _ (h4 i (by omega)).2⟩
    · simp at hv
  · simp at hv
end Go.VA

namespace Go.VA
open Go Go.RowKit

theorem RelO.ble {B B' : List (Option BI)} {S : Rd} {w : World} (hB : Ble B B') {x : AO} {bo : Option BI} (h : RelO B S w x bo) : RelO B' S w x bo := by
  cases x with
  | box xs =>
    obtain ⟨bi, cs, ty, e, h1, h2, h3, h4, h5⟩ := h
    exact ⟨bi, cs, ty, e, h1, h2, h3, h4, RelVs.mono hB (Rd.le_refl S) _ _ h5⟩
  | row e n f => cases bo <;> exact h
  | frz e n f => cases bo <;> exact h
  | mp m => exact h
  | amb vs xs => exact RelVs.mono hB (Rd.le_refl S) _ _ h
  | dead => trivial
theorem RelSl.ble {B B' : List (Option BI)} {S : Rd} {a : Act} (hB : Ble B B') {x : AV} {u : Value} (h : RelSl B S a x u) : RelSl B' S a x u := by
  cases x <;> simp only [RelSl] at h ⊢ <;> first | exact RelV.mono hB (Rd.le_refl S) _ _ h | exact ⟨fun e => RelV.mono hB (Rd.le_refl S) _ _ (h.1 e), h.2⟩
theorem upTo_mem : ∀ {m k x : Nat}, x ∈ upTo m k → k ≤ x ∧ x < k + m
  | 0, k, x, h => by simp [upTo] at h
  | m + 1, k, x, h => by
    simp only [upTo, List.mem_cons] at h
    rcases h with rfl | h
    · omega
    · have := upTo_mem h; omega
theorem getO_get : ∀ (l : List AO) (j : Nat) (h : j < l.length), l[j]? = some (getO l j)
  | [], j, h => by simp at h
  | x :: r, 0, _ => rfl
  | x :: r, j + 1, h => by simpa [getO] using getO_get r j (by simpa using h)

section
variable {P : Program} {gl : Gl}

theorem xc_g_core {f : Nat} {pre post : List AO} {args' res : List AV} (h : GCall P gl f pre args' post res) (ld : Bool) (sel : List Nat) {ro : Nat} {first cap args : List AV} {env : Env} {L : List AO} {K : AV → Env → List AO → Prop}
    (hd : distN sel = true) (hro' : ∀ s ∈ sel, ro ≤ s) (hsl : sel.length = pre.length) (hpre : GLeL (viewU ld sel L) sel L 0 pre) (hargs : GLes (viewU ld sel L) sel args' (first ++ args ++ cap))
    (hnt : ld = true → ntL post ∧ ntAs res)
    (hK : K (retA (renGs (sel ++ upTo (post.length - pre.length) L.length) res)) (purgeEs sel pre env)
      (putG (sel ++ upTo (post.length - pre.length) L.length) (sel ++ upTo (post.length - pre.length) L.length) post (purgeLs sel pre L ++ List.replicate (post.length - pre.length) .dead))) : XCall P gl ro (.fn f first cap) args env L K := by
  refine ⟨fun X B a w o c fo hgl hro hS ho hc hfr hav => ?_⟩
  subst hro
  simp only [RelV] at hfr
  obtain ⟨a1, a2, hfv, h1, h2⟩ := hfr
  have hL := hS.relL
  have hlen := h.len
  have hvals : RelVs B (Sr X.M B L w) (first ++ args ++ cap) (a1 ++ c.args.map a.eval ++ a2).toList := by
    have := RelVs.append _ _ _ _ (RelVs.append _ _ _ _ h1 hav) h2
    simpa using this
  -- the objects that are handed on
  have sobj : ∀ (i s : Nat), sel[i]? = some s → i < pre.length ∧ GLeO (viewU ld sel L) sel (getO pre i) (getO L s) := by
    intro i s hs
    have hlt : i < pre.length := by rw [← hsl]; exact (List.getElem?_eq_some_iff.1 hs).1
    obtain ⟨s', g1, g2⟩ := GLeL_get hpre i _ (getO_get pre i hlt)
    rw [Nat.zero_add, hs] at g1
    simp only [Option.some.injEq] at g1
    subst g1
    exact ⟨hlt, g2⟩
  have sg : ∀ (s : Nat), s ∈ sel → X.M.ro ≤ s ∧ s < L.length ∧ (getO L s).live = true := by
    intro s hs
    obtain ⟨i, hi, rfl⟩ := List.mem_iff_getElem.1 hs
    have := GLeO_live (sobj i _ (List.getElem?_eq_getElem hi)).2
    exact ⟨hro' _ hs, live_lt this.1, this.1⟩
  have hdn : DN sel := fun i j x hij hi hj => distN_spec hd i j x hij hi hj
  let rest : Bool → Nat → Prop := fun t b => match t with
    | false => X.M.f b ∨ ∃ (id : Nat) (bi : BI), id ∉ sel ∧ B[id]? = some (some bi) ∧ bi.b = b ∧ (getO L id).live = true
    | true => X.M.t b ∨ ∃ (id : Nat) (bi : BI), id ∉ sel ∧ X.M.ro ≤ id ∧ B[id]? = some (some bi) ∧ bi.b = b ∧ (getO L id).live = true
  have hrtf : ∀ b, rest true b → rest false b := by
    rintro b (hb | ⟨id, bi, h0, _, h1⟩)
    · exact .inl (X.M.le b hb)
    · exact .inr ⟨id, bi, h0, h1⟩
  let T : Nat → Prop := fun b => match ld with | true => X.M.t b | false => rest true b
  have hT1 : ∀ b, X.M.t b → T b := by intro b hb; cases ld; exact .inl hb; exact hb
  have hT2 : ∀ b, T b → rest true b := by intro b hb; cases ld; exact hb; exact .inl hb
  let M' : Mz := ⟨0, rest false, T, fun b hb => hrtf b (hT2 b hb)⟩
  let B' : List (Option BI) := sel.map fun s => (B[s]?).getD none
  have hB' : ∀ (i s : Nat), sel[i]? = some s → B'[i]? = B[s]? := by
    intro i s hs
    have hlt : s < B.length := by rw [hL.len]; exact (sg s (List.mem_of_getElem? hs)).2.1
    simp only [B', List.getElem?_map, hs, Option.map_some, List.getElem?_eq_getElem hlt, Option.getD_some]
  have hB'l : B'.length = sel.length := by simp [B']
  have hB'i : ∀ (i : Nat) (bo : Option BI), B'[i]? = some bo → ∃ s, sel[i]? = some s ∧ B[s]? = some bo := by
    intro i bo hi
    have hlt : i < sel.length := by have := (List.getElem?_eq_some_iff.1 hi).1; simpa [B'] using this
    exact ⟨sel[i], List.getElem?_eq_getElem hlt, by rw [← hB' i _ (List.getElem?_eq_getElem hlt)]; exact hi⟩
  have hSr : (Sr X.M B L w).le (Sr M' B' pre w) := by
    intro t b q u hh
    refine ⟨fun hm => hh.1 ?_, hh.2⟩
    cases t with
    | false =>
      rcases hm with hm | ⟨i, bi, k1, k2, _⟩
      · rcases hm with hm | ⟨id, bi, _, k1, k2, k3⟩
        · exact .inl hm
        · exact .inr ⟨id, bi, k1, k2, k3⟩
      · obtain ⟨s, q1, q2⟩ := hB'i i _ k1
        exact .inr ⟨s, bi, q2, k2, (sg s (List.mem_of_getElem? q1)).2.2⟩
    | true =>
      rcases hm with hm | ⟨i, bi, _, k1, k2, _⟩
      · rcases hT2 b hm with hm | ⟨id, bi, _, k0, k1, k2, k3⟩
        · exact .inl hm
        · exact .inr ⟨id, bi, k0, k1, k2, k3⟩
      · obtain ⟨s, q1, q2⟩ := hB'i i _ k1
        have := sg s (List.mem_of_getElem? q1)
        exact .inr ⟨s, bi, this.1, q2, k2, this.2.2⟩
  have hnM : ∀ (i : Nat) (bi : BI), B'[i]? = some (some bi) → ¬ rest false bi.b := by
    intro i bi hi
    obtain ⟨s, k1, k2⟩ := hB'i i _ hi
    have hs := sg s (List.mem_of_getElem? k1)
    rintro (hm | ⟨id, bi', q0, q1, q2, q3⟩)
    · exact hL.notM s bi k2 hs.2.2 hm
    · exact hL.dist id s bi' bi (fun e => q0 (e ▸ List.mem_of_getElem? k1)) q1 k2 q3 hs.2.2 q2
  have hdst : ∀ (i j : Nat) (bi bj : BI), i ≠ j → B'[i]? = some (some bi) → B'[j]? = some (some bj) → bi.b ≠ bj.b := by
    intro i j bi bj hij hi hj
    obtain ⟨s, k1, k2⟩ := hB'i i _ hi
    obtain ⟨s', k3, k4⟩ := hB'i j _ hj
    exact hL.dist s s' bi bj (fun e => hdn i j s hij k1 (e ▸ k3)) k2 k4 (sg s (List.mem_of_getElem? k1)).2.2 (sg s' (List.mem_of_getElem? k3)).2.2
  have hvw := fun i e o l z u => viewU_sound (ld := ld) (sel := sel) (S' := Sr M' B' pre w) hL hSr (fun hld id bi hid hb hl o u hc => ⟨by
    rintro (hm | ⟨j, bi', _, q1, q2, q3⟩)
    · have : X.M.t bi.b := by subst hld; exact hm
      exact hL.notM id bi hb hl (X.M.le _ this)
    · obtain ⟨s, g1, g2⟩ := hB'i j _ q1
      exact hL.dist s id bi' bi (fun e => hid (e ▸ List.mem_of_getElem? g1)) g2 hb (sg s (List.mem_of_getElem? g1)).2.2 hl q2, hc⟩) i e o l z u
  have hRel : RelL M' B' pre w := {
    len := by rw [hB'l, hsl]
    bnd := fun i bi hi => by obtain ⟨s, _, k2⟩ := hB'i i _ hi; exact hL.bnd s bi k2
    mbnd := fun b hb => by
      rcases hb with hb | ⟨id, bi, _, k1, k2, _⟩
      · exact hL.mbnd b hb
      · rw [← k2]; exact hL.bnd id bi k1
    notM := fun i bi hi _ => hnM i bi hi
    dist := fun i j bi bj hij hi hj _ _ => hdst i j bi bj hij hi hj
    obj := fun i bo hi => by
      obtain ⟨s, k1, k2⟩ := hB'i i _ hi
      exact GLeO_rel hSr hB' hB'l hvw (sobj i s k1).2 (hL.obj s bo k2) }
  have hG : GlOk gl (Sr M' B' pre w) := by rw [← hgl]; exact hS.glob.mono hSr
  have hav' : RelVs B' (Sr M' B' pre w) args' (a1 ++ c.args.map a.eval ++ a2).toList := GLes_rel hSr hB' hB'l hvw _ _ _ hargs hvals
  have hrun := h.run w M' B' (a1 ++ c.args.map a.eval ++ a2) rfl hRel hG hav'
  intro next Q hn
  unfold Oper.wp
  rw [run_enter ho hc hfv h.callable, Oper.upon_enter]
  refine hrun.mono ?_
  rintro e w' ⟨u, B2, rfl, hfrm, hRel', hu, hfresh, hsame⟩
  -- behind it
  generalize hmd : post.length - pre.length = md at hK
  generalize hsf : sel ++ upTo md L.length = selF at hK
  have hsfl : selF.length = post.length := by rw [← hsf, List.length_append, upTo_length]; omega
  have hB2l : B2.length = post.length := hRel'.len
  have sf1 : ∀ (i s : Nat), selF[i]? = some s → (i < pre.length ∧ sel[i]? = some s) ∨ (pre.length ≤ i ∧ i < post.length ∧ s = L.length + (i - pre.length)) := by
    intro i s hs
    have hlt := (List.getElem?_eq_some_iff.1 hs).1
    rw [← hsf] at hs
    by_cases hi : i < sel.length
    · rw [List.getElem?_append_left hi] at hs
      exact .inl ⟨by omega, hs⟩
    · rw [List.getElem?_append_right (by omega), upTo_get _ _ _ (by omega)] at hs
      simp only [Option.some.injEq] at hs
      exact .inr ⟨by omega, by omega, by omega⟩
  have sf0 : ∀ (i s : Nat), sel[i]? = some s → selF[i]? = some s := by
    intro i s hs
    rw [← hsf, List.getElem?_append_left (List.getElem?_eq_some_iff.1 hs).1]
    exact hs
  have hdnF : DN selF := by
    intro i j x hij hi hj
    rcases sf1 i x hi with ⟨k1, k2⟩ | ⟨k1, k2, k3⟩ <;> rcases sf1 j x hj with ⟨q1, q2⟩ | ⟨q1, q2, q3⟩
    · exact hdn i j x hij k2 q2
    · have := (sg x (List.mem_of_getElem? k2)).2.1; omega
    · have := (sg x (List.mem_of_getElem? q2)).2.1; omega
    · omega
  generalize hL1 : purgeLs sel pre L ++ List.replicate md AO.dead = L1 at hK
  have hL1l : L1.length = L.length + md := by rw [← hL1, List.length_append, purgeLs_length, List.length_replicate]
  have hL1g : ∀ j, j < L.length → getO L1 j = purgeOs sel pre (getO L j) := by
    intro j hj
    rw [← hL1, ← purgeLs_get]
    have : ∀ (l r : List AO) (j : Nat), j < l.length → getO (l ++ r) j = getO l j := by
      intro l r
      induction l with
      | nil => intro j h; simp at h
      | cons x l ih =>
        intro j h
        cases j with
        | zero => rfl
        | succ j => simpa [getO] using ih j (by simpa using h)
    exact this _ _ _ (by rw [purgeLs_length]; exact hj)
  have hltF : ∀ s ∈ selF, s < L1.length := by
    intro s hs
    obtain ⟨i, hi, e⟩ := List.mem_iff_getElem.1 hs
    rcases sf1 i s (by rw [List.getElem?_eq_getElem hi, e]) with ⟨_, k2⟩ | ⟨k1, k2, k3⟩
    · have := (sg s (List.mem_of_getElem? k2)).2.1; omega
    · omega
  obtain ⟨hp1, hp2⟩ := getO_putG selF selF post L1 hltF hdnF hsfl
  generalize hL2 : putG selF selF post L1 = L2 at hK hp1 hp2
  have hL2l : L2.length = L.length + md := by rw [← hL2, putG_length, hL1l]
  -- the blocks
  let B1 := setB sel pre B2 B
  have hB1l : B1.length = L.length := by rw [setB_length, hL.len]
  let B3 := B1 ++ B2.drop pre.length
  have hB3l : B3.length = L.length + md := by simp only [B3, List.length_append, hB1l, List.length_drop]; omega
  obtain ⟨hb1, hb2⟩ := setB_get sel pre B2 B (fun s hs => by rw [hL.len]; exact (sg s hs).2.1) hdn hsl (by omega)
  have hb3 : ∀ j, j < L.length → j ∉ sel → B3[j]? = B[j]? := by
    intro j hj hjs
    simp only [B3]
    rw [List.getElem?_append_left (by omega)]
    exact hb1 j hjs
  have hb4 : ∀ (i s : Nat), selF[i]? = some s → B3[s]? = B2[i]? := by
    intro i s hs
    rcases sf1 i s hs with ⟨k1, k2⟩ | ⟨k1, k2, k3⟩
    · have := (sg s (List.mem_of_getElem? k2)).2.1
      simp only [B3]
      rw [List.getElem?_append_left (by omega)]
      by_cases hk : (getO pre i).kd = 3
      · exact (hb2 i s k2).1 hk
      · have e1 : B1[s]? = B[s]? := (hb2 i s k2).2 hk
        rw [e1, hsame i k1 (by rw [h.kinds i k1]; exact hk), hB' i s k2]
    · simp only [B3]
      rw [k3, List.getElem?_append_right (by omega), hB1l, List.getElem?_drop]
      congr 1; omega
  have hcov : ∀ id, id < L.length + md → (id < L.length ∧ id ∉ sel ∧ id ∉ selF) ∨ ∃ i, i < post.length ∧ selF[i]? = some id := by
    intro id hid
    by_cases hs : id ∈ selF
    · obtain ⟨i, hi, e⟩ := List.mem_iff_getElem.1 hs
      exact .inr ⟨i, by omega, by rw [List.getElem?_eq_getElem hi, e]⟩
    · have h1 : id ∉ sel := fun hm => hs (by rw [← hsf]; exact List.mem_append_left _ hm)
      refine .inl ⟨?_, h1, hs⟩
      by_cases hlt : id < L.length
      · exact hlt
      · exfalso
        refine hs ?_
        have hi : pre.length + (id - L.length) < selF.length := by omega
        rcases sf1 _ _ (List.getElem?_eq_getElem hi) with ⟨k1, _⟩ | ⟨_, _, k3⟩
        · omega
        · have : selF[pre.length + (id - L.length)] = id := by omega
          exact this ▸ List.getElem_mem hi
  have hnsel : ∀ id, id ∉ selF → id < L.length → getO L2 id = purgeOs sel pre (getO L id) := fun id hid hlt => by rw [hp1 id hid, hL1g id hlt]
  have hoL : ∀ (i s : Nat), selF[i]? = some s → (getO L2 s).live = true ∧ (getO L2 s).kd = (getO post i).kd := by
    intro i s hs
    have hi : i < post.length := by rw [← hsfl]; exact (List.getElem?_eq_some_iff.1 hs).1
    rw [hp2 i s hs, (renGO_live _ _).1, (renGO_live _ _).2]
    exact ⟨h.liveq i hi, rfl⟩
  have hidlt : ∀ (id : Nat) (bo : Option BI), B3[id]? = some bo → id < L.length + md := fun id bo e => by rw [← hB3l]; exact (List.getElem?_eq_some_iff.1 e).1
  -- what may be written now
  have hmuB : ∀ t b, MU X.M B3 L2 t b → (∃ b0, b0 = b ∧ b < w.heap.size → MU X.M B L t b) ∧ (b < w.heap.size → MU X.M B L t b) := by
    intro t b hm
    have key : b < w.heap.size → MU X.M B L t b := by
      intro hlt
      have fin : ∀ (id : Nat) (bi : BI), (t = true → X.M.ro ≤ id) → B3[id]? = some (some bi) → bi.b = b → (getO L2 id).live = true → MU X.M B L t b := by
        intro id bi g0 g1 g2 g3
        rcases hcov id (hidlt id _ g1) with ⟨k1, k2, k3⟩ | ⟨i, k1, k2⟩
        · rw [hb3 id k1 k2] at g1
          rw [hnsel id k3 k1, (purgeOs_live _ _ _).1] at g3
          cases t with
          | false => exact .inr ⟨id, bi, g1, g2, g3⟩
          | true => exact .inr ⟨id, bi, g0 rfl, g1, g2, g3⟩
        · rw [hb4 i id k2] at g1
          rcases hfresh i bi g1 with q1 | ⟨j, bj, q1, q2⟩
          · omega
          · obtain ⟨s, r1, r2⟩ := hB'i j _ q1
            have := sg s (List.mem_of_getElem? r1)
            cases t with
            | false => exact .inr ⟨s, bj, r2, q2.trans g2, this.2.2⟩
            | true => exact .inr ⟨s, bj, this.1, r2, q2.trans g2, this.2.2⟩
      cases t with
      | false =>
        rcases hm with hm | ⟨id, bi, g1, g2, g3⟩
        · exact .inl hm
        · exact fin id bi (by simp) g1 g2 g3
      | true =>
        rcases hm with hm | ⟨id, bi, g0, g1, g2, g3⟩
        · exact .inl hm
        · exact fin id bi (fun _ => g0) g1 g2 g3
    exact ⟨⟨b, fun hb => key hb.2⟩, key⟩
  have hblk : ∀ b, Bl B' b → MU X.M B L true b := by
    rintro b ⟨i, bi, q1, q2⟩
    obtain ⟨s, k1, k2⟩ := hB'i i _ q1
    have := sg s (List.mem_of_getElem? k1)
    exact .inr ⟨s, bi, this.1, k2, q2, this.2.2⟩
  have hle : (Sr X.M B L w).le (Sr X.M B3 L2 w') := by
    intro t b q v hh
    have hlt := block_lt hh.2
    refine ⟨fun hm => hh.1 ((hmuB t b hm).2 hlt), ?_⟩
    rw [World.cell?_of_block (w := w) (hfrm.block b hlt fun hbl => hh.1 (by
      cases t with
      | false => exact MU_le true b (hblk b hbl)
      | true => exact hblk b hbl))]
    exact hh.2
  have hbackF : ∀ b q v, Sr M' B2 post w' false b q v → Sr X.M B3 L2 w' false b q v := by
    rintro b q v hh
    refine ⟨fun hm => hh.1 ?_, hh.2⟩
    rcases hm with hm | ⟨id, bi, g1, g2, g3⟩
    · exact .inl (.inl hm)
    · rcases hcov id (hidlt id _ g1) with ⟨k1, k2, k3⟩ | ⟨i, k1, k2⟩
      · rw [hb3 id k1 k2] at g1
        rw [hnsel id k3 k1, (purgeOs_live _ _ _).1] at g3
        exact .inl (.inr ⟨id, bi, k2, g1, g2, g3⟩)
      · rw [hb4 i id k2] at g1
        exact .inr ⟨i, bi, g1, g2, h.liveq i k1⟩
  have hback : ld = false → (Sr M' B2 post w').le (Sr X.M B3 L2 w') := by
    intro hld t b q v hh
    cases t with
    | false => exact hbackF b q v hh
    | true =>
      refine ⟨fun hm => hh.1 ?_, hh.2⟩
      rcases hm with hm | ⟨id, bi, g0, g1, g2, g3⟩
      · exact .inl (hT1 b hm)
      · rcases hcov id (hidlt id _ g1) with ⟨k1, k2, k3⟩ | ⟨i, k1, k2⟩
        · rw [hb3 id k1 k2] at g1
          rw [hnsel id k3 k1, (purgeOs_live _ _ _).1] at g3
          refine .inl ?_
          show T b
          subst hld
          exact .inr ⟨id, bi, k2, g0, g1, g2, g3⟩
        · rw [hb4 i id k2] at g1
          exact .inr ⟨i, bi, Nat.zero_le _, g1, g2, h.liveq i k1⟩
  have hcd : ∀ {p : Prop}, (ld = true → p) → ((Sr M' B2 post w').le (Sr X.M B3 L2 w') ∨ p) := by
    intro p hp
    cases hq : ld with
    | false => exact .inl (hback hq)
    | true => exact .inr (hp hq)
  have hren0 : ∀ (i : Nat) (x : Option BI), B2[i]? = some x → B3[nthD selF i]? = some x := by
    intro i x hx
    have hi : i < selF.length := by rw [hsfl, ← hB2l]; exact (List.getElem?_eq_some_iff.1 hx).1
    rw [nthD_eq (List.getElem?_eq_getElem hi), hb4 i _ (List.getElem?_eq_getElem hi)]
    exact hx
  have hble : Ble B1 B3 := fun id x hx => by
    simp only [B3]
    rw [List.getElem?_append_left (List.getElem?_eq_some_iff.1 hx).1]
    exact hx
  have hS2 : St X B3 (purgeEs sel pre env) L2 a w' := {
    relL := {
      len := by rw [hB3l, hL2l]
      bnd := fun id bi hb => by
        rcases hcov id (hidlt id _ hb) with ⟨k1, k2, k3⟩ | ⟨i, k1, k2⟩
        · rw [hb3 id k1 k2] at hb
          exact Nat.lt_of_lt_of_le (hL.bnd id bi hb) hfrm.size
        · rw [hb4 i id k2] at hb
          exact hRel'.bnd i bi hb
      mbnd := fun b hb => Nat.lt_of_lt_of_le (hL.mbnd b hb) hfrm.size
      notM := fun id bi hb hl => by
        rcases hcov id (hidlt id _ hb) with ⟨k1, k2, k3⟩ | ⟨i, k1, k2⟩
        · rw [hb3 id k1 k2] at hb
          rw [hnsel id k3 k1, (purgeOs_live _ _ _).1] at hl
          exact hL.notM id bi hb hl
        · rw [hb4 i id k2] at hb
          exact fun hm => hRel'.notM i bi hb (h.liveq i k1) (.inl hm)
      dist := fun id jd bi bj hij hi hj hli hlj => by
        rcases hcov id (hidlt id _ hi) with ⟨k1, k2, k3⟩ | ⟨i, k1, k2⟩ <;> rcases hcov jd (hidlt jd _ hj) with ⟨q1, q2, q3⟩ | ⟨j, q1, q2⟩
        · rw [hb3 id k1 k2] at hi
          rw [hb3 jd q1 q2] at hj
          rw [hnsel id k3 k1, (purgeOs_live _ _ _).1] at hli
          rw [hnsel jd q3 q1, (purgeOs_live _ _ _).1] at hlj
          exact hL.dist id jd bi bj hij hi hj hli hlj
        · rw [hb3 id k1 k2] at hi
          rw [hnsel id k3 k1, (purgeOs_live _ _ _).1] at hli
          rw [hb4 j jd q2] at hj
          exact fun e => hRel'.notM j bj hj (h.liveq j q1) (.inr ⟨id, bi, k2, hi, e, hli⟩)
        · rw [hb4 i id k2] at hi
          rw [hb3 jd q1 q2] at hj
          rw [hnsel jd q3 q1, (purgeOs_live _ _ _).1] at hlj
          exact fun e => hRel'.notM i bi hi (h.liveq i k1) (.inr ⟨jd, bj, q2, hj, e.symm, hlj⟩)
        · rw [hb4 i id k2] at hi
          rw [hb4 j jd q2] at hj
          exact hRel'.dist i j bi bj (fun e => hij (by subst e; exact Option.some.inj (k2.symm.trans q2))) hi hj (h.liveq i k1) (h.liveq j q1)
      obj := fun id bo hb => by
        rcases hcov id (hidlt id _ hb) with ⟨k1, k2, k3⟩ | ⟨i, k1, k2⟩
        · rw [hb3 id k1 k2] at hb
          rw [hnsel id k3 k1]
          refine RelO.ble hble (purgeOs_rel sel pre B2 B _ _ (by omega) ?_)
          refine RelO_keep hle _ _ (fun hl b e => ?_) (hL.obj id bo hb)
          subst e
          refine hfrm.block b.b (hL.bnd id b hb) ?_
          rintro ⟨i, bi, h1, h2⟩
          obtain ⟨s, k1, k2'⟩ := hB'i i _ h1
          exact hL.dist s id bi b (fun e => k2 (e ▸ List.mem_of_getElem? k1)) k2' hb (sg s (List.mem_of_getElem? k1)).2.2 hl h2
        · rw [hb4 i id k2] at hb
          rw [hp2 i id k2]
          exact renGO_rel hbackF (fun i x hx => hren0 i _ hx) hren0 _ _ (h.liveq i k1) (hcd fun hl => ntL_get i (hnt hl).1) (hRel'.obj i bo hb) }
    glob := hS.glob.mono hle
    relE := fun t => RelSl.ble hble (purgeEs_rel hle sel pre B2 B env t (by omega) (hS.relE t))
    below := by
      refine ⟨hfrm.os.trans hS.below.os, hfrm.tape.trans hS.below.tape, hfrm.output.trans hS.below.output, Nat.le_trans hS.below.size hfrm.size, fun k hk hm => ?_⟩
      rw [← hS.below.block k hk hm]
      refine hfrm.block k (Nat.lt_of_lt_of_le hk hS.below.size) ?_
      rintro ⟨i, bi, h1, h2⟩
      obtain ⟨s, k1, k2⟩ := hB'i i _ h1
      have := sg s (List.mem_of_getElem? k1)
      rcases hS.fresh s bi this.1 k2 this.2.2 with h4 | h4
      · omega
      · exact hm (h2 ▸ h4)
    fresh := fun id bi h1 hb hl => by
      rcases hcov id (hidlt id _ hb) with ⟨k1, k2, k3⟩ | ⟨i, k1, k2⟩
      · rw [hb3 id k1 k2] at hb
        rw [hnsel id k3 k1, (purgeOs_live _ _ _).1] at hl
        exact hS.fresh id bi h1 hb hl
      · rw [hb4 i id k2] at hb
        rcases hfresh i bi hb with q1 | ⟨j, bj, q1, q2⟩
        · exact .inl (Nat.le_trans hS.below.size q1)
        · obtain ⟨s, r1, r2⟩ := hB'i j _ q1
          have := sg s (List.mem_of_getElem? r1)
          rw [← q2]
          exact hS.fresh s bj this.1 r2 this.2.2
    old := fun id hid => by
      have hlt : id < L.length := Nat.lt_of_lt_of_le hid hS.rol
      have hns : id ∉ sel := fun hm => by have := hro' id hm; omega
      have hnf : id ∉ selF := fun hm => by
        obtain ⟨i, hi, e⟩ := List.mem_iff_getElem.1 hm
        rcases sf1 i id (by rw [List.getElem?_eq_getElem hi, e]) with ⟨_, k2⟩ | ⟨_, _, k3⟩
        · exact hns (List.mem_of_getElem? k2)
        · omega
      rw [hb3 id hlt hns, hnsel id hnf hlt, (purgeOs_live _ _ _).1]
      exact hS.old id hid
    rol := by rw [hL2l]; have := hS.rol; omega
    l0 := by rw [hL2l]; have := hS.l0; omega
    knd := fun id h0 h1 => by
      have hlt : id < L.length := Nat.lt_of_lt_of_le h0 hS.l0
      have hk := hS.knd id h0 hlt
      by_cases hs : id ∈ sel
      · obtain ⟨i, hi, e⟩ := List.mem_iff_getElem.1 hs
        have hsi : sel[i]? = some id := by rw [List.getElem?_eq_getElem hi, e]
        have hi' : i < pre.length := by omega
        have hkk := (GLeO_live (sobj i id hsi).2).2.2
        rw [(hoL i id (sf0 i id hsi)).2, h.kinds i hi', ← hkk, hb4 i id (sf0 i id hsi)]
        rcases hk with hk | ⟨hk, hk2⟩
        · exact .inl hk
        · refine .inr ⟨hk, fun h3 => ?_⟩
          rw [hsame i hi' (by rw [h.kinds i hi', ← hkk]; exact h3), hB' i id hsi]
          exact hk2 h3
      · have hnf : id ∉ selF := fun hm => by
          obtain ⟨i, hi, e⟩ := List.mem_iff_getElem.1 hm
          rcases sf1 i id (by rw [List.getElem?_eq_getElem hi, e]) with ⟨_, k2⟩ | ⟨_, _, k3⟩
          · exact hs (List.mem_of_getElem? k2)
          · omega
        rw [hnsel id hnf hlt, (purgeOs_live _ _ _).2, hb3 id hlt hs]
        exact hk
    dfr := hS.dfr
    sz := hS.sz }
  refine hn _ _ _ _ _ _ hK (purgeEs_keys _ _ _) hS2 ?_
  have hnr : ∀ (res : List AV), ntAs res → ntA (retA res) := by
    intro res hr
    match res, hr with
    | [], hr => simp [retA, ntA, ntAs]
    | [x], hr => exact hr.1
    | x :: y :: r, hr => simpa [retA, ntA] using hr
  rw [← renG_ret]
  exact renG_rel hbackF (fun i x hx => hren0 i _ hx) hren0 _ _ (hcd fun hl => hnr _ (hnt hl).2) hu
end
end Go.VA

namespace Go.VA
open Go Go.RowKit

def forceI (sel : List Nat) (i : Nat) (K : Nat → Prop) : Prop := match nthG sel i with | some s => K s | none => K 0
theorem forceI_eq (sel : List Nat) (i : Nat) (K : Nat → Prop) : forceI sel i K = K (nthD sel i) := by
  unfold forceI nthD
  cases nthG sel i <;> rfl
mutual
def renK (sel : List Nat) : AV → (AV → Prop) → Prop
  | .ptr i o, K => forceI sel i fun i => K (.ptr i o)
  | .pe i e k j, K => forceI sel i fun i => K (.pe i e k j)
  | .own i e o l, K => forceI sel i fun i => K (.own i e o l)
  | .mpv i, K => forceI sel i fun i => K (.mpv i)
  | .agx xs, K => renKs sel xs fun xs => K (.agx xs)
  | .tup xs, K => renKs sel xs fun xs => K (.tup xs)
  | .fn f xs ys, K => renKs sel xs fun xs => renKs sel ys fun ys => K (.fn f xs ys)
  | .gd .., K => K .any
  | .any, K => K .any
  | .c x, K => K (.c x)
  | .ag xs, K => K (.ag xs)
  | .sp t xs k, K => K (.sp t xs k)
  | .ub p, K => K (.ub p)
def renKs (sel : List Nat) : List AV → (List AV → Prop) → Prop
  | [], K => K []
  | x :: r, K => renK sel x fun x => renKs sel r fun r => K (x :: r)
end
mutual
theorem renK_eq (sel : List Nat) : ∀ (x : AV) (K : AV → Prop), renK sel x K = K (renG sel x)
  | .ptr i o, K => by simp only [renK, renG]; rw [forceI_eq]
  | .pe i e k j, K => by simp only [renK, renG]; rw [forceI_eq]
  | .own i e o l, K => by simp only [renK, renG]; rw [forceI_eq]
  | .mpv i, K => by simp only [renK, renG]; rw [forceI_eq]
  | .agx xs, K => by simp only [renK, renG]; rw [renKs_eq sel xs]
  | .tup xs, K => by simp only [renK, renG]; rw [renKs_eq sel xs]
  | .fn f xs ys, K => by simp only [renK, renG]; rw [renKs_eq sel xs, renKs_eq sel ys]
  | .gd .., K => by simp only [renK, renG]
  | .any, K => by simp only [renK, renG]
  | .c x, K => by simp only [renK, renG]
  | .ag xs, K => by simp only [renK, renG]
  | .sp t xs k, K => by simp only [renK, renG]
  | .ub p, K => by simp only [renK, renG]
theorem renKs_eq (sel : List Nat) : ∀ (xs : List AV) (K : List AV → Prop), renKs sel xs K = K (renGs sel xs)
  | [], K => by simp only [renKs, renGs]
  | x :: r, K => by simp only [renKs, renGs]; rw [renK_eq sel x, renKs_eq sel r]
end
def renOK (sel : List Nat) : AO → (AO → Prop) → Prop
  | .box xs, K => renKs sel xs fun xs => K (.box xs)
  | .row e n f, K => K (.row e n f)
  | .frz e n f, K => K (.frz e n f)
  | .mp m, K => K (.mp m)
  | .amb vs xs, K => K (.amb vs xs)
  | .dead, K => K .dead
theorem renOK_eq (sel : List Nat) (x : AO) (K : AO → Prop) : renOK sel x K = K (renGO sel x) := by
  cases x <;> simp only [renOK, renGO]
  rw [renKs_eq]
def putGK (selF : List Nat) : List Nat → List AO → List AO → (List AO → Prop) → Prop
  | [], _, L, K => K L
  | s :: r, post, L, K => match post with
    | [] => K L
    | y :: pr => renOK selF y fun y => putGK selF r pr (setO L s y) K
theorem putGK_eq (selF : List Nat) : ∀ (sel : List Nat) (post L : List AO) (K : List AO → Prop), putGK selF sel post L K = K (putG selF sel post L)
  | [], _, _, _ => by simp [putGK, putG]
  | _ :: _, [], _, _ => by simp [putGK, putG]
  | s :: r, y :: pr, L, K => by simp only [putGK, putG]; rw [renOK_eq, putGK_eq selF r pr]
def appL : List AO → List AO → List AO
  | [], r => r
  | x :: l, r => x :: appL l r
theorem appL_eq : ∀ l r, appL l r = l ++ r
  | [], r => rfl
  | x :: l, r => by simp [appL, appL_eq l r]
def deads : Nat → List AO
  | 0 => []
  | n + 1 => .dead :: deads n
theorem deads_eq : ∀ n, deads n = List.replicate n .dead
  | 0 => rfl
  | n + 1 => by simp [deads, List.replicate_succ, deads_eq n]
def appA : List AV → List AV → List AV
  | [], r => r
  | x :: l, r => x :: appA l r
theorem appA_eq : ∀ l r, appA l r = l ++ r
  | [], r => rfl
  | x :: l, r => by simp [appA, appA_eq l r]
def allGe (ro : Nat) : List Nat → Bool
  | [] => true
  | s :: r => match Nat.ble ro s with | true => allGe ro r | false => false
theorem allGe_spec {ro : Nat} : ∀ {l : List Nat}, allGe ro l = true → ∀ s ∈ l, ro ≤ s
  | [], _, s, h => by simp at h
  | x :: r, h, s, hs => by
    simp only [allGe] at h
    split at h
    · rename_i h0
      rcases List.mem_cons.1 hs with rfl | hs
      · exact Nat.le_of_ble_eq_true h0
      · exact allGe_spec h s hs
    · simp at h
/-- the objects that a call is handed -/
def selU (pre L : List AO) (args' args : List AV) : List Nat := selFrom (expP pre L (expP pre L (pairAs args' args []))) (lenO pre) 0
def condG (ld : Bool) (ro : Nat) (pre L : List AO) (args' args : List AV) : Prop :=
  forceNs (selU pre L args' args) fun sel => distN sel = true ∧ allGe ro sel = true ∧ GLeL (viewU ld sel L) sel L 0 pre ∧ GLes (viewU ld sel L) sel args' args
def ntG (ld : Bool) (post : List AO) (res : List AV) : Prop := match ld with | true => ntL post ∧ ntAs res | false => True
def afterG (pre post : List AO) (res args' args : List AV) (env : Env) (L : List AO) (K : AV → Env → List AO → Prop) : Prop :=
  forceNs (selU pre L args' args) fun sel => forceNs (appN sel (upTo (lenO post - lenO pre) (lenO L))) fun selF =>
    putGK selF selF post (appL (purgeLs sel pre L) (deads (lenO post - lenO pre))) fun L2 => forceL L2 fun L2 => renKs selF res fun rs => K (retA rs) (purgeEs sel pre env) L2

section
variable {P : Program} {tb : TB} {gl : Gl}
/-- a call that turns objects, and hands back new ones; ld: what it reads may be rows of the caller's own -/
theorem xc_g {f : Nat} {pre post : List AO} {args' res : List AV} (h : GCall P gl f pre args' post res) (ld : Bool) {ro : Nat} {first cap args : List AV} {env : Env} {L : List AO} {K : AV → Env → List AO → Prop}
    (hc : condG ld ro pre L args' (appA first (appA args cap))) (hnt : ntG ld post res)
    (hK : afterG pre post res args' (appA first (appA args cap)) env L K) : XCall P gl ro (.fn f first cap) args env L K := by
  unfold condG at hc
  unfold afterG at hK
  rw [forceNs_eq] at hc hK
  rw [forceNs_eq, putGK_eq, forceL_eq, renKs_eq, appN_eq, appL_eq, deads_eq, lenO_eq, lenO_eq, lenO_eq] at hK
  obtain ⟨h1, h2, h3, h4⟩ := hc
  rw [appA_eq, appA_eq, ← List.append_assoc] at h3 h4 h1 h2 hK
  exact xc_g_core h ld _ h1 (allGe_spec h2) (by unfold selU; rw [selFrom_length, lenO_eq]) h3 h4 (fun hl => by subst hl; exact hnt) hK

def allLive : List AO → Bool
  | [] => true
  | x :: r => match x.live with | true => allLive r | false => false
theorem allLive_get : ∀ {l : List AO}, allLive l = true → ∀ i, i < l.length → (getO l i).live = true
  | [], _, i, h => by simp at h
  | x :: r, h, i, hi => by
    simp only [allLive] at h
    split at h
    · rename_i h0
      cases i with
      | zero => exact h0
      | succ i => exact allLive_get h i (by simpa using hi)
    · simp at h
theorem gcall_of_vcb (htb : TbOk P tb) (hmix : P.follows .mixedOrders = true) {f : Nat} {fn : Func} {c : Code} (hf : P.funcs[f]? = some fn) (hb : fn.body = some c)
    (hname : (fn.name == "runtime.NumGoroutine") = false) (hok : codeOk fn.ntmps c = true) {pre post : List AO} {args res : List AV} (hargs' : Nat.ble args.length fn.ntmps = true) (hkd : kdsOk pre post = true)
    (hlq : allLive post = true)
    (h : bndOs pre → gbnds args → crossK fn.results.toList c fun U => vc P tb gl 0 pre.length U c (envOf 0 args) pre (EndG tb fn.results.toList pre.length post res)) : GCall P gl f pre args post res :=
  gcall_of_vc htb hmix hf hb hname hok hargs' hkd (allLive_get hlq) h
end
end Go.VA

namespace Go.VA
open Go Go.RowKit

theorem lenL_eq : ∀ l : List AO, lenL l = l.length
  | [] => rfl
  | _ :: r => by simp [lenL, lenL_eq r]
theorem refE_self {k n : Nat} : ∀ (env env0 : Env) (ws : List Nat), nodupE ws env = true → allLtE n env = true → (∀ t, t ∉ ws → get env0 t = get env t) → RefE env0 k n env
  | [], _, _, _, _, _ => trivial
  | (s, x) :: r, env0, ws, h, hl, hg => by
    simp only [nodupE] at h
    split at h
    · simp at h
    · rename_i hm
      have hs : s ∉ ws := fun e => by rw [memN_spec.2 e] at hm; simp at hm
      simp only [allLtE] at hl
      split at hl
      · rename_i hx
        refine ⟨⟨?_, hx⟩, refE_self r env0 (s :: ws) h hl fun t ht => ?_⟩
        · rw [hg s hs]
          exact LeE.of (Le.of_eq (by simp [get]))
        · simp only [List.mem_cons, not_or] at ht
          rw [hg t ht.2]
          simp only [get]
          split
          · rename_i e; exact absurd (Nat.beq_spec e).symm ht.1
          · rfl
      · simp at hl
theorem leAs_self {k n : Nat} : ∀ xs : List AV, AV.lts n xs = true → LeAs k n xs xs
  | [], _ => trivial
  | x :: xs, h => by
    simp only [AV.lts] at h
    split at h
    · rename_i hx; exact ⟨⟨LeE.of (Le.refl x), hx⟩, leAs_self xs h⟩
    · simp at h
theorem refL_self {q n : Nat} : ∀ L : List AO, allLtO n L = true → RefL q n L L
  | [], _ => trivial
  | x :: r, h => by
    simp only [allLtO] at h
    split at h
    · rename_i hx
      refine ⟨?_, refL_self r h⟩
      cases x with
      | box xs => exact leAs_self xs hx
      | row e k g => exact ⟨rfl, rfl, fun i _ => LeCs.refl _⟩
      | frz e k g => exact ⟨rfl, rfl, fun i _ => LeCs.refl _⟩
      | mp m => exact LeMs.refl m
      | amb vs xs => exact ⟨rfl, leAs_self xs hx⟩
      | dead => trivial
    · simp at h
theorem refR_self : ∀ (k : Nat) (L : List AO), k ≤ L.length → RefR k L L
  | 0, _, _ => trivial
  | k + 1, [], h => by simp at h
  | k + 1, x :: r, h => ⟨rfl, refR_self k r (by simpa using h)⟩
theorem RefS.self {ro n0 : Nat} {env : Env} {L : List AO} (h : selfOk ro n0 env L = true) : RefS ro n0 env L (env, L) := by
  unfold selfOk at h
  split at h
  · simp at h
  · rename_i h1
    split at h
    · simp at h
    · rename_i h2
      split at h
      · simp at h
      · rename_i h3
        split at h
        · simp at h
        · rename_i h4
          split at h
          · simp at h
          · rename_i h5
            rw [lenL_eq] at h3 h4 h5 h
            exact ⟨⟨refE_self env env [] h1 h3 fun _ _ => rfl, refL_self L h4, refR_self ro L (Nat.le_of_ble_eq_true h5), h⟩, h2⟩
theorem Then.mk' {s : Env × List AO} {K : Env → List AO → Prop} (h : K s.1 s.2) : Then s K := ⟨h⟩
end Go.VA

namespace Go.VA
open Go Go.RowKit
section
variable {P : Program} {gl : Gl}
/-- a new row that is handed back, as data that stays -/
theorem ACall.of_gcall {f : Nat} {args : List AV} {esz n : Nat} {g : Nat → List C} (h : GCall P gl f [] args [.row esz n g] [.own 0 esz 0 n]) : ACall P gl f args [] (.c (.sl false esz n (fun i => g (0 + i)))) where
  callable := h.callable
  closed := rfl
  run := fun w M B vals hro hL hG hv => by
    have hB : B = [] := List.length_eq_zero_iff.1 hL.len
    subst hB
    refine (h.run w M [] vals hro hL hG hv).mono fun e w' ⟨u, B', he, hf, hrel, hu, _, _⟩ => ⟨u, he, ?_, ?_⟩
    · have : Frm (fun _ => False) w w' := ⟨hf.os, hf.tape, hf.output, hf.size, fun k hk hm => hf.block k hk fun ⟨id, bi, h1, _⟩ => by simp at h1⟩
      exact this.below
    · simp only [RelV]
      have hle : (Sr M B' [.row esz n g] w').le (Sr M [] [] w') := fun t b o u hh => ⟨fun hm => hh.1 (by
        cases t with
        | false => rcases hm with hm | ⟨id, bi, h1, _⟩
                   · exact .inl hm
                   · simp at h1
        | true => rcases hm with hm | ⟨id, bi, _, h1, _⟩
                  · exact .inl hm
                  · simp at h1), hh.2⟩
      refine viewE_sound (sel := []) hrel hle (fun id bi _ hb hl o u hc => ⟨?_, hc⟩) 0 esz 0 n _ u ?_ hu
      · rintro (hm | ⟨j, bj, h1, _⟩)
        · exact hrel.notM id bi hb hl hm
        · simp at h1
      · simp [viewE, getO, memN]
/-- a contract for more that is known -/
theorem ACall.leA {f : Nat} {args args' : List AV} {r : AV} (h : ACall P gl f args [] r) (hle : ∀ (B : List (Option BI)) (S : Rd) us, RelVs B S args' us → RelVs B S args us) : ACall P gl f args' [] r where
  callable := h.callable
  closed := h.closed
  run := fun w M B vals hro hL hG hv => h.run w M B vals hro hL hG (hle _ _ _ hv)
end
section
variable {P : Program} {tb : TB} {gl : Gl}
def frzOK (ro id : Nat) (L : List AO) (K : List AO → Prop) : Prop := match getO L id with
  | .row e n f => match Nat.ble ro id with
    | true => K (setO L id (.frz e n f))
    | false => False
  | _ => False
/-- behind a call, a row of the caller's own is written no more -/
theorem xc_frz {f : AV} {args : List AV} {ro : Nat} {env : Env} {L : List AO} {K : AV → Env → List AO → Prop} (id : Nat) (h : XCall P gl ro f args env L fun x env' L' => frzOK ro id L' fun L' => K x env' L') : XCall P gl ro f args env L K where
  h X B a w o c fo hgl hro hS ho hc hf hargs := by
    intro next Q hn
    refine h.h X B a w o c fo hgl hro hS ho hc hf hargs next Q ?_
    intro x env' L' B' u w' hK hk hS' hu
    unfold frzOK at hK
    split at hK
    · rename_i e n f hO
      split at hK
      · rename_i hb
        have hid : id < L'.length := live_lt (by rw [hO]; rfl)
        have hS2 := hS'.unlive (x := .frz e n f) (by rw [hro]; exact Nat.le_of_ble_eq_true hb) hid rfl (.inr (by rw [hO]; rfl)) (relO_frz hS'.relL hO)
        exact hn x env' _ B' u w' hK hk hS2 (RelV.mono (Ble.refl B') (Sr_unlive rfl) _ _ hu)
      · exact hK.elim
    · exact hK.elim
end
end Go.VA

namespace Go.VA
open Go Go.RowKit

/-- a value -/
inductive V where
  | mk (k i : Int) (s : ByteArray) (l : List V) (ks : List ByteArray) (tk to : Int) (sec : Bool)

namespace V
def k : V → Int | mk k _ _ _ _ _ _ _ => k
def i : V → Int | mk _ i _ _ _ _ _ _ => i
def s : V → ByteArray | mk _ _ s _ _ _ _ _ => s
def l : V → List V | mk _ _ _ l _ _ _ _ => l
def ks : V → List ByteArray | mk _ _ _ _ ks _ _ _ => ks
def tk : V → Int | mk _ _ _ _ _ tk _ _ => tk
def to : V → Int | mk _ _ _ _ _ _ to _ => to
def sec : V → Bool | mk _ _ _ _ _ _ _ sec => sec
/-- no value -/
def z : V := mk 0 0 ByteArray.empty [] [] 0 0 false
instance : Inhabited V := ⟨z⟩
theorem eta (v : V) : mk v.k v.i v.s v.l v.ks v.tk v.to v.sec = v := by cases v; rfl
theorem sz_mem {x : V} {v : V} (h : x ∈ v.l) : SizeOf.sizeOf x < SizeOf.sizeOf v := by
  cases v with
  | mk k i s l ks tk to sec =>
    have := List.sizeOf_lt_of_mem (show x ∈ l from h)
    simp
    omega
/-- by the elements -/
theorem ind {p : V → Prop} (h : ∀ v, (∀ x ∈ v.l, p x) → p v) (v : V) : p v := by
  have : ∀ n (v : V), SizeOf.sizeOf v < n → p v := by
    intro n
    induction n with
    | zero => intro v hv; omega
    | succ n ih => intro v hv; exact h v fun x hx => ih x (by have := sz_mem hx; omega)
  exact this _ v (Nat.lt_succ_self _)
end V

mutual
/-- what a function of a value, and of what it is of its elements, is -/
def V.fold {α : Type} (f : V → List α → α) : V → α
  | .mk k i s l ks tk to sec => f (.mk k i s l ks tk to sec) (V.foldL f l)
def V.foldL {α : Type} (f : V → List α → α) : List V → List α
  | [] => []
  | x :: r => V.fold f x :: V.foldL f r
end
theorem V.foldL_eq {α : Type} (f : V → List α → α) : ∀ l : List V, V.foldL f l = l.map (V.fold f)
  | [] => rfl
  | x :: r => by simp [V.foldL, V.foldL_eq f r]
theorem V.fold_eq {α : Type} (f : V → List α → α) (v : V) : V.fold f v = f v (v.l.map (V.fold f)) := by
  cases v; simp only [V.fold, V.l, V.foldL_eq]

def cS (s : ByteArray) : List C := [.v (.string s)]
abbrev rS (ks : List ByteArray) : Nat → List C := rowE cS ByteArray.empty ks

mutual
def cV0 : V → List C
  | .mk k i s l ks tk to sec => [.v (.int .i64 k), .v (.int .i64 i), .v (.string s), .sl false 8 l.length (rV l), .sl false 1 ks.length (rS ks), .v (.int .i64 tk), .v (.int .i64 to), .v (.bool sec)]
def rV : List V → Nat → List C
  | [], _ => []
  | x :: _, 0 => cV0 x
  | _ :: r, n + 1 => rV r n
end

/-- the cells of a value; t, t': its elements, its keys are lent -/
def cVt (t t' : Bool) (v : V) : List C :=
  [.v (.int .i64 v.k), .v (.int .i64 v.i), .v (.string v.s), .sl t 8 v.l.length (rV v.l), .sl t' 1 v.ks.length (rS v.ks), .v (.int .i64 v.tk), .v (.int .i64 v.to), .v (.bool v.sec)]
abbrev cV (v : V) : List C := cVt false false v
theorem cV0_eq (v : V) : cV0 v = cV v := by cases v; rfl
theorem rV_get {l : List V} {i : Nat} (h : i < l.length) : rV l i = cV l[i] := by
  induction l generalizing i with
  | nil => simp at h
  | cons x r ih =>
    cases i with
    | zero => simp only [rV]; exact cV0_eq x
    | succ i => simp only [rV]; rw [ih (by simpa using h)]; rfl
theorem rV_getD {l : List V} {i : Nat} (h : i < l.length) : rV l i = cV (l.getD i V.z) := by
  rw [rV_get h]; simp [List.getD_eq_getElem?_getD, h]
theorem rV_drop (l : List V) (k i : Nat) : rV l (k + i) = rV (l.drop k) i := by
  induction k generalizing l with
  | zero => simp
  | succ k ih =>
    cases l with
    | nil => simp [rV]
    | cons x r => rw [show k + 1 + i = (k + i) + 1 from by omega]; simp only [rV, List.drop_succ_cons]; exact ih r
theorem rV_take {l : List V} {k i : Nat} (h : i < k) : rV (l.take k) i = rV l i := by
  induction k generalizing l i with
  | zero => omega
  | succ k ih =>
    cases l with
    | nil => simp
    | cons x r =>
      cases i with
      | zero => simp [rV]
      | succ i => simp only [List.take_succ_cons, rV]; exact ih (by omega)
theorem rV_snoc {l : List V} {x : V} {i : Nat} (h : i < l.length + 1) : catF 0 l.length (rV l) (nthC [cV x]) i = rV (l ++ [x]) i := by
  unfold catF
  by_cases hi : i < l.length
  · rw [if_pos hi, Nat.zero_add, rV_get hi, rV_get (by simp; omega)]
    congr 1
    rw [List.getElem_append_left hi]
  · rw [if_neg hi]
    obtain rfl : i = l.length := by omega
    rw [rV_get (by simp)]
    simp [nthC]
theorem rV_ex {l : List V} {c : Nat} (h : c < l.length) : ∃ x, l[c]? = some x ∧ x ∈ l ∧ rV l ((c : Int)).toNat = cV x :=
  ⟨l[c], List.getElem?_eq_getElem h, List.getElem_mem h, by rw [← rV_get h]; rfl⟩
theorem take_snoc? {α : Type} {l : List α} {c : Nat} {x : α} (h : l[c]? = some x) : l.take (c + 1) = l.take c ++ [x] := by
  obtain ⟨h1, h2⟩ := List.getElem?_eq_some_iff.1 h
  rw [List.take_succ_eq_append_getElem h1, h2]
theorem drop_cons? {α : Type} {l : List α} {c : Nat} {x : α} (h : l[c]? = some x) : l.drop c = x :: l.drop (c + 1) := by
  obtain ⟨h1, h2⟩ := List.getElem?_eq_some_iff.1 h
  rw [List.drop_eq_getElem_cons h1, h2]
/-- equal texts -/
def eqs (a b : ByteArray) : Bool := a.toList == b.toList
def eqSs : List ByteArray → List ByteArray → Bool
  | [], [] => true
  | x :: xs, y :: ys => eqs x y && eqSs xs ys
  | _, _ => false
def all2 {α β : Type} (p : α → β → Bool) : List α → List β → Bool
  | [], [] => true
  | x :: xs, y :: ys => p x y && all2 p xs ys
  | _, _ => false
theorem all2_map {α β γ : Type} (p : α → β → Bool) (g : γ → α) : ∀ (l : List γ) (m : List β), all2 p (l.map g) m = all2 (fun x y => p (g x) y) l m
  | [], [] => rfl
  | [], _ :: _ => rfl
  | _ :: _, [] => rfl
  | x :: l, y :: m => by simp [all2, all2_map p g l m]
theorem all2_len {α β : Type} {p : α → β → Bool} : ∀ {l : List α} {m : List β}, l.length ≠ m.length → all2 p l m = false
  | [], [], h => absurd rfl h
  | [], _ :: _, _ => rfl
  | _ :: _, [], _ => rfl
  | x :: l, y :: m, h => by simp only [all2]; rw [all2_len (l := l) (m := m) (by simpa using h)]; simp
theorem eqSs_len : ∀ {l m : List ByteArray}, l.length ≠ m.length → eqSs l m = false
  | [], [], h => absurd rfl h
  | [], _ :: _, _ => rfl
  | _ :: _, [], _ => rfl
  | x :: l, y :: m, h => by simp only [eqSs]; rw [eqSs_len (l := l) (m := m) (by simpa using h)]; simp
/-- the place of the first one -/
def fidx {α : Type} (p : α → Bool) : List α → Nat → Int
  | [], _ => -1
  | x :: r, i => if p x then i else fidx p r (i + 1)
theorem fidx_any {α : Type} (p : α → Bool) : ∀ (l : List α) (i : Nat), (decide (fidx p l i ≥ 0)) = l.any p
  | [], _ => by simp [fidx]
  | x :: r, i => by
    simp only [fidx, List.any_cons]
    by_cases h : p x = true
    · simp [h]
    · have := fidx_any p r (i + 1); simp [h] at this ⊢; exact this
theorem nthS {l : List ByteArray} {c : Nat} (h : c < l.length) : ∃ x, l[c]? = some x ∧ l.getD c ByteArray.empty = x :=
  ⟨l[c], List.getElem?_eq_getElem h, by simp [List.getD_eq_getElem?_getD, h]⟩
theorem take_get? {α : Type} {l : List α} {n c : Nat} {x : α} (hc : c < n) (h : l[c]? = some x) : (l.take n)[c]? = some x := by
  rw [List.getElem?_take, if_pos hc, h]
theorem rS_get {l : List ByteArray} {i : Nat} : rS l i = cS (l.getD i ByteArray.empty) := rfl
end Go.VA

namespace Go.VA
open Go Go.RowKit
/-! ### types -/
/-- a type: its kind, and of what -/
abbrev Ty := Int × Int
def cT (p : Ty) : List C := [.v (.int .i64 p.1), .v (.int .i64 p.2)]
def tA (p : Ty) : AV := .ag (cT p)
def chk (p : Ty) : Bool := !(decide (p.1 < 0) || decide (p.1 > 5) || decide (p.2 < 0) || decide (p.2 > 3) || (!(p.1 == 4 || p.1 == 5) && p.2 != 0))
def chkR (p : Ty) : Bool := if (decide (p.1 < 0) || decide (p.1 > 5) || decide (p.2 < 0) || decide (p.2 > 3)) then false else (p.2 == 0 || decide (p.1 > 3))
def errc (p : Ty) : Int := if chk p then 0 else 1
def wi (a b : Ty) : Bool := if (errc a != 0 || errc b != 0) then false else (b.1 == 0 && b.2 == 0 || a.1 == b.1 && a.2 == b.2 || a.1 == b.1 && b.2 == 0)
def wiR (a b : Ty) : Bool := if (!chkR a || !chkR b) then false else (b.1 == 0 || a.1 == b.1 && a.2 == b.2 || a.1 == b.1 && b.2 == 0)
def jo (a b : Ty) : Ty := if (errc a != 0 || errc b != 0 || a.1 != b.1) then (0, 0) else if (a.1 == b.1 && a.2 == b.2) then a else (a.1, 0)
def codeT (p : Ty) : Int := if chk p then IntKind.u8.wrap (bitsI .or .i64 (shlI .i64 p.1 3) p.2) else 255
def tys : List Ty := [(0, 0), (1, 0), (2, 0), (3, 0), (4, 0), (4, 1), (4, 2), (4, 3), (5, 0), (5, 1), (5, 2), (5, 3)]
theorem chk_mem {a : Ty} (h : chk a = true) : a ∈ tys := by
  obtain ⟨k, o⟩ := a
  simp only [chk, Bool.not_eq_true', Bool.or_eq_false_iff, decide_eq_false_iff_not, Bool.and_eq_false_imp, Bool.not_eq_true, bne_eq_false_iff_eq] at h
  obtain ⟨⟨⟨⟨h1, h2⟩, h3⟩, h4⟩, h5⟩ := h
  have hk : k = 0 ∨ k = 1 ∨ k = 2 ∨ k = 3 ∨ k = 4 ∨ k = 5 := by omega
  have ho : o = 0 ∨ o = 1 ∨ o = 2 ∨ o = 3 := by omega
  rcases hk with rfl | rfl | rfl | rfl | rfl | rfl <;> rcases ho with rfl | rfl | rfl | rfl <;> first | decide | (exfalso; revert h5; decide)
theorem chkR_eq (a : Ty) : chkR a = chk a := by
  obtain ⟨k, o⟩ := a
  rw [Bool.eq_iff_iff]
  simp only [chk, chkR]
  split
  · simp at *; omega
  · simp at *; omega
/-! ### values -/
namespace V
def t (v : V) : Ty := (v.tk, v.to)
end V
def nPairs (v : V) : Nat := min v.ks.length v.l.length
def nIt (v : V) : Nat := if v.k == 4 then v.l.length else if v.k == 5 then nPairs v else 0
theorem nPairs_le (v : V) : nPairs v ≤ v.l.length := by unfold nPairs; omega
theorem nPairs_le' (v : V) : nPairs v ≤ v.ks.length := by unfold nPairs; omega
theorem nIt_le (v : V) : nIt v ≤ v.l.length := by
  unfold nIt nPairs; split
  · omega
  · split <;> omega
theorem nIt_ks {v : V} (h : v.k = 5) : nIt v ≤ v.ks.length := by unfold nIt nPairs; rw [h]; simp; omega
/-- how many keys it has -/
def nKs (v : V) : Nat := if v.k != 5 then 0 else nPairs v
def items (v : V) : List V := v.l.take (nIt v)
def keys (v : V) : List ByteArray := v.ks.take (nKs v)
theorem items_len (v : V) : (items v).length = nIt v := by unfold items; have := nIt_le v; simp; omega
theorem items_mem {v x : V} (h : x ∈ items v) : x ∈ v.l := List.mem_of_mem_take h
theorem nKs_le (v : V) : nKs v ≤ v.ks.length := by unfold nKs nPairs; split <;> omega
theorem keys_len (v : V) : (keys v).length = nKs v := by unfold keys; have := nKs_le v; simp; omega

def weight : V → Int := V.fold fun v rs => (rs.take (nIt v)).foldl (fun n r => IntKind.i64.wrap (n + r)) 1
theorem weight_eq (v : V) : weight v = ((items v).map weight).foldl (fun n r => IntKind.i64.wrap (n + r)) 1 := by
  rw [weight, V.fold_eq, ← List.map_take]; rfl
def imax (a b : Int) : Int := if b > a then b else a
def depth : V → Int := V.fold fun v rs => IntKind.i64.wrap ((rs.take (nIt v)).foldl imax 0 + 1)
theorem depth_eq (v : V) : depth v = IntKind.i64.wrap (((items v).map depth).foldl imax 0 + 1) := by
  rw [depth, V.fold_eq, ← List.map_take]; rfl

/-- the same fields, elements aside -/
def flat (a b : V) : Bool := a.k == b.k && a.i == b.i && eqs a.s b.s && (a.tk == b.tk && a.to == b.to) && a.sec == b.sec && (a.l.length : Int) == b.l.length && eqSs a.ks b.ks
/-- what its kind has -/
def only (v : V) : V := .mk v.k (if v.k == 1 || v.k == 2 then v.i else 0) (if v.k == 3 then v.s else ByteArray.empty) (if v.k == 5 || v.k == 4 then v.l else []) (if v.k == 5 then v.ks else [])
  (if v.k == 6 then v.tk else 0) (if v.k == 6 then v.to else 0) v.sec
theorem only_k (v : V) : (only v).k = v.k := rfl
theorem only_i (v : V) : (only v).i = if v.k == 1 || v.k == 2 then v.i else 0 := rfl
theorem only_s (v : V) : (only v).s = if v.k == 3 then v.s else ByteArray.empty := rfl
theorem only_l (v : V) : (only v).l = if v.k == 5 || v.k == 4 then v.l else [] := rfl
theorem only_ks (v : V) : (only v).ks = if v.k == 5 then v.ks else [] := rfl
theorem only_tk (v : V) : (only v).tk = if v.k == 6 then v.tk else 0 := rfl
theorem only_to (v : V) : (only v).to = if v.k == 6 then v.to else 0 := rfl
theorem only_sec (v : V) : (only v).sec = v.sec := rfl
def keyOk (ks : List ByteArray) (c : Nat) (x : ByteArray) : Bool := decide ((x.size : Int) > 1024) || decide ((c : Int) > 0) && !(Op.bytesLess (ks.getD (IntKind.i64.wrap ((c : Int) - 1)).toNat ByteArray.empty).toList x.toList)
def keysOk (ks : List ByteArray) : List ByteArray → Nat → Bool
  | [], _ => true
  | x :: r, c => if keyOk ks c x then false else keysOk ks r (c + 1)
def shaped (v : V) : Bool :=
  if (decide (v.k < 0) || decide (v.k > 6) || !flat v (only v) || decide ((v.s.size : Int) > 1024) || decide ((v.l.length : Int) > 128)) then false
  else if v.k == 1 then shrI .i64 v.i 1 == 0
  else if v.k == 6 then errc v.t == 0
  else if v.k == 5 then (if (v.ks.length : Int) != v.l.length then false else keysOk v.ks v.ks 0)
  else true
/-- all of it, so deep at most -/
def allV : V → Int → Bool := V.fold fun v rs d => if (d == 0 || !shaped v) then false else rs.all fun r => r (IntKind.i64.wrap (d - 1))
theorem allV_eq (v : V) (d : Int) : allV v d = if (d == 0 || !shaped v) then false else v.l.all fun x => allV x (IntKind.i64.wrap (d - 1)) := by
  rw [allV, V.fold_eq]
  simp only [List.all_map]
  rfl
def checkV (v : V) : Int := if (!allV v 8 || decide (weight v > 512)) then 1 else 0

/-- v fits t -/
def fits : V → Ty → Bool := V.fold fun v rs t =>
  if errc t != 0 then false
  else if (t.1 == 0 || v.k == 0) then true
  else if v.k == 6 then wi v.t t
  else if v.k != t.1 then false
  else !((rs.take (nIt v)).any fun r => !(r (t.2, 0)))
theorem fits_eq (v : V) (t : Ty) : fits v t = if errc t != 0 then false
  else if (t.1 == 0 || v.k == 0) then true
  else if v.k == 6 then wi v.t t
  else if v.k != t.1 then false
  else !((items v).any fun x => !(fits x (t.2, 0))) := by
  rw [fits, V.fold_eq, ← List.map_take, List.any_map]; rfl
def known : V → Bool := V.fold fun v rs => v.k != 6 && !((rs.take (nIt v)).any fun r => !r)
theorem known_eq (v : V) : known v = (v.k != 6 && !((items v).any fun x => !(known x))) := by
  rw [known, V.fold_eq, ← List.map_take, List.any_map]; rfl
/-- the type of elements -/
def commonT : List Ty → Int
  | [] => 0
  | t :: r => let j := r.foldl jo t; if decide (j.1 > 3) then 0 else j.1
def typeOf : V → Ty := V.fold fun v rs =>
  if v.k == 1 then (1, 0) else if v.k == 2 then (2, 0) else if v.k == 3 then (3, 0) else if v.k == 4 then (4, commonT rs)
  else if v.k == 5 then (5, commonT (rs.take (nIt v))) else if v.k == 6 then v.t else (0, 0)
theorem typeOf_eq (v : V) : typeOf v = if v.k == 1 then (1, 0) else if v.k == 2 then (2, 0) else if v.k == 3 then (3, 0) else if v.k == 4 then (4, commonT (v.l.map typeOf))
  else if v.k == 5 then (5, commonT ((items v).map typeOf)) else if v.k == 6 then v.t else (0, 0) := by
  rw [typeOf, V.fold_eq, ← List.map_take]; rfl
/-- a is b, or more exact -/
def refines : V → V → Bool := V.fold fun a rs b =>
  if b.k == 6 then fits a b.t
  else if (a.k != b.k || a.i != b.i || !eqs a.s b.s || !eqSs (keys a) (keys b)) then false
  else all2 (fun r y => r y) (rs.take (nIt a)) (items b)
theorem refines_eq (a b : V) : refines a b = if b.k == 6 then fits a b.t
  else if (a.k != b.k || a.i != b.i || !eqs a.s b.s || !eqSs (keys a) (keys b)) then false
  else all2 refines (items a) (items b) := by
  rw [refines, V.fold_eq, ← List.map_take, all2_map]; rfl
def unsec (v : V) : V := .mk v.k v.i v.s v.l v.ks v.tk v.to false
def like : V → V → Bool := V.fold fun a rs b => flat (unsec a) (unsec b) && all2 (fun r y => r y) rs b.l
theorem like_eq (a b : V) : like a b = (flat (unsec a) (unsec b) && all2 like a.l b.l) := by
  rw [like, V.fold_eq, all2_map]
def cmpI (x y : Int) : Int := if x < y then -1 else if x > y then 1 else 0
def cmpS (x y : ByteArray) : Int := if Op.bytesLess x.toList y.toList then -1 else if !(Op.bytesLess x.toList y.toList || x.toList == y.toList) then 1 else 0
def orI : List Int → Int
  | [] => 0
  | x :: r => if x != 0 then x else orI r
/-- of a size that fits memory however often it is copied -/
def V.sm : V → Bool := V.fold fun v rs => decide (v.l.length ≤ 4294967296) && decide (v.ks.length ≤ 4294967296) && rs.all id
theorem V.sm_eq (v : V) : v.sm = (decide (v.l.length ≤ 4294967296) && decide (v.ks.length ≤ 4294967296) && v.l.all V.sm) := by
  rw [V.sm, V.fold_eq, List.all_map]; rfl
theorem V.sm_l {v : V} (h : v.sm = true) : v.l.length ≤ 4294967296 ∧ v.ks.length ≤ 4294967296 ∧ ∀ x ∈ v.l, x.sm = true := by
  rw [V.sm_eq] at h
  simp only [Bool.and_eq_true, decide_eq_true_eq, List.all_eq_true] at h
  exact ⟨h.1.1, h.1.2, h.2⟩
def copyV : V → V := V.fold fun v rs => .mk v.k v.i v.s rs v.ks v.tk v.to v.sec
theorem copyV_eq (v : V) : copyV v = v := by
  refine V.ind (p := fun v => copyV v = v) (fun v ih => ?_) v
  rw [copyV, V.fold_eq]
  have : v.l.map (V.fold fun v rs => .mk v.k v.i v.s rs v.ks v.tk v.to v.sec) = v.l := by
    conv => rhs; rw [← List.map_id v.l]
    exact List.map_congr_left fun x hx => ih x hx
  rw [this, V.eta]
end Go.VA

namespace Go.VA
open Go Go.RowKit
/-! ### the order of values -/
/-- element by element -/
def cmpL (fin : Int) : List ByteArray → List ByteArray → List (V → Int) → List V → Int
  | _, _, [], _ => fin
  | _, _, _ :: _, [] => fin
  | k :: ks, k' :: ks', r :: rs, y :: ys => if cmpS k k' != 0 then cmpS k k' else if r y != 0 then r y else cmpL fin ks ks' rs ys
  | [], ks', r :: rs, y :: ys => if r y != 0 then r y else cmpL fin [] ks' rs ys
  | _ :: _, [], _ :: _, _ :: _ => 0
def headC (a b : V) : Int := orI [cmpI a.k b.k, cmpI a.i b.i, cmpS a.s b.s, cmpI (codeT a.t) (codeT b.t)]
def cmpV : V → V → Int := V.fold fun a rs b => if headC a b != 0 then headC a b else cmpL (cmpI (nIt a) (nIt b)) (keys a) (keys b) (rs.take (nIt a)) (items b)
theorem cmpV_eq (a b : V) : cmpV a b = if headC a b != 0 then headC a b else cmpL (cmpI (nIt a) (nIt b)) (keys a) (keys b) ((items a).map cmpV) (items b) := by
  rw [cmpV, V.fold_eq, ← List.map_take]; rfl
theorem cmpI_0 {x y : Int} (h : cmpI x y = 0) : x = y := by unfold cmpI at h; split at h <;> (try split at h) <;> omega
theorem orI_0 : ∀ {l : List Int}, orI l = 0 → ∀ x ∈ l, x = 0
  | [], _, x, hx => by simp at hx
  | y :: r, h, x, hx => by
    simp only [orI] at h
    split at h
    · rename_i hy; simp [h] at hy
    · rename_i hy
      rcases List.mem_cons.1 hx with rfl | hx
      · simpa using hy
      · exact orI_0 h x hx
theorem headC_k {a b : V} (h : headC a b = 0) : a.k = b.k := cmpI_0 (orI_0 h _ (by simp))
theorem nKs_5 {v : V} (h : v.k = 5) : nKs v = nIt v := by unfold nKs nIt; rw [h]; simp
theorem nKs_pos {v : V} (h : 0 < nKs v) : v.k = 5 := by
  unfold nKs at h
  split at h
  · omega
  · rename_i h2; simpa using h2
theorem keys_get {v : V} {c : Nat} (hc : c < nKs v) : (keys v)[c]? = some (v.ks.getD c ByteArray.empty) := by
  have := nKs_le v
  unfold keys
  rw [List.getElem?_take, if_pos hc, List.getElem?_eq_getElem (by omega), List.getD_eq_getElem?_getD, List.getElem?_eq_getElem (by omega)]
  rfl
theorem keys_nil {v : V} (h : ¬ 0 < nKs v) : keys v = [] := by
  unfold keys; rw [show nKs v = 0 by omega]; rfl
def lessV (a b : V) : Bool := decide (cmpV (only a) (only b) < 0)
/-! ### the document's -/
def fitsR : V → Ty → Bool := V.fold fun v rs t =>
  if !chkR t then false
  else if (t.1 == 0 || v.k == 0) then true
  else if v.k == 6 then wiR v.t t
  else if v.k != t.1 then false
  else (rs.take (nIt v)).all fun r => r (t.2, 0)
theorem fitsR_eq (v : V) (t : Ty) : fitsR v t = if !chkR t then false
  else if (t.1 == 0 || v.k == 0) then true
  else if v.k == 6 then wiR v.t t
  else if v.k != t.1 then false
  else (items v).all fun x => fitsR x (t.2, 0) := by
  rw [fitsR, V.fold_eq, ← List.map_take, List.all_map]; rfl
/-- element by element, with the keys ahead -/
def refL : List ByteArray → List ByteArray → List (V → Bool) → List V → Bool
  | _, _, [], _ => true
  | _, _, _ :: _, [] => true
  | k :: ks, k' :: ks', r :: rs, y :: ys => if !eqs k k' || !r y then false else refL ks ks' rs ys
  | [], ks', r :: rs, y :: ys => if !r y then false else refL [] ks' rs ys
  | _ :: _, [], _ :: _, _ :: _ => false
def refinesR : V → V → Bool := V.fold fun a rs b =>
  if b.k == 6 then fitsR a b.t
  else if (a.k != b.k || a.i != b.i || !eqs a.s b.s || (nIt a : Int) != nIt b) then false
  else refL (keys a) (keys b) (rs.take (nIt a)) (items b)
theorem refinesR_eq (a b : V) : refinesR a b = if b.k == 6 then fitsR a b.t
  else if (a.k != b.k || a.i != b.i || !eqs a.s b.s || (nIt a : Int) != nIt b) then false
  else refL (keys a) (keys b) ((items a).map refinesR) (items b) := by
  rw [refinesR, V.fold_eq, ← List.map_take]; rfl
def ordL (fin : Int) : List ByteArray → List ByteArray → List (V → Int) → List V → Int
  | _, _, [], _ => fin
  | _, _, _ :: _, [] => fin
  | k :: ks, k' :: ks', r :: rs, y :: ys => if !eqs k k' then (if Op.bytesLess k.toList k'.toList then -1 else 1) else if r y != 0 then r y else ordL fin ks ks' rs ys
  | [], ks', r :: rs, y :: ys => if r y != 0 then r y else ordL fin [] ks' rs ys
  | _ :: _, [], _ :: _, _ :: _ => 0
def codeN (t : Ty) : Int := IntKind.i64.wrap (IntKind.i64.wrap (8 * t.1) + t.2)
def lessF (a b : V) : Bool := if a.k == 1 || a.k == 2 then decide (a.i < b.i) else if a.k == 3 then Op.bytesLess a.s.toList b.s.toList else if a.k == 6 then decide (codeN a.t < codeN b.t) else false
def moreF (a b : V) : Bool := if a.k == 1 || a.k == 2 then decide (a.i > b.i) else if a.k == 3 then !(Op.bytesLess a.s.toList b.s.toList || a.s.toList == b.s.toList) else if a.k == 6 then decide (codeN a.t > codeN b.t) else false
def endO (a b : V) : Int := if (lessF a b || decide ((nIt a : Int) < nIt b)) then -1 else if (moreF a b || decide ((nIt a : Int) > nIt b)) then 1 else 0
def ordV : V → V → Int := V.fold fun a rs b => if a.k != b.k then (if decide (a.k < b.k) then -1 else 1) else ordL (endO a b) (keys a) (keys b) (rs.take (nIt a)) (items b)
theorem ordV_eq (a b : V) : ordV a b = if a.k != b.k then (if decide (a.k < b.k) then -1 else 1) else ordL (endO a b) (keys a) (keys b) ((items a).map ordV) (items b) := by
  rw [ordV, V.fold_eq, ← List.map_take]; rfl
def lessR (a b : V) : Bool := decide (ordV a b < 0)
def sameR : V → V → Bool → Bool := V.fold fun a rs b m =>
  if (a.k != b.k || a.i != b.i || !eqs a.s b.s || !(a.tk == b.tk && a.to == b.to) || m && !(a.sec == b.sec) || (a.l.length : Int) != b.l.length || (a.ks.length : Int) != b.ks.length) then false
  else if !eqSs a.ks b.ks then false else all2 (fun r y => r y m) rs b.l
theorem sameR_eq (a b : V) (m : Bool) : sameR a b m =
  if (a.k != b.k || a.i != b.i || !eqs a.s b.s || !(a.tk == b.tk && a.to == b.to) || m && !(a.sec == b.sec) || (a.l.length : Int) != b.l.length || (a.ks.length : Int) != b.ks.length) then false
  else if !eqSs a.ks b.ks then false else all2 (fun x y => sameR x y m) a.l b.l := by
  rw [sameR, V.fold_eq, all2_map]
def chk1 (v : V) (d : Int) : Bool := decide (d < 1) || decide (v.k < 0) || decide (v.k > 6)
def chk2 (v : V) : Bool := v.k != 1 && v.k != 2 && v.i != 0 || v.k == 1 && v.i != 0 && v.i != 1
def chk3 (v : V) : Bool := v.k != 3 && !(v.s.toList == ({ data := #[] } : ByteArray).toList) || decide ((v.s.size : Int) > 1024)
def chk4 (v : V) : Bool := v.k != 6 && !(v.tk == 0 && v.to == 0) || v.k == 6 && !chkR v.t
def chk5 (v : V) : Bool := v.k != 4 && v.k != 5 && decide ((v.l.length : Int) > 0) || decide ((v.l.length : Int) > 128)
def chk6 (v : V) : Bool := v.k != 5 && decide ((v.ks.length : Int) > 0) || v.k == 5 && (v.ks.length : Int) != v.l.length
def checkRV : V → Int → Bool := V.fold fun v rs d =>
  if chk1 v d then false else if chk2 v then false else if chk3 v then false else if chk4 v then false else if chk5 v then false else if chk6 v then false
  else if !keysOk v.ks v.ks 0 then false else rs.all fun r => r (IntKind.i64.wrap (d - 1))
theorem checkRV_eq (v : V) (d : Int) : checkRV v d =
  if chk1 v d then false else if chk2 v then false else if chk3 v then false else if chk4 v then false else if chk5 v then false else if chk6 v then false
  else if !keysOk v.ks v.ks 0 then false else v.l.all fun x => checkRV x (IntKind.i64.wrap (d - 1)) := by
  rw [checkRV, V.fold_eq, List.all_map]; rfl
def checkR (v : V) : Bool := checkRV v 8 && decide (weight v ≤ 512)
/-- how much it has -/
def greatK : List ByteArray → Int → Int
  | [], n => n
  | k :: r, n => if decide (n ≤ 600) then greatK r (IntKind.i64.wrap (n + IntKind.i64.wrap ((if (4000 : Int) < k.size then 4000 else (k.size : Int)).tdiv 4))) else n
def greatL (d : Int) : List (Int → Int) → Int → Int
  | [], n => n
  | r :: rs, n => if decide (n ≤ 600) then greatL d rs (IntKind.i64.wrap (n + r (IntKind.i64.wrap (d - 1)))) else n
theorem greatK_stop {l : List ByteArray} {n : Int} (h : decide (n ≤ 600) = false) : greatK l n = n := by cases l <;> simp [greatK, h]
theorem greatL_stop {d : Int} {l : List (Int → Int)} {n : Int} (h : decide (n ≤ 600) = false) : greatL d l n = n := by cases l <;> simp [greatL, h]
theorem greatK_go {l : List ByteArray} {n : Int} {c : Nat} {x : ByteArray} (hx : l[c]? = some x) (h : n ≤ 600) :
    greatK (l.drop c) n = greatK (l.drop (c + 1)) (IntKind.i64.wrap (n + IntKind.i64.wrap ((if (4000 : Int) < x.size then 4000 else (x.size : Int)).tdiv 4))) := by
  rw [drop_cons? hx]; simp [greatK, h]
theorem greatL_go {d : Int} {l : List (Int → Int)} {n : Int} {c : Nat} {r : Int → Int} (hx : l[c]? = some r) (h : n ≤ 600) :
    greatL d (l.drop c) n = greatL d (l.drop (c + 1)) (IntKind.i64.wrap (n + r (IntKind.i64.wrap (d - 1)))) := by
  rw [drop_cons? hx]; simp [greatL, h]
def great0 (v : V) : Int := IntKind.i64.wrap (IntKind.i64.wrap (1 + IntKind.i64.wrap ((if (2000 : Int) < v.s.size then 2000 else (v.s.size : Int)).tdiv 4)) + (if (700 : Int) < v.ks.length then 700 else (v.ks.length : Int)))
def greatV : V → Int → Int := V.fold fun v rs d => if d == 0 then 601 else
  let n := greatL d rs (greatK v.ks (great0 v)); if 601 < n then 601 else n
theorem greatV_eq (v : V) (d : Int) : greatV v d = if d == 0 then 601 else
  let n := greatL d (v.l.map greatV) (greatK v.ks (great0 v)); if 601 < n then 601 else n := by
  rw [greatV, V.fold_eq]
end Go.VA

namespace Go.VA
open Go Go.RowKit
/-! ### plain laws of values -/
theorem eqs_refl (a : ByteArray) : eqs a a = true := by simp [eqs]
theorem eqSs_refl : ∀ l : List ByteArray, eqSs l l = true
  | [] => rfl
  | x :: r => by simp [eqSs, eqs_refl, eqSs_refl r]
theorem all2_refl {α : Type} {p : α → α → Bool} : ∀ {l : List α}, (∀ x ∈ l, p x x = true) → all2 p l l = true
  | [], _ => rfl
  | x :: r, h => by simp only [all2, Bool.and_eq_true]; exact ⟨h x (by simp), all2_refl fun y hy => h y (by simp [hy])⟩
theorem sameR_refl (v : V) : ∀ m, sameR v v m = true := by
  refine V.ind (p := fun v => ∀ m, sameR v v m = true) (fun v ih m => ?_) v
  rw [sameR_eq]
  simp [eqs_refl, eqSs_refl, all2_refl (p := fun x y => sameR x y m) fun x hx => ih x hx m]
theorem shr1 (i : Int) : (shrI .i64 i 1 == 0) = (i == 0 || i == 1) := by
  rw [Bool.eq_iff_iff]
  have h : shrI .i64 i 1 = i / 2 := by
    unfold shrI
    have : min ((1 : Int)).toNat IntKind.i64.bits = 1 := by decide
    rw [this]
    exact (Int.fdiv_eq_ediv_of_nonneg i (by decide))
  simp only [beq_iff_eq, Bool.or_eq_true, h]
  omega
theorem keysOk_nil (ks : List ByteArray) (c : Nat) : keysOk ks [] c = true := rfl
theorem empty_of_len {α : Type} {l : List α} (h : (l.length : Int) = 0) : l = [] := by
  cases l with
  | nil => rfl
  | cons x r => simp at h; omega
theorem wrap_small {d : Int} (h0 : 0 ≤ d) (h8 : d ≤ 8) : IntKind.i64.wrap (d - 1) = d - 1 := wrap64 (by omega) (by omega)
theorem eqs_emp (s : ByteArray) : eqs s ByteArray.empty = (s.toList == ({ data := #[] } : ByteArray).toList) := rfl
theorem eqSs_emp (l : List ByteArray) : eqSs l [] = decide (l.length = 0) := by cases l <;> simp [eqSs]
/-- right shapes, by both texts -/
theorem shaped_law (v : V) (d : Int) (h1 : 1 ≤ d) :
    shaped v = (!chk1 v d && !chk2 v && !chk3 v && !chk4 v && !chk5 v && !chk6 v && keysOk v.ks v.ks 0) := by
  by_cases hk : v.k < 0 ∨ v.k > 6
  · have e1 : chk1 v d = true := by unfold chk1; simp; omega
    have e2 : shaped v = false := by
      unfold shaped
      rw [if_pos (by simp; omega)]
    rw [e1, e2]; rfl
  · have hd : chk1 v d = false := by unfold chk1; simp; omega
    have hr : v.k = 0 ∨ v.k = 1 ∨ v.k = 2 ∨ v.k = 3 ∨ v.k = 4 ∨ v.k = 5 ∨ v.k = 6 := by omega
    have kb : (decide (v.k < 0) || decide (v.k > 6)) = false := by simp; omega
    have hks : v.ks = [] → keysOk v.ks v.ks 0 = true := fun e => by rw [e]; rfl
    rw [hd]
    unfold shaped
    rw [kb]
    unfold flat chk2 chk3 chk4 chk5 chk6 errc
    rw [only_k, only_i, only_s, only_l, only_ks, only_tk, only_to, only_sec, ← chkR_eq]
    have e0 : v.t = (v.tk, v.to) := rfl
    obtain ⟨k, i, s, l, ks, tk, to, sec⟩ := v
    simp only [V.k, V.i, V.s, V.l, V.ks, V.tk, V.to, V.sec] at *
    rcases hr with rfl | rfl | rfl | rfl | rfl | rfl | rfl
    all_goals
      rw [Bool.eq_iff_iff]
      simp [eqs_refl, eqSs_refl, eqs_emp, eqSs_emp, shr1, e0]
      try (by_cases hl : l = [] <;> by_cases hq : ks = [] <;> simp [hl, hq, keysOk_nil, List.length_pos_iff])
      all_goals try grind
theorem all_congr' {α : Type} {p q : α → Bool} : ∀ {l : List α}, (∀ x ∈ l, p x = q x) → l.all p = l.all q
  | [], _ => rfl
  | x :: r, h => by simp only [List.all_cons]; rw [h x (by simp), all_congr' fun y hy => h y (by simp [hy])]
theorem allV_check (v : V) : ∀ d : Int, 0 ≤ d → d ≤ 8 → allV v d = checkRV v d := by
  refine V.ind (p := fun v => ∀ d : Int, 0 ≤ d → d ≤ 8 → allV v d = checkRV v d) (fun v ih d h0 h8 => ?_) v
  rw [allV_eq, checkRV_eq]
  by_cases hd : d = 0
  · subst hd; simp [chk1]
  · rw [shaped_law v d (by omega), all_congr' fun x hx => ih x hx (IntKind.i64.wrap (d - 1)) (by rw [wrap_small h0 h8]; omega) (by rw [wrap_small h0 h8]; omega)]
    have : (d == 0) = false := by simpa using hd
    rw [this]
    cases chk1 v d <;> cases chk2 v <;> cases chk3 v <;> cases chk4 v <;> cases chk5 v <;> cases chk6 v <;> cases keysOk v.ks v.ks 0 <;> rfl
theorem check_law (v : V) : (checkV v == 0) = checkR v := by
  unfold checkV checkR
  rw [allV_check v 8 (by decide) (by decide)]
  cases h : checkRV v 8 <;> by_cases hw : weight v > 512 <;> simp [hw] <;> omega
theorem check_01 (v : V) : (checkV v == 0 || checkV v == 1) = true := by
  unfold checkV; split <;> rfl
theorem eqs_iff {a b : ByteArray} : eqs a b = true ↔ a = b := by
  unfold eqs
  rw [beq_iff_eq]
  refine ⟨fun h => ?_, fun h => by rw [h]⟩
  rw [ByteArray.toList_eq, ByteArray.toList_eq] at h
  cases a; cases b
  simp at h
  simpa using h
theorem eqSs_iff : ∀ {a b : List ByteArray}, eqSs a b = true ↔ a = b
  | [], [] => by simp [eqSs]
  | [], _ :: _ => by simp [eqSs]
  | _ :: _, [] => by simp [eqSs]
  | x :: r, y :: s => by simp only [eqSs, Bool.and_eq_true, eqs_iff, eqSs_iff, List.cons.injEq]
theorem all2_iff {α : Type} {p : α → α → Bool} : ∀ {l m : List α}, all2 p l m = true ↔ l.length = m.length ∧ ∀ (i : Nat) (x y : α), l[i]? = some x → m[i]? = some y → p x y = true
  | [], [] => by simp [all2]
  | [], _ :: _ => by simp [all2]
  | _ :: _, [] => by simp [all2]
  | x :: r, y :: s => by
    simp only [all2, Bool.and_eq_true, all2_iff, List.length_cons]
    constructor
    · rintro ⟨h1, h2, h3⟩
      refine ⟨by omega, fun i a b ha hb => ?_⟩
      cases i with
      | zero => simp at ha hb; subst ha; subst hb; exact h1
      | succ i => exact h3 i a b (by simpa using ha) (by simpa using hb)
    · rintro ⟨h1, h2⟩
      exact ⟨h2 0 x y rfl rfl, by omega, fun i a b ha hb => h2 (i + 1) a b (by simpa using ha) (by simpa using hb)⟩
/-! ### values that may be -/
def Ok (v : V) : Prop := ∃ d, checkRV v d = true
theorem ok_of {v : V} (h : checkR v = true) : Ok v := by
  unfold checkR at h
  simp only [Bool.and_eq_true] at h
  exact ⟨8, h.1⟩
structure Okf (v : V) : Prop where
  k0 : 0 ≤ v.k
  k6 : v.k ≤ 6
  i : v.k ≠ 1 → v.k ≠ 2 → v.i = 0
  s : v.k ≠ 3 → v.s = ByteArray.empty
  t : v.k ≠ 6 → v.tk = 0 ∧ v.to = 0
  t6 : v.k = 6 → chk v.t = true
  l : v.k ≠ 4 → v.k ≠ 5 → v.l = []
  ks : v.k ≠ 5 → v.ks = []
  ks5 : v.k = 5 → v.ks.length = v.l.length
  ok : ∀ x ∈ v.l, Ok x
theorem Ok.f {v : V} (h : Ok v) : Okf v := by
  obtain ⟨d, h⟩ := h
  rw [checkRV_eq] at h
  by_cases h1 : chk1 v d = true
  · simp [h1] at h
  by_cases h2 : chk2 v = true
  · simp [h1, h2] at h
  by_cases h3 : chk3 v = true
  · simp [h1, h2, h3] at h
  by_cases h4 : chk4 v = true
  · simp [h1, h2, h3, h4] at h
  by_cases h5 : chk5 v = true
  · simp [h1, h2, h3, h4, h5] at h
  by_cases h6 : chk6 v = true
  · simp [h1, h2, h3, h4, h5, h6] at h
  by_cases h7 : keysOk v.ks v.ks 0 = true
  · simp only [h1, h2, h3, h4, h5, h6, h7] at h
    simp only [chk1, Bool.or_eq_true, decide_eq_true_eq, not_or] at h1
    refine ⟨by omega, by omega, fun a b => ?_, fun a => ?_, fun a => ?_, fun a => ?_, fun a b => ?_, fun a => ?_, fun a => ?_, fun x hx => ⟨_, List.all_eq_true.1 h x hx⟩⟩
    · simp [chk2] at h2
      exact h2.1 a b
    · have := (by simpa [chk3] using h3 : (¬v.k = 3 → v.s.toList = []) ∧ _).1 a
      exact eqs_iff.1 (by rw [eqs_emp, this]; simp)
    · simp [chk4] at h4
      exact h4.1 a
    · simp [chk4] at h4
      rw [← chkR_eq]; exact h4.2 a
    · simp [chk5] at h5
      exact h5.1 a b
    · simp [chk6] at h6
      exact h6.1 a
    · simp [chk6] at h6
      have := h6.2 a
      omega
  · simp [h1, h2, h3, h4, h5, h6, h7] at h
theorem Okf.items {v : V} (h : Okf v) : items v = v.l ∧ nIt v = v.l.length := by
  have : nIt v = v.l.length := by
    unfold nIt nPairs
    split
    · rfl
    · split
      · rename_i h5; have := h.ks5 (by simpa using h5); omega
      · rename_i h4 h5; rw [h.l (by simpa using h4) (by simpa using h5)]; rfl
  exact ⟨by unfold VA.items; rw [this, List.take_length], this⟩
theorem Okf.keys {v : V} (h : Okf v) : keys v = v.ks := by
  unfold VA.keys nKs nPairs
  split
  · rename_i h5; rw [h.ks (by simpa using h5)]; rfl
  · rename_i h5; have := h.ks5 (by simpa using h5); rw [List.take_of_length_le (by omega)]
theorem Okf.only {v : V} (h : Okf v) : only v = v := by
  have e := V.eta v
  unfold VA.only
  have h1 := h.i; have h2 := h.s; have h3 := h.t; have h4 := h.l; have h5 := h.ks
  have a1 : (if v.k == 1 || v.k == 2 then v.i else 0) = v.i := by
    split
    · rfl
    · rename_i g; simp at g; rw [h1 g.1 g.2]
  have a2 : (if v.k == 3 then v.s else ByteArray.empty) = v.s := by
    split
    · rfl
    · rename_i g; rw [h2 (by simpa using g)]
  have a3 : (if v.k == 5 || v.k == 4 then v.l else []) = v.l := by
    split
    · rfl
    · rename_i g; simp at g; rw [h4 g.2 g.1]
  have a4 : (if v.k == 5 then v.ks else []) = v.ks := by
    split
    · rfl
    · rename_i g; rw [h5 (by simpa using g)]
  have a5 : (if v.k == 6 then v.tk else 0) = v.tk := by
    split
    · rfl
    · rename_i g; rw [(h3 (by simpa using g)).1]
  have a6 : (if v.k == 6 then v.to else 0) = v.to := by
    split
    · rfl
    · rename_i g; rw [(h3 (by simpa using g)).2]
  rw [a1, a2, a3, a4, a5, a6, e]
end Go.VA
