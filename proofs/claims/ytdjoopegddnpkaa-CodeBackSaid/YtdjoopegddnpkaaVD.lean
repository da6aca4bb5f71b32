/- An executor of the model over symbolic values, and the proof that what it shows of a function holds of every call: no condition. -/
import Derived.Test.YtdjoopegddnpkaaVC
import Derived.SizedLaws
set_option linter.unusedSimpArgs false
set_option linter.unusedVariables false
set_option linter.unusedSectionVars false
set_option linter.unnecessarySimpa false
namespace Go.VA
open Go Go.RowKit Go.ChangeShapes Go.WideShapes Go.ChangeAt

section
variable {H : Type} {enc : TypeId × Value → H} {P : Program} {tb : TB} {w : World} {base : Nat} {spare : Nat → Bool} {held : Bool} {fuel : Nat} {t : TypeId} {cs : List Value} {x : DataW H × List MemPlace}

theorem cellsOf_tb (htb : TbOk P tb) (ho : (tb t).k.isOther = false) : P.cellsOf t = (tb t).sz := by
  obtain ⟨i, d, z, h1, h2, h3, h4, _⟩ := (htb t).ok ho
  unfold Program.cellsOf
  rw [h1]
  simpa using h4

theorem tr_int (htb : TbOk P tb) {k : IntKind} (hk : (tb t).k = .int k) (h : DataW.trod enc P w base spare held fuel t cs = some x) : ∃ n, cs = [.int k n] ∧ k.min ≤ n ∧ n ≤ k.max := by
  obtain ⟨d, h2, h3⟩ := (htb t).under (by rw [hk]; rfl)
  rw [hk] at h3
  simp only [TKok] at h3
  subst h3
  obtain ⟨n, h4, _, h5⟩ := DataW.trod_int h2 h
  simp only [Lit.wf, Bool.and_eq_true, decide_eq_true_eq] at h5
  exact ⟨n, h4, h5⟩

theorem tr_bool (htb : TbOk P tb) (hk : (tb t).k = .bool) (h : DataW.trod enc P w base spare held fuel t cs = some x) : ∃ b, cs = [.bool b] := by
  obtain ⟨d, h2, h3⟩ := (htb t).under (by rw [hk]; rfl)
  rw [hk] at h3
  simp only [TKok] at h3
  subst h3
  obtain ⟨n, h4, _⟩ := DataW.trod_bool h2 h
  exact ⟨n, h4⟩

theorem tr_str (htb : TbOk P tb) (hk : (tb t).k = .str) (h : DataW.trod enc P w base spare held fuel t cs = some x) : ∃ s : ByteArray, cs = [.string s] ∧ s.size ≤ maxLen := by
  obtain ⟨d, h2, h3⟩ := (htb t).under (by rw [hk]; rfl)
  rw [hk] at h3
  simp only [TKok] at h3
  subst h3
  obtain ⟨n, h4, _, h5⟩ := DataW.trod_string h2 h
  exact ⟨n, h4, h5⟩

theorem tr_struct (htb : TbOk P tb) {fs : List (Nat × Nat)} (hk : (tb t).k = .struct fs) (h : DataW.trod enc P w base spare held fuel t cs = some x) :
    cs.length = (tb t).sz ∧ ∃ m, fuel = m + 1 ∧ ∀ i o ty : Nat, fs[i]? = some (o, ty) → (tb ty).k.isOther = false → ∃ y, DataW.trod enc P w base spare held m ty ((cs.drop o).take (tb ty).sz) = some y := by
  obtain ⟨d, h2, h3⟩ := (htb t).under (by rw [hk]; rfl)
  have hsz := cellsOf_tb htb (t := t) (by rw [hk]; rfl)
  rw [hk] at h3
  simp only [TKok] at h3
  obtain ⟨f, rfl, hf⟩ := h3
  obtain ⟨xs, n, h4, _, h5, h6, h7⟩ := DataW.trod_struct h2 h
  refine ⟨by rw [h5, hsz], n, h4, fun i o ty hi ho => ?_⟩
  rw [← hf.1, List.getElem?_map, Option.map_eq_some_iff] at hi
  obtain ⟨g, k1, k2⟩ := hi
  rw [Array.getElem?_toList] at k1
  have := h7 i g k1
  simp only [Prod.mk.injEq] at k2
  rw [k2.1, k2.2, cellsOf_tb htb ho] at this
  have hlt : i < xs.length := by
    rw [h6]
    exact (Array.getElem?_eq_some_iff.1 k1).1
  rw [List.getElem?_eq_getElem hlt] at this
  exact ⟨_, this⟩

theorem tr_slice (htb : TbOk P tb) {e : TypeId} (hk : (tb t).k = .slice e) (he : (tb e).k.isOther = false) (h0 : 0 < (tb e).sz) (h : DataW.trod enc P w base spare held fuel t cs = some x) :
    ∃ a len cap m, cs = [.slice a len cap] ∧ fuel = m + 1 ∧ len ≤ cap ∧ cap ≤ maxLen ∧ (len = 0 ∨ ∃ b o, a = some ⟨b, o, none⟩ ∧ ∀ i, i < len → ∃ ce y, ce.length = (tb e).sz ∧ (∀ j, j < (tb e).sz → w.cell? ⟨b, o + i * (tb e).sz + j, none⟩ = ce[j]?) ∧
      DataW.trod enc P w base spare held m e ce = some y) := by
  obtain ⟨d, h2, h3⟩ := (htb t).under (by rw [hk]; rfl)
  have hsz := cellsOf_tb htb he
  rw [hk] at h3
  simp only [TKok] at h3
  subst h3
  rcases DataW.trod_slice h2 h with ⟨h4, _⟩ | ⟨a, len, cap, elems, rest, n, h4, h5, _, h6, h7, h8, h9, h10, _⟩
  · cases fuel with
    | zero => simp [DataW.trod] at h
    | succ m => exact ⟨none, 0, 0, m, h4, rfl, Nat.le_refl _, Nat.zero_le _, .inl rfl⟩
  · refine ⟨some a, len, cap, n, h5, h4, h7, h8, ?_⟩
    by_cases hl : len = 0
    · exact .inl hl
    · right
      have key : ∀ i, i < len → ∃ ce y, w.cells? base (a.add (i * (tb e).sz)) (tb e).sz = some ce ∧ DataW.trod enc P w base spare held n e ce = some y := by
        intro i hi
        have := h10 i hi
        rw [hsz] at this
        rw [List.getElem?_eq_getElem (by omega)] at this
        obtain ⟨ce, k1, k2⟩ := Option.bind_eq_some_iff.1 this
        exact ⟨ce, _, k1, k2⟩
      obtain ⟨b, o, spot⟩ := a
      obtain ⟨ce0, y0, k1, _⟩ := key 0 (by omega)
      obtain ⟨_, k3, k4⟩ := World.cells?_some k1
      have g0 := k4 0 h0
      rw [List.getElem?_eq_getElem (by omega)] at g0
      have hspot : spot = none := by simpa [Addr.add] using World.cell?_spot g0
      subst hspot
      refine ⟨b, o, rfl, fun i hi => ?_⟩
      obtain ⟨ce, y, k1, k2⟩ := key i hi
      obtain ⟨_, k3, k4⟩ := World.cells?_some k1
      refine ⟨ce, y, k3, fun j hj => ?_, k2⟩
      have := k4 j hj
      rw [← this]
      congr 1
      simp only [Addr.add]
      split <;> split <;> simp_all

theorem repCs_of_repVs {S : Rd} {R : Nat → Value → Prop} : ∀ {xs : List C} {us : List Value} {o : Nat}, RepVs S xs us → (∀ j u, us[j]? = some u → R (o + j) u) → RepCs S R o xs
  | [], us, o, _, _ => by simp [RepCs]
  | x :: xs, us, o, h, hR => by
    simp only [RepVs] at h
    obtain ⟨u, r, rfl, h1, h2⟩ := h
    simp only [RepCs]
    refine ⟨⟨u, hR 0 u rfl, h1⟩, repCs_of_repVs h2 fun j v hv => ?_⟩
    rw [Nat.add_assoc, Nat.add_comm 1 j]
    exact hR (j + 1) v (by simpa using hv)

/-- rows in memory -/
theorem repC_rows {S : Rd} {a : Option Addr} {len cap esz : Nat} {f : Nat → List C} {tg : Bool} (hc : len ≤ cap ∧ len ≤ 140737488355328)
    (h : len = 0 ∨ ∃ b o, a = some ⟨b, o, none⟩ ∧ ∀ i, i < len → ∃ ce : List Value, ce.length = esz ∧ (∀ j, j < esz → ∀ u, ce[j]? = some u → S tg b (o + i * esz + j) u) ∧ (f i).length = esz ∧ RepVs S (f i) ce) :
    RepC S (.sl tg esz len f) (.slice a len cap) := by
  simp only [RepC]
  refine ⟨a, cap, rfl, hc, ?_⟩
  rcases h with h | ⟨b, o, h1, h2⟩
  · exact .inl h
  · refine .inr ⟨b, o, h1, fun i hi => ?_⟩
    obtain ⟨ce, k1, k2, k3, k4⟩ := h2 i hi
    refine ⟨k3, repCs_of_repVs k4 fun j u hu => ?_⟩
    have := (List.getElem?_eq_some_iff.1 hu).1
    exact k2 j (by omega) u hu

theorem relV_agg {S : Rd} {B : List (Option BI)} {v : Value} {xs : List C} {arr : Array Value} (hv : v = .agg arr) (h : RepVs S xs arr.toList) : RelV B S (.ag xs) v := by
  simp only [RelV]
  exact ⟨arr, hv, h⟩
theorem repV_i {S : Rd} {k : IntKind} {n : Int} : RepC S (.v (.int k n)) (.int k n) := by simp [RepC, Value.oneCell']
theorem repV_b {S : Rd} {b : Bool} : RepC S (.v (.bool b)) (.bool b) := by simp [RepC, Value.oneCell']
theorem repV_s {S : Rd} {b : ByteArray} : RepC S (.v (.string b)) (.string b) := by simp [RepC, Value.oneCell']

/-- the value of an argument: its cells -/
theorem arg_agg (htb : TbOk P tb) (hk : (tb t).k.agg = true) {v : Value} {r : Reach} {b0 : Nat} (hval : Value.okWide P w r b0 t v) : ∃ arr, v = .agg arr ∧ v.cells.toList = arr.toList := by
  obtain ⟨d, h2, h3⟩ := (htb t).under (by cases h : (tb t).k <;> rw [h] at hk <;> simp_all [TK.agg, TK.isOther])
  cases h : (tb t).k <;> rw [h] at hk h3 <;> simp only [TK.agg, Bool.false_eq_true] at hk
  case struct fs =>
    simp only [TKok] at h3
    obtain ⟨f, rfl, _⟩ := h3
    obtain ⟨cs, rfl, _⟩ := okWide_struct h2 hval
    exact ⟨cs, rfl, rfl⟩
  case array n e =>
    simp only [TKok] at h3
    subst h3
    simp only [Value.okWide, h2] at hval
    obtain ⟨cs, rfl, _⟩ := hval
    exact ⟨cs, rfl, rfl⟩
end
end Go.VA

namespace Go.VA
open Go Go.RowKit Go.ChangeShapes Go.WideShapes Go.ChangeAt

section
variable {H : Type} {enc : TypeId × Value → H} {P : Program} {tb : TB} {w : World} {base : Nat} {spare : Nat → Bool} {held : Bool} {fuel : Nat} {t : TypeId} {cs : List Value} {x : DataW H × List MemPlace}

/-- each slice, text and map of a datum is of a size that memory has -/
def SzW (P : Program) (t : TypeId) (d : DataW H) : Prop := ∀ n ∈ d.weights P t, n ≤ reachBytes

theorem bytesOf_tb (htb : TbOk P tb) (ho : (tb t).k.isOther = false) : P.bytesOf t = (tb t).bytes := by
  obtain ⟨i, d, z, h1, h2, h3, h4, h5, _⟩ := (htb t).ok ho
  unfold Program.bytesOf
  rw [h1]
  simpa using h5

theorem tr_structS (htb : TbOk P tb) {fs : List (Nat × Nat)} (hk : (tb t).k = .struct fs) (h : DataW.trod enc P w base spare held fuel t cs = some x) (hs : SzW P t x.1) :
    cs.length = (tb t).sz ∧ ∃ m, fuel = m + 1 ∧ ∀ i o ty : Nat, fs[i]? = some (o, ty) → (tb ty).k.isOther = false → ∃ y, DataW.trod enc P w base spare held m ty ((cs.drop o).take (tb ty).sz) = some y ∧ SzW P ty y.1 := by
  obtain ⟨d, h2, h3⟩ := (htb t).under (by rw [hk]; rfl)
  have hsz := cellsOf_tb htb (t := t) (by rw [hk]; rfl)
  rw [hk] at h3
  simp only [TKok] at h3
  obtain ⟨f, rfl, hf⟩ := h3
  obtain ⟨xs, n, h4, h8, h5, h6, h7⟩ := DataW.trod_struct h2 h
  refine ⟨by rw [h5, hsz], n, h4, fun i o ty hi ho => ?_⟩
  rw [← hf.1, List.getElem?_map, Option.map_eq_some_iff] at hi
  obtain ⟨g, k1, k2⟩ := hi
  rw [Array.getElem?_toList] at k1
  have := h7 i g k1
  simp only [Prod.mk.injEq] at k2
  rw [k2.1, k2.2, cellsOf_tb htb ho] at this
  have hlt : i < xs.length := by
    rw [h6]
    exact (Array.getElem?_eq_some_iff.1 k1).1
  rw [List.getElem?_eq_getElem hlt] at this
  refine ⟨_, this, fun m hm => hs m ?_⟩
  rw [h8]
  simp only [DataW.weights, h2]
  exact DataW.weights_mem_each (j := i) (t := ty) (d := xs[i].1) (by rw [List.getElem?_map, Array.getElem?_toList, k1]; simp [k2.2]) (by simp [hlt]) m hm

theorem weightsAll_mem {e : TypeId} : ∀ {l : List (DataW H)} {d : DataW H}, d ∈ l → ∀ n ∈ d.weights P e, n ∈ DataW.weightsAll P e l
  | y :: r, d, hd, n, hn => by
    simp only [DataW.weightsAll, List.mem_append]
    rcases List.mem_cons.1 hd with rfl | hd
    · exact .inl hn
    · exact .inr (weightsAll_mem hd n hn)

theorem tr_sliceS (htb : TbOk P tb) {e : TypeId} (hk : (tb t).k = .slice e) (he : (tb e).k.isOther = false) (h0 : 0 < (tb e).sz) (h : DataW.trod enc P w base spare held fuel t cs = some x) (hs : SzW P t x.1) :
    ∃ a len cap m, cs = [.slice a len cap] ∧ fuel = m + 1 ∧ len ≤ cap ∧ len * (tb e).bytes ≤ 140737488351232 ∧ (len = 0 ∨ ∃ b o, a = some ⟨b, o, none⟩ ∧ ∀ i, i < len → ∃ ce y, ce.length = (tb e).sz ∧ (∀ j, j < (tb e).sz → w.cell? ⟨b, o + i * (tb e).sz + j, none⟩ = ce[j]?) ∧
      DataW.trod enc P w base spare held m e ce = some y ∧ SzW P e y.1) := by
  obtain ⟨d, h2, h3⟩ := (htb t).under (by rw [hk]; rfl)
  have hsz := cellsOf_tb htb he
  have hby := bytesOf_tb htb he
  rw [hk] at h3
  simp only [TKok] at h3
  subst h3
  rcases DataW.trod_slice h2 h with ⟨h4, _⟩ | ⟨a, len, cap, elems, rest, n, h4, h5, hx, h6, h7, h8, h9, h10, _⟩
  · cases fuel with
    | zero => simp [DataW.trod] at h
    | succ m => exact ⟨none, 0, 0, m, h4, rfl, Nat.le_refl _, by simp, .inl rfl⟩
  · have hw : (elems.length + rest.length) * P.bytesOf e ≤ reachBytes := by
      refine hs _ ?_
      rw [hx]
      simp [DataW.weights, h2]
    refine ⟨some a, len, cap, n, h5, h4, h7, ?_, ?_⟩
    · rw [← h9, ← hby]
      have : elems.length * P.bytesOf e ≤ (elems.length + rest.length) * P.bytesOf e := Nat.mul_le_mul_right _ (Nat.le_add_right _ _)
      unfold reachBytes at hw
      omega
    by_cases hl : len = 0
    · exact .inl hl
    · right
      have key : ∀ i, i < len → ∃ ce y, w.cells? base (a.add (i * (tb e).sz)) (tb e).sz = some ce ∧ DataW.trod enc P w base spare held n e ce = some y ∧ SzW P e y.1 := by
        intro i hi
        have := h10 i hi
        rw [hsz] at this
        rw [List.getElem?_eq_getElem (by omega)] at this
        obtain ⟨ce, k1, k2⟩ := Option.bind_eq_some_iff.1 this
        refine ⟨ce, _, k1, k2, fun m hm => hs m ?_⟩
        rw [hx]
        simp only [DataW.weights, h2, List.mem_cons, List.mem_append]
        refine .inr (.inl (weightsAll_mem (d := (elems[i]'(by omega)).1) (List.mem_map.2 ⟨elems[i]'(by omega), List.getElem_mem _, rfl⟩) m hm))
      obtain ⟨b, o, spot⟩ := a
      obtain ⟨ce0, y0, k1, _⟩ := key 0 (by omega)
      obtain ⟨_, k3, k4⟩ := World.cells?_some k1
      have g0 := k4 0 h0
      rw [List.getElem?_eq_getElem (by omega)] at g0
      have hspot : spot = none := by simpa [Addr.add] using World.cell?_spot g0
      subst hspot
      refine ⟨b, o, rfl, fun i hi => ?_⟩
      obtain ⟨ce, y, k1, k2, k5⟩ := key i hi
      obtain ⟨_, k3, k4⟩ := World.cells?_some k1
      refine ⟨ce, y, k3, fun j hj => ?_, k2, k5⟩
      have := k4 j hj
      rw [← this]
      congr 1
      simp only [Addr.add]
      split <;> split <;> simp_all
end

/-- a law's row, out of its contract; no argument is greater than memory -/
theorem law_liftedS {C : Checked} {f : FuncId} {fn : Func} {s : ChangeSpec} {conds : List PathCond} (os : Os) (started : os.Started) {H : Type} {enc : TypeId × Value → H} {tb : TypeId}
    (own : ownKnob C.prog.godebug = none) (noInit : C.prog.inits.idxOf? f = none) (hfn : C.prog.funcs[f]? = some fn)
    (hl : laidOutB C.prog = true) (hc : carried C.prog fn.params.toList = true) (hv : s.vars = []) (hvt : s.plain.varTypes C.prog = []) (hr : fn.resultTypes = #[tb]) (htb : C.prog.underlying tb = some .bool)
    (hspec : ∀ ds : List (DataW H), ds.length = fn.params.size → s.fn H ds = { results := [.lit (.bool true)], args := ds })
    (witness : ∃ (w : World) (tape : Tape) (i : Input), w.os = os ∧ (w.forCall tape i).Shaped C.prog ∧ i.vars = [] ∧ Input.okWide C.prog (w.forCall tape i) .any w.heap.size f i ∧
      s.pre6 enc C.prog fn conds false (w.forCall tape i).memory i.args ∧ ({} : Assume).holds C.prog (lone (Frame.enter C.prog f i.args .normal) [] (w.forCall tape i)))
    (call : ∀ (W : World) (base : Nat) (args : Array Value) (ds : List (DataW H)) (ps : List MemPlace),
      (∀ (j : Nat) t v, fn.params[j]? = some t → args[j]? = some v → Value.okWide C.prog W .any base t v) →
      DataW.TrodAll enc C.prog W 0 (fun _ => true) true fn.params.toList args.toList ds ps →
      (∀ (j : Nat) t d, fn.params.toList[j]? = some t → ds[j]? = some d → SzW C.prog t d) →
      Calls C.prog f args W fun e w' => e = .returned (.bool true) ∧ Below W.heap.size W w') :
    ReturnsInHanded {} C os f .any (s.pre6 enc C.prog fn conds false) (s.post enc C.prog fn false true false false) := by
  refine returnsInHanded_of_change_sized own started noInit hfn witness ?_
  intro W base args ds gs before hval hW _ hsz _
  have hW' := hW
  obtain ⟨p, q, hA, hV, hpq, hfz, hnd⟩ := hW
  rw [hv] at hV
  obtain ⟨rfl, rfl⟩ := trodVars_none hV
  rw [List.append_nil] at hpq
  subst hpq
  have hlen : ds.length = fn.params.size := by
    have : ∀ {ts : List TypeId} {vs : List Value} {ds : List (DataW H)} {ps : List MemPlace}, DataW.TrodAll enc C.prog W 0 (fun _ => true) true ts vs ds ps → ds.length = ts.length := by
      intro ts
      induction ts with
      | nil => intro vs ds ps h; cases vs <;> cases ds <;> first | rfl | exact h.elim
      | cons t ts ih =>
        intro vs ds ps h
        cases vs with
        | nil => exact h.elim
        | cons v vs =>
          cases ds with
          | nil => exact h.elim
          | cons d ds =>
            obtain ⟨_, _, _, h2, _⟩ := h
            simp [ih h2]
    rw [this hA]; simp
  rw [hvt, List.append_nil, List.append_nil] at hsz
  have hsz' : ∀ (j : Nat) t d, fn.params.toList[j]? = some t → ds[j]? = some d → SzW C.prog t d := fun j t d h1 h2 n hn => by
    have := List.all_eq_true.1 hsz n (DataW.weights_mem_each h1 h2 n hn)
    simpa using this
  refine (call W base args ds before hval hA hsz').mono fun e W' ⟨he, hb⟩ => ⟨_, he, ?_⟩
  have hs := hspec ds hlen
  refine post_of_below (pa := before) (pv := []) hW' (fun b sp hd => ?_) (fun sp hsp => ?_) (fun sp _ => ?_) (by simp) hb ?_
  · rw [List.append_nil, hs, hr]
    refine trodAll_mk1 ⟨1, ?_⟩
    simp [DataW.trod, htb, Value.cells]
  · rw [List.append_nil, hs]
    exact trodAll_below hl hb hc hA (fun x hx => hW'.lt x hx) sp hsp
  · rw [hv, List.append_nil, hs]
    rfl
  · exact ok_one hr rfl (okWide_bool_mk htb true)
end Go.VA

namespace Go.VA
open Go Go.RowKit Go.ChangeShapes Go.WideShapes Go.ChangeAt
section
variable {H : Type} {enc : TypeId × Value → H} {P : Program} {tb : TB} {w W : World} {base : Nat} {sp : Nat → Bool} {held : Bool} {t : TypeId}
/-- the value of an argument that is a slice: its one cell -/
theorem arg_slice (htb : TbOk P tb) {e : TypeId} (hk : (tb t).k = .slice e) {v : Value} {r : Reach} {b0 : Nat} (hval : Value.okWide P w r b0 t v) : v.cells.toList = [v] := by
  obtain ⟨d, h2, h3⟩ := (htb t).under (by rw [hk]; rfl)
  rw [hk] at h3
  simp only [TKok] at h3
  subst h3
  cases v <;> first | rfl | (exfalso; simp [Value.okWide, h2, Cell.okWide, Cell.ok] at hval)
/-- bytes that are handed over -/
theorem open_bytes (htb : TbOk P tb) {e : TypeId} (hk : (tb t).k = .slice e) (he : (tb e).k = .int .u8) (h1 : (tb e).sz = 1) (hb : (tb e).bytes = 1) {v : Value} {d : DataW H} {ps : List MemPlace} {r : Reach} {b0 : Nat}
    (hval : Value.okWide P W r b0 t v) (hd : DataW.Trod enc P W base sp held t v d ps) (hs : SzW P t d) :
    ∃ s : ByteArray, RelV [] (S0 W) (.c (.sl false 1 s.size (strCells s))) v := by
  have hc := arg_slice htb hk hval
  obtain ⟨fuel, hf⟩ := hd
  rw [hc] at hf
  obtain ⟨a, len, cap, m, e3, hm3, hlc, hcap0, hrows⟩ := tr_sliceS htb hk (by rw [he]; rfl) (by rw [h1]; decide) hf hs
  simp only [List.cons.injEq, and_true] at e3
  subst e3
  rw [hb] at hcap0
  rcases hrows with h0 | ⟨b, o, rfl, hr⟩
  · subst h0
    exact ⟨ByteArray.empty, by simp only [RelV]; exact repC_rows ⟨hlc, by simp⟩ (.inl rfl)⟩
  · have hex : ∀ i : Fin len, ∃ x : UInt8, W.cell? ⟨b, o + i * 1, none⟩ = some (.int .u8 (x.toNat : Int)) := by
      intro ⟨i, hi⟩
      obtain ⟨ce, y, hl, hc, ht, _⟩ := hr i hi
      obtain ⟨n, rfl, h0, h255⟩ := tr_int htb he ht
      have h0 : 0 ≤ n := h0
      have h255 : n ≤ 255 := h255
      refine ⟨UInt8.ofNat n.toNat, ?_⟩
      have := hc 0 (by rw [h1]; decide)
      rw [h1] at this
      simp only [Nat.add_zero] at this
      rw [this]
      have e : ((UInt8.ofNat n.toNat).toNat : Int) = n := by
        rw [UInt8.toNat_ofNat']
        omega
      rw [e]; rfl
    have hf := fun i => Classical.choose_spec (hex i)
    refine ⟨⟨(List.ofFn fun i => Classical.choose (hex i)).toArray⟩, ?_⟩
    have hsz : (ByteArray.mk (List.ofFn fun i => Classical.choose (hex i)).toArray).size = len := by simp [ByteArray.size]
    rw [hsz]
    simp only [RelV]
    refine repC_rows ⟨hlc, by omega⟩ (.inr ⟨b, o, rfl, fun i hi => ?_⟩)
    refine ⟨[.int .u8 ((Classical.choose (hex ⟨i, hi⟩)).toNat : Int)], rfl, fun j hj u hu => ?_, rfl, ?_⟩
    · obtain rfl : j = 0 := by omega
      simp at hu
      subst hu
      have := hf ⟨i, hi⟩
      simpa [S0] using this
    · have : strCells (ByteArray.mk (List.ofFn fun i => Classical.choose (hex i)).toArray) i = [.v (.int .u8 ((Classical.choose (hex ⟨i, hi⟩)).toNat : Int))] := by
        simp [strCells, hi]
      rw [this]
      simp only [RepVs]
      exact ⟨_, [], rfl, repV_i, rfl⟩
end
end Go.VA
