/- An executor of the model over symbolic values, and the proof that what it shows of a function holds of every call: no condition. -/
import Derived.Test.YtkcbgdbfnajdaaaVA
import Derived.DeepKeys
set_option linter.unusedSimpArgs false
set_option linter.unusedVariables false
namespace Go.VA
open Go Go.RowKit

section
variable {P : Program} {tb : TB} {gl : Gl}

theorem set_same {α : Type} {B : List α} {id : Nat} {x : α} (h : B[id]? = some x) : B.set id x = B := by
  apply List.ext_getElem?
  intro j
  by_cases hj : j = id
  · subst hj; rw [List.getElem?_set_self (List.getElem?_eq_some_iff.1 h).1, h]
  · rw [List.getElem?_set_ne (Ne.symm hj)]

/-- an object turns in place -/
theorem St.upd_same {X : Fx} {B : List (Option BI)} {env : Env} {L : List AO} {a : Act} {w : World} (h : St X B env L a w) {id : Nat} (hro : X.M.ro ≤ id) {bi : BI} {x' : AO}
    (hid : B[id]? = some (some bi)) (hlive : (getO L id).live = true) (hlive' : x'.live = true) (hkd : x'.kd = (getO L id).kd) (cur : Array Value) {ty : TypeId} {old : Array Value} (hh : w.heap[bi.b]? = some (.cells old ty (0, 0)))
    (hobj : (Sr X.M B L w).le (Sr X.M B (setO L id x') (w.setRow bi.b cur)) → RelO B (Sr X.M B (setO L id x') (w.setRow bi.b cur)) (w.setRow bi.b cur) x' (some bi)) :
    St X B env (setO L id x') a (w.setRow bi.b cur) := by
  have hB := set_same hid
  have hlt := live_lt hlive
  have hsz : (w.setRow bi.b cur).heap.size = w.heap.size := by simp [World.setRow]
  have hbl : bi.b < w.heap.size := h.relL.bnd id bi hid
  have := (h.upd (env' := env) (L' := setO L id x') (w' := w.setRow bi.b cur) hro (bo := some bi) (bo' := some bi) (x' := x') hid hlive hlive' (setO_length L id x') (by rw [getO_setO L id id x' hlt, if_pos rfl])
    (fun j hj => by rw [getO_setO L id j x' hlt, if_neg hj]) (fun j hj => by rw [getO_setO L id j x' hlt, if_neg hj]) hkd (fun _ => rfl) rfl rfl rfl (by rw [hsz]; exact Nat.le_refl _) (fun k hk hne => setRow_other w bi.b k cur (hne bi rfl))
    (fun bi' e => by simp only [Option.some.injEq] at e; subst e; exact ⟨by rw [hsz]; exact hbl, .inl ⟨bi, rfl, rfl⟩⟩)
    (fun hS j hj bj hr => by rw [getO_setO L id j x' hlt, if_neg hj, hB]; rw [hB] at hr; exact hr)
    (fun hS => by rw [hB] at hS ⊢; exact h.relE.mono (Ble.refl B) hS)
    (fun hS => by rw [hB] at hS ⊢; exact hobj hS)).1
  rwa [hB] at this

theorem splice_get {cur vs : List Value} {o : Nat} (h : o + vs.length ≤ cur.length) (j : Nat) :
    (cur.take o ++ vs ++ cur.drop (o + vs.length))[j]? = if o ≤ j ∧ j < o + vs.length then vs[j - o]? else cur[j]? := by
  by_cases h1 : j < o
  · rw [if_neg (by omega), List.append_assoc, List.getElem?_append_left (by simp; omega), List.getElem?_take, if_pos h1]
  · by_cases h2 : j < o + vs.length
    · rw [if_pos (by omega), List.append_assoc, List.getElem?_append_right (by simp; omega), List.length_take, Nat.min_eq_left (by omega), List.getElem?_append_left (by omega)]
    · rw [if_neg (by omega), List.getElem?_append_right (by simp; omega), List.length_append, List.length_take, Nat.min_eq_left (by omega), List.getElem?_drop]
      congr 1; omega

theorem splice_len {cur vs : List Value} {o : Nat} (h : o + vs.length ≤ cur.length) : (cur.take o ++ vs ++ cur.drop (o + vs.length)).length = cur.length := by
  simp; omega

theorem store_sound (htb : TbOk P tb) {X : Fx} (hgl : X.gl = gl) {ro : Nat} (hro : X.M.ro = ro) {B : List (Option BI)} {env : Env} {L : List AO} {a : Act} {w : World} (h : St X B env L a w) {o : Oper} {t : TypeId} {p x : Operand} (ho : o.op = .store t p x)
    {K : List AO → Prop} {K' : AV → Env → List AO → Prop} (hKK : ∀ L', K L' → K' .any env L') (hK : opStore tb ro L t (evO gl env .no .no p) (evO gl env .no .no x) K) : StepTo P X o env K' a w := by
  subst hgl; subst hro
  unfold opStore at hK
  have hoth : (tb t).k.isOther = false := by cases hk : (tb t).k <;> simp_all [TK.isOther]
  split at hK
  · exact hK.elim
  split at hK
  · exact hK.elim
  rename_i xs hxs
  split at hK
  · exact hK.elim
  rename_i hlen
  have hlen := Nat.beq_spec hlen
  obtain ⟨v1, v2⟩ := cells_rel hxs (evO_sound (key := .no) (key2 := .no) h.glob h.relE trivial trivial x)
  have vl := RelVs.length _ _ v1
  have ep := evO_sound (key := .no) (key2 := .no) h.glob h.relE trivial trivial p
  have hs := (htb t).size hoth w
  have vsz : (a.eval x).cells.size = (tb t).sz := by simp at vl; omega
  split at hK
  · rename_i id off hp
    rw [hp] at ep
    simp only [RelV] at ep
    obtain ⟨bi, hb, ep⟩ := ep
    split at hK
    · rename_i ys hO
      split at hK
      · exact hK.elim
      rename_i hro
      have hro := Nat.le_of_ble_eq_true hro
      split at hK
      · rename_i zs hz
        obtain ⟨g1, g2, g3⟩ := layA_spec _ _ _ _ hz
        have hob := h.relL.obj id _ hb
        rw [hO] at hob
        obtain ⟨bi', cs, ty, he, h1, h2, h3, h0, h4⟩ := hob
        simp only [Option.some.injEq] at he
        subst he
        have hcl := RelVs.length _ _ h4
        simp only [Array.length_toList] at hcl vl
        have hsp : off + (a.eval x).cells.toList.length ≤ cs.toList.length := by simp; omega
        have hst := run_storeCells_at (P := P) bi.b (bi.o + off) ty (a.eval x).cells.toList 0 cs w h1 (by simp; omega) v2
        simp only [Nat.add_zero, h2, Nat.zero_add] at hst
        have hrun : (execOp a.eval o).run P w = .ok .skip (w.setRow bi.b (cs.toList.take off ++ (a.eval x).cells.toList ++ cs.toList.drop (off + (a.eval x).cells.toList.length)).toArray) := by
          simp [execOp, ho, ep, h2, Instr.storeAt, Instr.sureAddr, storeVar, hs, vsz, hst]
        refine StepTo.skip hrun (hKK _ hK) rfl (h.upd_same hro hb (by rw [hO]; rfl) rfl (by rw [hO]; rfl) _ h1 fun hS => ?_)
        have hgl := splice_len hsp
        refine ⟨bi, _, ty, rfl, setRow_heap w bi.b cs _ ty (0, 0) h1, h2, by simp only [List.size_toArray]; rw [hgl]; simpa using h3, fun v hv => ?_, RelVs.mk _ _ ?_ fun j y hy => ?_⟩
        · obtain ⟨j, hj⟩ := List.mem_iff_getElem?.1 hv
          rw [splice_get hsp] at hj
          split at hj
          · exact v2 _ (List.mem_of_getElem? hj)
          · exact h0 _ (List.mem_of_getElem? hj)
        · simp only []; rw [hgl]; simp; omega
        · rw [g3] at hy
          simp only []
          rw [splice_get hsp]
          have e2 : (a.eval x).cells.toList.length = xs.length := by simpa using vl
          by_cases hq : off ≤ j ∧ j < off + xs.length
          · rw [if_pos hq] at hy
            rw [if_pos (by rw [e2]; exact hq)]
            obtain ⟨u, k1, k2⟩ := RelVs.nth _ _ _ _ v1 hy
            exact ⟨u, k1, RelV.mono (Ble.refl B) hS _ _ k2⟩
          · rw [if_neg hq] at hy
            rw [if_neg (by rw [e2]; exact hq)]
            obtain ⟨u, k1, k2⟩ := RelVs.nth _ _ _ _ h4 hy
            exact ⟨u, k1, RelV.mono (Ble.refl B) hS _ _ k2⟩
      · exact hK.elim
    · exact hK.elim
  · rename_i id esz i k hp
    rw [hp] at ep
    simp only [RelV] at ep
    obtain ⟨bi, hb, ep, hi⟩ := ep
    split at hK
    · rename_i e n f hO
      split at hK
      · rename_i hcond
        split at hcond
        · rename_i hes
          obtain rfl := Nat.beq_spec hes
          have hro := Nat.le_of_ble_eq_true hcond
          split at hK
          · rename_i cs hcs
            split at hK
            · rename_i hke
              have hke := Nat.le_of_ble_eq_true hke
              have rv := toCs_sound xs cs _ hcs v1
              have rvl := RepVs.length _ _ rv
              simp only [Array.length_toList] at rvl vl
              have hob := h.relL.obj id _ hb
              rw [hO] at hob
              obtain ⟨h0, cur, ty, h1, h2, h3, h4⟩ := hob
              have hin : i * e + e ≤ n * e := by
                have := Nat.mul_le_mul_right e (show i + 1 ≤ n by omega)
                rw [Nat.add_mul, Nat.one_mul] at this
                exact this
              have hsp : (bi.o + i * e + k) + (a.eval x).cells.toList.length ≤ cur.toList.length := by simp; omega
              have hst := run_storeCells_at (P := P) bi.b (bi.o + i * e + k) ty (a.eval x).cells.toList 0 cur w h1 (by simp; omega) v2
              simp only [Nat.add_zero] at hst
              have hrun : (execOp a.eval o).run P w = .ok .skip (w.setRow bi.b (cur.toList.take (bi.o + i * e + k) ++ (a.eval x).cells.toList ++ cur.toList.drop (bi.o + i * e + k + (a.eval x).cells.toList.length)).toArray) := by
                simp [execOp, ho, ep, Instr.storeAt, Instr.sureAddr, storeVar, hs, vsz, hst]
              refine StepTo.skip hrun (hKK _ hK) rfl (h.upd_same hro hb (by rw [hO]; rfl) rfl (by rw [hO]; rfl) _ h1 fun hS => ?_)
              have hgl := splice_len hsp
              refine ⟨h0, _, ty, setRow_heap w bi.b cur _ ty (0, 0) h1, by simp only [List.size_toArray]; rw [hgl]; simpa using h2, h3, fun q hq => ?_⟩
              obtain ⟨fl, fr⟩ := h4 q hq
              have hget : ∀ j, ((cur.toList.take (bi.o + i * e + k) ++ (a.eval x).cells.toList ++ cur.toList.drop (bi.o + i * e + k + (a.eval x).cells.toList.length)).toArray)[j]? =
                  if bi.o + i * e + k ≤ j ∧ j < bi.o + i * e + k + (tb t).sz then (a.eval x).cells.toList[j - (bi.o + i * e + k)]? else cur[j]? := by
                intro j
                rw [List.getElem?_toArray, splice_get hsp]
                simp only [Array.length_toList, vsz, Array.getElem?_toList]
              by_cases hqi : q = i
              · subst hqi
                simp only [updF, if_true]
                have hl1 : ((f q).take k).length = k := by simp; omega
                refine ⟨by simp; omega, RepCs.mk _ _ fun j y hy => ?_⟩
                rw [hget]
                by_cases j1 : j < k
                · rw [List.append_assoc, List.getElem?_append_left (by omega), List.getElem?_take, if_pos j1] at hy
                  rw [if_neg (by omega)]
                  obtain ⟨u, k1, k2⟩ := RepCs.nth _ _ _ _ fr hy
                  exact ⟨u, k1, RepC.mono hS _ _ k2⟩
                · by_cases j2 : j < k + (tb t).sz
                  · rw [List.append_assoc, List.getElem?_append_right (by omega), hl1, List.getElem?_append_left (by omega)] at hy
                    rw [if_pos (by omega)]
                    obtain ⟨u, k1, k2⟩ := RepVs.nth _ _ _ _ rv hy
                    refine ⟨u, ?_, RepC.mono hS _ _ k2⟩
                    rw [← k1]; congr 1; omega
                  · rw [List.getElem?_append_right (by simp; omega), List.getElem?_drop] at hy
                    rw [if_neg (by omega)]
                    have : k + (tb t).sz + (j - (List.take k (f q) ++ cs).length) = j := by simp; omega
                    rw [this] at hy
                    obtain ⟨u, k1, k2⟩ := RepCs.nth _ _ _ _ fr hy
                    exact ⟨u, k1, RepC.mono hS _ _ k2⟩
              · simp only [updF, hqi, if_false]
                refine ⟨fl, RepCs.mk _ _ fun j y hy => ?_⟩
                have hj : j < e := by have := (List.getElem?_eq_some_iff.1 hy).1; omega
                rw [hget, if_neg ?_]
                · obtain ⟨u, k1, k2⟩ := RepCs.nth _ _ _ _ fr hy
                  exact ⟨u, k1, RepC.mono hS _ _ k2⟩
                · rcases Nat.lt_or_ge q i with hlt | hge
                  · have := mul_lt_aux hlt hj
                    omega
                  · have := Nat.mul_le_mul_right e (show i + 1 ≤ q by omega)
                    rw [Nat.add_mul, Nat.one_mul] at this
                    omega
            · exact hK.elim
          · exact hK.elim
        · simp at hcond
      · exact hK.elim
    · exact hK.elim
  · exact hK.elim

end
end Go.VA

namespace Go.VA
open Go Go.RowKit

section
variable {P : Program} {tb : TB} {gl : Gl}

mutual
theorem free_rel {B : List (Option BI)} {S S' : Rd} {id : Nat} {bo : Option BI} (hS : S.le S') : ∀ (x : AV) (u : Value), x.free id = true → RelV B S x u → RelV (B.set id bo) S' x u
  | .any, _, _, _ => by simp [RelV]
  | .c x, u, _, h => by simp only [RelV] at h ⊢; exact RepC.mono hS _ _ h
  | .ag xs, u, _, h => by
    simp only [RelV] at h ⊢
    obtain ⟨arr, e, h⟩ := h
    exact ⟨arr, e, RepVs.mono hS _ _ h⟩
  | .agx xs, u, hf, h => by
    simp only [AV.free] at hf
    simp only [RelV] at h ⊢
    obtain ⟨arr, e, h0, h⟩ := h
    exact ⟨arr, e, h0, frees_rel hS xs _ hf h⟩
  | .ptr i off, u, hf, h => by
    simp only [AV.free] at hf
    split at hf
    · simp at hf
    · rename_i hne
      have hne : i ≠ id := fun e => by subst e; simp at hne
      simp only [RelV] at h ⊢
      obtain ⟨bi, hb, e⟩ := h
      exact ⟨bi, by rw [List.getElem?_set_ne (Ne.symm hne)]; exact hb, e⟩
  | .pe i e j k, u, hf, h => by
    simp only [AV.free] at hf
    split at hf
    · simp at hf
    · rename_i hne
      have hne : i ≠ id := fun e => by subst e; simp at hne
      simp only [RelV] at h ⊢
      obtain ⟨bi, hb, e⟩ := h
      exact ⟨bi, by rw [List.getElem?_set_ne (Ne.symm hne)]; exact hb, e⟩
  | .sp t xs k, u, _, h => by
    simp only [RelV] at h ⊢
    obtain ⟨b, o, e, h⟩ := h
    exact ⟨b, o, e, RepCs.mono hS (hS t b) _ _ h⟩
  | .own i e off len, u, hf, h => by
    simp only [AV.free] at hf
    split at hf
    · simp at hf
    · rename_i hne
      have hne : i ≠ id := fun e => by subst e; simp at hne
      simp only [RelV] at h ⊢
      rcases h with ⟨bi, cap, hb, h⟩ | ⟨h1, h2, b0, hb⟩
      · exact .inl ⟨bi, cap, by rw [List.getElem?_set_ne (Ne.symm hne)]; exact hb, h⟩
      · exact .inr ⟨h1, h2, b0, by rw [List.getElem?_set_ne (Ne.symm hne)]; exact hb⟩
  | .tup xs, u, hf, h => by
    simp only [AV.free] at hf
    simp only [RelV] at h ⊢
    obtain ⟨arr, e, h⟩ := h
    exact ⟨arr, e, frees_rel hS xs _ hf h⟩
  | .fn f xs ys, u, hf, h => by
    simp only [AV.free] at hf
    split at hf
    · rename_i hf1
      simp only [RelV] at h ⊢
      obtain ⟨a1, a2, e, h1, h2⟩ := h
      exact ⟨a1, a2, e, frees_rel hS xs _ hf1 h1, frees_rel hS ys _ hf h2⟩
    · simp at hf
  | .gd .., _, hf, _ => by simp [AV.free] at hf
  | .mpv i, u, hf, h => by
    simp only [AV.free] at hf
    split at hf
    · simp at hf
    · rename_i hne
      have hne : i ≠ id := fun e => by subst e; simp at hne
      simp only [RelV] at h ⊢
      obtain ⟨bi, hb, e⟩ := h
      exact ⟨bi, by rw [List.getElem?_set_ne (Ne.symm hne)]; exact hb, e⟩
  | .ub p, u, _, h => by simpa only [RelV] using h
theorem frees_rel {B : List (Option BI)} {S S' : Rd} {id : Nat} {bo : Option BI} (hS : S.le S') : ∀ (xs : List AV) (us : List Value), AV.frees id xs = true → RelVs B S xs us → RelVs (B.set id bo) S' xs us
  | [], us, _, h => by simpa [RelVs] using h
  | x :: xs, us, hf, h => by
    simp only [AV.frees] at hf
    split at hf
    · rename_i hf1
      simp only [RelVs] at h ⊢
      obtain ⟨u, r, e, h1, h2⟩ := h
      exact ⟨u, r, e, free_rel hS x u hf1 h1, frees_rel hS xs r hf h2⟩
    · simp at hf
end

theorem purge_rel {B : List (Option BI)} {S S' : Rd} {id : Nat} {bo : Option BI} (hS : S.le S') (x : AV) (u : Value) (h : RelV B S x u) : RelV (B.set id bo) S' (x.purge id) u := by
  unfold AV.purge
  split
  · rename_i hf; exact free_rel hS x u hf h
  · simp [RelV]

theorem purge_gkey (id : Nat) (x : AV) (h : gkey x = none) : gkey (x.purge id) = none := by
  unfold AV.purge
  split
  · exact h
  · rfl

theorem purgeE_keys (id : Nat) : ∀ (env : Env), keysE (purgeE id env) = keysE env
  | [] => rfl
  | (s, x) :: r => by
    have ih := purgeE_keys id r
    unfold keysE at ih ⊢
    cases x <;> simp only [purgeE, List.map_cons, ih, List.cons.injEq, and_true]
    case gd => rfl
    all_goals exact purge_gkey id _ rfl

theorem relSl_iff {B : List (Option BI)} {S : Rd} {a : Act} {x : AV} {u : Value} (h : gkey x = none) : RelSl B S a x u ↔ RelV B S x u := by
  cases x <;> simp only [gkey, reduceCtorEq] at h <;> exact Iff.rfl

theorem purgeE_rel {B : List (Option BI)} {S S' : Rd} {id : Nat} {bo : Option BI} {a : Act} (hS : S.le S') : ∀ (env : Env) (t : Nat), RelSl B S a (get env t) (a.tmps.getD t undef) → RelSl (B.set id bo) S' a (get (purgeE id env) t) (a.tmps.getD t undef)
  | [], t, _ => by simp [purgeE, get, RelSl, RelV]
  | (s, x) :: r, t, h => by
    have ih := purgeE_rel (B := B) (S := S) (S' := S') (id := id) (bo := bo) (a := a) hS r t
    cases x
    case gd s' w y =>
      simp only [purgeE, get] at h ⊢
      split
      · rename_i hs
        simp only [hs] at h
        simp only [RelSl] at h ⊢
        exact ⟨fun e => purge_rel hS _ _ (h.1 e), h.2⟩
      · rename_i hs
        simp only [hs] at h
        exact ih h
    all_goals
      simp only [purgeE, get] at h ⊢
      split
      · rename_i hs
        simp only [hs, RelSl] at h
        exact (relSl_iff (purge_gkey id _ rfl)).2 (purge_rel hS _ _ h)
      · rename_i hs
        simp only [hs] at h
        exact ih h

def purgeO (id : Nat) : AO → AO
  | .box xs => .box (xs.map (AV.purge id))
  | .amb vs xs => .amb vs (xs.map (AV.purge id))
  | x => x

theorem purgeL_get (id : Nat) : ∀ (L : List AO) (j : Nat), getO (purgeL id L) j = purgeO id (getO L j)
  | [], j => by simp [purgeL, getO, purgeO]
  | x :: r, 0 => by cases x <;> simp [purgeL, getO, purgeO]
  | x :: r, j + 1 => by cases x <;> simp [purgeL, getO, purgeL_get id r j]

theorem purgeL_length (id : Nat) : ∀ (L : List AO), (purgeL id L).length = L.length
  | [] => rfl
  | x :: r => by cases x <;> simp [purgeL, purgeL_length id r]

theorem purgeO_live (id : Nat) (x : AO) : (purgeO id x).live = x.live := by cases x <;> rfl

theorem purgeO_kd (id : Nat) (x : AO) : (purgeO id x).kd = x.kd := by cases x <;> rfl

theorem purges_rel {B : List (Option BI)} {S S' : Rd} {id : Nat} {bo : Option BI} (hS : S.le S') : ∀ (xs : List AV) (us : List Value), RelVs B S xs us → RelVs (B.set id bo) S' (xs.map (AV.purge id)) us
  | [], us, h => by simpa [RelVs] using h
  | x :: xs, us, h => by
    simp only [RelVs, List.map_cons] at h ⊢
    obtain ⟨u, r, e, h1, h2⟩ := h
    exact ⟨u, r, e, purge_rel hS x u h1, purges_rel hS xs r h2⟩

theorem purgeO_rel {B : List (Option BI)} {S : Rd} {w : World} {id : Nat} {bo : Option BI} (x : AO) (bj : Option BI) (h : RelO B S w x bj) : RelO (B.set id bo) S w (purgeO id x) bj := by
  cases x with
  | box xs =>
    obtain ⟨bi, cs, ty, e, h1, h2, h3, h4, h5⟩ := h
    exact ⟨bi, cs, ty, e, h1, h2, h3, h4, purges_rel (Rd.le_refl S) _ _ h5⟩
  | row e n f => cases bj <;> exact h
  | frz e n f => cases bj <;> exact h
  | mp m => exact h
  | amb vs xs => exact purges_rel (Rd.le_refl S) _ _ h
  | dead => trivial

/-- a row of the call's own becomes another one, in its block or in a new one -/
theorem St.rerow {X : Fx} {B : List (Option BI)} {env : Env} {L : List AO} {a : Act} {w w' : World} (h : St X B env L a w) {id : Nat} (hro : X.M.ro ≤ id) {bo bo' : Option BI} (esz n : Nat) (f : Nat → List C)
    (hid : B[id]? = some bo) (hlive : (getO L id).live = true) (hkd : (getO L id).kd = 3) (hos : w'.os = w.os) (htape : w'.tape = w.tape) (hout : w'.output = w.output)
    (hsz : w.heap.size ≤ w'.heap.size) (hheap : ∀ k, k < w.heap.size → (∀ bi, bo = some bi → k ≠ bi.b) → w'.heap[k]? = w.heap[k]?)
    (hb' : ∀ bi', bo' = some bi' → bi'.b < w'.heap.size ∧ ((∃ bi, bo = some bi ∧ bi.b = bi'.b) ∨ w.heap.size ≤ bi'.b))
    (hobj : (Sr X.M B L w).le (Sr X.M (B.set id bo') (purgeL id (setO L id (.row esz n f))) w') → RelO (B.set id bo') (Sr X.M (B.set id bo') (purgeL id (setO L id (.row esz n f))) w') w' (.row esz n f) bo') :
    St X (B.set id bo') (purgeE id env) (purgeL id (setO L id (.row esz n f))) a w' := by
  have hlt := live_lt hlive
  exact (h.upd (env' := purgeE id env) (L' := purgeL id (setO L id (.row esz n f))) hro hid hlive rfl (by rw [purgeL_length, setO_length]) (by rw [purgeL_get, getO_setO L id id _ hlt, if_pos rfl]; rfl)
    (fun j hj => by rw [purgeL_get, purgeO_live, getO_setO L id j _ hlt, if_neg hj])
    (fun j hj => by rw [purgeL_get, purgeO_kd, getO_setO L id j _ hlt, if_neg hj]) (by rw [hkd]; rfl) (fun h3 => absurd rfl h3) hos htape hout hsz hheap hb'
    (fun hS j hj bj hr => by rw [purgeL_get, getO_setO L id j _ hlt, if_neg hj]; exact purgeO_rel _ _ hr)
    (fun hS t => purgeE_rel hS env t (h.relE t)) hobj).1

end
end Go.VA

namespace Go.VA
open Go Go.RowKit

section
variable {P : Program} {tb : TB} {gl : Gl}

/-- old elements, then new ones, as they lie behind an append -/
theorem catF_rep {S : Rd} {esz off len m o : Nat} {f g : Nat → List C} {R : Nat → Value → Prop} {cs : Array Value} (hg : Cells S esz m g cs)
    (hf : ∀ i, i < len → (f (off + i)).length = esz ∧ RepCs S R (o + i * esz) (f (off + i))) (hR : ∀ j u, cs[j]? = some u → R (o + len * esz + j) u) :
    ∀ i, i < len + m → (catF off len f g i).length = esz ∧ RepCs S R (o + i * esz) (catF off len f g i) := by
  intro i hi
  unfold catF
  by_cases h : i < len
  · rw [if_pos h]; exact hf i h
  · rw [if_neg h]
    obtain ⟨k1, k2⟩ := hg.rep (i - len) (by omega)
    refine ⟨k1, RepCs.mk _ _ fun j x hx => ?_⟩
    obtain ⟨u, r1, r2⟩ := RepCs.nth _ _ _ _ k2 hx
    refine ⟨u, ?_, r2⟩
    have := hR _ u r1
    have e : o + len * esz + ((i - len) * esz + j) = o + i * esz + j := by
      have : i * esz = len * esz + (i - len) * esz := by rw [← Nat.add_mul]; congr 1; omega
      omega
    rwa [e] at this

theorem below_drew_alloc (w : World) (o : Obj) : Below w.heap.size w ((w.drew).alloc o) := (Below.refl _ _).drew.alloc (Nat.le_refl _) _

theorem heap_drew_alloc (w : World) (o : Obj) : ((w.drew).alloc o).heap[w.heap.size]? = some o := by
  have := heap_alloc w.drew o
  simpa using this

theorem append_sound (htb : TbOk P tb) {X : Fx} (hgl : X.gl = gl) {ro : Nat} (hro : X.M.ro = ro) {B : List (Option BI)} {env : Env} {L : List AO} {a : Act} {w : World} (h : St X B env L a w) {o : Oper} {c : Call} {t t2 : TypeId} {x y : Operand}
    (ho : o.op = .call c) (hc : c.callee = .builtin .append) (hargs : c.args.toList = [x, y]) (hts : c.argTypes.toList = [t, t2])
    {K : AV → Env → List AO → Prop} (hK : opAppend tb ro env L t t2 (evO gl env .no .no x) (evO gl env .no .no y) K) : StepTo P X o env K a w := by
  subst hgl; subst hro
  have e1 : c.args.map a.eval = #[a.eval x, a.eval y] := by apply Array.ext'; simp [hargs]
  have e2 : c.argTypes = #[t, t2] := by apply Array.ext'; simp [hts]
  have hexec : ∀ r w', (Builtin.append_ #[t, t2] o.type #[a.eval x, a.eval y]).run P w = .ok r w' → (execOp a.eval o).run P w = .ok (.value r) w' := by
    intro r w' hr
    simp [execOp, ho, resolve, hc, invoke, builtin, e1, e2, hr]
  unfold opAppend at hK
  split at hK
  · rename_i e hk
    split at hK
    · exact hK.elim
    rename_i hoth
    split at hK
    · exact hK.elim
    rename_i hseq
    split at hK
    · exact hK.elim
    rename_i hby
    have hby := Nat.le_of_ble_eq_true hby
    obtain ⟨m, g, hK, hsrc⟩ := srcK_sound (P := P) hK
    obtain ⟨cs, hsrc⟩ := hsrc X.M B w _ h.relL (evO_sound (key := .no) (key2 := .no) h.glob h.relE trivial trivial y)
    have ex := evO_sound (key := .no) (key2 := .no) h.glob h.relE trivial trivial x
    -- onto nothing
    have fromNone : ∀ (u : Option Addr), a.eval x = .slice u 0 0 → m * (tb e).bytes ≤ 140737488355328 → K (.own L.length (tb e).sz 0 m) env (L ++ [.row (tb e).sz m g]) → StepTo P X o env K a w := by
      intro u hu hb hK
      rcases Nat.eq_zero_or_pos m with rfl | hm
      · have hr := run_append_zero (ty := o.type) htb hk hoth hseq hsrc u
        obtain ⟨h1, h2⟩ := h.push (Below.refl _ w) none (.row (tb e).sz 0 g) (fun bi e => by simp at e) (fun _ => rfl)
        refine StepTo.value (u := .slice u 0 0) (hexec _ _ (by rw [hu]; exact hr)) hK rfl h1 ?_
        simp only [RelV]
        refine .inr ⟨trivial, ⟨_, rfl⟩, none, ?_⟩
        rw [← h.relL.len]; simp
      · obtain ⟨newCap, rest, n1, n2, hr⟩ := run_append_grow (ty := o.type) htb hk hoth hseq hby hsrc u 0 0 #[] (by cases u <;> simp [Builtin.firstCells, loadCells, loadCellsFrom]) (by omega) (by simpa using hb)
        have hcs := hsrc.cells.size
        simp only [Nat.zero_add] at n1 n2 hr
        have hsum : newCap * (tb e).sz = m * (tb e).sz + (newCap - m) * (tb e).sz := by rw [← Nat.add_mul]; congr 1; omega
        obtain ⟨B', g1, g2⟩ := h.row (below_drew_alloc w _) (#[] ++ cs ++ rest) e (heap_drew_alloc w _) (by simp) (tb e).sz m newCap g n1 (Nat.le_trans (Nat.le_mul_of_pos_right _ hby) hb) (by simp [hcs, n2]; omega) (fun i hi => by
          obtain ⟨k1, k2⟩ := hsrc.cells.rep i hi
          refine ⟨k1, RepCs.mono (Rd.le_refl _) (fun q v hv => ?_) _ _ k2⟩
          have hq : q < cs.size := (Array.getElem?_eq_some_iff.1 hv).1
          rw [Array.getElem?_append_left (by simp; omega)]
          simpa using hv)
        exact StepTo.value (hexec _ _ (by rw [hu]; exact hr)) hK rfl g1 g2
    split at hK
    · -- onto an own row
      rename_i id esz off len hx
      rw [hx] at ex
      split at hK
      · rename_i hes
        obtain rfl := Nat.beq_spec hes
        split at hK
        · rename_i e2' n f hO
          split at hK
          · rename_i hcond
            split at hcond
            · rename_i he2
              obtain rfl := Nat.beq_spec he2
              have hro := Nat.le_of_ble_eq_true hcond
              obtain ⟨hb, hK⟩ := hK
              have hlive : (getO L id).live = true := by rw [hO]; rfl
              have hkd : (getO L id).kd = 3 := by rw [hO]; rfl
              have hlt := live_lt hlive
              simp only [RelV] at ex
              rcases ex with ⟨bi, cap, hbi, hv, q1, q2, q3⟩ | ⟨hl0, ⟨u, hv⟩, b0, hb0⟩
              · have hob := h.relL.obj id _ hbi
                have hrr := row_read h.relL (.inl hO) hbi
                rw [hO] at hob
                obtain ⟨h0, cur, ty, h1, h2, h3, h4⟩ := hob
                have hbl := h.relL.bnd id bi hbi
                have hidl : id < B.length := (List.getElem?_eq_some_iff.1 hbi).1
                by_cases hroom : len + m ≤ cap
                · -- in place
                  have hsz : bi.o + off * (tb e).sz + (len + m) * (tb e).sz ≤ cur.size := by
                    have := Nat.mul_le_mul_right (tb e).sz hroom
                    have e3 : (off + cap) * (tb e).sz = off * (tb e).sz + cap * (tb e).sz := Nat.add_mul ..
                    omega
                  have hr := run_append_room (ty := o.type) htb hk hoth hseq hsrc bi.b (bi.o + off * (tb e).sz) len cap cur ty h1 hroom hsz
                  have hcs := hsrc.cells.size
                  have hsp : bi.o + off * (tb e).sz + len * (tb e).sz + cs.toList.length ≤ cur.toList.length := by
                    rw [Nat.add_mul] at hsz
                    simp only [Array.length_toList, hcs]; omega
                  have hrd : ∀ j, ((cur.toList.take (bi.o + off * (tb e).sz + len * (tb e).sz) ++ cs.toList ++ cur.toList.drop (bi.o + off * (tb e).sz + len * (tb e).sz + cs.size)).toArray)[j]? =
                      if bi.o + off * (tb e).sz + len * (tb e).sz ≤ j ∧ j < bi.o + off * (tb e).sz + len * (tb e).sz + cs.size then cs[j - (bi.o + off * (tb e).sz + len * (tb e).sz)]? else cur[j]? := by
                    intro j
                    have := splice_get hsp j
                    simp only [Array.length_toList, Array.getElem?_toList] at this
                    rw [List.getElem?_toArray, this]
                  generalize hcur' : (cur.toList.take (bi.o + off * (tb e).sz + len * (tb e).sz) ++ cs.toList ++ cur.toList.drop (bi.o + off * (tb e).sz + len * (tb e).sz + cs.size)).toArray = cur' at hr hrd
                  have hcl : cur'.size = cur.size := by
                    rw [← hcur', List.size_toArray]
                    have := splice_len hsp
                    simp only [Array.length_toList] at this
                    rw [this]
                  have hst := h.rerow hro (w' := w.setRow bi.b cur') (bo' := some ⟨bi.b, bi.o + off * (tb e).sz, bi.sz, len + m⟩) (tb e).sz (len + m) (catF off len f g) hbi hlive hkd rfl rfl rfl (by simp [World.setRow])
                    (fun k _ hne => setRow_other w bi.b k cur' (hne bi rfl)) (fun bi' e => by simp only [Option.some.injEq] at e; subst e; exact ⟨by simp [World.setRow]; exact hbl, .inl ⟨bi, rfl, rfl⟩⟩)
                    (fun hS => ⟨rfl, cur', ty, setRow_heap w bi.b cur cur' ty (0, 0) h1, by rw [hcl]; exact h2, by simp only []; omega, catF_rep (hsrc.cells.mono hS)
                      (fun i hi => by
                        obtain ⟨k1, k2⟩ := h4 (off + i) (by omega)
                        refine ⟨k1, RepCs.mk _ _ fun j z hz => ?_⟩
                        obtain ⟨v, r1, r2⟩ := RepCs.nth _ _ _ _ k2 hz
                        refine ⟨v, ?_, RepC.mono hS _ _ r2⟩
                        have hj : j < (tb e).sz := by have := (List.getElem?_eq_some_iff.1 hz).1; omega
                        have := mul_lt_aux hi hj
                        have e3 : bi.o + off * (tb e).sz + i * (tb e).sz + j = bi.o + (off + i) * (tb e).sz + j := by rw [Nat.add_mul]; omega
                        rw [e3, hrd, if_neg (by rw [Nat.add_mul]; omega)]
                        exact r1)
                      (fun j v hv => by
                        have hj : j < cs.size := (Array.getElem?_eq_some_iff.1 hv).1
                        simp only []
                        rw [hrd, if_pos (by omega)]
                        rw [← hv]; congr 1; omega)⟩)
                  refine StepTo.value (hexec _ _ (by rw [hv]; exact hr)) hK (purgeE_keys id env) hst ?_
                  simp only [RelV]
                  refine .inl ⟨⟨bi.b, bi.o + off * (tb e).sz, bi.sz, len + m⟩, cap, List.getElem?_set_self hidl, by simp, ⟨hroom, Nat.le_trans (Nat.le_mul_of_pos_right _ hby) hb⟩, ?_, by simp⟩
                  simp only [Nat.zero_add]
                  rw [Nat.add_mul] at q2
                  omega
                · -- a new block
                  have hsold : Src P (Sr X.M B L w) (tb e).sz len (fun i => f (off + i)) (.slice (some ⟨bi.b, bi.o + off * (tb e).sz, none⟩) len cap) w _ := Src.of_slice fun i hi => by
                    obtain ⟨k1, k2⟩ := hrr.2 (off + i) (by omega)
                    refine ⟨k1, ?_⟩
                    rw [show bi.o + off * (tb e).sz + i * (tb e).sz = bi.o + (off + i) * (tb e).sz from by rw [Nat.add_mul]; omega]
                    exact k2
                  generalize hold : ((List.range (len * (tb e).sz)).map fun j => (w.cell? ⟨bi.b, bi.o + off * (tb e).sz + j, none⟩).getD undef).toArray = old at hsold
                  obtain ⟨newCap, rest, n1, n2, hr⟩ := run_append_grow (ty := o.type) htb hk hoth hseq hby hsrc (some ⟨bi.b, bi.o + off * (tb e).sz, none⟩) len cap old hsold.drew (by omega) hb
                  have hcs := hsrc.cells.size
                  have hos := hsold.cells.size
                  have hsum : newCap * (tb e).sz = (len + m) * (tb e).sz + (newCap - (len + m)) * (tb e).sz := by rw [← Nat.add_mul]; congr 1; omega
                  have hsum2 : (len + m) * (tb e).sz = len * (tb e).sz + m * (tb e).sz := Nat.add_mul ..
                  have htot : (old ++ cs ++ rest).size = newCap * (tb e).sz := by simp only [Array.size_append, hcs, hos, n2]; omega
                  have hst := h.rerow hro (w' := (w.drew).alloc (.cells (old ++ cs ++ rest) e)) (bo' := some ⟨w.heap.size, 0, newCap * (tb e).sz, len + m⟩) (tb e).sz (len + m) (catF off len f g) hbi hlive hkd rfl rfl rfl (by simp)
                    (fun k hk _ => (below_drew_alloc w _).block k hk) (fun bi' e => by simp only [Option.some.injEq] at e; subst e; exact ⟨by simp, .inr (Nat.le_refl _)⟩)
                    (fun hS => ⟨rfl, _, e, heap_drew_alloc w _, htot.symm, by simp only []; omega, fun i hi => by
                      have := catF_rep (S := Sr X.M (B.set id (some ⟨w.heap.size, 0, newCap * (tb e).sz, len + m⟩)) (purgeL id (setO L id (.row (tb e).sz (len + m) (catF off len f g)))) ((w.drew).alloc (.cells (old ++ cs ++ rest) e)))
                        (o := 0) (off := off) (f := f) (R := fun q v => (old ++ cs ++ rest)[q]? = some v) (hsrc.cells.mono hS) (len := len)
                        (fun i hi => by
                          obtain ⟨k1, k2⟩ := hsold.cells.rep i hi
                          refine ⟨k1, RepCs.mono hS (fun q v hv => ?_) _ _ (by simpa using k2)⟩
                          have hq : q < old.size := (Array.getElem?_eq_some_iff.1 hv).1
                          rw [Array.append_assoc, Array.getElem?_append_left hq]; exact hv)
                        (fun j v hv => by
                          have hj : j < cs.size := (Array.getElem?_eq_some_iff.1 hv).1
                          rw [Array.append_assoc, Array.getElem?_append_right (by omega), Array.getElem?_append_left (by omega)]
                          rw [← hv]; congr 1; omega) i hi
                      exact this⟩)
                  refine StepTo.value (hexec _ _ (by rw [hv]; exact hr)) hK (purgeE_keys id env) hst ?_
                  simp only [RelV]
                  refine .inl ⟨⟨w.heap.size, 0, newCap * (tb e).sz, len + m⟩, newCap, List.getElem?_set_self hidl, by simp, ⟨n1, Nat.le_trans (Nat.le_mul_of_pos_right _ hby) hb⟩, by simp, by simp⟩
              · -- an empty one
                subst hl0
                have hidl : id < B.length := (List.getElem?_eq_some_iff.1 hb0).1
                simp only [Nat.zero_add] at hb hK
                rcases Nat.eq_zero_or_pos m with rfl | hm
                · have hr := run_append_zero (ty := o.type) htb hk hoth hseq hsrc u
                  have hst := h.rerow hro (w' := w) (bo' := none) (tb e).sz 0 (catF off 0 f g) hb0 hlive hkd rfl rfl rfl (Nat.le_refl _) (fun _ _ _ => rfl) (fun bi' e => by simp at e) (fun _ => rfl)
                  refine StepTo.value (u := .slice u 0 0) (hexec _ _ (by rw [hv]; exact hr)) hK (purgeE_keys id env) hst ?_
                  simp only [RelV]
                  exact .inr ⟨trivial, ⟨_, rfl⟩, none, List.getElem?_set_self hidl⟩
                · obtain ⟨newCap, rest, n1, n2, hr⟩ := run_append_grow (ty := o.type) htb hk hoth hseq hby hsrc u 0 0 #[] (by cases u <;> simp [Builtin.firstCells, loadCells, loadCellsFrom]) (by omega) (by simpa using hb)
                  have hcs := hsrc.cells.size
                  simp only [Nat.zero_add] at n1 n2 hr
                  have hsum : newCap * (tb e).sz = m * (tb e).sz + (newCap - m) * (tb e).sz := by rw [← Nat.add_mul]; congr 1; omega
                  have htot : (#[] ++ cs ++ rest : Array Value).size = newCap * (tb e).sz := by simp only [Array.size_append, hcs, n2, List.size_toArray, List.length_nil]; omega
                  have hst := h.rerow hro (w' := (w.drew).alloc (.cells (#[] ++ cs ++ rest) e)) (bo' := some ⟨w.heap.size, 0, newCap * (tb e).sz, m⟩) (tb e).sz m (catF off 0 f g) hb0 hlive hkd rfl rfl rfl (by simp)
                    (fun k hk _ => (below_drew_alloc w _).block k hk) (fun bi' e => by simp only [Option.some.injEq] at e; subst e; exact ⟨by simp, .inr (Nat.le_refl _)⟩)
                    (fun hS => ⟨rfl, _, e, heap_drew_alloc w _, htot.symm, by simp only []; omega, fun i hi => by
                      have := catF_rep (S := Sr X.M (B.set id (some ⟨w.heap.size, 0, newCap * (tb e).sz, m⟩)) (purgeL id (setO L id (.row (tb e).sz m (catF off 0 f g)))) ((w.drew).alloc (.cells (#[] ++ cs ++ rest) e)))
                        (o := 0) (off := off) (f := f) (R := fun q v => (#[] ++ cs ++ rest : Array Value)[q]? = some v) (hsrc.cells.mono hS) (len := 0)
                        (fun i hi => by omega)
                        (fun j v hv => by
                          have hj : j < cs.size := (Array.getElem?_eq_some_iff.1 hv).1
                          rw [Array.getElem?_append_left (by simp; omega)]
                          simpa using hv) i (by omega)
                      exact this⟩)
                  refine StepTo.value (hexec _ _ (by rw [hv]; exact hr)) hK (purgeE_keys id env) hst ?_
                  simp only [RelV]
                  refine .inl ⟨⟨w.heap.size, 0, newCap * (tb e).sz, m⟩, newCap, List.getElem?_set_self hidl, by simp, ⟨n1, Nat.le_trans (Nat.le_mul_of_pos_right _ hby) hb⟩, by simp, by simp⟩
            · simp at hcond
          · exact hK.elim
        · exact hK.elim
      · exact hK.elim
    · rename_i hx
      rw [hx] at ex
      simp only [RelV, RepC] at ex
      obtain ⟨u, hu⟩ := ex
      exact fromNone u hu hK.1 (by have h9 := hK.2; rw [appK0] at h9; exact h9)
    · rename_i hx
      rw [hx] at ex
      simp only [RelV, RepC] at ex
      exact fromNone none ex.1 hK.1 (by have h9 := hK.2; rw [appK0] at h9; exact h9)
    · exact hK.elim
  · exact hK.elim

end
end Go.VA

namespace Go.VA
open Go Go.RowKit

section
variable {P : Program} {tb : TB} {gl : Gl}

theorem pure_step (htb : TbOk P tb) {X : Fx} (hgl : X.gl = gl) {B : List (Option BI)} {env : Env} {L : List AO} {a : Act} {w : World} (h : St X B env L a w) {o : Oper}
    {K : AV → Env → List AO → Prop} (hK : opPure P tb gl env .no L o.op fun x => K x env L) : StepTo P X o env K a w := by
  obtain ⟨x, hx, hp⟩ := opPure_sound htb hK
  intro next Q hn
  subst hgl
  refine hp X.M B a w h.relL h.glob h.relE trivial next Q fun u w' ⟨h1, h2⟩ => ?_
  exact hn _ _ _ _ _ _ hx rfl (h.ext h1) h2

/-! ### Rows that are written no more -/

theorem setO_live {L : List AO} {id : Nat} {x : AO} (hx : x.live = false) {j : Nat} (h : (getO (setO L id x) j).live = true) : j ≠ id ∧ (getO L j).live = true := by
  by_cases hid : id < L.length
  · rw [getO_setO L id j x hid] at h
    split at h
    · rw [hx] at h; simp at h
    · rename_i hj; exact ⟨hj, h⟩
  · have : setO L id x = L := by
      have : ∀ (L : List AO) (id : Nat), L.length ≤ id → setO L id x = L := by
        intro L
        induction L with
        | nil => intro id _; cases id <;> rfl
        | cons y r ih =>
          intro id hl
          cases id with
          | zero => simp at hl
          | succ id => simp only [setO]; rw [ih id (by simpa using hl)]
      exact this L id (by omega)
    rw [this] at h
    refine ⟨fun e => ?_, h⟩
    have := live_lt h
    omega

theorem MU_unlive {M : Mz} {B : List (Option BI)} {L : List AO} {id : Nat} {x : AO} (hx : x.live = false) (t : Bool) (b : Nat) (h : MU M B (setO L id x) t b) : MU M B L t b := by
  cases t with
  | false =>
    rcases h with h | ⟨j, bi, h1, h2, h3⟩
    · exact .inl h
    · exact .inr ⟨j, bi, h1, h2, (setO_live hx h3).2⟩
  | true =>
    rcases h with h | ⟨j, bi, h0, h1, h2, h3⟩
    · exact .inl h
    · exact .inr ⟨j, bi, h0, h1, h2, (setO_live hx h3).2⟩

theorem Sr_unlive {M : Mz} {B : List (Option BI)} {L : List AO} {w : World} {id : Nat} {x : AO} (hx : x.live = false) : (Sr M B L w).le (Sr M B (setO L id x) w) :=
  fun t b o u h => ⟨fun hm => h.1 (MU_unlive hx t b hm), h.2⟩

theorem RelL.unlive {M : Mz} {B : List (Option BI)} {L : List AO} {w : World} (hL : RelL M B L w) {id : Nat} (hid : id < L.length) {x : AO} (hx : x.live = false)
    (hobj : ∀ bo, B[id]? = some bo → RelO B (Sr M B (setO L id x) w) w x bo) : RelL M B (setO L id x) w where
  len := by rw [setO_length]; exact hL.len
  bnd := hL.bnd
  mbnd := hL.mbnd
  notM j bi h hl := hL.notM j bi h (setO_live hx hl).2
  dist i j bi bj hij hi hj hli hlj := hL.dist i j bi bj hij hi hj (setO_live hx hli).2 (setO_live hx hlj).2
  obj j bo h := by
    rw [getO_setO L id j x hid]
    split
    · rename_i e; subst e; exact hobj bo h
    · exact RelO_ext (Sr_unlive hx) (Below.refl _ w) _ _ (fun bi e => hL.bnd j bi (e ▸ h)) (hL.obj j bo h)

theorem St.unlive {X : Fx} {B : List (Option BI)} {env : Env} {L : List AO} {a : Act} {w : World} (h : St X B env L a w) {id : Nat} (hro : X.M.ro ≤ id) (hid : id < L.length) {x : AO} (hx : x.live = false)
    (hk : x.kd = 0 ∨ x.kd = (getO L id).kd) (hobj : ∀ bo, B[id]? = some bo → RelO B (Sr X.M B (setO L id x) w) w x bo) : St X B env (setO L id x) a w where
  relL := h.relL.unlive hid hx hobj
  glob := h.glob.mono (Sr_unlive hx)
  relE := h.relE.mono (Ble.refl B) (Sr_unlive hx)
  below := h.below
  fresh j bi h0 h1 h2 := h.fresh j bi h0 h1 (setO_live hx h2).2
  old j hj := by
    rw [getO_setO L id j x hid, if_neg (by omega)]
    exact h.old j hj
  rol := by rw [setO_length]; exact h.rol
  l0 := by rw [setO_length]; exact h.l0
  knd j h0 h1 := by
    rw [setO_length] at h1
    rw [getO_setO L id j x hid]
    split
    · rename_i e
      subst e
      rcases hk with hk | hk
      · exact .inl hk
      · rw [hk]; exact h.knd j h0 h1
    · exact h.knd j h0 h1
  dfr := h.dfr
  sz := h.sz

theorem relO_frz {M : Mz} {B : List (Option BI)} {L : List AO} {w : World} (hL : RelL M B L w) {id esz n : Nat} {f : Nat → List C} (hO : getO L id = .row esz n f) (bo : Option BI) (hb : B[id]? = some bo) :
    RelO B (Sr M B (setO L id (.frz esz n f)) w) w (.frz esz n f) bo := by
  have hr := hL.obj id bo hb
  rw [hO] at hr
  cases bo with
  | none => exact hr
  | some bi =>
    obtain ⟨h0, cs, ty, h1, h2, h3, h4⟩ := hr
    have hlive : (getO L id).live = true := by rw [hO]; rfl
    refine ⟨h0, fun i hi => ⟨(h4 i hi).1, RepCs.mono (Sr_unlive rfl) (fun o u hh => ⟨?_, by simpa [World.cell?, h1] using hh⟩) _ _ (h4 i hi).2⟩⟩
    rintro (hm | ⟨j, bj, k1, k2, k3⟩)
    · exact hL.notM id bi hb hlive hm
    · obtain ⟨k4, k5⟩ := setO_live rfl k3
      exact hL.dist j id bj bi k4 k1 hb k5 hlive k2

theorem Fr_false (S : Rd) (w : World) : (Fr false S w).le S := fun t b o u h => by cases t <;> exact h

/-- x as y, with what is frozen -/
def FrzTo (ro : Nat) (L : List AO) (x : AV) (L' : List AO) (y : AV) : Prop :=
  ∀ (X : Fx) (B : List (Option BI)) (env : Env) (a : Act) (w : World) (u : Value), X.M.ro = ro → St X B env L a w → RelV B (Sr X.M B L w) x u →
    St X B env L' a w ∧ (Sr X.M B L w).le (Sr X.M B L' w) ∧ RelV B (Sr X.M B L' w) y u

theorem FrzTo.refl (ro : Nat) (L : List AO) (x : AV) : FrzTo ro L x L x := fun _ _ _ _ _ _ _ h hu => ⟨h, Rd.le_refl _, hu⟩

theorem frzK_sound {ro : Nat} {L : List AO} {x : AV} {K : AV → List AO → Prop} (h : frzK ro L x K) : ∃ y L', K y L' ∧ FrzTo ro L x L' y := by
  unfold frzK at h
  split at h
  · rename_i id esz off len
    split at h
    · rename_i e n f hO
      split at h
      · rename_i hcond
        split at hcond
        · rename_i he
          obtain rfl := Nat.beq_spec he
          have hro := Nat.le_of_ble_eq_true hcond
          refine ⟨_, _, h, fun X B env a w u hX hS hu => ?_⟩
          have hid : id < L.length := live_lt (by rw [hO]; rfl)
          have hS' := hS.unlive (x := .frz e n f) (by rw [hX]; exact hro) hid rfl (.inr (by rw [hO]; rfl)) (relO_frz hS.relL hO)
          have hle := Sr_unlive (M := X.M) (B := B) (L := L) (w := w) (id := id) (x := .frz e n f) rfl
          refine ⟨hS', hle, ?_⟩
          have hv : viewO (setO L id (.frz e n f)) id e off len = some (.sl false e len (fun i => f (off + i)), false) := by
            unfold viewO
            rw [getO_setO L id id _ hid, if_pos rfl]
            simp [he]
          have := viewO_sound hS'.relL hv (RelV.mono (Ble.refl B) hle _ _ hu)
          simp only [RelV]
          exact RepC.mono (Fr_false _ _) _ _ this
        · simp at hcond
      · exact ⟨_, _, h, FrzTo.refl _ _ _⟩
    · rename_i e n f hO
      split at h
      · rename_i he
        obtain rfl := Nat.beq_spec he
        refine ⟨_, _, h, fun X B env a w u hX hS hu => ⟨hS, Rd.le_refl _, ?_⟩⟩
        have hv : viewO L id e off len = some (.sl false e len (fun i => f (off + i)), false) := by
          unfold viewO
          rw [hO]
          simp [he]
        have := viewO_sound hS.relL hv hu
        simp only [RelV]
        exact RepC.mono (Fr_false _ _) _ _ this
      · exact ⟨_, _, h, FrzTo.refl _ _ _⟩
    · exact ⟨_, _, h, FrzTo.refl _ _ _⟩
  · exact ⟨_, _, h, FrzTo.refl _ _ _⟩

theorem frzVs_sound {ro : Nat} : ∀ (xs : List AV) (L : List AO) {K : List AV → List AO → Prop}, frzVs ro L xs K → ∃ ys L', K ys L' ∧
    ∀ (X : Fx) (B : List (Option BI)) (env : Env) (a : Act) (w : World) (us : List Value), X.M.ro = ro → St X B env L a w → RelVs B (Sr X.M B L w) xs us →
      St X B env L' a w ∧ (Sr X.M B L w).le (Sr X.M B L' w) ∧ RelVs B (Sr X.M B L' w) ys us
  | [], L, K, h => ⟨[], L, h, fun _ _ _ _ _ _ _ hS hu => ⟨hS, Rd.le_refl _, hu⟩⟩
  | x :: xs, L, K, h => by
    simp only [frzVs] at h
    obtain ⟨y, L1, h1, hy⟩ := frzK_sound h
    obtain ⟨ys, L2, h2, hys⟩ := frzVs_sound xs L1 h1
    refine ⟨_, _, h2, fun X B env a w us hX hS hu => ?_⟩
    simp only [RelVs] at hu ⊢
    obtain ⟨u, r, rfl, k1, k2⟩ := hu
    obtain ⟨s1, l1, r1⟩ := hy X B env a w u hX hS k1
    obtain ⟨s2, l2, r2⟩ := hys X B env a w r hX s1 (RelVs.mono (Ble.refl B) l1 _ _ k2)
    exact ⟨s2, Rd.le_trans l1 l2, u, r, rfl, RelV.mono (Ble.refl B) l2 _ _ r1, r2⟩

theorem frzA_sound {ro : Nat} {L : List AO} {x : AV} {K : AV → List AO → Prop} (h : frzA ro L x K) : ∃ y L', K y L' ∧ FrzTo ro L x L' y := by
  unfold frzA at h
  split at h
  · rename_i xs
    obtain ⟨ys, L', h1, h2⟩ := frzVs_sound xs L h
    refine ⟨_, _, h1, fun X B env a w u hX hS hu => ?_⟩
    simp only [RelV] at hu
    obtain ⟨arr, rfl, k1, k2⟩ := hu
    obtain ⟨s1, l1, r1⟩ := h2 X B env a w _ hX hS k2
    exact ⟨s1, l1, mkAgg_sound r1 k1⟩
  · exact frzK_sound h

theorem frzPs_sound {ro : Nat} : ∀ (ps : List (Nat × AV)) (L : List AO) {K : List (Nat × AV) → List AO → Prop}, frzPs ro L ps K → ∃ qs L', K qs L' ∧ qs.map (·.1) = ps.map (·.1) ∧
    ∀ (X : Fx) (B : List (Option BI)) (env : Env) (a : Act) (w : World) (us : List Value), X.M.ro = ro → St X B env L a w → RelVs B (Sr X.M B L w) (ps.map (·.2)) us →
      St X B env L' a w ∧ (Sr X.M B L w).le (Sr X.M B L' w) ∧ RelVs B (Sr X.M B L' w) (qs.map (·.2)) us
  | [], L, K, h => ⟨[], L, h, rfl, fun _ _ _ _ _ _ _ hS hu => ⟨hS, Rd.le_refl _, hu⟩⟩
  | (i, x) :: xs, L, K, h => by
    simp only [frzPs] at h
    obtain ⟨y, L1, h1, hy⟩ := frzA_sound h
    obtain ⟨ys, L2, h2, h3, hys⟩ := frzPs_sound xs L1 h1
    refine ⟨_, _, h2, by simp [h3], fun X B env a w us hX hS hu => ?_⟩
    simp only [List.map_cons, RelVs] at hu ⊢
    obtain ⟨u, r, rfl, k1, k2⟩ := hu
    obtain ⟨s1, l1, r1⟩ := hy X B env a w u hX hS k1
    obtain ⟨s2, l2, r2⟩ := hys X B env a w r hX s1 (RelVs.mono (Ble.refl B) l1 _ _ k2)
    exact ⟨s2, Rd.le_trans l1 l2, u, r, rfl, RelV.mono (Ble.refl B) l2 _ _ r1, r2⟩

theorem buildF_sound (htb : TbOk P tb) {X : Fx} (hgl : X.gl = gl) {ro : Nat} (hro : X.M.ro = ro) {B : List (Option BI)} {env : Env} {L : List AO} {a : Act} {w : World} (h : St X B env L a w) {o : Oper} {t : TypeId} {n : Nat} {ps : Array (Nat × Operand)} (ho : o.op = .buildSlice t n ps)
    {K : AV → Env → List AO → Prop} (hK : frzPs ro L (ps.toList.map fun p => (p.1, evO gl env .no .no p.2)) fun ps L => opBuildSlice tb t n ps fun x => K x env L) : StepTo P X o env K a w := by
  subst hgl
  obtain ⟨qs, L', hK, hq, hf⟩ := frzPs_sound _ _ hK
  have hev := fun x => evO_sound (key := .no) (key2 := .no) h.glob h.relE trivial trivial x
  have hps : RelVs B (Sr X.M B L w) ((ps.toList.map fun p => (p.1, evO X.gl env .no .no p.2)).map (·.2)) (ps.toList.map fun p => a.eval p.2) := by
    have := RelVs.map (B := B) (S := Sr X.M B L w) (ev := evO X.gl env .no .no) (ρ := a.eval) (ps.toList.map (·.2)) (fun o _ => hev o)
    simpa [List.map_map, Function.comp_def] using this
  obtain ⟨hS', _, hr⟩ := hf X B env a w _ hro h hps
  obtain ⟨z, hz, hh⟩ := opBuildSlice_sound htb hK
  have hlen : qs.length = ps.size := by have := congrArg List.length hq; simpa using this
  obtain ⟨r, w', h1, h2, h3⟩ := hh X.M B L' w (ps.map fun p => (p.1, a.eval p.2)) hS'.relL (by simp [hlen]) (fun j p q hp hqq => by
    simp only [Array.getElem?_map, Option.map_eq_some_iff] at hqq
    obtain ⟨q', e2, rfl⟩ := hqq
    have e1 : (qs.map (·.1))[j]? = some p.1 := by simp [hp]
    rw [hq] at e1
    simp only [List.map_map, List.getElem?_map, Array.getElem?_toList, e2, Option.map_some, Option.some.injEq, Function.comp_def] at e1
    refine ⟨e1.symm, ?_⟩
    obtain ⟨u, k1, k2⟩ := RelVs.nth _ _ j p.2 hr (by simp [hp])
    simp only [List.getElem?_map, Array.getElem?_toList, e2, Option.map_some, Option.some.injEq] at k1
    rw [k1]; exact k2)
  exact StepTo.value (by simp [execOp, ho, h1]) hz rfl (hS'.ext h2) h3

theorem stepE_sound (htb : TbOk P tb) {X : Fx} (hgl : X.gl = gl) {ro : Nat} (hro : X.M.ro = ro) {B : List (Option BI)} {env : Env} {L : List AO} {a : Act} {w : World} (h : St X B env L a w) {o : Oper}
    {K : AV → Env → List AO → Prop} (hK : stepE P tb gl ro env L o.op o.type K) : StepTo P X o env K a w := by
  unfold stepE at hK
  split at hK
  · rename_i t ho
    split at hK
    · exact hK.elim
    · rename_i hk
      rw [appK0, boxC_eq] at hK
      exact alloc_sound htb h ho hk hK
  · rename_i t x ho
    split at hK
    · rename_i xs hxs
      split at hK
      · rw [appK0] at hK
        exact box_sound hgl h ho hxs hK
      · exact hK.elim
    · exact hK.elim
  · rename_i t p x ho
    exact store_sound htb hgl hro h ho (K' := K) (fun _ hh => hh) hK
  · rename_i ho
    split at hK
    · rename_i e hk
      rw [appK0] at hK
      exact assignNil_sound h ho (tb e).sz hK
    · exact hK.elim
  · rename_i t l c ho
    exact makeSlice_sound htb hgl h ho (K := fun x L' => K x env L') (K' := K) (fun _ _ hh => hh) hK
  · rename_i c ho
    split at hK
    · rename_i hc
      split at hK
      · rename_i x y hargs
        split at hK
        · rename_i t t2 hts
          exact append_sound htb hgl hro h ho hc hargs hts hK
        · exact hK.elim
      · exact hK.elim
    · rename_i fo hc
      subst hgl
      have hev := fun x => evO_sound (key := .no) (key2 := .no) h.glob h.relE trivial trivial x
      exact hK.h X B a w o c fo rfl hro h ho hc (hev fo) (by simpa using RelVs.map (ρ := a.eval) c.args.toList (fun o _ => hev o))
    · exact pure_step htb hgl h (by rw [ho]; exact hK)
  · rename_i t n ps ho
    exact buildF_sound htb hgl hro h ho hK
  · exact pure_step htb hgl h hK

/-! ### Slots -/

theorem memN_spec {d : Nat} : ∀ {l : List Nat}, memN d l = true ↔ d ∈ l
  | [] => by simp [memN]
  | x :: r => by
    have ih := memN_spec (d := d) (l := r)
    simp only [memN]
    split
    · rename_i h; have := Nat.beq_spec h; simp [this]
    · rename_i h
      have hne : d ≠ x := fun e => by subst e; simp at h
      rw [ih]; simp [hne]

/-- the guards that are spoken of are slots of this region -/
def GdIn (seen : List Nat) (env : Env) : Prop := ∀ s, some s ∈ keysE env → s ∈ seen

theorem get_key {env : Env} {t s : Nat} {w : Bool} {x : AV} (h : get env t = .gd s w x) : some s ∈ keysE env := by
  induction env with
  | nil => simp [get] at h
  | cons p r ih =>
    obtain ⟨s', y⟩ := p
    simp only [get] at h
    unfold keysE at ih ⊢
    split at h
    · subst h; simp [gkey]
    · simp only [List.map_cons, List.mem_cons]; exact .inr (ih h)

theorem getD_put {a : Act} {dst : Option Nat} {u : Value} {t : Nat} (h : dst ≠ some t) : (a.put dst u).tmps.getD t undef = a.tmps.getD t undef := by
  cases dst with
  | none => rfl
  | some d =>
    have hne : d ≠ t := fun e => h (by rw [e])
    simp [Act.put, Array.getD, Array.size_setIfInBounds]
    by_cases hlt : t < a.tmps.size
    · simp [hlt, Array.getElem_setIfInBounds_ne, hne]
    · simp [hlt]

theorem getD_put_same {a : Act} {d : Nat} {u : Value} (h : d < a.tmps.size) : (a.put (some d) u).tmps.getD d undef = u := by
  simp [Act.put, Array.getD, h]

/-- a slot is written -/
theorem RelE.put {B : List (Option BI)} {S : Rd} {env : Env} {a : Act} (h : RelE B S env a) {seen : List Nat} (hg : GdIn seen env) {dst : Option Nat} (hd : dstOk dst seen = true) (hlt : ∀ d, dst = some d → d < a.tmps.size)
    {x : AV} {u : Value} (hx : RelSl B S (a.put dst u) x u) : RelE B S (putE dst x env) (a.put dst u) := by
  intro t
  have keep : dst ≠ some t → RelSl B S (a.put dst u) (get env t) ((a.put dst u).tmps.getD t undef) := by
    intro hne
    rw [getD_put hne]
    have ht := h t
    cases hgt : get env t with
    | gd s w y =>
      rw [hgt] at ht
      have hs := hg s (get_key hgt)
      have hsd : dst ≠ some s := by
        intro e; subst e
        simp only [dstOk] at hd
        split at hd
        · simp at hd
        · rename_i hm; rw [memN_spec.2 hs] at hm; simp at hm
      simp only [RelSl] at ht ⊢
      rw [getD_put hsd]
      exact ht
    | _ => rw [hgt] at ht; exact ht
  cases dst with
  | none => exact keep (by simp)
  | some d =>
    simp only [putE, get]
    split
    · rename_i e
      obtain rfl := Nat.beq_spec e
      rw [getD_put_same (hlt d rfl)]
      exact hx
    · rename_i e
      exact keep fun e' => by simp only [Option.some.injEq] at e'; subst e'; simp at e

theorem St.put {X : Fx} {B : List (Option BI)} {env : Env} {L : List AO} {a : Act} {w : World} (h : St X B env L a w) {seen : List Nat} (hg : GdIn seen env) {dst : Option Nat} (hd : dstOk dst seen = true) (hlt : ∀ d, dst = some d → d < X.nt)
    {x : AV} {u : Value} (hx : RelSl B (Sr X.M B L w) (a.put dst u) x u) : St X B (putE dst x env) L (a.put dst u) w where
  relL := h.relL
  glob := h.glob
  relE := h.relE.put hg hd (fun d e => by rw [h.sz]; exact hlt d e) hx
  below := h.below
  fresh := h.fresh
  old := h.old
  rol := h.rol
  l0 := h.l0
  knd := h.knd
  dfr := by cases dst <;> exact h.dfr
  sz := by cases dst <;> simp [Act.put, h.sz]

theorem GdIn.put {seen : List Nat} {env : Env} (hg : GdIn seen env) (dst : Option Nat) {x : AV} (hx : ∀ s, gkey x = some s → s ∈ seen) : GdIn (addD dst seen) (putE dst x env) := by
  cases dst with
  | none => exact hg
  | some d =>
    intro s hs
    simp only [putE, keysE, List.map_cons, List.mem_cons] at hs
    simp only [addD, List.mem_cons]
    rcases hs with hs | hs
    · exact .inr (hx s hs.symm)
    · exact .inr (hg s hs)

theorem strip_key (x : AV) : gkey (strip x) = none := by cases x <;> rfl

theorem strip_rel {B : List (Option BI)} {S : Rd} {x : AV} {u : Value} (h : RelV B S x u) : RelV B S (strip x) u := by cases x <;> first | exact h | simp [strip, RelV]

theorem RelV.notGd {B : List (Option BI)} {S : Rd} {a : Act} {x : AV} {u : Value} (hx : gkey x = none) (h : RelV B S x u) : RelSl B S a x u := (relSl_iff hx).2 h

end
end Go.VA

namespace Go.VA
open Go Go.RowKit

section
variable {P : Program} {tb : TB} {gl : Gl}

/-- how many of the operations write a slot -/
def cntD : List Oper → Nat
  | [] => 0
  | o :: r => match o.dst with
    | none => cntD r
    | some _ => cntD r + 1

/-- but for the last n slots written, none is under a guard -/
def Top (n : Nat) (env : Env) : Prop := ∀ k ∈ (keysE env).drop n, k = none

theorem Top.put {n : Nat} {env : Env} (h : Top n env) (dst : Option Nat) (x : AV) : Top (n + match dst with | none => 0 | some _ => 1) (putE dst x env) := by
  cases dst with
  | none => exact h
  | some d => intro k hk; exact h k (by simpa [putE, keysE] using hk)

theorem Top.keys {n : Nat} {env env' : Env} (h : Top n env) (hk : keysE env' = keysE env) : Top n env' := by
  unfold Top at *; rw [hk]; exact h

theorem GdIn.keys {seen : List Nat} {env env' : Env} (h : GdIn seen env) (hk : keysE env' = keysE env) : GdIn seen env' := by
  unfold GdIn at *; rw [hk]; exact h

theorem dstOf_eq : ∀ (l : List Oper) (g : Nat), dstOf l g = (l[g]?).bind (·.dst)
  | [], g => by simp [dstOf]
  | o :: r, 0 => by simp [dstOf]
  | o :: r, g + 1 => by simp [dstOf, dstOf_eq r g]

theorem wanted_iff {ops : Array Oper} {o : Oper} {g s : Nat} {w : Bool} {a : Act} (hg : o.guard = some (g, w)) (hs : dstOf ops.toList g = some s) :
    Region.wanted o (yielded ops a.tmps) = true ↔ a.tmps.getD s undef = .bool w := by
  have h1 : (ops[g]?).bind (·.dst) = some s := by rw [← hs, dstOf_eq]; simp
  simp only [Region.wanted, hg, yielded, h1, Option.bind_some]
  have h2 : a.tmps.getD s undef = (a.tmps[s]?).getD undef := by simp [Array.getD_eq_getD_getElem?]
  rw [h2]
  cases hq : a.tmps[s]? with
  | none => simp [undef]
  | some v => cases v <;> simp

/-- an operation under a guard, whether it runs or not -/
theorem guarded_step (X : Fx) (hgl : X.gl = gl) {ops : Array Oper} {B : List (Option BI)} {env : Env} {L : List AO} {a : Act} {w : World} (h : St X B env L a w) {o : Oper} {g s : Nat} {wt : Bool} (hg : o.guard = some (g, wt))
    (hs : dstOf ops.toList g = some s) {x : AV} (hp : PureTo P gl env (.at s wt) L o x) (next : Act → World → Prop) (Q : Exit → Act → World → Prop)
    (hn : ∀ u w', St X B env L a w' → ((a.tmps.getD s undef = .bool wt → RelV B (Sr X.M B L w') x u) ∧ (a.tmps.getD s undef ≠ .bool wt → u = undef)) → next (a.put o.dst u) w') :
    if Region.wanted o (yielded ops a.tmps) = true then o.wp P a w next Q else next (a.put o.dst undef) w := by
  subst hgl
  by_cases hw : Region.wanted o (yielded ops a.tmps) = true
  · rw [if_pos hw]
    have hk := (wanted_iff hg hs).1 hw
    refine hp X.M B a w h.relL h.glob h.relE hk next Q fun u w' ⟨h1, h2⟩ => hn u w' (h.ext h1) ⟨fun _ => h2, fun hne => absurd hk hne⟩
  · rw [if_neg hw]
    exact hn undef w h ⟨fun e => absurd ((wanted_iff hg hs).2 e) hw, fun _ => rfl⟩

theorem seqOps_sound (htb : TbOk P tb) {X : Fx} (hgl : X.gl = gl) {ro : Nat} (hro : X.M.ro = ro) {ops : Array Oper} {Q : Exit → Act → World → Prop} {K : Env → List AO → Prop} :
    ∀ (l : List Oper) (seen : List Nat) (env : Env) (L : List AO) (B : List (Option BI)) (a : Act) (w : World) (n : Nat),
      (∀ o ∈ l, ∀ d, o.dst = some d → d < X.nt) → GdIn seen env → Top n env → St X B env L a w → seqOps P tb gl ro ops.toList l seen env L K →
      (∀ env' L' B' a' w', K env' L' → Top (n + cntD l) env' → St X B' env' L' a' w' → Q .normal a' w') → wpList P ops Q l a w
  | [], seen, env, L, B, a, w, n, _, _, ht, hS, hK, hQ => by
    simp only [seqOps, stripK_eq, gdK_eq] at hK
    exact hQ _ _ _ _ _ hK (by simpa [cntD] using ht) hS
  | o :: r, seen, env, L, B, a, w, n, hdst, hgd, ht, hS, hK, hQ => by
    simp only [seqOps, stripK_eq, gdK_eq] at hK
    have hcnt : n + cntD (o :: r) = (n + match o.dst with | none => 0 | some _ => 1) + cntD r := by
      simp only [cntD]; cases o.dst <;> simp; omega
    split at hK
    · exact hK.elim
    rename_i hd
    have hlt : ∀ d, o.dst = some d → d < X.nt := hdst o (by simp)
    split at hK
    · rename_i hg
      have hstep := stepE_sound htb hgl hro hS hK
      unfold wpList
      rw [if_pos (by simp [Region.wanted, hg])]
      refine .inl (hstep _ _ fun x env' L' B' u w' hK' hkeys hS' hu => ?_)
      have hgd' := hgd.keys hkeys
      refine seqOps_sound htb hgl hro r _ _ _ B' _ _ _ (fun o' ho' => hdst o' (by simp [ho'])) (hgd'.put o.dst (fun s hs => by rw [strip_key] at hs; simp at hs)) ((ht.keys hkeys).put o.dst _)
        (hS'.put hgd' hd hlt (RelV.notGd (strip_key x) (strip_rel hu))) hK' fun env'' L'' B'' a'' w'' k1 k2 k3 => hQ _ _ _ _ _ k1 (by rw [hcnt]; exact k2) k3
    · rename_i g wt hg
      split at hK
      · exact hK.elim
      rename_i s hs
      split at hK
      · exact hK.elim
      rename_i hm
      have hm := memN_spec.1 hm
      obtain ⟨x, hK', hp⟩ := opPure_sound htb hK
      have hsd : o.dst ≠ some s := by
        intro e; rw [e] at hd; simp only [dstOk] at hd
        split at hd
        · simp at hd
        · rename_i h2; rw [memN_spec.2 hm] at h2; simp at h2
      have := guarded_step X hgl hS hg hs hp (wpList P ops Q r) Q fun u w' hS' hu => by
        refine seqOps_sound htb hgl hro r _ _ _ B _ _ _ (fun o' ho' => hdst o' (by simp [ho'])) (hgd.put o.dst (fun s' hs' => by simp only [gkey, Option.some.injEq] at hs'; subst hs'; exact hm)) (ht.put o.dst _)
          (hS'.put hgd hd hlt ?_) hK' fun env'' L'' B'' a'' w'' k1 k2 k3 => hQ _ _ _ _ _ k1 (by rw [hcnt]; exact k2) k3
        simp only [RelSl]
        rw [getD_put hsd]
        exact hu
      unfold wpList
      split
      · rename_i hw; rw [if_pos hw] at this; exact .inl this
      · rename_i hw; rw [if_neg hw] at this; exact this

/-! ### Behind a region -/

def NoGd (env : Env) : Prop := ∀ k ∈ keysE env, k = none

theorem cleanE_spec : ∀ (l : List Oper) (env : Env), Top (cntD l) env → NoGd (cleanE l env)
  | [], env, h => by simpa [cntD, Top, cleanE, NoGd] using h
  | o :: r, env, h => by
    simp only [cleanE]
    cases hd : o.dst with
    | none =>
      simp only [cntD, hd] at h
      exact cleanE_spec r env h
    | some d =>
      simp only [cntD, hd] at h
      cases env with
      | nil => intro k hk; simp [keysE] at hk
      | cons p e =>
        obtain ⟨s, x⟩ := p
        have ht : Top (cntD r) e := fun k hk => h k (by simpa [keysE] using hk)
        have ih := cleanE_spec r e ht
        cases x
        all_goals
          intro k hk
          simp only [keysE, List.map_cons, List.mem_cons] at hk
          rcases hk with hk | hk
          · rw [hk]; rfl
          · exact ih k hk

theorem cleanE_rel {B : List (Option BI)} {S : Rd} {a : Act} : ∀ (l : List Oper) (env : Env) (t : Nat), RelSl B S a (get env t) (a.tmps.getD t undef) → RelSl B S a (get (cleanE l env) t) (a.tmps.getD t undef)
  | [], env, t, h => h
  | o :: r, env, t, h => by
    simp only [cleanE]
    cases hd : o.dst with
    | none => exact cleanE_rel r env t h
    | some d =>
      cases env with
      | nil => exact h
      | cons p e =>
        obtain ⟨s, x⟩ := p
        have ih := cleanE_rel (B := B) (S := S) (a := a) r e t
        simp only [get] at h
        cases x
        all_goals
          simp only [get] at h ⊢
          split
          · rename_i hs
            first
            | (simp [RelSl, RelV]; done)
            | (simp only [hs] at h; exact h)
          · rename_i hs
            simp only [hs] at h
            exact ih h

theorem St.clean {X : Fx} {B : List (Option BI)} {env : Env} {L : List AO} {a : Act} {w : World} (h : St X B env L a w) (l : List Oper) : St X B (cleanE l env) L a w where
  relL := h.relL
  glob := h.glob
  relE t := cleanE_rel l env t (h.relE t)
  below := h.below
  fresh := h.fresh
  old := h.old
  rol := h.rol
  l0 := h.l0
  knd := h.knd
  dfr := h.dfr
  sz := h.sz

theorem NoGd.top {env : Env} (h : NoGd env) : Top 0 env := fun k hk => h k (by simpa using hk)
theorem NoGd.gdIn {env : Env} (h : NoGd env) : GdIn [] env := fun s hs => by have := h _ hs; simp at this

end
end Go.VA

namespace Go.VA
open Go Go.RowKit

section
variable {P : Program} {tb : TB} {gl : Gl}

/-! ### A smaller environment -/

open Classical in
noncomputable def restrict (p : Nat → Prop) (env : Env) : Env := env.filter fun q => decide (p q.1)

theorem get_restrict (p : Nat → Prop) : ∀ (env : Env) (t : Nat), (p t → get (restrict p env) t = get env t) ∧ (¬ p t → get (restrict p env) t = .any)
  | [], t => by simp [restrict, get]
  | (s, x) :: r, t => by
    have ih := get_restrict p r t
    unfold restrict at ih ⊢
    by_cases hs : p s
    · rw [List.filter_cons_of_pos (by simpa using hs)]
      simp only [get]
      constructor
      · intro ht; split
        · rfl
        · exact ih.1 ht
      · intro ht; split
        · rename_i e; rw [← Nat.beq_spec e] at ht; exact absurd hs ht
        · exact ih.2 ht
    · rw [List.filter_cons_of_neg (by simpa using hs)]
      refine ⟨fun ht => ?_, ih.2⟩
      rw [ih.1 ht]
      simp only [get]
      split
      · rename_i e; rw [← Nat.beq_spec e] at ht; exact absurd ht hs
      · rfl

def GdCl (p : Nat → Prop) (env : Env) : Prop := ∀ t s w x, p t → get env t = .gd s w x → p s

theorem chain_restrict {p : Nat → Prop} {env : Env} (hc : GdCl p env) : ∀ (n : Nat) (key : Key) (q : Prop), (∀ s w, key = .at s w → p s) → chain (restrict p env) n key q = chain env n key q
  | 0, _, _, _ => by simp [chain]
  | n + 1, .no, _, _ => by simp [chain]
  | n + 1, .at s w, q, h => by
    have hs := h s w rfl
    simp only [chain]
    rw [(get_restrict p env s).1 hs]
    split
    · rfl
    · rename_i s' w' b hq
      exact chain_restrict hc n _ _ fun s2 w2 e => by
        simp only [Key.at.injEq] at e
        rw [← e.1]
        exact hc s s' w' _ hs hq
    · rfl

theorem evO_restrict {p : Nat → Prop} {env : Env} (key key2 : Key) (x : Operand) (h : ∀ t, x = .tmp t → p t) : evO gl (restrict p env) key key2 x = evO gl env key key2 x := by
  cases x with
  | tmp t => simp only [evO]; rw [(get_restrict p env t).1 (h t rfl)]
  | const v => cases v <;> rfl
  | _ => rfl

theorem opPure_congr {env env' : Env} {key : Key} {L : List AO} {o : Op} {K : AV → Prop} (he : ∀ key2, ∀ x ∈ o.operands, evO gl env' key key2 x = evO gl env key key2 x)
    (hc : ∀ p, chain env' 20 key p = chain env 20 key p) : opPure P tb gl env' key L o K = opPure P tb gl env key L o K := by
  have hc' : chain env' 20 key = chain env 20 key := funext hc
  cases o <;> simp only [Op.operands] at he <;> simp only [opPure, hc']
  case pick c x y =>
    unfold opPick
    rw [he .no c (by simp)]
    cases c with
    | tmp t =>
      have h1 := he (.at t false) y (by simp)
      have h2 := he (.at t true) x (by simp)
      simp only [h1]
      generalize evO gl env key .no (.tmp t) = z
      split
      · split
        · rfl
        · rw [h2]
      · rfl
    | _ => rfl
  case build t ps =>
    rw [List.map_congr_left (fun p hp => by rw [he .no p.2 (by simpa using ⟨p.1, by simpa using hp⟩)] : ∀ p ∈ ps.toList, (p.1, evO gl env' key .no p.2) = (p.1, evO gl env key .no p.2))]
  case buildSlice t n ps =>
    rw [List.map_congr_left (fun p hp => by rw [he .no p.2 (by simpa using ⟨p.1, by simpa using hp⟩)] : ∀ p ∈ ps.toList, (p.1, evO gl env' key .no p.2) = (p.1, evO gl env key .no p.2))]
  case makeFunc fn fs cs =>
    rw [List.map_congr_left (fun p hp => he .no p (by simp at hp; simp [hp]) : ∀ p ∈ fs.toList, evO gl env' key .no p = evO gl env key .no p),
      List.map_congr_left (fun p hp => he .no p (by simp at hp; simp [hp]) : ∀ p ∈ cs.toList, evO gl env' key .no p = evO gl env key .no p)]
  case slice t x lo hi mx =>
    rw [he .no x (by simp)]
    have : ∀ (y : Option Operand), (∀ z, y = some z → evO gl env' key .no z = evO gl env key .no z) → y.map (evO gl env' key .no) = y.map (evO gl env key .no) := by
      intro y hy; cases y with
      | none => rfl
      | some z => simp [hy z rfl]
    rw [this lo fun z hz => he .no z (by simp [hz]), this hi fun z hz => he .no z (by simp [hz]), this mx fun z hz => he .no z (by simp [hz])]
  case call c =>
    have ha : c.args.toList.map (evO gl env' key .no) = c.args.toList.map (evO gl env key .no) :=
      List.map_congr_left fun p hp => he .no p (by simp only [Call.operands]; simp at hp; simp [hp])
    split
    · rename_i f hf
      rw [ha, he .no f (by simp [Call.operands, hf])]
    · split
      · split
        · rename_i x hx
          rw [he .no x (by
            have : x ∈ c.args := by
              have : x ∈ c.args.toList := by simp [hx]
              simpa using this
            simp [Call.operands, this])]
        · rfl
      · rw [ha]
      · rw [ha]
      · rfl
    · rfl
  all_goals (first | rfl | (rw [he .no _ (by simp)]; done) | (rw [he .no _ (by simp)]; rw [he .no _ (by simp)]; done))

end
end Go.VA

namespace Go.VA
open Go Go.RowKit

/-! ### The order of a drawn region -/

theorem bltN {a b : Nat} (h : Nat.blt a b = true) : a < b := Nat.le_of_ble_eq_true h


def maskOf (ms : List Nat) : List Edge → Nat
  | [] => 0
  | e :: es => match Region.binds .any e with
    | true => (2 ^ e.on) ||| (ms.getD e.on 0 ||| maskOf ms es)
    | false => maskOf ms es

def backOk (n : Nat) : List Edge → Bool
  | [] => true
  | e :: es => match Region.binds .any e with
    | true => match Nat.blt e.on n with | true => backOk n es | false => false
    | false => backOk n es

def rowOk (ops : Array Oper) (m : Nat) (y : Oper) : List Oper → Nat → Bool
  | [], _ => true
  | x :: r, i => match m.testBit i with
    | true => rowOk ops m y r (i + 1)
    | false => match x.apart ops y with
      | true => rowOk ops m y r (i + 1)
      | false => false

def gBack (n : Nat) (o : Oper) : Bool := match o.guard with
  | none => true
  | some (g, _) => Nat.blt g n

def impOf (imp : Bool) (o : Oper) : Bool := match imp with
  | true => true
  | false => match pureOp o.op with | true => false | false => true

def drawGo (ops : Array Oper) : List Oper → List Oper → List Nat → Bool → Bool
  | [], _, _, _ => true
  | o :: r, pre, ms, imp => match backOk ms.length o.after.toList with
    | false => false
    | true => match gBack ms.length o with
      | false => false
      | true => match rowOk ops (maskOf ms o.after.toList) o pre 0 with
        | false => false
        | true => match impOf imp o with
          | true => match Nat.beq (maskOf ms o.after.toList) (2 ^ ms.length - 1) with
            | true => drawGo ops r (pre ++ [o]) (ms ++ [maskOf ms o.after.toList]) true
            | false => false
          | false => drawGo ops r (pre ++ [o]) (ms ++ [maskOf ms o.after.toList]) false

def drawOk (ops : Array Oper) : Bool := drawGo ops ops.toList [] [] false

/-- i runs ahead of j in every order -/
inductive Anc (ops : Array Oper) : Nat → Nat → Prop where
  | base {j i : Nat} {o : Oper} {e : Edge} : ops[j]? = some o → e ∈ o.after → Region.binds .any e = true → e.on = i → Anc ops j i
  | step {j i : Nat} {o : Oper} {e : Edge} : ops[j]? = some o → e ∈ o.after → Region.binds .any e = true → Anc ops e.on i → Anc ops j i

theorem Anc.trans {ops : Array Oper} {i j k : Nat} (h : Anc ops i j) (h2 : Anc ops j k) : Anc ops i k := by
  induction h with
  | base a b c d => exact .step a b c (d ▸ h2)
  | step a b c _ ih => exact .step a b c (ih h2)

structure DrawOk (ops : Array Oper) : Prop where
  back : ∀ (i : Nat) (o : Oper), ops[i]? = some o → ∀ e ∈ o.after, Region.binds .any e = true → e.on < i
  guard : ∀ (i : Nat) (o : Oper) (g : Nat) (w : Bool), ops[i]? = some o → o.guard = some (g, w) → g < i
  conf : ∀ (i j : Nat) (oi oj : Oper), i < j → ops[i]? = some oi → ops[j]? = some oj → oi.apart ops oj = true ∨ Anc ops j i
  tail : ∀ (k j : Nat) (ok oj : Oper), k ≤ j → ops[k]? = some ok → ops[j]? = some oj → pureOp ok.op = false → ∀ i, i < j → Anc ops j i

theorem backOk_spec {n : Nat} : ∀ {l : List Edge}, backOk n l = true → ∀ e ∈ l, Region.binds .any e = true → e.on < n
  | [], _, e, he, _ => by simp at he
  | x :: r, h, e, he, hb => by
    simp only [backOk] at h
    rcases List.mem_cons.1 he with rfl | he
    · rw [hb] at h
      simp only at h
      split at h
      · rename_i hh; exact bltN hh
      · simp at h
    · split at h
      · split at h
        · exact backOk_spec h e he hb
        · simp at h
      · exact backOk_spec h e he hb

theorem maskOf_spec {ops : Array Oper} {ms : List Nat} (hms : ∀ i j, (ms.getD i 0).testBit j = true → Anc ops i j) {k : Nat} {o : Oper} (hk : ops[k]? = some o) :
    ∀ {l : List Edge}, (∀ e ∈ l, e ∈ o.after) → ∀ j, (maskOf ms l).testBit j = true → Anc ops k j
  | [], _, j, h => by simp [maskOf] at h
  | e :: es, hl, j, h => by
    simp only [maskOf] at h
    split at h
    · rename_i hb
      rw [Nat.testBit_or, Nat.testBit_or, Bool.or_eq_true, Bool.or_eq_true] at h
      rcases h with h | h | h
      · rw [Nat.testBit_two_pow] at h
        exact .base hk (hl e (by simp)) hb (by simpa using h)
      · exact .step hk (hl e (by simp)) hb (hms _ _ h)
      · exact maskOf_spec hms hk (fun e he => hl e (by simp [he])) j h
    · exact maskOf_spec hms hk (fun e he => hl e (by simp [he])) j h

theorem rowOk_spec {ops : Array Oper} {m : Nat} {y : Oper} : ∀ {l : List Oper} {i : Nat}, rowOk ops m y l i = true → ∀ (j : Nat) (x : Oper), l[j]? = some x → m.testBit (i + j) = true ∨ x.apart ops y = true
  | [], _, _, j, x, hx => by simp at hx
  | z :: r, i, h, j, x, hx => by
    simp only [rowOk] at h
    have rest : rowOk ops m y r (i + 1) = true := by
      split at h
      · exact h
      · split at h
        · exact h
        · simp at h
    cases j with
    | zero =>
      simp at hx; subst hx
      split at h
      · rename_i hh; exact .inl (by simpa using hh)
      · split at h
        · rename_i hh; exact .inr hh
        · simp at h
    | succ j =>
      have := rowOk_spec rest j x (by simpa using hx)
      rwa [show i + (j + 1) = i + 1 + j from by omega]

theorem impOf_true {imp : Bool} {o : Oper} (h : impOf imp o = false) : imp = false ∧ pureOp o.op = true := by
  unfold impOf at h
  split at h
  · simp at h
  · split at h
    · rename_i hh; exact ⟨rfl, hh⟩
    · simp at h

theorem drawGo_spec {ops : Array Oper} : ∀ (r pre : List Oper) (ms : List Nat) (imp : Bool), ops.toList = pre ++ r → ms.length = pre.length → (∀ i j, (ms.getD i 0).testBit j = true → Anc ops i j) →
    (imp = false → ∀ (k : Nat) (o : Oper), pre[k]? = some o → pureOp o.op = true) → drawGo ops r pre ms imp = true →
    ∀ (j : Nat) (o : Oper), pre.length ≤ j → ops[j]? = some o →
      (∀ e ∈ o.after, Region.binds .any e = true → e.on < j) ∧ (∀ g w, o.guard = some (g, w) → g < j) ∧
      (∀ (i : Nat) (oi : Oper), i < j → ops[i]? = some oi → oi.apart ops o = true ∨ Anc ops j i) ∧
      ((imp = true ∨ ∃ (k : Nat) (ok : Oper), k ≤ j ∧ ops[k]? = some ok ∧ pureOp ok.op = false) → ∀ i, i < j → Anc ops j i)
  | [], pre, ms, imp, hl, _, _, _, _, j, o, hj, ho => by
    have : ops.toList.length ≤ j := by rw [hl]; simpa using hj
    rw [Array.getElem?_eq_none (by simpa using this)] at ho
    simp at ho
  | x :: r, pre, ms, imp, hl, hlen, hms, hpure, h, j, o, hj, ho => by
    simp only [drawGo] at h
    split at h; · simp at h
    rename_i hb
    split at h; · simp at h
    rename_i hg
    split at h; · simp at h
    rename_i hr
    have hx : ops[pre.length]? = some x := by
      have : ops.toList[pre.length]? = some x := by rw [hl]; simp
      simpa using this
    have hmask : ∀ i, (maskOf ms x.after.toList).testBit i = true → Anc ops pre.length i := maskOf_spec hms hx (by simp)
    have hms' : ∀ i j, ((ms ++ [maskOf ms x.after.toList]).getD i 0).testBit j = true → Anc ops i j := by
      intro i j hij
      rcases Nat.lt_trichotomy i ms.length with hi | hi | hi
      · rw [List.getD_eq_getElem?_getD, List.getElem?_append_left hi, ← List.getD_eq_getElem?_getD] at hij
        exact hms i j hij
      · subst hi
        rw [List.getD_eq_getElem?_getD, List.getElem?_append_right (Nat.le_refl _)] at hij
        simp at hij
        rw [hlen]
        exact hmask j hij
      · rw [List.getD_eq_getElem?_getD, List.getElem?_eq_none (by simp; omega)] at hij
        simp at hij
    have hl' : ops.toList = (pre ++ [x]) ++ r := by simp [hl]
    have hlen' : (ms ++ [maskOf ms x.after.toList]).length = (pre ++ [x]).length := by simp [hlen]
    have hpre : ∀ (i : Nat) (oi : Oper), i < pre.length → ops[i]? = some oi → pre[i]? = some oi := by
      intro i oi hi hoi
      have : ops.toList[i]? = some oi := by simpa using hoi
      rw [hl, List.getElem?_append_left hi] at this
      exact this
    rcases Nat.lt_or_ge pre.length j with hj' | hj'
    · -- further on
      split at h
      · rename_i himp
        split at h
        · have := drawGo_spec r (pre ++ [x]) _ true hl' hlen' hms' (by simp) h j o (by simp; omega) ho
          exact ⟨this.1, this.2.1, this.2.2.1, fun _ => this.2.2.2 (.inl rfl)⟩
        · simp at h
      · rename_i himp
        obtain ⟨e1, e2⟩ := impOf_true himp
        have := drawGo_spec r (pre ++ [x]) _ false hl' hlen' hms' (fun _ k o' hk => by
          rcases Nat.lt_trichotomy k pre.length with hi | hi | hi
          · rw [List.getElem?_append_left hi] at hk; exact hpure e1 k o' hk
          · subst hi; simp at hk; subst hk; exact e2
          · rw [List.getElem?_eq_none (by simp; omega)] at hk; simp at hk) h j o (by simp; omega) ho
        refine ⟨this.1, this.2.1, this.2.2.1, fun hh => this.2.2.2 ?_⟩
        rcases hh with hh | hh
        · rw [e1] at hh; simp at hh
        · exact .inr hh
    · -- this one
      obtain rfl : j = pre.length := by omega
      rw [hx] at ho
      simp only [Option.some.injEq] at ho
      subst ho
      refine ⟨fun e he hbe => by have := backOk_spec hb e (by simpa using he) hbe; omega, fun g w hgw => ?_, fun i oi hi hoi => ?_, fun hh i hi => ?_⟩
      · simp only [gBack, hgw] at hg
        have := bltN hg
        omega
      · rcases rowOk_spec hr i oi (hpre i oi hi hoi) with h1 | h1
        · exact .inr (hmask i (by simpa using h1))
        · exact .inl h1
      · have himp : impOf imp x = true := by
          cases hq : impOf imp x with
          | true => rfl
          | false =>
            obtain ⟨e1, e2⟩ := impOf_true hq
            rcases hh with hh | ⟨k, ok, hk, hok, hp⟩
            · rw [e1] at hh; simp at hh
            · rcases Nat.lt_or_ge k pre.length with hk' | hk'
              · rw [hpure e1 k ok (hpre k ok hk' hok)] at hp; simp at hp
              · obtain rfl : k = pre.length := by omega
                rw [hx] at hok; simp only [Option.some.injEq] at hok; subst hok
                rw [e2] at hp; simp at hp
        rw [himp] at h
        simp only at h
        split at h
        · rename_i hm
          have hm := Nat.beq_spec hm
          refine hmask i ?_
          rw [hm, Nat.testBit_two_pow_sub_one]
          simp; omega
        · simp at h

theorem drawOk_spec {ops : Array Oper} (h : drawOk ops = true) : DrawOk ops := by
  have := drawGo_spec ops.toList [] [] false (by simp) rfl (by simp) (by simp) h
  exact ⟨fun i o ho => (this i o (by simp) ho).1, fun i o g w ho hg => (this i o (by simp) ho).2.1 g w hg, fun i j oi oj hij hi hj => (this j oj (by simp) hj).2.2.1 i oi hij hi,
    fun k j ok oj hkj hk hj hp => (this j oj (by simp) hj).2.2.2 (.inr ⟨k, ok, hkj, hk, hp⟩)⟩

theorem Anc.lt {ops : Array Oper} (hd : DrawOk ops) {j i : Nat} (h : Anc ops j i) : i < j := by
  induction h with
  | base a b c d => have := hd.back _ _ a _ b c; omega
  | step a b c _ ih => have := hd.back _ _ a _ b c; omega

end Go.VA

namespace Go.VA
open Go Go.RowKit

section
variable {P : Program} {tb : TB} {gl : Gl}

/-- j writes t -/
def Wr (ops : Array Oper) (j t : Nat) : Prop := ∃ o, ops[j]? = some o ∧ o.dst = some t

/-- what i sees of t is what the order of the text gives -/
def Lk (ops : Array Oper) (i t : Nat) : Prop :=
  (∃ j, j < i ∧ Wr ops j t ∧ Anc ops i j) ∨ ((∀ j, j < i → ¬ Wr ops j t) ∧ ∀ j, i < j → Wr ops j t → Anc ops j i)

theorem looks_Lk {ops : Array Oper} (hd : DrawOk ops) {i : Nat} {o : Oper} (ho : ops[i]? = some o) {t : Nat} (ht : t ∈ o.looksAt ops) : Lk ops i t := by
  by_cases h : ∃ j, j < i ∧ Wr ops j t
  · obtain ⟨j, hj, oj, hoj, hdj⟩ := h
    refine .inl ⟨j, hj, ⟨oj, hoj, hdj⟩, ?_⟩
    rcases hd.conf j i oj o hj hoj ho with h1 | h1
    · exact absurd ht ((Oper.apart_spec h1).1 t hdj)
    · exact h1
  · refine .inr ⟨fun j hj hw => h ⟨j, hj, hw⟩, fun j hj ⟨oj, hoj, hdj⟩ => ?_⟩
    rcases hd.conf i j o oj hj ho hoj with h1 | h1
    · exact absurd ht ((Oper.apart_spec h1).2.2 t hdj)
    · exact h1

def envAt (env : Env) (l : List Oper) (V : Nat → AV) : Nat → Env
  | 0 => env
  | j + 1 => match l[j]? with
    | none => envAt env l V j
    | some o => putE o.dst (V j) (envAt env l V j)

theorem envAt_congr {env : Env} {l : List Oper} {V V' : Nat → AV} : ∀ {i : Nat}, (∀ j, j < i → V j = V' j) → envAt env l V i = envAt env l V' i
  | 0, _ => rfl
  | i + 1, h => by
    simp only [envAt]
    rw [envAt_congr (V' := V') (i := i) fun j hj => h j (by omega), h i (by omega)]

theorem get_putE_ne {d : Option Nat} {x : AV} {env : Env} {t : Nat} (h : d ≠ some t) : get (putE d x env) t = get env t := by
  cases d with
  | none => rfl
  | some s =>
    simp only [putE, get]
    split
    · rename_i e; exact absurd (by rw [Nat.beq_spec e]) h
    · rfl

theorem get_putE_same {x : AV} {env : Env} {t : Nat} : get (putE (some t) x env) t = x := by simp [putE, get]

theorem envAt_none {env : Env} {ops : Array Oper} {V : Nat → AV} {t : Nat} : ∀ {i : Nat}, (∀ j, j < i → ¬ Wr ops j t) → get (envAt env ops.toList V i) t = get env t
  | 0, _ => rfl
  | i + 1, h => by
    simp only [envAt]
    have ih := envAt_none (V := V) (env := env) (i := i) fun j hj => h j (by omega)
    split
    · exact ih
    · rename_i o ho
      rw [get_putE_ne fun e => h i (by omega) ⟨o, by simpa using ho, e⟩]
      exact ih

theorem envAt_some {env : Env} {ops : Array Oper} {V : Nat → AV} {t j : Nat} : ∀ {i : Nat}, j < i → Wr ops j t → (∀ j', j' < i → Wr ops j' t → j' = j) → get (envAt env ops.toList V i) t = V j
  | 0, hj, _, _ => by omega
  | i + 1, hj, hw, hu => by
    simp only [envAt]
    by_cases hji : j = i
    · subst hji
      obtain ⟨o, ho, hd⟩ := hw
      have : ops.toList[j]? = some o := by simpa using ho
      rw [this]
      simp only
      rw [hd, get_putE_same]
    · have ih := envAt_some (env := env) (V := V) (i := i) (by omega) hw fun j' hj' => hu j' (by omega)
      split
      · exact ih
      · rename_i o ho
        rw [get_putE_ne fun e => hji (hu i (by omega) ⟨o, by simpa using ho, e⟩).symm]
        exact ih

/-- no slot is written twice by the first i -/
def Uniq (ops : Array Oper) (i : Nat) : Prop := ∀ j j' t, j < i → j' < i → Wr ops j t → Wr ops j' t → j = j'

/-- the guards that are spoken of are those of the text -/
def GdOf (ops : Array Oper) (V : Nat → AV) (i : Nat) : Prop :=
  ∀ j, j < i → ∀ s w x, V j = .gd s w x → ∃ o g, ops[j]? = some o ∧ o.guard = some (g, w) ∧ (ops[g]?).bind (·.dst) = some s

theorem gdCl {ops : Array Oper} (hd : DrawOk ops) {env : Env} (hn : NoGd env) {V : Nat → AV} {i : Nat} (hu : Uniq ops i) (hg : GdOf ops V i) : GdCl (Lk ops i) (envAt env ops.toList V i) := by
  intro t s w x hl hget
  by_cases h : ∃ j, j < i ∧ Wr ops j t
  · obtain ⟨j, hj, hw⟩ := h
    rw [envAt_some hj hw fun j' hj' hw' => hu j' j t hj' hj hw' hw] at hget
    obtain ⟨o, g, h1, h2, h3⟩ := hg j hj s w x hget
    have hij : Anc ops i j := by
      rcases hl with ⟨j', hj', hw', ha⟩ | ⟨hno, _⟩
      · rw [hu j j' t hj hj' hw hw']; exact ha
      · exact absurd hw (hno j hj)
    have hgj := hd.guard j o g w h1 h2
    cases hog : ops[g]? with
    | none => simp [hog] at h3
    | some og =>
      simp only [hog, Option.bind_some] at h3
      have hjg : Anc ops j g := by
        rcases hd.conf g j og o hgj hog h1 with h4 | h4
        · exact absurd (by simp [Oper.looksAt, h2, hog, h3]) ((Oper.apart_spec h4).1 s h3)
        · exact h4
      exact .inl ⟨g, by omega, ⟨og, hog, h3⟩, hij.trans hjg⟩
  · rw [envAt_none fun j hj hw => h ⟨j, hj, hw⟩] at hget
    have := hn _ (get_key hget)
    simp at this

/-- what one operation ahead hands on -/
def PF (P : Program) (gl : Gl) (ops : Array Oper) (L : List AO) (env : Env) (V : Nat → AV) (j : Nat) : Prop :=
  ∃ o, ops[j]? = some o ∧
    ((o.guard = none ∧ gkey (V j) = none ∧ PureTo P gl (restrict (Lk ops j) (envAt env ops.toList V j)) .no L o (V j)) ∨
      ∃ g w s x, o.guard = some (g, w) ∧ (ops[g]?).bind (·.dst) = some s ∧ V j = .gd s w x ∧ PureTo P gl (restrict (Lk ops j) (envAt env ops.toList V j)) (.at s w) L o x)

theorem PF.congr {ops : Array Oper} {L : List AO} {env : Env} {V V' : Nat → AV} {j : Nat} (h : PF P gl ops L env V j) (hv : ∀ i, i ≤ j → V i = V' i) : PF P gl ops L env V' j := by
  unfold PF at *
  rw [← hv j (by omega), ← envAt_congr (fun i hi => hv i (by omega))]
  exact h

theorem PureTo.strip {env : Env} {key : Key} {L : List AO} {o : Oper} {x : AV} (h : PureTo P gl env key L o x) : PureTo P gl env key L o (strip x) :=
  fun M B a w h1 h2 h3 h4 next Q hn => h M B a w h1 h2 h3 h4 next Q fun u w' ⟨k1, k2⟩ => hn u w' ⟨k1, strip_rel k2⟩

theorem opPure_lk (htb : TbOk P tb) {ops : Array Oper} (hd : DrawOk ops) {env : Env} {V : Nat → AV} {L : List AO} {i : Nat} {o : Oper} (ho : ops[i]? = some o) {key : Key} (hkey : ∀ s w, key = .at s w → Lk ops i s)
    (hcl : GdCl (Lk ops i) (envAt env ops.toList V i)) {K : AV → Prop} (h : opPure P tb gl (envAt env ops.toList V i) key L o.op K) :
    ∃ x, K x ∧ PureTo P gl (restrict (Lk ops i) (envAt env ops.toList V i)) key L o x := by
  refine opPure_sound htb ?_
  rw [opPure_congr (env := envAt env ops.toList V i) (fun key2 x hx => evO_restrict key key2 x fun t ht => looks_Lk hd ho ?_) (fun p => chain_restrict hcl 20 key p hkey)]
  · exact h
  · subst ht
    exact List.mem_append_left _ (List.mem_filterMap.2 ⟨.tmp t, by simpa using hx, rfl⟩)

theorem upd_lt {V : Nat → AV} {i : Nat} {x : AV} {j : Nat} (h : j < i) : (fun k => if k = i then x else V k) j = V j := by
  simp only
  rw [if_neg (by omega)]

structure FrontSplit (P : Program) (tb : TB) (gl : Gl) (ro : Nat) (ops : Array Oper) (L : List AO) (env : Env) (K : Env → List AO → Prop) (V : Nat → AV) (n k : Nat) : Prop where
  le : k ≤ ops.size
  pf : ∀ j, j < k → PF P gl ops L env V j
  uniq : Uniq ops k
  gdOf : GdOf ops V k
  imp : ∀ o, ops[k]? = some o → pureOp o.op = false
  tail : ∃ seen, GdIn seen (envAt env ops.toList V k) ∧ seqOps P tb gl ro ops.toList (ops.toList.drop k) seen (envAt env ops.toList V k) L K
  top : ∃ m, Top m (envAt env ops.toList V k) ∧ m + cntD (ops.toList.drop k) = n

theorem front_split (htb : TbOk P tb) {ro : Nat} {ops : Array Oper} (hd : DrawOk ops) {env : Env} (hn : NoGd env) {L : List AO} {K : Env → List AO → Prop} :
    ∀ (r : List Oper) (i : Nat) (seen : List Nat) (V : Nat → AV) (m : Nat), ops.toList.drop i = r → i ≤ ops.size → (∀ j, j < i → PF P gl ops L env V j) → Uniq ops i → GdOf ops V i →
      (∀ j t, j < i → Wr ops j t → t ∈ seen) → GdIn seen (envAt env ops.toList V i) → Top m (envAt env ops.toList V i) →
      frontOps P tb gl ro ops.toList r seen (envAt env ops.toList V i) L K →
      ∃ V' k, FrontSplit P tb gl ro ops L env K V' (m + cntD r) k
  | [], i, seen, V, m, hr, hi, hpf, hu, hg, hseen, hgd, ht, h => by
    simp only [frontOps, stripK_eq, gdK_eq] at h
    refine ⟨V, i, hi, hpf, hu, hg, fun o ho => ?_, ⟨seen, hgd, by rw [hr]; simpa [seqOps] using h⟩, ⟨m, ht, by rw [hr]⟩⟩
    have hlt := (Array.getElem?_eq_some_iff.1 ho).1
    have := congrArg List.length hr
    simp at this
    omega
  | o :: r, i, seen, V, m, hr, hi, hpf, hu, hg, hseen, hgd, ht, h => by
    have hoi : ops[i]? = some o := by
      have : (ops.toList.drop i)[0]? = some o := by rw [hr]; rfl
      rw [List.getElem?_drop] at this
      simpa using this
    have hlt := (Array.getElem?_eq_some_iff.1 hoi).1
    simp only [frontOps, stripK_eq, gdK_eq] at h
    split at h
    · rename_i hp
      refine ⟨V, i, hi, hpf, hu, hg, fun o' ho' => ?_, ⟨seen, hgd, by rw [hr]; exact h⟩, ⟨m, ht, by rw [hr]⟩⟩
      rw [hoi] at ho'; simp only [Option.some.injEq] at ho'; subst ho'; exact hp
    · rename_i hp
      split at h; · exact h.elim
      rename_i hdst
      have hfresh : ∀ t, o.dst = some t → t ∉ seen := by
        intro t e hm
        rw [e] at hdst
        simp only [dstOk] at hdst
        split at hdst
        · simp at hdst
        · rename_i h2; rw [memN_spec.2 hm] at h2; simp at h2
      have hu' : Uniq ops (i + 1) := by
        intro j j' t hj hj' hw hw'
        rcases Nat.lt_or_ge j i with h1 | h1 <;> rcases Nat.lt_or_ge j' i with h2 | h2
        · exact hu j j' t h1 h2 hw hw'
        · obtain rfl : j' = i := by omega
          obtain ⟨o', e1, e2⟩ := hw'
          rw [hoi] at e1; simp only [Option.some.injEq] at e1; subst e1
          exact absurd (hseen j t h1 hw) (hfresh t e2)
        · obtain rfl : j = i := by omega
          obtain ⟨o', e1, e2⟩ := hw
          rw [hoi] at e1; simp only [Option.some.injEq] at e1; subst e1
          exact absurd (hseen j' t h2 hw') (hfresh t e2)
        · omega
      have hseen' : ∀ j t, j < i + 1 → Wr ops j t → t ∈ addD o.dst seen := by
        intro j t hj hw
        rcases Nat.lt_or_ge j i with h1 | h1
        · have := hseen j t h1 hw
          cases o.dst <;> simp [addD, this]
        · obtain rfl : j = i := by omega
          obtain ⟨o', e1, e2⟩ := hw
          rw [hoi] at e1; simp only [Option.some.injEq] at e1; subst e1
          simp [addD, e2]
      have hr' : ops.toList.drop (i + 1) = r := by
        have := congrArg (List.drop 1) hr
        rw [List.drop_drop] at this
        simpa using this
      have hcl := gdCl hd hn hu hg
      have hol : ops.toList[i]? = some o := by simpa using hoi
      -- one more
      have go : ∀ x, (∀ V', (∀ j, j < i → V' j = V j) → V' i = x → PF P gl ops L env V' i) → (∀ s w y, x = .gd s w y → s ∈ seen ∧ ∃ g, o.guard = some (g, w) ∧ (ops[g]?).bind (·.dst) = some s) →
          frontOps P tb gl ro ops.toList r (addD o.dst seen) (putE o.dst x (envAt env ops.toList V i)) L K → ∃ V' k, FrontSplit P tb gl ro ops L env K V' (m + cntD (o :: r)) k := by
        intro x hx hgx hK
        have hV : ∀ j, j < i → (fun k => if k = i then x else V k) j = V j := fun j hj => upd_lt hj
        have hVi : (fun k => if k = i then x else V k) i = x := by simp
        generalize (fun k => if k = i then x else V k) = V' at hV hVi
        have hE : envAt env ops.toList V' i = envAt env ops.toList V i := envAt_congr hV
        have hE1 : envAt env ops.toList V' (i + 1) = putE o.dst x (envAt env ops.toList V i) := by
          simp only [envAt, hol, hVi, hE]
        have := front_split htb hd hn r (i + 1) (addD o.dst seen) V' (m + match o.dst with | none => 0 | some _ => 1) hr' (by omega) (fun j hj => by
          rcases Nat.lt_or_ge j i with h1 | h1
          · exact (hpf j h1).congr fun k hk => (hV k (by omega)).symm
          · obtain rfl : j = i := by omega
            exact hx V' hV hVi) hu' (fun j hj s w y hv => by
          rcases Nat.lt_or_ge j i with h1 | h1
          · exact hg j h1 s w y (by rw [← hV j h1]; exact hv)
          · obtain rfl : j = i := by omega
            obtain ⟨g, k1, k2⟩ := (hgx s w y (by rw [← hVi]; exact hv)).2
            exact ⟨o, g, hoi, k1, k2⟩) hseen' (by
          rw [hE1]
          exact hgd.put o.dst fun s hs => by
            cases x <;> simp only [gkey, reduceCtorEq, Option.some.injEq] at hs
            subst hs
            exact (hgx _ _ _ rfl).1) (by rw [hE1]; exact ht.put o.dst x) (by rw [hE1]; exact hK)
        have hc : m + cntD (o :: r) = (m + match o.dst with | none => 0 | some _ => 1) + cntD r := by
          simp only [cntD]; cases o.dst <;> simp; omega
        rw [hc]
        exact this
      split at h
      · rename_i hguard
        obtain ⟨x, hK, hpt⟩ := opPure_lk htb hd hoi (key := .no) (by simp) hcl h
        refine go (strip x) (fun V' hV hVi => ⟨o, hoi, .inl ⟨hguard, by rw [hVi]; exact strip_key x, ?_⟩⟩) (fun s w y e => ?_) hK
        · rw [hVi, envAt_congr hV]; exact hpt.strip
        · have := strip_key x; rw [e] at this; simp [gkey] at this
      · rename_i g w hguard
        split at h; · exact h.elim
        rename_i s hs
        split at h; · exact h.elim
        rename_i hm
        have hm := memN_spec.1 hm
        have hs' : (ops[g]?).bind (·.dst) = some s := by rw [← hs, dstOf_eq]; simp
        obtain ⟨x, hK, hpt⟩ := opPure_lk htb hd hoi (key := .at s w) (fun s' w' e => by
          simp only [Key.at.injEq] at e
          rw [← e.1]
          exact looks_Lk hd hoi (by simp [Oper.looksAt, hguard, hs'])) hcl h
        refine go (.gd s w x) (fun V' hV hVi => ⟨o, hoi, .inr ⟨g, w, s, x, hguard, hs', hVi, ?_⟩⟩) (fun s' w' y e => ?_) hK
        · rw [envAt_congr hV]; exact hpt
        · simp only [AV.gd.injEq] at e
          obtain ⟨rfl, rfl, rfl⟩ := e
          exact ⟨hm, g, hguard, hs'⟩

end
end Go.VA

namespace Go.VA
open Go Go.RowKit

section
variable {P : Program} {tb : TB} {gl : Gl} {ops : Array Oper} {Q : Exit → Act → World → Prop}

/-! ### Any order, by what holds along it -/

theorem count_set : ∀ (l : List Bool) (i : Nat), l[i]? = some false → (l.set i true).count true = l.count true + 1
  | [], _, h => by simp at h
  | x :: r, 0, h => by simp at h; subst h; simp
  | x :: r, i + 1, h => by
    have := count_set r i (by simpa using h)
    simp only [List.set_cons_succ, List.count_cons, this]
    omega

theorem count_all : ∀ (l : List Bool), l.count true = l.length → ∀ i, i < l.length → l[i]? = some true
  | [], _, i, hi => by simp at hi
  | x :: r, h, i, hi => by
    have hle := List.count_le_length (l := r) (a := true)
    cases x with
    | false => simp at h; omega
    | true =>
      cases i with
      | zero => rfl
      | succ i => simpa using count_all r (by simpa using h) i (by simpa using hi)

theorem wpAny_inv {I : Array Bool → Act → World → Prop}
    (hstep : ∀ listed a w, listed.size = ops.size → I listed a w → ∀ i ∈ Region.ready .any ops listed, wpOp P ops Q i (I (listed.setIfInBounds i true)) a w)
    (hdone : ∀ listed a w, listed.size = ops.size → I listed a w → Region.ready .any ops listed = [] → Q .normal a w) :
    ∀ (fuel : Nat) (listed : Array Bool) (a : Act) (w : World), listed.size = ops.size → listed.toList.count true + fuel = ops.size → I listed a w → wpAny P .any ops Q fuel listed a w
  | 0, listed, a, w, hs, hc, hI => by
    have hr : Region.ready .any ops listed = [] := by
      cases hq : Region.ready .any ops listed with
      | nil => rfl
      | cons x xs =>
        exfalso
        have hx : x ∈ Region.ready .any ops listed := by rw [hq]; simp
        obtain ⟨h0, o, ho, _⟩ := mem_ready.1 hx
        have hlt := (Array.getElem?_eq_some_iff.1 ho).1
        have := count_all listed.toList (by rw [Array.length_toList]; omega) x (by rw [Array.length_toList]; omega)
        have h1 : listed[x]? = some true := by simpa using this
        rw [Array.getD_eq_getD_getElem?, h1] at h0
        simp at h0
    exact ⟨hr, hdone listed a w hs hI hr⟩
  | fuel + 1, listed, a, w, hs, hc, hI => by
    refine ⟨hdone listed a w hs hI, fun i hi => wpOp_mono (fun a' w' h => ?_) (hstep listed a w hs hI i hi)⟩
    obtain ⟨h0, o, ho, _⟩ := mem_ready.1 hi
    have hlt := (Array.getElem?_eq_some_iff.1 ho).1
    refine wpAny_inv hstep hdone fuel _ a' w' (by simp [hs]) ?_ h
    have h1 : listed.toList[i]? = some false := by
      have h2 : i < listed.size := by omega
      simp [h2] at h0
      simp [h2, h0]
    rw [Array.toList_setIfInBounds, count_set _ _ h1]
    omega

def DownC (ops : Array Oper) (listed : Array Bool) : Prop :=
  ∀ j, listed.getD j false = true → ∀ o, ops[j]? = some o → ∀ e ∈ o.after, Region.binds .any e = true → listed.getD e.on false = true

theorem DownC.anc {listed : Array Bool} (h : DownC ops listed) {j i : Nat} (ha : Anc ops j i) : listed.getD j false = true → listed.getD i false = true := by
  induction ha with
  | base a b c d => intro hj; rw [← d]; exact h _ hj _ a _ b c
  | step a b c _ ih => intro hj; exact ih (h _ hj _ a _ b c)

theorem ready_anc {listed : Array Bool} (h : DownC ops listed) {j i : Nat} (hr : j ∈ Region.ready .any ops listed) (ha : Anc ops j i) : listed.getD i false = true := by
  obtain ⟨_, o, ho, hall⟩ := mem_ready.1 hr
  cases ha with
  | base a b c d => rw [a] at ho; simp only [Option.some.injEq] at ho; subst ho; rw [← d]; exact hall _ b c
  | step a b c d => rw [a] at ho; simp only [Option.some.injEq] at ho; subst ho; exact h.anc d (hall _ b c)

theorem DownC.set {listed : Array Bool} (h : DownC ops listed) {i : Nat} (hr : i ∈ Region.ready .any ops listed) : DownC ops (listed.setIfInBounds i true) := by
  intro j hj o ho e he hb
  by_cases hij : j = i
  · subst hij
    obtain ⟨_, o', ho', hall⟩ := mem_ready.1 hr
    rw [ho] at ho'; simp only [Option.some.injEq] at ho'; subst ho'
    exact getD_set_true (hall e he hb)
  · rw [getD_set_ne false (Ne.symm hij)] at hj
    exact getD_set_true (h j hj o ho e he hb)

theorem unready {listed : Array Bool} (hs : listed.size = ops.size) {j : Nat} (hr : j ∈ Region.ready .any ops listed) : listed.getD j false = false := by
  obtain ⟨h0, o, ho, _⟩ := mem_ready.1 hr
  have hlt := (Array.getElem?_eq_some_iff.1 ho).1
  have h2 : j < listed.size := by omega
  simp [h2] at h0 ⊢
  exact h0

/-- the first that is not listed is ready -/
theorem ready_first (hd : DrawOk ops) {listed : Array Bool} (hs : listed.size = ops.size) {j : Nat} (hj : j < ops.size) (hun : listed.getD j false = false) (hall : ∀ i, i < j → listed.getD i false = true) :
    j ∈ Region.ready .any ops listed := by
  have h2 : j < listed.size := by omega
  refine mem_ready.2 ⟨?_, ops[j], by simp [hj], fun e he hb => hall _ (hd.back j _ (by simp [hj]) e he hb)⟩
  simp [h2] at hun ⊢
  exact hun

theorem exists_first {listed : Array Bool} : ∀ (n : Nat), (∀ i, i < n → listed.getD i false = true) ∨ ∃ j, j < n ∧ listed.getD j false = false ∧ ∀ i, i < j → listed.getD i false = true
  | 0 => .inl (by simp)
  | n + 1 => by
    rcases exists_first (listed := listed) n with h | ⟨j, hj, h1, h2⟩
    · cases hq : listed.getD n false with
      | true =>
        refine .inl fun i hi => ?_
        rcases Nat.lt_or_ge i n with h1 | h1
        · exact h i h1
        · obtain rfl : i = n := by omega
          exact hq
      | false => exact .inr ⟨n, by omega, hq, h⟩
    · exact .inr ⟨j, by omega, h1, h2⟩

theorem none_ready (hd : DrawOk ops) {listed : Array Bool} (hs : listed.size = ops.size) (hr : Region.ready .any ops listed = []) : ∀ i, i < ops.size → listed.getD i false = true := by
  rcases exists_first (listed := listed) ops.size with h | ⟨j, hj, h1, h2⟩
  · exact h
  · have := ready_first hd hs hj h1 h2
    rw [hr] at this
    simp at this

/-! ### The operations ahead -/

structure SlotI (X : Fx) (ops : Array Oper) (B : List (Option BI)) (L : List AO) (env : Env) (V : Nat → AV) (listed : Array Bool) (a : Act) (w : World) : Prop where
  st : St X B [] L a w
  done : ∀ j, listed.getD j false = true → ∀ t, Wr ops j t → RelSl B (Sr X.M B L w) a (V j) (a.tmps.getD t undef)
  old : ∀ t, (∀ j, listed.getD j false = true → ¬ Wr ops j t) → RelSl B (Sr X.M B L w) a (get env t) (a.tmps.getD t undef)

theorem SlotI.rel {X : Fx} {B : List (Option BI)} {L : List AO} {env : Env} {V : Nat → AV} {listed : Array Bool} {a : Act} {w : World} (h : SlotI X ops B L env V listed a w) (hs : listed.size = ops.size) (hdc : DownC ops listed)
    {i k : Nat} (hik : i < k) (hu : Uniq ops k) (hr : i ∈ Region.ready .any ops listed) :
    RelE B (Sr X.M B L w) (restrict (Lk ops i) (envAt env ops.toList V i)) a := by
  have hun := unready hs hr
  intro t
  by_cases hl : Lk ops i t
  · rw [(get_restrict _ _ t).1 hl]
    by_cases hw : ∃ j, j < i ∧ Wr ops j t
    · obtain ⟨j, hj, hwj⟩ := hw
      rw [envAt_some hj hwj fun j' hj' hw' => hu j' j t (by omega) (by omega) hw' hwj]
      rcases hl with ⟨j', hj', hw', ha⟩ | ⟨hno, _⟩
      · obtain rfl := hu j j' t (by omega) (by omega) hwj hw'
        exact h.done j (ready_anc hdc hr ha) t hwj
      · exact absurd hwj (hno j hj)
    · rw [envAt_none fun j hj hwj => hw ⟨j, hj, hwj⟩]
      refine h.old t fun j hj hwj => ?_
      rcases Nat.lt_trichotomy j i with h1 | h1 | h1
      · exact hw ⟨j, h1, hwj⟩
      · subst h1; rw [hun] at hj; simp at hj
      · have ha : Anc ops j i := by
          rcases hl with ⟨j', hj', hw', _⟩ | ⟨_, hall⟩
          · exact absurd ⟨j', hj', hw'⟩ hw
          · exact hall j h1 hwj
        rw [hdc.anc ha hj] at hun
        simp at hun
  · rw [(get_restrict _ _ t).2 hl]
    simp [RelSl, RelV]

theorem RelSl.put {B : List (Option BI)} {S : Rd} {a : Act} {x : AV} {v : Value} {dst : Option Nat} {u : Value} (h : RelSl B S a x v) (hs : ∀ s w y, x = .gd s w y → dst ≠ some s) : RelSl B S (a.put dst u) x v := by
  cases x with
  | gd s w y =>
    simp only [RelSl] at h ⊢
    rw [getD_put (hs s w y rfl)]
    exact h
  | _ => exact h

theorem listed_set {listed : Array Bool} {i j : Nat} (h : (listed.setIfInBounds i true).getD j false = true) : j = i ∨ listed.getD j false = true := by
  by_cases hij : j = i
  · exact .inl hij
  · rw [getD_set_ne false (Ne.symm hij)] at h; exact .inr h

/-- one of the operations ahead has run -/
theorem SlotI.next {X : Fx} {B : List (Option BI)} {L : List AO} {env : Env} (hn : NoGd env) {V : Nat → AV} {listed : Array Bool} {a : Act} {w w' : World} (h : SlotI X ops B L env V listed a w) (hs : listed.size = ops.size)
    (hd : DrawOk ops) (hdc : DownC ops listed) {i k : Nat} (hik : i < k) (hu : Uniq ops k) (hg : GdOf ops V k) (hr : i ∈ Region.ready .any ops listed) (hk : ∀ j, listed.getD j false = true → j < k)
    {o : Oper} (ho : ops[i]? = some o) (hlt : ∀ d, o.dst = some d → d < X.nt) (hext : Below w.heap.size w w') {u : Value} (hx : ∀ d, o.dst = some d → RelSl B (Sr X.M B L w') (a.put o.dst u) (V i) u) :
    SlotI X ops B L env V (listed.setIfInBounds i true) (a.put o.dst u) w' := by
  have hun := unready hs hr
  refine ⟨?_, fun j hj t hw => ?_, fun t ht => ?_⟩
  · have := (h.st.ext hext).put (seen := []) (fun s hs => by simp [keysE] at hs) (dst := o.dst) (by cases o.dst <;> rfl) hlt (x := .any) (u := u) (by simp [RelSl, RelV])
    exact ⟨this.relL, this.glob, fun t => by simp [get, RelSl, RelV], this.below, this.fresh, this.old, this.rol, this.l0, this.knd, this.dfr, this.sz⟩
  · rcases listed_set hj with rfl | hj
    · obtain ⟨o', e1, e2⟩ := hw
      rw [ho] at e1; simp only [Option.some.injEq] at e1; subst e1
      have := hx t e2
      rw [e2] at this ⊢
      rw [getD_put_same (by rw [h.st.sz]; exact hlt t e2)]
      exact this
    · have hjk := hk j hj
      have hne : o.dst ≠ some t := fun e => by
        obtain rfl := hu i j t hik hjk ⟨o, ho, e⟩ hw
        rw [hun] at hj; simp at hj
      rw [getD_put hne]
      refine RelSl.put (RelSl.mono (Ble.refl B) (Sr_ext hext) _ _ (h.done j hj t hw)) fun s wt y hv hds => ?_
      obtain ⟨oj, g, h1, h2, h3⟩ := hg j hjk s wt y hv
      have hgj := hd.guard j oj g wt h1 h2
      cases hog : ops[g]? with
      | none => simp [hog] at h3
      | some og =>
        simp only [hog, Option.bind_some] at h3
        obtain rfl := hu i g s hik (by omega) ⟨o, ho, hds⟩ ⟨og, hog, h3⟩
        rw [ho] at hog; simp only [Option.some.injEq] at hog; subst hog
        rcases hd.conf i j o oj hgj ho h1 with h4 | h4
        · exact absurd (by simp [Oper.looksAt, h2, ho, h3]) ((Oper.apart_spec h4).1 s h3)
        · rw [hdc.anc h4 hj] at hun; simp at hun
  · have hne : o.dst ≠ some t := fun e => by
      have hlt' : i < listed.size := by rw [hs]; exact (Array.getElem?_eq_some_iff.1 ho).1
      exact ht i (by simp [hlt']) ⟨o, ho, e⟩
    rw [getD_put hne]
    refine RelSl.put (RelSl.mono (Ble.refl B) (Sr_ext hext) _ _ (h.old t fun j hj hw => ht j (getD_set_true hj) hw)) fun s wt y hv => ?_
    have := hn _ (get_key hv)
    simp at this

theorem SlotI.step {X : Fx} (hgl : X.gl = gl) {B : List (Option BI)} {L : List AO} {env : Env} (hn : NoGd env) {V : Nat → AV} {listed : Array Bool} {a : Act} {w : World} (h : SlotI X ops B L env V listed a w) (hs : listed.size = ops.size)
    (hd : DrawOk ops) (hdc : DownC ops listed) {i k : Nat} (hik : i < k) (hu : Uniq ops k) (hg : GdOf ops V k) (hr : i ∈ Region.ready .any ops listed) (hk : ∀ j, listed.getD j false = true → j < k)
    (hpf : PF P gl ops L env V i) (hlt : ∀ o, ops[i]? = some o → ∀ d, o.dst = some d → d < X.nt) {K : Act → World → Prop}
    (hK : ∀ a' w', SlotI X ops B L env V (listed.setIfInBounds i true) a' w' → K a' w') : wpOp P ops Q i K a w := by
  obtain ⟨o, ho, hpf⟩ := hpf
  have hrel := h.rel hs hdc hik hu hr
  have hlt := hlt o ho
  subst hgl
  unfold wpOp
  simp only [ho]
  rcases hpf with ⟨h1, h2, h3⟩ | ⟨g, wt, s, x, h1, h2, h3, h4⟩
  · rw [if_pos (by simp [Region.wanted, h1])]
    refine .inl (h3 X.M B a w h.st.relL h.st.glob hrel trivial K Q fun u w' ⟨k1, k2⟩ => hK _ _ ?_)
    exact h.next hn hs hd hdc hik hu hg hr hk ho hlt k1 fun d _ => RelV.notGd h2 k2
  · have hs' : dstOf ops.toList g = some s := by rw [dstOf_eq, ← h2]; simp
    have hds : o.dst ≠ some s := fun e => by
      have hgi := hd.guard i o g wt ho h1
      cases hog : ops[g]? with
      | none => simp [hog] at h2
      | some og =>
        simp only [hog, Option.bind_some] at h2
        have := hu i g s hik (by omega) ⟨o, ho, e⟩ ⟨og, hog, h2⟩
        omega
    split
    · rename_i hw
      have hkey := (wanted_iff h1 hs').1 hw
      refine .inl (h4 X.M B a w h.st.relL h.st.glob hrel hkey K Q fun u w' ⟨k1, k2⟩ => hK _ _ ?_)
      refine h.next hn hs hd hdc hik hu hg hr hk ho hlt k1 fun d _ => ?_
      rw [h3]
      simp only [RelSl]
      rw [getD_put hds]
      exact ⟨fun _ => k2, fun hne => absurd hkey hne⟩
    · rename_i hw
      refine hK _ _ (h.next hn hs hd hdc hik hu hg hr hk ho hlt (Below.refl _ _) fun d _ => ?_)
      rw [h3]
      simp only [RelSl]
      rw [getD_put hds]
      exact ⟨fun e => absurd ((wanted_iff h1 hs').2 e) hw, by simp⟩

theorem SlotI.full {X : Fx} {B : List (Option BI)} {L : List AO} {env : Env} {V : Nat → AV} {listed : Array Bool} {a : Act} {w : World} (h : SlotI X ops B L env V listed a w) {k : Nat} (hu : Uniq ops k)
    (hall : ∀ j, j < k → listed.getD j false = true) (hk : ∀ j, listed.getD j false = true → j < k) : St X B (envAt env ops.toList V k) L a w := by
  refine { h.st with relE := fun t => ?_ }
  by_cases hw : ∃ j, j < k ∧ Wr ops j t
  · obtain ⟨j, hj, hwj⟩ := hw
    rw [envAt_some hj hwj fun j' hj' hw' => hu j' j t (by omega) (by omega) hw' hwj]
    exact h.done j (hall j hj) t hwj
  · rw [envAt_none fun j hj hwj => hw ⟨j, hj, hwj⟩]
    exact h.old t fun j hj hwj => hw ⟨j, hk j hj, hwj⟩

theorem frontOps_sound (htb : TbOk P tb) {X : Fx} (hgl : X.gl = gl) {ro : Nat} (hro : X.M.ro = ro) (hd : DrawOk ops) (hlt : ∀ o ∈ ops.toList, ∀ d, o.dst = some d → d < X.nt) {env : Env} (hn : NoGd env) {L : List AO} {B : List (Option BI)} {a : Act} {w : World}
    {K : Env → List AO → Prop} (hS : St X B env L a w) (h : frontOps P tb gl ro ops.toList ops.toList [] env L K)
    (hQ : ∀ env' L' B' a' w', K env' L' → Top (cntD ops.toList) env' → St X B' env' L' a' w' → Q .normal a' w') : wpAny P .any ops Q ops.size (Array.replicate ops.size false) a w := by
  obtain ⟨V, k, hF⟩ := front_split htb hd hn ops.toList 0 [] (fun _ => .any) 0 (by simp) (by simp) (by simp) (fun j j' t hj => by omega) (fun j hj => by omega) (by simp) hn.gdIn hn.top (by simpa [envAt] using h)
  obtain ⟨seen, hgd, htail⟩ := hF.tail
  obtain ⟨m, htop, hm⟩ := hF.top
  have hlt' : ∀ (i : Nat) (o : Oper), ops[i]? = some o → ∀ d, o.dst = some d → d < X.nt := fun i o ho => hlt o (by
    have : ops.toList[i]? = some o := by simpa using ho
    exact List.mem_of_getElem? this)
  have hfull : ∀ (listed : Array Bool) (a : Act) (w : World), SlotI X ops B L env V listed a w → (∀ j, j < k → listed.getD j false = true) → (∀ j, listed.getD j false = true → j < k) → wpList P ops Q (ops.toList.drop k) a w := by
    intro listed a w hI h1 h2
    refine seqOps_sound htb hgl hro (ops.toList.drop k) seen _ L B a w m (fun o ho => hlt o (List.mem_of_mem_drop ho)) hgd htop (hI.full hF.uniq h1 h2) htail fun env' L' B' a' w' k1 k2 k3 => ?_
    rw [hm] at k2
    exact hQ _ _ _ _ _ k1 (by simpa using k2) k3
  let I : Array Bool → Act → World → Prop := fun listed a w => DownC ops listed ∧
    ((SlotI X ops B L env V listed a w ∧ ∀ j, listed.getD j false = true → j < k) ∨
      ∃ j, k ≤ j ∧ (∀ i, i < j → listed.getD i false = true) ∧ (∀ i, listed.getD i false = true → i < j) ∧ wpList P ops Q (ops.toList.drop j) a w)
  have late : ∀ (listed : Array Bool) (j : Nat), listed.size = ops.size → DownC ops listed → k ≤ j → (∀ i, i < j → listed.getD i false = true) → (∀ i, listed.getD i false = true → i < j) → ∀ i ∈ Region.ready .any ops listed, i = j := by
    intro listed j hs hdc hkj h1 h2 i hi
    have hun := unready hs hi
    rcases Nat.lt_trichotomy i j with h3 | h3 | h3
    · rw [h1 i h3] at hun; simp at hun
    · exact h3
    · exfalso
      obtain ⟨_, oi, hoi, _⟩ := mem_ready.1 hi
      have hklt : k < ops.size := by have := (Array.getElem?_eq_some_iff.1 hoi).1; omega
      have ha := hd.tail k i ops[k] oi (by omega) (by simp [hklt]) hoi (hF.imp _ (by simp [hklt])) j h3
      have := h2 j (ready_anc hdc hi ha)
      omega
  have hstepB : ∀ (listed : Array Bool) (a : Act) (w : World) (j : Nat), listed.size = ops.size → DownC ops listed → k ≤ j → (∀ i, i < j → listed.getD i false = true) → (∀ i, listed.getD i false = true → i < j) → wpList P ops Q (ops.toList.drop j) a w →
      ∀ i ∈ Region.ready .any ops listed, wpOp P ops Q i (I (listed.setIfInBounds i true)) a w := by
    intro listed a w j hs hdc hkj h1 h2 h3 i hi
    obtain rfl := late listed j hs hdc hkj h1 h2 i hi
    obtain ⟨_, o, ho, _⟩ := mem_ready.1 hi
    have hol : ops.toList[i]? = some o := by simpa using ho
    have hil : i < ops.toList.length := (List.getElem?_eq_some_iff.1 hol).1
    have hdrop : ops.toList.drop i = o :: ops.toList.drop (i + 1) := by
      rw [List.drop_eq_getElem_cons hil]
      rw [List.getElem?_eq_getElem hil] at hol
      simp only [Option.some.injEq] at hol
      rw [hol]
    have hnext : ∀ a' w', wpList P ops Q (ops.toList.drop (i + 1)) a' w' → I (listed.setIfInBounds i true) a' w' := fun a' w' hw => by
      refine ⟨hdc.set hi, .inr ⟨i + 1, by omega, fun l hl => ?_, fun l hl => ?_, hw⟩⟩
      · rcases Nat.lt_or_ge l i with h4 | h4
        · exact getD_set_true (h1 l h4)
        · obtain rfl : l = i := by omega
          have : l < listed.size := by rw [hs]; simpa using hil
          simp [this]
      · rcases listed_set hl with rfl | hl
        · omega
        · have := h2 l hl; omega
    rw [hdrop] at h3
    refine wpOp_mono hnext ?_
    unfold wpOp
    simp only [ho]
    exact h3
  refine wpAny_inv (I := I) (fun listed a w hs hI i hi => ?_) (fun listed a w hs hI hr => ?_) ops.size _ a w (by simp) (by simp [List.count_replicate]) ⟨fun j hj => ?_, .inl ⟨?_, fun j hj => ?_⟩⟩
  · obtain ⟨hdc, hI⟩ := hI
    rcases hI with ⟨hI, hk⟩ | ⟨j, hkj, h1, h2, h3⟩
    · rcases Nat.lt_or_ge i k with hik | hik
      · refine hI.step hgl hn hs hd hdc hik hF.uniq hF.gdOf hi hk (hF.pf i hik) (fun o ho => hlt' i o ho) fun a' w' hI' => ⟨hdc.set hi, .inl ⟨hI', fun j hj => ?_⟩⟩
        rcases listed_set hj with rfl | hj
        · exact hik
        · exact hk j hj
      · obtain ⟨_, oi, hoi, _⟩ := mem_ready.1 hi
        have hklt : k < ops.size := by have := (Array.getElem?_eq_some_iff.1 hoi).1; omega
        have hall : ∀ j, j < k → listed.getD j false = true := fun j hj =>
          ready_anc hdc hi (hd.tail k i ops[k] oi hik (by simp [hklt]) hoi (hF.imp _ (by simp [hklt])) j (by omega))
        exact hstepB listed a w k hs hdc (Nat.le_refl _) hall hk (hfull listed a w hI hall hk) i hi
    · exact hstepB listed a w j hs hdc hkj h1 h2 h3 i hi
  · obtain ⟨hdc, hI⟩ := hI
    have hall := none_ready hd hs hr
    rcases hI with ⟨hI, hk⟩ | ⟨j, hkj, h1, h2, h3⟩
    · have hk' : k = ops.size := by
        have := hF.le
        rcases Nat.lt_or_ge k ops.size with h1 | h1
        · have := hk k (hall k h1); omega
        · omega
      have := hfull listed a w hI (fun j hj => hall j (by omega)) hk
      rw [hk', List.drop_eq_nil_of_le (by simp)] at this
      exact this
    · have hj : ops.size ≤ j := by
        rcases Nat.lt_or_ge j ops.size with h4 | h4
        · have := h2 j (hall j h4); omega
        · exact h4
      rw [List.drop_eq_nil_of_le (by simpa using hj)] at h3
      exact h3
  · exfalso
    by_cases hlt : j < ops.size <;> simp [hlt] at hj
  · refine ⟨⟨hS.relL, hS.glob, fun t => by simp [get, RelSl, RelV], hS.below, hS.fresh, hS.old, hS.rol, hS.l0, hS.knd, hS.dfr, hS.sz⟩, fun j hj => ?_, fun t _ => hS.relE t⟩
    exfalso
    by_cases hlt : j < ops.size <;> simp [hlt] at hj
  · exfalso
    by_cases hlt : j < ops.size <;> simp [hlt] at hj

end
end Go.VA

namespace Go.VA
open Go Go.RowKit

/-! ### Weaker states -/

mutual
theorem RelV.cut {B : List (Option BI)} {S : Rd} {n : Nat} : ∀ (x : AV) (u : Value), x.lt n = true → RelV B S x u → RelV (B.take n) S x u
  | .any, _, _, _ => by simp [RelV]
  | .c x, u, _, h => by simpa only [RelV] using h
  | .ag xs, u, _, h => by simpa only [RelV] using h
  | .agx xs, u, hl, h => by
    simp only [AV.lt] at hl
    simp only [RelV] at h ⊢
    obtain ⟨arr, h1, h2, h3⟩ := h
    exact ⟨arr, h1, h2, RelVs.cut xs _ hl h3⟩
  | .ptr id off, u, hl, h => by
    have hl := bltN (by simpa only [AV.lt] using hl)
    simp only [RelV] at h ⊢
    obtain ⟨bi, h1, h2⟩ := h
    exact ⟨bi, by rw [List.getElem?_take_of_lt hl]; exact h1, h2⟩
  | .pe id esz i k, u, hl, h => by
    have hl := bltN (by simpa only [AV.lt] using hl)
    simp only [RelV] at h ⊢
    obtain ⟨bi, h1, h2⟩ := h
    exact ⟨bi, by rw [List.getElem?_take_of_lt hl]; exact h1, h2⟩
  | .sp t xs k, u, _, h => by simpa only [RelV] using h
  | .own id esz off len, u, hl, h => by
    have hl := bltN (by simpa only [AV.lt] using hl)
    simp only [RelV] at h ⊢
    rcases h with ⟨bi, cap, h1, h2⟩ | ⟨h1, h2, bo, h3⟩
    · exact .inl ⟨bi, cap, by rw [List.getElem?_take_of_lt hl]; exact h1, h2⟩
    · exact .inr ⟨h1, h2, bo, by rw [List.getElem?_take_of_lt hl]; exact h3⟩
  | .tup xs, u, hl, h => by
    simp only [AV.lt] at hl
    simp only [RelV] at h ⊢
    obtain ⟨arr, h1, h3⟩ := h
    exact ⟨arr, h1, RelVs.cut xs _ hl h3⟩
  | .fn f xs ys, u, hl, h => by
    simp only [AV.lt] at hl
    split at hl
    · rename_i h0
      simp only [RelV] at h ⊢
      obtain ⟨a1, a2, h1, h2, h3⟩ := h
      exact ⟨a1, a2, h1, RelVs.cut xs _ h0 h2, RelVs.cut ys _ hl h3⟩
    · simp at hl
  | .gd .., _, _, _ => by simp [RelV]
  | .mpv id, u, hl, h => by
    have hl := bltN (by simpa only [AV.lt] using hl)
    simp only [RelV] at h ⊢
    obtain ⟨bi, h1, h2⟩ := h
    exact ⟨bi, by rw [List.getElem?_take_of_lt hl]; exact h1, h2⟩
  | .ub p, u, _, h => by simpa only [RelV] using h
theorem RelVs.cut {B : List (Option BI)} {S : Rd} {n : Nat} : ∀ (xs : List AV) (us : List Value), AV.lts n xs = true → RelVs B S xs us → RelVs (B.take n) S xs us
  | [], us, _, h => by simpa [RelVs] using h
  | x :: xs, us, hl, h => by
    simp only [AV.lts] at hl
    split at hl
    · rename_i h0
      simp only [RelVs] at h ⊢
      obtain ⟨u, r, h1, h2, h3⟩ := h
      exact ⟨u, r, h1, RelV.cut x u h0 h2, RelVs.cut xs r hl h3⟩
    · simp at hl
end

theorem RefE.get {env' : Env} {n : Nat} : ∀ {env : Env} (t : Nat), RefE env' n env → get env t = .any ∨ (Le n (get env' t) (get env t) ∧ (get env t).lt n = true)
  | [], _, _ => .inl rfl
  | (s, x) :: r, t, h => by
    simp only [RefE] at h
    simp only [Go.VA.get]
    split
    · rename_i e
      rw [← Nat.beq_spec e]
      exact .inr h.1
    · exact RefE.get t h.2

theorem NoGdE.spec : ∀ {env : Env}, NoGdE env = true → NoGd env
  | [], _ => fun k hk => by simp [keysE] at hk
  | (s, x) :: r, h => by
    simp only [NoGdE] at h
    intro k hk
    simp only [keysE, List.map_cons, List.mem_cons] at hk
    cases x <;> simp only [Bool.false_eq_true] at h <;>
    (rcases hk with hk | hk
     · rw [hk]; rfl
     · exact NoGdE.spec h k hk)

theorem RefL.nth {n : Nat} : ∀ {L' L : List AO} (id : Nat), RefL n L' L → id < L.length → (id < L'.length ∧ LeO n (getO L' id) (getO L id)) ∨ (L'.length ≤ id ∧ padO (getO L id))
  | _, [], _, _, h => by simp at h
  | [], x :: r, 0, h, _ => by simp only [RefL] at h; exact .inr ⟨by simp, h.1⟩
  | [], x :: r, id + 1, h, hl => by
    simp only [RefL] at h
    rcases RefL.nth (L' := []) id h.2 (by simpa using hl) with h1 | h1
    · simp at h1
    · exact .inr ⟨by simp, h1.2⟩
  | x' :: r', x :: r, 0, h, _ => by simp only [RefL] at h; exact .inl ⟨by simp, h.1⟩
  | x' :: r', x :: r, id + 1, h, hl => by
    simp only [RefL] at h
    rcases RefL.nth id h.2 (by simpa using hl) with h1 | h1
    · exact .inl ⟨by simpa using h1.1, h1.2⟩
    · exact .inr ⟨by simpa using h1.1, h1.2⟩

theorem RefR.nth : ∀ {k : Nat} {L' L : List AO} (id : Nat), RefR k L' L → id < k → (getO L' id).live = (getO L id).live
  | 0, _, _, _, _, h => by omega
  | k + 1, x' :: r', x :: r, 0, h, _ => h.1
  | k + 1, x' :: r', x :: r, id + 1, h, hl => RefR.nth id h.2 (by omega)
  | k + 1, [], _, _, h, _ => by simp [RefR] at h
  | k + 1, _ :: _, [], _, h, _ => by simp [RefR] at h

theorem RefR.len : ∀ {k : Nat} {L' L : List AO}, RefR k L' L → k ≤ L.length
  | 0, _, _, _ => Nat.zero_le _
  | k + 1, x' :: r', x :: r, h => by have := RefR.len h.2; simp; omega
  | k + 1, [], _, h => by simp [RefR] at h
  | k + 1, _ :: _, [], h => by simp [RefR] at h

theorem LeO.live {n : Nat} {x' x : AO} (h : LeO n x' x) (hx : x.live = true) : x'.live = true := by
  cases x <;> simp [AO.live] at hx <;> cases x' <;> simp [LeO] at h <;> rfl

theorem getO_ge : ∀ {L : List AO} {id : Nat}, L.length ≤ id → getO L id = .dead
  | [], _, _ => rfl
  | _ :: r, 0, h => by simp at h
  | _ :: r, id + 1, h => getO_ge (L := r) (by simpa using h)

theorem RelVs.cutLe {B : List (Option BI)} {S S' : Rd} (hS : S.le S') {n : Nat} (hn : n ≤ B.length) : ∀ {xs ys : List AV} {us : List Value}, LeAs n xs ys → RelVs B S xs us → RelVs (B.take n) S' ys us
  | [], [], us, _, h => by simpa [RelVs] using h
  | x :: xs, y :: ys, us, hl, h => by
    simp only [LeAs] at hl
    simp only [RelVs] at h ⊢
    obtain ⟨u, r, h1, h2, h3⟩ := h
    exact ⟨u, r, h1, RelV.cut _ _ hl.1.2 (hl.1.1.h _ _ _ hn (RelV.mono (Ble.refl _) hS _ _ h2)), RelVs.cutLe hS hn hl.2 h3⟩
  | [], _ :: _, _, hl, _ => by simp [LeAs] at hl
  | _ :: _, [], _, hl, _ => by simp [LeAs] at hl

theorem LeMs.rel {S S' : Rd} (hS : S.le S') : ∀ {m' m : List (Value × AV)} {es : List MapEntry}, LeMs m' m → RelM S m' es → RelM S' m es
  | [], [], es, _, h => by simpa [RelM] using h
  | x :: xs, y :: ys, es, hl, h => by
    simp only [LeMs] at hl
    simp only [RelM] at h ⊢
    obtain ⟨e, r, h1, h2, h3, h4⟩ := h
    exact ⟨e, r, h1, h2.trans hl.1.1, hl.1.2.h _ _ _ (Nat.zero_le _) (RelV.mono (Ble.refl _) hS _ _ h3), LeMs.rel hS hl.2 h4⟩
  | [], _ :: _, _, hl, _ => by simp [LeMs] at hl
  | _ :: _, [], _, hl, _ => by simp [LeMs] at hl

theorem RelO.cut {B : List (Option BI)} {S S' : Rd} (hS : S.le S') {n : Nat} (hn : n ≤ B.length) {w : World} {x' x : AO} {bo : Option BI} (hl : LeO n x' x) (h : RelO B S w x' bo) : RelO (B.take n) S' w x bo := by
  cases x with
  | dead => cases bo <;> simp [RelO]
  | box ys =>
    cases x' <;> simp only [LeO] at hl
    simp only [RelO] at h ⊢
    obtain ⟨bi, cs, ty, h1, h2, h3, h4, h5, h6⟩ := h
    exact ⟨bi, cs, ty, h1, h2, h3, h4, h5, RelVs.cutLe hS hn hl h6⟩
  | row e k g =>
    cases x' <;> simp only [LeO] at hl
    obtain ⟨rfl, rfl, hl⟩ := hl
    cases bo with
    | none => simpa only [RelO] using h
    | some bi =>
      simp only [RelO] at h ⊢
      obtain ⟨h1, cs, ty, h2, h3, h4, h5⟩ := h
      refine ⟨h1, cs, ty, h2, h3, h4, fun i hi => ?_⟩
      exact ⟨(hl i hi).1.trans (h5 i hi).1, RepCs.mono hS (fun _ _ h => h) _ _ ((hl i hi).2 _ _ _ (h5 i hi).2)⟩
  | frz e k g =>
    cases x' <;> simp only [LeO] at hl
    obtain ⟨rfl, rfl, hl⟩ := hl
    cases bo with
    | none => simpa only [RelO] using h
    | some bi =>
      simp only [RelO] at h ⊢
      obtain ⟨h1, h5⟩ := h
      refine ⟨h1, fun i hi => ?_⟩
      exact ⟨(hl i hi).1.trans (h5 i hi).1, RepCs.mono hS (fun o u h => hS _ _ _ _ h) _ _ ((hl i hi).2 _ _ _ (h5 i hi).2)⟩
  | mp m =>
    cases x' <;> simp only [LeO] at hl
    simp only [RelO] at h ⊢
    obtain ⟨bi, es, clock, h1, h2, h3⟩ := h
    exact ⟨bi, es, clock, h1, h2, LeMs.rel hS hl h3⟩
  | amb vs ys =>
    cases x' <;> simp only [LeO] at hl
    obtain ⟨rfl, hl⟩ := hl
    simp only [RelO] at h ⊢
    exact RelVs.cutLe hS hn hl h

/-- what is there, and nothing more -/
def padB (n : Nat) (B : List (Option BI)) : List (Option BI) := B ++ List.replicate (n - B.length) none

theorem padB_len (n : Nat) (B : List (Option BI)) : n ≤ (padB n B).length := by simp [padB]; omega

theorem padB_get {n : Nat} {B : List (Option BI)} {id : Nat} {bo : Option BI} (h : ((padB n B).take n)[id]? = some bo) : id < n ∧ (B[id]? = some bo ∨ (B.length ≤ id ∧ bo = none)) := by
  have hid : id < n := by
    rcases Nat.lt_or_ge id n with h3 | h3
    · exact h3
    · rw [List.getElem?_eq_none (by simp; omega)] at h; simp at h
  refine ⟨hid, ?_⟩
  rw [List.getElem?_take_of_lt hid] at h
  unfold padB at h
  rcases Nat.lt_or_ge id B.length with h3 | h3
  · rw [List.getElem?_append_left h3] at h; exact .inl h
  · rw [List.getElem?_append_right h3, List.getElem?_replicate] at h
    split at h
    · simp at h; exact .inr ⟨h3, h.symm⟩
    · simp at h

theorem padB_ble (n : Nat) (B : List (Option BI)) : Ble B (padB n B) := fun id y h => by
  unfold padB
  rw [List.getElem?_append_left (List.getElem?_eq_some_iff.1 h).1]; exact h

theorem RelO.padB {B : List (Option BI)} {S : Rd} {w : World} {x : AO} {bo : Option BI} (n : Nat) (h : RelO B S w x bo) : RelO (padB n B) S w x bo := by
  cases x with
  | box xs =>
    obtain ⟨bi, cs, ty, e, h1, h2, h3, h4, h5⟩ := h
    exact ⟨bi, cs, ty, e, h1, h2, h3, h4, RelVs.mono (padB_ble n B) (Rd.le_refl _) _ _ h5⟩
  | row e n f => cases bo <;> exact h
  | frz e n f => cases bo <;> exact h
  | mp m => exact h
  | amb vs xs => exact RelVs.mono (padB_ble n B) (Rd.le_refl _) _ _ h
  | dead => trivial

theorem MU_cut {M : Mz} {B : List (Option BI)} {n : Nat} {L L' : List AO} (hlen : B.length = L'.length) (hL : RefL n L' L) (hn : n = L.length) (t : Bool) (b : Nat) (h : MU M ((padB n B).take n) L t b) : MU M B L' t b := by
  have key : ∀ (id : Nat) (bi : BI), ((padB n B).take n)[id]? = some (some bi) → (getO L id).live = true → B[id]? = some (some bi) ∧ (getO L' id).live = true := by
    intro id bi h1 h2
    obtain ⟨hid, h3⟩ := padB_get h1
    rcases h3 with h3 | ⟨_, h3⟩
    · rcases hL.nth id (by omega) with h4 | h4
      · exact ⟨h3, h4.2.live h2⟩
      · have := (List.getElem?_eq_some_iff.1 h3).1; omega
    · simp at h3
  cases t with
  | false =>
    rcases h with h | ⟨id, bi, h1, h2, h3⟩
    · exact .inl h
    · have := key id bi h1 h3; exact .inr ⟨id, bi, this.1, h2, this.2⟩
  | true =>
    rcases h with h | ⟨id, bi, h0, h1, h2, h3⟩
    · exact .inl h
    · have := key id bi h1 h3; exact .inr ⟨id, bi, h0, this.1, h2, this.2⟩

theorem LeO.kd {n : Nat} {x' x : AO} (h : LeO n x' x) : x.kd = 0 ∨ x.kd = x'.kd := by
  cases x <;> cases x' <;> simp_all [LeO, AO.kd]

theorem St.refine {X : Fx} {B : List (Option BI)} {env : Env} {L : List AO} {a : Act} {w : World} (h : St X B env L a w) (hn : NoGd env) {s : Env × List AO} (hr : Ref X.M.ro X.L0.length env L s) (hg : NoGdE s.1 = true) :
    St X ((padB s.2.length B).take s.2.length) s.1 s.2 a w := by
  obtain ⟨env1, L1⟩ := s
  obtain ⟨h1, h2, h3, hl0⟩ := hr
  have hl0 := Nat.le_of_ble_eq_true hl0
  simp only at h1 h2 h3 hg hl0 ⊢
  have hlenB := h.relL.len
  have hle : (Sr X.M B L w).le (Sr X.M ((padB L1.length B).take L1.length) L1 w) := fun t b o u hh => ⟨fun hm => hh.1 (MU_cut hlenB h2 rfl t b hm), hh.2⟩
  have hB : ∀ (id : Nat) (bi : BI), ((padB L1.length B).take L1.length)[id]? = some (some bi) → id < L1.length ∧ B[id]? = some (some bi) := by
    intro id bi hb
    obtain ⟨k1, k2⟩ := padB_get hb
    refine ⟨k1, ?_⟩
    rcases k2 with k2 | ⟨_, k2⟩
    · exact k2
    · simp at k2
  have hlive : ∀ (id : Nat) (bi : BI), B[id]? = some (some bi) → id < L1.length → (getO L1 id).live = true → (getO L id).live = true := fun id bi hb hid hl => by
    rcases h2.nth id hid with h4 | h4
    · exact h4.2.live hl
    · have := (List.getElem?_eq_some_iff.1 hb).1; omega
  refine ⟨⟨by have := padB_len L1.length B; simp; omega, fun id bi hb => h.relL.bnd id bi (hB id _ hb).2, h.relL.mbnd, fun id bi hb hl => h.relL.notM id bi (hB id _ hb).2 (hlive id bi (hB id _ hb).2 (hB id _ hb).1 hl),
    fun i j bi bj hij hi hj hli hlj => h.relL.dist i j bi bj hij (hB i _ hi).2 (hB j _ hj).2 (hlive i bi (hB i _ hi).2 (hB i _ hi).1 hli) (hlive j bj (hB j _ hj).2 (hB j _ hj).1 hlj),
    fun id bo hb => ?_⟩, h.glob.mono hle, fun t => ?_, h.below,
    fun id bi h0 hb hl => h.fresh id bi h0 (hB id _ hb).2 (hlive id bi (hB id _ hb).2 (hB id _ hb).1 hl), fun id hid => ?_, h3.len, hl0, fun id i0 i1 => ?_, h.dfr, h.sz⟩
  · obtain ⟨k1, k2⟩ := padB_get hb
    rcases h2.nth id k1 with h4 | h4
    · rcases k2 with k2 | ⟨k2, _⟩
      · have := RelO.cut hle (n := L1.length) (padB_len _ B) h4.2 (RelO.padB L1.length (h.relL.obj id bo k2))
        exact this
      · omega
    · rcases k2 with k2 | ⟨_, rfl⟩
      · have := (List.getElem?_eq_some_iff.1 k2).1; omega
      · have h5 := h4.2
        cases hx : getO L1 id <;> rw [hx] at h5 <;> simp only [padO] at h5
        · simp only [RelO]; exact h5
        · simp [RelO]
  · have ht := h.relE t
    rcases h1.get t with h4 | ⟨h4, h5⟩
    · rw [h4]; simp [RelSl, RelV]
    · have hk : gkey (get env1 t) = none := by
        cases hq : get env1 t <;> try rfl
        rename_i s w' x
        have := NoGdE.spec hg _ (get_key hq)
        simp at this
      have hk' : gkey (get env t) = none := by
        cases hq : get env t <;> try rfl
        rename_i s w' x
        have := hn _ (get_key hq)
        simp at this
      rw [relSl_iff hk'] at ht
      refine RelV.notGd hk (RelV.cut _ _ h5 (h4.h _ _ _ (padB_len _ B) (RelV.mono (padB_ble _ B) hle _ _ ht)))
  · have := h.old id hid
    have hid' : id < L1.length := by have := h3.len; omega
    have hidB : id < B.length := by have := h.rol; omega
    rw [List.getElem?_take_of_lt hid', padB, List.getElem?_append_left hidB]
    exact ⟨this.1, (h3.nth id hid).symm.trans this.2⟩
  · rcases h2.nth id i1 with h4 | h4
    · rcases h4.2.kd with h5 | h5
      · exact .inl h5
      · rcases h.knd id i0 h4.1 with h6 | ⟨h6, h7⟩
        · exact .inl (h5.trans h6)
        · refine .inr ⟨h5.trans h6, fun h8 => ?_⟩
          have hidB : id < B.length := by omega
          rw [List.getElem?_take_of_lt i1, padB, List.getElem?_append_left hidB]
          exact h7 (h5 ▸ h8)
    · have := h.l0; omega

end Go.VA

namespace Go.VA
open Go Go.RowKit

def opsLt (nt : Nat) : List Oper → Bool
  | [] => true
  | o :: r => match o.dst with
    | none => opsLt nt r
    | some d => match Nat.blt d nt with | true => opsLt nt r | false => false

theorem opsLt_spec {nt : Nat} : ∀ {l : List Oper}, opsLt nt l = true → ∀ o ∈ l, ∀ d, o.dst = some d → d < nt
  | [], _, o, ho, _, _ => by simp at ho
  | x :: r, h, o, ho, d, hd => by
    simp only [opsLt] at h
    split at h
    · rename_i hx
      rcases List.mem_cons.1 ho with rfl | ho
      · rw [hx] at hd; simp at hd
      · exact opsLt_spec h o ho d hd
    · rename_i d' hx
      split at h
      · rename_i hlt
        rcases List.mem_cons.1 ho with rfl | ho
        · rw [hx] at hd; simp only [Option.some.injEq] at hd; subst hd; exact bltN hlt
        · exact opsLt_spec h o ho d hd
      · simp at h

/-- what is looked at once, for a function's text -/
def codeOk (nt : Nat) : Code → Bool
  | .region _ ops draw => match opsLt nt ops.toList with
    | true => match draw with
      | true => drawOk ops
      | false => true
    | false => false
  | .seq x y => match codeOk nt x with | true => codeOk nt y | false => false
  | .cond _ x y => match codeOk nt x with | true => codeOk nt y | false => false
  | .block _ b => codeOk nt b
  | .loop b => codeOk nt b
  | .scope b => codeOk nt b
  | _ => true

def exOf : Ex → Exit
  | .normal => .normal
  | .exit i => .exit i
  | .ret => .ret

theorem condA_sound {x : AV} {X Y : Prop} (h : condA x X Y) {B : List (Option BI)} {S : Rd} {u : Value} (hu : RelV B S x u) : ∃ b, u = .bool b ∧ (b = true → X) ∧ (b = false → Y) := by
  unfold condA at h
  split at h
  · simp only [RelV, RepC] at hu
    exact ⟨_, hu.1, h⟩
  · simp only [RelV] at hu
    obtain ⟨b, rfl, hp⟩ := hu
    refine ⟨b, rfl, fun e => ?_, fun e => ?_⟩
    · subst e; exact h.1 hp
    · subst e; exact h.2 hp
  · exact h.elim

theorem St.drawn {X : Fx} {B : List (Option BI)} {env : Env} {L : List AO} {a : Act} {w : World} (h : St X B env L a w) : St X B env L a { w with drawn := w.drawn + 1 } :=
  h.ext ⟨rfl, rfl, rfl, Nat.le_refl _, fun _ _ => rfl⟩

/-- the least measure at which a state is met -/
theorem least_of {p : Nat → Prop} : (∃ n, p n) → ∃ n, p n ∧ ∀ k, p k → n ≤ k := by
  intro ⟨n, hn⟩
  induction n using Nat.strongRecOn with
  | _ n ih =>
    by_cases h : ∃ k, k < n ∧ p k
    · obtain ⟨k, hk, hp⟩ := h; exact ih k hk hp
    · exact ⟨n, hn, fun k hk => Nat.le_of_not_lt fun hlt => h ⟨k, hlt, hk⟩⟩

theorem wp_loop_ghost {P : Program} {Q : Exit → Act → World → Prop} {a : Act} {w : World} {c : Code} {σ : Type} (I : σ → Act → World → Prop) (m : σ → Nat) (h₀ : ∃ s, I s a w)
    (round : ∀ s a w, I s a w → c.wp P (Exit.then (fun a' w' => ∃ s', I s' a' w' ∧ m s' < m s) Q) a w) : (Code.loop c).wp P Q a w := by
  classical
  let μ : Act → World → Nat := fun a w => if h : ∃ n, ∃ s, m s = n ∧ I s a w then (least_of h).choose else 0
  have hμ : ∀ s a w, I s a w → (∃ s', m s' = μ a w ∧ I s' a w) ∧ μ a w ≤ m s := by
    intro s a w hI
    have h : ∃ n, ∃ s, m s = n ∧ I s a w := ⟨_, s, rfl, hI⟩
    have hs := (least_of h).choose_spec
    have e : μ a w = (least_of h).choose := by simp only [μ]; rw [dif_pos h]
    rw [e]
    exact ⟨hs.1, hs.2 _ ⟨s, rfl, hI⟩⟩
  refine wp_loop (fun a w => ∃ s, I s a w) μ h₀ fun a w ⟨s, hI⟩ => ?_
  obtain ⟨⟨s', hs', hI'⟩, _⟩ := hμ s a w hI
  refine wp_mono (round s' a w hI') fun e a2 w2 hq => ?_
  cases e with
  | normal =>
    obtain ⟨s2, hI2, hlt⟩ := hq
    refine ⟨⟨s2, hI2⟩, ?_⟩
    have := (hμ s2 a2 w2 hI2).2
    omega
  | _ => exact hq

section
variable {P : Program} {tb : TB} {gl : Gl}

theorem vc_sound (htb : TbOk P tb) (hmix : P.follows .mixedOrders = true) {X : Fx} (hgl : X.gl = gl) {ro n0 : Nat} (hro : X.M.ro = ro) (hn0 : X.L0.length = n0) :
    ∀ (c : Code) (env : Env) (L : List AO) (B : List (Option BI)) (a : Act) (w : World) (K : Ex → Env → List AO → Prop) (Q : Exit → Act → World → Prop), codeOk X.nt c = true → NoGd env → St X B env L a w →
      vc P tb gl ro n0 c env L K → (∀ e env' L' B' a' w', K e env' L' → NoGd env' → St X B' env' L' a' w' → Q (exOf e) a' w') → c.wp P Q a w := by
  intro c
  induction c with
  | skip =>
    intro env L B a w K Q _ hn hS h hQ
    exact wp_skip (hQ .normal _ _ _ _ _ h hn hS)
  | region id ops draw =>
    intro env L B a w K Q hok hn hS h hQ
    simp only [codeOk] at hok
    split at hok
    · rename_i hlt
      have hlt := opsLt_spec hlt
      cases draw with
      | false =>
        simp only [vc, cleanK_eq, forceL_eq] at h
        refine wp_region_list (seqOps_sound htb hgl hro ops.toList [] env L B a w 0 hlt hn.gdIn hn.top hS h fun env' L' B' a' w' k1 k2 k3 => ?_)
        exact hQ .normal _ _ _ _ _ k1 (cleanE_spec _ _ (by simpa using k2)) (k3.clean _)
      | true =>
        simp only [vc, cleanK_eq, forceL_eq] at h
        refine wp_region_any hmix (frontOps_sound htb hgl hro (drawOk_spec hok) hlt hn hS.drawn h fun env' L' B' a' w' k1 k2 k3 => ?_)
        exact hQ .normal _ _ _ _ _ k1 (cleanE_spec _ _ k2) (k3.clean _)
    · simp at hok
  | seq x y ihx ihy =>
    intro env L B a w K Q hok hn hS h hQ
    simp only [codeOk] at hok
    split at hok
    · rename_i hx
      simp only [vc] at h
      refine wp_seq (ihx env L B a w _ _ hx hn hS h fun e env' L' B' a' w' k1 k2 k3 => ?_)
      cases e with
      | normal => exact ihy env' L' B' a' w' K Q hok k2 k3 k1 hQ
      | exit i => exact hQ (.exit i) _ _ _ _ _ k1 k2 k3
      | ret => exact hQ .ret _ _ _ _ _ k1 k2 k3
    · simp at hok
  | cond c x y ihx ihy =>
    intro env L B a w K Q hok hn hS h hQ
    simp only [codeOk] at hok
    split at hok
    · rename_i hx
      simp only [vc] at h
      obtain ⟨b, hb, h1, h2⟩ := condA_sound h (evO_sound (gl := gl) (key := .no) (key2 := .no) (by rw [← hgl]; exact hS.glob) hS.relE trivial trivial c)
      exact wp_cond_split hb (fun e => ihx env L B a w K Q hx hn hS (h1 e) hQ) (fun e => ihy env L B a w K Q hok hn hS (h2 e) hQ)
    · simp at hok
  | block id b ih =>
    intro env L B a w K Q hok hn hS h hQ
    simp only [codeOk] at hok
    simp only [vc] at h
    refine wp_block (ih env L B a w _ _ hok hn hS h fun e env' L' B' a' w' k1 k2 k3 => ?_)
    cases e with
    | normal => exact hQ .normal _ _ _ _ _ k1 k2 k3
    | ret => exact hQ .ret _ _ _ _ _ k1 k2 k3
    | exit i =>
      simp only [exOf, Exit.inBlock]
      simp only at k1
      split at k1
      · rename_i hi
        rw [if_pos (Nat.beq_spec hi)]
        exact hQ .normal _ _ _ _ _ k1 k2 k3
      · rename_i hi
        rw [if_neg fun e => by subst e; simp at hi]
        exact hQ (.exit i) _ _ _ _ _ k1 k2 k3
  | loop b ih =>
    intro env L B a w K Q hok hn hS h hQ
    simp only [codeOk] at hok
    simp only [vc, dropK_eq] at h
    obtain ⟨σ, J, inv, m, ⟨s0, hJ, h0⟩, hround⟩ := h.h
    refine wp_loop_ghost (fun s a w => J s ∧ ∃ B, St X B (inv s).1 (inv s).2 a w) m ⟨s0, hJ, _, hS.refine hn (by rw [hro, hn0]; exact h0) (hround s0 hJ).1⟩ fun s a w ⟨hJ, B, hI⟩ => ?_
    refine ih _ _ B a w _ _ hok (NoGdE.spec (hround s hJ).1) hI (hround s hJ).2 fun e env' L' B' a' w' k1 k2 k3 => ?_
    cases e with
    | normal =>
      obtain ⟨s', hJ', hs', hlt⟩ := k1
      exact ⟨s', ⟨hJ', _, k3.refine k2 (by rw [hro, hn0]; exact hs') (hround s' hJ').1⟩, hlt⟩
    | ret => exact hQ .ret _ _ _ _ _ k1 k2 k3
    | exit i => exact hQ (.exit i) _ _ _ _ _ k1 k2 k3
  | exit id =>
    intro env L B a w K Q _ hn hS h hQ
    exact wp_exit (hQ (.exit id) _ _ _ _ _ h hn hS)
  | ret =>
    intro env L B a w K Q _ hn hS h hQ
    exact wp_ret (hQ .ret _ _ _ _ _ h hn hS)
  | scope b ih =>
    intro env L B a w K Q hok hn hS h hQ
    simp only [codeOk] at hok
    simp only [vc] at h
    refine wp_scope_straight (ih env L B a w K _ hok hn hS h fun e env' L' B' a' w' k1 k2 k3 => ?_)
    have := hQ e env' L' B' a' w' k1 k2 k3
    cases e <;> exact this
  | label l =>
    intro env L B a w K Q _ hn hS h hQ
    exact wp_label (hQ .normal _ _ _ _ _ h hn hS)
  | _ =>
    intro env L B a w K Q _ hn hS h hQ
    exact absurd h (by simp [vc])

end
end Go.VA

namespace Go.VA
open Go Go.RowKit

section
variable {P : Program} {tb : TB} {gl : Gl}

theorem not_MU0 {X : Fx} {B : List (Option BI)} {env : Env} {L : List AO} {a : Act} {w : World} (h : St X B env L a w) (h0 : X.B0.length = X.M.ro) (hl0 : X.L0.length = X.M.ro) (t : Bool) (b : Nat)
    (hm : ¬ MU X.M B L t b) : ¬ MU X.M X.B0 X.L0 t b := by
  intro hh
  apply hm
  cases t with
  | false =>
    rcases hh with hh | ⟨id, bi, h1, h2, h3⟩
    · exact .inl hh
    · have hid : id < X.M.ro := by rw [← h0]; exact (List.getElem?_eq_some_iff.1 h1).1
      have := h.old id hid
      exact .inr ⟨id, bi, by rw [this.1]; exact h1, h2, by rw [this.2]; exact h3⟩
  | true =>
    rcases hh with hh | ⟨id, bi, h4, h1, h2, h3⟩
    · exact .inl hh
    · have hid : id < X.M.ro := by rw [← h0]; exact (List.getElem?_eq_some_iff.1 h1).1
      omega

theorem viewR_sound {X : Fx} {B : List (Option BI)} {env : Env} {L : List AO} {a : Act} {w : World} (h : St X B env L a w) (h0 : X.B0.length = X.M.ro) (hl0 : X.L0.length = X.M.ro) {id esz off len : Nat} {y : C}
    (hv : viewR X.M.ro L id esz off len = some y) {u : Value} (hu : RelV B (Sr X.M B L w) (.own id esz off len) u) : RepC (Sr X.M X.B0 X.L0 w) y u := by
  have hle : (Sr X.M B L w).le (Sr X.M X.B0 X.L0 w) := fun t b o u hh => ⟨not_MU0 h h0 hl0 t b hh.1, hh.2⟩
  have hL := h.relL
  unfold viewR at hv
  have fin : ∀ (t : Bool) (f : Nat → List C), y = .sl t esz len (fun i => f (off + i)) →
      (∀ bi, B[id]? = some (some bi) → ∀ i, i < bi.n → (f i).length = esz ∧ RepCs (Sr X.M X.B0 X.L0 w) (Sr X.M X.B0 X.L0 w t bi.b) (bi.o + i * esz) (f i)) → RepC (Sr X.M X.B0 X.L0 w) y u := by
    intro t f hy hf
    subst hy
    simp only [RelV] at hu
    simp only [RepC]
    rcases hu with ⟨bi, cap, hb, rfl, h1, h2, h3⟩ | ⟨rfl, ⟨a, rfl⟩, _⟩
    · refine ⟨_, cap, rfl, h1, ?_⟩
      by_cases h0 : len = 0
      · exact .inl h0
      · refine .inr ⟨bi.b, _, rfl, fun i hi => ?_⟩
        have := hf bi hb (off + i) (by omega)
        refine ⟨this.1, ?_⟩
        rw [show bi.o + off * esz + i * esz = bi.o + (off + i) * esz from by rw [Nat.add_mul]; omega]
        exact this.2
    · exact ⟨a, 0, rfl, ⟨Nat.le_refl _, Nat.zero_le _⟩, .inl rfl⟩
  have own : ∀ (n : Nat) (f : Nat → List C) (t : Bool), getO L id = .row esz n f → (t = false → X.M.ro ≤ id) → ∀ bi, B[id]? = some (some bi) → ∀ i, i < bi.n →
      (f i).length = esz ∧ RepCs (Sr X.M X.B0 X.L0 w) (Sr X.M X.B0 X.L0 w t bi.b) (bi.o + i * esz) (f i) := by
    intro n f t hO ht bi hb i hi
    have := hL.obj id _ hb
    rw [hO] at this
    obtain ⟨hn, cs, ty, h1, h2, h3, h4⟩ := this
    have := h4 i (by omega)
    have hlive : (getO L id).live = true := by rw [hO]; rfl
    refine ⟨this.1, RepCs.mono hle (fun o u hh => ⟨?_, by simpa [World.cell?, h1] using hh⟩) _ _ this.2⟩
    cases t with
    | true =>
      rintro (hm | ⟨id', bi', h5, h6, _⟩)
      · exact hL.notM id bi hb hlive (X.M.le _ hm)
      · have := (List.getElem?_eq_some_iff.1 h6).1; omega
    | false =>
      have hid := ht rfl
      rintro (hm | ⟨id', bi', h6, h7, h8⟩)
      · exact hL.notM id bi hb hlive hm
      · have hid' : id' < X.M.ro := by rw [← h0]; exact (List.getElem?_eq_some_iff.1 h6).1
        have hold := h.old id' hid'
        exact hL.dist id' id bi' bi (by omega) (by rw [hold.1]; exact h6) hb (by rw [hold.2]; exact h8) hlive h7
  split at hv
  · rename_i e n f hO
    split at hv
    · rename_i he
      obtain rfl := Nat.beq_spec he
      split at hv
      · rename_i hr
        simp only [Option.some.injEq] at hv
        exact fin false f hv.symm (own n f false hO fun _ => Nat.le_of_ble_eq_true hr)
      · simp only [Option.some.injEq] at hv
        exact fin true f hv.symm (own n f true hO (by simp))
    · simp at hv
  · rename_i e n f hO
    split at hv
    · rename_i he
      obtain rfl := Nat.beq_spec he
      simp only [Option.some.injEq] at hv
      refine fin false f hv.symm fun bi hb i hi => ?_
      have := hL.obj id _ hb
      rw [hO] at this
      obtain ⟨hn, h4⟩ := this
      exact ⟨(h4 i (by omega)).1, RepCs.mono hle (fun o u hh => hle _ _ _ _ hh) _ _ (h4 i (by omega)).2⟩
    · simp at hv
  · simp at hv

theorem viewRs_sound {X : Fx} {B : List (Option BI)} {env : Env} {L : List AO} {a : Act} {w : World} (h : St X B env L a w) (h0 : X.B0.length = X.M.ro) (hl0 : X.L0.length = X.M.ro) : ∀ (ys : List AV) (xs : List C) (us : List Value),
    viewRs X.M.ro L ys = some xs → RelVs B (Sr X.M B L w) ys us → RepVs (Sr X.M X.B0 X.L0 w) xs us
  | [], xs, us, hv, hu => by
    simp only [viewRs, Option.some.injEq] at hv; subst hv
    simpa [RelVs, RepVs] using hu
  | y :: ys, xs, us, hv, hu => by
    have hle : (Sr X.M B L w).le (Sr X.M X.B0 X.L0 w) := fun t b o u hh => ⟨not_MU0 h h0 hl0 t b hh.1, hh.2⟩
    simp only [viewRs] at hv
    simp only [RelVs] at hu
    obtain ⟨u, r, rfl, h1, h2⟩ := hu
    split at hv
    · simp at hv
    · rename_i zs hz
      have ih := viewRs_sound h h0 hl0 ys zs r hz h2
      split at hv
      · simp only [Option.some.injEq] at hv; subst hv
        simp only [RelV] at h1
        simp only [RepVs]
        exact ⟨u, r, rfl, RepC.mono hle _ _ h1, ih⟩
      · split at hv
        · rename_i y' hy
          simp only [Option.some.injEq] at hv; subst hv
          simp only [RepVs]
          exact ⟨u, r, rfl, viewR_sound h h0 hl0 hy h1, ih⟩
        · simp at hv
      · simp at hv

theorem resV_sound {X : Fx} {B : List (Option BI)} {env : Env} {L : List AO} {a : Act} {w : World} (h : St X B env L a w) (h0 : X.B0.length = X.M.ro) (hl0 : X.L0.length = X.M.ro) {x y : AV}
    (hv : resV X.M.ro L x = some y) {u : Value} (hu : RelV B (Sr X.M B L w) x u) : RelV X.B0 (Sr X.M X.B0 X.L0 w) y u := by
  have hle : (Sr X.M B L w).le (Sr X.M X.B0 X.L0 w) := fun t b o u hh => ⟨not_MU0 h h0 hl0 t b hh.1, hh.2⟩
  unfold resV at hv
  split at hv
  · simp only [Option.some.injEq] at hv; subst hv
    simp only [RelV] at hu ⊢
    exact RepC.mono hle _ _ hu
  · simp only [Option.some.injEq] at hv; subst hv
    simp only [RelV] at hu ⊢
    obtain ⟨arr, e, hu⟩ := hu
    exact ⟨arr, e, RepVs.mono hle _ _ hu⟩
  · simp only [Option.some.injEq] at hv; subst hv
    simp only [RelV] at hu ⊢
    obtain ⟨b, o, e, hu⟩ := hu
    exact ⟨b, o, e, RepCs.mono hle (fun o u hh => hle _ _ _ _ hh) _ _ hu⟩
  · split at hv
    · rename_i z hz
      simp only [Option.some.injEq] at hv; subst hv
      simp only [RelV]
      exact viewR_sound h h0 hl0 hz hu
    · simp at hv
  · split at hv
    · rename_i z hz
      simp only [Option.some.injEq] at hv; subst hv
      simp only [RelV] at hu ⊢
      obtain ⟨arr, e, _, hu⟩ := hu
      exact ⟨arr, e, viewRs_sound h h0 hl0 _ _ _ hz hu⟩
    · simp at hv
  · rename_i id off
    split at hv
    · rename_i ys hO
      split at hv
      · rename_i hr
        have hr := Nat.le_of_ble_eq_true hr
        split at hv
        · rename_i z hz
          simp only [Option.some.injEq] at hv; subst hv
          simp only [RelV] at hu ⊢
          obtain ⟨bi, hb, rfl⟩ := hu
          have hob := h.relL.obj id _ hb
          rw [hO] at hob
          obtain ⟨bi', cs, ty, e, h1, h2, h3, h4, h5⟩ := hob
          simp only [Option.some.injEq] at e
          subst e
          refine ⟨bi.b, 0, by rw [h2], ?_⟩
          refine RepVs.toRepCs _ _ 0 (viewRs_sound h h0 hl0 _ _ _ hz h5) fun j v hv => ⟨?_, ?_⟩
          · have hlive : (getO L id).live = true := by rw [hO]; rfl
            rintro (hm | ⟨id', bi', h6, h7, h8⟩)
            · exact h.relL.notM id bi hb hlive hm
            · have hid' : id' < X.M.ro := by rw [← h0]; exact (List.getElem?_eq_some_iff.1 h6).1
              have hold := h.old id' hid'
              exact h.relL.dist id' id bi' bi (by omega) (by rw [hold.1]; exact h6) hb (by rw [hold.2]; exact h8) hlive h7
          · simp only [World.cell?, h1, Nat.zero_add]
            simpa using hv
        · simp at hv
      · simp at hv
    · simp at hv
  · simp at hv

theorem run_mapM_vs {α : Type} (g : α → Sem Value) (w : World) : ∀ (l : List α) (vs : List Value), l.length = vs.length → (∀ (i : Nat) r v, l[i]? = some r → vs[i]? = some v → (g r).run P w = .ok v w) →
    (l.mapM g).run P w = .ok vs w
  | [], [], _, _ => by simp [List.mapM_nil]
  | [], _ :: _, h, _ => by simp at h
  | _ :: _, [], h, _ => by simp at h
  | r :: l, v :: vs, h, hh => by
    have ih := run_mapM_vs g w l vs (by simpa using h) fun i r v h1 h2 => hh (i + 1) r v (by simpa using h1) (by simpa using h2)
    simp [List.mapM_cons, hh 0 r v rfl rfl, ih]

def rvOne (tmps : Array Value) : ResultVar → Sem Value
  | .tmp t => pure (tmps.getD t undef)
  | .cell a t => do loadVar t (← asAddr (tmps.getD a undef))

theorem run_results (fn : Func) (tmps : Array Value) (w : World) (vs : List Value) (hl : fn.results.toList.length = vs.length)
    (hh : ∀ (i : Nat) r v, fn.results.toList[i]? = some r → vs[i]? = some v → (rvOne tmps r).run P w = .ok v w) :
    (results fn tmps).run P w = .ok (if h : vs.toArray.size = 1 then vs.toArray[0] else .tuple vs.toArray) w := by
  have h1 := run_mapM_vs (P := P) (rvOne tmps) w fn.results.toList vs hl hh
  have h2 : fn.results.mapM (rvOne tmps) = (do let x ← fn.results.toList.mapM (rvOne tmps); pure x.toArray : Sem (Array Value)) := by
    rw [Array.mapM_eq_mapM_toList]
    simp
  have h3 : results fn tmps = (do let vs ← fn.results.mapM (rvOne tmps); pure (if h : vs.size = 1 then vs[0] else .tuple vs)) := by
    unfold results
    congr 1
  rw [h3, h2]
  simp [h1]

theorem resK_sound (htb : TbOk P tb) {X : Fx} {B : List (Option BI)} {env : Env} {L : List AO} {a : Act} {w : World} (h : St X B env L a w) (hn : NoGd env) (h0 : X.B0.length = X.M.ro) (hl0 : X.L0.length = X.M.ro) :
    ∀ (rs : List ResultVar) (K : List AV → Prop), resK X.M.ro env tb L rs K → ∃ xs vs, K xs ∧ rs.length = vs.length ∧ (∀ (i : Nat) r v, rs[i]? = some r → vs[i]? = some v → (rvOne a.tmps r).run P w = .ok v w) ∧
      RelVs X.B0 (Sr X.M X.B0 X.L0 w) xs vs
  | [], K, hK => ⟨[], [], hK, rfl, by simp, by simp [RelVs]⟩
  | r :: rs, K, hK => by
    have hsl : ∀ t, RelV B (Sr X.M B L w) (get env t) (a.tmps.getD t undef) := by
      intro t
      have := h.relE t
      rwa [relSl_iff] at this
      cases hq : get env t <;> try rfl
      have := hn _ (get_key hq)
      simp at this
    have fin : ∀ (x : AV) (v : Value), (rvOne a.tmps r).run P w = .ok v w → RelV X.B0 (Sr X.M X.B0 X.L0 w) x v → resK X.M.ro env tb L rs (fun xs => K (x :: xs)) →
        ∃ xs vs, K xs ∧ (r :: rs).length = vs.length ∧ (∀ (i : Nat) r' v, (r :: rs)[i]? = some r' → vs[i]? = some v → (rvOne a.tmps r').run P w = .ok v w) ∧ RelVs X.B0 (Sr X.M X.B0 X.L0 w) xs vs := by
      intro x v h1 h2 h3
      obtain ⟨xs, vs, k1, k2, k3, k4⟩ := resK_sound htb h hn h0 hl0 rs _ h3
      refine ⟨x :: xs, v :: vs, k1, by simp [k2], fun i r' v' e1 e2 => ?_, ?_⟩
      · cases i with
        | zero => simp at e1 e2; subst e1; subst e2; exact h1
        | succ i => exact k3 i r' v' (by simpa using e1) (by simpa using e2)
      · simp only [RelVs]; exact ⟨v, vs, rfl, h2, k4⟩
    simp only [resK] at hK
    split at hK
    · rename_i t
      split at hK
      · rename_i x hx
        exact fin x _ rfl (resV_sound h h0 hl0 hx (hsl t)) hK
      · exact hK.elim
    · rename_i ad t
      obtain ⟨y, hy, hh⟩ := opLoad_sound htb hK
      split at hy
      · rename_i x hx
        obtain ⟨v, h1, h2⟩ := hh X.M B w _ h.relL (hsl ad)
        refine fin x v ?_ (resV_sound h h0 hl0 hx h2) hy
        simp only [rvOne]
        generalize a.tmps.getD ad undef = p at h1
        cases p with
        | pointer q =>
          cases q with
          | some q => simpa [Instr.loadAt, Instr.sureAddr, asAddr] using h1
          | none => simp [Instr.loadAt, Instr.sureAddr] at h1
        | _ => simp [Instr.loadAt, Instr.sureAddr] at h1
      · exact hy.elim

theorem retA_sound {B : List (Option BI)} {S : Rd} {xs : List AV} {vs : List Value} (h : RelVs B S xs vs) : RelV B S (retA xs) (if h : vs.toArray.size = 1 then vs.toArray[0] else .tuple vs.toArray) := by
  have hl := RelVs.length _ _ h
  unfold retA
  split
  · rename_i x
    simp only [RelVs] at h
    obtain ⟨u, r, rfl, h1, rfl⟩ := h
    simpa using h1
  · rename_i hne
    have : ¬ vs.toArray.size = 1 := by
      intro e
      simp at e
      rw [e] at hl
      match xs, hl with
      | [x], _ => exact hne x rfl
    rw [dif_neg this]
    simp only [RelV]
    exact ⟨_, rfl, by simpa using h⟩

/-- the slots of a call at its start -/
def envOf : Nat → List AV → Env
  | _, [] => []
  | i, x :: xs => (i, strip x) :: envOf (i + 1) xs

theorem envOf_noGd : ∀ (i : Nat) (xs : List AV), NoGd (envOf i xs)
  | _, [] => fun k hk => by simp [envOf, keysE] at hk
  | i, x :: xs => fun k hk => by
    simp only [envOf, keysE, List.map_cons, List.mem_cons] at hk
    rcases hk with hk | hk
    · rw [hk]; exact strip_key x
    · exact envOf_noGd (i + 1) xs k hk

theorem envOf_get : ∀ (i : Nat) (xs : List AV) (t : Nat), get (envOf i xs) t = .any ∨ ∃ j x, xs[j]? = some x ∧ t = i + j ∧ get (envOf i xs) t = strip x
  | _, [], _ => .inl rfl
  | i, x :: xs, t => by
    simp only [envOf, get]
    split
    · rename_i e
      exact .inr ⟨0, x, rfl, by rw [Nat.beq_spec e]; rfl, rfl⟩
    · rcases envOf_get (i + 1) xs t with h | ⟨j, y, h1, h2, h3⟩
      · exact .inl h
      · exact .inr ⟨j + 1, y, by simpa using h1, by omega, h3⟩

/-- a function's contract, from its text -/
theorem acall_of_vc (htb : TbOk P tb) (hmix : P.follows .mixedOrders = true) {f : Nat} {fn : Func} {c : Code} (hf : P.funcs[f]? = some fn) (hb : fn.body = some c)
    (hname : (fn.name == "runtime.NumGoroutine") = false) (hok : codeOk fn.ntmps c = true) {args : List AV} {L : List AO} {r : AV} (hr : r.closed = true) (hargs' : Nat.ble args.length fn.ntmps = true)
    (h : vc P tb gl L.length L.length c (envOf 0 args) L (EndK L.length tb fn.results.toList r)) : ACall P gl f args L r := by
  have hargs := Nat.le_of_ble_eq_true hargs'
  refine ⟨⟨fn, hf, hname, by rw [hb]; rfl⟩, hr, fun w M B vals hro hL hG hv => ?_⟩
  have hlv := RelVs.length _ _ hv
  rw [Array.length_toList] at hlv
  let X : Fx := ⟨gl, w, M, B, L, fn.ntmps, fun _ => False⟩
  have hS : St X B (envOf 0 args) L { tmps := vals ++ Array.replicate (fn.ntmps - vals.size) undef, defers := [] } w := by
    refine ⟨hL, hG, fun t => ?_, Frm.refl _ _, fun id bi h1 h2 h3 => ?_, fun id _ => ⟨rfl, rfl⟩, by simp only [X]; omega, Nat.le_refl _, fun id _ _ => .inr ⟨rfl, fun _ => rfl⟩, rfl, ?_⟩
    · rcases envOf_get 0 args t with h1 | ⟨j, x, h1, h2, h3⟩
      · rw [h1]; simp [RelSl, RelV]
      · rw [h3]
        refine RelV.notGd (strip_key x) (strip_rel ?_)
        obtain ⟨u, k1, k2⟩ := RelVs.nth _ _ j x hv h1
        obtain rfl : t = j := by omega
        have hlt : t < vals.size := by
          have := (List.getElem?_eq_some_iff.1 k1).1
          simpa using this
        have : (vals ++ Array.replicate (fn.ntmps - vals.size) undef).getD t undef = u := by
          rw [Array.getD_eq_getD_getElem?, Array.getElem?_append_left hlt]
          rw [Array.getElem?_toList] at k1
          rw [k1]
          rfl
        simp only
        rw [this]
        exact k2
    · exfalso
      have := (List.getElem?_eq_some_iff.1 h2).1
      rw [hL.len] at this
      simp only [X] at h1
      omega
    · simp only [Array.size_append, Array.size_replicate, X]
      omega
  refine calls_of_wp hf hb (vc_sound htb hmix (X := X) rfl hro rfl c _ L B _ w _ _ hok (envOf_noGd 0 args) hS h ?_)
  intro e env' L' B' a' w' hK hn' hS'
  have key : ∀ (K : Prop), resK L.length env' tb L' fn.results.toList (fun xs => Le 0 (retA xs) r) →
      (a'.defers = [] ∧ ∃ v, (results fn a'.tmps).run P w' = .ok v w' ∧ (∃ u, Ending.returned v = .returned u ∧ Below w.heap.size w w' ∧ RelV B (Sr M B L w') r u)) := by
    intro _ hres
    rw [← hro] at hres
    obtain ⟨xs, vs, k1, k2, k3, k4⟩ := resK_sound htb hS' hn' (by rw [hL.len]; exact hro.symm) hro.symm _ _ hres
    exact ⟨hS'.dfr, _, run_results fn a'.tmps w' vs k2 k3, _, rfl, hS'.below.below, k1.h _ _ _ (Nat.zero_le _) (retA_sound k4)⟩
  cases e with
  | normal => exact key True hK
  | ret => exact key True hK
  | exit i => exact hK.elim

end
end Go.VA

namespace Go.VA
open Go Go.RowKit

/-! ### The type table, looked over once -/

def look : List (Nat × TI) → Nat → TI
  | [], _ => ⟨.other, 0, 0, []⟩
  | (s, x) :: r, t => match Nat.beq s t with | true => x | false => look r t

def isEmp (s : ByteArray) : Bool := match s.data.toList with | [] => true | _ => false

def eqZ1 : Value → Value → Bool
  | .int k a, .int k' b => match Nat.beq (kindNo k) (kindNo k') with | true => decide (a = b) | false => false
  | .bool a, .bool b => beqB a b
  | .string a, .string b => match isEmp a with | true => isEmp b | false => false
  | .slice none a b, .slice none c d => match Nat.beq a c with | true => Nat.beq b d | false => false
  | .pointer none, .pointer none => true
  | .map none, .map none => true
  | .nilFunc, .nilFunc => true
  | .nilIface, .nilIface => true
  | _, _ => false

def eqZ : List Value → List Value → Bool
  | [], [] => true
  | x :: xs, y :: ys => match eqZ1 x y with | true => eqZ xs ys | false => false
  | _, _ => false

theorem isEmp_spec {a : ByteArray} (h : isEmp a = true) : a = ByteArray.empty := by
  obtain ⟨⟨l⟩⟩ := a
  cases l with
  | nil => rfl
  | cons x r => simp [isEmp] at h

theorem eqZ1_spec {x y : Value} (h : eqZ1 x y = true) : x = y := by
  unfold eqZ1 at h
  split at h <;> try rfl
  · split at h
    · rename_i hk; rw [beqK hk, of_decide_eq_true h]
    · simp at h
  · rw [beqB_spec h]
  · split at h
    · rename_i ha; rw [isEmp_spec ha, isEmp_spec h]
    · simp at h
  · split at h
    · rename_i ha; rw [Nat.beq_spec ha, Nat.beq_spec h]
    · simp at h
  · simp at h

theorem eqZ_spec : ∀ {xs ys : List Value}, eqZ xs ys = true → xs = ys
  | [], [], _ => rfl
  | x :: xs, y :: ys, h => by
    simp only [eqZ] at h
    split at h
    · rename_i hx; rw [eqZ1_spec hx, eqZ_spec h]
    · simp at h
  | [], _ :: _, h => by simp [eqZ] at h
  | _ :: _, [], h => by simp [eqZ] at h

def fldsOk (P : Program) : List Field → List (Nat × Nat) → Bool
  | [], [] => true
  | f :: r, (o, t) :: s => match Nat.beq f.offset o with
    | true => match Nat.beq f.type t with
      | true => match P.info? f.type with
        | some _ => fldsOk P r s
        | none => false
      | false => false
    | false => false
  | _, _ => false

theorem fldsOk_spec {P : Program} : ∀ {fs : List Field} {xs : List (Nat × Nat)}, fldsOk P fs xs = true → fs.map (fun f => (f.offset, f.type)) = xs ∧ ∀ f ∈ fs, ∃ i, P.info? f.type = some i
  | [], [], _ => by simp
  | f :: r, (o, t) :: s, h => by
    simp only [fldsOk] at h
    split at h
    · rename_i h1
      split at h
      · rename_i h2
        split at h
        · rename_i i h3
          have := fldsOk_spec h
          refine ⟨by simp [this.1, Nat.beq_spec h1, Nat.beq_spec h2], fun g hg => ?_⟩
          rcases List.mem_cons.1 hg with rfl | hg
          · exact ⟨i, h3⟩
          · exact this.2 g hg
        · simp at h
      · simp at h
    · simp at h
  | [], _ :: _, h => by simp [fldsOk] at h
  | _ :: _, [], h => by simp [fldsOk] at h

def tkChk (P : Program) (k : TK) (d : TypeDesc) : Bool := match k with
  | .other => true
  | .int k => match d with | .int k' => Nat.beq (kindNo k) (kindNo k') | _ => false
  | .bool => match d with | .bool => true | _ => false
  | .str => match d with | .string => true | _ => false
  | .ptr e => match d with | .pointer e' => Nat.beq e e' | _ => false
  | .func => match d with | .func .. => true | _ => false
  | .slice e => match d with | .slice e' => Nat.beq e e' | _ => false
  | .struct fs => match d with | .struct g => fldsOk P g.toList fs | _ => false
  | .array n e => match d with | .array n' e' => (match Nat.beq n n' with | true => Nat.beq e e' | false => false) | _ => false
  | .map k e => match d with | .map k' e' => (match Nat.beq k k' with | true => Nat.beq e e' | false => false) | _ => false

theorem tkChk_spec {P : Program} {k : TK} {d : TypeDesc} (h : tkChk P k d = true) : TKok P k d := by
  unfold tkChk at h
  cases k <;> simp only at h <;> simp only [TKok]
  case int k =>
    split at h
    · rw [beqK h]
    · simp at h
  case bool => split at h <;> first | rfl | simp at h
  case str => split at h <;> first | rfl | simp at h
  case ptr e =>
    split at h
    · rw [Nat.beq_spec h]
    · simp at h
  case func =>
    split at h
    · exact ⟨_, _, _, rfl⟩
    · simp at h
  case slice e =>
    split at h
    · rw [Nat.beq_spec h]
    · simp at h
  case struct fs =>
    split at h
    · rename_i g
      have := fldsOk_spec h
      exact ⟨g, rfl, this.1, this.2⟩
    · simp at h
  case array n e =>
    split at h
    · split at h
      · rename_i h1; rw [Nat.beq_spec h1, Nat.beq_spec h]
      · simp at h
    · simp at h
  case map k e =>
    split at h
    · split at h
      · rename_i h1; rw [Nat.beq_spec h1, Nat.beq_spec h]
      · simp at h
    · simp at h

def tiChk (P : Program) (t : Nat) (x : TI) : Bool :=
  match P.info? t with
  | none => false
  | some i => match P.underlying t with
    | none => false
    | some d => match tkChk P x.k d with
      | false => false
      | true => match Nat.beq i.size x.sz with
        | false => false
        | true => match Nat.beq i.bytes x.bytes with
          | false => false
          | true => match i.zero with
            | none => false
            | some z => match eqZ z.cells.toList x.zero with
              | false => false
              | true => match Nat.beq x.zero.length x.sz with
                | false => false
                | true => match allOne x.zero with
                  | false => false
                  | true => match x.k.agg with
                    | true => match z with | .agg _ => true | _ => false
                    | false => Nat.beq x.sz 1

theorem allOne_mem : ∀ {l : List Value}, allOne l = true → ∀ v ∈ l, v.oneCell' = true
  | [], _, v, hv => by simp at hv
  | x :: r, h, v, hv => by
    simp only [allOne] at h
    split at h
    · rename_i hx
      rcases List.mem_cons.1 hv with rfl | hv
      · exact hx
      · exact allOne_mem h v hv
    · simp at h

theorem tiChk_spec {P : Program} {t : Nat} {x : TI} (h : tiChk P t x = true) : TIok P t x := by
  refine ⟨fun _ => ?_⟩
  unfold tiChk at h
  split at h; · simp at h
  rename_i i h1
  split at h; · simp at h
  rename_i d h2
  split at h; · simp at h
  rename_i h3
  split at h; · simp at h
  rename_i h4
  split at h; · simp at h
  rename_i h5
  split at h; · simp at h
  rename_i z h6
  split at h; · simp at h
  rename_i h7
  split at h; · simp at h
  rename_i h8
  split at h; · simp at h
  rename_i h9
  have e7 := eqZ_spec h7
  refine ⟨i, d, z, h1, h2, tkChk_spec h3, Nat.beq_spec h4, Nat.beq_spec h5, h6, e7, Nat.beq_spec h8, allOne_mem h9, fun ha => ?_, fun ha => ?_⟩
  · rw [ha] at h
    simp only at h
    split at h
    · rename_i cs
      rw [← e7]
      rfl
    · simp at h
  · rw [ha] at h
    exact Nat.beq_spec h

def tbChk (P : Program) : List (Nat × TI) → Bool
  | [] => true
  | (t, x) :: r => match tiChk P t x with | true => tbChk P r | false => false

theorem tbOk_of_chk {P : Program} : ∀ {l : List (Nat × TI)}, tbChk P l = true → TbOk P (look l)
  | [], _, t => ⟨fun h => by simp [look, TK.isOther] at h⟩
  | (s, x) :: r, h, t => by
    simp only [tbChk] at h
    split at h
    · rename_i hx
      simp only [look]
      split
      · rename_i e; rw [← Nat.beq_spec e]; exact tiChk_spec hx
      · exact tbOk_of_chk h t
    · simp at h

end Go.VA

namespace Go.VA
open Go Go.RowKit

/-! ### Structs and arrays of plain cells are compared cell by cell -/

def seFs (P : Program) (g : TypeId → Option (List Nat)) : List Field → Nat → Option (List Nat)
  | [], _ => some []
  | f :: r, off => match f.name != "_" with
    | false => none
    | true => match Nat.beq f.offset off with
      | false => none
      | true => match g f.type with
        | none => none
        | some s => match Nat.beq (P.cellsOf f.type) s.length with
          | false => none
          | true => match seFs P g r (off + s.length) with
            | none => none
            | some s' => some (s ++ s')

def repN (s : List Nat) : Nat → List Nat
  | 0 => []
  | n + 1 => s ++ repN s n

def seAt (P : Program) : Nat → TypeId → Option (List Nat)
  | 0, _ => none
  | d + 1, t => match P.underlying t with
    | some .bool => some [9]
    | some (.int k) => some [kindNo k]
    | some .string => some [8]
    | some (.struct _) => match P.stoodInHeld t with
      | true => none
      | false => seFs P (seAt P d) (P.fieldsOf t).toList 0
    | some (.array n e) => match seAt P d e with
      | none => none
      | some s => match Nat.beq (P.cellsOf e) s.length with
        | false => none
        | true => match Nat.blt 0 s.length with
          | false => none
          | true => some (repN s n)
    | _ => none

/-- the form of a value of type t -/
def Fm (P : Program) (t : TypeId) (u : Value) : Prop := match P.underlying t with
  | some (.struct _) => ∃ cs, u = .agg cs
  | some (.array _ _) => ∃ cs, u = .agg cs
  | _ => u.cells = #[u]

def SeAt (P : Program) (dd : Nat) (t : TypeId) (S : List Nat) : Prop :=
  ∀ (w : World) (u v : Value), Fm P t u → Fm P t v → u.cells.toList.map shV = S → v.cells.toList.map shV = S →
    ∃ q, eqVs u.cells.toList v.cells.toList = some q ∧ (Op.equalIn dd t u v).run P w = .ok q w

theorem eqVs_append : ∀ {a b c d : List Value} {q q' : Bool}, eqVs a c = some q → eqVs b d = some q' → eqVs (a ++ b) (c ++ d) = some (q && q')
  | [], b, [], d, q, q', h, h' => by
    simp only [eqVs, Option.some.injEq] at h
    subst h
    simpa using h'
  | x :: a, b, y :: c, d, q, q', h, h' => by
    simp only [eqVs] at h
    split at h
    · rename_i p r h1 h2
      simp only [Option.some.injEq] at h
      subst h
      have := eqVs_append h2 h'
      simp [eqVs, h1, this, Bool.and_assoc]
    · simp at h
  | [], _, _ :: _, _, _, _, h, _ => by simp [eqVs] at h
  | _ :: _, _, [], _, _, _, h, _ => by simp [eqVs] at h

theorem take_map {S : List Nat} {xs : List Value} {off n : Nat} (h : xs.map shV = S) : ((xs.drop off).take n).map shV = (S.drop off).take n := by
  rw [List.map_take, List.map_drop, h]

section
variable {P : Program}

theorem kindNo_inj {k k' : IntKind} (h : kindNo k = kindNo k') : k = k' := beqK (by rw [h]; exact Nat.beq_refl _)

theorem kindNo_lt (k : IntKind) : kindNo k < 8 := by cases k <;> decide

theorem shV_int {u : Value} {k : IntKind} (h : shV u = kindNo k) : ∃ n, u = .int k n := by
  have := kindNo_lt k
  cases u <;> simp only [shV] at h <;> first | omega | skip
  exact ⟨_, by rw [kindNo_inj h]⟩

theorem shV_str {u : Value} (h : shV u = 8) : ∃ s, u = .string s := by
  cases u <;> simp only [shV] at h <;> first | exact ⟨_, rfl⟩ | omega | skip
  rename_i k n
  have := kindNo_lt k
  omega

theorem shV_bool {u : Value} (h : shV u = 9) : ∃ s, u = .bool s := by
  cases u <;> simp only [shV] at h <;> first | exact ⟨_, rfl⟩ | omega | skip
  rename_i k n
  have := kindNo_lt k
  omega

theorem one_of {u : Value} {c : Nat} (hf : u.cells = #[u]) (h : u.cells.toList.map shV = [c]) : shV u = c := by
  rw [hf] at h
  simpa using h

theorem run_partS {e : TypeId} {i : TypeInfo} (hi : P.info? e = some i) {xs : Array Value} {off : Nat} {S : List Nat} (hc : P.cellsOf e = S.length) (hone : (match P.underlying e with | some (.struct _) => True | some (.array _ _) => True | _ => S.length = 1))
    (hu : ∃ d, P.underlying e = some d) (hlen : off + S.length ≤ xs.size) (hcell : ∀ x ∈ xs.toList, x.cells = #[x]) (w : World) :
    ∃ u, (part e xs off).run P w = .ok u w ∧ Fm P e u ∧ u.cells.toList = (xs.toList.drop off).take S.length := by
  obtain ⟨d, hd⟩ := hu
  have agg : (isAgg e).run P w = .ok true w → (match P.underlying e with | some (.struct _) => True | some (.array _ _) => True | _ => False) → ∃ u, (part e xs off).run P w = .ok u w ∧ Fm P e u ∧ u.cells.toList = (xs.toList.drop off).take S.length := by
    intro ha hm
    refine ⟨.agg (xs.extract off (off + S.length)), ?_, ?_, ?_⟩
    · simp [part, ha, run_sizeOf w hi, hc]
    · unfold Fm
      split at hm
      · exact ⟨_, rfl⟩
      · exact ⟨_, rfl⟩
      · exact hm.elim
    · simp [Value.cells]
  have one : (isAgg e).run P w = .ok false w → S.length = 1 → (∀ u, u.cells = #[u] → Fm P e u) → ∃ u, (part e xs off).run P w = .ok u w ∧ Fm P e u ∧ u.cells.toList = (xs.toList.drop off).take S.length := by
    intro ha h1 hf
    have hlt : off < xs.size := by omega
    have hx : xs[off].cells = #[xs[off]] := hcell _ (by simp)
    refine ⟨xs[off], ?_, hf _ hx, ?_⟩
    · simp [part, ha, hlt]
    · rw [hx, h1]
      have hlt' : off < xs.toList.length := by simpa using hlt
      rw [List.drop_eq_getElem_cons hlt']
      simp
  cases d with
  | struct fs => exact agg (by simp [isAgg, run_underlying hd]) (by rw [hd]; trivial)
  | array n e' => exact agg (by simp [isAgg, run_underlying hd]) (by rw [hd]; trivial)
  | _ => exact one (by simp [isAgg, run_underlying hd]) (by rw [hd] at hone; exact hone) (fun u hu => by unfold Fm; rw [hd]; exact hu)

theorem seAt_info {d : Nat} {t : TypeId} {S : List Nat} (h : seAt P d t = some S) : (∃ k, P.underlying t = some k) ∧ (match P.underlying t with | some (.struct _) => True | some (.array _ _) => True | _ => S.length = 1) := by
  cases d with
  | zero => simp [seAt] at h
  | succ d =>
    simp only [seAt] at h
    split at h
    · rename_i hu; rw [hu]; simp only [Option.some.injEq] at h; subst h; exact ⟨⟨_, rfl⟩, rfl⟩
    · rename_i hu; rw [hu]; simp only [Option.some.injEq] at h; subst h; exact ⟨⟨_, rfl⟩, rfl⟩
    · rename_i hu; rw [hu]; simp only [Option.some.injEq] at h; subst h; exact ⟨⟨_, rfl⟩, rfl⟩
    · rename_i hu; rw [hu]; exact ⟨⟨_, rfl⟩, trivial⟩
    · rename_i hu; rw [hu]; exact ⟨⟨_, rfl⟩, trivial⟩
    · simp at h

theorem seFs_sound {g : TypeId → Option (List Nat)} {dd : Nat} (hg : ∀ t S, g t = some S → SeAt P dd t S ∧ (∃ k, P.underlying t = some k) ∧ (match P.underlying t with | some (.struct _) => True | some (.array _ _) => True | _ => S.length = 1))
    (w : World) (xs ys : Array Value) (hx : ∀ x ∈ xs.toList, x.cells = #[x]) (hy : ∀ x ∈ ys.toList, x.cells = #[x]) : ∀ (fs : List Field) (off : Nat) (S : List Nat), seFs P g fs off = some S →
    (xs.toList.drop off).map shV = S → (ys.toList.drop off).map shV = S → ∃ q, eqVs (xs.toList.drop off) (ys.toList.drop off) = some q ∧ (Op.eqFields dd xs ys fs).run P w = .ok q w
  | [], off, S, h, h1, h2 => by
    simp only [seFs, Option.some.injEq] at h
    subst h
    simp only [List.map_eq_nil_iff] at h1 h2
    refine ⟨true, by rw [h1, h2]; rfl, by simp [Op.eqFields]⟩
  | f :: r, off, S, h, h1, h2 => by
    simp only [seFs] at h
    split at h; · simp at h
    rename_i hn
    split at h; · simp at h
    rename_i ho
    obtain rfl := Nat.eq_of_beq_eq_true ho
    split at h; · simp at h
    rename_i s hs
    split at h; · simp at h
    rename_i hc
    have hc := Nat.eq_of_beq_eq_true hc
    split at h; · simp at h
    rename_i s' hs'
    simp only [Option.some.injEq] at h
    subst h
    obtain ⟨hse, hu, hone⟩ := hg _ _ hs
    have hi : ∃ i, P.info? f.type = some i := by obtain ⟨k, hk⟩ := hu; exact info_of_underlying hk
    obtain ⟨i, hi⟩ := hi
    have l1 := congrArg List.length h1
    have l2 := congrArg List.length h2
    simp only [List.length_map, List.length_drop, List.length_append, Array.length_toList] at l1 l2
    rcases Nat.lt_or_ge 0 s.length with h0 | h0
    · obtain ⟨u, p1, f1, c1⟩ := run_partS hi hc hone hu (xs := xs) (off := f.offset) (by omega) hx w
      obtain ⟨v, p2, f2, c2⟩ := run_partS hi hc hone hu (xs := ys) (off := f.offset) (by omega) hy w
      have e1 : u.cells.toList.map shV = s := by rw [c1, List.map_take, h1]; simp
      have e2 : v.cells.toList.map shV = s := by rw [c2, List.map_take, h2]; simp
      obtain ⟨q, hq, hr⟩ := hse w u v f1 f2 e1 e2
      have d1 : (xs.toList.drop (f.offset + s.length)).map shV = s' := by rw [← List.drop_drop, List.map_drop, h1]; simp
      have d2 : (ys.toList.drop (f.offset + s.length)).map shV = s' := by rw [← List.drop_drop, List.map_drop, h2]; simp
      obtain ⟨q', hq', hr'⟩ := seFs_sound hg w xs ys hx hy r (f.offset + s.length) s' hs' d1 d2
      have hn' : ¬ f.name = "_" := by simpa using hn
      refine ⟨q && q', ?_, ?_⟩
      · rw [c1, c2] at hq
        have := eqVs_append hq hq'
        rwa [← List.drop_drop, ← List.drop_drop, List.take_append_drop, List.take_append_drop] at this
      · simp only [Op.eqFields, hn', ne_eq, not_false_eq_true, if_true, Sem.run_bind, p1, p2, hr, Result.andThen_ok]
        cases q
        · simp
        · simpa using hr'
    · -- nothing in it
      obtain ⟨u, p1, f1, c1⟩ : ∃ u, (part f.type xs f.offset).run P w = .ok u w ∧ Fm P f.type u ∧ u.cells.toList = [] := by
        obtain ⟨k, hk⟩ := hu
        rw [hk] at hone
        have hs0 : s.length = 0 := by omega
        cases k with
        | struct fs => exact ⟨.agg (xs.extract f.offset (f.offset + P.cellsOf f.type)), by simp [part, isAgg, run_underlying hk, run_sizeOf w hi], by unfold Fm; rw [hk]; exact ⟨_, rfl⟩, by simp [Value.cells, hc, hs0]⟩
        | array n e => exact ⟨.agg (xs.extract f.offset (f.offset + P.cellsOf f.type)), by simp [part, isAgg, run_underlying hk, run_sizeOf w hi], by unfold Fm; rw [hk]; exact ⟨_, rfl⟩, by simp [Value.cells, hc, hs0]⟩
        | _ => simp only at hone; omega
      obtain ⟨v, p2, f2, c2⟩ : ∃ u, (part f.type ys f.offset).run P w = .ok u w ∧ Fm P f.type u ∧ u.cells.toList = [] := by
        obtain ⟨k, hk⟩ := hu
        rw [hk] at hone
        have hs0 : s.length = 0 := by omega
        cases k with
        | struct fs => exact ⟨.agg (ys.extract f.offset (f.offset + P.cellsOf f.type)), by simp [part, isAgg, run_underlying hk, run_sizeOf w hi], by unfold Fm; rw [hk]; exact ⟨_, rfl⟩, by simp [Value.cells, hc, hs0]⟩
        | array n e => exact ⟨.agg (ys.extract f.offset (f.offset + P.cellsOf f.type)), by simp [part, isAgg, run_underlying hk, run_sizeOf w hi], by unfold Fm; rw [hk]; exact ⟨_, rfl⟩, by simp [Value.cells, hc, hs0]⟩
        | _ => simp only at hone; omega
      have hs0 : s = [] := List.length_eq_zero_iff.1 (by omega)
      subst hs0
      obtain ⟨q, hq, hr⟩ := hse w u v f1 f2 (by rw [c1]; rfl) (by rw [c2]; rfl)
      rw [c1, c2] at hq
      simp only [eqVs, Option.some.injEq] at hq
      subst hq
      obtain ⟨q', hq', hr'⟩ := seFs_sound hg w xs ys hx hy r (f.offset + 0) s' hs' (by simpa using h1) (by simpa using h2)
      have hn' : ¬ f.name = "_" := by simpa using hn
      refine ⟨q', by simpa using hq', ?_⟩
      simp only [Op.eqFields, hn', ne_eq, not_false_eq_true, if_true, Sem.run_bind, p1, p2, hr, Result.andThen_ok]
      simpa using hr'

theorem seItems_sound {e : TypeId} {S : List Nat} {dd : Nat} (hse : SeAt P dd e S) (hu : ∃ k, P.underlying e = some k) (hone : (match P.underlying e with | some (.struct _) => True | some (.array _ _) => True | _ => S.length = 1)) (hc : P.cellsOf e = S.length) (h0 : 0 < S.length)
    (w : World) (xs ys : Array Value) (hx : ∀ x ∈ xs.toList, x.cells = #[x]) (hy : ∀ x ∈ ys.toList, x.cells = #[x]) : ∀ (n i : Nat),
    (xs.toList.drop (i * S.length)).map shV = repN S n → (ys.toList.drop (i * S.length)).map shV = repN S n →
      ∃ q, eqVs (xs.toList.drop (i * S.length)) (ys.toList.drop (i * S.length)) = some q ∧ (Op.eqItems dd e (P.cellsOf e) xs ys (List.range' i n)).run P w = .ok q w
  | 0, i, h1, h2 => by
    simp only [repN, List.map_eq_nil_iff] at h1 h2
    exact ⟨true, by rw [h1, h2]; rfl, by simp [Op.eqItems]⟩
  | n + 1, i, h1, h2 => by
    obtain ⟨ti, hi⟩ : ∃ i, P.info? e = some i := by obtain ⟨k, hk⟩ := hu; exact info_of_underlying hk
    simp only [repN] at h1 h2
    have l1 := congrArg List.length h1
    have l2 := congrArg List.length h2
    simp only [List.length_map, List.length_drop, List.length_append, Array.length_toList] at l1 l2
    obtain ⟨u, p1, f1, c1⟩ := run_partS hi hc hone hu (xs := xs) (off := i * S.length) (by omega) hx w
    obtain ⟨v, p2, f2, c2⟩ := run_partS hi hc hone hu (xs := ys) (off := i * S.length) (by omega) hy w
    have e1 : u.cells.toList.map shV = S := by rw [c1, List.map_take, h1]; simp
    have e2 : v.cells.toList.map shV = S := by rw [c2, List.map_take, h2]; simp
    obtain ⟨q, hq, hr⟩ := hse w u v f1 f2 e1 e2
    have hmul : (i + 1) * S.length = i * S.length + S.length := by rw [Nat.add_mul]; omega
    have d1 : (xs.toList.drop ((i + 1) * S.length)).map shV = repN S n := by rw [hmul, ← List.drop_drop, List.map_drop, h1]; simp
    have d2 : (ys.toList.drop ((i + 1) * S.length)).map shV = repN S n := by rw [hmul, ← List.drop_drop, List.map_drop, h2]; simp
    obtain ⟨q', hq', hr'⟩ := seItems_sound hse hu hone hc h0 w xs ys hx hy n (i + 1) d1 d2
    refine ⟨q && q', ?_, ?_⟩
    · rw [c1, c2] at hq
      rw [hmul] at hq'
      have := eqVs_append hq hq'
      rwa [← List.drop_drop, ← List.drop_drop, List.take_append_drop, List.take_append_drop] at this
    · rw [← hc] at p1 p2
      simp only [List.range'_succ, Op.eqItems, Sem.run_bind, p1, p2, hr, Result.andThen_ok]
      cases q
      · simp
      · simpa using hr'

theorem cells_of_sh {xs : List Value} (h : ∀ c ∈ xs.map shV, c ≠ 10) : ∀ x ∈ xs, x.cells = #[x] := by
  intro x hx
  have := h (shV x) (List.mem_map.2 ⟨x, hx, rfl⟩)
  cases x <;> first | rfl | simp [shV] at this

theorem seFs_ne {g : TypeId → Option (List Nat)} (hg : ∀ t S, g t = some S → ∀ c ∈ S, c ≠ 10) : ∀ (fs : List Field) (off : Nat) (S : List Nat), seFs P g fs off = some S → ∀ c ∈ S, c ≠ 10
  | [], off, S, h => by simp only [seFs, Option.some.injEq] at h; subst h; simp
  | f :: r, off, S, h => by
    simp only [seFs] at h
    split at h; · simp at h
    split at h; · simp at h
    split at h; · simp at h
    rename_i s hs
    split at h; · simp at h
    split at h; · simp at h
    rename_i s' hs'
    simp only [Option.some.injEq] at h
    subst h
    intro c hc
    rcases List.mem_append.1 hc with hc | hc
    · exact hg _ _ hs c hc
    · exact seFs_ne hg r _ _ hs' c hc

theorem repN_ne {s : List Nat} (h : ∀ c ∈ s, c ≠ 10) : ∀ n, ∀ c ∈ repN s n, c ≠ 10
  | 0, c, hc => by simp [repN] at hc
  | n + 1, c, hc => by
    simp only [repN, List.mem_append] at hc
    rcases hc with hc | hc
    · exact h c hc
    · exact repN_ne h n c hc

theorem seAt_ne : ∀ (d : Nat) (t : TypeId) (S : List Nat), seAt P d t = some S → ∀ c ∈ S, c ≠ 10
  | 0, t, S, h => by simp [seAt] at h
  | d + 1, t, S, h => by
    simp only [seAt] at h
    split at h
    · simp only [Option.some.injEq] at h; subst h; simp
    · rename_i k _
      have := kindNo_lt k
      simp only [Option.some.injEq] at h; subst h; simp; omega
    · simp only [Option.some.injEq] at h; subst h; simp
    · split at h
      · simp at h
      · exact seFs_ne (seAt_ne d) _ _ _ h
    · split at h; · simp at h
      rename_i s hs
      split at h; · simp at h
      split at h; · simp at h
      simp only [Option.some.injEq] at h
      subst h
      exact repN_ne (seAt_ne d _ _ hs) _
    · simp at h

theorem seAt_sound (dd : Nat) : ∀ (d : Nat) (t : TypeId) (S : List Nat), seAt P d t = some S → SeAt P (dd + d) t S
  | 0, t, S, h => by simp [seAt] at h
  | d + 1, t, S, h => by
    intro w u v fu fv hu hv
    have hne := seAt_ne (d + 1) t S h
    simp only [seAt] at h
    split at h
    · rename_i hd
      simp only [Option.some.injEq] at h
      subst h
      simp only [Fm, hd] at fu fv
      obtain ⟨a, rfl⟩ := shV_bool (one_of fu hu)
      obtain ⟨b, rfl⟩ := shV_bool (one_of fv hv)
      exact ⟨a == b, by simp [Value.cells, eqVs, eqV], equalIn_bool hd (dd + d) a b w⟩
    · rename_i k hd
      simp only [Option.some.injEq] at h
      subst h
      simp only [Fm, hd] at fu fv
      obtain ⟨a, rfl⟩ := shV_int (one_of fu hu)
      obtain ⟨b, rfl⟩ := shV_int (one_of fv hv)
      exact ⟨a == b, by simp [Value.cells, eqVs, eqV], by rw [show dd + (d + 1) = (dd + d) + 1 from rfl]; simp [Op.equalIn, run_underlying hd]⟩
    · rename_i hd
      simp only [Option.some.injEq] at h
      subst h
      simp only [Fm, hd] at fu fv
      obtain ⟨a, rfl⟩ := shV_str (one_of fu hu)
      obtain ⟨b, rfl⟩ := shV_str (one_of fv hv)
      exact ⟨a == b, by simp [Value.cells, eqVs, eqV], by rw [show dd + (d + 1) = (dd + d) + 1 from rfl]; simp [Op.equalIn, run_underlying hd]⟩
    · rename_i fs hd
      split at h; · simp at h
      rename_i hst
      simp only [Fm, hd] at fu fv
      obtain ⟨xs, rfl⟩ := fu
      obtain ⟨ys, rfl⟩ := fv
      simp only [Value.cells] at hu hv ⊢
      have hfs : P.fieldsOf t = fs := by simp [Program.fieldsOf, hd]
      obtain ⟨q, hq, hr⟩ := seFs_sound (P := P) (g := seAt P d) (dd := dd + d) (fun t S ht => ⟨seAt_sound dd d t S ht, seAt_info ht⟩) w xs ys (cells_of_sh (by rw [hu]; exact hne)) (cells_of_sh (by rw [hv]; exact hne)) _ 0 S h (by simpa using hu) (by simpa using hv)
      refine ⟨q, by simpa using hq, ?_⟩
      rw [show dd + (d + 1) = (dd + d) + 1 from rfl, run_equalIn_struct w (dd + d) t xs ys (by rw [hfs]; exact hd) hst]
      exact hr
    · rename_i n e hd
      split at h; · simp at h
      rename_i s hs
      split at h; · simp at h
      rename_i hc
      have hc := Nat.eq_of_beq_eq_true hc
      split at h; · simp at h
      rename_i h0
      have h0 := bltN h0
      simp only [Option.some.injEq] at h
      simp only [Fm, hd] at fu fv
      obtain ⟨xs, rfl⟩ := fu
      obtain ⟨ys, rfl⟩ := fv
      simp only [Value.cells] at hu hv ⊢
      obtain ⟨hk, hone⟩ := seAt_info hs
      obtain ⟨ti, hi⟩ : ∃ i, P.info? e = some i := by obtain ⟨k, hk⟩ := hk; exact info_of_underlying hk
      rw [show dd + (d + 1) = (dd + d) + 1 from rfl, run_equalIn_array w (dd + d) xs ys hd hi, List.range_eq_range']
      obtain ⟨q, hq, hr⟩ := seItems_sound (seAt_sound dd d e s hs) hk hone hc h0 w xs ys (cells_of_sh (by rw [hu]; exact hne)) (cells_of_sh (by rw [hv]; exact hne)) n 0 (by simpa [h] using hu) (by simpa [h] using hv)
      exact ⟨q, by simpa using hq, hr⟩
    · simp at h

def seChk (P : Program) (d : Nat) (t : TypeId) (S : List Nat) : Bool :=
  match P.underlying t with
  | some (.struct _) => go
  | some (.array _ _) => go
  | _ => false
where go : Bool := match seAt P d t with
  | none => false
  | some s => match beqNs s S with
    | false => false
    | true => match P.eqGuardType P.depth t with
      | true => false
      | false => Nat.ble d 10000

theorem structEq_of {d : Nat} {t : TypeId} {S : List Nat} (h : seChk P d t S = true) : StructEq P t S := by
  have hfm : ∀ cs, Fm P t (.agg cs) := by
    intro cs
    unfold seChk at h
    unfold Fm
    split at h
    · exact ⟨_, rfl⟩
    · exact ⟨_, rfl⟩
    · simp at h
  have hgo : seChk.go P d t S = true := by
    unfold seChk at h
    split at h
    · exact h
    · exact h
    · simp at h
  unfold seChk.go at hgo
  split at hgo; · simp at hgo
  rename_i s hs
  split at hgo; · simp at hgo
  rename_i hS
  have hS := beqNs_spec hS
  subst hS
  split at hgo; · simp at hgo
  rename_i hg
  have hd : d ≤ 10000 := Nat.le_of_ble_eq_true hgo
  have hse := seAt_sound (10000 - d) d t s hs
  rw [show 10000 - d + d = 10000 from by omega] at hse
  intro x y xs ys q hx hy hq w
  obtain ⟨q', hq', hr⟩ := hse w (.agg xs) (.agg ys) (hfm xs) (hfm ys) hx hy
  simp only [Value.cells] at hq'
  rw [hq] at hq'
  simp only [Option.some.injEq] at hq'
  subst hq'
  have hr' : (Op.equal t (.agg xs) (.agg ys)).run P w = .ok q w := hr
  constructor
  · simp [eqGuard, binOp, hg, hr']
  · simp [eqGuard, binOp, hg, hr']

end
end Go.VA

namespace Go.VA
open Go Go.RowKit

/-- the rows of a list -/
def rowE {α : Type} (enc : α → List C) (d : α) (l : List α) (i : Nat) : List C := enc (l.getD i d)

section
variable {α : Type} {enc : α → List C} {d : α}

theorem rowE_cat (l r : List α) (n : Nat) (hn : n = l.length) (i : Nat) : catF 0 n (rowE enc d l) (rowE enc d r) i = rowE enc d (l ++ r) i := by
  subst hn
  unfold catF rowE
  by_cases h : i < l.length
  · rw [if_pos h, Nat.zero_add]; simp [List.getD_eq_getElem?_getD, List.getElem?_append_left h]
  · rw [if_neg h]; simp [List.getD_eq_getElem?_getD, List.getElem?_append_right (Nat.le_of_not_lt h)]

theorem rowE_one (x : α) : nthC [enc x] 0 = rowE enc d [x] 0 := rfl

theorem rowE_snoc (l : List α) (x : α) (n : Nat) (hn : n = l.length) (i : Nat) (hi : i < n + 1) : catF 0 n (rowE enc d l) (nthC [enc x]) i = rowE enc d (l ++ [x]) i := by
  subst hn
  unfold catF rowE
  by_cases h : i < l.length
  · rw [if_pos h, Nat.zero_add]; simp [List.getD_eq_getElem?_getD, List.getElem?_append_left h]
  · rw [if_neg h]
    obtain rfl : i = l.length := by omega
    simp [nthC]

theorem rowE_set (l : List α) (k : Nat) (x : α) (hk : k < l.length) (i : Nat) : updF (rowE enc d l) k (enc x) i = rowE enc d (l.set k x) i := by
  unfold updF rowE
  by_cases h : i = k
  · subst h
    simp [List.getD_eq_getElem?_getD, hk]
  · rw [if_neg h]
    simp [List.getD_eq_getElem?_getD, List.getElem?_set, Ne.symm h]

theorem rowE_drop (l : List α) (k i : Nat) : rowE enc d l (k + i) = rowE enc d (l.drop k) i := by
  unfold rowE
  simp [List.getD_eq_getElem?_getD, List.getElem?_drop]

theorem rowE_take (l : List α) (k i : Nat) (h : i < k) : rowE enc d l i = rowE enc d (l.take k) i := by
  unfold rowE
  simp [List.getD_eq_getElem?_getD, List.getElem?_take, h]
end

/-- of equal rows -/
theorem LeCs.row {f g : Nat → List C} (h : ∀ i, f i = g i) (i : Nat) : LeCs (f i) (g i) := LeCs.of_eq (h i)

/-- numbers -/
theorem wrap64 {n : Int} (h1 : -9223372036854775808 ≤ n) (h2 : n ≤ 9223372036854775807) : IntKind.i64.wrap n = n := by
  rw [IntKind.wrap_i64]; omega

theorem C.eqI {k : IntKind} {a b : Int} (h : a = b) : C.v (.int k a) = C.v (.int k b) := h ▸ rfl
theorem intA_eq {k : IntKind} {a b : Int} (h : a = b) : intA k a = intA k b := h ▸ rfl
theorem leI {m : Nat} {k : IntKind} {a b : Int} (h : a = b) : Le m (.c (.v (.int k a))) (.c (.v (.int k b))) := Le.of_eq (h ▸ rfl)
theorem leB {m : Nat} {a b : Bool} (h : a = b) : Le m (.c (.v (.bool a))) (.c (.v (.bool b))) := Le.of_eq (h ▸ rfl)
theorem leS {m : Nat} {a b : ByteArray} (h : a = b) : Le m (.c (.v (.string a))) (.c (.v (.string b))) := Le.of_eq (h ▸ rfl)
theorem leOwn {m : Nat} {id esz off n n' : Nat} (h : n = n') : Le m (.own id esz off n) (.own id esz off n') := Le.of_eq (h ▸ rfl)

/-- n rounds at most, one by one -/
def unroll (V : Env → List AO → (Ex → Env → List AO → Prop) → Prop) (K : Ex → Env → List AO → Prop) : Nat → Env → List AO → Prop
  | 0, _, _ => False
  | n + 1, env, L => V env L fun x env' L' => match x with
    | .normal => unroll V K n env' L'
    | x => K x env' L'

/-- shared rows that read alike -/
theorem leSl {m : Nat} {t : Bool} {e n n' : Nat} {f g : Nat → List C} (h : n = n') (hf : ∀ i, i < n' → f i = g i) : Le m (.c (.sl t e n f)) (.c (.sl t e n' g)) := by
  subst h
  refine ⟨fun B S u _ hu => ?_⟩
  simp only [RelV, RepC] at hu ⊢
  obtain ⟨a, cap, h1, h2, h3⟩ := hu
  refine ⟨a, cap, h1, h2, ?_⟩
  rcases h3 with h3 | ⟨b, o, h3, h4⟩
  · exact .inl h3
  · exact .inr ⟨b, o, h3, fun i hi => by rw [← hf i hi]; exact h4 i hi⟩

end Go.VA
namespace Go.VA
theorem chainI {env : Env} {n : Nat} {key : Key} {p : Prop} (h : p) : chain env n key p := by
  induction n generalizing key p with
  | zero => exact h
  | succ n ih =>
    cases key with
    | no => exact h
    | _ s w =>
      simp only [chain]
      split
      · exact fun _ => h
      · exact ih fun _ => h
      · exact h
end Go.VA

namespace Go.VA
open Go Go.RowKit

/-! ### Functions that are gone through where they are called -/

/-- what a caller's slots hold, each once -/
def ambA : List Nat → Env → List AV
  | _, [] => []
  | seen, (s, x) :: r => (match memN s seen with | true => .any | false => strip x) :: ambA (s :: seen) r

def ambK : List Nat → Env → (List AV → Prop) → Prop
  | _, [], K => K []
  | seen, (s, x) :: r, K => match memN s seen with
    | true => ambK (s :: seen) r fun xs => K (.any :: xs)
    | false => stripK x fun x => ambK (s :: seen) r fun xs => K (x :: xs)

theorem ambK_eq : ∀ (seen : List Nat) (env : Env) (K : List AV → Prop), ambK seen env K = K (ambA seen env)
  | _, [], _ => rfl
  | seen, (s, x) :: r, K => by
    simp only [ambK, ambA]
    split
    · rw [ambK_eq (s :: seen) r]
    · rw [stripK_eq, ambK_eq (s :: seen) r]

def closedOr (y : AV) : AV := match y.closed with | true => y | false => .any

/-- the slots again, with what they hold now -/
def joinE : Env → List AV → Env
  | [], _ => []
  | (s, x) :: r, xs => (s, match x with
    | .gd s' w y => .gd s' w (closedOr y)
    | _ => match xs with | [] => .any | y :: _ => strip y) :: joinE r xs.tail

def joinK : Env → List AV → (Env → Prop) → Prop
  | [], _, K => K []
  | (s, x) :: r, xs, K => match x with
    | .gd s' w y => joinK r xs.tail fun e => K ((s, .gd s' w (closedOr y)) :: e)
    | _ => match xs with
      | [] => joinK r [] fun e => K ((s, .any) :: e)
      | y :: ys => stripK y fun y => joinK r ys fun e => K ((s, y) :: e)

theorem joinK_eq : ∀ (env : Env) (xs : List AV) (K : Env → Prop), joinK env xs K = K (joinE env xs)
  | [], _, _ => rfl
  | (s, x) :: r, xs, K => by
    have h1 := joinK_eq r xs.tail
    have h2 := joinK_eq r []
    cases x <;> simp only [joinK, joinE] <;> first
      | (rw [h1]; done)
      | (cases xs with
         | nil => simp only [List.tail_nil]; rw [h2]
         | cons y ys => simp only [List.tail_cons] at h1 ⊢; rw [stripK_eq, h1])

theorem joinE_keys : ∀ (env : Env) (xs : List AV), keysE (joinE env xs) = keysE env
  | [], _ => rfl
  | (s, x) :: r, xs => by
    have ih := joinE_keys r xs.tail
    unfold keysE at ih ⊢
    simp only [joinE, List.map_cons, ih]
    congr 1
    cases x <;> simp only [gkey] <;> (cases xs <;> simp only [gkey] <;> exact strip_key _)

/-- what a function that was gone through hands back -/
def resI (env : Env) (tb : TB) (L : List AO) : List ResultVar → (List AV → Prop) → Prop
  | [], K => K []
  | r :: rs, K => match r with
    | .tmp t => stripK (get env t) fun x => resI env tb L rs fun xs => K (x :: xs)
    | .cell a t => opLoad tb L t (get env a) fun y => stripK y fun y => resI env tb L rs fun xs => K (y :: xs)

def EndI (tb : TB) (rs : List ResultVar) (vs : List Value) (n : Nat) (env0 : Env) (K : AV → Env → List AO → Prop) (x : Ex) (env : Env) (L : List AO) : Prop := match x with
  | .exit _ => False
  | _ => resI env tb L rs fun xs => match getO L n with
    | .amb vs' ys => vs' = vs ∧ joinK env0 ys fun env1 => forceL (setO L n .dead) fun L => K (retA xs) env1 L
    | _ => False

section
variable {P : Program} {tb : TB} {gl : Gl}

theorem ambA_rel {B : List (Option BI)} {S : Rd} {a : Act} : ∀ (env : Env) (seen : List Nat), (∀ t, t ∉ seen → RelSl B S a (get env t) (a.tmps.getD t undef)) → RelVs B S (ambA seen env) (env.map fun p => a.tmps.getD p.1 undef)
  | [], _, _ => by simp [ambA, RelVs]
  | (s, x) :: r, seen, h => by
    simp only [ambA, List.map_cons, RelVs]
    refine ⟨_, _, rfl, ?_, ambA_rel r (s :: seen) fun t ht => ?_⟩
    · split
      · simp [RelV]
      · rename_i hm
        have hm : s ∉ seen := fun e => by rw [memN_spec.2 e] at hm; simp at hm
        have := h s hm
        have e : get ((s, x) :: r) s = x := by simp [get]
        rw [e] at this
        cases x <;> first | exact this | simp [strip, RelV]
    · have hts : t ≠ s := fun e => ht (by simp [e])
      have := h t (fun e => ht (by simp [e]))
      have e : get ((s, x) :: r) t = get r t := by
        simp only [get]
        split
        · rename_i e; exact absurd (Nat.beq_spec e).symm hts
        · rfl
      rwa [e] at this

mutual
theorem closed_rel {B B' : List (Option BI)} {S S' : Rd} (hS : S.le S') : ∀ (x : AV) (u : Value), x.closed = true → RelV B S x u → RelV B' S' x u
  | .c x, u, _, h => by simp only [RelV] at h ⊢; exact RepC.mono hS _ _ h
  | .ag xs, u, _, h => by
    simp only [RelV] at h ⊢
    obtain ⟨arr, e, h⟩ := h
    exact ⟨arr, e, RepVs.mono hS _ _ h⟩
  | .sp t xs k, u, _, h => by
    simp only [RelV] at h ⊢
    obtain ⟨b, o, e, h⟩ := h
    exact ⟨b, o, e, RepCs.mono hS (hS t b) _ _ h⟩
  | .tup xs, u, hc, h => by
    simp only [AV.closed] at hc
    simp only [RelV] at h ⊢
    obtain ⟨arr, e, h⟩ := h
    exact ⟨arr, e, closeds_rel hS xs _ hc h⟩
  | .agx xs, u, hc, h => by
    simp only [AV.closed] at hc
    simp only [RelV] at h ⊢
    obtain ⟨arr, e, h0, h⟩ := h
    exact ⟨arr, e, h0, closeds_rel hS xs _ hc h⟩
  | .any, _, hc, _ => by simp [AV.closed] at hc
  | .ub .., _, hc, _ => by simp [AV.closed] at hc
  | .ptr .., _, hc, _ => by simp [AV.closed] at hc
  | .pe .., _, hc, _ => by simp [AV.closed] at hc
  | .own .., _, hc, _ => by simp [AV.closed] at hc
  | .fn .., _, hc, _ => by simp [AV.closed] at hc
  | .gd .., _, hc, _ => by simp [AV.closed] at hc
  | .mpv .., _, hc, _ => by simp [AV.closed] at hc
theorem closeds_rel {B B' : List (Option BI)} {S S' : Rd} (hS : S.le S') : ∀ (xs : List AV) (us : List Value), AV.closed.go xs = true → RelVs B S xs us → RelVs B' S' xs us
  | [], us, _, h => by simpa [RelVs] using h
  | x :: xs, us, hc, h => by
    simp only [AV.closed.go] at hc
    split at hc
    · rename_i h0
      simp only [RelVs] at h ⊢
      obtain ⟨u, r, e, h1, h2⟩ := h
      exact ⟨u, r, e, closed_rel hS x u h0 h1, closeds_rel hS xs r hc h2⟩
    · simp at hc
end

theorem joinE_rel {B B' : List (Option BI)} {S S' : Rd} (hS : S.le S') {a : Act} : ∀ (env : Env) (ys : List AV) (t : Nat), RelSl B S a (get env t) (a.tmps.getD t undef) → RelVs B' S' ys (env.map fun p => a.tmps.getD p.1 undef) →
    RelSl B' S' a (get (joinE env ys) t) (a.tmps.getD t undef)
  | [], ys, t, _, _ => by simp [joinE, get, RelSl, RelV]
  | (s, x) :: r, ys, t, h, hy => by
    simp only [List.map_cons] at hy
    have hy0 : ∃ y zs, ys = y :: zs ∧ RelV B' S' y (a.tmps.getD s undef) ∧ RelVs B' S' zs (r.map fun p => a.tmps.getD p.1 undef) := by
      cases ys with
      | nil => simp [RelVs] at hy
      | cons y zs =>
        simp only [RelVs] at hy
        obtain ⟨u, r', e, h1, h2⟩ := hy
        simp only [List.cons.injEq] at e
        obtain ⟨rfl, rfl⟩ := e
        exact ⟨y, zs, rfl, h1, h2⟩
    obtain ⟨y, zs, rfl, h1, h2⟩ := hy0
    simp only [joinE, List.tail_cons, get] at h ⊢
    split
    · rename_i e
      obtain rfl := Nat.beq_spec e
      simp only [Nat.beq_refl, e] at h
      have key : RelSl B' S' a (strip y) (a.tmps.getD s undef) := RelV.notGd (strip_key y) (strip_rel h1)
      cases x
      case gd s' w z =>
        simp only [RelSl] at h ⊢
        refine ⟨fun e => ?_, h.2⟩
        unfold closedOr
        split
        · rename_i hc; exact closed_rel hS _ _ hc (h.1 e)
        · simp [RelV]
      all_goals exact key
    · rename_i e
      simp only [e] at h
      exact joinE_rel hS r zs t h h2

/-- a callee begins -/
def Fx.into (X : Fx) (B : List (Option BI)) (L : List AO) (w : World) (nt : Nat) : Fx :=
  { gl := X.gl, w0 := w, M := X.M, B0 := B, L0 := L, nt := nt, mt := fun b => ∃ (id : Nat) (bi : BI), X.M.ro ≤ id ∧ B[id]? = some (some bi) ∧ (getO L id).live = true ∧ bi.b = b }

theorem RelE.envOf {B : List (Option BI)} {S : Rd} {args : List AV} {vals : Array Value} (hv : RelVs B S args vals.toList) (nt : Nat) :
    RelE B S (envOf 0 args) { tmps := vals ++ Array.replicate (nt - vals.size) undef, defers := [] } := by
  intro t
  rcases envOf_get 0 args t with h1 | ⟨j, x, h1, h2, h3⟩
  · rw [h1]; simp [RelSl, RelV]
  · rw [h3]
    refine RelV.notGd (strip_key x) (strip_rel ?_)
    obtain ⟨u, k1, k2⟩ := RelVs.nth _ _ j x hv h1
    obtain rfl : t = j := by omega
    have hlt : t < vals.size := by
      have := (List.getElem?_eq_some_iff.1 k1).1
      simpa using this
    have : (vals ++ Array.replicate (nt - vals.size) undef).getD t undef = u := by
      rw [Array.getD_eq_getD_getElem?, Array.getElem?_append_left hlt]
      rw [Array.getElem?_toList] at k1
      rw [k1]
      rfl
    simp only
    rw [this]
    exact k2

theorem St.enter {X : Fx} {B : List (Option BI)} {env : Env} {L : List AO} {a : Act} {w : World} (h : St X B env L a w) {args : List AV} {vals : Array Value} (hv : RelVs B (Sr X.M B L w) args vals.toList) {nt : Nat} (hn : vals.size ≤ nt) :
    St (X.into B L w nt) B (envOf 0 args) L { tmps := vals ++ Array.replicate (nt - vals.size) undef, defers := [] } w where
  relL := h.relL
  glob := h.glob
  relE := RelE.envOf hv nt
  below := Frm.refl _ _
  fresh id bi h1 h2 h3 := .inr ⟨id, bi, h1, h2, h3, rfl⟩
  old id _ := ⟨rfl, rfl⟩
  rol := h.rol
  l0 := Nat.le_refl _
  knd id _ _ := .inr ⟨rfl, fun _ => rfl⟩
  dfr := rfl
  sz := by simp only [Fx.into, Array.size_append, Array.size_replicate]; omega

theorem St.leave {X : Fx} {B B' : List (Option BI)} {env env1 env' : Env} {L L' : List AO} {a a' : Act} {w w' : World} {nt : Nat} (h : St X B env L a w) (h' : St (X.into B L w nt) B' env' L' a' w')
    (hE : RelE B' (Sr X.M B' L' w') env1 a) : St X B' env1 L' a w' where
  relL := h'.relL
  glob := h'.glob
  relE := hE
  below := by
    refine ⟨h'.below.os.trans h.below.os, h'.below.tape.trans h.below.tape, h'.below.output.trans h.below.output, Nat.le_trans h.below.size h'.below.size, fun k hk hm => ?_⟩
    rw [← h.below.block k hk hm]
    refine h'.below.block k (Nat.lt_of_lt_of_le hk h.below.size) ?_
    rintro ⟨id, bi, h1, h2, h3, rfl⟩
    rcases h.fresh id bi h1 h2 h3 with h4 | h4
    · omega
    · exact hm h4
  fresh id bi h1 h2 h3 := by
    rcases h'.fresh id bi h1 h2 h3 with h4 | ⟨id', bi', k1, k2, k3, k4⟩
    · exact .inl (Nat.le_trans h.below.size h4)
    · rw [← k4]; exact h.fresh id' bi' k1 k2 k3
  old id hid := by
    have h1 := h'.old id hid
    have h2 := h.old id hid
    exact ⟨h1.1.trans h2.1, h1.2.trans h2.2⟩
  rol := h'.rol
  l0 := Nat.le_trans h.l0 h'.l0
  knd id h0 h1 := by
    have hl : id < L.length := Nat.lt_of_lt_of_le h0 h.l0
    rcases h'.knd id hl h1 with h2 | ⟨h2, h3⟩
    · exact .inl h2
    · simp only [Fx.into] at h2 h3
      rcases h.knd id h0 hl with h4 | ⟨h4, h5⟩
      · exact .inl (h2.trans h4)
      · exact .inr ⟨h2.trans h4, fun h6 => (h3 h6).trans (h5 (h2 ▸ h6))⟩
  dfr := h.dfr
  sz := h.sz

theorem resI_sound (htb : TbOk P tb) {X : Fx} {B : List (Option BI)} {env : Env} {L : List AO} {a : Act} {w : World} (h : St X B env L a w) (hn : NoGd env) :
    ∀ (rs : List ResultVar) (K : List AV → Prop), resI env tb L rs K → ∃ xs vs, K xs ∧ rs.length = vs.length ∧ (∀ (i : Nat) r v, rs[i]? = some r → vs[i]? = some v → (rvOne a.tmps r).run P w = .ok v w) ∧
      RelVs B (Sr X.M B L w) xs vs
  | [], K, hK => ⟨[], [], hK, rfl, by simp, by simp [RelVs]⟩
  | r :: rs, K, hK => by
    have hsl : ∀ t, RelV B (Sr X.M B L w) (get env t) (a.tmps.getD t undef) := by
      intro t
      have := h.relE t
      rwa [relSl_iff] at this
      cases hq : get env t <;> try rfl
      have := hn _ (get_key hq)
      simp at this
    have fin : ∀ (x : AV) (v : Value), (rvOne a.tmps r).run P w = .ok v w → RelV B (Sr X.M B L w) x v → resI env tb L rs (fun xs => K (x :: xs)) →
        ∃ xs vs, K xs ∧ (r :: rs).length = vs.length ∧ (∀ (i : Nat) r' v, (r :: rs)[i]? = some r' → vs[i]? = some v → (rvOne a.tmps r').run P w = .ok v w) ∧ RelVs B (Sr X.M B L w) xs vs := by
      intro x v h1 h2 h3
      obtain ⟨xs, vs, k1, k2, k3, k4⟩ := resI_sound htb h hn rs _ h3
      refine ⟨x :: xs, v :: vs, k1, by simp [k2], fun i r' v' e1 e2 => ?_, ?_⟩
      · cases i with
        | zero => simp at e1 e2; subst e1; subst e2; exact h1
        | succ i => exact k3 i r' v' (by simpa using e1) (by simpa using e2)
      · simp only [RelVs]; exact ⟨v, vs, rfl, h2, k4⟩
    simp only [resI] at hK
    split at hK
    · rename_i t
      rw [stripK_eq] at hK
      exact fin _ _ rfl (strip_rel (hsl t)) hK
    · rename_i ad t
      obtain ⟨y, hy, hh⟩ := opLoad_sound htb hK
      rw [stripK_eq] at hy
      obtain ⟨v, h1, h2⟩ := hh X.M B w _ h.relL (hsl ad)
      refine fin _ v ?_ (strip_rel h2) hy
      simp only [rvOne]
      generalize a.tmps.getD ad undef = p at h1
      cases p with
      | pointer q =>
        cases q with
        | some q => simpa [Instr.loadAt, Instr.sureAddr, asAddr] using h1
        | none => simp [Instr.loadAt, Instr.sureAddr] at h1
      | _ => simp [Instr.loadAt, Instr.sureAddr] at h1

theorem run_enter {o : Oper} {c : Call} {fo : Operand} {a : Act} {w : World} {f : Nat} {a1 a2 : Array Value} (ho : o.op = .call c) (hc : c.callee = .value fo) (hfv : a.eval fo = .func (.func f) a1 a2) (hC : Callable P f) :
    (execOp a.eval o).run P w = .ok (.enter f (a1 ++ c.args.map a.eval ++ a2)) w := by
  obtain ⟨fn, g1, g2, g3⟩ := hC
  have g2' : ¬ fn.name = "runtime.NumGoroutine" := by simpa using g2
  have g3' : ¬ fn.body = none := fun e => by simp [e] at g3
  simp [execOp, ho, resolve, hc, hfv, Deferred.ofValue, invoke, callFunc, program, Sem.run, g1, g2', g3']

/-- a call of a function whose contract is known -/
theorem xc_pure {ro : Nat} {f : AV} {args : List AV} {env : Env} {L : List AO} {K : AV → Env → List AO → Prop} (h : opCall P gl (fun p => p) L f args fun x => K x env L) : XCall P gl ro f args env L K := by
  refine ⟨fun X B a w o c fo hgl hro hS ho hc hf hargs => ?_⟩
  obtain ⟨y, hy, hh⟩ := opCall_sound h
  intro next Q hn
  subst hgl
  refine hh X.M B o c fo a w (fun _ h => h) hS.relL hS.glob ho hc hf hargs next Q fun u w' ⟨h1, h2⟩ => ?_
  exact hn _ _ _ _ _ _ hy rfl (hS.ext h1) h2

/-- a call of a function that is gone through at once -/
theorem xc_in (htb : TbOk P tb) (hmix : P.follows .mixedOrders = true) {f : Nat} {fn : Func} {cd : Code} (hf : P.funcs[f]? = some fn) (hb : fn.body = some cd)
    (hname : (fn.name == "runtime.NumGoroutine") = false) (hok : codeOk fn.ntmps cd = true) {ro : Nat} {first cap args : List AV} {env : Env} {L : List AO} {K : AV → Env → List AO → Prop}
    (hlen : Nat.ble (first ++ args ++ cap).length fn.ntmps = true)
    (h : ∀ vs, ambK [] env fun xs => appK L (.amb vs xs) 0 fun n L' => vc P tb gl ro (n + 1) cd (envOf 0 (first ++ args ++ cap)) L' (EndI tb fn.results.toList vs n env K)) :
    XCall P gl ro (.fn f first cap) args env L K := by
  refine ⟨fun X B a w o c fo hgl hro hS ho hc hfr hargs => ?_⟩
  have hC : Callable P f := ⟨fn, hf, hname, by rw [hb]; rfl⟩
  simp only [RelV] at hfr
  obtain ⟨a1, a2, hfv, h1, h2⟩ := hfr
  have h := h (env.map fun p => a.tmps.getD p.1 undef)
  rw [ambK_eq, appK0] at h
  have hamb := ambA_rel (B := B) (S := Sr X.M B L w) (a := a) env [] fun t _ => hS.relE t
  generalize hvq : (env.map fun p => a.tmps.getD p.1 undef) = vs at h hamb
  obtain ⟨hS1, hle1⟩ := hS.push (Below.refl _ w) none (.amb vs (ambA [] env)) (fun bi e => by simp at e) (fun hle => RelVs.mono (Ble.app B none) hle _ _ hamb)
  have hv : RelVs (B ++ [none]) (Sr X.M (B ++ [none]) (L ++ [.amb vs (ambA [] env)]) w) (first ++ args ++ cap) (a1 ++ c.args.map a.eval ++ a2).toList := by
    have := RelVs.append _ _ _ _ (RelVs.append _ _ _ _ h1 hargs) h2
    exact RelVs.mono (Ble.app B none) hle1 _ _ (by simpa using this)
  have hlv := RelVs.length _ _ hv
  rw [Array.length_toList] at hlv
  have hlen := Nat.le_of_ble_eq_true hlen
  have hent := hS1.enter hv (nt := fn.ntmps) (by omega)
  intro next Q hn
  unfold Oper.wp
  rw [run_enter ho hc hfv hC, Oper.upon_enter]
  refine (calls_of_wp (R := fun e w' => ∃ u, e = .returned u ∧ next (a.put o.dst u) w') hf hb (vc_sound htb hmix (X := X.into (B ++ [none]) (L ++ [AO.amb vs (ambA [] env)]) w fn.ntmps) hgl hro (by simp [Fx.into]) cd _ _ _ _ w _ _ hok (envOf_noGd 0 _) hent h ?_)).mono ?_
  · intro e env' L' B' a' w' hK hn' hS'
    have key : ∀ (K' : Prop), resI env' tb L' fn.results.toList (fun xs => match getO L' L.length with
        | .amb vs' ys => vs' = vs ∧ joinK env ys fun env1 => forceL (setO L' L.length .dead) fun L => K (retA xs) env1 L
        | _ => False) → (a'.defers = [] ∧ ∃ v, (results fn a'.tmps).run P w' = .ok v w' ∧ ∃ u, Ending.returned v = .returned u ∧ next (a.put o.dst u) w') := by
      intro _ hres
      obtain ⟨xs, ws, k1, k2, k3, k4⟩ := resI_sound htb hS' hn' _ _ hres
      refine ⟨hS'.dfr, _, run_results fn a'.tmps w' ws k2 k3, _, rfl, ?_⟩
      split at k1
      · rename_i vs' ys hO
        obtain ⟨rfl, k1⟩ := k1
        rw [joinK_eq, forceL_eq] at k1
        have hlt : L.length < L'.length := by have := hS'.l0; simp [Fx.into] at this; omega
        have hids : ∃ bo, B'[L.length]? = some bo := by
          have : L.length < B'.length := by rw [hS'.relL.len]; exact hlt
          exact ⟨_, List.getElem?_eq_getElem this⟩
        obtain ⟨bo, hbo⟩ := hids
        have hob := hS'.relL.obj _ _ hbo
        rw [hO] at hob
        simp only [RelO] at hob
        have hSl : (Sr X.M B L w).le (Sr X.M B' L' w') := by
          intro t b q u hh
          have hlt := block_lt hh.2
          -- what was shared is shared still
          have hnm : ¬ (X.into (B ++ [none]) (L ++ [.amb vs' (ambA [] env)]) w fn.ntmps).mt b := by
            rintro ⟨id, bi, g1, g2, g3, rfl⟩
            have hid : id < B.length ∨ id = B.length := by have := (List.getElem?_eq_some_iff.1 g2).1; simp at this; omega
            have hBL := hS.relL.len
            rcases hid with hid | hid
            · rw [List.getElem?_append_left hid] at g2
              rw [getO_append, if_neg (by omega)] at g3
              refine hh.1 ?_
              cases t with
              | false => exact .inr ⟨id, bi, g2, rfl, g3⟩
              | true => exact .inr ⟨id, bi, g1, g2, rfl, g3⟩
            · subst hid
              simp at g2
          refine ⟨fun hm => ?_, by rw [World.cell?_of_block (w := w) (hS'.below.block b hlt hnm)]; exact hh.2⟩
          have fin : ∀ (id : Nat) (bi : BI), (t = true → X.M.ro ≤ id) → B'[id]? = some (some bi) → bi.b = b → (getO L' id).live = true → False := by
            intro id bi g0 g1 g2 g3
            by_cases hid : id < X.M.ro
            · have := hS'.old id hid
              simp only [Fx.into] at this
              have hBL := hS.relL.len
              have hrol := hS.rol
              rw [List.getElem?_append_left (by omega)] at this
              have g4 := this.2
              rw [getO_append, if_neg (by omega)] at g4
              refine hh.1 ?_
              cases t with
              | false => exact .inr ⟨id, bi, by rw [← this.1]; exact g1, g2, by rw [← g4]; exact g3⟩
              | true => have := g0 rfl; omega
            · rcases hS'.fresh id bi (by simp only [Fx.into]; omega) g1 g3 with g4 | g4
              · simp only [Fx.into] at g4; omega
              · exact hnm (g2 ▸ g4)
          cases t with
          | false =>
            rcases hm with hm | ⟨id, bi, g1, g2, g3⟩
            · exact hh.1 (.inl hm)
            · exact fin id bi (by simp) g1 g2 g3
          | true =>
            rcases hm with hm | ⟨id, bi, g0, g1, g2, g3⟩
            · exact hh.1 (.inl hm)
            · exact fin id bi (fun _ => g0) g1 g2 g3
        have hl1 : X.M.ro ≤ L.length := hS.rol
        have hE : RelE B' (Sr X.M B' L' w') (joinE env ys) a := fun t => joinE_rel hSl env ys t (hS.relE t) (by rw [hvq]; exact hob)
        have hS2 := (hS1.leave hS' hE).unlive (id := L.length) (x := .dead) hl1 hlt rfl (.inl rfl) (fun _ _ => by simp [RelO])
        refine hn _ _ _ _ _ _ k1 (joinE_keys env ys) hS2 (RelV.mono (Ble.refl _) (Sr_unlive rfl) _ _ (retA_sound k4))
      · exact k1.elim
    cases e with
    | normal => exact key True hK
    | ret => exact key True hK
    | exit i => exact hK.elim
  · rintro e w' ⟨u, rfl, hu⟩; exact hu

end
end Go.VA

namespace Go.VA
open Go Go.RowKit

/-- a loop, by the slots that its rounds write -/
theorem loopI {base : Env} {ro n0 : Nat} {V : Env → List AO → (Ex → Env → List AO → Prop) → Prop} {env : Env} {L : List AO} {K : Ex → Env → List AO → Prop}
    (σ : Type) (I : σ → Prop) (ce : σ → Env) (cl : σ → List AO) (m : σ → Nat) (s0 : σ) (h0 : I s0) (hr : Ref ro n0 env L (ce s0 ++ base, cl s0))
    (hg : ∀ s, NoGdE (ce s ++ base) = true)
    (hround : ∀ s, I s → V (ce s ++ base) (cl s) (loopK (fun env' L' => ∃ s', I s' ∧ Ref ro n0 env' L' (ce s' ++ base, cl s') ∧ m s' < m s) K)) : LoopEv base ro n0 V env L K :=
  ⟨⟨σ, I, fun s => (ce s ++ base, cl s), m, ⟨s0, h0, hr⟩, fun s hs => ⟨hg s, hround s hs⟩⟩⟩

/-- the objects, but for some, as they are -/
def putL : List (Nat × AO) → List AO → List AO
  | [], L => L
  | (i, x) :: r, L => putL r (setO L i x)

theorem loopN {base : Env} {ro n0 : Nat} {V : Env → List AO → (Ex → Env → List AO → Prop) → Prop} {env : Env} {L : List AO} {K : Ex → Env → List AO → Prop}
    (I : Nat → Prop) (ce : Nat → Env) (co : Nat → List (Nat × AO)) (top : Nat) (htop : ∀ s, I s → s ≤ top) (s0 : Nat) (h0 : I s0) (hr : Ref ro n0 env L (ce s0 ++ base, putL (co s0) L))
    (hg : ∀ s, NoGdE (ce s ++ base) = true)
    (hround : ∀ s, I s → V (ce s ++ base) (putL (co s) L) (loopK (fun env' L' => ∃ s', (I s' ∧ s < s') ∧ Ref ro n0 env' L' (ce s' ++ base, putL (co s') L)) K)) : LoopEv base ro n0 V env L K := by
  refine loopI Nat I ce (fun s => putL (co s) L) (fun s => top - s) s0 h0 hr hg fun s hs => ?_
  have := hround s hs
  have e : (fun (env' : Env) (L' : List AO) => ∃ s', (I s' ∧ s < s') ∧ Ref ro n0 env' L' (ce s' ++ base, putL (co s') L)) = (fun env' L' => ∃ s', I s' ∧ Ref ro n0 env' L' (ce s' ++ base, putL (co s') L) ∧ top - s' < top - s) := by
    funext env' L'
    simp only [eq_iff_iff]
    constructor
    · rintro ⟨s', ⟨h1, h2⟩, h3⟩
      exact ⟨s', h1, h3, by have := htop s' h1; omega⟩
    · rintro ⟨s', h1, h3, h4⟩
      exact ⟨s', ⟨h1, by omega⟩, h3⟩
  rw [e] at this
  exact this

theorem leSl0 {m : Nat} {t t' : Bool} {e n n' : Nat} {f g : Nat → List C} (h : n = 0) (h' : n' = 0) : Le m (.c (.sl t e n f)) (.c (.sl t' e n' g)) := by
  subst h; subst h'
  refine ⟨fun B S u _ hu => ?_⟩
  simp only [RelV, RepC] at hu ⊢
  obtain ⟨a, cap, h1, h2, _⟩ := hu
  exact ⟨a, cap, h1, h2, .inl trivial⟩
theorem leNil {m : Nat} {t : Bool} {e n : Nat} {g : Nat → List C} (h : n = 0) : Le m (.c (.v (.slice none 0 0))) (.c (.sl t e n g)) := by
  subst h
  refine ⟨fun B S u _ hu => ?_⟩
  simp only [RelV, RepC] at hu ⊢
  exact ⟨none, 0, hu.1, ⟨Nat.le_refl _, Nat.zero_le _⟩, .inl trivial⟩
theorem leEmp {m : Nat} {t : Bool} {e n : Nat} {g : Nat → List C} (h : n = 0) : Le m (.c .emp) (.c (.sl t e n g)) := by
  subst h
  refine ⟨fun B S u _ hu => ?_⟩
  simp only [RelV, RepC] at hu ⊢
  obtain ⟨a, rfl⟩ := hu
  exact ⟨a, 0, rfl, ⟨Nat.le_refl _, Nat.zero_le _⟩, .inl trivial⟩

/-- cells that say more -/
def LeC (x y : C) : Prop := ∀ S u, RepC S x u → RepC S y u
theorem LeC.refl (x : C) : LeC x x := fun _ _ h => h
theorem LeC.of_eq {x y : C} (h : x = y) : LeC x y := h ▸ LeC.refl x
theorem Le.toC {m : Nat} {x y : C} (h : LeC x y) : Le m (.c x) (.c y) := ⟨fun B S u _ hu => by simp only [RelV] at hu ⊢; exact h S u hu⟩
theorem LeC.sl {t : Bool} {e n n' : Nat} {f g : Nat → List C} (h : n = n') (hf : ∀ i, i < n' → f i = g i) : LeC (.sl t e n f) (.sl t e n' g) := fun S u hu => by
  have := (leSl (m := 0) (t := t) (e := e) h hf).h [] S u (Nat.zero_le _) (by simpa only [RelV] using hu)
  simpa only [RelV] using this
theorem LeC.nil {t : Bool} {e n : Nat} {g : Nat → List C} (h : n = 0) : LeC (.v (.slice none 0 0)) (.sl t e n g) := fun S u hu => by
  have := (leNil (m := 0) (t := t) (e := e) (g := g) h).h [] S u (Nat.zero_le _) (by simpa only [RelV] using hu)
  simpa only [RelV] using this
theorem LeC.sl0 {t t' : Bool} {e n n' : Nat} {f g : Nat → List C} (h : n = 0) (h' : n' = 0) : LeC (.sl t e n f) (.sl t' e n' g) := fun S u hu => by
  have := (leSl0 (m := 0) (t := t) (t' := t') (e := e) (f := f) (g := g) h h').h [] S u (Nat.zero_le _) (by simpa only [RelV] using hu)
  simpa only [RelV] using this
theorem LeC.emp {t : Bool} {e n : Nat} {g : Nat → List C} (h : n = 0) : LeC .emp (.sl t e n g) := fun S u hu => by
  have := (leEmp (m := 0) (t := t) (e := e) (g := g) h).h [] S u (Nat.zero_le _) (by simpa only [RelV] using hu)
  simpa only [RelV] using this

def LeCl : List C → List C → Prop
  | [], [] => True
  | x :: xs, y :: ys => LeC x y ∧ LeCl xs ys
  | _, _ => False
theorem LeCl.vs : ∀ {xs ys : List C}, LeCl xs ys → ∀ S us, RepVs S xs us → RepVs S ys us
  | [], [], _, S, us, h => by simpa [RepVs] using h
  | x :: xs, y :: ys, h, S, us, hu => by
    simp only [LeCl] at h
    simp only [RepVs] at hu ⊢
    obtain ⟨u, r, e, h1, h2⟩ := hu
    exact ⟨u, r, e, h.1 S u h1, LeCl.vs h.2 S r h2⟩
  | [], _ :: _, h, _, _, _ => by simp [LeCl] at h
  | _ :: _, [], h, _, _, _ => by simp [LeCl] at h
theorem LeCl.cs : ∀ {xs ys : List C}, LeCl xs ys → LeCs xs ys
  | [], [], _ => LeCs.refl _
  | x :: xs, y :: ys, h => by
    simp only [LeCl] at h
    have ih := LeCl.cs h.2
    refine ⟨by simp [ih.1], fun S R o hu => ?_⟩
    simp only [RepCs] at hu ⊢
    obtain ⟨⟨u, h1, h2⟩, h3⟩ := hu
    exact ⟨⟨u, h1, h.1 S u h2⟩, ih.2 S R _ h3⟩
  | [], _ :: _, h => by simp [LeCl] at h
  | _ :: _, [], h => by simp [LeCl] at h
theorem leAg {m : Nat} {xs ys : List C} (h : LeCl xs ys) : Le m (.ag xs) (.ag ys) := ⟨fun B S u _ hu => by
  simp only [RelV] at hu ⊢
  obtain ⟨arr, e, hu⟩ := hu
  exact ⟨arr, e, LeCl.vs h S _ hu⟩⟩
theorem leTup {m : Nat} : ∀ {xs ys : List AV}, xs.length = ys.length → (∀ (i : Nat) x y, xs[i]? = some x → ys[i]? = some y → Le m x y) → Le m (.tup xs) (.tup ys) := by
  intro xs ys hl h
  refine ⟨fun B S u hm hu => ?_⟩
  simp only [RelV] at hu ⊢
  obtain ⟨arr, e, hu⟩ := hu
  refine ⟨arr, e, RelVs.mk _ _ (by rw [RelVs.length _ _ hu, hl]) fun j y hy => ?_⟩
  have hj : j < xs.length := by rw [hl]; exact (List.getElem?_eq_some_iff.1 hy).1
  obtain ⟨u, k1, k2⟩ := RelVs.nth _ _ j _ hu (List.getElem?_eq_getElem hj)
  exact ⟨u, k1, (h j _ y (List.getElem?_eq_getElem hj) hy).h B S u hm k2⟩
theorem leTup2 {m : Nat} {a b a' b' : AV} (h : Le m a a') (h' : Le m b b') : Le m (.tup [a, b]) (.tup [a', b']) := leTup rfl fun i x y hx hy => by
  match i with
  | 0 => simp at hx hy; subst hx; subst hy; exact h
  | 1 => simp at hx hy; subst hx; subst hy; exact h'
  | n + 2 => simp at hx
theorem leTup3 {m : Nat} {a b c a' b' c' : AV} (h : Le m a a') (h' : Le m b b') (h'' : Le m c c') : Le m (.tup [a, b, c]) (.tup [a', b', c']) := leTup rfl fun i x y hx hy => by
  match i with
  | 0 => simp at hx hy; subst hx; subst hy; exact h
  | 1 => simp at hx hy; subst hx; subst hy; exact h'
  | 2 => simp at hx hy; subst hx; subst hy; exact h''
  | n + 3 => simp at hx

theorem NoTag.int {k : IntKind} {n : Int} : NoTag (intA k n) := NoTag.of_scalar rfl
theorem NoTag.bool {b : Bool} : NoTag (boolA b) := NoTag.of_scalar rfl
theorem NoTag.str {s : ByteArray} : NoTag (.c (.v (.string s))) := NoTag.of_scalar rfl

/-! ### No slice is longer than memory -/
mutual
def C.bnd : C → Prop
  | .v _ => True
  | .emp => True
  | .sl _ _ n f => n ≤ 140737488355328 ∧ ∀ i, i < n → bnds (f i)
def bnds : List C → Prop
  | [] => True
  | x :: r => x.bnd ∧ bnds r
end
def AV.bnd : AV → Prop
  | .c x => x.bnd
  | .ag xs => bnds xs
  | .sp _ xs _ => bnds xs
  | _ => True
def bndAll : List AV → Prop
  | [] => True
  | x :: r => x.bnd ∧ bndAll r

mutual
theorem RepC.bnd {S : Rd} : ∀ (x : C) (u : Value), RepC S x u → x.bnd
  | .v _, _, _ => by simp [C.bnd]
  | .emp, _, _ => by simp [C.bnd]
  | .sl t esz n f, u, h => by
    simp only [RepC] at h
    obtain ⟨a, cap, hu, hc, h1⟩ := h
    simp only [C.bnd]
    refine ⟨hc.2, fun i hi => ?_⟩
    rcases h1 with h1 | ⟨b, o, ha, h1⟩
    · omega
    · exact RepCs.bnd (f i) _ (h1 i hi).2
theorem RepCs.bnd {S : Rd} {R : Nat → Value → Prop} : ∀ (xs : List C) (o : Nat), RepCs S R o xs → bnds xs
  | [], _, _ => by simp [bnds]
  | x :: xs, o, h => by
    simp only [RepCs] at h
    obtain ⟨⟨u, h1, h2⟩, h3⟩ := h
    simp only [bnds]
    exact ⟨RepC.bnd x u h2, RepCs.bnd xs _ h3⟩
end
theorem RepVs.bnd {S : Rd} : ∀ (xs : List C) (us : List Value), RepVs S xs us → bnds xs
  | [], _, _ => by simp [bnds]
  | x :: xs, us, h => by
    simp only [RepVs] at h
    obtain ⟨u, r, _, h1, h2⟩ := h
    simp only [bnds]
    exact ⟨RepC.bnd x u h1, RepVs.bnd xs r h2⟩
theorem RelV.bnd {B : List (Option BI)} {S : Rd} (x : AV) (u : Value) (h : RelV B S x u) : x.bnd := by
  cases x <;> simp only [AV.bnd]
  case c x => simp only [RelV] at h; exact RepC.bnd x u h
  case ag xs => simp only [RelV] at h; obtain ⟨arr, _, h⟩ := h; exact RepVs.bnd xs _ h
  case sp t xs k => simp only [RelV] at h; obtain ⟨b, o, _, h⟩ := h; exact RepCs.bnd xs _ h
theorem RelVs.bnd {B : List (Option BI)} {S : Rd} : ∀ (xs : List AV) (us : List Value), RelVs B S xs us → bndAll xs
  | [], _, _ => by simp [bndAll]
  | x :: xs, us, h => by
    simp only [RelVs] at h
    obtain ⟨u, r, _, h1, h2⟩ := h
    simp only [bndAll]
    exact ⟨RelV.bnd x u h1, RelVs.bnd xs r h2⟩

section
variable {P : Program} {tb : TB} {gl : Gl}
/-- a function's contract, from its text, where no argument is longer than memory -/
theorem acall_of_vcb (htb : TbOk P tb) (hmix : P.follows .mixedOrders = true) {f : Nat} {fn : Func} {c : Code} (hf : P.funcs[f]? = some fn) (hb : fn.body = some c)
    (hname : (fn.name == "runtime.NumGoroutine") = false) (hok : codeOk fn.ntmps c = true) {args : List AV} {L : List AO} {r : AV} (hr : r.closed = true) (hargs' : Nat.ble args.length fn.ntmps = true)
    (h : bndAll args → vc P tb gl L.length L.length c (envOf 0 args) L (EndK L.length tb fn.results.toList r)) : ACall P gl f args L r :=
  ⟨⟨fn, hf, hname, by rw [hb]; rfl⟩, hr, fun w M B vals hro hL hG hv => (acall_of_vc htb hmix hf hb hname hok hr hargs' (h (RelVs.bnd _ _ hv))).run w M B vals hro hL hG hv⟩
end
end Go.VA
namespace Go.VA
theorem xc_guard {P : Program} {gl : Gl} {ro : Nat} {f : AV} {args : List AV} {env : Env} {L : List AO} {K : AV → Env → List AO → Prop} (h : XCall P gl ro f args env L K) : XCall P gl ro f args env L K := h
end Go.VA
namespace Go.VA
open Go Go.RowKit
def LeAll (n : Nat) : List AV → List AV → Prop
  | [], [] => True
  | x :: xs, y :: ys => Le n x y ∧ LeAll n xs ys
  | _, _ => False
theorem RelVs.leAll {B : List (Option BI)} {S : Rd} {n : Nat} (hn : n ≤ B.length) : ∀ {xs ys : List AV} {us : List Value}, LeAll n xs ys → RelVs B S xs us → RelVs B S ys us
  | [], [], us, _, h => h
  | x :: xs, y :: ys, us, hl, h => by
    simp only [LeAll] at hl
    simp only [RelVs] at h ⊢
    obtain ⟨u, r, e, h1, h2⟩ := h
    exact ⟨u, r, e, hl.1.h _ _ _ hn h1, RelVs.leAll hn hl.2 h2⟩
  | [], _ :: _, _, hl, _ => by simp [LeAll] at hl
  | _ :: _, [], _, hl, _ => by simp [LeAll] at hl
/-- a contract, of arguments of which more is known -/
theorem ACall.le {P : Program} {gl : Gl} {f : Nat} {args args' : List AV} {L : List AO} {r : AV} (h : ACall P gl f args' L r) (hl : LeAll L.length args args') : ACall P gl f args L r :=
  ⟨h.callable, h.closed, fun w M B vals hro hL hG hv => h.run w M B vals hro hL hG (RelVs.leAll (by rw [hL.len]; exact Nat.le_refl _) hl hv)⟩
theorem ACall.res {P : Program} {gl : Gl} {f : Nat} {args : List AV} {L : List AO} {r r' : AV} (h : ACall P gl f args L r) (hr : r'.closed = true) (hl : Le 0 r r') : ACall P gl f args L r' :=
  ⟨h.callable, hr, fun w M B vals hro hL hG hv => (h.run w M B vals hro hL hG hv).mono fun e w' ⟨u, h1, h2, h3⟩ => ⟨u, h1, h2, hl.h _ _ _ (Nat.zero_le _) h3⟩⟩
end Go.VA

namespace Go.VA
open Go Go.RowKit

/-- a value -/
inductive V where
  | mk (k i : Int) (s : ByteArray) (l : List V) (ks : List ByteArray) (tk to : Int) (sec : Bool)

namespace V
def k : V → Int | mk k _ _ _ _ _ _ _ => k
def i : V → Int | mk _ i _ _ _ _ _ _ => i
def s : V → ByteArray | mk _ _ s _ _ _ _ _ => s
def l : V → List V | mk _ _ _ l _ _ _ _ => l
def ks : V → List ByteArray | mk _ _ _ _ ks _ _ _ => ks
def tk : V → Int | mk _ _ _ _ _ tk _ _ => tk
def to : V → Int | mk _ _ _ _ _ _ to _ => to
def sec : V → Bool | mk _ _ _ _ _ _ _ sec => sec
/-- no value -/
def z : V := mk 0 0 ByteArray.empty [] [] 0 0 false
instance : Inhabited V := ⟨z⟩
theorem eta (v : V) : mk v.k v.i v.s v.l v.ks v.tk v.to v.sec = v := by cases v; rfl
theorem sz_mem {x : V} {v : V} (h : x ∈ v.l) : SizeOf.sizeOf x < SizeOf.sizeOf v := by
  cases v with
  | mk k i s l ks tk to sec =>
    have := List.sizeOf_lt_of_mem (show x ∈ l from h)
    simp
    omega
/-- by the elements -/
theorem ind {p : V → Prop} (h : ∀ v, (∀ x ∈ v.l, p x) → p v) (v : V) : p v := by
  have : ∀ n (v : V), SizeOf.sizeOf v < n → p v := by
    intro n
    induction n with
    | zero => intro v hv; omega
    | succ n ih => intro v hv; exact h v fun x hx => ih x (by have := sz_mem hx; omega)
  exact this _ v (Nat.lt_succ_self _)
end V

mutual
/-- what a function of a value, and of what it is of its elements, is -/
def V.fold {α : Type} (f : V → List α → α) : V → α
  | .mk k i s l ks tk to sec => f (.mk k i s l ks tk to sec) (V.foldL f l)
def V.foldL {α : Type} (f : V → List α → α) : List V → List α
  | [] => []
  | x :: r => V.fold f x :: V.foldL f r
end
theorem V.foldL_eq {α : Type} (f : V → List α → α) : ∀ l : List V, V.foldL f l = l.map (V.fold f)
  | [] => rfl
  | x :: r => by simp [V.foldL, V.foldL_eq f r]
theorem V.fold_eq {α : Type} (f : V → List α → α) (v : V) : V.fold f v = f v (v.l.map (V.fold f)) := by
  cases v; simp only [V.fold, V.l, V.foldL_eq]

def cS (s : ByteArray) : List C := [.v (.string s)]
abbrev rS (ks : List ByteArray) : Nat → List C := rowE cS ByteArray.empty ks

mutual
def cV0 : V → List C
  | .mk k i s l ks tk to sec => [.v (.int .i64 k), .v (.int .i64 i), .v (.string s), .sl false 8 l.length (rV l), .sl false 1 ks.length (rS ks), .v (.int .i64 tk), .v (.int .i64 to), .v (.bool sec)]
def rV : List V → Nat → List C
  | [], _ => []
  | x :: _, 0 => cV0 x
  | _ :: r, n + 1 => rV r n
end

/-- the cells of a value; t, t': its elements, its keys are lent -/
def cVt (t t' : Bool) (v : V) : List C :=
  [.v (.int .i64 v.k), .v (.int .i64 v.i), .v (.string v.s), .sl t 8 v.l.length (rV v.l), .sl t' 1 v.ks.length (rS v.ks), .v (.int .i64 v.tk), .v (.int .i64 v.to), .v (.bool v.sec)]
abbrev cV (v : V) : List C := cVt false false v
theorem cV0_eq (v : V) : cV0 v = cV v := by cases v; rfl
theorem rV_get {l : List V} {i : Nat} (h : i < l.length) : rV l i = cV l[i] := by
  induction l generalizing i with
  | nil => simp at h
  | cons x r ih =>
    cases i with
    | zero => simp only [rV]; exact cV0_eq x
    | succ i => simp only [rV]; rw [ih (by simpa using h)]; rfl
theorem rV_getD {l : List V} {i : Nat} (h : i < l.length) : rV l i = cV (l.getD i V.z) := by
  rw [rV_get h]; simp [List.getD_eq_getElem?_getD, h]
theorem rV_drop (l : List V) (k i : Nat) : rV l (k + i) = rV (l.drop k) i := by
  induction k generalizing l with
  | zero => simp
  | succ k ih =>
    cases l with
    | nil => simp [rV]
    | cons x r => rw [show k + 1 + i = (k + i) + 1 from by omega]; simp only [rV, List.drop_succ_cons]; exact ih r
theorem rV_take {l : List V} {k i : Nat} (h : i < k) : rV (l.take k) i = rV l i := by
  induction k generalizing l i with
  | zero => omega
  | succ k ih =>
    cases l with
    | nil => simp
    | cons x r =>
      cases i with
      | zero => simp [rV]
      | succ i => simp only [List.take_succ_cons, rV]; exact ih (by omega)
theorem rV_snoc {l : List V} {x : V} {i : Nat} (h : i < l.length + 1) : catF 0 l.length (rV l) (nthC [cV x]) i = rV (l ++ [x]) i := by
  unfold catF
  by_cases hi : i < l.length
  · rw [if_pos hi, Nat.zero_add, rV_get hi, rV_get (by simp; omega)]
    congr 1
    rw [List.getElem_append_left hi]
  · rw [if_neg hi]
    obtain rfl : i = l.length := by omega
    rw [rV_get (by simp)]
    simp [nthC]
theorem rV_ex {l : List V} {c : Nat} (h : c < l.length) : ∃ x, l[c]? = some x ∧ x ∈ l ∧ rV l ((c : Int)).toNat = cV x :=
  ⟨l[c], List.getElem?_eq_getElem h, List.getElem_mem h, by rw [← rV_get h]; rfl⟩
theorem take_snoc? {α : Type} {l : List α} {c : Nat} {x : α} (h : l[c]? = some x) : l.take (c + 1) = l.take c ++ [x] := by
  obtain ⟨h1, h2⟩ := List.getElem?_eq_some_iff.1 h
  rw [List.take_succ_eq_append_getElem h1, h2]
theorem drop_cons? {α : Type} {l : List α} {c : Nat} {x : α} (h : l[c]? = some x) : l.drop c = x :: l.drop (c + 1) := by
  obtain ⟨h1, h2⟩ := List.getElem?_eq_some_iff.1 h
  rw [List.drop_eq_getElem_cons h1, h2]
/-- equal texts -/
def eqs (a b : ByteArray) : Bool := a.toList == b.toList
def eqSs : List ByteArray → List ByteArray → Bool
  | [], [] => true
  | x :: xs, y :: ys => eqs x y && eqSs xs ys
  | _, _ => false
def all2 {α β : Type} (p : α → β → Bool) : List α → List β → Bool
  | [], [] => true
  | x :: xs, y :: ys => p x y && all2 p xs ys
  | _, _ => false
theorem all2_map {α β γ : Type} (p : α → β → Bool) (g : γ → α) : ∀ (l : List γ) (m : List β), all2 p (l.map g) m = all2 (fun x y => p (g x) y) l m
  | [], [] => rfl
  | [], _ :: _ => rfl
  | _ :: _, [] => rfl
  | x :: l, y :: m => by simp [all2, all2_map p g l m]
theorem all2_len {α β : Type} {p : α → β → Bool} : ∀ {l : List α} {m : List β}, l.length ≠ m.length → all2 p l m = false
  | [], [], h => absurd rfl h
  | [], _ :: _, _ => rfl
  | _ :: _, [], _ => rfl
  | x :: l, y :: m, h => by simp only [all2]; rw [all2_len (l := l) (m := m) (by simpa using h)]; simp
theorem eqSs_len : ∀ {l m : List ByteArray}, l.length ≠ m.length → eqSs l m = false
  | [], [], h => absurd rfl h
  | [], _ :: _, _ => rfl
  | _ :: _, [], _ => rfl
  | x :: l, y :: m, h => by simp only [eqSs]; rw [eqSs_len (l := l) (m := m) (by simpa using h)]; simp
/-- the place of the first one -/
def fidx {α : Type} (p : α → Bool) : List α → Nat → Int
  | [], _ => -1
  | x :: r, i => if p x then i else fidx p r (i + 1)
theorem fidx_any {α : Type} (p : α → Bool) : ∀ (l : List α) (i : Nat), (decide (fidx p l i ≥ 0)) = l.any p
  | [], _ => by simp [fidx]
  | x :: r, i => by
    simp only [fidx, List.any_cons]
    by_cases h : p x = true
    · simp [h]
    · have := fidx_any p r (i + 1); simp [h] at this ⊢; exact this
theorem nthS {l : List ByteArray} {c : Nat} (h : c < l.length) : ∃ x, l[c]? = some x ∧ l.getD c ByteArray.empty = x :=
  ⟨l[c], List.getElem?_eq_getElem h, by simp [List.getD_eq_getElem?_getD, h]⟩
theorem take_get? {α : Type} {l : List α} {n c : Nat} {x : α} (hc : c < n) (h : l[c]? = some x) : (l.take n)[c]? = some x := by
  rw [List.getElem?_take, if_pos hc, h]
theorem rS_get {l : List ByteArray} {i : Nat} : rS l i = cS (l.getD i ByteArray.empty) := rfl
end Go.VA

namespace Go.VA
open Go Go.RowKit
/-! ### types -/
/-- a type: its kind, and of what -/
abbrev Ty := Int × Int
def cT (p : Ty) : List C := [.v (.int .i64 p.1), .v (.int .i64 p.2)]
def tA (p : Ty) : AV := .ag (cT p)
def chk (p : Ty) : Bool := !(decide (p.1 < 0) || decide (p.1 > 5) || decide (p.2 < 0) || decide (p.2 > 3) || (!(p.1 == 4 || p.1 == 5) && p.2 != 0))
def chkR (p : Ty) : Bool := if (decide (p.1 < 0) || decide (p.1 > 5) || decide (p.2 < 0) || decide (p.2 > 3)) then false else (p.2 == 0 || decide (p.1 > 3))
def errc (p : Ty) : Int := if chk p then 0 else 1
def wi (a b : Ty) : Bool := if (errc a != 0 || errc b != 0) then false else (b.1 == 0 && b.2 == 0 || a.1 == b.1 && a.2 == b.2 || a.1 == b.1 && b.2 == 0)
def wiR (a b : Ty) : Bool := if (!chkR a || !chkR b) then false else (b.1 == 0 || a.1 == b.1 && a.2 == b.2 || a.1 == b.1 && b.2 == 0)
def jo (a b : Ty) : Ty := if (errc a != 0 || errc b != 0 || a.1 != b.1) then (0, 0) else if (a.1 == b.1 && a.2 == b.2) then a else (a.1, 0)
def codeT (p : Ty) : Int := if chk p then IntKind.u8.wrap (bitsI .or .i64 (shlI .i64 p.1 3) p.2) else 255
def tys : List Ty := [(0, 0), (1, 0), (2, 0), (3, 0), (4, 0), (4, 1), (4, 2), (4, 3), (5, 0), (5, 1), (5, 2), (5, 3)]
theorem chk_mem {a : Ty} (h : chk a = true) : a ∈ tys := by
  obtain ⟨k, o⟩ := a
  simp only [chk, Bool.not_eq_true', Bool.or_eq_false_iff, decide_eq_false_iff_not, Bool.and_eq_false_imp, Bool.not_eq_true, bne_eq_false_iff_eq] at h
  obtain ⟨⟨⟨⟨h1, h2⟩, h3⟩, h4⟩, h5⟩ := h
  have hk : k = 0 ∨ k = 1 ∨ k = 2 ∨ k = 3 ∨ k = 4 ∨ k = 5 := by omega
  have ho : o = 0 ∨ o = 1 ∨ o = 2 ∨ o = 3 := by omega
  rcases hk with rfl | rfl | rfl | rfl | rfl | rfl <;> rcases ho with rfl | rfl | rfl | rfl <;> first | decide | (exfalso; revert h5; decide)
theorem chkR_eq (a : Ty) : chkR a = chk a := by
  obtain ⟨k, o⟩ := a
  rw [Bool.eq_iff_iff]
  simp only [chk, chkR]
  split
  · simp at *; omega
  · simp at *; omega
/-! ### values -/
namespace V
def t (v : V) : Ty := (v.tk, v.to)
end V
def nPairs (v : V) : Nat := min v.ks.length v.l.length
def nIt (v : V) : Nat := if v.k == 4 then v.l.length else if v.k == 5 then nPairs v else 0
theorem nPairs_le (v : V) : nPairs v ≤ v.l.length := by unfold nPairs; omega
theorem nPairs_le' (v : V) : nPairs v ≤ v.ks.length := by unfold nPairs; omega
theorem nIt_le (v : V) : nIt v ≤ v.l.length := by
  unfold nIt nPairs; split
  · omega
  · split <;> omega
theorem nIt_ks {v : V} (h : v.k = 5) : nIt v ≤ v.ks.length := by unfold nIt nPairs; rw [h]; simp; omega
/-- how many keys it has -/
def nKs (v : V) : Nat := if v.k != 5 then 0 else nPairs v
def items (v : V) : List V := v.l.take (nIt v)
def keys (v : V) : List ByteArray := v.ks.take (nKs v)
theorem items_len (v : V) : (items v).length = nIt v := by unfold items; have := nIt_le v; simp; omega
theorem items_mem {v x : V} (h : x ∈ items v) : x ∈ v.l := List.mem_of_mem_take h
theorem nKs_le (v : V) : nKs v ≤ v.ks.length := by unfold nKs nPairs; split <;> omega
theorem keys_len (v : V) : (keys v).length = nKs v := by unfold keys; have := nKs_le v; simp; omega

def weight : V → Int := V.fold fun v rs => (rs.take (nIt v)).foldl (fun n r => IntKind.i64.wrap (n + r)) 1
theorem weight_eq (v : V) : weight v = ((items v).map weight).foldl (fun n r => IntKind.i64.wrap (n + r)) 1 := by
  rw [weight, V.fold_eq, ← List.map_take]; rfl
def imax (a b : Int) : Int := if b > a then b else a
def depth : V → Int := V.fold fun v rs => IntKind.i64.wrap ((rs.take (nIt v)).foldl imax 0 + 1)
theorem depth_eq (v : V) : depth v = IntKind.i64.wrap (((items v).map depth).foldl imax 0 + 1) := by
  rw [depth, V.fold_eq, ← List.map_take]; rfl

/-- the same fields, elements aside -/
def flat (a b : V) : Bool := a.k == b.k && a.i == b.i && eqs a.s b.s && (a.tk == b.tk && a.to == b.to) && a.sec == b.sec && (a.l.length : Int) == b.l.length && eqSs a.ks b.ks
/-- what its kind has -/
def only (v : V) : V := .mk v.k (if v.k == 1 || v.k == 2 then v.i else 0) (if v.k == 3 then v.s else ByteArray.empty) (if v.k == 5 || v.k == 4 then v.l else []) (if v.k == 5 then v.ks else [])
  (if v.k == 6 then v.tk else 0) (if v.k == 6 then v.to else 0) v.sec
theorem only_k (v : V) : (only v).k = v.k := rfl
theorem only_i (v : V) : (only v).i = if v.k == 1 || v.k == 2 then v.i else 0 := rfl
theorem only_s (v : V) : (only v).s = if v.k == 3 then v.s else ByteArray.empty := rfl
theorem only_l (v : V) : (only v).l = if v.k == 5 || v.k == 4 then v.l else [] := rfl
theorem only_ks (v : V) : (only v).ks = if v.k == 5 then v.ks else [] := rfl
theorem only_tk (v : V) : (only v).tk = if v.k == 6 then v.tk else 0 := rfl
theorem only_to (v : V) : (only v).to = if v.k == 6 then v.to else 0 := rfl
theorem only_sec (v : V) : (only v).sec = v.sec := rfl
def keyOk (ks : List ByteArray) (c : Nat) (x : ByteArray) : Bool := decide ((x.size : Int) > 1024) || decide ((c : Int) > 0) && !(Op.bytesLess (ks.getD (IntKind.i64.wrap ((c : Int) - 1)).toNat ByteArray.empty).toList x.toList)
def keysOk (ks : List ByteArray) : List ByteArray → Nat → Bool
  | [], _ => true
  | x :: r, c => if keyOk ks c x then false else keysOk ks r (c + 1)
def shaped (v : V) : Bool :=
  if (decide (v.k < 0) || decide (v.k > 6) || !flat v (only v) || decide ((v.s.size : Int) > 1024) || decide ((v.l.length : Int) > 128)) then false
  else if v.k == 1 then shrI .i64 v.i 1 == 0
  else if v.k == 6 then errc v.t == 0
  else if v.k == 5 then (if (v.ks.length : Int) != v.l.length then false else keysOk v.ks v.ks 0)
  else true
/-- all of it, so deep at most -/
def allV : V → Int → Bool := V.fold fun v rs d => if (d == 0 || !shaped v) then false else rs.all fun r => r (IntKind.i64.wrap (d - 1))
theorem allV_eq (v : V) (d : Int) : allV v d = if (d == 0 || !shaped v) then false else v.l.all fun x => allV x (IntKind.i64.wrap (d - 1)) := by
  rw [allV, V.fold_eq]
  simp only [List.all_map]
  rfl
def checkV (v : V) : Int := if (!allV v 8 || decide (weight v > 512)) then 1 else 0

/-- v fits t -/
def fits : V → Ty → Bool := V.fold fun v rs t =>
  if errc t != 0 then false
  else if (t.1 == 0 || v.k == 0) then true
  else if v.k == 6 then wi v.t t
  else if v.k != t.1 then false
  else !((rs.take (nIt v)).any fun r => !(r (t.2, 0)))
theorem fits_eq (v : V) (t : Ty) : fits v t = if errc t != 0 then false
  else if (t.1 == 0 || v.k == 0) then true
  else if v.k == 6 then wi v.t t
  else if v.k != t.1 then false
  else !((items v).any fun x => !(fits x (t.2, 0))) := by
  rw [fits, V.fold_eq, ← List.map_take, List.any_map]; rfl
def known : V → Bool := V.fold fun v rs => v.k != 6 && !((rs.take (nIt v)).any fun r => !r)
theorem known_eq (v : V) : known v = (v.k != 6 && !((items v).any fun x => !(known x))) := by
  rw [known, V.fold_eq, ← List.map_take, List.any_map]; rfl
/-- the type of elements -/
def commonT : List Ty → Int
  | [] => 0
  | t :: r => let j := r.foldl jo t; if decide (j.1 > 3) then 0 else j.1
def typeOf : V → Ty := V.fold fun v rs =>
  if v.k == 1 then (1, 0) else if v.k == 2 then (2, 0) else if v.k == 3 then (3, 0) else if v.k == 4 then (4, commonT rs)
  else if v.k == 5 then (5, commonT (rs.take (nIt v))) else if v.k == 6 then v.t else (0, 0)
theorem typeOf_eq (v : V) : typeOf v = if v.k == 1 then (1, 0) else if v.k == 2 then (2, 0) else if v.k == 3 then (3, 0) else if v.k == 4 then (4, commonT (v.l.map typeOf))
  else if v.k == 5 then (5, commonT ((items v).map typeOf)) else if v.k == 6 then v.t else (0, 0) := by
  rw [typeOf, V.fold_eq, ← List.map_take]; rfl
/-- a is b, or more exact -/
def refines : V → V → Bool := V.fold fun a rs b =>
  if b.k == 6 then fits a b.t
  else if (a.k != b.k || a.i != b.i || !eqs a.s b.s || !eqSs (keys a) (keys b)) then false
  else all2 (fun r y => r y) (rs.take (nIt a)) (items b)
theorem refines_eq (a b : V) : refines a b = if b.k == 6 then fits a b.t
  else if (a.k != b.k || a.i != b.i || !eqs a.s b.s || !eqSs (keys a) (keys b)) then false
  else all2 refines (items a) (items b) := by
  rw [refines, V.fold_eq, ← List.map_take, all2_map]; rfl
def unsec (v : V) : V := .mk v.k v.i v.s v.l v.ks v.tk v.to false
def like : V → V → Bool := V.fold fun a rs b => flat (unsec a) (unsec b) && all2 (fun r y => r y) rs b.l
theorem like_eq (a b : V) : like a b = (flat (unsec a) (unsec b) && all2 like a.l b.l) := by
  rw [like, V.fold_eq, all2_map]
def cmpI (x y : Int) : Int := if x < y then -1 else if x > y then 1 else 0
def cmpS (x y : ByteArray) : Int := if Op.bytesLess x.toList y.toList then -1 else if !(Op.bytesLess x.toList y.toList || x.toList == y.toList) then 1 else 0
def orI : List Int → Int
  | [] => 0
  | x :: r => if x != 0 then x else orI r
/-- of a size that fits memory however often it is copied -/
def V.sm : V → Bool := V.fold fun v rs => decide (v.l.length ≤ 4294967296) && decide (v.ks.length ≤ 4294967296) && rs.all id
theorem V.sm_eq (v : V) : v.sm = (decide (v.l.length ≤ 4294967296) && decide (v.ks.length ≤ 4294967296) && v.l.all V.sm) := by
  rw [V.sm, V.fold_eq, List.all_map]; rfl
theorem V.sm_l {v : V} (h : v.sm = true) : v.l.length ≤ 4294967296 ∧ v.ks.length ≤ 4294967296 ∧ ∀ x ∈ v.l, x.sm = true := by
  rw [V.sm_eq] at h
  simp only [Bool.and_eq_true, decide_eq_true_eq, List.all_eq_true] at h
  exact ⟨h.1.1, h.1.2, h.2⟩
def copyV : V → V := V.fold fun v rs => .mk v.k v.i v.s rs v.ks v.tk v.to v.sec
theorem copyV_eq (v : V) : copyV v = v := by
  refine V.ind (p := fun v => copyV v = v) (fun v ih => ?_) v
  rw [copyV, V.fold_eq]
  have : v.l.map (V.fold fun v rs => .mk v.k v.i v.s rs v.ks v.tk v.to v.sec) = v.l := by
    conv => rhs; rw [← List.map_id v.l]
    exact List.map_congr_left fun x hx => ih x hx
  rw [this, V.eta]
end Go.VA

namespace Go.VA
open Go Go.RowKit
/-! ### the order of values -/
/-- element by element -/
def cmpL (fin : Int) : List ByteArray → List ByteArray → List (V → Int) → List V → Int
  | _, _, [], _ => fin
  | _, _, _ :: _, [] => fin
  | k :: ks, k' :: ks', r :: rs, y :: ys => if cmpS k k' != 0 then cmpS k k' else if r y != 0 then r y else cmpL fin ks ks' rs ys
  | [], ks', r :: rs, y :: ys => if r y != 0 then r y else cmpL fin [] ks' rs ys
  | _ :: _, [], _ :: _, _ :: _ => 0
def headC (a b : V) : Int := orI [cmpI a.k b.k, cmpI a.i b.i, cmpS a.s b.s, cmpI (codeT a.t) (codeT b.t)]
def cmpV : V → V → Int := V.fold fun a rs b => if headC a b != 0 then headC a b else cmpL (cmpI (nIt a) (nIt b)) (keys a) (keys b) (rs.take (nIt a)) (items b)
theorem cmpV_eq (a b : V) : cmpV a b = if headC a b != 0 then headC a b else cmpL (cmpI (nIt a) (nIt b)) (keys a) (keys b) ((items a).map cmpV) (items b) := by
  rw [cmpV, V.fold_eq, ← List.map_take]; rfl
theorem cmpI_0 {x y : Int} (h : cmpI x y = 0) : x = y := by unfold cmpI at h; split at h <;> (try split at h) <;> omega
theorem orI_0 : ∀ {l : List Int}, orI l = 0 → ∀ x ∈ l, x = 0
  | [], _, x, hx => by simp at hx
  | y :: r, h, x, hx => by
    simp only [orI] at h
    split at h
    · rename_i hy; simp [h] at hy
    · rename_i hy
      rcases List.mem_cons.1 hx with rfl | hx
      · simpa using hy
      · exact orI_0 h x hx
theorem headC_k {a b : V} (h : headC a b = 0) : a.k = b.k := cmpI_0 (orI_0 h _ (by simp))
theorem nKs_5 {v : V} (h : v.k = 5) : nKs v = nIt v := by unfold nKs nIt; rw [h]; simp
theorem nKs_pos {v : V} (h : 0 < nKs v) : v.k = 5 := by
  unfold nKs at h
  split at h
  · omega
  · rename_i h2; simpa using h2
theorem keys_get {v : V} {c : Nat} (hc : c < nKs v) : (keys v)[c]? = some (v.ks.getD c ByteArray.empty) := by
  have := nKs_le v
  unfold keys
  rw [List.getElem?_take, if_pos hc, List.getElem?_eq_getElem (by omega), List.getD_eq_getElem?_getD, List.getElem?_eq_getElem (by omega)]
  rfl
theorem keys_nil {v : V} (h : ¬ 0 < nKs v) : keys v = [] := by
  unfold keys; rw [show nKs v = 0 by omega]; rfl
def lessV (a b : V) : Bool := decide (cmpV (only a) (only b) < 0)
/-! ### the document's -/
def fitsR : V → Ty → Bool := V.fold fun v rs t =>
  if !chkR t then false
  else if (t.1 == 0 || v.k == 0) then true
  else if v.k == 6 then wiR v.t t
  else if v.k != t.1 then false
  else (rs.take (nIt v)).all fun r => r (t.2, 0)
theorem fitsR_eq (v : V) (t : Ty) : fitsR v t = if !chkR t then false
  else if (t.1 == 0 || v.k == 0) then true
  else if v.k == 6 then wiR v.t t
  else if v.k != t.1 then false
  else (items v).all fun x => fitsR x (t.2, 0) := by
  rw [fitsR, V.fold_eq, ← List.map_take, List.all_map]; rfl
/-- element by element, with the keys ahead -/
def refL : List ByteArray → List ByteArray → List (V → Bool) → List V → Bool
  | _, _, [], _ => true
  | _, _, _ :: _, [] => true
  | k :: ks, k' :: ks', r :: rs, y :: ys => if !eqs k k' || !r y then false else refL ks ks' rs ys
  | [], ks', r :: rs, y :: ys => if !r y then false else refL [] ks' rs ys
  | _ :: _, [], _ :: _, _ :: _ => false
def refinesR : V → V → Bool := V.fold fun a rs b =>
  if b.k == 6 then fitsR a b.t
  else if (a.k != b.k || a.i != b.i || !eqs a.s b.s || (nIt a : Int) != nIt b) then false
  else refL (keys a) (keys b) (rs.take (nIt a)) (items b)
theorem refinesR_eq (a b : V) : refinesR a b = if b.k == 6 then fitsR a b.t
  else if (a.k != b.k || a.i != b.i || !eqs a.s b.s || (nIt a : Int) != nIt b) then false
  else refL (keys a) (keys b) ((items a).map refinesR) (items b) := by
  rw [refinesR, V.fold_eq, ← List.map_take]; rfl
def ordL (fin : Int) : List ByteArray → List ByteArray → List (V → Int) → List V → Int
  | _, _, [], _ => fin
  | _, _, _ :: _, [] => fin
  | k :: ks, k' :: ks', r :: rs, y :: ys => if !eqs k k' then (if Op.bytesLess k.toList k'.toList then -1 else 1) else if r y != 0 then r y else ordL fin ks ks' rs ys
  | [], ks', r :: rs, y :: ys => if r y != 0 then r y else ordL fin [] ks' rs ys
  | _ :: _, [], _ :: _, _ :: _ => 0
def codeN (t : Ty) : Int := IntKind.i64.wrap (IntKind.i64.wrap (8 * t.1) + t.2)
def lessF (a b : V) : Bool := if a.k == 1 || a.k == 2 then decide (a.i < b.i) else if a.k == 3 then Op.bytesLess a.s.toList b.s.toList else if a.k == 6 then decide (codeN a.t < codeN b.t) else false
def moreF (a b : V) : Bool := if a.k == 1 || a.k == 2 then decide (a.i > b.i) else if a.k == 3 then !(Op.bytesLess a.s.toList b.s.toList || a.s.toList == b.s.toList) else if a.k == 6 then decide (codeN a.t > codeN b.t) else false
def endO (a b : V) : Int := if (lessF a b || decide ((nIt a : Int) < nIt b)) then -1 else if (moreF a b || decide ((nIt a : Int) > nIt b)) then 1 else 0
def ordV : V → V → Int := V.fold fun a rs b => if a.k != b.k then (if decide (a.k < b.k) then -1 else 1) else ordL (endO a b) (keys a) (keys b) (rs.take (nIt a)) (items b)
theorem ordV_eq (a b : V) : ordV a b = if a.k != b.k then (if decide (a.k < b.k) then -1 else 1) else ordL (endO a b) (keys a) (keys b) ((items a).map ordV) (items b) := by
  rw [ordV, V.fold_eq, ← List.map_take]; rfl
def lessR (a b : V) : Bool := decide (ordV a b < 0)
def sameR : V → V → Bool → Bool := V.fold fun a rs b m =>
  if (a.k != b.k || a.i != b.i || !eqs a.s b.s || !(a.tk == b.tk && a.to == b.to) || m && !(a.sec == b.sec) || (a.l.length : Int) != b.l.length || (a.ks.length : Int) != b.ks.length) then false
  else if !eqSs a.ks b.ks then false else all2 (fun r y => r y m) rs b.l
theorem sameR_eq (a b : V) (m : Bool) : sameR a b m =
  if (a.k != b.k || a.i != b.i || !eqs a.s b.s || !(a.tk == b.tk && a.to == b.to) || m && !(a.sec == b.sec) || (a.l.length : Int) != b.l.length || (a.ks.length : Int) != b.ks.length) then false
  else if !eqSs a.ks b.ks then false else all2 (fun x y => sameR x y m) a.l b.l := by
  rw [sameR, V.fold_eq, all2_map]
def chk1 (v : V) (d : Int) : Bool := decide (d < 1) || decide (v.k < 0) || decide (v.k > 6)
def chk2 (v : V) : Bool := v.k != 1 && v.k != 2 && v.i != 0 || v.k == 1 && v.i != 0 && v.i != 1
def chk3 (v : V) : Bool := v.k != 3 && !(v.s.toList == ({ data := #[] } : ByteArray).toList) || decide ((v.s.size : Int) > 1024)
def chk4 (v : V) : Bool := v.k != 6 && !(v.tk == 0 && v.to == 0) || v.k == 6 && !chkR v.t
def chk5 (v : V) : Bool := v.k != 4 && v.k != 5 && decide ((v.l.length : Int) > 0) || decide ((v.l.length : Int) > 128)
def chk6 (v : V) : Bool := v.k != 5 && decide ((v.ks.length : Int) > 0) || v.k == 5 && (v.ks.length : Int) != v.l.length
def checkRV : V → Int → Bool := V.fold fun v rs d =>
  if chk1 v d then false else if chk2 v then false else if chk3 v then false else if chk4 v then false else if chk5 v then false else if chk6 v then false
  else if !keysOk v.ks v.ks 0 then false else rs.all fun r => r (IntKind.i64.wrap (d - 1))
theorem checkRV_eq (v : V) (d : Int) : checkRV v d =
  if chk1 v d then false else if chk2 v then false else if chk3 v then false else if chk4 v then false else if chk5 v then false else if chk6 v then false
  else if !keysOk v.ks v.ks 0 then false else v.l.all fun x => checkRV x (IntKind.i64.wrap (d - 1)) := by
  rw [checkRV, V.fold_eq, List.all_map]; rfl
def checkR (v : V) : Bool := checkRV v 8 && decide (weight v ≤ 512)
/-- how much it has -/
def greatK : List ByteArray → Int → Int
  | [], n => n
  | k :: r, n => if decide (n ≤ 600) then greatK r (IntKind.i64.wrap (n + IntKind.i64.wrap ((if (4000 : Int) < k.size then 4000 else (k.size : Int)).tdiv 4))) else n
def greatL (d : Int) : List (Int → Int) → Int → Int
  | [], n => n
  | r :: rs, n => if decide (n ≤ 600) then greatL d rs (IntKind.i64.wrap (n + r (IntKind.i64.wrap (d - 1)))) else n
theorem greatK_stop {l : List ByteArray} {n : Int} (h : decide (n ≤ 600) = false) : greatK l n = n := by cases l <;> simp [greatK, h]
theorem greatL_stop {d : Int} {l : List (Int → Int)} {n : Int} (h : decide (n ≤ 600) = false) : greatL d l n = n := by cases l <;> simp [greatL, h]
theorem greatK_go {l : List ByteArray} {n : Int} {c : Nat} {x : ByteArray} (hx : l[c]? = some x) (h : n ≤ 600) :
    greatK (l.drop c) n = greatK (l.drop (c + 1)) (IntKind.i64.wrap (n + IntKind.i64.wrap ((if (4000 : Int) < x.size then 4000 else (x.size : Int)).tdiv 4))) := by
  rw [drop_cons? hx]; simp [greatK, h]
theorem greatL_go {d : Int} {l : List (Int → Int)} {n : Int} {c : Nat} {r : Int → Int} (hx : l[c]? = some r) (h : n ≤ 600) :
    greatL d (l.drop c) n = greatL d (l.drop (c + 1)) (IntKind.i64.wrap (n + r (IntKind.i64.wrap (d - 1)))) := by
  rw [drop_cons? hx]; simp [greatL, h]
def great0 (v : V) : Int := IntKind.i64.wrap (IntKind.i64.wrap (1 + IntKind.i64.wrap ((if (2000 : Int) < v.s.size then 2000 else (v.s.size : Int)).tdiv 4)) + (if (700 : Int) < v.ks.length then 700 else (v.ks.length : Int)))
def greatV : V → Int → Int := V.fold fun v rs d => if d == 0 then 601 else
  let n := greatL d rs (greatK v.ks (great0 v)); if 601 < n then 601 else n
theorem greatV_eq (v : V) (d : Int) : greatV v d = if d == 0 then 601 else
  let n := greatL d (v.l.map greatV) (greatK v.ks (great0 v)); if 601 < n then 601 else n := by
  rw [greatV, V.fold_eq]
end Go.VA
