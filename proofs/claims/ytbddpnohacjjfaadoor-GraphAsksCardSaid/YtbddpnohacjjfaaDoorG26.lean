/- Contracts of functions of the program, and the laws that stand on them: what each function answers, whatever its arguments. -/
import Derived.Test.YtbddpnohacjjfaaDoorG21
import Derived.Test.YtbddpnohacjjfaaDoorG7
import Derived.Test.YtbddpnohacjjfaaDoorVD
set_option linter.unusedSectionVars false
set_option linter.unnecessarySimpa false
namespace Go.Proofs.YtbddpnohacjjfaaDoor
set_option linter.unusedSimpArgs false
set_option linter.unusedVariables false
set_option maxRecDepth 100000
set_option maxHeartbeats 8000000
open Go Go.VA
def rI (a : Nat → Int) (k : Nat) : List C := [.v (.int .i64 (a k))]
theorem rI_upd (a b : Nat → Int) (x : Nat) (v : Int) (h : ∀ k, b k = if k = x then v else a k) (k : Nat) : updF (rI a) x [.v (.int .i64 v)] k = rI b k := by
  unfold updF rI
  rw [h]
  split <;> rfl
theorem getD_mem {l : List Nat} {c x : Nat} (hc : c < l.length) (h : l.getD c 0 = x) : x ∈ l := by
  rw [List.getD_eq_getElem?_getD, List.getElem?_eq_getElem hc] at h
  rw [← h]; exact List.getElem_mem hc
theorem nodup_take {l : List Nat} (hn : l.Nodup) {c x : Nat} (hc : c < l.length) (h : l.getD c 0 = x) : x ∉ l.take c := by
  have e := take_snocD 0 l c hc
  have hn2 : (l.take (c + 1)).Nodup := hn.sublist (List.take_sublist _ _)
  rw [e, h] at hn2
  intro hx
  rw [List.nodup_append] at hn2
  exact hn2.2.2 x hx x (by simp) rfl
end Go.Proofs.YtbddpnohacjjfaaDoor
