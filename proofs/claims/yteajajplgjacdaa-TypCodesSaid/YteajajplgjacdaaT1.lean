/- Contracts of functions of the program, and the laws that stand on them: what each function answers, whatever its arguments. -/
import Derived.Test.YteajajplgjacdaaVB
import Derived.Test.YteajajplgjacdaaProg
namespace Go.Proofs.Yteajajplgjacdaa
open Go Go.VA
def tbl : List (Nat × TI) := [
  (2, ⟨.int .i64, 1, 8, [.int .i64 0]⟩),
  (3, ⟨.int .i64, 1, 8, [.int .i64 0]⟩),
  (4, ⟨.bool, 1, 1, [.bool false]⟩),
  (5, ⟨.int .u8, 1, 1, [.int .u8 0]⟩),
  (9, ⟨.str, 1, 16, [.string ByteArray.empty]⟩),
  (12, ⟨.int .u64, 1, 8, [.int .u64 0]⟩),
  (22, ⟨.struct [(0, 3), (1, 3)], 2, 16, [.int .i64 0, .int .i64 0]⟩),
  (23, ⟨.struct [(0, 3), (1, 3)], 2, 16, [.int .i64 0, .int .i64 0]⟩),
  (26, ⟨.int .i64, 1, 8, [.int .i64 0]⟩),
  (36, ⟨.slice 23, 1, 24, [.slice none 0 0]⟩),
  (44, ⟨.int .u64, 1, 8, [.int .u64 0]⟩),
  (46, ⟨.map 9 23, 1, 8, [.map none]⟩),
  (48, ⟨.array 6 9, 6, 96, [.string ByteArray.empty, .string ByteArray.empty, .string ByteArray.empty, .string ByteArray.empty, .string ByteArray.empty, .string ByteArray.empty]⟩),
  (52, ⟨.slice 9, 1, 24, [.slice none 0 0]⟩)]
abbrev tb : TB := VA.look tbl
theorem htb : TbOk Try.prog tb := tbOk_of_chk (by kernel_rfl)
theorem hmix : Try.prog.follows .mixedOrders = true := by kernel_rfl
theorem se23 : StructEq Try.prog 23 [3, 3] := structEq_of (d := 5) (by kernel_rfl)
theorem se22 : StructEq Try.prog 22 [3, 3] := structEq_of (d := 5) (by kernel_rfl)
def gl : Gl := ⟨fun _ => []⟩

/-- a type: its kind, and of what -/
abbrev Ty := Int × Int
def cT (p : Ty) : List C := [.v (.int .i64 p.1), .v (.int .i64 p.2)]
def tA (p : Ty) : AV := .ag (cT p)
def chk (p : Ty) : Bool := !(decide (p.1 < 0) || decide (p.1 > 5) || decide (p.2 < 0) || decide (p.2 > 3) || (!(p.1 == 4 || p.1 == 5) && p.2 != 0))
theorem a9 (k o : Int) : ACall Try.prog gl 9 [.ag [.v (.int .i64 k), .v (.int .i64 o)]] [] (intA .i64 (if chk (k, o) then 0 else 1)) := by
  refine acall_of_vc htb hmix (f := 9) rfl rfl rfl (by kernel_rfl) rfl rfl ?_
  conv => whnf
  repeat' (first | (refine And.intro (fun h => ?_) (fun h => ?_) <;> (first | (with_reducible have hd := of_decide_eq_true h) | (with_reducible have hd := of_decide_eq_false h) | skip) <;> conv => whnf) | (refine And.intro ?_ ?_; (focus (first | exact trivial | (first | exact se23 | exact se22 | assumption) | (refine chainI ?_; (first | (first | exact se23 | exact se22 | assumption) | decide | omega | (refine And.intro ?_ ?_ <;> first | omega | (simp; omega)) | (simp only [IntKind.wrap_i64]; first | omega | (refine And.intro ?_ ?_ <;> omega)))) | (intro _; (first | (first | exact se23 | exact se22 | assumption) | decide | omega | (refine And.intro ?_ ?_ <;> first | omega | (simp; omega)) | (simp only [IntKind.wrap_i64]; first | omega | (refine And.intro ?_ ?_ <;> omega)))) | (intro _ _; (first | (first | exact se23 | exact se22 | assumption) | decide | omega | (refine And.intro ?_ ?_ <;> first | omega | (simp; omega)) | (simp only [IntKind.wrap_i64]; first | omega | (refine And.intro ?_ ?_ <;> omega)))) | (first | (first | exact se23 | exact se22 | assumption) | decide | omega | (refine And.intro ?_ ?_ <;> first | omega | (simp; omega)) | (simp only [IntKind.wrap_i64]; first | omega | (refine And.intro ?_ ?_ <;> omega))) | ((conv => whnf); intros; (try simp only [decide_eq_true_eq, decide_eq_false_iff_not, Bool.and_eq_true, Bool.or_eq_true, Bool.and_eq_false_imp, Bool.or_eq_false_iff, Bool.not_eq_true', Bool.not_eq_false', beq_iff_eq, bne_iff_ne, ne_eq] at *); (first | (first | exact se23 | exact se22 | assumption) | decide | omega | (refine And.intro ?_ ?_ <;> first | omega | (simp; omega)) | (simp only [IntKind.wrap_i64]; first | omega | (refine And.intro ?_ ?_ <;> omega)))))); conv => whnf))
  all_goals exact Le.of_eq (by unfold chk; simp only; rw [h]; rfl)
def chkR (p : Ty) : Bool := if (decide (p.1 < 0) || decide (p.1 > 5) || decide (p.2 < 0) || decide (p.2 > 3)) then false else (p.2 == 0 || decide (p.1 > 3))
theorem a10 (k o : Int) : ACall Try.prog gl 10 [.ag [.v (.int .i64 k), .v (.int .i64 o)]] [] (boolA (chkR (k, o))) := by
  refine acall_of_vc htb hmix (f := 10) rfl rfl rfl (by kernel_rfl) rfl rfl ?_
  conv => whnf
  repeat' (first | (refine And.intro (fun h => ?_) (fun h => ?_) <;> (first | (with_reducible have hd := of_decide_eq_true h) | (with_reducible have hd := of_decide_eq_false h) | skip) <;> conv => whnf) | (refine And.intro ?_ ?_; (focus (first | exact trivial | (first | exact se23 | exact se22 | assumption) | (refine chainI ?_; (first | (first | exact se23 | exact se22 | assumption) | decide | omega | (refine And.intro ?_ ?_ <;> first | omega | (simp; omega)) | (simp only [IntKind.wrap_i64]; first | omega | (refine And.intro ?_ ?_ <;> omega)))) | (intro _; (first | (first | exact se23 | exact se22 | assumption) | decide | omega | (refine And.intro ?_ ?_ <;> first | omega | (simp; omega)) | (simp only [IntKind.wrap_i64]; first | omega | (refine And.intro ?_ ?_ <;> omega)))) | (intro _ _; (first | (first | exact se23 | exact se22 | assumption) | decide | omega | (refine And.intro ?_ ?_ <;> first | omega | (simp; omega)) | (simp only [IntKind.wrap_i64]; first | omega | (refine And.intro ?_ ?_ <;> omega)))) | (first | (first | exact se23 | exact se22 | assumption) | decide | omega | (refine And.intro ?_ ?_ <;> first | omega | (simp; omega)) | (simp only [IntKind.wrap_i64]; first | omega | (refine And.intro ?_ ?_ <;> omega))) | ((conv => whnf); intros; (try simp only [decide_eq_true_eq, decide_eq_false_iff_not, Bool.and_eq_true, Bool.or_eq_true, Bool.and_eq_false_imp, Bool.or_eq_false_iff, Bool.not_eq_true', Bool.not_eq_false', beq_iff_eq, bne_iff_ne, ne_eq] at *); (first | (first | exact se23 | exact se22 | assumption) | decide | omega | (refine And.intro ?_ ?_ <;> first | omega | (simp; omega)) | (simp only [IntKind.wrap_i64]; first | omega | (refine And.intro ?_ ?_ <;> omega)))))); conv => whnf))
  all_goals exact Le.of_eq (by unfold chkR; simp only; rw [h]; rfl)
def errc (p : Ty) : Int := if chk p then 0 else 1
def wi (a b : Ty) : Bool := if (errc a != 0 || errc b != 0) then false else (b.1 == 0 && b.2 == 0 || a.1 == b.1 && a.2 == b.2 || a.1 == b.1 && b.2 == 0)
theorem a11 (k o k' o' : Int) : ACall Try.prog gl 11 [.ag [.v (.int .i64 k), .v (.int .i64 o)], .ag [.v (.int .i64 k'), .v (.int .i64 o')]] [] (boolA (wi (k, o) (k', o'))) := by
  refine acall_of_vc htb hmix (f := 11) rfl rfl rfl (by kernel_rfl) rfl rfl ?_
  conv => whnf
  repeat' (first | (refine Exists.intro _ (And.intro (chainI (a9 _ _)) ?_); conv => whnf) | (refine And.intro (fun h => ?_) (fun h => ?_) <;> (first | (with_reducible have hd := of_decide_eq_true h) | (with_reducible have hd := of_decide_eq_false h) | skip) <;> conv => whnf) | (refine And.intro ?_ ?_; (focus (first | exact trivial | (first | exact se23 | exact se22 | assumption) | (refine chainI ?_; (first | (first | exact se23 | exact se22 | assumption) | decide | omega | (refine And.intro ?_ ?_ <;> first | omega | (simp; omega)) | (simp only [IntKind.wrap_i64]; first | omega | (refine And.intro ?_ ?_ <;> omega)))) | (intro _; (first | (first | exact se23 | exact se22 | assumption) | decide | omega | (refine And.intro ?_ ?_ <;> first | omega | (simp; omega)) | (simp only [IntKind.wrap_i64]; first | omega | (refine And.intro ?_ ?_ <;> omega)))) | (intro _ _; (first | (first | exact se23 | exact se22 | assumption) | decide | omega | (refine And.intro ?_ ?_ <;> first | omega | (simp; omega)) | (simp only [IntKind.wrap_i64]; first | omega | (refine And.intro ?_ ?_ <;> omega)))) | (first | (first | exact se23 | exact se22 | assumption) | decide | omega | (refine And.intro ?_ ?_ <;> first | omega | (simp; omega)) | (simp only [IntKind.wrap_i64]; first | omega | (refine And.intro ?_ ?_ <;> omega))) | ((conv => whnf); intros; (try simp only [decide_eq_true_eq, decide_eq_false_iff_not, Bool.and_eq_true, Bool.or_eq_true, Bool.and_eq_false_imp, Bool.or_eq_false_iff, Bool.not_eq_true', Bool.not_eq_false', beq_iff_eq, bne_iff_ne, ne_eq] at *); (first | (first | exact se23 | exact se22 | assumption) | decide | omega | (refine And.intro ?_ ?_ <;> first | omega | (simp; omega)) | (simp only [IntKind.wrap_i64]; first | omega | (refine And.intro ?_ ?_ <;> omega)))))); conv => whnf))
  all_goals exact Le.of_eq (by unfold wi errc; simp only; rw [h]; rfl)
def wiR (a b : Ty) : Bool := if (!chkR a || !chkR b) then false else (b.1 == 0 || a.1 == b.1 && a.2 == b.2 || a.1 == b.1 && b.2 == 0)
theorem a12 (k o k' o' : Int) : ACall Try.prog gl 12 [.ag [.v (.int .i64 k), .v (.int .i64 o)], .ag [.v (.int .i64 k'), .v (.int .i64 o')]] [] (boolA (wiR (k, o) (k', o'))) := by
  refine acall_of_vc htb hmix (f := 12) rfl rfl rfl (by kernel_rfl) rfl rfl ?_
  conv => whnf
  repeat' (first | (refine Exists.intro _ (And.intro (chainI (a10 _ _)) ?_); conv => whnf) | (refine And.intro (fun h => ?_) (fun h => ?_) <;> (first | (with_reducible have hd := of_decide_eq_true h) | (with_reducible have hd := of_decide_eq_false h) | skip) <;> conv => whnf) | (refine And.intro ?_ ?_; (focus (first | exact trivial | (first | exact se23 | exact se22 | assumption) | (refine chainI ?_; (first | (first | exact se23 | exact se22 | assumption) | decide | omega | (refine And.intro ?_ ?_ <;> first | omega | (simp; omega)) | (simp only [IntKind.wrap_i64]; first | omega | (refine And.intro ?_ ?_ <;> omega)))) | (intro _; (first | (first | exact se23 | exact se22 | assumption) | decide | omega | (refine And.intro ?_ ?_ <;> first | omega | (simp; omega)) | (simp only [IntKind.wrap_i64]; first | omega | (refine And.intro ?_ ?_ <;> omega)))) | (intro _ _; (first | (first | exact se23 | exact se22 | assumption) | decide | omega | (refine And.intro ?_ ?_ <;> first | omega | (simp; omega)) | (simp only [IntKind.wrap_i64]; first | omega | (refine And.intro ?_ ?_ <;> omega)))) | (first | (first | exact se23 | exact se22 | assumption) | decide | omega | (refine And.intro ?_ ?_ <;> first | omega | (simp; omega)) | (simp only [IntKind.wrap_i64]; first | omega | (refine And.intro ?_ ?_ <;> omega))) | ((conv => whnf); intros; (try simp only [decide_eq_true_eq, decide_eq_false_iff_not, Bool.and_eq_true, Bool.or_eq_true, Bool.and_eq_false_imp, Bool.or_eq_false_iff, Bool.not_eq_true', Bool.not_eq_false', beq_iff_eq, bne_iff_ne, ne_eq] at *); (first | (first | exact se23 | exact se22 | assumption) | decide | omega | (refine And.intro ?_ ?_ <;> first | omega | (simp; omega)) | (simp only [IntKind.wrap_i64]; first | omega | (refine And.intro ?_ ?_ <;> omega)))))); conv => whnf))
  all_goals exact Le.of_eq (by unfold wiR; simp only; rw [h]; rfl)
def jo (a b : Ty) : Ty := if (errc a != 0 || errc b != 0 || a.1 != b.1) then (0, 0) else if (a.1 == b.1 && a.2 == b.2) then a else (a.1, 0)
theorem a13 (k o k' o' : Int) : ACall Try.prog gl 13 [.ag [.v (.int .i64 k), .v (.int .i64 o)], .ag [.v (.int .i64 k'), .v (.int .i64 o')]] [] (tA (jo (k, o) (k', o'))) := by
  refine acall_of_vc htb hmix (f := 13) rfl rfl rfl (by kernel_rfl) rfl rfl ?_
  conv => whnf
  repeat' (first | (refine Exists.intro _ (And.intro (chainI (a9 _ _)) ?_); conv => whnf) | (refine And.intro (fun h => ?_) (fun h => ?_) <;> (first | (with_reducible have hd := of_decide_eq_true h) | (with_reducible have hd := of_decide_eq_false h) | skip) <;> conv => whnf) | (refine And.intro ?_ ?_; (focus (first | exact trivial | (first | exact se23 | exact se22 | assumption) | (refine chainI ?_; (first | (first | exact se23 | exact se22 | assumption) | decide | omega | (refine And.intro ?_ ?_ <;> first | omega | (simp; omega)) | (simp only [IntKind.wrap_i64]; first | omega | (refine And.intro ?_ ?_ <;> omega)))) | (intro _; (first | (first | exact se23 | exact se22 | assumption) | decide | omega | (refine And.intro ?_ ?_ <;> first | omega | (simp; omega)) | (simp only [IntKind.wrap_i64]; first | omega | (refine And.intro ?_ ?_ <;> omega)))) | (intro _ _; (first | (first | exact se23 | exact se22 | assumption) | decide | omega | (refine And.intro ?_ ?_ <;> first | omega | (simp; omega)) | (simp only [IntKind.wrap_i64]; first | omega | (refine And.intro ?_ ?_ <;> omega)))) | (first | (first | exact se23 | exact se22 | assumption) | decide | omega | (refine And.intro ?_ ?_ <;> first | omega | (simp; omega)) | (simp only [IntKind.wrap_i64]; first | omega | (refine And.intro ?_ ?_ <;> omega))) | ((conv => whnf); intros; (try simp only [decide_eq_true_eq, decide_eq_false_iff_not, Bool.and_eq_true, Bool.or_eq_true, Bool.and_eq_false_imp, Bool.or_eq_false_iff, Bool.not_eq_true', Bool.not_eq_false', beq_iff_eq, bne_iff_ne, ne_eq] at *); (first | (first | exact se23 | exact se22 | assumption) | decide | omega | (refine And.intro ?_ ?_ <;> first | omega | (simp; omega)) | (simp only [IntKind.wrap_i64]; first | omega | (refine And.intro ?_ ?_ <;> omega)))))); conv => whnf))
  all_goals exact Le.of_eq (by unfold jo errc; simp only [*, Bool.false_eq_true, ↓reduceIte]; rfl)
def mee (a b : Ty) : Ty × Bool := if wi a b then (a, true) else if wi b a then (b, true) else ((0, 0), false)
def tB (p : Ty × Bool) : AV := .tup [tA p.1, boolA p.2]
theorem a7 (k o k' o' : Int) : ACall Try.prog gl 7 [.ag [.v (.int .i64 k), .v (.int .i64 o)], .ag [.v (.int .i64 k'), .v (.int .i64 o')]] [] (tB (mee (k, o) (k', o'))) := by
  refine acall_of_vc htb hmix (f := 7) rfl rfl rfl (by kernel_rfl) rfl rfl ?_
  conv => whnf
  repeat' (first | (refine Exists.intro _ (And.intro (chainI (a11 _ _ _ _)) ?_); conv => whnf) | (refine And.intro (fun h => ?_) (fun h => ?_) <;> (first | (with_reducible have hd := of_decide_eq_true h) | (with_reducible have hd := of_decide_eq_false h) | skip) <;> conv => whnf) | (refine And.intro ?_ ?_; (focus (first | exact trivial | (first | exact se23 | exact se22 | assumption) | (refine chainI ?_; (first | (first | exact se23 | exact se22 | assumption) | decide | omega | (refine And.intro ?_ ?_ <;> first | omega | (simp; omega)) | (simp only [IntKind.wrap_i64]; first | omega | (refine And.intro ?_ ?_ <;> omega)))) | (intro _; (first | (first | exact se23 | exact se22 | assumption) | decide | omega | (refine And.intro ?_ ?_ <;> first | omega | (simp; omega)) | (simp only [IntKind.wrap_i64]; first | omega | (refine And.intro ?_ ?_ <;> omega)))) | (intro _ _; (first | (first | exact se23 | exact se22 | assumption) | decide | omega | (refine And.intro ?_ ?_ <;> first | omega | (simp; omega)) | (simp only [IntKind.wrap_i64]; first | omega | (refine And.intro ?_ ?_ <;> omega)))) | (first | (first | exact se23 | exact se22 | assumption) | decide | omega | (refine And.intro ?_ ?_ <;> first | omega | (simp; omega)) | (simp only [IntKind.wrap_i64]; first | omega | (refine And.intro ?_ ?_ <;> omega))) | ((conv => whnf); intros; (try simp only [decide_eq_true_eq, decide_eq_false_iff_not, Bool.and_eq_true, Bool.or_eq_true, Bool.and_eq_false_imp, Bool.or_eq_false_iff, Bool.not_eq_true', Bool.not_eq_false', beq_iff_eq, bne_iff_ne, ne_eq] at *); (first | (first | exact se23 | exact se22 | assumption) | decide | omega | (refine And.intro ?_ ?_ <;> first | omega | (simp; omega)) | (simp only [IntKind.wrap_i64]; first | omega | (refine And.intro ?_ ?_ <;> omega)))))); conv => whnf))
  all_goals exact Le.of_eq (by unfold mee; simp only [*, Bool.false_eq_true, ↓reduceIte]; rfl)
/-- all types that may be -/
def tys : List Ty := [(0, 0), (1, 0), (2, 0), (3, 0), (4, 0), (4, 1), (4, 2), (4, 3), (5, 0), (5, 1), (5, 2), (5, 3)]
abbrev rowT (l : List Ty) : Nat → List C := rowE cT (0, 0) l
def qt (c : Nat) : Ty := (IntKind.i64.wrap ((c : Int).tdiv 8), (c : Int).tmod 8)
def allL : Nat → List Ty
  | 0 => []
  | c + 1 => if chkR (qt c) then allL c ++ [qt c] else allL c
theorem allL_le : ∀ c, (allL c).length ≤ c
  | 0 => Nat.le_refl _
  | c + 1 => by
    have := allL_le c
    unfold allL
    split <;> simp <;> omega
theorem allL_48 : allL 48 = tys := by decide
theorem a18 : ACall Try.prog gl 18 [] [] (.c (.sl false 2 12 (rowT tys))) := by
  refine acall_of_vc htb hmix (f := 18) rfl rfl rfl (by kernel_rfl) rfl rfl ?_
  conv => whnf
  refine ⟨Nat, (· ≤ 48), fun c => ([(1, .own 1 2 0 (allL c).length), (2, intA .i64 c)], [.dead, .row 2 (allL c).length (rowT (allL c))]), fun c => 48 - c, ⟨0, by omega, ?_⟩, fun c (hc : c ≤ 48) => ⟨rfl, ?_⟩⟩
  · exact ⟨⟨⟨Le.refl _, rfl⟩, ⟨Le.refl _, rfl⟩, trivial⟩, ⟨trivial, ⟨rfl, rfl, fun i hi => absurd hi (Nat.not_lt_zero _)⟩, trivial⟩, trivial⟩
  · have hl := allL_le c
    have hb : ((allL c).length + 1) * (tb 23).bytes ≤ 140737488355328 := by show ((allL c).length + 1) * 16 ≤ _; omega
    conv => whnf
    repeat' (first | (refine Exists.intro _ (And.intro (chainI (a10 _ _)) ?_); conv => whnf) | (refine And.intro (fun h => ?_) (fun h => ?_) <;> (first | (with_reducible have hd := of_decide_eq_true h) | (with_reducible have hd := of_decide_eq_false h) | skip) <;> conv => whnf) | (refine And.intro ?_ ?_; (focus (first | exact trivial | (first | exact se23 | exact se22 | assumption) | (refine chainI ?_; (first | (first | exact se23 | exact se22 | assumption) | decide | omega | (refine And.intro ?_ ?_ <;> first | omega | (simp; omega)) | (simp only [IntKind.wrap_i64]; first | omega | (refine And.intro ?_ ?_ <;> omega)))) | (intro _; (first | (first | exact se23 | exact se22 | assumption) | decide | omega | (refine And.intro ?_ ?_ <;> first | omega | (simp; omega)) | (simp only [IntKind.wrap_i64]; first | omega | (refine And.intro ?_ ?_ <;> omega)))) | (intro _ _; (first | (first | exact se23 | exact se22 | assumption) | decide | omega | (refine And.intro ?_ ?_ <;> first | omega | (simp; omega)) | (simp only [IntKind.wrap_i64]; first | omega | (refine And.intro ?_ ?_ <;> omega)))) | (first | (first | exact se23 | exact se22 | assumption) | decide | omega | (refine And.intro ?_ ?_ <;> first | omega | (simp; omega)) | (simp only [IntKind.wrap_i64]; first | omega | (refine And.intro ?_ ?_ <;> omega))) | ((conv => whnf); intros; (try simp only [decide_eq_true_eq, decide_eq_false_iff_not, Bool.and_eq_true, Bool.or_eq_true, Bool.and_eq_false_imp, Bool.or_eq_false_iff, Bool.not_eq_true', Bool.not_eq_false', beq_iff_eq, bne_iff_ne, ne_eq] at *); (first | (first | exact se23 | exact se22 | assumption) | decide | omega | (refine And.intro ?_ ?_ <;> first | omega | (simp; omega)) | (simp only [IntKind.wrap_i64]; first | omega | (refine And.intro ?_ ?_ <;> omega)))))); conv => whnf))
    · have h1 : c < 48 := by omega
      have e : allL (c + 1) = allL c ++ [qt c] := if_pos h
      refine ⟨c + 1, h1, ⟨⟨⟨leOwn (by simp [e]), rfl⟩, ⟨leI (by rw [wrap64] <;> omega), rfl⟩, trivial⟩, ⟨trivial, ⟨rfl, by simp [e], fun i hi => LeCs.of_eq ?_⟩, trivial⟩, trivial⟩, by show 48 - (c + 1) < 48 - c; omega⟩
      rw [e] at hi ⊢
      exact rowE_snoc (enc := cT) (x := qt c) (d := ((0 : Int), (0 : Int))) _ _ rfl i (by simpa using hi)
    · have h1 : c < 48 := by omega
      have e : allL (c + 1) = allL c := if_neg (by rw [show chkR (qt c) = false from h]; simp)
      refine ⟨c + 1, h1, ⟨⟨⟨leOwn (by simp [e]), rfl⟩, ⟨leI (by rw [wrap64] <;> omega), rfl⟩, trivial⟩, ⟨trivial, ⟨rfl, by simp [e], fun i hi => LeCs.of_eq (by rw [e])⟩, trivial⟩, trivial⟩, by show 48 - (c + 1) < 48 - c; omega⟩
    · obtain rfl : c = 48 := by omega
      exact leSl rfl fun i hi => by rw [Nat.zero_add, allL_48]

def inn (k : Nat) : Nat → List Ty
  | 0 => []
  | o + 1 => if chk (k, o) then inn k o ++ [((k : Int), (o : Int))] else inn k o
def outr : Nat → List Ty
  | 0 => []
  | k + 1 => outr k ++ inn k 4
theorem inn_le (k : Nat) : ∀ c, (inn k c).length ≤ c
  | 0 => Nat.le_refl _
  | c + 1 => by
    have := inn_le k c
    unfold inn
    split <;> simp <;> omega
theorem outr_le : ∀ c, (outr c).length ≤ 4 * c
  | 0 => Nat.le_refl _
  | c + 1 => by
    have := outr_le c
    have := inn_le c 4
    simp only [outr, List.length_append]
    omega
theorem outr_6 : outr 6 = tys := by decide
theorem a19 : ACall Try.prog gl 19 [] [] (.c (.sl false 2 12 (rowT tys))) := by
  refine acall_of_vc htb hmix (f := 19) rfl rfl rfl (by kernel_rfl) rfl rfl ?_
  conv => whnf
  refine ⟨Nat, (· ≤ 6), fun c => ([(1, .own 1 2 0 (outr c).length), (5, intA .i64 c)], [.dead, .row 2 (outr c).length (rowT (outr c))]), fun c => 6 - c, ⟨0, by omega, ?_⟩, fun c (hc : c ≤ 6) => ⟨rfl, ?_⟩⟩
  · exact ⟨⟨⟨Le.refl _, rfl⟩, ⟨Le.refl _, rfl⟩, trivial⟩, ⟨trivial, ⟨rfl, rfl, fun i hi => absurd hi (Nat.not_lt_zero _)⟩, trivial⟩, trivial⟩
  · have hl := outr_le c
    conv => whnf
    repeat' (first | (refine And.intro (fun h => ?_) (fun h => ?_) <;> (first | (with_reducible have hd := of_decide_eq_true h) | (with_reducible have hd := of_decide_eq_false h) | skip) <;> conv => whnf) | (refine And.intro ?_ ?_; (focus (first | exact trivial | (first | exact se23 | exact se22 | assumption) | (refine chainI ?_; (first | (first | exact se23 | exact se22 | assumption) | decide | omega | (refine And.intro ?_ ?_ <;> first | omega | (simp; omega)) | (simp only [IntKind.wrap_i64]; first | omega | (refine And.intro ?_ ?_ <;> omega)))) | (intro _; (first | (first | exact se23 | exact se22 | assumption) | decide | omega | (refine And.intro ?_ ?_ <;> first | omega | (simp; omega)) | (simp only [IntKind.wrap_i64]; first | omega | (refine And.intro ?_ ?_ <;> omega)))) | (intro _ _; (first | (first | exact se23 | exact se22 | assumption) | decide | omega | (refine And.intro ?_ ?_ <;> first | omega | (simp; omega)) | (simp only [IntKind.wrap_i64]; first | omega | (refine And.intro ?_ ?_ <;> omega)))) | (first | (first | exact se23 | exact se22 | assumption) | decide | omega | (refine And.intro ?_ ?_ <;> first | omega | (simp; omega)) | (simp only [IntKind.wrap_i64]; first | omega | (refine And.intro ?_ ?_ <;> omega))) | ((conv => whnf); intros; (try simp only [decide_eq_true_eq, decide_eq_false_iff_not, Bool.and_eq_true, Bool.or_eq_true, Bool.and_eq_false_imp, Bool.or_eq_false_iff, Bool.not_eq_true', Bool.not_eq_false', beq_iff_eq, bne_iff_ne, ne_eq] at *); (first | (first | exact se23 | exact se22 | assumption) | decide | omega | (refine And.intro ?_ ?_ <;> first | omega | (simp; omega)) | (simp only [IntKind.wrap_i64]; first | omega | (refine And.intro ?_ ?_ <;> omega)))))); conv => whnf))
    · have h1 : c < 6 := by omega
      refine ⟨Nat, (· ≤ 4), fun o => ([(1, .own 1 2 0 (outr c ++ inn c o).length), (5, intA .i64 c), (2, intA .i64 c), (8, intA .i64 o)], [.dead, .row 2 (outr c ++ inn c o).length (rowT (outr c ++ inn c o))]), fun o => 4 - o, ⟨0, by omega, ?_⟩, fun o (ho : o ≤ 4) => ⟨rfl, ?_⟩⟩
      · refine ⟨⟨⟨leOwn (by simp [inn]), rfl⟩, ⟨Le.refl _, rfl⟩, ⟨Le.refl _, rfl⟩, ⟨Le.refl _, rfl⟩, trivial⟩, ⟨trivial, ⟨rfl, by simp [inn], fun i hi => LeCs.of_eq (by simp [inn])⟩, trivial⟩, trivial⟩
      · have hl2 := inn_le c o
        have hb : ((outr c ++ inn c o).length + 1) * (tb 23).bytes ≤ 140737488355328 := by show ((outr c ++ inn c o).length + 1) * 16 ≤ _; simp only [List.length_append]; omega
        conv => whnf
        repeat' (first | (refine Exists.intro _ (And.intro (chainI (a9 _ _)) ?_); conv => whnf) | (refine And.intro (fun h => ?_) (fun h => ?_) <;> (first | (with_reducible have hd := of_decide_eq_true h) | (with_reducible have hd := of_decide_eq_false h) | skip) <;> conv => whnf) | (refine And.intro ?_ ?_; (focus (first | exact trivial | (first | exact se23 | exact se22 | assumption) | (refine chainI ?_; (first | (first | exact se23 | exact se22 | assumption) | decide | omega | (refine And.intro ?_ ?_ <;> first | omega | (simp; omega)) | (simp only [IntKind.wrap_i64]; first | omega | (refine And.intro ?_ ?_ <;> omega)))) | (intro _; (first | (first | exact se23 | exact se22 | assumption) | decide | omega | (refine And.intro ?_ ?_ <;> first | omega | (simp; omega)) | (simp only [IntKind.wrap_i64]; first | omega | (refine And.intro ?_ ?_ <;> omega)))) | (intro _ _; (first | (first | exact se23 | exact se22 | assumption) | decide | omega | (refine And.intro ?_ ?_ <;> first | omega | (simp; omega)) | (simp only [IntKind.wrap_i64]; first | omega | (refine And.intro ?_ ?_ <;> omega)))) | (first | (first | exact se23 | exact se22 | assumption) | decide | omega | (refine And.intro ?_ ?_ <;> first | omega | (simp; omega)) | (simp only [IntKind.wrap_i64]; first | omega | (refine And.intro ?_ ?_ <;> omega))) | ((conv => whnf); intros; (try simp only [decide_eq_true_eq, decide_eq_false_iff_not, Bool.and_eq_true, Bool.or_eq_true, Bool.and_eq_false_imp, Bool.or_eq_false_iff, Bool.not_eq_true', Bool.not_eq_false', beq_iff_eq, bne_iff_ne, ne_eq] at *); (first | (first | exact se23 | exact se22 | assumption) | decide | omega | (refine And.intro ?_ ?_ <;> first | omega | (simp; omega)) | (simp only [IntKind.wrap_i64]; first | omega | (refine And.intro ?_ ?_ <;> omega)))))); conv => whnf))
        · have h2 : o < 4 := by omega
          have e : outr c ++ inn c (o + 1) = outr c ++ inn c o ++ [((c : Int), (o : Int))] := by
            rw [List.append_assoc]; congr 1
            have h : ((if chk ((c : Int), (o : Int)) = true then (0 : Int) else 1) == 0) = true := h
            exact if_pos (by revert h; cases chk ((c : Int), (o : Int)) <;> simp)
          refine ⟨o + 1, h2, ⟨⟨⟨leOwn (by simp only [e]; simp [Nat.add_assoc]), rfl⟩, ⟨Le.refl _, rfl⟩, ⟨Le.refl _, rfl⟩, ⟨leI (by rw [wrap64] <;> omega), rfl⟩, trivial⟩, ⟨trivial, ⟨rfl, by simp only [e]; simp [Nat.add_assoc], fun i hi => LeCs.of_eq ?_⟩, trivial⟩, trivial⟩, by show 4 - (o + 1) < 4 - o; omega⟩
          rw [e] at hi ⊢
          exact rowE_snoc (enc := cT) (x := ((c : Int), (o : Int))) (d := ((0 : Int), (0 : Int))) _ _ rfl i (by simpa [Nat.add_assoc] using hi)
        · have h2 : o < 4 := by omega
          have e : outr c ++ inn c (o + 1) = outr c ++ inn c o := by
            congr 1
            have h : ((if chk ((c : Int), (o : Int)) = true then (0 : Int) else 1) == 0) = false := h
            exact if_neg (by revert h; cases chk ((c : Int), (o : Int)) <;> simp)
          refine ⟨o + 1, h2, ⟨⟨⟨leOwn (by simp only [e]), rfl⟩, ⟨Le.refl _, rfl⟩, ⟨Le.refl _, rfl⟩, ⟨leI (by rw [wrap64] <;> omega), rfl⟩, trivial⟩, ⟨trivial, ⟨rfl, by simp only [e], fun i hi => LeCs.of_eq (by rw [e])⟩, trivial⟩, trivial⟩, by show 4 - (o + 1) < 4 - o; omega⟩
        · obtain rfl : o = 4 := by omega
          refine ⟨c + 1, h1, ⟨⟨⟨Le.refl _, rfl⟩, ⟨leI (by rw [wrap64] <;> omega), rfl⟩, trivial⟩, ⟨trivial, ⟨rfl, rfl, fun i hi => LeCs.refl _⟩, trivial⟩, trivial⟩, by show 6 - (c + 1) < 6 - c; omega⟩
    · obtain rfl : c = 6 := by omega
      exact leSl rfl fun i hi => by rw [Nat.zero_add, outr_6]
def ty (i : Nat) : Ty := tys.getD i (0, 0)
def lstJ (a b : Ty) (i : Nat) : Nat → Bool
  | 0 => true
  | k + 1 => if (wiR a (ty k) && wiR b (ty k) && !wiR (ty i) (ty k)) then false else lstJ a b i k
def joG (a b : Ty) : Nat → Nat → Ty
  | 0, _ => (0, 0)
  | n + 1, i => if (!wiR a (ty i) || !wiR b (ty i)) then joG a b n (i + 1) else if lstJ a b i 12 then ty i else joG a b n (i + 1)
def joR (a b : Ty) : Ty := joG a b 12 0
theorem a14 (k o k' o' : Int) : ACall Try.prog gl 14 [.ag [.v (.int .i64 k), .v (.int .i64 o)], .ag [.v (.int .i64 k'), .v (.int .i64 o')]] [] (tA (joR (k, o) (k', o'))) := by
  refine acall_of_vc htb hmix (f := 14) rfl rfl rfl (by kernel_rfl) rfl rfl ?_
  conv => whnf
  repeat' (first | (refine Exists.intro _ (And.intro (chainI (a18)) ?_); conv => whnf) | (refine And.intro (fun h => ?_) (fun h => ?_) <;> (first | (with_reducible have hd := of_decide_eq_true h) | (with_reducible have hd := of_decide_eq_false h) | skip) <;> conv => whnf) | (refine And.intro ?_ ?_; (focus (first | exact trivial | (first | exact se23 | exact se22 | assumption) | (refine chainI ?_; (first | (first | exact se23 | exact se22 | assumption) | decide | omega | (refine And.intro ?_ ?_ <;> first | omega | (simp; omega)) | (simp only [IntKind.wrap_i64]; first | omega | (refine And.intro ?_ ?_ <;> omega)))) | (intro _; (first | (first | exact se23 | exact se22 | assumption) | decide | omega | (refine And.intro ?_ ?_ <;> first | omega | (simp; omega)) | (simp only [IntKind.wrap_i64]; first | omega | (refine And.intro ?_ ?_ <;> omega)))) | (intro _ _; (first | (first | exact se23 | exact se22 | assumption) | decide | omega | (refine And.intro ?_ ?_ <;> first | omega | (simp; omega)) | (simp only [IntKind.wrap_i64]; first | omega | (refine And.intro ?_ ?_ <;> omega)))) | (first | (first | exact se23 | exact se22 | assumption) | decide | omega | (refine And.intro ?_ ?_ <;> first | omega | (simp; omega)) | (simp only [IntKind.wrap_i64]; first | omega | (refine And.intro ?_ ?_ <;> omega))) | ((conv => whnf); intros; (try simp only [decide_eq_true_eq, decide_eq_false_iff_not, Bool.and_eq_true, Bool.or_eq_true, Bool.and_eq_false_imp, Bool.or_eq_false_iff, Bool.not_eq_true', Bool.not_eq_false', beq_iff_eq, bne_iff_ne, ne_eq] at *); (first | (first | exact se23 | exact se22 | assumption) | decide | omega | (refine And.intro ?_ ?_ <;> first | omega | (simp; omega)) | (simp only [IntKind.wrap_i64]; first | omega | (refine And.intro ?_ ?_ <;> omega)))))); conv => whnf))
  refine ⟨Nat, fun i => i ≤ 12 ∧ joG (k, o) (k', o') (12 - i) i = joR (k, o) (k', o'), fun i => ([(2, .ptr 0 0), (3, .ptr 1 0), (4, .ptr 2 0), (5, .c (.sl false 2 12 (rowT tys))), (6, intA .i64 i)],
    [.box [.c (.v (.int .i64 k)), .c (.v (.int .i64 o))], .box [.c (.v (.int .i64 k')), .c (.v (.int .i64 o'))], .box [.c (.v (.int .i64 0)), .c (.v (.int .i64 0))]]), fun i => 12 - i, ⟨0, ⟨by omega, rfl⟩, ?_⟩, fun i ⟨hi, hj⟩ => ⟨rfl, ?_⟩⟩
  · exact ⟨⟨⟨Le.refl _, rfl⟩, ⟨Le.refl _, rfl⟩, ⟨Le.refl _, rfl⟩, ⟨Le.refl _, rfl⟩, ⟨Le.refl _, rfl⟩, trivial⟩, ⟨⟨⟨Le.refl _, rfl⟩, ⟨Le.refl _, rfl⟩, trivial⟩, ⟨⟨Le.refl _, rfl⟩, ⟨Le.refl _, rfl⟩, trivial⟩, ⟨⟨Le.refl _, rfl⟩, ⟨Le.refl _, rfl⟩, trivial⟩, trivial⟩, trivial⟩
  · conv => whnf
    repeat' (first | (refine Exists.intro _ (And.intro (chainI (a12 _ _ _ _)) ?_); conv => whnf) | (refine And.intro (fun h => ?_) (fun h => ?_) <;> (first | (with_reducible have hd := of_decide_eq_true h) | (with_reducible have hd := of_decide_eq_false h) | skip) <;> conv => whnf) | (refine And.intro ?_ ?_; (focus (first | exact trivial | (first | exact se23 | exact se22 | assumption) | (refine chainI ?_; (first | (first | exact se23 | exact se22 | assumption) | decide | omega | (refine And.intro ?_ ?_ <;> first | omega | (simp; omega)) | (simp only [IntKind.wrap_i64]; first | omega | (refine And.intro ?_ ?_ <;> omega)))) | (intro _; (first | (first | exact se23 | exact se22 | assumption) | decide | omega | (refine And.intro ?_ ?_ <;> first | omega | (simp; omega)) | (simp only [IntKind.wrap_i64]; first | omega | (refine And.intro ?_ ?_ <;> omega)))) | (intro _ _; (first | (first | exact se23 | exact se22 | assumption) | decide | omega | (refine And.intro ?_ ?_ <;> first | omega | (simp; omega)) | (simp only [IntKind.wrap_i64]; first | omega | (refine And.intro ?_ ?_ <;> omega)))) | (first | (first | exact se23 | exact se22 | assumption) | decide | omega | (refine And.intro ?_ ?_ <;> first | omega | (simp; omega)) | (simp only [IntKind.wrap_i64]; first | omega | (refine And.intro ?_ ?_ <;> omega))) | ((conv => whnf); intros; (try simp only [decide_eq_true_eq, decide_eq_false_iff_not, Bool.and_eq_true, Bool.or_eq_true, Bool.and_eq_false_imp, Bool.or_eq_false_iff, Bool.not_eq_true', Bool.not_eq_false', beq_iff_eq, bne_iff_ne, ne_eq] at *); (first | (first | exact se23 | exact se22 | assumption) | decide | omega | (refine And.intro ?_ ?_ <;> first | omega | (simp; omega)) | (simp only [IntKind.wrap_i64]; first | omega | (refine And.intro ?_ ?_ <;> omega)))))); conv => whnf))
    · have h : (!wiR (k, o) (ty i) || !wiR (k', o') (ty i)) = true := h
      have h1 : i < 12 := by omega
      refine ⟨i + 1, ⟨h1, ?_⟩, ⟨⟨⟨Le.refl _, rfl⟩, ⟨Le.refl _, rfl⟩, ⟨Le.refl _, rfl⟩, ⟨Le.refl _, rfl⟩, ⟨leI (by rw [wrap64] <;> omega), rfl⟩, trivial⟩, ⟨⟨⟨Le.refl _, rfl⟩, ⟨Le.refl _, rfl⟩, trivial⟩, ⟨⟨Le.refl _, rfl⟩, ⟨Le.refl _, rfl⟩, trivial⟩, ⟨⟨Le.refl _, rfl⟩, ⟨Le.refl _, rfl⟩, trivial⟩, trivial⟩, trivial⟩, by show 12 - (i + 1) < 12 - i; omega⟩
      rw [← hj, show 12 - i = (12 - (i + 1)) + 1 from by omega, joG, if_pos h]
    · have hA : (!wiR (k, o) (ty i) || !wiR (k', o') (ty i)) = false := h
      have h1 : i < 12 := by omega
      refine ⟨Nat, (· ≤ 12), fun c => ([(2, .ptr 0 0), (3, .ptr 1 0), (4, .ptr 2 0), (5, .c (.sl false 2 12 (rowT tys))), (6, intA .i64 i), (7, boolA (lstJ (k, o) (k', o') i c)), (8, intA .i64 c)],
        [.box [.c (.v (.int .i64 k)), .c (.v (.int .i64 o))], .box [.c (.v (.int .i64 k')), .c (.v (.int .i64 o'))], .box [.c (.v (.int .i64 0)), .c (.v (.int .i64 0))]]), fun i => 12 - i, ⟨0, by omega, ?_⟩, fun c (hc : c ≤ 12) => ⟨rfl, ?_⟩⟩
      · exact ⟨⟨⟨Le.refl _, rfl⟩, ⟨Le.refl _, rfl⟩, ⟨Le.refl _, rfl⟩, ⟨Le.refl _, rfl⟩, ⟨Le.refl _, rfl⟩, ⟨Le.refl _, rfl⟩, ⟨Le.refl _, rfl⟩, trivial⟩, ⟨⟨⟨Le.refl _, rfl⟩, ⟨Le.refl _, rfl⟩, trivial⟩, ⟨⟨Le.refl _, rfl⟩, ⟨Le.refl _, rfl⟩, trivial⟩, ⟨⟨Le.refl _, rfl⟩, ⟨Le.refl _, rfl⟩, trivial⟩, trivial⟩, trivial⟩
      · conv => whnf
        repeat' (first | (refine Exists.intro _ (And.intro (chainI (a12 _ _ _ _)) ?_); conv => whnf) | (refine And.intro (fun h => ?_) (fun h => ?_) <;> (first | (with_reducible have hd := of_decide_eq_true h) | (with_reducible have hd := of_decide_eq_false h) | skip) <;> conv => whnf) | (refine And.intro ?_ ?_; (focus (first | exact trivial | (first | exact se23 | exact se22 | assumption) | (refine chainI ?_; (first | (first | exact se23 | exact se22 | assumption) | decide | omega | (refine And.intro ?_ ?_ <;> first | omega | (simp; omega)) | (simp only [IntKind.wrap_i64]; first | omega | (refine And.intro ?_ ?_ <;> omega)))) | (intro _; (first | (first | exact se23 | exact se22 | assumption) | decide | omega | (refine And.intro ?_ ?_ <;> first | omega | (simp; omega)) | (simp only [IntKind.wrap_i64]; first | omega | (refine And.intro ?_ ?_ <;> omega)))) | (intro _ _; (first | (first | exact se23 | exact se22 | assumption) | decide | omega | (refine And.intro ?_ ?_ <;> first | omega | (simp; omega)) | (simp only [IntKind.wrap_i64]; first | omega | (refine And.intro ?_ ?_ <;> omega)))) | (first | (first | exact se23 | exact se22 | assumption) | decide | omega | (refine And.intro ?_ ?_ <;> first | omega | (simp; omega)) | (simp only [IntKind.wrap_i64]; first | omega | (refine And.intro ?_ ?_ <;> omega))) | ((conv => whnf); intros; (try simp only [decide_eq_true_eq, decide_eq_false_iff_not, Bool.and_eq_true, Bool.or_eq_true, Bool.and_eq_false_imp, Bool.or_eq_false_iff, Bool.not_eq_true', Bool.not_eq_false', beq_iff_eq, bne_iff_ne, ne_eq] at *); (first | (first | exact se23 | exact se22 | assumption) | decide | omega | (refine And.intro ?_ ?_ <;> first | omega | (simp; omega)) | (simp only [IntKind.wrap_i64]; first | omega | (refine And.intro ?_ ?_ <;> omega)))))); conv => whnf))
        · have h : (wiR (k, o) (ty c) && wiR (k', o') (ty c) && !wiR (ty i) (ty c)) = true := h
          refine ⟨c + 1, by show c + 1 ≤ 12; omega, ⟨⟨⟨Le.refl _, rfl⟩, ⟨Le.refl _, rfl⟩, ⟨Le.refl _, rfl⟩, ⟨Le.refl _, rfl⟩, ⟨Le.refl _, rfl⟩, ⟨leB (by simp only [lstJ]; rw [if_pos h]), rfl⟩, ⟨leI (by rw [wrap64] <;> omega), rfl⟩, trivial⟩, ⟨⟨⟨Le.refl _, rfl⟩, ⟨Le.refl _, rfl⟩, trivial⟩, ⟨⟨Le.refl _, rfl⟩, ⟨Le.refl _, rfl⟩, trivial⟩, ⟨⟨Le.refl _, rfl⟩, ⟨Le.refl _, rfl⟩, trivial⟩, trivial⟩, trivial⟩, by show 12 - (c + 1) < 12 - c; omega⟩
        · have h : (wiR (k, o) (ty c) && wiR (k', o') (ty c) && !wiR (ty i) (ty c)) = false := h
          refine ⟨c + 1, by show c + 1 ≤ 12; omega, ⟨⟨⟨Le.refl _, rfl⟩, ⟨Le.refl _, rfl⟩, ⟨Le.refl _, rfl⟩, ⟨Le.refl _, rfl⟩, ⟨Le.refl _, rfl⟩, ⟨leB (by simp only [lstJ]; rw [h]; rfl), rfl⟩, ⟨leI (by rw [wrap64] <;> omega), rfl⟩, trivial⟩, ⟨⟨⟨Le.refl _, rfl⟩, ⟨Le.refl _, rfl⟩, trivial⟩, ⟨⟨Le.refl _, rfl⟩, ⟨Le.refl _, rfl⟩, trivial⟩, ⟨⟨Le.refl _, rfl⟩, ⟨Le.refl _, rfl⟩, trivial⟩, trivial⟩, trivial⟩, by show 12 - (c + 1) < 12 - c; omega⟩
        · obtain rfl : c = 12 := by omega
          refine Le.of_eq ?_
          rw [← hj, show 12 - i = (12 - (i + 1)) + 1 from by omega, joG, if_neg (by rw [hA]; simp), if_pos h]
          rfl
        · obtain rfl : c = 12 := by omega
          refine ⟨i + 1, ⟨h1, ?_⟩, ⟨⟨⟨Le.refl _, rfl⟩, ⟨Le.refl _, rfl⟩, ⟨Le.refl _, rfl⟩, ⟨Le.refl _, rfl⟩, ⟨leI (by rw [wrap64] <;> omega), rfl⟩, trivial⟩, ⟨⟨⟨Le.refl _, rfl⟩, ⟨Le.refl _, rfl⟩, trivial⟩, ⟨⟨Le.refl _, rfl⟩, ⟨Le.refl _, rfl⟩, trivial⟩, ⟨⟨Le.refl _, rfl⟩, ⟨Le.refl _, rfl⟩, trivial⟩, trivial⟩, trivial⟩, by show 12 - (i + 1) < 12 - i; omega⟩
          rw [← hj, show 12 - i = (12 - (i + 1)) + 1 from by omega, joG, if_neg (by rw [hA]; simp), if_neg (by rw [h]; simp)]
    · obtain rfl : i = 12 := by omega
      exact Le.of_eq (by rw [← hj]; rfl)
def lstM (a b : Ty) (i : Nat) : Nat → Bool
  | 0 => true
  | k + 1 => if (wiR (ty k) a && wiR (ty k) b && !wiR (ty k) (ty i)) then false else lstM a b i k
def meG (a b : Ty) : Nat → Nat → Ty × Bool
  | 0, _ => ((0, 0), false)
  | n + 1, i => if (!wiR (ty i) a || !wiR (ty i) b) then meG a b n (i + 1) else if lstM a b i 12 then (ty i, true) else meG a b n (i + 1)
def meR (a b : Ty) : Ty × Bool := meG a b 12 0
theorem a8 (k o k' o' : Int) : ACall Try.prog gl 8 [.ag [.v (.int .i64 k), .v (.int .i64 o)], .ag [.v (.int .i64 k'), .v (.int .i64 o')]] [] (tB (meR (k, o) (k', o'))) := by
  refine acall_of_vc htb hmix (f := 8) rfl rfl rfl (by kernel_rfl) rfl rfl ?_
  conv => whnf
  repeat' (first | (refine Exists.intro _ (And.intro (chainI (a18)) ?_); conv => whnf) | (refine And.intro (fun h => ?_) (fun h => ?_) <;> (first | (with_reducible have hd := of_decide_eq_true h) | (with_reducible have hd := of_decide_eq_false h) | skip) <;> conv => whnf) | (refine And.intro ?_ ?_; (focus (first | exact trivial | (first | exact se23 | exact se22 | assumption) | (refine chainI ?_; (first | (first | exact se23 | exact se22 | assumption) | decide | omega | (refine And.intro ?_ ?_ <;> first | omega | (simp; omega)) | (simp only [IntKind.wrap_i64]; first | omega | (refine And.intro ?_ ?_ <;> omega)))) | (intro _; (first | (first | exact se23 | exact se22 | assumption) | decide | omega | (refine And.intro ?_ ?_ <;> first | omega | (simp; omega)) | (simp only [IntKind.wrap_i64]; first | omega | (refine And.intro ?_ ?_ <;> omega)))) | (intro _ _; (first | (first | exact se23 | exact se22 | assumption) | decide | omega | (refine And.intro ?_ ?_ <;> first | omega | (simp; omega)) | (simp only [IntKind.wrap_i64]; first | omega | (refine And.intro ?_ ?_ <;> omega)))) | (first | (first | exact se23 | exact se22 | assumption) | decide | omega | (refine And.intro ?_ ?_ <;> first | omega | (simp; omega)) | (simp only [IntKind.wrap_i64]; first | omega | (refine And.intro ?_ ?_ <;> omega))) | ((conv => whnf); intros; (try simp only [decide_eq_true_eq, decide_eq_false_iff_not, Bool.and_eq_true, Bool.or_eq_true, Bool.and_eq_false_imp, Bool.or_eq_false_iff, Bool.not_eq_true', Bool.not_eq_false', beq_iff_eq, bne_iff_ne, ne_eq] at *); (first | (first | exact se23 | exact se22 | assumption) | decide | omega | (refine And.intro ?_ ?_ <;> first | omega | (simp; omega)) | (simp only [IntKind.wrap_i64]; first | omega | (refine And.intro ?_ ?_ <;> omega)))))); conv => whnf))
  refine ⟨Nat, fun i => i ≤ 12 ∧ meG (k, o) (k', o') (12 - i) i = meR (k, o) (k', o'), fun i => ([(2, .ptr 0 0), (3, .ptr 1 0), (4, .ptr 2 0), (6, .c (.sl false 2 12 (rowT tys))), (7, intA .i64 i)],
    [.box [.c (.v (.int .i64 k)), .c (.v (.int .i64 o))], .box [.c (.v (.int .i64 k')), .c (.v (.int .i64 o'))], .box [.c (.v (.int .i64 0)), .c (.v (.int .i64 0))]]), fun i => 12 - i, ⟨0, ⟨by omega, rfl⟩, ?_⟩, fun i ⟨hi, hj⟩ => ⟨rfl, ?_⟩⟩
  · exact ⟨⟨⟨Le.refl _, rfl⟩, ⟨Le.refl _, rfl⟩, ⟨Le.refl _, rfl⟩, ⟨Le.refl _, rfl⟩, ⟨Le.refl _, rfl⟩, trivial⟩, ⟨⟨⟨Le.refl _, rfl⟩, ⟨Le.refl _, rfl⟩, trivial⟩, ⟨⟨Le.refl _, rfl⟩, ⟨Le.refl _, rfl⟩, trivial⟩, ⟨⟨Le.refl _, rfl⟩, ⟨Le.refl _, rfl⟩, trivial⟩, trivial⟩, trivial⟩
  · conv => whnf
    repeat' (first | (refine Exists.intro _ (And.intro (chainI (a12 _ _ _ _)) ?_); conv => whnf) | (refine And.intro (fun h => ?_) (fun h => ?_) <;> (first | (with_reducible have hd := of_decide_eq_true h) | (with_reducible have hd := of_decide_eq_false h) | skip) <;> conv => whnf) | (refine And.intro ?_ ?_; (focus (first | exact trivial | (first | exact se23 | exact se22 | assumption) | (refine chainI ?_; (first | (first | exact se23 | exact se22 | assumption) | decide | omega | (refine And.intro ?_ ?_ <;> first | omega | (simp; omega)) | (simp only [IntKind.wrap_i64]; first | omega | (refine And.intro ?_ ?_ <;> omega)))) | (intro _; (first | (first | exact se23 | exact se22 | assumption) | decide | omega | (refine And.intro ?_ ?_ <;> first | omega | (simp; omega)) | (simp only [IntKind.wrap_i64]; first | omega | (refine And.intro ?_ ?_ <;> omega)))) | (intro _ _; (first | (first | exact se23 | exact se22 | assumption) | decide | omega | (refine And.intro ?_ ?_ <;> first | omega | (simp; omega)) | (simp only [IntKind.wrap_i64]; first | omega | (refine And.intro ?_ ?_ <;> omega)))) | (first | (first | exact se23 | exact se22 | assumption) | decide | omega | (refine And.intro ?_ ?_ <;> first | omega | (simp; omega)) | (simp only [IntKind.wrap_i64]; first | omega | (refine And.intro ?_ ?_ <;> omega))) | ((conv => whnf); intros; (try simp only [decide_eq_true_eq, decide_eq_false_iff_not, Bool.and_eq_true, Bool.or_eq_true, Bool.and_eq_false_imp, Bool.or_eq_false_iff, Bool.not_eq_true', Bool.not_eq_false', beq_iff_eq, bne_iff_ne, ne_eq] at *); (first | (first | exact se23 | exact se22 | assumption) | decide | omega | (refine And.intro ?_ ?_ <;> first | omega | (simp; omega)) | (simp only [IntKind.wrap_i64]; first | omega | (refine And.intro ?_ ?_ <;> omega)))))); conv => whnf))
    · have h : (!wiR (ty i) (k, o) || !wiR (ty i) (k', o')) = true := h
      have h1 : i < 12 := by omega
      refine ⟨i + 1, ⟨h1, ?_⟩, ⟨⟨⟨Le.refl _, rfl⟩, ⟨Le.refl _, rfl⟩, ⟨Le.refl _, rfl⟩, ⟨Le.refl _, rfl⟩, ⟨leI (by rw [wrap64] <;> omega), rfl⟩, trivial⟩, ⟨⟨⟨Le.refl _, rfl⟩, ⟨Le.refl _, rfl⟩, trivial⟩, ⟨⟨Le.refl _, rfl⟩, ⟨Le.refl _, rfl⟩, trivial⟩, ⟨⟨Le.refl _, rfl⟩, ⟨Le.refl _, rfl⟩, trivial⟩, trivial⟩, trivial⟩, by show 12 - (i + 1) < 12 - i; omega⟩
      rw [← hj, show 12 - i = (12 - (i + 1)) + 1 from by omega, meG, if_pos h]
    · have hA : (!wiR (ty i) (k, o) || !wiR (ty i) (k', o')) = false := h
      have h1 : i < 12 := by omega
      refine ⟨Nat, (· ≤ 12), fun c => ([(2, .ptr 0 0), (3, .ptr 1 0), (4, .ptr 2 0), (6, .c (.sl false 2 12 (rowT tys))), (7, intA .i64 i), (8, boolA (lstM (k, o) (k', o') i c)), (9, intA .i64 c)],
        [.box [.c (.v (.int .i64 k)), .c (.v (.int .i64 o))], .box [.c (.v (.int .i64 k')), .c (.v (.int .i64 o'))], .box [.c (.v (.int .i64 0)), .c (.v (.int .i64 0))]]), fun i => 12 - i, ⟨0, by omega, ?_⟩, fun c (hc : c ≤ 12) => ⟨rfl, ?_⟩⟩
      · exact ⟨⟨⟨Le.refl _, rfl⟩, ⟨Le.refl _, rfl⟩, ⟨Le.refl _, rfl⟩, ⟨Le.refl _, rfl⟩, ⟨Le.refl _, rfl⟩, ⟨Le.refl _, rfl⟩, ⟨Le.refl _, rfl⟩, trivial⟩, ⟨⟨⟨Le.refl _, rfl⟩, ⟨Le.refl _, rfl⟩, trivial⟩, ⟨⟨Le.refl _, rfl⟩, ⟨Le.refl _, rfl⟩, trivial⟩, ⟨⟨Le.refl _, rfl⟩, ⟨Le.refl _, rfl⟩, trivial⟩, trivial⟩, trivial⟩
      · conv => whnf
        repeat' (first | (refine Exists.intro _ (And.intro (chainI (a12 _ _ _ _)) ?_); conv => whnf) | (refine And.intro (fun h => ?_) (fun h => ?_) <;> (first | (with_reducible have hd := of_decide_eq_true h) | (with_reducible have hd := of_decide_eq_false h) | skip) <;> conv => whnf) | (refine And.intro ?_ ?_; (focus (first | exact trivial | (first | exact se23 | exact se22 | assumption) | (refine chainI ?_; (first | (first | exact se23 | exact se22 | assumption) | decide | omega | (refine And.intro ?_ ?_ <;> first | omega | (simp; omega)) | (simp only [IntKind.wrap_i64]; first | omega | (refine And.intro ?_ ?_ <;> omega)))) | (intro _; (first | (first | exact se23 | exact se22 | assumption) | decide | omega | (refine And.intro ?_ ?_ <;> first | omega | (simp; omega)) | (simp only [IntKind.wrap_i64]; first | omega | (refine And.intro ?_ ?_ <;> omega)))) | (intro _ _; (first | (first | exact se23 | exact se22 | assumption) | decide | omega | (refine And.intro ?_ ?_ <;> first | omega | (simp; omega)) | (simp only [IntKind.wrap_i64]; first | omega | (refine And.intro ?_ ?_ <;> omega)))) | (first | (first | exact se23 | exact se22 | assumption) | decide | omega | (refine And.intro ?_ ?_ <;> first | omega | (simp; omega)) | (simp only [IntKind.wrap_i64]; first | omega | (refine And.intro ?_ ?_ <;> omega))) | ((conv => whnf); intros; (try simp only [decide_eq_true_eq, decide_eq_false_iff_not, Bool.and_eq_true, Bool.or_eq_true, Bool.and_eq_false_imp, Bool.or_eq_false_iff, Bool.not_eq_true', Bool.not_eq_false', beq_iff_eq, bne_iff_ne, ne_eq] at *); (first | (first | exact se23 | exact se22 | assumption) | decide | omega | (refine And.intro ?_ ?_ <;> first | omega | (simp; omega)) | (simp only [IntKind.wrap_i64]; first | omega | (refine And.intro ?_ ?_ <;> omega)))))); conv => whnf))
        · have h : (wiR (ty c) (k, o) && wiR (ty c) (k', o') && !wiR (ty c) (ty i)) = true := h
          refine ⟨c + 1, by show c + 1 ≤ 12; omega, ⟨⟨⟨Le.refl _, rfl⟩, ⟨Le.refl _, rfl⟩, ⟨Le.refl _, rfl⟩, ⟨Le.refl _, rfl⟩, ⟨Le.refl _, rfl⟩, ⟨leB (by simp only [lstM]; rw [if_pos h]), rfl⟩, ⟨leI (by rw [wrap64] <;> omega), rfl⟩, trivial⟩, ⟨⟨⟨Le.refl _, rfl⟩, ⟨Le.refl _, rfl⟩, trivial⟩, ⟨⟨Le.refl _, rfl⟩, ⟨Le.refl _, rfl⟩, trivial⟩, ⟨⟨Le.refl _, rfl⟩, ⟨Le.refl _, rfl⟩, trivial⟩, trivial⟩, trivial⟩, by show 12 - (c + 1) < 12 - c; omega⟩
        · have h : (wiR (ty c) (k, o) && wiR (ty c) (k', o') && !wiR (ty c) (ty i)) = false := h
          refine ⟨c + 1, by show c + 1 ≤ 12; omega, ⟨⟨⟨Le.refl _, rfl⟩, ⟨Le.refl _, rfl⟩, ⟨Le.refl _, rfl⟩, ⟨Le.refl _, rfl⟩, ⟨Le.refl _, rfl⟩, ⟨leB (by simp only [lstM]; rw [h]; rfl), rfl⟩, ⟨leI (by rw [wrap64] <;> omega), rfl⟩, trivial⟩, ⟨⟨⟨Le.refl _, rfl⟩, ⟨Le.refl _, rfl⟩, trivial⟩, ⟨⟨Le.refl _, rfl⟩, ⟨Le.refl _, rfl⟩, trivial⟩, ⟨⟨Le.refl _, rfl⟩, ⟨Le.refl _, rfl⟩, trivial⟩, trivial⟩, trivial⟩, by show 12 - (c + 1) < 12 - c; omega⟩
        · obtain rfl : c = 12 := by omega
          refine Le.of_eq ?_
          rw [← hj, show 12 - i = (12 - (i + 1)) + 1 from by omega, meG, if_neg (by rw [hA]; simp), if_pos h]
          rfl
        · obtain rfl : c = 12 := by omega
          refine ⟨i + 1, ⟨h1, ?_⟩, ⟨⟨⟨Le.refl _, rfl⟩, ⟨Le.refl _, rfl⟩, ⟨Le.refl _, rfl⟩, ⟨Le.refl _, rfl⟩, ⟨leI (by rw [wrap64] <;> omega), rfl⟩, trivial⟩, ⟨⟨⟨Le.refl _, rfl⟩, ⟨Le.refl _, rfl⟩, trivial⟩, ⟨⟨Le.refl _, rfl⟩, ⟨Le.refl _, rfl⟩, trivial⟩, ⟨⟨Le.refl _, rfl⟩, ⟨Le.refl _, rfl⟩, trivial⟩, trivial⟩, trivial⟩, by show 12 - (i + 1) < 12 - i; omega⟩
          rw [← hj, show 12 - i = (12 - (i + 1)) + 1 from by omega, meG, if_neg (by rw [hA]; simp), if_neg (by rw [h]; simp)]
    · obtain rfl : i = 12 := by omega
      exact Le.of_eq (by rw [← hj]; rfl)
end Go.Proofs.Yteajajplgjacdaa
