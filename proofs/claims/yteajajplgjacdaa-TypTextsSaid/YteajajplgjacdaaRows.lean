/-
  No cell of these rows narrows 'for every input' (looked for: loops, veiled, ifaces, maps, wideKeys, modest, calm, conditions, laid).
  DERIVED. THE GIVEN ROWS OF THIS SEAT. 4 by the template 'for every input the law returns true; each argument reads behind the call as it read before'; 0 by the template 'total and deterministic' (their statements: YteajajplgjacdaaTotals.lean).
  GIVEN WITH THE SEED: the statements are not yours to turn. If you find one false, say at which input.
  Laid BY PROGRAM, IN A SANDBOX (cutbox-rows.mjs): the forced cells as the released guide's own fill.sh prints them over the translation af587fa009c99987… (all of the seat's roots in one cut). By AI agents, Wed Nov 11 2026. No macro, syntax, notation, axiom, sorry.
-/
import Derived.Test.YteajajplgjacdaaChecked
import GoSem.Claim
import GoSem.ClaimJoined
import GoSem.ClaimMapViews
import Derived.JoinedTies
import Derived.KernelRfl
namespace Go.Proofs.Yteajajplgjacdaa
/- THE CELL 'sum', in the pinned program and in every row, IS THE sha256 OF THE DUMP (.gsa) THAT YteajajplgjacdaaProg.lean LOADS. Nothing in Lean hashes anything: it is a label: what it is worth is what the hold of that sum in a sandbox is worth. -/
noncomputable def Try.pinned : Pinned := { name := "yteajajplgjacdaa", sum := "af587fa009c99987b2444ebef26b79ed47f67bb783360434ba57b993f7769c2e", checked := Try.checked }
namespace Rows
def none {H : Type} : Left H := { results := [], args := [] }

/-- 'suretylaw03.TypOrder': WHATEVER THE INPUT: true; the input reads as it did. -/
def typOrderSpec : ChangeSpec := { name := "typOrder", fn := fun _ => fun
  | [d1, d2] => { results := [.lit (.bool true)], args := [d1, d2] }
  | _ => none }
def typOrderRow : OpenClaim := { program := "yteajajplgjacdaa", sum := "af587fa009c99987b2444ebef26b79ed47f67bb783360434ba57b993f7769c2e", func := "surety/suretylaw03.TypOrder", spec := "typOrder", apart := false }
def TypOrderSaid : Prop := typOrderRow.holds Try.pinned (OpenSpec.ofChange typOrderSpec)

/-- ITS FALSE NEIGHBOUR: 'it returns false'. Refute it at one input. -/
def typOrderWrong : ChangeSpec := { name := "typOrder", fn := fun _ => fun
  | [d1, d2] => { results := [.lit (.bool false)], args := [d1, d2] }
  | _ => none }
def TypOrderWrongFalsely : Prop := typOrderRow.holds Try.pinned (OpenSpec.ofChange typOrderWrong)

/-- 'suretylaw03.TypLaws': WHATEVER THE INPUT: true; the input reads as it did. -/
def typLawsSpec : ChangeSpec := { name := "typLaws", fn := fun _ => fun
  | [d1, d2, d3] => { results := [.lit (.bool true)], args := [d1, d2, d3] }
  | _ => none }
def typLawsRow : OpenClaim := { program := "yteajajplgjacdaa", sum := "af587fa009c99987b2444ebef26b79ed47f67bb783360434ba57b993f7769c2e", func := "surety/suretylaw03.TypLaws", spec := "typLaws", apart := false }
def TypLawsSaid : Prop := typLawsRow.holds Try.pinned (OpenSpec.ofChange typLawsSpec)

/-- ITS FALSE NEIGHBOUR: 'it returns false'. Refute it at one input. -/
def typLawsWrong : ChangeSpec := { name := "typLaws", fn := fun _ => fun
  | [d1, d2, d3] => { results := [.lit (.bool false)], args := [d1, d2, d3] }
  | _ => none }
def TypLawsWrongFalsely : Prop := typLawsRow.holds Try.pinned (OpenSpec.ofChange typLawsWrong)

/-- 'suretylaw03.TypCodes': WHATEVER THE INPUT: true; the input reads as it did. -/
def typCodesSpec : ChangeSpec := { name := "typCodes", fn := fun _ => fun
  | [d1, d2] => { results := [.lit (.bool true)], args := [d1, d2] }
  | _ => none }
def typCodesRow : OpenClaim := { program := "yteajajplgjacdaa", sum := "af587fa009c99987b2444ebef26b79ed47f67bb783360434ba57b993f7769c2e", func := "surety/suretylaw03.TypCodes", spec := "typCodes", apart := false }
def TypCodesSaid : Prop := typCodesRow.holds Try.pinned (OpenSpec.ofChange typCodesSpec)

/-- ITS FALSE NEIGHBOUR: 'it returns false'. Refute it at one input. -/
def typCodesWrong : ChangeSpec := { name := "typCodes", fn := fun _ => fun
  | [d1, d2] => { results := [.lit (.bool false)], args := [d1, d2] }
  | _ => none }
def TypCodesWrongFalsely : Prop := typCodesRow.holds Try.pinned (OpenSpec.ofChange typCodesWrong)

/-- 'suretylaw03.TypTexts': WHATEVER THE INPUT: true; the input reads as it did. -/
def typTextsSpec : ChangeSpec := { name := "typTexts", fn := fun _ => fun
  | [d1, d2] => { results := [.lit (.bool true)], args := [d1, d2] }
  | _ => none }
def typTextsRow : OpenClaim := { program := "yteajajplgjacdaa", sum := "af587fa009c99987b2444ebef26b79ed47f67bb783360434ba57b993f7769c2e", func := "surety/suretylaw03.TypTexts", spec := "typTexts", apart := false }
def TypTextsSaid : Prop := typTextsRow.holds Try.pinned (OpenSpec.ofChange typTextsSpec)

/-- ITS FALSE NEIGHBOUR: 'it returns false'. Refute it at one input. -/
def typTextsWrong : ChangeSpec := { name := "typTexts", fn := fun _ => fun
  | [d1, d2] => { results := [.lit (.bool false)], args := [d1, d2] }
  | _ => none }
def TypTextsWrongFalsely : Prop := typTextsRow.holds Try.pinned (OpenSpec.ofChange typTextsWrong)

/- THE SECOND FORM. 'bulk': how many values and letters a reading holds, each counted each time it is reached (what is shared counts as often as it is met; a slice's spare places count too). A statement '..UptoSaid' is the law's where the arguments, and the package variables that the reading takes, are together of bulk at most 1048576: NARROWER than '..Said'. Prove '..Said' where nothing that the law and all that it calls make is longer than what came in: it says more and counts as full. Else prove '..UptoSaid'. A law counts once. -/
mutual
def uptoBulk {H : Type} : DataW H → Nat
  | .lit (.string bytes) => bytes.length + 1
  | .lit _ => 1
  | .nil => 1
  | .ptr d => uptoBulk d + 1
  | .slice elems spare => uptoBulkAll elems + uptoBulkAll spare + 1
  | .agg parts => uptoBulkAll parts + 1
  | .iface _ d => uptoBulk d + 1
  | .map entries => uptoBulkEntries entries + 1
  | .held _ => 1
def uptoBulkAll {H : Type} : List (DataW H) → Nat
  | [] => 0
  | d :: r => uptoBulk d + uptoBulkAll r
def uptoBulkEntries {H : Type} : List (Lit × DataW H) → Nat
  | [] => 0
  | x :: r => uptoBulkEntry x + uptoBulkEntries r
def uptoBulkEntry {H : Type} : Lit × DataW H → Nat
  | (.string bytes, d) => bytes.length + uptoBulk d + 1
  | (_, d) => uptoBulk d + 1
 end
def uptoSmall : (H : Type) → List (DataW H) → Bool := fun _ ds => decide (uptoBulkAll ds ≤ 1048576)
def OpenSpec.upto (s : _root_.Go.ChangeSpec) : _root_.Go.OpenSpec := { _root_.Go.OpenSpec.ofChange s with cond := some uptoSmall }

/-- 'suretylaw03.TypOrder', WHERE WHAT IT READS IS OF BULK AT MOST 1048576: true; the input reads as it did. -/
def typOrderUptoRow : OpenClaim := { program := "yteajajplgjacdaa", sum := "af587fa009c99987b2444ebef26b79ed47f67bb783360434ba57b993f7769c2e", func := "surety/suretylaw03.TypOrder", spec := "typOrder", apart := false, narrowed := true }
def TypOrderUptoSaid : Prop := typOrderUptoRow.holds Try.pinned (OpenSpec.upto typOrderSpec)

/-- 'suretylaw03.TypLaws', WHERE WHAT IT READS IS OF BULK AT MOST 1048576: true; the input reads as it did. -/
def typLawsUptoRow : OpenClaim := { program := "yteajajplgjacdaa", sum := "af587fa009c99987b2444ebef26b79ed47f67bb783360434ba57b993f7769c2e", func := "surety/suretylaw03.TypLaws", spec := "typLaws", apart := false, narrowed := true }
def TypLawsUptoSaid : Prop := typLawsUptoRow.holds Try.pinned (OpenSpec.upto typLawsSpec)

/-- 'suretylaw03.TypCodes', WHERE WHAT IT READS IS OF BULK AT MOST 1048576: true; the input reads as it did. -/
def typCodesUptoRow : OpenClaim := { program := "yteajajplgjacdaa", sum := "af587fa009c99987b2444ebef26b79ed47f67bb783360434ba57b993f7769c2e", func := "surety/suretylaw03.TypCodes", spec := "typCodes", apart := false, narrowed := true }
def TypCodesUptoSaid : Prop := typCodesUptoRow.holds Try.pinned (OpenSpec.upto typCodesSpec)

/-- 'suretylaw03.TypTexts', WHERE WHAT IT READS IS OF BULK AT MOST 1048576: true; the input reads as it did. -/
def typTextsUptoRow : OpenClaim := { program := "yteajajplgjacdaa", sum := "af587fa009c99987b2444ebef26b79ed47f67bb783360434ba57b993f7769c2e", func := "surety/suretylaw03.TypTexts", spec := "typTexts", apart := false, narrowed := true }
def TypTextsUptoSaid : Prop := typTextsUptoRow.holds Try.pinned (OpenSpec.upto typTextsSpec)

end Rows
end Go.Proofs.Yteajajplgjacdaa
