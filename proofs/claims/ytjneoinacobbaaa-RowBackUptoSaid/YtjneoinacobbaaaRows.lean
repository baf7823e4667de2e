/-
  No cell of these rows narrows 'for every input' (looked for: loops, veiled, ifaces, maps, wideKeys, modest, calm, conditions, laid).
  DERIVED. THE GIVEN ROWS OF THIS SEAT. 5 by the template 'for every input the law returns true; each argument reads behind the call as it read before'; 0 by the template 'total and deterministic' (their statements: YtjneoinacobbaaaTotals.lean).
  GIVEN WITH THE SEED: the statements are not yours to turn. If you find one false, say at which input.
  Laid BY PROGRAM, IN A SANDBOX (cutbox-rows.mjs): the forced cells as the released guide's own fill.sh prints them over the translation f2922386c5e96794… (all of the seat's roots in one cut). By AI agents, Wed Nov 11 2026. No macro, syntax, notation, axiom, sorry.
-/
import Derived.Test.YtjneoinacobbaaaChecked
import GoSem.Claim
import GoSem.ClaimJoined
import GoSem.ClaimMapViews
import Derived.JoinedTies
import Derived.KernelRfl
namespace Go.Proofs.Ytjneoinacobbaaa
/- THE CELL 'sum', in the pinned program and in every row, IS THE sha256 OF THE DUMP (.gsa) THAT YtjneoinacobbaaaProg.lean LOADS. Nothing in Lean hashes anything: it is a label: what it is worth is what the hold of that sum in a sandbox is worth. -/
noncomputable def Try.pinned : Pinned := { name := "ytjneoinacobbaaa", sum := "f2922386c5e96794198a31712ca4f034ceced352faba019408ba04e53047a5f1", checked := Try.checked }
namespace Rows
def none {H : Type} : Left H := { results := [], args := [] }

/-- 'exchequerlaw03.RowWrites': WHATEVER THE INPUT: true; the input reads as it did. -/
def rowWritesSpec : ChangeSpec := { name := "rowWrites", fn := fun _ => fun
  | [d1, d2] => { results := [.lit (.bool true)], args := [d1, d2] }
  | _ => none }
def rowWritesRow : OpenClaim := { program := "ytjneoinacobbaaa", sum := "f2922386c5e96794198a31712ca4f034ceced352faba019408ba04e53047a5f1", func := "exchequer/exchequerlaw03.RowWrites", spec := "rowWrites", apart := false }
def RowWritesSaid : Prop := rowWritesRow.holds Try.pinned (OpenSpec.ofChange rowWritesSpec)

/-- ITS FALSE NEIGHBOUR: 'it returns false'. Refute it at one input. -/
def rowWritesWrong : ChangeSpec := { name := "rowWrites", fn := fun _ => fun
  | [d1, d2] => { results := [.lit (.bool false)], args := [d1, d2] }
  | _ => none }
def RowWritesWrongFalsely : Prop := rowWritesRow.holds Try.pinned (OpenSpec.ofChange rowWritesWrong)

/-- 'exchequerlaw03.RowCut': WHATEVER THE INPUT: true; the input reads as it did. -/
def rowCutSpec : ChangeSpec := { name := "rowCut", fn := fun _ => fun
  | [d1, d2, d3] => { results := [.lit (.bool true)], args := [d1, d2, d3] }
  | _ => none }
def rowCutRow : OpenClaim := { program := "ytjneoinacobbaaa", sum := "f2922386c5e96794198a31712ca4f034ceced352faba019408ba04e53047a5f1", func := "exchequer/exchequerlaw03.RowCut", spec := "rowCut", apart := false }
def RowCutSaid : Prop := rowCutRow.holds Try.pinned (OpenSpec.ofChange rowCutSpec)

/-- ITS FALSE NEIGHBOUR: 'it returns false'. Refute it at one input. -/
def rowCutWrong : ChangeSpec := { name := "rowCut", fn := fun _ => fun
  | [d1, d2, d3] => { results := [.lit (.bool false)], args := [d1, d2, d3] }
  | _ => none }
def RowCutWrongFalsely : Prop := rowCutRow.holds Try.pinned (OpenSpec.ofChange rowCutWrong)

/-- 'exchequerlaw03.RowApart': WHATEVER THE INPUT: true; the input reads as it did. -/
def rowApartSpec : ChangeSpec := { name := "rowApart", fn := fun _ => fun
  | [d1, d2] => { results := [.lit (.bool true)], args := [d1, d2] }
  | _ => none }
def rowApartRow : OpenClaim := { program := "ytjneoinacobbaaa", sum := "f2922386c5e96794198a31712ca4f034ceced352faba019408ba04e53047a5f1", func := "exchequer/exchequerlaw03.RowApart", spec := "rowApart", apart := false }
def RowApartSaid : Prop := rowApartRow.holds Try.pinned (OpenSpec.ofChange rowApartSpec)

/-- ITS FALSE NEIGHBOUR: 'it returns false'. Refute it at one input. -/
def rowApartWrong : ChangeSpec := { name := "rowApart", fn := fun _ => fun
  | [d1, d2] => { results := [.lit (.bool false)], args := [d1, d2] }
  | _ => none }
def RowApartWrongFalsely : Prop := rowApartRow.holds Try.pinned (OpenSpec.ofChange rowApartWrong)

/-- 'exchequerlaw03.RowMany': WHATEVER THE INPUT: true; the input reads as it did. -/
def rowManySpec : ChangeSpec := { name := "rowMany", fn := fun _ => fun
  | [d1, d2] => { results := [.lit (.bool true)], args := [d1, d2] }
  | _ => none }
def rowManyRow : OpenClaim := { program := "ytjneoinacobbaaa", sum := "f2922386c5e96794198a31712ca4f034ceced352faba019408ba04e53047a5f1", func := "exchequer/exchequerlaw03.RowMany", spec := "rowMany", apart := false }
def RowManySaid : Prop := rowManyRow.holds Try.pinned (OpenSpec.ofChange rowManySpec)

/-- ITS FALSE NEIGHBOUR: 'it returns false'. Refute it at one input. -/
def rowManyWrong : ChangeSpec := { name := "rowMany", fn := fun _ => fun
  | [d1, d2] => { results := [.lit (.bool false)], args := [d1, d2] }
  | _ => none }
def RowManyWrongFalsely : Prop := rowManyRow.holds Try.pinned (OpenSpec.ofChange rowManyWrong)

/-- 'exchequerlaw03.RowBack': WHATEVER THE INPUT: true; the input reads as it did. -/
def rowBackSpec : ChangeSpec := { name := "rowBack", fn := fun _ => fun
  | [d1, d2] => { results := [.lit (.bool true)], args := [d1, d2] }
  | _ => none }
def rowBackRow : OpenClaim := { program := "ytjneoinacobbaaa", sum := "f2922386c5e96794198a31712ca4f034ceced352faba019408ba04e53047a5f1", func := "exchequer/exchequerlaw03.RowBack", spec := "rowBack", apart := false }
def RowBackSaid : Prop := rowBackRow.holds Try.pinned (OpenSpec.ofChange rowBackSpec)

/-- ITS FALSE NEIGHBOUR: 'it returns false'. Refute it at one input. -/
def rowBackWrong : ChangeSpec := { name := "rowBack", fn := fun _ => fun
  | [d1, d2] => { results := [.lit (.bool false)], args := [d1, d2] }
  | _ => none }
def RowBackWrongFalsely : Prop := rowBackRow.holds Try.pinned (OpenSpec.ofChange rowBackWrong)

/- THE SECOND FORM. 'bulk': how many values and letters a reading holds, each counted each time it is reached (what is shared counts as often as it is met; a slice's spare places count too). A statement '..UptoSaid' is the law's where the arguments, and the package variables that the reading takes, are together of bulk at most 1048576: NARROWER than '..Said'. Prove '..Said' where nothing that the law and all that it calls make is longer than what came in: it says more and counts as full. Else prove '..UptoSaid'. A law counts once. -/
mutual
def uptoBulk {H : Type} : DataW H → Nat
  | .lit (.string bytes) => bytes.length + 1
  | .lit _ => 1
  | .nil => 1
  | .ptr d => uptoBulk d + 1
  | .slice elems spare => uptoBulkAll elems + uptoBulkAll spare + 1
  | .agg parts => uptoBulkAll parts + 1
  | .iface _ d => uptoBulk d + 1
  | .map entries => uptoBulkEntries entries + 1
  | .held _ => 1
def uptoBulkAll {H : Type} : List (DataW H) → Nat
  | [] => 0
  | d :: r => uptoBulk d + uptoBulkAll r
def uptoBulkEntries {H : Type} : List (Lit × DataW H) → Nat
  | [] => 0
  | x :: r => uptoBulkEntry x + uptoBulkEntries r
def uptoBulkEntry {H : Type} : Lit × DataW H → Nat
  | (.string bytes, d) => bytes.length + uptoBulk d + 1
  | (_, d) => uptoBulk d + 1
 end
def uptoSmall : (H : Type) → List (DataW H) → Bool := fun _ ds => decide (uptoBulkAll ds ≤ 1048576)
def OpenSpec.upto (s : _root_.Go.ChangeSpec) : _root_.Go.OpenSpec := { _root_.Go.OpenSpec.ofChange s with cond := some uptoSmall }

/-- 'exchequerlaw03.RowWrites', WHERE WHAT IT READS IS OF BULK AT MOST 1048576: true; the input reads as it did. -/
def rowWritesUptoRow : OpenClaim := { program := "ytjneoinacobbaaa", sum := "f2922386c5e96794198a31712ca4f034ceced352faba019408ba04e53047a5f1", func := "exchequer/exchequerlaw03.RowWrites", spec := "rowWrites", apart := false, narrowed := true }
def RowWritesUptoSaid : Prop := rowWritesUptoRow.holds Try.pinned (OpenSpec.upto rowWritesSpec)

/-- 'exchequerlaw03.RowCut', WHERE WHAT IT READS IS OF BULK AT MOST 1048576: true; the input reads as it did. -/
def rowCutUptoRow : OpenClaim := { program := "ytjneoinacobbaaa", sum := "f2922386c5e96794198a31712ca4f034ceced352faba019408ba04e53047a5f1", func := "exchequer/exchequerlaw03.RowCut", spec := "rowCut", apart := false, narrowed := true }
def RowCutUptoSaid : Prop := rowCutUptoRow.holds Try.pinned (OpenSpec.upto rowCutSpec)

/-- 'exchequerlaw03.RowApart', WHERE WHAT IT READS IS OF BULK AT MOST 1048576: true; the input reads as it did. -/
def rowApartUptoRow : OpenClaim := { program := "ytjneoinacobbaaa", sum := "f2922386c5e96794198a31712ca4f034ceced352faba019408ba04e53047a5f1", func := "exchequer/exchequerlaw03.RowApart", spec := "rowApart", apart := false, narrowed := true }
def RowApartUptoSaid : Prop := rowApartUptoRow.holds Try.pinned (OpenSpec.upto rowApartSpec)

/-- 'exchequerlaw03.RowMany', WHERE WHAT IT READS IS OF BULK AT MOST 1048576: true; the input reads as it did. -/
def rowManyUptoRow : OpenClaim := { program := "ytjneoinacobbaaa", sum := "f2922386c5e96794198a31712ca4f034ceced352faba019408ba04e53047a5f1", func := "exchequer/exchequerlaw03.RowMany", spec := "rowMany", apart := false, narrowed := true }
def RowManyUptoSaid : Prop := rowManyUptoRow.holds Try.pinned (OpenSpec.upto rowManySpec)

/-- 'exchequerlaw03.RowBack', WHERE WHAT IT READS IS OF BULK AT MOST 1048576: true; the input reads as it did. -/
def rowBackUptoRow : OpenClaim := { program := "ytjneoinacobbaaa", sum := "f2922386c5e96794198a31712ca4f034ceced352faba019408ba04e53047a5f1", func := "exchequer/exchequerlaw03.RowBack", spec := "rowBack", apart := false, narrowed := true }
def RowBackUptoSaid : Prop := rowBackUptoRow.holds Try.pinned (OpenSpec.upto rowBackSpec)

end Rows
end Go.Proofs.Ytjneoinacobbaaa
