/-
  No cell of these rows narrows 'for every input' (looked for: loops, veiled, ifaces, maps, wideKeys, modest, calm, conditions, laid).
  DERIVED. THE GIVEN ROWS OF THIS SEAT. 12 by the template 'for every input the law returns true; each argument reads behind the call as it read before'; 0 by the template 'total and deterministic' (their statements: YtlmnkepgljbdiaaTotals.lean).
  GIVEN WITH THE SEED: the statements are not yours to turn. If you find one false, say at which input.
  Laid BY PROGRAM, IN A SANDBOX (cutbox-rows.mjs): the forced cells as the released guide's own fill.sh prints them over the translation fea12772fec3e81c… (all of the seat's roots in one cut). By AI agents, Wed Nov 11 2026. No macro, syntax, notation, axiom, sorry.
-/
import Derived.Test.YtlmnkepgljbdiaaChecked
import GoSem.Claim
import GoSem.ClaimJoined
import GoSem.ClaimMapViews
import Derived.JoinedTies
import Derived.KernelRfl
namespace Go.Proofs.Ytlmnkepgljbdiaa
/- THE CELL 'sum', in the pinned program and in every row, IS THE sha256 OF THE DUMP (.gsa) THAT YtlmnkepgljbdiaaProg.lean LOADS. Nothing in Lean hashes anything: it is a label: what it is worth is what the hold of that sum in a sandbox is worth. -/
noncomputable def Try.pinned : Pinned := { name := "ytlmnkepgljbdiaa", sum := "fea12772fec3e81c9bf746d4e7a17299a3a900b469fa2a4f479957d6975e12e3", checked := Try.checked }
namespace Rows
def none {H : Type} : Left H := { results := [], args := [] }

/-- 'exchequerlaw06.NibsPacks': WHATEVER THE INPUT: true; the input reads as it did. -/
def nibsPacksSpec : ChangeSpec := { name := "nibsPacks", fn := fun _ => fun
  | [d1, d2, d3] => { results := [.lit (.bool true)], args := [d1, d2, d3] }
  | _ => none }
def nibsPacksRow : OpenClaim := { program := "ytlmnkepgljbdiaa", sum := "fea12772fec3e81c9bf746d4e7a17299a3a900b469fa2a4f479957d6975e12e3", func := "exchequer/exchequerlaw06.NibsPacks", spec := "nibsPacks", apart := false }
def NibsPacksSaid : Prop := nibsPacksRow.holds Try.pinned (OpenSpec.ofChange nibsPacksSpec)

/-- ITS FALSE NEIGHBOUR: 'it returns false'. Refute it at one input. -/
def nibsPacksWrong : ChangeSpec := { name := "nibsPacks", fn := fun _ => fun
  | [d1, d2, d3] => { results := [.lit (.bool false)], args := [d1, d2, d3] }
  | _ => none }
def NibsPacksWrongFalsely : Prop := nibsPacksRow.holds Try.pinned (OpenSpec.ofChange nibsPacksWrong)

/-- 'exchequerlaw06.NibsBack': WHATEVER THE INPUT: true; the input reads as it did. -/
def nibsBackSpec : ChangeSpec := { name := "nibsBack", fn := fun _ => fun
  | [d1, d2, d3] => { results := [.lit (.bool true)], args := [d1, d2, d3] }
  | _ => none }
def nibsBackRow : OpenClaim := { program := "ytlmnkepgljbdiaa", sum := "fea12772fec3e81c9bf746d4e7a17299a3a900b469fa2a4f479957d6975e12e3", func := "exchequer/exchequerlaw06.NibsBack", spec := "nibsBack", apart := false }
def NibsBackSaid : Prop := nibsBackRow.holds Try.pinned (OpenSpec.ofChange nibsBackSpec)

/-- ITS FALSE NEIGHBOUR: 'it returns false'. Refute it at one input. -/
def nibsBackWrong : ChangeSpec := { name := "nibsBack", fn := fun _ => fun
  | [d1, d2, d3] => { results := [.lit (.bool false)], args := [d1, d2, d3] }
  | _ => none }
def NibsBackWrongFalsely : Prop := nibsBackRow.holds Try.pinned (OpenSpec.ofChange nibsBackWrong)

/-- 'exchequerlaw06.NibsOrder': WHATEVER THE INPUT: true; the input reads as it did. -/
def nibsOrderSpec : ChangeSpec := { name := "nibsOrder", fn := fun _ => fun
  | [d1, d2] => { results := [.lit (.bool true)], args := [d1, d2] }
  | _ => none }
def nibsOrderRow : OpenClaim := { program := "ytlmnkepgljbdiaa", sum := "fea12772fec3e81c9bf746d4e7a17299a3a900b469fa2a4f479957d6975e12e3", func := "exchequer/exchequerlaw06.NibsOrder", spec := "nibsOrder", apart := false }
def NibsOrderSaid : Prop := nibsOrderRow.holds Try.pinned (OpenSpec.ofChange nibsOrderSpec)

/-- ITS FALSE NEIGHBOUR: 'it returns false'. Refute it at one input. -/
def nibsOrderWrong : ChangeSpec := { name := "nibsOrder", fn := fun _ => fun
  | [d1, d2] => { results := [.lit (.bool false)], args := [d1, d2] }
  | _ => none }
def NibsOrderWrongFalsely : Prop := nibsOrderRow.holds Try.pinned (OpenSpec.ofChange nibsOrderWrong)

/-- 'exchequerlaw06.NibsJoin': WHATEVER THE INPUT: true; the input reads as it did. -/
def nibsJoinSpec : ChangeSpec := { name := "nibsJoin", fn := fun _ => fun
  | [d1, d2, d3] => { results := [.lit (.bool true)], args := [d1, d2, d3] }
  | _ => none }
def nibsJoinRow : OpenClaim := { program := "ytlmnkepgljbdiaa", sum := "fea12772fec3e81c9bf746d4e7a17299a3a900b469fa2a4f479957d6975e12e3", func := "exchequer/exchequerlaw06.NibsJoin", spec := "nibsJoin", apart := false }
def NibsJoinSaid : Prop := nibsJoinRow.holds Try.pinned (OpenSpec.ofChange nibsJoinSpec)

/-- ITS FALSE NEIGHBOUR: 'it returns false'. Refute it at one input. -/
def nibsJoinWrong : ChangeSpec := { name := "nibsJoin", fn := fun _ => fun
  | [d1, d2, d3] => { results := [.lit (.bool false)], args := [d1, d2, d3] }
  | _ => none }
def NibsJoinWrongFalsely : Prop := nibsJoinRow.holds Try.pinned (OpenSpec.ofChange nibsJoinWrong)

/-- 'exchequerlaw01.VintOnce': WHATEVER THE INPUT: true; the input reads as it did. -/
def vintOnceSpec : ChangeSpec := { name := "vintOnce", fn := fun _ => fun
  | [d1, d2, d3] => { results := [.lit (.bool true)], args := [d1, d2, d3] }
  | _ => none }
def vintOnceRow : OpenClaim := { program := "ytlmnkepgljbdiaa", sum := "fea12772fec3e81c9bf746d4e7a17299a3a900b469fa2a4f479957d6975e12e3", func := "exchequer/exchequerlaw01.VintOnce", spec := "vintOnce", apart := false }
def VintOnceSaid : Prop := vintOnceRow.holds Try.pinned (OpenSpec.ofChange vintOnceSpec)

/-- ITS FALSE NEIGHBOUR: 'it returns false'. Refute it at one input. -/
def vintOnceWrong : ChangeSpec := { name := "vintOnce", fn := fun _ => fun
  | [d1, d2, d3] => { results := [.lit (.bool false)], args := [d1, d2, d3] }
  | _ => none }
def VintOnceWrongFalsely : Prop := vintOnceRow.holds Try.pinned (OpenSpec.ofChange vintOnceWrong)

/-- 'exchequerlaw01.VintLists': WHATEVER THE INPUT: true; the input reads as it did. -/
def vintListsSpec : ChangeSpec := { name := "vintLists", fn := fun _ => fun
  | [d1, d2] => { results := [.lit (.bool true)], args := [d1, d2] }
  | _ => none }
def vintListsRow : OpenClaim := { program := "ytlmnkepgljbdiaa", sum := "fea12772fec3e81c9bf746d4e7a17299a3a900b469fa2a4f479957d6975e12e3", func := "exchequer/exchequerlaw01.VintLists", spec := "vintLists", apart := false }
def VintListsSaid : Prop := vintListsRow.holds Try.pinned (OpenSpec.ofChange vintListsSpec)

/-- ITS FALSE NEIGHBOUR: 'it returns false'. Refute it at one input. -/
def vintListsWrong : ChangeSpec := { name := "vintLists", fn := fun _ => fun
  | [d1, d2] => { results := [.lit (.bool false)], args := [d1, d2] }
  | _ => none }
def VintListsWrongFalsely : Prop := vintListsRow.holds Try.pinned (OpenSpec.ofChange vintListsWrong)

/-- 'exchequerlaw01.VintSplit': WHATEVER THE INPUT: true; the input reads as it did. -/
def vintSplitSpec : ChangeSpec := { name := "vintSplit", fn := fun _ => fun
  | [d1, d2, d3] => { results := [.lit (.bool true)], args := [d1, d2, d3] }
  | _ => none }
def vintSplitRow : OpenClaim := { program := "ytlmnkepgljbdiaa", sum := "fea12772fec3e81c9bf746d4e7a17299a3a900b469fa2a4f479957d6975e12e3", func := "exchequer/exchequerlaw01.VintSplit", spec := "vintSplit", apart := false }
def VintSplitSaid : Prop := vintSplitRow.holds Try.pinned (OpenSpec.ofChange vintSplitSpec)

/-- ITS FALSE NEIGHBOUR: 'it returns false'. Refute it at one input. -/
def vintSplitWrong : ChangeSpec := { name := "vintSplit", fn := fun _ => fun
  | [d1, d2, d3] => { results := [.lit (.bool false)], args := [d1, d2, d3] }
  | _ => none }
def VintSplitWrongFalsely : Prop := vintSplitRow.holds Try.pinned (OpenSpec.ofChange vintSplitWrong)

/-- 'exchequerlaw01.VintOrder': WHATEVER THE INPUT: true; the input reads as it did. -/
def vintOrderSpec : ChangeSpec := { name := "vintOrder", fn := fun _ => fun
  | [d1, d2, d3] => { results := [.lit (.bool true)], args := [d1, d2, d3] }
  | _ => none }
def vintOrderRow : OpenClaim := { program := "ytlmnkepgljbdiaa", sum := "fea12772fec3e81c9bf746d4e7a17299a3a900b469fa2a4f479957d6975e12e3", func := "exchequer/exchequerlaw01.VintOrder", spec := "vintOrder", apart := false }
def VintOrderSaid : Prop := vintOrderRow.holds Try.pinned (OpenSpec.ofChange vintOrderSpec)

/-- ITS FALSE NEIGHBOUR: 'it returns false'. Refute it at one input. -/
def vintOrderWrong : ChangeSpec := { name := "vintOrder", fn := fun _ => fun
  | [d1, d2, d3] => { results := [.lit (.bool false)], args := [d1, d2, d3] }
  | _ => none }
def VintOrderWrongFalsely : Prop := vintOrderRow.holds Try.pinned (OpenSpec.ofChange vintOrderWrong)

/-- 'exchequerlaw01.VintNests': WHATEVER THE INPUT: true; the input reads as it did. -/
def vintNestsSpec : ChangeSpec := { name := "vintNests", fn := fun _ => fun
  | [d1, d2] => { results := [.lit (.bool true)], args := [d1, d2] }
  | _ => none }
def vintNestsRow : OpenClaim := { program := "ytlmnkepgljbdiaa", sum := "fea12772fec3e81c9bf746d4e7a17299a3a900b469fa2a4f479957d6975e12e3", func := "exchequer/exchequerlaw01.VintNests", spec := "vintNests", apart := false }
def VintNestsSaid : Prop := vintNestsRow.holds Try.pinned (OpenSpec.ofChange vintNestsSpec)

/-- ITS FALSE NEIGHBOUR: 'it returns false'. Refute it at one input. -/
def vintNestsWrong : ChangeSpec := { name := "vintNests", fn := fun _ => fun
  | [d1, d2] => { results := [.lit (.bool false)], args := [d1, d2] }
  | _ => none }
def VintNestsWrongFalsely : Prop := vintNestsRow.holds Try.pinned (OpenSpec.ofChange vintNestsWrong)

/-- 'exchequerlaw01.VintNumbers': WHATEVER THE INPUT: true; the input reads as it did. -/
def vintNumbersSpec : ChangeSpec := { name := "vintNumbers", fn := fun _ => fun
  | [d1, d2, d3] => { results := [.lit (.bool true)], args := [d1, d2, d3] }
  | _ => none }
def vintNumbersRow : OpenClaim := { program := "ytlmnkepgljbdiaa", sum := "fea12772fec3e81c9bf746d4e7a17299a3a900b469fa2a4f479957d6975e12e3", func := "exchequer/exchequerlaw01.VintNumbers", spec := "vintNumbers", apart := false }
def VintNumbersSaid : Prop := vintNumbersRow.holds Try.pinned (OpenSpec.ofChange vintNumbersSpec)

/-- ITS FALSE NEIGHBOUR: 'it returns false'. Refute it at one input. -/
def vintNumbersWrong : ChangeSpec := { name := "vintNumbers", fn := fun _ => fun
  | [d1, d2, d3] => { results := [.lit (.bool false)], args := [d1, d2, d3] }
  | _ => none }
def VintNumbersWrongFalsely : Prop := vintNumbersRow.holds Try.pinned (OpenSpec.ofChange vintNumbersWrong)

/-- 'exchequerlaw01.VintReads': WHATEVER THE INPUT: true; the input reads as it did. -/
def vintReadsSpec : ChangeSpec := { name := "vintReads", fn := fun _ => fun
  | [d1, d2] => { results := [.lit (.bool true)], args := [d1, d2] }
  | _ => none }
def vintReadsRow : OpenClaim := { program := "ytlmnkepgljbdiaa", sum := "fea12772fec3e81c9bf746d4e7a17299a3a900b469fa2a4f479957d6975e12e3", func := "exchequer/exchequerlaw01.VintReads", spec := "vintReads", apart := false }
def VintReadsSaid : Prop := vintReadsRow.holds Try.pinned (OpenSpec.ofChange vintReadsSpec)

/-- ITS FALSE NEIGHBOUR: 'it returns false'. Refute it at one input. -/
def vintReadsWrong : ChangeSpec := { name := "vintReads", fn := fun _ => fun
  | [d1, d2] => { results := [.lit (.bool false)], args := [d1, d2] }
  | _ => none }
def VintReadsWrongFalsely : Prop := vintReadsRow.holds Try.pinned (OpenSpec.ofChange vintReadsWrong)

/-- 'exchequerlaw06.NibsCuts': WHATEVER THE INPUT: true; the input reads as it did. -/
def nibsCutsSpec : ChangeSpec := { name := "nibsCuts", fn := fun _ => fun
  | [d1, d2] => { results := [.lit (.bool true)], args := [d1, d2] }
  | _ => none }
def nibsCutsRow : OpenClaim := { program := "ytlmnkepgljbdiaa", sum := "fea12772fec3e81c9bf746d4e7a17299a3a900b469fa2a4f479957d6975e12e3", func := "exchequer/exchequerlaw06.NibsCuts", spec := "nibsCuts", apart := false }
def NibsCutsSaid : Prop := nibsCutsRow.holds Try.pinned (OpenSpec.ofChange nibsCutsSpec)

/-- ITS FALSE NEIGHBOUR: 'it returns false'. Refute it at one input. -/
def nibsCutsWrong : ChangeSpec := { name := "nibsCuts", fn := fun _ => fun
  | [d1, d2] => { results := [.lit (.bool false)], args := [d1, d2] }
  | _ => none }
def NibsCutsWrongFalsely : Prop := nibsCutsRow.holds Try.pinned (OpenSpec.ofChange nibsCutsWrong)

/- THE SECOND FORM. 'bulk': how many values and letters a reading holds, each counted each time it is reached (what is shared counts as often as it is met; a slice's spare places count too). A statement '..UptoSaid' is the law's where the arguments, and the package variables that the reading takes, are together of bulk at most 1048576: NARROWER than '..Said'. Prove '..Said' where nothing that the law and all that it calls make is longer than what came in: it says more and counts as full. Else prove '..UptoSaid'. A law counts once. -/
mutual
def uptoBulk {H : Type} : DataW H → Nat
  | .lit (.string bytes) => bytes.length + 1
  | .lit _ => 1
  | .nil => 1
  | .ptr d => uptoBulk d + 1
  | .slice elems spare => uptoBulkAll elems + uptoBulkAll spare + 1
  | .agg parts => uptoBulkAll parts + 1
  | .iface _ d => uptoBulk d + 1
  | .map entries => uptoBulkEntries entries + 1
  | .held _ => 1
def uptoBulkAll {H : Type} : List (DataW H) → Nat
  | [] => 0
  | d :: r => uptoBulk d + uptoBulkAll r
def uptoBulkEntries {H : Type} : List (Lit × DataW H) → Nat
  | [] => 0
  | x :: r => uptoBulkEntry x + uptoBulkEntries r
def uptoBulkEntry {H : Type} : Lit × DataW H → Nat
  | (.string bytes, d) => bytes.length + uptoBulk d + 1
  | (_, d) => uptoBulk d + 1
 end
def uptoSmall : (H : Type) → List (DataW H) → Bool := fun _ ds => decide (uptoBulkAll ds ≤ 1048576)
def OpenSpec.upto (s : _root_.Go.ChangeSpec) : _root_.Go.OpenSpec := { _root_.Go.OpenSpec.ofChange s with cond := some uptoSmall }

/-- 'exchequerlaw06.NibsPacks', WHERE WHAT IT READS IS OF BULK AT MOST 1048576: true; the input reads as it did. -/
def nibsPacksUptoRow : OpenClaim := { program := "ytlmnkepgljbdiaa", sum := "fea12772fec3e81c9bf746d4e7a17299a3a900b469fa2a4f479957d6975e12e3", func := "exchequer/exchequerlaw06.NibsPacks", spec := "nibsPacks", apart := false, narrowed := true }
def NibsPacksUptoSaid : Prop := nibsPacksUptoRow.holds Try.pinned (OpenSpec.upto nibsPacksSpec)

/-- 'exchequerlaw06.NibsBack', WHERE WHAT IT READS IS OF BULK AT MOST 1048576: true; the input reads as it did. -/
def nibsBackUptoRow : OpenClaim := { program := "ytlmnkepgljbdiaa", sum := "fea12772fec3e81c9bf746d4e7a17299a3a900b469fa2a4f479957d6975e12e3", func := "exchequer/exchequerlaw06.NibsBack", spec := "nibsBack", apart := false, narrowed := true }
def NibsBackUptoSaid : Prop := nibsBackUptoRow.holds Try.pinned (OpenSpec.upto nibsBackSpec)

/-- 'exchequerlaw06.NibsOrder', WHERE WHAT IT READS IS OF BULK AT MOST 1048576: true; the input reads as it did. -/
def nibsOrderUptoRow : OpenClaim := { program := "ytlmnkepgljbdiaa", sum := "fea12772fec3e81c9bf746d4e7a17299a3a900b469fa2a4f479957d6975e12e3", func := "exchequer/exchequerlaw06.NibsOrder", spec := "nibsOrder", apart := false, narrowed := true }
def NibsOrderUptoSaid : Prop := nibsOrderUptoRow.holds Try.pinned (OpenSpec.upto nibsOrderSpec)

/-- 'exchequerlaw06.NibsJoin', WHERE WHAT IT READS IS OF BULK AT MOST 1048576: true; the input reads as it did. -/
def nibsJoinUptoRow : OpenClaim := { program := "ytlmnkepgljbdiaa", sum := "fea12772fec3e81c9bf746d4e7a17299a3a900b469fa2a4f479957d6975e12e3", func := "exchequer/exchequerlaw06.NibsJoin", spec := "nibsJoin", apart := false, narrowed := true }
def NibsJoinUptoSaid : Prop := nibsJoinUptoRow.holds Try.pinned (OpenSpec.upto nibsJoinSpec)

/-- 'exchequerlaw01.VintOnce', WHERE WHAT IT READS IS OF BULK AT MOST 1048576: true; the input reads as it did. -/
def vintOnceUptoRow : OpenClaim := { program := "ytlmnkepgljbdiaa", sum := "fea12772fec3e81c9bf746d4e7a17299a3a900b469fa2a4f479957d6975e12e3", func := "exchequer/exchequerlaw01.VintOnce", spec := "vintOnce", apart := false, narrowed := true }
def VintOnceUptoSaid : Prop := vintOnceUptoRow.holds Try.pinned (OpenSpec.upto vintOnceSpec)

/-- 'exchequerlaw01.VintLists', WHERE WHAT IT READS IS OF BULK AT MOST 1048576: true; the input reads as it did. -/
def vintListsUptoRow : OpenClaim := { program := "ytlmnkepgljbdiaa", sum := "fea12772fec3e81c9bf746d4e7a17299a3a900b469fa2a4f479957d6975e12e3", func := "exchequer/exchequerlaw01.VintLists", spec := "vintLists", apart := false, narrowed := true }
def VintListsUptoSaid : Prop := vintListsUptoRow.holds Try.pinned (OpenSpec.upto vintListsSpec)

/-- 'exchequerlaw01.VintSplit', WHERE WHAT IT READS IS OF BULK AT MOST 1048576: true; the input reads as it did. -/
def vintSplitUptoRow : OpenClaim := { program := "ytlmnkepgljbdiaa", sum := "fea12772fec3e81c9bf746d4e7a17299a3a900b469fa2a4f479957d6975e12e3", func := "exchequer/exchequerlaw01.VintSplit", spec := "vintSplit", apart := false, narrowed := true }
def VintSplitUptoSaid : Prop := vintSplitUptoRow.holds Try.pinned (OpenSpec.upto vintSplitSpec)

/-- 'exchequerlaw01.VintOrder', WHERE WHAT IT READS IS OF BULK AT MOST 1048576: true; the input reads as it did. -/
def vintOrderUptoRow : OpenClaim := { program := "ytlmnkepgljbdiaa", sum := "fea12772fec3e81c9bf746d4e7a17299a3a900b469fa2a4f479957d6975e12e3", func := "exchequer/exchequerlaw01.VintOrder", spec := "vintOrder", apart := false, narrowed := true }
def VintOrderUptoSaid : Prop := vintOrderUptoRow.holds Try.pinned (OpenSpec.upto vintOrderSpec)

/-- 'exchequerlaw01.VintNests', WHERE WHAT IT READS IS OF BULK AT MOST 1048576: true; the input reads as it did. -/
def vintNestsUptoRow : OpenClaim := { program := "ytlmnkepgljbdiaa", sum := "fea12772fec3e81c9bf746d4e7a17299a3a900b469fa2a4f479957d6975e12e3", func := "exchequer/exchequerlaw01.VintNests", spec := "vintNests", apart := false, narrowed := true }
def VintNestsUptoSaid : Prop := vintNestsUptoRow.holds Try.pinned (OpenSpec.upto vintNestsSpec)

/-- 'exchequerlaw01.VintNumbers', WHERE WHAT IT READS IS OF BULK AT MOST 1048576: true; the input reads as it did. -/
def vintNumbersUptoRow : OpenClaim := { program := "ytlmnkepgljbdiaa", sum := "fea12772fec3e81c9bf746d4e7a17299a3a900b469fa2a4f479957d6975e12e3", func := "exchequer/exchequerlaw01.VintNumbers", spec := "vintNumbers", apart := false, narrowed := true }
def VintNumbersUptoSaid : Prop := vintNumbersUptoRow.holds Try.pinned (OpenSpec.upto vintNumbersSpec)

/-- 'exchequerlaw01.VintReads', WHERE WHAT IT READS IS OF BULK AT MOST 1048576: true; the input reads as it did. -/
def vintReadsUptoRow : OpenClaim := { program := "ytlmnkepgljbdiaa", sum := "fea12772fec3e81c9bf746d4e7a17299a3a900b469fa2a4f479957d6975e12e3", func := "exchequer/exchequerlaw01.VintReads", spec := "vintReads", apart := false, narrowed := true }
def VintReadsUptoSaid : Prop := vintReadsUptoRow.holds Try.pinned (OpenSpec.upto vintReadsSpec)

/-- 'exchequerlaw06.NibsCuts', WHERE WHAT IT READS IS OF BULK AT MOST 1048576: true; the input reads as it did. -/
def nibsCutsUptoRow : OpenClaim := { program := "ytlmnkepgljbdiaa", sum := "fea12772fec3e81c9bf746d4e7a17299a3a900b469fa2a4f479957d6975e12e3", func := "exchequer/exchequerlaw06.NibsCuts", spec := "nibsCuts", apart := false, narrowed := true }
def NibsCutsUptoSaid : Prop := nibsCutsUptoRow.holds Try.pinned (OpenSpec.upto nibsCutsSpec)

end Rows
end Go.Proofs.Ytlmnkepgljbdiaa
