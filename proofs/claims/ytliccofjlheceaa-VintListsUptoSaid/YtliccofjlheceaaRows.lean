/-
  NARROWER THAN 'FOR EVERY INPUT', by the rows' own cells (each row's printed sentence says how): PackSends: loops · PackBack: loops · PackCut: loops.
  DERIVED. THE GIVEN ROWS OF THIS SEAT. 7 by the template 'for every input the law returns true; each argument reads behind the call as it read before'; 0 by the template 'total and deterministic' (their statements: YtliccofjlheceaaTotals.lean).
  GIVEN WITH THE SEED: the statements are not yours to turn. If you find one false, say at which input.
  Laid BY PROGRAM, IN A SANDBOX (cutbox-rows.mjs): the forced cells as the released guide's own fill.sh prints them over the translation f88282e3b6ed8af6… (all of the seat's roots in one cut). By AI agents, Wed Nov 11 2026. No macro, syntax, notation, axiom, sorry.
-/
import Derived.Test.YtliccofjlheceaaChecked
import GoSem.Claim
import GoSem.ClaimJoined
import GoSem.ClaimMapViews
import Derived.JoinedTies
import Derived.KernelRfl
namespace Go.Proofs.Ytliccofjlheceaa
/- THE CELL 'sum', in the pinned program and in every row, IS THE sha256 OF THE DUMP (.gsa) THAT YtliccofjlheceaaProg.lean LOADS. Nothing in Lean hashes anything: it is a label: what it is worth is what the hold of that sum in a sandbox is worth. -/
noncomputable def Try.pinned : Pinned := { name := "ytliccofjlheceaa", sum := "f88282e3b6ed8af682dc20d6dab3466c1df27a3e5159cad047f7828272e60514", checked := Try.checked }
namespace Rows
def none {H : Type} : Left H := { results := [], args := [] }

/-- 'exchequerlaw01.VintLists': WHATEVER THE INPUT: true; the input reads as it did. -/
def vintListsSpec : ChangeSpec := { name := "vintLists", fn := fun _ => fun
  | [d1, d2] => { results := [.lit (.bool true)], args := [d1, d2] }
  | _ => none }
def vintListsRow : OpenClaim := { program := "ytliccofjlheceaa", sum := "f88282e3b6ed8af682dc20d6dab3466c1df27a3e5159cad047f7828272e60514", func := "exchequer/exchequerlaw01.VintLists", spec := "vintLists", apart := false }
def VintListsSaid : Prop := vintListsRow.holds Try.pinned (OpenSpec.ofChange vintListsSpec)

/-- ITS FALSE NEIGHBOUR: 'it returns false'. Refute it at one input. -/
def vintListsWrong : ChangeSpec := { name := "vintLists", fn := fun _ => fun
  | [d1, d2] => { results := [.lit (.bool false)], args := [d1, d2] }
  | _ => none }
def VintListsWrongFalsely : Prop := vintListsRow.holds Try.pinned (OpenSpec.ofChange vintListsWrong)

/-- 'exchequerlaw11.PackSends': WHATEVER THE INPUT: true; the input reads as it did. -/
def packSendsSpec : ChangeSpec := { name := "packSends", fn := fun _ => fun
  | [d] => { results := [.lit (.bool true)], args := [d] }
  | _ => none }
def packSendsRow : OpenClaim := { program := "ytliccofjlheceaa", sum := "f88282e3b6ed8af682dc20d6dab3466c1df27a3e5159cad047f7828272e60514", func := "exchequer/exchequerlaw11.PackSends", spec := "packSends", unfollowed := true, recurses := true, loops := true, apart := false }
def PackSendsSaid : Prop := packSendsRow.holds Try.pinned (OpenSpec.ofChange packSendsSpec)

/-- ITS FALSE NEIGHBOUR: 'it returns false'. Refute it at one input. -/
def packSendsWrong : ChangeSpec := { name := "packSends", fn := fun _ => fun
  | [d] => { results := [.lit (.bool false)], args := [d] }
  | _ => none }
def PackSendsWrongFalsely : Prop := packSendsRow.holds Try.pinned (OpenSpec.ofChange packSendsWrong)

/-- 'exchequerlaw11.PackReads': WHATEVER THE INPUT: true; the input reads as it did. -/
def packReadsSpec : ChangeSpec := { name := "packReads", fn := fun _ => fun
  | [d] => { results := [.lit (.bool true)], args := [d] }
  | _ => none }
def packReadsRow : OpenClaim := { program := "ytliccofjlheceaa", sum := "f88282e3b6ed8af682dc20d6dab3466c1df27a3e5159cad047f7828272e60514", func := "exchequer/exchequerlaw11.PackReads", spec := "packReads", unfollowed := true, recurses := true, apart := false }
def PackReadsSaid : Prop := packReadsRow.holds Try.pinned (OpenSpec.ofChange packReadsSpec)

/-- ITS FALSE NEIGHBOUR: 'it returns false'. Refute it at one input. -/
def packReadsWrong : ChangeSpec := { name := "packReads", fn := fun _ => fun
  | [d] => { results := [.lit (.bool false)], args := [d] }
  | _ => none }
def PackReadsWrongFalsely : Prop := packReadsRow.holds Try.pinned (OpenSpec.ofChange packReadsWrong)

/-- 'exchequerlaw11.PackBack': WHATEVER THE INPUT: true; the input reads as it did. -/
def packBackSpec : ChangeSpec := { name := "packBack", fn := fun _ => fun
  | [d1, d2] => { results := [.lit (.bool true)], args := [d1, d2] }
  | _ => none }
def packBackRow : OpenClaim := { program := "ytliccofjlheceaa", sum := "f88282e3b6ed8af682dc20d6dab3466c1df27a3e5159cad047f7828272e60514", func := "exchequer/exchequerlaw11.PackBack", spec := "packBack", unfollowed := true, recurses := true, loops := true, apart := false }
def PackBackSaid : Prop := packBackRow.holds Try.pinned (OpenSpec.ofChange packBackSpec)

/-- ITS FALSE NEIGHBOUR: 'it returns false'. Refute it at one input. -/
def packBackWrong : ChangeSpec := { name := "packBack", fn := fun _ => fun
  | [d1, d2] => { results := [.lit (.bool false)], args := [d1, d2] }
  | _ => none }
def PackBackWrongFalsely : Prop := packBackRow.holds Try.pinned (OpenSpec.ofChange packBackWrong)

/-- 'exchequerlaw11.PackCut': WHATEVER THE INPUT: true; the input reads as it did. -/
def packCutSpec : ChangeSpec := { name := "packCut", fn := fun _ => fun
  | [d1, d2, d3] => { results := [.lit (.bool true)], args := [d1, d2, d3] }
  | _ => none }
def packCutRow : OpenClaim := { program := "ytliccofjlheceaa", sum := "f88282e3b6ed8af682dc20d6dab3466c1df27a3e5159cad047f7828272e60514", func := "exchequer/exchequerlaw11.PackCut", spec := "packCut", unfollowed := true, recurses := true, loops := true, apart := false }
def PackCutSaid : Prop := packCutRow.holds Try.pinned (OpenSpec.ofChange packCutSpec)

/-- ITS FALSE NEIGHBOUR: 'it returns false'. Refute it at one input. -/
def packCutWrong : ChangeSpec := { name := "packCut", fn := fun _ => fun
  | [d1, d2, d3] => { results := [.lit (.bool false)], args := [d1, d2, d3] }
  | _ => none }
def PackCutWrongFalsely : Prop := packCutRow.holds Try.pinned (OpenSpec.ofChange packCutWrong)

/-- 'exchequerlaw11.PackShort': WHATEVER THE INPUT: true; the input reads as it did. -/
def packShortSpec : ChangeSpec := { name := "packShort", fn := fun _ => fun
  | [d1, d2, d3] => { results := [.lit (.bool true)], args := [d1, d2, d3] }
  | _ => none }
def packShortRow : OpenClaim := { program := "ytliccofjlheceaa", sum := "f88282e3b6ed8af682dc20d6dab3466c1df27a3e5159cad047f7828272e60514", func := "exchequer/exchequerlaw11.PackShort", spec := "packShort", unfollowed := true, recurses := true, apart := false }
def PackShortSaid : Prop := packShortRow.holds Try.pinned (OpenSpec.ofChange packShortSpec)

/-- ITS FALSE NEIGHBOUR: 'it returns false'. Refute it at one input. -/
def packShortWrong : ChangeSpec := { name := "packShort", fn := fun _ => fun
  | [d1, d2, d3] => { results := [.lit (.bool false)], args := [d1, d2, d3] }
  | _ => none }
def PackShortWrongFalsely : Prop := packShortRow.holds Try.pinned (OpenSpec.ofChange packShortWrong)

/-- 'exchequerlaw11.PackTwins': WHATEVER THE INPUT: true; the input reads as it did. -/
def packTwinsSpec : ChangeSpec := { name := "packTwins", fn := fun _ => fun
  | [d1, d2, d3] => { results := [.lit (.bool true)], args := [d1, d2, d3] }
  | _ => none }
def packTwinsRow : OpenClaim := { program := "ytliccofjlheceaa", sum := "f88282e3b6ed8af682dc20d6dab3466c1df27a3e5159cad047f7828272e60514", func := "exchequer/exchequerlaw11.PackTwins", spec := "packTwins", unfollowed := true, recurses := true, apart := false }
def PackTwinsSaid : Prop := packTwinsRow.holds Try.pinned (OpenSpec.ofChange packTwinsSpec)

/-- ITS FALSE NEIGHBOUR: 'it returns false'. Refute it at one input. -/
def packTwinsWrong : ChangeSpec := { name := "packTwins", fn := fun _ => fun
  | [d1, d2, d3] => { results := [.lit (.bool false)], args := [d1, d2, d3] }
  | _ => none }
def PackTwinsWrongFalsely : Prop := packTwinsRow.holds Try.pinned (OpenSpec.ofChange packTwinsWrong)

/- THE SECOND FORM. 'bulk': how many values and letters a reading holds, each counted each time it is reached (what is shared counts as often as it is met; a slice's spare places count too). A statement '..UptoSaid' is the law's where the arguments, and the package variables that the reading takes, are together of bulk at most 1048576: NARROWER than '..Said'. Prove '..Said' where nothing that the law and all that it calls make is longer than what came in: it says more and counts as full. Else prove '..UptoSaid'. A law counts once. -/
mutual
def uptoBulk {H : Type} : DataW H → Nat
  | .lit (.string bytes) => bytes.length + 1
  | .lit _ => 1
  | .nil => 1
  | .ptr d => uptoBulk d + 1
  | .slice elems spare => uptoBulkAll elems + uptoBulkAll spare + 1
  | .agg parts => uptoBulkAll parts + 1
  | .iface _ d => uptoBulk d + 1
  | .map entries => uptoBulkEntries entries + 1
  | .held _ => 1
def uptoBulkAll {H : Type} : List (DataW H) → Nat
  | [] => 0
  | d :: r => uptoBulk d + uptoBulkAll r
def uptoBulkEntries {H : Type} : List (Lit × DataW H) → Nat
  | [] => 0
  | x :: r => uptoBulkEntry x + uptoBulkEntries r
def uptoBulkEntry {H : Type} : Lit × DataW H → Nat
  | (.string bytes, d) => bytes.length + uptoBulk d + 1
  | (_, d) => uptoBulk d + 1
 end
def uptoSmall : (H : Type) → List (DataW H) → Bool := fun _ ds => decide (uptoBulkAll ds ≤ 1048576)
def OpenSpec.upto (s : _root_.Go.ChangeSpec) : _root_.Go.OpenSpec := { _root_.Go.OpenSpec.ofChange s with cond := some uptoSmall }

/-- 'exchequerlaw01.VintLists', WHERE WHAT IT READS IS OF BULK AT MOST 1048576: true; the input reads as it did. -/
def vintListsUptoRow : OpenClaim := { program := "ytliccofjlheceaa", sum := "f88282e3b6ed8af682dc20d6dab3466c1df27a3e5159cad047f7828272e60514", func := "exchequer/exchequerlaw01.VintLists", spec := "vintLists", apart := false, narrowed := true }
def VintListsUptoSaid : Prop := vintListsUptoRow.holds Try.pinned (OpenSpec.upto vintListsSpec)

/-- 'exchequerlaw11.PackSends', WHERE WHAT IT READS IS OF BULK AT MOST 1048576: true; the input reads as it did. -/
def packSendsUptoRow : OpenClaim := { program := "ytliccofjlheceaa", sum := "f88282e3b6ed8af682dc20d6dab3466c1df27a3e5159cad047f7828272e60514", func := "exchequer/exchequerlaw11.PackSends", spec := "packSends", unfollowed := true, recurses := true, loops := true, apart := false, narrowed := true }
def PackSendsUptoSaid : Prop := packSendsUptoRow.holds Try.pinned (OpenSpec.upto packSendsSpec)

/-- 'exchequerlaw11.PackReads', WHERE WHAT IT READS IS OF BULK AT MOST 1048576: true; the input reads as it did. -/
def packReadsUptoRow : OpenClaim := { program := "ytliccofjlheceaa", sum := "f88282e3b6ed8af682dc20d6dab3466c1df27a3e5159cad047f7828272e60514", func := "exchequer/exchequerlaw11.PackReads", spec := "packReads", unfollowed := true, recurses := true, apart := false, narrowed := true }
def PackReadsUptoSaid : Prop := packReadsUptoRow.holds Try.pinned (OpenSpec.upto packReadsSpec)

/-- 'exchequerlaw11.PackBack', WHERE WHAT IT READS IS OF BULK AT MOST 1048576: true; the input reads as it did. -/
def packBackUptoRow : OpenClaim := { program := "ytliccofjlheceaa", sum := "f88282e3b6ed8af682dc20d6dab3466c1df27a3e5159cad047f7828272e60514", func := "exchequer/exchequerlaw11.PackBack", spec := "packBack", unfollowed := true, recurses := true, loops := true, apart := false, narrowed := true }
def PackBackUptoSaid : Prop := packBackUptoRow.holds Try.pinned (OpenSpec.upto packBackSpec)

/-- 'exchequerlaw11.PackCut', WHERE WHAT IT READS IS OF BULK AT MOST 1048576: true; the input reads as it did. -/
def packCutUptoRow : OpenClaim := { program := "ytliccofjlheceaa", sum := "f88282e3b6ed8af682dc20d6dab3466c1df27a3e5159cad047f7828272e60514", func := "exchequer/exchequerlaw11.PackCut", spec := "packCut", unfollowed := true, recurses := true, loops := true, apart := false, narrowed := true }
def PackCutUptoSaid : Prop := packCutUptoRow.holds Try.pinned (OpenSpec.upto packCutSpec)

/-- 'exchequerlaw11.PackShort', WHERE WHAT IT READS IS OF BULK AT MOST 1048576: true; the input reads as it did. -/
def packShortUptoRow : OpenClaim := { program := "ytliccofjlheceaa", sum := "f88282e3b6ed8af682dc20d6dab3466c1df27a3e5159cad047f7828272e60514", func := "exchequer/exchequerlaw11.PackShort", spec := "packShort", unfollowed := true, recurses := true, apart := false, narrowed := true }
def PackShortUptoSaid : Prop := packShortUptoRow.holds Try.pinned (OpenSpec.upto packShortSpec)

/-- 'exchequerlaw11.PackTwins', WHERE WHAT IT READS IS OF BULK AT MOST 1048576: true; the input reads as it did. -/
def packTwinsUptoRow : OpenClaim := { program := "ytliccofjlheceaa", sum := "f88282e3b6ed8af682dc20d6dab3466c1df27a3e5159cad047f7828272e60514", func := "exchequer/exchequerlaw11.PackTwins", spec := "packTwins", unfollowed := true, recurses := true, apart := false, narrowed := true }
def PackTwinsUptoSaid : Prop := packTwinsUptoRow.holds Try.pinned (OpenSpec.upto packTwinsSpec)

end Rows
end Go.Proofs.Ytliccofjlheceaa
