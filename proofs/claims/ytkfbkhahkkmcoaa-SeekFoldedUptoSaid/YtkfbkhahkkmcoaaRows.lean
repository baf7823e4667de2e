/-
  NARROWER THAN 'FOR EVERY INPUT', by the rows' own cells (each row's printed sentence says how): SeekRanges: loops · SeekFinds: loops · TrieGets: loops · TriePuts: loops.
  DERIVED. THE GIVEN ROWS OF THIS SEAT. 13 by the template 'for every input the law returns true; each argument reads behind the call as it read before'; 0 by the template 'total and deterministic' (their statements: YtkfbkhahkkmcoaaTotals.lean).
  GIVEN WITH THE SEED: the statements are not yours to turn. If you find one false, say at which input.
  Laid BY PROGRAM, IN A SANDBOX (cutbox-rows.mjs): the forced cells as the released guide's own fill.sh prints them over the translation 3c3b0771dd9520a6… (all of the seat's roots in one cut). By AI agents, Wed Nov 11 2026. No macro, syntax, notation, axiom, sorry.
-/
import Derived.Test.YtkfbkhahkkmcoaaChecked
import GoSem.Claim
import GoSem.ClaimJoined
import GoSem.ClaimMapViews
import Derived.JoinedTies
import Derived.KernelRfl
namespace Go.Proofs.Ytkfbkhahkkmcoaa
/- THE CELL 'sum', in the pinned program and in every row, IS THE sha256 OF THE DUMP (.gsa) THAT YtkfbkhahkkmcoaaProg.lean LOADS. Nothing in Lean hashes anything: it is a label: what it is worth is what the hold of that sum in a sandbox is worth. -/
noncomputable def Try.pinned : Pinned := { name := "ytkfbkhahkkmcoaa", sum := "3c3b0771dd9520a65c3c772771e5c314f15d5514ea5db8d5122972c0fa317701", checked := Try.checked }
namespace Rows
def none {H : Type} : Left H := { results := [], args := [] }

/-- 'exchequerlaw09.SeekRanges': WHATEVER THE INPUT: true; the input reads as it did. -/
def seekRangesSpec : ChangeSpec := { name := "seekRanges", fn := fun _ => fun
  | [d1, d2, d3, d4] => { results := [.lit (.bool true)], args := [d1, d2, d3, d4] }
  | _ => none }
def seekRangesRow : OpenClaim := { program := "ytkfbkhahkkmcoaa", sum := "3c3b0771dd9520a65c3c772771e5c314f15d5514ea5db8d5122972c0fa317701", func := "exchequer/exchequerlaw09.SeekRanges", spec := "seekRanges", unfollowed := true, recurses := true, loops := true, apart := false }
def SeekRangesSaid : Prop := seekRangesRow.holds Try.pinned (OpenSpec.ofChange seekRangesSpec)

/-- ITS FALSE NEIGHBOUR: 'it returns false'. Refute it at one input. -/
def seekRangesWrong : ChangeSpec := { name := "seekRanges", fn := fun _ => fun
  | [d1, d2, d3, d4] => { results := [.lit (.bool false)], args := [d1, d2, d3, d4] }
  | _ => none }
def SeekRangesWrongFalsely : Prop := seekRangesRow.holds Try.pinned (OpenSpec.ofChange seekRangesWrong)

/-- 'exchequerlaw09.SeekModel': WHATEVER THE INPUT: true; the input reads as it did. -/
def seekModelSpec : ChangeSpec := { name := "seekModel", fn := fun _ => fun
  | [d1, d2, d3, d4] => { results := [.lit (.bool true)], args := [d1, d2, d3, d4] }
  | _ => none }
def seekModelRow : OpenClaim := { program := "ytkfbkhahkkmcoaa", sum := "3c3b0771dd9520a65c3c772771e5c314f15d5514ea5db8d5122972c0fa317701", func := "exchequer/exchequerlaw09.SeekModel", spec := "seekModel", unfollowed := true, recurses := true, apart := false }
def SeekModelSaid : Prop := seekModelRow.holds Try.pinned (OpenSpec.ofChange seekModelSpec)

/-- ITS FALSE NEIGHBOUR: 'it returns false'. Refute it at one input. -/
def seekModelWrong : ChangeSpec := { name := "seekModel", fn := fun _ => fun
  | [d1, d2, d3, d4] => { results := [.lit (.bool false)], args := [d1, d2, d3, d4] }
  | _ => none }
def SeekModelWrongFalsely : Prop := seekModelRow.holds Try.pinned (OpenSpec.ofChange seekModelWrong)

/-- 'exchequerlaw09.SeekParts': WHATEVER THE INPUT: true; the input reads as it did. -/
def seekPartsSpec : ChangeSpec := { name := "seekParts", fn := fun _ => fun
  | [d1, d2] => { results := [.lit (.bool true)], args := [d1, d2] }
  | _ => none }
def seekPartsRow : OpenClaim := { program := "ytkfbkhahkkmcoaa", sum := "3c3b0771dd9520a65c3c772771e5c314f15d5514ea5db8d5122972c0fa317701", func := "exchequer/exchequerlaw09.SeekParts", spec := "seekParts", unfollowed := true, recurses := true, apart := false }
def SeekPartsSaid : Prop := seekPartsRow.holds Try.pinned (OpenSpec.ofChange seekPartsSpec)

/-- ITS FALSE NEIGHBOUR: 'it returns false'. Refute it at one input. -/
def seekPartsWrong : ChangeSpec := { name := "seekParts", fn := fun _ => fun
  | [d1, d2] => { results := [.lit (.bool false)], args := [d1, d2] }
  | _ => none }
def SeekPartsWrongFalsely : Prop := seekPartsRow.holds Try.pinned (OpenSpec.ofChange seekPartsWrong)

/-- 'exchequerlaw09.SeekFolded': WHATEVER THE INPUT: true; the input reads as it did. -/
def seekFoldedSpec : ChangeSpec := { name := "seekFolded", fn := fun _ => fun
  | [d1, d2, d3, d4, d5] => { results := [.lit (.bool true)], args := [d1, d2, d3, d4, d5] }
  | _ => none }
def seekFoldedRow : OpenClaim := { program := "ytkfbkhahkkmcoaa", sum := "3c3b0771dd9520a65c3c772771e5c314f15d5514ea5db8d5122972c0fa317701", func := "exchequer/exchequerlaw09.SeekFolded", spec := "seekFolded", unfollowed := true, recurses := true, apart := false }
def SeekFoldedSaid : Prop := seekFoldedRow.holds Try.pinned (OpenSpec.ofChange seekFoldedSpec)

/-- ITS FALSE NEIGHBOUR: 'it returns false'. Refute it at one input. -/
def seekFoldedWrong : ChangeSpec := { name := "seekFolded", fn := fun _ => fun
  | [d1, d2, d3, d4, d5] => { results := [.lit (.bool false)], args := [d1, d2, d3, d4, d5] }
  | _ => none }
def SeekFoldedWrongFalsely : Prop := seekFoldedRow.holds Try.pinned (OpenSpec.ofChange seekFoldedWrong)

/-- 'exchequerlaw09.SeekFinds': WHATEVER THE INPUT: true; the input reads as it did. -/
def seekFindsSpec : ChangeSpec := { name := "seekFinds", fn := fun _ => fun
  | [d1, d2] => { results := [.lit (.bool true)], args := [d1, d2] }
  | _ => none }
def seekFindsRow : OpenClaim := { program := "ytkfbkhahkkmcoaa", sum := "3c3b0771dd9520a65c3c772771e5c314f15d5514ea5db8d5122972c0fa317701", func := "exchequer/exchequerlaw09.SeekFinds", spec := "seekFinds", unfollowed := true, recurses := true, loops := true, apart := false }
def SeekFindsSaid : Prop := seekFindsRow.holds Try.pinned (OpenSpec.ofChange seekFindsSpec)

/-- ITS FALSE NEIGHBOUR: 'it returns false'. Refute it at one input. -/
def seekFindsWrong : ChangeSpec := { name := "seekFinds", fn := fun _ => fun
  | [d1, d2] => { results := [.lit (.bool false)], args := [d1, d2] }
  | _ => none }
def SeekFindsWrongFalsely : Prop := seekFindsRow.holds Try.pinned (OpenSpec.ofChange seekFindsWrong)

/-- 'exchequerlaw09.SeekUnder': WHATEVER THE INPUT: true; the input reads as it did. -/
def seekUnderSpec : ChangeSpec := { name := "seekUnder", fn := fun _ => fun
  | [d1, d2, d3] => { results := [.lit (.bool true)], args := [d1, d2, d3] }
  | _ => none }
def seekUnderRow : OpenClaim := { program := "ytkfbkhahkkmcoaa", sum := "3c3b0771dd9520a65c3c772771e5c314f15d5514ea5db8d5122972c0fa317701", func := "exchequer/exchequerlaw09.SeekUnder", spec := "seekUnder", unfollowed := true, recurses := true, apart := false }
def SeekUnderSaid : Prop := seekUnderRow.holds Try.pinned (OpenSpec.ofChange seekUnderSpec)

/-- ITS FALSE NEIGHBOUR: 'it returns false'. Refute it at one input. -/
def seekUnderWrong : ChangeSpec := { name := "seekUnder", fn := fun _ => fun
  | [d1, d2, d3] => { results := [.lit (.bool false)], args := [d1, d2, d3] }
  | _ => none }
def SeekUnderWrongFalsely : Prop := seekUnderRow.holds Try.pinned (OpenSpec.ofChange seekUnderWrong)

/-- 'exchequerlaw08.TrieDigest': WHATEVER THE INPUT: true; the input reads as it did. -/
def trieDigestSpec : ChangeSpec := { name := "trieDigest", fn := fun _ => fun
  | [d1, d2] => { results := [.lit (.bool true)], args := [d1, d2] }
  | _ => none }
def trieDigestRow : OpenClaim := { program := "ytkfbkhahkkmcoaa", sum := "3c3b0771dd9520a65c3c772771e5c314f15d5514ea5db8d5122972c0fa317701", func := "exchequer/exchequerlaw08.TrieDigest", spec := "trieDigest", unfollowed := true, recurses := true, apart := false }
def TrieDigestSaid : Prop := trieDigestRow.holds Try.pinned (OpenSpec.ofChange trieDigestSpec)

/-- ITS FALSE NEIGHBOUR: 'it returns false'. Refute it at one input. -/
def trieDigestWrong : ChangeSpec := { name := "trieDigest", fn := fun _ => fun
  | [d1, d2] => { results := [.lit (.bool false)], args := [d1, d2] }
  | _ => none }
def TrieDigestWrongFalsely : Prop := trieDigestRow.holds Try.pinned (OpenSpec.ofChange trieDigestWrong)

/-- 'exchequerlaw08.TrieGets': WHATEVER THE INPUT: true; the input reads as it did. -/
def trieGetsSpec : ChangeSpec := { name := "trieGets", fn := fun _ => fun
  | [d1, d2] => { results := [.lit (.bool true)], args := [d1, d2] }
  | _ => none }
def trieGetsRow : OpenClaim := { program := "ytkfbkhahkkmcoaa", sum := "3c3b0771dd9520a65c3c772771e5c314f15d5514ea5db8d5122972c0fa317701", func := "exchequer/exchequerlaw08.TrieGets", spec := "trieGets", unfollowed := true, recurses := true, loops := true, apart := false }
def TrieGetsSaid : Prop := trieGetsRow.holds Try.pinned (OpenSpec.ofChange trieGetsSpec)

/-- ITS FALSE NEIGHBOUR: 'it returns false'. Refute it at one input. -/
def trieGetsWrong : ChangeSpec := { name := "trieGets", fn := fun _ => fun
  | [d1, d2] => { results := [.lit (.bool false)], args := [d1, d2] }
  | _ => none }
def TrieGetsWrongFalsely : Prop := trieGetsRow.holds Try.pinned (OpenSpec.ofChange trieGetsWrong)

/-- 'exchequerlaw08.TrieOf': WHATEVER THE INPUT: true; the input reads as it did. -/
def trieOfSpec : ChangeSpec := { name := "trieOf", fn := fun _ => fun
  | [d1, d2] => { results := [.lit (.bool true)], args := [d1, d2] }
  | _ => none }
def trieOfRow : OpenClaim := { program := "ytkfbkhahkkmcoaa", sum := "3c3b0771dd9520a65c3c772771e5c314f15d5514ea5db8d5122972c0fa317701", func := "exchequer/exchequerlaw08.TrieOf", spec := "trieOf", unfollowed := true, recurses := true, apart := false }
def TrieOfSaid : Prop := trieOfRow.holds Try.pinned (OpenSpec.ofChange trieOfSpec)

/-- ITS FALSE NEIGHBOUR: 'it returns false'. Refute it at one input. -/
def trieOfWrong : ChangeSpec := { name := "trieOf", fn := fun _ => fun
  | [d1, d2] => { results := [.lit (.bool false)], args := [d1, d2] }
  | _ => none }
def TrieOfWrongFalsely : Prop := trieOfRow.holds Try.pinned (OpenSpec.ofChange trieOfWrong)

/-- 'exchequerlaw08.TriePuts': WHATEVER THE INPUT: true; the input reads as it did. -/
def triePutsSpec : ChangeSpec := { name := "triePuts", fn := fun _ => fun
  | [d1, d2, d3] => { results := [.lit (.bool true)], args := [d1, d2, d3] }
  | _ => none }
def triePutsRow : OpenClaim := { program := "ytkfbkhahkkmcoaa", sum := "3c3b0771dd9520a65c3c772771e5c314f15d5514ea5db8d5122972c0fa317701", func := "exchequer/exchequerlaw08.TriePuts", spec := "triePuts", unfollowed := true, recurses := true, loops := true, apart := false }
def TriePutsSaid : Prop := triePutsRow.holds Try.pinned (OpenSpec.ofChange triePutsSpec)

/-- ITS FALSE NEIGHBOUR: 'it returns false'. Refute it at one input. -/
def triePutsWrong : ChangeSpec := { name := "triePuts", fn := fun _ => fun
  | [d1, d2, d3] => { results := [.lit (.bool false)], args := [d1, d2, d3] }
  | _ => none }
def TriePutsWrongFalsely : Prop := triePutsRow.holds Try.pinned (OpenSpec.ofChange triePutsWrong)

/-- 'exchequerlaw08.TrieModel': WHATEVER THE INPUT: true; the input reads as it did. -/
def trieModelSpec : ChangeSpec := { name := "trieModel", fn := fun _ => fun
  | [d1, d2] => { results := [.lit (.bool true)], args := [d1, d2] }
  | _ => none }
def trieModelRow : OpenClaim := { program := "ytkfbkhahkkmcoaa", sum := "3c3b0771dd9520a65c3c772771e5c314f15d5514ea5db8d5122972c0fa317701", func := "exchequer/exchequerlaw08.TrieModel", spec := "trieModel", unfollowed := true, recurses := true, apart := false }
def TrieModelSaid : Prop := trieModelRow.holds Try.pinned (OpenSpec.ofChange trieModelSpec)

/-- ITS FALSE NEIGHBOUR: 'it returns false'. Refute it at one input. -/
def trieModelWrong : ChangeSpec := { name := "trieModel", fn := fun _ => fun
  | [d1, d2] => { results := [.lit (.bool false)], args := [d1, d2] }
  | _ => none }
def TrieModelWrongFalsely : Prop := trieModelRow.holds Try.pinned (OpenSpec.ofChange trieModelWrong)

/-- 'exchequerlaw08.TrieFolded': WHATEVER THE INPUT: true; the input reads as it did. -/
def trieFoldedSpec : ChangeSpec := { name := "trieFolded", fn := fun _ => fun
  | [d1, d2, d3, d4] => { results := [.lit (.bool true)], args := [d1, d2, d3, d4] }
  | _ => none }
def trieFoldedRow : OpenClaim := { program := "ytkfbkhahkkmcoaa", sum := "3c3b0771dd9520a65c3c772771e5c314f15d5514ea5db8d5122972c0fa317701", func := "exchequer/exchequerlaw08.TrieFolded", spec := "trieFolded", unfollowed := true, recurses := true, apart := false }
def TrieFoldedSaid : Prop := trieFoldedRow.holds Try.pinned (OpenSpec.ofChange trieFoldedSpec)

/-- ITS FALSE NEIGHBOUR: 'it returns false'. Refute it at one input. -/
def trieFoldedWrong : ChangeSpec := { name := "trieFolded", fn := fun _ => fun
  | [d1, d2, d3, d4] => { results := [.lit (.bool false)], args := [d1, d2, d3, d4] }
  | _ => none }
def TrieFoldedWrongFalsely : Prop := trieFoldedRow.holds Try.pinned (OpenSpec.ofChange trieFoldedWrong)

/-- 'exchequerlaw08.TrieTwo': WHATEVER THE INPUT: true; the input reads as it did. -/
def trieTwoSpec : ChangeSpec := { name := "trieTwo", fn := fun _ => fun
  | [d1, d2, d3] => { results := [.lit (.bool true)], args := [d1, d2, d3] }
  | _ => none }
def trieTwoRow : OpenClaim := { program := "ytkfbkhahkkmcoaa", sum := "3c3b0771dd9520a65c3c772771e5c314f15d5514ea5db8d5122972c0fa317701", func := "exchequer/exchequerlaw08.TrieTwo", spec := "trieTwo", unfollowed := true, recurses := true, apart := false }
def TrieTwoSaid : Prop := trieTwoRow.holds Try.pinned (OpenSpec.ofChange trieTwoSpec)

/-- ITS FALSE NEIGHBOUR: 'it returns false'. Refute it at one input. -/
def trieTwoWrong : ChangeSpec := { name := "trieTwo", fn := fun _ => fun
  | [d1, d2, d3] => { results := [.lit (.bool false)], args := [d1, d2, d3] }
  | _ => none }
def TrieTwoWrongFalsely : Prop := trieTwoRow.holds Try.pinned (OpenSpec.ofChange trieTwoWrong)

/- THE SECOND FORM. 'bulk': how many values and letters a reading holds, each counted each time it is reached (what is shared counts as often as it is met; a slice's spare places count too). A statement '..UptoSaid' is the law's where the arguments, and the package variables that the reading takes, are together of bulk at most 1048576: NARROWER than '..Said'. Prove '..Said' where nothing that the law and all that it calls make is longer than what came in: it says more and counts as full. Else prove '..UptoSaid'. A law counts once. -/
mutual
def uptoBulk {H : Type} : DataW H → Nat
  | .lit (.string bytes) => bytes.length + 1
  | .lit _ => 1
  | .nil => 1
  | .ptr d => uptoBulk d + 1
  | .slice elems spare => uptoBulkAll elems + uptoBulkAll spare + 1
  | .agg parts => uptoBulkAll parts + 1
  | .iface _ d => uptoBulk d + 1
  | .map entries => uptoBulkEntries entries + 1
  | .held _ => 1
def uptoBulkAll {H : Type} : List (DataW H) → Nat
  | [] => 0
  | d :: r => uptoBulk d + uptoBulkAll r
def uptoBulkEntries {H : Type} : List (Lit × DataW H) → Nat
  | [] => 0
  | x :: r => uptoBulkEntry x + uptoBulkEntries r
def uptoBulkEntry {H : Type} : Lit × DataW H → Nat
  | (.string bytes, d) => bytes.length + uptoBulk d + 1
  | (_, d) => uptoBulk d + 1
 end
def uptoSmall : (H : Type) → List (DataW H) → Bool := fun _ ds => decide (uptoBulkAll ds ≤ 1048576)
def OpenSpec.upto (s : _root_.Go.ChangeSpec) : _root_.Go.OpenSpec := { _root_.Go.OpenSpec.ofChange s with cond := some uptoSmall }

/-- 'exchequerlaw09.SeekRanges', WHERE WHAT IT READS IS OF BULK AT MOST 1048576: true; the input reads as it did. -/
def seekRangesUptoRow : OpenClaim := { program := "ytkfbkhahkkmcoaa", sum := "3c3b0771dd9520a65c3c772771e5c314f15d5514ea5db8d5122972c0fa317701", func := "exchequer/exchequerlaw09.SeekRanges", spec := "seekRanges", unfollowed := true, recurses := true, loops := true, apart := false, narrowed := true }
def SeekRangesUptoSaid : Prop := seekRangesUptoRow.holds Try.pinned (OpenSpec.upto seekRangesSpec)

/-- 'exchequerlaw09.SeekModel', WHERE WHAT IT READS IS OF BULK AT MOST 1048576: true; the input reads as it did. -/
def seekModelUptoRow : OpenClaim := { program := "ytkfbkhahkkmcoaa", sum := "3c3b0771dd9520a65c3c772771e5c314f15d5514ea5db8d5122972c0fa317701", func := "exchequer/exchequerlaw09.SeekModel", spec := "seekModel", unfollowed := true, recurses := true, apart := false, narrowed := true }
def SeekModelUptoSaid : Prop := seekModelUptoRow.holds Try.pinned (OpenSpec.upto seekModelSpec)

/-- 'exchequerlaw09.SeekParts', WHERE WHAT IT READS IS OF BULK AT MOST 1048576: true; the input reads as it did. -/
def seekPartsUptoRow : OpenClaim := { program := "ytkfbkhahkkmcoaa", sum := "3c3b0771dd9520a65c3c772771e5c314f15d5514ea5db8d5122972c0fa317701", func := "exchequer/exchequerlaw09.SeekParts", spec := "seekParts", unfollowed := true, recurses := true, apart := false, narrowed := true }
def SeekPartsUptoSaid : Prop := seekPartsUptoRow.holds Try.pinned (OpenSpec.upto seekPartsSpec)

/-- 'exchequerlaw09.SeekFolded', WHERE WHAT IT READS IS OF BULK AT MOST 1048576: true; the input reads as it did. -/
def seekFoldedUptoRow : OpenClaim := { program := "ytkfbkhahkkmcoaa", sum := "3c3b0771dd9520a65c3c772771e5c314f15d5514ea5db8d5122972c0fa317701", func := "exchequer/exchequerlaw09.SeekFolded", spec := "seekFolded", unfollowed := true, recurses := true, apart := false, narrowed := true }
def SeekFoldedUptoSaid : Prop := seekFoldedUptoRow.holds Try.pinned (OpenSpec.upto seekFoldedSpec)

/-- 'exchequerlaw09.SeekFinds', WHERE WHAT IT READS IS OF BULK AT MOST 1048576: true; the input reads as it did. -/
def seekFindsUptoRow : OpenClaim := { program := "ytkfbkhahkkmcoaa", sum := "3c3b0771dd9520a65c3c772771e5c314f15d5514ea5db8d5122972c0fa317701", func := "exchequer/exchequerlaw09.SeekFinds", spec := "seekFinds", unfollowed := true, recurses := true, loops := true, apart := false, narrowed := true }
def SeekFindsUptoSaid : Prop := seekFindsUptoRow.holds Try.pinned (OpenSpec.upto seekFindsSpec)

/-- 'exchequerlaw09.SeekUnder', WHERE WHAT IT READS IS OF BULK AT MOST 1048576: true; the input reads as it did. -/
def seekUnderUptoRow : OpenClaim := { program := "ytkfbkhahkkmcoaa", sum := "3c3b0771dd9520a65c3c772771e5c314f15d5514ea5db8d5122972c0fa317701", func := "exchequer/exchequerlaw09.SeekUnder", spec := "seekUnder", unfollowed := true, recurses := true, apart := false, narrowed := true }
def SeekUnderUptoSaid : Prop := seekUnderUptoRow.holds Try.pinned (OpenSpec.upto seekUnderSpec)

/-- 'exchequerlaw08.TrieDigest', WHERE WHAT IT READS IS OF BULK AT MOST 1048576: true; the input reads as it did. -/
def trieDigestUptoRow : OpenClaim := { program := "ytkfbkhahkkmcoaa", sum := "3c3b0771dd9520a65c3c772771e5c314f15d5514ea5db8d5122972c0fa317701", func := "exchequer/exchequerlaw08.TrieDigest", spec := "trieDigest", unfollowed := true, recurses := true, apart := false, narrowed := true }
def TrieDigestUptoSaid : Prop := trieDigestUptoRow.holds Try.pinned (OpenSpec.upto trieDigestSpec)

/-- 'exchequerlaw08.TrieGets', WHERE WHAT IT READS IS OF BULK AT MOST 1048576: true; the input reads as it did. -/
def trieGetsUptoRow : OpenClaim := { program := "ytkfbkhahkkmcoaa", sum := "3c3b0771dd9520a65c3c772771e5c314f15d5514ea5db8d5122972c0fa317701", func := "exchequer/exchequerlaw08.TrieGets", spec := "trieGets", unfollowed := true, recurses := true, loops := true, apart := false, narrowed := true }
def TrieGetsUptoSaid : Prop := trieGetsUptoRow.holds Try.pinned (OpenSpec.upto trieGetsSpec)

/-- 'exchequerlaw08.TrieOf', WHERE WHAT IT READS IS OF BULK AT MOST 1048576: true; the input reads as it did. -/
def trieOfUptoRow : OpenClaim := { program := "ytkfbkhahkkmcoaa", sum := "3c3b0771dd9520a65c3c772771e5c314f15d5514ea5db8d5122972c0fa317701", func := "exchequer/exchequerlaw08.TrieOf", spec := "trieOf", unfollowed := true, recurses := true, apart := false, narrowed := true }
def TrieOfUptoSaid : Prop := trieOfUptoRow.holds Try.pinned (OpenSpec.upto trieOfSpec)

/-- 'exchequerlaw08.TriePuts', WHERE WHAT IT READS IS OF BULK AT MOST 1048576: true; the input reads as it did. -/
def triePutsUptoRow : OpenClaim := { program := "ytkfbkhahkkmcoaa", sum := "3c3b0771dd9520a65c3c772771e5c314f15d5514ea5db8d5122972c0fa317701", func := "exchequer/exchequerlaw08.TriePuts", spec := "triePuts", unfollowed := true, recurses := true, loops := true, apart := false, narrowed := true }
def TriePutsUptoSaid : Prop := triePutsUptoRow.holds Try.pinned (OpenSpec.upto triePutsSpec)

/-- 'exchequerlaw08.TrieModel', WHERE WHAT IT READS IS OF BULK AT MOST 1048576: true; the input reads as it did. -/
def trieModelUptoRow : OpenClaim := { program := "ytkfbkhahkkmcoaa", sum := "3c3b0771dd9520a65c3c772771e5c314f15d5514ea5db8d5122972c0fa317701", func := "exchequer/exchequerlaw08.TrieModel", spec := "trieModel", unfollowed := true, recurses := true, apart := false, narrowed := true }
def TrieModelUptoSaid : Prop := trieModelUptoRow.holds Try.pinned (OpenSpec.upto trieModelSpec)

/-- 'exchequerlaw08.TrieFolded', WHERE WHAT IT READS IS OF BULK AT MOST 1048576: true; the input reads as it did. -/
def trieFoldedUptoRow : OpenClaim := { program := "ytkfbkhahkkmcoaa", sum := "3c3b0771dd9520a65c3c772771e5c314f15d5514ea5db8d5122972c0fa317701", func := "exchequer/exchequerlaw08.TrieFolded", spec := "trieFolded", unfollowed := true, recurses := true, apart := false, narrowed := true }
def TrieFoldedUptoSaid : Prop := trieFoldedUptoRow.holds Try.pinned (OpenSpec.upto trieFoldedSpec)

/-- 'exchequerlaw08.TrieTwo', WHERE WHAT IT READS IS OF BULK AT MOST 1048576: true; the input reads as it did. -/
def trieTwoUptoRow : OpenClaim := { program := "ytkfbkhahkkmcoaa", sum := "3c3b0771dd9520a65c3c772771e5c314f15d5514ea5db8d5122972c0fa317701", func := "exchequer/exchequerlaw08.TrieTwo", spec := "trieTwo", unfollowed := true, recurses := true, apart := false, narrowed := true }
def TrieTwoUptoSaid : Prop := trieTwoUptoRow.holds Try.pinned (OpenSpec.upto trieTwoSpec)

end Rows
end Go.Proofs.Ytkfbkhahkkmcoaa
