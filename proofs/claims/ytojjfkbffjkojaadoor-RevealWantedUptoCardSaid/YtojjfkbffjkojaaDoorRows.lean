/-
  NARROWER THAN 'FOR EVERY INPUT', by the rows' own cells (each row's printed sentence says how): RevealWays: laid · RevealJoin: laid · RevealOpens: loops, laid · RevealAgrees: laid · NodeReads: laid · NodeDigests: loops, laid · NodeFolds: loops, laid · RevealWanted: laid · NodeBack: loops, laid · NodeSame: loops, laid.
  DERIVED. THE GIVEN ROWS OF THIS SEAT. 10 by the template 'for every input the law returns true; each argument reads behind the call as it read before'; 0 by the template 'total and deterministic' (their statements: YtojjfkbffjkojaaDoorTotals.lean).
  GIVEN WITH THE SEED: the statements are not yours to turn. If you find one false, say at which input.
  Laid BY PROGRAM, IN A SANDBOX (cutbox-rows.mjs): the forced cells as the released guide's own fill.sh prints them over the translation 820ec1f136b6f287… (all of the seat's roots in one cut). By AI agents, Wed Nov 11 2026. No macro, syntax, notation, axiom, sorry.
-/
import Derived.Test.YtojjfkbffjkojaaDoorChecked
import GoSem.Claim
import GoSem.ClaimJoined
import GoSem.ClaimMapViews
import Derived.JoinedTies
import Derived.KernelRfl
namespace Go.Proofs.YtojjfkbffjkojaaDoor
/- THE CELL 'sum', in the pinned program and in every row, IS THE sha256 OF THE DUMP (.gsa) THAT YtojjfkbffjkojaaDoorProg.lean LOADS. Nothing in Lean hashes anything: it is a label: what it is worth is what the hold of that sum in a sandbox is worth. -/
noncomputable def Tryd.pinned : Pinned := { name := "ytojjfkbffjkojaadoor", sum := "820ec1f136b6f287c64aebfe9f17240cff201059a4bb31815b0615a65d629ff2", checked := Tryd.checked }
namespace Rows
def none {H : Type} : Left H := { results := [], args := [] }

/- WHAT THE LISTED PACKAGE-LEVEL VARIABLES READ AS WHEN THE CALL BEGINS. Each datum BY PROGRAM (the guide's laid-datum.mjs) off the statement by which the dump's own 'gosem.cut.vars' lays the variable. In a bare row this is a premise. The card (YtojjfkbffjkojaaDoorCards.lean) ties it to the program's text. -/
def laid_exchequer_digest_begin {H : Type} : DataW H := .agg [.lit (.int .u32 1779033703), .lit (.int .u32 3144134277), .lit (.int .u32 1013904242), .lit (.int .u32 2773480762), .lit (.int .u32 1359893119), .lit (.int .u32 2600822924), .lit (.int .u32 528734635), .lit (.int .u32 1541459225)]
def laid_exchequer_digest_roots {H : Type} : DataW H := .agg [.lit (.int .u32 1116352408), .lit (.int .u32 1899447441), .lit (.int .u32 3049323471), .lit (.int .u32 3921009573), .lit (.int .u32 961987163), .lit (.int .u32 1508970993), .lit (.int .u32 2453635748), .lit (.int .u32 2870763221), .lit (.int .u32 3624381080), .lit (.int .u32 310598401), .lit (.int .u32 607225278), .lit (.int .u32 1426881987), .lit (.int .u32 1925078388), .lit (.int .u32 2162078206), .lit (.int .u32 2614888103), .lit (.int .u32 3248222580), .lit (.int .u32 3835390401), .lit (.int .u32 4022224774), .lit (.int .u32 264347078), .lit (.int .u32 604807628), .lit (.int .u32 770255983), .lit (.int .u32 1249150122), .lit (.int .u32 1555081692), .lit (.int .u32 1996064986), .lit (.int .u32 2554220882), .lit (.int .u32 2821834349), .lit (.int .u32 2952996808), .lit (.int .u32 3210313671), .lit (.int .u32 3336571891), .lit (.int .u32 3584528711), .lit (.int .u32 113926993), .lit (.int .u32 338241895), .lit (.int .u32 666307205), .lit (.int .u32 773529912), .lit (.int .u32 1294757372), .lit (.int .u32 1396182291), .lit (.int .u32 1695183700), .lit (.int .u32 1986661051), .lit (.int .u32 2177026350), .lit (.int .u32 2456956037), .lit (.int .u32 2730485921), .lit (.int .u32 2820302411), .lit (.int .u32 3259730800), .lit (.int .u32 3345764771), .lit (.int .u32 3516065817), .lit (.int .u32 3600352804), .lit (.int .u32 4094571909), .lit (.int .u32 275423344), .lit (.int .u32 430227734), .lit (.int .u32 506948616), .lit (.int .u32 659060556), .lit (.int .u32 883997877), .lit (.int .u32 958139571), .lit (.int .u32 1322822218), .lit (.int .u32 1537002063), .lit (.int .u32 1747873779), .lit (.int .u32 1955562222), .lit (.int .u32 2024104815), .lit (.int .u32 2227730452), .lit (.int .u32 2361852424), .lit (.int .u32 2428436474), .lit (.int .u32 2756734187), .lit (.int .u32 3204031479), .lit (.int .u32 3329325298)]

/-- 'exchequerlaw10.RevealWays': WHATEVER THE INPUT: true; the input reads as it did. -/
def revealWaysSpec : ChangeSpec := { name := "revealWays", fn := fun _ => fun
  | [d1, d2, d3] => { results := [.lit (.bool true)], args := [d1, d2, d3] }
  | _ => none }
def revealWaysRow : OpenClaim := { program := "ytojjfkbffjkojaadoor", sum := "820ec1f136b6f287c64aebfe9f17240cff201059a4bb31815b0615a65d629ff2", func := "exchequer/exchequerlaw10.RevealWays", spec := "revealWays", unfollowed := true, recurses := true, named := ["exchequer/digest.begin", "exchequer/digest.roots"], apart := false, laid := [("exchequer/digest.begin", laid_exchequer_digest_begin), ("exchequer/digest.roots", laid_exchequer_digest_roots)] }
def RevealWaysSaid : Prop := revealWaysRow.holds Tryd.pinned (OpenSpec.ofChange revealWaysSpec)

/-- ITS FALSE NEIGHBOUR: 'it returns false'. Refute it at one input. -/
def revealWaysWrong : ChangeSpec := { name := "revealWays", fn := fun _ => fun
  | [d1, d2, d3] => { results := [.lit (.bool false)], args := [d1, d2, d3] }
  | _ => none }
def RevealWaysWrongFalsely : Prop := revealWaysRow.holds Tryd.pinned (OpenSpec.ofChange revealWaysWrong)

/-- 'exchequerlaw10.RevealJoin': WHATEVER THE INPUT: true; the input reads as it did. -/
def revealJoinSpec : ChangeSpec := { name := "revealJoin", fn := fun _ => fun
  | [d1, d2, d3] => { results := [.lit (.bool true)], args := [d1, d2, d3] }
  | _ => none }
def revealJoinRow : OpenClaim := { program := "ytojjfkbffjkojaadoor", sum := "820ec1f136b6f287c64aebfe9f17240cff201059a4bb31815b0615a65d629ff2", func := "exchequer/exchequerlaw10.RevealJoin", spec := "revealJoin", unfollowed := true, recurses := true, named := ["exchequer/digest.begin", "exchequer/digest.roots"], apart := false, laid := [("exchequer/digest.begin", laid_exchequer_digest_begin), ("exchequer/digest.roots", laid_exchequer_digest_roots)] }
def RevealJoinSaid : Prop := revealJoinRow.holds Tryd.pinned (OpenSpec.ofChange revealJoinSpec)

/-- ITS FALSE NEIGHBOUR: 'it returns false'. Refute it at one input. -/
def revealJoinWrong : ChangeSpec := { name := "revealJoin", fn := fun _ => fun
  | [d1, d2, d3] => { results := [.lit (.bool false)], args := [d1, d2, d3] }
  | _ => none }
def RevealJoinWrongFalsely : Prop := revealJoinRow.holds Tryd.pinned (OpenSpec.ofChange revealJoinWrong)

/-- 'exchequerlaw10.RevealOpens': WHATEVER THE INPUT: true; the input reads as it did. -/
def revealOpensSpec : ChangeSpec := { name := "revealOpens", fn := fun _ => fun
  | [d1, d2, d3, d4] => { results := [.lit (.bool true)], args := [d1, d2, d3, d4] }
  | _ => none }
def revealOpensRow : OpenClaim := { program := "ytojjfkbffjkojaadoor", sum := "820ec1f136b6f287c64aebfe9f17240cff201059a4bb31815b0615a65d629ff2", func := "exchequer/exchequerlaw10.RevealOpens", spec := "revealOpens", unfollowed := true, recurses := true, named := ["exchequer/digest.begin", "exchequer/digest.roots"], loops := true, apart := false, laid := [("exchequer/digest.begin", laid_exchequer_digest_begin), ("exchequer/digest.roots", laid_exchequer_digest_roots)] }
def RevealOpensSaid : Prop := revealOpensRow.holds Tryd.pinned (OpenSpec.ofChange revealOpensSpec)

/-- ITS FALSE NEIGHBOUR: 'it returns false'. Refute it at one input. -/
def revealOpensWrong : ChangeSpec := { name := "revealOpens", fn := fun _ => fun
  | [d1, d2, d3, d4] => { results := [.lit (.bool false)], args := [d1, d2, d3, d4] }
  | _ => none }
def RevealOpensWrongFalsely : Prop := revealOpensRow.holds Tryd.pinned (OpenSpec.ofChange revealOpensWrong)

/-- 'exchequerlaw10.RevealAgrees': WHATEVER THE INPUT: true; the input reads as it did. -/
def revealAgreesSpec : ChangeSpec := { name := "revealAgrees", fn := fun _ => fun
  | [d1, d2] => { results := [.lit (.bool true)], args := [d1, d2] }
  | _ => none }
def revealAgreesRow : OpenClaim := { program := "ytojjfkbffjkojaadoor", sum := "820ec1f136b6f287c64aebfe9f17240cff201059a4bb31815b0615a65d629ff2", func := "exchequer/exchequerlaw10.RevealAgrees", spec := "revealAgrees", unfollowed := true, recurses := true, named := ["exchequer/digest.begin", "exchequer/digest.roots"], apart := false, laid := [("exchequer/digest.begin", laid_exchequer_digest_begin), ("exchequer/digest.roots", laid_exchequer_digest_roots)] }
def RevealAgreesSaid : Prop := revealAgreesRow.holds Tryd.pinned (OpenSpec.ofChange revealAgreesSpec)

/-- ITS FALSE NEIGHBOUR: 'it returns false'. Refute it at one input. -/
def revealAgreesWrong : ChangeSpec := { name := "revealAgrees", fn := fun _ => fun
  | [d1, d2] => { results := [.lit (.bool false)], args := [d1, d2] }
  | _ => none }
def RevealAgreesWrongFalsely : Prop := revealAgreesRow.holds Tryd.pinned (OpenSpec.ofChange revealAgreesWrong)

/-- 'exchequerlaw07.NodeReads': WHATEVER THE INPUT: true; the input reads as it did. -/
def nodeReadsSpec : ChangeSpec := { name := "nodeReads", fn := fun _ => fun
  | [d] => { results := [.lit (.bool true)], args := [d] }
  | _ => none }
def nodeReadsRow : OpenClaim := { program := "ytojjfkbffjkojaadoor", sum := "820ec1f136b6f287c64aebfe9f17240cff201059a4bb31815b0615a65d629ff2", func := "exchequer/exchequerlaw07.NodeReads", spec := "nodeReads", unfollowed := true, recurses := true, named := ["exchequer/digest.begin", "exchequer/digest.roots"], apart := false, laid := [("exchequer/digest.begin", laid_exchequer_digest_begin), ("exchequer/digest.roots", laid_exchequer_digest_roots)] }
def NodeReadsSaid : Prop := nodeReadsRow.holds Tryd.pinned (OpenSpec.ofChange nodeReadsSpec)

/-- ITS FALSE NEIGHBOUR: 'it returns false'. Refute it at one input. -/
def nodeReadsWrong : ChangeSpec := { name := "nodeReads", fn := fun _ => fun
  | [d] => { results := [.lit (.bool false)], args := [d] }
  | _ => none }
def NodeReadsWrongFalsely : Prop := nodeReadsRow.holds Tryd.pinned (OpenSpec.ofChange nodeReadsWrong)

/-- 'exchequerlaw07.NodeDigests': WHATEVER THE INPUT: true; the input reads as it did. -/
def nodeDigestsSpec : ChangeSpec := { name := "nodeDigests", fn := fun _ => fun
  | [d1, d2] => { results := [.lit (.bool true)], args := [d1, d2] }
  | _ => none }
def nodeDigestsRow : OpenClaim := { program := "ytojjfkbffjkojaadoor", sum := "820ec1f136b6f287c64aebfe9f17240cff201059a4bb31815b0615a65d629ff2", func := "exchequer/exchequerlaw07.NodeDigests", spec := "nodeDigests", unfollowed := true, recurses := true, named := ["exchequer/digest.begin", "exchequer/digest.roots"], loops := true, apart := false, laid := [("exchequer/digest.begin", laid_exchequer_digest_begin), ("exchequer/digest.roots", laid_exchequer_digest_roots)] }
def NodeDigestsSaid : Prop := nodeDigestsRow.holds Tryd.pinned (OpenSpec.ofChange nodeDigestsSpec)

/-- ITS FALSE NEIGHBOUR: 'it returns false'. Refute it at one input. -/
def nodeDigestsWrong : ChangeSpec := { name := "nodeDigests", fn := fun _ => fun
  | [d1, d2] => { results := [.lit (.bool false)], args := [d1, d2] }
  | _ => none }
def NodeDigestsWrongFalsely : Prop := nodeDigestsRow.holds Tryd.pinned (OpenSpec.ofChange nodeDigestsWrong)

/-- 'exchequerlaw07.NodeFolds': WHATEVER THE INPUT: true; the input reads as it did. -/
def nodeFoldsSpec : ChangeSpec := { name := "nodeFolds", fn := fun _ => fun
  | [d1, d2] => { results := [.lit (.bool true)], args := [d1, d2] }
  | _ => none }
def nodeFoldsRow : OpenClaim := { program := "ytojjfkbffjkojaadoor", sum := "820ec1f136b6f287c64aebfe9f17240cff201059a4bb31815b0615a65d629ff2", func := "exchequer/exchequerlaw07.NodeFolds", spec := "nodeFolds", unfollowed := true, recurses := true, named := ["exchequer/digest.begin", "exchequer/digest.roots"], loops := true, apart := false, laid := [("exchequer/digest.begin", laid_exchequer_digest_begin), ("exchequer/digest.roots", laid_exchequer_digest_roots)] }
def NodeFoldsSaid : Prop := nodeFoldsRow.holds Tryd.pinned (OpenSpec.ofChange nodeFoldsSpec)

/-- ITS FALSE NEIGHBOUR: 'it returns false'. Refute it at one input. -/
def nodeFoldsWrong : ChangeSpec := { name := "nodeFolds", fn := fun _ => fun
  | [d1, d2] => { results := [.lit (.bool false)], args := [d1, d2] }
  | _ => none }
def NodeFoldsWrongFalsely : Prop := nodeFoldsRow.holds Tryd.pinned (OpenSpec.ofChange nodeFoldsWrong)

/-- 'exchequerlaw10.RevealWanted': WHATEVER THE INPUT: true; the input reads as it did. -/
def revealWantedSpec : ChangeSpec := { name := "revealWanted", fn := fun _ => fun
  | [d1, d2] => { results := [.lit (.bool true)], args := [d1, d2] }
  | _ => none }
def revealWantedRow : OpenClaim := { program := "ytojjfkbffjkojaadoor", sum := "820ec1f136b6f287c64aebfe9f17240cff201059a4bb31815b0615a65d629ff2", func := "exchequer/exchequerlaw10.RevealWanted", spec := "revealWanted", unfollowed := true, recurses := true, named := ["exchequer/digest.begin", "exchequer/digest.roots"], apart := false, laid := [("exchequer/digest.begin", laid_exchequer_digest_begin), ("exchequer/digest.roots", laid_exchequer_digest_roots)] }
def RevealWantedSaid : Prop := revealWantedRow.holds Tryd.pinned (OpenSpec.ofChange revealWantedSpec)

/-- ITS FALSE NEIGHBOUR: 'it returns false'. Refute it at one input. -/
def revealWantedWrong : ChangeSpec := { name := "revealWanted", fn := fun _ => fun
  | [d1, d2] => { results := [.lit (.bool false)], args := [d1, d2] }
  | _ => none }
def RevealWantedWrongFalsely : Prop := revealWantedRow.holds Tryd.pinned (OpenSpec.ofChange revealWantedWrong)

/-- 'exchequerlaw07.NodeBack': WHATEVER THE INPUT: true; the input reads as it did. -/
def nodeBackSpec : ChangeSpec := { name := "nodeBack", fn := fun _ => fun
  | [d1, d2] => { results := [.lit (.bool true)], args := [d1, d2] }
  | _ => none }
def nodeBackRow : OpenClaim := { program := "ytojjfkbffjkojaadoor", sum := "820ec1f136b6f287c64aebfe9f17240cff201059a4bb31815b0615a65d629ff2", func := "exchequer/exchequerlaw07.NodeBack", spec := "nodeBack", unfollowed := true, recurses := true, named := ["exchequer/digest.begin", "exchequer/digest.roots"], loops := true, apart := false, laid := [("exchequer/digest.begin", laid_exchequer_digest_begin), ("exchequer/digest.roots", laid_exchequer_digest_roots)] }
def NodeBackSaid : Prop := nodeBackRow.holds Tryd.pinned (OpenSpec.ofChange nodeBackSpec)

/-- ITS FALSE NEIGHBOUR: 'it returns false'. Refute it at one input. -/
def nodeBackWrong : ChangeSpec := { name := "nodeBack", fn := fun _ => fun
  | [d1, d2] => { results := [.lit (.bool false)], args := [d1, d2] }
  | _ => none }
def NodeBackWrongFalsely : Prop := nodeBackRow.holds Tryd.pinned (OpenSpec.ofChange nodeBackWrong)

/-- 'exchequerlaw07.NodeSame': WHATEVER THE INPUT: true; the input reads as it did. -/
def nodeSameSpec : ChangeSpec := { name := "nodeSame", fn := fun _ => fun
  | [d1, d2] => { results := [.lit (.bool true)], args := [d1, d2] }
  | _ => none }
def nodeSameRow : OpenClaim := { program := "ytojjfkbffjkojaadoor", sum := "820ec1f136b6f287c64aebfe9f17240cff201059a4bb31815b0615a65d629ff2", func := "exchequer/exchequerlaw07.NodeSame", spec := "nodeSame", unfollowed := true, recurses := true, named := ["exchequer/digest.begin", "exchequer/digest.roots"], loops := true, apart := false, laid := [("exchequer/digest.begin", laid_exchequer_digest_begin), ("exchequer/digest.roots", laid_exchequer_digest_roots)] }
def NodeSameSaid : Prop := nodeSameRow.holds Tryd.pinned (OpenSpec.ofChange nodeSameSpec)

/-- ITS FALSE NEIGHBOUR: 'it returns false'. Refute it at one input. -/
def nodeSameWrong : ChangeSpec := { name := "nodeSame", fn := fun _ => fun
  | [d1, d2] => { results := [.lit (.bool false)], args := [d1, d2] }
  | _ => none }
def NodeSameWrongFalsely : Prop := nodeSameRow.holds Tryd.pinned (OpenSpec.ofChange nodeSameWrong)

/- THE SECOND FORM. 'bulk': how many values and letters a reading holds, each counted each time it is reached (what is shared counts as often as it is met; a slice's spare places count too). A statement '..UptoSaid' is the law's where the arguments, and the package variables that the reading takes, are together of bulk at most 1048576: NARROWER than '..Said'. Prove '..Said' where nothing that the law and all that it calls make is longer than what came in: it says more and counts as full. Else prove '..UptoSaid'. A law counts once. -/
mutual
def uptoBulk {H : Type} : DataW H → Nat
  | .lit (.string bytes) => bytes.length + 1
  | .lit _ => 1
  | .nil => 1
  | .ptr d => uptoBulk d + 1
  | .slice elems spare => uptoBulkAll elems + uptoBulkAll spare + 1
  | .agg parts => uptoBulkAll parts + 1
  | .iface _ d => uptoBulk d + 1
  | .map entries => uptoBulkEntries entries + 1
  | .held _ => 1
def uptoBulkAll {H : Type} : List (DataW H) → Nat
  | [] => 0
  | d :: r => uptoBulk d + uptoBulkAll r
def uptoBulkEntries {H : Type} : List (Lit × DataW H) → Nat
  | [] => 0
  | x :: r => uptoBulkEntry x + uptoBulkEntries r
def uptoBulkEntry {H : Type} : Lit × DataW H → Nat
  | (.string bytes, d) => bytes.length + uptoBulk d + 1
  | (_, d) => uptoBulk d + 1
 end
def uptoSmall : (H : Type) → List (DataW H) → Bool := fun _ ds => decide (uptoBulkAll ds ≤ 1048576)
def OpenSpec.upto (s : _root_.Go.ChangeSpec) : _root_.Go.OpenSpec := { _root_.Go.OpenSpec.ofChange s with cond := some uptoSmall }

/-- 'exchequerlaw10.RevealWays', WHERE WHAT IT READS IS OF BULK AT MOST 1048576: true; the input reads as it did. -/
def revealWaysUptoRow : OpenClaim := { program := "ytojjfkbffjkojaadoor", sum := "820ec1f136b6f287c64aebfe9f17240cff201059a4bb31815b0615a65d629ff2", func := "exchequer/exchequerlaw10.RevealWays", spec := "revealWays", unfollowed := true, recurses := true, named := ["exchequer/digest.begin", "exchequer/digest.roots"], apart := false, laid := [("exchequer/digest.begin", laid_exchequer_digest_begin), ("exchequer/digest.roots", laid_exchequer_digest_roots)], narrowed := true }
def RevealWaysUptoSaid : Prop := revealWaysUptoRow.holds Tryd.pinned (OpenSpec.upto revealWaysSpec)

/-- 'exchequerlaw10.RevealJoin', WHERE WHAT IT READS IS OF BULK AT MOST 1048576: true; the input reads as it did. -/
def revealJoinUptoRow : OpenClaim := { program := "ytojjfkbffjkojaadoor", sum := "820ec1f136b6f287c64aebfe9f17240cff201059a4bb31815b0615a65d629ff2", func := "exchequer/exchequerlaw10.RevealJoin", spec := "revealJoin", unfollowed := true, recurses := true, named := ["exchequer/digest.begin", "exchequer/digest.roots"], apart := false, laid := [("exchequer/digest.begin", laid_exchequer_digest_begin), ("exchequer/digest.roots", laid_exchequer_digest_roots)], narrowed := true }
def RevealJoinUptoSaid : Prop := revealJoinUptoRow.holds Tryd.pinned (OpenSpec.upto revealJoinSpec)

/-- 'exchequerlaw10.RevealOpens', WHERE WHAT IT READS IS OF BULK AT MOST 1048576: true; the input reads as it did. -/
def revealOpensUptoRow : OpenClaim := { program := "ytojjfkbffjkojaadoor", sum := "820ec1f136b6f287c64aebfe9f17240cff201059a4bb31815b0615a65d629ff2", func := "exchequer/exchequerlaw10.RevealOpens", spec := "revealOpens", unfollowed := true, recurses := true, named := ["exchequer/digest.begin", "exchequer/digest.roots"], loops := true, apart := false, laid := [("exchequer/digest.begin", laid_exchequer_digest_begin), ("exchequer/digest.roots", laid_exchequer_digest_roots)], narrowed := true }
def RevealOpensUptoSaid : Prop := revealOpensUptoRow.holds Tryd.pinned (OpenSpec.upto revealOpensSpec)

/-- 'exchequerlaw10.RevealAgrees', WHERE WHAT IT READS IS OF BULK AT MOST 1048576: true; the input reads as it did. -/
def revealAgreesUptoRow : OpenClaim := { program := "ytojjfkbffjkojaadoor", sum := "820ec1f136b6f287c64aebfe9f17240cff201059a4bb31815b0615a65d629ff2", func := "exchequer/exchequerlaw10.RevealAgrees", spec := "revealAgrees", unfollowed := true, recurses := true, named := ["exchequer/digest.begin", "exchequer/digest.roots"], apart := false, laid := [("exchequer/digest.begin", laid_exchequer_digest_begin), ("exchequer/digest.roots", laid_exchequer_digest_roots)], narrowed := true }
def RevealAgreesUptoSaid : Prop := revealAgreesUptoRow.holds Tryd.pinned (OpenSpec.upto revealAgreesSpec)

/-- 'exchequerlaw07.NodeReads', WHERE WHAT IT READS IS OF BULK AT MOST 1048576: true; the input reads as it did. -/
def nodeReadsUptoRow : OpenClaim := { program := "ytojjfkbffjkojaadoor", sum := "820ec1f136b6f287c64aebfe9f17240cff201059a4bb31815b0615a65d629ff2", func := "exchequer/exchequerlaw07.NodeReads", spec := "nodeReads", unfollowed := true, recurses := true, named := ["exchequer/digest.begin", "exchequer/digest.roots"], apart := false, laid := [("exchequer/digest.begin", laid_exchequer_digest_begin), ("exchequer/digest.roots", laid_exchequer_digest_roots)], narrowed := true }
def NodeReadsUptoSaid : Prop := nodeReadsUptoRow.holds Tryd.pinned (OpenSpec.upto nodeReadsSpec)

/-- 'exchequerlaw07.NodeDigests', WHERE WHAT IT READS IS OF BULK AT MOST 1048576: true; the input reads as it did. -/
def nodeDigestsUptoRow : OpenClaim := { program := "ytojjfkbffjkojaadoor", sum := "820ec1f136b6f287c64aebfe9f17240cff201059a4bb31815b0615a65d629ff2", func := "exchequer/exchequerlaw07.NodeDigests", spec := "nodeDigests", unfollowed := true, recurses := true, named := ["exchequer/digest.begin", "exchequer/digest.roots"], loops := true, apart := false, laid := [("exchequer/digest.begin", laid_exchequer_digest_begin), ("exchequer/digest.roots", laid_exchequer_digest_roots)], narrowed := true }
def NodeDigestsUptoSaid : Prop := nodeDigestsUptoRow.holds Tryd.pinned (OpenSpec.upto nodeDigestsSpec)

/-- 'exchequerlaw07.NodeFolds', WHERE WHAT IT READS IS OF BULK AT MOST 1048576: true; the input reads as it did. -/
def nodeFoldsUptoRow : OpenClaim := { program := "ytojjfkbffjkojaadoor", sum := "820ec1f136b6f287c64aebfe9f17240cff201059a4bb31815b0615a65d629ff2", func := "exchequer/exchequerlaw07.NodeFolds", spec := "nodeFolds", unfollowed := true, recurses := true, named := ["exchequer/digest.begin", "exchequer/digest.roots"], loops := true, apart := false, laid := [("exchequer/digest.begin", laid_exchequer_digest_begin), ("exchequer/digest.roots", laid_exchequer_digest_roots)], narrowed := true }
def NodeFoldsUptoSaid : Prop := nodeFoldsUptoRow.holds Tryd.pinned (OpenSpec.upto nodeFoldsSpec)

/-- 'exchequerlaw10.RevealWanted', WHERE WHAT IT READS IS OF BULK AT MOST 1048576: true; the input reads as it did. -/
def revealWantedUptoRow : OpenClaim := { program := "ytojjfkbffjkojaadoor", sum := "820ec1f136b6f287c64aebfe9f17240cff201059a4bb31815b0615a65d629ff2", func := "exchequer/exchequerlaw10.RevealWanted", spec := "revealWanted", unfollowed := true, recurses := true, named := ["exchequer/digest.begin", "exchequer/digest.roots"], apart := false, laid := [("exchequer/digest.begin", laid_exchequer_digest_begin), ("exchequer/digest.roots", laid_exchequer_digest_roots)], narrowed := true }
def RevealWantedUptoSaid : Prop := revealWantedUptoRow.holds Tryd.pinned (OpenSpec.upto revealWantedSpec)

/-- 'exchequerlaw07.NodeBack', WHERE WHAT IT READS IS OF BULK AT MOST 1048576: true; the input reads as it did. -/
def nodeBackUptoRow : OpenClaim := { program := "ytojjfkbffjkojaadoor", sum := "820ec1f136b6f287c64aebfe9f17240cff201059a4bb31815b0615a65d629ff2", func := "exchequer/exchequerlaw07.NodeBack", spec := "nodeBack", unfollowed := true, recurses := true, named := ["exchequer/digest.begin", "exchequer/digest.roots"], loops := true, apart := false, laid := [("exchequer/digest.begin", laid_exchequer_digest_begin), ("exchequer/digest.roots", laid_exchequer_digest_roots)], narrowed := true }
def NodeBackUptoSaid : Prop := nodeBackUptoRow.holds Tryd.pinned (OpenSpec.upto nodeBackSpec)

/-- 'exchequerlaw07.NodeSame', WHERE WHAT IT READS IS OF BULK AT MOST 1048576: true; the input reads as it did. -/
def nodeSameUptoRow : OpenClaim := { program := "ytojjfkbffjkojaadoor", sum := "820ec1f136b6f287c64aebfe9f17240cff201059a4bb31815b0615a65d629ff2", func := "exchequer/exchequerlaw07.NodeSame", spec := "nodeSame", unfollowed := true, recurses := true, named := ["exchequer/digest.begin", "exchequer/digest.roots"], loops := true, apart := false, laid := [("exchequer/digest.begin", laid_exchequer_digest_begin), ("exchequer/digest.roots", laid_exchequer_digest_roots)], narrowed := true }
def NodeSameUptoSaid : Prop := nodeSameUptoRow.holds Tryd.pinned (OpenSpec.upto nodeSameSpec)

end Rows
end Go.Proofs.YtojjfkbffjkojaaDoor
