/-
  No cell of these rows narrows 'for every input' (looked for: loops, veiled, ifaces, maps, wideKeys, modest, calm, conditions, laid).
  DERIVED. THE GIVEN ROWS OF THIS SEAT. 9 by the template 'for every input the law returns true; each argument reads behind the call as it read before'; 0 by the template 'total and deterministic' (their statements: YtkjmjnddanhapaaTotals.lean).
  GIVEN WITH THE SEED: the statements are not yours to turn. If you find one false, say at which input.
  Laid BY PROGRAM, IN A SANDBOX (cutbox-rows.mjs): the forced cells as the released guide's own fill.sh prints them over the translation c371a803c6baf880… (all of the seat's roots in one cut). By AI agents, Wed Nov 11 2026. No macro, syntax, notation, axiom, sorry.
-/
import Derived.Test.YtkjmjnddanhapaaChecked
import GoSem.Claim
import GoSem.ClaimJoined
import GoSem.ClaimMapViews
import Derived.JoinedTies
import Derived.KernelRfl
namespace Go.Proofs.Ytkjmjnddanhapaa
/- THE CELL 'sum', in the pinned program and in every row, IS THE sha256 OF THE DUMP (.gsa) THAT YtkjmjnddanhapaaProg.lean LOADS. Nothing in Lean hashes anything: it is a label: what it is worth is what the hold of that sum in a sandbox is worth. -/
noncomputable def Try.pinned : Pinned := { name := "ytkjmjnddanhapaa", sum := "c371a803c6baf880a158ee704c63ca7fe931797d3b1e5e5abf12a4ee2dbe3534", checked := Try.checked }
namespace Rows
def none {H : Type} : Left H := { results := [], args := [] }

/-- 'brocadelaw02.ParseBrackets': WHATEVER THE INPUT: true; the input reads as it did. -/
def parseBracketsSpec : ChangeSpec := { name := "parseBrackets", fn := fun _ => fun
  | [d1, d2] => { results := [.lit (.bool true)], args := [d1, d2] }
  | _ => none }
def parseBracketsRow : OpenClaim := { program := "ytkjmjnddanhapaa", sum := "c371a803c6baf880a158ee704c63ca7fe931797d3b1e5e5abf12a4ee2dbe3534", func := "brocade/brocadelaw02.ParseBrackets", spec := "parseBrackets", inPlace := ["internal/bytealg.IndexByteString", "internal/bytealg.IndexString"], unfollowed := true, recurses := true, named := ["internal/bytealg.MaxLen"], apart := false }
def ParseBracketsSaid : Prop := parseBracketsRow.holds Try.pinned (OpenSpec.ofChange parseBracketsSpec)

/-- ITS FALSE NEIGHBOUR: 'it returns false'. Refute it at one input. -/
def parseBracketsWrong : ChangeSpec := { name := "parseBrackets", fn := fun _ => fun
  | [d1, d2] => { results := [.lit (.bool false)], args := [d1, d2] }
  | _ => none }
def ParseBracketsWrongFalsely : Prop := parseBracketsRow.holds Try.pinned (OpenSpec.ofChange parseBracketsWrong)

/-- 'brocadelaw02.ParseCut': WHATEVER THE INPUT: true; the input reads as it did. -/
def parseCutSpec : ChangeSpec := { name := "parseCut", fn := fun _ => fun
  | [d1, d2] => { results := [.lit (.bool true)], args := [d1, d2] }
  | _ => none }
def parseCutRow : OpenClaim := { program := "ytkjmjnddanhapaa", sum := "c371a803c6baf880a158ee704c63ca7fe931797d3b1e5e5abf12a4ee2dbe3534", func := "brocade/brocadelaw02.ParseCut", spec := "parseCut", inPlace := ["internal/bytealg.IndexByteString", "internal/bytealg.IndexString"], unfollowed := true, recurses := true, named := ["internal/bytealg.MaxLen"], apart := false }
def ParseCutSaid : Prop := parseCutRow.holds Try.pinned (OpenSpec.ofChange parseCutSpec)

/-- ITS FALSE NEIGHBOUR: 'it returns false'. Refute it at one input. -/
def parseCutWrong : ChangeSpec := { name := "parseCut", fn := fun _ => fun
  | [d1, d2] => { results := [.lit (.bool false)], args := [d1, d2] }
  | _ => none }
def ParseCutWrongFalsely : Prop := parseCutRow.holds Try.pinned (OpenSpec.ofChange parseCutWrong)

/-- 'brocadelaw02.ParseSides': WHATEVER THE INPUT: true; the input reads as it did. -/
def parseSidesSpec : ChangeSpec := { name := "parseSides", fn := fun _ => fun
  | [d1, d2] => { results := [.lit (.bool true)], args := [d1, d2] }
  | _ => none }
def parseSidesRow : OpenClaim := { program := "ytkjmjnddanhapaa", sum := "c371a803c6baf880a158ee704c63ca7fe931797d3b1e5e5abf12a4ee2dbe3534", func := "brocade/brocadelaw02.ParseSides", spec := "parseSides", inPlace := ["internal/bytealg.IndexByteString", "internal/bytealg.IndexString"], unfollowed := true, recurses := true, named := ["internal/bytealg.MaxLen"], apart := false }
def ParseSidesSaid : Prop := parseSidesRow.holds Try.pinned (OpenSpec.ofChange parseSidesSpec)

/-- ITS FALSE NEIGHBOUR: 'it returns false'. Refute it at one input. -/
def parseSidesWrong : ChangeSpec := { name := "parseSides", fn := fun _ => fun
  | [d1, d2] => { results := [.lit (.bool false)], args := [d1, d2] }
  | _ => none }
def ParseSidesWrongFalsely : Prop := parseSidesRow.holds Try.pinned (OpenSpec.ofChange parseSidesWrong)

/-- 'brocadelaw02.ParseNames': WHATEVER THE INPUT: true; the input reads as it did. -/
def parseNamesSpec : ChangeSpec := { name := "parseNames", fn := fun _ => fun
  | [d] => { results := [.lit (.bool true)], args := [d] }
  | _ => none }
def parseNamesRow : OpenClaim := { program := "ytkjmjnddanhapaa", sum := "c371a803c6baf880a158ee704c63ca7fe931797d3b1e5e5abf12a4ee2dbe3534", func := "brocade/brocadelaw02.ParseNames", spec := "parseNames", inPlace := ["internal/bytealg.IndexByteString", "internal/bytealg.IndexString"], unfollowed := true, recurses := true, named := ["internal/bytealg.MaxLen"], apart := false }
def ParseNamesSaid : Prop := parseNamesRow.holds Try.pinned (OpenSpec.ofChange parseNamesSpec)

/-- ITS FALSE NEIGHBOUR: 'it returns false'. Refute it at one input. -/
def parseNamesWrong : ChangeSpec := { name := "parseNames", fn := fun _ => fun
  | [d] => { results := [.lit (.bool false)], args := [d] }
  | _ => none }
def ParseNamesWrongFalsely : Prop := parseNamesRow.holds Try.pinned (OpenSpec.ofChange parseNamesWrong)

/-- 'brocadelaw02.ParseApps': WHATEVER THE INPUT: true; the input reads as it did. -/
def parseAppsSpec : ChangeSpec := { name := "parseApps", fn := fun _ => fun
  | [d] => { results := [.lit (.bool true)], args := [d] }
  | _ => none }
def parseAppsRow : OpenClaim := { program := "ytkjmjnddanhapaa", sum := "c371a803c6baf880a158ee704c63ca7fe931797d3b1e5e5abf12a4ee2dbe3534", func := "brocade/brocadelaw02.ParseApps", spec := "parseApps", inPlace := ["internal/bytealg.IndexByteString", "internal/bytealg.IndexString"], unfollowed := true, recurses := true, named := ["internal/bytealg.MaxLen"], apart := false }
def ParseAppsSaid : Prop := parseAppsRow.holds Try.pinned (OpenSpec.ofChange parseAppsSpec)

/-- ITS FALSE NEIGHBOUR: 'it returns false'. Refute it at one input. -/
def parseAppsWrong : ChangeSpec := { name := "parseApps", fn := fun _ => fun
  | [d] => { results := [.lit (.bool false)], args := [d] }
  | _ => none }
def ParseAppsWrongFalsely : Prop := parseAppsRow.holds Try.pinned (OpenSpec.ofChange parseAppsWrong)

/-- 'brocadelaw02.ParseNests': WHATEVER THE INPUT: true; the input reads as it did. -/
def parseNestsSpec : ChangeSpec := { name := "parseNests", fn := fun _ => fun
  | [d1, d2] => { results := [.lit (.bool true)], args := [d1, d2] }
  | _ => none }
def parseNestsRow : OpenClaim := { program := "ytkjmjnddanhapaa", sum := "c371a803c6baf880a158ee704c63ca7fe931797d3b1e5e5abf12a4ee2dbe3534", func := "brocade/brocadelaw02.ParseNests", spec := "parseNests", inPlace := ["internal/bytealg.IndexByteString", "internal/bytealg.IndexString"], unfollowed := true, recurses := true, named := ["internal/bytealg.MaxLen"], apart := false }
def ParseNestsSaid : Prop := parseNestsRow.holds Try.pinned (OpenSpec.ofChange parseNestsSpec)

/-- ITS FALSE NEIGHBOUR: 'it returns false'. Refute it at one input. -/
def parseNestsWrong : ChangeSpec := { name := "parseNests", fn := fun _ => fun
  | [d1, d2] => { results := [.lit (.bool false)], args := [d1, d2] }
  | _ => none }
def ParseNestsWrongFalsely : Prop := parseNestsRow.holds Try.pinned (OpenSpec.ofChange parseNestsWrong)

/-- 'brocadelaw02.ParseArms': WHATEVER THE INPUT: true; the input reads as it did. -/
def parseArmsSpec : ChangeSpec := { name := "parseArms", fn := fun _ => fun
  | [d1, d2] => { results := [.lit (.bool true)], args := [d1, d2] }
  | _ => none }
def parseArmsRow : OpenClaim := { program := "ytkjmjnddanhapaa", sum := "c371a803c6baf880a158ee704c63ca7fe931797d3b1e5e5abf12a4ee2dbe3534", func := "brocade/brocadelaw02.ParseArms", spec := "parseArms", inPlace := ["internal/bytealg.IndexByteString", "internal/bytealg.IndexString"], unfollowed := true, recurses := true, named := ["internal/bytealg.MaxLen"], apart := false }
def ParseArmsSaid : Prop := parseArmsRow.holds Try.pinned (OpenSpec.ofChange parseArmsSpec)

/-- ITS FALSE NEIGHBOUR: 'it returns false'. Refute it at one input. -/
def parseArmsWrong : ChangeSpec := { name := "parseArms", fn := fun _ => fun
  | [d1, d2] => { results := [.lit (.bool false)], args := [d1, d2] }
  | _ => none }
def ParseArmsWrongFalsely : Prop := parseArmsRow.holds Try.pinned (OpenSpec.ofChange parseArmsWrong)

/-- 'brocadelaw02.ParseDeclares': WHATEVER THE INPUT: true; the input reads as it did. -/
def parseDeclaresSpec : ChangeSpec := { name := "parseDeclares", fn := fun _ => fun
  | [d] => { results := [.lit (.bool true)], args := [d] }
  | _ => none }
def parseDeclaresRow : OpenClaim := { program := "ytkjmjnddanhapaa", sum := "c371a803c6baf880a158ee704c63ca7fe931797d3b1e5e5abf12a4ee2dbe3534", func := "brocade/brocadelaw02.ParseDeclares", spec := "parseDeclares", inPlace := ["internal/bytealg.IndexByteString", "internal/bytealg.IndexString"], unfollowed := true, recurses := true, named := ["internal/bytealg.MaxLen"], apart := false }
def ParseDeclaresSaid : Prop := parseDeclaresRow.holds Try.pinned (OpenSpec.ofChange parseDeclaresSpec)

/-- ITS FALSE NEIGHBOUR: 'it returns false'. Refute it at one input. -/
def parseDeclaresWrong : ChangeSpec := { name := "parseDeclares", fn := fun _ => fun
  | [d] => { results := [.lit (.bool false)], args := [d] }
  | _ => none }
def ParseDeclaresWrongFalsely : Prop := parseDeclaresRow.holds Try.pinned (OpenSpec.ofChange parseDeclaresWrong)

/-- 'brocadelaw02.ParseWords': WHATEVER THE INPUT: true; the input reads as it did. -/
def parseWordsSpec : ChangeSpec := { name := "parseWords", fn := fun _ => fun
  | [d] => { results := [.lit (.bool true)], args := [d] }
  | _ => none }
def parseWordsRow : OpenClaim := { program := "ytkjmjnddanhapaa", sum := "c371a803c6baf880a158ee704c63ca7fe931797d3b1e5e5abf12a4ee2dbe3534", func := "brocade/brocadelaw02.ParseWords", spec := "parseWords", inPlace := ["internal/bytealg.IndexByteString", "internal/bytealg.IndexString", "internal/abi.NoEscape", "internal/bytealg.MakeNoZero"], unfollowed := true, recurses := true, named := ["internal/bytealg.MaxLen"], apart := false }
def ParseWordsSaid : Prop := parseWordsRow.holds Try.pinned (OpenSpec.ofChange parseWordsSpec)

/-- ITS FALSE NEIGHBOUR: 'it returns false'. Refute it at one input. -/
def parseWordsWrong : ChangeSpec := { name := "parseWords", fn := fun _ => fun
  | [d] => { results := [.lit (.bool false)], args := [d] }
  | _ => none }
def ParseWordsWrongFalsely : Prop := parseWordsRow.holds Try.pinned (OpenSpec.ofChange parseWordsWrong)

/- THE SECOND FORM. 'bulk': how many values and letters a reading holds, each counted each time it is reached (what is shared counts as often as it is met; a slice's spare places count too). A statement '..UptoSaid' is the law's where the arguments, and the package variables that the reading takes, are together of bulk at most 1048576: NARROWER than '..Said'. Prove '..Said' where nothing that the law and all that it calls make is longer than what came in: it says more and counts as full. Else prove '..UptoSaid'. A law counts once. -/
mutual
def uptoBulk {H : Type} : DataW H → Nat
  | .lit (.string bytes) => bytes.length + 1
  | .lit _ => 1
  | .nil => 1
  | .ptr d => uptoBulk d + 1
  | .slice elems spare => uptoBulkAll elems + uptoBulkAll spare + 1
  | .agg parts => uptoBulkAll parts + 1
  | .iface _ d => uptoBulk d + 1
  | .map entries => uptoBulkEntries entries + 1
  | .held _ => 1
def uptoBulkAll {H : Type} : List (DataW H) → Nat
  | [] => 0
  | d :: r => uptoBulk d + uptoBulkAll r
def uptoBulkEntries {H : Type} : List (Lit × DataW H) → Nat
  | [] => 0
  | x :: r => uptoBulkEntry x + uptoBulkEntries r
def uptoBulkEntry {H : Type} : Lit × DataW H → Nat
  | (.string bytes, d) => bytes.length + uptoBulk d + 1
  | (_, d) => uptoBulk d + 1
 end
def uptoSmall : (H : Type) → List (DataW H) → Bool := fun _ ds => decide (uptoBulkAll ds ≤ 1048576)
def OpenSpec.upto (s : _root_.Go.ChangeSpec) : _root_.Go.OpenSpec := { _root_.Go.OpenSpec.ofChange s with cond := some uptoSmall }

/-- 'brocadelaw02.ParseBrackets', WHERE WHAT IT READS IS OF BULK AT MOST 1048576: true; the input reads as it did. -/
def parseBracketsUptoRow : OpenClaim := { program := "ytkjmjnddanhapaa", sum := "c371a803c6baf880a158ee704c63ca7fe931797d3b1e5e5abf12a4ee2dbe3534", func := "brocade/brocadelaw02.ParseBrackets", spec := "parseBrackets", inPlace := ["internal/bytealg.IndexByteString", "internal/bytealg.IndexString"], unfollowed := true, recurses := true, named := ["internal/bytealg.MaxLen"], apart := false, narrowed := true }
def ParseBracketsUptoSaid : Prop := parseBracketsUptoRow.holds Try.pinned (OpenSpec.upto parseBracketsSpec)

/-- 'brocadelaw02.ParseCut', WHERE WHAT IT READS IS OF BULK AT MOST 1048576: true; the input reads as it did. -/
def parseCutUptoRow : OpenClaim := { program := "ytkjmjnddanhapaa", sum := "c371a803c6baf880a158ee704c63ca7fe931797d3b1e5e5abf12a4ee2dbe3534", func := "brocade/brocadelaw02.ParseCut", spec := "parseCut", inPlace := ["internal/bytealg.IndexByteString", "internal/bytealg.IndexString"], unfollowed := true, recurses := true, named := ["internal/bytealg.MaxLen"], apart := false, narrowed := true }
def ParseCutUptoSaid : Prop := parseCutUptoRow.holds Try.pinned (OpenSpec.upto parseCutSpec)

/-- 'brocadelaw02.ParseSides', WHERE WHAT IT READS IS OF BULK AT MOST 1048576: true; the input reads as it did. -/
def parseSidesUptoRow : OpenClaim := { program := "ytkjmjnddanhapaa", sum := "c371a803c6baf880a158ee704c63ca7fe931797d3b1e5e5abf12a4ee2dbe3534", func := "brocade/brocadelaw02.ParseSides", spec := "parseSides", inPlace := ["internal/bytealg.IndexByteString", "internal/bytealg.IndexString"], unfollowed := true, recurses := true, named := ["internal/bytealg.MaxLen"], apart := false, narrowed := true }
def ParseSidesUptoSaid : Prop := parseSidesUptoRow.holds Try.pinned (OpenSpec.upto parseSidesSpec)

/-- 'brocadelaw02.ParseNames', WHERE WHAT IT READS IS OF BULK AT MOST 1048576: true; the input reads as it did. -/
def parseNamesUptoRow : OpenClaim := { program := "ytkjmjnddanhapaa", sum := "c371a803c6baf880a158ee704c63ca7fe931797d3b1e5e5abf12a4ee2dbe3534", func := "brocade/brocadelaw02.ParseNames", spec := "parseNames", inPlace := ["internal/bytealg.IndexByteString", "internal/bytealg.IndexString"], unfollowed := true, recurses := true, named := ["internal/bytealg.MaxLen"], apart := false, narrowed := true }
def ParseNamesUptoSaid : Prop := parseNamesUptoRow.holds Try.pinned (OpenSpec.upto parseNamesSpec)

/-- 'brocadelaw02.ParseApps', WHERE WHAT IT READS IS OF BULK AT MOST 1048576: true; the input reads as it did. -/
def parseAppsUptoRow : OpenClaim := { program := "ytkjmjnddanhapaa", sum := "c371a803c6baf880a158ee704c63ca7fe931797d3b1e5e5abf12a4ee2dbe3534", func := "brocade/brocadelaw02.ParseApps", spec := "parseApps", inPlace := ["internal/bytealg.IndexByteString", "internal/bytealg.IndexString"], unfollowed := true, recurses := true, named := ["internal/bytealg.MaxLen"], apart := false, narrowed := true }
def ParseAppsUptoSaid : Prop := parseAppsUptoRow.holds Try.pinned (OpenSpec.upto parseAppsSpec)

/-- 'brocadelaw02.ParseNests', WHERE WHAT IT READS IS OF BULK AT MOST 1048576: true; the input reads as it did. -/
def parseNestsUptoRow : OpenClaim := { program := "ytkjmjnddanhapaa", sum := "c371a803c6baf880a158ee704c63ca7fe931797d3b1e5e5abf12a4ee2dbe3534", func := "brocade/brocadelaw02.ParseNests", spec := "parseNests", inPlace := ["internal/bytealg.IndexByteString", "internal/bytealg.IndexString"], unfollowed := true, recurses := true, named := ["internal/bytealg.MaxLen"], apart := false, narrowed := true }
def ParseNestsUptoSaid : Prop := parseNestsUptoRow.holds Try.pinned (OpenSpec.upto parseNestsSpec)

/-- 'brocadelaw02.ParseArms', WHERE WHAT IT READS IS OF BULK AT MOST 1048576: true; the input reads as it did. -/
def parseArmsUptoRow : OpenClaim := { program := "ytkjmjnddanhapaa", sum := "c371a803c6baf880a158ee704c63ca7fe931797d3b1e5e5abf12a4ee2dbe3534", func := "brocade/brocadelaw02.ParseArms", spec := "parseArms", inPlace := ["internal/bytealg.IndexByteString", "internal/bytealg.IndexString"], unfollowed := true, recurses := true, named := ["internal/bytealg.MaxLen"], apart := false, narrowed := true }
def ParseArmsUptoSaid : Prop := parseArmsUptoRow.holds Try.pinned (OpenSpec.upto parseArmsSpec)

/-- 'brocadelaw02.ParseDeclares', WHERE WHAT IT READS IS OF BULK AT MOST 1048576: true; the input reads as it did. -/
def parseDeclaresUptoRow : OpenClaim := { program := "ytkjmjnddanhapaa", sum := "c371a803c6baf880a158ee704c63ca7fe931797d3b1e5e5abf12a4ee2dbe3534", func := "brocade/brocadelaw02.ParseDeclares", spec := "parseDeclares", inPlace := ["internal/bytealg.IndexByteString", "internal/bytealg.IndexString"], unfollowed := true, recurses := true, named := ["internal/bytealg.MaxLen"], apart := false, narrowed := true }
def ParseDeclaresUptoSaid : Prop := parseDeclaresUptoRow.holds Try.pinned (OpenSpec.upto parseDeclaresSpec)

/-- 'brocadelaw02.ParseWords', WHERE WHAT IT READS IS OF BULK AT MOST 1048576: true; the input reads as it did. -/
def parseWordsUptoRow : OpenClaim := { program := "ytkjmjnddanhapaa", sum := "c371a803c6baf880a158ee704c63ca7fe931797d3b1e5e5abf12a4ee2dbe3534", func := "brocade/brocadelaw02.ParseWords", spec := "parseWords", inPlace := ["internal/bytealg.IndexByteString", "internal/bytealg.IndexString", "internal/abi.NoEscape", "internal/bytealg.MakeNoZero"], unfollowed := true, recurses := true, named := ["internal/bytealg.MaxLen"], apart := false, narrowed := true }
def ParseWordsUptoSaid : Prop := parseWordsUptoRow.holds Try.pinned (OpenSpec.upto parseWordsSpec)

end Rows
end Go.Proofs.Ytkjmjnddanhapaa
