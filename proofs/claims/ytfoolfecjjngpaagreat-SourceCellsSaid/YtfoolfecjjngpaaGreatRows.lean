/-
  NARROWER THAN 'FOR EVERY INPUT', by the rows' own cells (each row's printed sentence says how): SourceHandles: loops · SourceForks: loops · SourceBehind: loops.
  DERIVED. THE GIVEN ROWS OF THIS SEAT. 8 by the template 'for every input the law returns true; each argument reads behind the call as it read before'; 0 by the template 'total and deterministic' (their statements: YtfoolfecjjngpaaGreatTotals.lean).
  GIVEN WITH THE SEED: the statements are not yours to turn. If you find one false, say at which input.
  Laid BY PROGRAM, IN A SANDBOX (cutbox-rows.mjs): the forced cells as the released guide's own fill.sh prints them over the translation 83429505da2c7276… (all of the seat's roots in one cut). By AI agents, Wed Nov 11 2026. No macro, syntax, notation, axiom, sorry.
-/
import Derived.Test.YtfoolfecjjngpaaGreatChecked
import GoSem.Claim
import GoSem.ClaimJoined
import GoSem.ClaimMapViews
import Derived.JoinedTies
import Derived.KernelRfl
namespace Go.Proofs.YtfoolfecjjngpaaGreat
/- THE CELL 'sum', in the pinned program and in every row, IS THE sha256 OF THE DUMP (.gsa) THAT YtfoolfecjjngpaaGreatProg.lean LOADS. Nothing in Lean hashes anything: it is a label: what it is worth is what the hold of that sum in a sandbox is worth. -/
noncomputable def Tryz.pinned : Pinned := { name := "ytfoolfecjjngpaagreat", sum := "83429505da2c7276b618711783b02918124f51c137ea3fdfe853c9d120990f67", checked := Tryz.checked }
namespace Rows
def none {H : Type} : Left H := { results := [], args := [] }

/-- 'brocadelaw12.SourceHandles': WHATEVER THE INPUT: true; the input reads as it did. -/
def sourceHandlesSpec : ChangeSpec := { name := "sourceHandles", fn := fun _ => fun
  | [d1, d2] => { results := [.lit (.bool true)], args := [d1, d2] }
  | _ => none }
def sourceHandlesRow : OpenClaim := { program := "ytfoolfecjjngpaagreat", sum := "83429505da2c7276b618711783b02918124f51c137ea3fdfe853c9d120990f67", func := "brocade/brocadelaw12.SourceHandles", spec := "sourceHandles", inPlace := ["internal/bytealg.IndexByteString", "internal/bytealg.IndexString"], unfollowed := true, recurses := true, named := ["internal/bytealg.MaxLen"], loops := true, apart := false }
def SourceHandlesSaid : Prop := sourceHandlesRow.holds Tryz.pinned (OpenSpec.ofChange sourceHandlesSpec)

/-- ITS FALSE NEIGHBOUR: 'it returns false'. Refute it at one input. -/
def sourceHandlesWrong : ChangeSpec := { name := "sourceHandles", fn := fun _ => fun
  | [d1, d2] => { results := [.lit (.bool false)], args := [d1, d2] }
  | _ => none }
def SourceHandlesWrongFalsely : Prop := sourceHandlesRow.holds Tryz.pinned (OpenSpec.ofChange sourceHandlesWrong)

/-- 'brocadelaw12.SourceAnswers': WHATEVER THE INPUT: true; the input reads as it did. -/
def sourceAnswersSpec : ChangeSpec := { name := "sourceAnswers", fn := fun _ => fun
  | [d1, d2, d3] => { results := [.lit (.bool true)], args := [d1, d2, d3] }
  | _ => none }
def sourceAnswersRow : OpenClaim := { program := "ytfoolfecjjngpaagreat", sum := "83429505da2c7276b618711783b02918124f51c137ea3fdfe853c9d120990f67", func := "brocade/brocadelaw12.SourceAnswers", spec := "sourceAnswers", inPlace := ["internal/bytealg.IndexByteString", "internal/bytealg.IndexString"], unfollowed := true, recurses := true, named := ["internal/bytealg.MaxLen"], apart := false }
def SourceAnswersSaid : Prop := sourceAnswersRow.holds Tryz.pinned (OpenSpec.ofChange sourceAnswersSpec)

/-- ITS FALSE NEIGHBOUR: 'it returns false'. Refute it at one input. -/
def sourceAnswersWrong : ChangeSpec := { name := "sourceAnswers", fn := fun _ => fun
  | [d1, d2, d3] => { results := [.lit (.bool false)], args := [d1, d2, d3] }
  | _ => none }
def SourceAnswersWrongFalsely : Prop := sourceAnswersRow.holds Tryz.pinned (OpenSpec.ofChange sourceAnswersWrong)

/-- 'brocadelaw12.SourceForks': WHATEVER THE INPUT: true; the input reads as it did. -/
def sourceForksSpec : ChangeSpec := { name := "sourceForks", fn := fun _ => fun
  | [d1, d2, d3, d4] => { results := [.lit (.bool true)], args := [d1, d2, d3, d4] }
  | _ => none }
def sourceForksRow : OpenClaim := { program := "ytfoolfecjjngpaagreat", sum := "83429505da2c7276b618711783b02918124f51c137ea3fdfe853c9d120990f67", func := "brocade/brocadelaw12.SourceForks", spec := "sourceForks", inPlace := ["internal/bytealg.IndexByteString", "internal/bytealg.IndexString"], unfollowed := true, recurses := true, named := ["internal/bytealg.MaxLen"], loops := true, apart := false }
def SourceForksSaid : Prop := sourceForksRow.holds Tryz.pinned (OpenSpec.ofChange sourceForksSpec)

/-- ITS FALSE NEIGHBOUR: 'it returns false'. Refute it at one input. -/
def sourceForksWrong : ChangeSpec := { name := "sourceForks", fn := fun _ => fun
  | [d1, d2, d3, d4] => { results := [.lit (.bool false)], args := [d1, d2, d3, d4] }
  | _ => none }
def SourceForksWrongFalsely : Prop := sourceForksRow.holds Tryz.pinned (OpenSpec.ofChange sourceForksWrong)

/-- 'brocadelaw12.SourceBehind': WHATEVER THE INPUT: true; the input reads as it did. -/
def sourceBehindSpec : ChangeSpec := { name := "sourceBehind", fn := fun _ => fun
  | [d1, d2, d3] => { results := [.lit (.bool true)], args := [d1, d2, d3] }
  | _ => none }
def sourceBehindRow : OpenClaim := { program := "ytfoolfecjjngpaagreat", sum := "83429505da2c7276b618711783b02918124f51c137ea3fdfe853c9d120990f67", func := "brocade/brocadelaw12.SourceBehind", spec := "sourceBehind", inPlace := ["internal/bytealg.IndexByteString", "internal/bytealg.IndexString"], unfollowed := true, recurses := true, named := ["internal/bytealg.MaxLen"], loops := true, apart := false }
def SourceBehindSaid : Prop := sourceBehindRow.holds Tryz.pinned (OpenSpec.ofChange sourceBehindSpec)

/-- ITS FALSE NEIGHBOUR: 'it returns false'. Refute it at one input. -/
def sourceBehindWrong : ChangeSpec := { name := "sourceBehind", fn := fun _ => fun
  | [d1, d2, d3] => { results := [.lit (.bool false)], args := [d1, d2, d3] }
  | _ => none }
def SourceBehindWrongFalsely : Prop := sourceBehindRow.holds Tryz.pinned (OpenSpec.ofChange sourceBehindWrong)

/-- 'brocadelaw12.SourceReads': WHATEVER THE INPUT: true; the input reads as it did. -/
def sourceReadsSpec : ChangeSpec := { name := "sourceReads", fn := fun _ => fun
  | [d1, d2] => { results := [.lit (.bool true)], args := [d1, d2] }
  | _ => none }
def sourceReadsRow : OpenClaim := { program := "ytfoolfecjjngpaagreat", sum := "83429505da2c7276b618711783b02918124f51c137ea3fdfe853c9d120990f67", func := "brocade/brocadelaw12.SourceReads", spec := "sourceReads", inPlace := ["internal/bytealg.IndexByteString", "internal/bytealg.IndexString"], unfollowed := true, recurses := true, named := ["internal/bytealg.MaxLen"], apart := false }
def SourceReadsSaid : Prop := sourceReadsRow.holds Tryz.pinned (OpenSpec.ofChange sourceReadsSpec)

/-- ITS FALSE NEIGHBOUR: 'it returns false'. Refute it at one input. -/
def sourceReadsWrong : ChangeSpec := { name := "sourceReads", fn := fun _ => fun
  | [d1, d2] => { results := [.lit (.bool false)], args := [d1, d2] }
  | _ => none }
def SourceReadsWrongFalsely : Prop := sourceReadsRow.holds Tryz.pinned (OpenSpec.ofChange sourceReadsWrong)

/-- 'brocadelaw12.SourceCells': WHATEVER THE INPUT: true; the input reads as it did. -/
def sourceCellsSpec : ChangeSpec := { name := "sourceCells", fn := fun _ => fun
  | [d1, d2] => { results := [.lit (.bool true)], args := [d1, d2] }
  | _ => none }
def sourceCellsRow : OpenClaim := { program := "ytfoolfecjjngpaagreat", sum := "83429505da2c7276b618711783b02918124f51c137ea3fdfe853c9d120990f67", func := "brocade/brocadelaw12.SourceCells", spec := "sourceCells", inPlace := ["internal/bytealg.IndexByteString", "internal/bytealg.IndexString"], unfollowed := true, recurses := true, named := ["internal/bytealg.MaxLen"], apart := false }
def SourceCellsSaid : Prop := sourceCellsRow.holds Tryz.pinned (OpenSpec.ofChange sourceCellsSpec)

/-- ITS FALSE NEIGHBOUR: 'it returns false'. Refute it at one input. -/
def sourceCellsWrong : ChangeSpec := { name := "sourceCells", fn := fun _ => fun
  | [d1, d2] => { results := [.lit (.bool false)], args := [d1, d2] }
  | _ => none }
def SourceCellsWrongFalsely : Prop := sourceCellsRow.holds Tryz.pinned (OpenSpec.ofChange sourceCellsWrong)

/-- 'brocadelaw12.SourceNests': WHATEVER THE INPUT: true; the input reads as it did. -/
def sourceNestsSpec : ChangeSpec := { name := "sourceNests", fn := fun _ => fun
  | [d1, d2] => { results := [.lit (.bool true)], args := [d1, d2] }
  | _ => none }
def sourceNestsRow : OpenClaim := { program := "ytfoolfecjjngpaagreat", sum := "83429505da2c7276b618711783b02918124f51c137ea3fdfe853c9d120990f67", func := "brocade/brocadelaw12.SourceNests", spec := "sourceNests", inPlace := ["internal/bytealg.IndexByteString", "internal/bytealg.IndexString"], unfollowed := true, recurses := true, named := ["internal/bytealg.MaxLen"], apart := false }
def SourceNestsSaid : Prop := sourceNestsRow.holds Tryz.pinned (OpenSpec.ofChange sourceNestsSpec)

/-- ITS FALSE NEIGHBOUR: 'it returns false'. Refute it at one input. -/
def sourceNestsWrong : ChangeSpec := { name := "sourceNests", fn := fun _ => fun
  | [d1, d2] => { results := [.lit (.bool false)], args := [d1, d2] }
  | _ => none }
def SourceNestsWrongFalsely : Prop := sourceNestsRow.holds Tryz.pinned (OpenSpec.ofChange sourceNestsWrong)

/-- 'brocadelaw12.SourceLarge': WHATEVER THE INPUT: true; the input reads as it did. -/
def sourceLargeSpec : ChangeSpec := { name := "sourceLarge", fn := fun _ => fun
  | [d1, d2] => { results := [.lit (.bool true)], args := [d1, d2] }
  | _ => none }
def sourceLargeRow : OpenClaim := { program := "ytfoolfecjjngpaagreat", sum := "83429505da2c7276b618711783b02918124f51c137ea3fdfe853c9d120990f67", func := "brocade/brocadelaw12.SourceLarge", spec := "sourceLarge", inPlace := ["internal/bytealg.IndexByteString", "internal/bytealg.IndexString"], unfollowed := true, recurses := true, named := ["internal/bytealg.MaxLen"], apart := false }
def SourceLargeSaid : Prop := sourceLargeRow.holds Tryz.pinned (OpenSpec.ofChange sourceLargeSpec)

/-- ITS FALSE NEIGHBOUR: 'it returns false'. Refute it at one input. -/
def sourceLargeWrong : ChangeSpec := { name := "sourceLarge", fn := fun _ => fun
  | [d1, d2] => { results := [.lit (.bool false)], args := [d1, d2] }
  | _ => none }
def SourceLargeWrongFalsely : Prop := sourceLargeRow.holds Tryz.pinned (OpenSpec.ofChange sourceLargeWrong)

/- THE SECOND FORM. 'bulk': how many values and letters a reading holds, each counted each time it is reached (what is shared counts as often as it is met; a slice's spare places count too). A statement '..UptoSaid' is the law's where the arguments, and the package variables that the reading takes, are together of bulk at most 1048576: NARROWER than '..Said'. Prove '..Said' where nothing that the law and all that it calls make is longer than what came in: it says more and counts as full. Else prove '..UptoSaid'. A law counts once. -/
mutual
def uptoBulk {H : Type} : DataW H → Nat
  | .lit (.string bytes) => bytes.length + 1
  | .lit _ => 1
  | .nil => 1
  | .ptr d => uptoBulk d + 1
  | .slice elems spare => uptoBulkAll elems + uptoBulkAll spare + 1
  | .agg parts => uptoBulkAll parts + 1
  | .iface _ d => uptoBulk d + 1
  | .map entries => uptoBulkEntries entries + 1
  | .held _ => 1
def uptoBulkAll {H : Type} : List (DataW H) → Nat
  | [] => 0
  | d :: r => uptoBulk d + uptoBulkAll r
def uptoBulkEntries {H : Type} : List (Lit × DataW H) → Nat
  | [] => 0
  | x :: r => uptoBulkEntry x + uptoBulkEntries r
def uptoBulkEntry {H : Type} : Lit × DataW H → Nat
  | (.string bytes, d) => bytes.length + uptoBulk d + 1
  | (_, d) => uptoBulk d + 1
 end
def uptoSmall : (H : Type) → List (DataW H) → Bool := fun _ ds => decide (uptoBulkAll ds ≤ 1048576)
def OpenSpec.upto (s : _root_.Go.ChangeSpec) : _root_.Go.OpenSpec := { _root_.Go.OpenSpec.ofChange s with cond := some uptoSmall }

/-- 'brocadelaw12.SourceHandles', WHERE WHAT IT READS IS OF BULK AT MOST 1048576: true; the input reads as it did. -/
def sourceHandlesUptoRow : OpenClaim := { program := "ytfoolfecjjngpaagreat", sum := "83429505da2c7276b618711783b02918124f51c137ea3fdfe853c9d120990f67", func := "brocade/brocadelaw12.SourceHandles", spec := "sourceHandles", inPlace := ["internal/bytealg.IndexByteString", "internal/bytealg.IndexString"], unfollowed := true, recurses := true, named := ["internal/bytealg.MaxLen"], loops := true, apart := false, narrowed := true }
def SourceHandlesUptoSaid : Prop := sourceHandlesUptoRow.holds Tryz.pinned (OpenSpec.upto sourceHandlesSpec)

/-- 'brocadelaw12.SourceAnswers', WHERE WHAT IT READS IS OF BULK AT MOST 1048576: true; the input reads as it did. -/
def sourceAnswersUptoRow : OpenClaim := { program := "ytfoolfecjjngpaagreat", sum := "83429505da2c7276b618711783b02918124f51c137ea3fdfe853c9d120990f67", func := "brocade/brocadelaw12.SourceAnswers", spec := "sourceAnswers", inPlace := ["internal/bytealg.IndexByteString", "internal/bytealg.IndexString"], unfollowed := true, recurses := true, named := ["internal/bytealg.MaxLen"], apart := false, narrowed := true }
def SourceAnswersUptoSaid : Prop := sourceAnswersUptoRow.holds Tryz.pinned (OpenSpec.upto sourceAnswersSpec)

/-- 'brocadelaw12.SourceForks', WHERE WHAT IT READS IS OF BULK AT MOST 1048576: true; the input reads as it did. -/
def sourceForksUptoRow : OpenClaim := { program := "ytfoolfecjjngpaagreat", sum := "83429505da2c7276b618711783b02918124f51c137ea3fdfe853c9d120990f67", func := "brocade/brocadelaw12.SourceForks", spec := "sourceForks", inPlace := ["internal/bytealg.IndexByteString", "internal/bytealg.IndexString"], unfollowed := true, recurses := true, named := ["internal/bytealg.MaxLen"], loops := true, apart := false, narrowed := true }
def SourceForksUptoSaid : Prop := sourceForksUptoRow.holds Tryz.pinned (OpenSpec.upto sourceForksSpec)

/-- 'brocadelaw12.SourceBehind', WHERE WHAT IT READS IS OF BULK AT MOST 1048576: true; the input reads as it did. -/
def sourceBehindUptoRow : OpenClaim := { program := "ytfoolfecjjngpaagreat", sum := "83429505da2c7276b618711783b02918124f51c137ea3fdfe853c9d120990f67", func := "brocade/brocadelaw12.SourceBehind", spec := "sourceBehind", inPlace := ["internal/bytealg.IndexByteString", "internal/bytealg.IndexString"], unfollowed := true, recurses := true, named := ["internal/bytealg.MaxLen"], loops := true, apart := false, narrowed := true }
def SourceBehindUptoSaid : Prop := sourceBehindUptoRow.holds Tryz.pinned (OpenSpec.upto sourceBehindSpec)

/-- 'brocadelaw12.SourceReads', WHERE WHAT IT READS IS OF BULK AT MOST 1048576: true; the input reads as it did. -/
def sourceReadsUptoRow : OpenClaim := { program := "ytfoolfecjjngpaagreat", sum := "83429505da2c7276b618711783b02918124f51c137ea3fdfe853c9d120990f67", func := "brocade/brocadelaw12.SourceReads", spec := "sourceReads", inPlace := ["internal/bytealg.IndexByteString", "internal/bytealg.IndexString"], unfollowed := true, recurses := true, named := ["internal/bytealg.MaxLen"], apart := false, narrowed := true }
def SourceReadsUptoSaid : Prop := sourceReadsUptoRow.holds Tryz.pinned (OpenSpec.upto sourceReadsSpec)

/-- 'brocadelaw12.SourceCells', WHERE WHAT IT READS IS OF BULK AT MOST 1048576: true; the input reads as it did. -/
def sourceCellsUptoRow : OpenClaim := { program := "ytfoolfecjjngpaagreat", sum := "83429505da2c7276b618711783b02918124f51c137ea3fdfe853c9d120990f67", func := "brocade/brocadelaw12.SourceCells", spec := "sourceCells", inPlace := ["internal/bytealg.IndexByteString", "internal/bytealg.IndexString"], unfollowed := true, recurses := true, named := ["internal/bytealg.MaxLen"], apart := false, narrowed := true }
def SourceCellsUptoSaid : Prop := sourceCellsUptoRow.holds Tryz.pinned (OpenSpec.upto sourceCellsSpec)

/-- 'brocadelaw12.SourceNests', WHERE WHAT IT READS IS OF BULK AT MOST 1048576: true; the input reads as it did. -/
def sourceNestsUptoRow : OpenClaim := { program := "ytfoolfecjjngpaagreat", sum := "83429505da2c7276b618711783b02918124f51c137ea3fdfe853c9d120990f67", func := "brocade/brocadelaw12.SourceNests", spec := "sourceNests", inPlace := ["internal/bytealg.IndexByteString", "internal/bytealg.IndexString"], unfollowed := true, recurses := true, named := ["internal/bytealg.MaxLen"], apart := false, narrowed := true }
def SourceNestsUptoSaid : Prop := sourceNestsUptoRow.holds Tryz.pinned (OpenSpec.upto sourceNestsSpec)

/-- 'brocadelaw12.SourceLarge', WHERE WHAT IT READS IS OF BULK AT MOST 1048576: true; the input reads as it did. -/
def sourceLargeUptoRow : OpenClaim := { program := "ytfoolfecjjngpaagreat", sum := "83429505da2c7276b618711783b02918124f51c137ea3fdfe853c9d120990f67", func := "brocade/brocadelaw12.SourceLarge", spec := "sourceLarge", inPlace := ["internal/bytealg.IndexByteString", "internal/bytealg.IndexString"], unfollowed := true, recurses := true, named := ["internal/bytealg.MaxLen"], apart := false, narrowed := true }
def SourceLargeUptoSaid : Prop := sourceLargeUptoRow.holds Tryz.pinned (OpenSpec.upto sourceLargeSpec)

end Rows
end Go.Proofs.YtfoolfecjjngpaaGreat
