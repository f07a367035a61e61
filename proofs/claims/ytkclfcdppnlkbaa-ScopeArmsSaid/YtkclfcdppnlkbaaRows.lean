/-
  NARROWER THAN 'FOR EVERY INPUT', by the rows' own cells (each row's printed sentence says how): ScopeChecks: loops · ScopeFinds: loops · ScopeUnbound: loops · ScopeFirst: loops · ScopeBinds: loops · ScopeMore: loops.
  DERIVED. THE GIVEN ROWS OF THIS SEAT. 7 by the template 'for every input the law returns true; each argument reads behind the call as it read before'; 0 by the template 'total and deterministic' (their statements: YtkclfcdppnlkbaaTotals.lean).
  GIVEN WITH THE SEED: the statements are not yours to turn. If you find one false, say at which input.
  Laid BY PROGRAM, IN A SANDBOX (cutbox-rows.mjs): the forced cells as the released guide's own fill.sh prints them over the translation b4c83c64c1e40ce1… (all of the seat's roots in one cut). By AI agents, Wed Nov 11 2026. No macro, syntax, notation, axiom, sorry.
-/
import Derived.Test.YtkclfcdppnlkbaaChecked
import GoSem.Claim
import GoSem.ClaimJoined
import GoSem.ClaimMapViews
import Derived.JoinedTies
import Derived.KernelRfl
namespace Go.Proofs.Ytkclfcdppnlkbaa
/- THE CELL 'sum', in the pinned program and in every row, IS THE sha256 OF THE DUMP (.gsa) THAT YtkclfcdppnlkbaaProg.lean LOADS. Nothing in Lean hashes anything: it is a label: what it is worth is what the hold of that sum in a sandbox is worth. -/
noncomputable def Try.pinned : Pinned := { name := "ytkclfcdppnlkbaa", sum := "b4c83c64c1e40ce105afd83b0cf7cdc9d0f9c44519cd5d9f9cf0fcd07a0ad35b", checked := Try.checked }
namespace Rows
def none {H : Type} : Left H := { results := [], args := [] }

/-- 'brocadelaw06.ScopeChecks': WHATEVER THE INPUT: true; the input reads as it did. -/
def scopeChecksSpec : ChangeSpec := { name := "scopeChecks", fn := fun _ => fun
  | [d] => { results := [.lit (.bool true)], args := [d] }
  | _ => none }
def scopeChecksRow : OpenClaim := { program := "ytkclfcdppnlkbaa", sum := "b4c83c64c1e40ce105afd83b0cf7cdc9d0f9c44519cd5d9f9cf0fcd07a0ad35b", func := "brocade/brocadelaw06.ScopeChecks", spec := "scopeChecks", unfollowed := true, recurses := true, loops := true, apart := false }
def ScopeChecksSaid : Prop := scopeChecksRow.holds Try.pinned (OpenSpec.ofChange scopeChecksSpec)

/-- ITS FALSE NEIGHBOUR: 'it returns false'. Refute it at one input. -/
def scopeChecksWrong : ChangeSpec := { name := "scopeChecks", fn := fun _ => fun
  | [d] => { results := [.lit (.bool false)], args := [d] }
  | _ => none }
def ScopeChecksWrongFalsely : Prop := scopeChecksRow.holds Try.pinned (OpenSpec.ofChange scopeChecksWrong)

/-- 'brocadelaw06.ScopeFinds': WHATEVER THE INPUT: true; the input reads as it did. -/
def scopeFindsSpec : ChangeSpec := { name := "scopeFinds", fn := fun _ => fun
  | [d1, d2] => { results := [.lit (.bool true)], args := [d1, d2] }
  | _ => none }
def scopeFindsRow : OpenClaim := { program := "ytkclfcdppnlkbaa", sum := "b4c83c64c1e40ce105afd83b0cf7cdc9d0f9c44519cd5d9f9cf0fcd07a0ad35b", func := "brocade/brocadelaw06.ScopeFinds", spec := "scopeFinds", unfollowed := true, recurses := true, loops := true, apart := false }
def ScopeFindsSaid : Prop := scopeFindsRow.holds Try.pinned (OpenSpec.ofChange scopeFindsSpec)

/-- ITS FALSE NEIGHBOUR: 'it returns false'. Refute it at one input. -/
def scopeFindsWrong : ChangeSpec := { name := "scopeFinds", fn := fun _ => fun
  | [d1, d2] => { results := [.lit (.bool false)], args := [d1, d2] }
  | _ => none }
def ScopeFindsWrongFalsely : Prop := scopeFindsRow.holds Try.pinned (OpenSpec.ofChange scopeFindsWrong)

/-- 'brocadelaw06.ScopeUnbound': WHATEVER THE INPUT: true; the input reads as it did. -/
def scopeUnboundSpec : ChangeSpec := { name := "scopeUnbound", fn := fun _ => fun
  | [d1, d2, d3] => { results := [.lit (.bool true)], args := [d1, d2, d3] }
  | _ => none }
def scopeUnboundRow : OpenClaim := { program := "ytkclfcdppnlkbaa", sum := "b4c83c64c1e40ce105afd83b0cf7cdc9d0f9c44519cd5d9f9cf0fcd07a0ad35b", func := "brocade/brocadelaw06.ScopeUnbound", spec := "scopeUnbound", unfollowed := true, recurses := true, loops := true, apart := false }
def ScopeUnboundSaid : Prop := scopeUnboundRow.holds Try.pinned (OpenSpec.ofChange scopeUnboundSpec)

/-- ITS FALSE NEIGHBOUR: 'it returns false'. Refute it at one input. -/
def scopeUnboundWrong : ChangeSpec := { name := "scopeUnbound", fn := fun _ => fun
  | [d1, d2, d3] => { results := [.lit (.bool false)], args := [d1, d2, d3] }
  | _ => none }
def ScopeUnboundWrongFalsely : Prop := scopeUnboundRow.holds Try.pinned (OpenSpec.ofChange scopeUnboundWrong)

/-- 'brocadelaw06.ScopeFirst': WHATEVER THE INPUT: true; the input reads as it did. -/
def scopeFirstSpec : ChangeSpec := { name := "scopeFirst", fn := fun _ => fun
  | [d1, d2, d3] => { results := [.lit (.bool true)], args := [d1, d2, d3] }
  | _ => none }
def scopeFirstRow : OpenClaim := { program := "ytkclfcdppnlkbaa", sum := "b4c83c64c1e40ce105afd83b0cf7cdc9d0f9c44519cd5d9f9cf0fcd07a0ad35b", func := "brocade/brocadelaw06.ScopeFirst", spec := "scopeFirst", unfollowed := true, recurses := true, loops := true, apart := false }
def ScopeFirstSaid : Prop := scopeFirstRow.holds Try.pinned (OpenSpec.ofChange scopeFirstSpec)

/-- ITS FALSE NEIGHBOUR: 'it returns false'. Refute it at one input. -/
def scopeFirstWrong : ChangeSpec := { name := "scopeFirst", fn := fun _ => fun
  | [d1, d2, d3] => { results := [.lit (.bool false)], args := [d1, d2, d3] }
  | _ => none }
def ScopeFirstWrongFalsely : Prop := scopeFirstRow.holds Try.pinned (OpenSpec.ofChange scopeFirstWrong)

/-- 'brocadelaw06.ScopeBinds': WHATEVER THE INPUT: true; the input reads as it did. -/
def scopeBindsSpec : ChangeSpec := { name := "scopeBinds", fn := fun _ => fun
  | [d1, d2, d3] => { results := [.lit (.bool true)], args := [d1, d2, d3] }
  | _ => none }
def scopeBindsRow : OpenClaim := { program := "ytkclfcdppnlkbaa", sum := "b4c83c64c1e40ce105afd83b0cf7cdc9d0f9c44519cd5d9f9cf0fcd07a0ad35b", func := "brocade/brocadelaw06.ScopeBinds", spec := "scopeBinds", unfollowed := true, recurses := true, loops := true, apart := false }
def ScopeBindsSaid : Prop := scopeBindsRow.holds Try.pinned (OpenSpec.ofChange scopeBindsSpec)

/-- ITS FALSE NEIGHBOUR: 'it returns false'. Refute it at one input. -/
def scopeBindsWrong : ChangeSpec := { name := "scopeBinds", fn := fun _ => fun
  | [d1, d2, d3] => { results := [.lit (.bool false)], args := [d1, d2, d3] }
  | _ => none }
def ScopeBindsWrongFalsely : Prop := scopeBindsRow.holds Try.pinned (OpenSpec.ofChange scopeBindsWrong)

/-- 'brocadelaw06.ScopeMore': WHATEVER THE INPUT: true; the input reads as it did. -/
def scopeMoreSpec : ChangeSpec := { name := "scopeMore", fn := fun _ => fun
  | [d1, d2, d3, d4] => { results := [.lit (.bool true)], args := [d1, d2, d3, d4] }
  | _ => none }
def scopeMoreRow : OpenClaim := { program := "ytkclfcdppnlkbaa", sum := "b4c83c64c1e40ce105afd83b0cf7cdc9d0f9c44519cd5d9f9cf0fcd07a0ad35b", func := "brocade/brocadelaw06.ScopeMore", spec := "scopeMore", unfollowed := true, recurses := true, loops := true, apart := false }
def ScopeMoreSaid : Prop := scopeMoreRow.holds Try.pinned (OpenSpec.ofChange scopeMoreSpec)

/-- ITS FALSE NEIGHBOUR: 'it returns false'. Refute it at one input. -/
def scopeMoreWrong : ChangeSpec := { name := "scopeMore", fn := fun _ => fun
  | [d1, d2, d3, d4] => { results := [.lit (.bool false)], args := [d1, d2, d3, d4] }
  | _ => none }
def ScopeMoreWrongFalsely : Prop := scopeMoreRow.holds Try.pinned (OpenSpec.ofChange scopeMoreWrong)

/-- 'brocadelaw06.ScopeArms': WHATEVER THE INPUT: true; the input reads as it did. -/
def scopeArmsSpec : ChangeSpec := { name := "scopeArms", fn := fun _ => fun
  | [d1, d2, d3] => { results := [.lit (.bool true)], args := [d1, d2, d3] }
  | _ => none }
def scopeArmsRow : OpenClaim := { program := "ytkclfcdppnlkbaa", sum := "b4c83c64c1e40ce105afd83b0cf7cdc9d0f9c44519cd5d9f9cf0fcd07a0ad35b", func := "brocade/brocadelaw06.ScopeArms", spec := "scopeArms", unfollowed := true, recurses := true, apart := false }
def ScopeArmsSaid : Prop := scopeArmsRow.holds Try.pinned (OpenSpec.ofChange scopeArmsSpec)

/-- ITS FALSE NEIGHBOUR: 'it returns false'. Refute it at one input. -/
def scopeArmsWrong : ChangeSpec := { name := "scopeArms", fn := fun _ => fun
  | [d1, d2, d3] => { results := [.lit (.bool false)], args := [d1, d2, d3] }
  | _ => none }
def ScopeArmsWrongFalsely : Prop := scopeArmsRow.holds Try.pinned (OpenSpec.ofChange scopeArmsWrong)

/- THE SECOND FORM. 'bulk': how many values and letters a reading holds, each counted each time it is reached (what is shared counts as often as it is met; a slice's spare places count too). A statement '..UptoSaid' is the law's where the arguments, and the package variables that the reading takes, are together of bulk at most 1048576: NARROWER than '..Said'. Prove '..Said' where nothing that the law and all that it calls make is longer than what came in: it says more and counts as full. Else prove '..UptoSaid'. A law counts once. -/
mutual
def uptoBulk {H : Type} : DataW H → Nat
  | .lit (.string bytes) => bytes.length + 1
  | .lit _ => 1
  | .nil => 1
  | .ptr d => uptoBulk d + 1
  | .slice elems spare => uptoBulkAll elems + uptoBulkAll spare + 1
  | .agg parts => uptoBulkAll parts + 1
  | .iface _ d => uptoBulk d + 1
  | .map entries => uptoBulkEntries entries + 1
  | .held _ => 1
def uptoBulkAll {H : Type} : List (DataW H) → Nat
  | [] => 0
  | d :: r => uptoBulk d + uptoBulkAll r
def uptoBulkEntries {H : Type} : List (Lit × DataW H) → Nat
  | [] => 0
  | x :: r => uptoBulkEntry x + uptoBulkEntries r
def uptoBulkEntry {H : Type} : Lit × DataW H → Nat
  | (.string bytes, d) => bytes.length + uptoBulk d + 1
  | (_, d) => uptoBulk d + 1
 end
def uptoSmall : (H : Type) → List (DataW H) → Bool := fun _ ds => decide (uptoBulkAll ds ≤ 1048576)
def OpenSpec.upto (s : _root_.Go.ChangeSpec) : _root_.Go.OpenSpec := { _root_.Go.OpenSpec.ofChange s with cond := some uptoSmall }

/-- 'brocadelaw06.ScopeChecks', WHERE WHAT IT READS IS OF BULK AT MOST 1048576: true; the input reads as it did. -/
def scopeChecksUptoRow : OpenClaim := { program := "ytkclfcdppnlkbaa", sum := "b4c83c64c1e40ce105afd83b0cf7cdc9d0f9c44519cd5d9f9cf0fcd07a0ad35b", func := "brocade/brocadelaw06.ScopeChecks", spec := "scopeChecks", unfollowed := true, recurses := true, loops := true, apart := false, narrowed := true }
def ScopeChecksUptoSaid : Prop := scopeChecksUptoRow.holds Try.pinned (OpenSpec.upto scopeChecksSpec)

/-- 'brocadelaw06.ScopeFinds', WHERE WHAT IT READS IS OF BULK AT MOST 1048576: true; the input reads as it did. -/
def scopeFindsUptoRow : OpenClaim := { program := "ytkclfcdppnlkbaa", sum := "b4c83c64c1e40ce105afd83b0cf7cdc9d0f9c44519cd5d9f9cf0fcd07a0ad35b", func := "brocade/brocadelaw06.ScopeFinds", spec := "scopeFinds", unfollowed := true, recurses := true, loops := true, apart := false, narrowed := true }
def ScopeFindsUptoSaid : Prop := scopeFindsUptoRow.holds Try.pinned (OpenSpec.upto scopeFindsSpec)

/-- 'brocadelaw06.ScopeUnbound', WHERE WHAT IT READS IS OF BULK AT MOST 1048576: true; the input reads as it did. -/
def scopeUnboundUptoRow : OpenClaim := { program := "ytkclfcdppnlkbaa", sum := "b4c83c64c1e40ce105afd83b0cf7cdc9d0f9c44519cd5d9f9cf0fcd07a0ad35b", func := "brocade/brocadelaw06.ScopeUnbound", spec := "scopeUnbound", unfollowed := true, recurses := true, loops := true, apart := false, narrowed := true }
def ScopeUnboundUptoSaid : Prop := scopeUnboundUptoRow.holds Try.pinned (OpenSpec.upto scopeUnboundSpec)

/-- 'brocadelaw06.ScopeFirst', WHERE WHAT IT READS IS OF BULK AT MOST 1048576: true; the input reads as it did. -/
def scopeFirstUptoRow : OpenClaim := { program := "ytkclfcdppnlkbaa", sum := "b4c83c64c1e40ce105afd83b0cf7cdc9d0f9c44519cd5d9f9cf0fcd07a0ad35b", func := "brocade/brocadelaw06.ScopeFirst", spec := "scopeFirst", unfollowed := true, recurses := true, loops := true, apart := false, narrowed := true }
def ScopeFirstUptoSaid : Prop := scopeFirstUptoRow.holds Try.pinned (OpenSpec.upto scopeFirstSpec)

/-- 'brocadelaw06.ScopeBinds', WHERE WHAT IT READS IS OF BULK AT MOST 1048576: true; the input reads as it did. -/
def scopeBindsUptoRow : OpenClaim := { program := "ytkclfcdppnlkbaa", sum := "b4c83c64c1e40ce105afd83b0cf7cdc9d0f9c44519cd5d9f9cf0fcd07a0ad35b", func := "brocade/brocadelaw06.ScopeBinds", spec := "scopeBinds", unfollowed := true, recurses := true, loops := true, apart := false, narrowed := true }
def ScopeBindsUptoSaid : Prop := scopeBindsUptoRow.holds Try.pinned (OpenSpec.upto scopeBindsSpec)

/-- 'brocadelaw06.ScopeMore', WHERE WHAT IT READS IS OF BULK AT MOST 1048576: true; the input reads as it did. -/
def scopeMoreUptoRow : OpenClaim := { program := "ytkclfcdppnlkbaa", sum := "b4c83c64c1e40ce105afd83b0cf7cdc9d0f9c44519cd5d9f9cf0fcd07a0ad35b", func := "brocade/brocadelaw06.ScopeMore", spec := "scopeMore", unfollowed := true, recurses := true, loops := true, apart := false, narrowed := true }
def ScopeMoreUptoSaid : Prop := scopeMoreUptoRow.holds Try.pinned (OpenSpec.upto scopeMoreSpec)

/-- 'brocadelaw06.ScopeArms', WHERE WHAT IT READS IS OF BULK AT MOST 1048576: true; the input reads as it did. -/
def scopeArmsUptoRow : OpenClaim := { program := "ytkclfcdppnlkbaa", sum := "b4c83c64c1e40ce105afd83b0cf7cdc9d0f9c44519cd5d9f9cf0fcd07a0ad35b", func := "brocade/brocadelaw06.ScopeArms", spec := "scopeArms", unfollowed := true, recurses := true, apart := false, narrowed := true }
def ScopeArmsUptoSaid : Prop := scopeArmsUptoRow.holds Try.pinned (OpenSpec.upto scopeArmsSpec)

end Rows
end Go.Proofs.Ytkclfcdppnlkbaa
