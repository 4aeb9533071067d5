/-
  NARROWER THAN 'FOR EVERY INPUT', by the rows' own cells (each row's printed sentence says how): LivenessMatchesReference: loops, calm · LivenessEquations: loops · LivenessPaths: loops · LivenessLeast: loops, calm · LivenessInserted: loops · LivenessExchanged: loops.
  DERIVED. THE GIVEN ROWS OF THIS SEAT. 6 by the template 'for every input the law returns true; each argument reads behind the call as it read before'; 0 by the template 'total and deterministic' (their statements: YtdkjkgokllmkmaaGreatDoorTotals.lean).
  GIVEN WITH THE SEED: the statements are not yours to turn. If you find one false, say at which input.
  Laid BY PROGRAM, IN A SANDBOX (cutbox-rows.mjs): the forced cells as the released guide's own fill.sh prints them over the translation ec9fd11cb74e01ab… (all of the seat's roots in one cut). By AI agents, Wed Nov 11 2026. No macro, syntax, notation, axiom, sorry.
-/
import Derived.Test.YtdkjkgokllmkmaaGreatDoorChecked
import GoSem.Claim
import GoSem.ClaimJoined
import GoSem.ClaimMapViews
import Derived.JoinedTies
import Derived.KernelRfl
namespace Go.Proofs.YtdkjkgokllmkmaaGreatDoor
/- THE CELL 'sum', in the pinned program and in every row, IS THE sha256 OF THE DUMP (.gsa) THAT YtdkjkgokllmkmaaGreatDoorProg.lean LOADS. Nothing in Lean hashes anything: it is a label: what it is worth is what the hold of that sum in a sandbox is worth. -/
noncomputable def Tryz.pinned : Pinned := { name := "ytdkjkgokllmkmaagreatdoor", sum := "ec9fd11cb74e01ab76221971597e1f2bd34c0529e66fa19bcfdac1cdcfbe0b99", checked := Tryz.checked }
namespace Rows
def none {H : Type} : Left H := { results := [], args := [] }

/-- 'leaseholdlaw12.LivenessMatchesReference': WHATEVER THE INPUT: true; the input reads as it did. -/
def livenessMatchesReferenceSpec : ChangeSpec := { name := "livenessMatchesReference", fn := fun _ => fun
  | [d] => { results := [.lit (.bool true)], args := [d] }
  | _ => none }
def livenessMatchesReferenceRow : OpenClaim := { program := "ytdkjkgokllmkmaagreatdoor", sum := "ec9fd11cb74e01ab76221971597e1f2bd34c0529e66fa19bcfdac1cdcfbe0b99", func := "leasehold/leaseholdlaw12.LivenessMatchesReference", spec := "livenessMatchesReference", unfollowed := true, recurses := true, named := ["leasehold/graph.num"], loops := true, apart := false, calm := true, outside := [.timePasses] }
def LivenessMatchesReferenceSaid : Prop := livenessMatchesReferenceRow.holds Tryz.pinned (OpenSpec.ofChange livenessMatchesReferenceSpec)

/-- ITS FALSE NEIGHBOUR: 'it returns false'. Refute it at one input. -/
def livenessMatchesReferenceWrong : ChangeSpec := { name := "livenessMatchesReference", fn := fun _ => fun
  | [d] => { results := [.lit (.bool false)], args := [d] }
  | _ => none }
def LivenessMatchesReferenceWrongFalsely : Prop := livenessMatchesReferenceRow.holds Tryz.pinned (OpenSpec.ofChange livenessMatchesReferenceWrong)

/-- 'leaseholdlaw12.LivenessEquations': WHATEVER THE INPUT: true; the input reads as it did. -/
def livenessEquationsSpec : ChangeSpec := { name := "livenessEquations", fn := fun _ => fun
  | [d] => { results := [.lit (.bool true)], args := [d] }
  | _ => none }
def livenessEquationsRow : OpenClaim := { program := "ytdkjkgokllmkmaagreatdoor", sum := "ec9fd11cb74e01ab76221971597e1f2bd34c0529e66fa19bcfdac1cdcfbe0b99", func := "leasehold/leaseholdlaw12.LivenessEquations", spec := "livenessEquations", unfollowed := true, recurses := true, named := ["leasehold/graph.num"], loops := true, apart := false }
def LivenessEquationsSaid : Prop := livenessEquationsRow.holds Tryz.pinned (OpenSpec.ofChange livenessEquationsSpec)

/-- ITS FALSE NEIGHBOUR: 'it returns false'. Refute it at one input. -/
def livenessEquationsWrong : ChangeSpec := { name := "livenessEquations", fn := fun _ => fun
  | [d] => { results := [.lit (.bool false)], args := [d] }
  | _ => none }
def LivenessEquationsWrongFalsely : Prop := livenessEquationsRow.holds Tryz.pinned (OpenSpec.ofChange livenessEquationsWrong)

/-- 'leaseholdlaw12.LivenessPaths': WHATEVER THE INPUT: true; the input reads as it did. -/
def livenessPathsSpec : ChangeSpec := { name := "livenessPaths", fn := fun _ => fun
  | [d1, d2, d3] => { results := [.lit (.bool true)], args := [d1, d2, d3] }
  | _ => none }
def livenessPathsRow : OpenClaim := { program := "ytdkjkgokllmkmaagreatdoor", sum := "ec9fd11cb74e01ab76221971597e1f2bd34c0529e66fa19bcfdac1cdcfbe0b99", func := "leasehold/leaseholdlaw12.LivenessPaths", spec := "livenessPaths", unfollowed := true, recurses := true, named := ["leasehold/graph.num"], loops := true, apart := false }
def LivenessPathsSaid : Prop := livenessPathsRow.holds Tryz.pinned (OpenSpec.ofChange livenessPathsSpec)

/-- ITS FALSE NEIGHBOUR: 'it returns false'. Refute it at one input. -/
def livenessPathsWrong : ChangeSpec := { name := "livenessPaths", fn := fun _ => fun
  | [d1, d2, d3] => { results := [.lit (.bool false)], args := [d1, d2, d3] }
  | _ => none }
def LivenessPathsWrongFalsely : Prop := livenessPathsRow.holds Tryz.pinned (OpenSpec.ofChange livenessPathsWrong)

/-- 'leaseholdlaw12.LivenessLeast': WHATEVER THE INPUT: true; the input reads as it did. -/
def livenessLeastSpec : ChangeSpec := { name := "livenessLeast", fn := fun _ => fun
  | [d1, d2] => { results := [.lit (.bool true)], args := [d1, d2] }
  | _ => none }
def livenessLeastRow : OpenClaim := { program := "ytdkjkgokllmkmaagreatdoor", sum := "ec9fd11cb74e01ab76221971597e1f2bd34c0529e66fa19bcfdac1cdcfbe0b99", func := "leasehold/leaseholdlaw12.LivenessLeast", spec := "livenessLeast", unfollowed := true, recurses := true, named := ["leasehold/graph.num"], loops := true, apart := false, calm := true, outside := [.timePasses] }
def LivenessLeastSaid : Prop := livenessLeastRow.holds Tryz.pinned (OpenSpec.ofChange livenessLeastSpec)

/-- ITS FALSE NEIGHBOUR: 'it returns false'. Refute it at one input. -/
def livenessLeastWrong : ChangeSpec := { name := "livenessLeast", fn := fun _ => fun
  | [d1, d2] => { results := [.lit (.bool false)], args := [d1, d2] }
  | _ => none }
def LivenessLeastWrongFalsely : Prop := livenessLeastRow.holds Tryz.pinned (OpenSpec.ofChange livenessLeastWrong)

/-- 'leaseholdlaw12.LivenessInserted': WHATEVER THE INPUT: true; the input reads as it did. -/
def livenessInsertedSpec : ChangeSpec := { name := "livenessInserted", fn := fun _ => fun
  | [d1, d2, d3] => { results := [.lit (.bool true)], args := [d1, d2, d3] }
  | _ => none }
def livenessInsertedRow : OpenClaim := { program := "ytdkjkgokllmkmaagreatdoor", sum := "ec9fd11cb74e01ab76221971597e1f2bd34c0529e66fa19bcfdac1cdcfbe0b99", func := "leasehold/leaseholdlaw12.LivenessInserted", spec := "livenessInserted", unfollowed := true, recurses := true, named := ["leasehold/graph.num"], loops := true, apart := false }
def LivenessInsertedSaid : Prop := livenessInsertedRow.holds Tryz.pinned (OpenSpec.ofChange livenessInsertedSpec)

/-- ITS FALSE NEIGHBOUR: 'it returns false'. Refute it at one input. -/
def livenessInsertedWrong : ChangeSpec := { name := "livenessInserted", fn := fun _ => fun
  | [d1, d2, d3] => { results := [.lit (.bool false)], args := [d1, d2, d3] }
  | _ => none }
def LivenessInsertedWrongFalsely : Prop := livenessInsertedRow.holds Tryz.pinned (OpenSpec.ofChange livenessInsertedWrong)

/-- 'leaseholdlaw12.LivenessExchanged': WHATEVER THE INPUT: true; the input reads as it did. -/
def livenessExchangedSpec : ChangeSpec := { name := "livenessExchanged", fn := fun _ => fun
  | [d1, d2, d3] => { results := [.lit (.bool true)], args := [d1, d2, d3] }
  | _ => none }
def livenessExchangedRow : OpenClaim := { program := "ytdkjkgokllmkmaagreatdoor", sum := "ec9fd11cb74e01ab76221971597e1f2bd34c0529e66fa19bcfdac1cdcfbe0b99", func := "leasehold/leaseholdlaw12.LivenessExchanged", spec := "livenessExchanged", unfollowed := true, recurses := true, named := ["leasehold/graph.num"], loops := true, apart := false }
def LivenessExchangedSaid : Prop := livenessExchangedRow.holds Tryz.pinned (OpenSpec.ofChange livenessExchangedSpec)

/-- ITS FALSE NEIGHBOUR: 'it returns false'. Refute it at one input. -/
def livenessExchangedWrong : ChangeSpec := { name := "livenessExchanged", fn := fun _ => fun
  | [d1, d2, d3] => { results := [.lit (.bool false)], args := [d1, d2, d3] }
  | _ => none }
def LivenessExchangedWrongFalsely : Prop := livenessExchangedRow.holds Tryz.pinned (OpenSpec.ofChange livenessExchangedWrong)

/- THE SECOND FORM. 'bulk': how many values and letters a reading holds, each counted each time it is reached (what is shared counts as often as it is met; a slice's spare places count too). A statement '..UptoSaid' is the law's where the arguments, and the package variables that the reading takes, are together of bulk at most 1048576: NARROWER than '..Said'. Prove '..Said' where nothing that the law and all that it calls make is longer than what came in: it says more and counts as full. Else prove '..UptoSaid'. A law counts once. -/
mutual
def uptoBulk {H : Type} : DataW H → Nat
  | .lit (.string bytes) => bytes.length + 1
  | .lit _ => 1
  | .nil => 1
  | .ptr d => uptoBulk d + 1
  | .slice elems spare => uptoBulkAll elems + uptoBulkAll spare + 1
  | .agg parts => uptoBulkAll parts + 1
  | .iface _ d => uptoBulk d + 1
  | .map entries => uptoBulkEntries entries + 1
  | .held _ => 1
def uptoBulkAll {H : Type} : List (DataW H) → Nat
  | [] => 0
  | d :: r => uptoBulk d + uptoBulkAll r
def uptoBulkEntries {H : Type} : List (Lit × DataW H) → Nat
  | [] => 0
  | x :: r => uptoBulkEntry x + uptoBulkEntries r
def uptoBulkEntry {H : Type} : Lit × DataW H → Nat
  | (.string bytes, d) => bytes.length + uptoBulk d + 1
  | (_, d) => uptoBulk d + 1
 end
def uptoSmall : (H : Type) → List (DataW H) → Bool := fun _ ds => decide (uptoBulkAll ds ≤ 1048576)
def OpenSpec.upto (s : _root_.Go.ChangeSpec) : _root_.Go.OpenSpec := { _root_.Go.OpenSpec.ofChange s with cond := some uptoSmall }

/-- 'leaseholdlaw12.LivenessEquations', WHERE WHAT IT READS IS OF BULK AT MOST 1048576: true; the input reads as it did. -/
def livenessEquationsUptoRow : OpenClaim := { program := "ytdkjkgokllmkmaagreatdoor", sum := "ec9fd11cb74e01ab76221971597e1f2bd34c0529e66fa19bcfdac1cdcfbe0b99", func := "leasehold/leaseholdlaw12.LivenessEquations", spec := "livenessEquations", unfollowed := true, recurses := true, named := ["leasehold/graph.num"], loops := true, apart := false, narrowed := true }
def LivenessEquationsUptoSaid : Prop := livenessEquationsUptoRow.holds Tryz.pinned (OpenSpec.upto livenessEquationsSpec)

/-- 'leaseholdlaw12.LivenessPaths', WHERE WHAT IT READS IS OF BULK AT MOST 1048576: true; the input reads as it did. -/
def livenessPathsUptoRow : OpenClaim := { program := "ytdkjkgokllmkmaagreatdoor", sum := "ec9fd11cb74e01ab76221971597e1f2bd34c0529e66fa19bcfdac1cdcfbe0b99", func := "leasehold/leaseholdlaw12.LivenessPaths", spec := "livenessPaths", unfollowed := true, recurses := true, named := ["leasehold/graph.num"], loops := true, apart := false, narrowed := true }
def LivenessPathsUptoSaid : Prop := livenessPathsUptoRow.holds Tryz.pinned (OpenSpec.upto livenessPathsSpec)

/-- 'leaseholdlaw12.LivenessInserted', WHERE WHAT IT READS IS OF BULK AT MOST 1048576: true; the input reads as it did. -/
def livenessInsertedUptoRow : OpenClaim := { program := "ytdkjkgokllmkmaagreatdoor", sum := "ec9fd11cb74e01ab76221971597e1f2bd34c0529e66fa19bcfdac1cdcfbe0b99", func := "leasehold/leaseholdlaw12.LivenessInserted", spec := "livenessInserted", unfollowed := true, recurses := true, named := ["leasehold/graph.num"], loops := true, apart := false, narrowed := true }
def LivenessInsertedUptoSaid : Prop := livenessInsertedUptoRow.holds Tryz.pinned (OpenSpec.upto livenessInsertedSpec)

/-- 'leaseholdlaw12.LivenessExchanged', WHERE WHAT IT READS IS OF BULK AT MOST 1048576: true; the input reads as it did. -/
def livenessExchangedUptoRow : OpenClaim := { program := "ytdkjkgokllmkmaagreatdoor", sum := "ec9fd11cb74e01ab76221971597e1f2bd34c0529e66fa19bcfdac1cdcfbe0b99", func := "leasehold/leaseholdlaw12.LivenessExchanged", spec := "livenessExchanged", unfollowed := true, recurses := true, named := ["leasehold/graph.num"], loops := true, apart := false, narrowed := true }
def LivenessExchangedUptoSaid : Prop := livenessExchangedUptoRow.holds Tryz.pinned (OpenSpec.upto livenessExchangedSpec)

end Rows
end Go.Proofs.YtdkjkgokllmkmaaGreatDoor
