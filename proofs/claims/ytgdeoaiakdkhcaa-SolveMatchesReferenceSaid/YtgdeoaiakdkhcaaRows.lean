/-
  No cell of these rows narrows 'for every input' (looked for: loops, veiled, ifaces, maps, wideKeys, modest, calm, conditions, laid).
  DERIVED. THE GIVEN ROWS OF THIS SEAT. 7 by the template 'for every input the law returns true; each argument reads behind the call as it read before'; 0 by the template 'total and deterministic' (their statements: YtgdeoaiakdkhcaaTotals.lean).
  GIVEN WITH THE SEED: the statements are not yours to turn. If you find one false, say at which input.
  Laid BY PROGRAM, IN A SANDBOX (cutbox-rows.mjs): the forced cells as the released guide's own fill.sh prints them over the translation 657ecb7fe5b0e497… (all of the seat's roots in one cut). By AI agents, Wed Nov 11 2026. No macro, syntax, notation, axiom, sorry.
-/
import Derived.Test.YtgdeoaiakdkhcaaChecked
import GoSem.Claim
import GoSem.ClaimJoined
import GoSem.ClaimMapViews
import Derived.JoinedTies
import Derived.KernelRfl
namespace Go.Proofs.Ytgdeoaiakdkhcaa
/- THE CELL 'sum', in the pinned program and in every row, IS THE sha256 OF THE DUMP (.gsa) THAT YtgdeoaiakdkhcaaProg.lean LOADS. Nothing in Lean hashes anything: it is a label: what it is worth is what the hold of that sum in a sandbox is worth. -/
noncomputable def Try.pinned : Pinned := { name := "ytgdeoaiakdkhcaa", sum := "657ecb7fe5b0e497e824e198e70477009b23f4e706c6789ecde9ffa4f0b8830f", checked := Try.checked }
namespace Rows
def none {H : Type} : Left H := { results := [], args := [] }

/-- 'slotmeshlaw33.SolveMatchesReference': WHATEVER THE INPUT: true; the input reads as it did. -/
def solveMatchesReferenceSpec : ChangeSpec := { name := "solveMatchesReference", fn := fun _ => fun
  | [d1, d2, d3, d4] => { results := [.lit (.bool true)], args := [d1, d2, d3, d4] }
  | _ => none }
def solveMatchesReferenceRow : OpenClaim := { program := "ytgdeoaiakdkhcaa", sum := "657ecb7fe5b0e497e824e198e70477009b23f4e706c6789ecde9ffa4f0b8830f", func := "slotmesh/slotmeshlaw33.SolveMatchesReference", spec := "solveMatchesReference", unfollowed := true, recurses := true, apart := false }
def SolveMatchesReferenceSaid : Prop := solveMatchesReferenceRow.holds Try.pinned (OpenSpec.ofChange solveMatchesReferenceSpec)

/-- ITS FALSE NEIGHBOUR: 'it returns false'. Refute it at one input. -/
def solveMatchesReferenceWrong : ChangeSpec := { name := "solveMatchesReference", fn := fun _ => fun
  | [d1, d2, d3, d4] => { results := [.lit (.bool false)], args := [d1, d2, d3, d4] }
  | _ => none }
def SolveMatchesReferenceWrongFalsely : Prop := solveMatchesReferenceRow.holds Try.pinned (OpenSpec.ofChange solveMatchesReferenceWrong)

/-- 'slotmeshlaw33.SolveValid': WHATEVER THE INPUT: true; the input reads as it did. -/
def solveValidSpec : ChangeSpec := { name := "solveValid", fn := fun _ => fun
  | [d1, d2] => { results := [.lit (.bool true)], args := [d1, d2] }
  | _ => none }
def solveValidRow : OpenClaim := { program := "ytgdeoaiakdkhcaa", sum := "657ecb7fe5b0e497e824e198e70477009b23f4e706c6789ecde9ffa4f0b8830f", func := "slotmesh/slotmeshlaw33.SolveValid", spec := "solveValid", unfollowed := true, recurses := true, apart := false }
def SolveValidSaid : Prop := solveValidRow.holds Try.pinned (OpenSpec.ofChange solveValidSpec)

/-- ITS FALSE NEIGHBOUR: 'it returns false'. Refute it at one input. -/
def solveValidWrong : ChangeSpec := { name := "solveValid", fn := fun _ => fun
  | [d1, d2] => { results := [.lit (.bool false)], args := [d1, d2] }
  | _ => none }
def SolveValidWrongFalsely : Prop := solveValidRow.holds Try.pinned (OpenSpec.ofChange solveValidWrong)

/-- 'slotmeshlaw33.SolveTruth': WHATEVER THE INPUT: true; the input reads as it did. -/
def solveTruthSpec : ChangeSpec := { name := "solveTruth", fn := fun _ => fun
  | [d1, d2, d3, d4] => { results := [.lit (.bool true)], args := [d1, d2, d3, d4] }
  | _ => none }
def solveTruthRow : OpenClaim := { program := "ytgdeoaiakdkhcaa", sum := "657ecb7fe5b0e497e824e198e70477009b23f4e706c6789ecde9ffa4f0b8830f", func := "slotmesh/slotmeshlaw33.SolveTruth", spec := "solveTruth", unfollowed := true, recurses := true, apart := false }
def SolveTruthSaid : Prop := solveTruthRow.holds Try.pinned (OpenSpec.ofChange solveTruthSpec)

/-- ITS FALSE NEIGHBOUR: 'it returns false'. Refute it at one input. -/
def solveTruthWrong : ChangeSpec := { name := "solveTruth", fn := fun _ => fun
  | [d1, d2, d3, d4] => { results := [.lit (.bool false)], args := [d1, d2, d3, d4] }
  | _ => none }
def SolveTruthWrongFalsely : Prop := solveTruthRow.holds Try.pinned (OpenSpec.ofChange solveTruthWrong)

/-- 'slotmeshlaw33.SolveOrder': WHATEVER THE INPUT: true; the input reads as it did. -/
def solveOrderSpec : ChangeSpec := { name := "solveOrder", fn := fun _ => fun
  | [d1, d2, d3] => { results := [.lit (.bool true)], args := [d1, d2, d3] }
  | _ => none }
def solveOrderRow : OpenClaim := { program := "ytgdeoaiakdkhcaa", sum := "657ecb7fe5b0e497e824e198e70477009b23f4e706c6789ecde9ffa4f0b8830f", func := "slotmesh/slotmeshlaw33.SolveOrder", spec := "solveOrder", unfollowed := true, recurses := true, apart := false }
def SolveOrderSaid : Prop := solveOrderRow.holds Try.pinned (OpenSpec.ofChange solveOrderSpec)

/-- ITS FALSE NEIGHBOUR: 'it returns false'. Refute it at one input. -/
def solveOrderWrong : ChangeSpec := { name := "solveOrder", fn := fun _ => fun
  | [d1, d2, d3] => { results := [.lit (.bool false)], args := [d1, d2, d3] }
  | _ => none }
def SolveOrderWrongFalsely : Prop := solveOrderRow.holds Try.pinned (OpenSpec.ofChange solveOrderWrong)

/-- 'slotmeshlaw33.SolveFollows': WHATEVER THE INPUT: true; the input reads as it did. -/
def solveFollowsSpec : ChangeSpec := { name := "solveFollows", fn := fun _ => fun
  | [d1, d2] => { results := [.lit (.bool true)], args := [d1, d2] }
  | _ => none }
def solveFollowsRow : OpenClaim := { program := "ytgdeoaiakdkhcaa", sum := "657ecb7fe5b0e497e824e198e70477009b23f4e706c6789ecde9ffa4f0b8830f", func := "slotmesh/slotmeshlaw33.SolveFollows", spec := "solveFollows", unfollowed := true, recurses := true, apart := false }
def SolveFollowsSaid : Prop := solveFollowsRow.holds Try.pinned (OpenSpec.ofChange solveFollowsSpec)

/-- ITS FALSE NEIGHBOUR: 'it returns false'. Refute it at one input. -/
def solveFollowsWrong : ChangeSpec := { name := "solveFollows", fn := fun _ => fun
  | [d1, d2] => { results := [.lit (.bool false)], args := [d1, d2] }
  | _ => none }
def SolveFollowsWrongFalsely : Prop := solveFollowsRow.holds Try.pinned (OpenSpec.ofChange solveFollowsWrong)

/-- 'slotmeshlaw33.SolveSums': WHATEVER THE INPUT: true; the input reads as it did. -/
def solveSumsSpec : ChangeSpec := { name := "solveSums", fn := fun _ => fun
  | [d1, d2, d3] => { results := [.lit (.bool true)], args := [d1, d2, d3] }
  | _ => none }
def solveSumsRow : OpenClaim := { program := "ytgdeoaiakdkhcaa", sum := "657ecb7fe5b0e497e824e198e70477009b23f4e706c6789ecde9ffa4f0b8830f", func := "slotmesh/slotmeshlaw33.SolveSums", spec := "solveSums", unfollowed := true, recurses := true, apart := false }
def SolveSumsSaid : Prop := solveSumsRow.holds Try.pinned (OpenSpec.ofChange solveSumsSpec)

/-- ITS FALSE NEIGHBOUR: 'it returns false'. Refute it at one input. -/
def solveSumsWrong : ChangeSpec := { name := "solveSums", fn := fun _ => fun
  | [d1, d2, d3] => { results := [.lit (.bool false)], args := [d1, d2, d3] }
  | _ => none }
def SolveSumsWrongFalsely : Prop := solveSumsRow.holds Try.pinned (OpenSpec.ofChange solveSumsWrong)

/-- 'slotmeshlaw33.SolveEnough': WHATEVER THE INPUT: true; the input reads as it did. -/
def solveEnoughSpec : ChangeSpec := { name := "solveEnough", fn := fun _ => fun
  | [d] => { results := [.lit (.bool true)], args := [d] }
  | _ => none }
def solveEnoughRow : OpenClaim := { program := "ytgdeoaiakdkhcaa", sum := "657ecb7fe5b0e497e824e198e70477009b23f4e706c6789ecde9ffa4f0b8830f", func := "slotmesh/slotmeshlaw33.SolveEnough", spec := "solveEnough", unfollowed := true, recurses := true, apart := false }
def SolveEnoughSaid : Prop := solveEnoughRow.holds Try.pinned (OpenSpec.ofChange solveEnoughSpec)

/-- ITS FALSE NEIGHBOUR: 'it returns false'. Refute it at one input. -/
def solveEnoughWrong : ChangeSpec := { name := "solveEnough", fn := fun _ => fun
  | [d] => { results := [.lit (.bool false)], args := [d] }
  | _ => none }
def SolveEnoughWrongFalsely : Prop := solveEnoughRow.holds Try.pinned (OpenSpec.ofChange solveEnoughWrong)

/- THE SECOND FORM. 'bulk': how many values and letters a reading holds, each counted each time it is reached (what is shared counts as often as it is met; a slice's spare places count too). A statement '..UptoSaid' is the law's where the arguments, and the package variables that the reading takes, are together of bulk at most 1048576: NARROWER than '..Said'. Prove '..Said' where nothing that the law and all that it calls make is longer than what came in: it says more and counts as full. Else prove '..UptoSaid'. A law counts once. -/
mutual
def uptoBulk {H : Type} : DataW H → Nat
  | .lit (.string bytes) => bytes.length + 1
  | .lit _ => 1
  | .nil => 1
  | .ptr d => uptoBulk d + 1
  | .slice elems spare => uptoBulkAll elems + uptoBulkAll spare + 1
  | .agg parts => uptoBulkAll parts + 1
  | .iface _ d => uptoBulk d + 1
  | .map entries => uptoBulkEntries entries + 1
  | .held _ => 1
def uptoBulkAll {H : Type} : List (DataW H) → Nat
  | [] => 0
  | d :: r => uptoBulk d + uptoBulkAll r
def uptoBulkEntries {H : Type} : List (Lit × DataW H) → Nat
  | [] => 0
  | x :: r => uptoBulkEntry x + uptoBulkEntries r
def uptoBulkEntry {H : Type} : Lit × DataW H → Nat
  | (.string bytes, d) => bytes.length + uptoBulk d + 1
  | (_, d) => uptoBulk d + 1
 end
def uptoSmall : (H : Type) → List (DataW H) → Bool := fun _ ds => decide (uptoBulkAll ds ≤ 1048576)
def OpenSpec.upto (s : _root_.Go.ChangeSpec) : _root_.Go.OpenSpec := { _root_.Go.OpenSpec.ofChange s with cond := some uptoSmall }

/-- 'slotmeshlaw33.SolveMatchesReference', WHERE WHAT IT READS IS OF BULK AT MOST 1048576: true; the input reads as it did. -/
def solveMatchesReferenceUptoRow : OpenClaim := { program := "ytgdeoaiakdkhcaa", sum := "657ecb7fe5b0e497e824e198e70477009b23f4e706c6789ecde9ffa4f0b8830f", func := "slotmesh/slotmeshlaw33.SolveMatchesReference", spec := "solveMatchesReference", unfollowed := true, recurses := true, apart := false, narrowed := true }
def SolveMatchesReferenceUptoSaid : Prop := solveMatchesReferenceUptoRow.holds Try.pinned (OpenSpec.upto solveMatchesReferenceSpec)

/-- 'slotmeshlaw33.SolveValid', WHERE WHAT IT READS IS OF BULK AT MOST 1048576: true; the input reads as it did. -/
def solveValidUptoRow : OpenClaim := { program := "ytgdeoaiakdkhcaa", sum := "657ecb7fe5b0e497e824e198e70477009b23f4e706c6789ecde9ffa4f0b8830f", func := "slotmesh/slotmeshlaw33.SolveValid", spec := "solveValid", unfollowed := true, recurses := true, apart := false, narrowed := true }
def SolveValidUptoSaid : Prop := solveValidUptoRow.holds Try.pinned (OpenSpec.upto solveValidSpec)

/-- 'slotmeshlaw33.SolveTruth', WHERE WHAT IT READS IS OF BULK AT MOST 1048576: true; the input reads as it did. -/
def solveTruthUptoRow : OpenClaim := { program := "ytgdeoaiakdkhcaa", sum := "657ecb7fe5b0e497e824e198e70477009b23f4e706c6789ecde9ffa4f0b8830f", func := "slotmesh/slotmeshlaw33.SolveTruth", spec := "solveTruth", unfollowed := true, recurses := true, apart := false, narrowed := true }
def SolveTruthUptoSaid : Prop := solveTruthUptoRow.holds Try.pinned (OpenSpec.upto solveTruthSpec)

/-- 'slotmeshlaw33.SolveOrder', WHERE WHAT IT READS IS OF BULK AT MOST 1048576: true; the input reads as it did. -/
def solveOrderUptoRow : OpenClaim := { program := "ytgdeoaiakdkhcaa", sum := "657ecb7fe5b0e497e824e198e70477009b23f4e706c6789ecde9ffa4f0b8830f", func := "slotmesh/slotmeshlaw33.SolveOrder", spec := "solveOrder", unfollowed := true, recurses := true, apart := false, narrowed := true }
def SolveOrderUptoSaid : Prop := solveOrderUptoRow.holds Try.pinned (OpenSpec.upto solveOrderSpec)

/-- 'slotmeshlaw33.SolveFollows', WHERE WHAT IT READS IS OF BULK AT MOST 1048576: true; the input reads as it did. -/
def solveFollowsUptoRow : OpenClaim := { program := "ytgdeoaiakdkhcaa", sum := "657ecb7fe5b0e497e824e198e70477009b23f4e706c6789ecde9ffa4f0b8830f", func := "slotmesh/slotmeshlaw33.SolveFollows", spec := "solveFollows", unfollowed := true, recurses := true, apart := false, narrowed := true }
def SolveFollowsUptoSaid : Prop := solveFollowsUptoRow.holds Try.pinned (OpenSpec.upto solveFollowsSpec)

/-- 'slotmeshlaw33.SolveSums', WHERE WHAT IT READS IS OF BULK AT MOST 1048576: true; the input reads as it did. -/
def solveSumsUptoRow : OpenClaim := { program := "ytgdeoaiakdkhcaa", sum := "657ecb7fe5b0e497e824e198e70477009b23f4e706c6789ecde9ffa4f0b8830f", func := "slotmesh/slotmeshlaw33.SolveSums", spec := "solveSums", unfollowed := true, recurses := true, apart := false, narrowed := true }
def SolveSumsUptoSaid : Prop := solveSumsUptoRow.holds Try.pinned (OpenSpec.upto solveSumsSpec)

/-- 'slotmeshlaw33.SolveEnough', WHERE WHAT IT READS IS OF BULK AT MOST 1048576: true; the input reads as it did. -/
def solveEnoughUptoRow : OpenClaim := { program := "ytgdeoaiakdkhcaa", sum := "657ecb7fe5b0e497e824e198e70477009b23f4e706c6789ecde9ffa4f0b8830f", func := "slotmesh/slotmeshlaw33.SolveEnough", spec := "solveEnough", unfollowed := true, recurses := true, apart := false, narrowed := true }
def SolveEnoughUptoSaid : Prop := solveEnoughUptoRow.holds Try.pinned (OpenSpec.upto solveEnoughSpec)

end Rows
end Go.Proofs.Ytgdeoaiakdkhcaa
