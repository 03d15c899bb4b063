/-
  NARROWER THAN 'FOR EVERY INPUT', by the rows' own cells (each row's printed sentence says how): FountainMatchesReference: laid · FountainTruth: laid · FountainEnough: laid · FountainOrder: laid · FountainPlain: laid · FountainSums: laid · FountainAnotherPage: laid.
  DERIVED. THE GIVEN ROWS OF THIS SEAT. 7 by the template 'for every input the law returns true; each argument reads behind the call as it read before'; 0 by the template 'total and deterministic' (their statements: YtkjmhfbjdeidjaaDoorTotals.lean).
  GIVEN WITH THE SEED: the statements are not yours to turn. If you find one false, say at which input.
  Laid BY PROGRAM, IN A SANDBOX (cutbox-rows.mjs): the forced cells as the released guide's own fill.sh prints them over the translation a8b42b25a15a9d81… (all of the seat's roots in one cut). By AI agents, Wed Nov 11 2026. No macro, syntax, notation, axiom, sorry.
-/
import Derived.Test.YtkjmhfbjdeidjaaDoorChecked
import GoSem.Claim
import GoSem.ClaimJoined
import GoSem.ClaimMapViews
import Derived.JoinedTies
import Derived.KernelRfl
namespace Go.Proofs.YtkjmhfbjdeidjaaDoor
/- THE CELL 'sum', in the pinned program and in every row, IS THE sha256 OF THE DUMP (.gsa) THAT YtkjmhfbjdeidjaaDoorProg.lean LOADS. Nothing in Lean hashes anything: it is a label: what it is worth is what the hold of that sum in a sandbox is worth. -/
noncomputable def Tryd.pinned : Pinned := { name := "ytkjmhfbjdeidjaadoor", sum := "a8b42b25a15a9d81efac71339988ffe6b5e72cc5ba0f2f01f5fd764bff1fcc29", checked := Tryd.checked }
namespace Rows
def none {H : Type} : Left H := { results := [], args := [] }

/- WHAT THE LISTED PACKAGE-LEVEL VARIABLES READ AS WHEN THE CALL BEGINS. Each datum BY PROGRAM (the guide's laid-datum.mjs) off the statement by which the dump's own 'gosem.cut.vars' lays the variable. In a bare row this is a premise. The card (YtkjmhfbjdeidjaaDoorCards.lean) ties it to the program's text. -/
def laid_math_bits_deBruijn32tab {H : Type} : DataW H := .agg [.lit (.int .u8 0), .lit (.int .u8 1), .lit (.int .u8 28), .lit (.int .u8 2), .lit (.int .u8 29), .lit (.int .u8 14), .lit (.int .u8 24), .lit (.int .u8 3), .lit (.int .u8 30), .lit (.int .u8 22), .lit (.int .u8 20), .lit (.int .u8 15), .lit (.int .u8 25), .lit (.int .u8 17), .lit (.int .u8 4), .lit (.int .u8 8), .lit (.int .u8 31), .lit (.int .u8 27), .lit (.int .u8 13), .lit (.int .u8 23), .lit (.int .u8 21), .lit (.int .u8 19), .lit (.int .u8 16), .lit (.int .u8 7), .lit (.int .u8 26), .lit (.int .u8 12), .lit (.int .u8 18), .lit (.int .u8 6), .lit (.int .u8 11), .lit (.int .u8 5), .lit (.int .u8 10), .lit (.int .u8 9)]
def laid_math_bits_deBruijn64tab {H : Type} : DataW H := .agg [.lit (.int .u8 0), .lit (.int .u8 1), .lit (.int .u8 56), .lit (.int .u8 2), .lit (.int .u8 57), .lit (.int .u8 49), .lit (.int .u8 28), .lit (.int .u8 3), .lit (.int .u8 61), .lit (.int .u8 58), .lit (.int .u8 42), .lit (.int .u8 50), .lit (.int .u8 38), .lit (.int .u8 29), .lit (.int .u8 17), .lit (.int .u8 4), .lit (.int .u8 62), .lit (.int .u8 47), .lit (.int .u8 59), .lit (.int .u8 36), .lit (.int .u8 45), .lit (.int .u8 43), .lit (.int .u8 51), .lit (.int .u8 22), .lit (.int .u8 53), .lit (.int .u8 39), .lit (.int .u8 33), .lit (.int .u8 30), .lit (.int .u8 24), .lit (.int .u8 18), .lit (.int .u8 12), .lit (.int .u8 5), .lit (.int .u8 63), .lit (.int .u8 55), .lit (.int .u8 48), .lit (.int .u8 27), .lit (.int .u8 60), .lit (.int .u8 41), .lit (.int .u8 37), .lit (.int .u8 16), .lit (.int .u8 46), .lit (.int .u8 35), .lit (.int .u8 44), .lit (.int .u8 21), .lit (.int .u8 52), .lit (.int .u8 32), .lit (.int .u8 23), .lit (.int .u8 11), .lit (.int .u8 54), .lit (.int .u8 26), .lit (.int .u8 40), .lit (.int .u8 15), .lit (.int .u8 34), .lit (.int .u8 20), .lit (.int .u8 31), .lit (.int .u8 10), .lit (.int .u8 25), .lit (.int .u8 14), .lit (.int .u8 19), .lit (.int .u8 9), .lit (.int .u8 13), .lit (.int .u8 8), .lit (.int .u8 7), .lit (.int .u8 6)]
def laid_slotmesh_random_steps {H : Type} : DataW H := .agg [.agg [.lit (.int .i64 30), .lit (.int .u64 13787848793156543929)], .agg [.lit (.int .i64 27), .lit (.int .u64 10723151780598845931)], .agg [.lit (.int .i64 31), .lit (.int .u64 1)]]

/-- 'slotmeshlaw34.FountainMatchesReference': WHATEVER THE INPUT: true; the input reads as it did. -/
def fountainMatchesReferenceSpec : ChangeSpec := { name := "fountainMatchesReference", fn := fun _ => fun
  | [d1, d2, d3, d4, d5] => { results := [.lit (.bool true)], args := [d1, d2, d3, d4, d5] }
  | _ => none }
def fountainMatchesReferenceRow : OpenClaim := { program := "ytkjmhfbjdeidjaadoor", sum := "a8b42b25a15a9d81efac71339988ffe6b5e72cc5ba0f2f01f5fd764bff1fcc29", func := "slotmesh/slotmeshlaw34.FountainMatchesReference", spec := "fountainMatchesReference", unfollowed := true, recurses := true, named := ["slotmesh/random.steps", "math/bits.deBruijn32tab", "math/bits.deBruijn64tab"], apart := false, laid := [("math/bits.deBruijn32tab", laid_math_bits_deBruijn32tab), ("math/bits.deBruijn64tab", laid_math_bits_deBruijn64tab), ("slotmesh/random.steps", laid_slotmesh_random_steps)] }
def FountainMatchesReferenceSaid : Prop := fountainMatchesReferenceRow.holds Tryd.pinned (OpenSpec.ofChange fountainMatchesReferenceSpec)

/-- ITS FALSE NEIGHBOUR: 'it returns false'. Refute it at one input. -/
def fountainMatchesReferenceWrong : ChangeSpec := { name := "fountainMatchesReference", fn := fun _ => fun
  | [d1, d2, d3, d4, d5] => { results := [.lit (.bool false)], args := [d1, d2, d3, d4, d5] }
  | _ => none }
def FountainMatchesReferenceWrongFalsely : Prop := fountainMatchesReferenceRow.holds Tryd.pinned (OpenSpec.ofChange fountainMatchesReferenceWrong)

/-- 'slotmeshlaw34.FountainTruth': WHATEVER THE INPUT: true; the input reads as it did. -/
def fountainTruthSpec : ChangeSpec := { name := "fountainTruth", fn := fun _ => fun
  | [d1, d2] => { results := [.lit (.bool true)], args := [d1, d2] }
  | _ => none }
def fountainTruthRow : OpenClaim := { program := "ytkjmhfbjdeidjaadoor", sum := "a8b42b25a15a9d81efac71339988ffe6b5e72cc5ba0f2f01f5fd764bff1fcc29", func := "slotmesh/slotmeshlaw34.FountainTruth", spec := "fountainTruth", unfollowed := true, recurses := true, named := ["slotmesh/random.steps", "math/bits.deBruijn32tab", "math/bits.deBruijn64tab"], apart := false, laid := [("math/bits.deBruijn32tab", laid_math_bits_deBruijn32tab), ("math/bits.deBruijn64tab", laid_math_bits_deBruijn64tab), ("slotmesh/random.steps", laid_slotmesh_random_steps)] }
def FountainTruthSaid : Prop := fountainTruthRow.holds Tryd.pinned (OpenSpec.ofChange fountainTruthSpec)

/-- ITS FALSE NEIGHBOUR: 'it returns false'. Refute it at one input. -/
def fountainTruthWrong : ChangeSpec := { name := "fountainTruth", fn := fun _ => fun
  | [d1, d2] => { results := [.lit (.bool false)], args := [d1, d2] }
  | _ => none }
def FountainTruthWrongFalsely : Prop := fountainTruthRow.holds Tryd.pinned (OpenSpec.ofChange fountainTruthWrong)

/-- 'slotmeshlaw34.FountainEnough': WHATEVER THE INPUT: true; the input reads as it did. -/
def fountainEnoughSpec : ChangeSpec := { name := "fountainEnough", fn := fun _ => fun
  | [d1, d2, d3] => { results := [.lit (.bool true)], args := [d1, d2, d3] }
  | _ => none }
def fountainEnoughRow : OpenClaim := { program := "ytkjmhfbjdeidjaadoor", sum := "a8b42b25a15a9d81efac71339988ffe6b5e72cc5ba0f2f01f5fd764bff1fcc29", func := "slotmesh/slotmeshlaw34.FountainEnough", spec := "fountainEnough", unfollowed := true, recurses := true, named := ["slotmesh/random.steps", "math/bits.deBruijn32tab", "math/bits.deBruijn64tab"], apart := false, laid := [("math/bits.deBruijn32tab", laid_math_bits_deBruijn32tab), ("math/bits.deBruijn64tab", laid_math_bits_deBruijn64tab), ("slotmesh/random.steps", laid_slotmesh_random_steps)] }
def FountainEnoughSaid : Prop := fountainEnoughRow.holds Tryd.pinned (OpenSpec.ofChange fountainEnoughSpec)

/-- ITS FALSE NEIGHBOUR: 'it returns false'. Refute it at one input. -/
def fountainEnoughWrong : ChangeSpec := { name := "fountainEnough", fn := fun _ => fun
  | [d1, d2, d3] => { results := [.lit (.bool false)], args := [d1, d2, d3] }
  | _ => none }
def FountainEnoughWrongFalsely : Prop := fountainEnoughRow.holds Tryd.pinned (OpenSpec.ofChange fountainEnoughWrong)

/-- 'slotmeshlaw34.FountainOrder': WHATEVER THE INPUT: true; the input reads as it did. -/
def fountainOrderSpec : ChangeSpec := { name := "fountainOrder", fn := fun _ => fun
  | [d1, d2, d3] => { results := [.lit (.bool true)], args := [d1, d2, d3] }
  | _ => none }
def fountainOrderRow : OpenClaim := { program := "ytkjmhfbjdeidjaadoor", sum := "a8b42b25a15a9d81efac71339988ffe6b5e72cc5ba0f2f01f5fd764bff1fcc29", func := "slotmesh/slotmeshlaw34.FountainOrder", spec := "fountainOrder", unfollowed := true, recurses := true, named := ["slotmesh/random.steps", "math/bits.deBruijn32tab", "math/bits.deBruijn64tab"], apart := false, laid := [("math/bits.deBruijn32tab", laid_math_bits_deBruijn32tab), ("math/bits.deBruijn64tab", laid_math_bits_deBruijn64tab), ("slotmesh/random.steps", laid_slotmesh_random_steps)] }
def FountainOrderSaid : Prop := fountainOrderRow.holds Tryd.pinned (OpenSpec.ofChange fountainOrderSpec)

/-- ITS FALSE NEIGHBOUR: 'it returns false'. Refute it at one input. -/
def fountainOrderWrong : ChangeSpec := { name := "fountainOrder", fn := fun _ => fun
  | [d1, d2, d3] => { results := [.lit (.bool false)], args := [d1, d2, d3] }
  | _ => none }
def FountainOrderWrongFalsely : Prop := fountainOrderRow.holds Tryd.pinned (OpenSpec.ofChange fountainOrderWrong)

/-- 'slotmeshlaw34.FountainPlain': WHATEVER THE INPUT: true; the input reads as it did. -/
def fountainPlainSpec : ChangeSpec := { name := "fountainPlain", fn := fun _ => fun
  | [d1, d2, d3, d4] => { results := [.lit (.bool true)], args := [d1, d2, d3, d4] }
  | _ => none }
def fountainPlainRow : OpenClaim := { program := "ytkjmhfbjdeidjaadoor", sum := "a8b42b25a15a9d81efac71339988ffe6b5e72cc5ba0f2f01f5fd764bff1fcc29", func := "slotmesh/slotmeshlaw34.FountainPlain", spec := "fountainPlain", unfollowed := true, recurses := true, named := ["slotmesh/random.steps", "math/bits.deBruijn32tab", "math/bits.deBruijn64tab"], apart := false, laid := [("math/bits.deBruijn32tab", laid_math_bits_deBruijn32tab), ("math/bits.deBruijn64tab", laid_math_bits_deBruijn64tab), ("slotmesh/random.steps", laid_slotmesh_random_steps)] }
def FountainPlainSaid : Prop := fountainPlainRow.holds Tryd.pinned (OpenSpec.ofChange fountainPlainSpec)

/-- ITS FALSE NEIGHBOUR: 'it returns false'. Refute it at one input. -/
def fountainPlainWrong : ChangeSpec := { name := "fountainPlain", fn := fun _ => fun
  | [d1, d2, d3, d4] => { results := [.lit (.bool false)], args := [d1, d2, d3, d4] }
  | _ => none }
def FountainPlainWrongFalsely : Prop := fountainPlainRow.holds Tryd.pinned (OpenSpec.ofChange fountainPlainWrong)

/-- 'slotmeshlaw34.FountainSums': WHATEVER THE INPUT: true; the input reads as it did. -/
def fountainSumsSpec : ChangeSpec := { name := "fountainSums", fn := fun _ => fun
  | [d1, d2, d3] => { results := [.lit (.bool true)], args := [d1, d2, d3] }
  | _ => none }
def fountainSumsRow : OpenClaim := { program := "ytkjmhfbjdeidjaadoor", sum := "a8b42b25a15a9d81efac71339988ffe6b5e72cc5ba0f2f01f5fd764bff1fcc29", func := "slotmesh/slotmeshlaw34.FountainSums", spec := "fountainSums", unfollowed := true, recurses := true, named := ["slotmesh/random.steps", "math/bits.deBruijn32tab", "math/bits.deBruijn64tab"], apart := false, laid := [("math/bits.deBruijn32tab", laid_math_bits_deBruijn32tab), ("math/bits.deBruijn64tab", laid_math_bits_deBruijn64tab), ("slotmesh/random.steps", laid_slotmesh_random_steps)] }
def FountainSumsSaid : Prop := fountainSumsRow.holds Tryd.pinned (OpenSpec.ofChange fountainSumsSpec)

/-- ITS FALSE NEIGHBOUR: 'it returns false'. Refute it at one input. -/
def fountainSumsWrong : ChangeSpec := { name := "fountainSums", fn := fun _ => fun
  | [d1, d2, d3] => { results := [.lit (.bool false)], args := [d1, d2, d3] }
  | _ => none }
def FountainSumsWrongFalsely : Prop := fountainSumsRow.holds Tryd.pinned (OpenSpec.ofChange fountainSumsWrong)

/-- 'slotmeshlaw34.FountainAnotherPage': WHATEVER THE INPUT: true; the input reads as it did. -/
def fountainAnotherPageSpec : ChangeSpec := { name := "fountainAnotherPage", fn := fun _ => fun
  | [d1, d2, d3] => { results := [.lit (.bool true)], args := [d1, d2, d3] }
  | _ => none }
def fountainAnotherPageRow : OpenClaim := { program := "ytkjmhfbjdeidjaadoor", sum := "a8b42b25a15a9d81efac71339988ffe6b5e72cc5ba0f2f01f5fd764bff1fcc29", func := "slotmesh/slotmeshlaw34.FountainAnotherPage", spec := "fountainAnotherPage", unfollowed := true, recurses := true, named := ["slotmesh/random.steps", "math/bits.deBruijn32tab", "math/bits.deBruijn64tab"], apart := false, laid := [("math/bits.deBruijn32tab", laid_math_bits_deBruijn32tab), ("math/bits.deBruijn64tab", laid_math_bits_deBruijn64tab), ("slotmesh/random.steps", laid_slotmesh_random_steps)] }
def FountainAnotherPageSaid : Prop := fountainAnotherPageRow.holds Tryd.pinned (OpenSpec.ofChange fountainAnotherPageSpec)

/-- ITS FALSE NEIGHBOUR: 'it returns false'. Refute it at one input. -/
def fountainAnotherPageWrong : ChangeSpec := { name := "fountainAnotherPage", fn := fun _ => fun
  | [d1, d2, d3] => { results := [.lit (.bool false)], args := [d1, d2, d3] }
  | _ => none }
def FountainAnotherPageWrongFalsely : Prop := fountainAnotherPageRow.holds Tryd.pinned (OpenSpec.ofChange fountainAnotherPageWrong)

/- THE SECOND FORM. 'bulk': how many values and letters a reading holds, each counted each time it is reached (what is shared counts as often as it is met; a slice's spare places count too). A statement '..UptoSaid' is the law's where the arguments, and the package variables that the reading takes, are together of bulk at most 1048576: NARROWER than '..Said'. Prove '..Said' where nothing that the law and all that it calls make is longer than what came in: it says more and counts as full. Else prove '..UptoSaid'. A law counts once. -/
mutual
def uptoBulk {H : Type} : DataW H → Nat
  | .lit (.string bytes) => bytes.length + 1
  | .lit _ => 1
  | .nil => 1
  | .ptr d => uptoBulk d + 1
  | .slice elems spare => uptoBulkAll elems + uptoBulkAll spare + 1
  | .agg parts => uptoBulkAll parts + 1
  | .iface _ d => uptoBulk d + 1
  | .map entries => uptoBulkEntries entries + 1
  | .held _ => 1
def uptoBulkAll {H : Type} : List (DataW H) → Nat
  | [] => 0
  | d :: r => uptoBulk d + uptoBulkAll r
def uptoBulkEntries {H : Type} : List (Lit × DataW H) → Nat
  | [] => 0
  | x :: r => uptoBulkEntry x + uptoBulkEntries r
def uptoBulkEntry {H : Type} : Lit × DataW H → Nat
  | (.string bytes, d) => bytes.length + uptoBulk d + 1
  | (_, d) => uptoBulk d + 1
 end
def uptoSmall : (H : Type) → List (DataW H) → Bool := fun _ ds => decide (uptoBulkAll ds ≤ 1048576)
def OpenSpec.upto (s : _root_.Go.ChangeSpec) : _root_.Go.OpenSpec := { _root_.Go.OpenSpec.ofChange s with cond := some uptoSmall }

/-- 'slotmeshlaw34.FountainMatchesReference', WHERE WHAT IT READS IS OF BULK AT MOST 1048576: true; the input reads as it did. -/
def fountainMatchesReferenceUptoRow : OpenClaim := { program := "ytkjmhfbjdeidjaadoor", sum := "a8b42b25a15a9d81efac71339988ffe6b5e72cc5ba0f2f01f5fd764bff1fcc29", func := "slotmesh/slotmeshlaw34.FountainMatchesReference", spec := "fountainMatchesReference", unfollowed := true, recurses := true, named := ["slotmesh/random.steps", "math/bits.deBruijn32tab", "math/bits.deBruijn64tab"], apart := false, laid := [("math/bits.deBruijn32tab", laid_math_bits_deBruijn32tab), ("math/bits.deBruijn64tab", laid_math_bits_deBruijn64tab), ("slotmesh/random.steps", laid_slotmesh_random_steps)], narrowed := true }
def FountainMatchesReferenceUptoSaid : Prop := fountainMatchesReferenceUptoRow.holds Tryd.pinned (OpenSpec.upto fountainMatchesReferenceSpec)

/-- 'slotmeshlaw34.FountainTruth', WHERE WHAT IT READS IS OF BULK AT MOST 1048576: true; the input reads as it did. -/
def fountainTruthUptoRow : OpenClaim := { program := "ytkjmhfbjdeidjaadoor", sum := "a8b42b25a15a9d81efac71339988ffe6b5e72cc5ba0f2f01f5fd764bff1fcc29", func := "slotmesh/slotmeshlaw34.FountainTruth", spec := "fountainTruth", unfollowed := true, recurses := true, named := ["slotmesh/random.steps", "math/bits.deBruijn32tab", "math/bits.deBruijn64tab"], apart := false, laid := [("math/bits.deBruijn32tab", laid_math_bits_deBruijn32tab), ("math/bits.deBruijn64tab", laid_math_bits_deBruijn64tab), ("slotmesh/random.steps", laid_slotmesh_random_steps)], narrowed := true }
def FountainTruthUptoSaid : Prop := fountainTruthUptoRow.holds Tryd.pinned (OpenSpec.upto fountainTruthSpec)

/-- 'slotmeshlaw34.FountainEnough', WHERE WHAT IT READS IS OF BULK AT MOST 1048576: true; the input reads as it did. -/
def fountainEnoughUptoRow : OpenClaim := { program := "ytkjmhfbjdeidjaadoor", sum := "a8b42b25a15a9d81efac71339988ffe6b5e72cc5ba0f2f01f5fd764bff1fcc29", func := "slotmesh/slotmeshlaw34.FountainEnough", spec := "fountainEnough", unfollowed := true, recurses := true, named := ["slotmesh/random.steps", "math/bits.deBruijn32tab", "math/bits.deBruijn64tab"], apart := false, laid := [("math/bits.deBruijn32tab", laid_math_bits_deBruijn32tab), ("math/bits.deBruijn64tab", laid_math_bits_deBruijn64tab), ("slotmesh/random.steps", laid_slotmesh_random_steps)], narrowed := true }
def FountainEnoughUptoSaid : Prop := fountainEnoughUptoRow.holds Tryd.pinned (OpenSpec.upto fountainEnoughSpec)

/-- 'slotmeshlaw34.FountainOrder', WHERE WHAT IT READS IS OF BULK AT MOST 1048576: true; the input reads as it did. -/
def fountainOrderUptoRow : OpenClaim := { program := "ytkjmhfbjdeidjaadoor", sum := "a8b42b25a15a9d81efac71339988ffe6b5e72cc5ba0f2f01f5fd764bff1fcc29", func := "slotmesh/slotmeshlaw34.FountainOrder", spec := "fountainOrder", unfollowed := true, recurses := true, named := ["slotmesh/random.steps", "math/bits.deBruijn32tab", "math/bits.deBruijn64tab"], apart := false, laid := [("math/bits.deBruijn32tab", laid_math_bits_deBruijn32tab), ("math/bits.deBruijn64tab", laid_math_bits_deBruijn64tab), ("slotmesh/random.steps", laid_slotmesh_random_steps)], narrowed := true }
def FountainOrderUptoSaid : Prop := fountainOrderUptoRow.holds Tryd.pinned (OpenSpec.upto fountainOrderSpec)

/-- 'slotmeshlaw34.FountainPlain', WHERE WHAT IT READS IS OF BULK AT MOST 1048576: true; the input reads as it did. -/
def fountainPlainUptoRow : OpenClaim := { program := "ytkjmhfbjdeidjaadoor", sum := "a8b42b25a15a9d81efac71339988ffe6b5e72cc5ba0f2f01f5fd764bff1fcc29", func := "slotmesh/slotmeshlaw34.FountainPlain", spec := "fountainPlain", unfollowed := true, recurses := true, named := ["slotmesh/random.steps", "math/bits.deBruijn32tab", "math/bits.deBruijn64tab"], apart := false, laid := [("math/bits.deBruijn32tab", laid_math_bits_deBruijn32tab), ("math/bits.deBruijn64tab", laid_math_bits_deBruijn64tab), ("slotmesh/random.steps", laid_slotmesh_random_steps)], narrowed := true }
def FountainPlainUptoSaid : Prop := fountainPlainUptoRow.holds Tryd.pinned (OpenSpec.upto fountainPlainSpec)

/-- 'slotmeshlaw34.FountainSums', WHERE WHAT IT READS IS OF BULK AT MOST 1048576: true; the input reads as it did. -/
def fountainSumsUptoRow : OpenClaim := { program := "ytkjmhfbjdeidjaadoor", sum := "a8b42b25a15a9d81efac71339988ffe6b5e72cc5ba0f2f01f5fd764bff1fcc29", func := "slotmesh/slotmeshlaw34.FountainSums", spec := "fountainSums", unfollowed := true, recurses := true, named := ["slotmesh/random.steps", "math/bits.deBruijn32tab", "math/bits.deBruijn64tab"], apart := false, laid := [("math/bits.deBruijn32tab", laid_math_bits_deBruijn32tab), ("math/bits.deBruijn64tab", laid_math_bits_deBruijn64tab), ("slotmesh/random.steps", laid_slotmesh_random_steps)], narrowed := true }
def FountainSumsUptoSaid : Prop := fountainSumsUptoRow.holds Tryd.pinned (OpenSpec.upto fountainSumsSpec)

/-- 'slotmeshlaw34.FountainAnotherPage', WHERE WHAT IT READS IS OF BULK AT MOST 1048576: true; the input reads as it did. -/
def fountainAnotherPageUptoRow : OpenClaim := { program := "ytkjmhfbjdeidjaadoor", sum := "a8b42b25a15a9d81efac71339988ffe6b5e72cc5ba0f2f01f5fd764bff1fcc29", func := "slotmesh/slotmeshlaw34.FountainAnotherPage", spec := "fountainAnotherPage", unfollowed := true, recurses := true, named := ["slotmesh/random.steps", "math/bits.deBruijn32tab", "math/bits.deBruijn64tab"], apart := false, laid := [("math/bits.deBruijn32tab", laid_math_bits_deBruijn32tab), ("math/bits.deBruijn64tab", laid_math_bits_deBruijn64tab), ("slotmesh/random.steps", laid_slotmesh_random_steps)], narrowed := true }
def FountainAnotherPageUptoSaid : Prop := fountainAnotherPageUptoRow.holds Tryd.pinned (OpenSpec.upto fountainAnotherPageSpec)

end Rows
end Go.Proofs.YtkjmhfbjdeidjaaDoor
