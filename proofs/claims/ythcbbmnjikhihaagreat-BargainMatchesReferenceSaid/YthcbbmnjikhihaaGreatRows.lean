/-
  No cell of these rows narrows 'for every input' (looked for: loops, veiled, ifaces, maps, wideKeys, modest, calm, conditions, laid).
  DERIVED. THE GIVEN ROWS OF THIS SEAT. 7 by the template 'for every input the law returns true; each argument reads behind the call as it read before'; 0 by the template 'total and deterministic' (their statements: YthcbbmnjikhihaaGreatTotals.lean).
  GIVEN WITH THE SEED: the statements are not yours to turn. If you find one false, say at which input.
  Laid BY PROGRAM, IN A SANDBOX (cutbox-rows.mjs): the forced cells as the released guide's own fill.sh prints them over the translation 48b0d8633dcc09e0… (all of the seat's roots in one cut). By AI agents, Wed Nov 11 2026. No macro, syntax, notation, axiom, sorry.
-/
import Derived.Test.YthcbbmnjikhihaaGreatChecked
import GoSem.Claim
import GoSem.ClaimJoined
import GoSem.ClaimMapViews
import Derived.JoinedTies
import Derived.KernelRfl
namespace Go.Proofs.YthcbbmnjikhihaaGreat
/- THE CELL 'sum', in the pinned program and in every row, IS THE sha256 OF THE DUMP (.gsa) THAT YthcbbmnjikhihaaGreatProg.lean LOADS. Nothing in Lean hashes anything: it is a label: what it is worth is what the hold of that sum in a sandbox is worth. -/
noncomputable def Tryz.pinned : Pinned := { name := "ythcbbmnjikhihaagreat", sum := "48b0d8633dcc09e0f355840e630c6439b85dc9b7d44d9fdf8872d2e882701c19", checked := Tryz.checked }
namespace Rows
def none {H : Type} : Left H := { results := [], args := [] }

/-- 'slotmeshlaw13.BargainMatchesReference': WHATEVER THE INPUT: true; the input reads as it did. -/
def bargainMatchesReferenceSpec : ChangeSpec := { name := "bargainMatchesReference", fn := fun _ => fun
  | [d1, d2, d3, d4, d5, d6, d7] => { results := [.lit (.bool true)], args := [d1, d2, d3, d4, d5, d6, d7] }
  | _ => none }
def bargainMatchesReferenceRow : OpenClaim := { program := "ythcbbmnjikhihaagreat", sum := "48b0d8633dcc09e0f355840e630c6439b85dc9b7d44d9fdf8872d2e882701c19", func := "slotmesh/slotmeshlaw13.BargainMatchesReference", spec := "bargainMatchesReference", unfollowed := true, recurses := true, apart := false }
def BargainMatchesReferenceSaid : Prop := bargainMatchesReferenceRow.holds Tryz.pinned (OpenSpec.ofChange bargainMatchesReferenceSpec)

/-- ITS FALSE NEIGHBOUR: 'it returns false'. Refute it at one input. -/
def bargainMatchesReferenceWrong : ChangeSpec := { name := "bargainMatchesReference", fn := fun _ => fun
  | [d1, d2, d3, d4, d5, d6, d7] => { results := [.lit (.bool false)], args := [d1, d2, d3, d4, d5, d6, d7] }
  | _ => none }
def BargainMatchesReferenceWrongFalsely : Prop := bargainMatchesReferenceRow.holds Tryz.pinned (OpenSpec.ofChange bargainMatchesReferenceWrong)

/-- 'slotmeshlaw13.BargainValid': WHATEVER THE INPUT: true; the input reads as it did. -/
def bargainValidSpec : ChangeSpec := { name := "bargainValid", fn := fun _ => fun
  | [d1, d2, d3, d4, d5, d6, d7] => { results := [.lit (.bool true)], args := [d1, d2, d3, d4, d5, d6, d7] }
  | _ => none }
def bargainValidRow : OpenClaim := { program := "ythcbbmnjikhihaagreat", sum := "48b0d8633dcc09e0f355840e630c6439b85dc9b7d44d9fdf8872d2e882701c19", func := "slotmesh/slotmeshlaw13.BargainValid", spec := "bargainValid", unfollowed := true, recurses := true, apart := false }
def BargainValidSaid : Prop := bargainValidRow.holds Tryz.pinned (OpenSpec.ofChange bargainValidSpec)

/-- ITS FALSE NEIGHBOUR: 'it returns false'. Refute it at one input. -/
def bargainValidWrong : ChangeSpec := { name := "bargainValid", fn := fun _ => fun
  | [d1, d2, d3, d4, d5, d6, d7] => { results := [.lit (.bool false)], args := [d1, d2, d3, d4, d5, d6, d7] }
  | _ => none }
def BargainValidWrongFalsely : Prop := bargainValidRow.holds Tryz.pinned (OpenSpec.ofChange bargainValidWrong)

/-- 'slotmeshlaw13.BargainGranted': WHATEVER THE INPUT: true; the input reads as it did. -/
def bargainGrantedSpec : ChangeSpec := { name := "bargainGranted", fn := fun _ => fun
  | [d1, d2, d3, d4, d5] => { results := [.lit (.bool true)], args := [d1, d2, d3, d4, d5] }
  | _ => none }
def bargainGrantedRow : OpenClaim := { program := "ythcbbmnjikhihaagreat", sum := "48b0d8633dcc09e0f355840e630c6439b85dc9b7d44d9fdf8872d2e882701c19", func := "slotmesh/slotmeshlaw13.BargainGranted", spec := "bargainGranted", unfollowed := true, recurses := true, apart := false }
def BargainGrantedSaid : Prop := bargainGrantedRow.holds Tryz.pinned (OpenSpec.ofChange bargainGrantedSpec)

/-- ITS FALSE NEIGHBOUR: 'it returns false'. Refute it at one input. -/
def bargainGrantedWrong : ChangeSpec := { name := "bargainGranted", fn := fun _ => fun
  | [d1, d2, d3, d4, d5] => { results := [.lit (.bool false)], args := [d1, d2, d3, d4, d5] }
  | _ => none }
def BargainGrantedWrongFalsely : Prop := bargainGrantedRow.holds Tryz.pinned (OpenSpec.ofChange bargainGrantedWrong)

/-- 'slotmeshlaw13.BargainNobodyDisturbed': WHATEVER THE INPUT: true; the input reads as it did. -/
def bargainNobodyDisturbedSpec : ChangeSpec := { name := "bargainNobodyDisturbed", fn := fun _ => fun
  | [d1, d2, d3, d4, d5, d6, d7] => { results := [.lit (.bool true)], args := [d1, d2, d3, d4, d5, d6, d7] }
  | _ => none }
def bargainNobodyDisturbedRow : OpenClaim := { program := "ythcbbmnjikhihaagreat", sum := "48b0d8633dcc09e0f355840e630c6439b85dc9b7d44d9fdf8872d2e882701c19", func := "slotmesh/slotmeshlaw13.BargainNobodyDisturbed", spec := "bargainNobodyDisturbed", unfollowed := true, recurses := true, apart := false }
def BargainNobodyDisturbedSaid : Prop := bargainNobodyDisturbedRow.holds Tryz.pinned (OpenSpec.ofChange bargainNobodyDisturbedSpec)

/-- ITS FALSE NEIGHBOUR: 'it returns false'. Refute it at one input. -/
def bargainNobodyDisturbedWrong : ChangeSpec := { name := "bargainNobodyDisturbed", fn := fun _ => fun
  | [d1, d2, d3, d4, d5, d6, d7] => { results := [.lit (.bool false)], args := [d1, d2, d3, d4, d5, d6, d7] }
  | _ => none }
def BargainNobodyDisturbedWrongFalsely : Prop := bargainNobodyDisturbedRow.holds Tryz.pinned (OpenSpec.ofChange bargainNobodyDisturbedWrong)

/-- 'slotmeshlaw13.BargainTwoNodes': WHATEVER THE INPUT: true; the input reads as it did. -/
def bargainTwoNodesSpec : ChangeSpec := { name := "bargainTwoNodes", fn := fun _ => fun
  | [d1, d2, d3, d4, d5] => { results := [.lit (.bool true)], args := [d1, d2, d3, d4, d5] }
  | _ => none }
def bargainTwoNodesRow : OpenClaim := { program := "ythcbbmnjikhihaagreat", sum := "48b0d8633dcc09e0f355840e630c6439b85dc9b7d44d9fdf8872d2e882701c19", func := "slotmesh/slotmeshlaw13.BargainTwoNodes", spec := "bargainTwoNodes", unfollowed := true, recurses := true, apart := false }
def BargainTwoNodesSaid : Prop := bargainTwoNodesRow.holds Tryz.pinned (OpenSpec.ofChange bargainTwoNodesSpec)

/-- ITS FALSE NEIGHBOUR: 'it returns false'. Refute it at one input. -/
def bargainTwoNodesWrong : ChangeSpec := { name := "bargainTwoNodes", fn := fun _ => fun
  | [d1, d2, d3, d4, d5] => { results := [.lit (.bool false)], args := [d1, d2, d3, d4, d5] }
  | _ => none }
def BargainTwoNodesWrongFalsely : Prop := bargainTwoNodesRow.holds Tryz.pinned (OpenSpec.ofChange bargainTwoNodesWrong)

/-- 'slotmeshlaw13.BargainSettling': WHATEVER THE INPUT: true; the input reads as it did. -/
def bargainSettlingSpec : ChangeSpec := { name := "bargainSettling", fn := fun _ => fun
  | [d1, d2, d3] => { results := [.lit (.bool true)], args := [d1, d2, d3] }
  | _ => none }
def bargainSettlingRow : OpenClaim := { program := "ythcbbmnjikhihaagreat", sum := "48b0d8633dcc09e0f355840e630c6439b85dc9b7d44d9fdf8872d2e882701c19", func := "slotmesh/slotmeshlaw13.BargainSettling", spec := "bargainSettling", unfollowed := true, recurses := true, apart := false }
def BargainSettlingSaid : Prop := bargainSettlingRow.holds Tryz.pinned (OpenSpec.ofChange bargainSettlingSpec)

/-- ITS FALSE NEIGHBOUR: 'it returns false'. Refute it at one input. -/
def bargainSettlingWrong : ChangeSpec := { name := "bargainSettling", fn := fun _ => fun
  | [d1, d2, d3] => { results := [.lit (.bool false)], args := [d1, d2, d3] }
  | _ => none }
def BargainSettlingWrongFalsely : Prop := bargainSettlingRow.holds Tryz.pinned (OpenSpec.ofChange bargainSettlingWrong)

/-- 'slotmeshlaw13.BargainLease': WHATEVER THE INPUT: true; the input reads as it did. -/
def bargainLeaseSpec : ChangeSpec := { name := "bargainLease", fn := fun _ => fun
  | [d1, d2, d3, d4, d5] => { results := [.lit (.bool true)], args := [d1, d2, d3, d4, d5] }
  | _ => none }
def bargainLeaseRow : OpenClaim := { program := "ythcbbmnjikhihaagreat", sum := "48b0d8633dcc09e0f355840e630c6439b85dc9b7d44d9fdf8872d2e882701c19", func := "slotmesh/slotmeshlaw13.BargainLease", spec := "bargainLease", unfollowed := true, recurses := true, apart := false }
def BargainLeaseSaid : Prop := bargainLeaseRow.holds Tryz.pinned (OpenSpec.ofChange bargainLeaseSpec)

/-- ITS FALSE NEIGHBOUR: 'it returns false'. Refute it at one input. -/
def bargainLeaseWrong : ChangeSpec := { name := "bargainLease", fn := fun _ => fun
  | [d1, d2, d3, d4, d5] => { results := [.lit (.bool false)], args := [d1, d2, d3, d4, d5] }
  | _ => none }
def BargainLeaseWrongFalsely : Prop := bargainLeaseRow.holds Tryz.pinned (OpenSpec.ofChange bargainLeaseWrong)

/- THE SECOND FORM. 'bulk': how many values and letters a reading holds, each counted each time it is reached (what is shared counts as often as it is met; a slice's spare places count too). A statement '..UptoSaid' is the law's where the arguments, and the package variables that the reading takes, are together of bulk at most 1048576: NARROWER than '..Said'. Prove '..Said' where nothing that the law and all that it calls make is longer than what came in: it says more and counts as full. Else prove '..UptoSaid'. A law counts once. -/
mutual
def uptoBulk {H : Type} : DataW H → Nat
  | .lit (.string bytes) => bytes.length + 1
  | .lit _ => 1
  | .nil => 1
  | .ptr d => uptoBulk d + 1
  | .slice elems spare => uptoBulkAll elems + uptoBulkAll spare + 1
  | .agg parts => uptoBulkAll parts + 1
  | .iface _ d => uptoBulk d + 1
  | .map entries => uptoBulkEntries entries + 1
  | .held _ => 1
def uptoBulkAll {H : Type} : List (DataW H) → Nat
  | [] => 0
  | d :: r => uptoBulk d + uptoBulkAll r
def uptoBulkEntries {H : Type} : List (Lit × DataW H) → Nat
  | [] => 0
  | x :: r => uptoBulkEntry x + uptoBulkEntries r
def uptoBulkEntry {H : Type} : Lit × DataW H → Nat
  | (.string bytes, d) => bytes.length + uptoBulk d + 1
  | (_, d) => uptoBulk d + 1
 end
def uptoSmall : (H : Type) → List (DataW H) → Bool := fun _ ds => decide (uptoBulkAll ds ≤ 1048576)
def OpenSpec.upto (s : _root_.Go.ChangeSpec) : _root_.Go.OpenSpec := { _root_.Go.OpenSpec.ofChange s with cond := some uptoSmall }

/-- 'slotmeshlaw13.BargainMatchesReference', WHERE WHAT IT READS IS OF BULK AT MOST 1048576: true; the input reads as it did. -/
def bargainMatchesReferenceUptoRow : OpenClaim := { program := "ythcbbmnjikhihaagreat", sum := "48b0d8633dcc09e0f355840e630c6439b85dc9b7d44d9fdf8872d2e882701c19", func := "slotmesh/slotmeshlaw13.BargainMatchesReference", spec := "bargainMatchesReference", unfollowed := true, recurses := true, apart := false, narrowed := true }
def BargainMatchesReferenceUptoSaid : Prop := bargainMatchesReferenceUptoRow.holds Tryz.pinned (OpenSpec.upto bargainMatchesReferenceSpec)

/-- 'slotmeshlaw13.BargainValid', WHERE WHAT IT READS IS OF BULK AT MOST 1048576: true; the input reads as it did. -/
def bargainValidUptoRow : OpenClaim := { program := "ythcbbmnjikhihaagreat", sum := "48b0d8633dcc09e0f355840e630c6439b85dc9b7d44d9fdf8872d2e882701c19", func := "slotmesh/slotmeshlaw13.BargainValid", spec := "bargainValid", unfollowed := true, recurses := true, apart := false, narrowed := true }
def BargainValidUptoSaid : Prop := bargainValidUptoRow.holds Tryz.pinned (OpenSpec.upto bargainValidSpec)

/-- 'slotmeshlaw13.BargainGranted', WHERE WHAT IT READS IS OF BULK AT MOST 1048576: true; the input reads as it did. -/
def bargainGrantedUptoRow : OpenClaim := { program := "ythcbbmnjikhihaagreat", sum := "48b0d8633dcc09e0f355840e630c6439b85dc9b7d44d9fdf8872d2e882701c19", func := "slotmesh/slotmeshlaw13.BargainGranted", spec := "bargainGranted", unfollowed := true, recurses := true, apart := false, narrowed := true }
def BargainGrantedUptoSaid : Prop := bargainGrantedUptoRow.holds Tryz.pinned (OpenSpec.upto bargainGrantedSpec)

/-- 'slotmeshlaw13.BargainNobodyDisturbed', WHERE WHAT IT READS IS OF BULK AT MOST 1048576: true; the input reads as it did. -/
def bargainNobodyDisturbedUptoRow : OpenClaim := { program := "ythcbbmnjikhihaagreat", sum := "48b0d8633dcc09e0f355840e630c6439b85dc9b7d44d9fdf8872d2e882701c19", func := "slotmesh/slotmeshlaw13.BargainNobodyDisturbed", spec := "bargainNobodyDisturbed", unfollowed := true, recurses := true, apart := false, narrowed := true }
def BargainNobodyDisturbedUptoSaid : Prop := bargainNobodyDisturbedUptoRow.holds Tryz.pinned (OpenSpec.upto bargainNobodyDisturbedSpec)

/-- 'slotmeshlaw13.BargainTwoNodes', WHERE WHAT IT READS IS OF BULK AT MOST 1048576: true; the input reads as it did. -/
def bargainTwoNodesUptoRow : OpenClaim := { program := "ythcbbmnjikhihaagreat", sum := "48b0d8633dcc09e0f355840e630c6439b85dc9b7d44d9fdf8872d2e882701c19", func := "slotmesh/slotmeshlaw13.BargainTwoNodes", spec := "bargainTwoNodes", unfollowed := true, recurses := true, apart := false, narrowed := true }
def BargainTwoNodesUptoSaid : Prop := bargainTwoNodesUptoRow.holds Tryz.pinned (OpenSpec.upto bargainTwoNodesSpec)

/-- 'slotmeshlaw13.BargainSettling', WHERE WHAT IT READS IS OF BULK AT MOST 1048576: true; the input reads as it did. -/
def bargainSettlingUptoRow : OpenClaim := { program := "ythcbbmnjikhihaagreat", sum := "48b0d8633dcc09e0f355840e630c6439b85dc9b7d44d9fdf8872d2e882701c19", func := "slotmesh/slotmeshlaw13.BargainSettling", spec := "bargainSettling", unfollowed := true, recurses := true, apart := false, narrowed := true }
def BargainSettlingUptoSaid : Prop := bargainSettlingUptoRow.holds Tryz.pinned (OpenSpec.upto bargainSettlingSpec)

/-- 'slotmeshlaw13.BargainLease', WHERE WHAT IT READS IS OF BULK AT MOST 1048576: true; the input reads as it did. -/
def bargainLeaseUptoRow : OpenClaim := { program := "ythcbbmnjikhihaagreat", sum := "48b0d8633dcc09e0f355840e630c6439b85dc9b7d44d9fdf8872d2e882701c19", func := "slotmesh/slotmeshlaw13.BargainLease", spec := "bargainLease", unfollowed := true, recurses := true, apart := false, narrowed := true }
def BargainLeaseUptoSaid : Prop := bargainLeaseUptoRow.holds Tryz.pinned (OpenSpec.upto bargainLeaseSpec)

end Rows
end Go.Proofs.YthcbbmnjikhihaaGreat
