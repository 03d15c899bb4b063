/-
  NARROWER THAN 'FOR EVERY INPUT', by the rows' own cells (each row's printed sentence says how): SpreadMatchesReference: laid · SpreadValid: laid · SpreadLoads: laid · SpreadEnough: laid · SpreadVersions: laid · SpreadServes: laid · SpreadSilent: laid · TopProgramArrives: laid · TopTakenBack: laid · TopLineOfNodes: laid.
  DERIVED. THE GIVEN ROWS OF THIS SEAT. 10 by the template 'for every input the law returns true; each argument reads behind the call as it read before'; 0 by the template 'total and deterministic' (their statements: YtibhflogmbfpcaaGreatDoorTotals.lean).
  GIVEN WITH THE SEED: the statements are not yours to turn. If you find one false, say at which input.
  Laid BY PROGRAM, IN A SANDBOX (cutbox-rows.mjs): the forced cells as the released guide's own fill.sh prints them over the translation 0f246341cc8d595a… (all of the seat's roots in one cut). By AI agents, Wed Nov 11 2026. No macro, syntax, notation, axiom, sorry.
-/
import Derived.Test.YtibhflogmbfpcaaGreatDoorChecked
import GoSem.PinnedTables
import GoSem.Claim
import GoSem.ClaimJoined
import GoSem.ClaimMapViews
import Derived.JoinedTies
import Derived.KernelRfl
namespace Go.Proofs.YtibhflogmbfpcaaGreatDoor
/- THE CELL 'sum', in the pinned program and in every row, IS THE sha256 OF THE DUMP (.gsa) THAT YtibhflogmbfpcaaGreatDoorProg.lean LOADS. Nothing in Lean hashes anything: it is a label: what it is worth is what the hold of that sum in a sandbox is worth. -/
noncomputable def Tryz.pinned : Pinned := { name := "ytibhflogmbfpcaagreatdoor", sum := "0f246341cc8d595aa3601c22b8607e51b228971e54ecee16431b2fcb134a0b3c", checked := Tryz.checked }
namespace Rows
def none {H : Type} : Left H := { results := [], args := [] }

/- WHAT THE LISTED PACKAGE-LEVEL VARIABLES READ AS WHEN THE CALL BEGINS. Each datum BY PROGRAM (the guide's laid-datum.mjs) off the statement by which the dump's own 'gosem.cut.vars' lays the variable. In a bare row this is a premise. The card (YtibhflogmbfpcaaGreatDoorCards.lean) ties it to the program's text. -/
def laid_math_bits_deBruijn32tab {H : Type} : DataW H := .agg [.lit (.int .u8 0), .lit (.int .u8 1), .lit (.int .u8 28), .lit (.int .u8 2), .lit (.int .u8 29), .lit (.int .u8 14), .lit (.int .u8 24), .lit (.int .u8 3), .lit (.int .u8 30), .lit (.int .u8 22), .lit (.int .u8 20), .lit (.int .u8 15), .lit (.int .u8 25), .lit (.int .u8 17), .lit (.int .u8 4), .lit (.int .u8 8), .lit (.int .u8 31), .lit (.int .u8 27), .lit (.int .u8 13), .lit (.int .u8 23), .lit (.int .u8 21), .lit (.int .u8 19), .lit (.int .u8 16), .lit (.int .u8 7), .lit (.int .u8 26), .lit (.int .u8 12), .lit (.int .u8 18), .lit (.int .u8 6), .lit (.int .u8 11), .lit (.int .u8 5), .lit (.int .u8 10), .lit (.int .u8 9)]
def laid_math_bits_deBruijn64tab {H : Type} : DataW H := .agg [.lit (.int .u8 0), .lit (.int .u8 1), .lit (.int .u8 56), .lit (.int .u8 2), .lit (.int .u8 57), .lit (.int .u8 49), .lit (.int .u8 28), .lit (.int .u8 3), .lit (.int .u8 61), .lit (.int .u8 58), .lit (.int .u8 42), .lit (.int .u8 50), .lit (.int .u8 38), .lit (.int .u8 29), .lit (.int .u8 17), .lit (.int .u8 4), .lit (.int .u8 62), .lit (.int .u8 47), .lit (.int .u8 59), .lit (.int .u8 36), .lit (.int .u8 45), .lit (.int .u8 43), .lit (.int .u8 51), .lit (.int .u8 22), .lit (.int .u8 53), .lit (.int .u8 39), .lit (.int .u8 33), .lit (.int .u8 30), .lit (.int .u8 24), .lit (.int .u8 18), .lit (.int .u8 12), .lit (.int .u8 5), .lit (.int .u8 63), .lit (.int .u8 55), .lit (.int .u8 48), .lit (.int .u8 27), .lit (.int .u8 60), .lit (.int .u8 41), .lit (.int .u8 37), .lit (.int .u8 16), .lit (.int .u8 46), .lit (.int .u8 35), .lit (.int .u8 44), .lit (.int .u8 21), .lit (.int .u8 52), .lit (.int .u8 32), .lit (.int .u8 23), .lit (.int .u8 11), .lit (.int .u8 54), .lit (.int .u8 26), .lit (.int .u8 40), .lit (.int .u8 15), .lit (.int .u8 34), .lit (.int .u8 20), .lit (.int .u8 31), .lit (.int .u8 10), .lit (.int .u8 25), .lit (.int .u8 14), .lit (.int .u8 19), .lit (.int .u8 9), .lit (.int .u8 13), .lit (.int .u8 8), .lit (.int .u8 7), .lit (.int .u8 6)]
def laid_unicode_utf8_acceptRanges {H : Type} : DataW H := .agg [.agg [.lit (.int .u8 128), .lit (.int .u8 191)], .agg [.lit (.int .u8 160), .lit (.int .u8 191)], .agg [.lit (.int .u8 128), .lit (.int .u8 159)], .agg [.lit (.int .u8 144), .lit (.int .u8 191)], .agg [.lit (.int .u8 128), .lit (.int .u8 143)], .agg [.lit (.int .u8 0), .lit (.int .u8 0)], .agg [.lit (.int .u8 0), .lit (.int .u8 0)], .agg [.lit (.int .u8 0), .lit (.int .u8 0)], .agg [.lit (.int .u8 0), .lit (.int .u8 0)], .agg [.lit (.int .u8 0), .lit (.int .u8 0)], .agg [.lit (.int .u8 0), .lit (.int .u8 0)], .agg [.lit (.int .u8 0), .lit (.int .u8 0)], .agg [.lit (.int .u8 0), .lit (.int .u8 0)], .agg [.lit (.int .u8 0), .lit (.int .u8 0)], .agg [.lit (.int .u8 0), .lit (.int .u8 0)], .agg [.lit (.int .u8 0), .lit (.int .u8 0)]]
def laid_slotmesh_random_steps {H : Type} : DataW H := .agg [.agg [.lit (.int .i64 30), .lit (.int .u64 13787848793156543929)], .agg [.lit (.int .i64 27), .lit (.int .u64 10723151780598845931)], .agg [.lit (.int .i64 31), .lit (.int .u64 1)]]
/-- One of Go's own tables, pinned by name: the form's constant. -/
def laid_unicode_utf8_first : DataW Unit := Go.Pinned.utf8First

/-- 'slotmeshlaw39.SpreadMatchesReference': WHATEVER THE INPUT: true; the input reads as it did. -/
def spreadMatchesReferenceSpec : ChangeSpec := { name := "spreadMatchesReference", fn := fun _ => fun
  | [d1, d2, d3, d4, d5, d6] => { results := [.lit (.bool true)], args := [d1, d2, d3, d4, d5, d6] }
  | _ => none }
def spreadMatchesReferenceRow : OpenClaim := { program := "ytibhflogmbfpcaagreatdoor", sum := "0f246341cc8d595aa3601c22b8607e51b228971e54ecee16431b2fcb134a0b3c", func := "slotmesh/slotmeshlaw39.SpreadMatchesReference", spec := "spreadMatchesReference", unfollowed := true, recurses := true, named := ["slotmesh/random.steps", "math/bits.deBruijn32tab", "math/bits.deBruijn64tab", "unicode/utf8.first", "unicode/utf8.acceptRanges"], apart := false, laid := [("math/bits.deBruijn32tab", laid_math_bits_deBruijn32tab), ("math/bits.deBruijn64tab", laid_math_bits_deBruijn64tab), ("unicode/utf8.acceptRanges", laid_unicode_utf8_acceptRanges), ("slotmesh/random.steps", laid_slotmesh_random_steps), ("unicode/utf8.first", laid_unicode_utf8_first)] }
def SpreadMatchesReferenceSaid : Prop := spreadMatchesReferenceRow.holds Tryz.pinned (OpenSpec.ofChange spreadMatchesReferenceSpec)

/-- ITS FALSE NEIGHBOUR: 'it returns false'. Refute it at one input. -/
def spreadMatchesReferenceWrong : ChangeSpec := { name := "spreadMatchesReference", fn := fun _ => fun
  | [d1, d2, d3, d4, d5, d6] => { results := [.lit (.bool false)], args := [d1, d2, d3, d4, d5, d6] }
  | _ => none }
def SpreadMatchesReferenceWrongFalsely : Prop := spreadMatchesReferenceRow.holds Tryz.pinned (OpenSpec.ofChange spreadMatchesReferenceWrong)

/-- 'slotmeshlaw39.SpreadValid': WHATEVER THE INPUT: true; the input reads as it did. -/
def spreadValidSpec : ChangeSpec := { name := "spreadValid", fn := fun _ => fun
  | [d1, d2, d3, d4, d5, d6] => { results := [.lit (.bool true)], args := [d1, d2, d3, d4, d5, d6] }
  | _ => none }
def spreadValidRow : OpenClaim := { program := "ytibhflogmbfpcaagreatdoor", sum := "0f246341cc8d595aa3601c22b8607e51b228971e54ecee16431b2fcb134a0b3c", func := "slotmesh/slotmeshlaw39.SpreadValid", spec := "spreadValid", unfollowed := true, recurses := true, named := ["slotmesh/random.steps", "math/bits.deBruijn32tab", "math/bits.deBruijn64tab", "unicode/utf8.first", "unicode/utf8.acceptRanges"], apart := false, laid := [("math/bits.deBruijn32tab", laid_math_bits_deBruijn32tab), ("math/bits.deBruijn64tab", laid_math_bits_deBruijn64tab), ("unicode/utf8.acceptRanges", laid_unicode_utf8_acceptRanges), ("slotmesh/random.steps", laid_slotmesh_random_steps), ("unicode/utf8.first", laid_unicode_utf8_first)] }
def SpreadValidSaid : Prop := spreadValidRow.holds Tryz.pinned (OpenSpec.ofChange spreadValidSpec)

/-- ITS FALSE NEIGHBOUR: 'it returns false'. Refute it at one input. -/
def spreadValidWrong : ChangeSpec := { name := "spreadValid", fn := fun _ => fun
  | [d1, d2, d3, d4, d5, d6] => { results := [.lit (.bool false)], args := [d1, d2, d3, d4, d5, d6] }
  | _ => none }
def SpreadValidWrongFalsely : Prop := spreadValidRow.holds Tryz.pinned (OpenSpec.ofChange spreadValidWrong)

/-- 'slotmeshlaw39.SpreadLoads': WHATEVER THE INPUT: true; the input reads as it did. -/
def spreadLoadsSpec : ChangeSpec := { name := "spreadLoads", fn := fun _ => fun
  | [d1, d2, d3, d4, d5, d6] => { results := [.lit (.bool true)], args := [d1, d2, d3, d4, d5, d6] }
  | _ => none }
def spreadLoadsRow : OpenClaim := { program := "ytibhflogmbfpcaagreatdoor", sum := "0f246341cc8d595aa3601c22b8607e51b228971e54ecee16431b2fcb134a0b3c", func := "slotmesh/slotmeshlaw39.SpreadLoads", spec := "spreadLoads", unfollowed := true, recurses := true, named := ["slotmesh/random.steps", "math/bits.deBruijn32tab", "math/bits.deBruijn64tab", "unicode/utf8.first", "unicode/utf8.acceptRanges"], apart := false, laid := [("math/bits.deBruijn32tab", laid_math_bits_deBruijn32tab), ("math/bits.deBruijn64tab", laid_math_bits_deBruijn64tab), ("unicode/utf8.acceptRanges", laid_unicode_utf8_acceptRanges), ("slotmesh/random.steps", laid_slotmesh_random_steps), ("unicode/utf8.first", laid_unicode_utf8_first)] }
def SpreadLoadsSaid : Prop := spreadLoadsRow.holds Tryz.pinned (OpenSpec.ofChange spreadLoadsSpec)

/-- ITS FALSE NEIGHBOUR: 'it returns false'. Refute it at one input. -/
def spreadLoadsWrong : ChangeSpec := { name := "spreadLoads", fn := fun _ => fun
  | [d1, d2, d3, d4, d5, d6] => { results := [.lit (.bool false)], args := [d1, d2, d3, d4, d5, d6] }
  | _ => none }
def SpreadLoadsWrongFalsely : Prop := spreadLoadsRow.holds Tryz.pinned (OpenSpec.ofChange spreadLoadsWrong)

/-- 'slotmeshlaw39.SpreadEnough': WHATEVER THE INPUT: true; the input reads as it did. -/
def spreadEnoughSpec : ChangeSpec := { name := "spreadEnough", fn := fun _ => fun
  | [d1, d2] => { results := [.lit (.bool true)], args := [d1, d2] }
  | _ => none }
def spreadEnoughRow : OpenClaim := { program := "ytibhflogmbfpcaagreatdoor", sum := "0f246341cc8d595aa3601c22b8607e51b228971e54ecee16431b2fcb134a0b3c", func := "slotmesh/slotmeshlaw39.SpreadEnough", spec := "spreadEnough", unfollowed := true, recurses := true, named := ["slotmesh/random.steps", "math/bits.deBruijn32tab", "math/bits.deBruijn64tab", "unicode/utf8.first", "unicode/utf8.acceptRanges"], apart := false, laid := [("math/bits.deBruijn32tab", laid_math_bits_deBruijn32tab), ("math/bits.deBruijn64tab", laid_math_bits_deBruijn64tab), ("unicode/utf8.acceptRanges", laid_unicode_utf8_acceptRanges), ("slotmesh/random.steps", laid_slotmesh_random_steps), ("unicode/utf8.first", laid_unicode_utf8_first)] }
def SpreadEnoughSaid : Prop := spreadEnoughRow.holds Tryz.pinned (OpenSpec.ofChange spreadEnoughSpec)

/-- ITS FALSE NEIGHBOUR: 'it returns false'. Refute it at one input. -/
def spreadEnoughWrong : ChangeSpec := { name := "spreadEnough", fn := fun _ => fun
  | [d1, d2] => { results := [.lit (.bool false)], args := [d1, d2] }
  | _ => none }
def SpreadEnoughWrongFalsely : Prop := spreadEnoughRow.holds Tryz.pinned (OpenSpec.ofChange spreadEnoughWrong)

/-- 'slotmeshlaw39.SpreadVersions': WHATEVER THE INPUT: true; the input reads as it did. -/
def spreadVersionsSpec : ChangeSpec := { name := "spreadVersions", fn := fun _ => fun
  | [d1, d2, d3, d4] => { results := [.lit (.bool true)], args := [d1, d2, d3, d4] }
  | _ => none }
def spreadVersionsRow : OpenClaim := { program := "ytibhflogmbfpcaagreatdoor", sum := "0f246341cc8d595aa3601c22b8607e51b228971e54ecee16431b2fcb134a0b3c", func := "slotmesh/slotmeshlaw39.SpreadVersions", spec := "spreadVersions", unfollowed := true, recurses := true, named := ["slotmesh/random.steps", "math/bits.deBruijn32tab", "math/bits.deBruijn64tab", "unicode/utf8.first", "unicode/utf8.acceptRanges"], apart := false, laid := [("math/bits.deBruijn32tab", laid_math_bits_deBruijn32tab), ("math/bits.deBruijn64tab", laid_math_bits_deBruijn64tab), ("unicode/utf8.acceptRanges", laid_unicode_utf8_acceptRanges), ("slotmesh/random.steps", laid_slotmesh_random_steps), ("unicode/utf8.first", laid_unicode_utf8_first)] }
def SpreadVersionsSaid : Prop := spreadVersionsRow.holds Tryz.pinned (OpenSpec.ofChange spreadVersionsSpec)

/-- ITS FALSE NEIGHBOUR: 'it returns false'. Refute it at one input. -/
def spreadVersionsWrong : ChangeSpec := { name := "spreadVersions", fn := fun _ => fun
  | [d1, d2, d3, d4] => { results := [.lit (.bool false)], args := [d1, d2, d3, d4] }
  | _ => none }
def SpreadVersionsWrongFalsely : Prop := spreadVersionsRow.holds Tryz.pinned (OpenSpec.ofChange spreadVersionsWrong)

/-- 'slotmeshlaw39.SpreadServes': WHATEVER THE INPUT: true; the input reads as it did. -/
def spreadServesSpec : ChangeSpec := { name := "spreadServes", fn := fun _ => fun
  | [d1, d2, d3] => { results := [.lit (.bool true)], args := [d1, d2, d3] }
  | _ => none }
def spreadServesRow : OpenClaim := { program := "ytibhflogmbfpcaagreatdoor", sum := "0f246341cc8d595aa3601c22b8607e51b228971e54ecee16431b2fcb134a0b3c", func := "slotmesh/slotmeshlaw39.SpreadServes", spec := "spreadServes", unfollowed := true, recurses := true, named := ["slotmesh/random.steps", "math/bits.deBruijn32tab", "math/bits.deBruijn64tab", "unicode/utf8.first", "unicode/utf8.acceptRanges"], apart := false, laid := [("math/bits.deBruijn32tab", laid_math_bits_deBruijn32tab), ("math/bits.deBruijn64tab", laid_math_bits_deBruijn64tab), ("unicode/utf8.acceptRanges", laid_unicode_utf8_acceptRanges), ("slotmesh/random.steps", laid_slotmesh_random_steps), ("unicode/utf8.first", laid_unicode_utf8_first)] }
def SpreadServesSaid : Prop := spreadServesRow.holds Tryz.pinned (OpenSpec.ofChange spreadServesSpec)

/-- ITS FALSE NEIGHBOUR: 'it returns false'. Refute it at one input. -/
def spreadServesWrong : ChangeSpec := { name := "spreadServes", fn := fun _ => fun
  | [d1, d2, d3] => { results := [.lit (.bool false)], args := [d1, d2, d3] }
  | _ => none }
def SpreadServesWrongFalsely : Prop := spreadServesRow.holds Tryz.pinned (OpenSpec.ofChange spreadServesWrong)

/-- 'slotmeshlaw39.SpreadSilent': WHATEVER THE INPUT: true; the input reads as it did. -/
def spreadSilentSpec : ChangeSpec := { name := "spreadSilent", fn := fun _ => fun
  | [d1, d2, d3] => { results := [.lit (.bool true)], args := [d1, d2, d3] }
  | _ => none }
def spreadSilentRow : OpenClaim := { program := "ytibhflogmbfpcaagreatdoor", sum := "0f246341cc8d595aa3601c22b8607e51b228971e54ecee16431b2fcb134a0b3c", func := "slotmesh/slotmeshlaw39.SpreadSilent", spec := "spreadSilent", unfollowed := true, recurses := true, named := ["slotmesh/random.steps", "math/bits.deBruijn32tab", "math/bits.deBruijn64tab", "unicode/utf8.first", "unicode/utf8.acceptRanges"], apart := false, laid := [("math/bits.deBruijn32tab", laid_math_bits_deBruijn32tab), ("math/bits.deBruijn64tab", laid_math_bits_deBruijn64tab), ("unicode/utf8.acceptRanges", laid_unicode_utf8_acceptRanges), ("slotmesh/random.steps", laid_slotmesh_random_steps), ("unicode/utf8.first", laid_unicode_utf8_first)] }
def SpreadSilentSaid : Prop := spreadSilentRow.holds Tryz.pinned (OpenSpec.ofChange spreadSilentSpec)

/-- ITS FALSE NEIGHBOUR: 'it returns false'. Refute it at one input. -/
def spreadSilentWrong : ChangeSpec := { name := "spreadSilent", fn := fun _ => fun
  | [d1, d2, d3] => { results := [.lit (.bool false)], args := [d1, d2, d3] }
  | _ => none }
def SpreadSilentWrongFalsely : Prop := spreadSilentRow.holds Tryz.pinned (OpenSpec.ofChange spreadSilentWrong)

/-- 'slotmeshtop.TopProgramArrives': WHATEVER THE INPUT: true; the input reads as it did. -/
def topProgramArrivesSpec : ChangeSpec := { name := "topProgramArrives", fn := fun _ => fun
  | [d1, d2, d3, d4, d5] => { results := [.lit (.bool true)], args := [d1, d2, d3, d4, d5] }
  | _ => none }
def topProgramArrivesRow : OpenClaim := { program := "ytibhflogmbfpcaagreatdoor", sum := "0f246341cc8d595aa3601c22b8607e51b228971e54ecee16431b2fcb134a0b3c", func := "slotmesh/slotmeshtop.TopProgramArrives", spec := "topProgramArrives", inPlace := ["internal/bytealg.MakeNoZero"], unfollowed := true, recurses := true, named := ["slotmesh/random.steps", "math/bits.deBruijn32tab", "math/bits.deBruijn64tab", "unicode/utf8.first", "unicode/utf8.acceptRanges"], apart := false, laid := [("math/bits.deBruijn32tab", laid_math_bits_deBruijn32tab), ("math/bits.deBruijn64tab", laid_math_bits_deBruijn64tab), ("unicode/utf8.acceptRanges", laid_unicode_utf8_acceptRanges), ("slotmesh/random.steps", laid_slotmesh_random_steps), ("unicode/utf8.first", laid_unicode_utf8_first)] }
def TopProgramArrivesSaid : Prop := topProgramArrivesRow.holds Tryz.pinned (OpenSpec.ofChange topProgramArrivesSpec)

/-- ITS FALSE NEIGHBOUR: 'it returns false'. Refute it at one input. -/
def topProgramArrivesWrong : ChangeSpec := { name := "topProgramArrives", fn := fun _ => fun
  | [d1, d2, d3, d4, d5] => { results := [.lit (.bool false)], args := [d1, d2, d3, d4, d5] }
  | _ => none }
def TopProgramArrivesWrongFalsely : Prop := topProgramArrivesRow.holds Tryz.pinned (OpenSpec.ofChange topProgramArrivesWrong)

/-- 'slotmeshtop.TopTakenBack': WHATEVER THE INPUT: true; the input reads as it did. -/
def topTakenBackSpec : ChangeSpec := { name := "topTakenBack", fn := fun _ => fun
  | [d1, d2, d3, d4, d5] => { results := [.lit (.bool true)], args := [d1, d2, d3, d4, d5] }
  | _ => none }
def topTakenBackRow : OpenClaim := { program := "ytibhflogmbfpcaagreatdoor", sum := "0f246341cc8d595aa3601c22b8607e51b228971e54ecee16431b2fcb134a0b3c", func := "slotmesh/slotmeshtop.TopTakenBack", spec := "topTakenBack", inPlace := ["internal/bytealg.MakeNoZero"], unfollowed := true, recurses := true, named := ["slotmesh/random.steps", "math/bits.deBruijn32tab", "math/bits.deBruijn64tab", "unicode/utf8.first", "unicode/utf8.acceptRanges"], apart := false, laid := [("math/bits.deBruijn32tab", laid_math_bits_deBruijn32tab), ("math/bits.deBruijn64tab", laid_math_bits_deBruijn64tab), ("unicode/utf8.acceptRanges", laid_unicode_utf8_acceptRanges), ("slotmesh/random.steps", laid_slotmesh_random_steps), ("unicode/utf8.first", laid_unicode_utf8_first)] }
def TopTakenBackSaid : Prop := topTakenBackRow.holds Tryz.pinned (OpenSpec.ofChange topTakenBackSpec)

/-- ITS FALSE NEIGHBOUR: 'it returns false'. Refute it at one input. -/
def topTakenBackWrong : ChangeSpec := { name := "topTakenBack", fn := fun _ => fun
  | [d1, d2, d3, d4, d5] => { results := [.lit (.bool false)], args := [d1, d2, d3, d4, d5] }
  | _ => none }
def TopTakenBackWrongFalsely : Prop := topTakenBackRow.holds Tryz.pinned (OpenSpec.ofChange topTakenBackWrong)

/-- 'slotmeshtop.TopLineOfNodes': WHATEVER THE INPUT: true; the input reads as it did. -/
def topLineOfNodesSpec : ChangeSpec := { name := "topLineOfNodes", fn := fun _ => fun
  | [d1, d2, d3, d4] => { results := [.lit (.bool true)], args := [d1, d2, d3, d4] }
  | _ => none }
def topLineOfNodesRow : OpenClaim := { program := "ytibhflogmbfpcaagreatdoor", sum := "0f246341cc8d595aa3601c22b8607e51b228971e54ecee16431b2fcb134a0b3c", func := "slotmesh/slotmeshtop.TopLineOfNodes", spec := "topLineOfNodes", inPlace := ["internal/bytealg.MakeNoZero"], unfollowed := true, recurses := true, named := ["slotmesh/random.steps", "math/bits.deBruijn32tab", "math/bits.deBruijn64tab", "unicode/utf8.first", "unicode/utf8.acceptRanges"], apart := false, laid := [("math/bits.deBruijn32tab", laid_math_bits_deBruijn32tab), ("math/bits.deBruijn64tab", laid_math_bits_deBruijn64tab), ("unicode/utf8.acceptRanges", laid_unicode_utf8_acceptRanges), ("slotmesh/random.steps", laid_slotmesh_random_steps), ("unicode/utf8.first", laid_unicode_utf8_first)] }
def TopLineOfNodesSaid : Prop := topLineOfNodesRow.holds Tryz.pinned (OpenSpec.ofChange topLineOfNodesSpec)

/-- ITS FALSE NEIGHBOUR: 'it returns false'. Refute it at one input. -/
def topLineOfNodesWrong : ChangeSpec := { name := "topLineOfNodes", fn := fun _ => fun
  | [d1, d2, d3, d4] => { results := [.lit (.bool false)], args := [d1, d2, d3, d4] }
  | _ => none }
def TopLineOfNodesWrongFalsely : Prop := topLineOfNodesRow.holds Tryz.pinned (OpenSpec.ofChange topLineOfNodesWrong)

/- THE SECOND FORM. 'bulk': how many values and letters a reading holds, each counted each time it is reached (what is shared counts as often as it is met; a slice's spare places count too). A statement '..UptoSaid' is the law's where the arguments, and the package variables that the reading takes, are together of bulk at most 1048576: NARROWER than '..Said'. Prove '..Said' where nothing that the law and all that it calls make is longer than what came in: it says more and counts as full. Else prove '..UptoSaid'. A law counts once. -/
mutual
def uptoBulk {H : Type} : DataW H → Nat
  | .lit (.string bytes) => bytes.length + 1
  | .lit _ => 1
  | .nil => 1
  | .ptr d => uptoBulk d + 1
  | .slice elems spare => uptoBulkAll elems + uptoBulkAll spare + 1
  | .agg parts => uptoBulkAll parts + 1
  | .iface _ d => uptoBulk d + 1
  | .map entries => uptoBulkEntries entries + 1
  | .held _ => 1
def uptoBulkAll {H : Type} : List (DataW H) → Nat
  | [] => 0
  | d :: r => uptoBulk d + uptoBulkAll r
def uptoBulkEntries {H : Type} : List (Lit × DataW H) → Nat
  | [] => 0
  | x :: r => uptoBulkEntry x + uptoBulkEntries r
def uptoBulkEntry {H : Type} : Lit × DataW H → Nat
  | (.string bytes, d) => bytes.length + uptoBulk d + 1
  | (_, d) => uptoBulk d + 1
 end
def uptoSmall : (H : Type) → List (DataW H) → Bool := fun _ ds => decide (uptoBulkAll ds ≤ 1048576)
def OpenSpec.upto (s : _root_.Go.ChangeSpec) : _root_.Go.OpenSpec := { _root_.Go.OpenSpec.ofChange s with cond := some uptoSmall }

/-- 'slotmeshlaw39.SpreadMatchesReference', WHERE WHAT IT READS IS OF BULK AT MOST 1048576: true; the input reads as it did. -/
def spreadMatchesReferenceUptoRow : OpenClaim := { program := "ytibhflogmbfpcaagreatdoor", sum := "0f246341cc8d595aa3601c22b8607e51b228971e54ecee16431b2fcb134a0b3c", func := "slotmesh/slotmeshlaw39.SpreadMatchesReference", spec := "spreadMatchesReference", unfollowed := true, recurses := true, named := ["slotmesh/random.steps", "math/bits.deBruijn32tab", "math/bits.deBruijn64tab", "unicode/utf8.first", "unicode/utf8.acceptRanges"], apart := false, laid := [("math/bits.deBruijn32tab", laid_math_bits_deBruijn32tab), ("math/bits.deBruijn64tab", laid_math_bits_deBruijn64tab), ("unicode/utf8.acceptRanges", laid_unicode_utf8_acceptRanges), ("slotmesh/random.steps", laid_slotmesh_random_steps), ("unicode/utf8.first", laid_unicode_utf8_first)], narrowed := true }
def SpreadMatchesReferenceUptoSaid : Prop := spreadMatchesReferenceUptoRow.holds Tryz.pinned (OpenSpec.upto spreadMatchesReferenceSpec)

/-- 'slotmeshlaw39.SpreadValid', WHERE WHAT IT READS IS OF BULK AT MOST 1048576: true; the input reads as it did. -/
def spreadValidUptoRow : OpenClaim := { program := "ytibhflogmbfpcaagreatdoor", sum := "0f246341cc8d595aa3601c22b8607e51b228971e54ecee16431b2fcb134a0b3c", func := "slotmesh/slotmeshlaw39.SpreadValid", spec := "spreadValid", unfollowed := true, recurses := true, named := ["slotmesh/random.steps", "math/bits.deBruijn32tab", "math/bits.deBruijn64tab", "unicode/utf8.first", "unicode/utf8.acceptRanges"], apart := false, laid := [("math/bits.deBruijn32tab", laid_math_bits_deBruijn32tab), ("math/bits.deBruijn64tab", laid_math_bits_deBruijn64tab), ("unicode/utf8.acceptRanges", laid_unicode_utf8_acceptRanges), ("slotmesh/random.steps", laid_slotmesh_random_steps), ("unicode/utf8.first", laid_unicode_utf8_first)], narrowed := true }
def SpreadValidUptoSaid : Prop := spreadValidUptoRow.holds Tryz.pinned (OpenSpec.upto spreadValidSpec)

/-- 'slotmeshlaw39.SpreadLoads', WHERE WHAT IT READS IS OF BULK AT MOST 1048576: true; the input reads as it did. -/
def spreadLoadsUptoRow : OpenClaim := { program := "ytibhflogmbfpcaagreatdoor", sum := "0f246341cc8d595aa3601c22b8607e51b228971e54ecee16431b2fcb134a0b3c", func := "slotmesh/slotmeshlaw39.SpreadLoads", spec := "spreadLoads", unfollowed := true, recurses := true, named := ["slotmesh/random.steps", "math/bits.deBruijn32tab", "math/bits.deBruijn64tab", "unicode/utf8.first", "unicode/utf8.acceptRanges"], apart := false, laid := [("math/bits.deBruijn32tab", laid_math_bits_deBruijn32tab), ("math/bits.deBruijn64tab", laid_math_bits_deBruijn64tab), ("unicode/utf8.acceptRanges", laid_unicode_utf8_acceptRanges), ("slotmesh/random.steps", laid_slotmesh_random_steps), ("unicode/utf8.first", laid_unicode_utf8_first)], narrowed := true }
def SpreadLoadsUptoSaid : Prop := spreadLoadsUptoRow.holds Tryz.pinned (OpenSpec.upto spreadLoadsSpec)

/-- 'slotmeshlaw39.SpreadEnough', WHERE WHAT IT READS IS OF BULK AT MOST 1048576: true; the input reads as it did. -/
def spreadEnoughUptoRow : OpenClaim := { program := "ytibhflogmbfpcaagreatdoor", sum := "0f246341cc8d595aa3601c22b8607e51b228971e54ecee16431b2fcb134a0b3c", func := "slotmesh/slotmeshlaw39.SpreadEnough", spec := "spreadEnough", unfollowed := true, recurses := true, named := ["slotmesh/random.steps", "math/bits.deBruijn32tab", "math/bits.deBruijn64tab", "unicode/utf8.first", "unicode/utf8.acceptRanges"], apart := false, laid := [("math/bits.deBruijn32tab", laid_math_bits_deBruijn32tab), ("math/bits.deBruijn64tab", laid_math_bits_deBruijn64tab), ("unicode/utf8.acceptRanges", laid_unicode_utf8_acceptRanges), ("slotmesh/random.steps", laid_slotmesh_random_steps), ("unicode/utf8.first", laid_unicode_utf8_first)], narrowed := true }
def SpreadEnoughUptoSaid : Prop := spreadEnoughUptoRow.holds Tryz.pinned (OpenSpec.upto spreadEnoughSpec)

/-- 'slotmeshlaw39.SpreadVersions', WHERE WHAT IT READS IS OF BULK AT MOST 1048576: true; the input reads as it did. -/
def spreadVersionsUptoRow : OpenClaim := { program := "ytibhflogmbfpcaagreatdoor", sum := "0f246341cc8d595aa3601c22b8607e51b228971e54ecee16431b2fcb134a0b3c", func := "slotmesh/slotmeshlaw39.SpreadVersions", spec := "spreadVersions", unfollowed := true, recurses := true, named := ["slotmesh/random.steps", "math/bits.deBruijn32tab", "math/bits.deBruijn64tab", "unicode/utf8.first", "unicode/utf8.acceptRanges"], apart := false, laid := [("math/bits.deBruijn32tab", laid_math_bits_deBruijn32tab), ("math/bits.deBruijn64tab", laid_math_bits_deBruijn64tab), ("unicode/utf8.acceptRanges", laid_unicode_utf8_acceptRanges), ("slotmesh/random.steps", laid_slotmesh_random_steps), ("unicode/utf8.first", laid_unicode_utf8_first)], narrowed := true }
def SpreadVersionsUptoSaid : Prop := spreadVersionsUptoRow.holds Tryz.pinned (OpenSpec.upto spreadVersionsSpec)

/-- 'slotmeshlaw39.SpreadServes', WHERE WHAT IT READS IS OF BULK AT MOST 1048576: true; the input reads as it did. -/
def spreadServesUptoRow : OpenClaim := { program := "ytibhflogmbfpcaagreatdoor", sum := "0f246341cc8d595aa3601c22b8607e51b228971e54ecee16431b2fcb134a0b3c", func := "slotmesh/slotmeshlaw39.SpreadServes", spec := "spreadServes", unfollowed := true, recurses := true, named := ["slotmesh/random.steps", "math/bits.deBruijn32tab", "math/bits.deBruijn64tab", "unicode/utf8.first", "unicode/utf8.acceptRanges"], apart := false, laid := [("math/bits.deBruijn32tab", laid_math_bits_deBruijn32tab), ("math/bits.deBruijn64tab", laid_math_bits_deBruijn64tab), ("unicode/utf8.acceptRanges", laid_unicode_utf8_acceptRanges), ("slotmesh/random.steps", laid_slotmesh_random_steps), ("unicode/utf8.first", laid_unicode_utf8_first)], narrowed := true }
def SpreadServesUptoSaid : Prop := spreadServesUptoRow.holds Tryz.pinned (OpenSpec.upto spreadServesSpec)

/-- 'slotmeshlaw39.SpreadSilent', WHERE WHAT IT READS IS OF BULK AT MOST 1048576: true; the input reads as it did. -/
def spreadSilentUptoRow : OpenClaim := { program := "ytibhflogmbfpcaagreatdoor", sum := "0f246341cc8d595aa3601c22b8607e51b228971e54ecee16431b2fcb134a0b3c", func := "slotmesh/slotmeshlaw39.SpreadSilent", spec := "spreadSilent", unfollowed := true, recurses := true, named := ["slotmesh/random.steps", "math/bits.deBruijn32tab", "math/bits.deBruijn64tab", "unicode/utf8.first", "unicode/utf8.acceptRanges"], apart := false, laid := [("math/bits.deBruijn32tab", laid_math_bits_deBruijn32tab), ("math/bits.deBruijn64tab", laid_math_bits_deBruijn64tab), ("unicode/utf8.acceptRanges", laid_unicode_utf8_acceptRanges), ("slotmesh/random.steps", laid_slotmesh_random_steps), ("unicode/utf8.first", laid_unicode_utf8_first)], narrowed := true }
def SpreadSilentUptoSaid : Prop := spreadSilentUptoRow.holds Tryz.pinned (OpenSpec.upto spreadSilentSpec)

/-- 'slotmeshtop.TopProgramArrives', WHERE WHAT IT READS IS OF BULK AT MOST 1048576: true; the input reads as it did. -/
def topProgramArrivesUptoRow : OpenClaim := { program := "ytibhflogmbfpcaagreatdoor", sum := "0f246341cc8d595aa3601c22b8607e51b228971e54ecee16431b2fcb134a0b3c", func := "slotmesh/slotmeshtop.TopProgramArrives", spec := "topProgramArrives", inPlace := ["internal/bytealg.MakeNoZero"], unfollowed := true, recurses := true, named := ["slotmesh/random.steps", "math/bits.deBruijn32tab", "math/bits.deBruijn64tab", "unicode/utf8.first", "unicode/utf8.acceptRanges"], apart := false, laid := [("math/bits.deBruijn32tab", laid_math_bits_deBruijn32tab), ("math/bits.deBruijn64tab", laid_math_bits_deBruijn64tab), ("unicode/utf8.acceptRanges", laid_unicode_utf8_acceptRanges), ("slotmesh/random.steps", laid_slotmesh_random_steps), ("unicode/utf8.first", laid_unicode_utf8_first)], narrowed := true }
def TopProgramArrivesUptoSaid : Prop := topProgramArrivesUptoRow.holds Tryz.pinned (OpenSpec.upto topProgramArrivesSpec)

/-- 'slotmeshtop.TopTakenBack', WHERE WHAT IT READS IS OF BULK AT MOST 1048576: true; the input reads as it did. -/
def topTakenBackUptoRow : OpenClaim := { program := "ytibhflogmbfpcaagreatdoor", sum := "0f246341cc8d595aa3601c22b8607e51b228971e54ecee16431b2fcb134a0b3c", func := "slotmesh/slotmeshtop.TopTakenBack", spec := "topTakenBack", inPlace := ["internal/bytealg.MakeNoZero"], unfollowed := true, recurses := true, named := ["slotmesh/random.steps", "math/bits.deBruijn32tab", "math/bits.deBruijn64tab", "unicode/utf8.first", "unicode/utf8.acceptRanges"], apart := false, laid := [("math/bits.deBruijn32tab", laid_math_bits_deBruijn32tab), ("math/bits.deBruijn64tab", laid_math_bits_deBruijn64tab), ("unicode/utf8.acceptRanges", laid_unicode_utf8_acceptRanges), ("slotmesh/random.steps", laid_slotmesh_random_steps), ("unicode/utf8.first", laid_unicode_utf8_first)], narrowed := true }
def TopTakenBackUptoSaid : Prop := topTakenBackUptoRow.holds Tryz.pinned (OpenSpec.upto topTakenBackSpec)

/-- 'slotmeshtop.TopLineOfNodes', WHERE WHAT IT READS IS OF BULK AT MOST 1048576: true; the input reads as it did. -/
def topLineOfNodesUptoRow : OpenClaim := { program := "ytibhflogmbfpcaagreatdoor", sum := "0f246341cc8d595aa3601c22b8607e51b228971e54ecee16431b2fcb134a0b3c", func := "slotmesh/slotmeshtop.TopLineOfNodes", spec := "topLineOfNodes", inPlace := ["internal/bytealg.MakeNoZero"], unfollowed := true, recurses := true, named := ["slotmesh/random.steps", "math/bits.deBruijn32tab", "math/bits.deBruijn64tab", "unicode/utf8.first", "unicode/utf8.acceptRanges"], apart := false, laid := [("math/bits.deBruijn32tab", laid_math_bits_deBruijn32tab), ("math/bits.deBruijn64tab", laid_math_bits_deBruijn64tab), ("unicode/utf8.acceptRanges", laid_unicode_utf8_acceptRanges), ("slotmesh/random.steps", laid_slotmesh_random_steps), ("unicode/utf8.first", laid_unicode_utf8_first)], narrowed := true }
def TopLineOfNodesUptoSaid : Prop := topLineOfNodesUptoRow.holds Tryz.pinned (OpenSpec.upto topLineOfNodesSpec)

end Rows
end Go.Proofs.YtibhflogmbfpcaaGreatDoor
