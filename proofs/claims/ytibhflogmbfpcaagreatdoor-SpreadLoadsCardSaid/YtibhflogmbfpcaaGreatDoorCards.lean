/-
  DERIVED. GIVEN WITH THE SEED: THE CARDS: each row of YtibhflogmbfpcaaGreatDoorRows.lean that lists a variable, with what it lists TIED to the program's text (the seventh form; the later family's looks); each row that meets fmt, with fmt's text TOLD by the authors' own Lean function (tested against real Go, not proved from fmt's source: count such statements apart). THE CARD IS WHAT COUNTS. Prove the row's statement (the work); the ties are given (YtibhflogmbfpcaaGreatDoorTie.lean); close each card by the builder's one call (the guide's Derived/Test/ToyasCard.lean, 'card_holds'). Laid BY PROGRAM, IN A SANDBOX (cutbox-door.mjs). By AI agents, Wed Nov 11 2026. No macro, syntax, notation, axiom, sorry.
-/
import Derived.Test.YtibhflogmbfpcaaGreatDoorRows
import GoSem.ClaimSeven
namespace Go.Proofs.YtibhflogmbfpcaaGreatDoor
namespace Rows

/-- THE TIED CARD OF 'slotmeshlaw39.SpreadMatchesReference'. -/
def spreadMatchesReferenceCard : Claim7 := { stood := { row := spreadMatchesReferenceRow, standIns := [], harness := (true, "e961c720dafc454922911df2901c5a4c1fa30ff6e577b326ddf1969b11d365c1"), looks := false }, kinds := [], alts := [], laidByText := true, laidKinds := [.data, .data, .data, .data, .pinned], laidTests := true, laidLooks := .later }
def SpreadMatchesReferenceCardSaid : Prop := Claim7.holds Tryz.pinned (.plain (OpenSpec.ofChange spreadMatchesReferenceSpec)) spreadMatchesReferenceCard

/-- THE TIED CARD OF 'slotmeshlaw39.SpreadValid'. -/
def spreadValidCard : Claim7 := { stood := { row := spreadValidRow, standIns := [], harness := (true, "e961c720dafc454922911df2901c5a4c1fa30ff6e577b326ddf1969b11d365c1"), looks := false }, kinds := [], alts := [], laidByText := true, laidKinds := [.data, .data, .data, .data, .pinned], laidTests := true, laidLooks := .later }
def SpreadValidCardSaid : Prop := Claim7.holds Tryz.pinned (.plain (OpenSpec.ofChange spreadValidSpec)) spreadValidCard

/-- THE TIED CARD OF 'slotmeshlaw39.SpreadLoads'. -/
def spreadLoadsCard : Claim7 := { stood := { row := spreadLoadsRow, standIns := [], harness := (true, "e961c720dafc454922911df2901c5a4c1fa30ff6e577b326ddf1969b11d365c1"), looks := false }, kinds := [], alts := [], laidByText := true, laidKinds := [.data, .data, .data, .data, .pinned], laidTests := true, laidLooks := .later }
def SpreadLoadsCardSaid : Prop := Claim7.holds Tryz.pinned (.plain (OpenSpec.ofChange spreadLoadsSpec)) spreadLoadsCard

/-- THE TIED CARD OF 'slotmeshlaw39.SpreadEnough'. -/
def spreadEnoughCard : Claim7 := { stood := { row := spreadEnoughRow, standIns := [], harness := (true, "e961c720dafc454922911df2901c5a4c1fa30ff6e577b326ddf1969b11d365c1"), looks := false }, kinds := [], alts := [], laidByText := true, laidKinds := [.data, .data, .data, .data, .pinned], laidTests := true, laidLooks := .later }
def SpreadEnoughCardSaid : Prop := Claim7.holds Tryz.pinned (.plain (OpenSpec.ofChange spreadEnoughSpec)) spreadEnoughCard

/-- THE TIED CARD OF 'slotmeshlaw39.SpreadVersions'. -/
def spreadVersionsCard : Claim7 := { stood := { row := spreadVersionsRow, standIns := [], harness := (true, "e961c720dafc454922911df2901c5a4c1fa30ff6e577b326ddf1969b11d365c1"), looks := false }, kinds := [], alts := [], laidByText := true, laidKinds := [.data, .data, .data, .data, .pinned], laidTests := true, laidLooks := .later }
def SpreadVersionsCardSaid : Prop := Claim7.holds Tryz.pinned (.plain (OpenSpec.ofChange spreadVersionsSpec)) spreadVersionsCard

/-- THE TIED CARD OF 'slotmeshlaw39.SpreadServes'. -/
def spreadServesCard : Claim7 := { stood := { row := spreadServesRow, standIns := [], harness := (true, "e961c720dafc454922911df2901c5a4c1fa30ff6e577b326ddf1969b11d365c1"), looks := false }, kinds := [], alts := [], laidByText := true, laidKinds := [.data, .data, .data, .data, .pinned], laidTests := true, laidLooks := .later }
def SpreadServesCardSaid : Prop := Claim7.holds Tryz.pinned (.plain (OpenSpec.ofChange spreadServesSpec)) spreadServesCard

/-- THE TIED CARD OF 'slotmeshlaw39.SpreadSilent'. -/
def spreadSilentCard : Claim7 := { stood := { row := spreadSilentRow, standIns := [], harness := (true, "e961c720dafc454922911df2901c5a4c1fa30ff6e577b326ddf1969b11d365c1"), looks := false }, kinds := [], alts := [], laidByText := true, laidKinds := [.data, .data, .data, .data, .pinned], laidTests := true, laidLooks := .later }
def SpreadSilentCardSaid : Prop := Claim7.holds Tryz.pinned (.plain (OpenSpec.ofChange spreadSilentSpec)) spreadSilentCard

/-- THE TIED CARD OF 'slotmeshtop.TopProgramArrives'. -/
def topProgramArrivesCard : Claim7 := { stood := { row := topProgramArrivesRow, standIns := [], harness := (true, "e961c720dafc454922911df2901c5a4c1fa30ff6e577b326ddf1969b11d365c1"), looks := false }, kinds := [], alts := [], laidByText := true, laidKinds := [.data, .data, .data, .data, .pinned], laidTests := true, laidLooks := .later }
def TopProgramArrivesCardSaid : Prop := Claim7.holds Tryz.pinned (.plain (OpenSpec.ofChange topProgramArrivesSpec)) topProgramArrivesCard

/-- THE TIED CARD OF 'slotmeshtop.TopTakenBack'. -/
def topTakenBackCard : Claim7 := { stood := { row := topTakenBackRow, standIns := [], harness := (true, "e961c720dafc454922911df2901c5a4c1fa30ff6e577b326ddf1969b11d365c1"), looks := false }, kinds := [], alts := [], laidByText := true, laidKinds := [.data, .data, .data, .data, .pinned], laidTests := true, laidLooks := .later }
def TopTakenBackCardSaid : Prop := Claim7.holds Tryz.pinned (.plain (OpenSpec.ofChange topTakenBackSpec)) topTakenBackCard

/-- THE TIED CARD OF 'slotmeshtop.TopLineOfNodes'. -/
def topLineOfNodesCard : Claim7 := { stood := { row := topLineOfNodesRow, standIns := [], harness := (true, "e961c720dafc454922911df2901c5a4c1fa30ff6e577b326ddf1969b11d365c1"), looks := false }, kinds := [], alts := [], laidByText := true, laidKinds := [.data, .data, .data, .data, .pinned], laidTests := true, laidLooks := .later }
def TopLineOfNodesCardSaid : Prop := Claim7.holds Tryz.pinned (.plain (OpenSpec.ofChange topLineOfNodesSpec)) topLineOfNodesCard

/-- THE SECOND FORM's CARD OF 'slotmeshlaw39.SpreadMatchesReference'. -/
def spreadMatchesReferenceUptoCard : Claim7 := { stood := { row := spreadMatchesReferenceUptoRow, standIns := [], harness := (true, "e961c720dafc454922911df2901c5a4c1fa30ff6e577b326ddf1969b11d365c1"), looks := false }, kinds := [], alts := [], laidByText := true, laidKinds := [.data, .data, .data, .data, .pinned], laidTests := true, laidLooks := .later }
def SpreadMatchesReferenceUptoCardSaid : Prop := Claim7.holds Tryz.pinned (.plain (OpenSpec.upto spreadMatchesReferenceSpec)) spreadMatchesReferenceUptoCard

/-- THE SECOND FORM's CARD OF 'slotmeshlaw39.SpreadValid'. -/
def spreadValidUptoCard : Claim7 := { stood := { row := spreadValidUptoRow, standIns := [], harness := (true, "e961c720dafc454922911df2901c5a4c1fa30ff6e577b326ddf1969b11d365c1"), looks := false }, kinds := [], alts := [], laidByText := true, laidKinds := [.data, .data, .data, .data, .pinned], laidTests := true, laidLooks := .later }
def SpreadValidUptoCardSaid : Prop := Claim7.holds Tryz.pinned (.plain (OpenSpec.upto spreadValidSpec)) spreadValidUptoCard

/-- THE SECOND FORM's CARD OF 'slotmeshlaw39.SpreadLoads'. -/
def spreadLoadsUptoCard : Claim7 := { stood := { row := spreadLoadsUptoRow, standIns := [], harness := (true, "e961c720dafc454922911df2901c5a4c1fa30ff6e577b326ddf1969b11d365c1"), looks := false }, kinds := [], alts := [], laidByText := true, laidKinds := [.data, .data, .data, .data, .pinned], laidTests := true, laidLooks := .later }
def SpreadLoadsUptoCardSaid : Prop := Claim7.holds Tryz.pinned (.plain (OpenSpec.upto spreadLoadsSpec)) spreadLoadsUptoCard

/-- THE SECOND FORM's CARD OF 'slotmeshlaw39.SpreadEnough'. -/
def spreadEnoughUptoCard : Claim7 := { stood := { row := spreadEnoughUptoRow, standIns := [], harness := (true, "e961c720dafc454922911df2901c5a4c1fa30ff6e577b326ddf1969b11d365c1"), looks := false }, kinds := [], alts := [], laidByText := true, laidKinds := [.data, .data, .data, .data, .pinned], laidTests := true, laidLooks := .later }
def SpreadEnoughUptoCardSaid : Prop := Claim7.holds Tryz.pinned (.plain (OpenSpec.upto spreadEnoughSpec)) spreadEnoughUptoCard

/-- THE SECOND FORM's CARD OF 'slotmeshlaw39.SpreadVersions'. -/
def spreadVersionsUptoCard : Claim7 := { stood := { row := spreadVersionsUptoRow, standIns := [], harness := (true, "e961c720dafc454922911df2901c5a4c1fa30ff6e577b326ddf1969b11d365c1"), looks := false }, kinds := [], alts := [], laidByText := true, laidKinds := [.data, .data, .data, .data, .pinned], laidTests := true, laidLooks := .later }
def SpreadVersionsUptoCardSaid : Prop := Claim7.holds Tryz.pinned (.plain (OpenSpec.upto spreadVersionsSpec)) spreadVersionsUptoCard

/-- THE SECOND FORM's CARD OF 'slotmeshlaw39.SpreadServes'. -/
def spreadServesUptoCard : Claim7 := { stood := { row := spreadServesUptoRow, standIns := [], harness := (true, "e961c720dafc454922911df2901c5a4c1fa30ff6e577b326ddf1969b11d365c1"), looks := false }, kinds := [], alts := [], laidByText := true, laidKinds := [.data, .data, .data, .data, .pinned], laidTests := true, laidLooks := .later }
def SpreadServesUptoCardSaid : Prop := Claim7.holds Tryz.pinned (.plain (OpenSpec.upto spreadServesSpec)) spreadServesUptoCard

/-- THE SECOND FORM's CARD OF 'slotmeshlaw39.SpreadSilent'. -/
def spreadSilentUptoCard : Claim7 := { stood := { row := spreadSilentUptoRow, standIns := [], harness := (true, "e961c720dafc454922911df2901c5a4c1fa30ff6e577b326ddf1969b11d365c1"), looks := false }, kinds := [], alts := [], laidByText := true, laidKinds := [.data, .data, .data, .data, .pinned], laidTests := true, laidLooks := .later }
def SpreadSilentUptoCardSaid : Prop := Claim7.holds Tryz.pinned (.plain (OpenSpec.upto spreadSilentSpec)) spreadSilentUptoCard

/-- THE SECOND FORM's CARD OF 'slotmeshtop.TopProgramArrives'. -/
def topProgramArrivesUptoCard : Claim7 := { stood := { row := topProgramArrivesUptoRow, standIns := [], harness := (true, "e961c720dafc454922911df2901c5a4c1fa30ff6e577b326ddf1969b11d365c1"), looks := false }, kinds := [], alts := [], laidByText := true, laidKinds := [.data, .data, .data, .data, .pinned], laidTests := true, laidLooks := .later }
def TopProgramArrivesUptoCardSaid : Prop := Claim7.holds Tryz.pinned (.plain (OpenSpec.upto topProgramArrivesSpec)) topProgramArrivesUptoCard

/-- THE SECOND FORM's CARD OF 'slotmeshtop.TopTakenBack'. -/
def topTakenBackUptoCard : Claim7 := { stood := { row := topTakenBackUptoRow, standIns := [], harness := (true, "e961c720dafc454922911df2901c5a4c1fa30ff6e577b326ddf1969b11d365c1"), looks := false }, kinds := [], alts := [], laidByText := true, laidKinds := [.data, .data, .data, .data, .pinned], laidTests := true, laidLooks := .later }
def TopTakenBackUptoCardSaid : Prop := Claim7.holds Tryz.pinned (.plain (OpenSpec.upto topTakenBackSpec)) topTakenBackUptoCard

/-- THE SECOND FORM's CARD OF 'slotmeshtop.TopLineOfNodes'. -/
def topLineOfNodesUptoCard : Claim7 := { stood := { row := topLineOfNodesUptoRow, standIns := [], harness := (true, "e961c720dafc454922911df2901c5a4c1fa30ff6e577b326ddf1969b11d365c1"), looks := false }, kinds := [], alts := [], laidByText := true, laidKinds := [.data, .data, .data, .data, .pinned], laidTests := true, laidLooks := .later }
def TopLineOfNodesUptoCardSaid : Prop := Claim7.holds Tryz.pinned (.plain (OpenSpec.upto topLineOfNodesSpec)) topLineOfNodesUptoCard
end Rows
end Go.Proofs.YtibhflogmbfpcaaGreatDoor
