/-
  DERIVED. GIVEN WITH THE SEED: THE CARDS: each row of YtfeemohdpmdaoaaDoorRows.lean that lists a variable, with what it lists TIED to the program's text (the seventh form; the later family's looks); each row that meets fmt, with fmt's text TOLD by the authors' own Lean function (tested against real Go, not proved from fmt's source: count such statements apart). THE CARD IS WHAT COUNTS. Prove the row's statement (the work); the ties are given (YtfeemohdpmdaoaaDoorTie.lean); close each card by the builder's one call (the guide's Derived/Test/ToyasCard.lean, 'card_holds'). Laid BY PROGRAM, IN A SANDBOX (cutbox-door.mjs). By AI agents, Wed Nov 11 2026. No macro, syntax, notation, axiom, sorry.
-/
import Derived.Test.YtfeemohdpmdaoaaDoorRows
import GoSem.ClaimSeven
namespace Go.Proofs.YtfeemohdpmdaoaaDoor
namespace Rows

/-- THE TIED CARD OF 'slotmeshlaw36.ImageMatchesReference'. -/
def imageMatchesReferenceCard : Claim7 := { stood := { row := imageMatchesReferenceRow, standIns := [], harness := (true, "19f0bc3f01a8af7f9bf31a37795c0751a7ffa5b7fa68303434d620793310e7be"), looks := false }, kinds := [], alts := [], laidByText := true, laidKinds := [.data, .pinned], laidTests := true, laidLooks := .later }
def ImageMatchesReferenceCardSaid : Prop := Claim7.holds Tryd.pinned (.plain (OpenSpec.ofChange imageMatchesReferenceSpec)) imageMatchesReferenceCard

/-- THE TIED CARD OF 'slotmeshlaw36.ImageInverse'. -/
def imageInverseCard : Claim7 := { stood := { row := imageInverseRow, standIns := [], harness := (true, "19f0bc3f01a8af7f9bf31a37795c0751a7ffa5b7fa68303434d620793310e7be"), looks := false }, kinds := [], alts := [], laidByText := true, laidKinds := [.data, .pinned], laidTests := true, laidLooks := .later }
def ImageInverseCardSaid : Prop := Claim7.holds Tryd.pinned (.plain (OpenSpec.ofChange imageInverseSpec)) imageInverseCard

/-- THE TIED CARD OF 'slotmeshlaw36.ImageKeeps'. -/
def imageKeepsCard : Claim7 := { stood := { row := imageKeepsRow, standIns := [], harness := (true, "19f0bc3f01a8af7f9bf31a37795c0751a7ffa5b7fa68303434d620793310e7be"), looks := false }, kinds := [], alts := [], laidByText := true, laidKinds := [.data, .pinned], laidTests := true, laidLooks := .later }
def ImageKeepsCardSaid : Prop := Claim7.holds Tryd.pinned (.plain (OpenSpec.ofChange imageKeepsSpec)) imageKeepsCard

/-- THE TIED CARD OF 'slotmeshlaw36.ImageNotices'. -/
def imageNoticesCard : Claim7 := { stood := { row := imageNoticesRow, standIns := [], harness := (true, "19f0bc3f01a8af7f9bf31a37795c0751a7ffa5b7fa68303434d620793310e7be"), looks := false }, kinds := [], alts := [], laidByText := true, laidKinds := [.data, .pinned], laidTests := true, laidLooks := .later }
def ImageNoticesCardSaid : Prop := Claim7.holds Tryd.pinned (.plain (OpenSpec.ofChange imageNoticesSpec)) imageNoticesCard

/-- THE TIED CARD OF 'slotmeshlaw36.ImageSizes'. -/
def imageSizesCard : Claim7 := { stood := { row := imageSizesRow, standIns := [], harness := (true, "19f0bc3f01a8af7f9bf31a37795c0751a7ffa5b7fa68303434d620793310e7be"), looks := false }, kinds := [], alts := [], laidByText := true, laidKinds := [.data, .pinned], laidTests := true, laidLooks := .later }
def ImageSizesCardSaid : Prop := Claim7.holds Tryd.pinned (.plain (OpenSpec.ofChange imageSizesSpec)) imageSizesCard

/-- THE TIED CARD OF 'slotmeshlaw36.ImageLoads'. -/
def imageLoadsCard : Claim7 := { stood := { row := imageLoadsRow, standIns := [], harness := (true, "19f0bc3f01a8af7f9bf31a37795c0751a7ffa5b7fa68303434d620793310e7be"), looks := false }, kinds := [], alts := [], laidByText := true, laidKinds := [.data, .pinned], laidTests := true, laidLooks := .later }
def ImageLoadsCardSaid : Prop := Claim7.holds Tryd.pinned (.plain (OpenSpec.ofChange imageLoadsSpec)) imageLoadsCard

/-- THE TIED CARD OF 'slotmeshlaw36.ImageOnlyRight'. -/
def imageOnlyRightCard : Claim7 := { stood := { row := imageOnlyRightRow, standIns := [], harness := (true, "19f0bc3f01a8af7f9bf31a37795c0751a7ffa5b7fa68303434d620793310e7be"), looks := false }, kinds := [], alts := [], laidByText := true, laidKinds := [.data, .pinned], laidTests := true, laidLooks := .later }
def ImageOnlyRightCardSaid : Prop := Claim7.holds Tryd.pinned (.plain (OpenSpec.ofChange imageOnlyRightSpec)) imageOnlyRightCard

/-- THE SECOND FORM's CARD OF 'slotmeshlaw36.ImageMatchesReference'. -/
def imageMatchesReferenceUptoCard : Claim7 := { stood := { row := imageMatchesReferenceUptoRow, standIns := [], harness := (true, "19f0bc3f01a8af7f9bf31a37795c0751a7ffa5b7fa68303434d620793310e7be"), looks := false }, kinds := [], alts := [], laidByText := true, laidKinds := [.data, .pinned], laidTests := true, laidLooks := .later }
def ImageMatchesReferenceUptoCardSaid : Prop := Claim7.holds Tryd.pinned (.plain (OpenSpec.upto imageMatchesReferenceSpec)) imageMatchesReferenceUptoCard

/-- THE SECOND FORM's CARD OF 'slotmeshlaw36.ImageInverse'. -/
def imageInverseUptoCard : Claim7 := { stood := { row := imageInverseUptoRow, standIns := [], harness := (true, "19f0bc3f01a8af7f9bf31a37795c0751a7ffa5b7fa68303434d620793310e7be"), looks := false }, kinds := [], alts := [], laidByText := true, laidKinds := [.data, .pinned], laidTests := true, laidLooks := .later }
def ImageInverseUptoCardSaid : Prop := Claim7.holds Tryd.pinned (.plain (OpenSpec.upto imageInverseSpec)) imageInverseUptoCard

/-- THE SECOND FORM's CARD OF 'slotmeshlaw36.ImageKeeps'. -/
def imageKeepsUptoCard : Claim7 := { stood := { row := imageKeepsUptoRow, standIns := [], harness := (true, "19f0bc3f01a8af7f9bf31a37795c0751a7ffa5b7fa68303434d620793310e7be"), looks := false }, kinds := [], alts := [], laidByText := true, laidKinds := [.data, .pinned], laidTests := true, laidLooks := .later }
def ImageKeepsUptoCardSaid : Prop := Claim7.holds Tryd.pinned (.plain (OpenSpec.upto imageKeepsSpec)) imageKeepsUptoCard

/-- THE SECOND FORM's CARD OF 'slotmeshlaw36.ImageNotices'. -/
def imageNoticesUptoCard : Claim7 := { stood := { row := imageNoticesUptoRow, standIns := [], harness := (true, "19f0bc3f01a8af7f9bf31a37795c0751a7ffa5b7fa68303434d620793310e7be"), looks := false }, kinds := [], alts := [], laidByText := true, laidKinds := [.data, .pinned], laidTests := true, laidLooks := .later }
def ImageNoticesUptoCardSaid : Prop := Claim7.holds Tryd.pinned (.plain (OpenSpec.upto imageNoticesSpec)) imageNoticesUptoCard

/-- THE SECOND FORM's CARD OF 'slotmeshlaw36.ImageSizes'. -/
def imageSizesUptoCard : Claim7 := { stood := { row := imageSizesUptoRow, standIns := [], harness := (true, "19f0bc3f01a8af7f9bf31a37795c0751a7ffa5b7fa68303434d620793310e7be"), looks := false }, kinds := [], alts := [], laidByText := true, laidKinds := [.data, .pinned], laidTests := true, laidLooks := .later }
def ImageSizesUptoCardSaid : Prop := Claim7.holds Tryd.pinned (.plain (OpenSpec.upto imageSizesSpec)) imageSizesUptoCard

/-- THE SECOND FORM's CARD OF 'slotmeshlaw36.ImageLoads'. -/
def imageLoadsUptoCard : Claim7 := { stood := { row := imageLoadsUptoRow, standIns := [], harness := (true, "19f0bc3f01a8af7f9bf31a37795c0751a7ffa5b7fa68303434d620793310e7be"), looks := false }, kinds := [], alts := [], laidByText := true, laidKinds := [.data, .pinned], laidTests := true, laidLooks := .later }
def ImageLoadsUptoCardSaid : Prop := Claim7.holds Tryd.pinned (.plain (OpenSpec.upto imageLoadsSpec)) imageLoadsUptoCard

/-- THE SECOND FORM's CARD OF 'slotmeshlaw36.ImageOnlyRight'. -/
def imageOnlyRightUptoCard : Claim7 := { stood := { row := imageOnlyRightUptoRow, standIns := [], harness := (true, "19f0bc3f01a8af7f9bf31a37795c0751a7ffa5b7fa68303434d620793310e7be"), looks := false }, kinds := [], alts := [], laidByText := true, laidKinds := [.data, .pinned], laidTests := true, laidLooks := .later }
def ImageOnlyRightUptoCardSaid : Prop := Claim7.holds Tryd.pinned (.plain (OpenSpec.upto imageOnlyRightSpec)) imageOnlyRightUptoCard
end Rows
end Go.Proofs.YtfeemohdpmdaoaaDoor
