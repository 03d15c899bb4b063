/-
  DERIVED. GIVEN WITH THE SEED: THE CARDS: each row of YtlnenbbmhidjeaaDoorRows.lean that lists a variable, with what it lists TIED to the program's text (the seventh form; the later family's looks); each row that meets fmt, with fmt's text TOLD by the authors' own Lean function (tested against real Go, not proved from fmt's source: count such statements apart). THE CARD IS WHAT COUNTS. Prove the row's statement (the work); the ties are given (YtlnenbbmhidjeaaDoorTie.lean); close each card by the builder's one call (the guide's Derived/Test/ToyasCard.lean, 'card_holds'). Laid BY PROGRAM, IN A SANDBOX (cutbox-door.mjs). By AI agents, Wed Nov 11 2026. No macro, syntax, notation, axiom, sorry.
-/
import Derived.Test.YtlnenbbmhidjeaaDoorRows
import GoSem.ClaimSeven
namespace Go.Proofs.YtlnenbbmhidjeaaDoor
namespace Rows

/-- THE TIED CARD OF 'slotmeshlaw31.SponsorMatchesReference'. -/
def sponsorMatchesReferenceCard : Claim7 := { stood := { row := sponsorMatchesReferenceRow, standIns := [], harness := (true, "5190da6f3e239edbd78dfb3b30f4029b45bcdb526186586a5e77c89b14be7507"), looks := false }, kinds := [], alts := [], laidByText := true, laidKinds := [.data], laidTests := true, laidLooks := .later }
def SponsorMatchesReferenceCardSaid : Prop := Claim7.holds Tryd.pinned (.plain (OpenSpec.ofChange sponsorMatchesReferenceSpec)) sponsorMatchesReferenceCard

/-- THE TIED CARD OF 'slotmeshlaw31.SponsorBounded'. -/
def sponsorBoundedCard : Claim7 := { stood := { row := sponsorBoundedRow, standIns := [], harness := (true, "5190da6f3e239edbd78dfb3b30f4029b45bcdb526186586a5e77c89b14be7507"), looks := false }, kinds := [], alts := [], laidByText := true, laidKinds := [.data], laidTests := true, laidLooks := .later }
def SponsorBoundedCardSaid : Prop := Claim7.holds Tryd.pinned (.plain (OpenSpec.ofChange sponsorBoundedSpec)) sponsorBoundedCard

/-- THE TIED CARD OF 'slotmeshlaw31.SponsorProofs'. -/
def sponsorProofsCard : Claim7 := { stood := { row := sponsorProofsRow, standIns := [], harness := (true, "5190da6f3e239edbd78dfb3b30f4029b45bcdb526186586a5e77c89b14be7507"), looks := false }, kinds := [], alts := [], laidByText := true, laidKinds := [.data], laidTests := true, laidLooks := .later }
def SponsorProofsCardSaid : Prop := Claim7.holds Tryd.pinned (.plain (OpenSpec.ofChange sponsorProofsSpec)) sponsorProofsCard

/-- THE TIED CARD OF 'slotmeshlaw31.SponsorOthers'. -/
def sponsorOthersCard : Claim7 := { stood := { row := sponsorOthersRow, standIns := [], harness := (true, "5190da6f3e239edbd78dfb3b30f4029b45bcdb526186586a5e77c89b14be7507"), looks := false }, kinds := [], alts := [], laidByText := true, laidKinds := [.data], laidTests := true, laidLooks := .later }
def SponsorOthersCardSaid : Prop := Claim7.holds Tryd.pinned (.plain (OpenSpec.ofChange sponsorOthersSpec)) sponsorOthersCard

/-- THE TIED CARD OF 'slotmeshlaw31.SponsorReplays'. -/
def sponsorReplaysCard : Claim7 := { stood := { row := sponsorReplaysRow, standIns := [], harness := (true, "5190da6f3e239edbd78dfb3b30f4029b45bcdb526186586a5e77c89b14be7507"), looks := false }, kinds := [], alts := [], laidByText := true, laidKinds := [.data], laidTests := true, laidLooks := .later }
def SponsorReplaysCardSaid : Prop := Claim7.holds Tryd.pinned (.plain (OpenSpec.ofChange sponsorReplaysSpec)) sponsorReplaysCard

/-- THE TIED CARD OF 'slotmeshlaw31.SponsorTold'. -/
def sponsorToldCard : Claim7 := { stood := { row := sponsorToldRow, standIns := [], harness := (true, "5190da6f3e239edbd78dfb3b30f4029b45bcdb526186586a5e77c89b14be7507"), looks := false }, kinds := [], alts := [], laidByText := true, laidKinds := [.data], laidTests := true, laidLooks := .later }
def SponsorToldCardSaid : Prop := Claim7.holds Tryd.pinned (.plain (OpenSpec.ofChange sponsorToldSpec)) sponsorToldCard

/-- THE TIED CARD OF 'slotmeshlaw31.SponsorDialogue'. -/
def sponsorDialogueCard : Claim7 := { stood := { row := sponsorDialogueRow, standIns := [], harness := (true, "5190da6f3e239edbd78dfb3b30f4029b45bcdb526186586a5e77c89b14be7507"), looks := false }, kinds := [], alts := [], laidByText := true, laidKinds := [.data], laidTests := true, laidLooks := .later }
def SponsorDialogueCardSaid : Prop := Claim7.holds Tryd.pinned (.plain (OpenSpec.ofChange sponsorDialogueSpec)) sponsorDialogueCard

/-- THE SECOND FORM's CARD OF 'slotmeshlaw31.SponsorMatchesReference'. -/
def sponsorMatchesReferenceUptoCard : Claim7 := { stood := { row := sponsorMatchesReferenceUptoRow, standIns := [], harness := (true, "5190da6f3e239edbd78dfb3b30f4029b45bcdb526186586a5e77c89b14be7507"), looks := false }, kinds := [], alts := [], laidByText := true, laidKinds := [.data], laidTests := true, laidLooks := .later }
def SponsorMatchesReferenceUptoCardSaid : Prop := Claim7.holds Tryd.pinned (.plain (OpenSpec.upto sponsorMatchesReferenceSpec)) sponsorMatchesReferenceUptoCard

/-- THE SECOND FORM's CARD OF 'slotmeshlaw31.SponsorBounded'. -/
def sponsorBoundedUptoCard : Claim7 := { stood := { row := sponsorBoundedUptoRow, standIns := [], harness := (true, "5190da6f3e239edbd78dfb3b30f4029b45bcdb526186586a5e77c89b14be7507"), looks := false }, kinds := [], alts := [], laidByText := true, laidKinds := [.data], laidTests := true, laidLooks := .later }
def SponsorBoundedUptoCardSaid : Prop := Claim7.holds Tryd.pinned (.plain (OpenSpec.upto sponsorBoundedSpec)) sponsorBoundedUptoCard

/-- THE SECOND FORM's CARD OF 'slotmeshlaw31.SponsorProofs'. -/
def sponsorProofsUptoCard : Claim7 := { stood := { row := sponsorProofsUptoRow, standIns := [], harness := (true, "5190da6f3e239edbd78dfb3b30f4029b45bcdb526186586a5e77c89b14be7507"), looks := false }, kinds := [], alts := [], laidByText := true, laidKinds := [.data], laidTests := true, laidLooks := .later }
def SponsorProofsUptoCardSaid : Prop := Claim7.holds Tryd.pinned (.plain (OpenSpec.upto sponsorProofsSpec)) sponsorProofsUptoCard

/-- THE SECOND FORM's CARD OF 'slotmeshlaw31.SponsorOthers'. -/
def sponsorOthersUptoCard : Claim7 := { stood := { row := sponsorOthersUptoRow, standIns := [], harness := (true, "5190da6f3e239edbd78dfb3b30f4029b45bcdb526186586a5e77c89b14be7507"), looks := false }, kinds := [], alts := [], laidByText := true, laidKinds := [.data], laidTests := true, laidLooks := .later }
def SponsorOthersUptoCardSaid : Prop := Claim7.holds Tryd.pinned (.plain (OpenSpec.upto sponsorOthersSpec)) sponsorOthersUptoCard

/-- THE SECOND FORM's CARD OF 'slotmeshlaw31.SponsorReplays'. -/
def sponsorReplaysUptoCard : Claim7 := { stood := { row := sponsorReplaysUptoRow, standIns := [], harness := (true, "5190da6f3e239edbd78dfb3b30f4029b45bcdb526186586a5e77c89b14be7507"), looks := false }, kinds := [], alts := [], laidByText := true, laidKinds := [.data], laidTests := true, laidLooks := .later }
def SponsorReplaysUptoCardSaid : Prop := Claim7.holds Tryd.pinned (.plain (OpenSpec.upto sponsorReplaysSpec)) sponsorReplaysUptoCard

/-- THE SECOND FORM's CARD OF 'slotmeshlaw31.SponsorTold'. -/
def sponsorToldUptoCard : Claim7 := { stood := { row := sponsorToldUptoRow, standIns := [], harness := (true, "5190da6f3e239edbd78dfb3b30f4029b45bcdb526186586a5e77c89b14be7507"), looks := false }, kinds := [], alts := [], laidByText := true, laidKinds := [.data], laidTests := true, laidLooks := .later }
def SponsorToldUptoCardSaid : Prop := Claim7.holds Tryd.pinned (.plain (OpenSpec.upto sponsorToldSpec)) sponsorToldUptoCard

/-- THE SECOND FORM's CARD OF 'slotmeshlaw31.SponsorDialogue'. -/
def sponsorDialogueUptoCard : Claim7 := { stood := { row := sponsorDialogueUptoRow, standIns := [], harness := (true, "5190da6f3e239edbd78dfb3b30f4029b45bcdb526186586a5e77c89b14be7507"), looks := false }, kinds := [], alts := [], laidByText := true, laidKinds := [.data], laidTests := true, laidLooks := .later }
def SponsorDialogueUptoCardSaid : Prop := Claim7.holds Tryd.pinned (.plain (OpenSpec.upto sponsorDialogueSpec)) sponsorDialogueUptoCard
end Rows
end Go.Proofs.YtlnenbbmhidjeaaDoor
