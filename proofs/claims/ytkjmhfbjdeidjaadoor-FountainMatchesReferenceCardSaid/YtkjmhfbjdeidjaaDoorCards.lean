/-
  DERIVED. GIVEN WITH THE SEED: THE CARDS: each row of YtkjmhfbjdeidjaaDoorRows.lean that lists a variable, with what it lists TIED to the program's text (the seventh form; the later family's looks); each row that meets fmt, with fmt's text TOLD by the authors' own Lean function (tested against real Go, not proved from fmt's source: count such statements apart). THE CARD IS WHAT COUNTS. Prove the row's statement (the work); the ties are given (YtkjmhfbjdeidjaaDoorTie.lean); close each card by the builder's one call (the guide's Derived/Test/ToyasCard.lean, 'card_holds'). Laid BY PROGRAM, IN A SANDBOX (cutbox-door.mjs). By AI agents, Wed Nov 11 2026. No macro, syntax, notation, axiom, sorry.
-/
import Derived.Test.YtkjmhfbjdeidjaaDoorRows
import GoSem.ClaimSeven
namespace Go.Proofs.YtkjmhfbjdeidjaaDoor
namespace Rows

/-- THE TIED CARD OF 'slotmeshlaw34.FountainMatchesReference'. -/
def fountainMatchesReferenceCard : Claim7 := { stood := { row := fountainMatchesReferenceRow, standIns := [], harness := (true, "4c08a98e2d584ba75f8a222639120e741533921e629390f6b6c4f271179698db"), looks := false }, kinds := [], alts := [], laidByText := true, laidKinds := [.data, .data, .data], laidTests := true, laidLooks := .later }
def FountainMatchesReferenceCardSaid : Prop := Claim7.holds Tryd.pinned (.plain (OpenSpec.ofChange fountainMatchesReferenceSpec)) fountainMatchesReferenceCard

/-- THE TIED CARD OF 'slotmeshlaw34.FountainTruth'. -/
def fountainTruthCard : Claim7 := { stood := { row := fountainTruthRow, standIns := [], harness := (true, "4c08a98e2d584ba75f8a222639120e741533921e629390f6b6c4f271179698db"), looks := false }, kinds := [], alts := [], laidByText := true, laidKinds := [.data, .data, .data], laidTests := true, laidLooks := .later }
def FountainTruthCardSaid : Prop := Claim7.holds Tryd.pinned (.plain (OpenSpec.ofChange fountainTruthSpec)) fountainTruthCard

/-- THE TIED CARD OF 'slotmeshlaw34.FountainEnough'. -/
def fountainEnoughCard : Claim7 := { stood := { row := fountainEnoughRow, standIns := [], harness := (true, "4c08a98e2d584ba75f8a222639120e741533921e629390f6b6c4f271179698db"), looks := false }, kinds := [], alts := [], laidByText := true, laidKinds := [.data, .data, .data], laidTests := true, laidLooks := .later }
def FountainEnoughCardSaid : Prop := Claim7.holds Tryd.pinned (.plain (OpenSpec.ofChange fountainEnoughSpec)) fountainEnoughCard

/-- THE TIED CARD OF 'slotmeshlaw34.FountainOrder'. -/
def fountainOrderCard : Claim7 := { stood := { row := fountainOrderRow, standIns := [], harness := (true, "4c08a98e2d584ba75f8a222639120e741533921e629390f6b6c4f271179698db"), looks := false }, kinds := [], alts := [], laidByText := true, laidKinds := [.data, .data, .data], laidTests := true, laidLooks := .later }
def FountainOrderCardSaid : Prop := Claim7.holds Tryd.pinned (.plain (OpenSpec.ofChange fountainOrderSpec)) fountainOrderCard

/-- THE TIED CARD OF 'slotmeshlaw34.FountainPlain'. -/
def fountainPlainCard : Claim7 := { stood := { row := fountainPlainRow, standIns := [], harness := (true, "4c08a98e2d584ba75f8a222639120e741533921e629390f6b6c4f271179698db"), looks := false }, kinds := [], alts := [], laidByText := true, laidKinds := [.data, .data, .data], laidTests := true, laidLooks := .later }
def FountainPlainCardSaid : Prop := Claim7.holds Tryd.pinned (.plain (OpenSpec.ofChange fountainPlainSpec)) fountainPlainCard

/-- THE TIED CARD OF 'slotmeshlaw34.FountainSums'. -/
def fountainSumsCard : Claim7 := { stood := { row := fountainSumsRow, standIns := [], harness := (true, "4c08a98e2d584ba75f8a222639120e741533921e629390f6b6c4f271179698db"), looks := false }, kinds := [], alts := [], laidByText := true, laidKinds := [.data, .data, .data], laidTests := true, laidLooks := .later }
def FountainSumsCardSaid : Prop := Claim7.holds Tryd.pinned (.plain (OpenSpec.ofChange fountainSumsSpec)) fountainSumsCard

/-- THE TIED CARD OF 'slotmeshlaw34.FountainAnotherPage'. -/
def fountainAnotherPageCard : Claim7 := { stood := { row := fountainAnotherPageRow, standIns := [], harness := (true, "4c08a98e2d584ba75f8a222639120e741533921e629390f6b6c4f271179698db"), looks := false }, kinds := [], alts := [], laidByText := true, laidKinds := [.data, .data, .data], laidTests := true, laidLooks := .later }
def FountainAnotherPageCardSaid : Prop := Claim7.holds Tryd.pinned (.plain (OpenSpec.ofChange fountainAnotherPageSpec)) fountainAnotherPageCard

/-- THE SECOND FORM's CARD OF 'slotmeshlaw34.FountainMatchesReference'. -/
def fountainMatchesReferenceUptoCard : Claim7 := { stood := { row := fountainMatchesReferenceUptoRow, standIns := [], harness := (true, "4c08a98e2d584ba75f8a222639120e741533921e629390f6b6c4f271179698db"), looks := false }, kinds := [], alts := [], laidByText := true, laidKinds := [.data, .data, .data], laidTests := true, laidLooks := .later }
def FountainMatchesReferenceUptoCardSaid : Prop := Claim7.holds Tryd.pinned (.plain (OpenSpec.upto fountainMatchesReferenceSpec)) fountainMatchesReferenceUptoCard

/-- THE SECOND FORM's CARD OF 'slotmeshlaw34.FountainTruth'. -/
def fountainTruthUptoCard : Claim7 := { stood := { row := fountainTruthUptoRow, standIns := [], harness := (true, "4c08a98e2d584ba75f8a222639120e741533921e629390f6b6c4f271179698db"), looks := false }, kinds := [], alts := [], laidByText := true, laidKinds := [.data, .data, .data], laidTests := true, laidLooks := .later }
def FountainTruthUptoCardSaid : Prop := Claim7.holds Tryd.pinned (.plain (OpenSpec.upto fountainTruthSpec)) fountainTruthUptoCard

/-- THE SECOND FORM's CARD OF 'slotmeshlaw34.FountainEnough'. -/
def fountainEnoughUptoCard : Claim7 := { stood := { row := fountainEnoughUptoRow, standIns := [], harness := (true, "4c08a98e2d584ba75f8a222639120e741533921e629390f6b6c4f271179698db"), looks := false }, kinds := [], alts := [], laidByText := true, laidKinds := [.data, .data, .data], laidTests := true, laidLooks := .later }
def FountainEnoughUptoCardSaid : Prop := Claim7.holds Tryd.pinned (.plain (OpenSpec.upto fountainEnoughSpec)) fountainEnoughUptoCard

/-- THE SECOND FORM's CARD OF 'slotmeshlaw34.FountainOrder'. -/
def fountainOrderUptoCard : Claim7 := { stood := { row := fountainOrderUptoRow, standIns := [], harness := (true, "4c08a98e2d584ba75f8a222639120e741533921e629390f6b6c4f271179698db"), looks := false }, kinds := [], alts := [], laidByText := true, laidKinds := [.data, .data, .data], laidTests := true, laidLooks := .later }
def FountainOrderUptoCardSaid : Prop := Claim7.holds Tryd.pinned (.plain (OpenSpec.upto fountainOrderSpec)) fountainOrderUptoCard

/-- THE SECOND FORM's CARD OF 'slotmeshlaw34.FountainPlain'. -/
def fountainPlainUptoCard : Claim7 := { stood := { row := fountainPlainUptoRow, standIns := [], harness := (true, "4c08a98e2d584ba75f8a222639120e741533921e629390f6b6c4f271179698db"), looks := false }, kinds := [], alts := [], laidByText := true, laidKinds := [.data, .data, .data], laidTests := true, laidLooks := .later }
def FountainPlainUptoCardSaid : Prop := Claim7.holds Tryd.pinned (.plain (OpenSpec.upto fountainPlainSpec)) fountainPlainUptoCard

/-- THE SECOND FORM's CARD OF 'slotmeshlaw34.FountainSums'. -/
def fountainSumsUptoCard : Claim7 := { stood := { row := fountainSumsUptoRow, standIns := [], harness := (true, "4c08a98e2d584ba75f8a222639120e741533921e629390f6b6c4f271179698db"), looks := false }, kinds := [], alts := [], laidByText := true, laidKinds := [.data, .data, .data], laidTests := true, laidLooks := .later }
def FountainSumsUptoCardSaid : Prop := Claim7.holds Tryd.pinned (.plain (OpenSpec.upto fountainSumsSpec)) fountainSumsUptoCard

/-- THE SECOND FORM's CARD OF 'slotmeshlaw34.FountainAnotherPage'. -/
def fountainAnotherPageUptoCard : Claim7 := { stood := { row := fountainAnotherPageUptoRow, standIns := [], harness := (true, "4c08a98e2d584ba75f8a222639120e741533921e629390f6b6c4f271179698db"), looks := false }, kinds := [], alts := [], laidByText := true, laidKinds := [.data, .data, .data], laidTests := true, laidLooks := .later }
def FountainAnotherPageUptoCardSaid : Prop := Claim7.holds Tryd.pinned (.plain (OpenSpec.upto fountainAnotherPageSpec)) fountainAnotherPageUptoCard
end Rows
end Go.Proofs.YtkjmhfbjdeidjaaDoor
