/-
  DERIVED. GIVEN WITH THE SEED: THE CARDS: each row of YthclcchnodjjpaaGreatDoorRows.lean that lists a variable, with what it lists TIED to the program's text (the seventh form; the later family's looks); each row that meets fmt, with fmt's text TOLD by the authors' own Lean function (tested against real Go, not proved from fmt's source: count such statements apart). THE CARD IS WHAT COUNTS. Prove the row's statement (the work); the ties are given (YthclcchnodjjpaaGreatDoorTie.lean); close each card by the builder's one call (the guide's Derived/Test/ToyasCard.lean, 'card_holds'). Laid BY PROGRAM, IN A SANDBOX (cutbox-door.mjs). By AI agents, Wed Nov 11 2026. No macro, syntax, notation, axiom, sorry.
-/
import Derived.Test.YthclcchnodjjpaaGreatDoorRows
import GoSem.ClaimSeven
namespace Go.Proofs.YthclcchnodjjpaaGreatDoor
namespace Rows

/-- THE TIED CARD OF 'proofprogramslaw33.MajorantTyped'. -/
def majorantTypedCard : Claim7 := { stood := { row := majorantTypedRow, standIns := [], harness := (true, "81a7f2fdbd628256296e742185b571249816ba8a18d5915a86c0bb5517d7ee74"), looks := false }, kinds := [], alts := [], laidByText := true, laidKinds := [.data], laidTests := true, laidLooks := .later }
def MajorantTypedCardSaid : Prop := Claim7.holds Tryz.pinned (.plain (OpenSpec.ofChange majorantTypedSpec)) majorantTypedCard

/-- THE TIED CARD OF 'proofprogramslaw33.MajorantBounds'. -/
def majorantBoundsCard : Claim7 := { stood := { row := majorantBoundsRow, standIns := [], harness := (true, "81a7f2fdbd628256296e742185b571249816ba8a18d5915a86c0bb5517d7ee74"), looks := false }, kinds := [], alts := [], laidByText := true, laidKinds := [.data], laidTests := true, laidLooks := .later }
def MajorantBoundsCardSaid : Prop := Claim7.holds Tryz.pinned (.plain (OpenSpec.ofChange majorantBoundsSpec)) majorantBoundsCard

/-- THE TIED CARD OF 'proofprogramslaw33.MajorantGrows'. -/
def majorantGrowsCard : Claim7 := { stood := { row := majorantGrowsRow, standIns := [], harness := (true, "81a7f2fdbd628256296e742185b571249816ba8a18d5915a86c0bb5517d7ee74"), looks := false }, kinds := [], alts := [], laidByText := true, laidKinds := [.data], laidTests := true, laidLooks := .later }
def MajorantGrowsCardSaid : Prop := Claim7.holds Tryz.pinned (.plain (OpenSpec.ofChange majorantGrowsSpec)) majorantGrowsCard

/-- THE TIED CARD OF 'proofprogramslaw33.MajorantPut'. -/
def majorantPutCard : Claim7 := { stood := { row := majorantPutRow, standIns := [], harness := (true, "81a7f2fdbd628256296e742185b571249816ba8a18d5915a86c0bb5517d7ee74"), looks := false }, kinds := [], alts := [], laidByText := true, laidKinds := [.data], laidTests := true, laidLooks := .later }
def MajorantPutCardSaid : Prop := Claim7.holds Tryz.pinned (.plain (OpenSpec.ofChange majorantPutSpec)) majorantPutCard

/-- THE TIED CARD OF 'proofprogramslaw33.MajorantGreatest'. -/
def majorantGreatestCard : Claim7 := { stood := { row := majorantGreatestRow, standIns := [], harness := (true, "81a7f2fdbd628256296e742185b571249816ba8a18d5915a86c0bb5517d7ee74"), looks := false }, kinds := [], alts := [], laidByText := true, laidKinds := [.data], laidTests := true, laidLooks := .later }
def MajorantGreatestCardSaid : Prop := Claim7.holds Tryz.pinned (.plain (OpenSpec.ofChange majorantGreatestSpec)) majorantGreatestCard

/-- THE SECOND FORM's CARD OF 'proofprogramslaw33.MajorantTyped'. -/
def majorantTypedUptoCard : Claim7 := { stood := { row := majorantTypedUptoRow, standIns := [], harness := (true, "81a7f2fdbd628256296e742185b571249816ba8a18d5915a86c0bb5517d7ee74"), looks := false }, kinds := [], alts := [], laidByText := true, laidKinds := [.data], laidTests := true, laidLooks := .later }
def MajorantTypedUptoCardSaid : Prop := Claim7.holds Tryz.pinned (.plain (OpenSpec.upto majorantTypedSpec)) majorantTypedUptoCard

/-- THE SECOND FORM's CARD OF 'proofprogramslaw33.MajorantBounds'. -/
def majorantBoundsUptoCard : Claim7 := { stood := { row := majorantBoundsUptoRow, standIns := [], harness := (true, "81a7f2fdbd628256296e742185b571249816ba8a18d5915a86c0bb5517d7ee74"), looks := false }, kinds := [], alts := [], laidByText := true, laidKinds := [.data], laidTests := true, laidLooks := .later }
def MajorantBoundsUptoCardSaid : Prop := Claim7.holds Tryz.pinned (.plain (OpenSpec.upto majorantBoundsSpec)) majorantBoundsUptoCard

/-- THE SECOND FORM's CARD OF 'proofprogramslaw33.MajorantGrows'. -/
def majorantGrowsUptoCard : Claim7 := { stood := { row := majorantGrowsUptoRow, standIns := [], harness := (true, "81a7f2fdbd628256296e742185b571249816ba8a18d5915a86c0bb5517d7ee74"), looks := false }, kinds := [], alts := [], laidByText := true, laidKinds := [.data], laidTests := true, laidLooks := .later }
def MajorantGrowsUptoCardSaid : Prop := Claim7.holds Tryz.pinned (.plain (OpenSpec.upto majorantGrowsSpec)) majorantGrowsUptoCard

/-- THE SECOND FORM's CARD OF 'proofprogramslaw33.MajorantPut'. -/
def majorantPutUptoCard : Claim7 := { stood := { row := majorantPutUptoRow, standIns := [], harness := (true, "81a7f2fdbd628256296e742185b571249816ba8a18d5915a86c0bb5517d7ee74"), looks := false }, kinds := [], alts := [], laidByText := true, laidKinds := [.data], laidTests := true, laidLooks := .later }
def MajorantPutUptoCardSaid : Prop := Claim7.holds Tryz.pinned (.plain (OpenSpec.upto majorantPutSpec)) majorantPutUptoCard

/-- THE SECOND FORM's CARD OF 'proofprogramslaw33.MajorantGreatest'. -/
def majorantGreatestUptoCard : Claim7 := { stood := { row := majorantGreatestUptoRow, standIns := [], harness := (true, "81a7f2fdbd628256296e742185b571249816ba8a18d5915a86c0bb5517d7ee74"), looks := false }, kinds := [], alts := [], laidByText := true, laidKinds := [.data], laidTests := true, laidLooks := .later }
def MajorantGreatestUptoCardSaid : Prop := Claim7.holds Tryz.pinned (.plain (OpenSpec.upto majorantGreatestSpec)) majorantGreatestUptoCard
end Rows
end Go.Proofs.YthclcchnodjjpaaGreatDoor
