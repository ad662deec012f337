/-
  DERIVED. GIVEN WITH THE SEED: THE CARDS: each row of YtnlnbhcjgacgmaaGreatDoorRows.lean that lists a variable, with what it lists TIED to the program's text (the seventh form; the later family's looks); each row that meets fmt, with fmt's text TOLD by the authors' own Lean function (tested against real Go, not proved from fmt's source: count such statements apart). THE CARD IS WHAT COUNTS. Prove the row's statement (the work); the ties are given (YtnlnbhcjgacgmaaGreatDoorTie.lean); close each card by the builder's one call (the guide's Derived/Test/ToyasCard.lean, 'card_holds'). Laid BY PROGRAM, IN A SANDBOX (cutbox-door.mjs). By AI agents, Wed Nov 11 2026. No macro, syntax, notation, axiom, sorry.
-/
import Derived.Test.YtnlnbhcjgacgmaaGreatDoorRows
import GoSem.ClaimSeven
namespace Go.Proofs.YtnlnbhcjgacgmaaGreatDoor
namespace Rows

/-- THE TIED CARD OF 'cruciblelaw22.AsmQuotes'. -/
def asmQuotesCard : Claim7 := { stood := { row := asmQuotesRow, standIns := [], harness := (true, "719bf6bdf1c878d34148e0b36fd5144268baefde113a08f5a632a58cacbdc629"), looks := true }, kinds := [], alts := [], laidByText := true, laidKinds := [.data, .data, .data, .data, .sentinel, .sentinel, .pinned], laidTests := true, laidLooks := .later }
def AsmQuotesCardSaid : Prop := Claim7.holds Tryz.pinned (.plain (OpenSpec.ofChange asmQuotesSpec)) asmQuotesCard

/-- THE TIED CARD OF 'cruciblelaw22.AsmPrints'. -/
def asmPrintsCard : Claim7 := { stood := { row := asmPrintsRow, standIns := [], harness := (true, "719bf6bdf1c878d34148e0b36fd5144268baefde113a08f5a632a58cacbdc629"), looks := true }, kinds := [], alts := [], laidByText := true, laidKinds := [.data, .data, .data, .data, .sentinel, .sentinel, .pinned], laidTests := true, laidLooks := .later }
def AsmPrintsCardSaid : Prop := Claim7.holds Tryz.pinned (.plain (OpenSpec.ofChange asmPrintsSpec)) asmPrintsCard

/-- THE TIED CARD OF 'cruciblelaw22.AsmBack'. -/
def asmBackCard : Claim7 := { stood := { row := asmBackRow, standIns := [], harness := (true, "719bf6bdf1c878d34148e0b36fd5144268baefde113a08f5a632a58cacbdc629"), looks := true }, kinds := [], alts := [], laidByText := true, laidKinds := [.data, .data, .data, .data, .sentinel, .sentinel, .pinned], laidTests := true, laidLooks := .later }
def AsmBackCardSaid : Prop := Claim7.holds Tryz.pinned (.plain (OpenSpec.ofChange asmBackSpec)) asmBackCard

/-- THE TIED CARD OF 'cruciblelaw22.AsmPools'. -/
def asmPoolsCard : Claim7 := { stood := { row := asmPoolsRow, standIns := [], harness := (true, "719bf6bdf1c878d34148e0b36fd5144268baefde113a08f5a632a58cacbdc629"), looks := true }, kinds := [], alts := [], laidByText := true, laidKinds := [.data, .data, .data, .data, .sentinel, .sentinel, .pinned], laidTests := true, laidLooks := .later }
def AsmPoolsCardSaid : Prop := Claim7.holds Tryz.pinned (.plain (OpenSpec.ofChange asmPoolsSpec)) asmPoolsCard

/-- THE TIED CARD OF 'cruciblelaw22.AsmLines'. -/
def asmLinesCard : Claim7 := { stood := { row := asmLinesRow, standIns := [], harness := (true, "719bf6bdf1c878d34148e0b36fd5144268baefde113a08f5a632a58cacbdc629"), looks := true }, kinds := [], alts := [], laidByText := true, laidKinds := [.data, .data, .data, .data, .sentinel, .sentinel, .pinned], laidTests := true, laidLooks := .later }
def AsmLinesCardSaid : Prop := Claim7.holds Tryz.pinned (.plain (OpenSpec.ofChange asmLinesSpec)) asmLinesCard

/-- THE SECOND FORM's CARD OF 'cruciblelaw22.AsmQuotes'. -/
def asmQuotesUptoCard : Claim7 := { stood := { row := asmQuotesUptoRow, standIns := [], harness := (true, "719bf6bdf1c878d34148e0b36fd5144268baefde113a08f5a632a58cacbdc629"), looks := true }, kinds := [], alts := [], laidByText := true, laidKinds := [.data, .data, .data, .data, .sentinel, .sentinel, .pinned], laidTests := true, laidLooks := .later }
def AsmQuotesUptoCardSaid : Prop := Claim7.holds Tryz.pinned (.plain (OpenSpec.upto asmQuotesSpec)) asmQuotesUptoCard

/-- THE SECOND FORM's CARD OF 'cruciblelaw22.AsmPrints'. -/
def asmPrintsUptoCard : Claim7 := { stood := { row := asmPrintsUptoRow, standIns := [], harness := (true, "719bf6bdf1c878d34148e0b36fd5144268baefde113a08f5a632a58cacbdc629"), looks := true }, kinds := [], alts := [], laidByText := true, laidKinds := [.data, .data, .data, .data, .sentinel, .sentinel, .pinned], laidTests := true, laidLooks := .later }
def AsmPrintsUptoCardSaid : Prop := Claim7.holds Tryz.pinned (.plain (OpenSpec.upto asmPrintsSpec)) asmPrintsUptoCard

/-- THE SECOND FORM's CARD OF 'cruciblelaw22.AsmBack'. -/
def asmBackUptoCard : Claim7 := { stood := { row := asmBackUptoRow, standIns := [], harness := (true, "719bf6bdf1c878d34148e0b36fd5144268baefde113a08f5a632a58cacbdc629"), looks := true }, kinds := [], alts := [], laidByText := true, laidKinds := [.data, .data, .data, .data, .sentinel, .sentinel, .pinned], laidTests := true, laidLooks := .later }
def AsmBackUptoCardSaid : Prop := Claim7.holds Tryz.pinned (.plain (OpenSpec.upto asmBackSpec)) asmBackUptoCard

/-- THE SECOND FORM's CARD OF 'cruciblelaw22.AsmPools'. -/
def asmPoolsUptoCard : Claim7 := { stood := { row := asmPoolsUptoRow, standIns := [], harness := (true, "719bf6bdf1c878d34148e0b36fd5144268baefde113a08f5a632a58cacbdc629"), looks := true }, kinds := [], alts := [], laidByText := true, laidKinds := [.data, .data, .data, .data, .sentinel, .sentinel, .pinned], laidTests := true, laidLooks := .later }
def AsmPoolsUptoCardSaid : Prop := Claim7.holds Tryz.pinned (.plain (OpenSpec.upto asmPoolsSpec)) asmPoolsUptoCard

/-- THE SECOND FORM's CARD OF 'cruciblelaw22.AsmLines'. -/
def asmLinesUptoCard : Claim7 := { stood := { row := asmLinesUptoRow, standIns := [], harness := (true, "719bf6bdf1c878d34148e0b36fd5144268baefde113a08f5a632a58cacbdc629"), looks := true }, kinds := [], alts := [], laidByText := true, laidKinds := [.data, .data, .data, .data, .sentinel, .sentinel, .pinned], laidTests := true, laidLooks := .later }
def AsmLinesUptoCardSaid : Prop := Claim7.holds Tryz.pinned (.plain (OpenSpec.upto asmLinesSpec)) asmLinesUptoCard
end Rows
end Go.Proofs.YtnlnbhcjgacgmaaGreatDoor
