/-
  DERIVED. GIVEN WITH THE SEED: THE CARDS: each row of YtkjhgfjlknbdkaaDoorRows.lean that lists a variable, with what it lists TIED to the program's text (the seventh form; the later family's looks); each row that meets fmt, with fmt's text TOLD by the authors' own Lean function (tested against real Go, not proved from fmt's source: count such statements apart). THE CARD IS WHAT COUNTS. Prove the row's statement (the work); the ties are given (YtkjhgfjlknbdkaaDoorTie.lean); close each card by the builder's one call (the guide's Derived/Test/ToyasCard.lean, 'card_holds'). Laid BY PROGRAM, IN A SANDBOX (cutbox-door.mjs). By AI agents, Wed Nov 11 2026. No macro, syntax, notation, axiom, sorry.
-/
import Derived.Test.YtkjhgfjlknbdkaaDoorRows
import GoSem.ClaimSeven
namespace Go.Proofs.YtkjhgfjlknbdkaaDoor
namespace Rows

/-- THE TIED CARD OF 'parcloselaw04.PolicyUp'. -/
def policyUpCard : Claim7 := { stood := { row := policyUpRow, standIns := [], harness := (true, "688b142a8239ca0ca58923aee1438b703fe82b5a6d81585fbd8f78046fd0e312"), looks := false }, kinds := [], alts := [], laidByText := true, laidKinds := [.data, .data, .data], laidTests := true, laidLooks := .later }
def PolicyUpCardSaid : Prop := Claim7.holds Tryd.pinned (.plain (OpenSpec.ofChange policyUpSpec)) policyUpCard

/-- THE TIED CARD OF 'parcloselaw04.PolicyChecks'. -/
def policyChecksCard : Claim7 := { stood := { row := policyChecksRow, standIns := [], harness := (true, "688b142a8239ca0ca58923aee1438b703fe82b5a6d81585fbd8f78046fd0e312"), looks := false }, kinds := [], alts := [], laidByText := true, laidKinds := [.data, .data, .data], laidTests := true, laidLooks := .later }
def PolicyChecksCardSaid : Prop := Claim7.holds Tryd.pinned (.plain (OpenSpec.ofChange policyChecksSpec)) policyChecksCard

/-- THE TIED CARD OF 'parcloselaw04.PolicyParses'. -/
def policyParsesCard : Claim7 := { stood := { row := policyParsesRow, standIns := [], harness := (true, "688b142a8239ca0ca58923aee1438b703fe82b5a6d81585fbd8f78046fd0e312"), looks := false }, kinds := [], alts := [], laidByText := true, laidKinds := [.data, .data, .data], laidTests := true, laidLooks := .later }
def PolicyParsesCardSaid : Prop := Claim7.holds Tryd.pinned (.plain (OpenSpec.ofChange policyParsesSpec)) policyParsesCard

/-- THE TIED CARD OF 'parcloselaw04.PolicyPrints'. -/
def policyPrintsCard : Claim7 := { stood := { row := policyPrintsRow, standIns := [], harness := (true, "688b142a8239ca0ca58923aee1438b703fe82b5a6d81585fbd8f78046fd0e312"), looks := false }, kinds := [], alts := [], laidByText := true, laidKinds := [.data, .data, .data], laidTests := true, laidLooks := .later }
def PolicyPrintsCardSaid : Prop := Claim7.holds Tryd.pinned (.plain (OpenSpec.ofChange policyPrintsSpec)) policyPrintsCard

/-- THE TIED CARD OF 'parcloselaw04.PolicyBack'. -/
def policyBackCard : Claim7 := { stood := { row := policyBackRow, standIns := [], harness := (true, "688b142a8239ca0ca58923aee1438b703fe82b5a6d81585fbd8f78046fd0e312"), looks := false }, kinds := [], alts := [], laidByText := true, laidKinds := [.data, .data, .data], laidTests := true, laidLooks := .later }
def PolicyBackCardSaid : Prop := Claim7.holds Tryd.pinned (.plain (OpenSpec.ofChange policyBackSpec)) policyBackCard

/-- THE TIED CARD OF 'parcloselaw04.PolicyLines'. -/
def policyLinesCard : Claim7 := { stood := { row := policyLinesRow, standIns := [], harness := (true, "688b142a8239ca0ca58923aee1438b703fe82b5a6d81585fbd8f78046fd0e312"), looks := false }, kinds := [], alts := [], laidByText := true, laidKinds := [.data, .data, .data], laidTests := true, laidLooks := .later }
def PolicyLinesCardSaid : Prop := Claim7.holds Tryd.pinned (.plain (OpenSpec.ofChange policyLinesSpec)) policyLinesCard

/-- THE SECOND FORM's CARD OF 'parcloselaw04.PolicyUp'. -/
def policyUpUptoCard : Claim7 := { stood := { row := policyUpUptoRow, standIns := [], harness := (true, "688b142a8239ca0ca58923aee1438b703fe82b5a6d81585fbd8f78046fd0e312"), looks := false }, kinds := [], alts := [], laidByText := true, laidKinds := [.data, .data, .data], laidTests := true, laidLooks := .later }
def PolicyUpUptoCardSaid : Prop := Claim7.holds Tryd.pinned (.plain (OpenSpec.upto policyUpSpec)) policyUpUptoCard

/-- THE SECOND FORM's CARD OF 'parcloselaw04.PolicyChecks'. -/
def policyChecksUptoCard : Claim7 := { stood := { row := policyChecksUptoRow, standIns := [], harness := (true, "688b142a8239ca0ca58923aee1438b703fe82b5a6d81585fbd8f78046fd0e312"), looks := false }, kinds := [], alts := [], laidByText := true, laidKinds := [.data, .data, .data], laidTests := true, laidLooks := .later }
def PolicyChecksUptoCardSaid : Prop := Claim7.holds Tryd.pinned (.plain (OpenSpec.upto policyChecksSpec)) policyChecksUptoCard

/-- THE SECOND FORM's CARD OF 'parcloselaw04.PolicyParses'. -/
def policyParsesUptoCard : Claim7 := { stood := { row := policyParsesUptoRow, standIns := [], harness := (true, "688b142a8239ca0ca58923aee1438b703fe82b5a6d81585fbd8f78046fd0e312"), looks := false }, kinds := [], alts := [], laidByText := true, laidKinds := [.data, .data, .data], laidTests := true, laidLooks := .later }
def PolicyParsesUptoCardSaid : Prop := Claim7.holds Tryd.pinned (.plain (OpenSpec.upto policyParsesSpec)) policyParsesUptoCard

/-- THE SECOND FORM's CARD OF 'parcloselaw04.PolicyPrints'. -/
def policyPrintsUptoCard : Claim7 := { stood := { row := policyPrintsUptoRow, standIns := [], harness := (true, "688b142a8239ca0ca58923aee1438b703fe82b5a6d81585fbd8f78046fd0e312"), looks := false }, kinds := [], alts := [], laidByText := true, laidKinds := [.data, .data, .data], laidTests := true, laidLooks := .later }
def PolicyPrintsUptoCardSaid : Prop := Claim7.holds Tryd.pinned (.plain (OpenSpec.upto policyPrintsSpec)) policyPrintsUptoCard

/-- THE SECOND FORM's CARD OF 'parcloselaw04.PolicyBack'. -/
def policyBackUptoCard : Claim7 := { stood := { row := policyBackUptoRow, standIns := [], harness := (true, "688b142a8239ca0ca58923aee1438b703fe82b5a6d81585fbd8f78046fd0e312"), looks := false }, kinds := [], alts := [], laidByText := true, laidKinds := [.data, .data, .data], laidTests := true, laidLooks := .later }
def PolicyBackUptoCardSaid : Prop := Claim7.holds Tryd.pinned (.plain (OpenSpec.upto policyBackSpec)) policyBackUptoCard

/-- THE SECOND FORM's CARD OF 'parcloselaw04.PolicyLines'. -/
def policyLinesUptoCard : Claim7 := { stood := { row := policyLinesUptoRow, standIns := [], harness := (true, "688b142a8239ca0ca58923aee1438b703fe82b5a6d81585fbd8f78046fd0e312"), looks := false }, kinds := [], alts := [], laidByText := true, laidKinds := [.data, .data, .data], laidTests := true, laidLooks := .later }
def PolicyLinesUptoCardSaid : Prop := Claim7.holds Tryd.pinned (.plain (OpenSpec.upto policyLinesSpec)) policyLinesUptoCard
end Rows
end Go.Proofs.YtkjhgfjlknbdkaaDoor
