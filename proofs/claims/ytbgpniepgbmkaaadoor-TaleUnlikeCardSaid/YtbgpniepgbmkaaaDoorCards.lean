/-
  DERIVED. GIVEN WITH THE SEED: THE CARDS: each row of YtbgpniepgbmkaaaDoorRows.lean that lists a variable, with what it lists TIED to the program's text (the seventh form; the later family's looks); each row that meets fmt, with fmt's text TOLD by the authors' own Lean function (tested against real Go, not proved from fmt's source: count such statements apart). THE CARD IS WHAT COUNTS. Prove the row's statement (the work); the ties are given (YtbgpniepgbmkaaaDoorTie.lean); close each card by the builder's one call (the guide's Derived/Test/ToyasCard.lean, 'card_holds'). Laid BY PROGRAM, IN A SANDBOX (cutbox-door.mjs). By AI agents, Wed Nov 11 2026. No macro, syntax, notation, axiom, sorry.
-/
import Derived.Test.YtbgpniepgbmkaaaDoorRows
import GoSem.ClaimSeven
namespace Go.Proofs.YtbgpniepgbmkaaaDoor
namespace Rows

/-- THE TIED CARD OF 'parcloselaw28.TaleLines'. -/
def taleLinesCard : Claim7 := { stood := { row := taleLinesRow, standIns := [], harness := (true, "2087399e18d664290bc21ae9a21655db243d6785c27459343fc8c6f5bacb03c4"), looks := true }, kinds := [], alts := [], laidByText := true, laidKinds := [.data, .data, .data, .sentinel, .sentinel], laidTests := true, laidLooks := .later }
def TaleLinesCardSaid : Prop := Claim7.holds Tryd.pinned (.plain (OpenSpec.ofChange taleLinesSpec)) taleLinesCard

/-- THE TIED CARD OF 'parcloselaw28.TaleReads'. -/
def taleReadsCard : Claim7 := { stood := { row := taleReadsRow, standIns := [], harness := (true, "2087399e18d664290bc21ae9a21655db243d6785c27459343fc8c6f5bacb03c4"), looks := true }, kinds := [], alts := [], laidByText := true, laidKinds := [.data, .data, .data, .sentinel, .sentinel], laidTests := true, laidLooks := .later }
def TaleReadsCardSaid : Prop := Claim7.holds Tryd.pinned (.plain (OpenSpec.ofChange taleReadsSpec)) taleReadsCard

/-- THE TIED CARD OF 'parcloselaw28.TaleMany'. -/
def taleManyCard : Claim7 := { stood := { row := taleManyRow, standIns := [], harness := (true, "2087399e18d664290bc21ae9a21655db243d6785c27459343fc8c6f5bacb03c4"), looks := true }, kinds := [], alts := [], laidByText := true, laidKinds := [.data, .data, .data, .sentinel, .sentinel], laidTests := true, laidLooks := .later }
def TaleManyCardSaid : Prop := Claim7.holds Tryd.pinned (.plain (OpenSpec.ofChange taleManySpec)) taleManyCard

/-- THE TIED CARD OF 'parcloselaw28.TaleUnlike'. -/
def taleUnlikeCard : Claim7 := { stood := { row := taleUnlikeRow, standIns := [], harness := (true, "2087399e18d664290bc21ae9a21655db243d6785c27459343fc8c6f5bacb03c4"), looks := true }, kinds := [], alts := [], laidByText := true, laidKinds := [.data, .data, .data, .sentinel, .sentinel], laidTests := true, laidLooks := .later }
def TaleUnlikeCardSaid : Prop := Claim7.holds Tryd.pinned (.plain (OpenSpec.ofChange taleUnlikeSpec)) taleUnlikeCard

/-- THE SECOND FORM's CARD OF 'parcloselaw28.TaleLines'. -/
def taleLinesUptoCard : Claim7 := { stood := { row := taleLinesUptoRow, standIns := [], harness := (true, "2087399e18d664290bc21ae9a21655db243d6785c27459343fc8c6f5bacb03c4"), looks := true }, kinds := [], alts := [], laidByText := true, laidKinds := [.data, .data, .data, .sentinel, .sentinel], laidTests := true, laidLooks := .later }
def TaleLinesUptoCardSaid : Prop := Claim7.holds Tryd.pinned (.plain (OpenSpec.upto taleLinesSpec)) taleLinesUptoCard

/-- THE SECOND FORM's CARD OF 'parcloselaw28.TaleReads'. -/
def taleReadsUptoCard : Claim7 := { stood := { row := taleReadsUptoRow, standIns := [], harness := (true, "2087399e18d664290bc21ae9a21655db243d6785c27459343fc8c6f5bacb03c4"), looks := true }, kinds := [], alts := [], laidByText := true, laidKinds := [.data, .data, .data, .sentinel, .sentinel], laidTests := true, laidLooks := .later }
def TaleReadsUptoCardSaid : Prop := Claim7.holds Tryd.pinned (.plain (OpenSpec.upto taleReadsSpec)) taleReadsUptoCard

/-- THE SECOND FORM's CARD OF 'parcloselaw28.TaleMany'. -/
def taleManyUptoCard : Claim7 := { stood := { row := taleManyUptoRow, standIns := [], harness := (true, "2087399e18d664290bc21ae9a21655db243d6785c27459343fc8c6f5bacb03c4"), looks := true }, kinds := [], alts := [], laidByText := true, laidKinds := [.data, .data, .data, .sentinel, .sentinel], laidTests := true, laidLooks := .later }
def TaleManyUptoCardSaid : Prop := Claim7.holds Tryd.pinned (.plain (OpenSpec.upto taleManySpec)) taleManyUptoCard

/-- THE SECOND FORM's CARD OF 'parcloselaw28.TaleUnlike'. -/
def taleUnlikeUptoCard : Claim7 := { stood := { row := taleUnlikeUptoRow, standIns := [], harness := (true, "2087399e18d664290bc21ae9a21655db243d6785c27459343fc8c6f5bacb03c4"), looks := true }, kinds := [], alts := [], laidByText := true, laidKinds := [.data, .data, .data, .sentinel, .sentinel], laidTests := true, laidLooks := .later }
def TaleUnlikeUptoCardSaid : Prop := Claim7.holds Tryd.pinned (.plain (OpenSpec.upto taleUnlikeSpec)) taleUnlikeUptoCard
end Rows
end Go.Proofs.YtbgpniepgbmkaaaDoor
