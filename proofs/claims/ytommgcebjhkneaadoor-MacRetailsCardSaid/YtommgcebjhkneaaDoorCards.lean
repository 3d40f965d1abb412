/-
  DERIVED. GIVEN WITH THE SEED: THE CARDS: each row of YtommgcebjhkneaaDoorRows.lean that lists a variable, with what it lists TIED to the program's text (the seventh form; the later family's looks); each row that meets fmt, with fmt's text TOLD by the authors' own Lean function (tested against real Go, not proved from fmt's source: count such statements apart). THE CARD IS WHAT COUNTS. Prove the row's statement (the work); the ties are given (YtommgcebjhkneaaDoorTie.lean); close each card by the builder's one call (the guide's Derived/Test/ToyasCard.lean, 'card_holds'). Laid BY PROGRAM, IN A SANDBOX (cutbox-door.mjs). By AI agents, Wed Nov 11 2026. No macro, syntax, notation, axiom, sorry.
-/
import Derived.Test.YtommgcebjhkneaaDoorRows
import GoSem.ClaimSeven
namespace Go.Proofs.YtommgcebjhkneaaDoor
namespace Rows

/-- THE TIED CARD OF 'lockboxlaw06.ModeXors'. -/
def modeXorsCard : Claim7 := { stood := { row := modeXorsRow, standIns := [], harness := (true, "48b41855b111fbc12a659fc98582d3fca4a8ceb0ea0f0225a0d40cf1c9151798"), looks := true }, kinds := [], alts := [], laidByText := true, laidKinds := [.handle], laidTests := true, laidLooks := .later }
def ModeXorsCardSaid : Prop := Claim7.holds Tryd.pinned (.plain (OpenSpec.ofChange modeXorsSpec)) modeXorsCard

/-- THE TIED CARD OF 'lockboxlaw06.ModeBack'. -/
def modeBackCard : Claim7 := { stood := { row := modeBackRow, standIns := [], harness := (true, "48b41855b111fbc12a659fc98582d3fca4a8ceb0ea0f0225a0d40cf1c9151798"), looks := true }, kinds := [], alts := [], laidByText := true, laidKinds := [.handle], laidTests := true, laidLooks := .later }
def ModeBackCardSaid : Prop := Claim7.holds Tryd.pinned (.plain (OpenSpec.ofChange modeBackSpec)) modeBackCard

/-- THE TIED CARD OF 'lockboxlaw06.ModeParts'. -/
def modePartsCard : Claim7 := { stood := { row := modePartsRow, standIns := [], harness := (true, "48b41855b111fbc12a659fc98582d3fca4a8ceb0ea0f0225a0d40cf1c9151798"), looks := true }, kinds := [], alts := [], laidByText := true, laidKinds := [.handle], laidTests := true, laidLooks := .later }
def ModePartsCardSaid : Prop := Claim7.holds Tryd.pinned (.plain (OpenSpec.ofChange modePartsSpec)) modePartsCard

/-- THE TIED CARD OF 'lockboxlaw06.ModeKeeps'. -/
def modeKeepsCard : Claim7 := { stood := { row := modeKeepsRow, standIns := [], harness := (true, "48b41855b111fbc12a659fc98582d3fca4a8ceb0ea0f0225a0d40cf1c9151798"), looks := true }, kinds := [], alts := [], laidByText := true, laidKinds := [.handle], laidTests := true, laidLooks := .later }
def ModeKeepsCardSaid : Prop := Claim7.holds Tryd.pinned (.plain (OpenSpec.ofChange modeKeepsSpec)) modeKeepsCard

/-- THE TIED CARD OF 'lockboxlaw07.MacRetails'. -/
def macRetailsCard : Claim7 := { stood := { row := macRetailsRow, standIns := [], harness := (true, "48b41855b111fbc12a659fc98582d3fca4a8ceb0ea0f0225a0d40cf1c9151798"), looks := true }, kinds := [], alts := [], laidByText := true, laidKinds := [.handle], laidTests := true, laidLooks := .later }
def MacRetailsCardSaid : Prop := Claim7.holds Tryd.pinned (.plain (OpenSpec.ofChange macRetailsSpec)) macRetailsCard

/-- THE SECOND FORM's CARD OF 'lockboxlaw06.ModeXors'. -/
def modeXorsUptoCard : Claim7 := { stood := { row := modeXorsUptoRow, standIns := [], harness := (true, "48b41855b111fbc12a659fc98582d3fca4a8ceb0ea0f0225a0d40cf1c9151798"), looks := true }, kinds := [], alts := [], laidByText := true, laidKinds := [.handle], laidTests := true, laidLooks := .later }
def ModeXorsUptoCardSaid : Prop := Claim7.holds Tryd.pinned (.plain (OpenSpec.upto modeXorsSpec)) modeXorsUptoCard

/-- THE SECOND FORM's CARD OF 'lockboxlaw06.ModeBack'. -/
def modeBackUptoCard : Claim7 := { stood := { row := modeBackUptoRow, standIns := [], harness := (true, "48b41855b111fbc12a659fc98582d3fca4a8ceb0ea0f0225a0d40cf1c9151798"), looks := true }, kinds := [], alts := [], laidByText := true, laidKinds := [.handle], laidTests := true, laidLooks := .later }
def ModeBackUptoCardSaid : Prop := Claim7.holds Tryd.pinned (.plain (OpenSpec.upto modeBackSpec)) modeBackUptoCard

/-- THE SECOND FORM's CARD OF 'lockboxlaw06.ModeParts'. -/
def modePartsUptoCard : Claim7 := { stood := { row := modePartsUptoRow, standIns := [], harness := (true, "48b41855b111fbc12a659fc98582d3fca4a8ceb0ea0f0225a0d40cf1c9151798"), looks := true }, kinds := [], alts := [], laidByText := true, laidKinds := [.handle], laidTests := true, laidLooks := .later }
def ModePartsUptoCardSaid : Prop := Claim7.holds Tryd.pinned (.plain (OpenSpec.upto modePartsSpec)) modePartsUptoCard

/-- THE SECOND FORM's CARD OF 'lockboxlaw06.ModeKeeps'. -/
def modeKeepsUptoCard : Claim7 := { stood := { row := modeKeepsUptoRow, standIns := [], harness := (true, "48b41855b111fbc12a659fc98582d3fca4a8ceb0ea0f0225a0d40cf1c9151798"), looks := true }, kinds := [], alts := [], laidByText := true, laidKinds := [.handle], laidTests := true, laidLooks := .later }
def ModeKeepsUptoCardSaid : Prop := Claim7.holds Tryd.pinned (.plain (OpenSpec.upto modeKeepsSpec)) modeKeepsUptoCard

/-- THE SECOND FORM's CARD OF 'lockboxlaw07.MacRetails'. -/
def macRetailsUptoCard : Claim7 := { stood := { row := macRetailsUptoRow, standIns := [], harness := (true, "48b41855b111fbc12a659fc98582d3fca4a8ceb0ea0f0225a0d40cf1c9151798"), looks := true }, kinds := [], alts := [], laidByText := true, laidKinds := [.handle], laidTests := true, laidLooks := .later }
def MacRetailsUptoCardSaid : Prop := Claim7.holds Tryd.pinned (.plain (OpenSpec.upto macRetailsSpec)) macRetailsUptoCard
end Rows
end Go.Proofs.YtommgcebjhkneaaDoor
