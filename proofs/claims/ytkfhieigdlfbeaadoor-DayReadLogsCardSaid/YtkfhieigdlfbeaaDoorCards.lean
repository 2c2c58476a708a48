/-
  DERIVED. GIVEN WITH THE SEED: THE CARDS: each row of YtkfhieigdlfbeaaDoorRows.lean that lists a variable, with what it lists TIED to the program's text (the seventh form; the later family's looks); each row that meets fmt, with fmt's text TOLD by the authors' own Lean function (tested against real Go, not proved from fmt's source: count such statements apart). THE CARD IS WHAT COUNTS. Prove the row's statement (the work); the ties are given (YtkfhieigdlfbeaaDoorTie.lean); close each card by the builder's one call (the guide's Derived/Test/ToyasCard.lean, 'card_holds'). Laid BY PROGRAM, IN A SANDBOX (cutbox-door.mjs). By AI agents, Wed Nov 11 2026. No macro, syntax, notation, axiom, sorry.
-/
import Derived.Test.YtkfhieigdlfbeaaDoorRows
import GoSem.ClaimSeven
namespace Go.Proofs.YtkfhieigdlfbeaaDoor
namespace Rows

/-- THE TIED CARD OF 'fishlaw1.GuardUnpacks'. -/
def guardUnpacksCard : Claim7 := { stood := { row := guardUnpacksRow, standIns := [], harness := (true, "a60b7a15532b6e53cbd8b063d11f58f5c60416fe221dcd9cb39bc1d432204115"), looks := true }, kinds := [], alts := [], laidByText := true, laidKinds := [.data, .data, .data, .data, .sentinel, .sentinel, .pinned], laidTests := true, laidLooks := .later }
def GuardUnpacksCardSaid : Prop := Claim7.holds Tryd.pinned (.plain (OpenSpec.ofChange guardUnpacksSpec)) guardUnpacksCard

/-- THE TIED CARD OF 'fishlaw1.RunReads'. -/
def runReadsCard : Claim7 := { stood := { row := runReadsRow, standIns := [], harness := (true, "a60b7a15532b6e53cbd8b063d11f58f5c60416fe221dcd9cb39bc1d432204115"), looks := true }, kinds := [], alts := [], laidByText := true, laidKinds := [.data, .data, .data, .data, .sentinel, .sentinel, .pinned], laidTests := true, laidLooks := .later }
def RunReadsCardSaid : Prop := Claim7.holds Tryd.pinned (.plain (OpenSpec.ofChange runReadsSpec)) runReadsCard

/-- THE TIED CARD OF 'fishlaw1.DayReadLogs'. -/
def dayReadLogsCard : Claim7 := { stood := { row := dayReadLogsRow, standIns := [], harness := (true, "a60b7a15532b6e53cbd8b063d11f58f5c60416fe221dcd9cb39bc1d432204115"), looks := true }, kinds := [], alts := [], laidByText := true, laidKinds := [.data, .data, .data, .data, .sentinel, .sentinel, .pinned], laidTests := true, laidLooks := .later }
def DayReadLogsCardSaid : Prop := Claim7.holds Tryd.pinned (.plain (OpenSpec.ofChange dayReadLogsSpec)) dayReadLogsCard

/-- THE TIED CARD OF 'fishlaw1.LineReads'. -/
def lineReadsCard : Claim7 := { stood := { row := lineReadsRow, standIns := [], harness := (true, "a60b7a15532b6e53cbd8b063d11f58f5c60416fe221dcd9cb39bc1d432204115"), looks := true }, kinds := [], alts := [], laidByText := true, laidKinds := [.data, .data, .data, .data, .sentinel, .sentinel, .pinned], laidTests := true, laidLooks := .later }
def LineReadsCardSaid : Prop := Claim7.holds Tryd.pinned (.plain (OpenSpec.ofChange lineReadsSpec)) lineReadsCard

/-- THE TIED CARD OF 'fishlaw1.LineTexts'. -/
def lineTextsCard : Claim7 := { stood := { row := lineTextsRow, standIns := [], harness := (true, "a60b7a15532b6e53cbd8b063d11f58f5c60416fe221dcd9cb39bc1d432204115"), looks := true }, kinds := [], alts := [], laidByText := true, laidKinds := [.data, .data, .data], laidTests := true, laidLooks := .later }
def LineTextsCardSaid : Prop := Claim7.holds Tryd.pinned (.plain (OpenSpec.ofChange lineTextsSpec)) lineTextsCard

/-- THE SECOND FORM's CARD OF 'fishlaw1.GuardUnpacks'. -/
def guardUnpacksUptoCard : Claim7 := { stood := { row := guardUnpacksUptoRow, standIns := [], harness := (true, "a60b7a15532b6e53cbd8b063d11f58f5c60416fe221dcd9cb39bc1d432204115"), looks := true }, kinds := [], alts := [], laidByText := true, laidKinds := [.data, .data, .data, .data, .sentinel, .sentinel, .pinned], laidTests := true, laidLooks := .later }
def GuardUnpacksUptoCardSaid : Prop := Claim7.holds Tryd.pinned (.plain (OpenSpec.upto guardUnpacksSpec)) guardUnpacksUptoCard

/-- THE SECOND FORM's CARD OF 'fishlaw1.RunReads'. -/
def runReadsUptoCard : Claim7 := { stood := { row := runReadsUptoRow, standIns := [], harness := (true, "a60b7a15532b6e53cbd8b063d11f58f5c60416fe221dcd9cb39bc1d432204115"), looks := true }, kinds := [], alts := [], laidByText := true, laidKinds := [.data, .data, .data, .data, .sentinel, .sentinel, .pinned], laidTests := true, laidLooks := .later }
def RunReadsUptoCardSaid : Prop := Claim7.holds Tryd.pinned (.plain (OpenSpec.upto runReadsSpec)) runReadsUptoCard

/-- THE SECOND FORM's CARD OF 'fishlaw1.DayReadLogs'. -/
def dayReadLogsUptoCard : Claim7 := { stood := { row := dayReadLogsUptoRow, standIns := [], harness := (true, "a60b7a15532b6e53cbd8b063d11f58f5c60416fe221dcd9cb39bc1d432204115"), looks := true }, kinds := [], alts := [], laidByText := true, laidKinds := [.data, .data, .data, .data, .sentinel, .sentinel, .pinned], laidTests := true, laidLooks := .later }
def DayReadLogsUptoCardSaid : Prop := Claim7.holds Tryd.pinned (.plain (OpenSpec.upto dayReadLogsSpec)) dayReadLogsUptoCard

/-- THE SECOND FORM's CARD OF 'fishlaw1.LineReads'. -/
def lineReadsUptoCard : Claim7 := { stood := { row := lineReadsUptoRow, standIns := [], harness := (true, "a60b7a15532b6e53cbd8b063d11f58f5c60416fe221dcd9cb39bc1d432204115"), looks := true }, kinds := [], alts := [], laidByText := true, laidKinds := [.data, .data, .data, .data, .sentinel, .sentinel, .pinned], laidTests := true, laidLooks := .later }
def LineReadsUptoCardSaid : Prop := Claim7.holds Tryd.pinned (.plain (OpenSpec.upto lineReadsSpec)) lineReadsUptoCard

/-- THE SECOND FORM's CARD OF 'fishlaw1.LineTexts'. -/
def lineTextsUptoCard : Claim7 := { stood := { row := lineTextsUptoRow, standIns := [], harness := (true, "a60b7a15532b6e53cbd8b063d11f58f5c60416fe221dcd9cb39bc1d432204115"), looks := true }, kinds := [], alts := [], laidByText := true, laidKinds := [.data, .data, .data], laidTests := true, laidLooks := .later }
def LineTextsUptoCardSaid : Prop := Claim7.holds Tryd.pinned (.plain (OpenSpec.upto lineTextsSpec)) lineTextsUptoCard
end Rows
end Go.Proofs.YtkfhieigdlfbeaaDoor
