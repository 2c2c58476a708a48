/-
  DERIVED. GIVEN WITH THE SEED: THE CARDS: each row of YtalneemgdjkcdaaDoorRows.lean that lists a variable, with what it lists TIED to the program's text (the seventh form; the later family's looks); each row that meets fmt, with fmt's text TOLD by the authors' own Lean function (tested against real Go, not proved from fmt's source: count such statements apart). THE CARD IS WHAT COUNTS. Prove the row's statement (the work); the ties are given (YtalneemgdjkcdaaDoorTie.lean); close each card by the builder's one call (the guide's Derived/Test/ToyasCard.lean, 'card_holds'). Laid BY PROGRAM, IN A SANDBOX (cutbox-door.mjs). By AI agents, Wed Nov 11 2026. No macro, syntax, notation, axiom, sorry.
-/
import Derived.Test.YtalneemgdjkcdaaDoorRows
import GoSem.ClaimSeven
namespace Go.Proofs.YtalneemgdjkcdaaDoor
namespace Rows

/-- THE TIED CARD OF 'fishlaw1.RunTexts'. -/
def runTextsCard : Claim7 := { stood := { row := runTextsRow, standIns := [], harness := (true, "797bf72db7b26a1d6b9da095a88fc77a83b8f671f1f7212050bf088dcd74f9bf"), looks := false }, kinds := [], alts := [], laidByText := true, laidKinds := [.data, .data, .data], laidTests := true, laidLooks := .later }
def RunTextsCardSaid : Prop := Claim7.holds Tryd.pinned (.plain (OpenSpec.ofChange runTextsSpec)) runTextsCard

/-- THE TIED CARD OF 'fishlaw1.GuardPacks'. -/
def guardPacksCard : Claim7 := { stood := { row := guardPacksRow, standIns := [], harness := (true, "797bf72db7b26a1d6b9da095a88fc77a83b8f671f1f7212050bf088dcd74f9bf"), looks := false }, kinds := [], alts := [], laidByText := true, laidKinds := [.data, .data, .data], laidTests := true, laidLooks := .later }
def GuardPacksCardSaid : Prop := Claim7.holds Tryd.pinned (.plain (OpenSpec.ofChange guardPacksSpec)) guardPacksCard

/-- THE TIED CARD OF 'fishlaw1.DayLogs'. -/
def dayLogsCard : Claim7 := { stood := { row := dayLogsRow, standIns := [], harness := (true, "797bf72db7b26a1d6b9da095a88fc77a83b8f671f1f7212050bf088dcd74f9bf"), looks := false }, kinds := [], alts := [], laidByText := true, laidKinds := [.data, .data, .data], laidTests := true, laidLooks := .later }
def DayLogsCardSaid : Prop := Claim7.holds Tryd.pinned (.plain (OpenSpec.ofChange dayLogsSpec)) dayLogsCard

/-- THE SECOND FORM's CARD OF 'fishlaw1.RunTexts'. -/
def runTextsUptoCard : Claim7 := { stood := { row := runTextsUptoRow, standIns := [], harness := (true, "797bf72db7b26a1d6b9da095a88fc77a83b8f671f1f7212050bf088dcd74f9bf"), looks := false }, kinds := [], alts := [], laidByText := true, laidKinds := [.data, .data, .data], laidTests := true, laidLooks := .later }
def RunTextsUptoCardSaid : Prop := Claim7.holds Tryd.pinned (.plain (OpenSpec.upto runTextsSpec)) runTextsUptoCard

/-- THE SECOND FORM's CARD OF 'fishlaw1.GuardPacks'. -/
def guardPacksUptoCard : Claim7 := { stood := { row := guardPacksUptoRow, standIns := [], harness := (true, "797bf72db7b26a1d6b9da095a88fc77a83b8f671f1f7212050bf088dcd74f9bf"), looks := false }, kinds := [], alts := [], laidByText := true, laidKinds := [.data, .data, .data], laidTests := true, laidLooks := .later }
def GuardPacksUptoCardSaid : Prop := Claim7.holds Tryd.pinned (.plain (OpenSpec.upto guardPacksSpec)) guardPacksUptoCard

/-- THE SECOND FORM's CARD OF 'fishlaw1.DayLogs'. -/
def dayLogsUptoCard : Claim7 := { stood := { row := dayLogsUptoRow, standIns := [], harness := (true, "797bf72db7b26a1d6b9da095a88fc77a83b8f671f1f7212050bf088dcd74f9bf"), looks := false }, kinds := [], alts := [], laidByText := true, laidKinds := [.data, .data, .data], laidTests := true, laidLooks := .later }
def DayLogsUptoCardSaid : Prop := Claim7.holds Tryd.pinned (.plain (OpenSpec.upto dayLogsSpec)) dayLogsUptoCard
end Rows
end Go.Proofs.YtalneemgdjkcdaaDoor
