/-
  DERIVED. GIVEN WITH THE SEED: THE CARDS: each row of YtaieadcnhlapdaaDoorRows.lean that lists a variable, with what it lists TIED to the program's text (the seventh form; the later family's looks); each row that meets fmt, with fmt's text TOLD by the authors' own Lean function (tested against real Go, not proved from fmt's source: count such statements apart). THE CARD IS WHAT COUNTS. Prove the row's statement (the work); the ties are given (YtaieadcnhlapdaaDoorTie.lean); close each card by the builder's one call (the guide's Derived/Test/ToyasCard.lean, 'card_holds'). Laid BY PROGRAM, IN A SANDBOX (cutbox-door.mjs). By AI agents, Wed Nov 11 2026. No macro, syntax, notation, axiom, sorry.
-/
import Derived.Test.YtaieadcnhlapdaaDoorRows
import GoSem.ClaimSeven
namespace Go.Proofs.YtaieadcnhlapdaaDoor
namespace Rows

/-- THE TIED CARD OF 'fishlaw1.DayFaults'. -/
def dayFaultsCard : Claim7 := { stood := { row := dayFaultsRow, standIns := [], harness := (true, "94c65cf67a2b96eecf2c2e29a0e9f27a12256b0a1e7df758cbbecbfef114397a"), looks := false }, kinds := [], alts := [], laidByText := true, laidKinds := [.data, .data, .data], laidTests := true, laidLooks := .later }
def DayFaultsCardSaid : Prop := Claim7.holds Tryd.pinned (.plain (OpenSpec.ofChange dayFaultsSpec)) dayFaultsCard

/-- THE SECOND FORM's CARD OF 'fishlaw1.DayFaults'. -/
def dayFaultsUptoCard : Claim7 := { stood := { row := dayFaultsUptoRow, standIns := [], harness := (true, "94c65cf67a2b96eecf2c2e29a0e9f27a12256b0a1e7df758cbbecbfef114397a"), looks := false }, kinds := [], alts := [], laidByText := true, laidKinds := [.data, .data, .data], laidTests := true, laidLooks := .later }
def DayFaultsUptoCardSaid : Prop := Claim7.holds Tryd.pinned (.plain (OpenSpec.upto dayFaultsSpec)) dayFaultsUptoCard
end Rows
end Go.Proofs.YtaieadcnhlapdaaDoor
