/-
  No cell of these rows narrows 'for every input' (looked for: loops, veiled, ifaces, maps, wideKeys, modest, calm, conditions, laid).
  DERIVED. THE GIVEN ROWS OF THIS SEAT. 10 by the template 'for every input the law returns true; each argument reads behind the call as it read before'; 0 by the template 'total and deterministic' (their statements: YtalneemgdjkcdaaTotals.lean).
  GIVEN WITH THE SEED: the statements are not yours to turn. If you find one false, say at which input.
  Laid BY PROGRAM, IN A SANDBOX (cutbox-rows.mjs): the forced cells as the released guide's own fill.sh prints them over the translation 42a628fd13d8b322… (all of the seat's roots in one cut). By AI agents, Wed Nov 11 2026. No macro, syntax, notation, axiom, sorry.
-/
import Derived.Test.YtalneemgdjkcdaaChecked
import GoSem.Claim
import GoSem.ClaimJoined
import GoSem.ClaimMapViews
import Derived.JoinedTies
import Derived.KernelRfl
namespace Go.Proofs.Ytalneemgdjkcdaa
/- THE CELL 'sum', in the pinned program and in every row, IS THE sha256 OF THE DUMP (.gsa) THAT YtalneemgdjkcdaaProg.lean LOADS. Nothing in Lean hashes anything: it is a label: what it is worth is what the hold of that sum in a sandbox is worth. -/
noncomputable def Try.pinned : Pinned := { name := "ytalneemgdjkcdaa", sum := "42a628fd13d8b322a8a5a6ca074ea1a450159418289897869041c5980ac258c5", checked := Try.checked }
namespace Rows
def none {H : Type} : Left H := { results := [], args := [] }

/-- 'fishlaw1.GuardUnits': WHATEVER THE INPUT: true; the input reads as it did. -/
def guardUnitsSpec : ChangeSpec := { name := "guardUnits", fn := fun _ => fun
  | [d] => { results := [.lit (.bool true)], args := [d] }
  | _ => none }
def guardUnitsRow : OpenClaim := { program := "ytalneemgdjkcdaa", sum := "42a628fd13d8b322a8a5a6ca074ea1a450159418289897869041c5980ac258c5", func := "fishplate/fishlaw1.GuardUnits", spec := "guardUnits", unfollowed := true, recurses := true, plainKeys := false, apart := false }
def GuardUnitsSaid : Prop := guardUnitsRow.holds Try.pinned (OpenSpec.ofChange guardUnitsSpec)

/-- ITS FALSE NEIGHBOUR: 'it returns false'. Refute it at one input. -/
def guardUnitsWrong : ChangeSpec := { name := "guardUnits", fn := fun _ => fun
  | [d] => { results := [.lit (.bool false)], args := [d] }
  | _ => none }
def GuardUnitsWrongFalsely : Prop := guardUnitsRow.holds Try.pinned (OpenSpec.ofChange guardUnitsWrong)

/-- 'fishlaw1.GuardCentres': WHATEVER THE INPUT: true; the input reads as it did. -/
def guardCentresSpec : ChangeSpec := { name := "guardCentres", fn := fun _ => fun
  | [d] => { results := [.lit (.bool true)], args := [d] }
  | _ => none }
def guardCentresRow : OpenClaim := { program := "ytalneemgdjkcdaa", sum := "42a628fd13d8b322a8a5a6ca074ea1a450159418289897869041c5980ac258c5", func := "fishplate/fishlaw1.GuardCentres", spec := "guardCentres", plainKeys := false, apart := false }
def GuardCentresSaid : Prop := guardCentresRow.holds Try.pinned (OpenSpec.ofChange guardCentresSpec)

/-- ITS FALSE NEIGHBOUR: 'it returns false'. Refute it at one input. -/
def guardCentresWrong : ChangeSpec := { name := "guardCentres", fn := fun _ => fun
  | [d] => { results := [.lit (.bool false)], args := [d] }
  | _ => none }
def GuardCentresWrongFalsely : Prop := guardCentresRow.holds Try.pinned (OpenSpec.ofChange guardCentresWrong)

/-- 'fishlaw1.RunSeconds': WHATEVER THE INPUT: true; the input reads as it did. -/
def runSecondsSpec : ChangeSpec := { name := "runSeconds", fn := fun _ => fun
  | [d1, d2, d3, d4] => { results := [.lit (.bool true)], args := [d1, d2, d3, d4] }
  | _ => none }
def runSecondsRow : OpenClaim := { program := "ytalneemgdjkcdaa", sum := "42a628fd13d8b322a8a5a6ca074ea1a450159418289897869041c5980ac258c5", func := "fishplate/fishlaw1.RunSeconds", spec := "runSeconds", plainKeys := false, apart := false }
def RunSecondsSaid : Prop := runSecondsRow.holds Try.pinned (OpenSpec.ofChange runSecondsSpec)

/-- ITS FALSE NEIGHBOUR: 'it returns false'. Refute it at one input. -/
def runSecondsWrong : ChangeSpec := { name := "runSeconds", fn := fun _ => fun
  | [d1, d2, d3, d4] => { results := [.lit (.bool false)], args := [d1, d2, d3, d4] }
  | _ => none }
def RunSecondsWrongFalsely : Prop := runSecondsRow.holds Try.pinned (OpenSpec.ofChange runSecondsWrong)

/-- 'fishlaw1.RunGoes': WHATEVER THE INPUT: true; the input reads as it did. -/
def runGoesSpec : ChangeSpec := { name := "runGoes", fn := fun _ => fun
  | [d1, d2, d3, d4] => { results := [.lit (.bool true)], args := [d1, d2, d3, d4] }
  | _ => none }
def runGoesRow : OpenClaim := { program := "ytalneemgdjkcdaa", sum := "42a628fd13d8b322a8a5a6ca074ea1a450159418289897869041c5980ac258c5", func := "fishplate/fishlaw1.RunGoes", spec := "runGoes", plainKeys := false, apart := false }
def RunGoesSaid : Prop := runGoesRow.holds Try.pinned (OpenSpec.ofChange runGoesSpec)

/-- ITS FALSE NEIGHBOUR: 'it returns false'. Refute it at one input. -/
def runGoesWrong : ChangeSpec := { name := "runGoes", fn := fun _ => fun
  | [d1, d2, d3, d4] => { results := [.lit (.bool false)], args := [d1, d2, d3, d4] }
  | _ => none }
def RunGoesWrongFalsely : Prop := runGoesRow.holds Try.pinned (OpenSpec.ofChange runGoesWrong)

/-- 'fishlaw1.RunSaves': WHATEVER THE INPUT: true; the input reads as it did. -/
def runSavesSpec : ChangeSpec := { name := "runSaves", fn := fun _ => fun
  | [d1, d2, d3, d4, d5] => { results := [.lit (.bool true)], args := [d1, d2, d3, d4, d5] }
  | _ => none }
def runSavesRow : OpenClaim := { program := "ytalneemgdjkcdaa", sum := "42a628fd13d8b322a8a5a6ca074ea1a450159418289897869041c5980ac258c5", func := "fishplate/fishlaw1.RunSaves", spec := "runSaves", plainKeys := false, apart := false }
def RunSavesSaid : Prop := runSavesRow.holds Try.pinned (OpenSpec.ofChange runSavesSpec)

/-- ITS FALSE NEIGHBOUR: 'it returns false'. Refute it at one input. -/
def runSavesWrong : ChangeSpec := { name := "runSaves", fn := fun _ => fun
  | [d1, d2, d3, d4, d5] => { results := [.lit (.bool false)], args := [d1, d2, d3, d4, d5] }
  | _ => none }
def RunSavesWrongFalsely : Prop := runSavesRow.holds Try.pinned (OpenSpec.ofChange runSavesWrong)

/-- 'fishlaw1.RunCaps': WHATEVER THE INPUT: true; the input reads as it did. -/
def runCapsSpec : ChangeSpec := { name := "runCaps", fn := fun _ => fun
  | [d1, d2, d3, d4, d5] => { results := [.lit (.bool true)], args := [d1, d2, d3, d4, d5] }
  | _ => none }
def runCapsRow : OpenClaim := { program := "ytalneemgdjkcdaa", sum := "42a628fd13d8b322a8a5a6ca074ea1a450159418289897869041c5980ac258c5", func := "fishplate/fishlaw1.RunCaps", spec := "runCaps", plainKeys := false, apart := false }
def RunCapsSaid : Prop := runCapsRow.holds Try.pinned (OpenSpec.ofChange runCapsSpec)

/-- ITS FALSE NEIGHBOUR: 'it returns false'. Refute it at one input. -/
def runCapsWrong : ChangeSpec := { name := "runCaps", fn := fun _ => fun
  | [d1, d2, d3, d4, d5] => { results := [.lit (.bool false)], args := [d1, d2, d3, d4, d5] }
  | _ => none }
def RunCapsWrongFalsely : Prop := runCapsRow.holds Try.pinned (OpenSpec.ofChange runCapsWrong)

/-- 'fishlaw1.GuardPermits': WHATEVER THE INPUT: true; the input reads as it did. -/
def guardPermitsSpec : ChangeSpec := { name := "guardPermits", fn := fun _ => fun
  | [d1, d2, d3, d4, d5, d6] => { results := [.lit (.bool true)], args := [d1, d2, d3, d4, d5, d6] }
  | _ => none }
def guardPermitsRow : OpenClaim := { program := "ytalneemgdjkcdaa", sum := "42a628fd13d8b322a8a5a6ca074ea1a450159418289897869041c5980ac258c5", func := "fishplate/fishlaw1.GuardPermits", spec := "guardPermits", plainKeys := false, apart := false }
def GuardPermitsSaid : Prop := guardPermitsRow.holds Try.pinned (OpenSpec.ofChange guardPermitsSpec)

/-- ITS FALSE NEIGHBOUR: 'it returns false'. Refute it at one input. -/
def guardPermitsWrong : ChangeSpec := { name := "guardPermits", fn := fun _ => fun
  | [d1, d2, d3, d4, d5, d6] => { results := [.lit (.bool false)], args := [d1, d2, d3, d4, d5, d6] }
  | _ => none }
def GuardPermitsWrongFalsely : Prop := guardPermitsRow.holds Try.pinned (OpenSpec.ofChange guardPermitsWrong)

/-- 'fishlaw1.GuardNexts': WHATEVER THE INPUT: true; the input reads as it did. -/
def guardNextsSpec : ChangeSpec := { name := "guardNexts", fn := fun _ => fun
  | [d1, d2, d3, d4, d5, d6, d7] => { results := [.lit (.bool true)], args := [d1, d2, d3, d4, d5, d6, d7] }
  | _ => none }
def guardNextsRow : OpenClaim := { program := "ytalneemgdjkcdaa", sum := "42a628fd13d8b322a8a5a6ca074ea1a450159418289897869041c5980ac258c5", func := "fishplate/fishlaw1.GuardNexts", spec := "guardNexts", plainKeys := false, apart := false }
def GuardNextsSaid : Prop := guardNextsRow.holds Try.pinned (OpenSpec.ofChange guardNextsSpec)

/-- ITS FALSE NEIGHBOUR: 'it returns false'. Refute it at one input. -/
def guardNextsWrong : ChangeSpec := { name := "guardNexts", fn := fun _ => fun
  | [d1, d2, d3, d4, d5, d6, d7] => { results := [.lit (.bool false)], args := [d1, d2, d3, d4, d5, d6, d7] }
  | _ => none }
def GuardNextsWrongFalsely : Prop := guardNextsRow.holds Try.pinned (OpenSpec.ofChange guardNextsWrong)

/-- 'fishlaw1.DayTimes': WHATEVER THE INPUT: true; the input reads as it did. -/
def dayTimesSpec : ChangeSpec := { name := "dayTimes", fn := fun _ => fun
  | [d1, d2] => { results := [.lit (.bool true)], args := [d1, d2] }
  | _ => none }
def dayTimesRow : OpenClaim := { program := "ytalneemgdjkcdaa", sum := "42a628fd13d8b322a8a5a6ca074ea1a450159418289897869041c5980ac258c5", func := "fishplate/fishlaw1.DayTimes", spec := "dayTimes", plainKeys := false, apart := false }
def DayTimesSaid : Prop := dayTimesRow.holds Try.pinned (OpenSpec.ofChange dayTimesSpec)

/-- ITS FALSE NEIGHBOUR: 'it returns false'. Refute it at one input. -/
def dayTimesWrong : ChangeSpec := { name := "dayTimes", fn := fun _ => fun
  | [d1, d2] => { results := [.lit (.bool false)], args := [d1, d2] }
  | _ => none }
def DayTimesWrongFalsely : Prop := dayTimesRow.holds Try.pinned (OpenSpec.ofChange dayTimesWrong)

/-- 'fishlaw1.LineChecks': WHATEVER THE INPUT: true; the input reads as it did. -/
def lineChecksSpec : ChangeSpec := { name := "lineChecks", fn := fun _ => fun
  | [d] => { results := [.lit (.bool true)], args := [d] }
  | _ => none }
def lineChecksRow : OpenClaim := { program := "ytalneemgdjkcdaa", sum := "42a628fd13d8b322a8a5a6ca074ea1a450159418289897869041c5980ac258c5", func := "fishplate/fishlaw1.LineChecks", spec := "lineChecks", unfollowed := true, recurses := true, plainKeys := false, apart := false }
def LineChecksSaid : Prop := lineChecksRow.holds Try.pinned (OpenSpec.ofChange lineChecksSpec)

/-- ITS FALSE NEIGHBOUR: 'it returns false'. Refute it at one input. -/
def lineChecksWrong : ChangeSpec := { name := "lineChecks", fn := fun _ => fun
  | [d] => { results := [.lit (.bool false)], args := [d] }
  | _ => none }
def LineChecksWrongFalsely : Prop := lineChecksRow.holds Try.pinned (OpenSpec.ofChange lineChecksWrong)

/- THE SECOND FORM. 'bulk': how many values and letters a reading holds, each counted each time it is reached (what is shared counts as often as it is met; a slice's spare places count too). A statement '..UptoSaid' is the law's where the arguments, and the package variables that the reading takes, are together of bulk at most 1048576: NARROWER than '..Said'. Prove '..Said' where nothing that the law and all that it calls make is longer than what came in: it says more and counts as full. Else prove '..UptoSaid'. A law counts once. -/
mutual
def uptoBulk {H : Type} : DataW H → Nat
  | .lit (.string bytes) => bytes.length + 1
  | .lit _ => 1
  | .nil => 1
  | .ptr d => uptoBulk d + 1
  | .slice elems spare => uptoBulkAll elems + uptoBulkAll spare + 1
  | .agg parts => uptoBulkAll parts + 1
  | .iface _ d => uptoBulk d + 1
  | .map entries => uptoBulkEntries entries + 1
  | .held _ => 1
def uptoBulkAll {H : Type} : List (DataW H) → Nat
  | [] => 0
  | d :: r => uptoBulk d + uptoBulkAll r
def uptoBulkEntries {H : Type} : List (Lit × DataW H) → Nat
  | [] => 0
  | x :: r => uptoBulkEntry x + uptoBulkEntries r
def uptoBulkEntry {H : Type} : Lit × DataW H → Nat
  | (.string bytes, d) => bytes.length + uptoBulk d + 1
  | (_, d) => uptoBulk d + 1
 end
def uptoSmall : (H : Type) → List (DataW H) → Bool := fun _ ds => decide (uptoBulkAll ds ≤ 1048576)
def OpenSpec.upto (s : _root_.Go.ChangeSpec) : _root_.Go.OpenSpec := { _root_.Go.OpenSpec.ofChange s with cond := some uptoSmall }

/-- 'fishlaw1.GuardUnits', WHERE WHAT IT READS IS OF BULK AT MOST 1048576: true; the input reads as it did. -/
def guardUnitsUptoRow : OpenClaim := { program := "ytalneemgdjkcdaa", sum := "42a628fd13d8b322a8a5a6ca074ea1a450159418289897869041c5980ac258c5", func := "fishplate/fishlaw1.GuardUnits", spec := "guardUnits", unfollowed := true, recurses := true, plainKeys := false, apart := false, narrowed := true }
def GuardUnitsUptoSaid : Prop := guardUnitsUptoRow.holds Try.pinned (OpenSpec.upto guardUnitsSpec)

/-- 'fishlaw1.GuardCentres', WHERE WHAT IT READS IS OF BULK AT MOST 1048576: true; the input reads as it did. -/
def guardCentresUptoRow : OpenClaim := { program := "ytalneemgdjkcdaa", sum := "42a628fd13d8b322a8a5a6ca074ea1a450159418289897869041c5980ac258c5", func := "fishplate/fishlaw1.GuardCentres", spec := "guardCentres", plainKeys := false, apart := false, narrowed := true }
def GuardCentresUptoSaid : Prop := guardCentresUptoRow.holds Try.pinned (OpenSpec.upto guardCentresSpec)

/-- 'fishlaw1.RunSeconds', WHERE WHAT IT READS IS OF BULK AT MOST 1048576: true; the input reads as it did. -/
def runSecondsUptoRow : OpenClaim := { program := "ytalneemgdjkcdaa", sum := "42a628fd13d8b322a8a5a6ca074ea1a450159418289897869041c5980ac258c5", func := "fishplate/fishlaw1.RunSeconds", spec := "runSeconds", plainKeys := false, apart := false, narrowed := true }
def RunSecondsUptoSaid : Prop := runSecondsUptoRow.holds Try.pinned (OpenSpec.upto runSecondsSpec)

/-- 'fishlaw1.RunGoes', WHERE WHAT IT READS IS OF BULK AT MOST 1048576: true; the input reads as it did. -/
def runGoesUptoRow : OpenClaim := { program := "ytalneemgdjkcdaa", sum := "42a628fd13d8b322a8a5a6ca074ea1a450159418289897869041c5980ac258c5", func := "fishplate/fishlaw1.RunGoes", spec := "runGoes", plainKeys := false, apart := false, narrowed := true }
def RunGoesUptoSaid : Prop := runGoesUptoRow.holds Try.pinned (OpenSpec.upto runGoesSpec)

/-- 'fishlaw1.RunSaves', WHERE WHAT IT READS IS OF BULK AT MOST 1048576: true; the input reads as it did. -/
def runSavesUptoRow : OpenClaim := { program := "ytalneemgdjkcdaa", sum := "42a628fd13d8b322a8a5a6ca074ea1a450159418289897869041c5980ac258c5", func := "fishplate/fishlaw1.RunSaves", spec := "runSaves", plainKeys := false, apart := false, narrowed := true }
def RunSavesUptoSaid : Prop := runSavesUptoRow.holds Try.pinned (OpenSpec.upto runSavesSpec)

/-- 'fishlaw1.RunCaps', WHERE WHAT IT READS IS OF BULK AT MOST 1048576: true; the input reads as it did. -/
def runCapsUptoRow : OpenClaim := { program := "ytalneemgdjkcdaa", sum := "42a628fd13d8b322a8a5a6ca074ea1a450159418289897869041c5980ac258c5", func := "fishplate/fishlaw1.RunCaps", spec := "runCaps", plainKeys := false, apart := false, narrowed := true }
def RunCapsUptoSaid : Prop := runCapsUptoRow.holds Try.pinned (OpenSpec.upto runCapsSpec)

/-- 'fishlaw1.GuardPermits', WHERE WHAT IT READS IS OF BULK AT MOST 1048576: true; the input reads as it did. -/
def guardPermitsUptoRow : OpenClaim := { program := "ytalneemgdjkcdaa", sum := "42a628fd13d8b322a8a5a6ca074ea1a450159418289897869041c5980ac258c5", func := "fishplate/fishlaw1.GuardPermits", spec := "guardPermits", plainKeys := false, apart := false, narrowed := true }
def GuardPermitsUptoSaid : Prop := guardPermitsUptoRow.holds Try.pinned (OpenSpec.upto guardPermitsSpec)

/-- 'fishlaw1.GuardNexts', WHERE WHAT IT READS IS OF BULK AT MOST 1048576: true; the input reads as it did. -/
def guardNextsUptoRow : OpenClaim := { program := "ytalneemgdjkcdaa", sum := "42a628fd13d8b322a8a5a6ca074ea1a450159418289897869041c5980ac258c5", func := "fishplate/fishlaw1.GuardNexts", spec := "guardNexts", plainKeys := false, apart := false, narrowed := true }
def GuardNextsUptoSaid : Prop := guardNextsUptoRow.holds Try.pinned (OpenSpec.upto guardNextsSpec)

/-- 'fishlaw1.DayTimes', WHERE WHAT IT READS IS OF BULK AT MOST 1048576: true; the input reads as it did. -/
def dayTimesUptoRow : OpenClaim := { program := "ytalneemgdjkcdaa", sum := "42a628fd13d8b322a8a5a6ca074ea1a450159418289897869041c5980ac258c5", func := "fishplate/fishlaw1.DayTimes", spec := "dayTimes", plainKeys := false, apart := false, narrowed := true }
def DayTimesUptoSaid : Prop := dayTimesUptoRow.holds Try.pinned (OpenSpec.upto dayTimesSpec)

/-- 'fishlaw1.LineChecks', WHERE WHAT IT READS IS OF BULK AT MOST 1048576: true; the input reads as it did. -/
def lineChecksUptoRow : OpenClaim := { program := "ytalneemgdjkcdaa", sum := "42a628fd13d8b322a8a5a6ca074ea1a450159418289897869041c5980ac258c5", func := "fishplate/fishlaw1.LineChecks", spec := "lineChecks", unfollowed := true, recurses := true, plainKeys := false, apart := false, narrowed := true }
def LineChecksUptoSaid : Prop := lineChecksUptoRow.holds Try.pinned (OpenSpec.upto lineChecksSpec)

end Rows
end Go.Proofs.Ytalneemgdjkcdaa
