/-
  No cell of these rows narrows 'for every input' (looked for: loops, veiled, ifaces, maps, wideKeys, modest, calm, conditions, laid).
  DERIVED. THE GIVEN ROWS OF THIS SEAT. 14 by the template 'for every input the law returns true; each argument reads behind the call as it read before'; 0 by the template 'total and deterministic' (their statements: YthbdjgjpocfneaaTotals.lean).
  GIVEN WITH THE SEED: the statements are not yours to turn. If you find one false, say at which input.
  Laid BY PROGRAM, IN A SANDBOX (cutbox-rows.mjs): the forced cells as the released guide's own fill.sh prints them over the translation 55ae472c37c786c4… (all of the seat's roots in one cut). By AI agents, Wed Nov 11 2026. No macro, syntax, notation, axiom, sorry.
-/
import Derived.Test.YthbdjgjpocfneaaChecked
import GoSem.Claim
import GoSem.ClaimJoined
import GoSem.ClaimMapViews
import Derived.JoinedTies
import Derived.KernelRfl
namespace Go.Proofs.Ythbdjgjpocfneaa
/- THE CELL 'sum', in the pinned program and in every row, IS THE sha256 OF THE DUMP (.gsa) THAT YthbdjgjpocfneaaProg.lean LOADS. Nothing in Lean hashes anything: it is a label: what it is worth is what the hold of that sum in a sandbox is worth. -/
noncomputable def Try.pinned : Pinned := { name := "ythbdjgjpocfneaa", sum := "55ae472c37c786c4d1c46b7e9ae91c14e17d5b8480673e8baf55be0893c2fd89", checked := Try.checked }
namespace Rows
def none {H : Type} : Left H := { results := [], args := [] }

/-- 'fishlaw1.LineMeets': WHATEVER THE INPUT: true; the input reads as it did. -/
def lineMeetsSpec : ChangeSpec := { name := "lineMeets", fn := fun _ => fun
  | [d1, d2] => { results := [.lit (.bool true)], args := [d1, d2] }
  | _ => none }
def lineMeetsRow : OpenClaim := { program := "ythbdjgjpocfneaa", sum := "55ae472c37c786c4d1c46b7e9ae91c14e17d5b8480673e8baf55be0893c2fd89", func := "fishplate/fishlaw1.LineMeets", spec := "lineMeets", unfollowed := true, recurses := true, apart := false }
def LineMeetsSaid : Prop := lineMeetsRow.holds Try.pinned (OpenSpec.ofChange lineMeetsSpec)

/-- ITS FALSE NEIGHBOUR: 'it returns false'. Refute it at one input. -/
def lineMeetsWrong : ChangeSpec := { name := "lineMeets", fn := fun _ => fun
  | [d1, d2] => { results := [.lit (.bool false)], args := [d1, d2] }
  | _ => none }
def LineMeetsWrongFalsely : Prop := lineMeetsRow.holds Try.pinned (OpenSpec.ofChange lineMeetsWrong)

/-- 'fishlaw1.RunReaches': WHATEVER THE INPUT: true; the input reads as it did. -/
def runReachesSpec : ChangeSpec := { name := "runReaches", fn := fun _ => fun
  | [d1, d2] => { results := [.lit (.bool true)], args := [d1, d2] }
  | _ => none }
def runReachesRow : OpenClaim := { program := "ythbdjgjpocfneaa", sum := "55ae472c37c786c4d1c46b7e9ae91c14e17d5b8480673e8baf55be0893c2fd89", func := "fishplate/fishlaw1.RunReaches", spec := "runReaches", unfollowed := true, recurses := true, apart := false }
def RunReachesSaid : Prop := runReachesRow.holds Try.pinned (OpenSpec.ofChange runReachesSpec)

/-- ITS FALSE NEIGHBOUR: 'it returns false'. Refute it at one input. -/
def runReachesWrong : ChangeSpec := { name := "runReaches", fn := fun _ => fun
  | [d1, d2] => { results := [.lit (.bool false)], args := [d1, d2] }
  | _ => none }
def RunReachesWrongFalsely : Prop := runReachesRow.holds Try.pinned (OpenSpec.ofChange runReachesWrong)

/-- 'fishlaw1.GuardSpans': WHATEVER THE INPUT: true; the input reads as it did. -/
def guardSpansSpec : ChangeSpec := { name := "guardSpans", fn := fun _ => fun
  | [d1, d2, d3] => { results := [.lit (.bool true)], args := [d1, d2, d3] }
  | _ => none }
def guardSpansRow : OpenClaim := { program := "ythbdjgjpocfneaa", sum := "55ae472c37c786c4d1c46b7e9ae91c14e17d5b8480673e8baf55be0893c2fd89", func := "fishplate/fishlaw1.GuardSpans", spec := "guardSpans", apart := false }
def GuardSpansSaid : Prop := guardSpansRow.holds Try.pinned (OpenSpec.ofChange guardSpansSpec)

/-- ITS FALSE NEIGHBOUR: 'it returns false'. Refute it at one input. -/
def guardSpansWrong : ChangeSpec := { name := "guardSpans", fn := fun _ => fun
  | [d1, d2, d3] => { results := [.lit (.bool false)], args := [d1, d2, d3] }
  | _ => none }
def GuardSpansWrongFalsely : Prop := guardSpansRow.holds Try.pinned (OpenSpec.ofChange guardSpansWrong)

/-- 'fishlaw1.GuardSums': WHATEVER THE INPUT: true; the input reads as it did. -/
def guardSumsSpec : ChangeSpec := { name := "guardSums", fn := fun _ => fun
  | [d] => { results := [.lit (.bool true)], args := [d] }
  | _ => none }
def guardSumsRow : OpenClaim := { program := "ythbdjgjpocfneaa", sum := "55ae472c37c786c4d1c46b7e9ae91c14e17d5b8480673e8baf55be0893c2fd89", func := "fishplate/fishlaw1.GuardSums", spec := "guardSums", apart := false }
def GuardSumsSaid : Prop := guardSumsRow.holds Try.pinned (OpenSpec.ofChange guardSumsSpec)

/-- ITS FALSE NEIGHBOUR: 'it returns false'. Refute it at one input. -/
def guardSumsWrong : ChangeSpec := { name := "guardSums", fn := fun _ => fun
  | [d] => { results := [.lit (.bool false)], args := [d] }
  | _ => none }
def GuardSumsWrongFalsely : Prop := guardSumsRow.holds Try.pinned (OpenSpec.ofChange guardSumsWrong)

/-- 'fishlaw1.RunChecks': WHATEVER THE INPUT: true; the input reads as it did. -/
def runChecksSpec : ChangeSpec := { name := "runChecks", fn := fun _ => fun
  | [d] => { results := [.lit (.bool true)], args := [d] }
  | _ => none }
def runChecksRow : OpenClaim := { program := "ythbdjgjpocfneaa", sum := "55ae472c37c786c4d1c46b7e9ae91c14e17d5b8480673e8baf55be0893c2fd89", func := "fishplate/fishlaw1.RunChecks", spec := "runChecks", apart := false }
def RunChecksSaid : Prop := runChecksRow.holds Try.pinned (OpenSpec.ofChange runChecksSpec)

/-- ITS FALSE NEIGHBOUR: 'it returns false'. Refute it at one input. -/
def runChecksWrong : ChangeSpec := { name := "runChecks", fn := fun _ => fun
  | [d] => { results := [.lit (.bool false)], args := [d] }
  | _ => none }
def RunChecksWrongFalsely : Prop := runChecksRow.holds Try.pinned (OpenSpec.ofChange runChecksWrong)

/-- 'fishlaw1.GuardReads': WHATEVER THE INPUT: true; the input reads as it did. -/
def guardReadsSpec : ChangeSpec := { name := "guardReads", fn := fun _ => fun
  | [d] => { results := [.lit (.bool true)], args := [d] }
  | _ => none }
def guardReadsRow : OpenClaim := { program := "ythbdjgjpocfneaa", sum := "55ae472c37c786c4d1c46b7e9ae91c14e17d5b8480673e8baf55be0893c2fd89", func := "fishplate/fishlaw1.GuardReads", spec := "guardReads", apart := false }
def GuardReadsSaid : Prop := guardReadsRow.holds Try.pinned (OpenSpec.ofChange guardReadsSpec)

/-- ITS FALSE NEIGHBOUR: 'it returns false'. Refute it at one input. -/
def guardReadsWrong : ChangeSpec := { name := "guardReads", fn := fun _ => fun
  | [d] => { results := [.lit (.bool false)], args := [d] }
  | _ => none }
def GuardReadsWrongFalsely : Prop := guardReadsRow.holds Try.pinned (OpenSpec.ofChange guardReadsWrong)

/-- 'fishlaw1.GuardWrites': WHATEVER THE INPUT: true; the input reads as it did. -/
def guardWritesSpec : ChangeSpec := { name := "guardWrites", fn := fun _ => fun
  | [d] => { results := [.lit (.bool true)], args := [d] }
  | _ => none }
def guardWritesRow : OpenClaim := { program := "ythbdjgjpocfneaa", sum := "55ae472c37c786c4d1c46b7e9ae91c14e17d5b8480673e8baf55be0893c2fd89", func := "fishplate/fishlaw1.GuardWrites", spec := "guardWrites", apart := false }
def GuardWritesSaid : Prop := guardWritesRow.holds Try.pinned (OpenSpec.ofChange guardWritesSpec)

/-- ITS FALSE NEIGHBOUR: 'it returns false'. Refute it at one input. -/
def guardWritesWrong : ChangeSpec := { name := "guardWrites", fn := fun _ => fun
  | [d] => { results := [.lit (.bool false)], args := [d] }
  | _ => none }
def GuardWritesWrongFalsely : Prop := guardWritesRow.holds Try.pinned (OpenSpec.ofChange guardWritesWrong)

/-- 'fishlaw1.RunStops': WHATEVER THE INPUT: true; the input reads as it did. -/
def runStopsSpec : ChangeSpec := { name := "runStops", fn := fun _ => fun
  | [d1, d2, d3] => { results := [.lit (.bool true)], args := [d1, d2, d3] }
  | _ => none }
def runStopsRow : OpenClaim := { program := "ythbdjgjpocfneaa", sum := "55ae472c37c786c4d1c46b7e9ae91c14e17d5b8480673e8baf55be0893c2fd89", func := "fishplate/fishlaw1.RunStops", spec := "runStops", apart := false }
def RunStopsSaid : Prop := runStopsRow.holds Try.pinned (OpenSpec.ofChange runStopsSpec)

/-- ITS FALSE NEIGHBOUR: 'it returns false'. Refute it at one input. -/
def runStopsWrong : ChangeSpec := { name := "runStops", fn := fun _ => fun
  | [d1, d2, d3] => { results := [.lit (.bool false)], args := [d1, d2, d3] }
  | _ => none }
def RunStopsWrongFalsely : Prop := runStopsRow.holds Try.pinned (OpenSpec.ofChange runStopsWrong)

/-- 'fishlaw1.RunConflicts': WHATEVER THE INPUT: true; the input reads as it did. -/
def runConflictsSpec : ChangeSpec := { name := "runConflicts", fn := fun _ => fun
  | [d1, d2] => { results := [.lit (.bool true)], args := [d1, d2] }
  | _ => none }
def runConflictsRow : OpenClaim := { program := "ythbdjgjpocfneaa", sum := "55ae472c37c786c4d1c46b7e9ae91c14e17d5b8480673e8baf55be0893c2fd89", func := "fishplate/fishlaw1.RunConflicts", spec := "runConflicts", unfollowed := true, recurses := true, apart := false }
def RunConflictsSaid : Prop := runConflictsRow.holds Try.pinned (OpenSpec.ofChange runConflictsSpec)

/-- ITS FALSE NEIGHBOUR: 'it returns false'. Refute it at one input. -/
def runConflictsWrong : ChangeSpec := { name := "runConflicts", fn := fun _ => fun
  | [d1, d2] => { results := [.lit (.bool false)], args := [d1, d2] }
  | _ => none }
def RunConflictsWrongFalsely : Prop := runConflictsRow.holds Try.pinned (OpenSpec.ofChange runConflictsWrong)

/-- 'fishlaw1.RunPulls': WHATEVER THE INPUT: true; the input reads as it did. -/
def runPullsSpec : ChangeSpec := { name := "runPulls", fn := fun _ => fun
  | [d1, d2, d3] => { results := [.lit (.bool true)], args := [d1, d2, d3] }
  | _ => none }
def runPullsRow : OpenClaim := { program := "ythbdjgjpocfneaa", sum := "55ae472c37c786c4d1c46b7e9ae91c14e17d5b8480673e8baf55be0893c2fd89", func := "fishplate/fishlaw1.RunPulls", spec := "runPulls", apart := false }
def RunPullsSaid : Prop := runPullsRow.holds Try.pinned (OpenSpec.ofChange runPullsSpec)

/-- ITS FALSE NEIGHBOUR: 'it returns false'. Refute it at one input. -/
def runPullsWrong : ChangeSpec := { name := "runPulls", fn := fun _ => fun
  | [d1, d2, d3] => { results := [.lit (.bool false)], args := [d1, d2, d3] }
  | _ => none }
def RunPullsWrongFalsely : Prop := runPullsRow.holds Try.pinned (OpenSpec.ofChange runPullsWrong)

/-- 'fishlaw1.RunPowers': WHATEVER THE INPUT: true; the input reads as it did. -/
def runPowersSpec : ChangeSpec := { name := "runPowers", fn := fun _ => fun
  | [d1, d2] => { results := [.lit (.bool true)], args := [d1, d2] }
  | _ => none }
def runPowersRow : OpenClaim := { program := "ythbdjgjpocfneaa", sum := "55ae472c37c786c4d1c46b7e9ae91c14e17d5b8480673e8baf55be0893c2fd89", func := "fishplate/fishlaw1.RunPowers", spec := "runPowers", apart := false }
def RunPowersSaid : Prop := runPowersRow.holds Try.pinned (OpenSpec.ofChange runPowersSpec)

/-- ITS FALSE NEIGHBOUR: 'it returns false'. Refute it at one input. -/
def runPowersWrong : ChangeSpec := { name := "runPowers", fn := fun _ => fun
  | [d1, d2] => { results := [.lit (.bool false)], args := [d1, d2] }
  | _ => none }
def RunPowersWrongFalsely : Prop := runPowersRow.holds Try.pinned (OpenSpec.ofChange runPowersWrong)

/-- 'fishlaw1.RunSmooths': WHATEVER THE INPUT: true; the input reads as it did. -/
def runSmoothsSpec : ChangeSpec := { name := "runSmooths", fn := fun _ => fun
  | [d1, d2, d3] => { results := [.lit (.bool true)], args := [d1, d2, d3] }
  | _ => none }
def runSmoothsRow : OpenClaim := { program := "ythbdjgjpocfneaa", sum := "55ae472c37c786c4d1c46b7e9ae91c14e17d5b8480673e8baf55be0893c2fd89", func := "fishplate/fishlaw1.RunSmooths", spec := "runSmooths", unfollowed := true, recurses := true, apart := false }
def RunSmoothsSaid : Prop := runSmoothsRow.holds Try.pinned (OpenSpec.ofChange runSmoothsSpec)

/-- ITS FALSE NEIGHBOUR: 'it returns false'. Refute it at one input. -/
def runSmoothsWrong : ChangeSpec := { name := "runSmooths", fn := fun _ => fun
  | [d1, d2, d3] => { results := [.lit (.bool false)], args := [d1, d2, d3] }
  | _ => none }
def RunSmoothsWrongFalsely : Prop := runSmoothsRow.holds Try.pinned (OpenSpec.ofChange runSmoothsWrong)

/-- 'fishlaw1.RunAllows': WHATEVER THE INPUT: true; the input reads as it did. -/
def runAllowsSpec : ChangeSpec := { name := "runAllows", fn := fun _ => fun
  | [d1, d2, d3] => { results := [.lit (.bool true)], args := [d1, d2, d3] }
  | _ => none }
def runAllowsRow : OpenClaim := { program := "ythbdjgjpocfneaa", sum := "55ae472c37c786c4d1c46b7e9ae91c14e17d5b8480673e8baf55be0893c2fd89", func := "fishplate/fishlaw1.RunAllows", spec := "runAllows", apart := false }
def RunAllowsSaid : Prop := runAllowsRow.holds Try.pinned (OpenSpec.ofChange runAllowsSpec)

/-- ITS FALSE NEIGHBOUR: 'it returns false'. Refute it at one input. -/
def runAllowsWrong : ChangeSpec := { name := "runAllows", fn := fun _ => fun
  | [d1, d2, d3] => { results := [.lit (.bool false)], args := [d1, d2, d3] }
  | _ => none }
def RunAllowsWrongFalsely : Prop := runAllowsRow.holds Try.pinned (OpenSpec.ofChange runAllowsWrong)

/-- 'fishlaw1.DayRetells': WHATEVER THE INPUT: true; the input reads as it did. -/
def dayRetellsSpec : ChangeSpec := { name := "dayRetells", fn := fun _ => fun
  | [d1, d2, d3] => { results := [.lit (.bool true)], args := [d1, d2, d3] }
  | _ => none }
def dayRetellsRow : OpenClaim := { program := "ythbdjgjpocfneaa", sum := "55ae472c37c786c4d1c46b7e9ae91c14e17d5b8480673e8baf55be0893c2fd89", func := "fishplate/fishlaw1.DayRetells", spec := "dayRetells", unfollowed := true, recurses := true, apart := false }
def DayRetellsSaid : Prop := dayRetellsRow.holds Try.pinned (OpenSpec.ofChange dayRetellsSpec)

/-- ITS FALSE NEIGHBOUR: 'it returns false'. Refute it at one input. -/
def dayRetellsWrong : ChangeSpec := { name := "dayRetells", fn := fun _ => fun
  | [d1, d2, d3] => { results := [.lit (.bool false)], args := [d1, d2, d3] }
  | _ => none }
def DayRetellsWrongFalsely : Prop := dayRetellsRow.holds Try.pinned (OpenSpec.ofChange dayRetellsWrong)

/- THE SECOND FORM. 'bulk': how many values and letters a reading holds, each counted each time it is reached (what is shared counts as often as it is met; a slice's spare places count too). A statement '..UptoSaid' is the law's where the arguments, and the package variables that the reading takes, are together of bulk at most 1048576: NARROWER than '..Said'. Prove '..Said' where nothing that the law and all that it calls make is longer than what came in: it says more and counts as full. Else prove '..UptoSaid'. A law counts once. -/
mutual
def uptoBulk {H : Type} : DataW H → Nat
  | .lit (.string bytes) => bytes.length + 1
  | .lit _ => 1
  | .nil => 1
  | .ptr d => uptoBulk d + 1
  | .slice elems spare => uptoBulkAll elems + uptoBulkAll spare + 1
  | .agg parts => uptoBulkAll parts + 1
  | .iface _ d => uptoBulk d + 1
  | .map entries => uptoBulkEntries entries + 1
  | .held _ => 1
def uptoBulkAll {H : Type} : List (DataW H) → Nat
  | [] => 0
  | d :: r => uptoBulk d + uptoBulkAll r
def uptoBulkEntries {H : Type} : List (Lit × DataW H) → Nat
  | [] => 0
  | x :: r => uptoBulkEntry x + uptoBulkEntries r
def uptoBulkEntry {H : Type} : Lit × DataW H → Nat
  | (.string bytes, d) => bytes.length + uptoBulk d + 1
  | (_, d) => uptoBulk d + 1
 end
def uptoSmall : (H : Type) → List (DataW H) → Bool := fun _ ds => decide (uptoBulkAll ds ≤ 1048576)
def OpenSpec.upto (s : _root_.Go.ChangeSpec) : _root_.Go.OpenSpec := { _root_.Go.OpenSpec.ofChange s with cond := some uptoSmall }

/-- 'fishlaw1.LineMeets', WHERE WHAT IT READS IS OF BULK AT MOST 1048576: true; the input reads as it did. -/
def lineMeetsUptoRow : OpenClaim := { program := "ythbdjgjpocfneaa", sum := "55ae472c37c786c4d1c46b7e9ae91c14e17d5b8480673e8baf55be0893c2fd89", func := "fishplate/fishlaw1.LineMeets", spec := "lineMeets", unfollowed := true, recurses := true, apart := false, narrowed := true }
def LineMeetsUptoSaid : Prop := lineMeetsUptoRow.holds Try.pinned (OpenSpec.upto lineMeetsSpec)

/-- 'fishlaw1.RunReaches', WHERE WHAT IT READS IS OF BULK AT MOST 1048576: true; the input reads as it did. -/
def runReachesUptoRow : OpenClaim := { program := "ythbdjgjpocfneaa", sum := "55ae472c37c786c4d1c46b7e9ae91c14e17d5b8480673e8baf55be0893c2fd89", func := "fishplate/fishlaw1.RunReaches", spec := "runReaches", unfollowed := true, recurses := true, apart := false, narrowed := true }
def RunReachesUptoSaid : Prop := runReachesUptoRow.holds Try.pinned (OpenSpec.upto runReachesSpec)

/-- 'fishlaw1.GuardSpans', WHERE WHAT IT READS IS OF BULK AT MOST 1048576: true; the input reads as it did. -/
def guardSpansUptoRow : OpenClaim := { program := "ythbdjgjpocfneaa", sum := "55ae472c37c786c4d1c46b7e9ae91c14e17d5b8480673e8baf55be0893c2fd89", func := "fishplate/fishlaw1.GuardSpans", spec := "guardSpans", apart := false, narrowed := true }
def GuardSpansUptoSaid : Prop := guardSpansUptoRow.holds Try.pinned (OpenSpec.upto guardSpansSpec)

/-- 'fishlaw1.GuardSums', WHERE WHAT IT READS IS OF BULK AT MOST 1048576: true; the input reads as it did. -/
def guardSumsUptoRow : OpenClaim := { program := "ythbdjgjpocfneaa", sum := "55ae472c37c786c4d1c46b7e9ae91c14e17d5b8480673e8baf55be0893c2fd89", func := "fishplate/fishlaw1.GuardSums", spec := "guardSums", apart := false, narrowed := true }
def GuardSumsUptoSaid : Prop := guardSumsUptoRow.holds Try.pinned (OpenSpec.upto guardSumsSpec)

/-- 'fishlaw1.RunChecks', WHERE WHAT IT READS IS OF BULK AT MOST 1048576: true; the input reads as it did. -/
def runChecksUptoRow : OpenClaim := { program := "ythbdjgjpocfneaa", sum := "55ae472c37c786c4d1c46b7e9ae91c14e17d5b8480673e8baf55be0893c2fd89", func := "fishplate/fishlaw1.RunChecks", spec := "runChecks", apart := false, narrowed := true }
def RunChecksUptoSaid : Prop := runChecksUptoRow.holds Try.pinned (OpenSpec.upto runChecksSpec)

/-- 'fishlaw1.GuardReads', WHERE WHAT IT READS IS OF BULK AT MOST 1048576: true; the input reads as it did. -/
def guardReadsUptoRow : OpenClaim := { program := "ythbdjgjpocfneaa", sum := "55ae472c37c786c4d1c46b7e9ae91c14e17d5b8480673e8baf55be0893c2fd89", func := "fishplate/fishlaw1.GuardReads", spec := "guardReads", apart := false, narrowed := true }
def GuardReadsUptoSaid : Prop := guardReadsUptoRow.holds Try.pinned (OpenSpec.upto guardReadsSpec)

/-- 'fishlaw1.GuardWrites', WHERE WHAT IT READS IS OF BULK AT MOST 1048576: true; the input reads as it did. -/
def guardWritesUptoRow : OpenClaim := { program := "ythbdjgjpocfneaa", sum := "55ae472c37c786c4d1c46b7e9ae91c14e17d5b8480673e8baf55be0893c2fd89", func := "fishplate/fishlaw1.GuardWrites", spec := "guardWrites", apart := false, narrowed := true }
def GuardWritesUptoSaid : Prop := guardWritesUptoRow.holds Try.pinned (OpenSpec.upto guardWritesSpec)

/-- 'fishlaw1.RunStops', WHERE WHAT IT READS IS OF BULK AT MOST 1048576: true; the input reads as it did. -/
def runStopsUptoRow : OpenClaim := { program := "ythbdjgjpocfneaa", sum := "55ae472c37c786c4d1c46b7e9ae91c14e17d5b8480673e8baf55be0893c2fd89", func := "fishplate/fishlaw1.RunStops", spec := "runStops", apart := false, narrowed := true }
def RunStopsUptoSaid : Prop := runStopsUptoRow.holds Try.pinned (OpenSpec.upto runStopsSpec)

/-- 'fishlaw1.RunConflicts', WHERE WHAT IT READS IS OF BULK AT MOST 1048576: true; the input reads as it did. -/
def runConflictsUptoRow : OpenClaim := { program := "ythbdjgjpocfneaa", sum := "55ae472c37c786c4d1c46b7e9ae91c14e17d5b8480673e8baf55be0893c2fd89", func := "fishplate/fishlaw1.RunConflicts", spec := "runConflicts", unfollowed := true, recurses := true, apart := false, narrowed := true }
def RunConflictsUptoSaid : Prop := runConflictsUptoRow.holds Try.pinned (OpenSpec.upto runConflictsSpec)

/-- 'fishlaw1.RunPulls', WHERE WHAT IT READS IS OF BULK AT MOST 1048576: true; the input reads as it did. -/
def runPullsUptoRow : OpenClaim := { program := "ythbdjgjpocfneaa", sum := "55ae472c37c786c4d1c46b7e9ae91c14e17d5b8480673e8baf55be0893c2fd89", func := "fishplate/fishlaw1.RunPulls", spec := "runPulls", apart := false, narrowed := true }
def RunPullsUptoSaid : Prop := runPullsUptoRow.holds Try.pinned (OpenSpec.upto runPullsSpec)

/-- 'fishlaw1.RunPowers', WHERE WHAT IT READS IS OF BULK AT MOST 1048576: true; the input reads as it did. -/
def runPowersUptoRow : OpenClaim := { program := "ythbdjgjpocfneaa", sum := "55ae472c37c786c4d1c46b7e9ae91c14e17d5b8480673e8baf55be0893c2fd89", func := "fishplate/fishlaw1.RunPowers", spec := "runPowers", apart := false, narrowed := true }
def RunPowersUptoSaid : Prop := runPowersUptoRow.holds Try.pinned (OpenSpec.upto runPowersSpec)

/-- 'fishlaw1.RunSmooths', WHERE WHAT IT READS IS OF BULK AT MOST 1048576: true; the input reads as it did. -/
def runSmoothsUptoRow : OpenClaim := { program := "ythbdjgjpocfneaa", sum := "55ae472c37c786c4d1c46b7e9ae91c14e17d5b8480673e8baf55be0893c2fd89", func := "fishplate/fishlaw1.RunSmooths", spec := "runSmooths", unfollowed := true, recurses := true, apart := false, narrowed := true }
def RunSmoothsUptoSaid : Prop := runSmoothsUptoRow.holds Try.pinned (OpenSpec.upto runSmoothsSpec)

/-- 'fishlaw1.RunAllows', WHERE WHAT IT READS IS OF BULK AT MOST 1048576: true; the input reads as it did. -/
def runAllowsUptoRow : OpenClaim := { program := "ythbdjgjpocfneaa", sum := "55ae472c37c786c4d1c46b7e9ae91c14e17d5b8480673e8baf55be0893c2fd89", func := "fishplate/fishlaw1.RunAllows", spec := "runAllows", apart := false, narrowed := true }
def RunAllowsUptoSaid : Prop := runAllowsUptoRow.holds Try.pinned (OpenSpec.upto runAllowsSpec)

/-- 'fishlaw1.DayRetells', WHERE WHAT IT READS IS OF BULK AT MOST 1048576: true; the input reads as it did. -/
def dayRetellsUptoRow : OpenClaim := { program := "ythbdjgjpocfneaa", sum := "55ae472c37c786c4d1c46b7e9ae91c14e17d5b8480673e8baf55be0893c2fd89", func := "fishplate/fishlaw1.DayRetells", spec := "dayRetells", unfollowed := true, recurses := true, apart := false, narrowed := true }
def DayRetellsUptoSaid : Prop := dayRetellsUptoRow.holds Try.pinned (OpenSpec.upto dayRetellsSpec)

end Rows
end Go.Proofs.Ythbdjgjpocfneaa
