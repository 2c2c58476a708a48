/-
  No cell of these rows narrows 'for every input' (looked for: loops, veiled, ifaces, maps, wideKeys, modest, calm, conditions, laid).
  DERIVED. THE GIVEN ROWS OF THIS SEAT. 9 by the template 'for every input the law returns true; each argument reads behind the call as it read before'; 0 by the template 'total and deterministic' (their statements: YteadhjclchjfjaaTotals.lean).
  GIVEN WITH THE SEED: the statements are not yours to turn. If you find one false, say at which input.
  Laid BY PROGRAM, IN A SANDBOX (cutbox-rows.mjs): the forced cells as the released guide's own fill.sh prints them over the translation bab53bd359093cae… (all of the seat's roots in one cut). By AI agents, Wed Nov 11 2026. No macro, syntax, notation, axiom, sorry.
-/
import Derived.Test.YteadhjclchjfjaaChecked
import GoSem.Claim
import GoSem.ClaimJoined
import GoSem.ClaimMapViews
import Derived.JoinedTies
import Derived.KernelRfl
namespace Go.Proofs.Yteadhjclchjfjaa
/- THE CELL 'sum', in the pinned program and in every row, IS THE sha256 OF THE DUMP (.gsa) THAT YteadhjclchjfjaaProg.lean LOADS. Nothing in Lean hashes anything: it is a label: what it is worth is what the hold of that sum in a sandbox is worth. -/
noncomputable def Try.pinned : Pinned := { name := "yteadhjclchjfjaa", sum := "bab53bd359093caecc9f19f98fc126548464a5c96609aaa3d8966a1c46ddd902", checked := Try.checked }
namespace Rows
def none {H : Type} : Left H := { results := [], args := [] }

/-- 'fishlaw1.LinePlaces': WHATEVER THE INPUT: true; the input reads as it did. -/
def linePlacesSpec : ChangeSpec := { name := "linePlaces", fn := fun _ => fun
  | [d1, d2, d3] => { results := [.lit (.bool true)], args := [d1, d2, d3] }
  | _ => none }
def linePlacesRow : OpenClaim := { program := "yteadhjclchjfjaa", sum := "bab53bd359093caecc9f19f98fc126548464a5c96609aaa3d8966a1c46ddd902", func := "fishplate/fishlaw1.LinePlaces", spec := "linePlaces", unfollowed := true, recurses := true, plainKeys := false, apart := false }
def LinePlacesSaid : Prop := linePlacesRow.holds Try.pinned (OpenSpec.ofChange linePlacesSpec)

/-- ITS FALSE NEIGHBOUR: 'it returns false'. Refute it at one input. -/
def linePlacesWrong : ChangeSpec := { name := "linePlaces", fn := fun _ => fun
  | [d1, d2, d3] => { results := [.lit (.bool false)], args := [d1, d2, d3] }
  | _ => none }
def LinePlacesWrongFalsely : Prop := linePlacesRow.holds Try.pinned (OpenSpec.ofChange linePlacesWrong)

/-- 'fishlaw1.LinePaths': WHATEVER THE INPUT: true; the input reads as it did. -/
def linePathsSpec : ChangeSpec := { name := "linePaths", fn := fun _ => fun
  | [d1, d2] => { results := [.lit (.bool true)], args := [d1, d2] }
  | _ => none }
def linePathsRow : OpenClaim := { program := "yteadhjclchjfjaa", sum := "bab53bd359093caecc9f19f98fc126548464a5c96609aaa3d8966a1c46ddd902", func := "fishplate/fishlaw1.LinePaths", spec := "linePaths", unfollowed := true, recurses := true, plainKeys := false, apart := false }
def LinePathsSaid : Prop := linePathsRow.holds Try.pinned (OpenSpec.ofChange linePathsSpec)

/-- ITS FALSE NEIGHBOUR: 'it returns false'. Refute it at one input. -/
def linePathsWrong : ChangeSpec := { name := "linePaths", fn := fun _ => fun
  | [d1, d2] => { results := [.lit (.bool false)], args := [d1, d2] }
  | _ => none }
def LinePathsWrongFalsely : Prop := linePathsRow.holds Try.pinned (OpenSpec.ofChange linePathsWrong)

/-- 'fishlaw1.LineRoutes': WHATEVER THE INPUT: true; the input reads as it did. -/
def lineRoutesSpec : ChangeSpec := { name := "lineRoutes", fn := fun _ => fun
  | [d] => { results := [.lit (.bool true)], args := [d] }
  | _ => none }
def lineRoutesRow : OpenClaim := { program := "yteadhjclchjfjaa", sum := "bab53bd359093caecc9f19f98fc126548464a5c96609aaa3d8966a1c46ddd902", func := "fishplate/fishlaw1.LineRoutes", spec := "lineRoutes", unfollowed := true, recurses := true, plainKeys := false, apart := false }
def LineRoutesSaid : Prop := lineRoutesRow.holds Try.pinned (OpenSpec.ofChange lineRoutesSpec)

/-- ITS FALSE NEIGHBOUR: 'it returns false'. Refute it at one input. -/
def lineRoutesWrong : ChangeSpec := { name := "lineRoutes", fn := fun _ => fun
  | [d] => { results := [.lit (.bool false)], args := [d] }
  | _ => none }
def LineRoutesWrongFalsely : Prop := lineRoutesRow.holds Try.pinned (OpenSpec.ofChange lineRoutesWrong)

/-- 'fishlaw1.LineAparts': WHATEVER THE INPUT: true; the input reads as it did. -/
def lineApartsSpec : ChangeSpec := { name := "lineAparts", fn := fun _ => fun
  | [d] => { results := [.lit (.bool true)], args := [d] }
  | _ => none }
def lineApartsRow : OpenClaim := { program := "yteadhjclchjfjaa", sum := "bab53bd359093caecc9f19f98fc126548464a5c96609aaa3d8966a1c46ddd902", func := "fishplate/fishlaw1.LineAparts", spec := "lineAparts", unfollowed := true, recurses := true, plainKeys := false, apart := false }
def LineApartsSaid : Prop := lineApartsRow.holds Try.pinned (OpenSpec.ofChange lineApartsSpec)

/-- ITS FALSE NEIGHBOUR: 'it returns false'. Refute it at one input. -/
def lineApartsWrong : ChangeSpec := { name := "lineAparts", fn := fun _ => fun
  | [d] => { results := [.lit (.bool false)], args := [d] }
  | _ => none }
def LineApartsWrongFalsely : Prop := lineApartsRow.holds Try.pinned (OpenSpec.ofChange lineApartsWrong)

/-- 'fishlaw1.LineClashes': WHATEVER THE INPUT: true; the input reads as it did. -/
def lineClashesSpec : ChangeSpec := { name := "lineClashes", fn := fun _ => fun
  | [d1, d2, d3] => { results := [.lit (.bool true)], args := [d1, d2, d3] }
  | _ => none }
def lineClashesRow : OpenClaim := { program := "yteadhjclchjfjaa", sum := "bab53bd359093caecc9f19f98fc126548464a5c96609aaa3d8966a1c46ddd902", func := "fishplate/fishlaw1.LineClashes", spec := "lineClashes", unfollowed := true, recurses := true, plainKeys := false, apart := false }
def LineClashesSaid : Prop := lineClashesRow.holds Try.pinned (OpenSpec.ofChange lineClashesSpec)

/-- ITS FALSE NEIGHBOUR: 'it returns false'. Refute it at one input. -/
def lineClashesWrong : ChangeSpec := { name := "lineClashes", fn := fun _ => fun
  | [d1, d2, d3] => { results := [.lit (.bool false)], args := [d1, d2, d3] }
  | _ => none }
def LineClashesWrongFalsely : Prop := lineClashesRow.holds Try.pinned (OpenSpec.ofChange lineClashesWrong)

/-- 'fishlaw1.LineNeeds': WHATEVER THE INPUT: true; the input reads as it did. -/
def lineNeedsSpec : ChangeSpec := { name := "lineNeeds", fn := fun _ => fun
  | [d1, d2] => { results := [.lit (.bool true)], args := [d1, d2] }
  | _ => none }
def lineNeedsRow : OpenClaim := { program := "yteadhjclchjfjaa", sum := "bab53bd359093caecc9f19f98fc126548464a5c96609aaa3d8966a1c46ddd902", func := "fishplate/fishlaw1.LineNeeds", spec := "lineNeeds", unfollowed := true, recurses := true, plainKeys := false, apart := false }
def LineNeedsSaid : Prop := lineNeedsRow.holds Try.pinned (OpenSpec.ofChange lineNeedsSpec)

/-- ITS FALSE NEIGHBOUR: 'it returns false'. Refute it at one input. -/
def lineNeedsWrong : ChangeSpec := { name := "lineNeeds", fn := fun _ => fun
  | [d1, d2] => { results := [.lit (.bool false)], args := [d1, d2] }
  | _ => none }
def LineNeedsWrongFalsely : Prop := lineNeedsRow.holds Try.pinned (OpenSpec.ofChange lineNeedsWrong)

/-- 'fishlaw1.LineTables': WHATEVER THE INPUT: true; the input reads as it did. -/
def lineTablesSpec : ChangeSpec := { name := "lineTables", fn := fun _ => fun
  | [d1, d2] => { results := [.lit (.bool true)], args := [d1, d2] }
  | _ => none }
def lineTablesRow : OpenClaim := { program := "yteadhjclchjfjaa", sum := "bab53bd359093caecc9f19f98fc126548464a5c96609aaa3d8966a1c46ddd902", func := "fishplate/fishlaw1.LineTables", spec := "lineTables", unfollowed := true, recurses := true, plainKeys := false, apart := false }
def LineTablesSaid : Prop := lineTablesRow.holds Try.pinned (OpenSpec.ofChange lineTablesSpec)

/-- ITS FALSE NEIGHBOUR: 'it returns false'. Refute it at one input. -/
def lineTablesWrong : ChangeSpec := { name := "lineTables", fn := fun _ => fun
  | [d1, d2] => { results := [.lit (.bool false)], args := [d1, d2] }
  | _ => none }
def LineTablesWrongFalsely : Prop := lineTablesRow.holds Try.pinned (OpenSpec.ofChange lineTablesWrong)

/-- 'fishlaw1.LineLegs': WHATEVER THE INPUT: true; the input reads as it did. -/
def lineLegsSpec : ChangeSpec := { name := "lineLegs", fn := fun _ => fun
  | [d1, d2, d3] => { results := [.lit (.bool true)], args := [d1, d2, d3] }
  | _ => none }
def lineLegsRow : OpenClaim := { program := "yteadhjclchjfjaa", sum := "bab53bd359093caecc9f19f98fc126548464a5c96609aaa3d8966a1c46ddd902", func := "fishplate/fishlaw1.LineLegs", spec := "lineLegs", unfollowed := true, recurses := true, plainKeys := false, apart := false }
def LineLegsSaid : Prop := lineLegsRow.holds Try.pinned (OpenSpec.ofChange lineLegsSpec)

/-- ITS FALSE NEIGHBOUR: 'it returns false'. Refute it at one input. -/
def lineLegsWrong : ChangeSpec := { name := "lineLegs", fn := fun _ => fun
  | [d1, d2, d3] => { results := [.lit (.bool false)], args := [d1, d2, d3] }
  | _ => none }
def LineLegsWrongFalsely : Prop := lineLegsRow.holds Try.pinned (OpenSpec.ofChange lineLegsWrong)

/-- 'fishlaw1.LineChains': WHATEVER THE INPUT: true; the input reads as it did. -/
def lineChainsSpec : ChangeSpec := { name := "lineChains", fn := fun _ => fun
  | [d1, d2, d3, d4] => { results := [.lit (.bool true)], args := [d1, d2, d3, d4] }
  | _ => none }
def lineChainsRow : OpenClaim := { program := "yteadhjclchjfjaa", sum := "bab53bd359093caecc9f19f98fc126548464a5c96609aaa3d8966a1c46ddd902", func := "fishplate/fishlaw1.LineChains", spec := "lineChains", unfollowed := true, recurses := true, plainKeys := false, apart := false }
def LineChainsSaid : Prop := lineChainsRow.holds Try.pinned (OpenSpec.ofChange lineChainsSpec)

/-- ITS FALSE NEIGHBOUR: 'it returns false'. Refute it at one input. -/
def lineChainsWrong : ChangeSpec := { name := "lineChains", fn := fun _ => fun
  | [d1, d2, d3, d4] => { results := [.lit (.bool false)], args := [d1, d2, d3, d4] }
  | _ => none }
def LineChainsWrongFalsely : Prop := lineChainsRow.holds Try.pinned (OpenSpec.ofChange lineChainsWrong)

/- THE SECOND FORM. 'bulk': how many values and letters a reading holds, each counted each time it is reached (what is shared counts as often as it is met; a slice's spare places count too). A statement '..UptoSaid' is the law's where the arguments, and the package variables that the reading takes, are together of bulk at most 1048576: NARROWER than '..Said'. Prove '..Said' where nothing that the law and all that it calls make is longer than what came in: it says more and counts as full. Else prove '..UptoSaid'. A law counts once. -/
mutual
def uptoBulk {H : Type} : DataW H → Nat
  | .lit (.string bytes) => bytes.length + 1
  | .lit _ => 1
  | .nil => 1
  | .ptr d => uptoBulk d + 1
  | .slice elems spare => uptoBulkAll elems + uptoBulkAll spare + 1
  | .agg parts => uptoBulkAll parts + 1
  | .iface _ d => uptoBulk d + 1
  | .map entries => uptoBulkEntries entries + 1
  | .held _ => 1
def uptoBulkAll {H : Type} : List (DataW H) → Nat
  | [] => 0
  | d :: r => uptoBulk d + uptoBulkAll r
def uptoBulkEntries {H : Type} : List (Lit × DataW H) → Nat
  | [] => 0
  | x :: r => uptoBulkEntry x + uptoBulkEntries r
def uptoBulkEntry {H : Type} : Lit × DataW H → Nat
  | (.string bytes, d) => bytes.length + uptoBulk d + 1
  | (_, d) => uptoBulk d + 1
 end
def uptoSmall : (H : Type) → List (DataW H) → Bool := fun _ ds => decide (uptoBulkAll ds ≤ 1048576)
def OpenSpec.upto (s : _root_.Go.ChangeSpec) : _root_.Go.OpenSpec := { _root_.Go.OpenSpec.ofChange s with cond := some uptoSmall }

/-- 'fishlaw1.LinePlaces', WHERE WHAT IT READS IS OF BULK AT MOST 1048576: true; the input reads as it did. -/
def linePlacesUptoRow : OpenClaim := { program := "yteadhjclchjfjaa", sum := "bab53bd359093caecc9f19f98fc126548464a5c96609aaa3d8966a1c46ddd902", func := "fishplate/fishlaw1.LinePlaces", spec := "linePlaces", unfollowed := true, recurses := true, plainKeys := false, apart := false, narrowed := true }
def LinePlacesUptoSaid : Prop := linePlacesUptoRow.holds Try.pinned (OpenSpec.upto linePlacesSpec)

/-- 'fishlaw1.LinePaths', WHERE WHAT IT READS IS OF BULK AT MOST 1048576: true; the input reads as it did. -/
def linePathsUptoRow : OpenClaim := { program := "yteadhjclchjfjaa", sum := "bab53bd359093caecc9f19f98fc126548464a5c96609aaa3d8966a1c46ddd902", func := "fishplate/fishlaw1.LinePaths", spec := "linePaths", unfollowed := true, recurses := true, plainKeys := false, apart := false, narrowed := true }
def LinePathsUptoSaid : Prop := linePathsUptoRow.holds Try.pinned (OpenSpec.upto linePathsSpec)

/-- 'fishlaw1.LineRoutes', WHERE WHAT IT READS IS OF BULK AT MOST 1048576: true; the input reads as it did. -/
def lineRoutesUptoRow : OpenClaim := { program := "yteadhjclchjfjaa", sum := "bab53bd359093caecc9f19f98fc126548464a5c96609aaa3d8966a1c46ddd902", func := "fishplate/fishlaw1.LineRoutes", spec := "lineRoutes", unfollowed := true, recurses := true, plainKeys := false, apart := false, narrowed := true }
def LineRoutesUptoSaid : Prop := lineRoutesUptoRow.holds Try.pinned (OpenSpec.upto lineRoutesSpec)

/-- 'fishlaw1.LineAparts', WHERE WHAT IT READS IS OF BULK AT MOST 1048576: true; the input reads as it did. -/
def lineApartsUptoRow : OpenClaim := { program := "yteadhjclchjfjaa", sum := "bab53bd359093caecc9f19f98fc126548464a5c96609aaa3d8966a1c46ddd902", func := "fishplate/fishlaw1.LineAparts", spec := "lineAparts", unfollowed := true, recurses := true, plainKeys := false, apart := false, narrowed := true }
def LineApartsUptoSaid : Prop := lineApartsUptoRow.holds Try.pinned (OpenSpec.upto lineApartsSpec)

/-- 'fishlaw1.LineClashes', WHERE WHAT IT READS IS OF BULK AT MOST 1048576: true; the input reads as it did. -/
def lineClashesUptoRow : OpenClaim := { program := "yteadhjclchjfjaa", sum := "bab53bd359093caecc9f19f98fc126548464a5c96609aaa3d8966a1c46ddd902", func := "fishplate/fishlaw1.LineClashes", spec := "lineClashes", unfollowed := true, recurses := true, plainKeys := false, apart := false, narrowed := true }
def LineClashesUptoSaid : Prop := lineClashesUptoRow.holds Try.pinned (OpenSpec.upto lineClashesSpec)

/-- 'fishlaw1.LineNeeds', WHERE WHAT IT READS IS OF BULK AT MOST 1048576: true; the input reads as it did. -/
def lineNeedsUptoRow : OpenClaim := { program := "yteadhjclchjfjaa", sum := "bab53bd359093caecc9f19f98fc126548464a5c96609aaa3d8966a1c46ddd902", func := "fishplate/fishlaw1.LineNeeds", spec := "lineNeeds", unfollowed := true, recurses := true, plainKeys := false, apart := false, narrowed := true }
def LineNeedsUptoSaid : Prop := lineNeedsUptoRow.holds Try.pinned (OpenSpec.upto lineNeedsSpec)

/-- 'fishlaw1.LineTables', WHERE WHAT IT READS IS OF BULK AT MOST 1048576: true; the input reads as it did. -/
def lineTablesUptoRow : OpenClaim := { program := "yteadhjclchjfjaa", sum := "bab53bd359093caecc9f19f98fc126548464a5c96609aaa3d8966a1c46ddd902", func := "fishplate/fishlaw1.LineTables", spec := "lineTables", unfollowed := true, recurses := true, plainKeys := false, apart := false, narrowed := true }
def LineTablesUptoSaid : Prop := lineTablesUptoRow.holds Try.pinned (OpenSpec.upto lineTablesSpec)

/-- 'fishlaw1.LineLegs', WHERE WHAT IT READS IS OF BULK AT MOST 1048576: true; the input reads as it did. -/
def lineLegsUptoRow : OpenClaim := { program := "yteadhjclchjfjaa", sum := "bab53bd359093caecc9f19f98fc126548464a5c96609aaa3d8966a1c46ddd902", func := "fishplate/fishlaw1.LineLegs", spec := "lineLegs", unfollowed := true, recurses := true, plainKeys := false, apart := false, narrowed := true }
def LineLegsUptoSaid : Prop := lineLegsUptoRow.holds Try.pinned (OpenSpec.upto lineLegsSpec)

/-- 'fishlaw1.LineChains', WHERE WHAT IT READS IS OF BULK AT MOST 1048576: true; the input reads as it did. -/
def lineChainsUptoRow : OpenClaim := { program := "yteadhjclchjfjaa", sum := "bab53bd359093caecc9f19f98fc126548464a5c96609aaa3d8966a1c46ddd902", func := "fishplate/fishlaw1.LineChains", spec := "lineChains", unfollowed := true, recurses := true, plainKeys := false, apart := false, narrowed := true }
def LineChainsUptoSaid : Prop := lineChainsUptoRow.holds Try.pinned (OpenSpec.upto lineChainsSpec)

end Rows
end Go.Proofs.Yteadhjclchjfjaa
