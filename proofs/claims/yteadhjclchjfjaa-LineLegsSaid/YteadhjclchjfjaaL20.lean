/- Overlaps of routes that go out: none. -/
import Derived.Test.YteadhjclchjfjaaL19
namespace Go.Proofs.Yteadhjclchjfjaa
set_option linter.unusedSimpArgs false
set_option linter.unusedVariables false
open Go.AB

theorem f43n (n : Net) (fr to : Int) (hto : to < 0) (p : List Stp) : PCall Try.prog 43 [eNet n, .agg [.int .i64 fr, .int .i64 to, .sl 3 (p.map dStp) .no]] (RV (.sl 3 [] .no)) := by
  refine PCall.of_bodyE Try.func43 rfl Try.ntmps43 (congrArg Array.toList Try.results43) ?_
  intro E
  have h : (to < 0) = True := eq_true hto
  simp only [go_sem, eNet, nCells, h]

theorem f90n (n : Net) (fr to : Int) (hto : to < 0) (p : List Stp) : PCall Try.prog 90 [eNet n, .agg [.int .i64 fr, .int .i64 to, .sl 3 (p.map dStp) .no]] (RV (.sl 3 [] .no)) := by
  refine PCall.of_bodyE Try.func90 rfl Try.ntmps90 (congrArg Array.toList Try.results90) ?_
  intro E
  have h : (to < 0) = True := eq_true hto
  simp only [go_sem, eNet, nCells, h]
end Go.Proofs.Yteadhjclchjfjaa
