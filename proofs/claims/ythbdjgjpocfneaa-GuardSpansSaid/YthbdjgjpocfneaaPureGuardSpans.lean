/- Span of the program is the span of the reference, for all numbers (from the printed functions). -/
import Derived.Test.YthbdjgjpocfneaaPGuardSpansx1
namespace Go.Proofs.Ythbdjgjpocfneaa.Pure
open Go.RowKit Go.Proofs.Ythbdjgjpocfneaa.PGuardSpans Go.Proofs.YthbdjgjpocfneaaW.PrintWords Go.Proofs.YthbdjgjpocfneaaW.PrintLast

theorem GuardSpans : fishlaw1_GuardSpans.Pure := by
  intro a0 a1 a2 h0 h1
  refine ⟨5, ?_⟩
  unfold fishlaw1_GuardSpans.f guard_Span.f guard_within.f
  by_cases c1 : a0 ≥ 0 <;> by_cases c2 : a0 ≤ 20000000 <;> by_cases c3 : a1 ≥ 0 <;> by_cases c4 : a1 ≤ 20000000 <;> cases a2 <;> simp [c1, c2, c3, c4, guard_Span.j0, fishref1_SpanOf.f, Int.not_lt.mpr, Int.not_le.mp] <;> (try omega)

end Go.Proofs.Ythbdjgjpocfneaa.Pure
