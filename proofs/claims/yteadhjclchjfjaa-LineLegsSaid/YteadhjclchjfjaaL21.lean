/- Needs: positions. -/
import Derived.Test.YteadhjclchjfjaaL20
namespace Go.Proofs.Yteadhjclchjfjaa
set_option linter.unusedSimpArgs false
set_option linter.unusedVariables false
open Go.AB

/-- The position of points over which a step goes. -/
def posF (n : Net) (x : Stp) : Int := if kindAt n x.s = 2 then max x.i x.o else 0

set_option maxHeartbeats 1000000 in
theorem f88 (n : Net) (hb : NetB n) (x : Stp) (h0 : 0 ≤ x.s) (h1 : x.s < n.sects.length) : PCall Try.prog 88 [eNet n, eStp x] (RV (.int .i64 (posF n x))) := by
  refine PCall.of_body Try.func88 rfl Try.ntmps88 (congrArg Array.toList Try.results88) ?_
  intro E
  obtain ⟨c, hc⟩ : ∃ c, n.sects[x.s.toNat]? = some c := ⟨_, List.getElem?_eq_getElem (by omega)⟩
  have hc2 : (n.sects.map dSect)[x.s.toNat]? = some (dSect c) := by rw [List.getElem?_map, hc]; rfl
  have hk : kindAt n x.s = c.kind := by simp [kindAt, hc]
  have i1 : ((0 : Int) ≤ x.s) = True := eq_true h0
  have i2 : (x.s < (n.sects.length : Int)) = True := eq_true h1
  simp only [go_sem, eNet, nCells, eStp, i1, i2, hc, hc2, Option.map_some, dSect, posF, hk]
  exact ⟨fun h => by simp [h], fun h => by simp [h]⟩

set_option maxHeartbeats 1000000 in
theorem f118 (n : Net) (hb : NetB n) (x : Stp) (h0 : 0 ≤ x.s) (h1 : x.s < n.sects.length) : PCall Try.prog 118 [eNet n, eStp x] (RV (.int .i64 (posF n x))) := by
  refine PCall.of_body Try.func118 rfl Try.ntmps118 (congrArg Array.toList Try.results118) ?_
  intro E
  obtain ⟨c, hc⟩ : ∃ c, n.sects[x.s.toNat]? = some c := ⟨_, List.getElem?_eq_getElem (by omega)⟩
  have hc2 : (n.sects.map dSect)[x.s.toNat]? = some (dSect c) := by rw [List.getElem?_map, hc]; rfl
  have hk : kindAt n x.s = c.kind := by simp [kindAt, hc]
  have i1 : ((0 : Int) ≤ x.s) = True := eq_true h0
  have i2 : (x.s < (n.sects.length : Int)) = True := eq_true h1
  simp only [go_sem, eNet, nCells, eStp, i1, i2, hc, hc2, Option.map_some, dSect, posF, hk]
  exact ⟨fun h => by simp [h], fun h => by simp [h]⟩
end Go.Proofs.Yteadhjclchjfjaa
