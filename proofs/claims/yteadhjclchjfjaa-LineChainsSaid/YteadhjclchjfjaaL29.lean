/- Needs that meet: the program's and the reference's. -/
import Derived.Test.YteadhjclchjfjaaL28
namespace Go.Proofs.Yteadhjclchjfjaa
set_option linter.unusedSimpArgs false
set_option linter.unusedVariables false
open Go.AB

def bodyN (x : Nd) : Bool := decide (x.k = 1) || decide (x.k = 2)
def flankN (x y : Nd) : Bool := decide (x.k = 3) && (decide (y.k = 3) || bodyN y) && !decide (x.o = y.o)
def guardN (x y : Nd) : Bool := decide (x.k = 4) && decide (y.k = 5)
def meets (a b : Nd) : Bool := decide (a.p = b.p) && (bodyN a && bodyN b || flankN a b || flankN b a || guardN a b || guardN b a)

theorem f135 (x : Nd) : PCall Try.prog 135 [eNd x] (RV (.bool (bodyN x))) := by
  refine PCall.of_body Try.func135 rfl Try.ntmps135 (congrArg Array.toList Try.results135) ?_
  intro E
  simp only [go_sem, eNd]
  unfold bodyN
  simp +contextual
theorem f137 (x y : Nd) : PCall Try.prog 137 [eNd x, eNd y] (RV (.bool (guardN x y))) := by
  refine PCall.of_body Try.func137 rfl Try.ntmps137 (congrArg Array.toList Try.results137) ?_
  intro E
  simp only [go_sem, eNd]
  unfold guardN
  simp +contextual

theorem f136 (x y : Nd) : PCall Try.prog 136 [eNd x, eNd y, .ept [.raw (.func (.func 135) #[] #[])]] (RV (.bool (flankN x y))) := by
  refine PCall.of_body Try.func136 rfl Try.ntmps136 (congrArg Array.toList Try.results136) ?_
  intro E
  simp only [go_sem, eNd]
  refine ⟨fun h3 => ⟨fun h3' => ?_, fun h3' => callV (f135 y) ?_⟩, fun h3 => ?_⟩
  · simp [flankN, h3, h3']
  · intro nx lv
    simp only [go_sem]
    simp +contextual [flankN, h3, h3']
  · simp [flankN, h3]

set_option maxHeartbeats 4000000 in
set_option maxRecDepth 20000 in
theorem f116 (x y : Nd) : PCall Try.prog 116 [eNd x, eNd y] (RV (.bool (meets x y))) := by
  refine PCall.of_body Try.func116 rfl Try.ntmps116 (congrArg Array.toList Try.results116) ?_
  intro E
  simp only [go_sem, eNd]
  refine ⟨fun h0 => ?_, fun h0 => callV (f135 x) ?_⟩
  · simp [meets, h0]
  intro nx lv
  simp only [go_sem]
  repeat' first
    | refine ⟨fun _ => ?_, fun _ => ?_⟩
    | (refine callV (f135 y) ?_; intro nx2 lv2; simp only [go_sem])
    | (refine .inl (quiet (f136 x y) rfl ?_); simp only [go_sem])
    | (refine .inl (quiet (f136 y x) rfl ?_); simp only [go_sem])
    | (refine callV (f137 x y) ?_; intro nx2 lv2; simp only [go_sem])
    | (refine callV (f137 y x) ?_; intro nx2 lv2; simp only [go_sem])
  all_goals (unfold meets; simp only [*, decide_true, Bool.true_and, Bool.and_true, Bool.and_false, Bool.false_and, Bool.or_true, Bool.true_or, Bool.or_false, Bool.false_or])

theorem meets_comm (x y : Nd) : meets y x = meets x y := by
  have h1 : decide (y.p = x.p) = decide (x.p = y.p) := by simp [eq_comm]
  unfold meets
  rw [h1, Bool.and_comm (bodyN y) (bodyN x), Bool.or_assoc, Bool.or_assoc, Bool.or_assoc, Bool.or_assoc, Bool.or_assoc, Bool.or_assoc]
  cases decide (x.p = y.p) <;> cases (bodyN x && bodyN y) <;> cases flankN x y <;> cases flankN y x <;> cases guardN x y <;> cases guardN y x <;> rfl


set_option maxHeartbeats 4000000 in
set_option maxRecDepth 20000 in
set_option maxHeartbeats 4000000 in
theorem f87 (x y : Nd) : PCall Try.prog 87 [eNd x, eNd y] (RV (.bool (meets x y))) := by
  refine PCall.of_body Try.func87 rfl Try.ntmps87 (congrArg Array.toList Try.results87) ?_
  intro E
  simp (config := {maxSteps := 2000000}) only [go_sem, eNd]
  unfold meets flankN guardN bodyN
  repeat' first
    | refine And.intro ?_ ?_
    | intro _
  all_goals grind

end Go.Proofs.Yteadhjclchjfjaa
