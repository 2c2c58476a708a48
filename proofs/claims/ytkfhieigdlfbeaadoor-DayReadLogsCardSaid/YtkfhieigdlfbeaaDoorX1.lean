/- DayReadLogs: the function that recovers; the functions that panic. -/
import Derived.Test.YtkfhieigdlfbeaaDoorU3
import Derived.Test.YtkfhieigdlfbeaaDoorB41
import Derived.Test.YtkfhieigdlfbeaaDoorB140
namespace Go.Proofs.YtkfhieigdlfbeaaDoor
open Go.AB
set_option linter.unusedSimpArgs false
set_option linter.unusedVariables false

/-- The panic of a code. -/
def wrong (c : Int) : Value := .iface 79 (.agg #[.int .i64 c])
def eWrong (c : Int) : AV := .iface 79 (.agg [.int .i64 c])
theorem wrong_rep (c : Int) (G : Gh) (w : World) : RepA G w (eWrong c) (wrong c) := by
  refine .iface 79 _ _ (.agg [.int .i64 c] [.int .i64 c] rfl (by simp [oneCell]) fun i x v h1 h2 => ?_)
  cases i with
  | zero => cases h1; cases h2; exact .int _ _
  | succ i => simp at h1
theorem wrong_inv {c : Int} {G : Gh} {w : World} {u : Value} (h : RepA G w (eWrong c) u) : u = wrong c := by
  unfold eWrong at h
  cases h with
  | iface t v x hx =>
    cases hx with
    | agg cs vs h1 h2 h3 =>
      match vs, h1 with
      | [v], _ =>
        have := h3 0 _ v rfl rfl
        cases this
        rfl

/-- The function that recovers, in a frame that returns. -/
theorem f70r (m : AH) (a : AV) : DCall Tryd.prog 70 m [a] .returning .returning (fun m' => m' = m) := by
  refine DCall.of_body Found.none Tryd.func70 rfl Tryd.ntmps70 (congrArg Array.toList Tryd.results70) rfl rfl rfl rfl rfl rfl rfl (by decide) ?_
  simp only [go_sem]
/-- The function that recovers, in a frame that panics. -/
theorem f70p (h : List (Nat × Nat × List AV)) (o : List (List AV)) (nx : Nat) (lv : Nat → Prop) (g : Nat) (c c0 : Int) (hc : AB.hget h 4 = some (g, [.int .i64 c0])) : DCall Tryd.prog 70 ⟨h, o, nx, lv⟩ [.ptr (.own 4 g) 0] (.panicking (one (wrong c))) (.panicking [{ v := wrong c, recovered := true }]) (fun m' => ∃ h', AB.hget h' 4 = some (g, [.int .i64 c]) ∧ m' = ⟨h', o, nx, lv⟩) := by
  refine DCall.of_body (Found.some (eWrong c) (wrong c) (wrong_rep c)) Tryd.func70 rfl Tryd.ntmps70 (congrArg Array.toList Tryd.results70) rfl rfl rfl rfl rfl rfl rfl (by decide) ?_
  simp only [go_sem, eWrong, hc]
  exact ⟨_, by simp only [go_sem], rfl⟩
end Go.Proofs.YtkfhieigdlfbeaaDoor
