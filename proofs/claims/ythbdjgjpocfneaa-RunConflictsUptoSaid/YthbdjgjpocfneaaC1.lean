/- Contracts of line.Meets and the reference's Meet; LineMeets' law over them. -/
import Derived.Test.YthbdjgjpocfneaaT
namespace Go.Proofs.Ythbdjgjpocfneaa
open Go.AB

structure Need where
  (kind place position spot : Int)
def eNeed (s : Need) : AV := .agg [.int .i64 s.kind, .int .i64 s.place, .int .i64 s.position, .int .i64 s.spot]
def body (x : Need) : Bool := decide (x.kind = 1) || decide (x.kind = 2)
def flank (x y : Need) : Bool := decide (x.kind = 3) && (decide (y.kind = 3) || body y) && !decide (x.position = y.position)
def guardN (x y : Need) : Bool := decide (x.kind = 4) && decide (y.kind = 5)
def meets (a b : Need) : Bool := decide (a.place = b.place) && (body a && body b || flank a b || flank b a || guardN a b || guardN b a)

theorem f61 (x : Need) : PCall Try.prog 61 [eNeed x] (RV (.bool (body x))) := by
  refine PCall.of_body Try.func61 rfl Try.ntmps61 (congrArg Array.toList Try.results61) ?_
  intro E
  simp only [go_sem, eNeed]
  unfold body
  simp +contextual
theorem f63 (x y : Need) : PCall Try.prog 63 [eNeed x, eNeed y] (RV (.bool (guardN x y))) := by
  refine PCall.of_body Try.func63 rfl Try.ntmps63 (congrArg Array.toList Try.results63) ?_
  intro E
  simp only [go_sem, eNeed]
  unfold guardN
  simp +contextual

theorem f62 (x y : Need) : PCall Try.prog 62 [eNeed x, eNeed y, .ept [.raw (.func (.func 61) #[] #[])]] (RV (.bool (flank x y))) := by
  refine PCall.of_body Try.func62 rfl Try.ntmps62 (congrArg Array.toList Try.results62) ?_
  intro E
  simp only [go_sem, eNeed]
  refine ⟨fun h3 => ⟨fun h3' => ?_, fun h3' => callV (f61 y) ?_⟩, fun h3 => ?_⟩
  · simp [flank, h3, h3']
  · intro nx lv
    simp only [go_sem]
    simp +contextual [flank, h3, h3']
  · simp [flank, h3]

set_option maxRecDepth 20000 in
theorem f17 (x y : Need) : PCall Try.prog 17 [eNeed x, eNeed y] (RV (.bool (meets x y))) := by
  refine PCall.of_body Try.func17 rfl Try.ntmps17 (congrArg Array.toList Try.results17) ?_
  intro E
  simp only [go_sem, eNeed]
  refine ⟨fun h0 => ?_, fun h0 => callV (f61 x) ?_⟩
  · simp [meets, h0]
  intro nx lv
  simp only [go_sem]
  repeat' first
    | refine ⟨fun _ => ?_, fun _ => ?_⟩
    | (refine callV (f61 y) ?_; intro nx2 lv2; simp only [go_sem])
    | (refine quiet (f62 x y) rfl ?_; simp only [go_sem])
    | (refine quiet (f62 y x) rfl ?_; simp only [go_sem])
    | (refine callV (f63 x y) ?_; intro nx2 lv2; simp only [go_sem])
    | (refine callV (f63 y x) ?_; intro nx2 lv2; simp only [go_sem])
  all_goals (unfold meets; simp only [*, decide_true, Bool.true_and, Bool.and_true, Bool.and_false, Bool.false_and, Bool.or_true, Bool.true_or, Bool.or_false, Bool.false_or])

theorem meets_comm (x y : Need) : meets y x = meets x y := by
  have h1 : decide (y.place = x.place) = decide (x.place = y.place) := by simp [eq_comm]
  unfold meets
  rw [h1, Bool.and_comm (body y) (body x), Bool.or_assoc, Bool.or_assoc, Bool.or_assoc, Bool.or_assoc, Bool.or_assoc, Bool.or_assoc]
  cases decide (x.place = y.place) <;> cases (body x && body y) <;> cases flank x y <;> cases flank y x <;> cases guardN x y <;> cases guardN y x <;> rfl


set_option maxRecDepth 20000 in
set_option maxHeartbeats 4000000 in
theorem f18 (x y : Need) : PCall Try.prog 18 [eNeed x, eNeed y] (RV (.bool (meets x y))) := by
  refine PCall.of_body Try.func18 rfl Try.ntmps18 (congrArg Array.toList Try.results18) ?_
  intro E
  simp (config := {maxSteps := 2000000}) only [go_sem, eNeed]
  unfold meets flank guardN body
  repeat' first
    | refine And.intro ?_ ?_
    | intro _
  all_goals grind

set_option maxRecDepth 20000 in
theorem f3 (x y : Need) : PCall Try.prog 3 [eNeed x, eNeed y] (RV (.bool true)) := by
  refine PCall.of_body Try.func3 rfl Try.ntmps3 (congrArg Array.toList Try.results3) ?_
  intro E
  simp only [go_sem, eNeed]
  refine drawn (by kernel_rfl) (by kernel_rfl) ?_
  simp only [go_sem]
  refine quietD (f17 x y) (fun _ => rfl) ?_
  simp only [go_sem]
  refine quietD (f18 x y) (fun _ => rfl) ?_
  simp only [go_sem]
  refine quietD (f17 y x) (fun _ => rfl) ?_
  simp only [go_sem]
  refine quietD (f18 x y) (fun _ => rfl) ?_
  simp only [go_sem]
  simp [meets_comm]

def dNeed (s : Need) : DV := .agg [.int .i64 s.kind, .int .i64 s.place, .int .i64 s.position, .int .i64 s.spot]
theorem eNeed_eq (s : Need) : toAV (dNeed s) = eNeed s := by simp only [dNeed, eNeed, toAV, toAVs]
theorem openNeed {x : DV} (h : ElD Try.prog 23 x) : ∃ a : Need, x = dNeed a := by
  obtain ⟨ns, h1, rfl, _⟩ := h.ints 4 (n := 4) (by kernel_rfl) (by kernel_rfl)
  match ns, h1 with
  | [a, b, c, d], _ => exact ⟨⟨a, b, c, d⟩, rfl⟩

theorem law3 (xs : List DV) (h : ElDs Try.prog [23, 23] xs) : PCall Try.prog 3 (xs.map toAV) (RV (.bool true)) := by
  obtain ⟨x, xs, rfl, hx, h⟩ := h.cons_inv
  obtain ⟨y, xs, rfl, hy, h⟩ := h.cons_inv
  cases h.nil_inv
  obtain ⟨a, rfl⟩ := openNeed hx
  obtain ⟨b, rfl⟩ := openNeed hy
  simp only [List.map_cons, List.map_nil, eNeed_eq]
  exact f3 a b
end Go.Proofs.Ythbdjgjpocfneaa
