/- Runs of legs: the seconds in which a train asks. -/
import Derived.Test.YteadhjclchjfjaaGreatRG1
import Derived.Test.YteadhjclchjfjaaGreatL290
namespace Go.Proofs.YteadhjclchjfjaaGreat
set_option linter.unusedSimpArgs false
set_option linter.unusedVariables false
open Go.AB

/-- A run's train, its ways and its asking. -/
structure Leg where
  len : Int
  path : List Stp
  ends : List Int
  bounds : List Int
  needs : List (List Nd)
  asks : List Int
  sts : List Sta
def lI (l : List Int) : List DV := l.map fun x => DV.int .i64 x
def eLeg (r : Leg) : AV := .agg [.int .i64 r.len, .sl 3 (r.path.map dStp) .no, .sl 1 (lI r.ends) .no, .sl 1 (lI r.bounds) .no, .sl 1 (r.needs.map dNds) .no, .sl 1 (lI r.asks) .no, .sl 3 (r.sts.map dSta) .no]

theorem f62 (x : Sta) (b far : Int) (h1 : -1000000000 ≤ b) (h2 : b ≤ 1000000000) (h3 : -1000000000 ≤ x.pos) (h4 : x.pos ≤ 1000000000) : PCall Tryz.prog 62 [eSta x, .ept [.int .i64 b], .ept [.int .i64 far]] (RV (.bool (decide (b - x.pos ≤ far)))) := by
  refine PCall.of_body Tryz.func62 rfl Tryz.ntmps62 (congrArg Array.toList Tryz.results62) ?_
  intro E
  have e1 : IntKind.i64.wrap (b - x.pos) = b - x.pos := i64_in (by omega) (by omega)
  simp only [go_sem, eSta, e1]

/-- The second in which a route is asked for. -/
def askF (r : Leg) (j : Nat) (fr far : Int) : Int :=
  if j = 0 then -15
  else if r.ends.getD ((r.bounds.getD j 0).toNat - 1) 0 - fr ≤ far then -15
  else idxS (fun x => decide (r.ends.getD ((r.bounds.getD j 0).toNat - 1) 0 - x.pos ≤ far)) r.sts 0

set_option maxHeartbeats 4000000 in
set_option maxRecDepth 20000 in
theorem f24 (r : Leg) (j : Nat) (fr far : Int) (hj : j < r.bounds.length) (hb0 : 1 ≤ r.bounds.getD j 0) (hb1 : r.bounds.getD j 0 ≤ r.ends.length) (hbl : r.bounds.length ≤ 100) (hel : r.ends.length ≤ 100)
    (hen : ∀ e ∈ r.ends, 0 ≤ e ∧ e ≤ 1000000000) (hfr : 0 ≤ fr ∧ fr ≤ 1000000000) (hsl : r.sts.length ≤ 100000) (hst : ∀ x ∈ r.sts, 0 ≤ x.pos ∧ x.pos ≤ 1000000000) :
    PCall Tryz.prog 24 [eLeg r, .int .i64 j, .int .i64 fr, .int .i64 far] (RV (.int .i64 (askF r j fr far))) := by
  refine PCall.of_body Tryz.func24 rfl Tryz.ntmps24 (congrArg Array.toList Tryz.results24) ?_
  intro E
  obtain ⟨b, hb⟩ : ∃ b, r.bounds[j]? = some b := ⟨_, List.getElem?_eq_getElem hj⟩
  have hgb : r.bounds.getD j 0 = b := by rw [List.getD_eq_getElem?_getD, hb]; rfl
  rw [hgb] at hb0 hb1
  obtain ⟨e, he⟩ : ∃ e, r.ends[b.toNat - 1]? = some e := ⟨_, List.getElem?_eq_getElem (by omega)⟩
  have hge : r.ends.getD (b.toNat - 1) 0 = e := by rw [List.getD_eq_getElem?_getD, he]; rfl
  have hee := hen e (List.mem_of_getElem? he)
  generalize hF : askF r j fr far = F
  unfold askF at hF
  rw [hgb, hge] at hF
  simp only [go_sem, eLeg]
  by_cases q0 : j = 0
  · subst q0
    rw [if_pos rfl] at hF
    subst hF
    simp only [go_sem]
    try simp
  have q0' : ((j : Int) = 0) = False := eq_false (by omega)
  rw [if_neg q0] at hF
  have hbp : (lI r.bounds)[j]? = some (.int .i64 b) := by unfold lI; rw [List.getElem?_map, hb]; rfl
  have hep : (lI r.ends)[b.toNat - 1]? = some (.int .i64 e) := by unfold lI; rw [List.getElem?_map, he]; rfl
  have hll1 : (lI r.bounds).length = r.bounds.length := by simp [lI]
  have hll2 : (lI r.ends).length = r.ends.length := by simp [lI]
  have i0 : ((0 : Int) ≤ (j : Int)) = True := by simp
  have i1 : ((j : Int) < (r.bounds.length : Int)) = True := by simp; omega
  have ew : IntKind.i64.wrap (b - 1) = b - 1 := i64_in (by omega) (by omega)
  have ew2 : IntKind.i64.wrap (e - fr) = e - fr := i64_in (by omega) (by omega)
  have k0 : ((0 : Int) ≤ b - 1) = True := eq_true (by omega)
  have k1 : (b - 1 < (r.ends.length : Int)) = True := eq_true (by omega)
  have k2 : (b - 1).toNat = b.toNat - 1 := by omega
  simp only [go_sem, q0']
  refine drawnP [2, 2, 2, 2, 2, 2, 2, 2, 2, 2, 3, 1] [(10, [2, 2, 2, 2, 2, 2, 2, 2, 2, 2, 0, 3]), (11, [0, 0, 0, 0, 0, 0, 0, 0, 0, 0, 0, 0])] 31 (by kernel_rfl) (by kernel_rfl) (by kernel_rfl) (by kernel_rfl) rfl ?_
  have hb62 : bodyOk Tryz.prog 62 = true := bodyOk_62
  by_cases q1 : e - fr ≤ far
  · have q1' : (e - fr ≤ far) = True := eq_true q1
    rw [if_pos q1] at hF
    subst hF
    simp only [go_sem, hll1, hll2, i0, i1, hb, hbp, Option.map_some, ew, ew2, k0, k1, k2, he, hep, q1']
    try exact fun _ _ _ _ _ _ _ _ _ => rfl
  · have q1' : (e - fr ≤ far) = False := eq_false q1
    rw [if_neg q1] at hF
    simp only [go_sem, hll1, hll2, i0, i1, hb, hbp, Option.map_some, ew, ew2, k0, k1, k2, he, hep, q1']
    intro nx lv _ nx1 lv1 _ _ nx2 lv2 _ _
    refine .inl (quiet (f61 r.sts hsl 62 _ _ (fun x => decide (e - x.pos ≤ far)) hb62 fun x hx => f62 x e far (by omega) (by omega) (by have := hst x hx; omega) (by have := hst x hx; omega)) rfl ?_)
    simp only [go_sem]
    exact hF
end Go.Proofs.YteadhjclchjfjaaGreat
