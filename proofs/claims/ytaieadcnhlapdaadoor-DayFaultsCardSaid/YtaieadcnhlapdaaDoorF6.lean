/- DayFaults: the law, for all nets, numbers and faults. -/
import Derived.Test.YtaieadcnhlapdaaDoorF5
import Derived.Test.YtaieadcnhlapdaaDoorF4
namespace Go.Proofs.YtaieadcnhlapdaaDoor
set_option linter.unusedSimpArgs false
set_option linter.unusedVariables false
open Go.AB

theorem errF_ok {n : Net} {sets : Int} {l : List Flt} (hr : ∀ f ∈ l, big [f.who, f.fr, f.upto, f.much]) (h : errF n sets l = 0) : l.length ≤ 20 ∧ ∀ f ∈ l, OkF n f := by
  unfold errF at h
  split at h
  rotate_left
  · exact absurd h (by assumption)
  unfold errG at h
  split at h
  rotate_left
  · cases h
  split at h
  rotate_left
  · cases h
  rename_i h8
  refine ⟨h8, fun f hf => ?_⟩
  obtain ⟨i, hi⟩ := List.getElem?_of_mem hf
  have hlt := (List.getElem?_eq_some_iff.1 hi).1
  have h0 := firstE_zero h (Nat.zero_le i) (by omega)
  simp only [atF, hi, fltE] at h0
  split at h0
  · rename_i hw; exact ⟨within_iff.1 hw, hr f hf⟩
  · cases h0

set_option maxRecDepth 20000 in
theorem f6 (n : Net) (hb : NetB n) (sets : Int) (l : List Flt) (hl : l.length * 40 ≤ 140737488351232) : PCall Tryd.prog 6 [eNet n, .int .i64 sets, .sl 5 (l.map dFlt) .no] (RV (.int .i64 (errF n sets l))) := by
  refine PCall.of_body Tryd.func6 rfl Tryd.ntmps6 (congrArg Array.toList Tryd.results6) ?_
  intro E
  simp only [go_sem, eNet, nCells]
  refine callV (f17 n hb) ?_
  intro nx lv
  by_cases h0 : netE n = 0
  rotate_left
  · have h0' : (netE n = 0) = False := by simp [h0]
    simp only [go_sem, h0']
    simp [errF, h0]
  have hE : errF n sets l = errG n sets l := by simp [errF, h0]
  have h18 := f18 n hb sets l (by omega)
  rw [← hE] at h18
  simp only [go_sem, h0]
  refine drawnT [2, 2, 2, 3, 1, 1] (.alt 3 [2, 2, 0, 0, 3, 1] (.alt 4 [0, 0, 0, 0, 0, 2] .fin .nil) .nil) 18 (by kernel_rfl) (by kernel_rfl) (by kernel_rfl) (by kernel_rfl) rfl ?_
  simp only [go_sem]
  intro nx1 lv1 _ _
  refine callV (f8 l hl) ?_
  intro nx2 lv2
  simp only [go_sem]
  intro nx3 lv3 _ _
  refine callV h18 ?_
  intro nx4 lv4
  simp only [go_sem]
  try trivial
  try (intro _ _ _ _; trivial)

set_option maxRecDepth 20000 in
theorem f3 (n : Net) (hb : NetB n) (sets : Int) (l : List Flt) (hl : l.length * 40 ≤ 140737488351232) (hr : ∀ f ∈ l, big [f.who, f.fr, f.upto, f.much]) : PCall Tryd.prog 3 [eNet n, .int .i64 sets, .sl 5 (l.map dFlt) .no] (RV (.bool true)) := by
  refine PCall.of_body Tryd.func3 rfl Tryd.ntmps3 (congrArg Array.toList Tryd.results3) ?_
  intro E
  simp only [go_sem, eNet, nCells]
  refine callV (f4 n hb sets l (by omega)) ?_
  intro nx1 lv1
  simp only [go_sem]
  refine callV (f5 n hb sets l (by omega) (errF_ok hr)) ?_
  intro nx2 lv2
  simp only [go_sem]
  refine callV (f6 n hb sets l hl) ?_
  intro nx3 lv3
  by_cases h : errF n sets l = 0
  · obtain ⟨h1, h2⟩ := errF_ok hr h
    simp only [go_sem, h]
    refine callV (f8 l hl) ?_
    intro nx4 lv4
    simp only [go_sem]
    refine callV (f7 n l h1 h2) ?_
    intro nx5 lv5
    simp only [go_sem]
  · have h' : (errF n sets l = 0) = False := by simp [h]
    simp only [go_sem, h']

theorem openFlt {x : DV} (h : ElD Tryd.prog 41 x) : ∃ f : Flt, x = dFlt f ∧ big [f.who, f.fr, f.upto, f.much] := by
  obtain ⟨ns, h1, rfl, h2⟩ := h.ints 4 (n := 5) (by kernel_rfl) (by kernel_rfl)
  match ns, h1 with
  | [a, b, c, d, e], _ =>
    refine ⟨⟨a, b, c, d, e⟩, rfl, fun x hx => ?_⟩
    have := h2 x (List.mem_cons_of_mem _ hx)
    exact this

theorem law3 (xs : List DV) (h : ElDs Tryd.prog [28, 3, 29] xs) : PCall Tryd.prog 3 (xs.map toAV) (RV (.bool true)) := by
  obtain ⟨x0, xs, rfl, hx0, h⟩ := h.cons_inv
  obtain ⟨x1, xs, rfl, hx1, h⟩ := h.cons_inv
  obtain ⟨x2, xs, rfl, hx2, h⟩ := h.cons_inv
  cases h.nil_inv
  obtain ⟨n, hn, hb⟩ := openNet hx0
  obtain ⟨sets, rfl, _⟩ := hx1.int_inv Tryd.underlying3
  obtain ⟨es, rfl, h1, h2⟩ := hx2.sl_inv Tryd.underlying29 (z := 5) (y := 40) (by kernel_rfl) (by kernel_rfl)
  obtain ⟨l, rfl, hl⟩ := map_of_each (f := dFlt) (p := fun f => big [f.who, f.fr, f.upto, f.much]) es (fun x hx => openFlt (h2 x hx))
  rw [List.length_map] at h1
  simp only [List.map_cons, List.map_nil, toAV, hn]
  exact f3 n hb sets l h1 hl
end Go.Proofs.YtaieadcnhlapdaaDoor
