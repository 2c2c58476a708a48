/- The law LineChecks over its contracts, for all nets. -/
import Derived.Test.YtkfhieigdlfbeaaDoorL120
namespace Go.Proofs.YtkfhieigdlfbeaaDoor
set_option linter.unusedSimpArgs false
set_option linter.unusedVariables false
open Go.AB

theorem eNet_eq (n : Net) : toAV (.agg [.sl 1 (n.names.map DV.str), .sl 7 (n.sects.map dSect), .sl 4 (n.links.map dLnk), .sl 2 (n.sigs.map dPair), .sl 2 (n.gates.map dPair)]) = eNet n := rfl
theorem openSect {x : DV} (h : ElD Tryd.prog 96 x) : ∃ s : Sect, x = dSect s := by
  obtain ⟨cs, rfl, k⟩ := h.agg_inv Tryd.underlying96 rfl
  obtain ⟨c1, r, rfl, h1, k⟩ := k.cons_inv
  obtain ⟨c2, r, rfl, h2, k⟩ := k.cons_inv
  obtain ⟨c3, r, rfl, h3, k⟩ := k.cons_inv
  obtain ⟨c4, r, rfl, h4, k⟩ := k.cons_inv
  obtain ⟨c5, r, rfl, h5, k⟩ := k.cons_inv
  obtain ⟨c6, r, rfl, h6, k⟩ := k.cons_inv
  obtain ⟨c7, r, rfl, h7, k⟩ := k.cons_inv
  obtain rfl := k.nil_inv
  obtain ⟨v1, rfl, _⟩ := h1.int_inv Tryd.underlying3
  obtain ⟨v2, rfl, _⟩ := h2.int_inv Tryd.underlying3
  obtain ⟨v3, rfl, _⟩ := h3.int_inv Tryd.underlying3
  obtain ⟨v4, rfl, _⟩ := h4.int_inv Tryd.underlying3
  obtain ⟨v5, rfl, _⟩ := h5.int_inv Tryd.underlying3
  obtain ⟨v6, rfl, _⟩ := h6.int_inv Tryd.underlying3
  obtain ⟨b, rfl⟩ := h7.bool_inv Tryd.underlying4
  exact ⟨⟨v1, v2, v3, v4, v5, v6, b⟩, rfl⟩
theorem openNet {x : DV} (h : ElD Tryd.prog 54 x) : ∃ n : Net, toAV x = eNet n ∧ NetB n := by
  obtain ⟨cs, rfl, k⟩ := h.agg_inv Tryd.underlying54 rfl
  obtain ⟨c1, r, rfl, h1, k⟩ := k.cons_inv
  obtain ⟨c2, r, rfl, h2, k⟩ := k.cons_inv
  obtain ⟨c3, r, rfl, h3, k⟩ := k.cons_inv
  obtain ⟨c4, r, rfl, h4, k⟩ := k.cons_inv
  obtain ⟨c5, r, rfl, h5, k⟩ := k.cons_inv
  obtain rfl := k.nil_inv
  obtain ⟨l1, rfl, b1, e1⟩ := h1.sl_inv Tryd.underlying48 (z := 1) (y := 16) (by kernel_rfl) (by kernel_rfl)
  obtain ⟨l2, rfl, b2, e2⟩ := h2.sl_inv Tryd.underlying49 (z := 7) (y := 56) (by kernel_rfl) (by kernel_rfl)
  obtain ⟨l3, rfl, b3, e3⟩ := h3.sl_inv Tryd.underlying50 (z := 4) (y := 32) (by kernel_rfl) (by kernel_rfl)
  obtain ⟨l4, rfl, b4, e4⟩ := h4.sl_inv Tryd.underlying51 (z := 2) (y := 16) (by kernel_rfl) (by kernel_rfl)
  obtain ⟨l5, rfl, b5, e5⟩ := h5.sl_inv Tryd.underlying52 (z := 2) (y := 16) (by kernel_rfl) (by kernel_rfl)
  obtain ⟨m1, rfl, p1⟩ := map_of_each (f := DV.str) (p := fun s => s.length ≤ 140737488351232) l1 (fun y hy => (e1 y hy).str_inv Tryd.underlying9)
  obtain ⟨m2, rfl, _⟩ := map_of_each (f := dSect) (p := fun _ => True) l2 (fun y hy => by
    obtain ⟨a, ha⟩ := openSect (e2 y hy)
    exact ⟨a, ha, trivial⟩)
  obtain ⟨m3, rfl, _⟩ := map_of_each (f := dLnk) (p := fun _ => True) l3 (fun y hy => by
    obtain ⟨ns, q1, rfl, _⟩ := (e3 y hy).ints 4 (n := 4) (by kernel_rfl) (by kernel_rfl)
    match ns, q1 with
    | [a, b, c, d], _ => exact ⟨⟨a, b, c, d⟩, rfl, trivial⟩)
  obtain ⟨m4, rfl, _⟩ := map_of_each (f := dPair) (p := fun _ => True) l4 (fun y hy => by
    obtain ⟨ns, q1, rfl, _⟩ := (e4 y hy).ints 4 (n := 2) (by kernel_rfl) (by kernel_rfl)
    match ns, q1 with
    | [a, b], _ => exact ⟨⟨a, b⟩, rfl, trivial⟩)
  obtain ⟨m5, rfl, _⟩ := map_of_each (f := dPair) (p := fun _ => True) l5 (fun y hy => by
    obtain ⟨ns, q1, rfl, _⟩ := (e5 y hy).ints 4 (n := 2) (by kernel_rfl) (by kernel_rfl)
    match ns, q1 with
    | [a, b], _ => exact ⟨⟨a, b⟩, rfl, trivial⟩)
  simp only [List.length_map] at b1 b2 b3 b4 b5
  exact ⟨⟨m1, m2, m3, m4, m5⟩, rfl, ⟨by simp only; omega, by simp only; omega, by simp only; omega, by simp only; omega, by simp only; omega, p1⟩⟩

end Go.Proofs.YtkfhieigdlfbeaaDoor
