/- RunReads: equal lists of stocks, and the law. -/
import Derived.Test.YtkfhieigdlfbeaaDoorU4
namespace Go.Proofs.YtkfhieigdlfbeaaDoor
set_option linter.unusedSimpArgs false
set_option linter.unusedVariables false
open Go.AB

noncomputable instance : DecidableEq Stock := fun a b => Classical.propDecidable (a = b)

set_option maxHeartbeats 4000000 in
set_option maxRecDepth 20000 in
theorem f13g (a b : List Stock) (ha : a.length ≤ 1000000) (hb : b.length ≤ 1000000) : PCall Tryd.prog 13 [.sl 10 (a.map dStock) .no, .sl 10 (b.map dStock) .no] (RV (.bool (decide (a = b)))) := by
  refine PCall.of_body Tryd.func13 rfl Tryd.ntmps13 (congrArg Array.toList Tryd.results13) ?_
  intro E
  by_cases hab : a.length = b.length
  rotate_left
  · have h1 : ((a.length : Int) = (b.length : Int)) = False := eq_false (by omega)
    have h2 : ¬ a = b := fun e => hab (by rw [e])
    simp only [go_sem, h1]
    simp [h2]
  have h1 : ((a.length : Int) = (b.length : Int)) = True := eq_true (by omega)
  simp only [go_sem, h1]
  refine AW_loopH [4, 5, 13, 14, 15, 16, 17, 18, 19, 20, 21, 22, 23, 24, 25]
    (fun (i : Nat) ρ m => ρ 13 = .int .i64 (i : Int) ∧ i ≤ a.length ∧ a.take i = b.take i ∧ ∃ h nx lv, m = ⟨h, [], nx, lv⟩) (fun i => a.length - i) 0 ?_ ?_
  · simp only [go_sem]
    first | exact ⟨Nat.zero_le _, _, _, _, rfl⟩ | exact ⟨Nat.zero_le _, rfl, _, _, _, rfl⟩
  rintro i ρ m ⟨e13, g1, g2, h, nx, lv, rfl⟩ Q hN hR hX
  by_cases hlt : i < a.length
  · obtain ⟨x, hx⟩ : ∃ x, a[i]? = some x := ⟨_, List.getElem?_eq_getElem hlt⟩
    obtain ⟨y, hy⟩ : ∃ y, b[i]? = some y := ⟨_, List.getElem?_eq_getElem (by omega)⟩
    have hxp : (a.map dStock)[i]? = some (dStock x) := by rw [List.getElem?_map, hx]; rfl
    have hyp : (b.map dStock)[i]? = some (dStock y) := by rw [List.getElem?_map, hy]; rfl
    have hlt' : ((i : Int) < (a.length : Int)) = True := by simp; omega
    have hlt2 : ((i : Int) < (b.length : Int)) = True := by simp; omega
    have h0 : ((0 : Int) ≤ (i : Int)) = True := by simp
    have ew : IntKind.i64.wrap ((i : Int) + 1) = (i : Int) + 1 := i64_in (by omega) (by omega)
    have t1 : a.take (i + 1) = a.take i ++ [x] := by rw [List.take_add_one, hx]; rfl
    have t2 : b.take (i + 1) = b.take i ++ [y] := by rw [List.take_add_one, hy]; rfl
    simp only [go_sem, e13, hlt', h0, hxp, hx, Option.map_some, dStock]
    refine drawn (by kernel_rfl) (by kernel_rfl) ?_
    simp only [go_sem, e13, hlt', hlt2, h0, hxp, hx, hyp, hy, Option.map_some, kDraw_eq, dStock]
    intro nx2 lv2 _ _
    refine ⟨fun hq => ?_, fun hq => ?_⟩
    · have hne : ¬ x = y := by
        rintro rfl
        simp at hq
      have : ¬ a = b := by
        rintro rfl
        rw [hx] at hy
        cases hy
        exact hne rfl
      rw [hR]
      simp only [go_sem]
      simp [this]
    · have he : x = y := by
        obtain ⟨a0, a1, a2, a3, a4, a5, a6, a7, a8, a9⟩ := x
        obtain ⟨b0, b1, b2, b3, b4, b5, b6, b7, b8, b9⟩ := y
        simpa using hq
      rw [hN]
      simp only [go_sem, ew]
      refine ⟨by kernel_rfl, i + 1, ?_, by simp only; omega⟩
      simp only [go_sem]
      exact ⟨by simp, by omega, by rw [t1, t2, g2, he], _, _, _, rfl⟩
  · have hlt' : ((i : Int) < (a.length : Int)) = False := by simp; omega
    rw [List.take_of_length_le (by omega), List.take_of_length_le (by omega)] at g2
    simp only [go_sem, e13, hlt', hX]
    simp [g2]

theorem readS_len (t : List UInt8) : (readS t).1.length ≤ 8 := by
  unfold readS
  split
  · simp
  · split
    · split
      · simp
      · rename_i l _
        split
        · rename_i h0
          exact (errS_ok h0).1
        · simp
    · simp

set_option maxHeartbeats 1000000 in
set_option maxRecDepth 20000 in
theorem f4 (t : List UInt8) (ht : t.length ≤ 140737488351232) : PCall Tryd.prog 4 [.str t] (RV (.bool true)) := by
  refine PCall.of_body Tryd.func4 rfl Tryd.ntmps4 (congrArg Array.toList Tryd.results4) ?_
  intro E
  have h11 := f11 t ht
  have h12 := f12 t ht
  have hl := readS_len t
  unfold readSV at h11 h12
  generalize (readS t).1 = l at *
  generalize (readS t).2 = e at *
  simp only [go_sem]
  refine callV h11 ?_
  intro nx lv
  simp only [go_sem]
  refine callV h12 ?_
  intro nx2 lv2
  simp only [go_sem]
  refine callV (f13g l l (by omega) (by omega)) ?_
  intro nx3 lv3
  simp only [go_sem]
  try simp

theorem law4 (xs : List DV) (h : ElDs Tryd.prog [9] xs) : PCall Tryd.prog 4 (xs.map toAV) (RV (.bool true)) := by
  obtain ⟨x, xs, rfl, hx, h⟩ := h.cons_inv
  cases h.nil_inv
  obtain ⟨s, rfl, hs⟩ := hx.str_inv Tryd.underlying9
  simp only [List.map_cons, List.map_nil, toAV]
  exact f4 s hs
end Go.Proofs.YtkfhieigdlfbeaaDoor
