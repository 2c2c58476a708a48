/- Equal lists of numbers and of needs. -/
import Derived.Test.YteadhjclchjfjaaL32
namespace Go.Proofs.Yteadhjclchjfjaa
set_option linter.unusedSimpArgs false
set_option linter.unusedVariables false
open Go.AB

set_option maxHeartbeats 4000000 in
set_option maxRecDepth 20000 in
theorem f69g (a b : List Int) (ha : a.length ≤ 140737488351232) (hb : b.length ≤ 140737488351232) : PCall Try.prog 69 [.sl 1 (a.map fun x => DV.int .i64 x) .no, .sl 1 (b.map fun x => DV.int .i64 x) .no] (RV (.bool (decide (a = b)))) := by
  refine PCall.of_body Try.func69 rfl Try.ntmps69 (congrArg Array.toList Try.results69) ?_
  intro E
  by_cases hab : a.length = b.length
  rotate_left
  · have h1 : ((a.length : Int) = (b.length : Int)) = False := eq_false (by omega)
    have h2 : ¬ a = b := fun e => hab (by rw [e])
    simp only [go_sem, h1]
    simp [h2]
  have h1 : ((a.length : Int) = (b.length : Int)) = True := eq_true (by omega)
  simp only [go_sem, h1]
  refine AW_loopH [4, 5, 13, 14, 15, 16, 17, 18, 19, 20, 21, 22, 23, 24, 25]
    (fun (i : Nat) ρ m => ρ 13 = .int .i64 (i : Int) ∧ i ≤ a.length ∧ a.take i = b.take i ∧ ∃ h nx lv, m = ⟨h, [], nx, lv⟩) (fun i => a.length - i) 0 ?_ ?_
  · simp only [go_sem]
    first | exact ⟨Nat.zero_le _, _, _, _, rfl⟩ | exact ⟨Nat.zero_le _, rfl, _, _, _, rfl⟩
  rintro i ρ m ⟨e13, g1, g2, h, nx, lv, rfl⟩ Q hN hR hX
  by_cases hlt : i < a.length
  · obtain ⟨x, hx⟩ : ∃ x, a[i]? = some x := ⟨_, List.getElem?_eq_getElem hlt⟩
    obtain ⟨y, hy⟩ : ∃ y, b[i]? = some y := ⟨_, List.getElem?_eq_getElem (by omega)⟩
    have hxp : (a.map fun x => DV.int .i64 x)[i]? = some (.int .i64 x) := by rw [List.getElem?_map, hx]; rfl
    have hyp : (b.map fun x => DV.int .i64 x)[i]? = some (.int .i64 y) := by rw [List.getElem?_map, hy]; rfl
    have hlt' : ((i : Int) < (a.length : Int)) = True := by simp; omega
    have hlt2 : ((i : Int) < (b.length : Int)) = True := by simp; omega
    have h0 : ((0 : Int) ≤ (i : Int)) = True := by simp
    have ew : IntKind.i64.wrap ((i : Int) + 1) = (i : Int) + 1 := i64_in (by omega) (by omega)
    have t1 : a.take (i + 1) = a.take i ++ [x] := by rw [List.take_add_one, hx]; rfl
    have t2 : b.take (i + 1) = b.take i ++ [y] := by rw [List.take_add_one, hy]; rfl
    simp only [go_sem, e13, hlt', h0, hxp, hx, Option.map_some]
    refine drawn (by kernel_rfl) (by kernel_rfl) ?_
    simp only [go_sem, e13, hlt', hlt2, h0, hxp, hx, hyp, hy, Option.map_some, kDraw_eq]
    intro nx2 lv2 _ _
    refine ⟨fun hq => ?_, fun hq => ?_⟩
    · have hne : ¬ x = y := by simpa using hq
      have : ¬ a = b := by
        rintro rfl
        rw [hx] at hy
        cases hy
        exact hne rfl
      rw [hR]
      simp only [go_sem]
      simp [this]
    · have he : x = y := by simpa using hq
      rw [hN]
      simp only [go_sem, ew]
      refine ⟨by kernel_rfl, i + 1, ?_, by simp only; omega⟩
      simp only [go_sem]
      exact ⟨by simp, by omega, by rw [t1, t2, g2, he], _, _, _, rfl⟩
  · have hlt' : ((i : Int) < (a.length : Int)) = False := by simp; omega
    rw [List.take_of_length_le (by omega), List.take_of_length_le (by omega)] at g2
    simp only [go_sem, e13, hlt', hX]
    simp [g2]

set_option maxHeartbeats 4000000 in
set_option maxRecDepth 20000 in
theorem f44g (a b : List Nd) (ha : a.length ≤ 140737488351232) (hb : b.length ≤ 140737488351232) : PCall Try.prog 44 [.sl 4 (a.map dNd) .no, .sl 4 (b.map dNd) .no] (RV (.bool (decide (a = b)))) := by
  refine PCall.of_body Try.func44 rfl Try.ntmps44 (congrArg Array.toList Try.results44) ?_
  intro E
  by_cases hab : a.length = b.length
  rotate_left
  · have h1 : ((a.length : Int) = (b.length : Int)) = False := eq_false (by omega)
    have h2 : ¬ a = b := fun e => hab (by rw [e])
    simp only [go_sem, h1]
    simp [h2]
  have h1 : ((a.length : Int) = (b.length : Int)) = True := eq_true (by omega)
  simp only [go_sem, h1]
  refine AW_loopH [4, 5, 13, 14, 15, 16, 17, 18, 19, 20, 21, 22, 23, 24, 25]
    (fun (i : Nat) ρ m => ρ 13 = .int .i64 (i : Int) ∧ i ≤ a.length ∧ a.take i = b.take i ∧ ∃ h nx lv, m = ⟨h, [], nx, lv⟩) (fun i => a.length - i) 0 ?_ ?_
  · simp only [go_sem]
    first | exact ⟨Nat.zero_le _, _, _, _, rfl⟩ | exact ⟨Nat.zero_le _, rfl, _, _, _, rfl⟩
  rintro i ρ m ⟨e13, g1, g2, h, nx, lv, rfl⟩ Q hN hR hX
  by_cases hlt : i < a.length
  · obtain ⟨x, hx⟩ : ∃ x, a[i]? = some x := ⟨_, List.getElem?_eq_getElem hlt⟩
    obtain ⟨y, hy⟩ : ∃ y, b[i]? = some y := ⟨_, List.getElem?_eq_getElem (by omega)⟩
    have hxp : (a.map dNd)[i]? = some (dNd x) := by rw [List.getElem?_map, hx]; rfl
    have hyp : (b.map dNd)[i]? = some (dNd y) := by rw [List.getElem?_map, hy]; rfl
    have hlt' : ((i : Int) < (a.length : Int)) = True := by simp; omega
    have hlt2 : ((i : Int) < (b.length : Int)) = True := by simp; omega
    have h0 : ((0 : Int) ≤ (i : Int)) = True := by simp
    have ew : IntKind.i64.wrap ((i : Int) + 1) = (i : Int) + 1 := i64_in (by omega) (by omega)
    have t1 : a.take (i + 1) = a.take i ++ [x] := by rw [List.take_add_one, hx]; rfl
    have t2 : b.take (i + 1) = b.take i ++ [y] := by rw [List.take_add_one, hy]; rfl
    simp only [go_sem, e13, hlt', h0, hxp, hx, Option.map_some, dNd]
    refine drawn (by kernel_rfl) (by kernel_rfl) ?_
    simp only [go_sem, e13, hlt', hlt2, h0, hxp, hx, hyp, hy, Option.map_some, kDraw_eq, dNd]
    intro nx2 lv2 _ _
    refine ⟨fun hq => ?_, fun hq => ?_⟩
    · have hne : ¬ x = y := by
        rintro rfl
        simp at hq
      have : ¬ a = b := by
        rintro rfl
        rw [hx] at hy
        cases hy
        exact hne rfl
      rw [hR]
      simp only [go_sem]
      simp [this]
    · have he : x = y := by
        obtain ⟨a1, a2, a3, a4⟩ := x
        obtain ⟨b1, b2, b3, b4⟩ := y
        simpa using hq
      rw [hN]
      simp only [go_sem, ew]
      refine ⟨by kernel_rfl, i + 1, ?_, by simp only; omega⟩
      simp only [go_sem]
      exact ⟨by simp, by omega, by rw [t1, t2, g2, he], _, _, _, rfl⟩
  · have hlt' : ((i : Int) < (a.length : Int)) = False := by simp; omega
    rw [List.take_of_length_le (by omega), List.take_of_length_le (by omega)] at g2
    simp only [go_sem, e13, hlt', hX]
    simp [g2]
end Go.Proofs.Yteadhjclchjfjaa
