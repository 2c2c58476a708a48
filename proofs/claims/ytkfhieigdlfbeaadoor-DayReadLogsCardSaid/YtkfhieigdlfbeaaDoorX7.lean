/- DayReadLogs: the law. -/
import Derived.Test.YtkfhieigdlfbeaaDoorX6
namespace Go.Proofs.YtkfhieigdlfbeaaDoor
open Go.AB
set_option linter.unusedSimpArgs false
set_option linter.unusedVariables false

deriving instance DecidableEq for Ent

set_option maxHeartbeats 4000000 in
set_option maxRecDepth 20000 in
theorem f16g (a b : List Ent) (ha : a.length ≤ 4000000) (hb : b.length ≤ 4000000) : PCall Tryd.prog 16 [.sl 5 (a.map dEnt) .no, .sl 5 (b.map dEnt) .no] (RV (.bool (decide (a = b)))) := by
  refine PCall.of_body Tryd.func16 rfl Tryd.ntmps16 (congrArg Array.toList Tryd.results16) ?_
  intro E
  by_cases hab : a.length = b.length
  rotate_left
  · have h1 : ((a.length : Int) = (b.length : Int)) = False := eq_false (by omega)
    have h2 : ¬ a = b := fun e => hab (by rw [e])
    simp only [go_sem, h1]
    simp [h2]
  have h1 : ((a.length : Int) = (b.length : Int)) = True := eq_true (by omega)
  simp only [go_sem, h1]
  refine AW_loopH [4, 5, 13, 14, 15, 16, 17, 18, 19, 20, 21, 22, 23, 24, 25]
    (fun (i : Nat) ρ m => ρ 13 = .int .i64 (i : Int) ∧ i ≤ a.length ∧ a.take i = b.take i ∧ ∃ h nx lv, m = ⟨h, [], nx, lv⟩) (fun i => a.length - i) 0 ?_ ?_
  · simp only [go_sem]
    first | exact ⟨Nat.zero_le _, _, _, _, rfl⟩ | exact ⟨Nat.zero_le _, rfl, _, _, _, rfl⟩
  rintro i ρ m ⟨e13, g1, g2, h, nx, lv, rfl⟩ Q hN hR hX
  by_cases hlt : i < a.length
  · obtain ⟨x, hx⟩ : ∃ x, a[i]? = some x := ⟨_, List.getElem?_eq_getElem hlt⟩
    obtain ⟨y, hy⟩ : ∃ y, b[i]? = some y := ⟨_, List.getElem?_eq_getElem (by omega)⟩
    have hxp : (a.map dEnt)[i]? = some (dEnt x) := by rw [List.getElem?_map, hx]; rfl
    have hyp : (b.map dEnt)[i]? = some (dEnt y) := by rw [List.getElem?_map, hy]; rfl
    have hlt' : ((i : Int) < (a.length : Int)) = True := by simp; omega
    have hlt2 : ((i : Int) < (b.length : Int)) = True := by simp; omega
    have h0 : ((0 : Int) ≤ (i : Int)) = True := by simp
    have ew : IntKind.i64.wrap ((i : Int) + 1) = (i : Int) + 1 := i64_in (by omega) (by omega)
    have t1 : a.take (i + 1) = a.take i ++ [x] := by rw [List.take_add_one, hx]; rfl
    have t2 : b.take (i + 1) = b.take i ++ [y] := by rw [List.take_add_one, hy]; rfl
    simp only [go_sem, e13, hlt', h0, hxp, hx, Option.map_some, dEnt]
    refine drawn (by kernel_rfl) (by kernel_rfl) ?_
    simp only [go_sem, e13, hlt', hlt2, h0, hxp, hx, hyp, hy, Option.map_some, kDraw_eq, dEnt]
    intro nx2 lv2 _ _
    refine ⟨fun hq => ?_, fun hq => ?_⟩
    · have hne : ¬ x = y := by
        rintro rfl
        simp at hq
      have : ¬ a = b := by
        rintro rfl
        rw [hx] at hy
        cases hy
        exact hne rfl
      rw [hR]
      simp only [go_sem]
      simp [this]
    · have he : x = y := by
        obtain ⟨a0, a1, a2, a3, a4⟩ := x
        obtain ⟨b0, b1, b2, b3, b4⟩ := y
        simpa using hq
      rw [hN]
      simp only [go_sem, ew]
      refine ⟨by kernel_rfl, i + 1, ?_, by simp only; omega⟩
      simp only [go_sem]
      exact ⟨by simp, by omega, by rw [t1, t2, g2, he], _, _, _, rfl⟩
  · have hlt' : ((i : Int) < (a.length : Int)) = False := by simp; omega
    rw [List.take_of_length_le (by omega), List.take_of_length_le (by omega)] at g2
    simp only [go_sem, e13, hlt', hX]
    simp [g2]

theorem readL_len {t : List UInt8} : (readL t).1.length ≤ 2000001 := by
  unfold readL
  split
  · simp
  rename_i h
  split
  · simp
  rename_i h2
  split
  · simp
  split
  · simp
  · have hE : entsB (linesF t) = true := by
      have : okRows t = true := by simpa using h2
      simp only [okRows, Bool.and_eq_true] at this
      exact this.2
    have := entsF_take (linesF t) (linesF t).length (by rw [List.take_length]; exact hE)
    rw [List.take_length] at this
    have h3 := (linesF_by (t := t) (by omega)).1
    simp only
    omega

set_option maxHeartbeats 2000000 in
set_option maxRecDepth 20000 in
theorem f5 (t : List UInt8) (ht : t.length ≤ 140737488351232) : PCall Tryd.prog 5 [.str t] (RV (.bool true)) := by
  refine PCall.of_body Tryd.func5 rfl Tryd.ntmps5 (congrArg Array.toList Tryd.results5) ?_
  intro E
  have hlen := readL_len (t := t)
  simp only [go_sem]
  refine callV (f14 t ht) ?_
  intro nx lv
  simp only [go_sem, readLV]
  refine callV (f15 t ht) ?_
  intro nx lv
  simp only [go_sem, readLV]
  refine callV (f17 _ (by omega)) ?_
  intro nx lv
  simp only [go_sem]
  refine callV (f16g _ _ (by omega) (by omega)) ?_
  intro nx lv
  simp only [go_sem]
  try simp

theorem law5 (xs : List DV) (h : ElDs Tryd.prog [9] xs) : PCall Tryd.prog 5 (xs.map toAV) (RV (.bool true)) := by
  obtain ⟨x, xs, rfl, hx, h⟩ := h.cons_inv
  cases h.nil_inv
  obtain ⟨s, rfl, hs⟩ := hx.str_inv Tryd.underlying9
  simp only [List.map_cons, List.map_nil, toAV]
  exact f5 s hs
end Go.Proofs.YtkfhieigdlfbeaaDoor
