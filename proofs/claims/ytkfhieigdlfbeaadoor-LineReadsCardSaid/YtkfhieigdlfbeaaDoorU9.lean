/- LineReads: equal nets, and the law. -/
import Derived.Test.YtkfhieigdlfbeaaDoorU8
namespace Go.Proofs.YtkfhieigdlfbeaaDoor
set_option linter.unusedSimpArgs false
set_option linter.unusedVariables false
open Go.AB

noncomputable instance : DecidableEq Sect := fun a b => Classical.propDecidable (a = b)
noncomputable instance : DecidableEq Lnk := fun a b => Classical.propDecidable (a = b)
noncomputable instance : DecidableEq Pair := fun a b => Classical.propDecidable (a = b)

set_option maxHeartbeats 4000000 in
set_option maxRecDepth 20000 in
theorem f45g (a b : List (List UInt8)) (ha : a.length ≤ 1000000) (hb : b.length ≤ 1000000) : PCall Tryd.prog 45 [.sl 1 (a.map DV.str) .no, .sl 1 (b.map DV.str) .no] (RV (.bool (decide (a = b)))) := by
  refine PCall.of_body Tryd.func45 rfl Tryd.ntmps45 (congrArg Array.toList Tryd.results45) ?_
  intro E
  by_cases hab : a.length = b.length
  rotate_left
  · have h1 : ((a.length : Int) = (b.length : Int)) = False := eq_false (by omega)
    have h2 : ¬ a = b := fun e => hab (by rw [e])
    simp only [go_sem, h1]
    simp [h2]
  have h1 : ((a.length : Int) = (b.length : Int)) = True := eq_true (by omega)
  simp only [go_sem, h1]
  refine AW_loopH [4, 5, 13, 14, 15, 16, 17, 18, 19, 20, 21, 22, 23, 24, 25]
    (fun (i : Nat) ρ m => ρ 13 = .int .i64 (i : Int) ∧ i ≤ a.length ∧ a.take i = b.take i ∧ ∃ h nx lv, m = ⟨h, [], nx, lv⟩) (fun i => a.length - i) 0 ?_ ?_
  · simp only [go_sem]
    first | exact ⟨Nat.zero_le _, _, _, _, rfl⟩ | exact ⟨Nat.zero_le _, rfl, _, _, _, rfl⟩
  rintro i ρ m ⟨e13, g1, g2, h, nx, lv, rfl⟩ Q hN hR hX
  by_cases hlt : i < a.length
  · obtain ⟨x, hx⟩ : ∃ x, a[i]? = some x := ⟨_, List.getElem?_eq_getElem hlt⟩
    obtain ⟨y, hy⟩ : ∃ y, b[i]? = some y := ⟨_, List.getElem?_eq_getElem (by omega)⟩
    have hxp : (a.map DV.str)[i]? = some (DV.str x) := by rw [List.getElem?_map, hx]; rfl
    have hyp : (b.map DV.str)[i]? = some (DV.str y) := by rw [List.getElem?_map, hy]; rfl
    have hlt' : ((i : Int) < (a.length : Int)) = True := by simp; omega
    have hlt2 : ((i : Int) < (b.length : Int)) = True := by simp; omega
    have h0 : ((0 : Int) ≤ (i : Int)) = True := by simp
    have ew : IntKind.i64.wrap ((i : Int) + 1) = (i : Int) + 1 := i64_in (by omega) (by omega)
    have t1 : a.take (i + 1) = a.take i ++ [x] := by rw [List.take_add_one, hx]; rfl
    have t2 : b.take (i + 1) = b.take i ++ [y] := by rw [List.take_add_one, hy]; rfl
    simp only [go_sem, e13, hlt', h0, hxp, hx, Option.map_some]
    refine drawn (by kernel_rfl) (by kernel_rfl) ?_
    simp only [go_sem, e13, hlt', hlt2, h0, hxp, hx, hyp, hy, Option.map_some, kDraw_eq]
    intro nx2 lv2 _ _
    refine ⟨fun hq => ?_, fun hq => ?_⟩
    · have hne : ¬ x = y := by
        rintro rfl
        simp at hq
      have : ¬ a = b := by
        rintro rfl
        rw [hx] at hy
        cases hy
        exact hne rfl
      rw [hR]
      simp only [go_sem]
      simp [this]
    · have he : x = y := by simpa using hq
      rw [hN]
      simp only [go_sem, ew]
      refine ⟨by kernel_rfl, i + 1, ?_, by simp only; omega⟩
      simp only [go_sem]
      exact ⟨by simp, by omega, by rw [t1, t2, g2, he], _, _, _, rfl⟩
  · have hlt' : ((i : Int) < (a.length : Int)) = False := by simp; omega
    rw [List.take_of_length_le (by omega), List.take_of_length_le (by omega)] at g2
    simp only [go_sem, e13, hlt', hX]
    simp [g2]

set_option maxHeartbeats 4000000 in
set_option maxRecDepth 20000 in
theorem f46g (a b : List Sect) (ha : a.length ≤ 1000000) (hb : b.length ≤ 1000000) : PCall Tryd.prog 46 [.sl 7 (a.map dSect) .no, .sl 7 (b.map dSect) .no] (RV (.bool (decide (a = b)))) := by
  refine PCall.of_body Tryd.func46 rfl Tryd.ntmps46 (congrArg Array.toList Tryd.results46) ?_
  intro E
  by_cases hab : a.length = b.length
  rotate_left
  · have h1 : ((a.length : Int) = (b.length : Int)) = False := eq_false (by omega)
    have h2 : ¬ a = b := fun e => hab (by rw [e])
    simp only [go_sem, h1]
    simp [h2]
  have h1 : ((a.length : Int) = (b.length : Int)) = True := eq_true (by omega)
  simp only [go_sem, h1]
  refine AW_loopH [4, 5, 13, 14, 15, 16, 17, 18, 19, 20, 21, 22, 23, 24, 25]
    (fun (i : Nat) ρ m => ρ 13 = .int .i64 (i : Int) ∧ i ≤ a.length ∧ a.take i = b.take i ∧ ∃ h nx lv, m = ⟨h, [], nx, lv⟩) (fun i => a.length - i) 0 ?_ ?_
  · simp only [go_sem]
    first | exact ⟨Nat.zero_le _, _, _, _, rfl⟩ | exact ⟨Nat.zero_le _, rfl, _, _, _, rfl⟩
  rintro i ρ m ⟨e13, g1, g2, h, nx, lv, rfl⟩ Q hN hR hX
  by_cases hlt : i < a.length
  · obtain ⟨x, hx⟩ : ∃ x, a[i]? = some x := ⟨_, List.getElem?_eq_getElem hlt⟩
    obtain ⟨y, hy⟩ : ∃ y, b[i]? = some y := ⟨_, List.getElem?_eq_getElem (by omega)⟩
    have hxp : (a.map dSect)[i]? = some (dSect x) := by rw [List.getElem?_map, hx]; rfl
    have hyp : (b.map dSect)[i]? = some (dSect y) := by rw [List.getElem?_map, hy]; rfl
    have hlt' : ((i : Int) < (a.length : Int)) = True := by simp; omega
    have hlt2 : ((i : Int) < (b.length : Int)) = True := by simp; omega
    have h0 : ((0 : Int) ≤ (i : Int)) = True := by simp
    have ew : IntKind.i64.wrap ((i : Int) + 1) = (i : Int) + 1 := i64_in (by omega) (by omega)
    have t1 : a.take (i + 1) = a.take i ++ [x] := by rw [List.take_add_one, hx]; rfl
    have t2 : b.take (i + 1) = b.take i ++ [y] := by rw [List.take_add_one, hy]; rfl
    simp only [go_sem, e13, hlt', h0, hxp, hx, Option.map_some, dSect]
    refine drawn (by kernel_rfl) (by kernel_rfl) ?_
    simp only [go_sem, e13, hlt', hlt2, h0, hxp, hx, hyp, hy, Option.map_some, kDraw_eq, dSect]
    intro nx2 lv2 _ _
    refine ⟨fun hq => ?_, fun hq => ?_⟩
    · have hne : ¬ x = y := by
        rintro rfl
        simp at hq
      have : ¬ a = b := by
        rintro rfl
        rw [hx] at hy
        cases hy
        exact hne rfl
      rw [hR]
      simp only [go_sem]
      simp [this]
    · have he : x = y := by
        obtain ⟨a0, a1, a2, a3, a4, a5, a6⟩ := x
        obtain ⟨b0, b1, b2, b3, b4, b5, b6⟩ := y
        simpa using hq
      rw [hN]
      simp only [go_sem, ew]
      refine ⟨by kernel_rfl, i + 1, ?_, by simp only; omega⟩
      simp only [go_sem]
      exact ⟨by simp, by omega, by rw [t1, t2, g2, he], _, _, _, rfl⟩
  · have hlt' : ((i : Int) < (a.length : Int)) = False := by simp; omega
    rw [List.take_of_length_le (by omega), List.take_of_length_le (by omega)] at g2
    simp only [go_sem, e13, hlt', hX]
    simp [g2]

set_option maxHeartbeats 4000000 in
set_option maxRecDepth 20000 in
theorem f47g (a b : List Lnk) (ha : a.length ≤ 1000000) (hb : b.length ≤ 1000000) : PCall Tryd.prog 47 [.sl 4 (a.map dLnk) .no, .sl 4 (b.map dLnk) .no] (RV (.bool (decide (a = b)))) := by
  refine PCall.of_body Tryd.func47 rfl Tryd.ntmps47 (congrArg Array.toList Tryd.results47) ?_
  intro E
  by_cases hab : a.length = b.length
  rotate_left
  · have h1 : ((a.length : Int) = (b.length : Int)) = False := eq_false (by omega)
    have h2 : ¬ a = b := fun e => hab (by rw [e])
    simp only [go_sem, h1]
    simp [h2]
  have h1 : ((a.length : Int) = (b.length : Int)) = True := eq_true (by omega)
  simp only [go_sem, h1]
  refine AW_loopH [4, 5, 13, 14, 15, 16, 17, 18, 19, 20, 21, 22, 23, 24, 25]
    (fun (i : Nat) ρ m => ρ 13 = .int .i64 (i : Int) ∧ i ≤ a.length ∧ a.take i = b.take i ∧ ∃ h nx lv, m = ⟨h, [], nx, lv⟩) (fun i => a.length - i) 0 ?_ ?_
  · simp only [go_sem]
    first | exact ⟨Nat.zero_le _, _, _, _, rfl⟩ | exact ⟨Nat.zero_le _, rfl, _, _, _, rfl⟩
  rintro i ρ m ⟨e13, g1, g2, h, nx, lv, rfl⟩ Q hN hR hX
  by_cases hlt : i < a.length
  · obtain ⟨x, hx⟩ : ∃ x, a[i]? = some x := ⟨_, List.getElem?_eq_getElem hlt⟩
    obtain ⟨y, hy⟩ : ∃ y, b[i]? = some y := ⟨_, List.getElem?_eq_getElem (by omega)⟩
    have hxp : (a.map dLnk)[i]? = some (dLnk x) := by rw [List.getElem?_map, hx]; rfl
    have hyp : (b.map dLnk)[i]? = some (dLnk y) := by rw [List.getElem?_map, hy]; rfl
    have hlt' : ((i : Int) < (a.length : Int)) = True := by simp; omega
    have hlt2 : ((i : Int) < (b.length : Int)) = True := by simp; omega
    have h0 : ((0 : Int) ≤ (i : Int)) = True := by simp
    have ew : IntKind.i64.wrap ((i : Int) + 1) = (i : Int) + 1 := i64_in (by omega) (by omega)
    have t1 : a.take (i + 1) = a.take i ++ [x] := by rw [List.take_add_one, hx]; rfl
    have t2 : b.take (i + 1) = b.take i ++ [y] := by rw [List.take_add_one, hy]; rfl
    simp only [go_sem, e13, hlt', h0, hxp, hx, Option.map_some, dLnk]
    refine drawn (by kernel_rfl) (by kernel_rfl) ?_
    simp only [go_sem, e13, hlt', hlt2, h0, hxp, hx, hyp, hy, Option.map_some, kDraw_eq, dLnk]
    intro nx2 lv2 _ _
    refine ⟨fun hq => ?_, fun hq => ?_⟩
    · have hne : ¬ x = y := by
        rintro rfl
        simp at hq
      have : ¬ a = b := by
        rintro rfl
        rw [hx] at hy
        cases hy
        exact hne rfl
      rw [hR]
      simp only [go_sem]
      simp [this]
    · have he : x = y := by
        obtain ⟨a0, a1, a2, a3⟩ := x
        obtain ⟨b0, b1, b2, b3⟩ := y
        simpa using hq
      rw [hN]
      simp only [go_sem, ew]
      refine ⟨by kernel_rfl, i + 1, ?_, by simp only; omega⟩
      simp only [go_sem]
      exact ⟨by simp, by omega, by rw [t1, t2, g2, he], _, _, _, rfl⟩
  · have hlt' : ((i : Int) < (a.length : Int)) = False := by simp; omega
    rw [List.take_of_length_le (by omega), List.take_of_length_le (by omega)] at g2
    simp only [go_sem, e13, hlt', hX]
    simp [g2]

set_option maxHeartbeats 4000000 in
set_option maxRecDepth 20000 in
theorem f48g (a b : List Pair) (ha : a.length ≤ 1000000) (hb : b.length ≤ 1000000) : PCall Tryd.prog 48 [.sl 2 (a.map dPair) .no, .sl 2 (b.map dPair) .no] (RV (.bool (decide (a = b)))) := by
  refine PCall.of_body Tryd.func48 rfl Tryd.ntmps48 (congrArg Array.toList Tryd.results48) ?_
  intro E
  by_cases hab : a.length = b.length
  rotate_left
  · have h1 : ((a.length : Int) = (b.length : Int)) = False := eq_false (by omega)
    have h2 : ¬ a = b := fun e => hab (by rw [e])
    simp only [go_sem, h1]
    simp [h2]
  have h1 : ((a.length : Int) = (b.length : Int)) = True := eq_true (by omega)
  simp only [go_sem, h1]
  refine AW_loopH [4, 5, 13, 14, 15, 16, 17, 18, 19, 20, 21, 22, 23, 24, 25]
    (fun (i : Nat) ρ m => ρ 13 = .int .i64 (i : Int) ∧ i ≤ a.length ∧ a.take i = b.take i ∧ ∃ h nx lv, m = ⟨h, [], nx, lv⟩) (fun i => a.length - i) 0 ?_ ?_
  · simp only [go_sem]
    first | exact ⟨Nat.zero_le _, _, _, _, rfl⟩ | exact ⟨Nat.zero_le _, rfl, _, _, _, rfl⟩
  rintro i ρ m ⟨e13, g1, g2, h, nx, lv, rfl⟩ Q hN hR hX
  by_cases hlt : i < a.length
  · obtain ⟨x, hx⟩ : ∃ x, a[i]? = some x := ⟨_, List.getElem?_eq_getElem hlt⟩
    obtain ⟨y, hy⟩ : ∃ y, b[i]? = some y := ⟨_, List.getElem?_eq_getElem (by omega)⟩
    have hxp : (a.map dPair)[i]? = some (dPair x) := by rw [List.getElem?_map, hx]; rfl
    have hyp : (b.map dPair)[i]? = some (dPair y) := by rw [List.getElem?_map, hy]; rfl
    have hlt' : ((i : Int) < (a.length : Int)) = True := by simp; omega
    have hlt2 : ((i : Int) < (b.length : Int)) = True := by simp; omega
    have h0 : ((0 : Int) ≤ (i : Int)) = True := by simp
    have ew : IntKind.i64.wrap ((i : Int) + 1) = (i : Int) + 1 := i64_in (by omega) (by omega)
    have t1 : a.take (i + 1) = a.take i ++ [x] := by rw [List.take_add_one, hx]; rfl
    have t2 : b.take (i + 1) = b.take i ++ [y] := by rw [List.take_add_one, hy]; rfl
    simp only [go_sem, e13, hlt', h0, hxp, hx, Option.map_some, dPair]
    refine drawn (by kernel_rfl) (by kernel_rfl) ?_
    simp only [go_sem, e13, hlt', hlt2, h0, hxp, hx, hyp, hy, Option.map_some, kDraw_eq, dPair]
    intro nx2 lv2 _ _
    refine ⟨fun hq => ?_, fun hq => ?_⟩
    · have hne : ¬ x = y := by
        rintro rfl
        simp at hq
      have : ¬ a = b := by
        rintro rfl
        rw [hx] at hy
        cases hy
        exact hne rfl
      rw [hR]
      simp only [go_sem]
      simp [this]
    · have he : x = y := by
        obtain ⟨a0, a1⟩ := x
        obtain ⟨b0, b1⟩ := y
        simpa using hq
      rw [hN]
      simp only [go_sem, ew]
      refine ⟨by kernel_rfl, i + 1, ?_, by simp only; omega⟩
      simp only [go_sem]
      exact ⟨by simp, by omega, by rw [t1, t2, g2, he], _, _, _, rfl⟩
  · have hlt' : ((i : Int) < (a.length : Int)) = False := by simp; omega
    rw [List.take_of_length_le (by omega), List.take_of_length_le (by omega)] at g2
    simp only [go_sem, e13, hlt', hX]
    simp [g2]

set_option maxHeartbeats 4000000 in
set_option maxRecDepth 20000 in
theorem f49g (a b : List Pair) (ha : a.length ≤ 1000000) (hb : b.length ≤ 1000000) : PCall Tryd.prog 49 [.sl 2 (a.map dPair) .no, .sl 2 (b.map dPair) .no] (RV (.bool (decide (a = b)))) := by
  refine PCall.of_body Tryd.func49 rfl Tryd.ntmps49 (congrArg Array.toList Tryd.results49) ?_
  intro E
  by_cases hab : a.length = b.length
  rotate_left
  · have h1 : ((a.length : Int) = (b.length : Int)) = False := eq_false (by omega)
    have h2 : ¬ a = b := fun e => hab (by rw [e])
    simp only [go_sem, h1]
    simp [h2]
  have h1 : ((a.length : Int) = (b.length : Int)) = True := eq_true (by omega)
  simp only [go_sem, h1]
  refine AW_loopH [4, 5, 13, 14, 15, 16, 17, 18, 19, 20, 21, 22, 23, 24, 25]
    (fun (i : Nat) ρ m => ρ 13 = .int .i64 (i : Int) ∧ i ≤ a.length ∧ a.take i = b.take i ∧ ∃ h nx lv, m = ⟨h, [], nx, lv⟩) (fun i => a.length - i) 0 ?_ ?_
  · simp only [go_sem]
    first | exact ⟨Nat.zero_le _, _, _, _, rfl⟩ | exact ⟨Nat.zero_le _, rfl, _, _, _, rfl⟩
  rintro i ρ m ⟨e13, g1, g2, h, nx, lv, rfl⟩ Q hN hR hX
  by_cases hlt : i < a.length
  · obtain ⟨x, hx⟩ : ∃ x, a[i]? = some x := ⟨_, List.getElem?_eq_getElem hlt⟩
    obtain ⟨y, hy⟩ : ∃ y, b[i]? = some y := ⟨_, List.getElem?_eq_getElem (by omega)⟩
    have hxp : (a.map dPair)[i]? = some (dPair x) := by rw [List.getElem?_map, hx]; rfl
    have hyp : (b.map dPair)[i]? = some (dPair y) := by rw [List.getElem?_map, hy]; rfl
    have hlt' : ((i : Int) < (a.length : Int)) = True := by simp; omega
    have hlt2 : ((i : Int) < (b.length : Int)) = True := by simp; omega
    have h0 : ((0 : Int) ≤ (i : Int)) = True := by simp
    have ew : IntKind.i64.wrap ((i : Int) + 1) = (i : Int) + 1 := i64_in (by omega) (by omega)
    have t1 : a.take (i + 1) = a.take i ++ [x] := by rw [List.take_add_one, hx]; rfl
    have t2 : b.take (i + 1) = b.take i ++ [y] := by rw [List.take_add_one, hy]; rfl
    simp only [go_sem, e13, hlt', h0, hxp, hx, Option.map_some, dPair]
    refine drawn (by kernel_rfl) (by kernel_rfl) ?_
    simp only [go_sem, e13, hlt', hlt2, h0, hxp, hx, hyp, hy, Option.map_some, kDraw_eq, dPair]
    intro nx2 lv2 _ _
    refine ⟨fun hq => ?_, fun hq => ?_⟩
    · have hne : ¬ x = y := by
        rintro rfl
        simp at hq
      have : ¬ a = b := by
        rintro rfl
        rw [hx] at hy
        cases hy
        exact hne rfl
      rw [hR]
      simp only [go_sem]
      simp [this]
    · have he : x = y := by
        obtain ⟨a0, a1⟩ := x
        obtain ⟨b0, b1⟩ := y
        simpa using hq
      rw [hN]
      simp only [go_sem, ew]
      refine ⟨by kernel_rfl, i + 1, ?_, by simp only; omega⟩
      simp only [go_sem]
      exact ⟨by simp, by omega, by rw [t1, t2, g2, he], _, _, _, rfl⟩
  · have hlt' : ((i : Int) < (a.length : Int)) = False := by simp; omega
    rw [List.take_of_length_le (by omega), List.take_of_length_le (by omega)] at g2
    simp only [go_sem, e13, hlt', hX]
    simp [g2]

set_option maxHeartbeats 1000000 in
set_option maxRecDepth 20000 in
theorem f20 (n : Net) (hn : NetS n) : PCall Tryd.prog 20 [eNet n, eNet n] (RV (.bool true)) := by
  refine PCall.of_body Tryd.func20 rfl Tryd.ntmps20 (congrArg Array.toList Tryd.results20) ?_
  intro E
  obtain ⟨h1, h2, h3, h4, h5⟩ := hn
  simp only [go_sem, eNet, nCells]
  refine callV (f45g n.names n.names h1 h1) ?_
  intro _ _
  simp only [go_sem, decide_true]
  refine callV (f46g n.sects n.sects h2 h2) ?_
  intro _ _
  simp only [go_sem, decide_true]
  refine callV (f47g n.links n.links h3 h3) ?_
  intro _ _
  simp only [go_sem, decide_true]
  refine callV (f48g n.sigs n.sigs h4 h4) ?_
  intro _ _
  simp only [go_sem, decide_true]
  refine callV (f49g n.gates n.gates h5 h5) ?_
  intro _ _
  simp only [go_sem, decide_true]

theorem readN_small (t : List UInt8) : NetS (readN t).1 := by
  have z : NetS zeroN := ⟨by simp [zeroN], by simp [zeroN], by simp [zeroN], by simp [zeroN], by simp [zeroN]⟩
  unfold readN
  split
  · exact z
  · split
    · rename_i h1 h2
      obtain ⟨b1, _⟩ := linesF_sm (t := t) (by omega)
      split
      · exact z
      · rename_i n k hf
        split
        · obtain ⟨s1, s2, s3, s4, s5⟩ := foldP_small _ _ _ _ _ hf
          simp only [zeroN, List.length_nil, Nat.zero_add] at s1 s2 s3 s4 s5
          exact ⟨by simp only; omega, by simp only; omega, by simp only; omega, by simp only; omega, by simp only; omega⟩
        · exact z
    · exact z

set_option maxHeartbeats 1000000 in
set_option maxRecDepth 20000 in
theorem f6 (t : List UInt8) (ht : t.length ≤ 140737488351232) : PCall Tryd.prog 6 [.str t] (RV (.bool true)) := by
  refine PCall.of_body Tryd.func6 rfl Tryd.ntmps6 (congrArg Array.toList Tryd.results6) ?_
  intro E
  have h18 := f18 t ht
  have h19 := f19 t ht
  have hl := readN_small t
  unfold readNV at h18 h19
  generalize (readN t).1 = n at *
  generalize (readN t).2 = e at *
  have h20 := f20 n hl
  simp only [eNet, nCells] at h18 h19 h20
  simp only [go_sem]
  refine callV h18 ?_
  intro nx lv
  simp only [go_sem]
  refine callV h19 ?_
  intro nx2 lv2
  simp only [go_sem]
  refine callV h20 ?_
  intro nx3 lv3
  simp only [go_sem]
  try simp

theorem law6 (xs : List DV) (h : ElDs Tryd.prog [9] xs) : PCall Tryd.prog 6 (xs.map toAV) (RV (.bool true)) := by
  obtain ⟨x, xs, rfl, hx, h⟩ := h.cons_inv
  cases h.nil_inv
  obtain ⟨s, rfl, hs⟩ := hx.str_inv Tryd.underlying9
  simp only [List.map_cons, List.map_nil, toAV]
  exact f6 s hs
end Go.Proofs.YtkfhieigdlfbeaaDoor
