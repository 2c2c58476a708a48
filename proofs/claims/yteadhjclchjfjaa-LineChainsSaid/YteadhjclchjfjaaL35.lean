/- Tables: the first wrong row; the law. -/
import Derived.Test.YteadhjclchjfjaaL34
namespace Go.Proofs.Yteadhjclchjfjaa
set_option linter.unusedSimpArgs false
set_option linter.unusedVariables false
open Go.AB

/-- How many rows two tables begin alike with. -/
def cpT : List TRow → List TRow → Nat
  | a :: T, b :: R => if sameT a b = true then cpT T R + 1 else 0
  | _, _ => 0
def wrongV (T R : List TRow) : Int := if cpT T R = T.length ∧ cpT T R = R.length then -1 else cpT T R
theorem cpT_le : ∀ (T R : List TRow), cpT T R ≤ T.length ∧ cpT T R ≤ R.length
  | [], R => by simp [cpT]
  | a :: T, [] => by simp [cpT]
  | a :: T, b :: R => by
    have := cpT_le T R
    simp only [cpT]
    split
    · simp only [List.length_cons]; omega
    · simp
theorem cpT_end {T R : List TRow} (h : T.length = 0 ∨ R.length = 0) : cpT T R = 0 := by
  have := cpT_le T R
  omega

set_option maxHeartbeats 8000000 in
set_option maxRecDepth 20000 in
theorem f46 (n : Net) (hb : NetB n) (R : List TRow) (hRl : R.length ≤ 140737488351232) (hRb : ∀ t ∈ R, RowB t) : PCall Try.prog 46 [eNet n, .sl 2 (R.map dRow) .no] (RV (.tup [.int .i64 (if netRE n = 0 then wrongV (tableN ((netRts n).map (needsR n))) R else 0), .int .i64 (netRE n)])) := by
  refine PCall.of_body Try.func46 rfl Try.ntmps46 (congrArg Array.toList Try.results46) ?_
  intro E
  have h45 := f45 n hb
  have hTl : (tableN ((netRts n).map (needsR n))).length ≤ 1000 := by
    rw [tableN_len, List.length_map]
    exact netRts_len n
  have hTb : ∀ t ∈ tableN ((netRts n).map (needsR n)), RowB t := by
    intro t ht
    obtain ⟨j, hj⟩ := List.getElem?_of_mem ht
    obtain ⟨h1, rfl⟩ := tableN_get hj
    refine ⟨?_, ?_⟩
    · simp only
      rw [List.getD_eq_getElem?_getD, List.getElem?_map]
      cases hr : (netRts n)[j]? with
      | none => simp
      | some r =>
        have := needsR_len n r (netRts_ok n r (List.mem_of_getElem? hr)).l1
        simp; omega
    · have := clK_len ((netRts n).map (needsR n)) j ((netRts n).map (needsR n)).length
      have h2 := netRts_len n
      simp only [List.length_map] at this ⊢
      omega
  generalize tableN ((netRts n).map (needsR n)) = T at *
  generalize netRE n = e at *
  simp only [go_sem, eNet, nCells]
  refine callV h45 ?_
  intro nx lv
  by_cases q : e = 0
  rotate_left
  · have q' : (e = 0) = False := eq_false q
    simp only [go_sem, q', if_false]
  subst q
  simp only [go_sem, if_true]
  have hmx : ∃ M : Nat, max (T.length : Int) (R.length : Int) = M ∧ T.length ≤ M ∧ R.length ≤ M ∧ (M = T.length ∨ M = R.length) := by
    refine ⟨max T.length R.length, by omega, by omega, by omega, by omega⟩
  obtain ⟨M, hM, hM1, hM2, hM3⟩ := hmx
  simp only [hM]
  refine AW_loopH [4, 5, 8, 22, 23, 24, 25, 26, 27, 28, 29, 30, 31, 32, 33, 34, 35, 36, 37, 38, 39, 40, 41, 42, 43, 44, 45, 46, 47, 48, 49, 50, 51, 52, 53, 54, 55, 56, 57, 58, 59, 60, 61, 62, 63, 64]
    (fun (k : Nat) ρ m => ρ 22 = .int .i64 (k : Int) ∧ k ≤ T.length ∧ k ≤ R.length ∧ cpT (T.drop k) (R.drop k) + k = cpT T R ∧ ∃ h nx lv, m = ⟨h, [], nx, lv⟩) (fun k => M - k) 0 ?_ ?_
  · simp only [go_sem]
    first | exact ⟨Nat.zero_le _, Nat.zero_le _, _, _, _, rfl⟩ | exact ⟨Nat.zero_le _, Nat.zero_le _, rfl, _, _, _, rfl⟩
  rintro k ρ m ⟨e22, g1, g2, g3, h, nx, lv, rfl⟩ Q hN hR hX
  by_cases hlt : k < M
  · have hlt' : ((k : Int) < (M : Int)) = True := by simp; omega
    have h0 : ((0 : Int) ≤ (k : Int)) = True := by simp
    have ew : IntKind.i64.wrap ((k : Int) + 1) = (k : Int) + 1 := i64_in (by omega) (by omega)
    simp only [go_sem, e22, hlt']
    refine drawn (by kernel_rfl) (by kernel_rfl) ?_
    by_cases c1 : T.length ≤ k
    · have c1' : ((T.length : Int) ≤ (k : Int)) = True := by simp; omega
      rw [cpT_end (.inl (by simp; omega)), Nat.zero_add] at g3
      have hv : wrongV T R = k := by
        unfold wrongV
        rw [← g3, if_neg (by omega)]
      simp only [go_sem, c1', hR, hv, kDraw_eq]
      try exact fun _ _ _ _ => rfl
    have c1' : ((T.length : Int) ≤ (k : Int)) = False := by simp; omega
    by_cases c2 : R.length ≤ k
    · have c2' : ((R.length : Int) ≤ (k : Int)) = True := by simp; omega
      rw [cpT_end (.inr (by simp; omega)), Nat.zero_add] at g3
      have hv : wrongV T R = k := by
        unfold wrongV
        rw [← g3, if_neg (by omega)]
      simp only [go_sem, c1', c2', hR, hv, kDraw_eq]
      try exact fun _ _ _ _ => rfl
    have c2' : ((R.length : Int) ≤ (k : Int)) = False := by simp; omega
    obtain ⟨x, hx⟩ : ∃ x, T[k]? = some x := ⟨_, List.getElem?_eq_getElem (by omega)⟩
    obtain ⟨y, hy⟩ : ∃ y, R[k]? = some y := ⟨_, List.getElem?_eq_getElem (by omega)⟩
    have hxp : (T.map dRow)[k]? = some (dRow x) := by rw [List.getElem?_map, hx]; rfl
    have hyp : (R.map dRow)[k]? = some (dRow y) := by rw [List.getElem?_map, hy]; rfl
    have d1 : T.drop k = x :: T.drop (k + 1) := by
      rw [List.drop_eq_getElem_cons (by omega)]
      rw [List.getElem?_eq_getElem (by omega)] at hx
      cases hx; rfl
    have d2 : R.drop k = y :: R.drop (k + 1) := by
      rw [List.drop_eq_getElem_cons (by omega)]
      rw [List.getElem?_eq_getElem (by omega)] at hy
      cases hy; rfl
    have hxb := hTb x (List.mem_of_getElem? hx)
    have hyb := hRb y (List.mem_of_getElem? hy)
    have l1 : ((k : Int) < (T.length : Int)) = True := by simp; omega
    have l2 : ((k : Int) < (R.length : Int)) = True := by simp; omega
    rw [d1, d2] at g3
    simp only [cpT] at g3
    have bad : sameT x y = false → wrongV T R = k := fun hs => by
      rw [if_neg (by rw [hs]; simp), Nat.zero_add] at g3
      unfold wrongV
      rw [← g3, if_neg (by omega)]
    simp only [go_sem, c1', c2', h0, l1, l2, hx, hy, hxp, hyp, Option.map_some, dRow]
    refine quietD (f44g x.nd y.nd hxb.1 hyb.1) (fun _ => rfl) ?_
    by_cases w1 : x.nd = y.nd
    rotate_left
    · have hv := bad (by simp [sameT, w1])
      have w1' : (x.nd = y.nd) = False := eq_false w1
      simp only [go_sem, w1', decide_false, hR, hv, kDraw_eq]
      try exact fun _ _ _ _ => rfl
    have w1' : (x.nd = y.nd) = True := eq_true w1
    simp only [go_sem, w1', decide_true, h0, l1, l2, hx, hy, hxp, hyp, Option.map_some, dRow]
    refine quietD (f69g x.cl y.cl hxb.2 hyb.2) (fun _ => rfl) ?_
    by_cases w2 : x.cl = y.cl
    rotate_left
    · have hv := bad (by simp [sameT, w2])
      have w2' : (x.cl = y.cl) = False := eq_false w2
      simp only [go_sem, w2', decide_false, hR, hv, kDraw_eq]
      try exact fun _ _ _ _ => rfl
    have w2' : (x.cl = y.cl) = True := eq_true w2
    rw [if_pos (by simp [sameT, w1, w2])] at g3
    simp only [go_sem, w2', decide_true, kDraw_eq]
    intro nx2 lv2 _ _
    simp only [hN, ew]
    refine ⟨by kernel_rfl, k + 1, ?_, by simp only; omega⟩
    simp only [go_sem]
    exact ⟨by simp, by omega, by omega, by omega, _, _, _, rfl⟩
  · have hlt' : ((k : Int) < (M : Int)) = False := by simp; omega
    rw [cpT_end (.inl (by simp; omega)), Nat.zero_add] at g3
    have hv : wrongV T R = -1 := by
      unfold wrongV
      rw [← g3, if_pos (by omega)]
    simp only [go_sem, e22, hlt', hX, hv]
    try simp

theorem f48w (a b : TRow) (ha : RowB a) (hb : RowB b) : PCall Try.prog 48 [.agg [.sl 4 (a.nd.map dNd) .no, .sl 1 (dInts a.cl) .no], .agg [.sl 4 (b.nd.map dNd) .no, .sl 1 (dInts b.cl) .no]] (RV (.bool (sameT a b))) := f48 a b ha hb

set_option maxHeartbeats 8000000 in
set_option maxRecDepth 20000 in
theorem f9 (n : Net) (hb : NetB n) (R : List TRow) (hRl : R.length ≤ 140737488351232) (hRb : ∀ t ∈ R, RowB t) : PCall Try.prog 9 [eNet n, .sl 2 (R.map dRow) .no] (RV (.bool true)) := by
  refine PCall.of_body Try.func9 rfl Try.ntmps9 (congrArg Array.toList Try.results9) ?_
  intro E
  have h45 := f45 n hb
  have h46 := f46 n hb R hRl hRb
  obtain ⟨o1, o2⟩ := both_one n
  have h32 := f32 n hb
  rw [← o1, ← o2] at h32
  change PCall Try.prog 32 [eNet n] (RV (rtV (netRts n) (netRE n))) at h32
  unfold rtV at h32
  have hTl : (tableN ((netRts n).map (needsR n))).length ≤ 1000 := by
    rw [tableN_len, List.length_map]
    exact netRts_len n
  have hTb : ∀ t ∈ tableN ((netRts n).map (needsR n)), RowB t := by
    intro t ht
    obtain ⟨j, hj⟩ := List.getElem?_of_mem ht
    obtain ⟨h1, rfl⟩ := tableN_get hj
    refine ⟨?_, ?_⟩
    · simp only
      rw [List.getD_eq_getElem?_getD, List.getElem?_map]
      cases hr : (netRts n)[j]? with
      | none => simp
      | some r =>
        have := needsR_len n r (netRts_ok n r (List.mem_of_getElem? hr)).l1
        simp; omega
    · have := clK_len ((netRts n).map (needsR n)) j ((netRts n).map (needsR n)).length
      have h2 := netRts_len n
      simp only [List.length_map] at this ⊢
      omega
  have h47 := fun he => f47 n hb he (netRts n) (netRts_len n) (netRts_ok n)
  have hz := @netRE_zero n
  generalize tableN ((netRts n).map (needsR n)) = T at *
  generalize netRts n = L at *
  generalize netRE n = e at *
  simp only [go_sem, eNet, nCells]
  refine callV h45 ?_
  intro nx lv
  simp only [go_sem]
  refine callV h46 ?_
  intro nx2 lv2
  simp only [go_sem]
  refine callV h32 ?_
  intro nx3 lv3
  simp only [go_sem]
  by_cases q : e = 0
  rotate_left
  · have q' : (e = 0) = False := eq_false q
    simp only [go_sem, q', if_false]
    try simp
  subst q
  simp only [go_sem, if_true]
  refine callV (h47 (hz rfl)) ?_
  intro nx4 lv4
  simp only [go_sem]
  refine AW_loopH [12, 51, 52, 53, 54, 55, 56, 57, 58, 59, 60, 61, 62, 63, 64, 65, 66, 67, 68, 69, 70, 71, 72, 73]
    (fun (k : Nat) ρ m => ρ 12 = .int .i64 (k : Int) ∧ k ≤ T.length ∧ k ≤ R.length ∧ cpT (T.drop k) (R.drop k) + k = cpT T R ∧ ∃ h nx lv, m = ⟨h, [], nx, lv⟩) (fun k => T.length - k) 0 ?_ ?_
  · simp only [go_sem]
    first | exact ⟨Nat.zero_le _, Nat.zero_le _, _, _, _, rfl⟩ | exact ⟨Nat.zero_le _, Nat.zero_le _, rfl, _, _, _, rfl⟩
  rintro k ρ m ⟨e12, g1, g2, g3, h, nx, lv, rfl⟩ Q hN hR hX
  have h0 : ((0 : Int) ≤ (k : Int)) = True := by simp
  have h49 := f49 T hTl hTb
  simp only [go_sem, e12]
  refine drawn (by kernel_rfl) (by kernel_rfl) ?_
  have hit : ∀ (c : Bool), c = true → c = true := fun _ h => h
  by_cases c1 : k < T.length
  rotate_left
  · have c1' : ((k : Int) < (T.length : Int)) = False := by simp; omega
    have ck : ((k : Int) = (T.length : Int)) = True := eq_true (by omega)
    rw [cpT_end (.inl (by simp; omega)), Nat.zero_add] at g3
    by_cases c2 : k = R.length
    · have ck2 : ((k : Int) = (R.length : Int)) = True := eq_true (by omega)
      have hv : wrongV T R = -1 := by
        unfold wrongV
        rw [← g3, if_pos (by omega)]
      simp only [go_sem, c1', kDraw_eq]
      intro nx5 lv5 _ _
      simp only [hX, go_sem, ck, ck2, hv]
      refine callV h49 ?_
      intro nx6 lv6
      simp only [go_sem]
      try simp
    · have ck2 : ((k : Int) = (R.length : Int)) = False := eq_false (by omega)
      have hv : wrongV T R = k := by
        unfold wrongV
        rw [← g3, if_neg (by omega)]
      simp only [go_sem, c1', kDraw_eq]
      intro nx5 lv5 _ _
      simp only [hX, go_sem, ck, ck2, hv]
      refine callV h49 ?_
      intro nx6 lv6
      simp only [go_sem]
      try simp
  have c1' : ((k : Int) < (T.length : Int)) = True := by simp; omega
  have ck : ((k : Int) = (T.length : Int)) = False := eq_false (by omega)
  by_cases c2 : k < R.length
  rotate_left
  · have c2' : ((k : Int) < (R.length : Int)) = False := by simp; omega
    rw [cpT_end (.inr (by simp; omega)), Nat.zero_add] at g3
    have hv : wrongV T R = k := by
      unfold wrongV
      rw [← g3, if_neg (by omega)]
    simp only [go_sem, c1', c2', kDraw_eq]
    intro nx5 lv5 _ _
    simp only [hX, go_sem, ck, hv]
    refine callV h49 ?_
    intro nx6 lv6
    simp only [go_sem]
    try simp
  have c2' : ((k : Int) < (R.length : Int)) = True := by simp; omega
  obtain ⟨x, hx⟩ : ∃ x, T[k]? = some x := ⟨_, List.getElem?_eq_getElem (by omega)⟩
  obtain ⟨y, hy⟩ : ∃ y, R[k]? = some y := ⟨_, List.getElem?_eq_getElem (by omega)⟩
  have hxp : (T.map dRow)[k]? = some (dRow x) := by rw [List.getElem?_map, hx]; rfl
  have hyp : (R.map dRow)[k]? = some (dRow y) := by rw [List.getElem?_map, hy]; rfl
  have d1 : T.drop k = x :: T.drop (k + 1) := by
    rw [List.drop_eq_getElem_cons (by omega)]
    rw [List.getElem?_eq_getElem (by omega)] at hx
    cases hx; rfl
  have d2 : R.drop k = y :: R.drop (k + 1) := by
    rw [List.drop_eq_getElem_cons (by omega)]
    rw [List.getElem?_eq_getElem (by omega)] at hy
    cases hy; rfl
  have ew : IntKind.i64.wrap ((k : Int) + 1) = (k : Int) + 1 := i64_in (by omega) (by omega)
  rw [d1, d2] at g3
  simp only [cpT] at g3
  simp only [go_sem, c1', c2', h0, hx, hy, hxp, hyp, Option.map_some, dRow]
  refine quietD (f48w x y (hTb x (List.mem_of_getElem? hx)) (hRb y (List.mem_of_getElem? hy))) (fun _ => rfl) ?_
  cases w : sameT x y with
  | true =>
    rw [if_pos w] at g3
    simp only [go_sem, w, kDraw_eq]
    intro nx5 lv5 _ _
    simp only [hN, ew, go_sem]
    refine ⟨by kernel_rfl, k + 1, ?_, by simp only; omega⟩
    simp only [go_sem]
    exact ⟨by simp, by omega, by omega, by omega, _, _, _, rfl⟩
  | false =>
    rw [if_neg (by rw [w]; simp), Nat.zero_add] at g3
    have hv : wrongV T R = k := by
      unfold wrongV
      rw [← g3, if_neg (by omega)]
    simp only [go_sem, w, kDraw_eq]
    intro nx5 lv5 _ _
    simp only [hX, go_sem, ck, hv]
    refine callV h49 ?_
    intro nx6 lv6
    simp only [go_sem]
    try simp

theorem openRow {y : DV} (h : ElD Try.prog 94 y) : ∃ x : TRow, y = dRow x ∧ RowB x := by
  obtain ⟨cs, rfl, k⟩ := h.agg_inv Try.underlying94 rfl
  obtain ⟨c1, r, rfl, h1, k⟩ := k.cons_inv
  obtain ⟨c2, r, rfl, h2, k⟩ := k.cons_inv
  obtain rfl := k.nil_inv
  obtain ⟨l1, rfl, b1, e1⟩ := h1.sl_inv Try.underlying74 (z := 4) (y := 32) (by kernel_rfl) (by kernel_rfl)
  obtain ⟨l2, rfl, b2, e2⟩ := h2.sl_inv Try.underlying34 (z := 1) (y := 8) (by kernel_rfl) (by kernel_rfl)
  obtain ⟨m1, rfl, _⟩ := map_of_each (f := dNd) (p := fun _ => True) l1 (fun y hy => by
    obtain ⟨ns, q1, rfl, _⟩ := (e1 y hy).ints 4 (n := 4) (by kernel_rfl) (by kernel_rfl)
    match ns, q1 with
    | [a, b, c, d], _ => exact ⟨⟨a, b, c, d⟩, rfl, trivial⟩)
  obtain ⟨m2, rfl, _⟩ := map_of_each (f := fun x => DV.int .i64 x) (p := fun _ => True) l2 (fun y hy => by
    obtain ⟨v, rfl, _⟩ := (e2 y hy).int_inv Try.underlying3
    exact ⟨v, rfl, trivial⟩)
  simp only [List.length_map] at b1 b2
  exact ⟨⟨m1, m2⟩, rfl, by simp only; omega, by simp only; omega⟩

theorem law9 (xs : List DV) (h : ElDs Try.prog [28, 87] xs) : PCall Try.prog 9 (xs.map toAV) (RV (.bool true)) := by
  obtain ⟨x, xs, rfl, hx, h⟩ := h.cons_inv
  obtain ⟨y, xs, rfl, hy, h⟩ := h.cons_inv
  cases h.nil_inv
  obtain ⟨n, hn, hb⟩ := openNet hx
  obtain ⟨l1, rfl, b1, e1⟩ := hy.sl_inv Try.underlying87 (z := 2) (y := 48) (by kernel_rfl) (by kernel_rfl)
  obtain ⟨p, rfl, hp⟩ := map_of_each (f := dRow) (p := RowB) l1 (fun y hy => openRow (e1 y hy))
  simp only [List.length_map] at b1
  simp only [List.map_cons, List.map_nil, hn, toAV]
  exact f9 n hb p (by omega) hp
end Go.Proofs.Yteadhjclchjfjaa
