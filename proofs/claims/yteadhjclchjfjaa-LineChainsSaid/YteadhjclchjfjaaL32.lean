/- Tables: the program's. -/
import Derived.Test.YteadhjclchjfjaaL31
namespace Go.Proofs.Yteadhjclchjfjaa
set_option linter.unusedSimpArgs false
set_option linter.unusedVariables false
open Go.AB

structure TRow where
  nd : List Nd
  cl : List Int
def dInts (l : List Int) : List DV := l.map fun x => DV.int .i64 x
def dRow (r : TRow) : DV := .agg [.sl 4 (r.nd.map dNd), .sl 1 (dInts r.cl)]
def qK (N : List (List Nd)) (i k : Nat) : Bool := decide (i ≠ k) && anyM (N.getD i []) (N.getD k [])
/-- The clashes of a row with the first k ones. -/
def clK (N : List (List Nd)) (i k : Nat) : List Int := ((List.range k).filter (qK N i)).map Int.ofNat
theorem clK_zero (N : List (List Nd)) (i : Nat) : clK N i 0 = [] := rfl
theorem clK_succ (N : List (List Nd)) (i k : Nat) : clK N i (k + 1) = if qK N i k = true then clK N i k ++ [(k : Int)] else clK N i k := by
  unfold clK
  rw [List.range_succ, List.filter_append, List.map_append]
  by_cases h : qK N i k = true
  · simp [h]
  · simp [h]
theorem clK_len (N : List (List Nd)) (i k : Nat) : (clK N i k).length ≤ k := by
  unfold clK
  rw [List.length_map]
  exact Nat.le_trans (List.length_filter_le _ _) (by simp)
def tableN (N : List (List Nd)) : List TRow := (List.range N.length).map fun i => ⟨N.getD i [], clK N i N.length⟩

/-- Rows of two cells. -/
def rowsC : List (AV × AV) → List AV
  | [] => []
  | r :: l => r.1 :: r.2 :: rowsC l
theorem rowsC_len : ∀ R : List (AV × AV), (rowsC R).length = R.length * 2
  | [] => rfl
  | r :: l => by
    have := rowsC_len l
    simp only [rowsC, List.length_cons]
    omega
theorem rowsC_drop : ∀ {R : List (AV × AV)} {i : Nat} {a b : AV}, R[i]? = some (a, b) → (rowsC R).drop (i * 2) = a :: b :: rowsC (R.drop (i + 1))
  | [], i, a, b, h => by simp at h
  | r :: l, 0, a, b, h => by simp at h; subst h; rfl
  | r :: l, i + 1, a, b, h => by
    have := rowsC_drop (R := l) (i := i) (by simpa using h)
    rw [Nat.succ_mul]
    simpa [rowsC] using this
theorem rowsC_drop1 {R : List (AV × AV)} {i : Nat} {a b : AV} (h : R[i]? = some (a, b)) : (rowsC R).drop (i * 2 + 1) = b :: rowsC (R.drop (i + 1)) := by
  rw [← List.drop_drop, rowsC_drop h]
  rfl
theorem rowsC_spl : ∀ {R : List (AV × AV)} {i : Nat} {a b x : AV}, R[i]? = some (a, b) → spl (rowsC R) (i * 2) [x] = rowsC (R.set i (x, b))
  | [], i, a, b, x, h => by simp at h
  | r :: l, 0, a, b, x, h => by simp at h; subst h; rfl
  | r :: l, i + 1, a, b, x, h => by
    have := rowsC_spl (R := l) (i := i) (x := x) (by simpa using h)
    unfold spl at this ⊢
    rw [Nat.succ_mul]
    simp only [List.set_cons_succ, rowsC, List.take_succ_cons, List.cons_append, Nat.add_assoc, List.length_singleton] at this ⊢
    rw [← this]
    have e : i * 2 + (2 + 1) = (i * 2 + 1) + 2 := by omega
    rw [e]
    simp [List.append_assoc]
theorem rowsC_spl1 : ∀ {R : List (AV × AV)} {i : Nat} {a b x : AV}, R[i]? = some (a, b) → spl (rowsC R) (i * 2 + 1) [x] = rowsC (R.set i (a, x))
  | [], i, a, b, x, h => by simp at h
  | r :: l, 0, a, b, x, h => by simp at h; subst h; rfl
  | r :: l, i + 1, a, b, x, h => by
    have := rowsC_spl1 (R := l) (i := i) (x := x) (by simpa using h)
    unfold spl at this ⊢
    have e1 : (i + 1) * 2 + 1 = (i * 2 + 1) + 2 := by omega
    rw [e1]
    simp only [List.set_cons_succ, rowsC, List.take_succ_cons, List.cons_append, List.length_singleton] at this ⊢
    rw [← this]
    have e : i * 2 + 1 + 2 + 1 = (i * 2 + 1 + 1) + 2 := by omega
    rw [e]
    simp [List.append_assoc]
theorem rowsC_made : ∀ n : Nat, madeA [.sl 4 [] .nil, .sl 1 [] .nil] n = rowsC (List.replicate n (.sl 4 [] .nil, .sl 1 [] .nil))
  | 0 => rfl
  | n + 1 => by
    have := rowsC_made n
    unfold madeA at this ⊢
    rw [List.replicate_succ, List.replicate_succ, List.flatten_cons, rowsC, ← this]
    rfl

theorem rowsC_ds : ∀ (T : List TRow) (R : List (AV × AV)), R.length = T.length → (∀ (j : Nat) (t : TRow), T[j]? = some t → ∃ k1 k2, R[j]? = some (AV.sl 4 (t.nd.map dNd) k1, AV.sl 1 (dInts t.cl) k2)) → toDs (rowsC R) = some ((T.map dRow).flatMap dcells)
  | [], [], _, _ => rfl
  | [], r :: R, h, _ => by simp at h
  | t :: T, [], h, _ => by simp at h
  | t :: T, r :: R, h, hj => by
    obtain ⟨k1, k2, h0⟩ := hj 0 t rfl
    simp only [List.getElem?_cons_zero, Option.some.injEq] at h0
    subst h0
    have ih := rowsC_ds T R (by simpa using h) (fun j t ht => hj (j + 1) t (by simpa using ht))
    simp only [rowsC, toDs, toD1, ih, List.map_cons, List.flatMap_cons, dRow, dcells, List.cons_append, List.nil_append]
theorem tableN_get {N : List (List Nd)} {j : Nat} {t : TRow} (h : (tableN N)[j]? = some t) : j < N.length ∧ t = ⟨N.getD j [], clK N j N.length⟩ := by
  unfold tableN at h
  rw [List.getElem?_map] at h
  cases hr : (List.range N.length)[j]? with
  | none => rw [hr] at h; cases h
  | some k =>
    rw [hr] at h
    cases h
    obtain ⟨h1, h2⟩ := List.getElem?_eq_some_iff.1 hr
    simp only [List.length_range] at h1
    simp only [List.getElem_range] at h2
    subst h2
    exact ⟨h1, rfl⟩
theorem tableN_len (N : List (List Nd)) : (tableN N).length = N.length := by simp [tableN]

set_option maxHeartbeats 4000000 in
set_option maxRecDepth 20000 in
theorem f45 (n : Net) (hb : NetB n) : PCall Try.prog 45 [eNet n] (RV (.tup [.sl 2 ((if netRE n = 0 then tableN ((netRts n).map (needsR n)) else []).map dRow) .no, .int .i64 (netRE n)])) := by
  refine PCall.of_bodySE Try.func45 rfl Try.ntmps45 (congrArg Array.toList Try.results45) ?_
  intro E
  have h31 := f31 n hb
  have hL := netRts_len n
  change PCall Try.prog 31 [eNet n] (RV (rtV (netRts n) (netRE n))) at h31
  have hok := netRts_ok n
  have hz := @netRE_zero n
  generalize netRts n = L at *
  generalize netRE n = e at *
  unfold rtV at h31
  refine AW_of ?_
  simp only [go_sem, eNet, nCells]
  refine callV h31 ?_
  intro nx lv
  by_cases q : e = 0
  rotate_left
  · have q' : (e = 0) = False := eq_false q
    simp only [go_sem, q', if_false]
    exact .inl ⟨rfl, rfl⟩
  have q' : (e = 0) = True := eq_true q
  subst q
  simp only [go_sem, if_true]
  have hNl : (L.map (needsR n)).length = L.length := List.length_map ..
  have hNb : ∀ j, ((L.map (needsR n)).getD j []).length ≤ 10000 := fun j => by
    rw [List.getD_eq_getElem?_getD, List.getElem?_map]
    cases hj : L[j]? with
    | none => simp
    | some r => simpa using needsR_len n r (hok r (List.mem_of_getElem? hj)).l1
  have hNi : ∀ j r, L[j]? = some r → (L.map (needsR n)).getD j [] = needsR n r := fun j r hj => by
    rw [List.getD_eq_getElem?_getD, List.getElem?_map, hj]; rfl
  generalize hN : L.map (needsR n) = N at *
  refine ⟨by omega, by omega, by omega, ?_⟩
  refine AW_loopH [7, 8, 24, 25, 26, 27, 28, 29, 30, 31, 32, 33, 34, 35, 36]
    (fun (i : Nat) ρ m => ρ 24 = .int .i64 (i : Int) ∧ i ≤ L.length ∧ ∃ h nx lv R, m = ⟨h, [], nx, lv⟩ ∧ AB.hget h 1 = some (0, [.sl 1 (n.names.map DV.str) .no, .sl 7 (n.sects.map dSect) .no, .sl 4 (n.links.map dLnk) .no, .sl 2 (n.sigs.map dPair) .no, .sl 2 (n.gates.map dPair) .no]) ∧ AB.hget h 21 = some (0, rowsC R) ∧ R.length = L.length ∧
      ∀ j, j < L.length → R[j]? = some (if j < i then .sl 4 ((N.getD j []).map dNd) .no else .sl 4 [] .nil, .sl 1 [] .nil)) (fun i => L.length - i) 0 ?_ ?_
  · simp only [go_sem]
    refine ⟨Nat.zero_le _, _, _, _, List.replicate L.length (.sl 4 [] .nil, .sl 1 [] .nil), rfl, by simp [go_sem], ?_, by simp, fun j hj => ?_⟩
    · simp only [go_sem]
      rw [← rowsC_made]
      rfl
    · simp [hj]
  rintro i ρ m ⟨e24, g1, h, nx, lv, R, rfl, b1, b21, hRl, hR0⟩ Q hN' hR hX
  by_cases hlt : i < L.length
  · obtain ⟨x, hx⟩ : ∃ x, L[i]? = some x := ⟨_, List.getElem?_eq_getElem hlt⟩
    have hxp : (L.map dRt)[i]? = some (dRt x) := by rw [List.getElem?_map, hx]; rfl
    have hlt' : ((i : Int) < (L.length : Int)) = True := by simp; omega
    have h0 : ((0 : Int) ≤ (i : Int)) = True := by simp
    have ew : IntKind.i64.wrap ((i : Int) + 1) = (i : Int) + 1 := i64_in (by omega) (by omega)
    have h86 := f86 n hb (hz rfl) x (hok x (List.mem_of_getElem? hx))
    unfold eRt0 at h86
    obtain ⟨g8, hg8⟩ : ∃ g8, genO (AB.hget h 8) = g8 := ⟨_, rfl⟩
    simp only [go_sem, e24, hlt', h0, hx, hxp, Option.map_some, dRt, hg8, b1, b21]
    refine callVt h86 ?_
    intro nx2 lv2 hn2 hl2
    simp only [go_sem, hlt', h0, b21]
    have hRi := hR0 i hlt
    rw [if_neg (Nat.lt_irrefl i)] at hRi
    have hs := rowsC_spl (x := .sl 4 ((needsR n x).map dNd) .no) hRi
    unfold spl at hs
    simp only [List.length_singleton] at hs
    simp only [Nat.zero_add, Nat.add_zero, hs, rowsC_len, hRl]
    refine ⟨by omega, ?_⟩
    rw [hN']
    simp only [go_sem, ew]
    refine ⟨by kernel_rfl, i + 1, ?_, by simp only; omega⟩
    simp only [go_sem]
    refine ⟨by simp, by omega, _, _, _, R.set i (.sl 4 ((needsR n x).map dNd) .no, .sl 1 [] .nil), rfl, by simp [go_sem, b1], by simp [go_sem], by simpa using hRl, fun j hj => ?_⟩
    rw [List.getElem?_set]
    by_cases hij : i = j
    · subst hij
      rw [if_pos rfl, if_pos (by omega), if_pos (by omega), hNi i x hx]
    · rw [if_neg hij, hR0 j hj]
      by_cases h1 : j < i
      · rw [if_pos h1, if_pos (by omega)]
      · rw [if_neg h1, if_neg (by omega)]
  have hlt' : ((i : Int) < (L.length : Int)) = False := by simp; omega
  have hR1 : ∀ j, j < L.length → R[j]? = some (.sl 4 ((N.getD j []).map dNd) .no, .sl 1 [] .nil) := fun j hj => by
    rw [hR0 j hj, if_pos (by omega)]
  simp only [go_sem, e24, hlt', hX]
  clear hR0
  refine AW_loopH [9, 10, 39, 40, 41, 42, 43, 44, 45, 46, 47, 48, 49, 50, 51, 52, 53, 54, 55, 56, 57, 58, 59, 60, 61, 62, 63, 64, 65, 66, 67, 68, 69, 70, 71, 72, 73, 74, 75, 76]
    (fun (i : Nat) ρ m => ρ 39 = .int .i64 (i : Int) ∧ i ≤ L.length ∧ ∃ h nx lv R, m = ⟨h, [], nx, lv⟩ ∧ AB.hget h 21 = some (0, rowsC R) ∧ R.length = L.length ∧
      (∀ j, j < i → ∃ tok, R[j]? = some (.sl 4 ((N.getD j []).map dNd) .no, .sl 1 (dInts (clK N j L.length)) tok)) ∧ ∀ j, i ≤ j → j < L.length → R[j]? = some (.sl 4 ((N.getD j []).map dNd) .no, .sl 1 [] .nil)) (fun i => L.length - i) 0 ?_ ?_
  · simp only [go_sem]
    exact ⟨Nat.zero_le _, _, _, _, R, rfl, b21, hRl, fun j hj => absurd hj (Nat.not_lt_zero _), fun j _ hj => hR1 j hj⟩
  clear hR1 hRl b21 b1 hlt hlt' e24 g1 R h nx lv
  rintro i ρ m ⟨e39, g1, h, nx, lv, R, rfl, b21, hRl, hRd, hR1⟩ Q2 hN2 hR2 hX2
  by_cases hlt : i < L.length
  · have hlt' : ((i : Int) < (L.length : Int)) = True := by simp; omega
    have ew : IntKind.i64.wrap ((i : Int) + 1) = (i : Int) + 1 := i64_in (by omega) (by omega)
    have h0 : ((0 : Int) ≤ (i : Int)) = True := by simp
    simp only [go_sem, e39, hlt']
    refine AW_loopH [10, 44, 45, 46, 47, 48, 49, 50, 51, 52, 53, 54, 55, 56, 57, 58, 59, 60, 61, 62, 63, 64, 65, 66, 67, 68, 69, 70, 71, 72, 73, 74, 75]
      (fun (k : Nat) ρ m => ρ 44 = .int .i64 (k : Int) ∧ k ≤ L.length ∧ ∃ h nx lv R tok, m = ⟨h, [], nx, lv⟩ ∧ AB.hget h 21 = some (0, rowsC R) ∧ R.length = L.length ∧ okT m tok ∧
        R[i]? = some (.sl 4 ((N.getD i []).map dNd) .no, .sl 1 (dInts (clK N i k)) tok) ∧ (∀ j, j < L.length → ∃ c, R[j]? = some (.sl 4 ((N.getD j []).map dNd) .no, c)) ∧
        (∀ j, j < i → ∃ tok, R[j]? = some (.sl 4 ((N.getD j []).map dNd) .no, .sl 1 (dInts (clK N j L.length)) tok)) ∧ ∀ j, i < j → j < L.length → R[j]? = some (.sl 4 ((N.getD j []).map dNd) .no, .sl 1 [] .nil)) (fun k => L.length - k) 0 ?_ ?_
    · simp only [go_sem]
      refine ⟨Nat.zero_le _, _, _, _, R, .nil, rfl, b21, hRl, trivial, hR1 i (Nat.le_refl _) hlt, fun j hj => ?_, hRd, fun j h1 h2 => hR1 j (Nat.le_of_lt h1) h2⟩
      by_cases h1 : j < i
      · obtain ⟨tok, ht⟩ := hRd j h1
        exact ⟨_, ht⟩
      · exact ⟨_, hR1 j (by omega) hj⟩
    clear hRd hR1 hRl b21 R h nx lv
    rintro k ρ2 m ⟨e44, k1, h, nx, lv, R, tok, rfl, b21, hRl, hok, hRi, hRa, hRd, hR1⟩ Q3 hN3 hR3 hX3
    by_cases hlt2 : k < L.length
    · have hlt3 : ((k : Int) < (L.length : Int)) = True := by simp; omega
      have ew2 : IntKind.i64.wrap ((k : Int) + 1) = (k : Int) + 1 := i64_in (by omega) (by omega)
      have h02 : ((0 : Int) ≤ (k : Int)) = True := by simp
      obtain ⟨ck, hRk⟩ := hRa k hlt2
      have hcl := clK_succ N i k
      have dk := rowsC_drop hRk
      have di := rowsC_drop hRi
      have di1 := rowsC_drop1 hRi
      simp only [go_sem, e44, hlt3]
      have next : ∀ (h' : List (Nat × Nat × List AV)) nx' lv', clK N i (k + 1) = clK N i k → AB.hget h' 21 = some (0, rowsC R) → (∀ j, lv j → lv' j) → ∃ h nx lv R tok, (⟨h', [], nx', lv'⟩ : AH) = ⟨h, [], nx, lv⟩ ∧ AB.hget h 21 = some (0, rowsC R) ∧ R.length = L.length ∧ okT ⟨h', [], nx', lv'⟩ tok ∧
          R[i]? = some (.sl 4 ((N.getD i []).map dNd) .no, .sl 1 (dInts (clK N i (k + 1))) tok) ∧ (∀ j, j < L.length → ∃ c, R[j]? = some (.sl 4 ((N.getD j []).map dNd) .no, c)) ∧
          (∀ j, j < i → ∃ tok, R[j]? = some (.sl 4 ((N.getD j []).map dNd) .no, .sl 1 (dInts (clK N j L.length)) tok)) ∧ ∀ j, i < j → j < L.length → R[j]? = some (.sl 4 ((N.getD j []).map dNd) .no, .sl 1 [] .nil) :=
        fun h' nx' lv' e b hl => ⟨_, _, _, R, tok, rfl, b, hRl, okT_mono hok hl, by rw [e]; exact hRi, hRa, hRd, hR1⟩
      by_cases hik : i = k
      · have hik' : ((i : Int) = (k : Int)) = True := eq_true (by rw [hik])
        have hq : qK N i k = false := by simp [qK, hik]
        refine drawn (by kernel_rfl) (by kernel_rfl) ?_
        simp only [go_sem, hik', kDraw_eq]
        intro nx2 lv2 hn2 hl2
        simp only [hN3, ew2]
        refine ⟨by kernel_rfl, k + 1, ?_, by simp only; omega⟩
        simp only [go_sem]
        exact ⟨by simp, by omega, next _ _ _ (by rw [hcl, hq]; simp) b21 hl2⟩
      · have hik' : ((i : Int) = (k : Int)) = False := eq_false (by omega)
        refine drawn (by kernel_rfl) (by kernel_rfl) ?_
        simp only [go_sem, hik', hlt', h0, b21, hlt3, h02, Nat.zero_add, Nat.add_zero, dk, di]
        refine quietD (f85 _ _ (Nat.le_trans (hNb i) (by omega)) (Nat.le_trans (hNb k) (by omega))) (fun _ => rfl) ?_
        cases w : anyM (N.getD i []) (N.getD k []) with
        | false =>
          have hq : qK N i k = false := by unfold qK; rw [w, Bool.and_false]
          simp only [go_sem, kDraw_eq]
          intro nx2 lv2 hn2 hl2
          simp only [hN3, ew2]
          refine ⟨by kernel_rfl, k + 1, ?_, by simp only; omega⟩
          simp only [go_sem]
          exact ⟨by simp, by omega, next _ _ _ (by rw [hcl, hq]; simp) b21 hl2⟩
        | true =>
          have hq : qK N i k = true := by unfold qK; rw [w]; simp [hik]
          rw [if_pos hq] at hcl
          simp only [go_sem, kDraw_eq]
          intro nx2 lv2 hn2 hl2
          simp only [go_sem, hlt', h0, b21, Nat.zero_add, Nat.add_zero, di1]
          have hs := rowsC_spl1 (x := .sl 1 (dInts (clK N i k) ++ [DV.int .i64 k]) (.own (nx2 + 1))) hRi
          unfold spl at hs
          simp only [List.length_singleton] at hs
          have hck : dInts (clK N i k) ++ [DV.int .i64 k] = dInts (clK N i (k + 1)) := by rw [hcl]; simp [dInts]
          have hlen := clK_len N i k
          rw [hs, rowsC_len, hRl, hN3]
          refine ⟨okT_mono hok fun j z => .inr (hl2 j z), by simp only [dInts, List.length_map]; omega, by omega, ?_⟩
          simp only [go_sem, ew2]
          refine ⟨by kernel_rfl, k + 1, ?_, by simp only; omega⟩
          simp only [go_sem]
          refine ⟨by simp, by omega, _, _, _, R.set i (.sl 4 ((N.getD i []).map dNd) .no, .sl 1 (dInts (clK N i k) ++ [DV.int .i64 k]) (.own (nx2 + 1))), .own (nx2 + 1), rfl, by simp [go_sem], by simpa using hRl, .inl rfl, ?_, fun j hj => ?_, fun j hj => ?_, fun j h1 h2 => ?_⟩
          · rw [List.getElem?_set_self (by omega), hck]
          · by_cases hij : i = j
            · subst hij
              exact ⟨_, List.getElem?_set_self (by omega)⟩
            · rw [List.getElem?_set_ne hij]
              exact hRa j hj
          · rw [List.getElem?_set_ne (by omega)]
            exact hRd j hj
          · rw [List.getElem?_set_ne (by omega)]
            exact hR1 j h1 h2
    · have hlt3 : ((k : Int) < (L.length : Int)) = False := by simp; omega
      have hkl : k = L.length := by omega
      subst hkl
      simp only [go_sem, e44, hlt3, hX3, hN2, ew]
      refine ⟨by kernel_rfl, i + 1, ?_, by simp only; omega⟩
      simp only [go_sem]
      refine ⟨by simp, by omega, _, _, _, R, rfl, b21, hRl, fun j hj => ?_, fun j h1 h2 => hR1 j (by omega) h2⟩
      by_cases hij : j = i
      · subst hij; exact ⟨_, hRi⟩
      · exact hRd j (by omega)
  · have hlt' : ((i : Int) < (L.length : Int)) = False := by simp; omega
    have hil : i = L.length := by omega
    subst hil
    simp only [go_sem, e39, hlt', hX2]
    refine .inr ⟨2, _, (tableN N).map dRow, _, rfl, ⟨.own 21 0, L.length, rowsC R, ?_, ?_, ?_, ?_, ?_, ?_⟩, rfl, ?_⟩
    · rw [List.length_map, tableN_len, hNl]
    · simp [AH.cells, b21]
    · rw [List.length_map, tableN_len, hNl]; exact Nat.le_refl _
    · rw [rowsC_len, hRl]
    · rw [List.take_of_length_le (by rw [rowsC_len, List.length_map, tableN_len, hNl, hRl]; exact Nat.le_refl _)]
      refine rowsC_ds _ _ (by rw [tableN_len, hNl, hRl]) (fun j t ht => ?_)
      obtain ⟨h1, rfl⟩ := tableN_get ht
      obtain ⟨tok, h2⟩ := hRd j (by omega)
      rw [hNl]
      exact ⟨_, tok, h2⟩
    · intro j e he
      rw [List.getElem?_map] at he
      obtain ⟨t, _, rfl⟩ := Option.map_eq_some_iff.1 he
      rfl
    · rfl
end Go.Proofs.Yteadhjclchjfjaa
