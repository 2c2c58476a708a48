/- Lists of needs that meet. -/
import Derived.Test.YteadhjclchjfjaaL29
namespace Go.Proofs.Yteadhjclchjfjaa
set_option linter.unusedSimpArgs false
set_option linter.unusedVariables false
open Go.AB

/-- The place of the first need of which a test is so. -/
def idxQ (q : Nd → Bool) : List Nd → Int → Int
  | [], _ => -1
  | x :: l, i => if q x = true then i else idxQ q l (i + 1)
theorem idxQ_iff {q : Nd → Bool} : ∀ {l : List Nd} {i : Int}, 0 ≤ i → (0 ≤ idxQ q l i ↔ l.any q = true)
  | [], i, _ => by simp [idxQ]
  | x :: l, i, h => by
    have ih := idxQ_iff (q := q) (l := l) (i := i + 1) (by omega)
    simp only [idxQ, List.any_cons] at ih ⊢
    cases hx : q x with
    | true => simp [h]
    | false => simpa using ih

set_option maxRecDepth 20000 in
theorem f134g (p : List Nd) (hl : p.length ≤ 100000) (k : Nat) (cs : List DV) (q : Nd → Bool) (hb : bodyOk Try.prog k = true) (hq : ∀ x, PCall Try.prog k [eNd x, .ept cs] (RV (.bool (q x)))) :
    PCall Try.prog 134 [.sl 4 (p.map dNd) .no, .fn k [.ept cs]] (RV (.int .i64 (idxQ q p 0))) := by
  refine PCall.of_body Try.func134 rfl Try.ntmps134 (congrArg Array.toList Try.results134) ?_
  intro E
  simp only [go_sem]
  refine AW_loopH [4, 5, 8, 9, 10, 11, 12, 13, 14, 15, 16, 17, 18]
    (fun (i : Nat) ρ m => ρ 8 = .int .i64 (i : Int) ∧ i ≤ p.length ∧ idxQ q (p.drop i) i = idxQ q p 0 ∧ ∃ h nx lv, m = ⟨h, [], nx, lv⟩) (fun i => p.length - i) 0 ?_ ?_
  · simp [go_sem]
  rintro i ρ m ⟨e1, g1, g2, h, nx, lv, rfl⟩ Q hN hR hX
  by_cases hlt : i < p.length
  · obtain ⟨x, hx⟩ : ∃ x, p[i]? = some x := ⟨_, List.getElem?_eq_getElem hlt⟩
    have hxp : (p.map dNd)[i]? = some (dNd x) := by rw [List.getElem?_map, hx]; rfl
    have hlt' : ((i : Int) < (p.length : Int)) = True := by simp; omega
    have h0 : ((0 : Int) ≤ (i : Int)) = True := by simp
    have ew : IntKind.i64.wrap ((i : Int) + 1) = (i : Int) + 1 := i64_in (by omega) (by omega)
    have hd : p.drop i = x :: p.drop (i + 1) := by
      rw [List.drop_eq_getElem_cons hlt]
      rw [List.getElem?_eq_getElem hlt] at hx
      cases hx; rfl
    rw [hd] at g2
    simp only [idxQ] at g2
    simp only [go_sem, e1, hlt', h0, hxp, dNd, hb]
    refine callV (hq x) ?_
    intro nx2 lv2
    cases w : q x with
    | true =>
      rw [if_pos w] at g2
      simp only [go_sem, w, hR]
      exact g2
    | false =>
      rw [if_neg (by simp [w])] at g2
      simp only [go_sem, w, hN, ew]
      refine ⟨by kernel_rfl, i + 1, ?_, by simp only; omega⟩
      simp only [go_sem]
      exact ⟨by simp, by omega, by rw [← g2]; rfl, _, _, _, rfl⟩
  · have hlt' : ((i : Int) < (p.length : Int)) = False := by simp; omega
    rw [List.drop_eq_nil_of_le (by omega)] at g2
    simp only [idxQ] at g2
    simp only [go_sem, e1, hlt', hX]
    exact g2

theorem f113g (p : List Nd) (hl : p.length ≤ 100000) (k : Nat) (cs : List DV) (q : Nd → Bool) (hb : bodyOk Try.prog k = true) (hq : ∀ x, PCall Try.prog k [eNd x, .ept cs] (RV (.bool (q x)))) :
    PCall Try.prog 113 [.sl 4 (p.map dNd) .no, .fn k [.ept cs]] (RV (.bool (p.any q))) := by
  refine PCall.of_body Try.func113 rfl Try.ntmps113 (congrArg Array.toList Try.results113) ?_
  intro E
  simp only [go_sem]
  refine callV (f134g p hl k cs q hb hq) ?_
  intro nx lv
  have := idxQ_iff (q := q) (l := p) (i := 0) (Int.le_refl 0)
  simp only [go_sem]
  cases hh : p.any q <;> simp [hh] at this ⊢ <;> omega

def anyM (a b : List Nd) : Bool := a.any fun x => b.any fun y => meets x y

theorem f115 (x y : Nd) : PCall Try.prog 115 [eNd y, .ept [.int .i64 x.k, .int .i64 x.p, .int .i64 x.o, .int .i64 x.a]] (RV (.bool (meets x y))) := by
  refine PCall.of_body Try.func115 rfl Try.ntmps115 (congrArg Array.toList Try.results115) ?_
  intro E
  simp only [go_sem, eNd]
  refine callV (f116 x y) ?_
  intro nx lv
  simp only [go_sem]
theorem f114 (b : List Nd) (hb : b.length ≤ 100000) (x : Nd) : PCall Try.prog 114 [eNd x, .ept [.sl 4 (b.map dNd)]] (RV (.bool (b.any fun y => meets x y))) := by
  refine PCall.of_body Try.func114 rfl Try.ntmps114 (congrArg Array.toList Try.results114) ?_
  intro E
  simp only [go_sem, eNd]
  refine .inl (quiet (f113g b hb 115 _ (fun y => meets x y) bodyOk_115 (fun y => f115 x y)) rfl ?_)
  simp only [go_sem]
theorem f85 (a b : List Nd) (ha : a.length ≤ 100000) (hb : b.length ≤ 100000) : PCall Try.prog 85 [.sl 4 (a.map dNd) .no, .sl 4 (b.map dNd) .no] (RV (.bool (anyM a b))) := by
  refine PCall.of_body Try.func85 rfl Try.ntmps85 (congrArg Array.toList Try.results85) ?_
  intro E
  simp only [go_sem]
  refine .inl (quiet (f113g a ha 114 _ (fun x => b.any fun y => meets x y) bodyOk_114 (fun x => f114 b hb x)) rfl ?_)
  simp only [go_sem, anyM]

set_option maxHeartbeats 4000000 in
set_option maxRecDepth 20000 in
theorem f38 (a b : List Nd) (ha : a.length ≤ 100000) (hb : b.length ≤ 100000) : PCall Try.prog 38 [.sl 4 (a.map dNd) .no, .sl 4 (b.map dNd) .no] (RV (.bool (anyM a b))) := by
  refine PCall.of_body Try.func38 rfl Try.ntmps38 (congrArg Array.toList Try.results38) ?_
  intro E
  simp only [go_sem]
  refine AW_loopH [4, 6, 8, 11, 12, 13, 14, 15, 16, 17, 18, 19, 20, 21, 22, 23, 24, 25]
    (fun (i : Nat) ρ m => ρ 11 = .int .i64 (i : Int) ∧ i ≤ a.length ∧ anyM (a.drop i) b = anyM a b ∧ ∃ h nx lv, m = ⟨h, [], nx, lv⟩) (fun i => a.length - i) 0 ?_ ?_
  · simp only [go_sem]
    first | exact ⟨Nat.zero_le _, _, _, _, rfl⟩ | exact ⟨Nat.zero_le _, rfl, _, _, _, rfl⟩
  rintro i ρ m ⟨e11, g1, g2, h, nx, lv, rfl⟩ Q hN hR hX
  by_cases hlt : i < a.length
  · obtain ⟨x, hx⟩ : ∃ x, a[i]? = some x := ⟨_, List.getElem?_eq_getElem hlt⟩
    have hxp : (a.map dNd)[i]? = some (dNd x) := by rw [List.getElem?_map, hx]; rfl
    have hlt' : ((i : Int) < (a.length : Int)) = True := by simp; omega
    have h0 : ((0 : Int) ≤ (i : Int)) = True := by simp
    have ew : IntKind.i64.wrap ((i : Int) + 1) = (i : Int) + 1 := i64_in (by omega) (by omega)
    have hd : a.drop i = x :: a.drop (i + 1) := by
      rw [List.drop_eq_getElem_cons hlt]
      rw [List.getElem?_eq_getElem hlt] at hx
      cases hx; rfl
    rw [hd] at g2
    simp only [anyM, List.any_cons] at g2
    obtain ⟨g6, hg6⟩ : ∃ g6, genO (AB.hget h 6) = g6 := ⟨_, rfl⟩
    simp only [go_sem, e11, hlt', h0, hx, hxp, Option.map_some, dNd, hg6]
    refine AW_loopH [4, 8, 17, 18, 19, 20, 21, 22, 23, 24]
      (fun (j : Nat) ρ m => ρ 17 = .int .i64 (j : Int) ∧ j ≤ b.length ∧ ((b.drop j).any fun y => meets x y) = (b.any fun y => meets x y) ∧ ∃ h nx lv, m = ⟨h, [], nx, lv⟩ ∧ AB.hget h 6 = some (g6, [.int .i64 x.k, .int .i64 x.p, .int .i64 x.o, .int .i64 x.a])) (fun j => b.length - j) 0 ?_ ?_
    · simp only [go_sem]
      first | exact ⟨Nat.zero_le _, _, _, _, rfl, by simp [go_sem]⟩ | exact ⟨Nat.zero_le _, rfl, _, _, _, rfl, by simp [go_sem]⟩
    rintro j ρ2 m ⟨e17, k1, k2, h2, nx2, lv2, rfl, b6⟩ Q2 hN2 hR2 hX2
    by_cases hlt2 : j < b.length
    · obtain ⟨y, hy⟩ : ∃ y, b[j]? = some y := ⟨_, List.getElem?_eq_getElem hlt2⟩
      have hyp : (b.map dNd)[j]? = some (dNd y) := by rw [List.getElem?_map, hy]; rfl
      have hlt3 : ((j : Int) < (b.length : Int)) = True := by simp; omega
      have h02 : ((0 : Int) ≤ (j : Int)) = True := by simp
      have ew2 : IntKind.i64.wrap ((j : Int) + 1) = (j : Int) + 1 := i64_in (by omega) (by omega)
      have hd2 : b.drop j = y :: b.drop (j + 1) := by
        rw [List.drop_eq_getElem_cons hlt2]
        rw [List.getElem?_eq_getElem hlt2] at hy
        cases hy; rfl
      rw [hd2, List.any_cons] at k2
      obtain ⟨g8, hg8⟩ : ∃ g8, genO (AB.hget h2 8) = g8 := ⟨_, rfl⟩
      simp only [go_sem, e17, hlt3, h02, hy, hyp, Option.map_some, dNd, hg8, b6]
      refine callV (f87 x y) ?_
      intro nx3 lv3
      cases w : meets x y with
      | true =>
        rw [w, Bool.true_or] at k2
        rw [← k2, Bool.true_or] at g2
        simp only [go_sem, w, hR2, hR]
        unfold anyM
        rw [← g2]
      | false =>
        rw [w, Bool.false_or] at k2
        simp only [go_sem, w, hN2, ew2]
        refine ⟨by kernel_rfl, j + 1, ?_, by simp only; omega⟩
        simp only [go_sem]
        exact ⟨by simp, by omega, k2, _, _, _, rfl, by simp [go_sem, b6]⟩
    · have hlt3 : ((j : Int) < (b.length : Int)) = False := by simp; omega
      rw [List.drop_eq_nil_of_le (by omega), List.any_nil] at k2
      rw [← k2, Bool.false_or] at g2
      simp only [go_sem, e17, hlt3, hX2, hN, ew]
      refine ⟨by kernel_rfl, i + 1, ?_, by simp only; omega⟩
      simp only [go_sem]
      exact ⟨by simp, by omega, g2, _, _, _, rfl⟩
  · have hlt' : ((i : Int) < (a.length : Int)) = False := by simp; omega
    rw [List.drop_eq_nil_of_le (by omega)] at g2
    simp only [go_sem, e11, hlt', hX]
    rw [← g2]
    rfl
end Go.Proofs.Yteadhjclchjfjaa
