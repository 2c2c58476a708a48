/- Paths: the reference's functions. -/
import Derived.Test.YteadhjclchjfjaaL6
namespace Go.Proofs.Yteadhjclchjfjaa
set_option linter.unusedSimpArgs false
set_option linter.unusedVariables false
open Go.AB

set_option maxRecDepth 20000 in
theorem f75 (l : List Int) (s : Int) (hl : l.length ≤ 140737488351232) : PCall Try.prog 75 [lInts l, .int .i64 s] (RV (.bool (decide (s ∈ l)))) := by
  refine PCall.of_body Try.func75 rfl Try.ntmps75 (congrArg Array.toList Try.results75) ?_
  intro E
  simp only [go_sem, lInts]
  refine AW_loopH [4, 6, 9, 10, 11, 12, 13, 14, 15, 16]
    (fun (i : Nat) ρ m => ρ 9 = .int .i64 (i : Int) ∧ i ≤ l.length ∧ s ∉ l.take i ∧ ∃ h nx lv, m = ⟨h, [], nx, lv⟩) (fun i => l.length - i) 0 ?_ ?_
  · simp [go_sem]
  rintro i ρ m ⟨e1, g1, g2, h, nx, lv, rfl⟩ Q hN hR hX
  by_cases hlt : i < l.length
  · obtain ⟨x, hx⟩ : ∃ x, l[i]? = some x := ⟨_, List.getElem?_eq_getElem hlt⟩
    have hp : (l.map fun x => DV.int .i64 x)[i]? = some (.int .i64 x) := by rw [List.getElem?_map, hx]; rfl
    have hlt' : ((i : Int) < (l.length : Int)) = True := by simp; omega
    have h0 : ((0 : Int) ≤ (i : Int)) = True := by simp
    have ew : IntKind.i64.wrap ((i : Int) + 1) = (i : Int) + 1 := i64_in (by omega) (by omega)
    have htk : l.take (i + 1) = l.take i ++ [x] := by rw [List.take_add_one, hx]; rfl
    by_cases q : x = s
    · have q' : (x = s) = True := eq_true q
      simp only [go_sem, e1, hlt', h0, hp, q', hR]
      have : s ∈ l := by rw [← q]; exact List.mem_of_getElem? hx
      simp [this]
    · have q' : (x = s) = False := eq_false q
      simp only [go_sem, e1, hlt', h0, hp, q', hN, ew]
      refine ⟨by kernel_rfl, i + 1, ?_, by simp only; omega⟩
      simp only [go_sem]
      refine ⟨by simp, by omega, ?_, _, _, _, rfl⟩
      rw [htk]
      simp only [List.mem_append, List.mem_singleton]
      rintro (h1 | h1)
      · exact g2 h1
      · exact q h1.symm
  · have hlt' : ((i : Int) < (l.length : Int)) = False := by simp; omega
    rw [List.take_of_length_le (by omega)] at g2
    simp only [go_sem, e1, hlt', hX]
    simp [g2]

set_option maxRecDepth 20000 in
theorem f78 (p : List Stp) (s : Int) (hl : p.length ≤ 5864062014634) : PCall Try.prog 78 [.sl 3 (p.map dStp) .no, .int .i64 s] (RV (.bool (psec p s))) := by
  refine PCall.of_body Try.func78 rfl Try.ntmps78 (congrArg Array.toList Try.results78) ?_
  intro E
  simp only [go_sem]
  refine AW_loopH [4, 6, 9, 10, 11, 12, 13, 14, 15, 16, 17]
    (fun (i : Nat) ρ m => ρ 9 = .int .i64 (i : Int) ∧ i ≤ p.length ∧ psec (p.take i) s = false ∧ ∃ h nx lv, m = ⟨h, [], nx, lv⟩) (fun i => p.length - i) 0 ?_ ?_
  · simp [go_sem, psec]
  rintro i ρ m ⟨e1, g1, g2, h, nx, lv, rfl⟩ Q hN hR hX
  by_cases hlt : i < p.length
  · obtain ⟨x, hx⟩ : ∃ x, p[i]? = some x := ⟨_, List.getElem?_eq_getElem hlt⟩
    have hxp : (p.map dStp)[i]? = some (dStp x) := by rw [List.getElem?_map, hx]; rfl
    have hlt' : ((i : Int) < (p.length : Int)) = True := by simp; omega
    have h0 : ((0 : Int) ≤ (i : Int)) = True := by simp
    have ew : IntKind.i64.wrap ((i : Int) + 1) = (i : Int) + 1 := i64_in (by omega) (by omega)
    have htk : p.take (i + 1) = p.take i ++ [x] := by rw [List.take_add_one, hx]; rfl
    by_cases q : x.s = s
    · have q' : (x.s = s) = True := eq_true q
      simp only [go_sem, e1, hlt', h0, hxp, dStp, q', hR]
      have : psec p s = true := List.any_eq_true.2 ⟨x, List.mem_of_getElem? hx, by simp [q]⟩
      simp [this]
    · have q' : (x.s = s) = False := eq_false q
      simp only [go_sem, e1, hlt', h0, hxp, dStp, q', hN, ew]
      refine ⟨by kernel_rfl, i + 1, ?_, by simp only; omega⟩
      simp only [go_sem]
      refine ⟨by simp, by omega, ?_, _, _, _, rfl⟩
      rw [htk]
      unfold psec at g2 ⊢
      rw [List.any_append, g2]
      simp [q]
  · have hlt' : ((i : Int) < (p.length : Int)) = False := by simp; omega
    rw [List.take_of_length_le (by omega)] at g2
    simp only [go_sem, e1, hlt', hX, g2]

set_option maxRecDepth 20000 in
theorem f76 (k e : Int) (h1 : 1 ≤ k) (h2 : k ≤ 3) (h3 : 0 ≤ e) (h4 : e < endsF k) : PCall Try.prog 76 [.int .i64 k, .int .i64 e] (RV (lInts (outsF k e))) := by
  refine PCall.of_bodyE Try.func76 rfl Try.ntmps76 (congrArg Array.toList Try.results76) ?_
  intro E
  have w0 : IntKind.i64.wrap 0 = 0 := by rfl
  have w1 : IntKind.i64.wrap 1 = 1 := by rfl
  have kk : k = 1 ∨ k = 2 ∨ k = 3 := by omega
  rcases kk with rfl | rfl | rfl
  · have he : e = 0 ∨ e = 1 := by simp [endsF] at h4; omega
    rcases he with rfl | rfl <;> simp only [go_sem, w0, w1] <;> rfl
  · have he : e = 0 ∨ e = 1 ∨ e = 2 := by simp [endsF] at h4; omega
    rcases he with rfl | rfl | rfl <;> simp only [go_sem, w0, w1] <;> rfl
  · have he : e = 0 ∨ e = 1 ∨ e = 2 ∨ e = 3 := by simp [endsF] at h4; omega
    rcases he with rfl | rfl | rfl | rfl <;> simp only [go_sem, w0, w1] <;> rfl

set_option maxRecDepth 20000 in
theorem f29 (l : List Pc) (hl : l.length ≤ 5864062014634) : PCall Try.prog 29 [.sl 3 (l.map dPc) .no, .sl 3 (l.map dPc) .no] (RV (.bool true)) := by
  refine PCall.of_body Try.func29 rfl Try.ntmps29 (congrArg Array.toList Try.results29) ?_
  intro E
  simp only [go_sem]
  refine AW_loopH [4, 5, 13, 14, 15, 16, 17, 18, 19, 20, 21, 22, 23, 24, 25]
    (fun (i : Nat) ρ m => ρ 13 = .int .i64 (i : Int) ∧ i ≤ l.length ∧ ∃ h nx lv, m = ⟨h, [], nx, lv⟩) (fun i => l.length - i) 0 ?_ ?_
  · simp [go_sem]
  rintro i ρ m ⟨e1, g1, h, nx, lv, rfl⟩ Q hN hR hX
  by_cases hlt : i < l.length
  · obtain ⟨x, hx⟩ : ∃ x, l[i]? = some x := ⟨_, List.getElem?_eq_getElem hlt⟩
    have hxp : (l.map dPc)[i]? = some (dPc x) := by rw [List.getElem?_map, hx]; rfl
    have hlt' : ((i : Int) < (l.length : Int)) = True := by simp; omega
    have h0 : ((0 : Int) ≤ (i : Int)) = True := by simp
    have ew : IntKind.i64.wrap ((i : Int) + 1) = (i : Int) + 1 := i64_in (by omega) (by omega)
    simp only [go_sem, e1, hlt']
    refine drawn (by kernel_rfl) (by kernel_rfl) ?_
    simp only [go_sem, hxp, dPc, h0, ew, hN]
    refine fun _ _ _ _ => ⟨by kernel_rfl, i + 1, ?_, by simp only; omega⟩
    simp only [go_sem]
    exact ⟨by simp, by omega, _, _, _, rfl⟩
  · have hlt' : ((i : Int) < (l.length : Int)) = False := by simp; omega
    simp only [go_sem, e1, hX, hlt']

def sumPc (l : List Pc) : Int := (l.map Pc.l).sum
theorem sumPc_bd : ∀ (l : List Pc), (∀ x ∈ l, 0 ≤ x.l ∧ x.l ≤ 300000) → 0 ≤ sumPc l ∧ sumPc l ≤ 300000 * l.length
  | [], _ => by simp [sumPc]
  | x :: l, h => by
    have ih := sumPc_bd l (fun y hy => h y (List.mem_cons_of_mem _ hy))
    have := h x (List.mem_cons_self ..)
    simp only [sumPc, List.map_cons, List.sum_cons, List.length_cons] at ih ⊢
    omega

set_option maxRecDepth 20000 in
theorem f30 (l : List Pc) (hl : l.length ≤ 60) (hb : ∀ x ∈ l, 0 ≤ x.l ∧ x.l ≤ 300000) : PCall Try.prog 30 [.sl 3 (l.map dPc) .no] (RV (.int .i64 (sumPc l))) := by
  refine PCall.of_body Try.func30 rfl Try.ntmps30 (congrArg Array.toList Try.results30) ?_
  intro E
  simp only [go_sem]
  refine AW_loopH [3, 5, 8, 9, 10, 11, 12, 13, 14, 15, 16]
    (fun (i : Nat) ρ m => ρ 8 = .int .i64 (i : Int) ∧ i ≤ l.length ∧ ρ 3 = .int .i64 (sumPc (l.take i)) ∧ ∃ h nx lv, m = ⟨h, [], nx, lv⟩) (fun i => l.length - i) 0 ?_ ?_
  · simp [go_sem, sumPc]
  rintro i ρ m ⟨e1, g1, e3, h, nx, lv, rfl⟩ Q hN hR hX
  by_cases hlt : i < l.length
  · obtain ⟨x, hx⟩ : ∃ x, l[i]? = some x := ⟨_, List.getElem?_eq_getElem hlt⟩
    have hxp : (l.map dPc)[i]? = some (dPc x) := by rw [List.getElem?_map, hx]; rfl
    have hlt' : ((i : Int) < (l.length : Int)) = True := by simp; omega
    have h0 : ((0 : Int) ≤ (i : Int)) = True := by simp
    have ew : IntKind.i64.wrap ((i : Int) + 1) = (i : Int) + 1 := i64_in (by omega) (by omega)
    have htk : l.take (i + 1) = l.take i ++ [x] := by rw [List.take_add_one, hx]; rfl
    have hs : sumPc (l.take (i + 1)) = sumPc (l.take i) + x.l := by rw [htk]; simp [sumPc]
    have hbd := sumPc_bd (l.take i) (fun y hy => hb y (List.mem_of_mem_take hy))
    have hle : (l.take i).length ≤ 60 := by rw [List.length_take]; omega
    have hxb := hb x (List.mem_of_getElem? hx)
    have ew2 : IntKind.i64.wrap (sumPc (l.take i) + x.l) = sumPc (l.take i) + x.l := i64_in (by omega) (by omega)
    simp only [go_sem, e1, e3, hlt', h0, hxp, dPc, ew, ew2, hN]
    refine ⟨by kernel_rfl, i + 1, ?_, by simp only; omega⟩
    simp only [go_sem]
    exact ⟨by simp, by omega, by rw [hs], _, _, _, rfl⟩
  · have hlt' : ((i : Int) < (l.length : Int)) = False := by simp; omega
    rw [List.take_of_length_le (by omega)] at e3
    simp only [go_sem, e1, e3, hX, hlt']
end Go.Proofs.Yteadhjclchjfjaa
