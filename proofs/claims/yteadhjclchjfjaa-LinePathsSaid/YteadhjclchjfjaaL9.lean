/- The law LinePaths over its contracts, for all nets and lists of steps. -/
import Derived.Test.YteadhjclchjfjaaL8
namespace Go.Proofs.Yteadhjclchjfjaa
set_option linter.unusedSimpArgs false
set_option linter.unusedVariables false
open Go.AB

theorem revP_len (p : List Stp) : (revP p).length = p.length := by simp [revP]
theorem revP_at {p : List Stp} {i : Nat} {x : Stp} (hx : p[i]? = some x) (hi : i < p.length) : (revP p)[p.length - 1 - i]? = some (revS x) := by
  unfold revP
  rw [List.getElem?_map, List.getElem?_reverse (by omega)]
  have : p.length - 1 - (p.length - 1 - i) = i := by omega
  rw [this, hx]; rfl

set_option maxHeartbeats 8000000 in
set_option maxRecDepth 20000 in
theorem f4 (n : Net) (p : List Stp) (hb : NetB n) (hp : p.length ≤ 5864062014634) : PCall Try.prog 4 [eNet n, .sl 3 (p.map dStp) .no] (RV (.bool true)) := by
  refine PCall.of_body Try.func4 rfl Try.ntmps4 (congrArg Array.toList Try.results4) ?_
  intro E
  simp only [go_sem, eNet, nCells]
  refine callV (f23 p hp) ?_
  intro nx lv
  have hrl : ((revP p).length : Int) = (p.length : Int) := by rw [revP_len]
  simp only [go_sem, hrl]
  refine AW_loopH [4, 6, 7, 24, 25, 26, 27, 28, 29, 30, 31, 32, 33, 34, 35, 36, 37, 38, 39, 40, 41, 42, 43, 44, 45]
    (fun (i : Nat) ρ m => ρ 24 = .int .i64 (i : Int) ∧ i ≤ p.length ∧ ∃ h nx lv, m = ⟨h, [], nx, lv⟩ ∧ AB.hget h 2 = some (0, nCells n)) (fun i => p.length - i) 0 ?_ ?_
  · simp only [go_sem]
    exact ⟨Nat.zero_le _, _, _, _, rfl, by simp [go_sem, nCells]⟩
  rintro i ρ m ⟨e1, g1, h, nx, lv, rfl, hb2⟩ Q hN hR hX
  simp only [nCells] at hb2
  by_cases hlt : i < p.length
  · obtain ⟨x, hx⟩ : ∃ x, p[i]? = some x := ⟨_, List.getElem?_eq_getElem hlt⟩
    have hxp : (p.map dStp)[i]? = some (dStp x) := by rw [List.getElem?_map, hx]; rfl
    have hyp : ((revP p).map dStp)[p.length - 1 - i]? = some (dStp (revS x)) := by rw [List.getElem?_map, revP_at hx hlt]; rfl
    have hlt' : ((i : Int) < (p.length : Int)) = True := by simp; omega
    have h0 : ((0 : Int) ≤ (i : Int)) = True := by simp
    have ew : IntKind.i64.wrap ((i : Int) + 1) = (i : Int) + 1 := i64_in (by omega) (by omega)
    have ew1 : IntKind.i64.wrap ((p.length : Int) - 1) = (p.length : Int) - 1 := i64_in (by omega) (by omega)
    have ew2 : IntKind.i64.wrap ((p.length : Int) - 1 - i) = (p.length : Int) - 1 - i := i64_in (by omega) (by omega)
    have ei : ((p.length : Int) - 1 - i).toNat = p.length - 1 - i := by omega
    have hi1 : (0 ≤ (p.length : Int) - 1 - i) = True := by simp; omega
    have hi2 : ((p.length : Int) - 1 - i < (p.length : Int)) = True := by simp; omega
    simp only [go_sem, e1, hlt', h0, hxp, dStp]
    refine drawn (by kernel_rfl) (by kernel_rfl) ?_
    simp only [go_sem, ew1, ew2, ei, hi1, hi2, hrl, hyp, dStp, revS, ew, hN]
    intro _ _ _ _
    refine ⟨by kernel_rfl, i + 1, ?_, by simp only; omega⟩
    simp only [go_sem]
    exact ⟨by simp, by omega, _, _, _, rfl, by simp [go_sem, hb2, nCells]⟩
  have hlt' : ((i : Int) < (p.length : Int)) = False := by simp; omega
  simp only [go_sem, e1, hlt', hX, hb2]
  refine callV (f24 n p hb hp) ?_
  intro nx lv
  simp only [go_sem, hb2]
  refine callV (f25 n p hb hp) ?_
  intro nx lv
  simp only [go_sem, hb2]
  refine callV (f26 n p hb hp) ?_
  intro nx lv
  simp only [go_sem, hb2]
  refine callV (f17 n hb) ?_
  intro nx lv
  by_cases q0 : netE n = 0
  rotate_left
  · have x1 : checkP n p = netE n := by simp [checkP, q0]
    have x2 : lengthV n p = 0 := by simp [lengthV, x1, q0]
    have x3 : pcsV n p = [] := by simp [pcsV, x1, q0]
    simp only [go_sem, q0, x1, x2, x3]
  have x1 : checkP n p = pathE n p := by simp [checkP, q0]
  simp only [go_sem, q0, hb2]
  refine callV (f27 n p hb (netE_kinds q0) hp) ?_
  intro nx lv
  by_cases q1 : pathE n p = 0
  rotate_left
  · have x2 : lengthV n p = 0 := by simp [lengthV, x1, q1]
    have x3 : pcsV n p = [] := by simp [pcsV, x1, q1]
    simp only [go_sem, q1, x1, x2, x3]
  have x2 : lengthV n p = sumLen n p := by simp [lengthV, x1, q1]
  have x3 : pcsV n p = p.map (pcF n) := by simp [pcsV, x1, q1]
  have hl := netE_lens q0
  obtain ⟨p60, hst⟩ := pathE_step q1
  have hbd := sumLen_bd hl p
  have hpc : ∀ y ∈ p.map (pcF n), 0 ≤ y.l ∧ y.l ≤ 300000 := by
    intro y hy
    obtain ⟨x, hx, rfl⟩ := List.mem_map.1 hy
    obtain ⟨i, hi⟩ := List.getElem?_of_mem hx
    obtain ⟨c, hc, _⟩ := hst i x hi
    have := hl c (List.mem_of_getElem? hc)
    have ew : IntKind.i64.wrap (100 * c.len) = 100 * c.len := i64_in (by omega) (by omega)
    simp only [pcF, hc, ew]
    omega
  have hsum : sumPc (p.map (pcF n)) = 100 * sumLen n p := by
    have key : ∀ l : List Stp, (∀ x ∈ l, (pcF n x).l = 100 * lenAt n x) → sumPc (l.map (pcF n)) = 100 * sumLen n l := by
      intro l
      induction l with
      | nil => intro _; rfl
      | cons x l ih =>
        intro h
        have h1 := h x (List.mem_cons_self ..)
        have h2 := ih (fun y hy => h y (List.mem_cons_of_mem _ hy))
        simp only [sumPc, sumLen, List.map_cons, List.sum_cons] at h2 ⊢
        omega
    refine key p fun x hx => ?_
    obtain ⟨i, hi⟩ := List.getElem?_of_mem hx
    obtain ⟨c, hc, _⟩ := hst i x hi
    have := hl c (List.mem_of_getElem? hc)
    have ew : IntKind.i64.wrap (100 * c.len) = 100 * c.len := i64_in (by omega) (by omega)
    simp only [pcF, lenAt, hc, ew]
    rfl
  have ew5 : IntKind.i64.wrap (100 * sumLen n p) = 100 * sumLen n p := i64_in (by omega) (by omega)
  simp only [go_sem, q1, x1, x2, x3, hb2]
  refine callV (f28 n p hb q1) ?_
  intro nx lv
  simp only [go_sem, q1]
  refine callV (f29 (p.map (pcF n)) (by simp; omega)) ?_
  intro nx lv
  simp only [go_sem, ew5]
  refine callV (f30 (p.map (pcF n)) (by simp; omega) hpc) ?_
  intro nx lv
  simp only [go_sem, hsum]

theorem openStp {y : DV} (h : ElD Try.prog 49 y) : ∃ x : Stp, y = dStp x := by
  obtain ⟨ns, q1, rfl, _⟩ := h.ints 4 (n := 3) (by kernel_rfl) (by kernel_rfl)
  match ns, q1 with
  | [a, b, c], _ => exact ⟨⟨a, b, c⟩, rfl⟩

theorem law4 (xs : List DV) (h : ElDs Try.prog [28, 46] xs) : PCall Try.prog 4 (xs.map toAV) (RV (.bool true)) := by
  obtain ⟨x, xs, rfl, hx, h⟩ := h.cons_inv
  obtain ⟨y, xs, rfl, hy, h⟩ := h.cons_inv
  cases h.nil_inv
  obtain ⟨n, hn, hb⟩ := openNet hx
  obtain ⟨l1, rfl, b1, e1⟩ := hy.sl_inv Try.underlying46 (z := 3) (y := 24) (by kernel_rfl) (by kernel_rfl)
  obtain ⟨p, rfl, _⟩ := map_of_each (f := dStp) (p := fun _ => True) l1 (fun y hy => by
    obtain ⟨a, ha⟩ := openStp (e1 y hy)
    exact ⟨a, ha, trivial⟩)
  simp only [List.length_map] at b1
  simp only [List.map_cons, List.map_nil, hn, toAV]
  exact f4 n p hb (by omega)
end Go.Proofs.Yteadhjclchjfjaa
