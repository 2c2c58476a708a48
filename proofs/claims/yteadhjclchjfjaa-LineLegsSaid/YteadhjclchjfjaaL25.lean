/- Needs: what a step looks for. -/
import Derived.Test.YteadhjclchjfjaaL23
namespace Go.Proofs.Yteadhjclchjfjaa
set_option linter.unusedSimpArgs false
set_option linter.unusedVariables false
open Go.AB

theorem freeL_step (x : Stp) (m : Nat) (j : Int) : freeL x (m + 1) j = if j = x.i ∨ j = x.o then freeL x m (j + 1) else j :: freeL x m (j + 1) := rfl
theorem freeL_len (x : Stp) : ∀ (m : Nat) (j : Int), (freeL x m j).length ≤ m
  | 0, _ => by simp [freeL]
  | m + 1, j => by
    have := freeL_len x m (j + 1)
    rw [freeL_step]
    split
    · omega
    · simp; omega
theorem idxLook : IdxOk [.own 2 0, .own 3 0, .own 4 0, .out 0, .out 1] := by
  intro i x hx
  match i, hx with
  | 0, hx => cases hx; rfl
  | 1, hx => cases hx; rfl
  | 2, hx => cases hx; rfl
  | 3, hx => cases hx; rfl
  | 4, hx => cases hx; rfl
  | n + 5, hx => simp at hx

set_option maxHeartbeats 4000000 in
set_option maxRecDepth 20000 in
theorem f119 (n : Net) (hb : NetB n) (he : netE n = 0) (r : Rt) (hr : r.st.length ≤ 1000) (lap : List Stp) (hlap : lap.length ≤ 1000) (i : Nat) (x : Stp) (hx : r.st[i]? = some x) (hok1 : StepOk n x) (l : List Nd) (tok : Tok) (ks vs : List AV) (nx : Nat) (lv : Nat → Prop) (hl : l.length ≤ 40000) (hs : SeenN l ks vs) (hok : okT ⟨[], [kCells n r lap l tok (.out 1), [.mapc ks vs]], nx, lv⟩ tok) :
    QCall Try.prog 119 ⟨[], [kCells n r lap l tok (.out 1), [.mapc ks vs]], nx, lv⟩ [.ptr (.out 0) 0, .int .i64 i] (outN n r lap (lookS n r.fr r.st lap i x l) (.tup [])) := by
  refine QCall.of_body Try.func119 rfl Try.ntmps119 (congrArg Array.toList Try.results119) ?_
  intro E
  generalize hF : lookS n r.fr r.st lap i x l = F
  unfold lookS at hF
  rw [← free_eq he hok1] at hF
  obtain ⟨s1, s2⟩ := hok1.sec
  obtain ⟨c, hc⟩ : ∃ c, n.sects[x.s.toNat]? = some c := ⟨_, List.getElem?_eq_getElem (by omega)⟩
  have hc2 : (n.sects.map dSect)[x.s.toNat]? = some (dSect c) := by rw [List.getElem?_map, hc]; rfl
  have hkd : kindAt n x.s = c.kind := by simp [kindAt, hc]
  have i1 : ((0 : Int) ≤ x.s) = True := eq_true s1
  have i2 : (x.s < (n.sects.length : Int)) = True := eq_true s2
  have hilt : i < r.st.length := (List.getElem?_eq_some_iff.1 hx).1
  have j1 : ((0 : Int) ≤ (i : Int)) = True := by simp
  have j2 : ((i : Int) < (r.st.length : Int)) = True := by simp; omega
  have hx2 : (r.st.map dStp)[i]? = some (dStp x) := by rw [List.getElem?_map, hx]; rfl
  rw [hkd] at hF
  have he4 := endsF_bd c.kind
  simp only [go_sem, kCells, nCells, List.cons_append, List.nil_append]
  refine drawnP [2, 2, 2, 2, 2, 2, 2, 2, 3, 1] [(8, [2, 2, 2, 2, 2, 2, 2, 2, 0, 3]), (9, [0, 0, 0, 0, 0, 0, 0, 0, 0, 0])] 47 (by kernel_rfl) (by kernel_rfl) (by kernel_rfl) (by kernel_rfl) rfl ?_
  simp only [go_sem, j1, j2, hx, hx2, Option.map_some, dStp]
  intro nx1 lv1 hn1 hl1 nx2 lv2 hn2 hl2 nx3 lv3 hn3 hl3
  refine drawn (by kernel_rfl) (by kernel_rfl) ?_
  simp only [go_sem, i1, i2, hc, hc2, Option.map_some, dSect]
  refine quietD (f57 c.kind) (fun _ => rfl) ?_
  simp only [go_sem, kDraw_eq]
  intro nx4 lv4 hn4 hl4
  generalize endsF c.kind = m at hF he4 ⊢
  obtain ⟨m, rfl⟩ : ∃ q : Nat, m = q := ⟨m.toNat, by omega⟩
  simp only [Int.toNat_natCast] at hF
  refine AW_loopH [6, 27, 28, 29, 30, 31, 32, 33, 34, 35, 36, 37, 38, 39, 40, 41, 42, 43, 44, 45, 46]
    (fun (j : Nat) ρ M => ρ 27 = .int .i64 (j : Int) ∧ j ≤ m ∧ ∃ h nx lv tok ks vs l', M = ⟨h, [kCells n r lap l' tok (.out 1), [.mapc ks vs]], nx, lv⟩ ∧ AB.hget h 2 = some (0, [.ptr (.out 0) 0]) ∧ AB.hget h 3 = some (0, [.int .i64 i]) ∧
      AB.hget h 4 = some (0, [.fn 138 [.ptr (.own 2 0) 0, .ptr (.own 3 0) 0, .ptr (.own 4 0) 0]]) ∧ AB.hget h 5 = some (0, [.int .i64 x.s, .int .i64 x.i, .int .i64 x.o]) ∧ okT M tok ∧ SeenN l' ks vs ∧ l'.length ≤ 40000 + j * 256 ∧ overO (lookF n r.fr r.st lap i 8) x.s (freeL x (m - j) j) l' = F) (fun j => m - j) 0 ?_ ?_
  · simp only [go_sem]
    exact ⟨Nat.zero_le _, _, _, _, tok, ks, vs, l, rfl, by simp [go_sem], by simp [go_sem], by simp [go_sem], by simp [go_sem], okT_mono hok fun j z => hl4 j (hl3 j (hl2 j (hl1 j z))), hs, by omega, hF⟩
  rintro j ρ M ⟨e27, g1, h, nx5, lv5, tok5, ks5, vs5, l5, rfl, b2, b3, b4, b5, hok5, hs5, hl5, g2⟩ Q hN hR hX
  by_cases hlt : j < m
  · have hlt' : ((j : Int) < (m : Int)) = True := by simp; omega
    have ew : IntKind.i64.wrap ((j : Int) + 1) = (j : Int) + 1 := i64_in (by omega) (by omega)
    have hsub : m - j = (m - (j + 1)) + 1 := by omega
    rw [hsub, freeL_step] at g2
    simp only [go_sem, e27, hlt', b5]
    by_cases a1 : (j : Int) = x.i
    · have a1' : ((j : Int) = x.i) = True := eq_true a1
      rw [if_pos (.inl a1)] at g2
      simp only [go_sem, a1', hN, ew]
      refine ⟨by kernel_rfl, j + 1, ?_, by simp only; omega⟩
      simp only [go_sem]
      exact ⟨by simp, by omega, _, _, _, tok5, ks5, vs5, l5, rfl, b2, b3, b4, b5, okT_mono hok5 fun _ z => z, hs5, by omega, g2⟩
    have a1' : ((j : Int) = x.i) = False := eq_false a1
    by_cases a2 : (j : Int) = x.o
    · have a2' : ((j : Int) = x.o) = True := eq_true a2
      rw [if_pos (.inr a2)] at g2
      simp only [go_sem, a1', a2', hN, ew]
      refine ⟨by kernel_rfl, j + 1, ?_, by simp only; omega⟩
      simp only [go_sem]
      exact ⟨by simp, by omega, _, _, _, tok5, ks5, vs5, l5, rfl, b2, b3, b4, b5, okT_mono hok5 fun _ z => z, hs5, by omega, g2⟩
    have a2' : ((j : Int) = x.o) = False := eq_false a2
    rw [if_neg (by simp [a1, a2]), overO_cons] at g2
    have hlen := lookF_len n r.fr r.st lap i 8 l5 x.s j
    simp only [go_sem, a1', a2', b4, b5]
    refine .inr (callL (f138 n hb he r hr lap hlap i 8 l5 x.s j 0 tok5 ks5 vs5 nx5 lv5 (by omega) (by omega) (by omega) hs5 (okT_mono hok5 fun _ z => z)) idxLook (by simp [AH.cells, b2]) (by simp [AH.cells, b3]) (by simp [AH.cells, b4]) rfl rfl hs5 ?_)
    intro tok8 ks8 vs8 nx8 lv8 hok8 hs8
    simp only [go_sem, AH.setAll, lkCells, hN, ew]
    refine ⟨by kernel_rfl, j + 1, ?_, by simp only; omega⟩
    simp only [go_sem]
    refine ⟨by simp, by omega, _, _, _, tok8, ks8, vs8, _, rfl, ?_, ?_, ?_, ?_, okT_mono hok8 fun _ z => z, hs8, by omega, g2⟩
    · simp [go_sem]
    · simp [go_sem]
    · simp [go_sem]
    · simp [go_sem, b5]
  · have hlt' : ((j : Int) < (m : Int)) = False := by simp; omega
    have hz : m - j = 0 := by omega
    rw [hz] at g2
    simp only [freeL, overO_nil] at g2
    subst g2
    simp only [go_sem, e27, hlt', hX]
    exact ⟨rfl, tok5, ks5, vs5, rfl, okT_mono hok5 fun _ z => z, hs5⟩
end Go.Proofs.Yteadhjclchjfjaa
