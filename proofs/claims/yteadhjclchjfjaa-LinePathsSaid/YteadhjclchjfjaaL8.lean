/- Paths: the reference's check of a path. -/
import Derived.Test.YteadhjclchjfjaaL7
namespace Go.Proofs.Yteadhjclchjfjaa
set_option linter.unusedSimpArgs false
set_option linter.unusedVariables false
open Go.AB

set_option maxHeartbeats 4000000 in
set_option maxRecDepth 20000 in
theorem f27 (n : Net) (p : List Stp) (hb : NetB n) (hks : KindsOk n) (hp : p.length ≤ 5864062014634) : PCall Try.prog 27 [eNet n, .sl 3 (p.map dStp) .no] (RV (.int .i64 (pathE n p))) := by
  refine PCall.of_body Try.func27 rfl Try.ntmps27 (congrArg Array.toList Try.results27) ?_
  intro E
  have hsc := hb.sc
  simp only [go_sem, eNet, nCells]
  by_cases q1 : 60 < p.length
  · have q1' : ((60 : Int) < (p.length : Int)) = True := by simp; omega
    simp only [go_sem, q1']
    simp [pathE, q1]
  have q1' : ((60 : Int) < (p.length : Int)) = False := by simp; omega
  have e2 : pathE n p = firstE (stepE n p) p.length 0 := by simp [pathE, q1]
  simp only [go_sem, q1']
  refine AW_loopH [4, 5, 6, 7, 8, 9, 15, 16, 17, 18, 19, 20, 21, 22, 23, 24, 25, 26, 27, 28, 29, 30, 31, 32, 33, 34, 35, 36, 37, 38, 39, 40, 41, 42, 43, 44, 45, 46, 47, 48, 49, 50, 51, 52, 53, 54, 55, 56, 57, 58, 59, 60, 61, 62, 63, 64, 65, 66, 67, 68, 69, 70, 71, 72, 73, 74, 75, 76, 77, 78, 79, 80, 81, 82, 83, 84, 85, 86, 87, 88, 89, 90]
    (fun (i : Nat) ρ m => ρ 15 = .int .i64 (i : Int) ∧ i ≤ p.length ∧ firstE (stepE n p) (p.length - i) i = pathE n p ∧
      ∃ h nx lv, m = ⟨h, [], nx, lv⟩ ∧ AB.hget h 2 = some (0, nCells n)) (fun i => p.length - i) 0 ?_ ?_
  · simp only [go_sem]
    exact ⟨Nat.zero_le _, e2.symm, _, _, _, rfl, by simp [go_sem, nCells]⟩
  rintro i ρ m ⟨e1, g1, g2, h, nx, lv, rfl, hb2⟩ Q hN hR hX
  simp only [nCells] at hb2
  by_cases hlt : i < p.length
  rotate_left
  · have hlt' : ((i : Int) < (p.length : Int)) = False := by simp; omega
    rw [firstE_end hlt] at g2
    simp only [go_sem, e1, hlt', hX]
    exact g2
  obtain ⟨x, hx⟩ : ∃ x, p[i]? = some x := ⟨_, List.getElem?_eq_getElem hlt⟩
  have hxp : (p.map dStp)[i]? = some (dStp x) := by rw [List.getElem?_map, hx]; rfl
  have hlt' : ((i : Int) < (p.length : Int)) = True := by simp; omega
  have hle : ((i : Int) ≤ (p.length : Int)) = True := by simp; omega
  have h0 : ((0 : Int) ≤ (i : Int)) = True := by simp
  have ew : IntKind.i64.wrap ((i : Int) + 1) = (i : Int) + 1 := i64_in (by omega) (by omega)
  have hge : stepE n p i = if hasF n x.s x.i = false ∨ hasF n x.s x.o = false then 3
    else if decide (x.o ∈ outsF (kindAt n x.s) x.i) = false then 1
    else if 0 < i ∧ joinL n.links (((p[i - 1]?).map Stp.s).getD 0) (((p[i - 1]?).map Stp.o).getD 0) ≠ some (x.s, x.i) then 5
    else if psec (p.take i) x.s = true then 6 else 0 := by simp [stepE, hx]
  have hit : ∀ v : Int, v ≠ 0 → stepE n p i = v → v = pathE n p := fun v hv hh => (firstE_hit hlt hh hv g2).symm
  have htl : List.take (i - 0) (List.map dStp p) = (p.take i).map dStp := by simp [List.map_take]
  have hkl : (p.take i).length = i := by rw [List.length_take]; omega
  simp only [go_sem, e1, hlt', h0, hxp, dStp, hb2]
  generalize genO (AB.hget h 6) = G8
  refine callV (f74 n x.s x.i hb hks) ?_
  intro nx2 lv2
  by_cases a1 : hasF n x.s x.i = true
  rotate_left
  · have a1 : hasF n x.s x.i = false := by simpa using a1
    simp only [go_sem, a1, hR]
    exact hit 3 (by decide) (by rw [hge]; simp [a1])
  simp only [go_sem, a1, hb2]
  refine callV (f74 n x.s x.o hb hks) ?_
  intro nx3 lv3
  by_cases a2 : hasF n x.s x.o = true
  rotate_left
  · have a2 : hasF n x.s x.o = false := by simpa using a2
    simp only [go_sem, a2, hR]
    exact hit 3 (by decide) (by rw [hge]; simp [a2])
  obtain ⟨b1, b2⟩ := hasF_iff.1 a1
  obtain ⟨c, hc⟩ : ∃ c, n.sects[x.s.toNat]? = some c := ⟨_, List.getElem?_eq_getElem (by omega)⟩
  have hcp : (n.sects.map dSect)[x.s.toNat]? = some (dSect c) := by rw [List.getElem?_map, hc]; rfl
  have hcp2 : Option.map dSect n.sects[x.s.toNat]? = some (dSect c) := by rw [hc]; rfl
  have hk : kindAt n x.s = c.kind := by simp [kindAt, hc]
  have hkc := hks c (List.mem_of_getElem? hc)
  rw [hk] at b2
  have h0s : (0 ≤ x.s) = True := by simp; omega
  simp only [go_sem, a2]
  refine drawn (by kernel_rfl) (by kernel_rfl) ?_
  simp only [go_sem, hb2, hcp, hcp2, h0s, dSect]
  have hol := outsF_len c.kind x.i
  refine quietD (f76 c.kind x.i hkc.1 hkc.2 b2.1 (by omega)) (fun _ => rfl) ?_
  simp only [go_sem, lInts]
  refine quietD (f75 (outsF c.kind x.i) x.o (by omega)) (fun _ => rfl) ?_
  by_cases a3 : decide (x.o ∈ outsF c.kind x.i) = true
  rotate_left
  · have a3 : decide (x.o ∈ outsF c.kind x.i) = false := by simpa using a3
    simp only [go_sem, a3, hR]
    intro nx4 lv4 _ _
    exact hit 1 (by decide) (by rw [hge, hk]; simp only [a1, a2, a3]; simp)
  by_cases a4 : 0 < i
  · have a4' : ((0 : Int) < (i : Int)) = True := by simp; omega
    obtain ⟨r, hr⟩ : ∃ r, p[i - 1]? = some r := ⟨_, List.getElem?_eq_getElem (by omega)⟩
    have hrp : (p.map dStp)[i - 1]? = some (dStp r) := by rw [List.getElem?_map, hr]; rfl
    have ei : ((i : Int) - 1).toNat = i - 1 := by omega
    have ew2 : IntKind.i64.wrap ((i : Int) - 1) = (i : Int) - 1 := i64_in (by omega) (by omega)
    have hi1 : (0 ≤ (i : Int) - 1) = True := by simp; omega
    have hi2 : ((i : Int) - 1 < (p.length : Int)) = True := by simp; omega
    simp only [go_sem, a3, a4', ew2, ei, hrp, dStp, hi1, hi2]
    intro nx4 lv4 _ _
    refine drawn (by kernel_rfl) (by kernel_rfl) ?_
    simp only [go_sem, hb2, ew2, ei, hrp, dStp, hi1, hi2]
    refine quietD (f77 n r.s r.o hb) (fun _ => rfl) ?_
    have hji := join_iff (joinL n.links r.s r.o) x.s x.i
    by_cases a5 : (joinL n.links r.s r.o).isSome = true
    rotate_left
    · have a5' : (joinL n.links r.s r.o).isSome = false := by simpa using a5
      have a6 : joinL n.links r.s r.o ≠ some (x.s, x.i) := fun e => a5 (hji.1 e).1
      simp only [go_sem, a5', hR]
      intro _ _ _ _
      exact hit 5 (by decide) (by rw [hge, hk]; simp only [a1, a2, a3]; simp [a4, hr, a6])
    by_cases a7 : joinS (joinL n.links r.s r.o) = x.s
    rotate_left
    · have a7' : (joinS (joinL n.links r.s r.o) = x.s) = False := eq_false a7
      have a6 : joinL n.links r.s r.o ≠ some (x.s, x.i) := fun e => a7 (hji.1 e).2.1
      simp only [go_sem, a5, a7', hR]
      intro _ _ _ _
      exact hit 5 (by decide) (by rw [hge, hk]; simp only [a1, a2, a3]; simp [a4, hr, a6])
    by_cases a8 : joinE (joinL n.links r.s r.o) = x.i
    rotate_left
    · have a8' : (joinE (joinL n.links r.s r.o) = x.i) = False := eq_false a8
      have a7' : (joinS (joinL n.links r.s r.o) = x.s) = True := eq_true a7
      have a6 : joinL n.links r.s r.o ≠ some (x.s, x.i) := fun e => a8 (hji.1 e).2.2
      simp only [go_sem, a5, a7', a8', hR]
      intro _ _ _ _
      exact hit 5 (by decide) (by rw [hge, hk]; simp only [a1, a2, a3]; simp [a4, hr, a6])
    have a6 : joinL n.links r.s r.o = some (x.s, x.i) := hji.2 ⟨a5, a7, a8⟩
    have a7' : (joinS (joinL n.links r.s r.o) = x.s) = True := eq_true a7
    have a8' : (joinE (joinL n.links r.s r.o) = x.i) = True := eq_true a8
    simp only [go_sem, a5, a7', a8']
    intro nx5 lv5 _ _
    refine drawn (by kernel_rfl) (by kernel_rfl) ?_
    simp only [go_sem, h0, hle, htl]
    refine ⟨Nat.zero_le _, g1, quietD (f78 (p.take i) x.s (by omega)) (fun _ => rfl) ?_⟩
    by_cases s1 : psec (p.take i) x.s = true
    · simp only [go_sem, s1, hR]
      intro _ _ _ _
      exact hit 6 (by decide) (by rw [hge, hk]; simp only [a1, a2, a3]; simp [a4, hr, a6, s1])
    · have s1 : psec (p.take i) x.s = false := by simpa using s1
      simp only [go_sem, s1, hN, ew]
      intro _ _ _ _
      refine ⟨by kernel_rfl, i + 1, ?_, by simp only; omega⟩
      simp only [go_sem]
      exact ⟨by simp, by omega, firstE_go hlt (by rw [hge, hk]; simp only [a1, a2, a3]; simp [a4, hr, a6, s1]) g2, _, _, _, rfl, by simp [go_sem, hb2, nCells]⟩
  · have a4' : ((0 : Int) < (i : Int)) = False := by simp; omega
    simp only [go_sem, a3, a4']
    intro nx4 lv4 _ _
    refine drawn (by kernel_rfl) (by kernel_rfl) ?_
    simp only [go_sem, h0, hle, htl]
    refine ⟨Nat.zero_le _, g1, quietD (f78 (p.take i) x.s (by omega)) (fun _ => rfl) ?_⟩
    by_cases s1 : psec (p.take i) x.s = true
    · simp only [go_sem, s1, hR]
      intro _ _ _ _
      exact hit 6 (by decide) (by rw [hge, hk]; simp only [a1, a2, a3]; simp [a4, s1])
    · have s1 : psec (p.take i) x.s = false := by simpa using s1
      simp only [go_sem, s1, hN, ew]
      intro _ _ _ _
      refine ⟨by kernel_rfl, i + 1, ?_, by simp only; omega⟩
      simp only [go_sem]
      exact ⟨by simp, by omega, firstE_go hlt (by rw [hge, hk]; simp only [a1, a2, a3]; simp [a4, s1]) g2, _, _, _, rfl, by simp [go_sem, hb2, nCells]⟩
end Go.Proofs.Yteadhjclchjfjaa
