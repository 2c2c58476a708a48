/- Nets: what the law LinePlaces asks of places. -/
import Derived.Test.YteadhjclchjfjaaL1
namespace Go.Proofs.Yteadhjclchjfjaa
open Go.AB

set_option maxHeartbeats 1000000 in
set_option maxRecDepth 20000 in
theorem f68 (n : Net) (s e : Int) (hb : NetB n) (hk : KindsOk n) : PCall Try.prog 68 [eNet n, .int .i64 s, .int .i64 e] (RV (.bool (hasF n s e))) := by
  refine PCall.of_body Try.func68 rfl Try.ntmps68 (congrArg Array.toList Try.results68) ?_
  intro E
  have := hb.sc
  simp only [go_sem, eNet, nCells]
  by_cases h0 : 0 ≤ s
  · by_cases h1 : s < n.sects.length
    · obtain ⟨c, hc⟩ : ∃ c, n.sects[s.toNat]? = some c := ⟨_, List.getElem?_eq_getElem (by omega)⟩
      have hke : kindAt n s = c.kind := by simp [kindAt, hc]
      have he := endsF_bd c.kind
      have hkc := hk c (List.mem_of_getElem? hc)
      by_cases h2 : 0 ≤ e
      · simp (disch := omega) only [go_sem, h0, h1, h2, hc, dSect, i64_in]
        refine callV (f67 _ hkc.1 hkc.2) ?_
        intro nx lv
        simp (disch := omega) only [go_sem, i64_in]
        have h0' : within s 0 (n.sects.length - 1) = true := by simp [within]; omega
        simp only [hasF, h0', hke, Bool.true_and]
        unfold within
        simp only [h2, decide_true, Bool.true_and]
        by_cases q : e < endsF c.kind
        · have q2 : e ≤ endsF c.kind - 1 := by omega
          simp [q, q2]
        · have q2 : ¬ e ≤ endsF c.kind - 1 := by omega
          simp [q, q2]
      · simp (disch := omega) only [go_sem, h0, h1, h2]
        simp [hasF, within, h2]
    · simp (disch := omega) only [go_sem, h0, h1]
      have : ¬ s ≤ (n.sects.length : Int) - 1 := by omega
      simp [hasF, within, this]
  · simp (disch := omega) only [go_sem, h0]
    simp [hasF, within, h0]

set_option maxHeartbeats 1000000 in
set_option maxRecDepth 20000 in
theorem f18 (n : Net) (s : Int) (hb : NetB n) (h : netE n = 0) : PCall Try.prog 18 [eNet n, .int .i64 s, .int .i64 (endsV n s), .int .i64 (endsE n s)] (RV (.bool true)) := by
  refine PCall.of_body Try.func18 rfl Try.ntmps18 (congrArg Array.toList Try.results18) ?_
  intro E
  have hks := netE_kinds h
  by_cases hw : within s 0 (n.sects.length - 1) = true
  · have h2 := within_iff.1 hw
    obtain ⟨c, hc⟩ : ∃ c, n.sects[s.toNat]? = some c := ⟨_, List.getElem?_eq_getElem (by omega)⟩
    have hk : kindAt n s = c.kind := by simp [kindAt, hc]
    have hkc := hks c (List.mem_of_getElem? hc)
    have a0 : ((0 : Int) ≤ s) = True := by simp; omega
    have a1 : (s < 0) = False := by simp; omega
    have a2 : ((n.sects.length : Int) ≤ s) = False := by simp; omega
    have e1 : endsE n s = 0 := by simp [endsE, h, hw]
    have e2 : endsV n s = endsF c.kind := by simp [endsV, e1, hk]
    simp only [go_sem, eNet, nCells, a1, a2, a0, e1, e2, hc, dSect]
    refine callV (f67 _ hkc.1 hkc.2) ?_
    intro nx lv
    simp only [go_sem]
  · have hw : within s 0 (n.sects.length - 1) = false := by simpa using hw
    have e1 : endsE n s = 3 := by simp [endsE, h, hw]
    have e2 : endsV n s = 0 := by simp [endsV, e1]
    by_cases a1 : s < 0
    · simp only [go_sem, eNet, nCells, a1, e1, e2]
    · have a2 : (n.sects.length : Int) ≤ s := by
        have : ¬ (0 ≤ s ∧ s ≤ n.sects.length - 1) := fun x => by rw [within_iff.2 x] at hw; cases hw
        omega
      simp only [go_sem, eNet, nCells, a1, a2, e1, e2]

theorem endErr_ok {n : Net} (h : netE n = 0) (s e : Int) : endErr n s e = if hasF n s e = true then 0 else 3 := by
  unfold endErr
  cases hasF n s e <;> simp [h]

set_option maxHeartbeats 4000000 in
set_option maxRecDepth 20000 in
theorem f19 (n : Net) (s e : Int) (hb : NetB n) (h : netE n = 0) : PCall Try.prog 19 [eNet n, .int .i64 s, .int .i64 e, .int .i64 (nextS n s e), .int .i64 (nextI n s e), .int .i64 (nextE n s e)] (RV (.bool true)) := by
  refine PCall.of_body Try.func19 rfl Try.ntmps19 (congrArg Array.toList Try.results19) ?_
  intro E
  have hks := netE_kinds h
  have hlk := hb.lk
  have hee := endErr_ok h s e
  simp only [go_sem, eNet, nCells]
  refine callV (f68 n s e hb hks) ?_
  intro nx lv
  by_cases hw : hasF n s e = true
  · rw [hw, if_pos rfl] at hee
    have hE : nextE n s e = if (joinL n.links s e).isSome = false then 9 else 0 := by simp [nextE, hee]
    have hS : nextS n s e = if nextE n s e ≠ 0 then 0 else joinS (joinL n.links s e) := rfl
    have hI : nextI n s e = if nextE n s e ≠ 0 then 0 else joinE (joinL n.links s e) := rfl
    simp only [go_sem, hw]
    refine AW_loopH [12, 14, 33, 34, 35, 36, 37, 38, 39, 40, 41, 42, 43, 44, 45, 46, 47, 48, 49, 50, 51, 52, 53, 54, 55, 56, 57, 58, 59, 60, 61, 62, 63, 64, 65, 66, 67, 68, 69, 70, 71, 72, 73, 74, 75, 76, 77, 78, 79, 80, 81, 82, 83, 84, 85]
      (fun (i : Nat) ρ m => ρ 33 = .int .i64 (i : Int) ∧ i ≤ n.links.length ∧ joinL (n.links.drop i) s e = joinL n.links s e ∧ ∃ h nx lv, m = ⟨h, [], nx, lv⟩) (fun i => n.links.length - i) 0 ?_ ?_
    · simp [go_sem]
    · rintro i ρ m ⟨e1, g1, g2, h', nx', lv', rfl⟩ Q hN hR hX
      by_cases hlt : i < n.links.length
      · obtain ⟨p, hp⟩ : ∃ p, n.links[i]? = some p := ⟨_, List.getElem?_eq_getElem hlt⟩
        have hd : n.links.drop i = p :: n.links.drop (i + 1) := by
          rw [List.drop_eq_getElem_cons hlt]
          rw [List.getElem?_eq_getElem hlt] at hp
          cases hp; rfl
        rw [hd] at g2
        have hlt' : ((i : Int) < (n.links.length : Int)) = True := by simp; omega
        have h0 : ((0 : Int) ≤ (i : Int)) = True := by simp
        have ew : IntKind.i64.wrap ((i : Int) + 1) = (i : Int) + 1 := i64_in (by omega) (by omega)
        by_cases q1 : p.a = s ∧ p.ea = e
        · have r : joinL n.links s e = some (p.b, p.eb) := by rw [← g2]; simp [joinL, q1]
          have x1 : nextE n s e = 0 := by rw [hE, r]; rfl
          have x2 : nextS n s e = p.b := by rw [hS, x1, r]; rfl
          have x3 : nextI n s e = p.eb := by rw [hI, x1, r]; rfl
          have q1a : (p.a = s) = True := eq_true q1.1
          have q1b : (p.ea = e) = True := eq_true q1.2
          simp only [go_sem, e1, hlt', h0, hp, dLnk, hR, q1a, q1b, x1, x2, x3]
        by_cases q2 : p.b = s ∧ p.eb = e
        · have r : joinL n.links s e = some (p.a, p.ea) := by rw [← g2]; simp [joinL, q1, q2]
          have x1 : nextE n s e = 0 := by rw [hE, r]; rfl
          have x2 : nextS n s e = p.a := by rw [hS, x1, r]; rfl
          have x3 : nextI n s e = p.ea := by rw [hI, x1, r]; rfl
          have q2a : (p.b = s) = True := eq_true q2.1
          have q2b : (p.eb = e) = True := eq_true q2.2
          by_cases q3 : p.a = s
          · have q3' : (p.a = s) = True := eq_true q3
            have q4' : (p.ea = e) = False := eq_false (fun x => q1 ⟨q3, x⟩)
            simp only [go_sem, e1, hlt', h0, hp, dLnk, hR, q3', q4', q2a, q2b, x1, x2, x3]
          · have q3' : (p.a = s) = False := eq_false q3
            simp only [go_sem, e1, hlt', h0, hp, dLnk, hR, q3', q2a, q2b, x1, x2, x3]
        have r : joinL (n.links.drop (i + 1)) s e = joinL n.links s e := by rw [← g2]; simp [joinL, q1, q2]
        have fin : ∀ (ρ2 : Nat → AV) (m2 : AH), ρ2 33 = .int .i64 ((i : Int) + 1) → (∃ h nx lv, m2 = ⟨h, [], nx, lv⟩) → (ρ2 33 = .int .i64 ((i + 1 : Nat) : Int) ∧ i + 1 ≤ n.links.length ∧ joinL (n.links.drop (i + 1)) s e = joinL n.links s e ∧ ∃ h nx lv, m2 = ⟨h, [], nx, lv⟩) := fun ρ2 m2 a b => ⟨by rw [a]; simp, by omega, r, b⟩
        by_cases q3 : p.a = s
        · have q3' : (p.a = s) = True := eq_true q3
          have q4' : (p.ea = e) = False := eq_false (fun x => q1 ⟨q3, x⟩)
          by_cases q5 : p.b = s
          · have q5' : (p.b = s) = True := eq_true q5
            have q6' : (p.eb = e) = False := eq_false (fun x => q2 ⟨q5, x⟩)
            simp only [go_sem, e1, hlt', h0, hp, dLnk, hN, ew, q3', q4', q5', q6']
            exact ⟨by kernel_rfl, i + 1, fin _ _ (by simp only [go_sem]) ⟨_, _, _, rfl⟩, by simp only; omega⟩
          · have q5' : (p.b = s) = False := eq_false q5
            simp only [go_sem, e1, hlt', h0, hp, dLnk, hN, ew, q3', q4', q5']
            exact ⟨by kernel_rfl, i + 1, fin _ _ (by simp only [go_sem]) ⟨_, _, _, rfl⟩, by simp only; omega⟩
        · have q3' : (p.a = s) = False := eq_false q3
          by_cases q5 : p.b = s
          · have q5' : (p.b = s) = True := eq_true q5
            have q6' : (p.eb = e) = False := eq_false (fun x => q2 ⟨q5, x⟩)
            simp only [go_sem, e1, hlt', h0, hp, dLnk, hN, ew, q3', q5', q6']
            exact ⟨by kernel_rfl, i + 1, fin _ _ (by simp only [go_sem]) ⟨_, _, _, rfl⟩, by simp only; omega⟩
          · have q5' : (p.b = s) = False := eq_false q5
            simp only [go_sem, e1, hlt', h0, hp, dLnk, hN, ew, q3', q5']
            exact ⟨by kernel_rfl, i + 1, fin _ _ (by simp only [go_sem]) ⟨_, _, _, rfl⟩, by simp only; omega⟩
      · have hlt' : ((i : Int) < (n.links.length : Int)) = False := by simp; omega
        rw [List.drop_eq_nil_of_le (by omega)] at g2
        have x1 : nextE n s e = 9 := by rw [hE, ← g2]; rfl
        have x2 : nextS n s e = 0 := by rw [hS, x1]; rfl
        have x3 : nextI n s e = 0 := by rw [hI, x1]; rfl
        simp only [go_sem, e1, hX, hlt', x1, x2, x3]
  · rw [if_neg hw] at hee
    have hw : hasF n s e = false := by simpa using hw
    have x1 : nextE n s e = 3 := by simp [nextE, hee]
    have x2 : nextS n s e = 0 := by simp [nextS, x1]
    have x3 : nextI n s e = 0 := by simp [nextI, x1]
    simp only [go_sem, hw, x1, x2, x3]

set_option maxRecDepth 20000 in
/-- A list of numbers is equal to itself. -/
theorem f69 (l : List Int) (hl : l.length ≤ 140737488351232) : PCall Try.prog 69 [lInts l, lInts l] (RV (.bool true)) := by
  refine PCall.of_body Try.func69 rfl Try.ntmps69 (congrArg Array.toList Try.results69) ?_
  intro E
  simp only [go_sem, lInts]
  refine AW_loopH [4, 5, 13, 14, 15, 16, 17, 18, 19, 20, 21, 22, 23, 24, 25]
    (fun (i : Nat) ρ m => ρ 13 = .int .i64 (i : Int) ∧ i ≤ l.length ∧ ∃ h nx lv, m = ⟨h, [], nx, lv⟩) (fun i => l.length - i) 0 ?_ ?_
  · simp [go_sem]
  · rintro i ρ m ⟨e1, g1, h, nx, lv, rfl⟩ Q hN hR hX
    by_cases hlt : i < l.length
    · obtain ⟨p, hp⟩ : ∃ p, l[i]? = some p := ⟨_, List.getElem?_eq_getElem hlt⟩
      have hlt' : ((i : Int) < (l.length : Int)) = True := by simp; omega
      have h0 : ((0 : Int) ≤ (i : Int)) = True := by simp
      have ew : IntKind.i64.wrap ((i : Int) + 1) = (i : Int) + 1 := i64_in (by omega) (by omega)
      simp only [go_sem, e1, hlt']
      refine drawn (by kernel_rfl) (by kernel_rfl) ?_
      simp only [go_sem, hp, h0, ew, hN]
      refine fun _ _ _ _ => ⟨by kernel_rfl, i + 1, ?_, by simp only; omega⟩
      simp only [go_sem]
      exact ⟨by simp, by omega, _, _, _, rfl⟩
    · have hlt' : ((i : Int) < (l.length : Int)) = False := by simp; omega
      simp only [go_sem, e1, hX, hlt']
end Go.Proofs.Yteadhjclchjfjaa
