/- Nets: the check of signals. -/
/- Nets: the check of signals. -/
import Derived.Test.YtkfhieigdlfbeaaDoorL115
namespace Go.Proofs.YtkfhieigdlfbeaaDoor
set_option linter.unusedSimpArgs false
set_option linter.unusedVariables false
open Go.AB

/-- The error of the signal with this number. -/
def sigE (n : Net) (i : Nat) : Int := match n.sigs[i]? with
  | none => 0
  | some g => if hasF n g.s g.e = false then 3 else if kindAt n g.s ≠ 1 ∨ (joinL n.links g.s g.e).isSome = false then 1
    else if 0 < i ∧ lessF (((n.sigs[i - 1]?).map Pair.s).getD 0) (((n.sigs[i - 1]?).map Pair.e).getD 0) g.s g.e = false then 5 else 0
def sigsE (n : Net) : Int := firstE (sigE n) n.sigs.length 0

set_option maxHeartbeats 4000000 in
set_option maxRecDepth 20000 in
theorem f81 (n : Net) (hb : NetB n) : PCall Tryd.prog 81 [eNet n] (RV (.int .i64 (sigsE n))) := by
  refine PCall.of_body Tryd.func81 rfl Tryd.ntmps81 (congrArg Array.toList Tryd.results81) ?_
  intro E
  have hsg := hb.sg
  have hsc := hb.sc
  simp only [go_sem, eNet, nCells]
  refine AW_loopH [2, 3, 4, 5, 6, 7, 8, 12, 13, 14, 15, 16, 17, 18, 19, 20, 21, 22, 23, 24, 25, 26, 27, 28, 29, 30, 31, 32, 33, 34, 35, 36, 37, 38, 39, 40, 41, 42, 43, 44, 45, 46, 47, 48, 49, 50, 51, 52, 53, 54, 55, 56, 57, 58, 59, 60, 61, 62, 63, 64, 65]
    (fun (i : Nat) ρ m => ρ 12 = .int .i64 (i : Int) ∧ i ≤ n.sigs.length ∧ firstE (sigE n) (n.sigs.length - i) i = sigsE n ∧
      ∃ h nx lv, m = ⟨h, [], nx, lv⟩ ∧ AB.hget h 1 = some (0, nCells n)) (fun i => n.sigs.length - i) 0 ?_ ?_
  · simp only [go_sem]
    exact ⟨Nat.zero_le _, rfl, _, _, _, rfl, by simp [go_sem, nCells]⟩
  · rintro i ρ m ⟨e1, g1, g2, h, nx, lv, rfl, hb1⟩ Q hN hR hX
    simp only [nCells] at hb1
    by_cases hlt : i < n.sigs.length
    · obtain ⟨p, hp⟩ : ∃ p, n.sigs[i]? = some p := ⟨_, List.getElem?_eq_getElem hlt⟩
      have hlt' : ((i : Int) < (n.sigs.length : Int)) = True := by simp; omega
      have hf : firstE (sigE n) (n.sigs.length - i) i = if sigE n i ≠ 0 then sigE n i else firstE (sigE n) (n.sigs.length - (i + 1)) (i + 1) := by
        have : n.sigs.length - i = (n.sigs.length - (i + 1)) + 1 := by omega
        rw [this]; rfl
      rw [hf] at g2
      have hge : sigE n i = if hasF n p.s p.e = false then 3 else if kindAt n p.s ≠ 1 ∨ (joinL n.links p.s p.e).isSome = false then 1
          else if 0 < i ∧ lessF (((n.sigs[i - 1]?).map Pair.s).getD 0) (((n.sigs[i - 1]?).map Pair.e).getD 0) p.s p.e = false then 5 else 0 := by
        simp [sigE, hp]
      rw [hge] at g2
      simp (disch := omega) only [go_sem, e1, hN, hR, hX, hlt', hp, dPair, i64_in, hb1]
      refine ⟨by omega, ?_⟩
      refine callV (f105 n p.s p.e hb) ?_
      intro nx2 lv2
      by_cases q1 : hasF n p.s p.e = true
      · have h2 : 0 ≤ p.s ∧ p.s ≤ n.sects.length - 1 := by
          have : within p.s 0 (n.sects.length - 1) = true := by
            unfold hasF at q1
            simp at q1; exact q1.1
          simpa [within] using this
        obtain ⟨c, hc⟩ : ∃ c, n.sects[p.s.toNat]? = some c := ⟨_, List.getElem?_eq_getElem (by omega)⟩
        have hk : kindAt n p.s = c.kind := by simp [kindAt, hc]
        simp (disch := omega) only [go_sem, hN, hR, hX, hb1, q1]
        refine callV (f108 n p.s p.e hb) ?_
        intro nx3 lv3
        by_cases q2 : (joinL n.links p.s p.e).isSome = true
        · by_cases q3 : c.kind = 1
          · by_cases q4 : 0 < i
            · have q4' : ((0 : Int) < (i : Int)) = True := by simp; omega
              obtain ⟨r, hr⟩ : ∃ r, n.sigs[i - 1]? = some r := ⟨_, List.getElem?_eq_getElem (by omega)⟩
              have ei : ((i : Int) - 1).toNat = i - 1 := by omega
              simp (disch := omega) only [go_sem, hN, hR, hX, hb1, q2, hc, dSect, q3, q4', ei, hr, dPair, i64_in]
              refine ⟨by omega, by omega, ?_⟩
              refine drawn (by kernel_rfl) (by kernel_rfl) ?_
              simp (disch := omega) only [go_sem, hN, hR, hX, hb1, i64_in]
              refine quietD (f107 _ _) (fun _ => rfl) ?_
              simp (disch := omega) only [go_sem, hN, hR, hX, hb1, i64_in]
              refine quietD (f107 _ _) (fun _ => rfl) ?_
              simp (disch := omega) only [go_sem, hN, hR, hX, hb1, i64_in]
              refine quietD (f106 _ _) (fun _ => rfl) ?_
              by_cases q5 : lessF r.s r.e p.s p.e = false
              · have q6 := (order_F _ _ _ _).2 q5
                simp (disch := omega) only [go_sem, hN, hR, hX, hb1, q6]
                intro _ _ _ _
                rw [← g2]; simp [q1, hk, q2, q3, hr, q4, q5]
              · have q6 : ¬ _ := fun x => q5 ((order_F _ _ _ _).1 x)
                simp (disch := omega) only [go_sem, hN, hR, hX, hb1, q6, i64_in]
                have q5' : lessF r.s r.e p.s p.e = true := by simpa using q5
                refine fun nx4 lv4 _ _ => ⟨by kernel_rfl, i + 1, ?_, by simp only; omega⟩
                simp only [go_sem]
                exact ⟨by simp, by omega, by rw [← g2]; simp [q1, hk, q2, q3, hr, q4, q5'], _, _, _, rfl, by simp [go_sem, hb1, nCells]⟩
            · have q4' : ((0 : Int) < (i : Int)) = False := by simp; omega
              simp (disch := omega) only [go_sem, hN, hR, hX, hb1, q2, hc, dSect, q3, q4', i64_in]
              refine ⟨by omega, by kernel_rfl, i + 1, ?_, by simp only; omega⟩
              simp only [go_sem]
              exact ⟨by simp, by omega, by rw [← g2]; simp [q1, hk, q2, q3, q4], _, _, _, rfl, by simp [go_sem, hb1, nCells]⟩
          · simp (disch := omega) only [go_sem, hN, hR, hX, hb1, q2, hc, dSect, q3]
            refine ⟨by omega, ?_⟩
            rw [← g2]; simp [q1, hk, q3]
        · have q2 : (joinL n.links p.s p.e).isSome = false := by simpa using q2
          simp (disch := omega) only [go_sem, hN, hR, hX, hb1, q2]
          rw [← g2]; simp [q1, q2]
      · have q1 : hasF n p.s p.e = false := by simpa using q1
        simp (disch := omega) only [go_sem, hN, hR, hX, hb1, q1]
        rw [← g2]; simp [q1]
    · have hlt' : ((i : Int) < (n.sigs.length : Int)) = False := by simp; omega
      have : n.sigs.length - i = 0 := by omega
      rw [this] at g2
      simp (disch := omega) only [go_sem, e1, hN, hR, hX, hlt']
      rw [← g2]; rfl
end Go.Proofs.YtkfhieigdlfbeaaDoor
