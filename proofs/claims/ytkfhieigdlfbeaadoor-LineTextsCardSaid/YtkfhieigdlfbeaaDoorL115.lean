/- Nets: the search in lists of names; the check of gates. -/
/- Nets: the search in lists of names; the checks of gates and signals. -/
import Derived.Test.YtkfhieigdlfbeaaDoorL114
namespace Go.Proofs.YtkfhieigdlfbeaaDoor
set_option linter.unusedSimpArgs false
set_option linter.unusedVariables false
open Go.AB

def idxF : List (List UInt8) → List UInt8 → Int → Int
  | [], _, _ => -1
  | x :: r, s, i => if s = x then i else idxF r s (i + 1)
theorem idxF_iff : ∀ {l : List (List UInt8)} {s : List UInt8} {i : Int}, 0 ≤ i → (0 ≤ idxF l s i ↔ s ∈ l)
  | [], _, _, _ => by simp [idxF]
  | x :: r, s, i, h => by
    unfold idxF
    split
    · rename_i e; simp [e, h]
    · rename_i e
      rw [idxF_iff (l := r) (s := s) (i := i + 1) (by omega)]
      simp [e]

set_option maxHeartbeats 4000000 in
set_option maxRecDepth 20000 in
theorem f102 (l : List (List UInt8)) (s : List UInt8) (hl : l.length ≤ 140737488351232) : PCall Tryd.prog 102 [.sl 1 (l.map DV.str) .no, .str s] (RV (.int .i64 (idxF l s 0))) := by
  refine PCall.of_body Tryd.func102 rfl Tryd.ntmps102 (congrArg Array.toList Tryd.results102) ?_
  intro E
  simp only [go_sem]
  refine AW_loopH [4, 5, 8, 9, 10, 11, 12, 13, 14, 15, 16, 17, 18]
    (fun (i : Nat) ρ m => ρ 8 = .int .i64 (i : Int) ∧ i ≤ l.length ∧ idxF (l.drop i) s (i : Int) = idxF l s 0 ∧ ∃ nx lv, m = ⟨[], [], nx, lv⟩) (fun i => l.length - i) 0 ?_ ?_
  · simp only [go_sem]
    exact ⟨Nat.zero_le _, _, _, rfl⟩
  · rintro i ρ m ⟨e1, g1, g2, nx, lv, rfl⟩ Q hN hR hX
    by_cases hlt : i < l.length
    · obtain ⟨p, hp⟩ : ∃ p, l[i]? = some p := ⟨_, List.getElem?_eq_getElem hlt⟩
      have hd : l.drop i = p :: l.drop (i + 1) := by
        rw [List.drop_eq_getElem_cons hlt]
        rw [List.getElem?_eq_getElem hlt] at hp
        cases hp; rfl
      have hlt' : ((i : Int) < (l.length : Int)) = True := by simp; omega
      rw [hd, show idxF (p :: l.drop (i + 1)) s (i : Int) = if s = p then (i : Int) else idxF (l.drop (i + 1)) s (i + 1) from rfl] at g2
      by_cases q : s = p
      · rw [if_pos q] at g2
        simp (disch := omega) only [go_sem, e1, hN, hR, hX, hlt', hp, i64_in, q]
        rw [← q]
        exact ⟨by omega, g2⟩
      · rw [if_neg q] at g2
        simp (disch := omega) only [go_sem, e1, hN, hR, hX, hlt', hp, i64_in, q]
        refine ⟨by omega, by kernel_rfl, i + 1, ?_, by simp only; omega⟩
        simp only [go_sem]
        exact ⟨by simp, by omega, by simpa using g2, _, _, rfl⟩
    · have hlt' : ((i : Int) < (l.length : Int)) = False := by simp; omega
      rw [List.drop_eq_nil_of_le (by omega)] at g2
      simp (disch := omega) only [go_sem, e1, hN, hR, hX, hlt']
      exact g2

theorem f78 (l : List (List UInt8)) (s : List UInt8) (hl : l.length ≤ 140737488351232) : PCall Tryd.prog 78 [.sl 1 (l.map DV.str) .no, .str s] (RV (.bool (decide (s ∈ l)))) := by
  refine PCall.of_body Tryd.func78 rfl Tryd.ntmps78 (congrArg Array.toList Tryd.results78) ?_
  intro E
  simp only [go_sem]
  refine callV (f102 l s hl) ?_
  intro nx lv
  simp only [go_sem]
  exact decide_eq_decide.2 (idxF_iff (Int.le_refl 0))

/-- The error of the gate with this number. -/
def gateE (n : Net) (i : Nat) : Int := match n.gates[i]? with
  | none => 0
  | some g => if within g.s 0 (n.sects.length - 1) = false then 3 else if kindAt n g.s ≠ 1 then 1 else if within g.e 1 12 = false then 2 else if 0 < i ∧ g.s ≤ ((n.gates[i - 1]?).map Pair.s).getD 0 then 5 else 0
def firstE (f : Nat → Int) : Nat → Nat → Int
  | 0, _ => 0
  | k + 1, i => if f i ≠ 0 then f i else firstE f k (i + 1)
def gatesE (n : Net) : Int := firstE (gateE n) n.gates.length 0

set_option maxHeartbeats 4000000 in
set_option maxRecDepth 20000 in
theorem f82 (n : Net) (hb : NetB n) : PCall Tryd.prog 82 [eNet n] (RV (.int .i64 (gatesE n))) := by
  refine PCall.of_body Tryd.func82 rfl Tryd.ntmps82 (congrArg Array.toList Tryd.results82) ?_
  intro E
  have hgt := hb.gt
  have hsc := hb.sc
  simp only [go_sem, eNet, nCells]
  refine AW_loopH [2, 3, 4, 8, 9, 10, 11, 12, 13, 14, 15, 16, 17, 18, 19, 20, 21, 22, 23, 24, 25, 26, 27, 28, 29, 30, 31, 32, 33, 34, 35, 36, 37, 38, 39, 40, 41, 42, 43, 44, 45, 46, 47, 48, 49, 50, 51]
    (fun (i : Nat) ρ m => ρ 8 = .int .i64 (i : Int) ∧ i ≤ n.gates.length ∧ firstE (gateE n) (n.gates.length - i) i = gatesE n ∧
      ∃ h nx lv, m = ⟨h, [], nx, lv⟩ ∧ AB.hget h 1 = some (0, nCells n)) (fun i => n.gates.length - i) 0 ?_ ?_
  · simp only [go_sem]
    exact ⟨Nat.zero_le _, rfl, _, _, _, rfl, by simp [go_sem, nCells]⟩
  · rintro i ρ m ⟨e1, g1, g2, h, nx, lv, rfl, hb1⟩ Q hN hR hX
    simp only [nCells] at hb1
    by_cases hlt : i < n.gates.length
    · obtain ⟨p, hp⟩ : ∃ p, n.gates[i]? = some p := ⟨_, List.getElem?_eq_getElem hlt⟩
      have hlt' : ((i : Int) < (n.gates.length : Int)) = True := by simp; omega
      have hf : firstE (gateE n) (n.gates.length - i) i = if gateE n i ≠ 0 then gateE n i else firstE (gateE n) (n.gates.length - (i + 1)) (i + 1) := by
        have : n.gates.length - i = (n.gates.length - (i + 1)) + 1 := by omega
        rw [this]; rfl
      rw [hf] at g2
      have hge : gateE n i = if within p.s 0 (n.sects.length - 1) = false then 3 else if kindAt n p.s ≠ 1 then 1 else if within p.e 1 12 = false then 2 else if 0 < i ∧ p.s ≤ ((n.gates[i - 1]?).map Pair.s).getD 0 then 5 else 0 := by
        simp [gateE, hp]
      rw [hge] at g2
      simp (disch := omega) only [go_sem, e1, hN, hR, hX, hlt', hp, dPair, i64_in, hb1]
      generalize genO (AB.hget h 4) = G
      refine ⟨by omega, ?_⟩
      refine callV (f104 _ _ _) ?_
      intro nx2 lv2
      by_cases q1 : within p.s 0 (n.sects.length - 1) = true
      · have h2 : 0 ≤ p.s ∧ p.s ≤ n.sects.length - 1 := by simpa [within] using q1
        obtain ⟨c, hc⟩ : ∃ c, n.sects[p.s.toNat]? = some c := ⟨_, List.getElem?_eq_getElem (by omega)⟩
        have hk : kindAt n p.s = c.kind := by simp [kindAt, hc]
        by_cases q2 : c.kind = 1
        · simp (disch := omega) only [go_sem, hN, hR, hX, hb1, q1, hc, dSect, q2]
          refine ⟨by omega, ?_⟩
          refine callV (f104 _ _ _) ?_
          intro nx3 lv3
          by_cases q3 : within p.e 1 12 = true
          · simp (disch := omega) only [go_sem, hN, hR, hX, hb1, q3]
            by_cases q4 : 0 < i
            · have q4' : ((0 : Int) < (i : Int)) = True := by simp; omega
              obtain ⟨r, hr⟩ : ∃ r, n.gates[i - 1]? = some r := ⟨_, List.getElem?_eq_getElem (by omega)⟩
              have ei : ((i : Int) - 1).toNat = i - 1 := by omega
              refine drawn (by kernel_rfl) (by kernel_rfl) ?_
              by_cases q5 : p.s ≤ r.s
              · simp (disch := omega) only [go_sem, hN, hR, hX, hb1, q4', ei, hr, dPair, q5, i64_in]
                refine ⟨by omega, fun _ _ _ _ => ?_⟩
                rw [← g2]; simp [q1, hk, q2, q3, hr, q4, q5]
              · simp (disch := omega) only [go_sem, hN, hR, hX, hb1, q4', ei, hr, dPair, q5, i64_in]
                refine ⟨by omega, fun nx4 lv4 _ _ => ⟨by kernel_rfl, i + 1, ?_, by simp only; omega⟩⟩
                simp only [go_sem]
                exact ⟨by simp, by omega, by rw [← g2]; simp [q1, hk, q2, q3, hr, q4, q5], _, _, _, rfl, by simp [go_sem, hb1, nCells]⟩
            · have q4' : ((0 : Int) < (i : Int)) = False := by simp; omega
              refine drawn (by kernel_rfl) (by kernel_rfl) ?_
              simp (disch := omega) only [go_sem, hN, hR, hX, hb1, q4', i64_in]
              refine fun nx4 lv4 _ _ => ⟨by kernel_rfl, i + 1, ?_, by simp only; omega⟩
              simp only [go_sem]
              exact ⟨by simp, by omega, by rw [← g2]; simp [q1, hk, q2, q3, q4], _, _, _, rfl, by simp [go_sem, hb1, nCells]⟩
          · have q3 : within p.e 1 12 = false := by simpa using q3
            simp (disch := omega) only [go_sem, hN, hR, hX, hb1, q3]
            rw [← g2]; simp [q1, hk, q2, q3]
        · simp (disch := omega) only [go_sem, hN, hR, hX, hb1, q1, hc, dSect, q2]
          refine ⟨by omega, ?_⟩
          rw [← g2]; simp [q1, hk, q2]
      · have q1 : within p.s 0 (n.sects.length - 1) = false := by simpa using q1
        simp (disch := omega) only [go_sem, hN, hR, hX, hb1, q1]
        rw [← g2]; simp [q1]
    · have hlt' : ((i : Int) < (n.gates.length : Int)) = False := by simp; omega
      have : n.gates.length - i = 0 := by omega
      rw [this] at g2
      simp (disch := omega) only [go_sem, e1, hN, hR, hX, hlt']
      rw [← g2]; rfl
end Go.Proofs.YtkfhieigdlfbeaaDoor
