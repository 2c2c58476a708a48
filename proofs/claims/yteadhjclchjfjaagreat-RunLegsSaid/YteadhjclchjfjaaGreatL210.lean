/- Nets: the search in lists of names; the check of gates. -/
/- Nets: the search in lists of names; the checks of gates and signals. -/
import Derived.Test.YteadhjclchjfjaaGreatL200
namespace Go.Proofs.YteadhjclchjfjaaGreat
set_option linter.unusedSimpArgs false
set_option linter.unusedVariables false
open Go.AB

def idxF : List (List UInt8) → List UInt8 → Int → Int
  | [], _, _ => -1
  | x :: r, s, i => if s = x then i else idxF r s (i + 1)
theorem idxF_iff : ∀ {l : List (List UInt8)} {s : List UInt8} {i : Int}, 0 ≤ i → (0 ≤ idxF l s i ↔ s ∈ l)
  | [], _, _, _ => by simp [idxF]
  | x :: r, s, i, h => by
    unfold idxF
    split
    · rename_i e; simp [e, h]
    · rename_i e
      rw [idxF_iff (l := r) (s := s) (i := i + 1) (by omega)]
      simp [e]

set_option maxHeartbeats 4000000 in
set_option maxRecDepth 20000 in
theorem f80 (l : List (List UInt8)) (s : List UInt8) (hl : l.length ≤ 140737488351232) : PCall Tryz.prog 80 [.sl 1 (l.map DV.str) .no, .str s] (RV (.int .i64 (idxF l s 0))) := by
  refine PCall.of_body Tryz.func80 rfl Tryz.ntmps80 (congrArg Array.toList Tryz.results80) ?_
  intro E
  simp only [go_sem]
  refine AW_loopH [4, 5, 8, 9, 10, 11, 12, 13, 14, 15, 16, 17, 18]
    (fun (i : Nat) ρ m => ρ 8 = .int .i64 (i : Int) ∧ i ≤ l.length ∧ idxF (l.drop i) s (i : Int) = idxF l s 0 ∧ ∃ nx lv, m = ⟨[], [], nx, lv⟩) (fun i => l.length - i) 0 ?_ ?_
  · simp only [go_sem]
    exact ⟨Nat.zero_le _, _, _, rfl⟩
  · rintro i ρ m ⟨e1, g1, g2, nx, lv, rfl⟩ Q hN hR hX
    by_cases hlt : i < l.length
    · obtain ⟨p, hp⟩ : ∃ p, l[i]? = some p := ⟨_, List.getElem?_eq_getElem hlt⟩
      have hd : l.drop i = p :: l.drop (i + 1) := by
        rw [List.drop_eq_getElem_cons hlt]
        rw [List.getElem?_eq_getElem hlt] at hp
        cases hp; rfl
      have hlt' : ((i : Int) < (l.length : Int)) = True := by simp; omega
      rw [hd, show idxF (p :: l.drop (i + 1)) s (i : Int) = if s = p then (i : Int) else idxF (l.drop (i + 1)) s (i + 1) from rfl] at g2
      by_cases q : s = p
      · rw [if_pos q] at g2
        simp (disch := omega) only [go_sem, e1, hN, hR, hX, hlt', hp, i64_in, q]
        rw [← q]
        exact ⟨by omega, g2⟩
      · rw [if_neg q] at g2
        simp (disch := omega) only [go_sem, e1, hN, hR, hX, hlt', hp, i64_in, q]
        refine ⟨by omega, by kernel_rfl, i + 1, ?_, by simp only; omega⟩
        simp only [go_sem]
        exact ⟨by simp, by omega, by simpa using g2, _, _, rfl⟩
    · have hlt' : ((i : Int) < (l.length : Int)) = False := by simp; omega
      rw [List.drop_eq_nil_of_le (by omega)] at g2
      simp (disch := omega) only [go_sem, e1, hN, hR, hX, hlt']
      exact g2

theorem f43 (l : List (List UInt8)) (s : List UInt8) (hl : l.length ≤ 140737488351232) : PCall Tryz.prog 43 [.sl 1 (l.map DV.str) .no, .str s] (RV (.bool (decide (s ∈ l)))) := by
  refine PCall.of_body Tryz.func43 rfl Tryz.ntmps43 (congrArg Array.toList Tryz.results43) ?_
  intro E
  simp only [go_sem]
  refine callV (f80 l s hl) ?_
  intro nx lv
  simp only [go_sem]
  exact decide_eq_decide.2 (idxF_iff (Int.le_refl 0))

/-- The error of the gate with this number. -/
def gateE (n : Net) (i : Nat) : Int := match n.gates[i]? with
  | none => 0
  | some g => if within g.s 0 (n.sects.length - 1) = false then 3 else if kindAt n g.s ≠ 1 then 1 else if within g.e 1 12 = false then 2 else if 0 < i ∧ g.s ≤ ((n.gates[i - 1]?).map Pair.s).getD 0 then 5 else 0
def firstE (f : Nat → Int) : Nat → Nat → Int
  | 0, _ => 0
  | k + 1, i => if f i ≠ 0 then f i else firstE f k (i + 1)
def gatesE (n : Net) : Int := firstE (gateE n) n.gates.length 0

set_option maxHeartbeats 4000000 in
set_option maxRecDepth 20000 in
theorem f47 (n : Net) (hb : NetB n) : PCall Tryz.prog 47 [eNet n] (RV (.int .i64 (gatesE n))) := by
  refine PCall.of_body Tryz.func47 rfl Tryz.ntmps47 (congrArg Array.toList Tryz.results47) ?_
  intro E
  have hgt := hb.gt
  have hsc := hb.sc
  simp only [go_sem, eNet, nCells]
  refine AW_loopH [2, 3, 4, 8, 9, 10, 11, 12, 13, 14, 15, 16, 17, 18, 19, 20, 21, 22, 23, 24, 25, 26, 27, 28, 29, 30, 31, 32, 33, 34, 35, 36, 37, 38, 39, 40, 41, 42, 43, 44, 45, 46, 47, 48, 49, 50, 51]
    (fun (i : Nat) ρ m => ρ 8 = .int .i64 (i : Int) ∧ i ≤ n.gates.length ∧ firstE (gateE n) (n.gates.length - i) i = gatesE n ∧
      ∃ h nx lv, m = ⟨h, [], nx, lv⟩ ∧ AB.hget h 1 = some (0, nCells n)) (fun i => n.gates.length - i) 0 ?_ ?_
  · simp only [go_sem]
    exact ⟨Nat.zero_le _, rfl, _, _, _, rfl, by simp [go_sem, nCells]⟩
  · rintro i ρ m ⟨e1, g1, g2, h, nx, lv, rfl, hb1⟩ Q hN hR hX
    simp only [nCells] at hb1
    by_cases hlt : i < n.gates.length
    · obtain ⟨p, hp⟩ : ∃ p, n.gates[i]? = some p := ⟨_, List.getElem?_eq_getElem hlt⟩
      have hlt' : ((i : Int) < (n.gates.length : Int)) = True := by simp; omega
      have hf : firstE (gateE n) (n.gates.length - i) i = if gateE n i ≠ 0 then gateE n i else firstE (gateE n) (n.gates.length - (i + 1)) (i + 1) := by
        have : n.gates.length - i = (n.gates.length - (i + 1)) + 1 := by omega
        rw [this]; rfl
      rw [hf] at g2
      have hge : gateE n i = if within p.s 0 (n.sects.length - 1) = false then 3 else if kindAt n p.s ≠ 1 then 1 else if within p.e 1 12 = false then 2 else if 0 < i ∧ p.s ≤ ((n.gates[i - 1]?).map Pair.s).getD 0 then 5 else 0 := by
        simp [gateE, hp]
      rw [hge] at g2
      simp (disch := omega) only [go_sem, e1, hN, hR, hX, hlt', hp, dPair, i64_in, hb1]
      generalize genO (AB.hget h 4) = G
      refine ⟨by omega, ?_⟩
      refine callV (f82 _ _ _) ?_
      intro nx2 lv2
      by_cases q1 : within p.s 0 (n.sects.length - 1) = true
      · have h2 : 0 ≤ p.s ∧ p.s ≤ n.sects.length - 1 := by simpa [within] using q1
        obtain ⟨c, hc⟩ : ∃ c, n.sects[p.s.toNat]? = some c := ⟨_, List.getElem?_eq_getElem (by omega)⟩
        have hk : kindAt n p.s = c.kind := by simp [kindAt, hc]
        by_cases q2 : c.kind = 1
        · simp (disch := omega) only [go_sem, hN, hR, hX, hb1, q1, hc, dSect, q2]
          refine ⟨by omega, ?_⟩
          refine callV (f82 _ _ _) ?_
          intro nx3 lv3
          by_cases q3 : within p.e 1 12 = true
          · simp (disch := omega) only [go_sem, hN, hR, hX, hb1, q3]
            by_cases q4 : 0 < i
            · have q4' : ((0 : Int) < (i : Int)) = True := by simp; omega
              obtain ⟨r, hr⟩ : ∃ r, n.gates[i - 1]? = some r := ⟨_, List.getElem?_eq_getElem (by omega)⟩
              have ei : ((i : Int) - 1).toNat = i - 1 := by omega
              refine drawn (by kernel_rfl) (by kernel_rfl) ?_
              by_cases q5 : p.s ≤ r.s
              · simp (disch := omega) only [go_sem, hN, hR, hX, hb1, q4', ei, hr, dPair, q5, i64_in]
                refine ⟨by omega, fun _ _ _ _ => ?_⟩
                rw [← g2]; simp [q1, hk, q2, q3, hr, q4, q5]
              · simp (disch := omega) only [go_sem, hN, hR, hX, hb1, q4', ei, hr, dPair, q5, i64_in]
                refine ⟨by omega, fun nx4 lv4 _ _ => ⟨by kernel_rfl, i + 1, ?_, by simp only; omega⟩⟩
                simp only [go_sem]
                exact ⟨by simp, by omega, by rw [← g2]; simp [q1, hk, q2, q3, hr, q4, q5], _, _, _, rfl, by simp [go_sem, hb1, nCells]⟩
            · have q4' : ((0 : Int) < (i : Int)) = False := by simp; omega
              refine drawn (by kernel_rfl) (by kernel_rfl) ?_
              simp (disch := omega) only [go_sem, hN, hR, hX, hb1, q4', i64_in]
              refine fun nx4 lv4 _ _ => ⟨by kernel_rfl, i + 1, ?_, by simp only; omega⟩
              simp only [go_sem]
              exact ⟨by simp, by omega, by rw [← g2]; simp [q1, hk, q2, q3, q4], _, _, _, rfl, by simp [go_sem, hb1, nCells]⟩
          · have q3 : within p.e 1 12 = false := by simpa using q3
            simp (disch := omega) only [go_sem, hN, hR, hX, hb1, q3]
            rw [← g2]; simp [q1, hk, q2, q3]
        · simp (disch := omega) only [go_sem, hN, hR, hX, hb1, q1, hc, dSect, q2]
          refine ⟨by omega, ?_⟩
          rw [← g2]; simp [q1, hk, q2]
      · have q1 : within p.s 0 (n.sects.length - 1) = false := by simpa using q1
        simp (disch := omega) only [go_sem, hN, hR, hX, hb1, q1]
        rw [← g2]; simp [q1]
    · have hlt' : ((i : Int) < (n.gates.length : Int)) = False := by simp; omega
      have : n.gates.length - i = 0 := by omega
      rw [this] at g2
      simp (disch := omega) only [go_sem, e1, hN, hR, hX, hlt']
      rw [← g2]; rfl
end Go.Proofs.YteadhjclchjfjaaGreat

/- Nets: the check of signals. -/
/- Nets: the check of signals. -/
namespace Go.Proofs.YteadhjclchjfjaaGreat
set_option linter.unusedSimpArgs false
set_option linter.unusedVariables false
open Go.AB

/-- The error of the signal with this number. -/
def sigE (n : Net) (i : Nat) : Int := match n.sigs[i]? with
  | none => 0
  | some g => if hasF n g.s g.e = false then 3 else if kindAt n g.s ≠ 1 ∨ (joinL n.links g.s g.e).isSome = false then 1
    else if 0 < i ∧ lessF (((n.sigs[i - 1]?).map Pair.s).getD 0) (((n.sigs[i - 1]?).map Pair.e).getD 0) g.s g.e = false then 5 else 0
def sigsE (n : Net) : Int := firstE (sigE n) n.sigs.length 0

set_option maxHeartbeats 4000000 in
set_option maxRecDepth 20000 in
theorem f46 (n : Net) (hb : NetB n) : PCall Tryz.prog 46 [eNet n] (RV (.int .i64 (sigsE n))) := by
  refine PCall.of_body Tryz.func46 rfl Tryz.ntmps46 (congrArg Array.toList Tryz.results46) ?_
  intro E
  have hsg := hb.sg
  have hsc := hb.sc
  simp only [go_sem, eNet, nCells]
  refine AW_loopH [2, 3, 4, 5, 6, 7, 8, 12, 13, 14, 15, 16, 17, 18, 19, 20, 21, 22, 23, 24, 25, 26, 27, 28, 29, 30, 31, 32, 33, 34, 35, 36, 37, 38, 39, 40, 41, 42, 43, 44, 45, 46, 47, 48, 49, 50, 51, 52, 53, 54, 55, 56, 57, 58, 59, 60, 61, 62, 63, 64, 65]
    (fun (i : Nat) ρ m => ρ 12 = .int .i64 (i : Int) ∧ i ≤ n.sigs.length ∧ firstE (sigE n) (n.sigs.length - i) i = sigsE n ∧
      ∃ h nx lv, m = ⟨h, [], nx, lv⟩ ∧ AB.hget h 1 = some (0, nCells n)) (fun i => n.sigs.length - i) 0 ?_ ?_
  · simp only [go_sem]
    exact ⟨Nat.zero_le _, rfl, _, _, _, rfl, by simp [go_sem, nCells]⟩
  · rintro i ρ m ⟨e1, g1, g2, h, nx, lv, rfl, hb1⟩ Q hN hR hX
    simp only [nCells] at hb1
    by_cases hlt : i < n.sigs.length
    · obtain ⟨p, hp⟩ : ∃ p, n.sigs[i]? = some p := ⟨_, List.getElem?_eq_getElem hlt⟩
      have hlt' : ((i : Int) < (n.sigs.length : Int)) = True := by simp; omega
      have hf : firstE (sigE n) (n.sigs.length - i) i = if sigE n i ≠ 0 then sigE n i else firstE (sigE n) (n.sigs.length - (i + 1)) (i + 1) := by
        have : n.sigs.length - i = (n.sigs.length - (i + 1)) + 1 := by omega
        rw [this]; rfl
      rw [hf] at g2
      have hge : sigE n i = if hasF n p.s p.e = false then 3 else if kindAt n p.s ≠ 1 ∨ (joinL n.links p.s p.e).isSome = false then 1
          else if 0 < i ∧ lessF (((n.sigs[i - 1]?).map Pair.s).getD 0) (((n.sigs[i - 1]?).map Pair.e).getD 0) p.s p.e = false then 5 else 0 := by
        simp [sigE, hp]
      rw [hge] at g2
      simp (disch := omega) only [go_sem, e1, hN, hR, hX, hlt', hp, dPair, i64_in, hb1]
      refine ⟨by omega, ?_⟩
      refine callV (f83 n p.s p.e hb) ?_
      intro nx2 lv2
      by_cases q1 : hasF n p.s p.e = true
      · have h2 : 0 ≤ p.s ∧ p.s ≤ n.sects.length - 1 := by
          have : within p.s 0 (n.sects.length - 1) = true := by
            unfold hasF at q1
            simp at q1; exact q1.1
          simpa [within] using this
        obtain ⟨c, hc⟩ : ∃ c, n.sects[p.s.toNat]? = some c := ⟨_, List.getElem?_eq_getElem (by omega)⟩
        have hk : kindAt n p.s = c.kind := by simp [kindAt, hc]
        simp (disch := omega) only [go_sem, hN, hR, hX, hb1, q1]
        refine callV (f86 n p.s p.e hb) ?_
        intro nx3 lv3
        by_cases q2 : (joinL n.links p.s p.e).isSome = true
        · by_cases q3 : c.kind = 1
          · by_cases q4 : 0 < i
            · have q4' : ((0 : Int) < (i : Int)) = True := by simp; omega
              obtain ⟨r, hr⟩ : ∃ r, n.sigs[i - 1]? = some r := ⟨_, List.getElem?_eq_getElem (by omega)⟩
              have ei : ((i : Int) - 1).toNat = i - 1 := by omega
              simp (disch := omega) only [go_sem, hN, hR, hX, hb1, q2, hc, dSect, q3, q4', ei, hr, dPair, i64_in]
              refine ⟨by omega, by omega, ?_⟩
              refine drawn (by kernel_rfl) (by kernel_rfl) ?_
              simp (disch := omega) only [go_sem, hN, hR, hX, hb1, i64_in]
              refine quietD (f85 _ _) (fun _ => rfl) ?_
              simp (disch := omega) only [go_sem, hN, hR, hX, hb1, i64_in]
              refine quietD (f85 _ _) (fun _ => rfl) ?_
              simp (disch := omega) only [go_sem, hN, hR, hX, hb1, i64_in]
              refine quietD (f84 _ _) (fun _ => rfl) ?_
              by_cases q5 : lessF r.s r.e p.s p.e = false
              · have q6 := (order_F _ _ _ _).2 q5
                simp (disch := omega) only [go_sem, hN, hR, hX, hb1, q6]
                intro _ _ _ _
                rw [← g2]; simp [q1, hk, q2, q3, hr, q4, q5]
              · have q6 : ¬ _ := fun x => q5 ((order_F _ _ _ _).1 x)
                simp (disch := omega) only [go_sem, hN, hR, hX, hb1, q6, i64_in]
                have q5' : lessF r.s r.e p.s p.e = true := by simpa using q5
                refine fun nx4 lv4 _ _ => ⟨by kernel_rfl, i + 1, ?_, by simp only; omega⟩
                simp only [go_sem]
                exact ⟨by simp, by omega, by rw [← g2]; simp [q1, hk, q2, q3, hr, q4, q5'], _, _, _, rfl, by simp [go_sem, hb1, nCells]⟩
            · have q4' : ((0 : Int) < (i : Int)) = False := by simp; omega
              simp (disch := omega) only [go_sem, hN, hR, hX, hb1, q2, hc, dSect, q3, q4', i64_in]
              refine ⟨by omega, by kernel_rfl, i + 1, ?_, by simp only; omega⟩
              simp only [go_sem]
              exact ⟨by simp, by omega, by rw [← g2]; simp [q1, hk, q2, q3, q4], _, _, _, rfl, by simp [go_sem, hb1, nCells]⟩
          · simp (disch := omega) only [go_sem, hN, hR, hX, hb1, q2, hc, dSect, q3]
            refine ⟨by omega, ?_⟩
            rw [← g2]; simp [q1, hk, q3]
        · have q2 : (joinL n.links p.s p.e).isSome = false := by simpa using q2
          simp (disch := omega) only [go_sem, hN, hR, hX, hb1, q2]
          rw [← g2]; simp [q1, q2]
      · have q1 : hasF n p.s p.e = false := by simpa using q1
        simp (disch := omega) only [go_sem, hN, hR, hX, hb1, q1]
        rw [← g2]; simp [q1]
    · have hlt' : ((i : Int) < (n.sigs.length : Int)) = False := by simp; omega
      have : n.sigs.length - i = 0 := by omega
      rw [this] at g2
      simp (disch := omega) only [go_sem, e1, hN, hR, hX, hlt']
      rw [← g2]; rfl
end Go.Proofs.YteadhjclchjfjaaGreat

/- Nets: the reference's checks of signals and gates. -/
/- Nets: the reference's checks of signals and gates. -/
namespace Go.Proofs.YteadhjclchjfjaaGreat
set_option linter.unusedSimpArgs false
set_option linter.unusedVariables false
open Go.AB

def restE (n : Net) : Int := if sigsE n ≠ 0 then sigsE n else gatesE n

set_option maxHeartbeats 4000000 in
set_option maxRecDepth 20000 in
theorem f29 (n : Net) (hb : NetB n) (hks : KindsOk n) : PCall Tryz.prog 29 [eNet n] (RV (.int .i64 (restE n))) := by
  refine PCall.of_body Tryz.func29 rfl Tryz.ntmps29 (congrArg Array.toList Tryz.results29) ?_
  intro E
  have hsg := hb.sg
  have hsc := hb.sc
  have hgt := hb.gt
  simp only [go_sem, eNet, nCells]
  refine AW_loopH [2, 3, 4, 5, 6, 7, 13, 14, 15, 16, 17, 18, 19, 20, 21, 22, 23, 24, 25, 26, 27, 28, 29, 30, 31, 32, 33, 34, 35, 36, 37, 38, 39, 40, 41, 42, 43, 44, 45, 46, 47, 48, 49, 50, 51, 52, 53, 54, 55, 56, 57, 58, 59, 60, 61, 62, 63, 64, 65, 66, 67, 68, 69, 70, 71]
    (fun (i : Nat) ρ m => ρ 13 = .int .i64 (i : Int) ∧ i ≤ n.sigs.length ∧ firstE (sigE n) (n.sigs.length - i) i = sigsE n ∧
      ∃ h nx lv, m = ⟨h, [], nx, lv⟩ ∧ AB.hget h 1 = some (0, nCells n)) (fun i => n.sigs.length - i) 0 ?_ ?_
  · simp only [go_sem]
    exact ⟨Nat.zero_le _, rfl, _, _, _, rfl, by simp [go_sem, nCells]⟩
  · rintro i ρ m ⟨e1, g1, g2, h, nx, lv, rfl, hb1⟩ Q hN hR hX
    simp only [nCells] at hb1
    by_cases hlt : i < n.sigs.length
    · obtain ⟨p, hp⟩ : ∃ p, n.sigs[i]? = some p := ⟨_, List.getElem?_eq_getElem hlt⟩
      have hlt' : ((i : Int) < (n.sigs.length : Int)) = True := by simp; omega
      have hf : firstE (sigE n) (n.sigs.length - i) i = if sigE n i ≠ 0 then sigE n i else firstE (sigE n) (n.sigs.length - (i + 1)) (i + 1) := by
        have : n.sigs.length - i = (n.sigs.length - (i + 1)) + 1 := by omega
        rw [this]; rfl
      rw [hf] at g2
      have hge : sigE n i = if hasF n p.s p.e = false then 3 else if kindAt n p.s ≠ 1 ∨ (joinL n.links p.s p.e).isSome = false then 1
          else if 0 < i ∧ lessF (((n.sigs[i - 1]?).map Pair.s).getD 0) (((n.sigs[i - 1]?).map Pair.e).getD 0) p.s p.e = false then 5 else 0 := by
        simp [sigE, hp]
      rw [hge] at g2
      simp (disch := omega) only [go_sem, e1, hN, hR, hX, hlt', hp, dPair, i64_in, hb1]
      refine ⟨by omega, ?_⟩
      refine callV (f64 n p.s p.e hb hks) ?_
      intro nx2 lv2
      by_cases q1 : hasF n p.s p.e = true
      · have h2 : 0 ≤ p.s ∧ p.s ≤ n.sects.length - 1 := by
          have : within p.s 0 (n.sects.length - 1) = true := by
            unfold hasF at q1
            simp at q1; exact q1.1
          simpa [within] using this
        obtain ⟨c, hc⟩ : ∃ c, n.sects[p.s.toNat]? = some c := ⟨_, List.getElem?_eq_getElem (by omega)⟩
        have hk : kindAt n p.s = c.kind := by simp [kindAt, hc]
        simp (disch := omega) only [go_sem, hN, hR, hX, hb1, q1]
        refine callV (f66 n p.s p.e hb) ?_
        intro nx3 lv3
        by_cases q3 : c.kind = 1
        · by_cases q2 : (joinL n.links p.s p.e).isSome = true
          · by_cases q4 : 0 < i
            · have q4' : ((0 : Int) < (i : Int)) = True := by simp; omega
              obtain ⟨r, hr⟩ : ∃ r, n.sigs[i - 1]? = some r := ⟨_, List.getElem?_eq_getElem (by omega)⟩
              have ei : ((i : Int) - 1).toNat = i - 1 := by omega
              simp (disch := omega) only [go_sem, hN, hR, hX, hb1, q2, hc, dSect, q3, i64_in]
              refine ⟨by omega, ?_⟩
              refine drawn (by kernel_rfl) (by kernel_rfl) ?_
              simp (disch := omega) only [go_sem, hN, hR, hX, hb1, q4', ei, hr, dPair, i64_in]
              refine ⟨by omega, by omega, ?_⟩
              refine quietD (f65 _ _ _ _) (fun _ => rfl) ?_
              by_cases q5 : lessF r.s r.e p.s p.e = false
              · simp (disch := omega) only [go_sem, hN, hR, hX, hb1, q5]
                intro _ _ _ _
                have : sigsE n = 5 := by rw [← g2]; simp [q1, hk, q2, q3, hr, q4, q5]
                simp [restE, this]
              · have q5' : lessF r.s r.e p.s p.e = true := by simpa using q5
                simp (disch := omega) only [go_sem, hN, hR, hX, hb1, q5', i64_in]
                refine fun nx4 lv4 _ _ => ⟨by kernel_rfl, i + 1, ?_, by simp only; omega⟩
                simp only [go_sem]
                exact ⟨by simp, by omega, by rw [← g2]; simp [q1, hk, q2, q3, hr, q4, q5'], _, _, _, rfl, by simp [go_sem, hb1, nCells]⟩
            · have q4' : ((0 : Int) < (i : Int)) = False := by simp; omega
              simp (disch := omega) only [go_sem, hN, hR, hX, hb1, q2, hc, dSect, q3, i64_in]
              refine ⟨by omega, ?_⟩
              refine drawn (by kernel_rfl) (by kernel_rfl) ?_
              simp (disch := omega) only [go_sem, hN, hR, hX, hb1, q4', i64_in]
              refine fun nx4 lv4 _ _ => ⟨by kernel_rfl, i + 1, ?_, by simp only; omega⟩
              simp only [go_sem]
              exact ⟨by simp, by omega, by rw [← g2]; simp [q1, hk, q2, q3, q4], _, _, _, rfl, by simp [go_sem, hb1, nCells]⟩
          · have q2 : (joinL n.links p.s p.e).isSome = false := by simpa using q2
            simp (disch := omega) only [go_sem, hN, hR, hX, hb1, q2, hc, dSect, q3]
            refine ⟨by omega, ?_⟩
            have : sigsE n = 1 := by rw [← g2]; simp [q1, q2]
            simp [restE, this]
        · simp (disch := omega) only [go_sem, hN, hR, hX, hb1, hc, dSect, q3]
          refine ⟨by omega, ?_⟩
          have : sigsE n = 1 := by rw [← g2]; simp [q1, hk, q3]
          simp [restE, this]
      · have q1 : hasF n p.s p.e = false := by simpa using q1
        simp (disch := omega) only [go_sem, hN, hR, hX, hb1, q1]
        have : sigsE n = 3 := by rw [← g2]; simp [q1]
        simp [restE, this]
    · have hlt' : ((i : Int) < (n.sigs.length : Int)) = False := by simp; omega
      have : n.sigs.length - i = 0 := by omega
      rw [this] at g2
      simp (disch := omega) only [go_sem, e1, hN, hR, hX, hlt', hb1]
      have hz : restE n = gatesE n := by
        have : sigsE n = 0 := by rw [← g2]; rfl
        simp [restE, this]
      rw [hz]
      clear g2 hN hR hX e1
      refine AW_loopH [2, 8, 9, 75, 76, 77, 78, 79, 80, 81, 82, 83, 84, 85, 86, 87, 88, 89, 90, 91, 92, 93, 94, 95, 96, 97, 98, 99, 100, 101, 102, 103, 104, 105, 106, 107, 108, 109, 110, 111, 112, 113, 114, 115, 116, 117, 118, 119, 120, 121]
        (fun (i : Nat) ρ m => ρ 75 = .int .i64 (i : Int) ∧ i ≤ n.gates.length ∧ firstE (gateE n) (n.gates.length - i) i = gatesE n ∧
          ∃ h nx lv, m = ⟨h, [], nx, lv⟩ ∧ AB.hget h 1 = some (0, nCells n)) (fun i => n.gates.length - i) 0 ?_ ?_
      · simp only [go_sem]
        exact ⟨Nat.zero_le _, rfl, _, _, _, rfl, by simp [go_sem, nCells, hb1]⟩
      · rintro i ρ m ⟨e1, g1, g2, h, nx, lv, rfl, hb1⟩ Q hN hR hX
        simp only [nCells] at hb1
        by_cases hlt : i < n.gates.length
        · obtain ⟨p, hp⟩ : ∃ p, n.gates[i]? = some p := ⟨_, List.getElem?_eq_getElem hlt⟩
          have hlt' : ((i : Int) < (n.gates.length : Int)) = True := by simp; omega
          have hf : firstE (gateE n) (n.gates.length - i) i = if gateE n i ≠ 0 then gateE n i else firstE (gateE n) (n.gates.length - (i + 1)) (i + 1) := by
            have : n.gates.length - i = (n.gates.length - (i + 1)) + 1 := by omega
            rw [this]; rfl
          rw [hf] at g2
          have hge : gateE n i = if within p.s 0 (n.sects.length - 1) = false then 3 else if kindAt n p.s ≠ 1 then 1 else if within p.e 1 12 = false then 2 else if 0 < i ∧ p.s ≤ ((n.gates[i - 1]?).map Pair.s).getD 0 then 5 else 0 := by
            simp [gateE, hp]
          rw [hge] at g2
          by_cases a1 : p.s < 0
          · have q1 : within p.s 0 (n.sects.length - 1) = false := by simp [within]; omega
            simp (disch := omega) only [go_sem, e1, hN, hR, hX, hlt', hp, dPair, i64_in, hb1, a1]
            refine ⟨by omega, ?_⟩
            rw [← g2]; simp [q1]
          by_cases a2 : (n.sects.length : Int) ≤ p.s
          · have q1 : within p.s 0 (n.sects.length - 1) = false := by simp [within]; omega
            simp (disch := omega) only [go_sem, e1, hN, hR, hX, hlt', hp, dPair, i64_in, hb1, a1, a2]
            refine ⟨by omega, ?_⟩
            rw [← g2]; simp [q1]
          have q1 : within p.s 0 (n.sects.length - 1) = true := by simp [within]; omega
          obtain ⟨c, hc⟩ : ∃ c, n.sects[p.s.toNat]? = some c := ⟨_, List.getElem?_eq_getElem (by omega)⟩
          have hk : kindAt n p.s = c.kind := by simp [kindAt, hc]
          by_cases q2 : c.kind = 1
          · by_cases b1 : p.e < 1
            · have q3 : within p.e 1 12 = false := by simp [within]; omega
              simp (config := {maxSteps := 2000000}) (disch := omega) only [go_sem, e1, hN, hR, hX, hlt', hp, dPair, i64_in, hb1, a1, a2, hc, dSect, q2, b1]
              refine ⟨by omega, by omega, ?_⟩
              rw [← g2]; simp [q1, hk, q2, q3]
            by_cases b2 : 12 < p.e
            · have q3 : within p.e 1 12 = false := by simp [within]; omega
              simp (config := {maxSteps := 2000000}) (disch := omega) only [go_sem, e1, hN, hR, hX, hlt', hp, dPair, i64_in, hb1, a1, a2, hc, dSect, q2, b1, b2]
              refine ⟨by omega, by omega, ?_⟩
              rw [← g2]; simp [q1, hk, q2, q3]
            have q3 : within p.e 1 12 = true := by simp [within]; omega
            simp (disch := omega) only [go_sem, e1, hN, hR, hX, hlt', hp, dPair, i64_in, hb1, a1, a2, hc, dSect, q2, b1, b2]
            refine ⟨by omega, by omega, ?_⟩
            refine drawn (by kernel_rfl) (by kernel_rfl) ?_
            by_cases q4 : 0 < i
            · have q4' : ((0 : Int) < (i : Int)) = True := by simp; omega
              obtain ⟨r, hr⟩ : ∃ r, n.gates[i - 1]? = some r := ⟨_, List.getElem?_eq_getElem (by omega)⟩
              have ei : ((i : Int) - 1).toNat = i - 1 := by omega
              by_cases q5 : p.s ≤ r.s
              · simp (disch := omega) only [go_sem, hN, hR, hX, hb1, q4', ei, hr, dPair, q5, i64_in]
                refine ⟨by omega, fun _ _ _ _ => ?_⟩
                rw [← g2]; simp [q1, hk, q2, q3, hr, q4, q5]
              · simp (disch := omega) only [go_sem, hN, hR, hX, hb1, q4', ei, hr, dPair, q5, i64_in]
                refine ⟨by omega, fun nx4 lv4 _ _ => ⟨by kernel_rfl, i + 1, ?_, by simp only; omega⟩⟩
                simp only [go_sem]
                exact ⟨by simp, by omega, by rw [← g2]; simp [q1, hk, q2, q3, hr, q4, q5], _, _, _, rfl, by simp [go_sem, hb1, nCells]⟩
            · have q4' : ((0 : Int) < (i : Int)) = False := by simp; omega
              simp (disch := omega) only [go_sem, hN, hR, hX, hb1, q4', i64_in]
              refine fun nx4 lv4 _ _ => ⟨by kernel_rfl, i + 1, ?_, by simp only; omega⟩
              simp only [go_sem]
              exact ⟨by simp, by omega, by rw [← g2]; simp [q1, hk, q2, q3, q4], _, _, _, rfl, by simp [go_sem, hb1, nCells]⟩
          · simp (disch := omega) only [go_sem, e1, hN, hR, hX, hlt', hp, dPair, i64_in, hb1, a1, a2, hc, dSect, q2]
            refine ⟨by omega, by omega, ?_⟩
            rw [← g2]; simp [q1, hk, q2]
        · have hlt' : ((i : Int) < (n.gates.length : Int)) = False := by simp; omega
          have : n.gates.length - i = 0 := by omega
          rw [this] at g2
          simp (disch := omega) only [go_sem, e1, hN, hR, hX, hlt']
          rw [← g2]; rfl
end Go.Proofs.YteadhjclchjfjaaGreat

/- Nets: the reference's check of a link. -/
/- Nets: the reference's check of a link. -/
namespace Go.Proofs.YteadhjclchjfjaaGreat
set_option linter.unusedSimpArgs false
set_option linter.unusedVariables false
open Go.AB

def endEq (k l : Lnk) : Bool := (decide (k.a = l.a) && decide (k.ea = l.ea)) || (decide (k.a = l.b) && decide (k.ea = l.eb)) || (decide (k.b = l.a) && decide (k.eb = l.ea)) || (decide (k.b = l.b) && decide (k.eb = l.eb))
def linkE (n : Net) (i : Nat) : Int := match n.links[i]? with
  | none => 0
  | some l => if hasF n l.a l.ea = false ∨ hasF n l.b l.eb = false then 3 else if l.a = l.b then 1
    else if l.b < l.a ∨ (0 < i ∧ lessF (((n.links[i - 1]?).map Lnk.a).getD 0) (((n.links[i - 1]?).map Lnk.ea).getD 0) l.a l.ea = false) then 5
    else if ((n.links.take i).any fun k => endEq k l) = true then 6 else 0

set_option maxHeartbeats 4000000 in
set_option maxRecDepth 20000 in
theorem f28 (n : Net) (i : Nat) (l : Lnk) (hl : n.links[i]? = some l) (hb : NetB n) (hks : KindsOk n) : PCall Tryz.prog 28 [eNet n, .int .i64 (i : Int)] (RV (.int .i64 (linkE n i))) := by
  refine PCall.of_body Tryz.func28 rfl Tryz.ntmps28 (congrArg Array.toList Tryz.results28) ?_
  intro E
  have hlk := hb.lk
  have hi : i < n.links.length := (List.getElem?_eq_some_iff.1 hl).1
  have hge : linkE n i = if hasF n l.a l.ea = false ∨ hasF n l.b l.eb = false then 3 else if l.a = l.b then 1
    else if l.b < l.a ∨ (0 < i ∧ lessF (((n.links[i - 1]?).map Lnk.a).getD 0) (((n.links[i - 1]?).map Lnk.ea).getD 0) l.a l.ea = false) then 5
    else if ((n.links.take i).any fun k => endEq k l) = true then 6 else 0 := by simp [linkE, hl]
  have h0i : ((0 : Int) ≤ (i : Int)) = True := by simp
  simp (disch := omega) only [go_sem, eNet, nCells, hl, dLnk]
  refine ⟨by omega, ?_⟩
  refine callV (f64 n l.a l.ea hb hks) ?_
  intro nx lv
  by_cases q1 : hasF n l.a l.ea = true
  · simp only [go_sem, q1]
    refine callV (f64 n l.b l.eb hb hks) ?_
    intro nx2 lv2
    by_cases q2 : hasF n l.b l.eb = true
    · by_cases q3 : l.a = l.b
      · simp only [go_sem, q1, q2, q3]
        rw [hge, if_neg (by rw [q1, q2]; simp), if_pos q3]
      · by_cases q4 : l.b < l.a
        · simp only [go_sem, q1, q2, q3]
          refine drawn (by kernel_rfl) (by kernel_rfl) ?_
          simp only [go_sem, q4]
          intro _ _ _ _
          rw [hge]; simp [q1, q2, q3, q4]
        · by_cases q5 : 0 < i
          · have q5' : ((0 : Int) < (i : Int)) = True := by simp; omega
            obtain ⟨r, hr⟩ : ∃ r, n.links[i - 1]? = some r := ⟨_, List.getElem?_eq_getElem (by omega)⟩
            have ei : ((i : Int) - 1).toNat = i - 1 := by omega
            have ew : IntKind.i64.wrap ((i : Int) - 1) = (i : Int) - 1 := i64_in (by omega) (by omega)
            simp only [go_sem, q1, q2, q3]
            refine drawn (by kernel_rfl) (by kernel_rfl) ?_
            simp only [go_sem, q4, q5', ew, ei, hr, dLnk]
            refine ⟨by omega, by omega, ?_⟩
            refine quietD (f65 _ _ _ _) (fun _ => rfl) ?_
            by_cases q6 : lessF r.a r.ea l.a l.ea = true
            · simp only [go_sem, q6]
              intro nx4 lv4 _ _
              simp only [h0i, if_true]
              refine ⟨by omega, by omega, ?_⟩
              have hge : linkE n i = if ((n.links.take i).any fun k => endEq k l) = true then 6 else 0 := by rw [hge]; simp [q1, q2, q3, q4, hr, q6]
              refine AW_loopH [4, 7, 9, 72, 73, 74, 75, 76, 77, 78, 79, 80, 81, 82, 83, 84, 85, 86, 87, 88, 89, 90, 91, 92, 93, 94, 95, 96, 97, 98, 99, 100, 101, 102, 103, 104, 105, 106, 107, 108, 109]
                (fun (x : Nat) ρ m => ρ 72 = .int .i64 (x : Int) ∧ x ≤ i ∧ (∀ k ∈ n.links.take x, endEq k l = false) ∧
                  ∃ h nx lv, m = ⟨h, [], nx, lv⟩ ∧ AB.hget h 5 = some (0, [.int .i64 l.a, .int .i64 l.ea, .int .i64 l.b, .int .i64 l.eb])) (fun x => i - x) 0 ?_ ?_
              · simp only [go_sem]
                exact ⟨Nat.zero_le _, by simp, _, _, _, rfl, by simp [go_sem]⟩
              · rintro x ρ m ⟨e1, g1, g2, h, nx, lv, rfl, hb5⟩ Q hN hR hX
                have hmin : min i n.links.length = i := by omega
                by_cases hlt : x < i
                · obtain ⟨k, hk⟩ : ∃ k, n.links[x]? = some k := ⟨_, List.getElem?_eq_getElem (by omega)⟩
                  have hlt' : ((x : Int) < (i : Int)) = True := by simp; omega
                  have hlen : (List.take (i - 0) (List.map dLnk n.links)).length = i := by simp; omega
                  have hk' : (List.take (i - 0) (List.map dLnk n.links))[x]? = some (dLnk k) := by
                    rw [List.getElem?_take, if_pos (by omega), List.getElem?_map, hk]; rfl
                  have hltL : ((x : Int) < ((List.take (i - 0) (List.map dLnk n.links)).length : Int)) = True := by rw [hlen]; exact hlt'
                  simp only [go_sem, e1, hltL, hb5, hk', dLnk]
                  generalize genO (AB.hget h 7) = G7
                  refine ⟨by omega, ?_⟩
                  refine AW_loopH [4, 9, 88, 89, 90, 91, 92, 93, 94, 95, 96, 97, 98, 99, 100, 101, 102, 103, 104, 105, 106, 107, 108]
                    (fun (y : Nat) ρ m => ρ 88 = .int .i64 (y : Int) ∧ y ≤ 2 ∧ (1 ≤ y → ¬ ((k.a = l.a ∧ k.ea = l.ea) ∨ (k.a = l.b ∧ k.ea = l.eb))) ∧ (2 ≤ y → ¬ ((k.b = l.a ∧ k.eb = l.ea) ∨ (k.b = l.b ∧ k.eb = l.eb))) ∧
                      ∃ h nx lv, m = ⟨h, [], nx, lv⟩ ∧ AB.hget h 5 = some (0, [.int .i64 l.a, .int .i64 l.ea, .int .i64 l.b, .int .i64 l.eb])) (fun y => 2 - y) 0 ?_ ?_
                  · simp only [go_sem]
                    exact ⟨_, _, _, rfl, by simp [go_sem, hb5]⟩
                  · rintro y ρ m ⟨f1, r1, r2, r3, h, nx, lv, rfl, hb5⟩ Q2 hN2 hR2 hX2
                    by_cases hy : y < 2
                    · obtain ⟨u, v, hv, hv0, hv1⟩ : ∃ u v, ([DV.agg [.int .i64 k.a, .int .i64 k.ea], .agg [.int .i64 k.b, .int .i64 k.eb]] : List DV)[y]? = some (.agg [.int .i64 u, .int .i64 v]) ∧ (y = 0 → u = k.a ∧ v = k.ea) ∧ (y = 1 → u = k.b ∧ v = k.eb) := by
                        have h3 : y = 0 ∨ y = 1 := by omega
                        rcases h3 with rfl | rfl
                        · exact ⟨k.a, k.ea, rfl, fun _ => ⟨rfl, rfl⟩, fun h => by omega⟩
                        · exact ⟨k.b, k.eb, rfl, fun h => by omega, fun _ => ⟨rfl, rfl⟩⟩
                      have hy' : ((y : Int) < 2) = True := by simp; omega
                      have wy : IntKind.i64.wrap ((y : Int) + 1) = (y : Int) + 1 := i64_in (by omega) (by omega)
                      have six : ((u = l.a ∧ v = l.ea) ∨ (u = l.b ∧ v = l.eb)) → linkE n i = 6 := fun t => by
                        have hm : k ∈ n.links.take i := by
                          refine List.mem_of_getElem? (i := x) ?_
                          rw [List.getElem?_take, if_pos hlt]; exact hk
                        have he : endEq k l = true := by
                          have h3 : y = 0 ∨ y = 1 := by omega
                          unfold endEq
                          rcases h3 with rfl | rfl
                          · obtain ⟨rfl, rfl⟩ := hv0 rfl
                            rcases t with t | t <;> simp [t.1, t.2]
                          · obtain ⟨rfl, rfl⟩ := hv1 rfl
                            rcases t with t | t <;> simp [t.1, t.2]
                        rw [hge, if_pos (List.any_eq_true.2 ⟨k, hm, he⟩)]
                      simp only [go_sem, f1, hy', hv, hb5, hN2, hR2, hX2, hR, wy]
                      refine ⟨by omega, fun t1 => (six (.inl t1)).symm, fun t1 => ⟨fun t2 => (six (.inr t2)).symm, fun t2 => ⟨by kernel_rfl, y + 1, ?_, by simp only; omega⟩⟩⟩
                      simp only [go_sem]
                      exact ⟨by simp, by omega, by grind, by grind, _, _, _, rfl, by simp [go_sem, hb5]⟩
                    · have hy' : ((y : Int) < 2) = False := by simp; omega
                      have wx : IntKind.i64.wrap ((x : Int) + 1) = (x : Int) + 1 := i64_in (by omega) (by omega)
                      simp only [go_sem, f1, hy', hX2, hN, e1, wx]
                      refine ⟨by kernel_rfl, x + 1, ?_, by simp only; omega⟩
                      simp only [go_sem]
                      refine ⟨by simp, by omega, ?_, _, _, _, rfl, by simp [go_sem, hb5]⟩
                      intro k' hk'
                      rw [List.take_add_one, hk] at hk'
                      simp only [List.mem_append, Option.toList_some, List.mem_singleton] at hk'
                      rcases hk' with hk' | rfl
                      · exact g2 k' hk'
                      · have r2 := r2 (by omega)
                        have r3 := r3 (by omega)
                        unfold endEq
                        simp
                        grind
                · have hlen : (List.take (i - 0) (List.map dLnk n.links)).length = i := by simp; omega
                  have hlt' : ((x : Int) < (i : Int)) = False := by simp; omega
                  have hx : x = i := by omega
                  simp only [go_sem, e1, hlen, hlt', hX]
                  rw [hge, if_neg]
                  rw [hx] at g2
                  simpa using g2
            · have q6 : lessF r.a r.ea l.a l.ea = false := by simpa using q6
              simp only [go_sem, q6]
              intro _ _ _ _
              rw [hge]; simp [q1, q2, q3, q5, hr, q6]
          · have q5' : ((0 : Int) < (i : Int)) = False := by simp; omega
            have hi0 : i = 0 := by omega
            simp only [go_sem, q1, q2, q3]
            refine drawn (by kernel_rfl) (by kernel_rfl) ?_
            simp only [go_sem, q4, q5']
            intro nx4 lv4 _ _
            simp only [h0i, if_true]
            refine ⟨by omega, by omega, ?_⟩
            have hge : linkE n i = 0 := by rw [hge]; simp [q1, q2, q3, q4, hi0]
            refine AW_loopH [72]
              (fun (_ : Nat) ρ _ => ρ 72 = .int .i64 0) (fun x => x) 0 ?_ ?_
            · simp only [go_sem]
            · rintro x ρ m e1 Q hN hR hX
              have hlen : (List.take (i - 0) (List.map dLnk n.links)).length = 0 := by simp; omega
              have hlt' : ((0 : Int) < 0) = False := by simp
              simp only [go_sem, e1, hlen, hX]
              rw [hge]
    · have q2 : hasF n l.b l.eb = false := by simpa using q2
      simp only [go_sem, q2]
      rw [hge]; simp [q1, q2]
  · have q1 : hasF n l.a l.ea = false := by simpa using q1
    simp only [go_sem, q1]
    rw [hge]; simp [q1]
end Go.Proofs.YteadhjclchjfjaaGreat
