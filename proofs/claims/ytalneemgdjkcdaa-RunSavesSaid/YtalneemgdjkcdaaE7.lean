/- Contracts of the errors of a second. -/
import Derived.Test.YtalneemgdjkcdaaE6
namespace Go.Proofs.Ytalneemgdjkcdaa
open Go.AB

theorem secErr_ok {s : Stock} {way : List Piece} {x : Sta} {fin : Int} (h : secErr s way x fin = 0) : checkS s = 0 ∧ wayErr way = 0 ∧ (0 ≤ fin ∧ fin ≤ total way) ∧ (0 ≤ x.pos ∧ x.pos ≤ fin) ∧ (0 ≤ x.v ∧ x.v ≤ s.top) ∧ (0 ≤ x.work ∧ x.work ≤ 1152921504606846976) := by
  unfold secErr at h
  split at h
  · rename_i h1; exact absurd h h1
  · rename_i h1
    split at h
    · rename_i h2; exact absurd h h2
    · rename_i h2
      split at h
      · rename_i h3
        simp only [within, Bool.and_eq_true, decide_eq_true_eq] at h3
        exact ⟨by simpa using h1, by simpa using h2, h3⟩
      · cases h
theorem wayErr_ok {way : List Piece} (h : wayErr way = 0) : way ≠ [] ∧ way.length ≤ 60 ∧ way.all pieceOk = true := by
  unfold wayErr at h
  repeat' split at h
  all_goals first | cases h | skip
  rename_i h1 h2 h3
  exact ⟨h1, by omega, h3⟩

set_option maxHeartbeats 4000000 in
set_option maxRecDepth 20000 in
theorem f34 (s : Stock) (way : List Piece) (x : Sta) (fin : Int) (hs : s.name.length ≤ 140737488351232) : PCall Try.prog 34 [eStock s, waysV way, eSta x, .int .i64 fin] (RV (.int .i64 (secErr s way x fin))) := by
  refine PCall.of_body Try.func34 rfl Try.ntmps34 (congrArg Array.toList Try.results34) ?_
  intro E
  simp only [go_sem, eStock, eSta, waysV]
  refine callV (f73 s hs) ?_
  intro nx lv
  simp only [go_sem]
  refine ⟨fun h => by simp [secErr, h], fun h => ?_⟩
  refine callV (f74 way) ?_
  intro nx lv
  simp only [go_sem]
  refine ⟨fun h1 => by simp [secErr, h, h1], fun h1 => ?_⟩
  obtain ⟨hw0, hl, hw⟩ := wayErr_ok (by simpa using h1)
  have res : ∀ b : Bool, b = (within fin 0 (total way) && (within x.pos 0 fin && (within x.v 0 s.top && within x.work 0 1152921504606846976))) → (if b = true then (0 : Int) else 2) = secErr s way x fin := by
    intro b hb
    have h1' : wayErr way = 0 := by simpa using h1
    simp [secErr, h, h1', hb]
  by_cases c1 : fin < 0
  · simp (config := {maxSteps := 1000000}) only [go_sem, c1]
    rw [← res false (by simp [within]; omega)]; rfl
  simp (config := {maxSteps := 1000000}) only [go_sem, c1]
  refine callV (f75 way hw hl) ?_
  intro nx lv
  simp (config := {maxSteps := 1000000}) only [go_sem]
  repeat' first
    | refine And.intro ?_ ?_
    | intro _
  all_goals first
    | (rw [← res false (by simp [within]; omega)]; rfl)
    | (rw [← res true (by simp [within]; omega)]; rfl)

set_option maxHeartbeats 4000000 in
set_option maxRecDepth 20000 in
theorem f70 (s : Stock) (way : List Piece) (x : Sta) (fin : Int) (hs : s.name.length ≤ 140737488351232) : PCall Try.prog 70 [eStock s, waysV way, eSta x, .int .i64 fin] (RV (.int .i64 (secErr s way x fin))) := by
  refine PCall.of_body Try.func70 rfl Try.ntmps70 (congrArg Array.toList Try.results70) ?_
  intro E
  simp only [go_sem, eStock, eSta, waysV]
  refine callV (f104 s hs) ?_
  intro nx lv
  simp only [go_sem]
  refine ⟨fun h => by simp [secErr, h], fun h => ⟨fun h1 => ?_, fun h1 => ⟨fun h2 => ?_, fun h2 => ?_⟩⟩⟩
  · have : way = [] := List.length_eq_zero_iff.1 (by omega)
    simp [secErr, h, wayErr, this]
  · have : way ≠ [] := fun e => by simp [e] at h1
    have : wayErr way = 4 := by unfold wayErr; rw [if_neg this, if_pos (by omega)]
    simp [secErr, h, this]
  have hw0 : way ≠ [] := fun e => by simp [e] at h1
  have hl : way.length ≤ 60 := by omega
  refine AW_loopS [8, 10, 12, 28, 29, 30, 31, 32, 33, 34, 35, 36, 37, 38, 39, 40, 41, 42, 43, 44, 45, 46, 47, 48, 49, 50, 51, 52]
    (fun (i : Nat) ρ m => ρ 28 = .int .i64 (i : Int) ∧ ρ 10 = .int .i64 (pre way i) ∧ (∃ h nx lv, m = ⟨h, [], nx, lv⟩ ∧ AB.hget h 4 = some (0, sBox s) ∧ AB.hget h 6 = some (0, [.int .i64 x.pos, .int .i64 x.v, .int .i64 x.work])) ∧ i ≤ way.length ∧ (way.take i).all pieceOk = true ∧ (0 ≤ pre way i ∧ pre way i ≤ 300000 * i)) (fun i => way.length - i) 0 ?_ ?_
  · simp only [go_sem, pre_zero, sBox, sCells]
    exact ⟨⟨_, _, _, rfl, by simp [go_sem], by simp [go_sem]⟩, Nat.zero_le _⟩
  · rintro i ρ m ⟨e28, e10, ⟨hh, nx, lv, rfl, hb4, hb6⟩, hi, hall, hpb⟩
    by_cases hlt : i < way.length
    · have hlt' : ((i : Int) < (way.length : Int)) = True := by simp; omega
      obtain ⟨p, hp⟩ : ∃ p, way[i]? = some p := ⟨_, List.getElem?_eq_getElem hlt⟩
      have ht := take_all_p hp
      have hps := pre_succ hp
      have bad : pieceOk p = false → secErr s way x fin = 2 := fun hb => by
        have : wayErr way = 2 := by
          unfold wayErr
          rw [if_neg hw0, if_neg (by omega), if_neg (by rw [all_bad_p hp hb]; simp)]
        simp [secErr, h, this]
      simp (config := {maxSteps := 1000000}) (disch := omega) only [go_sem, e28, e10, hlt', hp, dPiece, i64_in]
      refine ⟨by omega, ?_⟩
      generalize genO (AB.hget hh 12) = G
      refine callV (f83 _ _ _) ?_
      intro nx2 lv2
      by_cases a1 : within p.len 1 300000 = true
      · simp (config := {maxSteps := 1000000}) only [go_sem, a1]
        refine callV (f83 _ _ _) ?_
        intro nx3 lv3
        by_cases a2 : within p.grade (-40) 40 = true
        · simp (config := {maxSteps := 1000000}) only [go_sem, a2]
          refine callV (f83 _ _ _) ?_
          intro nx4 lv4
          by_cases a3 : within p.speed 1 6000 = true
          · have hok : pieceOk p = true := by simp [pieceOk, a1, a2, a3]
            have hk := pieceOk_iff.1 hok
            simp (config := {maxSteps := 1000000}) (disch := omega) only [go_sem, a3, i64_in]
            refine ⟨by kernel_rfl, i + 1, ?_, by simp only; omega⟩
            simp only [go_sem, hps]
            refine ⟨by simp, ⟨_, _, _, rfl, by simp [go_sem, hb4], by simp [go_sem, hb6]⟩, by omega, ?_, by omega⟩
            rw [ht, hall, hok]; rfl
          · have a3 : within p.speed 1 6000 = false := by simpa using a3
            simp (config := {maxSteps := 1000000}) only [go_sem, a3]
            rw [bad (by simp [pieceOk, a3])]
        · have a2 : within p.grade (-40) 40 = false := by simpa using a2
          simp (config := {maxSteps := 1000000}) only [go_sem, a2]
          rw [bad (by simp [pieceOk, a2])]
      · have a1 : within p.len 1 300000 = false := by simpa using a1
        simp (config := {maxSteps := 1000000}) only [go_sem, a1]
        rw [bad (by simp [pieceOk, a1])]
    · have hlt' : ((i : Int) < (way.length : Int)) = False := by simp; omega
      have hi2 : i = way.length := by omega
      have hw : way.all pieceOk = true := by rw [← hall, hi2, List.take_length]
      have hwe : wayErr way = 0 := by
        unfold wayErr
        rw [if_neg hw0, if_neg (by omega), if_pos hw]
      have htt : pre way i = total way := by rw [hi2]; rfl
      have res : ∀ b : Bool, b = (within fin 0 (total way) && (within x.pos 0 fin && (within x.v 0 s.top && within x.work 0 1152921504606846976))) → (if b = true then (0 : Int) else 2) = secErr s way x fin := by
        intro b hb
        simp [secErr, h, hwe, hb]
      simp (config := {maxSteps := 1000000}) (disch := omega) only [go_sem, e28, e10, hlt', htt]
      refine callV (f83 _ _ _) ?_
      intro nx2 lv2
      by_cases a1 : within fin 0 (total way) = true
      · simp (config := {maxSteps := 1000000}) only [go_sem, a1, hb4, hb6, sBox, sCells]
        refine callV (f83 _ _ _) ?_
        intro nx3 lv3
        by_cases a2 : within x.pos 0 fin = true
        · simp (config := {maxSteps := 1000000}) only [go_sem, a2, hb4, hb6, sBox, sCells]
          refine callV (f83 _ _ _) ?_
          intro nx4 lv4
          by_cases a3 : within x.v 0 s.top = true
          · simp (config := {maxSteps := 1000000}) only [go_sem, a3, hb4, hb6, sBox, sCells]
            refine callV (f83 _ _ _) ?_
            intro nx5 lv5
            by_cases a4 : within x.work 0 1152921504606846976 = true
            · simp (config := {maxSteps := 1000000}) only [go_sem, a4]
              rw [← res true (by simp [a1, a2, a3, a4])]; rfl
            · have a4 : within x.work 0 1152921504606846976 = false := by simpa using a4
              simp (config := {maxSteps := 1000000}) only [go_sem, a4]
              rw [← res false (by simp [a4])]; rfl
          · have a3 : within x.v 0 s.top = false := by simpa using a3
            simp (config := {maxSteps := 1000000}) only [go_sem, a3]
            rw [← res false (by simp [a3])]; rfl
        · have a2 : within x.pos 0 fin = false := by simpa using a2
          simp (config := {maxSteps := 1000000}) only [go_sem, a2]
          rw [← res false (by simp [a2])]; rfl
      · have a1 : within fin 0 (total way) = false := by simpa using a1
        simp (config := {maxSteps := 1000000}) only [go_sem, a1]
        rw [← res false (by simp [a1])]; rfl
end Go.Proofs.Ytalneemgdjkcdaa
