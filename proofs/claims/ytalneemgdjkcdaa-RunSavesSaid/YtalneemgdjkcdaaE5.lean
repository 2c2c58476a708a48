/- Contracts of the errors of ways, lengths and grades. -/
import Derived.Test.YtalneemgdjkcdaaE4
namespace Go.Proofs.Ytalneemgdjkcdaa
open Go.AB

def waysV (way : List Piece) : AV := .sl 3 (way.map dPiece) .no
/-- The error of a way. -/
def wayErr (way : List Piece) : Int := if way = [] then 1 else if 60 < way.length then 4 else if way.all pieceOk = true then 0 else 2
def secErr (s : Stock) (way : List Piece) (x : Sta) (fin : Int) : Int :=
  if checkS s ≠ 0 then checkS s else if wayErr way ≠ 0 then wayErr way else
    if within fin 0 (total way) && (within x.pos 0 fin && (within x.v 0 s.top && within x.work 0 1152921504606846976)) then 0 else 2

theorem take_all_p {way : List Piece} {i : Nat} {p : Piece} (h : way[i]? = some p) : (way.take (i + 1)).all pieceOk = ((way.take i).all pieceOk && pieceOk p) := by
  rw [List.take_add_one, h]
  simp
theorem all_bad_p {way : List Piece} {i : Nat} {p : Piece} (h : way[i]? = some p) (hc : pieceOk p = false) : way.all pieceOk = false :=
  List.all_eq_false.2 ⟨p, List.mem_of_getElem? h, by simp [hc]⟩

set_option maxHeartbeats 4000000 in
set_option maxRecDepth 20000 in
theorem f74 (way : List Piece) : PCall Try.prog 74 [waysV way] (RV (.int .i64 (wayErr way))) := by
  refine PCall.of_body Try.func74 rfl Try.ntmps74 (congrArg Array.toList Try.results74) ?_
  intro E
  simp only [go_sem, waysV]
  refine ⟨fun h => ?_, fun h => ⟨fun h2 => ?_, fun h2 => ?_⟩⟩
  · have : way = [] := List.length_eq_zero_iff.1 (by omega)
    simp [wayErr, this]
  · have : way ≠ [] := fun e => by simp [e] at h
    simp [wayErr, this]; omega
  have hne : way ≠ [] := fun e => by simp [e] at h
  refine AW_loopS [2, 4, 13, 14, 15, 16, 17, 18, 19, 20, 21, 22, 23, 24, 25, 26, 27, 28, 29, 30, 31, 32, 33, 34, 35, 36, 37, 38, 39, 40, 41, 42, 43, 44, 45]
    (fun (i : Nat) ρ m => ρ 13 = .int .i64 (i : Int) ∧ (∃ h nx lv, m = ⟨h, [], nx, lv⟩) ∧ i ≤ way.length ∧ (way.take i).all pieceOk = true) (fun i => way.length - i) 0 ?_ ?_
  · simp only [go_sem]
    exact ⟨⟨_, _, _, rfl⟩, Nat.zero_le _⟩
  · rintro i ρ m ⟨e13, ⟨h, nx, lv, rfl⟩, hi, hall⟩
    by_cases hlt : i < way.length
    · have hlt' : ((i : Int) < (way.length : Int)) = True := by simp; omega
      obtain ⟨p, hp⟩ : ∃ p, way[i]? = some p := ⟨_, List.getElem?_eq_getElem hlt⟩
      have ht := take_all_p hp
      have bad : pieceOk p = false → wayErr way = 2 := fun hb => by
        unfold wayErr
        rw [if_neg hne, if_neg (by omega), if_neg (by rw [all_bad_p hp hb]; simp)]
      by_cases hok : pieceOk p = true
      · have hk := pieceOk_iff.1 hok
        have c1 := eq_false (show ¬ p.len < 1 by omega)
        have c2 := eq_false (show ¬ 300000 < p.len by omega)
        have c3 := eq_false (show ¬ p.grade < -40 by omega)
        have c4 := eq_false (show ¬ 40 < p.grade by omega)
        have c5 := eq_false (show ¬ p.speed < 1 by omega)
        have c6 := eq_false (show ¬ 6000 < p.speed by omega)
        simp (config := {maxSteps := 1000000}) (disch := omega) only [go_sem, e13, hlt', hp, dPiece, i64_in, c1, c2, c3, c4, c5, c6]
        refine ⟨by omega, by kernel_rfl, i + 1, ?_, by simp only; omega⟩
        simp only [go_sem]
        refine ⟨by simp, ⟨_, _, _, rfl⟩, by omega, ?_⟩
        rw [ht, hall, hok]; rfl
      · have hb : pieceOk p = false := by simpa using hok
        have hk : ¬ ((1 ≤ p.len ∧ p.len ≤ 300000) ∧ (-40 ≤ p.grade ∧ p.grade ≤ 40) ∧ (1 ≤ p.speed ∧ p.speed ≤ 6000)) := fun h => hok (pieceOk_iff.2 h)
        have hcs : p.len < 1 ∨ (¬ p.len < 1 ∧ 300000 < p.len) ∨ (¬ p.len < 1 ∧ ¬ 300000 < p.len ∧ p.grade < -40) ∨ (¬ p.len < 1 ∧ ¬ 300000 < p.len ∧ ¬ p.grade < -40 ∧ 40 < p.grade) ∨
          (¬ p.len < 1 ∧ ¬ 300000 < p.len ∧ ¬ p.grade < -40 ∧ ¬ 40 < p.grade ∧ p.speed < 1) ∨ (¬ p.len < 1 ∧ ¬ 300000 < p.len ∧ ¬ p.grade < -40 ∧ ¬ 40 < p.grade ∧ ¬ p.speed < 1 ∧ 6000 < p.speed) := by omega
        rcases hcs with h1 | ⟨h1, h2⟩ | ⟨h1, h2, h3⟩ | ⟨h1, h2, h3, h4⟩ | ⟨h1, h2, h3, h4, h5⟩ | ⟨h1, h2, h3, h4, h5, h6⟩
        · simp (config := {maxSteps := 1000000}) (disch := omega) only [go_sem, e13, hlt', hp, dPiece, i64_in, h1]
          simp [bad hb]
        · simp (config := {maxSteps := 1000000}) (disch := omega) only [go_sem, e13, hlt', hp, dPiece, i64_in, h1, h2]
          simp [bad hb]
        · simp (config := {maxSteps := 1000000}) (disch := omega) only [go_sem, e13, hlt', hp, dPiece, i64_in, h1, h2, h3]
          simp [bad hb]
        · simp (config := {maxSteps := 1000000}) (disch := omega) only [go_sem, e13, hlt', hp, dPiece, i64_in, h1, h2, h3, h4]
          simp [bad hb]
        · simp (config := {maxSteps := 1000000}) (disch := omega) only [go_sem, e13, hlt', hp, dPiece, i64_in, h1, h2, h3, h4, h5]
          simp [bad hb]
        · simp (config := {maxSteps := 1000000}) (disch := omega) only [go_sem, e13, hlt', hp, dPiece, i64_in, h1, h2, h3, h4, h5, h6]
          simp [bad hb]
    · have hlt' : ((i : Int) < (way.length : Int)) = False := by simp; omega
      simp (config := {maxSteps := 1000000}) (disch := omega) only [go_sem, e13, hlt']
      have : way.take i = way := List.take_of_length_le (by omega)
      rw [this] at hall
      simp [wayErr, hall, hne]; omega

theorem total_bd {way : List Piece} (h : way.all pieceOk = true) (hl : way.length ≤ 60) : 0 ≤ total way ∧ total way ≤ 18000000 := by
  have := pre_bd h way.length
  unfold total
  omega

theorem f75 (way : List Piece) (hw : way.all pieceOk = true) (hl : way.length ≤ 60) : PCall Try.prog 75 [waysV way] (RV (.int .i64 (total way))) := by
  refine PCall.of_body Try.func75 rfl Try.ntmps75 (congrArg Array.toList Try.results75) ?_
  intro E
  simp only [go_sem, waysV]
  refine AW_loopS [3, 5, 8, 9, 10, 11, 12, 13, 14, 15, 16]
    (fun (i : Nat) ρ m => ρ 8 = .int .i64 (i : Int) ∧ ρ 3 = .int .i64 (pre way i) ∧ (∃ h nx lv, m = ⟨h, [], nx, lv⟩) ∧ i ≤ way.length) (fun i => way.length - i) 0 ?_ ?_
  · simp only [go_sem, pre_zero]
    exact ⟨⟨_, _, _, rfl⟩, Nat.zero_le _⟩
  · rintro i ρ m ⟨e8, e3, ⟨h, nx, lv, rfl⟩, hi⟩
    by_cases hlt : i < way.length
    · have hlt' : ((i : Int) < (way.length : Int)) = True := by simp; omega
      obtain ⟨p, hp⟩ : ∃ p, way[i]? = some p := ⟨_, List.getElem?_eq_getElem hlt⟩
      have h1 := pre_bd hw i
      have h2 := pieceOk_iff.1 (List.all_eq_true.1 hw p (List.mem_of_getElem? hp))
      have h3 := pre_succ hp
      simp (disch := omega) only [go_sem, e8, e3, hlt', hp, dPiece, i64_in]
      refine ⟨by omega, by kernel_rfl, i + 1, ?_, by simp only; omega⟩
      simp only [go_sem, h3]
      exact ⟨by simp, ⟨_, _, _, rfl⟩, by omega⟩
    · have hlt' : ((i : Int) < (way.length : Int)) = False := by simp; omega
      simp (disch := omega) only [go_sem, e8, e3, hlt']
      have : i = way.length := by omega
      rw [this]; rfl

theorem f76 (way : List Piece) (a : Int) (hw : way.all pieceOk = true) (hl : way.length ≤ 60) (hw0 : way ≠ []) : PCall Try.prog 76 [waysV way, .int .i64 a] (RV (.int .i64 (gradeF way a))) := by
  refine PCall.of_body Try.func76 rfl Try.ntmps76 (congrArg Array.toList Try.results76) ?_
  intro E
  simp only [go_sem, waysV]
  have h0 : 0 < way.length := List.length_pos_iff.2 hw0
  refine AW_loopS [4, 5, 7, 10, 11, 12, 13, 14, 15, 16, 17, 18, 19, 20, 21, 22, 23]
    (fun (i : Nat) ρ m => ρ 10 = .int .i64 (i : Int) ∧ ρ 5 = .int .i64 (pre way i) ∧ (∃ h nx lv, m = ⟨h, [], nx, lv⟩) ∧ i ≤ way.length ∧ (i < way.length → gradeF (way.drop i) (a - pre way i) = gradeF way a) ∧
      (i = way.length → ∀ p, way[way.length - 1]? = some p → p.grade = gradeF way a)) (fun i => way.length - i) 0 ?_ ?_
  · simp only [go_sem, pre_zero]
    refine ⟨⟨_, _, _, rfl⟩, Nat.zero_le _, fun _ => by simp, fun h => by omega⟩
  · rintro i ρ m ⟨e8, e3, ⟨h, nx, lv, rfl⟩, hi, g1, g2⟩
    by_cases hlt : i < way.length
    · have hlt' : ((i : Int) < (way.length : Int)) = True := by simp; omega
      obtain ⟨p, hp⟩ : ∃ p, way[i]? = some p := ⟨_, List.getElem?_eq_getElem hlt⟩
      have h1 := pre_bd hw i
      have h2 := pieceOk_iff.1 (List.all_eq_true.1 hw p (List.mem_of_getElem? hp))
      have h3 := pre_succ hp
      have hd : way.drop i = p :: way.drop (i + 1) := by
        rw [List.drop_eq_getElem_cons hlt]
        rw [List.getElem?_eq_getElem hlt] at hp
        cases hp; rfl
      have g1 := g1 hlt
      simp (disch := omega) only [go_sem, e8, e3, hlt', hp, dPiece, i64_in]
      refine ⟨by omega, fun hlt3 => ?_, fun hge => ?_⟩
      · rw [hd] at g1
        cases hr : way.drop (i + 1) with
        | nil => rw [hr] at g1; simp only [gradeF] at g1; rw [g1]
        | cons q r => rw [hr] at g1; simp only [gradeF] at g1; rw [if_pos (by omega)] at g1; rw [g1]
      · refine ⟨by kernel_rfl, i + 1, ?_, by simp only; omega⟩
        simp only [go_sem, h3]
        refine ⟨by simp, ⟨_, _, _, rfl⟩, by omega, fun h5 => ?_, fun h5 q hq => ?_⟩
        · obtain ⟨q, hq⟩ : ∃ q, way[i + 1]? = some q := ⟨_, List.getElem?_eq_getElem h5⟩
          have hd2 : way.drop (i + 1) = q :: way.drop (i + 2) := by
            rw [List.drop_eq_getElem_cons h5]
            rw [List.getElem?_eq_getElem h5] at hq
            cases hq; rfl
          rw [hd, hd2] at g1
          simp only [gradeF] at g1
          rw [if_neg (by omega)] at g1
          rw [hd2, ← g1]
          simp only [gradeF]
          rw [show a - (pre way i + p.len) = a - pre way i - p.len by omega]
        · have : way.length - 1 = i := by omega
          rw [this, hp] at hq
          cases hq
          rw [hd, show way.drop (i + 1) = [] from List.drop_eq_nil_of_le (by omega)] at g1
          exact g1
    · have hlt' : ((i : Int) < (way.length : Int)) = False := by simp; omega
      obtain ⟨p, hp⟩ : ∃ p, way[way.length - 1]? = some p := ⟨_, List.getElem?_eq_getElem (by omega)⟩
      have hp' : way[((way.length : Int) - 1).toNat]? = some p := by rw [← hp]; congr 1; omega
      simp (disch := omega) only [go_sem, e8, e3, hlt', hp', dPiece, i64_in]
      refine ⟨by omega, ?_⟩
      rw [g2 (by omega) p hp]

theorem f77 (s : Stock) (v g : Int) (hc : checkS s = 0) (h1 : 0 ≤ v) (h2 : v ≤ 6000) (h3 : -40 ≤ g) (h4 : g ≤ 40) : PCall Try.prog 77 [eStock s, .int .i64 v, .int .i64 g] (RV (.int .i64 (max 0 (v - (s.brake + g))))) := by
  refine PCall.of_body Try.func77 rfl Try.ntmps77 (congrArg Array.toList Try.results77) ?_
  intro E
  have hk := checkS_ok hc
  simp (disch := omega) only [go_sem, eStock, i64_in]
  omega
end Go.Proofs.Ytalneemgdjkcdaa
