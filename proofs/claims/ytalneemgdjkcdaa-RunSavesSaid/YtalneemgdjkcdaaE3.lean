/- The runner's grade and may, walked. -/
import Derived.Test.YtalneemgdjkcdaaE2
namespace Go.Proofs.Ytalneemgdjkcdaa
open Go.AB

structure Piece where
  len : Int
  grade : Int
  speed : Int
def dPiece (p : Piece) : DV := .agg [.int .i64 p.len, .int .i64 p.grade, .int .i64 p.speed]
def pieceOk (p : Piece) : Bool := within p.len 1 300000 && (within p.grade (-40) 40 && within p.speed 1 6000)
theorem pieceOk_iff {p : Piece} : pieceOk p = true ↔ (1 ≤ p.len ∧ p.len ≤ 300000) ∧ (-40 ≤ p.grade ∧ p.grade ≤ 40) ∧ (1 ≤ p.speed ∧ p.speed ≤ 6000) := by
  simp [pieceOk, within]

def pre (way : List Piece) (i : Nat) : Int := ((way.take i).map (·.len)).sum
theorem pre_zero (way : List Piece) : pre way 0 = 0 := by simp [pre]
theorem pre_succ {way : List Piece} {i : Nat} {p : Piece} (h : way[i]? = some p) : pre way (i + 1) = pre way i + p.len := by
  simp [pre, List.take_add_one, h, List.sum_append]
theorem pre_bd {way : List Piece} (h : way.all pieceOk = true) : ∀ i : Nat, 0 ≤ pre way i ∧ pre way i ≤ 300000 * i
  | 0 => by simp [pre]
  | i + 1 => by
    obtain ⟨h1, h2⟩ := pre_bd h i
    cases hp : way[i]? with
    | none =>
      have : pre way (i + 1) = pre way i := by
        unfold pre
        rw [List.take_add_one, hp]
        simp
      rw [this]; omega
    | some p =>
      rw [pre_succ hp]
      have := pieceOk_iff.1 (List.all_eq_true.1 h p (List.mem_of_getElem? hp))
      omega
def total (way : List Piece) : Int := pre way way.length
def begs (way : List Piece) : List DV := (List.range (way.length + 1)).map fun (i : Nat) => DV.int .i64 (pre way i)
theorem begs_get {way : List Piece} {i : Nat} (h : i ≤ way.length) : (begs way)[i]? = some (.int .i64 (pre way i)) := by
  simp [begs, Nat.lt_succ_of_le h]

def gradeF : List Piece → Int → Int
  | [], _ => 0
  | p :: r, at' => match r with
    | [] => p.grade
    | _ :: _ => if at' < p.len then p.grade else gradeF r (at' - p.len)

set_option maxRecDepth 20000 in
theorem grade105 (s : Stock) (way : List Piece) (bt : Tok) (fin top : Int) (M : List Ent) (nx : Nat) (lv : Nat → Prop) (a : Int) (hw : way.all pieceOk = true) (hw0 : way ≠ []) (hl : way.length ≤ 60) (hM : GoodM lv M) :
    QCall Try.prog 105 ⟨[], [rcell s (way.map dPiece) (begs way) bt fin top (.out 1), [.mapc (keysM M) (valsM (s.brake - 40) M)]], nx, lv⟩ [.ptr (.out 0) 0, .int .i64 a]
      (outR (s.brake - 40) (rcell s (way.map dPiece) (begs way) bt fin top (.out 1)) nx lv M (.int .i64 (gradeF way a))) := by
  refine QCall.of_body Try.func105 rfl Try.ntmps105 (congrArg Array.toList Try.results105) ?_
  intro E
  simp only [go_sem, rcell, sCells]
  have h0 : 0 < way.length := List.length_pos_iff.2 hw0
  refine AW_loopS [5, 6, 7, 8, 9, 10, 11, 12, 13, 14, 15, 16, 17, 18, 19, 20, 21, 22, 23, 24, 25, 26, 27]
    (fun (i : Nat) ρ m => ρ 5 = .int .i64 (i : Int) ∧ i < way.length ∧ gradeF (way.drop i) (a - pre way i) = gradeF way a ∧ m = ⟨[], [rcell s (way.map dPiece) (begs way) bt fin top (.out 1), [.mapc (keysM M) (valsM (s.brake - 40) M)]], nx, lv⟩) (fun i => way.length - i) 0 ?_ ?_
  · simp only [go_sem, rcell, sCells, pre_zero, List.drop_zero, Int.sub_zero]
    simp [h0]
  · rintro i ρ m ⟨e5, g1, g2, rfl⟩
    obtain ⟨p, hp⟩ : ∃ p, way[i]? = some p := ⟨_, List.getElem?_eq_getElem g1⟩
    have hd : way.drop i = p :: way.drop (i + 1) := by
      rw [List.drop_eq_getElem_cons g1]
      rw [List.getElem?_eq_getElem g1] at hp
      cases hp; rfl
    have hps := pre_succ hp
    by_cases hlt : i + 1 < way.length
    · have hlt' : ((i : Int) + 1 < (way.length : Int)) = True := by simp; omega
      have hget : (begs way)[((i : Int) + 1).toNat]? = some (.int .i64 (pre way (i + 1))) := by
        rw [show ((i : Int) + 1).toNat = i + 1 from by omega]; exact begs_get (by omega)
      obtain ⟨q, hq⟩ : ∃ q, way[i + 1]? = some q := ⟨_, List.getElem?_eq_getElem hlt⟩
      have hd2 : way.drop (i + 1) = q :: way.drop (i + 2) := by
        rw [List.drop_eq_getElem_cons hlt]
        rw [List.getElem?_eq_getElem hlt] at hq
        cases hq; rfl
      have hgr : gradeF (way.drop i) (a - pre way i) = if a - pre way i < p.len then p.grade else gradeF (way.drop (i + 1)) (a - pre way i - p.len) := by
        rw [hd, hd2]; rfl
      rw [hgr] at g2
      simp (disch := omega) only [go_sem, e5, rcell, sCells, i64_in, hlt', hget, hp, dPiece]
      refine ⟨by omega, fun hle => ⟨by kernel_rfl, i + 1, ?_, by simp only; omega⟩, fun hgt => ⟨by omega, ?_, M, rfl, hM, Nat.le_refl _, Keep.refl _ _⟩⟩
      · simp only [go_sem, rcell, sCells]
        rw [if_neg (by omega)] at g2
        refine ⟨by simp, hlt, ?_⟩
        rw [hps, ← g2]
        congr 1
        omega
      · rw [if_pos (by omega)] at g2
        rw [g2]
    · have hlt' : ((i : Int) + 1 < (way.length : Int)) = False := by simp; omega
      have hd2 : way.drop (i + 1) = [] := List.drop_eq_nil_of_le (by omega)
      have hgr : gradeF (way.drop i) (a - pre way i) = p.grade := by rw [hd, hd2]; rfl
      simp (disch := omega) only [go_sem, e5, rcell, sCells, i64_in, hlt', hp, dPiece]
      exact ⟨by omega, by rw [← g2, hgr], M, rfl, hM, Nat.le_refl _, Keep.refl _ _⟩

/-- What a train may do at a place: the pieces from one on. -/
def fitsL (d tail p w : Int) : Int → List Piece → Bool
  | _, [] => true
  | from', x :: r => !(decide (from' < p) && (decide (tail < from' + x.len) && decide (x.speed < w))) && (!(decide (p ≤ from') && decide (from' - p < into d x.speed w)) && fitsL d tail p w (from' + x.len) r)
def fits (s : Stock) (way : List Piece) (tail p fin w : Int) : Bool := decide (into (s.brake - 40) 0 w ≤ fin - p) && fitsL (s.brake - 40) tail p w 0 way

structure Now (nx : Nat) (lv : Nat → Prop) (M : List Ent) (nx' : Nat) (lv' : Nat → Prop) (M' : List Ent) : Prop where
  good : GoodM lv' M'
  le : nx ≤ nx'
  keep : Keep lv M lv' M'
theorem GoodM.more {lv lv' : Nat → Prop} {M : List Ent} (h : GoodM lv M) (hl : ∀ j, lv j → lv' j) : GoodM lv' M := ⟨fun e he => hl _ (h.live e he), h.one, h.key, h.small⟩
theorem Now.refl {nx : Nat} {lv : Nat → Prop} {M : List Ent} (h : GoodM lv M) : Now nx lv M nx lv M := ⟨h, Nat.le_refl _, Keep.refl _ _⟩
theorem Now.more {nx nx' nx2 : Nat} {lv lv' lv2 : Nat → Prop} {M M' : List Ent} (h : Now nx lv M nx' lv' M') (hx : nx' ≤ nx2) (hl : ∀ j, lv' j → lv2 j) : Now nx lv M nx2 lv2 M' :=
  ⟨h.good.more hl, Nat.le_trans h.le hx, fun j h1 h2 => hl j (h.keep.live j h1 h2), fun j h1 h2 => h.keep.apart j h1 h2⟩
theorem Now.call {nx nx' nx2 : Nat} {lv lv' lv2 : Nat → Prop} {M M' M2 : List Ent} (h : Now nx lv M nx' lv' M') (hg : GoodM lv2 M2) (hx : nx' ≤ nx2) (hk : Keep lv' M' lv2 M2) : Now nx lv M nx2 lv2 M2 :=
  ⟨hg, Nat.le_trans h.le hx, h.keep.trans hk⟩

set_option maxHeartbeats 4000000 in
set_option maxRecDepth 20000 in
theorem may107 (s : Stock) (way : List Piece) (bt : Tok) (fin top : Int) (M : List Ent) (nx : Nat) (lv : Nat → Prop) (tail a w : Int) (hc : checkS s = 0) (hw : way.all pieceOk = true) (hl : way.length ≤ 60) (hM : GoodM lv M)
    (h1 : 0 ≤ w) (h2 : w ≤ 6000) (h3 : -1000000000 ≤ tail) (h4 : tail ≤ 1000000000) (h5 : -1000000000 ≤ a) (h6 : a ≤ 1000000000) (h7 : 0 ≤ fin) (h8 : fin ≤ 1000000000) :
    QCall Try.prog 107 ⟨[], [rcell s (way.map dPiece) (begs way) bt fin top (.out 1), [.mapc (keysM M) (valsM (s.brake - 40) M)]], nx, lv⟩ [.ptr (.out 0) 0, .int .i64 tail, .int .i64 a, .int .i64 w]
      (outR (s.brake - 40) (rcell s (way.map dPiece) (begs way) bt fin top (.out 1)) nx lv M (.bool (fits s way tail a fin w))) := by
  refine QCall.of_body Try.func107 rfl Try.ntmps107 (congrArg Array.toList Try.results107) ?_
  intro E
  simp only [go_sem, rcell, sCells]
  refine drawnP [2, 2, 3, 2, 2, 2, 2, 2, 2, 1] [(2, [0, 0, 0, 2, 2, 2, 2, 2, 2, 2])] 70 (by kernel_rfl) (by kernel_rfl) (by kernel_rfl) (by kernel_rfl) rfl ?_
  have hbt := into_bd (s.brake - 40) 0 w (by omega) (by have := checkS_ok hc; omega) h2
  simp (config := {maxSteps := 1000000}) (disch := omega) only [go_sem, i64_in]
  intro nx1 lv1 q1 q2
  refine .inr (callR (into128 s _ _ bt fin top M nx1 lv1 w 0 hc h1 h2 (by omega) (by omega) (hM.more q2)) (fun _ => rfl) (fun _ => rfl) (by simp) rfl rfl ?_)
  intro M2 nx2 lv2 k1 k2 k3
  have N := ((Now.refl (nx := nx) hM).more q1 q2).call k1 k2 k3
  clear k1 k2 k3 q1 q2
  simp (config := {maxSteps := 1000000}) (disch := omega) only [go_sem, rcell, sCells, i64_in]
  intro nx3 lv3 q1 q2
  have N := N.more q1 q2
  clear q1 q2
  refine ⟨fun hgt => ⟨by unfold fits; simp; omega, M2, rfl, N.good, N.le, N.keep⟩, fun hle => ?_⟩
  refine AW_loopS [8, 9, 10, 11, 27, 28, 29, 30, 31, 32, 33, 34, 35, 36, 37, 38, 39, 40, 41, 42, 43, 44, 45, 46, 47, 48, 49, 50, 51, 52, 53, 54, 55, 56, 57, 58, 59, 60, 61, 62, 63, 64, 65, 66, 67, 68, 69]
    (fun (i : Nat) ρ m => ρ 27 = .int .i64 (i : Int) ∧ i ≤ way.length ∧ fitsL (s.brake - 40) tail a w (pre way i) (way.drop i) = fitsL (s.brake - 40) tail a w 0 way ∧
      ∃ h nx' lv' M', m = ⟨h, [rcell s (way.map dPiece) (begs way) bt fin top (.out 1), [.mapc (keysM M') (valsM (s.brake - 40) M')]], nx', lv'⟩ ∧ Now nx lv M nx' lv' M') (fun i => way.length - i) 0 ?_ ?_
  · simp only [go_sem, rcell, sCells, pre_zero, List.drop_zero]
    exact ⟨Nat.zero_le _, _, _, _, _, rfl, N⟩
  · rintro i ρ m ⟨e27, g1, g2, h, nx4, lv4, M4, rfl, N4⟩
    by_cases hlt : i < way.length
    · obtain ⟨p, hp⟩ : ∃ p, way[i]? = some p := ⟨_, List.getElem?_eq_getElem hlt⟩
      have hd : way.drop i = p :: way.drop (i + 1) := by
        rw [List.drop_eq_getElem_cons hlt]
        rw [List.getElem?_eq_getElem hlt] at hp
        cases hp; rfl
      have hps := pre_succ hp
      have hpk := pieceOk_iff.1 (List.all_eq_true.1 hw p (List.mem_of_getElem? hp))
      have hb1 := pre_bd hw i
      have hlt' : ((i : Int) < (way.length : Int)) = True := by simp; omega
      have hg1 : (begs way)[i]? = some (.int .i64 (pre way i)) := begs_get (by omega)
      have hg2 : (begs way)[((i : Int) + 1).toNat]? = some (.int .i64 (pre way (i + 1))) := by
        rw [show ((i : Int) + 1).toNat = i + 1 from by omega]; exact begs_get (by omega)
      have hfl : fitsL (s.brake - 40) tail a w (pre way i) (way.drop i) = (!(decide (pre way i < a) && (decide (tail < pre way i + p.len) && decide (p.speed < w))) && (!(decide (a ≤ pre way i) && decide (pre way i - a < into (s.brake - 40) p.speed w)) && fitsL (s.brake - 40) tail a w (pre way (i + 1)) (way.drop (i + 1)))) := by
        rw [hd, hps]; rfl
      rw [hfl] at g2
      have hbi := into_bd (s.brake - 40) p.speed w (by omega) (by have := checkS_ok hc; omega) h2
      simp (config := {maxSteps := 1000000}) (disch := omega) only [go_sem, e27, rcell, sCells, i64_in, hlt', hg1, hg2, hp, dPiece]
      generalize genO (AB.hget h 10) = G
      refine ⟨by omega, by omega, fun hge => .inr (callR (into128 s _ _ bt fin top M4 nx4 lv4 w p.speed hc h1 h2 (by omega) (by omega) N4.good) (fun _ => rfl) (fun _ => rfl) (by simp) rfl rfl ?_), fun hlt2 => ?_⟩
      · intro M5 nx5 lv5 k1 k2 k3
        have N5 := N4.call k1 k2 k3
        clear k1 k2 k3
        simp (config := {maxSteps := 1000000}) (disch := omega) only [go_sem, rcell, sCells, i64_in]
        refine ⟨fun hgt => ⟨?_, M5, rfl, N5.good, N5.le, N5.keep⟩, fun hngt => ⟨by kernel_rfl, i + 1, ?_, by simp only; omega⟩⟩
        · have : fitsL (s.brake - 40) tail a w 0 way = false := by rw [← g2]; simp [hge, hgt]
          simp [fits, this]
        · simp only [go_sem, rcell, sCells]
          refine ⟨by simp, by omega, ?_, _, _, _, _, rfl, N5⟩
          rw [← g2]
          have e1 : ¬ pre way i < a := by omega
          simp [e1, hngt]
      · have e1 : pre way i < a := by omega
        refine ⟨by omega, fun hgt => ⟨fun hsp => ⟨?_, M4, rfl, N4.good, N4.le, N4.keep⟩, fun hsp => ⟨by kernel_rfl, i + 1, ?_, by simp only; omega⟩⟩, fun hngt => ⟨by kernel_rfl, i + 1, ?_, by simp only; omega⟩⟩
        · have : fitsL (s.brake - 40) tail a w 0 way = false := by rw [← g2, ← hps]; simp [e1, hgt, hsp]
          simp [fits, this]
        · simp only [go_sem, rcell, sCells]
          refine ⟨by simp, by omega, ?_, _, _, _, _, rfl, N4⟩
          rw [← g2]
          simp [hlt2, hsp]
        · simp only [go_sem, rcell, sCells]
          refine ⟨by simp, by omega, ?_, _, _, _, _, rfl, N4⟩
          rw [← g2, ← hps]
          simp [hlt2, hngt]
    · have hlt' : ((i : Int) < (way.length : Int)) = False := by simp; omega
      have hd : way.drop i = [] := List.drop_eq_nil_of_le (by omega)
      rw [hd] at g2
      simp (config := {maxSteps := 1000000}) (disch := omega) only [go_sem, e27, rcell, sCells, i64_in, hlt']
      refine ⟨?_, M4, rfl, N4.good, N4.le, N4.keep⟩
      have : fitsL (s.brake - 40) tail a w 0 way = true := by rw [← g2]; rfl
      simp [fits, this]
      omega
end Go.Proofs.Ytalneemgdjkcdaa
