/- Contracts of newRunner and of Second. -/
import Derived.Test.YtalneemgdjkcdaaE7
namespace Go.Proofs.Ytalneemgdjkcdaa
open Go.AB

def begsTo (way : List Piece) (i : Nat) : List DV := (List.range (i + 1)).map fun (j : Nat) => DV.int .i64 (pre way j)
theorem begsTo_len (way : List Piece) (i : Nat) : (begsTo way i).length = i + 1 := by simp [begsTo]
theorem begsTo_get (way : List Piece) (i : Nat) : (begsTo way i)[i]? = some (.int .i64 (pre way i)) := by simp [begsTo]
theorem begsTo_succ (way : List Piece) (i : Nat) : begsTo way i ++ [.int .i64 (pre way (i + 1))] = begsTo way (i + 1) := by simp [begsTo, List.range_succ]
theorem begsTo_zero (way : List Piece) : begsTo way 0 = [.int .i64 0] := by simp [begsTo, pre_zero]

/-- A new runner lies in the caller's memory. -/
def newR (s : Stock) (way : List Piece) (fin top : Int) (h : List (Nat × Nat × List AV)) (nx : Nat) (lv : Nat → Prop) : AH → AV → Prop := fun m r =>
  ∃ h' nx' lv' i G G2, m = ⟨h', [], nx', lv'⟩ ∧ r = .ptr (.own 19 G) 0 ∧ AB.hget h' 19 = some (G, rcell s (way.map dPiece) (begs way) (.own i) fin top (.own 17 G2)) ∧ AB.hget h' 17 = some (G2, [.mapc [] []]) ∧
    lv' i ∧ nx ≤ i ∧ nx ≤ nx' ∧ (∀ j, lv j → lv' j) ∧ ∀ t, t ≠ 4 → t ≠ 11 → t ≠ 17 → t ≠ 19 → AB.hget h' t = AB.hget h t

set_option maxHeartbeats 4000000 in
set_option maxRecDepth 20000 in
theorem new71 (s : Stock) (way : List Piece) (fin top : Int) (h : List (Nat × Nat × List AV)) (nx : Nat) (lv : Nat → Prop) (hw : way.all pieceOk = true) (hl : way.length ≤ 60) :
    QCall Try.prog 71 ⟨h, [], nx, lv⟩ [eStock s, waysV way, .int .i64 fin, .int .i64 top] (newR s way fin top h nx lv) := by
  refine QCall.lt fun hlt0 => ?_
  simp only at hlt0
  refine QCall.of_body Try.func71 rfl Try.ntmps71 (congrArg Array.toList Try.results71) ?_
  intro E
  simp (config := {maxSteps := 1000000}) only [go_sem, eStock, waysV]
  generalize genO (AB.hget h 4) = G4
  generalize genO (AB.hget h 17) = G2
  generalize genO (AB.hget h 19) = G
  refine AW_loopS [10, 11, 22, 23, 24, 25, 26, 27, 28, 29, 30, 31, 32, 33, 34, 35, 36, 37, 38, 39, 40, 41, 42, 43, 44, 45, 46]
    (fun (i : Nat) ρ m => ρ 22 = .int .i64 (i : Int) ∧ i ≤ way.length ∧ ∃ h' nx' lv' k, m = ⟨h', [], nx', lv'⟩ ∧ AB.hget h' 19 = some (G, rcell s (way.map dPiece) (begsTo way i) (.own k) fin top (.own 17 G2)) ∧ AB.hget h' 17 = some (G2, [.mapc [] []]) ∧
      lv' k ∧ nx ≤ k ∧ nx ≤ nx' ∧ (∀ j, lv j → lv' j) ∧ ∀ t, t ≠ 4 → t ≠ 11 → t ≠ 17 → t ≠ 19 → AB.hget h' t = AB.hget h t) (fun i => way.length - i) 0 ?_ ?_
  · simp only [go_sem, begsTo_zero, rcell, sCells]
    refine ⟨Nat.zero_le _, _, _, _, nx, rfl, by simp [go_sem], by simp [go_sem], .inl rfl, Nat.le_refl _, by omega, fun j hj => .inr hj, fun t h1 h2 h3 h4 => ?_⟩
    simp [go_sem, Ne.symm h1, Ne.symm h3, Ne.symm h4]
  · rintro i ρ m ⟨e22, g1, h', nx', lv', k, rfl, b19, b17, g2, g3, g4, g5, g6⟩
    by_cases hlt : i < way.length
    · have hlt' : ((i : Int) < (way.length : Int)) = True := by simp; omega
      obtain ⟨p, hp⟩ : ∃ p, way[i]? = some p := ⟨_, List.getElem?_eq_getElem hlt⟩
      have h1 := pre_bd hw i
      have h2 := pieceOk_iff.1 (List.all_eq_true.1 hw p (List.mem_of_getElem? hp))
      have hps := pre_succ hp
      have hg := begsTo_get way i
      have hln := begsTo_len way i
      simp (config := {maxSteps := 1000000}) (disch := omega) only [go_sem, e22, hlt', hp, dPiece, i64_in]
      generalize genO (AB.hget h' 11) = G3
      refine ⟨by omega, ?_⟩
      refine drawnP [2, 2, 2, 2, 2, 2, 2, 2, 2, 2, 2, 2, 2, 2, 2, 2, 3, 1, 1, 1] [(16, [2, 0, 0, 0, 0, 0, 0, 0, 0, 0, 0, 0, 0, 0, 0, 0, 0, 2, 2, 3]), (19, [0, 0, 0, 0, 0, 0, 0, 0, 0, 0, 0, 0, 0, 0, 0, 0, 0, 0, 0, 0])] 48 (by kernel_rfl) (by kernel_rfl) (by kernel_rfl) (by kernel_rfl) rfl ?_
      simp (config := {maxSteps := 1000000}) (disch := omega) only [go_sem, i64_in, b19, b17, rcell, sCells, hg, hln]
      refine ⟨by omega, fun nx1 lv1 q1 q2 => ⟨q2 _ g2, by omega, fun nx2 lv2 q3 q4 nx3 lv3 q5 q6 => ⟨by kernel_rfl, i + 1, ?_, by simp only; omega⟩⟩⟩
      simp only [go_sem, rcell, sCells]
      rw [← hps, begsTo_succ]
      refine ⟨by simp, by omega, _, _, _, nx1, rfl, by simp [go_sem], by simp [go_sem, b17], q6 _ (q4 _ (.inl rfl)), by omega, by omega, fun j hj => q6 _ (q4 _ (.inr ⟨q2 _ (g5 _ hj), ?_⟩)), fun t t1 t2 t3 t4 => ?_⟩
      · have := hlt0 j hj; omega
      · simp [go_sem, Ne.symm t2, Ne.symm t4]
        exact g6 t t1 t2 t3 t4
    · have hlt' : ((i : Int) < (way.length : Int)) = False := by simp; omega
      simp (config := {maxSteps := 1000000}) (disch := omega) only [go_sem, e22, hlt']
      have hi : i = way.length := by omega
      subst hi
      exact ⟨h', nx', lv', k, G, G2, rfl, rfl, b19, b17, g2, g3, g4, g5, g6⟩

def secV (s : Stock) (way : List Piece) (x : Sta) (fin top : Int) : Sta := if secErr s way x fin = 0 then nextF s way x fin top else ⟨0, 0, 0⟩

set_option maxHeartbeats 4000000 in
set_option maxRecDepth 20000 in
theorem f33 (s : Stock) (way : List Piece) (x : Sta) (fin : Int) (hs : s.name.length ≤ 140737488351232) :
    PCall Try.prog 33 [eStock s, waysV way, eSta x, .int .i64 fin] (RV (.tup [eSta (secV s way x fin s.top), .int .i64 (secErr s way x fin)])) := by
  refine PCall.of_body Try.func33 rfl Try.ntmps33 (congrArg Array.toList Try.results33) ?_
  intro E
  simp (config := {maxSteps := 1000000}) only [go_sem, eStock, eSta, waysV]
  refine callV (f70 s way x fin hs) ?_
  intro nx lv
  simp (config := {maxSteps := 1000000}) only [go_sem]
  refine ⟨fun h => by simp [secV, h], fun h => ?_⟩
  obtain ⟨hc, hwe, hf, hp, hv, hk⟩ := secErr_ok h
  obtain ⟨hw0, hl, hw⟩ := wayErr_ok hwe
  have hkc := checkS_ok hc
  have htb := total_bd hw hl
  refine drawnP [2, 2, 2, 2, 2, 3, 2, 1, 1, 1] [(5, [0, 0, 0, 0, 0, 0, 2, 3, 1, 1]), (7, [0, 0, 0, 0, 0, 0, 0, 0, 3, 1]), (8, [0, 0, 0, 0, 0, 0, 0, 0, 0, 2])] 28 (by kernel_rfl) (by kernel_rfl) (by kernel_rfl) (by kernel_rfl) rfl ?_
  simp (config := {maxSteps := 1000000}) only [go_sem]
  intro nx1 lv1 q1 q2
  refine callX.share (new71 s way fin s.top _ nx1 lv1 hw hl) ?_
  rintro m' r ⟨h', nx', lv', i, G, G2, rfl, rfl, b19, b17, g2, g3, g4, g5, g6⟩
  have b6 := g6 6 (by omega) (by omega) (by omega) (by omega)
  have b8 := g6 8 (by omega) (by omega) (by omega) (by omega)
  simp only [go_sem] at b6 b8
  simp (config := {maxSteps := 1000000}) only [go_sem, b19, b17, b6, b8]
  intro nx2 lv2 q3 q4
  have hM : GoodM lv2 ([] : List Ent) := ⟨by simp, by simp, by simp, by simp⟩
  refine .inr (callR (lm := .own 17 G2) (second72 s way (.own i) fin s.top [] nx2 lv2 x 0 hc hw hw0 hl hM ⟨by omega, by omega, by omega, by omega, by omega, by omega⟩ (by omega) (by omega) (by omega) (by omega) (by omega) (by omega)) (fun _ => rfl) (fun _ => rfl) (by simp) ?_ ?_ ?_)
  · simp [AH.cells, b19]
  · simp [AH.cells, b17, keysM, valsM]
  intro M5 nx5 lv5 k1 k2 k3
  simp (config := {maxSteps := 1000000}) only [go_sem, b19, b17, b6, b8, eSta]
  intro nx6 lv6 q5 q6 nx7 lv7 q7 q8
  simp [secV, h]
end Go.Proofs.Ytalneemgdjkcdaa
