/- The law GuardPermits over its contracts, for all stocks, ways and numbers. -/
import Derived.Test.YtalneemgdjkcdaaE10
namespace Go.Proofs.Ytalneemgdjkcdaa
open Go.AB

theorem f55 (n lo hi : Int) : PCall Try.prog 55 [.int .i64 n, .int .i64 lo, .int .i64 hi] (RV (.bool (within n lo hi))) := by
  refine PCall.of_body Try.func55 rfl Try.ntmps55 (congrArg Array.toList Try.results55) ?_
  intro E
  simp only [go_sem]
  unfold within
  grind

def permOk (s : Stock) (way : List Piece) (low high fin speed : Int) : Bool := within low 0 (total way) && (within high 0 (total way) && (decide (low ≤ high) && (within fin 0 (total way) && within speed 0 s.top)))
def permErr (s : Stock) (way : List Piece) (low high fin speed : Int) : Int := if checkS s ≠ 0 then checkS s else if wayErr way ≠ 0 then wayErr way else if permOk s way low high fin speed = true then 0 else 2
theorem permErr_ok {s : Stock} {way : List Piece} {low high fin speed : Int} (h : permErr s way low high fin speed = 0) : checkS s = 0 ∧ wayErr way = 0 ∧ (0 ≤ low ∧ low ≤ total way) ∧ (0 ≤ high ∧ high ≤ total way) ∧ low ≤ high ∧ (0 ≤ fin ∧ fin ≤ total way) ∧ (0 ≤ speed ∧ speed ≤ s.top) := by
  unfold permErr at h
  split at h
  · rename_i h1; exact absurd h h1
  · rename_i h1
    split at h
    · rename_i h2; exact absurd h h2
    · rename_i h2
      split at h
      · rename_i h3
        simp only [permOk, within, Bool.and_eq_true, decide_eq_true_eq] at h3
        exact ⟨by simpa using h1, by simpa using h2, h3⟩
      · cases h

def findP (f : Int → Bool) (w : Int) : Int := if h : 0 ≤ w then (if f w then w else findP f (w - 1)) else w
termination_by (w + 1).toNat
decreasing_by omega
theorem findP_hit {f : Int → Bool} {w : Int} (h : 0 ≤ w) (hf : f w = true) : findP f w = w := by rw [findP, dif_pos h, if_pos hf]
theorem findP_step {f : Int → Bool} {w : Int} (h : 0 ≤ w) (hf : f w = false) : findP f w = findP f (w - 1) := by rw [findP, dif_pos h, if_neg (by simp [hf])]
theorem findP_end {f : Int → Bool} {w : Int} (h : ¬ 0 ≤ w) : findP f w = w := by rw [findP, dif_neg h]
theorem findP_bd (f : Int → Bool) (w : Int) (h : -1 ≤ w) : -1 ≤ findP f w ∧ findP f w ≤ w := by
  unfold findP
  split
  · split
    · omega
    · have := findP_bd f (w - 1) (by omega)
      omega
  · omega
termination_by (w + 1).toNat
decreasing_by omega

def permAt (s : Stock) (way : List Piece) (low high fin speed w : Int) : Bool := fits s way (low - 100 * s.len) (high + goneF speed w) fin w
def permF (s : Stock) (way : List Piece) (low high fin speed : Int) : Int := findP (permAt s way low high fin speed) s.top
def permV (s : Stock) (way : List Piece) (low high fin speed : Int) : Int := if permErr s way low high fin speed = 0 then permF s way low high fin speed else 0

set_option maxHeartbeats 4000000 in
set_option maxRecDepth 20000 in
theorem f43 (s : Stock) (way : List Piece) (low high fin speed : Int) (hc : checkS s = 0) (hw : way.all pieceOk = true) (hl : way.length ≤ 60)
    (h1 : 0 ≤ low) (h2 : low ≤ 100000000) (h3 : 0 ≤ high) (h4 : high ≤ 100000000) (h5 : 0 ≤ speed) (h6 : speed ≤ 6000) (h7 : 0 ≤ fin) (h8 : fin ≤ 100000000) :
    PCall Try.prog 43 [eStock s, waysV way, .int .i64 low, .int .i64 high, .int .i64 fin, .int .i64 speed] (RV (.int .i64 (permF s way low high fin speed))) := by
  refine PCall.of_body Try.func43 rfl Try.ntmps43 (congrArg Array.toList Try.results43) ?_
  intro E
  have hk := checkS_ok hc
  simp (config := {maxSteps := 1000000}) only [go_sem, eStock, waysV]
  refine AW_loopS [13, 16, 17, 18, 19, 20, 21, 22, 23, 24, 25, 26, 27, 28, 29, 30, 31, 32, 33, 34, 35, 36, 37, 38, 39]
    (fun (u : Int) ρ m => ρ 13 = .int .i64 u ∧ -1 ≤ u ∧ u ≤ 6000 ∧ findP (permAt s way low high fin speed) u = permF s way low high fin speed ∧ ∃ nx' lv', m = ⟨[(6, 0, sBox s)], [], nx', lv'⟩) (fun u => (u + 1).toNat) s.top ?_ ?_
  · simp only [go_sem, sBox, sCells]
    exact ⟨by omega, by omega, rfl, _, _, rfl⟩
  · rintro u ρ m ⟨e8, g1, g2, g3, nx5, lv5, rfl⟩
    by_cases hu : 0 ≤ u
    · have hgb : 0 ≤ goneF speed u ∧ goneF speed u ≤ 6000 := gone_bd h5 h6 (by omega) g2
      unfold goneF at hgb
      simp (config := {maxSteps := 1000000}) (disch := omega) only [go_sem, sBox, sCells, i64_in, tdiv2, e8, hu]
      refine callV (f79 s way (low - 100 * s.len) (high + (speed + u + 1) / 2) fin u hc hw hl hu g2 (by omega) (by omega) (by omega) (by omega) h7 (by omega)) ?_
      intro nx6 lv6
      simp (config := {maxSteps := 1000000}) (disch := omega) only [go_sem, i64_in]
      refine ⟨fun hno => ⟨by kernel_rfl, u - 1, ?_, by simp only; omega⟩, fun hyes => ?_⟩
      · simp only [go_sem, sBox, sCells]
        refine ⟨by omega, by omega, ?_, _, _, rfl⟩
        rw [← findP_step hu (show permAt s way low high fin speed u = false from hno)]; exact g3
      · rw [← g3, findP_hit hu (show permAt s way low high fin speed u = true from hyes)]
    · simp (config := {maxSteps := 1000000}) (disch := omega) only [go_sem, sBox, sCells, e8, hu]
      rw [← g3, findP_end hu]

set_option maxHeartbeats 4000000 in
set_option maxRecDepth 20000 in
theorem f42 (s : Stock) (way : List Piece) (low high fin speed : Int) (hs : s.name.length ≤ 140737488351232) :
    PCall Try.prog 42 [eStock s, waysV way, .int .i64 low, .int .i64 high, .int .i64 fin, .int .i64 speed] (RV (.int .i64 (permErr s way low high fin speed))) := by
  refine PCall.of_body Try.func42 rfl Try.ntmps42 (congrArg Array.toList Try.results42) ?_
  intro E
  simp only [go_sem, eStock, waysV]
  refine callV (f73 s hs) ?_
  intro nx lv
  simp only [go_sem]
  refine ⟨fun h => by simp [permErr, h], fun h => ?_⟩
  refine callV (f74 way) ?_
  intro nx lv
  simp only [go_sem]
  refine ⟨fun h1 => by simp [permErr, h, h1], fun h1 => ?_⟩
  obtain ⟨hw0, hl, hw⟩ := wayErr_ok (by simpa using h1)
  have res : ∀ b : Bool, b = permOk s way low high fin speed → (if b = true then (0 : Int) else 2) = permErr s way low high fin speed := by
    intro b hb
    have h1' : wayErr way = 0 := by simpa using h1
    simp [permErr, h, h1', hb]
  refine callV (f75 way hw hl) ?_
  intro nx lv
  simp (config := {maxSteps := 1000000}) only [go_sem]
  repeat' first
    | refine And.intro ?_ ?_
    | intro _
  all_goals first
    | (rw [← res false (by simp [permOk, within]; omega)]; rfl)
    | (rw [← res true (by simp [permOk, within]; omega)]; rfl)

theorem sec0 (s : Stock) (way : List Piece) : secErr s way ⟨0, 0, 0⟩ 0 = if checkS s ≠ 0 then checkS s else wayErr way := by
  unfold secErr
  by_cases h : checkS s = 0
  · by_cases h1 : wayErr way = 0
    · obtain ⟨hw0, hl, hw⟩ := wayErr_ok h1
      have hk := checkS_ok h
      have := total_bd hw hl
      have e : (within 0 0 (total way) && (within 0 0 0 && (within 0 0 s.top && within 0 0 1152921504606846976))) = true := by simp [within]; omega
      simp [h, h1, e]
    · simp [h, h1]
  · simp [h]

set_option maxHeartbeats 8000000 in
set_option maxRecDepth 20000 in
theorem f41 (s : Stock) (way : List Piece) (low high fin speed : Int) (hs : s.name.length ≤ 140737488351232) :
    PCall Try.prog 41 [eStock s, waysV way, .int .i64 low, .int .i64 high, .int .i64 fin, .int .i64 speed] (RV (.tup [.int .i64 (permV s way low high fin speed), .int .i64 (permErr s way low high fin speed)])) := by
  refine PCall.of_body Try.func41 rfl Try.ntmps41 (congrArg Array.toList Try.results41) ?_
  intro E
  simp (config := {maxSteps := 1000000}) only [go_sem, eStock, waysV]
  refine callV (f33 s way ⟨0, 0, 0⟩ 0 hs) ?_
  intro nx lv
  simp (config := {maxSteps := 1000000}) only [go_sem, eSta]
  refine ⟨fun h => ?_, fun h => ?_⟩
  · have h2 : permErr s way low high fin speed = secErr s way ⟨0, 0, 0⟩ 0 := by
      rw [sec0] at h ⊢
      unfold permErr
      by_cases hc : checkS s = 0
      · have : wayErr way ≠ 0 := by simpa [hc] using h
        simp [hc, this]
      · simp [hc]
    have h3 : permErr s way low high fin speed ≠ 0 := by rw [h2]; simpa using h
    simp [permV, h2]
    intro e
    exact absurd e (by simpa using h)
  have h := h
  rw [sec0] at h
  have hc : checkS s = 0 := by
    by_cases hc : checkS s = 0
    · exact hc
    · simp [hc] at h
  have hwe : wayErr way = 0 := by simpa [hc] using h
  obtain ⟨hw0, hl, hw⟩ := wayErr_ok hwe
  have hk := checkS_ok hc
  have htb := total_bd hw hl
  clear h
  have res : ∀ b : Bool, b = permOk s way low high fin speed → (if b = true then (0 : Int) else 2) = permErr s way low high fin speed := by
    intro b hb
    simp [permErr, hc, hwe, hb]
  refine AW_loopS [16, 18, 33, 34, 35, 36, 37, 38, 39, 40, 41]
    (fun (i : Nat) ρ m => ρ 33 = .int .i64 (i : Int) ∧ ρ 16 = .int .i64 (pre way i) ∧ i ≤ way.length ∧ ∃ h nx lv, m = ⟨h, [], nx, lv⟩ ∧ AB.hget h 6 = some (0, sBox s)) (fun i => way.length - i) 0 ?_ ?_
  · simp only [go_sem, pre_zero, sBox, sCells]
    exact ⟨Nat.zero_le _, _, _, _, rfl, by simp [go_sem]⟩
  · rintro i ρ m ⟨e33, e16, g1, hh, nx2, lv2, rfl, hb6⟩
    by_cases hlt : i < way.length
    · have hlt' : ((i : Int) < (way.length : Int)) = True := by simp; omega
      obtain ⟨p, hp⟩ : ∃ p, way[i]? = some p := ⟨_, List.getElem?_eq_getElem hlt⟩
      have h1 := pre_bd hw i
      have h2 := pieceOk_iff.1 (List.all_eq_true.1 hw p (List.mem_of_getElem? hp))
      have h3 := pre_succ hp
      simp (config := {maxSteps := 1000000}) (disch := omega) only [go_sem, e33, e16, hlt', hp, dPiece, i64_in]
      refine ⟨by omega, by kernel_rfl, i + 1, ?_, by simp only; omega⟩
      simp only [go_sem, h3]
      exact ⟨by simp, by omega, _, _, _, rfl, by simp [go_sem, hb6]⟩
    · have hlt' : ((i : Int) < (way.length : Int)) = False := by simp; omega
      have htt : pre way i = total way := by rw [show i = way.length by omega]; rfl
      simp (config := {maxSteps := 1000000}) (disch := omega) only [go_sem, e33, e16, hlt', htt]
      refine callV (f55 _ _ _) ?_
      intro nx3 lv3
      have bad : permOk s way low high fin speed = false → permErr s way low high fin speed = 2 ∧ permV s way low high fin speed = 0 := fun hb => by
        have : permErr s way low high fin speed = 2 := by rw [← res false hb.symm]; rfl
        exact ⟨this, by simp [permV, this]⟩
      by_cases a1 : within low 0 (total way) = true
      rotate_left
      · have a1 : within low 0 (total way) = false := by simpa using a1
        have hb := bad (by simp [permOk, a1])
        simp (config := {maxSteps := 1000000}) only [go_sem, a1, hb.1, hb.2]
      simp (config := {maxSteps := 1000000}) only [go_sem, a1, hb6, sBox, sCells]
      refine callV (f55 _ _ _) ?_
      intro nx4 lv4
      by_cases a2 : within high 0 (total way) = true
      rotate_left
      · have a2 : within high 0 (total way) = false := by simpa using a2
        have hb := bad (by simp [permOk, a2])
        simp (config := {maxSteps := 1000000}) only [go_sem, a2, hb.1, hb.2]
      by_cases a3 : high < low
      · have hb := bad (by simp [permOk]; omega)
        simp (config := {maxSteps := 1000000}) only [go_sem, a2, a3, hb.1, hb.2]
      simp (config := {maxSteps := 1000000}) only [go_sem, a2, a3, hb6, sBox, sCells]
      refine callV (f55 _ _ _) ?_
      intro nx5 lv5
      by_cases a4 : within fin 0 (total way) = true
      rotate_left
      · have a4 : within fin 0 (total way) = false := by simpa using a4
        have hb := bad (by simp [permOk, a4])
        simp (config := {maxSteps := 1000000}) only [go_sem, a4, hb.1, hb.2]
      simp (config := {maxSteps := 1000000}) only [go_sem, a4, hb6, sBox, sCells]
      refine callV (f55 _ _ _) ?_
      intro nx6 lv6
      by_cases a5 : within speed 0 s.top = true
      rotate_left
      · have a5 : within speed 0 s.top = false := by simpa using a5
        have hb := bad (by simp [permOk, a5])
        simp (config := {maxSteps := 1000000}) only [go_sem, a5, hb.1, hb.2]
      have hok : permErr s way low high fin speed = 0 := by
        rw [← res true (by simp [permOk, a1, a2, a4, a5]; omega)]; rfl
      obtain ⟨_, _, r1, r2, r3, r4, r5⟩ := permErr_ok hok
      have hv : permV s way low high fin speed = permF s way low high fin speed := by simp [permV, hok]
      simp (config := {maxSteps := 1000000}) only [go_sem, a5, hb6, sBox, sCells, hok, hv]
      generalize genO (AB.hget hh 72) = G2
      generalize genO (AB.hget hh 74) = G
      refine AW_loopS [20, 77, 78, 79, 80, 81, 82, 83, 84, 85, 86, 87, 88, 89, 90, 91, 92, 93, 94, 95]
        (fun (u : Int) ρ m => ρ 20 = .int .i64 u ∧ -1 ≤ u ∧ u ≤ 6000 ∧ findP (permAt s way low high fin speed) u = permF s way low high fin speed ∧
          ∃ h' nx' lv' M', m = ⟨h', [], nx', lv'⟩ ∧ AB.hget h' 74 = some (G, gcell s (way.map dPiece) (.own 72 G2)) ∧ AB.hget h' 72 = some (G2, [.mapc (keysM M') (valsM (s.brake - 40) M')]) ∧ GoodM lv' M') (fun u => (u + 1).toNat) s.top ?_ ?_
      · simp only [go_sem, gcell, sCells]
        exact ⟨by omega, by omega, rfl, _, _, _, [], rfl, by simp [go_sem], by simp [go_sem, keysM, valsM], ⟨by simp, by simp, by simp, by simp⟩⟩
      · rintro u ρ m ⟨e20, k1, k2, k3, h', nx7, lv7, M7, rfl, b74, b72, hG⟩
        by_cases hu : 0 ≤ u
        · have hgb : 0 ≤ goneF speed u ∧ goneF speed u ≤ 6000 := gone_bd r5.1 (by omega) (by omega) k2
          unfold goneF at hgb
          simp (config := {maxSteps := 1000000}) (disch := omega) only [go_sem, gcell, sCells, i64_in, tdiv2, e20, hu, b74, b72]
          refine .inr (callG (lm := .own 72 G2) (may84 s way M7 nx7 lv7 low (high + (speed + u + 1) / 2) fin u hc hw hl hG hu k2 (by omega) (by omega) (by omega) (by omega) (by omega) (by omega)) (fun _ => rfl) (fun _ => rfl) (by simp) ?_ ?_ ?_)
          · simp [AH.cells, b74]
          · simp [AH.cells, b72]
          intro M8 nx8 lv8 j1 j2 j3
          simp (config := {maxSteps := 1000000}) (disch := omega) only [go_sem, i64_in]
          refine ⟨fun hno => ⟨by kernel_rfl, u - 1, ?_, by simp only; omega⟩, fun hyes => ?_⟩
          · simp only [go_sem, gcell, sCells]
            refine ⟨by omega, by omega, ?_, _, _, _, M8, rfl, by simp [go_sem, b74, gcell, sCells], by simp [go_sem], j1⟩
            rw [← findP_step hu (show permAt s way low high fin speed u = false from hno)]; exact k3
          · rw [← k3, findP_hit hu (show permAt s way low high fin speed u = true from hyes)]
        · simp (config := {maxSteps := 1000000}) (disch := omega) only [go_sem, e20, hu]
          rw [← k3, findP_end hu]

set_option maxHeartbeats 4000000 in
set_option maxRecDepth 20000 in
theorem f9 (s : Stock) (way : List Piece) (low high fin speed : Int) (hs : s.name.length ≤ 140737488351232) :
    PCall Try.prog 9 [eStock s, waysV way, .int .i64 low, .int .i64 high, .int .i64 fin, .int .i64 speed] (RV (.bool true)) := by
  refine PCall.of_body Try.func9 rfl Try.ntmps9 (congrArg Array.toList Try.results9) ?_
  intro E
  simp (config := {maxSteps := 1000000}) only [go_sem, eStock, waysV]
  refine callV (f41 s way low high fin speed hs) ?_
  intro nx lv
  simp (config := {maxSteps := 1000000}) only [go_sem]
  refine callV (f42 s way low high fin speed hs) ?_
  intro nx lv
  by_cases h : permErr s way low high fin speed = 0
  · obtain ⟨hc, hwe, r1, r2, r3, r4, r5⟩ := permErr_ok h
    obtain ⟨hw0, hl, hw⟩ := wayErr_ok hwe
    have hk := checkS_ok hc
    have htb := total_bd hw hl
    have hv : permV s way low high fin speed = permF s way low high fin speed := by simp [permV, h]
    simp (config := {maxSteps := 1000000}) only [go_sem, h, hv]
    refine callV (f43 s way low high fin speed hc hw hl (by omega) (by omega) (by omega) (by omega) (by omega) (by omega) (by omega) (by omega)) ?_
    intro nx lv
    simp (config := {maxSteps := 1000000}) only [go_sem]
  · have hv : permV s way low high fin speed = 0 := by simp [permV, h]
    simp (config := {maxSteps := 1000000}) only [go_sem, h, hv]

theorem law9 (xs : List DV) (h : ElDs Try.prog [60, 61, 3, 3, 3, 3] xs) : PCall Try.prog 9 (xs.map toAV) (RV (.bool true)) := by
  obtain ⟨x, xs, rfl, hx, h⟩ := h.cons_inv
  obtain ⟨y, xs, rfl, hy, h⟩ := h.cons_inv
  obtain ⟨z, xs, rfl, hz, h⟩ := h.cons_inv
  obtain ⟨u, xs, rfl, hu, h⟩ := h.cons_inv
  obtain ⟨v, xs, rfl, hv, h⟩ := h.cons_inv
  obtain ⟨w, xs, rfl, hw, h⟩ := h.cons_inv
  cases h.nil_inv
  obtain ⟨s, rfl, hs, _⟩ := openStock hx
  obtain ⟨way, hway, _⟩ := openWay hy
  obtain ⟨z, rfl, _⟩ := hz.int_inv Try.underlying3
  obtain ⟨u, rfl, _⟩ := hu.int_inv Try.underlying3
  obtain ⟨v, rfl, _⟩ := hv.int_inv Try.underlying3
  obtain ⟨w, rfl, _⟩ := hw.int_inv Try.underlying3
  simp only [List.map_cons, List.map_nil, eStock_eq, hway, toAV]
  exact f9 s way z u v w hs
end Go.Proofs.Ytalneemgdjkcdaa
