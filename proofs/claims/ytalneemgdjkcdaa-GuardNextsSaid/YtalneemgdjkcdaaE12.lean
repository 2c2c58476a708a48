/- The law GuardNexts over its contracts, for all stocks, ways, states and numbers. -/
import Derived.Test.YtalneemgdjkcdaaE11
namespace Go.Proofs.Ytalneemgdjkcdaa
open Go.AB

def nextOk (x : Sta) (low high dem : Int) : Bool := within x.pos low high && (within x.work 0 1152921504606846976 && within dem 0 6000)
def nextErr (s : Stock) (way : List Piece) (x : Sta) (low high fin dem : Int) : Int :=
  if permErr s way low high fin x.v ≠ 0 then permErr s way low high fin x.v else if nextOk x low high dem = true then 0 else 2
def nextW (s : Stock) (way : List Piece) (x : Sta) (low high fin dem : Int) : Int :=
  max (min (min (min dem (permF s way low high fin x.v)) (x.v + gainF s x.v (gradeF way x.pos))) s.top) (max 0 (x.v - (s.brake + gradeF way x.pos)))
def nextG (s : Stock) (way : List Piece) (x : Sta) (low high fin dem : Int) : Sta := movedF s x (nextW s way x low high fin dem) (gradeF way x.pos)

theorem nextErr_ok {s : Stock} {way : List Piece} {x : Sta} {low high fin dem : Int} (h : nextErr s way x low high fin dem = 0) :
    permErr s way low high fin x.v = 0 ∧ (low ≤ x.pos ∧ x.pos ≤ high) ∧ (0 ≤ x.work ∧ x.work ≤ 1152921504606846976) ∧ (0 ≤ dem ∧ dem ≤ 6000) := by
  unfold nextErr at h
  split at h
  · rename_i h1; exact absurd h h1
  · rename_i h1
    split at h
    · rename_i h3
      simp only [nextOk, within, Bool.and_eq_true, decide_eq_true_eq] at h3
      exact ⟨by simpa using h1, h3⟩
    · cases h

theorem gradeF_cons {p q : Piece} {r : List Piece} {a : Int} : gradeF (p :: q :: r) a = if a < p.len then p.grade else gradeF (q :: r) (a - p.len) := rfl

theorem nextW_bd {s : Stock} {way : List Piece} {x : Sta} {low high fin dem : Int} (hc : checkS s = 0) (hw : way.all pieceOk = true) (h1 : 0 ≤ x.v) (h2 : x.v ≤ 6000) (hd : dem ≤ 6000) :
    0 ≤ nextW s way x low high fin dem ∧ nextW s way x low high fin dem ≤ 6000 := by
  have hk := checkS_ok hc
  have hg := gradeF_bd x.pos hw
  unfold nextW
  omega

theorem gain85 (s : Stock) (v g : Int) (hs : s.name.length ≤ 140737488351232) (hc : checkS s = 0) (h1 : 0 ≤ v) (h2 : v ≤ 6000) (h3 : -40 ≤ g) (h4 : g ≤ 40) : PCall Try.prog 85 [eStock s, .int .i64 v, .int .i64 g] (RV (.tup [.int .i64 (gainF s v g), .int .i64 0])) := by
  refine PCall.of_body Try.func85 rfl Try.ntmps85 (congrArg Array.toList Try.results85) ?_
  intro E
  simp only [go_sem, eStock]
  refine callV (f104 s hs) ?_
  intro nx lv
  simp only [go_sem, hc]
  refine callV (f83 _ _ _) ?_
  intro nx lv
  have a1 : within v 0 6000 = true := by simp [within]; omega
  have a2 : within g (-40) 40 = true := by simp [within]; omega
  simp only [go_sem, a1]
  refine callV (f83 _ _ _) ?_
  intro nx lv
  simp only [go_sem, a2]
  refine callV (f106 s v g hc h1 h2 h3 h4) ?_
  intro nx lv
  simp only [go_sem]

set_option maxHeartbeats 8000000 in
set_option maxRecDepth 20000 in
theorem f45 (s : Stock) (way : List Piece) (x : Sta) (low high fin dem : Int) (hs : s.name.length ≤ 140737488351232) :
    PCall Try.prog 45 [eStock s, waysV way, eSta x, .int .i64 low, .int .i64 high, .int .i64 fin, .int .i64 dem] (RV (.int .i64 (nextErr s way x low high fin dem))) := by
  refine PCall.of_body Try.func45 rfl Try.ntmps45 (congrArg Array.toList Try.results45) ?_
  intro E
  simp (config := {maxSteps := 1000000}) only [go_sem, eStock, eSta, waysV]
  refine callV (f42 s way low high fin x.v hs) ?_
  intro nx lv
  simp (config := {maxSteps := 1000000}) only [go_sem]
  refine ⟨fun h => by simp [nextErr, h], fun h => ?_⟩
  have res : ∀ b : Bool, b = nextOk x low high dem → (if b = true then (0 : Int) else 2) = nextErr s way x low high fin dem := by
    intro b hb
    have h' : permErr s way low high fin x.v = 0 := by simpa using h
    simp [nextErr, h', hb]
  repeat' first
    | refine And.intro ?_ ?_
    | intro _
  all_goals first
    | (rw [← res false (by simp [nextOk, within]; omega)]; rfl)
    | (rw [← res true (by simp [nextOk, within]; omega)]; rfl)

set_option maxHeartbeats 8000000 in
set_option maxRecDepth 20000 in
theorem f46 (s : Stock) (way : List Piece) (x : Sta) (low high fin dem : Int) (h : nextErr s way x low high fin dem = 0) :
    PCall Try.prog 46 [eStock s, waysV way, eSta x, .int .i64 low, .int .i64 high, .int .i64 fin, .int .i64 dem] (RV (eSta (nextG s way x low high fin dem))) := by
  refine PCall.of_body Try.func46 rfl Try.ntmps46 (congrArg Array.toList Try.results46) ?_
  intro E
  obtain ⟨hp, h1, h2, h3⟩ := nextErr_ok h
  obtain ⟨hc, hwe, r1, r2, r3, r4, r5⟩ := permErr_ok hp
  obtain ⟨hw0, hl, hw⟩ := wayErr_ok hwe
  have hk := checkS_ok hc
  have htb := total_bd hw hl
  have hg := gradeF_bd x.pos hw
  have hga := gain_bd hc r5.1 (by omega) hg.1 hg.2
  have hb := nextW_bd (low := low) (high := high) (fin := fin) (dem := dem) hc hw r5.1 (by omega) (by omega)
  have hpf := findP_bd (permAt s way low high fin x.v) s.top (by omega)
  simp (config := {maxSteps := 1000000}) only [go_sem, eStock, eSta, waysV]
  refine callV (f76 way x.pos hw hl hw0) ?_
  intro nx lv
  simp (config := {maxSteps := 1000000}) only [go_sem]
  refine drawn (by kernel_rfl) (by kernel_rfl) ?_
  simp (config := {maxSteps := 1000000}) only [go_sem]
  refine quietD (f43 s way low high fin x.v hc hw hl (by omega) (by omega) (by omega) (by omega) (by omega) (by omega) (by omega) (by omega)) (fun _ => rfl) ?_
  simp (config := {maxSteps := 1000000}) (disch := omega) only [go_sem, i64_in]
  refine quietD (f78 s x.v (gradeF way x.pos) hc r5.1 (by omega) hg.1 hg.2) (fun _ => rfl) ?_
  simp (config := {maxSteps := 1000000}) (disch := omega) only [go_sem, i64_in]
  intro nx1 lv1 q1 q2
  refine drawnP [2, 2, 2, 2, 2, 2, 2, 2, 2, 2, 2, 3] [(11, [0, 0, 0, 0, 0, 0, 0, 0, 0, 0, 0, 0])] 52 (by kernel_rfl) (by kernel_rfl) (by kernel_rfl) (by kernel_rfl) rfl ?_
  simp (config := {maxSteps := 1000000}) (disch := omega) only [go_sem, i64_in]
  refine quietD (f77 s x.v (gradeF way x.pos) hc r5.1 (by omega) hg.1 hg.2) (fun _ => rfl) ?_
  simp (config := {maxSteps := 1000000}) (disch := omega) only [go_sem, i64_in]
  refine quietD (f80 s x (nextW s way x low high fin dem) (gradeF way x.pos) 0 hc ⟨by omega, by omega, by omega, by omega, by omega, by omega⟩ (by omega) (by omega) hb.1 hb.2 hg.1 hg.2) (fun _ => rfl) ?_
  simp (config := {maxSteps := 1000000}) (disch := omega) only [go_sem, i64_in, eSta]
  intro nx2 lv2 q3 q4 nx3 lv3 q5 q6
  exact ⟨rfl, rfl, rfl⟩

def nextV (s : Stock) (way : List Piece) (x : Sta) (low high fin dem : Int) : Sta := if nextErr s way x low high fin dem = 0 then nextG s way x low high fin dem else ⟨0, 0, 0⟩

set_option maxHeartbeats 8000000 in
set_option maxRecDepth 20000 in
theorem f44 (s : Stock) (way : List Piece) (x : Sta) (low high fin dem : Int) (hs : s.name.length ≤ 140737488351232) :
    PCall Try.prog 44 [eStock s, waysV way, eSta x, .int .i64 low, .int .i64 high, .int .i64 fin, .int .i64 dem] (RV (.tup [eSta (nextV s way x low high fin dem), .int .i64 (nextErr s way x low high fin dem)])) := by
  refine PCall.of_body Try.func44 rfl Try.ntmps44 (congrArg Array.toList Try.results44) ?_
  intro E
  simp (config := {maxSteps := 1000000}) only [go_sem, eStock, eSta, waysV]
  refine callV (f41 s way low high fin x.v hs) ?_
  intro nx lv
  by_cases hp : permErr s way low high fin x.v = 0
  rotate_left
  · have : nextErr s way x low high fin dem = permErr s way low high fin x.v := by simp [nextErr, hp]
    have h2 : nextV s way x low high fin dem = ⟨0, 0, 0⟩ := by simp [nextV, this, hp]
    simp (config := {maxSteps := 1000000}) only [go_sem, hp, this, h2]
  have hpv : permV s way low high fin x.v = permF s way low high fin x.v := by simp [permV, hp]
  simp (config := {maxSteps := 1000000}) only [go_sem, hp, hpv]
  have res : ∀ b : Bool, b = nextOk x low high dem → (if b = true then (0 : Int) else 2) = nextErr s way x low high fin dem := by
    intro b hb
    simp [nextErr, hp, hb]
  have bad : nextOk x low high dem = false → nextErr s way x low high fin dem = 2 ∧ nextV s way x low high fin dem = ⟨0, 0, 0⟩ := fun hb => by
    have : nextErr s way x low high fin dem = 2 := by rw [← res false hb.symm]; rfl
    exact ⟨this, by simp [nextV, this]⟩
  refine callV (f55 _ _ _) ?_
  intro nx2 lv2
  by_cases a1 : within x.pos low high = true
  rotate_left
  · have a1 : within x.pos low high = false := by simpa using a1
    have hb := bad (by simp [nextOk, a1])
    simp (config := {maxSteps := 1000000}) only [go_sem, a1, hb.1, hb.2]
  simp (config := {maxSteps := 1000000}) only [go_sem, a1]
  refine callV (f55 _ _ _) ?_
  intro nx3 lv3
  by_cases a2 : within x.work 0 1152921504606846976 = true
  rotate_left
  · have a2 : within x.work 0 1152921504606846976 = false := by simpa using a2
    have hb := bad (by simp [nextOk, a2])
    simp (config := {maxSteps := 1000000}) only [go_sem, a2, hb.1, hb.2]
  simp (config := {maxSteps := 1000000}) only [go_sem, a2]
  refine callV (f55 _ _ _) ?_
  intro nx4 lv4
  by_cases a3 : within dem 0 6000 = true
  rotate_left
  · have a3 : within dem 0 6000 = false := by simpa using a3
    have hb := bad (by simp [nextOk, a3])
    simp (config := {maxSteps := 1000000}) only [go_sem, a3, hb.1, hb.2]
  have hok : nextErr s way x low high fin dem = 0 := by rw [← res true (by simp [nextOk, a1, a2, a3])]; rfl
  have hv : nextV s way x low high fin dem = nextG s way x low high fin dem := by simp [nextV, hok]
  obtain ⟨_, h1, h2, h3⟩ := nextErr_ok hok
  obtain ⟨hc, hwe, r1, r2, r3, r4, r5⟩ := permErr_ok hp
  obtain ⟨hw0, hl, hw⟩ := wayErr_ok hwe
  have hk := checkS_ok hc
  have htb := total_bd hw hl
  have hg := gradeF_bd x.pos hw
  have hga := gain_bd hc r5.1 (by omega) hg.1 hg.2
  have hb := nextW_bd (low := low) (high := high) (fin := fin) (dem := dem) hc hw r5.1 (by omega) (by omega)
  have hpf := findP_bd (permAt s way low high fin x.v) s.top (by omega)
  have hl0 : 0 < way.length := List.length_pos_iff.2 hw0
  simp (config := {maxSteps := 1000000}) only [go_sem, a3, hok, hv]
  refine AW_loopS [18, 19, 21, 63, 64, 65, 66, 67, 68, 69, 70, 71, 72, 73, 74, 75, 76, 77]
    (fun (i : Nat) ρ m => ρ 63 = .int .i64 (i : Int) ∧ ρ 19 = .int .i64 (pre way i) ∧ i ≤ way.length ∧ (∃ h nx lv, m = ⟨h, [], nx, lv⟩ ∧ AB.hget h 7 = some (0, sBox s) ∧ AB.hget h 9 = some (0, [.int .i64 x.pos, .int .i64 x.v, .int .i64 x.work]) ∧ AB.hget h 14 = some (0, [.int .i64 0, .int .i64 0, .int .i64 0])) ∧
      ∃ g, ρ 18 = .int .i64 g ∧ ((x.pos < pre way i ∧ g = gradeF way x.pos) ∨ (pre way i ≤ x.pos ∧ (i < way.length → gradeF (way.drop i) (x.pos - pre way i) = gradeF way x.pos) ∧ (i = way.length → g = gradeF way x.pos)))) (fun i => way.length - i) 0 ?_ ?_
  · simp only [go_sem, pre_zero, sBox, sCells]
    refine ⟨Nat.zero_le _, ⟨_, _, _, rfl, by simp [go_sem], by simp [go_sem], by simp [go_sem]⟩, .inr ⟨by omega, fun _ => by simp, fun e => by omega⟩⟩
  · rintro i ρ m ⟨e63, e19, g1, ⟨hh, nx5, lv5, rfl, b7, b9, b14⟩, g, e18, hcase⟩
    by_cases hlt : i < way.length
    · have hlt' : ((i : Int) < (way.length : Int)) = True := by simp; omega
      obtain ⟨p, hp⟩ : ∃ p, way[i]? = some p := ⟨_, List.getElem?_eq_getElem hlt⟩
      have k1 := pre_bd hw i
      have k2 := pieceOk_iff.1 (List.all_eq_true.1 hw p (List.mem_of_getElem? hp))
      have k3 := pre_succ hp
      have hd : way.drop i = p :: way.drop (i + 1) := by
        rw [List.drop_eq_getElem_cons hlt]
        rw [List.getElem?_eq_getElem hlt] at hp
        cases hp; rfl
      by_cases hle : pre way i ≤ x.pos
      · have hc2 : gradeF (way.drop i) (x.pos - pre way i) = gradeF way x.pos := by
          rcases hcase with hcase | hcase
          · omega
          · exact hcase.2.1 hlt
        simp (config := {maxSteps := 1000000}) (disch := omega) only [go_sem, e63, e19, e18, hlt', hp, dPiece, i64_in, b9, hle]
        refine ⟨by omega, by kernel_rfl, i + 1, ?_, by simp only; omega⟩
        simp only [go_sem, k3]
        refine ⟨by simp, by omega, ⟨_, _, _, rfl, by simp [go_sem, b7], by simp [go_sem, b9], by simp [go_sem, b14]⟩, ?_⟩
        by_cases hn : x.pos < pre way i + p.len
        · left
          refine ⟨hn, ?_⟩
          rw [← hc2, hd]
          cases hr : way.drop (i + 1) with
          | nil => rfl
          | cons q r => simp only [gradeF]; rw [if_pos (by omega)]
        · right
          refine ⟨by omega, fun h5 => ?_, fun h5 => ?_⟩
          · obtain ⟨q, hq⟩ : ∃ q, way[i + 1]? = some q := ⟨_, List.getElem?_eq_getElem h5⟩
            have hd2 : way.drop (i + 1) = q :: way.drop (i + 2) := by
              rw [List.drop_eq_getElem_cons h5]
              rw [List.getElem?_eq_getElem h5] at hq
              cases hq; rfl
            rw [hd, hd2, gradeF_cons, if_neg (by omega)] at hc2
            rw [hd2, show x.pos - (pre way i + p.len) = x.pos - pre way i - p.len by omega]
            exact hc2
          · rw [← hc2, hd, show way.drop (i + 1) = [] from List.drop_eq_nil_of_le (by omega)]
            rfl
      · have hc2 : g = gradeF way x.pos := by
          rcases hcase with hcase | hcase
          · exact hcase.2
          · omega
        simp (config := {maxSteps := 1000000}) (disch := omega) only [go_sem, e63, e19, e18, hlt', hp, dPiece, i64_in, b9, hle]
        refine ⟨by omega, by kernel_rfl, i + 1, ?_, by simp only; omega⟩
        simp only [go_sem, k3]
        exact ⟨by simp, by omega, ⟨_, _, _, rfl, by simp [go_sem, b7], by simp [go_sem, b9], by simp [go_sem, b14]⟩, .inl ⟨by omega, hc2⟩⟩
    · have hlt' : ((i : Int) < (way.length : Int)) = False := by simp; omega
      have hgg : g = gradeF way x.pos := by
        rcases hcase with hcase | hcase
        · exact hcase.2
        · exact hcase.2.2 (by omega)
      simp (config := {maxSteps := 1000000}) (disch := omega) only [go_sem, e63, e19, e18, hlt', b7, b9, sBox, sCells, hgg]
      refine callV (gain85 s x.v (gradeF way x.pos) hs hc r5.1 (by omega) hg.1 hg.2) ?_
      intro nx6 lv6
      have hgw := gone_bd (w := nextW s way x low high fin dem) r5.1 (by omega) hb.1 hb.2
      unfold goneF at hgw
      have hac := acc_bd (x := x) (w := nextW s way x low high fin dem) (g := gradeF way x.pos) hc r5.1 (by omega) hg.1 hg.2 hb.1 hb.2
      have hnw : max (min (min (min dem (permF s way low high fin x.v)) (x.v + gainF s x.v (gradeF way x.pos))) s.top) (max 0 (x.v - (s.brake + gradeF way x.pos))) = nextW s way x low high fin dem := rfl
      simp (config := {maxSteps := 1000000}) (disch := omega) only [go_sem, b7, b9, b14, sBox, sCells, i64_in, hnw, tdiv2]
      refine drawn (by kernel_rfl) (by kernel_rfl) ?_
      have hvv := sq_bd r5.1 (show x.v ≤ 6000 by omega)
      unfold accF at hac
      simp (config := {maxSteps := 1000000}) (disch := omega) only [go_sem, b7, b9, b14, sBox, sCells, i64_in, tdivE]
      refine ⟨by omega, fun nx7 lv7 _ _ => ?_⟩
      simp only [nextG, movedF, accF, goneF]
      generalize nextW s way x low high fin dem = W at hb hgw hac ⊢
      generalize hA : W - x.v + s.roll + x.v * x.v / s.drag + gradeF way x.pos = A at hac ⊢
      generalize hF : (x.v + W + 1) / 2 = F at hgw ⊢
      have m1 := mul_bd (a := s.mass) (A := 2000) (b := max A 0) (B := 6100) (by omega) (by omega) (by omega) (by omega)
      have m2 := mul_bd (a := s.mass * max A 0) (A := 12200000) (b := F) (B := 6000) m1.1 (by omega) (by omega) (by omega)
      have e1 : x.pos + F - x.pos = F := by omega
      refine ⟨fun hu => ?_, fun hu => ?_⟩
      · have e2 : max A 0 = A := by omega
        rw [e2] at m1 m2 ⊢
        simp (config := {maxSteps := 1000000}) (disch := omega) only [go_sem, i64_in, e1]
      · have e2 : max A 0 = 0 := by omega
        rw [e2]
        simp

set_option maxHeartbeats 4000000 in
set_option maxRecDepth 20000 in
theorem f10 (s : Stock) (way : List Piece) (x : Sta) (low high fin dem : Int) (hs : s.name.length ≤ 140737488351232) :
    PCall Try.prog 10 [eStock s, waysV way, eSta x, .int .i64 low, .int .i64 high, .int .i64 fin, .int .i64 dem] (RV (.bool true)) := by
  refine PCall.of_body Try.func10 rfl Try.ntmps10 (congrArg Array.toList Try.results10) ?_
  intro E
  simp (config := {maxSteps := 1000000}) only [go_sem, eStock, eSta, waysV]
  refine callV (f44 s way x low high fin dem hs) ?_
  intro nx lv
  simp (config := {maxSteps := 1000000}) only [go_sem, eSta]
  refine callV (f45 s way x low high fin dem hs) ?_
  intro nx lv
  by_cases h : nextErr s way x low high fin dem = 0
  · have hv : nextV s way x low high fin dem = nextG s way x low high fin dem := by simp [nextV, h]
    simp (config := {maxSteps := 1000000}) only [go_sem, h, hv]
    refine drawn (by kernel_rfl) (by kernel_rfl) ?_
    simp (config := {maxSteps := 1000000}) only [go_sem]
    refine quietD (f46 s way x low high fin dem h) (fun _ => rfl) ?_
    simp (config := {maxSteps := 1000000}) only [go_sem, eSta]
  · have hv : nextV s way x low high fin dem = ⟨0, 0, 0⟩ := by simp [nextV, h]
    simp (config := {maxSteps := 1000000}) only [go_sem, h, hv]

theorem law10 (xs : List DV) (h : ElDs Try.prog [60, 61, 63, 3, 3, 3, 3] xs) : PCall Try.prog 10 (xs.map toAV) (RV (.bool true)) := by
  obtain ⟨x, xs, rfl, hx, h⟩ := h.cons_inv
  obtain ⟨y, xs, rfl, hy, h⟩ := h.cons_inv
  obtain ⟨a, xs, rfl, ha, h⟩ := h.cons_inv
  obtain ⟨z, xs, rfl, hz, h⟩ := h.cons_inv
  obtain ⟨u, xs, rfl, hu, h⟩ := h.cons_inv
  obtain ⟨v, xs, rfl, hv, h⟩ := h.cons_inv
  obtain ⟨w, xs, rfl, hw, h⟩ := h.cons_inv
  cases h.nil_inv
  obtain ⟨s, rfl, hs, _⟩ := openStock hx
  obtain ⟨way, hway, _⟩ := openWay hy
  obtain ⟨st, hst⟩ := openSta ha
  obtain ⟨z, rfl, _⟩ := hz.int_inv Try.underlying3
  obtain ⟨u, rfl, _⟩ := hu.int_inv Try.underlying3
  obtain ⟨v, rfl, _⟩ := hv.int_inv Try.underlying3
  obtain ⟨w, rfl, _⟩ := hw.int_inv Try.underlying3
  simp only [List.map_cons, List.map_nil, eStock_eq, hway, hst, toAV]
  exact f10 s way st z u v w hs
end Go.Proofs.Ytalneemgdjkcdaa
