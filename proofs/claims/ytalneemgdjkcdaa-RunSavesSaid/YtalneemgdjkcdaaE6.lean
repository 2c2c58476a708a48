/- Contracts of Fits, moved and SecondOf. -/
import Derived.Test.YtalneemgdjkcdaaE5
namespace Go.Proofs.Ytalneemgdjkcdaa
open Go.AB

def sBox (s : Stock) : List AV := sCells s []

set_option maxHeartbeats 4000000 in
set_option maxRecDepth 20000 in
theorem f79 (s : Stock) (way : List Piece) (tail a fin w : Int) (hc : checkS s = 0) (hw : way.all pieceOk = true) (hl : way.length ≤ 60)
    (h1 : 0 ≤ w) (h2 : w ≤ 6000) (h3 : -1000000000 ≤ tail) (h4 : tail ≤ 1000000000) (h5 : -1000000000 ≤ a) (h6 : a ≤ 1000000000) (h7 : 0 ≤ fin) (h8 : fin ≤ 1000000000) :
    PCall Try.prog 79 [eStock s, waysV way, .int .i64 tail, .int .i64 a, .int .i64 fin, .int .i64 w] (RV (.bool (fits s way tail a fin w))) := by
  refine PCall.of_body Try.func79 rfl Try.ntmps79 (congrArg Array.toList Try.results79) ?_
  intro E
  have hk := checkS_ok hc
  simp only [go_sem, eStock, waysV]
  refine callV (f110 s w h1 h2 (by omega) (by omega)) ?_
  intro nx lv
  simp (disch := omega) only [go_sem, i64_in]
  refine ⟨fun hgt => by unfold fits; simp; omega, fun hle => ?_⟩
  refine AW_loopS [12, 13, 15, 16, 26, 27, 28, 29, 30, 31, 32, 33, 34, 35, 36, 37, 38, 39, 40, 41, 42, 43, 44, 45, 46, 47, 48, 49, 50, 51, 52, 53, 54, 55, 56, 57, 58, 59, 60, 61, 62, 63]
    (fun (i : Nat) ρ m => ρ 26 = .int .i64 (i : Int) ∧ ρ 13 = .int .i64 (pre way i) ∧ i ≤ way.length ∧ fitsL (s.brake - 40) tail a w (pre way i) (way.drop i) = fitsL (s.brake - 40) tail a w 0 way ∧
      ∃ h nx' lv', m = ⟨h, [], nx', lv'⟩ ∧ AB.hget h 6 = some (0, sBox s)) (fun i => way.length - i) 0 ?_ ?_
  · simp only [go_sem, pre_zero, List.drop_zero, sBox, sCells]
    exact ⟨Nat.zero_le _, _, _, _, rfl, by simp [go_sem]⟩
  · rintro i ρ m ⟨e26, e13, g1, g2, h, nx4, lv4, rfl, hb⟩
    by_cases hlt : i < way.length
    · obtain ⟨p, hp⟩ : ∃ p, way[i]? = some p := ⟨_, List.getElem?_eq_getElem hlt⟩
      have hd : way.drop i = p :: way.drop (i + 1) := by
        rw [List.drop_eq_getElem_cons hlt]
        rw [List.getElem?_eq_getElem hlt] at hp
        cases hp; rfl
      have hps := pre_succ hp
      have hpk := pieceOk_iff.1 (List.all_eq_true.1 hw p (List.mem_of_getElem? hp))
      have hb1 := pre_bd hw i
      have hlt' : ((i : Int) < (way.length : Int)) = True := by simp; omega
      have hfl : fitsL (s.brake - 40) tail a w (pre way i) (way.drop i) = (!(decide (pre way i < a) && (decide (tail < pre way i + p.len) && decide (p.speed < w))) && (!(decide (a ≤ pre way i) && decide (pre way i - a < into (s.brake - 40) p.speed w)) && fitsL (s.brake - 40) tail a w (pre way (i + 1)) (way.drop (i + 1)))) := by
        rw [hd, hps]; rfl
      rw [hfl] at g2
      have hbi := into_bd (s.brake - 40) p.speed w (by omega) (by omega) h2
      by_cases hA : pre way i < a
      · have hA2 : (a ≤ pre way i) = False := by simp; omega
        simp (config := {maxSteps := 1000000}) (disch := omega) only [go_sem, e26, e13, hlt', hp, dPiece, i64_in, hA, hA2, hb, sBox, sCells]
        generalize genO (AB.hget h 15) = G
        have bad : tail < pre way i + p.len → p.speed < w → fitsL (s.brake - 40) tail a w 0 way = false := fun q1 q2 => by rw [← g2]; simp [hA, q1, q2]
        have go : ¬ (tail < pre way i + p.len ∧ p.speed < w) → fitsL (s.brake - 40) tail a w (pre way (i + 1)) (way.drop (i + 1)) = fitsL (s.brake - 40) tail a w 0 way := fun q => by
          rw [← g2]
          have e1 : decide (a ≤ pre way i) = false := by simp; omega
          have e2 : (decide (tail < pre way i + p.len) && decide (p.speed < w)) = false := by simpa using q
          rw [e1, e2]; simp
        refine ⟨by omega, fun q1 => ⟨fun q2 => by simp [fits, bad q1 q2], fun q2 => ⟨by kernel_rfl, i + 1, ?_, by simp only; omega⟩⟩, fun q1 => ⟨by kernel_rfl, i + 1, ?_, by simp only; omega⟩⟩
        · simp only [go_sem, hps]
          exact ⟨by simp, by omega, by rw [← hps]; exact go (fun q => q2 q.2), _, _, _, rfl, by simp [go_sem, hb, sBox, sCells]⟩
        · simp only [go_sem, hps]
          exact ⟨by simp, by omega, by rw [← hps]; exact go (fun q => q1 q.1), _, _, _, rfl, by simp [go_sem, hb, sBox, sCells]⟩
      · have hA1 : (pre way i < a) = False := by simp; omega
        have hA2 : (a ≤ pre way i) = True := by simp; omega
        simp (config := {maxSteps := 1000000}) (disch := omega) only [go_sem, e26, e13, hlt', hp, dPiece, i64_in, hA1, hA2, hb, sBox, sCells]
        generalize genO (AB.hget h 15) = G
        refine ⟨by omega, callV (f111 s w p.speed h1 h2 (by omega) (by omega) (by omega) (by omega)) ?_⟩
        intro nx5 lv5
        simp (config := {maxSteps := 1000000}) (disch := omega) only [go_sem, i64_in]
        have go : ¬ pre way i - a < into (s.brake - 40) p.speed w → fitsL (s.brake - 40) tail a w (pre way (i + 1)) (way.drop (i + 1)) = fitsL (s.brake - 40) tail a w 0 way := fun q => by
          rw [← g2]
          have e1 : decide (pre way i < a) = false := by simp; omega
          have e2 : decide (pre way i - a < into (s.brake - 40) p.speed w) = false := by simpa using q
          rw [e1, e2]; simp
        refine ⟨fun q => ?_, fun q => ⟨by kernel_rfl, i + 1, ?_, by simp only; omega⟩⟩
        · have : fitsL (s.brake - 40) tail a w 0 way = false := by
            rw [← g2]
            have e1 : decide (a ≤ pre way i) = true := by simp; omega
            have e2 : decide (pre way i - a < into (s.brake - 40) p.speed w) = true := by simpa using q
            rw [e1, e2]; simp
          simp [fits, this]
        · simp only [go_sem, hps]
          exact ⟨by simp, by omega, by rw [← hps]; exact go q, _, _, _, rfl, by simp [go_sem, hb, sBox, sCells]⟩
    · have hlt' : ((i : Int) < (way.length : Int)) = False := by simp; omega
      have hd : way.drop i = [] := List.drop_eq_nil_of_le (by omega)
      rw [hd] at g2
      simp (config := {maxSteps := 1000000}) (disch := omega) only [go_sem, e26, e13, hlt']
      have : fitsL (s.brake - 40) tail a w 0 way = true := by rw [← g2]; rfl
      simp [fits, this]
      omega

set_option maxRecDepth 20000 in
theorem f80 (s : Stock) (x : Sta) (w g k : Int) (hc : checkS s = 0) (hx : StaOk x k) (hk0 : 0 ≤ k) (hk1 : k ≤ 1000000000000000) (h1 : 0 ≤ w) (h2 : w ≤ 6000) (h3 : -40 ≤ g) (h4 : g ≤ 40) :
    PCall Try.prog 80 [eStock s, eSta x, .int .i64 w, .int .i64 g] (RV (eSta (movedF s x w g))) := by
  refine PCall.of_body Try.func80 rfl Try.ntmps80 (congrArg Array.toList Try.results80) ?_
  intro E
  have hk := checkS_ok hc
  obtain ⟨p0, p1, v0, v1, w0, w1⟩ := hx
  have hgw := gone_bd v0 v1 h1 h2
  unfold goneF at hgw
  have hac := acc_bd (w := w) (g := g) hc v0 v1 h3 h4 h1 h2
  unfold accF at hac
  have hvv := sq_bd v0 v1
  simp (config := {maxSteps := 1000000}) (disch := omega) only [go_sem, eStock, eSta, i64_in, tdiv2]
  refine drawn (by kernel_rfl) (by kernel_rfl) ?_
  simp (config := {maxSteps := 1000000}) (disch := omega) only [go_sem, i64_in, tdivE]
  refine ⟨by omega, fun nx _ => ?_⟩
  simp only [movedF, accF, goneF]
  generalize w - x.v + s.roll + x.v * x.v / s.drag + g = A at hac ⊢
  generalize (x.v + w + 1) / 2 = F at hgw ⊢
  have m1 := mul_bd (a := s.mass) (A := 2000) (b := max A 0) (B := 6100) (by omega) (by omega) (by omega) (by omega)
  have m2 := mul_bd (a := s.mass * max A 0) (A := 12200000) (b := F) (B := 6000) m1.1 (by omega) (by omega) (by omega)
  simp (disch := omega) only [i64_in]
  exact ⟨trivial, trivial, trivial⟩

set_option maxHeartbeats 4000000 in
set_option maxRecDepth 20000 in
theorem f35 (s : Stock) (way : List Piece) (x : Sta) (fin top k : Int) (hc : checkS s = 0) (hw : way.all pieceOk = true) (hw0 : way ≠ []) (hl : way.length ≤ 60)
    (hx : StaOk x k) (hk0 : 0 ≤ k) (hk1 : k ≤ 1000000000000000) (ht0 : 0 ≤ top) (ht : top ≤ 6000) (h7 : 0 ≤ fin) (h8 : fin ≤ 100000000) :
    PCall Try.prog 35 [eStock s, waysV way, eSta x, .int .i64 fin, .int .i64 top] (RV (eSta (nextF s way x fin top))) := by
  refine PCall.of_body Try.func35 rfl Try.ntmps35 (congrArg Array.toList Try.results35) ?_
  intro E
  have hk := checkS_ok hc
  have hx' := hx
  obtain ⟨p0, p1, v0, v1, w0, w1⟩ := hx
  have hg := gradeF_bd x.pos hw
  have hsb : 0 ≤ speedF s way x fin top ∧ speedF s way x fin top ≤ 6000 := speed_bd (k := k) hc hx' hw ht
  simp only [go_sem, eStock, eSta, waysV]
  refine callV (f76 way x.pos hw hl hw0) ?_
  intro nx lv
  generalize hG : gradeF way x.pos = g at hg
  have hga := gain_bd hc v0 v1 hg.1 hg.2
  simp only [go_sem]
  refine callV (f77 s x.v g hc v0 v1 hg.1 hg.2) ?_
  intro nx lv
  simp only [go_sem]
  refine drawn (by kernel_rfl) (by kernel_rfl) ?_
  simp (config := {maxSteps := 1000000}) (disch := omega) only [go_sem, i64_in]
  refine quietD (f78 s x.v g hc v0 v1 hg.1 hg.2) (fun _ => rfl) ?_
  simp (config := {maxSteps := 1000000}) (disch := omega) only [go_sem, i64_in]
  intro nx4 lv4 q1 q2
  clear q1 q2
  have hlow : lowF s x g = max 0 (x.v - (s.brake + g)) := rfl
  have hsp : speedF s way x fin top = findW (fitAt s way x fin) (lowF s x g) (min (x.v + gainF s x.v g) top) := by unfold speedF; rw [hG]
  have hnext : nextF s way x fin top = movedF s x (speedF s way x fin top) g := by unfold nextF; rw [hG]
  refine AW_loopS [13, 33, 34, 35, 36, 37, 38, 39, 40, 41, 42, 43, 44, 45, 46, 47, 48, 49, 50, 51, 52, 53, 54, 55, 56, 57, 58, 59, 60, 61, 62]
    (fun (u : Int) ρ m => ρ 13 = .int .i64 u ∧ -10000 ≤ u ∧ u ≤ 6000 ∧ findW (fitAt s way x fin) (lowF s x g) u = speedF s way x fin top ∧
      ∃ nx' lv', m = ⟨[(5, 0, sBox s), (7, 0, [.int .i64 x.pos, .int .i64 x.v, .int .i64 x.work]), (10, 0, [.int .i64 0, .int .i64 0, .int .i64 0])], [], nx', lv'⟩) (fun u => (u - lowF s x g + 1).toNat) (min (x.v + gainF s x.v g) top) ?_ ?_
  · simp only [go_sem, sBox, sCells]
    exact ⟨by omega, by omega, hsp.symm, _, _, rfl⟩
  · rintro u ρ m ⟨e8, g1, g2, g3, nx5, lv5, rfl⟩
    by_cases hlu : lowF s x g ≤ u
    · have hlu' : (max 0 (x.v - (s.brake + g)) ≤ u) = True := by rw [← hlow]; simp [hlu]
      have hgb : 0 ≤ goneF x.v u ∧ goneF x.v u ≤ 6000 := gone_bd v0 v1 (by omega) g2
      unfold goneF at hgb
      simp (config := {maxSteps := 1000000}) (disch := omega) only [go_sem, sBox, sCells, i64_in, tdiv2, e8, hlu']
      refine callV (f79 s way (x.pos - 100 * s.len) (x.pos + (x.v + u + 1) / 2) fin u hc hw hl (by omega) g2 (by omega) (by omega) (by omega) (by omega) h7 (by omega)) ?_
      intro nx6 lv6
      simp (config := {maxSteps := 1000000}) (disch := omega) only [go_sem, sBox, sCells, i64_in]
      refine ⟨fun hyes => ?_, fun hno => ⟨by kernel_rfl, u - 1, ?_, by simp only; omega⟩⟩
      · have hmx : u = speedF s way x fin top := by
          rw [← g3, findW_hit hlu (show fitAt s way x fin u = true from hyes)]
        refine callV (f80 s x u g k hc hx' hk0 hk1 (by omega) g2 hg.1 hg.2) ?_
        intro nx7 lv7
        simp (config := {maxSteps := 1000000}) (disch := omega) only [go_sem, eSta]
        rw [hnext, ← hmx]
        exact ⟨rfl, rfl, rfl⟩
      · simp only [go_sem, sBox, sCells]
        refine ⟨by omega, by omega, ?_, _, _, rfl⟩
        rw [← findW_step hlu (show fitAt s way x fin u = false from hno)]; exact g3
    · have hlu' : (max 0 (x.v - (s.brake + g)) ≤ u) = False := by rw [← hlow]; simp; omega
      simp (config := {maxSteps := 1000000}) (disch := omega) only [go_sem, sBox, sCells, i64_in, e8, hlu']
      have hmx : max 0 (x.v - (s.brake + g)) = speedF s way x fin top := by
        rw [← g3, findW_end hlu, ← hlow]
      rw [hmx]
      refine callV (f80 s x (speedF s way x fin top) g k hc hx' hk0 hk1 hsb.1 hsb.2 hg.1 hg.2) ?_
      intro nx7 lv7
      simp (config := {maxSteps := 1000000}) (disch := omega) only [go_sem, eSta]
      rw [hnext]
      exact ⟨rfl, rfl, rfl⟩
end Go.Proofs.Ytalneemgdjkcdaa
