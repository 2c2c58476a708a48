/- Contracts of Pull, Gain and of the reference; the law RunPulls over them, for all stocks and numbers. -/
import Derived.Test.YthbdjgjpocfneaaC3
namespace Go.Proofs.Ythbdjgjpocfneaa
open Go.AB

def pullF (s : Stock) (v : Int) : Int := if v = 0 then s.start else min s.start (s.power / v)
def gainF (s : Stock) (v g : Int) : Int := pullF s v - s.roll - v * v / s.drag - g

theorem div_bd {a b : Int} (ha : 0 ≤ a) (hb : 0 ≤ b) : 0 ≤ a / b ∧ a / b ≤ a := ⟨Int.ediv_nonneg ha hb, Int.ediv_le_self b ha⟩
theorem sq_bd {v : Int} (h1 : 0 ≤ v) (h2 : v ≤ 6000) : 0 ≤ v * v ∧ v * v ≤ 36000000 :=
  ⟨Int.mul_nonneg h1 h1, Int.le_trans (Int.mul_le_mul h2 h2 h1 (by omega)) (by omega)⟩
theorem tdivE {a b : Int} (h : 0 ≤ a) : a.tdiv b = a / b := Int.tdiv_eq_ediv_of_nonneg h

theorem f74 (s : Stock) (v : Int) (hc : checkS s = 0) (h1 : 0 ≤ v) (h2 : v ≤ 6000) : PCall Try.prog 74 [eStock s, .int .i64 v] (RV (.int .i64 (pullF s v))) := by
  refine PCall.of_body Try.func74 rfl Try.ntmps74 (congrArg Array.toList Try.results74) ?_
  intro E
  simp only [go_sem, eStock]
  have hk := checkS_ok hc
  have hd := div_bd (a := s.power) (b := v) (by omega) h1
  refine ⟨fun h0 => by simp [pullF, h0], fun h0 => ?_⟩
  refine drawn (by kernel_rfl) (by kernel_rfl) ?_
  simp (disch := omega) only [go_sem, i64_in, tdivE]
  exact ⟨h0, fun _ _ => by simp [pullF, h0]⟩

theorem f45 (s : Stock) (v : Int) (hc : checkS s = 0) (h1 : 0 ≤ v) (h2 : v ≤ 6000) : PCall Try.prog 45 [eStock s, .int .i64 v] (RV (.int .i64 (pullF s v))) := by
  refine PCall.of_body Try.func45 rfl Try.ntmps45 (congrArg Array.toList Try.results45) ?_
  intro E
  simp only [go_sem, eStock]
  have hk := checkS_ok hc
  have hd := div_bd (a := s.power) (b := v) (by omega) h1
  refine ⟨fun h0 => by simp [pullF, h0], fun h0 => ?_⟩
  refine drawn (by kernel_rfl) (by kernel_rfl) ?_
  simp (disch := omega) only [go_sem, i64_in, tdivE]
  exact ⟨h0, fun _ _ => by simp [pullF, h0]⟩

theorem pull_bd (s : Stock) (v : Int) (hc : checkS s = 0) (h1 : 0 ≤ v) : 0 ≤ pullF s v ∧ pullF s v ≤ 150 := by
  have hk := checkS_ok hc
  have hd := div_bd (a := s.power) (b := v) (by omega) h1
  unfold pullF
  split <;> omega

theorem f75 (s : Stock) (v g : Int) (hc : checkS s = 0) (h1 : 0 ≤ v) (h2 : v ≤ 6000) (h3 : -40 ≤ g) (h4 : g ≤ 40) : PCall Try.prog 75 [eStock s, .int .i64 v, .int .i64 g] (RV (.int .i64 (gainF s v g))) := by
  refine PCall.of_body Try.func75 rfl Try.ntmps75 (congrArg Array.toList Try.results75) ?_
  intro E
  simp only [go_sem, eStock]
  have hk := checkS_ok hc
  have hp := pull_bd s v hc h1
  have hv := sq_bd h1 h2
  have hd := div_bd (a := v * v) (b := s.drag) (by omega) (by omega)
  refine drawn (by kernel_rfl) (by kernel_rfl) ?_
  simp only [go_sem]
  refine quietD (f74 s v hc h1 h2) (fun _ => rfl) ?_
  simp (disch := omega) only [go_sem, i64_in, tdivE]
  exact ⟨by omega, fun _ _ => by simp [gainF]⟩

theorem f46 (s : Stock) (v g : Int) (hc : checkS s = 0) (h1 : 0 ≤ v) (h2 : v ≤ 6000) (h3 : -40 ≤ g) (h4 : g ≤ 40) : PCall Try.prog 46 [eStock s, .int .i64 v, .int .i64 g] (RV (.int .i64 (gainF s v g))) := by
  refine PCall.of_body Try.func46 rfl Try.ntmps46 (congrArg Array.toList Try.results46) ?_
  intro E
  simp only [go_sem, eStock]
  have hk := checkS_ok hc
  have hp := pull_bd s v hc h1
  have hv := sq_bd h1 h2
  have hd := div_bd (a := v * v) (b := s.drag) (by omega) (by omega)
  refine drawn (by kernel_rfl) (by kernel_rfl) ?_
  simp only [go_sem]
  refine quietD (f45 s v hc h1 h2) (fun _ => rfl) ?_
  simp (disch := omega) only [go_sem, i64_in, tdivE]
  exact ⟨by omega, fun _ _ => by simp [gainF]⟩

theorem speed_one {s : Stock} {v : Int} : speedErr s [v] = if checkS s = 0 then (if inTop v = true then 0 else 2) else checkS s := by
  simp [speedErr]
def pullVal (s : Stock) (v : Int) : Int := if speedErr s [v] = 0 then pullF s v else 0
def gainErr (s : Stock) (v g : Int) : Int := if speedErr s [v] = 0 then (if within g (-40) 40 = true then 0 else 2) else speedErr s [v]
def gainVal (s : Stock) (v g : Int) : Int := if gainErr s v g = 0 then gainF s v g else 0

set_option maxRecDepth 10000 in
theorem f43 (s : Stock) (v : Int) (hs : s.name.length ≤ 140737488351232) : PCall Try.prog 43 [eStock s, .int .i64 v] (RV (.tup [.int .i64 (pullVal s v), .int .i64 (speedErr s [v])])) := by
  refine PCall.of_body Try.func43 rfl Try.ntmps43 (congrArg Array.toList Try.results43) ?_
  intro E
  simp only [go_sem, eStock]
  refine callV (f24 s hs) ?_
  intro nx lv
  simp only [go_sem]
  refine ⟨fun h => ?_, fun h => callV (f69 _ _ _) ?_⟩
  · simp [pullVal, speed_one, h]
  intro nx lv
  simp only [go_sem]
  refine ⟨fun h1 => ?_, fun h1 => ?_⟩
  · simp [pullVal, speed_one, inTop, h, h1]
  have h1' := h1
  simp only [within, Bool.and_eq_true, decide_eq_true_eq] at h1'
  refine callV (f74 s v h h1'.1 h1'.2) ?_
  intro nx lv
  simp only [go_sem]
  simp [pullVal, speed_one, inTop, h, h1]

set_option maxRecDepth 10000 in
theorem f44 (s : Stock) (v g : Int) (hs : s.name.length ≤ 140737488351232) : PCall Try.prog 44 [eStock s, .int .i64 v, .int .i64 g] (RV (.tup [.int .i64 (gainVal s v g), .int .i64 (gainErr s v g)])) := by
  refine PCall.of_body Try.func44 rfl Try.ntmps44 (congrArg Array.toList Try.results44) ?_
  intro E
  simp only [go_sem, eStock]
  refine callV (f24 s hs) ?_
  intro nx lv
  simp only [go_sem]
  refine ⟨fun h => ?_, fun h => callV (f69 _ _ _) ?_⟩
  · simp [gainVal, gainErr, speed_one, h]
  intro nx lv
  simp only [go_sem]
  refine ⟨fun h1 => ?_, fun h1 => callV (f69 _ _ _) ?_⟩
  · simp [gainVal, gainErr, speed_one, inTop, h, h1]
  intro nx lv
  simp only [go_sem]
  refine ⟨fun h2 => ?_, fun h2 => ?_⟩
  · simp [gainVal, gainErr, speed_one, inTop, h, h1, h2]
  have h1' := h1
  have h2' := h2
  simp only [within, Bool.and_eq_true, decide_eq_true_eq] at h1' h2'
  refine callV (f75 s v g h h1'.1 h1'.2 h2'.1 h2'.2) ?_
  intro nx lv
  simp only [go_sem]
  simp [gainVal, gainErr, speed_one, inTop, h, h1, h2]

set_option maxHeartbeats 4000000 in
set_option maxRecDepth 20000 in
theorem f12 (s : Stock) (v g : Int) (hs : s.name.length ≤ 140737488351232) : PCall Try.prog 12 [eStock s, .int .i64 v, .int .i64 g] (RV (.bool true)) := by
  refine PCall.of_body Try.func12 rfl Try.ntmps12 (congrArg Array.toList Try.results12) ?_
  intro E
  simp only [go_sem, eStock]
  refine callV (f43 s v hs) ?_
  intro nx lv
  simp only [go_sem]
  refine callV (f44 s v g hs) ?_
  intro nx lv
  simp only [go_sem]
  refine callV (f34 s [v] hs (by simp)) ?_
  intro nx lv
  by_cases h1 : speedErr s [v] = 0
  · obtain ⟨hc, hv⟩ := speedErr_ok h1
    simp only [List.mem_singleton, forall_eq] at hv
    by_cases h2 : within g (-40) 40 = true
    · have hg := h2
      simp only [within, Bool.and_eq_true, decide_eq_true_eq] at hg
      have g1 : (g < -40) = False := by simp; omega
      have g2 : (40 < g) = False := by simp; omega
      simp only [go_sem, h1, g1, g2]
      refine callV (f45 s v hc hv.1 hv.2) ?_
      intro nx lv
      simp only [go_sem]
      refine callV (f46 s v g hc hv.1 hv.2 hg.1 hg.2) ?_
      intro nx lv
      simp only [go_sem]
      refine callV (told (by simp [pullVal, h1]) rfl) ?_
      intro nx lv
      simp only [go_sem]
      refine callV (told (by simp [gainVal, gainErr, h1, h2]) (by simp [gainErr, h1, h2])) ?_
      intro nx lv
      simp only [go_sem]
    · have h2' : within g (-40) 40 = false := by simpa using h2
      have fin : gainErr s v g = 2 := by simp [gainErr, h1, h2]
      have hor : g < -40 ∨ 40 < g := by
        simp only [within, Bool.and_eq_true, decide_eq_true_eq] at h2
        omega
      rcases hor with hg | hg
      · have g1 : (g < -40) = True := by simp; omega
        simp only [go_sem, h1, g1]
        refine callV (f45 s v hc hv.1 hv.2) ?_
        intro nx lv
        simp only [go_sem]
        refine callV (told (by simp [pullVal, h1]) rfl) ?_
        intro nx lv
        simp only [go_sem]
        refine callV (told (by simp [gainVal, fin]) fin) ?_
        intro nx lv
        simp only [go_sem]
      · have g1 : (g < -40) = False := by simp; omega
        have g2 : (40 < g) = True := by simp; omega
        simp only [go_sem, h1, g1, g2]
        refine callV (f45 s v hc hv.1 hv.2) ?_
        intro nx lv
        simp only [go_sem]
        refine callV (told (by simp [pullVal, h1]) rfl) ?_
        intro nx lv
        simp only [go_sem]
        refine callV (told (by simp [gainVal, fin]) fin) ?_
        intro nx lv
        simp only [go_sem]
  · have fin : gainErr s v g = speedErr s [v] := by simp [gainErr, h1]
    simp only [go_sem, h1]
    refine callV (told (by simp [pullVal, h1]) rfl) ?_
    intro nx lv
    simp only [go_sem]
    refine callV (told (by simp [gainVal, fin, h1]) fin) ?_
    intro nx lv
    simp only [go_sem]

theorem law12 (xs : List DV) (h : ElDs Try.prog [40, 3, 3] xs) : PCall Try.prog 12 (xs.map toAV) (RV (.bool true)) := by
  obtain ⟨x, xs, rfl, hx, h⟩ := h.cons_inv
  obtain ⟨y, xs, rfl, hy, h⟩ := h.cons_inv
  obtain ⟨z, xs, rfl, hz, h⟩ := h.cons_inv
  cases h.nil_inv
  obtain ⟨s, rfl, hs, _⟩ := openStock hx
  obtain ⟨v, rfl, _⟩ := hy.int_inv Try.underlying3
  obtain ⟨t, rfl, _⟩ := hz.int_inv Try.underlying3
  simp only [List.map_cons, List.map_nil, eStock_eq, toAV]
  exact f12 s v t hs
end Go.Proofs.Ythbdjgjpocfneaa
