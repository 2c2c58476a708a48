/- Contracts of Allowed, Ask and of the reference; the law RunAllows over them, for all stocks and numbers. -/
import Derived.Test.YthbdjgjpocfneaaC4
namespace Go.Proofs.Ythbdjgjpocfneaa
open Go.AB

theorem into_nonneg (d t v : Int) (h0 : 0 ≤ t) : 0 ≤ into d t v := by
  unfold into
  split
  · have ih := into_nonneg d t (max t (v - d)) h0
    unfold goneF
    omega
  · omega
termination_by (v - t).toNat
decreasing_by omega

theorem into_mono (d t v v' : Int) (h0 : 0 ≤ t) (hd : 0 < d) (h : v ≤ v') : into d t v ≤ into d t v' := by
  by_cases hv : t < v
  · rw [into_step hv hd, into_step (show t < v' by omega) hd]
    have ih := into_mono d t (max t (v - d)) (max t (v' - d)) h0 hd (by omega)
    have : goneF v (max t (v - d)) ≤ goneF v' (max t (v' - d)) := by unfold goneF; omega
    omega
  · rw [into_end hv]; exact into_nonneg d t v' h0
termination_by (v' - t).toNat
decreasing_by omega

def allowF (d t left v : Int) : Int := if left < into d t v ∧ t < v then allowF d t left (v - 1) else v
termination_by (v - t).toNat
decreasing_by omega

theorem allowF_le (d t left v : Int) : allowF d t left v ≤ v := by
  unfold allowF
  split
  · have := allowF_le d t left (v - 1); omega
  · omega
termination_by (v - t).toNat
decreasing_by omega
theorem allowF_in (d t left v : Int) (hl : 0 ≤ left) : into d t (allowF d t left v) ≤ left := by
  rw [allowF]
  split
  · exact allowF_in d t left (v - 1) hl
  · rename_i h
    by_cases hv : t < v
    · exact Int.not_lt.1 (fun hh => h ⟨hh, hv⟩)
    · rw [into_end hv]; exact hl
termination_by (v - t).toNat
decreasing_by omega
theorem allowF_out (d t left v w : Int) (h1 : allowF d t left v < w) (h2 : w ≤ v) : left < into d t w := by
  rw [allowF] at h1
  split at h1
  · rename_i h
    by_cases hw : w = v
    · rw [hw]; exact h.1
    · exact allowF_out d t left (v - 1) w h1 (by omega)
  · omega
termination_by (v - t).toNat
decreasing_by omega
theorem allowF_ge (d t left v w : Int) (hl : 0 ≤ left) (h1 : w ≤ v) (h2 : w ≤ t) : w ≤ allowF d t left v := by
  rcases (show allowF d t left v < w ∨ w ≤ allowF d t left v by omega) with h | h
  · have := allowF_out d t left v w h h1
    rw [into_end (by omega)] at this
    omega
  · exact h

def cellsS (s : Stock) : List AV := [.str s.name, .int .i64 s.len, .int .i64 s.mass, .int .i64 s.start, .int .i64 s.power, .int .i64 s.roll, .int .i64 s.drag, .int .i64 s.brake, .int .i64 s.top, .int .i64 s.seats]

set_option maxRecDepth 10000 in
theorem f55 (s : Stock) (left t : Int) (hc : checkS s = 0) (hl : 0 ≤ left) (h3 : 0 ≤ t) (h4 : t ≤ 6000) : PCall Try.prog 55 [eStock s, .int .i64 left, .int .i64 t] (RV (.int .i64 (allowF (s.brake - 40) t left s.top))) := by
  refine PCall.of_body Try.func55 rfl Try.ntmps55 (congrArg Array.toList Try.results55) ?_
  intro E
  simp only [go_sem, eStock]
  have hk := checkS_ok hc
  have hlow := allowF_ge (s.brake - 40) t left s.top (min t s.top) hl (by omega) (by omega)
  refine AW_loopS [7, 10, 11, 12, 13, 14, 15, 16, 17] (fun (x : Int) ρ m => ρ 7 = .int .i64 x ∧ (∃ nx lv, m = ⟨[(3, 0, cellsS s)], [], nx, lv⟩) ∧ x ≤ s.top ∧ allowF (s.brake - 40) t left x = allowF (s.brake - 40) t left s.top) (fun x => x.toNat) s.top ?_ ?_
  · simp only [go_sem, cellsS]
    exact ⟨⟨_, _, rfl⟩, by omega⟩
  · rintro u ρ m ⟨e7, ⟨nx, lv, rfl⟩, g1, g2⟩
    have hle := allowF_le (s.brake - 40) t left u
    have hin := allowF_in (s.brake - 40) t left u hl
    simp (disch := omega) only [go_sem, e7, i64_in, cellsS]
    refine callV (f36 s u t (by omega) (by omega) h3 h4 (by omega) (by omega)) ?_
    intro nx lv
    simp (disch := omega) only [go_sem, i64_in]
    refine ⟨fun hlt => ?_, fun hge => ?_⟩
    · have htu : t < u := by
        rcases (show t < u ∨ u ≤ t by omega) with h | h
        · exact h
        · rw [into_end (by omega)] at hlt; omega
      have hst : allowF (s.brake - 40) t left u = allowF (s.brake - 40) t left (u - 1) := by rw [allowF, if_pos ⟨hlt, htu⟩]
      refine ⟨by kernel_rfl, u - 1, ?_, by simp only; omega⟩
      simp only [go_sem]
      exact ⟨⟨_, _, rfl⟩, by omega, by omega⟩
    · have hst : allowF (s.brake - 40) t left u = u := by rw [allowF, if_neg (fun h => hge h.1)]
      omega

def allowErr (s : Stock) (left t : Int) : Int := if checkS s = 0 then (if left < 0 ∨ ¬ inTop t = true then 2 else 0) else checkS s
def allowVal (s : Stock) (left t : Int) : Int := if allowErr s left t = 0 then allowF (s.brake - 40) t left s.top else 0

set_option maxRecDepth 10000 in
theorem f52 (s : Stock) (left t : Int) (hs : s.name.length ≤ 140737488351232) : PCall Try.prog 52 [eStock s, .int .i64 left, .int .i64 t] (RV (.tup [.int .i64 (allowVal s left t), .int .i64 (allowErr s left t)])) := by
  refine PCall.of_body Try.func52 rfl Try.ntmps52 (congrArg Array.toList Try.results52) ?_
  intro E
  simp only [go_sem, eStock]
  refine callV (f24 s hs) ?_
  intro nx lv
  simp only [go_sem]
  refine ⟨fun h => ?_, fun h => ?_⟩
  · simp [allowVal, allowErr, h]
  refine ⟨fun h1 => ?_, fun h1 => callV (f69 _ _ _) ?_⟩
  · simp [allowVal, allowErr, h, h1]
  intro nx lv
  simp only [go_sem]
  refine ⟨fun h2 => ?_, fun h2 => ?_⟩
  · simp [allowVal, allowErr, inTop, h, h2]
  have h2' := h2
  simp only [within, Bool.and_eq_true, decide_eq_true_eq] at h2'
  have hk := checkS_ok h
  have hlow := allowF_ge (s.brake - 40) t left s.top (min t s.top) (by omega) (by omega) (by omega)
  have hhigh := allowF_le (s.brake - 40) t left s.top
  have hin := allowF_in (s.brake - 40) t left s.top (by omega)
  have hv : allowVal s left t = allowF (s.brake - 40) t left s.top := by simp [allowVal, allowErr, inTop, h, h1, h2]
  have he : allowErr s left t = 0 := by simp [allowErr, inTop, h, h1, h2]
  refine drawn (by kernel_rfl) (by kernel_rfl) ?_
  simp only [go_sem]
  intro nx lv _ _
  refine AW_loopS [9, 10, 11, 30, 31, 32, 33, 34, 35, 36, 37, 38, 39, 40, 41, 42, 43, 44, 45, 46] (fun (x : Int × Int) ρ m => ρ 9 = .int .i64 x.1 ∧ ρ 10 = .int .i64 x.2 ∧ (∃ nx lv, m = ⟨[(3, 0, cellsS s)], [], nx, lv⟩) ∧ 0 ≤ x.1 ∧ x.2 ≤ s.top ∧ x.1 ≤ allowF (s.brake - 40) t left s.top ∧ allowF (s.brake - 40) t left s.top ≤ x.2) (fun x => (x.2 - x.1).toNat) (min t s.top, s.top) ?_ ?_
  · simp only [go_sem, cellsS]
    exact ⟨⟨_, _, rfl⟩, by omega⟩
  · rintro ⟨lo, hi⟩ ρ m ⟨e9, e10, ⟨nx, lv, rfl⟩, g0, g1, g2, g3⟩
    dsimp only at e9 e10 g0 g1 g2 g3
    simp (disch := omega) only [go_sem, e9, e10, i64_in, cellsS, tdiv2]
    refine ⟨fun hlt => callV (into72 s _ t (by omega) (by omega) h2'.1 h2'.2 (by omega) (by omega)) ?_, fun hge => ?_⟩
    · intro nx lv
      have hmono := into_mono (s.brake - 40) t ((lo + hi + 1) / 2) (allowF (s.brake - 40) t left s.top) (by omega) (by omega)
      have hout := allowF_out (s.brake - 40) t left s.top ((lo + hi + 1) / 2)
      simp (disch := omega) only [go_sem, i64_in]
      refine ⟨fun h5 => ?_, fun h5 => ?_⟩
      · refine ⟨by kernel_rfl, ((lo + hi + 1) / 2, hi), ?_, by simp only; omega⟩
        simp only [go_sem]
        refine ⟨⟨_, _, rfl⟩, ?_⟩
        omega
      · refine ⟨by kernel_rfl, (lo, (lo + hi + 1) / 2 - 1), ?_, by simp only; omega⟩
        simp only [go_sem]
        refine ⟨⟨_, _, rfl⟩, ?_⟩
        omega
    · refine ⟨?_, he.symm⟩
      omega

def askF (s : Stock) : Int := into (s.brake - 40) 0 s.top + s.top * 16
theorem f78 (s : Stock) (hc : checkS s = 0) : PCall Try.prog 78 [eStock s] (RV (.int .i64 (askF s))) := by
  refine PCall.of_body Try.func78 rfl Try.ntmps78 (congrArg Array.toList Try.results78) ?_
  intro E
  simp only [go_sem, eStock]
  have hk := checkS_ok hc
  have hb := into_bd (s.brake - 40) 0 s.top (by omega) (by omega) (by omega)
  refine drawn (by kernel_rfl) (by kernel_rfl) ?_
  simp only [go_sem]
  refine quietD (into72 s s.top 0 (by omega) (by omega) (by omega) (by omega) (by omega) (by omega)) (fun _ => rfl) ?_
  simp (disch := omega) only [go_sem, i64_in]
  intros
  rfl
theorem f54 (s : Stock) (hc : checkS s = 0) : PCall Try.prog 54 [eStock s] (RV (.int .i64 (askF s))) := by
  refine PCall.of_body Try.func54 rfl Try.ntmps54 (congrArg Array.toList Try.results54) ?_
  intro E
  simp only [go_sem, eStock]
  have hk := checkS_ok hc
  have hb := into_bd (s.brake - 40) 0 s.top (by omega) (by omega) (by omega)
  refine drawn (by kernel_rfl) (by kernel_rfl) ?_
  simp only [go_sem]
  refine quietD (f35 s s.top (by omega) (by omega) (by omega) (by omega)) (fun _ => rfl) ?_
  simp (disch := omega) only [go_sem, i64_in]
  intros
  rfl
def askVal (s : Stock) : Int := if checkS s = 0 then askF s else 0
theorem f53 (s : Stock) (hs : s.name.length ≤ 140737488351232) : PCall Try.prog 53 [eStock s] (RV (.tup [.int .i64 (askVal s), .int .i64 (checkS s)])) := by
  refine PCall.of_body Try.func53 rfl Try.ntmps53 (congrArg Array.toList Try.results53) ?_
  intro E
  simp only [go_sem, eStock]
  refine callV (f24 s hs) ?_
  intro nx lv
  simp only [go_sem]
  refine ⟨fun h => by simp [askVal, h], fun h => callV (f78 s h) ?_⟩
  intro nx lv
  simp only [go_sem]
  simp [askVal, h]

set_option maxHeartbeats 4000000 in
set_option maxRecDepth 20000 in
theorem f15 (s : Stock) (left t : Int) (hs : s.name.length ≤ 140737488351232) : PCall Try.prog 15 [eStock s, .int .i64 left, .int .i64 t] (RV (.bool true)) := by
  refine PCall.of_body Try.func15 rfl Try.ntmps15 (congrArg Array.toList Try.results15) ?_
  intro E
  simp only [go_sem, eStock]
  refine callV (f52 s left t hs) ?_
  intro nx lv
  simp only [go_sem]
  refine callV (f53 s hs) ?_
  intro nx lv
  simp only [go_sem]
  refine callV (f25 s hs) ?_
  intro nx lv
  by_cases hc : checkS s = 0
  · by_cases h1 : left < 0
    · have he : allowErr s left t = 2 := by simp [allowErr, hc, h1]
      have h1' : (left < 0) = True := by simp [h1]
      simp only [go_sem, hc, h1']
      refine callV (f54 s hc) ?_
      intro nx lv
      simp only [go_sem]
      refine callV (told (by simp [allowVal, he]) he) ?_
      intro nx lv
      simp only [go_sem]
      refine callV (told (by simp [askVal, hc]) rfl) ?_
      intro nx lv
      simp only [go_sem]
    have h1' : (left < 0) = False := by simp [h1]
    by_cases h2 : t < 0
    · have he : allowErr s left t = 2 := by simp [allowErr, hc, inTop, within]; omega
      have h2' : (t < 0) = True := by simp [h2]
      simp only [go_sem, hc, h1', h2']
      refine callV (f54 s hc) ?_
      intro nx lv
      simp only [go_sem]
      refine callV (told (by simp [allowVal, he]) he) ?_
      intro nx lv
      simp only [go_sem]
      refine callV (told (by simp [askVal, hc]) rfl) ?_
      intro nx lv
      simp only [go_sem]
    have h2' : (t < 0) = False := by simp [h2]
    by_cases h3 : 6000 < t
    · have he : allowErr s left t = 2 := by simp [allowErr, hc, inTop, within]; omega
      have h3' : (6000 < t) = True := by simp [h3]
      simp only [go_sem, hc, h1', h2', h3']
      refine callV (f54 s hc) ?_
      intro nx lv
      simp only [go_sem]
      refine callV (told (by simp [allowVal, he]) he) ?_
      intro nx lv
      simp only [go_sem]
      refine callV (told (by simp [askVal, hc]) rfl) ?_
      intro nx lv
      simp only [go_sem]
    · have h3' : (6000 < t) = False := by simp [h3]
      have he : allowErr s left t = 0 := by simp [allowErr, hc, inTop, within]; omega
      simp only [go_sem, hc, h1', h2', h3']
      refine callV (f54 s hc) ?_
      intro nx lv
      simp only [go_sem]
      refine callV (f55 s left t hc (by omega) (by omega) (by omega)) ?_
      intro nx lv
      simp only [go_sem]
      refine callV (told (by simp [allowVal, he]) he) ?_
      intro nx lv
      simp only [go_sem]
      refine callV (told (by simp [askVal, hc]) rfl) ?_
      intro nx lv
      simp only [go_sem]
  · have he : allowErr s left t = checkS s := by simp [allowErr, hc]
    simp only [go_sem, hc]
    refine callV (told (by simp [allowVal, he, hc]) he) ?_
    intro nx lv
    simp only [go_sem]
    refine callV (told (by simp [askVal, hc]) rfl) ?_
    intro nx lv
    simp only [go_sem]

theorem law15 (xs : List DV) (h : ElDs Try.prog [40, 3, 3] xs) : PCall Try.prog 15 (xs.map toAV) (RV (.bool true)) := by
  obtain ⟨x, xs, rfl, hx, h⟩ := h.cons_inv
  obtain ⟨y, xs, rfl, hy, h⟩ := h.cons_inv
  obtain ⟨z, xs, rfl, hz, h⟩ := h.cons_inv
  cases h.nil_inv
  obtain ⟨s, rfl, hs, _⟩ := openStock hx
  obtain ⟨v, rfl, _⟩ := hy.int_inv Try.underlying3
  obtain ⟨t, rfl, _⟩ := hz.int_inv Try.underlying3
  simp only [List.map_cons, List.map_nil, eStock_eq, toAV]
  exact f15 s v t hs
end Go.Proofs.Ythbdjgjpocfneaa
