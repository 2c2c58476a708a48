/- Contracts of Stop, Into and of the reference; the law RunStops over them, for all stocks and numbers. -/
import Derived.Test.YthbdjgjpocfneaaC2
namespace Go.Proofs.Ythbdjgjpocfneaa
open Go.AB

def goneF (v w : Int) : Int := (v + w + 1) / 2
theorem tdiv2 {x : Int} (h : 0 ≤ x) : x.tdiv 2 = x / 2 := Int.tdiv_eq_ediv_of_nonneg h

theorem gone85 (v w : Int) (h1 : 0 ≤ v) (h2 : v ≤ 1000000) (h3 : 0 ≤ w) (h4 : w ≤ 1000000) : PCall Try.prog 85 [.int .i64 v, .int .i64 w] (RV (.int .i64 (goneF v w))) := by
  refine PCall.of_body Try.func85 rfl Try.ntmps85 (congrArg Array.toList Try.results85) ?_
  intro E
  simp (disch := omega) only [go_sem, i64_in, tdiv2]
  simp [goneF]

def into (d t v : Int) : Int := if h : t < v ∧ 0 < d then goneF v (max t (v - d)) + into d t (max t (v - d)) else 0
termination_by (v - t).toNat
decreasing_by omega

theorem into_bd (d t v : Int) (h0 : 0 ≤ t) (hd : 0 < d) (hv : v ≤ 6000) : 0 ≤ into d t v ∧ into d t v ≤ 6001 * (v - t).toNat := by
  unfold into
  split
  · rename_i h
    have ih := into_bd d t (max t (v - d)) h0 hd (by omega)
    unfold goneF
    omega
  · omega
termination_by (v - t).toNat
decreasing_by omega

theorem into_step {d t v : Int} (h : t < v) (hd : 0 < d) : into d t v = goneF v (max t (v - d)) + into d t (max t (v - d)) := by
  rw [into, dif_pos ⟨h, hd⟩]
theorem into_end {d t v : Int} (h : ¬ t < v) : into d t v = 0 := by
  rw [into, dif_neg (fun x => h x.1)]

set_option maxRecDepth 10000 in
theorem into72 (s : Stock) (v t : Int) (h1 : 0 ≤ v) (h2 : v ≤ 6000) (h3 : 0 ≤ t) (h4 : t ≤ 6000) (h5 : 60 ≤ s.brake) (h6 : s.brake ≤ 150) : PCall Try.prog 72 [eStock s, .int .i64 v, .int .i64 t] (RV (.int .i64 (into (s.brake - 40) t v))) := by
  refine PCall.of_body Try.func72 rfl Try.ntmps72 (congrArg Array.toList Try.results72) ?_
  intro E
  simp only [go_sem, eStock]
  have hb := into_bd (s.brake - 40) t v h3 (by omega) h2
  refine AW_loopS [1, 7, 8, 9, 10, 11, 12, 13, 14, 15, 16, 17, 18, 19, 20, 21, 22, 23, 24] (fun (x : Int × Int) ρ m => ρ 1 = .int .i64 x.1 ∧ ρ 7 = .int .i64 x.2 ∧ (∃ nx lv, m = ⟨[(3, 0, [.str s.name, .int .i64 s.len, .int .i64 s.mass, .int .i64 s.start, .int .i64 s.power, .int .i64 s.roll, .int .i64 s.drag, .int .i64 s.brake, .int .i64 s.top, .int .i64 s.seats])], [], nx, lv⟩) ∧ 0 ≤ x.1 ∧ x.1 ≤ 6000 ∧ 0 ≤ x.2 ∧ x.2 + into (s.brake - 40) t x.1 = into (s.brake - 40) t v) (fun x => x.1.toNat) (v, 0) ?_ ?_
  · simp only [go_sem]
    refine ⟨⟨_, _, rfl⟩, ?_⟩
    omega
  · rintro ⟨u, n⟩ ρ m ⟨e1, e7, ⟨nx, lv, rfl⟩, g1, g2, g3, g4⟩
    dsimp only at e1 e7 g1 g2 g3 g4
    have hd := into_bd (s.brake - 40) t u h3 (by omega) g2
    simp (disch := omega) only [go_sem, e1, e7, i64_in]
    refine ⟨fun hlt => callV (gone85 _ _ (by omega) (by omega) (by omega) (by omega)) ?_, fun hge => ?_⟩
    · intro nx2 lv2
      have ei := into_step hlt (d := s.brake - 40) (by omega)
      have hd2 := into_bd (s.brake - 40) t (max t (u - (s.brake - 40))) h3 (by omega) (by omega)
      have hg : 0 ≤ goneF u (max t (u - (s.brake - 40))) := by unfold goneF; omega
      simp (disch := omega) only [go_sem, i64_in]
      refine ⟨by kernel_rfl, (max t (u - (s.brake - 40)), n + goneF u (max t (u - (s.brake - 40)))), ?_, ?_⟩
      · simp only [go_sem]
        exact ⟨⟨_, _, rfl⟩, by omega⟩
      · simp only; omega
    · have ei := into_end hge (d := s.brake - 40)
      omega

theorem f73 (s : Stock) (h5 : 60 ≤ s.brake) (h6 : s.brake ≤ 150) : PCall Try.prog 73 [eStock s] (RV (.int .i64 (s.brake - 40))) := by
  refine PCall.of_body Try.func73 rfl Try.ntmps73 (congrArg Array.toList Try.results73) ?_
  intro E
  simp (disch := omega) only [go_sem, eStock, i64_in]

set_option maxRecDepth 10000 in
theorem f36 (s : Stock) (v t : Int) (h1 : 0 ≤ v) (h2 : v ≤ 6000) (h3 : 0 ≤ t) (h4 : t ≤ 6000) (h5 : 60 ≤ s.brake) (h6 : s.brake ≤ 150) : PCall Try.prog 36 [eStock s, .int .i64 v, .int .i64 t] (RV (.int .i64 (into (s.brake - 40) t v))) := by
  refine PCall.of_body Try.func36 rfl Try.ntmps36 (congrArg Array.toList Try.results36) ?_
  intro E
  simp only [go_sem, eStock]
  have hb := into_bd (s.brake - 40) t v h3 (by omega) h2
  refine AW_loopS [1, 7, 8, 9, 10, 11, 12, 13, 14, 15, 16, 17, 18, 19, 20, 21, 22, 23, 24, 25] (fun (x : Int × Int) ρ m => ρ 1 = .int .i64 x.1 ∧ ρ 7 = .int .i64 x.2 ∧ (∃ nx lv, m = ⟨[(3, 0, [.str s.name, .int .i64 s.len, .int .i64 s.mass, .int .i64 s.start, .int .i64 s.power, .int .i64 s.roll, .int .i64 s.drag, .int .i64 s.brake, .int .i64 s.top, .int .i64 s.seats])], [], nx, lv⟩) ∧ 0 ≤ x.1 ∧ x.1 ≤ 6000 ∧ 0 ≤ x.2 ∧ x.2 + into (s.brake - 40) t x.1 = into (s.brake - 40) t v) (fun x => x.1.toNat) (v, 0) ?_ ?_
  · simp only [go_sem]
    refine ⟨⟨_, _, rfl⟩, ?_⟩
    omega
  · rintro ⟨u, n⟩ ρ m ⟨e1, e7, ⟨nx, lv, rfl⟩, g1, g2, g3, g4⟩
    dsimp only at e1 e7 g1 g2 g3 g4
    have hd := into_bd (s.brake - 40) t u h3 (by omega) g2
    simp (disch := omega) only [go_sem, e1, e7, i64_in]
    refine ⟨fun hlt => callV (f73 s h5 h6) ?_, fun hge => ?_⟩
    · intro nx2 lv2
      have ei := into_step hlt (d := s.brake - 40) (by omega)
      have em : max (u - (s.brake - 40)) t = max t (u - (s.brake - 40)) := by omega
      have hd2 := into_bd (s.brake - 40) t (max t (u - (s.brake - 40))) h3 (by omega) (by omega)
      have hg : 0 ≤ goneF u (max t (u - (s.brake - 40))) := by unfold goneF; omega
      unfold goneF at ei hg
      simp (disch := omega) only [go_sem, i64_in, em, tdiv2]
      refine ⟨by kernel_rfl, (max t (u - (s.brake - 40)), n + (u + max t (u - (s.brake - 40)) + 1) / 2), ?_, ?_⟩
      · simp only [go_sem]
        exact ⟨⟨_, _, rfl⟩, by omega⟩
      · simp only; omega
    · have ei := into_end hge (d := s.brake - 40)
      omega

theorem f35 (s : Stock) (v : Int) (h1 : 0 ≤ v) (h2 : v ≤ 6000) (h5 : 60 ≤ s.brake) (h6 : s.brake ≤ 150) : PCall Try.prog 35 [eStock s, .int .i64 v] (RV (.int .i64 (into (s.brake - 40) 0 v))) := by
  refine PCall.of_body Try.func35 rfl Try.ntmps35 (congrArg Array.toList Try.results35) ?_
  intro E
  simp only [go_sem, eStock]
  refine callV (f36 s v 0 h1 h2 (by omega) (by omega) h5 h6) ?_
  intro nx lv
  simp only [go_sem]

def inTop (v : Int) : Bool := within v 0 6000
/-- Into's answer. -/
def intoErr (s : Stock) (v t : Int) : Int := if checkS s = 0 then (if inTop v && inTop t then 0 else 2) else checkS s
def intoVal (s : Stock) (v t : Int) : Int := if intoErr s v t = 0 then into (s.brake - 40) t v else 0

set_option maxRecDepth 10000 in
theorem f33 (s : Stock) (v t : Int) (hs : s.name.length ≤ 140737488351232) : PCall Try.prog 33 [eStock s, .int .i64 v, .int .i64 t] (RV (.tup [.int .i64 (intoVal s v t), .int .i64 (intoErr s v t)])) := by
  refine PCall.of_body Try.func33 rfl Try.ntmps33 (congrArg Array.toList Try.results33) ?_
  intro E
  simp only [go_sem, eStock]
  refine callV (f24 s hs) ?_
  intro nx lv
  simp only [go_sem]
  refine ⟨fun h => ?_, fun h => callV (f69 _ _ _) ?_⟩
  · simp [intoVal, intoErr, h]
  intro nx lv
  simp only [go_sem]
  refine ⟨fun h1 => ?_, fun h1 => callV (f69 _ _ _) ?_⟩
  · simp [intoVal, intoErr, inTop, h, h1]
  intro nx lv
  simp only [go_sem]
  refine ⟨fun h2 => ?_, fun h2 => ?_⟩
  · simp [intoVal, intoErr, inTop, h, h1, h2]
  have hc := checkS_ok h
  simp only [within, Bool.and_eq_true, decide_eq_true_eq] at h1 h2
  refine callV (into72 s v t h1.1 h1.2 h2.1 h2.2 (by omega) (by omega)) ?_
  intro nx lv
  simp only [go_sem]
  simp [intoVal, intoErr, inTop, within, h, h1, h2]

theorem f32 (s : Stock) (v : Int) (hs : s.name.length ≤ 140737488351232) : PCall Try.prog 32 [eStock s, .int .i64 v] (RV (.tup [.int .i64 (intoVal s v 0), .int .i64 (intoErr s v 0)])) := by
  refine PCall.of_body Try.func32 rfl Try.ntmps32 (congrArg Array.toList Try.results32) ?_
  intro E
  simp only [go_sem, eStock]
  refine callV (f33 s v 0 hs) ?_
  intro nx lv
  simp only [go_sem]

theorem f37 (a e b k : Int) : PCall Try.prog 37 [.int .i64 a, .int .i64 e, .int .i64 b, .int .i64 k] (RV (.bool (decide (a = if k = 0 then b else 0) && decide (e = k)))) := by
  refine PCall.of_body Try.func37 rfl Try.ntmps37 (congrArg Array.toList Try.results37) ?_
  intro E
  simp only [go_sem]
  grind

/-- The error of a stock and speeds. -/
def speedErr (s : Stock) (l : List Int) : Int := if checkS s = 0 then (if l.all inTop then 0 else 2) else checkS s

theorem take_all_int {p : Int → Bool} {l : List Int} {x : Nat} {c : Int} (h : l[x]? = some c) : (l.take (x + 1)).all p = ((l.take x).all p && p c) := by
  rw [List.take_add_one, h]
  simp
theorem all_bad {p : Int → Bool} {l : List Int} {x : Nat} {c : Int} (h : l[x]? = some c) (hc : p c = false) : l.all p = false :=
  List.all_eq_false.2 ⟨c, List.mem_of_getElem? h, by simp [hc]⟩

theorem f34 (s : Stock) (l : List Int) (hs : s.name.length ≤ 140737488351232) (hl : l.length ≤ 140737488351232) : PCall Try.prog 34 [eStock s, .sl 1 (l.map (DV.int .i64)) .no] (RV (.int .i64 (speedErr s l))) := by
  refine PCall.of_body Try.func34 rfl Try.ntmps34 (congrArg Array.toList Try.results34) ?_
  intro E
  simp only [go_sem, eStock]
  refine callV (f25 s hs) ?_
  intro nx lv
  simp only [go_sem]
  refine ⟨fun h => ?_, fun h => ?_⟩
  · simp [speedErr, h]
  refine AW_loopS [7, 15, 16, 17, 18, 19, 20, 21, 22, 23, 24, 25] (fun (x : Nat) ρ m => ρ 15 = .int .i64 (x : Int) ∧ (∃ nx lv, m = ⟨[(2, 0, [.str s.name, .int .i64 s.len, .int .i64 s.mass, .int .i64 s.start, .int .i64 s.power, .int .i64 s.roll, .int .i64 s.drag, .int .i64 s.brake, .int .i64 s.top, .int .i64 s.seats])], [], nx, lv⟩) ∧ x ≤ l.length ∧ (l.take x).all inTop = true) (fun x => l.length - x) 0 ?_ ?_
  · simp only [go_sem]
    exact ⟨⟨_, _, rfl⟩, Nat.zero_le _⟩
  · rintro x ρ m ⟨e8, ⟨nx, lv, rfl⟩, hx, hall⟩
    by_cases hlt : x < l.length
    · have hlt' : ((x : Int) < (l.length : Int)) = True := by simp; omega
      obtain ⟨c, hc⟩ : ∃ c, l[x]? = some c := ⟨_, List.getElem?_eq_getElem hlt⟩
      have ht := take_all_int (p := inTop) hc
      simp (disch := omega) only [go_sem, e8, hlt', hc, i64_in]
      refine ⟨by omega, fun h1 => ?_, fun h1 => ⟨fun h2 => ?_, fun h2 => ?_⟩⟩
      · have := all_bad hc (p := inTop) (by simp [inTop, within]; omega)
        simp [speedErr, h, this]
      · have := all_bad hc (p := inTop) (by simp [inTop, within]; omega)
        simp [speedErr, h, this]
      refine ⟨by kernel_rfl, x + 1, ?_, by simp only; omega⟩
      simp only [go_sem]
      refine ⟨by simp, ⟨_, _, rfl⟩, by omega, ?_⟩
      rw [ht, hall]
      simp [inTop, within]; omega
    · have hlt' : ((x : Int) < (l.length : Int)) = False := by simp; omega
      simp (disch := omega) only [go_sem, e8, hlt', i64_in]
      have : l.take x = l := List.take_of_length_le (by omega)
      rw [this] at hall
      simp [speedErr, h, hall]

theorem told {a e b k : Int} (h1 : a = if k = 0 then b else 0) (h2 : e = k) : PCall Try.prog 37 [.int .i64 a, .int .i64 e, .int .i64 b, .int .i64 k] (RV (.bool true)) := by
  have := f37 a e b k
  rwa [show (decide (a = if k = 0 then b else 0) && decide (e = k)) = true by simp [h1, h2]] at this

theorem intoErr_one (s : Stock) (v : Int) : intoErr s v 0 = speedErr s [v] := by
  have : inTop 0 = true := by simp [inTop, within]
  simp [intoErr, speedErr, this]
theorem intoErr_two (s : Stock) (v t : Int) : intoErr s v t = speedErr s [v, t] := by
  simp [intoErr, speedErr]
theorem speedErr_ok {s : Stock} {l : List Int} (h : speedErr s l = 0) : checkS s = 0 ∧ ∀ v ∈ l, 0 ≤ v ∧ v ≤ 6000 := by
  unfold speedErr at h
  split at h
  · rename_i hc
    split at h
    · rename_i hl
      refine ⟨hc, fun v hv => ?_⟩
      have := List.all_eq_true.1 hl v hv
      simpa [inTop, within] using this
    · cases h
  · rename_i hc; exact absurd h hc

set_option maxHeartbeats 4000000 in
set_option maxRecDepth 20000 in
theorem f10 (s : Stock) (v t : Int) (hs : s.name.length ≤ 140737488351232) : PCall Try.prog 10 [eStock s, .int .i64 v, .int .i64 t] (RV (.bool true)) := by
  refine PCall.of_body Try.func10 rfl Try.ntmps10 (congrArg Array.toList Try.results10) ?_
  intro E
  simp only [go_sem, eStock]
  refine callV (f32 s v hs) ?_
  intro nx lv
  simp only [go_sem]
  refine callV (f33 s v t hs) ?_
  intro nx lv
  simp only [go_sem]
  refine drawn (by kernel_rfl) (by kernel_rfl) ?_
  simp only [go_sem]
  refine quietD (f34 s [v] hs (by simp)) (fun _ => rfl) ?_
  simp only [go_sem]
  refine quietD (f34 s [v, t] hs (by simp)) (fun _ => rfl) ?_
  simp only [go_sem]
  intro nx lv _ _
  have e1 := intoErr_one s v
  have e2 := intoErr_two s v t
  refine ⟨fun h1 => ?_, fun h1 => ?_⟩
  · obtain ⟨hc, hv⟩ := speedErr_ok h1
    have hc := checkS_ok hc
    simp only [List.mem_singleton, forall_eq] at hv
    refine callV (f35 s v hv.1 hv.2 (by omega) (by omega)) ?_
    intro nx lv
    simp only [go_sem]
    refine ⟨fun h2 => ?_, fun h2 => ?_⟩
    · obtain ⟨_, hv2⟩ := speedErr_ok h2
      simp only [List.mem_cons, List.not_mem_nil, or_false, forall_eq_or_imp, forall_eq] at hv2
      refine callV (f36 s v t (by omega) (by omega) (by omega) (by omega) (by omega) (by omega)) ?_
      intro nx lv
      simp only [go_sem]
      refine callV (told (by simp [intoVal, e1]) e1) ?_
      intro nx lv
      simp only [go_sem]
      refine callV (told (by simp [intoVal, e2]) e2) ?_
      intro nx lv
      simp only [go_sem]
    · refine callV (told (by simp [intoVal, e1]) e1) ?_
      intro nx lv
      simp only [go_sem]
      refine callV (told (by simp [intoVal, e2, h2]) e2) ?_
      intro nx lv
      simp only [go_sem]
  · have h2 : speedErr s [v, t] ≠ 0 := fun h2 => by
      obtain ⟨hc, hv⟩ := speedErr_ok h2
      apply h1
      have h3 := hv v (by simp)
      simp [speedErr, hc, inTop, within, h3]
    simp only [go_sem, h2]
    refine callV (told (by simp [intoVal, e1, h1]) e1) ?_
    intro nx lv
    simp only [go_sem]
    refine callV (told (by simp [intoVal, e2, h2]) e2) ?_
    intro nx lv
    simp only [go_sem]

theorem law10 (xs : List DV) (h : ElDs Try.prog [40, 3, 3] xs) : PCall Try.prog 10 (xs.map toAV) (RV (.bool true)) := by
  obtain ⟨x, xs, rfl, hx, h⟩ := h.cons_inv
  obtain ⟨y, xs, rfl, hy, h⟩ := h.cons_inv
  obtain ⟨z, xs, rfl, hz, h⟩ := h.cons_inv
  cases h.nil_inv
  obtain ⟨s, rfl, hs, _⟩ := openStock hx
  obtain ⟨v, rfl, _⟩ := hy.int_inv Try.underlying3
  obtain ⟨t, rfl, _⟩ := hz.int_inv Try.underlying3
  simp only [List.map_cons, List.map_nil, eStock_eq, toAV]
  exact f10 s v t hs
end Go.Proofs.Ythbdjgjpocfneaa
