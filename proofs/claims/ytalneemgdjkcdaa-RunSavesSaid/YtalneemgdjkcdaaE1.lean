/- Contracts of the checks of stock, of pull, gain and of slowing down. -/
import Derived.Test.YtalneemgdjkcdaaT
namespace Go.Proofs.Ytalneemgdjkcdaa
open Go.AB
def within (n lo hi : Int) : Bool := decide (lo ≤ n) && decide (n ≤ hi)
theorem f83 (n lo hi : Int) : PCall Try.prog 83 [.int .i64 n, .int .i64 lo, .int .i64 hi] (RV (.bool (within n lo hi))) := by
  refine PCall.of_body Try.func83 rfl Try.ntmps83 (congrArg Array.toList Try.results83) ?_
  intro E
  simp only [go_sem]
  unfold within
  grind

def okc (c : UInt8) : Bool := decide (97 ≤ (c.toNat : Int)) && decide ((c.toNat : Int) ≤ 122)
def nameOk (s : List UInt8) : Bool := s.all okc && (decide (1 ≤ (s.length : Int)) && decide ((s.length : Int) ≤ 12))

theorem take_all_succ {s : List UInt8} {x : Nat} {c : UInt8} (h : s[x]? = some c) : (s.take (x + 1)).all okc = ((s.take x).all okc && okc c) := by
  rw [List.take_add_one, h]
  simp
theorem nameOk_bad {s : List UInt8} {x : Nat} {c : UInt8} (h : s[x]? = some c) (hc : okc c = false) : false = nameOk s := by
  have : s.all okc = false := List.all_eq_false.2 ⟨c, List.mem_of_getElem? h, by simp [hc]⟩
  simp [nameOk, this]

theorem f125 (s : List UInt8) (hs : s.length ≤ 140737488351232) : PCall Try.prog 125 [.str s] (RV (.bool (nameOk s))) := by
  refine PCall.of_body Try.func125 rfl Try.ntmps125 (congrArg Array.toList Try.results125) ?_
  intro E
  simp only [go_sem]
  refine ⟨by omega, ?_⟩
  refine AW_loopS [4, 8, 9, 10, 11, 12, 13, 14, 15, 16, 17, 18] (fun (x : Nat) ρ m => ρ 8 = .int .i64 (x : Int) ∧ (∃ nx lv, m = ⟨[], [], nx, lv⟩) ∧ x ≤ s.length ∧ (s.take x).all okc = true) (fun x => s.length - x) 0 ?_ ?_
  · simp only [go_sem]
    exact ⟨⟨_, _, rfl⟩, Nat.zero_le _⟩
  · rintro x ρ m ⟨e8, ⟨nx, lv, rfl⟩, hx, hall⟩
    by_cases hlt : x < s.length
    · have hlt' : ((x : Int) < (s.length : Int)) = True := by simp; omega
      obtain ⟨c, hc⟩ : ∃ c, s[x]? = some c := ⟨_, List.getElem?_eq_getElem hlt⟩
      have ht := take_all_succ hc
      simp (disch := omega) only [go_sem, e8, hlt', hc, i64_in]
      refine ⟨by omega, fun h1 => nameOk_bad hc (by simp [okc]; omega), fun h1 => ⟨fun h2 => nameOk_bad hc (by simp [okc]; omega), fun h2 => ?_⟩⟩
      refine ⟨by kernel_rfl, x + 1, ?_, by simp only; omega⟩
      simp only [go_sem]
      refine ⟨by simp, ⟨_, _, rfl⟩, by omega, ?_⟩
      rw [ht, hall]
      simp [okc]; omega
    · have hlt' : ((x : Int) < (s.length : Int)) = False := by simp; omega
      simp (disch := omega) only [go_sem, e8, hlt', i64_in]
      have : s.take x = s := List.take_of_length_le (by omega)
      rw [this] at hall
      unfold nameOk
      rw [hall]
      grind

theorem f98 (s : List UInt8) (hs : s.length ≤ 140737488351232) : PCall Try.prog 98 [.str s] (RV (.bool (nameOk s))) := by
  refine PCall.of_body Try.func98 rfl Try.ntmps98 (congrArg Array.toList Try.results98) ?_
  intro E
  simp only [go_sem]
  refine AW_loopS [3, 4, 5, 6, 7, 8, 9, 10, 11, 12, 13, 14, 15, 16, 17, 18, 19] (fun (x : Nat) ρ m => ρ 3 = .int .i64 (x : Int) ∧ (∃ nx lv, m = ⟨[], [], nx, lv⟩) ∧ x ≤ s.length ∧ (s.take x).all okc = true) (fun x => s.length - x) 0 ?_ ?_
  · simp only [go_sem]
    exact ⟨⟨_, _, rfl⟩, Nat.zero_le _⟩
  · rintro x ρ m ⟨e8, ⟨nx, lv, rfl⟩, hx, hall⟩
    by_cases hlt : x < s.length
    · have hlt' : ((x : Int) < (s.length : Int)) = True := by simp; omega
      obtain ⟨c, hc⟩ : ∃ c, s[x]? = some c := ⟨_, List.getElem?_eq_getElem hlt⟩
      have ht := take_all_succ hc
      simp (disch := omega) only [go_sem, e8, hlt', hc, i64_in]
      refine ⟨by omega, fun h1 => nameOk_bad hc (by simp [okc]; omega), fun h1 => ⟨by omega, fun h2 => nameOk_bad hc (by simp [okc]; omega), fun h2 => ?_⟩⟩
      refine ⟨by kernel_rfl, x + 1, ?_, by simp only; omega⟩
      simp only [go_sem]
      refine ⟨by simp, ⟨_, _, rfl⟩, by omega, ?_⟩
      rw [ht, hall]
      simp [okc]; omega
    · have hlt' : ((x : Int) < (s.length : Int)) = False := by simp; omega
      simp (disch := omega) only [go_sem, e8, hlt', i64_in]
      have : s.take x = s := List.take_of_length_le (by omega)
      rw [this] at hall
      unfold nameOk
      rw [hall]
      grind

structure Stock where
  name : List UInt8
  (len mass start power roll drag brake top seats : Int)
def dStock (s : Stock) : DV := .agg [.str s.name, .int .i64 s.len, .int .i64 s.mass, .int .i64 s.start, .int .i64 s.power, .int .i64 s.roll, .int .i64 s.drag, .int .i64 s.brake, .int .i64 s.top, .int .i64 s.seats]
def eStock (s : Stock) : AV := .agg [.str s.name, .int .i64 s.len, .int .i64 s.mass, .int .i64 s.start, .int .i64 s.power, .int .i64 s.roll, .int .i64 s.drag, .int .i64 s.brake, .int .i64 s.top, .int .i64 s.seats]
theorem eStock_eq (s : Stock) : toAV (dStock s) = eStock s := by simp only [dStock, eStock, toAV, toAVs]

/-- The error of a stock. -/
def numsOk (s : Stock) : Bool := within s.len 10 400 && within s.mass 10 2000 && within s.start 60 150 && within s.power 10000 2000000 && within s.roll 0 10 && within s.drag 1000000 100000000 && within s.brake 60 150 && within s.top 500 6000 && within s.seats 0 1000
def checkS (s : Stock) : Int := if nameOk s.name = true then (if numsOk s = true then 0 else 2) else 1

theorem numsOk_iff (s : Stock) : numsOk s = true ↔ ((10 ≤ s.len ∧ s.len ≤ 400) ∧ (10 ≤ s.mass ∧ s.mass ≤ 2000) ∧ (60 ≤ s.start ∧ s.start ≤ 150) ∧ (10000 ≤ s.power ∧ s.power ≤ 2000000) ∧ (0 ≤ s.roll ∧ s.roll ≤ 10) ∧ (1000000 ≤ s.drag ∧ s.drag ≤ 100000000) ∧ (60 ≤ s.brake ∧ s.brake ≤ 150) ∧ (500 ≤ s.top ∧ s.top ≤ 6000) ∧ (0 ≤ s.seats ∧ s.seats ≤ 1000)) := by
  simp [numsOk, within, and_assoc]
theorem checkS_two {s : Stock} (h0 : nameOk s.name = true) (h : ¬ ((10 ≤ s.len ∧ s.len ≤ 400) ∧ (10 ≤ s.mass ∧ s.mass ≤ 2000) ∧ (60 ≤ s.start ∧ s.start ≤ 150) ∧ (10000 ≤ s.power ∧ s.power ≤ 2000000) ∧ (0 ≤ s.roll ∧ s.roll ≤ 10) ∧ (1000000 ≤ s.drag ∧ s.drag ≤ 100000000) ∧ (60 ≤ s.brake ∧ s.brake ≤ 150) ∧ (500 ≤ s.top ∧ s.top ≤ 6000) ∧ (0 ≤ s.seats ∧ s.seats ≤ 1000))) : 2 = checkS s := by
  unfold checkS; rw [if_pos h0, if_neg (by rw [numsOk_iff]; exact h)]
theorem checkS_zero {s : Stock} (h0 : nameOk s.name = true) (h : ((10 ≤ s.len ∧ s.len ≤ 400) ∧ (10 ≤ s.mass ∧ s.mass ≤ 2000) ∧ (60 ≤ s.start ∧ s.start ≤ 150) ∧ (10000 ≤ s.power ∧ s.power ≤ 2000000) ∧ (0 ≤ s.roll ∧ s.roll ≤ 10) ∧ (1000000 ≤ s.drag ∧ s.drag ≤ 100000000) ∧ (60 ≤ s.brake ∧ s.brake ≤ 150) ∧ (500 ≤ s.top ∧ s.top ≤ 6000) ∧ (0 ≤ s.seats ∧ s.seats ≤ 1000))) : 0 = checkS s := by
  unfold checkS; rw [if_pos h0, if_pos ((numsOk_iff s).2 h)]
/-- What is known of a stock that may be. -/
theorem checkS_ok {s : Stock} (h : checkS s = 0) : (10 ≤ s.len ∧ s.len ≤ 400) ∧ (10 ≤ s.mass ∧ s.mass ≤ 2000) ∧ (60 ≤ s.start ∧ s.start ≤ 150) ∧ (10000 ≤ s.power ∧ s.power ≤ 2000000) ∧ (0 ≤ s.roll ∧ s.roll ≤ 10) ∧ (1000000 ≤ s.drag ∧ s.drag ≤ 100000000) ∧ (60 ≤ s.brake ∧ s.brake ≤ 150) ∧ (500 ≤ s.top ∧ s.top ≤ 6000) ∧ (0 ≤ s.seats ∧ s.seats ≤ 1000) := by
  unfold checkS at h
  split at h
  · split at h
    · rename_i h2; exact (numsOk_iff s).1 h2
    · cases h
  · cases h

theorem f126 (s : Stock) : PCall Try.prog 126 [eStock s] (RV (.agg [.int .i64 s.len, .int .i64 s.mass, .int .i64 s.start, .int .i64 s.power, .int .i64 s.roll, .int .i64 s.drag, .int .i64 s.brake, .int .i64 s.top, .int .i64 s.seats])) := by
  refine PCall.of_body Try.func126 rfl Try.ntmps126 (congrArg Array.toList Try.results126) ?_
  intro E
  simp only [go_sem, eStock]

set_option maxRecDepth 20000 in
theorem f104 (s : Stock) (hs : s.name.length ≤ 140737488351232) : PCall Try.prog 104 [eStock s] (RV (.int .i64 (checkS s))) := by
  refine PCall.of_body Try.func104 rfl Try.ntmps104 (congrArg Array.toList Try.results104) ?_
  intro E
  simp only [go_sem, eStock]
  refine callV (f125 s.name hs) ?_
  intro nx lv
  simp only [go_sem]
  refine ⟨fun h => by simp_all [checkS], fun h => ?_⟩
  refine callV (f126 s) ?_
  intro nx lv
  simp only [go_sem]
  have h0 : nameOk s.name = true := by simpa using h
  clear h
  refine LW_start (LW_round ?_)
  simp only [go_sem]
  iterate 9
    refine drawn (by kernel_rfl) (by kernel_rfl) ?_
    simp only [go_sem]
    refine quietD (f83 _ _ _) (fun _ => rfl) ?_
    simp only [go_sem]
    intro nx lv _ _
    refine ⟨fun h1 => by simp_all [checkS, numsOk], fun h1 => LW_round ?_⟩
    simp (disch := omega) only [go_sem, i64_in]
  simp_all [checkS, numsOk]


set_option maxHeartbeats 4000000 in
set_option maxRecDepth 20000 in
theorem f73 (s : Stock) (hs : s.name.length ≤ 140737488351232) : PCall Try.prog 73 [eStock s] (RV (.int .i64 (checkS s))) := by
  refine PCall.of_body Try.func73 rfl Try.ntmps73 (congrArg Array.toList Try.results73) ?_
  intro E
  simp only [go_sem, eStock]
  refine callV (f98 s.name hs) ?_
  intro nx lv
  simp only [go_sem]
  refine ⟨fun h => by simp_all [checkS], fun h => ?_⟩
  have h0 : nameOk s.name = true := by simpa using h
  clear h
  refine LW_start (LW_round ?_)
  simp (disch := omega) only [go_sem, i64_in]
  iterate 9
    refine ⟨fun h1 => checkS_two h0 (by omega), fun h1 => ⟨fun h2 => checkS_two h0 (by omega), fun h2 => LW_round ?_⟩⟩
    simp (disch := omega) only [go_sem, i64_in]
  exact checkS_zero h0 (by omega)

def goneF (v w : Int) : Int := (v + w + 1) / 2
theorem tdiv2 {x : Int} (h : 0 ≤ x) : x.tdiv 2 = x / 2 := Int.tdiv_eq_ediv_of_nonneg h

theorem gone108 (v w : Int) (h1 : 0 ≤ v) (h2 : v ≤ 1000000) (h3 : 0 ≤ w) (h4 : w ≤ 1000000) : PCall Try.prog 108 [.int .i64 v, .int .i64 w] (RV (.int .i64 (goneF v w))) := by
  refine PCall.of_body Try.func108 rfl Try.ntmps108 (congrArg Array.toList Try.results108) ?_
  intro E
  simp (disch := omega) only [go_sem, i64_in, tdiv2]
  simp [goneF]

def into (d t v : Int) : Int := if h : t < v ∧ 0 < d then goneF v (max t (v - d)) + into d t (max t (v - d)) else 0
termination_by (v - t).toNat
decreasing_by omega

theorem into_bd (d t v : Int) (h0 : 0 ≤ t) (hd : 0 < d) (hv : v ≤ 6000) : 0 ≤ into d t v ∧ into d t v ≤ 6001 * (v - t).toNat := by
  unfold into
  split
  · rename_i h
    have ih := into_bd d t (max t (v - d)) h0 hd (by omega)
    unfold goneF
    omega
  · omega
termination_by (v - t).toNat
decreasing_by omega

theorem into_step {d t v : Int} (h : t < v) (hd : 0 < d) : into d t v = goneF v (max t (v - d)) + into d t (max t (v - d)) := by
  rw [into, dif_pos ⟨h, hd⟩]
theorem into_end {d t v : Int} (h : ¬ t < v) : into d t v = 0 := by
  rw [into, dif_neg (fun x => h x.1)]

theorem f129 (s : Stock) (h5 : 60 ≤ s.brake) (h6 : s.brake ≤ 150) : PCall Try.prog 129 [eStock s] (RV (.int .i64 (s.brake - 40))) := by
  refine PCall.of_body Try.func129 rfl Try.ntmps129 (congrArg Array.toList Try.results129) ?_
  intro E
  simp (disch := omega) only [go_sem, eStock, i64_in]

set_option maxRecDepth 10000 in
theorem f111 (s : Stock) (v t : Int) (h1 : 0 ≤ v) (h2 : v ≤ 6000) (h3 : 0 ≤ t) (h4 : t ≤ 6000) (h5 : 60 ≤ s.brake) (h6 : s.brake ≤ 150) : PCall Try.prog 111 [eStock s, .int .i64 v, .int .i64 t] (RV (.int .i64 (into (s.brake - 40) t v))) := by
  refine PCall.of_body Try.func111 rfl Try.ntmps111 (congrArg Array.toList Try.results111) ?_
  intro E
  simp only [go_sem, eStock]
  have hb := into_bd (s.brake - 40) t v h3 (by omega) h2
  refine AW_loopS [1, 7, 8, 9, 10, 11, 12, 13, 14, 15, 16, 17, 18, 19, 20, 21, 22, 23, 24, 25] (fun (x : Int × Int) ρ m => ρ 1 = .int .i64 x.1 ∧ ρ 7 = .int .i64 x.2 ∧ (∃ nx lv, m = ⟨[(3, 0, [.str s.name, .int .i64 s.len, .int .i64 s.mass, .int .i64 s.start, .int .i64 s.power, .int .i64 s.roll, .int .i64 s.drag, .int .i64 s.brake, .int .i64 s.top, .int .i64 s.seats])], [], nx, lv⟩) ∧ 0 ≤ x.1 ∧ x.1 ≤ 6000 ∧ 0 ≤ x.2 ∧ x.2 + into (s.brake - 40) t x.1 = into (s.brake - 40) t v) (fun x => x.1.toNat) (v, 0) ?_ ?_
  · simp only [go_sem]
    refine ⟨⟨_, _, rfl⟩, ?_⟩
    omega
  · rintro ⟨u, n⟩ ρ m ⟨e1, e7, ⟨nx, lv, rfl⟩, g1, g2, g3, g4⟩
    dsimp only at e1 e7 g1 g2 g3 g4
    have hd := into_bd (s.brake - 40) t u h3 (by omega) g2
    simp (disch := omega) only [go_sem, e1, e7, i64_in]
    refine ⟨fun hlt => callV (f129 s h5 h6) ?_, fun hge => ?_⟩
    · intro nx2 lv2
      have ei := into_step hlt (d := s.brake - 40) (by omega)
      have em : max (u - (s.brake - 40)) t = max t (u - (s.brake - 40)) := by omega
      have hd2 := into_bd (s.brake - 40) t (max t (u - (s.brake - 40))) h3 (by omega) (by omega)
      have hg : 0 ≤ goneF u (max t (u - (s.brake - 40))) := by unfold goneF; omega
      unfold goneF at ei hg
      simp (disch := omega) only [go_sem, i64_in, em, tdiv2]
      refine ⟨by kernel_rfl, (max t (u - (s.brake - 40)), n + (u + max t (u - (s.brake - 40)) + 1) / 2), ?_, ?_⟩
      · simp only [go_sem]
        exact ⟨⟨_, _, rfl⟩, by omega⟩
      · simp only; omega
    · have ei := into_end hge (d := s.brake - 40)
      omega

theorem f110 (s : Stock) (v : Int) (h1 : 0 ≤ v) (h2 : v ≤ 6000) (h5 : 60 ≤ s.brake) (h6 : s.brake ≤ 150) : PCall Try.prog 110 [eStock s, .int .i64 v] (RV (.int .i64 (into (s.brake - 40) 0 v))) := by
  refine PCall.of_body Try.func110 rfl Try.ntmps110 (congrArg Array.toList Try.results110) ?_
  intro E
  simp only [go_sem, eStock]
  refine callV (f111 s v 0 h1 h2 (by omega) (by omega) h5 h6) ?_
  intro nx lv
  simp only [go_sem]

def inTop (v : Int) : Bool := within v 0 6000
def pullF (s : Stock) (v : Int) : Int := if v = 0 then s.start else min s.start (s.power / v)
def gainF (s : Stock) (v g : Int) : Int := pullF s v - s.roll - v * v / s.drag - g

theorem div_bd {a b : Int} (ha : 0 ≤ a) (hb : 0 ≤ b) : 0 ≤ a / b ∧ a / b ≤ a := ⟨Int.ediv_nonneg ha hb, Int.ediv_le_self b ha⟩
theorem sq_bd {v : Int} (h1 : 0 ≤ v) (h2 : v ≤ 6000) : 0 ≤ v * v ∧ v * v ≤ 36000000 :=
  ⟨Int.mul_nonneg h1 h1, Int.le_trans (Int.mul_le_mul h2 h2 h1 (by omega)) (by omega)⟩
theorem tdivE {a b : Int} (h : 0 ≤ a) : a.tdiv b = a / b := Int.tdiv_eq_ediv_of_nonneg h

theorem f127 (s : Stock) (v : Int) (hc : checkS s = 0) (h1 : 0 ≤ v) (h2 : v ≤ 6000) : PCall Try.prog 127 [eStock s, .int .i64 v] (RV (.int .i64 (pullF s v))) := by
  refine PCall.of_body Try.func127 rfl Try.ntmps127 (congrArg Array.toList Try.results127) ?_
  intro E
  simp only [go_sem, eStock]
  have hk := checkS_ok hc
  have hd := div_bd (a := s.power) (b := v) (by omega) h1
  refine ⟨fun h0 => by simp [pullF, h0], fun h0 => ?_⟩
  refine drawn (by kernel_rfl) (by kernel_rfl) ?_
  simp (disch := omega) only [go_sem, i64_in, tdivE]
  exact ⟨h0, fun _ _ => by simp [pullF, h0]⟩

theorem f109 (s : Stock) (v : Int) (hc : checkS s = 0) (h1 : 0 ≤ v) (h2 : v ≤ 6000) : PCall Try.prog 109 [eStock s, .int .i64 v] (RV (.int .i64 (pullF s v))) := by
  refine PCall.of_body Try.func109 rfl Try.ntmps109 (congrArg Array.toList Try.results109) ?_
  intro E
  simp only [go_sem, eStock]
  have hk := checkS_ok hc
  have hd := div_bd (a := s.power) (b := v) (by omega) h1
  refine ⟨fun h0 => by simp [pullF, h0], fun h0 => ?_⟩
  refine drawn (by kernel_rfl) (by kernel_rfl) ?_
  simp (disch := omega) only [go_sem, i64_in, tdivE]
  exact ⟨h0, fun _ _ => by simp [pullF, h0]⟩

theorem pull_bd (s : Stock) (v : Int) (hc : checkS s = 0) (h1 : 0 ≤ v) : 0 ≤ pullF s v ∧ pullF s v ≤ 150 := by
  have hk := checkS_ok hc
  have hd := div_bd (a := s.power) (b := v) (by omega) h1
  unfold pullF
  split <;> omega

theorem f106 (s : Stock) (v g : Int) (hc : checkS s = 0) (h1 : 0 ≤ v) (h2 : v ≤ 6000) (h3 : -40 ≤ g) (h4 : g ≤ 40) : PCall Try.prog 106 [eStock s, .int .i64 v, .int .i64 g] (RV (.int .i64 (gainF s v g))) := by
  refine PCall.of_body Try.func106 rfl Try.ntmps106 (congrArg Array.toList Try.results106) ?_
  intro E
  simp only [go_sem, eStock]
  have hk := checkS_ok hc
  have hp := pull_bd s v hc h1
  have hv := sq_bd h1 h2
  have hd := div_bd (a := v * v) (b := s.drag) (by omega) (by omega)
  refine drawn (by kernel_rfl) (by kernel_rfl) ?_
  simp only [go_sem]
  refine quietD (f127 s v hc h1 h2) (fun _ => rfl) ?_
  simp (disch := omega) only [go_sem, i64_in, tdivE]
  exact ⟨by omega, fun _ _ => by simp [gainF]⟩

theorem f78 (s : Stock) (v g : Int) (hc : checkS s = 0) (h1 : 0 ≤ v) (h2 : v ≤ 6000) (h3 : -40 ≤ g) (h4 : g ≤ 40) : PCall Try.prog 78 [eStock s, .int .i64 v, .int .i64 g] (RV (.int .i64 (gainF s v g))) := by
  refine PCall.of_body Try.func78 rfl Try.ntmps78 (congrArg Array.toList Try.results78) ?_
  intro E
  simp only [go_sem, eStock]
  have hk := checkS_ok hc
  have hp := pull_bd s v hc h1
  have hv := sq_bd h1 h2
  have hd := div_bd (a := v * v) (b := s.drag) (by omega) (by omega)
  refine drawn (by kernel_rfl) (by kernel_rfl) ?_
  simp only [go_sem]
  refine quietD (f109 s v hc h1 h2) (fun _ => rfl) ?_
  simp (disch := omega) only [go_sem, i64_in, tdivE]
  exact ⟨by omega, fun _ _ => by simp [gainF]⟩

end Go.Proofs.Ytalneemgdjkcdaa
