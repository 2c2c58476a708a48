/- Contracts of the checks of stock, of pull, gain and of slowing down. -/
import Derived.Test.YteadhjclchjfjaaGreatL200
import Derived.Test.YteadhjclchjfjaaGreatB140
namespace Go.Proofs.YteadhjclchjfjaaGreat
set_option linter.unusedSimpArgs false
set_option linter.unusedVariables false
open Go.AB
theorem f50 (n lo hi : Int) : PCall Tryz.prog 50 [.int .i64 n, .int .i64 lo, .int .i64 hi] (RV (.bool (within n lo hi))) := by
  refine PCall.of_body Tryz.func50 rfl Tryz.ntmps50 (congrArg Array.toList Tryz.results50) ?_
  intro E
  simp only [go_sem]
  unfold within
  grind

theorem f48 (s : List UInt8) (hs : s.length ≤ 140737488351232) : PCall Tryz.prog 48 [.str s] (RV (.bool (nameOk s))) := by
  refine PCall.of_body Tryz.func48 rfl Tryz.ntmps48 (congrArg Array.toList Tryz.results48) ?_
  intro E
  simp only [go_sem]
  refine ⟨by omega, ?_⟩
  refine AW_loopS [4, 8, 9, 10, 11, 12, 13, 14, 15, 16, 17, 18] (fun (x : Nat) ρ m => ρ 8 = .int .i64 (x : Int) ∧ (∃ nx lv, m = ⟨[], [], nx, lv⟩) ∧ x ≤ s.length ∧ (s.take x).all okc = true) (fun x => s.length - x) 0 ?_ ?_
  · simp only [go_sem]
    exact ⟨⟨_, _, rfl⟩, Nat.zero_le _⟩
  · rintro x ρ m ⟨e8, ⟨nx, lv, rfl⟩, hx, hall⟩
    by_cases hlt : x < s.length
    · have hlt' : ((x : Int) < (s.length : Int)) = True := by simp; omega
      obtain ⟨c, hc⟩ : ∃ c, s[x]? = some c := ⟨_, List.getElem?_eq_getElem hlt⟩
      have ht := take_all_succ hc
      simp (disch := omega) only [go_sem, e8, hlt', hc, i64_in]
      refine ⟨by omega, fun h1 => nameOk_bad hc (by simp [okc]; omega), fun h1 => ⟨fun h2 => nameOk_bad hc (by simp [okc]; omega), fun h2 => ?_⟩⟩
      refine ⟨by kernel_rfl, x + 1, ?_, by simp only; omega⟩
      simp only [go_sem]
      refine ⟨by simp, ⟨_, _, rfl⟩, by omega, ?_⟩
      rw [ht, hall]
      simp [okc]; omega
    · have hlt' : ((x : Int) < (s.length : Int)) = False := by simp; omega
      simp (disch := omega) only [go_sem, e8, hlt', i64_in]
      have : s.take x = s := List.take_of_length_le (by omega)
      rw [this] at hall
      unfold nameOk
      rw [hall]
      grind

structure Stock where
  name : List UInt8
  (len mass start power roll drag brake top seats : Int)
def dStock (s : Stock) : DV := .agg [.str s.name, .int .i64 s.len, .int .i64 s.mass, .int .i64 s.start, .int .i64 s.power, .int .i64 s.roll, .int .i64 s.drag, .int .i64 s.brake, .int .i64 s.top, .int .i64 s.seats]
def eStock (s : Stock) : AV := .agg [.str s.name, .int .i64 s.len, .int .i64 s.mass, .int .i64 s.start, .int .i64 s.power, .int .i64 s.roll, .int .i64 s.drag, .int .i64 s.brake, .int .i64 s.top, .int .i64 s.seats]
theorem eStock_eq (s : Stock) : toAV (dStock s) = eStock s := by simp only [dStock, eStock, toAV, toAVs]

/-- The error of a stock. -/
def numsOk (s : Stock) : Bool := within s.len 10 400 && within s.mass 10 2000 && within s.start 60 150 && within s.power 10000 2000000 && within s.roll 0 10 && within s.drag 1000000 100000000 && within s.brake 60 150 && within s.top 500 6000 && within s.seats 0 1000
def checkS (s : Stock) : Int := if nameOk s.name = true then (if numsOk s = true then 0 else 2) else 1

theorem numsOk_iff (s : Stock) : numsOk s = true ↔ ((10 ≤ s.len ∧ s.len ≤ 400) ∧ (10 ≤ s.mass ∧ s.mass ≤ 2000) ∧ (60 ≤ s.start ∧ s.start ≤ 150) ∧ (10000 ≤ s.power ∧ s.power ≤ 2000000) ∧ (0 ≤ s.roll ∧ s.roll ≤ 10) ∧ (1000000 ≤ s.drag ∧ s.drag ≤ 100000000) ∧ (60 ≤ s.brake ∧ s.brake ≤ 150) ∧ (500 ≤ s.top ∧ s.top ≤ 6000) ∧ (0 ≤ s.seats ∧ s.seats ≤ 1000)) := by
  simp [numsOk, within, and_assoc]
theorem checkS_two {s : Stock} (h0 : nameOk s.name = true) (h : ¬ ((10 ≤ s.len ∧ s.len ≤ 400) ∧ (10 ≤ s.mass ∧ s.mass ≤ 2000) ∧ (60 ≤ s.start ∧ s.start ≤ 150) ∧ (10000 ≤ s.power ∧ s.power ≤ 2000000) ∧ (0 ≤ s.roll ∧ s.roll ≤ 10) ∧ (1000000 ≤ s.drag ∧ s.drag ≤ 100000000) ∧ (60 ≤ s.brake ∧ s.brake ≤ 150) ∧ (500 ≤ s.top ∧ s.top ≤ 6000) ∧ (0 ≤ s.seats ∧ s.seats ≤ 1000))) : 2 = checkS s := by
  unfold checkS; rw [if_pos h0, if_neg (by rw [numsOk_iff]; exact h)]
theorem checkS_zero {s : Stock} (h0 : nameOk s.name = true) (h : ((10 ≤ s.len ∧ s.len ≤ 400) ∧ (10 ≤ s.mass ∧ s.mass ≤ 2000) ∧ (60 ≤ s.start ∧ s.start ≤ 150) ∧ (10000 ≤ s.power ∧ s.power ≤ 2000000) ∧ (0 ≤ s.roll ∧ s.roll ≤ 10) ∧ (1000000 ≤ s.drag ∧ s.drag ≤ 100000000) ∧ (60 ≤ s.brake ∧ s.brake ≤ 150) ∧ (500 ≤ s.top ∧ s.top ≤ 6000) ∧ (0 ≤ s.seats ∧ s.seats ≤ 1000))) : 0 = checkS s := by
  unfold checkS; rw [if_pos h0, if_pos ((numsOk_iff s).2 h)]
/-- What is known of a stock that may be. -/
theorem checkS_ok {s : Stock} (h : checkS s = 0) : (10 ≤ s.len ∧ s.len ≤ 400) ∧ (10 ≤ s.mass ∧ s.mass ≤ 2000) ∧ (60 ≤ s.start ∧ s.start ≤ 150) ∧ (10000 ≤ s.power ∧ s.power ≤ 2000000) ∧ (0 ≤ s.roll ∧ s.roll ≤ 10) ∧ (1000000 ≤ s.drag ∧ s.drag ≤ 100000000) ∧ (60 ≤ s.brake ∧ s.brake ≤ 150) ∧ (500 ≤ s.top ∧ s.top ≤ 6000) ∧ (0 ≤ s.seats ∧ s.seats ≤ 1000) := by
  unfold checkS at h
  split at h
  · split at h
    · rename_i h2; exact (numsOk_iff s).1 h2
    · cases h
  · cases h

theorem f49 (s : Stock) : PCall Tryz.prog 49 [eStock s] (RV (.agg [.int .i64 s.len, .int .i64 s.mass, .int .i64 s.start, .int .i64 s.power, .int .i64 s.roll, .int .i64 s.drag, .int .i64 s.brake, .int .i64 s.top, .int .i64 s.seats])) := by
  refine PCall.of_body Tryz.func49 rfl Tryz.ntmps49 (congrArg Array.toList Tryz.results49) ?_
  intro E
  simp only [go_sem, eStock]

set_option maxRecDepth 20000 in
theorem f18 (s : Stock) (hs : s.name.length ≤ 140737488351232) : PCall Tryz.prog 18 [eStock s] (RV (.int .i64 (checkS s))) := by
  refine PCall.of_body Tryz.func18 rfl Tryz.ntmps18 (congrArg Array.toList Tryz.results18) ?_
  intro E
  simp only [go_sem, eStock]
  refine callV (f48 s.name hs) ?_
  intro nx lv
  simp only [go_sem]
  refine ⟨fun h => by simp_all [checkS], fun h => ?_⟩
  refine callV (f49 s) ?_
  intro nx lv
  simp only [go_sem]
  have h0 : nameOk s.name = true := by simpa using h
  clear h
  refine LW_start (LW_round ?_)
  simp only [go_sem]
  iterate 9
    refine drawn (by kernel_rfl) (by kernel_rfl) ?_
    simp only [go_sem]
    refine quietD (f50 _ _ _) (fun _ => rfl) ?_
    simp only [go_sem]
    intro nx lv _ _
    refine ⟨fun h1 => by simp_all [checkS, numsOk], fun h1 => LW_round ?_⟩
    simp (disch := omega) only [go_sem, i64_in]
  simp_all [checkS, numsOk]


set_option maxHeartbeats 4000000 in
set_option maxRecDepth 20000 in
theorem f7 (s : Stock) (hs : s.name.length ≤ 140737488351232) : PCall Tryz.prog 7 [eStock s] (RV (.int .i64 (checkS s))) := by
  refine PCall.of_body Tryz.func7 rfl Tryz.ntmps7 (congrArg Array.toList Tryz.results7) ?_
  intro E
  simp only [go_sem, eStock]
  refine callV (f26 s.name hs) ?_
  intro nx lv
  simp only [go_sem]
  refine ⟨fun h => by simp_all [checkS], fun h => ?_⟩
  have h0 : nameOk s.name = true := by simpa using h
  clear h
  refine LW_start (LW_round ?_)
  simp (disch := omega) only [go_sem, i64_in]
  iterate 9
    refine ⟨fun h1 => checkS_two h0 (by omega), fun h1 => ⟨fun h2 => checkS_two h0 (by omega), fun h2 => LW_round ?_⟩⟩
    simp (disch := omega) only [go_sem, i64_in]
  exact checkS_zero h0 (by omega)

def goneF (v w : Int) : Int := (v + w + 1) / 2
theorem tdiv2 {x : Int} (h : 0 ≤ x) : x.tdiv 2 = x / 2 := Int.tdiv_eq_ediv_of_nonneg h

theorem gone100 (v w : Int) (h1 : 0 ≤ v) (h2 : v ≤ 1000000) (h3 : 0 ≤ w) (h4 : w ≤ 1000000) : PCall Tryz.prog 100 [.int .i64 v, .int .i64 w] (RV (.int .i64 (goneF v w))) := by
  refine PCall.of_body Tryz.func100 rfl Tryz.ntmps100 (congrArg Array.toList Tryz.results100) ?_
  intro E
  simp (disch := omega) only [go_sem, i64_in, tdiv2]
  simp [goneF]

def into (d t v : Int) : Int := if h : t < v ∧ 0 < d then goneF v (max t (v - d)) + into d t (max t (v - d)) else 0
termination_by (v - t).toNat
decreasing_by omega

theorem into_bd (d t v : Int) (h0 : 0 ≤ t) (hd : 0 < d) (hv : v ≤ 6000) : 0 ≤ into d t v ∧ into d t v ≤ 6001 * (v - t).toNat := by
  unfold into
  split
  · rename_i h
    have ih := into_bd d t (max t (v - d)) h0 hd (by omega)
    unfold goneF
    omega
  · omega
termination_by (v - t).toNat
decreasing_by omega

theorem into_step {d t v : Int} (h : t < v) (hd : 0 < d) : into d t v = goneF v (max t (v - d)) + into d t (max t (v - d)) := by
  rw [into, dif_pos ⟨h, hd⟩]
theorem into_end {d t v : Int} (h : ¬ t < v) : into d t v = 0 := by
  rw [into, dif_neg (fun x => h x.1)]

theorem f129 (s : Stock) (h5 : 60 ≤ s.brake) (h6 : s.brake ≤ 150) : PCall Tryz.prog 129 [eStock s] (RV (.int .i64 (s.brake - 40))) := by
  refine PCall.of_body Tryz.func129 rfl Tryz.ntmps129 (congrArg Array.toList Tryz.results129) ?_
  intro E
  simp (disch := omega) only [go_sem, eStock, i64_in]

set_option maxRecDepth 10000 in
theorem f109 (s : Stock) (v t : Int) (h1 : 0 ≤ v) (h2 : v ≤ 6000) (h3 : 0 ≤ t) (h4 : t ≤ 6000) (h5 : 60 ≤ s.brake) (h6 : s.brake ≤ 150) : PCall Tryz.prog 109 [eStock s, .int .i64 v, .int .i64 t] (RV (.int .i64 (into (s.brake - 40) t v))) := by
  refine PCall.of_body Tryz.func109 rfl Tryz.ntmps109 (congrArg Array.toList Tryz.results109) ?_
  intro E
  simp only [go_sem, eStock]
  have hb := into_bd (s.brake - 40) t v h3 (by omega) h2
  refine AW_loopS [1, 7, 8, 9, 10, 11, 12, 13, 14, 15, 16, 17, 18, 19, 20, 21, 22, 23, 24, 25] (fun (x : Int × Int) ρ m => ρ 1 = .int .i64 x.1 ∧ ρ 7 = .int .i64 x.2 ∧ (∃ nx lv, m = ⟨[(3, 0, [.str s.name, .int .i64 s.len, .int .i64 s.mass, .int .i64 s.start, .int .i64 s.power, .int .i64 s.roll, .int .i64 s.drag, .int .i64 s.brake, .int .i64 s.top, .int .i64 s.seats])], [], nx, lv⟩) ∧ 0 ≤ x.1 ∧ x.1 ≤ 6000 ∧ 0 ≤ x.2 ∧ x.2 + into (s.brake - 40) t x.1 = into (s.brake - 40) t v) (fun x => x.1.toNat) (v, 0) ?_ ?_
  · simp only [go_sem]
    refine ⟨⟨_, _, rfl⟩, ?_⟩
    omega
  · rintro ⟨u, n⟩ ρ m ⟨e1, e7, ⟨nx, lv, rfl⟩, g1, g2, g3, g4⟩
    dsimp only at e1 e7 g1 g2 g3 g4
    have hd := into_bd (s.brake - 40) t u h3 (by omega) g2
    simp (disch := omega) only [go_sem, e1, e7, i64_in]
    refine ⟨fun hlt => callV (f129 s h5 h6) ?_, fun hge => ?_⟩
    · intro nx2 lv2
      have ei := into_step hlt (d := s.brake - 40) (by omega)
      have em : max (u - (s.brake - 40)) t = max t (u - (s.brake - 40)) := by omega
      have hd2 := into_bd (s.brake - 40) t (max t (u - (s.brake - 40))) h3 (by omega) (by omega)
      have hg : 0 ≤ goneF u (max t (u - (s.brake - 40))) := by unfold goneF; omega
      unfold goneF at ei hg
      simp (disch := omega) only [go_sem, i64_in, em, tdiv2]
      refine ⟨by kernel_rfl, (max t (u - (s.brake - 40)), n + (u + max t (u - (s.brake - 40)) + 1) / 2), ?_, ?_⟩
      · simp only [go_sem]
        exact ⟨⟨_, _, rfl⟩, by omega⟩
      · simp only; omega
    · have ei := into_end hge (d := s.brake - 40)
      omega

theorem f76 (s : Stock) (v : Int) (h1 : 0 ≤ v) (h2 : v ≤ 6000) (h5 : 60 ≤ s.brake) (h6 : s.brake ≤ 150) : PCall Tryz.prog 76 [eStock s, .int .i64 v] (RV (.int .i64 (into (s.brake - 40) 0 v))) := by
  refine PCall.of_body Tryz.func76 rfl Tryz.ntmps76 (congrArg Array.toList Tryz.results76) ?_
  intro E
  simp only [go_sem, eStock]
  refine callV (f109 s v 0 h1 h2 (by omega) (by omega) h5 h6) ?_
  intro nx lv
  simp only [go_sem]

def pullF (s : Stock) (v : Int) : Int := if v = 0 then s.start else min s.start (s.power / v)
def gainF (s : Stock) (v g : Int) : Int := pullF s v - s.roll - v * v / s.drag - g

theorem div_bd {a b : Int} (ha : 0 ≤ a) (hb : 0 ≤ b) : 0 ≤ a / b ∧ a / b ≤ a := ⟨Int.ediv_nonneg ha hb, Int.ediv_le_self b ha⟩
theorem sq_bd {v : Int} (h1 : 0 ≤ v) (h2 : v ≤ 6000) : 0 ≤ v * v ∧ v * v ≤ 36000000 :=
  ⟨Int.mul_nonneg h1 h1, Int.le_trans (Int.mul_le_mul h2 h2 h1 (by omega)) (by omega)⟩
theorem tdivE {a b : Int} (h : 0 ≤ a) : a.tdiv b = a / b := Int.tdiv_eq_ediv_of_nonneg h

theorem f141 (s : Stock) (v : Int) (hc : checkS s = 0) (h1 : 0 ≤ v) (h2 : v ≤ 6000) : PCall Tryz.prog 141 [eStock s, .int .i64 v] (RV (.int .i64 (pullF s v))) := by
  refine PCall.of_body Tryz.func141 rfl Tryz.ntmps141 (congrArg Array.toList Tryz.results141) ?_
  intro E
  simp only [go_sem, eStock]
  have hk := checkS_ok hc
  have hd := div_bd (a := s.power) (b := v) (by omega) h1
  refine ⟨fun h0 => by simp [pullF, h0], fun h0 => ?_⟩
  refine drawn (by kernel_rfl) (by kernel_rfl) ?_
  simp (disch := omega) only [go_sem, i64_in, tdivE]
  exact ⟨h0, fun _ _ => by simp [pullF, h0]⟩

theorem f128 (s : Stock) (v : Int) (hc : checkS s = 0) (h1 : 0 ≤ v) (h2 : v ≤ 6000) : PCall Tryz.prog 128 [eStock s, .int .i64 v] (RV (.int .i64 (pullF s v))) := by
  refine PCall.of_body Tryz.func128 rfl Tryz.ntmps128 (congrArg Array.toList Tryz.results128) ?_
  intro E
  simp only [go_sem, eStock]
  have hk := checkS_ok hc
  have hd := div_bd (a := s.power) (b := v) (by omega) h1
  refine ⟨fun h0 => by simp [pullF, h0], fun h0 => ?_⟩
  refine drawn (by kernel_rfl) (by kernel_rfl) ?_
  simp (disch := omega) only [go_sem, i64_in, tdivE]
  exact ⟨h0, fun _ _ => by simp [pullF, h0]⟩

theorem pull_bd (s : Stock) (v : Int) (hc : checkS s = 0) (h1 : 0 ≤ v) : 0 ≤ pullF s v ∧ pullF s v ≤ 150 := by
  have hk := checkS_ok hc
  have hd := div_bd (a := s.power) (b := v) (by omega) h1
  unfold pullF
  split <;> omega

theorem f139 (s : Stock) (v g : Int) (hc : checkS s = 0) (h1 : 0 ≤ v) (h2 : v ≤ 6000) (h3 : -40 ≤ g) (h4 : g ≤ 40) : PCall Tryz.prog 139 [eStock s, .int .i64 v, .int .i64 g] (RV (.int .i64 (gainF s v g))) := by
  refine PCall.of_body Tryz.func139 rfl Tryz.ntmps139 (congrArg Array.toList Tryz.results139) ?_
  intro E
  simp only [go_sem, eStock]
  have hk := checkS_ok hc
  have hp := pull_bd s v hc h1
  have hv := sq_bd h1 h2
  have hd := div_bd (a := v * v) (b := s.drag) (by omega) (by omega)
  refine drawn (by kernel_rfl) (by kernel_rfl) ?_
  simp only [go_sem]
  refine quietD (f141 s v hc h1 h2) (fun _ => rfl) ?_
  simp (disch := omega) only [go_sem, i64_in, tdivE]
  exact ⟨by omega, fun _ _ => by simp [gainF]⟩

theorem f106 (s : Stock) (v g : Int) (hc : checkS s = 0) (h1 : 0 ≤ v) (h2 : v ≤ 6000) (h3 : -40 ≤ g) (h4 : g ≤ 40) : PCall Tryz.prog 106 [eStock s, .int .i64 v, .int .i64 g] (RV (.int .i64 (gainF s v g))) := by
  refine PCall.of_body Tryz.func106 rfl Tryz.ntmps106 (congrArg Array.toList Tryz.results106) ?_
  intro E
  simp only [go_sem, eStock]
  have hk := checkS_ok hc
  have hp := pull_bd s v hc h1
  have hv := sq_bd h1 h2
  have hd := div_bd (a := v * v) (b := s.drag) (by omega) (by omega)
  refine drawn (by kernel_rfl) (by kernel_rfl) ?_
  simp only [go_sem]
  refine quietD (f128 s v hc h1 h2) (fun _ => rfl) ?_
  simp (disch := omega) only [go_sem, i64_in, tdivE]
  exact ⟨by omega, fun _ _ => by simp [gainF]⟩

end Go.Proofs.YteadhjclchjfjaaGreat

/- The runner's table of ways: the contract of into, and calls that hand the runner on. -/
namespace Go.Proofs.YteadhjclchjfjaaGreat
set_option linter.unusedSimpArgs false
set_option linter.unusedVariables false
open Go.AB

/-- An entry of a table of ways: the target, how many speeds there are, and the mark. -/
structure Ent where
  t : Int
  n : Nat
  i : Nat

def tab (d t : Int) (n : Nat) : List DV := (List.range n).map fun (v : Nat) => DV.int .i64 (into d t v)
def keysM (M : List Ent) : List AV := M.map fun e => AV.int .i64 e.t
def valsM (d : Int) (M : List Ent) : List AV := M.map fun e => AV.sl 1 (tab d e.t e.n) (.own e.i)
theorem tab_len (d t : Int) (n : Nat) : (tab d t n).length = n := by simp [tab]
theorem tab_get {d t : Int} {n v : Nat} (h : v < n) : (tab d t n)[v]? = some (.int .i64 (into d t v)) := by
  simp [tab, h]
theorem tab_succ (d t : Int) (n : Nat) : tab d t n ++ [.int .i64 (into d t n)] = tab d t (n + 1) := by
  simp [tab, List.range_succ]
theorem tab_zero (d t : Int) : tab d t 0 = [] := rfl

theorem keys_ok (M : List Ent) : (keysM M).all (keyA Tryz.prog 3) = true := by
  simp only [keysM, List.all_map, List.all_eq_true]
  intro e _
  simp only [Function.comp, go_sem]

def entOf : List Ent → Int → Option Ent
  | [], _ => none
  | e :: M, t => if e.t = t then some e else entOf M t
def upd : List Ent → Ent → List Ent
  | [], x => [x]
  | e :: M, x => if e.t = x.t then x :: M else e :: upd M x

theorem mget_M (d : Int) : ∀ (M : List Ent) (t : Int), mget (keysM M) (valsM d M) (.int .i64 t) = (entOf M t).map fun e => AV.sl 1 (tab d e.t e.n) (.own e.i)
  | [], t => rfl
  | e :: M, t => by
    simp only [keysM, valsM, List.map_cons, mget, entOf, AV.int.injEq, true_and]
    by_cases h : e.t = t
    · simp [h]
    · simp only [h, if_false]
      exact mget_M d M t
theorem mset_M (d : Int) : ∀ (M : List Ent) (x : Ent), mset (keysM M) (valsM d M) (.int .i64 x.t) (.sl 1 (tab d x.t x.n) (.own x.i)) = (keysM (upd M x), valsM d (upd M x))
  | [], x => rfl
  | e :: M, x => by
    have ih := mset_M d M x
    simp only [keysM, valsM, List.map_cons, mset, upd, AV.int.injEq, true_and] at ih ⊢
    by_cases h : e.t = x.t
    · simp [h]
    · simp only [h, if_false, ih, List.map_cons]
theorem mset_M' (d : Int) (M : List Ent) (t : Int) (n i : Nat) : mset (keysM M) (valsM d M) (.int .i64 t) (.sl 1 (tab d t n) (.own i)) = (keysM (upd M ⟨t, n, i⟩), valsM d (upd M ⟨t, n, i⟩)) := mset_M d M ⟨t, n, i⟩
theorem entOf_spec : ∀ {M : List Ent} {t : Int} {e : Ent}, entOf M t = some e → e ∈ M ∧ e.t = t
  | e0 :: M, t, e, h => by
    simp only [entOf] at h
    split at h
    · rename_i h0; cases h; exact ⟨List.mem_cons_self .., h0⟩
    · exact ⟨List.mem_cons_of_mem _ (entOf_spec h).1, (entOf_spec h).2⟩
/-- What stands in a table behind a change. -/
theorem upd_mem : ∀ {M : List Ent} {x e : Ent}, e ∈ upd M x → e = x ∨ (e ∈ M ∧ ∀ y, entOf M x.t = some y → (M.map (·.i)).Nodup → e.i ≠ y.i)
  | [], x, e, h => by simp [upd] at h; exact .inl h
  | e0 :: M, x, e, h => by
    simp only [upd] at h
    split at h
    · rename_i h0
      rcases List.mem_cons.1 h with h | h
      · exact .inl h
      · refine .inr ⟨List.mem_cons_of_mem _ h, fun y hy hn => ?_⟩
        simp only [entOf, h0, if_true, Option.some.injEq] at hy
        subst hy
        simp only [List.map_cons, List.nodup_cons] at hn
        intro e1
        exact hn.1 (List.mem_map.2 ⟨e, h, e1⟩)
    · rename_i h0
      rcases List.mem_cons.1 h with h | h
      · subst h
        refine .inr ⟨List.mem_cons_self .., fun y hy hn => ?_⟩
        simp only [entOf, h0, if_false] at hy
        simp only [List.map_cons, List.nodup_cons] at hn
        intro e1
        exact hn.1 (List.mem_map.2 ⟨y, (entOf_spec hy).1, e1.symm⟩)
      · rcases upd_mem h with h1 | ⟨h1, h2⟩
        · exact .inl h1
        · refine .inr ⟨List.mem_cons_of_mem _ h1, fun y hy hn => ?_⟩
          simp only [entOf, h0, if_false] at hy
          exact h2 y hy (by simp only [List.map_cons, List.nodup_cons] at hn; exact hn.2)
theorem upd_key : ∀ {M : List Ent} {x e : Ent}, e ∈ upd M x → e.t = x.t ∨ e ∈ M
  | [], x, e, h => by simp [upd] at h; exact .inl (by rw [h])
  | e0 :: M, x, e, h => by
    simp only [upd] at h
    split at h
    · rcases List.mem_cons.1 h with h | h
      · exact .inl (by rw [h])
      · exact .inr (List.mem_cons_of_mem _ h)
    · rcases List.mem_cons.1 h with h | h
      · exact .inr (by rw [h]; exact List.mem_cons_self ..)
      · exact (upd_key h).imp id (List.mem_cons_of_mem _)
theorem upd_good : ∀ {M : List Ent} {x : Ent}, (M.map (·.i)).Nodup → (M.map (·.t)).Nodup → (∀ e ∈ M, e.i ≠ x.i ∨ e.t = x.t) → ((upd M x).map (·.i)).Nodup ∧ ((upd M x).map (·.t)).Nodup
  | [], x, _, _, _ => by simp [upd]
  | e0 :: M, x, hn, ht, hx => by
    simp only [List.map_cons, List.nodup_cons] at hn ht
    simp only [upd]
    split
    · rename_i h0
      simp only [List.map_cons, List.nodup_cons]
      refine ⟨⟨fun h => ?_, hn.2⟩, fun h => ?_, ht.2⟩
      · obtain ⟨e, he, h1⟩ := List.mem_map.1 h
        rcases hx e (List.mem_cons_of_mem _ he) with h2 | h2
        · exact h2 h1
        · exact ht.1 (List.mem_map.2 ⟨e, he, h2.trans h0.symm⟩)
      · rw [← h0] at h; exact ht.1 h
    · rename_i h0
      obtain ⟨g1, g2⟩ := upd_good hn.2 ht.2 (fun e he => hx e (List.mem_cons_of_mem _ he))
      simp only [List.map_cons, List.nodup_cons]
      refine ⟨⟨fun h => ?_, g1⟩, fun h => ?_, g2⟩
      · obtain ⟨e, he, h1⟩ := List.mem_map.1 h
        rcases upd_mem he with h2 | ⟨h2, _⟩
        · subst h2
          rcases hx e0 (List.mem_cons_self ..) with h3 | h3
          · exact h3 h1.symm
          · exact h0 h3
        · exact hn.1 (List.mem_map.2 ⟨e, h2, h1⟩)
      · obtain ⟨e, he, h1⟩ := List.mem_map.1 h
        rcases upd_key he with h2 | h2
        · exact h0 (h1.symm.trans h2)
        · exact ht.1 (List.mem_map.2 ⟨e, h2, h1⟩)

def nOf (M : List Ent) (t : Int) : Nat := ((entOf M t).map (·.n)).getD 0
def tokOf (M : List Ent) (t : Int) : Tok := ((entOf M t).map fun e => Tok.own e.i).getD .nil

def sCells (s : Stock) (r : List AV) : List AV := .str s.name :: .int .i64 s.len :: .int .i64 s.mass :: .int .i64 s.start :: .int .i64 s.power :: .int .i64 s.roll :: .int .i64 s.drag :: .int .i64 s.brake :: .int .i64 s.top :: .int .i64 s.seats :: r
def rcell (s : Stock) (ways bs : List DV) (bt : Tok) (fin top : Int) (l : AB.Loc) : List AV := sCells s [.sl 3 ways .no, .sl 1 bs bt, .int .i64 fin, .int .i64 top, .mref l]

/-- What a call leaves of the marks. -/
structure Keep (lv : Nat → Prop) (M : List Ent) (lv' : Nat → Prop) (M' : List Ent) : Prop where
  live : ∀ j, lv j → (∀ e ∈ M, e.i ≠ j) → lv' j
  apart : ∀ j, lv j → (∀ e ∈ M, e.i ≠ j) → ∀ e ∈ M', e.i ≠ j
theorem Keep.refl (lv : Nat → Prop) (M : List Ent) : Keep lv M lv M := ⟨fun _ h _ => h, fun _ _ h => h⟩
theorem Keep.trans {lv lv' lv'' : Nat → Prop} {M M' M'' : List Ent} (h : Keep lv M lv' M') (k : Keep lv' M' lv'' M'') : Keep lv M lv'' M'' :=
  ⟨fun j h1 h2 => k.live j (h.live j h1 h2) (h.apart j h1 h2), fun j h1 h2 => k.apart j (h.live j h1 h2) (h.apart j h1 h2)⟩
structure GoodM (lv : Nat → Prop) (M : List Ent) : Prop where
  live : ∀ e ∈ M, lv e.i
  one : (M.map (·.i)).Nodup
  key : (M.map (·.t)).Nodup
  small : ∀ e ∈ M, e.n ≤ 6001

/-- It hands back this value, and leaves the runner with another table. -/
def outR (d : Int) (rc : List AV) (nx : Nat) (lv : Nat → Prop) (M : List Ent) (r0 : AV) : AH → AV → Prop := fun m r =>
  r = r0 ∧ ∃ M', m.o = [rc, [.mapc (keysM M') (valsM d M')]] ∧ GoodM m.lv M' ∧ nx ≤ m.nx ∧ Keep lv M m.lv M'

theorem rcell_rn {f : AB.Loc → Option AB.Loc} {s : Stock} {ways bs : List DV} {bt : Tok} {fin top : Int} {l l' : AB.Loc} (h : f l = some l') : rnCL f (rcell s ways bs bt fin top l) = some (rcell s ways bs bt fin top l') := by
  simp only [rcell, sCells, rnCL, rnC, port1, h]
theorem map_rn {f : AB.Loc → Option AB.Loc} {d : Int} {M : List Ent} : rnCL f [.mapc (keysM M) (valsM d M)] = some [.mapc (keysM M) (valsM d M)] := by
  have h1 : (keysM M).all portA = true := by simp [keysM, portA, port1]
  have h2 : (valsM d M).all portA = true := by simp [valsM, portA, port1]
  simp only [rnCL, rnC, h1, h2, Bool.and_true]

theorem callR {k : Nat} {s : Stock} {ways bs : List DV} {bt : Tok} {fin top : Int} {M : List Ent} {rest : List AV} {r0 : AV} {σ : AS} {dst : Option Nat} {K : AS → Prop} {lr lm : AB.Loc}
    (h : QCall Tryz.prog k ⟨[], [rcell s ways bs bt fin top (.out 1), [.mapc (keysM M) (valsM (s.brake - 40) M)]], σ.m.nx, σ.m.lv⟩ (.ptr (.out 0) 0 :: rest) (outR (s.brake - 40) (rcell s ways bs bt fin top (.out 1)) σ.m.nx σ.m.lv M r0))
    (hrest : ∀ f, rnAL f rest = some rest) (hr0 : ∀ f, rnV f r0 = some r0) (hne : lr ≠ lm)
    (hr : σ.m.cells lr = some (rcell s ways bs bt fin top lm)) (hm : σ.m.cells lm = some [.mapc (keysM M) (valsM (s.brake - 40) M)])
    (hK : ∀ M' nx2 lv2, GoodM lv2 M' → σ.m.nx ≤ nx2 → Keep σ.m.lv M lv2 M' →
      K (AS.put ⟨σ.s, ⟨((σ.m.setCells lr (rcell s ways bs bt fin top lm)).setCells lm [.mapc (keysM M') (valsM (s.brake - 40) M')]).h, ((σ.m.setCells lr (rcell s ways bs bt fin top lm)).setCells lm [.mapc (keysM M') (valsM (s.brake - 40) M')]).o, nx2, lv2⟩⟩ dst r0)) :
    effX Tryz.prog k (.ptr lr 0 :: rest) σ dst K := by
  have hne' : ¬ lr = lm := hne
  refine effH [lr, lm] (css := [rcell s ways bs bt fin top lm, [.mapc (keysM M) (valsM (s.brake - 40) M)]]) ?_ ?_ ?_ (.two hne) h ?_
  · simp only [rnAL, rnA, rnC, outF, idxL, if_true, hrest]
  · simp only [cellsL, hr, hm]
  · simp only [rnLL, rcell_rn (f := outF [lr, lm]) (l := lm) (l' := .out 1) (by simp [outF, idxL, hne']), map_rn]
  · rintro m' r ⟨rfl, M', ho, hG, hx, hk⟩
    refine ⟨[rcell s ways bs bt fin top lm, [.mapc (keysM M') (valsM (s.brake - 40) M')]], r, ?_, rfl, hr0 _, ?_⟩
    · rw [ho]
      simp only [rnLL, rcell_rn (f := backF [lr, lm] none (.own 0 (gnext σ.m 0))) (l := .out 1) (l' := lm) rfl, map_rn]
    · exact hK M' _ _ hG hx hk

theorem mgK_M {d : Int} {M : List Ent} {t : Int} {K : AV → Prop} : mgK false (.sl 1 [] .nil) K ((entOf M t).map fun e => AV.sl 1 (tab d e.t e.n) (.own e.i)) = K (.sl 1 (tab d t (nOf M t)) (tokOf M t)) := by
  cases h : entOf M t with
  | none => simp only [nOf, tokOf, h, Option.map_none, Option.getD_none, tab_zero, go_sem]
  | some e =>
    obtain ⟨_, rfl⟩ := entOf_spec h
    simp only [nOf, tokOf, h, Option.map_some, Option.getD_some, go_sem]

/-- The mark of the table that grows. -/
def TokT (lv : Nat → Prop) (nx n0 : Nat) (tok0 : Tok) (n : Nat) (tok : Tok) (lv' : Nat → Prop) : Prop :=
  (n = n0 ∧ tok = tok0 ∧ ∀ j, lv j → lv' j) ∨ ∃ i, tok = .own i ∧ nx ≤ i ∧ lv' i ∧ ∀ j, lv j → tok0 ≠ .own j → lv' j

theorem tokOf_ok {lv : Nat → Prop} {M : List Ent} {t : Int} {h o nx} (hM : GoodM lv M) : okT ⟨h, o, nx, lv⟩ (tokOf M t) := by
  unfold tokOf
  cases he : entOf M t with
  | none => simp only [Option.map_none, Option.getD_none, go_sem]
  | some e => simp only [Option.map_some, Option.getD_some, go_sem]; exact hM.live e (entOf_spec he).1

theorem nodup_eq : ∀ {M : List Ent} {x y : Ent}, (M.map (·.i)).Nodup → x ∈ M → y ∈ M → x.i = y.i → x = y
  | [], x, y, _, h, _, _ => by cases h
  | e :: M, x, y, hn, hx, hy, h => by
    simp only [List.map_cons, List.nodup_cons] at hn
    rcases List.mem_cons.1 hx with h1 | h1 <;> rcases List.mem_cons.1 hy with h2 | h2
    · rw [h1, h2]
    · subst h1; exact absurd (List.mem_map.2 ⟨y, h2, h.symm⟩) hn.1
    · subst h2; exact absurd (List.mem_map.2 ⟨x, h1, h⟩) hn.1
    · exact nodup_eq hn.2 h1 h2 h

theorem TokT.grow {lv lv' lv2 : Nat → Prop} {nx n0 n k : Nat} {tok0 tok : Tok} (h : TokT lv nx n0 tok0 n tok lv') (hx : nx ≤ k) (hlt : ∀ j, lv j → j < nx) (hk : lv2 k) (hl : ∀ j, lv' j → tok ≠ .own j → lv2 j) : TokT lv nx n0 tok0 (n + 1) (.own k) lv2 := by
  refine .inr ⟨k, rfl, hx, hk, fun j hj h0 => ?_⟩
  rcases h with ⟨_, h2, h3⟩ | ⟨i, h1, h2, _, h4⟩
  · exact hl j (h3 j hj) (by rw [h2]; exact h0)
  · refine hl j (h4 j hj h0) ?_
    rw [h1]
    intro e
    cases e
    have := hlt _ hj
    omega

theorem upd_done {lv lv' : Nat → Prop} {M : List Ent} {t : Int} {nx n : Nat} {tok : Tok} (hM : GoodM lv M) (hlt : ∀ j, lv j → j < nx) (hT : TokT lv nx (nOf M t) (tokOf M t) n tok lv') (hn : 0 < n) (hn2 : n ≤ 6001) :
    ∃ i, tok = .own i ∧ GoodM lv' (upd M ⟨t, n, i⟩) ∧ Keep lv M lv' (upd M ⟨t, n, i⟩) := by
  have hi : ∃ i, tok = .own i ∧ lv' i ∧ ((∃ y, entOf M t = some y ∧ i = y.i) ∨ nx ≤ i) ∧ ∀ j, lv j → (∀ y, entOf M t = some y → y.i ≠ j) → lv' j := by
    rcases hT with ⟨h1, h2, h3⟩ | ⟨i, h1, h2, h3, h4⟩
    · unfold nOf at h1
      unfold tokOf at h2
      cases he : entOf M t with
      | none => rw [he] at h1; simp at h1; omega
      | some y =>
        rw [he] at h2
        simp at h2
        exact ⟨y.i, h2, h3 _ (hM.live y (entOf_spec he).1), .inl ⟨y, rfl, rfl⟩, fun j hj _ => h3 j hj⟩
    · refine ⟨i, h1, h3, .inr h2, fun j hj hy => h4 j hj ?_⟩
      unfold tokOf
      cases he : entOf M t with
      | none => simp
      | some y => simp; exact hy y he
  obtain ⟨i, h1, h2, h3, h4⟩ := hi
  have hu := upd_good (x := ⟨t, n, i⟩) hM.one hM.key (fun e he => by
    rcases h3 with ⟨y, hy, rfl⟩ | h3
    · by_cases hey : e.i = y.i
      · right
        have : e = y := by
          exact nodup_eq hM.one he (entOf_spec hy).1 hey
        rw [this]; exact (entOf_spec hy).2
      · exact .inl hey
    · left
      have := hlt _ (hM.live e he)
      simp only; omega)
  refine ⟨i, h1, ⟨fun e he => ?_, hu.1, hu.2, fun e he => ?_⟩, fun j hj hn => ?_, fun j hj hn e he => ?_⟩
  · rcases upd_mem he with rfl | ⟨h5, h6⟩
    · exact h2
    · exact h4 _ (hM.live e h5) (fun y hy => Ne.symm (h6 y hy hM.one))
  · rcases upd_mem he with rfl | ⟨h5, _⟩
    · exact hn2
    · exact hM.small e h5
  · exact h4 j hj (fun y hy => hn y (entOf_spec hy).1)
  · rcases upd_mem he with rfl | ⟨h5, _⟩
    · rcases h3 with ⟨y, hy, rfl⟩ | h3
      · exact hn y (entOf_spec hy).1
      · have := hlt j hj; simp only; omega
    · exact hn e h5

set_option maxRecDepth 20000 in
theorem into142 (s : Stock) (ways bs : List DV) (bt : Tok) (fin top : Int) (M : List Ent) (nx : Nat) (lv : Nat → Prop) (v t : Int) (hc : checkS s = 0) (h1 : 0 ≤ v) (h2 : v ≤ 6000) (h3 : 0 ≤ t) (h4 : t ≤ 6000) (hM : GoodM lv M) :
    QCall Tryz.prog 142 ⟨[], [rcell s ways bs bt fin top (.out 1), [.mapc (keysM M) (valsM (s.brake - 40) M)]], nx, lv⟩ [.ptr (.out 0) 0, .int .i64 v, .int .i64 t] (outR (s.brake - 40) (rcell s ways bs bt fin top (.out 1)) nx lv M (.int .i64 (into (s.brake - 40) t v))) := by
  refine QCall.lt fun hlt => ?_
  simp only at hlt
  refine QCall.of_body Tryz.func142 rfl Tryz.ntmps142 (congrArg Array.toList Tryz.results142) ?_
  intro E
  have hk := checkS_ok hc
  simp only [go_sem, rcell, sCells, keys_ok, mget_M, mgK_M, tab_len]
  refine ⟨fun hvt => ?_, fun hvt => ?_⟩
  · exact ⟨by rw [into_end (by omega)], M, rfl, hM, Nat.le_refl _, Keep.refl _ _⟩
  have hn0 : nOf M t ≤ 6001 := by
    unfold nOf
    cases he : entOf M t with
    | none => simp
    | some e => simp; exact hM.small e (entOf_spec he).1
  refine AW_loopS [7, 8, 9, 10, 22, 23, 24, 25, 26, 27, 28, 29, 30, 31, 32, 33, 34, 35, 36, 37, 38, 39, 40, 41, 42, 43, 44, 45, 46, 47, 48, 49, 50, 51]
    (fun (x : Nat × Tok) ρ m => ρ 7 = .sl 1 (tab (s.brake - 40) t x.1) x.2 ∧ ρ 8 = .int .i64 (x.1 : Int) ∧ nOf M t ≤ x.1 ∧ x.1 ≤ 6001 ∧ okT m x.2 ∧
      ∃ nx' lv', m = ⟨[], [rcell s ways bs bt fin top (.out 1), [.mapc (keysM M) (valsM (s.brake - 40) M)]], nx', lv'⟩ ∧ nx ≤ nx' ∧ TokT lv nx (nOf M t) (tokOf M t) x.1 x.2 lv') (fun x => 6001 - x.1) (nOf M t, tokOf M t) ?_ ?_
  · simp only [go_sem, rcell, sCells]
    exact ⟨hn0, tokOf_ok hM, nx, lv, rfl, Nat.le_refl _, .inl ⟨rfl, rfl, fun _ h => h⟩⟩
  · rintro ⟨n, tok⟩ ρ m ⟨e7, e8, g1, g2, g3, nx', lv', rfl, g4, g5⟩
    dsimp only at e7 e8 g1 g2 g3 g5
    simp (disch := omega) only [go_sem, e7, e8, rcell, sCells, keys_ok, tab_len, i64_in]
    refine ⟨fun hle => ⟨fun hgt => ?_, fun hngt => ?_⟩, fun hnle => ?_⟩
    · have e : into (s.brake - 40) t n = goneF n (max t (n - (s.brake - 40))) + into (s.brake - 40) t (max t (n - (s.brake - 40))) := into_step hgt (by omega)
      have hb := into_bd (s.brake - 40) t (max t (n - (s.brake - 40))) h3 (by omega) (by omega)
      have hg : 0 ≤ goneF n (max t (n - (s.brake - 40))) ∧ goneF n (max t (n - (s.brake - 40))) ≤ 100000 := by unfold goneF; omega
      refine drawn (by kernel_rfl) (by kernel_rfl) ?_
      simp only [go_sem]
      refine quietD (gone100 _ _ (by omega) (by omega) (by omega) (by omega)) (fun _ => rfl) ?_
      have hget : (tab (s.brake - 40) t n)[(max t (n - (s.brake - 40))).toNat]? = some (.int .i64 (into (s.brake - 40) t (max t (n - (s.brake - 40))))) := by
        rw [tab_get (by omega)]
        rw [show (((max t (n - (s.brake - 40))).toNat : Nat) : Int) = max t (n - (s.brake - 40)) from by omega]
      simp (disch := omega) only [go_sem, hget, i64_in]
      refine ⟨by omega, fun nx2 lv2 q1 q2 => ?_⟩
      simp (disch := omega) only [go_sem, tab_len, i64_in]
      refine ⟨okT_mono g3 (fun j hj => .inr (q2 j hj)), by omega, by kernel_rfl, (n + 1, .own (nx2 + 1)), ?_, by simp only; omega⟩
      simp only [go_sem, rcell, sCells]
      rw [← tab_succ, e]
      refine ⟨rfl, by simp, by omega, by omega, .inl trivial, _, _, rfl, by omega, g5.grow (by omega) hlt (.inl rfl) (fun j hj ht => .inr ⟨.inr (q2 j hj), ht⟩)⟩
    · have e : into (s.brake - 40) t n = 0 := into_end hngt
      refine ⟨okT_mono g3 (fun j hj => .inr hj), by omega, by kernel_rfl, (n + 1, .own (nx' + 1)), ?_, by simp only; omega⟩
      simp only [go_sem, rcell, sCells]
      rw [← tab_succ, e]
      refine ⟨rfl, by simp, by omega, by omega, .inl trivial, _, _, rfl, by omega, g5.grow (by omega) hlt (.inl rfl) (fun j hj ht => .inr ⟨.inr hj, ht⟩)⟩
    · obtain ⟨i, rfl, k1, k2⟩ := upd_done hM hlt g5 (by omega) g2
      have hget : (tab (s.brake - 40) t n)[v.toNat]? = some (.int .i64 (into (s.brake - 40) t v)) := by
        rw [tab_get (by omega)]
        rw [show ((v.toNat : Nat) : Int) = v from by omega]
      simp (disch := omega) only [go_sem, mset_M', hget]
      exact ⟨h1, rfl, _, rfl, k1, g4, k2⟩
end Go.Proofs.YteadhjclchjfjaaGreat

/- The runner's grade and may, walked. -/
namespace Go.Proofs.YteadhjclchjfjaaGreat
set_option linter.unusedSimpArgs false
set_option linter.unusedVariables false
open Go.AB

structure Piece where
  len : Int
  grade : Int
  speed : Int
def dPiece (p : Piece) : DV := .agg [.int .i64 p.len, .int .i64 p.grade, .int .i64 p.speed]
def pieceOk (p : Piece) : Bool := within p.len 1 300000 && (within p.grade (-40) 40 && within p.speed 1 6000)
theorem pieceOk_iff {p : Piece} : pieceOk p = true ↔ (1 ≤ p.len ∧ p.len ≤ 300000) ∧ (-40 ≤ p.grade ∧ p.grade ≤ 40) ∧ (1 ≤ p.speed ∧ p.speed ≤ 6000) := by
  simp [pieceOk, within]

def pre (way : List Piece) (i : Nat) : Int := ((way.take i).map (·.len)).sum
theorem pre_zero (way : List Piece) : pre way 0 = 0 := by simp [pre]
theorem pre_succ {way : List Piece} {i : Nat} {p : Piece} (h : way[i]? = some p) : pre way (i + 1) = pre way i + p.len := by
  simp [pre, List.take_add_one, h, List.sum_append]
theorem pre_bd {way : List Piece} (h : way.all pieceOk = true) : ∀ i : Nat, 0 ≤ pre way i ∧ pre way i ≤ 300000 * i
  | 0 => by simp [pre]
  | i + 1 => by
    obtain ⟨h1, h2⟩ := pre_bd h i
    cases hp : way[i]? with
    | none =>
      have : pre way (i + 1) = pre way i := by
        unfold pre
        rw [List.take_add_one, hp]
        simp
      rw [this]; omega
    | some p =>
      rw [pre_succ hp]
      have := pieceOk_iff.1 (List.all_eq_true.1 h p (List.mem_of_getElem? hp))
      omega
def total (way : List Piece) : Int := pre way way.length
def begs (way : List Piece) : List DV := (List.range (way.length + 1)).map fun (i : Nat) => DV.int .i64 (pre way i)
theorem begs_get {way : List Piece} {i : Nat} (h : i ≤ way.length) : (begs way)[i]? = some (.int .i64 (pre way i)) := by
  simp [begs, Nat.lt_succ_of_le h]

def gradeF : List Piece → Int → Int
  | [], _ => 0
  | p :: r, at' => match r with
    | [] => p.grade
    | _ :: _ => if at' < p.len then p.grade else gradeF r (at' - p.len)

set_option maxRecDepth 20000 in
theorem grade138 (s : Stock) (way : List Piece) (bt : Tok) (fin top : Int) (M : List Ent) (nx : Nat) (lv : Nat → Prop) (a : Int) (hw : way.all pieceOk = true) (hw0 : way ≠ []) (hl : way.length ≤ 60) (hM : GoodM lv M) :
    QCall Tryz.prog 138 ⟨[], [rcell s (way.map dPiece) (begs way) bt fin top (.out 1), [.mapc (keysM M) (valsM (s.brake - 40) M)]], nx, lv⟩ [.ptr (.out 0) 0, .int .i64 a]
      (outR (s.brake - 40) (rcell s (way.map dPiece) (begs way) bt fin top (.out 1)) nx lv M (.int .i64 (gradeF way a))) := by
  refine QCall.of_body Tryz.func138 rfl Tryz.ntmps138 (congrArg Array.toList Tryz.results138) ?_
  intro E
  simp only [go_sem, rcell, sCells]
  have h0 : 0 < way.length := List.length_pos_iff.2 hw0
  refine AW_loopS [5, 6, 7, 8, 9, 10, 11, 12, 13, 14, 15, 16, 17, 18, 19, 20, 21, 22, 23, 24, 25, 26, 27]
    (fun (i : Nat) ρ m => ρ 5 = .int .i64 (i : Int) ∧ i < way.length ∧ gradeF (way.drop i) (a - pre way i) = gradeF way a ∧ m = ⟨[], [rcell s (way.map dPiece) (begs way) bt fin top (.out 1), [.mapc (keysM M) (valsM (s.brake - 40) M)]], nx, lv⟩) (fun i => way.length - i) 0 ?_ ?_
  · simp only [go_sem, rcell, sCells, pre_zero, List.drop_zero, Int.sub_zero]
    simp [h0]
  · rintro i ρ m ⟨e5, g1, g2, rfl⟩
    obtain ⟨p, hp⟩ : ∃ p, way[i]? = some p := ⟨_, List.getElem?_eq_getElem g1⟩
    have hd : way.drop i = p :: way.drop (i + 1) := by
      rw [List.drop_eq_getElem_cons g1]
      rw [List.getElem?_eq_getElem g1] at hp
      cases hp; rfl
    have hps := pre_succ hp
    by_cases hlt : i + 1 < way.length
    · have hlt' : ((i : Int) + 1 < (way.length : Int)) = True := by simp; omega
      have hget : (begs way)[((i : Int) + 1).toNat]? = some (.int .i64 (pre way (i + 1))) := by
        rw [show ((i : Int) + 1).toNat = i + 1 from by omega]; exact begs_get (by omega)
      obtain ⟨q, hq⟩ : ∃ q, way[i + 1]? = some q := ⟨_, List.getElem?_eq_getElem hlt⟩
      have hd2 : way.drop (i + 1) = q :: way.drop (i + 2) := by
        rw [List.drop_eq_getElem_cons hlt]
        rw [List.getElem?_eq_getElem hlt] at hq
        cases hq; rfl
      have hgr : gradeF (way.drop i) (a - pre way i) = if a - pre way i < p.len then p.grade else gradeF (way.drop (i + 1)) (a - pre way i - p.len) := by
        rw [hd, hd2]; rfl
      rw [hgr] at g2
      simp (disch := omega) only [go_sem, e5, rcell, sCells, i64_in, hlt', hget, hp, dPiece]
      refine ⟨by omega, fun hle => ⟨by kernel_rfl, i + 1, ?_, by simp only; omega⟩, fun hgt => ⟨by omega, ?_, M, rfl, hM, Nat.le_refl _, Keep.refl _ _⟩⟩
      · simp only [go_sem, rcell, sCells]
        rw [if_neg (by omega)] at g2
        refine ⟨by simp, hlt, ?_⟩
        rw [hps, ← g2]
        congr 1
        omega
      · rw [if_pos (by omega)] at g2
        rw [g2]
    · have hlt' : ((i : Int) + 1 < (way.length : Int)) = False := by simp; omega
      have hd2 : way.drop (i + 1) = [] := List.drop_eq_nil_of_le (by omega)
      have hgr : gradeF (way.drop i) (a - pre way i) = p.grade := by rw [hd, hd2]; rfl
      simp (disch := omega) only [go_sem, e5, rcell, sCells, i64_in, hlt', hp, dPiece]
      exact ⟨by omega, by rw [← g2, hgr], M, rfl, hM, Nat.le_refl _, Keep.refl _ _⟩

/-- What a train may do at a place: the pieces from one on. -/
def fitsL (d tail p w : Int) : Int → List Piece → Bool
  | _, [] => true
  | from', x :: r => !(decide (from' < p) && (decide (tail < from' + x.len) && decide (x.speed < w))) && (!(decide (p ≤ from') && decide (from' - p < into d x.speed w)) && fitsL d tail p w (from' + x.len) r)
def fits (s : Stock) (way : List Piece) (tail p fin w : Int) : Bool := decide (into (s.brake - 40) 0 w ≤ fin - p) && fitsL (s.brake - 40) tail p w 0 way

structure Now (nx : Nat) (lv : Nat → Prop) (M : List Ent) (nx' : Nat) (lv' : Nat → Prop) (M' : List Ent) : Prop where
  good : GoodM lv' M'
  le : nx ≤ nx'
  keep : Keep lv M lv' M'
theorem GoodM.more {lv lv' : Nat → Prop} {M : List Ent} (h : GoodM lv M) (hl : ∀ j, lv j → lv' j) : GoodM lv' M := ⟨fun e he => hl _ (h.live e he), h.one, h.key, h.small⟩
theorem Now.refl {nx : Nat} {lv : Nat → Prop} {M : List Ent} (h : GoodM lv M) : Now nx lv M nx lv M := ⟨h, Nat.le_refl _, Keep.refl _ _⟩
theorem Now.more {nx nx' nx2 : Nat} {lv lv' lv2 : Nat → Prop} {M M' : List Ent} (h : Now nx lv M nx' lv' M') (hx : nx' ≤ nx2) (hl : ∀ j, lv' j → lv2 j) : Now nx lv M nx2 lv2 M' :=
  ⟨h.good.more hl, Nat.le_trans h.le hx, fun j h1 h2 => hl j (h.keep.live j h1 h2), fun j h1 h2 => h.keep.apart j h1 h2⟩
theorem Now.call {nx nx' nx2 : Nat} {lv lv' lv2 : Nat → Prop} {M M' M2 : List Ent} (h : Now nx lv M nx' lv' M') (hg : GoodM lv2 M2) (hx : nx' ≤ nx2) (hk : Keep lv' M' lv2 M2) : Now nx lv M nx2 lv2 M2 :=
  ⟨hg, Nat.le_trans h.le hx, h.keep.trans hk⟩

set_option maxHeartbeats 4000000 in
set_option maxRecDepth 20000 in
theorem may140 (s : Stock) (way : List Piece) (bt : Tok) (fin top : Int) (M : List Ent) (nx : Nat) (lv : Nat → Prop) (tail a w : Int) (hc : checkS s = 0) (hw : way.all pieceOk = true) (hl : way.length ≤ 60) (hM : GoodM lv M)
    (h1 : 0 ≤ w) (h2 : w ≤ 6000) (h3 : -1000000000 ≤ tail) (h4 : tail ≤ 1000000000) (h5 : -1000000000 ≤ a) (h6 : a ≤ 1000000000) (h7 : 0 ≤ fin) (h8 : fin ≤ 1000000000) :
    QCall Tryz.prog 140 ⟨[], [rcell s (way.map dPiece) (begs way) bt fin top (.out 1), [.mapc (keysM M) (valsM (s.brake - 40) M)]], nx, lv⟩ [.ptr (.out 0) 0, .int .i64 tail, .int .i64 a, .int .i64 w]
      (outR (s.brake - 40) (rcell s (way.map dPiece) (begs way) bt fin top (.out 1)) nx lv M (.bool (fits s way tail a fin w))) := by
  refine QCall.of_body Tryz.func140 rfl Tryz.ntmps140 (congrArg Array.toList Tryz.results140) ?_
  intro E
  simp only [go_sem, rcell, sCells]
  refine drawnP [2, 2, 3, 2, 2, 2, 2, 2, 2, 1] [(2, [0, 0, 0, 2, 2, 2, 2, 2, 2, 2])] 70 (by kernel_rfl) (by kernel_rfl) (by kernel_rfl) (by kernel_rfl) rfl ?_
  have hbt := into_bd (s.brake - 40) 0 w (by omega) (by have := checkS_ok hc; omega) h2
  simp (config := {maxSteps := 1000000}) (disch := omega) only [go_sem, i64_in]
  intro nx1 lv1 q1 q2
  refine .inr (callR (into142 s _ _ bt fin top M nx1 lv1 w 0 hc h1 h2 (by omega) (by omega) (hM.more q2)) (fun _ => rfl) (fun _ => rfl) (by simp) rfl rfl ?_)
  intro M2 nx2 lv2 k1 k2 k3
  have N := ((Now.refl (nx := nx) hM).more q1 q2).call k1 k2 k3
  clear k1 k2 k3 q1 q2
  simp (config := {maxSteps := 1000000}) (disch := omega) only [go_sem, rcell, sCells, i64_in]
  intro nx3 lv3 q1 q2
  have N := N.more q1 q2
  clear q1 q2
  refine ⟨fun hgt => ⟨by unfold fits; simp; omega, M2, rfl, N.good, N.le, N.keep⟩, fun hle => ?_⟩
  refine AW_loopS [8, 9, 10, 11, 27, 28, 29, 30, 31, 32, 33, 34, 35, 36, 37, 38, 39, 40, 41, 42, 43, 44, 45, 46, 47, 48, 49, 50, 51, 52, 53, 54, 55, 56, 57, 58, 59, 60, 61, 62, 63, 64, 65, 66, 67, 68, 69]
    (fun (i : Nat) ρ m => ρ 27 = .int .i64 (i : Int) ∧ i ≤ way.length ∧ fitsL (s.brake - 40) tail a w (pre way i) (way.drop i) = fitsL (s.brake - 40) tail a w 0 way ∧
      ∃ h nx' lv' M', m = ⟨h, [rcell s (way.map dPiece) (begs way) bt fin top (.out 1), [.mapc (keysM M') (valsM (s.brake - 40) M')]], nx', lv'⟩ ∧ Now nx lv M nx' lv' M') (fun i => way.length - i) 0 ?_ ?_
  · simp only [go_sem, rcell, sCells, pre_zero, List.drop_zero]
    exact ⟨Nat.zero_le _, _, _, _, _, rfl, N⟩
  · rintro i ρ m ⟨e27, g1, g2, h, nx4, lv4, M4, rfl, N4⟩
    by_cases hlt : i < way.length
    · obtain ⟨p, hp⟩ : ∃ p, way[i]? = some p := ⟨_, List.getElem?_eq_getElem hlt⟩
      have hd : way.drop i = p :: way.drop (i + 1) := by
        rw [List.drop_eq_getElem_cons hlt]
        rw [List.getElem?_eq_getElem hlt] at hp
        cases hp; rfl
      have hps := pre_succ hp
      have hpk := pieceOk_iff.1 (List.all_eq_true.1 hw p (List.mem_of_getElem? hp))
      have hb1 := pre_bd hw i
      have hlt' : ((i : Int) < (way.length : Int)) = True := by simp; omega
      have hg1 : (begs way)[i]? = some (.int .i64 (pre way i)) := begs_get (by omega)
      have hg2 : (begs way)[((i : Int) + 1).toNat]? = some (.int .i64 (pre way (i + 1))) := by
        rw [show ((i : Int) + 1).toNat = i + 1 from by omega]; exact begs_get (by omega)
      have hfl : fitsL (s.brake - 40) tail a w (pre way i) (way.drop i) = (!(decide (pre way i < a) && (decide (tail < pre way i + p.len) && decide (p.speed < w))) && (!(decide (a ≤ pre way i) && decide (pre way i - a < into (s.brake - 40) p.speed w)) && fitsL (s.brake - 40) tail a w (pre way (i + 1)) (way.drop (i + 1)))) := by
        rw [hd, hps]; rfl
      rw [hfl] at g2
      have hbi := into_bd (s.brake - 40) p.speed w (by omega) (by have := checkS_ok hc; omega) h2
      simp (config := {maxSteps := 1000000}) (disch := omega) only [go_sem, e27, rcell, sCells, i64_in, hlt', hg1, hg2, hp, dPiece]
      generalize genO (AB.hget h 10) = G
      refine ⟨by omega, by omega, fun hge => .inr (callR (into142 s _ _ bt fin top M4 nx4 lv4 w p.speed hc h1 h2 (by omega) (by omega) N4.good) (fun _ => rfl) (fun _ => rfl) (by simp) rfl rfl ?_), fun hlt2 => ?_⟩
      · intro M5 nx5 lv5 k1 k2 k3
        have N5 := N4.call k1 k2 k3
        clear k1 k2 k3
        simp (config := {maxSteps := 1000000}) (disch := omega) only [go_sem, rcell, sCells, i64_in]
        refine ⟨fun hgt => ⟨?_, M5, rfl, N5.good, N5.le, N5.keep⟩, fun hngt => ⟨by kernel_rfl, i + 1, ?_, by simp only; omega⟩⟩
        · have : fitsL (s.brake - 40) tail a w 0 way = false := by rw [← g2]; simp [hge, hgt]
          simp [fits, this]
        · simp only [go_sem, rcell, sCells]
          refine ⟨by simp, by omega, ?_, _, _, _, _, rfl, N5⟩
          rw [← g2]
          have e1 : ¬ pre way i < a := by omega
          simp [e1, hngt]
      · have e1 : pre way i < a := by omega
        refine ⟨by omega, fun hgt => ⟨fun hsp => ⟨?_, M4, rfl, N4.good, N4.le, N4.keep⟩, fun hsp => ⟨by kernel_rfl, i + 1, ?_, by simp only; omega⟩⟩, fun hngt => ⟨by kernel_rfl, i + 1, ?_, by simp only; omega⟩⟩
        · have : fitsL (s.brake - 40) tail a w 0 way = false := by rw [← g2, ← hps]; simp [e1, hgt, hsp]
          simp [fits, this]
        · simp only [go_sem, rcell, sCells]
          refine ⟨by simp, by omega, ?_, _, _, _, _, rfl, N4⟩
          rw [← g2]
          simp [hlt2, hsp]
        · simp only [go_sem, rcell, sCells]
          refine ⟨by simp, by omega, ?_, _, _, _, _, rfl, N4⟩
          rw [← g2, ← hps]
          simp [hlt2, hngt]
    · have hlt' : ((i : Int) < (way.length : Int)) = False := by simp; omega
      have hd : way.drop i = [] := List.drop_eq_nil_of_le (by omega)
      rw [hd] at g2
      simp (config := {maxSteps := 1000000}) (disch := omega) only [go_sem, e27, rcell, sCells, i64_in, hlt']
      refine ⟨?_, M4, rfl, N4.good, N4.le, N4.keep⟩
      have : fitsL (s.brake - 40) tail a w 0 way = true := by rw [← g2]; rfl
      simp [fits, this]
      omega
end Go.Proofs.YteadhjclchjfjaaGreat

/- One second of a runner, walked. -/
namespace Go.Proofs.YteadhjclchjfjaaGreat
set_option linter.unusedSimpArgs false
set_option linter.unusedVariables false
open Go.AB

structure Sta where
  pos : Int
  v : Int
  work : Int
def dSta (x : Sta) : DV := .agg [.int .i64 x.pos, .int .i64 x.v, .int .i64 x.work]
def eSta (x : Sta) : AV := .agg [.int .i64 x.pos, .int .i64 x.v, .int .i64 x.work]

def findW (f : Int → Bool) (low w : Int) : Int := if h : low ≤ w then (if f w then w else findW f low (w - 1)) else low
termination_by (w - low + 1).toNat
decreasing_by omega
theorem findW_hit {f : Int → Bool} {low w : Int} (h : low ≤ w) (hf : f w = true) : findW f low w = w := by rw [findW, dif_pos h, if_pos hf]
theorem findW_step {f : Int → Bool} {low w : Int} (h : low ≤ w) (hf : f w = false) : findW f low w = findW f low (w - 1) := by rw [findW, dif_pos h, if_neg (by simp [hf])]
theorem findW_end {f : Int → Bool} {low w : Int} (h : ¬ low ≤ w) : findW f low w = low := by rw [findW, dif_neg h]
theorem findW_bd (f : Int → Bool) (low w : Int) : low ≤ findW f low w ∧ findW f low w ≤ max low w := by
  unfold findW
  split
  · split
    · omega
    · have := findW_bd f low (w - 1)
      omega
  · omega
termination_by (w - low + 1).toNat
decreasing_by omega

def lowF (s : Stock) (x : Sta) (g : Int) : Int := max 0 (x.v - (s.brake + g))
def fitAt (s : Stock) (way : List Piece) (x : Sta) (fin w : Int) : Bool := fits s way (x.pos - 100 * s.len) (x.pos + goneF x.v w) fin w
def accF (s : Stock) (x : Sta) (w g : Int) : Int := w - x.v + s.roll + x.v * x.v / s.drag + g
def movedF (s : Stock) (x : Sta) (w g : Int) : Sta := ⟨x.pos + goneF x.v w, w, x.work + s.mass * max (accF s x w g) 0 * goneF x.v w⟩
def speedF (s : Stock) (way : List Piece) (x : Sta) (fin top : Int) : Int := findW (fitAt s way x fin) (lowF s x (gradeF way x.pos)) (min (x.v + gainF s x.v (gradeF way x.pos)) top)
def nextF (s : Stock) (way : List Piece) (x : Sta) (fin top : Int) : Sta := movedF s x (speedF s way x fin top) (gradeF way x.pos)

theorem gradeF_bd : ∀ {way : List Piece} (a : Int), way.all pieceOk = true → -40 ≤ gradeF way a ∧ gradeF way a ≤ 40
  | [], a, _ => by simp [gradeF]
  | [p], a, h => by
    have := pieceOk_iff.1 (List.all_eq_true.1 h p (by simp))
    simp only [gradeF]; omega
  | p :: q :: r, a, h => by
    have hp := pieceOk_iff.1 (List.all_eq_true.1 h p (by simp))
    have ih := gradeF_bd (way := q :: r) (a - p.len) (by simp only [List.all_cons, Bool.and_eq_true] at h ⊢; exact h.2)
    unfold gradeF
    simp only
    split <;> omega

theorem gain_bd {s : Stock} {v g : Int} (hc : checkS s = 0) (h1 : 0 ≤ v) (h2 : v ≤ 6000) (h3 : -40 ≤ g) (h4 : g ≤ 40) : -100 ≤ gainF s v g ∧ gainF s v g ≤ 200 := by
  have hk := checkS_ok hc
  have hp := pull_bd s v hc h1
  have hv := sq_bd h1 h2
  have hd : 0 ≤ v * v / s.drag ∧ v * v / s.drag ≤ 36 := by
    refine ⟨Int.ediv_nonneg (by omega) (by omega), ?_⟩
    have : v * v / s.drag < 37 := Int.ediv_lt_of_lt_mul (by omega) (by omega)
    omega
  unfold gainF
  omega

theorem mul_bd {a b A B : Int} (h1 : 0 ≤ a) (h2 : a ≤ A) (h3 : 0 ≤ b) (h4 : b ≤ B) : 0 ≤ a * b ∧ a * b ≤ A * B :=
  ⟨Int.mul_nonneg h1 h3, Int.mul_le_mul h2 h4 h3 (by omega)⟩
theorem acc_bd {s : Stock} {x : Sta} {w g : Int} (hc : checkS s = 0) (h1 : 0 ≤ x.v) (h2 : x.v ≤ 6000) (h3 : -40 ≤ g) (h4 : g ≤ 40) (h5 : 0 ≤ w) (h6 : w ≤ 6000) : -6100 ≤ accF s x w g ∧ accF s x w g ≤ 6100 ∧ 0 ≤ x.v * x.v / s.drag ∧ x.v * x.v / s.drag ≤ 36 := by
  have hk := checkS_ok hc
  have hv := sq_bd h1 h2
  have hd : 0 ≤ x.v * x.v / s.drag ∧ x.v * x.v / s.drag ≤ 36 := by
    refine ⟨Int.ediv_nonneg (by omega) (by omega), ?_⟩
    have : x.v * x.v / s.drag < 37 := Int.ediv_lt_of_lt_mul (by omega) (by omega)
    omega
  unfold accF
  omega
theorem gone_bd {v w : Int} (h1 : 0 ≤ v) (h2 : v ≤ 6000) (h5 : 0 ≤ w) (h6 : w ≤ 6000) : 0 ≤ goneF v w ∧ goneF v w ≤ 6000 := by unfold goneF; omega

/-- What may be of a state. -/
structure StaOk (x : Sta) (k : Int) : Prop where
  p0 : 0 ≤ x.pos
  p1 : x.pos ≤ 100000000
  v0 : 0 ≤ x.v
  v1 : x.v ≤ 6000
  w0 : 0 ≤ x.work
  w1 : x.work ≤ 1152921504606846976 + k

theorem speed_bd {s : Stock} {way : List Piece} {x : Sta} {fin top k : Int} (hc : checkS s = 0) (hx : StaOk x k) (hw : way.all pieceOk = true) (ht : top ≤ 6000) : 0 ≤ speedF s way x fin top ∧ speedF s way x fin top ≤ 6000 := by
  have hk := checkS_ok hc
  have h0 := hx.v0
  have h1 := hx.v1
  have hg := gradeF_bd x.pos hw
  have := findW_bd (fitAt s way x fin) (lowF s x (gradeF way x.pos)) (min (x.v + gainF s x.v (gradeF way x.pos)) top)
  unfold speedF
  unfold lowF at this ⊢
  omega

theorem next_ok {s : Stock} {way : List Piece} {x : Sta} {fin top k : Int} (hc : checkS s = 0) (hx : StaOk x k) (hw : way.all pieceOk = true) (ht : top ≤ 6000) (hp : x.pos ≤ 99990000) :
    StaOk (nextF s way x fin top) (k + 73200000000) ∧ (nextF s way x fin top).pos ≤ x.pos + 6000 := by
  have hk := checkS_ok hc
  obtain ⟨p0, p1, v0, v1, w0, w1⟩ := hx
  have hg := gradeF_bd x.pos hw
  have hs := speed_bd (fin := fin) (top := top) (k := k) hc ⟨p0, p1, v0, v1, w0, w1⟩ hw ht
  have ha := acc_bd (w := speedF s way x fin top) (g := gradeF way x.pos) hc v0 v1 hg.1 hg.2 hs.1 hs.2
  have hgo := gone_bd v0 v1 hs.1 hs.2
  have m1 := mul_bd (a := s.mass) (A := 2000) (b := max (accF s x (speedF s way x fin top) (gradeF way x.pos)) 0) (B := 6100) (by omega) (by omega) (by omega) (by omega)
  have m2 := mul_bd (A := 12200000) (B := 6000) m1.1 (by omega) hgo.1 hgo.2
  unfold nextF movedF
  refine ⟨⟨?_, ?_, ?_, ?_, ?_, ?_⟩, ?_⟩ <;> simp only <;> omega

set_option maxHeartbeats 4000000 in
set_option maxRecDepth 20000 in
theorem second126 (s : Stock) (way : List Piece) (bt : Tok) (fin top : Int) (M : List Ent) (nx : Nat) (lv : Nat → Prop) (x : Sta) (k : Int) (hc : checkS s = 0) (hw : way.all pieceOk = true) (hw0 : way ≠ []) (hl : way.length ≤ 60) (hM : GoodM lv M)
    (hx : StaOk x k) (hk0 : 0 ≤ k) (hk1 : k ≤ 1000000000000000) (ht0 : 0 ≤ top) (ht : top ≤ 6000) (h7 : 0 ≤ fin) (h8 : fin ≤ 100000000) :
    QCall Tryz.prog 126 ⟨[], [rcell s (way.map dPiece) (begs way) bt fin top (.out 1), [.mapc (keysM M) (valsM (s.brake - 40) M)]], nx, lv⟩ [.ptr (.out 0) 0, eSta x]
      (outR (s.brake - 40) (rcell s (way.map dPiece) (begs way) bt fin top (.out 1)) nx lv M (eSta (nextF s way x fin top))) := by
  refine QCall.of_body Tryz.func126 rfl Tryz.ntmps126 (congrArg Array.toList Tryz.results126) ?_
  intro E
  have hk := checkS_ok hc
  obtain ⟨p0, p1, v0, v1, w0, w1⟩ := hx
  simp only [go_sem, rcell, sCells, eSta]
  refine drawnP [2, 2, 2, 2, 2, 3, 1, 1] [(5, [2, 2, 0, 0, 0, 0, 2, 2])] 121 (by kernel_rfl) (by kernel_rfl) (by kernel_rfl) (by kernel_rfl) rfl ?_
  simp (config := {maxSteps := 1000000}) (disch := omega) only [go_sem, i64_in]
  intro nx1 lv1 q1 q2
  refine .inr (callR (grade138 s way bt fin top M nx1 lv1 x.pos hw hw0 hl (hM.more q2)) (fun _ => rfl) (fun _ => rfl) (by simp) rfl rfl ?_)
  intro M2 nx2 lv2 k1 k2 k3
  have N := ((Now.refl (nx := nx) hM).more q1 q2).call k1 k2 k3
  clear k1 k2 k3 q1 q2
  have hg := gradeF_bd x.pos hw
  generalize hG : gradeF way x.pos = g at hg
  have hga := gain_bd hc v0 v1 hg.1 hg.2
  simp (config := {maxSteps := 1000000}) (disch := omega) only [go_sem, rcell, sCells, i64_in]
  intro nx3 lv3 q1 q2
  have N := N.more q1 q2
  clear q1 q2
  refine drawn (by kernel_rfl) (by kernel_rfl) ?_
  simp (config := {maxSteps := 1000000}) (disch := omega) only [go_sem, i64_in]
  refine quietD (f139 s x.v g hc v0 v1 hg.1 hg.2) (fun _ => rfl) ?_
  simp (config := {maxSteps := 1000000}) (disch := omega) only [go_sem, i64_in]
  intro nx4 lv4 q1 q2
  have N := N.more q1 q2
  clear q1 q2
  have hlow : lowF s x g = max 0 (x.v - (s.brake + g)) := rfl
  have hsp : speedF s way x fin top = findW (fitAt s way x fin) (lowF s x g) (min (x.v + gainF s x.v g) top) := by unfold speedF; rw [hG]
  have hsb : 0 ≤ speedF s way x fin top ∧ speedF s way x fin top ≤ 6000 := speed_bd (k := k) hc ⟨p0, p1, v0, v1, w0, w1⟩ hw ht
  refine AW_loopS [8, 41, 42, 43, 44, 45, 46, 47, 48, 49, 50, 51, 52, 53, 54, 55, 56, 57, 58, 59, 60, 61, 62, 63, 64, 65, 66]
    (fun (u : Int) ρ m => ρ 8 = .int .i64 u ∧ -10000 ≤ u ∧ u ≤ 6000 ∧ findW (fitAt s way x fin) (lowF s x g) u = speedF s way x fin top ∧
      ∃ nx' lv' M', m = ⟨[(3, 0, [.int .i64 x.pos, .int .i64 x.v, .int .i64 x.work]), (4, 0, [.int .i64 0, .int .i64 0, .int .i64 0])], [rcell s (way.map dPiece) (begs way) bt fin top (.out 1), [.mapc (keysM M') (valsM (s.brake - 40) M')]], nx', lv'⟩ ∧ Now nx lv M nx' lv' M') (fun u => (u - lowF s x g + 1).toNat) (min (x.v + gainF s x.v g) top) ?_ ?_
  · simp only [go_sem, rcell, sCells]
    exact ⟨by omega, by omega, hsp.symm, _, _, _, rfl, N⟩
  · rintro u ρ m ⟨e8, g1, g2, g3, nx5, lv5, M5, rfl, N5⟩
    simp only [go_sem]
    refine drawnP [2, 2, 2, 2, 2, 2, 2, 2, 2, 2, 2, 2, 2, 2, 2, 2, 2, 2, 2, 2, 2, 3, 1, 1] [(21, [0, 0, 0, 0, 0, 0, 0, 0, 0, 0, 0, 0, 0, 0, 0, 0, 0, 0, 0, 0, 0, 0, 2, 2])] 121 (by kernel_rfl) (by kernel_rfl) (by kernel_rfl) (by kernel_rfl) rfl ?_
    by_cases hlu : lowF s x g ≤ u
    · have hlu' : (max 0 (x.v - (s.brake + g)) ≤ u) = True := by rw [← hlow]; simp [hlu]
      simp (config := {maxSteps := 1000000}) (disch := omega) only [go_sem, rcell, sCells, i64_in, e8, hlu']
      have hgb : 0 ≤ goneF x.v u ∧ goneF x.v u ≤ 6000 := gone_bd v0 v1 (by omega) g2
      refine quietD (gone100 _ _ (by omega) (by omega) (by omega) (by omega)) (fun _ => rfl) ?_
      simp (config := {maxSteps := 1000000}) (disch := omega) only [go_sem, rcell, sCells, i64_in]
      intro nx6 lv6 q1 q2
      have N6 := N5.more q1 q2
      refine .inr (callR (may140 s way bt fin top M5 nx6 lv6 (x.pos - 100 * s.len) (x.pos + goneF x.v u) u hc hw hl N6.good (by omega) g2 (by omega) (by omega) (by omega) (by omega) h7 (by omega)) (fun _ => rfl) (fun _ => rfl) (by simp) rfl rfl ?_)
      intro M7 nx7 lv7 k1 k2 k3
      have N7 := N6.call k1 k2 k3
      clear k1 k2 k3 q1 q2
      simp (config := {maxSteps := 1000000}) (disch := omega) only [go_sem, rcell, sCells, i64_in]
      intro nx8 lv8 q1 q2
      have N8 := N7.more q1 q2
      clear q1 q2 N7 N6 N5 N
      refine ⟨fun hno => ⟨by kernel_rfl, u - 1, ?_, by simp only; omega⟩, fun hyes => ?_⟩
      · simp only [go_sem, rcell, sCells]
        refine ⟨by omega, by omega, ?_, _, _, _, rfl, N8⟩
        rw [← findW_step hlu (show fitAt s way x fin u = false from hno)]; exact g3
      · have hmx : max u (max 0 (x.v - (s.brake + g))) = speedF s way x fin top := by
          rw [← g3, findW_hit hlu (show fitAt s way x fin u = true from hyes), ← hlow]; omega
        rw [hmx]
        refine drawnP [2, 2, 2, 2, 2, 2, 2, 2, 2, 2, 3, 1] [(10, [2, 2, 2, 2, 2, 2, 2, 2, 2, 2, 0, 3]), (11, [0, 0, 0, 0, 0, 0, 0, 0, 0, 0, 0, 0])] 121 (by kernel_rfl) (by kernel_rfl) (by kernel_rfl) (by kernel_rfl) rfl ?_
        have hgw := gone_bd v0 v1 hsb.1 hsb.2
        have hac := acc_bd (w := speedF s way x fin top) (g := g) hc v0 v1 hg.1 hg.2 hsb.1 hsb.2
        generalize hW : speedF s way x fin top = W at hsb hgw hac ⊢
        simp (config := {maxSteps := 1000000}) (disch := omega) only [go_sem, rcell, sCells, i64_in]
        refine quietD (gone100 _ _ (by omega) (by omega) (by omega) (by omega)) (fun _ => rfl) ?_
        simp (config := {maxSteps := 1000000}) (disch := omega) only [go_sem, rcell, sCells, i64_in]
        intro nx9 lv9 r1 r2
        refine quietD (gone100 _ _ (by omega) (by omega) (by omega) (by omega)) (fun _ => rfl) ?_
        simp (config := {maxSteps := 1000000}) (disch := omega) only [go_sem, rcell, sCells, i64_in]
        intro nx10 lv10 r3 r4 nx11 lv11 r5 r6
        have N11 := ((N8.more r1 r2).more r3 r4).more r5 r6
        clear r1 r2 r3 r4 r5 r6 N8
        refine drawn (by kernel_rfl) (by kernel_rfl) ?_
        unfold accF at hac
        have hvv := sq_bd v0 v1
        simp (config := {maxSteps := 1000000}) (disch := omega) only [go_sem, rcell, sCells, i64_in, tdivE]
        refine ⟨by omega, fun nx12 lv12 r1 r2 => ?_⟩
        have N12 := N11.more r1 r2
        clear r1 r2 N11
        have hnext : nextF s way x fin top = movedF s x W g := by unfold nextF; rw [hW, hG]
        simp only [hnext, movedF, accF]
        generalize hA : W - x.v + s.roll + x.v * x.v / s.drag + g = A at hac ⊢
        refine ⟨fun hu => ?_, fun hu => ?_⟩
        · refine drawnP [2, 2, 2, 2, 2, 2, 2, 2, 2, 2, 2, 2, 2, 2, 2, 2, 2, 3] [(17, [0, 0, 0, 0, 0, 0, 0, 0, 0, 0, 0, 0, 0, 0, 0, 0, 0, 0])] 121 (by kernel_rfl) (by kernel_rfl) (by kernel_rfl) (by kernel_rfl) rfl ?_
          have m1 := mul_bd (a := s.mass) (A := 2000) (b := A) (B := 6100) (by omega) (by omega) (by omega) (by omega)
          have m2 := mul_bd (a := s.mass * A) (A := 12200000) (b := x.pos + goneF x.v W - x.pos) (B := 6000) m1.1 (by omega) (by omega) (by omega)
          simp (config := {maxSteps := 1000000}) (disch := omega) only [go_sem, rcell, sCells, i64_in]
          intro nx13 lv13 r1 r2 nx14 lv14 r3 r4
          have N14 := (N12.more r1 r2).more r3 r4
          refine ⟨?_, M7, rfl, N14.good, N14.le, N14.keep⟩
          rw [show max A 0 = A by omega, show x.pos + goneF x.v W - x.pos = goneF x.v W by omega]
        · refine ⟨?_, M7, rfl, N12.good, N12.le, N12.keep⟩
          rw [show max A 0 = 0 by omega]
          simp
    · have hlu' : (max 0 (x.v - (s.brake + g)) ≤ u) = False := by rw [← hlow]; simp; omega
      simp (config := {maxSteps := 1000000}) (disch := omega) only [go_sem, rcell, sCells, i64_in, e8, hlu']
      have hmx : max u (max 0 (x.v - (s.brake + g))) = speedF s way x fin top := by
        rw [← g3, findW_end hlu, ← hlow]; omega
      intro nx6 lv6 q1 q2 nx8 lv8 q3 q4
      have N8 := (N5.more q1 q2).more q3 q4
      clear q1 q2 q3 q4 N5 N
      rw [hmx]
      refine drawnP [2, 2, 2, 2, 2, 2, 2, 2, 2, 2, 3, 1] [(10, [2, 2, 2, 2, 2, 2, 2, 2, 2, 2, 0, 3]), (11, [0, 0, 0, 0, 0, 0, 0, 0, 0, 0, 0, 0])] 121 (by kernel_rfl) (by kernel_rfl) (by kernel_rfl) (by kernel_rfl) rfl ?_
      have hgw := gone_bd v0 v1 hsb.1 hsb.2
      have hac := acc_bd (w := speedF s way x fin top) (g := g) hc v0 v1 hg.1 hg.2 hsb.1 hsb.2
      generalize hW : speedF s way x fin top = W at hsb hgw hac ⊢
      simp (config := {maxSteps := 1000000}) (disch := omega) only [go_sem, rcell, sCells, i64_in]
      refine quietD (gone100 _ _ (by omega) (by omega) (by omega) (by omega)) (fun _ => rfl) ?_
      simp (config := {maxSteps := 1000000}) (disch := omega) only [go_sem, rcell, sCells, i64_in]
      intro nx9 lv9 r1 r2
      refine quietD (gone100 _ _ (by omega) (by omega) (by omega) (by omega)) (fun _ => rfl) ?_
      simp (config := {maxSteps := 1000000}) (disch := omega) only [go_sem, rcell, sCells, i64_in]
      intro nx10 lv10 r3 r4 nx11 lv11 r5 r6
      have N11 := ((N8.more r1 r2).more r3 r4).more r5 r6
      clear r1 r2 r3 r4 r5 r6 N8
      refine drawn (by kernel_rfl) (by kernel_rfl) ?_
      unfold accF at hac
      have hvv := sq_bd v0 v1
      simp (config := {maxSteps := 1000000}) (disch := omega) only [go_sem, rcell, sCells, i64_in, tdivE]
      refine ⟨by omega, fun nx12 lv12 r1 r2 => ?_⟩
      have N12 := N11.more r1 r2
      clear r1 r2 N11
      have hnext : nextF s way x fin top = movedF s x W g := by unfold nextF; rw [hW, hG]
      simp only [hnext, movedF, accF]
      generalize hA : W - x.v + s.roll + x.v * x.v / s.drag + g = A at hac ⊢
      refine ⟨fun hu => ?_, fun hu => ?_⟩
      · refine drawnP [2, 2, 2, 2, 2, 2, 2, 2, 2, 2, 2, 2, 2, 2, 2, 2, 2, 3] [(17, [0, 0, 0, 0, 0, 0, 0, 0, 0, 0, 0, 0, 0, 0, 0, 0, 0, 0])] 121 (by kernel_rfl) (by kernel_rfl) (by kernel_rfl) (by kernel_rfl) rfl ?_
        have m1 := mul_bd (a := s.mass) (A := 2000) (b := A) (B := 6100) (by omega) (by omega) (by omega) (by omega)
        have m2 := mul_bd (a := s.mass * A) (A := 12200000) (b := x.pos + goneF x.v W - x.pos) (B := 6000) m1.1 (by omega) (by omega) (by omega)
        simp (config := {maxSteps := 1000000}) (disch := omega) only [go_sem, rcell, sCells, i64_in]
        intro nx13 lv13 r1 r2 nx14 lv14 r3 r4
        have N14 := (N12.more r1 r2).more r3 r4
        refine ⟨?_, M5, rfl, N14.good, N14.le, N14.keep⟩
        rw [show max A 0 = A by omega, show x.pos + goneF x.v W - x.pos = goneF x.v W by omega]
      · refine ⟨?_, M5, rfl, N12.good, N12.le, N12.keep⟩
        rw [show max A 0 = 0 by omega]
        simp
end Go.Proofs.YteadhjclchjfjaaGreat

/- Contracts of the errors of ways, lengths and grades. -/
namespace Go.Proofs.YteadhjclchjfjaaGreat
set_option linter.unusedSimpArgs false
set_option linter.unusedVariables false
open Go.AB

def waysV (way : List Piece) : AV := .sl 3 (way.map dPiece) .no
/-- The error of a way. -/
def wayErr (way : List Piece) : Int := if way = [] then 1 else if 60 < way.length then 4 else if way.all pieceOk = true then 0 else 2
def secErr (s : Stock) (way : List Piece) (x : Sta) (fin : Int) : Int :=
  if checkS s ≠ 0 then checkS s else if wayErr way ≠ 0 then wayErr way else
    if within fin 0 (total way) && (within x.pos 0 fin && (within x.v 0 s.top && within x.work 0 1152921504606846976)) then 0 else 2

theorem take_all_p {way : List Piece} {i : Nat} {p : Piece} (h : way[i]? = some p) : (way.take (i + 1)).all pieceOk = ((way.take i).all pieceOk && pieceOk p) := by
  rw [List.take_add_one, h]
  simp
theorem all_bad_p {way : List Piece} {i : Nat} {p : Piece} (h : way[i]? = some p) (hc : pieceOk p = false) : way.all pieceOk = false :=
  List.all_eq_false.2 ⟨p, List.mem_of_getElem? h, by simp [hc]⟩

theorem total_bd {way : List Piece} (h : way.all pieceOk = true) (hl : way.length ≤ 60) : 0 ≤ total way ∧ total way ≤ 18000000 := by
  have := pre_bd h way.length
  unfold total
  omega

theorem f104 (way : List Piece) (a : Int) (hw : way.all pieceOk = true) (hl : way.length ≤ 60) (hw0 : way ≠ []) : PCall Tryz.prog 104 [waysV way, .int .i64 a] (RV (.int .i64 (gradeF way a))) := by
  refine PCall.of_body Tryz.func104 rfl Tryz.ntmps104 (congrArg Array.toList Tryz.results104) ?_
  intro E
  simp only [go_sem, waysV]
  have h0 : 0 < way.length := List.length_pos_iff.2 hw0
  refine AW_loopS [4, 5, 7, 10, 11, 12, 13, 14, 15, 16, 17, 18, 19, 20, 21, 22, 23]
    (fun (i : Nat) ρ m => ρ 10 = .int .i64 (i : Int) ∧ ρ 5 = .int .i64 (pre way i) ∧ (∃ h nx lv, m = ⟨h, [], nx, lv⟩) ∧ i ≤ way.length ∧ (i < way.length → gradeF (way.drop i) (a - pre way i) = gradeF way a) ∧
      (i = way.length → ∀ p, way[way.length - 1]? = some p → p.grade = gradeF way a)) (fun i => way.length - i) 0 ?_ ?_
  · simp only [go_sem, pre_zero]
    refine ⟨⟨_, _, _, rfl⟩, Nat.zero_le _, fun _ => by simp, fun h => by omega⟩
  · rintro i ρ m ⟨e8, e3, ⟨h, nx, lv, rfl⟩, hi, g1, g2⟩
    by_cases hlt : i < way.length
    · have hlt' : ((i : Int) < (way.length : Int)) = True := by simp; omega
      obtain ⟨p, hp⟩ : ∃ p, way[i]? = some p := ⟨_, List.getElem?_eq_getElem hlt⟩
      have h1 := pre_bd hw i
      have h2 := pieceOk_iff.1 (List.all_eq_true.1 hw p (List.mem_of_getElem? hp))
      have h3 := pre_succ hp
      have hd : way.drop i = p :: way.drop (i + 1) := by
        rw [List.drop_eq_getElem_cons hlt]
        rw [List.getElem?_eq_getElem hlt] at hp
        cases hp; rfl
      have g1 := g1 hlt
      simp (disch := omega) only [go_sem, e8, e3, hlt', hp, dPiece, i64_in]
      refine ⟨by omega, fun hlt3 => ?_, fun hge => ?_⟩
      · rw [hd] at g1
        cases hr : way.drop (i + 1) with
        | nil => rw [hr] at g1; simp only [gradeF] at g1; rw [g1]
        | cons q r => rw [hr] at g1; simp only [gradeF] at g1; rw [if_pos (by omega)] at g1; rw [g1]
      · refine ⟨by kernel_rfl, i + 1, ?_, by simp only; omega⟩
        simp only [go_sem, h3]
        refine ⟨by simp, ⟨_, _, _, rfl⟩, by omega, fun h5 => ?_, fun h5 q hq => ?_⟩
        · obtain ⟨q, hq⟩ : ∃ q, way[i + 1]? = some q := ⟨_, List.getElem?_eq_getElem h5⟩
          have hd2 : way.drop (i + 1) = q :: way.drop (i + 2) := by
            rw [List.drop_eq_getElem_cons h5]
            rw [List.getElem?_eq_getElem h5] at hq
            cases hq; rfl
          rw [hd, hd2] at g1
          simp only [gradeF] at g1
          rw [if_neg (by omega)] at g1
          rw [hd2, ← g1]
          simp only [gradeF]
          rw [show a - (pre way i + p.len) = a - pre way i - p.len by omega]
        · have : way.length - 1 = i := by omega
          rw [this, hp] at hq
          cases hq
          rw [hd, show way.drop (i + 1) = [] from List.drop_eq_nil_of_le (by omega)] at g1
          exact g1
    · have hlt' : ((i : Int) < (way.length : Int)) = False := by simp; omega
      obtain ⟨p, hp⟩ : ∃ p, way[way.length - 1]? = some p := ⟨_, List.getElem?_eq_getElem (by omega)⟩
      have hp' : way[((way.length : Int) - 1).toNat]? = some p := by rw [← hp]; congr 1; omega
      simp (disch := omega) only [go_sem, e8, e3, hlt', hp', dPiece, i64_in]
      refine ⟨by omega, ?_⟩
      rw [g2 (by omega) p hp]

theorem f105 (s : Stock) (v g : Int) (hc : checkS s = 0) (h1 : 0 ≤ v) (h2 : v ≤ 6000) (h3 : -40 ≤ g) (h4 : g ≤ 40) : PCall Tryz.prog 105 [eStock s, .int .i64 v, .int .i64 g] (RV (.int .i64 (max 0 (v - (s.brake + g))))) := by
  refine PCall.of_body Tryz.func105 rfl Tryz.ntmps105 (congrArg Array.toList Tryz.results105) ?_
  intro E
  have hk := checkS_ok hc
  simp (disch := omega) only [go_sem, eStock, i64_in]
  omega
end Go.Proofs.YteadhjclchjfjaaGreat

/- Contracts of Fits, moved and SecondOf. -/
namespace Go.Proofs.YteadhjclchjfjaaGreat
set_option linter.unusedSimpArgs false
set_option linter.unusedVariables false
open Go.AB

def sBox (s : Stock) : List AV := sCells s []

set_option maxHeartbeats 4000000 in
set_option maxRecDepth 20000 in
theorem f107 (s : Stock) (way : List Piece) (tail a fin w : Int) (hc : checkS s = 0) (hw : way.all pieceOk = true) (hl : way.length ≤ 60)
    (h1 : 0 ≤ w) (h2 : w ≤ 6000) (h3 : -1000000000 ≤ tail) (h4 : tail ≤ 1000000000) (h5 : -1000000000 ≤ a) (h6 : a ≤ 1000000000) (h7 : 0 ≤ fin) (h8 : fin ≤ 1000000000) :
    PCall Tryz.prog 107 [eStock s, waysV way, .int .i64 tail, .int .i64 a, .int .i64 fin, .int .i64 w] (RV (.bool (fits s way tail a fin w))) := by
  refine PCall.of_body Tryz.func107 rfl Tryz.ntmps107 (congrArg Array.toList Tryz.results107) ?_
  intro E
  have hk := checkS_ok hc
  simp only [go_sem, eStock, waysV]
  refine callV (f76 s w h1 h2 (by omega) (by omega)) ?_
  intro nx lv
  simp (disch := omega) only [go_sem, i64_in]
  refine ⟨fun hgt => by unfold fits; simp; omega, fun hle => ?_⟩
  refine AW_loopS [12, 13, 15, 16, 26, 27, 28, 29, 30, 31, 32, 33, 34, 35, 36, 37, 38, 39, 40, 41, 42, 43, 44, 45, 46, 47, 48, 49, 50, 51, 52, 53, 54, 55, 56, 57, 58, 59, 60, 61, 62, 63]
    (fun (i : Nat) ρ m => ρ 26 = .int .i64 (i : Int) ∧ ρ 13 = .int .i64 (pre way i) ∧ i ≤ way.length ∧ fitsL (s.brake - 40) tail a w (pre way i) (way.drop i) = fitsL (s.brake - 40) tail a w 0 way ∧
      ∃ h nx' lv', m = ⟨h, [], nx', lv'⟩ ∧ AB.hget h 6 = some (0, sBox s)) (fun i => way.length - i) 0 ?_ ?_
  · simp only [go_sem, pre_zero, List.drop_zero, sBox, sCells]
    exact ⟨Nat.zero_le _, _, _, _, rfl, by simp [go_sem]⟩
  · rintro i ρ m ⟨e26, e13, g1, g2, h, nx4, lv4, rfl, hb⟩
    by_cases hlt : i < way.length
    · obtain ⟨p, hp⟩ : ∃ p, way[i]? = some p := ⟨_, List.getElem?_eq_getElem hlt⟩
      have hd : way.drop i = p :: way.drop (i + 1) := by
        rw [List.drop_eq_getElem_cons hlt]
        rw [List.getElem?_eq_getElem hlt] at hp
        cases hp; rfl
      have hps := pre_succ hp
      have hpk := pieceOk_iff.1 (List.all_eq_true.1 hw p (List.mem_of_getElem? hp))
      have hb1 := pre_bd hw i
      have hlt' : ((i : Int) < (way.length : Int)) = True := by simp; omega
      have hfl : fitsL (s.brake - 40) tail a w (pre way i) (way.drop i) = (!(decide (pre way i < a) && (decide (tail < pre way i + p.len) && decide (p.speed < w))) && (!(decide (a ≤ pre way i) && decide (pre way i - a < into (s.brake - 40) p.speed w)) && fitsL (s.brake - 40) tail a w (pre way (i + 1)) (way.drop (i + 1)))) := by
        rw [hd, hps]; rfl
      rw [hfl] at g2
      have hbi := into_bd (s.brake - 40) p.speed w (by omega) (by omega) h2
      by_cases hA : pre way i < a
      · have hA2 : (a ≤ pre way i) = False := by simp; omega
        simp (config := {maxSteps := 1000000}) (disch := omega) only [go_sem, e26, e13, hlt', hp, dPiece, i64_in, hA, hA2, hb, sBox, sCells]
        generalize genO (AB.hget h 15) = G
        have bad : tail < pre way i + p.len → p.speed < w → fitsL (s.brake - 40) tail a w 0 way = false := fun q1 q2 => by rw [← g2]; simp [hA, q1, q2]
        have go : ¬ (tail < pre way i + p.len ∧ p.speed < w) → fitsL (s.brake - 40) tail a w (pre way (i + 1)) (way.drop (i + 1)) = fitsL (s.brake - 40) tail a w 0 way := fun q => by
          rw [← g2]
          have e1 : decide (a ≤ pre way i) = false := by simp; omega
          have e2 : (decide (tail < pre way i + p.len) && decide (p.speed < w)) = false := by simpa using q
          rw [e1, e2]; simp
        refine ⟨by omega, fun q1 => ⟨fun q2 => by simp [fits, bad q1 q2], fun q2 => ⟨by kernel_rfl, i + 1, ?_, by simp only; omega⟩⟩, fun q1 => ⟨by kernel_rfl, i + 1, ?_, by simp only; omega⟩⟩
        · simp only [go_sem, hps]
          exact ⟨by simp, by omega, by rw [← hps]; exact go (fun q => q2 q.2), _, _, _, rfl, by simp [go_sem, hb, sBox, sCells]⟩
        · simp only [go_sem, hps]
          exact ⟨by simp, by omega, by rw [← hps]; exact go (fun q => q1 q.1), _, _, _, rfl, by simp [go_sem, hb, sBox, sCells]⟩
      · have hA1 : (pre way i < a) = False := by simp; omega
        have hA2 : (a ≤ pre way i) = True := by simp; omega
        simp (config := {maxSteps := 1000000}) (disch := omega) only [go_sem, e26, e13, hlt', hp, dPiece, i64_in, hA1, hA2, hb, sBox, sCells]
        generalize genO (AB.hget h 15) = G
        refine ⟨by omega, callV (f109 s w p.speed h1 h2 (by omega) (by omega) (by omega) (by omega)) ?_⟩
        intro nx5 lv5
        simp (config := {maxSteps := 1000000}) (disch := omega) only [go_sem, i64_in]
        have go : ¬ pre way i - a < into (s.brake - 40) p.speed w → fitsL (s.brake - 40) tail a w (pre way (i + 1)) (way.drop (i + 1)) = fitsL (s.brake - 40) tail a w 0 way := fun q => by
          rw [← g2]
          have e1 : decide (pre way i < a) = false := by simp; omega
          have e2 : decide (pre way i - a < into (s.brake - 40) p.speed w) = false := by simpa using q
          rw [e1, e2]; simp
        refine ⟨fun q => ?_, fun q => ⟨by kernel_rfl, i + 1, ?_, by simp only; omega⟩⟩
        · have : fitsL (s.brake - 40) tail a w 0 way = false := by
            rw [← g2]
            have e1 : decide (a ≤ pre way i) = true := by simp; omega
            have e2 : decide (pre way i - a < into (s.brake - 40) p.speed w) = true := by simpa using q
            rw [e1, e2]; simp
          simp [fits, this]
        · simp only [go_sem, hps]
          exact ⟨by simp, by omega, by rw [← hps]; exact go q, _, _, _, rfl, by simp [go_sem, hb, sBox, sCells]⟩
    · have hlt' : ((i : Int) < (way.length : Int)) = False := by simp; omega
      have hd : way.drop i = [] := List.drop_eq_nil_of_le (by omega)
      rw [hd] at g2
      simp (config := {maxSteps := 1000000}) (disch := omega) only [go_sem, e26, e13, hlt']
      have : fitsL (s.brake - 40) tail a w 0 way = true := by rw [← g2]; rfl
      simp [fits, this]
      omega

set_option maxRecDepth 20000 in
theorem f108 (s : Stock) (x : Sta) (w g k : Int) (hc : checkS s = 0) (hx : StaOk x k) (hk0 : 0 ≤ k) (hk1 : k ≤ 1000000000000000) (h1 : 0 ≤ w) (h2 : w ≤ 6000) (h3 : -40 ≤ g) (h4 : g ≤ 40) :
    PCall Tryz.prog 108 [eStock s, eSta x, .int .i64 w, .int .i64 g] (RV (eSta (movedF s x w g))) := by
  refine PCall.of_body Tryz.func108 rfl Tryz.ntmps108 (congrArg Array.toList Tryz.results108) ?_
  intro E
  have hk := checkS_ok hc
  obtain ⟨p0, p1, v0, v1, w0, w1⟩ := hx
  have hgw := gone_bd v0 v1 h1 h2
  unfold goneF at hgw
  have hac := acc_bd (w := w) (g := g) hc v0 v1 h3 h4 h1 h2
  unfold accF at hac
  have hvv := sq_bd v0 v1
  simp (config := {maxSteps := 1000000}) (disch := omega) only [go_sem, eStock, eSta, i64_in, tdiv2]
  refine drawn (by kernel_rfl) (by kernel_rfl) ?_
  simp (config := {maxSteps := 1000000}) (disch := omega) only [go_sem, i64_in, tdivE]
  refine ⟨by omega, fun nx _ => ?_⟩
  simp only [movedF, accF, goneF]
  generalize w - x.v + s.roll + x.v * x.v / s.drag + g = A at hac ⊢
  generalize (x.v + w + 1) / 2 = F at hgw ⊢
  have m1 := mul_bd (a := s.mass) (A := 2000) (b := max A 0) (B := 6100) (by omega) (by omega) (by omega) (by omega)
  have m2 := mul_bd (a := s.mass * max A 0) (A := 12200000) (b := F) (B := 6000) m1.1 (by omega) (by omega) (by omega)
  simp (disch := omega) only [i64_in]
  exact ⟨trivial, trivial, trivial⟩

set_option maxHeartbeats 4000000 in
set_option maxRecDepth 20000 in
theorem f75 (s : Stock) (way : List Piece) (x : Sta) (fin top k : Int) (hc : checkS s = 0) (hw : way.all pieceOk = true) (hw0 : way ≠ []) (hl : way.length ≤ 60)
    (hx : StaOk x k) (hk0 : 0 ≤ k) (hk1 : k ≤ 1000000000000000) (ht0 : 0 ≤ top) (ht : top ≤ 6000) (h7 : 0 ≤ fin) (h8 : fin ≤ 100000000) :
    PCall Tryz.prog 75 [eStock s, waysV way, eSta x, .int .i64 fin, .int .i64 top] (RV (eSta (nextF s way x fin top))) := by
  refine PCall.of_body Tryz.func75 rfl Tryz.ntmps75 (congrArg Array.toList Tryz.results75) ?_
  intro E
  have hk := checkS_ok hc
  have hx' := hx
  obtain ⟨p0, p1, v0, v1, w0, w1⟩ := hx
  have hg := gradeF_bd x.pos hw
  have hsb : 0 ≤ speedF s way x fin top ∧ speedF s way x fin top ≤ 6000 := speed_bd (k := k) hc hx' hw ht
  simp only [go_sem, eStock, eSta, waysV]
  refine callV (f104 way x.pos hw hl hw0) ?_
  intro nx lv
  generalize hG : gradeF way x.pos = g at hg
  have hga := gain_bd hc v0 v1 hg.1 hg.2
  simp only [go_sem]
  refine callV (f105 s x.v g hc v0 v1 hg.1 hg.2) ?_
  intro nx lv
  simp only [go_sem]
  refine drawn (by kernel_rfl) (by kernel_rfl) ?_
  simp (config := {maxSteps := 1000000}) (disch := omega) only [go_sem, i64_in]
  refine quietD (f106 s x.v g hc v0 v1 hg.1 hg.2) (fun _ => rfl) ?_
  simp (config := {maxSteps := 1000000}) (disch := omega) only [go_sem, i64_in]
  intro nx4 lv4 q1 q2
  clear q1 q2
  have hlow : lowF s x g = max 0 (x.v - (s.brake + g)) := rfl
  have hsp : speedF s way x fin top = findW (fitAt s way x fin) (lowF s x g) (min (x.v + gainF s x.v g) top) := by unfold speedF; rw [hG]
  have hnext : nextF s way x fin top = movedF s x (speedF s way x fin top) g := by unfold nextF; rw [hG]
  refine AW_loopS [13, 33, 34, 35, 36, 37, 38, 39, 40, 41, 42, 43, 44, 45, 46, 47, 48, 49, 50, 51, 52, 53, 54, 55, 56, 57, 58, 59, 60, 61, 62]
    (fun (u : Int) ρ m => ρ 13 = .int .i64 u ∧ -10000 ≤ u ∧ u ≤ 6000 ∧ findW (fitAt s way x fin) (lowF s x g) u = speedF s way x fin top ∧
      ∃ nx' lv', m = ⟨[(5, 0, sBox s), (7, 0, [.int .i64 x.pos, .int .i64 x.v, .int .i64 x.work]), (10, 0, [.int .i64 0, .int .i64 0, .int .i64 0])], [], nx', lv'⟩) (fun u => (u - lowF s x g + 1).toNat) (min (x.v + gainF s x.v g) top) ?_ ?_
  · simp only [go_sem, sBox, sCells]
    exact ⟨by omega, by omega, hsp.symm, _, _, rfl⟩
  · rintro u ρ m ⟨e8, g1, g2, g3, nx5, lv5, rfl⟩
    by_cases hlu : lowF s x g ≤ u
    · have hlu' : (max 0 (x.v - (s.brake + g)) ≤ u) = True := by rw [← hlow]; simp [hlu]
      have hgb : 0 ≤ goneF x.v u ∧ goneF x.v u ≤ 6000 := gone_bd v0 v1 (by omega) g2
      unfold goneF at hgb
      simp (config := {maxSteps := 1000000}) (disch := omega) only [go_sem, sBox, sCells, i64_in, tdiv2, e8, hlu']
      refine callV (f107 s way (x.pos - 100 * s.len) (x.pos + (x.v + u + 1) / 2) fin u hc hw hl (by omega) g2 (by omega) (by omega) (by omega) (by omega) h7 (by omega)) ?_
      intro nx6 lv6
      simp (config := {maxSteps := 1000000}) (disch := omega) only [go_sem, sBox, sCells, i64_in]
      refine ⟨fun hyes => ?_, fun hno => ⟨by kernel_rfl, u - 1, ?_, by simp only; omega⟩⟩
      · have hmx : u = speedF s way x fin top := by
          rw [← g3, findW_hit hlu (show fitAt s way x fin u = true from hyes)]
        refine callV (f108 s x u g k hc hx' hk0 hk1 (by omega) g2 hg.1 hg.2) ?_
        intro nx7 lv7
        simp (config := {maxSteps := 1000000}) (disch := omega) only [go_sem, eSta]
        rw [hnext, ← hmx]
        exact ⟨rfl, rfl, rfl⟩
      · simp only [go_sem, sBox, sCells]
        refine ⟨by omega, by omega, ?_, _, _, rfl⟩
        rw [← findW_step hlu (show fitAt s way x fin u = false from hno)]; exact g3
    · have hlu' : (max 0 (x.v - (s.brake + g)) ≤ u) = False := by rw [← hlow]; simp; omega
      simp (config := {maxSteps := 1000000}) (disch := omega) only [go_sem, sBox, sCells, i64_in, e8, hlu']
      have hmx : max 0 (x.v - (s.brake + g)) = speedF s way x fin top := by
        rw [← g3, findW_end hlu, ← hlow]
      rw [hmx]
      refine callV (f108 s x (speedF s way x fin top) g k hc hx' hk0 hk1 hsb.1 hsb.2 hg.1 hg.2) ?_
      intro nx7 lv7
      simp (config := {maxSteps := 1000000}) (disch := omega) only [go_sem, eSta]
      rw [hnext]
      exact ⟨rfl, rfl, rfl⟩
end Go.Proofs.YteadhjclchjfjaaGreat

/- Contracts of the errors of a second. -/
namespace Go.Proofs.YteadhjclchjfjaaGreat
set_option linter.unusedSimpArgs false
set_option linter.unusedVariables false
open Go.AB

theorem secErr_ok {s : Stock} {way : List Piece} {x : Sta} {fin : Int} (h : secErr s way x fin = 0) : checkS s = 0 ∧ wayErr way = 0 ∧ (0 ≤ fin ∧ fin ≤ total way) ∧ (0 ≤ x.pos ∧ x.pos ≤ fin) ∧ (0 ≤ x.v ∧ x.v ≤ s.top) ∧ (0 ≤ x.work ∧ x.work ≤ 1152921504606846976) := by
  unfold secErr at h
  split at h
  · rename_i h1; exact absurd h h1
  · rename_i h1
    split at h
    · rename_i h2; exact absurd h h2
    · rename_i h2
      split at h
      · rename_i h3
        simp only [within, Bool.and_eq_true, decide_eq_true_eq] at h3
        exact ⟨by simpa using h1, by simpa using h2, h3⟩
      · cases h
theorem wayErr_ok {way : List Piece} (h : wayErr way = 0) : way ≠ [] ∧ way.length ≤ 60 ∧ way.all pieceOk = true := by
  unfold wayErr at h
  repeat' split at h
  all_goals first | cases h | skip
  rename_i h1 h2 h3
  exact ⟨h1, by omega, h3⟩

set_option maxHeartbeats 4000000 in
set_option maxRecDepth 20000 in
theorem f59 (s : Stock) (way : List Piece) (x : Sta) (fin : Int) (hs : s.name.length ≤ 140737488351232) : PCall Tryz.prog 59 [eStock s, waysV way, eSta x, .int .i64 fin] (RV (.int .i64 (secErr s way x fin))) := by
  refine PCall.of_body Tryz.func59 rfl Tryz.ntmps59 (congrArg Array.toList Tryz.results59) ?_
  intro E
  simp only [go_sem, eStock, eSta, waysV]
  refine callV (f18 s hs) ?_
  intro nx lv
  simp only [go_sem]
  refine ⟨fun h => by simp [secErr, h], fun h => ⟨fun h1 => ?_, fun h1 => ⟨fun h2 => ?_, fun h2 => ?_⟩⟩⟩
  · have : way = [] := List.length_eq_zero_iff.1 (by omega)
    simp [secErr, h, wayErr, this]
  · have : way ≠ [] := fun e => by simp [e] at h1
    have : wayErr way = 4 := by unfold wayErr; rw [if_neg this, if_pos (by omega)]
    simp [secErr, h, this]
  have hw0 : way ≠ [] := fun e => by simp [e] at h1
  have hl : way.length ≤ 60 := by omega
  refine AW_loopS [8, 10, 12, 28, 29, 30, 31, 32, 33, 34, 35, 36, 37, 38, 39, 40, 41, 42, 43, 44, 45, 46, 47, 48, 49, 50, 51, 52]
    (fun (i : Nat) ρ m => ρ 28 = .int .i64 (i : Int) ∧ ρ 10 = .int .i64 (pre way i) ∧ (∃ h nx lv, m = ⟨h, [], nx, lv⟩ ∧ AB.hget h 4 = some (0, sBox s) ∧ AB.hget h 6 = some (0, [.int .i64 x.pos, .int .i64 x.v, .int .i64 x.work])) ∧ i ≤ way.length ∧ (way.take i).all pieceOk = true ∧ (0 ≤ pre way i ∧ pre way i ≤ 300000 * i)) (fun i => way.length - i) 0 ?_ ?_
  · simp only [go_sem, pre_zero, sBox, sCells]
    exact ⟨⟨_, _, _, rfl, by simp [go_sem], by simp [go_sem]⟩, Nat.zero_le _⟩
  · rintro i ρ m ⟨e28, e10, ⟨hh, nx, lv, rfl, hb4, hb6⟩, hi, hall, hpb⟩
    by_cases hlt : i < way.length
    · have hlt' : ((i : Int) < (way.length : Int)) = True := by simp; omega
      obtain ⟨p, hp⟩ : ∃ p, way[i]? = some p := ⟨_, List.getElem?_eq_getElem hlt⟩
      have ht := take_all_p hp
      have hps := pre_succ hp
      have bad : pieceOk p = false → secErr s way x fin = 2 := fun hb => by
        have : wayErr way = 2 := by
          unfold wayErr
          rw [if_neg hw0, if_neg (by omega), if_neg (by rw [all_bad_p hp hb]; simp)]
        simp [secErr, h, this]
      simp (config := {maxSteps := 1000000}) (disch := omega) only [go_sem, e28, e10, hlt', hp, dPiece, i64_in]
      refine ⟨by omega, ?_⟩
      generalize genO (AB.hget hh 12) = G
      refine callV (f50 _ _ _) ?_
      intro nx2 lv2
      by_cases a1 : within p.len 1 300000 = true
      · simp (config := {maxSteps := 1000000}) only [go_sem, a1]
        refine callV (f50 _ _ _) ?_
        intro nx3 lv3
        by_cases a2 : within p.grade (-40) 40 = true
        · simp (config := {maxSteps := 1000000}) only [go_sem, a2]
          refine callV (f50 _ _ _) ?_
          intro nx4 lv4
          by_cases a3 : within p.speed 1 6000 = true
          · have hok : pieceOk p = true := by simp [pieceOk, a1, a2, a3]
            have hk := pieceOk_iff.1 hok
            simp (config := {maxSteps := 1000000}) (disch := omega) only [go_sem, a3, i64_in]
            refine ⟨by kernel_rfl, i + 1, ?_, by simp only; omega⟩
            simp only [go_sem, hps]
            refine ⟨by simp, ⟨_, _, _, rfl, by simp [go_sem, hb4], by simp [go_sem, hb6]⟩, by omega, ?_, by omega⟩
            rw [ht, hall, hok]; rfl
          · have a3 : within p.speed 1 6000 = false := by simpa using a3
            simp (config := {maxSteps := 1000000}) only [go_sem, a3]
            rw [bad (by simp [pieceOk, a3])]
        · have a2 : within p.grade (-40) 40 = false := by simpa using a2
          simp (config := {maxSteps := 1000000}) only [go_sem, a2]
          rw [bad (by simp [pieceOk, a2])]
      · have a1 : within p.len 1 300000 = false := by simpa using a1
        simp (config := {maxSteps := 1000000}) only [go_sem, a1]
        rw [bad (by simp [pieceOk, a1])]
    · have hlt' : ((i : Int) < (way.length : Int)) = False := by simp; omega
      have hi2 : i = way.length := by omega
      have hw : way.all pieceOk = true := by rw [← hall, hi2, List.take_length]
      have hwe : wayErr way = 0 := by
        unfold wayErr
        rw [if_neg hw0, if_neg (by omega), if_pos hw]
      have htt : pre way i = total way := by rw [hi2]; rfl
      have res : ∀ b : Bool, b = (within fin 0 (total way) && (within x.pos 0 fin && (within x.v 0 s.top && within x.work 0 1152921504606846976))) → (if b = true then (0 : Int) else 2) = secErr s way x fin := by
        intro b hb
        simp [secErr, h, hwe, hb]
      simp (config := {maxSteps := 1000000}) (disch := omega) only [go_sem, e28, e10, hlt', htt]
      refine callV (f50 _ _ _) ?_
      intro nx2 lv2
      by_cases a1 : within fin 0 (total way) = true
      · simp (config := {maxSteps := 1000000}) only [go_sem, a1, hb4, hb6, sBox, sCells]
        refine callV (f50 _ _ _) ?_
        intro nx3 lv3
        by_cases a2 : within x.pos 0 fin = true
        · simp (config := {maxSteps := 1000000}) only [go_sem, a2, hb4, hb6, sBox, sCells]
          refine callV (f50 _ _ _) ?_
          intro nx4 lv4
          by_cases a3 : within x.v 0 s.top = true
          · simp (config := {maxSteps := 1000000}) only [go_sem, a3, hb4, hb6, sBox, sCells]
            refine callV (f50 _ _ _) ?_
            intro nx5 lv5
            by_cases a4 : within x.work 0 1152921504606846976 = true
            · simp (config := {maxSteps := 1000000}) only [go_sem, a4]
              rw [← res true (by simp [a1, a2, a3, a4])]; rfl
            · have a4 : within x.work 0 1152921504606846976 = false := by simpa using a4
              simp (config := {maxSteps := 1000000}) only [go_sem, a4]
              rw [← res false (by simp [a4])]; rfl
          · have a3 : within x.v 0 s.top = false := by simpa using a3
            simp (config := {maxSteps := 1000000}) only [go_sem, a3]
            rw [← res false (by simp [a3])]; rfl
        · have a2 : within x.pos 0 fin = false := by simpa using a2
          simp (config := {maxSteps := 1000000}) only [go_sem, a2]
          rw [← res false (by simp [a2])]; rfl
      · have a1 : within fin 0 (total way) = false := by simpa using a1
        simp (config := {maxSteps := 1000000}) only [go_sem, a1]
        rw [← res false (by simp [a1])]; rfl
end Go.Proofs.YteadhjclchjfjaaGreat

/- Contracts of newRunner and of Second. -/
namespace Go.Proofs.YteadhjclchjfjaaGreat
set_option linter.unusedSimpArgs false
set_option linter.unusedVariables false
open Go.AB

def begsTo (way : List Piece) (i : Nat) : List DV := (List.range (i + 1)).map fun (j : Nat) => DV.int .i64 (pre way j)
theorem begsTo_len (way : List Piece) (i : Nat) : (begsTo way i).length = i + 1 := by simp [begsTo]
theorem begsTo_get (way : List Piece) (i : Nat) : (begsTo way i)[i]? = some (.int .i64 (pre way i)) := by simp [begsTo]
theorem begsTo_succ (way : List Piece) (i : Nat) : begsTo way i ++ [.int .i64 (pre way (i + 1))] = begsTo way (i + 1) := by simp [begsTo, List.range_succ]
theorem begsTo_zero (way : List Piece) : begsTo way 0 = [.int .i64 0] := by simp [begsTo, pre_zero]

/-- A new runner lies in the caller's memory. -/
def newR (s : Stock) (way : List Piece) (fin top : Int) (h : List (Nat × Nat × List AV)) (nx : Nat) (lv : Nat → Prop) : AH → AV → Prop := fun m r =>
  ∃ h' nx' lv' i G G2, m = ⟨h', [], nx', lv'⟩ ∧ r = .ptr (.own 19 G) 0 ∧ AB.hget h' 19 = some (G, rcell s (way.map dPiece) (begs way) (.own i) fin top (.own 17 G2)) ∧ AB.hget h' 17 = some (G2, [.mapc [] []]) ∧
    lv' i ∧ nx ≤ i ∧ nx ≤ nx' ∧ (∀ j, lv j → lv' j) ∧ ∀ t, t ≠ 4 → t ≠ 11 → t ≠ 17 → t ≠ 19 → AB.hget h' t = AB.hget h t

set_option maxHeartbeats 4000000 in
set_option maxRecDepth 20000 in
theorem new98 (s : Stock) (way : List Piece) (fin top : Int) (h : List (Nat × Nat × List AV)) (nx : Nat) (lv : Nat → Prop) (hw : way.all pieceOk = true) (hl : way.length ≤ 60) :
    QCall Tryz.prog 98 ⟨h, [], nx, lv⟩ [eStock s, waysV way, .int .i64 fin, .int .i64 top] (newR s way fin top h nx lv) := by
  refine QCall.lt fun hlt0 => ?_
  simp only at hlt0
  refine QCall.of_body Tryz.func98 rfl Tryz.ntmps98 (congrArg Array.toList Tryz.results98) ?_
  intro E
  simp (config := {maxSteps := 1000000}) only [go_sem, eStock, waysV]
  generalize genO (AB.hget h 4) = G4
  generalize genO (AB.hget h 17) = G2
  generalize genO (AB.hget h 19) = G
  refine AW_loopS [10, 11, 22, 23, 24, 25, 26, 27, 28, 29, 30, 31, 32, 33, 34, 35, 36, 37, 38, 39, 40, 41, 42, 43, 44, 45, 46]
    (fun (i : Nat) ρ m => ρ 22 = .int .i64 (i : Int) ∧ i ≤ way.length ∧ ∃ h' nx' lv' k, m = ⟨h', [], nx', lv'⟩ ∧ AB.hget h' 19 = some (G, rcell s (way.map dPiece) (begsTo way i) (.own k) fin top (.own 17 G2)) ∧ AB.hget h' 17 = some (G2, [.mapc [] []]) ∧
      lv' k ∧ nx ≤ k ∧ nx ≤ nx' ∧ (∀ j, lv j → lv' j) ∧ ∀ t, t ≠ 4 → t ≠ 11 → t ≠ 17 → t ≠ 19 → AB.hget h' t = AB.hget h t) (fun i => way.length - i) 0 ?_ ?_
  · simp only [go_sem, begsTo_zero, rcell, sCells]
    refine ⟨Nat.zero_le _, _, _, _, nx, rfl, by simp [go_sem], by simp [go_sem], .inl rfl, Nat.le_refl _, by omega, fun j hj => .inr hj, fun t h1 h2 h3 h4 => ?_⟩
    simp [go_sem, Ne.symm h1, Ne.symm h3, Ne.symm h4]
  · rintro i ρ m ⟨e22, g1, h', nx', lv', k, rfl, b19, b17, g2, g3, g4, g5, g6⟩
    by_cases hlt : i < way.length
    · have hlt' : ((i : Int) < (way.length : Int)) = True := by simp; omega
      obtain ⟨p, hp⟩ : ∃ p, way[i]? = some p := ⟨_, List.getElem?_eq_getElem hlt⟩
      have h1 := pre_bd hw i
      have h2 := pieceOk_iff.1 (List.all_eq_true.1 hw p (List.mem_of_getElem? hp))
      have hps := pre_succ hp
      have hg := begsTo_get way i
      have hln := begsTo_len way i
      simp (config := {maxSteps := 1000000}) (disch := omega) only [go_sem, e22, hlt', hp, dPiece, i64_in]
      generalize genO (AB.hget h' 11) = G3
      refine ⟨by omega, ?_⟩
      refine drawnP [2, 2, 2, 2, 2, 2, 2, 2, 2, 2, 2, 2, 2, 2, 2, 2, 3, 1, 1, 1] [(16, [2, 0, 0, 0, 0, 0, 0, 0, 0, 0, 0, 0, 0, 0, 0, 0, 0, 2, 2, 3]), (19, [0, 0, 0, 0, 0, 0, 0, 0, 0, 0, 0, 0, 0, 0, 0, 0, 0, 0, 0, 0])] 48 (by kernel_rfl) (by kernel_rfl) (by kernel_rfl) (by kernel_rfl) rfl ?_
      simp (config := {maxSteps := 1000000}) (disch := omega) only [go_sem, i64_in, b19, b17, rcell, sCells, hg, hln]
      refine ⟨by omega, fun nx1 lv1 q1 q2 => ⟨q2 _ g2, by omega, fun nx2 lv2 q3 q4 nx3 lv3 q5 q6 => ⟨by kernel_rfl, i + 1, ?_, by simp only; omega⟩⟩⟩
      simp only [go_sem, rcell, sCells]
      rw [← hps, begsTo_succ]
      refine ⟨by simp, by omega, _, _, _, nx1, rfl, by simp [go_sem], by simp [go_sem, b17], q6 _ (q4 _ (.inl rfl)), by omega, by omega, fun j hj => q6 _ (q4 _ (.inr ⟨q2 _ (g5 _ hj), ?_⟩)), fun t t1 t2 t3 t4 => ?_⟩
      · have := hlt0 j hj; omega
      · simp [go_sem, Ne.symm t2, Ne.symm t4]
        exact g6 t t1 t2 t3 t4
    · have hlt' : ((i : Int) < (way.length : Int)) = False := by simp; omega
      simp (config := {maxSteps := 1000000}) (disch := omega) only [go_sem, e22, hlt']
      have hi : i = way.length := by omega
      subst hi
      exact ⟨h', nx', lv', k, G, G2, rfl, rfl, b19, b17, g2, g3, g4, g5, g6⟩

end Go.Proofs.YteadhjclchjfjaaGreat
