/- Contracts of run.Check and of the reference, for all stocks. -/
import Derived.Test.YtkfhieigdlfbeaaDoorT
import Derived.Test.YtkfhieigdlfbeaaDoorS2
import Derived.Test.YtkfhieigdlfbeaaDoorW2
namespace Go.Proofs.YtkfhieigdlfbeaaDoor
set_option linter.unusedSimpArgs false
set_option linter.unusedVariables false
open Go.AB

def within (n lo hi : Int) : Bool := decide (lo ≤ n) && decide (n ≤ hi)
theorem f96 (n lo hi : Int) : PCall Tryd.prog 96 [.int .i64 n, .int .i64 lo, .int .i64 hi] (RV (.bool (within n lo hi))) := by
  refine PCall.of_body Tryd.func96 rfl Tryd.ntmps96 (congrArg Array.toList Tryd.results96) ?_
  intro E
  simp only [go_sem]
  unfold within
  grind

def okc (c : UInt8) : Bool := decide (97 ≤ (c.toNat : Int)) && decide ((c.toNat : Int) ≤ 122)
def nameOk (s : List UInt8) : Bool := s.all okc && (decide (1 ≤ (s.length : Int)) && decide ((s.length : Int) ≤ 12))

theorem take_all_succ {s : List UInt8} {x : Nat} {c : UInt8} (h : s[x]? = some c) : (s.take (x + 1)).all okc = ((s.take x).all okc && okc c) := by
  rw [List.take_add_one, h]
  simp
theorem nameOk_bad {s : List UInt8} {x : Nat} {c : UInt8} (h : s[x]? = some c) (hc : okc c = false) : false = nameOk s := by
  have : s.all okc = false := List.all_eq_false.2 ⟨c, List.mem_of_getElem? h, by simp [hc]⟩
  simp [nameOk, this]

theorem f95 (s : List UInt8) (hs : s.length ≤ 140737488351232) : PCall Tryd.prog 95 [.str s] (RV (.bool (nameOk s))) := by
  refine PCall.of_body Tryd.func95 rfl Tryd.ntmps95 (congrArg Array.toList Tryd.results95) ?_
  intro E
  simp only [go_sem]
  refine ⟨by omega, ?_⟩
  refine AW_loopS [4, 8, 9, 10, 11, 12, 13, 14, 15, 16, 17, 18] (fun (x : Nat) ρ m => ρ 8 = .int .i64 (x : Int) ∧ (∃ nx lv, m = ⟨[], [], nx, lv⟩) ∧ x ≤ s.length ∧ (s.take x).all okc = true) (fun x => s.length - x) 0 ?_ ?_
  · simp only [go_sem]
    exact ⟨⟨_, _, rfl⟩, Nat.zero_le _⟩
  · rintro x ρ m ⟨e8, ⟨nx, lv, rfl⟩, hx, hall⟩
    by_cases hlt : x < s.length
    · have hlt' : ((x : Int) < (s.length : Int)) = True := by simp; omega
      obtain ⟨c, hc⟩ : ∃ c, s[x]? = some c := ⟨_, List.getElem?_eq_getElem hlt⟩
      have ht := take_all_succ hc
      simp (disch := omega) only [go_sem, e8, hlt', hc, i64_in]
      refine ⟨by omega, fun h1 => nameOk_bad hc (by simp [okc]; omega), fun h1 => ⟨fun h2 => nameOk_bad hc (by simp [okc]; omega), fun h2 => ?_⟩⟩
      refine ⟨by kernel_rfl, x + 1, ?_, by simp only; omega⟩
      simp only [go_sem]
      refine ⟨by simp, ⟨_, _, rfl⟩, by omega, ?_⟩
      rw [ht, hall]
      simp [okc]; omega
    · have hlt' : ((x : Int) < (s.length : Int)) = False := by simp; omega
      simp (disch := omega) only [go_sem, e8, hlt', i64_in]
      have : s.take x = s := List.take_of_length_le (by omega)
      rw [this] at hall
      unfold nameOk
      rw [hall]
      grind

theorem f53 (s : List UInt8) (hs : s.length ≤ 140737488351232) : PCall Tryd.prog 53 [.str s] (RV (.bool (nameOk s))) := by
  refine PCall.of_body Tryd.func53 rfl Tryd.ntmps53 (congrArg Array.toList Tryd.results53) ?_
  intro E
  simp only [go_sem]
  refine AW_loopS [3, 4, 5, 6, 7, 8, 9, 10, 11, 12, 13, 14, 15, 16, 17, 18, 19] (fun (x : Nat) ρ m => ρ 3 = .int .i64 (x : Int) ∧ (∃ nx lv, m = ⟨[], [], nx, lv⟩) ∧ x ≤ s.length ∧ (s.take x).all okc = true) (fun x => s.length - x) 0 ?_ ?_
  · simp only [go_sem]
    exact ⟨⟨_, _, rfl⟩, Nat.zero_le _⟩
  · rintro x ρ m ⟨e8, ⟨nx, lv, rfl⟩, hx, hall⟩
    by_cases hlt : x < s.length
    · have hlt' : ((x : Int) < (s.length : Int)) = True := by simp; omega
      obtain ⟨c, hc⟩ : ∃ c, s[x]? = some c := ⟨_, List.getElem?_eq_getElem hlt⟩
      have ht := take_all_succ hc
      simp (disch := omega) only [go_sem, e8, hlt', hc, i64_in]
      refine ⟨by omega, fun h1 => nameOk_bad hc (by simp [okc]; omega), fun h1 => ⟨by omega, fun h2 => nameOk_bad hc (by simp [okc]; omega), fun h2 => ?_⟩⟩
      refine ⟨by kernel_rfl, x + 1, ?_, by simp only; omega⟩
      simp only [go_sem]
      refine ⟨by simp, ⟨_, _, rfl⟩, by omega, ?_⟩
      rw [ht, hall]
      simp [okc]; omega
    · have hlt' : ((x : Int) < (s.length : Int)) = False := by simp; omega
      simp (disch := omega) only [go_sem, e8, hlt', i64_in]
      have : s.take x = s := List.take_of_length_le (by omega)
      rw [this] at hall
      unfold nameOk
      rw [hall]
      grind

structure Stock where
  name : List UInt8
  (len mass start power roll drag brake top seats : Int)
def dStock (s : Stock) : DV := .agg [.str s.name, .int .i64 s.len, .int .i64 s.mass, .int .i64 s.start, .int .i64 s.power, .int .i64 s.roll, .int .i64 s.drag, .int .i64 s.brake, .int .i64 s.top, .int .i64 s.seats]
def eStock (s : Stock) : AV := .agg [.str s.name, .int .i64 s.len, .int .i64 s.mass, .int .i64 s.start, .int .i64 s.power, .int .i64 s.roll, .int .i64 s.drag, .int .i64 s.brake, .int .i64 s.top, .int .i64 s.seats]
theorem eStock_eq (s : Stock) : toAV (dStock s) = eStock s := by simp only [dStock, eStock, toAV, toAVs]

/-- The error of a stock. -/
def numsOk (s : Stock) : Bool := within s.len 10 400 && within s.mass 10 2000 && within s.start 60 150 && within s.power 10000 2000000 && within s.roll 0 10 && within s.drag 1000000 100000000 && within s.brake 60 150 && within s.top 500 6000 && within s.seats 0 1000
def checkS (s : Stock) : Int := if nameOk s.name = true then (if numsOk s = true then 0 else 2) else 1

theorem numsOk_iff (s : Stock) : numsOk s = true ↔ ((10 ≤ s.len ∧ s.len ≤ 400) ∧ (10 ≤ s.mass ∧ s.mass ≤ 2000) ∧ (60 ≤ s.start ∧ s.start ≤ 150) ∧ (10000 ≤ s.power ∧ s.power ≤ 2000000) ∧ (0 ≤ s.roll ∧ s.roll ≤ 10) ∧ (1000000 ≤ s.drag ∧ s.drag ≤ 100000000) ∧ (60 ≤ s.brake ∧ s.brake ≤ 150) ∧ (500 ≤ s.top ∧ s.top ≤ 6000) ∧ (0 ≤ s.seats ∧ s.seats ≤ 1000)) := by
  simp [numsOk, within, and_assoc]
theorem checkS_two {s : Stock} (h0 : nameOk s.name = true) (h : ¬ ((10 ≤ s.len ∧ s.len ≤ 400) ∧ (10 ≤ s.mass ∧ s.mass ≤ 2000) ∧ (60 ≤ s.start ∧ s.start ≤ 150) ∧ (10000 ≤ s.power ∧ s.power ≤ 2000000) ∧ (0 ≤ s.roll ∧ s.roll ≤ 10) ∧ (1000000 ≤ s.drag ∧ s.drag ≤ 100000000) ∧ (60 ≤ s.brake ∧ s.brake ≤ 150) ∧ (500 ≤ s.top ∧ s.top ≤ 6000) ∧ (0 ≤ s.seats ∧ s.seats ≤ 1000))) : 2 = checkS s := by
  unfold checkS; rw [if_pos h0, if_neg (by rw [numsOk_iff]; exact h)]
theorem checkS_zero {s : Stock} (h0 : nameOk s.name = true) (h : ((10 ≤ s.len ∧ s.len ≤ 400) ∧ (10 ≤ s.mass ∧ s.mass ≤ 2000) ∧ (60 ≤ s.start ∧ s.start ≤ 150) ∧ (10000 ≤ s.power ∧ s.power ≤ 2000000) ∧ (0 ≤ s.roll ∧ s.roll ≤ 10) ∧ (1000000 ≤ s.drag ∧ s.drag ≤ 100000000) ∧ (60 ≤ s.brake ∧ s.brake ≤ 150) ∧ (500 ≤ s.top ∧ s.top ≤ 6000) ∧ (0 ≤ s.seats ∧ s.seats ≤ 1000))) : 0 = checkS s := by
  unfold checkS; rw [if_pos h0, if_pos ((numsOk_iff s).2 h)]
/-- What is known of a stock that may be. -/
theorem checkS_ok {s : Stock} (h : checkS s = 0) : (10 ≤ s.len ∧ s.len ≤ 400) ∧ (10 ≤ s.mass ∧ s.mass ≤ 2000) ∧ (60 ≤ s.start ∧ s.start ≤ 150) ∧ (10000 ≤ s.power ∧ s.power ≤ 2000000) ∧ (0 ≤ s.roll ∧ s.roll ≤ 10) ∧ (1000000 ≤ s.drag ∧ s.drag ≤ 100000000) ∧ (60 ≤ s.brake ∧ s.brake ≤ 150) ∧ (500 ≤ s.top ∧ s.top ≤ 6000) ∧ (0 ≤ s.seats ∧ s.seats ≤ 1000) := by
  unfold checkS at h
  split at h
  · split at h
    · rename_i h2; exact (numsOk_iff s).1 h2
    · cases h
  · cases h

theorem f67 (s : Stock) : PCall Tryd.prog 67 [eStock s] (RV (.agg [.int .i64 s.len, .int .i64 s.mass, .int .i64 s.start, .int .i64 s.power, .int .i64 s.roll, .int .i64 s.drag, .int .i64 s.brake, .int .i64 s.top, .int .i64 s.seats])) := by
  refine PCall.of_body Tryd.func67 rfl Tryd.ntmps67 (congrArg Array.toList Tryd.results67) ?_
  intro E
  simp only [go_sem, eStock]

set_option maxRecDepth 20000 in
theorem f64 (s : Stock) (hs : s.name.length ≤ 140737488351232) : PCall Tryd.prog 64 [eStock s] (RV (.int .i64 (checkS s))) := by
  refine PCall.of_body Tryd.func64 rfl Tryd.ntmps64 (congrArg Array.toList Tryd.results64) ?_
  intro E
  simp only [go_sem, eStock]
  refine callV (f95 s.name hs) ?_
  intro nx lv
  simp only [go_sem]
  refine ⟨fun h => by simp_all [checkS], fun h => ?_⟩
  refine callV (f67 s) ?_
  intro nx lv
  simp only [go_sem]
  have h0 : nameOk s.name = true := by simpa using h
  clear h
  refine LW_start (LW_round ?_)
  simp only [go_sem]
  iterate 9
    refine drawn (by kernel_rfl) (by kernel_rfl) ?_
    simp only [go_sem]
    refine quietD (f96 _ _ _) (fun _ => rfl) ?_
    simp only [go_sem]
    intro nx lv _ _
    refine ⟨fun h1 => by simp_all [checkS, numsOk], fun h1 => LW_round ?_⟩
    simp (disch := omega) only [go_sem, i64_in]
  simp_all [checkS, numsOk]


set_option maxHeartbeats 4000000 in
set_option maxRecDepth 20000 in
theorem f69 (s : Stock) (hs : s.name.length ≤ 140737488351232) : PCall Tryd.prog 69 [eStock s] (RV (.int .i64 (checkS s))) := by
  refine PCall.of_body Tryd.func69 rfl Tryd.ntmps69 (congrArg Array.toList Tryd.results69) ?_
  intro E
  simp only [go_sem, eStock]
  refine callV (f53 s.name hs) ?_
  intro nx lv
  simp only [go_sem]
  refine ⟨fun h => by simp_all [checkS], fun h => ?_⟩
  have h0 : nameOk s.name = true := by simpa using h
  clear h
  refine LW_start (LW_round ?_)
  simp (disch := omega) only [go_sem, i64_in]
  iterate 9
    refine ⟨fun h1 => checkS_two h0 (by omega), fun h1 => ⟨fun h2 => checkS_two h0 (by omega), fun h2 => LW_round ?_⟩⟩
    simp (disch := omega) only [go_sem, i64_in]
  exact checkS_zero h0 (by omega)

theorem openStock {x : DV} (h : ElD Tryd.prog 37 x) : ∃ s : Stock, x = dStock s ∧ s.name.length ≤ 140737488351232 ∧ (inR s.len ∧ inR s.mass ∧ inR s.start ∧ inR s.power ∧ inR s.roll ∧ inR s.drag ∧ inR s.brake ∧ inR s.top ∧ inR s.seats) := by
  obtain ⟨cs, rfl, k⟩ := h.agg_inv Tryd.underlying37 rfl
  clear h
  obtain ⟨c, r, rfl, h0, h⟩ := k.cons_inv
  clear k
  obtain ⟨nm, rfl, hnm⟩ := h0.str_inv Tryd.underlying9
  obtain ⟨ns, h1, rfl, h2⟩ := TyDs.ints (f := leafI Tryd.prog 4) (fun t n cs h hc => TyD.ints 4 t n cs h hc) _ 9 _ (by kernel_rfl) h
  match ns, h1 with
  | [a, b, c, d, e, f, g, i, j], _ =>
    refine ⟨⟨nm, a, b, c, d, e, f, g, i, j⟩, rfl, hnm, ?_⟩
    simp only [List.mem_cons, List.not_mem_nil, or_false, forall_eq_or_imp, forall_eq] at h2
    exact h2

end Go.Proofs.YtkfhieigdlfbeaaDoor
