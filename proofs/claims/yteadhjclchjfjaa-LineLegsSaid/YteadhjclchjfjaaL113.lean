/- Nets: the small functions of package line and of the reference. -/
/- Nets: the small functions of package line and of the reference. -/
import Derived.Test.YteadhjclchjfjaaL100
import Derived.Test.YteadhjclchjfjaaB140
namespace Go.Proofs.Yteadhjclchjfjaa
set_option linter.unusedSimpArgs false
set_option linter.unusedVariables false
open Go.AB

theorem f56 (n lo hi : Int) : PCall Try.prog 56 [.int .i64 n, .int .i64 lo, .int .i64 hi] (RV (.bool (within n lo hi))) := by
  refine PCall.of_body Try.func56 rfl Try.ntmps56 (congrArg Array.toList Try.results56) ?_
  intro E
  simp only [go_sem]
  unfold within
  grind

def endsF (k : Int) : Int := if k = 1 then 2 else if k = 2 then 3 else if k = 3 then 4 else 0
theorem endsF_bd (k : Int) : 0 ≤ endsF k ∧ endsF k ≤ 4 := by unfold endsF; grind

theorem f57 (k : Int) : PCall Try.prog 57 [.int .i64 k] (RV (.int .i64 (endsF k))) := by
  refine PCall.of_body Try.func57 rfl Try.ntmps57 (congrArg Array.toList Try.results57) ?_
  intro E
  simp only [go_sem]
  unfold endsF
  grind

theorem f67 (k : Int) (h1 : 1 ≤ k) (h2 : k ≤ 3) : PCall Try.prog 67 [.int .i64 k] (RV (.int .i64 (endsF k))) := by
  refine PCall.of_body Try.func67 rfl Try.ntmps67 (congrArg Array.toList Try.results67) ?_
  intro E
  have : k = 1 ∨ k = 2 ∨ k = 3 := by omega
  rcases this with rfl | rfl | rfl
  · simp (disch := omega) only [go_sem, i64_in]
    rfl
  · simp (disch := omega) only [go_sem, i64_in]
    rfl
  · simp (disch := omega) only [go_sem, i64_in]
    rfl

theorem f144 (k : Int) : PCall Try.prog 144 [.int .i64 k] (RV (.bool false)) := by
  refine PCall.of_body Try.func144 rfl Try.ntmps144 (congrArg Array.toList Try.results144) ?_
  intro E
  simp only [go_sem]

def cmpF (a b : Int) : Int := if a < b then -1 else if b < a then 1 else 0
theorem f128 (a b : Int) : PCall Try.prog 128 [.int .i64 a, .int .i64 b] (RV (.int .i64 (cmpF a b))) := by
  refine PCall.of_body Try.func128 rfl Try.ntmps128 (congrArg Array.toList Try.results128) ?_
  intro E
  simp only [go_sem]
  refine callV (f144 a) ?_
  intro nx lv
  simp only [go_sem]
  refine callV (f144 b) ?_
  intro nx lv
  simp only [go_sem]
  unfold cmpF
  grind

def orF (a b : Int) : Int := if a ≠ 0 then a else b

theorem f127 (a b : Int) : PCall Try.prog 127 [.sl 1 [.int .i64 a, .int .i64 b] .no] (RV (.int .i64 (orF a b))) := by
  refine PCall.of_body Try.func127 rfl Try.ntmps127 (congrArg Array.toList Try.results127) ?_
  intro E
  simp only [go_sem]
  refine AW_loopS [2, 5, 8, 9, 10, 11, 12, 13, 14, 15, 16] (fun (x : Nat) ρ m => ρ 8 = .int .i64 (x : Int) ∧ (∃ nx lv, m = ⟨[], [], nx, lv⟩) ∧ x ≤ 2 ∧ (1 ≤ x → a = 0) ∧ (2 ≤ x → b = 0)) (fun x => 2 - x) 0 ?_ ?_
  · simp only [go_sem]
    exact ⟨_, _, rfl⟩
  · rintro x ρ m ⟨e8, ⟨nx, lv, rfl⟩, hx, ha, hb⟩
    by_cases hlt : x < 2
    · obtain ⟨v, hv, hv0, hv1⟩ : ∃ v, ([DV.int .i64 a, DV.int .i64 b] : List DV)[x]? = some (.int .i64 v) ∧ (x = 0 → v = a) ∧ (x = 1 → v = b) := by
        have h3 : x = 0 ∨ x = 1 := by omega
        rcases h3 with rfl | rfl
        · exact ⟨a, rfl, fun _ => rfl, fun h => by omega⟩
        · exact ⟨b, rfl, fun h => by omega, fun _ => rfl⟩
      have hlt' : ((x : Int) < 2) = True := by simp; omega
      simp (disch := omega) only [go_sem, e8, hlt', hv, i64_in]
      refine ⟨by omega, fun h1 => ?_, fun h1 => ⟨by kernel_rfl, x + 1, ?_, by simp only; omega⟩⟩
      · have : orF a b = v := by unfold orF; grind
        rw [this]
      · simp only [go_sem]
        exact ⟨by simp, ⟨_, _, rfl⟩, by omega, by grind, by grind⟩
    · have hlt' : ((x : Int) < 2) = False := by simp; omega
      simp (disch := omega) only [go_sem, e8, hlt', i64_in]
      have : orF a b = 0 := by unfold orF; grind
      rw [this]

def lessF (a b c d : Int) : Bool := decide (a < c) || (decide (a = c) && decide (b < d))
theorem f106 (a b c d : Int) : PCall Try.prog 106 [.int .i64 a, .int .i64 b, .int .i64 c, .int .i64 d] (RV (.bool (lessF a b c d))) := by
  refine PCall.of_body Try.func106 rfl Try.ntmps106 (congrArg Array.toList Try.results106) ?_
  intro E
  simp only [go_sem]
  unfold lessF
  grind
theorem order_F (a b c d : Int) : (0 ≤ orF (cmpF a c) (cmpF b d)) ↔ lessF a b c d = false := by
  unfold orF cmpF lessF
  grind
theorem f100 (s : List UInt8) (hs : s.length ≤ 140737488351232) : PCall Try.prog 100 [.str s] (RV (.bool (nameOk s))) := by
  refine PCall.of_body Try.func100 rfl Try.ntmps100 (congrArg Array.toList Try.results100) ?_
  intro E
  simp only [go_sem]
  refine ⟨by omega, ?_⟩
  refine AW_loopS [2, 4, 8, 9, 10, 11, 12, 13, 14, 15, 16, 17, 18] (fun (x : Nat) ρ m => ρ 8 = .int .i64 (x : Int) ∧ (∃ nx lv, m = ⟨[], [], nx, lv⟩) ∧ x ≤ s.length ∧ (s.take x).all okc = true) (fun x => s.length - x) 0 ?_ ?_
  · simp only [go_sem]
    exact ⟨⟨_, _, rfl⟩, Nat.zero_le _⟩
  · rintro x ρ m ⟨e8, ⟨nx, lv, rfl⟩, hx, hall⟩
    by_cases hlt : x < s.length
    · have hlt' : ((x : Int) < (s.length : Int)) = True := by simp; omega
      obtain ⟨c, hc⟩ : ∃ c, s[x]? = some c := ⟨_, List.getElem?_eq_getElem hlt⟩
      have ht := take_all_succ hc
      simp (disch := omega) only [go_sem, e8, hlt', hc, i64_in]
      refine ⟨by omega, fun h1 => nameOk_bad hc (by simp [okc]; omega), fun h1 => ⟨fun h2 => nameOk_bad hc (by simp [okc]; omega), fun h2 => ?_⟩⟩
      refine ⟨by kernel_rfl, x + 1, ?_, by simp only; omega⟩
      simp only [go_sem]
      refine ⟨by simp, ⟨_, _, rfl⟩, by omega, ?_⟩
      rw [ht, hall]
      simp [okc]; omega
    · have hlt' : ((x : Int) < (s.length : Int)) = False := by simp; omega
      simp (disch := omega) only [go_sem, e8, hlt', i64_in]
      have : s.take x = s := List.take_of_length_le (by omega)
      rw [this] at hall
      unfold nameOk
      rw [hall]
      grind
end Go.Proofs.Yteadhjclchjfjaa
