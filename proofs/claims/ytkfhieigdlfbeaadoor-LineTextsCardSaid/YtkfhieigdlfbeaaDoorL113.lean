/- Nets: the small functions of package line and of the reference. -/
/- Nets: the small functions of package line and of the reference. -/
import Derived.Test.YtkfhieigdlfbeaaDoorL100
import Derived.Test.YtkfhieigdlfbeaaDoorB140
namespace Go.Proofs.YtkfhieigdlfbeaaDoor
set_option linter.unusedSimpArgs false
set_option linter.unusedVariables false
open Go.AB

theorem f104 (n lo hi : Int) : PCall Tryd.prog 104 [.int .i64 n, .int .i64 lo, .int .i64 hi] (RV (.bool (within n lo hi))) := by
  refine PCall.of_body Tryd.func104 rfl Tryd.ntmps104 (congrArg Array.toList Tryd.results104) ?_
  intro E
  simp only [go_sem]
  unfold within
  grind

def endsF (k : Int) : Int := if k = 1 then 2 else if k = 2 then 3 else if k = 3 then 4 else 0
theorem endsF_bd (k : Int) : 0 ≤ endsF k ∧ endsF k ≤ 4 := by unfold endsF; grind

theorem f103 (k : Int) : PCall Tryd.prog 103 [.int .i64 k] (RV (.int .i64 (endsF k))) := by
  refine PCall.of_body Tryd.func103 rfl Tryd.ntmps103 (congrArg Array.toList Tryd.results103) ?_
  intro E
  simp only [go_sem]
  unfold endsF
  grind

theorem f110 (k : Int) (h1 : 1 ≤ k) (h2 : k ≤ 3) : PCall Tryd.prog 110 [.int .i64 k] (RV (.int .i64 (endsF k))) := by
  refine PCall.of_body Tryd.func110 rfl Tryd.ntmps110 (congrArg Array.toList Tryd.results110) ?_
  intro E
  have : k = 1 ∨ k = 2 ∨ k = 3 := by omega
  rcases this with rfl | rfl | rfl
  · simp (disch := omega) only [go_sem, i64_in]
    rfl
  · simp (disch := omega) only [go_sem, i64_in]
    rfl
  · simp (disch := omega) only [go_sem, i64_in]
    rfl

theorem f124 (k : Int) : PCall Tryd.prog 124 [.int .i64 k] (RV (.bool false)) := by
  refine PCall.of_body Tryd.func124 rfl Tryd.ntmps124 (congrArg Array.toList Tryd.results124) ?_
  intro E
  simp only [go_sem]

def cmpF (a b : Int) : Int := if a < b then -1 else if b < a then 1 else 0
theorem f107 (a b : Int) : PCall Tryd.prog 107 [.int .i64 a, .int .i64 b] (RV (.int .i64 (cmpF a b))) := by
  refine PCall.of_body Tryd.func107 rfl Tryd.ntmps107 (congrArg Array.toList Tryd.results107) ?_
  intro E
  simp only [go_sem]
  refine callV (f124 a) ?_
  intro nx lv
  simp only [go_sem]
  refine callV (f124 b) ?_
  intro nx lv
  simp only [go_sem]
  unfold cmpF
  grind

def orF (a b : Int) : Int := if a ≠ 0 then a else b

theorem f106 (a b : Int) : PCall Tryd.prog 106 [.sl 1 [.int .i64 a, .int .i64 b] .no] (RV (.int .i64 (orF a b))) := by
  refine PCall.of_body Tryd.func106 rfl Tryd.ntmps106 (congrArg Array.toList Tryd.results106) ?_
  intro E
  simp only [go_sem]
  refine AW_loopS [2, 5, 8, 9, 10, 11, 12, 13, 14, 15, 16] (fun (x : Nat) ρ m => ρ 8 = .int .i64 (x : Int) ∧ (∃ nx lv, m = ⟨[], [], nx, lv⟩) ∧ x ≤ 2 ∧ (1 ≤ x → a = 0) ∧ (2 ≤ x → b = 0)) (fun x => 2 - x) 0 ?_ ?_
  · simp only [go_sem]
    exact ⟨_, _, rfl⟩
  · rintro x ρ m ⟨e8, ⟨nx, lv, rfl⟩, hx, ha, hb⟩
    by_cases hlt : x < 2
    · obtain ⟨v, hv, hv0, hv1⟩ : ∃ v, ([DV.int .i64 a, DV.int .i64 b] : List DV)[x]? = some (.int .i64 v) ∧ (x = 0 → v = a) ∧ (x = 1 → v = b) := by
        have h3 : x = 0 ∨ x = 1 := by omega
        rcases h3 with rfl | rfl
        · exact ⟨a, rfl, fun _ => rfl, fun h => by omega⟩
        · exact ⟨b, rfl, fun h => by omega, fun _ => rfl⟩
      have hlt' : ((x : Int) < 2) = True := by simp; omega
      simp (disch := omega) only [go_sem, e8, hlt', hv, i64_in]
      refine ⟨by omega, fun h1 => ?_, fun h1 => ⟨by kernel_rfl, x + 1, ?_, by simp only; omega⟩⟩
      · have : orF a b = v := by unfold orF; grind
        rw [this]
      · simp only [go_sem]
        exact ⟨by simp, ⟨_, _, rfl⟩, by omega, by grind, by grind⟩
    · have hlt' : ((x : Int) < 2) = False := by simp; omega
      simp (disch := omega) only [go_sem, e8, hlt', i64_in]
      have : orF a b = 0 := by unfold orF; grind
      rw [this]

def lessF (a b c d : Int) : Bool := decide (a < c) || (decide (a = c) && decide (b < d))
theorem f86 (a b c d : Int) : PCall Tryd.prog 86 [.int .i64 a, .int .i64 b, .int .i64 c, .int .i64 d] (RV (.bool (lessF a b c d))) := by
  refine PCall.of_body Tryd.func86 rfl Tryd.ntmps86 (congrArg Array.toList Tryd.results86) ?_
  intro E
  simp only [go_sem]
  unfold lessF
  grind
theorem order_F (a b c d : Int) : (0 ≤ orF (cmpF a c) (cmpF b d)) ↔ lessF a b c d = false := by
  unfold orF cmpF lessF
  grind
theorem f77 (s : List UInt8) (hs : s.length ≤ 140737488351232) : PCall Tryd.prog 77 [.str s] (RV (.bool (nameOk s))) := by
  refine PCall.of_body Tryd.func77 rfl Tryd.ntmps77 (congrArg Array.toList Tryd.results77) ?_
  intro E
  simp only [go_sem]
  refine ⟨by omega, ?_⟩
  refine AW_loopS [2, 4, 8, 9, 10, 11, 12, 13, 14, 15, 16, 17, 18] (fun (x : Nat) ρ m => ρ 8 = .int .i64 (x : Int) ∧ (∃ nx lv, m = ⟨[], [], nx, lv⟩) ∧ x ≤ s.length ∧ (s.take x).all okc = true) (fun x => s.length - x) 0 ?_ ?_
  · simp only [go_sem]
    exact ⟨⟨_, _, rfl⟩, Nat.zero_le _⟩
  · rintro x ρ m ⟨e8, ⟨nx, lv, rfl⟩, hx, hall⟩
    by_cases hlt : x < s.length
    · have hlt' : ((x : Int) < (s.length : Int)) = True := by simp; omega
      obtain ⟨c, hc⟩ : ∃ c, s[x]? = some c := ⟨_, List.getElem?_eq_getElem hlt⟩
      have ht := take_all_succ hc
      simp (disch := omega) only [go_sem, e8, hlt', hc, i64_in]
      refine ⟨by omega, fun h1 => nameOk_bad hc (by simp [okc]; omega), fun h1 => ⟨fun h2 => nameOk_bad hc (by simp [okc]; omega), fun h2 => ?_⟩⟩
      refine ⟨by kernel_rfl, x + 1, ?_, by simp only; omega⟩
      simp only [go_sem]
      refine ⟨by simp, ⟨_, _, rfl⟩, by omega, ?_⟩
      rw [ht, hall]
      simp [okc]; omega
    · have hlt' : ((x : Int) < (s.length : Int)) = False := by simp; omega
      simp (disch := omega) only [go_sem, e8, hlt', i64_in]
      have : s.take x = s := List.take_of_length_le (by omega)
      rw [this] at hall
      unfold nameOk
      rw [hall]
      grind
end Go.Proofs.YtkfhieigdlfbeaaDoor
