/- Names. -/
import Derived.Test.YtkfhieigdlfbeaaDoorT
namespace Go.Proofs.YtkfhieigdlfbeaaDoor
set_option linter.unusedSimpArgs false
set_option linter.unusedVariables false
open Go.AB
def within (n lo hi : Int) : Bool := decide (lo ≤ n) && decide (n ≤ hi)
def okc (c : UInt8) : Bool := decide (97 ≤ (c.toNat : Int)) && decide ((c.toNat : Int) ≤ 122)
def nameOk (s : List UInt8) : Bool := s.all okc && (decide (1 ≤ (s.length : Int)) && decide ((s.length : Int) ≤ 12))

theorem take_all_succ {s : List UInt8} {x : Nat} {c : UInt8} (h : s[x]? = some c) : (s.take (x + 1)).all okc = ((s.take x).all okc && okc c) := by
  rw [List.take_add_one, h]
  simp
theorem nameOk_bad {s : List UInt8} {x : Nat} {c : UInt8} (h : s[x]? = some c) (hc : okc c = false) : false = nameOk s := by
  have : s.all okc = false := List.all_eq_false.2 ⟨c, List.mem_of_getElem? h, by simp [hc]⟩
  simp [nameOk, this]

theorem f53 (s : List UInt8) (hs : s.length ≤ 140737488351232) : PCall Tryd.prog 53 [.str s] (RV (.bool (nameOk s))) := by
  refine PCall.of_body Tryd.func53 rfl Tryd.ntmps53 (congrArg Array.toList Tryd.results53) ?_
  intro E
  simp only [go_sem]
  refine AW_loopS [3, 4, 5, 6, 7, 8, 9, 10, 11, 12, 13, 14, 15, 16, 17, 18, 19] (fun (x : Nat) ρ m => ρ 3 = .int .i64 (x : Int) ∧ (∃ nx lv, m = ⟨[], [], nx, lv⟩) ∧ x ≤ s.length ∧ (s.take x).all okc = true) (fun x => s.length - x) 0 ?_ ?_
  · simp only [go_sem]
    exact ⟨⟨_, _, rfl⟩, Nat.zero_le _⟩
  · rintro x ρ m ⟨e8, ⟨nx, lv, rfl⟩, hx, hall⟩
    by_cases hlt : x < s.length
    · have hlt' : ((x : Int) < (s.length : Int)) = True := by simp; omega
      obtain ⟨c, hc⟩ : ∃ c, s[x]? = some c := ⟨_, List.getElem?_eq_getElem hlt⟩
      have ht := take_all_succ hc
      simp (disch := omega) only [go_sem, e8, hlt', hc, i64_in]
      refine ⟨by omega, fun h1 => nameOk_bad hc (by simp [okc]; omega), fun h1 => ⟨by omega, fun h2 => nameOk_bad hc (by simp [okc]; omega), fun h2 => ?_⟩⟩
      refine ⟨by kernel_rfl, x + 1, ?_, by simp only; omega⟩
      simp only [go_sem]
      refine ⟨by simp, ⟨_, _, rfl⟩, by omega, ?_⟩
      rw [ht, hall]
      simp [okc]; omega
    · have hlt' : ((x : Int) < (s.length : Int)) = False := by simp; omega
      simp (disch := omega) only [go_sem, e8, hlt', i64_in]
      have : s.take x = s := List.take_of_length_le (by omega)
      rw [this] at hall
      unfold nameOk
      rw [hall]
      grind

end Go.Proofs.YtkfhieigdlfbeaaDoor
