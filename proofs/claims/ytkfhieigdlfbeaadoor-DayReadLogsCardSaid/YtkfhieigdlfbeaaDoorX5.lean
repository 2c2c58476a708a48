/- DayReadLogs: the last blank of a line; numbers and their texts. -/
import Derived.Test.YtkfhieigdlfbeaaDoorP1
import Derived.Test.YtkfhieigdlfbeaaDoorN1
import Derived.Test.YtkfhieigdlfbeaaDoorN2
import Derived.Test.YtkfhieigdlfbeaaDoorS
import Derived.Lib.LastIndexByte
import Derived.Lib.ItoaMem
namespace Go.Proofs.YtkfhieigdlfbeaaDoor
open Go.AB Go.RowKit
set_option linter.unusedSimpArgs false
set_option linter.unusedVariables false

theorem f40 (s : List UInt8) (hs : s.length < 4611686018427387904) : PCall Tryd.prog 40 [.str s, .str [32]] (RV (.int .i64 (Lib.lastIndexByte ⟨s.toArray⟩ 32))) := by
  refine PCall.of_calls rfl ?_
  intro st w vs hl hst hrep
  obtain ⟨e1, e2⟩ := hrep
  match vs, e1 with
  | [v, u], _ =>
    have h1 := e2 0 _ v rfl rfl
    have h2 := e2 1 _ u rfl rfl
    cases h1
    cases h2
    refine (Tryd.strings_LastIndex_one ⟨s.toArray⟩ ⟨([32] : List UInt8).toArray⟩ rfl (by rw [size_mk]; exact hs) w).mono ?_
    rintro e w' ⟨rfl, rfl⟩
    exact ⟨_, rfl, Below.refl _ _, fun G => RepA.int _ _⟩

theorem last_blank (a b : List UInt8) (hb : (32 : UInt8) ∉ b) : Lib.lastIndexByte ⟨(a ++ 32 :: b).toArray⟩ 32 = a.length := by
  unfold Lib.lastIndexByte
  rw [size_mk]
  have at_ : ∀ j, j < (a ++ 32 :: b).length → (⟨(a ++ 32 :: b).toArray⟩ : ByteArray).data[j]! = (a ++ 32 :: b).getD j 0 := by
    intro j hj
    simp only [getElem!_def, List.getElem?_toArray, List.getD_eq_getElem?_getD, List.getElem?_eq_getElem hj, Option.getD_some]
  have hp : (a ++ 32 :: b).getD a.length 0 = 32 := by
    simp [List.getD_eq_getElem?_getD]
  have hlen : (a ++ 32 :: b).length = a.length + 1 + b.length := by simp; omega
  rcases Lib.lastIdx_spec ⟨(a ++ 32 :: b).toArray⟩ 32 (a ++ 32 :: b).length with ⟨h1, h2⟩ | ⟨i, h1, h2, h3, h4⟩
  · have := h2 a.length (by omega)
    rw [at_ _ (by omega), hp] at this
    exact absurd rfl this
  · rw [h2]
    have hle : ¬ i < a.length := fun hlt => by
      have := h4 a.length hlt (by omega)
      rw [at_ _ (by omega), hp] at this
      exact absurd rfl this
    have hge : ¬ a.length < i := fun hlt => by
      rw [at_ _ h1] at h3
      apply hb
      have h5 : (a ++ 32 :: b).getD i 0 = b.getD (i - a.length - 1) 0 := by
        rw [List.getD_eq_getElem?_getD, List.getD_eq_getElem?_getD, List.getElem?_append_right (by omega)]
        rw [show i - a.length = (i - a.length - 1) + 1 by omega, List.getElem?_cons_succ]
        simp
      rw [h5] at h3
      have h6 : i - a.length - 1 < b.length := by omega
      rw [List.getD_eq_getElem?_getD, List.getElem?_eq_getElem h6, Option.getD_some] at h3
      have h7 : b[i - a.length - 1] = 32 := by
        apply UInt8.toNat_inj.1
        have : (b[i - a.length - 1].toNat : Int) = 32 := h3
        simp only [UInt8.toNat_ofNat]
        omega
      rw [← h7]
      exact List.getElem_mem h6
    omega

theorem itoa_inj (u : Nat) (f : Int) (h : Lib.itoa (u : Int) = Lib.itoa f) : f = u := by
  rcases Int.lt_or_le f 0 with hf | hf
  · obtain ⟨v, rfl⟩ : ∃ v : Nat, f = -(v : Int) := ⟨f.natAbs, by omega⟩
    rw [Lib.itoa_nonneg, Lib.itoa_neg v (by omega)] at h
    have := decFrom_digits u
    rw [h] at this
    simp [Lib.decFrom, Lib.digitVal] at this
  · obtain ⟨v, rfl⟩ : ∃ v : Nat, f = (v : Int) := ⟨f.toNat, by omega⟩
    rw [Lib.itoa_nonneg, Lib.itoa_nonneg] at h
    have h1 := decFrom_digits u
    rw [h, decFrom_digits v] at h1
    cases h1
    rfl
end Go.Proofs.YtkfhieigdlfbeaaDoor
