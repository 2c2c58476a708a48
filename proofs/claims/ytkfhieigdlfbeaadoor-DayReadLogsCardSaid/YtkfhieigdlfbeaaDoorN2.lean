/- Splitting a text at a sign: what the pieces are. -/
import Derived.Lib.SplitLaws
import Derived.Lib.Join
namespace Go.AB
set_option linter.unusedSimpArgs false
set_option linter.unusedVariables false
open Go.Lib

/-- A text cut at each sign c. -/
def splitC (c : UInt8) : List UInt8 → List (List UInt8)
  | [] => [[]]
  | b :: r => if b = c then [] :: splitC c r else match splitC c r with
    | [] => [[b]]
    | h :: t => (b :: h) :: t

theorem splitC_ne (c : UInt8) (s : List UInt8) : splitC c s ≠ [] := by
  cases s with
  | nil => simp [splitC]
  | cons b r =>
    unfold splitC
    split
    · simp
    · split <;> simp

theorem index_hit0 (c : UInt8) (l : List UInt8) : index (c :: l) [c] = 0 := by rw [index]; simp [List.isPrefixOf]
theorem index_next (b c : UInt8) (l : List UInt8) (h : b ≠ c) : index (b :: l) [c] = if index l [c] == -1 then -1 else index l [c] + 1 := by
  have hp : ([c] : List UInt8).isPrefixOf (b :: l) = false := by simp [List.isPrefixOf, Ne.symm h]
  rw [index, hp]; simp

theorem split_one (c : UInt8) : ∀ (s : List UInt8), split s [c] = splitC c s
  | [] => by
    unfold split
    rw [count_one]
    rfl
  | b :: l => by
    have ih := split_one c l
    unfold split at ih ⊢
    by_cases h : b = c
    · subst h
      rw [count_cons_eq, Nat.add_comm, splitK, index_hit0, if_neg (by decide)]
      simp only [Int.toNat_zero, Nat.add_zero, List.take_zero, Nat.zero_add, List.length_singleton, List.drop_succ_cons, List.drop_zero]
      rw [ih, splitC, if_pos rfl]
    · rw [count_cons_ne b c l h, splitC, if_neg h]
      cases hk : count l [c] with
      | zero =>
        rw [hk] at ih
        simp only [splitK] at ih ⊢
        rw [← ih]
      | succ k =>
        rw [hk] at ih
        have hm : index l [c] ≠ -1 := by
          intro hm
          rw [count_miss hm] at hk
          cases hk
        have hge := index_ge l [c]
        obtain ⟨j, hj⟩ : ∃ j : Nat, index l [c] = j := ⟨(index l [c]).toNat, by omega⟩
        have e0 : ((j : Int) == -1) = false := by rw [beq_eq_false_iff_ne]; omega
        have e1 : (((j : Int) + 1) == -1) = false := by rw [beq_eq_false_iff_ne]; omega
        rw [splitK, hj, e0] at ih
        rw [splitK, index_next b c l h, hj, e0]
        simp only [Bool.false_eq_true, if_false, Int.toNat_natCast, Nat.add_zero, List.length_singleton] at ih ⊢
        rw [e1]
        simp only [Bool.false_eq_true, if_false]
        have e2 : ((j : Int) + 1).toNat = j + 1 := by omega
        rw [e2, ← ih, List.take_succ_cons, List.drop_succ_cons]

theorem splitC_mem {c : UInt8} : ∀ {s : List UInt8} {x : List UInt8}, x ∈ splitC c s → x.length ≤ s.length ∧ c ∉ x
  | [], x, h => by
    simp only [splitC, List.mem_singleton] at h
    subst h
    simp
  | b :: r, x, h => by
    unfold splitC at h
    split at h
    · rcases List.mem_cons.1 h with rfl | h
      · simp
      · have := splitC_mem h
        exact ⟨by simp only [List.length_cons]; omega, this.2⟩
    · rename_i hb
      cases hs : splitC c r with
      | nil => exact absurd hs (splitC_ne c r)
      | cons y t =>
        rw [hs] at h
        rcases List.mem_cons.1 h with rfl | h
        · have := splitC_mem (c := c) (s := r) (x := y) (by rw [hs]; exact List.mem_cons_self ..)
          refine ⟨by simp only [List.length_cons]; omega, fun hc => ?_⟩
          rcases List.mem_cons.1 hc with e | hc
          · exact hb e.symm
          · exact this.2 hc
        · have := splitC_mem (c := c) (s := r) (x := x) (by rw [hs]; exact List.mem_cons_of_mem _ h)
          exact ⟨by simp only [List.length_cons]; omega, this.2⟩

theorem splitC_length (c : UInt8) : ∀ (s : List UInt8), (splitC c s).length ≤ s.length + 1
  | [] => by simp [splitC]
  | b :: r => by
    have ih := splitC_length c r
    unfold splitC
    split
    · simp only [List.length_cons]; omega
    · cases hs : splitC c r with
      | nil => simp
      | cons y t =>
        rw [hs] at ih
        simp only [List.length_cons] at ih ⊢
        omega

theorem splitC_join (c : UInt8) : ∀ (s : List UInt8), join (splitC c s) [c] = s
  | [] => by simp [splitC, join_one]
  | b :: r => by
    have ih := splitC_join c r
    unfold splitC
    cases hs : splitC c r with
    | nil => exact absurd hs (splitC_ne c r)
    | cons y t =>
      rw [hs] at ih
      split
      · rename_i hb
        subst hb
        rw [join_cons] at ih ⊢
        rw [← ih]
        simp [joinTail]
      · rw [join_cons] at ih ⊢
        rw [← ih]
        simp

theorem splitC_count (c : UInt8) : ∀ (s : List UInt8), (splitC c s).length = s.count c + 1
  | [] => by simp [splitC]
  | b :: r => by
    have ih := splitC_count c r
    unfold splitC
    cases hs : splitC c r with
    | nil => exact absurd hs (splitC_ne c r)
    | cons y t =>
      rw [hs] at ih
      split
      · rename_i hb
        subst hb
        simp only [List.length_cons, List.count_cons_self] at ih ⊢
        omega
      · rename_i hb
        rw [List.count_cons_of_ne (by simpa using hb)]
        simpa using ih

end Go.AB
