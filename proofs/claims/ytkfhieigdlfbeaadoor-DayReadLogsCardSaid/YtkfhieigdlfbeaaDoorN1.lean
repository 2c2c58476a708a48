/- Numbers as words: the reading of a number by strconv.Atoi, checked against what strconv.Itoa writes, is the reading digit by digit. -/
import Derived.Lib.ItoaNum
import Derived.Lib.AtoiTie
import Derived.Lib.Strings
namespace Go.AB
set_option linter.unusedSimpArgs false
set_option linter.unusedVariables false
open Go.Lib

theorem decFrom_ge : ∀ (l : List UInt8) (acc n : Nat), decFrom acc l = some n → acc ≤ n
  | [], acc, n, h => by simp only [decFrom, Option.some.injEq] at h; omega
  | b :: r, acc, n, h => by
    simp only [decFrom] at h
    cases hd : digitVal b with
    | none => simp [hd] at h
    | some d =>
      simp only [hd] at h
      have := decFrom_ge r _ n h
      omega

theorem decFrom_append (l : List UInt8) (b : UInt8) : ∀ (acc : Nat), decFrom acc (l ++ [b]) = match decFrom acc l with
    | none => none
    | some n => match digitVal b with
      | none => none
      | some d => some (n * 10 + d) := by
  induction l with
  | nil =>
    intro acc
    simp only [List.nil_append, decFrom]
    cases digitVal b <;> rfl
  | cons c r ih =>
    intro acc
    simp only [List.cons_append, decFrom]
    cases digitVal c with
    | none => rfl
    | some d => exact ih _

theorem digitVal_some {b : UInt8} {d : Nat} (h : digitVal b = some d) : d < 10 ∧ b = UInt8.ofNat (48 + d) := by
  unfold digitVal at h
  split at h
  · rename_i hb
    simp only [Option.some.injEq] at h
    subst h
    refine ⟨by omega, ?_⟩
    apply UInt8.toNat_inj.1
    rw [UInt8.toNat_ofNat']
    omega
  · cases h

theorem digitVal_of (d : Nat) (h : d < 10) : digitVal (UInt8.ofNat (48 + d)) = some d := by
  unfold digitVal
  rw [UInt8.toNat_ofNat']
  have e : (48 + d) % 2 ^ 8 = 48 + d := by omega
  rw [e, if_pos (by omega)]
  simp

/-- A number's digits, read again. -/
theorem decFrom_digits (u : Nat) : decFrom 0 (decDigits u) = some u := by
  induction u using Nat.strongRecOn with
  | _ u ih =>
    by_cases h : u < 10
    · rw [decDigits_one h]
      simp only [decFrom, digitVal_of u h]
      simp
    · rw [decDigits, dif_neg h, decFrom_append, ih (u / 10) (by omega)]
      simp only [digitVal_of (u % 10) (by omega)]
      congr 1
      omega

theorem decDigits_ne (u : Nat) : decDigits u ≠ [] := by
  have h1 := decDigits_length u
  have h2 := nDigits_pos u
  intro h
  rw [h] at h1
  simp only [List.length_nil] at h1
  omega

/-- Which digits a number is written with. -/
theorem digits_head (u : Nat) (h1 : 1 ≤ u) : (decDigits u).head? ≠ some 48 := by
  induction u using Nat.strongRecOn with
  | _ u ih =>
    by_cases h : u < 10
    · rw [decDigits_one h]
      intro hc
      simp only [List.head?_cons, Option.some.injEq] at hc
      have := congrArg UInt8.toNat hc
      rw [UInt8.toNat_ofNat'] at this
      have e : (48 : UInt8).toNat = 48 := rfl
      rw [e] at this
      omega
    · rw [decDigits, dif_neg h]
      have h2 := ih (u / 10) (by omega) (by omega)
      have h3 := decDigits_ne (u / 10)
      cases hd : decDigits (u / 10) with
      | nil => exact absurd hd h3
      | cons c r => rw [hd] at h2; exact h2

/-- Digits without an idle 0 ahead are those of their number. -/
theorem digits_of : ∀ (k : Nat) (l : List UInt8) (u : Nat), l.length = k → l ≠ [] → decFrom 0 l = some u → (l.head? ≠ some 48 ∨ l.length = 1) → decDigits u = l := by
  intro k
  induction k with
  | zero => intro l u hk hne; exact absurd (List.length_eq_zero_iff.1 hk) hne
  | succ k ih =>
    intro l u hk hne hu hh
    rcases List.eq_nil_or_concat l with h | ⟨l', b, rfl⟩
    · exact absurd h hne
    · rw [List.concat_eq_append] at *
      rw [decFrom_append] at hu
      cases hn : decFrom 0 l' with
      | none => rw [hn] at hu; cases hu
      | some n =>
        rw [hn] at hu
        cases hd : digitVal b with
        | none => rw [hd] at hu; cases hu
        | some d =>
          rw [hd] at hu
          simp only [Option.some.injEq] at hu
          obtain ⟨hd1, hd2⟩ := digitVal_some hd
          by_cases hl : l' = []
          · subst hl
            simp only [decFrom, Option.some.injEq] at hn
            subst hn
            rw [← hu, decDigits_one (by omega), hd2]
            simp
          · have hlen : l'.length = k := by simpa using hk
            have hpos : 0 < l'.length := List.length_pos_iff.2 hl
            have hh' : l'.head? ≠ some 48 := by
              rcases hh with hh | hh
              · cases l' with
                | nil => exact absurd rfl hl
                | cons c r => exact hh
              · simp at hh; exact absurd hh hl
            have hn1 : 1 ≤ n := by
              cases l' with
              | nil => exact absurd rfl hl
              | cons c r =>
                simp only [decFrom] at hn
                cases hc : digitVal c with
                | none => rw [hc] at hn; cases hn
                | some d' =>
                  rw [hc] at hn
                  have h1 := decFrom_ge r _ n hn
                  obtain ⟨h2, h3⟩ := digitVal_some hc
                  have h4 : d' ≠ 0 := by
                    intro h0
                    subst h0
                    exact hh' (by rw [h3]; rfl)
                  omega
            have hI := ih l' n hlen hl hn (.inl hh')
            rw [← hu, decDigits, dif_neg (by omega)]
            have e1 : (n * 10 + d) / 10 = n := by omega
            have e2 : (n * 10 + d) % 10 = d := by omega
            rw [e1, e2, hI, hd2]

theorem digits_iff {l : List UInt8} {u : Nat} (hne : l ≠ []) (h : decFrom 0 l = some u) : decDigits u = l ↔ ¬ (l.head? = some 48 ∧ 1 < l.length) := by
  constructor
  · rintro h1 ⟨h2, h3⟩
    by_cases hu : 1 ≤ u
    · exact digits_head u hu (by rw [h1]; exact h2)
    · have : u = 0 := by omega
      subst this
      rw [decDigits_one (by omega)] at h1
      rw [← h1] at h3
      simp at h3
  · intro h1
    refine digits_of l.length l u rfl hne h ?_
    by_cases h2 : l.head? = some 48
    · have : 0 < l.length := List.length_pos_iff.2 hne
      right
      have : ¬ 1 < l.length := fun h3 => h1 ⟨h2, h3⟩
      omega
    · exact .inl h2

/-- A number of so many digits at most, read digit by digit. -/
def refNum (k : Nat) (s : List UInt8) : Option Int :=
  let d := if hasPrefix s [45] then s.drop 1 else s
  if d.length < 1 ∨ k < d.length then none else
  match decFrom 0 d with
  | none => none
  | some n => if (d.head? = some 48 ∧ 1 < d.length) ∨ (n = 0 ∧ s.length ≠ d.length) then none else some (if s.length ≠ d.length then -(n : Int) else n)

/-- A number of at most nine digits, as the program reads it. -/
def lineNum (s : List UInt8) : Option Int := match atoiAll s with
  | .ok v => if itoa v = s ∧ (trimPrefix s [45]).length ≤ 9 then some v else none
  | _ => none

theorem hasPrefix_minus (c : UInt8) (r : List UInt8) : hasPrefix (c :: r) [45] = (c == 45) := by
  unfold hasPrefix
  simp only [List.isPrefixOf]
  rw [Bool.and_true]
  cases h : (45 == c) <;> cases h2 : (c == 45) <;> simp_all

theorem itoa_nat (u : Nat) : itoa (u : Int) = decDigits u := by unfold itoa; rw [if_neg (by omega)]; simp
theorem itoa_negp (u : Nat) (h : 1 ≤ u) : itoa (-(u : Int)) = 45 :: decDigits u := by unfold itoa; rw [if_pos (by omega)]; simp

theorem digits_head_dig (u : Nat) : ∃ c r d, decDigits u = c :: r ∧ digitVal c = some d := by
  have h1 := decFrom_digits u
  cases hd : decDigits u with
  | nil => exact absurd hd (decDigits_ne u)
  | cons c r =>
    rw [hd] at h1
    simp only [decFrom] at h1
    cases hc : digitVal c with
    | none => rw [hc] at h1; cases h1
    | some d => exact ⟨c, r, d, rfl, hc⟩

theorem digitVal_43 : digitVal 43 = none := by decide
theorem digitVal_45 : digitVal 45 = none := by decide

theorem lineNum_eq (s : List UInt8) : lineNum s = refNum 9 s := by
  cases s with
  | nil => rfl
  | cons c r =>
    unfold refNum
    rw [hasPrefix_minus]
    by_cases h45 : c = 45
    · subst h45
      have ht : trimPrefix (45 :: r) [45] = r := by
        unfold trimPrefix
        rw [hasPrefix_minus]
        simp
      simp only [beq_self_eq_true, if_true, List.drop_succ_cons, List.drop_zero]
      by_cases hlen : r.length < 1 ∨ 9 < r.length
      · rw [if_pos hlen]
        unfold lineNum
        split
        · rw [if_neg]
          rintro ⟨h1, h2⟩
          rw [ht] at h2
          have h3 : r = [] := by
            rcases hlen with h | h
            · exact List.length_eq_zero_iff.1 (by omega)
            · omega
          subst h3
          rename_i v hv
          rw [atoiAll_minus] at hv
          simp [parseMag, signed] at hv
        · rfl
      · rw [if_neg hlen]
        have hne : r ≠ [] := by intro h; subst h; simp at hlen
        unfold lineNum
        rw [atoiAll_minus, signed_short (by omega)]
        have hdec : decNat r = decFrom 0 r := by
          unfold decNat
          rw [if_neg]
          simpa using hne
        rw [hdec]
        cases hu : decFrom 0 r with
        | none => rfl
        | some u =>
          simp only [Option.map_some, NumEnd.ofOption]
          rw [ht]
          have hl1 : (45 :: r : List UInt8).length ≠ r.length := by simp
          by_cases hz : u = 0
          · subst hz
            rw [if_neg, if_pos (.inr ⟨rfl, hl1⟩)]
            rintro ⟨h1, _⟩
            have : itoa (-((0 : Nat) : Int)) = [48] := by decide +kernel
            rw [this] at h1
            cases h1
          · have h2 := digits_iff hne hu
            rw [itoa_negp u (by omega)]
            by_cases hd : decDigits u = r
            · rw [if_pos ⟨by rw [hd], by omega⟩, if_neg, if_pos hl1]
              rintro (h3 | h3)
              · exact h2.1 hd h3
              · exact hz h3.1
            · rw [if_neg (fun h => hd (List.cons.inj h.1).2), if_pos]
              exact .inl (Classical.not_not.1 fun h3 => hd (h2.2 h3))
    · have hb : (c == 45) = false := by simpa using h45
      have ht : trimPrefix (c :: r) [45] = c :: r := by
        unfold trimPrefix
        rw [hasPrefix_minus, hb]
        rfl
      rw [hb]
      simp only [Bool.false_eq_true, if_false]
      by_cases hlen : (c :: r).length < 1 ∨ 9 < (c :: r).length
      · rw [if_pos hlen]
        unfold lineNum
        split
        · rw [if_neg]
          rintro ⟨h1, h2⟩
          rw [ht] at h2
          simp only [List.length_cons] at hlen h2
          omega
        · rfl
      · rw [if_neg hlen]
        have hne : (c :: r : List UInt8) ≠ [] := by simp
        have hdec : decNat (c :: r) = decFrom 0 (c :: r) := rfl
        by_cases h43 : c = 43
        · subst h43
          have e1 : decFrom 0 (43 :: r) = none := by simp only [decFrom, digitVal_43]
          rw [e1]
          simp only
          unfold lineNum
          split
          · rename_i v hv
            rw [if_neg]
            rintro ⟨h1, _⟩
            obtain ⟨c', r', d, h2, h3⟩ := digits_head_dig v.natAbs
            unfold itoa at h1
            split at h1
            · cases h1
            · have e : v.toNat = v.natAbs := by omega
              rw [e, h2] at h1
              cases h1
              rw [digitVal_43] at h3
              cases h3
          · rfl
        · unfold lineNum
          rw [atoiAll_plain c r (fun e => h43 (UInt8.toNat_inj.1 e)) (fun e => h45 (UInt8.toNat_inj.1 e)), signless_short (by omega), hdec, ht]
          cases hu : decFrom 0 (c :: r) with
          | none => rfl
          | some u =>
            simp only [Option.map_some, NumEnd.ofOption]
            have h2 := digits_iff hne hu
            rw [itoa_nat u]
            by_cases hd : decDigits u = c :: r
            · rw [if_pos ⟨hd, by omega⟩, if_neg, if_neg (by simp)]
              rintro (h3 | h3)
              · exact h2.1 hd h3
              · exact h3.2 rfl
            · rw [if_neg (fun h => hd h.1), if_pos]
              exact .inl (Classical.not_not.1 fun h3 => hd (h2.2 h3))

end Go.AB
