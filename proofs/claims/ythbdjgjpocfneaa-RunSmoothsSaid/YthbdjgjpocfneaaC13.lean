/- The contract of the reference's error of Smooth. -/
import Derived.Test.YthbdjgjpocfneaaC6
namespace Go.Proofs.Ythbdjgjpocfneaa
open Go.AB

/-! ### Lists of lists of whole numbers -/
def dInts (l : List Int) : DV := .sl 1 (l.map (DV.int .i64))
def inP (p : Int) : Bool := decide (0 ≤ p) && decide (p ≤ 1125899906842624)
def smErr (pw : List (List Int)) (limit most : Int) : Int :=
  if 12 < pw.length then 4 else if pw.all (fun l => decide (l.length ≤ 3600)) = true then (if pw.all (fun l => l.all inP) = true then (if (0 ≤ limit ∧ limit ≤ 36028797018963968) ∧ 0 ≤ most ∧ most ≤ 3600 then 0 else 2) else 2) else 4

theorem take_allG {α : Type} {p : α → Bool} {l : List α} {x : Nat} {c : α} (h : l[x]? = some c) : (l.take (x + 1)).all p = ((l.take x).all p && p c) := by
  rw [List.take_add_one, h]
  simp
theorem allG_bad {α : Type} {p : α → Bool} {l : List α} {x : Nat} {c : α} (h : l[x]? = some c) (hc : p c = false) : ¬ l.all p = true := by
  intro ha
  have := List.all_eq_true.1 ha c (List.mem_of_getElem? h)
  rw [hc] at this; cases this

set_option maxHeartbeats 4000000 in
set_option maxRecDepth 20000 in
theorem f50 (pw : List (List Int)) (limit most : Int) (hpw : pw.length ≤ 140737488351232) (hl : ∀ l ∈ pw, l.length ≤ 140737488351232) : PCall Try.prog 50 [.sl 1 (pw.map dInts) .no, .int .i64 limit, .int .i64 most] (RV (.int .i64 (smErr pw limit most))) := by
  refine PCall.of_body Try.func50 rfl Try.ntmps50 (congrArg Array.toList Try.results50) ?_
  intro E
  simp (config := {maxSteps := 1000000}) only [go_sem]
  refine ⟨fun h => ?_, fun h => ?_⟩
  · unfold smErr; rw [if_pos (by omega)]
  have h12 : ¬ 12 < pw.length := by omega
  refine AW_loopS [8, 18, 19, 20, 21, 22, 23, 24, 25] (fun (x : Nat) ρ m => ρ 18 = .int .i64 (x : Int) ∧ (∃ nx lv, m = ⟨[], [], nx, lv⟩) ∧ x ≤ pw.length ∧ (pw.take x).all (fun l => decide (l.length ≤ 3600)) = true) (fun x => pw.length - x) 0 ?_ ?_
  · simp only [go_sem]
    exact ⟨⟨_, _, rfl⟩, Nat.zero_le _⟩
  rintro x ρ m ⟨e18, ⟨nx, lv, rfl⟩, hx, hall⟩
  by_cases hlt : x < pw.length
  · have hlt' : ((x : Int) < (pw.length : Int)) = True := by simp; omega
    obtain ⟨c, hc⟩ : ∃ c, pw[x]? = some c := ⟨_, List.getElem?_eq_getElem hlt⟩
    have ht := take_allG (p := fun l => decide (l.length ≤ 3600)) hc
    simp (config := {maxSteps := 1000000}) (disch := omega) only [go_sem, e18, hlt', hc, i64_in, dInts]
    refine ⟨by omega, fun h1 => ?_, fun h1 => ?_⟩
    · have := allG_bad (p := fun l => decide (l.length ≤ 3600)) hc (by simp; omega)
      unfold smErr; rw [if_neg h12, if_neg this]
    · refine ⟨by kernel_rfl, x + 1, ?_, by simp only; omega⟩
      simp only [go_sem]
      exact ⟨by simp, ⟨_, _, rfl⟩, by omega, by rw [ht, hall]; simp; omega⟩
  have hlt' : ((x : Int) < (pw.length : Int)) = False := by simp; omega
  rw [List.take_of_length_le (by omega)] at hall
  simp (config := {maxSteps := 1000000}) (disch := omega) only [go_sem, e18, hlt', i64_in]
  refine AW_loopS [10, 11, 12, 28, 29, 30, 31, 32, 33, 34, 35, 36, 37, 38, 39, 40, 41, 42, 43, 44, 45] (fun (x : Nat) ρ m => ρ 28 = .int .i64 (x : Int) ∧ (∃ nx lv, m = ⟨[], [], nx, lv⟩) ∧ x ≤ pw.length ∧ (pw.take x).all (fun l => l.all inP) = true) (fun x => pw.length - x) 0 ?_ ?_
  · simp only [go_sem]
    exact ⟨⟨_, _, rfl⟩, Nat.zero_le _⟩
  clear e18 hlt' hlt hx
  rintro x ρ1 m ⟨e28, ⟨nx, lv, rfl⟩, hx, hal2⟩
  by_cases hlt : x < pw.length
  · have hlt' : ((x : Int) < (pw.length : Int)) = True := by simp; omega
    obtain ⟨l, hc⟩ : ∃ c, pw[x]? = some c := ⟨_, List.getElem?_eq_getElem hlt⟩
    have ht := take_allG (p := fun l => l.all inP) hc
    have hll := hl l (List.mem_of_getElem? hc)
    simp (config := {maxSteps := 1000000}) (disch := omega) only [go_sem, e28, hlt', hc, i64_in, dInts]
    refine ⟨by omega, ?_⟩
    refine AW_loopS [12, 34, 35, 36, 37, 38, 39, 40, 41, 42, 43, 44] (fun (y : Nat) ρ m => ρ 34 = .int .i64 (y : Int) ∧ (∃ nx lv, m = ⟨[], [], nx, lv⟩) ∧ y ≤ l.length ∧ (l.take y).all inP = true) (fun y => l.length - y) 0 ?_ ?_
    · simp only [go_sem]
      exact ⟨⟨_, _, rfl⟩, Nat.zero_le _⟩
    rintro y ρ2 m ⟨e34, ⟨nx2, lv2, rfl⟩, hy, hal3⟩
    by_cases hylt : y < l.length
    · have hylt' : ((y : Int) < (l.length : Int)) = True := by simp; omega
      obtain ⟨c, hd⟩ : ∃ c, l[y]? = some c := ⟨_, List.getElem?_eq_getElem hylt⟩
      have ht3 := take_allG (p := inP) hd
      simp (config := {maxSteps := 1000000}) (disch := omega) only [go_sem, e34, hylt', hd, i64_in, dInts]
      have bad : inP c = false → 2 = smErr pw limit most := fun hb => by
        have := allG_bad (p := fun l => l.all inP) hc (by
          have := allG_bad hd hb
          simpa using this)
        unfold smErr; rw [if_neg h12, if_pos hall, if_neg this]
      refine ⟨by omega, fun h1 => bad (by simp [inP]; omega), fun h1 => ⟨fun h2 => bad (by simp [inP]; omega), fun h2 => ?_⟩⟩
      refine ⟨by kernel_rfl, y + 1, ?_, by simp only; omega⟩
      simp only [go_sem]
      exact ⟨by simp, ⟨_, _, rfl⟩, by omega, by rw [ht3, hal3]; simp [inP]; omega⟩
    · have hylt' : ((y : Int) < (l.length : Int)) = False := by simp; omega
      rw [List.take_of_length_le (by omega)] at hal3
      simp (config := {maxSteps := 1000000}) (disch := omega) only [go_sem, e34, hylt', i64_in]
      refine ⟨by kernel_rfl, x + 1, ?_, by simp only; omega⟩
      simp only [go_sem]
      exact ⟨by simp, ⟨_, _, rfl⟩, by omega, by rw [ht, hal2, hal3]; rfl⟩
  have hlt' : ((x : Int) < (pw.length : Int)) = False := by simp; omega
  rw [List.take_of_length_le (by omega)] at hal2
  simp (config := {maxSteps := 1000000}) (disch := omega) only [go_sem, e28, hlt', i64_in]
  have bad : ¬ ((0 ≤ limit ∧ limit ≤ 36028797018963968) ∧ 0 ≤ most ∧ most ≤ 3600) → 2 = smErr pw limit most := fun hb => by
    unfold smErr; rw [if_neg h12, if_pos hall, if_pos hal2, if_neg hb]
  refine ⟨fun h1 => bad (by omega), fun h1 => ⟨fun h2 => bad (by omega), fun h2 => ⟨fun h3 => bad (by omega), fun h3 => ⟨fun h4 => bad (by omega), fun h4 => ?_⟩⟩⟩⟩
  unfold smErr; rw [if_neg h12, if_pos hall, if_pos hal2, if_pos (by omega)]
end Go.Proofs.Ythbdjgjpocfneaa
