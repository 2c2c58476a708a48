/- The law RunConflicts over its contracts, for lists of up to 2 to the 20th holds. -/
import Derived.Test.YthbdjgjpocfneaaC11
namespace Go.Proofs.Ythbdjgjpocfneaa
open Go.AB

theorem takeG_succ {α : Type} {a b : List α} {x : Nat} {c d : α} (ha : a[x]? = some c) (hb : b[x]? = some d) (h : a.take x = b.take x) : (a.take (x + 1) = b.take (x + 1)) ↔ c = d := by
  rw [List.take_add_one, List.take_add_one, ha, hb, h]
  simp

theorem f38 (a b : List (Int × Int)) (ha : a.length ≤ 140737488351232) : PCall Try.prog 38 [.sl 2 (a.map dPair) .no, .sl 2 (b.map dPair) .no] (RV (.bool (decide (a = b)))) := by
  refine PCall.of_body Try.func38 rfl Try.ntmps38 (congrArg Array.toList Try.results38) ?_
  intro E
  simp (config := {maxSteps := 1000000}) only [go_sem]
  refine ⟨fun h => ?_, fun h => ?_⟩
  · have : a ≠ b := fun e => h (by rw [e])
    simp [this]
  have hl : a.length = b.length := by omega
  refine AW_loopS [5, 13, 14, 15, 16, 17, 18, 19, 20, 21, 22, 23, 24, 25] (fun (x : Nat) ρ m => ρ 13 = .int .i64 (x : Int) ∧ (∃ nx lv, m = ⟨[], [], nx, lv⟩) ∧ x ≤ a.length ∧ a.take x = b.take x) (fun x => a.length - x) 0 ?_ ?_
  · simp only [go_sem]
    exact ⟨⟨_, _, rfl⟩, Nat.zero_le _⟩
  · rintro x ρ m ⟨e8, ⟨nx, lv, rfl⟩, hx, hall⟩
    by_cases hlt : x < a.length
    · have hlt' : ((x : Int) < (a.length : Int)) = True := by simp; omega
      obtain ⟨c, hc⟩ : ∃ c, a[x]? = some c := ⟨_, List.getElem?_eq_getElem hlt⟩
      obtain ⟨d, hd⟩ : ∃ c, b[x]? = some c := ⟨_, List.getElem?_eq_getElem (by omega)⟩
      have ht := takeG_succ hc hd hall
      simp (disch := omega) only [go_sem, e8, hlt', i64_in]
      refine drawn (by kernel_rfl) (by kernel_rfl) ?_
      simp (disch := omega) only [go_sem, hc, hd, i64_in, dPair]
      refine ⟨by omega, by omega, fun nx lv _ _ => ⟨fun h1 => ?_, fun h1 => ?_⟩⟩
      · have : a ≠ b := fun e => by
          subst e
          rw [hc] at hd
          cases hd
          simp at h1
        simp [this]
      · have hcd : c = d := by
          obtain ⟨c1, c2⟩ := c; obtain ⟨d1, d2⟩ := d
          simpa using h1
        refine ⟨by kernel_rfl, x + 1, ?_, by simp only; omega⟩
        simp only [go_sem]
        exact ⟨by simp, ⟨_, _, rfl⟩, by omega, ht.2 hcd⟩
    · have hlt' : ((x : Int) < (a.length : Int)) = False := by simp; omega
      simp (disch := omega) only [go_sem, e8, hlt', i64_in]
      rw [List.take_of_length_le (by omega), List.take_of_length_le (by omega)] at hall
      simp [hall]

theorem take_all_hold {l : List Hold} {x : Nat} {c : Hold} (h : l[x]? = some c) : (l.take (x + 1)).all inB = ((l.take x).all inB && inB c) := by
  rw [List.take_add_one, h]
  simp

set_option maxHeartbeats 8000000 in
set_option maxRecDepth 20000 in
theorem f11 (a b : List Hold) (ha : a.length ≤ 1048576) (hb : b.length ≤ 1048576) : PCall Try.prog 11 [.sl 6 (a.map dHold) .no, .sl 6 (b.map dHold) .no] (RV (.bool true)) := by
  refine PCall.of_body Try.func11 rfl Try.ntmps11 (congrArg Array.toList Try.results11) ?_
  intro E
  simp (config := {maxSteps := 1000000}) only [go_sem]
  refine LW_start (LW_round ?_)
  simp (config := {maxSteps := 1000000}) only [go_sem]
  refine AW_loopS [8, 19, 20, 21, 22, 23, 24, 25, 26, 27, 28, 29, 30, 31, 32, 33, 34, 35, 36, 37, 38, 39, 40, 41] (fun (y : Nat) ρ m => ρ 19 = .int .i64 (y : Int) ∧ (∃ h nx lv, m = ⟨h, [], nx, lv⟩) ∧ y ≤ a.length ∧ (a.take y).all inB = true) (fun y => a.length - y) 0 ?_ ?_
  · simp only [go_sem]
    exact ⟨⟨_, _, _, rfl⟩, Nat.zero_le _⟩
  rintro y ρ m ⟨e19, ⟨h, nx, lv, rfl⟩, hy, hall⟩
  by_cases hlt : y < a.length
  · have hlt' : ((y : Int) < (a.length : Int)) = True := by simp; omega
    obtain ⟨c, hc⟩ : ∃ c, a[y]? = some c := ⟨_, List.getElem?_eq_getElem hlt⟩
    have ht := take_all_hold hc
    simp (config := {maxSteps := 1000000}) (disch := omega) only [go_sem, e19, hlt', hc, i64_in, dHold]
    refine ⟨by omega, fun k1 k2 k3 k4 => ?_⟩
    refine ⟨by kernel_rfl, y + 1, ?_, by simp only; omega⟩
    simp only [go_sem]
    exact ⟨by simp, ⟨_, _, _, rfl⟩, by omega, by rw [ht, hall]; simp [inB]; omega⟩
  have hlt' : ((y : Int) < (a.length : Int)) = False := by simp; omega
  rw [List.take_of_length_le (by omega)] at hall
  have hia := hall
  clear hall hy
  simp (config := {maxSteps := 1000000}) (disch := omega) only [go_sem, e19, hlt', i64_in]
  refine LW_round ?_
  simp (config := {maxSteps := 1000000}) only [go_sem]
  refine AW_loopS [8, 19, 20, 21, 22, 23, 24, 25, 26, 27, 28, 29, 30, 31, 32, 33, 34, 35, 36, 37, 38, 39, 40, 41] (fun (y : Nat) ρ m => ρ 19 = .int .i64 (y : Int) ∧ (∃ h nx lv, m = ⟨h, [], nx, lv⟩) ∧ y ≤ b.length ∧ (b.take y).all inB = true) (fun y => b.length - y) 0 ?_ ?_
  · simp only [go_sem]
    exact ⟨⟨_, _, _, rfl⟩, Nat.zero_le _⟩
  clear e19 hlt' hlt
  rintro y ρ2 m ⟨e19, ⟨h, nx, lv, rfl⟩, hy, hall⟩
  by_cases hlt : y < b.length
  · have hlt' : ((y : Int) < (b.length : Int)) = True := by simp; omega
    obtain ⟨c, hc⟩ : ∃ c, b[y]? = some c := ⟨_, List.getElem?_eq_getElem hlt⟩
    have ht := take_all_hold hc
    simp (config := {maxSteps := 1000000}) (disch := omega) only [go_sem, e19, hlt', hc, i64_in, dHold]
    refine ⟨by omega, fun k1 k2 k3 k4 => ?_⟩
    refine ⟨by kernel_rfl, y + 1, ?_, by simp only; omega⟩
    simp only [go_sem]
    exact ⟨by simp, ⟨_, _, _, rfl⟩, by omega, by rw [ht, hall]; simp [inB]; omega⟩
  have hlt' : ((y : Int) < (b.length : Int)) = False := by simp; omega
  rw [List.take_of_length_le (by omega)] at hall
  simp (config := {maxSteps := 1000000}) (disch := omega) only [go_sem, e19, hlt', i64_in]
  refine LW_round ?_
  simp (config := {maxSteps := 1000000}) only [go_sem]
  refine callV (f39 a b ha hb) ?_
  intro nx lv
  simp (config := {maxSteps := 1000000}) only [go_sem]
  refine callV (f40 a b ha hb) ?_
  intro nx lv
  simp (config := {maxSteps := 1000000}) only [go_sem]
  have hlen := allP_len b a 0
  have hmul : a.length * b.length ≤ 1048576 * 1048576 := Nat.mul_le_mul ha hb
  refine callV (f38 _ _ (by omega)) ?_
  intro nx lv
  simp (config := {maxSteps := 1000000}) only [go_sem]
  refine callV (f41 a b ha hb hia hall) ?_
  intro nx lv
  simp (config := {maxSteps := 1000000}) only [go_sem]
  refine callV (f42 a b ha hb hia hall) ?_
  intro nx lv
  simp (config := {maxSteps := 1000000}) only [go_sem]

theorem openHold {x : DV} (h : ElD Try.prog 68 x) : ∃ a : Hold, x = dHold a := by
  obtain ⟨ns, h1, rfl, _⟩ := h.ints 4 (n := 6) (by kernel_rfl) (by kernel_rfl)
  match ns, h1 with
  | [a, b, c, d, e, f], _ => exact ⟨⟨⟨a, b, c, d⟩, e, f⟩, rfl⟩
theorem openHolds {x : DV} (h : ElD Try.prog 65 x) : ∃ l : List Hold, x = .sl 6 (l.map dHold) := by
  obtain ⟨es, rfl, h1, h2⟩ := h.sl_inv Try.underlying65 (z := 6) (by kernel_rfl) rfl
  obtain ⟨l, rfl, _⟩ := map_of_each (f := dHold) (p := fun _ => True) es (fun y hy => by
    obtain ⟨a, ha⟩ := openHold (h2 y hy)
    exact ⟨a, ha, trivial⟩)
  exact ⟨l, rfl⟩
theorem law11 (xs : List DV) (h : ElDs Try.prog [65, 65] xs) (hk : bulkDs xs ≤ 1048576) : PCall Try.prog 11 (xs.map toAV) (RV (.bool true)) := by
  obtain ⟨x, xs, rfl, hx, h⟩ := h.cons_inv
  obtain ⟨y, xs, rfl, hy, h⟩ := h.cons_inv
  cases h.nil_inv
  obtain ⟨a, rfl⟩ := openHolds hx
  obtain ⟨b, rfl⟩ := openHolds hy
  have h1 := bulkDs_len (a.map dHold)
  have h2 := bulkDs_len (b.map dHold)
  simp only [bulkDs, bulkD, List.length_map] at hk h1 h2
  simp only [List.map_cons, List.map_nil, toAV]
  exact f11 a b (by omega) (by omega)
end Go.Proofs.Ythbdjgjpocfneaa
