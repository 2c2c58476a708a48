/- Contracts of Reached; the law RunReaches over them, for all lists of states and places. -/
import Derived.Test.YthbdjgjpocfneaaC6
namespace Go.Proofs.Ythbdjgjpocfneaa
open Go.AB

/-- The first state that is at a place or beyond; n behind those that were looked at. -/
def reachI (p : Int) : List State → Nat → Int
  | [], _ => -1
  | x :: r, n => if p ≤ x.pos then (n : Int) else reachI p r (n + 1)

theorem f65 (x : State) (p : Int) : PCall Try.prog 65 [.agg [.int .i64 x.pos, .int .i64 x.speed, .int .i64 x.work], .ept [.int .i64 p]] (RV (.bool (decide (p ≤ x.pos)))) := by
  refine PCall.of_body Try.func65 rfl Try.ntmps65 (congrArg Array.toList Try.results65) ?_
  intro E
  simp only [go_sem]

theorem f64 (l : List State) (p : Int) (hl : l.length * 24 ≤ 140737488351232) : PCall Try.prog 64 [.sl 3 (l.map dState) .no, .fn 65 [.ept [.int .i64 p]]] (RV (.int .i64 (reachI p l 0))) := by
  refine PCall.of_body Try.func64 rfl Try.ntmps64 (congrArg Array.toList Try.results64) ?_
  intro E
  simp only [go_sem]
  refine AW_loopS [5, 8, 9, 10, 11, 12, 13, 14, 15, 16, 18] (fun (x : Nat) ρ m => ρ 8 = .int .i64 (x : Int) ∧ (∃ nx lv, m = ⟨[], [], nx, lv⟩) ∧ x ≤ l.length ∧ reachI p (l.drop x) x = reachI p l 0) (fun x => l.length - x) 0 ?_ ?_
  · simp only [go_sem]
    exact ⟨⟨_, _, rfl⟩, Nat.zero_le _⟩
  · rintro x ρ m ⟨e8, ⟨nx, lv, rfl⟩, hx, hre⟩
    by_cases hlt : x < l.length
    · have hlt' : ((x : Int) < (l.length : Int)) = True := by simp; omega
      obtain ⟨c, hc⟩ : ∃ c, l[x]? = some c := ⟨_, List.getElem?_eq_getElem hlt⟩
      have hd : l.drop x = c :: l.drop (x + 1) := by
        rw [List.drop_eq_getElem_cons hlt]
        congr 1
        rw [List.getElem?_eq_getElem hlt] at hc
        exact Option.some.inj hc
      rw [hd, reachI] at hre
      simp (disch := omega) only [go_sem, e8, hlt', hc, i64_in, dState]
      refine ⟨by omega, callV (f65 c p) ?_⟩
      intro nx lv
      simp (disch := omega) only [go_sem, i64_in]
      refine ⟨fun h => ?_, fun h => ?_⟩
      · rw [if_pos h] at hre; exact hre
      · rw [if_neg h] at hre
        refine ⟨by kernel_rfl, x + 1, ?_, by simp only; omega⟩
        simp only [go_sem]
        exact ⟨by simp, ⟨_, _, rfl⟩, by omega, hre⟩
    · have hlt' : ((x : Int) < (l.length : Int)) = False := by simp; omega
      simp (disch := omega) only [go_sem, e8, hlt', i64_in]
      rw [List.drop_eq_nil_of_le (by omega), reachI] at hre
      exact hre

theorem f19 (l : List State) (p : Int) (hl : l.length * 24 ≤ 140737488351232) : PCall Try.prog 19 [.sl 3 (l.map dState) .no, .int .i64 p] (RV (.int .i64 (reachI p l 0))) := by
  refine PCall.of_body Try.func19 rfl Try.ntmps19 (congrArg Array.toList Try.results19) ?_
  intro E
  simp only [go_sem]
  refine quiet (f64 l p hl) rfl ?_
  simp only [go_sem]

theorem reachI_neg (p : Int) : ∀ (l : List State) (n : Nat), reachI p l n < 0 → reachI p l n = -1
  | [], _, _ => rfl
  | x :: r, n, h => by
    unfold reachI at h ⊢
    split
    · rename_i hp; rw [if_pos hp] at h; omega
    · rename_i hp; rw [if_neg hp] at h; exact reachI_neg p r (n + 1) h
theorem reachI_snoc (p : Int) (c : State) : ∀ (a : List State) (n : Nat), reachI p (a ++ [c]) n = if reachI p a n < 0 then (if p ≤ c.pos then ((n + a.length : Nat) : Int) else -1) else reachI p a n
  | [], n => by simp [reachI]
  | x :: r, n => by
    have := reachI_snoc p c r (n + 1)
    simp only [List.cons_append, reachI]
    split
    · rw [if_neg (by omega)]
    · rw [this]
      simp only [List.length_cons]
      rw [show n + 1 + r.length = n + (r.length + 1) by omega]

set_option maxHeartbeats 4000000 in
set_option maxRecDepth 20000 in
theorem f4 (l : List State) (p : Int) (hl : l.length * 24 ≤ 140737488351232) : PCall Try.prog 4 [.sl 3 (l.map dState) .no, .int .i64 p] (RV (.bool true)) := by
  refine PCall.of_body Try.func4 rfl Try.ntmps4 (congrArg Array.toList Try.results4) ?_
  intro E
  simp only [go_sem]
  refine AW_loopS [5, 6, 7, 10, 11, 12, 13, 14, 15, 16, 17, 18, 19, 20, 21, 22, 23, 24] (fun (x : Nat) ρ m => ρ 10 = .int .i64 (x : Int) ∧ ρ 5 = .int .i64 (reachI p (l.take x) 0) ∧ ((∃ nx lv, m = ⟨[], [], nx, lv⟩) ∨ ∃ g cs nx lv, m = ⟨[(7, g, cs)], [], nx, lv⟩) ∧ x ≤ l.length) (fun x => l.length - x) 0 ?_ ?_
  · simp only [go_sem]
    exact ⟨rfl, .inl ⟨_, _, rfl⟩, Nat.zero_le _⟩
  · rintro x ρ m ⟨e10, e5, hm, hx⟩
    by_cases hlt : x < l.length
    · have hlt' : ((x : Int) < (l.length : Int)) = True := by simp; omega
      obtain ⟨c, hc⟩ : ∃ c, l[x]? = some c := ⟨_, List.getElem?_eq_getElem hlt⟩
      have hs : reachI p (l.take (x + 1)) 0 = if reachI p (l.take x) 0 < 0 then (if p ≤ c.pos then (x : Int) else -1) else reachI p (l.take x) 0 := by
        rw [List.take_add_one, hc, Option.toList_some, reachI_snoc, List.length_take]
        rw [show 0 + min x l.length = x by omega]
      have hn := reachI_neg p (l.take x) 0
      rcases hm with ⟨nx, lv, rfl⟩ | ⟨g, cs, nx, lv, rfl⟩
      all_goals
        simp (disch := omega) only [go_sem, e10, e5, hlt', hc, i64_in, dState]
        refine ⟨by omega, fun h1 => ⟨fun h2 => ?_, fun h2 => ?_⟩, fun h1 => ?_⟩
        · rw [if_pos h1, if_pos h2] at hs
          refine ⟨by kernel_rfl, x + 1, ?_, by simp only; omega⟩
          simp only [go_sem]
          exact ⟨by simp, hs.symm, .inr ⟨_, _, _, _, rfl⟩, by omega⟩
        · rw [if_pos h1, if_neg h2, ← hn h1] at hs
          refine ⟨by kernel_rfl, x + 1, ?_, by simp only; omega⟩
          simp only [go_sem]
          exact ⟨by simp, hs.symm, .inr ⟨_, _, _, _, rfl⟩, by omega⟩
        · rw [if_neg h1] at hs
          refine ⟨by kernel_rfl, x + 1, ?_, by simp only; omega⟩
          simp only [go_sem]
          exact ⟨by simp, hs.symm, .inr ⟨_, _, _, _, rfl⟩, by omega⟩
    · have hlt' : ((x : Int) < (l.length : Int)) = False := by simp; omega
      rw [List.take_of_length_le (by omega)] at e5
      rcases hm with ⟨nx, lv, rfl⟩ | ⟨g, cs, nx, lv, rfl⟩
      all_goals
        simp (disch := omega) only [go_sem, e10, e5, hlt', i64_in]
        refine callV (f19 l p hl) ?_
        intro nx lv
        simp only [go_sem]

theorem openState {x : DV} (h : ElD Try.prog 27 x) : ∃ a : State, x = dState a := by
  obtain ⟨ns, h1, rfl, _⟩ := h.ints 4 (n := 3) (by kernel_rfl) (by kernel_rfl)
  match ns, h1 with
  | [a, b, c], _ => exact ⟨⟨a, b, c⟩, rfl⟩
theorem openStates {x : DV} (h : ElD Try.prog 25 x) : ∃ l : List State, x = .sl 3 (l.map dState) ∧ l.length * 24 ≤ 140737488351232 := by
  obtain ⟨es, rfl, h1, h2⟩ := h.sl_inv Try.underlying25 (z := 3) (y := 24) (by kernel_rfl) (by kernel_rfl)
  obtain ⟨l, rfl, _⟩ := map_of_each (f := dState) (p := fun _ => True) es (fun y hy => by
    obtain ⟨a, ha⟩ := openState (h2 y hy)
    exact ⟨a, ha, trivial⟩)
  exact ⟨l, rfl, by simpa using h1⟩
theorem law4 (xs : List DV) (h : ElDs Try.prog [25, 3] xs) : PCall Try.prog 4 (xs.map toAV) (RV (.bool true)) := by
  obtain ⟨x, xs, rfl, hx, h⟩ := h.cons_inv
  obtain ⟨y, xs, rfl, hy, h⟩ := h.cons_inv
  cases h.nil_inv
  obtain ⟨l, rfl, hl⟩ := openStates hx
  obtain ⟨v, rfl, _⟩ := hy.int_inv Try.underlying3
  simp only [List.map_cons, List.map_nil, toAV]
  exact f4 l v hl
end Go.Proofs.Ythbdjgjpocfneaa
