/- The law RunPowers over its contracts, for all stocks and lists of states. -/
import Derived.Test.YthbdjgjpocfneaaC6
namespace Go.Proofs.Ythbdjgjpocfneaa
open Go.AB
def J13 (s : Stock) (l : List State) (x : Nat) (ρ : Nat → AV) (m : AH) : Prop :=
  ρ 28 = .int .i64 (x : Int) ∧ ρ 7 = .int .i64 (scanE 0 ((works l).take x)) ∧ (scanE 0 ((works l).take x) = 0 → ∃ tok, ρ 8 = .sl 1 ((diffs ((works l).take x)).map (DV.int .i64)) tok ∧ okT m tok) ∧
  (∃ g cs nx lv, m = ⟨[(2, 0, cellsS s), (10, g, cs)], [], nx, lv⟩) ∧ 1 ≤ x ∧ x ≤ l.length
def J13i (s : Stock) (l : List State) (x : Nat) (ρ : Nat → AV) (m : AH) : Prop :=
  ρ 28 = .int .i64 (x : Int) ∧ (∃ g cs nx lv, m = ⟨[(2, 0, cellsS s), (10, g, cs)], [], nx, lv⟩) ∧ 1 ≤ x ∧ x ≤ l.length
theorem scan_same {w : List Int} {x : Nat} {p : Int} (h : ¬ scanE p (w.take x) = 0) : scanE p (w.take (x + 1)) = scanE p (w.take x) := by
  rw [List.take_add_one, scanE_app, if_neg h]

set_option maxHeartbeats 8000000 in
set_option maxRecDepth 20000 in
theorem f13 (s : Stock) (l : List State) (hs : s.name.length ≤ 140737488351232) (hl : l.length * 24 ≤ 140737488351232) : PCall Try.prog 13 [eStock s, .sl 3 (l.map dState) .no] (RV (.bool true)) := by
  refine PCall.of_body Try.func13 rfl Try.ntmps13 (congrArg Array.toList Try.results13) ?_
  intro E
  simp only [go_sem, eStock]
  refine callV (f47 s l hs hl) ?_
  intro nx lv
  simp only [go_sem]
  refine callV (f25 s hs) ?_
  intro nx lv
  by_cases hc : checkS s = 0
  · by_cases hl0 : l = []
    · subst hl0
      simp only [go_sem, hc]
      refine LW_start (LW_round ?_)
      simp only [go_sem]
      simp [powErr, powVal, hc]
    have hpos : 0 < l.length := List.length_pos_iff.2 hl0
    have hln : ((l.length : Int) = 0) = False := by simp; omega
    have hlen : ((0 : Int) < (l.length : Int)) = True := by simp; omega
    obtain ⟨x0, h0⟩ : ∃ c, l[0]? = some c := ⟨_, List.getElem?_eq_getElem hpos⟩
    have hw0 : (works l)[0]? = some x0.work := works_get h0
    have hpe : powErr s l = scanE 0 (works l) := by simp [powErr, hc, hl0]
    have hs0 := scan_in (p := 0) (w := works l) (x := 0) (c := x0.work) (by simp [scanE]) hw0
    simp only [go_sem, hc, hln]
    refine LW_start (LW_round ?_)
    simp (config := {maxSteps := 1000000}) (disch := omega) only [go_sem, i64_in, hlen, h0, dState]
    refine ⟨fun h2 => ?_, fun h2 => ⟨fun h3 => ?_, fun h3 => ?_⟩⟩
    · rw [if_pos (.inl h2)] at hs0
      have hpe := hpe.trans (scan_fail hs0 (by omega))
      have hpv : powVal s l = [] := by simp [powVal, hpe]
      refine LW_loopS [9, 10, 28, 29, 30, 31, 32, 33, 34, 35, 36, 37, 38, 39, 40, 41, 42, 43, 44, 45, 46, 47, 48, 49, 50, 51, 52, 53, 54, 55, 56, 57, 58, 59, 60, 61, 62, 63, 64, 65, 66, 67, 68, 69, 70, 71, 72, 73, 74] (J13i s l) (fun x => l.length - x) 1 ?_ ?_
      · simp only [go_sem, cellsS, J13i]
        exact ⟨⟨_, _, _, _, rfl⟩, hpos⟩
      rintro x ρ m ⟨e28, ⟨g, cs, nx, lv, rfl⟩, hx1, hx⟩
      by_cases hlt : x < l.length
      · have hlt' : ((x : Int) < (l.length : Int)) = True := by simp; omega
        obtain ⟨c, hc⟩ : ∃ c, l[x]? = some c := ⟨_, List.getElem?_eq_getElem hlt⟩
        simp (config := {maxSteps := 1000000}) (disch := omega) only [go_sem, e28, hlt', hc, i64_in, dState]
        refine ⟨by omega, by kernel_rfl, x + 1, ?_, by simp only; omega⟩
        simp only [go_sem, J13i]
        exact ⟨by simp, ⟨_, _, _, _, rfl⟩, by omega⟩
      · have hlt' : ((x : Int) < (l.length : Int)) = False := by simp; omega
        simp (config := {maxSteps := 1000000}) (disch := omega) only [go_sem, e28, hlt', i64_in, hpv, hpe]
    · rw [if_pos (.inr h3)] at hs0
      have hpe := hpe.trans (scan_fail hs0 (by omega))
      have hpv : powVal s l = [] := by simp [powVal, hpe]
      refine LW_loopS [9, 10, 28, 29, 30, 31, 32, 33, 34, 35, 36, 37, 38, 39, 40, 41, 42, 43, 44, 45, 46, 47, 48, 49, 50, 51, 52, 53, 54, 55, 56, 57, 58, 59, 60, 61, 62, 63, 64, 65, 66, 67, 68, 69, 70, 71, 72, 73, 74] (J13i s l) (fun x => l.length - x) 1 ?_ ?_
      · simp only [go_sem, cellsS, J13i]
        exact ⟨⟨_, _, _, _, rfl⟩, hpos⟩
      rintro x ρ m ⟨e28, ⟨g, cs, nx, lv, rfl⟩, hx1, hx⟩
      by_cases hlt : x < l.length
      · have hlt' : ((x : Int) < (l.length : Int)) = True := by simp; omega
        obtain ⟨c, hc⟩ : ∃ c, l[x]? = some c := ⟨_, List.getElem?_eq_getElem hlt⟩
        simp (config := {maxSteps := 1000000}) (disch := omega) only [go_sem, e28, hlt', hc, i64_in, dState]
        refine ⟨by omega, by kernel_rfl, x + 1, ?_, by simp only; omega⟩
        simp only [go_sem, J13i]
        exact ⟨by simp, ⟨_, _, _, _, rfl⟩, by omega⟩
      · have hlt' : ((x : Int) < (l.length : Int)) = False := by simp; omega
        simp (config := {maxSteps := 1000000}) (disch := omega) only [go_sem, e28, hlt', i64_in, hpv, hpe]
    · rw [if_neg (by unfold top60; omega), if_neg (by simp [lastI]; omega)] at hs0
      refine drawn (by kernel_rfl) (by kernel_rfl) ?_
      simp (disch := omega) only [go_sem, i64_in]
      intro nx lv _ _
      refine LW_loopS [7, 8, 9, 10, 28, 29, 30, 31, 32, 33, 34, 35, 36, 37, 38, 39, 40, 41, 42, 43, 44, 45, 46, 47, 48, 49, 50, 51, 52, 53, 54, 55, 56, 57, 58, 59, 60, 61, 62, 63, 64, 65, 66, 67, 68, 69, 70, 71, 72, 73, 74] (J13 s l) (fun x => l.length - x) 1 ?_ ?_
      · simp only [go_sem, cellsS, J13]
        refine ⟨by rw [hs0], fun h => ⟨.nil, ⟨?_, rfl⟩, trivial⟩, ⟨_, _, _, _, rfl⟩, hpos⟩
        rw [List.take_add_one, hw0]
        rfl
      rintro x ρ m ⟨e28, e7, e8, ⟨g, cs, nx, lv, rfl⟩, hx1, hx⟩
      by_cases hlt : x < l.length
      · have hlt' : ((x : Int) < (l.length : Int)) = True := by simp; omega
        have hx0 : ((0 : Int) < (x : Int)) = True := by simp; omega
        obtain ⟨c, hc⟩ : ∃ c, l[x]? = some c := ⟨_, List.getElem?_eq_getElem hlt⟩
        obtain ⟨d, hd⟩ : ∃ c, l[x - 1]? = some c := ⟨_, List.getElem?_eq_getElem (by omega)⟩
        have hcw : (works l)[x]? = some c.work := works_get hc
        have hdw : (works l)[x - 1]? = some d.work := works_get hd
        have hlast : lastI 0 ((works l).take x) = d.work := by
          have := lastI_take (p := 0) hdw
          rwa [show x - 1 + 1 = x by omega] at this
        have hnat : ((x : Int) - 1).toNat = x - 1 := by omega
        by_cases hsc : scanE 0 ((works l).take x) = 0
        · have hsx := scan_in hsc hcw
          rw [hlast] at hsx
          have hdl := diffs_len ((works l).take x)
          have hdt := diffs_take (by omega) hcw
          rw [hlast] at hdt
          rw [List.length_take, works_len] at hdl
          obtain ⟨tok, e8, hok⟩ := e8 hsc
          rw [hsc] at e7
          simp (config := {maxSteps := 1000000}) (disch := omega) only [go_sem, e28, e7, e8, hlt', hc, i64_in, dState, hx0]
          refine ⟨by omega, fun k2 => ?_, fun k2 => ⟨fun k3 => ?_, fun k3 => ?_⟩⟩
          · rw [if_pos (.inl k2)] at hsx
            refine ⟨by kernel_rfl, x + 1, ?_, by simp only; omega⟩
            simp only [go_sem, J13]
            refine ⟨by simp, by rw [hsx], fun h => ?_, ⟨_, _, _, _, rfl⟩, by omega⟩
            rw [hsx] at h; cases h
          · rw [if_pos (.inr k3)] at hsx
            refine ⟨by kernel_rfl, x + 1, ?_, by simp only; omega⟩
            simp only [go_sem, J13]
            refine ⟨by simp, by rw [hsx], fun h => ?_, ⟨_, _, _, _, rfl⟩, by omega⟩
            rw [hsx] at h; cases h
          rw [if_neg (by unfold top60; omega)] at hsx
          refine drawn (by kernel_rfl) (by kernel_rfl) ?_
          simp (config := {maxSteps := 1000000}) (disch := omega) only [go_sem, i64_in, hnat, hd, dState, hx0]
          refine ⟨by omega, fun nx3 lv3 _ hlv3 => ⟨fun k4 => ?_, fun k4 => ?_⟩⟩
          · rw [if_pos k4] at hsx
            refine ⟨by kernel_rfl, x + 1, ?_, by simp only; omega⟩
            simp only [go_sem, J13]
            refine ⟨by simp, by rw [hsx], fun h => ?_, ⟨_, _, _, _, rfl⟩, by omega⟩
            rw [hsx] at h; cases h
          rw [if_neg k4] at hsx
          have hd0 := scan_last hsc (Int.le_refl 0)
          rw [hlast] at hd0
          refine drawn2 11 (by kernel_rfl) (by kernel_rfl) (by kernel_rfl) (by decide) ?_
          simp (disch := omega) only [go_sem, i64_in, hnat, hd, dState]
          refine ⟨by omega, ?_⟩
          intro nx4 lv4 _ hlv4
          refine ⟨okT_mono hok fun j hj => hlv4 j (hlv3 j hj), by omega, by kernel_rfl, x + 1, ?_, by simp only; omega⟩
          simp only [go_sem, J13]
          refine ⟨by simp, by rw [hsx], fun _ => ⟨.own nx4, ⟨?_, rfl⟩, Or.inl rfl⟩, ⟨_, _, _, _, rfl⟩, by omega⟩
          rw [hdt]
          simp
        · have hsame := scan_same hsc
          simp (config := {maxSteps := 1000000}) (disch := omega) only [go_sem, e28, e7, hsc, hlt', hc, i64_in, dState, hx0]
          refine ⟨by omega, by kernel_rfl, x + 1, ?_, by simp only; omega⟩
          simp only [go_sem, J13]
          refine ⟨by simp, by rw [hsame], fun h => ?_, ⟨_, _, _, _, rfl⟩, by omega⟩
          rw [hsame] at h; exact absurd h hsc
      · have hlt' : ((x : Int) < (l.length : Int)) = False := by simp; omega
        rw [List.take_of_length_le (by rw [works_len]; omega), ← hpe] at e7 e8
        by_cases hsc : powErr s l = 0
        · obtain ⟨tok, e8, hok⟩ := e8 hsc
          have hpv : powVal s l = diffs (works l) := by simp [powVal, hsc]
          simp (config := {maxSteps := 1000000}) (disch := omega) only [go_sem, e28, e7, e8, hsc, hlt', i64_in]
          have hdl := diffs_len (works l)
          rw [works_len] at hdl
          rw [hpv]
          refine callV (f48 _ _ (by omega)) ?_
          intro nx lv
          simp only [go_sem]
        · have hpv : powVal s l = [] := by simp [powVal, hsc]
          simp (config := {maxSteps := 1000000}) (disch := omega) only [go_sem, e28, e7, hsc, hlt', i64_in, hpv]
  · have hpe : powErr s l = checkS s := by simp [powErr, hc]
    have hpv : powVal s l = [] := by simp [powVal, hpe, hc]
    simp only [go_sem, hc]
    refine LW_start (LW_round ?_)
    by_cases hl0 : l = []
    · subst hl0
      simp only [go_sem]
      simp [hpe, hpv, hc]
    have hpos : 0 < l.length := List.length_pos_iff.2 hl0
    have hlen : ((0 : Int) < (l.length : Int)) = True := by simp; omega
    obtain ⟨x0, h0⟩ : ∃ c, l[0]? = some c := ⟨_, List.getElem?_eq_getElem hpos⟩
    simp (config := {maxSteps := 1000000}) (disch := omega) only [go_sem, i64_in, hlen, h0, dState, hc]
    refine LW_loopS [9, 10, 28, 29, 30, 31, 32, 33, 34, 35, 36, 37, 38, 39, 40, 41, 42, 43, 44, 45, 46, 47, 48, 49, 50, 51, 52, 53, 54, 55, 56, 57, 58, 59, 60, 61, 62, 63, 64, 65, 66, 67, 68, 69, 70, 71, 72, 73, 74] (J13i s l) (fun x => l.length - x) 1 ?_ ?_
    · simp only [go_sem, cellsS, J13i]
      exact ⟨⟨_, _, _, _, rfl⟩, hpos⟩
    rintro x ρ m ⟨e28, ⟨g, cs, nx, lv, rfl⟩, hx1, hx⟩
    by_cases hlt : x < l.length
    · have hlt' : ((x : Int) < (l.length : Int)) = True := by simp; omega
      obtain ⟨c, hd⟩ : ∃ c, l[x]? = some c := ⟨_, List.getElem?_eq_getElem hlt⟩
      simp (config := {maxSteps := 1000000}) (disch := omega) only [go_sem, e28, hc, hlt', hd, i64_in, dState]
      refine ⟨by omega, by kernel_rfl, x + 1, ?_, by simp only; omega⟩
      simp only [go_sem, J13i]
      exact ⟨by simp, ⟨_, _, _, _, rfl⟩, by omega⟩
    · have hlt' : ((x : Int) < (l.length : Int)) = False := by simp; omega
      simp (config := {maxSteps := 1000000}) (disch := omega) only [go_sem, e28, hc, hlt', i64_in, hpv, hpe]

theorem openState {x : DV} (h : ElD Try.prog 27 x) : ∃ a : State, x = dState a := by
  obtain ⟨ns, h1, rfl, _⟩ := h.ints 4 (n := 3) (by kernel_rfl) (by kernel_rfl)
  match ns, h1 with
  | [a, b, c], _ => exact ⟨⟨a, b, c⟩, rfl⟩
theorem openStates {x : DV} (h : ElD Try.prog 25 x) : ∃ l : List State, x = .sl 3 (l.map dState) ∧ l.length * 24 ≤ 140737488351232 := by
  obtain ⟨es, rfl, h1, h2⟩ := h.sl_inv Try.underlying25 (z := 3) (y := 24) (by kernel_rfl) (by kernel_rfl)
  obtain ⟨l, rfl, _⟩ := map_of_each (f := dState) (p := fun _ => True) es (fun y hy => by
    obtain ⟨a, ha⟩ := openState (h2 y hy)
    exact ⟨a, ha, trivial⟩)
  exact ⟨l, rfl, by simpa using h1⟩

theorem law13 (xs : List DV) (h : ElDs Try.prog [40, 25] xs) : PCall Try.prog 13 (xs.map toAV) (RV (.bool true)) := by
  obtain ⟨x, xs, rfl, hx, h⟩ := h.cons_inv
  obtain ⟨y, xs, rfl, hy, h⟩ := h.cons_inv
  cases h.nil_inv
  obtain ⟨s, rfl, hs, _⟩ := openStock hx
  obtain ⟨l, rfl, hl⟩ := openStates hy
  simp only [List.map_cons, List.map_nil, eStock_eq, toAV]
  exact f13 s l hs hl
end Go.Proofs.Ythbdjgjpocfneaa
