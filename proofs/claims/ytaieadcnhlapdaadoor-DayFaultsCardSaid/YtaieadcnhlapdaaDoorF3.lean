/- CheckFaults, for all nets, numbers and faults. -/
import Derived.Test.YtaieadcnhlapdaaDoorF2
import Derived.Test.YtaieadcnhlapdaaDoorL200
namespace Go.Proofs.YtaieadcnhlapdaaDoor
set_option linter.unusedSimpArgs false
set_option linter.unusedVariables false
open Go.AB

def atF (n : Net) (sets : Int) (l : List Flt) (i : Nat) : Int := match l[i]? with
  | some f => fltE n sets (l.take i) f
  | none => 0
def errG (n : Net) (sets : Int) (l : List Flt) : Int := if within sets 0 8 = true then (if l.length ≤ 20 then firstE (atF n sets l) l.length 0 else 4) else 2
def errF (n : Net) (sets : Int) (l : List Flt) : Int := if netE n = 0 then errG n sets l else netE n

set_option maxRecDepth 20000 in
set_option maxHeartbeats 4000000 in
theorem f4 (n : Net) (hb : NetB n) (sets : Int) (l : List Flt) (hl : l.length ≤ 140737488351232) : PCall Tryd.prog 4 [eNet n, .int .i64 sets, .sl 5 (l.map dFlt) .no] (RV (.int .i64 (errF n sets l))) := by
  refine PCall.of_body Tryd.func4 rfl Tryd.ntmps4 (congrArg Array.toList Tryd.results4) ?_
  intro E
  simp only [go_sem, eNet, nCells]
  refine callV (f9 n hb) ?_
  intro nx lv
  by_cases h0 : netE n = 0
  rotate_left
  · have h0' : (netE n = 0) = False := by simp [h0]
    simp only [go_sem, h0']
    simp [errF, h0]
  simp only [go_sem, h0]
  refine callV (f10 _ _ _) ?_
  intro nx lv
  by_cases hs : within sets 0 8 = true
  rotate_left
  · have hs' : within sets 0 8 = false := by simpa using hs
    simp only [go_sem, hs']
    simp [errF, errG, h0, hs]
  have hsw := within_iff.1 hs
  simp only [go_sem, hs]
  by_cases h8 : l.length ≤ 20
  rotate_left
  · have h8' : ((20 : Int) < (l.length : Int)) = True := by simp; omega
    simp only [go_sem, h8']
    simp [errF, errG, h0, hs, h8]
  have h8' : ((20 : Int) < (l.length : Int)) = False := by simp; omega
  have hE : errF n sets l = firstE (atF n sets l) l.length 0 := by simp [errF, errG, h0, hs, h8]
  simp only [go_sem, h8']
  refine AW_loopH [6, 8, 9, 10, 26, 27, 28, 29, 30, 31, 32, 33, 34, 35, 36, 37, 38, 39, 40, 41]
    (fun (i : Nat) ρ m => ρ 26 = .int .i64 (i : Int) ∧ i ≤ l.length ∧ firstE (atF n sets l) (l.length - i) i = errF n sets l ∧ ∃ h nx lv, m = ⟨h, [], nx, lv⟩ ∧ AB.hget h 3 = some (0, nCells n)) (fun i => l.length - i) 0 ?_ ?_
  · simp [go_sem, hE, nCells]
  · rintro i ρ m ⟨e26, g1, gE, h, nx, lv, rfl, hb3⟩ Q hN hR hX
    by_cases hlt : i < l.length
    · obtain ⟨f, hf⟩ : ∃ f, l[i]? = some f := ⟨_, List.getElem?_eq_getElem hlt⟩
      have hp : (l.map dFlt)[i]? = some (dFlt f) := by rw [List.getElem?_map, hf]; rfl
      have hlt' : ((i : Int) < (l.length : Int)) = True := by simp; omega
      have hi0 : ((0 : Int) ≤ (i : Int)) = True := by simp
      have hle : ((i : Int) ≤ (l.length : Int)) = True := by simp; omega
      have ew : IntKind.i64.wrap ((i : Int) + 1) = (i : Int) + 1 := i64_in (by omega) (by omega)
      have hat : atF n sets l i = fltE n sets (l.take i) f := by simp [atF, hf]
      simp only [go_sem, e26, hlt', hi0, hp, dFlt]
      generalize genO (AB.hget h 9) = G
      refine drawn (by kernel_rfl) (by kernel_rfl) ?_
      simp only [go_sem, hb3, nCells, hi0, hle]
      refine ⟨Nat.zero_le _, g1, quietD (f11 n hb sets (l.take i) f (by omega) (by rw [List.length_take]; omega) _ (by simp [List.map_take])) (fun _ => rfl) ?_⟩
      by_cases q : fltE n sets (l.take i) f = 0
      · simp only [go_sem, q, hN, ew]
        refine fun nx2 lv2 _ _ => ⟨by kernel_rfl, i + 1, ?_, by simp only; omega⟩
        simp only [go_sem]
        refine ⟨by simp, by omega, firstE_go hlt (by rw [hat, q]) gE, _, _, _, rfl, ?_⟩
        simp [go_sem, hb3, nCells]
      · have q' : (fltE n sets (l.take i) f = 0) = False := by simp [q]
        simp only [go_sem, q', hR]
        intro _ _ _ _
        exact (firstE_hit hlt hat q gE).symm
    · have hlt' : ((i : Int) < (l.length : Int)) = False := by simp; omega
      rw [firstE_end hlt] at gE
      simp only [go_sem, e26, hlt', hX]
      exact gE
end Go.Proofs.YtaieadcnhlapdaaDoor
