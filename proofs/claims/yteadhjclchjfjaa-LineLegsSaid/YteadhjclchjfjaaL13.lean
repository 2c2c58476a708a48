/- Routes: the program's. -/
import Derived.Test.YteadhjclchjfjaaL12
namespace Go.Proofs.Yteadhjclchjfjaa
set_option linter.unusedSimpArgs false
set_option linter.unusedVariables false
open Go.AB

/-- Both searches, over the signals. -/
def growAll (n : Net) : List Pair → Int → Fd → Fd
  | [], _, f => f
  | x :: l, i, f => growAll n l (i + 1) (growF n i x.s 17 [] x.s x.e f)
def routesF (n : Net) : Fd := growAll n n.sigs 0 ⟨[], 0, false⟩
def routesV (f : Fd) : AV := if f.lg = true then .tup [.sl 3 [] .no, .int .i64 4] else .tup [.sl 3 (f.rs.map dRt) .no, .int .i64 0]

set_option maxHeartbeats 4000000 in
set_option maxRecDepth 20000 in
theorem f79 (n : Net) (hb : NetB n) (he : netE n = 0) : PCall Try.prog 79 [eNet n] (RV (routesV (routesF n))) := by
  have hsg := hb.sg
  refine PCall.of_bodyE Try.func79 rfl Try.ntmps79 (congrArg Array.toList Try.results79) ?_
  intro E
  simp only [go_sem, eNet, nCells]
  refine AW_loopH [5, 6, 13, 14, 15, 16, 17, 18, 19, 20, 21, 22, 23, 24, 25, 26]
    (fun (i : Nat) ρ m => ρ 13 = .int .i64 (i : Int) ∧ i ≤ n.sigs.length ∧ ∃ h nx lv tok f, m = ⟨h, [], nx, lv⟩ ∧ AB.hget h 1 = some (0, nCells n) ∧ AB.hget h 9 = some (0, fCells n f tok) ∧ okT m tok ∧ FOk f ∧ growAll n (n.sigs.drop i) i f = routesF n) (fun i => n.sigs.length - i) 0 ?_ ?_
  · simp only [go_sem]
    refine ⟨Nat.zero_le _, _, _, _, .nil, ⟨[], 0, false⟩, rfl, ?_, ?_, trivial, ⟨by simp, by simp, by simp, by simp⟩, rfl⟩
    · simp [go_sem, nCells]
    · simp [go_sem, fCells, nCells]
  rintro i ρ m ⟨e13, g1, h, nx, lv, tok, f, rfl, b1, b9, hok, hf, g2⟩ Q hN hR hX
  by_cases hlt : i < n.sigs.length
  · obtain ⟨x, hx⟩ : ∃ x, n.sigs[i]? = some x := ⟨_, List.getElem?_eq_getElem hlt⟩
    have hxp : (n.sigs.map dPair)[i]? = some (dPair x) := by rw [List.getElem?_map, hx]; rfl
    have hlt' : ((i : Int) < (n.sigs.length : Int)) = True := by simp; omega
    have h0 : ((0 : Int) ≤ (i : Int)) = True := by simp
    have ew : IntKind.i64.wrap ((i : Int) + 1) = (i : Int) + 1 := i64_in (by omega) (by omega)
    have hd : n.sigs.drop i = x :: n.sigs.drop (i + 1) := by
      rw [List.drop_eq_getElem_cons hlt]
      rw [List.getElem?_eq_getElem hlt] at hx
      cases hx; rfl
    rw [hd] at g2
    simp only [growAll] at g2
    simp only [go_sem, e13, hlt', h0, hxp, dPair]
    refine .inr (callF (l := .own 9 0) (f109 n hb he i x hx 17 [] .nil x.s x.e f tok nx lv (by simp) (by simp) hf (okT_mono hok fun _ x => x)) (fun _ => rfl) (by simp [go_sem, AH.cells, b9]) ?_)
    intro tok2 nx2 lv2 hok2
    simp only [go_sem, hN, ew]
    refine ⟨by kernel_rfl, i + 1, ?_, by simp only; omega⟩
    simp only [go_sem]
    refine ⟨by simp, by omega, _, _, _, tok2, growF n i x.s 17 [] x.s x.e f, rfl, ?_, ?_, okT_mono hok2 fun _ x => x, growF_ok _ _ _ _ _ hf, ?_⟩
    · simp [go_sem, b1]
    · simp [go_sem, b9]
    · rw [← g2]; simp
  · have hlt' : ((i : Int) < (n.sigs.length : Int)) = False := by simp; omega
    rw [List.drop_eq_nil_of_le (by omega)] at g2
    simp only [growAll] at g2
    subst g2
    simp only [go_sem, e13, hlt', hX, b9, fCells, nCells, List.cons_append, List.nil_append]
    exact ⟨fun h => by simp [routesV, h], fun h => by simp [routesV, h]⟩

/-- The list and the error of what has been found. -/
def outL (f : Fd) : List Rt := if f.lg = true then [] else f.rs
def outE (f : Fd) : Int := if f.lg = true then 4 else 0
def rtV (l : List Rt) (e : Int) : AV := .tup [.sl 3 (l.map dRt) .no, .int .i64 e]
theorem routesV_eq (f : Fd) : routesV f = rtV (outL f) (outE f) := by
  unfold routesV rtV outL outE
  cases f.lg <;> simp

def netL (n : Net) (l : List Rt) : List Rt := if netE n = 0 then l else []
def netR (n : Net) (e : Int) : Int := if netE n = 0 then e else netE n

set_option maxHeartbeats 4000000 in
set_option maxRecDepth 20000 in
theorem f31 (n : Net) (hb : NetB n) : PCall Try.prog 31 [eNet n] (RV (rtV (netL n (outL (routesF n))) (netR n (outE (routesF n))))) := by
  refine PCall.of_bodyE Try.func31 rfl Try.ntmps31 (congrArg Array.toList Try.results31) ?_
  intro E
  simp only [go_sem, eNet, nCells]
  refine callV (f55 n hb) ?_
  intro nx lv
  simp only [go_sem]
  refine ⟨fun h => ?_, fun h => ?_⟩
  · simp [rtV, netL, netR, h]
  · have h79 := f79 n hb h
    rw [routesV_eq] at h79
    refine callV h79 ?_
    intro nx2 lv2
    simp only [go_sem, rtV]
    simp [netL, netR, h]
end Go.Proofs.Yteadhjclchjfjaa
