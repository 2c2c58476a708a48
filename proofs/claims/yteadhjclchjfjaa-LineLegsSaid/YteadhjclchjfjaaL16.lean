/- Routes: the reference's, over the signals; comparing lists. -/
import Derived.Test.YteadhjclchjfjaaL15
namespace Go.Proofs.Yteadhjclchjfjaa
set_option linter.unusedSimpArgs false
set_option linter.unusedVariables false
open Go.AB

def followAll (n : Net) : List Pair → Int → Fd → Fd
  | [], _, f => f
  | x :: l, i, f => followAll n l (i + 1) (followF n x.s 18 ⟨i, 0, []⟩ x.s x.e f)
def routesG (n : Net) : Fd := followAll n n.sigs 0 ⟨[], 0, false⟩

set_option maxHeartbeats 4000000 in
set_option maxRecDepth 20000 in
theorem f80 (n : Net) (hb : NetB n) (he : netE n = 0) : PCall Try.prog 80 [eNet n] (RV (rtV (outL (routesG n)) (outE (routesG n)))) := by
  have hsg := hb.sg
  refine PCall.of_bodyE Try.func80 rfl Try.ntmps80 (congrArg Array.toList Try.results80) ?_
  intro E
  simp only [go_sem, eNet, nCells]
  refine AW_loopH [5, 6, 11, 12, 13, 14, 15, 16, 17, 18, 19, 20, 21, 22, 23, 24, 25]
    (fun (i : Nat) ρ m => ρ 11 = .int .i64 (i : Int) ∧ i ≤ n.sigs.length ∧ ∃ h nx lv tok f, m = ⟨h, [], nx, lv⟩ ∧ AB.hget h 1 = some (0, [.sl 1 (n.names.map DV.str) .no, .sl 7 (n.sects.map dSect) .no, .sl 4 (n.links.map dLnk) .no, .sl 2 (n.sigs.map dPair) .no, .sl 2 (n.gates.map dPair) .no]) ∧
      AB.hget h 4 = some (0, [.sl 3 (f.rs.map dRt) tok, .int .i64 f.ps, .bool f.lg]) ∧ okN nx lv tok ∧ FG f 200 ∧ followAll n (n.sigs.drop i) i f = routesG n) (fun i => n.sigs.length - i) 0 ?_ ?_
  · simp only [go_sem]
    refine ⟨Nat.zero_le _, _, _, _, .nil, ⟨[], 0, false⟩, rfl, ?_, ?_, trivial, ⟨by simp, by simp, by simp, by simp⟩, rfl⟩
    · simp [go_sem]
    · simp [go_sem]
  rintro i ρ m ⟨e11, g1, h, nx, lv, tok, f, rfl, b1, b4, hok, hf, g2⟩ Q hN hR hX
  by_cases hlt : i < n.sigs.length
  · obtain ⟨x, hx⟩ : ∃ x, n.sigs[i]? = some x := ⟨_, List.getElem?_eq_getElem hlt⟩
    have hxp : (n.sigs.map dPair)[i]? = some (dPair x) := by rw [List.getElem?_map, hx]; rfl
    have hlt' : ((i : Int) < (n.sigs.length : Int)) = True := by simp; omega
    have h0 : ((0 : Int) ≤ (i : Int)) = True := by simp
    have ew : IntKind.i64.wrap ((i : Int) + 1) = (i : Int) + 1 := i64_in (by omega) (by omega)
    have hd : n.sigs.drop i = x :: n.sigs.drop (i + 1) := by
      rw [List.drop_eq_getElem_cons hlt]
      rw [List.getElem?_eq_getElem hlt] at hx
      cases hx; rfl
    rw [hd] at g2
    simp only [followAll] at g2
    simp only [go_sem, e11, hlt', h0, hxp, hx, Option.map_some, dPair, b4, b1]
    refine callFd (f110 n hb he i x hx 18 f ⟨i, 0, []⟩ tok .nil x.s x.e nx lv (by omega) rfl (by simp) (by simp) (hf.mono (by omega)) hok.t) rfl ?_
    intro tok2 nx2 lv2 hok2
    simp only [go_sem, hN, ew, b4, b1, eFd]
    refine ⟨by kernel_rfl, i + 1, ?_, by simp only; omega⟩
    simp only [go_sem]
    refine ⟨by simp, by omega, _, _, _, tok2, followF n x.s 18 ⟨i, 0, []⟩ x.s x.e f, rfl, ?_, ?_, hok2, followF_FG 18 _ _ _ _ _ (by omega) hf, ?_⟩
    · simp [go_sem, b1]
    · simp [go_sem, b4]
    · rw [← g2]; simp
  · have hlt' : ((i : Int) < (n.sigs.length : Int)) = False := by simp; omega
    rw [List.drop_eq_nil_of_le (by omega)] at g2
    simp only [followAll] at g2
    subst g2
    simp only [go_sem, e11, hlt', hX, b4]
    exact ⟨fun h => by simp [rtV, outL, outE, h], fun h => by simp [rtV, outL, outE, h]⟩

set_option maxHeartbeats 4000000 in
set_option maxRecDepth 20000 in
theorem f32 (n : Net) (hb : NetB n) : PCall Try.prog 32 [eNet n] (RV (rtV (netL n (outL (routesG n))) (netR n (outE (routesG n))))) := by
  refine PCall.of_bodyE Try.func32 rfl Try.ntmps32 (congrArg Array.toList Try.results32) ?_
  intro E
  simp only [go_sem, eNet, nCells]
  refine callV (f17 n hb) ?_
  intro nx lv
  simp only [go_sem]
  refine ⟨fun h => ?_, fun h => ?_⟩
  · simp [rtV, netL, netR, h]
  · refine callV (f80 n hb h) ?_
    intro nx2 lv2
    simp only [go_sem, rtV]
    simp [netL, netR, h]

/-- What both find is one thing. -/
theorem eqv_all (n : Net) : ∀ (l : List Pair) (i : Int) (f g : Fd), (∀ x ∈ l, (joinL n.links x.s x.e).isSome = true) → Eqv f g → Eqv (growAll n l i f) (followAll n l i g)
  | [], _, _, _, _, h => h
  | x :: l, i, f, g, hl, h => eqv_all n l (i + 1) _ _ (fun y hy => hl y (List.mem_cons_of_mem _ hy)) (eqv_grow n i x.s 17 [] x.s x.e 0 f g (by simp) (by simp) (hl x (List.mem_cons_self ..)) h)
theorem eqv_out {f g : Fd} (h : Eqv f g) : outL f = outL g ∧ outE f = outE g := by
  obtain ⟨h1, h2⟩ := h
  unfold outL outE
  cases hf : f.lg with
  | true => rw [← h1, hf]; simp
  | false =>
    rw [← h1, hf]
    simp [(h2 hf).1]
end Go.Proofs.Yteadhjclchjfjaa
