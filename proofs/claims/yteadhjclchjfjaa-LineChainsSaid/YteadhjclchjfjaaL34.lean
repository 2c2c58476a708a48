/- Tables: the reference's, comparing rows and tables. -/
import Derived.Test.YteadhjclchjfjaaL33
namespace Go.Proofs.Yteadhjclchjfjaa
set_option linter.unusedSimpArgs false
set_option linter.unusedVariables false
open Go.AB

/-- A row of bounded lists. -/
def RowB (t : TRow) : Prop := t.nd.length ≤ 140737488351232 ∧ t.cl.length ≤ 140737488351232
def sameT (a b : TRow) : Bool := decide (a.nd = b.nd) && decide (a.cl = b.cl)
def eRow (r : TRow) : AV := .agg [.sl 4 (r.nd.map dNd) .no, .sl 1 (dInts r.cl) .no]
theorem sameT_iff {a b : TRow} : sameT a b = true ↔ a = b := by
  obtain ⟨x, y⟩ := a
  obtain ⟨u, v⟩ := b
  simp [sameT]

theorem f48 (a b : TRow) (ha : RowB a) (hb : RowB b) : PCall Try.prog 48 [eRow a, eRow b] (RV (.bool (sameT a b))) := by
  refine PCall.of_body Try.func48 rfl Try.ntmps48 (congrArg Array.toList Try.results48) ?_
  intro E
  simp only [go_sem, eRow]
  refine callV (f44g a.nd b.nd ha.1 hb.1) ?_
  intro nx lv
  cases w : decide (a.nd = b.nd) with
  | false =>
    simp only [go_sem, sameT, w, Bool.false_and]
  | true =>
    simp only [go_sem]
    refine callV (f69g a.cl b.cl ha.2 hb.2) ?_
    intro nx2 lv2
    simp only [go_sem, sameT, w, Bool.true_and]

set_option maxHeartbeats 4000000 in
set_option maxRecDepth 20000 in
theorem f49 (p : List TRow) (hl : p.length ≤ 1000) (hp : ∀ t ∈ p, RowB t) : PCall Try.prog 49 [.sl 2 (p.map dRow) .no, .sl 2 (p.map dRow) .no] (RV (.bool true)) := by
  refine PCall.of_body Try.func49 rfl Try.ntmps49 (congrArg Array.toList Try.results49) ?_
  intro E
  simp only [go_sem]
  refine AW_loopH [4, 5, 13, 14, 15, 16, 17, 18, 19, 20, 21, 22, 23, 24, 25, 26]
    (fun (i : Nat) ρ m => ρ 13 = .int .i64 (i : Int) ∧ i ≤ p.length ∧ ∃ h nx lv, m = ⟨h, [], nx, lv⟩) (fun i => p.length - i) 0 ?_ ?_
  · simp only [go_sem]
    exact ⟨Nat.zero_le _, _, _, _, rfl⟩
  rintro i ρ m ⟨e13, g1, h, nx, lv, rfl⟩ Q hN hR hX
  by_cases hlt : i < p.length
  · obtain ⟨x, hx⟩ : ∃ x, p[i]? = some x := ⟨_, List.getElem?_eq_getElem hlt⟩
    have hxp : (p.map dRow)[i]? = some (dRow x) := by rw [List.getElem?_map, hx]; rfl
    have hlt' : ((i : Int) < (p.length : Int)) = True := by simp; omega
    have h0 : ((0 : Int) ≤ (i : Int)) = True := by simp
    have ew : IntKind.i64.wrap ((i : Int) + 1) = (i : Int) + 1 := i64_in (by omega) (by omega)
    have hs : sameT x x = true := sameT_iff.2 rfl
    have h48 := f48 x x (hp x (List.mem_of_getElem? hx)) (hp x (List.mem_of_getElem? hx))
    rw [hs] at h48
    unfold eRow at h48
    simp only [go_sem, e13, hlt', h0, hxp, hx, Option.map_some, dRow]
    refine drawn (by kernel_rfl) (by kernel_rfl) ?_
    simp only [go_sem, e13, hlt', h0, hxp, hx, Option.map_some, dRow, kDraw_eq]
    refine quietD h48 (fun _ => rfl) ?_
    simp only [go_sem, kDraw_eq]
    intro nx2 lv2 _ _
    simp only [hN, ew]
    refine ⟨by kernel_rfl, i + 1, ?_, by simp only; omega⟩
    simp only [go_sem]
    exact ⟨by simp, by omega, _, _, _, rfl⟩
  · have hlt' : ((i : Int) < (p.length : Int)) = False := by simp; omega
    simp only [go_sem, e13, hlt', hX]

def dNds (l : List Nd) : DV := .sl 4 (l.map dNd)

set_option maxHeartbeats 4000000 in
set_option maxRecDepth 20000 in
theorem f47 (n : Net) (hb : NetB n) (he : netE n = 0) (L : List Rt) (hL : L.length ≤ 1000) (hok : ∀ r ∈ L, RtOk n r) : PCall Try.prog 47 [eNet n, .sl 3 (L.map dRt) .no] (RV (.sl 2 ((tableN (L.map (needsR n))).map dRow) .no)) := by
  refine PCall.of_bodyE Try.func47 rfl Try.ntmps47 (congrArg Array.toList Try.results47) ?_
  intro E
  have hNl : (L.map (needsR n)).length = L.length := List.length_map ..
  have hNb : ∀ j, ((L.map (needsR n)).getD j []).length ≤ 10000 := fun j => by
    rw [List.getD_eq_getElem?_getD, List.getElem?_map]
    cases hj : L[j]? with
    | none => simp
    | some r => simpa using needsR_len n r (hok r (List.mem_of_getElem? hj)).l1
  have hNi : ∀ j r, L[j]? = some r → (L.map (needsR n))[j]? = some (needsR n r) := fun j r hj => by
    rw [List.getElem?_map, hj]; rfl
  have hNg : ∀ j, j < L.length → ((L.map (needsR n)).map dNds)[j]? = some (dNds ((L.map (needsR n)).getD j [])) := fun j hj => by
    rw [List.getElem?_map, List.getD_eq_getElem?_getD, List.getElem?_map, List.getElem?_eq_getElem hj]; rfl
  generalize hN : L.map (needsR n) = N at *
  simp only [go_sem, eNet, nCells]
  refine AW_loopH [5, 7, 14, 15, 16, 17, 18, 19, 20, 21, 22, 23, 24]
    (fun (i : Nat) ρ m => ρ 14 = .int .i64 (i : Int) ∧ i ≤ L.length ∧ ∃ h nx lv tok, ρ 5 = .sl 1 ((N.take i).map dNds) tok ∧ m = ⟨h, [], nx, lv⟩ ∧ AB.hget h 2 = some (0, [.sl 1 (n.names.map DV.str) .no, .sl 7 (n.sects.map dSect) .no, .sl 4 (n.links.map dLnk) .no, .sl 2 (n.sigs.map dPair) .no, .sl 2 (n.gates.map dPair) .no]) ∧ okT m tok) (fun i => L.length - i) 0 ?_ ?_
  · simp only [go_sem]
    exact ⟨Nat.zero_le _, _, _, _, rfl, by simp [go_sem]⟩
  rintro i ρ m ⟨e14, g1, h, nx, lv, tok, e5, rfl, b2, hokt⟩ Q hN' hR hX
  by_cases hlt : i < L.length
  · obtain ⟨x, hx⟩ : ∃ x, L[i]? = some x := ⟨_, List.getElem?_eq_getElem hlt⟩
    have hxp : (L.map dRt)[i]? = some (dRt x) := by rw [List.getElem?_map, hx]; rfl
    have hlt' : ((i : Int) < (L.length : Int)) = True := by simp; omega
    have h0 : ((0 : Int) ≤ (i : Int)) = True := by simp
    have ew : IntKind.i64.wrap ((i : Int) + 1) = (i : Int) + 1 := i64_in (by omega) (by omega)
    have h39 := f39 n hb he x (hok x (List.mem_of_getElem? hx))
    unfold eRt0 at h39
    have htk : N.take (i + 1) = N.take i ++ [needsR n x] := by rw [List.take_add_one, hNi i x hx]; rfl
    have hlen : (N.take i).length = i := by simp; omega
    obtain ⟨g7, hg7⟩ : ∃ g7, genO (AB.hget h 7) = g7 := ⟨_, rfl⟩
    simp only [go_sem, e14, hlt', h0, hx, hxp, Option.map_some, dRt, hg7, b2, e5]
    refine callVt h39 ?_
    intro nx2 lv2 hn2 hl2
    simp only [go_sem]
    have hnw : (N.take i).map dNds ++ [DV.sl 4 ((needsR n x).map dNd)] = (N.take (i + 1)).map dNds := by rw [htk]; simp [dNds]
    rw [hnw, hN']
    refine ⟨okT_mono hokt fun j z => .inr (hl2 j z), by omega, ?_⟩
    simp only [go_sem, ew]
    refine ⟨by kernel_rfl, i + 1, ?_, by simp only; omega⟩
    simp only [go_sem]
    exact ⟨by simp, by omega, _, _, _, rfl, by simp [go_sem, b2], .inl trivial⟩
  have hlt' : ((i : Int) < (L.length : Int)) = False := by simp; omega
  rw [List.take_of_length_le (by omega)] at e5
  simp only [go_sem, e14, hlt', hX, e5]
  refine AW_loopH [8, 9, 10, 11, 27, 28, 29, 30, 31, 32, 33, 34, 35, 36, 37, 38, 39, 40, 41, 42, 43, 44, 45, 46, 47, 48, 49, 50, 51, 52, 53, 54, 55, 56, 57, 58, 59, 60, 61, 62, 63, 64, 65]
    (fun (i : Nat) ρ m => ρ 27 = .int .i64 (i : Int) ∧ i ≤ L.length ∧ ∃ h nx lv tok, ρ 8 = .sl 2 (((tableN N).take i).map dRow) tok ∧ m = ⟨h, [], nx, lv⟩ ∧ okN nx lv tok) (fun i => L.length - i) 0 ?_ ?_
  · simp only [go_sem]
    first | exact ⟨Nat.zero_le _, _, _, _, rfl, trivial⟩ | exact ⟨Nat.zero_le _, _, _, _, .nil, ⟨rfl, rfl⟩, rfl, trivial⟩ | exact ⟨Nat.zero_le _, _, _, _, .nil, rfl, rfl, trivial⟩
  clear b2 hokt hlt hlt' e14 g1 h nx lv
  rintro i ρ2 m ⟨e27, g1, h, nx, lv, tok8, e8, rfl, hok8⟩ Q2 hN2 hR2 hX2
  by_cases hlt : i < L.length
  · have hlt' : ((i : Int) < (L.length : Int)) = True := by simp; omega
    have hlt2 : ((i : Int) < (N.length : Int)) = True := by simp; omega
    have h0 : ((0 : Int) ≤ (i : Int)) = True := by simp
    have ew : IntKind.i64.wrap ((i : Int) + 1) = (i : Int) + 1 := i64_in (by omega) (by omega)
    have hti : (tableN N)[i]? = some ⟨N.getD i [], clK N i N.length⟩ := by
      unfold tableN
      rw [List.getElem?_map, List.getElem?_range (by omega)]
      rfl
    have htk : (tableN N).take (i + 1) = (tableN N).take i ++ [⟨N.getD i [], clK N i N.length⟩] := by rw [List.take_add_one, hti]; rfl
    have hlen : ((tableN N).take i).length = i := by rw [List.length_take, tableN_len]; omega
    have hNi2 := hNg i hlt
    obtain ⟨g7, hg7⟩ : ∃ g7, genO (AB.hget h 10) = g7 := ⟨_, rfl⟩
    simp only [go_sem, e27, hlt', hlt2, h0, hNi2, dNds, hg7]
    refine AW_loopH [11, 37, 38, 39, 40, 41, 42, 43, 44, 45, 46, 47, 48, 49, 50, 51, 52, 53, 54, 55, 56, 57, 58, 59, 60]
      (fun (k : Nat) ρ m => ρ 37 = .int .i64 (k : Int) ∧ k ≤ L.length ∧ ∃ h nx' lv' tok, m = ⟨h, [], nx', lv'⟩ ∧ nx ≤ nx' ∧ AB.hget h 10 = some (g7, [.sl 4 ((N.getD i []).map dNd) .no, .sl 1 (dInts (clK N i k)) tok]) ∧ okN nx lv' tok8 ∧ okT m tok ∧ (tok = .nil ∨ ∃ j, tok = .own j ∧ nx ≤ j)) (fun k => L.length - k) 0 ?_ ?_
    · simp only [go_sem]
      exact ⟨Nat.zero_le _, _, _, _, .nil, rfl, Nat.le_refl _, by simp [go_sem, clK_zero, dInts], hok8, trivial, .inl rfl⟩
    clear hg7 h
    rintro k ρ3 m ⟨e37, k1, h, nx', lv', tok, rfl, hnn, b10, hok8', hokt, hfr⟩ Q3 hN3 hR3 hX3
    by_cases hltk : k < L.length
    · have hlt3 : ((k : Int) < (L.length : Int)) = True := by simp; omega
      have hlt4 : ((k : Int) < (N.length : Int)) = True := by simp; omega
      have ew2 : IntKind.i64.wrap ((k : Int) + 1) = (k : Int) + 1 := i64_in (by omega) (by omega)
      have h02 : ((0 : Int) ≤ (k : Int)) = True := by simp
      have hNk := hNg k hltk
      have hcl := clK_succ N i k
      simp only [go_sem, e37, hlt3]
      by_cases hik : i = k
      · have hik' : ((k : Int) = (i : Int)) = True := eq_true (by rw [hik])
        have hq : qK N i k = false := by simp [qK, hik]
        refine drawn (by kernel_rfl) (by kernel_rfl) ?_
        simp only [go_sem, hik', kDraw_eq]
        intro nx2 lv2 hn2 hl2
        simp only [hN3, ew2]
        refine ⟨by kernel_rfl, k + 1, ?_, by simp only; omega⟩
        simp only [go_sem]
        exact ⟨by simp, by omega, _, _, _, tok, rfl, by omega, by rw [hcl, hq]; exact b10, hok8'.mono (Nat.le_refl _) hl2, okT_mono hokt hl2, hfr⟩
      · have hik' : ((k : Int) = (i : Int)) = False := eq_false (by omega)
        refine drawn (by kernel_rfl) (by kernel_rfl) ?_
        simp only [go_sem, hik', hlt', hlt2, h0, hlt4, h02, hNi2, hNk, dNds]
        refine quietD (f38 _ _ (Nat.le_trans (hNb i) (by omega)) (Nat.le_trans (hNb k) (by omega))) (fun _ => rfl) ?_
        cases w : anyM (N.getD i []) (N.getD k []) with
        | false =>
          have hq : qK N i k = false := by unfold qK; rw [w, Bool.and_false]
          simp only [go_sem, kDraw_eq]
          intro nx2 lv2 hn2 hl2
          simp only [hN3, ew2]
          refine ⟨by kernel_rfl, k + 1, ?_, by simp only; omega⟩
          simp only [go_sem]
          exact ⟨by simp, by omega, _, _, _, tok, rfl, by omega, by rw [hcl, hq]; exact b10, hok8'.mono (Nat.le_refl _) hl2, okT_mono hokt hl2, hfr⟩
        | true =>
          have hq : qK N i k = true := by unfold qK; rw [w]; simp [hik]
          rw [if_pos hq] at hcl
          simp only [go_sem, kDraw_eq]
          intro nx2 lv2 hn2 hl2
          simp only [go_sem, b10]
          have hck : dInts (clK N i k) ++ [DV.int .i64 k] = dInts (clK N i (k + 1)) := by rw [hcl]; simp [dInts]
          have hlen2 := clK_len N i k
          rw [hck, hN3]
          refine ⟨okT_mono hokt fun j z => .inr (hl2 j z), by simp only [dInts, List.length_map]; omega, ?_⟩
          simp only [go_sem, ew2]
          refine ⟨by kernel_rfl, k + 1, ?_, by simp only; omega⟩
          simp only [go_sem]
          refine ⟨by simp, by omega, _, _, _, .own (nx2 + 1), rfl, by omega, by simp [go_sem], ?_, .inl rfl, .inr ⟨_, rfl, by omega⟩⟩
          refine hok8'.new (Nat.le_refl _) fun j hj z => .inr ⟨.inr (hl2 j z), fun e => ?_⟩
          rcases hfr with rfl | ⟨j2, rfl, hj2⟩
          · cases e
          · cases e; omega
    · have hlt3 : ((k : Int) < (L.length : Int)) = False := by simp; omega
      have hkl : k = L.length := by omega
      subst hkl
      simp only [go_sem, e37, hlt3, hX3, hN2, ew, b10, e8]
      refine ⟨okT_mono (hok8'.t (h := []) (o := []) (nx' := nx')) fun j z => .inr z, by omega, ?_⟩
      refine ⟨by kernel_rfl, i + 1, ?_, by simp only; omega⟩
      have hnw : ((tableN N).take i).map dRow ++ [DV.agg [.sl 4 ((N.getD i []).map dNd), .sl 1 (dInts (clK N i L.length))]] = ((tableN N).take (i + 1)).map dRow := by rw [htk, hNl]; simp [dRow]
      rw [hnw]
      simp only [go_sem]
      exact ⟨by simp, by omega, _, _, _, rfl, .inl rfl, Nat.lt_succ_self _⟩
  · have hlt' : ((i : Int) < (L.length : Int)) = False := by simp; omega
    rw [List.take_of_length_le (by rw [tableN_len]; omega)] at e8
    simp only [go_sem, e27, e8, hlt', hX2]
end Go.Proofs.Yteadhjclchjfjaa
