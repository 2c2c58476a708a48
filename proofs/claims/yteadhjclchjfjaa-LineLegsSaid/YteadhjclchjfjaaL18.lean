/- Overlaps. -/
import Derived.Test.YteadhjclchjfjaaL17
namespace Go.Proofs.Yteadhjclchjfjaa
set_option linter.unusedSimpArgs false
set_option linter.unusedVariables false
open Go.AB

def out0 (n : Net) (t i : Int) : Int := (outsF (kindAt n t) i).headD 0
def slen (n : Net) (t : Int) : Int := ((n.sects[t.toNat]?).map Sect.len).getD 0
/-- An overlap, of k more steps at most. -/
def overG (n : Net) (st : List Stp) (home : Int) : Nat → List Stp → Int → Int → Int → List Stp
  | 0, l, _, _, _ => l
  | k + 1, l, d, s, e => if d < 50 then match joinL n.links s e with
    | none => l
    | some (t, i) => if psec st t = true ∨ psec l t = true ∨ t = home then l else overG n st home k (l ++ [⟨t, i, out0 n t i⟩]) (d + slen n t) t (out0 n t i)
    else l

theorem out0_at (k e : Int) : (outsF k e)[0]? = some ((outsF k e).headD 0) := by
  cases h : outsF k e with
  | nil => exact absurd h (outsF_ne k e)
  | cons a l => rfl

set_option maxHeartbeats 4000000 in
set_option maxRecDepth 20000 in
theorem f43 (n : Net) (hb : NetB n) (he : netE n = 0) (fr : Nat) (sg : Pair) (hsg : n.sigs[fr]? = some sg) (to : Nat) (st : Pair) (hst : n.sigs[to]? = some st) (p : List Stp) (hp : p.length ≤ 1000) :
    PCall Try.prog 43 [eNet n, .agg [.int .i64 fr, .int .i64 to, .sl 3 (p.map dStp) .no]] (RV (.sl 3 ((overG n p sg.s 5 [] 0 st.s st.e).map dStp) .no)) := by
  refine PCall.of_bodyE Try.func43 rfl Try.ntmps43 (congrArg Array.toList Try.results43) ?_
  intro E
  have hflt : fr < n.sigs.length := (List.getElem?_eq_some_iff.1 hsg).1
  have htlt : to < n.sigs.length := (List.getElem?_eq_some_iff.1 hst).1
  have j0 : ((0 : Int) ≤ (fr : Int)) = True := by simp
  have j1 : ((fr : Int) < (n.sigs.length : Int)) = True := by simp; omega
  have k0 : ((0 : Int) ≤ (to : Int)) = True := by simp
  have k1 : ((to : Int) < (n.sigs.length : Int)) = True := by simp; omega
  have k2 : ((to : Int) < 0) = False := by simp
  have hs2 : (n.sigs.map dPair)[fr]? = some (dPair sg) := by rw [List.getElem?_map, hsg]; rfl
  have ht2 : (n.sigs.map dPair)[to]? = some (dPair st) := by rw [List.getElem?_map, hst]; rfl
  simp only [go_sem, eNet, nCells, k0, k1, k2, ht2, hst, Option.map_some, dPair]
  generalize hF : overG n p sg.s 5 [] 0 st.s st.e = F
  refine AW_loopH [5, 7, 8, 9, 10, 11, 21, 22, 23, 24, 25, 26, 27, 28, 29, 30, 31, 32, 33, 34, 35, 36, 37, 38, 39, 40, 41, 42, 43, 44, 45, 46, 47, 48, 49, 50, 51, 52, 53, 54, 55, 56, 57, 58, 59, 60, 61, 62, 63, 64, 65, 66, 67, 68, 69, 70, 71, 72, 73, 74, 75, 76, 77, 78, 79, 80, 81, 82, 83, 84, 85]
    (fun (k : Nat) ρ m => ∃ l tok d s e h nx lv, ρ 5 = .sl 3 (l.map dStp) tok ∧ ρ 7 = .int .i64 d ∧ m = ⟨h, [], nx, lv⟩ ∧ AB.hget h 2 = some (0, [.sl 1 (n.names.map DV.str) .no, .sl 7 (n.sects.map dSect) .no, .sl 4 (n.links.map dLnk) .no, .sl 2 (n.sigs.map dPair) .no, .sl 2 (n.gates.map dPair) .no]) ∧
      AB.hget h 3 = some (0, [.int .i64 fr, .int .i64 to, .sl 3 (p.map dStp) .no]) ∧ AB.hget h 6 = some (0, [.int .i64 s, .int .i64 e]) ∧ okT m tok ∧ 0 ≤ d ∧ d ≤ 3050 ∧ 50 ≤ d + 10 * k ∧ l.length + k = 5 ∧ overG n p sg.s k l d s e = F) (fun k => k) 5 ?_ ?_
  · simp only [go_sem]
    exact ⟨[], .nil, 0, st.s, st.e, _, _, _, ⟨rfl, rfl⟩, rfl, rfl, by simp [go_sem], by simp [go_sem], by simp [go_sem], trivial, by omega, by omega, by omega, rfl, hF⟩
  rintro k ρ m ⟨l, tok, d, s, e, h, nx, lv, e5, e7, rfl, b2, b3, b6, hok, d1, d2, d3, d4, g5⟩ Q hN hR hX
  by_cases hd : d < 50
  · obtain ⟨k, rfl⟩ : ∃ k', k = k' + 1 := ⟨k - 1, by omega⟩
    have hd' : (d < 50) = True := eq_true hd
    simp only [overG, if_pos hd] at g5
    simp only [go_sem, e5, e7, hd', b2, b6]
    refine callVt (f77 n s e hb) ?_
    intro nx1 lv1 hn1 hl1
    have hok1 : okT ⟨[], [], nx1, lv1⟩ tok := okT_mono hok hl1
    cases hj : joinL n.links s e with
    | none =>
      rw [hj] at g5
      simp only at g5
      subst g5
      simp only [go_sem, hj, Option.isSome_none, e5, hX]
    | some q =>
      obtain ⟨t, i⟩ := q
      rw [hj] at g5
      simp only at g5
      have hfl := joinL_has he hj
      obtain ⟨⟨q1, q2⟩, q3, q4⟩ := hasF_iff.1 hfl
      have hltt : t.toNat < n.sects.length := by omega
      obtain ⟨c, hc⟩ : ∃ c, n.sects[t.toNat]? = some c := ⟨_, List.getElem?_eq_getElem hltt⟩
      have hc2 : (n.sects.map dSect)[t.toNat]? = some (dSect c) := by rw [List.getElem?_map, hc]; rfl
      have hkd : kindAt n t = c.kind := by simp [kindAt, hc]
      have hsl : slen n t = c.len := by simp [slen, hc]
      have hln := netE_lens he c (List.mem_of_getElem? hc)
      have hkc := netE_kinds he c (List.mem_of_getElem? hc)
      have i1 : ((0 : Int) ≤ t) = True := eq_true q1
      have i2 : (t < (n.sects.length : Int)) = True := eq_true (by omega)
      simp only [go_sem, hj, Option.isSome_some, joinS, joinE, b3]
      refine callVt (f78 p t (by omega)) ?_
      intro nx2 lv2 hn2 hl2
      have hok2 : okT ⟨[], [], nx2, lv2⟩ tok := okT_mono hok1 hl2
      by_cases a1 : psec p t = true
      · rw [if_pos (.inl a1)] at g5
        subst g5
        simp only [go_sem, a1, e5, b2, b3, j0, j1, hs2, hsg, Option.map_some, dPair, hX]
      have a1 : psec p t = false := by simpa using a1
      simp only [go_sem, a1, e5]
      refine callVt (f78 l t (by omega)) ?_
      intro nx3 lv3 hn3 hl3
      have hok3 : okT ⟨[], [], nx3, lv3⟩ tok := okT_mono hok2 hl3
      by_cases a2 : psec l t = true
      · rw [if_pos (.inr (.inl a2))] at g5
        subst g5
        simp only [go_sem, a1, a2, e5, b2, b3, j0, j1, hs2, hsg, Option.map_some, dPair, hX]
      have a2 : psec l t = false := by simpa using a2
      by_cases a3 : t = sg.s
      · rw [if_pos (.inr (.inr a3))] at g5
        subst g5
        have a3' : (t = sg.s) = True := eq_true a3
        simp only [go_sem, a1, a2, a3', e5, b2, b3, j0, j1, hs2, hsg, Option.map_some, dPair, hX]
      have a3' : (t = sg.s) = False := eq_false a3
      rw [if_neg (by simp [a1, a2, a3])] at g5
      simp only [go_sem, a1, a2, a3', e5, b2, b3, j0, j1, hs2, hsg, Option.map_some, dPair, i1, i2, hc, hc2, dSect]
      refine callVt (f76 c.kind i hkc.1 hkc.2 q3 (by rw [← hkd]; omega)) ?_
      intro nx4 lv4 hn4 hl4
      have hok4 : okT ⟨[], [], nx4, lv4⟩ tok := okT_mono hok3 hl4
      have ho := out0_at c.kind i
      have ho' : out0 n t i = (outsF c.kind i).headD 0 := by simp [out0, hkd]
      rw [ho', hsl] at g5
      generalize (outsF c.kind i).headD 0 = o at ho g5
      have ho2 : ((outsF c.kind i).map fun x => DV.int .i64 x)[0]? = some (.int .i64 o) := by rw [List.getElem?_map, ho]; rfl
      have hlen : (0 : Int) < ((outsF c.kind i).length : Int) := by
        have := (List.getElem?_eq_some_iff.1 ho).1
        omega
      have hlen' : ((0 : Int) < ((outsF c.kind i).length : Int)) = True := eq_true hlen
      have ew : IntKind.i64.wrap (d + c.len) = d + c.len := i64_in (by omega) (by omega)
      obtain ⟨g11, hg11⟩ : ∃ g11, genO (AB.hget h 11) = g11 := ⟨_, rfl⟩
      simp only [go_sem, lInts, e5, e7, ho, ho2, hlen', Option.map_some, b2, b3, b6, i1, i2, hc, hc2, dSect, ew, hg11]
      refine ⟨okT_mono hok4 fun j x => .inr x, by omega, ?_⟩
      rw [hN]
      refine ⟨by kernel_rfl, k, ?_, by simp only; omega⟩
      have hl2 : l.map dStp ++ [DV.agg [.int .i64 t, .int .i64 i, .int .i64 o]] = (l ++ [(⟨t, i, o⟩ : Stp)]).map dStp := by simp [dStp]
      rw [hl2]
      simp only [go_sem]
      refine ⟨l ++ [⟨t, i, o⟩], .own (nx4 + 1), d + c.len, t, o, _, _, _, ⟨rfl, rfl⟩, rfl, rfl, ?_, ?_, ?_, .inl rfl, by omega, by omega, by omega, by simp only [List.length_append, List.length_singleton]; omega, g5⟩
      · simp [go_sem, b2]
      · simp [go_sem, b3]
      · simp [go_sem, b6]
  · have hd' : (d < 50) = False := eq_false hd
    have : overG n p sg.s k l d s e = l := by cases k <;> simp [overG, hd]
    rw [this] at g5
    subst g5
    simp only [go_sem, e5, e7, hd', hX]
end Go.Proofs.Yteadhjclchjfjaa
