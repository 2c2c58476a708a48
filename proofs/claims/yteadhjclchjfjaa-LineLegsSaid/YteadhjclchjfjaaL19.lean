/- Overlaps, the program's. -/
import Derived.Test.YteadhjclchjfjaaL18
namespace Go.Proofs.Yteadhjclchjfjaa
set_option linter.unusedSimpArgs false
set_option linter.unusedVariables false
open Go.AB

theorem exC_rangeFunc {P : Go.Program} {E : Env} {g : Operand} {ps : Array Tmp} {a b : Code} {σ : AS} {Q : Exit → AS → Prop} : exC P E (.rangeFunc g ps a b) σ Q = AW P E (.rangeFunc g ps a b) Q σ := by
  unfold exC
  rfl

/-- What the range over walk keeps to, and how it is left. -/
def NetBox (n : Net) (fr to : Nat) (p : List Stp) (s e : Int) (h : List (Nat × Nat × List AV)) : Prop :=
  AB.hget h 2 = some (0, [.sl 1 (n.names.map DV.str) .no, .sl 7 (n.sects.map dSect) .no, .sl 4 (n.links.map dLnk) .no, .sl 2 (n.sigs.map dPair) .no, .sl 2 (n.gates.map dPair) .no]) ∧
      AB.hget h 3 = some (0, [.int .i64 fr, .int .i64 to, .sl 3 (p.map dStp) .no]) ∧ AB.hget h 6 = some (0, [.int .i64 s, .int .i64 e])
def JO (n : Net) (fr to : Nat) (p : List Stp) (s e : Int) (g8 g9 : Nat) (tok : Tok) (j : Nat) (m : AH) : Prop :=
  j = 0 ∧ ∃ h nx lv, m = ⟨h, [], nx, lv⟩ ∧ NetBox n fr to p s e h ∧ AB.hget h 8 = some (g8, [.int .i64 0, .int .i64 0, .int .i64 0]) ∧ AB.hget h 9 = some (g9, [.bool false]) ∧ okT m tok
def XO (n : Net) (fr to : Nat) (p : List Stp) (s e : Int) (g8 g9 : Nat) (tok : Tok) (c : Code) (m : AH) : Prop :=
  c = .exit 2 ∧ ∃ x h nx lv, (walkS n s e)[0]? = some x ∧ m = ⟨h, [], nx, lv⟩ ∧ NetBox n fr to p s e h ∧ AB.hget h 8 = some (g8, [.int .i64 x.s, .int .i64 x.i, .int .i64 x.o]) ∧ AB.hget h 9 = some (g9, [.bool true]) ∧ okT m tok

set_option maxHeartbeats 4000000 in
set_option maxRecDepth 20000 in
theorem f90 (n : Net) (hb : NetB n) (he : netE n = 0) (fr : Nat) (sg : Pair) (hsg : n.sigs[fr]? = some sg) (to : Nat) (st : Pair) (hst : n.sigs[to]? = some st) (p : List Stp) (hp : p.length ≤ 1000) :
    PCall Try.prog 90 [eNet n, .agg [.int .i64 fr, .int .i64 to, .sl 3 (p.map dStp) .no]] (RV (.sl 3 ((overG n p sg.s 5 [] 0 st.s st.e).map dStp) .no)) := by
  refine PCall.of_bodyRE Try.func90 rfl Try.ntmps90 (congrArg Array.toList Try.results90) ?_
  intro E hE
  have hflt : fr < n.sigs.length := (List.getElem?_eq_some_iff.1 hsg).1
  have htlt : to < n.sigs.length := (List.getElem?_eq_some_iff.1 hst).1
  have j0 : ((0 : Int) ≤ (fr : Int)) = True := by simp
  have j1 : ((fr : Int) < (n.sigs.length : Int)) = True := by simp; omega
  have k0 : ((0 : Int) ≤ (to : Int)) = True := by simp
  have k1 : ((to : Int) < (n.sigs.length : Int)) = True := by simp; omega
  have k2 : ((to : Int) < 0) = False := by simp
  have hs2 : (n.sigs.map dPair)[fr]? = some (dPair sg) := by rw [List.getElem?_map, hsg]; rfl
  have ht2 : (n.sigs.map dPair)[to]? = some (dPair st) := by rw [List.getElem?_map, hst]; rfl
  refine AW_of ?_
  simp only [go_sem, eNet, nCells, k0, k1, k2, ht2, hst, Option.map_some, dPair]
  generalize hF : overG n p sg.s 5 [] 0 st.s st.e = F
  refine drawnP [2, 2, 2, 2, 2, 2, 2, 2, 2, 2, 2, 2, 2, 2, 2, 3, 1] [(15, [2, 2, 2, 2, 2, 2, 2, 2, 2, 2, 2, 2, 2, 2, 2, 0, 3]), (16, [0, 0, 0, 0, 0, 0, 0, 0, 0, 0, 0, 0, 0, 0, 0, 0, 0])] 83 (by kernel_rfl) (by kernel_rfl) (by kernel_rfl) (by kernel_rfl) rfl ?_
  simp only [go_sem, k0, k1, ht2, hst, Option.map_some, dPair]
  intros
  refine AW_loopH [5, 7, 8, 9, 10, 29, 30, 31, 32, 33, 34, 35, 36, 37, 38, 39, 40, 41, 42, 43, 44, 45, 46, 47, 48, 49, 50, 51, 52, 53, 54, 55, 56, 57, 58, 59, 60, 61, 62, 63, 64, 65, 66, 67, 68, 69, 70, 71, 72, 73, 74, 75, 76, 77, 78, 79, 80, 81]
    (fun (k : Nat) ρ m => ∃ l tok d s e h nx lv, ρ 5 = .sl 3 (l.map dStp) tok ∧ ρ 7 = .int .i64 d ∧ m = ⟨h, [], nx, lv⟩ ∧ AB.hget h 2 = some (0, [.sl 1 (n.names.map DV.str) .no, .sl 7 (n.sects.map dSect) .no, .sl 4 (n.links.map dLnk) .no, .sl 2 (n.sigs.map dPair) .no, .sl 2 (n.gates.map dPair) .no]) ∧
      AB.hget h 3 = some (0, [.int .i64 fr, .int .i64 to, .sl 3 (p.map dStp) .no]) ∧ AB.hget h 6 = some (0, [.int .i64 s, .int .i64 e]) ∧ okT m tok ∧ 0 ≤ d ∧ d ≤ 3050 ∧ 50 ≤ d + 10 * k ∧ l.length + k = 5 ∧ overG n p sg.s k l d s e = F) (fun k => k) 5 ?_ ?_
  · simp only [go_sem]
    exact ⟨[], .nil, 0, st.s, st.e, _, _, _, ⟨rfl, rfl⟩, rfl, rfl, by simp [go_sem], by simp [go_sem], by simp [go_sem], trivial, by omega, by omega, by omega, rfl, hF⟩
  rintro k ρ m ⟨l, tok, d, s, e, h, nx, lv, e5, e7, rfl, b2, b3, b6, hok, d1, d2, d3, d4, g5⟩ Q hN hR hX
  by_cases hd : d < 50
  · obtain ⟨k, rfl⟩ : ∃ k', k = k' + 1 := ⟨k - 1, by omega⟩
    have hd' : (d < 50) = True := eq_true hd
    simp only [overG, if_pos hd] at g5
    obtain ⟨g8, hg8⟩ : ∃ g8, genO (AB.hget h 8) = g8 := ⟨_, rfl⟩
    obtain ⟨g9, hg9⟩ : ∃ g9, genO (AB.hget h 9) = g9 := ⟨_, rfl⟩
    simp only [go_sem, e5, e7, hd', b2, b6, hg8, hg9]
    refine callVt (f122 n s e) ?_
    intro nx1 lv1 hn1 hl1
    have hok1 : okT ⟨[], [], nx1, lv1⟩ tok := okT_mono hok hl1
    simp only [go_sem]
    rw [exC_rangeFunc]
    refine AW_range hE (by first | rfl | (simp only [go_sem]; rfl)) bodyOk_140 (f140 n s e hb he) ?_ (JO n fr to p s e g8 g9 tok) (XO n fr to p s e g8 g9 tok) ?_ ?_ ?_ ?_ ?_
    · intro x hx
      simp only [walkX, List.mem_map] at hx
      obtain ⟨_, _, rfl⟩ := hx
      rfl
    · rintro j h0 o0 nx0 lv0 nx1 lv1 ⟨hj, h, nx2, lv2, e, b, c8, c9, hok⟩ _ hl
      cases e
      exact ⟨hj, _, _, _, rfl, b, c8, c9, okT_mono hok (fun j x => hl j x)⟩
    · exact ⟨rfl, _, _, _, rfl, ⟨by simp [go_sem, b2], by simp [go_sem, b3], by simp [go_sem, b6]⟩, by simp [go_sem], by simp [go_sem], okT_mono hok1 fun _ x => x⟩
    · rintro j x m' hx ⟨rfl, h2, nx5, lv5, rfl, ⟨c2, c3, c6⟩, c8, c9, hok5⟩ E1
      simp only [walkX, List.getElem?_map] at hx
      obtain ⟨y, hy, rfl⟩ := Option.map_eq_some_iff.1 hx
      refine AW_of ?_
      simp only [go_sem, eStp]
      intro E2
      refine AW_of ?_
      simp only [go_sem, c8, c9]
      refine ⟨rfl, y, _, _, _, hy, rfl, ⟨?_, ?_, ?_⟩, ?_, ?_, okT_mono hok5 fun _ x => x⟩
      · simp [go_sem, c2]
      · simp [go_sem, c3]
      · simp [go_sem, c6]
      · simp [go_sem, c8]
      · simp [go_sem, c9]
    · rintro m' ⟨hz, h2, nx5, lv5, rfl, ⟨c2, c3, c6⟩, c8, c9, hok5⟩
      have hn : joinL n.links s e = none := by
        cases hj : joinL n.links s e with
        | none => rfl
        | some q => simp [walkX, walkS, hj, outsF_ne] at hz
      rw [hn] at g5
      simp only at g5
      subst g5
      simp only [go_sem]
      refine drawn (by kernel_rfl) (by kernel_rfl) ?_
      simp only [go_sem, c2, c3, c6, c8, c9, e5, hX]
    · rintro c m' ⟨rfl, y, h2, nx5, lv5, hy, rfl, ⟨c2, c3, c6⟩, c8, c9, hok5⟩
      obtain ⟨t, i, hj, hy2⟩ : ∃ t i, joinL n.links s e = some (t, i) ∧ y = ⟨t, i, out0 n t i⟩ := by
        cases hj : joinL n.links s e with
        | none => simp [walkS, hj] at hy
        | some q =>
          obtain ⟨t, i⟩ := q
          simp only [walkS, hj, List.getElem?_map, out0_at, Option.map_some, Option.some.injEq] at hy
          exact ⟨t, i, rfl, hy.symm⟩
      rw [hj] at g5
      simp only at g5
      have hfl := joinL_has he hj
      obtain ⟨⟨q1, q2⟩, q3, q4⟩ := hasF_iff.1 hfl
      have hltt : t.toNat < n.sects.length := by omega
      obtain ⟨c, hc⟩ : ∃ c, n.sects[t.toNat]? = some c := ⟨_, List.getElem?_eq_getElem hltt⟩
      have hc2 : (n.sects.map dSect)[t.toNat]? = some (dSect c) := by rw [List.getElem?_map, hc]; rfl
      have hsl : slen n t = c.len := by simp [slen, hc]
      have hln := netE_lens he c (List.mem_of_getElem? hc)
      have i1 : ((0 : Int) ≤ t) = True := eq_true q1
      have i2 : (t < (n.sects.length : Int)) = True := eq_true (by omega)
      rw [hsl] at g5
      generalize out0 n t i = o at g5 hy2
      subst hy2
      simp only at c8
      simp only [go_sem]
      refine drawn (by kernel_rfl) (by kernel_rfl) ?_
      simp only [go_sem, c2, c3, c6, c8, c9, e5, hX]
      refine quietD (f123 p t (by omega)) (fun _ => rfl) ?_
      by_cases a1 : psec p t = true
      · rw [if_pos (.inl a1)] at g5
        subst g5
        simp only [go_sem, a1, c2, c3, c8, e5, j0, j1, hs2, hsg, Option.map_some, dPair, hX, kDraw_eq]
      have a1 : psec p t = false := by simpa using a1
      simp only [go_sem, a1, e5, c8]
      refine quietD (f123 l t (by omega)) (fun _ => rfl) ?_
      by_cases a2 : psec l t = true
      · rw [if_pos (.inr (.inl a2))] at g5
        subst g5
        simp only [go_sem, a1, a2, c2, c3, c8, e5, j0, j1, hs2, hsg, Option.map_some, dPair, hX, kDraw_eq]
      have a2 : psec l t = false := by simpa using a2
      by_cases a3 : t = sg.s
      · rw [if_pos (.inr (.inr a3))] at g5
        subst g5
        have a3' : (t = sg.s) = True := eq_true a3
        simp only [go_sem, a1, a2, a3', c2, c3, c8, e5, j0, j1, hs2, hsg, Option.map_some, dPair, hX, kDraw_eq]
      have a3' : (t = sg.s) = False := eq_false a3
      rw [if_neg (by simp [a1, a2, a3])] at g5
      have ew : IntKind.i64.wrap (d + c.len) = d + c.len := i64_in (by omega) (by omega)
      simp only [go_sem, a1, a2, a3', c2, c3, c6, c8, e5, e7, j0, j1, hs2, hsg, Option.map_some, dPair, i1, i2, hc, hc2, dSect, ew, kDraw_eq]
      intro nx6 lv6 hn6 hl6
      refine ⟨okT_mono hok5 fun j x => .inr (hl6 j x), by omega, ?_⟩
      rw [hN]
      refine ⟨by kernel_rfl, k, ?_, by simp only; omega⟩
      have hl2 : l.map dStp ++ [DV.agg [.int .i64 t, .int .i64 i, .int .i64 o]] = (l ++ [(⟨t, i, o⟩ : Stp)]).map dStp := by simp [dStp]
      rw [hl2]
      simp only [go_sem]
      refine ⟨l ++ [⟨t, i, o⟩], .own (nx6 + 1), d + c.len, t, o, _, _, _, ⟨rfl, rfl⟩, rfl, rfl, ?_, ?_, ?_, .inl rfl, by omega, by omega, by omega, by simp only [List.length_append, List.length_singleton]; omega, g5⟩
      · simp [go_sem, c2]
      · simp [go_sem, c3]
      · simp [go_sem, c6]
  · have hd' : (d < 50) = False := eq_false hd
    have : overG n p sg.s k l d s e = l := by cases k <;> simp [overG, hd]
    rw [this] at g5
    subst g5
    simp only [go_sem, e5, e7, hd', hX]
end Go.Proofs.Yteadhjclchjfjaa
