/- Needs: the reference's. -/
import Derived.Test.YteadhjclchjfjaaL26
namespace Go.Proofs.Yteadhjclchjfjaa
set_option linter.unusedSimpArgs false
set_option linter.unusedVariables false
open Go.AB

/-- What a call comes to that hands on a list of needs. -/
def outS (l : List Nd) : AH → AV → Prop := fun m r => m.o = [] ∧ ∃ tok, r = .sl 4 (l.map dNd) tok ∧ okN m.nx m.lv tok
theorem callS {k : Nat} {bs args : List AV} {σ : AS} {dst : Option Nat} {K : AS → Prop} {g : List Nd} (h : QCall Try.prog k ⟨[], [], σ.m.nx, σ.m.lv⟩ args (outS g)) (h1 : rnAL (outF []) args = some args)
    (hK : ∀ tok' nx2 lv2, okN nx2 lv2 tok' → K (AS.put ⟨σ.s, ⟨σ.m.h, σ.m.o, nx2, lv2⟩⟩ dst (.sl 4 (g.map dNd) tok'))) : callX Try.prog k bs args σ dst K := by
  refine callX.own h1 h ?_
  rintro m' r ⟨ho, tok, rfl, hok⟩
  exact ⟨ho, .sl 4 (g.map dNd) tok, rfl, hK tok _ _ hok⟩

set_option maxHeartbeats 1000000 in
set_option maxRecDepth 20000 in
theorem f120 (l : List Nd) (x : Nd) (tok : Tok) (nx : Nat) (lv : Nat → Prop) (hl : l.length ≤ 50000) (hok : okT ⟨[], [], nx, lv⟩ tok) :
    QCall Try.prog 120 ⟨[], [], nx, lv⟩ [.sl 4 (l.map dNd) tok, eNd x] (outS (ndA l x)) := by
  refine QCall.lt fun hlt => ?_
  simp only at hlt
  refine QCall.of_body Try.func120 rfl Try.ntmps120 (congrArg Array.toList Try.results120) ?_
  intro E
  simp only [go_sem, eNd]
  refine AW_loopH [4, 6, 9, 10, 11, 12, 13, 14, 15, 16, 17]
    (fun (i : Nat) ρ m => ρ 9 = .int .i64 (i : Int) ∧ i ≤ l.length ∧ x ∉ l.take i ∧ ∃ h, m = ⟨h, [], nx, lv⟩ ∧ AB.hget h 3 = some (0, [.int .i64 x.k, .int .i64 x.p, .int .i64 x.o, .int .i64 x.a])) (fun i => l.length - i) 0 ?_ ?_
  · simp only [go_sem]
    exact ⟨Nat.zero_le _, by simp, _, rfl, by simp [go_sem]⟩
  rintro i ρ m ⟨e9, g1, g2, h, rfl, b3⟩ Q hN hR hX
  by_cases hlt2 : i < l.length
  · obtain ⟨y, hy⟩ : ∃ y, l[i]? = some y := ⟨_, List.getElem?_eq_getElem hlt2⟩
    have hyp : (l.map dNd)[i]? = some (dNd y) := by rw [List.getElem?_map, hy]; rfl
    have hlt' : ((i : Int) < (l.length : Int)) = True := by simp; omega
    have h0 : ((0 : Int) ≤ (i : Int)) = True := by simp
    have ew : IntKind.i64.wrap ((i : Int) + 1) = (i : Int) + 1 := i64_in (by omega) (by omega)
    obtain ⟨g6, hg6⟩ : ∃ g6, genO (AB.hget h 6) = g6 := ⟨_, rfl⟩
    have htk : l.take (i + 1) = l.take i ++ [y] := by rw [List.take_add_one, hy]; rfl
    simp only [go_sem, e9, hlt', h0, hyp, hy, Option.map_some, dNd, hg6, b3]
    refine ⟨fun hq => ?_, fun hq => ?_⟩
    · have : x = y := by
        obtain ⟨a, b, c, d⟩ := x
        obtain ⟨a', b', c', d'⟩ := y
        simpa using hq
      subst this
      have e : ndA l x = l := by simp [ndA, List.mem_of_getElem? hy]
      rw [hR, e]
      exact ⟨rfl, tok, rfl, okN.of hok hlt⟩
    · have hne : x ≠ y := by
        rintro rfl
        simp at hq
      rw [hN]
      simp only [go_sem, ew]
      refine ⟨by kernel_rfl, i + 1, ?_, by simp only; omega⟩
      simp only [go_sem]
      refine ⟨by simp, by omega, ?_, _, rfl, by simp [go_sem, b3]⟩
      rw [htk]
      simpa using ⟨g2, hne⟩
  · have hlt' : ((i : Int) < (l.length : Int)) = False := by simp; omega
    rw [List.take_of_length_le (by omega)] at g2
    have e : ndA l x = l ++ [x] := by simp [ndA, g2]
    simp only [go_sem, e9, hlt', hX, b3]
    refine ⟨okT_mono hok fun j z => .inr z, by omega, rfl, .own (nx + 1), ?_, .inl rfl, Nat.lt_succ_self _⟩
    rw [e]
    simp [dNd]

set_option maxHeartbeats 4000000 in
set_option maxRecDepth 20000 in
theorem f89 (n : Net) (hb : NetB n) (he : netE n = 0) (r : Rt) (hr : r.st.length ≤ 1000) (lap : List Stp) (hlap : lap.length ≤ 1000) (step : Int) : ∀ (k : Nat) (l : List Nd) (s e seen : Int) (tok : Tok) (nx : Nat) (lv : Nat → Prop), seen = 8 - (k : Int) → k ≤ 8 → l.length + 2 ^ k ≤ 50000 → okT ⟨[], [], nx, lv⟩ tok →
    QCall Try.prog 89 ⟨[], [], nx, lv⟩ [eNet n, eRt0 r, .sl 3 (lap.map dStp) .no, .sl 4 (l.map dNd) tok, .int .i64 step, .int .i64 s, .int .i64 e, .int .i64 seen] (outS (lookF n r.fr r.st lap step k l s e)) := by
  intro k
  induction k with
  | zero =>
    intro l s e seen tok nx lv hm hk hl hok
    have hm' : (seen = 8) = True := eq_true (by omega)
    refine QCall.lt fun hlt => ?_
    simp only at hlt
    refine QCall.of_body Try.func89 rfl Try.ntmps89 (congrArg Array.toList Try.results89) ?_
    intro E
    simp only [go_sem, eNet, nCells, eRt0]
    refine callVt (f77 n s e hb) ?_
    intro nx1 lv1 hn1 hl1
    have done : ∀ (h : List (Nat × Nat × List AV)) (nx2 : Nat) (lv2 : Nat → Prop), nx1 ≤ nx2 → (∀ j, lv1 j → lv2 j) → outS (lookF n r.fr r.st lap step 0 l s e) ⟨h, [], nx2, lv2⟩ (.sl 4 (l.map dNd) tok) := fun h nx2 lv2 hn2 hl2 =>
      ⟨rfl, tok, rfl, (okN.of hok hlt).mono (by simp only at hn1 ⊢; omega) fun j z => hl2 j (hl1 j z)⟩
    cases hj : (joinL n.links s e).isSome with
    | false =>
      simp only [go_sem, hj]
      exact done _ _ _ (Nat.le_refl _) fun _ z => z
    | true =>
      simp only [go_sem, hj]
      refine callVt (f78 r.st _ (by omega)) ?_
      intro nx2 lv2 hn2 hl2
      cases h1 : psec r.st (joinS (joinL n.links s e)) with
      | true =>
        simp only [go_sem]
        exact done _ _ _ hn2 hl2
      | false =>
        simp only [go_sem]
        refine callVt (f78 lap _ (by omega)) ?_
        intro nx3 lv3 hn3 hl3
        cases h2 : psec lap (joinS (joinL n.links s e)) with
        | true =>
          simp only [go_sem]
          exact done _ _ _ (Nat.le_trans hn2 hn3) fun j z => hl3 j (hl2 j z)
        | false =>
          simp only [go_sem, hm']
          exact done _ _ _ (Nat.le_trans hn2 hn3) fun j z => hl3 j (hl2 j z)
  | succ k ih =>
    intro l s e seen tok nx lv hm hk hl hok
    have hm' : (seen = 8) = False := eq_false (by omega)
    have hll : l.length ≤ 50000 := Nat.le_trans (Nat.le_add_right _ _) hl
    rw [Nat.pow_succ] at hl
    have ewm : IntKind.i64.wrap (seen + 1) = seen + 1 := i64_in (by omega) (by omega)
    refine QCall.lt fun hlt => ?_
    simp only at hlt
    refine QCall.of_body Try.func89 rfl Try.ntmps89 (congrArg Array.toList Try.results89) ?_
    intro E
    generalize hF : lookF n r.fr r.st lap step (k + 1) l s e = F
    unfold lookF lookG at hF
    have hok0 : okN nx lv tok := okN.of hok hlt
    simp only [go_sem, eNet, nCells, eRt0]
    refine callVt (f77 n s e hb) ?_
    intro nx1 lv1 hn1 hl1
    have hok1 : okN nx1 lv1 tok := hok0.mono hn1 hl1
    cases hj : joinL n.links s e with
    | none =>
      rw [hj] at hF
      simp only at hF
      subst hF
      simp only [go_sem, Option.isSome_none]
      exact ⟨rfl, tok, rfl, hok1⟩
    | some q =>
      obtain ⟨t, u⟩ := q
      rw [hj] at hF
      simp only at hF
      simp only [go_sem, hm', Option.isSome_some, joinS, joinE]
      refine callVt (f78 r.st t (by omega)) ?_
      intro nx2 lv2 hn2 hl2
      have hok2 : okN nx2 lv2 tok := hok1.mono hn2 hl2
      by_cases a1 : psec r.st t = true
      · rw [if_pos (.inl a1)] at hF
        subst hF
        simp only [go_sem, a1]
        exact ⟨rfl, tok, rfl, hok2⟩
      have a1 : psec r.st t = false := by simpa using a1
      simp only [go_sem, a1]
      refine callVt (f78 lap t (by omega)) ?_
      intro nx3 lv3 hn3 hl3
      have hok3 : okN nx3 lv3 tok := hok2.mono hn3 hl3
      by_cases a2 : psec lap t = true
      · rw [if_pos (.inr a2)] at hF
        subst hF
        simp only [go_sem, a2]
        exact ⟨rfl, tok, rfl, hok3⟩
      have a2 : psec lap t = false := by simpa using a2
      rw [if_neg (by simp [a1, a2])] at hF
      have hfl := joinL_has he hj
      obtain ⟨⟨q1, q2⟩, q3, q4⟩ := hasF_iff.1 hfl
      have hltt : t.toNat < n.sects.length := by omega
      obtain ⟨c, hc⟩ : ∃ c, n.sects[t.toNat]? = some c := ⟨_, List.getElem?_eq_getElem hltt⟩
      have hc2 : (n.sects.map dSect)[t.toNat]? = some (dSect c) := by rw [List.getElem?_map, hc]; rfl
      have hkd : kindAt n t = c.kind := by simp [kindAt, hc]
      have hkc := netE_kinds he c (List.mem_of_getElem? hc)
      have i1 : ((0 : Int) ≤ t) = True := eq_true q1
      have i2 : (t < (n.sects.length : Int)) = True := eq_true (by omega)
      have hu3 : u ≤ 3 := by have := endsF_bd (kindAt n t); omega
      rw [hkd] at hF
      by_cases b1 : c.kind = 2 ∧ 0 < u
      · rw [if_pos b1] at hF
        have b1a : (c.kind = 2) = True := eq_true b1.1
        have b1b : (0 < u) = True := eq_true b1.2
        have ew3 : IntKind.i64.wrap (3 - u) = 3 - u := i64_in (by omega) (by omega)
        simp only [go_sem, a2, hm', i1, i2, hc, hc2, Option.map_some, dSect, b1a, b1b]
        refine AW_loopH [16, 22, 66, 67, 68, 69, 70, 71, 72, 73, 74, 75, 76, 77, 78, 79, 80, 81, 82, 83, 84, 85, 86]
          (fun (i : Nat) ρ m => ρ 66 = .int .i64 (i : Int) ∧ i ≤ l.length ∧ flankP (l.drop i) t u = flankP l t u ∧ ∃ h, m = ⟨h, [], nx3, lv3⟩) (fun i => l.length - i) 0 ?_ ?_
        · simp only [go_sem]
          first | exact ⟨Nat.zero_le _, rfl, _, rfl⟩ | exact ⟨Nat.zero_le _, _, rfl⟩ | exact ⟨Nat.zero_le _, rfl⟩ | exact Nat.zero_le _ | simp
        rintro i ρ m ⟨e66, g1, g2, h, rfl⟩ Q hN hR hX
        by_cases hlt2 : i < l.length
        · obtain ⟨y, hy⟩ : ∃ y, l[i]? = some y := ⟨_, List.getElem?_eq_getElem hlt2⟩
          have hyp : (l.map dNd)[i]? = some (dNd y) := by rw [List.getElem?_map, hy]; rfl
          have hlt' : ((i : Int) < (l.length : Int)) = True := by simp; omega
          have h0 : ((0 : Int) ≤ (i : Int)) = True := by simp
          have ew : IntKind.i64.wrap ((i : Int) + 1) = (i : Int) + 1 := i64_in (by omega) (by omega)
          have hd : l.drop i = y :: l.drop (i + 1) := by
            rw [List.drop_eq_getElem_cons hlt2]
            rw [List.getElem?_eq_getElem hlt2] at hy
            cases hy; rfl
          rw [hd] at g2
          simp only [flankP, List.any_cons] at g2
          obtain ⟨g6, hg6⟩ : ∃ g6, genO (AB.hget h 22) = g6 := ⟨_, rfl⟩
          by_cases y1 : y.k = 3
          · have y1' : (y.k = 3) = True := eq_true y1
            by_cases y2 : y.p = t
            · have y2' : (y.p = t) = True := eq_true y2
              by_cases y3 : y.o = u
              · have y3' : (y.o = u) = True := eq_true y3
                have : flankP l t u = true := by unfold flankP; rw [← g2]; simp [y1, y2, y3]
                rw [if_pos this] at hF
                subst hF
                simp only [go_sem, e66, hlt', h0, hyp, hy, Option.map_some, dNd, hg6, y1', y2', y3', hR]
                exact ⟨rfl, tok, rfl, hok3⟩
              · have y3' : (y.o = u) = False := eq_false y3
                simp only [go_sem, e66, hlt', h0, hyp, hy, Option.map_some, dNd, hg6, y1', y2', y3', hN, ew]
                refine ⟨by kernel_rfl, i + 1, ?_, by simp only; omega⟩
                simp only [go_sem]
                refine ⟨by simp, by omega, ?_, _, rfl⟩
                unfold flankP; rw [← g2]; simp [y3]
            · have y2' : (y.p = t) = False := eq_false y2
              simp only [go_sem, e66, hlt', h0, hyp, hy, Option.map_some, dNd, hg6, y1', y2', hN, ew]
              refine ⟨by kernel_rfl, i + 1, ?_, by simp only; omega⟩
              simp only [go_sem]
              refine ⟨by simp, by omega, ?_, _, rfl⟩
              unfold flankP; rw [← g2]; simp [y2]
          · have y1' : (y.k = 3) = False := eq_false y1
            simp only [go_sem, e66, hlt', h0, hyp, hy, Option.map_some, dNd, hg6, y1', hN, ew]
            refine ⟨by kernel_rfl, i + 1, ?_, by simp only; omega⟩
            simp only [go_sem]
            refine ⟨by simp, by omega, ?_, _, rfl⟩
            unfold flankP; rw [← g2]; simp [y1]
        · have hlt' : ((i : Int) < (l.length : Int)) = False := by simp; omega
          rw [List.drop_eq_nil_of_le (by omega)] at g2
          rw [if_neg (by rw [← g2]; simp [flankP])] at hF
          subst hF
          simp only [go_sem, e66, hlt', hX, ew3]
          refine callS (f120 l ⟨3, t, 3 - u, step⟩ tok nx3 lv3 hll hok3.t) rfl ?_
          intro tok4 nx4 lv4 hok4
          simp only [go_sem]
          exact ⟨rfl, tok4, rfl, hok4⟩
      rw [if_neg b1] at hF
      by_cases c1 : c.kind = 1 ∧ 0 ≤ sigIdx n.sigs t u 0
      · rw [if_pos c1] at hF
        have c1a : (c.kind = 1) = True := eq_true c1.1
        have c1b : (c.kind = 2) = False := eq_false (by omega)
        have c2a : (0 ≤ sigIdx n.sigs t u 0) = True := eq_true c1.2
        simp only [go_sem, a2, hm', i1, i2, hc, hc2, Option.map_some, dSect, c1b]
        refine callVt (f121 n t u hb) ?_
        intro nx4 lv4 hn4 hl4
        have hok4 : okN nx4 lv4 tok := hok3.mono hn4 hl4
        by_cases c3 : sigIdx n.sigs t u 0 = r.fr
        · rw [if_pos c3] at hF
          have c3a : (sigIdx n.sigs t u 0 = r.fr) = True := eq_true c3
          subst hF
          simp only [go_sem, c1a, c2a, c3a]
          exact ⟨rfl, tok, rfl, hok4⟩
        · rw [if_neg c3] at hF
          have c3a : (sigIdx n.sigs t u 0 = r.fr) = False := eq_false c3
          simp only [go_sem, c1a, c2a, c3a]
          subst hF
          refine callS (f120 l ⟨4, sigIdx n.sigs t u 0, 0, step⟩ tok nx4 lv4 hll hok4.t) rfl ?_
          intro tok5 nx5 lv5 hok5
          simp only [go_sem]
          exact ⟨rfl, tok5, rfl, hok5⟩
      rw [if_neg c1] at hF
      have hcs : (c.kind = 2 ∧ ¬ 0 < u) ∨ (c.kind = 1 ∧ ¬ 0 ≤ sigIdx n.sigs t u 0) ∨ c.kind = 3 := by omega
      rcases hcs with ⟨c2, c3⟩ | ⟨c2, c3⟩ | c2
      · have c2a : (c.kind = 2) = True := eq_true c2
        have c2c : (c.kind = 1) = False := eq_false (by omega)
        have c2d : (0 < u) = False := eq_false c3
        simp only [go_sem, a2, hm', i1, i2, hc, hc2, Option.map_some, dSect, c2a, c2d]
        refine callVt (f121 n t u hb) ?_
        intro nx4 lv4 hn4 hl4
        have hok4 : okN nx4 lv4 tok := hok3.mono hn4 hl4
        simp only [go_sem, c2c]
        refine callVt (f76 c.kind u hkc.1 hkc.2 q3 (by rw [← hkd]; omega)) ?_
        intro nx6 lv6 hn6 hl6
        have hok6 : okN nx6 lv6 tok := hok4.mono hn6 hl6
        have hle := outsF_len c.kind u
        generalize outsF c.kind u = os at hF hle ⊢
        simp only [go_sem, lInts]
        refine AW_loopH [3, 25, 118, 119, 120, 121, 122, 123, 124, 125, 126, 127, 128, 129, 130, 131, 132]
          (fun (j : Nat) ρ m => ρ 118 = .int .i64 (j : Int) ∧ j ≤ os.length ∧ ∃ h nx lv tok l', ρ 3 = .sl 4 (l'.map dNd) tok ∧ m = ⟨h, [], nx, lv⟩ ∧ AB.hget h 8 = some (0, [.sl 1 (n.names.map DV.str) .no, .sl 7 (n.sects.map dSect) .no, .sl 4 (n.links.map dLnk) .no, .sl 2 (n.sigs.map dPair) .no, .sl 2 (n.gates.map dPair) .no]) ∧
            AB.hget h 9 = some (0, [.int .i64 r.fr, .int .i64 r.to, .sl 3 (r.st.map dStp) .no]) ∧ okN nx lv tok ∧
            l'.length + (os.length - j) * 2 ^ k ≤ 50000 ∧ overO (lookF n r.fr r.st lap step k) t (os.drop j) l' = F) (fun j => os.length - j) 0 ?_ ?_
        · simp only [go_sem]
          refine ⟨Nat.zero_le _, _, _, _, tok, l, ⟨rfl, rfl⟩, rfl, by simp [go_sem], by simp [go_sem], hok6, ?_, hF⟩
          have := Nat.mul_le_mul_right (2 ^ k) hle
          rw [Nat.sub_zero]
          omega
        rintro j ρ m ⟨e118, g1, h, nx7, lv7, tok7, l7, e3, rfl, b8, b9, hok7, hl7, g2⟩ Q hN hR hX
        by_cases hlt2 : j < os.length
        · obtain ⟨o, ho⟩ : ∃ o, os[j]? = some o := ⟨_, List.getElem?_eq_getElem hlt2⟩
          have hlt' : ((j : Int) < (os.length : Int)) = True := by simp; omega
          have h0 : ((0 : Int) ≤ (j : Int)) = True := by simp
          have ew : IntKind.i64.wrap ((j : Int) + 1) = (j : Int) + 1 := i64_in (by omega) (by omega)
          have hd : os.drop j = o :: os.drop (j + 1) := by
            rw [List.drop_eq_getElem_cons hlt2]
            rw [List.getElem?_eq_getElem hlt2] at ho
            cases ho; rfl
          rw [hd, overO_cons] at g2
          have hsub : os.length - j = (os.length - (j + 1)) + 1 := by omega
          rw [hsub, Nat.succ_mul] at hl7
          have hlen := lookF_len n r.fr r.st lap step k l7 t o
          simp only [go_sem, e118, e3, hlt', h0, ho, Option.map_some, b8, b9, ewm]
          refine callS (ih l7 t o (seen + 1) tok7 nx7 lv7 (by omega) (by omega) (by omega) hok7.t) rfl ?_
          intro tok8 nx8 lv8 hok8
          simp only [go_sem, hN, ew]
          refine ⟨by kernel_rfl, j + 1, ?_, by simp only; omega⟩
          simp only [go_sem]
          exact ⟨by simp, by omega, _, _, _, tok8, _, ⟨rfl, rfl⟩, rfl, b8, b9, hok8, by omega, g2⟩
        · have hlt' : ((j : Int) < (os.length : Int)) = False := by simp; omega
          rw [List.drop_eq_nil_of_le (by omega), overO_nil] at g2
          subst g2
          simp only [go_sem, e118, e3, hlt', hX]
          exact ⟨rfl, tok7, rfl, hok7⟩
      · have c2a : (c.kind = 1) = True := eq_true c2
        have c2c : (c.kind = 2) = False := eq_false (by omega)
        have c2d : (0 ≤ sigIdx n.sigs t u 0) = False := eq_false c3
        simp only [go_sem, a2, hm', i1, i2, hc, hc2, Option.map_some, dSect, c2c]
        refine callVt (f121 n t u hb) ?_
        intro nx4 lv4 hn4 hl4
        have hok4 : okN nx4 lv4 tok := hok3.mono hn4 hl4
        simp only [go_sem, c2a, c2d]
        refine callVt (f76 c.kind u hkc.1 hkc.2 q3 (by rw [← hkd]; omega)) ?_
        intro nx6 lv6 hn6 hl6
        have hok6 : okN nx6 lv6 tok := hok4.mono hn6 hl6
        have hle := outsF_len c.kind u
        generalize outsF c.kind u = os at hF hle ⊢
        simp only [go_sem, lInts]
        refine AW_loopH [3, 25, 118, 119, 120, 121, 122, 123, 124, 125, 126, 127, 128, 129, 130, 131, 132]
          (fun (j : Nat) ρ m => ρ 118 = .int .i64 (j : Int) ∧ j ≤ os.length ∧ ∃ h nx lv tok l', ρ 3 = .sl 4 (l'.map dNd) tok ∧ m = ⟨h, [], nx, lv⟩ ∧ AB.hget h 8 = some (0, [.sl 1 (n.names.map DV.str) .no, .sl 7 (n.sects.map dSect) .no, .sl 4 (n.links.map dLnk) .no, .sl 2 (n.sigs.map dPair) .no, .sl 2 (n.gates.map dPair) .no]) ∧
            AB.hget h 9 = some (0, [.int .i64 r.fr, .int .i64 r.to, .sl 3 (r.st.map dStp) .no]) ∧ okN nx lv tok ∧
            l'.length + (os.length - j) * 2 ^ k ≤ 50000 ∧ overO (lookF n r.fr r.st lap step k) t (os.drop j) l' = F) (fun j => os.length - j) 0 ?_ ?_
        · simp only [go_sem]
          refine ⟨Nat.zero_le _, _, _, _, tok, l, ⟨rfl, rfl⟩, rfl, by simp [go_sem], by simp [go_sem], hok6, ?_, hF⟩
          have := Nat.mul_le_mul_right (2 ^ k) hle
          rw [Nat.sub_zero]
          omega
        rintro j ρ m ⟨e118, g1, h, nx7, lv7, tok7, l7, e3, rfl, b8, b9, hok7, hl7, g2⟩ Q hN hR hX
        by_cases hlt2 : j < os.length
        · obtain ⟨o, ho⟩ : ∃ o, os[j]? = some o := ⟨_, List.getElem?_eq_getElem hlt2⟩
          have hlt' : ((j : Int) < (os.length : Int)) = True := by simp; omega
          have h0 : ((0 : Int) ≤ (j : Int)) = True := by simp
          have ew : IntKind.i64.wrap ((j : Int) + 1) = (j : Int) + 1 := i64_in (by omega) (by omega)
          have hd : os.drop j = o :: os.drop (j + 1) := by
            rw [List.drop_eq_getElem_cons hlt2]
            rw [List.getElem?_eq_getElem hlt2] at ho
            cases ho; rfl
          rw [hd, overO_cons] at g2
          have hsub : os.length - j = (os.length - (j + 1)) + 1 := by omega
          rw [hsub, Nat.succ_mul] at hl7
          have hlen := lookF_len n r.fr r.st lap step k l7 t o
          simp only [go_sem, e118, e3, hlt', h0, ho, Option.map_some, b8, b9, ewm]
          refine callS (ih l7 t o (seen + 1) tok7 nx7 lv7 (by omega) (by omega) (by omega) hok7.t) rfl ?_
          intro tok8 nx8 lv8 hok8
          simp only [go_sem, hN, ew]
          refine ⟨by kernel_rfl, j + 1, ?_, by simp only; omega⟩
          simp only [go_sem]
          exact ⟨by simp, by omega, _, _, _, tok8, _, ⟨rfl, rfl⟩, rfl, b8, b9, hok8, by omega, g2⟩
        · have hlt' : ((j : Int) < (os.length : Int)) = False := by simp; omega
          rw [List.drop_eq_nil_of_le (by omega), overO_nil] at g2
          subst g2
          simp only [go_sem, e118, e3, hlt', hX]
          exact ⟨rfl, tok7, rfl, hok7⟩
      · have c2a : (c.kind = 1) = False := eq_false (by omega)
        have c2c : (c.kind = 2) = False := eq_false (by omega)
        simp only [go_sem, a2, hm', i1, i2, hc, hc2, Option.map_some, dSect, c2c]
        refine callVt (f121 n t u hb) ?_
        intro nx4 lv4 hn4 hl4
        have hok4 : okN nx4 lv4 tok := hok3.mono hn4 hl4
        simp only [go_sem, c2a]
        refine callVt (f76 c.kind u hkc.1 hkc.2 q3 (by rw [← hkd]; omega)) ?_
        intro nx6 lv6 hn6 hl6
        have hok6 : okN nx6 lv6 tok := hok4.mono hn6 hl6
        have hle := outsF_len c.kind u
        generalize outsF c.kind u = os at hF hle ⊢
        simp only [go_sem, lInts]
        refine AW_loopH [3, 25, 118, 119, 120, 121, 122, 123, 124, 125, 126, 127, 128, 129, 130, 131, 132]
          (fun (j : Nat) ρ m => ρ 118 = .int .i64 (j : Int) ∧ j ≤ os.length ∧ ∃ h nx lv tok l', ρ 3 = .sl 4 (l'.map dNd) tok ∧ m = ⟨h, [], nx, lv⟩ ∧ AB.hget h 8 = some (0, [.sl 1 (n.names.map DV.str) .no, .sl 7 (n.sects.map dSect) .no, .sl 4 (n.links.map dLnk) .no, .sl 2 (n.sigs.map dPair) .no, .sl 2 (n.gates.map dPair) .no]) ∧
            AB.hget h 9 = some (0, [.int .i64 r.fr, .int .i64 r.to, .sl 3 (r.st.map dStp) .no]) ∧ okN nx lv tok ∧
            l'.length + (os.length - j) * 2 ^ k ≤ 50000 ∧ overO (lookF n r.fr r.st lap step k) t (os.drop j) l' = F) (fun j => os.length - j) 0 ?_ ?_
        · simp only [go_sem]
          refine ⟨Nat.zero_le _, _, _, _, tok, l, ⟨rfl, rfl⟩, rfl, by simp [go_sem], by simp [go_sem], hok6, ?_, hF⟩
          have := Nat.mul_le_mul_right (2 ^ k) hle
          rw [Nat.sub_zero]
          omega
        rintro j ρ m ⟨e118, g1, h, nx7, lv7, tok7, l7, e3, rfl, b8, b9, hok7, hl7, g2⟩ Q hN hR hX
        by_cases hlt2 : j < os.length
        · obtain ⟨o, ho⟩ : ∃ o, os[j]? = some o := ⟨_, List.getElem?_eq_getElem hlt2⟩
          have hlt' : ((j : Int) < (os.length : Int)) = True := by simp; omega
          have h0 : ((0 : Int) ≤ (j : Int)) = True := by simp
          have ew : IntKind.i64.wrap ((j : Int) + 1) = (j : Int) + 1 := i64_in (by omega) (by omega)
          have hd : os.drop j = o :: os.drop (j + 1) := by
            rw [List.drop_eq_getElem_cons hlt2]
            rw [List.getElem?_eq_getElem hlt2] at ho
            cases ho; rfl
          rw [hd, overO_cons] at g2
          have hsub : os.length - j = (os.length - (j + 1)) + 1 := by omega
          rw [hsub, Nat.succ_mul] at hl7
          have hlen := lookF_len n r.fr r.st lap step k l7 t o
          simp only [go_sem, e118, e3, hlt', h0, ho, Option.map_some, b8, b9, ewm]
          refine callS (ih l7 t o (seen + 1) tok7 nx7 lv7 (by omega) (by omega) (by omega) hok7.t) rfl ?_
          intro tok8 nx8 lv8 hok8
          simp only [go_sem, hN, ew]
          refine ⟨by kernel_rfl, j + 1, ?_, by simp only; omega⟩
          simp only [go_sem]
          exact ⟨by simp, by omega, _, _, _, tok8, _, ⟨rfl, rfl⟩, rfl, b8, b9, hok8, by omega, g2⟩
        · have hlt' : ((j : Int) < (os.length : Int)) = False := by simp; omega
          rw [List.drop_eq_nil_of_le (by omega), overO_nil] at g2
          subst g2
          simp only [go_sem, e118, e3, hlt', hX]
          exact ⟨rfl, tok7, rfl, hok7⟩
end Go.Proofs.Yteadhjclchjfjaa
