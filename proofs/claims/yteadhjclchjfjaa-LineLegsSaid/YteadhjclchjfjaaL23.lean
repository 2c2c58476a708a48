/- Needs: looking outward of an end; a function that calls itself through a variable. -/
import Derived.Test.YteadhjclchjfjaaL22
namespace Go.Proofs.Yteadhjclchjfjaa
set_option linter.unusedSimpArgs false
set_option linter.unusedVariables false
open Go.AB

/-- What lies in memory for a look: pointer to the looker, step, the function, the looker, what it has seen. -/
def lkCells (n : Net) (r : Rt) (lap : List Stp) (step : Int) (l : List Nd) (tok : Tok) (ks vs : List AV) (la lb lc ld le : AB.Loc) : List (List AV) :=
  [[.ptr ld 0], [.int .i64 step], [.fn 138 [.ptr la 0, .ptr lb 0, .ptr lc 0]], kCells n r lap l tok le, [.mapc ks vs]]
def lkMem (n : Net) (r : Rt) (lap : List Stp) (step : Int) (l : List Nd) (tok : Tok) (ks vs : List AV) : List (List AV) := lkCells n r lap step l tok ks vs (.out 0) (.out 1) (.out 2) (.out 3) (.out 4)
def outK (n : Net) (r : Rt) (lap : List Stp) (step : Int) (g : List Nd) : AH → AV → Prop := fun m x => x = .tup [] ∧ ∃ tok ks vs, m.o = lkMem n r lap step g tok ks vs ∧ okT m tok ∧ SeenN g ks vs

theorem lkCells_rn {f : AB.Loc → Option AB.Loc} {n : Net} {r : Rt} {lap : List Stp} {step : Int} {l : List Nd} {tok : Tok} {ks vs : List AV} {la lb lc ld le ma mb mc md me : AB.Loc} (hs : SeenN l ks vs)
    (ha : f la = some ma) (hb : f lb = some mb) (hc : f lc = some mc) (hd : f ld = some md) (he : f le = some me) : rnLL f (lkCells n r lap step l tok ks vs la lb lc ld le) = some (lkCells n r lap step l tok ks vs ma mb mc md me) := by
  simp only [lkCells, rnLL, kCells_rn he, hs.pk, hs.pv, Bool.and_self, rnCL, rnC, rnCL0, rnC0, port1, ha, hb, hc, hd]

theorem callL {n : Net} {r : Rt} {lap : List Stp} {step many s e : Int} {l g : List Nd} {tok : Tok} {ks vs : List AV} {σ : AS} {dst : Option Nat} {K : AS → Prop} {la lb lc ld le : AB.Loc}
    (h : QCall Try.prog 138 ⟨[], lkMem n r lap step l tok ks vs, σ.m.nx, σ.m.lv⟩ [.agg [.int .i64 s, .int .i64 e], .int .i64 many, .ptr (.out 0) 0, .ptr (.out 1) 0, .ptr (.out 2) 0] (outK n r lap step g))
    (hok : IdxOk [la, lb, lc, ld, le]) (ha : σ.m.cells la = some [.ptr ld 0]) (hb : σ.m.cells lb = some [.int .i64 step]) (hc : σ.m.cells lc = some [.fn 138 [.ptr la 0, .ptr lb 0, .ptr lc 0]])
    (hd : σ.m.cells ld = some (kCells n r lap l tok le)) (he : σ.m.cells le = some [.mapc ks vs]) (hs : SeenN l ks vs)
    (hK : ∀ tok' ks' vs' nx2 lv2, okT ⟨[], [], nx2, lv2⟩ tok' → SeenN g ks' vs' →
      K (AS.put ⟨σ.s, ⟨(σ.m.setAll [la, lb, lc, ld, le] (lkCells n r lap step g tok' ks' vs' la lb lc ld le)).h, (σ.m.setAll [la, lb, lc, ld, le] (lkCells n r lap step g tok' ks' vs' la lb lc ld le)).o, nx2, lv2⟩⟩ dst (.tup []))) :
    effX Try.prog 138 [.agg [.int .i64 s, .int .i64 e], .int .i64 many, .ptr la 0, .ptr lb 0, .ptr lc 0] σ dst K := by
  have oa : outF [la, lb, lc, ld, le] la = some (.out 0) := by simp only [outF, hok 0 la rfl]
  have ob : outF [la, lb, lc, ld, le] lb = some (.out 1) := by simp only [outF, hok 1 lb rfl]
  have oc : outF [la, lb, lc, ld, le] lc = some (.out 2) := by simp only [outF, hok 2 lc rfl]
  have od : outF [la, lb, lc, ld, le] ld = some (.out 3) := by simp only [outF, hok 3 ld rfl]
  have oe : outF [la, lb, lc, ld, le] le = some (.out 4) := by simp only [outF, hok 4 le rfl]
  refine effH [la, lb, lc, ld, le] (css := lkCells n r lap step l tok ks vs la lb lc ld le) ?_ ?_ ?_ hok h ?_
  · simp only [rnAL, rnA, rnCL, rnC, port1, oa, ob, oc]
  · simp only [cellsL, ha, hb, hc, hd, he, lkCells]
  · exact lkCells_rn hs oa ob oc od oe
  · rintro m' x ⟨rfl, tok', ks', vs', ho, hok', hs'⟩
    refine ⟨lkCells n r lap step g tok' ks' vs' la lb lc ld le, .tup [], ?_, rfl, rfl, ?_⟩
    · rw [ho]
      exact lkCells_rn hs' rfl rfl rfl rfl rfl
    · exact hK tok' ks' vs' _ _ (okT_mono hok' fun _ x => x) hs'

theorem idx5 : IdxOk [.out 0, .out 1, .out 2, .out 3, .out 4] := by
  intro i x hx
  match i, hx with
  | 0, hx => cases hx; rfl
  | 1, hx => cases hx; rfl
  | 2, hx => cases hx; rfl
  | 3, hx => cases hx; rfl
  | 4, hx => cases hx; rfl
  | n + 5, hx => simp at hx

set_option maxHeartbeats 1000000 in
theorem f139 (n : Net) (r : Rt) (lap : List Stp) (l : List Nd) (t e : Int) (tok : Tok) (ks vs : List AV) (nx : Nat) (lv : Nat → Prop) (hl : l.length ≤ 50000) (hs : SeenN l ks vs) (hok : okT ⟨[], [kCells n r lap l tok (.out 1), [.mapc ks vs]], nx, lv⟩ tok) :
    QCall Try.prog 139 ⟨[], [kCells n r lap l tok (.out 1), [.mapc ks vs]], nx, lv⟩ [.ptr (.out 0) 0, .int .i64 t, .int .i64 e] (outN n r lap l (.bool (flankP l t e))) := by
  refine QCall.of_body Try.func139 rfl Try.ntmps139 (congrArg Array.toList Try.results139) ?_
  intro E
  simp only [go_sem, kCells, nCells, List.cons_append, List.nil_append]
  refine .inl (quiet (f113 l t e (by omega)) rfl ?_)
  simp only [go_sem]
  exact ⟨rfl, tok, ks, vs, rfl, okT_mono hok fun _ x => x, hs⟩

set_option maxHeartbeats 4000000 in
set_option maxRecDepth 20000 in
theorem f138 (n : Net) (hb : NetB n) (he : netE n = 0) (r : Rt) (hr : r.st.length ≤ 1000) (lap : List Stp) (hlap : lap.length ≤ 1000) (step : Int) : ∀ (k : Nat) (l : List Nd) (s e many : Int) (tok : Tok) (ks vs : List AV) (nx : Nat) (lv : Nat → Prop), many = 8 - (k : Int) → k ≤ 8 → l.length + 2 ^ k ≤ 50000 → SeenN l ks vs → okT ⟨[], lkMem n r lap step l tok ks vs, nx, lv⟩ tok →
    QCall Try.prog 138 ⟨[], lkMem n r lap step l tok ks vs, nx, lv⟩ [.agg [.int .i64 s, .int .i64 e], .int .i64 many, .ptr (.out 0) 0, .ptr (.out 1) 0, .ptr (.out 2) 0] (outK n r lap step (lookF n r.fr r.st lap step k l s e)) := by
  intro k
  induction k with
  | zero =>
    intro l s e many tok ks vs nx lv hm hk hl hs hok
    have hm' : (many = 8) = True := eq_true (by omega)
    refine QCall.of_body Try.func138 rfl Try.ntmps138 (congrArg Array.toList Try.results138) ?_
    intro E
    simp only [go_sem, lkMem, lkCells, kCells, nCells, List.cons_append, List.nil_append]
    refine drawnP [2, 2, 2, 2, 2, 2, 2, 2, 2, 3, 1, 1] [(9, [2, 2, 2, 2, 2, 2, 2, 2, 2, 0, 3, 1]), (10, [0, 0, 0, 0, 0, 0, 0, 0, 2, 0, 0, 2])] 122 (by kernel_rfl) (by kernel_rfl) (by kernel_rfl) (by kernel_rfl) rfl ?_
    simp only [go_sem]
    refine quietD (f59 n s e hb) (fun _ => rfl) ?_
    simp only [go_sem]
    intro nx1 lv1 hn1 hl1
    refine quietD (f59 n s e hb) (fun _ => rfl) ?_
    simp only [go_sem]
    intro nx2 lv2 hn2 hl2 nx3 lv3 hn3 hl3
    refine drawn (by kernel_rfl) (by kernel_rfl) ?_
    simp only [go_sem, hm']
    have done : ∀ (h : List (Nat × Nat × List AV)) (nx : Nat) (lv4 : Nat → Prop), (∀ j, lv3 j → lv4 j) → outK n r lap step (lookF n r.fr r.st lap step 0 l s e) ⟨h, lkMem n r lap step l tok ks vs, nx, lv4⟩ (.tup []) := fun h nx lv4 hl4 =>
      ⟨rfl, tok, ks, vs, rfl, okT_mono hok fun j z => hl4 j (hl3 j (hl2 j (hl1 j z))), hs⟩
    cases hj : (joinL n.links s e).isSome with
    | false =>
      simp only [go_sem, kDraw_eq]
      intro nx4 lv4 hn4 hl4
      exact done _ _ _ hl4
    | true =>
      simp only [go_sem, kDraw_eq]
      intro nx4 lv4 hn4 hl4
      exact done _ _ _ hl4
  | succ k ih =>
    intro l s e many tok ks vs nx lv hm hk hl hs hok
    have hm' : (many = 8) = False := eq_false (by omega)
    have hll : l.length ≤ 50000 := Nat.le_trans (Nat.le_add_right _ _) hl
    rw [Nat.pow_succ] at hl
    have ewm : IntKind.i64.wrap (many + 1) = many + 1 := i64_in (by omega) (by omega)
    refine QCall.of_body Try.func138 rfl Try.ntmps138 (congrArg Array.toList Try.results138) ?_
    intro E
    generalize hF : lookF n r.fr r.st lap step (k + 1) l s e = F
    unfold lookF lookG at hF
    simp only [go_sem, lkMem, lkCells, kCells, nCells, List.cons_append, List.nil_append]
    refine drawnP [2, 2, 2, 2, 2, 2, 2, 2, 2, 3, 1, 1] [(9, [2, 2, 2, 2, 2, 2, 2, 2, 2, 0, 3, 1]), (10, [0, 0, 0, 0, 0, 0, 0, 0, 2, 0, 0, 2])] 122 (by kernel_rfl) (by kernel_rfl) (by kernel_rfl) (by kernel_rfl) rfl ?_
    simp only [go_sem]
    refine quietD (f59 n s e hb) (fun _ => rfl) ?_
    simp only [go_sem]
    intro nx1 lv1 hn1 hl1
    refine quietD (f59 n s e hb) (fun _ => rfl) ?_
    simp only [go_sem]
    intro nx2 lv2 hn2 hl2 nx3 lv3 hn3 hl3
    refine drawn (by kernel_rfl) (by kernel_rfl) ?_
    cases hj : joinL n.links s e with
    | none =>
      rw [hj] at hF
      simp only at hF
      subst hF
      simp only [go_sem, Option.isSome_none, kDraw_eq]
      intro nx4 lv4 hn4 hl4
      exact ⟨rfl, tok, ks, vs, rfl, okT_mono hok fun j z => hl4 j (hl3 j (hl2 j (hl1 j z))), hs⟩
    | some q =>
      obtain ⟨t, u⟩ := q
      rw [hj] at hF
      simp only at hF
      simp only [go_sem, hm', Option.isSome_some, joinS, joinE]
      refine quietD (f123 r.st t (by omega)) (fun _ => rfl) ?_
      by_cases a1 : psec r.st t = true
      · rw [if_pos (.inl a1)] at hF
        subst hF
        simp only [go_sem, a1, kDraw_eq]
        intro nx4 lv4 hn4 hl4
        exact ⟨rfl, tok, ks, vs, rfl, okT_mono hok fun j z => hl4 j (hl3 j (hl2 j (hl1 j z))), hs⟩
      have a1 : psec r.st t = false := by simpa using a1
      simp only [go_sem, a1]
      refine quietD (f123 lap t (by omega)) (fun _ => rfl) ?_
      by_cases a2 : psec lap t = true
      · rw [if_pos (.inr a2)] at hF
        subst hF
        simp only [go_sem, a2, kDraw_eq]
        intro nx4 lv4 hn4 hl4
        exact ⟨rfl, tok, ks, vs, rfl, okT_mono hok fun j z => hl4 j (hl3 j (hl2 j (hl1 j z))), hs⟩
      have a2 : psec lap t = false := by simpa using a2
      rw [if_neg (by simp [a1, a2])] at hF
      simp only [go_sem, a2, kDraw_eq]
      intro nx4 lv4 hn4 hl4
      have hfl := joinL_has he hj
      obtain ⟨⟨q1, q2⟩, q3, q4⟩ := hasF_iff.1 hfl
      have hltt : t.toNat < n.sects.length := by omega
      obtain ⟨c, hc⟩ : ∃ c, n.sects[t.toNat]? = some c := ⟨_, List.getElem?_eq_getElem hltt⟩
      have hc2 : (n.sects.map dSect)[t.toNat]? = some (dSect c) := by rw [List.getElem?_map, hc]; rfl
      have hkd : kindAt n t = c.kind := by simp [kindAt, hc]
      have hkc := netE_kinds he c (List.mem_of_getElem? hc)
      have i1 : ((0 : Int) ≤ t) = True := eq_true q1
      have i2 : (t < (n.sects.length : Int)) = True := eq_true (by omega)
      have hu3 : u ≤ 3 := by have := endsF_bd (kindAt n t); omega
      rw [hkd] at hF
      refine drawn (by kernel_rfl) (by kernel_rfl) ?_
      by_cases b1 : c.kind = 2 ∧ 0 < u
      · rw [if_pos b1] at hF
        have b1a : (c.kind = 2) = True := eq_true b1.1
        have b1b : (0 < u) = True := eq_true b1.2
        have ew : IntKind.i64.wrap (3 - u) = 3 - u := i64_in (by omega) (by omega)
        simp only [go_sem, i1, i2, hc, hc2, Option.map_some, dSect, b1a, b1b, kDraw_eq]
        intro nx5 lv5 hn5 hl5
        have hok5 : okT ⟨[], [], nx5, lv5⟩ tok := okT_mono hok fun j z => hl5 j (hl4 j (hl3 j (hl2 j (hl1 j z))))
        refine .inr (callN (f139 n r lap l t u tok ks vs nx5 lv5 hll hs (okT_mono hok5 fun _ z => z)) (fun _ => rfl) (fun _ => rfl) (l1 := .out 3) (l2 := .out 4) (by decide) rfl rfl hs ?_)
        intro tok6 ks6 vs6 nx6 lv6 hok6 hs6
        by_cases b2 : flankP l t u = true
        · rw [if_pos b2] at hF
          subst hF
          simp only [go_sem, b2, kCells, nCells, List.cons_append, List.nil_append]
          exact ⟨rfl, tok6, ks6, vs6, rfl, okT_mono hok6 fun _ z => z, hs6⟩
        · rw [if_neg b2] at hF
          have b2 : flankP l t u = false := by simpa using b2
          simp only [go_sem, b2, kCells, nCells, List.cons_append, List.nil_append, ew]
          refine .inr (callN (f117 n r lap l ⟨3, t, 3 - u, step⟩ tok6 ks6 vs6 nx6 lv6 hll hs6 (okT_mono hok6 fun _ z => z)) (fun _ => rfl) (fun _ => rfl) (l1 := .out 3) (l2 := .out 4) (by decide) rfl rfl hs6 ?_)
          intro tok7 ks7 vs7 nx7 lv7 hok7 hs7
          simp only [go_sem, kCells, nCells, List.cons_append, List.nil_append]
          subst hF
          exact ⟨rfl, tok7, ks7, vs7, rfl, okT_mono hok7 fun _ z => z, hs7⟩
      rw [if_neg b1] at hF
      have c2b : c.kind = 1 → (c.kind = 2) = False := fun z => eq_false (by omega)
      by_cases c1 : c.kind = 1 ∧ 0 ≤ sigIdx n.sigs t u 0
      · rw [if_pos c1] at hF
        have c1a : (c.kind = 1) = True := eq_true c1.1
        have c1c : (0 ≤ sigIdx n.sigs t u 0) = True := eq_true c1.2
        simp only [go_sem, i1, i2, hc, hc2, Option.map_some, dSect, c1a, c2b c1.1, kDraw_eq]
        intro nx5 lv5 hn5 hl5
        refine drawn (by kernel_rfl) (by kernel_rfl) ?_
        simp only [go_sem]
        refine quietD (f61 n t u hb) (fun _ => rfl) ?_
        simp only [go_sem, c1c, kDraw_eq]
        intro nx6 lv6 hn6 hl6
        have hok6 : okT ⟨[], [], nx6, lv6⟩ tok := okT_mono hok fun j z => hl6 j (hl5 j (hl4 j (hl3 j (hl2 j (hl1 j z)))))
        by_cases c3 : sigIdx n.sigs t u 0 = r.fr
        · rw [if_pos c3] at hF
          have c3a : (sigIdx n.sigs t u 0 = r.fr) = True := eq_true c3
          subst hF
          simp only [go_sem, c3a]
          exact ⟨rfl, tok, ks, vs, rfl, okT_mono hok6 fun _ z => z, hs⟩
        · rw [if_neg c3] at hF
          have c3a : (sigIdx n.sigs t u 0 = r.fr) = False := eq_false c3
          simp only [go_sem, c3a]
          refine .inr (callN (f117 n r lap l ⟨4, sigIdx n.sigs t u 0, 0, step⟩ tok ks vs nx6 lv6 hll hs (okT_mono hok6 fun _ z => z)) (fun _ => rfl) (fun _ => rfl) (l1 := .out 3) (l2 := .out 4) (by decide) rfl rfl hs ?_)
          intro tok7 ks7 vs7 nx7 lv7 hok7 hs7
          simp only [go_sem, kCells, nCells, List.cons_append, List.nil_append]
          subst hF
          exact ⟨rfl, tok7, ks7, vs7, rfl, okT_mono hok7 fun _ z => z, hs7⟩
      rw [if_neg c1] at hF
      have hcs : (c.kind = 2 ∧ ¬ 0 < u) ∨ (c.kind = 1 ∧ ¬ 0 ≤ sigIdx n.sigs t u 0) ∨ c.kind = 3 := by omega
      rcases hcs with ⟨c2, c3⟩ | ⟨c2, c3⟩ | c2
      · have c2a : (c.kind = 2) = True := eq_true c2
        have c2c : (c.kind = 1) = False := eq_false (by omega)
        have c2d : (0 < u) = False := eq_false c3
        simp only [go_sem, i1, i2, hc, hc2, Option.map_some, dSect, c2a, c2c, c2d, kDraw_eq]
        intro nx5 lv5 hn5 hl5
        have hok5 : okT ⟨[], [], nx5, lv5⟩ tok := okT_mono hok fun j z => hl5 j (hl4 j (hl3 j (hl2 j (hl1 j z))))
        refine callVt (f60 c.kind u) ?_
        intro nx6 lv6 hn6 hl6
        have hle := outsF_len c.kind u
        generalize outsF c.kind u = os at hF hle ⊢
        simp only [go_sem, lInts]
        refine AW_loopH [12, 109, 110, 111, 112, 113, 114, 115, 116, 117, 118, 119, 120, 121]
          (fun (j : Nat) ρ m => ρ 109 = .int .i64 (j : Int) ∧ j ≤ os.length ∧ ∃ h nx lv tok ks vs l', m = ⟨h, lkMem n r lap step l' tok ks vs, nx, lv⟩ ∧ AB.hget h 7 = some (0, [.int .i64 t, .int .i64 u]) ∧ okT m tok ∧ SeenN l' ks vs ∧
            l'.length + (os.length - j) * 2 ^ k ≤ 50000 ∧ overO (lookF n r.fr r.st lap step k) t (os.drop j) l' = F) (fun j => os.length - j) 0 ?_ ?_
        · simp only [go_sem]
          refine ⟨Nat.zero_le _, _, _, _, tok, ks, vs, l, rfl, by simp [go_sem], okT_mono hok5 fun j z => hl6 j z, hs, ?_, hF⟩
          have := Nat.mul_le_mul_right (2 ^ k) hle
          rw [Nat.sub_zero]
          omega
        rintro j ρ m ⟨e109, g1, h, nx7, lv7, tok7, ks7, vs7, l7, rfl, b7, hok7, hs7, hl7, g2⟩ Q hN hR hX
        by_cases hlt : j < os.length
        · obtain ⟨o, ho⟩ : ∃ o, os[j]? = some o := ⟨_, List.getElem?_eq_getElem hlt⟩
          have hlt' : ((j : Int) < (os.length : Int)) = True := by simp; omega
          have h0 : ((0 : Int) ≤ (j : Int)) = True := by simp
          have ew : IntKind.i64.wrap ((j : Int) + 1) = (j : Int) + 1 := i64_in (by omega) (by omega)
          have hd : os.drop j = o :: os.drop (j + 1) := by
            rw [List.drop_eq_getElem_cons hlt]
            rw [List.getElem?_eq_getElem hlt] at ho
            cases ho; rfl
          rw [hd, overO_cons] at g2
          have hsub : os.length - j = (os.length - (j + 1)) + 1 := by omega
          rw [hsub, Nat.succ_mul] at hl7
          have hlen := lookF_len n r.fr r.st lap step k l7 t o
          simp only [go_sem, e109, hlt', h0, ho, Option.map_some, b7, ewm, lkMem, lkCells]
          refine .inr (callL (ih l7 t o (many + 1) tok7 ks7 vs7 nx7 lv7 (by omega) (by omega) (by omega) hs7 (okT_mono hok7 fun _ z => z)) idx5 rfl rfl rfl rfl rfl hs7 ?_)
          intro tok8 ks8 vs8 nx8 lv8 hok8 hs8
          simp only [go_sem, AH.setAll, lkCells, hN, ew]
          refine ⟨by kernel_rfl, j + 1, ?_, by simp only; omega⟩
          simp only [go_sem]
          exact ⟨by simp, by omega, _, _, _, tok8, ks8, vs8, _, rfl, b7, okT_mono hok8 fun _ z => z, hs8, by omega, g2⟩
        · have hlt' : ((j : Int) < (os.length : Int)) = False := by simp; omega
          rw [List.drop_eq_nil_of_le (by omega), overO_nil] at g2
          subst g2
          simp only [go_sem, e109, hlt', hX]
          exact ⟨rfl, tok7, ks7, vs7, rfl, okT_mono hok7 fun _ z => z, hs7⟩
      · have c2a : (c.kind = 1) = True := eq_true c2
        have c2d : (0 ≤ sigIdx n.sigs t u 0) = False := eq_false c3
        simp only [go_sem, i1, i2, hc, hc2, Option.map_some, dSect, c2a, c2b c2, kDraw_eq]
        intro nxa lva hna hla
        refine drawn (by kernel_rfl) (by kernel_rfl) ?_
        simp only [go_sem]
        refine quietD (f61 n t u hb) (fun _ => rfl) ?_
        simp only [go_sem, c2d, kDraw_eq]
        intro nx5 lv5 hn5 hl5
        have hok5 : okT ⟨[], [], nx5, lv5⟩ tok := okT_mono hok fun j z => hl5 j (hla j (hl4 j (hl3 j (hl2 j (hl1 j z)))))
        refine callVt (f60 c.kind u) ?_
        intro nx6 lv6 hn6 hl6
        have hle := outsF_len c.kind u
        generalize outsF c.kind u = os at hF hle ⊢
        simp only [go_sem, lInts]
        refine AW_loopH [12, 109, 110, 111, 112, 113, 114, 115, 116, 117, 118, 119, 120, 121]
          (fun (j : Nat) ρ m => ρ 109 = .int .i64 (j : Int) ∧ j ≤ os.length ∧ ∃ h nx lv tok ks vs l', m = ⟨h, lkMem n r lap step l' tok ks vs, nx, lv⟩ ∧ AB.hget h 7 = some (0, [.int .i64 t, .int .i64 u]) ∧ okT m tok ∧ SeenN l' ks vs ∧
            l'.length + (os.length - j) * 2 ^ k ≤ 50000 ∧ overO (lookF n r.fr r.st lap step k) t (os.drop j) l' = F) (fun j => os.length - j) 0 ?_ ?_
        · simp only [go_sem]
          refine ⟨Nat.zero_le _, _, _, _, tok, ks, vs, l, rfl, by simp [go_sem], okT_mono hok5 fun j z => hl6 j z, hs, ?_, hF⟩
          have := Nat.mul_le_mul_right (2 ^ k) hle
          rw [Nat.sub_zero]
          omega
        rintro j ρ m ⟨e109, g1, h, nx7, lv7, tok7, ks7, vs7, l7, rfl, b7, hok7, hs7, hl7, g2⟩ Q hN hR hX
        by_cases hlt : j < os.length
        · obtain ⟨o, ho⟩ : ∃ o, os[j]? = some o := ⟨_, List.getElem?_eq_getElem hlt⟩
          have hlt' : ((j : Int) < (os.length : Int)) = True := by simp; omega
          have h0 : ((0 : Int) ≤ (j : Int)) = True := by simp
          have ew : IntKind.i64.wrap ((j : Int) + 1) = (j : Int) + 1 := i64_in (by omega) (by omega)
          have hd : os.drop j = o :: os.drop (j + 1) := by
            rw [List.drop_eq_getElem_cons hlt]
            rw [List.getElem?_eq_getElem hlt] at ho
            cases ho; rfl
          rw [hd, overO_cons] at g2
          have hsub : os.length - j = (os.length - (j + 1)) + 1 := by omega
          rw [hsub, Nat.succ_mul] at hl7
          have hlen := lookF_len n r.fr r.st lap step k l7 t o
          simp only [go_sem, e109, hlt', h0, ho, Option.map_some, b7, ewm, lkMem, lkCells]
          refine .inr (callL (ih l7 t o (many + 1) tok7 ks7 vs7 nx7 lv7 (by omega) (by omega) (by omega) hs7 (okT_mono hok7 fun _ z => z)) idx5 rfl rfl rfl rfl rfl hs7 ?_)
          intro tok8 ks8 vs8 nx8 lv8 hok8 hs8
          simp only [go_sem, AH.setAll, lkCells, hN, ew]
          refine ⟨by kernel_rfl, j + 1, ?_, by simp only; omega⟩
          simp only [go_sem]
          exact ⟨by simp, by omega, _, _, _, tok8, ks8, vs8, _, rfl, b7, okT_mono hok8 fun _ z => z, hs8, by omega, g2⟩
        · have hlt' : ((j : Int) < (os.length : Int)) = False := by simp; omega
          rw [List.drop_eq_nil_of_le (by omega), overO_nil] at g2
          subst g2
          simp only [go_sem, e109, hlt', hX]
          exact ⟨rfl, tok7, ks7, vs7, rfl, okT_mono hok7 fun _ z => z, hs7⟩
      · have c2a : (c.kind = 1) = False := eq_false (by omega)
        have c2c : (c.kind = 2) = False := eq_false (by omega)
        simp only [go_sem, i1, i2, hc, hc2, Option.map_some, dSect, c2a, c2c, kDraw_eq]
        intro nx5 lv5 hn5 hl5
        have hok5 : okT ⟨[], [], nx5, lv5⟩ tok := okT_mono hok fun j z => hl5 j (hl4 j (hl3 j (hl2 j (hl1 j z))))
        refine callVt (f60 c.kind u) ?_
        intro nx6 lv6 hn6 hl6
        have hle := outsF_len c.kind u
        generalize outsF c.kind u = os at hF hle ⊢
        simp only [go_sem, lInts]
        refine AW_loopH [12, 109, 110, 111, 112, 113, 114, 115, 116, 117, 118, 119, 120, 121]
          (fun (j : Nat) ρ m => ρ 109 = .int .i64 (j : Int) ∧ j ≤ os.length ∧ ∃ h nx lv tok ks vs l', m = ⟨h, lkMem n r lap step l' tok ks vs, nx, lv⟩ ∧ AB.hget h 7 = some (0, [.int .i64 t, .int .i64 u]) ∧ okT m tok ∧ SeenN l' ks vs ∧
            l'.length + (os.length - j) * 2 ^ k ≤ 50000 ∧ overO (lookF n r.fr r.st lap step k) t (os.drop j) l' = F) (fun j => os.length - j) 0 ?_ ?_
        · simp only [go_sem]
          refine ⟨Nat.zero_le _, _, _, _, tok, ks, vs, l, rfl, by simp [go_sem], okT_mono hok5 fun j z => hl6 j z, hs, ?_, hF⟩
          have := Nat.mul_le_mul_right (2 ^ k) hle
          rw [Nat.sub_zero]
          omega
        rintro j ρ m ⟨e109, g1, h, nx7, lv7, tok7, ks7, vs7, l7, rfl, b7, hok7, hs7, hl7, g2⟩ Q hN hR hX
        by_cases hlt : j < os.length
        · obtain ⟨o, ho⟩ : ∃ o, os[j]? = some o := ⟨_, List.getElem?_eq_getElem hlt⟩
          have hlt' : ((j : Int) < (os.length : Int)) = True := by simp; omega
          have h0 : ((0 : Int) ≤ (j : Int)) = True := by simp
          have ew : IntKind.i64.wrap ((j : Int) + 1) = (j : Int) + 1 := i64_in (by omega) (by omega)
          have hd : os.drop j = o :: os.drop (j + 1) := by
            rw [List.drop_eq_getElem_cons hlt]
            rw [List.getElem?_eq_getElem hlt] at ho
            cases ho; rfl
          rw [hd, overO_cons] at g2
          have hsub : os.length - j = (os.length - (j + 1)) + 1 := by omega
          rw [hsub, Nat.succ_mul] at hl7
          have hlen := lookF_len n r.fr r.st lap step k l7 t o
          simp only [go_sem, e109, hlt', h0, ho, Option.map_some, b7, ewm, lkMem, lkCells]
          refine .inr (callL (ih l7 t o (many + 1) tok7 ks7 vs7 nx7 lv7 (by omega) (by omega) (by omega) hs7 (okT_mono hok7 fun _ z => z)) idx5 rfl rfl rfl rfl rfl hs7 ?_)
          intro tok8 ks8 vs8 nx8 lv8 hok8 hs8
          simp only [go_sem, AH.setAll, lkCells, hN, ew]
          refine ⟨by kernel_rfl, j + 1, ?_, by simp only; omega⟩
          simp only [go_sem]
          exact ⟨by simp, by omega, _, _, _, tok8, ks8, vs8, _, rfl, b7, okT_mono hok8 fun _ z => z, hs8, by omega, g2⟩
        · have hlt' : ((j : Int) < (os.length : Int)) = False := by simp; omega
          rw [List.drop_eq_nil_of_le (by omega), overO_nil] at g2
          subst g2
          simp only [go_sem, e109, hlt', hX]
          exact ⟨rfl, tok7, ks7, vs7, rfl, okT_mono hok7 fun _ z => z, hs7⟩
end Go.Proofs.Yteadhjclchjfjaa
