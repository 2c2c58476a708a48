/- RunLegs: Leg is as specified; the law. -/
import Derived.Test.YteadhjclchjfjaaGreatRG5
import Derived.Test.YteadhjclchjfjaaGreatL280
namespace Go.Proofs.YteadhjclchjfjaaGreat
set_option linter.unusedSimpArgs false
set_option linter.unusedVariables false
open Go.AB

theorem openStock {x : DV} (h : ElD Tryz.prog 30 x) : ∃ s : Stock, x = dStock s ∧ s.name.length ≤ 140737488351232 := by
  obtain ⟨cs, rfl, k⟩ := h.agg_inv Tryz.underlying30 rfl
  clear h
  obtain ⟨c, r, rfl, h0, h⟩ := k.cons_inv
  clear k
  obtain ⟨nm, rfl, hnm⟩ := h0.str_inv Tryz.underlying9
  obtain ⟨ns, h1, rfl, h2⟩ := TyDs.ints (f := leafI Tryz.prog 4) (fun t n cs h hc => TyD.ints 4 t n cs h hc) _ 9 _ (by kernel_rfl) h
  match ns, h1 with
  | [a, b, c, d, e, f, g, i, j], _ => exact ⟨⟨nm, a, b, c, d, e, f, g, i, j⟩, rfl, hnm⟩

set_option maxHeartbeats 4000000 in
set_option maxRecDepth 20000 in
theorem f12 (a : List (List Nd)) (ha : a.length ≤ 20) (hb : ∀ x ∈ a, x.length ≤ 100000) : PCall Tryz.prog 12 [.sl 1 (a.map dNds) .no, .sl 1 (a.map dNds) .no] (RV (.bool true)) := by
  refine PCall.of_body Tryz.func12 rfl Tryz.ntmps12 (congrArg Array.toList Tryz.results12) ?_
  intro E
  simp only [go_sem]
  refine AW_loopH [4, 5, 13, 14, 15, 16, 17, 18, 19, 20, 21, 22, 23, 24, 25, 26]
    (fun (i : Nat) ρ m => ρ 13 = .int .i64 (i : Int) ∧ i ≤ a.length ∧ ∃ h nx lv, m = ⟨h, [], nx, lv⟩) (fun i => a.length - i) 0 ?_ ?_
  · simp only [go_sem]
    exact ⟨Nat.zero_le _, _, _, _, rfl⟩
  rintro i ρ m ⟨e13, g1, h, nx, lv, rfl⟩ Q hN hR hX
  by_cases hlt : i < a.length
  · obtain ⟨x, hx⟩ : ∃ x, a[i]? = some x := ⟨_, List.getElem?_eq_getElem hlt⟩
    have hxp : (a.map dNds)[i]? = some (dNds x) := by rw [List.getElem?_map, hx]; rfl
    have hlt' : ((i : Int) < (a.length : Int)) = True := by simp; omega
    have h0 : ((0 : Int) ≤ (i : Int)) = True := by simp
    have ew : IntKind.i64.wrap ((i : Int) + 1) = (i : Int) + 1 := i64_in (by omega) (by omega)
    have hxl := hb x (List.mem_of_getElem? hx)
    simp only [go_sem, e13, hlt']
    refine drawn (by kernel_rfl) (by kernel_rfl) ?_
    simp only [go_sem, h0, hlt', hx, hxp, Option.map_some, dNds]
    refine quietD (f37 x (by omega)) (fun _ => rfl) ?_
    simp only [go_sem, hN, ew, kDraw_eq]
    try intro _ _ _ _
    refine ⟨by kernel_rfl, i + 1, ?_, by simp only; omega⟩
    simp only [go_sem]
    exact ⟨by simp, by omega, _, _, _, rfl⟩
  · have hlt' : ((i : Int) < (a.length : Int)) = False := by simp; omega
    simp only [go_sem, e13, hlt', hX]

theorem f11r (l : List Int) (hl : l.length ≤ 140737488351232) : PCall Tryz.prog 11 [.sl 1 (l.map fun x => DV.int .i64 x) .no, .sl 1 (l.map fun x => DV.int .i64 x) .no] (RV (.bool true)) := by
  have h := f11g l l hl hl
  simpa using h

/-- What the lists of a leg's run are bounded by. -/
structure LegB (r : Leg) : Prop where
  p : r.path.length ≤ 1000
  e : r.ends.length ≤ 1000
  b : r.bounds.length ≤ 1000
  n : r.needs.length ≤ 20
  nn : ∀ x ∈ r.needs, x.length ≤ 100000
  a : r.asks.length ≤ 1000
  s : r.sts.length ≤ 100000
theorem leg0_b : LegB leg0 := ⟨by simp [leg0], by simp [leg0], by simp [leg0], by simp [leg0], by simp [leg0], by simp [leg0], by simp [leg0]⟩
theorem legR_b {n : Net} {L : List Rt} (hok : ∀ r ∈ L, RtOk n r) {s : Stock} {tr : Int} {leg : List Int} {turned : Bool} (h : LegOk n L tr leg) : LegB (legR n L s tr leg turned) := by
  have l4 := h.l4
  have hfl := legs_len hok leg h.ok
  have hpl : (legPath n L tr leg).length ≤ 1000 := by simp only [legPath, List.length_cons]; omega
  refine ⟨hpl, ?_, ?_, ?_, ?_, ?_, ?_⟩
  · simp only [legR, endsW, wayP, List.length_map, List.length_range]; omega
  · simp only [legR, bndL, List.length_map, List.length_range]; omega
  · simp only [legR, List.length_map]; omega
  · intro x hx
    simp only [legR, List.mem_map] at hx
    obtain ⟨k, hk, rfl⟩ := hx
    have := needsR_len n (rtAt L k) (hok _ (List.mem_of_getElem? (okR_at (h.ok k hk)).2.2)).l1
    omega
  · simp only [legR, asksB, List.length_map, List.length_range]; omega
  · have := goL_small s (wayP n (legPath n L tr leg)) (total (wayP n (legPath n L tr leg))) s.top (fromV s (wayP n (legPath n L tr leg)) turned)
    simp only [legR]
    omega

set_option maxHeartbeats 8000000 in
set_option maxRecDepth 20000 in
theorem f3 (n : Net) (hb : NetB n) (s : Stock) (hs : s.name.length ≤ 140737488351232) (tr : Int) (leg : List Int) (hlb : leg.length ≤ 140737488351232) (turned : Bool) :
    PCall Tryz.prog 3 [eNet n, eStock s, .int .i64 tr, .sl 1 (leg.map fun x => DV.int .i64 x) .no, .bool turned] (RV (.bool true)) := by
  refine PCall.of_body Tryz.func3 rfl Tryz.ntmps3 (congrArg Array.toList Tryz.results3) ?_
  intro E
  have h5 := f5 n hb s hs tr leg hlb turned
  have h6 := f6 n hb
  have h7 := f7 s hs
  have h8 := fun he => f8 n hb he
  have h9 := fun he e2 => f9 n hb he (netRts n) (netRts_len n) (netRts_ok n) (netRts_way n) s e2 tr leg hlb turned
  obtain ⟨o1, o2⟩ := both_one n
  have h8' : netE n = 0 → PCall Tryz.prog 8 [eNet n] (RV (rtV (netRts n) (netRE n))) := fun he => by
    have h := h8 he
    have a1 : netRts n = outL (routesG n) := by unfold netRts; rw [o1]; unfold netL; rw [if_pos he]
    have a2 : netRE n = outE (routesG n) := by unfold netRE; rw [o2]; unfold netR; rw [if_pos he]
    rw [a1, a2]
    exact h
  have hbd : LegB (if legErr n s tr leg turned = 0 then legR n (netRts n) s tr leg turned else leg0) := by
    split
    · rename_i h
      refine legR_b (netRts_ok n) ?_
      unfold legErr at h
      refine legV_ok ?_
      cases Decidable.em (legV n (netRts n) tr leg = 0) with
      | inl e => exact e
      | inr e => 
        exfalso
        revert h
        repeat' split
        all_goals first | omega | (intro h; first | exact absurd h ‹_› | (rename_i q; exact absurd h q) | skip)
    · exact leg0_b
  clear h8
  generalize hF : legErr n s tr leg turned = F at *
  unfold legErr at hF
  unfold eNet nCells at h5 h6 h8' h9
  unfold eStock at h5 h7 h9
  unfold rtV at h8'
  simp only [go_sem, eNet, nCells, eStock]
  refine callV h5 ?_
  intro nx lv
  generalize hX : (if F = 0 then legR n (netRts n) s tr leg turned else leg0) = X at *
  have g10 : PCall Tryz.prog 10 [.sl 3 [] .no, .sl 3 [] .no] (RV (.bool true)) := f10 [] (by simp)
  have g11 : PCall Tryz.prog 11 [.sl 1 [] .no, .sl 1 [] .no] (RV (.bool true)) := f11r [] (by simp)
  have g12 : PCall Tryz.prog 12 [.sl 1 [] .no, .sl 1 [] .no] (RV (.bool true)) := f12 [] (by simp) (by simp)
  have g13 : PCall Tryz.prog 13 [.sl 3 [] .no, .sl 3 [] .no] (RV (.bool true)) := f13 [] (by simp)
  have r10 := f10 X.path (by have := hbd.p; omega)
  have r11e : PCall Tryz.prog 11 [.sl 1 (lI X.ends) .no, .sl 1 (lI X.ends) .no] (RV (.bool true)) := f11r X.ends (by have := hbd.e; omega)
  have r11b : PCall Tryz.prog 11 [.sl 1 (lI X.bounds) .no, .sl 1 (lI X.bounds) .no] (RV (.bool true)) := f11r X.bounds (by have := hbd.b; omega)
  have r11a : PCall Tryz.prog 11 [.sl 1 (lI X.asks) .no, .sl 1 (lI X.asks) .no] (RV (.bool true)) := f11r X.asks (by have := hbd.a; omega)
  have r12 := f12 X.needs hbd.n hbd.nn
  have r13 := f13 X.sts (by have := hbd.s; omega)
  simp only [go_sem, eLeg]
  refine callV h6 ?_
  intro nx2 lv2
  by_cases e1 : netE n = 0
  rotate_left
  · have e1' : (netE n = 0) = False := eq_false e1
    rw [if_pos e1] at hF
    subst hF
    rw [if_neg e1] at hX
    subst hX
    simp only [go_sem, e1', leg0, lI, List.map_nil]
    refine callV g10 ?_
    intro _ _
    simp only [go_sem]
    refine callV g11 ?_
    intro _ _
    simp only [go_sem]
    refine callV g11 ?_
    intro _ _
    simp only [go_sem]
    refine callV g12 ?_
    intro _ _
    simp only [go_sem]
    refine callV g11 ?_
    intro _ _
    simp only [go_sem]
    refine callV g13 ?_
    intro _ _
    simp only [go_sem]
    try simp
  have e1' : (netE n = 0) = True := eq_true e1
  rw [if_neg (by simp [e1])] at hF
  simp only [go_sem, e1']
  refine callV h7 ?_
  intro nx3 lv3
  by_cases e2 : checkS s = 0
  rotate_left
  · have e2' : (checkS s = 0) = False := eq_false e2
    rw [if_pos e2] at hF
    subst hF
    rw [if_neg e2] at hX
    subst hX
    simp only [go_sem, e2', leg0, lI, List.map_nil]
    refine callV g10 ?_
    intro _ _
    simp only [go_sem]
    refine callV g11 ?_
    intro _ _
    simp only [go_sem]
    refine callV g11 ?_
    intro _ _
    simp only [go_sem]
    refine callV g12 ?_
    intro _ _
    simp only [go_sem]
    refine callV g11 ?_
    intro _ _
    simp only [go_sem]
    refine callV g13 ?_
    intro _ _
    simp only [go_sem]
    try simp
  have e2' : (checkS s = 0) = True := eq_true e2
  rw [if_neg (by simp [e2])] at hF
  simp only [go_sem, e2']
  refine callV (h8' e1) ?_
  intro nx4 lv4
  by_cases e3 : netRE n = 0
  rotate_left
  · have e3' : (netRE n = 0) = False := eq_false e3
    rw [if_pos e3] at hF
    subst hF
    rw [if_neg e3] at hX
    subst hX
    simp only [go_sem, e3', leg0, lI, List.map_nil]
    refine callV g10 ?_
    intro _ _
    simp only [go_sem]
    refine callV g11 ?_
    intro _ _
    simp only [go_sem]
    refine callV g11 ?_
    intro _ _
    simp only [go_sem]
    refine callV g12 ?_
    intro _ _
    simp only [go_sem]
    refine callV g11 ?_
    intro _ _
    simp only [go_sem]
    refine callV g13 ?_
    intro _ _
    simp only [go_sem]
    try simp
  have e3' : (netRE n = 0) = True := eq_true e3
  rw [if_neg (by simp [e3])] at hF
  have h9 := h9 e1 e2
  unfold legE2 at h9
  rw [hF, hX] at h9
  simp only [go_sem, e3']
  refine callV h9 ?_
  intro nx5 lv5
  simp only [go_sem, eLeg]
  refine callV r10 ?_
  intro _ _
  simp only [go_sem]
  refine callV r11e ?_
  intro _ _
  simp only [go_sem]
  refine callV r11b ?_
  intro _ _
  simp only [go_sem]
  refine callV r12 ?_
  intro _ _
  simp only [go_sem]
  refine callV r11a ?_
  intro _ _
  simp only [go_sem]
  refine callV r13 ?_
  intro _ _
  simp only [go_sem]
  try simp

theorem law3 (xs : List DV) (h : ElDs Tryz.prog [28, 30, 3, 31, 4] xs) : PCall Tryz.prog 3 (xs.map toAV) (RV (.bool true)) := by
  obtain ⟨x, xs, rfl, hx, h⟩ := h.cons_inv
  obtain ⟨y, xs, rfl, hy, h⟩ := h.cons_inv
  obtain ⟨z, xs, rfl, hz, h⟩ := h.cons_inv
  obtain ⟨u, xs, rfl, hu, h⟩ := h.cons_inv
  obtain ⟨v, xs, rfl, hv, h⟩ := h.cons_inv
  cases h.nil_inv
  obtain ⟨n, hn, hb⟩ := openNet hx
  obtain ⟨s, rfl, hs⟩ := openStock hy
  obtain ⟨t, rfl, _⟩ := hz.int_inv Tryz.underlying3
  obtain ⟨l1, rfl, b1, e1⟩ := hu.sl_inv Tryz.underlying31 (z := 1) (y := 8) (by kernel_rfl) (by kernel_rfl)
  obtain ⟨p, rfl, _⟩ := map_of_each (f := fun x => DV.int .i64 x) (p := fun _ => True) l1 (fun y hy => by
    obtain ⟨v, rfl, _⟩ := (e1 y hy).int_inv Tryz.underlying3
    exact ⟨v, rfl, trivial⟩)
  simp only [List.length_map] at b1
  obtain ⟨b, rfl⟩ := hv.bool_inv Tryz.underlying4
  simp only [List.map_cons, List.map_nil, hn, eStock_eq, toAV]
  exact f3 n hb s hs t p (by omega) b
end Go.Proofs.YteadhjclchjfjaaGreat
