/- Legs: the law. -/
import Derived.Test.YteadhjclchjfjaaGreatL39
namespace Go.Proofs.YteadhjclchjfjaaGreat
set_option linter.unusedSimpArgs false
set_option linter.unusedVariables false
open Go.AB

def endF2 (n : Net) (fr : Int) : Int := ((n.sigs[fr.toNat]?).map Pair.e).getD 0
/-- The path of a leg. -/
def legPath (n : Net) (L : List Rt) (tr : Int) (leg : List Int) : List Stp :=
  ⟨tr, IntKind.i64.wrap (1 - endF2 n (rtAt L (leg.getD 0 0)).fr), endF2 n (rtAt L (leg.getD 0 0)).fr⟩ :: leg.flatMap fun k => (rtAt L k).st
theorem legs_len {n : Net} {L : List Rt} (hok : ∀ r ∈ L, RtOk n r) : ∀ (leg : List Int), (∀ j ∈ leg, okR L j = true) → (leg.flatMap fun k => (rtAt L k).st).length ≤ leg.length * 16
  | [], _ => by simp
  | j :: leg, hj => by
    obtain ⟨_, _, h⟩ := okR_at (hj j (List.mem_cons_self ..))
    have h1 := (hok _ (List.mem_of_getElem? h)).l1
    have h2 := legs_len hok leg (fun k hk => hj k (List.mem_cons_of_mem _ hk))
    simp only [List.flatMap_cons, List.length_append, List.length_cons]
    omega

set_option maxHeartbeats 4000000 in
set_option maxRecDepth 20000 in
theorem f32 (n : Net) (tr : Int) (L : List Rt) (hok : ∀ r ∈ L, RtOk n r) (leg : List Int) (hl0 : 0 < leg.length) (hl : leg.length ≤ 1000) (hj : ∀ j ∈ leg, okR L j = true) :
    PCall Tryz.prog 32 [eNet n, .sl 3 (L.map dRt) .no, .int .i64 tr, .sl 1 (leg.map fun x => DV.int .i64 x) .no] (RV (.sl 3 ((legPath n L tr leg).map dStp) .no)) := by
  refine PCall.of_bodyE Tryz.func32 rfl Tryz.ntmps32 (congrArg Array.toList Tryz.results32) ?_
  intro E
  have hla : leg[0]? = some (leg.getD 0 0) := by
    rw [List.getD_eq_getElem?_getD, List.getElem?_eq_getElem (by omega)]; rfl
  generalize hF : legPath n L tr leg = F
  unfold legPath at hF
  generalize leg.getD 0 0 = o at *
  obtain ⟨o0, o1, hro⟩ := okR_at (hj o (List.mem_of_getElem? hla))
  have hrk := hok _ (List.mem_of_getElem? hro)
  generalize rtAt L o = ro at *
  have hrop : (L.map dRt)[o.toNat]? = some (dRt ro) := by rw [List.getElem?_map, hro]; rfl
  have hlap : (leg.map fun x => DV.int .i64 x)[0]? = some (.int .i64 o) := by rw [List.getElem?_map, hla]; rfl
  have hf0 := hrk.f0
  have hf1 := hrk.f1
  obtain ⟨sg, hsg⟩ : ∃ x, n.sigs[ro.fr.toNat]? = some x := ⟨_, List.getElem?_eq_getElem (by omega)⟩
  have hsp : (n.sigs.map dPair)[ro.fr.toNat]? = some (dPair sg) := by rw [List.getElem?_map, hsg]; rfl
  have hend : endF2 n ro.fr = sg.e := by simp [endF2, hsg]
  rw [hend] at hF
  have u0 : ((0 : Int) ≤ o) = True := eq_true o0
  have u1 : (o < (L.length : Int)) = True := eq_true o1
  have v1 : ((0 : Int) < (leg.length : Int)) = True := eq_true (by omega)
  have j0 : ((0 : Int) ≤ ro.fr) = True := eq_true hf0
  have j1 : (ro.fr < (n.sigs.length : Int)) = True := eq_true hf1
  simp only [go_sem, eNet, nCells]
  refine drawn (by kernel_rfl) (by kernel_rfl) ?_
  simp only [go_sem, u0, u1, v1, j0, j1, hla, hlap, hro, hrop, hsg, hsp, Option.map_some, dRt, dPair, kDraw_eq]
  intro nx1 lv1 hn1
  refine AW_loopH [10, 12, 33, 34, 35, 36, 37, 38, 39, 40, 41, 42, 43, 44]
    (fun (i : Nat) ρ m => ρ 33 = .int .i64 (i : Int) ∧ i ≤ leg.length ∧ ∃ h nx lv tok, ∃ p : List Stp, ρ 10 = .sl 3 (p.map dStp) tok ∧ m = ⟨h, [], nx, lv⟩ ∧ okT m tok ∧ p.length ≤ 1 + i * 16 ∧ p ++ ((leg.drop i).flatMap fun k => (rtAt L k).st) = F) (fun i => leg.length - i) 0 ?_ ?_
  · simp only [go_sem]
    refine ⟨Nat.zero_le _, _, _, _, .own nx1, [⟨tr, IntKind.i64.wrap (1 - sg.e), sg.e⟩], ⟨by simp [dStp], rfl⟩, rfl, .inl rfl, by simp, by rw [← hF]; simp⟩
  rintro i ρ m ⟨e33, g1, h, nx, lv, tok, p, e10, rfl, hokt, hpl, g2⟩ Q hN hR hX
  by_cases hlt : i < leg.length
  · obtain ⟨k, hk⟩ : ∃ x, leg[i]? = some x := ⟨_, List.getElem?_eq_getElem hlt⟩
    have hkp : (leg.map fun x => DV.int .i64 x)[i]? = some (.int .i64 k) := by rw [List.getElem?_map, hk]; rfl
    have hlt' : ((i : Int) < (leg.length : Int)) = True := by simp; omega
    have h0 : ((0 : Int) ≤ (i : Int)) = True := by simp
    have ew : IntKind.i64.wrap ((i : Int) + 1) = (i : Int) + 1 := i64_in (by omega) (by omega)
    have hd : leg.drop i = k :: leg.drop (i + 1) := by
      rw [List.drop_eq_getElem_cons hlt]
      rw [List.getElem?_eq_getElem hlt] at hk
      cases hk; rfl
    rw [hd, List.flatMap_cons] at g2
    obtain ⟨k0, k1, hr⟩ := okR_at (hj k (List.mem_of_getElem? hk))
    have hrl := (hok _ (List.mem_of_getElem? hr)).l1
    generalize rtAt L k = r at *
    have hrp : (L.map dRt)[k.toNat]? = some (dRt r) := by rw [List.getElem?_map, hr]; rfl
    have y0 : ((0 : Int) ≤ k) = True := eq_true k0
    have y1 : (k < (L.length : Int)) = True := eq_true k1
    simp only [go_sem, e33, e10, hlt', h0, hk, hkp, y0, y1, hr, hrp, Option.map_some, dRt]
    refine ⟨okT_mono hokt fun _ z => z, by omega, ?_⟩
    rw [← List.map_append, hN]
    simp only [go_sem, ew]
    refine ⟨by kernel_rfl, i + 1, ?_, by simp only; omega⟩
    simp only [go_sem]
    exact ⟨by simp, by omega, _, _, _, _, p ++ r.st, ⟨rfl, rfl⟩, rfl, .inl rfl, by simp only [List.length_append]; omega, by rw [List.append_assoc]; exact g2⟩
  · have hlt' : ((i : Int) < (leg.length : Int)) = False := by simp; omega
    rw [List.drop_eq_nil_of_le (by omega)] at g2
    simp only [List.flatMap_nil, List.append_nil] at g2
    subst g2
    simp only [go_sem, e33, e10, hlt', hX]

theorem legPath_last {n : Net} {L : List Rt} (hok : ∀ r ∈ L, RtOk n r) {tr : Int} {leg : List Int} (hl0 : 0 < leg.length) (hj : ∀ j ∈ leg, okR L j = true) :
    ∃ x, (legPath n L tr leg)[(legPath n L tr leg).length - 1]? = some x ∧ x.s = lastS L leg ∧ StepOk n x := by
  have hla := getD_last hl0
  unfold lastS legPath
  have hsplit : leg = leg.take (leg.length - 1) ++ [leg.getD (leg.length - 1) 0] := by
    have h1 := (List.take_append_drop (leg.length - 1) leg).symm
    have h2 : leg.drop (leg.length - 1) = [leg.getD (leg.length - 1) 0] := by
      rw [List.drop_eq_getElem_cons (by omega), List.drop_eq_nil_of_le (by omega)]
      rw [List.getElem?_eq_getElem (by omega)] at hla
      simp only [Option.some.injEq] at hla
      rw [hla]
    rw [h2] at h1
    exact h1
  generalize leg.getD (leg.length - 1) 0 = o at *
  obtain ⟨o0, o1, hro⟩ := okR_at (hj o (List.mem_of_getElem? hla))
  have hrk := hok _ (List.mem_of_getElem? hro)
  have hs0 := hrk.l0
  generalize hpre : (leg.take (leg.length - 1)).flatMap (fun k => (rtAt L k).st) = pre
  have hfm : leg.flatMap (fun k => (rtAt L k).st) = pre ++ (rtAt L o).st := by
    conv => lhs; rw [hsplit]
    rw [List.flatMap_append, hpre]
    simp
  rw [hfm]
  generalize rtAt L o = r at *
  have hsl : r.st[r.st.length - 1]? = some (r.st.getD (r.st.length - 1) ⟨0, 0, 0⟩) := by
    rw [List.getD_eq_getElem?_getD, List.getElem?_eq_getElem (by omega)]; rfl
  generalize r.st.getD (r.st.length - 1) ⟨0, 0, 0⟩ = x at *
  refine ⟨x, ?_, rfl, hrk.st x (List.mem_of_getElem? hsl)⟩
  have : ∀ (a : Stp), (a :: (pre ++ r.st))[(a :: (pre ++ r.st)).length - 1]? = r.st[r.st.length - 1]? := by
    intro a
    rw [← List.cons_append, List.getElem?_append_right (by simp; omega)]
    congr 1
    simp
    omega
  rw [this, hsl]

set_option maxHeartbeats 4000000 in
set_option maxRecDepth 20000 in
theorem f31 (n : Net) (hb : NetB n) (he : netE n = 0) (tr : Int) (L : List Rt) (hL : L.length ≤ 1000) (hok : ∀ r ∈ L, RtOk n r) (leg : List Int) (hlb : leg.length ≤ 140737488351232) :
    PCall Tryz.prog 31 [eNet n, .sl 3 (L.map dRt) .no, .int .i64 tr, .sl 1 (leg.map fun x => DV.int .i64 x) .no] (RV (.int .i64 (legV n L tr leg))) := by
  refine PCall.of_body Tryz.func31 rfl Tryz.ntmps31 (congrArg Array.toList Tryz.results31) ?_
  intro E
  have hsc := hb.sc
  generalize hF : legV n L tr leg = F
  unfold legV at hF
  have hpl : pltF n tr = true ↔ 0 ≤ tr ∧ tr < n.sects.length ∧ ¬ statAt n tr = 0 := by
    simp only [pltF, within, Bool.and_eq_true, decide_eq_true_eq, Bool.not_eq_true', decide_eq_false_iff_not]
    omega
  simp only [go_sem, eNet, nCells]
  by_cases a1 : tr < 0
  · have a1' : (tr < 0) = True := eq_true a1
    rw [if_pos (by cases w : pltF n tr with | false => rfl | true => have := hpl.1 w; omega)] at hF
    subst hF
    simp only [go_sem, a1']
  have a1' : (tr < 0) = False := eq_false a1
  by_cases a2 : (n.sects.length : Int) ≤ tr
  · have a2' : ((n.sects.length : Int) ≤ tr) = True := eq_true a2
    rw [if_pos (by cases w : pltF n tr with | false => rfl | true => have := hpl.1 w; omega)] at hF
    subst hF
    simp only [go_sem, a1', a2']
  have a2' : ((n.sects.length : Int) ≤ tr) = False := eq_false a2
  obtain ⟨c, hc⟩ : ∃ c, n.sects[tr.toNat]? = some c := ⟨_, List.getElem?_eq_getElem (by omega)⟩
  have hc2 : (n.sects.map dSect)[tr.toNat]? = some (dSect c) := by rw [List.getElem?_map, hc]; rfl
  have hsa : statAt n tr = c.station := by simp [statAt, hc]
  have i1 : ((0 : Int) ≤ tr) = True := eq_true (by omega)
  have i2 : (tr < (n.sects.length : Int)) = True := eq_true (by omega)
  by_cases a3 : c.station = 0
  · have a3' : (c.station = 0) = True := eq_true a3
    rw [if_pos (by cases w : pltF n tr with | false => rfl | true => have := (hpl.1 w).2.2; rw [hsa] at this; exact absurd a3 this)] at hF
    subst hF
    simp only [go_sem, a1', a2', i1, i2, hc, hc2, Option.map_some, dSect, a3']
  have a3' : (c.station = 0) = False := eq_false a3
  rw [if_neg (by rw [hpl.2 ⟨by omega, by omega, by rw [hsa]; exact a3⟩]; simp)] at hF
  simp only [go_sem, a1', a2', i1, i2, hc, hc2, Option.map_some, dSect, a3']
  by_cases p2 : 4 < leg.length
  · have p2' : ((4 : Int) < (leg.length : Int)) = True := eq_true (by omega)
    rw [if_pos p2] at hF
    subst hF
    simp only [go_sem, p2']
  have p2' : ((4 : Int) < (leg.length : Int)) = False := eq_false (by omega)
  rw [if_neg p2] at hF
  by_cases p3 : leg.length = 0
  · have p3' : ((leg.length : Int) = 0) = True := eq_true (by omega)
    rw [if_pos p3] at hF
    subst hF
    simp only [go_sem, p2', p3']
  have p3' : ((leg.length : Int) = 0) = False := eq_false (by omega)
  rw [if_neg p3] at hF
  simp only [go_sem, p2', p3']
  have h95 := fun i hi hj => f71 n hb he tr L hL hok leg (by omega) i hi hj
  have h96 := f32 n tr L hok leg (by omega) (by omega)
  unfold eNet nCells at h95 h96
  have hli : ∀ i, legI n L tr leg i = legE n L (L.map (needsR n)) tr (leg.take i) (leg.getD i 0) := fun _ => rfl
  refine AW_loopH [8, 9, 10, 38, 39, 40, 41, 42, 43, 44, 45, 46, 47, 48, 49, 50]
    (fun (i : Nat) ρ m => ρ 38 = .int .i64 (i : Int) ∧ i ≤ leg.length ∧ firstE (legI n L tr leg) (leg.length - i) i = firstE (legI n L tr leg) leg.length 0 ∧ (∀ j ∈ leg.take i, okR L j = true) ∧ ∃ h nx lv, m = ⟨h, [], nx, lv⟩ ∧
      AB.hget h 4 = some (0, [.sl 1 (n.names.map DV.str) .no, .sl 7 (n.sects.map dSect) .no, .sl 4 (n.links.map dLnk) .no, .sl 2 (n.sigs.map dPair) .no, .sl 2 (n.gates.map dPair) .no])) (fun i => leg.length - i) 0 ?_ ?_
  · simp only [go_sem]
    refine ⟨Nat.zero_le _, rfl, by simp, _, _, _, rfl, by simp [go_sem]⟩
  rintro i ρ m ⟨e38, g1, g2, g3, h, nx3, lv3, rfl, b4⟩ Q hN' hR hX
  by_cases hlt : i < leg.length
  · obtain ⟨k, hk⟩ : ∃ x, leg[i]? = some x := ⟨_, List.getElem?_eq_getElem hlt⟩
    have hlt' : ((i : Int) < (leg.length : Int)) = True := by simp; omega
    have ew : IntKind.i64.wrap ((i : Int) + 1) = (i : Int) + 1 := i64_in (by omega) (by omega)
    have hgk : leg.getD i 0 = k := by rw [List.getD_eq_getElem?_getD, hk]; rfl
    have hlk := hli i
    rw [hgk] at hlk
    simp only [go_sem, e38, hlt', b4]
    refine callV (h95 i hlt g3) ?_
    intro nx4 lv4
    by_cases w : legI n L tr leg i = 0
    · have w' : (legI n L tr leg i = 0) = True := eq_true w
      simp only [go_sem, w', hN', ew]
      refine ⟨by kernel_rfl, i + 1, ?_, by simp only; omega⟩
      simp only [go_sem]
      refine ⟨by simp, by omega, firstE_go hlt w g2, fun j hj => ?_, _, _, _, rfl, b4⟩
      rw [List.take_add_one, hk] at hj
      simp only [Option.toList_some, List.mem_append, List.mem_singleton] at hj
      rcases hj with hj | rfl
      · exact g3 j hj
      · exact legE_ok (hlk.symm.trans w)
    · have w' : (legI n L tr leg i = 0) = False := eq_false w
      have hit := firstE_hit hlt rfl w g2
      rw [if_pos (by rw [hit]; exact w), hit] at hF
      subst hF
      simp only [go_sem, w', hR]
  · have hlt' : ((i : Int) < (leg.length : Int)) = False := by simp; omega
    rw [firstE_end hlt] at g2
    rw [List.take_of_length_le (by omega)] at g3
    rw [if_neg (by rw [← g2]; simp)] at hF
    have hpl2 : (legPath n L tr leg).length ≤ 100 := by
      have := legs_len hok leg g3
      simp only [legPath, List.length_cons]
      omega
    obtain ⟨x, hx, hxs, hxo⟩ := legPath_last hok (tr := tr) (leg := leg) (by omega) g3
    have hpl0 : 0 < (legPath n L tr leg).length := by simp [legPath]
    simp only [go_sem, e38, hlt', hX, b4]
    refine callV (h96 g3) ?_
    intro nx4 lv4
    generalize legPath n L tr leg = path at *
    obtain ⟨x0, x1⟩ := hxo.sec
    obtain ⟨c5, hc5⟩ : ∃ c, n.sects[x.s.toNat]? = some c := ⟨_, List.getElem?_eq_getElem (by omega)⟩
    have hc6 : (n.sects.map dSect)[x.s.toNat]? = some (dSect c5) := by rw [List.getElem?_map, hc5]; rfl
    have hsa5 : statAt n x.s = c5.station := by simp [statAt, hc5]
    have hxp : (path.map dStp)[path.length - 1]? = some (dStp x) := by rw [List.getElem?_map, hx]; rfl
    have ew2 : IntKind.i64.wrap ((path.length : Int) - 1) = (path.length : Int) - 1 := i64_in (by omega) (by omega)
    have w0 : ((0 : Int) ≤ (path.length : Int) - 1) = True := eq_true (by omega)
    have w1 : ((path.length : Int) - 1 < (path.length : Int)) = True := eq_true (by omega)
    have w2 : ((path.length : Int) - 1).toNat = path.length - 1 := by omega
    have y0 : ((0 : Int) ≤ x.s) = True := eq_true x0
    have y1 : (x.s < (n.sects.length : Int)) = True := eq_true x1
    have hpl5 : pltF n (lastS L leg) = !decide (c5.station = 0) := by
      rw [← hxs]
      unfold pltF
      rw [hsa5]
      have : within x.s 0 ((n.sects.length : Int) - 1) = true := by simp [within]; omega
      rw [this, Bool.true_and]
    rw [hpl5] at hF
    simp only [go_sem]
    refine drawn (by kernel_rfl) (by kernel_rfl) ?_
    by_cases z : c5.station = 0
    · have z' : (c5.station = 0) = True := eq_true z
      rw [if_pos (by simp [z])] at hF
      subst hF
      simp only [go_sem, b4, ew2, w0, w1, w2, hx, hxp, y0, y1, hc5, hc6, Option.map_some, dStp, dSect, z', kDraw_eq]
      try exact fun _ _ _ _ => rfl
    · have z' : (c5.station = 0) = False := eq_false z
      rw [if_neg (by simp [z])] at hF
      subst hF
      simp only [go_sem, b4, ew2, w0, w1, w2, hx, hxp, y0, y1, hc5, hc6, Option.map_some, dStp, dSect, z', kDraw_eq]
      try exact fun _ _ _ _ => rfl

end Go.Proofs.YteadhjclchjfjaaGreat
