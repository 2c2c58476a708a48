/- Runs of legs: LegOf of the reference. -/
import Derived.Test.YteadhjclchjfjaaGreatRG4
namespace Go.Proofs.YteadhjclchjfjaaGreat
set_option linter.unusedSimpArgs false
set_option linter.unusedVariables false
open Go.AB

def legE2 (n : Net) (L : List Rt) (s : Stock) (tr : Int) (leg : List Int) (turned : Bool) : Int := if legV n L tr leg ≠ 0 then legV n L tr leg else runLE n L s tr leg turned

theorem firstK_p {p : Nat → Bool} : ∀ {f k r : Nat}, firstK p f k = some r → p r = true
  | 0, _, _, h => by cases h
  | f + 1, k, r, h => by
    unfold firstK at h
    split at h
    · rename_i h1; cases h; exact h1
    · exact firstK_p h
theorem idxS_none {q : Sta → Bool} : ∀ {l : List Sta} {i : Int}, 0 ≤ i → idxS q l i < 0 → ∀ x ∈ l, q x = false
  | [], _, _, _, x, hx => by cases hx
  | y :: l, i, h0, h, x, hx => by
    unfold idxS at h
    split at h
    · omega
    · rename_i h1
      simp only [List.mem_cons] at hx
      rcases hx with rfl | hx
      · simpa using h1
      · exact idxS_none (by omega) h x hx
/-- What the states of a run that ends in time are like. -/
structure StsOk (sts : List Sta) (fin fr : Int) : Prop where
  z : ∃ x, sts[0]? = some x ∧ (x.pos = fr ∨ x.pos = fin ∧ fin - fr ≤ 100)
  l : ∃ x ∈ sts, x.pos = fin
theorem goL_sts {s : Stock} {way : List Piece} {fin fr : Int} (h : goE s way fin s.top fr = 0) : StsOk (goL s way fin s.top fr) fin fr := by
  unfold goE at h
  split at h
  · rename_i hs
    obtain ⟨k, hk⟩ := Option.isSome_iff_exists.1 hs
    have hp := firstK_p hk
    unfold goL
    rw [hk]
    simp only
    refine ⟨?_, ended fin (stAt s way fin s.top fr k), by simp, rfl⟩
    cases k with
    | zero =>
      refine ⟨ended fin (stAt s way fin s.top fr 0), by simp [hist], .inr ⟨rfl, ?_⟩⟩
      simp only [doneS, stAt, Bool.and_eq_true] at hp
      exact of_decide_eq_true hp.2
    | succ k =>
      refine ⟨stAt s way fin s.top fr 0, ?_, .inl rfl⟩
      rw [List.getElem?_append_left (by simp [hist])]
      simp [hist]
  · cases h

theorem both3 {A B : Prop} {P : Nat → Nat → (Nat → Prop) → Prop} (hab : (∀ a nx v, v a → a < nx → P a nx v) → A ∧ B) (h : ∀ a nx v, v a → a < nx → P a nx v) : A ∧ B := hab h

set_option maxHeartbeats 8000000 in
set_option maxRecDepth 20000 in
theorem f9 (n : Net) (hb : NetB n) (he : netE n = 0) (L : List Rt) (hL : L.length ≤ 1000) (hok : ∀ r ∈ L, RtOk n r) (hwy : ∀ r ∈ L, RtWay n r) (s : Stock) (e2 : checkS s = 0) (tr : Int) (leg : List Int) (hlb : leg.length ≤ 140737488351232) (turned : Bool) :
    PCall Tryz.prog 9 [eNet n, .sl 3 (L.map dRt) .no, eStock s, .int .i64 tr, .sl 1 (leg.map fun x => DV.int .i64 x) .no, .bool turned]
      (RV (.tup [eLeg (if legE2 n L s tr leg turned = 0 then legR n L s tr leg turned else leg0), .int .i64 (legE2 n L s tr leg turned)])) := by
  refine PCall.of_bodyE Tryz.func9 rfl Tryz.ntmps9 (congrArg Array.toList Tryz.results9) ?_
  intro E
  have h31 := f31 n hb he tr L hL hok leg hlb
  unfold eNet nCells at h31
  generalize hF : legE2 n L s tr leg turned = F
  unfold legE2 at hF
  simp only [go_sem, eNet, nCells, eStock]
  refine callV h31 ?_
  intro nx lv
  by_cases e4 : legV n L tr leg = 0
  rotate_left
  · have e4' : (legV n L tr leg = 0) = False := eq_false e4
    rw [if_pos e4] at hF
    subst hF
    simp only [go_sem, e4', if_false, eLeg, leg0, lI]
    try simp
  have e4' : (legV n L tr leg = 0) = True := eq_true e4
  rw [if_neg (by simp [e4])] at hF
  simp only [go_sem, e4']
  have hlo := legV_ok e4
  have hpath := leg_path he hwy hok hlo
  have hjk := hlo.ok
  have l0 := hlo.l0
  have l4 := hlo.l4
  have hsk := checkS_ok e2
  have ew0 : IntKind.i64.wrap (100 * s.len) = 100 * s.len := i64_in (by omega) (by omega)
  have h32 := f32 n tr L hok leg (by omega) (by omega) hjk
  unfold eNet nCells at h32
  refine drawnT [2, 2, 2, 2, 2, 2, 2, 2, 3, 1, 4, 1] (.alt 8 [2, 2, 2, 2, 2, 2, 2, 2, 0, 2, 3, 1] (.alt 10 [2, 2, 2, 2, 2, 2, 2, 2, 0, 2, 0, 3] (.alt 11 [0, 0, 0, 0, 0, 0, 0, 0, 0, 0, 0, 0] .fin .nil) .nil) (.alt 10 [2, 2, 2, 2, 2, 2, 2, 2, 3, 1, 0, 1] (.alt 8 [2, 2, 2, 2, 2, 2, 2, 2, 0, 2, 0, 3] (.alt 11 [0, 0, 0, 0, 0, 0, 0, 0, 0, 0, 0, 0] .fin .nil) .nil) .nil)) 194 (by kernel_rfl) (by kernel_rfl) (by kernel_rfl) (by kernel_rfl) rfl ?_
  simp only [go_sem, ew0]
  refine quietD h32 (fun _ => rfl) ?_
  simp only [go_sem, ew0]
  apply both3
  case hab =>
    intro H
    refine ⟨?_, ?_⟩
    · intro m1 w1 _ _
      refine quietD h32 (fun _ => rfl) ?_
      simp only [go_sem, ew0]
      intro m2 w2 p2 r2
      refine quietD h32 (fun _ => rfl) ?_
      simp only [go_sem, ew0]
      intro m3 w3 p3 r3 m4 w4 p4 r4
      exact H m1 m4 w4 (r4 _ (r3 _ (r2 _ (.inl rfl)))) (by omega)
    · intro m1 w1 _ _
      refine quietD h32 (fun _ => rfl) ?_
      simp only [go_sem, ew0]
      intro m2 w2 p2 r2
      refine quietD h32 (fun _ => rfl) ?_
      simp only [go_sem, ew0]
      intro m3 w3 p3 r3 m4 w4 p4 r4
      exact H m2 m4 w4 (r4 _ (r3 _ (.inl rfl))) (by omega)
  case h =>
    intro tb0 nx4 lv4 htb0 htb1
    have hB : legB n L s tr leg turned = ⟨100 * s.len, legPath n L tr leg, endsW (wayP n (legPath n L tr leg)), bndL L leg, needT n L leg, [], goL s (wayP n (legPath n L tr leg)) (total (wayP n (legPath n L tr leg))) s.top (fromV s (wayP n (legPath n L tr leg)) turned)⟩ := rfl
    have hRR : legR n L s tr leg turned = ⟨100 * s.len, legPath n L tr leg, endsW (wayP n (legPath n L tr leg)), bndL L leg, needT n L leg, asksB (legB n L s tr leg turned) (fromV s (wayP n (legPath n L tr leg)) turned) (askS s) leg.length, goL s (wayP n (legPath n L tr leg)) (total (wayP n (legPath n L tr leg))) s.top (fromV s (wayP n (legPath n L tr leg)) turned)⟩ := rfl
    have h33 := f33 n (legPath n L tr leg) hb hpath
    unfold eNet nCells at h33
    rw [wayP_eq] at h33
    have hplen : (legPath n L tr leg).length = 1 + (leg.flatMap fun k => (rtAt L k).st).length := by simp [legPath]; omega
    obtain ⟨x0, hx0, hx0s⟩ : ∃ x, (legPath n L tr leg)[0]? = some x ∧ x.s = tr := ⟨_, rfl, rfl⟩
    obtain ⟨xl, hxl, hxs, hxo⟩ := legPath_last hok (tr := tr) (leg := leg) (by omega) hjk
    have hall : ∀ x ∈ legPath n L tr leg, 0 ≤ x.s ∧ x.s < n.sects.length := by
      intro x hx
      have hp : 0 ≤ tr ∧ tr < n.sects.length := by
        have := hlo.p
        simp only [pltF, within, Bool.and_eq_true, decide_eq_true_eq] at this
        omega
      simp only [legPath, List.mem_cons, List.mem_flatMap] at hx
      rcases hx with rfl | ⟨k, hk, hx⟩
      · exact hp
      · exact ((hok _ (List.mem_of_getElem? (okR_at (hjk k hk)).2.2)).st x hx).sec
    have hst : ∀ k ∈ leg, (rtAt L k).st.length ≤ 16 := fun k hk => (hok _ (List.mem_of_getElem? (okR_at (hjk k hk)).2.2)).l1
    have hfl := legs_len hok leg hjk
    have hp := hall x0 (List.mem_of_getElem? hx0)
    rw [hx0s] at hp
    unfold runLE at hF
    generalize legPath n L tr leg = P at *
    have hll : ∀ l : List Int, (lI l).length = l.length := fun l => by simp [lI]
    obtain ⟨x0', x1'⟩ := hxo.sec
    obtain ⟨ca, hca⟩ : ∃ c, n.sects[tr.toNat]? = some c := ⟨_, List.getElem?_eq_getElem (by omega)⟩
    obtain ⟨cb, hcb⟩ : ∃ c, n.sects[xl.s.toNat]? = some c := ⟨_, List.getElem?_eq_getElem (by omega)⟩
    have hcap : (n.sects.map dSect)[tr.toNat]? = some (dSect ca) := by rw [List.getElem?_map, hca]; rfl
    have hcbp : (n.sects.map dSect)[xl.s.toNat]? = some (dSect cb) := by rw [List.getElem?_map, hcb]; rfl
    have z1 : ((0 : Int) ≤ tr) = True := eq_true hp.1
    have z2 : (tr < (n.sects.length : Int)) = True := eq_true hp.2
    have z3 : ((0 : Int) ≤ xl.s) = True := eq_true x0'
    have z4 : (xl.s < (n.sects.length : Int)) = True := eq_true x1'
    have ew2 : IntKind.i64.wrap (s.len + 2) = s.len + 2 := i64_in (by omega) (by omega)
    have hsa : shortL n s tr = decide (ca.len < s.len + 2) := by simp [shortL, hca]
    have hsb : shortL n s (lastS L leg) = decide (cb.len < s.len + 2) := by simp [shortL, ← hxs, hcb]
    rw [hsa, hsb] at hF
    have hxp : (P.map dStp)[P.length - 1]? = some (dStp xl) := by rw [List.getElem?_map, hxl]; rfl
    have hx0p : (P.map dStp)[0]? = some (dStp x0) := by rw [List.getElem?_map, hx0]; rfl
    have y0 : ((0 : Int) < (P.length : Int)) = True := eq_true (by omega)
    have y1 : IntKind.i64.wrap ((P.length : Int) - 1) = (P.length : Int) - 1 := i64_in (by omega) (by omega)
    have y2 : ((0 : Int) ≤ (P.length : Int) - 1) = True := eq_true (by omega)
    have y3 : ((P.length : Int) - 1 < (P.length : Int)) = True := eq_true (by omega)
    have y4 : ((P.length : Int) - 1).toNat = P.length - 1 := by omega
    simp only [y1]
    refine AW_loopH [13, 17, 54, 55, 56, 57, 58, 59, 60, 61, 62, 63, 64, 65, 66, 67, 68, 69, 70, 71, 72, 73, 74]
      (fun (i : Nat) ρ m => ρ 54 = .int .i64 (i : Int) ∧ i ≤ 2 ∧ (0 < i → ¬ ca.len < s.len + 2) ∧ (1 < i → ¬ cb.len < s.len + 2) ∧ ∃ h nx lv, m = ⟨h, [], nx, lv⟩ ∧ okN nx lv (.own tb0) ∧
        AB.hget h 6 = some (0, b5c n) ∧ AB.hget h 8 = some (0, b6c s) ∧ AB.hget h 12 = some (0, b10c) ∧
        AB.hget h 15 = some (0, rC ⟨100 * s.len, P, [], [1], [], [], []⟩ .no .nil (.own tb0) .nil .nil .nil)) (fun i => 2 - i) 0 ?_ ?_
    · simp only [go_sem]
      refine ⟨_, _, _, rfl, ⟨.inr htb0, by omega⟩, ?_, ?_, ?_, ?_⟩
      · simp [go_sem, b5c]
      · simp [go_sem, b6c]
      · simp [go_sem, b10c]
      · simp [go_sem, rC, lI]
    rintro i ρ m ⟨e54, g1, sa, sb, h, nx, lv, rfl, ktb, b6, b8, b12, b15⟩ Q hN' hR hX
    have hi : i = 0 ∨ i = 1 ∨ i = 2 := by omega
    rcases hi with rfl | rfl | rfl
    · by_cases ha : ca.len < s.len + 2
      · have ha' : (ca.len < s.len + 2) = True := eq_true ha
        rw [if_pos (by simp [ha])] at hF
        subst hF
        simp only [go_sem, e54]
        refine drawn (by kernel_rfl) (by kernel_rfl) ?_
        simp only [go_sem, b6, b8, b15, rC, b5c, b6c, y0, hx0, hx0p, Option.map_some, dStp, hx0s, z1, z2, hca, hcap, dSect, ew2, ha', kDraw_eq, hR, b12, b10c, eLeg, leg0, lI]
        try simp
      · have ha' : (ca.len < s.len + 2) = False := eq_false ha
        simp only [go_sem, e54]
        refine drawn (by kernel_rfl) (by kernel_rfl) ?_
        simp only [go_sem, b6, b8, b15, rC, b5c, b6c, y0, hx0, hx0p, Option.map_some, dStp, hx0s, z1, z2, hca, hcap, dSect, ew2, ha', kDraw_eq, hN']
        intro n5 v5 q5 r5
        refine ⟨by kernel_rfl, 1, ?_, by simp only; omega⟩
        simp only [go_sem]
        exact ⟨by decide, _, _, _, rfl, ktb.mono q5 r5, by simp [go_sem, b6, b5c], by simp [go_sem, b8, b6c], by simp [go_sem, b12, b10c], by simp [go_sem, b15, rC]⟩
    · have ha := sa (by omega)
      by_cases hb2 : cb.len < s.len + 2
      · have hb' : (cb.len < s.len + 2) = True := eq_true hb2
        rw [if_pos (by simp [hb2])] at hF
        subst hF
        simp only [go_sem, e54]
        refine drawn (by kernel_rfl) (by kernel_rfl) ?_
        simp only [go_sem, b6, b8, b15, rC, b5c, b6c, y2, y3, y4, hxl, hxp, Option.map_some, dStp, z3, z4, hcb, hcbp, dSect, ew2, hb', kDraw_eq, hR, b12, b10c, eLeg, leg0, lI]
        try simp
      · have hb' : (cb.len < s.len + 2) = False := eq_false hb2
        simp only [go_sem, e54]
        refine drawn (by kernel_rfl) (by kernel_rfl) ?_
        simp only [go_sem, b6, b8, b15, rC, b5c, b6c, y2, y3, y4, hxl, hxp, Option.map_some, dStp, z3, z4, hcb, hcbp, dSect, ew2, hb', kDraw_eq, hN']
        intro n5 v5 q5 r5
        refine ⟨by kernel_rfl, 2, ?_, by simp only; omega⟩
        simp only [go_sem]
        exact ⟨by decide, ha, _, _, _, rfl, ktb.mono q5 r5, by simp [go_sem, b6, b5c], by simp [go_sem, b8, b6c], by simp [go_sem, b12, b10c], by simp [go_sem, b15, rC]⟩
    · have ha := sa (by omega)
      have hb2 := sb (by omega)
      rw [if_neg (by simp [ha, hb2])] at hF
      simp only [go_sem, e54, hX, b6, b8, b15, rC, b5c, b6c]
      refine callVt h33 ?_
      intro n7 v7 q7 r7
      have ktb7 : okN n7 v7 (.own tb0) := ktb.mono q7 r7
      have hwl : (wayP n P).length ≤ 65 := by simp only [wayP, List.length_map]; omega
      have hwl0 : 0 < (wayP n P).length := by simp only [wayP, List.length_map]; omega
      have hwok : (wayP n P).all pieceOk = true := by
        simp only [wayP, List.all_map, List.all_eq_true, Function.comp]
        intro x hx
        have := (pcF_ok he (hall x hx)).1
        obtain ⟨k1, k2, k3⟩ := this
        rw [pieceOk_iff]
        simp only
        omega
      generalize hW : wayP n P = way at *
      simp only [go_sem]
      refine AW_loopH [19, 21, 81, 82, 83, 84, 85, 86, 87, 88, 89, 90, 91, 92, 93, 94, 95]
        (fun (j : Nat) ρ m => ρ 81 = .int .i64 (j : Int) ∧ ρ 19 = .int .i64 (pre way j) ∧ j ≤ way.length ∧ ∃ h nx lv te, m = ⟨h, [], nx, lv⟩ ∧ okN nx lv te ∧ okN nx lv (.own tb0) ∧ te ≠ .own tb0 ∧
          AB.hget h 6 = some (0, b5c n) ∧ AB.hget h 8 = some (0, b6c s) ∧ AB.hget h 12 = some (0, b10c) ∧
          AB.hget h 15 = some (0, rC ⟨100 * s.len, P, endsW (way.take j), [1], [], [], []⟩ .no te (.own tb0) .nil .nil .nil)) (fun j => way.length - j) 0 ?_ ?_
      · simp only [go_sem]
        exact ⟨by simp [pre], Nat.zero_le _, _, _, _, .nil, rfl, trivial, ktb7, (by intro e; cases e), by simp [go_sem, b6, b5c], by simp [go_sem, b8, b6c], by simp [go_sem, b12, b10c], by simp [go_sem, b15, rC, endsW]⟩
      rintro j ρ2 m ⟨e81, e19, g2, h2, nx2, lv2, te, rfl, kte, ktb2, dte, c6, c8, c12, c15⟩ Q2 hN2 hR2 hX2
      by_cases hlt2 : j < way.length
      · obtain ⟨pc, hpc⟩ : ∃ p, way[j]? = some p := ⟨_, List.getElem?_eq_getElem hlt2⟩
        have hpcp : (way.map dPiece)[j]? = some (dPiece pc) := by rw [List.getElem?_map, hpc]; rfl
        have hlt2' : ((j : Int) < (way.length : Int)) = True := by simp; omega
        have h02 : ((0 : Int) ≤ (j : Int)) = True := by simp
        have ewj : IntKind.i64.wrap ((j : Int) + 1) = (j : Int) + 1 := i64_in (by omega) (by omega)
        have hps : pre way (j + 1) = pre way j + pc.len := pre_succ hpc
        have hpb := pre_bd hwok j
        have hpb2 := pre_bd hwok (j + 1)
        have ews : IntKind.i64.wrap (pre way j + pc.len) = pre way (j + 1) := by rw [← hps]; exact i64_in (by omega) (by omega)
        have hel : (endsW (way.take j)).length ≤ 65 := by simp only [endsW, List.length_map, List.length_range, List.length_take]; omega
        obtain ⟨g21, hg21⟩ : ∃ g, genO (AB.hget h2 21) = g := ⟨_, rfl⟩
        simp only [go_sem, e81, e19, hlt2', h02, hpc, hpcp, Option.map_some, dPiece, hg21, c15, rC, ews, hll]
        refine ⟨okT_mono (kte.t (h := []) (o := []) (nx' := 0)) fun j z => .inr z, by omega, ?_⟩
        have w1 : lI (endsW (way.take j)) ++ [DV.int .i64 (pre way (j + 1))] = lI (endsW (way.take (j + 1))) := by
          rw [endsW_take way j hlt2]; simp [lI]
        rw [w1, hN2]
        simp only [go_sem, ewj]
        refine ⟨by kernel_rfl, j + 1, ?_, by simp only; omega⟩
        simp only [go_sem]
        have ktb3 : okN (nx2 + 1 + 1) (fun j => j = nx2 + 1 ∨ (j = nx2 ∨ lv2 j) ∧ ¬ te = .own j) (.own tb0) := ktb2.keep (by omega) (fun j e hj z => .inr ⟨.inr z, fun e2 => dte (e2.trans e.symm)⟩)
        exact ⟨by simp, by omega, _, _, _, .own (nx2 + 1), rfl, ⟨.inl rfl, Nat.lt_succ_self _⟩, ktb3, own_ne (by have := ktb2.2; omega), by simp [go_sem, c6], by simp [go_sem, c8], by simp [go_sem, c12], by simp [go_sem, rC]⟩
      · have hlt2' : ((j : Int) < (way.length : Int)) = False := by simp; omega
        have hjw : j = way.length := by omega
        rw [List.take_of_length_le (by omega)] at c15
        rw [hjw] at e19
        change ρ2 19 = .int .i64 (total way) at e19
        have hel : (endsW way).length = way.length := by simp [endsW]
        simp only [go_sem, e81, e19, hlt2', hX2]
        refine AW_loopH [22, 23, 98, 99, 100, 101, 102, 103, 104, 105, 106, 107, 108, 109, 110, 111, 112, 113, 114, 115, 116, 117, 118, 119, 120, 121, 122, 123, 124, 125, 126, 127, 128, 129, 130, 131]
          (fun (i : Nat) ρ m => ρ 98 = .int .i64 (i : Int) ∧ i ≤ leg.length ∧ ∃ h nx lv tb tn, m = ⟨h, [], nx, lv⟩ ∧ okN nx lv tb ∧ okN nx lv tn ∧ tn ≠ tb ∧
            AB.hget h 6 = some (0, b5c n) ∧ AB.hget h 8 = some (0, b6c s) ∧ AB.hget h 12 = some (0, b10c) ∧
            AB.hget h 15 = some (0, rC ⟨100 * s.len, P, endsW way, bndL L (leg.take i), needT n L (leg.take i), [], []⟩ .no te tb tn .nil .nil)) (fun i => leg.length - i) 0 ?_ ?_
        · simp only [go_sem]
          exact ⟨Nat.zero_le _, _, _, _, .own tb0, .nil, rfl, ktb2, trivial, (by intro e; cases e), c6, c8, c12, by rw [c15]; simp [rC, bndL, needT, lI]⟩
        rintro i ρ3 m ⟨e98, g3, h3, nx3, lv3, tb, tn, rfl, ktb3, ktn, d3, a6, a8, a12, a15⟩ Q3 hN3 hR3 hX3
        by_cases hlt3 : i < leg.length
        · obtain ⟨k, hk⟩ : ∃ k, leg[i]? = some k := ⟨_, List.getElem?_eq_getElem hlt3⟩
          have hkp : (leg.map fun x => DV.int .i64 x)[i]? = some (.int .i64 k) := by rw [List.getElem?_map, hk]; rfl
          have hkm := List.mem_of_getElem? hk
          obtain ⟨c0, c1, hrk2⟩ := okR_at (hjk k hkm)
          have hrkp : (L.map dRt)[k.toNat]? = some (dRt (rtAt L k)) := by rw [List.getElem?_map, hrk2]; rfl
          have hlt3' : ((i : Int) < (leg.length : Int)) = True := by simp; omega
          have h0 : ((0 : Int) ≤ (i : Int)) = True := by simp
          have u1 : ((0 : Int) ≤ k) = True := eq_true c0
          have u2 : (k < (L.length : Int)) = True := eq_true c1
          have ew : IntKind.i64.wrap ((i : Int) + 1) = (i : Int) + 1 := i64_in (by omega) (by omega)
          have htk : leg.take (i + 1) = leg.take i ++ [k] := by rw [List.take_add_one, hk]; rfl
          have hsl := hst k hkm
          have hbl : (bndL L (leg.take i)).length = i + 1 := by simp only [bndL, List.length_map, List.length_range, List.length_take]; omega
          have hfi := flat_take L leg i
          have hfi1 := flat_take L leg (i + 1)
          have hbg : (bndL L (leg.take i))[i]? = some (1 + (((leg.take i).flatMap fun k => (rtAt L k).st).length : Int)) := by
            unfold bndL
            rw [List.getElem?_map, List.getElem?_range (by simp; omega)]
            simp only [Option.map_some, List.take_take, Nat.min_self]
          have hbgp : (lI (bndL L (leg.take i)))[i]? = some (.int .i64 (1 + (((leg.take i).flatMap fun k => (rtAt L k).st).length : Int))) := by unfold lI; rw [List.getElem?_map, hbg]; rfl
          have ib : ((i : Int) < ((bndL L (leg.take i)).length : Int)) = True := by simp; omega
          have hfs : (((leg.take (i + 1)).flatMap fun k => (rtAt L k).st).length : Int) = ((leg.take i).flatMap fun k => (rtAt L k).st).length + (rtAt L k).st.length := by rw [htk]; simp
          have ewb : IntKind.i64.wrap (1 + (((leg.take i).flatMap fun k => (rtAt L k).st).length : Int) + ((rtAt L k).st.length : Int)) = 1 + (((leg.take (i + 1)).flatMap fun k => (rtAt L k).st).length : Int) := by
            rw [hfs]
            rw [i64_in (by omega) (by omega)]
            omega
          have h34 := f34 n hb he (rtAt L k) (hok _ (List.mem_of_getElem? hrk2))
          unfold eNet nCells eRt0 at h34
          simp only [go_sem, e98, hlt3', h0, hk, hkp, Option.map_some]
          refine drawnP [2, 2, 2, 2, 2, 2, 2, 2, 2, 2, 2, 2, 2, 2, 3, 1, 1, 1] [(14, [2, 2, 0, 0, 0, 0, 0, 0, 0, 0, 0, 0, 0, 0, 0, 3, 1, 1]), (15, [0, 0, 0, 0, 0, 0, 0, 0, 0, 0, 0, 0, 0, 0, 0, 0, 2, 3]), (17, [0, 0, 0, 0, 0, 0, 0, 0, 0, 0, 0, 0, 0, 0, 0, 0, 0, 0])] 194 (by kernel_rfl) (by kernel_rfl) (by kernel_rfl) (by kernel_rfl) rfl ?_
          simp only [go_sem, a15, rC, u1, u2, hrk2, hrkp, Option.map_some, dRt, hll, ib, h0, hbg, hbgp, ewb]
          intro m1 w1 p1 r1 m2 w2 p2 r2
          have k2tb : okN m2 w2 tb := (ktb3.mono p1 r1).mono (by omega) (fun j z => r2 j (.inr z))
          have k2tn : okN m2 w2 tn := (ktn.mono p1 r1).mono (by omega) (fun j z => r2 j (.inr z))
          refine ⟨k2tb.t, by omega, ?_⟩
          intro m3 w3 p3 r3 m4 w4 p4 r4
          have k4tn : okN m4 w4 tn := (k2tn.keep (by omega) (fun j e hj z => r3 j (.inr ⟨z, fun e2 => d3 (e.trans e2.symm)⟩))).mono p4 r4
          have k4tb : okN m4 w4 (.own m2) := ⟨r4 _ (r3 _ (.inl rfl)), by omega⟩
          refine drawnP [2, 2, 2, 2, 2, 2, 2, 2, 3, 1, 1, 1] [(8, [2, 2, 0, 0, 0, 0, 0, 0, 0, 3, 1, 1]), (9, [0, 0, 0, 0, 0, 0, 0, 0, 0, 0, 2, 3]), (11, [0, 0, 0, 0, 0, 0, 0, 0, 0, 0, 0, 0])] 194 (by kernel_rfl) (by kernel_rfl) (by kernel_rfl) (by kernel_rfl) rfl ?_
          simp only [go_sem, a6, b5c, u1, u2, hrk2, hrkp, Option.map_some, dRt]
          refine quietD h34 (fun _ => rfl) ?_
          simp only [go_sem, a6, b5c, u1, u2, hrk2, hrkp, Option.map_some, dRt]
          intro m5 w5 p5 r5 m6 w6 p6 r6
          have k6tn : okN m6 w6 tn := (k4tn.mono p5 r5).mono (by omega) (fun j z => r6 j (.inr z))
          have k6tb : okN m6 w6 (.own m2) := (k4tb.mono p5 r5).mono (by omega) (fun j z => r6 j (.inr z))
          refine ⟨okT_mono (k6tn.t (h := []) (o := []) (nx' := 0)) (fun j z => z), by simp only [needT, List.length_map, List.length_take]; omega, ?_⟩
          intro m7 w7 p7 r7 m8 w8 p8 r8
          have htn : tn ≠ .own m2 := by
            rintro rfl
            have := ktn.2
            omega
          have k8tb : okN m8 w8 (.own m2) := (k6tb.keep (by omega) (fun j e hj z => r7 j (.inr ⟨z, fun e2 => htn (e2.trans e.symm)⟩))).mono p8 r8
          have w1 : lI (bndL L (leg.take i)) ++ [DV.int .i64 (1 + (((leg.take (i + 1)).flatMap fun k => (rtAt L k).st).length : Int))] = lI (bndL L (leg.take (i + 1))) := by
            rw [bndL_take L leg i hlt3, lI, lI, List.map_append]; rfl
          have w3' : (needT n L (leg.take i)).map dNds ++ [DV.sl 4 ((needsR n (rtAt L k)).map dNd)] = (needT n L (leg.take (i + 1))).map dNds := by
            rw [htk]; simp [needT, dNds]
          rw [w1, w3', hN3]
          simp only [go_sem, ew]
          refine ⟨by kernel_rfl, i + 1, ?_, by simp only; omega⟩
          simp only [go_sem]
          exact ⟨by simp, by omega, _, _, _, .own m2, .own m6, rfl, k8tb, ⟨r8 _ (r7 _ (.inl rfl)), by omega⟩, own_ne (by omega),
            by simp [go_sem, a6, b5c], by simp [go_sem, a8, b6c], by simp [go_sem, a12, b10c], by simp [go_sem, rC]⟩
        · have hlt3' : ((i : Int) < (leg.length : Int)) = False := by simp; omega
          rw [List.take_of_length_le (by omega)] at a15
          have hen0 : (endsW way)[0]? = some (pre way 1) := by simp [endsW, hwl0]
          have hen0p : (lI (endsW way))[0]? = some (.int .i64 (pre way 1)) := by unfold lI; rw [List.getElem?_map, hen0]; rfl
          have t1 : ((0 : Int) < (way.length : Int)) = True := by simp; omega
          have hl60 : way.length ≤ 60 := by
            have := hpath
            unfold pathE at this
            split at this
            · cases this
            · have h3 : way.length = P.length := by rw [← hW]; simp [wayP]
              omega
          have ht0 : pre way 1 ≤ total way := pre_mono hwok (by omega)
          have htb := pre_bd hwok way.length
          have hp1 : pre way 1 = 100 * ca.len := by
            have h3 : way[0]? = some ⟨(pcF n x0).l, (pcF n x0).g, (pcF n x0).v⟩ := by rw [← hW]; simp [wayP, hx0]
            have h4 := pre_succ h3
            rw [pre_zero] at h4
            have h5 := (pcF_ok he (hall x0 (List.mem_of_getElem? hx0))).2
            have h7 : lenAt n x0 = ca.len := by unfold lenAt; rw [hx0s, hca]; rfl
            have h8 : pre way 1 = 0 + (pcF n x0).l := h4
            rw [h8, h5, h7, Int.zero_add]
          simp only [go_sem, e98, hlt3', hX3, a15, rC, hll, hel, t1, hen0, hen0p, Option.map_some]
          have hfe1 : turned = true → 100 * s.len = fromV s way turned := fun ht => by simp [fromV, ht]
          have hfe2 : ¬ turned = true → pre way 1 = fromV s way turned := fun ht => by simp [fromV, ht]
          have hfr : 0 ≤ fromV s way turned ∧ fromV s way turned ≤ total way := by
            by_cases ht : turned = true
            · rw [← hfe1 ht]; omega
            · rw [← hfe2 ht]; omega
          have htt : total way ≤ 18000000 := by unfold total; omega
          have h35 := f35 s way (fromV s way turned) (total way) s.top e2 hwok (by rintro rfl; simp at hwl0) hl60 hfr.1 hfr.2 htt (by omega) (by omega)
          unfold eStock waysV at h35
          have hgp := goL_pos e2 hwok hfr.1 (by omega) (by omega) htt
          have hgs := goL_small s way (total way) s.top (fromV s way turned)
          have hgst := goL_sts (s := s) (way := way) (fin := total way) (fr := fromV s way turned)
          unfold goE at hF hgst
          refine ⟨fun ht => ?_, fun ht => ?_⟩
          all_goals
            first | rw [hfe1 ht] | rw [hfe2 ht] | rw [hfe2 (by simpa using ht)]
            clear hfe1 hfe2
            generalize fromV s way turned = fr at *
            simp only [go_sem, a8, b6c]
            refine callV h35 ?_
            intro n8 v8
            cases ge : (goN s way (total way) s.top fr).isSome with
            | false =>
              rw [ge] at hF
              subst hF
              simp only [go_sem, ge, a12, b10c, a15, rC, eLeg, leg0, lI]
              try simp
            | true =>
              rw [ge] at hF
              subst hF
              have hgst := hgst (by rw [ge]; rfl)
              generalize goL s way (total way) s.top fr = sts at *
              simp only [go_sem, ge, a15, rC]
              have hgz : 0 < (endsW way).length := by omega
              refine AW_loopH [26, 27, 28, 155, 156, 157, 158, 159, 160, 161, 162, 163, 164, 165, 166, 167, 168, 169, 170, 171, 172, 173, 174, 175, 176, 177, 178, 179, 180, 181, 182, 183, 184, 185, 186, 187, 188, 189, 190, 191, 192]
                (fun (k : Nat) ρ m => ρ 155 = .int .i64 (k : Int) ∧ k ≤ leg.length ∧ ∃ h nx lv ta, m = ⟨h, [], nx, lv⟩ ∧ okN nx lv ta ∧
                  AB.hget h 8 = some (0, b6c s) ∧ AB.hget h 12 = some (0, b10c) ∧
                  AB.hget h 15 = some (0, rC ⟨100 * s.len, P, endsW way, bndL L leg, needT n L leg, asksB (legB n L s tr leg turned) fr (askS s) k, sts⟩ .no te tb tn ta .no)) (fun k => leg.length - k) 0 ?_ ?_
              · simp only [go_sem]
                exact ⟨Nat.zero_le _, _, _, _, .nil, rfl, trivial, by simp [go_sem, a8, b6c], by simp [go_sem, a12, b10c], by simp [go_sem, a15, rC, asksB, lI]⟩
              rintro k ρ4 m ⟨e155, g4, h4, nx4', lv4', ta, rfl, kta, s8, s12, s15⟩ Q4 hN4 hR4 hX4
              by_cases hlt4 : k < leg.length
              · have hlt4' : ((k : Int) < (leg.length : Int)) = True := by simp; omega
                have ewk : IntKind.i64.wrap ((k : Int) + 1) = (k : Int) + 1 := i64_in (by omega) (by omega)
                have k0 : ((0 : Int) ≤ (k : Int)) = True := by simp
                have hal : (asksB (legB n L s tr leg turned) fr (askS s) k).length ≤ 4 := by simp only [asksB, List.length_map, List.length_range]; omega
                have hbl2 : (bndL L leg).length = leg.length + 1 := by simp [bndL]
                have hgb := bndL_getD L leg k (by omega)
                have hft := flat_take L leg k
                have hwp : way.length = P.length := by rw [← hW]; simp [wayP]
                obtain ⟨b, hbk⟩ : ∃ b, (bndL L leg)[k]? = some b := ⟨_, List.getElem?_eq_getElem (by omega)⟩
                have hbv : b = 1 + (((leg.take k).flatMap fun k => (rtAt L k).st).length : Int) := by
                  rw [← hgb, List.getD_eq_getElem?_getD, hbk]; rfl
                have hbkp : (lI (bndL L leg))[k]? = some (.int .i64 b) := by unfold lI; rw [List.getElem?_map, hbk]; rfl
                have hgb2 : (bndL L leg).getD k 0 = b := by rw [List.getD_eq_getElem?_getD, hbk]; rfl
                have kb : ((k : Int) < ((bndL L leg).length : Int)) = True := by simp; omega
                obtain ⟨e, hek⟩ : ∃ e, (endsW way)[b.toNat - 1]? = some e := ⟨_, List.getElem?_eq_getElem (by omega)⟩
                have hekp : (lI (endsW way))[b.toNat - 1]? = some (.int .i64 e) := by unfold lI; rw [List.getElem?_map, hek]; rfl
                have hge2 : (endsW way).getD (b.toNat - 1) 0 = e := by rw [List.getD_eq_getElem?_getD, hek]; rfl
                have hev : 0 ≤ e ∧ e ≤ total way := by
                  obtain ⟨j, hj, rfl⟩ := List.mem_map.1 (List.mem_of_getElem? hek)
                  have hj := List.mem_range.1 hj
                  exact ⟨(pre_bd hwok (j + 1)).1, pre_mono hwok (by omega)⟩
                have ewb : IntKind.i64.wrap (b - 1) = b - 1 := i64_in (by omega) (by omega)
                have v0 : ((0 : Int) ≤ b - 1) = True := eq_true (by omega)
                have v1 : (b - 1 < (way.length : Int)) = True := eq_true (by omega)
                have v2 : (b - 1).toNat = b.toNat - 1 := by omega
                have hfar := askS_bd e2
                obtain ⟨F, hFk⟩ : ∃ F, askF (legB n L s tr leg turned) k fr (askS s) = F := ⟨_, rfl⟩
                have hFk2 := hFk
                unfold askF at hFk2
                rw [hB] at hFk2
                simp only [hgb2, hge2] at hFk2
                simp only [go_sem, e155, hlt4']
                refine drawn (by kernel_rfl) (by kernel_rfl) ?_
                simp only [go_sem, s15, rC, hll, hel, k0, kb, hbk, hbkp, Option.map_some, ewb, v0, v1, v2, hek, hekp, kDraw_eq]
                intro n9 v9 q9 r9
                have kta9 := kta.mono q9 r9
                have h36 := f36 s e2
                unfold eStock at h36
                refine AW_loopH [28, 168, 169, 170, 171, 172, 173, 174, 175, 176, 177, 178, 179, 180, 181, 182, 183, 184, 185]
                  (fun (u : Nat) ρ m => ρ 28 = .int .i64 ((u : Int) - 15) ∧ u ≤ 15 + sts.length ∧ (k = 0 → u = 0) ∧ (0 < k → (u = 0 ∨ ¬ (e - fr ≤ askS s)) ∧ idxS (fun x => decide (e - x.pos ≤ askS s)) (sts.drop (u - 15)) ((u - 15 : Nat) : Int) = idxS (fun x => decide (e - x.pos ≤ askS s)) sts 0) ∧
                    ∃ nx lv, m = ⟨h4, [], nx, lv⟩ ∧ okN nx lv ta) (fun u => 16 + sts.length - u) 0 ?_ ?_
                · simp only [go_sem]
                  exact ⟨Nat.zero_le _, fun _ => .inl trivial, _, _, rfl, kta9⟩
                rintro u ρ5 m ⟨e28, g5, j0, j1, nx6, lv6, rfl, kta6⟩ Q5 hN5 hR5 hX5
                have w9 : ∀ a : Int, a = F → lI (asksB (legB n L s tr leg turned) fr (askS s) k) ++ [DV.int .i64 a] = lI (asksB (legB n L s tr leg turned) fr (askS s) (k + 1)) := by
                  rintro a rfl
                  rw [asksB_snoc, ← hFk]; simp [lI]
                by_cases kz : k = 0
                · have kp : ((0 : Int) < (k : Int)) = False := eq_false (by omega)
                  have hu0 := j0 kz
                  rw [if_pos kz] at hFk2
                  have hFu : (u : Int) - 15 = F := by omega
                  simp only [go_sem]
                  refine drawn (by kernel_rfl) (by kernel_rfl) ?_
                  simp only [go_sem, e28, kp, kDraw_eq, hX5, s15, rC, hll]
                  intro n10 v10 q10 r10
                  refine ⟨okT_mono ((kta6.mono q10 r10).t (h := []) (o := []) (nx' := 0)) (fun j z => .inr z), by omega, ?_⟩
                  rw [w9 _ hFu, hN4]
                  simp only [go_sem, ewk]
                  refine ⟨by kernel_rfl, k + 1, ?_, by simp only; omega⟩
                  simp only [go_sem]
                  exact ⟨by simp, by omega, _, _, _, .own (n10 + 1), rfl, ⟨.inl rfl, Nat.lt_succ_self _⟩, by simp [go_sem, s8, b6c], by simp [go_sem, s12, b10c], by simp [go_sem, rC]⟩
                have kp : ((0 : Int) < (k : Int)) = True := eq_true (by omega)
                obtain ⟨j1, j2⟩ := j1 (by omega)
                rw [if_neg kz] at hFk2
                have hlt : u - 15 < sts.length := by
                  cases Nat.lt_or_ge (u - 15) sts.length with
                  | inl h => exact h
                  | inr h =>
                    rw [List.drop_eq_nil_of_le h] at j2
                    simp only [idxS] at j2
                    obtain ⟨y, hy, hyp⟩ := hgst.l
                    have := idxS_none (q := fun x => decide (e - x.pos ≤ askS s)) (Int.le_refl 0) (by omega) y hy
                    simp only [decide_eq_false_iff_not] at this
                    omega
                obtain ⟨x, hx⟩ : ∃ x, sts[u - 15]? = some x := ⟨_, List.getElem?_eq_getElem hlt⟩
                have hxp : (sts.map dSta)[u - 15]? = some (dSta x) := by rw [List.getElem?_map, hx]; rfl
                have hxb := hgp x (List.mem_of_getElem? hx)
                have ewx : IntKind.i64.wrap (e - x.pos) = e - x.pos := i64_in (by omega) (by omega)
                have hmx : max ((u : Int) - 15) 0 = ((u - 15 : Nat) : Int) := by omega
                have n0 : ((0 : Int) ≤ ((u - 15 : Nat) : Int)) = True := by simp
                have n1 : (((u - 15 : Nat) : Int) < (sts.length : Int)) = True := eq_true (by omega)
                have hz : sts[0]? = some x → ((e - x.pos ≤ askS s) ↔ (e - fr ≤ askS s)) := by
                  intro hx0'
                  obtain ⟨y, hy, hyp⟩ := hgst.z
                  rw [hx0'] at hy
                  cases hy
                  rcases hyp with h | ⟨h, h2⟩
                  · rw [h]
                  · constructor <;> intro _ <;> omega
                have hd : sts.drop (u - 15) = x :: sts.drop (u - 15 + 1) := by
                  rw [List.drop_eq_getElem_cons hlt]
                  rw [List.getElem?_eq_getElem hlt] at hx
                  cases hx; rfl
                have j3 := j2
                rw [hd] at j3
                simp only [idxS] at j3
                by_cases hq : e - x.pos ≤ askS s
                · have hq' : (askS s < e - x.pos) = False := eq_false (by omega)
                  rw [if_pos (by simp [hq])] at j3
                  have hFu : (u : Int) - 15 = F := by
                    by_cases hqf : e - fr ≤ askS s
                    · rw [if_pos hqf] at hFk2
                      rcases j1 with h | h
                      · omega
                      · exact absurd hqf h
                    · rw [if_neg hqf] at hFk2
                      by_cases h15 : u ≤ 15
                      · have h0' : u - 15 = 0 := by omega
                        rw [h0'] at hx
                        exact absurd ((hz hx).1 hq) hqf
                      · omega
                  simp only [go_sem]
                  refine drawn (by kernel_rfl) (by kernel_rfl) ?_
                  simp only [go_sem, e28, kp, s15, s8, b6c, rC, hmx, n0, n1, hx, hxp, Option.map_some, dSta, ewx]
                  refine quietD h36 (fun _ => rfl) ?_
                  simp only [go_sem, hq', kDraw_eq, hX5, s15, rC, hll]
                  intro n10 v10 q10 r10
                  refine ⟨okT_mono ((kta6.mono q10 r10).t (h := []) (o := []) (nx' := 0)) (fun j z => .inr z), by omega, ?_⟩
                  rw [w9 _ hFu, hN4]
                  simp only [go_sem, ewk]
                  refine ⟨by kernel_rfl, k + 1, ?_, by simp only; omega⟩
                  simp only [go_sem]
                  exact ⟨by simp, by omega, _, _, _, .own (n10 + 1), rfl, ⟨.inl rfl, Nat.lt_succ_self _⟩, by simp [go_sem, s8, b6c], by simp [go_sem, s12, b10c], by simp [go_sem, rC]⟩
                · have hq' : (askS s < e - x.pos) = True := eq_true (by omega)
                  rw [if_neg (by simp [hq])] at j3
                  have ewu : IntKind.i64.wrap ((u : Int) - 15 + 1) = (u : Int) - 15 + 1 := i64_in (by omega) (by omega)
                  simp only [go_sem]
                  refine drawn (by kernel_rfl) (by kernel_rfl) ?_
                  simp only [go_sem, e28, kp, s15, s8, b6c, rC, hmx, n0, n1, hx, hxp, Option.map_some, dSta, ewx]
                  refine quietD h36 (fun _ => rfl) ?_
                  have t1' : ¬ (e - fr ≤ askS s) := by
                    by_cases h0' : u = 0
                    · have h1' : u - 15 = 0 := by omega
                      rw [h1'] at hx
                      exact fun h => hq ((hz hx).2 h)
                    · rcases j1 with h | h
                      · exact absurd h h0'
                      · exact h
                  have t2' : idxS (fun x => decide (e - x.pos ≤ askS s)) (sts.drop (u + 1 - 15)) ((u + 1 - 15 : Nat) : Int) = idxS (fun x => decide (e - x.pos ≤ askS s)) sts 0 := by
                    by_cases h15 : u < 15
                    · have h1' : u + 1 - 15 = u - 15 := by omega
                      rw [h1']
                      exact j2
                    · have h1' : u + 1 - 15 = u - 15 + 1 := by omega
                      rw [h1']
                      exact_mod_cast j3
                  simp only [go_sem, hq', kDraw_eq, hN5, ewu]
                  intro n10 v10 q10 r10
                  refine ⟨by kernel_rfl, u + 1, ?_, by simp only; omega⟩
                  simp only [go_sem]
                  exact ⟨by omega, by omega, fun h => absurd h kz, fun _ => ⟨.inr t1', t2'⟩, _, _, rfl, kta6.mono q10 r10⟩
              · have hlt4' : ((k : Int) < (leg.length : Int)) = False := by simp; omega
                have hkl : k = leg.length := by omega
                rw [hkl] at s15
                simp only [go_sem, e155, hlt4', hX4, s15, s12, rC, b10c, hll, hRR, eLeg]
end Go.Proofs.YteadhjclchjfjaaGreat
