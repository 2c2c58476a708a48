/- Runs of legs: Leg of the program. -/
import Derived.Test.YteadhjclchjfjaaGreatRG3
namespace Go.Proofs.YteadhjclchjfjaaGreat
set_option linter.unusedSimpArgs false
set_option linter.unusedVariables false
open Go.AB

def rC (r : Leg) (tp te tb tn ta ts : Tok) : List AV := [.int .i64 r.len, .sl 3 (r.path.map dStp) tp, .sl 1 (lI r.ends) te, .sl 1 (lI r.bounds) tb, .sl 1 (r.needs.map dNds) tn, .sl 1 (lI r.asks) ta, .sl 3 (r.sts.map dSta) ts]
def pathT (L : List Rt) (x : Stp) (leg : List Int) : List Stp := x :: leg.flatMap fun k => (rtAt L k).st
theorem pathT_len (L : List Rt) (x : Stp) (leg : List Int) : (pathT L x leg).length = 1 + (leg.flatMap fun k => (rtAt L k).st).length := by simp [pathT]; omega
theorem pathT_snoc (L : List Rt) (x : Stp) (leg : List Int) (k : Int) : pathT L x (leg ++ [k]) = pathT L x leg ++ (rtAt L k).st := by simp [pathT]
def needT (n : Net) (L : List Rt) (leg : List Int) : List (List Nd) := leg.map fun k => needsR n (rtAt L k)
def b5c (n : Net) : List AV := [.sl 1 (n.names.map DV.str) .no, .sl 7 (n.sects.map dSect) .no, .sl 4 (n.links.map dLnk) .no, .sl 2 (n.sigs.map dPair) .no, .sl 2 (n.gates.map dPair) .no]
def b6c (s : Stock) : List AV := [.str s.name, .int .i64 s.len, .int .i64 s.mass, .int .i64 s.start, .int .i64 s.power, .int .i64 s.roll, .int .i64 s.drag, .int .i64 s.brake, .int .i64 s.top, .int .i64 s.seats]
def b10c : List AV := [.int .i64 0, .sl 3 [] .nil, .sl 1 [] .nil, .sl 1 [] .nil, .sl 1 [] .nil, .sl 1 [] .nil, .sl 3 [] .nil]
theorem own_ne {a b : Nat} (h : a ≠ b) : Tok.own a ≠ Tok.own b := fun e => h (by injection e)

theorem pre_mono {way : List Piece} (hw : way.all pieceOk = true) {i j : Nat} (h : i ≤ j) : pre way i ≤ pre way j := by
  induction j with
  | zero => have : i = 0 := by omega
            subst this; exact Int.le_refl _
  | succ j ih =>
    by_cases e : i = j + 1
    · subst e; exact Int.le_refl _
    · have := ih (by omega)
      cases hp : way[j]? with
      | none =>
        have h2 : pre way (j + 1) = pre way j := by
          unfold pre
          rw [List.take_add_one, hp]
          simp
        omega
      | some p =>
        have h2 := pre_succ hp
        have := pieceOk_iff.1 (List.all_eq_true.1 hw p (List.mem_of_getElem? hp))
        omega
theorem sec_zero {s : Stock} {way : List Piece} {fr : Int} (hc : checkS s = 0) (h0 : 0 < way.length) (hl : way.length ≤ 60) (hw : way.all pieceOk = true) (hf0 : 0 ≤ fr) (hf1 : fr ≤ total way) : secErr s way ⟨fr, 0, 0⟩ (total way) = 0 := by
  have hk := checkS_ok hc
  have hwe : wayErr way = 0 := by
    unfold wayErr
    rw [if_neg (by rintro rfl; simp at h0), if_neg (by omega), if_pos hw]
  unfold secErr
  rw [if_neg (by simp [hc]), if_neg (by simp [hwe]), if_pos]
  simp [within]
  omega
theorem goL_pos {s : Stock} {way : List Piece} {fin a : Int} (hc : checkS s = 0) (hw : way.all pieceOk = true) (h0 : 0 ≤ a) (h1 : a ≤ 18000000) (hf0 : 0 ≤ fin) (hf1 : fin ≤ 18000000) : ∀ x ∈ goL s way fin s.top a, 0 ≤ x.pos ∧ x.pos ≤ 1000000000 := by
  have hk := checkS_ok hc
  intro x hx
  unfold goL at hx
  split at hx
  · rename_i k hg
    have hkl : k < 3601 := by have := firstK_le hg; omega
    simp only [hist, List.mem_append, List.mem_map, List.mem_range, List.mem_singleton] at hx
    rcases hx with ⟨j, hj, rfl⟩ | rfl
    · have h := (stAt_ok (fin := fin) (top := s.top) hc hw (by omega) h0 h1 j (by omega)).1
      have := h.p0
      have := h.p1
      omega
    · simp only [ended]; omega
  · cases hx

theorem bndL_getD (L : List Rt) (leg : List Int) (k : Nat) (hk : k ≤ leg.length) : (bndL L leg).getD k 0 = 1 + (((leg.take k).flatMap fun k => (rtAt L k).st).length : Int) := by
  unfold bndL
  rw [List.getD_eq_getElem?_getD, List.getElem?_map, List.getElem?_range (by omega)]
  rfl
theorem flat_take (L : List Rt) (leg : List Int) (k : Nat) : ((leg.take k).flatMap fun k => (rtAt L k).st).length ≤ (leg.flatMap fun k => (rtAt L k).st).length := by
  conv => rhs; rw [← List.take_append_drop k leg, List.flatMap_append]
  simp
theorem asksB_snoc (r : Leg) (fr far : Int) (k : Nat) : asksB r fr far (k + 1) = asksB r fr far k ++ [askF r k fr far] := by
  simp [asksB, List.range_succ]

set_option maxHeartbeats 8000000 in
set_option maxRecDepth 20000 in
theorem f5 (n : Net) (hb : NetB n) (s : Stock) (hs : s.name.length ≤ 140737488351232) (tr : Int) (leg : List Int) (hlb : leg.length ≤ 140737488351232) (turned : Bool) :
    PCall Tryz.prog 5 [eNet n, eStock s, .int .i64 tr, .sl 1 (leg.map fun x => DV.int .i64 x) .no, .bool turned]
      (RV (.tup [eLeg (if legErr n s tr leg turned = 0 then legR n (netRts n) s tr leg turned else leg0), .int .i64 (legErr n s tr leg turned)])) := by
  refine PCall.of_bodyE Tryz.func5 rfl Tryz.ntmps5 (congrArg Array.toList Tryz.results5) ?_
  intro E
  have h17 := f17 n hb
  have h18 := f18 s hs
  have h19 := f19 n hb tr leg hlb
  have h20 := f20 n hb
  change PCall Tryz.prog 20 [eNet n] (RV (rtV (netRts n) (netRE n))) at h20
  unfold rtV at h20
  unfold eNet nCells at h17 h19 h20
  unfold eStock at h18
  generalize hF : legErr n s tr leg turned = F
  unfold legErr at hF
  simp only [go_sem, eNet, nCells, eStock]
  refine callV h17 ?_
  intro nx lv
  by_cases e1 : netE n = 0
  rotate_left
  · have e1' : (netE n = 0) = False := eq_false e1
    rw [if_pos e1] at hF
    subst hF
    simp only [go_sem, e1', if_false, eLeg, leg0, lI]
    try simp
  have e1' : (netE n = 0) = True := eq_true e1
  rw [if_neg (by simp [e1])] at hF
  simp only [go_sem, e1']
  refine callV h18 ?_
  intro nx2 lv2
  by_cases e2 : checkS s = 0
  rotate_left
  · have e2' : (checkS s = 0) = False := eq_false e2
    rw [if_pos e2] at hF
    subst hF
    simp only [go_sem, e2', if_false, eLeg, leg0, lI]
    try simp
  have e2' : (checkS s = 0) = True := eq_true e2
  rw [if_neg (by simp [e2])] at hF
  simp only [go_sem, e2']
  refine callV h19 ?_
  intro nx3 lv3
  by_cases e3 : netRE n = 0
  rotate_left
  · have e3' : (netRE n = 0) = False := eq_false e3
    rw [if_pos e3] at hF
    subst hF
    simp only [go_sem, e3', if_false, eLeg, leg0, lI]
    try simp
  have e3' : (netRE n = 0) = True := eq_true e3
  rw [if_neg (by simp [e3])] at hF
  rw [if_pos e3]
  by_cases e4 : legV n (netRts n) tr leg = 0
  rotate_left
  · have e4' : (legV n (netRts n) tr leg = 0) = False := eq_false e4
    rw [if_pos e4] at hF
    subst hF
    simp only [go_sem, e4', if_false, eLeg, leg0, lI]
    try simp
  have e4' : (legV n (netRts n) tr leg = 0) = True := eq_true e4
  rw [if_neg (by simp [e4])] at hF
  simp only [go_sem, e4']
  refine callV h20 ?_
  intro nx4 lv4
  have hlo := legV_ok e4
  have hLl := netRts_len n
  have hok := netRts_ok n
  have hwy := netRts_way n
  have hpath := leg_path e1 hwy hok hlo
  have hjk := hlo.ok
  have h21 : ∀ k, okR (netRts n) k = true → PCall Tryz.prog 21 [eNet n, .int .i64 k] (RV (.tup [.sl 4 ((needsR n (rtAt (netRts n) k)).map dNd) .no, .int .i64 0])) := fun k hk => by
    have h := f21 n hb k
    have hz : someE (netRts n) (netRE n) [k] = 0 := by
      simp [someE, e3, hk]
    rw [hz] at h
    simpa using h
  generalize netRts n = L at *
  -- the first route's signal
  have l0 := hlo.l0
  have l4 := hlo.l4
  obtain ⟨k0, hk0⟩ : ∃ k, leg[0]? = some k := ⟨_, List.getElem?_eq_getElem l0⟩
  have hk0p : (leg.map fun x => DV.int .i64 x)[0]? = some (.int .i64 k0) := by rw [List.getElem?_map, hk0]; rfl
  have hg0 : leg.getD 0 0 = k0 := by rw [List.getD_eq_getElem?_getD, hk0]; rfl
  obtain ⟨o0, o1, hro⟩ := okR_at (hjk k0 (List.mem_of_getElem? hk0))
  have hrk := hok _ (List.mem_of_getElem? hro)
  have hrop : (L.map dRt)[k0.toNat]? = some (dRt (rtAt L k0)) := by rw [List.getElem?_map, hro]; rfl
  have f0 := hrk.f0
  have f1 := hrk.f1
  obtain ⟨g, hg⟩ : ∃ g, n.sigs[(rtAt L k0).fr.toNat]? = some g := ⟨_, List.getElem?_eq_getElem (by omega)⟩
  have hgp : (n.sigs.map dPair)[(rtAt L k0).fr.toNat]? = some (dPair g) := by rw [List.getElem?_map, hg]; rfl
  have hge : endF2 n (rtAt L (leg.getD 0 0)).fr = g.e := by unfold endF2; rw [hg0, hg]; rfl
  have i0 : ((0 : Int) < (leg.length : Int)) = True := by simp; omega
  have i1 : ((0 : Int) ≤ k0) = True := eq_true o0
  have i2 : (k0 < (L.length : Int)) = True := eq_true o1
  have i3 : ((0 : Int) ≤ (rtAt L k0).fr) = True := eq_true f0
  have i4 : ((rtAt L k0).fr < (n.sigs.length : Int)) = True := eq_true f1
  simp only [go_sem]
  refine drawn (by kernel_rfl) (by kernel_rfl) ?_
  have hsk := checkS_ok e2
  have ew0 : IntKind.i64.wrap (100 * s.len) = 100 * s.len := i64_in (by omega) (by omega)
  simp only [go_sem, i0, i1, i2, i3, i4, hk0, hk0p, hro, hrop, hg, hgp, Option.map_some, dRt, dPair, ew0]
  intro nx5 lv5 hn5 hl5
  have hpT : legPath n L tr leg = pathT L ⟨tr, IntKind.i64.wrap (1 - g.e), g.e⟩ leg := by unfold legPath pathT; rw [hge]
  rw [hpT] at hpath
  have h22 := f22 n (pathT L ⟨tr, IntKind.i64.wrap (1 - g.e), g.e⟩ leg) hb
  have hst : ∀ k ∈ leg, (rtAt L k).st.length ≤ 16 := fun k hk => (hok _ (List.mem_of_getElem? (okR_at (hjk k hk)).2.2)).l1
  have hpl : ∀ i, (pathT L ⟨tr, IntKind.i64.wrap (1 - g.e), g.e⟩ (leg.take i)).length ≤ 65 := fun i => by
    rw [pathT_len]
    have := legs_len hok (leg.take i) (fun j hj => hjk j (List.mem_of_mem_take hj))
    have h3 : (leg.take i).length ≤ 4 := by rw [List.length_take]; omega
    omega
  rw [show DV.agg [DV.int IntKind.i64 tr, DV.int IntKind.i64 (IntKind.i64.wrap (1 - g.e)), DV.int IntKind.i64 g.e] = dStp ⟨tr, IntKind.i64.wrap (1 - g.e), g.e⟩ from rfl]
  generalize (⟨tr, IntKind.i64.wrap (1 - g.e), g.e⟩ : Stp) = x0 at *
  have hll : ∀ l : List Int, (lI l).length = l.length := fun l => by simp [lI]
  refine AW_loopH [20, 21, 22, 82, 83, 84, 85, 86, 87, 88, 89, 90, 91, 92, 93, 94, 95, 96, 97, 98, 99, 100, 101, 102, 103, 104, 105, 106, 107, 108, 109, 110, 111, 112, 113, 114, 115]
    (fun (i : Nat) ρ m => ρ 82 = .int .i64 (i : Int) ∧ i ≤ leg.length ∧ ∃ h nx lv tp tb tn, m = ⟨h, [], nx, lv⟩ ∧ okN nx lv tp ∧ okN nx lv tb ∧ okN nx lv tn ∧ tb ≠ tp ∧ tn ≠ tp ∧ tn ≠ tb ∧
      AB.hget h 5 = some (0, b5c n) ∧ AB.hget h 6 = some (0, b6c s) ∧ AB.hget h 10 = some (0, b10c) ∧
      AB.hget h 18 = some (0, rC ⟨100 * s.len, pathT L x0 (leg.take i), [], bndL L (leg.take i), needT n L (leg.take i), [], []⟩ tp .nil tb tn .nil .nil)) (fun i => leg.length - i) 0 ?_ ?_
  · simp only [go_sem]
    refine ⟨Nat.zero_le _, _, _, _, .own nx5, .own (nx5 + 1), .nil, rfl, ⟨.inr (.inl rfl), by omega⟩, ⟨.inl rfl, by omega⟩, trivial, own_ne (by omega), (by intro e; cases e), (by intro e; cases e), ?_, ?_, ?_, ?_⟩
    · simp [go_sem, b5c]
    · simp [go_sem, b6c]
    · simp [go_sem, b10c]
    · simp [go_sem, rC, pathT, bndL, needT, lI]
  rintro i ρ m ⟨e82, g1, h, nx, lv, tp, tb, tn, rfl, ktp, ktb, ktn, d1, d2, d3, b5, b6, b10, b18⟩ Q hN' hR hX
  by_cases hlt : i < leg.length
  · obtain ⟨k, hk⟩ : ∃ k, leg[i]? = some k := ⟨_, List.getElem?_eq_getElem hlt⟩
    have hkp : (leg.map fun x => DV.int .i64 x)[i]? = some (.int .i64 k) := by rw [List.getElem?_map, hk]; rfl
    have hkm := List.mem_of_getElem? hk
    obtain ⟨c0, c1, hrk2⟩ := okR_at (hjk k hkm)
    have hrkp : (L.map dRt)[k.toNat]? = some (dRt (rtAt L k)) := by rw [List.getElem?_map, hrk2]; rfl
    have hlt' : ((i : Int) < (leg.length : Int)) = True := by simp; omega
    have h0 : ((0 : Int) ≤ (i : Int)) = True := by simp
    have u1 : ((0 : Int) ≤ k) = True := eq_true c0
    have u2 : (k < (L.length : Int)) = True := eq_true c1
    have ew : IntKind.i64.wrap ((i : Int) + 1) = (i : Int) + 1 := i64_in (by omega) (by omega)
    have htk : leg.take (i + 1) = leg.take i ++ [k] := by rw [List.take_add_one, hk]; rfl
    have hpl1 := hpl i
    have hpl2 := hpl (i + 1)
    have hsl := hst k hkm
    simp only [go_sem, e82, hlt', h0, hk, hkp, Option.map_some]
    refine drawnP [2, 2, 2, 2, 2, 2, 2, 3, 1, 1] [(7, [0, 0, 0, 0, 0, 0, 0, 0, 2, 3]), (9, [0, 0, 0, 0, 0, 0, 0, 0, 0, 0])] 210 (by kernel_rfl) (by kernel_rfl) (by kernel_rfl) (by kernel_rfl) rfl ?_
    have hbl : (bndL L (leg.take i)).length ≤ 10 := by simp [bndL]; omega
    simp only [go_sem, b18, rC, u1, u2, hrk2, hrkp, Option.map_some, dRt, b5, b5c, hll]
    intro n1 v1 q1 r1
    refine ⟨(ktp.mono q1 r1).t, by omega, ?_⟩
    intro n2 v2 q2 r2 n3 v3 q3 r3
    have k2tb : okN n2 v2 tb := (ktb.mono q1 r1).keep (by omega) (fun j e hj z => r2 j (.inr ⟨z, fun e2 => d1 (e.trans e2.symm)⟩))
    have k2tn : okN n2 v2 tn := (ktn.mono q1 r1).keep (by omega) (fun j e hj z => r2 j (.inr ⟨z, fun e2 => d2 (e.trans e2.symm)⟩))
    have k2tp : okN n2 v2 (.own n1) := ⟨r2 _ (.inl rfl), by omega⟩
    have htb : tb ≠ .own n1 := by
      rintro rfl
      have := ktb.2
      omega
    have htn : tn ≠ .own n1 := by
      rintro rfl
      have := ktn.2
      omega
    refine ⟨okT_mono ((k2tb.mono q3 r3).t (h := []) (o := []) (nx' := 0)) fun j z => .inr z, by omega, ?_⟩
    refine callVt (h21 k (hjk k hkm)) ?_
    intro n5 v5 q5 r5
    have q5' : n3 + 1 + 1 ≤ n5 := q5
    have k5tn : okN n5 v5 tn := (k2tn.mono q3 r3).keep (by simp only at q5; omega) (fun j e hj z => r5 j (.inr ⟨.inr z, fun e2 => d3 (e.trans e2.symm)⟩))
    have k5tp : okN n5 v5 (.own n1) := (k2tp.mono q3 r3).keep (by simp only at q5; omega) (fun j e hj z => r5 j (.inr ⟨.inr z, fun e2 => htb (e2.trans e.symm)⟩))
    have k5tb : okN n5 v5 (.own (n3 + 1)) := ⟨r5 _ (.inl rfl), by simp only at q5; omega⟩
    simp only [go_sem]
    refine ⟨okT_mono (k5tn.t (h := []) (o := []) (nx' := 0)) fun j z => .inr z, by simp only [needT, List.length_map, List.length_take]; omega, ?_⟩
    have k6tp : okN (n5 + 1 + 1) (fun j => j = n5 + 1 ∨ (j = n5 ∨ v5 j) ∧ ¬ tn = .own j) (.own n1) := k5tp.keep (by omega) (fun j e hj z => .inr ⟨.inr z, fun e2 => htn (e2.trans e.symm)⟩)
    have htn2 : tn ≠ .own (n3 + 1) := by
      rintro rfl
      have := ktn.2
      omega
    have k6tb : okN (n5 + 1 + 1) (fun j => j = n5 + 1 ∨ (j = n5 ∨ v5 j) ∧ ¬ tn = .own j) (.own (n3 + 1)) := k5tb.keep (by omega) (fun j e hj z => .inr ⟨.inr z, fun e2 => htn2 (e2.trans e.symm)⟩)
    have w1 : (pathT L x0 (leg.take i)).map dStp ++ (rtAt L k).st.map dStp = (pathT L x0 (leg.take (i + 1))).map dStp := by rw [htk, pathT_snoc, List.map_append]
    have w2 : lI (bndL L (leg.take i)) ++ [DV.int .i64 (((pathT L x0 (leg.take (i + 1))).map dStp).length : Int)] = lI (bndL L (leg.take (i + 1))) := by
      rw [bndL_take L leg i hlt, lI, lI, List.map_append, List.length_map, pathT_len]; rfl
    have w3 : (needT n L (leg.take i)).map dNds ++ [DV.sl 4 ((needsR n (rtAt L k)).map dNd)] = (needT n L (leg.take (i + 1))).map dNds := by
      rw [htk]; simp [needT, dNds]
    rw [w1, w2, w3, hN']
    simp only [go_sem, ew]
    refine ⟨by kernel_rfl, i + 1, ?_, by simp only; omega⟩
    simp only [go_sem]
    exact ⟨by simp, by omega, _, _, _, .own n1, .own (n3 + 1), .own (n5 + 1), rfl, k6tp, k6tb, ⟨.inl rfl, Nat.lt_succ_self _⟩, own_ne (by omega), own_ne (by omega), own_ne (by omega),
      by simp [go_sem, b5], by simp [go_sem, b6], by simp [go_sem, b10], by simp [go_sem, rC]⟩
  · have hlt' : ((i : Int) < (leg.length : Int)) = False := by simp; omega
    rw [List.take_of_length_le (by omega)] at b18
    have hpl1 := hpl leg.length
    rw [List.take_length] at hpl1
    obtain ⟨xl, hxl, hxs, hxo⟩ := legPath_last hok (tr := tr) (leg := leg) (by omega) hjk
    rw [hpT] at hxl
    have hp0 : 0 < (pathT L x0 leg).length := by rw [pathT_len]; omega
    have hxp : ((pathT L x0 leg).map dStp)[(pathT L x0 leg).length - 1]? = some (dStp xl) := by rw [List.getElem?_map, hxl]; rfl
    have y1 : IntKind.i64.wrap (((pathT L x0 leg).length : Int) - 1) = ((pathT L x0 leg).length : Int) - 1 := i64_in (by omega) (by omega)
    have y2 : ((0 : Int) ≤ ((pathT L x0 leg).length : Int) - 1) = True := eq_true (by omega)
    have y3 : (((pathT L x0 leg).length : Int) - 1 < ((pathT L x0 leg).length : Int)) = True := eq_true (by omega)
    have y4 : (((pathT L x0 leg).length : Int) - 1).toNat = (pathT L x0 leg).length - 1 := by omega
    simp only [go_sem, e82, hlt', hX, b18, rC, y1, y2, y3, y4, hxl, hxp, Option.map_some, dStp]
    -- the sections' lengths
    have hp : 0 ≤ tr ∧ tr < n.sects.length := by
      have := hlo.p
      simp only [pltF, within, Bool.and_eq_true, decide_eq_true_eq] at this
      omega
    obtain ⟨x0', x1'⟩ := hxo.sec
    obtain ⟨ca, hca⟩ : ∃ c, n.sects[tr.toNat]? = some c := ⟨_, List.getElem?_eq_getElem (by omega)⟩
    obtain ⟨cb, hcb⟩ : ∃ c, n.sects[xl.s.toNat]? = some c := ⟨_, List.getElem?_eq_getElem (by omega)⟩
    have hcap : (n.sects.map dSect)[tr.toNat]? = some (dSect ca) := by rw [List.getElem?_map, hca]; rfl
    have hcbp : (n.sects.map dSect)[xl.s.toNat]? = some (dSect cb) := by rw [List.getElem?_map, hcb]; rfl
    have z1 : ((0 : Int) ≤ tr) = True := eq_true hp.1
    have z2 : (tr < (n.sects.length : Int)) = True := eq_true hp.2
    have z3 : ((0 : Int) ≤ xl.s) = True := eq_true x0'
    have z4 : (xl.s < (n.sects.length : Int)) = True := eq_true x1'
    have ew2 : IntKind.i64.wrap (s.len + 2) = s.len + 2 := i64_in (by omega) (by omega)
    refine drawn (by kernel_rfl) (by kernel_rfl) ?_
    have hsa : shortL n s tr = decide (ca.len < s.len + 2) := by simp [shortL, hca]
    have hsb : shortL n s (lastS L leg) = decide (cb.len < s.len + 2) := by simp [shortL, ← hxs, hcb]
    unfold runLE at hF
    rw [hsa, hsb] at hF
    by_cases sa : ca.len < s.len + 2
    · have sa' : (ca.len < s.len + 2) = True := eq_true sa
      rw [if_pos (by simp [sa])] at hF
      subst hF
      simp only [go_sem, b5, b6, b5c, b6c, z1, z2, hca, hcap, Option.map_some, dSect, ew2, sa', kDraw_eq, b10, b10c, eLeg, leg0, lI]
      try simp
    have sa' : (ca.len < s.len + 2) = False := eq_false sa
    by_cases sb : cb.len < s.len + 2
    · have sb' : (cb.len < s.len + 2) = True := eq_true sb
      rw [if_pos (by simp [sb])] at hF
      subst hF
      simp only [go_sem, b5, b6, b5c, b6c, z1, z2, z3, z4, hca, hcap, hcb, hcbp, Option.map_some, dSect, ew2, sa', sb', kDraw_eq, b10, b10c, eLeg, leg0, lI]
      try simp
    have sb' : (cb.len < s.len + 2) = False := eq_false sb
    rw [if_neg (by simp [sa, sb])] at hF
    have hck : checkP n (pathT L x0 leg) = 0 := by unfold checkP; rw [if_neg (by simp [e1]), hpath]
    have hpcs : pcsV n (pathT L x0 leg) = (pathT L x0 leg).map (pcF n) := by unfold pcsV; rw [if_neg (by simp [hck])]
    have h22 := h22 (by omega)
    rw [hck, hpcs, wayP_eq] at h22
    unfold eNet nCells at h22
    have hall : ∀ x ∈ pathT L x0 leg, 0 ≤ x.s ∧ x.s < n.sects.length := by
      intro x hx
      simp only [pathT, List.mem_cons, List.mem_flatMap] at hx
      rcases hx with rfl | ⟨k, hk, hx⟩
      · have : x.s = tr := by
          have := congrArg (fun l => (l[0]?).map Stp.s) hpT
          simpa [legPath, pathT] using this.symm
        rw [this]
        exact hp
      · exact ((hok _ (List.mem_of_getElem? (okR_at (hjk k hk)).2.2)).st x hx).sec
    simp only [go_sem, b5, b6, b18, rC, b5c, b6c, z1, z2, z3, z4, hca, hcap, hcb, hcbp, Option.map_some, dSect, ew2, sa', sb', kDraw_eq]
    intro n6 v6 q6 r6
    refine callV h22 ?_
    intro n7 v7
    have hwl : (wayP n (pathT L x0 leg)).length ≤ 65 := by simp only [wayP, List.length_map]; omega
    have hwl0 : 0 < (wayP n (pathT L x0 leg)).length := by simp only [wayP, List.length_map]; omega
    have hwok : (wayP n (pathT L x0 leg)).all pieceOk = true := by
      simp only [wayP, List.all_map, List.all_eq_true, Function.comp]
      intro x hx
      have := (pcF_ok e1 (hall x hx)).1
      obtain ⟨k1, k2, k3⟩ := this
      rw [pieceOk_iff]
      simp only
      omega
    have hend : endsW (wayP n (pathT L x0 leg)) = (legB n L s tr leg turned).ends := by unfold legB; rw [hpT]
    generalize hW : wayP n (pathT L x0 leg) = way at *
    simp only [go_sem]
    refine AW_loopH [26, 28, 157, 158, 159, 160, 161, 162, 163, 164, 165, 166, 167, 168, 169, 170, 171]
      (fun (j : Nat) ρ m => ρ 157 = .int .i64 (j : Int) ∧ ρ 26 = .int .i64 (pre way j) ∧ j ≤ way.length ∧ ∃ h nx lv te, m = ⟨h, [], nx, lv⟩ ∧ okN nx lv te ∧
        AB.hget h 5 = some (0, b5c n) ∧ AB.hget h 6 = some (0, b6c s) ∧ AB.hget h 10 = some (0, b10c) ∧
        AB.hget h 18 = some (0, rC ⟨100 * s.len, pathT L x0 leg, endsW (way.take j), bndL L leg, needT n L leg, [], []⟩ tp te tb tn .nil .nil)) (fun j => way.length - j) 0 ?_ ?_
    · simp only [go_sem]
      exact ⟨by simp [pre], Nat.zero_le _, _, _, _, .nil, rfl, trivial, by simp [go_sem, b5, b5c], by simp [go_sem, b6, b6c], by simp [go_sem, b10, b10c], by simp [go_sem, b18, rC, endsW]⟩
    rintro j ρ2 m ⟨e157, e26, g2, h2, nx2, lv2, te, rfl, kte, c5, c6, c10, c18⟩ Q2 hN2 hR2 hX2
    by_cases hlt2 : j < way.length
    · obtain ⟨pc, hpc⟩ : ∃ p, way[j]? = some p := ⟨_, List.getElem?_eq_getElem hlt2⟩
      have hpcp : (way.map dPiece)[j]? = some (dPiece pc) := by rw [List.getElem?_map, hpc]; rfl
      have hlt2' : ((j : Int) < (way.length : Int)) = True := by simp; omega
      have h02 : ((0 : Int) ≤ (j : Int)) = True := by simp
      have ewj : IntKind.i64.wrap ((j : Int) + 1) = (j : Int) + 1 := i64_in (by omega) (by omega)
      have hps : pre way (j + 1) = pre way j + pc.len := pre_succ hpc
      have hpb := pre_bd hwok j
      have hpb2 := pre_bd hwok (j + 1)
      have ews : IntKind.i64.wrap (pre way j + pc.len) = pre way (j + 1) := by rw [← hps]; exact i64_in (by omega) (by omega)
      have hel : (endsW (way.take j)).length ≤ 65 := by simp only [endsW, List.length_map, List.length_range, List.length_take]; omega
      obtain ⟨g28, hg28⟩ : ∃ g, genO (AB.hget h2 28) = g := ⟨_, rfl⟩
      simp only [go_sem, e157, e26, hlt2', h02, hpc, hpcp, Option.map_some, dPiece, hg28, c18, rC, ews, hll]
      refine ⟨okT_mono (kte.t (h := []) (o := []) (nx' := 0)) fun j z => .inr z, by omega, ?_⟩
      have w1 : lI (endsW (way.take j)) ++ [DV.int .i64 (pre way (j + 1))] = lI (endsW (way.take (j + 1))) := by
        rw [endsW_take way j hlt2]; simp [lI]
      rw [w1, hN2]
      simp only [go_sem, ewj]
      refine ⟨by kernel_rfl, j + 1, ?_, by simp only; omega⟩
      simp only [go_sem]
      exact ⟨by simp, by omega, _, _, _, .own (nx2 + 1), rfl, ⟨.inl rfl, Nat.lt_succ_self _⟩, by simp [go_sem, c5], by simp [go_sem, c6], by simp [go_sem, c10], by simp [go_sem, rC]⟩
    · have hlt2' : ((j : Int) < (way.length : Int)) = False := by simp; omega
      have hjw : j = way.length := by omega
      rw [List.take_of_length_le (by omega)] at c18
      rw [hjw] at e26
      change ρ2 26 = .int .i64 (total way) at e26
      have hel : (endsW way).length = way.length := by simp [endsW]
      have hen0 : (endsW way)[0]? = some (pre way 1) := by simp [endsW, hwl0]
      have hen0p : (lI (endsW way))[0]? = some (.int .i64 (pre way 1)) := by unfold lI; rw [List.getElem?_map, hen0]; rfl
      have t1 : ((0 : Int) < (way.length : Int)) = True := by simp; omega
      simp only [go_sem, e157, e26, hlt2', hX2, c18, rC, hll, hel, t1, hen0, hen0p, Option.map_some]
      have hl60 : way.length ≤ 60 := by
        have := hpath
        unfold pathE at this
        split at this
        · cases this
        · have h3 : way.length = (pathT L x0 leg).length := by rw [← hW]; simp [wayP]
          omega
      have ht0 : pre way 1 ≤ total way := pre_mono hwok (by omega)
      have htb := pre_bd hwok way.length
      have hp1 : pre way 1 = 100 * ca.len := by
        have h3 : way[0]? = some ⟨(pcF n x0).l, (pcF n x0).g, (pcF n x0).v⟩ := by rw [← hW]; simp [wayP, pathT]
        have h4 := pre_succ h3
        rw [pre_zero] at h4
        have h5 := (pcF_ok e1 (hall x0 (by simp [pathT]))).2
        have h6 : x0.s = tr := by
          have := congrArg (fun l => (l[0]?).map Stp.s) hpT
          simpa [legPath, pathT] using this.symm
        have h7 : lenAt n x0 = ca.len := by unfold lenAt; rw [h6, hca]; rfl
        have h8 : pre way 1 = 0 + (pcF n x0).l := h4
        rw [h8, h5, h7, Int.zero_add]
      have hB : legB n L s tr leg turned = ⟨100 * s.len, pathT L x0 leg, endsW way, bndL L leg, needT n L leg, [], goL s way (total way) s.top (fromV s way turned)⟩ := by
        unfold legB; rw [hpT, hW]; rfl
      have hRR : legR n L s tr leg turned = ⟨100 * s.len, pathT L x0 leg, endsW way, bndL L leg, needT n L leg, asksB (legB n L s tr leg turned) (fromV s way turned) (askS s) leg.length, goL s way (total way) s.top (fromV s way turned)⟩ := by
        unfold legR; rw [hpT, hW]; rfl
      rw [hpT, hW] at hF
      have hfe1 : turned = true → 100 * s.len = fromV s way turned := fun ht => by simp [fromV, ht]
      have hfe2 : ¬ turned = true → pre way 1 = fromV s way turned := fun ht => by simp [fromV, ht]
      have hfr : 0 ≤ fromV s way turned ∧ fromV s way turned ≤ total way := by
        by_cases ht : turned = true
        · rw [← hfe1 ht]; omega
        · rw [← hfe2 ht]; omega
      refine ⟨fun ht => ?_, fun ht => ?_⟩
      all_goals
        first | rw [hfe1 ht] | rw [hfe2 ht] | rw [hfe2 (by simpa using ht)]
        clear hfe1 hfe2
        generalize fromV s way turned = fr at *
        have htt : total way ≤ 18000000 := by unfold total; omega
        have h23 := f23 s way fr (total way) hs
        have hse := sec_zero e2 hwl0 hl60 hwok hfr.1 hfr.2
        unfold runV runE at h23
        rw [hse, if_neg (by simp), if_neg (by simp)] at h23
        unfold eStock waysV goV at h23
        simp only [go_sem, c6, b6c]
        refine callV h23 ?_
        intro n8 v8
        have hgp := goL_pos e2 hwok hfr.1 (by omega) (by omega) htt
        have hgs := goL_small s way (total way) s.top fr
        have hg0 : goE s way (total way) s.top fr ≠ 0 → True := fun _ => trivial
        by_cases ge : goE s way (total way) s.top fr = 0
        rotate_left
        · have ge' : (goE s way (total way) s.top fr = 0) = False := eq_false ge
          subst hF
          simp only [go_sem, ge', if_false, c10, b10c, c18, rC, eLeg, leg0, lI]
          try simp
        have ge' : (goE s way (total way) s.top fr = 0) = True := eq_true ge
        rw [ge] at hF
        subst hF
        generalize goL s way (total way) s.top fr = sts at *
        simp only [go_sem, ge', c18, rC]
        refine AW_loopH [31, 194, 195, 196, 197, 198, 199, 200, 201, 202, 203, 204, 205, 206, 207, 208]
          (fun (k : Nat) ρ m => ρ 194 = .int .i64 (k : Int) ∧ k ≤ leg.length ∧ ∃ h nx lv ta, m = ⟨h, [], nx, lv⟩ ∧ okN nx lv ta ∧
            AB.hget h 6 = some (0, b6c s) ∧ AB.hget h 10 = some (0, b10c) ∧
            AB.hget h 18 = some (0, rC ⟨100 * s.len, pathT L x0 leg, endsW way, bndL L leg, needT n L leg, asksB (legB n L s tr leg turned) fr (askS s) k, sts⟩ tp te tb tn ta .no)) (fun k => leg.length - k) 0 ?_ ?_
        · simp only [go_sem]
          exact ⟨Nat.zero_le _, _, _, _, .nil, rfl, trivial, by simp [go_sem, c6, b6c], by simp [go_sem, c10, b10c], by simp [go_sem, c18, rC, asksB, lI]⟩
        rintro k ρ3 m ⟨e194, g3, h3, nx3, lv3, ta, rfl, kta, s6, s10, s18⟩ Q3 hN3 hR3 hX3
        by_cases hlt3 : k < leg.length
        · have hlt3' : ((k : Int) < (leg.length : Int)) = True := by simp; omega
          have ewk : IntKind.i64.wrap ((k : Int) + 1) = (k : Int) + 1 := i64_in (by omega) (by omega)
          have hal : (asksB (legB n L s tr leg turned) fr (askS s) k).length ≤ 4 := by simp only [asksB, List.length_map, List.length_range]; omega
          simp only [go_sem, e194, hlt3']
          refine drawnP [2, 2, 2, 2, 2, 2, 2, 2, 3, 1, 1, 1] [(8, [2, 2, 0, 0, 0, 0, 0, 0, 0, 3, 1, 1]), (9, [0, 0, 0, 0, 0, 0, 0, 0, 0, 0, 2, 3]), (11, [0, 0, 0, 0, 0, 0, 0, 0, 0, 0, 0, 0])] 210 (by kernel_rfl) (by kernel_rfl) (by kernel_rfl) (by kernel_rfl) rfl ?_
          simp only [go_sem, s6, s18, rC, b6c, hll]
          have h25 := f25 s e2
          unfold eStock at h25
          have hbl2 : (bndL L leg).length = leg.length + 1 := by simp [bndL]
          have hgb := bndL_getD L leg k (by omega)
          have hft := flat_take L leg k
          have hwp : way.length = (pathT L x0 leg).length := by rw [← hW]; simp [wayP]
          rw [pathT_len] at hwp
          have h24 := f24 ⟨100 * s.len, pathT L x0 leg, endsW way, bndL L leg, needT n L leg, asksB (legB n L s tr leg turned) fr (askS s) k, sts⟩ k fr (askS s)
            (by simp only; omega) (by simp only; omega) (by simp only; omega) (by simp only; omega) (by simp only; omega)
            (fun e he => by
              simp only [endsW, List.mem_map, List.mem_range] at he
              obtain ⟨j, hj, rfl⟩ := he
              have := pre_bd hwok (j + 1)
              omega) (by omega) (by simp only; omega) hgp
          unfold eLeg at h24
          have hae : askF ⟨100 * s.len, pathT L x0 leg, endsW way, bndL L leg, needT n L leg, asksB (legB n L s tr leg turned) fr (askS s) k, sts⟩ k fr (askS s) = askF (legB n L s tr leg turned) k fr (askS s) := by rw [hB]; rfl
          rw [hae] at h24
          refine quietD h25 (fun _ => rfl) ?_
          simp only [go_sem, s18, rC, hll]
          refine quietD h24 (fun _ => rfl) ?_
          simp only [go_sem, s18, rC, hll]
          intro m1 w1 a1 b1 m2 w2 a2 b2
          have kta2 : okN m2 w2 ta := (kta.mono a1 b1).mono (by omega) (fun j z => b2 j (.inr z))
          refine ⟨kta2.t, by omega, ?_⟩
          intro m3 w3 a3 b3 m4 w4 a4 b4
          have v1 : lI (asksB (legB n L s tr leg turned) fr (askS s) k) ++ [DV.int .i64 (askF (legB n L s tr leg turned) k fr (askS s))] = lI (asksB (legB n L s tr leg turned) fr (askS s) (k + 1)) := by
            rw [asksB_snoc]; simp [lI]
          rw [v1, hN3]
          simp only [go_sem, ewk]
          refine ⟨by kernel_rfl, k + 1, ?_, by simp only; omega⟩
          simp only [go_sem]
          exact ⟨by simp, by omega, _, _, _, .own m2, rfl, ⟨b4 _ (b3 _ (.inl rfl)), by omega⟩, by simp [go_sem, s6, b6c], by simp [go_sem, s10, b10c], by simp [go_sem, rC]⟩
        · have hlt3' : ((k : Int) < (leg.length : Int)) = False := by simp; omega
          have hkl : k = leg.length := by omega
          rw [hkl] at s18
          simp only [go_sem, e194, hlt3', hX3, s18, s10, rC, b10c, hll, hRR, eLeg]
end Go.Proofs.YteadhjclchjfjaaGreat
