/- The law LinePlaces over its contracts, for all nets and numbers. -/
import Derived.Test.YteadhjclchjfjaaL2
namespace Go.Proofs.Yteadhjclchjfjaa
open Go.AB

theorem f69' {l : List Int} {d : List DV} (h : d = l.map fun x => DV.int .i64 x) (hl : l.length ≤ 140737488351232) : PCall Try.prog 69 [lInts l, .sl 1 d .no] (RV (.bool true)) := by
  rw [h]; exact f69 l hl

set_option maxHeartbeats 4000000 in
set_option maxRecDepth 20000 in
theorem f20 (n : Net) (s e : Int) (hb : NetB n) (h : netE n = 0) : PCall Try.prog 20 [eNet n, .int .i64 s, .int .i64 e, lInts (outsV n s e), .int .i64 (endErr n s e)] (RV (.bool true)) := by
  refine PCall.of_body Try.func20 rfl Try.ntmps20 (congrArg Array.toList Try.results20) ?_
  intro E
  have hks := netE_kinds h
  have hee := endErr_ok h s e
  simp only [go_sem, eNet, nCells, lInts]
  refine callV (f68 n s e hb hks) ?_
  intro nx lv
  by_cases hw : hasF n s e = true
  · rw [hw, if_pos rfl] at hee
    have ho : outsV n s e = outsF (kindAt n s) e := by simp [outsV, hee]
    obtain ⟨h2, h3⟩ := hasF_iff.1 hw
    obtain ⟨c, hc⟩ : ∃ c, n.sects[s.toNat]? = some c := ⟨_, List.getElem?_eq_getElem (by omega)⟩
    have hk : kindAt n s = c.kind := by simp [kindAt, hc]
    have hkc := hks c (List.mem_of_getElem? hc)
    rw [hk] at ho h3
    have a0 : ((0 : Int) ≤ s) = True := by simp; omega
    have kk : c.kind = 1 ∨ c.kind = 2 ∨ c.kind = 3 := by omega
    have w0 : IntKind.i64.wrap 0 = 0 := by rfl
    have w1 : IntKind.i64.wrap 1 = 1 := by rfl
    have w2 : IntKind.i64.wrap 2 = 2 := by rfl
    have w3 : IntKind.i64.wrap 3 = 3 := by rfl
    have w4 : IntKind.i64.wrap 4 = 4 := by rfl
    rcases kk with k | k | k
    · have he : e = 0 ∨ e = 1 := by rw [k] at h3; simp [endsF] at h3; omega
      rcases he with rfl | rfl
      · have ho2 : outsV n s 0 = [1] := by rw [ho, k]; rfl
        rw [ho2] at *
        simp only [go_sem, hw, hee, hc, dSect, a0, k, w0, w1, w2, w3, w4]
        refine callV (f69' (l := [1]) rfl (by simp)) ?_
        intro _ _
        simp only [go_sem]
      · have ho2 : outsV n s 1 = [0] := by rw [ho, k]; rfl
        rw [ho2] at *
        simp only [go_sem, hw, hee, hc, dSect, a0, k, w0, w1, w2, w3, w4]
        refine callV (f69' (l := [0]) rfl (by simp)) ?_
        intro _ _
        simp only [go_sem]
    · have he : e = 0 ∨ e = 1 ∨ e = 2 := by rw [k] at h3; simp [endsF] at h3; omega
      rcases he with rfl | rfl | rfl
      · have ho2 : outsV n s 0 = [1, 2] := by rw [ho, k]; rfl
        rw [ho2] at *
        simp only [go_sem, hw, hee, hc, dSect, a0, k, w0, w1, w2, w3, w4]
        refine callV (f69' (l := [1, 2]) rfl (by simp)) ?_
        intro _ _
        simp only [go_sem]
      · have ho2 : outsV n s 1 = [0] := by rw [ho, k]; rfl
        rw [ho2] at *
        simp only [go_sem, hw, hee, hc, dSect, a0, k, w0, w1, w2, w3, w4]
        refine callV (f69' (l := [0]) rfl (by simp)) ?_
        intro _ _
        simp only [go_sem]
      · have ho2 : outsV n s 2 = [0] := by rw [ho, k]; rfl
        rw [ho2] at *
        simp only [go_sem, hw, hee, hc, dSect, a0, k, w0, w1, w2, w3, w4]
        refine callV (f69' (l := [0]) rfl (by simp)) ?_
        intro _ _
        simp only [go_sem]
    · have he : e = 0 ∨ e = 1 ∨ e = 2 ∨ e = 3 := by rw [k] at h3; simp [endsF] at h3; omega
      rcases he with rfl | rfl | rfl | rfl
      · have ho2 : outsV n s 0 = [1] := by rw [ho, k]; rfl
        rw [ho2] at *
        simp only [go_sem, hw, hee, hc, dSect, a0, k, w0, w1, w2, w3, w4]
        refine callV (f69' (l := [1]) rfl (by simp)) ?_
        intro _ _
        simp only [go_sem]
      · have ho2 : outsV n s 1 = [0] := by rw [ho, k]; rfl
        rw [ho2] at *
        simp only [go_sem, hw, hee, hc, dSect, a0, k, w0, w1, w2, w3, w4]
        refine callV (f69' (l := [0]) rfl (by simp)) ?_
        intro _ _
        simp only [go_sem]
      · have ho2 : outsV n s 2 = [3] := by rw [ho, k]; rfl
        rw [ho2] at *
        simp only [go_sem, hw, hee, hc, dSect, a0, k, w0, w1, w2, w3, w4]
        refine callV (f69' (l := [3]) rfl (by simp)) ?_
        intro _ _
        simp only [go_sem]
      · have ho2 : outsV n s 3 = [2] := by rw [ho, k]; rfl
        rw [ho2] at *
        simp only [go_sem, hw, hee, hc, dSect, a0, k, w0, w1, w2, w3, w4]
        refine callV (f69' (l := [2]) rfl (by simp)) ?_
        intro _ _
        simp only [go_sem]
  · rw [if_neg hw] at hee
    have hw : hasF n s e = false := by simpa using hw
    have ho : outsV n s e = [] := by simp [outsV, hee]
    simp only [go_sem, hw, hee, ho]

set_option maxHeartbeats 4000000 in
set_option maxRecDepth 20000 in
theorem f21 (n : Net) (s e : Int) (hb : NetB n) (h : netE n = 0) : PCall Try.prog 21 [eNet n, .int .i64 s, .int .i64 e, .int .i64 (sigV n s e), .int .i64 (sigE2 n s e)] (RV (.bool true)) := by
  refine PCall.of_body Try.func21 rfl Try.ntmps21 (congrArg Array.toList Try.results21) ?_
  intro E
  have hks := netE_kinds h
  have hee := endErr_ok h s e
  simp only [go_sem, eNet, nCells]
  refine callV (f68 n s e hb hks) ?_
  intro nx lv
  by_cases hw : hasF n s e = true
  · rw [hw, if_pos rfl] at hee
    simp only [go_sem, hw]
    refine callV (f70 n.sigs s e hb.sg) ?_
    intro nx2 lv2
    by_cases q : sigIdx n.sigs s e 0 < 0
    · have x1 : sigE2 n s e = 9 := by simp [sigE2, hee, q]
      have x2 : sigV n s e = 0 := by simp [sigV, x1]
      simp only [go_sem, q, x1, x2]
    · have x1 : sigE2 n s e = 0 := by simp [sigE2, hee, q]
      have x2 : sigV n s e = sigIdx n.sigs s e 0 := by simp [sigV, x1]
      simp only [go_sem, q, x1, x2]
  · rw [if_neg hw] at hee
    have hw : hasF n s e = false := by simpa using hw
    have x1 : sigE2 n s e = 3 := by simp [sigE2, hee]
    have x2 : sigV n s e = 0 := by simp [sigV, x1]
    simp only [go_sem, hw, x1, x2]

set_option maxHeartbeats 4000000 in
set_option maxRecDepth 20000 in
theorem f22 (n : Net) (st : Int) (hb : NetB n) (h : netE n = 0) : PCall Try.prog 22 [eNet n, .int .i64 st, lInts (platV n st), .int .i64 (platE n st)] (RV (.bool true)) := by
  refine PCall.of_body Try.func22 rfl Try.ntmps22 (congrArg Array.toList Try.results22) ?_
  intro E
  have hsm := netE_small h
  unfold bigN at hsm
  by_cases hw : within st 0 (n.names.length - 1) = true
  · have h2 := within_iff.1 hw
    have a1 : (st < 0) = False := by simp; omega
    have a2 : ((n.names.length : Int) ≤ st) = False := by simp; omega
    have e1 : platE n st = 0 := by simp [platE, h, hw]
    have e2 : platV n st = platF n.sects st n.sects.length := by simp [platV, e1]
    simp only [go_sem, eNet, nCells, a1, a2, e1, e2]
    refine AW_loopH [9, 10, 11, 31, 32, 33, 34, 35, 36, 37, 38, 39, 40, 41, 42, 43, 44, 45]
      (fun (i : Nat) ρ m => ρ 31 = .int .i64 (i : Int) ∧ i ≤ n.sects.length ∧ (∃ tok, ρ 9 = .sl 1 ((platF n.sects st i).map fun x => DV.int .i64 x) tok ∧ okT m tok) ∧ (platF n.sects st i).length ≤ i ∧ ∃ h nx lv, m = ⟨h, [], nx, lv⟩) (fun i => n.sects.length - i) 0 ?_ ?_
    · simp [go_sem, platF]
    · rintro i ρ m ⟨e1, g1, ⟨tok, e5, hok⟩, g3, h, nx, lv, rfl⟩ Q hN hR hX
      by_cases hlt : i < n.sects.length
      · obtain ⟨p, hp⟩ : ∃ p, n.sects[i]? = some p := ⟨_, List.getElem?_eq_getElem hlt⟩
        have hlt' : ((i : Int) < (n.sects.length : Int)) = True := by simp; omega
        have h0 : ((0 : Int) ≤ (i : Int)) = True := by simp
        have ew : IntKind.i64.wrap ((i : Int) + 1) = (i : Int) + 1 := i64_in (by omega) (by omega)
        have hps : platF n.sects st (i + 1) = platF n.sects st i ++ (if p.station = IntKind.i64.wrap (st + 1) then [(i : Int)] else []) := by simp [platF, hp]
        by_cases q : p.station = IntKind.i64.wrap (st + 1)
        · have hps' : platF n.sects st (i + 1) = platF n.sects st i ++ [(i : Int)] := by rw [hps, if_pos q]
          simp only [go_sem, e1, hlt', h0, hp, dSect, q, e5, hN, ew]
          refine ⟨okT_mono hok (fun j x => .inr x), by omega, by kernel_rfl, i + 1, ?_, by simp only; omega⟩
          simp only [go_sem, hps', List.map_append]
          exact ⟨by simp, by omega, .inl trivial, by simp; omega, _, _, _, rfl⟩
        · have hps' : platF n.sects st (i + 1) = platF n.sects st i := by rw [hps, if_neg q, List.append_nil]
          simp only [go_sem, e1, hlt', h0, hp, dSect, q, e5, hN, ew]
          refine ⟨by kernel_rfl, i + 1, ?_, by simp only; omega⟩
          simp only [go_sem, hps']
          exact ⟨by simp, by omega, okT_mono hok (fun j x => x), by omega, _, _, _, rfl⟩
      · have hlt' : ((i : Int) < (n.sects.length : Int)) = False := by simp; omega
        have hi : i = n.sects.length := by omega
        subst hi
        have hf := f69 (platF n.sects st n.sects.length) (by omega)
        unfold lInts at hf
        simp only [go_sem, e1, hX, hlt', e5, lInts]
        refine callV hf ?_
        intro _ _
        simp only [go_sem]
  · have hw : within st 0 (n.names.length - 1) = false := by simpa using hw
    have e1 : platE n st = 3 := by simp [platE, h, hw]
    have e2 : platV n st = [] := by simp [platV, e1]
    by_cases a1 : st < 0
    · simp only [go_sem, eNet, nCells, lInts, a1, e1, e2]
    · have a2 : (n.names.length : Int) ≤ st := by
        have : ¬ (0 ≤ st ∧ st ≤ n.names.length - 1) := fun x => by rw [within_iff.2 x] at hw; cases hw
        omega
      simp only [go_sem, eNet, nCells, lInts, a1, a2, e1, e2]

set_option maxHeartbeats 4000000 in
set_option maxRecDepth 20000 in
theorem f3 (n : Net) (s e : Int) (hb : NetB n) : PCall Try.prog 3 [eNet n, .int .i64 s, .int .i64 e] (RV (.bool true)) := by
  refine PCall.of_body Try.func3 rfl Try.ntmps3 (congrArg Array.toList Try.results3) ?_
  intro E
  simp only [go_sem, eNet, nCells]
  refine callV (f12 n s hb) ?_
  intro nx lv
  simp only [go_sem]
  refine callV (f13 n s e hb) ?_
  intro nx lv
  simp only [go_sem]
  refine callV (f14 n s e hb) ?_
  intro nx lv
  simp only [go_sem, lInts]
  refine callV (f15 n s e hb) ?_
  intro nx lv
  simp only [go_sem]
  refine callV (f16 n s hb) ?_
  intro nx lv
  simp only [go_sem, lInts]
  refine callV (f17 n hb) ?_
  intro nx lv
  by_cases h : netE n = 0
  · simp only [go_sem, h]
    refine callV (f18 n s hb h) ?_
    intro nx lv
    simp only [go_sem]
    refine callV (f19 n s e hb h) ?_
    intro nx lv
    simp only [go_sem]
    refine callV (f20 n s e hb h) ?_
    intro nx lv
    simp only [go_sem]
    refine callV (f21 n s e hb h) ?_
    intro nx lv
    simp only [go_sem]
    refine callV (f22 n s hb h) ?_
    intro nx lv
    simp only [go_sem]
  · have x1 : endsE n s = netE n := by simp [endsE, h]
    have x2 : endErr n s e = netE n := by simp [endErr, h]
    have x3 : nextE n s e = netE n := by simp [nextE, x2, h]
    have x4 : sigE2 n s e = netE n := by simp [sigE2, x2, h]
    have x5 : platE n s = netE n := by simp [platE, h]
    have y1 : endsV n s = 0 := by simp [endsV, x1, h]
    have y2 : nextS n s e = 0 := by simp [nextS, x3, h]
    have y3 : nextI n s e = 0 := by simp [nextI, x3, h]
    have y4 : outsV n s e = [] := by simp [outsV, x2, h]
    have y5 : sigV n s e = 0 := by simp [sigV, x4, h]
    have y6 : platV n s = [] := by simp [platV, x5, h]
    simp only [go_sem, h, x1, x2, x3, x4, x5, y1, y2, y3, y4, y5, y6]

theorem law3 (xs : List DV) (h : ElDs Try.prog [28, 3, 3] xs) : PCall Try.prog 3 (xs.map toAV) (RV (.bool true)) := by
  obtain ⟨x, xs, rfl, hx, h⟩ := h.cons_inv
  obtain ⟨y, xs, rfl, hy, h⟩ := h.cons_inv
  obtain ⟨z, xs, rfl, hz, h⟩ := h.cons_inv
  cases h.nil_inv
  obtain ⟨n, hn, hb⟩ := openNet hx
  obtain ⟨s, rfl, _⟩ := hy.int_inv Try.underlying3
  obtain ⟨e, rfl, _⟩ := hz.int_inv Try.underlying3
  simp only [List.map_cons, List.map_nil, hn, toAV]
  exact f3 n s e hb
end Go.Proofs.Yteadhjclchjfjaa
