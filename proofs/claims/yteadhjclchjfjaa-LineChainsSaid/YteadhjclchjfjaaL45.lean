/- Chains: all of the reference's; the law. -/
import Derived.Test.YteadhjclchjfjaaL44
namespace Go.Proofs.Yteadhjclchjfjaa
set_option linter.unusedSimpArgs false
set_option linter.unusedVariables false
open Go.AB

theorem netE_stat {n : Net} (h : netE n = 0) : ∀ s ∈ n.sects, 0 ≤ s.station := by
  have hs : secsE n = 0 := by
    unfold netE at h
    split at h
    · cases h
    · split at h
      · cases h
      · split at h
        · rename_i h1; exact absurd h h1
        · split at h
          · rename_i h1; exact absurd h h1
          · rename_i h1
            simpa using h1
  intro s hm
  obtain ⟨i, hi, rfl⟩ := List.getElem_of_mem hm
  have := firstE_zero (j := i) hs (Nat.zero_le _) (by omega)
  simp only [secAt, List.getElem?_eq_getElem hi] at this
  unfold secE at this
  split at this
  · cases this
  · split at this
    · cases this
    · split at this
      · cases this
      · split at this
        · cases this
        · rename_i h2 h3 h4
          simp [within] at h3 h4
          grind

set_option maxHeartbeats 4000000 in
set_option maxRecDepth 20000 in
theorem f53 (n : Net) (hb : NetB n) (he : netE n = 0) (s : Int) : PCall Try.prog 53 [eNet n, .int .i64 s] (RV (.bool (pltF n s))) := by
  refine PCall.of_body Try.func53 rfl Try.ntmps53 (congrArg Array.toList Try.results53) ?_
  intro E
  have hsc := hb.sc
  generalize hF : pltF n s = F
  unfold pltF within at hF
  simp only [go_sem, eNet, nCells]
  by_cases a1 : 0 ≤ s
  rotate_left
  · have a1' : ((0 : Int) ≤ s) = False := eq_false a1
    rw [decide_eq_false a1] at hF
    simp at hF
    subst hF
    simp only [go_sem, a1']
  have a1' : ((0 : Int) ≤ s) = True := eq_true a1
  by_cases a2 : s < n.sects.length
  rotate_left
  · have a2' : (s < (n.sects.length : Int)) = False := eq_false a2
    rw [decide_eq_false (show ¬ s ≤ (n.sects.length : Int) - 1 by omega)] at hF
    simp at hF
    subst hF
    simp only [go_sem, a1', a2']
  have a2' : (s < (n.sects.length : Int)) = True := eq_true a2
  obtain ⟨c, hc⟩ : ∃ c, n.sects[s.toNat]? = some c := ⟨_, List.getElem?_eq_getElem (by omega)⟩
  have hc2 : (n.sects.map dSect)[s.toNat]? = some (dSect c) := by rw [List.getElem?_map, hc]; rfl
  have hsa : statAt n s = c.station := by simp [statAt, hc]
  have hcs := netE_stat he c (List.mem_of_getElem? hc)
  rw [decide_eq_true a1, decide_eq_true (show s ≤ (n.sects.length : Int) - 1 by omega), hsa] at hF
  have hF' : decide (0 < c.station) = F := by
    rw [← hF]
    by_cases z : c.station = 0 <;> simp [z]
    omega
  subst hF'
  simp only [go_sem, a1', a2', hc, hc2, Option.map_some, dSect]

set_option maxHeartbeats 4000000 in
set_option maxRecDepth 20000 in
theorem f54 (n : Net) (hb : NetB n) (he : netE n = 0) (L : List Rt) (hL : L.length ≤ 1000) (hok : ∀ r ∈ L, RtOk n r) (tr to most : Int) (h0 : 0 ≤ most) (hm : most ≤ 20) :
    PCall Try.prog 54 [eNet n, .sl 3 (L.map dRt) .no, .int .i64 tr, .int .i64 to, .int .i64 most] (RV (.sl 1 ((chainsR n L tr to most).map dLeg) .no)) := by
  refine PCall.of_bodyE Try.func54 rfl Try.ntmps54 (congrArg Array.toList Try.results54) ?_
  intro E
  unfold chainsR
  simp only [go_sem, eNet, nCells]
  refine .inr (callRc (out := []) (tok := .nil) (rest := [eNet n, .sl 3 (L.map dRt) .no, .int .i64 tr, .int .i64 to, .int .i64 most, .sl 1 (([] : List Int).map fun x => DV.int .i64 x) .nil]) (l := .own 11 0) (f99 n hb he tr L hL hok to most hm 5 [] .nil [] .nil _ _ rfl (by simp) (by simp) (by simpa using h0) trivial) rfl rfl ?_)
  intro tok7 nx7 lv7 hok7
  simp only [go_sem]
  try simp

set_option maxHeartbeats 4000000 in
set_option maxRecDepth 20000 in
theorem f35 (a : List (List Int)) (ha : a.length ≤ 20) (hb : ∀ x ∈ a, x.length ≤ 5) : PCall Try.prog 35 [.sl 1 (a.map dLeg) .no, .sl 1 (a.map dLeg) .no] (RV (.bool true)) := by
  refine PCall.of_body Try.func35 rfl Try.ntmps35 (congrArg Array.toList Try.results35) ?_
  intro E
  simp only [go_sem]
  refine AW_loopH [4, 5, 13, 14, 15, 16, 17, 18, 19, 20, 21, 22, 23, 24, 25, 26]
    (fun (i : Nat) ρ m => ρ 13 = .int .i64 (i : Int) ∧ i ≤ a.length ∧ ∃ h nx lv, m = ⟨h, [], nx, lv⟩) (fun i => a.length - i) 0 ?_ ?_
  · simp only [go_sem]
    exact ⟨Nat.zero_le _, _, _, _, rfl⟩
  rintro i ρ m ⟨e13, g1, h, nx, lv, rfl⟩ Q hN hR hX
  by_cases hlt : i < a.length
  · obtain ⟨x, hx⟩ : ∃ x, a[i]? = some x := ⟨_, List.getElem?_eq_getElem hlt⟩
    have hxp : (a.map dLeg)[i]? = some (dLeg x) := by rw [List.getElem?_map, hx]; rfl
    have hlt' : ((i : Int) < (a.length : Int)) = True := by simp; omega
    have h0 : ((0 : Int) ≤ (i : Int)) = True := by simp
    have ew : IntKind.i64.wrap ((i : Int) + 1) = (i : Int) + 1 := i64_in (by omega) (by omega)
    have hxl := hb x (List.mem_of_getElem? hx)
    simp only [go_sem, e13, hlt']
    refine drawn (by kernel_rfl) (by kernel_rfl) ?_
    simp only [go_sem, h0, hlt', hx, hxp, Option.map_some, dLeg]
    refine quietD (f69g x x (by omega) (by omega)) (fun _ => rfl) ?_
    simp only [go_sem, hN, ew, kDraw_eq]
    try intro _ _ _ _
    refine ⟨by kernel_rfl, i + 1, ?_, by simp only; omega⟩
    simp only [go_sem]
    exact ⟨by simp, by omega, _, _, _, rfl⟩
  · have hlt' : ((i : Int) < (a.length : Int)) = False := by simp; omega
    simp only [go_sem, e13, hlt', hX]
theorem chG_lens {E : List Int → Int → Int} {LK : Int → Int} {to most : Int} {KS : List Int} : ∀ (d : Nat) (leg : List Int) (out : List (List Int)), leg.length + d ≤ 5 → (∀ x ∈ out, x.length ≤ 5) → ∀ x ∈ rhG E LK to most KS d leg out, x.length ≤ 5
  | 0, _, out, _, h => h
  | d + 1, leg, out, hl, h => by
    have key : ∀ (ks : List Int) (out : List (List Int)), (∀ x ∈ out, x.length ≤ 5) → ∀ x ∈ rhS E LK to most (rhG E LK to most KS d) leg ks out, x.length ≤ 5 := by
      intro ks
      induction ks with
      | nil => intro out h; exact h
      | cons k ks ih =>
        intro out h
        unfold rhS
        split
        · exact ih _ h
        · refine ih _ (chG_lens d _ _ (by simp; omega) ?_)
          split
          · intro x hx
            simp only [List.mem_append, List.mem_singleton] at hx
            rcases hx with hx | rfl
            · exact h x hx
            · simp; omega
          · exact h
    exact key KS out h

set_option maxHeartbeats 4000000 in
set_option maxRecDepth 20000 in
theorem f11 (n : Net) (hb : NetB n) (fr to most : Int) : PCall Try.prog 11 [eNet n, .int .i64 fr, .int .i64 to, .int .i64 most] (RV (.bool true)) := by
  refine PCall.of_body Try.func11 rfl Try.ntmps11 (congrArg Array.toList Try.results11) ?_
  intro E
  have h52 := f52 n hb fr to most
  obtain ⟨o1, o2⟩ := both_one n
  have h32 := f32 n hb
  rw [← o1, ← o2] at h32
  change PCall Try.prog 32 [eNet n] (RV (rtV (netRts n) (netRE n))) at h32
  unfold rtV at h32
  have h54 := fun he h0 hm => f54 n hb he (netRts n) (netRts_len n) (netRts_ok n) fr to most h0 hm
  have h53 := fun he s => f53 n hb he s
  have hce := chains_eq n (netRts n) (netRts_ok n) fr to most
  have hcl : 0 ≤ most → ((chainsR n (netRts n) fr to most).length : Int) ≤ most := fun h0 => rhG_len _ _ _ (by simpa using h0)
  have hcm : ∀ x ∈ chainsR n (netRts n) fr to most, x.length ≤ 5 := chG_lens _ _ _ (by simp) (by simp)
  have hz := @netRE_zero n
  generalize netRts n = L at *
  rw [hce] at h54 hcl hcm
  generalize netRE n = e at *
  generalize chainsP n L fr to most = C at *
  generalize hE : chE n e fr to most = EE at *
  unfold chE at hE
  unfold eNet nCells at h52 h32 h53 h54
  simp only [go_sem, eNet, nCells]
  refine callV h52 ?_
  intro nx lv
  simp only [go_sem]
  refine callV h32 ?_
  intro nx2 lv2
  by_cases q : e = 0
  rotate_left
  · have q' : (e = 0) = False := eq_false q
    rw [if_pos q] at hE
    subst hE
    simp only [go_sem, q', if_false]
    try simp
  have he := hz q
  subst q
  rw [if_neg (by simp)] at hE
  simp only [go_sem]
  refine callV (h53 he fr) ?_
  intro nx3 lv3
  cases p1 : pltF n fr with
  | false =>
    rw [p1, if_pos (by simp)] at hE
    subst hE
    simp only [go_sem]
    try simp
  | true =>
  simp only [go_sem]
  refine callV (h53 he to) ?_
  intro nx4 lv4
  cases p2 : pltF n to with
  | false =>
    rw [p1, p2, if_pos (by simp)] at hE
    subst hE
    simp only [go_sem]
    try simp
  | true =>
  rw [p1, p2, if_neg (by simp)] at hE
  by_cases m1 : most < 1
  · have m1' : (most < 1) = True := eq_true m1
    rw [if_pos (by simp [within]; omega)] at hE
    subst hE
    simp only [go_sem, m1']
    try simp
  have m1' : (most < 1) = False := eq_false m1
  by_cases m2 : 20 < most
  · have m2' : (20 < most) = True := eq_true m2
    rw [if_pos (by simp [within]; omega)] at hE
    subst hE
    simp only [go_sem, m1', m2']
    try simp
  have m2' : (20 < most) = False := eq_false m2
  rw [if_neg (by simp [within]; omega)] at hE
  subst hE
  simp only [go_sem, m1', m2', if_true]
  refine callV (h54 he (by omega) (by omega)) ?_
  intro nx5 lv5
  simp only [go_sem]
  have := hcl (by omega)
  refine callV (f35 C (by omega) hcm) ?_
  intro nx6 lv6
  simp only [go_sem]
  try simp

theorem law11 (xs : List DV) (h : ElDs Try.prog [28, 3, 3, 3] xs) : PCall Try.prog 11 (xs.map toAV) (RV (.bool true)) := by
  obtain ⟨x, xs, rfl, hx, h⟩ := h.cons_inv
  obtain ⟨y, xs, rfl, hy, h⟩ := h.cons_inv
  obtain ⟨z, xs, rfl, hz, h⟩ := h.cons_inv
  obtain ⟨w, xs, rfl, hw, h⟩ := h.cons_inv
  cases h.nil_inv
  obtain ⟨n, hn, hb⟩ := openNet hx
  obtain ⟨s, rfl, _⟩ := hy.int_inv Try.underlying3
  obtain ⟨t, rfl, _⟩ := hz.int_inv Try.underlying3
  obtain ⟨u, rfl, _⟩ := hw.int_inv Try.underlying3
  simp only [List.map_cons, List.map_nil, hn, toAV]
  exact f11 n hb s t u
end Go.Proofs.Yteadhjclchjfjaa
