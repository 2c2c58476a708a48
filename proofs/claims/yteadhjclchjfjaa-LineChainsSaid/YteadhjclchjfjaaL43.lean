/- Chains: Chains of the program. -/
import Derived.Test.YteadhjclchjfjaaL42
namespace Go.Proofs.Yteadhjclchjfjaa
set_option linter.unusedSimpArgs false
set_option linter.unusedVariables false
open Go.AB

theorem idx7o : IdxOk [.own 10 0, .own 13 0, .own 7 0, .own 12 0, .own 6 0, .own 14 0, .own 41 0] := by
  intro i x hx
  match i, hx with
  | 0, hx => cases hx; rfl
  | 1, hx => cases hx; rfl
  | 2, hx => cases hx; rfl
  | 3, hx => cases hx; rfl
  | 4, hx => cases hx; rfl
  | 5, hx => cases hx; rfl
  | 6, hx => cases hx; rfl
  | n + 7, hx => simp at hx

def chE (n : Net) (e fr to most : Int) : Int := if e ≠ 0 then e else if (pltF n fr && pltF n to) = false then 3 else if within most 1 20 = false then 2 else 0

set_option maxHeartbeats 4000000 in
set_option maxRecDepth 20000 in
theorem f52 (n : Net) (hb : NetB n) (fr to most : Int) : PCall Try.prog 52 [eNet n, .int .i64 fr, .int .i64 to, .int .i64 most] (RV (.tup [.sl 1 ((if chE n (netRE n) fr to most = 0 then chainsP n (netRts n) fr to most else []).map dLeg) .no, .int .i64 (chE n (netRE n) fr to most)])) := by
  refine PCall.of_bodyE Try.func52 rfl Try.ntmps52 (congrArg Array.toList Try.results52) ?_
  intro E
  have h31 := f31 n hb
  have hL := netRts_len n
  change PCall Try.prog 31 [eNet n] (RV (rtV (netRts n) (netRE n))) at h31
  have hok := netRts_ok n
  have hz := @netRE_zero n
  generalize netRts n = L at *
  generalize netRE n = e at *
  unfold rtV at h31
  have h91 := fun s => f91 n hb s
  unfold eNet nCells at h91
  generalize hE : chE n e fr to most = EE
  unfold chE at hE
  simp only [go_sem, eNet, nCells]
  refine callV h31 ?_
  intro nx lv
  by_cases q : e = 0
  rotate_left
  · have q' : (e = 0) = False := eq_false q
    rw [if_pos q] at hE
    subst hE
    simp only [go_sem, q', if_false]
    try simp
  have he := hz q
  subst q
  rw [if_neg (by simp)] at hE
  simp only [go_sem]
  refine callV (h91 fr) ?_
  intro nx2 lv2
  cases p1 : pltF n fr with
  | false =>
    rw [p1, if_pos (by simp)] at hE
    subst hE
    simp only [go_sem, p1]
    try simp
  | true =>
    simp only [go_sem, p1]
    refine callV (h91 to) ?_
    intro nx3 lv3
    cases p2 : pltF n to with
    | false =>
      rw [p1, p2, if_pos (by simp)] at hE
      subst hE
      simp only [go_sem, p2]
      try simp
    | true =>
      rw [p1, p2, if_neg (by simp)] at hE
      simp only [go_sem, p2]
      refine callV (f56 most 1 20) ?_
      intro nx4 lv4
      cases p3 : within most 1 20 with
      | false =>
        rw [p3, if_pos rfl] at hE
        subst hE
        simp only [go_sem, p3]
        try simp
      | true =>
        rw [p3, if_neg (by simp)] at hE
        subst hE
        have hmb : 1 ≤ most ∧ most ≤ 20 := by simpa [within] using p3
        simp only [go_sem, p3]
        refine callX.adopt 41 rfl (f92 n hb he fr L hL hok nx4 lv4) ?_
        rintro m' r ⟨ho, rfl, tok, b14⟩
        refine ⟨ho, 14, 0, gC n fr L ((L.map (needsR n)).map dNds) tok, gC n fr L ((L.map (needsR n)).map dNds) tok, rfl, ?_, gC_rn, ?_⟩
        · simp only [AH.cells, b14, if_true]
        obtain ⟨F, hF⟩ : ∃ F, chainsP n L fr to most = F := ⟨_, rfl⟩
        rw [hF]
        unfold chainsP at hF
        by_cases hft : fr = to
        · have hft' : (fr = to) = True := eq_true hft
          rw [if_pos hft] at hF
          subst hF
          simp only [go_sem, hft']
          try simp
        · have hft' : (fr = to) = False := eq_false hft
          rw [if_neg hft] at hF
          simp only [go_sem, hft']
          refine .inr (callCh (out := []) (tok := .nil) (l6 := .own 41 0) (f97 n hb he fr L hL hok tok to most hmb.2 4 [] .nil [] .nil _ _ rfl (by simp) (by simp) (by simp; omega) trivial) idx7o ?_ ?_)
          · simp only [cellsL, AH.cells, go_sem, chCells, List.map_nil]
          intro tok5 nx5 lv5 hok5
          simp only [go_sem, AH.setAll, chCells]
          rw [← hF]
          try simp
end Go.Proofs.Yteadhjclchjfjaa
