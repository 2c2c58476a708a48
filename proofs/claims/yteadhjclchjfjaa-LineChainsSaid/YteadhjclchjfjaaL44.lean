/- Chains: the reference's; the law. -/
import Derived.Test.YteadhjclchjfjaaL43
namespace Go.Proofs.Yteadhjclchjfjaa
set_option linter.unusedSimpArgs false
set_option linter.unusedVariables false
open Go.AB

def outRc (g : List (List Int)) : AH → AV → Prop := fun m x => x = .tup [] ∧ ∃ tok, m.o = [[.sl 1 (g.map dLeg) tok]] ∧ okN m.nx m.lv tok
theorem callRc {k : Nat} {rest : List AV} {out : List (List Int)} {g : List (List Int)} {tok : Tok} {σ : AS} {dst : Option Nat} {K : AS → Prop} {l : AB.Loc}
    (h : QCall Try.prog k ⟨[], [[.sl 1 (out.map dLeg) tok]], σ.m.nx, σ.m.lv⟩ (rest ++ [.ptr (.out 0) 0]) (outRc g)) (hrest : rnAL (outF [l]) (rest ++ [.ptr l 0]) = some (rest ++ [.ptr (.out 0) 0])) (hc : σ.m.cells l = some [.sl 1 (out.map dLeg) tok])
    (hK : ∀ tok' nx2 lv2, okN nx2 lv2 tok' → K (AS.put ⟨σ.s, ⟨(σ.m.setCells l [.sl 1 (g.map dLeg) tok']).h, (σ.m.setCells l [.sl 1 (g.map dLeg) tok']).o, nx2, lv2⟩⟩ dst (.tup []))) :
    effX Try.prog k (rest ++ [.ptr l 0]) σ dst K := by
  refine effH [l] (css := [[.sl 1 (out.map dLeg) tok]]) hrest ?_ ?_ (.one l) h ?_
  · simp only [cellsL, hc]
  · simp only [rnLL, rnCL, rnC, port1]
  · rintro m' x ⟨rfl, tok', ho, hok⟩
    refine ⟨[[.sl 1 (g.map dLeg) tok']], .tup [], ?_, rfl, rfl, hK tok' _ _ hok⟩
    rw [ho]
    simp only [rnLL, rnCL, rnC, port1]

theorem legI_snoc (n : Net) (L : List Rt) (tr : Int) (leg : List Int) (k : Int) : legI n L tr (leg ++ [k]) leg.length = legE n L (L.map (needsR n)) tr leg k := by
  unfold legI
  rw [List.take_left']
  · congr 1
    rw [List.getD_eq_getElem?_getD]
    simp
  · rfl

set_option maxHeartbeats 8000000 in
set_option maxRecDepth 20000 in
theorem f99s (n : Net) (hb : NetB n) (he : netE n = 0) (tr : Int) (L : List Rt) (hL : L.length ≤ 1000) (hok : ∀ r ∈ L, RtOk n r) (to most : Int) (hm : most ≤ 20) (d : Nat)
    (ih : ∀ (leg : List Int) (tl : Tok) (out : List (List Int)) (tok : Tok) (nx : Nat) (lv : Nat → Prop), leg.length + d = 5 → leg.length < 5 → (∀ j ∈ leg, okR L j = true) → (out.length : Int) ≤ most → okN nx lv tok →
      QCall Try.prog 99 ⟨[], [[.sl 1 (out.map dLeg) tok]], nx, lv⟩ [eNet n, .sl 3 (L.map dRt) .no, .int .i64 tr, .int .i64 to, .int .i64 most, .sl 1 (leg.map fun x => DV.int .i64 x) tl, .ptr (.out 0) 0] (outRc (rhG (legE n L (L.map (needsR n)) tr) (lastK L) to most (KSn L) d leg out))) :
    ∀ (leg : List Int) (tl : Tok) (out : List (List Int)) (tok : Tok) (nx : Nat) (lv : Nat → Prop), leg.length + (d + 1) = 5 → (∀ j ∈ leg, okR L j = true) → (out.length : Int) ≤ most → okN nx lv tok →
      QCall Try.prog 99 ⟨[], [[.sl 1 (out.map dLeg) tok]], nx, lv⟩ [eNet n, .sl 3 (L.map dRt) .no, .int .i64 tr, .int .i64 to, .int .i64 most, .sl 1 (leg.map fun x => DV.int .i64 x) tl, .ptr (.out 0) 0] (outRc (rhG (legE n L (L.map (needsR n)) tr) (lastK L) to most (KSn L) (d + 1) leg out)) := by
  intro leg tl out tok nx lv hd hj hout hokt
  refine QCall.of_body Try.func99 rfl Try.ntmps99 (congrArg Array.toList Try.results99) ?_
  intro E
  have hlI := legI_snoc n L tr leg
  have h95 := fun k => f95 n hb he tr L hL hok (leg ++ [k]) (by simp; omega) leg.length (by simp) (by rw [List.take_left' rfl]; exact hj)
  generalize hN : L.map (needsR n) = N at *
  generalize hF : rhG (legE n L N tr) (lastK L) to most (KSn L) (d + 1) leg out = F
  unfold rhG at hF
  unfold eNet nCells at h95
  simp only [go_sem, eNet, nCells]
  refine AW_loopH [14, 15, 16, 19, 20, 21, 22, 23, 24, 25, 26, 27, 28, 29, 30, 31, 32, 33, 34, 35, 36, 37, 38, 39, 40, 41, 42, 43, 44, 45, 46, 47, 48, 49, 50, 51, 52, 53, 54, 55, 56, 57, 58, 59, 60, 61, 62, 63, 64, 65, 66, 67, 68, 69, 70, 71, 72, 73, 74, 75, 76, 77, 78, 79, 80, 81, 82, 83]
    (fun (i : Nat) ρ m => ρ 19 = .int .i64 (i : Int) ∧ i ≤ L.length ∧ ∃ h nx lv tok out, m = ⟨h, [[.sl 1 (out.map dLeg) tok]], nx, lv⟩ ∧ okN nx lv tok ∧ (out.length : Int) ≤ most ∧
      AB.hget h 7 = some (0, [.sl 1 (n.names.map DV.str) .no, .sl 7 (n.sects.map dSect) .no, .sl 4 (n.links.map dLnk) .no, .sl 2 (n.sigs.map dPair) .no, .sl 2 (n.gates.map dPair) .no]) ∧
      rhS (legE n L N tr) (lastK L) to most (rhG (legE n L N tr) (lastK L) to most (KSn L) d) leg ((KSn L).drop i) out = F) (fun i => L.length - i) 0 ?_ ?_
  · simp only [go_sem]
    exact ⟨Nat.zero_le _, _, _, _, tok, out, rfl, hokt, hout, by simp [go_sem], hF⟩
  rintro i ρ m ⟨e19, g1, h, nx2, lv2, tok2, out2, rfl, hokt2, hout2, b7, g2⟩ Q hN' hR hX
  by_cases hlt : i < L.length
  · have hlt' : ((i : Int) < (L.length : Int)) = True := by simp; omega
    have h0 : ((0 : Int) ≤ (i : Int)) = True := by simp
    have ew : IntKind.i64.wrap ((i : Int) + 1) = (i : Int) + 1 := i64_in (by omega) (by omega)
    rw [KSn_get L i hlt] at g2
    simp only [rhS] at g2
    have hw : (leg.map fun x => DV.int .i64 x) ++ [DV.int .i64 i] = (leg ++ [(i : Int)]).map fun x => DV.int .i64 x := by simp
    have hll : (leg ++ [(i : Int)]).length = leg.length + 1 := by simp
    have hok5 : okN (nx2 + 1 + 1 + 1 + 1) (fun j => j = nx2 + 1 + 1 + 1 ∨ (j = nx2 + 1 + 1 ∨ j = nx2 + 1 ∨ (j = nx2 ∨ lv2 j) ∧ ¬ nx2 = j) ∧ ¬ nx2 + 1 = j) tok2 :=
      hokt2.new (by omega) fun j hjn z => .inr ⟨.inr (.inr ⟨.inr z, by omega⟩), by omega⟩
    by_cases a0 : 4 < leg.length + 1
    · have a0' : ((4 : Int) < ((leg ++ [(i : Int)]).length : Int)) = True := eq_true (by omega)
      rw [if_pos (.inl a0)] at g2
      simp only [go_sem, e19, hlt', List.nil_append, hw, a0']
      refine ⟨.inl trivial, by omega, .inr (.inl trivial), by omega, ?_⟩
      rw [hN']
      simp only [go_sem, ew]
      refine ⟨by kernel_rfl, i + 1, ?_, by simp only; omega⟩
      simp only [go_sem]
      exact ⟨by simp, by omega, _, _, _, tok2, out2, rfl, hok5, hout2, b7, g2⟩
    have a0' : ((4 : Int) < ((leg ++ [(i : Int)]).length : Int)) = False := eq_false (by omega)
    by_cases a1 : (out2.length : Int) = most
    · have a1' : ((out2.length : Int) = most) = True := eq_true a1
      rw [if_pos (.inr (.inl a1))] at g2
      simp only [go_sem, e19, hlt', List.nil_append, hw, a0', a1']
      refine ⟨.inl trivial, by omega, .inr (.inl trivial), by omega, ?_⟩
      rw [hN']
      simp only [go_sem, ew]
      refine ⟨by kernel_rfl, i + 1, ?_, by simp only; omega⟩
      simp only [go_sem]
      exact ⟨by simp, by omega, _, _, _, tok2, out2, rfl, hok5, hout2, b7, g2⟩
    have a1' : ((out2.length : Int) = most) = False := eq_false a1
    simp only [go_sem, e19, hlt', List.nil_append, hw, a0', a1', b7]
    refine ⟨.inl trivial, by omega, .inr (.inl trivial), by omega, ?_⟩
    refine callVt (h95 i) ?_
    intro nx3 lv3 hn3 hl3
    have hok6 : okN nx3 lv3 tok2 := hok5.mono hn3 hl3
    rw [hlI i]
    by_cases a2 : legE n L N tr leg i = 0
    rotate_left
    · rw [if_pos (.inr (.inr a2))] at g2
      have a2' : (legE n L N tr leg i = 0) = False := eq_false a2
      simp only [go_sem, a2']
      rw [hN']
      simp only [go_sem, ew]
      refine ⟨by kernel_rfl, i + 1, ?_, by simp only; omega⟩
      simp only [go_sem]
      exact ⟨by simp, by omega, _, _, _, tok2, out2, rfl, hok6, hout2, b7, g2⟩
    rw [if_neg (by simp only [not_or]; exact ⟨a0, a1, by simpa using a2⟩)] at g2
    have a2' : (legE n L N tr leg i = 0) = True := eq_true a2
    have hjk : ∀ j ∈ leg ++ [(i : Int)], okR L j = true := by
      intro j hjm
      simp only [List.mem_append, List.mem_singleton] at hjm
      rcases hjm with hjm | rfl
      · exact hj j hjm
      · exact legE_ok a2
    obtain ⟨o0, o1, hro⟩ := okR_at (legE_ok a2)
    have hrk := hok _ (List.mem_of_getElem? hro)
    have hlk : ((rtAt L i).st.getD ((rtAt L i).st.length - 1) ⟨0, 0, 0⟩).s = lastK L i := rfl
    generalize hlkv : lastK L i = lk at *
    generalize rtAt L i = r at *
    have hs0 := hrk.l0
    have hs1 := hrk.l1
    have hsl : r.st[r.st.length - 1]? = some (r.st.getD (r.st.length - 1) ⟨0, 0, 0⟩) := by
      rw [List.getD_eq_getElem?_getD, List.getElem?_eq_getElem (by omega)]; rfl
    generalize r.st.getD (r.st.length - 1) ⟨0, 0, 0⟩ = x at *
    subst hlk
    have hro' : L[i]? = some r := by simpa using hro
    have hrop : (L.map dRt)[i]? = some (dRt r) := by rw [List.getElem?_map, hro']; rfl
    have hxp : (r.st.map dStp)[r.st.length - 1]? = some (dStp x) := by rw [List.getElem?_map, hsl]; rfl
    have ew2 : IntKind.i64.wrap ((r.st.length : Int) - 1) = (r.st.length : Int) - 1 := i64_in (by omega) (by omega)
    have w0 : ((0 : Int) ≤ (r.st.length : Int) - 1) = True := eq_true (by omega)
    have w1 : ((r.st.length : Int) - 1 < (r.st.length : Int)) = True := eq_true (by omega)
    have w2 : ((r.st.length : Int) - 1).toNat = r.st.length - 1 := by omega
    simp only [go_sem, a2']
    refine drawnP [2, 2, 2, 2, 2, 2, 2, 2, 2, 2, 2, 2, 2, 2, 3, 1] [(14, [2, 2, 2, 2, 2, 2, 2, 2, 2, 2, 2, 2, 2, 2, 0, 3]), (15, [0, 0, 0, 0, 0, 0, 0, 0, 0, 0, 0, 0, 0, 0, 0, 0])] 84 (by kernel_rfl) (by kernel_rfl) (by kernel_rfl) (by kernel_rfl) rfl ?_
    have hlen : ∀ o3 : List (List Int), (o3.length : Int) ≤ most → ((rhG (legE n L N tr) (lastK L) to most (KSn L) d (leg ++ [(i : Int)]) o3).length : Int) ≤ most := fun o3 h => rhG_len _ _ _ h
    by_cases a3 : x.s = to
    · have a3' : (x.s = to) = True := eq_true a3
      rw [if_pos a3] at g2
      simp only [go_sem, hlt', h0, hro', hrop, Option.map_some, dRt, ew2, w0, w1, w2, hsl, hxp, dStp, a3', b7]
      intro nx4 lv4 hn4 hl4 nx5 lv5 hn5 hl5 nx6 lv6 hn6 hl6
      have hok7 : okN nx6 lv6 tok2 := ((hok6.mono hn4 hl4).mono hn5 hl5).mono hn6 hl6
      have ho : out2.map dLeg ++ [DV.sl 1 ((leg ++ [(i : Int)]).map fun x => DV.int .i64 x)] = (out2 ++ [leg ++ [(i : Int)]]).map dLeg := by simp [dLeg]
      have ho2 : ((out2 ++ [leg ++ [(i : Int)]]).length : Int) ≤ most := by simp only [List.length_append, List.length_singleton]; omega
      rw [ho]
      refine ⟨okT_mono (hok7.t (h := []) (o := []) (nx' := nx6)) fun j z => .inr z, by omega, ?_⟩
      refine .inr (callRc (rest := [eNet n, .sl 3 (L.map dRt) .no, .int .i64 tr, .int .i64 to, .int .i64 most, .sl 1 ((leg ++ [(i : Int)]).map fun x => DV.int .i64 x) (.own (nx2 + 1 + 1 + 1))]) (l := .out 0) (ih (leg ++ [(i : Int)]) (.own (nx2 + 1 + 1 + 1)) (out2 ++ [leg ++ [(i : Int)]]) (.own (nx6 + 1)) _ _ (by simp; omega) (by simp; omega) hjk ho2 ⟨.inl rfl, Nat.lt_succ_self _⟩) rfl rfl ?_)
      intro tok7 nx7 lv7 hok7
      simp only [go_sem, hN', ew]
      refine ⟨by kernel_rfl, i + 1, ?_, by simp only; omega⟩
      simp only [go_sem]
      exact ⟨by simp, by omega, _, _, _, tok7, _, rfl, hok7, hlen _ ho2, by simp [go_sem, b7], g2⟩
    · have a3' : (x.s = to) = False := eq_false a3
      rw [if_neg a3] at g2
      simp only [go_sem, hlt', h0, hro', hrop, Option.map_some, dRt, ew2, w0, w1, w2, hsl, hxp, dStp, a3', b7]
      intro nx4 lv4 hn4 hl4 nx5 lv5 hn5 hl5 nx6 lv6 hn6 hl6
      have hok7 : okN nx6 lv6 tok2 := ((hok6.mono hn4 hl4).mono hn5 hl5).mono hn6 hl6
      refine .inr (callRc (rest := [eNet n, .sl 3 (L.map dRt) .no, .int .i64 tr, .int .i64 to, .int .i64 most, .sl 1 ((leg ++ [(i : Int)]).map fun x => DV.int .i64 x) (.own (nx2 + 1 + 1 + 1))]) (l := .out 0) (ih (leg ++ [(i : Int)]) (.own (nx2 + 1 + 1 + 1)) out2 tok2 _ _ (by simp; omega) (by simp; omega) hjk hout2 hok7) rfl rfl ?_)
      intro tok7 nx7 lv7 hok7
      simp only [go_sem, hN', ew]
      refine ⟨by kernel_rfl, i + 1, ?_, by simp only; omega⟩
      simp only [go_sem]
      exact ⟨by simp, by omega, _, _, _, tok7, _, rfl, hok7, hlen _ hout2, by simp [go_sem, b7], g2⟩
  · have hlt' : ((i : Int) < (L.length : Int)) = False := by simp; omega
    rw [KSn_end L i hlt] at g2
    simp only [rhS] at g2
    subst g2
    simp only [go_sem, e19, hlt', hX]
    exact ⟨rfl, tok2, rfl, hokt2⟩

theorem f99 (n : Net) (hb : NetB n) (he : netE n = 0) (tr : Int) (L : List Rt) (hL : L.length ≤ 1000) (hok : ∀ r ∈ L, RtOk n r) (to most : Int) (hm : most ≤ 20) : ∀ (d : Nat) (leg : List Int) (tl : Tok) (out : List (List Int)) (tok : Tok) (nx : Nat) (lv : Nat → Prop),
    leg.length + d = 5 → leg.length < 5 → (∀ j ∈ leg, okR L j = true) → (out.length : Int) ≤ most → okN nx lv tok →
    QCall Try.prog 99 ⟨[], [[.sl 1 (out.map dLeg) tok]], nx, lv⟩ [eNet n, .sl 3 (L.map dRt) .no, .int .i64 tr, .int .i64 to, .int .i64 most, .sl 1 (leg.map fun x => DV.int .i64 x) tl, .ptr (.out 0) 0] (outRc (rhG (legE n L (L.map (needsR n)) tr) (lastK L) to most (KSn L) d leg out)) := by
  intro d
  induction d with
  | zero => intro leg tl out tok nx lv h1 h2; omega
  | succ d ih =>
    intro leg tl out tok nx lv h1 h2 h3 h4 h5
    exact f99s n hb he tr L hL hok to most hm d ih leg tl out tok nx lv h1 h3 h4 h5
end Go.Proofs.Yteadhjclchjfjaa
