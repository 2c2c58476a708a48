/- Chains: the program's. -/
import Derived.Test.YteadhjclchjfjaaL41
namespace Go.Proofs.Yteadhjclchjfjaa
set_option linter.unusedSimpArgs false
set_option linter.unusedVariables false
open Go.AB

set_option maxRecDepth 20000 in
theorem f98 (p : List Int) (hl : p.length ≤ 60) : PCall Try.prog 98 [.sl 1 (p.map fun x => DV.int .i64 x) .no] (RT 1 (p.map fun x => DV.int .i64 x)) := by
  refine PCall.of_body Try.func98 rfl Try.ntmps98 (congrArg Array.toList Try.results98) ?_
  intro E
  simp only [go_sem]
  intro b h1
  refine ⟨fun hb => ?_, fun _ => ?_⟩
  · by_cases hn : (p.map fun x => DV.int .i64 x) = []
    · rw [hn]
      first
        | exact ⟨.nil, rfl, trivial⟩
        | (refine ⟨rfl, ?_⟩; exact ⟨.nil, rfl, trivial⟩)
    · have := h1 hn
      rw [hb] at this
      cases this
  · exact ⟨.inl trivial, by omega, .own 1, rfl, .inl rfl⟩

def dLeg (l : List Int) : DV := .sl 1 (l.map fun x => DV.int .i64 x)
/-- What lies in memory for the search: routes, what has been found, the most, the checker's pointer, the aim, the function, the checker. -/
def chCells (n : Net) (tr : Int) (L : List Rt) (N : List DV) (tk : Tok) (to most : Int) (out : List (List Int)) (tok : Tok) (l0 l1 l2 l3 l4 l5 l6 : AB.Loc) : List (List AV) :=
  [[.sl 3 (L.map dRt) .no], [.sl 1 (out.map dLeg) tok], [.int .i64 most], [.ptr l6 0], [.int .i64 to], [.fn 97 [.ptr l0 0, .ptr l1 0, .ptr l2 0, .ptr l3 0, .ptr l4 0, .ptr l5 0]], gC n tr L N tk]
def chMem (n : Net) (tr : Int) (L : List Rt) (N : List DV) (tk : Tok) (to most : Int) (out : List (List Int)) (tok : Tok) : List (List AV) := chCells n tr L N tk to most out tok (.out 0) (.out 1) (.out 2) (.out 3) (.out 4) (.out 5) (.out 6)
def outCh (n : Net) (tr : Int) (L : List Rt) (N : List DV) (tk : Tok) (to most : Int) (g : List (List Int)) : AH → AV → Prop := fun m x => x = .tup [] ∧ ∃ tok, m.o = chMem n tr L N tk to most g tok ∧ okN m.nx m.lv tok
theorem chCells_rn {f : AB.Loc → Option AB.Loc} {n : Net} {tr : Int} {L : List Rt} {N : List DV} {tk : Tok} {to most : Int} {out : List (List Int)} {tok : Tok} {l0 l1 l2 l3 l4 l5 l6 m0 m1 m2 m3 m4 m5 m6 : AB.Loc}
    (h0 : f l0 = some m0) (h1 : f l1 = some m1) (h2 : f l2 = some m2) (h3 : f l3 = some m3) (h4 : f l4 = some m4) (h5 : f l5 = some m5) (h6 : f l6 = some m6) :
    rnLL f (chCells n tr L N tk to most out tok l0 l1 l2 l3 l4 l5 l6) = some (chCells n tr L N tk to most out tok m0 m1 m2 m3 m4 m5 m6) := by
  simp only [chCells, rnLL, gC_rn, rnCL, rnC, rnCL0, rnC0, port1, h0, h1, h2, h3, h4, h5, h6]

theorem callCh {n : Net} {tr : Int} {L : List Rt} {N : List DV} {tk : Tok} {to most : Int} {out g : List (List Int)} {tok tl : Tok} {leg : List DV} {σ : AS} {dst : Option Nat} {K : AS → Prop} {l0 l1 l2 l3 l4 l5 l6 : AB.Loc}
    (h : QCall Try.prog 97 ⟨[], chMem n tr L N tk to most out tok, σ.m.nx, σ.m.lv⟩ [.sl 1 leg tl, .ptr (.out 0) 0, .ptr (.out 1) 0, .ptr (.out 2) 0, .ptr (.out 3) 0, .ptr (.out 4) 0, .ptr (.out 5) 0] (outCh n tr L N tk to most g))
    (hok : IdxOk [l0, l1, l2, l3, l4, l5, l6]) (hc : cellsL σ.m [l0, l1, l2, l3, l4, l5, l6] = some (chCells n tr L N tk to most out tok l0 l1 l2 l3 l4 l5 l6))
    (hK : ∀ tok' nx2 lv2, okN nx2 lv2 tok' →
      K (AS.put ⟨σ.s, ⟨(σ.m.setAll [l0, l1, l2, l3, l4, l5, l6] (chCells n tr L N tk to most g tok' l0 l1 l2 l3 l4 l5 l6)).h, (σ.m.setAll [l0, l1, l2, l3, l4, l5, l6] (chCells n tr L N tk to most g tok' l0 l1 l2 l3 l4 l5 l6)).o, nx2, lv2⟩⟩ dst (.tup []))) :
    effX Try.prog 97 [.sl 1 leg tl, .ptr l0 0, .ptr l1 0, .ptr l2 0, .ptr l3 0, .ptr l4 0, .ptr l5 0] σ dst K := by
  have o0 : outF [l0, l1, l2, l3, l4, l5, l6] l0 = some (.out 0) := by simp only [outF, hok 0 l0 rfl]
  have o1 : outF [l0, l1, l2, l3, l4, l5, l6] l1 = some (.out 1) := by simp only [outF, hok 1 l1 rfl]
  have o2 : outF [l0, l1, l2, l3, l4, l5, l6] l2 = some (.out 2) := by simp only [outF, hok 2 l2 rfl]
  have o3 : outF [l0, l1, l2, l3, l4, l5, l6] l3 = some (.out 3) := by simp only [outF, hok 3 l3 rfl]
  have o4 : outF [l0, l1, l2, l3, l4, l5, l6] l4 = some (.out 4) := by simp only [outF, hok 4 l4 rfl]
  have o5 : outF [l0, l1, l2, l3, l4, l5, l6] l5 = some (.out 5) := by simp only [outF, hok 5 l5 rfl]
  have o6 : outF [l0, l1, l2, l3, l4, l5, l6] l6 = some (.out 6) := by simp only [outF, hok 6 l6 rfl]
  refine effH [l0, l1, l2, l3, l4, l5, l6] ?_ hc (chCells_rn o0 o1 o2 o3 o4 o5 o6) hok h ?_
  · simp only [rnAL, rnA, rnC, port1, o0, o1, o2, o3, o4, o5]
  · rintro m' x ⟨rfl, tok', ho, hok'⟩
    refine ⟨chCells n tr L N tk to most g tok' l0 l1 l2 l3 l4 l5 l6, .tup [], ?_, rfl, rfl, hK tok' _ _ hok'⟩
    rw [ho]
    exact chCells_rn rfl rfl rfl rfl rfl rfl rfl
theorem idx7 : IdxOk [.out 0, .out 1, .out 2, .out 3, .out 4, .out 5, .out 6] := by
  intro i x hx
  match i, hx with
  | 0, hx => cases hx; rfl
  | 1, hx => cases hx; rfl
  | 2, hx => cases hx; rfl
  | 3, hx => cases hx; rfl
  | 4, hx => cases hx; rfl
  | 5, hx => cases hx; rfl
  | 6, hx => cases hx; rfl
  | n + 7, hx => simp at hx

theorem KSn_get (L : List Rt) (i : Nat) (hi : i < L.length) : (KSn L).drop i = (i : Int) :: (KSn L).drop (i + 1) := by
  have hl : (KSn L).length = L.length := by simp [KSn]
  rw [List.drop_eq_getElem_cons (by omega)]
  congr 1
  simp [KSn]
theorem KSn_end (L : List Rt) (i : Nat) (hi : ¬ i < L.length) : (KSn L).drop i = [] := List.drop_eq_nil_of_le (by simp [KSn]; omega)

set_option maxHeartbeats 8000000 in
set_option maxRecDepth 20000 in
theorem f97s (n : Net) (hb : NetB n) (he : netE n = 0) (tr : Int) (L : List Rt) (hL : L.length ≤ 1000) (hok : ∀ r ∈ L, RtOk n r) (tk : Tok) (to most : Int) (hm : most ≤ 20) (d : Nat)
    (ih : ∀ (leg : List Int) (tl : Tok) (out : List (List Int)) (tok : Tok) (nx : Nat) (lv : Nat → Prop), leg.length + d = 4 → leg.length < 4 → (∀ j ∈ leg, okR L j = true) → (out.length : Int) ≤ most → okN nx lv tok →
      QCall Try.prog 97 ⟨[], chMem n tr L ((L.map (needsR n)).map dNds) tk to most out tok, nx, lv⟩ [.sl 1 (leg.map fun x => DV.int .i64 x) tl, .ptr (.out 0) 0, .ptr (.out 1) 0, .ptr (.out 2) 0, .ptr (.out 3) 0, .ptr (.out 4) 0, .ptr (.out 5) 0]
      (outCh n tr L ((L.map (needsR n)).map dNds) tk to most (chG (legE n L (L.map (needsR n)) tr) (lastK L) to most (KSn L) d leg out))) :
    ∀ (leg : List Int) (tl : Tok) (out : List (List Int)) (tok : Tok) (nx : Nat) (lv : Nat → Prop), leg.length + (d + 1) = 4 → (∀ j ∈ leg, okR L j = true) → (out.length : Int) ≤ most → okN nx lv tok →
      QCall Try.prog 97 ⟨[], chMem n tr L ((L.map (needsR n)).map dNds) tk to most out tok, nx, lv⟩ [.sl 1 (leg.map fun x => DV.int .i64 x) tl, .ptr (.out 0) 0, .ptr (.out 1) 0, .ptr (.out 2) 0, .ptr (.out 3) 0, .ptr (.out 4) 0, .ptr (.out 5) 0]
      (outCh n tr L ((L.map (needsR n)).map dNds) tk to most (chG (legE n L (L.map (needsR n)) tr) (lastK L) to most (KSn L) (d + 1) leg out)) := by
  intro leg tl out tok nx lv hd hj hout hokt
  refine QCall.of_body Try.func97 rfl Try.ntmps97 (congrArg Array.toList Try.results97) ?_
  intro E
  have h93 := fun k => f93 n hb he tr L hL hok leg (by omega) hj k
  generalize hN : L.map (needsR n) = N at *
  generalize hF : chG (legE n L N tr) (lastK L) to most (KSn L) (d + 1) leg out = F
  unfold chG at hF
  simp only [go_sem, chMem, chCells]
  refine AW_loopH [8, 9, 12, 13, 14, 15, 16, 17, 18, 19, 20, 21, 22, 23, 24, 25, 26, 27, 28, 29, 30, 31, 32, 33, 34, 35, 36, 37, 38, 39, 40, 41, 42, 43, 44]
    (fun (i : Nat) ρ m => ρ 12 = .int .i64 (i : Int) ∧ i ≤ L.length ∧ ∃ h nx lv tok out, m = ⟨h, chMem n tr L (N.map dNds) tk to most out tok, nx, lv⟩ ∧ okN nx lv tok ∧ (out.length : Int) ≤ most ∧
      chS (legE n L N tr) (lastK L) to most (chG (legE n L N tr) (lastK L) to most (KSn L) d) leg ((KSn L).drop i) out = F) (fun i => L.length - i) 0 ?_ ?_
  · simp only [go_sem]
    exact ⟨Nat.zero_le _, _, _, _, tok, out, rfl, hokt, hout, hF⟩
  rintro i ρ m ⟨e12, g1, h, nx2, lv2, tok2, out2, rfl, hokt2, hout2, g2⟩ Q hN' hR hX
  by_cases hlt : i < L.length
  · have hlt' : ((i : Int) < (L.length : Int)) = True := by simp; omega
    have ew : IntKind.i64.wrap ((i : Int) + 1) = (i : Int) + 1 := i64_in (by omega) (by omega)
    rw [KSn_get L i hlt] at g2
    simp only [chS] at g2
    by_cases a1 : (out2.length : Int) = most
    · rw [if_pos a1] at g2
      have a1' : ((out2.length : Int) = most) = True := eq_true a1
      subst g2
      simp only [go_sem, e12, hlt', chMem, chCells, a1', hR]
      exact ⟨rfl, tok2, rfl, hokt2⟩
    rw [if_neg a1] at g2
    have a1' : ((out2.length : Int) = most) = False := eq_false a1
    simp only [go_sem, e12, hlt', chMem, chCells, a1', gC, nCells, List.cons_append, List.nil_append]
    refine .inl (quiet (h93 i) rfl ?_)
    by_cases a2 : legE n L N tr leg i = 0
    rotate_left
    · rw [if_pos a2] at g2
      have a2' : (legE n L N tr leg i = 0) = False := eq_false a2
      simp only [go_sem, a2', hN', ew]
      refine ⟨by kernel_rfl, i + 1, ?_, by simp only; omega⟩
      simp only [go_sem]
      exact ⟨by simp, by omega, _, _, _, tok2, out2, rfl, hokt2, hout2, g2⟩
    rw [if_neg (by simpa using a2)] at g2
    have a2' : (legE n L N tr leg i = 0) = True := eq_true a2
    have hjk : ∀ j ∈ leg ++ [(i : Int)], okR L j = true := by
      intro j hjm
      simp only [List.mem_append, List.mem_singleton] at hjm
      rcases hjm with hjm | rfl
      · exact hj j hjm
      · exact legE_ok a2
    have h94 := f94 n tr L N hok (leg ++ [(i : Int)]) (by simp) (by simp; omega) hjk
    rw [lastS_snoc] at h94
    simp only [go_sem, a2']
    refine callT (f98 leg (by omega)) ?_
    intro tokc nx3 lv3 hn3 hl3 hnew hokc
    simp only [go_sem]
    have hw : (leg.map fun x => DV.int .i64 x) ++ [DV.int .i64 i] = (leg ++ [(i : Int)]).map fun x => DV.int .i64 x := by simp
    rw [hw]
    refine ⟨okT_mono hokc fun j z => .inr z, by omega, ?_⟩
    refine drawn (by kernel_rfl) (by kernel_rfl) ?_
    simp only [go_sem]
    refine quiet h94 rfl ?_
    have hok4 : okN nx3 lv3 tok2 := hokt2.mono (by simp only at hn3; omega) hl3
    have hok5 : okN nx2 (fun j => j = nx3 + 1 ∨ (j = nx3 ∨ lv3 j) ∧ ¬ tokc = .own j) tok2 := hokt2.new (Nat.le_refl _) fun j hjn z => .inr ⟨.inr (hl3 j z), fun e => by have := hnew j e; simp only at this; omega⟩
    by_cases a3 : lastK L i = to
    · have a3' : (lastK L i = to) = True := eq_true a3
      rw [if_pos a3] at g2
      simp only [go_sem, a3', kDraw_eq]
      intro nx6 lv6 hn6 hl6
      refine ⟨okT_mono (hok5.t (h := []) (o := []) (nx' := nx6)) fun j z => .inr (hl6 j z), by omega, ?_⟩
      have ho : out2.map dLeg ++ [DV.sl 1 ((leg ++ [(i : Int)]).map fun x => DV.int .i64 x)] = (out2 ++ [leg ++ [(i : Int)]]).map dLeg := by simp [dLeg]
      rw [ho, hN']
      simp only [go_sem, ew]
      refine ⟨by kernel_rfl, i + 1, ?_, by simp only; omega⟩
      simp only [go_sem]
      exact ⟨by simp, by omega, _, _, _, .own (nx6 + 1), out2 ++ [leg ++ [(i : Int)]], rfl, ⟨.inl rfl, Nat.lt_succ_self _⟩, by simp only [List.length_append, List.length_singleton]; omega, g2⟩
    · have a3' : (lastK L i = to) = False := eq_false a3
      rw [if_neg a3] at g2
      simp only [go_sem, a3', kDraw_eq]
      intro nx6 lv6 hn6 hl6
      have hok6 : okN nx6 lv6 tok2 := hok5.mono (by simp only at hn3 hn6; omega) hl6
      by_cases a4 : leg.length + 1 < 4
      · rw [if_pos a4] at g2
        have a4' : (((leg ++ [(i : Int)]).length : Int) < 4) = True := eq_true (by simp; omega)
        simp only [go_sem, a4', chMem, chCells]
        refine .inr (callCh (ih (leg ++ [(i : Int)]) (.own (nx3 + 1)) out2 tok2 nx6 lv6 (by simp; omega) (by simp; omega) hjk hout2 hok6) idx7 rfl ?_)
        intro tok7 nx7 lv7 hok7
        simp only [go_sem, AH.setAll, chCells, hN', ew]
        refine ⟨by kernel_rfl, i + 1, ?_, by simp only; omega⟩
        simp only [go_sem]
        exact ⟨by simp, by omega, _, _, _, tok7, _, rfl, hok7, chG_len _ _ _ hout2, g2⟩
      · rw [if_neg a4] at g2
        have a4' : (((leg ++ [(i : Int)]).length : Int) < 4) = False := eq_false (by simp; omega)
        simp only [go_sem, a4', hN', ew]
        refine ⟨by kernel_rfl, i + 1, ?_, by simp only; omega⟩
        simp only [go_sem]
        exact ⟨by simp, by omega, _, _, _, tok2, out2, rfl, hok6, hout2, g2⟩
  · have hlt' : ((i : Int) < (L.length : Int)) = False := by simp; omega
    rw [KSn_end L i hlt] at g2
    simp only [chS] at g2
    subst g2
    simp only [go_sem, e12, hlt', hX]
    exact ⟨rfl, tok2, rfl, hokt2⟩

theorem f97 (n : Net) (hb : NetB n) (he : netE n = 0) (tr : Int) (L : List Rt) (hL : L.length ≤ 1000) (hok : ∀ r ∈ L, RtOk n r) (tk : Tok) (to most : Int) (hm : most ≤ 20) : ∀ (d : Nat) (leg : List Int) (tl : Tok) (out : List (List Int)) (tok : Tok) (nx : Nat) (lv : Nat → Prop),
    leg.length + d = 4 → leg.length < 4 → (∀ j ∈ leg, okR L j = true) → (out.length : Int) ≤ most → okN nx lv tok →
    QCall Try.prog 97 ⟨[], chMem n tr L ((L.map (needsR n)).map dNds) tk to most out tok, nx, lv⟩ [.sl 1 (leg.map fun x => DV.int .i64 x) tl, .ptr (.out 0) 0, .ptr (.out 1) 0, .ptr (.out 2) 0, .ptr (.out 3) 0, .ptr (.out 4) 0, .ptr (.out 5) 0]
      (outCh n tr L ((L.map (needsR n)).map dNds) tk to most (chG (legE n L (L.map (needsR n)) tr) (lastK L) to most (KSn L) d leg out)) := by
  intro d
  induction d with
  | zero => intro leg tl out tok nx lv h1 h2; omega
  | succ d ih =>
    intro leg tl out tok nx lv h1 h2 h3 h4 h5
    exact f97s n hb he tr L hL hok tk to most hm d ih leg tl out tok nx lv h1 h3 h4 h5
end Go.Proofs.Yteadhjclchjfjaa
