/- Legs: the program's check of a leg. -/
import Derived.Test.YteadhjclchjfjaaL37
namespace Go.Proofs.Yteadhjclchjfjaa
set_option linter.unusedSimpArgs false
set_option linter.unusedVariables false
open Go.AB

def statAt (n : Net) (s : Int) : Int := ((n.sects[s.toNat]?).map Sect.station).getD 0
def pltF (n : Net) (s : Int) : Bool := within s 0 ((n.sects.length : Int) - 1) && !decide (statAt n s = 0)
theorem f91 (n : Net) (hb : NetB n) (s : Int) : PCall Try.prog 91 [eNet n, .int .i64 s] (RV (.bool (pltF n s))) := by
  refine PCall.of_body Try.func91 rfl Try.ntmps91 (congrArg Array.toList Try.results91) ?_
  intro E
  have hsc := hb.sc
  have ew : IntKind.i64.wrap ((n.sects.length : Int) - 1) = (n.sects.length : Int) - 1 := i64_in (by omega) (by omega)
  simp only [go_sem, eNet, nCells, ew]
  refine callV (f56 _ _ _) ?_
  intro nx lv
  cases w : within s 0 ((n.sects.length : Int) - 1) with
  | false => simp only [go_sem, pltF, w, Bool.false_and]
  | true =>
    have h2 : 0 ≤ s ∧ s ≤ n.sects.length - 1 := by simpa [within] using w
    obtain ⟨c, hc⟩ : ∃ c, n.sects[s.toNat]? = some c := ⟨_, List.getElem?_eq_getElem (by omega)⟩
    have hc2 : (n.sects.map dSect)[s.toNat]? = some (dSect c) := by rw [List.getElem?_map, hc]; rfl
    have hsa : statAt n s = c.station := by simp [statAt, hc]
    have i1 : ((0 : Int) ≤ s) = True := eq_true h2.1
    have i2 : (s < (n.sects.length : Int)) = True := eq_true (by omega)
    simp only [go_sem, pltF, w, Bool.true_and, hsa, i1, i2, hc, hc2, Option.map_some, dSect]

/-- The last section of a leg. -/
def lastS (L : List Rt) (leg : List Int) : Int := ((rtAt L (leg.getD (leg.length - 1) 0)).st.getD ((rtAt L (leg.getD (leg.length - 1) 0)).st.length - 1) ⟨0, 0, 0⟩).s
theorem f94 (n : Net) (tr : Int) (L : List Rt) (N : List (List Nd)) (hok : ∀ r ∈ L, RtOk n r) (leg : List Int) (hl0 : 0 < leg.length) (hl : leg.length ≤ 1000) (hj : ∀ j ∈ leg, okR L j = true) :
    PCall Try.prog 94 [.ept (gD n tr L N), .sl 1 (leg.map fun x => DV.int .i64 x) .no] (RV (.int .i64 (lastS L leg))) := by
  refine PCall.of_body Try.func94 rfl Try.ntmps94 (congrArg Array.toList Try.results94) ?_
  intro E
  have hla := getD_last hl0
  unfold lastS
  generalize leg.getD (leg.length - 1) 0 = o at *
  obtain ⟨o0, o1, hro⟩ := okR_at (hj o (List.mem_of_getElem? hla))
  have hrk := hok _ (List.mem_of_getElem? hro)
  generalize rtAt L o = r at *
  have hs0 := hrk.l0
  have hs1 := hrk.l1
  have hsl : r.st[r.st.length - 1]? = some (r.st.getD (r.st.length - 1) ⟨0, 0, 0⟩) := by
    rw [List.getD_eq_getElem?_getD, List.getElem?_eq_getElem (by omega)]; rfl
  generalize r.st.getD (r.st.length - 1) ⟨0, 0, 0⟩ = x at *
  have hrop : (L.map dRt)[o.toNat]? = some (dRt r) := by rw [List.getElem?_map, hro]; rfl
  have hlap : (leg.map fun x => DV.int .i64 x)[leg.length - 1]? = some (.int .i64 o) := by rw [List.getElem?_map, hla]; rfl
  have hxp : (r.st.map dStp)[r.st.length - 1]? = some (dStp x) := by rw [List.getElem?_map, hsl]; rfl
  have ew1 : IntKind.i64.wrap ((leg.length : Int) - 1) = (leg.length : Int) - 1 := i64_in (by omega) (by omega)
  have ew2 : IntKind.i64.wrap ((r.st.length : Int) - 1) = (r.st.length : Int) - 1 := i64_in (by omega) (by omega)
  have u0 : ((0 : Int) ≤ o) = True := eq_true o0
  have u1 : (o < (L.length : Int)) = True := eq_true o1
  have v0 : ((0 : Int) ≤ (leg.length : Int) - 1) = True := eq_true (by omega)
  have v1 : ((leg.length : Int) - 1 < (leg.length : Int)) = True := eq_true (by omega)
  have v2 : ((leg.length : Int) - 1).toNat = leg.length - 1 := by omega
  have w0 : ((0 : Int) ≤ (r.st.length : Int) - 1) = True := eq_true (by omega)
  have w1 : ((r.st.length : Int) - 1 < (r.st.length : Int)) = True := eq_true (by omega)
  have w2 : ((r.st.length : Int) - 1).toNat = r.st.length - 1 := by omega
  simp only [go_sem, gD]
  refine drawn (by kernel_rfl) (by kernel_rfl) ?_
  simp only [go_sem, ew1, u0, u1, v0, v1, v2, hla, hlap, hro, hrop, Option.map_some, dRt, kDraw_eq, ew2, w0, w1, w2, hsl, hxp, dStp]

/-- A call that hands back a pointer to a new variable, which is taken over under the name of a slot of one's own. -/
theorem callX.adopt {P : Program} {k : Nat} {bs args args2 : List AV} {σ : AS} {dst : Option Nat} {K : AS → Prop} {R : AH → AV → Prop} (T : Nat) (h1 : rnAL (outF []) args = some args2) (h : QCall P k ⟨[], [], σ.m.nx, σ.m.lv⟩ args2 R)
    (hK : ∀ m' r, R m' r → m'.o = [] ∧ ∃ t g cs c0, r = .ptr (.own t g) 0 ∧ m'.cells (.own t g) = some cs ∧ rnCL (backF [] (some (.own t g)) (.own T (gnext σ.m T))) cs = some c0 ∧
      K (AS.put ⟨σ.s, ⟨AB.hset σ.m.h T (gnext σ.m T) c0, σ.m.o, m'.nx, m'.lv⟩⟩ dst (.ptr (.own T (gnext σ.m T)) 0))) : callX P k bs args σ dst K := by
  unfold callX
  refine .inr (.inr ?_)
  unfold effK
  refine ⟨[], args2, [], [], R, h1, rfl, rfl, fun i l hl => by simp at hl, h, fun m' r hr => ?_⟩
  obtain ⟨ho, t, g, cs, c0, rfl, k1, k2, k3⟩ := hK m' r hr
  refine ⟨some (.own t g), T, c0, [], .ptr (.own T (gnext σ.m T)) 0, by rw [ho]; rfl, rfl, ?_, ?_, k3⟩
  · rintro k hk
    cases hk
    exact ⟨⟨t, g, rfl⟩, cs, k1, k2⟩
  · simp only [rnV, rnA, rnC, backF, if_true]

def gC (n : Net) (tr : Int) (L : List Rt) (l : List DV) (tok : Tok) : List AV := nCells n ++ [.int .i64 tr, .sl 3 (L.map dRt) .no, .sl 1 l tok]
theorem gC_rn {f : AB.Loc → Option AB.Loc} {n : Net} {tr : Int} {L : List Rt} {l : List DV} {tok : Tok} : rnCL f (gC n tr L l tok) = some (gC n tr L l tok) := by
  simp only [gC, nCells, List.cons_append, List.nil_append, rnCL, rnC, port1]

set_option maxHeartbeats 4000000 in
set_option maxRecDepth 20000 in
theorem f92 (n : Net) (hb : NetB n) (he : netE n = 0) (tr : Int) (L : List Rt) (hL : L.length ≤ 1000) (hok : ∀ r ∈ L, RtOk n r) (nx : Nat) (lv : Nat → Prop) :
    QCall Try.prog 92 ⟨[], [], nx, lv⟩ [eNet n, .int .i64 tr, .sl 3 (L.map dRt) .no] (fun m r => m.o = [] ∧ r = .ptr (.own 14 0) 0 ∧ ∃ tok, AB.hget m.h 14 = some (0, gC n tr L ((L.map (needsR n)).map dNds) tok)) := by
  refine QCall.of_body Try.func92 rfl Try.ntmps92 (congrArg Array.toList Try.results92) ?_
  intro E
  have hNi : ∀ j r, L[j]? = some r → (L.map (needsR n))[j]? = some (needsR n r) := fun j r hj => by
    rw [List.getElem?_map, hj]; rfl
  have hNl : (L.map (needsR n)).length = L.length := List.length_map ..
  generalize hN : L.map (needsR n) = N at *
  simp only [go_sem, eNet, nCells]
  refine AW_loopH [9, 17, 18, 19, 20, 21, 22, 23, 24, 25, 26, 27, 28, 29, 30, 31, 32, 33]
    (fun (i : Nat) ρ m => ρ 17 = .int .i64 (i : Int) ∧ i ≤ L.length ∧ ∃ h nx lv tok, m = ⟨h, [], nx, lv⟩ ∧ AB.hget h 3 = some (0, [.sl 1 (n.names.map DV.str) .no, .sl 7 (n.sects.map dSect) .no, .sl 4 (n.links.map dLnk) .no, .sl 2 (n.sigs.map dPair) .no, .sl 2 (n.gates.map dPair) .no]) ∧ AB.hget h 14 = some (0, gC n tr L ((N.take i).map dNds) tok) ∧ okT m tok) (fun i => L.length - i) 0 ?_ ?_
  · simp only [go_sem]
    exact ⟨Nat.zero_le _, _, _, _, .nil, rfl, by simp [go_sem], by simp [go_sem, gC, nCells], trivial⟩
  rintro i ρ m ⟨e17, g1, h, nx, lv, tok, rfl, b3, b14, hokt⟩ Q hN' hR hX
  by_cases hlt : i < L.length
  · obtain ⟨x, hx⟩ : ∃ x, L[i]? = some x := ⟨_, List.getElem?_eq_getElem hlt⟩
    have hxp : (L.map dRt)[i]? = some (dRt x) := by rw [List.getElem?_map, hx]; rfl
    have hlt' : ((i : Int) < (L.length : Int)) = True := by simp; omega
    have h0 : ((0 : Int) ≤ (i : Int)) = True := by simp
    have ew : IntKind.i64.wrap ((i : Int) + 1) = (i : Int) + 1 := i64_in (by omega) (by omega)
    have h86 := f86 n hb he x (hok x (List.mem_of_getElem? hx))
    unfold eRt0 at h86
    have htk : N.take (i + 1) = N.take i ++ [needsR n x] := by rw [List.take_add_one, hNi i x hx]; rfl
    have hlen : (N.take i).length = i := by simp; omega
    obtain ⟨g9, hg9⟩ : ∃ g9, genO (AB.hget h 9) = g9 := ⟨_, rfl⟩
    simp only [go_sem, e17, hlt', h0, hx, hxp, Option.map_some, dRt, hg9]
    refine drawnP [2, 2, 2, 2, 2, 2, 2, 2, 3, 1, 1, 1, 1] [(8, [2, 2, 2, 2, 2, 0, 0, 0, 0, 3, 1, 1, 1]), (9, [2, 0, 0, 0, 0, 0, 0, 0, 0, 0, 2, 2, 3]), (12, [0, 0, 0, 0, 0, 0, 0, 0, 0, 0, 0, 0, 0])] 35 (by kernel_rfl) (by kernel_rfl) (by kernel_rfl) (by kernel_rfl) rfl ?_
    simp only [go_sem, b3, b14, gC, nCells, List.cons_append, List.nil_append]
    refine quietD h86 (fun _ => rfl) ?_
    simp only [go_sem, b3, b14, gC, nCells, List.cons_append, List.nil_append]
    intro nx1 lv1 hn1 hl1 nx2 lv2 hn2 hl2
    refine ⟨okT_mono hokt fun j z => hl2 j (.inr (hl1 j z)), by omega, ?_⟩
    intro nx3 lv3 hn3 hl3 nx4 lv4 hn4 hl4
    have hnw : (N.take i).map dNds ++ [DV.sl 4 ((needsR n x).map dNd)] = (N.take (i + 1)).map dNds := by rw [htk]; simp [dNds]
    rw [hnw, hN']
    simp only [go_sem, ew]
    refine ⟨by kernel_rfl, i + 1, ?_, by simp only; omega⟩
    simp only [go_sem]
    exact ⟨by simp, by omega, _, _, _, .own nx2, rfl, by simp [go_sem, b3], by simp [go_sem, gC, nCells], hl4 _ (hl3 _ (.inl rfl))⟩
  · have hlt' : ((i : Int) < (L.length : Int)) = False := by simp; omega
    rw [List.take_of_length_le (by omega)] at b14
    simp only [go_sem, e17, hlt', hX]
    first | exact ⟨tok, b14⟩ | exact ⟨rfl, rfl, tok, b14⟩

/-- The error of a leg's i-th route. -/
def legI (n : Net) (L : List Rt) (tr : Int) (leg : List Int) (i : Nat) : Int := legE n L (L.map (needsR n)) tr (leg.take i) (leg.getD i 0)
def legV (n : Net) (L : List Rt) (tr : Int) (leg : List Int) : Int :=
  if pltF n tr = false then 3 else if 4 < leg.length then 4 else if leg.length = 0 then 1
  else if firstE (legI n L tr leg) leg.length 0 ≠ 0 then firstE (legI n L tr leg) leg.length 0
  else if pltF n (lastS L leg) = false then 5 else 0
theorem legE_ok {n : Net} {L : List Rt} {N : List (List Nd)} {tr : Int} {leg : List Int} {k : Int} (h : legE n L N tr leg k = 0) : okR L k = true := by
  unfold legE at h
  split at h
  · cases h
  · rename_i h1; simpa using h1

set_option maxHeartbeats 4000000 in
set_option maxRecDepth 20000 in
theorem f50 (n : Net) (hb : NetB n) (tr : Int) (leg : List Int) (hlb : leg.length ≤ 140737488351232) : PCall Try.prog 50 [eNet n, .int .i64 tr, .sl 1 (leg.map fun x => DV.int .i64 x) .no] (RV (.int .i64 (if netRE n = 0 then legV n (netRts n) tr leg else netRE n))) := by
  refine PCall.of_body Try.func50 rfl Try.ntmps50 (congrArg Array.toList Try.results50) ?_
  intro E
  have h31 := f31 n hb
  have hL := netRts_len n
  change PCall Try.prog 31 [eNet n] (RV (rtV (netRts n) (netRE n))) at h31
  have hok := netRts_ok n
  have hz := @netRE_zero n
  generalize netRts n = L at *
  generalize netRE n = e at *
  unfold rtV at h31
  simp only [go_sem, eNet, nCells]
  refine callV h31 ?_
  intro nx lv
  by_cases q : e = 0
  rotate_left
  · have q' : (e = 0) = False := eq_false q
    simp only [go_sem, q', if_false]
  have he := hz q
  subst q
  have h91 := fun s => f91 n hb s
  unfold eNet nCells at h91
  simp only [go_sem, if_true]
  refine callV (h91 tr) ?_
  intro nx2 lv2
  generalize hF : legV n L tr leg = F
  unfold legV at hF
  cases p1 : pltF n tr with
  | false =>
    rw [if_pos p1] at hF
    subst hF
    simp only [go_sem, p1]
  | true =>
    rw [if_neg (by simp [p1])] at hF
    by_cases p2 : 4 < leg.length
    · have p2' : ((4 : Int) < (leg.length : Int)) = True := eq_true (by omega)
      rw [if_pos p2] at hF
      subst hF
      simp only [go_sem, p1, p2']
    have p2' : ((4 : Int) < (leg.length : Int)) = False := eq_false (by omega)
    rw [if_neg p2] at hF
    by_cases p3 : leg.length = 0
    · have p3' : ((leg.length : Int) = 0) = True := eq_true (by omega)
      rw [if_pos p3] at hF
      subst hF
      simp only [go_sem, p1, p2', p3']
    have p3' : ((leg.length : Int) = 0) = False := eq_false (by omega)
    rw [if_neg p3] at hF
    simp only [go_sem, p1, p2', p3']
    refine callX.adopt 37 rfl (f92 n hb he tr L hL hok nx2 lv2) ?_
    rintro m' r ⟨ho, rfl, tok, b14⟩
    refine ⟨ho, 14, 0, gC n tr L ((L.map (needsR n)).map dNds) tok, gC n tr L ((L.map (needsR n)).map dNds) tok, rfl, ?_, gC_rn, ?_⟩
    · simp only [AH.cells, b14, if_true]
    simp only [go_sem]
    have h93 := fun lg hlg hj k => f93 n hb he tr L hL hok lg hlg hj k
    have h94 := f94 n tr L (L.map (needsR n)) hok leg (by omega) (by omega)
    have hli : ∀ i, legI n L tr leg i = legE n L (L.map (needsR n)) tr (leg.take i) (leg.getD i 0) := fun _ => rfl
    generalize hN : L.map (needsR n) = N at *
    refine AW_loopH [6, 10, 11, 12, 40, 41, 42, 43, 44, 45, 46, 47, 48, 49, 50, 51, 52, 53, 54]
      (fun (i : Nat) ρ m => ρ 40 = .int .i64 (i : Int) ∧ i ≤ leg.length ∧ firstE (legI n L tr leg) (leg.length - i) i = firstE (legI n L tr leg) leg.length 0 ∧ (∀ j ∈ leg.take i, okR L j = true) ∧ ∃ h nx lv, m = ⟨h, [], nx, lv⟩ ∧
        AB.hget h 3 = some (0, [.sl 1 (n.names.map DV.str) .no, .sl 7 (n.sects.map dSect) .no, .sl 4 (n.links.map dLnk) .no, .sl 2 (n.sigs.map dPair) .no, .sl 2 (n.gates.map dPair) .no]) ∧ AB.hget h 37 = some (0, gC n tr L (N.map dNds) tok)) (fun i => leg.length - i) 0 ?_ ?_
    · simp only [go_sem]
      refine ⟨Nat.zero_le _, rfl, by simp, _, _, _, rfl, by simp [go_sem], by simp [go_sem]⟩
    rintro i ρ m ⟨e40, g1, g2, g3, h, nx3, lv3, rfl, b3, b37⟩ Q hN' hR hX
    by_cases hlt : i < leg.length
    · obtain ⟨k, hk⟩ : ∃ x, leg[i]? = some x := ⟨_, List.getElem?_eq_getElem hlt⟩
      have hkp : (leg.map fun x => DV.int .i64 x)[i]? = some (.int .i64 k) := by rw [List.getElem?_map, hk]; rfl
      have hlt' : ((i : Int) < (leg.length : Int)) = True := by simp; omega
      have h0 : ((0 : Int) ≤ (i : Int)) = True := by simp
      have ew : IntKind.i64.wrap ((i : Int) + 1) = (i : Int) + 1 := i64_in (by omega) (by omega)
      have hgk : leg.getD i 0 = k := by rw [List.getD_eq_getElem?_getD, hk]; rfl
      have hlk := hli i
      rw [hgk] at hlk
      have hcut : (leg.take i).map (fun x => DV.int .i64 x) = List.take (i - 0) (List.map (fun x => DV.int .i64 x) leg) := by simp [List.map_take]
      have h93' := h93 (leg.take i) (by simp; omega) g3 k
      rw [hcut] at h93'
      simp only [gD] at h93'
      simp only [go_sem, e40, hlt', h0, hk, hkp, Option.map_some, b37, gC, nCells, List.cons_append, List.nil_append]
      refine ⟨Nat.zero_le _, by omega, .inl (quiet h93' rfl ?_)⟩
      by_cases w : legE n L N tr (leg.take i) k = 0
      · have w' : (legE n L N tr (leg.take i) k = 0) = True := eq_true w
        rw [w] at hlk
        simp only [go_sem, w', hN', ew]
        refine ⟨by kernel_rfl, i + 1, ?_, by simp only; omega⟩
        simp only [go_sem]
        refine ⟨by simp, by omega, firstE_go hlt hlk g2, fun j hj => ?_, _, _, _, rfl, b3, b37⟩
        rw [List.take_add_one, hk] at hj
        simp only [Option.toList_some, List.mem_append, List.mem_singleton] at hj
        rcases hj with hj | rfl
        · exact g3 j hj
        · exact legE_ok w
      · have w' : (legE n L N tr (leg.take i) k = 0) = False := eq_false w
        have hit := firstE_hit hlt hlk w g2
        rw [if_pos (by rw [hit]; exact w), hit] at hF
        subst hF
        simp only [go_sem, w', hR]
    · have hlt' : ((i : Int) < (leg.length : Int)) = False := by simp; omega
      rw [firstE_end hlt] at g2
      rw [List.take_of_length_le (by omega)] at g3
      rw [if_neg (by rw [← g2]; simp)] at hF
      have h94' := h94 g3
      simp only [gD] at h94'
      simp only [go_sem, e40, hlt', hX]
      refine drawn (by kernel_rfl) (by kernel_rfl) ?_
      simp only [go_sem, b3, b37, gC, nCells, List.cons_append, List.nil_append]
      refine quiet h94' rfl ?_
      simp only [go_sem]
      refine quietD (h91 (lastS L leg)) (fun _ => rfl) ?_
      cases w : pltF n (lastS L leg) with
      | true =>
        rw [if_neg (by simp [w])] at hF
        subst hF
        simp only [go_sem, w, kDraw_eq]
        try exact fun _ _ _ _ => rfl
      | false =>
        rw [if_pos w] at hF
        subst hF
        simp only [go_sem, w, kDraw_eq]
        try exact fun _ _ _ _ => rfl
end Go.Proofs.Yteadhjclchjfjaa
