/- Legs: what one route more comes to, by the program. -/
import Derived.Test.YteadhjclchjfjaaL36
namespace Go.Proofs.Yteadhjclchjfjaa
set_option linter.unusedSimpArgs false
set_option linter.unusedVariables false
open Go.AB

theorem legM_cons {N : List (List Nd)} {j k : Int} {leg : List Int} : legM N (j :: leg) k = ((ndAt N j).any (fun x => !decide (x.k = 2) && anyM [x] (ndAt N k)) || legM N leg k) := rfl
theorem getD_last {leg : List Int} (h : 0 < leg.length) : leg[leg.length - 1]? = some (leg.getD (leg.length - 1) 0) := by
  rw [List.getD_eq_getElem?_getD, List.getElem?_eq_getElem (by omega)]; rfl

set_option maxHeartbeats 8000000 in
set_option maxRecDepth 20000 in
theorem f93 (n : Net) (hb : NetB n) (he : netE n = 0) (tr : Int) (L : List Rt) (hL : L.length ≤ 1000) (hok : ∀ r ∈ L, RtOk n r) (leg : List Int) (hleg : leg.length ≤ 1000) (hj : ∀ j ∈ leg, okR L j = true) (k : Int) :
    PCall Try.prog 93 [.ept (gD n tr L (L.map (needsR n))), .sl 1 (leg.map fun x => DV.int .i64 x) .no, .int .i64 k] (RV (.int .i64 (legE n L (L.map (needsR n)) tr leg k))) := by
  refine PCall.of_body Try.func93 rfl Try.ntmps93 (congrArg Array.toList Try.results93) ?_
  intro E
  have hst : ∀ r ∈ L, r.st.length ≤ 1000 := fun r hr => by have := (hok r hr).l1; omega
  have hNl : (L.map (needsR n)).length = L.length := List.length_map ..
  have hNb : ∀ j, ((L.map (needsR n)).getD j []).length ≤ 10000 := fun j => by
    rw [List.getD_eq_getElem?_getD, List.getElem?_map]
    cases hj : L[j]? with
    | none => simp
    | some r => simpa using needsR_len n r (hok r (List.mem_of_getElem? hj)).l1
  have hNg : ∀ j, j < L.length → ((L.map (needsR n)).map dNds)[j]? = some (dNds ((L.map (needsR n)).getD j [])) := fun j hj => by
    rw [List.getElem?_map, List.getD_eq_getElem?_getD, List.getElem?_map, List.getElem?_eq_getElem hj]; rfl
  generalize hN : L.map (needsR n) = N at *
  generalize hF : legE n L N tr leg k = F
  unfold legE legO at hF
  have ew0 : IntKind.i64.wrap ((L.length : Int) - 1) = (L.length : Int) - 1 := i64_in (by omega) (by omega)
  simp only [go_sem, gD, ew0]
  refine callV (f56 _ _ _) ?_
  intro nx lv
  by_cases q1 : okR L k = false
  · rw [if_pos q1] at hF
    subst hF
    have : within k 0 ((L.length : Int) - 1) = false := q1
    simp only [go_sem, this]
  rw [if_neg q1] at hF
  have q1 : okR L k = true := by simpa using q1
  have q1' : within k 0 ((L.length : Int) - 1) = true := q1
  obtain ⟨k0, k1, hr⟩ := okR_at q1
  have hrk := hok _ (List.mem_of_getElem? hr)
  have h90 := f90r n hb he _ hrk
  generalize rtAt L k = r at *
  have hrp : (L.map dRt)[k.toNat]? = some (dRt r) := by rw [List.getElem?_map, hr]; rfl
  have i0 : ((0 : Int) ≤ k) = True := eq_true k0
  have i1 : (k < (L.length : Int)) = True := eq_true k1
  have hf0 := hrk.f0
  have hf1 := hrk.f1
  obtain ⟨sg, hsg⟩ : ∃ x, n.sigs[r.fr.toNat]? = some x := ⟨_, List.getElem?_eq_getElem (by omega)⟩
  have hsp : (n.sigs.map dPair)[r.fr.toNat]? = some (dPair sg) := by rw [List.getElem?_map, hsg]; rfl
  have hhome : homeF n r.fr = sg.s := by simp [homeF, hsg]
  have j0 : ((0 : Int) ≤ r.fr) = True := eq_true hf0
  have j1 : (r.fr < (n.sigs.length : Int)) = True := eq_true hf1
  simp only [go_sem, q1', i0, i1, hr, hrp, Option.map_some, dRt]
  refine drawn (by kernel_rfl) (by kernel_rfl) ?_
  by_cases hl0 : leg.length = 0
  · have hl0' : ((leg.length : Int) = 0) = True := eq_true (by omega)
    have hl1' : ((0 : Int) < (leg.length : Int)) = False := eq_false (by omega)
    rw [if_pos hl0, hhome] at hF
    by_cases a1 : sg.s = tr
    · have a1' : (sg.s = tr) = True := eq_true a1
      rw [if_neg (by simp [a1])] at hF
      simp only [go_sem, gD, hl0', j0, j1, hsg, hsp, Option.map_some, dPair, a1', kDraw_eq]
      intro nx1 lv1 hn1 hl1
      refine drawn (by kernel_rfl) (by kernel_rfl) ?_
      simp only [go_sem, hl1', kDraw_eq]
      intro nx2 lv2 hn2 hl2
      refine AW_loopH [6, 9, 75, 76, 77, 78, 79, 80, 81, 82, 83, 84, 85, 86, 87, 88, 89, 90, 91]
        (fun (i : Nat) ρ m => ρ 75 = .int .i64 (i : Int) ∧ i ≤ r.st.length ∧ ((r.st.drop i).any fun x => decide (x.s = tr) || legP L leg x.s) = (r.st.any fun x => decide (x.s = tr) || legP L leg x.s) ∧ ∃ h nx lv, m = ⟨h, [], nx, lv⟩ ∧
          AB.hget h 3 = some (0, [.ept (gD n tr L N)]) ∧ AB.hget h 7 = some (0, [.int .i64 r.fr, .int .i64 r.to, .sl 3 (r.st.map dStp) .no])) (fun i => r.st.length - i) 0 ?_ ?_
      · simp only [go_sem]
        first | exact ⟨Nat.zero_le _, _, _, _, rfl, by simp [go_sem, gD], by simp [go_sem]⟩ | exact ⟨Nat.zero_le _, rfl, _, _, _, rfl, by simp [go_sem, gD], by simp [go_sem]⟩
      rintro i ρ m ⟨e75, g1, g2, h, nx3, lv3, rfl, b3, b7⟩ Q hN1 hR hX
      by_cases hlt : i < r.st.length
      · obtain ⟨x, hx⟩ : ∃ x, r.st[i]? = some x := ⟨_, List.getElem?_eq_getElem hlt⟩
        have hxp : (r.st.map dStp)[i]? = some (dStp x) := by rw [List.getElem?_map, hx]; rfl
        have hlt' : ((i : Int) < (r.st.length : Int)) = True := by simp; omega
        have h0 : ((0 : Int) ≤ (i : Int)) = True := by simp
        have hlr := hrk.l1
        have ew : IntKind.i64.wrap ((i : Int) + 1) = (i : Int) + 1 := i64_in (by omega) (by omega)
        have hd : r.st.drop i = x :: r.st.drop (i + 1) := by
          rw [List.drop_eq_getElem_cons hlt]
          rw [List.getElem?_eq_getElem hlt] at hx
          cases hx; rfl
        rw [hd, List.any_cons] at g2
        obtain ⟨g9, hg9⟩ : ∃ g9, genO (AB.hget h 9) = g9 := ⟨_, rfl⟩
        simp only [go_sem, e75, hlt', h0, hx, hxp, Option.map_some, dStp, hg9]
        obtain ⟨h2, hh2⟩ : ∃ h2, AB.hset (AB.hset h 9 g9 [.int .i64 0, .int .i64 0, .int .i64 0]) 9 g9 [.int .i64 x.s, .int .i64 x.i, .int .i64 x.o] = h2 := ⟨_, rfl⟩
        have c9 : AB.hget h2 9 = some (g9, [.int .i64 x.s, .int .i64 x.i, .int .i64 x.o]) := by rw [← hh2]; simp [go_sem]
        have c3 : AB.hget h2 3 = some (0, [.ept (gD n tr L N)]) := by rw [← hh2]; simp [go_sem, b3]
        have c7 : AB.hget h2 7 = some (0, [.int .i64 r.fr, .int .i64 r.to, .sl 3 (r.st.map dStp) .no]) := by rw [← hh2]; simp [go_sem, b7]
        rw [hh2]
        refine drawnP [2, 2, 2, 2, 2, 2, 2, 2, 2, 2, 3, 1] [(10, [0, 0, 0, 0, 0, 0, 0, 0, 0, 0, 0, 2])] 138 (by kernel_rfl) (by kernel_rfl) (by kernel_rfl) (by kernel_rfl) rfl ?_
        by_cases hst2 : x.s = tr
        · have hst2' : (x.s = tr) = True := eq_true hst2
          simp only [go_sem, c3, c7, c9, gD, hst2', kDraw_eq]
          intro nx4 lv4 hn4 hl4 nx5 lv5 hn5 hl5
          rw [if_pos (by rw [← g2]; simp [hst2])] at hF
          subst hF
          simp only [go_sem, hR]
        · have hst2' : (x.s = tr) = False := eq_false hst2
          simp only [go_sem, c3, c7, c9, gD, hst2']
          intro nx4 lv4 hn4 hl4
          have c3' := c3
          have c9' := c9
          refine .inr (effV (ls := [.own 3 0, .own 9 g9]) (css := [[.ept (gD n tr L N)], [.int .i64 x.s, .int .i64 x.i, .int .i64 x.o]]) (cs2 := [[.ept (gD n tr L N)], [.int .i64 x.s, .int .i64 x.i, .int .i64 x.o]]) (by simp [rnAL, rnA, rnCL, rnC, port1, outF, idxL]) ?_ rfl (.two (by simp)) (f124 n tr L N hst leg hleg hj x nx4 lv4) rfl rfl rfl ?_)
          · simp only [cellsL, AH.cells, c3, c9, if_true]
          intro nx5 lv5 hn5 hl5
          simp only [go_sem, AH.setAll, kDraw_eq]
          intro nx6 lv6 hn6 hl6
          cases w : legP L leg x.s with
          | true =>
            rw [if_pos (by rw [← g2]; simp [w])] at hF
            subst hF
            simp only [go_sem, w, hR]
          | false =>
            rw [w] at g2
            simp only [hst2, decide_false, Bool.false_or] at g2
            simp only [go_sem, w, hN1, ew]
            refine ⟨by kernel_rfl, i + 1, ?_, by simp only; omega⟩
            simp only [go_sem]
            exact ⟨by simp, by omega, g2, _, _, _, rfl, by simp [go_sem], by simp [go_sem, c7]⟩
      · have hlt' : ((i : Int) < (r.st.length : Int)) = False := by simp; omega
        rw [List.drop_eq_nil_of_le (by omega), List.any_nil] at g2
        rw [if_neg (by rw [← g2]; simp)] at hF
        simp only [go_sem, e75, hlt', hX]
        refine AW_loopH [6, 11, 13, 94, 95, 96, 97, 98, 99, 100, 101, 102, 103, 104, 105, 106, 107, 108, 109, 110, 111, 112, 113, 114, 115, 116, 117, 118, 119, 120, 121, 122, 123, 124, 125, 126]
          (fun (i : Nat) ρ m => ρ 94 = .int .i64 (i : Int) ∧ i ≤ leg.length ∧ legM N (leg.drop i) k = legM N leg k ∧ ∃ h nx lv, m = ⟨h, [], nx, lv⟩ ∧
            AB.hget h 3 = some (0, [.ept (gD n tr L N)]) ∧ AB.hget h 7 = some (0, [.int .i64 r.fr, .int .i64 r.to, .sl 3 (r.st.map dStp) .no])) (fun i => leg.length - i) 0 ?_ ?_
        · simp only [go_sem]
          first | exact ⟨Nat.zero_le _, _, _, _, rfl, b3, b7⟩ | exact ⟨Nat.zero_le _, rfl, _, _, _, rfl, b3, b7⟩
        clear b3 b7 e75 g2 hlt hlt' g1 nx3 lv3 h
        rintro i2 ρ2 m ⟨e94, g1, g2, h, nx3, lv3, rfl, b3, b7⟩ Q2 hN2 hR2 hX2
        by_cases hlt : i2 < leg.length
        · obtain ⟨j, hjx⟩ : ∃ x, leg[i2]? = some x := ⟨_, List.getElem?_eq_getElem hlt⟩
          have hjp : (leg.map fun x => DV.int .i64 x)[i2]? = some (.int .i64 j) := by rw [List.getElem?_map, hjx]; rfl
          have hlt' : ((i2 : Int) < (leg.length : Int)) = True := by simp; omega
          have h0 : ((0 : Int) ≤ (i2 : Int)) = True := by simp
          have ew : IntKind.i64.wrap ((i2 : Int) + 1) = (i2 : Int) + 1 := i64_in (by omega) (by omega)
          have hd : leg.drop i2 = j :: leg.drop (i2 + 1) := by
            rw [List.drop_eq_getElem_cons hlt]
            rw [List.getElem?_eq_getElem hlt] at hjx
            cases hjx; rfl
          rw [hd, legM_cons] at g2
          obtain ⟨w0, w1, _⟩ := okR_at (hj j (List.mem_of_getElem? hjx))
          have y0 : ((0 : Int) ≤ j) = True := eq_true w0
          have y1 : (j < (N.length : Int)) = True := eq_true (by omega)
          have i1N : (k < (N.length : Int)) = True := eq_true (by omega)
          have hNj := hNg j.toNat (by omega)
          have hNk := hNg k.toNat (by omega)
          have hbj := hNb j.toNat
          have hbk := hNb k.toNat
          change (ndAt N j).length ≤ 10000 at hbj
          change (ndAt N k).length ≤ 10000 at hbk
          change (N.map dNds)[j.toNat]? = some (dNds (ndAt N j)) at hNj
          change (N.map dNds)[k.toNat]? = some (dNds (ndAt N k)) at hNk
          simp only [go_sem, e94, hlt', h0, hjx, hjp, Option.map_some, b3, gD, y0, y1, hNj, dNds]
          refine AW_loopH [6, 13, 106, 107, 108, 109, 110, 111, 112, 113, 114, 115, 116, 117, 118, 119, 120, 121, 122, 123, 124, 125]
            (fun (p : Nat) ρ m => ρ 106 = .int .i64 (p : Int) ∧ p ≤ (ndAt N j).length ∧ (((ndAt N j).drop p).any fun x => !decide (x.k = 2) && anyM [x] (ndAt N k)) = ((ndAt N j).any fun x => !decide (x.k = 2) && anyM [x] (ndAt N k)) ∧ ∃ h nx lv, m = ⟨h, [], nx, lv⟩ ∧
              AB.hget h 3 = some (0, [.ept (gD n tr L N)]) ∧ AB.hget h 7 = some (0, [.int .i64 r.fr, .int .i64 r.to, .sl 3 (r.st.map dStp) .no])) (fun p => (ndAt N j).length - p) 0 ?_ ?_
          · simp only [go_sem]
            first | exact ⟨Nat.zero_le _, _, _, _, rfl, b3, b7⟩ | exact ⟨Nat.zero_le _, rfl, _, _, _, rfl, b3, b7⟩
          clear b3 b7 h nx3 lv3
          rintro p ρ3 m ⟨e106, p1, p2, h, nx3, lv3, rfl, b3, b7⟩ Q3 hN3 hR3 hX3
          by_cases hltp : p < (ndAt N j).length
          · obtain ⟨x, hx⟩ : ∃ x, (ndAt N j)[p]? = some x := ⟨_, List.getElem?_eq_getElem hltp⟩
            have hxp : ((ndAt N j).map dNd)[p]? = some (dNd x) := by rw [List.getElem?_map, hx]; rfl
            have hlt3 : ((p : Int) < ((ndAt N j).length : Int)) = True := by simp; omega
            have h03 : ((0 : Int) ≤ (p : Int)) = True := by simp
            have ew3 : IntKind.i64.wrap ((p : Int) + 1) = (p : Int) + 1 := i64_in (by omega) (by omega)
            have hd3 : (ndAt N j).drop p = x :: (ndAt N j).drop (p + 1) := by
              rw [List.drop_eq_getElem_cons hltp]
              rw [List.getElem?_eq_getElem hltp] at hx
              cases hx; rfl
            rw [hd3, List.any_cons] at p2
            obtain ⟨g13, hg13⟩ : ∃ g13, genO (AB.hget h 13) = g13 := ⟨_, rfl⟩
            simp only [go_sem, e106, hlt3, h03, hx, hxp, Option.map_some, dNd, hg13]
            refine drawnP [2, 2, 2, 2, 2, 3, 2, 2, 2, 2, 2, 2, 2, 1, 1] [(5, [0, 0, 0, 0, 0, 0, 2, 2, 2, 2, 2, 2, 2, 2, 2])] 138 (by kernel_rfl) (by kernel_rfl) (by kernel_rfl) (by kernel_rfl) rfl ?_
            have cont : ((!decide (x.k = 2) && anyM [x] (ndAt N k)) = false) → ∀ (h' : List (Nat × Nat × List AV)) nx' lv', AB.hget h' 3 = some (0, [.ept (gD n tr L N)]) → AB.hget h' 7 = some (0, [.int .i64 r.fr, .int .i64 r.to, .sl 3 (r.st.map dStp) .no]) →
                (((ndAt N j).drop (p + 1)).any fun x => !decide (x.k = 2) && anyM [x] (ndAt N k)) = ((ndAt N j).any fun x => !decide (x.k = 2) && anyM [x] (ndAt N k)) ∧ ∃ h nx lv, (⟨h', [], nx', lv'⟩ : AH) = ⟨h, [], nx, lv⟩ ∧ AB.hget h 3 = some (0, [.ept (gD n tr L N)]) ∧ AB.hget h 7 = some (0, [.int .i64 r.fr, .int .i64 r.to, .sl 3 (r.st.map dStp) .no]) := fun e h' nx' lv' c3 c7 => by
              rw [e, Bool.false_or] at p2
              exact ⟨p2, _, _, _, rfl, c3, c7⟩
            by_cases hk2 : x.k = 2
            · have hk2' : (x.k = 2) = True := eq_true hk2
              simp only [go_sem, hk2', b3, gD, y0, y1, i0, i1N, hNk, dNds, kDraw_eq]
              intro nx4 lv4 hn4 hl4 nx5 lv5 hn5 hl5
              simp only [hN3, ew3]
              refine ⟨by kernel_rfl, p + 1, ?_, by simp only; omega⟩
              simp only [go_sem]
              exact ⟨by simp, by omega, cont (by simp [hk2]) _ _ _ (by simp [go_sem, b3]) (by simp [go_sem, b7])⟩
            · have hk2' : (x.k = 2) = False := eq_false hk2
              have h85 := f85 [x] (ndAt N k) (by simp) (by omega)
              simp only [List.map_cons, List.map_nil, dNd] at h85
              simp only [go_sem, hk2', b3, gD, y0, y1, i0, i1N, hNk, dNds, kDraw_eq]
              intro nx4 lv4 hn4 hl4
              refine quietD h85 (fun _ => rfl) ?_
              simp only [go_sem, kDraw_eq]
              intro nx5 lv5 hn5 hl5
              cases w : anyM [x] (ndAt N k) with
              | true =>
                rw [if_pos (by rw [← g2, ← p2, w]; simp [hk2])] at hF
                subst hF
                simp only [go_sem, w, hR3, hR2]
              | false =>
                simp only [go_sem, w, hN3, ew3]
                refine ⟨by kernel_rfl, p + 1, ?_, by simp only; omega⟩
                simp only [go_sem]
                exact ⟨by simp, by omega, cont (by rw [w, Bool.and_false]) _ _ _ (by simp [go_sem, b3]) (by simp [go_sem, b7])⟩
          · have hlt3 : ((p : Int) < ((ndAt N j).length : Int)) = False := by simp; omega
            rw [List.drop_eq_nil_of_le (by omega), List.any_nil] at p2
            rw [← p2, Bool.false_or] at g2
            simp only [go_sem, e106, hlt3, hX3, hN2, ew]
            refine ⟨by kernel_rfl, i2 + 1, ?_, by simp only; omega⟩
            simp only [go_sem]
            exact ⟨by simp, by omega, g2, _, _, _, rfl, b3, b7⟩
        · have hlt' : ((i2 : Int) < (leg.length : Int)) = False := by simp; omega
          rw [List.drop_eq_nil_of_le (by omega)] at g2
          rw [if_neg (by rw [← g2]; simp [legM])] at hF
          have hll := lapF_len n r
          unfold eRt0 at h90
          unfold eNet nCells at h90
          simp only [go_sem, e94, hlt', hX2]
          refine drawn (by kernel_rfl) (by kernel_rfl) ?_
          simp only [go_sem, b3, b7, gD]
          refine quietD h90 (fun _ => rfl) ?_
          simp only [go_sem, b3, gD]
          refine quietD (f123 (lapF n r) tr (by omega)) (fun _ => rfl) ?_
          cases w : psec (lapF n r) tr with
          | true =>
            rw [if_pos w] at hF
            subst hF
            simp only [go_sem, w, kDraw_eq]
            try exact fun _ _ _ _ => rfl
          | false =>
            rw [if_neg (by simp [w])] at hF
            subst hF
            simp only [go_sem, w, kDraw_eq]
            try exact fun _ _ _ _ => rfl
    · have a1' : (sg.s = tr) = False := eq_false a1
      rw [if_pos (by simp [a1])] at hF
      subst hF
      simp only [go_sem, gD, hl0', j0, j1, hsg, hsp, Option.map_some, dPair, a1', kDraw_eq]
      try exact fun _ _ _ _ => rfl
  · have hl0' : ((leg.length : Int) = 0) = False := eq_false (by omega)
    have hl1' : ((0 : Int) < (leg.length : Int)) = True := eq_true (by omega)
    have ew1 : IntKind.i64.wrap ((leg.length : Int) - 1) = (leg.length : Int) - 1 := i64_in (by omega) (by omega)
    rw [if_neg hl0] at hF
    have hla := getD_last (leg := leg) (by omega)
    generalize leg.getD (leg.length - 1) 0 = o at *
    have hoo := hj o (List.mem_of_getElem? hla)
    obtain ⟨o0, o1, hro⟩ := okR_at hoo
    generalize rtAt L o = ro at *
    have hrop : (L.map dRt)[o.toNat]? = some (dRt ro) := by rw [List.getElem?_map, hro]; rfl
    have hlap : (leg.map fun x => DV.int .i64 x)[leg.length - 1]? = some (.int .i64 o) := by rw [List.getElem?_map, hla]; rfl
    have u0 : ((0 : Int) ≤ o) = True := eq_true o0
    have u1 : (o < (L.length : Int)) = True := eq_true o1
    have v0 : ((0 : Int) ≤ (leg.length : Int) - 1) = True := eq_true (by omega)
    have v1 : ((leg.length : Int) - 1 < (leg.length : Int)) = True := eq_true (by omega)
    have v2 : ((leg.length : Int) - 1).toNat = leg.length - 1 := by omega
    simp only [go_sem, hl0', kDraw_eq]
    intro nx1 lv1 hn1 hl1
    refine drawn (by kernel_rfl) (by kernel_rfl) ?_
    by_cases a1 : r.fr = ro.to
    · have a1' : (r.fr = ro.to) = True := eq_true a1
      rw [if_neg (by simp [a1])] at hF
      simp only [go_sem, gD, hl1', ew1, u0, u1, v0, v1, v2, hla, hlap, hro, hrop, Option.map_some, dRt, a1', kDraw_eq]
      intro nx2 lv2 hn2 hl2
      refine AW_loopH [6, 9, 75, 76, 77, 78, 79, 80, 81, 82, 83, 84, 85, 86, 87, 88, 89, 90, 91]
        (fun (i : Nat) ρ m => ρ 75 = .int .i64 (i : Int) ∧ i ≤ r.st.length ∧ ((r.st.drop i).any fun x => decide (x.s = tr) || legP L leg x.s) = (r.st.any fun x => decide (x.s = tr) || legP L leg x.s) ∧ ∃ h nx lv, m = ⟨h, [], nx, lv⟩ ∧
          AB.hget h 3 = some (0, [.ept (gD n tr L N)]) ∧ AB.hget h 7 = some (0, [.int .i64 r.fr, .int .i64 r.to, .sl 3 (r.st.map dStp) .no])) (fun i => r.st.length - i) 0 ?_ ?_
      · simp only [go_sem]
        first | exact ⟨Nat.zero_le _, _, _, _, rfl, by simp [go_sem, gD], by simp [go_sem]⟩ | exact ⟨Nat.zero_le _, rfl, _, _, _, rfl, by simp [go_sem, gD], by simp [go_sem]⟩
      rintro i ρ m ⟨e75, g1, g2, h, nx3, lv3, rfl, b3, b7⟩ Q hN1 hR hX
      by_cases hlt : i < r.st.length
      · obtain ⟨x, hx⟩ : ∃ x, r.st[i]? = some x := ⟨_, List.getElem?_eq_getElem hlt⟩
        have hxp : (r.st.map dStp)[i]? = some (dStp x) := by rw [List.getElem?_map, hx]; rfl
        have hlt' : ((i : Int) < (r.st.length : Int)) = True := by simp; omega
        have h0 : ((0 : Int) ≤ (i : Int)) = True := by simp
        have hlr := hrk.l1
        have ew : IntKind.i64.wrap ((i : Int) + 1) = (i : Int) + 1 := i64_in (by omega) (by omega)
        have hd : r.st.drop i = x :: r.st.drop (i + 1) := by
          rw [List.drop_eq_getElem_cons hlt]
          rw [List.getElem?_eq_getElem hlt] at hx
          cases hx; rfl
        rw [hd, List.any_cons] at g2
        obtain ⟨g9, hg9⟩ : ∃ g9, genO (AB.hget h 9) = g9 := ⟨_, rfl⟩
        simp only [go_sem, e75, hlt', h0, hx, hxp, Option.map_some, dStp, hg9]
        obtain ⟨h2, hh2⟩ : ∃ h2, AB.hset (AB.hset h 9 g9 [.int .i64 0, .int .i64 0, .int .i64 0]) 9 g9 [.int .i64 x.s, .int .i64 x.i, .int .i64 x.o] = h2 := ⟨_, rfl⟩
        have c9 : AB.hget h2 9 = some (g9, [.int .i64 x.s, .int .i64 x.i, .int .i64 x.o]) := by rw [← hh2]; simp [go_sem]
        have c3 : AB.hget h2 3 = some (0, [.ept (gD n tr L N)]) := by rw [← hh2]; simp [go_sem, b3]
        have c7 : AB.hget h2 7 = some (0, [.int .i64 r.fr, .int .i64 r.to, .sl 3 (r.st.map dStp) .no]) := by rw [← hh2]; simp [go_sem, b7]
        rw [hh2]
        refine drawnP [2, 2, 2, 2, 2, 2, 2, 2, 2, 2, 3, 1] [(10, [0, 0, 0, 0, 0, 0, 0, 0, 0, 0, 0, 2])] 138 (by kernel_rfl) (by kernel_rfl) (by kernel_rfl) (by kernel_rfl) rfl ?_
        by_cases hst2 : x.s = tr
        · have hst2' : (x.s = tr) = True := eq_true hst2
          simp only [go_sem, c3, c7, c9, gD, hst2', kDraw_eq]
          intro nx4 lv4 hn4 hl4 nx5 lv5 hn5 hl5
          rw [if_pos (by rw [← g2]; simp [hst2])] at hF
          subst hF
          simp only [go_sem, hR]
        · have hst2' : (x.s = tr) = False := eq_false hst2
          simp only [go_sem, c3, c7, c9, gD, hst2']
          intro nx4 lv4 hn4 hl4
          have c3' := c3
          have c9' := c9
          refine .inr (effV (ls := [.own 3 0, .own 9 g9]) (css := [[.ept (gD n tr L N)], [.int .i64 x.s, .int .i64 x.i, .int .i64 x.o]]) (cs2 := [[.ept (gD n tr L N)], [.int .i64 x.s, .int .i64 x.i, .int .i64 x.o]]) (by simp [rnAL, rnA, rnCL, rnC, port1, outF, idxL]) ?_ rfl (.two (by simp)) (f124 n tr L N hst leg hleg hj x nx4 lv4) rfl rfl rfl ?_)
          · simp only [cellsL, AH.cells, c3, c9, if_true]
          intro nx5 lv5 hn5 hl5
          simp only [go_sem, AH.setAll, kDraw_eq]
          intro nx6 lv6 hn6 hl6
          cases w : legP L leg x.s with
          | true =>
            rw [if_pos (by rw [← g2]; simp [w])] at hF
            subst hF
            simp only [go_sem, w, hR]
          | false =>
            rw [w] at g2
            simp only [hst2, decide_false, Bool.false_or] at g2
            simp only [go_sem, w, hN1, ew]
            refine ⟨by kernel_rfl, i + 1, ?_, by simp only; omega⟩
            simp only [go_sem]
            exact ⟨by simp, by omega, g2, _, _, _, rfl, by simp [go_sem], by simp [go_sem, c7]⟩
      · have hlt' : ((i : Int) < (r.st.length : Int)) = False := by simp; omega
        rw [List.drop_eq_nil_of_le (by omega), List.any_nil] at g2
        rw [if_neg (by rw [← g2]; simp)] at hF
        simp only [go_sem, e75, hlt', hX]
        refine AW_loopH [6, 11, 13, 94, 95, 96, 97, 98, 99, 100, 101, 102, 103, 104, 105, 106, 107, 108, 109, 110, 111, 112, 113, 114, 115, 116, 117, 118, 119, 120, 121, 122, 123, 124, 125, 126]
          (fun (i : Nat) ρ m => ρ 94 = .int .i64 (i : Int) ∧ i ≤ leg.length ∧ legM N (leg.drop i) k = legM N leg k ∧ ∃ h nx lv, m = ⟨h, [], nx, lv⟩ ∧
            AB.hget h 3 = some (0, [.ept (gD n tr L N)]) ∧ AB.hget h 7 = some (0, [.int .i64 r.fr, .int .i64 r.to, .sl 3 (r.st.map dStp) .no])) (fun i => leg.length - i) 0 ?_ ?_
        · simp only [go_sem]
          first | exact ⟨Nat.zero_le _, _, _, _, rfl, b3, b7⟩ | exact ⟨Nat.zero_le _, rfl, _, _, _, rfl, b3, b7⟩
        clear b3 b7 e75 g2 hlt hlt' g1 nx3 lv3 h
        rintro i2 ρ2 m ⟨e94, g1, g2, h, nx3, lv3, rfl, b3, b7⟩ Q2 hN2 hR2 hX2
        by_cases hlt : i2 < leg.length
        · obtain ⟨j, hjx⟩ : ∃ x, leg[i2]? = some x := ⟨_, List.getElem?_eq_getElem hlt⟩
          have hjp : (leg.map fun x => DV.int .i64 x)[i2]? = some (.int .i64 j) := by rw [List.getElem?_map, hjx]; rfl
          have hlt' : ((i2 : Int) < (leg.length : Int)) = True := by simp; omega
          have h0 : ((0 : Int) ≤ (i2 : Int)) = True := by simp
          have ew : IntKind.i64.wrap ((i2 : Int) + 1) = (i2 : Int) + 1 := i64_in (by omega) (by omega)
          have hd : leg.drop i2 = j :: leg.drop (i2 + 1) := by
            rw [List.drop_eq_getElem_cons hlt]
            rw [List.getElem?_eq_getElem hlt] at hjx
            cases hjx; rfl
          rw [hd, legM_cons] at g2
          obtain ⟨w0, w1, _⟩ := okR_at (hj j (List.mem_of_getElem? hjx))
          have y0 : ((0 : Int) ≤ j) = True := eq_true w0
          have y1 : (j < (N.length : Int)) = True := eq_true (by omega)
          have i1N : (k < (N.length : Int)) = True := eq_true (by omega)
          have hNj := hNg j.toNat (by omega)
          have hNk := hNg k.toNat (by omega)
          have hbj := hNb j.toNat
          have hbk := hNb k.toNat
          change (ndAt N j).length ≤ 10000 at hbj
          change (ndAt N k).length ≤ 10000 at hbk
          change (N.map dNds)[j.toNat]? = some (dNds (ndAt N j)) at hNj
          change (N.map dNds)[k.toNat]? = some (dNds (ndAt N k)) at hNk
          simp only [go_sem, e94, hlt', h0, hjx, hjp, Option.map_some, b3, gD, y0, y1, hNj, dNds]
          refine AW_loopH [6, 13, 106, 107, 108, 109, 110, 111, 112, 113, 114, 115, 116, 117, 118, 119, 120, 121, 122, 123, 124, 125]
            (fun (p : Nat) ρ m => ρ 106 = .int .i64 (p : Int) ∧ p ≤ (ndAt N j).length ∧ (((ndAt N j).drop p).any fun x => !decide (x.k = 2) && anyM [x] (ndAt N k)) = ((ndAt N j).any fun x => !decide (x.k = 2) && anyM [x] (ndAt N k)) ∧ ∃ h nx lv, m = ⟨h, [], nx, lv⟩ ∧
              AB.hget h 3 = some (0, [.ept (gD n tr L N)]) ∧ AB.hget h 7 = some (0, [.int .i64 r.fr, .int .i64 r.to, .sl 3 (r.st.map dStp) .no])) (fun p => (ndAt N j).length - p) 0 ?_ ?_
          · simp only [go_sem]
            first | exact ⟨Nat.zero_le _, _, _, _, rfl, b3, b7⟩ | exact ⟨Nat.zero_le _, rfl, _, _, _, rfl, b3, b7⟩
          clear b3 b7 h nx3 lv3
          rintro p ρ3 m ⟨e106, p1, p2, h, nx3, lv3, rfl, b3, b7⟩ Q3 hN3 hR3 hX3
          by_cases hltp : p < (ndAt N j).length
          · obtain ⟨x, hx⟩ : ∃ x, (ndAt N j)[p]? = some x := ⟨_, List.getElem?_eq_getElem hltp⟩
            have hxp : ((ndAt N j).map dNd)[p]? = some (dNd x) := by rw [List.getElem?_map, hx]; rfl
            have hlt3 : ((p : Int) < ((ndAt N j).length : Int)) = True := by simp; omega
            have h03 : ((0 : Int) ≤ (p : Int)) = True := by simp
            have ew3 : IntKind.i64.wrap ((p : Int) + 1) = (p : Int) + 1 := i64_in (by omega) (by omega)
            have hd3 : (ndAt N j).drop p = x :: (ndAt N j).drop (p + 1) := by
              rw [List.drop_eq_getElem_cons hltp]
              rw [List.getElem?_eq_getElem hltp] at hx
              cases hx; rfl
            rw [hd3, List.any_cons] at p2
            obtain ⟨g13, hg13⟩ : ∃ g13, genO (AB.hget h 13) = g13 := ⟨_, rfl⟩
            simp only [go_sem, e106, hlt3, h03, hx, hxp, Option.map_some, dNd, hg13]
            refine drawnP [2, 2, 2, 2, 2, 3, 2, 2, 2, 2, 2, 2, 2, 1, 1] [(5, [0, 0, 0, 0, 0, 0, 2, 2, 2, 2, 2, 2, 2, 2, 2])] 138 (by kernel_rfl) (by kernel_rfl) (by kernel_rfl) (by kernel_rfl) rfl ?_
            have cont : ((!decide (x.k = 2) && anyM [x] (ndAt N k)) = false) → ∀ (h' : List (Nat × Nat × List AV)) nx' lv', AB.hget h' 3 = some (0, [.ept (gD n tr L N)]) → AB.hget h' 7 = some (0, [.int .i64 r.fr, .int .i64 r.to, .sl 3 (r.st.map dStp) .no]) →
                (((ndAt N j).drop (p + 1)).any fun x => !decide (x.k = 2) && anyM [x] (ndAt N k)) = ((ndAt N j).any fun x => !decide (x.k = 2) && anyM [x] (ndAt N k)) ∧ ∃ h nx lv, (⟨h', [], nx', lv'⟩ : AH) = ⟨h, [], nx, lv⟩ ∧ AB.hget h 3 = some (0, [.ept (gD n tr L N)]) ∧ AB.hget h 7 = some (0, [.int .i64 r.fr, .int .i64 r.to, .sl 3 (r.st.map dStp) .no]) := fun e h' nx' lv' c3 c7 => by
              rw [e, Bool.false_or] at p2
              exact ⟨p2, _, _, _, rfl, c3, c7⟩
            by_cases hk2 : x.k = 2
            · have hk2' : (x.k = 2) = True := eq_true hk2
              simp only [go_sem, hk2', b3, gD, y0, y1, i0, i1N, hNk, dNds, kDraw_eq]
              intro nx4 lv4 hn4 hl4 nx5 lv5 hn5 hl5
              simp only [hN3, ew3]
              refine ⟨by kernel_rfl, p + 1, ?_, by simp only; omega⟩
              simp only [go_sem]
              exact ⟨by simp, by omega, cont (by simp [hk2]) _ _ _ (by simp [go_sem, b3]) (by simp [go_sem, b7])⟩
            · have hk2' : (x.k = 2) = False := eq_false hk2
              have h85 := f85 [x] (ndAt N k) (by simp) (by omega)
              simp only [List.map_cons, List.map_nil, dNd] at h85
              simp only [go_sem, hk2', b3, gD, y0, y1, i0, i1N, hNk, dNds, kDraw_eq]
              intro nx4 lv4 hn4 hl4
              refine quietD h85 (fun _ => rfl) ?_
              simp only [go_sem, kDraw_eq]
              intro nx5 lv5 hn5 hl5
              cases w : anyM [x] (ndAt N k) with
              | true =>
                rw [if_pos (by rw [← g2, ← p2, w]; simp [hk2])] at hF
                subst hF
                simp only [go_sem, w, hR3, hR2]
              | false =>
                simp only [go_sem, w, hN3, ew3]
                refine ⟨by kernel_rfl, p + 1, ?_, by simp only; omega⟩
                simp only [go_sem]
                exact ⟨by simp, by omega, cont (by rw [w, Bool.and_false]) _ _ _ (by simp [go_sem, b3]) (by simp [go_sem, b7])⟩
          · have hlt3 : ((p : Int) < ((ndAt N j).length : Int)) = False := by simp; omega
            rw [List.drop_eq_nil_of_le (by omega), List.any_nil] at p2
            rw [← p2, Bool.false_or] at g2
            simp only [go_sem, e106, hlt3, hX3, hN2, ew]
            refine ⟨by kernel_rfl, i2 + 1, ?_, by simp only; omega⟩
            simp only [go_sem]
            exact ⟨by simp, by omega, g2, _, _, _, rfl, b3, b7⟩
        · have hlt' : ((i2 : Int) < (leg.length : Int)) = False := by simp; omega
          rw [List.drop_eq_nil_of_le (by omega)] at g2
          rw [if_neg (by rw [← g2]; simp [legM])] at hF
          have hll := lapF_len n r
          unfold eRt0 at h90
          unfold eNet nCells at h90
          simp only [go_sem, e94, hlt', hX2]
          refine drawn (by kernel_rfl) (by kernel_rfl) ?_
          simp only [go_sem, b3, b7, gD]
          refine quietD h90 (fun _ => rfl) ?_
          simp only [go_sem, b3, gD]
          refine quietD (f123 (lapF n r) tr (by omega)) (fun _ => rfl) ?_
          cases w : psec (lapF n r) tr with
          | true =>
            rw [if_pos w] at hF
            subst hF
            simp only [go_sem, w, kDraw_eq]
            try exact fun _ _ _ _ => rfl
          | false =>
            rw [if_neg (by simp [w])] at hF
            subst hF
            simp only [go_sem, w, kDraw_eq]
            try exact fun _ _ _ _ => rfl
    · have a1' : (r.fr = ro.to) = False := eq_false a1
      rw [if_pos (by simp [a1])] at hF
      subst hF
      simp only [go_sem, gD, hl1', ew1, u0, u1, v0, v1, v2, hla, hlap, hro, hrop, Option.map_some, dRt, a1', kDraw_eq]
      try exact fun _ _ _ _ => rfl
end Go.Proofs.Yteadhjclchjfjaa
