/- Legs: the reference's error of a leg. -/
import Derived.Test.YteadhjclchjfjaaGreatL290
namespace Go.Proofs.YteadhjclchjfjaaGreat
set_option linter.unusedSimpArgs false
set_option linter.unusedVariables false
open Go.AB

theorem anyM_one (x : Nd) (t : List Nd) : anyM t [x] = anyM [x] t := by
  unfold anyM
  simp only [List.any_cons, List.any_nil, Bool.or_false]
  congr 1
  funext y
  exact meets_comm x y

def NBox5 (n : Net) (h : List (Nat × Nat × List AV)) : Prop := AB.hget h 5 = some (0, [.sl 1 (n.names.map DV.str) .no, .sl 7 (n.sects.map dSect) .no, .sl 4 (n.links.map dLnk) .no, .sl 2 (n.sigs.map dPair) .no, .sl 2 (n.gates.map dPair) .no])
theorem NBox5.other {n : Net} {h : List (Nat × Nat × List AV)} (b : NBox5 n h) {t : Nat} (g : Nat) (cs : List AV) (h5 : t ≠ 5) : NBox5 n (AB.hset h t g cs) := by
  unfold NBox5; rw [hget_set_ne _ _ _ h5]; exact b

set_option maxHeartbeats 8000000 in
set_option maxRecDepth 20000 in
theorem f71 (n : Net) (hb : NetB n) (he : netE n = 0) (tr : Int) (L : List Rt) (hL : L.length ≤ 1000) (hok : ∀ r ∈ L, RtOk n r) (leg : List Int) (hleg : leg.length ≤ 1000) (i : Nat) (hi : i < leg.length) (hj : ∀ j ∈ leg.take i, okR L j = true) :
    PCall Tryz.prog 71 [eNet n, .sl 3 (L.map dRt) .no, .int .i64 tr, .sl 1 (leg.map fun x => DV.int .i64 x) .no, .int .i64 i] (RV (.int .i64 (legI n L tr leg i))) := by
  refine PCall.of_body Tryz.func71 rfl Tryz.ntmps71 (congrArg Array.toList Tryz.results71) ?_
  intro E
  have hNat : ∀ j, okR L j = true → ndAt (L.map (needsR n)) j = needsR n (rtAt L j) := fun j hj => by
    obtain ⟨_, _, h⟩ := okR_at hj
    unfold ndAt
    rw [List.getD_eq_getElem?_getD, List.getElem?_map, h]; rfl
  obtain ⟨k, hk⟩ : ∃ x, leg[i]? = some x := ⟨_, List.getElem?_eq_getElem hi⟩
  have hkp : (leg.map fun x => DV.int .i64 x)[i]? = some (.int .i64 k) := by rw [List.getElem?_map, hk]; rfl
  have hgk : leg.getD i 0 = k := by rw [List.getD_eq_getElem?_getD, hk]; rfl
  have hi' : ((i : Int) < (leg.length : Int)) = True := by simp; omega
  have hi0 : ((0 : Int) ≤ (i : Int)) = True := by simp
  have hcut : (leg.take i).map (fun x => DV.int .i64 x) = List.take (i - 0) (List.map (fun x => DV.int .i64 x) leg) := by simp [List.map_take]
  have hcl : (leg.take i).length = i := by simp; omega
  generalize hF : legI n L tr leg i = F
  unfold legI at hF
  have hlt0 : ∀ j, (leg.take i)[j]? = if j < i then leg[j]? else none := fun j => List.getElem?_take
  generalize leg.take i = P at *
  rw [hgk] at hF
  unfold legE legO at hF
  simp only [go_sem, eNet, nCells, hi', hi0, hk, hkp, Option.map_some]
  have ho : okR L k = true ↔ 0 ≤ k ∧ k < L.length := by
    simp only [okR, within, Bool.and_eq_true, decide_eq_true_eq]
    omega
  by_cases q0 : k < 0
  · have q0' : (k < 0) = True := eq_true q0
    rw [if_pos (by cases w : okR L k with | false => rfl | true => have := ho.1 w; omega)] at hF
    subst hF
    simp only [go_sem, q0']
  have q0' : (k < 0) = False := eq_false q0
  by_cases q1 : (L.length : Int) ≤ k
  · have q1' : ((L.length : Int) ≤ k) = True := eq_true q1
    rw [if_pos (by cases w : okR L k with | false => rfl | true => have := ho.1 w; omega)] at hF
    subst hF
    simp only [go_sem, q0', q1']
  have q1' : ((L.length : Int) ≤ k) = False := eq_false q1
  have hkk : okR L k = true := ho.2 ⟨by omega, by omega⟩
  rw [if_neg (by rw [hkk]; simp)] at hF
  simp only [legM, hNat k hkk] at hF
  obtain ⟨k0, k1, hr⟩ := okR_at hkk
  have hrk := hok _ (List.mem_of_getElem? hr)
  have h39 := f34 n hb he _ hrk
  have h43 := f72r n hb he _ hrk
  have hnl := needsR_len n _ hrk.l1
  have hll := lapF_len n (rtAt L k)
  generalize rtAt L k = r at *
  have hrp : (L.map dRt)[k.toNat]? = some (dRt r) := by rw [List.getElem?_map, hr]; rfl
  have i0 : ((0 : Int) ≤ k) = True := eq_true k0
  have i1 : (k < (L.length : Int)) = True := eq_true k1
  have hf0 := hrk.f0
  have hf1 := hrk.f1
  have hl1 := hrk.l1
  obtain ⟨sg, hsg⟩ : ∃ x, n.sigs[r.fr.toNat]? = some x := ⟨_, List.getElem?_eq_getElem (by omega)⟩
  have hsp : (n.sigs.map dPair)[r.fr.toNat]? = some (dPair sg) := by rw [List.getElem?_map, hsg]; rfl
  have hhome : homeF n r.fr = sg.s := by simp [homeF, hsg]
  have j0 : ((0 : Int) ≤ r.fr) = True := eq_true hf0
  have j1 : (r.fr < (n.sigs.length : Int)) = True := eq_true hf1
  simp only [go_sem, q0', q1']
  refine drawn (by kernel_rfl) (by kernel_rfl) ?_
  rw [hcl, hhome] at hF
  by_cases hz : i = 0
  · have hz1 : ((i : Int) = 0) = True := eq_true (by omega)
    have hz2 : ((0 : Int) < (i : Int)) = False := eq_false (by omega)
    rw [if_pos hz] at hF
    by_cases a1 : sg.s = tr
    · have a1' : (sg.s = tr) = True := eq_true a1
      rw [if_neg (by simp [a1])] at hF
      simp only [go_sem, hz1, hz2, i0, i1, j0, j1, hr, hrp, hsg, hsp, Option.map_some, dRt, dPair, a1', kDraw_eq]
      intro nx1 lv1 hn1
      refine AW_loopH [10, 13, 15, 76, 77, 78, 79, 80, 81, 82, 83, 84, 85, 86, 87, 88, 89, 90, 91, 92, 93, 94, 95, 96, 97, 98, 99, 100, 101]
        (fun (p : Nat) ρ m => ρ 76 = .int .i64 (p : Int) ∧ p ≤ r.st.length ∧ ((r.st.drop p).any fun x => decide (x.s = tr) || legP L P x.s) = (r.st.any fun x => decide (x.s = tr) || legP L P x.s) ∧ ∃ h nx lv, m = ⟨h, [], nx, lv⟩ ∧ NBox5 n h) (fun p => r.st.length - p) 0 ?_ ?_
      · simp only [go_sem]
        first | exact ⟨Nat.zero_le _, _, _, _, rfl, by simp [go_sem, NBox5]⟩ | exact ⟨Nat.zero_le _, rfl, _, _, _, rfl, by simp [go_sem, NBox5]⟩
      rintro p ρ m ⟨e76, g1, g2, h, nx3, lv3, rfl, b5⟩ Q hN1 hR hX
      by_cases hlt : p < r.st.length
      · obtain ⟨x, hx⟩ : ∃ x, r.st[p]? = some x := ⟨_, List.getElem?_eq_getElem hlt⟩
        have hxp : (r.st.map dStp)[p]? = some (dStp x) := by rw [List.getElem?_map, hx]; rfl
        have hlt' : ((p : Int) < (r.st.length : Int)) = True := by simp; omega
        have h0 : ((0 : Int) ≤ (p : Int)) = True := by simp
        have ew : IntKind.i64.wrap ((p : Int) + 1) = (p : Int) + 1 := i64_in (by omega) (by omega)
        have hd : r.st.drop p = x :: r.st.drop (p + 1) := by
          rw [List.drop_eq_getElem_cons hlt]
          rw [List.getElem?_eq_getElem hlt] at hx
          cases hx; rfl
        rw [hd, List.any_cons] at g2
        obtain ⟨g13, hg13⟩ : ∃ g13, genO (AB.hget h 13) = g13 := ⟨_, rfl⟩
        by_cases s1 : x.s = tr
        · have s1' : (x.s = tr) = True := eq_true s1
          rw [if_pos (by rw [← g2]; simp [s1])] at hF
          subst hF
          simp only [go_sem, e76, hlt', h0, hx, hxp, Option.map_some, dStp, hg13, s1', hR]
        have s1' : (x.s = tr) = False := eq_false s1
        simp only [go_sem, e76, hlt', h0, hi0, hx, hxp, Option.map_some, dStp, hg13, s1']
        rw [← hcut]
        refine ⟨Nat.zero_le _, by omega, ?_⟩
        simp only [go_sem, hcl]
        refine AW_loopH [10, 15, 88, 89, 90, 91, 92, 93, 94, 95, 96, 97, 98, 99, 100]
          (fun (q : Nat) ρ m => ρ 88 = .int .i64 (q : Int) ∧ q ≤ i ∧ legP L (P.drop q) x.s = legP L P x.s ∧ ∃ h nx lv, m = ⟨h, [], nx, lv⟩ ∧ NBox5 n h ∧ AB.hget h 13 = some (g13, [.int .i64 x.s, .int .i64 x.i, .int .i64 x.o])) (fun q => i - q) 0 ?_ ?_
        · simp only [go_sem]
          first | exact ⟨Nat.zero_le _, _, _, _, rfl, b5.other _ _ (by decide), by simp [go_sem]⟩ | exact ⟨Nat.zero_le _, rfl, _, _, _, rfl, (b5.other _ _ (by decide)).other _ _ (by decide), by simp [go_sem]⟩ | exact ⟨Nat.zero_le _, _, _, _, rfl, (b5.other _ _ (by decide)).other _ _ (by decide), by simp [go_sem]⟩
        clear b5 h nx3 lv3 hg13
        rintro q ρ2 m ⟨e88, k1', k2, h, nx3, lv3, rfl, b5, b13⟩ Q2 hN2 hR2 hX2
        by_cases hlt2 : q < i
        · obtain ⟨j, hjx⟩ : ∃ x, P[q]? = some x := ⟨_, List.getElem?_eq_getElem (by omega)⟩
          have hjp : (P.map fun x => DV.int .i64 x)[q]? = some (.int .i64 j) := by rw [List.getElem?_map, hjx]; rfl
          have hlt3 : ((q : Int) < (i : Int)) = True := by simp; omega
          have h02 : ((0 : Int) ≤ (q : Int)) = True := by simp
          have ew2 : IntKind.i64.wrap ((q : Int) + 1) = (q : Int) + 1 := i64_in (by omega) (by omega)
          have hd2 : P.drop q = j :: P.drop (q + 1) := by
            rw [List.drop_eq_getElem_cons (by omega)]
            rw [List.getElem?_eq_getElem (by omega)] at hjx
            cases hjx; rfl
          rw [hd2] at k2
          simp only [legP, List.any_cons] at k2
          obtain ⟨w0, w1, hrj⟩ := okR_at (hj j (List.mem_of_getElem? hjx))
          have hrjl := (hok _ (List.mem_of_getElem? hrj)).l1
          generalize rtAt L j = rj at *
          have hrjp : (L.map dRt)[j.toNat]? = some (dRt rj) := by rw [List.getElem?_map, hrj]; rfl
          have y0 : ((0 : Int) ≤ j) = True := eq_true w0
          have y1 : (j < (L.length : Int)) = True := eq_true w1
          simp only [go_sem, e88, hlt3, h02, hjx, hjp, Option.map_some, hcl]
          refine drawn (by kernel_rfl) (by kernel_rfl) ?_
          simp only [go_sem, y0, y1, hrj, hrjp, Option.map_some, dRt, b13]
          refine quietD (f68 rj.st x.s (by omega)) (fun _ => rfl) ?_
          cases w : psec rj.st x.s with
          | true =>
            rw [w, Bool.true_or] at k2
            rw [if_pos (by rw [← g2]; simp only [legP, ← k2]; simp)] at hF
            subst hF
            simp only [go_sem, w, hR2, hR, kDraw_eq]
            try exact fun _ _ _ _ => rfl
          | false =>
            rw [w, Bool.false_or] at k2
            simp only [go_sem, w, kDraw_eq]
            intro nx4 lv4 _ _
            simp only [hN2, ew2]
            refine ⟨by kernel_rfl, q + 1, ?_, by simp only; omega⟩
            simp only [go_sem]
            exact ⟨by simp, by omega, k2, _, _, _, rfl, b5, b13⟩
        · have hlt3 : ((q : Int) < (i : Int)) = False := by simp; omega
          rw [List.drop_eq_nil_of_le (by omega)] at k2
          simp only [legP, List.any_nil] at k2
          simp only [s1, decide_false, Bool.false_or, legP] at g2
          rw [← k2, Bool.false_or] at g2
          simp only [go_sem, e88, hlt3, hX2, hN1, ew]
          refine ⟨by kernel_rfl, p + 1, ?_, by simp only; omega⟩
          simp only [go_sem]
          exact ⟨by simp, by omega, by simp only [legP]; exact g2, _, _, _, rfl, b5⟩
      · have hlt' : ((p : Int) < (r.st.length : Int)) = False := by simp; omega
        rw [List.drop_eq_nil_of_le (by omega), List.any_nil] at g2
        rw [if_neg (by rw [← g2]; simp)] at hF
        unfold eRt0 at h39
        unfold eNet nCells at h39
        have c5 := b5
        unfold NBox5 at c5
        simp only [go_sem, e76, hlt', hX]
        refine drawn (by kernel_rfl) (by kernel_rfl) ?_
        simp only [go_sem, i0, i1, hr, hrp, Option.map_some, dRt, c5]
        refine quietD h39 (fun _ => rfl) ?_
        simp only [go_sem, kDraw_eq, hi0]
        intro nx4 lv4 hn4 hl4
        rw [← hcut]
        refine ⟨Nat.zero_le _, by omega, ?_⟩
        simp only [go_sem, hcl]
        clear h39 e76 g2 hlt hlt' g1
        refine AW_loopH [10, 18, 20, 112, 113, 114, 115, 116, 117, 118, 119, 120, 121, 122, 123, 124, 125, 126, 127, 128, 129, 130, 131, 132, 133, 134, 135, 136, 137]
          (fun (p : Nat) ρ m => ρ 112 = .int .i64 (p : Int) ∧ p ≤ i ∧ ((P.drop p).any fun j => (ndAt (L.map (needsR n)) j).any fun x => !decide (x.k = 2) && anyM [x] (needsR n r)) = (P.any fun j => (ndAt (L.map (needsR n)) j).any fun x => !decide (x.k = 2) && anyM [x] (needsR n r)) ∧ ∃ h nx lv, m = ⟨h, [], nx, lv⟩ ∧ NBox5 n h) (fun p => i - p) 0 ?_ ?_
        · simp only [go_sem]
          first | exact ⟨Nat.zero_le _, _, _, _, rfl, b5⟩ | exact ⟨Nat.zero_le _, rfl, _, _, _, rfl, b5⟩
        clear b5 c5
        rintro p2 ρ2 m ⟨e112, g1, g2, h, nx3, lv3, rfl, b5⟩ Q2 hN2 hR2 hX2
        by_cases hlt : p2 < i
        · obtain ⟨j, hjx⟩ : ∃ x, P[p2]? = some x := ⟨_, List.getElem?_eq_getElem (by omega)⟩
          have hjp : (P.map fun x => DV.int .i64 x)[p2]? = some (.int .i64 j) := by rw [List.getElem?_map, hjx]; rfl
          have hlt3 : ((p2 : Int) < (i : Int)) = True := by simp; omega
          have h02 : ((0 : Int) ≤ (p2 : Int)) = True := by simp
          have ew2 : IntKind.i64.wrap ((p2 : Int) + 1) = (p2 : Int) + 1 := i64_in (by omega) (by omega)
          have hd2 : P.drop p2 = j :: P.drop (p2 + 1) := by
            rw [List.drop_eq_getElem_cons (by omega)]
            rw [List.getElem?_eq_getElem (by omega)] at hjx
            cases hjx; rfl
          have hjo := hj j (List.mem_of_getElem? hjx)
          rw [hd2, List.any_cons, hNat j hjo] at g2
          obtain ⟨w0, w1, hrj⟩ := okR_at hjo
          have hrjk := hok _ (List.mem_of_getElem? hrj)
          have hj39 := f34 n hb he _ hrjk
          have hjl := needsR_len n _ hrjk.l1
          generalize rtAt L j = rj at *
          have hrjp : (L.map dRt)[j.toNat]? = some (dRt rj) := by rw [List.getElem?_map, hrj]; rfl
          have y0 : ((0 : Int) ≤ j) = True := eq_true w0
          have y1 : (j < (L.length : Int)) = True := eq_true w1
          have c5 := b5
          unfold NBox5 at c5
          unfold eRt0 at hj39
          unfold eNet nCells at hj39
          simp only [go_sem, e112, hlt3, h02, hjx, hjp, Option.map_some, hcl]
          refine drawn (by kernel_rfl) (by kernel_rfl) ?_
          simp only [go_sem, y0, y1, hrj, hrjp, Option.map_some, dRt, c5]
          refine quietD hj39 (fun _ => rfl) ?_
          simp only [go_sem, kDraw_eq]
          intro nx5 lv5 hn5 hl5
          refine AW_loopH [10, 20, 123, 124, 125, 126, 127, 128, 129, 130, 131, 132, 133, 134, 135, 136]
            (fun (q : Nat) ρ m => ρ 123 = .int .i64 (q : Int) ∧ q ≤ (needsR n rj).length ∧ (((needsR n rj).drop q).any fun x => !decide (x.k = 2) && anyM [x] (needsR n r)) = ((needsR n rj).any fun x => !decide (x.k = 2) && anyM [x] (needsR n r)) ∧ ∃ h nx lv, m = ⟨h, [], nx, lv⟩ ∧ NBox5 n h) (fun q => (needsR n rj).length - q) 0 ?_ ?_
          · simp only [go_sem]
            first | exact ⟨Nat.zero_le _, _, _, _, rfl, b5⟩ | exact ⟨Nat.zero_le _, rfl, _, _, _, rfl, b5⟩
          clear b5 c5
          rintro q ρ3 m ⟨e123, k1', k2, h, nx3, lv3, rfl, b5⟩ Q3 hN3 hR3 hX3
          by_cases hlt4 : q < (needsR n rj).length
          · obtain ⟨x, hx⟩ : ∃ x, (needsR n rj)[q]? = some x := ⟨_, List.getElem?_eq_getElem hlt4⟩
            have hxp : ((needsR n rj).map dNd)[q]? = some (dNd x) := by rw [List.getElem?_map, hx]; rfl
            have hlt5 : ((q : Int) < ((needsR n rj).length : Int)) = True := by simp; omega
            have h03 : ((0 : Int) ≤ (q : Int)) = True := by simp
            have ew3 : IntKind.i64.wrap ((q : Int) + 1) = (q : Int) + 1 := i64_in (by omega) (by omega)
            have hd3 : (needsR n rj).drop q = x :: (needsR n rj).drop (q + 1) := by
              rw [List.drop_eq_getElem_cons hlt4]
              rw [List.getElem?_eq_getElem hlt4] at hx
              cases hx; rfl
            rw [hd3, List.any_cons] at k2
            obtain ⟨g20, hg20⟩ : ∃ g20, genO (AB.hget h 20) = g20 := ⟨_, rfl⟩
            by_cases hk2 : x.k = 2
            · have hk2' : (x.k = 2) = True := eq_true hk2
              simp only [go_sem, e123, hlt5, h03, hx, hxp, Option.map_some, dNd, hg20, hk2', hN3, ew3]
              refine ⟨by kernel_rfl, q + 1, ?_, by simp only; omega⟩
              simp only [go_sem]
              refine ⟨by simp, by omega, ?_, _, _, _, rfl, (b5.other _ _ (by decide)).other _ _ (by decide)⟩
              rw [← k2]; simp [hk2]
            · have hk2' : (x.k = 2) = False := eq_false hk2
              have h38 := f102 (needsR n r) [x] (by omega) (by simp)
              rw [anyM_one] at h38
              simp only [List.map_cons, List.map_nil, dNd] at h38
              simp only [go_sem, e123, hlt5, h03, hx, hxp, Option.map_some, dNd, hg20, hk2']
              refine callV h38 ?_
              intro nx6 lv6
              cases w : anyM [x] (needsR n r) with
              | true =>
                rw [if_pos (by rw [← g2, ← k2, w]; simp [hk2])] at hF
                subst hF
                simp only [go_sem, w, hR3, hR2]
              | false =>
                simp only [go_sem, w, hN3, ew3]
                refine ⟨by kernel_rfl, q + 1, ?_, by simp only; omega⟩
                simp only [go_sem]
                refine ⟨by simp, by omega, ?_, _, _, _, rfl, (b5.other _ _ (by decide)).other _ _ (by decide)⟩
                rw [← k2, w]; simp
          · have hlt5 : ((q : Int) < ((needsR n rj).length : Int)) = False := by simp; omega
            rw [List.drop_eq_nil_of_le (by omega), List.any_nil] at k2
            rw [← k2, Bool.false_or] at g2
            simp only [go_sem, e123, hlt5, hX3, hN2, ew2]
            refine ⟨by kernel_rfl, p2 + 1, ?_, by simp only; omega⟩
            simp only [go_sem]
            exact ⟨by simp, by omega, g2, _, _, _, rfl, b5⟩
        · have hlt3 : ((p2 : Int) < (i : Int)) = False := by simp; omega
          rw [List.drop_eq_nil_of_le (by omega), List.any_nil] at g2
          rw [if_neg (by rw [← g2]; simp)] at hF
          unfold eRt0 at h43
          unfold eNet nCells at h43
          have c5 := b5
          unfold NBox5 at c5
          simp only [go_sem, e112, hlt3, hX2]
          refine drawn (by kernel_rfl) (by kernel_rfl) ?_
          simp only [go_sem, i0, i1, hr, hrp, Option.map_some, dRt, c5]
          refine quietD h43 (fun _ => rfl) ?_
          simp only [go_sem]
          refine quietD (f68 (lapF n r) tr (by omega)) (fun _ => rfl) ?_
          cases w : psec (lapF n r) tr with
          | true =>
            rw [if_pos w] at hF
            subst hF
            simp only [go_sem, w, kDraw_eq]
            try exact fun _ _ _ _ => rfl
          | false =>
            rw [if_neg (by simp [w])] at hF
            subst hF
            simp only [go_sem, w, kDraw_eq]
            try exact fun _ _ _ _ => rfl
    · have a1' : (sg.s = tr) = False := eq_false a1
      rw [if_pos (by simp [a1])] at hF
      subst hF
      simp only [go_sem, hz1, hz2, i0, i1, j0, j1, hr, hrp, hsg, hsp, Option.map_some, dRt, dPair, a1', kDraw_eq]
      try exact fun _ _ _ _ => rfl
  · have hz1 : ((i : Int) = 0) = False := eq_false (by omega)
    have hz2 : ((0 : Int) < (i : Int)) = True := eq_true (by omega)
    rw [if_neg hz] at hF
    have ew1 : IntKind.i64.wrap ((i : Int) - 1) = (i : Int) - 1 := i64_in (by omega) (by omega)
    have hla : P[i - 1]? = some (P.getD (i - 1) 0) := by
      rw [List.getD_eq_getElem?_getD, List.getElem?_eq_getElem (by rw [hcl]; omega)]; rfl
    generalize P.getD (i - 1) 0 = o at *
    have hoo := hj o (List.mem_of_getElem? hla)
    rw [hlt0, if_pos (by omega)] at hla
    obtain ⟨o0, o1, hro⟩ := okR_at hoo
    generalize rtAt L o = ro at *
    have hrop : (L.map dRt)[o.toNat]? = some (dRt ro) := by rw [List.getElem?_map, hro]; rfl
    have hlap : (leg.map fun x => DV.int .i64 x)[i - 1]? = some (.int .i64 o) := by rw [List.getElem?_map, hla]; rfl
    have u0 : ((0 : Int) ≤ o) = True := eq_true o0
    have u1 : (o < (L.length : Int)) = True := eq_true o1
    have v0 : ((0 : Int) ≤ (i : Int) - 1) = True := eq_true (by omega)
    have v1 : ((i : Int) - 1 < (leg.length : Int)) = True := eq_true (by omega)
    have v2 : ((i : Int) - 1).toNat = i - 1 := by omega
    by_cases a1 : r.fr = ro.to
    · have a1' : (ro.to = r.fr) = True := eq_true a1.symm
      rw [if_neg (by simp [a1])] at hF
      simp only [go_sem, hz1, hz2, ew1, i0, i1, u0, u1, v0, v1, v2, hr, hrp, hla, hlap, hro, hrop, Option.map_some, dRt, a1', kDraw_eq]
      intro nx1 lv1 hn1
      refine AW_loopH [10, 13, 15, 76, 77, 78, 79, 80, 81, 82, 83, 84, 85, 86, 87, 88, 89, 90, 91, 92, 93, 94, 95, 96, 97, 98, 99, 100, 101]
        (fun (p : Nat) ρ m => ρ 76 = .int .i64 (p : Int) ∧ p ≤ r.st.length ∧ ((r.st.drop p).any fun x => decide (x.s = tr) || legP L P x.s) = (r.st.any fun x => decide (x.s = tr) || legP L P x.s) ∧ ∃ h nx lv, m = ⟨h, [], nx, lv⟩ ∧ NBox5 n h) (fun p => r.st.length - p) 0 ?_ ?_
      · simp only [go_sem]
        first | exact ⟨Nat.zero_le _, _, _, _, rfl, by simp [go_sem, NBox5]⟩ | exact ⟨Nat.zero_le _, rfl, _, _, _, rfl, by simp [go_sem, NBox5]⟩
      rintro p ρ m ⟨e76, g1, g2, h, nx3, lv3, rfl, b5⟩ Q hN1 hR hX
      by_cases hlt : p < r.st.length
      · obtain ⟨x, hx⟩ : ∃ x, r.st[p]? = some x := ⟨_, List.getElem?_eq_getElem hlt⟩
        have hxp : (r.st.map dStp)[p]? = some (dStp x) := by rw [List.getElem?_map, hx]; rfl
        have hlt' : ((p : Int) < (r.st.length : Int)) = True := by simp; omega
        have h0 : ((0 : Int) ≤ (p : Int)) = True := by simp
        have ew : IntKind.i64.wrap ((p : Int) + 1) = (p : Int) + 1 := i64_in (by omega) (by omega)
        have hd : r.st.drop p = x :: r.st.drop (p + 1) := by
          rw [List.drop_eq_getElem_cons hlt]
          rw [List.getElem?_eq_getElem hlt] at hx
          cases hx; rfl
        rw [hd, List.any_cons] at g2
        obtain ⟨g13, hg13⟩ : ∃ g13, genO (AB.hget h 13) = g13 := ⟨_, rfl⟩
        by_cases s1 : x.s = tr
        · have s1' : (x.s = tr) = True := eq_true s1
          rw [if_pos (by rw [← g2]; simp [s1])] at hF
          subst hF
          simp only [go_sem, e76, hlt', h0, hx, hxp, Option.map_some, dStp, hg13, s1', hR]
        have s1' : (x.s = tr) = False := eq_false s1
        simp only [go_sem, e76, hlt', h0, hi0, hx, hxp, Option.map_some, dStp, hg13, s1']
        rw [← hcut]
        refine ⟨Nat.zero_le _, by omega, ?_⟩
        simp only [go_sem, hcl]
        refine AW_loopH [10, 15, 88, 89, 90, 91, 92, 93, 94, 95, 96, 97, 98, 99, 100]
          (fun (q : Nat) ρ m => ρ 88 = .int .i64 (q : Int) ∧ q ≤ i ∧ legP L (P.drop q) x.s = legP L P x.s ∧ ∃ h nx lv, m = ⟨h, [], nx, lv⟩ ∧ NBox5 n h ∧ AB.hget h 13 = some (g13, [.int .i64 x.s, .int .i64 x.i, .int .i64 x.o])) (fun q => i - q) 0 ?_ ?_
        · simp only [go_sem]
          first | exact ⟨Nat.zero_le _, _, _, _, rfl, b5.other _ _ (by decide), by simp [go_sem]⟩ | exact ⟨Nat.zero_le _, rfl, _, _, _, rfl, (b5.other _ _ (by decide)).other _ _ (by decide), by simp [go_sem]⟩ | exact ⟨Nat.zero_le _, _, _, _, rfl, (b5.other _ _ (by decide)).other _ _ (by decide), by simp [go_sem]⟩
        clear b5 h nx3 lv3 hg13
        rintro q ρ2 m ⟨e88, k1', k2, h, nx3, lv3, rfl, b5, b13⟩ Q2 hN2 hR2 hX2
        by_cases hlt2 : q < i
        · obtain ⟨j, hjx⟩ : ∃ x, P[q]? = some x := ⟨_, List.getElem?_eq_getElem (by omega)⟩
          have hjp : (P.map fun x => DV.int .i64 x)[q]? = some (.int .i64 j) := by rw [List.getElem?_map, hjx]; rfl
          have hlt3 : ((q : Int) < (i : Int)) = True := by simp; omega
          have h02 : ((0 : Int) ≤ (q : Int)) = True := by simp
          have ew2 : IntKind.i64.wrap ((q : Int) + 1) = (q : Int) + 1 := i64_in (by omega) (by omega)
          have hd2 : P.drop q = j :: P.drop (q + 1) := by
            rw [List.drop_eq_getElem_cons (by omega)]
            rw [List.getElem?_eq_getElem (by omega)] at hjx
            cases hjx; rfl
          rw [hd2] at k2
          simp only [legP, List.any_cons] at k2
          obtain ⟨w0, w1, hrj⟩ := okR_at (hj j (List.mem_of_getElem? hjx))
          have hrjl := (hok _ (List.mem_of_getElem? hrj)).l1
          generalize rtAt L j = rj at *
          have hrjp : (L.map dRt)[j.toNat]? = some (dRt rj) := by rw [List.getElem?_map, hrj]; rfl
          have y0 : ((0 : Int) ≤ j) = True := eq_true w0
          have y1 : (j < (L.length : Int)) = True := eq_true w1
          simp only [go_sem, e88, hlt3, h02, hjx, hjp, Option.map_some, hcl]
          refine drawn (by kernel_rfl) (by kernel_rfl) ?_
          simp only [go_sem, y0, y1, hrj, hrjp, Option.map_some, dRt, b13]
          refine quietD (f68 rj.st x.s (by omega)) (fun _ => rfl) ?_
          cases w : psec rj.st x.s with
          | true =>
            rw [w, Bool.true_or] at k2
            rw [if_pos (by rw [← g2]; simp only [legP, ← k2]; simp)] at hF
            subst hF
            simp only [go_sem, w, hR2, hR, kDraw_eq]
            try exact fun _ _ _ _ => rfl
          | false =>
            rw [w, Bool.false_or] at k2
            simp only [go_sem, w, kDraw_eq]
            intro nx4 lv4 _ _
            simp only [hN2, ew2]
            refine ⟨by kernel_rfl, q + 1, ?_, by simp only; omega⟩
            simp only [go_sem]
            exact ⟨by simp, by omega, k2, _, _, _, rfl, b5, b13⟩
        · have hlt3 : ((q : Int) < (i : Int)) = False := by simp; omega
          rw [List.drop_eq_nil_of_le (by omega)] at k2
          simp only [legP, List.any_nil] at k2
          simp only [s1, decide_false, Bool.false_or, legP] at g2
          rw [← k2, Bool.false_or] at g2
          simp only [go_sem, e88, hlt3, hX2, hN1, ew]
          refine ⟨by kernel_rfl, p + 1, ?_, by simp only; omega⟩
          simp only [go_sem]
          exact ⟨by simp, by omega, by simp only [legP]; exact g2, _, _, _, rfl, b5⟩
      · have hlt' : ((p : Int) < (r.st.length : Int)) = False := by simp; omega
        rw [List.drop_eq_nil_of_le (by omega), List.any_nil] at g2
        rw [if_neg (by rw [← g2]; simp)] at hF
        unfold eRt0 at h39
        unfold eNet nCells at h39
        have c5 := b5
        unfold NBox5 at c5
        simp only [go_sem, e76, hlt', hX]
        refine drawn (by kernel_rfl) (by kernel_rfl) ?_
        simp only [go_sem, i0, i1, hr, hrp, Option.map_some, dRt, c5]
        refine quietD h39 (fun _ => rfl) ?_
        simp only [go_sem, kDraw_eq, hi0]
        intro nx4 lv4 hn4 hl4
        rw [← hcut]
        refine ⟨Nat.zero_le _, by omega, ?_⟩
        simp only [go_sem, hcl]
        clear h39 e76 g2 hlt hlt' g1
        refine AW_loopH [10, 18, 20, 112, 113, 114, 115, 116, 117, 118, 119, 120, 121, 122, 123, 124, 125, 126, 127, 128, 129, 130, 131, 132, 133, 134, 135, 136, 137]
          (fun (p : Nat) ρ m => ρ 112 = .int .i64 (p : Int) ∧ p ≤ i ∧ ((P.drop p).any fun j => (ndAt (L.map (needsR n)) j).any fun x => !decide (x.k = 2) && anyM [x] (needsR n r)) = (P.any fun j => (ndAt (L.map (needsR n)) j).any fun x => !decide (x.k = 2) && anyM [x] (needsR n r)) ∧ ∃ h nx lv, m = ⟨h, [], nx, lv⟩ ∧ NBox5 n h) (fun p => i - p) 0 ?_ ?_
        · simp only [go_sem]
          first | exact ⟨Nat.zero_le _, _, _, _, rfl, b5⟩ | exact ⟨Nat.zero_le _, rfl, _, _, _, rfl, b5⟩
        clear b5 c5
        rintro p2 ρ2 m ⟨e112, g1, g2, h, nx3, lv3, rfl, b5⟩ Q2 hN2 hR2 hX2
        by_cases hlt : p2 < i
        · obtain ⟨j, hjx⟩ : ∃ x, P[p2]? = some x := ⟨_, List.getElem?_eq_getElem (by omega)⟩
          have hjp : (P.map fun x => DV.int .i64 x)[p2]? = some (.int .i64 j) := by rw [List.getElem?_map, hjx]; rfl
          have hlt3 : ((p2 : Int) < (i : Int)) = True := by simp; omega
          have h02 : ((0 : Int) ≤ (p2 : Int)) = True := by simp
          have ew2 : IntKind.i64.wrap ((p2 : Int) + 1) = (p2 : Int) + 1 := i64_in (by omega) (by omega)
          have hd2 : P.drop p2 = j :: P.drop (p2 + 1) := by
            rw [List.drop_eq_getElem_cons (by omega)]
            rw [List.getElem?_eq_getElem (by omega)] at hjx
            cases hjx; rfl
          have hjo := hj j (List.mem_of_getElem? hjx)
          rw [hd2, List.any_cons, hNat j hjo] at g2
          obtain ⟨w0, w1, hrj⟩ := okR_at hjo
          have hrjk := hok _ (List.mem_of_getElem? hrj)
          have hj39 := f34 n hb he _ hrjk
          have hjl := needsR_len n _ hrjk.l1
          generalize rtAt L j = rj at *
          have hrjp : (L.map dRt)[j.toNat]? = some (dRt rj) := by rw [List.getElem?_map, hrj]; rfl
          have y0 : ((0 : Int) ≤ j) = True := eq_true w0
          have y1 : (j < (L.length : Int)) = True := eq_true w1
          have c5 := b5
          unfold NBox5 at c5
          unfold eRt0 at hj39
          unfold eNet nCells at hj39
          simp only [go_sem, e112, hlt3, h02, hjx, hjp, Option.map_some, hcl]
          refine drawn (by kernel_rfl) (by kernel_rfl) ?_
          simp only [go_sem, y0, y1, hrj, hrjp, Option.map_some, dRt, c5]
          refine quietD hj39 (fun _ => rfl) ?_
          simp only [go_sem, kDraw_eq]
          intro nx5 lv5 hn5 hl5
          refine AW_loopH [10, 20, 123, 124, 125, 126, 127, 128, 129, 130, 131, 132, 133, 134, 135, 136]
            (fun (q : Nat) ρ m => ρ 123 = .int .i64 (q : Int) ∧ q ≤ (needsR n rj).length ∧ (((needsR n rj).drop q).any fun x => !decide (x.k = 2) && anyM [x] (needsR n r)) = ((needsR n rj).any fun x => !decide (x.k = 2) && anyM [x] (needsR n r)) ∧ ∃ h nx lv, m = ⟨h, [], nx, lv⟩ ∧ NBox5 n h) (fun q => (needsR n rj).length - q) 0 ?_ ?_
          · simp only [go_sem]
            first | exact ⟨Nat.zero_le _, _, _, _, rfl, b5⟩ | exact ⟨Nat.zero_le _, rfl, _, _, _, rfl, b5⟩
          clear b5 c5
          rintro q ρ3 m ⟨e123, k1', k2, h, nx3, lv3, rfl, b5⟩ Q3 hN3 hR3 hX3
          by_cases hlt4 : q < (needsR n rj).length
          · obtain ⟨x, hx⟩ : ∃ x, (needsR n rj)[q]? = some x := ⟨_, List.getElem?_eq_getElem hlt4⟩
            have hxp : ((needsR n rj).map dNd)[q]? = some (dNd x) := by rw [List.getElem?_map, hx]; rfl
            have hlt5 : ((q : Int) < ((needsR n rj).length : Int)) = True := by simp; omega
            have h03 : ((0 : Int) ≤ (q : Int)) = True := by simp
            have ew3 : IntKind.i64.wrap ((q : Int) + 1) = (q : Int) + 1 := i64_in (by omega) (by omega)
            have hd3 : (needsR n rj).drop q = x :: (needsR n rj).drop (q + 1) := by
              rw [List.drop_eq_getElem_cons hlt4]
              rw [List.getElem?_eq_getElem hlt4] at hx
              cases hx; rfl
            rw [hd3, List.any_cons] at k2
            obtain ⟨g20, hg20⟩ : ∃ g20, genO (AB.hget h 20) = g20 := ⟨_, rfl⟩
            by_cases hk2 : x.k = 2
            · have hk2' : (x.k = 2) = True := eq_true hk2
              simp only [go_sem, e123, hlt5, h03, hx, hxp, Option.map_some, dNd, hg20, hk2', hN3, ew3]
              refine ⟨by kernel_rfl, q + 1, ?_, by simp only; omega⟩
              simp only [go_sem]
              refine ⟨by simp, by omega, ?_, _, _, _, rfl, (b5.other _ _ (by decide)).other _ _ (by decide)⟩
              rw [← k2]; simp [hk2]
            · have hk2' : (x.k = 2) = False := eq_false hk2
              have h38 := f102 (needsR n r) [x] (by omega) (by simp)
              rw [anyM_one] at h38
              simp only [List.map_cons, List.map_nil, dNd] at h38
              simp only [go_sem, e123, hlt5, h03, hx, hxp, Option.map_some, dNd, hg20, hk2']
              refine callV h38 ?_
              intro nx6 lv6
              cases w : anyM [x] (needsR n r) with
              | true =>
                rw [if_pos (by rw [← g2, ← k2, w]; simp [hk2])] at hF
                subst hF
                simp only [go_sem, w, hR3, hR2]
              | false =>
                simp only [go_sem, w, hN3, ew3]
                refine ⟨by kernel_rfl, q + 1, ?_, by simp only; omega⟩
                simp only [go_sem]
                refine ⟨by simp, by omega, ?_, _, _, _, rfl, (b5.other _ _ (by decide)).other _ _ (by decide)⟩
                rw [← k2, w]; simp
          · have hlt5 : ((q : Int) < ((needsR n rj).length : Int)) = False := by simp; omega
            rw [List.drop_eq_nil_of_le (by omega), List.any_nil] at k2
            rw [← k2, Bool.false_or] at g2
            simp only [go_sem, e123, hlt5, hX3, hN2, ew2]
            refine ⟨by kernel_rfl, p2 + 1, ?_, by simp only; omega⟩
            simp only [go_sem]
            exact ⟨by simp, by omega, g2, _, _, _, rfl, b5⟩
        · have hlt3 : ((p2 : Int) < (i : Int)) = False := by simp; omega
          rw [List.drop_eq_nil_of_le (by omega), List.any_nil] at g2
          rw [if_neg (by rw [← g2]; simp)] at hF
          unfold eRt0 at h43
          unfold eNet nCells at h43
          have c5 := b5
          unfold NBox5 at c5
          simp only [go_sem, e112, hlt3, hX2]
          refine drawn (by kernel_rfl) (by kernel_rfl) ?_
          simp only [go_sem, i0, i1, hr, hrp, Option.map_some, dRt, c5]
          refine quietD h43 (fun _ => rfl) ?_
          simp only [go_sem]
          refine quietD (f68 (lapF n r) tr (by omega)) (fun _ => rfl) ?_
          cases w : psec (lapF n r) tr with
          | true =>
            rw [if_pos w] at hF
            subst hF
            simp only [go_sem, w, kDraw_eq]
            try exact fun _ _ _ _ => rfl
          | false =>
            rw [if_neg (by simp [w])] at hF
            subst hF
            simp only [go_sem, w, kDraw_eq]
            try exact fun _ _ _ _ => rfl
    · have a1' : (ro.to = r.fr) = False := eq_false fun z => a1 z.symm
      rw [if_pos (by simp [a1])] at hF
      subst hF
      simp only [go_sem, hz1, hz2, ew1, i0, i1, u0, u1, v0, v1, v2, hr, hrp, hla, hlap, hro, hrop, Option.map_some, dRt, a1', kDraw_eq]
      try exact fun _ _ _ _ => rfl
end Go.Proofs.YteadhjclchjfjaaGreat
