/- Legs: what one route more may come to; the program's functions that look for it. -/
import Derived.Test.YteadhjclchjfjaaGreatL280
namespace Go.Proofs.YteadhjclchjfjaaGreat
set_option linter.unusedSimpArgs false
set_option linter.unusedVariables false
open Go.AB

def ndAt (N : List (List Nd)) (j : Int) : List Nd := N.getD j.toNat []
def legP (L : List Rt) (leg : List Int) (s : Int) : Bool := leg.any fun j => psec (rtAt L j).st s
def legM (N : List (List Nd)) (leg : List Int) (k : Int) : Bool := leg.any fun j => (ndAt N j).any fun x => !decide (x.k = 2) && anyM [x] (ndAt N k)
def legO (n : Net) (L : List Rt) (tr : Int) (leg : List Int) (r : Rt) : Bool := if leg.length = 0 then !decide (homeF n r.fr = tr) else !decide (r.fr = (rtAt L (leg.getD (leg.length - 1) 0)).to)
/-- The error of one route more of a leg. -/
def legE (n : Net) (L : List Rt) (N : List (List Nd)) (tr : Int) (leg : List Int) (k : Int) : Int :=
  if okR L k = false then 3
  else if legO n L tr leg (rtAt L k) = true then 5
  else if ((rtAt L k).st.any fun x => decide (x.s = tr) || legP L leg x.s) = true then 6
  else if legM N leg k = true then 8
  else if psec (lapF n (rtAt L k)) tr = true then 8 else 0

/-- What a leg's checker holds. -/
def gD (n : Net) (tr : Int) (L : List Rt) (N : List (List Nd)) : List DV := [.sl 1 (n.names.map DV.str), .sl 7 (n.sects.map dSect), .sl 4 (n.links.map dLnk), .sl 2 (n.sigs.map dPair), .sl 2 (n.gates.map dPair), .int .i64 tr, .sl 3 (L.map dRt), .sl 1 (N.map dNds)]

theorem okR_at {L : List Rt} {k : Int} (h : okR L k = true) : 0 ≤ k ∧ k < L.length ∧ L[k.toNat]? = some (rtAt L k) := by
  obtain ⟨h0, h1, r, hr⟩ := okR_get h
  exact ⟨h0, h1, by simp [rtAt, hr]⟩

set_option maxHeartbeats 1000000 in
theorem f88 (n : Net) (tr : Int) (L : List Rt) (N : List (List Nd)) (hst : ∀ r ∈ L, r.st.length ≤ 1000) (j : Int) (hj : okR L j = true) (x : Stp) (nx : Nat) (lv : Nat → Prop) :
    QCall Tryz.prog 88 ⟨[], [[.ept (gD n tr L N)], [.int .i64 x.s, .int .i64 x.i, .int .i64 x.o]], nx, lv⟩ [.int .i64 j, .ptr (.out 0) 0, .ptr (.out 1) 0]
      (RQ nx lv [[.ept (gD n tr L N)], [.int .i64 x.s, .int .i64 x.i, .int .i64 x.o]] (.bool (psec (rtAt L j).st x.s))) := by
  refine QCall.of_body Tryz.func88 rfl Tryz.ntmps88 (congrArg Array.toList Tryz.results88) ?_
  intro E
  obtain ⟨h0, h1, h2⟩ := okR_at hj
  have h3 := hst _ (List.mem_of_getElem? h2)
  generalize rtAt L j = r at *
  have hrp : (L.map dRt)[j.toNat]? = some (dRt r) := by rw [List.getElem?_map, h2]; rfl
  have i0 : ((0 : Int) ≤ j) = True := eq_true h0
  have i1 : (j < (L.length : Int)) = True := eq_true h1
  simp only [go_sem]
  refine drawn (by kernel_rfl) (by kernel_rfl) ?_
  simp only [go_sem, gD, i0, i1, h2, hrp, Option.map_some, dRt]
  refine quietD (f89 r.st x.s (by omega)) (fun _ => rfl) ?_
  simp only [go_sem, kDraw_eq]
  exact fun nx2 lv2 hn hl => ⟨rfl, rfl, hn, hl⟩

/-- The place of a route that has a section. -/
def idxL' (L : List Rt) (s : Int) : List Int → Int → Int
  | [], _ => -1
  | j :: l, i => if psec (rtAt L j).st s = true then i else idxL' L s l (i + 1)
theorem idxL'_iff {L : List Rt} {s : Int} : ∀ {l : List Int} {i : Int}, 0 ≤ i → (0 ≤ idxL' L s l i ↔ legP L l s = true)
  | [], i, _ => by simp [idxL', legP]
  | j :: l, i, h => by
    have ih := idxL'_iff (L := L) (s := s) (l := l) (i := i + 1) (by omega)
    simp only [idxL', legP, List.any_cons] at ih ⊢
    cases hx : psec (rtAt L j).st s with
    | true => simp [h]
    | false => simpa using ih

set_option maxHeartbeats 1000000 in
set_option maxRecDepth 20000 in
theorem f112 (n : Net) (tr : Int) (L : List Rt) (N : List (List Nd)) (hst : ∀ r ∈ L, r.st.length ≤ 1000) (leg : List Int) (hleg : leg.length ≤ 1000) (hj : ∀ j ∈ leg, okR L j = true) (x : Stp) (nx : Nat) (lv : Nat → Prop) :
    QCall Tryz.prog 112 ⟨[], [[.ept (gD n tr L N)], [.int .i64 x.s, .int .i64 x.i, .int .i64 x.o]], nx, lv⟩ [.sl 1 (leg.map fun x => DV.int .i64 x) .no, .fn 88 [.ptr (.out 0) 0, .ptr (.out 1) 0]]
      (RQ nx lv [[.ept (gD n tr L N)], [.int .i64 x.s, .int .i64 x.i, .int .i64 x.o]] (.int .i64 (idxL' L x.s leg 0))) := by
  refine QCall.of_body Tryz.func112 rfl Tryz.ntmps112 (congrArg Array.toList Tryz.results112) ?_
  intro E
  simp only [go_sem]
  refine AW_loopH [4, 5, 8, 9, 10, 11, 12, 13, 14, 15, 16, 17, 18]
    (fun (i : Nat) ρ m => ρ 8 = .int .i64 (i : Int) ∧ i ≤ leg.length ∧ idxL' L x.s (leg.drop i) i = idxL' L x.s leg 0 ∧ ∃ h nx' lv', m = ⟨h, [[.ept (gD n tr L N)], [.int .i64 x.s, .int .i64 x.i, .int .i64 x.o]], nx', lv'⟩ ∧ nx ≤ nx' ∧ ∀ j, lv j → lv' j) (fun i => leg.length - i) 0 ?_ ?_
  · simp only [go_sem]
    first | exact ⟨Nat.zero_le _, _, _, _, rfl, Nat.le_refl _, fun _ z => z⟩ | exact ⟨Nat.zero_le _, rfl, _, _, _, rfl, Nat.le_refl _, fun _ z => z⟩
  rintro i ρ m ⟨e1, g1, g2, h, nx', lv', rfl, hn, hl⟩ Q hN hR hX
  by_cases hlt : i < leg.length
  · obtain ⟨j, hjx⟩ : ∃ x, leg[i]? = some x := ⟨_, List.getElem?_eq_getElem hlt⟩
    have hxp : (leg.map fun x => DV.int .i64 x)[i]? = some (.int .i64 j) := by rw [List.getElem?_map, hjx]; rfl
    have hlt' : ((i : Int) < (leg.length : Int)) = True := by simp; omega
    have h0 : ((0 : Int) ≤ (i : Int)) = True := by simp
    have ew : IntKind.i64.wrap ((i : Int) + 1) = (i : Int) + 1 := i64_in (by omega) (by omega)
    have hd : leg.drop i = j :: leg.drop (i + 1) := by
      rw [List.drop_eq_getElem_cons hlt]
      rw [List.getElem?_eq_getElem hlt] at hjx
      cases hjx; rfl
    rw [hd] at g2
    simp only [idxL'] at g2
    simp only [go_sem, e1, hlt', h0, hxp, hjx, Option.map_some]
    refine .inr (effV (ls := [.out 0, .out 1]) rfl rfl rfl (.two (by decide)) (f88 n tr L N hst j (hj j (List.mem_of_getElem? hjx)) x nx' lv') rfl rfl rfl ?_)
    intro nx2 lv2 hn2 hl2
    cases w : psec (rtAt L j).st x.s with
    | true =>
      rw [if_pos w] at g2
      simp only [go_sem, w, hR, AH.setAll]
      exact ⟨by rw [g2], rfl, Nat.le_trans hn hn2, fun j z => hl2 j (hl j z)⟩
    | false =>
      rw [if_neg (by simp [w])] at g2
      simp only [go_sem, w, hN, ew, AH.setAll]
      refine ⟨by kernel_rfl, i + 1, ?_, by simp only; omega⟩
      simp only [go_sem]
      exact ⟨by simp, by omega, by rw [← g2]; rfl, _, _, _, rfl, Nat.le_trans hn hn2, fun j z => hl2 j (hl j z)⟩
  · have hlt' : ((i : Int) < (leg.length : Int)) = False := by simp; omega
    rw [List.drop_eq_nil_of_le (by omega)] at g2
    simp only [idxL'] at g2
    simp only [go_sem, e1, hlt', hX]
    exact ⟨by rw [g2], rfl, hn, hl⟩

theorem f87 (n : Net) (tr : Int) (L : List Rt) (N : List (List Nd)) (hst : ∀ r ∈ L, r.st.length ≤ 1000) (leg : List Int) (hleg : leg.length ≤ 1000) (hj : ∀ j ∈ leg, okR L j = true) (x : Stp) (nx : Nat) (lv : Nat → Prop) :
    QCall Tryz.prog 87 ⟨[], [[.ept (gD n tr L N)], [.int .i64 x.s, .int .i64 x.i, .int .i64 x.o]], nx, lv⟩ [.sl 1 (leg.map fun x => DV.int .i64 x) .no, .fn 88 [.ptr (.out 0) 0, .ptr (.out 1) 0]]
      (RQ nx lv [[.ept (gD n tr L N)], [.int .i64 x.s, .int .i64 x.i, .int .i64 x.o]] (.bool (legP L leg x.s))) := by
  refine QCall.of_body Tryz.func87 rfl Tryz.ntmps87 (congrArg Array.toList Tryz.results87) ?_
  intro E
  simp only [go_sem]
  refine .inr (effV (ls := [.out 0, .out 1]) rfl rfl rfl (.two (by decide)) (f112 n tr L N hst leg hleg hj x nx lv) rfl rfl rfl ?_)
  intro nx2 lv2 hn2 hl2
  have := idxL'_iff (L := L) (s := x.s) (l := leg) (i := 0) (Int.le_refl 0)
  simp only [go_sem, AH.setAll]
  refine ⟨?_, rfl, hn2, hl2⟩
  cases hh : legP L leg x.s <;> simp [hh] at this ⊢ <;> omega
end Go.Proofs.YteadhjclchjfjaaGreat

/- Legs: what one route more comes to, by the program. -/
namespace Go.Proofs.YteadhjclchjfjaaGreat
set_option linter.unusedSimpArgs false
set_option linter.unusedVariables false
open Go.AB

theorem legM_cons {N : List (List Nd)} {j k : Int} {leg : List Int} : legM N (j :: leg) k = ((ndAt N j).any (fun x => !decide (x.k = 2) && anyM [x] (ndAt N k)) || legM N leg k) := rfl
theorem getD_last {leg : List Int} (h : 0 < leg.length) : leg[leg.length - 1]? = some (leg.getD (leg.length - 1) 0) := by
  rw [List.getD_eq_getElem?_getD, List.getElem?_eq_getElem (by omega)]; rfl

set_option maxHeartbeats 8000000 in
set_option maxRecDepth 20000 in
theorem f53 (n : Net) (hb : NetB n) (he : netE n = 0) (tr : Int) (L : List Rt) (hL : L.length ≤ 1000) (hok : ∀ r ∈ L, RtOk n r) (leg : List Int) (hleg : leg.length ≤ 1000) (hj : ∀ j ∈ leg, okR L j = true) (k : Int) :
    PCall Tryz.prog 53 [.ept (gD n tr L (L.map (needsR n))), .sl 1 (leg.map fun x => DV.int .i64 x) .no, .int .i64 k] (RV (.int .i64 (legE n L (L.map (needsR n)) tr leg k))) := by
  refine PCall.of_body Tryz.func53 rfl Tryz.ntmps53 (congrArg Array.toList Tryz.results53) ?_
  intro E
  have hst : ∀ r ∈ L, r.st.length ≤ 1000 := fun r hr => by have := (hok r hr).l1; omega
  have hNl : (L.map (needsR n)).length = L.length := List.length_map ..
  have hNb : ∀ j, ((L.map (needsR n)).getD j []).length ≤ 10000 := fun j => by
    rw [List.getD_eq_getElem?_getD, List.getElem?_map]
    cases hj : L[j]? with
    | none => simp
    | some r => simpa using needsR_len n r (hok r (List.mem_of_getElem? hj)).l1
  have hNg : ∀ j, j < L.length → ((L.map (needsR n)).map dNds)[j]? = some (dNds ((L.map (needsR n)).getD j [])) := fun j hj => by
    rw [List.getElem?_map, List.getD_eq_getElem?_getD, List.getElem?_map, List.getElem?_eq_getElem hj]; rfl
  generalize hN : L.map (needsR n) = N at *
  generalize hF : legE n L N tr leg k = F
  unfold legE legO at hF
  have ew0 : IntKind.i64.wrap ((L.length : Int) - 1) = (L.length : Int) - 1 := i64_in (by omega) (by omega)
  simp only [go_sem, gD, ew0]
  refine callV (f82 _ _ _) ?_
  intro nx lv
  by_cases q1 : okR L k = false
  · rw [if_pos q1] at hF
    subst hF
    have : within k 0 ((L.length : Int) - 1) = false := q1
    simp only [go_sem, this]
  rw [if_neg q1] at hF
  have q1 : okR L k = true := by simpa using q1
  have q1' : within k 0 ((L.length : Int) - 1) = true := q1
  obtain ⟨k0, k1, hr⟩ := okR_at q1
  have hrk := hok _ (List.mem_of_getElem? hr)
  have h90 := f91r n hb he _ hrk
  generalize rtAt L k = r at *
  have hrp : (L.map dRt)[k.toNat]? = some (dRt r) := by rw [List.getElem?_map, hr]; rfl
  have i0 : ((0 : Int) ≤ k) = True := eq_true k0
  have i1 : (k < (L.length : Int)) = True := eq_true k1
  have hf0 := hrk.f0
  have hf1 := hrk.f1
  obtain ⟨sg, hsg⟩ : ∃ x, n.sigs[r.fr.toNat]? = some x := ⟨_, List.getElem?_eq_getElem (by omega)⟩
  have hsp : (n.sigs.map dPair)[r.fr.toNat]? = some (dPair sg) := by rw [List.getElem?_map, hsg]; rfl
  have hhome : homeF n r.fr = sg.s := by simp [homeF, hsg]
  have j0 : ((0 : Int) ≤ r.fr) = True := eq_true hf0
  have j1 : (r.fr < (n.sigs.length : Int)) = True := eq_true hf1
  simp only [go_sem, q1', i0, i1, hr, hrp, Option.map_some, dRt]
  refine drawn (by kernel_rfl) (by kernel_rfl) ?_
  by_cases hl0 : leg.length = 0
  · have hl0' : ((leg.length : Int) = 0) = True := eq_true (by omega)
    have hl1' : ((0 : Int) < (leg.length : Int)) = False := eq_false (by omega)
    rw [if_pos hl0, hhome] at hF
    by_cases a1 : sg.s = tr
    · have a1' : (sg.s = tr) = True := eq_true a1
      rw [if_neg (by simp [a1])] at hF
      simp only [go_sem, gD, hl0', j0, j1, hsg, hsp, Option.map_some, dPair, a1', kDraw_eq]
      intro nx1 lv1 hn1 hl1
      refine drawn (by kernel_rfl) (by kernel_rfl) ?_
      simp only [go_sem, hl1', kDraw_eq]
      intro nx2 lv2 hn2 hl2
      refine AW_loopH [6, 9, 75, 76, 77, 78, 79, 80, 81, 82, 83, 84, 85, 86, 87, 88, 89, 90, 91]
        (fun (i : Nat) ρ m => ρ 75 = .int .i64 (i : Int) ∧ i ≤ r.st.length ∧ ((r.st.drop i).any fun x => decide (x.s = tr) || legP L leg x.s) = (r.st.any fun x => decide (x.s = tr) || legP L leg x.s) ∧ ∃ h nx lv, m = ⟨h, [], nx, lv⟩ ∧
          AB.hget h 3 = some (0, [.ept (gD n tr L N)]) ∧ AB.hget h 7 = some (0, [.int .i64 r.fr, .int .i64 r.to, .sl 3 (r.st.map dStp) .no])) (fun i => r.st.length - i) 0 ?_ ?_
      · simp only [go_sem]
        first | exact ⟨Nat.zero_le _, _, _, _, rfl, by simp [go_sem, gD], by simp [go_sem]⟩ | exact ⟨Nat.zero_le _, rfl, _, _, _, rfl, by simp [go_sem, gD], by simp [go_sem]⟩
      rintro i ρ m ⟨e75, g1, g2, h, nx3, lv3, rfl, b3, b7⟩ Q hN1 hR hX
      by_cases hlt : i < r.st.length
      · obtain ⟨x, hx⟩ : ∃ x, r.st[i]? = some x := ⟨_, List.getElem?_eq_getElem hlt⟩
        have hxp : (r.st.map dStp)[i]? = some (dStp x) := by rw [List.getElem?_map, hx]; rfl
        have hlt' : ((i : Int) < (r.st.length : Int)) = True := by simp; omega
        have h0 : ((0 : Int) ≤ (i : Int)) = True := by simp
        have hlr := hrk.l1
        have ew : IntKind.i64.wrap ((i : Int) + 1) = (i : Int) + 1 := i64_in (by omega) (by omega)
        have hd : r.st.drop i = x :: r.st.drop (i + 1) := by
          rw [List.drop_eq_getElem_cons hlt]
          rw [List.getElem?_eq_getElem hlt] at hx
          cases hx; rfl
        rw [hd, List.any_cons] at g2
        obtain ⟨g9, hg9⟩ : ∃ g9, genO (AB.hget h 9) = g9 := ⟨_, rfl⟩
        simp only [go_sem, e75, hlt', h0, hx, hxp, Option.map_some, dStp, hg9]
        obtain ⟨h2, hh2⟩ : ∃ h2, AB.hset (AB.hset h 9 g9 [.int .i64 0, .int .i64 0, .int .i64 0]) 9 g9 [.int .i64 x.s, .int .i64 x.i, .int .i64 x.o] = h2 := ⟨_, rfl⟩
        have c9 : AB.hget h2 9 = some (g9, [.int .i64 x.s, .int .i64 x.i, .int .i64 x.o]) := by rw [← hh2]; simp [go_sem]
        have c3 : AB.hget h2 3 = some (0, [.ept (gD n tr L N)]) := by rw [← hh2]; simp [go_sem, b3]
        have c7 : AB.hget h2 7 = some (0, [.int .i64 r.fr, .int .i64 r.to, .sl 3 (r.st.map dStp) .no]) := by rw [← hh2]; simp [go_sem, b7]
        rw [hh2]
        refine drawnP [2, 2, 2, 2, 2, 2, 2, 2, 2, 2, 3, 1] [(10, [0, 0, 0, 0, 0, 0, 0, 0, 0, 0, 0, 2])] 138 (by kernel_rfl) (by kernel_rfl) (by kernel_rfl) (by kernel_rfl) rfl ?_
        by_cases hst2 : x.s = tr
        · have hst2' : (x.s = tr) = True := eq_true hst2
          simp only [go_sem, c3, c7, c9, gD, hst2', kDraw_eq]
          intro nx4 lv4 hn4 hl4 nx5 lv5 hn5 hl5
          rw [if_pos (by rw [← g2]; simp [hst2])] at hF
          subst hF
          simp only [go_sem, hR]
        · have hst2' : (x.s = tr) = False := eq_false hst2
          simp only [go_sem, c3, c7, c9, gD, hst2']
          intro nx4 lv4 hn4 hl4
          have c3' := c3
          have c9' := c9
          refine .inr (effV (ls := [.own 3 0, .own 9 g9]) (css := [[.ept (gD n tr L N)], [.int .i64 x.s, .int .i64 x.i, .int .i64 x.o]]) (cs2 := [[.ept (gD n tr L N)], [.int .i64 x.s, .int .i64 x.i, .int .i64 x.o]]) (by simp [rnAL, rnA, rnCL, rnC, port1, outF, idxL]) ?_ rfl (.two (by simp)) (f87 n tr L N hst leg hleg hj x nx4 lv4) rfl rfl rfl ?_)
          · simp only [cellsL, AH.cells, c3, c9, if_true]
          intro nx5 lv5 hn5 hl5
          simp only [go_sem, AH.setAll, kDraw_eq]
          intro nx6 lv6 hn6 hl6
          cases w : legP L leg x.s with
          | true =>
            rw [if_pos (by rw [← g2]; simp [w])] at hF
            subst hF
            simp only [go_sem, w, hR]
          | false =>
            rw [w] at g2
            simp only [hst2, decide_false, Bool.false_or] at g2
            simp only [go_sem, w, hN1, ew]
            refine ⟨by kernel_rfl, i + 1, ?_, by simp only; omega⟩
            simp only [go_sem]
            exact ⟨by simp, by omega, g2, _, _, _, rfl, by simp [go_sem], by simp [go_sem, c7]⟩
      · have hlt' : ((i : Int) < (r.st.length : Int)) = False := by simp; omega
        rw [List.drop_eq_nil_of_le (by omega), List.any_nil] at g2
        rw [if_neg (by rw [← g2]; simp)] at hF
        simp only [go_sem, e75, hlt', hX]
        refine AW_loopH [6, 11, 13, 94, 95, 96, 97, 98, 99, 100, 101, 102, 103, 104, 105, 106, 107, 108, 109, 110, 111, 112, 113, 114, 115, 116, 117, 118, 119, 120, 121, 122, 123, 124, 125, 126]
          (fun (i : Nat) ρ m => ρ 94 = .int .i64 (i : Int) ∧ i ≤ leg.length ∧ legM N (leg.drop i) k = legM N leg k ∧ ∃ h nx lv, m = ⟨h, [], nx, lv⟩ ∧
            AB.hget h 3 = some (0, [.ept (gD n tr L N)]) ∧ AB.hget h 7 = some (0, [.int .i64 r.fr, .int .i64 r.to, .sl 3 (r.st.map dStp) .no])) (fun i => leg.length - i) 0 ?_ ?_
        · simp only [go_sem]
          first | exact ⟨Nat.zero_le _, _, _, _, rfl, b3, b7⟩ | exact ⟨Nat.zero_le _, rfl, _, _, _, rfl, b3, b7⟩
        clear b3 b7 e75 g2 hlt hlt' g1 nx3 lv3 h
        rintro i2 ρ2 m ⟨e94, g1, g2, h, nx3, lv3, rfl, b3, b7⟩ Q2 hN2 hR2 hX2
        by_cases hlt : i2 < leg.length
        · obtain ⟨j, hjx⟩ : ∃ x, leg[i2]? = some x := ⟨_, List.getElem?_eq_getElem hlt⟩
          have hjp : (leg.map fun x => DV.int .i64 x)[i2]? = some (.int .i64 j) := by rw [List.getElem?_map, hjx]; rfl
          have hlt' : ((i2 : Int) < (leg.length : Int)) = True := by simp; omega
          have h0 : ((0 : Int) ≤ (i2 : Int)) = True := by simp
          have ew : IntKind.i64.wrap ((i2 : Int) + 1) = (i2 : Int) + 1 := i64_in (by omega) (by omega)
          have hd : leg.drop i2 = j :: leg.drop (i2 + 1) := by
            rw [List.drop_eq_getElem_cons hlt]
            rw [List.getElem?_eq_getElem hlt] at hjx
            cases hjx; rfl
          rw [hd, legM_cons] at g2
          obtain ⟨w0, w1, _⟩ := okR_at (hj j (List.mem_of_getElem? hjx))
          have y0 : ((0 : Int) ≤ j) = True := eq_true w0
          have y1 : (j < (N.length : Int)) = True := eq_true (by omega)
          have i1N : (k < (N.length : Int)) = True := eq_true (by omega)
          have hNj := hNg j.toNat (by omega)
          have hNk := hNg k.toNat (by omega)
          have hbj := hNb j.toNat
          have hbk := hNb k.toNat
          change (ndAt N j).length ≤ 10000 at hbj
          change (ndAt N k).length ≤ 10000 at hbk
          change (N.map dNds)[j.toNat]? = some (dNds (ndAt N j)) at hNj
          change (N.map dNds)[k.toNat]? = some (dNds (ndAt N k)) at hNk
          simp only [go_sem, e94, hlt', h0, hjx, hjp, Option.map_some, b3, gD, y0, y1, hNj, dNds]
          refine AW_loopH [6, 13, 106, 107, 108, 109, 110, 111, 112, 113, 114, 115, 116, 117, 118, 119, 120, 121, 122, 123, 124, 125]
            (fun (p : Nat) ρ m => ρ 106 = .int .i64 (p : Int) ∧ p ≤ (ndAt N j).length ∧ (((ndAt N j).drop p).any fun x => !decide (x.k = 2) && anyM [x] (ndAt N k)) = ((ndAt N j).any fun x => !decide (x.k = 2) && anyM [x] (ndAt N k)) ∧ ∃ h nx lv, m = ⟨h, [], nx, lv⟩ ∧
              AB.hget h 3 = some (0, [.ept (gD n tr L N)]) ∧ AB.hget h 7 = some (0, [.int .i64 r.fr, .int .i64 r.to, .sl 3 (r.st.map dStp) .no])) (fun p => (ndAt N j).length - p) 0 ?_ ?_
          · simp only [go_sem]
            first | exact ⟨Nat.zero_le _, _, _, _, rfl, b3, b7⟩ | exact ⟨Nat.zero_le _, rfl, _, _, _, rfl, b3, b7⟩
          clear b3 b7 h nx3 lv3
          rintro p ρ3 m ⟨e106, p1, p2, h, nx3, lv3, rfl, b3, b7⟩ Q3 hN3 hR3 hX3
          by_cases hltp : p < (ndAt N j).length
          · obtain ⟨x, hx⟩ : ∃ x, (ndAt N j)[p]? = some x := ⟨_, List.getElem?_eq_getElem hltp⟩
            have hxp : ((ndAt N j).map dNd)[p]? = some (dNd x) := by rw [List.getElem?_map, hx]; rfl
            have hlt3 : ((p : Int) < ((ndAt N j).length : Int)) = True := by simp; omega
            have h03 : ((0 : Int) ≤ (p : Int)) = True := by simp
            have ew3 : IntKind.i64.wrap ((p : Int) + 1) = (p : Int) + 1 := i64_in (by omega) (by omega)
            have hd3 : (ndAt N j).drop p = x :: (ndAt N j).drop (p + 1) := by
              rw [List.drop_eq_getElem_cons hltp]
              rw [List.getElem?_eq_getElem hltp] at hx
              cases hx; rfl
            rw [hd3, List.any_cons] at p2
            obtain ⟨g13, hg13⟩ : ∃ g13, genO (AB.hget h 13) = g13 := ⟨_, rfl⟩
            simp only [go_sem, e106, hlt3, h03, hx, hxp, Option.map_some, dNd, hg13]
            refine drawnP [2, 2, 2, 2, 2, 3, 2, 2, 2, 2, 2, 2, 2, 1, 1] [(5, [0, 0, 0, 0, 0, 0, 2, 2, 2, 2, 2, 2, 2, 2, 2])] 138 (by kernel_rfl) (by kernel_rfl) (by kernel_rfl) (by kernel_rfl) rfl ?_
            have cont : ((!decide (x.k = 2) && anyM [x] (ndAt N k)) = false) → ∀ (h' : List (Nat × Nat × List AV)) nx' lv', AB.hget h' 3 = some (0, [.ept (gD n tr L N)]) → AB.hget h' 7 = some (0, [.int .i64 r.fr, .int .i64 r.to, .sl 3 (r.st.map dStp) .no]) →
                (((ndAt N j).drop (p + 1)).any fun x => !decide (x.k = 2) && anyM [x] (ndAt N k)) = ((ndAt N j).any fun x => !decide (x.k = 2) && anyM [x] (ndAt N k)) ∧ ∃ h nx lv, (⟨h', [], nx', lv'⟩ : AH) = ⟨h, [], nx, lv⟩ ∧ AB.hget h 3 = some (0, [.ept (gD n tr L N)]) ∧ AB.hget h 7 = some (0, [.int .i64 r.fr, .int .i64 r.to, .sl 3 (r.st.map dStp) .no]) := fun e h' nx' lv' c3 c7 => by
              rw [e, Bool.false_or] at p2
              exact ⟨p2, _, _, _, rfl, c3, c7⟩
            by_cases hk2 : x.k = 2
            · have hk2' : (x.k = 2) = True := eq_true hk2
              simp only [go_sem, hk2', b3, gD, y0, y1, i0, i1N, hNk, dNds, kDraw_eq]
              intro nx4 lv4 hn4 hl4 nx5 lv5 hn5 hl5
              simp only [hN3, ew3]
              refine ⟨by kernel_rfl, p + 1, ?_, by simp only; omega⟩
              simp only [go_sem]
              exact ⟨by simp, by omega, cont (by simp [hk2]) _ _ _ (by simp [go_sem, b3]) (by simp [go_sem, b7])⟩
            · have hk2' : (x.k = 2) = False := eq_false hk2
              have h85 := f90 [x] (ndAt N k) (by simp) (by omega)
              simp only [List.map_cons, List.map_nil, dNd] at h85
              simp only [go_sem, hk2', b3, gD, y0, y1, i0, i1N, hNk, dNds, kDraw_eq]
              intro nx4 lv4 hn4 hl4
              refine quietD h85 (fun _ => rfl) ?_
              simp only [go_sem, kDraw_eq]
              intro nx5 lv5 hn5 hl5
              cases w : anyM [x] (ndAt N k) with
              | true =>
                rw [if_pos (by rw [← g2, ← p2, w]; simp [hk2])] at hF
                subst hF
                simp only [go_sem, w, hR3, hR2]
              | false =>
                simp only [go_sem, w, hN3, ew3]
                refine ⟨by kernel_rfl, p + 1, ?_, by simp only; omega⟩
                simp only [go_sem]
                exact ⟨by simp, by omega, cont (by rw [w, Bool.and_false]) _ _ _ (by simp [go_sem, b3]) (by simp [go_sem, b7])⟩
          · have hlt3 : ((p : Int) < ((ndAt N j).length : Int)) = False := by simp; omega
            rw [List.drop_eq_nil_of_le (by omega), List.any_nil] at p2
            rw [← p2, Bool.false_or] at g2
            simp only [go_sem, e106, hlt3, hX3, hN2, ew]
            refine ⟨by kernel_rfl, i2 + 1, ?_, by simp only; omega⟩
            simp only [go_sem]
            exact ⟨by simp, by omega, g2, _, _, _, rfl, b3, b7⟩
        · have hlt' : ((i2 : Int) < (leg.length : Int)) = False := by simp; omega
          rw [List.drop_eq_nil_of_le (by omega)] at g2
          rw [if_neg (by rw [← g2]; simp [legM])] at hF
          have hll := lapF_len n r
          unfold eRt0 at h90
          unfold eNet nCells at h90
          simp only [go_sem, e94, hlt', hX2]
          refine drawn (by kernel_rfl) (by kernel_rfl) ?_
          simp only [go_sem, b3, b7, gD]
          refine quietD h90 (fun _ => rfl) ?_
          simp only [go_sem, b3, gD]
          refine quietD (f89 (lapF n r) tr (by omega)) (fun _ => rfl) ?_
          cases w : psec (lapF n r) tr with
          | true =>
            rw [if_pos w] at hF
            subst hF
            simp only [go_sem, w, kDraw_eq]
            try exact fun _ _ _ _ => rfl
          | false =>
            rw [if_neg (by simp [w])] at hF
            subst hF
            simp only [go_sem, w, kDraw_eq]
            try exact fun _ _ _ _ => rfl
    · have a1' : (sg.s = tr) = False := eq_false a1
      rw [if_pos (by simp [a1])] at hF
      subst hF
      simp only [go_sem, gD, hl0', j0, j1, hsg, hsp, Option.map_some, dPair, a1', kDraw_eq]
      try exact fun _ _ _ _ => rfl
  · have hl0' : ((leg.length : Int) = 0) = False := eq_false (by omega)
    have hl1' : ((0 : Int) < (leg.length : Int)) = True := eq_true (by omega)
    have ew1 : IntKind.i64.wrap ((leg.length : Int) - 1) = (leg.length : Int) - 1 := i64_in (by omega) (by omega)
    rw [if_neg hl0] at hF
    have hla := getD_last (leg := leg) (by omega)
    generalize leg.getD (leg.length - 1) 0 = o at *
    have hoo := hj o (List.mem_of_getElem? hla)
    obtain ⟨o0, o1, hro⟩ := okR_at hoo
    generalize rtAt L o = ro at *
    have hrop : (L.map dRt)[o.toNat]? = some (dRt ro) := by rw [List.getElem?_map, hro]; rfl
    have hlap : (leg.map fun x => DV.int .i64 x)[leg.length - 1]? = some (.int .i64 o) := by rw [List.getElem?_map, hla]; rfl
    have u0 : ((0 : Int) ≤ o) = True := eq_true o0
    have u1 : (o < (L.length : Int)) = True := eq_true o1
    have v0 : ((0 : Int) ≤ (leg.length : Int) - 1) = True := eq_true (by omega)
    have v1 : ((leg.length : Int) - 1 < (leg.length : Int)) = True := eq_true (by omega)
    have v2 : ((leg.length : Int) - 1).toNat = leg.length - 1 := by omega
    simp only [go_sem, hl0', kDraw_eq]
    intro nx1 lv1 hn1 hl1
    refine drawn (by kernel_rfl) (by kernel_rfl) ?_
    by_cases a1 : r.fr = ro.to
    · have a1' : (r.fr = ro.to) = True := eq_true a1
      rw [if_neg (by simp [a1])] at hF
      simp only [go_sem, gD, hl1', ew1, u0, u1, v0, v1, v2, hla, hlap, hro, hrop, Option.map_some, dRt, a1', kDraw_eq]
      intro nx2 lv2 hn2 hl2
      refine AW_loopH [6, 9, 75, 76, 77, 78, 79, 80, 81, 82, 83, 84, 85, 86, 87, 88, 89, 90, 91]
        (fun (i : Nat) ρ m => ρ 75 = .int .i64 (i : Int) ∧ i ≤ r.st.length ∧ ((r.st.drop i).any fun x => decide (x.s = tr) || legP L leg x.s) = (r.st.any fun x => decide (x.s = tr) || legP L leg x.s) ∧ ∃ h nx lv, m = ⟨h, [], nx, lv⟩ ∧
          AB.hget h 3 = some (0, [.ept (gD n tr L N)]) ∧ AB.hget h 7 = some (0, [.int .i64 r.fr, .int .i64 r.to, .sl 3 (r.st.map dStp) .no])) (fun i => r.st.length - i) 0 ?_ ?_
      · simp only [go_sem]
        first | exact ⟨Nat.zero_le _, _, _, _, rfl, by simp [go_sem, gD], by simp [go_sem]⟩ | exact ⟨Nat.zero_le _, rfl, _, _, _, rfl, by simp [go_sem, gD], by simp [go_sem]⟩
      rintro i ρ m ⟨e75, g1, g2, h, nx3, lv3, rfl, b3, b7⟩ Q hN1 hR hX
      by_cases hlt : i < r.st.length
      · obtain ⟨x, hx⟩ : ∃ x, r.st[i]? = some x := ⟨_, List.getElem?_eq_getElem hlt⟩
        have hxp : (r.st.map dStp)[i]? = some (dStp x) := by rw [List.getElem?_map, hx]; rfl
        have hlt' : ((i : Int) < (r.st.length : Int)) = True := by simp; omega
        have h0 : ((0 : Int) ≤ (i : Int)) = True := by simp
        have hlr := hrk.l1
        have ew : IntKind.i64.wrap ((i : Int) + 1) = (i : Int) + 1 := i64_in (by omega) (by omega)
        have hd : r.st.drop i = x :: r.st.drop (i + 1) := by
          rw [List.drop_eq_getElem_cons hlt]
          rw [List.getElem?_eq_getElem hlt] at hx
          cases hx; rfl
        rw [hd, List.any_cons] at g2
        obtain ⟨g9, hg9⟩ : ∃ g9, genO (AB.hget h 9) = g9 := ⟨_, rfl⟩
        simp only [go_sem, e75, hlt', h0, hx, hxp, Option.map_some, dStp, hg9]
        obtain ⟨h2, hh2⟩ : ∃ h2, AB.hset (AB.hset h 9 g9 [.int .i64 0, .int .i64 0, .int .i64 0]) 9 g9 [.int .i64 x.s, .int .i64 x.i, .int .i64 x.o] = h2 := ⟨_, rfl⟩
        have c9 : AB.hget h2 9 = some (g9, [.int .i64 x.s, .int .i64 x.i, .int .i64 x.o]) := by rw [← hh2]; simp [go_sem]
        have c3 : AB.hget h2 3 = some (0, [.ept (gD n tr L N)]) := by rw [← hh2]; simp [go_sem, b3]
        have c7 : AB.hget h2 7 = some (0, [.int .i64 r.fr, .int .i64 r.to, .sl 3 (r.st.map dStp) .no]) := by rw [← hh2]; simp [go_sem, b7]
        rw [hh2]
        refine drawnP [2, 2, 2, 2, 2, 2, 2, 2, 2, 2, 3, 1] [(10, [0, 0, 0, 0, 0, 0, 0, 0, 0, 0, 0, 2])] 138 (by kernel_rfl) (by kernel_rfl) (by kernel_rfl) (by kernel_rfl) rfl ?_
        by_cases hst2 : x.s = tr
        · have hst2' : (x.s = tr) = True := eq_true hst2
          simp only [go_sem, c3, c7, c9, gD, hst2', kDraw_eq]
          intro nx4 lv4 hn4 hl4 nx5 lv5 hn5 hl5
          rw [if_pos (by rw [← g2]; simp [hst2])] at hF
          subst hF
          simp only [go_sem, hR]
        · have hst2' : (x.s = tr) = False := eq_false hst2
          simp only [go_sem, c3, c7, c9, gD, hst2']
          intro nx4 lv4 hn4 hl4
          have c3' := c3
          have c9' := c9
          refine .inr (effV (ls := [.own 3 0, .own 9 g9]) (css := [[.ept (gD n tr L N)], [.int .i64 x.s, .int .i64 x.i, .int .i64 x.o]]) (cs2 := [[.ept (gD n tr L N)], [.int .i64 x.s, .int .i64 x.i, .int .i64 x.o]]) (by simp [rnAL, rnA, rnCL, rnC, port1, outF, idxL]) ?_ rfl (.two (by simp)) (f87 n tr L N hst leg hleg hj x nx4 lv4) rfl rfl rfl ?_)
          · simp only [cellsL, AH.cells, c3, c9, if_true]
          intro nx5 lv5 hn5 hl5
          simp only [go_sem, AH.setAll, kDraw_eq]
          intro nx6 lv6 hn6 hl6
          cases w : legP L leg x.s with
          | true =>
            rw [if_pos (by rw [← g2]; simp [w])] at hF
            subst hF
            simp only [go_sem, w, hR]
          | false =>
            rw [w] at g2
            simp only [hst2, decide_false, Bool.false_or] at g2
            simp only [go_sem, w, hN1, ew]
            refine ⟨by kernel_rfl, i + 1, ?_, by simp only; omega⟩
            simp only [go_sem]
            exact ⟨by simp, by omega, g2, _, _, _, rfl, by simp [go_sem], by simp [go_sem, c7]⟩
      · have hlt' : ((i : Int) < (r.st.length : Int)) = False := by simp; omega
        rw [List.drop_eq_nil_of_le (by omega), List.any_nil] at g2
        rw [if_neg (by rw [← g2]; simp)] at hF
        simp only [go_sem, e75, hlt', hX]
        refine AW_loopH [6, 11, 13, 94, 95, 96, 97, 98, 99, 100, 101, 102, 103, 104, 105, 106, 107, 108, 109, 110, 111, 112, 113, 114, 115, 116, 117, 118, 119, 120, 121, 122, 123, 124, 125, 126]
          (fun (i : Nat) ρ m => ρ 94 = .int .i64 (i : Int) ∧ i ≤ leg.length ∧ legM N (leg.drop i) k = legM N leg k ∧ ∃ h nx lv, m = ⟨h, [], nx, lv⟩ ∧
            AB.hget h 3 = some (0, [.ept (gD n tr L N)]) ∧ AB.hget h 7 = some (0, [.int .i64 r.fr, .int .i64 r.to, .sl 3 (r.st.map dStp) .no])) (fun i => leg.length - i) 0 ?_ ?_
        · simp only [go_sem]
          first | exact ⟨Nat.zero_le _, _, _, _, rfl, b3, b7⟩ | exact ⟨Nat.zero_le _, rfl, _, _, _, rfl, b3, b7⟩
        clear b3 b7 e75 g2 hlt hlt' g1 nx3 lv3 h
        rintro i2 ρ2 m ⟨e94, g1, g2, h, nx3, lv3, rfl, b3, b7⟩ Q2 hN2 hR2 hX2
        by_cases hlt : i2 < leg.length
        · obtain ⟨j, hjx⟩ : ∃ x, leg[i2]? = some x := ⟨_, List.getElem?_eq_getElem hlt⟩
          have hjp : (leg.map fun x => DV.int .i64 x)[i2]? = some (.int .i64 j) := by rw [List.getElem?_map, hjx]; rfl
          have hlt' : ((i2 : Int) < (leg.length : Int)) = True := by simp; omega
          have h0 : ((0 : Int) ≤ (i2 : Int)) = True := by simp
          have ew : IntKind.i64.wrap ((i2 : Int) + 1) = (i2 : Int) + 1 := i64_in (by omega) (by omega)
          have hd : leg.drop i2 = j :: leg.drop (i2 + 1) := by
            rw [List.drop_eq_getElem_cons hlt]
            rw [List.getElem?_eq_getElem hlt] at hjx
            cases hjx; rfl
          rw [hd, legM_cons] at g2
          obtain ⟨w0, w1, _⟩ := okR_at (hj j (List.mem_of_getElem? hjx))
          have y0 : ((0 : Int) ≤ j) = True := eq_true w0
          have y1 : (j < (N.length : Int)) = True := eq_true (by omega)
          have i1N : (k < (N.length : Int)) = True := eq_true (by omega)
          have hNj := hNg j.toNat (by omega)
          have hNk := hNg k.toNat (by omega)
          have hbj := hNb j.toNat
          have hbk := hNb k.toNat
          change (ndAt N j).length ≤ 10000 at hbj
          change (ndAt N k).length ≤ 10000 at hbk
          change (N.map dNds)[j.toNat]? = some (dNds (ndAt N j)) at hNj
          change (N.map dNds)[k.toNat]? = some (dNds (ndAt N k)) at hNk
          simp only [go_sem, e94, hlt', h0, hjx, hjp, Option.map_some, b3, gD, y0, y1, hNj, dNds]
          refine AW_loopH [6, 13, 106, 107, 108, 109, 110, 111, 112, 113, 114, 115, 116, 117, 118, 119, 120, 121, 122, 123, 124, 125]
            (fun (p : Nat) ρ m => ρ 106 = .int .i64 (p : Int) ∧ p ≤ (ndAt N j).length ∧ (((ndAt N j).drop p).any fun x => !decide (x.k = 2) && anyM [x] (ndAt N k)) = ((ndAt N j).any fun x => !decide (x.k = 2) && anyM [x] (ndAt N k)) ∧ ∃ h nx lv, m = ⟨h, [], nx, lv⟩ ∧
              AB.hget h 3 = some (0, [.ept (gD n tr L N)]) ∧ AB.hget h 7 = some (0, [.int .i64 r.fr, .int .i64 r.to, .sl 3 (r.st.map dStp) .no])) (fun p => (ndAt N j).length - p) 0 ?_ ?_
          · simp only [go_sem]
            first | exact ⟨Nat.zero_le _, _, _, _, rfl, b3, b7⟩ | exact ⟨Nat.zero_le _, rfl, _, _, _, rfl, b3, b7⟩
          clear b3 b7 h nx3 lv3
          rintro p ρ3 m ⟨e106, p1, p2, h, nx3, lv3, rfl, b3, b7⟩ Q3 hN3 hR3 hX3
          by_cases hltp : p < (ndAt N j).length
          · obtain ⟨x, hx⟩ : ∃ x, (ndAt N j)[p]? = some x := ⟨_, List.getElem?_eq_getElem hltp⟩
            have hxp : ((ndAt N j).map dNd)[p]? = some (dNd x) := by rw [List.getElem?_map, hx]; rfl
            have hlt3 : ((p : Int) < ((ndAt N j).length : Int)) = True := by simp; omega
            have h03 : ((0 : Int) ≤ (p : Int)) = True := by simp
            have ew3 : IntKind.i64.wrap ((p : Int) + 1) = (p : Int) + 1 := i64_in (by omega) (by omega)
            have hd3 : (ndAt N j).drop p = x :: (ndAt N j).drop (p + 1) := by
              rw [List.drop_eq_getElem_cons hltp]
              rw [List.getElem?_eq_getElem hltp] at hx
              cases hx; rfl
            rw [hd3, List.any_cons] at p2
            obtain ⟨g13, hg13⟩ : ∃ g13, genO (AB.hget h 13) = g13 := ⟨_, rfl⟩
            simp only [go_sem, e106, hlt3, h03, hx, hxp, Option.map_some, dNd, hg13]
            refine drawnP [2, 2, 2, 2, 2, 3, 2, 2, 2, 2, 2, 2, 2, 1, 1] [(5, [0, 0, 0, 0, 0, 0, 2, 2, 2, 2, 2, 2, 2, 2, 2])] 138 (by kernel_rfl) (by kernel_rfl) (by kernel_rfl) (by kernel_rfl) rfl ?_
            have cont : ((!decide (x.k = 2) && anyM [x] (ndAt N k)) = false) → ∀ (h' : List (Nat × Nat × List AV)) nx' lv', AB.hget h' 3 = some (0, [.ept (gD n tr L N)]) → AB.hget h' 7 = some (0, [.int .i64 r.fr, .int .i64 r.to, .sl 3 (r.st.map dStp) .no]) →
                (((ndAt N j).drop (p + 1)).any fun x => !decide (x.k = 2) && anyM [x] (ndAt N k)) = ((ndAt N j).any fun x => !decide (x.k = 2) && anyM [x] (ndAt N k)) ∧ ∃ h nx lv, (⟨h', [], nx', lv'⟩ : AH) = ⟨h, [], nx, lv⟩ ∧ AB.hget h 3 = some (0, [.ept (gD n tr L N)]) ∧ AB.hget h 7 = some (0, [.int .i64 r.fr, .int .i64 r.to, .sl 3 (r.st.map dStp) .no]) := fun e h' nx' lv' c3 c7 => by
              rw [e, Bool.false_or] at p2
              exact ⟨p2, _, _, _, rfl, c3, c7⟩
            by_cases hk2 : x.k = 2
            · have hk2' : (x.k = 2) = True := eq_true hk2
              simp only [go_sem, hk2', b3, gD, y0, y1, i0, i1N, hNk, dNds, kDraw_eq]
              intro nx4 lv4 hn4 hl4 nx5 lv5 hn5 hl5
              simp only [hN3, ew3]
              refine ⟨by kernel_rfl, p + 1, ?_, by simp only; omega⟩
              simp only [go_sem]
              exact ⟨by simp, by omega, cont (by simp [hk2]) _ _ _ (by simp [go_sem, b3]) (by simp [go_sem, b7])⟩
            · have hk2' : (x.k = 2) = False := eq_false hk2
              have h85 := f90 [x] (ndAt N k) (by simp) (by omega)
              simp only [List.map_cons, List.map_nil, dNd] at h85
              simp only [go_sem, hk2', b3, gD, y0, y1, i0, i1N, hNk, dNds, kDraw_eq]
              intro nx4 lv4 hn4 hl4
              refine quietD h85 (fun _ => rfl) ?_
              simp only [go_sem, kDraw_eq]
              intro nx5 lv5 hn5 hl5
              cases w : anyM [x] (ndAt N k) with
              | true =>
                rw [if_pos (by rw [← g2, ← p2, w]; simp [hk2])] at hF
                subst hF
                simp only [go_sem, w, hR3, hR2]
              | false =>
                simp only [go_sem, w, hN3, ew3]
                refine ⟨by kernel_rfl, p + 1, ?_, by simp only; omega⟩
                simp only [go_sem]
                exact ⟨by simp, by omega, cont (by rw [w, Bool.and_false]) _ _ _ (by simp [go_sem, b3]) (by simp [go_sem, b7])⟩
          · have hlt3 : ((p : Int) < ((ndAt N j).length : Int)) = False := by simp; omega
            rw [List.drop_eq_nil_of_le (by omega), List.any_nil] at p2
            rw [← p2, Bool.false_or] at g2
            simp only [go_sem, e106, hlt3, hX3, hN2, ew]
            refine ⟨by kernel_rfl, i2 + 1, ?_, by simp only; omega⟩
            simp only [go_sem]
            exact ⟨by simp, by omega, g2, _, _, _, rfl, b3, b7⟩
        · have hlt' : ((i2 : Int) < (leg.length : Int)) = False := by simp; omega
          rw [List.drop_eq_nil_of_le (by omega)] at g2
          rw [if_neg (by rw [← g2]; simp [legM])] at hF
          have hll := lapF_len n r
          unfold eRt0 at h90
          unfold eNet nCells at h90
          simp only [go_sem, e94, hlt', hX2]
          refine drawn (by kernel_rfl) (by kernel_rfl) ?_
          simp only [go_sem, b3, b7, gD]
          refine quietD h90 (fun _ => rfl) ?_
          simp only [go_sem, b3, gD]
          refine quietD (f89 (lapF n r) tr (by omega)) (fun _ => rfl) ?_
          cases w : psec (lapF n r) tr with
          | true =>
            rw [if_pos w] at hF
            subst hF
            simp only [go_sem, w, kDraw_eq]
            try exact fun _ _ _ _ => rfl
          | false =>
            rw [if_neg (by simp [w])] at hF
            subst hF
            simp only [go_sem, w, kDraw_eq]
            try exact fun _ _ _ _ => rfl
    · have a1' : (r.fr = ro.to) = False := eq_false a1
      rw [if_pos (by simp [a1])] at hF
      subst hF
      simp only [go_sem, gD, hl1', ew1, u0, u1, v0, v1, v2, hla, hlap, hro, hrop, Option.map_some, dRt, a1', kDraw_eq]
      try exact fun _ _ _ _ => rfl
end Go.Proofs.YteadhjclchjfjaaGreat

/- Legs: the program's check of a leg. -/
namespace Go.Proofs.YteadhjclchjfjaaGreat
set_option linter.unusedSimpArgs false
set_option linter.unusedVariables false
open Go.AB

def statAt (n : Net) (s : Int) : Int := ((n.sects[s.toNat]?).map Sect.station).getD 0
def pltF (n : Net) (s : Int) : Bool := within s 0 ((n.sects.length : Int) - 1) && !decide (statAt n s = 0)
theorem f51 (n : Net) (hb : NetB n) (s : Int) : PCall Tryz.prog 51 [eNet n, .int .i64 s] (RV (.bool (pltF n s))) := by
  refine PCall.of_body Tryz.func51 rfl Tryz.ntmps51 (congrArg Array.toList Tryz.results51) ?_
  intro E
  have hsc := hb.sc
  have ew : IntKind.i64.wrap ((n.sects.length : Int) - 1) = (n.sects.length : Int) - 1 := i64_in (by omega) (by omega)
  simp only [go_sem, eNet, nCells, ew]
  refine callV (f82 _ _ _) ?_
  intro nx lv
  cases w : within s 0 ((n.sects.length : Int) - 1) with
  | false => simp only [go_sem, pltF, w, Bool.false_and]
  | true =>
    have h2 : 0 ≤ s ∧ s ≤ n.sects.length - 1 := by simpa [within] using w
    obtain ⟨c, hc⟩ : ∃ c, n.sects[s.toNat]? = some c := ⟨_, List.getElem?_eq_getElem (by omega)⟩
    have hc2 : (n.sects.map dSect)[s.toNat]? = some (dSect c) := by rw [List.getElem?_map, hc]; rfl
    have hsa : statAt n s = c.station := by simp [statAt, hc]
    have i1 : ((0 : Int) ≤ s) = True := eq_true h2.1
    have i2 : (s < (n.sects.length : Int)) = True := eq_true (by omega)
    simp only [go_sem, pltF, w, Bool.true_and, hsa, i1, i2, hc, hc2, Option.map_some, dSect]

/-- The last section of a leg. -/
def lastS (L : List Rt) (leg : List Int) : Int := ((rtAt L (leg.getD (leg.length - 1) 0)).st.getD ((rtAt L (leg.getD (leg.length - 1) 0)).st.length - 1) ⟨0, 0, 0⟩).s
theorem f54 (n : Net) (tr : Int) (L : List Rt) (N : List (List Nd)) (hok : ∀ r ∈ L, RtOk n r) (leg : List Int) (hl0 : 0 < leg.length) (hl : leg.length ≤ 1000) (hj : ∀ j ∈ leg, okR L j = true) :
    PCall Tryz.prog 54 [.ept (gD n tr L N), .sl 1 (leg.map fun x => DV.int .i64 x) .no] (RV (.int .i64 (lastS L leg))) := by
  refine PCall.of_body Tryz.func54 rfl Tryz.ntmps54 (congrArg Array.toList Tryz.results54) ?_
  intro E
  have hla := getD_last hl0
  unfold lastS
  generalize leg.getD (leg.length - 1) 0 = o at *
  obtain ⟨o0, o1, hro⟩ := okR_at (hj o (List.mem_of_getElem? hla))
  have hrk := hok _ (List.mem_of_getElem? hro)
  generalize rtAt L o = r at *
  have hs0 := hrk.l0
  have hs1 := hrk.l1
  have hsl : r.st[r.st.length - 1]? = some (r.st.getD (r.st.length - 1) ⟨0, 0, 0⟩) := by
    rw [List.getD_eq_getElem?_getD, List.getElem?_eq_getElem (by omega)]; rfl
  generalize r.st.getD (r.st.length - 1) ⟨0, 0, 0⟩ = x at *
  have hrop : (L.map dRt)[o.toNat]? = some (dRt r) := by rw [List.getElem?_map, hro]; rfl
  have hlap : (leg.map fun x => DV.int .i64 x)[leg.length - 1]? = some (.int .i64 o) := by rw [List.getElem?_map, hla]; rfl
  have hxp : (r.st.map dStp)[r.st.length - 1]? = some (dStp x) := by rw [List.getElem?_map, hsl]; rfl
  have ew1 : IntKind.i64.wrap ((leg.length : Int) - 1) = (leg.length : Int) - 1 := i64_in (by omega) (by omega)
  have ew2 : IntKind.i64.wrap ((r.st.length : Int) - 1) = (r.st.length : Int) - 1 := i64_in (by omega) (by omega)
  have u0 : ((0 : Int) ≤ o) = True := eq_true o0
  have u1 : (o < (L.length : Int)) = True := eq_true o1
  have v0 : ((0 : Int) ≤ (leg.length : Int) - 1) = True := eq_true (by omega)
  have v1 : ((leg.length : Int) - 1 < (leg.length : Int)) = True := eq_true (by omega)
  have v2 : ((leg.length : Int) - 1).toNat = leg.length - 1 := by omega
  have w0 : ((0 : Int) ≤ (r.st.length : Int) - 1) = True := eq_true (by omega)
  have w1 : ((r.st.length : Int) - 1 < (r.st.length : Int)) = True := eq_true (by omega)
  have w2 : ((r.st.length : Int) - 1).toNat = r.st.length - 1 := by omega
  simp only [go_sem, gD]
  refine drawn (by kernel_rfl) (by kernel_rfl) ?_
  simp only [go_sem, ew1, u0, u1, v0, v1, v2, hla, hlap, hro, hrop, Option.map_some, dRt, kDraw_eq, ew2, w0, w1, w2, hsl, hxp, dStp]

/-- A call that hands back a pointer to a new variable, which is taken over under the name of a slot of one's own. -/
theorem callX.adopt {P : Program} {k : Nat} {bs args args2 : List AV} {σ : AS} {dst : Option Nat} {K : AS → Prop} {R : AH → AV → Prop} (T : Nat) (h1 : rnAL (outF []) args = some args2) (h : QCall P k ⟨[], [], σ.m.nx, σ.m.lv⟩ args2 R)
    (hK : ∀ m' r, R m' r → m'.o = [] ∧ ∃ t g cs c0, r = .ptr (.own t g) 0 ∧ m'.cells (.own t g) = some cs ∧ rnCL (backF [] (some (.own t g)) (.own T (gnext σ.m T))) cs = some c0 ∧
      K (AS.put ⟨σ.s, ⟨AB.hset σ.m.h T (gnext σ.m T) c0, σ.m.o, m'.nx, m'.lv⟩⟩ dst (.ptr (.own T (gnext σ.m T)) 0))) : callX P k bs args σ dst K := by
  unfold callX
  refine .inr (.inr ?_)
  unfold effK
  refine ⟨[], args2, [], [], R, h1, rfl, rfl, fun i l hl => by simp at hl, h, fun m' r hr => ?_⟩
  obtain ⟨ho, t, g, cs, c0, rfl, k1, k2, k3⟩ := hK m' r hr
  refine ⟨some (.own t g), T, c0, [], .ptr (.own T (gnext σ.m T)) 0, by rw [ho]; rfl, rfl, ?_, ?_, k3⟩
  · rintro k hk
    cases hk
    exact ⟨⟨t, g, rfl⟩, cs, k1, k2⟩
  · simp only [rnV, rnA, rnC, backF, if_true]

def gC (n : Net) (tr : Int) (L : List Rt) (l : List DV) (tok : Tok) : List AV := nCells n ++ [.int .i64 tr, .sl 3 (L.map dRt) .no, .sl 1 l tok]
theorem gC_rn {f : AB.Loc → Option AB.Loc} {n : Net} {tr : Int} {L : List Rt} {l : List DV} {tok : Tok} : rnCL f (gC n tr L l tok) = some (gC n tr L l tok) := by
  simp only [gC, nCells, List.cons_append, List.nil_append, rnCL, rnC, port1]

set_option maxHeartbeats 4000000 in
set_option maxRecDepth 20000 in
theorem f52 (n : Net) (hb : NetB n) (he : netE n = 0) (tr : Int) (L : List Rt) (hL : L.length ≤ 1000) (hok : ∀ r ∈ L, RtOk n r) (nx : Nat) (lv : Nat → Prop) :
    QCall Tryz.prog 52 ⟨[], [], nx, lv⟩ [eNet n, .int .i64 tr, .sl 3 (L.map dRt) .no] (fun m r => m.o = [] ∧ r = .ptr (.own 14 0) 0 ∧ ∃ tok, AB.hget m.h 14 = some (0, gC n tr L ((L.map (needsR n)).map dNds) tok)) := by
  refine QCall.of_body Tryz.func52 rfl Tryz.ntmps52 (congrArg Array.toList Tryz.results52) ?_
  intro E
  have hNi : ∀ j r, L[j]? = some r → (L.map (needsR n))[j]? = some (needsR n r) := fun j r hj => by
    rw [List.getElem?_map, hj]; rfl
  have hNl : (L.map (needsR n)).length = L.length := List.length_map ..
  generalize hN : L.map (needsR n) = N at *
  simp only [go_sem, eNet, nCells]
  refine AW_loopH [9, 17, 18, 19, 20, 21, 22, 23, 24, 25, 26, 27, 28, 29, 30, 31, 32, 33]
    (fun (i : Nat) ρ m => ρ 17 = .int .i64 (i : Int) ∧ i ≤ L.length ∧ ∃ h nx lv tok, m = ⟨h, [], nx, lv⟩ ∧ AB.hget h 3 = some (0, [.sl 1 (n.names.map DV.str) .no, .sl 7 (n.sects.map dSect) .no, .sl 4 (n.links.map dLnk) .no, .sl 2 (n.sigs.map dPair) .no, .sl 2 (n.gates.map dPair) .no]) ∧ AB.hget h 14 = some (0, gC n tr L ((N.take i).map dNds) tok) ∧ okT m tok) (fun i => L.length - i) 0 ?_ ?_
  · simp only [go_sem]
    exact ⟨Nat.zero_le _, _, _, _, .nil, rfl, by simp [go_sem], by simp [go_sem, gC, nCells], trivial⟩
  rintro i ρ m ⟨e17, g1, h, nx, lv, tok, rfl, b3, b14, hokt⟩ Q hN' hR hX
  by_cases hlt : i < L.length
  · obtain ⟨x, hx⟩ : ∃ x, L[i]? = some x := ⟨_, List.getElem?_eq_getElem hlt⟩
    have hxp : (L.map dRt)[i]? = some (dRt x) := by rw [List.getElem?_map, hx]; rfl
    have hlt' : ((i : Int) < (L.length : Int)) = True := by simp; omega
    have h0 : ((0 : Int) ≤ (i : Int)) = True := by simp
    have ew : IntKind.i64.wrap ((i : Int) + 1) = (i : Int) + 1 := i64_in (by omega) (by omega)
    have h86 := f57 n hb he x (hok x (List.mem_of_getElem? hx))
    unfold eRt0 at h86
    have htk : N.take (i + 1) = N.take i ++ [needsR n x] := by rw [List.take_add_one, hNi i x hx]; rfl
    have hlen : (N.take i).length = i := by simp; omega
    obtain ⟨g9, hg9⟩ : ∃ g9, genO (AB.hget h 9) = g9 := ⟨_, rfl⟩
    simp only [go_sem, e17, hlt', h0, hx, hxp, Option.map_some, dRt, hg9]
    refine drawnP [2, 2, 2, 2, 2, 2, 2, 2, 3, 1, 1, 1, 1] [(8, [2, 2, 2, 2, 2, 0, 0, 0, 0, 3, 1, 1, 1]), (9, [2, 0, 0, 0, 0, 0, 0, 0, 0, 0, 2, 2, 3]), (12, [0, 0, 0, 0, 0, 0, 0, 0, 0, 0, 0, 0, 0])] 35 (by kernel_rfl) (by kernel_rfl) (by kernel_rfl) (by kernel_rfl) rfl ?_
    simp only [go_sem, b3, b14, gC, nCells, List.cons_append, List.nil_append]
    refine quietD h86 (fun _ => rfl) ?_
    simp only [go_sem, b3, b14, gC, nCells, List.cons_append, List.nil_append]
    intro nx1 lv1 hn1 hl1 nx2 lv2 hn2 hl2
    refine ⟨okT_mono hokt fun j z => hl2 j (.inr (hl1 j z)), by omega, ?_⟩
    intro nx3 lv3 hn3 hl3 nx4 lv4 hn4 hl4
    have hnw : (N.take i).map dNds ++ [DV.sl 4 ((needsR n x).map dNd)] = (N.take (i + 1)).map dNds := by rw [htk]; simp [dNds]
    rw [hnw, hN']
    simp only [go_sem, ew]
    refine ⟨by kernel_rfl, i + 1, ?_, by simp only; omega⟩
    simp only [go_sem]
    exact ⟨by simp, by omega, _, _, _, .own nx2, rfl, by simp [go_sem, b3], by simp [go_sem, gC, nCells], hl4 _ (hl3 _ (.inl rfl))⟩
  · have hlt' : ((i : Int) < (L.length : Int)) = False := by simp; omega
    rw [List.take_of_length_le (by omega)] at b14
    simp only [go_sem, e17, hlt', hX]
    first | exact ⟨tok, b14⟩ | exact ⟨rfl, rfl, tok, b14⟩

/-- The error of a leg's i-th route. -/
def legI (n : Net) (L : List Rt) (tr : Int) (leg : List Int) (i : Nat) : Int := legE n L (L.map (needsR n)) tr (leg.take i) (leg.getD i 0)
def legV (n : Net) (L : List Rt) (tr : Int) (leg : List Int) : Int :=
  if pltF n tr = false then 3 else if 4 < leg.length then 4 else if leg.length = 0 then 1
  else if firstE (legI n L tr leg) leg.length 0 ≠ 0 then firstE (legI n L tr leg) leg.length 0
  else if pltF n (lastS L leg) = false then 5 else 0
theorem legE_ok {n : Net} {L : List Rt} {N : List (List Nd)} {tr : Int} {leg : List Int} {k : Int} (h : legE n L N tr leg k = 0) : okR L k = true := by
  unfold legE at h
  split at h
  · cases h
  · rename_i h1; simpa using h1

set_option maxHeartbeats 4000000 in
set_option maxRecDepth 20000 in
theorem f19 (n : Net) (hb : NetB n) (tr : Int) (leg : List Int) (hlb : leg.length ≤ 140737488351232) : PCall Tryz.prog 19 [eNet n, .int .i64 tr, .sl 1 (leg.map fun x => DV.int .i64 x) .no] (RV (.int .i64 (if netRE n = 0 then legV n (netRts n) tr leg else netRE n))) := by
  refine PCall.of_body Tryz.func19 rfl Tryz.ntmps19 (congrArg Array.toList Tryz.results19) ?_
  intro E
  have h31 := f20 n hb
  have hL := netRts_len n
  change PCall Tryz.prog 20 [eNet n] (RV (rtV (netRts n) (netRE n))) at h31
  have hok := netRts_ok n
  have hz := @netRE_zero n
  generalize netRts n = L at *
  generalize netRE n = e at *
  unfold rtV at h31
  simp only [go_sem, eNet, nCells]
  refine callV h31 ?_
  intro nx lv
  by_cases q : e = 0
  rotate_left
  · have q' : (e = 0) = False := eq_false q
    simp only [go_sem, q', if_false]
  have he := hz q
  subst q
  have h91 := fun s => f51 n hb s
  unfold eNet nCells at h91
  simp only [go_sem, if_true]
  refine callV (h91 tr) ?_
  intro nx2 lv2
  generalize hF : legV n L tr leg = F
  unfold legV at hF
  cases p1 : pltF n tr with
  | false =>
    rw [if_pos p1] at hF
    subst hF
    simp only [go_sem, p1]
  | true =>
    rw [if_neg (by simp [p1])] at hF
    by_cases p2 : 4 < leg.length
    · have p2' : ((4 : Int) < (leg.length : Int)) = True := eq_true (by omega)
      rw [if_pos p2] at hF
      subst hF
      simp only [go_sem, p1, p2']
    have p2' : ((4 : Int) < (leg.length : Int)) = False := eq_false (by omega)
    rw [if_neg p2] at hF
    by_cases p3 : leg.length = 0
    · have p3' : ((leg.length : Int) = 0) = True := eq_true (by omega)
      rw [if_pos p3] at hF
      subst hF
      simp only [go_sem, p1, p2', p3']
    have p3' : ((leg.length : Int) = 0) = False := eq_false (by omega)
    rw [if_neg p3] at hF
    simp only [go_sem, p1, p2', p3']
    refine callX.adopt 37 rfl (f52 n hb he tr L hL hok nx2 lv2) ?_
    rintro m' r ⟨ho, rfl, tok, b14⟩
    refine ⟨ho, 14, 0, gC n tr L ((L.map (needsR n)).map dNds) tok, gC n tr L ((L.map (needsR n)).map dNds) tok, rfl, ?_, gC_rn, ?_⟩
    · simp only [AH.cells, b14, if_true]
    simp only [go_sem]
    have h93 := fun lg hlg hj k => f53 n hb he tr L hL hok lg hlg hj k
    have h94 := f54 n tr L (L.map (needsR n)) hok leg (by omega) (by omega)
    have hli : ∀ i, legI n L tr leg i = legE n L (L.map (needsR n)) tr (leg.take i) (leg.getD i 0) := fun _ => rfl
    generalize hN : L.map (needsR n) = N at *
    refine AW_loopH [6, 10, 11, 12, 40, 41, 42, 43, 44, 45, 46, 47, 48, 49, 50, 51, 52, 53, 54]
      (fun (i : Nat) ρ m => ρ 40 = .int .i64 (i : Int) ∧ i ≤ leg.length ∧ firstE (legI n L tr leg) (leg.length - i) i = firstE (legI n L tr leg) leg.length 0 ∧ (∀ j ∈ leg.take i, okR L j = true) ∧ ∃ h nx lv, m = ⟨h, [], nx, lv⟩ ∧
        AB.hget h 3 = some (0, [.sl 1 (n.names.map DV.str) .no, .sl 7 (n.sects.map dSect) .no, .sl 4 (n.links.map dLnk) .no, .sl 2 (n.sigs.map dPair) .no, .sl 2 (n.gates.map dPair) .no]) ∧ AB.hget h 37 = some (0, gC n tr L (N.map dNds) tok)) (fun i => leg.length - i) 0 ?_ ?_
    · simp only [go_sem]
      refine ⟨Nat.zero_le _, rfl, by simp, _, _, _, rfl, by simp [go_sem], by simp [go_sem]⟩
    rintro i ρ m ⟨e40, g1, g2, g3, h, nx3, lv3, rfl, b3, b37⟩ Q hN' hR hX
    by_cases hlt : i < leg.length
    · obtain ⟨k, hk⟩ : ∃ x, leg[i]? = some x := ⟨_, List.getElem?_eq_getElem hlt⟩
      have hkp : (leg.map fun x => DV.int .i64 x)[i]? = some (.int .i64 k) := by rw [List.getElem?_map, hk]; rfl
      have hlt' : ((i : Int) < (leg.length : Int)) = True := by simp; omega
      have h0 : ((0 : Int) ≤ (i : Int)) = True := by simp
      have ew : IntKind.i64.wrap ((i : Int) + 1) = (i : Int) + 1 := i64_in (by omega) (by omega)
      have hgk : leg.getD i 0 = k := by rw [List.getD_eq_getElem?_getD, hk]; rfl
      have hlk := hli i
      rw [hgk] at hlk
      have hcut : (leg.take i).map (fun x => DV.int .i64 x) = List.take (i - 0) (List.map (fun x => DV.int .i64 x) leg) := by simp [List.map_take]
      have h93' := h93 (leg.take i) (by simp; omega) g3 k
      rw [hcut] at h93'
      simp only [gD] at h93'
      simp only [go_sem, e40, hlt', h0, hk, hkp, Option.map_some, b37, gC, nCells, List.cons_append, List.nil_append]
      refine ⟨Nat.zero_le _, by omega, .inl (quiet h93' rfl ?_)⟩
      by_cases w : legE n L N tr (leg.take i) k = 0
      · have w' : (legE n L N tr (leg.take i) k = 0) = True := eq_true w
        rw [w] at hlk
        simp only [go_sem, w', hN', ew]
        refine ⟨by kernel_rfl, i + 1, ?_, by simp only; omega⟩
        simp only [go_sem]
        refine ⟨by simp, by omega, firstE_go hlt hlk g2, fun j hj => ?_, _, _, _, rfl, b3, b37⟩
        rw [List.take_add_one, hk] at hj
        simp only [Option.toList_some, List.mem_append, List.mem_singleton] at hj
        rcases hj with hj | rfl
        · exact g3 j hj
        · exact legE_ok w
      · have w' : (legE n L N tr (leg.take i) k = 0) = False := eq_false w
        have hit := firstE_hit hlt hlk w g2
        rw [if_pos (by rw [hit]; exact w), hit] at hF
        subst hF
        simp only [go_sem, w', hR]
    · have hlt' : ((i : Int) < (leg.length : Int)) = False := by simp; omega
      rw [firstE_end hlt] at g2
      rw [List.take_of_length_le (by omega)] at g3
      rw [if_neg (by rw [← g2]; simp)] at hF
      have h94' := h94 g3
      simp only [gD] at h94'
      simp only [go_sem, e40, hlt', hX]
      refine drawn (by kernel_rfl) (by kernel_rfl) ?_
      simp only [go_sem, b3, b37, gC, nCells, List.cons_append, List.nil_append]
      refine quiet h94' rfl ?_
      simp only [go_sem]
      refine quietD (h91 (lastS L leg)) (fun _ => rfl) ?_
      cases w : pltF n (lastS L leg) with
      | true =>
        rw [if_neg (by simp [w])] at hF
        subst hF
        simp only [go_sem, w, kDraw_eq]
        try exact fun _ _ _ _ => rfl
      | false =>
        rw [if_pos w] at hF
        subst hF
        simp only [go_sem, w, kDraw_eq]
        try exact fun _ _ _ _ => rfl
end Go.Proofs.YteadhjclchjfjaaGreat
