/- Legs: what one route more may come to; the program's functions that look for it. -/
import Derived.Test.YteadhjclchjfjaaL35
namespace Go.Proofs.Yteadhjclchjfjaa
set_option linter.unusedSimpArgs false
set_option linter.unusedVariables false
open Go.AB

def ndAt (N : List (List Nd)) (j : Int) : List Nd := N.getD j.toNat []
def legP (L : List Rt) (leg : List Int) (s : Int) : Bool := leg.any fun j => psec (rtAt L j).st s
def legM (N : List (List Nd)) (leg : List Int) (k : Int) : Bool := leg.any fun j => (ndAt N j).any fun x => !decide (x.k = 2) && anyM [x] (ndAt N k)
def legO (n : Net) (L : List Rt) (tr : Int) (leg : List Int) (r : Rt) : Bool := if leg.length = 0 then !decide (homeF n r.fr = tr) else !decide (r.fr = (rtAt L (leg.getD (leg.length - 1) 0)).to)
/-- The error of one route more of a leg. -/
def legE (n : Net) (L : List Rt) (N : List (List Nd)) (tr : Int) (leg : List Int) (k : Int) : Int :=
  if okR L k = false then 3
  else if legO n L tr leg (rtAt L k) = true then 5
  else if ((rtAt L k).st.any fun x => decide (x.s = tr) || legP L leg x.s) = true then 6
  else if legM N leg k = true then 8
  else if psec (lapF n (rtAt L k)) tr = true then 8 else 0

/-- What a leg's checker holds. -/
def gD (n : Net) (tr : Int) (L : List Rt) (N : List (List Nd)) : List DV := [.sl 1 (n.names.map DV.str), .sl 7 (n.sects.map dSect), .sl 4 (n.links.map dLnk), .sl 2 (n.sigs.map dPair), .sl 2 (n.gates.map dPair), .int .i64 tr, .sl 3 (L.map dRt), .sl 1 (N.map dNds)]

theorem okR_at {L : List Rt} {k : Int} (h : okR L k = true) : 0 ≤ k ∧ k < L.length ∧ L[k.toNat]? = some (rtAt L k) := by
  obtain ⟨h0, h1, r, hr⟩ := okR_get h
  exact ⟨h0, h1, by simp [rtAt, hr]⟩

set_option maxHeartbeats 1000000 in
theorem f125 (n : Net) (tr : Int) (L : List Rt) (N : List (List Nd)) (hst : ∀ r ∈ L, r.st.length ≤ 1000) (j : Int) (hj : okR L j = true) (x : Stp) (nx : Nat) (lv : Nat → Prop) :
    QCall Try.prog 125 ⟨[], [[.ept (gD n tr L N)], [.int .i64 x.s, .int .i64 x.i, .int .i64 x.o]], nx, lv⟩ [.int .i64 j, .ptr (.out 0) 0, .ptr (.out 1) 0]
      (RQ nx lv [[.ept (gD n tr L N)], [.int .i64 x.s, .int .i64 x.i, .int .i64 x.o]] (.bool (psec (rtAt L j).st x.s))) := by
  refine QCall.of_body Try.func125 rfl Try.ntmps125 (congrArg Array.toList Try.results125) ?_
  intro E
  obtain ⟨h0, h1, h2⟩ := okR_at hj
  have h3 := hst _ (List.mem_of_getElem? h2)
  generalize rtAt L j = r at *
  have hrp : (L.map dRt)[j.toNat]? = some (dRt r) := by rw [List.getElem?_map, h2]; rfl
  have i0 : ((0 : Int) ≤ j) = True := eq_true h0
  have i1 : (j < (L.length : Int)) = True := eq_true h1
  simp only [go_sem]
  refine drawn (by kernel_rfl) (by kernel_rfl) ?_
  simp only [go_sem, gD, i0, i1, h2, hrp, Option.map_some, dRt]
  refine quietD (f123 r.st x.s (by omega)) (fun _ => rfl) ?_
  simp only [go_sem, kDraw_eq]
  exact fun nx2 lv2 hn hl => ⟨rfl, rfl, hn, hl⟩

/-- The place of a route that has a section. -/
def idxL' (L : List Rt) (s : Int) : List Int → Int → Int
  | [], _ => -1
  | j :: l, i => if psec (rtAt L j).st s = true then i else idxL' L s l (i + 1)
theorem idxL'_iff {L : List Rt} {s : Int} : ∀ {l : List Int} {i : Int}, 0 ≤ i → (0 ≤ idxL' L s l i ↔ legP L l s = true)
  | [], i, _ => by simp [idxL', legP]
  | j :: l, i, h => by
    have ih := idxL'_iff (L := L) (s := s) (l := l) (i := i + 1) (by omega)
    simp only [idxL', legP, List.any_cons] at ih ⊢
    cases hx : psec (rtAt L j).st s with
    | true => simp [h]
    | false => simpa using ih

set_option maxHeartbeats 1000000 in
set_option maxRecDepth 20000 in
theorem f143 (n : Net) (tr : Int) (L : List Rt) (N : List (List Nd)) (hst : ∀ r ∈ L, r.st.length ≤ 1000) (leg : List Int) (hleg : leg.length ≤ 1000) (hj : ∀ j ∈ leg, okR L j = true) (x : Stp) (nx : Nat) (lv : Nat → Prop) :
    QCall Try.prog 143 ⟨[], [[.ept (gD n tr L N)], [.int .i64 x.s, .int .i64 x.i, .int .i64 x.o]], nx, lv⟩ [.sl 1 (leg.map fun x => DV.int .i64 x) .no, .fn 125 [.ptr (.out 0) 0, .ptr (.out 1) 0]]
      (RQ nx lv [[.ept (gD n tr L N)], [.int .i64 x.s, .int .i64 x.i, .int .i64 x.o]] (.int .i64 (idxL' L x.s leg 0))) := by
  refine QCall.of_body Try.func143 rfl Try.ntmps143 (congrArg Array.toList Try.results143) ?_
  intro E
  simp only [go_sem]
  refine AW_loopH [4, 5, 8, 9, 10, 11, 12, 13, 14, 15, 16, 17, 18]
    (fun (i : Nat) ρ m => ρ 8 = .int .i64 (i : Int) ∧ i ≤ leg.length ∧ idxL' L x.s (leg.drop i) i = idxL' L x.s leg 0 ∧ ∃ h nx' lv', m = ⟨h, [[.ept (gD n tr L N)], [.int .i64 x.s, .int .i64 x.i, .int .i64 x.o]], nx', lv'⟩ ∧ nx ≤ nx' ∧ ∀ j, lv j → lv' j) (fun i => leg.length - i) 0 ?_ ?_
  · simp only [go_sem]
    first | exact ⟨Nat.zero_le _, _, _, _, rfl, Nat.le_refl _, fun _ z => z⟩ | exact ⟨Nat.zero_le _, rfl, _, _, _, rfl, Nat.le_refl _, fun _ z => z⟩
  rintro i ρ m ⟨e1, g1, g2, h, nx', lv', rfl, hn, hl⟩ Q hN hR hX
  by_cases hlt : i < leg.length
  · obtain ⟨j, hjx⟩ : ∃ x, leg[i]? = some x := ⟨_, List.getElem?_eq_getElem hlt⟩
    have hxp : (leg.map fun x => DV.int .i64 x)[i]? = some (.int .i64 j) := by rw [List.getElem?_map, hjx]; rfl
    have hlt' : ((i : Int) < (leg.length : Int)) = True := by simp; omega
    have h0 : ((0 : Int) ≤ (i : Int)) = True := by simp
    have ew : IntKind.i64.wrap ((i : Int) + 1) = (i : Int) + 1 := i64_in (by omega) (by omega)
    have hd : leg.drop i = j :: leg.drop (i + 1) := by
      rw [List.drop_eq_getElem_cons hlt]
      rw [List.getElem?_eq_getElem hlt] at hjx
      cases hjx; rfl
    rw [hd] at g2
    simp only [idxL'] at g2
    simp only [go_sem, e1, hlt', h0, hxp, hjx, Option.map_some]
    refine .inr (effV (ls := [.out 0, .out 1]) rfl rfl rfl (.two (by decide)) (f125 n tr L N hst j (hj j (List.mem_of_getElem? hjx)) x nx' lv') rfl rfl rfl ?_)
    intro nx2 lv2 hn2 hl2
    cases w : psec (rtAt L j).st x.s with
    | true =>
      rw [if_pos w] at g2
      simp only [go_sem, w, hR, AH.setAll]
      exact ⟨by rw [g2], rfl, Nat.le_trans hn hn2, fun j z => hl2 j (hl j z)⟩
    | false =>
      rw [if_neg (by simp [w])] at g2
      simp only [go_sem, w, hN, ew, AH.setAll]
      refine ⟨by kernel_rfl, i + 1, ?_, by simp only; omega⟩
      simp only [go_sem]
      exact ⟨by simp, by omega, by rw [← g2]; rfl, _, _, _, rfl, Nat.le_trans hn hn2, fun j z => hl2 j (hl j z)⟩
  · have hlt' : ((i : Int) < (leg.length : Int)) = False := by simp; omega
    rw [List.drop_eq_nil_of_le (by omega)] at g2
    simp only [idxL'] at g2
    simp only [go_sem, e1, hlt', hX]
    exact ⟨by rw [g2], rfl, hn, hl⟩

theorem f124 (n : Net) (tr : Int) (L : List Rt) (N : List (List Nd)) (hst : ∀ r ∈ L, r.st.length ≤ 1000) (leg : List Int) (hleg : leg.length ≤ 1000) (hj : ∀ j ∈ leg, okR L j = true) (x : Stp) (nx : Nat) (lv : Nat → Prop) :
    QCall Try.prog 124 ⟨[], [[.ept (gD n tr L N)], [.int .i64 x.s, .int .i64 x.i, .int .i64 x.o]], nx, lv⟩ [.sl 1 (leg.map fun x => DV.int .i64 x) .no, .fn 125 [.ptr (.out 0) 0, .ptr (.out 1) 0]]
      (RQ nx lv [[.ept (gD n tr L N)], [.int .i64 x.s, .int .i64 x.i, .int .i64 x.o]] (.bool (legP L leg x.s))) := by
  refine QCall.of_body Try.func124 rfl Try.ntmps124 (congrArg Array.toList Try.results124) ?_
  intro E
  simp only [go_sem]
  refine .inr (effV (ls := [.out 0, .out 1]) rfl rfl rfl (.two (by decide)) (f143 n tr L N hst leg hleg hj x nx lv) rfl rfl rfl ?_)
  intro nx2 lv2 hn2 hl2
  have := idxL'_iff (L := L) (s := x.s) (l := leg) (i := 0) (Int.le_refl 0)
  simp only [go_sem, AH.setAll]
  refine ⟨?_, rfl, hn2, hl2⟩
  cases hh : legP L leg x.s <;> simp [hh] at this ⊢ <;> omega
end Go.Proofs.Yteadhjclchjfjaa
