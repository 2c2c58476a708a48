/- Paths: CheckPath of the program, and what it calls. -/
import Derived.Test.YteadhjclchjfjaaL4
namespace Go.Proofs.Yteadhjclchjfjaa
set_option linter.unusedSimpArgs false
set_option linter.unusedVariables false
open Go.AB

/-- The place of a number in a list. -/
def idxI : List Int → Int → Int → Int
  | [], _, _ => -1
  | x :: l, s, i => if s = x then i else idxI l s (i + 1)
theorem idxI_iff : ∀ {l : List Int} {s : Int} {i : Int}, 0 ≤ i → (0 ≤ idxI l s i ↔ s ∈ l)
  | [], s, i, _ => by simp [idxI]
  | x :: l, s, i, h => by
    unfold idxI
    by_cases hx : s = x
    · simp [hx, h]
    · simp [hx, idxI_iff (l := l) (s := s) (i := i + 1) (by omega)]

set_option maxRecDepth 20000 in
theorem f108 (l : List Int) (s : Int) (hl : l.length ≤ 140737488351232) : PCall Try.prog 108 [lInts l, .int .i64 s] (RV (.int .i64 (idxI l s 0))) := by
  refine PCall.of_body Try.func108 rfl Try.ntmps108 (congrArg Array.toList Try.results108) ?_
  intro E
  simp only [go_sem, lInts]
  refine AW_loopH [4, 5, 8, 9, 10, 11, 12, 13, 14, 15, 16, 17, 18]
    (fun (i : Nat) ρ m => ρ 8 = .int .i64 (i : Int) ∧ i ≤ l.length ∧ idxI (l.drop i) s i = idxI l s 0 ∧ ∃ h nx lv, m = ⟨h, [], nx, lv⟩) (fun i => l.length - i) 0 ?_ ?_
  · simp [go_sem]
  · rintro i ρ m ⟨e1, g1, g2, h, nx, lv, rfl⟩ Q hN hR hX
    by_cases hlt : i < l.length
    · obtain ⟨x, hx⟩ : ∃ x, l[i]? = some x := ⟨_, List.getElem?_eq_getElem hlt⟩
      have hp : (l.map fun x => DV.int .i64 x)[i]? = some (.int .i64 x) := by rw [List.getElem?_map, hx]; rfl
      have hlt' : ((i : Int) < (l.length : Int)) = True := by simp; omega
      have h0 : ((0 : Int) ≤ (i : Int)) = True := by simp
      have ew : IntKind.i64.wrap ((i : Int) + 1) = (i : Int) + 1 := i64_in (by omega) (by omega)
      have hd : l.drop i = x :: l.drop (i + 1) := by
        rw [List.drop_eq_getElem_cons hlt]
        rw [List.getElem?_eq_getElem hlt] at hx
        cases hx; rfl
      rw [hd] at g2
      simp only [idxI] at g2
      by_cases q : s = x
      · rw [if_pos q] at g2
        have q' : (s = x) = True := eq_true q
        simp only [go_sem, e1, hlt', h0, hp, q', hR]
        exact g2
      · rw [if_neg q] at g2
        have q' : (s = x) = False := eq_false q
        simp only [go_sem, e1, hlt', h0, hp, q', hN, ew]
        refine ⟨by kernel_rfl, i + 1, ?_, by simp only; omega⟩
        simp only [go_sem]
        exact ⟨by simp, by omega, by rw [← g2]; rfl, _, _, _, rfl⟩
    · have hlt' : ((i : Int) < (l.length : Int)) = False := by simp; omega
      rw [List.drop_eq_nil_of_le (by omega)] at g2
      simp only [idxI] at g2
      simp only [go_sem, e1, hlt', hX]
      exact g2

theorem f73 (l : List Int) (s : Int) (hl : l.length ≤ 140737488351232) : PCall Try.prog 73 [lInts l, .int .i64 s] (RV (.bool (decide (s ∈ l)))) := by
  refine PCall.of_body Try.func73 rfl Try.ntmps73 (congrArg Array.toList Try.results73) ?_
  intro E
  simp only [go_sem, lInts]
  refine callV (f108 l s hl) ?_
  intro nx lv
  have := idxI_iff (l := l) (s := s) (i := 0) (Int.le_refl 0)
  simp only [go_sem]
  simp [this]

def psec (L : List Stp) (s : Int) : Bool := L.any fun x => decide (x.s = s)
/-- The error of a step of a path. -/
def stepE (n : Net) (p : List Stp) (i : Nat) : Int := match p[i]? with
  | none => 0
  | some x => if hasF n x.s x.i = false ∨ hasF n x.s x.o = false then 3
    else if decide (x.o ∈ outsF (kindAt n x.s) x.i) = false then 1
    else if 0 < i ∧ joinL n.links (((p[i - 1]?).map Stp.s).getD 0) (((p[i - 1]?).map Stp.o).getD 0) ≠ some (x.s, x.i) then 5
    else if psec (p.take i) x.s = true then 6 else 0
def pathE (n : Net) (p : List Stp) : Int := if 60 < p.length then 4 else firstE (stepE n p) p.length 0
def checkP (n : Net) (p : List Stp) : Int := if netE n ≠ 0 then netE n else pathE n p

def seenP (L : List Stp) (ks vs : List AV) : Prop := ks.all (keyA Try.prog 3) = true ∧ ∀ s, mget ks vs (.int .i64 s) = if psec L s = true then some (.bool true) else none
theorem key_int (s : Int) : keyA Try.prog 3 (.int .i64 s) = true := by simp only [go_sem]
theorem seenP_step {L : List Stp} {x : Stp} {ks vs : List AV} (h : seenP L ks vs) :
    seenP (L ++ [x]) (mset ks vs (.int .i64 x.s) (.bool true)).1 (mset ks vs (.int .i64 x.s) (.bool true)).2 := by
  refine ⟨mset_keys h.1 (key_int _), fun s => ?_⟩
  rw [mget_mset, h.2]
  simp only [AV.int.injEq, true_and]
  unfold psec
  simp only [List.any_append, List.any_cons, List.any_nil, Bool.or_false, Bool.or_eq_true, decide_eq_true_eq]
  by_cases h1 : x.s = s <;> simp [h1]
theorem outsF_len (k e : Int) : (outsF k e).length ≤ 2 := by unfold outsF; split; simp; split <;> simp

theorem gate_seenP {L : List Stp} {ks vs : List AV} (h : seenP L ks vs) (s : Int) : (psec L s = true ∧ mget ks vs (.int .i64 s) = some (.bool true)) ∨ (psec L s = false ∧ mget ks vs (.int .i64 s) = none) := by
  have := h.2 s
  cases hh : psec L s with
  | true => rw [hh] at this; exact .inl ⟨rfl, by simpa using this⟩
  | false => rw [hh] at this; exact .inr ⟨rfl, by simpa using this⟩
theorem join_iff (j : Option (Int × Int)) (s e : Int) : j = some (s, e) ↔ j.isSome = true ∧ joinS j = s ∧ joinE j = e := by
  cases j with
  | none => simp
  | some q => obtain ⟨a, b⟩ := q; simp [joinS, joinE]

set_option maxHeartbeats 4000000 in
set_option maxRecDepth 20000 in
theorem f24 (n : Net) (p : List Stp) (hb : NetB n) (hp : p.length ≤ 5864062014634) : PCall Try.prog 24 [eNet n, .sl 3 (p.map dStp) .no] (RV (.int .i64 (checkP n p))) := by
  refine PCall.of_body Try.func24 rfl Try.ntmps24 (congrArg Array.toList Try.results24) ?_
  intro E
  have hsc := hb.sc
  simp only [go_sem, eNet, nCells]
  refine callV (f55 n hb) ?_
  intro nx lv
  by_cases q0 : netE n = 0
  rotate_left
  · have e : checkP n p = netE n := by simp [checkP, q0]
    simp only [go_sem, q0, e]
  have e : checkP n p = pathE n p := by simp [checkP, q0]
  rw [e]
  by_cases q1 : 60 < p.length
  · have q1' : ((60 : Int) < (p.length : Int)) = True := by simp; omega
    simp only [go_sem, q0, q1']
    simp [pathE, q1]
  have q1' : ((60 : Int) < (p.length : Int)) = False := by simp; omega
  have e2 : pathE n p = firstE (stepE n p) p.length 0 := by simp [pathE, q1]
  simp only [go_sem, q0, q1']
  refine AW_loopH [4, 7, 8, 9, 10, 11, 23, 24, 25, 26, 27, 28, 29, 30, 31, 32, 33, 34, 35, 36, 37, 38, 39, 40, 41, 42, 43, 44, 45, 46, 47, 48, 49, 50, 51, 52, 53, 54, 55, 56, 57, 58, 59, 60, 61, 62, 63, 64, 65, 66, 67, 68, 69, 70, 71, 72, 73, 74, 75, 76, 77, 78, 79, 80, 81, 82, 83, 84, 85, 86, 87, 88, 89, 90, 91, 92, 93, 94, 95, 96, 97]
    (fun (i : Nat) ρ m => ρ 23 = .int .i64 (i : Int) ∧ i ≤ p.length ∧ firstE (stepE n p) (p.length - i) i = pathE n p ∧
      ∃ h nx lv ks vs, m = ⟨h, [], nx, lv⟩ ∧ AB.hget h 2 = some (0, nCells n) ∧ AB.hget h 20 = some (0, [.mapc ks vs]) ∧ seenP (p.take i) ks vs) (fun i => p.length - i) 0 ?_ ?_
  · simp only [go_sem]
    refine ⟨Nat.zero_le _, e2.symm, _, _, _, [], [], rfl, by simp [go_sem, nCells], by simp [go_sem], rfl, fun s => ?_⟩
    simp [mget, psec]
  rintro i ρ m ⟨e1, g1, g2, h, nx, lv, ks, vs, rfl, hb2, hb20, hs⟩ Q hN hR hX
  simp only [nCells] at hb2
  by_cases hlt : i < p.length
  rotate_left
  · have hlt' : ((i : Int) < (p.length : Int)) = False := by simp; omega
    rw [firstE_end hlt] at g2
    simp only [go_sem, e1, hlt', hX]
    exact g2
  obtain ⟨x, hx⟩ : ∃ x, p[i]? = some x := ⟨_, List.getElem?_eq_getElem hlt⟩
  have hxp : (p.map dStp)[i]? = some (dStp x) := by rw [List.getElem?_map, hx]; rfl
  have hlt' : ((i : Int) < (p.length : Int)) = True := by simp; omega
  have h0 : ((0 : Int) ≤ (i : Int)) = True := by simp
  have ew : IntKind.i64.wrap ((i : Int) + 1) = (i : Int) + 1 := i64_in (by omega) (by omega)
  have hge : stepE n p i = if hasF n x.s x.i = false ∨ hasF n x.s x.o = false then 3
    else if decide (x.o ∈ outsF (kindAt n x.s) x.i) = false then 1
    else if 0 < i ∧ joinL n.links (((p[i - 1]?).map Stp.s).getD 0) (((p[i - 1]?).map Stp.o).getD 0) ≠ some (x.s, x.i) then 5
    else if psec (p.take i) x.s = true then 6 else 0 := by simp [stepE, hx]
  have hit : ∀ v : Int, v ≠ 0 → stepE n p i = v → v = pathE n p := fun v hv hh => (firstE_hit hlt hh hv g2).symm
  have htk : p.take (i + 1) = p.take i ++ [x] := by rw [List.take_add_one, hx]; rfl
  have hst := seenP_step (x := x) hs
  rw [← htk] at hst
  simp only [go_sem, e1, hlt', h0, hxp, dStp, hb2]
  generalize genO (AB.hget h 8) = G8
  refine callV (f72 n x.s x.i hb) ?_
  intro nx2 lv2
  by_cases a1 : hasF n x.s x.i = true
  rotate_left
  · have a1 : hasF n x.s x.i = false := by simpa using a1
    simp only [go_sem, a1, hR]
    exact hit 3 (by decide) (by rw [hge]; simp [a1])
  simp only [go_sem, a1, hb2]
  refine callV (f72 n x.s x.o hb) ?_
  intro nx3 lv3
  by_cases a2 : hasF n x.s x.o = true
  rotate_left
  · have a2 : hasF n x.s x.o = false := by simpa using a2
    simp only [go_sem, a2, hR]
    exact hit 3 (by decide) (by rw [hge]; simp [a2])
  obtain ⟨b1, b2⟩ := hasF_iff.1 a1
  obtain ⟨c, hc⟩ : ∃ c, n.sects[x.s.toNat]? = some c := ⟨_, List.getElem?_eq_getElem (by omega)⟩
  have hcp : (n.sects.map dSect)[x.s.toNat]? = some (dSect c) := by rw [List.getElem?_map, hc]; rfl
  have hcp2 : Option.map dSect n.sects[x.s.toNat]? = some (dSect c) := by rw [hc]; rfl
  have hk : kindAt n x.s = c.kind := by simp [kindAt, hc]
  have h0s : (0 ≤ x.s) = True := by simp; omega
  simp only [go_sem, a2]
  refine drawn (by kernel_rfl) (by kernel_rfl) ?_
  simp only [go_sem, hb2, hcp, hcp2, h0s, dSect]
  have hol := outsF_len c.kind x.i
  refine quietD (f60 c.kind x.i) (fun _ => rfl) ?_
  simp only [go_sem, lInts]
  refine quietD (f73 (outsF c.kind x.i) x.o (by omega)) (fun _ => rfl) ?_
  by_cases a3 : decide (x.o ∈ outsF c.kind x.i) = true
  rotate_left
  · have a3 : decide (x.o ∈ outsF c.kind x.i) = false := by simpa using a3
    simp only [go_sem, a3, hR]
    intro nx4 lv4 _ _
    exact hit 1 (by decide) (by rw [hge, hk]; simp only [a1, a2, a3]; simp)
  by_cases a4 : 0 < i
  · have a4' : ((0 : Int) < (i : Int)) = True := by simp; omega
    obtain ⟨r, hr⟩ : ∃ r, p[i - 1]? = some r := ⟨_, List.getElem?_eq_getElem (by omega)⟩
    have hrp : (p.map dStp)[i - 1]? = some (dStp r) := by rw [List.getElem?_map, hr]; rfl
    have ei : ((i : Int) - 1).toNat = i - 1 := by omega
    have ew2 : IntKind.i64.wrap ((i : Int) - 1) = (i : Int) - 1 := i64_in (by omega) (by omega)
    have hi1 : (0 ≤ (i : Int) - 1) = True := by simp; omega
    have hi2 : ((i : Int) - 1 < (p.length : Int)) = True := by simp; omega
    simp only [go_sem, a3, a4', ew2, ei, hrp, dStp, hi1, hi2]
    intro nx4 lv4 _ _
    generalize genO (AB.hget h 9) = G9
    simp only [go_sem, hb2]
    refine callV (f59 n r.s r.o hb) ?_
    intro nx5 lv5
    have hji := join_iff (joinL n.links r.s r.o) x.s x.i
    by_cases a5 : (joinL n.links r.s r.o).isSome = true
    rotate_left
    · have a5' : (joinL n.links r.s r.o).isSome = false := by simpa using a5
      have a6 : joinL n.links r.s r.o ≠ some (x.s, x.i) := fun e => a5 (hji.1 e).1
      simp only [go_sem, a5', hR]
      exact hit 5 (by decide) (by rw [hge, hk]; simp only [a1, a2, a3]; simp [a4, hr, a6])
    by_cases a7 : joinS (joinL n.links r.s r.o) = x.s
    rotate_left
    · have a7' : (joinS (joinL n.links r.s r.o) = x.s) = False := eq_false a7
      have a6 : joinL n.links r.s r.o ≠ some (x.s, x.i) := fun e => a7 (hji.1 e).2.1
      simp only [go_sem, a5, a7', hR]
      exact hit 5 (by decide) (by rw [hge, hk]; simp only [a1, a2, a3]; simp [a4, hr, a6])
    by_cases a8 : joinE (joinL n.links r.s r.o) = x.i
    rotate_left
    · have a8' : (joinE (joinL n.links r.s r.o) = x.i) = False := eq_false a8
      have a7' : (joinS (joinL n.links r.s r.o) = x.s) = True := eq_true a7
      have a6 : joinL n.links r.s r.o ≠ some (x.s, x.i) := fun e => a8 (hji.1 e).2.2
      simp only [go_sem, a5, a7', a8', hR]
      exact hit 5 (by decide) (by rw [hge, hk]; simp only [a1, a2, a3]; simp [a4, hr, a6])
    have a6 : joinL n.links r.s r.o = some (x.s, x.i) := hji.2 ⟨a5, a7, a8⟩
    have a7' : (joinS (joinL n.links r.s r.o) = x.s) = True := eq_true a7
    have a8' : (joinE (joinL n.links r.s r.o) = x.i) = True := eq_true a8
    rcases gate_seenP hs x.s with ⟨s1, t1⟩ | ⟨s1, t1⟩
    · simp only [go_sem, a5, a7', a8']
      simp only [hb20]
      simp only [go_sem]
      refine ⟨hs.1, ?_⟩
      rw [t1]
      simp only [go_sem, hR]
      exact hit 6 (by decide) (by rw [hge, hk]; simp only [a1, a2, a3]; simp [a4, hr, a6, s1])
    · simp only [go_sem, a5, a7', a8']
      simp only [hb20]
      simp only [go_sem]
      refine ⟨hs.1, ?_⟩
      rw [t1]
      simp only [go_sem, hb20, hN, ew]
      refine ⟨hs.1, by kernel_rfl, i + 1, ?_, by simp only; omega⟩
      simp only [go_sem]
      exact ⟨by simp, by omega, firstE_go hlt (by rw [hge, hk]; simp only [a1, a2, a3]; simp [a4, hr, a6, s1]) g2, _, _, _, _, _, rfl, by simp [go_sem, hb2, nCells], by simp [go_sem], hst⟩
  · have a4' : ((0 : Int) < (i : Int)) = False := by simp; omega
    rcases gate_seenP hs x.s with ⟨s1, t1⟩ | ⟨s1, t1⟩
    · simp only [go_sem, a3, a4']
      intro nx4 lv4 _ _
      simp only [hb20]
      simp only [go_sem]
      refine ⟨hs.1, ?_⟩
      rw [t1]
      simp only [go_sem, hR]
      exact hit 6 (by decide) (by rw [hge, hk]; simp only [a1, a2, a3]; simp [a4, s1])
    · simp only [go_sem, a3, a4']
      intro nx4 lv4 _ _
      simp only [hb20]
      simp only [go_sem]
      refine ⟨hs.1, ?_⟩
      rw [t1]
      simp only [go_sem, hb20, hN, ew]
      refine ⟨hs.1, by kernel_rfl, i + 1, ?_, by simp only; omega⟩
      simp only [go_sem]
      exact ⟨by simp, by omega, firstE_go hlt (by rw [hge, hk]; simp only [a1, a2, a3]; simp [a4, s1]) g2, _, _, _, _, _, rfl, by simp [go_sem, hb2, nCells], by simp [go_sem], hst⟩
end Go.Proofs.Yteadhjclchjfjaa
