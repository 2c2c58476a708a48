/- Nets: the places that package line tells of. -/
import Derived.Test.YteadhjclchjfjaaGreatL220
import Derived.Test.YteadhjclchjfjaaGreatB150
namespace Go.Proofs.YteadhjclchjfjaaGreat
set_option linter.unusedSimpArgs false
set_option linter.unusedVariables false
open Go.AB

theorem netE_kinds {n : Net} (h : netE n = 0) : KindsOk n := by
  unfold netE at h
  split at h
  · cases h
  · split at h
    · cases h
    · split at h
      · rename_i h1; exact absurd h h1
      · split at h
        · rename_i h1; exact absurd h h1
        · rename_i h1
          exact secs_kinds (by simpa using h1)
theorem netE_small {n : Net} (h : netE n = 0) : ¬ bigN n := by
  intro hb
  unfold netE at h
  by_cases c : n.sects.length = 0 <;> simp [c, hb] at h
/-- The ends by which one can leave. -/
def outsF (k e : Int) : List Int := if k = 2 ∧ e = 0 then [1, 2] else if k = 2 then [0] else [bits .xor .i64 e 1]
def lInts (l : List Int) : AV := .sl 1 (l.map fun x => DV.int .i64 x) .no

set_option maxHeartbeats 1000000 in
theorem f97 (k e : Int) : PCall Tryz.prog 97 [.int .i64 k, .int .i64 e] (RV (lInts (outsF k e))) := by
  refine PCall.of_bodyE Tryz.func97 rfl Tryz.ntmps97 (congrArg Array.toList Tryz.results97) ?_
  intro E
  by_cases h1 : k = 2
  · by_cases h2 : e = 0
    · simp only [go_sem, h1, h2]
      simp [lInts, outsF, h1, h2, go_sem]
    · simp only [go_sem, h1, h2]
      simp [lInts, outsF, h1, h2, go_sem]
  · simp only [go_sem, h1]
    simp [lInts, outsF, h1, go_sem]

theorem hasF_iff {n : Net} {s e : Int} : hasF n s e = true ↔ (0 ≤ s ∧ s ≤ n.sects.length - 1) ∧ (0 ≤ e ∧ e ≤ endsF (kindAt n s) - 1) := by simp [hasF, within]

/-- The number of the signal at an end. -/
def sigIdx : List Pair → Int → Int → Int → Int
  | [], _, _, _ => -1
  | g :: r, s, e, i => if g.s = s ∧ g.e = e then i else sigIdx r s e (i + 1)

set_option maxHeartbeats 1000000 in
set_option maxRecDepth 20000 in
theorem f136 (l : List Pair) (s e : Int) (hl : l.length ≤ 140737488351232) : PCall Tryz.prog 136 [.sl 2 (l.map dPair) .no, .agg [.int .i64 s, .int .i64 e]] (RV (.int .i64 (sigIdx l s e 0))) := by
  refine PCall.of_body Tryz.func136 rfl Tryz.ntmps136 (congrArg Array.toList Tryz.results136) ?_
  intro E
  simp only [go_sem]
  refine AW_loopH [4, 5, 8, 9, 10, 11, 12, 13, 14, 15, 16, 17, 18]
    (fun (i : Nat) ρ m => ρ 8 = .int .i64 (i : Int) ∧ i ≤ l.length ∧ sigIdx (l.drop i) s e (i : Int) = sigIdx l s e 0 ∧ ∃ nx lv, m = ⟨[(3, 0, [.int .i64 s, .int .i64 e])], [], nx, lv⟩) (fun i => l.length - i) 0 ?_ ?_
  · simp [go_sem]
  · rintro i ρ m ⟨e1, g1, g2, nx, lv, rfl⟩ Q hN hR hX
    by_cases hlt : i < l.length
    · obtain ⟨p, hp⟩ : ∃ p, l[i]? = some p := ⟨_, List.getElem?_eq_getElem hlt⟩
      have hd : l.drop i = p :: l.drop (i + 1) := by
        rw [List.drop_eq_getElem_cons hlt]
        rw [List.getElem?_eq_getElem hlt] at hp
        cases hp; rfl
      have hlt' : ((i : Int) < (l.length : Int)) = True := by simp; omega
      have h0 : ((0 : Int) ≤ (i : Int)) = True := by simp
      have ew : IntKind.i64.wrap ((i : Int) + 1) = (i : Int) + 1 := i64_in (by omega) (by omega)
      rw [hd, show sigIdx (p :: l.drop (i + 1)) s e (i : Int) = if p.s = s ∧ p.e = e then (i : Int) else sigIdx (l.drop (i + 1)) s e (i + 1) from rfl] at g2
      simp only [go_sem, e1, hlt']
      refine drawn (by kernel_rfl) (by kernel_rfl) ?_
      by_cases q : p.s = s ∧ p.e = e
      · rw [if_pos q] at g2
        have q1 : (s = p.s) = True := eq_true q.1.symm
        have q2 : (e = p.e) = True := eq_true q.2.symm
        simp only [go_sem, hp, dPair, h0, hR, q1, q2]
        intro _ _ _ _
        exact g2
      · rw [if_neg q] at g2
        by_cases q1 : s = p.s
        · have q2 : ¬ e = p.e := fun x => q ⟨q1.symm, x.symm⟩
          have q1' : (s = p.s) = True := eq_true q1
          have q2' : (e = p.e) = False := eq_false q2
          simp only [go_sem, hp, dPair, h0, hN, ew, q1', q2']
          refine fun _ _ _ _ => ⟨by kernel_rfl, i + 1, ?_, by simp only; omega⟩
          simp only [go_sem]
          exact ⟨by simp, by omega, by simpa using g2, _, _, rfl⟩
        · have q1' : (s = p.s) = False := eq_false q1
          simp only [go_sem, hp, dPair, h0, hN, ew, q1']
          refine fun _ _ _ _ => ⟨by kernel_rfl, i + 1, ?_, by simp only; omega⟩
          simp only [go_sem]
          exact ⟨by simp, by omega, by simpa using g2, _, _, rfl⟩
    · have hlt' : ((i : Int) < (l.length : Int)) = False := by simp; omega
      rw [List.drop_eq_nil_of_le (by omega)] at g2
      simp only [go_sem, e1, hX, hlt']
      exact g2

set_option maxRecDepth 20000 in
theorem f122 (n : Net) (s e : Int) (hb : NetB n) : PCall Tryz.prog 122 [eNet n, .agg [.int .i64 s, .int .i64 e]] (RV (.int .i64 (sigIdx n.sigs s e 0))) := by
  refine PCall.of_body Tryz.func122 rfl Tryz.ntmps122 (congrArg Array.toList Tryz.results122) ?_
  intro E
  simp only [go_sem, eNet, nCells]
  refine callV (f136 n.sigs s e hb.sg) ?_
  intro nx lv
  simp only [go_sem]

end Go.Proofs.YteadhjclchjfjaaGreat

/- The program's iterators: slices.Backward; Reverse. -/
namespace Go.Proofs.YteadhjclchjfjaaGreat
set_option linter.unusedSimpArgs false
set_option linter.unusedVariables false
open Go.AB

structure Stp where
  (s i o : Int)
def dStp (x : Stp) : DV := .agg [.int .i64 x.s, .int .i64 x.i, .int .i64 x.o]
def eStp (x : Stp) : AV := .agg [.int .i64 x.s, .int .i64 x.i, .int .i64 x.o]

end Go.Proofs.YteadhjclchjfjaaGreat

/- Paths: CheckPath of the program, and what it calls. -/
namespace Go.Proofs.YteadhjclchjfjaaGreat
set_option linter.unusedSimpArgs false
set_option linter.unusedVariables false
open Go.AB

/-- The place of a number in a list. -/
def idxI : List Int → Int → Int → Int
  | [], _, _ => -1
  | x :: l, s, i => if s = x then i else idxI l s (i + 1)
theorem idxI_iff : ∀ {l : List Int} {s : Int} {i : Int}, 0 ≤ i → (0 ≤ idxI l s i ↔ s ∈ l)
  | [], s, i, _ => by simp [idxI]
  | x :: l, s, i, h => by
    unfold idxI
    by_cases hx : s = x
    · simp [hx, h]
    · simp [hx, idxI_iff (l := l) (s := s) (i := i + 1) (by omega)]

set_option maxRecDepth 20000 in
theorem f125 (l : List Int) (s : Int) (hl : l.length ≤ 140737488351232) : PCall Tryz.prog 125 [lInts l, .int .i64 s] (RV (.int .i64 (idxI l s 0))) := by
  refine PCall.of_body Tryz.func125 rfl Tryz.ntmps125 (congrArg Array.toList Tryz.results125) ?_
  intro E
  simp only [go_sem, lInts]
  refine AW_loopH [4, 5, 8, 9, 10, 11, 12, 13, 14, 15, 16, 17, 18]
    (fun (i : Nat) ρ m => ρ 8 = .int .i64 (i : Int) ∧ i ≤ l.length ∧ idxI (l.drop i) s i = idxI l s 0 ∧ ∃ h nx lv, m = ⟨h, [], nx, lv⟩) (fun i => l.length - i) 0 ?_ ?_
  · simp [go_sem]
  · rintro i ρ m ⟨e1, g1, g2, h, nx, lv, rfl⟩ Q hN hR hX
    by_cases hlt : i < l.length
    · obtain ⟨x, hx⟩ : ∃ x, l[i]? = some x := ⟨_, List.getElem?_eq_getElem hlt⟩
      have hp : (l.map fun x => DV.int .i64 x)[i]? = some (.int .i64 x) := by rw [List.getElem?_map, hx]; rfl
      have hlt' : ((i : Int) < (l.length : Int)) = True := by simp; omega
      have h0 : ((0 : Int) ≤ (i : Int)) = True := by simp
      have ew : IntKind.i64.wrap ((i : Int) + 1) = (i : Int) + 1 := i64_in (by omega) (by omega)
      have hd : l.drop i = x :: l.drop (i + 1) := by
        rw [List.drop_eq_getElem_cons hlt]
        rw [List.getElem?_eq_getElem hlt] at hx
        cases hx; rfl
      rw [hd] at g2
      simp only [idxI] at g2
      by_cases q : s = x
      · rw [if_pos q] at g2
        have q' : (s = x) = True := eq_true q
        simp only [go_sem, e1, hlt', h0, hp, q', hR]
        exact g2
      · rw [if_neg q] at g2
        have q' : (s = x) = False := eq_false q
        simp only [go_sem, e1, hlt', h0, hp, q', hN, ew]
        refine ⟨by kernel_rfl, i + 1, ?_, by simp only; omega⟩
        simp only [go_sem]
        exact ⟨by simp, by omega, by rw [← g2]; rfl, _, _, _, rfl⟩
    · have hlt' : ((i : Int) < (l.length : Int)) = False := by simp; omega
      rw [List.drop_eq_nil_of_le (by omega)] at g2
      simp only [idxI] at g2
      simp only [go_sem, e1, hlt', hX]
      exact g2

theorem f96 (l : List Int) (s : Int) (hl : l.length ≤ 140737488351232) : PCall Tryz.prog 96 [lInts l, .int .i64 s] (RV (.bool (decide (s ∈ l)))) := by
  refine PCall.of_body Tryz.func96 rfl Tryz.ntmps96 (congrArg Array.toList Tryz.results96) ?_
  intro E
  simp only [go_sem, lInts]
  refine callV (f125 l s hl) ?_
  intro nx lv
  have := idxI_iff (l := l) (s := s) (i := 0) (Int.le_refl 0)
  simp only [go_sem]
  simp [this]

def psec (L : List Stp) (s : Int) : Bool := L.any fun x => decide (x.s = s)
/-- The error of a step of a path. -/
def stepE (n : Net) (p : List Stp) (i : Nat) : Int := match p[i]? with
  | none => 0
  | some x => if hasF n x.s x.i = false ∨ hasF n x.s x.o = false then 3
    else if decide (x.o ∈ outsF (kindAt n x.s) x.i) = false then 1
    else if 0 < i ∧ joinL n.links (((p[i - 1]?).map Stp.s).getD 0) (((p[i - 1]?).map Stp.o).getD 0) ≠ some (x.s, x.i) then 5
    else if psec (p.take i) x.s = true then 6 else 0
def pathE (n : Net) (p : List Stp) : Int := if 60 < p.length then 4 else firstE (stepE n p) p.length 0
def checkP (n : Net) (p : List Stp) : Int := if netE n ≠ 0 then netE n else pathE n p

def seenP (L : List Stp) (ks vs : List AV) : Prop := ks.all (keyA Tryz.prog 3) = true ∧ ∀ s, mget ks vs (.int .i64 s) = if psec L s = true then some (.bool true) else none
theorem key_int (s : Int) : keyA Tryz.prog 3 (.int .i64 s) = true := by simp only [go_sem]
theorem seenP_step {L : List Stp} {x : Stp} {ks vs : List AV} (h : seenP L ks vs) :
    seenP (L ++ [x]) (mset ks vs (.int .i64 x.s) (.bool true)).1 (mset ks vs (.int .i64 x.s) (.bool true)).2 := by
  refine ⟨mset_keys h.1 (key_int _), fun s => ?_⟩
  rw [mget_mset, h.2]
  simp only [AV.int.injEq, true_and]
  unfold psec
  simp only [List.any_append, List.any_cons, List.any_nil, Bool.or_false, Bool.or_eq_true, decide_eq_true_eq]
  by_cases h1 : x.s = s <;> simp [h1]
theorem outsF_len (k e : Int) : (outsF k e).length ≤ 2 := by unfold outsF; split; simp; split <;> simp

theorem gate_seenP {L : List Stp} {ks vs : List AV} (h : seenP L ks vs) (s : Int) : (psec L s = true ∧ mget ks vs (.int .i64 s) = some (.bool true)) ∨ (psec L s = false ∧ mget ks vs (.int .i64 s) = none) := by
  have := h.2 s
  cases hh : psec L s with
  | true => rw [hh] at this; exact .inl ⟨rfl, by simpa using this⟩
  | false => rw [hh] at this; exact .inr ⟨rfl, by simpa using this⟩
theorem join_iff (j : Option (Int × Int)) (s e : Int) : j = some (s, e) ↔ j.isSome = true ∧ joinS j = s ∧ joinE j = e := by
  cases j with
  | none => simp
  | some q => obtain ⟨a, b⟩ := q; simp [joinS, joinE]

set_option maxHeartbeats 4000000 in
set_option maxRecDepth 20000 in
theorem f58 (n : Net) (p : List Stp) (hb : NetB n) (hp : p.length ≤ 5864062014634) : PCall Tryz.prog 58 [eNet n, .sl 3 (p.map dStp) .no] (RV (.int .i64 (checkP n p))) := by
  refine PCall.of_body Tryz.func58 rfl Tryz.ntmps58 (congrArg Array.toList Tryz.results58) ?_
  intro E
  have hsc := hb.sc
  simp only [go_sem, eNet, nCells]
  refine callV (f17 n hb) ?_
  intro nx lv
  by_cases q0 : netE n = 0
  rotate_left
  · have e : checkP n p = netE n := by simp [checkP, q0]
    simp only [go_sem, q0, e]
  have e : checkP n p = pathE n p := by simp [checkP, q0]
  rw [e]
  by_cases q1 : 60 < p.length
  · have q1' : ((60 : Int) < (p.length : Int)) = True := by simp; omega
    simp only [go_sem, q0, q1']
    simp [pathE, q1]
  have q1' : ((60 : Int) < (p.length : Int)) = False := by simp; omega
  have e2 : pathE n p = firstE (stepE n p) p.length 0 := by simp [pathE, q1]
  simp only [go_sem, q0, q1']
  refine AW_loopH [4, 7, 8, 9, 10, 11, 23, 24, 25, 26, 27, 28, 29, 30, 31, 32, 33, 34, 35, 36, 37, 38, 39, 40, 41, 42, 43, 44, 45, 46, 47, 48, 49, 50, 51, 52, 53, 54, 55, 56, 57, 58, 59, 60, 61, 62, 63, 64, 65, 66, 67, 68, 69, 70, 71, 72, 73, 74, 75, 76, 77, 78, 79, 80, 81, 82, 83, 84, 85, 86, 87, 88, 89, 90, 91, 92, 93, 94, 95, 96, 97]
    (fun (i : Nat) ρ m => ρ 23 = .int .i64 (i : Int) ∧ i ≤ p.length ∧ firstE (stepE n p) (p.length - i) i = pathE n p ∧
      ∃ h nx lv ks vs, m = ⟨h, [], nx, lv⟩ ∧ AB.hget h 2 = some (0, nCells n) ∧ AB.hget h 20 = some (0, [.mapc ks vs]) ∧ seenP (p.take i) ks vs) (fun i => p.length - i) 0 ?_ ?_
  · simp only [go_sem]
    refine ⟨Nat.zero_le _, e2.symm, _, _, _, [], [], rfl, by simp [go_sem, nCells], by simp [go_sem], rfl, fun s => ?_⟩
    simp [mget, psec]
  rintro i ρ m ⟨e1, g1, g2, h, nx, lv, ks, vs, rfl, hb2, hb20, hs⟩ Q hN hR hX
  simp only [nCells] at hb2
  by_cases hlt : i < p.length
  rotate_left
  · have hlt' : ((i : Int) < (p.length : Int)) = False := by simp; omega
    rw [firstE_end hlt] at g2
    simp only [go_sem, e1, hlt', hX]
    exact g2
  obtain ⟨x, hx⟩ : ∃ x, p[i]? = some x := ⟨_, List.getElem?_eq_getElem hlt⟩
  have hxp : (p.map dStp)[i]? = some (dStp x) := by rw [List.getElem?_map, hx]; rfl
  have hlt' : ((i : Int) < (p.length : Int)) = True := by simp; omega
  have h0 : ((0 : Int) ≤ (i : Int)) = True := by simp
  have ew : IntKind.i64.wrap ((i : Int) + 1) = (i : Int) + 1 := i64_in (by omega) (by omega)
  have hge : stepE n p i = if hasF n x.s x.i = false ∨ hasF n x.s x.o = false then 3
    else if decide (x.o ∈ outsF (kindAt n x.s) x.i) = false then 1
    else if 0 < i ∧ joinL n.links (((p[i - 1]?).map Stp.s).getD 0) (((p[i - 1]?).map Stp.o).getD 0) ≠ some (x.s, x.i) then 5
    else if psec (p.take i) x.s = true then 6 else 0 := by simp [stepE, hx]
  have hit : ∀ v : Int, v ≠ 0 → stepE n p i = v → v = pathE n p := fun v hv hh => (firstE_hit hlt hh hv g2).symm
  have htk : p.take (i + 1) = p.take i ++ [x] := by rw [List.take_add_one, hx]; rfl
  have hst := seenP_step (x := x) hs
  rw [← htk] at hst
  simp only [go_sem, e1, hlt', h0, hxp, dStp, hb2]
  generalize genO (AB.hget h 8) = G8
  refine callV (f83 n x.s x.i hb) ?_
  intro nx2 lv2
  by_cases a1 : hasF n x.s x.i = true
  rotate_left
  · have a1 : hasF n x.s x.i = false := by simpa using a1
    simp only [go_sem, a1, hR]
    exact hit 3 (by decide) (by rw [hge]; simp [a1])
  simp only [go_sem, a1, hb2]
  refine callV (f83 n x.s x.o hb) ?_
  intro nx3 lv3
  by_cases a2 : hasF n x.s x.o = true
  rotate_left
  · have a2 : hasF n x.s x.o = false := by simpa using a2
    simp only [go_sem, a2, hR]
    exact hit 3 (by decide) (by rw [hge]; simp [a2])
  obtain ⟨b1, b2⟩ := hasF_iff.1 a1
  obtain ⟨c, hc⟩ : ∃ c, n.sects[x.s.toNat]? = some c := ⟨_, List.getElem?_eq_getElem (by omega)⟩
  have hcp : (n.sects.map dSect)[x.s.toNat]? = some (dSect c) := by rw [List.getElem?_map, hc]; rfl
  have hcp2 : Option.map dSect n.sects[x.s.toNat]? = some (dSect c) := by rw [hc]; rfl
  have hk : kindAt n x.s = c.kind := by simp [kindAt, hc]
  have h0s : (0 ≤ x.s) = True := by simp; omega
  simp only [go_sem, a2]
  refine drawn (by kernel_rfl) (by kernel_rfl) ?_
  simp only [go_sem, hb2, hcp, hcp2, h0s, dSect]
  have hol := outsF_len c.kind x.i
  refine quietD (f97 c.kind x.i) (fun _ => rfl) ?_
  simp only [go_sem, lInts]
  refine quietD (f96 (outsF c.kind x.i) x.o (by omega)) (fun _ => rfl) ?_
  by_cases a3 : decide (x.o ∈ outsF c.kind x.i) = true
  rotate_left
  · have a3 : decide (x.o ∈ outsF c.kind x.i) = false := by simpa using a3
    simp only [go_sem, a3, hR]
    intro nx4 lv4 _ _
    exact hit 1 (by decide) (by rw [hge, hk]; simp only [a1, a2, a3]; simp)
  by_cases a4 : 0 < i
  · have a4' : ((0 : Int) < (i : Int)) = True := by simp; omega
    obtain ⟨r, hr⟩ : ∃ r, p[i - 1]? = some r := ⟨_, List.getElem?_eq_getElem (by omega)⟩
    have hrp : (p.map dStp)[i - 1]? = some (dStp r) := by rw [List.getElem?_map, hr]; rfl
    have ei : ((i : Int) - 1).toNat = i - 1 := by omega
    have ew2 : IntKind.i64.wrap ((i : Int) - 1) = (i : Int) - 1 := i64_in (by omega) (by omega)
    have hi1 : (0 ≤ (i : Int) - 1) = True := by simp; omega
    have hi2 : ((i : Int) - 1 < (p.length : Int)) = True := by simp; omega
    simp only [go_sem, a3, a4', ew2, ei, hrp, dStp, hi1, hi2]
    intro nx4 lv4 _ _
    generalize genO (AB.hget h 9) = G9
    simp only [go_sem, hb2]
    refine callV (f86 n r.s r.o hb) ?_
    intro nx5 lv5
    have hji := join_iff (joinL n.links r.s r.o) x.s x.i
    by_cases a5 : (joinL n.links r.s r.o).isSome = true
    rotate_left
    · have a5' : (joinL n.links r.s r.o).isSome = false := by simpa using a5
      have a6 : joinL n.links r.s r.o ≠ some (x.s, x.i) := fun e => a5 (hji.1 e).1
      simp only [go_sem, a5', hR]
      exact hit 5 (by decide) (by rw [hge, hk]; simp only [a1, a2, a3]; simp [a4, hr, a6])
    by_cases a7 : joinS (joinL n.links r.s r.o) = x.s
    rotate_left
    · have a7' : (joinS (joinL n.links r.s r.o) = x.s) = False := eq_false a7
      have a6 : joinL n.links r.s r.o ≠ some (x.s, x.i) := fun e => a7 (hji.1 e).2.1
      simp only [go_sem, a5, a7', hR]
      exact hit 5 (by decide) (by rw [hge, hk]; simp only [a1, a2, a3]; simp [a4, hr, a6])
    by_cases a8 : joinE (joinL n.links r.s r.o) = x.i
    rotate_left
    · have a8' : (joinE (joinL n.links r.s r.o) = x.i) = False := eq_false a8
      have a7' : (joinS (joinL n.links r.s r.o) = x.s) = True := eq_true a7
      have a6 : joinL n.links r.s r.o ≠ some (x.s, x.i) := fun e => a8 (hji.1 e).2.2
      simp only [go_sem, a5, a7', a8', hR]
      exact hit 5 (by decide) (by rw [hge, hk]; simp only [a1, a2, a3]; simp [a4, hr, a6])
    have a6 : joinL n.links r.s r.o = some (x.s, x.i) := hji.2 ⟨a5, a7, a8⟩
    have a7' : (joinS (joinL n.links r.s r.o) = x.s) = True := eq_true a7
    have a8' : (joinE (joinL n.links r.s r.o) = x.i) = True := eq_true a8
    rcases gate_seenP hs x.s with ⟨s1, t1⟩ | ⟨s1, t1⟩
    · simp only [go_sem, a5, a7', a8']
      simp only [hb20]
      simp only [go_sem]
      refine ⟨hs.1, ?_⟩
      rw [t1]
      simp only [go_sem, hR]
      exact hit 6 (by decide) (by rw [hge, hk]; simp only [a1, a2, a3]; simp [a4, hr, a6, s1])
    · simp only [go_sem, a5, a7', a8']
      simp only [hb20]
      simp only [go_sem]
      refine ⟨hs.1, ?_⟩
      rw [t1]
      simp only [go_sem, hb20, hN, ew]
      refine ⟨hs.1, by kernel_rfl, i + 1, ?_, by simp only; omega⟩
      simp only [go_sem]
      exact ⟨by simp, by omega, firstE_go hlt (by rw [hge, hk]; simp only [a1, a2, a3]; simp [a4, hr, a6, s1]) g2, _, _, _, _, _, rfl, by simp [go_sem, hb2, nCells], by simp [go_sem], hst⟩
  · have a4' : ((0 : Int) < (i : Int)) = False := by simp; omega
    rcases gate_seenP hs x.s with ⟨s1, t1⟩ | ⟨s1, t1⟩
    · simp only [go_sem, a3, a4']
      intro nx4 lv4 _ _
      simp only [hb20]
      simp only [go_sem]
      refine ⟨hs.1, ?_⟩
      rw [t1]
      simp only [go_sem, hR]
      exact hit 6 (by decide) (by rw [hge, hk]; simp only [a1, a2, a3]; simp [a4, s1])
    · simp only [go_sem, a3, a4']
      intro nx4 lv4 _ _
      simp only [hb20]
      simp only [go_sem]
      refine ⟨hs.1, ?_⟩
      rw [t1]
      simp only [go_sem, hb20, hN, ew]
      refine ⟨hs.1, by kernel_rfl, i + 1, ?_, by simp only; omega⟩
      simp only [go_sem]
      exact ⟨by simp, by omega, firstE_go hlt (by rw [hge, hk]; simp only [a1, a2, a3]; simp [a4, s1]) g2, _, _, _, _, _, rfl, by simp [go_sem, hb2, nCells], by simp [go_sem], hst⟩
end Go.Proofs.YteadhjclchjfjaaGreat

/- Paths: lengths and pieces; the reference's check. -/
namespace Go.Proofs.YteadhjclchjfjaaGreat
set_option linter.unusedSimpArgs false
set_option linter.unusedVariables false
open Go.AB

theorem netE_lens {n : Net} (h : netE n = 0) : ∀ s ∈ n.sects, 10 ≤ s.len ∧ s.len ≤ 3000 := by
  have hs : secsE n = 0 := by
    unfold netE at h
    split at h
    · cases h
    · split at h
      · cases h
      · split at h
        · rename_i h1; exact absurd h h1
        · split at h
          · rename_i h1; exact absurd h h1
          · rename_i h1
            simpa using h1
  intro s hm
  obtain ⟨i, hi, rfl⟩ := List.getElem_of_mem hm
  have := firstE_zero (j := i) hs (Nat.zero_le _) (by omega)
  simp only [secAt, List.getElem?_eq_getElem hi] at this
  unfold secE at this
  split at this
  · cases this
  · split at this
    · cases this
    · rename_i h2
      simp [within] at h2
      omega
theorem pathE_step {n : Net} {p : List Stp} (h : pathE n p = 0) : p.length ≤ 60 ∧ ∀ (i : Nat) (x : Stp), p[i]? = some x → ∃ c, n.sects[x.s.toNat]? = some c ∧ 0 ≤ x.s := by
  unfold pathE at h
  split at h
  · cases h
  · refine ⟨by omega, fun i x hx => ?_⟩
    have hi := (List.getElem?_eq_some_iff.1 hx).1
    have := firstE_zero (j := i) h (Nat.zero_le _) (by omega)
    unfold stepE at this
    rw [hx] at this
    simp only at this
    split at this
    · cases this
    · rename_i hh
      have h1 : hasF n x.s x.i = true := by
        cases hc : hasF n x.s x.i with
        | true => rfl
        | false => exact absurd (.inl hc) hh
      obtain ⟨b1, _⟩ := hasF_iff.1 h1
      exact ⟨_, List.getElem?_eq_getElem (by omega), by omega⟩

def lenAt (n : Net) (x : Stp) : Int := ((n.sects[x.s.toNat]?).map Sect.len).getD 0
/-- A piece. -/
structure Pc where
  (l g v : Int)
def dPc (x : Pc) : DV := .agg [.int .i64 x.l, .int .i64 x.g, .int .i64 x.v]
def pcF (n : Net) (x : Stp) : Pc := match n.sects[x.s.toNat]? with
  | none => ⟨0, 0, 0⟩
  | some c => ⟨IntKind.i64.wrap (100 * c.len), if x.i = 0 then c.grade else IntKind.i64.wrap (0 - c.grade), if c.kind = 2 ∧ (x.i = 2 ∨ x.o = 2) then c.slow else c.speed⟩
def pcsV (n : Net) (p : List Stp) : List Pc := if checkP n p ≠ 0 then [] else p.map (pcF n)

set_option maxHeartbeats 8000000 in
set_option maxRecDepth 20000 in
theorem f22 (n : Net) (p : List Stp) (hb : NetB n) (hp : p.length ≤ 5864062014634) : PCall Tryz.prog 22 [eNet n, .sl 3 (p.map dStp) .no] (RV (.tup [.sl 3 ((pcsV n p).map dPc) .no, .int .i64 (checkP n p)])) := by
  refine PCall.of_bodyE Tryz.func22 rfl Tryz.ntmps22 (congrArg Array.toList Tryz.results22) ?_
  intro E
  have hsc := hb.sc
  simp only [go_sem, eNet, nCells]
  refine callV (f58 n p hb hp) ?_
  intro nx lv
  by_cases q0 : checkP n p = 0
  rotate_left
  · simp only [go_sem, q0, pcsV]
  have q1 : netE n = 0 := by unfold checkP at q0; split at q0 <;> omega
  have q2 : pathE n p = 0 := by unfold checkP at q0; split at q0 <;> omega
  have e1 : pcsV n p = p.map (pcF n) := by simp [pcsV, q0]
  obtain ⟨p60, hst⟩ := pathE_step q2
  simp only [go_sem, q0, e1]
  refine AW_loopH [7, 9, 10, 11, 20, 21, 22, 23, 24, 25, 26, 27, 28, 29, 30, 31, 32, 33, 34, 35, 36, 37, 38, 39, 40, 41, 42, 43, 44, 45, 46, 47, 48, 49, 50, 51, 52, 53, 54, 55, 56, 57, 58, 59, 60, 61, 62, 63, 64, 65]
    (fun (i : Nat) ρ m => ρ 20 = .int .i64 (i : Int) ∧ i ≤ p.length ∧ (∃ tok, ρ 7 = .sl 3 (((p.take i).map (pcF n)).map dPc) tok ∧ okT m tok) ∧ ∃ h nx lv, m = ⟨h, [], nx, lv⟩ ∧ AB.hget h 2 = some (0, nCells n)) (fun i => p.length - i) 0 ?_ ?_
  · simp [go_sem, nCells]
  rintro i ρ m ⟨e20, g1, ⟨tok, e7, hok⟩, h, nx, lv, rfl, hb2⟩ Q hN hR hX
  simp only [nCells] at hb2
  by_cases hlt : i < p.length
  rotate_left
  · have hlt' : ((i : Int) < (p.length : Int)) = False := by simp; omega
    rw [List.take_of_length_le (by omega)] at e7
    simp only [go_sem, e20, e7, hlt', hX]
  obtain ⟨x, hx⟩ : ∃ x, p[i]? = some x := ⟨_, List.getElem?_eq_getElem hlt⟩
  have hxp : (p.map dStp)[i]? = some (dStp x) := by rw [List.getElem?_map, hx]; rfl
  have hlt' : ((i : Int) < (p.length : Int)) = True := by simp; omega
  have h0 : ((0 : Int) ≤ (i : Int)) = True := by simp
  have ew : IntKind.i64.wrap ((i : Int) + 1) = (i : Int) + 1 := i64_in (by omega) (by omega)
  obtain ⟨c, hc, hs0⟩ := hst i x hx
  have htk : (p.take (i + 1)).map (pcF n) = (p.take i).map (pcF n) ++ [⟨IntKind.i64.wrap (100 * c.len), if x.i = 0 then c.grade else IntKind.i64.wrap (0 - c.grade), if c.kind = 2 ∧ (x.i = 2 ∨ x.o = 2) then c.slow else c.speed⟩] := by
    rw [List.take_add_one, hx]
    simp [pcF, hc]
  have hcp : (n.sects.map dSect)[x.s.toNat]? = some (dSect c) := by rw [List.getElem?_map, hc]; rfl
  have hcp2 : Option.map dSect n.sects[x.s.toNat]? = some (dSect c) := by rw [hc]; rfl
  have h0s : (0 ≤ x.s) = True := by simp; omega
  have hle : (p.take i).length ≤ i := by rw [List.length_take]; omega
  generalize hL : (p.take i).map (pcF n) = L at *
  have hLl : L.length ≤ 60 := by rw [← hL]; simp; omega
  by_cases a1 : x.i = 0
  · have a1' : (x.i = 0) = True := by simp [a1]
    by_cases a2 : c.kind = 2
    rotate_left
    · have a2' : (c.kind = 2) = False := by simp [a2]
      have htk' : (p.take (i + 1)).map (pcF n) = L ++ [⟨IntKind.i64.wrap (100 * c.len), c.grade, c.speed⟩] := by rw [htk]; simp [a1, a2]
      simp only [go_sem, e20, e7, hlt', h0, hxp, dStp, hb2, hcp, hcp2, h0s, dSect, ew, hN, a1', a2']
      refine ⟨okT_mono hok (fun j x => .inr x), by omega, by kernel_rfl, i + 1, ?_, by simp only; omega⟩
      simp only [go_sem, htk', List.map_append, List.map_cons, List.map_nil, dPc]
      exact ⟨by simp, by omega, .inl trivial, _, _, _, rfl, by simp [go_sem, hb2, nCells]⟩
    have a2' : (c.kind = 2) = True := by simp [a2]
    have a3 : ¬ x.i = 2 := by omega
    have a3' : (x.i = 2) = False := by simp [a3]
    by_cases a4 : x.o = 2
    · have a4' : (x.o = 2) = True := by simp [a4]
      have htk' : (p.take (i + 1)).map (pcF n) = L ++ [⟨IntKind.i64.wrap (100 * c.len), c.grade, c.slow⟩] := by rw [htk]; simp [a1, a2, a3, a4]
      simp only [go_sem, e20, e7, hlt', h0, hxp, dStp, hb2, hcp, hcp2, h0s, dSect, ew, hN, a1', a2', a3', a4']
      refine ⟨okT_mono hok (fun j x => .inr x), by omega, by kernel_rfl, i + 1, ?_, by simp only; omega⟩
      simp only [go_sem, htk', List.map_append, List.map_cons, List.map_nil, dPc]
      exact ⟨by simp, by omega, .inl trivial, _, _, _, rfl, by simp [go_sem, hb2, nCells]⟩
    · have a4' : (x.o = 2) = False := by simp [a4]
      have htk' : (p.take (i + 1)).map (pcF n) = L ++ [⟨IntKind.i64.wrap (100 * c.len), c.grade, c.speed⟩] := by rw [htk]; simp [a1, a2, a3, a4]
      simp only [go_sem, e20, e7, hlt', h0, hxp, dStp, hb2, hcp, hcp2, h0s, dSect, ew, hN, a1', a2', a3', a4']
      refine ⟨okT_mono hok (fun j x => .inr x), by omega, by kernel_rfl, i + 1, ?_, by simp only; omega⟩
      simp only [go_sem, htk', List.map_append, List.map_cons, List.map_nil, dPc]
      exact ⟨by simp, by omega, .inl trivial, _, _, _, rfl, by simp [go_sem, hb2, nCells]⟩
  · have a1' : (x.i = 0) = False := by simp [a1]
    by_cases a2 : c.kind = 2
    rotate_left
    · have a2' : (c.kind = 2) = False := by simp [a2]
      have htk' : (p.take (i + 1)).map (pcF n) = L ++ [⟨IntKind.i64.wrap (100 * c.len), IntKind.i64.wrap (0 - c.grade), c.speed⟩] := by rw [htk]; simp [a1, a2]
      simp only [go_sem, e20, e7, hlt', h0, hxp, dStp, hb2, hcp, hcp2, h0s, dSect, ew, hN, a1', a2']
      refine ⟨okT_mono hok (fun j x => .inr x), by omega, by kernel_rfl, i + 1, ?_, by simp only; omega⟩
      simp only [go_sem, htk', List.map_append, List.map_cons, List.map_nil, dPc]
      exact ⟨by simp, by omega, .inl trivial, _, _, _, rfl, by simp [go_sem, hb2, nCells]⟩
    have a2' : (c.kind = 2) = True := by simp [a2]
    by_cases a3 : x.i = 2
    · have a3' : (x.i = 2) = True := by simp [a3]
      have htk' : (p.take (i + 1)).map (pcF n) = L ++ [⟨IntKind.i64.wrap (100 * c.len), IntKind.i64.wrap (0 - c.grade), c.slow⟩] := by rw [htk]; simp [a1, a2, a3]
      simp only [go_sem, e20, e7, hlt', h0, hxp, dStp, hb2, hcp, hcp2, h0s, dSect, ew, hN, a1', a2', a3']
      refine ⟨okT_mono hok (fun j x => .inr x), by omega, by kernel_rfl, i + 1, ?_, by simp only; omega⟩
      simp only [go_sem, htk', List.map_append, List.map_cons, List.map_nil, dPc]
      exact ⟨by simp, by omega, .inl trivial, _, _, _, rfl, by simp [go_sem, hb2, nCells]⟩
    have a3' : (x.i = 2) = False := by simp [a3]
    by_cases a4 : x.o = 2
    · have a4' : (x.o = 2) = True := by simp [a4]
      have htk' : (p.take (i + 1)).map (pcF n) = L ++ [⟨IntKind.i64.wrap (100 * c.len), IntKind.i64.wrap (0 - c.grade), c.slow⟩] := by rw [htk]; simp [a1, a2, a3, a4]
      simp only [go_sem, e20, e7, hlt', h0, hxp, dStp, hb2, hcp, hcp2, h0s, dSect, ew, hN, a1', a2', a3', a4']
      refine ⟨okT_mono hok (fun j x => .inr x), by omega, by kernel_rfl, i + 1, ?_, by simp only; omega⟩
      simp only [go_sem, htk', List.map_append, List.map_cons, List.map_nil, dPc]
      exact ⟨by simp, by omega, .inl trivial, _, _, _, rfl, by simp [go_sem, hb2, nCells]⟩
    · have a4' : (x.o = 2) = False := by simp [a4]
      have htk' : (p.take (i + 1)).map (pcF n) = L ++ [⟨IntKind.i64.wrap (100 * c.len), IntKind.i64.wrap (0 - c.grade), c.speed⟩] := by rw [htk]; simp [a1, a2, a3, a4]
      simp only [go_sem, e20, e7, hlt', h0, hxp, dStp, hb2, hcp, hcp2, h0s, dSect, ew, hN, a1', a2', a3', a4']
      refine ⟨okT_mono hok (fun j x => .inr x), by omega, by kernel_rfl, i + 1, ?_, by simp only; omega⟩
      simp only [go_sem, htk', List.map_append, List.map_cons, List.map_nil, dPc]
      exact ⟨by simp, by omega, .inl trivial, _, _, _, rfl, by simp [go_sem, hb2, nCells]⟩

set_option maxHeartbeats 8000000 in
set_option maxRecDepth 20000 in
theorem f33 (n : Net) (p : List Stp) (hb : NetB n) (q2 : pathE n p = 0) : PCall Tryz.prog 33 [eNet n, .sl 3 (p.map dStp) .no] (RV (.sl 3 ((p.map (pcF n)).map dPc) .no)) := by
  refine PCall.of_bodyE Tryz.func33 rfl Tryz.ntmps33 (congrArg Array.toList Tryz.results33) ?_
  intro E
  have hsc := hb.sc
  obtain ⟨p60, hst⟩ := pathE_step q2
  simp only [go_sem, eNet, nCells]
  refine AW_loopH [5, 7, 8, 9, 12, 13, 14, 15, 16, 17, 18, 19, 20, 21, 22, 23, 24, 25, 26, 27, 28, 29, 30, 31, 32, 33, 34, 35, 36, 37, 38, 39, 40, 41, 42, 43, 44, 45, 46, 47, 48, 49, 50, 51, 52, 53, 54, 55, 56, 57]
    (fun (i : Nat) ρ m => ρ 12 = .int .i64 (i : Int) ∧ i ≤ p.length ∧ (∃ tok, ρ 5 = .sl 3 (((p.take i).map (pcF n)).map dPc) tok ∧ okT m tok) ∧ ∃ h nx lv, m = ⟨h, [], nx, lv⟩ ∧ AB.hget h 2 = some (0, nCells n)) (fun i => p.length - i) 0 ?_ ?_
  · simp [go_sem, nCells]
  rintro i ρ m ⟨e20, g1, ⟨tok, e7, hok⟩, h, nx, lv, rfl, hb2⟩ Q hN hR hX
  simp only [nCells] at hb2
  by_cases hlt : i < p.length
  rotate_left
  · have hlt' : ((i : Int) < (p.length : Int)) = False := by simp; omega
    rw [List.take_of_length_le (by omega)] at e7
    simp only [go_sem, e20, e7, hlt', hX]
  obtain ⟨x, hx⟩ : ∃ x, p[i]? = some x := ⟨_, List.getElem?_eq_getElem hlt⟩
  have hxp : (p.map dStp)[i]? = some (dStp x) := by rw [List.getElem?_map, hx]; rfl
  have hlt' : ((i : Int) < (p.length : Int)) = True := by simp; omega
  have h0 : ((0 : Int) ≤ (i : Int)) = True := by simp
  have ew : IntKind.i64.wrap ((i : Int) + 1) = (i : Int) + 1 := i64_in (by omega) (by omega)
  obtain ⟨c, hc, hs0⟩ := hst i x hx
  have htk : (p.take (i + 1)).map (pcF n) = (p.take i).map (pcF n) ++ [⟨IntKind.i64.wrap (100 * c.len), if x.i = 0 then c.grade else IntKind.i64.wrap (0 - c.grade), if c.kind = 2 ∧ (x.i = 2 ∨ x.o = 2) then c.slow else c.speed⟩] := by
    rw [List.take_add_one, hx]
    simp [pcF, hc]
  have hcp : (n.sects.map dSect)[x.s.toNat]? = some (dSect c) := by rw [List.getElem?_map, hc]; rfl
  have hcp2 : Option.map dSect n.sects[x.s.toNat]? = some (dSect c) := by rw [hc]; rfl
  have h0s : (0 ≤ x.s) = True := by simp; omega
  have hle : (p.take i).length ≤ i := by rw [List.length_take]; omega
  generalize hL : (p.take i).map (pcF n) = L at *
  have hLl : L.length ≤ 60 := by rw [← hL]; simp; omega
  by_cases a1 : x.i = 0
  · have a1' : (x.i = 0) = True := by simp [a1]
    by_cases a2 : c.kind = 2
    rotate_left
    · have a2' : (c.kind = 2) = False := by simp [a2]
      have htk' : (p.take (i + 1)).map (pcF n) = L ++ [⟨IntKind.i64.wrap (100 * c.len), c.grade, c.speed⟩] := by rw [htk]; simp [a1, a2]
      simp only [go_sem, e20, e7, hlt', h0, hxp, dStp, hb2, hcp, hcp2, h0s, dSect, ew, hN, a1', a2']
      refine ⟨okT_mono hok (fun j x => .inr x), by omega, by kernel_rfl, i + 1, ?_, by simp only; omega⟩
      simp only [go_sem, htk', List.map_append, List.map_cons, List.map_nil, dPc]
      exact ⟨by simp, by omega, .inl trivial, _, _, _, rfl, by simp [go_sem, hb2, nCells]⟩
    have a2' : (c.kind = 2) = True := by simp [a2]
    have a3 : ¬ x.i = 2 := by omega
    have a3' : (x.i = 2) = False := by simp [a3]
    by_cases a4 : x.o = 2
    · have a4' : (x.o = 2) = True := by simp [a4]
      have htk' : (p.take (i + 1)).map (pcF n) = L ++ [⟨IntKind.i64.wrap (100 * c.len), c.grade, c.slow⟩] := by rw [htk]; simp [a1, a2, a3, a4]
      simp only [go_sem, e20, e7, hlt', h0, hxp, dStp, hb2, hcp, hcp2, h0s, dSect, ew, hN, a1', a2', a3', a4']
      refine ⟨okT_mono hok (fun j x => .inr x), by omega, by kernel_rfl, i + 1, ?_, by simp only; omega⟩
      simp only [go_sem, htk', List.map_append, List.map_cons, List.map_nil, dPc]
      exact ⟨by simp, by omega, .inl trivial, _, _, _, rfl, by simp [go_sem, hb2, nCells]⟩
    · have a4' : (x.o = 2) = False := by simp [a4]
      have htk' : (p.take (i + 1)).map (pcF n) = L ++ [⟨IntKind.i64.wrap (100 * c.len), c.grade, c.speed⟩] := by rw [htk]; simp [a1, a2, a3, a4]
      simp only [go_sem, e20, e7, hlt', h0, hxp, dStp, hb2, hcp, hcp2, h0s, dSect, ew, hN, a1', a2', a3', a4']
      refine ⟨okT_mono hok (fun j x => .inr x), by omega, by kernel_rfl, i + 1, ?_, by simp only; omega⟩
      simp only [go_sem, htk', List.map_append, List.map_cons, List.map_nil, dPc]
      exact ⟨by simp, by omega, .inl trivial, _, _, _, rfl, by simp [go_sem, hb2, nCells]⟩
  · have a1' : (x.i = 0) = False := by simp [a1]
    by_cases a2 : c.kind = 2
    rotate_left
    · have a2' : (c.kind = 2) = False := by simp [a2]
      have htk' : (p.take (i + 1)).map (pcF n) = L ++ [⟨IntKind.i64.wrap (100 * c.len), IntKind.i64.wrap (0 - c.grade), c.speed⟩] := by rw [htk]; simp [a1, a2]
      simp only [go_sem, e20, e7, hlt', h0, hxp, dStp, hb2, hcp, hcp2, h0s, dSect, ew, hN, a1', a2']
      refine ⟨okT_mono hok (fun j x => .inr x), by omega, by kernel_rfl, i + 1, ?_, by simp only; omega⟩
      simp only [go_sem, htk', List.map_append, List.map_cons, List.map_nil, dPc]
      exact ⟨by simp, by omega, .inl trivial, _, _, _, rfl, by simp [go_sem, hb2, nCells]⟩
    have a2' : (c.kind = 2) = True := by simp [a2]
    by_cases a3 : x.i = 2
    · have a3' : (x.i = 2) = True := by simp [a3]
      have htk' : (p.take (i + 1)).map (pcF n) = L ++ [⟨IntKind.i64.wrap (100 * c.len), IntKind.i64.wrap (0 - c.grade), c.slow⟩] := by rw [htk]; simp [a1, a2, a3]
      simp only [go_sem, e20, e7, hlt', h0, hxp, dStp, hb2, hcp, hcp2, h0s, dSect, ew, hN, a1', a2', a3']
      refine ⟨okT_mono hok (fun j x => .inr x), by omega, by kernel_rfl, i + 1, ?_, by simp only; omega⟩
      simp only [go_sem, htk', List.map_append, List.map_cons, List.map_nil, dPc]
      exact ⟨by simp, by omega, .inl trivial, _, _, _, rfl, by simp [go_sem, hb2, nCells]⟩
    have a3' : (x.i = 2) = False := by simp [a3]
    by_cases a4 : x.o = 2
    · have a4' : (x.o = 2) = True := by simp [a4]
      have htk' : (p.take (i + 1)).map (pcF n) = L ++ [⟨IntKind.i64.wrap (100 * c.len), IntKind.i64.wrap (0 - c.grade), c.slow⟩] := by rw [htk]; simp [a1, a2, a3, a4]
      simp only [go_sem, e20, e7, hlt', h0, hxp, dStp, hb2, hcp, hcp2, h0s, dSect, ew, hN, a1', a2', a3', a4']
      refine ⟨okT_mono hok (fun j x => .inr x), by omega, by kernel_rfl, i + 1, ?_, by simp only; omega⟩
      simp only [go_sem, htk', List.map_append, List.map_cons, List.map_nil, dPc]
      exact ⟨by simp, by omega, .inl trivial, _, _, _, rfl, by simp [go_sem, hb2, nCells]⟩
    · have a4' : (x.o = 2) = False := by simp [a4]
      have htk' : (p.take (i + 1)).map (pcF n) = L ++ [⟨IntKind.i64.wrap (100 * c.len), IntKind.i64.wrap (0 - c.grade), c.speed⟩] := by rw [htk]; simp [a1, a2, a3, a4]
      simp only [go_sem, e20, e7, hlt', h0, hxp, dStp, hb2, hcp, hcp2, h0s, dSect, ew, hN, a1', a2', a3', a4']
      refine ⟨okT_mono hok (fun j x => .inr x), by omega, by kernel_rfl, i + 1, ?_, by simp only; omega⟩
      simp only [go_sem, htk', List.map_append, List.map_cons, List.map_nil, dPc]
      exact ⟨by simp, by omega, .inl trivial, _, _, _, rfl, by simp [go_sem, hb2, nCells]⟩
end Go.Proofs.YteadhjclchjfjaaGreat

/- Paths: the reference's functions. -/
namespace Go.Proofs.YteadhjclchjfjaaGreat
set_option linter.unusedSimpArgs false
set_option linter.unusedVariables false
open Go.AB

set_option maxRecDepth 20000 in
theorem f68 (p : List Stp) (s : Int) (hl : p.length ≤ 5864062014634) : PCall Tryz.prog 68 [.sl 3 (p.map dStp) .no, .int .i64 s] (RV (.bool (psec p s))) := by
  refine PCall.of_body Tryz.func68 rfl Tryz.ntmps68 (congrArg Array.toList Tryz.results68) ?_
  intro E
  simp only [go_sem]
  refine AW_loopH [4, 6, 9, 10, 11, 12, 13, 14, 15, 16, 17]
    (fun (i : Nat) ρ m => ρ 9 = .int .i64 (i : Int) ∧ i ≤ p.length ∧ psec (p.take i) s = false ∧ ∃ h nx lv, m = ⟨h, [], nx, lv⟩) (fun i => p.length - i) 0 ?_ ?_
  · simp [go_sem, psec]
  rintro i ρ m ⟨e1, g1, g2, h, nx, lv, rfl⟩ Q hN hR hX
  by_cases hlt : i < p.length
  · obtain ⟨x, hx⟩ : ∃ x, p[i]? = some x := ⟨_, List.getElem?_eq_getElem hlt⟩
    have hxp : (p.map dStp)[i]? = some (dStp x) := by rw [List.getElem?_map, hx]; rfl
    have hlt' : ((i : Int) < (p.length : Int)) = True := by simp; omega
    have h0 : ((0 : Int) ≤ (i : Int)) = True := by simp
    have ew : IntKind.i64.wrap ((i : Int) + 1) = (i : Int) + 1 := i64_in (by omega) (by omega)
    have htk : p.take (i + 1) = p.take i ++ [x] := by rw [List.take_add_one, hx]; rfl
    by_cases q : x.s = s
    · have q' : (x.s = s) = True := eq_true q
      simp only [go_sem, e1, hlt', h0, hxp, dStp, q', hR]
      have : psec p s = true := List.any_eq_true.2 ⟨x, List.mem_of_getElem? hx, by simp [q]⟩
      simp [this]
    · have q' : (x.s = s) = False := eq_false q
      simp only [go_sem, e1, hlt', h0, hxp, dStp, q', hN, ew]
      refine ⟨by kernel_rfl, i + 1, ?_, by simp only; omega⟩
      simp only [go_sem]
      refine ⟨by simp, by omega, ?_, _, _, _, rfl⟩
      rw [htk]
      unfold psec at g2 ⊢
      rw [List.any_append, g2]
      simp [q]
  · have hlt' : ((i : Int) < (p.length : Int)) = False := by simp; omega
    rw [List.take_of_length_le (by omega)] at g2
    simp only [go_sem, e1, hlt', hX, g2]

set_option maxRecDepth 20000 in
theorem f69 (k e : Int) (h1 : 1 ≤ k) (h2 : k ≤ 3) (h3 : 0 ≤ e) (h4 : e < endsF k) : PCall Tryz.prog 69 [.int .i64 k, .int .i64 e] (RV (lInts (outsF k e))) := by
  refine PCall.of_bodyE Tryz.func69 rfl Tryz.ntmps69 (congrArg Array.toList Tryz.results69) ?_
  intro E
  have w0 : IntKind.i64.wrap 0 = 0 := by rfl
  have w1 : IntKind.i64.wrap 1 = 1 := by rfl
  have kk : k = 1 ∨ k = 2 ∨ k = 3 := by omega
  rcases kk with rfl | rfl | rfl
  · have he : e = 0 ∨ e = 1 := by simp [endsF] at h4; omega
    rcases he with rfl | rfl <;> simp only [go_sem, w0, w1] <;> rfl
  · have he : e = 0 ∨ e = 1 ∨ e = 2 := by simp [endsF] at h4; omega
    rcases he with rfl | rfl | rfl <;> simp only [go_sem, w0, w1] <;> rfl
  · have he : e = 0 ∨ e = 1 ∨ e = 2 ∨ e = 3 := by simp [endsF] at h4; omega
    rcases he with rfl | rfl | rfl | rfl <;> simp only [go_sem, w0, w1] <;> rfl

end Go.Proofs.YteadhjclchjfjaaGreat
