/- Nets: their parts; ends; the checks of a section; what is joined. -/
/- Nets: their parts; whether an end is there; the checks of a section; the search in lists of names. -/
import Derived.Test.YtkfhieigdlfbeaaDoorL113
import Derived.Test.YtkfhieigdlfbeaaDoorB140
namespace Go.Proofs.YtkfhieigdlfbeaaDoor
set_option linter.unusedSimpArgs false
set_option linter.unusedVariables false
open Go.AB

structure Lnk where
  (a ea b eb : Int)
structure Sect where
  (kind len grade speed slow station : Int)
  axles : Bool
structure Pair where
  (s e : Int)
def dLnk (l : Lnk) : DV := .agg [.int .i64 l.a, .int .i64 l.ea, .int .i64 l.b, .int .i64 l.eb]
def dSect (s : Sect) : DV := .agg [.int .i64 s.kind, .int .i64 s.len, .int .i64 s.grade, .int .i64 s.speed, .int .i64 s.slow, .int .i64 s.station, .bool s.axles]
def eSect (s : Sect) : AV := .agg [.int .i64 s.kind, .int .i64 s.len, .int .i64 s.grade, .int .i64 s.speed, .int .i64 s.slow, .int .i64 s.station, .bool s.axles]
def dPair (p : Pair) : DV := .agg [.int .i64 p.s, .int .i64 p.e]
def ePair (p : Pair) : AV := .agg [.int .i64 p.s, .int .i64 p.e]
structure Net where
  names : List (List UInt8)
  sects : List Sect
  links : List Lnk
  sigs : List Pair
  gates : List Pair
def nCells (n : Net) : List AV := [.sl 1 (n.names.map DV.str) .no, .sl 7 (n.sects.map dSect) .no, .sl 4 (n.links.map dLnk) .no, .sl 2 (n.sigs.map dPair) .no, .sl 2 (n.gates.map dPair) .no]
def eNet (n : Net) : AV := .agg (nCells n)
/-- What a net of the language's own bounds is. -/
structure NetB (n : Net) : Prop where
  nm : n.names.length ≤ 140737488351232
  sc : n.sects.length ≤ 140737488351232
  lk : n.links.length ≤ 140737488351232
  sg : n.sigs.length ≤ 140737488351232
  gt : n.gates.length ≤ 140737488351232
  str : ∀ s ∈ n.names, s.length ≤ 140737488351232

def kindAt (n : Net) (s : Int) : Int := ((n.sects[s.toNat]?).map Sect.kind).getD 0
def hasF (n : Net) (s e : Int) : Bool := within s 0 (n.sects.length - 1) && within e 0 (endsF (kindAt n s) - 1)
def KindsOk (n : Net) : Prop := ∀ s ∈ n.sects, 1 ≤ s.kind ∧ s.kind ≤ 3

set_option maxHeartbeats 1000000 in
set_option maxRecDepth 20000 in
theorem f105 (n : Net) (s e : Int) (hb : NetB n) : PCall Tryd.prog 105 [eNet n, .agg [.int .i64 s, .int .i64 e]] (RV (.bool (hasF n s e))) := by
  refine PCall.of_body Tryd.func105 rfl Tryd.ntmps105 (congrArg Array.toList Tryd.results105) ?_
  intro E
  have := hb.sc
  simp only [go_sem, eNet, nCells]
  refine drawn (by kernel_rfl) (by kernel_rfl) ?_
  simp (disch := omega) only [go_sem, i64_in]
  refine quietD (f104 _ _ _) (fun _ => rfl) ?_
  by_cases hw : within s 0 (n.sects.length - 1) = true
  · have h2 : 0 ≤ s ∧ s ≤ n.sects.length - 1 := by simpa [within] using hw
    obtain ⟨c, hc⟩ : ∃ c, n.sects[s.toNat]? = some c := ⟨_, List.getElem?_eq_getElem (by omega)⟩
    have hk : kindAt n s = c.kind := by simp [kindAt, hc]
    have he := endsF_bd c.kind
    simp (disch := omega) only [go_sem, hw, hc, dSect, i64_in]
    refine ⟨by omega, ?_⟩
    refine quietD (f103 _) (fun _ => rfl) ?_
    simp (disch := omega) only [go_sem, i64_in]
    refine quietD (f104 _ _ _) (fun _ => rfl) ?_
    simp (disch := omega) only [go_sem, i64_in]
    simp [hasF, hw, hk]
  · have hw : within s 0 (n.sects.length - 1) = false := by simpa using hw
    simp (disch := omega) only [go_sem, hw]
    simp [hasF, hw]

set_option maxHeartbeats 1000000 in
set_option maxRecDepth 20000 in
theorem f85 (n : Net) (s e : Int) (hb : NetB n) (hk : KindsOk n) : PCall Tryd.prog 85 [eNet n, .int .i64 s, .int .i64 e] (RV (.bool (hasF n s e))) := by
  refine PCall.of_body Tryd.func85 rfl Tryd.ntmps85 (congrArg Array.toList Tryd.results85) ?_
  intro E
  have := hb.sc
  simp only [go_sem, eNet, nCells]
  by_cases h0 : 0 ≤ s
  · by_cases h1 : s < n.sects.length
    · obtain ⟨c, hc⟩ : ∃ c, n.sects[s.toNat]? = some c := ⟨_, List.getElem?_eq_getElem (by omega)⟩
      have hke : kindAt n s = c.kind := by simp [kindAt, hc]
      have he := endsF_bd c.kind
      have hkc := hk c (List.mem_of_getElem? hc)
      by_cases h2 : 0 ≤ e
      · simp (disch := omega) only [go_sem, h0, h1, h2, hc, dSect, i64_in]
        refine callV (f110 _ hkc.1 hkc.2) ?_
        intro nx lv
        simp (disch := omega) only [go_sem, i64_in]
        have h0' : within s 0 (n.sects.length - 1) = true := by simp [within]; omega
        simp only [hasF, h0', hke, Bool.true_and]
        unfold within
        simp only [h2, decide_true, Bool.true_and]
        by_cases q : e < endsF c.kind
        · have q2 : e ≤ endsF c.kind - 1 := by omega
          simp [q, q2]
        · have q2 : ¬ e ≤ endsF c.kind - 1 := by omega
          simp [q, q2]
      · simp (disch := omega) only [go_sem, h0, h1, h2]
        simp [hasF, within, h2]
    · simp (disch := omega) only [go_sem, h0, h1]
      have : ¬ s ≤ (n.sects.length : Int) - 1 := by omega
      simp [hasF, within, this]
  · simp (disch := omega) only [go_sem, h0]
    simp [hasF, within, h0]

/-- The error of a section. -/
def secE (s : Sect) (st : Int) : Int :=
  if endsF s.kind = 0 then 1
  else if (within s.len 10 3000 && within s.grade (-40) 40 && within s.speed 300 6000) = false then 2
  else if (decide (s.kind = 2) && !within s.slow 300 s.speed || decide (s.kind = 1) && !within s.station 0 st) = true then 2
  else if (decide (s.slow ≠ 0) && decide (s.kind ≠ 2) || decide (s.station ≠ 0) && decide (s.kind ≠ 1) || decide (s.grade ≠ 0) && decide (s.kind = 3)) = true then 1
  else 0
theorem secE_kind {s : Sect} {st : Int} (h : secE s st = 0) : 1 ≤ s.kind ∧ s.kind ≤ 3 := by
  have h1 : endsF s.kind ≠ 0 := fun e => by simp [secE, e] at h
  unfold endsF at h1
  grind

set_option maxHeartbeats 4000000 in
set_option maxRecDepth 20000 in
theorem f79 (s : Sect) (st : Int) : PCall Tryd.prog 79 [eSect s, .int .i64 st] (RV (.int .i64 (secE s st))) := by
  refine PCall.of_body Tryd.func79 rfl Tryd.ntmps79 (congrArg Array.toList Tryd.results79) ?_
  intro E
  simp only [go_sem, eSect]
  refine drawn (by kernel_rfl) (by kernel_rfl) ?_
  simp only [go_sem]
  intro nx _ _
  refine callV (f103 _) ?_
  intro nx2 lv2
  simp only [go_sem]
  repeat' first | (refine callV (f104 _ _ _) ?_; intro _ _; simp only [go_sem]) | refine And.intro ?_ ?_ | intro _
  all_goals (try simp_all [secE])
  all_goals trace_state

set_option maxHeartbeats 4000000 in
set_option maxRecDepth 20000 in
theorem f54 (s : Sect) (st : Int) : PCall Tryd.prog 54 [eSect s, .int .i64 st] (RV (.int .i64 (secE s st))) := by
  refine PCall.of_body Tryd.func54 rfl Tryd.ntmps54 (congrArg Array.toList Tryd.results54) ?_
  intro E
  by_cases a0 : s.kind < 1
  · simp (config := {maxSteps := 1000000}) only [go_sem, eSect, a0]
    have h0 : endsF s.kind = 0 := by unfold endsF; grind
    simp [secE, h0]
  by_cases a1 : 3 < s.kind
  · simp (config := {maxSteps := 1000000}) only [go_sem, eSect, a0, a1]
    have h0 : endsF s.kind = 0 := by unfold endsF; grind
    simp [secE, h0]
  by_cases a2 : s.len < 10
  · simp (config := {maxSteps := 1000000}) only [go_sem, eSect, a0, a1, a2]; grind [secE, endsF, within]
  by_cases a3 : 3000 < s.len
  · simp (config := {maxSteps := 1000000}) only [go_sem, eSect, a0, a1, a2, a3]; grind [secE, endsF, within]
  by_cases a4 : s.grade < -40
  · simp (config := {maxSteps := 1000000}) only [go_sem, eSect, a0, a1, a2, a3, a4]; grind [secE, endsF, within]
  by_cases a5 : 40 < s.grade
  · simp (config := {maxSteps := 1000000}) only [go_sem, eSect, a0, a1, a2, a3, a4, a5]; grind [secE, endsF, within]
  by_cases a6 : s.speed < 300
  · simp (config := {maxSteps := 1000000}) only [go_sem, eSect, a0, a1, a2, a3, a4, a5, a6]; grind [secE, endsF, within]
  by_cases a7 : 6000 < s.speed
  · simp (config := {maxSteps := 1000000}) only [go_sem, eSect, a0, a1, a2, a3, a4, a5, a6, a7]; grind [secE, endsF, within]
  have hk : s.kind = 1 ∨ s.kind = 2 ∨ s.kind = 3 := by omega
  rcases hk with k | k | k
  · by_cases b1 : s.station < 0
    · simp (config := {maxSteps := 1000000}) only [go_sem, eSect, k, a2, a3, a4, a5, a6, a7, b1]; grind [secE, endsF, within]
    by_cases b2 : st < s.station
    · simp (config := {maxSteps := 1000000}) only [go_sem, eSect, k, a2, a3, a4, a5, a6, a7, b1, b2]; grind [secE, endsF, within]
    simp (config := {maxSteps := 1000000}) only [go_sem, eSect, k, a2, a3, a4, a5, a6, a7, b1, b2]; grind [secE, endsF, within]
  · by_cases b1 : s.slow < 300
    · simp (config := {maxSteps := 1000000}) only [go_sem, eSect, k, a2, a3, a4, a5, a6, a7, b1]; grind [secE, endsF, within]
    by_cases b2 : s.speed < s.slow
    · simp (config := {maxSteps := 1000000}) only [go_sem, eSect, k, a2, a3, a4, a5, a6, a7, b1, b2]; grind [secE, endsF, within]
    simp (config := {maxSteps := 1000000}) only [go_sem, eSect, k, a2, a3, a4, a5, a6, a7, b1, b2]; grind [secE, endsF, within]
  · by_cases b1 : s.slow = 0
    · by_cases b2 : s.station = 0
      · simp (config := {maxSteps := 1000000}) only [go_sem, eSect, k, a2, a3, a4, a5, a6, a7, b1, b2]; grind [secE, endsF, within]
      · simp (config := {maxSteps := 1000000}) only [go_sem, eSect, k, a2, a3, a4, a5, a6, a7, b1, b2]; grind [secE, endsF, within]
    · simp (config := {maxSteps := 1000000}) only [go_sem, eSect, k, a2, a3, a4, a5, a6, a7, b1]; grind [secE, endsF, within]

/-- What is joined to an end. -/
def joinL : List Lnk → Int → Int → Option (Int × Int)
  | [], _, _ => none
  | l :: r, s, e => if l.a = s ∧ l.ea = e then some (l.b, l.eb) else if l.b = s ∧ l.eb = e then some (l.a, l.ea) else joinL r s e
def joinS (o : Option (Int × Int)) : Int := match o with
  | some p => p.1
  | none => 0
def joinE (o : Option (Int × Int)) : Int := match o with
  | some p => p.2
  | none => 0

set_option maxHeartbeats 4000000 in
set_option maxRecDepth 20000 in
theorem f108 (n : Net) (s e : Int) (hb : NetB n) : PCall Tryd.prog 108 [eNet n, .agg [.int .i64 s, .int .i64 e]]
    (RV (.tup [.agg [.int .i64 (joinS (joinL n.links s e)), .int .i64 (joinE (joinL n.links s e))], .bool (joinL n.links s e).isSome])) := by
  refine PCall.of_body Tryd.func108 rfl Tryd.ntmps108 (congrArg Array.toList Tryd.results108) ?_
  intro E
  have hlk := hb.lk
  simp only [go_sem, eNet, nCells]
  refine AW_loopH [5, 7, 11, 12, 13, 14, 15, 16, 17, 18, 19, 20, 21, 22, 23, 24, 25, 26, 27, 28, 29, 30, 31, 32, 33, 34, 35, 36, 37, 38, 39, 40, 41, 42, 43, 44, 45, 46, 47, 48, 49, 50, 51]
    (fun (i : Nat) ρ m => ρ 11 = .int .i64 (i : Int) ∧ i ≤ n.links.length ∧ joinL (n.links.drop i) s e = joinL n.links s e ∧
      ∃ h nx lv, m = ⟨h, [], nx, lv⟩ ∧ AB.hget h 3 = some (0, [.int .i64 s, .int .i64 e]) ∧ AB.hget h 4 = some (0, [.int .i64 0, .int .i64 0])) (fun i => n.links.length - i) 0 ?_ ?_
  · simp only [go_sem, List.drop_zero]
    exact ⟨Nat.zero_le _, _, _, _, rfl, by simp [go_sem]⟩
  · rintro i ρ m ⟨e1, g1, g2, h, nx, lv, rfl, hb3, hb4⟩ Q hN hR hX
    by_cases hlt : i < n.links.length
    · obtain ⟨p, hp⟩ : ∃ p, n.links[i]? = some p := ⟨_, List.getElem?_eq_getElem hlt⟩
      have hd : n.links.drop i = p :: n.links.drop (i + 1) := by
        rw [List.drop_eq_getElem_cons hlt]
        rw [List.getElem?_eq_getElem hlt] at hp
        cases hp; rfl
      rw [hd] at g2
      have hlt' : ((i : Int) < (n.links.length : Int)) = True := by simp; omega
      by_cases q1 : p.a = s ∧ p.ea = e
      · have r : joinL n.links s e = some (p.b, p.eb) := by rw [← g2]; simp [joinL, q1]
        simp (config := {maxSteps := 1000000}) (disch := omega) only [go_sem, e1, hN, hR, hX, hlt', hp, dLnk, i64_in, q1, r, joinS, joinE, Option.isSome, hb3, hb4]
        omega
      by_cases q2 : p.b = s ∧ p.eb = e
      · have r : joinL n.links s e = some (p.a, p.ea) := by rw [← g2]; simp [joinL, q1, q2]
        by_cases q3 : p.a = s
        · have q4 : ¬ p.ea = e := fun x => q1 ⟨q3, x⟩
          have q5 := q2.1
          have q6 := q2.2
          clear q2
          simp (config := {maxSteps := 1000000}) (disch := omega) only [go_sem, e1, hN, hR, hX, hlt', hp, dLnk, i64_in, q4, q5, q6, q3, r, joinS, joinE, Option.isSome, hb3, hb4]
          omega
        · simp (config := {maxSteps := 1000000}) (disch := omega) only [go_sem, e1, hN, hR, hX, hlt', hp, dLnk, i64_in, q2, q3, r, joinS, joinE, Option.isSome, hb3, hb4]
          omega
      have r : joinL (n.links.drop (i + 1)) s e = joinL n.links s e := by rw [← g2]; simp [joinL, q1, q2]
      by_cases q3 : p.a = s
      · have q4 : ¬ p.ea = e := fun x => q1 ⟨q3, x⟩
        by_cases q5 : p.b = s
        · have q6 : ¬ p.eb = e := fun x => q2 ⟨q5, x⟩
          simp (config := {maxSteps := 1000000}) (disch := omega) only [go_sem, e1, hN, hR, hX, hlt', hp, dLnk, i64_in, q3, q4, q5, q6, hb3, hb4]
          refine ⟨by omega, by kernel_rfl, i + 1, ?_, by simp only; omega⟩
          simp only [go_sem]
          exact ⟨by simp, by omega, r, _, _, _, rfl, by simp [go_sem, hb3], by simp [go_sem, hb4]⟩
        · simp (config := {maxSteps := 1000000}) (disch := omega) only [go_sem, e1, hN, hR, hX, hlt', hp, dLnk, i64_in, q3, q4, q5, hb3, hb4]
          refine ⟨by omega, by kernel_rfl, i + 1, ?_, by simp only; omega⟩
          simp only [go_sem]
          exact ⟨by simp, by omega, r, _, _, _, rfl, by simp [go_sem, hb3], by simp [go_sem, hb4]⟩
      · by_cases q5 : p.b = s
        · have q6 : ¬ p.eb = e := fun x => q2 ⟨q5, x⟩
          simp (config := {maxSteps := 1000000}) (disch := omega) only [go_sem, e1, hN, hR, hX, hlt', hp, dLnk, i64_in, q3, q5, q6, hb3, hb4]
          refine ⟨by omega, by kernel_rfl, i + 1, ?_, by simp only; omega⟩
          simp only [go_sem]
          exact ⟨by simp, by omega, r, _, _, _, rfl, by simp [go_sem, hb3], by simp [go_sem, hb4]⟩
        · simp (config := {maxSteps := 1000000}) (disch := omega) only [go_sem, e1, hN, hR, hX, hlt', hp, dLnk, i64_in, q3, q5, hb3, hb4]
          refine ⟨by omega, by kernel_rfl, i + 1, ?_, by simp only; omega⟩
          simp only [go_sem]
          exact ⟨by simp, by omega, r, _, _, _, rfl, by simp [go_sem, hb3], by simp [go_sem, hb4]⟩
    · have hlt' : ((i : Int) < (n.links.length : Int)) = False := by simp; omega
      rw [List.drop_eq_nil_of_le (by omega)] at g2
      simp (config := {maxSteps := 1000000}) (disch := omega) only [go_sem, e1, hN, hR, hX, hlt', ← g2, joinL, joinS, joinE, Option.isSome, hb3, hb4]

set_option maxHeartbeats 4000000 in
set_option maxRecDepth 20000 in
theorem f87 (n : Net) (s e : Int) (hb : NetB n) : PCall Tryd.prog 87 [eNet n, .int .i64 s, .int .i64 e]
    (RV (.tup [.int .i64 (joinS (joinL n.links s e)), .int .i64 (joinE (joinL n.links s e)), .bool (joinL n.links s e).isSome])) := by
  refine PCall.of_body Tryd.func87 rfl Tryd.ntmps87 (congrArg Array.toList Tryd.results87) ?_
  intro E
  have hlk := hb.lk
  simp only [go_sem, eNet, nCells]
  refine AW_loopH [6, 7, 8, 10, 14, 15, 16, 17, 18, 19, 20, 21, 22, 23, 24, 25, 26, 27, 28, 29, 30, 31, 32, 33, 34, 35, 36, 37, 38, 39, 40, 41, 42, 43, 44, 45, 46]
    (fun (i : Nat) ρ m => ρ 14 = .int .i64 (i : Int) ∧ i ≤ n.links.length ∧ joinL (n.links.drop i) s e = joinL n.links s e ∧
      ∃ h nx lv, m = ⟨h, [], nx, lv⟩) (fun i => n.links.length - i) 0 ?_ ?_
  · simp only [go_sem, List.drop_zero]
    exact ⟨Nat.zero_le _, _, _, _, rfl⟩
  · rintro i ρ m ⟨e1, g1, g2, h, nx, lv, rfl⟩ Q hN hR hX
    by_cases hlt : i < n.links.length
    · obtain ⟨p, hp⟩ : ∃ p, n.links[i]? = some p := ⟨_, List.getElem?_eq_getElem hlt⟩
      have hd : n.links.drop i = p :: n.links.drop (i + 1) := by
        rw [List.drop_eq_getElem_cons hlt]
        rw [List.getElem?_eq_getElem hlt] at hp
        cases hp; rfl
      rw [hd] at g2
      have hlt' : ((i : Int) < (n.links.length : Int)) = True := by simp; omega
      by_cases q1 : p.a = s ∧ p.ea = e
      · have r : joinL n.links s e = some (p.b, p.eb) := by rw [← g2]; simp [joinL, q1]
        simp (config := {maxSteps := 1000000}) (disch := omega) only [go_sem, e1, hN, hR, hX, hlt', hp, dLnk, i64_in, q1, r, joinS, joinE, Option.isSome]
        refine ⟨by omega, ?_⟩
        refine drawn (by kernel_rfl) (by kernel_rfl) ?_
        simp (config := {maxSteps := 1000000}) only [go_sem, hN, hR, hX, r, joinS, joinE, Option.isSome]
      by_cases q2 : p.b = s ∧ p.eb = e
      · have r : joinL n.links s e = some (p.a, p.ea) := by rw [← g2]; simp [joinL, q1, q2]
        by_cases q3 : p.a = s
        · have q4 : ¬ p.ea = e := fun x => q1 ⟨q3, x⟩
          have q5 := q2.1
          have q6 := q2.2
          clear q2
          simp (config := {maxSteps := 1000000}) (disch := omega) only [go_sem, e1, hN, hR, hX, hlt', hp, dLnk, i64_in, q4, q5, q6, q3, r, joinS, joinE, Option.isSome]
          refine ⟨by omega, ?_⟩
          refine drawn (by kernel_rfl) (by kernel_rfl) ?_
          simp (config := {maxSteps := 1000000}) only [go_sem, hN, hR, hX, r, joinS, joinE, Option.isSome]
          intro _ _ _ _
          exact q3.symm
        · simp (config := {maxSteps := 1000000}) (disch := omega) only [go_sem, e1, hN, hR, hX, hlt', hp, dLnk, i64_in, q2, q3, r, joinS, joinE, Option.isSome]
          refine ⟨by omega, ?_⟩
          refine drawn (by kernel_rfl) (by kernel_rfl) ?_
          simp (config := {maxSteps := 1000000}) only [go_sem, hN, hR, hX, r, joinS, joinE, Option.isSome]
      have r : joinL (n.links.drop (i + 1)) s e = joinL n.links s e := by rw [← g2]; simp [joinL, q1, q2]
      by_cases q3 : p.a = s
      · have q4 : ¬ p.ea = e := fun x => q1 ⟨q3, x⟩
        by_cases q5 : p.b = s
        · have q6 : ¬ p.eb = e := fun x => q2 ⟨q5, x⟩
          simp (config := {maxSteps := 1000000}) (disch := omega) only [go_sem, e1, hN, hR, hX, hlt', hp, dLnk, i64_in, q3, q4, q5, q6]
          refine ⟨by omega, by kernel_rfl, i + 1, ?_, by simp only; omega⟩
          simp only [go_sem]
          exact ⟨by simp, by omega, r, _, _, _, rfl⟩
        · simp (config := {maxSteps := 1000000}) (disch := omega) only [go_sem, e1, hN, hR, hX, hlt', hp, dLnk, i64_in, q3, q4, q5]
          refine ⟨by omega, by kernel_rfl, i + 1, ?_, by simp only; omega⟩
          simp only [go_sem]
          exact ⟨by simp, by omega, r, _, _, _, rfl⟩
      · by_cases q5 : p.b = s
        · have q6 : ¬ p.eb = e := fun x => q2 ⟨q5, x⟩
          simp (config := {maxSteps := 1000000}) (disch := omega) only [go_sem, e1, hN, hR, hX, hlt', hp, dLnk, i64_in, q3, q5, q6]
          refine ⟨by omega, by kernel_rfl, i + 1, ?_, by simp only; omega⟩
          simp only [go_sem]
          exact ⟨by simp, by omega, r, _, _, _, rfl⟩
        · simp (config := {maxSteps := 1000000}) (disch := omega) only [go_sem, e1, hN, hR, hX, hlt', hp, dLnk, i64_in, q3, q5]
          refine ⟨by omega, by kernel_rfl, i + 1, ?_, by simp only; omega⟩
          simp only [go_sem]
          exact ⟨by simp, by omega, r, _, _, _, rfl⟩
    · have hlt' : ((i : Int) < (n.links.length : Int)) = False := by simp; omega
      rw [List.drop_eq_nil_of_le (by omega)] at g2
      simp (config := {maxSteps := 1000000}) (disch := omega) only [go_sem, e1, hN, hR, hX, hlt', ← g2, joinL, joinS, joinE, Option.isSome]
end Go.Proofs.YtkfhieigdlfbeaaDoor
