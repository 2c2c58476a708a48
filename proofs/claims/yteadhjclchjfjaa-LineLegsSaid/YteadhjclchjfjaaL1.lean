/- Nets: the places that package line tells of. -/
import Derived.Test.YteadhjclchjfjaaL121
namespace Go.Proofs.Yteadhjclchjfjaa
set_option linter.unusedSimpArgs false
set_option linter.unusedVariables false
open Go.AB

theorem netE_kinds {n : Net} (h : netE n = 0) : KindsOk n := by
  unfold netE at h
  split at h
  · cases h
  · split at h
    · cases h
    · split at h
      · rename_i h1; exact absurd h h1
      · split at h
        · rename_i h1; exact absurd h h1
        · rename_i h1
          exact secs_kinds (by simpa using h1)
theorem netE_small {n : Net} (h : netE n = 0) : ¬ bigN n := by
  intro hb
  unfold netE at h
  by_cases c : n.sects.length = 0 <;> simp [c, hb] at h
theorem within_iff {n a b : Int} : within n a b = true ↔ a ≤ n ∧ n ≤ b := by simp [within]

def endErr (n : Net) (s e : Int) : Int := if netE n ≠ 0 then netE n else if hasF n s e = false then 3 else 0
def endsE (n : Net) (s : Int) : Int := if netE n ≠ 0 then netE n else if within s 0 (n.sects.length - 1) = false then 3 else 0
def endsV (n : Net) (s : Int) : Int := if endsE n s ≠ 0 then 0 else endsF (kindAt n s)

set_option maxHeartbeats 1000000 in
set_option maxRecDepth 20000 in
theorem f12 (n : Net) (s : Int) (hb : NetB n) : PCall Try.prog 12 [eNet n, .int .i64 s] (RV (.tup [.int .i64 (endsV n s), .int .i64 (endsE n s)])) := by
  refine PCall.of_body Try.func12 rfl Try.ntmps12 (congrArg Array.toList Try.results12) ?_
  intro E
  have hsc := hb.sc
  have ew : IntKind.i64.wrap ((n.sects.length : Int) - 1) = (n.sects.length : Int) - 1 := i64_in (by omega) (by omega)
  simp only [go_sem, eNet, nCells]
  refine callV (f55 n hb) ?_
  intro nx lv
  by_cases h : netE n = 0
  · simp only [go_sem, h, ew]
    refine callV (f56 _ _ _) ?_
    intro nx2 lv2
    by_cases hw : within s 0 (n.sects.length - 1) = true
    · have h2 := within_iff.1 hw
      obtain ⟨c, hc⟩ : ∃ c, n.sects[s.toNat]? = some c := ⟨_, List.getElem?_eq_getElem (by omega)⟩
      have hk : kindAt n s = c.kind := by simp [kindAt, hc]
      have h0 : ((0 : Int) ≤ s) = True := by simp; omega
      simp only [go_sem, hw, hc, dSect, h0]
      refine callV (f57 _) ?_
      intro nx3 lv3
      simp [go_sem, endsV, endsE, h, hw, hk]
    · have hw : within s 0 (n.sects.length - 1) = false := by simpa using hw
      simp only [go_sem, hw]
      simp [endsV, endsE, h, hw]
  · simp only [go_sem, h]
    simp [endsV, endsE, h]

set_option maxHeartbeats 1000000 in
set_option maxRecDepth 20000 in
theorem f58 (n : Net) (s e : Int) (hb : NetB n) : PCall Try.prog 58 [eNet n, .agg [.int .i64 s, .int .i64 e]] (RV (.int .i64 (endErr n s e))) := by
  refine PCall.of_body Try.func58 rfl Try.ntmps58 (congrArg Array.toList Try.results58) ?_
  intro E
  simp only [go_sem, eNet, nCells]
  refine callV (f55 n hb) ?_
  intro nx lv
  by_cases h : netE n = 0
  · simp only [go_sem, h]
    refine callV (f72 n s e hb) ?_
    intro nx2 lv2
    by_cases hw : hasF n s e = true
    · simp only [go_sem, hw]
      simp [endErr, h, hw]
    · have hw : hasF n s e = false := by simpa using hw
      simp only [go_sem, hw]
      simp [endErr, h, hw]
  · simp only [go_sem, h]
    simp [endErr, h]

def nextE (n : Net) (s e : Int) : Int := if endErr n s e ≠ 0 then endErr n s e else if (joinL n.links s e).isSome = false then 9 else 0
def nextS (n : Net) (s e : Int) : Int := if nextE n s e ≠ 0 then 0 else joinS (joinL n.links s e)
def nextI (n : Net) (s e : Int) : Int := if nextE n s e ≠ 0 then 0 else joinE (joinL n.links s e)

set_option maxHeartbeats 1000000 in
set_option maxRecDepth 20000 in
theorem f13 (n : Net) (s e : Int) (hb : NetB n) : PCall Try.prog 13 [eNet n, .int .i64 s, .int .i64 e] (RV (.tup [.int .i64 (nextS n s e), .int .i64 (nextI n s e), .int .i64 (nextE n s e)])) := by
  refine PCall.of_body Try.func13 rfl Try.ntmps13 (congrArg Array.toList Try.results13) ?_
  intro E
  simp only [go_sem, eNet, nCells]
  refine callV (f58 n s e hb) ?_
  intro nx lv
  by_cases h : endErr n s e = 0
  · simp only [go_sem, h]
    refine callV (f59 n s e hb) ?_
    intro nx2 lv2
    by_cases hj : (joinL n.links s e).isSome = true
    · simp only [go_sem, hj]
      refine drawn (by kernel_rfl) (by kernel_rfl) ?_
      simp only [go_sem]
      intro _ _ _ _
      simp [nextS, nextI, nextE, h, hj]
    · have hj : (joinL n.links s e).isSome = false := by simpa using hj
      simp only [go_sem, hj]
      simp [nextS, nextI, nextE, h, hj]
  · simp only [go_sem, h]
    simp [nextS, nextI, nextE, h]

/-- The ends by which one can leave. -/
def outsF (k e : Int) : List Int := if k = 2 ∧ e = 0 then [1, 2] else if k = 2 then [0] else [bits .xor .i64 e 1]
def lInts (l : List Int) : AV := .sl 1 (l.map fun x => DV.int .i64 x) .no

set_option maxHeartbeats 1000000 in
theorem f60 (k e : Int) : PCall Try.prog 60 [.int .i64 k, .int .i64 e] (RV (lInts (outsF k e))) := by
  refine PCall.of_bodyE Try.func60 rfl Try.ntmps60 (congrArg Array.toList Try.results60) ?_
  intro E
  by_cases h1 : k = 2
  · by_cases h2 : e = 0
    · simp only [go_sem, h1, h2]
      simp [lInts, outsF, h1, h2, go_sem]
    · simp only [go_sem, h1, h2]
      simp [lInts, outsF, h1, h2, go_sem]
  · simp only [go_sem, h1]
    simp [lInts, outsF, h1, go_sem]

def outsV (n : Net) (s e : Int) : List Int := if endErr n s e ≠ 0 then [] else outsF (kindAt n s) e
theorem hasF_iff {n : Net} {s e : Int} : hasF n s e = true ↔ (0 ≤ s ∧ s ≤ n.sects.length - 1) ∧ (0 ≤ e ∧ e ≤ endsF (kindAt n s) - 1) := by simp [hasF, within]

set_option maxHeartbeats 1000000 in
set_option maxRecDepth 20000 in
theorem f14 (n : Net) (s e : Int) (hb : NetB n) : PCall Try.prog 14 [eNet n, .int .i64 s, .int .i64 e] (RV (.tup [lInts (outsV n s e), .int .i64 (endErr n s e)])) := by
  refine PCall.of_bodyE Try.func14 rfl Try.ntmps14 (congrArg Array.toList Try.results14) ?_
  intro E
  simp only [go_sem, eNet, nCells]
  refine callV (f58 n s e hb) ?_
  intro nx lv
  by_cases h : endErr n s e = 0
  · have hh : hasF n s e = true := by
      unfold endErr at h
      split at h
      · rename_i h1; exact absurd h h1
      · split at h
        · cases h
        · rename_i h1; simpa using h1
    have h2 := (hasF_iff.1 hh).1
    obtain ⟨c, hc⟩ : ∃ c, n.sects[s.toNat]? = some c := ⟨_, List.getElem?_eq_getElem (by omega)⟩
    have hk : kindAt n s = c.kind := by simp [kindAt, hc]
    have h0 : ((0 : Int) ≤ s) = True := by simp; omega
    simp only [go_sem, h, hc, dSect, h0]
    refine callV (f60 _ _) ?_
    intro nx2 lv2
    simp [go_sem, lInts, outsV, h, hk]
  · simp only [go_sem, h]
    simp [lInts, outsV, h, go_sem]

/-- The number of the signal at an end. -/
def sigIdx : List Pair → Int → Int → Int → Int
  | [], _, _, _ => -1
  | g :: r, s, e, i => if g.s = s ∧ g.e = e then i else sigIdx r s e (i + 1)

set_option maxHeartbeats 1000000 in
set_option maxRecDepth 20000 in
theorem f70 (l : List Pair) (s e : Int) (hl : l.length ≤ 140737488351232) : PCall Try.prog 70 [.sl 2 (l.map dPair) .no, .agg [.int .i64 s, .int .i64 e]] (RV (.int .i64 (sigIdx l s e 0))) := by
  refine PCall.of_body Try.func70 rfl Try.ntmps70 (congrArg Array.toList Try.results70) ?_
  intro E
  simp only [go_sem]
  refine AW_loopH [4, 5, 8, 9, 10, 11, 12, 13, 14, 15, 16, 17, 18]
    (fun (i : Nat) ρ m => ρ 8 = .int .i64 (i : Int) ∧ i ≤ l.length ∧ sigIdx (l.drop i) s e (i : Int) = sigIdx l s e 0 ∧ ∃ nx lv, m = ⟨[(3, 0, [.int .i64 s, .int .i64 e])], [], nx, lv⟩) (fun i => l.length - i) 0 ?_ ?_
  · simp [go_sem]
  · rintro i ρ m ⟨e1, g1, g2, nx, lv, rfl⟩ Q hN hR hX
    by_cases hlt : i < l.length
    · obtain ⟨p, hp⟩ : ∃ p, l[i]? = some p := ⟨_, List.getElem?_eq_getElem hlt⟩
      have hd : l.drop i = p :: l.drop (i + 1) := by
        rw [List.drop_eq_getElem_cons hlt]
        rw [List.getElem?_eq_getElem hlt] at hp
        cases hp; rfl
      have hlt' : ((i : Int) < (l.length : Int)) = True := by simp; omega
      have h0 : ((0 : Int) ≤ (i : Int)) = True := by simp
      have ew : IntKind.i64.wrap ((i : Int) + 1) = (i : Int) + 1 := i64_in (by omega) (by omega)
      rw [hd, show sigIdx (p :: l.drop (i + 1)) s e (i : Int) = if p.s = s ∧ p.e = e then (i : Int) else sigIdx (l.drop (i + 1)) s e (i + 1) from rfl] at g2
      simp only [go_sem, e1, hlt']
      refine drawn (by kernel_rfl) (by kernel_rfl) ?_
      by_cases q : p.s = s ∧ p.e = e
      · rw [if_pos q] at g2
        have q1 : (s = p.s) = True := eq_true q.1.symm
        have q2 : (e = p.e) = True := eq_true q.2.symm
        simp only [go_sem, hp, dPair, h0, hR, q1, q2]
        intro _ _ _ _
        exact g2
      · rw [if_neg q] at g2
        by_cases q1 : s = p.s
        · have q2 : ¬ e = p.e := fun x => q ⟨q1.symm, x.symm⟩
          have q1' : (s = p.s) = True := eq_true q1
          have q2' : (e = p.e) = False := eq_false q2
          simp only [go_sem, hp, dPair, h0, hN, ew, q1', q2']
          refine fun _ _ _ _ => ⟨by kernel_rfl, i + 1, ?_, by simp only; omega⟩
          simp only [go_sem]
          exact ⟨by simp, by omega, by simpa using g2, _, _, rfl⟩
        · have q1' : (s = p.s) = False := eq_false q1
          simp only [go_sem, hp, dPair, h0, hN, ew, q1']
          refine fun _ _ _ _ => ⟨by kernel_rfl, i + 1, ?_, by simp only; omega⟩
          simp only [go_sem]
          exact ⟨by simp, by omega, by simpa using g2, _, _, rfl⟩
    · have hlt' : ((i : Int) < (l.length : Int)) = False := by simp; omega
      rw [List.drop_eq_nil_of_le (by omega)] at g2
      simp only [go_sem, e1, hX, hlt']
      exact g2

set_option maxRecDepth 20000 in
theorem f61 (n : Net) (s e : Int) (hb : NetB n) : PCall Try.prog 61 [eNet n, .agg [.int .i64 s, .int .i64 e]] (RV (.int .i64 (sigIdx n.sigs s e 0))) := by
  refine PCall.of_body Try.func61 rfl Try.ntmps61 (congrArg Array.toList Try.results61) ?_
  intro E
  simp only [go_sem, eNet, nCells]
  refine callV (f70 n.sigs s e hb.sg) ?_
  intro nx lv
  simp only [go_sem]

def sigE2 (n : Net) (s e : Int) : Int := if endErr n s e ≠ 0 then endErr n s e else if sigIdx n.sigs s e 0 < 0 then 9 else 0
def sigV (n : Net) (s e : Int) : Int := if sigE2 n s e ≠ 0 then 0 else sigIdx n.sigs s e 0

set_option maxHeartbeats 1000000 in
set_option maxRecDepth 20000 in
theorem f15 (n : Net) (s e : Int) (hb : NetB n) : PCall Try.prog 15 [eNet n, .int .i64 s, .int .i64 e] (RV (.tup [.int .i64 (sigV n s e), .int .i64 (sigE2 n s e)])) := by
  refine PCall.of_body Try.func15 rfl Try.ntmps15 (congrArg Array.toList Try.results15) ?_
  intro E
  simp only [go_sem, eNet, nCells]
  refine callV (f58 n s e hb) ?_
  intro nx lv
  by_cases h : endErr n s e = 0
  · simp only [go_sem, h]
    refine callV (f61 n s e hb) ?_
    intro nx2 lv2
    by_cases hj : sigIdx n.sigs s e 0 < 0
    · simp only [go_sem, hj]
      simp [sigV, sigE2, h, hj]
    · simp only [go_sem, hj]
      simp [sigV, sigE2, h, hj]
  · simp only [go_sem, h]
    simp [sigV, sigE2, h]

/-- The sections with a station. -/
def platF (l : List Sect) (st : Int) : Nat → List Int
  | 0 => []
  | k + 1 => platF l st k ++ (match l[k]? with
    | some s => if s.station = IntKind.i64.wrap (st + 1) then [(k : Int)] else []
    | none => [])

set_option maxHeartbeats 1000000 in
set_option maxRecDepth 20000 in
theorem f62 (n : Net) (st : Int) (hb : NetB n) (h60 : n.sects.length ≤ 60) : PCall Try.prog 62 [eNet n, .int .i64 st] (RV (lInts (platF n.sects st n.sects.length))) := by
  refine PCall.of_bodyE Try.func62 rfl Try.ntmps62 (congrArg Array.toList Try.results62) ?_
  intro E
  have hsc := hb.sc
  simp only [go_sem, eNet, nCells]
  refine AW_loopH [5, 6, 7, 11, 12, 13, 14, 15, 16, 17, 18, 19, 20, 21, 22, 23, 24, 25]
    (fun (i : Nat) ρ m => ρ 11 = .int .i64 (i : Int) ∧ i ≤ n.sects.length ∧ (∃ tok, ρ 5 = .sl 1 ((platF n.sects st i).map fun x => DV.int .i64 x) tok ∧ okT m tok) ∧ (platF n.sects st i).length ≤ i ∧ ∃ h nx lv, m = ⟨h, [], nx, lv⟩) (fun i => n.sects.length - i) 0 ?_ ?_
  · simp [go_sem, platF]
  · rintro i ρ m ⟨e1, g1, ⟨tok, e5, hok⟩, g3, h, nx, lv, rfl⟩ Q hN hR hX
    by_cases hlt : i < n.sects.length
    · obtain ⟨p, hp⟩ : ∃ p, n.sects[i]? = some p := ⟨_, List.getElem?_eq_getElem hlt⟩
      have hlt' : ((i : Int) < (n.sects.length : Int)) = True := by simp; omega
      have h0 : ((0 : Int) ≤ (i : Int)) = True := by simp
      have ew : IntKind.i64.wrap ((i : Int) + 1) = (i : Int) + 1 := i64_in (by omega) (by omega)
      have hps : platF n.sects st (i + 1) = platF n.sects st i ++ (if p.station = IntKind.i64.wrap (st + 1) then [(i : Int)] else []) := by simp [platF, hp]
      by_cases q : p.station = IntKind.i64.wrap (st + 1)
      · have hps' : platF n.sects st (i + 1) = platF n.sects st i ++ [(i : Int)] := by rw [hps, if_pos q]
        simp only [go_sem, e1, hlt', h0, hp, dSect, q, e5, hN, ew]
        refine ⟨okT_mono hok (fun j x => .inr x), by omega, by kernel_rfl, i + 1, ?_, by simp only; omega⟩
        simp only [go_sem, hps', List.map_append]
        exact ⟨by simp, by omega, .inl trivial, by simp; omega, _, _, _, rfl⟩
      · have hps' : platF n.sects st (i + 1) = platF n.sects st i := by rw [hps, if_neg q, List.append_nil]
        simp only [go_sem, e1, hlt', h0, hp, dSect, q, e5, hN, ew]
        refine ⟨by kernel_rfl, i + 1, ?_, by simp only; omega⟩
        simp only [go_sem, hps']
        exact ⟨by simp, by omega, okT_mono hok (fun j x => x), by omega, _, _, _, rfl⟩
    · have hlt' : ((i : Int) < (n.sects.length : Int)) = False := by simp; omega
      have hi : i = n.sects.length := by omega
      subst hi
      simp only [go_sem, e1, hX, hlt', e5]
      simp [lInts, go_sem]

def platE (n : Net) (st : Int) : Int := if netE n ≠ 0 then netE n else if within st 0 (n.names.length - 1) = false then 3 else 0
def platV (n : Net) (st : Int) : List Int := if platE n st ≠ 0 then [] else platF n.sects st n.sects.length

set_option maxHeartbeats 1000000 in
set_option maxRecDepth 20000 in
theorem f16 (n : Net) (st : Int) (hb : NetB n) : PCall Try.prog 16 [eNet n, .int .i64 st] (RV (.tup [lInts (platV n st), .int .i64 (platE n st)])) := by
  refine PCall.of_bodyE Try.func16 rfl Try.ntmps16 (congrArg Array.toList Try.results16) ?_
  intro E
  have hnm := hb.nm
  have ew : IntKind.i64.wrap ((n.names.length : Int) - 1) = (n.names.length : Int) - 1 := i64_in (by omega) (by omega)
  simp only [go_sem, eNet, nCells]
  refine callV (f55 n hb) ?_
  intro nx lv
  by_cases h : netE n = 0
  · have hbg := netE_small h
    unfold bigN at hbg
    simp only [go_sem, h, ew]
    refine callV (f56 _ _ _) ?_
    intro nx2 lv2
    by_cases hw : within st 0 (n.names.length - 1) = true
    · simp only [go_sem, hw]
      refine callV (f62 n st hb (by omega)) ?_
      intro nx3 lv3
      simp [go_sem, lInts, platV, platE, h, hw]
    · have hw : within st 0 (n.names.length - 1) = false := by simpa using hw
      simp only [go_sem, hw]
      simp [go_sem, lInts, platV, platE, h, hw]
  · simp only [go_sem, h]
    simp [go_sem, lInts, platV, platE, h]
end Go.Proofs.Yteadhjclchjfjaa
