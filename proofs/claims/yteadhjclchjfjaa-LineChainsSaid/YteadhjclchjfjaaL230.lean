/- Nets: the places that package line tells of. -/
import Derived.Test.YteadhjclchjfjaaL220
import Derived.Test.YteadhjclchjfjaaB150
namespace Go.Proofs.Yteadhjclchjfjaa
set_option linter.unusedSimpArgs false
set_option linter.unusedVariables false
open Go.AB

theorem netE_kinds {n : Net} (h : netE n = 0) : KindsOk n := by
  unfold netE at h
  split at h
  · cases h
  · split at h
    · cases h
    · split at h
      · rename_i h1; exact absurd h h1
      · split at h
        · rename_i h1; exact absurd h h1
        · rename_i h1
          exact secs_kinds (by simpa using h1)
theorem netE_small {n : Net} (h : netE n = 0) : ¬ bigN n := by
  intro hb
  unfold netE at h
  by_cases c : n.sects.length = 0 <;> simp [c, hb] at h
theorem within_iff {n a b : Int} : within n a b = true ↔ a ≤ n ∧ n ≤ b := by simp [within]

def endErr (n : Net) (s e : Int) : Int := if netE n ≠ 0 then netE n else if hasF n s e = false then 3 else 0
def endsE (n : Net) (s : Int) : Int := if netE n ≠ 0 then netE n else if within s 0 (n.sects.length - 1) = false then 3 else 0
def endsV (n : Net) (s : Int) : Int := if endsE n s ≠ 0 then 0 else endsF (kindAt n s)

set_option maxHeartbeats 1000000 in
set_option maxRecDepth 20000 in
theorem f12 (n : Net) (s : Int) (hb : NetB n) : PCall Try.prog 12 [eNet n, .int .i64 s] (RV (.tup [.int .i64 (endsV n s), .int .i64 (endsE n s)])) := by
  refine PCall.of_body Try.func12 rfl Try.ntmps12 (congrArg Array.toList Try.results12) ?_
  intro E
  have hsc := hb.sc
  have ew : IntKind.i64.wrap ((n.sects.length : Int) - 1) = (n.sects.length : Int) - 1 := i64_in (by omega) (by omega)
  simp only [go_sem, eNet, nCells]
  refine callV (f55 n hb) ?_
  intro nx lv
  by_cases h : netE n = 0
  · simp only [go_sem, h, ew]
    refine callV (f56 _ _ _) ?_
    intro nx2 lv2
    by_cases hw : within s 0 (n.sects.length - 1) = true
    · have h2 := within_iff.1 hw
      obtain ⟨c, hc⟩ : ∃ c, n.sects[s.toNat]? = some c := ⟨_, List.getElem?_eq_getElem (by omega)⟩
      have hk : kindAt n s = c.kind := by simp [kindAt, hc]
      have h0 : ((0 : Int) ≤ s) = True := by simp; omega
      simp only [go_sem, hw, hc, dSect, h0]
      refine callV (f57 _) ?_
      intro nx3 lv3
      simp [go_sem, endsV, endsE, h, hw, hk]
    · have hw : within s 0 (n.sects.length - 1) = false := by simpa using hw
      simp only [go_sem, hw]
      simp [endsV, endsE, h, hw]
  · simp only [go_sem, h]
    simp [endsV, endsE, h]

set_option maxHeartbeats 1000000 in
set_option maxRecDepth 20000 in
theorem f58 (n : Net) (s e : Int) (hb : NetB n) : PCall Try.prog 58 [eNet n, .agg [.int .i64 s, .int .i64 e]] (RV (.int .i64 (endErr n s e))) := by
  refine PCall.of_body Try.func58 rfl Try.ntmps58 (congrArg Array.toList Try.results58) ?_
  intro E
  simp only [go_sem, eNet, nCells]
  refine callV (f55 n hb) ?_
  intro nx lv
  by_cases h : netE n = 0
  · simp only [go_sem, h]
    refine callV (f72 n s e hb) ?_
    intro nx2 lv2
    by_cases hw : hasF n s e = true
    · simp only [go_sem, hw]
      simp [endErr, h, hw]
    · have hw : hasF n s e = false := by simpa using hw
      simp only [go_sem, hw]
      simp [endErr, h, hw]
  · simp only [go_sem, h]
    simp [endErr, h]

def nextE (n : Net) (s e : Int) : Int := if endErr n s e ≠ 0 then endErr n s e else if (joinL n.links s e).isSome = false then 9 else 0
def nextS (n : Net) (s e : Int) : Int := if nextE n s e ≠ 0 then 0 else joinS (joinL n.links s e)
def nextI (n : Net) (s e : Int) : Int := if nextE n s e ≠ 0 then 0 else joinE (joinL n.links s e)

set_option maxHeartbeats 1000000 in
set_option maxRecDepth 20000 in
theorem f13 (n : Net) (s e : Int) (hb : NetB n) : PCall Try.prog 13 [eNet n, .int .i64 s, .int .i64 e] (RV (.tup [.int .i64 (nextS n s e), .int .i64 (nextI n s e), .int .i64 (nextE n s e)])) := by
  refine PCall.of_body Try.func13 rfl Try.ntmps13 (congrArg Array.toList Try.results13) ?_
  intro E
  simp only [go_sem, eNet, nCells]
  refine callV (f58 n s e hb) ?_
  intro nx lv
  by_cases h : endErr n s e = 0
  · simp only [go_sem, h]
    refine callV (f59 n s e hb) ?_
    intro nx2 lv2
    by_cases hj : (joinL n.links s e).isSome = true
    · simp only [go_sem, hj]
      refine drawn (by kernel_rfl) (by kernel_rfl) ?_
      simp only [go_sem]
      intro _ _ _ _
      simp [nextS, nextI, nextE, h, hj]
    · have hj : (joinL n.links s e).isSome = false := by simpa using hj
      simp only [go_sem, hj]
      simp [nextS, nextI, nextE, h, hj]
  · simp only [go_sem, h]
    simp [nextS, nextI, nextE, h]

/-- The ends by which one can leave. -/
def outsF (k e : Int) : List Int := if k = 2 ∧ e = 0 then [1, 2] else if k = 2 then [0] else [bits .xor .i64 e 1]
def lInts (l : List Int) : AV := .sl 1 (l.map fun x => DV.int .i64 x) .no

set_option maxHeartbeats 1000000 in
theorem f60 (k e : Int) : PCall Try.prog 60 [.int .i64 k, .int .i64 e] (RV (lInts (outsF k e))) := by
  refine PCall.of_bodyE Try.func60 rfl Try.ntmps60 (congrArg Array.toList Try.results60) ?_
  intro E
  by_cases h1 : k = 2
  · by_cases h2 : e = 0
    · simp only [go_sem, h1, h2]
      simp [lInts, outsF, h1, h2, go_sem]
    · simp only [go_sem, h1, h2]
      simp [lInts, outsF, h1, h2, go_sem]
  · simp only [go_sem, h1]
    simp [lInts, outsF, h1, go_sem]

def outsV (n : Net) (s e : Int) : List Int := if endErr n s e ≠ 0 then [] else outsF (kindAt n s) e
theorem hasF_iff {n : Net} {s e : Int} : hasF n s e = true ↔ (0 ≤ s ∧ s ≤ n.sects.length - 1) ∧ (0 ≤ e ∧ e ≤ endsF (kindAt n s) - 1) := by simp [hasF, within]

set_option maxHeartbeats 1000000 in
set_option maxRecDepth 20000 in
theorem f14 (n : Net) (s e : Int) (hb : NetB n) : PCall Try.prog 14 [eNet n, .int .i64 s, .int .i64 e] (RV (.tup [lInts (outsV n s e), .int .i64 (endErr n s e)])) := by
  refine PCall.of_bodyE Try.func14 rfl Try.ntmps14 (congrArg Array.toList Try.results14) ?_
  intro E
  simp only [go_sem, eNet, nCells]
  refine callV (f58 n s e hb) ?_
  intro nx lv
  by_cases h : endErr n s e = 0
  · have hh : hasF n s e = true := by
      unfold endErr at h
      split at h
      · rename_i h1; exact absurd h h1
      · split at h
        · cases h
        · rename_i h1; simpa using h1
    have h2 := (hasF_iff.1 hh).1
    obtain ⟨c, hc⟩ : ∃ c, n.sects[s.toNat]? = some c := ⟨_, List.getElem?_eq_getElem (by omega)⟩
    have hk : kindAt n s = c.kind := by simp [kindAt, hc]
    have h0 : ((0 : Int) ≤ s) = True := by simp; omega
    simp only [go_sem, h, hc, dSect, h0]
    refine callV (f60 _ _) ?_
    intro nx2 lv2
    simp [go_sem, lInts, outsV, h, hk]
  · simp only [go_sem, h]
    simp [lInts, outsV, h, go_sem]

/-- The number of the signal at an end. -/
def sigIdx : List Pair → Int → Int → Int → Int
  | [], _, _, _ => -1
  | g :: r, s, e, i => if g.s = s ∧ g.e = e then i else sigIdx r s e (i + 1)

set_option maxHeartbeats 1000000 in
set_option maxRecDepth 20000 in
theorem f70 (l : List Pair) (s e : Int) (hl : l.length ≤ 140737488351232) : PCall Try.prog 70 [.sl 2 (l.map dPair) .no, .agg [.int .i64 s, .int .i64 e]] (RV (.int .i64 (sigIdx l s e 0))) := by
  refine PCall.of_body Try.func70 rfl Try.ntmps70 (congrArg Array.toList Try.results70) ?_
  intro E
  simp only [go_sem]
  refine AW_loopH [4, 5, 8, 9, 10, 11, 12, 13, 14, 15, 16, 17, 18]
    (fun (i : Nat) ρ m => ρ 8 = .int .i64 (i : Int) ∧ i ≤ l.length ∧ sigIdx (l.drop i) s e (i : Int) = sigIdx l s e 0 ∧ ∃ nx lv, m = ⟨[(3, 0, [.int .i64 s, .int .i64 e])], [], nx, lv⟩) (fun i => l.length - i) 0 ?_ ?_
  · simp [go_sem]
  · rintro i ρ m ⟨e1, g1, g2, nx, lv, rfl⟩ Q hN hR hX
    by_cases hlt : i < l.length
    · obtain ⟨p, hp⟩ : ∃ p, l[i]? = some p := ⟨_, List.getElem?_eq_getElem hlt⟩
      have hd : l.drop i = p :: l.drop (i + 1) := by
        rw [List.drop_eq_getElem_cons hlt]
        rw [List.getElem?_eq_getElem hlt] at hp
        cases hp; rfl
      have hlt' : ((i : Int) < (l.length : Int)) = True := by simp; omega
      have h0 : ((0 : Int) ≤ (i : Int)) = True := by simp
      have ew : IntKind.i64.wrap ((i : Int) + 1) = (i : Int) + 1 := i64_in (by omega) (by omega)
      rw [hd, show sigIdx (p :: l.drop (i + 1)) s e (i : Int) = if p.s = s ∧ p.e = e then (i : Int) else sigIdx (l.drop (i + 1)) s e (i + 1) from rfl] at g2
      simp only [go_sem, e1, hlt']
      refine drawn (by kernel_rfl) (by kernel_rfl) ?_
      by_cases q : p.s = s ∧ p.e = e
      · rw [if_pos q] at g2
        have q1 : (s = p.s) = True := eq_true q.1.symm
        have q2 : (e = p.e) = True := eq_true q.2.symm
        simp only [go_sem, hp, dPair, h0, hR, q1, q2]
        intro _ _ _ _
        exact g2
      · rw [if_neg q] at g2
        by_cases q1 : s = p.s
        · have q2 : ¬ e = p.e := fun x => q ⟨q1.symm, x.symm⟩
          have q1' : (s = p.s) = True := eq_true q1
          have q2' : (e = p.e) = False := eq_false q2
          simp only [go_sem, hp, dPair, h0, hN, ew, q1', q2']
          refine fun _ _ _ _ => ⟨by kernel_rfl, i + 1, ?_, by simp only; omega⟩
          simp only [go_sem]
          exact ⟨by simp, by omega, by simpa using g2, _, _, rfl⟩
        · have q1' : (s = p.s) = False := eq_false q1
          simp only [go_sem, hp, dPair, h0, hN, ew, q1']
          refine fun _ _ _ _ => ⟨by kernel_rfl, i + 1, ?_, by simp only; omega⟩
          simp only [go_sem]
          exact ⟨by simp, by omega, by simpa using g2, _, _, rfl⟩
    · have hlt' : ((i : Int) < (l.length : Int)) = False := by simp; omega
      rw [List.drop_eq_nil_of_le (by omega)] at g2
      simp only [go_sem, e1, hX, hlt']
      exact g2

set_option maxRecDepth 20000 in
theorem f61 (n : Net) (s e : Int) (hb : NetB n) : PCall Try.prog 61 [eNet n, .agg [.int .i64 s, .int .i64 e]] (RV (.int .i64 (sigIdx n.sigs s e 0))) := by
  refine PCall.of_body Try.func61 rfl Try.ntmps61 (congrArg Array.toList Try.results61) ?_
  intro E
  simp only [go_sem, eNet, nCells]
  refine callV (f70 n.sigs s e hb.sg) ?_
  intro nx lv
  simp only [go_sem]

def sigE2 (n : Net) (s e : Int) : Int := if endErr n s e ≠ 0 then endErr n s e else if sigIdx n.sigs s e 0 < 0 then 9 else 0
def sigV (n : Net) (s e : Int) : Int := if sigE2 n s e ≠ 0 then 0 else sigIdx n.sigs s e 0

set_option maxHeartbeats 1000000 in
set_option maxRecDepth 20000 in
theorem f15 (n : Net) (s e : Int) (hb : NetB n) : PCall Try.prog 15 [eNet n, .int .i64 s, .int .i64 e] (RV (.tup [.int .i64 (sigV n s e), .int .i64 (sigE2 n s e)])) := by
  refine PCall.of_body Try.func15 rfl Try.ntmps15 (congrArg Array.toList Try.results15) ?_
  intro E
  simp only [go_sem, eNet, nCells]
  refine callV (f58 n s e hb) ?_
  intro nx lv
  by_cases h : endErr n s e = 0
  · simp only [go_sem, h]
    refine callV (f61 n s e hb) ?_
    intro nx2 lv2
    by_cases hj : sigIdx n.sigs s e 0 < 0
    · simp only [go_sem, hj]
      simp [sigV, sigE2, h, hj]
    · simp only [go_sem, hj]
      simp [sigV, sigE2, h, hj]
  · simp only [go_sem, h]
    simp [sigV, sigE2, h]

/-- The sections with a station. -/
def platF (l : List Sect) (st : Int) : Nat → List Int
  | 0 => []
  | k + 1 => platF l st k ++ (match l[k]? with
    | some s => if s.station = IntKind.i64.wrap (st + 1) then [(k : Int)] else []
    | none => [])

set_option maxHeartbeats 1000000 in
set_option maxRecDepth 20000 in
theorem f62 (n : Net) (st : Int) (hb : NetB n) (h60 : n.sects.length ≤ 60) : PCall Try.prog 62 [eNet n, .int .i64 st] (RV (lInts (platF n.sects st n.sects.length))) := by
  refine PCall.of_bodyE Try.func62 rfl Try.ntmps62 (congrArg Array.toList Try.results62) ?_
  intro E
  have hsc := hb.sc
  simp only [go_sem, eNet, nCells]
  refine AW_loopH [5, 6, 7, 11, 12, 13, 14, 15, 16, 17, 18, 19, 20, 21, 22, 23, 24, 25]
    (fun (i : Nat) ρ m => ρ 11 = .int .i64 (i : Int) ∧ i ≤ n.sects.length ∧ (∃ tok, ρ 5 = .sl 1 ((platF n.sects st i).map fun x => DV.int .i64 x) tok ∧ okT m tok) ∧ (platF n.sects st i).length ≤ i ∧ ∃ h nx lv, m = ⟨h, [], nx, lv⟩) (fun i => n.sects.length - i) 0 ?_ ?_
  · simp [go_sem, platF]
  · rintro i ρ m ⟨e1, g1, ⟨tok, e5, hok⟩, g3, h, nx, lv, rfl⟩ Q hN hR hX
    by_cases hlt : i < n.sects.length
    · obtain ⟨p, hp⟩ : ∃ p, n.sects[i]? = some p := ⟨_, List.getElem?_eq_getElem hlt⟩
      have hlt' : ((i : Int) < (n.sects.length : Int)) = True := by simp; omega
      have h0 : ((0 : Int) ≤ (i : Int)) = True := by simp
      have ew : IntKind.i64.wrap ((i : Int) + 1) = (i : Int) + 1 := i64_in (by omega) (by omega)
      have hps : platF n.sects st (i + 1) = platF n.sects st i ++ (if p.station = IntKind.i64.wrap (st + 1) then [(i : Int)] else []) := by simp [platF, hp]
      by_cases q : p.station = IntKind.i64.wrap (st + 1)
      · have hps' : platF n.sects st (i + 1) = platF n.sects st i ++ [(i : Int)] := by rw [hps, if_pos q]
        simp only [go_sem, e1, hlt', h0, hp, dSect, q, e5, hN, ew]
        refine ⟨okT_mono hok (fun j x => .inr x), by omega, by kernel_rfl, i + 1, ?_, by simp only; omega⟩
        simp only [go_sem, hps', List.map_append]
        exact ⟨by simp, by omega, .inl trivial, by simp; omega, _, _, _, rfl⟩
      · have hps' : platF n.sects st (i + 1) = platF n.sects st i := by rw [hps, if_neg q, List.append_nil]
        simp only [go_sem, e1, hlt', h0, hp, dSect, q, e5, hN, ew]
        refine ⟨by kernel_rfl, i + 1, ?_, by simp only; omega⟩
        simp only [go_sem, hps']
        exact ⟨by simp, by omega, okT_mono hok (fun j x => x), by omega, _, _, _, rfl⟩
    · have hlt' : ((i : Int) < (n.sects.length : Int)) = False := by simp; omega
      have hi : i = n.sects.length := by omega
      subst hi
      simp only [go_sem, e1, hX, hlt', e5]
      simp [lInts, go_sem]

def platE (n : Net) (st : Int) : Int := if netE n ≠ 0 then netE n else if within st 0 (n.names.length - 1) = false then 3 else 0
def platV (n : Net) (st : Int) : List Int := if platE n st ≠ 0 then [] else platF n.sects st n.sects.length

set_option maxHeartbeats 1000000 in
set_option maxRecDepth 20000 in
theorem f16 (n : Net) (st : Int) (hb : NetB n) : PCall Try.prog 16 [eNet n, .int .i64 st] (RV (.tup [lInts (platV n st), .int .i64 (platE n st)])) := by
  refine PCall.of_bodyE Try.func16 rfl Try.ntmps16 (congrArg Array.toList Try.results16) ?_
  intro E
  have hnm := hb.nm
  have ew : IntKind.i64.wrap ((n.names.length : Int) - 1) = (n.names.length : Int) - 1 := i64_in (by omega) (by omega)
  simp only [go_sem, eNet, nCells]
  refine callV (f55 n hb) ?_
  intro nx lv
  by_cases h : netE n = 0
  · have hbg := netE_small h
    unfold bigN at hbg
    simp only [go_sem, h, ew]
    refine callV (f56 _ _ _) ?_
    intro nx2 lv2
    by_cases hw : within st 0 (n.names.length - 1) = true
    · simp only [go_sem, hw]
      refine callV (f62 n st hb (by omega)) ?_
      intro nx3 lv3
      simp [go_sem, lInts, platV, platE, h, hw]
    · have hw : within st 0 (n.names.length - 1) = false := by simpa using hw
      simp only [go_sem, hw]
      simp [go_sem, lInts, platV, platE, h, hw]
  · simp only [go_sem, h]
    simp [go_sem, lInts, platV, platE, h]
end Go.Proofs.Yteadhjclchjfjaa

/- The program's iterators: slices.Backward; Reverse. -/
namespace Go.Proofs.Yteadhjclchjfjaa
set_option linter.unusedSimpArgs false
set_option linter.unusedVariables false
open Go.AB

structure Stp where
  (s i o : Int)
def dStp (x : Stp) : DV := .agg [.int .i64 x.s, .int .i64 x.i, .int .i64 x.o]
def eStp (x : Stp) : AV := .agg [.int .i64 x.s, .int .i64 x.i, .int .i64 x.o]

/-- What slices.Backward yields. -/
def backX (p : List Stp) : List (List AV) := (List.range p.length).map fun (k : Nat) => [.int .i64 ((p.length : Int) - 1 - k), eStp ((p[p.length - 1 - k]?).getD ⟨0, 0, 0⟩)]
theorem backX_at {p : List Stp} {k : Nat} (hk : k < p.length) {x : Stp} (hx : p[p.length - 1 - k]? = some x) : (backX p)[k]? = some [.int .i64 ((p.length : Int) - 1 - k), eStp x] := by
  simp [backX, hk, hx]
theorem backX_len (p : List Stp) : (backX p).length = p.length := by simp [backX]

set_option maxRecDepth 20000 in
theorem f107 (p : List Stp) (hp : p.length ≤ 140737488351232) : ICall Try.prog 107 [.ept [.sl 3 (p.map dStp)]] (backX p) := by
  refine ICall.of_body Try.func107 rfl Try.ntmps107 (congrArg Array.toList Try.results107) ?_
  intro N Nx l J Jx hN hY m hm
  refine IW_seq hN (IW_ex hN ?_)
  have ew : IntKind.i64.wrap ((p.length : Int) - 1) = (p.length : Int) - 1 := i64_in (by omega) (by omega)
  simp only [go_sem, ew]
  refine IW_block (IW_loopH [3, 7, 8, 9, 10, 11, 12, 13, 14, 15, 16, 17, 18] (fun (k : Nat) ρ m' => ρ 3 = .int .i64 ((p.length : Int) - 1 - k) ∧ k ≤ p.length ∧ J k m') (fun k => p.length - k) 0 ?_ ?_)
  · simp [go_sem, hm]
  rintro k ρ m' ⟨e3, g1, hJ⟩ Q' hN' hR hX
  refine IW_seq hN (IW_ex hN ?_)
  by_cases hlt : k < p.length
  · have h1 : (0 ≤ (p.length : Int) - 1 - k) = True := by simp; omega
    have hn : (((p.length : Int) - 1 - k)).toNat = p.length - 1 - k := by omega
    obtain ⟨x, hx⟩ : ∃ x, p[p.length - 1 - k]? = some x := ⟨_, List.getElem?_eq_getElem (by omega)⟩
    have hx2 : (p.map dStp)[p.length - 1 - k]? = some (dStp x) := by rw [List.getElem?_map, hx]; rfl
    simp only [go_sem, e3, h1]
    refine IW_seq hN (IW_block (IW_seq hN (IW_yield (n := 6) (k := k) hN hY ?_)))
    simp only [go_sem, h1, hn, hx2, dStp]
    refine ⟨_, _, _, rfl, rfl, by simp only [go_sem], ?_, hJ, ?_, ?_⟩
    · simp only [go_sem]
      exact backX_at hlt hx
    · intro m2 hJ2
      simp only [go_sem]
      refine IW_ex hN ?_
      simp only [go_sem]
      refine IW_ex hN ?_
      have ew2 : IntKind.i64.wrap ((p.length : Int) - 1 - k - 1) = (p.length : Int) - 1 - k - 1 := i64_in (by omega) (by omega)
      simp only [go_sem, hN', ew2]
      refine ⟨by kernel_rfl, k + 1, ?_, by simp only; omega⟩
      simp only [go_sem]
      have e4 : (p.length : Int) - 1 - k - 1 = (p.length : Int) - 1 - ((k + 1 : Nat) : Int) := by omega
      exact ⟨by rw [e4], by omega, hJ2⟩
    · intro c m2 hJ2
      simp only [go_sem]
      refine AW_of ?_
      simp only [go_sem]
      exact hJ2
  · have h1 : (0 ≤ (p.length : Int) - 1 - k) = False := by simp; omega
    simp only [go_sem, e3, h1, hX]
    have : k = p.length := by omega
    rw [backX_len, ← this]
    exact hJ

theorem f71 (p : List Stp) : PCall Try.prog 71 [.sl 3 (p.map dStp) .no] (RV (.fn 107 [.ept [.sl 3 (p.map dStp)]])) := by
  refine PCall.of_bodyF Try.func71 rfl Try.ntmps71 (congrArg Array.toList Try.results71) ?_
  intro E _
  refine AW_of ?_
  simp only [go_sem]
  refine ⟨107, [(.own 1 0, [.sl 3 (p.map dStp)])], rfl, ?_, rfl⟩
  intro q hq
  simp at hq
  subst hq
  exact ⟨[.sl 3 (p.map dStp) .no], by simp [go_sem], rfl⟩

def revS (x : Stp) : Stp := ⟨x.s, x.o, x.i⟩
/-- A path backwards. -/
def revP (p : List Stp) : List Stp := p.reverse.map revS

set_option maxRecDepth 20000 in
theorem f23 (p : List Stp) (hp : p.length ≤ 5864062014634) : PCall Try.prog 23 [.sl 3 (p.map dStp) .no] (RV (.sl 3 ((revP p).map dStp) .no)) := by
  refine PCall.of_bodyRE Try.func23 rfl Try.ntmps23 (congrArg Array.toList Try.results23) ?_
  intro E hE
  refine AW_seq (AW_of ?_)
  simp only [go_sem]
  refine AW_seq (AW_of ?_)
  simp only [go_sem]
  refine AW_seq (AW_seq (AW_of ?_))
  simp only [go_sem]
  refine callV (f71 p) ?_
  intro nx lv
  simp only [go_sem]
  refine AW_block (AW_range hE (by simp only [go_sem]) bodyOk_107 (f107 p (by omega)) ?_
    (fun k m => ∃ h nx lv tok, m = ⟨h, [], nx, lv⟩ ∧ AB.hget h 3 = some (0, [.sl 3 (((revP p).take k).map dStp) tok]) ∧ okT m tok) (fun _ _ => False) ?_ ?_ ?_ ?_ (fun _ _ h => h.elim))
  · intro x hx
    simp only [backX, List.mem_map] at hx
    obtain ⟨_, _, rfl⟩ := hx
    rfl
  · rintro k h0 o0 nx0 lv0 nx1 lv1 ⟨h, nx2, lv2, tok, e, hb3, hok⟩ _ hl
    cases e
    exact ⟨_, _, _, tok, rfl, hb3, okT_mono hok (fun j x => hl j x)⟩
  · exact ⟨_, _, _, .nil, rfl, by simp [go_sem], by simp [go_sem]⟩
  · rintro k x m' hx ⟨h, nx2, lv2, tok, rfl, hb3, hok⟩ E1
    have hlt : k < p.length := by
      have := (List.getElem?_eq_some_iff.1 hx).1
      rwa [backX_len] at this
    obtain ⟨y, hy⟩ : ∃ y, p[p.length - 1 - k]? = some y := ⟨_, List.getElem?_eq_getElem (by omega)⟩
    rw [backX_at hlt hy] at hx
    cases hx
    refine AW_of ?_
    simp only [go_sem, eStp]
    intro E2
    refine AW_of ?_
    simp only [go_sem, hb3]
    have hr : (revP p).take (k + 1) = (revP p).take k ++ [revS y] := by
      have : (revP p)[k]? = some (revS y) := by
        unfold revP
        rw [List.getElem?_map, List.getElem?_reverse hlt, hy]
        rfl
      rw [List.take_add_one, this]
      rfl
    have hle : ((revP p).take k).length ≤ k := by rw [List.length_take]; omega
    refine ⟨okT_mono hok (fun j x => .inr x), by omega, _, _, _, .own (nx2 + 1), rfl, ?_, .inl rfl⟩
    simp [go_sem, hr, dStp, revS]
  · rintro m' ⟨h, nx2, lv2, tok, rfl, hb3, hok⟩
    simp only [go_sem]
    refine AW_of ?_
    simp only [go_sem, hb3]
    rw [List.take_of_length_le (by rw [backX_len]; simp [revP])]
end Go.Proofs.Yteadhjclchjfjaa

/- Paths: CheckPath of the program, and what it calls. -/
namespace Go.Proofs.Yteadhjclchjfjaa
set_option linter.unusedSimpArgs false
set_option linter.unusedVariables false
open Go.AB

/-- The place of a number in a list. -/
def idxI : List Int → Int → Int → Int
  | [], _, _ => -1
  | x :: l, s, i => if s = x then i else idxI l s (i + 1)
theorem idxI_iff : ∀ {l : List Int} {s : Int} {i : Int}, 0 ≤ i → (0 ≤ idxI l s i ↔ s ∈ l)
  | [], s, i, _ => by simp [idxI]
  | x :: l, s, i, h => by
    unfold idxI
    by_cases hx : s = x
    · simp [hx, h]
    · simp [hx, idxI_iff (l := l) (s := s) (i := i + 1) (by omega)]

set_option maxRecDepth 20000 in
theorem f108 (l : List Int) (s : Int) (hl : l.length ≤ 140737488351232) : PCall Try.prog 108 [lInts l, .int .i64 s] (RV (.int .i64 (idxI l s 0))) := by
  refine PCall.of_body Try.func108 rfl Try.ntmps108 (congrArg Array.toList Try.results108) ?_
  intro E
  simp only [go_sem, lInts]
  refine AW_loopH [4, 5, 8, 9, 10, 11, 12, 13, 14, 15, 16, 17, 18]
    (fun (i : Nat) ρ m => ρ 8 = .int .i64 (i : Int) ∧ i ≤ l.length ∧ idxI (l.drop i) s i = idxI l s 0 ∧ ∃ h nx lv, m = ⟨h, [], nx, lv⟩) (fun i => l.length - i) 0 ?_ ?_
  · simp [go_sem]
  · rintro i ρ m ⟨e1, g1, g2, h, nx, lv, rfl⟩ Q hN hR hX
    by_cases hlt : i < l.length
    · obtain ⟨x, hx⟩ : ∃ x, l[i]? = some x := ⟨_, List.getElem?_eq_getElem hlt⟩
      have hp : (l.map fun x => DV.int .i64 x)[i]? = some (.int .i64 x) := by rw [List.getElem?_map, hx]; rfl
      have hlt' : ((i : Int) < (l.length : Int)) = True := by simp; omega
      have h0 : ((0 : Int) ≤ (i : Int)) = True := by simp
      have ew : IntKind.i64.wrap ((i : Int) + 1) = (i : Int) + 1 := i64_in (by omega) (by omega)
      have hd : l.drop i = x :: l.drop (i + 1) := by
        rw [List.drop_eq_getElem_cons hlt]
        rw [List.getElem?_eq_getElem hlt] at hx
        cases hx; rfl
      rw [hd] at g2
      simp only [idxI] at g2
      by_cases q : s = x
      · rw [if_pos q] at g2
        have q' : (s = x) = True := eq_true q
        simp only [go_sem, e1, hlt', h0, hp, q', hR]
        exact g2
      · rw [if_neg q] at g2
        have q' : (s = x) = False := eq_false q
        simp only [go_sem, e1, hlt', h0, hp, q', hN, ew]
        refine ⟨by kernel_rfl, i + 1, ?_, by simp only; omega⟩
        simp only [go_sem]
        exact ⟨by simp, by omega, by rw [← g2]; rfl, _, _, _, rfl⟩
    · have hlt' : ((i : Int) < (l.length : Int)) = False := by simp; omega
      rw [List.drop_eq_nil_of_le (by omega)] at g2
      simp only [idxI] at g2
      simp only [go_sem, e1, hlt', hX]
      exact g2

theorem f73 (l : List Int) (s : Int) (hl : l.length ≤ 140737488351232) : PCall Try.prog 73 [lInts l, .int .i64 s] (RV (.bool (decide (s ∈ l)))) := by
  refine PCall.of_body Try.func73 rfl Try.ntmps73 (congrArg Array.toList Try.results73) ?_
  intro E
  simp only [go_sem, lInts]
  refine callV (f108 l s hl) ?_
  intro nx lv
  have := idxI_iff (l := l) (s := s) (i := 0) (Int.le_refl 0)
  simp only [go_sem]
  simp [this]

def psec (L : List Stp) (s : Int) : Bool := L.any fun x => decide (x.s = s)
/-- The error of a step of a path. -/
def stepE (n : Net) (p : List Stp) (i : Nat) : Int := match p[i]? with
  | none => 0
  | some x => if hasF n x.s x.i = false ∨ hasF n x.s x.o = false then 3
    else if decide (x.o ∈ outsF (kindAt n x.s) x.i) = false then 1
    else if 0 < i ∧ joinL n.links (((p[i - 1]?).map Stp.s).getD 0) (((p[i - 1]?).map Stp.o).getD 0) ≠ some (x.s, x.i) then 5
    else if psec (p.take i) x.s = true then 6 else 0
def pathE (n : Net) (p : List Stp) : Int := if 60 < p.length then 4 else firstE (stepE n p) p.length 0
def checkP (n : Net) (p : List Stp) : Int := if netE n ≠ 0 then netE n else pathE n p

def seenP (L : List Stp) (ks vs : List AV) : Prop := ks.all (keyA Try.prog 3) = true ∧ ∀ s, mget ks vs (.int .i64 s) = if psec L s = true then some (.bool true) else none
theorem key_int (s : Int) : keyA Try.prog 3 (.int .i64 s) = true := by simp only [go_sem]
theorem seenP_step {L : List Stp} {x : Stp} {ks vs : List AV} (h : seenP L ks vs) :
    seenP (L ++ [x]) (mset ks vs (.int .i64 x.s) (.bool true)).1 (mset ks vs (.int .i64 x.s) (.bool true)).2 := by
  refine ⟨mset_keys h.1 (key_int _), fun s => ?_⟩
  rw [mget_mset, h.2]
  simp only [AV.int.injEq, true_and]
  unfold psec
  simp only [List.any_append, List.any_cons, List.any_nil, Bool.or_false, Bool.or_eq_true, decide_eq_true_eq]
  by_cases h1 : x.s = s <;> simp [h1]
theorem outsF_len (k e : Int) : (outsF k e).length ≤ 2 := by unfold outsF; split; simp; split <;> simp

theorem gate_seenP {L : List Stp} {ks vs : List AV} (h : seenP L ks vs) (s : Int) : (psec L s = true ∧ mget ks vs (.int .i64 s) = some (.bool true)) ∨ (psec L s = false ∧ mget ks vs (.int .i64 s) = none) := by
  have := h.2 s
  cases hh : psec L s with
  | true => rw [hh] at this; exact .inl ⟨rfl, by simpa using this⟩
  | false => rw [hh] at this; exact .inr ⟨rfl, by simpa using this⟩
theorem join_iff (j : Option (Int × Int)) (s e : Int) : j = some (s, e) ↔ j.isSome = true ∧ joinS j = s ∧ joinE j = e := by
  cases j with
  | none => simp
  | some q => obtain ⟨a, b⟩ := q; simp [joinS, joinE]

set_option maxHeartbeats 4000000 in
set_option maxRecDepth 20000 in
theorem f24 (n : Net) (p : List Stp) (hb : NetB n) (hp : p.length ≤ 5864062014634) : PCall Try.prog 24 [eNet n, .sl 3 (p.map dStp) .no] (RV (.int .i64 (checkP n p))) := by
  refine PCall.of_body Try.func24 rfl Try.ntmps24 (congrArg Array.toList Try.results24) ?_
  intro E
  have hsc := hb.sc
  simp only [go_sem, eNet, nCells]
  refine callV (f55 n hb) ?_
  intro nx lv
  by_cases q0 : netE n = 0
  rotate_left
  · have e : checkP n p = netE n := by simp [checkP, q0]
    simp only [go_sem, q0, e]
  have e : checkP n p = pathE n p := by simp [checkP, q0]
  rw [e]
  by_cases q1 : 60 < p.length
  · have q1' : ((60 : Int) < (p.length : Int)) = True := by simp; omega
    simp only [go_sem, q0, q1']
    simp [pathE, q1]
  have q1' : ((60 : Int) < (p.length : Int)) = False := by simp; omega
  have e2 : pathE n p = firstE (stepE n p) p.length 0 := by simp [pathE, q1]
  simp only [go_sem, q0, q1']
  refine AW_loopH [4, 7, 8, 9, 10, 11, 23, 24, 25, 26, 27, 28, 29, 30, 31, 32, 33, 34, 35, 36, 37, 38, 39, 40, 41, 42, 43, 44, 45, 46, 47, 48, 49, 50, 51, 52, 53, 54, 55, 56, 57, 58, 59, 60, 61, 62, 63, 64, 65, 66, 67, 68, 69, 70, 71, 72, 73, 74, 75, 76, 77, 78, 79, 80, 81, 82, 83, 84, 85, 86, 87, 88, 89, 90, 91, 92, 93, 94, 95, 96, 97]
    (fun (i : Nat) ρ m => ρ 23 = .int .i64 (i : Int) ∧ i ≤ p.length ∧ firstE (stepE n p) (p.length - i) i = pathE n p ∧
      ∃ h nx lv ks vs, m = ⟨h, [], nx, lv⟩ ∧ AB.hget h 2 = some (0, nCells n) ∧ AB.hget h 20 = some (0, [.mapc ks vs]) ∧ seenP (p.take i) ks vs) (fun i => p.length - i) 0 ?_ ?_
  · simp only [go_sem]
    refine ⟨Nat.zero_le _, e2.symm, _, _, _, [], [], rfl, by simp [go_sem, nCells], by simp [go_sem], rfl, fun s => ?_⟩
    simp [mget, psec]
  rintro i ρ m ⟨e1, g1, g2, h, nx, lv, ks, vs, rfl, hb2, hb20, hs⟩ Q hN hR hX
  simp only [nCells] at hb2
  by_cases hlt : i < p.length
  rotate_left
  · have hlt' : ((i : Int) < (p.length : Int)) = False := by simp; omega
    rw [firstE_end hlt] at g2
    simp only [go_sem, e1, hlt', hX]
    exact g2
  obtain ⟨x, hx⟩ : ∃ x, p[i]? = some x := ⟨_, List.getElem?_eq_getElem hlt⟩
  have hxp : (p.map dStp)[i]? = some (dStp x) := by rw [List.getElem?_map, hx]; rfl
  have hlt' : ((i : Int) < (p.length : Int)) = True := by simp; omega
  have h0 : ((0 : Int) ≤ (i : Int)) = True := by simp
  have ew : IntKind.i64.wrap ((i : Int) + 1) = (i : Int) + 1 := i64_in (by omega) (by omega)
  have hge : stepE n p i = if hasF n x.s x.i = false ∨ hasF n x.s x.o = false then 3
    else if decide (x.o ∈ outsF (kindAt n x.s) x.i) = false then 1
    else if 0 < i ∧ joinL n.links (((p[i - 1]?).map Stp.s).getD 0) (((p[i - 1]?).map Stp.o).getD 0) ≠ some (x.s, x.i) then 5
    else if psec (p.take i) x.s = true then 6 else 0 := by simp [stepE, hx]
  have hit : ∀ v : Int, v ≠ 0 → stepE n p i = v → v = pathE n p := fun v hv hh => (firstE_hit hlt hh hv g2).symm
  have htk : p.take (i + 1) = p.take i ++ [x] := by rw [List.take_add_one, hx]; rfl
  have hst := seenP_step (x := x) hs
  rw [← htk] at hst
  simp only [go_sem, e1, hlt', h0, hxp, dStp, hb2]
  generalize genO (AB.hget h 8) = G8
  refine callV (f72 n x.s x.i hb) ?_
  intro nx2 lv2
  by_cases a1 : hasF n x.s x.i = true
  rotate_left
  · have a1 : hasF n x.s x.i = false := by simpa using a1
    simp only [go_sem, a1, hR]
    exact hit 3 (by decide) (by rw [hge]; simp [a1])
  simp only [go_sem, a1, hb2]
  refine callV (f72 n x.s x.o hb) ?_
  intro nx3 lv3
  by_cases a2 : hasF n x.s x.o = true
  rotate_left
  · have a2 : hasF n x.s x.o = false := by simpa using a2
    simp only [go_sem, a2, hR]
    exact hit 3 (by decide) (by rw [hge]; simp [a2])
  obtain ⟨b1, b2⟩ := hasF_iff.1 a1
  obtain ⟨c, hc⟩ : ∃ c, n.sects[x.s.toNat]? = some c := ⟨_, List.getElem?_eq_getElem (by omega)⟩
  have hcp : (n.sects.map dSect)[x.s.toNat]? = some (dSect c) := by rw [List.getElem?_map, hc]; rfl
  have hcp2 : Option.map dSect n.sects[x.s.toNat]? = some (dSect c) := by rw [hc]; rfl
  have hk : kindAt n x.s = c.kind := by simp [kindAt, hc]
  have h0s : (0 ≤ x.s) = True := by simp; omega
  simp only [go_sem, a2]
  refine drawn (by kernel_rfl) (by kernel_rfl) ?_
  simp only [go_sem, hb2, hcp, hcp2, h0s, dSect]
  have hol := outsF_len c.kind x.i
  refine quietD (f60 c.kind x.i) (fun _ => rfl) ?_
  simp only [go_sem, lInts]
  refine quietD (f73 (outsF c.kind x.i) x.o (by omega)) (fun _ => rfl) ?_
  by_cases a3 : decide (x.o ∈ outsF c.kind x.i) = true
  rotate_left
  · have a3 : decide (x.o ∈ outsF c.kind x.i) = false := by simpa using a3
    simp only [go_sem, a3, hR]
    intro nx4 lv4 _ _
    exact hit 1 (by decide) (by rw [hge, hk]; simp only [a1, a2, a3]; simp)
  by_cases a4 : 0 < i
  · have a4' : ((0 : Int) < (i : Int)) = True := by simp; omega
    obtain ⟨r, hr⟩ : ∃ r, p[i - 1]? = some r := ⟨_, List.getElem?_eq_getElem (by omega)⟩
    have hrp : (p.map dStp)[i - 1]? = some (dStp r) := by rw [List.getElem?_map, hr]; rfl
    have ei : ((i : Int) - 1).toNat = i - 1 := by omega
    have ew2 : IntKind.i64.wrap ((i : Int) - 1) = (i : Int) - 1 := i64_in (by omega) (by omega)
    have hi1 : (0 ≤ (i : Int) - 1) = True := by simp; omega
    have hi2 : ((i : Int) - 1 < (p.length : Int)) = True := by simp; omega
    simp only [go_sem, a3, a4', ew2, ei, hrp, dStp, hi1, hi2]
    intro nx4 lv4 _ _
    generalize genO (AB.hget h 9) = G9
    simp only [go_sem, hb2]
    refine callV (f59 n r.s r.o hb) ?_
    intro nx5 lv5
    have hji := join_iff (joinL n.links r.s r.o) x.s x.i
    by_cases a5 : (joinL n.links r.s r.o).isSome = true
    rotate_left
    · have a5' : (joinL n.links r.s r.o).isSome = false := by simpa using a5
      have a6 : joinL n.links r.s r.o ≠ some (x.s, x.i) := fun e => a5 (hji.1 e).1
      simp only [go_sem, a5', hR]
      exact hit 5 (by decide) (by rw [hge, hk]; simp only [a1, a2, a3]; simp [a4, hr, a6])
    by_cases a7 : joinS (joinL n.links r.s r.o) = x.s
    rotate_left
    · have a7' : (joinS (joinL n.links r.s r.o) = x.s) = False := eq_false a7
      have a6 : joinL n.links r.s r.o ≠ some (x.s, x.i) := fun e => a7 (hji.1 e).2.1
      simp only [go_sem, a5, a7', hR]
      exact hit 5 (by decide) (by rw [hge, hk]; simp only [a1, a2, a3]; simp [a4, hr, a6])
    by_cases a8 : joinE (joinL n.links r.s r.o) = x.i
    rotate_left
    · have a8' : (joinE (joinL n.links r.s r.o) = x.i) = False := eq_false a8
      have a7' : (joinS (joinL n.links r.s r.o) = x.s) = True := eq_true a7
      have a6 : joinL n.links r.s r.o ≠ some (x.s, x.i) := fun e => a8 (hji.1 e).2.2
      simp only [go_sem, a5, a7', a8', hR]
      exact hit 5 (by decide) (by rw [hge, hk]; simp only [a1, a2, a3]; simp [a4, hr, a6])
    have a6 : joinL n.links r.s r.o = some (x.s, x.i) := hji.2 ⟨a5, a7, a8⟩
    have a7' : (joinS (joinL n.links r.s r.o) = x.s) = True := eq_true a7
    have a8' : (joinE (joinL n.links r.s r.o) = x.i) = True := eq_true a8
    rcases gate_seenP hs x.s with ⟨s1, t1⟩ | ⟨s1, t1⟩
    · simp only [go_sem, a5, a7', a8']
      simp only [hb20]
      simp only [go_sem]
      refine ⟨hs.1, ?_⟩
      rw [t1]
      simp only [go_sem, hR]
      exact hit 6 (by decide) (by rw [hge, hk]; simp only [a1, a2, a3]; simp [a4, hr, a6, s1])
    · simp only [go_sem, a5, a7', a8']
      simp only [hb20]
      simp only [go_sem]
      refine ⟨hs.1, ?_⟩
      rw [t1]
      simp only [go_sem, hb20, hN, ew]
      refine ⟨hs.1, by kernel_rfl, i + 1, ?_, by simp only; omega⟩
      simp only [go_sem]
      exact ⟨by simp, by omega, firstE_go hlt (by rw [hge, hk]; simp only [a1, a2, a3]; simp [a4, hr, a6, s1]) g2, _, _, _, _, _, rfl, by simp [go_sem, hb2, nCells], by simp [go_sem], hst⟩
  · have a4' : ((0 : Int) < (i : Int)) = False := by simp; omega
    rcases gate_seenP hs x.s with ⟨s1, t1⟩ | ⟨s1, t1⟩
    · simp only [go_sem, a3, a4']
      intro nx4 lv4 _ _
      simp only [hb20]
      simp only [go_sem]
      refine ⟨hs.1, ?_⟩
      rw [t1]
      simp only [go_sem, hR]
      exact hit 6 (by decide) (by rw [hge, hk]; simp only [a1, a2, a3]; simp [a4, s1])
    · simp only [go_sem, a3, a4']
      intro nx4 lv4 _ _
      simp only [hb20]
      simp only [go_sem]
      refine ⟨hs.1, ?_⟩
      rw [t1]
      simp only [go_sem, hb20, hN, ew]
      refine ⟨hs.1, by kernel_rfl, i + 1, ?_, by simp only; omega⟩
      simp only [go_sem]
      exact ⟨by simp, by omega, firstE_go hlt (by rw [hge, hk]; simp only [a1, a2, a3]; simp [a4, s1]) g2, _, _, _, _, _, rfl, by simp [go_sem, hb2, nCells], by simp [go_sem], hst⟩
end Go.Proofs.Yteadhjclchjfjaa

/- Paths: lengths and pieces; the reference's check. -/
namespace Go.Proofs.Yteadhjclchjfjaa
set_option linter.unusedSimpArgs false
set_option linter.unusedVariables false
open Go.AB

theorem netE_lens {n : Net} (h : netE n = 0) : ∀ s ∈ n.sects, 10 ≤ s.len ∧ s.len ≤ 3000 := by
  have hs : secsE n = 0 := by
    unfold netE at h
    split at h
    · cases h
    · split at h
      · cases h
      · split at h
        · rename_i h1; exact absurd h h1
        · split at h
          · rename_i h1; exact absurd h h1
          · rename_i h1
            simpa using h1
  intro s hm
  obtain ⟨i, hi, rfl⟩ := List.getElem_of_mem hm
  have := firstE_zero (j := i) hs (Nat.zero_le _) (by omega)
  simp only [secAt, List.getElem?_eq_getElem hi] at this
  unfold secE at this
  split at this
  · cases this
  · split at this
    · cases this
    · rename_i h2
      simp [within] at h2
      omega
theorem pathE_step {n : Net} {p : List Stp} (h : pathE n p = 0) : p.length ≤ 60 ∧ ∀ (i : Nat) (x : Stp), p[i]? = some x → ∃ c, n.sects[x.s.toNat]? = some c ∧ 0 ≤ x.s := by
  unfold pathE at h
  split at h
  · cases h
  · refine ⟨by omega, fun i x hx => ?_⟩
    have hi := (List.getElem?_eq_some_iff.1 hx).1
    have := firstE_zero (j := i) h (Nat.zero_le _) (by omega)
    unfold stepE at this
    rw [hx] at this
    simp only at this
    split at this
    · cases this
    · rename_i hh
      have h1 : hasF n x.s x.i = true := by
        cases hc : hasF n x.s x.i with
        | true => rfl
        | false => exact absurd (.inl hc) hh
      obtain ⟨b1, _⟩ := hasF_iff.1 h1
      exact ⟨_, List.getElem?_eq_getElem (by omega), by omega⟩

def lenAt (n : Net) (x : Stp) : Int := ((n.sects[x.s.toNat]?).map Sect.len).getD 0
def sumLen (n : Net) (l : List Stp) : Int := (l.map (lenAt n)).sum
def lengthV (n : Net) (p : List Stp) : Int := if checkP n p ≠ 0 then 0 else sumLen n p
theorem sumLen_snoc (n : Net) (l : List Stp) (x : Stp) : sumLen n (l ++ [x]) = sumLen n l + lenAt n x := by simp [sumLen]
theorem sumLen_bd {n : Net} (hl : ∀ s ∈ n.sects, 10 ≤ s.len ∧ s.len ≤ 3000) : ∀ l : List Stp, 0 ≤ sumLen n l ∧ sumLen n l ≤ 3000 * l.length
  | [] => by simp [sumLen]
  | x :: l => by
    have ih := sumLen_bd hl l
    have hx : 0 ≤ lenAt n x ∧ lenAt n x ≤ 3000 := by
      unfold lenAt
      cases hc : n.sects[x.s.toNat]? with
      | none => simp
      | some c => have := hl c (List.mem_of_getElem? hc); simp; omega
    simp only [sumLen, List.map_cons, List.sum_cons, List.length_cons] at ih ⊢
    omega

set_option maxHeartbeats 4000000 in
set_option maxRecDepth 20000 in
theorem f25 (n : Net) (p : List Stp) (hb : NetB n) (hp : p.length ≤ 5864062014634) : PCall Try.prog 25 [eNet n, .sl 3 (p.map dStp) .no] (RV (.tup [.int .i64 (lengthV n p), .int .i64 (checkP n p)])) := by
  refine PCall.of_body Try.func25 rfl Try.ntmps25 (congrArg Array.toList Try.results25) ?_
  intro E
  have hsc := hb.sc
  simp only [go_sem, eNet, nCells]
  refine callV (f24 n p hb hp) ?_
  intro nx lv
  by_cases q0 : checkP n p = 0
  rotate_left
  · simp only [go_sem, q0, lengthV]
  have q1 : netE n = 0 := by unfold checkP at q0; split at q0 <;> omega
  have q2 : pathE n p = 0 := by unfold checkP at q0; split at q0 <;> omega
  have e1 : lengthV n p = sumLen n p := by simp [lengthV, q0]
  have hl := netE_lens q1
  obtain ⟨p60, hst⟩ := pathE_step q2
  simp only [go_sem, q0, e1]
  refine AW_loopH [7, 9, 18, 19, 20, 21, 22, 23, 24, 25, 26, 27, 28, 29, 30, 31]
    (fun (i : Nat) ρ m => ρ 18 = .int .i64 (i : Int) ∧ i ≤ p.length ∧ ρ 7 = .int .i64 (sumLen n (p.take i)) ∧ ∃ h nx lv, m = ⟨h, [], nx, lv⟩ ∧ AB.hget h 2 = some (0, nCells n)) (fun i => p.length - i) 0 ?_ ?_
  · simp only [go_sem]
    exact ⟨Nat.zero_le _, by simp [sumLen], _, _, _, rfl, by simp [go_sem, nCells]⟩
  rintro i ρ m ⟨e18, g1, e7, h, nx, lv, rfl, hb2⟩ Q hN hR hX
  simp only [nCells] at hb2
  by_cases hlt : i < p.length
  · obtain ⟨x, hx⟩ : ∃ x, p[i]? = some x := ⟨_, List.getElem?_eq_getElem hlt⟩
    have hxp : (p.map dStp)[i]? = some (dStp x) := by rw [List.getElem?_map, hx]; rfl
    have hlt' : ((i : Int) < (p.length : Int)) = True := by simp; omega
    have h0 : ((0 : Int) ≤ (i : Int)) = True := by simp
    have ew : IntKind.i64.wrap ((i : Int) + 1) = (i : Int) + 1 := i64_in (by omega) (by omega)
    have htk : p.take (i + 1) = p.take i ++ [x] := by rw [List.take_add_one, hx]; rfl
    obtain ⟨c, hc, hs0⟩ := hst i x hx
    have hcp : (n.sects.map dSect)[x.s.toNat]? = some (dSect c) := by rw [List.getElem?_map, hc]; rfl
    have hcp2 : Option.map dSect n.sects[x.s.toNat]? = some (dSect c) := by rw [hc]; rfl
    have h0s : (0 ≤ x.s) = True := by simp; omega
    have hcl := hl c (List.mem_of_getElem? hc)
    have hbd := sumLen_bd hl (p.take i)
    have hle : (p.take i).length ≤ 60 := by rw [List.length_take]; omega
    have ew2 : IntKind.i64.wrap (sumLen n (p.take i) + c.len) = sumLen n (p.take i) + c.len := i64_in (by omega) (by omega)
    have hla : lenAt n x = c.len := by simp [lenAt, hc]
    simp only [go_sem, e18, e7, hlt', h0, hxp, dStp, hb2, hcp, hcp2, h0s, dSect, ew2, ew, hN]
    refine ⟨by kernel_rfl, i + 1, ?_, by simp only; omega⟩
    simp only [go_sem]
    exact ⟨by simp, by omega, by rw [htk, sumLen_snoc, hla], _, _, _, rfl, by simp [go_sem, hb2, nCells]⟩
  · have hlt' : ((i : Int) < (p.length : Int)) = False := by simp; omega
    rw [List.take_of_length_le (by omega)] at e7
    simp only [go_sem, e18, e7, hlt', hX]

/-- A piece. -/
structure Pc where
  (l g v : Int)
def dPc (x : Pc) : DV := .agg [.int .i64 x.l, .int .i64 x.g, .int .i64 x.v]
def pcF (n : Net) (x : Stp) : Pc := match n.sects[x.s.toNat]? with
  | none => ⟨0, 0, 0⟩
  | some c => ⟨IntKind.i64.wrap (100 * c.len), if x.i = 0 then c.grade else IntKind.i64.wrap (0 - c.grade), if c.kind = 2 ∧ (x.i = 2 ∨ x.o = 2) then c.slow else c.speed⟩
def pcsV (n : Net) (p : List Stp) : List Pc := if checkP n p ≠ 0 then [] else p.map (pcF n)

set_option maxHeartbeats 8000000 in
set_option maxRecDepth 20000 in
theorem f26 (n : Net) (p : List Stp) (hb : NetB n) (hp : p.length ≤ 5864062014634) : PCall Try.prog 26 [eNet n, .sl 3 (p.map dStp) .no] (RV (.tup [.sl 3 ((pcsV n p).map dPc) .no, .int .i64 (checkP n p)])) := by
  refine PCall.of_bodyE Try.func26 rfl Try.ntmps26 (congrArg Array.toList Try.results26) ?_
  intro E
  have hsc := hb.sc
  simp only [go_sem, eNet, nCells]
  refine callV (f24 n p hb hp) ?_
  intro nx lv
  by_cases q0 : checkP n p = 0
  rotate_left
  · simp only [go_sem, q0, pcsV]
  have q1 : netE n = 0 := by unfold checkP at q0; split at q0 <;> omega
  have q2 : pathE n p = 0 := by unfold checkP at q0; split at q0 <;> omega
  have e1 : pcsV n p = p.map (pcF n) := by simp [pcsV, q0]
  obtain ⟨p60, hst⟩ := pathE_step q2
  simp only [go_sem, q0, e1]
  refine AW_loopH [7, 9, 10, 11, 20, 21, 22, 23, 24, 25, 26, 27, 28, 29, 30, 31, 32, 33, 34, 35, 36, 37, 38, 39, 40, 41, 42, 43, 44, 45, 46, 47, 48, 49, 50, 51, 52, 53, 54, 55, 56, 57, 58, 59, 60, 61, 62, 63, 64, 65]
    (fun (i : Nat) ρ m => ρ 20 = .int .i64 (i : Int) ∧ i ≤ p.length ∧ (∃ tok, ρ 7 = .sl 3 (((p.take i).map (pcF n)).map dPc) tok ∧ okT m tok) ∧ ∃ h nx lv, m = ⟨h, [], nx, lv⟩ ∧ AB.hget h 2 = some (0, nCells n)) (fun i => p.length - i) 0 ?_ ?_
  · simp [go_sem, nCells]
  rintro i ρ m ⟨e20, g1, ⟨tok, e7, hok⟩, h, nx, lv, rfl, hb2⟩ Q hN hR hX
  simp only [nCells] at hb2
  by_cases hlt : i < p.length
  rotate_left
  · have hlt' : ((i : Int) < (p.length : Int)) = False := by simp; omega
    rw [List.take_of_length_le (by omega)] at e7
    simp only [go_sem, e20, e7, hlt', hX]
  obtain ⟨x, hx⟩ : ∃ x, p[i]? = some x := ⟨_, List.getElem?_eq_getElem hlt⟩
  have hxp : (p.map dStp)[i]? = some (dStp x) := by rw [List.getElem?_map, hx]; rfl
  have hlt' : ((i : Int) < (p.length : Int)) = True := by simp; omega
  have h0 : ((0 : Int) ≤ (i : Int)) = True := by simp
  have ew : IntKind.i64.wrap ((i : Int) + 1) = (i : Int) + 1 := i64_in (by omega) (by omega)
  obtain ⟨c, hc, hs0⟩ := hst i x hx
  have htk : (p.take (i + 1)).map (pcF n) = (p.take i).map (pcF n) ++ [⟨IntKind.i64.wrap (100 * c.len), if x.i = 0 then c.grade else IntKind.i64.wrap (0 - c.grade), if c.kind = 2 ∧ (x.i = 2 ∨ x.o = 2) then c.slow else c.speed⟩] := by
    rw [List.take_add_one, hx]
    simp [pcF, hc]
  have hcp : (n.sects.map dSect)[x.s.toNat]? = some (dSect c) := by rw [List.getElem?_map, hc]; rfl
  have hcp2 : Option.map dSect n.sects[x.s.toNat]? = some (dSect c) := by rw [hc]; rfl
  have h0s : (0 ≤ x.s) = True := by simp; omega
  have hle : (p.take i).length ≤ i := by rw [List.length_take]; omega
  generalize hL : (p.take i).map (pcF n) = L at *
  have hLl : L.length ≤ 60 := by rw [← hL]; simp; omega
  by_cases a1 : x.i = 0
  · have a1' : (x.i = 0) = True := by simp [a1]
    by_cases a2 : c.kind = 2
    rotate_left
    · have a2' : (c.kind = 2) = False := by simp [a2]
      have htk' : (p.take (i + 1)).map (pcF n) = L ++ [⟨IntKind.i64.wrap (100 * c.len), c.grade, c.speed⟩] := by rw [htk]; simp [a1, a2]
      simp only [go_sem, e20, e7, hlt', h0, hxp, dStp, hb2, hcp, hcp2, h0s, dSect, ew, hN, a1', a2']
      refine ⟨okT_mono hok (fun j x => .inr x), by omega, by kernel_rfl, i + 1, ?_, by simp only; omega⟩
      simp only [go_sem, htk', List.map_append, List.map_cons, List.map_nil, dPc]
      exact ⟨by simp, by omega, .inl trivial, _, _, _, rfl, by simp [go_sem, hb2, nCells]⟩
    have a2' : (c.kind = 2) = True := by simp [a2]
    have a3 : ¬ x.i = 2 := by omega
    have a3' : (x.i = 2) = False := by simp [a3]
    by_cases a4 : x.o = 2
    · have a4' : (x.o = 2) = True := by simp [a4]
      have htk' : (p.take (i + 1)).map (pcF n) = L ++ [⟨IntKind.i64.wrap (100 * c.len), c.grade, c.slow⟩] := by rw [htk]; simp [a1, a2, a3, a4]
      simp only [go_sem, e20, e7, hlt', h0, hxp, dStp, hb2, hcp, hcp2, h0s, dSect, ew, hN, a1', a2', a3', a4']
      refine ⟨okT_mono hok (fun j x => .inr x), by omega, by kernel_rfl, i + 1, ?_, by simp only; omega⟩
      simp only [go_sem, htk', List.map_append, List.map_cons, List.map_nil, dPc]
      exact ⟨by simp, by omega, .inl trivial, _, _, _, rfl, by simp [go_sem, hb2, nCells]⟩
    · have a4' : (x.o = 2) = False := by simp [a4]
      have htk' : (p.take (i + 1)).map (pcF n) = L ++ [⟨IntKind.i64.wrap (100 * c.len), c.grade, c.speed⟩] := by rw [htk]; simp [a1, a2, a3, a4]
      simp only [go_sem, e20, e7, hlt', h0, hxp, dStp, hb2, hcp, hcp2, h0s, dSect, ew, hN, a1', a2', a3', a4']
      refine ⟨okT_mono hok (fun j x => .inr x), by omega, by kernel_rfl, i + 1, ?_, by simp only; omega⟩
      simp only [go_sem, htk', List.map_append, List.map_cons, List.map_nil, dPc]
      exact ⟨by simp, by omega, .inl trivial, _, _, _, rfl, by simp [go_sem, hb2, nCells]⟩
  · have a1' : (x.i = 0) = False := by simp [a1]
    by_cases a2 : c.kind = 2
    rotate_left
    · have a2' : (c.kind = 2) = False := by simp [a2]
      have htk' : (p.take (i + 1)).map (pcF n) = L ++ [⟨IntKind.i64.wrap (100 * c.len), IntKind.i64.wrap (0 - c.grade), c.speed⟩] := by rw [htk]; simp [a1, a2]
      simp only [go_sem, e20, e7, hlt', h0, hxp, dStp, hb2, hcp, hcp2, h0s, dSect, ew, hN, a1', a2']
      refine ⟨okT_mono hok (fun j x => .inr x), by omega, by kernel_rfl, i + 1, ?_, by simp only; omega⟩
      simp only [go_sem, htk', List.map_append, List.map_cons, List.map_nil, dPc]
      exact ⟨by simp, by omega, .inl trivial, _, _, _, rfl, by simp [go_sem, hb2, nCells]⟩
    have a2' : (c.kind = 2) = True := by simp [a2]
    by_cases a3 : x.i = 2
    · have a3' : (x.i = 2) = True := by simp [a3]
      have htk' : (p.take (i + 1)).map (pcF n) = L ++ [⟨IntKind.i64.wrap (100 * c.len), IntKind.i64.wrap (0 - c.grade), c.slow⟩] := by rw [htk]; simp [a1, a2, a3]
      simp only [go_sem, e20, e7, hlt', h0, hxp, dStp, hb2, hcp, hcp2, h0s, dSect, ew, hN, a1', a2', a3']
      refine ⟨okT_mono hok (fun j x => .inr x), by omega, by kernel_rfl, i + 1, ?_, by simp only; omega⟩
      simp only [go_sem, htk', List.map_append, List.map_cons, List.map_nil, dPc]
      exact ⟨by simp, by omega, .inl trivial, _, _, _, rfl, by simp [go_sem, hb2, nCells]⟩
    have a3' : (x.i = 2) = False := by simp [a3]
    by_cases a4 : x.o = 2
    · have a4' : (x.o = 2) = True := by simp [a4]
      have htk' : (p.take (i + 1)).map (pcF n) = L ++ [⟨IntKind.i64.wrap (100 * c.len), IntKind.i64.wrap (0 - c.grade), c.slow⟩] := by rw [htk]; simp [a1, a2, a3, a4]
      simp only [go_sem, e20, e7, hlt', h0, hxp, dStp, hb2, hcp, hcp2, h0s, dSect, ew, hN, a1', a2', a3', a4']
      refine ⟨okT_mono hok (fun j x => .inr x), by omega, by kernel_rfl, i + 1, ?_, by simp only; omega⟩
      simp only [go_sem, htk', List.map_append, List.map_cons, List.map_nil, dPc]
      exact ⟨by simp, by omega, .inl trivial, _, _, _, rfl, by simp [go_sem, hb2, nCells]⟩
    · have a4' : (x.o = 2) = False := by simp [a4]
      have htk' : (p.take (i + 1)).map (pcF n) = L ++ [⟨IntKind.i64.wrap (100 * c.len), IntKind.i64.wrap (0 - c.grade), c.speed⟩] := by rw [htk]; simp [a1, a2, a3, a4]
      simp only [go_sem, e20, e7, hlt', h0, hxp, dStp, hb2, hcp, hcp2, h0s, dSect, ew, hN, a1', a2', a3', a4']
      refine ⟨okT_mono hok (fun j x => .inr x), by omega, by kernel_rfl, i + 1, ?_, by simp only; omega⟩
      simp only [go_sem, htk', List.map_append, List.map_cons, List.map_nil, dPc]
      exact ⟨by simp, by omega, .inl trivial, _, _, _, rfl, by simp [go_sem, hb2, nCells]⟩

set_option maxHeartbeats 8000000 in
set_option maxRecDepth 20000 in
theorem f28 (n : Net) (p : List Stp) (hb : NetB n) (q2 : pathE n p = 0) : PCall Try.prog 28 [eNet n, .sl 3 (p.map dStp) .no] (RV (.sl 3 ((p.map (pcF n)).map dPc) .no)) := by
  refine PCall.of_bodyE Try.func28 rfl Try.ntmps28 (congrArg Array.toList Try.results28) ?_
  intro E
  have hsc := hb.sc
  obtain ⟨p60, hst⟩ := pathE_step q2
  simp only [go_sem, eNet, nCells]
  refine AW_loopH [5, 7, 8, 9, 12, 13, 14, 15, 16, 17, 18, 19, 20, 21, 22, 23, 24, 25, 26, 27, 28, 29, 30, 31, 32, 33, 34, 35, 36, 37, 38, 39, 40, 41, 42, 43, 44, 45, 46, 47, 48, 49, 50, 51, 52, 53, 54, 55, 56, 57]
    (fun (i : Nat) ρ m => ρ 12 = .int .i64 (i : Int) ∧ i ≤ p.length ∧ (∃ tok, ρ 5 = .sl 3 (((p.take i).map (pcF n)).map dPc) tok ∧ okT m tok) ∧ ∃ h nx lv, m = ⟨h, [], nx, lv⟩ ∧ AB.hget h 2 = some (0, nCells n)) (fun i => p.length - i) 0 ?_ ?_
  · simp [go_sem, nCells]
  rintro i ρ m ⟨e20, g1, ⟨tok, e7, hok⟩, h, nx, lv, rfl, hb2⟩ Q hN hR hX
  simp only [nCells] at hb2
  by_cases hlt : i < p.length
  rotate_left
  · have hlt' : ((i : Int) < (p.length : Int)) = False := by simp; omega
    rw [List.take_of_length_le (by omega)] at e7
    simp only [go_sem, e20, e7, hlt', hX]
  obtain ⟨x, hx⟩ : ∃ x, p[i]? = some x := ⟨_, List.getElem?_eq_getElem hlt⟩
  have hxp : (p.map dStp)[i]? = some (dStp x) := by rw [List.getElem?_map, hx]; rfl
  have hlt' : ((i : Int) < (p.length : Int)) = True := by simp; omega
  have h0 : ((0 : Int) ≤ (i : Int)) = True := by simp
  have ew : IntKind.i64.wrap ((i : Int) + 1) = (i : Int) + 1 := i64_in (by omega) (by omega)
  obtain ⟨c, hc, hs0⟩ := hst i x hx
  have htk : (p.take (i + 1)).map (pcF n) = (p.take i).map (pcF n) ++ [⟨IntKind.i64.wrap (100 * c.len), if x.i = 0 then c.grade else IntKind.i64.wrap (0 - c.grade), if c.kind = 2 ∧ (x.i = 2 ∨ x.o = 2) then c.slow else c.speed⟩] := by
    rw [List.take_add_one, hx]
    simp [pcF, hc]
  have hcp : (n.sects.map dSect)[x.s.toNat]? = some (dSect c) := by rw [List.getElem?_map, hc]; rfl
  have hcp2 : Option.map dSect n.sects[x.s.toNat]? = some (dSect c) := by rw [hc]; rfl
  have h0s : (0 ≤ x.s) = True := by simp; omega
  have hle : (p.take i).length ≤ i := by rw [List.length_take]; omega
  generalize hL : (p.take i).map (pcF n) = L at *
  have hLl : L.length ≤ 60 := by rw [← hL]; simp; omega
  by_cases a1 : x.i = 0
  · have a1' : (x.i = 0) = True := by simp [a1]
    by_cases a2 : c.kind = 2
    rotate_left
    · have a2' : (c.kind = 2) = False := by simp [a2]
      have htk' : (p.take (i + 1)).map (pcF n) = L ++ [⟨IntKind.i64.wrap (100 * c.len), c.grade, c.speed⟩] := by rw [htk]; simp [a1, a2]
      simp only [go_sem, e20, e7, hlt', h0, hxp, dStp, hb2, hcp, hcp2, h0s, dSect, ew, hN, a1', a2']
      refine ⟨okT_mono hok (fun j x => .inr x), by omega, by kernel_rfl, i + 1, ?_, by simp only; omega⟩
      simp only [go_sem, htk', List.map_append, List.map_cons, List.map_nil, dPc]
      exact ⟨by simp, by omega, .inl trivial, _, _, _, rfl, by simp [go_sem, hb2, nCells]⟩
    have a2' : (c.kind = 2) = True := by simp [a2]
    have a3 : ¬ x.i = 2 := by omega
    have a3' : (x.i = 2) = False := by simp [a3]
    by_cases a4 : x.o = 2
    · have a4' : (x.o = 2) = True := by simp [a4]
      have htk' : (p.take (i + 1)).map (pcF n) = L ++ [⟨IntKind.i64.wrap (100 * c.len), c.grade, c.slow⟩] := by rw [htk]; simp [a1, a2, a3, a4]
      simp only [go_sem, e20, e7, hlt', h0, hxp, dStp, hb2, hcp, hcp2, h0s, dSect, ew, hN, a1', a2', a3', a4']
      refine ⟨okT_mono hok (fun j x => .inr x), by omega, by kernel_rfl, i + 1, ?_, by simp only; omega⟩
      simp only [go_sem, htk', List.map_append, List.map_cons, List.map_nil, dPc]
      exact ⟨by simp, by omega, .inl trivial, _, _, _, rfl, by simp [go_sem, hb2, nCells]⟩
    · have a4' : (x.o = 2) = False := by simp [a4]
      have htk' : (p.take (i + 1)).map (pcF n) = L ++ [⟨IntKind.i64.wrap (100 * c.len), c.grade, c.speed⟩] := by rw [htk]; simp [a1, a2, a3, a4]
      simp only [go_sem, e20, e7, hlt', h0, hxp, dStp, hb2, hcp, hcp2, h0s, dSect, ew, hN, a1', a2', a3', a4']
      refine ⟨okT_mono hok (fun j x => .inr x), by omega, by kernel_rfl, i + 1, ?_, by simp only; omega⟩
      simp only [go_sem, htk', List.map_append, List.map_cons, List.map_nil, dPc]
      exact ⟨by simp, by omega, .inl trivial, _, _, _, rfl, by simp [go_sem, hb2, nCells]⟩
  · have a1' : (x.i = 0) = False := by simp [a1]
    by_cases a2 : c.kind = 2
    rotate_left
    · have a2' : (c.kind = 2) = False := by simp [a2]
      have htk' : (p.take (i + 1)).map (pcF n) = L ++ [⟨IntKind.i64.wrap (100 * c.len), IntKind.i64.wrap (0 - c.grade), c.speed⟩] := by rw [htk]; simp [a1, a2]
      simp only [go_sem, e20, e7, hlt', h0, hxp, dStp, hb2, hcp, hcp2, h0s, dSect, ew, hN, a1', a2']
      refine ⟨okT_mono hok (fun j x => .inr x), by omega, by kernel_rfl, i + 1, ?_, by simp only; omega⟩
      simp only [go_sem, htk', List.map_append, List.map_cons, List.map_nil, dPc]
      exact ⟨by simp, by omega, .inl trivial, _, _, _, rfl, by simp [go_sem, hb2, nCells]⟩
    have a2' : (c.kind = 2) = True := by simp [a2]
    by_cases a3 : x.i = 2
    · have a3' : (x.i = 2) = True := by simp [a3]
      have htk' : (p.take (i + 1)).map (pcF n) = L ++ [⟨IntKind.i64.wrap (100 * c.len), IntKind.i64.wrap (0 - c.grade), c.slow⟩] := by rw [htk]; simp [a1, a2, a3]
      simp only [go_sem, e20, e7, hlt', h0, hxp, dStp, hb2, hcp, hcp2, h0s, dSect, ew, hN, a1', a2', a3']
      refine ⟨okT_mono hok (fun j x => .inr x), by omega, by kernel_rfl, i + 1, ?_, by simp only; omega⟩
      simp only [go_sem, htk', List.map_append, List.map_cons, List.map_nil, dPc]
      exact ⟨by simp, by omega, .inl trivial, _, _, _, rfl, by simp [go_sem, hb2, nCells]⟩
    have a3' : (x.i = 2) = False := by simp [a3]
    by_cases a4 : x.o = 2
    · have a4' : (x.o = 2) = True := by simp [a4]
      have htk' : (p.take (i + 1)).map (pcF n) = L ++ [⟨IntKind.i64.wrap (100 * c.len), IntKind.i64.wrap (0 - c.grade), c.slow⟩] := by rw [htk]; simp [a1, a2, a3, a4]
      simp only [go_sem, e20, e7, hlt', h0, hxp, dStp, hb2, hcp, hcp2, h0s, dSect, ew, hN, a1', a2', a3', a4']
      refine ⟨okT_mono hok (fun j x => .inr x), by omega, by kernel_rfl, i + 1, ?_, by simp only; omega⟩
      simp only [go_sem, htk', List.map_append, List.map_cons, List.map_nil, dPc]
      exact ⟨by simp, by omega, .inl trivial, _, _, _, rfl, by simp [go_sem, hb2, nCells]⟩
    · have a4' : (x.o = 2) = False := by simp [a4]
      have htk' : (p.take (i + 1)).map (pcF n) = L ++ [⟨IntKind.i64.wrap (100 * c.len), IntKind.i64.wrap (0 - c.grade), c.speed⟩] := by rw [htk]; simp [a1, a2, a3, a4]
      simp only [go_sem, e20, e7, hlt', h0, hxp, dStp, hb2, hcp, hcp2, h0s, dSect, ew, hN, a1', a2', a3', a4']
      refine ⟨okT_mono hok (fun j x => .inr x), by omega, by kernel_rfl, i + 1, ?_, by simp only; omega⟩
      simp only [go_sem, htk', List.map_append, List.map_cons, List.map_nil, dPc]
      exact ⟨by simp, by omega, .inl trivial, _, _, _, rfl, by simp [go_sem, hb2, nCells]⟩
end Go.Proofs.Yteadhjclchjfjaa

/- Paths: the reference's functions. -/
namespace Go.Proofs.Yteadhjclchjfjaa
set_option linter.unusedSimpArgs false
set_option linter.unusedVariables false
open Go.AB

set_option maxRecDepth 20000 in
theorem f75 (l : List Int) (s : Int) (hl : l.length ≤ 140737488351232) : PCall Try.prog 75 [lInts l, .int .i64 s] (RV (.bool (decide (s ∈ l)))) := by
  refine PCall.of_body Try.func75 rfl Try.ntmps75 (congrArg Array.toList Try.results75) ?_
  intro E
  simp only [go_sem, lInts]
  refine AW_loopH [4, 6, 9, 10, 11, 12, 13, 14, 15, 16]
    (fun (i : Nat) ρ m => ρ 9 = .int .i64 (i : Int) ∧ i ≤ l.length ∧ s ∉ l.take i ∧ ∃ h nx lv, m = ⟨h, [], nx, lv⟩) (fun i => l.length - i) 0 ?_ ?_
  · simp [go_sem]
  rintro i ρ m ⟨e1, g1, g2, h, nx, lv, rfl⟩ Q hN hR hX
  by_cases hlt : i < l.length
  · obtain ⟨x, hx⟩ : ∃ x, l[i]? = some x := ⟨_, List.getElem?_eq_getElem hlt⟩
    have hp : (l.map fun x => DV.int .i64 x)[i]? = some (.int .i64 x) := by rw [List.getElem?_map, hx]; rfl
    have hlt' : ((i : Int) < (l.length : Int)) = True := by simp; omega
    have h0 : ((0 : Int) ≤ (i : Int)) = True := by simp
    have ew : IntKind.i64.wrap ((i : Int) + 1) = (i : Int) + 1 := i64_in (by omega) (by omega)
    have htk : l.take (i + 1) = l.take i ++ [x] := by rw [List.take_add_one, hx]; rfl
    by_cases q : x = s
    · have q' : (x = s) = True := eq_true q
      simp only [go_sem, e1, hlt', h0, hp, q', hR]
      have : s ∈ l := by rw [← q]; exact List.mem_of_getElem? hx
      simp [this]
    · have q' : (x = s) = False := eq_false q
      simp only [go_sem, e1, hlt', h0, hp, q', hN, ew]
      refine ⟨by kernel_rfl, i + 1, ?_, by simp only; omega⟩
      simp only [go_sem]
      refine ⟨by simp, by omega, ?_, _, _, _, rfl⟩
      rw [htk]
      simp only [List.mem_append, List.mem_singleton]
      rintro (h1 | h1)
      · exact g2 h1
      · exact q h1.symm
  · have hlt' : ((i : Int) < (l.length : Int)) = False := by simp; omega
    rw [List.take_of_length_le (by omega)] at g2
    simp only [go_sem, e1, hlt', hX]
    simp [g2]

set_option maxRecDepth 20000 in
theorem f78 (p : List Stp) (s : Int) (hl : p.length ≤ 5864062014634) : PCall Try.prog 78 [.sl 3 (p.map dStp) .no, .int .i64 s] (RV (.bool (psec p s))) := by
  refine PCall.of_body Try.func78 rfl Try.ntmps78 (congrArg Array.toList Try.results78) ?_
  intro E
  simp only [go_sem]
  refine AW_loopH [4, 6, 9, 10, 11, 12, 13, 14, 15, 16, 17]
    (fun (i : Nat) ρ m => ρ 9 = .int .i64 (i : Int) ∧ i ≤ p.length ∧ psec (p.take i) s = false ∧ ∃ h nx lv, m = ⟨h, [], nx, lv⟩) (fun i => p.length - i) 0 ?_ ?_
  · simp [go_sem, psec]
  rintro i ρ m ⟨e1, g1, g2, h, nx, lv, rfl⟩ Q hN hR hX
  by_cases hlt : i < p.length
  · obtain ⟨x, hx⟩ : ∃ x, p[i]? = some x := ⟨_, List.getElem?_eq_getElem hlt⟩
    have hxp : (p.map dStp)[i]? = some (dStp x) := by rw [List.getElem?_map, hx]; rfl
    have hlt' : ((i : Int) < (p.length : Int)) = True := by simp; omega
    have h0 : ((0 : Int) ≤ (i : Int)) = True := by simp
    have ew : IntKind.i64.wrap ((i : Int) + 1) = (i : Int) + 1 := i64_in (by omega) (by omega)
    have htk : p.take (i + 1) = p.take i ++ [x] := by rw [List.take_add_one, hx]; rfl
    by_cases q : x.s = s
    · have q' : (x.s = s) = True := eq_true q
      simp only [go_sem, e1, hlt', h0, hxp, dStp, q', hR]
      have : psec p s = true := List.any_eq_true.2 ⟨x, List.mem_of_getElem? hx, by simp [q]⟩
      simp [this]
    · have q' : (x.s = s) = False := eq_false q
      simp only [go_sem, e1, hlt', h0, hxp, dStp, q', hN, ew]
      refine ⟨by kernel_rfl, i + 1, ?_, by simp only; omega⟩
      simp only [go_sem]
      refine ⟨by simp, by omega, ?_, _, _, _, rfl⟩
      rw [htk]
      unfold psec at g2 ⊢
      rw [List.any_append, g2]
      simp [q]
  · have hlt' : ((i : Int) < (p.length : Int)) = False := by simp; omega
    rw [List.take_of_length_le (by omega)] at g2
    simp only [go_sem, e1, hlt', hX, g2]

set_option maxRecDepth 20000 in
theorem f76 (k e : Int) (h1 : 1 ≤ k) (h2 : k ≤ 3) (h3 : 0 ≤ e) (h4 : e < endsF k) : PCall Try.prog 76 [.int .i64 k, .int .i64 e] (RV (lInts (outsF k e))) := by
  refine PCall.of_bodyE Try.func76 rfl Try.ntmps76 (congrArg Array.toList Try.results76) ?_
  intro E
  have w0 : IntKind.i64.wrap 0 = 0 := by rfl
  have w1 : IntKind.i64.wrap 1 = 1 := by rfl
  have kk : k = 1 ∨ k = 2 ∨ k = 3 := by omega
  rcases kk with rfl | rfl | rfl
  · have he : e = 0 ∨ e = 1 := by simp [endsF] at h4; omega
    rcases he with rfl | rfl <;> simp only [go_sem, w0, w1] <;> rfl
  · have he : e = 0 ∨ e = 1 ∨ e = 2 := by simp [endsF] at h4; omega
    rcases he with rfl | rfl | rfl <;> simp only [go_sem, w0, w1] <;> rfl
  · have he : e = 0 ∨ e = 1 ∨ e = 2 ∨ e = 3 := by simp [endsF] at h4; omega
    rcases he with rfl | rfl | rfl | rfl <;> simp only [go_sem, w0, w1] <;> rfl

set_option maxRecDepth 20000 in
theorem f29 (l : List Pc) (hl : l.length ≤ 5864062014634) : PCall Try.prog 29 [.sl 3 (l.map dPc) .no, .sl 3 (l.map dPc) .no] (RV (.bool true)) := by
  refine PCall.of_body Try.func29 rfl Try.ntmps29 (congrArg Array.toList Try.results29) ?_
  intro E
  simp only [go_sem]
  refine AW_loopH [4, 5, 13, 14, 15, 16, 17, 18, 19, 20, 21, 22, 23, 24, 25]
    (fun (i : Nat) ρ m => ρ 13 = .int .i64 (i : Int) ∧ i ≤ l.length ∧ ∃ h nx lv, m = ⟨h, [], nx, lv⟩) (fun i => l.length - i) 0 ?_ ?_
  · simp [go_sem]
  rintro i ρ m ⟨e1, g1, h, nx, lv, rfl⟩ Q hN hR hX
  by_cases hlt : i < l.length
  · obtain ⟨x, hx⟩ : ∃ x, l[i]? = some x := ⟨_, List.getElem?_eq_getElem hlt⟩
    have hxp : (l.map dPc)[i]? = some (dPc x) := by rw [List.getElem?_map, hx]; rfl
    have hlt' : ((i : Int) < (l.length : Int)) = True := by simp; omega
    have h0 : ((0 : Int) ≤ (i : Int)) = True := by simp
    have ew : IntKind.i64.wrap ((i : Int) + 1) = (i : Int) + 1 := i64_in (by omega) (by omega)
    simp only [go_sem, e1, hlt']
    refine drawn (by kernel_rfl) (by kernel_rfl) ?_
    simp only [go_sem, hxp, dPc, h0, ew, hN]
    refine fun _ _ _ _ => ⟨by kernel_rfl, i + 1, ?_, by simp only; omega⟩
    simp only [go_sem]
    exact ⟨by simp, by omega, _, _, _, rfl⟩
  · have hlt' : ((i : Int) < (l.length : Int)) = False := by simp; omega
    simp only [go_sem, e1, hX, hlt']

def sumPc (l : List Pc) : Int := (l.map Pc.l).sum
theorem sumPc_bd : ∀ (l : List Pc), (∀ x ∈ l, 0 ≤ x.l ∧ x.l ≤ 300000) → 0 ≤ sumPc l ∧ sumPc l ≤ 300000 * l.length
  | [], _ => by simp [sumPc]
  | x :: l, h => by
    have ih := sumPc_bd l (fun y hy => h y (List.mem_cons_of_mem _ hy))
    have := h x (List.mem_cons_self ..)
    simp only [sumPc, List.map_cons, List.sum_cons, List.length_cons] at ih ⊢
    omega

set_option maxRecDepth 20000 in
theorem f30 (l : List Pc) (hl : l.length ≤ 60) (hb : ∀ x ∈ l, 0 ≤ x.l ∧ x.l ≤ 300000) : PCall Try.prog 30 [.sl 3 (l.map dPc) .no] (RV (.int .i64 (sumPc l))) := by
  refine PCall.of_body Try.func30 rfl Try.ntmps30 (congrArg Array.toList Try.results30) ?_
  intro E
  simp only [go_sem]
  refine AW_loopH [3, 5, 8, 9, 10, 11, 12, 13, 14, 15, 16]
    (fun (i : Nat) ρ m => ρ 8 = .int .i64 (i : Int) ∧ i ≤ l.length ∧ ρ 3 = .int .i64 (sumPc (l.take i)) ∧ ∃ h nx lv, m = ⟨h, [], nx, lv⟩) (fun i => l.length - i) 0 ?_ ?_
  · simp [go_sem, sumPc]
  rintro i ρ m ⟨e1, g1, e3, h, nx, lv, rfl⟩ Q hN hR hX
  by_cases hlt : i < l.length
  · obtain ⟨x, hx⟩ : ∃ x, l[i]? = some x := ⟨_, List.getElem?_eq_getElem hlt⟩
    have hxp : (l.map dPc)[i]? = some (dPc x) := by rw [List.getElem?_map, hx]; rfl
    have hlt' : ((i : Int) < (l.length : Int)) = True := by simp; omega
    have h0 : ((0 : Int) ≤ (i : Int)) = True := by simp
    have ew : IntKind.i64.wrap ((i : Int) + 1) = (i : Int) + 1 := i64_in (by omega) (by omega)
    have htk : l.take (i + 1) = l.take i ++ [x] := by rw [List.take_add_one, hx]; rfl
    have hs : sumPc (l.take (i + 1)) = sumPc (l.take i) + x.l := by rw [htk]; simp [sumPc]
    have hbd := sumPc_bd (l.take i) (fun y hy => hb y (List.mem_of_mem_take hy))
    have hle : (l.take i).length ≤ 60 := by rw [List.length_take]; omega
    have hxb := hb x (List.mem_of_getElem? hx)
    have ew2 : IntKind.i64.wrap (sumPc (l.take i) + x.l) = sumPc (l.take i) + x.l := i64_in (by omega) (by omega)
    simp only [go_sem, e1, e3, hlt', h0, hxp, dPc, ew, ew2, hN]
    refine ⟨by kernel_rfl, i + 1, ?_, by simp only; omega⟩
    simp only [go_sem]
    exact ⟨by simp, by omega, by rw [hs], _, _, _, rfl⟩
  · have hlt' : ((i : Int) < (l.length : Int)) = False := by simp; omega
    rw [List.take_of_length_le (by omega)] at e3
    simp only [go_sem, e1, e3, hX, hlt']
end Go.Proofs.Yteadhjclchjfjaa
