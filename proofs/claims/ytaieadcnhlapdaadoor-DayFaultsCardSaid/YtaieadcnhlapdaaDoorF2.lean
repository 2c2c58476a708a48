/- checkFault, for all nets and faults. -/
import Derived.Test.YtaieadcnhlapdaaDoorF1
import Derived.Test.YtaieadcnhlapdaaDoorL200
namespace Go.Proofs.YtaieadcnhlapdaaDoor
set_option linter.unusedSimpArgs false
set_option linter.unusedVariables false
open Go.AB

theorem within_iff {n lo hi : Int} : within n lo hi = true ↔ lo ≤ n ∧ n ≤ hi := by simp [within]
def mostF (n : Net) (sets : Int) (k : Int) : Int := if k = 1 ∨ k = 2 then n.sects.length else if k = 3 then n.gates.length else sets
def fltE (n : Net) (sets : Int) (l : List Flt) (f : Flt) : Int :=
  if within f.kind 1 7 = true then
    if within f.who 0 (mostF n sets f.kind - 1) = true ∧ (f.kind = 1 → kindAt n f.who = 2) then
      if within f.fr 0 28799 = true ∧ within f.upto (f.fr + 1) 28800 = true then
        if (f.kind = 5 → within f.much (-40) 40 = true) ∧ (f.kind = 6 → within f.much 0 6000 = true) then
          if f.kind = 5 ∨ f.kind = 6 ∨ f.much = 0 then (if l.any (clash f) = true then 8 else 0) else 1
        else 2
      else 13
    else 3
  else 15

set_option maxRecDepth 20000 in
set_option maxHeartbeats 4000000 in
theorem f11_1 (n : Net) (hb : NetB n) (sets : Int) (l : List Flt) (f : Flt) (hk : f.kind = 1) (hs : 0 ≤ sets ∧ sets ≤ 8) (hl : l.length ≤ 20) (d : List DV) (hd : d = l.map dFlt) : PCall Tryd.prog 11 [eNet n, .int .i64 sets, eFlt f, .sl 5 d .no] (RV (.int .i64 (fltE n sets l f))) := by
  subst hd
  obtain ⟨kind, who, fr, upto, much⟩ := f
  dsimp only at hk
  subst hk
  have hsc := hb.sc
  have hgt := hb.gt
  have hw : within 1 1 7 = true := rfl
  have ewm : IntKind.i64.wrap ((n.sects.length : Int) - 1) = (n.sects.length : Int) - 1 := i64_in (by omega) (by omega)
  have hm : muchB 1 = false := rfl
  refine PCall.of_body Tryd.func11 rfl Tryd.ntmps11 (congrArg Array.toList Tryd.results11) ?_
  intro E
  simp only [go_sem, eNet, nCells, eFlt]
  refine callV (f10 _ _ _) ?_
  intro nx1 lv1
  simp only [go_sem, hw, ewm]
  refine callV (f10 _ _ _) ?_
  intro nx2 lv2
  by_cases c1 : within who 0 ((n.sects.length : Int) - 1) = true
  · have hwi := within_iff.1 c1
    obtain ⟨c, hc⟩ : ∃ c, n.sects[who.toNat]? = some c := ⟨_, List.getElem?_eq_getElem (by omega)⟩
    have hpc : (n.sects.map dSect)[who.toNat]? = some (dSect c) := by rw [List.getElem?_map, hc]; rfl
    have h0w : (0 ≤ who) = True := by simp; omega
    have hka : kindAt n who = c.kind := by simp [kindAt, hc]
    by_cases q1 : c.kind = 2
    rotate_left
    · have q1' : (c.kind = 2) = False := by simp [q1]
      simp only [go_sem, c1, hpc, h0w, dSect, q1']
      simp [fltE, mostF, hw, c1, hka, q1]
    simp only [go_sem, c1, hpc, h0w, dSect, q1]
    refine callV (f10 _ _ _) ?_
    intro nx3 lv3
    by_cases c2 : within fr 0 28799 = true
    rotate_left
    · have c2' : within fr 0 28799 = false := by simpa using c2
      simp only [go_sem, c2']
      simp [fltE, mostF, hw, c1, c2, hka, q1]
    have hfi := within_iff.1 c2
    have ewf : IntKind.i64.wrap (fr + 1) = fr + 1 := i64_in (by omega) (by omega)
    simp only [go_sem, c2, ewf]
    refine callV (f10 _ _ _) ?_
    intro nx4 lv4
    by_cases c3 : within upto (fr + 1) 28800 = true
    rotate_left
    · have c3' : within upto (fr + 1) 28800 = false := by simpa using c3
      simp only [go_sem, c3']
      simp [fltE, mostF, hw, c1, c2, c3, hka, q1]
    simp only [go_sem, c3]
    refine callV (f12 _) ?_
    intro nx6 lv6
    by_cases c5 : much = 0
    rotate_left
    · have c5' : (much = 0) = False := by simp [c5]
      simp only [go_sem, hm, c5']
      simp [fltE, mostF, hw, c1, c2, c3, c5, hka, q1]
    simp only [go_sem, hm, c5]
    refine .inl (quiet (f27 (l := l) ⟨1, who, fr, upto, 0⟩ (by omega) rfl) rfl ?_)
    by_cases c6 : l.any (clash ⟨1, who, fr, upto, 0⟩) = true
    · simp only [go_sem, c6]
      simp [-List.any_eq_true, -List.any_eq_false, fltE, mostF, hw, c1, c2, c3, c6, hka, q1, c5]
    · have c6' : l.any (clash ⟨1, who, fr, upto, 0⟩) = false := by simpa using c6
      simp only [go_sem, c6']
      simp [-List.any_eq_true, -List.any_eq_false, fltE, mostF, hw, c1, c2, c3, c6', hka, q1, c5]
  · have c1' : within who 0 ((n.sects.length : Int) - 1) = false := by simpa using c1
    simp only [go_sem, c1']
    simp [fltE, mostF, hw, c1]

set_option maxRecDepth 20000 in
set_option maxHeartbeats 4000000 in
theorem f11_2 (n : Net) (hb : NetB n) (sets : Int) (l : List Flt) (f : Flt) (hk : f.kind = 2) (hs : 0 ≤ sets ∧ sets ≤ 8) (hl : l.length ≤ 20) (d : List DV) (hd : d = l.map dFlt) : PCall Tryd.prog 11 [eNet n, .int .i64 sets, eFlt f, .sl 5 d .no] (RV (.int .i64 (fltE n sets l f))) := by
  subst hd
  obtain ⟨kind, who, fr, upto, much⟩ := f
  dsimp only at hk
  subst hk
  have hsc := hb.sc
  have hgt := hb.gt
  have hw : within 2 1 7 = true := rfl
  have ewm : IntKind.i64.wrap ((n.sects.length : Int) - 1) = (n.sects.length : Int) - 1 := i64_in (by omega) (by omega)
  have hm : muchB 2 = false := rfl
  refine PCall.of_body Tryd.func11 rfl Tryd.ntmps11 (congrArg Array.toList Tryd.results11) ?_
  intro E
  simp only [go_sem, eNet, nCells, eFlt]
  refine callV (f10 _ _ _) ?_
  intro nx1 lv1
  simp only [go_sem, hw, ewm]
  refine callV (f10 _ _ _) ?_
  intro nx2 lv2
  by_cases c1 : within who 0 ((n.sects.length : Int) - 1) = true
  · simp only [go_sem, c1]
    refine callV (f10 _ _ _) ?_
    intro nx3 lv3
    by_cases c2 : within fr 0 28799 = true
    rotate_left
    · have c2' : within fr 0 28799 = false := by simpa using c2
      simp only [go_sem, c2']
      simp [fltE, mostF, hw, c1, c2]
    have hfi := within_iff.1 c2
    have ewf : IntKind.i64.wrap (fr + 1) = fr + 1 := i64_in (by omega) (by omega)
    simp only [go_sem, c2, ewf]
    refine callV (f10 _ _ _) ?_
    intro nx4 lv4
    by_cases c3 : within upto (fr + 1) 28800 = true
    rotate_left
    · have c3' : within upto (fr + 1) 28800 = false := by simpa using c3
      simp only [go_sem, c3']
      simp [fltE, mostF, hw, c1, c2, c3]
    simp only [go_sem, c3]
    refine callV (f12 _) ?_
    intro nx6 lv6
    by_cases c5 : much = 0
    rotate_left
    · have c5' : (much = 0) = False := by simp [c5]
      simp only [go_sem, hm, c5']
      simp [fltE, mostF, hw, c1, c2, c3, c5]
    simp only [go_sem, hm, c5]
    refine .inl (quiet (f27 (l := l) ⟨2, who, fr, upto, 0⟩ (by omega) rfl) rfl ?_)
    by_cases c6 : l.any (clash ⟨2, who, fr, upto, 0⟩) = true
    · simp only [go_sem, c6]
      simp [-List.any_eq_true, -List.any_eq_false, fltE, mostF, hw, c1, c2, c3, c6, c5]
    · have c6' : l.any (clash ⟨2, who, fr, upto, 0⟩) = false := by simpa using c6
      simp only [go_sem, c6']
      simp [-List.any_eq_true, -List.any_eq_false, fltE, mostF, hw, c1, c2, c3, c6', c5]
  · have c1' : within who 0 ((n.sects.length : Int) - 1) = false := by simpa using c1
    simp only [go_sem, c1']
    simp [fltE, mostF, hw, c1]

set_option maxRecDepth 20000 in
set_option maxHeartbeats 4000000 in
theorem f11_3 (n : Net) (hb : NetB n) (sets : Int) (l : List Flt) (f : Flt) (hk : f.kind = 3) (hs : 0 ≤ sets ∧ sets ≤ 8) (hl : l.length ≤ 20) (d : List DV) (hd : d = l.map dFlt) : PCall Tryd.prog 11 [eNet n, .int .i64 sets, eFlt f, .sl 5 d .no] (RV (.int .i64 (fltE n sets l f))) := by
  subst hd
  obtain ⟨kind, who, fr, upto, much⟩ := f
  dsimp only at hk
  subst hk
  have hsc := hb.sc
  have hgt := hb.gt
  have hw : within 3 1 7 = true := rfl
  have ewm : IntKind.i64.wrap ((n.gates.length : Int) - 1) = (n.gates.length : Int) - 1 := i64_in (by omega) (by omega)
  have hm : muchB 3 = false := rfl
  refine PCall.of_body Tryd.func11 rfl Tryd.ntmps11 (congrArg Array.toList Tryd.results11) ?_
  intro E
  simp only [go_sem, eNet, nCells, eFlt]
  refine callV (f10 _ _ _) ?_
  intro nx1 lv1
  simp only [go_sem, hw, ewm]
  refine callV (f10 _ _ _) ?_
  intro nx2 lv2
  by_cases c1 : within who 0 ((n.gates.length : Int) - 1) = true
  · simp only [go_sem, c1]
    refine callV (f10 _ _ _) ?_
    intro nx3 lv3
    by_cases c2 : within fr 0 28799 = true
    rotate_left
    · have c2' : within fr 0 28799 = false := by simpa using c2
      simp only [go_sem, c2']
      simp [fltE, mostF, hw, c1, c2]
    have hfi := within_iff.1 c2
    have ewf : IntKind.i64.wrap (fr + 1) = fr + 1 := i64_in (by omega) (by omega)
    simp only [go_sem, c2, ewf]
    refine callV (f10 _ _ _) ?_
    intro nx4 lv4
    by_cases c3 : within upto (fr + 1) 28800 = true
    rotate_left
    · have c3' : within upto (fr + 1) 28800 = false := by simpa using c3
      simp only [go_sem, c3']
      simp [fltE, mostF, hw, c1, c2, c3]
    simp only [go_sem, c3]
    refine callV (f12 _) ?_
    intro nx6 lv6
    by_cases c5 : much = 0
    rotate_left
    · have c5' : (much = 0) = False := by simp [c5]
      simp only [go_sem, hm, c5']
      simp [fltE, mostF, hw, c1, c2, c3, c5]
    simp only [go_sem, hm, c5]
    refine .inl (quiet (f27 (l := l) ⟨3, who, fr, upto, 0⟩ (by omega) rfl) rfl ?_)
    by_cases c6 : l.any (clash ⟨3, who, fr, upto, 0⟩) = true
    · simp only [go_sem, c6]
      simp [-List.any_eq_true, -List.any_eq_false, fltE, mostF, hw, c1, c2, c3, c6, c5]
    · have c6' : l.any (clash ⟨3, who, fr, upto, 0⟩) = false := by simpa using c6
      simp only [go_sem, c6']
      simp [-List.any_eq_true, -List.any_eq_false, fltE, mostF, hw, c1, c2, c3, c6', c5]
  · have c1' : within who 0 ((n.gates.length : Int) - 1) = false := by simpa using c1
    simp only [go_sem, c1']
    simp [fltE, mostF, hw, c1]

set_option maxRecDepth 20000 in
set_option maxHeartbeats 4000000 in
theorem f11_4 (n : Net) (hb : NetB n) (sets : Int) (l : List Flt) (f : Flt) (hk : f.kind = 4) (hs : 0 ≤ sets ∧ sets ≤ 8) (hl : l.length ≤ 20) (d : List DV) (hd : d = l.map dFlt) : PCall Tryd.prog 11 [eNet n, .int .i64 sets, eFlt f, .sl 5 d .no] (RV (.int .i64 (fltE n sets l f))) := by
  subst hd
  obtain ⟨kind, who, fr, upto, much⟩ := f
  dsimp only at hk
  subst hk
  have hsc := hb.sc
  have hgt := hb.gt
  have hw : within 4 1 7 = true := rfl
  have ewm : IntKind.i64.wrap (sets - 1) = sets - 1 := i64_in (by omega) (by omega)
  have hm : muchB 4 = false := rfl
  refine PCall.of_body Tryd.func11 rfl Tryd.ntmps11 (congrArg Array.toList Tryd.results11) ?_
  intro E
  simp only [go_sem, eNet, nCells, eFlt]
  refine callV (f10 _ _ _) ?_
  intro nx1 lv1
  simp only [go_sem, hw, ewm]
  refine callV (f10 _ _ _) ?_
  intro nx2 lv2
  by_cases c1 : within who 0 (sets - 1) = true
  · simp only [go_sem, c1]
    refine callV (f10 _ _ _) ?_
    intro nx3 lv3
    by_cases c2 : within fr 0 28799 = true
    rotate_left
    · have c2' : within fr 0 28799 = false := by simpa using c2
      simp only [go_sem, c2']
      simp [fltE, mostF, hw, c1, c2]
    have hfi := within_iff.1 c2
    have ewf : IntKind.i64.wrap (fr + 1) = fr + 1 := i64_in (by omega) (by omega)
    simp only [go_sem, c2, ewf]
    refine callV (f10 _ _ _) ?_
    intro nx4 lv4
    by_cases c3 : within upto (fr + 1) 28800 = true
    rotate_left
    · have c3' : within upto (fr + 1) 28800 = false := by simpa using c3
      simp only [go_sem, c3']
      simp [fltE, mostF, hw, c1, c2, c3]
    simp only [go_sem, c3]
    refine callV (f12 _) ?_
    intro nx6 lv6
    by_cases c5 : much = 0
    rotate_left
    · have c5' : (much = 0) = False := by simp [c5]
      simp only [go_sem, hm, c5']
      simp [fltE, mostF, hw, c1, c2, c3, c5]
    simp only [go_sem, hm, c5]
    refine .inl (quiet (f27 (l := l) ⟨4, who, fr, upto, 0⟩ (by omega) rfl) rfl ?_)
    by_cases c6 : l.any (clash ⟨4, who, fr, upto, 0⟩) = true
    · simp only [go_sem, c6]
      simp [-List.any_eq_true, -List.any_eq_false, fltE, mostF, hw, c1, c2, c3, c6, c5]
    · have c6' : l.any (clash ⟨4, who, fr, upto, 0⟩) = false := by simpa using c6
      simp only [go_sem, c6']
      simp [-List.any_eq_true, -List.any_eq_false, fltE, mostF, hw, c1, c2, c3, c6', c5]
  · have c1' : within who 0 (sets - 1) = false := by simpa using c1
    simp only [go_sem, c1']
    simp [fltE, mostF, hw, c1]

set_option maxRecDepth 20000 in
set_option maxHeartbeats 4000000 in
theorem f11_5 (n : Net) (hb : NetB n) (sets : Int) (l : List Flt) (f : Flt) (hk : f.kind = 5) (hs : 0 ≤ sets ∧ sets ≤ 8) (hl : l.length ≤ 20) (d : List DV) (hd : d = l.map dFlt) : PCall Tryd.prog 11 [eNet n, .int .i64 sets, eFlt f, .sl 5 d .no] (RV (.int .i64 (fltE n sets l f))) := by
  subst hd
  obtain ⟨kind, who, fr, upto, much⟩ := f
  dsimp only at hk
  subst hk
  have hsc := hb.sc
  have hgt := hb.gt
  have hw : within 5 1 7 = true := rfl
  have ewm : IntKind.i64.wrap (sets - 1) = sets - 1 := i64_in (by omega) (by omega)
  have hm : muchB 5 = true := rfl
  refine PCall.of_body Tryd.func11 rfl Tryd.ntmps11 (congrArg Array.toList Tryd.results11) ?_
  intro E
  simp only [go_sem, eNet, nCells, eFlt]
  refine callV (f10 _ _ _) ?_
  intro nx1 lv1
  simp only [go_sem, hw, ewm]
  refine callV (f10 _ _ _) ?_
  intro nx2 lv2
  by_cases c1 : within who 0 (sets - 1) = true
  · simp only [go_sem, c1]
    refine callV (f10 _ _ _) ?_
    intro nx3 lv3
    by_cases c2 : within fr 0 28799 = true
    rotate_left
    · have c2' : within fr 0 28799 = false := by simpa using c2
      simp only [go_sem, c2']
      simp [fltE, mostF, hw, c1, c2]
    have hfi := within_iff.1 c2
    have ewf : IntKind.i64.wrap (fr + 1) = fr + 1 := i64_in (by omega) (by omega)
    simp only [go_sem, c2, ewf]
    refine callV (f10 _ _ _) ?_
    intro nx4 lv4
    by_cases c3 : within upto (fr + 1) 28800 = true
    rotate_left
    · have c3' : within upto (fr + 1) 28800 = false := by simpa using c3
      simp only [go_sem, c3']
      simp [fltE, mostF, hw, c1, c2, c3]
    simp only [go_sem, c3]
    refine callV (f10 _ _ _) ?_
    intro nx5 lv5
    by_cases c4 : within much (-40) 40 = true
    rotate_left
    · have c4' : within much (-40) 40 = false := by simpa using c4
      simp only [go_sem, c4']
      simp [fltE, mostF, hw, c1, c2, c3, c4]
    simp only [go_sem, c4]
    refine callV (f12 _) ?_
    intro nx6 lv6
    simp only [go_sem, hm]
    refine .inl (quiet (f27 (l := l) ⟨5, who, fr, upto, much⟩ (by omega) rfl) rfl ?_)
    by_cases c6 : l.any (clash ⟨5, who, fr, upto, much⟩) = true
    · simp only [go_sem, c6]
      simp [-List.any_eq_true, -List.any_eq_false, fltE, mostF, hw, c1, c2, c3, c6, c4]
    · have c6' : l.any (clash ⟨5, who, fr, upto, much⟩) = false := by simpa using c6
      simp only [go_sem, c6']
      simp [-List.any_eq_true, -List.any_eq_false, fltE, mostF, hw, c1, c2, c3, c6', c4]
  · have c1' : within who 0 (sets - 1) = false := by simpa using c1
    simp only [go_sem, c1']
    simp [fltE, mostF, hw, c1]

set_option maxRecDepth 20000 in
set_option maxHeartbeats 4000000 in
theorem f11_6 (n : Net) (hb : NetB n) (sets : Int) (l : List Flt) (f : Flt) (hk : f.kind = 6) (hs : 0 ≤ sets ∧ sets ≤ 8) (hl : l.length ≤ 20) (d : List DV) (hd : d = l.map dFlt) : PCall Tryd.prog 11 [eNet n, .int .i64 sets, eFlt f, .sl 5 d .no] (RV (.int .i64 (fltE n sets l f))) := by
  subst hd
  obtain ⟨kind, who, fr, upto, much⟩ := f
  dsimp only at hk
  subst hk
  have hsc := hb.sc
  have hgt := hb.gt
  have hw : within 6 1 7 = true := rfl
  have ewm : IntKind.i64.wrap (sets - 1) = sets - 1 := i64_in (by omega) (by omega)
  have hm : muchB 6 = true := rfl
  refine PCall.of_body Tryd.func11 rfl Tryd.ntmps11 (congrArg Array.toList Tryd.results11) ?_
  intro E
  simp only [go_sem, eNet, nCells, eFlt]
  refine callV (f10 _ _ _) ?_
  intro nx1 lv1
  simp only [go_sem, hw, ewm]
  refine callV (f10 _ _ _) ?_
  intro nx2 lv2
  by_cases c1 : within who 0 (sets - 1) = true
  · simp only [go_sem, c1]
    refine callV (f10 _ _ _) ?_
    intro nx3 lv3
    by_cases c2 : within fr 0 28799 = true
    rotate_left
    · have c2' : within fr 0 28799 = false := by simpa using c2
      simp only [go_sem, c2']
      simp [fltE, mostF, hw, c1, c2]
    have hfi := within_iff.1 c2
    have ewf : IntKind.i64.wrap (fr + 1) = fr + 1 := i64_in (by omega) (by omega)
    simp only [go_sem, c2, ewf]
    refine callV (f10 _ _ _) ?_
    intro nx4 lv4
    by_cases c3 : within upto (fr + 1) 28800 = true
    rotate_left
    · have c3' : within upto (fr + 1) 28800 = false := by simpa using c3
      simp only [go_sem, c3']
      simp [fltE, mostF, hw, c1, c2, c3]
    simp only [go_sem, c3]
    refine callV (f10 _ _ _) ?_
    intro nx5 lv5
    by_cases c4 : within much 0 6000 = true
    rotate_left
    · have c4' : within much 0 6000 = false := by simpa using c4
      simp only [go_sem, c4']
      simp [fltE, mostF, hw, c1, c2, c3, c4]
    simp only [go_sem, c4]
    refine callV (f12 _) ?_
    intro nx6 lv6
    simp only [go_sem, hm]
    refine .inl (quiet (f27 (l := l) ⟨6, who, fr, upto, much⟩ (by omega) rfl) rfl ?_)
    by_cases c6 : l.any (clash ⟨6, who, fr, upto, much⟩) = true
    · simp only [go_sem, c6]
      simp [-List.any_eq_true, -List.any_eq_false, fltE, mostF, hw, c1, c2, c3, c6, c4]
    · have c6' : l.any (clash ⟨6, who, fr, upto, much⟩) = false := by simpa using c6
      simp only [go_sem, c6']
      simp [-List.any_eq_true, -List.any_eq_false, fltE, mostF, hw, c1, c2, c3, c6', c4]
  · have c1' : within who 0 (sets - 1) = false := by simpa using c1
    simp only [go_sem, c1']
    simp [fltE, mostF, hw, c1]

set_option maxRecDepth 20000 in
set_option maxHeartbeats 4000000 in
theorem f11_7 (n : Net) (hb : NetB n) (sets : Int) (l : List Flt) (f : Flt) (hk : f.kind = 7) (hs : 0 ≤ sets ∧ sets ≤ 8) (hl : l.length ≤ 20) (d : List DV) (hd : d = l.map dFlt) : PCall Tryd.prog 11 [eNet n, .int .i64 sets, eFlt f, .sl 5 d .no] (RV (.int .i64 (fltE n sets l f))) := by
  subst hd
  obtain ⟨kind, who, fr, upto, much⟩ := f
  dsimp only at hk
  subst hk
  have hsc := hb.sc
  have hgt := hb.gt
  have hw : within 7 1 7 = true := rfl
  have ewm : IntKind.i64.wrap (sets - 1) = sets - 1 := i64_in (by omega) (by omega)
  have hm : muchB 7 = false := rfl
  refine PCall.of_body Tryd.func11 rfl Tryd.ntmps11 (congrArg Array.toList Tryd.results11) ?_
  intro E
  simp only [go_sem, eNet, nCells, eFlt]
  refine callV (f10 _ _ _) ?_
  intro nx1 lv1
  simp only [go_sem, hw, ewm]
  refine callV (f10 _ _ _) ?_
  intro nx2 lv2
  by_cases c1 : within who 0 (sets - 1) = true
  · simp only [go_sem, c1]
    refine callV (f10 _ _ _) ?_
    intro nx3 lv3
    by_cases c2 : within fr 0 28799 = true
    rotate_left
    · have c2' : within fr 0 28799 = false := by simpa using c2
      simp only [go_sem, c2']
      simp [fltE, mostF, hw, c1, c2]
    have hfi := within_iff.1 c2
    have ewf : IntKind.i64.wrap (fr + 1) = fr + 1 := i64_in (by omega) (by omega)
    simp only [go_sem, c2, ewf]
    refine callV (f10 _ _ _) ?_
    intro nx4 lv4
    by_cases c3 : within upto (fr + 1) 28800 = true
    rotate_left
    · have c3' : within upto (fr + 1) 28800 = false := by simpa using c3
      simp only [go_sem, c3']
      simp [fltE, mostF, hw, c1, c2, c3]
    simp only [go_sem, c3]
    refine callV (f12 _) ?_
    intro nx6 lv6
    by_cases c5 : much = 0
    rotate_left
    · have c5' : (much = 0) = False := by simp [c5]
      simp only [go_sem, hm, c5']
      simp [fltE, mostF, hw, c1, c2, c3, c5]
    simp only [go_sem, hm, c5]
    refine .inl (quiet (f27 (l := l) ⟨7, who, fr, upto, 0⟩ (by omega) rfl) rfl ?_)
    by_cases c6 : l.any (clash ⟨7, who, fr, upto, 0⟩) = true
    · simp only [go_sem, c6]
      simp [-List.any_eq_true, -List.any_eq_false, fltE, mostF, hw, c1, c2, c3, c6, c5]
    · have c6' : l.any (clash ⟨7, who, fr, upto, 0⟩) = false := by simpa using c6
      simp only [go_sem, c6']
      simp [-List.any_eq_true, -List.any_eq_false, fltE, mostF, hw, c1, c2, c3, c6', c5]
  · have c1' : within who 0 (sets - 1) = false := by simpa using c1
    simp only [go_sem, c1']
    simp [fltE, mostF, hw, c1]

set_option maxRecDepth 20000 in
set_option maxHeartbeats 4000000 in
theorem f11_0 (n : Net) (hb : NetB n) (sets : Int) (l : List Flt) (f : Flt) (hk : within f.kind 1 7 = false) (d : List DV) (hd : d = l.map dFlt) : PCall Tryd.prog 11 [eNet n, .int .i64 sets, eFlt f, .sl 5 d .no] (RV (.int .i64 (fltE n sets l f))) := by
  subst hd
  have h7 : ¬ (1 ≤ f.kind ∧ f.kind ≤ 7) := fun h => by rw [within_iff.2 h] at hk; cases hk
  have h1 : (f.kind = 1) = False := by simp; omega
  have h2 : (f.kind = 2) = False := by simp; omega
  have h3 : (f.kind = 3) = False := by simp; omega
  refine PCall.of_body Tryd.func11 rfl Tryd.ntmps11 (congrArg Array.toList Tryd.results11) ?_
  intro E
  simp only [go_sem, eNet, nCells, eFlt, h1, h2, h3]
  refine callV (f10 _ _ _) ?_
  intro nx1 lv1
  simp only [go_sem, hk]
  simp [fltE, hk]

theorem f11 (n : Net) (hb : NetB n) (sets : Int) (l : List Flt) (f : Flt) (hs : 0 ≤ sets ∧ sets ≤ 8) (hl : l.length ≤ 20) (d : List DV) (hd : d = l.map dFlt) : PCall Tryd.prog 11 [eNet n, .int .i64 sets, eFlt f, .sl 5 d .no] (RV (.int .i64 (fltE n sets l f))) := by
  by_cases hk : within f.kind 1 7 = true
  · rw [within_iff] at hk
    have : f.kind = 1 ∨ f.kind = 2 ∨ f.kind = 3 ∨ f.kind = 4 ∨ f.kind = 5 ∨ f.kind = 6 ∨ f.kind = 7 := by omega
    rcases this with h | h | h | h | h | h | h
    · exact f11_1 n hb sets l f h hs hl d hd
    · exact f11_2 n hb sets l f h hs hl d hd
    · exact f11_3 n hb sets l f h hs hl d hd
    · exact f11_4 n hb sets l f h hs hl d hd
    · exact f11_5 n hb sets l f h hs hl d hd
    · exact f11_6 n hb sets l f h hs hl d hd
    · exact f11_7 n hb sets l f h hs hl d hd
  · exact f11_0 n hb sets l f (by simpa using hk) d hd
end Go.Proofs.YtaieadcnhlapdaaDoor
