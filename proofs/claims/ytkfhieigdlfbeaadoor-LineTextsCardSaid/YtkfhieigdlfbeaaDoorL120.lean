/- Nets: their check, the program's and the reference's. -/
import Derived.Test.YtkfhieigdlfbeaaDoorL119
namespace Go.Proofs.YtkfhieigdlfbeaaDoor
set_option linter.unusedSimpArgs false
set_option linter.unusedVariables false
open Go.AB

def nameE (l : List (List UInt8)) (i : Nat) : Int := match l[i]? with
  | none => 0
  | some s => if nameOk s = false then 1 else if s ∈ l.take i then 6 else 0
def namesE (n : Net) : Int := firstE (nameE n.names) n.names.length 0
def secAt (n : Net) (i : Nat) : Int := match n.sects[i]? with
  | none => 0
  | some s => secE s n.names.length
def secsE (n : Net) : Int := firstE (secAt n) n.sects.length 0
def bigN (n : Net) : Prop := 12 < n.names.length ∨ 60 < n.sects.length ∨ 90 < n.links.length ∨ 40 < n.sigs.length ∨ 8 < n.gates.length
instance (n : Net) : Decidable (bigN n) := by unfold bigN; infer_instance
/-- The error of a net. -/
def netE (n : Net) : Int :=
  if n.sects.length = 0 then 1 else if bigN n then 4 else if namesE n ≠ 0 then namesE n else if secsE n ≠ 0 then secsE n else if linksE n ≠ 0 then linksE n else restE n

theorem firstE_zero {f : Nat → Int} : ∀ {k i j : Nat}, firstE f k i = 0 → i ≤ j → j < i + k → f j = 0
  | 0, i, j, _, h1, h2 => by omega
  | k + 1, i, j, h, h1, h2 => by
    unfold firstE at h
    split at h
    · rename_i h0; exact absurd h h0
    · rename_i h0
      by_cases e : j = i
      · subst e; simpa using h0
      · exact firstE_zero h (by omega) (by omega)
theorem secs_kinds {n : Net} (h : secsE n = 0) : KindsOk n := by
  intro s hs
  obtain ⟨i, hi, rfl⟩ := List.getElem_of_mem hs
  have := firstE_zero (j := i) h (Nat.zero_le _) (by omega)
  simp only [secAt, List.getElem?_eq_getElem hi] at this
  exact secE_kind this
theorem firstE_step {f : Nat → Int} {len i : Nat} (h : i < len) : firstE f (len - i) i = if f i ≠ 0 then f i else firstE f (len - (i + 1)) (i + 1) := by
  have : len - i = (len - (i + 1)) + 1 := by omega
  rw [this]; rfl
theorem firstE_end {f : Nat → Int} {len i : Nat} (h : ¬ i < len) : firstE f (len - i) i = 0 := by
  have : len - i = 0 := by omega
  rw [this]; rfl
theorem firstE_hit {f : Nat → Int} {len i : Nat} {v r : Int} (h : i < len) (hf : f i = v) (hv : v ≠ 0) (g : firstE f (len - i) i = r) : r = v := by
  rw [firstE_step h, hf, if_pos hv] at g; exact g.symm
theorem firstE_go {f : Nat → Int} {len i : Nat} {r : Int} (h : i < len) (hf : f i = 0) (g : firstE f (len - i) i = r) : firstE f (len - (i + 1)) (i + 1) = r := by
  rw [firstE_step h, hf] at g; simpa using g

set_option maxHeartbeats 4000000 in
set_option maxRecDepth 20000 in
theorem f43 (n : Net) (hb : NetB n) : PCall Tryd.prog 43 [eNet n] (RV (.int .i64 (netE n))) := by
  refine PCall.of_body Tryd.func43 rfl Tryd.ntmps43 (congrArg Array.toList Tryd.results43) ?_
  intro E
  obtain ⟨hnm, hsc, hlk, hsg, hgt, hst⟩ := hb
  have hb : NetB n := ⟨hnm, hsc, hlk, hsg, hgt, hst⟩
  by_cases c0 : n.sects.length = 0
  · have c0' : ((n.sects.length : Int) = 0) = True := by simp [c0]
    simp only [go_sem, eNet, nCells, c0']
    simp [netE, c0]
  have c0' : ((n.sects.length : Int) = 0) = False := by simp only [eq_iff_iff, iff_false]; omega
  have big : bigN n → netE n = 4 := fun h => by simp [netE, c0, h]
  by_cases c1 : 12 < n.names.length
  · have c1' : ((12 : Int) < (n.names.length : Int)) = True := by simp; omega
    simp only [go_sem, eNet, nCells, c0', c1']
    rw [big (by unfold bigN; omega)]
  have c1' : ((12 : Int) < (n.names.length : Int)) = False := by simp; omega
  by_cases c2 : 60 < n.sects.length
  · have c2' : ((60 : Int) < (n.sects.length : Int)) = True := by simp; omega
    simp only [go_sem, eNet, nCells, c0', c1', c2']
    rw [big (by unfold bigN; omega)]
  have c2' : ((60 : Int) < (n.sects.length : Int)) = False := by simp; omega
  by_cases c3 : 90 < n.links.length
  · have c3' : ((90 : Int) < (n.links.length : Int)) = True := by simp; omega
    simp only [go_sem, eNet, nCells, c0', c1', c2', c3']
    rw [big (by unfold bigN; omega)]
  have c3' : ((90 : Int) < (n.links.length : Int)) = False := by simp; omega
  by_cases c4 : 40 < n.sigs.length
  · have c4' : ((40 : Int) < (n.sigs.length : Int)) = True := by simp; omega
    simp only [go_sem, eNet, nCells, c0', c1', c2', c3', c4']
    rw [big (by unfold bigN; omega)]
  have c4' : ((40 : Int) < (n.sigs.length : Int)) = False := by simp; omega
  by_cases c5 : 8 < n.gates.length
  · have c5' : ((8 : Int) < (n.gates.length : Int)) = True := by simp; omega
    simp only [go_sem, eNet, nCells, c0', c1', c2', c3', c4', c5']
    rw [big (by unfold bigN; omega)]
  have c5' : ((8 : Int) < (n.gates.length : Int)) = False := by simp; omega
  have hnb : ¬ bigN n := by unfold bigN; omega
  have hge : netE n = if namesE n ≠ 0 then namesE n else if secsE n ≠ 0 then secsE n else if linksE n ≠ 0 then linksE n else restE n := by simp [netE, c0, hnb]
  simp only [go_sem, eNet, nCells, c0', c1', c2', c3', c4', c5']
  refine AW_loopH [2, 3, 4, 48, 49, 50, 51, 52, 53, 54, 55, 56, 57, 58, 59, 60, 61, 62, 63, 64]
    (fun (i : Nat) ρ m => ρ 48 = .int .i64 (i : Int) ∧ i ≤ n.names.length ∧ firstE (nameE n.names) (n.names.length - i) i = namesE n ∧
      ∃ h nx lv, m = ⟨h, [], nx, lv⟩ ∧ AB.hget h 1 = some (0, nCells n)) (fun i => n.names.length - i) 0 ?_ ?_
  · simp only [go_sem]
    exact ⟨Nat.zero_le _, rfl, _, _, _, rfl, by simp [go_sem, nCells]⟩
  · rintro i ρ m ⟨e1, g1, g2, h, nx, lv, rfl, hb1⟩ Q hN hR hX
    simp only [nCells] at hb1
    by_cases hlt : i < n.names.length
    · obtain ⟨s, hs⟩ : ∃ s, n.names[i]? = some s := ⟨_, List.getElem?_eq_getElem hlt⟩
      have hsl : s.length ≤ 140737488351232 := hst s (List.mem_of_getElem? hs)
      have hlt' : ((i : Int) < (n.names.length : Int)) = True := by simp; omega
      have ew : IntKind.i64.wrap ((i : Int) + 1) = (i : Int) + 1 := i64_in (by omega) (by omega)
      have hne : nameE n.names i = if nameOk s = false then 1 else if s ∈ n.names.take i then 6 else 0 := by simp [nameE, hs]
      have h0i : ((0 : Int) ≤ (i : Int)) = True := by simp
      have hcut : (n.names.take i).map DV.str = List.take (i - 0) (List.map DV.str n.names) := by simp [List.map_take]
      have hf93 := f78 (n.names.take i) s (by simp; omega)
      rw [hcut] at hf93
      simp only [go_sem, e1, hlt', hs, hb1]
      refine ⟨by omega, ?_⟩
      refine callV (f77 s hsl) ?_
      intro nx2 lv2
      by_cases q1 : nameOk s = true
      · simp only [go_sem, hb1, q1, h0i, if_true]
        refine ⟨by omega, by omega, ?_⟩
        refine callV hf93 ?_
        intro nx3 lv3
        by_cases q2 : s ∈ n.names.take i
        · have hv : nameE n.names i = 6 := by rw [hne]; simp [q1, q2]
          simp only [go_sem, hb1, q2, hR]
          have := firstE_hit hlt hv (by omega) g2
          rw [hge, this]; rfl
        · have hv : nameE n.names i = 0 := by rw [hne]; simp [q1, q2]
          simp only [go_sem, hb1, q2, hN, ew]
          refine ⟨by kernel_rfl, i + 1, ?_, by simp only; omega⟩
          simp only [go_sem]
          exact ⟨by simp, by omega, firstE_go hlt hv g2, _, _, _, rfl, by simp [hb1, nCells]⟩
      · have q1 : nameOk s = false := by simpa using q1
        have hv : nameE n.names i = 1 := by rw [hne]; simp [q1]
        simp only [go_sem, q1, hR]
        have := firstE_hit hlt hv (by omega) g2
        rw [hge, this]; rfl
    · have hlt' : ((i : Int) < (n.names.length : Int)) = False := by simp; omega
      rw [firstE_end hlt] at g2
      simp only [go_sem, e1, hX, hlt', hb1]
      have hge : netE n = if secsE n ≠ 0 then secsE n else if linksE n ≠ 0 then linksE n else restE n := by rw [hge, ← g2]; rfl
      refine AW_loopH [2, 6, 7, 68, 69, 70, 71, 72, 73, 74, 75, 76, 77, 78, 79, 80]
        (fun (i : Nat) ρ m => ρ 68 = .int .i64 (i : Int) ∧ i ≤ n.sects.length ∧ firstE (secAt n) (n.sects.length - i) i = secsE n ∧
          ∃ h nx lv, m = ⟨h, [], nx, lv⟩ ∧ AB.hget h 1 = some (0, nCells n)) (fun i => n.sects.length - i) 0 ?_ ?_
      · simp only [go_sem]
        exact ⟨Nat.zero_le _, rfl, _, _, _, rfl, by simp [hb1, nCells]⟩
      · clear g1 g2 hlt hlt' hb1 e1 hN hR hX Q
        rintro i ρ m ⟨e1, g1, g2, h, nx, lv, rfl, hb1⟩ Q hN hR hX
        simp only [nCells] at hb1
        by_cases hlt : i < n.sects.length
        · obtain ⟨s, hs⟩ : ∃ s, n.sects[i]? = some s := ⟨_, List.getElem?_eq_getElem hlt⟩
          have hlt' : ((i : Int) < (n.sects.length : Int)) = True := by simp; omega
          have ew : IntKind.i64.wrap ((i : Int) + 1) = (i : Int) + 1 := i64_in (by omega) (by omega)
          have hv : secAt n i = secE s n.names.length := by simp [secAt, hs]
          simp only [go_sem, e1, hlt', hs, hb1, dSect]
          generalize genO (AB.hget h 6) = G6
          refine ⟨by omega, ?_⟩
          refine callV (f79 s n.names.length) ?_
          intro nx2 lv2
          by_cases q1 : secE s n.names.length = 0
          · simp only [go_sem, q1, hN, ew]
            refine ⟨by kernel_rfl, i + 1, ?_, by simp only; omega⟩
            simp only [go_sem]
            exact ⟨by simp, by omega, firstE_go hlt (by rw [hv, q1]) g2, _, _, _, rfl, by simp [go_sem, hb1, nCells]⟩
          · simp only [go_sem, q1, hR]
            have := firstE_hit hlt hv q1 g2
            rw [hge, this, if_pos q1]
        · have hlt' : ((i : Int) < (n.sects.length : Int)) = False := by simp; omega
          rw [firstE_end hlt] at g2
          simp only [go_sem, e1, hX, hlt', hb1]
          have hge : netE n = if linksE n ≠ 0 then linksE n else if sigsE n ≠ 0 then sigsE n else gatesE n := by rw [hge, ← g2]; rfl
          refine AW_loopH [2, 9, 10, 82, 83, 84, 85, 86, 87, 88, 89, 90, 91]
            (fun (i : Nat) ρ m => ρ 82 = .int .i64 (i : Int) ∧ i ≤ 3 ∧ (1 ≤ i → linksE n = 0) ∧ (2 ≤ i → sigsE n = 0) ∧ (3 ≤ i → gatesE n = 0) ∧
              ∃ h nx lv, m = ⟨h, [], nx, lv⟩ ∧ AB.hget h 1 = some (0, nCells n)) (fun i => 3 - i) 0 ?_ ?_
          · simp [go_sem, hb1, nCells]
          · clear g1 g2 hlt hlt' hb1 e1 hN hR hX Q
            rintro i ρ m ⟨e1, g1, r1, r2, r3, h, nx, lv, rfl, hb1⟩ Q hN hR hX
            simp only [nCells] at hb1
            have hi : i = 0 ∨ i = 1 ∨ i = 2 ∨ i = 3 := by omega
            rcases hi with rfl | rfl | rfl | rfl
            · simp only [go_sem, e1, hb1]
              refine callV (f80 n hb) ?_
              intro nx2 lv2
              by_cases q1 : linksE n = 0
              · simp only [go_sem, q1, hN]
                refine ⟨by kernel_rfl, 1, ?_, by simp only; omega⟩
                simp [go_sem, hb1, nCells, q1]
                rfl
              · simp only [go_sem, q1, hR]
                rw [hge, if_pos q1]
            · have q0 := r1 (by omega)
              simp only [go_sem, e1, hb1]
              refine callV (f81 n hb) ?_
              intro nx2 lv2
              by_cases q1 : sigsE n = 0
              · simp only [go_sem, q1, hN]
                refine ⟨by kernel_rfl, 2, ?_, by simp only; omega⟩
                simp [go_sem, hb1, nCells, q0, q1]
                rfl
              · simp only [go_sem, q1, hR]
                rw [hge, if_neg (by simp [q0]), if_pos q1]
            · have q0 := r1 (by omega)
              have q2 := r2 (by omega)
              simp only [go_sem, e1, hb1]
              refine callV (f82 n hb) ?_
              intro nx2 lv2
              by_cases q1 : gatesE n = 0
              · simp only [go_sem, q1, hN]
                refine ⟨by kernel_rfl, 3, ?_, by simp only; omega⟩
                simp [go_sem, hb1, nCells, q0, q1, q2]
                rfl
              · simp only [go_sem, q1, hR]
                rw [hge, if_neg (by simp [q0]), if_neg (by simp [q2])]
            · have q0 := r1 (by omega)
              have q1 := r2 (by omega)
              have q2 := r3 (by omega)
              simp only [go_sem, e1, hX, hge, q0, q1, q2]

set_option maxHeartbeats 4000000 in
set_option maxRecDepth 20000 in
theorem f22 (n : Net) (hb : NetB n) : PCall Tryd.prog 22 [eNet n] (RV (.int .i64 (netE n))) := by
  refine PCall.of_body Tryd.func22 rfl Tryd.ntmps22 (congrArg Array.toList Tryd.results22) ?_
  intro E
  obtain ⟨hnm, hsc, hlk, hsg, hgt, hst⟩ := hb
  have hb : NetB n := ⟨hnm, hsc, hlk, hsg, hgt, hst⟩
  by_cases c0 : n.sects.length = 0
  · have c0' : ((n.sects.length : Int) = 0) = True := by simp [c0]
    simp only [go_sem, eNet, nCells, c0']
    simp [netE, c0]
  have c0' : ((n.sects.length : Int) = 0) = False := by simp only [eq_iff_iff, iff_false]; omega
  have big : bigN n → netE n = 4 := fun h => by simp [netE, c0, h]
  by_cases c1 : 12 < n.names.length
  · have c1' : ((12 : Int) < (n.names.length : Int)) = True := by simp; omega
    simp only [go_sem, eNet, nCells, c0', c1']
    rw [big (by unfold bigN; omega)]
  have c1' : ((12 : Int) < (n.names.length : Int)) = False := by simp; omega
  by_cases c2 : 60 < n.sects.length
  · have c2' : ((60 : Int) < (n.sects.length : Int)) = True := by simp; omega
    simp only [go_sem, eNet, nCells, c0', c1', c2']
    rw [big (by unfold bigN; omega)]
  have c2' : ((60 : Int) < (n.sects.length : Int)) = False := by simp; omega
  by_cases c3 : 90 < n.links.length
  · have c3' : ((90 : Int) < (n.links.length : Int)) = True := by simp; omega
    simp only [go_sem, eNet, nCells, c0', c1', c2', c3']
    rw [big (by unfold bigN; omega)]
  have c3' : ((90 : Int) < (n.links.length : Int)) = False := by simp; omega
  by_cases c4 : 40 < n.sigs.length
  · have c4' : ((40 : Int) < (n.sigs.length : Int)) = True := by simp; omega
    simp only [go_sem, eNet, nCells, c0', c1', c2', c3', c4']
    rw [big (by unfold bigN; omega)]
  have c4' : ((40 : Int) < (n.sigs.length : Int)) = False := by simp; omega
  by_cases c5 : 8 < n.gates.length
  · have c5' : ((8 : Int) < (n.gates.length : Int)) = True := by simp; omega
    simp only [go_sem, eNet, nCells, c0', c1', c2', c3', c4', c5']
    rw [big (by unfold bigN; omega)]
  have c5' : ((8 : Int) < (n.gates.length : Int)) = False := by simp; omega
  have hnb : ¬ bigN n := by unfold bigN; omega
  have hge : netE n = if namesE n ≠ 0 then namesE n else if secsE n ≠ 0 then secsE n else if linksE n ≠ 0 then linksE n else restE n := by simp [netE, c0, hnb]
  simp only [go_sem, eNet, nCells, c0', c1', c2', c3', c4', c5']
  refine AW_loopH [2, 3, 4, 6, 47, 48, 49, 50, 51, 52, 53, 54, 55, 56, 57, 58, 59, 60, 61, 62, 63, 64, 65, 66, 67, 68]
    (fun (i : Nat) ρ m => ρ 47 = .int .i64 (i : Int) ∧ i ≤ n.names.length ∧ firstE (nameE n.names) (n.names.length - i) i = namesE n ∧
      ∃ h nx lv, m = ⟨h, [], nx, lv⟩ ∧ AB.hget h 1 = some (0, nCells n)) (fun i => n.names.length - i) 0 ?_ ?_
  · simp only [go_sem]
    exact ⟨Nat.zero_le _, rfl, _, _, _, rfl, by simp [go_sem, nCells]⟩
  · rintro i ρ m ⟨e1, g1, g2, h, nx, lv, rfl, hb1⟩ Q hN hR hX
    simp only [nCells] at hb1
    by_cases hlt : i < n.names.length
    · obtain ⟨s, hs⟩ : ∃ s, n.names[i]? = some s := ⟨_, List.getElem?_eq_getElem hlt⟩
      have hsl : s.length ≤ 140737488351232 := hst s (List.mem_of_getElem? hs)
      have hlt' : ((i : Int) < (n.names.length : Int)) = True := by simp; omega
      have ew : IntKind.i64.wrap ((i : Int) + 1) = (i : Int) + 1 := i64_in (by omega) (by omega)
      have hne : nameE n.names i = if nameOk s = false then 1 else if s ∈ n.names.take i then 6 else 0 := by simp [nameE, hs]
      have h0i : ((0 : Int) ≤ (i : Int)) = True := by simp
      simp only [go_sem, e1, hlt', hs, hb1]
      refine ⟨by omega, ?_⟩
      refine callV (f53 s hsl) ?_
      intro nx2 lv2
      by_cases q1 : nameOk s = true
      · simp only [go_sem, hb1, q1, h0i, if_true]
        refine ⟨by omega, by omega, ?_⟩
        refine AW_loopH [2, 6, 60, 61, 62, 63, 64, 65, 66, 67]
          (fun (x : Nat) ρ m => ρ 60 = .int .i64 (x : Int) ∧ x ≤ i ∧ (s ∉ n.names.take x) ∧ ∃ h nx lv, m = ⟨h, [], nx, lv⟩ ∧ AB.hget h 1 = some (0, nCells n)) (fun x => i - x) 0 ?_ ?_
        · simp only [go_sem]
          refine ⟨Nat.zero_le _, by simp, _, _, _, rfl, by simp [hb1, nCells]⟩
        · rintro x ρ m ⟨f1, r1, r2, h, nx, lv, rfl, hb1⟩ Q2 hN2 hR2 hX2
          simp only [nCells] at hb1
          have hlen : (List.take (i - 0) (List.map DV.str n.names)).length = i := by simp; omega
          by_cases hx : x < i
          · obtain ⟨k, hk⟩ : ∃ k, n.names[x]? = some k := ⟨_, List.getElem?_eq_getElem (by omega)⟩
            have hx' : ((x : Int) < (i : Int)) = True := by simp; omega
            have hxL : ((x : Int) < ((List.take (i - 0) (List.map DV.str n.names)).length : Int)) = True := by rw [hlen]; exact hx'
            have hk' : (List.take (i - 0) (List.map DV.str n.names))[x]? = some (DV.str k) := by
              rw [List.getElem?_take, if_pos (by omega), List.getElem?_map, hk]; rfl
            have ex : IntKind.i64.wrap ((x : Int) + 1) = (x : Int) + 1 := i64_in (by omega) (by omega)
            by_cases q2 : s = k
            · have hv : nameE n.names i = 6 := by
                have : s ∈ n.names.take i := List.mem_of_getElem? (i := x) (by rw [List.getElem?_take, if_pos hx, hk, q2])
                rw [hne]; simp [q1, this]
              have := firstE_hit hlt hv (by omega) g2
              simp only [go_sem, f1, hxL, hk', q2, hR2, hR]
              refine ⟨by omega, ?_⟩
              rw [hge, this]; rfl
            · simp only [go_sem, f1, hxL, hk', q2, hN2, ex]
              refine ⟨by omega, by kernel_rfl, x + 1, ?_, by simp only; omega⟩
              simp only [go_sem]
              refine ⟨by simp, by omega, ?_, _, _, _, rfl, by simp [hb1, nCells]⟩
              rw [List.take_add_one, hk]
              simp only [List.mem_append, Option.toList_some, List.mem_singleton]
              exact fun t => t.elim r2 q2
          · have hxL : ((x : Int) < ((List.take (i - 0) (List.map DV.str n.names)).length : Int)) = False := by rw [hlen]; simp; omega
            have hxi : x = i := by omega
            subst hxi
            have hv : nameE n.names x = 0 := by rw [hne]; simp [q1, r2]
            simp only [go_sem, f1, hxL, hX2, hN, e1, ew]
            refine ⟨by kernel_rfl, x + 1, ?_, by simp only; omega⟩
            simp only [go_sem]
            exact ⟨by simp, by omega, firstE_go hlt hv g2, _, _, _, rfl, by simp [hb1, nCells]⟩
      · have q1 : nameOk s = false := by simpa using q1
        have hv : nameE n.names i = 1 := by rw [hne]; simp [q1]
        simp only [go_sem, q1, hR]
        have := firstE_hit hlt hv (by omega) g2
        rw [hge, this]; rfl
    · have hlt' : ((i : Int) < (n.names.length : Int)) = False := by simp; omega
      rw [firstE_end hlt] at g2
      simp only [go_sem, e1, hX, hlt', hb1]
      have hge : netE n = if secsE n ≠ 0 then secsE n else if linksE n ≠ 0 then linksE n else restE n := by rw [hge, ← g2]; rfl
      refine AW_loopH [2, 8, 9, 72, 73, 74, 75, 76, 77, 78, 79, 80, 81, 82, 83, 84]
        (fun (i : Nat) ρ m => ρ 72 = .int .i64 (i : Int) ∧ i ≤ n.sects.length ∧ firstE (secAt n) (n.sects.length - i) i = secsE n ∧
          ∃ h nx lv, m = ⟨h, [], nx, lv⟩ ∧ AB.hget h 1 = some (0, nCells n)) (fun i => n.sects.length - i) 0 ?_ ?_
      · simp only [go_sem]
        exact ⟨Nat.zero_le _, rfl, _, _, _, rfl, by simp [hb1, nCells]⟩
      · clear g1 g2 hlt hlt' hb1 e1 hN hR hX Q
        rintro i ρ m ⟨e1, g1, g2, h, nx, lv, rfl, hb1⟩ Q hN hR hX
        simp only [nCells] at hb1
        by_cases hlt : i < n.sects.length
        · obtain ⟨s, hs⟩ : ∃ s, n.sects[i]? = some s := ⟨_, List.getElem?_eq_getElem hlt⟩
          have hlt' : ((i : Int) < (n.sects.length : Int)) = True := by simp; omega
          have ew : IntKind.i64.wrap ((i : Int) + 1) = (i : Int) + 1 := i64_in (by omega) (by omega)
          have hv : secAt n i = secE s n.names.length := by simp [secAt, hs]
          simp only [go_sem, e1, hlt', hs, hb1, dSect]
          generalize genO (AB.hget h 8) = G6
          refine ⟨by omega, ?_⟩
          refine callV (f54 s n.names.length) ?_
          intro nx2 lv2
          by_cases q1 : secE s n.names.length = 0
          · simp only [go_sem, q1, hN, ew]
            refine ⟨by kernel_rfl, i + 1, ?_, by simp only; omega⟩
            simp only [go_sem]
            exact ⟨by simp, by omega, firstE_go hlt (by rw [hv, q1]) g2, _, _, _, rfl, by simp [go_sem, hb1, nCells]⟩
          · simp only [go_sem, q1, hR]
            have := firstE_hit hlt hv q1 g2
            rw [hge, this, if_pos q1]
        · have hlt' : ((i : Int) < (n.sects.length : Int)) = False := by simp; omega
          rw [firstE_end hlt] at g2
          have hks : KindsOk n := secs_kinds g2.symm
          simp only [go_sem, e1, hX, hlt', hb1]
          have hge : netE n = if linksE n ≠ 0 then linksE n else restE n := by rw [hge, ← g2]; rfl
          refine AW_loopH [2, 10, 11, 88, 89, 90, 91, 92, 93, 94, 95, 96, 97]
            (fun (i : Nat) ρ m => ρ 88 = .int .i64 (i : Int) ∧ i ≤ n.links.length ∧ firstE (linkE n) (n.links.length - i) i = linksE n ∧
              ∃ h nx lv, m = ⟨h, [], nx, lv⟩ ∧ AB.hget h 1 = some (0, nCells n)) (fun i => n.links.length - i) 0 ?_ ?_
          · simp only [go_sem]
            exact ⟨Nat.zero_le _, rfl, _, _, _, rfl, by simp [hb1, nCells]⟩
          · clear g1 g2 hlt hlt' hb1 e1 hN hR hX Q
            rintro i ρ m ⟨e1, g1, g2, h, nx, lv, rfl, hb1⟩ Q hN hR hX
            simp only [nCells] at hb1
            by_cases hlt : i < n.links.length
            · obtain ⟨l, hl⟩ : ∃ l, n.links[i]? = some l := ⟨_, List.getElem?_eq_getElem hlt⟩
              have hlt' : ((i : Int) < (n.links.length : Int)) = True := by simp; omega
              have ew : IntKind.i64.wrap ((i : Int) + 1) = (i : Int) + 1 := i64_in (by omega) (by omega)
              simp only [go_sem, e1, hlt', hb1]
              refine callV (f55 n i l hl hb hks) ?_
              intro nx2 lv2
              by_cases q1 : linkE n i = 0
              · simp only [go_sem, q1, hN, ew]
                refine ⟨by kernel_rfl, i + 1, ?_, by simp only; omega⟩
                simp only [go_sem]
                exact ⟨by simp, by omega, firstE_go hlt q1 g2, _, _, _, rfl, by simp [hb1, nCells]⟩
              · simp only [go_sem, q1, hR]
                have := firstE_hit hlt rfl q1 g2
                rw [hge, this, if_pos q1]
            · have hlt' : ((i : Int) < (n.links.length : Int)) = False := by simp; omega
              rw [firstE_end hlt] at g2
              simp only [go_sem, e1, hX, hlt', hb1]
              refine callV (f56 n hb hks) ?_
              intro nx2 lv2
              simp only [go_sem]
              rw [hge, ← g2]; rfl
end Go.Proofs.YtkfhieigdlfbeaaDoor
