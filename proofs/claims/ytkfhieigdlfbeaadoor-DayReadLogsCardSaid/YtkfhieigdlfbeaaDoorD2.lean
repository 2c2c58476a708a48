/- DayLogs: the error of a log, the program's and the reference's; the entries of the reference. -/
import Derived.Test.YtkfhieigdlfbeaaDoorD1
import Derived.Test.YtkfhieigdlfbeaaDoorV2
namespace Go.Proofs.YtkfhieigdlfbeaaDoor
open Go.AB
set_option linter.unusedSimpArgs false
set_option linter.unusedVariables false

theorem f73 (n lo hi : Int) : PCall Tryd.prog 73 [.int .i64 n, .int .i64 lo, .int .i64 hi] (RV (.bool (within n lo hi))) := by
  refine PCall.of_body Tryd.func73 rfl Tryd.ntmps73 (congrArg Array.toList Tryd.results73) ?_
  intro E
  simp only [go_sem]
  unfold within
  grind
theorem f76 (n hi : Int) : PCall Tryd.prog 76 [.int .i64 n, .int .i64 hi] (RV (.bool (within n 0 hi))) := by
  refine PCall.of_body Tryd.func76 rfl Tryd.ntmps76 (congrArg Array.toList Tryd.results76) ?_
  intro E
  simp only [go_sem]
  unfold within
  grind

structure Ent where
  (sec set kind a b : Int)
def dEnt (e : Ent) : DV := .agg [.int .i64 e.sec, .int .i64 e.set, .int .i64 e.kind, .int .i64 e.a, .int .i64 e.b]
def Ent.nums (e : Ent) : List Int := [e.sec, e.set, e.kind, e.a, e.b]
def okE (e : Ent) : Bool := within e.sec 0 28800 && within e.set (-1) 7 && within e.kind 1 11 && within e.a (-1) 100000000 && within e.b (-1) 100000000
def errE (l : List Ent) (i : Nat) : Int := match l[i]? with
  | some e => if okE e = true then (match l[i - 1]? with
    | some p => if 0 < i ∧ e.sec < p.sec then 5 else 0
    | none => 0) else 2
  | none => 0
def errL (l : List Ent) : Int := if l.length ≤ 20000 then firstN (errE l) l.length 0 else 4
theorem within_iff {n lo hi : Int} : within n lo hi = true ↔ lo ≤ n ∧ n ≤ hi := by simp [within]
theorem within_no {n lo hi : Int} (h : within n lo hi ≠ true) : n < lo ∨ hi < n := by rw [ne_eq, within_iff] at h; omega

set_option maxRecDepth 20000 in
set_option maxHeartbeats 4000000 in
theorem f38 (l : List Ent) (hl : l.length ≤ 140737488351232) : PCall Tryd.prog 38 [.sl 5 (l.map dEnt) .no] (RV (.int .i64 (errL l))) := by
  refine PCall.of_body Tryd.func38 rfl Tryd.ntmps38 (congrArg Array.toList Tryd.results38) ?_
  intro E
  by_cases h8 : l.length ≤ 20000
  · have h8' : ((20000 : Int) < (l.length : Int)) = False := by simp; omega
    have hE : errL l = firstN (errE l) l.length 0 := by simp [errL, h8]
    simp only [go_sem, h8']
    refine AW_loopH [2, 3, 4, 10, 11, 12, 13, 14, 15, 16, 17, 18, 19, 20, 21, 22, 23, 24, 25, 26, 27, 28, 29, 30, 31, 32, 33, 34, 35, 36, 37, 38, 39, 40, 41, 42, 43, 44, 45, 46, 47, 48, 49, 50, 51, 52, 53, 54, 55, 56, 57, 58]
      (fun (i : Nat) ρ m => ρ 10 = .int .i64 (i : Int) ∧ i ≤ l.length ∧ firstN (errE l) (l.length - i) i = errL l ∧ ∃ h nx lv, m = ⟨h, [], nx, lv⟩) (fun i => l.length - i) 0 ?_ ?_
    · simp [go_sem, hE]
    · rintro i ρ m ⟨e10, g1, gE, h, nx, lv, rfl⟩ Q hN hR hX
      by_cases hlt : i < l.length
      · obtain ⟨e, he⟩ : ∃ e, l[i]? = some e := ⟨_, List.getElem?_eq_getElem hlt⟩
        have hp : (l.map dEnt)[i]? = some (dEnt e) := by rw [List.getElem?_map, he]; rfl
        have hlt' : ((i : Int) < (l.length : Int)) = True := by simp; omega
        have h0 : ((0 : Int) ≤ (i : Int)) = True := by simp
        have ew : IntKind.i64.wrap ((i : Int) + 1) = (i : Int) + 1 := i64_in (by omega) (by omega)
        have hst := firstN_step (f := errE l) hlt
        have bad : okE e = false → errL l = 2 := fun h => by
          have hat : errE l i = 2 := by simp [errE, he, h]
          rw [← gE, hst, hat]; rfl
        simp only [go_sem, e10, hlt', h0, hp, dEnt]
        generalize genO (AB.hget h 4) = G
        refine callV (f73 _ _ _) ?_
        intro nx1 lv1
        by_cases c1 : within e.sec 0 28800 = true
        · simp only [go_sem, c1]
          refine callV (f73 _ _ _) ?_
          intro nx2 lv2
          by_cases c2 : within e.set (-1) 7 = true
          · simp only [go_sem, c2]
            refine callV (f73 _ _ _) ?_
            intro nx3 lv3
            by_cases c3 : within e.kind 1 11 = true
            · simp only [go_sem, c3]
              refine callV (f73 _ _ _) ?_
              intro nx4 lv4
              by_cases c4 : within e.a (-1) 100000000 = true
              · simp only [go_sem, c4]
                refine callV (f73 _ _ _) ?_
                intro nx5 lv5
                by_cases c5 : within e.b (-1) 100000000 = true
                · have hok : okE e = true := by simp [okE, c1, c2, c3, c4, c5]
                  simp only [go_sem, c5]
                  refine drawn (by kernel_rfl) (by kernel_rfl) ?_
                  by_cases q4 : 0 < i
                  · have q4' : ((0 : Int) < (i : Int)) = True := by simp; omega
                    obtain ⟨r, hr⟩ : ∃ r, l[i - 1]? = some r := ⟨_, List.getElem?_eq_getElem (by omega)⟩
                    have hpr : (l.map dEnt)[i - 1]? = some (dEnt r) := by rw [List.getElem?_map, hr]; rfl
                    have ei : ((i : Int) - 1).toNat = i - 1 := by omega
                    have ei0 : ((0 : Int) ≤ (i : Int) - 1) = True := by simp; omega
                    have ewm : IntKind.i64.wrap ((i : Int) - 1) = (i : Int) - 1 := i64_in (by omega) (by omega)
                    by_cases q5 : e.sec < r.sec
                    · have hat : errE l i = 5 := by simp [errE, he, hok, hr, q4, q5]
                      simp only [go_sem, q4', ewm, ei, ei0, hpr, dEnt, q5, hR]
                      intro _ _ _ _
                      rw [← gE, hst, hat]; rfl
                    · have hat : errE l i = 0 := by simp [errE, he, hok, hr, q5]
                      have q5' : (e.sec < r.sec) = False := by simp [q5]
                      simp only [go_sem, q4', ewm, ei, ei0, hpr, dEnt, q5', hN, ew]
                      refine fun nx6 lv6 _ _ => ⟨by kernel_rfl, i + 1, ?_, by simp only; omega⟩
                      simp only [go_sem]
                      exact ⟨by simp, by omega, by rw [← gE, hst, hat]; rfl, _, _, _, rfl⟩
                  · have q4' : ((0 : Int) < (i : Int)) = False := by simp; omega
                    have hat : errE l i = 0 := by simp [errE, he, hok, q4]; split <;> rfl
                    simp only [go_sem, q4', hN, ew]
                    refine fun nx6 lv6 _ _ => ⟨by kernel_rfl, i + 1, ?_, by simp only; omega⟩
                    simp only [go_sem]
                    exact ⟨by simp, by omega, by rw [← gE, hst, hat]; rfl, _, _, _, rfl⟩
                · have c5' : within e.b (-1) 100000000 = false := by simpa using c5
                  simp only [go_sem, c5', hR]
                  exact (bad (by simp [okE, c5'])).symm
              · have c4' : within e.a (-1) 100000000 = false := by simpa using c4
                simp only [go_sem, c4', hR]
                exact (bad (by simp [okE, c4'])).symm
            · have c3' : within e.kind 1 11 = false := by simpa using c3
              simp only [go_sem, c3', hR]
              exact (bad (by simp [okE, c3'])).symm
          · have c2' : within e.set (-1) 7 = false := by simpa using c2
            simp only [go_sem, c2', hR]
            exact (bad (by simp [okE, c2'])).symm
        · have c1' : within e.sec 0 28800 = false := by simpa using c1
          simp only [go_sem, c1', hR]
          exact (bad (by simp [okE, c1'])).symm
      · have hlt' : ((i : Int) < (l.length : Int)) = False := by simp; omega
        rw [firstN_end (by omega)] at gE
        simp only [go_sem, e10, hlt', hX]
        exact gE
  · have h8' : ((20000 : Int) < (l.length : Int)) = True := by simp; omega
    have hE : errL l = 4 := by simp [errL, h8]
    simp only [go_sem, h8', hE]
set_option maxRecDepth 20000 in
set_option maxHeartbeats 4000000 in
theorem f41 (l : List Ent) (hl : l.length ≤ 140737488351232) : PCall Tryd.prog 41 [.sl 5 (l.map dEnt) .no] (RV (.int .i64 (errL l))) := by
  refine PCall.of_body Tryd.func41 rfl Tryd.ntmps41 (congrArg Array.toList Tryd.results41) ?_
  intro E
  by_cases h8 : l.length ≤ 20000
  · have h8' : ((20000 : Int) < (l.length : Int)) = False := by simp; omega
    have hE : errL l = firstN (errE l) l.length 0 := by simp [errL, h8]
    simp only [go_sem, h8']
    refine AW_loopH [2, 3, 4, 10, 11, 12, 13, 14, 15, 16, 17, 18, 19, 20, 21, 22, 23, 24, 25, 26, 27, 28, 29, 30, 31, 32, 33, 34, 35, 36, 37, 38, 39, 40, 41, 42, 43, 44, 45, 46, 47, 48, 49, 50, 51, 52, 53, 54, 55, 56, 57, 58, 59, 60, 61, 62, 63, 64, 65, 66, 67, 68, 69, 70, 71, 72]
      (fun (i : Nat) ρ m => ρ 10 = .int .i64 (i : Int) ∧ i ≤ l.length ∧ firstN (errE l) (l.length - i) i = errL l ∧ ∃ h nx lv, m = ⟨h, [], nx, lv⟩) (fun i => l.length - i) 0 ?_ ?_
    · simp [go_sem, hE]
    · rintro i ρ m ⟨e10, g1, gE, h, nx, lv, rfl⟩ Q hN hR hX
      by_cases hlt : i < l.length
      · obtain ⟨e, he⟩ : ∃ e, l[i]? = some e := ⟨_, List.getElem?_eq_getElem hlt⟩
        have hp : (l.map dEnt)[i]? = some (dEnt e) := by rw [List.getElem?_map, he]; rfl
        have hlt' : ((i : Int) < (l.length : Int)) = True := by simp; omega
        have h0 : ((0 : Int) ≤ (i : Int)) = True := by simp
        have ew : IntKind.i64.wrap ((i : Int) + 1) = (i : Int) + 1 := i64_in (by omega) (by omega)
        have hst := firstN_step (f := errE l) hlt
        have bad : okE e = false → errL l = 2 := fun h => by
          have hat : errE l i = 2 := by simp [errE, he, h]
          rw [← gE, hst, hat]; rfl
        simp only [go_sem, e10, hlt', h0, hp, dEnt]
        generalize genO (AB.hget h 4) = G
        refine callV (f76 _ _) ?_
        intro nx1 lv1
        by_cases hall : okE e = true
        · have hw := hall
          simp only [okE, Bool.and_eq_true] at hw
          obtain ⟨⟨⟨⟨c1, c2⟩, c3⟩, c4⟩, c5⟩ := hw
          rw [within_iff] at c2 c3 c4 c5
          have a1 : (e.set < -1) = False := by simp; omega
          have a2 : (8 ≤ e.set) = False := by simp; omega
          have a3 : (e.kind < 1) = False := by simp; omega
          have a4 : (11 < e.kind) = False := by simp; omega
          have a5 : (e.a < -1) = False := by simp; omega
          have a6 : (100000000 < e.a) = False := by simp; omega
          have a7 : (e.b < -1) = False := by simp; omega
          have a8 : (100000000 < e.b) = False := by simp; omega
          have hok := hall
          simp only [go_sem, c1, a1, a2, a3, a4, a5, a6, a7, a8]
          refine drawn (by kernel_rfl) (by kernel_rfl) ?_
          by_cases q4 : 0 < i
          · have q4' : ((0 : Int) < (i : Int)) = True := by simp; omega
            obtain ⟨r, hr⟩ : ∃ r, l[i - 1]? = some r := ⟨_, List.getElem?_eq_getElem (by omega)⟩
            have hpr : (l.map dEnt)[i - 1]? = some (dEnt r) := by rw [List.getElem?_map, hr]; rfl
            have ei : ((i : Int) - 1).toNat = i - 1 := by omega
            have ei0 : ((0 : Int) ≤ (i : Int) - 1) = True := by simp; omega
            have ewm : IntKind.i64.wrap ((i : Int) - 1) = (i : Int) - 1 := i64_in (by omega) (by omega)
            by_cases q5 : e.sec < r.sec
            · have hat : errE l i = 5 := by simp [errE, he, hok, hr, q4, q5]
              simp only [go_sem, q4', ewm, ei, ei0, hpr, dEnt, q5, hR]
              intro _ _ _ _
              rw [← gE, hst, hat]; rfl
            · have hat : errE l i = 0 := by simp [errE, he, hok, hr, q5]
              have q5' : (e.sec < r.sec) = False := by simp [q5]
              simp only [go_sem, q4', ewm, ei, ei0, hpr, dEnt, q5', hN, ew]
              refine fun nx6 lv6 _ _ => ⟨by kernel_rfl, i + 1, ?_, by simp only; omega⟩
              simp only [go_sem]
              exact ⟨by simp, by omega, by rw [← gE, hst, hat]; rfl, _, _, _, rfl⟩
          · have q4' : ((0 : Int) < (i : Int)) = False := by simp; omega
            have hat : errE l i = 0 := by simp [errE, he, hok, q4]; split <;> rfl
            simp only [go_sem, q4', hN, ew]
            refine fun nx6 lv6 _ _ => ⟨by kernel_rfl, i + 1, ?_, by simp only; omega⟩
            simp only [go_sem]
            exact ⟨by simp, by omega, by rw [← gE, hst, hat]; rfl, _, _, _, rfl⟩
        · have hb := bad (by simpa using hall)
          by_cases c1 : within e.sec 0 28800 = true
          · have hw : ¬ (((within e.set (-1) 7 = true ∧ within e.kind 1 11 = true) ∧ within e.a (-1) 100000000 = true) ∧ within e.b (-1) 100000000 = true) := fun h => hall (by simp [okE, c1, h])
            simp only [within_iff] at hw
            by_cases a1 : e.set < -1
            · simp only [go_sem, c1, (by simp [a1] : (e.set < -1) = True), hR]; exact hb.symm
            have a1' : (e.set < -1) = False := by simp [a1]
            by_cases a2 : 8 ≤ e.set
            · simp only [go_sem, c1, a1', (by simp [a2] : (8 ≤ e.set) = True), hR]; exact hb.symm
            have a2' : (8 ≤ e.set) = False := by simp [a2]
            by_cases a3 : e.kind < 1
            · simp only [go_sem, c1, a1', a2', (by simp [a3] : (e.kind < 1) = True), hR]; exact hb.symm
            have a3' : (e.kind < 1) = False := by simp [a3]
            by_cases a4 : 11 < e.kind
            · simp only [go_sem, c1, a1', a2', a3', (by simp [a4] : (11 < e.kind) = True), hR]; exact hb.symm
            have a4' : (11 < e.kind) = False := by simp [a4]
            by_cases a5 : e.a < -1
            · simp only [go_sem, c1, a1', a2', a3', a4', (by simp [a5] : (e.a < -1) = True), hR]; exact hb.symm
            have a5' : (e.a < -1) = False := by simp [a5]
            by_cases a6 : 100000000 < e.a
            · simp only [go_sem, c1, a1', a2', a3', a4', a5', (by simp [a6] : (100000000 < e.a) = True), hR]; exact hb.symm
            have a6' : (100000000 < e.a) = False := by simp [a6]
            by_cases a7 : e.b < -1
            · simp only [go_sem, c1, a1', a2', a3', a4', a5', a6', (by simp [a7] : (e.b < -1) = True), hR]; exact hb.symm
            have a7' : (e.b < -1) = False := by simp [a7]
            by_cases a8 : 100000000 < e.b
            · simp only [go_sem, c1, a1', a2', a3', a4', a5', a6', a7', (by simp [a8] : (100000000 < e.b) = True), hR]; exact hb.symm
            exact absurd ⟨⟨⟨by omega, by omega⟩, by omega⟩, by omega⟩ hw
          · have c1' : within e.sec 0 28800 = false := by simpa using c1
            simp only [go_sem, c1', hR]
            exact hb.symm
      · have hlt' : ((i : Int) < (l.length : Int)) = False := by simp; omega
        rw [firstN_end (by omega)] at gE
        simp only [go_sem, e10, hlt', hX]
        exact gE
  · have h8' : ((20000 : Int) < (l.length : Int)) = True := by simp; omega
    have hE : errL l = 4 := by simp [errL, h8]
    simp only [go_sem, h8', hE]

set_option maxRecDepth 20000 in
theorem f17 (l : List Ent) (hl : l.length * 40 ≤ 140737488351232) : PCall Tryd.prog 17 [.sl 5 (l.map dEnt) .no] (RV (.sl 5 (l.map dEnt) .no)) := by
  refine PCall.of_bodyE Tryd.func17 rfl Tryd.ntmps17 (congrArg Array.toList Tryd.results17) ?_
  intro E
  simp only [go_sem]
  refine AW_loopH [3, 5, 8, 9, 10, 11, 12, 13, 14, 15, 16, 17, 18, 19, 20, 21, 22, 23, 24, 25, 26]
    (fun (i : Nat) ρ m => ρ 8 = .int .i64 (i : Int) ∧ i ≤ l.length ∧ (∃ tok, ρ 3 = .sl 5 ((l.take i).map dEnt) tok ∧ okT m tok) ∧ ∃ h nx lv, m = ⟨h, [], nx, lv⟩) (fun i => l.length - i) 0 ?_ ?_
  · simp [go_sem]
  · rintro i ρ m ⟨e8, g1, ⟨tok, e3, hok⟩, h, nx, lv, rfl⟩ Q hN hR hX
    by_cases hlt : i < l.length
    · obtain ⟨e, he⟩ : ∃ e, l[i]? = some e := ⟨_, List.getElem?_eq_getElem hlt⟩
      have hp : (l.map dEnt)[i]? = some (dEnt e) := by rw [List.getElem?_map, he]; rfl
      have hlt' : ((i : Int) < (l.length : Int)) = True := by simp; omega
      have h0 : ((0 : Int) ≤ (i : Int)) = True := by simp
      have ew : IntKind.i64.wrap ((i : Int) + 1) = (i : Int) + 1 := i64_in (by omega) (by omega)
      have hts : (l.take (i + 1)).map dEnt = (l.take i).map dEnt ++ [dEnt e] := by rw [List.take_add_one, he]; simp
      have hlen : ((l.take i).map dEnt).length = i := by simp; omega
      simp only [go_sem, e8, e3, hlt', h0, hp, dEnt]
      generalize genO (AB.hget h 5) = G
      simp only [go_sem, hN, ew]
      refine ⟨okT_mono hok (fun j x => .inr x), by simp; omega, by kernel_rfl, i + 1, ?_, by simp only; omega⟩
      simp only [go_sem]
      refine ⟨by simp, by omega, ⟨_, ⟨?_, rfl⟩, .inl rfl⟩, _, _, _, rfl⟩
      rw [hts]; rfl
    · have hlt' : ((i : Int) < (l.length : Int)) = False := by simp; omega
      rw [List.take_of_length_le (by omega)] at e3
      simp only [go_sem, e8, hlt', hX, e3]
end Go.Proofs.YtkfhieigdlfbeaaDoor
