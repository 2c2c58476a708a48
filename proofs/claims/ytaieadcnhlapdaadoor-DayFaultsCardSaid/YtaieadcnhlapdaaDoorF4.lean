/- FaultsError of the reference, for all nets, numbers and faults. -/
import Derived.Test.YtaieadcnhlapdaaDoorF3
namespace Go.Proofs.YtaieadcnhlapdaaDoor
set_option linter.unusedSimpArgs false
set_option linter.unusedVariables false
open Go.AB

theorem any_pre {f : Flt} {l : List Flt} {j : Nat} {t : Flt} (h : l[j]? = some t) : (l.take (j + 1)).any (clash f) = ((l.take j).any (clash f) || clash f t) := by
  rw [List.take_add_one, h]
  simp
theorem within_no {n lo hi : Int} (h : n < lo ∨ hi < n) : within n lo hi = false := by
  cases hw : within n lo hi with
  | false => rfl
  | true => rw [within_iff] at hw; omega

def firstLoop : Code → Option Code
  | .loop c => some c
  | .seq a b => match firstLoop a with
    | some c => some c
    | none => firstLoop b
  | .block _ c => firstLoop c
  | .cond _ a b => match firstLoop a with
    | some c => some c
    | none => firstLoop b
  | _ => none

/-- The rounds' code. -/
noncomputable def c18 : Code := match Tryd.f18.body.bind firstLoop with
  | some c => c
  | none => .skip

end Go.Proofs.YtaieadcnhlapdaaDoor

/- FaultsError of the reference: a round at a fault of kind 1. -/
namespace Go.Proofs.YtaieadcnhlapdaaDoor
set_option linter.unusedSimpArgs false
set_option linter.unusedVariables false
open Go.AB

set_option maxRecDepth 40000 in
set_option maxHeartbeats 16000000 in
theorem r18_1 {E : Env} {n : Net} (hb : NetB n) {sets : Int} {l : List Flt} (hl : l.length ≤ 140737488351232) {k : List Flt} {i : Nat} {who fr upto much : Int} {ρ : Nat → AV} {h : List (Nat × Nat × List AV)} {nx : Nat} {lv : Nat → Prop} {Q : Exit → AS → Prop}
    (hs : within sets 0 8 = true) (g1 : i ≤ l.length) (e23 : ρ 23 = .int .i64 (i : Int)) (hb3 : AB.hget h 3 = some (0, nCells n)) (hlt : i < l.length) (hp : (l.map dFlt)[i]? = some (dFlt ⟨1, who, fr, upto, much⟩))
    (hit : ∀ v : Int, v ≠ 0 → fltE n sets k ⟨1, who, fr, upto, much⟩ = v → v = errG n sets l)
    (go : fltE n sets k ⟨1, who, fr, upto, much⟩ = 0 → firstE (atF n sets l) (l.length - (i + 1)) (i + 1) = errG n sets l)
    (htl : List.take (i - 0) (List.map dFlt l) = k.map dFlt) (hkl : k.length = i)
    (hN : ∀ σ, Q .normal σ = LoopEnd [AV.agg [AV.sl 1 (List.map DV.str n.names) Tok.no, AV.sl 7 (List.map dSect n.sects) Tok.no, AV.sl 4 (List.map dLnk n.links) Tok.no, AV.sl 2 (List.map dPair n.sigs) Tok.no, AV.sl 2 (List.map dPair n.gates) Tok.no], AV.int IntKind.i64 sets, AV.sl 5 (List.map dFlt l) Tok.no, AV.ptr (Loc.own 3 0) 0, AV.raw (Value.tuple #[]), AV.raw (Value.tuple #[]), AV.int IntKind.i64 0, AV.raw (Value.tuple #[]), AV.raw (Value.tuple #[]), AV.raw (Value.tuple #[]), AV.raw (Value.tuple #[]), AV.raw (Value.tuple #[]), AV.int IntKind.i64 sets, AV.bool false, AV.bool false, AV.int IntKind.i64 sets, AV.bool false, AV.bool false, AV.sl 5 (List.map dFlt l) Tok.no, AV.int IntKind.i64 (l.length : Int), AV.bool false, AV.sl 5 (List.map dFlt l) Tok.no, AV.int IntKind.i64 (l.length : Int), AV.int IntKind.i64 0, AV.raw (Value.tuple #[]), AV.raw (Value.tuple #[]), AV.raw (Value.tuple #[]), AV.raw (Value.tuple #[]), AV.raw (Value.tuple #[]), AV.raw (Value.tuple #[]), AV.raw (Value.tuple #[]), AV.raw (Value.tuple #[]), AV.raw (Value.tuple #[]), AV.raw (Value.tuple #[]), AV.raw (Value.tuple #[]), AV.raw (Value.tuple #[]), AV.raw (Value.tuple #[]), AV.raw (Value.tuple #[]), AV.raw (Value.tuple #[]), AV.raw (Value.tuple #[]), AV.raw (Value.tuple #[]), AV.raw (Value.tuple #[]), AV.raw (Value.tuple #[]), AV.raw (Value.tuple #[]), AV.raw (Value.tuple #[]), AV.raw (Value.tuple #[]), AV.raw (Value.tuple #[]), AV.raw (Value.tuple #[]), AV.raw (Value.tuple #[]), AV.raw (Value.tuple #[]), AV.raw (Value.tuple #[]), AV.raw (Value.tuple #[]), AV.raw (Value.tuple #[]), AV.raw (Value.tuple #[]), AV.raw (Value.tuple #[]), AV.raw (Value.tuple #[]), AV.raw (Value.tuple #[]), AV.raw (Value.tuple #[]), AV.raw (Value.tuple #[]), AV.raw (Value.tuple #[]), AV.raw (Value.tuple #[]), AV.raw (Value.tuple #[]), AV.raw (Value.tuple #[]), AV.raw (Value.tuple #[]), AV.raw (Value.tuple #[]), AV.raw (Value.tuple #[]), AV.raw (Value.tuple #[]), AV.raw (Value.tuple #[]), AV.raw (Value.tuple #[]), AV.raw (Value.tuple #[]), AV.raw (Value.tuple #[]), AV.raw (Value.tuple #[]), AV.raw (Value.tuple #[]), AV.raw (Value.tuple #[]), AV.raw (Value.tuple #[]), AV.raw (Value.tuple #[]), AV.raw (Value.tuple #[]), AV.raw (Value.tuple #[]), AV.raw (Value.tuple #[]), AV.raw (Value.tuple #[]), AV.raw (Value.tuple #[]), AV.raw (Value.tuple #[]), AV.raw (Value.tuple #[]), AV.raw (Value.tuple #[]), AV.raw (Value.tuple #[]), AV.raw (Value.tuple #[]), AV.raw (Value.tuple #[]), AV.raw (Value.tuple #[]), AV.raw (Value.tuple #[]), AV.raw (Value.tuple #[]), AV.raw (Value.tuple #[]), AV.raw (Value.tuple #[]), AV.raw (Value.tuple #[]), AV.raw (Value.tuple #[]), AV.raw (Value.tuple #[]), AV.raw (Value.tuple #[]), AV.raw (Value.tuple #[]), AV.raw (Value.tuple #[]), AV.raw (Value.tuple #[]), AV.raw (Value.tuple #[]), AV.raw (Value.tuple #[]), AV.raw (Value.tuple #[]), AV.raw (Value.tuple #[]), AV.raw (Value.tuple #[]), AV.raw (Value.tuple #[]), AV.raw (Value.tuple #[]), AV.raw (Value.tuple #[]), AV.raw (Value.tuple #[]), AV.raw (Value.tuple #[]), AV.raw (Value.tuple #[]), AV.raw (Value.tuple #[]), AV.raw (Value.tuple #[]), AV.raw (Value.tuple #[]), AV.raw (Value.tuple #[]), AV.raw (Value.tuple #[]), AV.raw (Value.tuple #[]), AV.raw (Value.tuple #[]), AV.raw (Value.tuple #[]), AV.raw (Value.tuple #[]), AV.raw (Value.tuple #[]), AV.raw (Value.tuple #[]), AV.raw (Value.tuple #[]), AV.raw (Value.tuple #[]), AV.raw (Value.tuple #[]), AV.raw (Value.tuple #[]), AV.raw (Value.tuple #[]), AV.raw (Value.tuple #[]), AV.raw (Value.tuple #[]), AV.raw (Value.tuple #[]), AV.raw (Value.tuple #[]), AV.raw (Value.tuple #[]), AV.raw (Value.tuple #[]), AV.raw (Value.tuple #[]), AV.raw (Value.tuple #[]), AV.raw (Value.tuple #[]), AV.raw (Value.tuple #[]), AV.raw (Value.tuple #[]), AV.raw (Value.tuple #[]), AV.raw (Value.tuple #[]), AV.raw (Value.tuple #[]), AV.raw (Value.tuple #[]), AV.raw (Value.tuple #[]), AV.raw (Value.tuple #[]), AV.raw (Value.tuple #[]), AV.raw (Value.tuple #[]), AV.raw (Value.tuple #[]), AV.raw (Value.tuple #[]), AV.raw (Value.tuple #[]), AV.raw (Value.tuple #[]), AV.raw (Value.tuple #[]), AV.raw (Value.tuple #[]), AV.raw (Value.tuple #[]), AV.raw (Value.tuple #[]), AV.raw (Value.tuple #[]), AV.raw (Value.tuple #[]), AV.raw (Value.tuple #[]), AV.raw (Value.tuple #[]), AV.raw (Value.tuple #[]), AV.raw (Value.tuple #[]), AV.raw (Value.tuple #[]), AV.raw (Value.tuple #[]), AV.raw (Value.tuple #[]), AV.raw (Value.tuple #[]), AV.raw (Value.tuple #[]), AV.raw (Value.tuple #[]), AV.raw (Value.tuple #[]), AV.raw (Value.tuple #[]), AV.raw (Value.tuple #[]), AV.raw (Value.tuple #[]), AV.raw (Value.tuple #[]), AV.raw (Value.tuple #[])] [6, 7, 8, 9, 11, 23, 24, 25, 26, 27, 28, 29, 30, 31, 32, 33, 34, 35, 36, 37, 38, 39, 40, 41, 42, 43, 44, 45, 46, 47, 48, 49, 50, 51, 52, 53, 54, 55, 56, 57, 58, 59, 60, 61, 62, 63, 64, 65, 66, 67, 68, 69, 70, 71, 72, 73, 74, 75, 76, 77, 78, 79, 80, 81, 82, 83, 84, 85, 86, 87, 88, 89, 90, 91, 92, 93, 94, 95, 96, 97, 98, 99, 100, 101, 102, 103, 104, 105, 106, 107, 108, 109, 110, 111, 112, 113, 114, 115, 116, 117, 118, 119, 120, 121, 122, 123, 124, 125, 126, 127, 128, 129, 130, 131, 132, 133, 134, 135, 136, 137, 138, 139, 140, 141, 142, 143, 144, 145, 146, 147, 148, 149, 150, 151, 152, 153, 154, 155, 156, 157, 158, 159, 160, 161, 162, 163, 164, 165, 166, 167, 168, 169, 170] (fun (i : Nat) (ρ : Nat → AV) (m : AH) => ρ 23 = .int .i64 (i : Int) ∧ i ≤ l.length ∧ firstE (atF n sets l) (l.length - i) i = errG n sets l ∧ ∃ h nx lv, m = ⟨h, [], nx, lv⟩ ∧ AB.hget h 3 = some (0, nCells n)) (fun (i : Nat) => l.length - i) i σ) (hR : ∀ σ, Q .ret σ = bodyQ Tryd.prog [ResultVar.tmp 6] (RV (.int .i64 (errG n sets l))) .ret σ) :
    exC Tryd.prog E c18 ⟨mask [AV.agg [AV.sl 1 (List.map DV.str n.names) Tok.no, AV.sl 7 (List.map dSect n.sects) Tok.no, AV.sl 4 (List.map dLnk n.links) Tok.no, AV.sl 2 (List.map dPair n.sigs) Tok.no, AV.sl 2 (List.map dPair n.gates) Tok.no], AV.int IntKind.i64 sets, AV.sl 5 (List.map dFlt l) Tok.no, AV.ptr (Loc.own 3 0) 0, AV.raw (Value.tuple #[]), AV.raw (Value.tuple #[]), AV.int IntKind.i64 0, AV.raw (Value.tuple #[]), AV.raw (Value.tuple #[]), AV.raw (Value.tuple #[]), AV.raw (Value.tuple #[]), AV.raw (Value.tuple #[]), AV.int IntKind.i64 sets, AV.bool false, AV.bool false, AV.int IntKind.i64 sets, AV.bool false, AV.bool false, AV.sl 5 (List.map dFlt l) Tok.no, AV.int IntKind.i64 (l.length : Int), AV.bool false, AV.sl 5 (List.map dFlt l) Tok.no, AV.int IntKind.i64 (l.length : Int), AV.int IntKind.i64 0, AV.raw (Value.tuple #[]), AV.raw (Value.tuple #[]), AV.raw (Value.tuple #[]), AV.raw (Value.tuple #[]), AV.raw (Value.tuple #[]), AV.raw (Value.tuple #[]), AV.raw (Value.tuple #[]), AV.raw (Value.tuple #[]), AV.raw (Value.tuple #[]), AV.raw (Value.tuple #[]), AV.raw (Value.tuple #[]), AV.raw (Value.tuple #[]), AV.raw (Value.tuple #[]), AV.raw (Value.tuple #[]), AV.raw (Value.tuple #[]), AV.raw (Value.tuple #[]), AV.raw (Value.tuple #[]), AV.raw (Value.tuple #[]), AV.raw (Value.tuple #[]), AV.raw (Value.tuple #[]), AV.raw (Value.tuple #[]), AV.raw (Value.tuple #[]), AV.raw (Value.tuple #[]), AV.raw (Value.tuple #[]), AV.raw (Value.tuple #[]), AV.raw (Value.tuple #[]), AV.raw (Value.tuple #[]), AV.raw (Value.tuple #[]), AV.raw (Value.tuple #[]), AV.raw (Value.tuple #[]), AV.raw (Value.tuple #[]), AV.raw (Value.tuple #[]), AV.raw (Value.tuple #[]), AV.raw (Value.tuple #[]), AV.raw (Value.tuple #[]), AV.raw (Value.tuple #[]), AV.raw (Value.tuple #[]), AV.raw (Value.tuple #[]), AV.raw (Value.tuple #[]), AV.raw (Value.tuple #[]), AV.raw (Value.tuple #[]), AV.raw (Value.tuple #[]), AV.raw (Value.tuple #[]), AV.raw (Value.tuple #[]), AV.raw (Value.tuple #[]), AV.raw (Value.tuple #[]), AV.raw (Value.tuple #[]), AV.raw (Value.tuple #[]), AV.raw (Value.tuple #[]), AV.raw (Value.tuple #[]), AV.raw (Value.tuple #[]), AV.raw (Value.tuple #[]), AV.raw (Value.tuple #[]), AV.raw (Value.tuple #[]), AV.raw (Value.tuple #[]), AV.raw (Value.tuple #[]), AV.raw (Value.tuple #[]), AV.raw (Value.tuple #[]), AV.raw (Value.tuple #[]), AV.raw (Value.tuple #[]), AV.raw (Value.tuple #[]), AV.raw (Value.tuple #[]), AV.raw (Value.tuple #[]), AV.raw (Value.tuple #[]), AV.raw (Value.tuple #[]), AV.raw (Value.tuple #[]), AV.raw (Value.tuple #[]), AV.raw (Value.tuple #[]), AV.raw (Value.tuple #[]), AV.raw (Value.tuple #[]), AV.raw (Value.tuple #[]), AV.raw (Value.tuple #[]), AV.raw (Value.tuple #[]), AV.raw (Value.tuple #[]), AV.raw (Value.tuple #[]), AV.raw (Value.tuple #[]), AV.raw (Value.tuple #[]), AV.raw (Value.tuple #[]), AV.raw (Value.tuple #[]), AV.raw (Value.tuple #[]), AV.raw (Value.tuple #[]), AV.raw (Value.tuple #[]), AV.raw (Value.tuple #[]), AV.raw (Value.tuple #[]), AV.raw (Value.tuple #[]), AV.raw (Value.tuple #[]), AV.raw (Value.tuple #[]), AV.raw (Value.tuple #[]), AV.raw (Value.tuple #[]), AV.raw (Value.tuple #[]), AV.raw (Value.tuple #[]), AV.raw (Value.tuple #[]), AV.raw (Value.tuple #[]), AV.raw (Value.tuple #[]), AV.raw (Value.tuple #[]), AV.raw (Value.tuple #[]), AV.raw (Value.tuple #[]), AV.raw (Value.tuple #[]), AV.raw (Value.tuple #[]), AV.raw (Value.tuple #[]), AV.raw (Value.tuple #[]), AV.raw (Value.tuple #[]), AV.raw (Value.tuple #[]), AV.raw (Value.tuple #[]), AV.raw (Value.tuple #[]), AV.raw (Value.tuple #[]), AV.raw (Value.tuple #[]), AV.raw (Value.tuple #[]), AV.raw (Value.tuple #[]), AV.raw (Value.tuple #[]), AV.raw (Value.tuple #[]), AV.raw (Value.tuple #[]), AV.raw (Value.tuple #[]), AV.raw (Value.tuple #[]), AV.raw (Value.tuple #[]), AV.raw (Value.tuple #[]), AV.raw (Value.tuple #[]), AV.raw (Value.tuple #[]), AV.raw (Value.tuple #[]), AV.raw (Value.tuple #[]), AV.raw (Value.tuple #[]), AV.raw (Value.tuple #[]), AV.raw (Value.tuple #[]), AV.raw (Value.tuple #[]), AV.raw (Value.tuple #[]), AV.raw (Value.tuple #[]), AV.raw (Value.tuple #[]), AV.raw (Value.tuple #[]), AV.raw (Value.tuple #[]), AV.raw (Value.tuple #[]), AV.raw (Value.tuple #[]), AV.raw (Value.tuple #[]), AV.raw (Value.tuple #[]), AV.raw (Value.tuple #[]), AV.raw (Value.tuple #[]), AV.raw (Value.tuple #[]), AV.raw (Value.tuple #[]), AV.raw (Value.tuple #[]), AV.raw (Value.tuple #[]), AV.raw (Value.tuple #[]), AV.raw (Value.tuple #[]), AV.raw (Value.tuple #[]), AV.raw (Value.tuple #[]), AV.raw (Value.tuple #[]), AV.raw (Value.tuple #[]), AV.raw (Value.tuple #[]), AV.raw (Value.tuple #[])] [6, 7, 8, 9, 11, 23, 24, 25, 26, 27, 28, 29, 30, 31, 32, 33, 34, 35, 36, 37, 38, 39, 40, 41, 42, 43, 44, 45, 46, 47, 48, 49, 50, 51, 52, 53, 54, 55, 56, 57, 58, 59, 60, 61, 62, 63, 64, 65, 66, 67, 68, 69, 70, 71, 72, 73, 74, 75, 76, 77, 78, 79, 80, 81, 82, 83, 84, 85, 86, 87, 88, 89, 90, 91, 92, 93, 94, 95, 96, 97, 98, 99, 100, 101, 102, 103, 104, 105, 106, 107, 108, 109, 110, 111, 112, 113, 114, 115, 116, 117, 118, 119, 120, 121, 122, 123, 124, 125, 126, 127, 128, 129, 130, 131, 132, 133, 134, 135, 136, 137, 138, 139, 140, 141, 142, 143, 144, 145, 146, 147, 148, 149, 150, 151, 152, 153, 154, 155, 156, 157, 158, 159, 160, 161, 162, 163, 164, 165, 166, 167, 168, 169, 170] ρ, ⟨h, [], nx, lv⟩⟩ Q := by
  conv => arg 3; whnf
  have hsc := hb.sc
  have hgt := hb.gt
  have hsw := within_iff.1 hs
  have hlt' : ((i : Int) < (l.length : Int)) = True := by simp; omega
  have hi0 : ((0 : Int) ≤ (i : Int)) = True := by simp
  have hle : ((i : Int) ≤ (l.length : Int)) = True := by simp; omega
  have ew : IntKind.i64.wrap ((i : Int) + 1) = (i : Int) + 1 := i64_in (by omega) (by omega)
  simp (config := {maxSteps := 1000000}) only [go_sem, hi0, hle, hp, dFlt, hb3, nCells, e23, hlt']
  generalize genO (AB.hget h 8) = G
  have hw : within 1 1 7 = true := rfl
  by_cases a1 : who < 0
  · simp (config := {maxSteps := 1000000}) only [go_sem, (by simp [a1] : (who < 0) = True), hR]
    exact hit 3 (by decide) (by simp [fltE, mostF, hw, (within_no (.inl a1) : within who 0 ((n.sects.length : Int) - 1) = false)])
  have a1' : (who < 0) = False := by simp [a1]
  simp (config := {maxSteps := 1000000}) only [go_sem, hi0, hle, hp, dFlt, hb3, nCells, a1']
  by_cases a2 : (n.sects.length : Int) ≤ who
  · simp (config := {maxSteps := 1000000}) only [go_sem, (by simp [a2] : ((n.sects.length : Int) ≤ who) = True), hR]
    exact hit 3 (by decide) (by simp [fltE, mostF, hw, (within_no (.inr (by omega)) : within who 0 ((n.sects.length : Int) - 1) = false)])
  have a2' : ((n.sects.length : Int) ≤ who) = False := by simp [a2]
  simp (config := {maxSteps := 1000000}) only [go_sem, hi0, hle, hp, dFlt, hb3, nCells, a2']
  have c1 : within who 0 ((n.sects.length : Int) - 1) = true := within_iff.2 (by omega)
  obtain ⟨c, hc⟩ : ∃ c, n.sects[who.toNat]? = some c := ⟨_, List.getElem?_eq_getElem (by omega)⟩
  have hpc : (n.sects.map dSect)[who.toNat]? = some (dSect c) := by rw [List.getElem?_map, hc]; rfl
  have hpc2 : Option.map dSect n.sects[who.toNat]? = some (dSect c) := by rw [hc]; rfl
  have h0w : (0 ≤ who) = True := by simp; omega
  have hka : kindAt n who = c.kind := by simp [kindAt, hc]
  simp (config := {maxSteps := 1000000}) only [go_sem, hi0, hle, hp, dFlt, hb3, nCells, hpc, hpc2, h0w, dSect]
  by_cases q1 : c.kind = 2
  rotate_left
  · simp (config := {maxSteps := 1000000}) only [go_sem, (by simp [q1] : (c.kind = 2) = False), hR]
    exact hit 3 (by decide) (by simp [fltE, mostF, hw, c1, hka, q1])
  simp (config := {maxSteps := 1000000}) only [go_sem, hi0, hle, hp, dFlt, hb3, nCells, hpc, hpc2, h0w, dSect, q1]
  by_cases b1 : fr < 0
  · simp (config := {maxSteps := 1000000}) only [go_sem, (by simp [b1] : (fr < 0) = True), hR]
    exact hit 13 (by decide) (by simp [fltE, mostF, hw, c1, hka, q1, (within_no (.inl b1) : within fr 0 28799 = false)])
  have b1' : (fr < 0) = False := by simp [b1]
  simp (config := {maxSteps := 1000000}) only [go_sem, hi0, hle, hp, dFlt, hb3, nCells, hpc, hpc2, h0w, dSect, b1']
  by_cases b2 : 28800 ≤ fr
  · simp (config := {maxSteps := 1000000}) only [go_sem, (by simp [b2] : (28800 ≤ fr) = True), hR]
    exact hit 13 (by decide) (by simp [fltE, mostF, hw, c1, hka, q1, (within_no (.inr (by omega)) : within fr 0 28799 = false)])
  have b2' : (28800 ≤ fr) = False := by simp [b2]
  simp (config := {maxSteps := 1000000}) only [go_sem, hi0, hle, hp, dFlt, hb3, nCells, hpc, hpc2, h0w, dSect, b2']
  have c2 : within fr 0 28799 = true := within_iff.2 (by omega)
  by_cases b3 : upto ≤ fr
  · simp (config := {maxSteps := 1000000}) only [go_sem, (by simp [b3] : (upto ≤ fr) = True), hR]
    exact hit 13 (by decide) (by simp [fltE, mostF, hw, c1, hka, q1, c2, (within_no (.inl (by omega)) : within upto (fr + 1) 28800 = false)])
  have b3' : (upto ≤ fr) = False := by simp [b3]
  simp (config := {maxSteps := 1000000}) only [go_sem, hi0, hle, hp, dFlt, hb3, nCells, hpc, hpc2, h0w, dSect, b3']
  by_cases b4 : 28800 < upto
  · simp (config := {maxSteps := 1000000}) only [go_sem, (by simp [b4] : (28800 < upto) = True), hR]
    exact hit 13 (by decide) (by simp [fltE, mostF, hw, c1, hka, q1, c2, (within_no (.inr b4) : within upto (fr + 1) 28800 = false)])
  have b4' : (28800 < upto) = False := by simp [b4]
  simp (config := {maxSteps := 1000000}) only [go_sem, hi0, hle, hp, dFlt, hb3, nCells, hpc, hpc2, h0w, dSect, b4']
  have c3 : within upto (fr + 1) 28800 = true := within_iff.2 (by omega)
  by_cases d1 : much = 0
  rotate_left
  · simp (config := {maxSteps := 1000000}) only [go_sem, (by simp [d1] : (much = 0) = False), hR]
    exact hit 1 (by decide) (by simp [fltE, mostF, hw, c1, hka, q1, c2, c3, d1])
  simp (config := {maxSteps := 1000000}) only [go_sem, hi0, hle, hp, dFlt, hb3, nCells, hpc, hpc2, h0w, dSect, d1]
  have hv : fltE n sets k ⟨1, who, fr, upto, much⟩ = if k.any (clash ⟨1, who, fr, upto, much⟩) = true then 8 else 0 := by simp [-List.any_eq_true, -List.any_eq_false, fltE, mostF, hw, c1, hka, q1, c2, c3, d1]
  refine ⟨Nat.zero_le _, g1, ?_⟩
  rw [htl]
  simp (config := {maxSteps := 1000000}) only [go_sem, List.length_map, hkl]
  refine AW_loopH [6, 11, 139, 140, 141, 142, 143, 144, 145, 146, 147, 148, 149, 150, 151, 152, 153, 154, 155, 156, 157, 158, 159, 160, 161, 162, 163, 164, 165, 166, 167, 168, 169]
    (fun (j : Nat) ρ m => ρ 139 = .int .i64 (j : Int) ∧ j ≤ i ∧ (k.take j).any (clash ⟨1, who, fr, upto, much⟩) = false ∧ ∃ h nx lv, m = ⟨h, [], nx, lv⟩ ∧ AB.hget h 3 = some (0, nCells n) ∧ AB.hget h 8 = some (G, bFlt ⟨1, who, fr, upto, much⟩)) (fun j => i - j) 0 ?_ ?_
  · simp [go_sem, bFlt, hb3, nCells, d1]
  rintro j ρ2 m ⟨e139, gj, ga, h2, nx3, lv3, rfl, hb3', hb8⟩ Q2 hN2 hR2 hX2
  by_cases hjt : j < i
  rotate_left
  · have hjt' : ((j : Int) < (i : Int)) = False := by simp; omega
    rw [List.take_of_length_le (by omega)] at ga
    simp (config := {maxSteps := 1000000}) only [go_sem, e139, hjt', hX2, hN, ew]
    refine ⟨by kernel_rfl, i + 1, ?_, by simp only; omega⟩
    simp (config := {maxSteps := 1000000}) only [go_sem]
    exact ⟨by simp, by omega, go (by rw [hv, ga]; rfl), _, _, _, rfl, hb3'⟩
  obtain ⟨t, ht⟩ : ∃ t, k[j]? = some t := ⟨_, List.getElem?_eq_getElem (by omega)⟩
  have hpt : (k.map dFlt)[j]? = some (dFlt t) := by rw [List.getElem?_map, ht]; rfl
  have hjt' : ((j : Int) < (i : Int)) = True := by simp; omega
  have h0j : ((0 : Int) ≤ (j : Int)) = True := by simp
  have ewj : IntKind.i64.wrap ((j : Int) + 1) = (j : Int) + 1 := i64_in (by omega) (by omega)
  have ha := any_pre (f := ⟨1, who, fr, upto, much⟩) ht
  rw [ga, Bool.false_or] at ha
  have on : clash ⟨1, who, fr, upto, much⟩ t = false → (k.take (j + 1)).any (clash ⟨1, who, fr, upto, much⟩) = false := fun h => by rw [ha, h]
  simp (config := {maxSteps := 1000000}) only [go_sem, e139, hjt', h0j, hpt, dFlt, hb8, bFlt]
  by_cases x1 : t.kind = 1
  rotate_left
  · simp (config := {maxSteps := 1000000}) only [go_sem, (by simp [x1] : (t.kind = 1) = False), hN2, ewj]
    refine ⟨by kernel_rfl, j + 1, ?_, by simp only; omega⟩
    simp (config := {maxSteps := 1000000}) only [go_sem]
    exact ⟨by simp, by omega, on (by simp [clash, x1]), _, _, _, rfl, by simp [go_sem, hb3'], by simp [go_sem, hb8, bFlt]⟩
  simp (config := {maxSteps := 1000000}) only [go_sem, hb8, bFlt, (by simp [x1] : (t.kind = 1) = True)]
  by_cases x2 : t.who = who
  rotate_left
  · simp (config := {maxSteps := 1000000}) only [go_sem, (by simp [x2] : (t.who = who) = False), hN2, ewj]
    refine ⟨by kernel_rfl, j + 1, ?_, by simp only; omega⟩
    simp (config := {maxSteps := 1000000}) only [go_sem]
    exact ⟨by simp, by omega, on (by simp [clash, x2]), _, _, _, rfl, by simp [go_sem, hb3'], by simp [go_sem, hb8, bFlt]⟩
  simp (config := {maxSteps := 1000000}) only [go_sem, hb8, bFlt, (by simp [x2] : (t.who = who) = True)]
  by_cases x3 : fr < t.upto
  rotate_left
  · simp (config := {maxSteps := 1000000}) only [go_sem, (by simp [x3] : (fr < t.upto) = False), hN2, ewj]
    refine ⟨by kernel_rfl, j + 1, ?_, by simp only; omega⟩
    simp (config := {maxSteps := 1000000}) only [go_sem]
    exact ⟨by simp, by omega, on (by simp [clash, x3]), _, _, _, rfl, by simp [go_sem, hb3'], by simp [go_sem, hb8, bFlt]⟩
  simp (config := {maxSteps := 1000000}) only [go_sem, hb8, bFlt, (by simp [x3] : (fr < t.upto) = True)]
  by_cases x4 : t.fr < upto
  rotate_left
  · simp (config := {maxSteps := 1000000}) only [go_sem, (by simp [x4] : (t.fr < upto) = False), hN2, ewj]
    refine ⟨by kernel_rfl, j + 1, ?_, by simp only; omega⟩
    simp (config := {maxSteps := 1000000}) only [go_sem]
    exact ⟨by simp, by omega, on (by simp [clash, x4]), _, _, _, rfl, by simp [go_sem, hb3'], by simp [go_sem, hb8, bFlt]⟩
  simp (config := {maxSteps := 1000000}) only [go_sem, hb8, bFlt, (by simp [x4] : (t.fr < upto) = True), hR2, hR]
  exact hit 8 (by decide) (by rw [hv, if_pos (List.any_eq_true.2 ⟨t, List.mem_of_getElem? ht, by simp [clash, x1, x2, x3, x4]⟩)])
end Go.Proofs.YtaieadcnhlapdaaDoor

/- FaultsError of the reference: a round at a fault of kind 2. -/
namespace Go.Proofs.YtaieadcnhlapdaaDoor
set_option linter.unusedSimpArgs false
set_option linter.unusedVariables false
open Go.AB

set_option maxRecDepth 40000 in
set_option maxHeartbeats 16000000 in
theorem r18_2 {E : Env} {n : Net} (hb : NetB n) {sets : Int} {l : List Flt} (hl : l.length ≤ 140737488351232) {k : List Flt} {i : Nat} {who fr upto much : Int} {ρ : Nat → AV} {h : List (Nat × Nat × List AV)} {nx : Nat} {lv : Nat → Prop} {Q : Exit → AS → Prop}
    (hs : within sets 0 8 = true) (g1 : i ≤ l.length) (e23 : ρ 23 = .int .i64 (i : Int)) (hb3 : AB.hget h 3 = some (0, nCells n)) (hlt : i < l.length) (hp : (l.map dFlt)[i]? = some (dFlt ⟨2, who, fr, upto, much⟩))
    (hit : ∀ v : Int, v ≠ 0 → fltE n sets k ⟨2, who, fr, upto, much⟩ = v → v = errG n sets l)
    (go : fltE n sets k ⟨2, who, fr, upto, much⟩ = 0 → firstE (atF n sets l) (l.length - (i + 1)) (i + 1) = errG n sets l)
    (htl : List.take (i - 0) (List.map dFlt l) = k.map dFlt) (hkl : k.length = i)
    (hN : ∀ σ, Q .normal σ = LoopEnd [AV.agg [AV.sl 1 (List.map DV.str n.names) Tok.no, AV.sl 7 (List.map dSect n.sects) Tok.no, AV.sl 4 (List.map dLnk n.links) Tok.no, AV.sl 2 (List.map dPair n.sigs) Tok.no, AV.sl 2 (List.map dPair n.gates) Tok.no], AV.int IntKind.i64 sets, AV.sl 5 (List.map dFlt l) Tok.no, AV.ptr (Loc.own 3 0) 0, AV.raw (Value.tuple #[]), AV.raw (Value.tuple #[]), AV.int IntKind.i64 0, AV.raw (Value.tuple #[]), AV.raw (Value.tuple #[]), AV.raw (Value.tuple #[]), AV.raw (Value.tuple #[]), AV.raw (Value.tuple #[]), AV.int IntKind.i64 sets, AV.bool false, AV.bool false, AV.int IntKind.i64 sets, AV.bool false, AV.bool false, AV.sl 5 (List.map dFlt l) Tok.no, AV.int IntKind.i64 (l.length : Int), AV.bool false, AV.sl 5 (List.map dFlt l) Tok.no, AV.int IntKind.i64 (l.length : Int), AV.int IntKind.i64 0, AV.raw (Value.tuple #[]), AV.raw (Value.tuple #[]), AV.raw (Value.tuple #[]), AV.raw (Value.tuple #[]), AV.raw (Value.tuple #[]), AV.raw (Value.tuple #[]), AV.raw (Value.tuple #[]), AV.raw (Value.tuple #[]), AV.raw (Value.tuple #[]), AV.raw (Value.tuple #[]), AV.raw (Value.tuple #[]), AV.raw (Value.tuple #[]), AV.raw (Value.tuple #[]), AV.raw (Value.tuple #[]), AV.raw (Value.tuple #[]), AV.raw (Value.tuple #[]), AV.raw (Value.tuple #[]), AV.raw (Value.tuple #[]), AV.raw (Value.tuple #[]), AV.raw (Value.tuple #[]), AV.raw (Value.tuple #[]), AV.raw (Value.tuple #[]), AV.raw (Value.tuple #[]), AV.raw (Value.tuple #[]), AV.raw (Value.tuple #[]), AV.raw (Value.tuple #[]), AV.raw (Value.tuple #[]), AV.raw (Value.tuple #[]), AV.raw (Value.tuple #[]), AV.raw (Value.tuple #[]), AV.raw (Value.tuple #[]), AV.raw (Value.tuple #[]), AV.raw (Value.tuple #[]), AV.raw (Value.tuple #[]), AV.raw (Value.tuple #[]), AV.raw (Value.tuple #[]), AV.raw (Value.tuple #[]), AV.raw (Value.tuple #[]), AV.raw (Value.tuple #[]), AV.raw (Value.tuple #[]), AV.raw (Value.tuple #[]), AV.raw (Value.tuple #[]), AV.raw (Value.tuple #[]), AV.raw (Value.tuple #[]), AV.raw (Value.tuple #[]), AV.raw (Value.tuple #[]), AV.raw (Value.tuple #[]), AV.raw (Value.tuple #[]), AV.raw (Value.tuple #[]), AV.raw (Value.tuple #[]), AV.raw (Value.tuple #[]), AV.raw (Value.tuple #[]), AV.raw (Value.tuple #[]), AV.raw (Value.tuple #[]), AV.raw (Value.tuple #[]), AV.raw (Value.tuple #[]), AV.raw (Value.tuple #[]), AV.raw (Value.tuple #[]), AV.raw (Value.tuple #[]), AV.raw (Value.tuple #[]), AV.raw (Value.tuple #[]), AV.raw (Value.tuple #[]), AV.raw (Value.tuple #[]), AV.raw (Value.tuple #[]), AV.raw (Value.tuple #[]), AV.raw (Value.tuple #[]), AV.raw (Value.tuple #[]), AV.raw (Value.tuple #[]), AV.raw (Value.tuple #[]), AV.raw (Value.tuple #[]), AV.raw (Value.tuple #[]), AV.raw (Value.tuple #[]), AV.raw (Value.tuple #[]), AV.raw (Value.tuple #[]), AV.raw (Value.tuple #[]), AV.raw (Value.tuple #[]), AV.raw (Value.tuple #[]), AV.raw (Value.tuple #[]), AV.raw (Value.tuple #[]), AV.raw (Value.tuple #[]), AV.raw (Value.tuple #[]), AV.raw (Value.tuple #[]), AV.raw (Value.tuple #[]), AV.raw (Value.tuple #[]), AV.raw (Value.tuple #[]), AV.raw (Value.tuple #[]), AV.raw (Value.tuple #[]), AV.raw (Value.tuple #[]), AV.raw (Value.tuple #[]), AV.raw (Value.tuple #[]), AV.raw (Value.tuple #[]), AV.raw (Value.tuple #[]), AV.raw (Value.tuple #[]), AV.raw (Value.tuple #[]), AV.raw (Value.tuple #[]), AV.raw (Value.tuple #[]), AV.raw (Value.tuple #[]), AV.raw (Value.tuple #[]), AV.raw (Value.tuple #[]), AV.raw (Value.tuple #[]), AV.raw (Value.tuple #[]), AV.raw (Value.tuple #[]), AV.raw (Value.tuple #[]), AV.raw (Value.tuple #[]), AV.raw (Value.tuple #[]), AV.raw (Value.tuple #[]), AV.raw (Value.tuple #[]), AV.raw (Value.tuple #[]), AV.raw (Value.tuple #[]), AV.raw (Value.tuple #[]), AV.raw (Value.tuple #[]), AV.raw (Value.tuple #[]), AV.raw (Value.tuple #[]), AV.raw (Value.tuple #[]), AV.raw (Value.tuple #[]), AV.raw (Value.tuple #[]), AV.raw (Value.tuple #[]), AV.raw (Value.tuple #[]), AV.raw (Value.tuple #[]), AV.raw (Value.tuple #[]), AV.raw (Value.tuple #[]), AV.raw (Value.tuple #[]), AV.raw (Value.tuple #[]), AV.raw (Value.tuple #[]), AV.raw (Value.tuple #[]), AV.raw (Value.tuple #[]), AV.raw (Value.tuple #[]), AV.raw (Value.tuple #[]), AV.raw (Value.tuple #[]), AV.raw (Value.tuple #[]), AV.raw (Value.tuple #[]), AV.raw (Value.tuple #[]), AV.raw (Value.tuple #[]), AV.raw (Value.tuple #[]), AV.raw (Value.tuple #[]), AV.raw (Value.tuple #[]), AV.raw (Value.tuple #[]), AV.raw (Value.tuple #[]), AV.raw (Value.tuple #[]), AV.raw (Value.tuple #[]), AV.raw (Value.tuple #[]), AV.raw (Value.tuple #[]), AV.raw (Value.tuple #[]), AV.raw (Value.tuple #[]), AV.raw (Value.tuple #[]), AV.raw (Value.tuple #[]), AV.raw (Value.tuple #[])] [6, 7, 8, 9, 11, 23, 24, 25, 26, 27, 28, 29, 30, 31, 32, 33, 34, 35, 36, 37, 38, 39, 40, 41, 42, 43, 44, 45, 46, 47, 48, 49, 50, 51, 52, 53, 54, 55, 56, 57, 58, 59, 60, 61, 62, 63, 64, 65, 66, 67, 68, 69, 70, 71, 72, 73, 74, 75, 76, 77, 78, 79, 80, 81, 82, 83, 84, 85, 86, 87, 88, 89, 90, 91, 92, 93, 94, 95, 96, 97, 98, 99, 100, 101, 102, 103, 104, 105, 106, 107, 108, 109, 110, 111, 112, 113, 114, 115, 116, 117, 118, 119, 120, 121, 122, 123, 124, 125, 126, 127, 128, 129, 130, 131, 132, 133, 134, 135, 136, 137, 138, 139, 140, 141, 142, 143, 144, 145, 146, 147, 148, 149, 150, 151, 152, 153, 154, 155, 156, 157, 158, 159, 160, 161, 162, 163, 164, 165, 166, 167, 168, 169, 170] (fun (i : Nat) (ρ : Nat → AV) (m : AH) => ρ 23 = .int .i64 (i : Int) ∧ i ≤ l.length ∧ firstE (atF n sets l) (l.length - i) i = errG n sets l ∧ ∃ h nx lv, m = ⟨h, [], nx, lv⟩ ∧ AB.hget h 3 = some (0, nCells n)) (fun (i : Nat) => l.length - i) i σ) (hR : ∀ σ, Q .ret σ = bodyQ Tryd.prog [ResultVar.tmp 6] (RV (.int .i64 (errG n sets l))) .ret σ) :
    exC Tryd.prog E c18 ⟨mask [AV.agg [AV.sl 1 (List.map DV.str n.names) Tok.no, AV.sl 7 (List.map dSect n.sects) Tok.no, AV.sl 4 (List.map dLnk n.links) Tok.no, AV.sl 2 (List.map dPair n.sigs) Tok.no, AV.sl 2 (List.map dPair n.gates) Tok.no], AV.int IntKind.i64 sets, AV.sl 5 (List.map dFlt l) Tok.no, AV.ptr (Loc.own 3 0) 0, AV.raw (Value.tuple #[]), AV.raw (Value.tuple #[]), AV.int IntKind.i64 0, AV.raw (Value.tuple #[]), AV.raw (Value.tuple #[]), AV.raw (Value.tuple #[]), AV.raw (Value.tuple #[]), AV.raw (Value.tuple #[]), AV.int IntKind.i64 sets, AV.bool false, AV.bool false, AV.int IntKind.i64 sets, AV.bool false, AV.bool false, AV.sl 5 (List.map dFlt l) Tok.no, AV.int IntKind.i64 (l.length : Int), AV.bool false, AV.sl 5 (List.map dFlt l) Tok.no, AV.int IntKind.i64 (l.length : Int), AV.int IntKind.i64 0, AV.raw (Value.tuple #[]), AV.raw (Value.tuple #[]), AV.raw (Value.tuple #[]), AV.raw (Value.tuple #[]), AV.raw (Value.tuple #[]), AV.raw (Value.tuple #[]), AV.raw (Value.tuple #[]), AV.raw (Value.tuple #[]), AV.raw (Value.tuple #[]), AV.raw (Value.tuple #[]), AV.raw (Value.tuple #[]), AV.raw (Value.tuple #[]), AV.raw (Value.tuple #[]), AV.raw (Value.tuple #[]), AV.raw (Value.tuple #[]), AV.raw (Value.tuple #[]), AV.raw (Value.tuple #[]), AV.raw (Value.tuple #[]), AV.raw (Value.tuple #[]), AV.raw (Value.tuple #[]), AV.raw (Value.tuple #[]), AV.raw (Value.tuple #[]), AV.raw (Value.tuple #[]), AV.raw (Value.tuple #[]), AV.raw (Value.tuple #[]), AV.raw (Value.tuple #[]), AV.raw (Value.tuple #[]), AV.raw (Value.tuple #[]), AV.raw (Value.tuple #[]), AV.raw (Value.tuple #[]), AV.raw (Value.tuple #[]), AV.raw (Value.tuple #[]), AV.raw (Value.tuple #[]), AV.raw (Value.tuple #[]), AV.raw (Value.tuple #[]), AV.raw (Value.tuple #[]), AV.raw (Value.tuple #[]), AV.raw (Value.tuple #[]), AV.raw (Value.tuple #[]), AV.raw (Value.tuple #[]), AV.raw (Value.tuple #[]), AV.raw (Value.tuple #[]), AV.raw (Value.tuple #[]), AV.raw (Value.tuple #[]), AV.raw (Value.tuple #[]), AV.raw (Value.tuple #[]), AV.raw (Value.tuple #[]), AV.raw (Value.tuple #[]), AV.raw (Value.tuple #[]), AV.raw (Value.tuple #[]), AV.raw (Value.tuple #[]), AV.raw (Value.tuple #[]), AV.raw (Value.tuple #[]), AV.raw (Value.tuple #[]), AV.raw (Value.tuple #[]), AV.raw (Value.tuple #[]), AV.raw (Value.tuple #[]), AV.raw (Value.tuple #[]), AV.raw (Value.tuple #[]), AV.raw (Value.tuple #[]), AV.raw (Value.tuple #[]), AV.raw (Value.tuple #[]), AV.raw (Value.tuple #[]), AV.raw (Value.tuple #[]), AV.raw (Value.tuple #[]), AV.raw (Value.tuple #[]), AV.raw (Value.tuple #[]), AV.raw (Value.tuple #[]), AV.raw (Value.tuple #[]), AV.raw (Value.tuple #[]), AV.raw (Value.tuple #[]), AV.raw (Value.tuple #[]), AV.raw (Value.tuple #[]), AV.raw (Value.tuple #[]), AV.raw (Value.tuple #[]), AV.raw (Value.tuple #[]), AV.raw (Value.tuple #[]), AV.raw (Value.tuple #[]), AV.raw (Value.tuple #[]), AV.raw (Value.tuple #[]), AV.raw (Value.tuple #[]), AV.raw (Value.tuple #[]), AV.raw (Value.tuple #[]), AV.raw (Value.tuple #[]), AV.raw (Value.tuple #[]), AV.raw (Value.tuple #[]), AV.raw (Value.tuple #[]), AV.raw (Value.tuple #[]), AV.raw (Value.tuple #[]), AV.raw (Value.tuple #[]), AV.raw (Value.tuple #[]), AV.raw (Value.tuple #[]), AV.raw (Value.tuple #[]), AV.raw (Value.tuple #[]), AV.raw (Value.tuple #[]), AV.raw (Value.tuple #[]), AV.raw (Value.tuple #[]), AV.raw (Value.tuple #[]), AV.raw (Value.tuple #[]), AV.raw (Value.tuple #[]), AV.raw (Value.tuple #[]), AV.raw (Value.tuple #[]), AV.raw (Value.tuple #[]), AV.raw (Value.tuple #[]), AV.raw (Value.tuple #[]), AV.raw (Value.tuple #[]), AV.raw (Value.tuple #[]), AV.raw (Value.tuple #[]), AV.raw (Value.tuple #[]), AV.raw (Value.tuple #[]), AV.raw (Value.tuple #[]), AV.raw (Value.tuple #[]), AV.raw (Value.tuple #[]), AV.raw (Value.tuple #[]), AV.raw (Value.tuple #[]), AV.raw (Value.tuple #[]), AV.raw (Value.tuple #[]), AV.raw (Value.tuple #[]), AV.raw (Value.tuple #[]), AV.raw (Value.tuple #[]), AV.raw (Value.tuple #[]), AV.raw (Value.tuple #[]), AV.raw (Value.tuple #[]), AV.raw (Value.tuple #[]), AV.raw (Value.tuple #[]), AV.raw (Value.tuple #[]), AV.raw (Value.tuple #[]), AV.raw (Value.tuple #[]), AV.raw (Value.tuple #[]), AV.raw (Value.tuple #[]), AV.raw (Value.tuple #[]), AV.raw (Value.tuple #[]), AV.raw (Value.tuple #[]), AV.raw (Value.tuple #[]), AV.raw (Value.tuple #[]), AV.raw (Value.tuple #[]), AV.raw (Value.tuple #[]), AV.raw (Value.tuple #[]), AV.raw (Value.tuple #[]), AV.raw (Value.tuple #[]), AV.raw (Value.tuple #[]), AV.raw (Value.tuple #[]), AV.raw (Value.tuple #[]), AV.raw (Value.tuple #[]), AV.raw (Value.tuple #[]), AV.raw (Value.tuple #[]), AV.raw (Value.tuple #[])] [6, 7, 8, 9, 11, 23, 24, 25, 26, 27, 28, 29, 30, 31, 32, 33, 34, 35, 36, 37, 38, 39, 40, 41, 42, 43, 44, 45, 46, 47, 48, 49, 50, 51, 52, 53, 54, 55, 56, 57, 58, 59, 60, 61, 62, 63, 64, 65, 66, 67, 68, 69, 70, 71, 72, 73, 74, 75, 76, 77, 78, 79, 80, 81, 82, 83, 84, 85, 86, 87, 88, 89, 90, 91, 92, 93, 94, 95, 96, 97, 98, 99, 100, 101, 102, 103, 104, 105, 106, 107, 108, 109, 110, 111, 112, 113, 114, 115, 116, 117, 118, 119, 120, 121, 122, 123, 124, 125, 126, 127, 128, 129, 130, 131, 132, 133, 134, 135, 136, 137, 138, 139, 140, 141, 142, 143, 144, 145, 146, 147, 148, 149, 150, 151, 152, 153, 154, 155, 156, 157, 158, 159, 160, 161, 162, 163, 164, 165, 166, 167, 168, 169, 170] ρ, ⟨h, [], nx, lv⟩⟩ Q := by
  conv => arg 3; whnf
  have hsc := hb.sc
  have hgt := hb.gt
  have hsw := within_iff.1 hs
  have hlt' : ((i : Int) < (l.length : Int)) = True := by simp; omega
  have hi0 : ((0 : Int) ≤ (i : Int)) = True := by simp
  have hle : ((i : Int) ≤ (l.length : Int)) = True := by simp; omega
  have ew : IntKind.i64.wrap ((i : Int) + 1) = (i : Int) + 1 := i64_in (by omega) (by omega)
  simp (config := {maxSteps := 1000000}) only [go_sem, hi0, hle, hp, dFlt, hb3, nCells, e23, hlt']
  generalize genO (AB.hget h 8) = G
  have hw : within 2 1 7 = true := rfl
  by_cases a1 : who < 0
  · simp (config := {maxSteps := 1000000}) only [go_sem, (by simp [a1] : (who < 0) = True), hR]
    exact hit 3 (by decide) (by simp [fltE, mostF, hw, (within_no (.inl a1) : within who 0 ((n.sects.length : Int) - 1) = false)])
  have a1' : (who < 0) = False := by simp [a1]
  simp (config := {maxSteps := 1000000}) only [go_sem, hi0, hle, hp, dFlt, hb3, nCells, a1']
  by_cases a2 : (n.sects.length : Int) ≤ who
  · simp (config := {maxSteps := 1000000}) only [go_sem, (by simp [a2] : ((n.sects.length : Int) ≤ who) = True), hR]
    exact hit 3 (by decide) (by simp [fltE, mostF, hw, (within_no (.inr (by omega)) : within who 0 ((n.sects.length : Int) - 1) = false)])
  have a2' : ((n.sects.length : Int) ≤ who) = False := by simp [a2]
  simp (config := {maxSteps := 1000000}) only [go_sem, hi0, hle, hp, dFlt, hb3, nCells, a2']
  have c1 : within who 0 ((n.sects.length : Int) - 1) = true := within_iff.2 (by omega)
  by_cases b1 : fr < 0
  · simp (config := {maxSteps := 1000000}) only [go_sem, (by simp [b1] : (fr < 0) = True), hR]
    exact hit 13 (by decide) (by simp [fltE, mostF, hw, c1, (within_no (.inl b1) : within fr 0 28799 = false)])
  have b1' : (fr < 0) = False := by simp [b1]
  simp (config := {maxSteps := 1000000}) only [go_sem, hi0, hle, hp, dFlt, hb3, nCells, b1']
  by_cases b2 : 28800 ≤ fr
  · simp (config := {maxSteps := 1000000}) only [go_sem, (by simp [b2] : (28800 ≤ fr) = True), hR]
    exact hit 13 (by decide) (by simp [fltE, mostF, hw, c1, (within_no (.inr (by omega)) : within fr 0 28799 = false)])
  have b2' : (28800 ≤ fr) = False := by simp [b2]
  simp (config := {maxSteps := 1000000}) only [go_sem, hi0, hle, hp, dFlt, hb3, nCells, b2']
  have c2 : within fr 0 28799 = true := within_iff.2 (by omega)
  by_cases b3 : upto ≤ fr
  · simp (config := {maxSteps := 1000000}) only [go_sem, (by simp [b3] : (upto ≤ fr) = True), hR]
    exact hit 13 (by decide) (by simp [fltE, mostF, hw, c1, c2, (within_no (.inl (by omega)) : within upto (fr + 1) 28800 = false)])
  have b3' : (upto ≤ fr) = False := by simp [b3]
  simp (config := {maxSteps := 1000000}) only [go_sem, hi0, hle, hp, dFlt, hb3, nCells, b3']
  by_cases b4 : 28800 < upto
  · simp (config := {maxSteps := 1000000}) only [go_sem, (by simp [b4] : (28800 < upto) = True), hR]
    exact hit 13 (by decide) (by simp [fltE, mostF, hw, c1, c2, (within_no (.inr b4) : within upto (fr + 1) 28800 = false)])
  have b4' : (28800 < upto) = False := by simp [b4]
  simp (config := {maxSteps := 1000000}) only [go_sem, hi0, hle, hp, dFlt, hb3, nCells, b4']
  have c3 : within upto (fr + 1) 28800 = true := within_iff.2 (by omega)
  by_cases d1 : much = 0
  rotate_left
  · simp (config := {maxSteps := 1000000}) only [go_sem, (by simp [d1] : (much = 0) = False), hR]
    exact hit 1 (by decide) (by simp [fltE, mostF, hw, c1, c2, c3, d1])
  simp (config := {maxSteps := 1000000}) only [go_sem, hi0, hle, hp, dFlt, hb3, nCells, d1]
  have hv : fltE n sets k ⟨2, who, fr, upto, much⟩ = if k.any (clash ⟨2, who, fr, upto, much⟩) = true then 8 else 0 := by simp [-List.any_eq_true, -List.any_eq_false, fltE, mostF, hw, c1, c2, c3, d1]
  refine ⟨Nat.zero_le _, g1, ?_⟩
  rw [htl]
  simp (config := {maxSteps := 1000000}) only [go_sem, List.length_map, hkl]
  refine AW_loopH [6, 11, 139, 140, 141, 142, 143, 144, 145, 146, 147, 148, 149, 150, 151, 152, 153, 154, 155, 156, 157, 158, 159, 160, 161, 162, 163, 164, 165, 166, 167, 168, 169]
    (fun (j : Nat) ρ m => ρ 139 = .int .i64 (j : Int) ∧ j ≤ i ∧ (k.take j).any (clash ⟨2, who, fr, upto, much⟩) = false ∧ ∃ h nx lv, m = ⟨h, [], nx, lv⟩ ∧ AB.hget h 3 = some (0, nCells n) ∧ AB.hget h 8 = some (G, bFlt ⟨2, who, fr, upto, much⟩)) (fun j => i - j) 0 ?_ ?_
  · simp [go_sem, bFlt, hb3, nCells, d1]
  rintro j ρ2 m ⟨e139, gj, ga, h2, nx3, lv3, rfl, hb3', hb8⟩ Q2 hN2 hR2 hX2
  by_cases hjt : j < i
  rotate_left
  · have hjt' : ((j : Int) < (i : Int)) = False := by simp; omega
    rw [List.take_of_length_le (by omega)] at ga
    simp (config := {maxSteps := 1000000}) only [go_sem, e139, hjt', hX2, hN, ew]
    refine ⟨by kernel_rfl, i + 1, ?_, by simp only; omega⟩
    simp (config := {maxSteps := 1000000}) only [go_sem]
    exact ⟨by simp, by omega, go (by rw [hv, ga]; rfl), _, _, _, rfl, hb3'⟩
  obtain ⟨t, ht⟩ : ∃ t, k[j]? = some t := ⟨_, List.getElem?_eq_getElem (by omega)⟩
  have hpt : (k.map dFlt)[j]? = some (dFlt t) := by rw [List.getElem?_map, ht]; rfl
  have hjt' : ((j : Int) < (i : Int)) = True := by simp; omega
  have h0j : ((0 : Int) ≤ (j : Int)) = True := by simp
  have ewj : IntKind.i64.wrap ((j : Int) + 1) = (j : Int) + 1 := i64_in (by omega) (by omega)
  have ha := any_pre (f := ⟨2, who, fr, upto, much⟩) ht
  rw [ga, Bool.false_or] at ha
  have on : clash ⟨2, who, fr, upto, much⟩ t = false → (k.take (j + 1)).any (clash ⟨2, who, fr, upto, much⟩) = false := fun h => by rw [ha, h]
  simp (config := {maxSteps := 1000000}) only [go_sem, e139, hjt', h0j, hpt, dFlt, hb8, bFlt]
  by_cases x1 : t.kind = 2
  rotate_left
  · simp (config := {maxSteps := 1000000}) only [go_sem, (by simp [x1] : (t.kind = 2) = False), hN2, ewj]
    refine ⟨by kernel_rfl, j + 1, ?_, by simp only; omega⟩
    simp (config := {maxSteps := 1000000}) only [go_sem]
    exact ⟨by simp, by omega, on (by simp [clash, x1]), _, _, _, rfl, by simp [go_sem, hb3'], by simp [go_sem, hb8, bFlt]⟩
  simp (config := {maxSteps := 1000000}) only [go_sem, hb8, bFlt, (by simp [x1] : (t.kind = 2) = True)]
  by_cases x2 : t.who = who
  rotate_left
  · simp (config := {maxSteps := 1000000}) only [go_sem, (by simp [x2] : (t.who = who) = False), hN2, ewj]
    refine ⟨by kernel_rfl, j + 1, ?_, by simp only; omega⟩
    simp (config := {maxSteps := 1000000}) only [go_sem]
    exact ⟨by simp, by omega, on (by simp [clash, x2]), _, _, _, rfl, by simp [go_sem, hb3'], by simp [go_sem, hb8, bFlt]⟩
  simp (config := {maxSteps := 1000000}) only [go_sem, hb8, bFlt, (by simp [x2] : (t.who = who) = True)]
  by_cases x3 : fr < t.upto
  rotate_left
  · simp (config := {maxSteps := 1000000}) only [go_sem, (by simp [x3] : (fr < t.upto) = False), hN2, ewj]
    refine ⟨by kernel_rfl, j + 1, ?_, by simp only; omega⟩
    simp (config := {maxSteps := 1000000}) only [go_sem]
    exact ⟨by simp, by omega, on (by simp [clash, x3]), _, _, _, rfl, by simp [go_sem, hb3'], by simp [go_sem, hb8, bFlt]⟩
  simp (config := {maxSteps := 1000000}) only [go_sem, hb8, bFlt, (by simp [x3] : (fr < t.upto) = True)]
  by_cases x4 : t.fr < upto
  rotate_left
  · simp (config := {maxSteps := 1000000}) only [go_sem, (by simp [x4] : (t.fr < upto) = False), hN2, ewj]
    refine ⟨by kernel_rfl, j + 1, ?_, by simp only; omega⟩
    simp (config := {maxSteps := 1000000}) only [go_sem]
    exact ⟨by simp, by omega, on (by simp [clash, x4]), _, _, _, rfl, by simp [go_sem, hb3'], by simp [go_sem, hb8, bFlt]⟩
  simp (config := {maxSteps := 1000000}) only [go_sem, hb8, bFlt, (by simp [x4] : (t.fr < upto) = True), hR2, hR]
  exact hit 8 (by decide) (by rw [hv, if_pos (List.any_eq_true.2 ⟨t, List.mem_of_getElem? ht, by simp [clash, x1, x2, x3, x4]⟩)])
end Go.Proofs.YtaieadcnhlapdaaDoor

/- FaultsError of the reference: a round at a fault of kind 3. -/
namespace Go.Proofs.YtaieadcnhlapdaaDoor
set_option linter.unusedSimpArgs false
set_option linter.unusedVariables false
open Go.AB

set_option maxRecDepth 40000 in
set_option maxHeartbeats 16000000 in
theorem r18_3 {E : Env} {n : Net} (hb : NetB n) {sets : Int} {l : List Flt} (hl : l.length ≤ 140737488351232) {k : List Flt} {i : Nat} {who fr upto much : Int} {ρ : Nat → AV} {h : List (Nat × Nat × List AV)} {nx : Nat} {lv : Nat → Prop} {Q : Exit → AS → Prop}
    (hs : within sets 0 8 = true) (g1 : i ≤ l.length) (e23 : ρ 23 = .int .i64 (i : Int)) (hb3 : AB.hget h 3 = some (0, nCells n)) (hlt : i < l.length) (hp : (l.map dFlt)[i]? = some (dFlt ⟨3, who, fr, upto, much⟩))
    (hit : ∀ v : Int, v ≠ 0 → fltE n sets k ⟨3, who, fr, upto, much⟩ = v → v = errG n sets l)
    (go : fltE n sets k ⟨3, who, fr, upto, much⟩ = 0 → firstE (atF n sets l) (l.length - (i + 1)) (i + 1) = errG n sets l)
    (htl : List.take (i - 0) (List.map dFlt l) = k.map dFlt) (hkl : k.length = i)
    (hN : ∀ σ, Q .normal σ = LoopEnd [AV.agg [AV.sl 1 (List.map DV.str n.names) Tok.no, AV.sl 7 (List.map dSect n.sects) Tok.no, AV.sl 4 (List.map dLnk n.links) Tok.no, AV.sl 2 (List.map dPair n.sigs) Tok.no, AV.sl 2 (List.map dPair n.gates) Tok.no], AV.int IntKind.i64 sets, AV.sl 5 (List.map dFlt l) Tok.no, AV.ptr (Loc.own 3 0) 0, AV.raw (Value.tuple #[]), AV.raw (Value.tuple #[]), AV.int IntKind.i64 0, AV.raw (Value.tuple #[]), AV.raw (Value.tuple #[]), AV.raw (Value.tuple #[]), AV.raw (Value.tuple #[]), AV.raw (Value.tuple #[]), AV.int IntKind.i64 sets, AV.bool false, AV.bool false, AV.int IntKind.i64 sets, AV.bool false, AV.bool false, AV.sl 5 (List.map dFlt l) Tok.no, AV.int IntKind.i64 (l.length : Int), AV.bool false, AV.sl 5 (List.map dFlt l) Tok.no, AV.int IntKind.i64 (l.length : Int), AV.int IntKind.i64 0, AV.raw (Value.tuple #[]), AV.raw (Value.tuple #[]), AV.raw (Value.tuple #[]), AV.raw (Value.tuple #[]), AV.raw (Value.tuple #[]), AV.raw (Value.tuple #[]), AV.raw (Value.tuple #[]), AV.raw (Value.tuple #[]), AV.raw (Value.tuple #[]), AV.raw (Value.tuple #[]), AV.raw (Value.tuple #[]), AV.raw (Value.tuple #[]), AV.raw (Value.tuple #[]), AV.raw (Value.tuple #[]), AV.raw (Value.tuple #[]), AV.raw (Value.tuple #[]), AV.raw (Value.tuple #[]), AV.raw (Value.tuple #[]), AV.raw (Value.tuple #[]), AV.raw (Value.tuple #[]), AV.raw (Value.tuple #[]), AV.raw (Value.tuple #[]), AV.raw (Value.tuple #[]), AV.raw (Value.tuple #[]), AV.raw (Value.tuple #[]), AV.raw (Value.tuple #[]), AV.raw (Value.tuple #[]), AV.raw (Value.tuple #[]), AV.raw (Value.tuple #[]), AV.raw (Value.tuple #[]), AV.raw (Value.tuple #[]), AV.raw (Value.tuple #[]), AV.raw (Value.tuple #[]), AV.raw (Value.tuple #[]), AV.raw (Value.tuple #[]), AV.raw (Value.tuple #[]), AV.raw (Value.tuple #[]), AV.raw (Value.tuple #[]), AV.raw (Value.tuple #[]), AV.raw (Value.tuple #[]), AV.raw (Value.tuple #[]), AV.raw (Value.tuple #[]), AV.raw (Value.tuple #[]), AV.raw (Value.tuple #[]), AV.raw (Value.tuple #[]), AV.raw (Value.tuple #[]), AV.raw (Value.tuple #[]), AV.raw (Value.tuple #[]), AV.raw (Value.tuple #[]), AV.raw (Value.tuple #[]), AV.raw (Value.tuple #[]), AV.raw (Value.tuple #[]), AV.raw (Value.tuple #[]), AV.raw (Value.tuple #[]), AV.raw (Value.tuple #[]), AV.raw (Value.tuple #[]), AV.raw (Value.tuple #[]), AV.raw (Value.tuple #[]), AV.raw (Value.tuple #[]), AV.raw (Value.tuple #[]), AV.raw (Value.tuple #[]), AV.raw (Value.tuple #[]), AV.raw (Value.tuple #[]), AV.raw (Value.tuple #[]), AV.raw (Value.tuple #[]), AV.raw (Value.tuple #[]), AV.raw (Value.tuple #[]), AV.raw (Value.tuple #[]), AV.raw (Value.tuple #[]), AV.raw (Value.tuple #[]), AV.raw (Value.tuple #[]), AV.raw (Value.tuple #[]), AV.raw (Value.tuple #[]), AV.raw (Value.tuple #[]), AV.raw (Value.tuple #[]), AV.raw (Value.tuple #[]), AV.raw (Value.tuple #[]), AV.raw (Value.tuple #[]), AV.raw (Value.tuple #[]), AV.raw (Value.tuple #[]), AV.raw (Value.tuple #[]), AV.raw (Value.tuple #[]), AV.raw (Value.tuple #[]), AV.raw (Value.tuple #[]), AV.raw (Value.tuple #[]), AV.raw (Value.tuple #[]), AV.raw (Value.tuple #[]), AV.raw (Value.tuple #[]), AV.raw (Value.tuple #[]), AV.raw (Value.tuple #[]), AV.raw (Value.tuple #[]), AV.raw (Value.tuple #[]), AV.raw (Value.tuple #[]), AV.raw (Value.tuple #[]), AV.raw (Value.tuple #[]), AV.raw (Value.tuple #[]), AV.raw (Value.tuple #[]), AV.raw (Value.tuple #[]), AV.raw (Value.tuple #[]), AV.raw (Value.tuple #[]), AV.raw (Value.tuple #[]), AV.raw (Value.tuple #[]), AV.raw (Value.tuple #[]), AV.raw (Value.tuple #[]), AV.raw (Value.tuple #[]), AV.raw (Value.tuple #[]), AV.raw (Value.tuple #[]), AV.raw (Value.tuple #[]), AV.raw (Value.tuple #[]), AV.raw (Value.tuple #[]), AV.raw (Value.tuple #[]), AV.raw (Value.tuple #[]), AV.raw (Value.tuple #[]), AV.raw (Value.tuple #[]), AV.raw (Value.tuple #[]), AV.raw (Value.tuple #[]), AV.raw (Value.tuple #[]), AV.raw (Value.tuple #[]), AV.raw (Value.tuple #[]), AV.raw (Value.tuple #[]), AV.raw (Value.tuple #[]), AV.raw (Value.tuple #[]), AV.raw (Value.tuple #[]), AV.raw (Value.tuple #[]), AV.raw (Value.tuple #[]), AV.raw (Value.tuple #[]), AV.raw (Value.tuple #[]), AV.raw (Value.tuple #[]), AV.raw (Value.tuple #[]), AV.raw (Value.tuple #[]), AV.raw (Value.tuple #[]), AV.raw (Value.tuple #[]), AV.raw (Value.tuple #[]), AV.raw (Value.tuple #[]), AV.raw (Value.tuple #[]), AV.raw (Value.tuple #[]), AV.raw (Value.tuple #[]), AV.raw (Value.tuple #[]), AV.raw (Value.tuple #[]), AV.raw (Value.tuple #[]), AV.raw (Value.tuple #[]), AV.raw (Value.tuple #[]), AV.raw (Value.tuple #[]), AV.raw (Value.tuple #[]), AV.raw (Value.tuple #[]), AV.raw (Value.tuple #[]), AV.raw (Value.tuple #[])] [6, 7, 8, 9, 11, 23, 24, 25, 26, 27, 28, 29, 30, 31, 32, 33, 34, 35, 36, 37, 38, 39, 40, 41, 42, 43, 44, 45, 46, 47, 48, 49, 50, 51, 52, 53, 54, 55, 56, 57, 58, 59, 60, 61, 62, 63, 64, 65, 66, 67, 68, 69, 70, 71, 72, 73, 74, 75, 76, 77, 78, 79, 80, 81, 82, 83, 84, 85, 86, 87, 88, 89, 90, 91, 92, 93, 94, 95, 96, 97, 98, 99, 100, 101, 102, 103, 104, 105, 106, 107, 108, 109, 110, 111, 112, 113, 114, 115, 116, 117, 118, 119, 120, 121, 122, 123, 124, 125, 126, 127, 128, 129, 130, 131, 132, 133, 134, 135, 136, 137, 138, 139, 140, 141, 142, 143, 144, 145, 146, 147, 148, 149, 150, 151, 152, 153, 154, 155, 156, 157, 158, 159, 160, 161, 162, 163, 164, 165, 166, 167, 168, 169, 170] (fun (i : Nat) (ρ : Nat → AV) (m : AH) => ρ 23 = .int .i64 (i : Int) ∧ i ≤ l.length ∧ firstE (atF n sets l) (l.length - i) i = errG n sets l ∧ ∃ h nx lv, m = ⟨h, [], nx, lv⟩ ∧ AB.hget h 3 = some (0, nCells n)) (fun (i : Nat) => l.length - i) i σ) (hR : ∀ σ, Q .ret σ = bodyQ Tryd.prog [ResultVar.tmp 6] (RV (.int .i64 (errG n sets l))) .ret σ) :
    exC Tryd.prog E c18 ⟨mask [AV.agg [AV.sl 1 (List.map DV.str n.names) Tok.no, AV.sl 7 (List.map dSect n.sects) Tok.no, AV.sl 4 (List.map dLnk n.links) Tok.no, AV.sl 2 (List.map dPair n.sigs) Tok.no, AV.sl 2 (List.map dPair n.gates) Tok.no], AV.int IntKind.i64 sets, AV.sl 5 (List.map dFlt l) Tok.no, AV.ptr (Loc.own 3 0) 0, AV.raw (Value.tuple #[]), AV.raw (Value.tuple #[]), AV.int IntKind.i64 0, AV.raw (Value.tuple #[]), AV.raw (Value.tuple #[]), AV.raw (Value.tuple #[]), AV.raw (Value.tuple #[]), AV.raw (Value.tuple #[]), AV.int IntKind.i64 sets, AV.bool false, AV.bool false, AV.int IntKind.i64 sets, AV.bool false, AV.bool false, AV.sl 5 (List.map dFlt l) Tok.no, AV.int IntKind.i64 (l.length : Int), AV.bool false, AV.sl 5 (List.map dFlt l) Tok.no, AV.int IntKind.i64 (l.length : Int), AV.int IntKind.i64 0, AV.raw (Value.tuple #[]), AV.raw (Value.tuple #[]), AV.raw (Value.tuple #[]), AV.raw (Value.tuple #[]), AV.raw (Value.tuple #[]), AV.raw (Value.tuple #[]), AV.raw (Value.tuple #[]), AV.raw (Value.tuple #[]), AV.raw (Value.tuple #[]), AV.raw (Value.tuple #[]), AV.raw (Value.tuple #[]), AV.raw (Value.tuple #[]), AV.raw (Value.tuple #[]), AV.raw (Value.tuple #[]), AV.raw (Value.tuple #[]), AV.raw (Value.tuple #[]), AV.raw (Value.tuple #[]), AV.raw (Value.tuple #[]), AV.raw (Value.tuple #[]), AV.raw (Value.tuple #[]), AV.raw (Value.tuple #[]), AV.raw (Value.tuple #[]), AV.raw (Value.tuple #[]), AV.raw (Value.tuple #[]), AV.raw (Value.tuple #[]), AV.raw (Value.tuple #[]), AV.raw (Value.tuple #[]), AV.raw (Value.tuple #[]), AV.raw (Value.tuple #[]), AV.raw (Value.tuple #[]), AV.raw (Value.tuple #[]), AV.raw (Value.tuple #[]), AV.raw (Value.tuple #[]), AV.raw (Value.tuple #[]), AV.raw (Value.tuple #[]), AV.raw (Value.tuple #[]), AV.raw (Value.tuple #[]), AV.raw (Value.tuple #[]), AV.raw (Value.tuple #[]), AV.raw (Value.tuple #[]), AV.raw (Value.tuple #[]), AV.raw (Value.tuple #[]), AV.raw (Value.tuple #[]), AV.raw (Value.tuple #[]), AV.raw (Value.tuple #[]), AV.raw (Value.tuple #[]), AV.raw (Value.tuple #[]), AV.raw (Value.tuple #[]), AV.raw (Value.tuple #[]), AV.raw (Value.tuple #[]), AV.raw (Value.tuple #[]), AV.raw (Value.tuple #[]), AV.raw (Value.tuple #[]), AV.raw (Value.tuple #[]), AV.raw (Value.tuple #[]), AV.raw (Value.tuple #[]), AV.raw (Value.tuple #[]), AV.raw (Value.tuple #[]), AV.raw (Value.tuple #[]), AV.raw (Value.tuple #[]), AV.raw (Value.tuple #[]), AV.raw (Value.tuple #[]), AV.raw (Value.tuple #[]), AV.raw (Value.tuple #[]), AV.raw (Value.tuple #[]), AV.raw (Value.tuple #[]), AV.raw (Value.tuple #[]), AV.raw (Value.tuple #[]), AV.raw (Value.tuple #[]), AV.raw (Value.tuple #[]), AV.raw (Value.tuple #[]), AV.raw (Value.tuple #[]), AV.raw (Value.tuple #[]), AV.raw (Value.tuple #[]), AV.raw (Value.tuple #[]), AV.raw (Value.tuple #[]), AV.raw (Value.tuple #[]), AV.raw (Value.tuple #[]), AV.raw (Value.tuple #[]), AV.raw (Value.tuple #[]), AV.raw (Value.tuple #[]), AV.raw (Value.tuple #[]), AV.raw (Value.tuple #[]), AV.raw (Value.tuple #[]), AV.raw (Value.tuple #[]), AV.raw (Value.tuple #[]), AV.raw (Value.tuple #[]), AV.raw (Value.tuple #[]), AV.raw (Value.tuple #[]), AV.raw (Value.tuple #[]), AV.raw (Value.tuple #[]), AV.raw (Value.tuple #[]), AV.raw (Value.tuple #[]), AV.raw (Value.tuple #[]), AV.raw (Value.tuple #[]), AV.raw (Value.tuple #[]), AV.raw (Value.tuple #[]), AV.raw (Value.tuple #[]), AV.raw (Value.tuple #[]), AV.raw (Value.tuple #[]), AV.raw (Value.tuple #[]), AV.raw (Value.tuple #[]), AV.raw (Value.tuple #[]), AV.raw (Value.tuple #[]), AV.raw (Value.tuple #[]), AV.raw (Value.tuple #[]), AV.raw (Value.tuple #[]), AV.raw (Value.tuple #[]), AV.raw (Value.tuple #[]), AV.raw (Value.tuple #[]), AV.raw (Value.tuple #[]), AV.raw (Value.tuple #[]), AV.raw (Value.tuple #[]), AV.raw (Value.tuple #[]), AV.raw (Value.tuple #[]), AV.raw (Value.tuple #[]), AV.raw (Value.tuple #[]), AV.raw (Value.tuple #[]), AV.raw (Value.tuple #[]), AV.raw (Value.tuple #[]), AV.raw (Value.tuple #[]), AV.raw (Value.tuple #[]), AV.raw (Value.tuple #[]), AV.raw (Value.tuple #[]), AV.raw (Value.tuple #[]), AV.raw (Value.tuple #[]), AV.raw (Value.tuple #[]), AV.raw (Value.tuple #[]), AV.raw (Value.tuple #[]), AV.raw (Value.tuple #[]), AV.raw (Value.tuple #[]), AV.raw (Value.tuple #[]), AV.raw (Value.tuple #[]), AV.raw (Value.tuple #[]), AV.raw (Value.tuple #[]), AV.raw (Value.tuple #[]), AV.raw (Value.tuple #[]), AV.raw (Value.tuple #[]), AV.raw (Value.tuple #[]), AV.raw (Value.tuple #[]), AV.raw (Value.tuple #[]), AV.raw (Value.tuple #[]), AV.raw (Value.tuple #[]), AV.raw (Value.tuple #[]), AV.raw (Value.tuple #[]), AV.raw (Value.tuple #[]), AV.raw (Value.tuple #[])] [6, 7, 8, 9, 11, 23, 24, 25, 26, 27, 28, 29, 30, 31, 32, 33, 34, 35, 36, 37, 38, 39, 40, 41, 42, 43, 44, 45, 46, 47, 48, 49, 50, 51, 52, 53, 54, 55, 56, 57, 58, 59, 60, 61, 62, 63, 64, 65, 66, 67, 68, 69, 70, 71, 72, 73, 74, 75, 76, 77, 78, 79, 80, 81, 82, 83, 84, 85, 86, 87, 88, 89, 90, 91, 92, 93, 94, 95, 96, 97, 98, 99, 100, 101, 102, 103, 104, 105, 106, 107, 108, 109, 110, 111, 112, 113, 114, 115, 116, 117, 118, 119, 120, 121, 122, 123, 124, 125, 126, 127, 128, 129, 130, 131, 132, 133, 134, 135, 136, 137, 138, 139, 140, 141, 142, 143, 144, 145, 146, 147, 148, 149, 150, 151, 152, 153, 154, 155, 156, 157, 158, 159, 160, 161, 162, 163, 164, 165, 166, 167, 168, 169, 170] ρ, ⟨h, [], nx, lv⟩⟩ Q := by
  conv => arg 3; whnf
  have hsc := hb.sc
  have hgt := hb.gt
  have hsw := within_iff.1 hs
  have hlt' : ((i : Int) < (l.length : Int)) = True := by simp; omega
  have hi0 : ((0 : Int) ≤ (i : Int)) = True := by simp
  have hle : ((i : Int) ≤ (l.length : Int)) = True := by simp; omega
  have ew : IntKind.i64.wrap ((i : Int) + 1) = (i : Int) + 1 := i64_in (by omega) (by omega)
  simp (config := {maxSteps := 1000000}) only [go_sem, hi0, hle, hp, dFlt, hb3, nCells, e23, hlt']
  generalize genO (AB.hget h 8) = G
  have hw : within 3 1 7 = true := rfl
  by_cases a1 : who < 0
  · simp (config := {maxSteps := 1000000}) only [go_sem, (by simp [a1] : (who < 0) = True), hR]
    exact hit 3 (by decide) (by simp [fltE, mostF, hw, (within_no (.inl a1) : within who 0 ((n.gates.length : Int) - 1) = false)])
  have a1' : (who < 0) = False := by simp [a1]
  simp (config := {maxSteps := 1000000}) only [go_sem, hi0, hle, hp, dFlt, hb3, nCells, a1']
  by_cases a2 : (n.gates.length : Int) ≤ who
  · simp (config := {maxSteps := 1000000}) only [go_sem, (by simp [a2] : ((n.gates.length : Int) ≤ who) = True), hR]
    exact hit 3 (by decide) (by simp [fltE, mostF, hw, (within_no (.inr (by omega)) : within who 0 ((n.gates.length : Int) - 1) = false)])
  have a2' : ((n.gates.length : Int) ≤ who) = False := by simp [a2]
  simp (config := {maxSteps := 1000000}) only [go_sem, hi0, hle, hp, dFlt, hb3, nCells, a2']
  have c1 : within who 0 ((n.gates.length : Int) - 1) = true := within_iff.2 (by omega)
  by_cases b1 : fr < 0
  · simp (config := {maxSteps := 1000000}) only [go_sem, (by simp [b1] : (fr < 0) = True), hR]
    exact hit 13 (by decide) (by simp [fltE, mostF, hw, c1, (within_no (.inl b1) : within fr 0 28799 = false)])
  have b1' : (fr < 0) = False := by simp [b1]
  simp (config := {maxSteps := 1000000}) only [go_sem, hi0, hle, hp, dFlt, hb3, nCells, b1']
  by_cases b2 : 28800 ≤ fr
  · simp (config := {maxSteps := 1000000}) only [go_sem, (by simp [b2] : (28800 ≤ fr) = True), hR]
    exact hit 13 (by decide) (by simp [fltE, mostF, hw, c1, (within_no (.inr (by omega)) : within fr 0 28799 = false)])
  have b2' : (28800 ≤ fr) = False := by simp [b2]
  simp (config := {maxSteps := 1000000}) only [go_sem, hi0, hle, hp, dFlt, hb3, nCells, b2']
  have c2 : within fr 0 28799 = true := within_iff.2 (by omega)
  by_cases b3 : upto ≤ fr
  · simp (config := {maxSteps := 1000000}) only [go_sem, (by simp [b3] : (upto ≤ fr) = True), hR]
    exact hit 13 (by decide) (by simp [fltE, mostF, hw, c1, c2, (within_no (.inl (by omega)) : within upto (fr + 1) 28800 = false)])
  have b3' : (upto ≤ fr) = False := by simp [b3]
  simp (config := {maxSteps := 1000000}) only [go_sem, hi0, hle, hp, dFlt, hb3, nCells, b3']
  by_cases b4 : 28800 < upto
  · simp (config := {maxSteps := 1000000}) only [go_sem, (by simp [b4] : (28800 < upto) = True), hR]
    exact hit 13 (by decide) (by simp [fltE, mostF, hw, c1, c2, (within_no (.inr b4) : within upto (fr + 1) 28800 = false)])
  have b4' : (28800 < upto) = False := by simp [b4]
  simp (config := {maxSteps := 1000000}) only [go_sem, hi0, hle, hp, dFlt, hb3, nCells, b4']
  have c3 : within upto (fr + 1) 28800 = true := within_iff.2 (by omega)
  by_cases d1 : much = 0
  rotate_left
  · simp (config := {maxSteps := 1000000}) only [go_sem, (by simp [d1] : (much = 0) = False), hR]
    exact hit 1 (by decide) (by simp [fltE, mostF, hw, c1, c2, c3, d1])
  simp (config := {maxSteps := 1000000}) only [go_sem, hi0, hle, hp, dFlt, hb3, nCells, d1]
  have hv : fltE n sets k ⟨3, who, fr, upto, much⟩ = if k.any (clash ⟨3, who, fr, upto, much⟩) = true then 8 else 0 := by simp [-List.any_eq_true, -List.any_eq_false, fltE, mostF, hw, c1, c2, c3, d1]
  refine ⟨Nat.zero_le _, g1, ?_⟩
  rw [htl]
  simp (config := {maxSteps := 1000000}) only [go_sem, List.length_map, hkl]
  refine AW_loopH [6, 11, 139, 140, 141, 142, 143, 144, 145, 146, 147, 148, 149, 150, 151, 152, 153, 154, 155, 156, 157, 158, 159, 160, 161, 162, 163, 164, 165, 166, 167, 168, 169]
    (fun (j : Nat) ρ m => ρ 139 = .int .i64 (j : Int) ∧ j ≤ i ∧ (k.take j).any (clash ⟨3, who, fr, upto, much⟩) = false ∧ ∃ h nx lv, m = ⟨h, [], nx, lv⟩ ∧ AB.hget h 3 = some (0, nCells n) ∧ AB.hget h 8 = some (G, bFlt ⟨3, who, fr, upto, much⟩)) (fun j => i - j) 0 ?_ ?_
  · simp [go_sem, bFlt, hb3, nCells, d1]
  rintro j ρ2 m ⟨e139, gj, ga, h2, nx3, lv3, rfl, hb3', hb8⟩ Q2 hN2 hR2 hX2
  by_cases hjt : j < i
  rotate_left
  · have hjt' : ((j : Int) < (i : Int)) = False := by simp; omega
    rw [List.take_of_length_le (by omega)] at ga
    simp (config := {maxSteps := 1000000}) only [go_sem, e139, hjt', hX2, hN, ew]
    refine ⟨by kernel_rfl, i + 1, ?_, by simp only; omega⟩
    simp (config := {maxSteps := 1000000}) only [go_sem]
    exact ⟨by simp, by omega, go (by rw [hv, ga]; rfl), _, _, _, rfl, hb3'⟩
  obtain ⟨t, ht⟩ : ∃ t, k[j]? = some t := ⟨_, List.getElem?_eq_getElem (by omega)⟩
  have hpt : (k.map dFlt)[j]? = some (dFlt t) := by rw [List.getElem?_map, ht]; rfl
  have hjt' : ((j : Int) < (i : Int)) = True := by simp; omega
  have h0j : ((0 : Int) ≤ (j : Int)) = True := by simp
  have ewj : IntKind.i64.wrap ((j : Int) + 1) = (j : Int) + 1 := i64_in (by omega) (by omega)
  have ha := any_pre (f := ⟨3, who, fr, upto, much⟩) ht
  rw [ga, Bool.false_or] at ha
  have on : clash ⟨3, who, fr, upto, much⟩ t = false → (k.take (j + 1)).any (clash ⟨3, who, fr, upto, much⟩) = false := fun h => by rw [ha, h]
  simp (config := {maxSteps := 1000000}) only [go_sem, e139, hjt', h0j, hpt, dFlt, hb8, bFlt]
  by_cases x1 : t.kind = 3
  rotate_left
  · simp (config := {maxSteps := 1000000}) only [go_sem, (by simp [x1] : (t.kind = 3) = False), hN2, ewj]
    refine ⟨by kernel_rfl, j + 1, ?_, by simp only; omega⟩
    simp (config := {maxSteps := 1000000}) only [go_sem]
    exact ⟨by simp, by omega, on (by simp [clash, x1]), _, _, _, rfl, by simp [go_sem, hb3'], by simp [go_sem, hb8, bFlt]⟩
  simp (config := {maxSteps := 1000000}) only [go_sem, hb8, bFlt, (by simp [x1] : (t.kind = 3) = True)]
  by_cases x2 : t.who = who
  rotate_left
  · simp (config := {maxSteps := 1000000}) only [go_sem, (by simp [x2] : (t.who = who) = False), hN2, ewj]
    refine ⟨by kernel_rfl, j + 1, ?_, by simp only; omega⟩
    simp (config := {maxSteps := 1000000}) only [go_sem]
    exact ⟨by simp, by omega, on (by simp [clash, x2]), _, _, _, rfl, by simp [go_sem, hb3'], by simp [go_sem, hb8, bFlt]⟩
  simp (config := {maxSteps := 1000000}) only [go_sem, hb8, bFlt, (by simp [x2] : (t.who = who) = True)]
  by_cases x3 : fr < t.upto
  rotate_left
  · simp (config := {maxSteps := 1000000}) only [go_sem, (by simp [x3] : (fr < t.upto) = False), hN2, ewj]
    refine ⟨by kernel_rfl, j + 1, ?_, by simp only; omega⟩
    simp (config := {maxSteps := 1000000}) only [go_sem]
    exact ⟨by simp, by omega, on (by simp [clash, x3]), _, _, _, rfl, by simp [go_sem, hb3'], by simp [go_sem, hb8, bFlt]⟩
  simp (config := {maxSteps := 1000000}) only [go_sem, hb8, bFlt, (by simp [x3] : (fr < t.upto) = True)]
  by_cases x4 : t.fr < upto
  rotate_left
  · simp (config := {maxSteps := 1000000}) only [go_sem, (by simp [x4] : (t.fr < upto) = False), hN2, ewj]
    refine ⟨by kernel_rfl, j + 1, ?_, by simp only; omega⟩
    simp (config := {maxSteps := 1000000}) only [go_sem]
    exact ⟨by simp, by omega, on (by simp [clash, x4]), _, _, _, rfl, by simp [go_sem, hb3'], by simp [go_sem, hb8, bFlt]⟩
  simp (config := {maxSteps := 1000000}) only [go_sem, hb8, bFlt, (by simp [x4] : (t.fr < upto) = True), hR2, hR]
  exact hit 8 (by decide) (by rw [hv, if_pos (List.any_eq_true.2 ⟨t, List.mem_of_getElem? ht, by simp [clash, x1, x2, x3, x4]⟩)])
end Go.Proofs.YtaieadcnhlapdaaDoor

/- FaultsError of the reference: a round at a fault of kind 4. -/
namespace Go.Proofs.YtaieadcnhlapdaaDoor
set_option linter.unusedSimpArgs false
set_option linter.unusedVariables false
open Go.AB

set_option maxRecDepth 40000 in
set_option maxHeartbeats 16000000 in
theorem r18_4 {E : Env} {n : Net} (hb : NetB n) {sets : Int} {l : List Flt} (hl : l.length ≤ 140737488351232) {k : List Flt} {i : Nat} {who fr upto much : Int} {ρ : Nat → AV} {h : List (Nat × Nat × List AV)} {nx : Nat} {lv : Nat → Prop} {Q : Exit → AS → Prop}
    (hs : within sets 0 8 = true) (g1 : i ≤ l.length) (e23 : ρ 23 = .int .i64 (i : Int)) (hb3 : AB.hget h 3 = some (0, nCells n)) (hlt : i < l.length) (hp : (l.map dFlt)[i]? = some (dFlt ⟨4, who, fr, upto, much⟩))
    (hit : ∀ v : Int, v ≠ 0 → fltE n sets k ⟨4, who, fr, upto, much⟩ = v → v = errG n sets l)
    (go : fltE n sets k ⟨4, who, fr, upto, much⟩ = 0 → firstE (atF n sets l) (l.length - (i + 1)) (i + 1) = errG n sets l)
    (htl : List.take (i - 0) (List.map dFlt l) = k.map dFlt) (hkl : k.length = i)
    (hN : ∀ σ, Q .normal σ = LoopEnd [AV.agg [AV.sl 1 (List.map DV.str n.names) Tok.no, AV.sl 7 (List.map dSect n.sects) Tok.no, AV.sl 4 (List.map dLnk n.links) Tok.no, AV.sl 2 (List.map dPair n.sigs) Tok.no, AV.sl 2 (List.map dPair n.gates) Tok.no], AV.int IntKind.i64 sets, AV.sl 5 (List.map dFlt l) Tok.no, AV.ptr (Loc.own 3 0) 0, AV.raw (Value.tuple #[]), AV.raw (Value.tuple #[]), AV.int IntKind.i64 0, AV.raw (Value.tuple #[]), AV.raw (Value.tuple #[]), AV.raw (Value.tuple #[]), AV.raw (Value.tuple #[]), AV.raw (Value.tuple #[]), AV.int IntKind.i64 sets, AV.bool false, AV.bool false, AV.int IntKind.i64 sets, AV.bool false, AV.bool false, AV.sl 5 (List.map dFlt l) Tok.no, AV.int IntKind.i64 (l.length : Int), AV.bool false, AV.sl 5 (List.map dFlt l) Tok.no, AV.int IntKind.i64 (l.length : Int), AV.int IntKind.i64 0, AV.raw (Value.tuple #[]), AV.raw (Value.tuple #[]), AV.raw (Value.tuple #[]), AV.raw (Value.tuple #[]), AV.raw (Value.tuple #[]), AV.raw (Value.tuple #[]), AV.raw (Value.tuple #[]), AV.raw (Value.tuple #[]), AV.raw (Value.tuple #[]), AV.raw (Value.tuple #[]), AV.raw (Value.tuple #[]), AV.raw (Value.tuple #[]), AV.raw (Value.tuple #[]), AV.raw (Value.tuple #[]), AV.raw (Value.tuple #[]), AV.raw (Value.tuple #[]), AV.raw (Value.tuple #[]), AV.raw (Value.tuple #[]), AV.raw (Value.tuple #[]), AV.raw (Value.tuple #[]), AV.raw (Value.tuple #[]), AV.raw (Value.tuple #[]), AV.raw (Value.tuple #[]), AV.raw (Value.tuple #[]), AV.raw (Value.tuple #[]), AV.raw (Value.tuple #[]), AV.raw (Value.tuple #[]), AV.raw (Value.tuple #[]), AV.raw (Value.tuple #[]), AV.raw (Value.tuple #[]), AV.raw (Value.tuple #[]), AV.raw (Value.tuple #[]), AV.raw (Value.tuple #[]), AV.raw (Value.tuple #[]), AV.raw (Value.tuple #[]), AV.raw (Value.tuple #[]), AV.raw (Value.tuple #[]), AV.raw (Value.tuple #[]), AV.raw (Value.tuple #[]), AV.raw (Value.tuple #[]), AV.raw (Value.tuple #[]), AV.raw (Value.tuple #[]), AV.raw (Value.tuple #[]), AV.raw (Value.tuple #[]), AV.raw (Value.tuple #[]), AV.raw (Value.tuple #[]), AV.raw (Value.tuple #[]), AV.raw (Value.tuple #[]), AV.raw (Value.tuple #[]), AV.raw (Value.tuple #[]), AV.raw (Value.tuple #[]), AV.raw (Value.tuple #[]), AV.raw (Value.tuple #[]), AV.raw (Value.tuple #[]), AV.raw (Value.tuple #[]), AV.raw (Value.tuple #[]), AV.raw (Value.tuple #[]), AV.raw (Value.tuple #[]), AV.raw (Value.tuple #[]), AV.raw (Value.tuple #[]), AV.raw (Value.tuple #[]), AV.raw (Value.tuple #[]), AV.raw (Value.tuple #[]), AV.raw (Value.tuple #[]), AV.raw (Value.tuple #[]), AV.raw (Value.tuple #[]), AV.raw (Value.tuple #[]), AV.raw (Value.tuple #[]), AV.raw (Value.tuple #[]), AV.raw (Value.tuple #[]), AV.raw (Value.tuple #[]), AV.raw (Value.tuple #[]), AV.raw (Value.tuple #[]), AV.raw (Value.tuple #[]), AV.raw (Value.tuple #[]), AV.raw (Value.tuple #[]), AV.raw (Value.tuple #[]), AV.raw (Value.tuple #[]), AV.raw (Value.tuple #[]), AV.raw (Value.tuple #[]), AV.raw (Value.tuple #[]), AV.raw (Value.tuple #[]), AV.raw (Value.tuple #[]), AV.raw (Value.tuple #[]), AV.raw (Value.tuple #[]), AV.raw (Value.tuple #[]), AV.raw (Value.tuple #[]), AV.raw (Value.tuple #[]), AV.raw (Value.tuple #[]), AV.raw (Value.tuple #[]), AV.raw (Value.tuple #[]), AV.raw (Value.tuple #[]), AV.raw (Value.tuple #[]), AV.raw (Value.tuple #[]), AV.raw (Value.tuple #[]), AV.raw (Value.tuple #[]), AV.raw (Value.tuple #[]), AV.raw (Value.tuple #[]), AV.raw (Value.tuple #[]), AV.raw (Value.tuple #[]), AV.raw (Value.tuple #[]), AV.raw (Value.tuple #[]), AV.raw (Value.tuple #[]), AV.raw (Value.tuple #[]), AV.raw (Value.tuple #[]), AV.raw (Value.tuple #[]), AV.raw (Value.tuple #[]), AV.raw (Value.tuple #[]), AV.raw (Value.tuple #[]), AV.raw (Value.tuple #[]), AV.raw (Value.tuple #[]), AV.raw (Value.tuple #[]), AV.raw (Value.tuple #[]), AV.raw (Value.tuple #[]), AV.raw (Value.tuple #[]), AV.raw (Value.tuple #[]), AV.raw (Value.tuple #[]), AV.raw (Value.tuple #[]), AV.raw (Value.tuple #[]), AV.raw (Value.tuple #[]), AV.raw (Value.tuple #[]), AV.raw (Value.tuple #[]), AV.raw (Value.tuple #[]), AV.raw (Value.tuple #[]), AV.raw (Value.tuple #[]), AV.raw (Value.tuple #[]), AV.raw (Value.tuple #[]), AV.raw (Value.tuple #[]), AV.raw (Value.tuple #[]), AV.raw (Value.tuple #[]), AV.raw (Value.tuple #[]), AV.raw (Value.tuple #[]), AV.raw (Value.tuple #[]), AV.raw (Value.tuple #[]), AV.raw (Value.tuple #[]), AV.raw (Value.tuple #[]), AV.raw (Value.tuple #[]), AV.raw (Value.tuple #[]), AV.raw (Value.tuple #[]), AV.raw (Value.tuple #[]), AV.raw (Value.tuple #[]), AV.raw (Value.tuple #[]), AV.raw (Value.tuple #[]), AV.raw (Value.tuple #[]), AV.raw (Value.tuple #[]), AV.raw (Value.tuple #[]), AV.raw (Value.tuple #[])] [6, 7, 8, 9, 11, 23, 24, 25, 26, 27, 28, 29, 30, 31, 32, 33, 34, 35, 36, 37, 38, 39, 40, 41, 42, 43, 44, 45, 46, 47, 48, 49, 50, 51, 52, 53, 54, 55, 56, 57, 58, 59, 60, 61, 62, 63, 64, 65, 66, 67, 68, 69, 70, 71, 72, 73, 74, 75, 76, 77, 78, 79, 80, 81, 82, 83, 84, 85, 86, 87, 88, 89, 90, 91, 92, 93, 94, 95, 96, 97, 98, 99, 100, 101, 102, 103, 104, 105, 106, 107, 108, 109, 110, 111, 112, 113, 114, 115, 116, 117, 118, 119, 120, 121, 122, 123, 124, 125, 126, 127, 128, 129, 130, 131, 132, 133, 134, 135, 136, 137, 138, 139, 140, 141, 142, 143, 144, 145, 146, 147, 148, 149, 150, 151, 152, 153, 154, 155, 156, 157, 158, 159, 160, 161, 162, 163, 164, 165, 166, 167, 168, 169, 170] (fun (i : Nat) (ρ : Nat → AV) (m : AH) => ρ 23 = .int .i64 (i : Int) ∧ i ≤ l.length ∧ firstE (atF n sets l) (l.length - i) i = errG n sets l ∧ ∃ h nx lv, m = ⟨h, [], nx, lv⟩ ∧ AB.hget h 3 = some (0, nCells n)) (fun (i : Nat) => l.length - i) i σ) (hR : ∀ σ, Q .ret σ = bodyQ Tryd.prog [ResultVar.tmp 6] (RV (.int .i64 (errG n sets l))) .ret σ) :
    exC Tryd.prog E c18 ⟨mask [AV.agg [AV.sl 1 (List.map DV.str n.names) Tok.no, AV.sl 7 (List.map dSect n.sects) Tok.no, AV.sl 4 (List.map dLnk n.links) Tok.no, AV.sl 2 (List.map dPair n.sigs) Tok.no, AV.sl 2 (List.map dPair n.gates) Tok.no], AV.int IntKind.i64 sets, AV.sl 5 (List.map dFlt l) Tok.no, AV.ptr (Loc.own 3 0) 0, AV.raw (Value.tuple #[]), AV.raw (Value.tuple #[]), AV.int IntKind.i64 0, AV.raw (Value.tuple #[]), AV.raw (Value.tuple #[]), AV.raw (Value.tuple #[]), AV.raw (Value.tuple #[]), AV.raw (Value.tuple #[]), AV.int IntKind.i64 sets, AV.bool false, AV.bool false, AV.int IntKind.i64 sets, AV.bool false, AV.bool false, AV.sl 5 (List.map dFlt l) Tok.no, AV.int IntKind.i64 (l.length : Int), AV.bool false, AV.sl 5 (List.map dFlt l) Tok.no, AV.int IntKind.i64 (l.length : Int), AV.int IntKind.i64 0, AV.raw (Value.tuple #[]), AV.raw (Value.tuple #[]), AV.raw (Value.tuple #[]), AV.raw (Value.tuple #[]), AV.raw (Value.tuple #[]), AV.raw (Value.tuple #[]), AV.raw (Value.tuple #[]), AV.raw (Value.tuple #[]), AV.raw (Value.tuple #[]), AV.raw (Value.tuple #[]), AV.raw (Value.tuple #[]), AV.raw (Value.tuple #[]), AV.raw (Value.tuple #[]), AV.raw (Value.tuple #[]), AV.raw (Value.tuple #[]), AV.raw (Value.tuple #[]), AV.raw (Value.tuple #[]), AV.raw (Value.tuple #[]), AV.raw (Value.tuple #[]), AV.raw (Value.tuple #[]), AV.raw (Value.tuple #[]), AV.raw (Value.tuple #[]), AV.raw (Value.tuple #[]), AV.raw (Value.tuple #[]), AV.raw (Value.tuple #[]), AV.raw (Value.tuple #[]), AV.raw (Value.tuple #[]), AV.raw (Value.tuple #[]), AV.raw (Value.tuple #[]), AV.raw (Value.tuple #[]), AV.raw (Value.tuple #[]), AV.raw (Value.tuple #[]), AV.raw (Value.tuple #[]), AV.raw (Value.tuple #[]), AV.raw (Value.tuple #[]), AV.raw (Value.tuple #[]), AV.raw (Value.tuple #[]), AV.raw (Value.tuple #[]), AV.raw (Value.tuple #[]), AV.raw (Value.tuple #[]), AV.raw (Value.tuple #[]), AV.raw (Value.tuple #[]), AV.raw (Value.tuple #[]), AV.raw (Value.tuple #[]), AV.raw (Value.tuple #[]), AV.raw (Value.tuple #[]), AV.raw (Value.tuple #[]), AV.raw (Value.tuple #[]), AV.raw (Value.tuple #[]), AV.raw (Value.tuple #[]), AV.raw (Value.tuple #[]), AV.raw (Value.tuple #[]), AV.raw (Value.tuple #[]), AV.raw (Value.tuple #[]), AV.raw (Value.tuple #[]), AV.raw (Value.tuple #[]), AV.raw (Value.tuple #[]), AV.raw (Value.tuple #[]), AV.raw (Value.tuple #[]), AV.raw (Value.tuple #[]), AV.raw (Value.tuple #[]), AV.raw (Value.tuple #[]), AV.raw (Value.tuple #[]), AV.raw (Value.tuple #[]), AV.raw (Value.tuple #[]), AV.raw (Value.tuple #[]), AV.raw (Value.tuple #[]), AV.raw (Value.tuple #[]), AV.raw (Value.tuple #[]), AV.raw (Value.tuple #[]), AV.raw (Value.tuple #[]), AV.raw (Value.tuple #[]), AV.raw (Value.tuple #[]), AV.raw (Value.tuple #[]), AV.raw (Value.tuple #[]), AV.raw (Value.tuple #[]), AV.raw (Value.tuple #[]), AV.raw (Value.tuple #[]), AV.raw (Value.tuple #[]), AV.raw (Value.tuple #[]), AV.raw (Value.tuple #[]), AV.raw (Value.tuple #[]), AV.raw (Value.tuple #[]), AV.raw (Value.tuple #[]), AV.raw (Value.tuple #[]), AV.raw (Value.tuple #[]), AV.raw (Value.tuple #[]), AV.raw (Value.tuple #[]), AV.raw (Value.tuple #[]), AV.raw (Value.tuple #[]), AV.raw (Value.tuple #[]), AV.raw (Value.tuple #[]), AV.raw (Value.tuple #[]), AV.raw (Value.tuple #[]), AV.raw (Value.tuple #[]), AV.raw (Value.tuple #[]), AV.raw (Value.tuple #[]), AV.raw (Value.tuple #[]), AV.raw (Value.tuple #[]), AV.raw (Value.tuple #[]), AV.raw (Value.tuple #[]), AV.raw (Value.tuple #[]), AV.raw (Value.tuple #[]), AV.raw (Value.tuple #[]), AV.raw (Value.tuple #[]), AV.raw (Value.tuple #[]), AV.raw (Value.tuple #[]), AV.raw (Value.tuple #[]), AV.raw (Value.tuple #[]), AV.raw (Value.tuple #[]), AV.raw (Value.tuple #[]), AV.raw (Value.tuple #[]), AV.raw (Value.tuple #[]), AV.raw (Value.tuple #[]), AV.raw (Value.tuple #[]), AV.raw (Value.tuple #[]), AV.raw (Value.tuple #[]), AV.raw (Value.tuple #[]), AV.raw (Value.tuple #[]), AV.raw (Value.tuple #[]), AV.raw (Value.tuple #[]), AV.raw (Value.tuple #[]), AV.raw (Value.tuple #[]), AV.raw (Value.tuple #[]), AV.raw (Value.tuple #[]), AV.raw (Value.tuple #[]), AV.raw (Value.tuple #[]), AV.raw (Value.tuple #[]), AV.raw (Value.tuple #[]), AV.raw (Value.tuple #[]), AV.raw (Value.tuple #[]), AV.raw (Value.tuple #[]), AV.raw (Value.tuple #[]), AV.raw (Value.tuple #[]), AV.raw (Value.tuple #[]), AV.raw (Value.tuple #[]), AV.raw (Value.tuple #[]), AV.raw (Value.tuple #[]), AV.raw (Value.tuple #[]), AV.raw (Value.tuple #[]), AV.raw (Value.tuple #[]), AV.raw (Value.tuple #[]), AV.raw (Value.tuple #[]), AV.raw (Value.tuple #[]), AV.raw (Value.tuple #[]), AV.raw (Value.tuple #[]), AV.raw (Value.tuple #[])] [6, 7, 8, 9, 11, 23, 24, 25, 26, 27, 28, 29, 30, 31, 32, 33, 34, 35, 36, 37, 38, 39, 40, 41, 42, 43, 44, 45, 46, 47, 48, 49, 50, 51, 52, 53, 54, 55, 56, 57, 58, 59, 60, 61, 62, 63, 64, 65, 66, 67, 68, 69, 70, 71, 72, 73, 74, 75, 76, 77, 78, 79, 80, 81, 82, 83, 84, 85, 86, 87, 88, 89, 90, 91, 92, 93, 94, 95, 96, 97, 98, 99, 100, 101, 102, 103, 104, 105, 106, 107, 108, 109, 110, 111, 112, 113, 114, 115, 116, 117, 118, 119, 120, 121, 122, 123, 124, 125, 126, 127, 128, 129, 130, 131, 132, 133, 134, 135, 136, 137, 138, 139, 140, 141, 142, 143, 144, 145, 146, 147, 148, 149, 150, 151, 152, 153, 154, 155, 156, 157, 158, 159, 160, 161, 162, 163, 164, 165, 166, 167, 168, 169, 170] ρ, ⟨h, [], nx, lv⟩⟩ Q := by
  conv => arg 3; whnf
  have hsc := hb.sc
  have hgt := hb.gt
  have hsw := within_iff.1 hs
  have hlt' : ((i : Int) < (l.length : Int)) = True := by simp; omega
  have hi0 : ((0 : Int) ≤ (i : Int)) = True := by simp
  have hle : ((i : Int) ≤ (l.length : Int)) = True := by simp; omega
  have ew : IntKind.i64.wrap ((i : Int) + 1) = (i : Int) + 1 := i64_in (by omega) (by omega)
  simp (config := {maxSteps := 1000000}) only [go_sem, hi0, hle, hp, dFlt, e23, hlt']
  generalize genO (AB.hget h 8) = G
  have hw : within 4 1 7 = true := rfl
  by_cases a1 : who < 0
  · simp (config := {maxSteps := 1000000}) only [go_sem, (by simp [a1] : (who < 0) = True), hR]
    exact hit 3 (by decide) (by simp [fltE, mostF, hw, (within_no (.inl a1) : within who 0 (sets - 1) = false)])
  have a1' : (who < 0) = False := by simp [a1]
  simp (config := {maxSteps := 1000000}) only [go_sem, hi0, hle, hp, dFlt, a1']
  by_cases a2 : sets ≤ who
  · simp (config := {maxSteps := 1000000}) only [go_sem, (by simp [a2] : (sets ≤ who) = True), hR]
    exact hit 3 (by decide) (by simp [fltE, mostF, hw, (within_no (.inr (by omega)) : within who 0 (sets - 1) = false)])
  have a2' : (sets ≤ who) = False := by simp [a2]
  simp (config := {maxSteps := 1000000}) only [go_sem, hi0, hle, hp, dFlt, a2']
  have c1 : within who 0 (sets - 1) = true := within_iff.2 (by omega)
  by_cases b1 : fr < 0
  · simp (config := {maxSteps := 1000000}) only [go_sem, (by simp [b1] : (fr < 0) = True), hR]
    exact hit 13 (by decide) (by simp [fltE, mostF, hw, c1, (within_no (.inl b1) : within fr 0 28799 = false)])
  have b1' : (fr < 0) = False := by simp [b1]
  simp (config := {maxSteps := 1000000}) only [go_sem, hi0, hle, hp, dFlt, b1']
  by_cases b2 : 28800 ≤ fr
  · simp (config := {maxSteps := 1000000}) only [go_sem, (by simp [b2] : (28800 ≤ fr) = True), hR]
    exact hit 13 (by decide) (by simp [fltE, mostF, hw, c1, (within_no (.inr (by omega)) : within fr 0 28799 = false)])
  have b2' : (28800 ≤ fr) = False := by simp [b2]
  simp (config := {maxSteps := 1000000}) only [go_sem, hi0, hle, hp, dFlt, b2']
  have c2 : within fr 0 28799 = true := within_iff.2 (by omega)
  by_cases b3 : upto ≤ fr
  · simp (config := {maxSteps := 1000000}) only [go_sem, (by simp [b3] : (upto ≤ fr) = True), hR]
    exact hit 13 (by decide) (by simp [fltE, mostF, hw, c1, c2, (within_no (.inl (by omega)) : within upto (fr + 1) 28800 = false)])
  have b3' : (upto ≤ fr) = False := by simp [b3]
  simp (config := {maxSteps := 1000000}) only [go_sem, hi0, hle, hp, dFlt, b3']
  by_cases b4 : 28800 < upto
  · simp (config := {maxSteps := 1000000}) only [go_sem, (by simp [b4] : (28800 < upto) = True), hR]
    exact hit 13 (by decide) (by simp [fltE, mostF, hw, c1, c2, (within_no (.inr b4) : within upto (fr + 1) 28800 = false)])
  have b4' : (28800 < upto) = False := by simp [b4]
  simp (config := {maxSteps := 1000000}) only [go_sem, hi0, hle, hp, dFlt, b4']
  have c3 : within upto (fr + 1) 28800 = true := within_iff.2 (by omega)
  by_cases d1 : much = 0
  rotate_left
  · simp (config := {maxSteps := 1000000}) only [go_sem, (by simp [d1] : (much = 0) = False), hR]
    exact hit 1 (by decide) (by simp [fltE, mostF, hw, c1, c2, c3, d1])
  simp (config := {maxSteps := 1000000}) only [go_sem, hi0, hle, hp, dFlt, d1]
  have hv : fltE n sets k ⟨4, who, fr, upto, much⟩ = if k.any (clash ⟨4, who, fr, upto, much⟩) = true then 8 else 0 := by simp [-List.any_eq_true, -List.any_eq_false, fltE, mostF, hw, c1, c2, c3, d1]
  refine ⟨Nat.zero_le _, g1, ?_⟩
  rw [htl]
  simp (config := {maxSteps := 1000000}) only [go_sem, List.length_map, hkl]
  refine AW_loopH [6, 11, 139, 140, 141, 142, 143, 144, 145, 146, 147, 148, 149, 150, 151, 152, 153, 154, 155, 156, 157, 158, 159, 160, 161, 162, 163, 164, 165, 166, 167, 168, 169]
    (fun (j : Nat) ρ m => ρ 139 = .int .i64 (j : Int) ∧ j ≤ i ∧ (k.take j).any (clash ⟨4, who, fr, upto, much⟩) = false ∧ ∃ h nx lv, m = ⟨h, [], nx, lv⟩ ∧ AB.hget h 3 = some (0, nCells n) ∧ AB.hget h 8 = some (G, bFlt ⟨4, who, fr, upto, much⟩)) (fun j => i - j) 0 ?_ ?_
  · simp [go_sem, bFlt, hb3, nCells, d1]
  rintro j ρ2 m ⟨e139, gj, ga, h2, nx3, lv3, rfl, hb3', hb8⟩ Q2 hN2 hR2 hX2
  by_cases hjt : j < i
  rotate_left
  · have hjt' : ((j : Int) < (i : Int)) = False := by simp; omega
    rw [List.take_of_length_le (by omega)] at ga
    simp (config := {maxSteps := 1000000}) only [go_sem, e139, hjt', hX2, hN, ew]
    refine ⟨by kernel_rfl, i + 1, ?_, by simp only; omega⟩
    simp (config := {maxSteps := 1000000}) only [go_sem]
    exact ⟨by simp, by omega, go (by rw [hv, ga]; rfl), _, _, _, rfl, hb3'⟩
  obtain ⟨t, ht⟩ : ∃ t, k[j]? = some t := ⟨_, List.getElem?_eq_getElem (by omega)⟩
  have hpt : (k.map dFlt)[j]? = some (dFlt t) := by rw [List.getElem?_map, ht]; rfl
  have hjt' : ((j : Int) < (i : Int)) = True := by simp; omega
  have h0j : ((0 : Int) ≤ (j : Int)) = True := by simp
  have ewj : IntKind.i64.wrap ((j : Int) + 1) = (j : Int) + 1 := i64_in (by omega) (by omega)
  have ha := any_pre (f := ⟨4, who, fr, upto, much⟩) ht
  rw [ga, Bool.false_or] at ha
  have on : clash ⟨4, who, fr, upto, much⟩ t = false → (k.take (j + 1)).any (clash ⟨4, who, fr, upto, much⟩) = false := fun h => by rw [ha, h]
  simp (config := {maxSteps := 1000000}) only [go_sem, e139, hjt', h0j, hpt, dFlt, hb8, bFlt]
  by_cases x1 : t.kind = 4
  rotate_left
  · simp (config := {maxSteps := 1000000}) only [go_sem, (by simp [x1] : (t.kind = 4) = False), hN2, ewj]
    refine ⟨by kernel_rfl, j + 1, ?_, by simp only; omega⟩
    simp (config := {maxSteps := 1000000}) only [go_sem]
    exact ⟨by simp, by omega, on (by simp [clash, x1]), _, _, _, rfl, by simp [go_sem, hb3'], by simp [go_sem, hb8, bFlt]⟩
  simp (config := {maxSteps := 1000000}) only [go_sem, hb8, bFlt, (by simp [x1] : (t.kind = 4) = True)]
  by_cases x2 : t.who = who
  rotate_left
  · simp (config := {maxSteps := 1000000}) only [go_sem, (by simp [x2] : (t.who = who) = False), hN2, ewj]
    refine ⟨by kernel_rfl, j + 1, ?_, by simp only; omega⟩
    simp (config := {maxSteps := 1000000}) only [go_sem]
    exact ⟨by simp, by omega, on (by simp [clash, x2]), _, _, _, rfl, by simp [go_sem, hb3'], by simp [go_sem, hb8, bFlt]⟩
  simp (config := {maxSteps := 1000000}) only [go_sem, hb8, bFlt, (by simp [x2] : (t.who = who) = True)]
  by_cases x3 : fr < t.upto
  rotate_left
  · simp (config := {maxSteps := 1000000}) only [go_sem, (by simp [x3] : (fr < t.upto) = False), hN2, ewj]
    refine ⟨by kernel_rfl, j + 1, ?_, by simp only; omega⟩
    simp (config := {maxSteps := 1000000}) only [go_sem]
    exact ⟨by simp, by omega, on (by simp [clash, x3]), _, _, _, rfl, by simp [go_sem, hb3'], by simp [go_sem, hb8, bFlt]⟩
  simp (config := {maxSteps := 1000000}) only [go_sem, hb8, bFlt, (by simp [x3] : (fr < t.upto) = True)]
  by_cases x4 : t.fr < upto
  rotate_left
  · simp (config := {maxSteps := 1000000}) only [go_sem, (by simp [x4] : (t.fr < upto) = False), hN2, ewj]
    refine ⟨by kernel_rfl, j + 1, ?_, by simp only; omega⟩
    simp (config := {maxSteps := 1000000}) only [go_sem]
    exact ⟨by simp, by omega, on (by simp [clash, x4]), _, _, _, rfl, by simp [go_sem, hb3'], by simp [go_sem, hb8, bFlt]⟩
  simp (config := {maxSteps := 1000000}) only [go_sem, hb8, bFlt, (by simp [x4] : (t.fr < upto) = True), hR2, hR]
  exact hit 8 (by decide) (by rw [hv, if_pos (List.any_eq_true.2 ⟨t, List.mem_of_getElem? ht, by simp [clash, x1, x2, x3, x4]⟩)])
end Go.Proofs.YtaieadcnhlapdaaDoor

/- FaultsError of the reference: a round at a fault of kind 5. -/
namespace Go.Proofs.YtaieadcnhlapdaaDoor
set_option linter.unusedSimpArgs false
set_option linter.unusedVariables false
open Go.AB

set_option maxRecDepth 40000 in
set_option maxHeartbeats 16000000 in
theorem r18_5 {E : Env} {n : Net} (hb : NetB n) {sets : Int} {l : List Flt} (hl : l.length ≤ 140737488351232) {k : List Flt} {i : Nat} {who fr upto much : Int} {ρ : Nat → AV} {h : List (Nat × Nat × List AV)} {nx : Nat} {lv : Nat → Prop} {Q : Exit → AS → Prop}
    (hs : within sets 0 8 = true) (g1 : i ≤ l.length) (e23 : ρ 23 = .int .i64 (i : Int)) (hb3 : AB.hget h 3 = some (0, nCells n)) (hlt : i < l.length) (hp : (l.map dFlt)[i]? = some (dFlt ⟨5, who, fr, upto, much⟩))
    (hit : ∀ v : Int, v ≠ 0 → fltE n sets k ⟨5, who, fr, upto, much⟩ = v → v = errG n sets l)
    (go : fltE n sets k ⟨5, who, fr, upto, much⟩ = 0 → firstE (atF n sets l) (l.length - (i + 1)) (i + 1) = errG n sets l)
    (htl : List.take (i - 0) (List.map dFlt l) = k.map dFlt) (hkl : k.length = i)
    (hN : ∀ σ, Q .normal σ = LoopEnd [AV.agg [AV.sl 1 (List.map DV.str n.names) Tok.no, AV.sl 7 (List.map dSect n.sects) Tok.no, AV.sl 4 (List.map dLnk n.links) Tok.no, AV.sl 2 (List.map dPair n.sigs) Tok.no, AV.sl 2 (List.map dPair n.gates) Tok.no], AV.int IntKind.i64 sets, AV.sl 5 (List.map dFlt l) Tok.no, AV.ptr (Loc.own 3 0) 0, AV.raw (Value.tuple #[]), AV.raw (Value.tuple #[]), AV.int IntKind.i64 0, AV.raw (Value.tuple #[]), AV.raw (Value.tuple #[]), AV.raw (Value.tuple #[]), AV.raw (Value.tuple #[]), AV.raw (Value.tuple #[]), AV.int IntKind.i64 sets, AV.bool false, AV.bool false, AV.int IntKind.i64 sets, AV.bool false, AV.bool false, AV.sl 5 (List.map dFlt l) Tok.no, AV.int IntKind.i64 (l.length : Int), AV.bool false, AV.sl 5 (List.map dFlt l) Tok.no, AV.int IntKind.i64 (l.length : Int), AV.int IntKind.i64 0, AV.raw (Value.tuple #[]), AV.raw (Value.tuple #[]), AV.raw (Value.tuple #[]), AV.raw (Value.tuple #[]), AV.raw (Value.tuple #[]), AV.raw (Value.tuple #[]), AV.raw (Value.tuple #[]), AV.raw (Value.tuple #[]), AV.raw (Value.tuple #[]), AV.raw (Value.tuple #[]), AV.raw (Value.tuple #[]), AV.raw (Value.tuple #[]), AV.raw (Value.tuple #[]), AV.raw (Value.tuple #[]), AV.raw (Value.tuple #[]), AV.raw (Value.tuple #[]), AV.raw (Value.tuple #[]), AV.raw (Value.tuple #[]), AV.raw (Value.tuple #[]), AV.raw (Value.tuple #[]), AV.raw (Value.tuple #[]), AV.raw (Value.tuple #[]), AV.raw (Value.tuple #[]), AV.raw (Value.tuple #[]), AV.raw (Value.tuple #[]), AV.raw (Value.tuple #[]), AV.raw (Value.tuple #[]), AV.raw (Value.tuple #[]), AV.raw (Value.tuple #[]), AV.raw (Value.tuple #[]), AV.raw (Value.tuple #[]), AV.raw (Value.tuple #[]), AV.raw (Value.tuple #[]), AV.raw (Value.tuple #[]), AV.raw (Value.tuple #[]), AV.raw (Value.tuple #[]), AV.raw (Value.tuple #[]), AV.raw (Value.tuple #[]), AV.raw (Value.tuple #[]), AV.raw (Value.tuple #[]), AV.raw (Value.tuple #[]), AV.raw (Value.tuple #[]), AV.raw (Value.tuple #[]), AV.raw (Value.tuple #[]), AV.raw (Value.tuple #[]), AV.raw (Value.tuple #[]), AV.raw (Value.tuple #[]), AV.raw (Value.tuple #[]), AV.raw (Value.tuple #[]), AV.raw (Value.tuple #[]), AV.raw (Value.tuple #[]), AV.raw (Value.tuple #[]), AV.raw (Value.tuple #[]), AV.raw (Value.tuple #[]), AV.raw (Value.tuple #[]), AV.raw (Value.tuple #[]), AV.raw (Value.tuple #[]), AV.raw (Value.tuple #[]), AV.raw (Value.tuple #[]), AV.raw (Value.tuple #[]), AV.raw (Value.tuple #[]), AV.raw (Value.tuple #[]), AV.raw (Value.tuple #[]), AV.raw (Value.tuple #[]), AV.raw (Value.tuple #[]), AV.raw (Value.tuple #[]), AV.raw (Value.tuple #[]), AV.raw (Value.tuple #[]), AV.raw (Value.tuple #[]), AV.raw (Value.tuple #[]), AV.raw (Value.tuple #[]), AV.raw (Value.tuple #[]), AV.raw (Value.tuple #[]), AV.raw (Value.tuple #[]), AV.raw (Value.tuple #[]), AV.raw (Value.tuple #[]), AV.raw (Value.tuple #[]), AV.raw (Value.tuple #[]), AV.raw (Value.tuple #[]), AV.raw (Value.tuple #[]), AV.raw (Value.tuple #[]), AV.raw (Value.tuple #[]), AV.raw (Value.tuple #[]), AV.raw (Value.tuple #[]), AV.raw (Value.tuple #[]), AV.raw (Value.tuple #[]), AV.raw (Value.tuple #[]), AV.raw (Value.tuple #[]), AV.raw (Value.tuple #[]), AV.raw (Value.tuple #[]), AV.raw (Value.tuple #[]), AV.raw (Value.tuple #[]), AV.raw (Value.tuple #[]), AV.raw (Value.tuple #[]), AV.raw (Value.tuple #[]), AV.raw (Value.tuple #[]), AV.raw (Value.tuple #[]), AV.raw (Value.tuple #[]), AV.raw (Value.tuple #[]), AV.raw (Value.tuple #[]), AV.raw (Value.tuple #[]), AV.raw (Value.tuple #[]), AV.raw (Value.tuple #[]), AV.raw (Value.tuple #[]), AV.raw (Value.tuple #[]), AV.raw (Value.tuple #[]), AV.raw (Value.tuple #[]), AV.raw (Value.tuple #[]), AV.raw (Value.tuple #[]), AV.raw (Value.tuple #[]), AV.raw (Value.tuple #[]), AV.raw (Value.tuple #[]), AV.raw (Value.tuple #[]), AV.raw (Value.tuple #[]), AV.raw (Value.tuple #[]), AV.raw (Value.tuple #[]), AV.raw (Value.tuple #[]), AV.raw (Value.tuple #[]), AV.raw (Value.tuple #[]), AV.raw (Value.tuple #[]), AV.raw (Value.tuple #[]), AV.raw (Value.tuple #[]), AV.raw (Value.tuple #[]), AV.raw (Value.tuple #[]), AV.raw (Value.tuple #[]), AV.raw (Value.tuple #[]), AV.raw (Value.tuple #[]), AV.raw (Value.tuple #[]), AV.raw (Value.tuple #[]), AV.raw (Value.tuple #[]), AV.raw (Value.tuple #[]), AV.raw (Value.tuple #[]), AV.raw (Value.tuple #[]), AV.raw (Value.tuple #[]), AV.raw (Value.tuple #[]), AV.raw (Value.tuple #[]), AV.raw (Value.tuple #[]), AV.raw (Value.tuple #[]), AV.raw (Value.tuple #[]), AV.raw (Value.tuple #[]), AV.raw (Value.tuple #[]), AV.raw (Value.tuple #[]), AV.raw (Value.tuple #[]), AV.raw (Value.tuple #[]), AV.raw (Value.tuple #[]), AV.raw (Value.tuple #[]), AV.raw (Value.tuple #[])] [6, 7, 8, 9, 11, 23, 24, 25, 26, 27, 28, 29, 30, 31, 32, 33, 34, 35, 36, 37, 38, 39, 40, 41, 42, 43, 44, 45, 46, 47, 48, 49, 50, 51, 52, 53, 54, 55, 56, 57, 58, 59, 60, 61, 62, 63, 64, 65, 66, 67, 68, 69, 70, 71, 72, 73, 74, 75, 76, 77, 78, 79, 80, 81, 82, 83, 84, 85, 86, 87, 88, 89, 90, 91, 92, 93, 94, 95, 96, 97, 98, 99, 100, 101, 102, 103, 104, 105, 106, 107, 108, 109, 110, 111, 112, 113, 114, 115, 116, 117, 118, 119, 120, 121, 122, 123, 124, 125, 126, 127, 128, 129, 130, 131, 132, 133, 134, 135, 136, 137, 138, 139, 140, 141, 142, 143, 144, 145, 146, 147, 148, 149, 150, 151, 152, 153, 154, 155, 156, 157, 158, 159, 160, 161, 162, 163, 164, 165, 166, 167, 168, 169, 170] (fun (i : Nat) (ρ : Nat → AV) (m : AH) => ρ 23 = .int .i64 (i : Int) ∧ i ≤ l.length ∧ firstE (atF n sets l) (l.length - i) i = errG n sets l ∧ ∃ h nx lv, m = ⟨h, [], nx, lv⟩ ∧ AB.hget h 3 = some (0, nCells n)) (fun (i : Nat) => l.length - i) i σ) (hR : ∀ σ, Q .ret σ = bodyQ Tryd.prog [ResultVar.tmp 6] (RV (.int .i64 (errG n sets l))) .ret σ) :
    exC Tryd.prog E c18 ⟨mask [AV.agg [AV.sl 1 (List.map DV.str n.names) Tok.no, AV.sl 7 (List.map dSect n.sects) Tok.no, AV.sl 4 (List.map dLnk n.links) Tok.no, AV.sl 2 (List.map dPair n.sigs) Tok.no, AV.sl 2 (List.map dPair n.gates) Tok.no], AV.int IntKind.i64 sets, AV.sl 5 (List.map dFlt l) Tok.no, AV.ptr (Loc.own 3 0) 0, AV.raw (Value.tuple #[]), AV.raw (Value.tuple #[]), AV.int IntKind.i64 0, AV.raw (Value.tuple #[]), AV.raw (Value.tuple #[]), AV.raw (Value.tuple #[]), AV.raw (Value.tuple #[]), AV.raw (Value.tuple #[]), AV.int IntKind.i64 sets, AV.bool false, AV.bool false, AV.int IntKind.i64 sets, AV.bool false, AV.bool false, AV.sl 5 (List.map dFlt l) Tok.no, AV.int IntKind.i64 (l.length : Int), AV.bool false, AV.sl 5 (List.map dFlt l) Tok.no, AV.int IntKind.i64 (l.length : Int), AV.int IntKind.i64 0, AV.raw (Value.tuple #[]), AV.raw (Value.tuple #[]), AV.raw (Value.tuple #[]), AV.raw (Value.tuple #[]), AV.raw (Value.tuple #[]), AV.raw (Value.tuple #[]), AV.raw (Value.tuple #[]), AV.raw (Value.tuple #[]), AV.raw (Value.tuple #[]), AV.raw (Value.tuple #[]), AV.raw (Value.tuple #[]), AV.raw (Value.tuple #[]), AV.raw (Value.tuple #[]), AV.raw (Value.tuple #[]), AV.raw (Value.tuple #[]), AV.raw (Value.tuple #[]), AV.raw (Value.tuple #[]), AV.raw (Value.tuple #[]), AV.raw (Value.tuple #[]), AV.raw (Value.tuple #[]), AV.raw (Value.tuple #[]), AV.raw (Value.tuple #[]), AV.raw (Value.tuple #[]), AV.raw (Value.tuple #[]), AV.raw (Value.tuple #[]), AV.raw (Value.tuple #[]), AV.raw (Value.tuple #[]), AV.raw (Value.tuple #[]), AV.raw (Value.tuple #[]), AV.raw (Value.tuple #[]), AV.raw (Value.tuple #[]), AV.raw (Value.tuple #[]), AV.raw (Value.tuple #[]), AV.raw (Value.tuple #[]), AV.raw (Value.tuple #[]), AV.raw (Value.tuple #[]), AV.raw (Value.tuple #[]), AV.raw (Value.tuple #[]), AV.raw (Value.tuple #[]), AV.raw (Value.tuple #[]), AV.raw (Value.tuple #[]), AV.raw (Value.tuple #[]), AV.raw (Value.tuple #[]), AV.raw (Value.tuple #[]), AV.raw (Value.tuple #[]), AV.raw (Value.tuple #[]), AV.raw (Value.tuple #[]), AV.raw (Value.tuple #[]), AV.raw (Value.tuple #[]), AV.raw (Value.tuple #[]), AV.raw (Value.tuple #[]), AV.raw (Value.tuple #[]), AV.raw (Value.tuple #[]), AV.raw (Value.tuple #[]), AV.raw (Value.tuple #[]), AV.raw (Value.tuple #[]), AV.raw (Value.tuple #[]), AV.raw (Value.tuple #[]), AV.raw (Value.tuple #[]), AV.raw (Value.tuple #[]), AV.raw (Value.tuple #[]), AV.raw (Value.tuple #[]), AV.raw (Value.tuple #[]), AV.raw (Value.tuple #[]), AV.raw (Value.tuple #[]), AV.raw (Value.tuple #[]), AV.raw (Value.tuple #[]), AV.raw (Value.tuple #[]), AV.raw (Value.tuple #[]), AV.raw (Value.tuple #[]), AV.raw (Value.tuple #[]), AV.raw (Value.tuple #[]), AV.raw (Value.tuple #[]), AV.raw (Value.tuple #[]), AV.raw (Value.tuple #[]), AV.raw (Value.tuple #[]), AV.raw (Value.tuple #[]), AV.raw (Value.tuple #[]), AV.raw (Value.tuple #[]), AV.raw (Value.tuple #[]), AV.raw (Value.tuple #[]), AV.raw (Value.tuple #[]), AV.raw (Value.tuple #[]), AV.raw (Value.tuple #[]), AV.raw (Value.tuple #[]), AV.raw (Value.tuple #[]), AV.raw (Value.tuple #[]), AV.raw (Value.tuple #[]), AV.raw (Value.tuple #[]), AV.raw (Value.tuple #[]), AV.raw (Value.tuple #[]), AV.raw (Value.tuple #[]), AV.raw (Value.tuple #[]), AV.raw (Value.tuple #[]), AV.raw (Value.tuple #[]), AV.raw (Value.tuple #[]), AV.raw (Value.tuple #[]), AV.raw (Value.tuple #[]), AV.raw (Value.tuple #[]), AV.raw (Value.tuple #[]), AV.raw (Value.tuple #[]), AV.raw (Value.tuple #[]), AV.raw (Value.tuple #[]), AV.raw (Value.tuple #[]), AV.raw (Value.tuple #[]), AV.raw (Value.tuple #[]), AV.raw (Value.tuple #[]), AV.raw (Value.tuple #[]), AV.raw (Value.tuple #[]), AV.raw (Value.tuple #[]), AV.raw (Value.tuple #[]), AV.raw (Value.tuple #[]), AV.raw (Value.tuple #[]), AV.raw (Value.tuple #[]), AV.raw (Value.tuple #[]), AV.raw (Value.tuple #[]), AV.raw (Value.tuple #[]), AV.raw (Value.tuple #[]), AV.raw (Value.tuple #[]), AV.raw (Value.tuple #[]), AV.raw (Value.tuple #[]), AV.raw (Value.tuple #[]), AV.raw (Value.tuple #[]), AV.raw (Value.tuple #[]), AV.raw (Value.tuple #[]), AV.raw (Value.tuple #[]), AV.raw (Value.tuple #[]), AV.raw (Value.tuple #[]), AV.raw (Value.tuple #[]), AV.raw (Value.tuple #[]), AV.raw (Value.tuple #[]), AV.raw (Value.tuple #[]), AV.raw (Value.tuple #[]), AV.raw (Value.tuple #[]), AV.raw (Value.tuple #[]), AV.raw (Value.tuple #[]), AV.raw (Value.tuple #[]), AV.raw (Value.tuple #[]), AV.raw (Value.tuple #[]), AV.raw (Value.tuple #[]), AV.raw (Value.tuple #[]), AV.raw (Value.tuple #[]), AV.raw (Value.tuple #[]), AV.raw (Value.tuple #[]), AV.raw (Value.tuple #[]), AV.raw (Value.tuple #[]), AV.raw (Value.tuple #[])] [6, 7, 8, 9, 11, 23, 24, 25, 26, 27, 28, 29, 30, 31, 32, 33, 34, 35, 36, 37, 38, 39, 40, 41, 42, 43, 44, 45, 46, 47, 48, 49, 50, 51, 52, 53, 54, 55, 56, 57, 58, 59, 60, 61, 62, 63, 64, 65, 66, 67, 68, 69, 70, 71, 72, 73, 74, 75, 76, 77, 78, 79, 80, 81, 82, 83, 84, 85, 86, 87, 88, 89, 90, 91, 92, 93, 94, 95, 96, 97, 98, 99, 100, 101, 102, 103, 104, 105, 106, 107, 108, 109, 110, 111, 112, 113, 114, 115, 116, 117, 118, 119, 120, 121, 122, 123, 124, 125, 126, 127, 128, 129, 130, 131, 132, 133, 134, 135, 136, 137, 138, 139, 140, 141, 142, 143, 144, 145, 146, 147, 148, 149, 150, 151, 152, 153, 154, 155, 156, 157, 158, 159, 160, 161, 162, 163, 164, 165, 166, 167, 168, 169, 170] ρ, ⟨h, [], nx, lv⟩⟩ Q := by
  conv => arg 3; whnf
  have hsc := hb.sc
  have hgt := hb.gt
  have hsw := within_iff.1 hs
  have hlt' : ((i : Int) < (l.length : Int)) = True := by simp; omega
  have hi0 : ((0 : Int) ≤ (i : Int)) = True := by simp
  have hle : ((i : Int) ≤ (l.length : Int)) = True := by simp; omega
  have ew : IntKind.i64.wrap ((i : Int) + 1) = (i : Int) + 1 := i64_in (by omega) (by omega)
  simp (config := {maxSteps := 1000000}) only [go_sem, hi0, hle, hp, dFlt, e23, hlt']
  generalize genO (AB.hget h 8) = G
  have hw : within 5 1 7 = true := rfl
  by_cases a1 : who < 0
  · simp (config := {maxSteps := 1000000}) only [go_sem, (by simp [a1] : (who < 0) = True), hR]
    exact hit 3 (by decide) (by simp [fltE, mostF, hw, (within_no (.inl a1) : within who 0 (sets - 1) = false)])
  have a1' : (who < 0) = False := by simp [a1]
  simp (config := {maxSteps := 1000000}) only [go_sem, hi0, hle, hp, dFlt, a1']
  by_cases a2 : sets ≤ who
  · simp (config := {maxSteps := 1000000}) only [go_sem, (by simp [a2] : (sets ≤ who) = True), hR]
    exact hit 3 (by decide) (by simp [fltE, mostF, hw, (within_no (.inr (by omega)) : within who 0 (sets - 1) = false)])
  have a2' : (sets ≤ who) = False := by simp [a2]
  simp (config := {maxSteps := 1000000}) only [go_sem, hi0, hle, hp, dFlt, a2']
  have c1 : within who 0 (sets - 1) = true := within_iff.2 (by omega)
  by_cases b1 : fr < 0
  · simp (config := {maxSteps := 1000000}) only [go_sem, (by simp [b1] : (fr < 0) = True), hR]
    exact hit 13 (by decide) (by simp [fltE, mostF, hw, c1, (within_no (.inl b1) : within fr 0 28799 = false)])
  have b1' : (fr < 0) = False := by simp [b1]
  simp (config := {maxSteps := 1000000}) only [go_sem, hi0, hle, hp, dFlt, b1']
  by_cases b2 : 28800 ≤ fr
  · simp (config := {maxSteps := 1000000}) only [go_sem, (by simp [b2] : (28800 ≤ fr) = True), hR]
    exact hit 13 (by decide) (by simp [fltE, mostF, hw, c1, (within_no (.inr (by omega)) : within fr 0 28799 = false)])
  have b2' : (28800 ≤ fr) = False := by simp [b2]
  simp (config := {maxSteps := 1000000}) only [go_sem, hi0, hle, hp, dFlt, b2']
  have c2 : within fr 0 28799 = true := within_iff.2 (by omega)
  by_cases b3 : upto ≤ fr
  · simp (config := {maxSteps := 1000000}) only [go_sem, (by simp [b3] : (upto ≤ fr) = True), hR]
    exact hit 13 (by decide) (by simp [fltE, mostF, hw, c1, c2, (within_no (.inl (by omega)) : within upto (fr + 1) 28800 = false)])
  have b3' : (upto ≤ fr) = False := by simp [b3]
  simp (config := {maxSteps := 1000000}) only [go_sem, hi0, hle, hp, dFlt, b3']
  by_cases b4 : 28800 < upto
  · simp (config := {maxSteps := 1000000}) only [go_sem, (by simp [b4] : (28800 < upto) = True), hR]
    exact hit 13 (by decide) (by simp [fltE, mostF, hw, c1, c2, (within_no (.inr b4) : within upto (fr + 1) 28800 = false)])
  have b4' : (28800 < upto) = False := by simp [b4]
  simp (config := {maxSteps := 1000000}) only [go_sem, hi0, hle, hp, dFlt, b4']
  have c3 : within upto (fr + 1) 28800 = true := within_iff.2 (by omega)
  by_cases d1 : much < -40
  · simp (config := {maxSteps := 1000000}) only [go_sem, (by simp [d1] : (much < -40) = True), hR]
    exact hit 2 (by decide) (by simp [fltE, mostF, hw, c1, c2, c3, (within_no (.inl d1) : within much (-40) 40 = false)])
  have d1' : (much < -40) = False := by simp [d1]
  simp (config := {maxSteps := 1000000}) only [go_sem, hi0, hle, hp, dFlt, d1']
  by_cases d2 : 40 < much
  · simp (config := {maxSteps := 1000000}) only [go_sem, (by simp [d2] : (40 < much) = True), hR]
    exact hit 2 (by decide) (by simp [fltE, mostF, hw, c1, c2, c3, (within_no (.inr d2) : within much (-40) 40 = false)])
  have d2' : (40 < much) = False := by simp [d2]
  simp (config := {maxSteps := 1000000}) only [go_sem, hi0, hle, hp, dFlt, d2']
  have c4 : within much (-40) 40 = true := within_iff.2 (by omega)
  have hv : fltE n sets k ⟨5, who, fr, upto, much⟩ = if k.any (clash ⟨5, who, fr, upto, much⟩) = true then 8 else 0 := by simp [-List.any_eq_true, -List.any_eq_false, fltE, mostF, hw, c1, c2, c3, c4]
  refine ⟨Nat.zero_le _, g1, ?_⟩
  rw [htl]
  simp (config := {maxSteps := 1000000}) only [go_sem, List.length_map, hkl]
  refine AW_loopH [6, 11, 139, 140, 141, 142, 143, 144, 145, 146, 147, 148, 149, 150, 151, 152, 153, 154, 155, 156, 157, 158, 159, 160, 161, 162, 163, 164, 165, 166, 167, 168, 169]
    (fun (j : Nat) ρ m => ρ 139 = .int .i64 (j : Int) ∧ j ≤ i ∧ (k.take j).any (clash ⟨5, who, fr, upto, much⟩) = false ∧ ∃ h nx lv, m = ⟨h, [], nx, lv⟩ ∧ AB.hget h 3 = some (0, nCells n) ∧ AB.hget h 8 = some (G, bFlt ⟨5, who, fr, upto, much⟩)) (fun j => i - j) 0 ?_ ?_
  · simp [go_sem, bFlt, hb3, nCells]
  rintro j ρ2 m ⟨e139, gj, ga, h2, nx3, lv3, rfl, hb3', hb8⟩ Q2 hN2 hR2 hX2
  by_cases hjt : j < i
  rotate_left
  · have hjt' : ((j : Int) < (i : Int)) = False := by simp; omega
    rw [List.take_of_length_le (by omega)] at ga
    simp (config := {maxSteps := 1000000}) only [go_sem, e139, hjt', hX2, hN, ew]
    refine ⟨by kernel_rfl, i + 1, ?_, by simp only; omega⟩
    simp (config := {maxSteps := 1000000}) only [go_sem]
    exact ⟨by simp, by omega, go (by rw [hv, ga]; rfl), _, _, _, rfl, hb3'⟩
  obtain ⟨t, ht⟩ : ∃ t, k[j]? = some t := ⟨_, List.getElem?_eq_getElem (by omega)⟩
  have hpt : (k.map dFlt)[j]? = some (dFlt t) := by rw [List.getElem?_map, ht]; rfl
  have hjt' : ((j : Int) < (i : Int)) = True := by simp; omega
  have h0j : ((0 : Int) ≤ (j : Int)) = True := by simp
  have ewj : IntKind.i64.wrap ((j : Int) + 1) = (j : Int) + 1 := i64_in (by omega) (by omega)
  have ha := any_pre (f := ⟨5, who, fr, upto, much⟩) ht
  rw [ga, Bool.false_or] at ha
  have on : clash ⟨5, who, fr, upto, much⟩ t = false → (k.take (j + 1)).any (clash ⟨5, who, fr, upto, much⟩) = false := fun h => by rw [ha, h]
  simp (config := {maxSteps := 1000000}) only [go_sem, e139, hjt', h0j, hpt, dFlt, hb8, bFlt]
  by_cases x1 : t.kind = 5
  rotate_left
  · simp (config := {maxSteps := 1000000}) only [go_sem, (by simp [x1] : (t.kind = 5) = False), hN2, ewj]
    refine ⟨by kernel_rfl, j + 1, ?_, by simp only; omega⟩
    simp (config := {maxSteps := 1000000}) only [go_sem]
    exact ⟨by simp, by omega, on (by simp [clash, x1]), _, _, _, rfl, by simp [go_sem, hb3'], by simp [go_sem, hb8, bFlt]⟩
  simp (config := {maxSteps := 1000000}) only [go_sem, hb8, bFlt, (by simp [x1] : (t.kind = 5) = True)]
  by_cases x2 : t.who = who
  rotate_left
  · simp (config := {maxSteps := 1000000}) only [go_sem, (by simp [x2] : (t.who = who) = False), hN2, ewj]
    refine ⟨by kernel_rfl, j + 1, ?_, by simp only; omega⟩
    simp (config := {maxSteps := 1000000}) only [go_sem]
    exact ⟨by simp, by omega, on (by simp [clash, x2]), _, _, _, rfl, by simp [go_sem, hb3'], by simp [go_sem, hb8, bFlt]⟩
  simp (config := {maxSteps := 1000000}) only [go_sem, hb8, bFlt, (by simp [x2] : (t.who = who) = True)]
  by_cases x3 : fr < t.upto
  rotate_left
  · simp (config := {maxSteps := 1000000}) only [go_sem, (by simp [x3] : (fr < t.upto) = False), hN2, ewj]
    refine ⟨by kernel_rfl, j + 1, ?_, by simp only; omega⟩
    simp (config := {maxSteps := 1000000}) only [go_sem]
    exact ⟨by simp, by omega, on (by simp [clash, x3]), _, _, _, rfl, by simp [go_sem, hb3'], by simp [go_sem, hb8, bFlt]⟩
  simp (config := {maxSteps := 1000000}) only [go_sem, hb8, bFlt, (by simp [x3] : (fr < t.upto) = True)]
  by_cases x4 : t.fr < upto
  rotate_left
  · simp (config := {maxSteps := 1000000}) only [go_sem, (by simp [x4] : (t.fr < upto) = False), hN2, ewj]
    refine ⟨by kernel_rfl, j + 1, ?_, by simp only; omega⟩
    simp (config := {maxSteps := 1000000}) only [go_sem]
    exact ⟨by simp, by omega, on (by simp [clash, x4]), _, _, _, rfl, by simp [go_sem, hb3'], by simp [go_sem, hb8, bFlt]⟩
  simp (config := {maxSteps := 1000000}) only [go_sem, hb8, bFlt, (by simp [x4] : (t.fr < upto) = True), hR2, hR]
  exact hit 8 (by decide) (by rw [hv, if_pos (List.any_eq_true.2 ⟨t, List.mem_of_getElem? ht, by simp [clash, x1, x2, x3, x4]⟩)])
end Go.Proofs.YtaieadcnhlapdaaDoor

/- FaultsError of the reference: a round at a fault of kind 6. -/
namespace Go.Proofs.YtaieadcnhlapdaaDoor
set_option linter.unusedSimpArgs false
set_option linter.unusedVariables false
open Go.AB

set_option maxRecDepth 40000 in
set_option maxHeartbeats 16000000 in
theorem r18_6 {E : Env} {n : Net} (hb : NetB n) {sets : Int} {l : List Flt} (hl : l.length ≤ 140737488351232) {k : List Flt} {i : Nat} {who fr upto much : Int} {ρ : Nat → AV} {h : List (Nat × Nat × List AV)} {nx : Nat} {lv : Nat → Prop} {Q : Exit → AS → Prop}
    (hs : within sets 0 8 = true) (g1 : i ≤ l.length) (e23 : ρ 23 = .int .i64 (i : Int)) (hb3 : AB.hget h 3 = some (0, nCells n)) (hlt : i < l.length) (hp : (l.map dFlt)[i]? = some (dFlt ⟨6, who, fr, upto, much⟩))
    (hit : ∀ v : Int, v ≠ 0 → fltE n sets k ⟨6, who, fr, upto, much⟩ = v → v = errG n sets l)
    (go : fltE n sets k ⟨6, who, fr, upto, much⟩ = 0 → firstE (atF n sets l) (l.length - (i + 1)) (i + 1) = errG n sets l)
    (htl : List.take (i - 0) (List.map dFlt l) = k.map dFlt) (hkl : k.length = i)
    (hN : ∀ σ, Q .normal σ = LoopEnd [AV.agg [AV.sl 1 (List.map DV.str n.names) Tok.no, AV.sl 7 (List.map dSect n.sects) Tok.no, AV.sl 4 (List.map dLnk n.links) Tok.no, AV.sl 2 (List.map dPair n.sigs) Tok.no, AV.sl 2 (List.map dPair n.gates) Tok.no], AV.int IntKind.i64 sets, AV.sl 5 (List.map dFlt l) Tok.no, AV.ptr (Loc.own 3 0) 0, AV.raw (Value.tuple #[]), AV.raw (Value.tuple #[]), AV.int IntKind.i64 0, AV.raw (Value.tuple #[]), AV.raw (Value.tuple #[]), AV.raw (Value.tuple #[]), AV.raw (Value.tuple #[]), AV.raw (Value.tuple #[]), AV.int IntKind.i64 sets, AV.bool false, AV.bool false, AV.int IntKind.i64 sets, AV.bool false, AV.bool false, AV.sl 5 (List.map dFlt l) Tok.no, AV.int IntKind.i64 (l.length : Int), AV.bool false, AV.sl 5 (List.map dFlt l) Tok.no, AV.int IntKind.i64 (l.length : Int), AV.int IntKind.i64 0, AV.raw (Value.tuple #[]), AV.raw (Value.tuple #[]), AV.raw (Value.tuple #[]), AV.raw (Value.tuple #[]), AV.raw (Value.tuple #[]), AV.raw (Value.tuple #[]), AV.raw (Value.tuple #[]), AV.raw (Value.tuple #[]), AV.raw (Value.tuple #[]), AV.raw (Value.tuple #[]), AV.raw (Value.tuple #[]), AV.raw (Value.tuple #[]), AV.raw (Value.tuple #[]), AV.raw (Value.tuple #[]), AV.raw (Value.tuple #[]), AV.raw (Value.tuple #[]), AV.raw (Value.tuple #[]), AV.raw (Value.tuple #[]), AV.raw (Value.tuple #[]), AV.raw (Value.tuple #[]), AV.raw (Value.tuple #[]), AV.raw (Value.tuple #[]), AV.raw (Value.tuple #[]), AV.raw (Value.tuple #[]), AV.raw (Value.tuple #[]), AV.raw (Value.tuple #[]), AV.raw (Value.tuple #[]), AV.raw (Value.tuple #[]), AV.raw (Value.tuple #[]), AV.raw (Value.tuple #[]), AV.raw (Value.tuple #[]), AV.raw (Value.tuple #[]), AV.raw (Value.tuple #[]), AV.raw (Value.tuple #[]), AV.raw (Value.tuple #[]), AV.raw (Value.tuple #[]), AV.raw (Value.tuple #[]), AV.raw (Value.tuple #[]), AV.raw (Value.tuple #[]), AV.raw (Value.tuple #[]), AV.raw (Value.tuple #[]), AV.raw (Value.tuple #[]), AV.raw (Value.tuple #[]), AV.raw (Value.tuple #[]), AV.raw (Value.tuple #[]), AV.raw (Value.tuple #[]), AV.raw (Value.tuple #[]), AV.raw (Value.tuple #[]), AV.raw (Value.tuple #[]), AV.raw (Value.tuple #[]), AV.raw (Value.tuple #[]), AV.raw (Value.tuple #[]), AV.raw (Value.tuple #[]), AV.raw (Value.tuple #[]), AV.raw (Value.tuple #[]), AV.raw (Value.tuple #[]), AV.raw (Value.tuple #[]), AV.raw (Value.tuple #[]), AV.raw (Value.tuple #[]), AV.raw (Value.tuple #[]), AV.raw (Value.tuple #[]), AV.raw (Value.tuple #[]), AV.raw (Value.tuple #[]), AV.raw (Value.tuple #[]), AV.raw (Value.tuple #[]), AV.raw (Value.tuple #[]), AV.raw (Value.tuple #[]), AV.raw (Value.tuple #[]), AV.raw (Value.tuple #[]), AV.raw (Value.tuple #[]), AV.raw (Value.tuple #[]), AV.raw (Value.tuple #[]), AV.raw (Value.tuple #[]), AV.raw (Value.tuple #[]), AV.raw (Value.tuple #[]), AV.raw (Value.tuple #[]), AV.raw (Value.tuple #[]), AV.raw (Value.tuple #[]), AV.raw (Value.tuple #[]), AV.raw (Value.tuple #[]), AV.raw (Value.tuple #[]), AV.raw (Value.tuple #[]), AV.raw (Value.tuple #[]), AV.raw (Value.tuple #[]), AV.raw (Value.tuple #[]), AV.raw (Value.tuple #[]), AV.raw (Value.tuple #[]), AV.raw (Value.tuple #[]), AV.raw (Value.tuple #[]), AV.raw (Value.tuple #[]), AV.raw (Value.tuple #[]), AV.raw (Value.tuple #[]), AV.raw (Value.tuple #[]), AV.raw (Value.tuple #[]), AV.raw (Value.tuple #[]), AV.raw (Value.tuple #[]), AV.raw (Value.tuple #[]), AV.raw (Value.tuple #[]), AV.raw (Value.tuple #[]), AV.raw (Value.tuple #[]), AV.raw (Value.tuple #[]), AV.raw (Value.tuple #[]), AV.raw (Value.tuple #[]), AV.raw (Value.tuple #[]), AV.raw (Value.tuple #[]), AV.raw (Value.tuple #[]), AV.raw (Value.tuple #[]), AV.raw (Value.tuple #[]), AV.raw (Value.tuple #[]), AV.raw (Value.tuple #[]), AV.raw (Value.tuple #[]), AV.raw (Value.tuple #[]), AV.raw (Value.tuple #[]), AV.raw (Value.tuple #[]), AV.raw (Value.tuple #[]), AV.raw (Value.tuple #[]), AV.raw (Value.tuple #[]), AV.raw (Value.tuple #[]), AV.raw (Value.tuple #[]), AV.raw (Value.tuple #[]), AV.raw (Value.tuple #[]), AV.raw (Value.tuple #[]), AV.raw (Value.tuple #[]), AV.raw (Value.tuple #[]), AV.raw (Value.tuple #[]), AV.raw (Value.tuple #[]), AV.raw (Value.tuple #[]), AV.raw (Value.tuple #[]), AV.raw (Value.tuple #[]), AV.raw (Value.tuple #[]), AV.raw (Value.tuple #[]), AV.raw (Value.tuple #[]), AV.raw (Value.tuple #[]), AV.raw (Value.tuple #[]), AV.raw (Value.tuple #[]), AV.raw (Value.tuple #[]), AV.raw (Value.tuple #[]), AV.raw (Value.tuple #[]), AV.raw (Value.tuple #[]), AV.raw (Value.tuple #[]), AV.raw (Value.tuple #[]), AV.raw (Value.tuple #[]), AV.raw (Value.tuple #[]), AV.raw (Value.tuple #[]), AV.raw (Value.tuple #[]), AV.raw (Value.tuple #[]), AV.raw (Value.tuple #[])] [6, 7, 8, 9, 11, 23, 24, 25, 26, 27, 28, 29, 30, 31, 32, 33, 34, 35, 36, 37, 38, 39, 40, 41, 42, 43, 44, 45, 46, 47, 48, 49, 50, 51, 52, 53, 54, 55, 56, 57, 58, 59, 60, 61, 62, 63, 64, 65, 66, 67, 68, 69, 70, 71, 72, 73, 74, 75, 76, 77, 78, 79, 80, 81, 82, 83, 84, 85, 86, 87, 88, 89, 90, 91, 92, 93, 94, 95, 96, 97, 98, 99, 100, 101, 102, 103, 104, 105, 106, 107, 108, 109, 110, 111, 112, 113, 114, 115, 116, 117, 118, 119, 120, 121, 122, 123, 124, 125, 126, 127, 128, 129, 130, 131, 132, 133, 134, 135, 136, 137, 138, 139, 140, 141, 142, 143, 144, 145, 146, 147, 148, 149, 150, 151, 152, 153, 154, 155, 156, 157, 158, 159, 160, 161, 162, 163, 164, 165, 166, 167, 168, 169, 170] (fun (i : Nat) (ρ : Nat → AV) (m : AH) => ρ 23 = .int .i64 (i : Int) ∧ i ≤ l.length ∧ firstE (atF n sets l) (l.length - i) i = errG n sets l ∧ ∃ h nx lv, m = ⟨h, [], nx, lv⟩ ∧ AB.hget h 3 = some (0, nCells n)) (fun (i : Nat) => l.length - i) i σ) (hR : ∀ σ, Q .ret σ = bodyQ Tryd.prog [ResultVar.tmp 6] (RV (.int .i64 (errG n sets l))) .ret σ) :
    exC Tryd.prog E c18 ⟨mask [AV.agg [AV.sl 1 (List.map DV.str n.names) Tok.no, AV.sl 7 (List.map dSect n.sects) Tok.no, AV.sl 4 (List.map dLnk n.links) Tok.no, AV.sl 2 (List.map dPair n.sigs) Tok.no, AV.sl 2 (List.map dPair n.gates) Tok.no], AV.int IntKind.i64 sets, AV.sl 5 (List.map dFlt l) Tok.no, AV.ptr (Loc.own 3 0) 0, AV.raw (Value.tuple #[]), AV.raw (Value.tuple #[]), AV.int IntKind.i64 0, AV.raw (Value.tuple #[]), AV.raw (Value.tuple #[]), AV.raw (Value.tuple #[]), AV.raw (Value.tuple #[]), AV.raw (Value.tuple #[]), AV.int IntKind.i64 sets, AV.bool false, AV.bool false, AV.int IntKind.i64 sets, AV.bool false, AV.bool false, AV.sl 5 (List.map dFlt l) Tok.no, AV.int IntKind.i64 (l.length : Int), AV.bool false, AV.sl 5 (List.map dFlt l) Tok.no, AV.int IntKind.i64 (l.length : Int), AV.int IntKind.i64 0, AV.raw (Value.tuple #[]), AV.raw (Value.tuple #[]), AV.raw (Value.tuple #[]), AV.raw (Value.tuple #[]), AV.raw (Value.tuple #[]), AV.raw (Value.tuple #[]), AV.raw (Value.tuple #[]), AV.raw (Value.tuple #[]), AV.raw (Value.tuple #[]), AV.raw (Value.tuple #[]), AV.raw (Value.tuple #[]), AV.raw (Value.tuple #[]), AV.raw (Value.tuple #[]), AV.raw (Value.tuple #[]), AV.raw (Value.tuple #[]), AV.raw (Value.tuple #[]), AV.raw (Value.tuple #[]), AV.raw (Value.tuple #[]), AV.raw (Value.tuple #[]), AV.raw (Value.tuple #[]), AV.raw (Value.tuple #[]), AV.raw (Value.tuple #[]), AV.raw (Value.tuple #[]), AV.raw (Value.tuple #[]), AV.raw (Value.tuple #[]), AV.raw (Value.tuple #[]), AV.raw (Value.tuple #[]), AV.raw (Value.tuple #[]), AV.raw (Value.tuple #[]), AV.raw (Value.tuple #[]), AV.raw (Value.tuple #[]), AV.raw (Value.tuple #[]), AV.raw (Value.tuple #[]), AV.raw (Value.tuple #[]), AV.raw (Value.tuple #[]), AV.raw (Value.tuple #[]), AV.raw (Value.tuple #[]), AV.raw (Value.tuple #[]), AV.raw (Value.tuple #[]), AV.raw (Value.tuple #[]), AV.raw (Value.tuple #[]), AV.raw (Value.tuple #[]), AV.raw (Value.tuple #[]), AV.raw (Value.tuple #[]), AV.raw (Value.tuple #[]), AV.raw (Value.tuple #[]), AV.raw (Value.tuple #[]), AV.raw (Value.tuple #[]), AV.raw (Value.tuple #[]), AV.raw (Value.tuple #[]), AV.raw (Value.tuple #[]), AV.raw (Value.tuple #[]), AV.raw (Value.tuple #[]), AV.raw (Value.tuple #[]), AV.raw (Value.tuple #[]), AV.raw (Value.tuple #[]), AV.raw (Value.tuple #[]), AV.raw (Value.tuple #[]), AV.raw (Value.tuple #[]), AV.raw (Value.tuple #[]), AV.raw (Value.tuple #[]), AV.raw (Value.tuple #[]), AV.raw (Value.tuple #[]), AV.raw (Value.tuple #[]), AV.raw (Value.tuple #[]), AV.raw (Value.tuple #[]), AV.raw (Value.tuple #[]), AV.raw (Value.tuple #[]), AV.raw (Value.tuple #[]), AV.raw (Value.tuple #[]), AV.raw (Value.tuple #[]), AV.raw (Value.tuple #[]), AV.raw (Value.tuple #[]), AV.raw (Value.tuple #[]), AV.raw (Value.tuple #[]), AV.raw (Value.tuple #[]), AV.raw (Value.tuple #[]), AV.raw (Value.tuple #[]), AV.raw (Value.tuple #[]), AV.raw (Value.tuple #[]), AV.raw (Value.tuple #[]), AV.raw (Value.tuple #[]), AV.raw (Value.tuple #[]), AV.raw (Value.tuple #[]), AV.raw (Value.tuple #[]), AV.raw (Value.tuple #[]), AV.raw (Value.tuple #[]), AV.raw (Value.tuple #[]), AV.raw (Value.tuple #[]), AV.raw (Value.tuple #[]), AV.raw (Value.tuple #[]), AV.raw (Value.tuple #[]), AV.raw (Value.tuple #[]), AV.raw (Value.tuple #[]), AV.raw (Value.tuple #[]), AV.raw (Value.tuple #[]), AV.raw (Value.tuple #[]), AV.raw (Value.tuple #[]), AV.raw (Value.tuple #[]), AV.raw (Value.tuple #[]), AV.raw (Value.tuple #[]), AV.raw (Value.tuple #[]), AV.raw (Value.tuple #[]), AV.raw (Value.tuple #[]), AV.raw (Value.tuple #[]), AV.raw (Value.tuple #[]), AV.raw (Value.tuple #[]), AV.raw (Value.tuple #[]), AV.raw (Value.tuple #[]), AV.raw (Value.tuple #[]), AV.raw (Value.tuple #[]), AV.raw (Value.tuple #[]), AV.raw (Value.tuple #[]), AV.raw (Value.tuple #[]), AV.raw (Value.tuple #[]), AV.raw (Value.tuple #[]), AV.raw (Value.tuple #[]), AV.raw (Value.tuple #[]), AV.raw (Value.tuple #[]), AV.raw (Value.tuple #[]), AV.raw (Value.tuple #[]), AV.raw (Value.tuple #[]), AV.raw (Value.tuple #[]), AV.raw (Value.tuple #[]), AV.raw (Value.tuple #[]), AV.raw (Value.tuple #[]), AV.raw (Value.tuple #[]), AV.raw (Value.tuple #[]), AV.raw (Value.tuple #[]), AV.raw (Value.tuple #[]), AV.raw (Value.tuple #[]), AV.raw (Value.tuple #[]), AV.raw (Value.tuple #[]), AV.raw (Value.tuple #[]), AV.raw (Value.tuple #[]), AV.raw (Value.tuple #[]), AV.raw (Value.tuple #[]), AV.raw (Value.tuple #[]), AV.raw (Value.tuple #[]), AV.raw (Value.tuple #[]), AV.raw (Value.tuple #[]), AV.raw (Value.tuple #[]), AV.raw (Value.tuple #[]), AV.raw (Value.tuple #[]), AV.raw (Value.tuple #[]), AV.raw (Value.tuple #[]), AV.raw (Value.tuple #[])] [6, 7, 8, 9, 11, 23, 24, 25, 26, 27, 28, 29, 30, 31, 32, 33, 34, 35, 36, 37, 38, 39, 40, 41, 42, 43, 44, 45, 46, 47, 48, 49, 50, 51, 52, 53, 54, 55, 56, 57, 58, 59, 60, 61, 62, 63, 64, 65, 66, 67, 68, 69, 70, 71, 72, 73, 74, 75, 76, 77, 78, 79, 80, 81, 82, 83, 84, 85, 86, 87, 88, 89, 90, 91, 92, 93, 94, 95, 96, 97, 98, 99, 100, 101, 102, 103, 104, 105, 106, 107, 108, 109, 110, 111, 112, 113, 114, 115, 116, 117, 118, 119, 120, 121, 122, 123, 124, 125, 126, 127, 128, 129, 130, 131, 132, 133, 134, 135, 136, 137, 138, 139, 140, 141, 142, 143, 144, 145, 146, 147, 148, 149, 150, 151, 152, 153, 154, 155, 156, 157, 158, 159, 160, 161, 162, 163, 164, 165, 166, 167, 168, 169, 170] ρ, ⟨h, [], nx, lv⟩⟩ Q := by
  conv => arg 3; whnf
  have hsc := hb.sc
  have hgt := hb.gt
  have hsw := within_iff.1 hs
  have hlt' : ((i : Int) < (l.length : Int)) = True := by simp; omega
  have hi0 : ((0 : Int) ≤ (i : Int)) = True := by simp
  have hle : ((i : Int) ≤ (l.length : Int)) = True := by simp; omega
  have ew : IntKind.i64.wrap ((i : Int) + 1) = (i : Int) + 1 := i64_in (by omega) (by omega)
  simp (config := {maxSteps := 1000000}) only [go_sem, hi0, hle, hp, dFlt, e23, hlt']
  generalize genO (AB.hget h 8) = G
  have hw : within 6 1 7 = true := rfl
  by_cases a1 : who < 0
  · simp (config := {maxSteps := 1000000}) only [go_sem, (by simp [a1] : (who < 0) = True), hR]
    exact hit 3 (by decide) (by simp [fltE, mostF, hw, (within_no (.inl a1) : within who 0 (sets - 1) = false)])
  have a1' : (who < 0) = False := by simp [a1]
  simp (config := {maxSteps := 1000000}) only [go_sem, hi0, hle, hp, dFlt, a1']
  by_cases a2 : sets ≤ who
  · simp (config := {maxSteps := 1000000}) only [go_sem, (by simp [a2] : (sets ≤ who) = True), hR]
    exact hit 3 (by decide) (by simp [fltE, mostF, hw, (within_no (.inr (by omega)) : within who 0 (sets - 1) = false)])
  have a2' : (sets ≤ who) = False := by simp [a2]
  simp (config := {maxSteps := 1000000}) only [go_sem, hi0, hle, hp, dFlt, a2']
  have c1 : within who 0 (sets - 1) = true := within_iff.2 (by omega)
  by_cases b1 : fr < 0
  · simp (config := {maxSteps := 1000000}) only [go_sem, (by simp [b1] : (fr < 0) = True), hR]
    exact hit 13 (by decide) (by simp [fltE, mostF, hw, c1, (within_no (.inl b1) : within fr 0 28799 = false)])
  have b1' : (fr < 0) = False := by simp [b1]
  simp (config := {maxSteps := 1000000}) only [go_sem, hi0, hle, hp, dFlt, b1']
  by_cases b2 : 28800 ≤ fr
  · simp (config := {maxSteps := 1000000}) only [go_sem, (by simp [b2] : (28800 ≤ fr) = True), hR]
    exact hit 13 (by decide) (by simp [fltE, mostF, hw, c1, (within_no (.inr (by omega)) : within fr 0 28799 = false)])
  have b2' : (28800 ≤ fr) = False := by simp [b2]
  simp (config := {maxSteps := 1000000}) only [go_sem, hi0, hle, hp, dFlt, b2']
  have c2 : within fr 0 28799 = true := within_iff.2 (by omega)
  by_cases b3 : upto ≤ fr
  · simp (config := {maxSteps := 1000000}) only [go_sem, (by simp [b3] : (upto ≤ fr) = True), hR]
    exact hit 13 (by decide) (by simp [fltE, mostF, hw, c1, c2, (within_no (.inl (by omega)) : within upto (fr + 1) 28800 = false)])
  have b3' : (upto ≤ fr) = False := by simp [b3]
  simp (config := {maxSteps := 1000000}) only [go_sem, hi0, hle, hp, dFlt, b3']
  by_cases b4 : 28800 < upto
  · simp (config := {maxSteps := 1000000}) only [go_sem, (by simp [b4] : (28800 < upto) = True), hR]
    exact hit 13 (by decide) (by simp [fltE, mostF, hw, c1, c2, (within_no (.inr b4) : within upto (fr + 1) 28800 = false)])
  have b4' : (28800 < upto) = False := by simp [b4]
  simp (config := {maxSteps := 1000000}) only [go_sem, hi0, hle, hp, dFlt, b4']
  have c3 : within upto (fr + 1) 28800 = true := within_iff.2 (by omega)
  by_cases d1 : much < 0
  · simp (config := {maxSteps := 1000000}) only [go_sem, (by simp [d1] : (much < 0) = True), hR]
    exact hit 2 (by decide) (by simp [fltE, mostF, hw, c1, c2, c3, (within_no (.inl d1) : within much (0) 6000 = false)])
  have d1' : (much < 0) = False := by simp [d1]
  simp (config := {maxSteps := 1000000}) only [go_sem, hi0, hle, hp, dFlt, d1']
  by_cases d2 : 6000 < much
  · simp (config := {maxSteps := 1000000}) only [go_sem, (by simp [d2] : (6000 < much) = True), hR]
    exact hit 2 (by decide) (by simp [fltE, mostF, hw, c1, c2, c3, (within_no (.inr d2) : within much (0) 6000 = false)])
  have d2' : (6000 < much) = False := by simp [d2]
  simp (config := {maxSteps := 1000000}) only [go_sem, hi0, hle, hp, dFlt, d2']
  have c4 : within much (0) 6000 = true := within_iff.2 (by omega)
  have hv : fltE n sets k ⟨6, who, fr, upto, much⟩ = if k.any (clash ⟨6, who, fr, upto, much⟩) = true then 8 else 0 := by simp [-List.any_eq_true, -List.any_eq_false, fltE, mostF, hw, c1, c2, c3, c4]
  refine ⟨Nat.zero_le _, g1, ?_⟩
  rw [htl]
  simp (config := {maxSteps := 1000000}) only [go_sem, List.length_map, hkl]
  refine AW_loopH [6, 11, 139, 140, 141, 142, 143, 144, 145, 146, 147, 148, 149, 150, 151, 152, 153, 154, 155, 156, 157, 158, 159, 160, 161, 162, 163, 164, 165, 166, 167, 168, 169]
    (fun (j : Nat) ρ m => ρ 139 = .int .i64 (j : Int) ∧ j ≤ i ∧ (k.take j).any (clash ⟨6, who, fr, upto, much⟩) = false ∧ ∃ h nx lv, m = ⟨h, [], nx, lv⟩ ∧ AB.hget h 3 = some (0, nCells n) ∧ AB.hget h 8 = some (G, bFlt ⟨6, who, fr, upto, much⟩)) (fun j => i - j) 0 ?_ ?_
  · simp [go_sem, bFlt, hb3, nCells]
  rintro j ρ2 m ⟨e139, gj, ga, h2, nx3, lv3, rfl, hb3', hb8⟩ Q2 hN2 hR2 hX2
  by_cases hjt : j < i
  rotate_left
  · have hjt' : ((j : Int) < (i : Int)) = False := by simp; omega
    rw [List.take_of_length_le (by omega)] at ga
    simp (config := {maxSteps := 1000000}) only [go_sem, e139, hjt', hX2, hN, ew]
    refine ⟨by kernel_rfl, i + 1, ?_, by simp only; omega⟩
    simp (config := {maxSteps := 1000000}) only [go_sem]
    exact ⟨by simp, by omega, go (by rw [hv, ga]; rfl), _, _, _, rfl, hb3'⟩
  obtain ⟨t, ht⟩ : ∃ t, k[j]? = some t := ⟨_, List.getElem?_eq_getElem (by omega)⟩
  have hpt : (k.map dFlt)[j]? = some (dFlt t) := by rw [List.getElem?_map, ht]; rfl
  have hjt' : ((j : Int) < (i : Int)) = True := by simp; omega
  have h0j : ((0 : Int) ≤ (j : Int)) = True := by simp
  have ewj : IntKind.i64.wrap ((j : Int) + 1) = (j : Int) + 1 := i64_in (by omega) (by omega)
  have ha := any_pre (f := ⟨6, who, fr, upto, much⟩) ht
  rw [ga, Bool.false_or] at ha
  have on : clash ⟨6, who, fr, upto, much⟩ t = false → (k.take (j + 1)).any (clash ⟨6, who, fr, upto, much⟩) = false := fun h => by rw [ha, h]
  simp (config := {maxSteps := 1000000}) only [go_sem, e139, hjt', h0j, hpt, dFlt, hb8, bFlt]
  by_cases x1 : t.kind = 6
  rotate_left
  · simp (config := {maxSteps := 1000000}) only [go_sem, (by simp [x1] : (t.kind = 6) = False), hN2, ewj]
    refine ⟨by kernel_rfl, j + 1, ?_, by simp only; omega⟩
    simp (config := {maxSteps := 1000000}) only [go_sem]
    exact ⟨by simp, by omega, on (by simp [clash, x1]), _, _, _, rfl, by simp [go_sem, hb3'], by simp [go_sem, hb8, bFlt]⟩
  simp (config := {maxSteps := 1000000}) only [go_sem, hb8, bFlt, (by simp [x1] : (t.kind = 6) = True)]
  by_cases x2 : t.who = who
  rotate_left
  · simp (config := {maxSteps := 1000000}) only [go_sem, (by simp [x2] : (t.who = who) = False), hN2, ewj]
    refine ⟨by kernel_rfl, j + 1, ?_, by simp only; omega⟩
    simp (config := {maxSteps := 1000000}) only [go_sem]
    exact ⟨by simp, by omega, on (by simp [clash, x2]), _, _, _, rfl, by simp [go_sem, hb3'], by simp [go_sem, hb8, bFlt]⟩
  simp (config := {maxSteps := 1000000}) only [go_sem, hb8, bFlt, (by simp [x2] : (t.who = who) = True)]
  by_cases x3 : fr < t.upto
  rotate_left
  · simp (config := {maxSteps := 1000000}) only [go_sem, (by simp [x3] : (fr < t.upto) = False), hN2, ewj]
    refine ⟨by kernel_rfl, j + 1, ?_, by simp only; omega⟩
    simp (config := {maxSteps := 1000000}) only [go_sem]
    exact ⟨by simp, by omega, on (by simp [clash, x3]), _, _, _, rfl, by simp [go_sem, hb3'], by simp [go_sem, hb8, bFlt]⟩
  simp (config := {maxSteps := 1000000}) only [go_sem, hb8, bFlt, (by simp [x3] : (fr < t.upto) = True)]
  by_cases x4 : t.fr < upto
  rotate_left
  · simp (config := {maxSteps := 1000000}) only [go_sem, (by simp [x4] : (t.fr < upto) = False), hN2, ewj]
    refine ⟨by kernel_rfl, j + 1, ?_, by simp only; omega⟩
    simp (config := {maxSteps := 1000000}) only [go_sem]
    exact ⟨by simp, by omega, on (by simp [clash, x4]), _, _, _, rfl, by simp [go_sem, hb3'], by simp [go_sem, hb8, bFlt]⟩
  simp (config := {maxSteps := 1000000}) only [go_sem, hb8, bFlt, (by simp [x4] : (t.fr < upto) = True), hR2, hR]
  exact hit 8 (by decide) (by rw [hv, if_pos (List.any_eq_true.2 ⟨t, List.mem_of_getElem? ht, by simp [clash, x1, x2, x3, x4]⟩)])
end Go.Proofs.YtaieadcnhlapdaaDoor

/- FaultsError of the reference: a round at a fault of kind 7. -/
namespace Go.Proofs.YtaieadcnhlapdaaDoor
set_option linter.unusedSimpArgs false
set_option linter.unusedVariables false
open Go.AB

set_option maxRecDepth 40000 in
set_option maxHeartbeats 16000000 in
theorem r18_7 {E : Env} {n : Net} (hb : NetB n) {sets : Int} {l : List Flt} (hl : l.length ≤ 140737488351232) {k : List Flt} {i : Nat} {who fr upto much : Int} {ρ : Nat → AV} {h : List (Nat × Nat × List AV)} {nx : Nat} {lv : Nat → Prop} {Q : Exit → AS → Prop}
    (hs : within sets 0 8 = true) (g1 : i ≤ l.length) (e23 : ρ 23 = .int .i64 (i : Int)) (hb3 : AB.hget h 3 = some (0, nCells n)) (hlt : i < l.length) (hp : (l.map dFlt)[i]? = some (dFlt ⟨7, who, fr, upto, much⟩))
    (hit : ∀ v : Int, v ≠ 0 → fltE n sets k ⟨7, who, fr, upto, much⟩ = v → v = errG n sets l)
    (go : fltE n sets k ⟨7, who, fr, upto, much⟩ = 0 → firstE (atF n sets l) (l.length - (i + 1)) (i + 1) = errG n sets l)
    (htl : List.take (i - 0) (List.map dFlt l) = k.map dFlt) (hkl : k.length = i)
    (hN : ∀ σ, Q .normal σ = LoopEnd [AV.agg [AV.sl 1 (List.map DV.str n.names) Tok.no, AV.sl 7 (List.map dSect n.sects) Tok.no, AV.sl 4 (List.map dLnk n.links) Tok.no, AV.sl 2 (List.map dPair n.sigs) Tok.no, AV.sl 2 (List.map dPair n.gates) Tok.no], AV.int IntKind.i64 sets, AV.sl 5 (List.map dFlt l) Tok.no, AV.ptr (Loc.own 3 0) 0, AV.raw (Value.tuple #[]), AV.raw (Value.tuple #[]), AV.int IntKind.i64 0, AV.raw (Value.tuple #[]), AV.raw (Value.tuple #[]), AV.raw (Value.tuple #[]), AV.raw (Value.tuple #[]), AV.raw (Value.tuple #[]), AV.int IntKind.i64 sets, AV.bool false, AV.bool false, AV.int IntKind.i64 sets, AV.bool false, AV.bool false, AV.sl 5 (List.map dFlt l) Tok.no, AV.int IntKind.i64 (l.length : Int), AV.bool false, AV.sl 5 (List.map dFlt l) Tok.no, AV.int IntKind.i64 (l.length : Int), AV.int IntKind.i64 0, AV.raw (Value.tuple #[]), AV.raw (Value.tuple #[]), AV.raw (Value.tuple #[]), AV.raw (Value.tuple #[]), AV.raw (Value.tuple #[]), AV.raw (Value.tuple #[]), AV.raw (Value.tuple #[]), AV.raw (Value.tuple #[]), AV.raw (Value.tuple #[]), AV.raw (Value.tuple #[]), AV.raw (Value.tuple #[]), AV.raw (Value.tuple #[]), AV.raw (Value.tuple #[]), AV.raw (Value.tuple #[]), AV.raw (Value.tuple #[]), AV.raw (Value.tuple #[]), AV.raw (Value.tuple #[]), AV.raw (Value.tuple #[]), AV.raw (Value.tuple #[]), AV.raw (Value.tuple #[]), AV.raw (Value.tuple #[]), AV.raw (Value.tuple #[]), AV.raw (Value.tuple #[]), AV.raw (Value.tuple #[]), AV.raw (Value.tuple #[]), AV.raw (Value.tuple #[]), AV.raw (Value.tuple #[]), AV.raw (Value.tuple #[]), AV.raw (Value.tuple #[]), AV.raw (Value.tuple #[]), AV.raw (Value.tuple #[]), AV.raw (Value.tuple #[]), AV.raw (Value.tuple #[]), AV.raw (Value.tuple #[]), AV.raw (Value.tuple #[]), AV.raw (Value.tuple #[]), AV.raw (Value.tuple #[]), AV.raw (Value.tuple #[]), AV.raw (Value.tuple #[]), AV.raw (Value.tuple #[]), AV.raw (Value.tuple #[]), AV.raw (Value.tuple #[]), AV.raw (Value.tuple #[]), AV.raw (Value.tuple #[]), AV.raw (Value.tuple #[]), AV.raw (Value.tuple #[]), AV.raw (Value.tuple #[]), AV.raw (Value.tuple #[]), AV.raw (Value.tuple #[]), AV.raw (Value.tuple #[]), AV.raw (Value.tuple #[]), AV.raw (Value.tuple #[]), AV.raw (Value.tuple #[]), AV.raw (Value.tuple #[]), AV.raw (Value.tuple #[]), AV.raw (Value.tuple #[]), AV.raw (Value.tuple #[]), AV.raw (Value.tuple #[]), AV.raw (Value.tuple #[]), AV.raw (Value.tuple #[]), AV.raw (Value.tuple #[]), AV.raw (Value.tuple #[]), AV.raw (Value.tuple #[]), AV.raw (Value.tuple #[]), AV.raw (Value.tuple #[]), AV.raw (Value.tuple #[]), AV.raw (Value.tuple #[]), AV.raw (Value.tuple #[]), AV.raw (Value.tuple #[]), AV.raw (Value.tuple #[]), AV.raw (Value.tuple #[]), AV.raw (Value.tuple #[]), AV.raw (Value.tuple #[]), AV.raw (Value.tuple #[]), AV.raw (Value.tuple #[]), AV.raw (Value.tuple #[]), AV.raw (Value.tuple #[]), AV.raw (Value.tuple #[]), AV.raw (Value.tuple #[]), AV.raw (Value.tuple #[]), AV.raw (Value.tuple #[]), AV.raw (Value.tuple #[]), AV.raw (Value.tuple #[]), AV.raw (Value.tuple #[]), AV.raw (Value.tuple #[]), AV.raw (Value.tuple #[]), AV.raw (Value.tuple #[]), AV.raw (Value.tuple #[]), AV.raw (Value.tuple #[]), AV.raw (Value.tuple #[]), AV.raw (Value.tuple #[]), AV.raw (Value.tuple #[]), AV.raw (Value.tuple #[]), AV.raw (Value.tuple #[]), AV.raw (Value.tuple #[]), AV.raw (Value.tuple #[]), AV.raw (Value.tuple #[]), AV.raw (Value.tuple #[]), AV.raw (Value.tuple #[]), AV.raw (Value.tuple #[]), AV.raw (Value.tuple #[]), AV.raw (Value.tuple #[]), AV.raw (Value.tuple #[]), AV.raw (Value.tuple #[]), AV.raw (Value.tuple #[]), AV.raw (Value.tuple #[]), AV.raw (Value.tuple #[]), AV.raw (Value.tuple #[]), AV.raw (Value.tuple #[]), AV.raw (Value.tuple #[]), AV.raw (Value.tuple #[]), AV.raw (Value.tuple #[]), AV.raw (Value.tuple #[]), AV.raw (Value.tuple #[]), AV.raw (Value.tuple #[]), AV.raw (Value.tuple #[]), AV.raw (Value.tuple #[]), AV.raw (Value.tuple #[]), AV.raw (Value.tuple #[]), AV.raw (Value.tuple #[]), AV.raw (Value.tuple #[]), AV.raw (Value.tuple #[]), AV.raw (Value.tuple #[]), AV.raw (Value.tuple #[]), AV.raw (Value.tuple #[]), AV.raw (Value.tuple #[]), AV.raw (Value.tuple #[]), AV.raw (Value.tuple #[]), AV.raw (Value.tuple #[]), AV.raw (Value.tuple #[]), AV.raw (Value.tuple #[]), AV.raw (Value.tuple #[]), AV.raw (Value.tuple #[]), AV.raw (Value.tuple #[]), AV.raw (Value.tuple #[]), AV.raw (Value.tuple #[]), AV.raw (Value.tuple #[]), AV.raw (Value.tuple #[]), AV.raw (Value.tuple #[]), AV.raw (Value.tuple #[]), AV.raw (Value.tuple #[]), AV.raw (Value.tuple #[]), AV.raw (Value.tuple #[]), AV.raw (Value.tuple #[]), AV.raw (Value.tuple #[]), AV.raw (Value.tuple #[]), AV.raw (Value.tuple #[])] [6, 7, 8, 9, 11, 23, 24, 25, 26, 27, 28, 29, 30, 31, 32, 33, 34, 35, 36, 37, 38, 39, 40, 41, 42, 43, 44, 45, 46, 47, 48, 49, 50, 51, 52, 53, 54, 55, 56, 57, 58, 59, 60, 61, 62, 63, 64, 65, 66, 67, 68, 69, 70, 71, 72, 73, 74, 75, 76, 77, 78, 79, 80, 81, 82, 83, 84, 85, 86, 87, 88, 89, 90, 91, 92, 93, 94, 95, 96, 97, 98, 99, 100, 101, 102, 103, 104, 105, 106, 107, 108, 109, 110, 111, 112, 113, 114, 115, 116, 117, 118, 119, 120, 121, 122, 123, 124, 125, 126, 127, 128, 129, 130, 131, 132, 133, 134, 135, 136, 137, 138, 139, 140, 141, 142, 143, 144, 145, 146, 147, 148, 149, 150, 151, 152, 153, 154, 155, 156, 157, 158, 159, 160, 161, 162, 163, 164, 165, 166, 167, 168, 169, 170] (fun (i : Nat) (ρ : Nat → AV) (m : AH) => ρ 23 = .int .i64 (i : Int) ∧ i ≤ l.length ∧ firstE (atF n sets l) (l.length - i) i = errG n sets l ∧ ∃ h nx lv, m = ⟨h, [], nx, lv⟩ ∧ AB.hget h 3 = some (0, nCells n)) (fun (i : Nat) => l.length - i) i σ) (hR : ∀ σ, Q .ret σ = bodyQ Tryd.prog [ResultVar.tmp 6] (RV (.int .i64 (errG n sets l))) .ret σ) :
    exC Tryd.prog E c18 ⟨mask [AV.agg [AV.sl 1 (List.map DV.str n.names) Tok.no, AV.sl 7 (List.map dSect n.sects) Tok.no, AV.sl 4 (List.map dLnk n.links) Tok.no, AV.sl 2 (List.map dPair n.sigs) Tok.no, AV.sl 2 (List.map dPair n.gates) Tok.no], AV.int IntKind.i64 sets, AV.sl 5 (List.map dFlt l) Tok.no, AV.ptr (Loc.own 3 0) 0, AV.raw (Value.tuple #[]), AV.raw (Value.tuple #[]), AV.int IntKind.i64 0, AV.raw (Value.tuple #[]), AV.raw (Value.tuple #[]), AV.raw (Value.tuple #[]), AV.raw (Value.tuple #[]), AV.raw (Value.tuple #[]), AV.int IntKind.i64 sets, AV.bool false, AV.bool false, AV.int IntKind.i64 sets, AV.bool false, AV.bool false, AV.sl 5 (List.map dFlt l) Tok.no, AV.int IntKind.i64 (l.length : Int), AV.bool false, AV.sl 5 (List.map dFlt l) Tok.no, AV.int IntKind.i64 (l.length : Int), AV.int IntKind.i64 0, AV.raw (Value.tuple #[]), AV.raw (Value.tuple #[]), AV.raw (Value.tuple #[]), AV.raw (Value.tuple #[]), AV.raw (Value.tuple #[]), AV.raw (Value.tuple #[]), AV.raw (Value.tuple #[]), AV.raw (Value.tuple #[]), AV.raw (Value.tuple #[]), AV.raw (Value.tuple #[]), AV.raw (Value.tuple #[]), AV.raw (Value.tuple #[]), AV.raw (Value.tuple #[]), AV.raw (Value.tuple #[]), AV.raw (Value.tuple #[]), AV.raw (Value.tuple #[]), AV.raw (Value.tuple #[]), AV.raw (Value.tuple #[]), AV.raw (Value.tuple #[]), AV.raw (Value.tuple #[]), AV.raw (Value.tuple #[]), AV.raw (Value.tuple #[]), AV.raw (Value.tuple #[]), AV.raw (Value.tuple #[]), AV.raw (Value.tuple #[]), AV.raw (Value.tuple #[]), AV.raw (Value.tuple #[]), AV.raw (Value.tuple #[]), AV.raw (Value.tuple #[]), AV.raw (Value.tuple #[]), AV.raw (Value.tuple #[]), AV.raw (Value.tuple #[]), AV.raw (Value.tuple #[]), AV.raw (Value.tuple #[]), AV.raw (Value.tuple #[]), AV.raw (Value.tuple #[]), AV.raw (Value.tuple #[]), AV.raw (Value.tuple #[]), AV.raw (Value.tuple #[]), AV.raw (Value.tuple #[]), AV.raw (Value.tuple #[]), AV.raw (Value.tuple #[]), AV.raw (Value.tuple #[]), AV.raw (Value.tuple #[]), AV.raw (Value.tuple #[]), AV.raw (Value.tuple #[]), AV.raw (Value.tuple #[]), AV.raw (Value.tuple #[]), AV.raw (Value.tuple #[]), AV.raw (Value.tuple #[]), AV.raw (Value.tuple #[]), AV.raw (Value.tuple #[]), AV.raw (Value.tuple #[]), AV.raw (Value.tuple #[]), AV.raw (Value.tuple #[]), AV.raw (Value.tuple #[]), AV.raw (Value.tuple #[]), AV.raw (Value.tuple #[]), AV.raw (Value.tuple #[]), AV.raw (Value.tuple #[]), AV.raw (Value.tuple #[]), AV.raw (Value.tuple #[]), AV.raw (Value.tuple #[]), AV.raw (Value.tuple #[]), AV.raw (Value.tuple #[]), AV.raw (Value.tuple #[]), AV.raw (Value.tuple #[]), AV.raw (Value.tuple #[]), AV.raw (Value.tuple #[]), AV.raw (Value.tuple #[]), AV.raw (Value.tuple #[]), AV.raw (Value.tuple #[]), AV.raw (Value.tuple #[]), AV.raw (Value.tuple #[]), AV.raw (Value.tuple #[]), AV.raw (Value.tuple #[]), AV.raw (Value.tuple #[]), AV.raw (Value.tuple #[]), AV.raw (Value.tuple #[]), AV.raw (Value.tuple #[]), AV.raw (Value.tuple #[]), AV.raw (Value.tuple #[]), AV.raw (Value.tuple #[]), AV.raw (Value.tuple #[]), AV.raw (Value.tuple #[]), AV.raw (Value.tuple #[]), AV.raw (Value.tuple #[]), AV.raw (Value.tuple #[]), AV.raw (Value.tuple #[]), AV.raw (Value.tuple #[]), AV.raw (Value.tuple #[]), AV.raw (Value.tuple #[]), AV.raw (Value.tuple #[]), AV.raw (Value.tuple #[]), AV.raw (Value.tuple #[]), AV.raw (Value.tuple #[]), AV.raw (Value.tuple #[]), AV.raw (Value.tuple #[]), AV.raw (Value.tuple #[]), AV.raw (Value.tuple #[]), AV.raw (Value.tuple #[]), AV.raw (Value.tuple #[]), AV.raw (Value.tuple #[]), AV.raw (Value.tuple #[]), AV.raw (Value.tuple #[]), AV.raw (Value.tuple #[]), AV.raw (Value.tuple #[]), AV.raw (Value.tuple #[]), AV.raw (Value.tuple #[]), AV.raw (Value.tuple #[]), AV.raw (Value.tuple #[]), AV.raw (Value.tuple #[]), AV.raw (Value.tuple #[]), AV.raw (Value.tuple #[]), AV.raw (Value.tuple #[]), AV.raw (Value.tuple #[]), AV.raw (Value.tuple #[]), AV.raw (Value.tuple #[]), AV.raw (Value.tuple #[]), AV.raw (Value.tuple #[]), AV.raw (Value.tuple #[]), AV.raw (Value.tuple #[]), AV.raw (Value.tuple #[]), AV.raw (Value.tuple #[]), AV.raw (Value.tuple #[]), AV.raw (Value.tuple #[]), AV.raw (Value.tuple #[]), AV.raw (Value.tuple #[]), AV.raw (Value.tuple #[]), AV.raw (Value.tuple #[]), AV.raw (Value.tuple #[]), AV.raw (Value.tuple #[]), AV.raw (Value.tuple #[]), AV.raw (Value.tuple #[]), AV.raw (Value.tuple #[]), AV.raw (Value.tuple #[]), AV.raw (Value.tuple #[]), AV.raw (Value.tuple #[]), AV.raw (Value.tuple #[]), AV.raw (Value.tuple #[]), AV.raw (Value.tuple #[]), AV.raw (Value.tuple #[]), AV.raw (Value.tuple #[]), AV.raw (Value.tuple #[]), AV.raw (Value.tuple #[]), AV.raw (Value.tuple #[]), AV.raw (Value.tuple #[])] [6, 7, 8, 9, 11, 23, 24, 25, 26, 27, 28, 29, 30, 31, 32, 33, 34, 35, 36, 37, 38, 39, 40, 41, 42, 43, 44, 45, 46, 47, 48, 49, 50, 51, 52, 53, 54, 55, 56, 57, 58, 59, 60, 61, 62, 63, 64, 65, 66, 67, 68, 69, 70, 71, 72, 73, 74, 75, 76, 77, 78, 79, 80, 81, 82, 83, 84, 85, 86, 87, 88, 89, 90, 91, 92, 93, 94, 95, 96, 97, 98, 99, 100, 101, 102, 103, 104, 105, 106, 107, 108, 109, 110, 111, 112, 113, 114, 115, 116, 117, 118, 119, 120, 121, 122, 123, 124, 125, 126, 127, 128, 129, 130, 131, 132, 133, 134, 135, 136, 137, 138, 139, 140, 141, 142, 143, 144, 145, 146, 147, 148, 149, 150, 151, 152, 153, 154, 155, 156, 157, 158, 159, 160, 161, 162, 163, 164, 165, 166, 167, 168, 169, 170] ρ, ⟨h, [], nx, lv⟩⟩ Q := by
  conv => arg 3; whnf
  have hsc := hb.sc
  have hgt := hb.gt
  have hsw := within_iff.1 hs
  have hlt' : ((i : Int) < (l.length : Int)) = True := by simp; omega
  have hi0 : ((0 : Int) ≤ (i : Int)) = True := by simp
  have hle : ((i : Int) ≤ (l.length : Int)) = True := by simp; omega
  have ew : IntKind.i64.wrap ((i : Int) + 1) = (i : Int) + 1 := i64_in (by omega) (by omega)
  simp (config := {maxSteps := 1000000}) only [go_sem, hi0, hle, hp, dFlt, e23, hlt']
  generalize genO (AB.hget h 8) = G
  have hw : within 7 1 7 = true := rfl
  by_cases a1 : who < 0
  · simp (config := {maxSteps := 1000000}) only [go_sem, (by simp [a1] : (who < 0) = True), hR]
    exact hit 3 (by decide) (by simp [fltE, mostF, hw, (within_no (.inl a1) : within who 0 (sets - 1) = false)])
  have a1' : (who < 0) = False := by simp [a1]
  simp (config := {maxSteps := 1000000}) only [go_sem, hi0, hle, hp, dFlt, a1']
  by_cases a2 : sets ≤ who
  · simp (config := {maxSteps := 1000000}) only [go_sem, (by simp [a2] : (sets ≤ who) = True), hR]
    exact hit 3 (by decide) (by simp [fltE, mostF, hw, (within_no (.inr (by omega)) : within who 0 (sets - 1) = false)])
  have a2' : (sets ≤ who) = False := by simp [a2]
  simp (config := {maxSteps := 1000000}) only [go_sem, hi0, hle, hp, dFlt, a2']
  have c1 : within who 0 (sets - 1) = true := within_iff.2 (by omega)
  by_cases b1 : fr < 0
  · simp (config := {maxSteps := 1000000}) only [go_sem, (by simp [b1] : (fr < 0) = True), hR]
    exact hit 13 (by decide) (by simp [fltE, mostF, hw, c1, (within_no (.inl b1) : within fr 0 28799 = false)])
  have b1' : (fr < 0) = False := by simp [b1]
  simp (config := {maxSteps := 1000000}) only [go_sem, hi0, hle, hp, dFlt, b1']
  by_cases b2 : 28800 ≤ fr
  · simp (config := {maxSteps := 1000000}) only [go_sem, (by simp [b2] : (28800 ≤ fr) = True), hR]
    exact hit 13 (by decide) (by simp [fltE, mostF, hw, c1, (within_no (.inr (by omega)) : within fr 0 28799 = false)])
  have b2' : (28800 ≤ fr) = False := by simp [b2]
  simp (config := {maxSteps := 1000000}) only [go_sem, hi0, hle, hp, dFlt, b2']
  have c2 : within fr 0 28799 = true := within_iff.2 (by omega)
  by_cases b3 : upto ≤ fr
  · simp (config := {maxSteps := 1000000}) only [go_sem, (by simp [b3] : (upto ≤ fr) = True), hR]
    exact hit 13 (by decide) (by simp [fltE, mostF, hw, c1, c2, (within_no (.inl (by omega)) : within upto (fr + 1) 28800 = false)])
  have b3' : (upto ≤ fr) = False := by simp [b3]
  simp (config := {maxSteps := 1000000}) only [go_sem, hi0, hle, hp, dFlt, b3']
  by_cases b4 : 28800 < upto
  · simp (config := {maxSteps := 1000000}) only [go_sem, (by simp [b4] : (28800 < upto) = True), hR]
    exact hit 13 (by decide) (by simp [fltE, mostF, hw, c1, c2, (within_no (.inr b4) : within upto (fr + 1) 28800 = false)])
  have b4' : (28800 < upto) = False := by simp [b4]
  simp (config := {maxSteps := 1000000}) only [go_sem, hi0, hle, hp, dFlt, b4']
  have c3 : within upto (fr + 1) 28800 = true := within_iff.2 (by omega)
  by_cases d1 : much = 0
  rotate_left
  · simp (config := {maxSteps := 1000000}) only [go_sem, (by simp [d1] : (much = 0) = False), hR]
    exact hit 1 (by decide) (by simp [fltE, mostF, hw, c1, c2, c3, d1])
  simp (config := {maxSteps := 1000000}) only [go_sem, hi0, hle, hp, dFlt, d1]
  have hv : fltE n sets k ⟨7, who, fr, upto, much⟩ = if k.any (clash ⟨7, who, fr, upto, much⟩) = true then 8 else 0 := by simp [-List.any_eq_true, -List.any_eq_false, fltE, mostF, hw, c1, c2, c3, d1]
  refine ⟨Nat.zero_le _, g1, ?_⟩
  rw [htl]
  simp (config := {maxSteps := 1000000}) only [go_sem, List.length_map, hkl]
  refine AW_loopH [6, 11, 139, 140, 141, 142, 143, 144, 145, 146, 147, 148, 149, 150, 151, 152, 153, 154, 155, 156, 157, 158, 159, 160, 161, 162, 163, 164, 165, 166, 167, 168, 169]
    (fun (j : Nat) ρ m => ρ 139 = .int .i64 (j : Int) ∧ j ≤ i ∧ (k.take j).any (clash ⟨7, who, fr, upto, much⟩) = false ∧ ∃ h nx lv, m = ⟨h, [], nx, lv⟩ ∧ AB.hget h 3 = some (0, nCells n) ∧ AB.hget h 8 = some (G, bFlt ⟨7, who, fr, upto, much⟩)) (fun j => i - j) 0 ?_ ?_
  · simp [go_sem, bFlt, hb3, nCells, d1]
  rintro j ρ2 m ⟨e139, gj, ga, h2, nx3, lv3, rfl, hb3', hb8⟩ Q2 hN2 hR2 hX2
  by_cases hjt : j < i
  rotate_left
  · have hjt' : ((j : Int) < (i : Int)) = False := by simp; omega
    rw [List.take_of_length_le (by omega)] at ga
    simp (config := {maxSteps := 1000000}) only [go_sem, e139, hjt', hX2, hN, ew]
    refine ⟨by kernel_rfl, i + 1, ?_, by simp only; omega⟩
    simp (config := {maxSteps := 1000000}) only [go_sem]
    exact ⟨by simp, by omega, go (by rw [hv, ga]; rfl), _, _, _, rfl, hb3'⟩
  obtain ⟨t, ht⟩ : ∃ t, k[j]? = some t := ⟨_, List.getElem?_eq_getElem (by omega)⟩
  have hpt : (k.map dFlt)[j]? = some (dFlt t) := by rw [List.getElem?_map, ht]; rfl
  have hjt' : ((j : Int) < (i : Int)) = True := by simp; omega
  have h0j : ((0 : Int) ≤ (j : Int)) = True := by simp
  have ewj : IntKind.i64.wrap ((j : Int) + 1) = (j : Int) + 1 := i64_in (by omega) (by omega)
  have ha := any_pre (f := ⟨7, who, fr, upto, much⟩) ht
  rw [ga, Bool.false_or] at ha
  have on : clash ⟨7, who, fr, upto, much⟩ t = false → (k.take (j + 1)).any (clash ⟨7, who, fr, upto, much⟩) = false := fun h => by rw [ha, h]
  simp (config := {maxSteps := 1000000}) only [go_sem, e139, hjt', h0j, hpt, dFlt, hb8, bFlt]
  by_cases x1 : t.kind = 7
  rotate_left
  · simp (config := {maxSteps := 1000000}) only [go_sem, (by simp [x1] : (t.kind = 7) = False), hN2, ewj]
    refine ⟨by kernel_rfl, j + 1, ?_, by simp only; omega⟩
    simp (config := {maxSteps := 1000000}) only [go_sem]
    exact ⟨by simp, by omega, on (by simp [clash, x1]), _, _, _, rfl, by simp [go_sem, hb3'], by simp [go_sem, hb8, bFlt]⟩
  simp (config := {maxSteps := 1000000}) only [go_sem, hb8, bFlt, (by simp [x1] : (t.kind = 7) = True)]
  by_cases x2 : t.who = who
  rotate_left
  · simp (config := {maxSteps := 1000000}) only [go_sem, (by simp [x2] : (t.who = who) = False), hN2, ewj]
    refine ⟨by kernel_rfl, j + 1, ?_, by simp only; omega⟩
    simp (config := {maxSteps := 1000000}) only [go_sem]
    exact ⟨by simp, by omega, on (by simp [clash, x2]), _, _, _, rfl, by simp [go_sem, hb3'], by simp [go_sem, hb8, bFlt]⟩
  simp (config := {maxSteps := 1000000}) only [go_sem, hb8, bFlt, (by simp [x2] : (t.who = who) = True)]
  by_cases x3 : fr < t.upto
  rotate_left
  · simp (config := {maxSteps := 1000000}) only [go_sem, (by simp [x3] : (fr < t.upto) = False), hN2, ewj]
    refine ⟨by kernel_rfl, j + 1, ?_, by simp only; omega⟩
    simp (config := {maxSteps := 1000000}) only [go_sem]
    exact ⟨by simp, by omega, on (by simp [clash, x3]), _, _, _, rfl, by simp [go_sem, hb3'], by simp [go_sem, hb8, bFlt]⟩
  simp (config := {maxSteps := 1000000}) only [go_sem, hb8, bFlt, (by simp [x3] : (fr < t.upto) = True)]
  by_cases x4 : t.fr < upto
  rotate_left
  · simp (config := {maxSteps := 1000000}) only [go_sem, (by simp [x4] : (t.fr < upto) = False), hN2, ewj]
    refine ⟨by kernel_rfl, j + 1, ?_, by simp only; omega⟩
    simp (config := {maxSteps := 1000000}) only [go_sem]
    exact ⟨by simp, by omega, on (by simp [clash, x4]), _, _, _, rfl, by simp [go_sem, hb3'], by simp [go_sem, hb8, bFlt]⟩
  simp (config := {maxSteps := 1000000}) only [go_sem, hb8, bFlt, (by simp [x4] : (t.fr < upto) = True), hR2, hR]
  exact hit 8 (by decide) (by rw [hv, if_pos (List.any_eq_true.2 ⟨t, List.mem_of_getElem? ht, by simp [clash, x1, x2, x3, x4]⟩)])
end Go.Proofs.YtaieadcnhlapdaaDoor

/- FaultsError of the reference, for all nets, numbers and faults. -/
namespace Go.Proofs.YtaieadcnhlapdaaDoor
set_option linter.unusedSimpArgs false
set_option linter.unusedVariables false
open Go.AB

set_option maxRecDepth 40000 in
set_option maxHeartbeats 16000000 in
theorem f18 (n : Net) (hb : NetB n) (sets : Int) (l : List Flt) (hl : l.length ≤ 140737488351232) : PCall Tryd.prog 18 [eNet n, .int .i64 sets, .sl 5 (l.map dFlt) .no] (RV (.int .i64 (errG n sets l))) := by
  refine PCall.of_body Tryd.func18 rfl Tryd.ntmps18 (congrArg Array.toList Tryd.results18) ?_
  intro E
  have hsc := hb.sc
  have hgt := hb.gt
  by_cases s1 : sets < 0
  · have hw : within sets 0 8 = false := within_no (.inl s1)
    simp (config := {maxSteps := 1000000}) only [go_sem, eNet, nCells, (by simp [s1] : (sets < 0) = True)]
    simp [errG, hw]
  by_cases s2 : 8 < sets
  · have hw : within sets 0 8 = false := within_no (.inr s2)
    simp (config := {maxSteps := 1000000}) only [go_sem, eNet, nCells, (by simp [s1] : (sets < 0) = False), (by simp [s2] : (8 < sets) = True)]
    simp [errG, hw]
  have hs : within sets 0 8 = true := within_iff.2 (by omega)
  have hsw := within_iff.1 hs
  by_cases h8 : l.length ≤ 20
  rotate_left
  · have h8' : ((20 : Int) < (l.length : Int)) = True := by simp; omega
    simp (config := {maxSteps := 1000000}) only [go_sem, eNet, nCells, (by simp [s1] : (sets < 0) = False), (by simp [s2] : (8 < sets) = False), h8']
    simp [errG, hs, h8]
  have h8' : ((20 : Int) < (l.length : Int)) = False := by simp; omega
  have hE : errG n sets l = firstE (atF n sets l) l.length 0 := by simp [errG, hs, h8]
  simp (config := {maxSteps := 1000000}) only [go_sem, eNet, nCells, (by simp [s1] : (sets < 0) = False), (by simp [s2] : (8 < sets) = False), h8']
  refine AW_loopH [6, 7, 8, 9, 11, 23, 24, 25, 26, 27, 28, 29, 30, 31, 32, 33, 34, 35, 36, 37, 38, 39, 40, 41, 42, 43, 44, 45, 46, 47, 48, 49, 50, 51, 52, 53, 54, 55, 56, 57, 58, 59, 60, 61, 62, 63, 64, 65, 66, 67, 68, 69, 70, 71, 72, 73, 74, 75, 76, 77, 78, 79, 80, 81, 82, 83, 84, 85, 86, 87, 88, 89, 90, 91, 92, 93, 94, 95, 96, 97, 98, 99, 100, 101, 102, 103, 104, 105, 106, 107, 108, 109, 110, 111, 112, 113, 114, 115, 116, 117, 118, 119, 120, 121, 122, 123, 124, 125, 126, 127, 128, 129, 130, 131, 132, 133, 134, 135, 136, 137, 138, 139, 140, 141, 142, 143, 144, 145, 146, 147, 148, 149, 150, 151, 152, 153, 154, 155, 156, 157, 158, 159, 160, 161, 162, 163, 164, 165, 166, 167, 168, 169, 170]
    (fun (i : Nat) ρ m => ρ 23 = .int .i64 (i : Int) ∧ i ≤ l.length ∧ firstE (atF n sets l) (l.length - i) i = errG n sets l ∧ ∃ h nx lv, m = ⟨h, [], nx, lv⟩ ∧ AB.hget h 3 = some (0, nCells n)) (fun i => l.length - i) 0 ?_ ?_
  · simp [go_sem, hE, nCells]
  · rintro i ρ m ⟨e23, g1, gE, h, nx, lv, rfl, hb3⟩ Q hN hR hX
    by_cases hlt : i < l.length
    rotate_left
    · have hlt' : ((i : Int) < (l.length : Int)) = False := by simp; omega
      rw [firstE_end hlt] at gE
      simp (config := {maxSteps := 1000000}) only [go_sem, e23, hlt', hX]
      exact gE
    obtain ⟨⟨kind, who, fr, upto, much⟩, hf⟩ : ∃ f, l[i]? = some f := ⟨_, List.getElem?_eq_getElem hlt⟩
    have hp : (l.map dFlt)[i]? = some (dFlt ⟨kind, who, fr, upto, much⟩) := by rw [List.getElem?_map, hf]; rfl
    have hlt' : ((i : Int) < (l.length : Int)) = True := by simp; omega
    have hi0 : ((0 : Int) ≤ (i : Int)) = True := by simp
    have hle : ((i : Int) ≤ (l.length : Int)) = True := by simp; omega
    have ew : IntKind.i64.wrap ((i : Int) + 1) = (i : Int) + 1 := i64_in (by omega) (by omega)
    have hat : atF n sets l i = fltE n sets (l.take i) ⟨kind, who, fr, upto, much⟩ := by simp [atF, hf]
    have hit : ∀ v : Int, v ≠ 0 → fltE n sets (l.take i) ⟨kind, who, fr, upto, much⟩ = v → v = errG n sets l := fun v hv h => (firstE_hit hlt (hat.trans h) hv gE).symm
    have go : fltE n sets (l.take i) ⟨kind, who, fr, upto, much⟩ = 0 → firstE (atF n sets l) (l.length - (i + 1)) (i + 1) = errG n sets l := fun h => firstE_go hlt (hat.trans h) gE
    have htl : List.take (i - 0) (List.map dFlt l) = (l.take i).map dFlt := by simp [List.map_take]
    have hkl : (l.take i).length = i := by rw [List.length_take]; omega
    by_cases k0 : kind < 1
    · have hw : within kind 1 7 = false := within_no (.inl k0)
      simp (config := {maxSteps := 1000000}) only [go_sem, e23, hlt', hi0, hp, dFlt, (by simp [k0] : (kind < 1) = True), hR]
      exact hit 15 (by decide) (by simp [fltE, hw])
    by_cases k8 : 7 < kind
    · have hw : within kind 1 7 = false := within_no (.inr k8)
      simp (config := {maxSteps := 1000000}) only [go_sem, e23, hlt', hi0, hp, dFlt, (by simp [k0] : (kind < 1) = False), (by simp [k8] : (7 < kind) = True), hR]
      exact hit 15 (by decide) (by simp [fltE, hw])
    have hkk : kind = 1 ∨ kind = 2 ∨ kind = 3 ∨ kind = 4 ∨ kind = 5 ∨ kind = 6 ∨ kind = 7 := by omega
    rcases hkk with rfl | rfl | rfl | rfl | rfl | rfl | rfl
    · exact r18_1 hb hl hs g1 e23 hb3 hlt hp hit go htl hkl hN hR
    · exact r18_2 hb hl hs g1 e23 hb3 hlt hp hit go htl hkl hN hR
    · exact r18_3 hb hl hs g1 e23 hb3 hlt hp hit go htl hkl hN hR
    · exact r18_4 hb hl hs g1 e23 hb3 hlt hp hit go htl hkl hN hR
    · exact r18_5 hb hl hs g1 e23 hb3 hlt hp hit go htl hkl hN hR
    · exact r18_6 hb hl hs g1 e23 hb3 hlt hp hit go htl hkl hN hR
    · exact r18_7 hb hl hs g1 e23 hb3 hlt hp hit go htl hkl hN hR
end Go.Proofs.YtaieadcnhlapdaaDoor
