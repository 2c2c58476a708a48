/- The contract of the reference's Smooth. -/
import Derived.Test.YthbdjgjpocfneaaC14
namespace Go.Proofs.Ythbdjgjpocfneaa
open Go.AB

theorem inU_zero : inU (fun _ => 0) := fun _ => ⟨Int.le_refl 0, show (0 : Int) ≤ 36028797018963968 by omega⟩
theorem inU_upd {u : Nat → Int} (h : inU u) {k : Nat} {v : Int} (h1 : 0 ≤ v) (h2 : v ≤ 36028797018963968) : inU (upd u k v) := by
  intro i
  unfold upd
  split
  · exact ⟨h1, h2⟩
  · exact h i
theorem dropG {α : Type} {l : List α} {x : Nat} {c : α} (h : l[x]? = some c) : l.drop x = c :: l.drop (x + 1) := by
  have hlt := (List.getElem?_eq_some_iff.1 h).1
  rw [List.drop_eq_getElem_cons hlt]
  congr 1
  rw [List.getElem?_eq_getElem hlt] at h
  exact Option.some.inj h
theorem findD_stop {u : Nat → Int} {limit : Int} {k : Nat} {l : List Int} {d : Nat} (h : ¬ (d ≤ k ∧ fitsF u limit d l = false)) : findD u limit k l d = d := by
  rw [findD, if_neg h]
theorem findD_on {u : Nat → Int} {limit : Int} {k : Nat} {l : List Int} {d : Nat} (h1 : d ≤ k) (h2 : fitsF u limit d l = false) : findD u limit k l d = findD u limit k l (d + 1) := by
  rw [findD, if_pos ⟨h1, h2⟩]

set_option maxHeartbeats 8000000 in
set_option maxRecDepth 20000 in
theorem f51 (pw : List (List Int)) (limit : Int) (k : Nat) (hpw : pw.length ≤ 12) (hl : pw.all (fun l => decide (l.length ≤ 3600)) = true) (hp : pw.all (fun l => l.all inP) = true) (hlim : 0 ≤ limit ∧ limit ≤ 36028797018963968) (hk : k ≤ 3600) :
    PCall Try.prog 51 [.sl 1 (pw.map dInts) .no, .int .i64 limit, .int .i64 (k : Int)] (RV (.tup [.sl 1 (((smoothF limit k (fun _ => 0) pw).getD []).map (DV.int .i64)) .no, .bool (smoothF limit k (fun _ => 0) pw).isSome])) := by
  refine PCall.of_bodyE Try.func51 rfl Try.ntmps51 (congrArg Array.toList Try.results51) ?_
  intro E
  obtain ⟨N, hNk⟩ : ∃ N, N = k + 3601 := ⟨_, rfl⟩
  have hN : ((k : Int) + 3600 + 1).toNat = N := by omega
  simp (config := {maxSteps := 1000000}) (disch := omega) only [go_sem, i64_in, hN, made_cells]
  refine ⟨by omega, by omega, by omega, ?_⟩
  refine AW_loopS [9, 11, 12, 13, 14, 21, 22, 23, 24, 25, 26, 27, 28, 29, 30, 31, 32, 33, 34, 35, 36, 37, 38, 39, 40, 41, 42, 43, 44, 45, 46, 47, 48, 49, 50, 51, 52, 53, 54, 55, 56, 57, 58, 59, 60, 61, 62]
    (fun (x : Nat × (Nat → Int) × List Int) ρ m => ρ 21 = .int .i64 (x.1 : Int) ∧ (∃ tok, ρ 9 = .sl 1 (x.2.2.map (DV.int .i64)) tok ∧ okT m tok) ∧ (∃ nx lv, m = ⟨[(18, 0, cellsU N x.2.1)], [], nx, lv⟩) ∧ x.1 ≤ pw.length ∧ inU x.2.1 ∧ x.2.2.length = x.1 ∧
      smoothF limit k (fun _ => 0) pw = (smoothF limit k x.2.1 (pw.drop x.1)).map (x.2.2 ++ ·)) (fun x => pw.length - x.1) (0, (fun _ => 0), []) ?_ ?_
  · simp only [go_sem]
    refine ⟨⟨_, _, rfl⟩, Nat.zero_le _, inU_zero, ?_⟩
    cases smoothF limit k (fun _ => 0) pw <;> rfl
  · rintro ⟨x, u, out⟩ ρ m ⟨e21, ⟨tok, e9, hok⟩, ⟨nx, lv, rfl⟩, hx, hu, hout, hsm⟩
    dsimp only at e21 e9 hx hu hout hsm
    by_cases hlt : x < pw.length
    · have hlt' : ((x : Int) < (pw.length : Int)) = True := by simp; omega
      obtain ⟨l, hc⟩ : ∃ c, pw[x]? = some c := ⟨_, List.getElem?_eq_getElem hlt⟩
      have hll : l.length ≤ 3600 := by simpa using List.all_eq_true.1 hl l (List.mem_of_getElem? hc)
      have hlp := List.all_eq_true.1 hp l (List.mem_of_getElem? hc)
      rw [dropG hc, smoothF] at hsm
      simp (config := {maxSteps := 1000000}) (disch := omega) only [go_sem, e21, e9, hlt', hc, i64_in, dInts]
      refine ⟨by omega, ?_⟩
      refine AW_loopS [12, 25, 26, 27, 28, 29, 30, 31, 32, 33, 34, 35, 36, 37] (fun (d : Nat) ρ m => ρ 12 = .int .i64 (d : Int) ∧ (∃ nx lv, m = ⟨[(18, 0, cellsU N u)], [], nx, lv⟩ ∧ okT m tok) ∧ d ≤ k + 1 ∧ findD u limit k l d = findD u limit k l 0) (fun d => k + 1 - d) 0 ?_ ?_
      · simp only [go_sem]
        exact ⟨_, _, rfl, okT_mono hok fun _ h => h⟩
      rintro d ρ2 m ⟨e12, ⟨nx2, lv2, rfl, hok2⟩, hd, hf⟩
      by_cases hdk : d ≤ k
      · have hdk' : ((d : Int) ≤ (k : Int)) = True := by simp; omega
        simp (config := {maxSteps := 1000000}) (disch := omega) only [go_sem, e12, hdk', i64_in, take_cells, toDs_cells, dcellsU_len]
        refine quiet (f77 l N u d limit hll (by omega) (by omega) hu hlp) rfl ?_
        cases hfit : fitsF u limit d l with
        | false =>
          simp (config := {maxSteps := 1000000}) (disch := omega) only [go_sem, i64_in]
          refine ⟨by kernel_rfl, d + 1, ?_, by simp only; omega⟩
          simp only [go_sem]
          exact ⟨by simp, ⟨_, _, rfl, okT_mono hok2 fun _ h => h⟩, by omega, by rw [← findD_on hdk hfit]; exact hf⟩
        | true =>
          have hD : findD u limit k l 0 = d := by rw [← hf, findD_stop (by rw [hfit]; simp)]
          rw [hD, if_neg (by omega)] at hsm
          have hdk2 : ((k : Int) < (d : Int)) = False := by simp; omega
          simp (config := {maxSteps := 1000000}) (disch := omega) only [go_sem, i64_in, hdk2]
          refine AW_loopS [13, 14, 43, 44, 45, 46, 47, 48, 49, 50, 51, 52, 53, 54, 55, 56, 57] (fun (y : Nat × (Nat → Int)) ρ m => ρ 43 = .int .i64 (y.1 : Int) ∧ (∃ nx lv, m = ⟨[(18, 0, cellsU N y.2)], [], nx, lv⟩ ∧ okT m tok) ∧ y.1 ≤ l.length ∧ inU y.2 ∧ fitsF y.2 limit (d + y.1) (l.drop y.1) = true ∧ addU y.2 (d + y.1) (l.drop y.1) = addU u d l) (fun y => l.length - y.1) (0, u) ?_ ?_
          · simp only [go_sem]
            exact ⟨⟨_, _, rfl, okT_mono hok2 fun _ h => h⟩, Nat.zero_le _, hu, hfit, rfl⟩
          rintro ⟨y, v⟩ ρ3 m ⟨e43, ⟨nx3, lv3, rfl, hok3⟩, hy, hv, hft, hadd⟩
          dsimp only at e43 hy hv hft hadd
          by_cases hylt : y < l.length
          · have hylt' : ((y : Int) < (l.length : Int)) = True := by simp; omega
            obtain ⟨p, hpy⟩ : ∃ c, l[y]? = some c := ⟨_, List.getElem?_eq_getElem hylt⟩
            have hpb := List.all_eq_true.1 hlp p (List.mem_of_getElem? hpy)
            simp only [inP, Bool.and_eq_true, decide_eq_true_eq] at hpb
            rw [dropG hpy, fitsF, Bool.and_eq_true, decide_eq_true_eq] at hft
            rw [dropG hpy, addU] at hadd
            have hvb := hv (d + y)
            have hnat : ((d : Int) + (y : Int)).toNat = d + y := by omega
            have hdrop := cellsU_drop (u := v) (n := N) (k := d + y) (by omega)
            simp (config := {maxSteps := 1000000}) (disch := omega) only [go_sem, e43, hylt', hpy, i64_in, hnat, hdrop, cellsU_len, spl_cells, Nat.zero_add, Nat.mul_one]
            refine ⟨by omega, by omega, by omega, by omega, by omega, by omega, by kernel_rfl, (y + 1, upd v (d + y) (v (d + y) + p)), ?_, by simp only; omega⟩
            simp only [go_sem]
            refine ⟨by simp, ⟨_, _, rfl, okT_mono hok3 fun _ h => h⟩, by omega, inU_upd hv (by omega) (by omega), ?_, ?_⟩
            · rw [← Nat.add_assoc, fitsF_upd v limit (d + y) _ _ (d + y + 1) (by omega)]; exact hft.2
            · rw [← Nat.add_assoc]; exact hadd
          · have hylt' : ((y : Int) < (l.length : Int)) = False := by simp; omega
            rw [List.drop_eq_nil_of_le (by omega), addU] at hadd
            simp (config := {maxSteps := 1000000}) (disch := omega) only [go_sem, e43, hylt', i64_in]
            refine ⟨okT_mono hok3 fun _ h => .inr h, by omega, by kernel_rfl, (x + 1, v, out ++ [(d : Int)]), ?_, by simp only; omega⟩
            simp only [go_sem]
            refine ⟨by simp, ⟨_, ⟨by simp, rfl⟩, Or.inl rfl⟩, ⟨_, _, rfl⟩, by omega, hv, by simp; omega, ?_⟩
            rw [hsm, ← hadd]
            cases smoothF limit k v (pw.drop (x + 1)) <;> simp
      · have hdk' : ((d : Int) ≤ (k : Int)) = False := by simp; omega
        have hdk2 : ((k : Int) < (d : Int)) = True := by simp; omega
        have hD : findD u limit k l 0 = d := by rw [← hf, findD_stop (fun h => hdk h.1)]
        rw [hD, if_pos (by omega)] at hsm
        simp (config := {maxSteps := 1000000}) (disch := omega) only [go_sem, e12, hdk', hdk2, i64_in]
        simp [hsm]
    · have hlt' : ((x : Int) < (pw.length : Int)) = False := by simp; omega
      rw [List.drop_eq_nil_of_le (by omega), smoothF] at hsm
      simp (config := {maxSteps := 1000000}) (disch := omega) only [go_sem, e21, e9, hlt', i64_in]
      rw [hsm]
      simp
end Go.Proofs.Ythbdjgjpocfneaa
