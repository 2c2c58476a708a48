/- The contract of Smooth, for all powers and numbers. -/
import Derived.Test.YthbdjgjpocfneaaC15
namespace Go.Proofs.Ythbdjgjpocfneaa
open Go.AB

def smVal (pw : List (List Int)) (limit most : Int) : List Int := if smErr pw limit most = 0 then (smoothF limit most.toNat (fun _ => 0) pw).getD [] else []
def smE (pw : List (List Int)) (limit most : Int) : Int := if smErr pw limit most = 0 then (if (smoothF limit most.toNat (fun _ => 0) pw).isSome = true then 0 else 9) else smErr pw limit most
theorem sm_bad {pw : List (List Int)} {limit most e : Int} (h : e = smErr pw limit most) (he : e ≠ 0) : [] = (smVal pw limit most).map (DV.int .i64) ∧ e = smE pw limit most := by
  unfold smVal smE
  rw [← h, if_neg he, if_neg he]
  simp

set_option maxHeartbeats 8000000 in
set_option maxRecDepth 20000 in
theorem f49 (pw : List (List Int)) (limit most : Int) (hpw : pw.length ≤ 140737488351232) (hl : ∀ l ∈ pw, l.length ≤ 140737488351232) : PCall Try.prog 49 [.sl 1 (pw.map dInts) .no, .int .i64 limit, .int .i64 most] (RV (.tup [.sl 1 ((smVal pw limit most).map (DV.int .i64)) .no, .int .i64 (smE pw limit most)])) := by
  refine PCall.of_bodyE Try.func49 rfl Try.ntmps49 (congrArg Array.toList Try.results49) ?_
  intro E
  simp (config := {maxSteps := 1000000}) only [go_sem]
  refine ⟨fun h => sm_bad (e := 4) (by unfold smErr; rw [if_pos (by omega)]) (by omega), fun h => ?_⟩
  have h12 : ¬ 12 < pw.length := by omega
  refine AW_loopS [9, 27, 28, 29, 30, 31, 32, 33, 34] (fun (x : Nat) ρ m => ρ 27 = .int .i64 (x : Int) ∧ (∃ nx lv, m = ⟨[(4, 0, [.int .i64 limit])], [], nx, lv⟩) ∧ x ≤ pw.length ∧ (pw.take x).all (fun l => decide (l.length ≤ 3600)) = true) (fun x => pw.length - x) 0 ?_ ?_
  · simp only [go_sem]
    exact ⟨⟨_, _, rfl⟩, Nat.zero_le _⟩
  rintro x ρ m ⟨e18, ⟨nx, lv, rfl⟩, hx, hall⟩
  by_cases hlt : x < pw.length
  · have hlt' : ((x : Int) < (pw.length : Int)) = True := by simp; omega
    obtain ⟨c, hc⟩ : ∃ c, pw[x]? = some c := ⟨_, List.getElem?_eq_getElem hlt⟩
    have ht := take_allG (p := fun l => decide (l.length ≤ 3600)) hc
    simp (config := {maxSteps := 1000000}) (disch := omega) only [go_sem, e18, hlt', hc, i64_in, dInts]
    refine ⟨by omega, fun h1 => sm_bad (e := 4) ?_ (by omega), fun h1 => ?_⟩
    · have := allG_bad (p := fun l => decide (l.length ≤ 3600)) hc (by simp; omega)
      unfold smErr; rw [if_neg h12, if_neg this]
    · refine ⟨by kernel_rfl, x + 1, ?_, by simp only; omega⟩
      simp only [go_sem]
      exact ⟨by simp, ⟨_, _, rfl⟩, by omega, by rw [ht, hall]; simp; omega⟩
  have hlt' : ((x : Int) < (pw.length : Int)) = False := by simp; omega
  rw [List.take_of_length_le (by omega)] at hall
  simp (config := {maxSteps := 1000000}) (disch := omega) only [go_sem, e18, hlt', i64_in]
  refine AW_loopS [11, 12, 13, 37, 38, 39, 40, 41, 42, 43, 44, 45, 46, 47, 48, 49, 50, 51] (fun (x : Nat) ρ m => ρ 37 = .int .i64 (x : Int) ∧ (∃ nx lv, m = ⟨[(4, 0, [.int .i64 limit])], [], nx, lv⟩) ∧ x ≤ pw.length ∧ (pw.take x).all (fun l => l.all inP) = true) (fun x => pw.length - x) 0 ?_ ?_
  · simp only [go_sem]
    exact ⟨⟨_, _, rfl⟩, Nat.zero_le _⟩
  clear e18 hlt' hlt hx
  rintro x ρ1 m ⟨e28, ⟨nx, lv, rfl⟩, hx, hal2⟩
  by_cases hlt : x < pw.length
  · have hlt' : ((x : Int) < (pw.length : Int)) = True := by simp; omega
    obtain ⟨l, hc⟩ : ∃ c, pw[x]? = some c := ⟨_, List.getElem?_eq_getElem hlt⟩
    have ht := take_allG (p := fun l => l.all inP) hc
    have hll := hl l (List.mem_of_getElem? hc)
    simp (config := {maxSteps := 1000000}) (disch := omega) only [go_sem, e28, hlt', hc, i64_in, dInts]
    refine ⟨by omega, ?_⟩
    refine AW_loopS [13, 43, 44, 45, 46, 47, 48, 49, 50] (fun (y : Nat) ρ m => ρ 43 = .int .i64 (y : Int) ∧ (∃ nx lv, m = ⟨[(4, 0, [.int .i64 limit])], [], nx, lv⟩) ∧ y ≤ l.length ∧ (l.take y).all inP = true) (fun y => l.length - y) 0 ?_ ?_
    · simp only [go_sem]
      exact ⟨⟨_, _, rfl⟩, Nat.zero_le _⟩
    rintro y ρ2 m ⟨e34, ⟨nx2, lv2, rfl⟩, hy, hal3⟩
    by_cases hylt : y < l.length
    · have hylt' : ((y : Int) < (l.length : Int)) = True := by simp; omega
      obtain ⟨c, hd⟩ : ∃ c, l[y]? = some c := ⟨_, List.getElem?_eq_getElem hylt⟩
      have ht3 := take_allG (p := inP) hd
      simp (config := {maxSteps := 1000000}) (disch := omega) only [go_sem, e34, hylt', hd, i64_in, dInts]
      refine ⟨by omega, callV (f69 _ _ _) ?_⟩
      intro nx3 lv3
      simp (config := {maxSteps := 1000000}) (disch := omega) only [go_sem, i64_in]
      refine ⟨fun h1 => sm_bad (e := 2) ?_ (by omega), fun h1 => ?_⟩
      · have hb : inP c = false := h1
        have := allG_bad (p := fun l => l.all inP) hc (by
          have := allG_bad hd hb
          simpa using this)
        unfold smErr; rw [if_neg h12, if_pos hall, if_neg this]
      · have hb : inP c = true := h1
        refine ⟨by kernel_rfl, y + 1, ?_, by simp only; omega⟩
        simp only [go_sem]
        exact ⟨by simp, ⟨_, _, rfl⟩, by omega, by rw [ht3, hal3, hb]; rfl⟩
    · have hylt' : ((y : Int) < (l.length : Int)) = False := by simp; omega
      rw [List.take_of_length_le (by omega)] at hal3
      simp (config := {maxSteps := 1000000}) (disch := omega) only [go_sem, e34, hylt', i64_in]
      refine ⟨by kernel_rfl, x + 1, ?_, by simp only; omega⟩
      simp only [go_sem]
      exact ⟨by simp, ⟨_, _, rfl⟩, by omega, by rw [ht, hal2, hal3]; rfl⟩
  have hlt' : ((x : Int) < (pw.length : Int)) = False := by simp; omega
  rw [List.take_of_length_le (by omega)] at hal2
  simp (config := {maxSteps := 1000000}) (disch := omega) only [go_sem, e28, hlt', i64_in]
  have bad : ¬ ((0 ≤ limit ∧ limit ≤ 36028797018963968) ∧ 0 ≤ most ∧ most ≤ 3600) → 2 = smErr pw limit most := fun hb => by
    unfold smErr; rw [if_neg h12, if_pos hall, if_pos hal2, if_neg hb]
  refine callV (f69 _ _ _) ?_
  intro nx lv
  simp (config := {maxSteps := 1000000}) (disch := omega) only [go_sem, i64_in]
  refine ⟨fun h1 => sm_bad (bad ?_) (by omega), fun h1 => callV (f69 _ _ _) ?_⟩
  · simp only [within, Bool.and_eq_false_iff, decide_eq_false_iff_not] at h1
    omega
  intro nx lv
  simp (config := {maxSteps := 1000000}) (disch := omega) only [go_sem, i64_in]
  refine ⟨fun h2 => sm_bad (bad ?_) (by omega), fun h2 => ?_⟩
  · simp only [within, Bool.and_eq_false_iff, decide_eq_false_iff_not] at h2
    omega
  simp only [within, Bool.and_eq_true, decide_eq_true_eq] at h1 h2
  have hze : smErr pw limit most = 0 := by
    unfold smErr; rw [if_neg h12, if_pos hall, if_pos hal2, if_pos (by omega)]
  obtain ⟨k, rfl⟩ : ∃ k : Nat, most = (k : Int) := ⟨most.toNat, by omega⟩
  obtain ⟨N, hNk⟩ : ∃ N, N = k + 3600 := ⟨_, rfl⟩
  have hN : ((k : Int) + 3600).toNat = N := by omega
  have hvv : smVal pw limit (k : Int) = (smoothF limit k (fun _ => 0) pw).getD [] := by unfold smVal; rw [if_pos hze]; simp
  have hee : smE pw limit (k : Int) = if (smoothF limit k (fun _ => 0) pw).isSome = true then 0 else 9 := by unfold smE; rw [if_pos hze]; simp
  clear e28 hlt' hlt hx bad
  simp (config := {maxSteps := 1000000}) (disch := omega) only [go_sem, i64_in, hN, made_cells]
  refine ⟨by omega, by omega, by omega, ?_⟩
  refine AW_loopS [15, 17, 18, 19, 20, 21, 65, 66, 67, 68, 69, 70, 71, 72, 73, 74, 75, 76, 77, 78, 79, 80, 81, 82, 83, 84, 85, 86, 87, 88, 89, 90, 91, 92, 93, 94, 95, 96, 97, 98, 99, 100, 101, 102, 103, 104, 105]
    (fun (x : Nat × (Nat → Int) × List Int) ρ m => ρ 65 = .int .i64 (x.1 : Int) ∧ (∃ tok, ρ 15 = .sl 1 (x.2.2.map (DV.int .i64)) tok ∧ okT m tok) ∧ (∃ h nx lv, m = ⟨h, [], nx, lv⟩ ∧ hget h 4 = some (0, [.int .i64 limit]) ∧ hget h 62 = some (0, cellsU N x.2.1) ∧ hget h 14 = some (0, [.msl (.own 62 0) 0 N N])) ∧ x.1 ≤ pw.length ∧ inU x.2.1 ∧ x.2.2.length = x.1 ∧
      smoothF limit k (fun _ => 0) pw = (smoothF limit k x.2.1 (pw.drop x.1)).map (x.2.2 ++ ·)) (fun x => pw.length - x.1) (0, (fun _ => 0), []) ?_ ?_
  · simp only [go_sem]
    refine ⟨⟨_, _, _, rfl, by simp only [go_sem], by simp only [go_sem], by simp only [go_sem]⟩, Nat.zero_le _, inU_zero, ?_⟩
    cases smoothF limit k (fun _ => 0) pw <;> rfl
  rintro ⟨x, u, out⟩ ρ3 m ⟨e21, ⟨tok, e9, hok⟩, ⟨h, nx, lv, rfl, g4, g62, g14⟩, hx, hu, hout, hsm⟩
  dsimp only at e21 e9 hx hu hout hsm g62
  by_cases hlt : x < pw.length
  · have hlt' : ((x : Int) < (pw.length : Int)) = True := by simp; omega
    obtain ⟨l, hc⟩ : ∃ c, pw[x]? = some c := ⟨_, List.getElem?_eq_getElem hlt⟩
    have hll : l.length ≤ 3600 := by simpa using List.all_eq_true.1 hall l (List.mem_of_getElem? hc)
    have hlp := List.all_eq_true.1 hal2 l (List.mem_of_getElem? hc)
    rw [dropG hc, smoothF] at hsm
    simp (config := {maxSteps := 2000000}) (disch := omega) only [go_sem, e21, e9, hlt', hc, i64_in, dInts]
    refine ⟨by omega, ?_⟩
    generalize genO (hget h 17) = G
    refine AW_loopS [19, 70, 71, 72, 73, 74, 75, 76, 77, 78, 79, 80] (fun (d : Nat) ρ m => ρ 19 = .int .i64 (d : Int) ∧ ((∃ h nx lv, m = ⟨h, [], nx, lv⟩ ∧ hget h 4 = some (0, [.int .i64 limit]) ∧ hget h 62 = some (0, cellsU N u) ∧ hget h 14 = some (0, [.msl (.own 62 0) 0 N N]) ∧ hget h 17 = some (G, [.sl 1 (l.map (DV.int .i64)) .no])) ∧ okT m tok) ∧ d ≤ k + 1 ∧ findD u limit k l d = findD u limit k l 0) (fun d => k + 1 - d) 0 ?_ ?_
    · simp only [go_sem]
      exact ⟨⟨_, _, _, rfl, by simp only [go_sem, g4], by simp only [go_sem, g62], by simp only [go_sem, g14], by simp only [go_sem]⟩, okT_mono hok fun _ h => h⟩
    rintro d ρ4 m ⟨e12, ⟨⟨h2, nx2, lv2, rfl, q4, q62, q14, q17⟩, hok2⟩, hd, hf⟩
    by_cases hdk : d ≤ k
    · have hdk' : ((d : Int) ≤ (k : Int)) = True := by simp; omega
      simp (config := {maxSteps := 2000000}) (disch := omega) only [go_sem, e12, hdk', i64_in, q4, q62, q14, q17, take_cells, toDs_cells, dcellsU_len]
      refine quiet (f76 l N u d limit hll (by omega) (by omega) hu hlp) rfl ?_
      cases hfit : fitsF u limit d l with
      | false =>
        simp (config := {maxSteps := 2000000}) (disch := omega) only [go_sem, i64_in]
        refine ⟨by kernel_rfl, d + 1, ?_, by simp only; omega⟩
        simp only [go_sem]
        exact ⟨by simp, ⟨⟨_, _, _, rfl, q4, q62, q14, q17⟩, okT_mono hok2 fun _ h => h⟩, by omega, by rw [← findD_on hdk hfit]; exact hf⟩
      | true =>
        have hD : findD u limit k l 0 = d := by rw [← hf, findD_stop (by rw [hfit]; simp)]
        rw [hD, if_neg (by omega)] at hsm
        have hdk2 : ((k : Int) < (d : Int)) = False := by simp; omega
        simp (config := {maxSteps := 2000000}) (disch := omega) only [go_sem, i64_in, hdk2, q17]
        refine AW_loopS [20, 21, 86, 87, 88, 89, 90, 91, 92, 93, 94, 95, 96, 97, 98, 99, 100] (fun (y : Nat × (Nat → Int)) ρ m => ρ 86 = .int .i64 (y.1 : Int) ∧ ((∃ h nx lv, m = ⟨h, [], nx, lv⟩ ∧ hget h 4 = some (0, [.int .i64 limit]) ∧ hget h 62 = some (0, cellsU N y.2) ∧ hget h 14 = some (0, [.msl (.own 62 0) 0 N N])) ∧ okT m tok) ∧ y.1 ≤ l.length ∧ inU y.2 ∧ fitsF y.2 limit (d + y.1) (l.drop y.1) = true ∧ addU y.2 (d + y.1) (l.drop y.1) = addU u d l) (fun y => l.length - y.1) (0, u) ?_ ?_
        · simp only [go_sem]
          exact ⟨⟨⟨_, _, _, rfl, q4, q62, q14⟩, okT_mono hok2 fun _ h => h⟩, Nat.zero_le _, hu, hfit, rfl⟩
        rintro ⟨y, v⟩ ρ5 m ⟨e43, ⟨⟨h3, nx3, lv3, rfl, r4, r62, r14⟩, hok3⟩, hy, hv, hft, hadd⟩
        dsimp only at e43 hy hv hft hadd r62
        by_cases hylt : y < l.length
        · have hylt' : ((y : Int) < (l.length : Int)) = True := by simp; omega
          obtain ⟨p, hpy⟩ : ∃ c, l[y]? = some c := ⟨_, List.getElem?_eq_getElem hylt⟩
          have hpb := List.all_eq_true.1 hlp p (List.mem_of_getElem? hpy)
          simp only [inP, Bool.and_eq_true, decide_eq_true_eq] at hpb
          rw [dropG hpy, fitsF, Bool.and_eq_true, decide_eq_true_eq] at hft
          rw [dropG hpy, addU] at hadd
          have hvb := hv (d + y)
          have hnat : ((d : Int) + (y : Int)).toNat = d + y := by omega
          have hdrop := cellsU_drop (u := v) (n := N) (k := d + y) (by omega)
          simp (config := {maxSteps := 2000000}) (disch := omega) only [go_sem, e43, hylt', hpy, i64_in, hnat, r14, r62, hdrop, cellsU_len, spl_cells, Nat.zero_add, Nat.mul_one]
          refine ⟨by omega, by omega, by omega, by omega, by omega, by omega, by kernel_rfl, (y + 1, upd v (d + y) (v (d + y) + p)), ?_, by simp only; omega⟩
          simp only [go_sem]
          refine ⟨by simp, ⟨⟨_, _, _, rfl, by simp only [go_sem, r4], by simp only [go_sem], by simp only [go_sem, r14]⟩, okT_mono hok3 fun _ h => h⟩, by omega, inU_upd hv (by omega) (by omega), ?_, ?_⟩
          · rw [← Nat.add_assoc, fitsF_upd v limit (d + y) _ _ (d + y + 1) (by omega)]; exact hft.2
          · rw [← Nat.add_assoc]; exact hadd
        · have hylt' : ((y : Int) < (l.length : Int)) = False := by simp; omega
          rw [List.drop_eq_nil_of_le (by omega), addU] at hadd
          simp (config := {maxSteps := 2000000}) (disch := omega) only [go_sem, e43, hylt', i64_in]
          refine ⟨okT_mono hok3 fun _ h => .inr h, by omega, by kernel_rfl, (x + 1, v, out ++ [(d : Int)]), ?_, by simp only; omega⟩
          simp only [go_sem]
          refine ⟨by simp, ⟨_, ⟨by simp, rfl⟩, Or.inl rfl⟩, ⟨_, _, _, rfl, r4, r62, r14⟩, by omega, hv, by simp; omega, ?_⟩
          rw [hsm, ← hadd]
          cases smoothF limit k v (pw.drop (x + 1)) <;> simp
    · have hdk' : ((d : Int) ≤ (k : Int)) = False := by simp; omega
      have hdk2 : ((k : Int) < (d : Int)) = True := by simp; omega
      have hD : findD u limit k l 0 = d := by rw [← hf, findD_stop (fun h => hdk h.1)]
      rw [hD, if_pos (by omega)] at hsm
      simp (config := {maxSteps := 2000000}) (disch := omega) only [go_sem, e12, hdk', hdk2, i64_in]
      rw [hvv, hee, hsm]
      simp
  · have hlt' : ((x : Int) < (pw.length : Int)) = False := by simp; omega
    rw [List.drop_eq_nil_of_le (by omega), smoothF] at hsm
    simp (config := {maxSteps := 2000000}) (disch := omega) only [go_sem, e21, e9, hlt', i64_in]
    rw [hvv, hee, hsm]
    simp
end Go.Proofs.Ythbdjgjpocfneaa
