/- What Smooth does, by places; contracts of its tests. -/
import Derived.Test.YthbdjgjpocfneaaC13
namespace Go.Proofs.Ythbdjgjpocfneaa
open Go.AB

/-! ### Cells by their place -/
def cellsU (n : Nat) (u : Nat → Int) : List AV := (List.range n).map fun i => .int .i64 (u i)
def dcellsU (n : Nat) (u : Nat → Int) : List DV := (List.range n).map fun i => .int .i64 (u i)
def upd (u : Nat → Int) (k : Nat) (v : Int) : Nat → Int := fun i => if i = k then v else u i
theorem cellsU_len (n : Nat) (u : Nat → Int) : (cellsU n u).length = n := by simp [cellsU]
theorem dcellsU_len (n : Nat) (u : Nat → Int) : (dcellsU n u).length = n := by simp [dcellsU]
theorem cellsU_get {n : Nat} {u : Nat → Int} {k : Nat} (h : k < n) : (cellsU n u)[k]? = some (.int .i64 (u k)) := by simp [cellsU, h]
theorem dcellsU_get {n : Nat} {u : Nat → Int} {k : Nat} (h : k < n) : (dcellsU n u)[k]? = some (.int .i64 (u k)) := by simp [dcellsU, h]
theorem cellsU_drop {n : Nat} {u : Nat → Int} {k : Nat} (h : k < n) : (cellsU n u).drop k = .int .i64 (u k) :: (cellsU n u).drop (k + 1) := by
  have hl : k < (cellsU n u).length := by rw [cellsU_len]; exact h
  rw [List.drop_eq_getElem_cons hl]
  congr 1
  have := cellsU_get (u := u) h
  rw [List.getElem?_eq_getElem hl] at this
  exact Option.some.inj this
theorem ldA_cells {n s : Nat} {u : Nat → Int} {k : Nat} {K : AV → Prop} (h : k < n) : ldA (some (false, s)) ((cellsU n u).drop k) K = K (.int .i64 (u k)) := by
  rw [cellsU_drop h]; rfl
theorem take_cells (n : Nat) (u : Nat → Int) : (cellsU n u).take n = cellsU n u := List.take_of_length_le (by rw [cellsU_len]; exact Nat.le_refl _)
theorem spl_cells {n : Nat} {u : Nat → Int} {k : Nat} {v : Int} (h : k < n) : List.take k (cellsU n u) ++ [AV.int .i64 v] ++ List.drop (k + 1) (cellsU n u) = cellsU n (upd u k v) := by
  apply List.ext_getElem?
  intro i
  have hlt : (List.take k (cellsU n u)).length = k := by rw [List.length_take, cellsU_len]; omega
  by_cases h1 : i < k
  · rw [List.append_assoc, List.getElem?_append_left (by omega), List.getElem?_take_of_lt h1, cellsU_get (by omega), cellsU_get (by omega)]
    simp only [upd]; rw [if_neg (by omega)]
  · by_cases h2 : i = k
    · subst h2
      rw [List.getElem?_append_left (by simp [hlt]), List.getElem?_append_right (by omega), hlt, cellsU_get h]
      simp [upd]
    · rw [List.getElem?_append_right (by simp [hlt]; omega), List.getElem?_drop]
      simp only [List.length_append, hlt, List.length_cons, List.length_nil]
      rw [show k + 1 + (i - (k + (0 + 1))) = i by omega]
      by_cases h3 : i < n
      · rw [cellsU_get h3, cellsU_get h3]; simp only [upd]; rw [if_neg h2]
      · rw [List.getElem?_eq_none (by rw [cellsU_len]; omega), List.getElem?_eq_none (by rw [cellsU_len]; omega)]
theorem toDs_cells (n : Nat) (u : Nat → Int) : toDs (cellsU n u) = some (dcellsU n u) := by
  have : ∀ l : List Nat, toDs (l.map fun i => AV.int .i64 (u i)) = some (l.map fun i => DV.int .i64 (u i)) := by
    intro l
    induction l with
    | nil => rfl
    | cons x r ih => simp only [List.map_cons, toDs, toD1, ih]
  exact this _
theorem made_cells (n : Nat) : (List.replicate n [AV.int .i64 0]).flatten = cellsU n (fun _ => 0) := by
  apply List.ext_getElem?
  intro i
  by_cases h : i < n
  · rw [cellsU_get h]
    simp [List.flatten_replicate_singleton, h]
  · rw [List.getElem?_eq_none (by simp; omega), List.getElem?_eq_none (by rw [cellsU_len]; omega)]

/-! ### What Smooth does -/
def fitsF (u : Nat → Int) (limit : Int) : Nat → List Int → Bool
  | _, [] => true
  | d, p :: r => decide (u d + p ≤ limit) && fitsF u limit (d + 1) r
def findD (u : Nat → Int) (limit : Int) (most : Nat) (l : List Int) (d : Nat) : Nat := if d ≤ most ∧ fitsF u limit d l = false then findD u limit most l (d + 1) else d
termination_by most + 1 - d
def addU (u : Nat → Int) : Nat → List Int → (Nat → Int)
  | _, [] => u
  | d, p :: r => addU (upd u d (u d + p)) (d + 1) r
def smoothF (limit : Int) (most : Nat) : (Nat → Int) → List (List Int) → Option (List Int)
  | _, [] => some []
  | u, l :: r => if most < findD u limit most l 0 then none else (smoothF limit most (addU u (findD u limit most l 0) l) r).map ((findD u limit most l 0 : Int) :: ·)
theorem fitsF_upd (u : Nat → Int) (limit : Int) (k : Nat) (v : Int) : ∀ (l : List Int) (d : Nat), k < d → fitsF (upd u k v) limit d l = fitsF u limit d l
  | [], _, _ => rfl
  | p :: r, d, h => by
    simp only [fitsF]
    rw [fitsF_upd u limit k v r (d + 1) (by omega)]
    congr 2
    simp only [upd]; rw [if_neg (by omega)]
def inU (u : Nat → Int) : Prop := ∀ i, 0 ≤ u i ∧ u i ≤ 36028797018963968

theorem f77 (l : List Int) (n : Nat) (u : Nat → Int) (d : Nat) (limit : Int) (hl : l.length ≤ 3600) (hd : d ≤ 3600) (hn : d + l.length ≤ n) (hu : inU u) (hp : l.all inP = true) :
    PCall Try.prog 77 [.sl 1 (dcellsU n u) .no, .sl 1 (l.map (DV.int .i64)) .no, .int .i64 (d : Int), .int .i64 limit] (RV (.bool (fitsF u limit d l))) := by
  refine PCall.of_body Try.func77 rfl Try.ntmps77 (congrArg Array.toList Try.results77) ?_
  intro E
  simp only [go_sem]
  refine AW_loopS [9, 10, 13, 14, 15, 16, 17, 18, 19, 20, 21, 22, 23, 24, 25, 26, 27, 28] (fun (x : Nat) ρ m => ρ 13 = .int .i64 (x : Int) ∧ (∃ nx lv, m = ⟨[], [], nx, lv⟩) ∧ x ≤ l.length ∧ fitsF u limit (d + x) (l.drop x) = fitsF u limit d l) (fun x => l.length - x) 0 ?_ ?_
  · simp only [go_sem]
    exact ⟨⟨_, _, rfl⟩, Nat.zero_le _, rfl⟩
  rintro x ρ m ⟨e13, ⟨nx, lv, rfl⟩, hx, hf⟩
  by_cases hlt : x < l.length
  · have hlt' : ((x : Int) < (l.length : Int)) = True := by simp; omega
    obtain ⟨p, hc⟩ : ∃ c, l[x]? = some c := ⟨_, List.getElem?_eq_getElem hlt⟩
    have hpb := List.all_eq_true.1 hp p (List.mem_of_getElem? hc)
    simp only [inP, Bool.and_eq_true, decide_eq_true_eq] at hpb
    have hub := hu (d + x)
    have hdr : l.drop x = p :: l.drop (x + 1) := by
      rw [List.drop_eq_getElem_cons hlt]
      congr 1
      rw [List.getElem?_eq_getElem hlt] at hc
      exact Option.some.inj hc
    rw [hdr, fitsF] at hf
    have hnat : ((d : Int) + (x : Int)).toNat = d + x := by omega
    have hg := dcellsU_get (u := u) (n := n) (k := d + x) (by omega)
    simp (config := {maxSteps := 1000000}) (disch := omega) only [go_sem, e13, hlt', hc, i64_in, hnat, hg]
    refine ⟨by omega, by omega, fun h1 => ?_, fun h1 => ?_⟩
    · rw [← hf, show decide (u (d + x) + p ≤ limit) = false by simp; omega]; rfl
    · rw [show decide (u (d + x) + p ≤ limit) = true by simp; omega, Bool.true_and] at hf
      refine ⟨by kernel_rfl, x + 1, ?_, by simp only; omega⟩
      simp only [go_sem]
      exact ⟨by simp, ⟨_, _, rfl⟩, by omega, hf⟩
  · have hlt' : ((x : Int) < (l.length : Int)) = False := by simp; omega
    rw [List.drop_eq_nil_of_le (by omega), fitsF] at hf
    simp (config := {maxSteps := 1000000}) (disch := omega) only [go_sem, e13, hlt', i64_in]
    exact hf
theorem f76 (l : List Int) (n : Nat) (u : Nat → Int) (d : Nat) (limit : Int) (hl : l.length ≤ 3600) (hd : d ≤ 3600) (hn : d + l.length ≤ n) (hu : inU u) (hp : l.all inP = true) :
    PCall Try.prog 76 [.int .i64 (d : Int), .ept [.sl 1 (l.map (DV.int .i64))], .ept [.sl 1 (dcellsU n u)], .ept [.int .i64 limit]] (RV (.bool (fitsF u limit d l))) := by
  refine PCall.of_body Try.func76 rfl Try.ntmps76 (congrArg Array.toList Try.results76) ?_
  intro E
  simp only [go_sem]
  refine AW_loopS [6, 7, 10, 11, 12, 13, 14, 15, 16, 17, 18, 19, 20, 21, 22, 23, 24, 25] (fun (x : Nat) ρ m => ρ 10 = .int .i64 (x : Int) ∧ (∃ nx lv, m = ⟨[], [], nx, lv⟩) ∧ x ≤ l.length ∧ fitsF u limit (d + x) (l.drop x) = fitsF u limit d l) (fun x => l.length - x) 0 ?_ ?_
  · simp only [go_sem]
    exact ⟨⟨_, _, rfl⟩, Nat.zero_le _, rfl⟩
  rintro x ρ m ⟨e13, ⟨nx, lv, rfl⟩, hx, hf⟩
  by_cases hlt : x < l.length
  · have hlt' : ((x : Int) < (l.length : Int)) = True := by simp; omega
    obtain ⟨p, hc⟩ : ∃ c, l[x]? = some c := ⟨_, List.getElem?_eq_getElem hlt⟩
    have hpb := List.all_eq_true.1 hp p (List.mem_of_getElem? hc)
    simp only [inP, Bool.and_eq_true, decide_eq_true_eq] at hpb
    have hub := hu (d + x)
    have hdr : l.drop x = p :: l.drop (x + 1) := by
      rw [List.drop_eq_getElem_cons hlt]
      congr 1
      rw [List.getElem?_eq_getElem hlt] at hc
      exact Option.some.inj hc
    rw [hdr, fitsF] at hf
    have hnat : ((d : Int) + (x : Int)).toNat = d + x := by omega
    have hg := dcellsU_get (u := u) (n := n) (k := d + x) (by omega)
    simp (config := {maxSteps := 1000000}) (disch := omega) only [go_sem, e13, hlt', hc, i64_in]
    refine ⟨by omega, ?_⟩
    refine drawn (by kernel_rfl) (by kernel_rfl) ?_
    simp (config := {maxSteps := 1000000}) (disch := omega) only [go_sem, i64_in, hnat, hg]
    refine ⟨by omega, fun nx lv _ _ => ⟨fun h1 => ?_, fun h1 => ?_⟩⟩
    · rw [← hf, show decide (u (d + x) + p ≤ limit) = false by simp; omega]; rfl
    · rw [show decide (u (d + x) + p ≤ limit) = true by simp; omega, Bool.true_and] at hf
      refine ⟨by kernel_rfl, x + 1, ?_, by simp only; omega⟩
      simp only [go_sem]
      exact ⟨by simp, ⟨_, _, rfl⟩, by omega, hf⟩
  · have hlt' : ((x : Int) < (l.length : Int)) = False := by simp; omega
    rw [List.drop_eq_nil_of_le (by omega), fitsF] at hf
    simp (config := {maxSteps := 1000000}) (disch := omega) only [go_sem, e13, hlt', i64_in]
    exact hf
end Go.Proofs.Ythbdjgjpocfneaa
