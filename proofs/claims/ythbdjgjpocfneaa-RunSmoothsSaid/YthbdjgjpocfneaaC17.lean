/- The law RunSmooths over its contracts, for all lists of powers and numbers. -/
import Derived.Test.YthbdjgjpocfneaaC16
namespace Go.Proofs.Ythbdjgjpocfneaa
open Go.AB

theorem smErr_ok {pw : List (List Int)} {limit most : Int} (h : smErr pw limit most = 0) : pw.length ≤ 12 ∧ pw.all (fun l => decide (l.length ≤ 3600)) = true ∧ pw.all (fun l => l.all inP) = true ∧ (0 ≤ limit ∧ limit ≤ 36028797018963968) ∧ 0 ≤ most ∧ most ≤ 3600 := by
  unfold smErr at h
  split at h
  · cases h
  · split at h
    · split at h
      · split at h
        · rename_i h1 h2 h3 h4
          exact ⟨by omega, h2, h3, h4.1, h4.2⟩
        · cases h
      · cases h
    · cases h
theorem smoothF_len (limit : Int) (k : Nat) : ∀ (pw : List (List Int)) (u : Nat → Int) (out : List Int), smoothF limit k u pw = some out → out.length = pw.length
  | [], u, out, h => by cases h; rfl
  | l :: r, u, out, h => by
    rw [smoothF] at h
    split at h
    · cases h
    · cases hs : smoothF limit k (addU u (findD u limit k l 0) l) r with
      | none => rw [hs] at h; cases h
      | some o =>
        rw [hs] at h
        cases h
        have := smoothF_len limit k r _ o hs
        simp [this]

set_option maxHeartbeats 8000000 in
set_option maxRecDepth 20000 in
theorem f14 (pw : List (List Int)) (limit most : Int) (hpw : pw.length ≤ 140737488351232) (hl : ∀ l ∈ pw, l.length ≤ 140737488351232) : PCall Try.prog 14 [.sl 1 (pw.map dInts) .no, .int .i64 limit, .int .i64 most] (RV (.bool true)) := by
  refine PCall.of_body Try.func14 rfl Try.ntmps14 (congrArg Array.toList Try.results14) ?_
  intro E
  simp only [go_sem]
  refine callV (f49 pw limit most hpw hl) ?_
  intro nx lv
  simp only [go_sem]
  refine callV (f50 pw limit most hpw hl) ?_
  intro nx lv
  simp only [go_sem]
  refine ⟨fun h => ?_, fun h => ?_⟩
  · simp [smE, smVal, h]
  obtain ⟨h1, h2, h3, h4, h5, h6⟩ := smErr_ok h
  obtain ⟨k, rfl⟩ : ∃ k : Nat, most = (k : Int) := ⟨most.toNat, by omega⟩
  have hvv : smVal pw limit (k : Int) = (smoothF limit k (fun _ => 0) pw).getD [] := by unfold smVal; rw [if_pos h]; simp
  have hee : smE pw limit (k : Int) = if (smoothF limit k (fun _ => 0) pw).isSome = true then 0 else 9 := by unfold smE; rw [if_pos h]; simp
  refine callV (f51 pw limit k h1 h2 h3 h4 (by omega)) ?_
  intro nx lv
  cases hs : smoothF limit k (fun _ => 0) pw with
  | none =>
    rw [hs] at hvv hee
    simp only [Option.isSome_none, Bool.false_eq_true, if_false, Option.getD_none] at hvv hee
    simp only [go_sem, hvv, hee, Option.isSome_none]
  | some out =>
    rw [hs] at hvv hee
    simp only [Option.isSome_some, if_true, Option.getD_some] at hvv hee
    simp only [go_sem, hvv, hee, Option.isSome_some]
    have hlen := smoothF_len limit k pw _ out hs
    refine callV (f48 out out (by omega)) ?_
    intro nx lv
    simp only [go_sem]

theorem openInts {x : DV} (h : ElD Try.prog 60 x) : ∃ l : List Int, x = dInts l ∧ l.length ≤ 140737488351232 := by
  obtain ⟨es, rfl, h1, h2⟩ := h.sl_inv Try.underlying60 (z := 1) (y := 8) (by kernel_rfl) (by kernel_rfl)
  obtain ⟨l, rfl, _⟩ := map_of_each (f := DV.int .i64) (p := fun _ => True) es (fun y hy => by
    obtain ⟨a, ha, _⟩ := (h2 y hy).int_inv Try.underlying3
    exact ⟨a, ha, trivial⟩)
  rw [List.length_map] at h1
  exact ⟨l, rfl, by omega⟩
theorem openIntss {x : DV} (h : ElD Try.prog 79 x) : ∃ pw : List (List Int), x = .sl 1 (pw.map dInts) ∧ pw.length ≤ 140737488351232 ∧ ∀ l ∈ pw, l.length ≤ 140737488351232 := by
  obtain ⟨es, rfl, h1, h2⟩ := h.sl_inv Try.underlying79 (z := 1) (y := 24) (by kernel_rfl) (by kernel_rfl)
  obtain ⟨l, rfl, hl⟩ := map_of_each (f := dInts) (p := fun l => l.length ≤ 140737488351232) es (fun y hy => openInts (h2 y hy))
  rw [List.length_map] at h1
  exact ⟨l, rfl, by omega, hl⟩
theorem law14 (xs : List DV) (h : ElDs Try.prog [79, 3, 3] xs) : PCall Try.prog 14 (xs.map toAV) (RV (.bool true)) := by
  obtain ⟨x, xs, rfl, hx, h⟩ := h.cons_inv
  obtain ⟨y, xs, rfl, hy, h⟩ := h.cons_inv
  obtain ⟨z, xs, rfl, hz, h⟩ := h.cons_inv
  cases h.nil_inv
  obtain ⟨pw, rfl, hpw, hl⟩ := openIntss hx
  obtain ⟨v, rfl, _⟩ := hy.int_inv Try.underlying3
  obtain ⟨t, rfl, _⟩ := hz.int_inv Try.underlying3
  simp only [List.map_cons, List.map_nil, toAV]
  exact f14 pw v t hpw hl
end Go.Proofs.Ythbdjgjpocfneaa
