/- The reading of a packet: the program's and the reference's. -/
import Derived.Test.YtkfhieigdlfbeaaDoorU1
import Derived.Test.YtkfhieigdlfbeaaDoorW1
import Derived.Test.YtkfhieigdlfbeaaDoorB140
namespace Go.Proofs.YtkfhieigdlfbeaaDoor
set_option linter.unusedSimpArgs false
set_option linter.unusedVariables false
open Go.AB

def zeroP : Pk := ⟨0, 0, 0, 0, 0, 0, 0, 0⟩
/-- What is read of words: a packet, and an error. -/
def unpackL : Option (List Int) → Pk × Int
  | some [a, b, c, d, e, f, g, h] => if checkE ⟨a, b, c, d, e, f, g, h⟩ = 0 then (⟨a, b, c, d, e, f, g, h⟩, 0) else (zeroP, checkE ⟨a, b, c, d, e, f, g, h⟩)
  | _ => (zeroP, 10)
def unpackV (s : List UInt8) : AV := .tup [(unpackL (numsF (splitC 32 s))).1.av, .int .i64 (unpackL (numsF (splitC 32 s))).2]

theorem unpackL_len {l : List Int} (h : l.length ≠ 8) : unpackL (some l) = (zeroP, 10) := by
  match l, h with
  | [], _ => rfl
  | [_], _ => rfl
  | [_, _], _ => rfl
  | [_, _, _], _ => rfl
  | [_, _, _, _], _ => rfl
  | [_, _, _, _, _], _ => rfl
  | [_, _, _, _, _, _], _ => rfl
  | [_, _, _, _, _, _, _], _ => rfl
  | [_, _, _, _, _, _, _, _], h => exact absurd rfl h
  | _ :: _ :: _ :: _ :: _ :: _ :: _ :: _ :: _ :: _, _ => rfl

theorem eight {l : List Int} (h : l.length = 8) : ∃ a b c d e f g i, l = [a, b, c, d, e, f, g, i] := by
  match l, h with
  | [a, b, c, d, e, f, g, i], _ => exact ⟨a, b, c, d, e, f, g, i, rfl⟩

theorem words_ok {s : List UInt8} (hs : s.length ≤ 1048576) (c : UInt8) : (splitC c s).length ≤ 4294967296 ∧ ∀ w ∈ splitC c s, w.length ≤ 4294967296 := by
  refine ⟨?_, fun w hw => ?_⟩
  · have := splitC_length c s; omega
  · have := (splitC_mem hw).1; omega

set_option maxHeartbeats 1000000 in
set_option maxRecDepth 20000 in
theorem f8 (s : List UInt8) (hs : s.length ≤ 1048576) : PCall Tryd.prog 8 [.str s] (RV (unpackV s)) := by
  refine PCall.of_body Tryd.func8 rfl Tryd.ntmps8 (congrArg Array.toList Tryd.results8) ?_
  intro E
  obtain ⟨w1, w2⟩ := words_ok hs 32
  unfold unpackV
  simp only [go_sem]
  refine callV (f25 s 32 (by omega)) ?_
  intro nx lv
  simp only [go_sem]
  refine callV (f24 (splitC 32 s) w1 w2) ?_
  intro nx2 lv2
  cases hn : numsF (splitC 32 s) with
  | none =>
    simp only [go_sem, numsV, hn, Option.isSome_none]
    exact ⟨rfl, rfl⟩
  | some l =>
    by_cases hl : l.length = 8
    · obtain ⟨a, b, c, d, e, f, g, i, rfl⟩ := eight hl
      simp only [go_sem, numsV, hn, Option.isSome_some, Option.getD_some, dInt, List.map_cons, List.map_nil]
      refine drawnT [2, 2, 2, 2, 2, 2, 2, 2, 2, 2, 2, 2, 2, 2, 2, 2, 2, 2, 2, 2, 2, 2, 2, 2, 2, 3, 1] (.alt 25 [2, 2, 2, 2, 2, 2, 2, 2, 2, 2, 2, 2, 2, 2, 2, 2, 2, 2, 2, 2, 2, 2, 2, 2, 2, 0, 3] (.alt 26 [0, 0, 0, 0, 0, 0, 0, 0, 0, 0, 0, 0, 0, 0, 0, 0, 0, 0, 0, 0, 0, 0, 0, 0, 0, 0, 0] .fin .nil) .nil) 54 (by kernel_rfl) (by kernel_rfl) (by kernel_rfl) (by kernel_rfl) rfl ?_
      simp only [go_sem]
      intros
      refine callV (f26 ⟨a, b, c, d, e, f, g, i⟩) ?_
      intro nx3 lv3
      by_cases h0 : checkE ⟨a, b, c, d, e, f, g, i⟩ = 0
      · have hu : unpackL (some [a, b, c, d, e, f, g, i]) = (⟨a, b, c, d, e, f, g, i⟩, 0) := by simp only [unpackL]; rw [if_pos h0]
        simp only [go_sem, h0, hu]
        first | rfl | exact ⟨rfl, rfl⟩ | skip
      · have hu : unpackL (some [a, b, c, d, e, f, g, i]) = (zeroP, checkE ⟨a, b, c, d, e, f, g, i⟩) := by simp only [unpackL]; rw [if_neg h0]
        have h0' : (checkE ⟨a, b, c, d, e, f, g, i⟩ = 0) = False := eq_false h0
        simp only [go_sem, h0', hu]
        first | rfl | exact ⟨rfl, rfl⟩ | skip
    · have hl' : ((l.length : Int) = 8) = False := by simp; omega
      rw [unpackL_len hl]
      simp only [go_sem, numsV, hn, Option.isSome_some, Option.getD_some, hl']
      first | rfl | exact ⟨rfl, rfl⟩

set_option maxHeartbeats 1000000 in
set_option maxRecDepth 20000 in
theorem f9 (s : List UInt8) (hs : s.length ≤ 1048576) : PCall Tryd.prog 9 [.str s] (RV (unpackV s)) := by
  refine PCall.of_body Tryd.func9 rfl Tryd.ntmps9 (congrArg Array.toList Tryd.results9) ?_
  intro E
  obtain ⟨w1, w2⟩ := words_ok hs 32
  unfold unpackV
  simp only [go_sem]
  refine callV (f25 s 32 (by omega)) ?_
  intro nx lv
  simp only [go_sem]
  refine callV (f27 (splitC 32 s) w1 w2) ?_
  intro nx2 lv2
  cases hn : numsF (splitC 32 s) with
  | none =>
    simp only [go_sem, numsV, hn, Option.isSome_none]
    exact ⟨rfl, rfl⟩
  | some l =>
    by_cases hl : l.length = 8
    · obtain ⟨a, b, c, d, e, f, g, i, rfl⟩ := eight hl
      simp only [go_sem, numsV, hn, Option.isSome_some, Option.getD_some, dInt, List.map_cons, List.map_nil]
      refine drawnT [2, 2, 2, 2, 2, 2, 2, 2, 2, 2, 2, 2, 2, 2, 2, 2, 2, 2, 2, 2, 2, 2, 2, 2, 2, 3, 1] (.alt 25 [2, 2, 2, 2, 2, 2, 2, 2, 2, 2, 2, 2, 2, 2, 2, 2, 2, 2, 2, 2, 2, 2, 2, 2, 2, 0, 3] (.alt 26 [0, 0, 0, 0, 0, 0, 0, 0, 0, 0, 0, 0, 0, 0, 0, 0, 0, 0, 0, 0, 0, 0, 0, 0, 0, 0, 0] .fin .nil) .nil) 54 (by kernel_rfl) (by kernel_rfl) (by kernel_rfl) (by kernel_rfl) rfl ?_
      simp only [go_sem]
      intros
      refine callV (f28 ⟨a, b, c, d, e, f, g, i⟩) ?_
      intro nx3 lv3
      by_cases h0 : checkE ⟨a, b, c, d, e, f, g, i⟩ = 0
      · have hu : unpackL (some [a, b, c, d, e, f, g, i]) = (⟨a, b, c, d, e, f, g, i⟩, 0) := by simp only [unpackL]; rw [if_pos h0]
        simp only [go_sem, h0, hu]
        first | rfl | exact ⟨rfl, rfl⟩ | skip
      · have hu : unpackL (some [a, b, c, d, e, f, g, i]) = (zeroP, checkE ⟨a, b, c, d, e, f, g, i⟩) := by simp only [unpackL]; rw [if_neg h0]
        have h0' : (checkE ⟨a, b, c, d, e, f, g, i⟩ = 0) = False := eq_false h0
        simp only [go_sem, h0', hu]
        first | rfl | exact ⟨rfl, rfl⟩ | skip
    · have hl' : ((l.length : Int) = 8) = False := by simp; omega
      rw [unpackL_len hl]
      simp only [go_sem, numsV, hn, Option.isSome_some, Option.getD_some, hl']
      first | rfl | exact ⟨rfl, rfl⟩


set_option maxHeartbeats 1000000 in
set_option maxRecDepth 20000 in
theorem f3 (s : List UInt8) (hs : s.length ≤ 1048576) : PCall Tryd.prog 3 [.str s] (RV (.bool true)) := by
  refine PCall.of_body Tryd.func3 rfl Tryd.ntmps3 (congrArg Array.toList Tryd.results3) ?_
  intro E
  have h8 := f8 s hs
  have h9 := f9 s hs
  unfold unpackV at h8 h9
  generalize unpackL (numsF (splitC 32 s)) = u at h8 h9
  obtain ⟨⟨a, b, c, d, e, f, g, i⟩, k⟩ := u
  simp only [Pk.av, Pk.cells] at h8 h9
  simp only [go_sem]
  refine callV h8 ?_
  intro nx lv
  simp only [go_sem]
  refine callV h9 ?_
  intro nx2 lv2
  simp only [go_sem]
  refine drawn (by kernel_rfl) (by kernel_rfl) ?_
  simp only [go_sem]
  refine quietD (f10 ⟨a, b, c, d, e, f, g, i⟩) (fun _ => rfl) ?_
  simp only [go_sem, Pk.av, Pk.cells]

theorem law3 (xs : List DV) (h : ElDs Tryd.prog [9] xs) (hb : bulkDs xs ≤ 1048576) : PCall Tryd.prog 3 (xs.map toAV) (RV (.bool true)) := by
  obtain ⟨x, xs, rfl, hx, h⟩ := h.cons_inv
  cases h.nil_inv
  obtain ⟨s, rfl, hs⟩ := hx.str_inv Tryd.underlying9
  simp only [List.map_cons, List.map_nil, toAV]
  refine f3 s ?_
  simp [bulkDs, bulkD] at hb
  omega
end Go.Proofs.YtkfhieigdlfbeaaDoor
