/- GuardPacks: PacketText, Pack, and the law. -/
import Derived.Test.YtalneemgdjkcdaaDoorP1
import Derived.Test.YtalneemgdjkcdaaDoorP2
namespace Go.Proofs.YtalneemgdjkcdaaDoor
open Go.AB Go.RowKit
set_option linter.unusedSimpArgs false
set_option linter.unusedVariables false

def Pk.nums (p : Pk) : List Int := [p.kind, p.ses, p.no, p.of, p.fin, p.at', p.speed, p.sent]
theorem checkE_big {p : Pk} (h : checkE p = 0) : big p.nums := by
  have : within p.kind 1 8 = true ∧ within p.ses 1 1000000 = true ∧ within p.no 1 1000000 = true ∧ within p.of 0 1000000 = true ∧ within p.fin 0 20000000 = true ∧ within p.at' 0 20000000 = true ∧ within p.speed 0 6000 = true ∧ within p.sent 0 28800 = true := by
    unfold checkE at h
    repeat' split at h
    all_goals first | omega | simp_all
  simp only [within, Bool.and_eq_true, decide_eq_true_eq] at this
  intro n hn
  simp only [Pk.nums, List.mem_cons, List.not_mem_nil, or_false] at hn
  omega

set_option maxRecDepth 20000 in
theorem f12 (p : Pk) (h : checkE p = 0) : PCall Tryd.prog 12 [p.av] (RV (.str (told p.nums))) := by
  refine PCall.of_body Tryd.func12 rfl Tryd.ntmps12 (congrArg Array.toList Tryd.results12) ?_
  intro E
  have hf := f25 p.nums (by simp [Pk.nums]) (checkE_big h)
  simp only [Pk.nums, List.map_cons, List.map_nil] at hf
  simp only [go_sem, Pk.av, Pk.cells]
  refine callV hf ?_
  intro _ _
  simp only [go_sem, Pk.nums]

def packV (p : Pk) : List UInt8 := if checkE p = 0 then told p.nums else []
def wordsP (l : List Int) : List DV := (l.map Lib.itoa).map DV.str

set_option maxHeartbeats 4000000 in
set_option maxRecDepth 20000 in
theorem f9 (p : Pk) : PCall Tryd.prog 9 [p.av] (RV (.tup [.str (packV p), .int .i64 (checkE p)])) := by
  refine PCall.of_body Tryd.func9 rfl Tryd.ntmps9 (congrArg Array.toList Tryd.results9) ?_
  intro E
  simp only [go_sem, Pk.av, Pk.cells]
  refine callV (f26 p) ?_
  intro nx lv
  by_cases h : checkE p = 0
  · have hb := checkE_big h
    have hb' : ∀ n ∈ p.nums, -9223372036854775808 ≤ n ∧ n ≤ 9223372036854775807 := hb
    simp only [Pk.nums, List.mem_cons, List.not_mem_nil, or_false, forall_eq_or_imp, forall_eq] at hb'
    obtain ⟨b1, b2, b3, b4, b5, b6, b7, b8⟩ := hb'
    simp only [go_sem, h]
    refine AW_loopH [5, 7, 30, 31, 32, 33, 34, 35, 36, 37, 38]
      (fun (x : Nat) ρ m => ρ 30 = .int .i64 (x : Int) ∧ x ≤ 8 ∧ (∃ tok, ρ 5 = .sl 1 (wordsP (p.nums.take x)) tok ∧ okT m tok) ∧ ∃ h nx lv, m = ⟨h, [], nx, lv⟩) (fun x => 8 - x) 0 ?_ ?_
    · simp [go_sem, wordsP]
    · rintro x ρ m ⟨e30, hx, ⟨tok, e5, hok⟩, h', nx', lv', rfl⟩ Q hN hR hX
      have w1 : IntKind.i64.wrap 1 = 1 := by rfl
      have w2 : IntKind.i64.wrap 2 = 2 := by rfl
      have w3 : IntKind.i64.wrap 3 = 3 := by rfl
      have w4 : IntKind.i64.wrap 4 = 4 := by rfl
      have w5 : IntKind.i64.wrap 5 = 5 := by rfl
      have w6 : IntKind.i64.wrap 6 = 6 := by rfl
      have w7 : IntKind.i64.wrap 7 = 7 := by rfl
      have w8 : IntKind.i64.wrap 8 = 8 := by rfl
      have hxs : x = 0 ∨ x = 1 ∨ x = 2 ∨ x = 3 ∨ x = 4 ∨ x = 5 ∨ x = 6 ∨ x = 7 ∨ x = 8 := by omega
      rcases hxs with rfl | rfl | rfl | rfl | rfl | rfl | rfl | rfl | rfl
      · simp only [go_sem, e30, e5]
        refine callVt (f22 p.kind b1.1 b1.2) ?_
        intro nx2 lv2 _ hl2
        simp only [go_sem, hN, w1, w2, w3, w4, w5, w6, w7, w8]
        refine ⟨okT_mono hok (fun j x => .inr (hl2 j x)), by simp [wordsP, Pk.nums], by kernel_rfl, 1, ?_, by simp only; omega⟩
        simp only [go_sem]
        refine ⟨⟨_, ⟨?_, rfl⟩, .inl rfl⟩, _, _, _, rfl⟩
        simp [wordsP, Pk.nums]
      · simp only [go_sem, e30, e5]
        refine callVt (f22 p.ses b2.1 b2.2) ?_
        intro nx2 lv2 _ hl2
        simp only [go_sem, hN, w1, w2, w3, w4, w5, w6, w7, w8]
        refine ⟨okT_mono hok (fun j x => .inr (hl2 j x)), by simp [wordsP, Pk.nums], by kernel_rfl, 2, ?_, by simp only; omega⟩
        simp only [go_sem]
        refine ⟨⟨_, ⟨?_, rfl⟩, .inl rfl⟩, _, _, _, rfl⟩
        simp [wordsP, Pk.nums]
      · simp only [go_sem, e30, e5]
        refine callVt (f22 p.no b3.1 b3.2) ?_
        intro nx2 lv2 _ hl2
        simp only [go_sem, hN, w1, w2, w3, w4, w5, w6, w7, w8]
        refine ⟨okT_mono hok (fun j x => .inr (hl2 j x)), by simp [wordsP, Pk.nums], by kernel_rfl, 3, ?_, by simp only; omega⟩
        simp only [go_sem]
        refine ⟨⟨_, ⟨?_, rfl⟩, .inl rfl⟩, _, _, _, rfl⟩
        simp [wordsP, Pk.nums]
      · simp only [go_sem, e30, e5]
        refine callVt (f22 p.of b4.1 b4.2) ?_
        intro nx2 lv2 _ hl2
        simp only [go_sem, hN, w1, w2, w3, w4, w5, w6, w7, w8]
        refine ⟨okT_mono hok (fun j x => .inr (hl2 j x)), by simp [wordsP, Pk.nums], by kernel_rfl, 4, ?_, by simp only; omega⟩
        simp only [go_sem]
        refine ⟨⟨_, ⟨?_, rfl⟩, .inl rfl⟩, _, _, _, rfl⟩
        simp [wordsP, Pk.nums]
      · simp only [go_sem, e30, e5]
        refine callVt (f22 p.fin b5.1 b5.2) ?_
        intro nx2 lv2 _ hl2
        simp only [go_sem, hN, w1, w2, w3, w4, w5, w6, w7, w8]
        refine ⟨okT_mono hok (fun j x => .inr (hl2 j x)), by simp [wordsP, Pk.nums], by kernel_rfl, 5, ?_, by simp only; omega⟩
        simp only [go_sem]
        refine ⟨⟨_, ⟨?_, rfl⟩, .inl rfl⟩, _, _, _, rfl⟩
        simp [wordsP, Pk.nums]
      · simp only [go_sem, e30, e5]
        refine callVt (f22 p.at' b6.1 b6.2) ?_
        intro nx2 lv2 _ hl2
        simp only [go_sem, hN, w1, w2, w3, w4, w5, w6, w7, w8]
        refine ⟨okT_mono hok (fun j x => .inr (hl2 j x)), by simp [wordsP, Pk.nums], by kernel_rfl, 6, ?_, by simp only; omega⟩
        simp only [go_sem]
        refine ⟨⟨_, ⟨?_, rfl⟩, .inl rfl⟩, _, _, _, rfl⟩
        simp [wordsP, Pk.nums]
      · simp only [go_sem, e30, e5]
        refine callVt (f22 p.speed b7.1 b7.2) ?_
        intro nx2 lv2 _ hl2
        simp only [go_sem, hN, w1, w2, w3, w4, w5, w6, w7, w8]
        refine ⟨okT_mono hok (fun j x => .inr (hl2 j x)), by simp [wordsP, Pk.nums], by kernel_rfl, 7, ?_, by simp only; omega⟩
        simp only [go_sem]
        refine ⟨⟨_, ⟨?_, rfl⟩, .inl rfl⟩, _, _, _, rfl⟩
        simp [wordsP, Pk.nums]
      · simp only [go_sem, e30, e5]
        refine callVt (f22 p.sent b8.1 b8.2) ?_
        intro nx2 lv2 _ hl2
        simp only [go_sem, hN, w1, w2, w3, w4, w5, w6, w7, w8]
        refine ⟨okT_mono hok (fun j x => .inr (hl2 j x)), by simp [wordsP, Pk.nums], by kernel_rfl, 8, ?_, by simp only; omega⟩
        simp only [go_sem]
        refine ⟨⟨_, ⟨?_, rfl⟩, .inl rfl⟩, _, _, _, rfl⟩
        simp [wordsP, Pk.nums]
      · have ht : p.nums.take 8 = p.nums := rfl
        rw [ht] at e5
        simp only [go_sem, e30, hX, e5]
        refine callV (f27 (p.nums.map Lib.itoa) [32] (by simp [Pk.nums]) (by simp [Pk.nums]) ?_ .no rfl) ?_
        · have := told_len p.nums hb
          simp only [told] at this
          simp only [Pk.nums, List.length_cons, List.length_nil] at this ⊢
          omega
        · intro _ _
          simp only [go_sem]
          simp [packV, h, told]
  · simp only [go_sem, h]
    simp [packV, h]

set_option maxRecDepth 20000 in
theorem f4 (p : Pk) : PCall Tryd.prog 4 [p.av] (RV (.bool true)) := by
  refine PCall.of_body Tryd.func4 rfl Tryd.ntmps4 (congrArg Array.toList Tryd.results4) ?_
  intro E
  simp only [go_sem, Pk.av, Pk.cells]
  refine callV (f9 p) ?_
  intro nx lv
  simp only [go_sem]
  refine callV (f11 p) ?_
  intro nx lv
  simp only [go_sem, Pk.av, Pk.cells]
  refine callV (f10 p) ?_
  intro nx lv
  by_cases h : checkE p = 0
  · simp only [go_sem, h]
    refine callV (f11 p) ?_
    intro nx lv
    simp only [go_sem, Pk.av, Pk.cells]
    refine callV (f12 p h) ?_
    intro nx lv
    have hp : packV p = told p.nums := by simp [packV, h]
    simp only [go_sem, hp]
  · have hp : packV p = [] := by simp [packV, h]
    simp only [go_sem, h, hp]

theorem law4 (xs : List DV) (h : ElDs Tryd.prog [30] xs) : PCall Tryd.prog 4 (xs.map toAV) (RV (.bool true)) := by
  obtain ⟨x, xs, rfl, hx, h⟩ := h.cons_inv
  cases h.nil_inv
  obtain ⟨ns, h1, rfl, _⟩ := hx.ints 4 (n := 8) (by kernel_rfl) (by kernel_rfl)
  match ns, h1 with
  | [a, b, c, d, e, f, g, i], _ => exact f4 ⟨a, b, c, d, e, f, g, i⟩
end Go.Proofs.YtalneemgdjkcdaaDoor
