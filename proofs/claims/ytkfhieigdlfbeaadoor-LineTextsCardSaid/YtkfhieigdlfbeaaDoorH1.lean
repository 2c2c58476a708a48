/- Words of a line of a net, joined. -/
import Derived.Test.YtkfhieigdlfbeaaDoorW2
import Derived.Test.YtkfhieigdlfbeaaDoorS2
namespace Go.Proofs.YtkfhieigdlfbeaaDoor
set_option linter.unusedSimpArgs false
set_option linter.unusedVariables false
open Go.AB

inductive Wd where
  | s (l : List UInt8)
  | n (k : Int)
  | b (x : Bool)
def dWd : Wd → DV
  | .s l => .raw (.iface 9 (.string ⟨l.toArray⟩))
  | .n k => .raw (.iface 3 (.int .i64 k))
  | .b x => .raw (.iface 4 (.bool x))
def wAx : List UInt8 := [97, 120, 108, 101, 115]
def wCi : List UInt8 := [99, 105, 114, 99, 117, 105, 116]
def wordS : Wd → List UInt8
  | .s l => l
  | .n k => Lib.itoa k
  | .b x => if x then wAx else wCi
def wdOk (w : Wd) : Prop := match w with
  | .s l => l.length ≤ 1000
  | .n k => -9223372036854775808 ≤ k ∧ k ≤ 9223372036854775807
  | .b _ => True
def joinW (ws : List Wd) : List UInt8 := Lib.join (ws.map wordS) [32] ++ [10]

theorem wordS_le {w : Wd} (h : wdOk w) : (wordS w).length ≤ 1000 := by
  cases w with
  | s l => exact h
  | n k => have := Lib.itoa_length_le k h.1 h.2; simp only [wordS]; omega
  | b x => cases x <;> simp [wordS, wAx, wCi]

theorem join_len : ∀ (xs : List (List UInt8)), (∀ x ∈ xs, x.length ≤ 1000) → (Lib.join xs [32]).length ≤ xs.length * 1001
  | [], _ => by simp [Lib.join_nil]
  | x :: r, h => by
    have hx := h x (by simp)
    have hr : ∀ r : List (List UInt8), (∀ x ∈ r, x.length ≤ 1000) → (Lib.joinTail [32] r).length ≤ r.length * 1001 := by
      intro r
      induction r with
      | nil => intro _; simp [Lib.joinTail]
      | cons y r ih =>
        intro hb
        have h1 := hb y (by simp)
        have h2 := ih (fun n hn => hb n (by simp [hn]))
        simp only [Lib.joinTail, List.map_cons, List.flatten_cons, List.length_append, List.length_cons, List.length_nil] at h2 ⊢
        omega
    have := hr r (fun n hn => h n (by simp [hn]))
    simp only [Lib.join_cons, List.length_append, List.length_cons]
    omega

theorem key_bool (y : Bool) : keyA Tryd.prog 4 (.bool y) = true := by simp only [go_sem]
theorem msetB : mset [AV.bool true] [AV.str [97, 120, 108, 101, 115]] (AV.bool false) (AV.str [99, 105, 114, 99, 117, 105, 116]) = ([AV.bool true, AV.bool false], [AV.str [97, 120, 108, 101, 115], AV.str [99, 105, 114, 99, 117, 105, 116]]) := by simp [mset]
theorem mgetT : mget [AV.bool true, AV.bool false] [AV.str [97, 120, 108, 101, 115], AV.str [99, 105, 114, 99, 117, 105, 116]] (AV.bool true) = some (AV.str [97, 120, 108, 101, 115]) := by simp [mget]
theorem mgetF : mget [AV.bool true, AV.bool false] [AV.str [97, 120, 108, 101, 115], AV.str [99, 105, 114, 99, 117, 105, 116]] (AV.bool false) = some (AV.str [99, 105, 114, 99, 117, 105, 116]) := by simp [mget]

set_option maxHeartbeats 4000000 in
set_option maxRecDepth 20000 in
theorem f51 (ws : List Wd) (hne : ws ≠ []) (hl : ws.length ≤ 20) (hw : ∀ w ∈ ws, wdOk w) : PCall Tryd.prog 51 [.sl 1 (ws.map dWd) .no] (RV (.str (joinW ws))) := by
  refine PCall.of_body Tryd.func51 rfl Tryd.ntmps51 (congrArg Array.toList Tryd.results51) ?_
  intro E
  simp only [go_sem]
  refine AW_loopH [3, 5, 6, 7, 8, 11, 12, 13, 14, 15, 16, 17, 18, 19, 20, 21, 22, 23, 24, 25, 26, 27, 28, 29, 30, 31, 32, 33, 34, 35, 36, 37, 38, 39, 40, 41] (fun (x : Nat) ρ m => ρ 11 = .int .i64 (x : Int) ∧ x ≤ ws.length ∧ ∃ tok h nx lv, ρ 3 = .sl 1 (((ws.take x).map wordS).map DV.str) tok ∧ m = ⟨h, [], nx, lv⟩ ∧ okT m tok) (fun x => ws.length - x) 0 ?_ ?_
  · simp only [go_sem]
    exact ⟨Nat.zero_le _, .nil, _, _, _, by simp, rfl, trivial⟩
  rintro x ρ m ⟨e11, hx, tok, h, nx, lv, e3, rfl, hok⟩ Q' hN hR hX
  by_cases hlt : x < ws.length
  · have hlt' : ((x : Int) < (ws.length : Int)) = True := eq_true (by omega)
    have h00 : ((0 : Int) ≤ (x : Int)) = True := by simp
    have w1 : IntKind.i64.wrap ((x : Int) + 1) = (x : Int) + 1 := i64_in (by omega) (by omega)
    obtain ⟨w, hw1⟩ : ∃ w, ws[x]? = some w := ⟨_, List.getElem?_eq_getElem hlt⟩
    have hok1 := hw w (List.mem_of_getElem? hw1)
    have hte : ws.take (x + 1) = ws.take x ++ [w] := by rw [List.take_add_one, hw1]; rfl
    have hlen : ((ws.take x).map wordS).length = x := by rw [List.length_map, List.length_take]; omega
    cases w with
    | s l =>
      simp only [go_sem, e11, e3, hlt', h00, hw1, dWd, w1, hN, hR, hX]
      refine ⟨okT_mono hok (fun j x => .inr x), by simp; omega, by kernel_rfl, x + 1, ?_, by simp only; omega⟩
      simp only [go_sem]
      exact ⟨by simp, by omega, .own (nx + 1), _, _, _, by rw [hte]; simp [wordS], rfl, .inl rfl⟩
    | n k =>
      simp only [go_sem, e11, e3, hlt', h00, hw1, dWd, w1, hN, hR, hX]
      refine ⟨rfl, fun z => ?_⟩
      refine callVt (f35 k hok1.1 hok1.2) ?_
      intro nx2 lv2 g1 g2
      simp only [go_sem, e11, e3, w1, hN, hR, hX]
      refine ⟨okT_mono hok (fun j x => .inr (g2 _ x)), by simp; omega, by kernel_rfl, x + 1, ?_, by simp only; omega⟩
      simp only [go_sem]
      exact ⟨by simp, by omega, .own (nx2 + 1), _, _, _, by rw [hte]; simp [wordS], rfl, .inl rfl⟩
    | b y =>
      cases y with
      | true =>
        simp only [go_sem, e11, e3, hlt', h00, hw1, dWd, w1, hN, hR, hX, key_bool, msetB, mgetT, List.all_cons, List.all_nil, Bool.and_true]
        refine ⟨rfl, fun z => ⟨rfl, fun z2 => ?_⟩⟩
        refine ⟨okT_mono hok (fun j x => .inr x), by simp; omega, by kernel_rfl, x + 1, ?_, by simp only; omega⟩
        simp only [go_sem]
        exact ⟨by simp, by omega, .own (nx + 1), _, _, _, by rw [hte]; simp [wordS, wAx], rfl, .inl rfl⟩
      | false =>
        simp only [go_sem, e11, e3, hlt', h00, hw1, dWd, w1, hN, hR, hX, key_bool, msetB, mgetF, List.all_cons, List.all_nil, Bool.and_true]
        refine ⟨rfl, fun z => ⟨rfl, fun z2 => ?_⟩⟩
        refine ⟨okT_mono hok (fun j x => .inr x), by simp; omega, by kernel_rfl, x + 1, ?_, by simp only; omega⟩
        simp only [go_sem]
        exact ⟨by simp, by omega, .own (nx + 1), _, _, _, by rw [hte]; simp [wordS, wCi], rfl, .inl rfl⟩
  · have hlt' : ((x : Int) < (ws.length : Int)) = False := eq_false (by omega)
    have hte : ws.take x = ws := List.take_of_length_le (by omega)
    rw [hte] at e3
    simp only [go_sem, e11, e3, hlt', hN, hR, hX]
    have hjl := join_len (ws.map wordS) (fun y hy => by obtain ⟨w, h1, rfl⟩ := List.mem_map.1 hy; exact wordS_le (hw w h1))
    rw [List.length_map] at hjl
    refine callV (f37 (ws.map wordS) [32] (by simpa using hne) (by simp; omega) (by omega) .no rfl) ?_
    intro nx2 lv2
    simp only [go_sem]
    exact ⟨by omega, rfl⟩
end Go.Proofs.YtkfhieigdlfbeaaDoor
