/- Lines of a text, and words of lines: the program's and the reference's. -/
import Derived.Test.YtkfhieigdlfbeaaDoorU1
namespace Go.Proofs.YtkfhieigdlfbeaaDoor
set_option linter.unusedSimpArgs false
set_option linter.unusedVariables false
open Go.AB

theorem hasSuffix_nl (t : List UInt8) : Lib.hasSuffix t [10] = decide (t.getLast? = some 10) := by
  unfold Lib.hasSuffix
  rw [List.isSuffixOf, List.reverse_cons, List.reverse_nil, List.nil_append, List.getLast?_eq_head?_reverse]
  cases h : t.reverse with
  | nil => rfl
  | cons c r =>
    simp only [List.isPrefixOf, List.head?_cons, Option.some.injEq, Bool.and_true]
    by_cases hc : c = 10
    · simp [hc]
    · have : ((10 : UInt8) == c) = false := by simpa using fun e => hc e.symm
      simp [this, hc]

theorem trimSuffix_nl (t : List UInt8) : Lib.trimSuffix t [10] = if Lib.hasSuffix t [10] = true then t.take (t.length - 1) else t := by
  unfold Lib.trimSuffix
  simp

def dWords (ws : List (List UInt8)) : DV := .sl 1 (ws.map DV.str)
/-- Lines, each cut into words. -/
def linesF (t : List UInt8) : List (List (List UInt8)) := if t = [] then [] else (splitC 10 (Lib.trimSuffix t [10])).map (splitC 32)
def linesB (t : List UInt8) : Bool := if t = [] then true else Lib.hasSuffix t [10]
def linesV (t : List UInt8) : AV := .tup [.sl 1 ((linesF t).map dWords) .no, .bool (linesB t)]
def rlines (t : List UInt8) : List (List UInt8) := if t = [] then [] else if Lib.hasSuffix t [10] = true then splitC 10 (t.take (t.length - 1)) else []
def rlinesV (t : List UInt8) : AV := .tup [.sl 1 ((rlines t).map DV.str) .no, .bool (linesB t)]

theorem lines_eq {t : List UInt8} (h : linesB t = true) : linesF t = (rlines t).map (splitC 32) := by
  unfold linesF rlines
  by_cases h0 : t = []
  · rw [if_pos h0, if_pos h0]; rfl
  · have h1 : Lib.hasSuffix t [10] = true := by simpa [linesB, h0] using h
    rw [if_neg h0, if_neg h0, if_pos h1, trimSuffix_nl, if_pos h1]

theorem trim_le (t : List UInt8) : (Lib.trimSuffix t [10]).length ≤ t.length := by
  rw [trimSuffix_nl]
  split
  · rw [List.length_take]; omega
  · exact Nat.le_refl _

set_option maxHeartbeats 1000000 in
set_option maxRecDepth 20000 in
theorem f29 (t : List UInt8) (ht : t.length ≤ 268435456) : PCall Tryd.prog 29 [.str t] (RV (linesV t)) := by
  refine PCall.of_bodyE Tryd.func29 rfl Tryd.ntmps29 (congrArg Array.toList Tryd.results29) ?_
  intro E
  by_cases h0 : t = []
  · subst h0
    simp only [go_sem]
    try rfl
  · have h0' : (t = []) = False := eq_false h0
    simp only [go_sem, h0']
    refine callV (f63 t [10] (by omega)) ?_
    intro nx lv
    simp only [go_sem]
    have hle := trim_le t
    refine callV (f25 (Lib.trimSuffix t [10]) 10 (by omega)) ?_
    intro nx2 lv2
    have hll := splitC_length 10 (Lib.trimSuffix t [10])
    have hF : linesF t = (splitC 10 (Lib.trimSuffix t [10])).map (splitC 32) := by unfold linesF; rw [if_neg h0]
    have hB : linesB t = Lib.hasSuffix t [10] := by unfold linesB; rw [if_neg h0]
    have hw : ∀ w ∈ splitC 10 (Lib.trimSuffix t [10]), w.length ≤ 268435456 := fun w hw => by have := (splitC_mem hw).1; omega
    rw [linesV, hF, hB]
    generalize Lib.hasSuffix t [10] = b
    generalize splitC 10 (Lib.trimSuffix t [10]) = ls at *
    simp only [go_sem]
    refine AW_loopH [6, 8, 19, 20, 21, 22, 23, 24, 25, 26, 27, 28] (fun (x : Nat) ρ m => ρ 19 = .int .i64 (x : Int) ∧ x ≤ ls.length ∧ ∃ tok nx lv, ρ 6 = .sl 1 (((ls.take x).map (splitC 32)).map dWords) tok ∧ m = ⟨[], [], nx, lv⟩ ∧ okT m tok) (fun x => ls.length - x) 0 ?_ ?_
    · simp only [go_sem]
      exact ⟨Nat.zero_le _, .nil, _, _, by simp, rfl, trivial⟩
    · rintro x ρ m ⟨e19, hx, tok, nx, lv, e6, rfl, hok⟩ Q' hN hR hX
      by_cases hlt : x < ls.length
      · have hlt' : ((x : Int) < (ls.length : Int)) = True := by simp; omega
        have h00 : ((0 : Int) ≤ (x : Int)) = True := by simp
        have w1 : IntKind.i64.wrap ((x : Int) + 1) = (x : Int) + 1 := i64_in (by omega) (by omega)
        obtain ⟨w, hw1⟩ : ∃ w, ls[x]? = some w := ⟨_, List.getElem?_eq_getElem hlt⟩
        have hwl := hw w (List.mem_of_getElem? hw1)
        have hte : ls.take (x + 1) = ls.take x ++ [w] := by rw [List.take_add_one, hw1]; rfl
        simp only [go_sem, e19, e6, hlt', h00, hw1, hN, hR, hX]
        refine callVt (f25 w 32 (by omega)) ?_
        intro nx3 lv3 g1 g2
        simp only [go_sem, e19, e6, w1, hN, hR, hX]
        refine ⟨okT_mono hok (fun j x => .inr (g2 _ x)), by simp; omega, by kernel_rfl, x + 1, ?_, by simp only; omega⟩
        simp only [go_sem]
        refine ⟨by simp, by omega, .own (nx3 + 1), _, _, ?_, rfl, .inl rfl⟩
        rw [hte]
        simp [dWords]
      · have hlt' : ((x : Int) < (ls.length : Int)) = False := by simp; omega
        have hte : ls.take x = ls := List.take_of_length_le (by omega)
        rw [hte] at e6
        simp only [go_sem, e19, e6, hlt', hN, hR, hX]
        try rfl

set_option maxRecDepth 20000 in
theorem f31 (t : List UInt8) (ht : t.length ≤ 268435456) : PCall Tryd.prog 31 [.str t] (RV (rlinesV t)) := by
  refine PCall.of_bodyE Tryd.func31 rfl Tryd.ntmps31 (congrArg Array.toList Tryd.results31) ?_
  intro E
  by_cases h0 : t = []
  · subst h0
    simp only [go_sem]
    try rfl
  · have h0' : (t = []) = False := eq_false h0
    simp only [go_sem, h0']
    refine callV (f68 t [10] (by omega)) ?_
    intro nx lv
    have hp : 1 ≤ t.length := List.length_pos_iff.2 h0
    have hB : linesB t = Lib.hasSuffix t [10] := by unfold linesB; rw [if_neg h0]
    cases hs : Lib.hasSuffix t [10] with
    | false =>
      have hF : rlines t = [] := by unfold rlines; rw [if_neg h0, if_neg (by rw [hs]; simp)]
      rw [rlinesV, hF, hB, hs]
      simp only [go_sem]
      try rfl
    | true =>
      have hF : rlines t = splitC 10 (t.take (t.length - 1)) := by unfold rlines; rw [if_neg h0, if_pos hs]
      rw [rlinesV, hF, hB, hs]
      have w1 : IntKind.i64.wrap ((t.length : Int) - 1) = ((t.length - 1 : Nat) : Int) := by rw [i64_in (by omega) (by omega)]; omega
      have hle : (t.length - 1 ≤ t.length) = True := eq_true (by omega)
      have h00 : ((0 : Int) ≤ ((t.length - 1 : Nat) : Int)) = True := eq_true (by omega)
      have ht2 : (t.take (t.length - 1)).take (t.length - 1 - 0) = t.take (t.length - 1) := by rw [List.take_take]; congr 1; omega
      simp only [go_sem, w1, hle, h00, if_true, List.drop_zero, Nat.sub_zero]
      refine ⟨Nat.zero_le _, callV (f25 (t.take (t.length - 1)) 10 (by rw [List.length_take]; omega)) ?_⟩
      intro nx2 lv2
      simp only [go_sem]
end Go.Proofs.YtkfhieigdlfbeaaDoor
