/- Faults: what they are; the small functions of both sides. -/
import Derived.Test.YtaieadcnhlapdaaDoorL200
import Derived.Test.YtaieadcnhlapdaaDoorP1
namespace Go.Proofs.YtaieadcnhlapdaaDoor
set_option linter.unusedSimpArgs false
set_option linter.unusedVariables false
open Go.AB

structure Flt where
  (kind who fr upto much : Int)
def dFlt (f : Flt) : DV := .agg [.int .i64 f.kind, .int .i64 f.who, .int .i64 f.fr, .int .i64 f.upto, .int .i64 f.much]
def eFlt (f : Flt) : AV := .agg [.int .i64 f.kind, .int .i64 f.who, .int .i64 f.fr, .int .i64 f.upto, .int .i64 f.much]
def cFlt (f : Flt) : List DV := [.int .i64 f.kind, .int .i64 f.who, .int .i64 f.fr, .int .i64 f.upto, .int .i64 f.much]
def bFlt (f : Flt) : List AV := [.int .i64 f.kind, .int .i64 f.who, .int .i64 f.fr, .int .i64 f.upto, .int .i64 f.much]
def clash (f x : Flt) : Bool := decide (x.kind = f.kind) && decide (x.who = f.who) && decide (x.fr < f.upto) && decide (f.fr < x.upto)
def muchB (k : Int) : Bool := decide (k = 5) || decide (k = 6)

theorem f10 (n lo hi : Int) : PCall Tryd.prog 10 [.int .i64 n, .int .i64 lo, .int .i64 hi] (RV (.bool (within n lo hi))) := by
  refine PCall.of_body Tryd.func10 rfl Tryd.ntmps10 (congrArg Array.toList Tryd.results10) ?_
  intro E
  simp only [go_sem]
  unfold within
  grind
theorem f12 (k : Int) : PCall Tryd.prog 12 [.int .i64 k] (RV (.bool (muchB k))) := by
  refine PCall.of_body Tryd.func12 rfl Tryd.ntmps12 (congrArg Array.toList Tryd.results12) ?_
  intro E
  simp only [go_sem]
  unfold muchB
  grind

set_option maxHeartbeats 1000000 in
set_option maxRecDepth 20000 in
theorem f28 (x f : Flt) : PCall Tryd.prog 28 [eFlt x, .ept (cFlt f)] (RV (.bool (clash f x))) := by
  refine PCall.of_body Tryd.func28 rfl Tryd.ntmps28 (congrArg Array.toList Tryd.results28) ?_
  intro E
  simp only [go_sem, eFlt, cFlt]
  by_cases h1 : x.kind = f.kind
  · by_cases h2 : x.who = f.who
    · by_cases h3 : x.fr < f.upto
      · simp only [go_sem, h1, h2, (by simp [h3] : (x.fr < f.upto) = True)]
        simp [clash, h1, h2, h3]
      · simp only [go_sem, h1, h2, (by simp [h3] : (x.fr < f.upto) = False)]
        simp [clash, h1, h2, h3]
    · simp only [go_sem, h1, (by simp [h2] : (x.who = f.who) = False)]
      simp [clash, h1, h2]
  · simp only [go_sem, (by simp [h1] : (x.kind = f.kind) = False)]
    simp [clash, h1]

/-- Where one clashes the first time. -/
def firstC (f : Flt) : List Flt → Int → Int
  | [], _ => -1
  | x :: r, i => if clash f x = true then i else firstC f r (i + 1)
theorem firstC_drop {f : Flt} {l : List Flt} {i : Nat} {x : Flt} (h : l[i]? = some x) : firstC f (l.drop i) i = if clash f x = true then (i : Int) else firstC f (l.drop (i + 1)) ((i + 1 : Nat) : Int) := by
  obtain ⟨hi, hx⟩ := List.getElem?_eq_some_iff.1 h
  rw [List.drop_eq_getElem_cons hi, hx]
  simp [firstC]
theorem firstC_neg {f : Flt} : ∀ (l : List Flt) (i : Int), 0 ≤ i → (0 ≤ firstC f l i ↔ l.any (clash f) = true)
  | [], i, h => by simp [firstC]
  | x :: r, i, h => by
    simp only [firstC, List.any_cons, Bool.or_eq_true]
    split
    · rename_i hx; simp [hx, h]
    · rename_i hx; rw [firstC_neg r (i + 1) (by omega)]; simp [hx]

theorem f42 (l : List Flt) (f : Flt) (hl : l.length ≤ 1000000) : PCall Tryd.prog 42 [.sl 5 (l.map dFlt) .no, .fn 28 [.ept (cFlt f)]] (RV (.int .i64 (firstC f l 0))) := by
  refine PCall.of_body Tryd.func42 rfl Tryd.ntmps42 (congrArg Array.toList Tryd.results42) ?_
  intro E
  simp only [go_sem]
  refine AW_loopH [4, 5, 8, 9, 10, 11, 12, 13, 14, 15, 16, 17, 18]
    (fun (i : Nat) ρ m => ρ 8 = .int .i64 (i : Int) ∧ i ≤ l.length ∧ firstC f (l.drop i) i = firstC f l 0 ∧ ∃ h nx lv, m = ⟨h, [], nx, lv⟩) (fun i => l.length - i) 0 ?_ ?_
  · simp [go_sem]
  · rintro i ρ m ⟨e8, g1, e3, h, nx, lv, rfl⟩ Q hN hR hX
    by_cases hlt : i < l.length
    · obtain ⟨x, hx⟩ : ∃ x, l[i]? = some x := ⟨_, List.getElem?_eq_getElem hlt⟩
      have hp : (l.map dFlt)[i]? = some (dFlt x) := by rw [List.getElem?_map, hx]; rfl
      have hlt' : ((i : Int) < (l.length : Int)) = True := by simp; omega
      have h0 : ((0 : Int) ≤ (i : Int)) = True := by simp
      have ew : IntKind.i64.wrap ((i : Int) + 1) = (i : Int) + 1 := i64_in (by omega) (by omega)
      have hd := firstC_drop (f := f) hx
      simp only [go_sem, e8, hlt', h0, hp, dFlt]
      refine callV (f28 x f) ?_
      intro nx2 lv2
      by_cases q : clash f x = true
      · rw [if_pos q] at hd
        simp only [go_sem, hR, q, ← e3, hd]
      · rw [if_neg q] at hd
        have q' : clash f x = false := by simpa using q
        simp only [go_sem, hN, q', ew]
        refine ⟨by kernel_rfl, i + 1, ?_, by simp only; omega⟩
        simp only [go_sem]
        exact ⟨by simp, by omega, by rw [← hd, e3], _, _, _, rfl⟩
    · have hlt' : ((i : Int) < (l.length : Int)) = False := by simp; omega
      have hd : l.drop i = [] := List.drop_eq_nil_of_le (by omega)
      rw [hd] at e3
      simp only [go_sem, e8, hlt', hX]
      rw [← e3]
      rfl

theorem f27 {l : List Flt} {d : List DV} (f : Flt) (hl : l.length ≤ 1000000) (hd : d = l.map dFlt) : PCall Tryd.prog 27 [.sl 5 d .no, .fn 28 [.ept (cFlt f)]] (RV (.bool (l.any (clash f)))) := by
  subst hd
  refine PCall.of_body Tryd.func27 rfl Tryd.ntmps27 (congrArg Array.toList Tryd.results27) ?_
  intro E
  simp only [go_sem]
  refine callV (f42 l f hl) ?_
  intro nx lv
  simp only [go_sem]
  rw [Bool.eq_iff_iff, decide_eq_true_iff]
  exact firstC_neg (f := f) l 0 (Int.le_refl _)

set_option maxRecDepth 20000 in
theorem f8 (l : List Flt) (hl : l.length * 40 ≤ 140737488351232) : PCall Tryd.prog 8 [.sl 5 (l.map dFlt) .no] (RV (.sl 5 (l.map dFlt) .no)) := by
  refine PCall.of_bodyE Tryd.func8 rfl Tryd.ntmps8 (congrArg Array.toList Tryd.results8) ?_
  intro E
  simp only [go_sem]
  refine AW_loopH [3, 5, 8, 9, 10, 11, 12, 13, 14, 15, 16, 17, 18, 19, 20, 21, 22, 23, 24, 25, 26]
    (fun (i : Nat) ρ m => ρ 8 = .int .i64 (i : Int) ∧ i ≤ l.length ∧ (∃ tok, ρ 3 = .sl 5 ((l.take i).map dFlt) tok ∧ okT m tok) ∧ ∃ h nx lv, m = ⟨h, [], nx, lv⟩) (fun i => l.length - i) 0 ?_ ?_
  · simp [go_sem]
  · rintro i ρ m ⟨e8, g1, ⟨tok, e3, hok⟩, h, nx, lv, rfl⟩ Q hN hR hX
    by_cases hlt : i < l.length
    · obtain ⟨e, he⟩ : ∃ e, l[i]? = some e := ⟨_, List.getElem?_eq_getElem hlt⟩
      have hp : (l.map dFlt)[i]? = some (dFlt e) := by rw [List.getElem?_map, he]; rfl
      have hlt' : ((i : Int) < (l.length : Int)) = True := by simp; omega
      have h0 : ((0 : Int) ≤ (i : Int)) = True := by simp
      have ew : IntKind.i64.wrap ((i : Int) + 1) = (i : Int) + 1 := i64_in (by omega) (by omega)
      have hts : (l.take (i + 1)).map dFlt = (l.take i).map dFlt ++ [dFlt e] := by rw [List.take_add_one, he]; simp
      simp only [go_sem, e8, e3, hlt', h0, hp, dFlt]
      generalize genO (AB.hget h 5) = G
      simp only [go_sem, hN, ew]
      refine ⟨okT_mono hok (fun j x => .inr x), by simp; omega, by kernel_rfl, i + 1, ?_, by simp only; omega⟩
      simp only [go_sem]
      refine ⟨by simp, by omega, ⟨_, ⟨?_, rfl⟩, .inl rfl⟩, _, _, _, rfl⟩
      rw [hts]; rfl
    · have hlt' : ((i : Int) < (l.length : Int)) = False := by simp; omega
      rw [List.take_of_length_le (by omega)] at e3
      simp only [go_sem, e8, hlt', hX, e3]

def wordsK : List (List UInt8) := [[], [112, 111, 105, 110, 116, 115], [116, 114, 97, 99, 107], [103, 97, 116, 101], [114, 97, 100, 105, 111], [115, 108, 105, 112], [115, 108, 111, 119], [100, 111, 111, 114, 115]]
theorem f15 : PCall Tryd.prog 15 [] (RV (.agg (wordsK.map AV.str))) := by
  refine PCall.of_body Tryd.func15 rfl Tryd.ntmps15 (congrArg Array.toList Tryd.results15) ?_
  intro E
  simp only [go_sem, wordsK, List.map_cons, List.map_nil]
theorem f19 : PCall Tryd.prog 19 [] (RV (.sl 1 (wordsK.map DV.str) .no)) := by
  refine PCall.of_bodyE Tryd.func19 rfl Tryd.ntmps19 (congrArg Array.toList Tryd.results19) ?_
  intro E
  simp only [go_sem, wordsK, List.map_cons, List.map_nil]
end Go.Proofs.YtaieadcnhlapdaaDoor
