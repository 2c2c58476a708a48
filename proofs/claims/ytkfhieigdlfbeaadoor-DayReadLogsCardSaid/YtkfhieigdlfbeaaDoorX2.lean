/- DayReadLogs: the functions that panic. -/
import Derived.Test.YtkfhieigdlfbeaaDoorU3
import Derived.Test.YtkfhieigdlfbeaaDoorD2
import Derived.Test.YtkfhieigdlfbeaaDoorX1
namespace Go.Proofs.YtkfhieigdlfbeaaDoor
open Go.AB
set_option linter.unusedSimpArgs false
set_option linter.unusedVariables false

/-- The entry of a line's words, if it is one. -/
def entN (l : Option (List Int)) : Option Ent := match l with
  | some [a, b, c, d, e, _] => some ⟨a, b, c, d, e⟩
  | _ => none
def entW (ws : List (List UInt8)) : Option Ent := entN (numsF ws)
theorem entN_len {l : Option (List Int)} (h : l.isSome = true) (h6 : (l.getD []).length = 6) : ∃ a b c d e f, l = some [a, b, c, d, e, f] := by
  cases l with
  | none => cases h
  | some l =>
    simp only [Option.getD_some] at h6
    match l, h6 with
    | [a, b, c, d, e, f], _ => exact ⟨a, b, c, d, e, f, rfl⟩
theorem entN_none {l : Option (List Int)} (h6 : (l.getD []).length ≠ 6) : entN l = none := by
  unfold entN
  split
  · simp at h6
  · rfl

/-- Two slices that may be added to, apart. -/
def T2 (m : AH) (a b : Tok) : Prop := okT m a ∧ okT m b ∧ (∀ i, a = .own i → i < m.nx) ∧ (∀ i, b = .own i → i < m.nx) ∧ (∀ i, a = .own i → b ≠ .own i)

theorem okT_at {m m' : AH} {t : Tok} (h : okT m t) (hm : ∀ j, t = .own j → m.lv j → m'.lv j) : okT m' t := by
  cases t with
  | no => exact h
  | nil => exact trivial
  | own i => exact hm i rfl h

set_option maxHeartbeats 2000000 in
set_option maxRecDepth 20000 in
theorem f34 (ws : List (List UInt8)) (hl : ws.length ≤ 4294967296) (hw : ∀ w ∈ ws, w.length ≤ 4294967296) (rows : List (List (List UInt8))) (ents : List Ent) (hr : rows.length ≤ 1000000000) (he : ents.length ≤ 1000000000) (t5 t4 : Tok) (h : List (Nat × Nat × List AV)) (nx : Nat) (lv : Nat → Prop)
    (hT : T2 ⟨h, [[.sl 1 (rows.map dWords) t5], [.sl 5 (ents.map dEnt) t4]], nx, lv⟩ t5 t4) :
    QCallP Tryd.prog 34 ⟨h, [[.sl 1 (rows.map dWords) t5], [.sl 5 (ents.map dEnt) t4]], nx, lv⟩ [.sl 1 (ws.map DV.str) .no, .ptr (.out 0) 0, .ptr (.out 1) 0]
      (fun m' _ => ∃ e t5' t4' nx' lv', entW ws = some e ∧ m' = ⟨h, [[.sl 1 ((rows ++ [ws]).map dWords) t5'], [.sl 5 ((ents ++ [e]).map dEnt) t4']], nx', lv'⟩ ∧ T2 m' t5' t4')
      (wrong 10) (fun m' => entW ws = none ∧ ∃ nx' lv', m' = ⟨h, [[.sl 1 (rows.map dWords) t5], [.sl 5 (ents.map dEnt) t4]], nx', lv'⟩) := by
  obtain ⟨h5, h4, n5, n4, hd⟩ := hT
  refine QCallP.of_bodyB (k1 := 2) (k2 := 2) Tryd.func34 rfl Tryd.ntmps34 (congrArg Array.toList Tryd.results34) ?_
  intro E
  simp only [go_sem]
  refine callVt (f24 ws hl hw) ?_
  intro nx2 lv2 g1 g2
  simp only at n5 n4 g1 g2
  by_cases hs : (numsF ws).isSome = true
  rotate_left
  · have hs' : (numsF ws).isSome = false := by simpa using hs
    have hn : numsF ws = none := by simpa using hs'
    simp only [go_sem, numsV, hn, Option.isSome_none]
    refine AW_panicL (V := wrong 10) rfl rfl rfl rfl ?_
    simp only [go_sem, List.dropLast]
    exact ⟨fun G w u hu => wrong_inv hu, by rw [entW, hn]; rfl, _, _, rfl⟩
  · by_cases h6 : ((numsF ws).getD []).length = 6
    rotate_left
    · have h6' : ((((numsF ws).getD []).length : Int) = 6) = False := by simp; omega
      simp only [go_sem, numsV, hs, h6']
      refine AW_panicL (V := wrong 10) rfl rfl rfl rfl ?_
      simp only [go_sem, List.dropLast]
      exact ⟨fun G w u hu => wrong_inv hu, entN_none h6, _, _, rfl⟩
    · obtain ⟨a, b, c, d, e, f, hn⟩ := entN_len hs h6
      have hent : entW ws = some ⟨a, b, c, d, e⟩ := by rw [entW, hn]; rfl
      simp only [go_sem, numsV, hn, Option.isSome_some, Option.getD_some]
      refine ⟨okT_mono h5 (fun j x => .inr (g2 _ x)), by omega, ?_⟩
      refine drawnT [2, 2, 2, 2, 2, 2, 2, 2, 2, 2, 2, 2, 2, 2, 2, 2, 2, 3, 1, 1] (.alt 17 [2, 0, 0, 0, 0, 0, 0, 0, 0, 0, 0, 0, 0, 0, 0, 0, 0, 0, 3, 1] (.alt 18 [0, 0, 0, 0, 0, 0, 0, 0, 0, 0, 0, 0, 0, 0, 0, 0, 0, 0, 0, 3] (.alt 19 [0, 0, 0, 0, 0, 0, 0, 0, 0, 0, 0, 0, 0, 0, 0, 0, 0, 0, 0, 0] .fin .nil) .nil) .nil) 43 (by kernel_rfl) (by kernel_rfl) (by kernel_rfl) (by kernel_rfl) rfl ?_
      simp only [go_sem, dInt]
      intro nx3 lv3 q1 q2 nx4 lv4 q3 q4
      refine ⟨okT_at h4 (fun j e1 e2 => q4 _ (.inr (q2 _ (.inr ⟨.inr (g2 _ e2), fun e3 => hd j e3 e1⟩)))), by omega, ?_⟩
      intro nx5 lv5 q5 q6 nx6 lv6 q7 q8
      refine ⟨⟨a, b, c, d, e⟩, .own (nx2 + 1), .own nx4, nx6, lv6, hent, by simp [dWords, dEnt], ?_, ?_, ?_, ?_, ?_⟩
      · exact q8 _ (q6 _ (.inr ⟨q4 _ (.inr (q2 _ (.inl rfl))), fun e1 => by have := n4 _ e1; omega⟩))
      · exact q8 _ (q6 _ (.inl rfl))
      · intro i e1; cases e1; simp only; omega
      · intro i e1; cases e1; simp only; omega
      · intro i e1 e2; cases e1; cases e2; omega
end Go.Proofs.YtkfhieigdlfbeaaDoor
