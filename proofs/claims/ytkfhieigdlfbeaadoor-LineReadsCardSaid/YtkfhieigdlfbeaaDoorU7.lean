/- A line of a net: what is read of its words, by the reference. -/
import Derived.Test.YtkfhieigdlfbeaaDoorU6
namespace Go.Proofs.YtkfhieigdlfbeaaDoor
set_option linter.unusedSimpArgs false
set_option linter.unusedVariables false
open Go.AB

/-- What the reading of a section's line comes to. -/
def RSec (n : Net) (it : Option Item) : AH → AV → Prop := fun m r => m.o = [] ∧ match it with
  | none => ∃ a b c d e, r = .tup [.agg (nC n a b c d e), .bool false]
  | some it => ∃ a b c d e, r = .tup [.agg (nC (addI n it) a b c d e), .bool true] ∧ TOk m.nx m.lv [a, b, c, d, e]
def RRef (n : Net) (it : Option Item) : AH → AV → Prop := fun m r => m.o = [] ∧ match it with
  | none => ∃ a b c d e k, r = .tup [.agg (nC n a b c d e), .int .i64 k, .bool false]
  | some it => ∃ a b c d e, r = .tup [.agg (nC (addI n it) a b c d e), .int .i64 (kindI it), .bool true] ∧ TOk m.nx m.lv [a, b, c, d, e]

set_option maxHeartbeats 4000000 in
set_option maxRecDepth 20000 in
theorem f83_pl (n : Net) (r : List (List UInt8)) (a b c d e : Tok) (nx : Nat) (lv : Nat → Prop) (hn : NetS n) (hr : r.length ≤ 20001) (hw : ∀ w ∈ r, w.length ≤ 20000) (ht : TOk nx lv [a, b, c, d, e]) :
    QCall Tryd.prog 83 ⟨[], [], nx, lv⟩ [.agg (nC n a b c d e), .sl 1 ((kPl :: r).map DV.str) .no] (RSec n (itemOf (kPl :: r))) := by
  refine QCall.of_body Tryd.func83 rfl Tryd.ntmps83 (congrArg Array.toList Tryd.results83) ?_
  intro E
  obtain ⟨hnm, hsc, hlk, hsg, hgt⟩ := hn
  cases hz : r.getLast? with
  | none =>
    have hr0 : r = [] := List.getLast?_eq_none_iff.1 hz
    subst hr0
    have w0 : IntKind.i64.wrap 0 = 0 := rfl
    have l0 : ((0 : Int) < 1) = True := eq_true (by decide)
    simp only [go_sem, u_99_112, u_112_99, u_115_112, u_112_115, u_103_108, u_108_103, u_97_99, u_99_97, false_and, nC, List.map_cons, kPl, w0, l0]
    exact ⟨rfl, _, _, _, _, _, rfl⟩
  | some z =>
    have hlen : 1 ≤ r.length := by
      cases r with
      | nil => cases hz
      | cons x q => simp
    have hzi0 : r[r.length - 1]? = some z := by rw [← List.getLast?_eq_getElem?]; exact hz
    have hzi : (DV.str kPl :: List.map DV.str r)[r.length]? = some (DV.str z) := by
      obtain ⟨m, hm⟩ : ∃ m, r.length = m + 1 := ⟨r.length - 1, by omega⟩
      rw [hm, List.getElem?_cons_succ, List.getElem?_map]
      have : m = r.length - 1 := by omega
      rw [this, hzi0]
      rfl
    have hs1 := take_last (r := r)
    have w1 : IntKind.i64.wrap (((r.length + 1 : Nat) : Int) - 1) = ((r.length : Nat) : Int) := by rw [i64_in (by omega) (by omega)]; omega
    have l1 : ((r.length : Int) < 1) = False := eq_false (by omega)
    have hle : (r.length ≤ r.length + 1) = True := eq_true (by omega)
    have h00 : ((0 : Int) ≤ ((r.length : Nat) : Int)) = True := eq_true (by omega)
    have hle1 : (1 ≤ r.length) = True := eq_true hlen
    have hit : itemOf (kPl :: r) = sectOf kPl r.dropLast z := by simp [itemOf, hz, kSt, kPl, kPo, kCr]
    rw [hit]
    have hdw : ∀ w ∈ r.dropLast, w.length ≤ 4294967296 := fun w hm => by have := hw w (List.dropLast_subset r hm); omega
    have hdl2 : r.dropLast.length ≤ 4294967296 := by rw [List.length_dropLast]; omega
    simp only [kPl] at hzi
    by_cases hzz : z = kAx ∨ z = kCi
    rotate_left
    · have z1 : (z = [97, 120, 108, 101, 115]) = False := eq_false (fun h => hzz (.inl h))
      have z2 : (z = [99, 105, 114, 99, 117, 105, 116]) = False := eq_false (fun h => hzz (.inr h))
      have hno : ∀ k, sectOf k r.dropLast z = none := fun k => by unfold sectOf; rw [if_neg hzz]
      simp only [go_sem, u_99_112, u_112_99, u_115_112, u_112_115, u_103_108, u_108_103, u_97_99, u_99_97, false_and, nC, List.map_cons, kPl, w1, l1, hzi, h00, z1, z2]
      rw [hno]
      exact ⟨rfl, _, _, _, _, _, rfl⟩
    have z12 : ((z = [97, 120, 108, 101, 115]) = True ∧ decide (z = kAx) = true) ∨ ((z = [97, 120, 108, 101, 115]) = False ∧ (z = [99, 105, 114, 99, 117, 105, 116]) = True ∧ decide (z = kAx) = false) := by
      rcases hzz with rfl | rfl
      · exact .inl ⟨eq_true rfl, by simp⟩
      · exact .inr ⟨eq_false (by decide), eq_true rfl, by decide⟩
    rcases z12 with ⟨z1, z3⟩ | ⟨z1, z2, z3⟩
    · simp only [go_sem, u_99_112, u_112_99, u_115_112, u_112_115, u_103_108, u_108_103, u_97_99, u_99_97, false_and, nC, List.map_cons, kPl, w1, l1, hzi, hs1, hle, h00, hle1, if_true, z1]
      refine callVt (f27 r.dropLast hdl2 hdw) ?_
      intro nx2 lv2 g3 g4
      cases hq : numsF r.dropLast with
      | none =>
        rw [sectOf_none hq]
        simp only [go_sem, u_99_112, u_112_99, u_115_112, u_112_115, u_103_108, u_108_103, u_97_99, u_99_97, false_and, numsV, hq, Option.isSome_none, w1, l1, hzi, h00, z1]
        exact ⟨rfl, _, _, _, _, _, rfl⟩
      | some l =>
        by_cases hl : l.length = 4
        rotate_left
        · have hl' : ((l.length : Int) = 4) = False := eq_false (by omega)
          have hno := sectOf_len (k := kPl) (z := z) hq (fun _ h => hl h) (fun h => absurd h (by decide))
          simp only [kPl] at hno
          rw [hno]
          simp only [go_sem, u_99_112, u_112_99, u_115_112, u_112_115, u_103_108, u_108_103, u_97_99, u_99_97, false_and, numsV, hq, Option.isSome_some, Option.getD_some, hl', w1, l1, hzi, h00, z1]
          exact ⟨rfl, _, _, _, _, _, rfl⟩
        obtain ⟨p1, p2, p3, p4, rfl⟩ := four hl
        have hso : sectOf kPl r.dropLast z = some (.se ⟨1, p1, p2, p3, 0, p4, true⟩) := by unfold sectOf; rw [if_pos hzz, hq, z3]; simp [kPl, kPo, kCr]
        simp only [kPl] at hso
        rw [hso]
        simp only [go_sem, u_99_112, u_112_99, u_115_112, u_112_115, u_103_108, u_108_103, u_97_99, u_99_97, false_and, numsV, hq, Option.isSome_some, Option.getD_some, dInt, List.map_cons, List.map_nil, w1, l1, hzi, h00, z1]
        refine drawnS [] (by kernel_rfl) (by kernel_rfl) (by kernel_rfl) ?_
        simp only [go_sem, u_99_112, u_112_99, u_115_112, u_112_115, u_103_108, u_108_103, u_97_99, u_99_97, false_and, nC]
        intro nx3 lv3 g5 g6
        have ht5 := ht.mono (nx' := nx3 + 1) (lv' := fun j => j = nx3 ∨ lv3 j) (by simp only at g3; omega) (fun j x => .inr (g6 _ (g4 _ x)))
        refine ⟨ht5.ok (t := b) (by simp) _ _, by omega, ?_⟩
        have h9 : TOk (nx3 + 1 + 1) (fun j => j = nx3 + 1 ∨ (j = nx3 ∨ lv3 j) ∧ ¬ b = .own j) [a, .own (nx3 + 1), c, d, e] := ht5.set 1 b rfl (Nat.le_refl _) (by omega) (.inl rfl) (fun j h1 h2 => .inr ⟨h1, h2⟩)
        exact ⟨rfl, a, .own (nx3 + 1), c, d, e, by simp [nC, addI, dSect], h9⟩
    · simp only [go_sem, u_99_112, u_112_99, u_115_112, u_112_115, u_103_108, u_108_103, u_97_99, u_99_97, false_and, nC, List.map_cons, kPl, w1, l1, hzi, hs1, hle, h00, hle1, if_true, z1, z2]
      refine callVt (f27 r.dropLast hdl2 hdw) ?_
      intro nx2 lv2 g3 g4
      cases hq : numsF r.dropLast with
      | none =>
        rw [sectOf_none hq]
        simp only [go_sem, u_99_112, u_112_99, u_115_112, u_112_115, u_103_108, u_108_103, u_97_99, u_99_97, false_and, numsV, hq, Option.isSome_none, w1, l1, hzi, h00, z1, z2]
        exact ⟨rfl, _, _, _, _, _, rfl⟩
      | some l =>
        by_cases hl : l.length = 4
        rotate_left
        · have hl' : ((l.length : Int) = 4) = False := eq_false (by omega)
          have hno := sectOf_len (k := kPl) (z := z) hq (fun _ h => hl h) (fun h => absurd h (by decide))
          simp only [kPl] at hno
          rw [hno]
          simp only [go_sem, u_99_112, u_112_99, u_115_112, u_112_115, u_103_108, u_108_103, u_97_99, u_99_97, false_and, numsV, hq, Option.isSome_some, Option.getD_some, hl', w1, l1, hzi, h00, z1, z2]
          exact ⟨rfl, _, _, _, _, _, rfl⟩
        obtain ⟨p1, p2, p3, p4, rfl⟩ := four hl
        have hso : sectOf kPl r.dropLast z = some (.se ⟨1, p1, p2, p3, 0, p4, false⟩) := by unfold sectOf; rw [if_pos hzz, hq, z3]; simp [kPl, kPo, kCr]
        simp only [kPl] at hso
        rw [hso]
        simp only [go_sem, u_99_112, u_112_99, u_115_112, u_112_115, u_103_108, u_108_103, u_97_99, u_99_97, false_and, numsV, hq, Option.isSome_some, Option.getD_some, dInt, List.map_cons, List.map_nil, w1, l1, hzi, h00, z1, z2]
        refine drawnS [] (by kernel_rfl) (by kernel_rfl) (by kernel_rfl) ?_
        simp only [go_sem, u_99_112, u_112_99, u_115_112, u_112_115, u_103_108, u_108_103, u_97_99, u_99_97, false_and, nC]
        intro nx3 lv3 g5 g6
        have ht5 := ht.mono (nx' := nx3 + 1) (lv' := fun j => j = nx3 ∨ lv3 j) (by simp only at g3; omega) (fun j x => .inr (g6 _ (g4 _ x)))
        refine ⟨ht5.ok (t := b) (by simp) _ _, by omega, ?_⟩
        have h9 : TOk (nx3 + 1 + 1) (fun j => j = nx3 + 1 ∨ (j = nx3 ∨ lv3 j) ∧ ¬ b = .own j) [a, .own (nx3 + 1), c, d, e] := ht5.set 1 b rfl (Nat.le_refl _) (by omega) (.inl rfl) (fun j h1 h2 => .inr ⟨h1, h2⟩)
        exact ⟨rfl, a, .own (nx3 + 1), c, d, e, by simp [nC, addI, dSect], h9⟩

set_option maxHeartbeats 4000000 in
set_option maxRecDepth 20000 in
theorem f83_po (n : Net) (r : List (List UInt8)) (a b c d e : Tok) (nx : Nat) (lv : Nat → Prop) (hn : NetS n) (hr : r.length ≤ 20001) (hw : ∀ w ∈ r, w.length ≤ 20000) (ht : TOk nx lv [a, b, c, d, e]) :
    QCall Tryd.prog 83 ⟨[], [], nx, lv⟩ [.agg (nC n a b c d e), .sl 1 ((kPo :: r).map DV.str) .no] (RSec n (itemOf (kPo :: r))) := by
  refine QCall.of_body Tryd.func83 rfl Tryd.ntmps83 (congrArg Array.toList Tryd.results83) ?_
  intro E
  obtain ⟨hnm, hsc, hlk, hsg, hgt⟩ := hn
  cases hz : r.getLast? with
  | none =>
    have hr0 : r = [] := List.getLast?_eq_none_iff.1 hz
    subst hr0
    have w0 : IntKind.i64.wrap 0 = 0 := rfl
    have l0 : ((0 : Int) < 1) = True := eq_true (by decide)
    simp only [go_sem, u_99_112, u_112_99, u_115_112, u_112_115, u_103_108, u_108_103, u_97_99, u_99_97, false_and, nC, List.map_cons, kPo, w0, l0]
    exact ⟨rfl, _, _, _, _, _, rfl⟩
  | some z =>
    have hlen : 1 ≤ r.length := by
      cases r with
      | nil => cases hz
      | cons x q => simp
    have hzi0 : r[r.length - 1]? = some z := by rw [← List.getLast?_eq_getElem?]; exact hz
    have hzi : (DV.str kPo :: List.map DV.str r)[r.length]? = some (DV.str z) := by
      obtain ⟨m, hm⟩ : ∃ m, r.length = m + 1 := ⟨r.length - 1, by omega⟩
      rw [hm, List.getElem?_cons_succ, List.getElem?_map]
      have : m = r.length - 1 := by omega
      rw [this, hzi0]
      rfl
    have hs1 := take_last (r := r)
    have w1 : IntKind.i64.wrap (((r.length + 1 : Nat) : Int) - 1) = ((r.length : Nat) : Int) := by rw [i64_in (by omega) (by omega)]; omega
    have l1 : ((r.length : Int) < 1) = False := eq_false (by omega)
    have hle : (r.length ≤ r.length + 1) = True := eq_true (by omega)
    have h00 : ((0 : Int) ≤ ((r.length : Nat) : Int)) = True := eq_true (by omega)
    have hle1 : (1 ≤ r.length) = True := eq_true hlen
    have hit : itemOf (kPo :: r) = sectOf kPo r.dropLast z := by simp [itemOf, hz, kSt, kPl, kPo, kCr]
    rw [hit]
    have hdw : ∀ w ∈ r.dropLast, w.length ≤ 4294967296 := fun w hm => by have := hw w (List.dropLast_subset r hm); omega
    have hdl2 : r.dropLast.length ≤ 4294967296 := by rw [List.length_dropLast]; omega
    simp only [kPo] at hzi
    by_cases hzz : z = kAx ∨ z = kCi
    rotate_left
    · have z1 : (z = [97, 120, 108, 101, 115]) = False := eq_false (fun h => hzz (.inl h))
      have z2 : (z = [99, 105, 114, 99, 117, 105, 116]) = False := eq_false (fun h => hzz (.inr h))
      have hno : ∀ k, sectOf k r.dropLast z = none := fun k => by unfold sectOf; rw [if_neg hzz]
      simp only [go_sem, u_99_112, u_112_99, u_115_112, u_112_115, u_103_108, u_108_103, u_97_99, u_99_97, false_and, nC, List.map_cons, kPo, w1, l1, hzi, h00, z1, z2]
      rw [hno]
      exact ⟨rfl, _, _, _, _, _, rfl⟩
    have z12 : ((z = [97, 120, 108, 101, 115]) = True ∧ decide (z = kAx) = true) ∨ ((z = [97, 120, 108, 101, 115]) = False ∧ (z = [99, 105, 114, 99, 117, 105, 116]) = True ∧ decide (z = kAx) = false) := by
      rcases hzz with rfl | rfl
      · exact .inl ⟨eq_true rfl, by simp⟩
      · exact .inr ⟨eq_false (by decide), eq_true rfl, by decide⟩
    rcases z12 with ⟨z1, z3⟩ | ⟨z1, z2, z3⟩
    · simp only [go_sem, u_99_112, u_112_99, u_115_112, u_112_115, u_103_108, u_108_103, u_97_99, u_99_97, false_and, nC, List.map_cons, kPo, w1, l1, hzi, hs1, hle, h00, hle1, if_true, z1]
      refine callVt (f27 r.dropLast hdl2 hdw) ?_
      intro nx2 lv2 g3 g4
      cases hq : numsF r.dropLast with
      | none =>
        rw [sectOf_none hq]
        simp only [go_sem, u_99_112, u_112_99, u_115_112, u_112_115, u_103_108, u_108_103, u_97_99, u_99_97, false_and, numsV, hq, Option.isSome_none, w1, l1, hzi, h00, z1]
        exact ⟨rfl, _, _, _, _, _, rfl⟩
      | some l =>
        by_cases hl : l.length = 4
        rotate_left
        · have hl' : ((l.length : Int) = 4) = False := eq_false (by omega)
          have hno := sectOf_len (k := kPo) (z := z) hq (fun _ h => hl h) (fun h => absurd h (by decide))
          simp only [kPo] at hno
          rw [hno]
          simp only [go_sem, u_99_112, u_112_99, u_115_112, u_112_115, u_103_108, u_108_103, u_97_99, u_99_97, false_and, numsV, hq, Option.isSome_some, Option.getD_some, hl', w1, l1, hzi, h00, z1]
          exact ⟨rfl, _, _, _, _, _, rfl⟩
        obtain ⟨p1, p2, p3, p4, rfl⟩ := four hl
        have hso : sectOf kPo r.dropLast z = some (.se ⟨2, p1, p2, p3, p4, 0, true⟩) := by unfold sectOf; rw [if_pos hzz, hq, z3]; simp [kPl, kPo, kCr]
        simp only [kPo] at hso
        rw [hso]
        simp only [go_sem, u_99_112, u_112_99, u_115_112, u_112_115, u_103_108, u_108_103, u_97_99, u_99_97, false_and, numsV, hq, Option.isSome_some, Option.getD_some, dInt, List.map_cons, List.map_nil, w1, l1, hzi, h00, z1]
        refine drawnS [] (by kernel_rfl) (by kernel_rfl) (by kernel_rfl) ?_
        simp only [go_sem, u_99_112, u_112_99, u_115_112, u_112_115, u_103_108, u_108_103, u_97_99, u_99_97, false_and, nC]
        intro nx3 lv3 g5 g6
        have ht5 := ht.mono (nx' := nx3 + 1) (lv' := fun j => j = nx3 ∨ lv3 j) (by simp only at g3; omega) (fun j x => .inr (g6 _ (g4 _ x)))
        refine ⟨ht5.ok (t := b) (by simp) _ _, by omega, ?_⟩
        have h9 : TOk (nx3 + 1 + 1) (fun j => j = nx3 + 1 ∨ (j = nx3 ∨ lv3 j) ∧ ¬ b = .own j) [a, .own (nx3 + 1), c, d, e] := ht5.set 1 b rfl (Nat.le_refl _) (by omega) (.inl rfl) (fun j h1 h2 => .inr ⟨h1, h2⟩)
        exact ⟨rfl, a, .own (nx3 + 1), c, d, e, by simp [nC, addI, dSect], h9⟩
    · simp only [go_sem, u_99_112, u_112_99, u_115_112, u_112_115, u_103_108, u_108_103, u_97_99, u_99_97, false_and, nC, List.map_cons, kPo, w1, l1, hzi, hs1, hle, h00, hle1, if_true, z1, z2]
      refine callVt (f27 r.dropLast hdl2 hdw) ?_
      intro nx2 lv2 g3 g4
      cases hq : numsF r.dropLast with
      | none =>
        rw [sectOf_none hq]
        simp only [go_sem, u_99_112, u_112_99, u_115_112, u_112_115, u_103_108, u_108_103, u_97_99, u_99_97, false_and, numsV, hq, Option.isSome_none, w1, l1, hzi, h00, z1, z2]
        exact ⟨rfl, _, _, _, _, _, rfl⟩
      | some l =>
        by_cases hl : l.length = 4
        rotate_left
        · have hl' : ((l.length : Int) = 4) = False := eq_false (by omega)
          have hno := sectOf_len (k := kPo) (z := z) hq (fun _ h => hl h) (fun h => absurd h (by decide))
          simp only [kPo] at hno
          rw [hno]
          simp only [go_sem, u_99_112, u_112_99, u_115_112, u_112_115, u_103_108, u_108_103, u_97_99, u_99_97, false_and, numsV, hq, Option.isSome_some, Option.getD_some, hl', w1, l1, hzi, h00, z1, z2]
          exact ⟨rfl, _, _, _, _, _, rfl⟩
        obtain ⟨p1, p2, p3, p4, rfl⟩ := four hl
        have hso : sectOf kPo r.dropLast z = some (.se ⟨2, p1, p2, p3, p4, 0, false⟩) := by unfold sectOf; rw [if_pos hzz, hq, z3]; simp [kPl, kPo, kCr]
        simp only [kPo] at hso
        rw [hso]
        simp only [go_sem, u_99_112, u_112_99, u_115_112, u_112_115, u_103_108, u_108_103, u_97_99, u_99_97, false_and, numsV, hq, Option.isSome_some, Option.getD_some, dInt, List.map_cons, List.map_nil, w1, l1, hzi, h00, z1, z2]
        refine drawnS [] (by kernel_rfl) (by kernel_rfl) (by kernel_rfl) ?_
        simp only [go_sem, u_99_112, u_112_99, u_115_112, u_112_115, u_103_108, u_108_103, u_97_99, u_99_97, false_and, nC]
        intro nx3 lv3 g5 g6
        have ht5 := ht.mono (nx' := nx3 + 1) (lv' := fun j => j = nx3 ∨ lv3 j) (by simp only at g3; omega) (fun j x => .inr (g6 _ (g4 _ x)))
        refine ⟨ht5.ok (t := b) (by simp) _ _, by omega, ?_⟩
        have h9 : TOk (nx3 + 1 + 1) (fun j => j = nx3 + 1 ∨ (j = nx3 ∨ lv3 j) ∧ ¬ b = .own j) [a, .own (nx3 + 1), c, d, e] := ht5.set 1 b rfl (Nat.le_refl _) (by omega) (.inl rfl) (fun j h1 h2 => .inr ⟨h1, h2⟩)
        exact ⟨rfl, a, .own (nx3 + 1), c, d, e, by simp [nC, addI, dSect], h9⟩

set_option maxHeartbeats 4000000 in
set_option maxRecDepth 20000 in
theorem f83_cr (n : Net) (r : List (List UInt8)) (a b c d e : Tok) (nx : Nat) (lv : Nat → Prop) (hn : NetS n) (hr : r.length ≤ 20001) (hw : ∀ w ∈ r, w.length ≤ 20000) (ht : TOk nx lv [a, b, c, d, e]) :
    QCall Tryd.prog 83 ⟨[], [], nx, lv⟩ [.agg (nC n a b c d e), .sl 1 ((kCr :: r).map DV.str) .no] (RSec n (itemOf (kCr :: r))) := by
  refine QCall.of_body Tryd.func83 rfl Tryd.ntmps83 (congrArg Array.toList Tryd.results83) ?_
  intro E
  obtain ⟨hnm, hsc, hlk, hsg, hgt⟩ := hn
  cases hz : r.getLast? with
  | none =>
    have hr0 : r = [] := List.getLast?_eq_none_iff.1 hz
    subst hr0
    have w0 : IntKind.i64.wrap 0 = 0 := rfl
    have l0 : ((0 : Int) < 1) = True := eq_true (by decide)
    simp only [go_sem, u_99_112, u_112_99, u_115_112, u_112_115, u_103_108, u_108_103, u_97_99, u_99_97, false_and, nC, List.map_cons, kCr, w0, l0]
    exact ⟨rfl, _, _, _, _, _, rfl⟩
  | some z =>
    have hlen : 1 ≤ r.length := by
      cases r with
      | nil => cases hz
      | cons x q => simp
    have hzi0 : r[r.length - 1]? = some z := by rw [← List.getLast?_eq_getElem?]; exact hz
    have hzi : (DV.str kCr :: List.map DV.str r)[r.length]? = some (DV.str z) := by
      obtain ⟨m, hm⟩ : ∃ m, r.length = m + 1 := ⟨r.length - 1, by omega⟩
      rw [hm, List.getElem?_cons_succ, List.getElem?_map]
      have : m = r.length - 1 := by omega
      rw [this, hzi0]
      rfl
    have hs1 := take_last (r := r)
    have w1 : IntKind.i64.wrap (((r.length + 1 : Nat) : Int) - 1) = ((r.length : Nat) : Int) := by rw [i64_in (by omega) (by omega)]; omega
    have l1 : ((r.length : Int) < 1) = False := eq_false (by omega)
    have hle : (r.length ≤ r.length + 1) = True := eq_true (by omega)
    have h00 : ((0 : Int) ≤ ((r.length : Nat) : Int)) = True := eq_true (by omega)
    have hle1 : (1 ≤ r.length) = True := eq_true hlen
    have hit : itemOf (kCr :: r) = sectOf kCr r.dropLast z := by simp [itemOf, hz, kSt, kPl, kPo, kCr]
    rw [hit]
    have hdw : ∀ w ∈ r.dropLast, w.length ≤ 4294967296 := fun w hm => by have := hw w (List.dropLast_subset r hm); omega
    have hdl2 : r.dropLast.length ≤ 4294967296 := by rw [List.length_dropLast]; omega
    simp only [kCr] at hzi
    by_cases hzz : z = kAx ∨ z = kCi
    rotate_left
    · have z1 : (z = [97, 120, 108, 101, 115]) = False := eq_false (fun h => hzz (.inl h))
      have z2 : (z = [99, 105, 114, 99, 117, 105, 116]) = False := eq_false (fun h => hzz (.inr h))
      have hno : ∀ k, sectOf k r.dropLast z = none := fun k => by unfold sectOf; rw [if_neg hzz]
      simp only [go_sem, u_99_112, u_112_99, u_115_112, u_112_115, u_103_108, u_108_103, u_97_99, u_99_97, false_and, nC, List.map_cons, kCr, w1, l1, hzi, h00, z1, z2]
      rw [hno]
      exact ⟨rfl, _, _, _, _, _, rfl⟩
    have z12 : ((z = [97, 120, 108, 101, 115]) = True ∧ decide (z = kAx) = true) ∨ ((z = [97, 120, 108, 101, 115]) = False ∧ (z = [99, 105, 114, 99, 117, 105, 116]) = True ∧ decide (z = kAx) = false) := by
      rcases hzz with rfl | rfl
      · exact .inl ⟨eq_true rfl, by simp⟩
      · exact .inr ⟨eq_false (by decide), eq_true rfl, by decide⟩
    rcases z12 with ⟨z1, z3⟩ | ⟨z1, z2, z3⟩
    · simp only [go_sem, u_99_112, u_112_99, u_115_112, u_112_115, u_103_108, u_108_103, u_97_99, u_99_97, false_and, nC, List.map_cons, kCr, w1, l1, hzi, hs1, hle, h00, hle1, if_true, z1]
      refine callVt (f27 r.dropLast hdl2 hdw) ?_
      intro nx2 lv2 g3 g4
      cases hq : numsF r.dropLast with
      | none =>
        rw [sectOf_none hq]
        simp only [go_sem, u_99_112, u_112_99, u_115_112, u_112_115, u_103_108, u_108_103, u_97_99, u_99_97, false_and, numsV, hq, Option.isSome_none, w1, l1, hzi, h00, z1]
        exact ⟨rfl, _, _, _, _, _, rfl⟩
      | some l =>
        by_cases hl : l.length = 2
        rotate_left
        · have hl' : ((l.length : Int) = 2) = False := eq_false (by omega)
          have hno := sectOf_len (k := kCr) (z := z) hq (fun h => by rcases h with h | h <;> exact absurd h (by decide)) (fun _ h => hl h)
          simp only [kCr] at hno
          rw [hno]
          simp only [go_sem, u_99_112, u_112_99, u_115_112, u_112_115, u_103_108, u_108_103, u_97_99, u_99_97, false_and, numsV, hq, Option.isSome_some, Option.getD_some, hl', w1, l1, hzi, h00, z1]
          exact ⟨rfl, _, _, _, _, _, rfl⟩
        obtain ⟨p1, p2, rfl⟩ := two hl
        have hso : sectOf kCr r.dropLast z = some (.se ⟨3, p1, 0, p2, 0, 0, true⟩) := by unfold sectOf; rw [if_pos hzz, hq, z3]; simp [kPl, kPo, kCr]
        simp only [kCr] at hso
        rw [hso]
        simp only [go_sem, u_99_112, u_112_99, u_115_112, u_112_115, u_103_108, u_108_103, u_97_99, u_99_97, false_and, numsV, hq, Option.isSome_some, Option.getD_some, dInt, List.map_cons, List.map_nil, w1, l1, hzi, h00, z1]
        refine drawnS [] (by kernel_rfl) (by kernel_rfl) (by kernel_rfl) ?_
        simp only [go_sem, u_99_112, u_112_99, u_115_112, u_112_115, u_103_108, u_108_103, u_97_99, u_99_97, false_and, nC]
        intro nx3 lv3 g5 g6
        have ht5 := ht.mono (nx' := nx3 + 1) (lv' := fun j => j = nx3 ∨ lv3 j) (by simp only at g3; omega) (fun j x => .inr (g6 _ (g4 _ x)))
        refine ⟨ht5.ok (t := b) (by simp) _ _, by omega, ?_⟩
        have h9 : TOk (nx3 + 1 + 1) (fun j => j = nx3 + 1 ∨ (j = nx3 ∨ lv3 j) ∧ ¬ b = .own j) [a, .own (nx3 + 1), c, d, e] := ht5.set 1 b rfl (Nat.le_refl _) (by omega) (.inl rfl) (fun j h1 h2 => .inr ⟨h1, h2⟩)
        exact ⟨rfl, a, .own (nx3 + 1), c, d, e, by simp [nC, addI, dSect], h9⟩
    · simp only [go_sem, u_99_112, u_112_99, u_115_112, u_112_115, u_103_108, u_108_103, u_97_99, u_99_97, false_and, nC, List.map_cons, kCr, w1, l1, hzi, hs1, hle, h00, hle1, if_true, z1, z2]
      refine callVt (f27 r.dropLast hdl2 hdw) ?_
      intro nx2 lv2 g3 g4
      cases hq : numsF r.dropLast with
      | none =>
        rw [sectOf_none hq]
        simp only [go_sem, u_99_112, u_112_99, u_115_112, u_112_115, u_103_108, u_108_103, u_97_99, u_99_97, false_and, numsV, hq, Option.isSome_none, w1, l1, hzi, h00, z1, z2]
        exact ⟨rfl, _, _, _, _, _, rfl⟩
      | some l =>
        by_cases hl : l.length = 2
        rotate_left
        · have hl' : ((l.length : Int) = 2) = False := eq_false (by omega)
          have hno := sectOf_len (k := kCr) (z := z) hq (fun h => by rcases h with h | h <;> exact absurd h (by decide)) (fun _ h => hl h)
          simp only [kCr] at hno
          rw [hno]
          simp only [go_sem, u_99_112, u_112_99, u_115_112, u_112_115, u_103_108, u_108_103, u_97_99, u_99_97, false_and, numsV, hq, Option.isSome_some, Option.getD_some, hl', w1, l1, hzi, h00, z1, z2]
          exact ⟨rfl, _, _, _, _, _, rfl⟩
        obtain ⟨p1, p2, rfl⟩ := two hl
        have hso : sectOf kCr r.dropLast z = some (.se ⟨3, p1, 0, p2, 0, 0, false⟩) := by unfold sectOf; rw [if_pos hzz, hq, z3]; simp [kPl, kPo, kCr]
        simp only [kCr] at hso
        rw [hso]
        simp only [go_sem, u_99_112, u_112_99, u_115_112, u_112_115, u_103_108, u_108_103, u_97_99, u_99_97, false_and, numsV, hq, Option.isSome_some, Option.getD_some, dInt, List.map_cons, List.map_nil, w1, l1, hzi, h00, z1, z2]
        refine drawnS [] (by kernel_rfl) (by kernel_rfl) (by kernel_rfl) ?_
        simp only [go_sem, u_99_112, u_112_99, u_115_112, u_112_115, u_103_108, u_108_103, u_97_99, u_99_97, false_and, nC]
        intro nx3 lv3 g5 g6
        have ht5 := ht.mono (nx' := nx3 + 1) (lv' := fun j => j = nx3 ∨ lv3 j) (by simp only at g3; omega) (fun j x => .inr (g6 _ (g4 _ x)))
        refine ⟨ht5.ok (t := b) (by simp) _ _, by omega, ?_⟩
        have h9 : TOk (nx3 + 1 + 1) (fun j => j = nx3 + 1 ∨ (j = nx3 ∨ lv3 j) ∧ ¬ b = .own j) [a, .own (nx3 + 1), c, d, e] := ht5.set 1 b rfl (Nat.le_refl _) (by omega) (.inl rfl) (fun j h1 h2 => .inr ⟨h1, h2⟩)
        exact ⟨rfl, a, .own (nx3 + 1), c, d, e, by simp [nC, addI, dSect], h9⟩

theorem nC_rn {f : AB.Loc → Option AB.Loc} {n : Net} {a b c d e : Tok} : rnCL f (nC n a b c d e) = some (nC n a b c d e) := by
  simp only [nC, rnCL, rnC, port1]

theorem callSec {n : Net} {it : Option Item} {bs args : List AV} {σ : AS} {dst : Option Nat} {K : AS → Prop} (h : QCall Tryd.prog 83 ⟨[], [], σ.m.nx, σ.m.lv⟩ args (RSec n it)) (h1 : rnAL (outF []) args = some args)
    (hN : it = none → ∀ a b c d e nx2 lv2, K (AS.put ⟨σ.s, ⟨σ.m.h, σ.m.o, nx2, lv2⟩⟩ dst (.tup [.agg (nC n a b c d e), .bool false])))
    (hS : ∀ i, it = some i → ∀ a b c d e nx2 lv2, TOk nx2 lv2 [a, b, c, d, e] → K (AS.put ⟨σ.s, ⟨σ.m.h, σ.m.o, nx2, lv2⟩⟩ dst (.tup [.agg (nC (addI n i) a b c d e), .bool true]))) : callX Tryd.prog 83 bs args σ dst K := by
  refine callX.own h1 h ?_
  rintro m' r ⟨ho, hr⟩
  cases it with
  | none =>
    obtain ⟨a, b, c, d, e, rfl⟩ := hr
    refine ⟨ho, .tup [.agg (nC n a b c d e), .bool false], ?_, hN rfl a b c d e _ _⟩
    simp only [rnV, rnAL, rnA, nC_rn, rnC, port1]
  | some i =>
    obtain ⟨a, b, c, d, e, rfl, ht⟩ := hr
    refine ⟨ho, .tup [.agg (nC (addI n i) a b c d e), .bool true], ?_, hS i rfl a b c d e _ _ ht⟩
    simp only [rnV, rnAL, rnA, nC_rn, rnC, port1]

set_option maxHeartbeats 4000000 in
set_option maxRecDepth 20000 in
theorem f44_pl (n : Net) (r : List (List UInt8)) (a b c d e : Tok) (nx : Nat) (lv : Nat → Prop) (hn : NetS n) (hr : r.length ≤ 20001) (hw : ∀ w ∈ r, w.length ≤ 20000) (ht : TOk nx lv [a, b, c, d, e]) :
    QCall Tryd.prog 44 ⟨[], [], nx, lv⟩ [.agg (nC n a b c d e), .sl 1 ((kPl :: r).map DV.str) .no] (RRef n (itemOf (kPl :: r))) := by
  refine QCall.of_body Tryd.func44 rfl Tryd.ntmps44 (congrArg Array.toList Tryd.results44) ?_
  intro E
  obtain ⟨hnm, hsc, hlk, hsg, hgt⟩ := hn
  have h83 := fun nx lv ht => f83_pl n r a b c d e nx lv ⟨hnm, hsc, hlk, hsg, hgt⟩ hr hw ht
  simp only [go_sem, u_99_112, u_112_99, u_115_112, u_112_115, u_103_108, u_108_103, u_97_99, u_99_97, false_and, nC, List.map_cons, kPl] at h83 ⊢
  refine callSec (h83 _ _ ht) (by simp only [rnAL, rnA, rnCL, rnC, port1]) ?_ ?_
  · intro hi a b c d e nx2 lv2
    rw [hi]
    simp only [go_sem, u_99_112, u_112_99, u_115_112, u_112_115, u_103_108, u_108_103, u_97_99, u_99_97, false_and, nC]
    exact ⟨rfl, _, _, _, _, _, _, rfl⟩
  · intro i hi a b c d e nx2 lv2 ht2
    rw [hi]
    have hk : kindI i = 1 := by
      cases i with
      | se s => rfl
      | _ => exact absurd hi (by simp [itemOf, sectOf, kSt, kPl, kPo, kCr]; split <;> (try split) <;> (try split) <;> simp)
    simp only [go_sem, u_99_112, u_112_99, u_115_112, u_112_115, u_103_108, u_108_103, u_97_99, u_99_97, false_and, nC]
    exact ⟨rfl, a, b, c, d, e, by rw [hk]; rfl, ht2⟩

set_option maxHeartbeats 4000000 in
set_option maxRecDepth 20000 in
theorem f44_po (n : Net) (r : List (List UInt8)) (a b c d e : Tok) (nx : Nat) (lv : Nat → Prop) (hn : NetS n) (hr : r.length ≤ 20001) (hw : ∀ w ∈ r, w.length ≤ 20000) (ht : TOk nx lv [a, b, c, d, e]) :
    QCall Tryd.prog 44 ⟨[], [], nx, lv⟩ [.agg (nC n a b c d e), .sl 1 ((kPo :: r).map DV.str) .no] (RRef n (itemOf (kPo :: r))) := by
  refine QCall.of_body Tryd.func44 rfl Tryd.ntmps44 (congrArg Array.toList Tryd.results44) ?_
  intro E
  obtain ⟨hnm, hsc, hlk, hsg, hgt⟩ := hn
  have h83 := fun nx lv ht => f83_po n r a b c d e nx lv ⟨hnm, hsc, hlk, hsg, hgt⟩ hr hw ht
  simp only [go_sem, u_99_112, u_112_99, u_115_112, u_112_115, u_103_108, u_108_103, u_97_99, u_99_97, false_and, nC, List.map_cons, kPo] at h83 ⊢
  refine callSec (h83 _ _ ht) (by simp only [rnAL, rnA, rnCL, rnC, port1]) ?_ ?_
  · intro hi a b c d e nx2 lv2
    rw [hi]
    simp only [go_sem, u_99_112, u_112_99, u_115_112, u_112_115, u_103_108, u_108_103, u_97_99, u_99_97, false_and, nC]
    exact ⟨rfl, _, _, _, _, _, _, rfl⟩
  · intro i hi a b c d e nx2 lv2 ht2
    rw [hi]
    have hk : kindI i = 1 := by
      cases i with
      | se s => rfl
      | _ => exact absurd hi (by simp [itemOf, sectOf, kSt, kPl, kPo, kCr]; split <;> (try split) <;> (try split) <;> simp)
    simp only [go_sem, u_99_112, u_112_99, u_115_112, u_112_115, u_103_108, u_108_103, u_97_99, u_99_97, false_and, nC]
    exact ⟨rfl, a, b, c, d, e, by rw [hk]; rfl, ht2⟩

set_option maxHeartbeats 4000000 in
set_option maxRecDepth 20000 in
theorem f44_cr (n : Net) (r : List (List UInt8)) (a b c d e : Tok) (nx : Nat) (lv : Nat → Prop) (hn : NetS n) (hr : r.length ≤ 20001) (hw : ∀ w ∈ r, w.length ≤ 20000) (ht : TOk nx lv [a, b, c, d, e]) :
    QCall Tryd.prog 44 ⟨[], [], nx, lv⟩ [.agg (nC n a b c d e), .sl 1 ((kCr :: r).map DV.str) .no] (RRef n (itemOf (kCr :: r))) := by
  refine QCall.of_body Tryd.func44 rfl Tryd.ntmps44 (congrArg Array.toList Tryd.results44) ?_
  intro E
  obtain ⟨hnm, hsc, hlk, hsg, hgt⟩ := hn
  have h83 := fun nx lv ht => f83_cr n r a b c d e nx lv ⟨hnm, hsc, hlk, hsg, hgt⟩ hr hw ht
  simp only [go_sem, u_99_112, u_112_99, u_115_112, u_112_115, u_103_108, u_108_103, u_97_99, u_99_97, false_and, nC, List.map_cons, kCr] at h83 ⊢
  refine callSec (h83 _ _ ht) (by simp only [rnAL, rnA, rnCL, rnC, port1]) ?_ ?_
  · intro hi a b c d e nx2 lv2
    rw [hi]
    simp only [go_sem, u_99_112, u_112_99, u_115_112, u_112_115, u_103_108, u_108_103, u_97_99, u_99_97, false_and, nC]
    exact ⟨rfl, _, _, _, _, _, _, rfl⟩
  · intro i hi a b c d e nx2 lv2 ht2
    rw [hi]
    have hk : kindI i = 1 := by
      cases i with
      | se s => rfl
      | _ => exact absurd hi (by simp [itemOf, sectOf, kSt, kPl, kPo, kCr]; split <;> (try split) <;> (try split) <;> simp)
    simp only [go_sem, u_99_112, u_112_99, u_115_112, u_112_115, u_103_108, u_108_103, u_97_99, u_99_97, false_and, nC]
    exact ⟨rfl, a, b, c, d, e, by rw [hk]; rfl, ht2⟩

set_option maxHeartbeats 4000000 in
set_option maxRecDepth 20000 in
theorem f44_st (n : Net) (r : List (List UInt8)) (a b c d e : Tok) (nx : Nat) (lv : Nat → Prop) (hn : NetS n) (hr : r.length ≤ 20001) (hw : ∀ w ∈ r, w.length ≤ 20000) (ht : TOk nx lv [a, b, c, d, e]) :
    QCall Tryd.prog 44 ⟨[], [], nx, lv⟩ [.agg (nC n a b c d e), .sl 1 ((kSt :: r).map DV.str) .no] (RRef n (itemOf (kSt :: r))) := by
  refine QCall.of_body Tryd.func44 rfl Tryd.ntmps44 (congrArg Array.toList Tryd.results44) ?_
  intro E
  obtain ⟨hnm, hsc, hlk, hsg, hgt⟩ := hn
  match r, hr with
  | [], _ =>
    simp only [go_sem, u_99_112, u_112_99, u_115_112, u_112_115, u_103_108, u_108_103, u_97_99, u_99_97, false_and, nC, List.map_cons, kSt]
    exact ⟨rfl, _, _, _, _, _, _, rfl⟩
  | x :: y :: q, _ =>
    have hl2 : (((q.length + 1 + 1 + 1 : Nat) : Int) = 2) = False := eq_false (by omega)
    simp only [go_sem, u_99_112, u_112_99, u_115_112, u_112_115, u_103_108, u_108_103, u_97_99, u_99_97, false_and, nC, List.map_cons, kSt, hl2]
    exact ⟨rfl, _, _, _, _, _, _, rfl⟩
  | [x], _ =>
    by_cases hx : x = []
    · have hx' : (x = []) = True := eq_true hx
      simp only [go_sem, u_99_112, u_112_99, u_115_112, u_112_115, u_103_108, u_108_103, u_97_99, u_99_97, false_and, nC, List.map_cons, kSt, hx']
      have : itemOf [[115, 116, 97, 116, 105, 111, 110], x] = none := by subst hx; rfl
      rw [this]
      exact ⟨rfl, _, _, _, _, _, _, rfl⟩
    · have hx' : (x = []) = False := eq_false hx
      simp only [go_sem, u_99_112, u_112_99, u_115_112, u_112_115, u_103_108, u_108_103, u_97_99, u_99_97, false_and, nC, List.map_cons, kSt, hx']
      refine drawnT [2, 2, 2, 2, 2, 3, 1, 1, 1] (.alt 5 [2, 2, 0, 0, 0, 0, 3, 1, 1] (.alt 6 [0, 0, 0, 0, 0, 0, 0, 2, 3] (.alt 8 [0, 0, 0, 0, 0, 0, 0, 0, 0] .fin .nil) .nil) .nil) 133 (by kernel_rfl) (by kernel_rfl) (by kernel_rfl) (by kernel_rfl) rfl ?_
      simp only [go_sem, u_99_112, u_112_99, u_115_112, u_112_115, u_103_108, u_108_103, u_97_99, u_99_97, false_and, nC]
      have hi : itemOf [[115, 116, 97, 116, 105, 111, 110], x] = some (.st x) := by simp [itemOf, kSt, hx]
      rw [hi]
      intro nx2 lv2 g3 g4 nx3 lv3 g5 g6
      have ht3 := ht.mono (nx' := nx3) (lv' := lv3) (by omega) (fun j x => g6 _ (.inr (g4 _ x)))
      refine ⟨ht3.ok (t := a) (by simp) _ _, by omega, ?_⟩
      intro nx4 lv4 g7 g8 nx5 lv5 g9 g10
      have h9 : TOk nx5 lv5 [.own nx3, b, c, d, e] := ht3.set 0 a rfl (Nat.le_refl _) (by omega) (g10 _ (g8 _ (.inl rfl))) (fun j h1 h2 => g10 _ (g8 _ (.inr ⟨h1, h2⟩)))
      exact ⟨rfl, .own nx3, b, c, d, e, by simp [nC, addI, kindI], h9⟩

set_option maxHeartbeats 4000000 in
set_option maxRecDepth 20000 in
theorem f44_li (n : Net) (r : List (List UInt8)) (a b c d e : Tok) (nx : Nat) (lv : Nat → Prop) (hn : NetS n) (hr : r.length ≤ 20001) (hw : ∀ w ∈ r, w.length ≤ 20000) (ht : TOk nx lv [a, b, c, d, e]) :
    QCall Tryd.prog 44 ⟨[], [], nx, lv⟩ [.agg (nC n a b c d e), .sl 1 ((kLi :: r).map DV.str) .no] (RRef n (itemOf (kLi :: r))) := by
  refine QCall.of_body Tryd.func44 rfl Tryd.ntmps44 (congrArg Array.toList Tryd.results44) ?_
  intro E
  obtain ⟨hnm, hsc, hlk, hsg, hgt⟩ := hn
  have hit : itemOf (kLi :: r) = restOf kLi r := by simp [itemOf, kSt, kPl, kPo, kCr, kLi, kSi, kGa]
  rw [hit]
  have hd1 := take_all (r := r)
  have hdw : ∀ w ∈ r, w.length ≤ 4294967296 := fun w hm => by have := hw w hm; omega
  simp only [go_sem, u_99_112, u_112_99, u_115_112, u_112_115, u_103_108, u_108_103, u_97_99, u_99_97, false_and, nC, List.map_cons, kLi, hd1]
  refine callVt (f27 r (by omega) hdw) ?_
  intro nx2 lv2 g3 g4
  cases hq : numsF r with
  | none =>
    rw [restOf_none hq]
    simp only [go_sem, u_99_112, u_112_99, u_115_112, u_112_115, u_103_108, u_108_103, u_97_99, u_99_97, false_and, numsV, hq, Option.isSome_none]
    exact ⟨rfl, _, _, _, _, _, _, rfl⟩
  | some l =>
    by_cases hl : l.length = 4
    rotate_left
    · have hl' : ((l.length : Int) = 4) = False := eq_false (by omega)
      have hno := restOf_len (k := kLi) hq (fun _ h => hl h) (fun h => by rcases h with h | h <;> exact absurd h (by decide))
      simp only [kLi] at hno
      rw [hno]
      simp only [go_sem, u_99_112, u_112_99, u_115_112, u_112_115, u_103_108, u_108_103, u_97_99, u_99_97, false_and, numsV, hq, Option.isSome_some, Option.getD_some, hl']
      exact ⟨rfl, _, _, _, _, _, _, rfl⟩
    obtain ⟨p1, p2, p3, p4, rfl⟩ := four hl
    have hso : restOf kLi r = some (.li ⟨p1, p2, p3, p4⟩) := by unfold restOf; rw [hq]; simp [kLi, kSi, kGa]
    simp only [kLi] at hso
    rw [hso]
    simp only [go_sem, u_99_112, u_112_99, u_115_112, u_112_115, u_103_108, u_108_103, u_97_99, u_99_97, false_and, numsV, hq, Option.isSome_some, Option.getD_some, dInt, List.map_cons, List.map_nil]
    refine drawnT [2, 2, 2, 2, 2, 2, 2, 2, 2, 2, 2, 2, 2, 2, 2, 3, 1, 1, 1] (.alt 15 [2, 2, 0, 0, 0, 0, 0, 0, 0, 0, 0, 0, 0, 0, 0, 0, 3, 1, 1] (.alt 16 [0, 0, 0, 0, 0, 0, 0, 0, 0, 0, 0, 0, 0, 0, 0, 0, 0, 2, 3] (.alt 18 [0, 0, 0, 0, 0, 0, 0, 0, 0, 0, 0, 0, 0, 0, 0, 0, 0, 0, 0] .fin .nil) .nil) .nil) 133 (by kernel_rfl) (by kernel_rfl) (by kernel_rfl) (by kernel_rfl) rfl ?_
    simp only [go_sem, u_99_112, u_112_99, u_115_112, u_112_115, u_103_108, u_108_103, u_97_99, u_99_97, false_and, nC]
    intro nx4 lv4 g7 g8 nx5 lv5 g9 g10
    have ht5 := ht.mono (nx' := nx5) (lv' := lv5) (by simp only at g3; omega) (fun j x => g10 _ (.inr (g8 _ (g4 _ x))))
    refine ⟨ht5.ok (t := c) (by simp) _ _, by omega, ?_⟩
    intro nx6 lv6 g11 g12 nx7 lv7 g13 g14
    have h9 : TOk nx7 lv7 [a, b, .own nx5, d, e] := ht5.set 2 c rfl (Nat.le_refl _) (by omega) (g14 _ (g12 _ (.inl rfl))) (fun j h1 h2 => g14 _ (g12 _ (.inr ⟨h1, h2⟩)))
    exact ⟨rfl, a, b, .own nx5, d, e, by simp [nC, addI, kindI, dLnk], h9⟩

set_option maxHeartbeats 4000000 in
set_option maxRecDepth 20000 in
theorem f44_si (n : Net) (r : List (List UInt8)) (a b c d e : Tok) (nx : Nat) (lv : Nat → Prop) (hn : NetS n) (hr : r.length ≤ 20001) (hw : ∀ w ∈ r, w.length ≤ 20000) (ht : TOk nx lv [a, b, c, d, e]) :
    QCall Tryd.prog 44 ⟨[], [], nx, lv⟩ [.agg (nC n a b c d e), .sl 1 ((kSi :: r).map DV.str) .no] (RRef n (itemOf (kSi :: r))) := by
  refine QCall.of_body Tryd.func44 rfl Tryd.ntmps44 (congrArg Array.toList Tryd.results44) ?_
  intro E
  obtain ⟨hnm, hsc, hlk, hsg, hgt⟩ := hn
  have hit : itemOf (kSi :: r) = restOf kSi r := by simp [itemOf, kSt, kPl, kPo, kCr, kLi, kSi, kGa]
  rw [hit]
  have hd1 := take_all (r := r)
  have hdw : ∀ w ∈ r, w.length ≤ 4294967296 := fun w hm => by have := hw w hm; omega
  simp only [go_sem, u_99_112, u_112_99, u_115_112, u_112_115, u_103_108, u_108_103, u_97_99, u_99_97, false_and, nC, List.map_cons, kSi, hd1]
  refine callVt (f27 r (by omega) hdw) ?_
  intro nx2 lv2 g3 g4
  cases hq : numsF r with
  | none =>
    rw [restOf_none hq]
    simp only [go_sem, u_99_112, u_112_99, u_115_112, u_112_115, u_103_108, u_108_103, u_97_99, u_99_97, false_and, numsV, hq, Option.isSome_none]
    exact ⟨rfl, _, _, _, _, _, _, rfl⟩
  | some l =>
    by_cases hl : l.length = 2
    rotate_left
    · have hl' : ((l.length : Int) = 2) = False := eq_false (by omega)
      have hno := restOf_len (k := kSi) hq (fun h => absurd h (by decide)) (fun _ h => hl h)
      simp only [kSi] at hno
      rw [hno]
      simp only [go_sem, u_99_112, u_112_99, u_115_112, u_112_115, u_103_108, u_108_103, u_97_99, u_99_97, false_and, numsV, hq, Option.isSome_some, Option.getD_some, hl']
      exact ⟨rfl, _, _, _, _, _, _, rfl⟩
    obtain ⟨p1, p2, rfl⟩ := two hl
    have hso : restOf kSi r = some (.si ⟨p1, p2⟩) := by unfold restOf; rw [hq]; simp [kLi, kSi, kGa]
    simp only [kSi] at hso
    rw [hso]
    simp only [go_sem, u_99_112, u_112_99, u_115_112, u_112_115, u_103_108, u_108_103, u_97_99, u_99_97, false_and, numsV, hq, Option.isSome_some, Option.getD_some, dInt, List.map_cons, List.map_nil]
    refine drawnT [2, 2, 2, 2, 2, 2, 2, 2, 2, 3, 1, 1, 1] (.alt 9 [2, 2, 0, 0, 0, 0, 0, 0, 0, 0, 3, 1, 1] (.alt 10 [0, 0, 0, 0, 0, 0, 0, 0, 0, 0, 0, 2, 3] (.alt 12 [0, 0, 0, 0, 0, 0, 0, 0, 0, 0, 0, 0, 0] .fin .nil) .nil) .nil) 133 (by kernel_rfl) (by kernel_rfl) (by kernel_rfl) (by kernel_rfl) rfl ?_
    simp only [go_sem, u_99_112, u_112_99, u_115_112, u_112_115, u_103_108, u_108_103, u_97_99, u_99_97, false_and, nC]
    intro nx4 lv4 g7 g8 nx5 lv5 g9 g10
    have ht5 := ht.mono (nx' := nx5) (lv' := lv5) (by simp only at g3; omega) (fun j x => g10 _ (.inr (g8 _ (g4 _ x))))
    refine ⟨ht5.ok (t := d) (by simp) _ _, by omega, ?_⟩
    intro nx6 lv6 g11 g12 nx7 lv7 g13 g14
    have h9 : TOk nx7 lv7 [a, b, c, .own nx5, e] := ht5.set 3 d rfl (Nat.le_refl _) (by omega) (g14 _ (g12 _ (.inl rfl))) (fun j h1 h2 => g14 _ (g12 _ (.inr ⟨h1, h2⟩)))
    exact ⟨rfl, a, b, c, .own nx5, e, by simp [nC, addI, kindI, dPair], h9⟩

set_option maxHeartbeats 4000000 in
set_option maxRecDepth 20000 in
theorem f44_ga (n : Net) (r : List (List UInt8)) (a b c d e : Tok) (nx : Nat) (lv : Nat → Prop) (hn : NetS n) (hr : r.length ≤ 20001) (hw : ∀ w ∈ r, w.length ≤ 20000) (ht : TOk nx lv [a, b, c, d, e]) :
    QCall Tryd.prog 44 ⟨[], [], nx, lv⟩ [.agg (nC n a b c d e), .sl 1 ((kGa :: r).map DV.str) .no] (RRef n (itemOf (kGa :: r))) := by
  refine QCall.of_body Tryd.func44 rfl Tryd.ntmps44 (congrArg Array.toList Tryd.results44) ?_
  intro E
  obtain ⟨hnm, hsc, hlk, hsg, hgt⟩ := hn
  have hit : itemOf (kGa :: r) = restOf kGa r := by simp [itemOf, kSt, kPl, kPo, kCr, kLi, kSi, kGa]
  rw [hit]
  have hd1 := take_all (r := r)
  have hdw : ∀ w ∈ r, w.length ≤ 4294967296 := fun w hm => by have := hw w hm; omega
  simp only [go_sem, u_99_112, u_112_99, u_115_112, u_112_115, u_103_108, u_108_103, u_97_99, u_99_97, false_and, nC, List.map_cons, kGa, hd1]
  refine callVt (f27 r (by omega) hdw) ?_
  intro nx2 lv2 g3 g4
  cases hq : numsF r with
  | none =>
    rw [restOf_none hq]
    simp only [go_sem, u_99_112, u_112_99, u_115_112, u_112_115, u_103_108, u_108_103, u_97_99, u_99_97, false_and, numsV, hq, Option.isSome_none]
    exact ⟨rfl, _, _, _, _, _, _, rfl⟩
  | some l =>
    by_cases hl : l.length = 2
    rotate_left
    · have hl' : ((l.length : Int) = 2) = False := eq_false (by omega)
      have hno := restOf_len (k := kGa) hq (fun h => absurd h (by decide)) (fun _ h => hl h)
      simp only [kGa] at hno
      rw [hno]
      simp only [go_sem, u_99_112, u_112_99, u_115_112, u_112_115, u_103_108, u_108_103, u_97_99, u_99_97, false_and, numsV, hq, Option.isSome_some, Option.getD_some, hl']
      exact ⟨rfl, _, _, _, _, _, _, rfl⟩
    obtain ⟨p1, p2, rfl⟩ := two hl
    have hso : restOf kGa r = some (.ga ⟨p1, p2⟩) := by unfold restOf; rw [hq]; simp [kLi, kSi, kGa]
    simp only [kGa] at hso
    rw [hso]
    simp only [go_sem, u_99_112, u_112_99, u_115_112, u_112_115, u_103_108, u_108_103, u_97_99, u_99_97, false_and, numsV, hq, Option.isSome_some, Option.getD_some, dInt, List.map_cons, List.map_nil]
    refine drawnT [2, 2, 2, 2, 2, 2, 2, 2, 2, 3, 1, 1, 1] (.alt 9 [2, 2, 0, 0, 0, 0, 0, 0, 0, 0, 3, 1, 1] (.alt 10 [0, 0, 0, 0, 0, 0, 0, 0, 0, 0, 0, 2, 3] (.alt 12 [0, 0, 0, 0, 0, 0, 0, 0, 0, 0, 0, 0, 0] .fin .nil) .nil) .nil) 133 (by kernel_rfl) (by kernel_rfl) (by kernel_rfl) (by kernel_rfl) rfl ?_
    simp only [go_sem, u_99_112, u_112_99, u_115_112, u_112_115, u_103_108, u_108_103, u_97_99, u_99_97, false_and, nC]
    intro nx4 lv4 g7 g8 nx5 lv5 g9 g10
    have ht5 := ht.mono (nx' := nx5) (lv' := lv5) (by simp only at g3; omega) (fun j x => g10 _ (.inr (g8 _ (g4 _ x))))
    refine ⟨ht5.ok (t := e) (by simp) _ _, by omega, ?_⟩
    intro nx6 lv6 g11 g12 nx7 lv7 g13 g14
    have h9 : TOk nx7 lv7 [a, b, c, d, .own nx5] := ht5.set 4 e rfl (Nat.le_refl _) (by omega) (g14 _ (g12 _ (.inl rfl))) (fun j h1 h2 => g14 _ (g12 _ (.inr ⟨h1, h2⟩)))
    exact ⟨rfl, a, b, c, d, .own nx5, by simp [nC, addI, kindI, dPair], h9⟩

set_option maxHeartbeats 4000000 in
set_option maxRecDepth 20000 in
theorem f44_no (n : Net) (k : List UInt8) (hk0 : ¬ k = kSt) (hk1 : ¬ k = kPl) (hk2 : ¬ k = kPo) (hk3 : ¬ k = kCr) (hk4 : ¬ k = kLi) (hk5 : ¬ k = kSi) (hk6 : ¬ k = kGa) (r : List (List UInt8)) (a b c d e : Tok) (nx : Nat) (lv : Nat → Prop) (hn : NetS n) (hr : r.length ≤ 20001) (hw : ∀ w ∈ r, w.length ≤ 20000) (ht : TOk nx lv [a, b, c, d, e]) :
    QCall Tryd.prog 44 ⟨[], [], nx, lv⟩ [.agg (nC n a b c d e), .sl 1 ((k :: r).map DV.str) .no] (RRef n (itemOf (k :: r))) := by
  refine QCall.of_body Tryd.func44 rfl Tryd.ntmps44 (congrArg Array.toList Tryd.results44) ?_
  intro E
  obtain ⟨hnm, hsc, hlk, hsg, hgt⟩ := hn
  have hit : itemOf (k :: r) = none := by
    have h1 : itemOf (k :: r) = restOf k r := by simp [itemOf, hk0, hk1, hk2, hk3]
    rw [h1]
    unfold restOf
    split <;> simp [hk4, hk5, hk6]
  rw [hit]
  have hd1 := take_all (r := r)
  have hdw : ∀ w ∈ r, w.length ≤ 4294967296 := fun w hm => by have := hw w hm; omega
  have e0 : (k = [115, 116, 97, 116, 105, 111, 110]) = False := eq_false hk0
  have e1 : (k = [112, 108, 97, 105, 110]) = False := eq_false hk1
  have e2 : (k = [112, 111, 105, 110, 116, 115]) = False := eq_false hk2
  have e3 : (k = [99, 114, 111, 115, 115]) = False := eq_false hk3
  have e4 : (k = [108, 105, 110, 107]) = False := eq_false hk4
  have e5 : (k = [115, 105, 103, 110, 97, 108]) = False := eq_false hk5
  have e6 : (k = [103, 97, 116, 101]) = False := eq_false hk6
  simp only [go_sem, nC, List.map_cons, e0, e1, e2, e3, hd1]
  refine callVt (f27 r (by omega) hdw) ?_
  intro nx2 lv2 g3 g4
  cases hq : numsF r with
  | none =>
    simp only [go_sem, numsV, hq, Option.isSome_none]
    exact ⟨rfl, _, _, _, _, _, _, rfl⟩
  | some l =>
    simp only [go_sem, numsV, hq, Option.isSome_some, Option.getD_some, e4, e5, e6]
    exact ⟨rfl, _, _, _, _, _, _, rfl⟩

theorem f44 (n : Net) (ws : List (List UInt8)) (a b c d e : Tok) (nx : Nat) (lv : Nat → Prop) (hn : NetS n) (hne : ws ≠ []) (hr : ws.length ≤ 20001) (hw : ∀ w ∈ ws, w.length ≤ 20000) (ht : TOk nx lv [a, b, c, d, e]) :
    QCall Tryd.prog 44 ⟨[], [], nx, lv⟩ [.agg (nC n a b c d e), .sl 1 (ws.map DV.str) .no] (RRef n (itemOf ws)) := by
  cases ws with
  | nil => exact absurd rfl hne
  | cons k r =>
    have hr2 : r.length ≤ 20001 := by simp only [List.length_cons] at hr; omega
    have hw2 : ∀ w ∈ r, w.length ≤ 20000 := fun w h => hw w (List.mem_cons_of_mem _ h)
    by_cases h0 : k = kSt
    · subst h0; exact f44_st n r a b c d e nx lv hn hr2 hw2 ht
    by_cases h1 : k = kPl
    · subst h1; exact f44_pl n r a b c d e nx lv hn hr2 hw2 ht
    by_cases h2 : k = kPo
    · subst h2; exact f44_po n r a b c d e nx lv hn hr2 hw2 ht
    by_cases h3 : k = kCr
    · subst h3; exact f44_cr n r a b c d e nx lv hn hr2 hw2 ht
    by_cases h4 : k = kLi
    · subst h4; exact f44_li n r a b c d e nx lv hn hr2 hw2 ht
    by_cases h5 : k = kSi
    · subst h5; exact f44_si n r a b c d e nx lv hn hr2 hw2 ht
    by_cases h6 : k = kGa
    · subst h6; exact f44_ga n r a b c d e nx lv hn hr2 hw2 ht
    exact f44_no n k h0 h1 h2 h3 h4 h5 h6 r a b c d e nx lv hn hr2 hw2 ht
end Go.Proofs.YtkfhieigdlfbeaaDoor
