/- Numbers and words: what the library's functions come to. -/
import Derived.Test.YtkfhieigdlfbeaaDoorT
import Derived.Test.YtkfhieigdlfbeaaDoorB32
import Derived.Test.YtkfhieigdlfbeaaDoorS
import Derived.Test.YtkfhieigdlfbeaaDoorN1
import Derived.Test.YtkfhieigdlfbeaaDoorN2
import Derived.Lib.ItoaLen
import Derived.Lib.Join
namespace Go.Proofs.YtkfhieigdlfbeaaDoor
set_option linter.unusedSimpArgs false
set_option linter.unusedVariables false
open Go.AB Go.RowKit Go.Sort

theorem below_grow (w : World) (k : Nat) (os : Array Obj) : Below w.heap.size w (grow (w.drewN k) os) := by
  refine ⟨rfl, rfl, rfl, by simp [grow], fun b hb => ?_⟩
  simp only [grow]
  rw [Array.getElem?_append_left (by simpa using hb)]
  rfl

theorem size_mk (s : List UInt8) : (⟨s.toArray⟩ : ByteArray).size = s.length := by
  show s.toArray.size = _
  simp

theorem f35 (n : Int) (h0 : -9223372036854775808 ≤ n) (h1 : n ≤ 9223372036854775807) : PCall Tryd.prog 35 [.int .i64 n] (RV (.str (Lib.itoa n))) := by
  refine PCall.of_calls rfl ?_
  intro st w vs hl hst hrep
  obtain ⟨e1, e2⟩ := hrep
  match vs, e1 with
  | [v], _ =>
    have := e2 0 _ v rfl rfl
    cases this
    obtain ⟨g, hg⟩ : ∃ g, Tryd.prog.globalNamed "internal/strconv.uint64pow10" = some g := ⟨1, by kernel_rfl⟩
    refine (Tryd.strconv_Itoa n h0 h1 w (hl.1 g hg)).mono ?_
    rintro e w' ⟨rfl, k, os, rfl⟩
    exact ⟨_, rfl, below_grow w k os, fun G => .str _⟩

/-- strconv.Atoi: the number, or an error. -/
theorem f88 (s : List UInt8) (hs : s.length ≤ 281474976710656) : PCall Tryd.prog 88 [.str s] (RNum (match Lib.atoiAll s with | .ok v => some v | _ => none)) := by
  refine PCall.of_callsR ?_
  intro st w vs hl hst hrep
  obtain ⟨e1, e2⟩ := hrep
  match vs, e1 with
  | [v], _ =>
    have := e2 0 _ v rfl rfl
    cases this
    obtain ⟨t1, p1, c1⟩ := hl.2.2 2 (.inl (by kernel_rfl))
    obtain ⟨t2, p2, c2⟩ := hl.2.2 3 (.inr (by kernel_rfl))
    cases h : Lib.atoiAll s with
    | ok v =>
      refine (Tryd.strconv_Atoi_ok ⟨s.toArray⟩ (by rw [size_mk]; omega) v (by simpa using h) w).mono ?_
      rintro e w' ⟨rfl, hw⟩
      refine ⟨_, .tup [.int .i64 v, .raw .nilIface], rfl, ?_, rfl, rfl, fun _ _ => False, fun _ _ h => h.elim, fun G _ _ => ?_⟩
      · rcases hw with rfl | ⟨t, rfl⟩
        · exact Below.refl _ _
        · exact Lib.bytesWorld_below _ _ _
      · refine .tup _ [.int .i64 v, .nilIface] rfl (fun i c x hc hx => ?_)
        match i with
        | 0 => cases hc; cases hx; exact .int _ _
        | 1 => cases hc; cases hx; exact .raw _
        | i + 2 => cases hc
    | range =>
      refine (Tryd.strconv_Atoi_range ⟨s.toArray⟩ (by rw [size_mk]; exact hs) (by simpa using h) _ w c2 (.inr ⟨_, _, rfl⟩)).mono ?_
      rintro e w' ⟨N, rfl, h1, h2, h3⟩
      refine ⟨_, .tup [.int .i64 (Lib.atoiSat s), .raw (.iface 189 (.pointer (some ⟨N, 0, none⟩)))], rfl, h3, rfl, ⟨_, _, _, rfl⟩, fun _ _ => False, fun _ _ h => h.elim, fun G _ _ => ?_⟩
      refine .tup _ [_, _] rfl (fun i c x hc hx => ?_)
      match i with
      | 0 => cases hc; cases hx; exact .int _ _
      | 1 => cases hc; cases hx; exact .raw _
      | i + 2 => cases hc
    | _ =>
      refine (Any.strconv_Atoi_syntax Tryd.laysC172 ⟨s.toArray⟩ (by rw [size_mk]; exact hs) (by simpa using h) _ w c1 (.inr ⟨_, _, rfl⟩)).mono ?_
      rintro e w' ⟨N, rfl, h1, h2, h3⟩
      refine ⟨_, .tup [.int .i64 0, .raw (.iface 189 (.pointer (some ⟨N, 0, none⟩)))], rfl, h3, rfl, ⟨_, _, _, rfl⟩, fun _ _ => False, fun _ _ h => h.elim, fun G _ _ => ?_⟩
      refine .tup _ [_, _] rfl (fun i c x hc hx => ?_)
      match i with
      | 0 => cases hc; cases hx; exact .int _ _
      | 1 => cases hc; cases hx; exact .raw _
      | i + 2 => cases hc

theorem f89 (s p : List UInt8) : PCall Tryd.prog 89 [.str s, .str p] (RV (.str (Lib.trimPrefix s p))) := by
  refine PCall.of_calls rfl ?_
  intro st w vs hl hst hrep
  obtain ⟨e1, e2⟩ := hrep
  match vs, e1 with
  | [v, u], _ =>
    have h1 := e2 0 _ v rfl rfl
    have h2 := e2 1 _ u rfl rfl
    cases h1
    cases h2
    refine (Tryd.strings_TrimPrefix ⟨s.toArray⟩ ⟨p.toArray⟩ w).mono ?_
    rintro e w' ⟨rfl, rfl⟩
    exact ⟨_, rfl, Below.refl _ _, fun G => by simpa using RepA.str (Lib.trimPrefix s p)⟩

theorem f93 (s p : List UInt8) : PCall Tryd.prog 93 [.str s, .str p] (RV (.bool (Lib.hasPrefix s p))) := by
  refine PCall.of_calls rfl ?_
  intro st w vs hl hst hrep
  obtain ⟨e1, e2⟩ := hrep
  match vs, e1 with
  | [v, u], _ =>
    have h1 := e2 0 _ v rfl rfl
    have h2 := e2 1 _ u rfl rfl
    cases h1
    cases h2
    refine (Tryd.strings_HasPrefix ⟨s.toArray⟩ ⟨p.toArray⟩ w).mono ?_
    rintro e w' ⟨rfl, rfl⟩
    exact ⟨_, rfl, Below.refl _ _, fun G => by simpa using RepA.bool (Lib.hasPrefix s p)⟩

theorem f68 (s p : List UInt8) (hs : s.length ≤ 9223372036854775807) : PCall Tryd.prog 68 [.str s, .str p] (RV (.bool (Lib.hasSuffix s p))) := by
  refine PCall.of_calls rfl ?_
  intro st w vs hl hst hrep
  obtain ⟨e1, e2⟩ := hrep
  match vs, e1 with
  | [v, u], _ =>
    have h1 := e2 0 _ v rfl rfl
    have h2 := e2 1 _ u rfl rfl
    cases h1
    cases h2
    refine (Tryd.strings_HasSuffix ⟨s.toArray⟩ ⟨p.toArray⟩ w (by rw [size_mk]; exact hs)).mono ?_
    rintro e w' ⟨rfl, rfl⟩
    exact ⟨_, rfl, Below.refl _ _, fun G => by simpa using RepA.bool (Lib.hasSuffix s p)⟩

theorem f63 (s p : List UInt8) (hs : s.length ≤ 9223372036854775807) : PCall Tryd.prog 63 [.str s, .str p] (RV (.tup [.str (Lib.trimSuffix s p), .bool (Lib.hasSuffix s p)])) := by
  refine PCall.of_calls rfl ?_
  intro st w vs hl hst hrep
  obtain ⟨e1, e2⟩ := hrep
  match vs, e1 with
  | [v, u], _ =>
    have h1 := e2 0 _ v rfl rfl
    have h2 := e2 1 _ u rfl rfl
    cases h1
    cases h2
    refine (Tryd.strings_CutSuffix ⟨s.toArray⟩ ⟨p.toArray⟩ w (by rw [size_mk]; exact hs)).mono ?_
    rintro e w' ⟨rfl, rfl⟩
    refine ⟨_, rfl, Below.refl _ _, fun G => ?_⟩
    refine .tup _ [_, _] rfl (fun i c x hc hx => ?_)
    match i with
    | 0 => cases hc; cases hx; simpa using RepA.str (Lib.trimSuffix s p)
    | 1 => cases hc; cases hx; simpa using RepA.bool (Lib.hasSuffix s p)
    | i + 2 => cases hc

/-- A text cut at a sign. -/
theorem f25 (s : List UInt8) (c : UInt8) (hs : s.length < 4294967281) : PCall Tryd.prog 25 [.str s, .str [c]] (RV (.sl 1 ((splitC c s).map DV.str) .no)) := by
  have hlen := splitC_length c s
  refine PCall.of_strs (by unfold maxLen; omega) ?_
  intro st w vs hl hst hrep
  obtain ⟨e1, e2⟩ := hrep
  match vs, e1 with
  | [v, u], _ =>
    have h1 := e2 0 _ v rfl rfl
    have h2 := e2 1 _ u rfl rfl
    cases h1
    cases h2
    refine (Tryd.strings_Split_shaped ⟨s.toArray⟩ ⟨#[c]⟩ w (hl.2.1 (.inr (by rw [show Tryd.prog.globalNamed "strconv.ErrSyntax" = some 2 by kernel_rfl]; simp))) (by rw [size_mk]; exact hs) (Nat.le_refl 1)).mono ?_
    rintro e w' ⟨rfl, rfl⟩
    have hd := Lib.splitB_data (⟨#[c]⟩ : ByteArray) 0 (Lib.countB ⟨s.toArray⟩ ⟨#[c]⟩) ⟨s.toArray⟩
    have hsp : Lib.splitK [c] 0 (Lib.count s [c]) s = splitC c s := split_one c s
    have hcn : Lib.countB ⟨s.toArray⟩ ⟨#[c]⟩ = Lib.count s [c] := by simp [Lib.countB]
    rw [hcn] at hd ⊢
    have hd2 : (Lib.splitB ⟨#[c]⟩ 0 (Lib.count s [c]) ⟨s.toArray⟩).map (·.data.toList) = splitC c s := by
      rw [hd]
      simpa using hsp
    have hall := Lib.splitB_all (⟨#[c]⟩ : ByteArray) (Nat.le_refl 1) 0 (Lib.count s [c]) ⟨s.toArray⟩ hcn
    refine ⟨9, ?_, ?_⟩
    · have : (splitC c s).length = Lib.count s [c] + 1 := by rw [← hd2, List.length_map, hall]
      rw [this]
    · rw [← hd2, List.map_map]
      rfl

end Go.Proofs.YtkfhieigdlfbeaaDoor
