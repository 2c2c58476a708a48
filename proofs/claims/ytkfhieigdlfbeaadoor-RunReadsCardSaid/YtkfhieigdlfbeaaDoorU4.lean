/- The reading of stocks: the program's and the reference's. -/
import Derived.Test.YtkfhieigdlfbeaaDoorU3
import Derived.Test.YtkfhieigdlfbeaaDoorV4
import Derived.Test.YtkfhieigdlfbeaaDoorB140
namespace Go.Proofs.YtkfhieigdlfbeaaDoor
set_option linter.unusedSimpArgs false
set_option linter.unusedVariables false
open Go.AB

/-- All of a list, or none. -/
def mapO {α β : Type} (f : α → Option β) : List α → Option (List β)
  | [] => some []
  | a :: r => match f a with
    | none => none
    | some b => match mapO f r with
      | none => none
      | some l => some (b :: l)

theorem mapO_take {α β : Type} {f : α → Option β} : ∀ (ws : List α) (i : Nat) (w : α) (l : List β), ws[i]? = some w → mapO f (ws.take i) = some l →
    (f w = none → mapO f ws = none) ∧ ∀ n, f w = some n → mapO f (ws.take (i + 1)) = some (l ++ [n])
  | [], i, w, l, h, _ => by simp at h
  | x :: r, 0, w, l, h, hl => by
    simp only [List.getElem?_cons_zero, Option.some.injEq] at h
    subst h
    simp only [List.take_zero, mapO, Option.some.injEq] at hl
    subst hl
    refine ⟨fun hn => by simp [mapO, hn], fun n hn => by simp [mapO, hn]⟩
  | x :: r, i + 1, w, l, h, hl => by
    simp only [List.take_succ_cons, mapO] at hl ⊢
    cases hx : f x with
    | none => rw [hx] at hl; cases hl
    | some k =>
      rw [hx] at hl
      simp only at hl ⊢
      cases hr : mapO f (r.take i) with
      | none => rw [hr] at hl; cases hl
      | some l' =>
        rw [hr] at hl
        simp only [Option.some.injEq] at hl
        subst hl
        obtain ⟨h1, h2⟩ := mapO_take r i w l' (by simpa using h) hr
        refine ⟨fun hn => by rw [h1 hn], fun n hn => by rw [h2 n hn]; rfl⟩

theorem mapO_length {α β : Type} {f : α → Option β} : ∀ (ws : List α) (l : List β), mapO f ws = some l → l.length = ws.length
  | [], l, h => by simp only [mapO, Option.some.injEq] at h; subst h; rfl
  | x :: r, l, h => by
    simp only [mapO] at h
    cases hx : f x with
    | none => rw [hx] at h; cases h
    | some k =>
      rw [hx] at h
      simp only at h
      cases hr : mapO f r with
      | none => rw [hr] at h; cases h
      | some l' =>
        rw [hr] at h
        simp only [Option.some.injEq] at h
        subst h
        simp [mapO_length r l' hr]

theorem mapO_mem {α β : Type} {f : α → Option β} : ∀ (ws : List α) (l : List β) (b : β), mapO f ws = some l → b ∈ l → ∃ a ∈ ws, f a = some b
  | [], l, b, h, hb => by simp only [mapO, Option.some.injEq] at h; subst h; cases hb
  | x :: r, l, b, h, hb => by
    simp only [mapO] at h
    cases hx : f x with
    | none => rw [hx] at h; cases h
    | some k =>
      rw [hx] at h
      simp only at h
      cases hr : mapO f r with
      | none => rw [hr] at h; cases h
      | some l' =>
        rw [hr] at h
        simp only [Option.some.injEq] at h
        subst h
        rcases List.mem_cons.1 hb with rfl | hb
        · exact ⟨x, List.mem_cons_self .., hx⟩
        · obtain ⟨a, h1, h2⟩ := mapO_mem r l' b hr hb
          exact ⟨a, List.mem_cons_of_mem _ h1, h2⟩

def wStock : List UInt8 := [115, 116, 111, 99, 107]
/-- The stock of a line's words. -/
def stockOf (w : List (List UInt8)) : Option Stock := match w with
  | s :: n :: r => if s = wStock ∧ n ≠ [] then match numsF r with
    | some [a, b, c, d, e, f, g, h, i] => some ⟨n, a, b, c, d, e, f, g, h, i⟩
    | _ => none else none
  | _ => none
def readS (t : List UInt8) : List Stock × Int :=
  if 20000 < t.length then ([], 4) else if linesB t = true then match mapO stockOf (linesF t) with
    | none => ([], 10)
    | some l => if errS l = 0 then (l, 0) else ([], errS l)
  else ([], 10)
def readSV (t : List UInt8) : AV := .tup [.sl 10 ((readS t).1.map dStock) .no, .int .i64 (readS t).2]

theorem stockOf_len {w : List (List UInt8)} (h : w.length ≠ 11) : stockOf w = none := by
  match w, h with
  | [], _ => rfl
  | [_], _ => rfl
  | s :: n :: r, h =>
    simp only [stockOf]
    split
    · cases hn : numsF r with
      | none => rfl
      | some l =>
        have hl := numsF_length _ _ hn
        simp only [List.length_cons] at h
        match l, hl with
        | [a, b, c, d, e, f, g, h', i], hl => exact absurd hl (by simp only [List.length_cons, List.length_nil]; omega)
        | [], _ => rfl
        | [_], _ => rfl
        | [_, _], _ => rfl
        | [_, _, _], _ => rfl
        | [_, _, _, _], _ => rfl
        | [_, _, _, _, _], _ => rfl
        | [_, _, _, _, _, _], _ => rfl
        | [_, _, _, _, _, _, _], _ => rfl
        | [_, _, _, _, _, _, _, _], _ => rfl
        | _ :: _ :: _ :: _ :: _ :: _ :: _ :: _ :: _ :: _ :: _, _ => rfl
    · rfl

theorem nine {l : List Int} (h : l.length = 9) : ∃ a b c d e f g i j, l = [a, b, c, d, e, f, g, i, j] := by
  match l, h with
  | [a, b, c, d, e, f, g, i, j], _ => exact ⟨a, b, c, d, e, f, g, i, j, rfl⟩

theorem eleven {w : List (List UInt8)} (h : w.length = 11) : ∃ s n r, w = s :: n :: r ∧ r.length = 9 := by
  match w, h with
  | s :: n :: r, h => exact ⟨s, n, r, rfl, by simp only [List.length_cons] at h; omega⟩

theorem stockOf_name {w : List (List UInt8)} {s : Stock} (h : stockOf w = some s) : s.name ∈ w := by
  match w, h with
  | a :: n :: r, h =>
    simp only [stockOf] at h
    split at h
    · split at h
      · cases h
        simp
      · cases h
    · cases h

theorem linesF_small {t : List UInt8} (ht : t.length ≤ 20000) : (linesF t).length ≤ 20001 ∧ ∀ ws ∈ linesF t, ws.length ≤ 20001 ∧ ∀ w ∈ ws, w.length ≤ 20000 := by
  unfold linesF
  split
  · simp
  · have h1 := trim_le t
    have h2 := splitC_length 10 (Lib.trimSuffix t [10])
    refine ⟨by rw [List.length_map]; omega, fun ws hws => ?_⟩
    obtain ⟨l, hl, rfl⟩ := List.mem_map.1 hws
    have h3 := (splitC_mem hl).1
    have h4 := splitC_length 32 l
    exact ⟨by omega, fun w hw => by have := (splitC_mem hw).1; omega⟩


set_option maxHeartbeats 4000000 in
set_option maxRecDepth 20000 in
theorem f11 (t : List UInt8) (ht : t.length ≤ 140737488351232) : PCall Tryd.prog 11 [.str t] (RV (readSV t)) := by
  refine PCall.of_bodyE Tryd.func11 rfl Tryd.ntmps11 (congrArg Array.toList Tryd.results11) ?_
  intro E
  by_cases h1 : 20000 < t.length
  · have h1' : ((20000 : Int) < (t.length : Int)) = True := eq_true (by omega)
    have hr : readS t = ([], 4) := by unfold readS; rw [if_pos h1]
    rw [readSV, hr]
    simp only [go_sem, h1']
    first | done | rfl
  have h1' : ((20000 : Int) < (t.length : Int)) = False := eq_false (by omega)
  simp only [go_sem, h1']
  refine callV (f29 t (by omega)) ?_
  intro nx lv
  cases hB : linesB t with
  | false =>
    have hr : readS t = ([], 10) := by unfold readS; rw [if_neg h1, hB]; rfl
    rw [readSV, hr]
    simp only [go_sem, linesV, hB]
    first | done | rfl
  | true =>
    obtain ⟨b1, b2⟩ := linesF_small (t := t) (by omega)
    have hr : readS t = match mapO stockOf (linesF t) with
        | none => ([], 10)
        | some l => if errS l = 0 then (l, 0) else ([], errS l) := by unfold readS; rw [if_neg h1, hB]; rfl
    rw [readSV]
    simp only [go_sem, linesV, hB]
    generalize linesF t = ls at *
    refine AW_loopH (2 :: 3 :: 6 :: 8 :: 9 :: 10 :: 25 :: 26 :: 27 :: 28 :: 29 :: 30 :: 31 :: 32 :: 33 :: 34 :: 35 :: 36 :: 37 :: 38 :: 39 :: 40 :: 41 :: 42 :: 43 :: 44 :: 45 :: 46 :: 47 :: 48 :: 49 :: 50 :: 51 :: 52 :: 53 :: 54 :: 55 :: 56 :: 57 :: 58 :: 59 :: 60 :: 61 :: 62 :: 63 :: 64 :: 65 :: 66 :: 67 :: 68 :: 69 :: 70 :: 71 :: 72 :: 73 :: 74 :: 75 :: 76 :: 77 :: 78 :: 79 :: 80 :: 81 :: 82 :: 83 :: 84 :: 85 :: 86 :: []) (fun (x : Nat) ρ m => ρ 25 = .int .i64 (x : Int) ∧ x ≤ ls.length ∧ ∃ l tok nx lv, ρ 6 = .sl 10 (l.map dStock) tok ∧ m = ⟨[], [], nx, lv⟩ ∧ okT m tok ∧ mapO stockOf (ls.take x) = some l) (fun x => ls.length - x) 0 ?_ ?_
    · simp only [go_sem]
      exact ⟨Nat.zero_le _, [], .nil, _, _, by simp, rfl, trivial, rfl⟩
    rintro x ρ m ⟨e25, hx, l, tok, nx, lv, e6, rfl, hok, hm⟩ Q' hN hR hX
    have hlen := mapO_length _ _ hm
    rw [List.length_take, Nat.min_eq_left hx] at hlen
    by_cases hlt : x < ls.length
    · have hlt' : ((x : Int) < (ls.length : Int)) = True := eq_true (by omega)
      have h00 : ((0 : Int) ≤ (x : Int)) = True := by simp
      have w1 : IntKind.i64.wrap ((x : Int) + 1) = (x : Int) + 1 := i64_in (by omega) (by omega)
      obtain ⟨ws, hw⟩ : ∃ ws, ls[x]? = some ws := ⟨_, List.getElem?_eq_getElem hlt⟩
      obtain ⟨c1, c2⟩ := b2 ws (List.mem_of_getElem? hw)
      obtain ⟨t1, t2⟩ := mapO_take ls x ws l hw hm
      by_cases k1 : ws.length = 11
      · obtain ⟨s, n, r, rfl, hr9⟩ := eleven k1
        have k1' : (((s :: n :: r : List (List UInt8)).length : Int) = 11) = True := eq_true (by omega)
        by_cases k2 : s = wStock
        · have k2' : (s = wStock) = True := eq_true k2
          by_cases k3 : n = []
          · have hno : stockOf (s :: n :: r) = none := by simp [stockOf, k3]
            have r1 : readS t = ([], 10) := by rw [hr, t1 hno]
            have k3' : (n = []) = True := eq_true k3
            subst k2
            simp only [go_sem, e25, hlt', h00, hw, dWords, hN, hR, hX, k1', k3', List.map_cons, wStock, r1]
            first | done | rfl
          have k3' : (n = []) = False := eq_false k3
          subst k2
          have hd2 : (List.map DV.str r).take (r.length + 1 + 1 - 2) = List.map DV.str r := List.take_of_length_le (by simp)
          have k4' : (((r.length + 1 + 1 : Nat) : Int) = 11) = True := eq_true (by omega)
          simp only [go_sem, e25, hlt', h00, hw, dWords, hN, hR, hX, k4', k3', List.map_cons, wStock, hd2]
          refine callVt (f24 r (by omega) (fun w hw => by have := c2 w (by simp [hw]); omega)) ?_
          intro nx2 lv2 g1 g2
          cases hn : numsF r with
          | none =>
            have hno : stockOf (wStock :: n :: r) = none := by simp [stockOf, hn]
            have r1 : readS t = ([], 10) := by rw [hr, t1 hno]
            simp only [go_sem, numsV, hn, Option.isSome_none, hN, hR, hX, r1]
            first | done | rfl
          | some q =>
            have hq := numsF_length _ _ hn
            obtain ⟨a, b, c, d, e, f, g, h, i, rfl⟩ := nine (l := q) (by omega)
            have hst : stockOf (wStock :: n :: r) = some ⟨n, a, b, c, d, e, f, g, h, i⟩ := by simp [stockOf, hn, k3]
            have h2 := t2 _ hst
            simp only [go_sem, numsV, hn, Option.isSome_some, Option.getD_some, dInt, List.map_cons, List.map_nil, hN, hR, hX]
            refine drawnT [2, 2, 2, 2, 2, 2, 2, 2, 2, 2, 2, 2, 2, 2, 2, 2, 2, 2, 2, 2, 2, 2, 2, 2, 2, 2, 2, 2, 2, 2, 2, 2, 3, 1, 1] (.alt 32 [2, 0, 0, 0, 0, 0, 0, 0, 0, 0, 0, 0, 0, 0, 0, 0, 0, 0, 0, 0, 0, 0, 0, 0, 0, 0, 0, 0, 0, 0, 0, 0, 0, 3, 1] (.alt 33 [0, 0, 0, 0, 0, 0, 0, 0, 0, 0, 0, 0, 0, 0, 0, 0, 0, 0, 0, 0, 0, 0, 0, 0, 0, 0, 0, 0, 0, 0, 0, 0, 0, 0, 2] .fin .nil) .nil) 96 (by kernel_rfl) (by kernel_rfl) (by kernel_rfl) (by kernel_rfl) rfl ?_
            simp only [go_sem, e6, w1]
            intro nx3 lv3 q1 q2 nx4 lv4 q3 q4
            refine ⟨okT_mono hok (fun j x => q4 _ (.inr (q2 _ (g2 _ x)))), by omega, ?_⟩
            intro nx5 lv5 q5 q6
            simp only [hN]
            refine ⟨by kernel_rfl, x + 1, ?_, by simp only; omega⟩
            simp only [go_sem]
            exact ⟨by simp, by omega, l ++ [⟨n, a, b, c, d, e, f, g, h, i⟩], .own nx4, _, _, by simp [dStock], rfl, q6 _ (.inl rfl), h2⟩
        · have hno : stockOf (s :: n :: r) = none := by simp [stockOf, k2]
          have r1 : readS t = ([], 10) := by rw [hr, t1 hno]
          have k2' : (s = [115, 116, 111, 99, 107]) = False := eq_false k2
          simp only [go_sem, e25, hlt', h00, hw, dWords, hN, hR, hX, k1', k2', List.map_cons, r1]
          first | done | rfl
      · have r1 : readS t = ([], 10) := by rw [hr, t1 (stockOf_len k1)]
        have k1' : ((ws.length : Int) = 11) = False := eq_false (by omega)
        simp only [go_sem, e25, hlt', h00, hw, dWords, hN, hR, hX, k1', r1]
        first | done | rfl
    · have hlt' : ((x : Int) < (ls.length : Int)) = False := eq_false (by omega)
      have hte : ls.take x = ls := List.take_of_length_le (by omega)
      rw [hte] at hm
      rw [hm] at hr
      simp only at hr
      simp only [go_sem, e25, e6, hlt', hN, hR, hX]
      have hnm : ∀ s ∈ l, s.name.length ≤ 140737488351232 := fun s hs => by
        obtain ⟨ws, h5, h6⟩ := mapO_mem _ _ _ hm hs
        obtain ⟨c1, c2⟩ := b2 ws h5
        have := c2 _ (stockOf_name h6)
        omega
      refine callV (f30 l hnm (by omega)) ?_
      intro nx2 lv2
      by_cases h0 : errS l = 0
      · rw [if_pos h0] at hr
        simp only [go_sem, h0, hr, if_true]
        first | done | rfl
      · rw [if_neg h0] at hr
        have h0' : (errS l = 0) = False := eq_false h0
        simp only [go_sem, h0', hr, if_false]
        first | done | rfl

set_option maxHeartbeats 4000000 in
set_option maxRecDepth 20000 in
theorem f12 (t : List UInt8) (ht : t.length ≤ 140737488351232) : PCall Tryd.prog 12 [.str t] (RV (readSV t)) := by
  refine PCall.of_bodyE Tryd.func12 rfl Tryd.ntmps12 (congrArg Array.toList Tryd.results12) ?_
  intro E
  by_cases h1 : 20000 < t.length
  · have h1' : ((20000 : Int) < (t.length : Int)) = True := eq_true (by omega)
    have hr : readS t = ([], 4) := by unfold readS; rw [if_pos h1]
    rw [readSV, hr]
    simp only [go_sem, h1']
    first | done | rfl
  have h1' : ((20000 : Int) < (t.length : Int)) = False := eq_false (by omega)
  simp only [go_sem, h1']
  refine callV (f31 t (by omega)) ?_
  intro nx lv
  cases hB : linesB t with
  | false =>
    have hr : readS t = ([], 10) := by unfold readS; rw [if_neg h1, hB]; rfl
    rw [readSV, hr]
    simp only [go_sem, rlinesV, hB]
    first | done | rfl
  | true =>
    obtain ⟨b1, b2⟩ := linesF_small (t := t) (by omega)
    have hr : readS t = match mapO stockOf (linesF t) with
        | none => ([], 10)
        | some l => if errS l = 0 then (l, 0) else ([], errS l) := by unfold readS; rw [if_neg h1, hB]; rfl
    rw [readSV]
    simp only [go_sem, rlinesV, hB]
    have hle := lines_eq hB
    rw [hle] at b1 b2 hr
    rw [List.length_map] at b1
    have bl : ∀ w ∈ rlines t, w.length ≤ 20000 := by
      intro w hw
      unfold rlines at hw
      split at hw
      · cases hw
      · split at hw
        · have := (splitC_mem hw).1
          rw [List.length_take] at this
          omega
        · cases hw
    generalize rlines t = ls at *
    refine AW_loopH (2 :: 3 :: 6 :: 8 :: 9 :: 10 :: 11 :: 25 :: 26 :: 27 :: 28 :: 29 :: 30 :: 31 :: 32 :: 33 :: 34 :: 35 :: 36 :: 37 :: 38 :: 39 :: 40 :: 41 :: 42 :: 43 :: 44 :: 45 :: 46 :: 47 :: 48 :: 49 :: 50 :: 51 :: 52 :: 53 :: 54 :: 55 :: 56 :: 57 :: 58 :: 59 :: 60 :: 61 :: 62 :: 63 :: 64 :: 65 :: 66 :: 67 :: 68 :: 69 :: 70 :: 71 :: 72 :: 73 :: 74 :: 75 :: 76 :: 77 :: 78 :: 79 :: 80 :: 81 :: 82 :: 83 :: 84 :: 85 :: 86 :: 87 :: 88 :: []) (fun (x : Nat) ρ m => ρ 25 = .int .i64 (x : Int) ∧ x ≤ ls.length ∧ ∃ l tok nx lv, ρ 6 = .sl 10 (l.map dStock) tok ∧ m = ⟨[], [], nx, lv⟩ ∧ okT m tok ∧ mapO stockOf ((ls.map (splitC 32)).take x) = some l) (fun x => ls.length - x) 0 ?_ ?_
    · simp only [go_sem]
      exact ⟨Nat.zero_le _, [], .nil, _, _, by simp, rfl, trivial, rfl⟩
    rintro x ρ m ⟨e25, hx, l, tok, nx, lv, e6, rfl, hok, hm⟩ Q' hN hR hX
    have hlen := mapO_length _ _ hm
    rw [List.length_take, List.length_map, Nat.min_eq_left hx] at hlen
    by_cases hlt : x < ls.length
    · have hlt' : ((x : Int) < (ls.length : Int)) = True := eq_true (by omega)
      have h00 : ((0 : Int) ≤ (x : Int)) = True := by simp
      have w1 : IntKind.i64.wrap ((x : Int) + 1) = (x : Int) + 1 := i64_in (by omega) (by omega)
      obtain ⟨ln, hw⟩ : ∃ ln, ls[x]? = some ln := ⟨_, List.getElem?_eq_getElem hlt⟩
      have hw2 : (ls.map (splitC 32))[x]? = some (splitC 32 ln) := by rw [List.getElem?_map, hw]; rfl
      have hll := bl ln (List.mem_of_getElem? hw)
      simp only [go_sem, e25, hlt', h00, hw, hN, hR, hX]
      refine callVt (f25 ln 32 (by omega)) ?_
      intro nx0 lv0 g01 g02
      generalize hws : splitC 32 ln = ws at *
      obtain ⟨c1, c2⟩ := b2 ws (List.mem_of_getElem? hw2)
      obtain ⟨t1, t2⟩ := mapO_take (ls.map (splitC 32)) x ws l hw2 hm
      by_cases k1 : ws.length = 11
      · obtain ⟨s, n, r, rfl, hr9⟩ := eleven k1
        have k1' : (((s :: n :: r : List (List UInt8)).length : Int) = 11) = True := eq_true (by omega)
        by_cases k2 : s = wStock
        · have k2' : (s = wStock) = True := eq_true k2
          by_cases k3 : n = []
          · have hno : stockOf (s :: n :: r) = none := by simp [stockOf, k3]
            have r1 : readS t = ([], 10) := by rw [hr, t1 hno]
            have k3' : (n = []) = True := eq_true k3
            subst k2
            simp only [go_sem, e25, hlt', h00, hw, hN, hR, hX, k1', k3', List.map_cons, wStock, r1]
            first | done | rfl
          have k3' : (n = []) = False := eq_false k3
          subst k2
          have hd2 : (List.map DV.str r).take (r.length + 1 + 1 - 2) = List.map DV.str r := List.take_of_length_le (by simp)
          have k4' : (((r.length + 1 + 1 : Nat) : Int) = 11) = True := eq_true (by omega)
          simp only [go_sem, e25, hlt', h00, hw, hN, hR, hX, k4', k3', List.map_cons, wStock, hd2]
          refine callVt (f27 r (by omega) (fun w hw => by have := c2 w (by simp [hw]); omega)) ?_
          intro nx2 lv2 g1 g2
          cases hn : numsF r with
          | none =>
            have hno : stockOf (wStock :: n :: r) = none := by simp [stockOf, hn]
            have r1 : readS t = ([], 10) := by rw [hr, t1 hno]
            simp only [go_sem, numsV, hn, Option.isSome_none, hN, hR, hX, r1]
            first | done | rfl
          | some q =>
            have hq := numsF_length _ _ hn
            obtain ⟨a, b, c, d, e, f, g, h, i, rfl⟩ := nine (l := q) (by omega)
            have hst : stockOf (wStock :: n :: r) = some ⟨n, a, b, c, d, e, f, g, h, i⟩ := by simp [stockOf, hn, k3]
            have h2 := t2 _ hst
            simp only [go_sem, numsV, hn, Option.isSome_some, Option.getD_some, dInt, List.map_cons, List.map_nil, hN, hR, hX]
            refine drawnT [2, 2, 2, 2, 2, 2, 2, 2, 2, 2, 2, 2, 2, 2, 2, 2, 2, 2, 2, 2, 2, 2, 2, 2, 2, 2, 2, 2, 2, 2, 2, 2, 3, 1, 1] (.alt 32 [2, 0, 0, 0, 0, 0, 0, 0, 0, 0, 0, 0, 0, 0, 0, 0, 0, 0, 0, 0, 0, 0, 0, 0, 0, 0, 0, 0, 0, 0, 0, 0, 0, 3, 1] (.alt 33 [0, 0, 0, 0, 0, 0, 0, 0, 0, 0, 0, 0, 0, 0, 0, 0, 0, 0, 0, 0, 0, 0, 0, 0, 0, 0, 0, 0, 0, 0, 0, 0, 0, 0, 2] .fin .nil) .nil) 95 (by kernel_rfl) (by kernel_rfl) (by kernel_rfl) (by kernel_rfl) rfl ?_
            simp only [go_sem, e6, w1]
            intro nx3 lv3 q1 q2 nx4 lv4 q3 q4
            refine ⟨okT_mono hok (fun j x => q4 _ (.inr (q2 _ (g2 _ (g02 _ x))))), by omega, ?_⟩
            intro nx5 lv5 q5 q6
            simp only [hN]
            refine ⟨by kernel_rfl, x + 1, ?_, by simp only; omega⟩
            simp only [go_sem]
            exact ⟨by simp, by omega, l ++ [⟨n, a, b, c, d, e, f, g, h, i⟩], .own nx4, _, _, by simp [dStock], rfl, q6 _ (.inl rfl), h2⟩
        · have hno : stockOf (s :: n :: r) = none := by simp [stockOf, k2]
          have r1 : readS t = ([], 10) := by rw [hr, t1 hno]
          have k2' : (s = [115, 116, 111, 99, 107]) = False := eq_false k2
          simp only [go_sem, e25, hlt', h00, hw, hN, hR, hX, k1', k2', List.map_cons, r1]
          first | done | rfl
      · have r1 : readS t = ([], 10) := by rw [hr, t1 (stockOf_len k1)]
        have k1' : ((ws.length : Int) = 11) = False := eq_false (by omega)
        simp only [go_sem, e25, hlt', h00, hw, hN, hR, hX, k1', r1]
        first | done | rfl
    · have hlt' : ((x : Int) < (ls.length : Int)) = False := eq_false (by omega)
      have hte : (ls.map (splitC 32)).take x = ls.map (splitC 32) := List.take_of_length_le (by rw [List.length_map]; omega)
      rw [hte] at hm
      rw [hm] at hr
      simp only at hr
      simp only [go_sem, e25, e6, hlt', hN, hR, hX]
      have hnm : ∀ s ∈ l, s.name.length ≤ 140737488351232 := fun s hs => by
        obtain ⟨ws, h5, h6⟩ := mapO_mem _ _ _ hm hs
        obtain ⟨c1, c2⟩ := b2 ws h5
        have := c2 _ (stockOf_name h6)
        omega
      refine callV (f32 l hnm) ?_
      intro nx2 lv2
      by_cases h0 : errS l = 0
      · rw [if_pos h0] at hr
        simp only [go_sem, h0, hr, if_true]
        first | done | rfl
      · rw [if_neg h0] at hr
        have h0' : (errS l = 0) = False := eq_false h0
        simp only [go_sem, h0', hr, if_false]
        first | done | rfl
end Go.Proofs.YtkfhieigdlfbeaaDoor
