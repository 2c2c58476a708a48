/- DayReadLogs: reading a log, the reference's. -/
import Derived.Test.YtkfhieigdlfbeaaDoorX4
import Derived.Test.YtkfhieigdlfbeaaDoorX5
namespace Go.Proofs.YtkfhieigdlfbeaaDoor
open Go.AB
set_option linter.unusedSimpArgs false
set_option linter.unusedVariables false

theorem lineNum_itoa {s : List UInt8} {v : Int} (h : lineNum s = some v) : Lib.itoa v = s := by
  unfold lineNum at h
  split at h
  · split at h
    · rename_i hc
      cases h
      exact hc.1
    · cases h
  · cases h
theorem numsF_get : ∀ (ws : List (List UInt8)) (l : List Int) (i : Nat) (w : List UInt8) (n : Int), numsF ws = some l → ws[i]? = some w → l[i]? = some n → lineNum w = some n
  | [], l, i, w, n, h, h1, h2 => by simp at h1
  | x :: r, l, i, w, n, h, h1, h2 => by
    unfold numsF at h
    split at h
    · cases h
    · rename_i v hv
      split at h
      · cases h
      · rename_i l' hl'
        cases h
        cases i with
        | zero => simp at h1 h2; subst h1 h2; exact hv
        | succ i => exact numsF_get r l' i w n hl' (by simpa using h1) (by simpa using h2)
theorem sum_iff {w0 w1 w2 w3 w4 w5 : List UInt8} {a b c d e f : Int} (h : numsF [w0, w1, w2, w3, w4, w5] = some [a, b, c, d, e, f]) :
    sumOk [w0, w1, w2, w3, w4, w5] = decide (f = ((sums 65535 (Lib.join [w0, w1, w2, w3, w4] [32]) : Nat) : Int)) := by
  have h5 := lineNum_itoa (numsF_get _ _ 5 w5 f h rfl rfl)
  unfold sumOk
  simp only [List.take_succ_cons, List.take_zero, List.getD_eq_getElem?_getD, List.getElem?_cons_succ, List.getElem?_cons_zero, Option.getD_some]
  rw [← h5]
  by_cases hq : f = ((sums 65535 (Lib.join [w0, w1, w2, w3, w4] [32]) : Nat) : Int)
  · rw [hq]; simp
  · have : ¬ Lib.itoa ((sums 65535 (Lib.join [w0, w1, w2, w3, w4] [32]) : Nat) : Int) = Lib.itoa f := fun e => hq (itoa_inj _ _ e)
    simp [hq, this]
/-- A line of six words: what stands ahead of its last blank. -/
theorem six_last {s : List UInt8} {w0 w1 w2 w3 w4 w5 : List UInt8} (h : splitC 32 s = [w0, w1, w2, w3, w4, w5]) :
    s = Lib.join [w0, w1, w2, w3, w4] [32] ++ 32 :: w5 ∧ (32 : UInt8) ∉ w5 := by
  have h1 := splitC_join 32 s
  rw [h] at h1
  refine ⟨?_, (splitC_mem (s := s) (x := w5) (by rw [h]; simp)).2⟩
  rw [← h1]
  simp [Lib.join_cons, Lib.joinTail]

theorem f40' (a b : List UInt8) (hb : (32 : UInt8) ∉ b) (hs : (a ++ 32 :: b).length < 4611686018427387904) : PCall Tryd.prog 40 [.str (a ++ 32 :: b), .str [32]] (RV (.int .i64 (a.length : Nat))) := by
  have := f40 _ hs
  rw [last_blank a b hb] at this
  exact this
theorem rlines_by {t : List UInt8} (ht : t.length ≤ 2000000) : (rlines t).length ≤ 2000001 ∧ ∀ s ∈ rlines t, s.length ≤ 2000000 := by
  unfold rlines
  split
  · simp
  split
  · have h2 := splitC_length 10 (t.take (t.length - 1))
    have h3 : (t.take (t.length - 1)).length ≤ t.length := by rw [List.length_take]; omega
    exact ⟨by omega, fun s hs => by have := (splitC_mem hs).1; omega⟩
  · simp

set_option maxHeartbeats 8000000 in
set_option maxRecDepth 20000 in
theorem f15 (t : List UInt8) (ht : t.length ≤ 140737488351232) : PCall Tryd.prog 15 [.str t] (RV (readLV t)) := by
  refine PCall.of_bodyE Tryd.func15 rfl Tryd.ntmps15 (congrArg Array.toList Tryd.results15) ?_
  intro E
  by_cases hbig : 2000000 < t.length
  · have hb' : ((2000000 : Int) < (t.length : Int)) = True := eq_true (by omega)
    have hr : readL t = ([], 4) := by simp [readL, hbig]
    simp only [go_sem, hb', readLV, hr]
  have hb' : ((2000000 : Int) < (t.length : Int)) = False := eq_false (by omega)
  simp only [go_sem, hb']
  refine callVt (f31 t (by omega)) ?_
  intro nx2 lv2 g1 g2
  by_cases hB : linesB t = true
  rotate_left
  · have hB' : linesB t = false := by simpa using hB
    have hr : readL t = ([], 10) := by simp [readL, hbig, okRows, hB']
    simp only [go_sem, rlinesV, hB', readLV, hr]
  have hle := lines_eq hB
  obtain ⟨ls1, ls2⟩ := rlines_by (t := t) (by omega)
  have hlen : (linesF t).length = (rlines t).length := by rw [hle]; simp
  simp only [go_sem, rlinesV, hB]
  refine AW_loopH (2 :: 3 :: 6 :: 7 :: 9 :: 10 :: 11 :: 25 :: 26 :: 27 :: 28 :: 29 :: 30 :: 31 :: 32 :: 33 :: 34 :: 35 :: 36 :: 37 :: 38 :: 39 :: 40 :: 41 :: 42 :: 43 :: 44 :: 45 :: 46 :: 47 :: 48 :: 49 :: 50 :: 51 :: 52 :: 53 :: 54 :: 55 :: 56 :: 57 :: 58 :: 59 :: 60 :: 61 :: 62 :: 63 :: 64 :: 65 :: 66 :: 67 :: 68 :: 69 :: 70 :: 71 :: 72 :: 73 :: 74 :: []) (fun (x : Nat) ρ m => ρ 25 = .int .i64 (x : Int) ∧ x ≤ (rlines t).length ∧ entsB ((linesF t).take x) = true ∧ ρ 7 = .bool (!((linesF t).take x).all sumOk) ∧ ρ 2 = .sl 5 [] .nil ∧ ρ 3 = .int .i64 0 ∧ ∃ tok nx lv, ρ 6 = .sl 5 ((entsF ((linesF t).take x)).map dEnt) tok ∧ m = ⟨[], [], nx, lv⟩ ∧ okT m tok) (fun x => (rlines t).length - x) 0 ?_ ?_
  · simp only [go_sem]
    exact ⟨Nat.zero_le _, rfl, .nil, _, _, ⟨rfl, rfl⟩, rfl, trivial⟩
  rintro x ρ m ⟨e25, hx, hE, e7, e2, e3, tok, nx3, lv3, e6, rfl, hT⟩ Q' hN hR hX
  by_cases hlt : x < (rlines t).length
  · have hlt' : ((x : Int) < ((rlines t).length : Int)) = True := eq_true (by omega)
    have h00 : ((0 : Int) ≤ (x : Int)) = True := by simp
    have w1 : IntKind.i64.wrap ((x : Int) + 1) = (x : Int) + 1 := i64_in (by omega) (by omega)
    obtain ⟨s, hs⟩ : ∃ s, (rlines t)[x]? = some s := ⟨_, List.getElem?_eq_getElem hlt⟩
    have hsl := ls2 s (List.mem_of_getElem? hs)
    have hws : (linesF t)[x]? = some (splitC 32 s) := by rw [hle, List.getElem?_map, hs]; rfl
    have hts : (linesF t).take (x + 1) = (linesF t).take x ++ [splitC 32 s] := by rw [List.take_add_one, hws]; rfl
    have hwl := splitC_length 32 s
    have hwm : ∀ w ∈ splitC 32 s, w.length ≤ 4294967296 := fun w hw => by have := (splitC_mem hw).1; omega
    have hel := entsF_take _ _ hE
    have htl : ((linesF t).take x).length = x := by rw [List.length_take]; omega
    simp only [go_sem, e25, hlt', h00, hs]
    refine callVt (f25 s 32 (by omega)) ?_
    intro nx4 lv4 g3 g4
    simp only [go_sem]
    refine callVt (f27 _ (by omega) hwm) ?_
    intro nx5 lv5 g5 g6
    have bad : entW (splitC 32 s) = none → readL t = ([], 10) := fun hb => by
      have : okRows t = false := by simp [okRows, entsB_bad hws hb]
      simp [readL, hbig, this]
    simp only [go_sem, numsV]
    refine ⟨fun hs0 => ?_, fun hs1 => ⟨fun h6 => ?_, fun h6 => ?_⟩⟩
    · have hr := bad (by have hn : numsF (splitC 32 s) = none := by simpa using hs0
                         rw [entW, hn]; rfl)
      simp only [go_sem, hR, readLV, hr]
    · have hr := bad (entN_none (by omega))
      simp only [go_sem, hR, readLV, hr]
    obtain ⟨a, b, c, d, e, f, hn⟩ := entN_len hs1 (by omega)
    have hent : entW (splitC 32 s) = some ⟨a, b, c, d, e⟩ := by rw [entW, hn]; rfl
    obtain ⟨w0, w1', w2, w3, w4, w5, hw6⟩ := six (ws := splitC 32 s) (by rw [hent]; rfl)
    obtain ⟨hsp, hnb⟩ := six_last hw6
    have hsum := sum_iff (by rw [← hw6]; exact hn)
    rw [← hw6] at hsum
    generalize hJ : Lib.join [w0, w1', w2, w3, w4] [32] = J at hsp hsum
    subst hsp
    have hjl : J.length ≤ 2000000 := by rw [List.length_append] at hsl; omega
    have hsums := sums_lt J 65535 (by omega)
    simp only [hn, Option.getD_some]
    have hokT : okT ⟨[], [], nx5, lv5⟩ tok := okT_mono hT (fun j x => g6 _ (g4 _ x))
    cases hall : ((linesF t).take x).all sumOk with
    | true =>
      rw [hall] at e7
      refine drawn (by kernel_rfl) (by kernel_rfl) ?_
      simp only [go_sem, e7, dInt, Bool.not_true]
      refine quietD (f40' J w5 hnb (by omega)) (fun _ => rfl) ?_
      have hz : ((0 : Int) ≤ (J.length : Int)) = True := by simp
      have hcut : List.take (J.length - 0) (J ++ 32 :: w5) = J := by simp
      simp only [go_sem, hz, hcut]
      refine ⟨Nat.zero_le _, by simp, by omega, ?_⟩
      refine quietD (f39 J (by omega)) (fun _ => rfl) ?_
      simp only [go_sem]
      intro nx6 lv6 p1 p2
      refine drawnT [2, 2, 2, 2, 2, 2, 2, 2, 2, 2, 2, 2, 2, 2, 2, 2, 2, 3, 1, 1] (.alt 17 [2, 0, 0, 0, 0, 0, 0, 0, 0, 0, 0, 0, 0, 0, 0, 0, 0, 0, 3, 1] (.alt 18 [0, 0, 0, 0, 0, 0, 0, 0, 0, 0, 0, 0, 0, 0, 0, 0, 0, 0, 0, 2] .fin .nil) .nil) 82 (by kernel_rfl) (by kernel_rfl) (by kernel_rfl) (by kernel_rfl) rfl ?_
      simp only [go_sem, e6, dInt]
      intro nx7 lv7 q1 q2 nx8 lv8 q3 q4
      refine ⟨okT_mono hokT (fun j x => q4 _ (.inr (q2 _ (p2 _ x)))), by omega, ?_⟩
      intro nx9 lv9 q5 q6
      simp only [hN, w1]
      refine ⟨by kernel_rfl, x + 1, ?_, by simp only; omega⟩
      simp only [go_sem]
      exact ⟨by simp, by omega, by rw [hts]; exact entsB_snoc hE (by rw [hent]; rfl), by rw [hts, List.all_append, hall]; simp [hsum], e2, e3, .own nx8, _, _, ⟨by rw [hts, entsF_snoc _ _ _ hE hent]; simp [dEnt], rfl⟩, rfl, q6 _ (.inl rfl)⟩
    | false =>
      rw [hall] at e7
      refine drawn (by kernel_rfl) (by kernel_rfl) ?_
      simp only [go_sem, e7, dInt, Bool.not_false]
      intro nx6 lv6 p1 p2
      refine drawnT [2, 2, 2, 2, 2, 2, 2, 2, 2, 2, 2, 2, 2, 2, 2, 2, 2, 3, 1, 1] (.alt 17 [2, 0, 0, 0, 0, 0, 0, 0, 0, 0, 0, 0, 0, 0, 0, 0, 0, 0, 3, 1] (.alt 18 [0, 0, 0, 0, 0, 0, 0, 0, 0, 0, 0, 0, 0, 0, 0, 0, 0, 0, 0, 2] .fin .nil) .nil) 82 (by kernel_rfl) (by kernel_rfl) (by kernel_rfl) (by kernel_rfl) rfl ?_
      simp only [go_sem, e6, dInt]
      intro nx7 lv7 q1 q2 nx8 lv8 q3 q4
      refine ⟨okT_mono hokT (fun j x => q4 _ (.inr (q2 _ (p2 _ x)))), by omega, ?_⟩
      intro nx9 lv9 q5 q6
      simp only [hN, w1]
      refine ⟨by kernel_rfl, x + 1, ?_, by simp only; omega⟩
      simp only [go_sem]
      exact ⟨by simp, by omega, by rw [hts]; exact entsB_snoc hE (by rw [hent]; rfl), by rw [hts, List.all_append, hall]; simp, e2, e3, .own nx8, _, _, ⟨by rw [hts, entsF_snoc _ _ _ hE hent]; simp [dEnt], rfl⟩, rfl, q6 _ (.inl rfl)⟩
  · have hlt' : ((x : Int) < ((rlines t).length : Int)) = False := eq_false (by omega)
    have hte : (linesF t).take x = linesF t := List.take_of_length_le (by omega)
    rw [hte] at hE e6
    have hok : okRows t = true := by simp [okRows, hB, hE]
    have hel := entsF_take (linesF t) (linesF t).length (by rw [List.take_length]; exact hE)
    rw [List.take_length] at hel
    cases hall : (linesF t).all sumOk with
    | false =>
      rw [hte, hall] at e7
      have hr : readL t = ([], 11) := by simp [readL, hbig, hok, hall]
      simp only [go_sem, e25, hlt', hX, e7, Bool.not_false, readLV, hr]
    | true =>
      rw [hte, hall] at e7
      simp only [go_sem, e25, hlt', hX, e7, e6, Bool.not_true]
      refine callVt (f41 _ (by omega)) ?_
      intro nx5 lv5 p1 p2
      by_cases he : errL (entsF (linesF t)) = 0
      · have hr : readL t = (entsF (linesF t), 0) := by simp [readL, hbig, hok, hall, he]
        simp only [go_sem, he, e6, readLV, hr]
      · have he' : (errL (entsF (linesF t)) = 0) = False := eq_false he
        have hr : readL t = ([], errL (entsF (linesF t))) := by simp [readL, hbig, hok, hall, he]
        simp only [go_sem, he', e6, readLV, hr]
end Go.Proofs.YtkfhieigdlfbeaaDoor
