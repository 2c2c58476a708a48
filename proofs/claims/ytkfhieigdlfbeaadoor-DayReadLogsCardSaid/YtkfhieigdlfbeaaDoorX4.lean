/- DayReadLogs: reading a log, the program's. -/
import Derived.Test.YtkfhieigdlfbeaaDoorX3
import Derived.Test.YtkfhieigdlfbeaaDoorW2
import Derived.Test.YtkfhieigdlfbeaaDoorB140
namespace Go.Proofs.YtkfhieigdlfbeaaDoor
open Go.AB
set_option linter.unusedSimpArgs false
set_option linter.unusedVariables false

/-- Whether a line's checksum fits. -/
def sumOk (ws : List (List UInt8)) : Bool := decide (Lib.itoa (sums 65535 (Lib.join (ws.take 5) [32]) : Nat) = ws.getD 5 [])
def readL (t : List UInt8) : List Ent × Int :=
  if 2000000 < t.length then ([], 4)
  else if okRows t = false then ([], 10)
  else if (linesF t).all sumOk = false then ([], 11)
  else if errL (entsF (linesF t)) ≠ 0 then ([], errL (entsF (linesF t)))
  else (entsF (linesF t), 0)
def readLV (t : List UInt8) : AV := .tup [.sl 5 ((readL t).1.map dEnt) .no, .int .i64 (readL t).2]

theorem numsF_len : ∀ (ws : List (List UInt8)) (l : List Int), numsF ws = some l → l.length = ws.length
  | [], l, h => by cases h; rfl
  | w :: r, l, h => by
    unfold numsF at h
    split at h
    · cases h
    · split at h
      · cases h
      · rename_i l' hl'
        cases h
        simp [numsF_len r l' hl']
theorem six {ws : List (List UInt8)} (h : (entW ws).isSome = true) : ∃ a b c d e f, ws = [a, b, c, d, e, f] := by
  unfold entW entN at h
  split at h
  · rename_i hn
    have := numsF_len _ _ hn
    match ws, this with
    | [a, b, c, d, e, f], _ => exact ⟨a, b, c, d, e, f, rfl⟩
  · cases h

set_option maxHeartbeats 4000000 in
set_option maxRecDepth 20000 in
theorem f14 (t : List UInt8) (ht : t.length ≤ 140737488351232) : PCall Tryd.prog 14 [.str t] (RV (readLV t)) := by
  refine PCall.of_bodyE Tryd.func14 rfl Tryd.ntmps14 (congrArg Array.toList Tryd.results14) ?_
  intro E
  by_cases hbig : 2000000 < t.length
  · have hb' : ((2000000 : Int) < (t.length : Int)) = True := eq_true (by omega)
    have hr : readL t = ([], 4) := by simp [readL, hbig]
    simp only [go_sem, hb', readLV, hr]
  have hb' : ((2000000 : Int) < (t.length : Int)) = False := eq_false (by omega)
  simp only [go_sem, hb']
  refine .inr (effH [.own 5 0, .own 4 0] (css := [[.sl 1 [] .nil], [.sl 5 [] .nil]]) (ds := [[.sl 1 [] .nil], [.sl 5 [] .nil]]) rfl rfl rfl (IdxOk.two (by simp)) (f33 t (by omega) _ _ rfl rfl _ _) ?_)
  rintro m' r ⟨rfl, h, rows, ents, t5, t4, nx', lv', rfl, hk⟩
  by_cases hok : okRows t = true
  rotate_left
  · have hok' : okRows t = false := by simpa using hok
    refine ⟨_, _, rfl, rfl, rfl, ?_⟩
    have hr : readL t = ([], 10) := by simp [readL, hbig, hok']
    simp only [go_sem, hok', if_false, readLV, hr]
  · obtain ⟨rfl, rfl, hT⟩ := hk hok
    refine ⟨_, _, rfl, rfl, rfl, ?_⟩
    have hsa : ∀ (nx : Nat) (lv : Nat → Prop) (a b : List AV), (⟨[(4, 0, [.sl 5 [] .nil]), (5, 0, [.sl 1 [] .nil])], [], nx, lv⟩ : AH).setAll [.own 5 0, .own 4 0] [a, b] = ⟨[(4, 0, b), (5, 0, a)], [], nx, lv⟩ := fun _ _ _ _ => rfl
    simp only [go_sem, hok, if_true, hsa]
    obtain ⟨hb, hE⟩ : linesB t = true ∧ entsB (linesF t) = true := by simpa [okRows] using hok
    obtain ⟨ls1, ls2⟩ := linesF_by (t := t) (by omega)
    refine AW_loopH [2, 3, 8, 21, 22, 23, 24, 25, 26, 27, 28, 29, 30, 31, 32, 33, 34, 35] (fun (x : Nat) ρ m => ρ 21 = .int .i64 (x : Int) ∧ x ≤ (linesF t).length ∧ ((linesF t).take x).all sumOk = true ∧ ρ 2 = .sl 5 [] .nil ∧ ρ 3 = .int .i64 0 ∧ ∃ h nx lv, m = ⟨h, [], nx, lv⟩ ∧ AB.hget h 4 = some (0, [.sl 5 ((entsF (linesF t)).map dEnt) t4]) ∧ okT m t4) (fun x => (linesF t).length - x) 0 ?_ ?_
    · simp only [go_sem]
      refine ⟨Nat.zero_le _, _, _, _, rfl, rfl, ?_⟩
      exact hT.2.1
    rintro x ρ m ⟨e21, hx, hS, e2, e3, h, nx3, lv3, rfl, h4, hT4⟩ Q' hN hR hX
    by_cases hlt : x < (linesF t).length
    · have hlt' : ((x : Int) < ((linesF t).length : Int)) = True := eq_true (by omega)
      have h00 : ((0 : Int) ≤ (x : Int)) = True := by simp
      have w1 : IntKind.i64.wrap ((x : Int) + 1) = (x : Int) + 1 := i64_in (by omega) (by omega)
      obtain ⟨ws, hws⟩ : ∃ ws, (linesF t)[x]? = some ws := ⟨_, List.getElem?_eq_getElem hlt⟩
      have hwm := List.mem_of_getElem? hws
      obtain ⟨b1, b2⟩ := ls2 ws hwm
      have hts : (linesF t).take (x + 1) = (linesF t).take x ++ [ws] := by rw [List.take_add_one, hws]; rfl
      obtain ⟨w0, w1', w2, w3, w4, w5, rfl⟩ := six (List.all_eq_true.1 hE ws hwm)
      simp only [go_sem, e21, hlt', h00, hws, dWords, List.map_cons, List.map_nil]
      have v0 := b2 w0 (by simp)
      have v1 := b2 w1' (by simp)
      have v2 := b2 w2 (by simp)
      have v3 := b2 w3 (by simp)
      have v4 := b2 w4 (by simp)
      have hjl : (Lib.join [w0, w1', w2, w3, w4] [32]).length ≤ 10000004 := by
        simp only [Lib.join_cons, Lib.joinTail, List.map_cons, List.map_nil, List.flatten_cons, List.flatten_nil, List.length_append, List.length_cons, List.length_nil]
        omega
      have hsl := sums_lt (Lib.join [w0, w1', w2, w3, w4] [32]) 65535 (by omega)
      refine drawn (by kernel_rfl) (by kernel_rfl) ?_
      simp only [go_sem]
      refine quietD (f37 [w0, w1', w2, w3, w4] [32] (by simp) (by simp) (by omega) .no rfl) (fun _ => rfl) ?_
      simp only [go_sem]
      refine ⟨by omega, ?_⟩
      refine quietD (f36 (Lib.join [w0, w1', w2, w3, w4] [32]) (by omega)) (fun _ => rfl) ?_
      simp only [go_sem]
      refine quietD (f35 _ (by omega) (by omega)) (fun _ => rfl) ?_
      simp only [go_sem]
      intro nx4 lv4 g3 g4
      refine ⟨fun hq => ?_, fun hq => ?_⟩
      · have hall : (linesF t).all sumOk = false := List.all_eq_false.2 ⟨_, hwm, by simp [sumOk, hq]⟩
        have hr : readL t = ([], 11) := by simp [readL, hbig, hok, hall]
        simp only [go_sem, hR, readLV, hr]
      · have hso : sumOk [w0, w1', w2, w3, w4, w5] = true := by simp [sumOk, hq]
        simp only [hN, w1]
        refine ⟨by kernel_rfl, x + 1, ?_, by simp only; omega⟩
        simp only [go_sem]
        exact ⟨by simp, by omega, by rw [hts, List.all_append, hS]; simp [hso], e2, e3, h, _, _, rfl, h4, okT_mono hT4 (fun j x => g4 _ x)⟩
    · have hlt' : ((x : Int) < ((linesF t).length : Int)) = False := eq_false (by omega)
      have hte : (linesF t).take x = linesF t := List.take_of_length_le (by omega)
      rw [hte] at hS
      have hel := entsF_take (linesF t) (linesF t).length (by rw [List.take_length]; exact hE)
      rw [List.take_length] at hel
      simp only [go_sem, e21, hlt', hX, h4]
      refine callVt (f38 _ (by omega)) ?_
      intro nx5 lv5 p1 p2
      by_cases he : errL (entsF (linesF t)) = 0
      · have hr : readL t = (entsF (linesF t), 0) := by simp [readL, hbig, hok, hS, he]
        simp only [go_sem, he, h4, readLV, hr]
      · have he' : (errL (entsF (linesF t)) = 0) = False := eq_false he
        have hr : readL t = ([], errL (entsF (linesF t))) := by simp [readL, hbig, hok, hS, he]
        simp only [go_sem, he', h4, readLV, hr]
end Go.Proofs.YtkfhieigdlfbeaaDoor
