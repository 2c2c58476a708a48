/- RunTexts: the error of a list of stocks, and its text; the program's and the reference's. -/
import Derived.Test.YtkfhieigdlfbeaaDoorV1
namespace Go.Proofs.YtkfhieigdlfbeaaDoor
set_option linter.unusedSimpArgs false
set_option linter.unusedVariables false
open Go.AB

def cStock (s : Stock) : List DV := [.str s.name, .int .i64 s.len, .int .i64 s.mass, .int .i64 s.start, .int .i64 s.power, .int .i64 s.roll, .int .i64 s.drag, .int .i64 s.brake, .int .i64 s.top, .int .i64 s.seats]
def bStock (s : Stock) : List AV := [.str s.name, .int .i64 s.len, .int .i64 s.mass, .int .i64 s.start, .int .i64 s.power, .int .i64 s.roll, .int .i64 s.drag, .int .i64 s.brake, .int .i64 s.top, .int .i64 s.seats]
def nums (s : Stock) : List Int := [s.len, s.mass, s.start, s.power, s.roll, s.drag, s.brake, s.top, s.seats]

theorem f66 (x s : Stock) : PCall Tryd.prog 66 [eStock x, .ept (cStock s)] (RV (.bool (decide (x.name = s.name)))) := by
  refine PCall.of_body Tryd.func66 rfl Tryd.ntmps66 (congrArg Array.toList Tryd.results66) ?_
  intro E
  simp only [go_sem, eStock, cStock]

/-- Where a name is the first time. -/
def firstAt (nm : List UInt8) : List Stock → Int → Int
  | [], _ => -1
  | x :: r, i => if x.name = nm then i else firstAt nm r (i + 1)
theorem firstAt_drop {nm : List UInt8} {l : List Stock} {i : Nat} {x : Stock} (h : l[i]? = some x) : firstAt nm (l.drop i) i = if x.name = nm then (i : Int) else firstAt nm (l.drop (i + 1)) ((i + 1 : Nat) : Int) := by
  obtain ⟨hi, hx⟩ := List.getElem?_eq_some_iff.1 h
  rw [List.drop_eq_getElem_cons hi, hx]
  simp [firstAt]
theorem firstAt_neg {nm : List UInt8} : ∀ (l : List Stock) (i : Int), 0 ≤ i → (0 ≤ firstAt nm l i ↔ l.any (fun x => decide (x.name = nm)) = true)
  | [], i, h => by simp [firstAt]
  | x :: r, i, h => by
    simp only [firstAt, List.any_cons, Bool.or_eq_true, decide_eq_true_eq]
    split
    · rename_i hx; simp [hx, h]
    · rename_i hx; rw [firstAt_neg r (i + 1) (by omega)]; simp [hx]

theorem f97 (l : List Stock) (s : Stock) (hl : l.length ≤ 1000000) : PCall Tryd.prog 97 [.sl 10 (l.map dStock) .no, .fn 66 [.ept (cStock s)]] (RV (.int .i64 (firstAt s.name l 0))) := by
  refine PCall.of_body Tryd.func97 rfl Tryd.ntmps97 (congrArg Array.toList Tryd.results97) ?_
  intro E
  simp only [go_sem]
  refine AW_loopH [4, 5, 8, 9, 10, 11, 12, 13, 14, 15, 16, 17, 18]
    (fun (i : Nat) ρ m => ρ 8 = .int .i64 (i : Int) ∧ i ≤ l.length ∧ firstAt s.name (l.drop i) i = firstAt s.name l 0 ∧ ∃ h nx lv, m = ⟨h, [], nx, lv⟩) (fun i => l.length - i) 0 ?_ ?_
  · simp [go_sem]
  · rintro i ρ m ⟨e8, g1, e3, h, nx, lv, rfl⟩ Q hN hR hX
    by_cases hlt : i < l.length
    · obtain ⟨x, hx⟩ : ∃ x, l[i]? = some x := ⟨_, List.getElem?_eq_getElem hlt⟩
      have hp : (l.map dStock)[i]? = some (dStock x) := by rw [List.getElem?_map, hx]; rfl
      have hlt' : ((i : Int) < (l.length : Int)) = True := by simp; omega
      have h0 : ((0 : Int) ≤ (i : Int)) = True := by simp
      have ew : IntKind.i64.wrap ((i : Int) + 1) = (i : Int) + 1 := i64_in (by omega) (by omega)
      have hd := firstAt_drop (nm := s.name) hx
      simp only [go_sem, e8, hlt', h0, hp, dStock]
      refine callV (f66 x s) ?_
      intro nx2 lv2
      by_cases q : x.name = s.name
      · rw [if_pos q] at hd
        simp only [go_sem, hR, q, ← e3, hd]
      · rw [if_neg q] at hd
        simp only [go_sem, hN, q, ew]
        refine ⟨by kernel_rfl, i + 1, ?_, by simp only; omega⟩
        simp only [go_sem]
        exact ⟨by simp, by omega, by rw [← hd, e3], _, _, _, rfl⟩
    · have hlt' : ((i : Int) < (l.length : Int)) = False := by simp; omega
      have hi : i = l.length := by omega
      have hd : l.drop i = [] := List.drop_eq_nil_of_le (by omega)
      rw [hd] at e3
      simp only [go_sem, e8, hlt', hX]
      rw [← e3]
      rfl

theorem f65 (l : List Stock) (s : Stock) (hl : l.length ≤ 1000000) : PCall Tryd.prog 65 [.sl 10 (l.map dStock) .no, .fn 66 [.ept (cStock s)]] (RV (.bool (l.any fun x => decide (x.name = s.name)))) := by
  refine PCall.of_body Tryd.func65 rfl Tryd.ntmps65 (congrArg Array.toList Tryd.results65) ?_
  intro E
  simp only [go_sem]
  refine callV (f97 l s hl) ?_
  intro nx lv
  simp only [go_sem]
  rw [Bool.eq_iff_iff, decide_eq_true_iff]
  exact firstAt_neg (nm := s.name) l 0 (Int.le_refl _)

theorem f65' {l : List Stock} {d : List DV} (s : Stock) (hl : l.length ≤ 1000000) (hd : d = l.map dStock) : PCall Tryd.prog 65 [.sl 10 d .no, .fn 66 [.ept (cStock s)]] (RV (.bool (l.any fun x => decide (x.name = s.name)))) := by
  rw [hd]; exact f65 l s hl

/-- The first value that is not 0. -/
def firstN (f : Nat → Int) : Nat → Nat → Int
  | 0, _ => 0
  | k + 1, i => if f i = 0 then firstN f k (i + 1) else f i
theorem firstN_step {f : Nat → Int} {n i : Nat} (h : i < n) : firstN f (n - i) i = if f i = 0 then firstN f (n - (i + 1)) (i + 1) else f i := by
  obtain ⟨k, hk⟩ : ∃ k, n - i = k + 1 := ⟨n - i - 1, by omega⟩
  rw [hk, show n - (i + 1) = k by omega]
  rfl
theorem firstN_end {f : Nat → Int} {n i : Nat} (h : n ≤ i) : firstN f (n - i) i = 0 := by
  rw [Nat.sub_eq_zero_of_le h]; rfl

def errAt (l : List Stock) (i : Nat) : Int := match l[i]? with
  | some s => if checkS s = 0 then (if (l.take i).any (fun x => decide (x.name = s.name)) = true then 6 else 0) else checkS s
  | none => 0
def errS (l : List Stock) : Int := if l.length ≤ 8 then firstN (errAt l) l.length 0 else 4

/-- A stock in words. -/
def line (s : Stock) : List UInt8 := [115, 116, 111, 99, 107, 32] ++ s.name ++ ((nums s).flatMap fun n => 32 :: Lib.itoa n) ++ [10]
def textS (l : List Stock) : List UInt8 := l.flatMap line
theorem textS_snoc {l : List Stock} {i : Nat} {s : Stock} (h : l[i]? = some s) : textS (l.take (i + 1)) = textS (l.take i) ++ line s := by
  rw [List.take_add_one, h]
  simp [textS]
theorem checkS_name {s : Stock} (h : checkS s = 0) : s.name.length ≤ 12 := by
  unfold checkS at h
  split at h
  · rename_i h2
    simp only [nameOk, Bool.and_eq_true, decide_eq_true_eq] at h2
    omega
  · cases h
theorem nums_big {s : Stock} (h : checkS s = 0) : big (nums s) := by
  have := checkS_ok h
  intro n hn
  simp only [nums, List.mem_cons, List.not_mem_nil, or_false] at hn
  omega
theorem flat_len : ∀ (l : List Int), big l → (l.flatMap fun n => 32 :: Lib.itoa n).length ≤ l.length * 22
  | [], _ => by simp
  | n :: r, h => by
    have h1 := Lib.itoa_length_le n (h n (by simp)).1 (h n (by simp)).2
    have h2 := flat_len r (fun x hx => h x (by simp [hx]))
    simp only [List.flatMap_cons, List.length_append, List.length_cons] at h2 ⊢
    omega
theorem line_told (s : Stock) : line s = [115, 116, 111, 99, 107, 32] ++ s.name ++ [32] ++ told (nums s) ++ [10] := by
  simp [line, told, nums, Lib.join_cons, Lib.joinTail]

set_option maxRecDepth 20000 in
set_option maxHeartbeats 4000000 in
theorem f30 (l : List Stock) (hn : ∀ s ∈ l, s.name.length ≤ 140737488351232) (hl : l.length ≤ 140737488351232) : PCall Tryd.prog 30 [.sl 10 (l.map dStock) .no] (RV (.tup [.str (if errS l = 0 then textS l else []), .int .i64 (errS l)])) := by
  refine PCall.of_body Tryd.func30 rfl Tryd.ntmps30 (congrArg Array.toList Tryd.results30) ?_
  intro E
  by_cases h8 : l.length ≤ 8
  · have h8' : ((8 : Int) < (l.length : Int)) = False := by simp; omega
    have hE : errS l = firstN (errAt l) l.length 0 := by simp [errS, h8]
    simp only [go_sem, h8']
    refine AW_loopH [2, 3, 5, 6, 7, 9, 15, 16, 17, 18, 19, 20, 21, 22, 23, 24, 25, 26, 27, 28, 29, 30, 31, 32, 33, 34, 35, 36, 37, 38, 39, 40, 41, 42, 43, 44, 45]
      (fun (i : Nat) ρ m => ρ 15 = .int .i64 (i : Int) ∧ i ≤ l.length ∧ firstN (errAt l) (l.length - i) i = errS l ∧ (textS (l.take i)).length ≤ i * 1000 ∧ ∃ h nx lv, m = ⟨h, [], nx, lv⟩ ∧ AB.hget h 4 = some (0, [.bld 108 5 (textS (l.take i))])) (fun i => l.length - i) 0 ?_ ?_
    · simp [go_sem, textS, hE]
    · rintro i ρ m ⟨e15, g1, gE, gL, h, nx, lv, rfl, hb⟩ Q hN hR hX
      by_cases hlt : i < l.length
      · obtain ⟨s, hs⟩ : ∃ s, l[i]? = some s := ⟨_, List.getElem?_eq_getElem hlt⟩
        have hp : (l.map dStock)[i]? = some (dStock s) := by rw [List.getElem?_map, hs]; rfl
        have hlt' : ((i : Int) < (l.length : Int)) = True := by simp; omega
        have h0 : ((0 : Int) ≤ (i : Int)) = True := by simp
        have hle : ((i : Int) ≤ (l.length : Int)) = True := by simp; omega
        have ew : IntKind.i64.wrap ((i : Int) + 1) = (i : Int) + 1 := i64_in (by omega) (by omega)
        have hnm := hn s (List.mem_of_getElem? hs)
        have hst := firstN_step (f := errAt l) hlt
        have hat : errAt l i = if checkS s = 0 then (if (l.take i).any (fun x => decide (x.name = s.name)) = true then 6 else 0) else checkS s := by simp [errAt, hs]
        simp only [go_sem, e15, hlt', h0, hp, dStock]
        generalize genO (AB.hget h 6) = G
        refine callV (f64 s hnm) ?_
        intro nx2 lv2
        by_cases q : checkS s = 0
        · rw [if_pos q] at hat
          simp only [go_sem, q, h0, hle]
          refine ⟨Nat.zero_le _, g1, .inl (quiet (f65' (l := l.take i) s (by rw [List.length_take]; omega) (by simp [List.map_take])) rfl ?_)⟩
          by_cases q2 : (l.take i).any (fun x => decide (x.name = s.name)) = true
          · rw [if_pos q2] at hat
            have hE6 : errS l = 6 := by rw [← gE, hst, hat]; rfl
            simp only [go_sem, q2, hR]
            exact ⟨by rw [hE6]; rfl, hE6.symm⟩
          · have q2' : (l.take i).any (fun x => decide (x.name = s.name)) = false := by simpa using q2
            rw [if_neg q2] at hat
            have hnl := checkS_name q
            have hbg := nums_big q
            simp only [go_sem, q2']
            refine ⟨by omega, .inr (effX.writeB writesB (s := textS (l.take i)) (by simp only [go_sem, hb]) (by simp) (by simp; omega) ?_)⟩
            simp only [go_sem]
            refine callV (f67 s) ?_
            intro nx3 lv3
            simp only [go_sem]
            generalize hB : textS (l.take i) ++ 115 :: 116 :: 111 :: 99 :: 107 :: 32 :: s.name = B
            have hBl : B.length ≤ i * 1000 + 20 := by
              rw [← hB]; simp only [List.length_append, List.length_cons]; omega
            refine AW_loopH [9, 36, 37, 38, 39, 40, 41, 42, 43]
              (fun (j : Nat) ρ m => ρ 36 = .int .i64 (j : Int) ∧ j ≤ 9 ∧ ∃ h nx lv, m = ⟨h, [], nx, lv⟩ ∧ AB.hget h 4 = some (0, [.bld 108 5 (B ++ ((nums s).take j).flatMap fun n => 32 :: Lib.itoa n)])) (fun j => 9 - j) 0 ?_ ?_
            · simp [go_sem]
            · rintro j ρ2 m ⟨e36, hj, h2, nx2', lv2', rfl, hb2⟩ Q2 hN2 hR2 hX2
              have w1 : IntKind.i64.wrap 1 = 1 := by rfl
              have w2 : IntKind.i64.wrap 2 = 2 := by rfl
              have w3 : IntKind.i64.wrap 3 = 3 := by rfl
              have w4 : IntKind.i64.wrap 4 = 4 := by rfl
              have w5 : IntKind.i64.wrap 5 = 5 := by rfl
              have w6 : IntKind.i64.wrap 6 = 6 := by rfl
              have w7 : IntKind.i64.wrap 7 = 7 := by rfl
              have w8 : IntKind.i64.wrap 8 = 8 := by rfl
              have w9 : IntKind.i64.wrap 9 = 9 := by rfl
              have hfl : (((nums s).take j).flatMap fun n => 32 :: Lib.itoa n).length ≤ j * 22 := by
                have := flat_len ((nums s).take j) (fun x hx => hbg x (List.mem_of_mem_take hx))
                have hx : ((nums s).take j).length ≤ j := by rw [List.length_take]; exact Nat.min_le_left _ _
                have := Nat.mul_le_mul_right 22 hx
                omega
              have hxs : j = 0 ∨ j = 1 ∨ j = 2 ∨ j = 3 ∨ j = 4 ∨ j = 5 ∨ j = 6 ∨ j = 7 ∨ j = 8 ∨ j = 9 := by omega
              rcases hxs with rfl | rfl | rfl | rfl | rfl | rfl | rfl | rfl | rfl | rfl
              · have hnb := hbg s.len (by simp [nums])
                have hil := Lib.itoa_length_le s.len hnb.1 hnb.2
                simp only [go_sem, e36]
                refine callV (f35 s.len hnb.1 hnb.2) ?_
                intro nx4 lv4
                simp only [go_sem]
                refine ⟨by omega, .inr (effX.writeB writesB (s := B ++ ((nums s).take 0).flatMap fun n => 32 :: Lib.itoa n) (by simp only [go_sem, hb2]) (by simp) (by simp only [List.length_append, List.length_cons] at *; omega) ?_)⟩
                simp only [go_sem, hN2, w1, w2, w3, w4, w5, w6, w7, w8, w9]
                refine ⟨by kernel_rfl, 1, ?_, by simp only; omega⟩
                simp only [go_sem]
                refine ⟨_, _, _, rfl, ?_⟩
                simp [nums, AB.hget_set_self]
              · have hnb := hbg s.mass (by simp [nums])
                have hil := Lib.itoa_length_le s.mass hnb.1 hnb.2
                simp only [go_sem, e36]
                refine callV (f35 s.mass hnb.1 hnb.2) ?_
                intro nx4 lv4
                simp only [go_sem]
                refine ⟨by omega, .inr (effX.writeB writesB (s := B ++ ((nums s).take 1).flatMap fun n => 32 :: Lib.itoa n) (by simp only [go_sem, hb2]) (by simp) (by simp only [List.length_append, List.length_cons] at *; omega) ?_)⟩
                simp only [go_sem, hN2, w1, w2, w3, w4, w5, w6, w7, w8, w9]
                refine ⟨by kernel_rfl, 2, ?_, by simp only; omega⟩
                simp only [go_sem]
                refine ⟨_, _, _, rfl, ?_⟩
                simp [nums, AB.hget_set_self]
              · have hnb := hbg s.start (by simp [nums])
                have hil := Lib.itoa_length_le s.start hnb.1 hnb.2
                simp only [go_sem, e36]
                refine callV (f35 s.start hnb.1 hnb.2) ?_
                intro nx4 lv4
                simp only [go_sem]
                refine ⟨by omega, .inr (effX.writeB writesB (s := B ++ ((nums s).take 2).flatMap fun n => 32 :: Lib.itoa n) (by simp only [go_sem, hb2]) (by simp) (by simp only [List.length_append, List.length_cons] at *; omega) ?_)⟩
                simp only [go_sem, hN2, w1, w2, w3, w4, w5, w6, w7, w8, w9]
                refine ⟨by kernel_rfl, 3, ?_, by simp only; omega⟩
                simp only [go_sem]
                refine ⟨_, _, _, rfl, ?_⟩
                simp [nums, AB.hget_set_self]
              · have hnb := hbg s.power (by simp [nums])
                have hil := Lib.itoa_length_le s.power hnb.1 hnb.2
                simp only [go_sem, e36]
                refine callV (f35 s.power hnb.1 hnb.2) ?_
                intro nx4 lv4
                simp only [go_sem]
                refine ⟨by omega, .inr (effX.writeB writesB (s := B ++ ((nums s).take 3).flatMap fun n => 32 :: Lib.itoa n) (by simp only [go_sem, hb2]) (by simp) (by simp only [List.length_append, List.length_cons] at *; omega) ?_)⟩
                simp only [go_sem, hN2, w1, w2, w3, w4, w5, w6, w7, w8, w9]
                refine ⟨by kernel_rfl, 4, ?_, by simp only; omega⟩
                simp only [go_sem]
                refine ⟨_, _, _, rfl, ?_⟩
                simp [nums, AB.hget_set_self]
              · have hnb := hbg s.roll (by simp [nums])
                have hil := Lib.itoa_length_le s.roll hnb.1 hnb.2
                simp only [go_sem, e36]
                refine callV (f35 s.roll hnb.1 hnb.2) ?_
                intro nx4 lv4
                simp only [go_sem]
                refine ⟨by omega, .inr (effX.writeB writesB (s := B ++ ((nums s).take 4).flatMap fun n => 32 :: Lib.itoa n) (by simp only [go_sem, hb2]) (by simp) (by simp only [List.length_append, List.length_cons] at *; omega) ?_)⟩
                simp only [go_sem, hN2, w1, w2, w3, w4, w5, w6, w7, w8, w9]
                refine ⟨by kernel_rfl, 5, ?_, by simp only; omega⟩
                simp only [go_sem]
                refine ⟨_, _, _, rfl, ?_⟩
                simp [nums, AB.hget_set_self]
              · have hnb := hbg s.drag (by simp [nums])
                have hil := Lib.itoa_length_le s.drag hnb.1 hnb.2
                simp only [go_sem, e36]
                refine callV (f35 s.drag hnb.1 hnb.2) ?_
                intro nx4 lv4
                simp only [go_sem]
                refine ⟨by omega, .inr (effX.writeB writesB (s := B ++ ((nums s).take 5).flatMap fun n => 32 :: Lib.itoa n) (by simp only [go_sem, hb2]) (by simp) (by simp only [List.length_append, List.length_cons] at *; omega) ?_)⟩
                simp only [go_sem, hN2, w1, w2, w3, w4, w5, w6, w7, w8, w9]
                refine ⟨by kernel_rfl, 6, ?_, by simp only; omega⟩
                simp only [go_sem]
                refine ⟨_, _, _, rfl, ?_⟩
                simp [nums, AB.hget_set_self]
              · have hnb := hbg s.brake (by simp [nums])
                have hil := Lib.itoa_length_le s.brake hnb.1 hnb.2
                simp only [go_sem, e36]
                refine callV (f35 s.brake hnb.1 hnb.2) ?_
                intro nx4 lv4
                simp only [go_sem]
                refine ⟨by omega, .inr (effX.writeB writesB (s := B ++ ((nums s).take 6).flatMap fun n => 32 :: Lib.itoa n) (by simp only [go_sem, hb2]) (by simp) (by simp only [List.length_append, List.length_cons] at *; omega) ?_)⟩
                simp only [go_sem, hN2, w1, w2, w3, w4, w5, w6, w7, w8, w9]
                refine ⟨by kernel_rfl, 7, ?_, by simp only; omega⟩
                simp only [go_sem]
                refine ⟨_, _, _, rfl, ?_⟩
                simp [nums, AB.hget_set_self]
              · have hnb := hbg s.top (by simp [nums])
                have hil := Lib.itoa_length_le s.top hnb.1 hnb.2
                simp only [go_sem, e36]
                refine callV (f35 s.top hnb.1 hnb.2) ?_
                intro nx4 lv4
                simp only [go_sem]
                refine ⟨by omega, .inr (effX.writeB writesB (s := B ++ ((nums s).take 7).flatMap fun n => 32 :: Lib.itoa n) (by simp only [go_sem, hb2]) (by simp) (by simp only [List.length_append, List.length_cons] at *; omega) ?_)⟩
                simp only [go_sem, hN2, w1, w2, w3, w4, w5, w6, w7, w8, w9]
                refine ⟨by kernel_rfl, 8, ?_, by simp only; omega⟩
                simp only [go_sem]
                refine ⟨_, _, _, rfl, ?_⟩
                simp [nums, AB.hget_set_self]
              · have hnb := hbg s.seats (by simp [nums])
                have hil := Lib.itoa_length_le s.seats hnb.1 hnb.2
                simp only [go_sem, e36]
                refine callV (f35 s.seats hnb.1 hnb.2) ?_
                intro nx4 lv4
                simp only [go_sem]
                refine ⟨by omega, .inr (effX.writeB writesB (s := B ++ ((nums s).take 8).flatMap fun n => 32 :: Lib.itoa n) (by simp only [go_sem, hb2]) (by simp) (by simp only [List.length_append, List.length_cons] at *; omega) ?_)⟩
                simp only [go_sem, hN2, w1, w2, w3, w4, w5, w6, w7, w8, w9]
                refine ⟨by kernel_rfl, 9, ?_, by simp only; omega⟩
                simp only [go_sem]
                refine ⟨_, _, _, rfl, ?_⟩
                simp [nums, AB.hget_set_self]
              · have ht : (nums s).take 9 = nums s := rfl
                rw [ht] at hb2
                simp only [go_sem, e36, hX2]
                have hfl9 : ((nums s).flatMap fun n => 32 :: Lib.itoa n).length ≤ 9 * 22 := by simpa [nums] using hfl
                refine .inr (effX.writeB writesB (s := B ++ (nums s).flatMap fun n => 32 :: Lib.itoa n) (by simp only [go_sem, hb2]) (by simp) (by simp only [List.length_append, List.length_cons, List.length_nil]; omega) ?_)
                have hts := textS_snoc hs
                have hli : textS (l.take i) ++ line s = B ++ ((nums s).flatMap fun n => 32 :: Lib.itoa n) ++ [10] := by
                  rw [← hB, line]; simp
                rw [hli] at hts
                simp only [go_sem, hN, ew]
                refine ⟨by kernel_rfl, i + 1, ?_, by simp only; omega⟩
                simp only [go_sem]
                refine ⟨by simp, by omega, by rw [← gE, hst, hat]; rfl, ?_, _, _, _, rfl, ?_⟩
                · rw [hts]; simp only [List.length_append, List.length_cons, List.length_nil]; omega
                · rw [hts]; simp [AB.hget_set_self]
        · rw [if_neg q] at hat
          have hEq : errS l = checkS s := by rw [← gE, hst, hat, if_neg q]
          have hq' : (checkS s = 0) = False := by simp [q]
          simp only [go_sem, hq', hR]
          exact ⟨by rw [hEq, if_neg q], hEq.symm⟩
      · have hlt' : ((i : Int) < (l.length : Int)) = False := by simp; omega
        have hi : i = l.length := by omega
        rw [firstN_end (by omega)] at gE
        have ht : l.take i = l := List.take_of_length_le (by omega)
        rw [ht] at hb
        simp only [go_sem, e15, hlt', hX]
        refine .inr (effX.readB readsB (s := textS l) (by simp only [go_sem, hb]) ?_)
        simp only [go_sem]
        rw [← gE]
        exact ⟨rfl, rfl⟩
  · have h8' : ((8 : Int) < (l.length : Int)) = True := by simp; omega
    have hE : errS l = 4 := by simp [errS, h8]
    simp only [go_sem, h8', hE]
end Go.Proofs.YtkfhieigdlfbeaaDoor
