/- DayLogs: the text of a log, the program's and the reference's; the law. -/
import Derived.Test.YtalneemgdjkcdaaDoorD2
namespace Go.Proofs.YtalneemgdjkcdaaDoor
open Go.AB Go.RowKit
set_option linter.unusedSimpArgs false
set_option linter.unusedVariables false

def sayE (e : Ent) : List UInt8 := told e.nums
def lineE (e : Ent) : List UInt8 := sayE e ++ 32 :: Lib.itoa (sums 65535 (sayE e) : Nat) ++ [10]
def textE (l : List Ent) : List UInt8 := l.flatMap lineE
theorem textE_snoc {l : List Ent} {i : Nat} {e : Ent} (h : l[i]? = some e) : textE (l.take (i + 1)) = textE (l.take i) ++ lineE e := by
  rw [List.take_add_one, h]; simp [textE]
theorem sayE_flat (e : Ent) : Lib.itoa e.sec ++ flatN [e.set, e.kind, e.a, e.b] = sayE e := by
  simp [sayE, Ent.nums, told, flatN, Lib.join_cons, Lib.joinTail]
theorem okE_big {e : Ent} (h : okE e = true) : big e.nums := by
  simp only [okE, Bool.and_eq_true, within_iff] at h
  intro n hn
  simp only [Ent.nums, List.mem_cons, List.not_mem_nil, or_false] at hn
  omega
theorem errL_ok {l : List Ent} (h : errL l = 0) : l.length ≤ 20000 ∧ ∀ e ∈ l, okE e = true := by
  unfold errL at h
  split at h
  · rename_i h8
    refine ⟨h8, fun e he => ?_⟩
    obtain ⟨i, hi⟩ := List.getElem?_of_mem he
    have key : ∀ k j, firstN (errE l) k j = 0 → ∀ x, j ≤ x → x < j + k → errE l x = 0 := by
      intro k
      induction k with
      | zero => intro j _ x h1 h2; omega
      | succ k ih =>
        intro j hj x h1 h2
        simp only [firstN] at hj
        split at hj
        · rename_i h0
          by_cases hx : x = j
          · rw [hx]; exact h0
          · exact ih (j + 1) hj x (by omega) (by omega)
        · rename_i h0; exact absurd hj h0
    have := key _ _ h i (Nat.zero_le _) (by have := (List.getElem?_eq_some_iff.1 hi).1; omega)
    simp only [errE, hi] at this
    split at this
    · assumption
    · cases this
  · cases h
theorem say_len {e : Ent} (h : okE e = true) : (sayE e).length ≤ 110 := by
  have := told_len e.nums (okE_big h)
  simpa [sayE, Ent.nums] using this
theorem sum_big (s : List UInt8) : big [((sums 65535 s : Nat) : Int)] := by
  have := sums_lt s 65535 (by decide)
  intro n hn
  simp only [List.mem_cons, List.not_mem_nil, or_false] at hn
  omega

set_option maxRecDepth 20000 in
set_option maxHeartbeats 4000000 in
theorem f13 (l : List Ent) (hl : l.length ≤ 140737488351232) : PCall Tryd.prog 13 [.sl 5 (l.map dEnt) .no] (RV (.tup [.str (if errL l = 0 then textE l else []), .int .i64 (errL l)])) := by
  refine PCall.of_body Tryd.func13 rfl Tryd.ntmps13 (congrArg Array.toList Tryd.results13) ?_
  intro E
  simp only [go_sem]
  refine callV (f28 l hl) ?_
  intro nx lv
  by_cases h : errL l = 0
  · obtain ⟨h1, h2⟩ := errL_ok h
    simp only [go_sem, h]
    refine AW_loopH [7, 8, 16, 17, 18, 19, 20, 21, 22, 23, 24, 25, 26, 27, 28, 29, 30, 31, 32, 33, 34, 35, 36, 37, 38, 39, 40, 41]
      (fun (i : Nat) ρ m => ρ 16 = .int .i64 (i : Int) ∧ i ≤ l.length ∧ (textE (l.take i)).length ≤ i * 1000 ∧ ∃ h nx lv, m = ⟨h, [], nx, lv⟩ ∧ AB.hget h 5 = some (0, [.bld 47 5 (textE (l.take i))])) (fun i => l.length - i) 0 ?_ ?_
    · simp [go_sem, textE]
    · rintro i ρ m ⟨e16, g1, gL, h, nx, lv, rfl, hb⟩ Q hN hR hX
      by_cases hlt : i < l.length
      · obtain ⟨e, he⟩ : ∃ e, l[i]? = some e := ⟨_, List.getElem?_eq_getElem hlt⟩
        have hp : (l.map dEnt)[i]? = some (dEnt e) := by rw [List.getElem?_map, he]; rfl
        have hlt' : ((i : Int) < (l.length : Int)) = True := by simp; omega
        have h0 : ((0 : Int) ≤ (i : Int)) = True := by simp
        have ew : IntKind.i64.wrap ((i : Int) + 1) = (i : Int) + 1 := i64_in (by omega) (by omega)
        have hok := h2 e (List.mem_of_getElem? he)
        have hbg := okE_big hok
        have hsl := say_len hok
        have hsb := sum_big (sayE e)
        have hts := textE_snoc he
        have hse := sayE_flat e
        have hb4 : big [e.set, e.kind, e.a, e.b] := fun n hn => hbg n (List.mem_cons_of_mem _ hn)
        have hbs := hbg e.sec (by simp [Ent.nums])
        have hil := Lib.itoa_length_le e.sec hbs.1 hbs.2
        have h29 : PCall Tryd.prog 29 [.str (Lib.itoa e.sec), .sl 1 [.int .i64 e.set, .int .i64 e.kind, .int .i64 e.a, .int .i64 e.b] .no] (RV (.str (sayE e))) := by
          have := f29 (Lib.itoa e.sec) [e.set, e.kind, e.a, e.b] (by omega) (by simp) hb4
          rw [hse] at this
          exact this
        have h30 : PCall Tryd.prog 30 [.sl 1 ((sayE e).map byteD) .no] (RV (.int .i64 (sums 65535 (sayE e) : Nat))) := f30 (sayE e) (by omega)
        have h29' : PCall Tryd.prog 29 [.str (sayE e), .sl 1 [.int .i64 (sums 65535 (sayE e) : Nat)] .no] (RV (.str (sayE e ++ 32 :: Lib.itoa (sums 65535 (sayE e) : Nat)))) := by
          have := f29 (sayE e) [((sums 65535 (sayE e) : Nat) : Int)] (by omega) (by simp) hsb
          simpa [flatN] using this
        simp only [go_sem, e16, hlt', h0, hp, dEnt]
        generalize genO (AB.hget h 7) = G
        refine drawnT [2, 2, 2, 2, 2, 2, 2, 2, 2, 2, 2, 3, 1, 1] (.alt 11 [2, 2, 2, 0, 0, 0, 0, 0, 0, 0, 0, 0, 3, 1] (.alt 12 [0, 0, 0, 0, 0, 0, 0, 0, 0, 0, 0, 0, 0, 2] .fin .nil) .nil) 43 (by kernel_rfl) (by kernel_rfl) (by kernel_rfl) (by kernel_rfl) rfl ?_
        simp only [go_sem]
        repeat first
          | (refine quietD (f22 e.sec hbs.1 hbs.2) (fun _ => rfl) ?_; simp only [go_sem])
          | (intro _ _ _ _)
        refine callV h29 ?_
        intro nx3 lv3
        simp only [go_sem]
        intro nx4 lv4 _ _
        refine ⟨by omega, callV h30 ?_⟩
        intro nx5 lv5
        simp only [go_sem]
        refine callV h29' ?_
        intro nx6 lv6
        have hi2 := Lib.itoa_length_le ((sums 65535 (sayE e) : Nat) : Int) (hsb _ (by simp)).1 (hsb _ (by simp)).2
        have hll : (lineE e).length ≤ 200 := by
          simp only [lineE, List.length_append, List.length_cons, List.length_nil]; omega
        simp only [go_sem]
        refine ⟨by simp only [List.length_append, List.length_cons]; omega, .inr (effX.writeB writesB (s := textE (l.take i)) (x := lineE e) (by simp only [go_sem, hb]) (by simp [lineE]) (by omega) ?_)⟩
        simp only [go_sem, hN, ew]
        refine ⟨by kernel_rfl, i + 1, ?_, by simp only; omega⟩
        simp only [go_sem]
        refine ⟨by simp, by omega, ?_, _, _, _, rfl, ?_⟩
        · rw [hts]; simp only [List.length_append]; omega
        · rw [hts]; simp [AB.hget_set_self]
      · have hlt' : ((i : Int) < (l.length : Int)) = False := by simp; omega
        have ht : l.take i = l := List.take_of_length_le (by omega)
        rw [ht] at hb
        simp only [go_sem, e16, hlt', hX]
        refine .inr (effX.readB readsB (s := textE l) (by simp only [go_sem, hb]) ?_)
        simp only [go_sem]
  · have h' : (errL l = 0) = False := by simp [h]
    simp only [go_sem, h']

theorem f27n (sep : List UInt8) : PCall Tryd.prog 27 [.sl 1 [] .no, .str sep] (RV (.str [])) := by
  refine PCall.of_calls rfl ?_
  intro st w vs hl hst hrep
  obtain ⟨e1, e2⟩ := hrep
  match vs, e1 with
  | [v, u], _ =>
    have h1 := e2 0 _ v rfl rfl
    have h2 := e2 1 _ u rfl rfl
    cases h2
    cases h1 with
    | sl _ _ _ A c hs _ =>
      refine (Tryd.strings_Join_none A c ⟨sep.toArray⟩ w).mono ?_
      rintro e w' ⟨rfl, rfl⟩
      exact ⟨_, rfl, Below.refl _ _, fun G => .str _⟩
theorem join_nil (xs : List (List UInt8)) : Lib.join xs [] = xs.flatten := by
  cases xs with
  | nil => rfl
  | cons x r => rw [Lib.join_cons]; simp [Lib.joinTail]
theorem textE_flat (l : List Ent) : textE l = (l.map lineE).flatten := by simp [textE, List.flatMap_def]
theorem textE_len {l : List Ent} (h : ∀ e ∈ l, (lineE e).length ≤ 200) : (textE l).length ≤ l.length * 200 := by
  induction l with
  | nil => simp [textE]
  | cons e r ih =>
    have := h e (by simp)
    have := ih (fun x hx => h x (by simp [hx]))
    simp only [textE, List.flatMap_cons, List.length_append, List.length_cons] at *
    omega
theorem line_len {e : Ent} (hok : okE e = true) : (lineE e).length ≤ 200 := by
  have hsl := say_len hok
  have hsb := sum_big (sayE e)
  have hi2 := Lib.itoa_length_le ((sums 65535 (sayE e) : Nat) : Int) (hsb _ (by simp)).1 (hsb _ (by simp)).2
  simp only [lineE, List.length_append, List.length_cons, List.length_nil]; omega

theorem f27' {d : List DV} {l : List Ent} (hd : d = (l.map lineE).map DV.str) (hl : l.length ≤ 20000) (hc : ∀ e ∈ l, okE e = true) : PCall Tryd.prog 27 [.sl 1 d .no, .str []] (RV (.str (textE l))) := by
  subst hd
  cases l with
  | nil => exact f27n []
  | cons e r =>
    have hle := textE_len (l := e :: r) (fun x hx => line_len (hc x hx))
    have hj : Lib.join ((e :: r).map lineE) [] = textE (e :: r) := by rw [join_nil, textE_flat]
    have := f27 ((e :: r).map lineE) [] (by simp) (by simp at hl ⊢; omega) (by rw [hj]; omega) .no rfl
    rw [hj] at this
    exact this

set_option maxRecDepth 20000 in
set_option maxHeartbeats 4000000 in
theorem f16 (l : List Ent) (hl : l.length ≤ 20000) (hc : ∀ e ∈ l, okE e = true) : PCall Tryd.prog 16 [.sl 5 (l.map dEnt) .no] (RV (.str (textE l))) := by
  refine PCall.of_body Tryd.func16 rfl Tryd.ntmps16 (congrArg Array.toList Tryd.results16) ?_
  intro E
  simp only [go_sem]
  refine AW_loopH [3, 5, 6, 9, 10, 11, 12, 13, 14, 15, 16, 17, 18, 19, 20, 21, 22, 23, 24, 25, 26, 27, 28, 29, 30, 31, 32, 33, 34, 35, 36, 37]
    (fun (i : Nat) ρ m => ρ 9 = .int .i64 (i : Int) ∧ i ≤ l.length ∧ (∃ tok, ρ 3 = .sl 1 (((l.take i).map lineE).map DV.str) tok ∧ okT m tok) ∧ ∃ h nx lv, m = ⟨h, [], nx, lv⟩) (fun i => l.length - i) 0 ?_ ?_
  · simp [go_sem]
  · rintro i ρ m ⟨e9, g1, ⟨tok, e3, hok⟩, h, nx, lv, rfl⟩ Q hN hR hX
    by_cases hlt : i < l.length
    · obtain ⟨e, he⟩ : ∃ e, l[i]? = some e := ⟨_, List.getElem?_eq_getElem hlt⟩
      have hp : (l.map dEnt)[i]? = some (dEnt e) := by rw [List.getElem?_map, he]; rfl
      have hlt' : ((i : Int) < (l.length : Int)) = True := by simp; omega
      have h0 : ((0 : Int) ≤ (i : Int)) = True := by simp
      have ew : IntKind.i64.wrap ((i : Int) + 1) = (i : Int) + 1 := i64_in (by omega) (by omega)
      have hek := hc e (List.mem_of_getElem? he)
      have hbg := okE_big hek
      have hsl := say_len hek
      have hsb := sum_big (sayE e)
      have hts : ((l.take (i + 1)).map lineE).map DV.str = ((l.take i).map lineE).map DV.str ++ [.str (lineE e)] := by rw [List.take_add_one, he]; simp
      have hlen : (((l.take i).map lineE).map DV.str).length = i := by simp; omega
      have hi2 := Lib.itoa_length_le ((sums 65535 (sayE e) : Nat) : Int) (hsb _ (by simp)).1 (hsb _ (by simp)).2
      have h25 : PCall Tryd.prog 25 [.sl 1 [.int .i64 e.sec, .int .i64 e.set, .int .i64 e.kind, .int .i64 e.a, .int .i64 e.b] .no] (RV (.str (sayE e))) := f25 e.nums (by simp [Ent.nums]) hbg
      have h32 : PCall Tryd.prog 32 [.sl 1 ((sayE e).map byteD) .no] (RV (.int .i64 (sums 65535 (sayE e) : Nat))) := f32 (sayE e) (by omega)
      have h25' : PCall Tryd.prog 25 [.sl 1 [.int .i64 (sums 65535 (sayE e) : Nat)] .no] (RV (.str (Lib.itoa (sums 65535 (sayE e) : Nat)))) := by
        have := f25 [((sums 65535 (sayE e) : Nat) : Int)] (by simp) hsb
        simpa [told, Lib.join_one] using this
      simp only [go_sem, e9, e3, hlt', h0, hp, dEnt]
      generalize genO (AB.hget h 5) = G
      refine callVt h25 ?_
      intro nx2 lv2 _ hl2
      simp only [go_sem]
      refine ⟨by omega, by omega, callVt h32 ?_⟩
      intro nx3 lv3 _ hl3
      simp only [go_sem]
      refine callVt h25' ?_
      intro nx4 lv4 _ hl4
      simp only [go_sem, hN, ew]
      refine ⟨by simp only [List.length_append, List.length_cons, List.length_nil]; omega, by simp only [List.length_append, List.length_cons, List.length_nil]; omega, okT_mono hok (fun j x => .inr (hl4 j (.inr (hl3 j (hl2 j (.inr x)))))), by rw [List.length_take]; omega, by kernel_rfl, i + 1, ?_, by simp only; omega⟩
      simp only [go_sem]
      refine ⟨by simp, by omega, ⟨_, ⟨?_, rfl⟩, .inl rfl⟩, _, _, _, rfl⟩
      rw [hts]
      simp [lineE]
    · have hlt' : ((i : Int) < (l.length : Int)) = False := by simp; omega
      rw [List.take_of_length_le (by omega)] at e3
      simp only [go_sem, e9, hlt', hX, e3]
      refine callV (f27' rfl hl hc) ?_
      intro nx2 lv2
      simp only [go_sem]

set_option maxRecDepth 20000 in
theorem f5 (l : List Ent) (hl : l.length * 40 ≤ 140737488351232) : PCall Tryd.prog 5 [.sl 5 (l.map dEnt) .no] (RV (.bool true)) := by
  refine PCall.of_body Tryd.func5 rfl Tryd.ntmps5 (congrArg Array.toList Tryd.results5) ?_
  intro E
  simp only [go_sem]
  refine callV (f13 l (by omega)) ?_
  intro nx lv
  simp only [go_sem]
  refine callV (f15 l hl) ?_
  intro nx lv
  simp only [go_sem]
  refine callV (f14 l (by omega)) ?_
  intro nx lv
  by_cases h : errL l = 0
  · obtain ⟨h1, h2⟩ := errL_ok h
    simp only [go_sem, h]
    refine callV (f15 l hl) ?_
    intro nx lv
    simp only [go_sem]
    refine callV (f16 l h1 h2) ?_
    intro nx lv
    simp only [go_sem]
  · have h' : (errL l = 0) = False := by simp [h]
    simp only [go_sem, h']

theorem openEnt {x : DV} (h : ElD Tryd.prog 70 x) : ∃ e : Ent, x = dEnt e := by
  obtain ⟨ns, h1, rfl, _⟩ := h.ints 4 (n := 5) (by kernel_rfl) (by kernel_rfl)
  match ns, h1 with
  | [a, b, c, d, e], _ => exact ⟨⟨a, b, c, d, e⟩, rfl⟩

theorem law5 (xs : List DV) (h : ElDs Tryd.prog [37] xs) : PCall Tryd.prog 5 (xs.map toAV) (RV (.bool true)) := by
  obtain ⟨x, xs, rfl, hx, h⟩ := h.cons_inv
  cases h.nil_inv
  obtain ⟨es, rfl, h1, h2⟩ := hx.sl_inv Tryd.underlying37 (z := 5) (y := 40) (by kernel_rfl) (by kernel_rfl)
  obtain ⟨l, rfl, _⟩ := map_of_each (f := dEnt) (p := fun _ => True) es (fun x hx => by obtain ⟨e, rfl⟩ := openEnt (h2 x hx); exact ⟨e, rfl, trivial⟩)
  rw [List.length_map] at h1
  simp only [List.map_cons, List.map_nil, toAV]
  exact f5 l h1
end Go.Proofs.YtalneemgdjkcdaaDoor
