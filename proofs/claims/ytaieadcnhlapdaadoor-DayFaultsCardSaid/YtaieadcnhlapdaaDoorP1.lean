/- Numbers as words: what the library's functions come to. -/
import Derived.Test.YtaieadcnhlapdaaDoorT
import Derived.Test.YtaieadcnhlapdaaDoorS2
import Derived.Test.YtaieadcnhlapdaaDoorS
import Derived.Lib.ItoaLen
import Derived.Lib.Join
namespace Go.Proofs.YtaieadcnhlapdaaDoor
set_option linter.unusedSimpArgs false
set_option linter.unusedVariables false
open Go.AB Go.RowKit Go.Sort

theorem below_grow (w : World) (k : Nat) (os : Array Obj) : Below w.heap.size w (grow (w.drewN k) os) := by
  refine ⟨rfl, rfl, rfl, by simp [grow], fun b hb => ?_⟩
  simp only [grow]
  rw [Array.getElem?_append_left (by simpa using hb)]
  rfl

theorem f30 (n : Int) (h0 : -9223372036854775808 ≤ n) (h1 : n ≤ 9223372036854775807) : PCall Tryd.prog 30 [.int .i64 n] (RV (.str (Lib.itoa n))) := by
  refine PCall.of_calls rfl ?_
  intro st w vs hl hst hrep
  obtain ⟨e1, e2⟩ := hrep
  match vs, e1 with
  | [v], _ =>
    have := e2 0 _ v rfl rfl
    cases this
    obtain ⟨g, hg⟩ : ∃ g, Tryd.prog.globalNamed "internal/strconv.uint64pow10" = some g := ⟨0, by kernel_rfl⟩
    refine (Tryd.strconv_Itoa n h0 h1 w (hl g hg)).mono ?_
    rintro e w' ⟨rfl, k, os, rfl⟩
    exact ⟨_, rfl, below_grow w k os, fun G => .str _⟩

/-- Numbers with blanks between. -/
def told (l : List Int) : List UInt8 := Lib.join (l.map Lib.itoa) [32]

theorem told_snoc (l : List Int) (n : Int) : told (l ++ [n]) = if l = [] then Lib.itoa n else told l ++ [32] ++ Lib.itoa n := by
  cases l with
  | nil => simp [told, Lib.join_one]
  | cons x r => simp [told, Lib.join_cons, Lib.joinTail]
def big (l : List Int) : Prop := ∀ n ∈ l, -9223372036854775808 ≤ n ∧ n ≤ 9223372036854775807
theorem told_len : ∀ (l : List Int), big l → (told l).length ≤ l.length * 22 := by
  intro l h
  cases l with
  | nil => simp [told, Lib.join_nil]
  | cons x r =>
    have hx := Lib.itoa_length_le x (h x (by simp)).1 (h x (by simp)).2
    have hr : ∀ r : List Int, big r → (Lib.joinTail [32] (r.map Lib.itoa)).length ≤ r.length * 22 := by
      intro r
      induction r with
      | nil => intro _; simp [Lib.joinTail]
      | cons y r ih =>
        intro hb
        have h1 := Lib.itoa_length_le y (hb y (by simp)).1 (hb y (by simp)).2
        have h2 := ih (fun n hn => hb n (by simp [hn]))
        simp only [Lib.joinTail, List.map_cons, List.flatten_cons, List.length_append, List.length_cons, List.length_nil] at h2 ⊢
        omega
    have := hr r (fun n hn => h n (by simp [hn]))
    simp only [told, List.map_cons, Lib.join_cons, List.length_append, List.length_cons]
    omega

set_option maxHeartbeats 1000000 in
set_option maxRecDepth 20000 in
theorem f20 (l : List Int) (hl : l.length ≤ 1000000) (hb : big l) : PCall Tryd.prog 20 [.sl 1 (l.map fun x => DV.int .i64 x) .no] (RV (.str (told l))) := by
  refine PCall.of_body Tryd.func20 rfl Tryd.ntmps20 (congrArg Array.toList Tryd.results20) ?_
  intro E
  simp only [go_sem]
  refine AW_loopH [3, 4, 5, 8, 9, 10, 11, 12, 13, 14, 15, 16, 17, 18, 19, 20, 21]
    (fun (i : Nat) ρ m => ρ 8 = .int .i64 (i : Int) ∧ i ≤ l.length ∧ ρ 3 = .str (told (l.take i)) ∧ ∃ h nx lv, m = ⟨h, [], nx, lv⟩) (fun i => l.length - i) 0 ?_ ?_
  · simp [go_sem, told, Lib.join_nil]
  · rintro i ρ m ⟨e8, g1, e3, h, nx, lv, rfl⟩ Q hN hR hX
    by_cases hlt : i < l.length
    · obtain ⟨n, hn⟩ : ∃ n, l[i]? = some n := ⟨_, List.getElem?_eq_getElem hlt⟩
      have hlt' : ((i : Int) < (l.length : Int)) = True := by simp; omega
      have h0 : ((0 : Int) ≤ (i : Int)) = True := by simp
      have ew : IntKind.i64.wrap ((i : Int) + 1) = (i : Int) + 1 := i64_in (by omega) (by omega)
      have hbn := hb n (List.mem_of_getElem? hn)
      have hil := Lib.itoa_length_le n hbn.1 hbn.2
      have htl := told_len (l.take i) (fun x hx => hb x (List.mem_of_mem_take hx))
      have hts : l.take (i + 1) = l.take i ++ [n] := by rw [List.take_add_one, hn]; rfl
      have hlen : (l.take i).length = i := by rw [List.length_take]; omega
      rw [hlen] at htl
      have htn := told_snoc (l.take i) n
      by_cases q : 0 < i
      · have q' : ((0 : Int) < (i : Int)) = True := by simp; omega
        have hne : l.take i ≠ [] := fun e => by have := congrArg List.length e; rw [hlen] at this; simp at this; omega
        rw [if_neg hne] at htn
        simp only [go_sem, e8, e3, hlt', h0, hn, q']
        refine ⟨by omega, ?_⟩
        refine callV (f30 n hbn.1 hbn.2) ?_
        intro nx2 lv2
        simp only [go_sem, hN, ew]
        refine ⟨by simp; omega, by kernel_rfl, i + 1, ?_, by simp only; omega⟩
        simp only [go_sem]
        exact ⟨by simp, by omega, by rw [hts, htn], _, _, _, rfl⟩
      · have q' : ((0 : Int) < (i : Int)) = False := by simp; omega
        have hi0 : i = 0 := by omega
        subst hi0
        have hte : told (l.take 0) = [] := by simp [told, Lib.join_nil]
        have hl0 : ((0 : Int) < (l.length : Int)) = True := by simp; omega
        have h00 : ((0 : Int) ≤ 0) = True := by simp
        have ew0 : IntKind.i64.wrap (0 + 1) = 1 := by rfl
        have ew1 : IntKind.i64.wrap 1 = 1 := by rfl
        rw [hte] at e3
        rw [if_pos (by simp)] at htn
        simp only [go_sem, e8, e3, hl0, h00, hn, q']
        refine callV (f30 n hbn.1 hbn.2) ?_
        intro nx2 lv2
        simp only [go_sem, hN, ew0, ew1]
        refine ⟨by simp; omega, by kernel_rfl, 0 + 1, ?_, by simp only; omega⟩
        simp only [go_sem]
        have ht1 : told (l.take 1) = Lib.itoa n := by have := hts; simp only [Nat.zero_add] at this; rw [this]; exact htn
        simp [ht1]
        omega
    · have hlt' : ((i : Int) < (l.length : Int)) = False := by simp; omega
      have hi : l.take i = l := List.take_of_length_le (by omega)
      rw [hi] at e3
      simp only [go_sem, e8, hX, hlt', e3]

/-- A sentence: a word and numbers. -/
def flatN (l : List Int) : List UInt8 := l.flatMap fun n => 32 :: Lib.itoa n
theorem flatN_len (l : List Int) (h : big l) : (flatN l).length ≤ l.length * 22 := by
  induction l with
  | nil => simp [flatN]
  | cons n r ih =>
    have h1 := Lib.itoa_length_le n (h n (by simp)).1 (h n (by simp)).2
    have h2 := ih (fun x hx => h x (by simp [hx]))
    simp only [flatN, List.flatMap_cons, List.length_append, List.length_cons] at h2 ⊢
    omega
theorem flatN_snoc {l : List Int} {i : Nat} {n : Int} (h : l[i]? = some n) : flatN (l.take (i + 1)) = flatN (l.take i) ++ 32 :: Lib.itoa n := by
  rw [List.take_add_one, h]; simp [flatN]

set_option maxRecDepth 20000 in
theorem f14 (w : List UInt8) (l : List Int) (hw : w.length ≤ 1000000) (hl : l.length ≤ 1000000) (hb : big l) : PCall Tryd.prog 14 [.str w, .sl 1 (l.map fun x => DV.int .i64 x) .no] (RV (.str (w ++ flatN l))) := by
  refine PCall.of_body Tryd.func14 rfl Tryd.ntmps14 (congrArg Array.toList Tryd.results14) ?_
  intro E
  simp only [go_sem]
  refine AW_loopH [0, 6, 9, 10, 11, 12, 13, 14, 15, 16, 17, 18]
    (fun (i : Nat) ρ m => ρ 9 = .int .i64 (i : Int) ∧ ρ 0 = .str (w ++ flatN (l.take i)) ∧ i ≤ l.length ∧ ∃ h nx lv, m = ⟨h, [], nx, lv⟩) (fun i => l.length - i) 0 ?_ ?_
  · simp [go_sem, flatN]
  · rintro i ρ m ⟨e9, e0, g1, h, nx, lv, rfl⟩ Q hN hR hX
    by_cases hlt : i < l.length
    · obtain ⟨n, hn⟩ : ∃ n, l[i]? = some n := ⟨_, List.getElem?_eq_getElem hlt⟩
      have hp : (l.map fun x => DV.int .i64 x)[i]? = some (.int .i64 n) := by rw [List.getElem?_map, hn]; rfl
      have hlt' : ((i : Int) < (l.length : Int)) = True := by simp; omega
      have h0 : ((0 : Int) ≤ (i : Int)) = True := by simp
      have ew : IntKind.i64.wrap ((i : Int) + 1) = (i : Int) + 1 := i64_in (by omega) (by omega)
      have hbn := hb n (List.mem_of_getElem? hn)
      have hil := Lib.itoa_length_le n hbn.1 hbn.2
      have hfl := flatN_len (l.take i) (fun x hx => hb x (List.mem_of_mem_take hx))
      have hlen : (l.take i).length = i := by rw [List.length_take]; omega
      rw [hlen] at hfl
      simp only [go_sem, e9, e0, hlt', h0, hp]
      refine callV (f30 n hbn.1 hbn.2) ?_
      intro nx2 lv2
      simp only [go_sem, hN, ew]
      refine ⟨by omega, by simp only [List.length_append, List.length_cons]; omega, ?_⟩
      refine ⟨by kernel_rfl, i + 1, ?_, by simp only; omega⟩
      simp only [go_sem]
      exact ⟨by simp, by rw [flatN_snoc hn]; simp, by omega, _, _, _, rfl⟩
    · have hlt' : ((i : Int) < (l.length : Int)) = False := by simp; omega
      rw [List.take_of_length_le (by omega)] at e0
      simp only [go_sem, e9, e0, hlt', hX]
end Go.Proofs.YtaieadcnhlapdaaDoor
