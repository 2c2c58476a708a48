/- Numbers as words: what the library's functions come to. -/
import Derived.Test.YtkfhieigdlfbeaaDoorP1
import Derived.Test.YtkfhieigdlfbeaaDoorB140
import Derived.Test.YtkfhieigdlfbeaaDoorB32
import Derived.Test.YtkfhieigdlfbeaaDoorS
import Derived.Lib.ItoaLen
import Derived.Lib.Join
namespace Go.Proofs.YtkfhieigdlfbeaaDoor
set_option linter.unusedSimpArgs false
set_option linter.unusedVariables false
open Go.AB Go.RowKit Go.Sort

/-- Words with a sign between them. -/
theorem f37 (xs : List (List UInt8)) (sep : List UInt8) (hne : xs ≠ []) (hN : xs.length ≤ 140737488355328) (hlen : (Lib.join xs sep).length ≤ 140737488355328) (tok : Tok) (ht : tok = .no) : PCall Tryd.prog 37 [.sl 1 (xs.map DV.str) tok, .str sep] (RV (.str (Lib.join xs sep))) := by
  subst ht
  refine PCall.of_calls rfl ?_
  intro st w vs hl hst hrep
  obtain ⟨e1, e2⟩ := hrep
  match vs, e1 with
  | [v, u], _ =>
    have h1 := e2 0 _ v rfl rfl
    have h2 := e2 1 _ u rfl rfl
    cases h2
    cases h1 with
    | sl _ _ _ A c hs _ =>
      obtain ⟨g1, g2, g3, g4⟩ := hs
      rcases g4 with ⟨g4, _⟩ | ⟨b, o, rfl, g4⟩
      · simp at g4; exact absurd g4 hne
      · have hcell : ∀ (j : Nat) (x : List UInt8), xs[j]? = some x → (st b (o + j)) ∧ w.cell? ⟨b, o + j, none⟩ = some (.string ⟨x.toArray⟩) := by
          intro j x hj
          obtain ⟨s1, v, s2, s3⟩ := g4 j (.str x) (by rw [List.getElem?_map, hj]; rfl) 0 (.str x) rfl
          rw [Nat.mul_one, Nat.add_zero] at s1 s2
          cases s3
          exact ⟨s1, s2⟩
        have hb : b < w.heap.size := by
          cases xs with
          | nil => exact absurd rfl hne
          | cons x r => exact hst b _ (hcell 0 x rfl).1
        have hmap : (xs.map fun x => (⟨x.toArray⟩ : ByteArray)).map (·.data.toList) = xs := by
          have hid : ((fun x : ByteArray => x.data.toList) ∘ fun (x : List UInt8) => (⟨x.toArray⟩ : ByteArray)) = id := by funext x; simp
          rw [List.map_map, hid, List.map_id]
        have hJ := Tryd.strings_Join b o c (xs.map fun x => (⟨x.toArray⟩ : ByteArray)) ⟨sep.toArray⟩ w (fun j x hj => by
          rw [List.getElem?_map] at hj
          cases hx : xs[j]? with
          | none => rw [hx] at hj; cases hj
          | some y => rw [hx] at hj; cases hj; exact (hcell j y hx).2) hb (by simpa using hN) (by simpa using g1) (by rw [hmap]; simpa using hlen)
        rw [hmap] at hJ
        simp only [List.length_map] at hJ ⊢
        refine hJ.mono ?_
        rintro e w' ⟨rfl, bel⟩
        exact ⟨_, rfl, bel, fun G => .str _⟩

/-- Numbers with blanks between. -/
def told (l : List Int) : List UInt8 := Lib.join (l.map Lib.itoa) [32]

theorem told_snoc (l : List Int) (n : Int) : told (l ++ [n]) = if l = [] then Lib.itoa n else told l ++ [32] ++ Lib.itoa n := by
  cases l with
  | nil => simp [told, Lib.join_one]
  | cons x r => simp [told, Lib.join_cons, Lib.joinTail]
def big (l : List Int) : Prop := ∀ n ∈ l, -9223372036854775808 ≤ n ∧ n ≤ 9223372036854775807
theorem told_len : ∀ (l : List Int), big l → (told l).length ≤ l.length * 22 := by
  intro l h
  cases l with
  | nil => simp [told, Lib.join_nil]
  | cons x r =>
    have hx := Lib.itoa_length_le x (h x (by simp)).1 (h x (by simp)).2
    have hr : ∀ r : List Int, big r → (Lib.joinTail [32] (r.map Lib.itoa)).length ≤ r.length * 22 := by
      intro r
      induction r with
      | nil => intro _; simp [Lib.joinTail]
      | cons y r ih =>
        intro hb
        have h1 := Lib.itoa_length_le y (hb y (by simp)).1 (hb y (by simp)).2
        have h2 := ih (fun n hn => hb n (by simp [hn]))
        simp only [Lib.joinTail, List.map_cons, List.flatten_cons, List.length_append, List.length_cons, List.length_nil] at h2 ⊢
        omega
    have := hr r (fun n hn => h n (by simp [hn]))
    simp only [told, List.map_cons, Lib.join_cons, List.length_append, List.length_cons]
    omega

set_option maxHeartbeats 1000000 in
set_option maxRecDepth 20000 in
theorem f57 (l : List Int) (hl : l.length ≤ 1000000) (hb : big l) : PCall Tryd.prog 57 [.sl 1 (l.map fun x => DV.int .i64 x) .no] (RV (.str (told l))) := by
  refine PCall.of_body Tryd.func57 rfl Tryd.ntmps57 (congrArg Array.toList Tryd.results57) ?_
  intro E
  simp only [go_sem]
  refine AW_loopH [3, 4, 5, 8, 9, 10, 11, 12, 13, 14, 15, 16, 17, 18, 19, 20, 21]
    (fun (i : Nat) ρ m => ρ 8 = .int .i64 (i : Int) ∧ i ≤ l.length ∧ ρ 3 = .str (told (l.take i)) ∧ ∃ h nx lv, m = ⟨h, [], nx, lv⟩) (fun i => l.length - i) 0 ?_ ?_
  · simp [go_sem, told, Lib.join_nil]
  · rintro i ρ m ⟨e8, g1, e3, h, nx, lv, rfl⟩ Q hN hR hX
    by_cases hlt : i < l.length
    · obtain ⟨n, hn⟩ : ∃ n, l[i]? = some n := ⟨_, List.getElem?_eq_getElem hlt⟩
      have hlt' : ((i : Int) < (l.length : Int)) = True := by simp; omega
      have h0 : ((0 : Int) ≤ (i : Int)) = True := by simp
      have ew : IntKind.i64.wrap ((i : Int) + 1) = (i : Int) + 1 := i64_in (by omega) (by omega)
      have hbn := hb n (List.mem_of_getElem? hn)
      have hil := Lib.itoa_length_le n hbn.1 hbn.2
      have htl := told_len (l.take i) (fun x hx => hb x (List.mem_of_mem_take hx))
      have hts : l.take (i + 1) = l.take i ++ [n] := by rw [List.take_add_one, hn]; rfl
      have hlen : (l.take i).length = i := by rw [List.length_take]; omega
      rw [hlen] at htl
      have htn := told_snoc (l.take i) n
      by_cases q : 0 < i
      · have q' : ((0 : Int) < (i : Int)) = True := by simp; omega
        have hne : l.take i ≠ [] := fun e => by have := congrArg List.length e; rw [hlen] at this; simp at this; omega
        rw [if_neg hne] at htn
        simp only [go_sem, e8, e3, hlt', h0, hn, q']
        refine ⟨by omega, ?_⟩
        refine callV (f35 n hbn.1 hbn.2) ?_
        intro nx2 lv2
        simp only [go_sem, hN, ew]
        refine ⟨by simp; omega, by kernel_rfl, i + 1, ?_, by simp only; omega⟩
        simp only [go_sem]
        exact ⟨by simp, by omega, by rw [hts, htn], _, _, _, rfl⟩
      · have q' : ((0 : Int) < (i : Int)) = False := by simp; omega
        have hi0 : i = 0 := by omega
        subst hi0
        have hte : told (l.take 0) = [] := by simp [told, Lib.join_nil]
        have hl0 : ((0 : Int) < (l.length : Int)) = True := by simp; omega
        have h00 : ((0 : Int) ≤ 0) = True := by simp
        have ew0 : IntKind.i64.wrap (0 + 1) = 1 := by rfl
        have ew1 : IntKind.i64.wrap 1 = 1 := by rfl
        rw [hte] at e3
        rw [if_pos (by simp)] at htn
        simp only [go_sem, e8, e3, hl0, h00, hn, q']
        refine callV (f35 n hbn.1 hbn.2) ?_
        intro nx2 lv2
        simp only [go_sem, hN, ew0, ew1]
        refine ⟨by simp; omega, by kernel_rfl, 0 + 1, ?_, by simp only; omega⟩
        simp only [go_sem]
        have ht1 : told (l.take 1) = Lib.itoa n := by have := hts; simp only [Nat.zero_add] at this; rw [this]; exact htn
        simp [ht1]
        omega
    · have hlt' : ((i : Int) < (l.length : Int)) = False := by simp; omega
      have hi : l.take i = l := List.take_of_length_le (by omega)
      rw [hi] at e3
      simp only [go_sem, e8, hX, hlt', e3]

end Go.Proofs.YtkfhieigdlfbeaaDoor
