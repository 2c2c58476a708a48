/- Nets: the check of links. -/
import Derived.Test.YtkfhieigdlfbeaaDoorL118
namespace Go.Proofs.YtkfhieigdlfbeaaDoor
set_option linter.unusedSimpArgs false
set_option linter.unusedVariables false
open Go.AB

/-- Whether an end is one of those that the links join. -/
def endsAt (L : List Lnk) (s e : Int) : Bool := L.any fun k => (decide (k.a = s) && decide (k.ea = e)) || (decide (k.b = s) && decide (k.eb = e))
theorem twice_eq (l : Lnk) : ∀ L : List Lnk, (L.any fun k => endEq k l) = (endsAt L l.a l.ea || endsAt L l.b l.eb)
  | [] => rfl
  | k :: L => by
    have ih := twice_eq l L
    simp only [endsAt, List.any_cons] at ih ⊢
    rw [ih]
    unfold endEq
    generalize (L.any fun k => (decide (k.a = l.a) && decide (k.ea = l.ea)) || (decide (k.b = l.a) && decide (k.eb = l.ea))) = x
    generalize (L.any fun k => (decide (k.a = l.b) && decide (k.ea = l.eb)) || (decide (k.b = l.b) && decide (k.eb = l.eb))) = y
    generalize (decide (k.a = l.a) && decide (k.ea = l.ea)) = a
    generalize (decide (k.b = l.a) && decide (k.eb = l.ea)) = b
    generalize (decide (k.a = l.b) && decide (k.ea = l.eb)) = c
    generalize (decide (k.b = l.b) && decide (k.eb = l.eb)) = d
    cases a <;> cases b <;> cases c <;> cases d <;> cases x <;> cases y <;> rfl
open Classical in
theorem mget_mset : ∀ (ks vs : List AV) (k v k' : AV), mget (mset ks vs k v).1 (mset ks vs k v).2 k' = if k = k' then some v else mget ks vs k'
  | [], vs, k, v, k' => by simp [mset, mget]
  | q :: ks, [], k, v, k' => by simp [mset, mget]
  | q :: ks, u :: vs, k, v, k' => by
    have ih := mget_mset ks vs k v k'
    by_cases h : q = k
    · subst h
      simp only [mset, if_true, mget]
      split <;> rfl
    · simp only [mset, h, if_false, mget, ih]
      by_cases h2 : q = k'
      · subst h2
        simp [Ne.symm h]
      · simp [h2]
theorem mset_keys {P : AV → Bool} : ∀ {ks vs : List AV} {k v : AV}, ks.all P = true → P k = true → (mset ks vs k v).1.all P = true
  | [], vs, k, v, _, h => by simp [mset, h]
  | q :: ks, [], k, v, _, h => by simp [mset, h]
  | q :: ks, u :: vs, k, v, h1, h2 => by
    simp only [List.all_cons, Bool.and_eq_true] at h1
    by_cases hq : q = k
    · simp only [mset, hq, if_true, List.all_cons, h2, h1.2, Bool.and_self]
    · simp only [mset, hq, if_false, List.all_cons, h1.1, Bool.true_and]
      exact mset_keys h1.2 h2
def linksE (n : Net) : Int := firstE (linkE n) n.links.length 0
def eEnd (s e : Int) : AV := .agg [.int .i64 s, .int .i64 e]
/-- What lies in the map of ends. -/
def seenOk (L : List Lnk) (ks vs : List AV) : Prop := ks.all (keyA Tryd.prog 166) = true ∧ ∀ s e, mget ks vs (.agg [.int .i64 s, .int .i64 e]) = if endsAt L s e = true then some (.bool true) else none
theorem key_end (s e : Int) : keyA Tryd.prog 166 (.agg [.int .i64 s, .int .i64 e]) = true := by simp only [go_sem]
theorem seen_step {L : List Lnk} {l : Lnk} {ks vs : List AV} (h : seenOk L ks vs) :
    seenOk (L ++ [l]) (mset (mset ks vs (.agg [.int .i64 l.a, .int .i64 l.ea]) (.bool true)).1 (mset ks vs (.agg [.int .i64 l.a, .int .i64 l.ea]) (.bool true)).2 (.agg [.int .i64 l.b, .int .i64 l.eb]) (.bool true)).1
      (mset (mset ks vs (.agg [.int .i64 l.a, .int .i64 l.ea]) (.bool true)).1 (mset ks vs (.agg [.int .i64 l.a, .int .i64 l.ea]) (.bool true)).2 (.agg [.int .i64 l.b, .int .i64 l.eb]) (.bool true)).2 := by
  refine ⟨mset_keys (mset_keys h.1 (key_end _ _)) (key_end _ _), fun s e => ?_⟩
  rw [mget_mset, mget_mset, h.2]
  simp only [AV.agg.injEq, List.cons.injEq, AV.int.injEq, true_and, and_true]
  unfold endsAt
  simp only [List.any_append, List.any_cons, List.any_nil, Bool.or_false, Bool.or_eq_true, Bool.and_eq_true, decide_eq_true_eq]
  by_cases h1 : l.a = s ∧ l.ea = e <;> by_cases h2 : l.b = s ∧ l.eb = e <;> simp [h1, h2]
theorem gate_seen {L : List Lnk} {ks vs : List AV} (h : seenOk L ks vs) (s e : Int) : (endsAt L s e = true ∧ mget ks vs (.agg [.int .i64 s, .int .i64 e]) = some (.bool true)) ∨ (endsAt L s e = false ∧ mget ks vs (.agg [.int .i64 s, .int .i64 e]) = none) := by
  have := h.2 s e
  cases hh : endsAt L s e with
  | true => rw [hh] at this; exact .inl ⟨rfl, by simpa using this⟩
  | false => rw [hh] at this; exact .inr ⟨rfl, by simpa using this⟩

set_option maxHeartbeats 4000000 in
set_option maxRecDepth 20000 in
theorem f80 (n : Net) (hb : NetB n) : PCall Tryd.prog 80 [eNet n] (RV (.int .i64 (linksE n))) := by
  refine PCall.of_body Tryd.func80 rfl Tryd.ntmps80 (congrArg Array.toList Tryd.results80) ?_
  intro E
  have hlk := hb.lk
  have hsc := hb.sc
  simp only [go_sem, eNet, nCells]
  refine AW_loopH [2, 4, 5, 6, 7, 8, 13, 14, 15, 16, 17, 18, 19, 20, 21, 22, 23, 24, 25, 26, 27, 28, 29, 30, 31, 32, 33, 34, 35, 36, 37, 38, 39, 40, 41, 42, 43, 44, 45, 46, 47, 48, 49, 50, 51, 52, 53, 54, 55, 56, 57, 58, 59, 60, 61, 62, 63, 64, 65, 66, 67, 68, 69, 70, 71, 72, 73, 74, 75, 76, 77, 78, 79, 80, 81, 82, 83, 84]
    (fun (i : Nat) ρ m => ρ 13 = .int .i64 (i : Int) ∧ i ≤ n.links.length ∧ firstE (linkE n) (n.links.length - i) i = linksE n ∧
      ∃ h nx lv ks vs, m = ⟨h, [], nx, lv⟩ ∧ AB.hget h 1 = some (0, nCells n) ∧ AB.hget h 9 = some (0, [.mapc ks vs]) ∧ seenOk (n.links.take i) ks vs) (fun i => n.links.length - i) 0 ?_ ?_
  · simp only [go_sem]
    refine ⟨Nat.zero_le _, rfl, _, _, _, [], [], rfl, by simp [go_sem, nCells], by simp [go_sem], rfl, fun s e => ?_⟩
    simp [mget, endsAt]
  · rintro i ρ m ⟨e1, g1, g2, h, nx, lv, ks, vs, rfl, hb1, hb9, hs⟩ Q hN hR hX
    simp only [nCells] at hb1
    by_cases hlt : i < n.links.length
    · obtain ⟨l, hl⟩ : ∃ l, n.links[i]? = some l := ⟨_, List.getElem?_eq_getElem hlt⟩
      have hlt' : ((i : Int) < (n.links.length : Int)) = True := by simp; omega
      have hf : firstE (linkE n) (n.links.length - i) i = if linkE n i ≠ 0 then linkE n i else firstE (linkE n) (n.links.length - (i + 1)) (i + 1) := by
        have : n.links.length - i = (n.links.length - (i + 1)) + 1 := by omega
        rw [this]; rfl
      rw [hf] at g2
      have hge : linkE n i = if hasF n l.a l.ea = false ∨ hasF n l.b l.eb = false then 3 else if l.a = l.b then 1
          else if l.b < l.a ∨ (0 < i ∧ lessF (((n.links[i - 1]?).map Lnk.a).getD 0) (((n.links[i - 1]?).map Lnk.ea).getD 0) l.a l.ea = false) then 5
          else if (endsAt (n.links.take i) l.a l.ea || endsAt (n.links.take i) l.b l.eb) = true then 6 else 0 := by simp [linkE, hl, twice_eq]
      have htk : n.links.take (i + 1) = n.links.take i ++ [l] := by rw [List.take_add_one, hl]; rfl
      have ew : IntKind.i64.wrap ((i : Int) + 1) = (i : Int) + 1 := i64_in (by omega) (by omega)
      have hst := seen_step (l := l) hs
      rw [← htk] at hst
      simp only [go_sem, e1, hlt', hl, dLnk, hb1]
      generalize genO (AB.hget h 5) = G5
      refine ⟨by omega, ?_⟩
      refine drawnT [2, 2, 2, 2, 2, 2, 2, 2, 2, 2, 3, 4, 1, 1] (.alt 10 [2, 2, 2, 2, 2, 2, 2, 2, 2, 2, 0, 3, 1, 1] (.alt 11 [2, 2, 2, 2, 2, 2, 2, 2, 2, 2, 0, 0, 3, 1] (.alt 12 [0, 0, 0, 0, 0, 2, 2, 2, 2, 2, 0, 0, 0, 3] (.alt 13 [0, 0, 0, 0, 0, 0, 0, 0, 0, 0, 0, 0, 0, 0] .fin .nil) .nil) .nil) (.alt 11 [2, 2, 2, 2, 2, 2, 2, 2, 2, 2, 3, 0, 1, 1] (.alt 10 [2, 2, 2, 2, 2, 2, 2, 2, 2, 2, 0, 0, 3, 1] (.alt 12 [0, 0, 0, 0, 0, 2, 2, 2, 2, 2, 0, 0, 0, 3] (.alt 13 [0, 0, 0, 0, 0, 0, 0, 0, 0, 0, 0, 0, 0, 0] .fin .nil) .nil) .nil) .nil)) 85 (by kernel_rfl) (by kernel_rfl) (by kernel_rfl) (by kernel_rfl) rfl ?_
      simp only [go_sem]
      generalize genO (AB.hget h 6) = G6
      generalize genO (AB.hget h 7) = G7
      refine And.intro ?_ ?_
      all_goals
        intro _ _ _ _ _ _ _ _ _ _ _ _ _ _ _ _ nx1 lv1 _ _
        simp only [go_sem, hb1]
        generalize hh : AB.hset _ 7 G7 [AV.int .i64 l.b, AV.int .i64 l.eb] = h2
        have b1 : AB.hget h2 1 = some (0, nCells n) := by rw [← hh]; simp [go_sem, hb1, nCells]
        have b9 : AB.hget h2 9 = some (0, [.mapc ks vs]) := by rw [← hh]; simp [go_sem, hb9]
        have b5 : AB.hget h2 5 = some (G5, [AV.int .i64 l.a, AV.int .i64 l.ea, AV.int .i64 l.b, AV.int .i64 l.eb]) := by rw [← hh]; simp [go_sem]
        have b6 : AB.hget h2 6 = some (G6, [AV.int .i64 l.a, AV.int .i64 l.ea]) := by rw [← hh]; simp [go_sem]
        have b7 : AB.hget h2 7 = some (G7, [AV.int .i64 l.b, AV.int .i64 l.eb]) := by rw [← hh]; simp [go_sem]
        clear hh hb1 hb9
        simp only [nCells] at b1
        refine callV (f105 n l.a l.ea hb) ?_
        intro nx2 lv2
        by_cases q1 : hasF n l.a l.ea = true
        · simp only [go_sem, b1, b5, b6, b7, q1]
          refine callV (f105 n l.b l.eb hb) ?_
          intro nx2 lv2
          by_cases q2 : hasF n l.b l.eb = true
          · by_cases q3 : l.a = l.b
            · simp only [go_sem, b1, b5, b6, b7, q2, q3, hR]
              rw [← g2, show linkE n i = 1 by rw [hge, if_neg (by rw [q1, q2]; simp), if_pos q3]]; rfl
            · by_cases q4 : l.b < l.a
              · simp only [go_sem, b1, b5, b6, b7, q2, q3, q4, hR]
                rw [← g2, show linkE n i = 5 by rw [hge]; simp [q1, q2, q3, q4]]; rfl
              · by_cases q5 : 0 < i
                · have q5' : ((0 : Int) < (i : Int)) = True := by simp; omega
                  obtain ⟨r, hr⟩ : ∃ r, n.links[i - 1]? = some r := ⟨_, List.getElem?_eq_getElem (by omega)⟩
                  have ei : ((i : Int) - 1).toNat = i - 1 := by omega
                  have ew2 : IntKind.i64.wrap ((i : Int) - 1) = (i : Int) - 1 := i64_in (by omega) (by omega)
                  simp only [go_sem, b1, b5, b6, b7, q2, q3, q4, q5', ew2, ei, hr, dLnk]
                  generalize genO (AB.hget h2 8) = G8
                  refine ⟨by omega, ?_⟩
                  refine drawn (by kernel_rfl) (by kernel_rfl) ?_
                  simp only [go_sem, b1, b5, b6, b7]
                  refine quietD (f107 _ _) (fun _ => rfl) ?_
                  simp only [go_sem, b1, b5, b6, b7]
                  refine quietD (f107 _ _) (fun _ => rfl) ?_
                  simp only [go_sem, b1, b5, b6, b7]
                  refine quietD (f106 _ _) (fun _ => rfl) ?_
                  by_cases q6 : lessF r.a r.ea l.a l.ea = false
                  · have q7 := (order_F _ _ _ _).2 q6
                    simp only [go_sem, q7, hR]
                    intro _ _ _ _
                    rw [← g2, show linkE n i = 5 by rw [hge]; simp [q1, q2, q3, q4, q5, hr, q6]]; rfl
                  · have q7 : ¬ _ := fun x => q6 ((order_F _ _ _ _).1 x)
                    have q6 : lessF r.a r.ea l.a l.ea = true := by simpa using q6
                    simp only [go_sem, b1, b5, b6, b7, q7]
                    intro nx3 lv3 _ _
                    rcases gate_seen hs l.a l.ea with ⟨s1, t1⟩ | ⟨s1, t1⟩
                    · simp only [go_sem, b1, b5, b6, b7, b9, t1, hs.1, hR]
                      rw [← g2, show linkE n i = 6 by rw [hge]; simp [q1, q2, q3, q4, hr, q6, s1]]; rfl
                    · rcases gate_seen hs l.b l.eb with ⟨s2, t2⟩ | ⟨s2, t2⟩
                      · simp only [go_sem, b1, b5, b6, b7, b9, t1, t2, hs.1, hR]
                        rw [← g2, show linkE n i = 6 by rw [hge]; simp [q1, q2, q3, q4, hr, q6, s1, s2]]; rfl
                      · simp only [go_sem, b1, b5, b6, b7, b9, t1, t2, hs.1]
                        refine drawnT [2, 2, 2, 2, 3, 1] (.alt 4 [0, 0, 2, 2, 0, 3] (.alt 5 [0, 0, 0, 0, 0, 0] .fin .nil) .nil) 85 (by kernel_rfl) (by kernel_rfl) (by kernel_rfl) (by kernel_rfl) rfl ?_
                        simp only [go_sem, b1, b5, b6, b7, b9, hs.1, hN, ew]
                        intro _ _ _ _ nx5 lv5 _ _
                        refine ⟨mset_keys hs.1 (key_end _ _), fun nx6 lv6 _ _ => ⟨by kernel_rfl, i + 1, ?_, by simp only; omega⟩⟩
                        simp only [go_sem]
                        exact ⟨by simp, by omega, by rw [← g2, show linkE n i = 0 by rw [hge]; simp [q1, q2, q3, q4, hr, q6, s1, s2]]; rfl, _, _, _, _, _, rfl, by simp [go_sem, b1, nCells], by simp [go_sem], hst⟩
                · have q5' : ((0 : Int) < (i : Int)) = False := by simp; omega
                  rcases gate_seen hs l.a l.ea with ⟨s1, t1⟩ | ⟨s1, t1⟩
                  · simp only [go_sem, b1, b5, b6, b7, b9, q2, q3, q4, q5', t1, hs.1, hR]
                    rw [← g2, show linkE n i = 6 by rw [hge]; simp [q1, q2, q3, q4, q5, s1]]; rfl
                  · rcases gate_seen hs l.b l.eb with ⟨s2, t2⟩ | ⟨s2, t2⟩
                    · simp only [go_sem, b1, b5, b6, b7, b9, q2, q3, q4, q5', t1, t2, hs.1, hR]
                      rw [← g2, show linkE n i = 6 by rw [hge]; simp [q1, q2, q3, q4, q5, s1, s2]]; rfl
                    · simp only [go_sem, b1, b5, b6, b7, b9, q2, q3, q4, q5', t1, t2, hs.1]
                      refine drawnT [2, 2, 2, 2, 3, 1] (.alt 4 [0, 0, 2, 2, 0, 3] (.alt 5 [0, 0, 0, 0, 0, 0] .fin .nil) .nil) 85 (by kernel_rfl) (by kernel_rfl) (by kernel_rfl) (by kernel_rfl) rfl ?_
                      simp only [go_sem, b1, b5, b6, b7, b9, hs.1, hN, ew]
                      intro _ _ _ _ nx5 lv5 _ _
                      refine ⟨mset_keys hs.1 (key_end _ _), fun nx6 lv6 _ _ => ⟨by kernel_rfl, i + 1, ?_, by simp only; omega⟩⟩
                      simp only [go_sem]
                      exact ⟨by simp, by omega, by rw [← g2, show linkE n i = 0 by rw [hge]; simp [q1, q2, q3, q4, q5, s1, s2]]; rfl, _, _, _, _, _, rfl, by simp [go_sem, b1, nCells], by simp [go_sem], hst⟩
          · have q2 : hasF n l.b l.eb = false := by simpa using q2
            simp only [go_sem, b1, b5, b6, b7, q2, hR]
            rw [← g2, show linkE n i = 3 by rw [hge]; simp [q1, q2]]; rfl
        · have q1 : hasF n l.a l.ea = false := by simpa using q1
          simp only [go_sem, b1, b5, b6, b7, q1, hR]
          rw [← g2, show linkE n i = 3 by rw [hge]; simp [q1]]; rfl
    · have hlt' : ((i : Int) < (n.links.length : Int)) = False := by simp; omega
      have : n.links.length - i = 0 := by omega
      rw [this] at g2
      simp only [go_sem, e1, hX, hlt']
      rw [← g2]; rfl
end Go.Proofs.YtkfhieigdlfbeaaDoor
