/- Nets: the check of links. -/
import Derived.Test.YteadhjclchjfjaaGreatL210
namespace Go.Proofs.YteadhjclchjfjaaGreat
set_option linter.unusedSimpArgs false
set_option linter.unusedVariables false
open Go.AB

/-- Whether an end is one of those that the links join. -/
def endsAt (L : List Lnk) (s e : Int) : Bool := L.any fun k => (decide (k.a = s) && decide (k.ea = e)) || (decide (k.b = s) && decide (k.eb = e))
theorem twice_eq (l : Lnk) : ∀ L : List Lnk, (L.any fun k => endEq k l) = (endsAt L l.a l.ea || endsAt L l.b l.eb)
  | [] => rfl
  | k :: L => by
    have ih := twice_eq l L
    simp only [endsAt, List.any_cons] at ih ⊢
    rw [ih]
    unfold endEq
    generalize (L.any fun k => (decide (k.a = l.a) && decide (k.ea = l.ea)) || (decide (k.b = l.a) && decide (k.eb = l.ea))) = x
    generalize (L.any fun k => (decide (k.a = l.b) && decide (k.ea = l.eb)) || (decide (k.b = l.b) && decide (k.eb = l.eb))) = y
    generalize (decide (k.a = l.a) && decide (k.ea = l.ea)) = a
    generalize (decide (k.b = l.a) && decide (k.eb = l.ea)) = b
    generalize (decide (k.a = l.b) && decide (k.ea = l.eb)) = c
    generalize (decide (k.b = l.b) && decide (k.eb = l.eb)) = d
    cases a <;> cases b <;> cases c <;> cases d <;> cases x <;> cases y <;> rfl
open Classical in
theorem mget_mset : ∀ (ks vs : List AV) (k v k' : AV), mget (mset ks vs k v).1 (mset ks vs k v).2 k' = if k = k' then some v else mget ks vs k'
  | [], vs, k, v, k' => by simp [mset, mget]
  | q :: ks, [], k, v, k' => by simp [mset, mget]
  | q :: ks, u :: vs, k, v, k' => by
    have ih := mget_mset ks vs k v k'
    by_cases h : q = k
    · subst h
      simp only [mset, if_true, mget]
      split <;> rfl
    · simp only [mset, h, if_false, mget, ih]
      by_cases h2 : q = k'
      · subst h2
        simp [Ne.symm h]
      · simp [h2]
theorem mset_keys {P : AV → Bool} : ∀ {ks vs : List AV} {k v : AV}, ks.all P = true → P k = true → (mset ks vs k v).1.all P = true
  | [], vs, k, v, _, h => by simp [mset, h]
  | q :: ks, [], k, v, _, h => by simp [mset, h]
  | q :: ks, u :: vs, k, v, h1, h2 => by
    simp only [List.all_cons, Bool.and_eq_true] at h1
    by_cases hq : q = k
    · simp only [mset, hq, if_true, List.all_cons, h2, h1.2, Bool.and_self]
    · simp only [mset, hq, if_false, List.all_cons, h1.1, Bool.true_and]
      exact mset_keys h1.2 h2
def linksE (n : Net) : Int := firstE (linkE n) n.links.length 0
/-- What lies in the map of ends. -/
def seenOk (L : List Lnk) (ks vs : List AV) : Prop := ks.all (keyA Tryz.prog 148) = true ∧ ∀ s e, mget ks vs (.agg [.int .i64 s, .int .i64 e]) = if endsAt L s e = true then some (.bool true) else none
theorem key_end (s e : Int) : keyA Tryz.prog 148 (.agg [.int .i64 s, .int .i64 e]) = true := by simp only [go_sem]
theorem seen_step {L : List Lnk} {l : Lnk} {ks vs : List AV} (h : seenOk L ks vs) :
    seenOk (L ++ [l]) (mset (mset ks vs (.agg [.int .i64 l.a, .int .i64 l.ea]) (.bool true)).1 (mset ks vs (.agg [.int .i64 l.a, .int .i64 l.ea]) (.bool true)).2 (.agg [.int .i64 l.b, .int .i64 l.eb]) (.bool true)).1
      (mset (mset ks vs (.agg [.int .i64 l.a, .int .i64 l.ea]) (.bool true)).1 (mset ks vs (.agg [.int .i64 l.a, .int .i64 l.ea]) (.bool true)).2 (.agg [.int .i64 l.b, .int .i64 l.eb]) (.bool true)).2 := by
  refine ⟨mset_keys (mset_keys h.1 (key_end _ _)) (key_end _ _), fun s e => ?_⟩
  rw [mget_mset, mget_mset, h.2]
  simp only [AV.agg.injEq, List.cons.injEq, AV.int.injEq, true_and, and_true]
  unfold endsAt
  simp only [List.any_append, List.any_cons, List.any_nil, Bool.or_false, Bool.or_eq_true, Bool.and_eq_true, decide_eq_true_eq]
  by_cases h1 : l.a = s ∧ l.ea = e <;> by_cases h2 : l.b = s ∧ l.eb = e <;> simp [h1, h2]
theorem gate_seen {L : List Lnk} {ks vs : List AV} (h : seenOk L ks vs) (s e : Int) : (endsAt L s e = true ∧ mget ks vs (.agg [.int .i64 s, .int .i64 e]) = some (.bool true)) ∨ (endsAt L s e = false ∧ mget ks vs (.agg [.int .i64 s, .int .i64 e]) = none) := by
  have := h.2 s e
  cases hh : endsAt L s e with
  | true => rw [hh] at this; exact .inl ⟨rfl, by simpa using this⟩
  | false => rw [hh] at this; exact .inr ⟨rfl, by simpa using this⟩

set_option maxHeartbeats 4000000 in
set_option maxRecDepth 20000 in
theorem f45 (n : Net) (hb : NetB n) : PCall Tryz.prog 45 [eNet n] (RV (.int .i64 (linksE n))) := by
  refine PCall.of_body Tryz.func45 rfl Tryz.ntmps45 (congrArg Array.toList Tryz.results45) ?_
  intro E
  have hlk := hb.lk
  have hsc := hb.sc
  simp only [go_sem, eNet, nCells]
  refine AW_loopH [2, 4, 5, 6, 7, 8, 13, 14, 15, 16, 17, 18, 19, 20, 21, 22, 23, 24, 25, 26, 27, 28, 29, 30, 31, 32, 33, 34, 35, 36, 37, 38, 39, 40, 41, 42, 43, 44, 45, 46, 47, 48, 49, 50, 51, 52, 53, 54, 55, 56, 57, 58, 59, 60, 61, 62, 63, 64, 65, 66, 67, 68, 69, 70, 71, 72, 73, 74, 75, 76, 77, 78, 79, 80, 81, 82, 83, 84]
    (fun (i : Nat) ρ m => ρ 13 = .int .i64 (i : Int) ∧ i ≤ n.links.length ∧ firstE (linkE n) (n.links.length - i) i = linksE n ∧
      ∃ h nx lv ks vs, m = ⟨h, [], nx, lv⟩ ∧ AB.hget h 1 = some (0, nCells n) ∧ AB.hget h 9 = some (0, [.mapc ks vs]) ∧ seenOk (n.links.take i) ks vs) (fun i => n.links.length - i) 0 ?_ ?_
  · simp only [go_sem]
    refine ⟨Nat.zero_le _, rfl, _, _, _, [], [], rfl, by simp [go_sem, nCells], by simp [go_sem], rfl, fun s e => ?_⟩
    simp [mget, endsAt]
  · rintro i ρ m ⟨e1, g1, g2, h, nx, lv, ks, vs, rfl, hb1, hb9, hs⟩ Q hN hR hX
    simp only [nCells] at hb1
    by_cases hlt : i < n.links.length
    · obtain ⟨l, hl⟩ : ∃ l, n.links[i]? = some l := ⟨_, List.getElem?_eq_getElem hlt⟩
      have hlt' : ((i : Int) < (n.links.length : Int)) = True := by simp; omega
      have hf : firstE (linkE n) (n.links.length - i) i = if linkE n i ≠ 0 then linkE n i else firstE (linkE n) (n.links.length - (i + 1)) (i + 1) := by
        have : n.links.length - i = (n.links.length - (i + 1)) + 1 := by omega
        rw [this]; rfl
      rw [hf] at g2
      have hge : linkE n i = if hasF n l.a l.ea = false ∨ hasF n l.b l.eb = false then 3 else if l.a = l.b then 1
          else if l.b < l.a ∨ (0 < i ∧ lessF (((n.links[i - 1]?).map Lnk.a).getD 0) (((n.links[i - 1]?).map Lnk.ea).getD 0) l.a l.ea = false) then 5
          else if (endsAt (n.links.take i) l.a l.ea || endsAt (n.links.take i) l.b l.eb) = true then 6 else 0 := by simp [linkE, hl, twice_eq]
      have htk : n.links.take (i + 1) = n.links.take i ++ [l] := by rw [List.take_add_one, hl]; rfl
      have ew : IntKind.i64.wrap ((i : Int) + 1) = (i : Int) + 1 := i64_in (by omega) (by omega)
      have hst := seen_step (l := l) hs
      rw [← htk] at hst
      simp only [go_sem, e1, hlt', hl, dLnk, hb1]
      generalize genO (AB.hget h 5) = G5
      refine ⟨by omega, ?_⟩
      refine drawnT [2, 2, 2, 2, 2, 2, 2, 2, 2, 2, 3, 4, 1, 1] (.alt 10 [2, 2, 2, 2, 2, 2, 2, 2, 2, 2, 0, 3, 1, 1] (.alt 11 [2, 2, 2, 2, 2, 2, 2, 2, 2, 2, 0, 0, 3, 1] (.alt 12 [0, 0, 0, 0, 0, 2, 2, 2, 2, 2, 0, 0, 0, 3] (.alt 13 [0, 0, 0, 0, 0, 0, 0, 0, 0, 0, 0, 0, 0, 0] .fin .nil) .nil) .nil) (.alt 11 [2, 2, 2, 2, 2, 2, 2, 2, 2, 2, 3, 0, 1, 1] (.alt 10 [2, 2, 2, 2, 2, 2, 2, 2, 2, 2, 0, 0, 3, 1] (.alt 12 [0, 0, 0, 0, 0, 2, 2, 2, 2, 2, 0, 0, 0, 3] (.alt 13 [0, 0, 0, 0, 0, 0, 0, 0, 0, 0, 0, 0, 0, 0] .fin .nil) .nil) .nil) .nil)) 85 (by kernel_rfl) (by kernel_rfl) (by kernel_rfl) (by kernel_rfl) rfl ?_
      simp only [go_sem]
      generalize genO (AB.hget h 6) = G6
      generalize genO (AB.hget h 7) = G7
      refine And.intro ?_ ?_
      all_goals
        intro _ _ _ _ _ _ _ _ _ _ _ _ _ _ _ _ nx1 lv1 _ _
        simp only [go_sem, hb1]
        generalize hh : AB.hset _ 7 G7 [AV.int .i64 l.b, AV.int .i64 l.eb] = h2
        have b1 : AB.hget h2 1 = some (0, nCells n) := by rw [← hh]; simp [go_sem, hb1, nCells]
        have b9 : AB.hget h2 9 = some (0, [.mapc ks vs]) := by rw [← hh]; simp [go_sem, hb9]
        have b5 : AB.hget h2 5 = some (G5, [AV.int .i64 l.a, AV.int .i64 l.ea, AV.int .i64 l.b, AV.int .i64 l.eb]) := by rw [← hh]; simp [go_sem]
        have b6 : AB.hget h2 6 = some (G6, [AV.int .i64 l.a, AV.int .i64 l.ea]) := by rw [← hh]; simp [go_sem]
        have b7 : AB.hget h2 7 = some (G7, [AV.int .i64 l.b, AV.int .i64 l.eb]) := by rw [← hh]; simp [go_sem]
        clear hh hb1 hb9
        simp only [nCells] at b1
        refine callV (f83 n l.a l.ea hb) ?_
        intro nx2 lv2
        by_cases q1 : hasF n l.a l.ea = true
        · simp only [go_sem, b1, b5, b6, b7, q1]
          refine callV (f83 n l.b l.eb hb) ?_
          intro nx2 lv2
          by_cases q2 : hasF n l.b l.eb = true
          · by_cases q3 : l.a = l.b
            · simp only [go_sem, b1, b5, b6, b7, q2, q3, hR]
              rw [← g2, show linkE n i = 1 by rw [hge, if_neg (by rw [q1, q2]; simp), if_pos q3]]; rfl
            · by_cases q4 : l.b < l.a
              · simp only [go_sem, b1, b5, b6, b7, q2, q3, q4, hR]
                rw [← g2, show linkE n i = 5 by rw [hge]; simp [q1, q2, q3, q4]]; rfl
              · by_cases q5 : 0 < i
                · have q5' : ((0 : Int) < (i : Int)) = True := by simp; omega
                  obtain ⟨r, hr⟩ : ∃ r, n.links[i - 1]? = some r := ⟨_, List.getElem?_eq_getElem (by omega)⟩
                  have ei : ((i : Int) - 1).toNat = i - 1 := by omega
                  have ew2 : IntKind.i64.wrap ((i : Int) - 1) = (i : Int) - 1 := i64_in (by omega) (by omega)
                  simp only [go_sem, b1, b5, b6, b7, q2, q3, q4, q5', ew2, ei, hr, dLnk]
                  generalize genO (AB.hget h2 8) = G8
                  refine ⟨by omega, ?_⟩
                  refine drawn (by kernel_rfl) (by kernel_rfl) ?_
                  simp only [go_sem, b1, b5, b6, b7]
                  refine quietD (f85 _ _) (fun _ => rfl) ?_
                  simp only [go_sem, b1, b5, b6, b7]
                  refine quietD (f85 _ _) (fun _ => rfl) ?_
                  simp only [go_sem, b1, b5, b6, b7]
                  refine quietD (f84 _ _) (fun _ => rfl) ?_
                  by_cases q6 : lessF r.a r.ea l.a l.ea = false
                  · have q7 := (order_F _ _ _ _).2 q6
                    simp only [go_sem, q7, hR]
                    intro _ _ _ _
                    rw [← g2, show linkE n i = 5 by rw [hge]; simp [q1, q2, q3, q4, q5, hr, q6]]; rfl
                  · have q7 : ¬ _ := fun x => q6 ((order_F _ _ _ _).1 x)
                    have q6 : lessF r.a r.ea l.a l.ea = true := by simpa using q6
                    simp only [go_sem, b1, b5, b6, b7, q7]
                    intro nx3 lv3 _ _
                    rcases gate_seen hs l.a l.ea with ⟨s1, t1⟩ | ⟨s1, t1⟩
                    · simp only [go_sem, b1, b5, b6, b7, b9, t1, hs.1, hR]
                      rw [← g2, show linkE n i = 6 by rw [hge]; simp [q1, q2, q3, q4, hr, q6, s1]]; rfl
                    · rcases gate_seen hs l.b l.eb with ⟨s2, t2⟩ | ⟨s2, t2⟩
                      · simp only [go_sem, b1, b5, b6, b7, b9, t1, t2, hs.1, hR]
                        rw [← g2, show linkE n i = 6 by rw [hge]; simp [q1, q2, q3, q4, hr, q6, s1, s2]]; rfl
                      · simp only [go_sem, b1, b5, b6, b7, b9, t1, t2, hs.1]
                        refine drawnT [2, 2, 2, 2, 3, 1] (.alt 4 [0, 0, 2, 2, 0, 3] (.alt 5 [0, 0, 0, 0, 0, 0] .fin .nil) .nil) 85 (by kernel_rfl) (by kernel_rfl) (by kernel_rfl) (by kernel_rfl) rfl ?_
                        simp only [go_sem, b1, b5, b6, b7, b9, hs.1, hN, ew]
                        intro _ _ _ _ nx5 lv5 _ _
                        refine ⟨mset_keys hs.1 (key_end _ _), fun nx6 lv6 _ _ => ⟨by kernel_rfl, i + 1, ?_, by simp only; omega⟩⟩
                        simp only [go_sem]
                        exact ⟨by simp, by omega, by rw [← g2, show linkE n i = 0 by rw [hge]; simp [q1, q2, q3, q4, hr, q6, s1, s2]]; rfl, _, _, _, _, _, rfl, by simp [go_sem, b1, nCells], by simp [go_sem], hst⟩
                · have q5' : ((0 : Int) < (i : Int)) = False := by simp; omega
                  rcases gate_seen hs l.a l.ea with ⟨s1, t1⟩ | ⟨s1, t1⟩
                  · simp only [go_sem, b1, b5, b6, b7, b9, q2, q3, q4, q5', t1, hs.1, hR]
                    rw [← g2, show linkE n i = 6 by rw [hge]; simp [q1, q2, q3, q4, q5, s1]]; rfl
                  · rcases gate_seen hs l.b l.eb with ⟨s2, t2⟩ | ⟨s2, t2⟩
                    · simp only [go_sem, b1, b5, b6, b7, b9, q2, q3, q4, q5', t1, t2, hs.1, hR]
                      rw [← g2, show linkE n i = 6 by rw [hge]; simp [q1, q2, q3, q4, q5, s1, s2]]; rfl
                    · simp only [go_sem, b1, b5, b6, b7, b9, q2, q3, q4, q5', t1, t2, hs.1]
                      refine drawnT [2, 2, 2, 2, 3, 1] (.alt 4 [0, 0, 2, 2, 0, 3] (.alt 5 [0, 0, 0, 0, 0, 0] .fin .nil) .nil) 85 (by kernel_rfl) (by kernel_rfl) (by kernel_rfl) (by kernel_rfl) rfl ?_
                      simp only [go_sem, b1, b5, b6, b7, b9, hs.1, hN, ew]
                      intro _ _ _ _ nx5 lv5 _ _
                      refine ⟨mset_keys hs.1 (key_end _ _), fun nx6 lv6 _ _ => ⟨by kernel_rfl, i + 1, ?_, by simp only; omega⟩⟩
                      simp only [go_sem]
                      exact ⟨by simp, by omega, by rw [← g2, show linkE n i = 0 by rw [hge]; simp [q1, q2, q3, q4, q5, s1, s2]]; rfl, _, _, _, _, _, rfl, by simp [go_sem, b1, nCells], by simp [go_sem], hst⟩
          · have q2 : hasF n l.b l.eb = false := by simpa using q2
            simp only [go_sem, b1, b5, b6, b7, q2, hR]
            rw [← g2, show linkE n i = 3 by rw [hge]; simp [q1, q2]]; rfl
        · have q1 : hasF n l.a l.ea = false := by simpa using q1
          simp only [go_sem, b1, b5, b6, b7, q1, hR]
          rw [← g2, show linkE n i = 3 by rw [hge]; simp [q1]]; rfl
    · have hlt' : ((i : Int) < (n.links.length : Int)) = False := by simp; omega
      have : n.links.length - i = 0 := by omega
      rw [this] at g2
      simp only [go_sem, e1, hX, hlt']
      rw [← g2]; rfl
end Go.Proofs.YteadhjclchjfjaaGreat

/- Nets: their check, the program's and the reference's. -/
namespace Go.Proofs.YteadhjclchjfjaaGreat
set_option linter.unusedSimpArgs false
set_option linter.unusedVariables false
open Go.AB

def nameE (l : List (List UInt8)) (i : Nat) : Int := match l[i]? with
  | none => 0
  | some s => if nameOk s = false then 1 else if s ∈ l.take i then 6 else 0
def namesE (n : Net) : Int := firstE (nameE n.names) n.names.length 0
def secAt (n : Net) (i : Nat) : Int := match n.sects[i]? with
  | none => 0
  | some s => secE s n.names.length
def secsE (n : Net) : Int := firstE (secAt n) n.sects.length 0
def bigN (n : Net) : Prop := 12 < n.names.length ∨ 60 < n.sects.length ∨ 90 < n.links.length ∨ 40 < n.sigs.length ∨ 8 < n.gates.length
instance (n : Net) : Decidable (bigN n) := by unfold bigN; infer_instance
/-- The error of a net. -/
def netE (n : Net) : Int :=
  if n.sects.length = 0 then 1 else if bigN n then 4 else if namesE n ≠ 0 then namesE n else if secsE n ≠ 0 then secsE n else if linksE n ≠ 0 then linksE n else restE n

theorem firstE_zero {f : Nat → Int} : ∀ {k i j : Nat}, firstE f k i = 0 → i ≤ j → j < i + k → f j = 0
  | 0, i, j, _, h1, h2 => by omega
  | k + 1, i, j, h, h1, h2 => by
    unfold firstE at h
    split at h
    · rename_i h0; exact absurd h h0
    · rename_i h0
      by_cases e : j = i
      · subst e; simpa using h0
      · exact firstE_zero h (by omega) (by omega)
theorem secs_kinds {n : Net} (h : secsE n = 0) : KindsOk n := by
  intro s hs
  obtain ⟨i, hi, rfl⟩ := List.getElem_of_mem hs
  have := firstE_zero (j := i) h (Nat.zero_le _) (by omega)
  simp only [secAt, List.getElem?_eq_getElem hi] at this
  exact secE_kind this
theorem firstE_step {f : Nat → Int} {len i : Nat} (h : i < len) : firstE f (len - i) i = if f i ≠ 0 then f i else firstE f (len - (i + 1)) (i + 1) := by
  have : len - i = (len - (i + 1)) + 1 := by omega
  rw [this]; rfl
theorem firstE_end {f : Nat → Int} {len i : Nat} (h : ¬ i < len) : firstE f (len - i) i = 0 := by
  have : len - i = 0 := by omega
  rw [this]; rfl
theorem firstE_hit {f : Nat → Int} {len i : Nat} {v r : Int} (h : i < len) (hf : f i = v) (hv : v ≠ 0) (g : firstE f (len - i) i = r) : r = v := by
  rw [firstE_step h, hf, if_pos hv] at g; exact g.symm
theorem firstE_go {f : Nat → Int} {len i : Nat} {r : Int} (h : i < len) (hf : f i = 0) (g : firstE f (len - i) i = r) : firstE f (len - (i + 1)) (i + 1) = r := by
  rw [firstE_step h, hf] at g; simpa using g

set_option maxHeartbeats 4000000 in
set_option maxRecDepth 20000 in
theorem f17 (n : Net) (hb : NetB n) : PCall Tryz.prog 17 [eNet n] (RV (.int .i64 (netE n))) := by
  refine PCall.of_body Tryz.func17 rfl Tryz.ntmps17 (congrArg Array.toList Tryz.results17) ?_
  intro E
  obtain ⟨hnm, hsc, hlk, hsg, hgt, hst⟩ := hb
  have hb : NetB n := ⟨hnm, hsc, hlk, hsg, hgt, hst⟩
  by_cases c0 : n.sects.length = 0
  · have c0' : ((n.sects.length : Int) = 0) = True := by simp [c0]
    simp only [go_sem, eNet, nCells, c0']
    simp [netE, c0]
  have c0' : ((n.sects.length : Int) = 0) = False := by simp only [eq_iff_iff, iff_false]; omega
  have big : bigN n → netE n = 4 := fun h => by simp [netE, c0, h]
  by_cases c1 : 12 < n.names.length
  · have c1' : ((12 : Int) < (n.names.length : Int)) = True := by simp; omega
    simp only [go_sem, eNet, nCells, c0', c1']
    rw [big (by unfold bigN; omega)]
  have c1' : ((12 : Int) < (n.names.length : Int)) = False := by simp; omega
  by_cases c2 : 60 < n.sects.length
  · have c2' : ((60 : Int) < (n.sects.length : Int)) = True := by simp; omega
    simp only [go_sem, eNet, nCells, c0', c1', c2']
    rw [big (by unfold bigN; omega)]
  have c2' : ((60 : Int) < (n.sects.length : Int)) = False := by simp; omega
  by_cases c3 : 90 < n.links.length
  · have c3' : ((90 : Int) < (n.links.length : Int)) = True := by simp; omega
    simp only [go_sem, eNet, nCells, c0', c1', c2', c3']
    rw [big (by unfold bigN; omega)]
  have c3' : ((90 : Int) < (n.links.length : Int)) = False := by simp; omega
  by_cases c4 : 40 < n.sigs.length
  · have c4' : ((40 : Int) < (n.sigs.length : Int)) = True := by simp; omega
    simp only [go_sem, eNet, nCells, c0', c1', c2', c3', c4']
    rw [big (by unfold bigN; omega)]
  have c4' : ((40 : Int) < (n.sigs.length : Int)) = False := by simp; omega
  by_cases c5 : 8 < n.gates.length
  · have c5' : ((8 : Int) < (n.gates.length : Int)) = True := by simp; omega
    simp only [go_sem, eNet, nCells, c0', c1', c2', c3', c4', c5']
    rw [big (by unfold bigN; omega)]
  have c5' : ((8 : Int) < (n.gates.length : Int)) = False := by simp; omega
  have hnb : ¬ bigN n := by unfold bigN; omega
  have hge : netE n = if namesE n ≠ 0 then namesE n else if secsE n ≠ 0 then secsE n else if linksE n ≠ 0 then linksE n else restE n := by simp [netE, c0, hnb]
  simp only [go_sem, eNet, nCells, c0', c1', c2', c3', c4', c5']
  refine AW_loopH [2, 3, 4, 48, 49, 50, 51, 52, 53, 54, 55, 56, 57, 58, 59, 60, 61, 62, 63, 64]
    (fun (i : Nat) ρ m => ρ 48 = .int .i64 (i : Int) ∧ i ≤ n.names.length ∧ firstE (nameE n.names) (n.names.length - i) i = namesE n ∧
      ∃ h nx lv, m = ⟨h, [], nx, lv⟩ ∧ AB.hget h 1 = some (0, nCells n)) (fun i => n.names.length - i) 0 ?_ ?_
  · simp only [go_sem]
    exact ⟨Nat.zero_le _, rfl, _, _, _, rfl, by simp [go_sem, nCells]⟩
  · rintro i ρ m ⟨e1, g1, g2, h, nx, lv, rfl, hb1⟩ Q hN hR hX
    simp only [nCells] at hb1
    by_cases hlt : i < n.names.length
    · obtain ⟨s, hs⟩ : ∃ s, n.names[i]? = some s := ⟨_, List.getElem?_eq_getElem hlt⟩
      have hsl : s.length ≤ 140737488351232 := hst s (List.mem_of_getElem? hs)
      have hlt' : ((i : Int) < (n.names.length : Int)) = True := by simp; omega
      have ew : IntKind.i64.wrap ((i : Int) + 1) = (i : Int) + 1 := i64_in (by omega) (by omega)
      have hne : nameE n.names i = if nameOk s = false then 1 else if s ∈ n.names.take i then 6 else 0 := by simp [nameE, hs]
      have h0i : ((0 : Int) ≤ (i : Int)) = True := by simp
      have hcut : (n.names.take i).map DV.str = List.take (i - 0) (List.map DV.str n.names) := by simp [List.map_take]
      have hf93 := f43 (n.names.take i) s (by simp; omega)
      rw [hcut] at hf93
      simp only [go_sem, e1, hlt', hs, hb1]
      refine ⟨by omega, ?_⟩
      refine callV (f42 s hsl) ?_
      intro nx2 lv2
      by_cases q1 : nameOk s = true
      · simp only [go_sem, hb1, q1, h0i, if_true]
        refine ⟨by omega, by omega, ?_⟩
        refine callV hf93 ?_
        intro nx3 lv3
        by_cases q2 : s ∈ n.names.take i
        · have hv : nameE n.names i = 6 := by rw [hne]; simp [q1, q2]
          simp only [go_sem, hb1, q2, hR]
          have := firstE_hit hlt hv (by omega) g2
          rw [hge, this]; rfl
        · have hv : nameE n.names i = 0 := by rw [hne]; simp [q1, q2]
          simp only [go_sem, hb1, q2, hN, ew]
          refine ⟨by kernel_rfl, i + 1, ?_, by simp only; omega⟩
          simp only [go_sem]
          exact ⟨by simp, by omega, firstE_go hlt hv g2, _, _, _, rfl, by simp [hb1, nCells]⟩
      · have q1 : nameOk s = false := by simpa using q1
        have hv : nameE n.names i = 1 := by rw [hne]; simp [q1]
        simp only [go_sem, q1, hR]
        have := firstE_hit hlt hv (by omega) g2
        rw [hge, this]; rfl
    · have hlt' : ((i : Int) < (n.names.length : Int)) = False := by simp; omega
      rw [firstE_end hlt] at g2
      simp only [go_sem, e1, hX, hlt', hb1]
      have hge : netE n = if secsE n ≠ 0 then secsE n else if linksE n ≠ 0 then linksE n else restE n := by rw [hge, ← g2]; rfl
      refine AW_loopH [2, 6, 7, 68, 69, 70, 71, 72, 73, 74, 75, 76, 77, 78, 79, 80]
        (fun (i : Nat) ρ m => ρ 68 = .int .i64 (i : Int) ∧ i ≤ n.sects.length ∧ firstE (secAt n) (n.sects.length - i) i = secsE n ∧
          ∃ h nx lv, m = ⟨h, [], nx, lv⟩ ∧ AB.hget h 1 = some (0, nCells n)) (fun i => n.sects.length - i) 0 ?_ ?_
      · simp only [go_sem]
        exact ⟨Nat.zero_le _, rfl, _, _, _, rfl, by simp [hb1, nCells]⟩
      · clear g1 g2 hlt hlt' hb1 e1 hN hR hX Q
        rintro i ρ m ⟨e1, g1, g2, h, nx, lv, rfl, hb1⟩ Q hN hR hX
        simp only [nCells] at hb1
        by_cases hlt : i < n.sects.length
        · obtain ⟨s, hs⟩ : ∃ s, n.sects[i]? = some s := ⟨_, List.getElem?_eq_getElem hlt⟩
          have hlt' : ((i : Int) < (n.sects.length : Int)) = True := by simp; omega
          have ew : IntKind.i64.wrap ((i : Int) + 1) = (i : Int) + 1 := i64_in (by omega) (by omega)
          have hv : secAt n i = secE s n.names.length := by simp [secAt, hs]
          simp only [go_sem, e1, hlt', hs, hb1, dSect]
          generalize genO (AB.hget h 6) = G6
          refine ⟨by omega, ?_⟩
          refine callV (f44 s n.names.length) ?_
          intro nx2 lv2
          by_cases q1 : secE s n.names.length = 0
          · simp only [go_sem, q1, hN, ew]
            refine ⟨by kernel_rfl, i + 1, ?_, by simp only; omega⟩
            simp only [go_sem]
            exact ⟨by simp, by omega, firstE_go hlt (by rw [hv, q1]) g2, _, _, _, rfl, by simp [go_sem, hb1, nCells]⟩
          · simp only [go_sem, q1, hR]
            have := firstE_hit hlt hv q1 g2
            rw [hge, this, if_pos q1]
        · have hlt' : ((i : Int) < (n.sects.length : Int)) = False := by simp; omega
          rw [firstE_end hlt] at g2
          simp only [go_sem, e1, hX, hlt', hb1]
          have hge : netE n = if linksE n ≠ 0 then linksE n else if sigsE n ≠ 0 then sigsE n else gatesE n := by rw [hge, ← g2]; rfl
          refine AW_loopH [2, 9, 10, 82, 83, 84, 85, 86, 87, 88, 89, 90, 91]
            (fun (i : Nat) ρ m => ρ 82 = .int .i64 (i : Int) ∧ i ≤ 3 ∧ (1 ≤ i → linksE n = 0) ∧ (2 ≤ i → sigsE n = 0) ∧ (3 ≤ i → gatesE n = 0) ∧
              ∃ h nx lv, m = ⟨h, [], nx, lv⟩ ∧ AB.hget h 1 = some (0, nCells n)) (fun i => 3 - i) 0 ?_ ?_
          · simp [go_sem, hb1, nCells]
          · clear g1 g2 hlt hlt' hb1 e1 hN hR hX Q
            rintro i ρ m ⟨e1, g1, r1, r2, r3, h, nx, lv, rfl, hb1⟩ Q hN hR hX
            simp only [nCells] at hb1
            have hi : i = 0 ∨ i = 1 ∨ i = 2 ∨ i = 3 := by omega
            rcases hi with rfl | rfl | rfl | rfl
            · simp only [go_sem, e1, hb1]
              refine callV (f45 n hb) ?_
              intro nx2 lv2
              by_cases q1 : linksE n = 0
              · simp only [go_sem, q1, hN]
                refine ⟨by kernel_rfl, 1, ?_, by simp only; omega⟩
                simp [go_sem, hb1, nCells, q1]
                rfl
              · simp only [go_sem, q1, hR]
                rw [hge, if_pos q1]
            · have q0 := r1 (by omega)
              simp only [go_sem, e1, hb1]
              refine callV (f46 n hb) ?_
              intro nx2 lv2
              by_cases q1 : sigsE n = 0
              · simp only [go_sem, q1, hN]
                refine ⟨by kernel_rfl, 2, ?_, by simp only; omega⟩
                simp [go_sem, hb1, nCells, q0, q1]
                rfl
              · simp only [go_sem, q1, hR]
                rw [hge, if_neg (by simp [q0]), if_pos q1]
            · have q0 := r1 (by omega)
              have q2 := r2 (by omega)
              simp only [go_sem, e1, hb1]
              refine callV (f47 n hb) ?_
              intro nx2 lv2
              by_cases q1 : gatesE n = 0
              · simp only [go_sem, q1, hN]
                refine ⟨by kernel_rfl, 3, ?_, by simp only; omega⟩
                simp [go_sem, hb1, nCells, q0, q1, q2]
                rfl
              · simp only [go_sem, q1, hR]
                rw [hge, if_neg (by simp [q0]), if_neg (by simp [q2])]
            · have q0 := r1 (by omega)
              have q1 := r2 (by omega)
              have q2 := r3 (by omega)
              simp only [go_sem, e1, hX, hge, q0, q1, q2]

set_option maxHeartbeats 4000000 in
set_option maxRecDepth 20000 in
theorem f6 (n : Net) (hb : NetB n) : PCall Tryz.prog 6 [eNet n] (RV (.int .i64 (netE n))) := by
  refine PCall.of_body Tryz.func6 rfl Tryz.ntmps6 (congrArg Array.toList Tryz.results6) ?_
  intro E
  obtain ⟨hnm, hsc, hlk, hsg, hgt, hst⟩ := hb
  have hb : NetB n := ⟨hnm, hsc, hlk, hsg, hgt, hst⟩
  by_cases c0 : n.sects.length = 0
  · have c0' : ((n.sects.length : Int) = 0) = True := by simp [c0]
    simp only [go_sem, eNet, nCells, c0']
    simp [netE, c0]
  have c0' : ((n.sects.length : Int) = 0) = False := by simp only [eq_iff_iff, iff_false]; omega
  have big : bigN n → netE n = 4 := fun h => by simp [netE, c0, h]
  by_cases c1 : 12 < n.names.length
  · have c1' : ((12 : Int) < (n.names.length : Int)) = True := by simp; omega
    simp only [go_sem, eNet, nCells, c0', c1']
    rw [big (by unfold bigN; omega)]
  have c1' : ((12 : Int) < (n.names.length : Int)) = False := by simp; omega
  by_cases c2 : 60 < n.sects.length
  · have c2' : ((60 : Int) < (n.sects.length : Int)) = True := by simp; omega
    simp only [go_sem, eNet, nCells, c0', c1', c2']
    rw [big (by unfold bigN; omega)]
  have c2' : ((60 : Int) < (n.sects.length : Int)) = False := by simp; omega
  by_cases c3 : 90 < n.links.length
  · have c3' : ((90 : Int) < (n.links.length : Int)) = True := by simp; omega
    simp only [go_sem, eNet, nCells, c0', c1', c2', c3']
    rw [big (by unfold bigN; omega)]
  have c3' : ((90 : Int) < (n.links.length : Int)) = False := by simp; omega
  by_cases c4 : 40 < n.sigs.length
  · have c4' : ((40 : Int) < (n.sigs.length : Int)) = True := by simp; omega
    simp only [go_sem, eNet, nCells, c0', c1', c2', c3', c4']
    rw [big (by unfold bigN; omega)]
  have c4' : ((40 : Int) < (n.sigs.length : Int)) = False := by simp; omega
  by_cases c5 : 8 < n.gates.length
  · have c5' : ((8 : Int) < (n.gates.length : Int)) = True := by simp; omega
    simp only [go_sem, eNet, nCells, c0', c1', c2', c3', c4', c5']
    rw [big (by unfold bigN; omega)]
  have c5' : ((8 : Int) < (n.gates.length : Int)) = False := by simp; omega
  have hnb : ¬ bigN n := by unfold bigN; omega
  have hge : netE n = if namesE n ≠ 0 then namesE n else if secsE n ≠ 0 then secsE n else if linksE n ≠ 0 then linksE n else restE n := by simp [netE, c0, hnb]
  simp only [go_sem, eNet, nCells, c0', c1', c2', c3', c4', c5']
  refine AW_loopH [2, 3, 4, 6, 47, 48, 49, 50, 51, 52, 53, 54, 55, 56, 57, 58, 59, 60, 61, 62, 63, 64, 65, 66, 67, 68]
    (fun (i : Nat) ρ m => ρ 47 = .int .i64 (i : Int) ∧ i ≤ n.names.length ∧ firstE (nameE n.names) (n.names.length - i) i = namesE n ∧
      ∃ h nx lv, m = ⟨h, [], nx, lv⟩ ∧ AB.hget h 1 = some (0, nCells n)) (fun i => n.names.length - i) 0 ?_ ?_
  · simp only [go_sem]
    exact ⟨Nat.zero_le _, rfl, _, _, _, rfl, by simp [go_sem, nCells]⟩
  · rintro i ρ m ⟨e1, g1, g2, h, nx, lv, rfl, hb1⟩ Q hN hR hX
    simp only [nCells] at hb1
    by_cases hlt : i < n.names.length
    · obtain ⟨s, hs⟩ : ∃ s, n.names[i]? = some s := ⟨_, List.getElem?_eq_getElem hlt⟩
      have hsl : s.length ≤ 140737488351232 := hst s (List.mem_of_getElem? hs)
      have hlt' : ((i : Int) < (n.names.length : Int)) = True := by simp; omega
      have ew : IntKind.i64.wrap ((i : Int) + 1) = (i : Int) + 1 := i64_in (by omega) (by omega)
      have hne : nameE n.names i = if nameOk s = false then 1 else if s ∈ n.names.take i then 6 else 0 := by simp [nameE, hs]
      have h0i : ((0 : Int) ≤ (i : Int)) = True := by simp
      simp only [go_sem, e1, hlt', hs, hb1]
      refine ⟨by omega, ?_⟩
      refine callV (f26 s hsl) ?_
      intro nx2 lv2
      by_cases q1 : nameOk s = true
      · simp only [go_sem, hb1, q1, h0i, if_true]
        refine ⟨by omega, by omega, ?_⟩
        refine AW_loopH [2, 6, 60, 61, 62, 63, 64, 65, 66, 67]
          (fun (x : Nat) ρ m => ρ 60 = .int .i64 (x : Int) ∧ x ≤ i ∧ (s ∉ n.names.take x) ∧ ∃ h nx lv, m = ⟨h, [], nx, lv⟩ ∧ AB.hget h 1 = some (0, nCells n)) (fun x => i - x) 0 ?_ ?_
        · simp only [go_sem]
          refine ⟨Nat.zero_le _, by simp, _, _, _, rfl, by simp [hb1, nCells]⟩
        · rintro x ρ m ⟨f1, r1, r2, h, nx, lv, rfl, hb1⟩ Q2 hN2 hR2 hX2
          simp only [nCells] at hb1
          have hlen : (List.take (i - 0) (List.map DV.str n.names)).length = i := by simp; omega
          by_cases hx : x < i
          · obtain ⟨k, hk⟩ : ∃ k, n.names[x]? = some k := ⟨_, List.getElem?_eq_getElem (by omega)⟩
            have hx' : ((x : Int) < (i : Int)) = True := by simp; omega
            have hxL : ((x : Int) < ((List.take (i - 0) (List.map DV.str n.names)).length : Int)) = True := by rw [hlen]; exact hx'
            have hk' : (List.take (i - 0) (List.map DV.str n.names))[x]? = some (DV.str k) := by
              rw [List.getElem?_take, if_pos (by omega), List.getElem?_map, hk]; rfl
            have ex : IntKind.i64.wrap ((x : Int) + 1) = (x : Int) + 1 := i64_in (by omega) (by omega)
            by_cases q2 : s = k
            · have hv : nameE n.names i = 6 := by
                have : s ∈ n.names.take i := List.mem_of_getElem? (i := x) (by rw [List.getElem?_take, if_pos hx, hk, q2])
                rw [hne]; simp [q1, this]
              have := firstE_hit hlt hv (by omega) g2
              simp only [go_sem, f1, hxL, hk', q2, hR2, hR]
              refine ⟨by omega, ?_⟩
              rw [hge, this]; rfl
            · simp only [go_sem, f1, hxL, hk', q2, hN2, ex]
              refine ⟨by omega, by kernel_rfl, x + 1, ?_, by simp only; omega⟩
              simp only [go_sem]
              refine ⟨by simp, by omega, ?_, _, _, _, rfl, by simp [hb1, nCells]⟩
              rw [List.take_add_one, hk]
              simp only [List.mem_append, Option.toList_some, List.mem_singleton]
              exact fun t => t.elim r2 q2
          · have hxL : ((x : Int) < ((List.take (i - 0) (List.map DV.str n.names)).length : Int)) = False := by rw [hlen]; simp; omega
            have hxi : x = i := by omega
            subst hxi
            have hv : nameE n.names x = 0 := by rw [hne]; simp [q1, r2]
            simp only [go_sem, f1, hxL, hX2, hN, e1, ew]
            refine ⟨by kernel_rfl, x + 1, ?_, by simp only; omega⟩
            simp only [go_sem]
            exact ⟨by simp, by omega, firstE_go hlt hv g2, _, _, _, rfl, by simp [hb1, nCells]⟩
      · have q1 : nameOk s = false := by simpa using q1
        have hv : nameE n.names i = 1 := by rw [hne]; simp [q1]
        simp only [go_sem, q1, hR]
        have := firstE_hit hlt hv (by omega) g2
        rw [hge, this]; rfl
    · have hlt' : ((i : Int) < (n.names.length : Int)) = False := by simp; omega
      rw [firstE_end hlt] at g2
      simp only [go_sem, e1, hX, hlt', hb1]
      have hge : netE n = if secsE n ≠ 0 then secsE n else if linksE n ≠ 0 then linksE n else restE n := by rw [hge, ← g2]; rfl
      refine AW_loopH [2, 8, 9, 72, 73, 74, 75, 76, 77, 78, 79, 80, 81, 82, 83, 84]
        (fun (i : Nat) ρ m => ρ 72 = .int .i64 (i : Int) ∧ i ≤ n.sects.length ∧ firstE (secAt n) (n.sects.length - i) i = secsE n ∧
          ∃ h nx lv, m = ⟨h, [], nx, lv⟩ ∧ AB.hget h 1 = some (0, nCells n)) (fun i => n.sects.length - i) 0 ?_ ?_
      · simp only [go_sem]
        exact ⟨Nat.zero_le _, rfl, _, _, _, rfl, by simp [hb1, nCells]⟩
      · clear g1 g2 hlt hlt' hb1 e1 hN hR hX Q
        rintro i ρ m ⟨e1, g1, g2, h, nx, lv, rfl, hb1⟩ Q hN hR hX
        simp only [nCells] at hb1
        by_cases hlt : i < n.sects.length
        · obtain ⟨s, hs⟩ : ∃ s, n.sects[i]? = some s := ⟨_, List.getElem?_eq_getElem hlt⟩
          have hlt' : ((i : Int) < (n.sects.length : Int)) = True := by simp; omega
          have ew : IntKind.i64.wrap ((i : Int) + 1) = (i : Int) + 1 := i64_in (by omega) (by omega)
          have hv : secAt n i = secE s n.names.length := by simp [secAt, hs]
          simp only [go_sem, e1, hlt', hs, hb1, dSect]
          generalize genO (AB.hget h 8) = G6
          refine ⟨by omega, ?_⟩
          refine callV (f27 s n.names.length) ?_
          intro nx2 lv2
          by_cases q1 : secE s n.names.length = 0
          · simp only [go_sem, q1, hN, ew]
            refine ⟨by kernel_rfl, i + 1, ?_, by simp only; omega⟩
            simp only [go_sem]
            exact ⟨by simp, by omega, firstE_go hlt (by rw [hv, q1]) g2, _, _, _, rfl, by simp [go_sem, hb1, nCells]⟩
          · simp only [go_sem, q1, hR]
            have := firstE_hit hlt hv q1 g2
            rw [hge, this, if_pos q1]
        · have hlt' : ((i : Int) < (n.sects.length : Int)) = False := by simp; omega
          rw [firstE_end hlt] at g2
          have hks : KindsOk n := secs_kinds g2.symm
          simp only [go_sem, e1, hX, hlt', hb1]
          have hge : netE n = if linksE n ≠ 0 then linksE n else restE n := by rw [hge, ← g2]; rfl
          refine AW_loopH [2, 10, 11, 88, 89, 90, 91, 92, 93, 94, 95, 96, 97]
            (fun (i : Nat) ρ m => ρ 88 = .int .i64 (i : Int) ∧ i ≤ n.links.length ∧ firstE (linkE n) (n.links.length - i) i = linksE n ∧
              ∃ h nx lv, m = ⟨h, [], nx, lv⟩ ∧ AB.hget h 1 = some (0, nCells n)) (fun i => n.links.length - i) 0 ?_ ?_
          · simp only [go_sem]
            exact ⟨Nat.zero_le _, rfl, _, _, _, rfl, by simp [hb1, nCells]⟩
          · clear g1 g2 hlt hlt' hb1 e1 hN hR hX Q
            rintro i ρ m ⟨e1, g1, g2, h, nx, lv, rfl, hb1⟩ Q hN hR hX
            simp only [nCells] at hb1
            by_cases hlt : i < n.links.length
            · obtain ⟨l, hl⟩ : ∃ l, n.links[i]? = some l := ⟨_, List.getElem?_eq_getElem hlt⟩
              have hlt' : ((i : Int) < (n.links.length : Int)) = True := by simp; omega
              have ew : IntKind.i64.wrap ((i : Int) + 1) = (i : Int) + 1 := i64_in (by omega) (by omega)
              simp only [go_sem, e1, hlt', hb1]
              refine callV (f28 n i l hl hb hks) ?_
              intro nx2 lv2
              by_cases q1 : linkE n i = 0
              · simp only [go_sem, q1, hN, ew]
                refine ⟨by kernel_rfl, i + 1, ?_, by simp only; omega⟩
                simp only [go_sem]
                exact ⟨by simp, by omega, firstE_go hlt q1 g2, _, _, _, rfl, by simp [hb1, nCells]⟩
              · simp only [go_sem, q1, hR]
                have := firstE_hit hlt rfl q1 g2
                rw [hge, this, if_pos q1]
            · have hlt' : ((i : Int) < (n.links.length : Int)) = False := by simp; omega
              rw [firstE_end hlt] at g2
              simp only [go_sem, e1, hX, hlt', hb1]
              refine callV (f29 n hb hks) ?_
              intro nx2 lv2
              simp only [go_sem]
              rw [hge, ← g2]; rfl
end Go.Proofs.YteadhjclchjfjaaGreat

/- The law LineChecks over its contracts, for all nets. -/
namespace Go.Proofs.YteadhjclchjfjaaGreat
set_option linter.unusedSimpArgs false
set_option linter.unusedVariables false
open Go.AB

theorem openSect {x : DV} (h : ElD Tryz.prog 75 x) : ∃ s : Sect, x = dSect s := by
  obtain ⟨cs, rfl, k⟩ := h.agg_inv Tryz.underlying75 rfl
  obtain ⟨c1, r, rfl, h1, k⟩ := k.cons_inv
  obtain ⟨c2, r, rfl, h2, k⟩ := k.cons_inv
  obtain ⟨c3, r, rfl, h3, k⟩ := k.cons_inv
  obtain ⟨c4, r, rfl, h4, k⟩ := k.cons_inv
  obtain ⟨c5, r, rfl, h5, k⟩ := k.cons_inv
  obtain ⟨c6, r, rfl, h6, k⟩ := k.cons_inv
  obtain ⟨c7, r, rfl, h7, k⟩ := k.cons_inv
  obtain rfl := k.nil_inv
  obtain ⟨v1, rfl, _⟩ := h1.int_inv Tryz.underlying3
  obtain ⟨v2, rfl, _⟩ := h2.int_inv Tryz.underlying3
  obtain ⟨v3, rfl, _⟩ := h3.int_inv Tryz.underlying3
  obtain ⟨v4, rfl, _⟩ := h4.int_inv Tryz.underlying3
  obtain ⟨v5, rfl, _⟩ := h5.int_inv Tryz.underlying3
  obtain ⟨v6, rfl, _⟩ := h6.int_inv Tryz.underlying3
  obtain ⟨b, rfl⟩ := h7.bool_inv Tryz.underlying4
  exact ⟨⟨v1, v2, v3, v4, v5, v6, b⟩, rfl⟩
theorem openNet {x : DV} (h : ElD Tryz.prog 28 x) : ∃ n : Net, toAV x = eNet n ∧ NetB n := by
  obtain ⟨cs, rfl, k⟩ := h.agg_inv Tryz.underlying28 rfl
  obtain ⟨c1, r, rfl, h1, k⟩ := k.cons_inv
  obtain ⟨c2, r, rfl, h2, k⟩ := k.cons_inv
  obtain ⟨c3, r, rfl, h3, k⟩ := k.cons_inv
  obtain ⟨c4, r, rfl, h4, k⟩ := k.cons_inv
  obtain ⟨c5, r, rfl, h5, k⟩ := k.cons_inv
  obtain rfl := k.nil_inv
  obtain ⟨l1, rfl, b1, e1⟩ := h1.sl_inv Tryz.underlying22 (z := 1) (y := 16) (by kernel_rfl) (by kernel_rfl)
  obtain ⟨l2, rfl, b2, e2⟩ := h2.sl_inv Tryz.underlying23 (z := 7) (y := 56) (by kernel_rfl) (by kernel_rfl)
  obtain ⟨l3, rfl, b3, e3⟩ := h3.sl_inv Tryz.underlying24 (z := 4) (y := 32) (by kernel_rfl) (by kernel_rfl)
  obtain ⟨l4, rfl, b4, e4⟩ := h4.sl_inv Tryz.underlying25 (z := 2) (y := 16) (by kernel_rfl) (by kernel_rfl)
  obtain ⟨l5, rfl, b5, e5⟩ := h5.sl_inv Tryz.underlying26 (z := 2) (y := 16) (by kernel_rfl) (by kernel_rfl)
  obtain ⟨m1, rfl, p1⟩ := map_of_each (f := DV.str) (p := fun s => s.length ≤ 140737488351232) l1 (fun y hy => (e1 y hy).str_inv Tryz.underlying9)
  obtain ⟨m2, rfl, _⟩ := map_of_each (f := dSect) (p := fun _ => True) l2 (fun y hy => by
    obtain ⟨a, ha⟩ := openSect (e2 y hy)
    exact ⟨a, ha, trivial⟩)
  obtain ⟨m3, rfl, _⟩ := map_of_each (f := dLnk) (p := fun _ => True) l3 (fun y hy => by
    obtain ⟨ns, q1, rfl, _⟩ := (e3 y hy).ints 4 (n := 4) (by kernel_rfl) (by kernel_rfl)
    match ns, q1 with
    | [a, b, c, d], _ => exact ⟨⟨a, b, c, d⟩, rfl, trivial⟩)
  obtain ⟨m4, rfl, _⟩ := map_of_each (f := dPair) (p := fun _ => True) l4 (fun y hy => by
    obtain ⟨ns, q1, rfl, _⟩ := (e4 y hy).ints 4 (n := 2) (by kernel_rfl) (by kernel_rfl)
    match ns, q1 with
    | [a, b], _ => exact ⟨⟨a, b⟩, rfl, trivial⟩)
  obtain ⟨m5, rfl, _⟩ := map_of_each (f := dPair) (p := fun _ => True) l5 (fun y hy => by
    obtain ⟨ns, q1, rfl, _⟩ := (e5 y hy).ints 4 (n := 2) (by kernel_rfl) (by kernel_rfl)
    match ns, q1 with
    | [a, b], _ => exact ⟨⟨a, b⟩, rfl, trivial⟩)
  simp only [List.length_map] at b1 b2 b3 b4 b5
  exact ⟨⟨m1, m2, m3, m4, m5⟩, rfl, ⟨by simp only; omega, by simp only; omega, by simp only; omega, by simp only; omega, by simp only; omega, p1⟩⟩

end Go.Proofs.YteadhjclchjfjaaGreat
