/- Legs in plain Lean: a leg that may be is a path that may be. -/
import Derived.Test.YteadhjclchjfjaaGreatL40
namespace Go.Proofs.YteadhjclchjfjaaGreat
set_option linter.unusedSimpArgs false
set_option linter.unusedVariables false
open Go.AB

/-- Steps that are joined, from an end on. -/
def Joins (n : Net) : Int → Int → List Stp → Prop
  | _, _, [] => True
  | s, e, x :: l => joinL n.links s e = some (x.s, x.i) ∧ Joins n x.s x.o l
/-- Where steps from an end lead to. -/
def lastEnd : Int → Int → List Stp → Int × Int
  | s, e, [] => (s, e)
  | _, _, x :: l => lastEnd x.s x.o l
theorem lastEnd_app : ∀ (p q : List Stp) (s e : Int), lastEnd s e (p ++ q) = lastEnd (lastEnd s e p).1 (lastEnd s e p).2 q
  | [], q, s, e => rfl
  | x :: p, q, s, e => lastEnd_app p q x.s x.o
theorem Joins.app {n : Net} : ∀ {p q : List Stp} {s e : Int}, Joins n s e p → Joins n (lastEnd s e p).1 (lastEnd s e p).2 q → Joins n s e (p ++ q)
  | [], _, _, _, _, h => h
  | x :: p, q, s, e, h, h2 => ⟨h.1, Joins.app h.2 h2⟩

theorem sigIdx_get : ∀ (l : List Pair) (s e i : Int), 0 ≤ i → 0 ≤ sigIdx l s e i → i ≤ sigIdx l s e i ∧ l[(sigIdx l s e i - i).toNat]? = some ⟨s, e⟩
  | [], s, e, i, h0, h => by simp [sigIdx] at h
  | x :: l, s, e, i, h0, h => by
    rw [sigIdx_cons] at h ⊢
    split
    · rename_i hx
      obtain ⟨a, b⟩ := x
      simp only at hx
      simp [hx.1, hx.2]
    · rename_i hx
      rw [if_neg hx] at h
      obtain ⟨h1, h2⟩ := sigIdx_get l s e (i + 1) (by omega) h
      refine ⟨by omega, ?_⟩
      have : (sigIdx l s e (i + 1) - i).toNat = (sigIdx l s e (i + 1) - (i + 1)).toNat + 1 := by omega
      rw [this, List.getElem?_cons_succ, h2]

/-- What the way of a route keeps to. -/
structure RtWay (n : Net) (r : Rt) : Prop where
  j : Joins n (homeF n r.fr) (endF2 n r.fr) r.st
  o : OnceP r.st
  h : psec r.st (homeF n r.fr) = false
  t : 0 ≤ r.to → lastEnd (homeF n r.fr) (endF2 n r.fr) r.st = (homeF n r.to, endF2 n r.to)

theorem walkS_join {n : Net} {s e : Int} {x : Stp} (hx : x ∈ walkS n s e) : joinL n.links s e = some (x.s, x.i) := by
  unfold walkS at hx
  split at hx
  · cases hx
  · rename_i t i hj
    simp only [List.mem_map] at hx
    obtain ⟨o, ho, rfl⟩ := hx
    exact hj
theorem psec_app {p q : List Stp} {s : Int} : psec (p ++ q) s = (psec p s || psec q s) := by simp [psec, List.any_append]

theorem stepG_way {g : List Stp → Int → Int → Fd → Fd} {n : Net} {fr home en : Int} {p : List Stp} (hh : homeF n fr = home) (hen : endF2 n fr = en)
    (hp : Joins n home en p) (ho : OnceP p) (hn : psec p home = false)
    (hg : ∀ (x : Stp) f, Joins n home en (p ++ [x]) → OnceP (p ++ [x]) → psec (p ++ [x]) home = false → lastEnd home en (p ++ [x]) = (x.s, x.o) → (∀ r ∈ f.rs, RtWay n r) → ∀ r ∈ (g (p ++ [x]) x.s x.o f).rs, RtWay n r) :
    ∀ (l : List Stp) (f : Fd), (∀ x ∈ l, joinL n.links (lastEnd home en p).1 (lastEnd home en p).2 = some (x.s, x.i)) → (∀ r ∈ f.rs, RtWay n r) → ∀ r ∈ (stepG g n fr home p l f).rs, RtWay n r
  | [], f, _, h => h
  | x :: l, f, hl, h => by
    have hl' : ∀ y ∈ l, joinL n.links (lastEnd home en p).1 (lastEnd home en p).2 = some (y.s, y.i) := fun y hy => hl y (List.mem_cons_of_mem _ hy)
    rw [stepG_cons]
    split
    · exact h
    · split
      · exact h
      · rename_i hns
        split
        · exact h
        · have q1 : x.s ≠ home := fun e => hns (.inl e)
          have q2 : psec p x.s = false := by
            cases c : psec p x.s with
            | false => rfl
            | true => exact absurd (.inr c) hns
          have k1 : Joins n home en (p ++ [x]) := hp.app ⟨hl x (List.mem_cons_self ..), trivial⟩
          have k2 : OnceP (p ++ [x]) := ho.snoc q2
          have k3 : psec (p ++ [x]) home = false := by rw [psec_app, hn]; simp [psec, q1]
          have k4 : lastEnd home en (p ++ [x]) = (x.s, x.o) := by rw [lastEnd_app]; rfl
          split
          · exact stepG_way hh hen hp ho hn hg l _ hl' (hg x f k1 k2 k3 k4 h)
          · refine stepG_way hh hen hp ho hn hg l _ hl' ?_
            intro r hr
            simp only [countF, List.mem_append, List.mem_singleton] at hr
            rcases hr with hr | rfl
            · exact h r hr
            · refine ⟨by simp only [hh, hen]; exact k1, k2, by simp only [hh]; exact k3, fun ht => ?_⟩
              simp only [hh, hen, k4] at ht ⊢
              obtain ⟨_, hs⟩ := sigIdx_get n.sigs x.s x.o 0 (Int.le_refl 0) ht
              rw [Int.sub_zero] at hs
              simp [homeF, endF2, hs]
theorem growF_way {n : Net} {fr home en : Int} (hh : homeF n fr = home) (hen : endF2 n fr = en) : ∀ (k : Nat) (p : List Stp) (s e : Int) (f : Fd), Joins n home en p → OnceP p → psec p home = false → lastEnd home en p = (s, e) → (∀ r ∈ f.rs, RtWay n r) → ∀ r ∈ (growF n fr home k p s e f).rs, RtWay n r
  | 0, _, _, _, _, _, _, _, _, h => h
  | k + 1, p, s, e, f, h1, h2, h3, h4, h => stepG_way hh hen h1 h2 h3 (fun x f a b c d h => growF_way hh hen k _ _ _ f a b c d h) _ _ (fun x hx => by rw [h4]; exact walkS_join hx) h
theorem growAll_way {n : Net} : ∀ (l : List Pair) (i : Nat) (f : Fd), n.sigs.drop i = l → (∀ r ∈ f.rs, RtWay n r) → ∀ r ∈ (growAll n l i f).rs, RtWay n r
  | [], _, _, _, h => h
  | x :: l, i, f, hd, h => by
    have hx : n.sigs[i]? = some x := by
      have := congrArg (fun l => l[0]?) hd
      simpa using this
    have hd' : n.sigs.drop (i + 1) = l := by rw [← List.drop_drop, hd]; rfl
    have := growAll_way l (i + 1) (growF n i x.s 17 [] x.s x.e f) hd' (growF_way (by simp [homeF, hx]) (by simp [endF2, hx]) 17 [] x.s x.e f trivial (by intro j y hy; simp at hy) rfl rfl h)
    simpa [growAll] using this
theorem netRts_way (n : Net) : ∀ r ∈ netRts n, RtWay n r := by
  unfold netRts netL outL
  split
  · split
    · simp
    · exact growAll_way n.sigs 0 ⟨[], 0, false⟩ rfl (by simp)
  · simp
end Go.Proofs.YteadhjclchjfjaaGreat

/- Legs in plain Lean: the path of a leg that may be is a path that may be. -/
namespace Go.Proofs.YteadhjclchjfjaaGreat
set_option linter.unusedSimpArgs false
set_option linter.unusedVariables false
open Go.AB

theorem joinL_src {n : Net} (h : netE n = 0) {s e : Int} (hj : (joinL n.links s e).isSome = true) : hasF n s e = true := by
  have key : ∀ L : List Lnk, (∀ l ∈ L, hasF n l.a l.ea = true ∧ hasF n l.b l.eb = true) → (joinL L s e).isSome = true → hasF n s e = true := by
    intro L
    induction L with
    | nil => intro _ h; cases h
    | cons l L ih =>
      intro hL hj
      have h1 := hL l (List.mem_cons_self ..)
      unfold joinL at hj
      split at hj
      · rename_i hh
        rw [← hh.1, ← hh.2]
        exact h1.1
      · split at hj
        · rename_i hh
          rw [← hh.1, ← hh.2]
          exact h1.2
        · exact ih (fun l hl => hL l (List.mem_cons_of_mem _ hl)) hj
  refine key n.links (fun l hl => ?_) hj
  obtain ⟨i, hi⟩ := List.getElem?_of_mem hl
  exact netE_links h i l hi
theorem StepOk.out {n : Net} (he : netE n = 0) {x : Stp} (h : StepOk n x) : hasF n x.s x.o = true := by
  obtain ⟨⟨q1, q2⟩, q3, q4⟩ := hasF_iff.1 h.1
  have h2 := h.2
  refine hasF_iff.2 ⟨⟨q1, q2⟩, ?_⟩
  obtain ⟨c, hc⟩ : ∃ c, n.sects[x.s.toNat]? = some c := ⟨_, List.getElem?_eq_getElem (by omega)⟩
  have hk : kindAt n x.s = c.kind := by simp [kindAt, hc]
  have hkc := netE_kinds he c (List.mem_of_getElem? hc)
  rw [hk] at q4 h2 ⊢
  obtain ⟨s, i, o⟩ := x
  simp only at *
  generalize c.kind = k at *
  have hk3 : k = 1 ∨ k = 2 ∨ k = 3 := by omega
  have hi : i = 0 ∨ i = 1 ∨ i = 2 ∨ i = 3 := by
    have := endsF_bd k
    omega
  rcases hk3 with rfl | rfl | rfl <;> rcases hi with rfl | rfl | rfl | rfl <;> simp [endsF, outsF, bits01.1, bits01.2.1, bits01.2.2.1, bits01.2.2.2] at q4 h2 ⊢ <;> omega

theorem psec_flat (L : List Rt) (l : List Int) (s : Int) : psec (l.flatMap fun k => (rtAt L k).st) s = legP L l s := by
  simp [psec, legP, List.any_flatMap]
theorem OnceP.app {p q : List Stp} (hp : OnceP p) (hq : OnceP q) (h : ∀ x ∈ q, psec p x.s = false) : OnceP (p ++ q) := by
  intro i x hx
  by_cases hi : i < p.length
  · rw [List.getElem?_append_left hi] at hx
    rw [List.take_append_of_le_length (by omega)]
    exact hp i x hx
  · rw [List.getElem?_append_right (by omega)] at hx
    rw [List.take_append, List.take_of_length_le (by omega), psec_app, h x (List.mem_of_getElem? hx), hq _ x hx]
    rfl

theorem nodup_lt : ∀ (N : Nat) (l : List Int), l.Nodup → (∀ x ∈ l, 0 ≤ x ∧ x < N) → l.length ≤ N
  | 0, [], _, _ => by simp
  | 0, x :: l, _, h => by have := h x (List.mem_cons_self ..); omega
  | N + 1, l, hd, h => by
    by_cases hm : (N : Int) ∈ l
    · have h1 := nodup_lt N (l.erase (N : Int)) (hd.erase _) (fun x hx => by
        have h2 := (List.Nodup.mem_erase_iff hd).1 hx
        have h3 := h x h2.2
        have h4 := h2.1
        refine ⟨h3.1, ?_⟩
        have h5 := h3.2
        omega)
      rw [List.length_erase_of_mem hm] at h1
      omega
    · have h1 := nodup_lt N l hd (fun x hx => by
        have h3 := h x hx
        have h4 : x ≠ (N : Int) := fun e => hm (e ▸ hx)
        omega)
      omega
theorem OnceP.len {n : Nat} {p : List Stp} (h : OnceP p) (hs : ∀ x ∈ p, 0 ≤ x.s ∧ x.s < n) : p.length ≤ n := by
  have := nodup_lt n (p.map (·.s)) (by
    rw [List.Nodup, List.pairwise_iff_getElem]
    intro i j hi hj hij e
    simp only [List.length_map] at hi hj
    simp only [List.getElem_map] at e
    have h1 := h j p[j] (List.getElem?_eq_getElem hj)
    have h2 : psec (p.take j) p[j].s = true := by
      simp only [psec, List.any_eq_true, decide_eq_true_eq]
      exact ⟨p[i], List.mem_take_iff_getElem.2 ⟨i, by omega, rfl⟩, e⟩
    rw [h1] at h2; cases h2) (fun x hx => by
    simp only [List.mem_map] at hx
    obtain ⟨y, hy, rfl⟩ := hx
    exact hs y hy)
  simpa using this

theorem firstE_none {f : Nat → Int} : ∀ {k i : Nat}, (∀ j, i ≤ j → j < i + k → f j = 0) → firstE f k i = 0
  | 0, _, _ => rfl
  | k + 1, i, h => by
    unfold firstE
    have := h i (Nat.le_refl _) (by omega)
    rw [if_neg (by simp [this])]
    exact firstE_none fun j h1 h2 => h j (by omega) (by omega)
theorem Joins.at {n : Net} : ∀ {l : List Stp} {x : Stp} (i : Nat) (y : Stp), Joins n x.s x.o l → (x :: l)[i + 1]? = some y → joinL n.links ((((x :: l)[i]?).map Stp.s).getD 0) ((((x :: l)[i]?).map Stp.o).getD 0) = some (y.s, y.i)
  | [], x, i, y, h, hy => by simp at hy
  | z :: l, x, 0, y, h, hy => by
    simp at hy
    subst hy
    simpa using h.1
  | z :: l, x, i + 1, y, h, hy => by
    have := Joins.at (n := n) (l := l) (x := z) i y h.2 (by simpa using hy)
    simpa using this

theorem legE_parts' {n : Net} {L : List Rt} {N : List (List Nd)} {tr : Int} {leg : List Int} {k : Int} (h : legE n L N tr leg k = 0) : okR L k = true ∧ ∀ x ∈ (rtAt L k).st, x.s ≠ tr ∧ legP L leg x.s = false := by
  refine ⟨legE_ok h, ?_⟩
  unfold legE at h
  split at h
  · cases h
  · split at h
    · cases h
    · split at h
      · cases h
      · rename_i h3
        intro x hx
        have : ((rtAt L k).st.any fun x => decide (x.s = tr) || legP L leg x.s) = false := by simpa using h3
        have := List.any_eq_false.1 this x hx
        simpa using this

structure LegOk (n : Net) (L : List Rt) (tr : Int) (leg : List Int) : Prop where
  p : pltF n tr = true
  l0 : 0 < leg.length
  l4 : leg.length ≤ 4
  e : ∀ i, i < leg.length → legE n L (L.map (needsR n)) tr (leg.take i) (leg.getD i 0) = 0
  q : pltF n (lastS L leg) = true
theorem legV_ok {n : Net} {L : List Rt} {tr : Int} {leg : List Int} (h : legV n L tr leg = 0) : LegOk n L tr leg := by
  unfold legV at h
  split at h
  · cases h
  · rename_i h1
    split at h
    · cases h
    · split at h
      · cases h
      · split at h
        · rename_i h2; exact absurd h h2
        · rename_i h4 h5 h6
          split at h
          · cases h
          · rename_i h7
            exact ⟨by simpa using h1, by omega, by omega, fun i hi => firstE_zero (j := i) (by simpa using h6) (Nat.zero_le _) (by omega), by simpa using h7⟩
theorem LegOk.ok {n : Net} {L : List Rt} {tr : Int} {leg : List Int} (h : LegOk n L tr leg) : ∀ j ∈ leg, okR L j = true := by
  intro j hj
  obtain ⟨i, hi, rfl⟩ := List.getElem_of_mem hj
  have := legE_ok (h.e i hi)
  rwa [List.getD_eq_getElem?_getD, List.getElem?_eq_getElem hi] at this

theorem leg_way {n : Net} {L : List Rt} {tr : Int} {leg : List Int} (hw : ∀ r ∈ L, RtWay n r) (hr : ∀ r ∈ L, RtOk n r) (h : LegOk n L tr leg) (a : Int) : ∀ k, k ≤ leg.length →
    Joins n tr (endF2 n (rtAt L (leg.getD 0 0)).fr) ((leg.take k).flatMap fun k => (rtAt L k).st) ∧ OnceP (⟨tr, a, endF2 n (rtAt L (leg.getD 0 0)).fr⟩ :: (leg.take k).flatMap fun k => (rtAt L k).st) ∧
    (k < leg.length → lastEnd tr (endF2 n (rtAt L (leg.getD 0 0)).fr) ((leg.take k).flatMap fun k => (rtAt L k).st) = (homeF n (rtAt L (leg.getD k 0)).fr, endF2 n (rtAt L (leg.getD k 0)).fr))
  | 0, _ => by
    refine ⟨trivial, ?_, fun h0 => ?_⟩
    · intro i x hx
      cases i with
      | zero => simp [psec]
      | succ i => simp at hx
    · have h1 := h.e 0 h0
      unfold legE at h1
      split at h1
      · cases h1
      · split at h1
        · cases h1
        · rename_i h2
          simp [legO] at h2
          simp [lastEnd, h2]
  | k + 1, hk => by
    obtain ⟨i1, i2, i3⟩ := leg_way hw hr h a k (by omega)
    have i3 := i3 (by omega)
    have h1 := h.e k (by omega)
    obtain ⟨ok, hp⟩ := legE_parts' h1
    obtain ⟨c0, c1, hat⟩ := okR_at ok
    have hwk := hw _ (List.mem_of_getElem? hat)
    have htk : leg.take (k + 1) = leg.take k ++ [leg.getD k 0] := by
      rw [List.take_add_one, List.getD_eq_getElem?_getD, List.getElem?_eq_getElem (by omega)]; rfl
    have hfl : (leg.take (k + 1)).flatMap (fun k => (rtAt L k).st) = (leg.take k).flatMap (fun k => (rtAt L k).st) ++ (rtAt L (leg.getD k 0)).st := by
      rw [htk, List.flatMap_append]; simp
    rw [hfl]
    refine ⟨i1.app (by rw [i3]; exact hwk.j), ?_, fun hk1 => ?_⟩
    · rw [← List.cons_append]
      refine i2.app hwk.o fun x hx => ?_
      obtain ⟨p1, p2⟩ := hp x hx
      rw [← psec_flat] at p2
      simp only [psec, List.any_cons, Bool.or_eq_false_iff, decide_eq_false_iff_not]
      exact ⟨fun e => p1 e.symm, p2⟩
    · rw [lastEnd_app, i3]
      have h2 := h.e (k + 1) hk1
      unfold legE at h2
      split at h2
      · cases h2
      · rename_i ok2
        split at h2
        · cases h2
        · rename_i ho
          have ho' : (rtAt L (leg.getD (k + 1) 0)).fr = (rtAt L (leg.getD k 0)).to := by
            unfold legO at ho
            have hl : (leg.take (k + 1)).length = k + 1 := by rw [List.length_take]; omega
            rw [hl, if_neg (by omega)] at ho
            have hg : (leg.take (k + 1)).getD (k + 1 - 1) 0 = leg.getD k 0 := by
              simp [List.getD_eq_getElem?_getD, List.getElem?_take]
            rw [hg] at ho
            simpa using ho
          have ok3 : okR L (leg.getD (k + 1) 0) = true := by
            cases c : okR L (leg.getD (k + 1) 0) with
            | true => rfl
            | false => exact absurd c ok2
          obtain ⟨_, _, hat2⟩ := okR_at ok3
          have hf0 := (hr _ (List.mem_of_getElem? hat2)).f0
          rw [ho']
          exact hwk.t (by omega)
end Go.Proofs.YteadhjclchjfjaaGreat

/- Legs in plain Lean: the path of a leg and its pieces. -/
namespace Go.Proofs.YteadhjclchjfjaaGreat
set_option linter.unusedSimpArgs false
set_option linter.unusedVariables false
open Go.AB

structure SectOk (s : Sect) : Prop where
  len : 10 ≤ s.len ∧ s.len ≤ 3000
  grade : -40 ≤ s.grade ∧ s.grade ≤ 40
  speed : 300 ≤ s.speed ∧ s.speed ≤ 6000
  slow : s.kind = 2 → 300 ≤ s.slow ∧ s.slow ≤ s.speed
  stat : s.station ≠ 0 → s.kind = 1
theorem netE_sect {n : Net} (h : netE n = 0) : ∀ s ∈ n.sects, SectOk s := by
  have hs : secsE n = 0 := by
    unfold netE at h
    split at h
    · cases h
    · split at h
      · cases h
      · split at h
        · rename_i h1; exact absurd h h1
        · split at h
          · rename_i h1; exact absurd h h1
          · rename_i h1
            simpa using h1
  intro s hm
  obtain ⟨i, hi, rfl⟩ := List.getElem_of_mem hm
  have := firstE_zero (j := i) hs (Nat.zero_le _) (by omega)
  simp only [secAt, List.getElem?_eq_getElem hi] at this
  unfold secE at this
  split at this
  · cases this
  · split at this
    · cases this
    · split at this
      · cases this
      · split at this
        · cases this
        · rename_i h1 h2 h3 h4
          simp [within] at h2 h3 h4
          generalize n.sects[i] = s at *
          refine ⟨by omega, by omega, by omega, fun hk => ?_, fun hst => ?_⟩
          · have := h3.1 hk
            omega
          · cases Decidable.em (s.kind = 1) with
            | inl e => exact e
            | inr e => exact absurd e (by simpa using h4.1.2 hst)

theorem leg_path {n : Net} (he : netE n = 0) {L : List Rt} {tr : Int} {leg : List Int} (hw : ∀ r ∈ L, RtWay n r) (hr : ∀ r ∈ L, RtOk n r) (h : LegOk n L tr leg) : pathE n (legPath n L tr leg) = 0 := by
  have hj := h.ok
  have hsm := netE_small he
  have h60 : n.sects.length ≤ 60 := by
    simp only [bigN] at hsm
    omega
  -- the first section
  have hp : 0 ≤ tr ∧ tr < n.sects.length ∧ statAt n tr ≠ 0 := by
    have := h.p
    simp only [pltF, within, Bool.and_eq_true, decide_eq_true_eq, Bool.not_eq_true', decide_eq_false_iff_not] at this
    omega
  obtain ⟨c, hc⟩ : ∃ c, n.sects[tr.toNat]? = some c := ⟨_, List.getElem?_eq_getElem (by omega)⟩
  have hck := (netE_sect he c (List.mem_of_getElem? hc)).stat (by simpa [statAt, hc] using hp.2.2)
  have hkt : kindAt n tr = 1 := by simp [kindAt, hc, hck]
  obtain ⟨w1, w2, w3⟩ := leg_way hw hr h (IntKind.i64.wrap (1 - endF2 n (rtAt L (leg.getD 0 0)).fr)) leg.length (Nat.le_refl _)
  obtain ⟨_, _, w4⟩ := leg_way hw hr h 0 0 (Nat.zero_le _)
  have w4 := w4 h.l0
  rw [List.take_length] at w1 w2
  simp only [List.take_zero, List.flatMap_nil, lastEnd, Prod.mk.injEq] at w4
  unfold legPath
  have hm0 : leg.getD 0 0 ∈ leg := by
    rw [List.getD_eq_getElem?_getD, List.getElem?_eq_getElem h.l0]
    exact List.getElem_mem _
  obtain ⟨_, _, hat⟩ := okR_at (hj _ hm0)
  have hrk := hr _ (List.mem_of_getElem? hat)
  generalize rtAt L (leg.getD 0 0) = r0 at *
  obtain ⟨g, hg⟩ : ∃ g, n.sigs[r0.fr.toNat]? = some g := ⟨_, List.getElem?_eq_getElem (by have := hrk.f0; have := hrk.f1; omega)⟩
  have hgs : homeF n r0.fr = g.s := by simp [homeF, hg]
  have hge : endF2 n r0.fr = g.e := by simp [endF2, hg]
  have hsg := joinL_src he (netE_sigs he g (List.mem_of_getElem? hg))
  rw [hgs] at w4
  rw [hge] at w1 w2 ⊢
  rw [← w4.1] at hsg
  obtain ⟨_, g3, g4⟩ := hasF_iff.1 hsg
  rw [hkt] at g4
  have g4 : g.e ≤ 1 := by simpa [endsF] using g4
  have hwr : IntKind.i64.wrap (1 - g.e) = 1 - g.e := i64_in (by omega) (by omega)
  rw [hwr] at w2 ⊢
  have hst : ∀ x ∈ leg.flatMap (fun k => (rtAt L k).st), StepOk n x := by
    intro x hx
    simp only [List.mem_flatMap] at hx
    obtain ⟨k, hk, hx⟩ := hx
    obtain ⟨_, _, hat2⟩ := okR_at (hj k hk)
    exact (hr _ (List.mem_of_getElem? hat2)).st x hx
  have h0 : StepOk n ⟨tr, 1 - g.e, g.e⟩ := by
    refine ⟨hasF_iff.2 ⟨⟨hp.1, by simp only; omega⟩, ?_⟩, ?_⟩
    · simp only [hkt, endsF, if_true]; omega
    · simp only [hkt, outsF]
      have : g.e = 0 ∨ g.e = 1 := by omega
      rcases this with e | e <;> rw [e] <;> simp [bits01.1, bits01.2.1]
  generalize leg.flatMap (fun k => (rtAt L k).st) = p at *
  have hall : ∀ x ∈ (⟨tr, 1 - g.e, g.e⟩ : Stp) :: p, StepOk n x := by
    intro x hx
    simp only [List.mem_cons] at hx
    rcases hx with rfl | hx
    · exact h0
    · exact hst x hx
  have hlen := w2.len (fun x hx => (hall x hx).sec)
  unfold pathE
  rw [if_neg (by omega)]
  refine firstE_none fun i _ hi => ?_
  simp only [Nat.zero_add] at hi
  have hx := List.getElem?_eq_getElem hi
  have hxk := hall _ (List.mem_of_getElem? hx)
  unfold stepE
  rw [hx]
  simp only
  have h1 := hxk.1
  have h2 := hxk.out he
  have h3 := hxk.2
  have h4 := w2 i _ hx
  generalize ((⟨tr, 1 - g.e, g.e⟩ : Stp) :: p)[i] = x at *
  rw [if_neg (by rw [h1, h2]; simp), if_neg (by simpa using h3), if_neg, if_neg (by rw [h4]; simp)]
  rintro ⟨hi0, hne⟩
  obtain ⟨j, rfl⟩ : ∃ j, i = j + 1 := ⟨i - 1, by omega⟩
  exact hne (Joins.at (x := ⟨tr, 1 - g.e, g.e⟩) j x w1 hx)

/-- The pieces of a path. -/
structure PcOk (x : Pc) : Prop where
  l : 1000 ≤ x.l ∧ x.l ≤ 300000
  g : -40 ≤ x.g ∧ x.g ≤ 40
  v : 1 ≤ x.v ∧ x.v ≤ 6000
theorem pcF_ok {n : Net} (he : netE n = 0) {x : Stp} (hx : 0 ≤ x.s ∧ x.s < n.sects.length) : PcOk (pcF n x) ∧ (pcF n x).l = 100 * lenAt n x := by
  obtain ⟨c, hc⟩ : ∃ c, n.sects[x.s.toNat]? = some c := ⟨_, List.getElem?_eq_getElem (by omega)⟩
  obtain ⟨h1, h2, h3, h4, h5⟩ := netE_sect he c (List.mem_of_getElem? hc)
  have e1 : IntKind.i64.wrap (100 * c.len) = 100 * c.len := i64_in (by omega) (by omega)
  have e2 : IntKind.i64.wrap (0 - c.grade) = 0 - c.grade := i64_in (by omega) (by omega)
  unfold pcF lenAt
  rw [hc]
  simp only [e1, e2, Option.map_some, Option.getD_some]
  refine ⟨⟨by simp only; omega, by simp only; split <;> omega, ?_⟩, trivial⟩
  simp only
  split
  · rename_i h
    have := h4 h.1
    omega
  · omega
end Go.Proofs.YteadhjclchjfjaaGreat
