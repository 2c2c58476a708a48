/- LineTexts: a net laid open with its bounds; the law. -/
import Derived.Test.YtkfhieigdlfbeaaDoorH3
namespace Go.Proofs.YtkfhieigdlfbeaaDoor
set_option linter.unusedSimpArgs false
set_option linter.unusedVariables false
open Go.AB

/-- A net whose numbers are of their kind. -/
structure NetI (n : Net) : Prop where
  sc : ∀ c ∈ n.sects, inR c.len ∧ inR c.grade ∧ inR c.speed ∧ inR c.slow ∧ inR c.station
  lk : ∀ l ∈ n.links, inR l.a ∧ inR l.ea ∧ inR l.b ∧ inR l.eb
  sg : ∀ p ∈ n.sigs, inR p.s ∧ inR p.e
  gt : ∀ p ∈ n.gates, inR p.s ∧ inR p.e

theorem openSectI {x : DV} (h : ElD Tryd.prog 96 x) : ∃ c : Sect, x = dSect c ∧ (inR c.len ∧ inR c.grade ∧ inR c.speed ∧ inR c.slow ∧ inR c.station) := by
  obtain ⟨cs, rfl, k⟩ := h.agg_inv Tryd.underlying96 rfl
  obtain ⟨c1, r, rfl, h1, k⟩ := k.cons_inv
  obtain ⟨c2, r, rfl, h2, k⟩ := k.cons_inv
  obtain ⟨c3, r, rfl, h3, k⟩ := k.cons_inv
  obtain ⟨c4, r, rfl, h4, k⟩ := k.cons_inv
  obtain ⟨c5, r, rfl, h5, k⟩ := k.cons_inv
  obtain ⟨c6, r, rfl, h6, k⟩ := k.cons_inv
  obtain ⟨c7, r, rfl, h7, k⟩ := k.cons_inv
  obtain rfl := k.nil_inv
  obtain ⟨v1, rfl, _⟩ := h1.int_inv Tryd.underlying3
  obtain ⟨v2, rfl, b2⟩ := h2.int_inv Tryd.underlying3
  obtain ⟨v3, rfl, b3⟩ := h3.int_inv Tryd.underlying3
  obtain ⟨v4, rfl, b4⟩ := h4.int_inv Tryd.underlying3
  obtain ⟨v5, rfl, b5⟩ := h5.int_inv Tryd.underlying3
  obtain ⟨v6, rfl, b6⟩ := h6.int_inv Tryd.underlying3
  obtain ⟨b, rfl⟩ := h7.bool_inv Tryd.underlying4
  exact ⟨⟨v1, v2, v3, v4, v5, v6, b⟩, rfl, b2, b3, b4, b5, b6⟩
theorem openNetI {x : DV} (h : ElD Tryd.prog 54 x) : ∃ n : Net, toAV x = eNet n ∧ NetB n ∧ NetI n := by
  obtain ⟨cs, rfl, k⟩ := h.agg_inv Tryd.underlying54 rfl
  obtain ⟨c1, r, rfl, h1, k⟩ := k.cons_inv
  obtain ⟨c2, r, rfl, h2, k⟩ := k.cons_inv
  obtain ⟨c3, r, rfl, h3, k⟩ := k.cons_inv
  obtain ⟨c4, r, rfl, h4, k⟩ := k.cons_inv
  obtain ⟨c5, r, rfl, h5, k⟩ := k.cons_inv
  obtain rfl := k.nil_inv
  obtain ⟨l1, rfl, b1, e1⟩ := h1.sl_inv Tryd.underlying48 (z := 1) (y := 16) (by kernel_rfl) (by kernel_rfl)
  obtain ⟨l2, rfl, b2, e2⟩ := h2.sl_inv Tryd.underlying49 (z := 7) (y := 56) (by kernel_rfl) (by kernel_rfl)
  obtain ⟨l3, rfl, b3, e3⟩ := h3.sl_inv Tryd.underlying50 (z := 4) (y := 32) (by kernel_rfl) (by kernel_rfl)
  obtain ⟨l4, rfl, b4, e4⟩ := h4.sl_inv Tryd.underlying51 (z := 2) (y := 16) (by kernel_rfl) (by kernel_rfl)
  obtain ⟨l5, rfl, b5, e5⟩ := h5.sl_inv Tryd.underlying52 (z := 2) (y := 16) (by kernel_rfl) (by kernel_rfl)
  obtain ⟨m1, rfl, p1⟩ := map_of_each (f := DV.str) (p := fun s => s.length ≤ 140737488351232) l1 (fun y hy => (e1 y hy).str_inv Tryd.underlying9)
  obtain ⟨m2, rfl, p2⟩ := map_of_each (f := dSect) (p := fun c => inR c.len ∧ inR c.grade ∧ inR c.speed ∧ inR c.slow ∧ inR c.station) l2 (fun y hy => openSectI (e2 y hy))
  obtain ⟨m3, rfl, p3⟩ := map_of_each (f := dLnk) (p := fun l => inR l.a ∧ inR l.ea ∧ inR l.b ∧ inR l.eb) l3 (fun y hy => by
    obtain ⟨ns, q1, rfl, hr⟩ := (e3 y hy).ints 4 (n := 4) (by kernel_rfl) (by kernel_rfl)
    match ns, q1, hr with
    | [a, b, c, d], _, hr => exact ⟨⟨a, b, c, d⟩, rfl, hr a (by simp), hr b (by simp), hr c (by simp), hr d (by simp)⟩)
  obtain ⟨m4, rfl, p4⟩ := map_of_each (f := dPair) (p := fun p => inR p.s ∧ inR p.e) l4 (fun y hy => by
    obtain ⟨ns, q1, rfl, hr⟩ := (e4 y hy).ints 4 (n := 2) (by kernel_rfl) (by kernel_rfl)
    match ns, q1, hr with
    | [a, b], _, hr => exact ⟨⟨a, b⟩, rfl, hr a (by simp), hr b (by simp)⟩)
  obtain ⟨m5, rfl, p5⟩ := map_of_each (f := dPair) (p := fun p => inR p.s ∧ inR p.e) l5 (fun y hy => by
    obtain ⟨ns, q1, rfl, hr⟩ := (e5 y hy).ints 4 (n := 2) (by kernel_rfl) (by kernel_rfl)
    match ns, q1, hr with
    | [a, b], _, hr => exact ⟨⟨a, b⟩, rfl, hr a (by simp), hr b (by simp)⟩)
  simp only [List.length_map] at b1 b2 b3 b4 b5
  exact ⟨⟨m1, m2, m3, m4, m5⟩, rfl, ⟨by simp only; omega, by simp only; omega, by simp only; omega, by simp only; omega, by simp only; omega, p1⟩, ⟨p2, p3, p4, p5⟩⟩

theorem netE_zero {n : Net} (h : netE n = 0) : ¬ bigN n ∧ namesE n = 0 := by
  unfold netE at h
  split at h
  · cases h
  split at h
  · cases h
  rename_i hb
  refine ⟨hb, ?_⟩
  split at h
  · rename_i h1; exact absurd h h1
  · rename_i h1; exact Decidable.not_not.1 h1
theorem names_short {n : Net} (h : namesE n = 0) : ∀ s ∈ n.names, s.length ≤ 1000 := by
  intro s hs
  obtain ⟨i, hi, rfl⟩ := List.getElem_of_mem hs
  have := firstE_zero (j := i) h (Nat.zero_le _) (by omega)
  simp only [nameE, List.getElem?_eq_getElem hi] at this
  split at this
  · cases this
  · rename_i h1
    have h2 : nameOk n.names[i] = true := by cases hq : nameOk n.names[i] with | true => rfl | false => exact absurd hq h1
    simp only [nameOk, Bool.and_eq_true, decide_eq_true_eq] at h2
    omega
theorem netW {n : Net} (hi : NetI n) (h : netE n = 0) : NetW n := by
  obtain ⟨hb, hn⟩ := netE_zero h
  simp only [bigN, not_or, Nat.not_lt] at hb
  obtain ⟨b1, b2, b3, b4, b5⟩ := hb
  refine ⟨names_short hn, fun c hc => ?_, fun l hl => ?_, fun p hp => ?_, fun p hp => ?_, by omega, by omega, by omega, by omega, by omega⟩
  · obtain ⟨i1, i2, i3, i4, i5⟩ := hi.sc c hc
    unfold secW
    split
    · refine ⟨by simp, by simp, fun w hw => ?_⟩
      simp only [List.mem_cons, List.not_mem_nil, or_false] at hw
      rcases hw with rfl | rfl | rfl | rfl | rfl | rfl <;> first | exact i1 | exact i2 | exact i3 | exact i4 | exact i5 | trivial | (simp [wdOk])
    split
    · refine ⟨by simp, by simp, fun w hw => ?_⟩
      simp only [List.mem_cons, List.not_mem_nil, or_false] at hw
      rcases hw with rfl | rfl | rfl | rfl | rfl | rfl <;> first | exact i1 | exact i2 | exact i3 | exact i4 | exact i5 | trivial | (simp [wdOk])
    · refine ⟨by simp, by simp, fun w hw => ?_⟩
      simp only [List.mem_cons, List.not_mem_nil, or_false] at hw
      rcases hw with rfl | rfl | rfl | rfl <;> first | exact i1 | exact i2 | exact i3 | exact i4 | exact i5 | trivial | (simp [wdOk])
  · obtain ⟨i1, i2, i3, i4⟩ := hi.lk l hl
    refine ⟨by simp [lkW], by simp [lkW], fun w hw => ?_⟩
    simp only [lkW, List.mem_cons, List.not_mem_nil, or_false] at hw
    rcases hw with rfl | rfl | rfl | rfl | rfl <;> first | exact i1 | exact i2 | exact i3 | exact i4 | (simp [wdOk])
  · obtain ⟨i1, i2⟩ := hi.sg p hp
    refine ⟨by simp [sgW], by simp [sgW], fun w hw => ?_⟩
    simp only [sgW, List.mem_cons, List.not_mem_nil, or_false] at hw
    rcases hw with rfl | rfl | rfl <;> first | exact i1 | exact i2 | (simp [wdOk])
  · obtain ⟨i1, i2⟩ := hi.gt p hp
    refine ⟨by simp [gtW], by simp [gtW], fun w hw => ?_⟩
    simp only [gtW, List.mem_cons, List.not_mem_nil, or_false] at hw
    rcases hw with rfl | rfl | rfl <;> first | exact i1 | exact i2 | (simp [wdOk])

theorem eqs_same (a : List UInt8) : (a = a) = True := eq_true rfl
set_option maxHeartbeats 4000000 in
set_option maxRecDepth 20000 in
theorem f7 (n : Net) (hb : NetB n) (hi : NetI n) : PCall Tryd.prog 7 [eNet n] (RV (.bool true)) := by
  refine PCall.of_body Tryd.func7 rfl Tryd.ntmps7 (congrArg Array.toList Tryd.results7) ?_
  intro E
  simp only [go_sem, eNet, nCells]
  refine callV (f21 n hb (netW hi)) ?_
  intro nx lv
  simp only [go_sem]
  refine callV (f22 n hb) ?_
  intro nx lv
  by_cases h : netE n = 0
  · simp only [go_sem, h, if_true]
    refine callV (f23 n (netW hi h)) ?_
    intro nx lv
    simp only [go_sem]
    try simp
  · have h' : (netE n = 0) = False := eq_false h
    simp only [go_sem, h', if_false]
    try simp

theorem law7 (xs : List DV) (h : ElDs Tryd.prog [54] xs) : PCall Tryd.prog 7 (xs.map toAV) (RV (.bool true)) := by
  obtain ⟨x, xs, rfl, hx, h⟩ := h.cons_inv
  cases h.nil_inv
  obtain ⟨n, e, hb, hi⟩ := openNetI hx
  simp only [List.map_cons, List.map_nil, e]
  exact f7 n hb hi
end Go.Proofs.YtkfhieigdlfbeaaDoor
