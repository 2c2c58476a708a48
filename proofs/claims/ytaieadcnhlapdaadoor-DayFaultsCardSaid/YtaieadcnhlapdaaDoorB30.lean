/- Appending to a slice of one's own array that is still written to. -/
import Derived.Test.YtaieadcnhlapdaaDoorB25
namespace Go.AB
open Classical

section
variable {P : Program} {G : Gh} {w : World}
theorem madeA_rep {zs : List AV} {vs : List Value} (h : RepL G w zs vs) (n : Nat) : RepL G w (madeA zs n) (madeCells vs.toArray (n * vs.length)).toList := by
  have hlen : (madeA zs n).length = n * zs.length := by simp [madeA]
  have hget : ∀ i, i < n * zs.length → (madeA zs n)[i]? = zs[i % zs.length]? := by
    intro i hi
    unfold madeA
    clear hlen
    induction n generalizing i with
    | zero => simp at hi
    | succ n ih =>
      rw [List.replicate_succ, List.flatten_cons]
      rw [Nat.add_mul, Nat.one_mul] at hi
      by_cases hlt : i < zs.length
      · rw [List.getElem?_append_left hlt, Nat.mod_eq_of_lt hlt]
      · rw [List.getElem?_append_right (by omega), ih (i - zs.length) (by omega)]
        congr 1
        rw [← Nat.mod_eq_sub_mod (by omega)]
  have hvl := h.len
  have hget2 : ∀ i, i < n * vs.length → (madeCells vs.toArray (n * vs.length)).toList[i]? = vs[i % vs.length]? := by
    intro i hi
    have hz : 0 < vs.length := by
      rcases Nat.eq_zero_or_pos vs.length with hz | hz
      · rw [hz, Nat.mul_zero] at hi; omega
      · exact hz
    have hm : i % vs.length < vs.length := Nat.mod_lt _ hz
    simp only [madeCells, Array.toList_map, List.getElem?_map]
    have : (Array.range (n * vs.length)).toList[i]? = some i := by simp [hi]
    rw [this]
    simp [hm]
  refine ⟨by simp [hlen, hvl, madeCells], fun v hv => ?_, fun i c v hc hv => ?_⟩
  · obtain ⟨i, hi⟩ := List.getElem?_of_mem hv
    have hil : i < n * vs.length := by have := (List.getElem?_eq_some_iff.1 hi).1; simpa [madeCells] using this
    rw [hget2 i hil] at hi
    exact h.one v (List.mem_of_getElem? hi)
  · have hil : i < n * zs.length := by rw [← hlen]; exact (List.getElem?_eq_some_iff.1 hc).1
    rw [hget i hil] at hc
    rw [hget2 i (by rw [hvl]; exact hil), hvl] at hv
    exact h.rep _ c v hc hv
end

/-- A row's cells, one behind the other. -/
theorem flat_get {z : Nat} : ∀ {xs : List DV}, (∀ (i : Nat) (e : DV), xs[i]? = some e → (dcells e).length = z) → ∀ {k : Nat} {d : DV}, (xs.flatMap dcells)[k]? = some d →
    ∃ i e j, xs[i]? = some e ∧ (dcells e)[j]? = some d ∧ k = i * z + j
  | [], _, k, d, h => by simp at h
  | x :: xs, hz, k, d, h => by
    have hx := hz 0 x rfl
    rw [List.flatMap_cons] at h
    by_cases hk : k < (dcells x).length
    · rw [List.getElem?_append_left hk] at h
      exact ⟨0, x, k, rfl, h, by simp⟩
    · rw [List.getElem?_append_right (by omega)] at h
      obtain ⟨i, e, j, h1, h2, h3⟩ := flat_get (fun i e he => hz (i + 1) e (by simpa using he)) h
      refine ⟨i + 1, e, j, by simpa using h1, h2, ?_⟩
      rw [Nat.add_mul]; omega
theorem flat_len {z : Nat} : ∀ {xs : List DV}, (∀ (i : Nat) (e : DV), xs[i]? = some e → (dcells e).length = z) → (xs.flatMap dcells).length = xs.length * z
  | [], _ => by simp
  | x :: xs, hz => by
    have hx := hz 0 x rfl
    have ih := flat_len (xs := xs) (fun i e he => hz (i + 1) e (by simpa using he))
    rw [List.flatMap_cons, List.length_append, hx, ih, List.length_cons, Nat.add_mul]
    omega

theorem hset_hset (h : List (Nat × Nat × List AV)) (t g g' : Nat) (cs cs' : List AV) : hset (hset h t g cs) t g' cs' = hset h t g' cs' := by
  induction h with
  | nil => simp [hset]
  | cons x r ih =>
    obtain ⟨s, g0, c0⟩ := x
    unfold hset
    by_cases hs : s = t
    · simp [hs, hset]
    · simp [hs, hset, ih]

/-- One's own array under its next name. -/
theorem Inv.rename {E : Env} {G : Gh} {m : AH} {w : World} (h : Inv E G m w) {t g b o : Nat} {cs : List AV} (hc : m.cells (.own t g) = some cs) (hb : G.bx (.own t g) = some (b, o)) (ho : o ≠ mapMark) :
    ∃ G', Ext G w G' w ∧ Inv E G' (m.newBox t cs) w ∧ G'.bx (.own t (gnext m t)) = some (b, o) := by
  have hg : hget m.h t = some (g, cs) := by
    simp only [AH.cells] at hc
    cases hh : hget m.h t with
    | none => rw [hh] at hc; cases hc
    | some x =>
      obtain ⟨g3, cs3⟩ := x
      rw [hh] at hc
      simp only at hc
      split at hc
      · rename_i e; cases hc; rw [e]
      · cases hc
  have hgn : gnext m t = g + 1 := by simp [gnext, hg]
  obtain ⟨b', o', hb', hwho, hmay, hst, hcell, hmap⟩ := h.box _ cs hc
  rw [hb] at hb'
  cases hb'
  have hbx : G.bx (.own t (g + 1)) = none := h.gen t (g + 1) (.inr ⟨g, cs, hg, Nat.lt_succ_self _⟩)
  let G' : Gh := { G with bx := updL G.bx (.own t (g + 1)) (some (b, o)), who := updN G.who b (some (.inl (.own t (g + 1)))) }
  have hx : Ext G w G' w := by
    refine ⟨fun _ _ x => x, fun _ _ _ => rfl, fun l y hy => ?_, Nat.le_refl _, fun _ _ _ x => x⟩
    show updL G.bx (.own t (g + 1)) (some (b, o)) l = some y
    have hne : l ≠ .own t (g + 1) := fun e => by subst e; rw [hbx] at hy; cases hy
    rw [updL_ne _ _ hne]; exact hy
  rw [hgn]
  refine ⟨G', hx, ?_, by simp [G', updL]⟩
  refine h.but (N := b) hx ⟨rfl, rfl, rfl, Nat.le_refl _, fun _ _ => rfl, fun k hk => updN_ne _ _ hk, fun _ _ _ => Iff.rfl⟩ hmay (fun l2 cs2 hc2 => ?_) (fun t' g' hg' => ?_) (fun i hi => .inl ⟨hi, rfl, by rw [hwho]; simp⟩) h.lt h.nx (who_lt h hwho)
  · by_cases hl2 : l2 = .own t (g + 1)
    · subst hl2
      right
      have : m.newBox t cs = { m with h := hset m.h t (g + 1) cs } := by rw [AH.newBox, hgn]
      rw [this] at hc2
      simp only [AH.cells, hget_set_self, if_true] at hc2
      cases hc2
      exact ⟨b, o, by simp [G', updL], by simp [G', updN], hmay, hst, fun h0 j c hj => by
        obtain ⟨f1, v, f2, f3, f4⟩ := hcell h0 j c hj
        exact ⟨f1, v, f2, f3, f4.ext hx⟩, fun h0 => absurd h0 ho⟩
    · left
      cases l2 with
      | out k =>
        refine ⟨hc2, by rw [hwho]; intro e; cases e⟩
      | own t' g' =>
        have hne : t ≠ t' := fun e => by
          subst e
          simp only [AH.newBox, AH.cells, hget_set_self, hgn] at hc2
          split at hc2
          · rename_i e; exact hl2 (by rw [e])
          · cases hc2
        refine ⟨?_, by rw [hwho]; intro e; cases e; exact hne rfl⟩
        simp only [AH.newBox, AH.cells] at hc2 ⊢
        rwa [hget_set_ne _ _ _ hne] at hc2
  · show updL G.bx (.own t (g + 1)) (some (b, o)) (.own t' g') = none
    by_cases ht : t = t'
    · subst ht
      simp only [AH.newBox, hget_set_self, hgn] at hg'
      rcases hg' with hg' | ⟨g2, cs2, hg', hlt⟩
      · cases hg'
      · cases hg'
        rw [updL_ne _ _ (by intro e; cases e; exact absurd hlt (Nat.lt_irrefl _))]
        exact h.gen t g' (.inr ⟨g, cs, hg, by omega⟩)
    · rw [updL_ne _ _ (by intro e; cases e; exact ht rfl)]
      apply h.gen
      simpa only [AH.newBox, hget_set_ne _ _ _ ht] using hg'

/-- More in a slice of one's own array: the array lies under its next name, whether it is the old one or a new one. -/
def exAppM (P : Program) (m : AH) (d : Option Nat) (t : Nat) (l : Loc) (off len cap : Nat) (x : AV) (K : AH → AV → Prop) : Prop := match d, l with
  | some d, .own t0 g => (match m.cells (.own t0 g), srcA m x, mkA P t with
    | some cs, some (z', xs, n), some (zs, y) => t0 = d ∧ off = 0 ∧ z' = zs.length ∧ xs.length = n ∧ cs.length = cap * zs.length ∧ 0 < y ∧ (len + n) * y ≤ 140737488355328 ∧
        ∀ (c : Nat) (sp : List AV), len + n ≤ c → sp.length = (c - (len + n)) * zs.length → K (m.newBox d (cs.take (len * zs.length) ++ (xs.flatMap dcells).map toAV ++ sp)) (.msl (.own d (gnext m d)) 0 (len + n) c)
    | _, _, _ => False)
  | _, _ => False

theorem exAppM_ok {P : Program} {E : Env} {G : Gh} {m : AH} {w : World} {d : Option Nat} {t ty : Nat} {l : Loc} {off len cap : Nat} {x : AV} {sv xv : Value} {K : AH → AV → Prop} (h : exAppM P m d t l off len cap x K) (hi : Inv E G m w) (hs : RepA G w (.msl l off len cap) sv) (hx : RepA G w x xv) :
    ∃ G' m' w' v u, (Builtin.append_ #[t, t] ty #[sv, xv]).run P w = .ok u w' ∧ Ext G w G' w' ∧ Inv E G' m' w' ∧ RepA G' w' v u ∧ K m' v := by
  unfold exAppM at h
  split at h
  rotate_left
  · exact h.elim
  rename_i d t0 g
  split at h
  rotate_left
  · exact h.elim
  rename_i cs z' xs n zs y hcs hsrc hmk
  obtain ⟨rfl, rfl, rfl, hn, hcl, hy, hsize, hK⟩ := h
  unfold mkA at hmk
  split at hmk
  rotate_left
  · cases hmk
  rename_i e hu
  split at hmk
  rotate_left
  · cases hmk
  rename_i zs' inf hz hinf
  cases hmk
  obtain ⟨i', zv, hinf', hzv, hzs, hrep⟩ := zeroA_of hz
  rw [hinf] at hinf'
  cases hinf'
  have hzl : zs.length = inf.size := by
    have := (hrep G w).len
    rw [Array.length_toList, hzs] at this
    exact this.symm
  obtain ⟨A2, c2, rfl, hxz, hxl⟩ := srcA_ok hi hsrc hn hx
  cases hs with
  | msl _ _ _ _ b o hb h0 hlc hcm =>
  rw [Nat.add_zero]
  have hbox := hi.box _ _ hcs
  obtain ⟨b', o', hb', hwho, hmay, hst, hcell, _⟩ := hbox
  rw [hb] at hb'
  cases hb'
  have hcell := hcell h0
  have h48 : len + xs.length ≤ 140737488355328 := Nat.le_trans (Nat.le_mul_of_pos_right _ hy) (by rw [hn]; exact hsize)
  -- the new elements' cells
  have hnews : ∃ us : List Value, us.length = xs.length * zs.length ∧ (∀ v ∈ us, oneCell v = true) ∧ (Builtin.firstCells zs.length xs.length (.slice A2 xs.length c2)).run P w = .ok us.toArray w ∧
      (∀ (j : Nat) (v : Value), us[j]? = some v → ∃ b2 o2, A2 = some ⟨b2, o2, none⟩ ∧ w.cell? ⟨b2, o2 + j, none⟩ = some v) ∧
      ∀ (i : Nat) (e : DV), xs[i]? = some e → ∀ (j : Nat) (d : DV), (dcells e)[j]? = some d → ∃ v, us[i * zs.length + j]? = some v ∧ RepD G.st w d v := by
    rcases hxl with hxs | ⟨b2, o2, hA2, hfl⟩
    · subst hxs
      exact ⟨[], by simp, by simp, by cases A2 <;> simp [Builtin.firstCells, loadCells, loadCellsFrom], by simp, by simp⟩
    · subst hA2
      obtain ⟨news, hnl, hnc, hnr⟩ := hfl
      refine ⟨news, hnl, fun v hv => ?_, run_firstCells_some w _ _ _ _ _ news hnl (fun j v hj => by rw [add_at]; exact (hnc j v hj).1), fun j v hj => ⟨b2, o2, rfl, (hnc j v hj).1⟩, hnr⟩
      obtain ⟨j, hj⟩ := List.getElem?_of_mem hv
      exact (hnc j v hj).2
  obtain ⟨us, hul, hu1, hurun, hucell, hurep⟩ := hnews
  have hfl := flat_len hxz
  have hnewrep : ∀ (G2 : Gh) (w2 : World), Ext G w G2 w2 → ∀ (i : Nat) (c : AV) (v : Value), ((xs.flatMap dcells).map toAV)[i]? = some c → us[i]? = some v → RepA G2 w2 c v := by
    intro G2 w2 hx2 i c v hc hv
    rw [List.getElem?_map] at hc
    cases hd : (xs.flatMap dcells)[i]? with
    | none => rw [hd] at hc; cases hc
    | some dd =>
      rw [hd] at hc
      cases hc
      obtain ⟨i1, e1, j1, q1, q2, q3⟩ := flat_get hxz hd
      obtain ⟨v1, q4, q5⟩ := hurep i1 e1 q1 j1 dd q2
      rw [← q3, hv] at q4
      cases q4
      exact (RepD.toA q5).ext hx2
  by_cases hroom : len + xs.length ≤ cap
  · -- there is room
    have hz2 : (len + xs.length) * zs.length ≤ cap * zs.length := Nat.mul_le_mul_right _ hroom
    rw [Nat.add_mul] at hz2
    obtain ⟨srun, g1, g2⟩ := hi.store (P := P) (off := len * zs.length) (new := (xs.flatMap dcells).map toAV) hcs hb h0 (by rw [List.length_map, hfl, hcl]; omega) us (by rw [List.length_map, hfl]; exact hul) hu1 (hnewrep G w (Ext.refl _ _))
    have hb2 := g1.bx _ _ hb
    have hcs2 : (m.setCells (.own t0 g) (spl cs (len * zs.length) ((xs.flatMap dcells).map toAV))).cells (.own t0 g) = some (spl cs (len * zs.length) ((xs.flatMap dcells).map toAV)) := by
      simp only [AH.setCells, AH.cells, hget_set_self, if_true]
    obtain ⟨G', k1, k2, k3⟩ := g2.rename hcs2 hb2 h0
    have hnb : (m.setCells (.own t0 g) (spl cs (len * zs.length) ((xs.flatMap dcells).map toAV))).newBox t0 (spl cs (len * zs.length) ((xs.flatMap dcells).map toAV)) = m.newBox t0 (spl cs (len * zs.length) ((xs.flatMap dcells).map toAV)) ∧
        gnext (m.setCells (.own t0 g) (spl cs (len * zs.length) ((xs.flatMap dcells).map toAV))) t0 = gnext m t0 := by
      have hg : ∃ c3, hget m.h t0 = some (g, c3) := by
        simp only [AH.cells] at hcs
        cases hh : hget m.h t0 with
        | none => rw [hh] at hcs; cases hcs
        | some x =>
          obtain ⟨g3, c3⟩ := x
          rw [hh] at hcs
          simp only at hcs
          split at hcs
          · rename_i e; exact ⟨c3, by rw [e]⟩
          · cases hcs
      obtain ⟨c3, hg⟩ := hg
      have : gnext (m.setCells (.own t0 g) (spl cs (len * zs.length) ((xs.flatMap dcells).map toAV))) t0 = gnext m t0 := by simp [gnext, AH.setCells, hget_set_self, hg]
      refine ⟨?_, this⟩
      unfold AH.newBox
      rw [this]
      simp only [AH.setCells, hset_hset]
    rw [hnb.1] at k2
    rw [hnb.2] at k3
    refine ⟨G', _, _, .msl (.own t0 (gnext m t0)) 0 (len + n) cap, .slice (some ⟨b, o, none⟩) (len + xs.length) cap, ?_, g1.trans k1, k2, ?_, ?_⟩
    · have hurun' := hurun
      rw [hzl] at hurun' srun
      simp [Builtin.append_, run_underlying hu, sizeOf, typeInfo, hinf, Builtin.lenOf, hroom, hurun', add_at, srun, hzl]
    · have := RepA.msl (G := G') (w := w.setCells b (o + len * zs.length) us) (.own t0 (gnext m t0)) 0 (len + n) cap b o k3 h0 (by rw [← hn]; exact hroom) hcm
      rw [Nat.add_zero, ← hn] at this
      rw [← hn]
      exact this
    · have := hK cap (cs.drop (len * zs.length + ((xs.flatMap dcells).map toAV).length)) (by rw [← hn]; exact hroom) (by
        rw [List.length_drop, List.length_map, hfl, hcl, ← hn, Nat.sub_mul, Nat.add_mul])
      exact this
  · -- a new array
    have hx0 : 0 < xs.length := by omega
    obtain ⟨b2, o2, hA2⟩ : ∃ b2 o2, A2 = some ⟨b2, o2, none⟩ := by
      rcases hxl with hxs | ⟨b2, o2, hA2, _⟩
      · rw [hxs] at hx0; simp at hx0
      · exact ⟨b2, o2, hA2⟩
    subst hA2
    have hlz : len * zs.length ≤ cs.length := by rw [hcl]; exact Nat.mul_le_mul_right _ hlc
    obtain ⟨olds, hol, hoc⟩ := cells_list (w := w) (b := b) (o := o) (p := fun k v => oneCell v = true ∧ ∀ c, cs[k]? = some c → RepA G w c v) (len * zs.length) 0 (fun k hk => by
      rw [Nat.zero_add]
      obtain ⟨_, v, v1, v2, v3⟩ := hcell k _ (List.getElem?_eq_getElem (by omega))
      exact ⟨v, v1, v2, fun c hc => by rw [List.getElem?_eq_getElem (by omega)] at hc; cases hc; exact v3⟩)
    have hfits : Builtin.nextslicecap (len + xs.length) cap * inf.bytes ≤ 281474976710656 := growslice_fits (by omega) (by rw [hn]; exact hsize)
    have run := run_append_grow (P := P) w t ty e inf zv hu hinf hzv ⟨b, o, none⟩ len cap olds (by rw [← hzl]; exact hol) (fun j v hj => by rw [add_at]; have := (hoc j v hj).1; rwa [Nat.zero_add] at this) ⟨b2, o2, none⟩ xs.length c2 us (by rw [← hzl]; exact hul)
      (fun j v hj => by
        rw [add_at]
        obtain ⟨b3, o3, q1, q2⟩ := hucell j v hj
        cases q1; exact q2) (by omega) (by omega) hfits
    have hg := grownCap_ge w (len + xs.length) cap e
    have hgm := grownCap_le_maxLen w (len + xs.length) cap e (by simp [maxLen]; omega)
    generalize hGC : grownCap w (len + xs.length) cap e = gc at run hg hgm
    have hzr := madeA_rep (hrep G w.drew) (gc - (len + xs.length))
    have hzz : (Builtin.zeroCells zv.cells (gc - (len + xs.length))).toList = (madeCells zv.cells.toList.toArray ((gc - (len + xs.length)) * zv.cells.toList.length)).toList := by
      simp [Builtin.zeroCells, madeCells]
    have hzr2 : RepL G w.drew (madeA zs (gc - (len + xs.length))) (Builtin.zeroCells zv.cells (gc - (len + xs.length))).toList := by rw [hzz]; exact hzr
    obtain ⟨G', g1, g2, g3⟩ := (hi.drew).newBox t0 e (cs.take (len * zs.length) ++ (xs.flatMap dcells).map toAV ++ madeA zs (gc - (len + xs.length))) (olds ++ us ++ (Builtin.zeroCells zv.cells (gc - (len + xs.length))).toList)
      (by rw [List.length_append, List.length_append, List.length_append, List.length_append, hol, hul, hzr2.len, List.length_take, List.length_map, hfl]; omega)
      (fun v hv => by
        rcases List.mem_append.1 hv with hv | hv
        · rcases List.mem_append.1 hv with hv | hv
          · obtain ⟨j, hj⟩ := List.getElem?_of_mem hv
            exact (hoc j v hj).2.1 |> fun q => by simpa using q
          · exact hu1 v hv
        · exact hzr2.one v hv)
      (fun i c v hc hv => by
        by_cases h1 : i < len * zs.length
        · rw [List.append_assoc, List.getElem?_append_left (by rw [List.length_take]; omega), List.getElem?_take, if_pos h1] at hc
          rw [List.append_assoc, List.getElem?_append_left (by omega)] at hv
          have := (hoc i v hv).2.2
          rw [Nat.zero_add] at this
          exact (this c hc).ext (Ext.drew G w)
        · by_cases h2 : i < len * zs.length + xs.length * zs.length
          · rw [List.append_assoc, List.getElem?_append_right (by rw [List.length_take]; omega), List.length_take, Nat.min_eq_left hlz, List.getElem?_append_left (by rw [List.length_map, hfl]; omega)] at hc
            rw [List.append_assoc, List.getElem?_append_right (by omega), hol, List.getElem?_append_left (by omega)] at hv
            exact hnewrep G w.drew (Ext.drew G w) _ c v hc hv
          · rw [List.getElem?_append_right (by rw [List.length_append, List.length_take, List.length_map, hfl]; omega), List.length_append, List.length_take, List.length_map, hfl, Nat.min_eq_left hlz] at hc
            rw [List.getElem?_append_right (by rw [List.length_append]; omega), List.length_append, hol, hul] at hv
            exact hzr2.rep _ c v hc hv)
    have e1 : (olds ++ us ++ (Builtin.zeroCells zv.cells (gc - (len + xs.length))).toList).toArray = olds.toArray ++ us.toArray ++ Builtin.zeroCells zv.cells (gc - (len + xs.length)) := by apply Array.ext'; simp
    rw [e1] at g1 g2
    refine ⟨G', _, _, .msl (.own t0 (gnext m t0)) 0 (len + n) gc, _, run, (Ext.drew G w).trans g1, g2, ?_, ?_⟩
    · have := RepA.msl (G := G') (w := w.drew.alloc (.cells (olds.toArray ++ us.toArray ++ Builtin.zeroCells zv.cells (gc - (len + xs.length))) e)) (.own t0 (gnext m t0)) 0 (len + n) gc w.heap.size 0 g3 (by simp [mapMark]) (by rw [← hn]; exact hg) hgm
      rw [← hn] at this
      rw [← hn]
      exact this
    · refine hK gc _ (by rw [← hn]; exact hg) ?_
      simp [madeA, ← hn]

/-- An append. -/
def exAppX (P : Program) (m : AH) (d : Option Nat) (t t' : Nat) (s x : AV) (K : AH → AV → Prop) : Prop := match s with
  | .msl l off len cap => t' = t ∧ exAppM P m d t l off len cap x K
  | s => exAppend P m t t' s x K

theorem exAppX_ok {P : Program} {E : Env} {G : Gh} {m : AH} {w : World} {d : Option Nat} {t t' ty : Nat} {s x : AV} {sv xv : Value} {K : AH → AV → Prop} (h : exAppX P m d t t' s x K) (hi : Inv E G m w) (hs : RepA G w s sv) (hx : RepA G w x xv) :
    ∃ G' m' w' v u, (Builtin.append_ #[t, t'] ty #[sv, xv]).run P w = .ok u w' ∧ Ext G w G' w' ∧ Inv E G' m' w' ∧ RepA G' w' v u ∧ K m' v := by
  unfold exAppX at h
  split at h
  · obtain ⟨rfl, h⟩ := h
    exact exAppM_ok h hi hs hx
  · exact exAppend_ok h hi hs hx

theorem exAppX_sl {P : Program} {m : AH} {d : Option Nat} {t t' z : Nat} {es : List DV} {k : Tok} {x : AV} {K : AH → AV → Prop} : exAppX P m d t t' (.sl z es k) x K = exAppend P m t t' (.sl z es k) x K := (rfl)
theorem exAppX_msl {P : Program} {m : AH} {d : Option Nat} {t t' : Nat} {l : Loc} {off len cap : Nat} {x : AV} {K : AH → AV → Prop} : exAppX P m d t t' (.msl l off len cap) x K = (t' = t ∧ exAppM P m d t l off len cap x K) := (rfl)
@[congr] theorem exAppX_congr {P : Program} {m m' : AH} {d : Option Nat} {t t' : Nat} {s s' x x' : AV} {K : AH → AV → Prop} (h : m = m') (h2 : s = s') (h3 : x = x') : exAppX P m d t t' s x K = exAppX P m' d t t' s' x' K := by rw [h, h2, h3]
@[congr] theorem exAppM_congr {P : Program} {m m' : AH} {d : Option Nat} {t : Nat} {l : Loc} {off len cap len' cap' : Nat} {x x' : AV} {K : AH → AV → Prop} (h : m = m') (h1 : len = len') (h2 : cap = cap') (h3 : x = x') : exAppM P m d t l off len cap x K = exAppM P m' d t l off len' cap' x' K := by rw [h, h1, h2, h3]
theorem exAppX_mono {P : Program} {m : AH} {d : Option Nat} {t t' : Nat} {s x : AV} {K K' : AH → AV → Prop} (h : exAppX P m d t t' s x K) (hK : ∀ m v, K m v → K' m v) : exAppX P m d t t' s x K' := by
  unfold exAppX at h ⊢
  split at h
  · obtain ⟨h1, h⟩ := h
    refine ⟨h1, ?_⟩
    unfold exAppM at h ⊢
    split at h
    · split at h
      · obtain ⟨g1, g2, g3, g4, g5, g6, g7, g8⟩ := h
        exact ⟨g1, g2, g3, g4, g5, g6, g7, fun c sp q1 q2 => hK _ _ (g8 c sp q1 q2)⟩
      · exact h.elim
    · exact h.elim
  · rename_i s' hs'
    unfold exAppend at h ⊢
    split at h
    · split at h
      · obtain ⟨h1, h2, h3, h4, h5⟩ := h
        refine ⟨h1, h2, h3, h4, ?_⟩
        split at h5
        · exact ⟨h5.1, h5.2.1, hK _ _ h5.2.2⟩
        · exact h5.elim
      · exact h.elim
    · exact h.elim

end Go.AB
