/- Slices that a function makes and adds to: append, literals, make; and what a cut of bytes out of a string is. -/
import Derived.Test.YtaieadcnhlapdaaDoorB5
import Derived.Laws.BytesArg
import Derived.Lib.ConvBytes
namespace Go.AB

/-- A mark is given out, another one is used up. -/
def AH.app (m : AH) (kill : Tok) : AH := { m with nx := m.nx + 1, lv := fun j => j = m.nx ∨ (m.lv j ∧ kill ≠ .own j) }

theorem app_cells (m : AH) (k : Tok) (l : Loc) : (m.app k).cells l = m.cells l := by cases l <;> rfl

theorem index_lt {i j z n : Nat} (hi : i < n) (hj : j < z) : i * z + j < n * z := by
  have h1 : (i + 1) * z ≤ n * z := Nat.mul_le_mul_right _ hi
  rw [Nat.add_mul] at h1
  omega

/-- A new row that is added to by nobody else. -/
theorem Inv.newArr {E : Env} {G : Gh} {m : AH} {w : World} (h : Inv E G m w) (kill : Tok) (z : Nat) (es : List DV) (c ty : Nat) (us rest : List Value) (hd : ∀ (i : Nat) (e : DV), es[i]? = some e → (dcells e).length = z)
    (hrep : ∀ (i : Nat) (e : DV), es[i]? = some e → ∀ (j : Nat) (d : DV), (dcells e)[j]? = some d → ∃ v, us[i * z + j]? = some v ∧ RepD G.st w d v)
    (hc : es.length ≤ c) (hm : c ≤ maxLen) (hz : c * z ≤ (us ++ rest).length) :
    ∃ G', Ext G w G' (w.alloc (.cells (us ++ rest).toArray ty)) ∧ Inv E G' (m.app kill) (w.alloc (.cells (us ++ rest).toArray ty)) ∧
      RepA G' (w.alloc (.cells (us ++ rest).toArray ty)) (.sl z es (.own m.nx)) (.slice (some ⟨w.heap.size, 0, none⟩) es.length c) := by
  let N := w.heap.size
  let G' : Gh := { G with st := fun b j => G.st b j ∨ (b = N ∧ j < es.length * z), tk := fun j => if j = m.nx then some (some (N, 0, es.length, c, z)) else if kill = .own j then none else G.tk j, nx := m.nx + 1, who := updN G.who N (some (.inr m.nx)) }
  have hx : Ext G w G' (w.alloc (.cells (us ++ rest).toArray ty)) := by
    refine ⟨fun b o hs => .inl hs, fun b o hs => World.cell?_alloc_lt w _ _ (st_lt h hs), fun l y hy => hy, by rw [h.nx]; exact Nat.le_succ _, fun i x hi hx => ?_⟩
    have hne : ¬ i = m.nx := by rw [h.nx] at hi; omega
    simp only [G', hne, if_false] at hx
    split at hx
    · cases hx
    · exact hx
  have hNn : G.who N = none := (h.fresh N (Nat.le_refl _)).1
  refine ⟨G', hx, ?_, ?_⟩
  · refine h.but (N := N) hx ⟨rfl, rfl, rfl, by simp, fun b hb => ?_, fun b hb => updN_ne _ _ hb, fun b hb j => ?_⟩ (.inr h.kept.size) (fun l cs hcs => .inl ⟨by rwa [app_cells] at hcs, by rw [hNn]; simp⟩) (fun t g hg => h.gen t g hg) (fun i hi => ?_) (fun i hi => ?_) rfl (by simp [N])
    · show (w.heap.push _)[b]? = _
      rw [Array.getElem?_push, if_neg hb]
    · simp [G', hb]
    · by_cases hin : i = m.nx
      · subst hin
        right
        refine .inr ⟨N, 0, es.length, c, z, (us ++ rest).toArray, ty, by simp [G'], by simp [G', updN], .inr h.kept.size, ?_, ?_, hc, fun j hj hs => ?_⟩
        · show (w.heap.push _)[N]? = _
          rw [Array.getElem?_push, if_pos rfl]
        · simpa using hz
        · rcases hs with hs | ⟨_, hs⟩
          · exact absurd (st_lt h hs) (by simp [N])
          · omega
      · rcases hi with hi | ⟨hi, hk⟩
        · exact absurd hi hin
        · left
          refine ⟨hi, ?_, by rw [hNn]; simp⟩
          simp [G', hin, hk]
    · rcases hi with hi | ⟨hi, _⟩
      · subst hi; exact Nat.lt_succ_self _
      · exact Nat.lt_succ_of_lt (h.lt i hi)
  · refine .sl z es _ _ c ⟨hc, hm, hd, .inr ⟨N, 0, rfl, fun i e he j d hdj => ?_⟩⟩ ⟨by simp [G'], fun x hx' => .inr ⟨N, 0, rfl, ?_⟩⟩
    · obtain ⟨v, hv, hr⟩ := hrep i e he j d hdj
      have hi := (List.getElem?_eq_some_iff.1 he).1
      have hj : j < z := by rw [← hd i e he]; exact (List.getElem?_eq_some_iff.1 hdj).1
      refine ⟨.inr ⟨rfl, by rw [Nat.zero_add]; exact index_lt hi hj⟩, v, ?_, hr.ext hx.st hx.cell⟩
      rw [Nat.zero_add, World.cell?_alloc_new]
      rw [List.getElem?_toArray, List.getElem?_append_left (List.getElem?_eq_some_iff.1 hv).1]
      exact hv
    · simp [G'] at hx'
      exact hx'.symm

theorem SlAt.flat {st : Nat → Nat → Prop} {w : World} {xs : List DV} {b o c z : Nat} (h : SlAt st w xs (some ⟨b, o, none⟩) c z) :
    ∃ news : List Value, news.length = xs.length * z ∧ (∀ k v, news[k]? = some v → w.cell? ⟨b, o + k, none⟩ = some v ∧ oneCell v = true) ∧
      ∀ (i : Nat) (e : DV), xs[i]? = some e → ∀ (j : Nat) (d : DV), (dcells e)[j]? = some d → ∃ v, news[i * z + j]? = some v ∧ RepD st w d v := by
  obtain ⟨_, _, h3, h4⟩ := h
  rcases h4 with ⟨he, _⟩ | ⟨b', o', hA, h4⟩
  · subst he
    exact ⟨[], by simp, by simp, by simp⟩
  · cases hA
    obtain ⟨vs, hl, hv⟩ := cells_list (w := w) (b := b) (o := o) (p := fun _ v => oneCell v = true) (xs.length * z) 0 (fun k hk => by
      have hz : 0 < z := by rcases Nat.eq_zero_or_pos z with rfl | hz <;> simp_all
      have hi : k / z < xs.length := by rw [Nat.div_lt_iff_lt_mul hz]; exact hk
      have he := List.getElem?_eq_getElem hi
      have hj : k % z < (dcells xs[k / z]).length := by rw [h3 _ _ he]; exact Nat.mod_lt _ hz
      obtain ⟨_, v, h5, h6⟩ := h4 _ _ he _ _ (List.getElem?_eq_getElem hj)
      have e1 : k / z * z + k % z = k := by rw [Nat.mul_comm]; exact Nat.div_add_mod k z
      rw [e1] at h5
      exact ⟨v, by rw [Nat.zero_add]; exact h5, h6.one⟩)
    refine ⟨vs, hl, fun k v hk => by have := hv k v hk; rwa [Nat.zero_add] at this, fun i e he j d hd => ?_⟩
    obtain ⟨_, v, h5, h6⟩ := h4 i e he j d hd
    have hi := (List.getElem?_eq_some_iff.1 he).1
    have hj : j < z := by rw [← h3 i e he]; exact (List.getElem?_eq_some_iff.1 hd).1
    have hlt : i * z + j < vs.length := by rw [hl]; exact index_lt hi hj
    refine ⟨vs[i * z + j], List.getElem?_eq_getElem hlt, ?_⟩
    have := (hv _ _ (List.getElem?_eq_getElem hlt)).1
    rw [Nat.zero_add, h5] at this
    cases this
    exact h6

/-- What append needs of the slice's type: the cells and the bytes of an element. -/
def apA (P : Program) (t : Nat) : Option (Nat × Nat) := match P.underlying t with
  | some (.slice e) => match P.info? e with
    | some i => match i.zero with
      | some zv => if zv.cells.size = i.size ∧ 0 < i.bytes then some (i.size, i.bytes) else none
      | none => none
    | none => none
  | _ => none

theorem apA_of {P : Program} {t z y : Nat} (h : apA P t = some (z, y)) : ∃ e i zv, P.underlying t = some (.slice e) ∧ P.info? e = some i ∧ i.zero = some zv ∧ zv.cells.size = z ∧ i.size = z ∧ i.bytes = y ∧ 0 < y := by
  unfold apA at h
  split at h
  · rename_i e hu
    split at h
    · rename_i i hi
      split at h
      · rename_i zv hz
        split at h
        · rename_i hc
          cases h
          exact ⟨e, i, zv, hu, hi, hz, hc.1, rfl, rfl, hc.2⟩
        · cases h
      · cases h
    · cases h
  · cases h

theorem heap_setCells_self (b : Nat) (ty : Nat) (fr : Nat × Nat) : ∀ (vs : List Value) (o : Nat) (w : World) (cs : Array Value), w.heap[b]? = some (.cells cs ty fr) → ∃ cs', (w.setCells b o vs).heap[b]? = some (.cells cs' ty fr) ∧ cs'.size = cs.size
  | [], _, _, cs, h => ⟨cs, h, rfl⟩
  | v :: r, o, w, cs, h => by
    rw [World.setCells]
    obtain ⟨cs', h1, h2⟩ := heap_setCells_self b ty fr r (o + 1) (w.setCell ⟨b, o, none⟩ v) (cs.setIfInBounds o v) (by
      simp only [World.setCell, Array.getElem?_modify, if_true, h]
      rfl)
    exact ⟨cs', h1, by rw [h2]; simp⟩

/-- More in a row that nobody else adds to. -/
theorem Inv.roomArr {E : Env} {G : Gh} {m : AH} {w : World} (h : Inv E G m w) {P : Program} (i b o c z : Nat) (es xs : List DV) (us : List Value) (hlv : m.lv i) (htk : G.tk i = some (some (b, o, es.length, c, z)))
    (hes : SlAt G.st w es (some ⟨b, o, none⟩) c z) (hxz : ∀ (i : Nat) (e : DV), xs[i]? = some e → (dcells e).length = z) (hus : us.length = xs.length * z) (h1 : ∀ v ∈ us, oneCell v = true)
    (hrep : ∀ (i : Nat) (e : DV), xs[i]? = some e → ∀ (j : Nat) (d : DV), (dcells e)[j]? = some d → ∃ v, us[i * z + j]? = some v ∧ RepD G.st w d v) (hroom : es.length + xs.length ≤ c) :
    (storeCells ⟨b, o + es.length * z, none⟩ us).run P w = .ok () (w.setCells b (o + es.length * z) us) ∧
    ∃ G', Ext G w G' (w.setCells b (o + es.length * z) us) ∧ Inv E G' (m.app (.own i)) (w.setCells b (o + es.length * z) us) ∧
      RepA G' (w.setCells b (o + es.length * z) us) (.sl z (es ++ xs) (.own m.nx)) (.slice (some ⟨b, o, none⟩) (es ++ xs).length c) := by
  have ht := h.tok i hlv
  rcases ht with ht | ⟨b', o', n', c', z', cells, ty, ht, hwho, hmay, hheap, hsz, hnc, hst⟩
  · rw [htk] at ht; cases ht
  rw [htk] at ht
  cases ht
  have hfit : o + (es.length + xs.length) * z ≤ cells.size := Nat.le_trans (Nat.add_le_add_left (Nat.mul_le_mul_right _ hroom) _) hsz
  rw [Nat.add_mul] at hfit
  have hcell : ∀ j, j < us.length → (w.cell? ⟨b, o + es.length * z + j, none⟩).isSome = true := by
    intro j hj
    have hlt : o + es.length * z + j < cells.size := by omega
    simp [World.cell?, hheap, hlt]
  have run := run_storeCells_cells (P := P) b (o + es.length * z) us 0 w (fun j hj => by simpa using hcell j hj) (fun j hj => by simp [World.frozen?, hheap]) (fun v hv => by rw [oneCell_eq]; exact h1 v hv)
  refine ⟨run, ?_⟩
  let w' := w.setCells b (o + es.length * z) us
  let G' : Gh := { G with st := fun b2 j => G.st b2 j ∨ (b2 = b ∧ o + es.length * z ≤ j ∧ j < o + (es.length + xs.length) * z), tk := fun j => if j = m.nx then some (some (b, o, (es ++ xs).length, c, z)) else if i = j then none else G.tk j, nx := m.nx + 1, who := updN G.who b (some (.inr m.nx)) }
  have hout : ∀ b2 o2, G.st b2 o2 → w'.cell? ⟨b2, o2, none⟩ = w.cell? ⟨b2, o2, none⟩ := by
    intro b2 o2 hs
    refine World.cell?_setCells_out b us _ w _ (fun e _ => ?_)
    simp only at e
    subst e
    left
    simp only
    rcases Nat.lt_or_ge o2 (o + es.length * z) with h | h
    · exact h
    · exact absurd hs (hst o2 h)
  have hx : Ext G w G' w' := by
    refine ⟨fun b2 o2 hs => .inl hs, hout, fun l y hy => hy, by rw [h.nx]; exact Nat.le_succ _, fun k x hi hx => ?_⟩
    have hne : ¬ k = m.nx := by rw [h.nx] at hi; omega
    simp only [G', hne, if_false] at hx
    split at hx
    · cases hx
    · exact hx
  have hlen : (es ++ xs).length = es.length + xs.length := List.length_append
  refine ⟨G', hx, ?_, ?_⟩
  · refine h.but (N := b) hx ⟨(os_setCells b us _ w).1, (os_setCells b us _ w).2.1, (os_setCells b us _ w).2.2, by rw [size_setCells]; exact Nat.le_refl _, fun k hk => heap_setCells b us _ w k hk, fun k hk => updN_ne _ _ hk, fun k hk j => ?_⟩ hmay
      (fun l cs hcs => .inl ⟨by rwa [app_cells] at hcs, by rw [hwho]; simp⟩) (fun t g hg => h.gen t g hg) (fun k hk => ?_) (fun k hk => ?_) rfl (by rw [size_setCells]; exact who_lt h hwho)
    · simp [G', hk]
    · by_cases hkn : k = m.nx
      · subst hkn
        right
        obtain ⟨cs', hh, hs'⟩ := heap_setCells_self b ty (0, 0) us (o + es.length * z) w cells hheap
        refine .inr ⟨b, o, (es ++ xs).length, c, z, cs', ty, by simp [G'], by simp [G', updN], hmay, hh, by rw [hs']; exact hsz, by rw [hlen]; exact hroom, fun j hj hs => ?_⟩
        rw [hlen, Nat.add_mul] at hj
        rcases hs with hs | ⟨_, hs1, hs2⟩
        · exact hst j (by omega) hs
        · rw [Nat.add_mul] at hs2; omega
      · rcases hk with hk | ⟨hk, hki⟩
        · exact absurd hk hkn
        · left
          have hki' : ¬ i = k := fun e => hki (by rw [e])
          exact ⟨hk, by simp [G', hkn, hki'], by rw [hwho]; intro e; cases e; exact hki' rfl⟩
    · rcases hk with hk | ⟨hk, _⟩
      · subst hk; exact Nat.lt_succ_self _
      · exact Nat.lt_succ_of_lt (h.lt k hk)
  · obtain ⟨h2, h3, h4, h5⟩ := hes
    refine .sl z _ _ _ c ⟨by rw [hlen]; exact hroom, h3, fun k e he => ?_, .inr ⟨b, o, rfl, fun k e he j d hd => ?_⟩⟩ ⟨by simp [G'], fun x hx' => .inr ⟨b, o, rfl, ?_⟩⟩
    · by_cases hk : k < es.length
      · rw [List.getElem?_append_left hk] at he; exact h4 _ _ he
      · rw [List.getElem?_append_right (by omega)] at he; exact hxz _ _ he
    · by_cases hk : k < es.length
      · rw [List.getElem?_append_left hk] at he
        rcases h5 with ⟨hE, _⟩ | ⟨b', o', hA, h5⟩
        · subst hE; simp at hk
        · cases hA
          obtain ⟨s1, v, s2, s3⟩ := h5 k e he j d hd
          exact ⟨.inl s1, v, (hout _ _ s1).trans s2, s3.ext hx.st hx.cell⟩
      · rw [List.getElem?_append_right (by omega)] at he
        obtain ⟨v, hv, hr⟩ := hrep _ e he j d hd
        have hkx := (List.getElem?_eq_some_iff.1 he).1
        have hj : j < z := by rw [← hxz _ e he]; exact (List.getElem?_eq_some_iff.1 hd).1
        have hb := index_lt hkx hj
        have e1 : o + (k * z + j) = o + es.length * z + ((k - es.length) * z + j) := by
          have : k * z = es.length * z + (k - es.length) * z := by rw [← Nat.add_mul]; congr 1; omega
          omega
        rw [e1]
        have hvl := (List.getElem?_eq_some_iff.1 hv).1
        refine ⟨.inr ⟨rfl, by omega, by rw [Nat.add_mul]; omega⟩, v, ?_, hr.ext hx.st hx.cell⟩
        rw [World.cell?_setCells_in b us (o + es.length * z) w hcell _ hvl]
        exact (List.getElem?_eq_getElem hvl).symm.trans hv
    · simp [G'] at hx'
      rw [hlen]
      exact hx'.symm

theorem RepD.drew {st : Nat → Nat → Prop} {w : World} {d : DV} {v : Value} (h : RepD st w d v) : RepD st w.drew d v :=
  RepD.ext (w := w) (w' := w.drew) (st := st) (st' := st) (fun _ _ x => x) (fun _ _ _ => rfl) h

/-- Whether a slice may be added to. -/
def okT (m : AH) : Tok → Prop
  | .no => False
  | .nil => True
  | .own i => m.lv i

/-- An append of nothing to what is nil. -/
theorem Inv.nilApp {E : Env} {G : Gh} {m : AH} {w : World} (h : Inv E G m w) (kill : Tok) (z : Nat) :
    ∃ G', Ext G w G' w ∧ Inv E G' (m.app kill) w ∧ RepA G' w (.sl z [] (.own m.nx)) (.slice none 0 0) := by
  let G' : Gh := { G with tk := fun j => if j = m.nx then some none else if kill = .own j then none else G.tk j, nx := m.nx + 1 }
  have hx : Ext G w G' w := by
    refine ⟨fun b o hs => hs, fun b o hs => rfl, fun l y hy => hy, by rw [h.nx]; exact Nat.le_succ _, fun i x hi hx => ?_⟩
    have hne : ¬ i = m.nx := by rw [h.nx] at hi; omega
    simp only [G', hne, if_false] at hx
    split at hx
    · cases hx
    · exact hx
  refine ⟨G', hx, ⟨h.kept, fun l cs hc => (h.box l cs (by rwa [app_cells] at hc)).same hx (fun _ hb => ⟨hb, fun _ x => x, rfl⟩), fun t g hg => h.gen t g hg, fun i hi => ?_, fun i hi => ?_, rfl, h.fresh, h.ext.trans hx, h.st1⟩, ?_⟩
  · by_cases hin : i = m.nx
    · subst hin; exact .inl (by simp [G'])
    · rcases hi with hi | ⟨hi, hk⟩
      · exact absurd hi hin
      · exact (h.tok i hi).same (by simp [G', hin, hk]) (fun _ hb => ⟨hb, fun _ x => x, rfl⟩)
  · rcases hi with hi | ⟨hi, _⟩
    · subst hi; exact Nat.lt_succ_self _
    · exact Nat.lt_succ_of_lt (h.lt i hi)
  · exact .sl z [] _ none 0 ⟨by simp, by simp [maxLen], by simp, .inl ⟨rfl, rfl⟩⟩ ⟨by simp [G'], fun x hx' => by simp [G'] at hx'; exact .inl ⟨rfl, hx'.symm⟩⟩

/-- Whether a type is that of slices of bytes. -/
def bytesA (P : Program) (t : Nat) : Bool := match P.underlying t with
  | some (.slice e) => match P.underlying e, P.info? e with
    | some (.int .u8), some i => i.size == 1
    | _, _ => false
  | _ => false

theorem bytesA_of {P : Program} {t : Nat} (h : bytesA P t = true) : ∃ e, P.underlying t = some (.slice e) ∧ P.underlying e = some (.int .u8) := by
  unfold bytesA at h
  split at h
  · rename_i e hu
    split at h
    · rename_i i he _; exact ⟨e, hu, he⟩
    · cases h
  · cases h

def byteD (b : UInt8) : DV := .int .u8 b.toNat

/-- The bytes of a string, as a new slice. -/
def exBytes (P : Program) (src : Nat) (a : AV) (K : AV → Prop) : Prop := match a with
  | .str s => strA P src = true ∧ s.length ≤ 140737488355328 ∧ K (.sl 1 (s.map byteD) .no)
  | _ => False

theorem exBytes_ok {P : Program} {E : Env} {G : Gh} {m : AH} {w : World} {src dst : Nat} {a : AV} {x : Value} {K : AV → Prop} (h : exBytes P src a K) (hb : bytesA P dst = true) (hi : Inv E G m w) (hx : RepA G w a x) :
    ∃ G' w' v u, (convert src dst x).run P w = .ok u w' ∧ Ext G w G' w' ∧ Inv E G' m w' ∧ RepA G' w' v u ∧ K v := by
  unfold exBytes at h
  split at h
  · rename_i s
    obtain ⟨hs, hl, hK⟩ := h
    obtain ⟨e, hd, he⟩ := bytesA_of hb
    cases hx
    have run := Go.Lib.run_convert_string_bytes (P := P) w src dst e ⟨s.toArray⟩ (strA_of hs) hd he
    let N := w.heap.size
    let w' := Go.Lib.bytesWorld w e ⟨s.toArray⟩
    let G' : Gh := { G with st := fun b j => G.st b j ∨ (b = N ∧ j < s.length) }
    have hold : ∀ b, b < N → w'.heap[b]? = w.heap[b]? := fun b hb => Go.Lib.bytesWorld_at_old w e _ b hb
    have hx' : Ext G w G' w' := ⟨fun b o hs => .inl hs, fun b o hs => cell_of_heap (hold b (st_lt hi hs)) o, fun l y hy => hy, Nat.le_refl _, fun i x _ hx => hx⟩
    have hNn : G.who N = none := (hi.fresh N (Nat.le_refl _)).1
    have hsz : w'.heap.size = N + 1 := Go.Lib.bytesWorld_size w e _
    have hcap : s.length ≤ grownCap w s.length 0 e := grownCap_ge w s.length 0 e
    refine ⟨G', w', _, _, run, hx', ?_, ?_, hK⟩
    · refine hi.but (N := N) hx' ⟨rfl, rfl, rfl, by rw [hsz]; exact Nat.le_succ _, fun b hb => ?_, fun b hb => rfl, fun b hb j => ?_⟩ (.inr hi.kept.size) (fun l cs hcs => .inl ⟨hcs, by rw [hNn]; simp⟩) hi.gen
        (fun i hl => .inl ⟨hl, rfl, by rw [hNn]; simp⟩) hi.lt hi.nx (by rw [hsz]; exact Nat.lt_succ_self _)
      · rcases Nat.lt_or_ge b N with h1 | h1
        · exact hold b h1
        · rw [Array.getElem?_eq_none (by rw [hsz]; omega), Array.getElem?_eq_none (by omega)]
      · exact ⟨fun h => h.resolve_right (fun h => hb h.1), .inl⟩
    · have hR := RepA.sl (G := G') (w := w') 1 (s.map byteD) .no (some ⟨N, 0, none⟩) (grownCap w s.length 0 e)
        ⟨by rw [List.length_map]; exact hcap, grownCap_le_maxLen w _ _ _ (by simp [maxLen]; omega), fun i d hd => ?_, .inr ⟨N, 0, rfl, fun i d hd j dd hj => ?_⟩⟩ trivial
      · rw [List.length_map] at hR; exact hR
      · rw [List.getElem?_map] at hd
        cases hsi : s[i]? with
        | none => rw [hsi] at hd; cases hd
        | some b => rw [hsi] at hd; cases hd; rfl
      · rw [List.getElem?_map] at hd
        cases hsi : s[i]? with
        | none => rw [hsi] at hd; cases hd
        | some b =>
          rw [hsi] at hd; cases hd
          have hil := (List.getElem?_eq_some_iff.1 hsi).1
          cases j with
          | succ j => cases hj
          | zero =>
            cases hj
            have hc := Go.Lib.bytesWorld_cell w e ⟨s.toArray⟩ i (by show i < s.toArray.size; simpa using hil)
            refine ⟨.inr ⟨rfl, by omega⟩, _, by simpa using hc, ?_⟩
            have : (s[i]?.getD 0) = b := by simp [hsi]
            rw [this]
            exact .int _ _
  · exact h.elim

theorem toD1_rep {G : Gh} {w : World} {a : AV} {d : DV} {x : Value} (h : toD1 a = some d) (hr : RepA G w a x) (ho : oneCell x = true) : RepD G.st w d x := by
  cases hr with
  | int k n => cases h; exact .int _ _
  | bool b => cases h; exact .bool _
  | str s => cases h; exact .str _
  | raw => cases h; exact .raw _ ho
  | sl z es t A c hs _ =>
    cases h
    obtain ⟨h1, h2, h3, h4⟩ := hs
    rcases h4 with ⟨he, hc⟩ | ⟨b, o, hA, h4⟩
    · subst he hc; exact .emp z A
    · subst hA
      refine .sl z es b o c (fun i j => (w.cell? ⟨b, o + (i * z + j), none⟩).getD undef) h1 h2 h3 (fun i e he j d hd => ?_) (fun i e he j d hd => ?_)
      · obtain ⟨s1, v, s2, _⟩ := h4 i e he j d hd
        exact ⟨s1, by rw [s2]; rfl⟩
      · obtain ⟨_, v, s2, s3⟩ := h4 i e he j d hd
        rw [s2]; exact s3
  | _ => cases h

theorem dcells_toD1 {a : AV} {d : DV} (h : toD1 a = some d) : dcells d = [d] := by
  cases a <;> simp [toD1] at h <;> subst h <;> rfl

theorem toDs_get : ∀ (cs : List AV) (ds : List DV), toDs cs = some ds → ds.length = cs.length ∧ ∀ (j : Nat) (d : DV), ds[j]? = some d → ∃ c, cs[j]? = some c ∧ toD1 c = some d
  | [], ds, h => by cases h; exact ⟨rfl, by simp⟩
  | c :: cs, ds, h => by
    simp only [toDs] at h
    split at h
    · cases h
    · rename_i d hd
      split at h
      · cases h
      · rename_i r hr
        cases h
        obtain ⟨h1, h2⟩ := toDs_get cs r hr
        refine ⟨by simp [h1], fun j d' hj => ?_⟩
        cases j with
        | zero => simp at hj; subst hj; exact ⟨c, rfl, hd⟩
        | succ j => simp at hj; exact h2 j d' hj

/-- What is added in an append: elements that lie somewhere. -/
def SrcAt (st : Nat → Nat → Prop) (w : World) (xs : List DV) (A : Option Addr) (z : Nat) : Prop :=
  (∀ (i : Nat) (e : DV), xs[i]? = some e → (dcells e).length = z) ∧
  (xs = [] ∨ ∃ b o, A = some ⟨b, o, none⟩ ∧ ∃ news : List Value, news.length = xs.length * z ∧ (∀ k v, news[k]? = some v → w.cell? ⟨b, o + k, none⟩ = some v ∧ oneCell v = true) ∧
    ∀ (i : Nat) (e : DV), xs[i]? = some e → ∀ (j : Nat) (d : DV), (dcells e)[j]? = some d → ∃ v, news[i * z + j]? = some v ∧ RepD st w d v)

theorem SlAt.src {st : Nat → Nat → Prop} {w : World} {xs : List DV} {A : Option Addr} {c z : Nat} (h : SlAt st w xs A c z) : SrcAt st w xs A z := by
  refine ⟨h.2.2.1, ?_⟩
  rcases h.2.2.2 with ⟨hx, _⟩ | ⟨b, o, rfl, _⟩
  · exact .inl hx
  · exact .inr ⟨b, o, rfl, h.flat⟩

/-- The elements of a slice, one's own array's or another's: cells an element, the elements, how many. -/
def srcA (m : AH) (x : AV) : Option (Nat × List DV × Nat) := match x with
  | .sl z xs _ => some (z, xs, xs.length)
  | .msl l off len _ => match m.cells l with
    | some cs => match toDs ((cs.drop off).take len) with
      | some ds => some (1, ds, len)
      | none => none
    | none => none
  | _ => none

theorem msl_cells {E : Env} {G : Gh} {m : AH} {w : World} (hi : Inv E G m w) {l : Loc} {off len b o : Nat} {cs : List AV} {ds : List DV} (hb : G.bx l = some (b, o)) (h0 : o ≠ mapMark) (hc : m.cells l = some cs) (hd : toDs ((cs.drop off).take len) = some ds) :
    ∀ (k : Nat) (d : DV), ds[k]? = some d → b < w.heap.size ∧ dcells d = [d] ∧ ∃ v, w.cell? ⟨b, o + off + k, none⟩ = some v ∧ oneCell v = true ∧ RepD G.st w d v := by
  intro k d hk
  obtain ⟨b', o', h1, h2, _, _, h5, _⟩ := hi.box l cs hc
  rw [hb] at h1
  cases h1
  obtain ⟨_, g2⟩ := toDs_get _ ds hd
  obtain ⟨c, hck, hcd⟩ := g2 k d hk
  have hkl : k < len := by
    have := (List.getElem?_eq_some_iff.1 hck).1
    simp at this; omega
  rw [List.getElem?_take_of_lt hkl, List.getElem?_drop] at hck
  obtain ⟨_, v, v1, v2, v3⟩ := h5 h0 _ c hck
  exact ⟨who_lt hi h2, dcells_toD1 hcd, v, by rw [Nat.add_assoc]; exact v1, v2, toD1_rep hcd v3 v2⟩

theorem srcA_ok {E : Env} {G : Gh} {m : AH} {w : World} (hi : Inv E G m w) {x : AV} {xv : Value} {z n : Nat} {xs : List DV} (h : srcA m x = some (z, xs, n)) (hn : xs.length = n) (hr : RepA G w x xv) :
    ∃ A c, xv = .slice A xs.length c ∧ SrcAt G.st w xs A z := by
  cases hr with
  | sl z es t A c hs ht =>
    cases h
    exact ⟨A, c, rfl, hs.src⟩
  | msl l off len cap b o hb h0 h1 h2 =>
    simp only [srcA] at h
    split at h
    · rename_i cs hc
      split at h
      · rename_i ds hd
        cases h
        have hm := msl_cells hi hb h0 hc hd
        obtain ⟨vs, hl, hv⟩ := cells_list (w := w) (b := b) (o := o + off) (p := fun k v => oneCell v = true ∧ ∀ d, xs[k]? = some d → RepD G.st w d v) xs.length 0 (fun k hk => by
          rw [Nat.zero_add]
          obtain ⟨_, _, v, v1, v2, v3⟩ := hm k _ (List.getElem?_eq_getElem hk)
          exact ⟨v, v1, v2, fun d hd => by rw [List.getElem?_eq_getElem hk] at hd; cases hd; exact v3⟩)
        refine ⟨_, _, by rw [hn], fun i e he => by rw [(hm i e he).2.1]; rfl, .inr ⟨b, o + off, rfl, vs, by rw [hl, Nat.mul_one], fun k v hk => ?_, fun i e he j d hd => ?_⟩⟩
        · have := hv k v hk
          rw [Nat.zero_add] at this
          exact ⟨this.1, this.2.1⟩
        · have hdc := (hm i e he).2.1
          rw [hdc] at hd
          cases j with
          | succ j => cases hd
          | zero =>
            cases hd
            have hil : i < vs.length := by rw [hl]; exact (List.getElem?_eq_some_iff.1 he).1
            have := hv i _ (List.getElem?_eq_getElem hil)
            rw [Nat.zero_add] at this
            exact ⟨_, by rw [Nat.mul_one, Nat.add_zero]; exact List.getElem?_eq_getElem hil, this.2.2 _ he⟩
      · cases h
    · cases h
  | _ => cases h

def exAppend (P : Program) (m : AH) (t t' : Nat) (s x : AV) (K : AH → AV → Prop) : Prop := match s with
  | .sl z es tok => (match srcA m x with
    | some (z', xs, n) => t' = t ∧ z' = z ∧ xs.length = n ∧ okT m tok ∧ (match apA P t with
      | some (z2, y) => z2 = z ∧ (es.length + xs.length) * y ≤ 140737488355328 ∧ K (m.app tok) (.sl z (es ++ xs) (.own m.nx))
      | none => False)
    | none => False)
  | _ => False

theorem exAppend_ok {P : Program} {E : Env} {G : Gh} {m : AH} {w : World} {t t' ty : Nat} {s x : AV} {sv xv : Value} {K : AH → AV → Prop} (h : exAppend P m t t' s x K) (hi : Inv E G m w) (hs : RepA G w s sv) (hx : RepA G w x xv) :
    ∃ G' m' w' v u, (Builtin.append_ #[t, t'] ty #[sv, xv]).run P w = .ok u w' ∧ Ext G w G' w' ∧ Inv E G' m' w' ∧ RepA G' w' v u ∧ K m' v := by
  unfold exAppend at h
  split at h
  · rename_i z es tok
    split at h
    rotate_left
    · exact h.elim
    rename_i z' xs n hsrc
    obtain ⟨rfl, rfl, hn, hok, h⟩ := h
    split at h
    · rename_i z2 y hap
      obtain ⟨rfl, hsize, hK⟩ := h
      obtain ⟨e, inf, zv, hu, hinf, hzv, hzc, hsz, hby, hy⟩ := apA_of hap
      obtain ⟨A2, c2, rfl, hxz, hxl⟩ := srcA_ok hi hsrc hn hx
      cases hs with
      | sl _ _ _ A c hsl htok =>
      have h48 : es.length + xs.length ≤ 140737488355328 := Nat.le_trans (Nat.le_mul_of_pos_right _ hy) hsize
      have hno : A = none → A = none ∧ es = [] ∧ c = 0 := by
        rintro rfl
        rcases hsl.2.2.2 with ⟨he, hc⟩ | ⟨_, _, hA, _⟩
        · exact ⟨rfl, he, hc⟩
        · cases hA
      have hAA : (A = none ∧ es = [] ∧ c = 0) ∨ ∃ b o, A = some ⟨b, o, none⟩ := by
        cases tok with
        | no => exact hok.elim
        | nil => exact .inl (hno htok)
        | own i =>
          have hx : ∃ x, G.tk i = some x := by
            rcases hi.tok i hok with ht | ⟨b', o', n', c', z', cells, tt, ht, _⟩
            · exact ⟨_, ht⟩
            · exact ⟨_, ht⟩
          obtain ⟨x, hx⟩ := hx
          rcases htok.2 x hx with ⟨hA, _⟩ | ⟨b, o, hA, _⟩
          · exact .inl (hno hA)
          · exact .inr ⟨b, o, hA⟩
      rcases hAA with ⟨hA, hes, hc0⟩ | ⟨b, o, hA⟩
      · subst hA hes hc0
        rcases hxl with hxs | ⟨b2, o2, hA2, hfl⟩
        · subst hxs
          obtain ⟨G', g1, g2, g3⟩ := hi.nilApp tok z2
          refine ⟨G', _, w, _, _, ?_, g1, g2, g3, by simpa using hK⟩
          cases A2 <;> simp [Builtin.append_, run_underlying hu, sizeOf, typeInfo, hinf, Builtin.lenOf, Builtin.firstCells, loadCells, loadCellsFrom]
        · subst hA2
          by_cases hx0 : xs = []
          · subst hx0
            obtain ⟨G', g1, g2, g3⟩ := hi.nilApp tok z2
            refine ⟨G', _, w, _, _, ?_, g1, g2, g3, by simpa using hK⟩
            simp [Builtin.append_, run_underlying hu, sizeOf, typeInfo, hinf, Builtin.lenOf, Builtin.firstCells, loadCells, loadCellsFrom]
          · have h0 : 0 < xs.length := List.length_pos_iff.2 hx0
            obtain ⟨news, hnl, hnc, hnr⟩ := hfl
            have run := run_append_nil (P := P) w t' ty e inf zv hu hinf hzv ⟨b2, o2, none⟩ xs.length c2 news (by rw [hsz]; exact hnl) (fun j v hj => by rw [add_at]; exact (hnc j v hj).1) h0 (by simp at h48; omega) (by rw [hby]; simp at hsize; omega)
            have hg := grownCap_ge w xs.length 0 e
            obtain ⟨G', g1, g2, g3⟩ := (hi.drew).newArr tok z2 xs (grownCap w xs.length 0 e) e news (Builtin.zeroCells zv.cells (grownCap w xs.length 0 e - xs.length)).toList hxz (fun i e' he j d hd => let ⟨v, hv, hr⟩ := hnr i e' he j d hd; ⟨v, hv, hr.drew⟩) hg
              (grownCap_le_maxLen w _ _ _ (by simp [maxLen]; simp at h48; omega)) (by
                have hzl : (Builtin.zeroCells zv.cells (grownCap w xs.length 0 e - xs.length)).toList.length = (grownCap w xs.length 0 e - xs.length) * z2 := by rw [Array.length_toList, size_zeroCells, hzc]
                rw [List.length_append, hnl, hzl, ← Nat.add_mul]
                exact Nat.mul_le_mul_right _ (by omega))
            refine ⟨G', _, _, _, _, run, ?_, ?_, ?_, by simpa using hK⟩
            · have e1 : (news ++ (Builtin.zeroCells zv.cells (grownCap w xs.length 0 e - xs.length)).toList).toArray = news.toArray ++ Builtin.zeroCells zv.cells (grownCap w xs.length 0 e - xs.length) := by apply Array.ext'; simp
              rw [← e1]; exact (Ext.drew G w).trans g1
            · have e1 : (news ++ (Builtin.zeroCells zv.cells (grownCap w xs.length 0 e - xs.length)).toList).toArray = news.toArray ++ Builtin.zeroCells zv.cells (grownCap w xs.length 0 e - xs.length) := by apply Array.ext'; simp
              rw [← e1]; exact g2
            · have e1 : (news ++ (Builtin.zeroCells zv.cells (grownCap w xs.length 0 e - xs.length)).toList).toArray = news.toArray ++ Builtin.zeroCells zv.cells (grownCap w xs.length 0 e - xs.length) := by apply Array.ext'; simp
              rw [← e1]; exact g3
      · subst hA
        -- a row: the mark is live
        cases tok with
        | no => exact hok.elim
        | nil => cases htok
        | own i =>
          have hlv : m.lv i := hok
          have htk : G.tk i = some (some (b, o, es.length, c, z2)) := by
            rcases hi.tok i hlv with ht | ⟨b', o', n', c', z', cells, tt, ht, _⟩
            · rcases htok.2 _ ht with ⟨hA, _⟩ | ⟨_, _, _, hA⟩
              · cases hA
              · cases hA
            · rcases htok.2 _ ht with ⟨hA, _⟩ | ⟨b3, o3, hA, hB⟩
              · cases hA
              · cases hA
                rw [ht, hB]
          by_cases hroom : es.length + xs.length ≤ c
          · -- room
            have hnews : ∃ us : List Value, us.length = xs.length * z2 ∧ (∀ v ∈ us, oneCell v = true) ∧ (Builtin.firstCells z2 xs.length (.slice A2 xs.length c2)).run P w = .ok us.toArray w ∧
                ∀ (i : Nat) (e : DV), xs[i]? = some e → ∀ (j : Nat) (d : DV), (dcells e)[j]? = some d → ∃ v, us[i * z2 + j]? = some v ∧ RepD G.st w d v := by
              rcases hxl with hxs | ⟨b2, o2, hA2, hfl⟩
              · subst hxs
                exact ⟨[], by simp, by simp, by cases A2 <;> simp [Builtin.firstCells, loadCells, loadCellsFrom], by simp⟩
              · subst hA2
                obtain ⟨news, hnl, hnc, hnr⟩ := hfl
                refine ⟨news, hnl, fun v hv => ?_, run_firstCells_some w _ _ _ _ _ news hnl (fun j v hj => by rw [add_at]; exact (hnc j v hj).1), hnr⟩
                obtain ⟨j, hj⟩ := List.getElem?_of_mem hv
                exact (hnc j v hj).2
            obtain ⟨us, hul, hu1, hurun, hurep⟩ := hnews
            obtain ⟨srun, G', g1, g2, g3⟩ := hi.roomArr (P := P) i b o c z2 es xs us hlv htk hsl hxz hul hu1 hurep hroom
            refine ⟨G', _, _, _, _, ?_, g1, g2, g3, hK⟩
            simp [Builtin.append_, run_underlying hu, sizeOf, typeInfo, hinf, hsz, Builtin.lenOf, hroom, hurun, add_at, srun]
          · -- a new row
            have hx0 : xs ≠ [] := by
              intro e; subst e
              have := hsl.1
              simp at hroom; omega
            rcases hxl with hxs | ⟨b2, o2, hA2, hfl⟩
            · exact absurd hxs hx0
            · subst hA2
              obtain ⟨news, hnl, hnc, hnr⟩ := hfl
              obtain ⟨olds, hol, hoc, hor⟩ := hsl.flat
              have hfits : Builtin.nextslicecap (es.length + xs.length) c * inf.bytes ≤ 281474976710656 := by rw [hby]; exact growslice_fits (by omega) hsize
              have run := run_append_grow (P := P) w t' ty e inf zv hu hinf hzv ⟨b, o, none⟩ es.length c olds (by rw [hsz]; exact hol) (fun j v hj => by rw [add_at]; exact (hoc j v hj).1) ⟨b2, o2, none⟩ xs.length c2 news (by rw [hsz]; exact hnl) (fun j v hj => by rw [add_at]; exact (hnc j v hj).1) (by omega) (by omega) hfits
              have hg := grownCap_ge w (es.length + xs.length) c e
              have hlen : (es ++ xs).length = es.length + xs.length := List.length_append
              obtain ⟨G', g1, g2, g3⟩ := (hi.drew).newArr (.own i) z2 (es ++ xs) (grownCap w (es.length + xs.length) c e) e (olds ++ news) (Builtin.zeroCells zv.cells (grownCap w (es.length + xs.length) c e - (es.length + xs.length))).toList
                (fun k e' he => by
                  by_cases hk : k < es.length
                  · rw [List.getElem?_append_left hk] at he; exact hsl.2.2.1 _ _ he
                  · rw [List.getElem?_append_right (by omega)] at he; exact hxz _ _ he)
                (fun k e' he j d hd => by
                  by_cases hk : k < es.length
                  · rw [List.getElem?_append_left hk] at he
                    obtain ⟨v, hv, hr⟩ := hor k e' he j d hd
                    exact ⟨v, by rw [List.getElem?_append_left (List.getElem?_eq_some_iff.1 hv).1]; exact hv, hr.drew⟩
                  · rw [List.getElem?_append_right (by omega)] at he
                    obtain ⟨v, hv, hr⟩ := hnr _ e' he j d hd
                    refine ⟨v, ?_, hr.drew⟩
                    have e1 : k * z2 = es.length * z2 + (k - es.length) * z2 := by rw [← Nat.add_mul]; congr 1; omega
                    rw [List.getElem?_append_right (by omega), hol, show k * z2 + j - es.length * z2 = (k - es.length) * z2 + j from by omega]
                    exact hv)
                (by rw [hlen]; exact hg) (grownCap_le_maxLen w _ _ _ (by simp [maxLen]; omega)) (by
                  have hzl : (Builtin.zeroCells zv.cells (grownCap w (es.length + xs.length) c e - (es.length + xs.length))).toList.length = (grownCap w (es.length + xs.length) c e - (es.length + xs.length)) * z2 := by rw [Array.length_toList, size_zeroCells, hzc]
                  rw [List.length_append, List.length_append, hol, hnl, hzl, ← Nat.add_mul, ← Nat.add_mul]
                  exact Nat.mul_le_mul_right _ (by omega))
              have e1 : ((olds ++ news) ++ (Builtin.zeroCells zv.cells (grownCap w (es.length + xs.length) c e - (es.length + xs.length))).toList).toArray = olds.toArray ++ news.toArray ++ Builtin.zeroCells zv.cells (grownCap w (es.length + xs.length) c e - (es.length + xs.length)) := by apply Array.ext'; simp
              rw [e1] at g1 g2 g3
              refine ⟨G', _, _, _, _, run, (Ext.drew G w).trans g1, g2, ?_, hK⟩
              rw [hlen] at g3; exact g3
    · exact h.elim
  · exact h.elim

end Go.AB
