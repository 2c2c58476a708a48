/- What stays when the memory goes on: variables and marks, block by block; new variables; stores. -/
import Derived.Test.YtaieadcnhlapdaaDoorB4
import Derived.Laws.IdiomCopy
import Derived.Laws.Append
import Derived.Laws.AppendOwn
import Derived.Laws.MakeOwn
import Derived.Laws.OwnMore
import Derived.Laws.Alloc2
namespace Go.AB

theorem cell_of_heap {w w' : World} {b : Nat} (h : w'.heap[b]? = w.heap[b]?) (o : Nat) : w'.cell? ⟨b, o, none⟩ = w.cell? ⟨b, o, none⟩ := by
  simp only [World.cell?, h]
theorem frozen_of_heap {w w' : World} {b : Nat} (h : w'.heap[b]? = w.heap[b]?) (o : Nat) : w'.frozen? ⟨b, o, none⟩ = w.frozen? ⟨b, o, none⟩ := by
  simp only [World.frozen?, h]

theorem BoxAt.same {E : Env} {G G' : Gh} {w w' : World} {l : Loc} {cs : List AV} (h : BoxAt E G w l cs) (x : Ext G w G' w')
    (hw : ∀ b, G.who b = some (.inl l) → G'.who b = some (.inl l) ∧ (∀ j, G'.st b j → G.st b j) ∧ w'.heap[b]? = w.heap[b]?) : BoxAt E G' w' l cs := by
  obtain ⟨b, o, h1, h2, h3, h4, h5⟩ := h
  obtain ⟨k1, k2, k3⟩ := hw b h2
  refine ⟨b, o, x.bx _ _ h1, k1, h3, fun i hi => h4 i (k2 i hi), fun h0 j c hc => ?_, fun h0 => ?_⟩
  · obtain ⟨f1, v, f2, f3, f4⟩ := h5.1 h0 j c hc
    exact ⟨by rw [frozen_of_heap k3]; exact f1, v, by rw [cell_of_heap k3]; exact f2, f3, f4.ext x⟩
  · rcases h5.2 h0 with ⟨ks, vs, es, cl, g1, g2, g3⟩ | ⟨T, e, s, p, v, g1, g2, g3, g4⟩
    · exact .inl ⟨ks, vs, es, cl, g1, k3.trans g2, g3.ext x⟩
    · refine .inr ⟨T, e, s, p, v, g1, k3.trans g2, g3, ?_⟩
      rcases g4 with g4 | ⟨g, cap, cur, fz, e1, e2, e3, e4, e5, e6, e7, e8⟩
      · exact .inl g4
      · have e4' := e4
        rw [h2] at e4'
        obtain ⟨q1, q2, q3⟩ := hw g e4'
        exact .inr ⟨g, cap, cur, fz, e1, e2, e3, q1.trans k1.symm, fun j hj => e5 j (q2 j hj), e6, q3.trans e7, e8⟩

theorem TokOwn.same {E : Env} {G G' : Gh} {w w' : World} {i : Nat} (h : TokOwn E G w i) (ht : G'.tk i = G.tk i)
    (hw : ∀ b, G.who b = some (.inr i) → G'.who b = some (.inr i) ∧ (∀ j, G'.st b j → G.st b j) ∧ w'.heap[b]? = w.heap[b]?) : TokOwn E G' w' i := by
  rcases h with h | ⟨b, o, n, c, z, cells, ty, h1, h2, h3, h4, h5, h6, h7⟩
  · exact .inl (ht.trans h)
  · obtain ⟨k1, k2, k3⟩ := hw b h2
    exact .inr ⟨b, o, n, c, z, cells, ty, ht.trans h1, k1, h3, k3.trans h4, h5, h6, fun j hj hs => h7 j hj (k2 j hs)⟩

theorem Kept.heap {E : Env} {w w' : World} (h : Kept E w) (ho : w'.os = w.os) (ht : w'.tape = w.tape) (hu : w'.output = w.output) (hs : w.heap.size ≤ w'.heap.size)
    (hb : ∀ b, b < E.w0.heap.size → ¬ E.may b → w'.heap[b]? = w.heap[b]?) : Kept E w' :=
  ⟨ho.trans h.os, ht.trans h.tape, hu.trans h.output, Nat.le_trans h.size hs, fun b hb1 hb2 => (hb b hb1 hb2).trans (h.block b hb1 hb2)⟩

theorem st_lt {E : Env} {G : Gh} {m : AH} {w : World} (hi : Inv E G m w) {b o : Nat} (h : G.st b o) : b < w.heap.size := by
  rcases Nat.lt_or_ge b w.heap.size with hb | hb
  · exact hb
  · exact absurd h ((hi.fresh b hb).2 o)

theorem who_lt {E : Env} {G : Gh} {m : AH} {w : World} (hi : Inv E G m w) {b : Nat} {x : Loc ⊕ Nat} (h : G.who b = some x) : b < w.heap.size := by
  rcases Nat.lt_or_ge b w.heap.size with hb | hb
  · exact hb
  · rw [(hi.fresh b hb).1] at h; cases h

/-- A draw. -/
theorem Ext.drew (G : Gh) (w : World) : Ext G w G w.drew := ⟨fun _ _ h => h, fun _ _ _ => rfl, fun _ _ h => h, Nat.le_refl _, fun _ _ _ h => h⟩

theorem Inv.drew {E : Env} {G : Gh} {m : AH} {w : World} (h : Inv E G m w) : Inv E G m w.drew :=
  ⟨h.kept.heap rfl rfl rfl (Nat.le_refl _) (fun _ _ _ => rfl), fun l cs hc => (h.box l cs hc).same (Ext.drew G w) (fun _ hb => ⟨hb, fun _ x => x, rfl⟩),
   h.gen, fun i hl => (h.tok i hl).same rfl (fun _ hb => ⟨hb, fun _ x => x, rfl⟩), h.lt, h.nx, h.fresh, h.ext.trans (Ext.drew G w), h.st1⟩

/-- All goes on as it was but in one block. -/
structure But (N : Nat) (G : Gh) (w : World) (G' : Gh) (w' : World) : Prop where
  os : w'.os = w.os
  tape : w'.tape = w.tape
  output : w'.output = w.output
  size : w.heap.size ≤ w'.heap.size
  heap : ∀ b, b ≠ N → w'.heap[b]? = w.heap[b]?
  who : ∀ b, b ≠ N → G'.who b = G.who b
  st : ∀ b, b ≠ N → ∀ j, G'.st b j ↔ G.st b j

theorem Inv.but {E : Env} {N : Nat} {G G' : Gh} {m m' : AH} {w w' : World} (h : Inv E G m w) (x : Ext G w G' w') (k : But N G w G' w') (hN : E.may N ∨ E.w0.heap.size ≤ N)
    (hbox : ∀ l cs, m'.cells l = some cs → (m.cells l = some cs ∧ G.who N ≠ some (.inl l)) ∨ BoxAt E G' w' l cs)
    (hgen : ∀ t g, (hget m'.h t = none ∨ ∃ g' cs, hget m'.h t = some (g', cs) ∧ g' < g) → G'.bx (.own t g) = none)
    (htok : ∀ i, m'.lv i → (m.lv i ∧ G'.tk i = G.tk i ∧ G.who N ≠ some (.inr i)) ∨ TokOwn E G' w' i)
    (hlt : ∀ i, m'.lv i → i < m'.nx) (hnx : G'.nx = m'.nx) (hNl : N < w'.heap.size) : Inv E G' m' w' := by
  refine ⟨h.kept.heap k.os k.tape k.output k.size (fun b h1 h2 => k.heap b (fun e => ?_)), fun l cs hc => ?_, hgen, fun i hi => ?_, hlt, hnx, fun b hb => ?_, h.ext.trans x, fun b o hs hb => ?_⟩
  · subst e
    rcases hN with hN | hN
    · exact h2 hN
    · omega
  · rcases hbox l cs hc with ⟨h1, h2⟩ | h1
    · refine (h.box l cs h1).same x (fun b hb => ?_)
      have hne : b ≠ N := fun e => h2 (e ▸ hb)
      exact ⟨(k.who b hne).trans hb, fun j hj => (k.st b hne j).1 hj, k.heap b hne⟩
    · exact h1
  · rcases htok i hi with ⟨h1, h2, h3⟩ | h1
    · refine (h.tok i h1).same h2 (fun b hb => ?_)
      have hne : b ≠ N := fun e => h3 (e ▸ hb)
      exact ⟨(k.who b hne).trans hb, fun j hj => (k.st b hne j).1 hj, k.heap b hne⟩
    · exact h1
  · have hne : b ≠ N := by omega
    have hb' : w.heap.size ≤ b := Nat.le_trans k.size hb
    rw [k.who b hne]
    exact ⟨(h.fresh b hb').1, fun j hj => (h.fresh b hb').2 j ((k.st b hne j).1 hj)⟩
  · by_cases hne : b = N
    · subst hne
      rcases hN with hN | hN
      · exact .inr hN
      · omega
    · exact h.st1 b o ((k.st b hne o).1 hs) hb

def updN {α : Type} (f : Nat → α) (n : Nat) (v : α) : Nat → α := fun k => if k = n then v else f k
def updL {α : Type} (f : Loc → α) (n : Loc) (v : α) : Loc → α := fun k => if k = n then v else f k

theorem updN_self {α : Type} (f : Nat → α) (n : Nat) (v : α) : updN f n v n = v := by simp [updN]
theorem updN_ne {α : Type} (f : Nat → α) {n k : Nat} (v : α) (h : k ≠ n) : updN f n v k = f k := by simp [updN, h]
theorem updL_self {α : Type} (f : Loc → α) (n : Loc) (v : α) : updL f n v n = v := by simp [updL]
theorem updL_ne {α : Type} (f : Loc → α) {n k : Loc} (v : α) (h : k ≠ n) : updL f n v k = f k := by simp [updL, h]

/-- The generation of a slot's next variable. -/
def gnext (m : AH) (t : Nat) : Nat := match hget m.h t with
  | none => 0
  | some (g, _) => g + 1

def AH.newBox (m : AH) (t : Nat) (cs : List AV) : AH := { m with h := hset m.h t (gnext m t) cs }

/-- A new variable. -/
theorem Inv.newBox {E : Env} {G : Gh} {m : AH} {w : World} (h : Inv E G m w) (t ty : Nat) (cs : List AV) (vs : List Value) (hl : vs.length = cs.length) (ho : ∀ v ∈ vs, oneCell v = true)
    (hr : ∀ (i : Nat) (c : AV) (v : Value), cs[i]? = some c → vs[i]? = some v → RepA G w c v) :
    ∃ G', Ext G w G' (w.alloc (.cells vs.toArray ty)) ∧ Inv E G' (m.newBox t cs) (w.alloc (.cells vs.toArray ty)) ∧ G'.bx (.own t (gnext m t)) = some (w.heap.size, 0) := by
  let N := w.heap.size
  let g := gnext m t
  have hbx : G.bx (.own t g) = none := by
    apply h.gen
    show hget m.h t = none ∨ _
    simp only [g, gnext]
    cases hg : hget m.h t with
    | none => exact .inl rfl
    | some x => obtain ⟨g', cs'⟩ := x; exact .inr ⟨g', cs', rfl, by simp⟩
  have hx : Ext G w { G with bx := updL G.bx (.own t g) (some (N, 0)), who := updN G.who N (some (.inl (.own t g))) } (w.alloc (.cells vs.toArray ty)) := by
    refine ⟨fun b o hs => hs, fun b o hs => World.cell?_alloc_lt w _ _ (st_lt h hs), fun l y hy => ?_, Nat.le_refl _, fun i x _ hx => hx⟩
    show updL G.bx (.own t g) (some (N, 0)) l = some y
    have hne : l ≠ .own t g := fun e => by subst e; rw [hbx] at hy; cases hy
    rw [updL_ne _ _ hne]; exact hy
  refine ⟨_, hx, ?_, by simp [updL, N, g]⟩
  refine h.but (N := N) hx ⟨rfl, rfl, rfl, by simp, fun b hb => ?_, fun b hb => updN_ne _ _ hb, fun b hb j => Iff.rfl⟩ (.inr h.kept.size) (fun l cs' hc => ?_) (fun t' g' hg => ?_) (fun i hi => .inl ⟨hi, rfl, ?_⟩) h.lt h.nx (by simp [N])
  · show (w.heap.push _)[b]? = _
    rw [Array.getElem?_push, if_neg hb]
  · by_cases hl' : l = .own t g
    · subst hl'
      right
      have : m.newBox t cs = { m with h := hset m.h t g cs } := rfl
      rw [this] at hc
      simp only [AH.cells, hget_set_self, if_true] at hc
      cases hc
      refine ⟨N, 0, updL_self _ _ _, updN_self _ _ _, .inr h.kept.size, fun i hs => absurd (st_lt h hs) (by simp [N]), fun _ j c hj => ?_, fun h0 => by cases h0⟩
      have hjl : j < vs.length := by rw [hl]; exact (List.getElem?_eq_some_iff.1 hj).1
      refine ⟨by rw [Nat.zero_add]; exact World.frozen?_alloc_new w _ _ _, vs[j], by rw [Nat.zero_add]; rw [World.cell?_alloc_new]; simp [hjl], ho _ (List.getElem_mem hjl), ?_⟩
      exact (hr j c _ hj (List.getElem?_eq_getElem hjl)).ext hx
    · left
      refine ⟨?_, by rw [(h.fresh N (Nat.le_refl _)).1]; simp⟩
      cases l with
      | out k => exact hc
      | own t' g' =>
        simp only [AH.newBox, AH.cells] at hc ⊢
        by_cases ht : t = t'
        · subst ht
          rw [hget_set_self] at hc
          have : ¬ g' = gnext m t := fun e => hl' (by rw [e])
          simp [this] at hc
        · rw [hget_set_ne _ _ _ ht] at hc
          exact hc
  · show updL G.bx (.own t g) (some (N, 0)) (.own t' g') = none
    by_cases ht : t = t'
    · subst ht
      simp only [AH.newBox, hget_set_self] at hg
      rcases hg with hg | ⟨g2, cs2, hg, hlt⟩
      · cases hg
      · cases hg
        rw [updL_ne _ _ (by intro e; cases e; exact absurd hlt (Nat.lt_irrefl _))]
        apply h.gen
        simp only [gnext] at hlt
        cases hh : hget m.h t with
        | none => exact .inl rfl
        | some x => obtain ⟨g3, cs3⟩ := x; rw [hh] at hlt; exact .inr ⟨g3, cs3, rfl, by simp at hlt; omega⟩
    · rw [updL_ne _ _ (by intro e; cases e; exact ht rfl)]
      apply h.gen
      simpa only [AH.newBox, hget_set_ne _ _ _ ht] using hg
  · rw [(h.fresh N (Nat.le_refl _)).1]; simp

theorem heap_setCells (b : Nat) : ∀ (vs : List Value) (o : Nat) (w : World) (k : Nat), k ≠ b → (w.setCells b o vs).heap[k]? = w.heap[k]?
  | [], _, _, _, _ => rfl
  | v :: r, o, w, k, h => by
    rw [World.setCells, heap_setCells b r (o + 1) _ k h]
    exact Go.RowKit.Below.heap_setCell w _ _ _ h
theorem size_setCells (b : Nat) : ∀ (vs : List Value) (o : Nat) (w : World), (w.setCells b o vs).heap.size = w.heap.size
  | [], _, _ => rfl
  | v :: r, o, w => by rw [World.setCells, size_setCells b r (o + 1)]; simp
theorem os_setCells (b : Nat) : ∀ (vs : List Value) (o : Nat) (w : World), (w.setCells b o vs).os = w.os ∧ (w.setCells b o vs).tape = w.tape ∧ (w.setCells b o vs).output = w.output
  | [], _, _ => ⟨rfl, rfl, rfl⟩
  | v :: r, o, w => by rw [World.setCells]; exact os_setCells b r (o + 1) _

def spl (cs : List AV) (off : Nat) (new : List AV) : List AV := cs.take off ++ new ++ cs.drop (off + new.length)

theorem spl_get {cs new : List AV} {off j : Nat} (h : off + new.length ≤ cs.length) : (spl cs off new)[j]? = if off ≤ j ∧ j < off + new.length then new[j - off]? else cs[j]? := by
  unfold spl
  have h1 : (cs.take off).length = off := by simp; omega
  by_cases hj : j < off
  · rw [if_neg (by omega), List.append_assoc, List.getElem?_append_left (by omega), List.getElem?_take_of_lt hj]
  · by_cases hj2 : j < off + new.length
    · rw [if_pos ⟨by omega, hj2⟩, List.append_assoc, List.getElem?_append_right (by omega), h1, List.getElem?_append_left (by omega)]
    · rw [if_neg (by omega), List.getElem?_append_right (by simp; omega), List.getElem?_drop]
      congr 1
      simp; omega

theorem oneCell_eq (v : Value) : v.oneCell' = oneCell v := by cases v <;> rfl

/-- A store into a variable. -/
theorem Inv.store {E : Env} {G : Gh} {m : AH} {w : World} (h : Inv E G m w) {P : Program} {l : Loc} {cs new : List AV} {b o off : Nat} (hc : m.cells l = some cs) (hb : G.bx l = some (b, o)) (h0 : o ≠ mapMark) (hfit : off + new.length ≤ cs.length)
    (vs : List Value) (hl : vs.length = new.length) (ho : ∀ v ∈ vs, oneCell v = true) (hr : ∀ (i : Nat) (c : AV) (v : Value), new[i]? = some c → vs[i]? = some v → RepA G w c v) :
    (storeCells ⟨b, o + off, none⟩ vs).run P w = .ok () (w.setCells b (o + off) vs) ∧ Ext G w G (w.setCells b (o + off) vs) ∧ Inv E G (m.setCells l (spl cs off new)) (w.setCells b (o + off) vs) := by
  obtain ⟨b', o', hb', hwho, hmay, hst, hcell, _⟩ := h.box l cs hc
  rw [hb] at hb'
  cases hb'
  have hcell := hcell h0
  have hin : ∀ j, j < vs.length → (w.cell? ⟨b, o + off + j, none⟩).isSome = true ∧ w.frozen? ⟨b, o + off + j, none⟩ = false := by
    intro j hj
    have hlt : off + j < cs.length := by omega
    obtain ⟨f1, v, f2, _, _⟩ := hcell (off + j) _ (List.getElem?_eq_getElem hlt)
    rw [Nat.add_assoc]
    exact ⟨by rw [f2]; rfl, f1⟩
  have run := run_storeCells_cells (P := P) b (o + off) vs 0 w (fun j hj => by simpa using (hin j hj).1) (fun j hj => by simpa using (hin j hj).2) (fun v hv => by rw [oneCell_eq]; exact ho v hv)
  have hx : Ext G w G (w.setCells b (o + off) vs) := by
    refine ⟨fun _ _ x => x, fun b2 o2 hs => ?_, fun _ _ x => x, Nat.le_refl _, fun _ _ _ x => x⟩
    exact cell_of_heap (heap_setCells b vs _ w b2 (fun e => hst o2 (e ▸ hs))) o2
  refine ⟨run, hx, ?_⟩
  refine h.but (N := b) hx ⟨(os_setCells b vs _ w).1, (os_setCells b vs _ w).2.1, (os_setCells b vs _ w).2.2, by rw [size_setCells]; exact Nat.le_refl _, fun k hk => heap_setCells b vs _ w k hk, fun _ _ => rfl, fun _ _ _ => Iff.rfl⟩
    hmay (fun l2 cs2 hc2 => ?_) (fun t g hg => ?_) (fun i hi => .inl ⟨?_, rfl, by rw [hwho]; simp⟩) ?_ ?_ (by rw [size_setCells]; exact who_lt h hwho)
  · by_cases hl2 : l2 = l
    · subst hl2
      right
      have hcs : cs2 = spl cs off new := by
        cases l2 with
        | own t g =>
          simp only [AH.setCells, AH.cells, hget_set_self, if_true] at hc2
          exact (Option.some.inj hc2).symm
        | out k =>
          simp only [AH.setCells, AH.cells] at hc2 hc
          have hk : k < m.o.length := (List.getElem?_eq_some_iff.1 hc).1
          rw [List.getElem?_set_self hk] at hc2
          exact (Option.some.inj hc2).symm
      subst hcs
      refine ⟨b, o, hb, hwho, hmay, hst, fun _ j c hj => ?_, fun e => absurd e h0⟩
      rw [spl_get hfit] at hj
      split at hj
      · rename_i hjr
        have hjv : j - off < vs.length := by omega
        have e1 : o + j = o + off + (j - off) := by omega
        have hcn := World.cell?_setCells_in b vs (o + off) w (fun i hi => (hin i hi).1) (j - off) hjv
        refine ⟨?_, vs[j - off], ?_, ho _ (List.getElem_mem hjv), (hr _ c _ hj (List.getElem?_eq_getElem hjv)).ext hx⟩
        · rw [World.frozen?_setCells, e1]; exact (hin _ hjv).2
        · rw [e1]; exact hcn
      · rename_i hjr
        obtain ⟨f1, v, f2, f3, f4⟩ := hcell j c hj
        refine ⟨by rw [World.frozen?_setCells]; exact f1, v, ?_, f3, f4.ext hx⟩
        rw [World.cell?_setCells_out b vs (o + off) w _ (fun _ _ => by simp; omega)]
        exact f2
    · left
      refine ⟨?_, by rw [hwho]; intro e; cases e; exact hl2 rfl⟩
      cases l with
      | own t g =>
        cases l2 with
        | out k => exact hc2
        | own t2 g2 =>
          simp only [AH.setCells, AH.cells] at hc2 hc ⊢
          by_cases ht : t = t2
          · subst ht
            rw [hget_set_self] at hc2
            have : ¬ g2 = g := fun e => hl2 (by rw [e])
            simp [this] at hc2
          · rwa [hget_set_ne _ _ _ ht] at hc2
      | out k =>
        cases l2 with
        | own t2 g2 => exact hc2
        | out k2 =>
          simp only [AH.setCells, AH.cells] at hc2 ⊢
          have : k ≠ k2 := fun e => hl2 (by rw [e])
          rwa [List.getElem?_set_ne this] at hc2
  · apply h.gen
    cases l with
    | out k => exact hg
    | own t2 g2 =>
      simp only [AH.setCells] at hg
      by_cases ht : t2 = t
      · subst ht
        rw [hget_set_self] at hg
        right
        simp only [AH.cells] at hc
        cases hh : hget m.h t2 with
        | none => rw [hh] at hc; cases hc
        | some x =>
          obtain ⟨g3, cs3⟩ := x
          rw [hh] at hc
          simp only at hc
          split at hc
          · rename_i hgg
            subst hgg
            rcases hg with hg | ⟨g4, cs4, hg, hlt⟩
            · cases hg
            · cases hg; exact ⟨g2, cs3, rfl, hlt⟩
          · cases hc
      · rwa [hget_set_ne _ _ _ ht] at hg
  · cases l <;> exact hi
  · cases l <;> exact h.lt
  · cases l <;> exact h.nx

end Go.AB
