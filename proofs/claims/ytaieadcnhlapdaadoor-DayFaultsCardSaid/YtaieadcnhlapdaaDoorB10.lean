/- Calls; and each operation, held against the real one. -/
import Derived.Test.YtaieadcnhlapdaaDoorB9
namespace Go.AB

theorem gh0_cell {G : Gh} {w : World} {c : AV} {v : Value} {d : DV} (h : RepA G w c v) (hd : toD1 c = some d) :
    RepA (gh0 G.st) w (unC c) v := by
  cases h with
  | int k n => exact .int _ _
  | bool b => exact .bool _
  | str s => exact .str _
  | raw => exact .raw _
  | sl z es t A c h1 _ => exact .sl z es .no A c h1 trivial
  | _ => cases hd

theorem strip1_rep {G : Gh} {w : World} {a b : AV} {v : Value} (h : RepA G w a v) (hs : strip1 a = some b) : RepA (gh0 G.st) w b v := by
  cases h with
  | int k n => cases hs; exact .int _ _
  | bool n => cases hs; exact .bool _
  | str n => cases hs; exact .str _
  | raw => cases hs; exact .raw _
  | sl z es t A c h1 _ => cases hs; exact .sl z es .no A c h1 trivial
  | ept cs b o h => cases hs; exact .ept cs b o h
  | agg cs vs h1 h2 h3 =>
    simp only [strip1] at hs
    split at hs
    · rename_i ds hds
      cases hs
      obtain ⟨e1, e2⟩ := toDs_get cs ds hds
      refine .agg _ vs (by simpa using h1) h2 (fun i c v hc hv => ?_)
      rw [List.getElem?_map] at hc
      cases hci : cs[i]? with
      | none => rw [hci] at hc; cases hc
      | some c0 =>
        rw [hci] at hc
        cases hc
        have hil := (List.getElem?_eq_some_iff.1 hci).1
        obtain ⟨c1, h4, h5⟩ := e2 i _ (List.getElem?_eq_getElem (by rw [e1]; exact hil))
        rw [hci] at h4
        cases h4
        exact gh0_cell (h3 i c0 v hci hv) h5
    · cases hs
  | iface t a x h =>
    cases h with
    | int k n => cases hs; exact .iface _ _ _ (.int _ _)
    | str n => cases hs; exact .iface _ _ _ (.str _)
    | bool n => cases hs; exact .iface _ _ _ (.bool _)
    | _ => cases hs
  | _ => cases hs

theorem strip1L_rep {G : Gh} {w : World} : ∀ (as bs : List AV), strip1L as = some bs → bs.length = as.length ∧ ∀ (i : Nat) (b : AV), bs[i]? = some b → ∃ a, as[i]? = some a ∧ ∀ v, RepA G w a v → RepA (gh0 G.st) w b v
  | [], bs, hs => by cases hs; exact ⟨rfl, by simp⟩
  | a :: as, bs, hs => by
    simp only [strip1L] at hs
    split at hs
    · rename_i b hb
      split at hs
      · rename_i bs' hbs
        cases hs
        obtain ⟨h1, h2⟩ := strip1L_rep (G := G) (w := w) as bs' hbs
        refine ⟨by simp [h1], fun i c hc => ?_⟩
        cases i with
        | zero => simp at hc; subst hc; exact ⟨a, rfl, fun v hv => strip1_rep hv hb⟩
        | succ i => exact h2 i c (by simpa using hc)
      · cases hs
    · cases hs

theorem strip_rep {G : Gh} {w : World} {a b : AV} {v : Value} (h : RepA G w a v) (hs : strip a = some b) : RepA (gh0 G.st) w b v := by
  cases a <;> first | exact strip1_rep h hs | skip
  rename_i f cs
  simp only [strip] at hs
  split at hs
  · rename_i ds hds
    cases hs
    cases h with
    | fn _ _ vs h1 h2 =>
      obtain ⟨g1, g2⟩ := strip1L_rep (G := G) (w := w) cs ds hds
      refine .fn f ds vs (by rw [h1, g1]) (fun i c v hc hv => ?_)
      obtain ⟨a, ha, hr⟩ := g2 i c hc
      exact hr v (h2 i a v ha hv)
  · cases hs

theorem stripL_rep {G : Gh} {w : World} : ∀ (as bs : List AV) (vs : List Value), stripL as = some bs → RepArgs G w as vs → RepArgs (gh0 G.st) w bs vs
  | [], bs, vs, hs, h => by cases hs; exact ⟨h.1, by simp⟩
  | a :: as, bs, vs, hs, h => by
    simp only [stripL] at hs
    split at hs
    · rename_i b hb
      split at hs
      · rename_i bs' hbs
        cases hs
        obtain ⟨h1, h2⟩ := h
        cases vs with
        | nil => simp at h1
        | cons v vs =>
          have ih := stripL_rep as bs' vs hbs ⟨by simpa using h1, fun i a v ha hv => h2 (i + 1) a v ha hv⟩
          refine ⟨by simp [ih.1], fun i c u hc hu => ?_⟩
          cases i with
          | zero => simp at hc hu; subst hc hu; exact strip_rep (h2 0 a _ rfl rfl) hb
          | succ i => exact ih.2 i c u (by simpa using hc) (by simpa using hu)
      · cases hs
    · cases hs

/-- All that lies in memory at a call. -/
def stAll (w : World) : Nat → Nat → Prop := fun b _ => b < w.heap.size

theorem RepA.all {E : Env} {G : Gh} {m : AH} {w : World} (hi : Inv E G m w) {b : AV} {v : Value} (h : RepA (gh0 G.st) w b v) : RepA (gh0 (stAll w)) w b v :=
  RepA.ext (G := gh0 G.st) (G' := gh0 (stAll w)) (w' := w) ⟨fun _ _ hs => st_lt hi hs, fun _ _ _ => rfl, fun _ _ hx => hx, Nat.le_refl _, fun _ _ _ hx => hx⟩ h

theorem mslD_rep {E : Env} {G : Gh} {m : AH} {w : World} (hi : Inv E G m w) {l : Loc} {off len cap b o : Nat} {d : DV} (h : mslD m l off len = some d) (hb : G.bx l = some (b, o)) (h0 : o ≠ mapMark) (h1 : len ≤ cap) (h2 : cap ≤ maxLen) :
    RepD (stAll w) w d (.slice (some ⟨b, o + off, none⟩) len cap) := by
  unfold mslD at h
  split at h
  · rename_i cs hc
    split at h
    · rename_i ds hd
      split at h
      · rename_i hl
        cases h
        have hm := msl_cells hi hb h0 hc hd
        subst hl
        refine .sl 1 ds b (o + off) cap (fun i j => (w.cell? ⟨b, o + off + (i * 1 + j), none⟩).getD undef) h1 h2 (fun i e he => by rw [(hm i e he).2.1]; rfl) (fun i e he j d hj => ?_) (fun i e he j d hj => ?_)
        · obtain ⟨q1, q2, v, v1, v2, v3⟩ := hm i e he
          rw [q2] at hj
          cases j with
          | succ j => cases hj
          | zero => rw [Nat.mul_one, Nat.add_zero, v1]; exact ⟨q1, rfl⟩
        · obtain ⟨q1, q2, v, v1, v2, v3⟩ := hm i e he
          rw [q2] at hj
          cases j with
          | succ j => cases hj
          | zero =>
            cases hj
            rw [Nat.mul_one, Nat.add_zero, v1]
            exact v3.ext (fun _ _ hs => st_lt hi hs) (fun _ _ _ => rfl)
      · cases h
    · cases h
  · cases h

theorem toDF_rep {E : Env} {G : Gh} {m : AH} {w : World} (hi : Inv E G m w) {a : AV} {d : DV} {x : Value} (h : toDF m a = some d) (hr : RepA G w a x) (ho : oneCell x = true) : RepD (stAll w) w d x := by
  have go : toD1 a = some d → RepD (stAll w) w d x := fun h => (toD1_rep h hr ho).ext (fun _ _ hs => st_lt hi hs) (fun _ _ _ => rfl)
  cases a <;> first | exact go h | skip
  · rename_i f cs
    cases cs with
    | nil =>
      cases h
      cases hr with
      | fn _ _ vs h1 h2 =>
        have : vs = [] := List.length_eq_zero_iff.1 h1
        subst this
        exact .raw _ rfl
    | cons _ _ => cases h
  · cases hr with
    | msl _ _ _ _ b o hb h0 h1 h2 => exact mslD_rep hi h hb h0 h1 h2

theorem toDFs_get {m : AH} : ∀ (cs : List AV) (ds : List DV), toDFs m cs = some ds → ds.length = cs.length ∧ ∀ (j : Nat) (d : DV), ds[j]? = some d → ∃ c, cs[j]? = some c ∧ toDF m c = some d
  | [], ds, h => by cases h; exact ⟨rfl, by simp⟩
  | c :: cs, ds, h => by
    simp only [toDFs] at h
    split at h
    · cases h
    · rename_i d hd
      split at h
      · cases h
      · rename_i ds' hds
        cases h
        obtain ⟨h1, h2⟩ := toDFs_get cs ds' hds
        refine ⟨by simp [h1], fun j d' hj => ?_⟩
        cases j with
        | zero => simp at hj; subst hj; exact ⟨c, rfl, hd⟩
        | succ j => exact h2 j d' (by simpa using hj)

theorem lend1_rep {E : Env} {G : Gh} {m : AH} {w : World} (hi : Inv E G m w) {a b : AV} {v : Value} (h : RepA G w a v) (hs : lend1 m a = some b) : RepA (gh0 (stAll w)) w b v := by
  have go : strip1 a = some b → RepA (gh0 (stAll w)) w b v := fun h1 => (strip1_rep h h1).all hi
  cases a <;> first | exact go hs | skip
  · rename_i l off
    simp only [lend1] at hs
    split at hs
    · rename_i cs hcs
      split at hs
      · rename_i ds hds
        cases hs
        cases h with
        | ptr _ _ p q hb h0 =>
          obtain ⟨p', q', h1, h2, h3, h4, h5, _⟩ := hi.box l cs hcs
          rw [hb] at h1
          cases h1
          obtain ⟨_, g2⟩ := toDFs_get _ ds hds
          refine .ept ds p (q + off) (fun j d hj => ⟨who_lt hi h2, ?_⟩)
          obtain ⟨c, hc, hd⟩ := g2 j d hj
          rw [List.getElem?_drop] at hc
          obtain ⟨_, u, h6, h7, h8⟩ := h5 h0 _ c hc
          exact ⟨u, by rw [Nat.add_assoc]; exact h6, toDF_rep hi hd h8 h7⟩
      · cases hs
    · cases hs
  · simp only [lend1] at hs
    split at hs
    · rename_i d hd
      cases hs
      cases h with
      | msl _ _ _ _ b o hb h0 h1 h2 => exact RepD.toA (mslD_rep hi hd hb h0 h1 h2)
    · cases hs

theorem lend1L_rep {E : Env} {G : Gh} {m : AH} {w : World} (hi : Inv E G m w) : ∀ (as bs : List AV), lend1L m as = some bs → bs.length = as.length ∧ ∀ (i : Nat) (b : AV), bs[i]? = some b → ∃ a, as[i]? = some a ∧ ∀ v, RepA G w a v → RepA (gh0 (stAll w)) w b v
  | [], bs, hs => by cases hs; exact ⟨rfl, by simp⟩
  | a :: as, bs, hs => by
    simp only [lend1L] at hs
    split at hs
    · rename_i b hb
      split at hs
      · rename_i bs' hbs
        cases hs
        obtain ⟨h1, h2⟩ := lend1L_rep hi as bs' hbs
        refine ⟨by simp [h1], fun i c hc => ?_⟩
        cases i with
        | zero => simp at hc; subst hc; exact ⟨a, rfl, fun v hv => lend1_rep hi hv hb⟩
        | succ i => exact h2 i c (by simpa using hc)
      · cases hs
    · cases hs

theorem lend_rep {E : Env} {G : Gh} {m : AH} {w : World} (hi : Inv E G m w) {a b : AV} {v : Value} (h : RepA G w a v) (hs : lend m a = some b) : RepA (gh0 (stAll w)) w b v := by
  cases a <;> first | exact lend1_rep hi h hs | skip
  rename_i f cs
  simp only [lend] at hs
  split at hs
  · rename_i ds hds
    cases hs
    cases h with
    | fn _ _ vs h1 h2 =>
      obtain ⟨g1, g2⟩ := lend1L_rep hi cs ds hds
      refine .fn f ds vs (by rw [h1, g1]) (fun i c v hc hv => ?_)
      obtain ⟨a, ha, hr⟩ := g2 i c hc
      exact hr v (h2 i a v ha hv)
  · cases hs

theorem lendL_rep {E : Env} {G : Gh} {m : AH} {w : World} (hi : Inv E G m w) : ∀ (as bs : List AV) (vs : List Value), lendL m as = some bs → RepArgs G w as vs → RepArgs (gh0 (stAll w)) w bs vs
  | [], bs, vs, hs, h => by cases hs; exact ⟨h.1, by simp⟩
  | a :: as, bs, vs, hs, h => by
    simp only [lendL] at hs
    split at hs
    · rename_i b hb
      split at hs
      · rename_i bs' hbs
        cases hs
        obtain ⟨h1, h2⟩ := h
        cases vs with
        | nil => simp at h1
        | cons v vs =>
          have ih := lendL_rep hi as bs' vs hbs ⟨by simpa using h1, fun i a v ha hv => h2 (i + 1) a v ha hv⟩
          refine ⟨by simp [ih.1], fun i c u hc hu => ?_⟩
          cases i with
          | zero => simp at hc hu; subst hc hu; exact lend_rep hi (h2 0 a _ rfl rfl) hb
          | succ i => exact ih.2 i c u (by simpa using hc) (by simpa using hu)
      · cases hs
    · cases hs

theorem plain_rep {G G' : Gh} {w w' : World} {r : AV} {v : Value} (h : RepA G w r v) (hp : plain r = true) : RepA G' w' r v := by
  have go1 : ∀ {r : AV} {v : Value}, RepA G w r v → plain1 r = true → RepA G' w' r v := by
    intro r v h hp
    cases h <;> first | (cases hp; done) | constructor
  have goA : ∀ {r : AV} {v : Value}, RepA G w r v → plainA r = true → RepA G' w' r v := by
    intro r v h hp
    cases h with
    | agg cs vs h1 h2 h3 => exact .agg cs vs h1 h2 (fun i c v hc hv => go1 (h3 i c v hc hv) (List.all_eq_true.1 hp c (List.mem_of_getElem? hc)))
    | int k n => exact .int _ _
    | bool b => exact .bool _
    | str b => exact .str _
    | raw => exact .raw _
    | _ => cases hp
  cases h with
  | tup cs vs h1 h3 => exact .tup cs vs h1 (fun i c v hc hv => goA (h3 i c v hc hv) (List.all_eq_true.1 hp c (List.mem_of_getElem? hc)))
  | agg cs vs h1 h2 h3 => exact goA (.agg cs vs h1 h2 h3) hp
  | int k n => exact .int _ _
  | bool b => exact .bool _
  | str b => exact .str _
  | raw => exact .raw _
  | _ => cases hp

theorem Inv.lent {E : Env} {G G' : Gh} {m m' : AH} {w w' : World} {st : Nat → Nat → Prop} (h : Inv E G m w) (hi : Inv ⟨w, fun _ => False, gh0 st⟩ G' m' w') : Ext G w G w' ∧ Inv E G m w' := by
  have hheap : ∀ b, b < w.heap.size → w'.heap[b]? = w.heap[b]? := fun b hb => hi.kept.block b hb (fun x => x)
  have hx : Ext G w G w' := ⟨fun _ _ h => h, fun b o hs => cell_of_heap (hheap b (st_lt h hs)) o, fun _ _ h => h, Nat.le_refl _, fun _ _ _ h => h⟩
  refine ⟨hx, ?_, fun l cs hc => (h.box l cs hc).same hx (fun b hb => ⟨hb, fun _ hj => hj, hheap b (who_lt h hb)⟩), h.gen, fun i hl => (h.tok i hl).same rfl (fun b hb => ⟨hb, fun _ hj => hj, hheap b (who_lt h hb)⟩), h.lt, h.nx, fun b hb => h.fresh b (Nat.le_trans hi.kept.size hb), h.ext.trans hx, h.st1⟩
  exact h.kept.heap hi.kept.os hi.kept.tape hi.kept.output hi.kept.size (fun b hb _ => hheap b (Nat.lt_of_lt_of_le hb h.kept.size))

/-- How a called function's marks stand to one's own. -/
structure Shift (n : Nat) (G' G2 : Gh) : Prop where
  st : ∀ b o, G'.st b o → G2.st b o
  nx : ∀ i, i < G'.nx → n + i < G2.nx
  tk : ∀ i, i < G'.nx → G2.tk (n + i) = G'.tk i

theorem shC_rep {n : Nat} {G' G2 : Gh} {w : World} (s : Shift n G' G2) {c : AV} {v : Value} (h : RepA G' w c v) (hp : port1 c = true) : RepA G2 w (shC n c) v := by
  have hst : ∀ b o, G'.st b o → w.cell? ⟨b, o, none⟩ = w.cell? ⟨b, o, none⟩ := fun _ _ _ => rfl
  cases h with
  | int k n => exact .int _ _
  | bool b => exact .bool _
  | str b => exact .str _
  | raw => exact .raw _
  | sl z es t A c h1 h2 =>
    refine .sl z es _ A c (h1.ext s.st hst) ?_
    cases t with
    | no => trivial
    | nil => exact h2
    | own i => exact ⟨s.nx i h2.1, fun x hx => h2.2 x (by rw [← s.tk i h2.1]; exact hx)⟩
  | ept cs b o h => exact .ept cs b o (h.ext s.st hst)
  | iface t a x h =>
    cases h with
    | int => exact .iface _ _ _ (.int _ _)
    | bool => exact .iface _ _ _ (.bool _)
    | str => exact .iface _ _ _ (.str _)
    | _ => cases hp
  | _ => cases hp

theorem shA_rep {n : Nat} {G' G2 : Gh} {w : World} (s : Shift n G' G2) {c : AV} {v : Value} (h : RepA G' w c v) (hp : portA c = true) : RepA G2 w (shA n c) v := by
  cases h with
  | agg cs vs h1 h2 h3 =>
    refine .agg _ vs (by simpa using h1) h2 (fun i c v hc hv => ?_)
    rw [List.getElem?_map] at hc
    cases hci : cs[i]? with
    | none => rw [hci] at hc; cases hc
    | some c0 =>
      rw [hci] at hc
      cases hc
      exact shC_rep s (h3 i c0 v hci hv) (List.all_eq_true.1 hp c0 (List.mem_of_getElem? hci))
  | int k n => exact shC_rep s (.int _ _) hp
  | bool b => exact shC_rep s (.bool _) hp
  | str b => exact shC_rep s (.str _) hp
  | raw => exact shC_rep s (.raw _) hp
  | sl z es t A c h1 h2 => exact shC_rep s (.sl z es t A c h1 h2) hp
  | ept cs b o h => exact shC_rep s (.ept cs b o h) hp
  | iface t a x h => exact shC_rep s (.iface t a x h) hp
  | _ => cases hp

theorem shV_rep {n : Nat} {G' G2 : Gh} {w : World} (s : Shift n G' G2) {c : AV} {v : Value} (h : RepA G' w c v) (hp : port c = true) : RepA G2 w (shV n c) v := by
  cases h with
  | tup cs vs h1 h3 =>
    refine .tup _ vs (by simpa using h1) (fun i c v hc hv => ?_)
    rw [List.getElem?_map] at hc
    cases hci : cs[i]? with
    | none => rw [hci] at hc; cases hc
    | some c0 =>
      rw [hci] at hc
      cases hc
      exact shA_rep s (h3 i c0 v hci hv) (List.all_eq_true.1 hp c0 (List.mem_of_getElem? hci))
  | agg cs vs h1 h2 h3 => exact shA_rep s (.agg cs vs h1 h2 h3) hp
  | int k n => exact shA_rep s (.int _ _) hp
  | bool b => exact shA_rep s (.bool _) hp
  | str b => exact shA_rep s (.str _) hp
  | raw => exact shA_rep s (.raw _) hp
  | sl z es t A c h1 h2 => exact shA_rep s (.sl z es t A c h1 h2) hp
  | ept cs b o h => exact shA_rep s (.ept cs b o h) hp
  | iface t a x h => exact shA_rep s (.iface t a x h) hp
  | _ => cases hp

def whoSh (n : Nat) : Option (Loc ⊕ Nat) → Option (Loc ⊕ Nat)
  | some (.inr i) => some (.inr (n + i))
  | _ => none

theorem Inv.call {E : Env} {G G' : Gh} {m m' : AH} {w w' : World} (h : Inv E G m w) (hi : Inv ⟨w, fun _ => False, gh0 G.st⟩ G' m' w') :
    ∃ G2, Ext G w G2 w' ∧ Inv E G2 { m with nx := m.nx + m'.nx, lv := fun j => m.lv j ∨ (m.nx ≤ j ∧ m'.lv (j - m.nx)) } w' ∧ Shift m.nx G' G2 := by
  let G2 : Gh := { st := G'.st, bx := G.bx, tk := fun j => if j < m.nx then G.tk j else G'.tk (j - m.nx), nx := m.nx + m'.nx, who := fun b => if b < w.heap.size then G.who b else whoSh m.nx (G'.who b) }
  have hst : ∀ b o, G'.st b o → b < w.heap.size → G.st b o := fun b o h1 h2 => (hi.st1 b o h1 h2).resolve_right (fun x => x)
  have hx : Ext (gh0 G.st) w G' w' := hi.ext
  have hx2 : Ext G w G2 w' := by
    refine ⟨hx.st, hx.cell, fun l y hy => hy, by rw [h.nx]; exact Nat.le_add_right _ _, fun i x hi hx => ?_⟩
    rw [h.nx] at hi
    simp only [G2, hi, if_true] at hx
    exact hx
  have hheap : ∀ b, b < w.heap.size → w'.heap[b]? = w.heap[b]? := fun b hb => hi.kept.block b hb (fun x => x)
  refine ⟨G2, hx2, ⟨?_, fun l cs hc => ?_, h.gen, fun i hl => ?_, fun i hl => ?_, rfl, fun b hb => ?_, h.ext.trans hx2, fun b o hs hb => ?_⟩, ⟨fun _ _ x => x, fun i hi' => ?_, fun i hi' => ?_⟩⟩
  · exact h.kept.heap hi.kept.os hi.kept.tape hi.kept.output hi.kept.size (fun b hb _ => hheap b (Nat.lt_of_lt_of_le hb h.kept.size))
  · refine (h.box l cs (by cases l <;> exact hc)).same hx2 (fun b hb => ?_)
    have hlt := who_lt h hb
    exact ⟨by simp only [G2, hlt, if_true]; exact hb, fun j hj => hst b j hj hlt, hheap b hlt⟩
  · rcases hl with hl | ⟨hl1, hl2⟩
    · have := h.lt i hl
      refine (h.tok i hl).same (by simp [G2, this]) (fun b hb => ?_)
      have hlt := who_lt h hb
      exact ⟨by simp only [G2, hlt, if_true]; exact hb, fun j hj => hst b j hj hlt, hheap b hlt⟩
    · have hn : ¬ i < m.nx := by omega
      rcases hi.tok _ hl2 with ht | ⟨b, o, n, c, z, cells, ty, t1, t2, t3, t4, t5, t6, t7⟩
      · exact .inl (by simp only [G2, hn, if_false]; exact ht)
      · have hb : w.heap.size ≤ b := t3.resolve_left (fun x => x)
        have hb' : ¬ b < w.heap.size := by omega
        refine .inr ⟨b, o, n, c, z, cells, ty, by simp only [G2, hn, if_false]; exact t1, ?_, .inr (Nat.le_trans h.kept.size hb), t4, t5, t6, t7⟩
        simp only [G2, hb', if_false, t2, whoSh]
        congr 2
        omega
  · rcases hl with hl | ⟨hl1, hl2⟩
    · exact Nat.lt_of_lt_of_le (h.lt i hl) (Nat.le_add_right _ _)
    · have := hi.lt _ hl2
      simp only
      omega
  · have hb1 : ¬ b < w.heap.size := by have := hi.kept.size; simp only at this; omega
    have := hi.fresh b hb
    exact ⟨by simp only [G2, hb1, if_false, this.1, whoSh], this.2⟩
  · exact h.st1 b o (hst b o hs (Nat.lt_of_lt_of_le hb h.kept.size)) hb
  · rw [hi.nx] at hi'
    exact Nat.add_lt_add_left hi' _
  · have : ¬ m.nx + i < m.nx := by omega
    simp only [G2, this, if_false]
    congr 1
    omega

end Go.AB
