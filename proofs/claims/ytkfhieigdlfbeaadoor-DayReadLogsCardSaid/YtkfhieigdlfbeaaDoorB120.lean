/- Walks in whatever frame; environments that follow one another. -/
import Derived.Test.YtkfhieigdlfbeaaDoorB110
import Derived.RangeFuncNested
import Derived.OrdersIn
import Derived.Orders
import Derived.Attr
namespace Go.AB

/-- No fence; in the frame of a round, or of a function. -/
def fenceR (rd : Option Nat) : Fence := { Fence.wide with round := rd }

theorem fenceR_none : fenceR none = Fence.wide := rfl

theorem callsIn_R {rd : Option Nat} {n : Nat} {P : Program} {f : FuncId} {args : Array Value} {w : World} {R : Ending → World → Prop} : CallsIn (fenceR rd) n P f args w R ↔ Calls P f args w R :=
  ⟨fun h => callsIn_wide.1 (show CallsIn Fence.wide n P f args w R from h), fun h => (callsIn_wide.2 h : CallsIn Fence.wide n P f args w R)⟩

theorem rowsIn_R {rd : Option Nat} {n : Nat} {P : Program} {row : String} {args : Array Value} {w : World} {R : Value → World → Prop} (h : Rows P row args w R) : RowsIn (fenceR rd) n P row args w R :=
  fun c cs _ => let ⟨v, w', r, s⟩ := h c cs; ⟨v, w', r, (stepsIn_wide.2 s : StepsIn (Machine.fenced P Fence.wide) P _ _)⟩

theorem calm {rd : Option Nat} {P : Program} (m : Machine) : m.fenced P (fenceR rd) := (fenced_wide P m : m.fenced P Fence.wide)
theorem fn_R {rd : Option Nat} (f : FuncId) : (fenceR rd).fn f := trivial
theorem room_R {rd : Option Nat} (n : Nat) : (fenceR rd).room n := fun _ h => by cases h

theorem Oper.in_of {P : Program} {rd : Option Nat} {o : Oper} {a : Act} {w : World} {next : Act → World → Prop} {Q : Exit → Act → World → Prop} (hnd : ∀ c, o.op ≠ .defer c) (h : o.wp P a w next Q) : o.wpIn (fenceR rd) 0 P a w next Q := by
  refine ⟨fun _ _ => trivial, ?_⟩
  rw [Oper.semAt_eq _ _ _ hnd]
  unfold Oper.wp at h
  generalize (execOp a.eval o).run P w = r at h ⊢
  cases r with
  | ok n w' =>
    cases n <;> simp only [Oper.upon, Oper.uponIn] at h ⊢ <;> first
      | exact h
      | exact ⟨fun hh => absurd hh (by simp [fenceR, Fence.wide]), callsIn_R.2 (Calls.mono h (fun e _ hr => by cases e <;> exact hr))⟩
      | exact ⟨fun hh => absurd hh (by simp [fenceR, Fence.wide]), rowsIn_R (Rows.mono h (fun _ _ hr => hr))⟩
      | exact h.elim
  | halt x w' => cases x <;> simp only [Oper.upon, Oper.uponIn] at h ⊢ <;> exact h

section
variable {P : Program} {rd : Option Nat} {ops : Array Oper} {Q : Exit → Act → World → Prop}

theorem opAt_in (hnd : ∀ o ∈ ops.toList, ∀ c, o.op ≠ .defer c) (hQ : ¬ LetsOut Q) {i : Nat} {K : Act → World → Prop} {a : Act} {w : World} (h : wpOp P ops Q i K a w) : wpOpIn (fenceR rd) 0 P ops Q i K a w := by
  unfold wpOp at h
  unfold wpOpIn
  split at h
  · rename_i ho; simp only [ho]; exact h
  · rename_i o ho
    simp only [ho]
    split at h
    · rename_i hw
      rw [if_pos hw]
      rcases h with h | ⟨_, h⟩
      · exact Oper.in_of (hnd o (List.mem_of_getElem? (by simpa using ho))) h
      · exact absurd h hQ
    · rename_i hw
      rw [if_neg hw]
      exact ⟨fun _ _ => trivial, h⟩

theorem any_in (hnd : ∀ o ∈ ops.toList, ∀ c, o.op ≠ .defer c) (hQ : ¬ LetsOut Q) : ∀ (fuel : Nat) (listed : Array Bool) (a : Act) (w : World), wpAny P .any ops Q fuel listed a w → wpAnyIn (fenceR rd) 0 P .any ops Q fuel listed a w
  | 0, _, _, _, h => h
  | fuel + 1, listed, a, w, h => ⟨h.1, fun i hi => wpOpIn_mono (fun a w h => any_in hnd hQ fuel _ a w h) (opAt_in hnd hQ (h.2 i hi))⟩
end

/-! Environments. -/

/-- A step of the world that turns nothing that is known of. -/
theorem Inv.turn {E : Env} {G : Gh} {m : AH} {w w' : World} (h : Inv E G m w) (hk : Kept E w') (hsz : w.heap.size ≤ w'.heap.size)
    (hs : ∀ b, b < w.heap.size → (G.who b ≠ none ∨ ∃ j, G.st b j) → w'.heap[b]? = w.heap[b]?) : Inv E G m w' ∧ Ext G w G w' := by
  have hlt : ∀ b, (G.who b ≠ none ∨ ∃ j, G.st b j) → b < w.heap.size := fun b hb => by
    rcases Nat.lt_or_ge b w.heap.size with h1 | h1
    · exact h1
    · obtain ⟨f1, f2⟩ := h.fresh b h1
      rcases hb with hb | ⟨j, hb⟩
      · exact absurd f1 hb
      · exact absurd hb (f2 j)
  have same : ∀ b, (G.who b ≠ none ∨ ∃ j, G.st b j) → w'.heap[b]? = w.heap[b]? := fun b hb => hs b (hlt b hb) hb
  have hx : Ext G w G w' := ⟨fun _ _ h => h, fun b o hb => cell_of_heap (same b (.inr ⟨o, hb⟩)) o, fun _ _ h => h, Nat.le_refl _, fun _ _ _ h => h⟩
  refine ⟨⟨hk, fun l cs hc => ?_, h.gen, fun i hl => ?_, h.lt, h.nx, fun b hb => h.fresh b (Nat.le_trans hsz hb), h.ext.trans hx, h.st1⟩, hx⟩
  · obtain ⟨b, o, h1, h2, h3, h4, h5, h6⟩ := h.box l cs hc
    have hw : G.who b ≠ none := by rw [h2]; simp
    have hb := same b (.inl hw)
    refine ⟨b, o, h1, h2, h3, h4, fun h0 j c hj => ?_, fun h0 => ?_⟩
    · obtain ⟨k1, v, k2, k3, k4⟩ := h5 h0 j c hj
      refine ⟨?_, v, (cell_of_heap hb _).trans k2, k3, k4.ext hx⟩
      rw [← k1]
      simp only [World.frozen?, hb]
    · rcases h6 h0 with ⟨ks, vs, es, cl, k1, k2, k3⟩ | ⟨T, e, s, p, v, g1, g2, g3, g4⟩
      · exact .inl ⟨ks, vs, es, cl, k1, hb.trans k2, k3.ext hx⟩
      · refine .inr ⟨T, e, s, p, v, g1, hb.trans g2, g3, ?_⟩
        rcases g4 with g4 | ⟨g, cap, cur, fz, e1, e2, e3, e4, e5, e6, e7, e8⟩
        · exact .inl g4
        · exact .inr ⟨g, cap, cur, fz, e1, e2, e3, e4, e5, e6, (same g (.inl (by rw [e4]; exact hw))).trans e7, e8⟩
  · rcases h.tok i hl with ht | ⟨b, o, n, c, z, cells, ty, t1, t2, t3, t4, t5⟩
    · exact .inl ht
    · exact .inr ⟨b, o, n, c, z, cells, ty, t1, t2, t3, (same b (.inl (by rw [t2]; simp))).trans t4, t5⟩

/-- A new object. -/
theorem Inv.alloc {E : Env} {G : Gh} {m : AH} {w : World} (h : Inv E G m w) (o : Obj) : Inv E G m (w.alloc o) ∧ Ext G w G (w.alloc o) := by
  have hb : ∀ b, b < w.heap.size → (w.alloc o).heap[b]? = w.heap[b]? := fun b hb => by
    simp only [World.alloc]
    rw [Array.getElem?_push, if_neg (Nat.ne_of_lt hb)]
  refine h.turn ⟨h.kept.os, h.kept.tape, h.kept.output, Nat.le_trans h.kept.size (by simp), fun b h1 h2 => (hb b (Nat.lt_of_lt_of_le h1 h.kept.size)).trans (h.kept.block b h1 h2)⟩ (by simp) (fun b h1 _ => hb b h1)

/-- An object of which nothing is known becomes another one. -/
theorem Inv.putObj {E : Env} {G : Gh} {m : AH} {w : World} (h : Inv E G m w) {b : Nat} (o : Obj) (hb : E.may b ∨ E.w0.heap.size ≤ b) (hw : G.who b = none) (hs : ∀ j, ¬ G.st b j) : Inv E G m (w.putObj b o) ∧ Ext G w G (w.putObj b o) := by
  refine h.turn ⟨h.kept.os, h.kept.tape, h.kept.output, Nat.le_trans h.kept.size (by simp), fun c h1 h2 => (World.putObj_heap_other (fun e => by subst e; rcases hb with hb | hb; exact h2 hb; omega)).trans (h.kept.block c h1 h2)⟩ (by simp) (fun c _ h2 => World.putObj_heap_other ?_)
  rintro rfl
  rcases h2 with h2 | ⟨j, h2⟩
  · exact h2 hw
  · exact hs j h2

def mark (D : Nat) : Deferred := { target := .collected D, args := #[] }
def shut (D : Nat) : Nat × Obj := (D, .deferred (some []))

/-- A frame in which variables may be named anew: no round runs in it. -/
def Env.fl (E : Env) : Prop := E.may E.w0.heap.size

/-- An environment of a later world. -/
structure Sub (A E : Env) : Prop where
  nm : E.fl → A.g0 = E.g0
  rd : A.rd = E.rd
  kept : ∀ w, Kept A w → Kept E w
  inv : ∀ G m w, Inv A G m w → Inv E G m w
  lk : ∃ Ds : List Nat, A.ds = Ds.map mark ++ E.ds ∧ A.lk = Ds.map shut ++ E.lk ∧ Ds.Nodup ∧ (∀ D ∈ Ds, E.w0.heap.size ≤ D) ∧ (Ds = [] ∨ (E.rd = none ∧ E.lk = []))
  ok : ∀ x ∈ A.lk, x.1 < A.w0.heap.size ∧ ¬ A.may x.1 ∧ (∀ j, ¬ A.g0.st x.1 j) ∧ A.w0.heap[x.1]? = some x.2

theorem Sub.refl {E : Env} (h : ∀ x ∈ E.lk, x.1 < E.w0.heap.size ∧ ¬ E.may x.1 ∧ (∀ j, ¬ E.g0.st x.1 j) ∧ E.w0.heap[x.1]? = some x.2) : Sub E E :=
  ⟨fun _ => rfl, rfl, fun _ h => h, fun _ _ _ h => h, ⟨[], by simp, by simp, List.nodup_nil, by simp, .inl rfl⟩, h⟩
theorem Sub.self {E : Env} (h : E.lk = []) : Sub E E := .refl fun x hx => by rw [h] at hx; cases hx

theorem Sub.same {A E : Env} (h : Sub A E) (hE : E.lk ≠ [] ∨ E.rd ≠ none) : A.ds = E.ds ∧ A.lk = E.lk := by
  obtain ⟨Ds, d1, d2, _, _, rfl | ⟨h1, h2⟩⟩ := h.lk
  · exact ⟨by simpa using d1, by simpa using d2⟩
  · rcases hE with hE | hE
    · exact absurd h2 hE
    · exact absurd h1 hE

theorem Sub.tabs {P : Program} {A E : Env} (h : Sub A E) (hT : TabsOk P E) : TabsOk P A := fun w k => hT w (h.kept w k)

/-- What is known to lie there lies there, and is nobody's. -/
theorem Sub.there {A E : Env} {G : Gh} {m : AH} {w : World} (h : Sub A E) (hi : Inv A G m w) {x : Nat × Obj} (hx : x ∈ A.lk) : x.1 < w.heap.size ∧ w.heap[x.1]? = some x.2 ∧ (∀ j, ¬ G.st x.1 j) := by
  obtain ⟨h1, h2, h3, h4⟩ := h.ok x hx
  refine ⟨Nat.lt_of_lt_of_le h1 hi.kept.size, (hi.kept.block _ h1 h2).trans h4, fun j hj => ?_⟩
  rcases hi.st1 _ j hj h1 with h5 | h5
  · exact h3 j h5
  · exact h2 h5

open Classical in
/-- What is known, but that the blocks that may not change are nobody's. -/
noncomputable def Gh.free (G : Gh) (A : Env) : Gh := { G with who := fun b => if b < A.w0.heap.size ∧ ¬ A.may b then none else G.who b }

theorem Gh.free_ext (G : Gh) (A : Env) (w : World) : Ext G w (G.free A) w := ⟨fun _ _ h => h, fun _ _ _ => rfl, fun _ _ h => h, Nat.le_refl _, fun _ _ _ h => h⟩

theorem Gh.free_may {G : Gh} {A : Env} {b : Nat} (h : A.may b ∨ A.w0.heap.size ≤ b) : (G.free A).who b = G.who b := by
  unfold Gh.free
  simp only
  rw [if_neg]
  rintro ⟨h1, h2⟩
  rcases h with h | h
  · exact h2 h
  · omega

theorem Inv.free {A : Env} {G : Gh} {m : AH} {w : World} (h : Inv A G m w) : Inv A (G.free A) m w := by
  have hx := G.free_ext A w
  refine ⟨h.kept, fun l cs hc => ?_, h.gen, fun i hl => ?_, h.lt, h.nx, fun b hb => ?_, h.ext.trans hx, h.st1⟩
  · obtain ⟨b, o, h1, h2, h3, h4, h5, h6⟩ := h.box l cs hc
    refine ⟨b, o, h1, (Gh.free_may h3).trans h2, h3, h4, fun h0 j c hj => ?_, fun h0 => ?_⟩
    · obtain ⟨k1, v, k2, k3, k4⟩ := h5 h0 j c hj
      exact ⟨k1, v, k2, k3, k4.ext hx⟩
    · rcases h6 h0 with ⟨ks, vs, es, cl, k1, k2, k3⟩ | ⟨T, e, s, p, v, g1, g2, g3, g4⟩
      · exact .inl ⟨ks, vs, es, cl, k1, k2, k3.ext hx⟩
      · refine .inr ⟨T, e, s, p, v, g1, g2, g3, ?_⟩
        rcases g4 with g4 | ⟨g, cap, cur, fz, e1, e2, e3, e4, e5, e6, e7, e8⟩
        · exact .inl g4
        · exact .inr ⟨g, cap, cur, fz, e1, e2, e3, by rw [Gh.free_may e6, Gh.free_may h3]; exact e4, e5, e6, e7, e8⟩
  · rcases h.tok i hl with ht | ⟨b, o, n, c, z, cells, ty, t1, t2, t3, t4⟩
    · exact .inl ht
    · exact .inr ⟨b, o, n, c, z, cells, ty, t1, (Gh.free_may t3).trans t2, t3, t4⟩
  · obtain ⟨f1, f2⟩ := h.fresh b hb
    refine ⟨?_, f2⟩
    rw [Gh.free_may (.inr (Nat.le_trans h.kept.size hb))]
    exact f1

theorem Sub.free {A E : Env} (h : Sub A E) {G : Gh} {x : Nat × Obj} (hx : x ∈ A.lk) : (G.free A).who x.1 = none := by
  obtain ⟨h1, h2, _⟩ := h.ok x hx
  unfold Gh.free
  simp only
  rw [if_pos ⟨h1, h2⟩]

/-- The environment at a later world, with objects that stay; X: blocks that may change though they are nobody's. -/
def Env.atX (E : Env) (G : Gh) (w : World) (Ds : List Nat) (X : Nat → Prop) : Env :=
  ⟨w, fun b => (E.may b ∨ E.w0.heap.size ≤ b) ∧ (G.who b ≠ none ∨ X b), G, E.rd, Ds.map mark ++ E.ds, Ds.map shut ++ E.lk⟩
def Env.at (E : Env) (G : Gh) (w : World) (Ds : List Nat) : Env := E.atX G w Ds fun _ => False

theorem Inv.atX {E : Env} {G : Gh} {m : AH} {w : World} (h : Inv E G m w) (Ds : List Nat) (X : Nat → Prop) : Inv (E.atX G w Ds X) G m w := by
  have up : ∀ b, E.may b ∨ E.w0.heap.size ≤ b → G.who b ≠ none → (E.atX G w Ds X).may b ∨ (E.atX G w Ds X).w0.heap.size ≤ b := fun b h1 h2 => .inl ⟨h1, .inl h2⟩
  refine ⟨⟨rfl, rfl, rfl, Nat.le_refl _, fun _ _ _ => rfl⟩, fun l cs hc => ?_, h.gen, fun i hi => ?_, h.lt, h.nx, h.fresh, Ext.refl _ _, fun b o hs _ => .inl hs⟩
  · obtain ⟨b, o, h1, h2, h3, h4, h5, h6⟩ := h.box l cs hc
    have hw : G.who b ≠ none := by rw [h2]; simp
    refine ⟨b, o, h1, h2, up b h3 hw, h4, h5, fun h0 => ?_⟩
    rcases h6 h0 with h6 | ⟨T, e, s, p, v, g1, g2, g3, g4⟩
    · exact .inl h6
    · refine .inr ⟨T, e, s, p, v, g1, g2, g3, ?_⟩
      rcases g4 with g4 | ⟨g, cap, cur, fz, e1, e2, e3, e4, e5, e6, e7, e8⟩
      · exact .inl g4
      · exact .inr ⟨g, cap, cur, fz, e1, e2, e3, e4, e5, up g e6 (by rw [e4]; exact hw), e7, e8⟩
  · rcases h.tok i hi with ht | ⟨b, o, n, c, z, cells, ty, t1, t2, t3, t4⟩
    · exact .inl ht
    · exact .inr ⟨b, o, n, c, z, cells, ty, t1, t2, up b t3 (by rw [t2]; simp), t4⟩

theorem Kept.unatX {E : Env} {G : Gh} {m : AH} {w w' : World} {Ds : List Nat} {X : Nat → Prop} (h : Inv E G m w) (k : Kept (E.atX G w Ds X) w') : Kept E w' := by
  refine ⟨k.os.trans h.kept.os, k.tape.trans h.kept.tape, k.output.trans h.kept.output, Nat.le_trans h.kept.size k.size, fun b hb hm => ?_⟩
  refine (k.block b (Nat.lt_of_lt_of_le hb h.kept.size) ?_).trans (h.kept.block b hb hm)
  rintro ⟨h1 | h1, _⟩
  · exact hm h1
  · omega

theorem Inv.unatX {E : Env} {G G' : Gh} {m m' : AH} {w w' : World} {Ds : List Nat} {X : Nat → Prop} (h : Inv E G m w) (hi : Inv (E.atX G w Ds X) G' m' w') : Inv E G' m' w' := by
  have up : ∀ b, (E.atX G w Ds X).may b ∨ w.heap.size ≤ b → E.may b ∨ E.w0.heap.size ≤ b := fun b hb => by
    rcases hb with ⟨hb, _⟩ | hb
    · exact hb
    · exact .inr (Nat.le_trans h.kept.size hb)
  refine ⟨hi.kept.unatX h, fun l cs hc => ?_, hi.gen, fun i hl => ?_, hi.lt, hi.nx, hi.fresh, h.ext.trans hi.ext, fun b o hs hb => ?_⟩
  · obtain ⟨b, o, h1, h2, h3, h4, h5, h6⟩ := hi.box l cs hc
    refine ⟨b, o, h1, h2, up b h3, h4, h5, fun h0 => ?_⟩
    rcases h6 h0 with h6 | ⟨T, e, s, p, v, g1, g2, g3, g4⟩
    · exact .inl h6
    · refine .inr ⟨T, e, s, p, v, g1, g2, g3, ?_⟩
      rcases g4 with g4 | ⟨g, cap, cur, fz, e1, e2, e3, e4, e5, e6, e7, e8⟩
      · exact .inl g4
      · exact .inr ⟨g, cap, cur, fz, e1, e2, e3, e4, e5, up g e6, e7, e8⟩
  · rcases hi.tok i hl with ht | ⟨b, o, n, c, z, cells, ty, t1, t2, t3, t4⟩
    · exact .inl ht
    · exact .inr ⟨b, o, n, c, z, cells, ty, t1, t2, up b t3, t4⟩
  · rcases hi.st1 b o hs (Nat.lt_of_lt_of_le hb h.kept.size) with h1 | ⟨h1 | h1, _⟩
    · exact h.st1 b o h1 hb
    · exact .inr h1
    · omega

theorem Inv.at_nofl {E : Env} {G : Gh} {m : AH} {w : World} (h : Inv E G m w) {Ds : List Nat} {X : Nat → Prop} (hX : ¬ X w.heap.size) : ¬ (E.atX G w Ds X).fl := by
  rintro ⟨_, h1 | h1⟩
  · exact h1 (h.fresh _ (Nat.le_refl _)).1
  · exact hX h1

/-- Environments that agree on the blocks that were there. -/
theorem Inv.env {E E' : Env} {G : Gh} {m : AH} {w : World} (h : Inv E G m w) (hw : E'.w0 = E.w0) (hg : E'.g0 = E.g0) (hm : ∀ b, b < E.w0.heap.size → (E'.may b ↔ E.may b)) : Inv E' G m w := by
  have up : ∀ b, E.may b ∨ E.w0.heap.size ≤ b → E'.may b ∨ E'.w0.heap.size ≤ b := fun b hb => by
    rw [hw]
    rcases Nat.lt_or_ge b E.w0.heap.size with h1 | h1
    · rcases hb with hb | hb
      · exact .inl ((hm b h1).2 hb)
      · omega
    · exact .inr h1
  refine ⟨⟨by rw [hw]; exact h.kept.os, by rw [hw]; exact h.kept.tape, by rw [hw]; exact h.kept.output, by rw [hw]; exact h.kept.size, fun b hb hb2 => ?_⟩, fun l cs hc => ?_, h.gen, fun i hl => ?_, h.lt, h.nx, h.fresh, by rw [hw, hg]; exact h.ext, fun b o hs hb => ?_⟩
  · rw [hw] at hb ⊢
    exact h.kept.block b hb (fun h1 => hb2 ((hm b hb).2 h1))
  · obtain ⟨b, o, h1, h2, h3, h4, h5, h6⟩ := h.box l cs hc
    refine ⟨b, o, h1, h2, up b h3, h4, h5, fun h0 => ?_⟩
    rcases h6 h0 with h6 | ⟨T, e, s, p, v, g1, g2, g3, g4⟩
    · exact .inl h6
    · refine .inr ⟨T, e, s, p, v, g1, g2, g3, ?_⟩
      rcases g4 with g4 | ⟨g, cap, cur, fz, e1, e2, e3, e4, e5, e6, e7, e8⟩
      · exact .inl g4
      · exact .inr ⟨g, cap, cur, fz, e1, e2, e3, e4, e5, up g e6, e7, e8⟩
  · rcases h.tok i hl with ht | ⟨b, o, n, c, z, cells, ty, t1, t2, t3, t4, t5⟩
    · exact .inl ht
    · exact .inr ⟨b, o, n, c, z, cells, ty, t1, t2, up b t3, t4, t5⟩
  · rw [hw] at hb
    rw [hg]
    rcases h.st1 b o hs hb with h1 | h1
    · exact .inl h1
    · exact .inr ((hm b hb).2 h1)

/-- Blocks that were not there do not count. -/
def Env.trim (E : Env) : Env := ⟨E.w0, fun b => E.may b ∧ b < E.w0.heap.size, E.g0, none, [], []⟩
theorem Inv.trim {E : Env} {G : Gh} {m : AH} {w : World} (h : Inv E G m w) : Inv E.trim G m w := h.env rfl rfl fun b hb => ⟨fun x => x.1, fun x => ⟨x, hb⟩⟩
theorem Inv.untrim {E : Env} {G : Gh} {m : AH} {w : World} (h : Inv E.trim G m w) : Inv E G m w := h.env rfl rfl fun b hb => ⟨fun x => ⟨x, hb⟩, fun x => x.1⟩
theorem TabsOk.trim {P : Program} {E : Env} (h : TabsOk P E) : TabsOk P E.trim := fun w k => h w ⟨k.os, k.tape, k.output, k.size, fun b hb hm => k.block b hb fun x => hm x.1⟩
theorem Env.trim_nofl (E : Env) : ¬ E.trim.fl := fun h => Nat.lt_irrefl _ h.2

/-- The same, with leave to name variables anew. -/
def Env.free (E : Env) : Env := ⟨E.w0, fun b => E.may b ∨ b = E.w0.heap.size, E.g0, none, [], []⟩
theorem Inv.freed {E : Env} {G : Gh} {m : AH} {w : World} (h : Inv E G m w) : Inv E.free G m w := h.env rfl rfl fun b hb => ⟨fun x => by rcases x with x | x; exact x; omega, fun x => .inl x⟩
theorem Inv.unfreed {E : Env} {G : Gh} {m : AH} {w : World} (h : Inv E.free G m w) : Inv E G m w := h.env rfl rfl fun b hb => ⟨fun x => .inl x, fun x => by rcases x with x | x; exact x; exact absurd hb (by rw [x]; exact Nat.lt_irrefl _)⟩
theorem TabsOk.freed {P : Program} {E : Env} (h : TabsOk P E) : TabsOk P E.free := fun w k => h w ⟨k.os, k.tape, k.output, k.size, fun b hb hm => k.block b hb fun x => by rcases x with x | x; exact hm x; exact absurd hb (by rw [x]; exact Nat.lt_irrefl _)⟩
theorem Env.free_fl (E : Env) : E.free.fl := .inr rfl

/-- What it takes that objects are known to lie there. -/
def Lie (G : Gh) (w : World) (lk : List (Nat × Obj)) : Prop := ∀ x ∈ lk, x.1 < w.heap.size ∧ G.who x.1 = none ∧ (∀ j, ¬ G.st x.1 j) ∧ w.heap[x.1]? = some x.2

theorem Inv.at_ok {E : Env} {G : Gh} {w : World} {Ds : List Nat} (hk : Lie G w (Ds.map shut ++ E.lk)) : ∀ x ∈ (E.at G w Ds).lk, x.1 < (E.at G w Ds).w0.heap.size ∧ ¬ (E.at G w Ds).may x.1 ∧ (∀ j, ¬ (E.at G w Ds).g0.st x.1 j) ∧ (E.at G w Ds).w0.heap[x.1]? = some x.2 := fun x hx => by
  obtain ⟨h1, h2, h3, h4⟩ := hk x hx
  refine ⟨h1, ?_, h3, h4⟩
  rintro ⟨_, h5 | h5⟩
  · exact h5 h2
  · exact h5

theorem Inv.at_sub {E : Env} {G : Gh} {m : AH} {w : World} (h : Inv E G m w) {Ds : List Nat} (hn : Ds.Nodup) (hD : ∀ D ∈ Ds, E.w0.heap.size ≤ D) (hr : Ds = [] ∨ (E.rd = none ∧ E.lk = []))
    (hk : Lie G w (Ds.map shut ++ E.lk)) (hf : ¬ E.fl) : Sub (E.at G w Ds) E :=
  ⟨fun h => absurd h hf, rfl, fun _ k => k.unatX h, fun _ _ _ hi => h.unatX hi, ⟨Ds, rfl, rfl, hn, hD, hr⟩, Inv.at_ok hk⟩

theorem Sub.lie {A E : Env} {G : Gh} {m : AH} {w : World} (h : Sub A E) (hi : Inv A G m w) : Lie (G.free A) w A.lk := fun x hx => by
  obtain ⟨h1, h2, h3⟩ := h.there hi hx
  exact ⟨h1, h.free hx, h3, h2⟩

/-- Only the frame is another one. -/
def Env.frame (E : Env) (rd : Option Nat) (ds : List Deferred) (lk : List (Nat × Obj)) : Env := ⟨E.w0, E.may, E.g0, rd, ds, lk⟩
theorem Kept.frame {E : Env} {w : World} (h : Kept E w) (rd : Option Nat) (ds : List Deferred) (lk : List (Nat × Obj)) : Kept (E.frame rd ds lk) w := ⟨h.os, h.tape, h.output, h.size, h.block⟩
theorem Kept.unframe {E : Env} {w : World} {rd : Option Nat} {ds : List Deferred} {lk : List (Nat × Obj)} (h : Kept (E.frame rd ds lk) w) : Kept E w := ⟨h.os, h.tape, h.output, h.size, h.block⟩
theorem Inv.frame {E : Env} {G : Gh} {m : AH} {w : World} (h : Inv E G m w) (rd : Option Nat) (ds : List Deferred) (lk : List (Nat × Obj)) : Inv (E.frame rd ds lk) G m w :=
  ⟨h.kept.frame rd ds lk, h.box, h.gen, h.tok, h.lt, h.nx, h.fresh, h.ext, h.st1⟩
theorem Inv.unframe {E : Env} {G : Gh} {m : AH} {w : World} {rd : Option Nat} {ds : List Deferred} {lk : List (Nat × Obj)} (h : Inv (E.frame rd ds lk) G m w) : Inv E G m w :=
  ⟨h.kept.unframe, h.box, h.gen, h.tok, h.lt, h.nx, h.fresh, h.ext, h.st1⟩
theorem TabsOk.frame {P : Program} {E : Env} (h : TabsOk P E) (rd : Option Nat) (ds : List Deferred) (lk : List (Nat × Obj)) : TabsOk P (E.frame rd ds lk) := fun w k => h w k.unframe

end Go.AB

/- Regions, branches, loops, and a function's body, on abstract states. -/
namespace Go.AB

def exG (P : Program) (ops : Array Oper) (o : Oper) (σ : AS) (K : AS → Prop) : Prop := match o.guard with
  | none => exOp P o σ K
  | some (j, want) => match (ops[j]?).bind (·.dst) with
    | some d => (match nth σ.s d with
      | .bool b => gateW want b (exOp P o (σ.put (some d) (.bool want)) K) (K ((σ.put (some d) (.bool !want)).put o.dst undefA))
      | .raw (.tuple _) => K (σ.put o.dst undefA)
      | _ => False)
    | none => False

def kOps (f : AS → (AS → Prop) → Prop) (K : AS → Prop) (σ : AS) : Prop := f σ K

def exOps (P : Program) (ops : Array Oper) : List Oper → AS → (AS → Prop) → Prop
  | [], σ, K => K σ
  | o :: r, σ, K => exG P ops o σ (kOps (exOps P ops r) K)

/-- What holds of a real state, as something of an abstract one. -/
def Lift0 (E : Env) (Q : Exit → AS → Prop) : Exit → Act → World → Prop := fun e a w => ∃ σ, St E σ a w ∧ Q e σ

/-- The same, in some later environment. -/
def Lift (E : Env) (Q : Exit → AS → Prop) : Exit → Act → World → Prop := fun e a w => ∃ A σ, Sub A E ∧ St A σ a w ∧ Q e σ

theorem yielded_of {E : Env} {σ : AS} {a : Act} {w : World} {ops : Array Oper} {j d : Nat} (hst : St E σ a w) (hd : (ops[j]?).bind (·.dst) = some d) :
    (∀ b, nth σ.s d = .bool b → yielded ops a.tmps j = some b) ∧ (∀ vs, nth σ.s d = .raw (.tuple vs) → yielded ops a.tmps j = none) := by
  obtain ⟨G, hi, hs, hdf, hr⟩ := hst
  have hrd := hr d
  have hy : yielded ops a.tmps j = match a.tmps[d]? with | some (.bool b) => some b | _ => none := by
    simp only [yielded, hd, Option.bind_some]
    rfl
  constructor
  · intro b hb
    rw [hb] at hrd
    rw [hy]
    cases hx : a.tmps[d]? with
    | none => rw [Array.getD_eq_getD_getElem?, hx] at hrd; simp only [Option.getD_none, undef] at hrd; cases hrd
    | some x =>
      rw [Array.getD_eq_getD_getElem?, hx] at hrd
      simp only [Option.getD_some] at hrd
      cases hrd; rfl
  · intro vs hb
    rw [hb] at hrd
    rw [hy]
    cases hx : a.tmps[d]? with
    | none => rfl
    | some x =>
      rw [Array.getD_eq_getD_getElem?, hx] at hrd
      simp only [Option.getD_some] at hrd
      cases hrd; rfl

theorem skip_st {E : Env} {σ : AS} {a : Act} {w : World} (dst : Option Nat) (hst : St E σ a w) : St E (σ.put dst undefA) (a.put dst undef) w := by
  obtain ⟨G, hi, hs, hdf, hr⟩ := hst
  exact St.step hs hdf hr (Ext.refl G w) hi (.raw _)

theorem put_same {σ : AS} {d : Nat} {v : AV} (h : nth σ.s d = v) (hv : v ≠ undefA) : σ.put (some d) v = σ := by
  have hd : d < σ.s.length := by
    rcases Nat.lt_or_ge d σ.s.length with hd | hd
    · exact hd
    · rw [nth_ge hd] at h; exact absurd h.symm hv
  have h2 := nth_lt hd
  rw [h] at h2
  obtain ⟨s, m⟩ := σ
  simp only [AS.put]
  congr 1
  apply List.ext_getElem?
  intro i
  by_cases hi : d = i
  · subst hi; rw [List.getElem?_set_self hd]; exact h2.symm
  · rw [List.getElem?_set_ne hi]

theorem exG_nd {P : Program} {ops : Array Oper} {o : Oper} {σ : AS} {K : AS → Prop} (h : exG P ops o σ K) : o.guard = none → ∀ c, o.op ≠ .defer c := fun hg c => by
  unfold exG at h
  rw [hg] at h
  exact exOp_nd h c

theorem exOps_ok {P : Program} {E : Env} {rd : Option Nat} {ops : Array Oper} {K : AS → Prop} {Q : Exit → Act → World → Prop} (hT : TabsOk P E) (hQ : ∀ σ a w, St E σ a w → K σ → Q .normal a w) :
    ∀ (l : List Oper) (k : Nat) (σ : AS) (a : Act) (w : World), ops.toList.drop k = l → exOps P ops l σ K → St E σ a w → wpOpsIn (fenceR rd) 0 P ops Q (List.range' k l.length) a w
  | [], k, σ, a, w, _, h, hst => by simpa [wpOpsIn] using hQ σ a w hst h
  | o :: r, k, σ, a, w, hk, h, hst => by
    have hok : ops[k]? = some o := by
      have := congrArg (·[0]?) hk
      simpa using this
    have hr : ops.toList.drop (k + 1) = r := by
      have := congrArg (List.drop 1) hk
      simpa [List.drop_drop, Nat.add_comm] using this
    rw [List.length_cons, List.range'_succ, wpOpsIn]
    simp only [hok]
    simp only [exOps, exG] at h
    have cont : ∀ σ' a' w', St E σ' a' w' → exOps P ops r σ' K → wpOpsIn (fenceR rd) 0 P ops Q (List.range' (k + 1) r.length) a' w' := fun σ' a' w' h1 h2 => exOps_ok hT hQ r (k + 1) σ' a' w' hr h2 h1
    split at h
    · rename_i hg
      have hw : Region.wanted o (yielded ops a.tmps) = true := by simp [Region.wanted, hg]
      rw [if_pos hw]
      exact Oper.in_of (exOp_nd h) (Oper.wp_mono (fun a' w' ⟨σ', h1, h2⟩ => cont σ' a' w' h1 h2) (exOp_ok hT h hst Q))
    · rename_i j want hg
      split at h
      · rename_i d hd
        obtain ⟨y1, y2⟩ := yielded_of hst hd
        split at h
        · rename_i b hb
          have h := gateW_iff.1 h
          have hy := y1 b hb
          by_cases hbw : b = want
          · have hw : Region.wanted o (yielded ops a.tmps) = true := by simp [Region.wanted, hg, hy, hbw]
            rw [if_pos hw]
            have h1 := h.1 hbw
            rw [put_same (hb.trans (by rw [hbw])) (by simp [undefA])] at h1
            exact Oper.in_of (exOp_nd h1) (Oper.wp_mono (fun a' w' ⟨σ', h1, h2⟩ => cont σ' a' w' h1 h2) (exOp_ok hT h1 hst Q))
          · have hbw2 : b = !want := by cases b <;> cases want <;> simp_all
            have hw : ¬ Region.wanted o (yielded ops a.tmps) = true := by simp [Region.wanted, hg, hy, hbw]
            rw [if_neg hw]
            have h2 := h.2 hbw2
            rw [put_same (hb.trans (by rw [hbw2])) (by simp [undefA])] at h2
            exact ⟨fun _ _ => trivial, cont _ _ _ (skip_st o.dst hst) h2⟩
        · rename_i vs hb
          have hy := y2 vs hb
          have hw : ¬ Region.wanted o (yielded ops a.tmps) = true := by simp [Region.wanted, hg, hy]
          rw [if_neg hw]
          exact ⟨fun _ _ => trivial, cont _ _ _ (skip_st o.dst hst) h⟩
        · exact h.elim
      · exact h.elim

/-- A walk, in whatever frame. -/
def wpR (P : Program) (rd : Option Nat) (c : Code) (Q : Exit → Act → World → Prop) (a : Act) (w : World) : Prop := c.wpIn (fenceR rd) 0 P Q a w

def AW (P : Program) (E : Env) (c : Code) (Q : Exit → AS → Prop) (σ : AS) : Prop := TabsOk P E → ∀ A a w, Sub A E → St A σ a w → wpR P E.rd c (Lift E Q) a w

def thenQ (f : AS → Prop) (Q : Exit → AS → Prop) : Exit → AS → Prop
  | .normal, σ => f σ
  | e, σ => Q e σ

def blockQ (id : Nat) (Q : Exit → AS → Prop) : Exit → AS → Prop
  | .exit id', σ => if id' = id then Q .normal σ else Q (.exit id') σ
  | e, σ => Q e σ

def kCode (f : AS → (Exit → AS → Prop) → Prop) (Q : Exit → AS → Prop) (σ : AS) : Prop := f σ Q

def exC (P : Program) (E : Env) : Code → AS → (Exit → AS → Prop) → Prop
  | .skip, σ, Q => Q .normal σ
  | .region id ops draw, σ, Q => match draw with
    | false => exOps P ops ops.toList σ (Q .normal)
    | true => AW P E (.region id ops true) Q σ
  | .seq a b, σ, Q => exC P E a σ (thenQ (kCode (exC P E b) Q) Q)
  | .cond c a b, σ, Q => match σ.ev P 0 c with
    | .bool t => (t = true → exC P E a σ Q) ∧ (t = false → exC P E b σ Q)
    | _ => False
  | .block id c, σ, Q => exC P E c σ (blockQ id Q)
  | .exit id, σ, Q => Q (.exit id) σ
  | .ret, σ, Q => Q .ret σ
  | c, σ, Q => AW P E c Q σ

theorem exC_ok {P : Program} {E : Env} : ∀ (c : Code) (σ : AS) (Q : Exit → AS → Prop), exC P E c σ Q → AW P E c Q σ
  | .skip, σ, Q, h => fun _ A a w hs hst => wpIn_skip ⟨A, σ, hs, hst, h⟩
  | .region id ops draw, σ, Q, h => by
    cases draw with
    | true => exact h
    | false =>
      intro hT A a w hs hst
      refine wpIn_region ?_
      have := exOps_ok (P := P) (E := A) (rd := E.rd) (ops := ops) (K := Q .normal) (Q := Lift E Q) (hs.tabs hT) (fun σ' a' w' h1 h2 => ⟨A, σ', hs, h1, h2⟩) ops.toList 0 σ a w (by simp) h hst
      rwa [Array.length_toList, ← List.range_eq_range'] at this
  | .seq x y, σ, Q, h => fun hT A a w hs hst => by
    have hx := exC_ok x σ _ h hT A a w hs hst
    refine wpIn_seq (wpIn_mono hx ?_)
    rintro e a' w' ⟨A', σ', hs', h1, h2⟩
    cases e with
    | normal => exact exC_ok y σ' Q h2 hT A' a' w' hs' h1
    | _ => exact ⟨A', σ', hs', h1, h2⟩
  | .cond c x y, σ, Q, h => fun hT A a w hs hst => by
    simp only [exC] at h
    split at h
    · rename_i t ht
      obtain ⟨G, hi, hsz, hd, hr⟩ := hst
      have hc := ev_rep (P := P) hr 0 c
      rw [ht] at hc
      have hv : a.eval c = .bool t := by
        generalize a.eval c = v at hc
        cases hc; rfl
      have hst : St A σ a w := ⟨G, hi, hsz, hd, hr⟩
      exact wpIn_cond_split hv (fun e => exC_ok x σ Q (h.1 e) hT A a w hs hst) (fun e => exC_ok y σ Q (h.2 e) hT A a w hs hst)
    · exact h.elim
  | .block id c, σ, Q, h => fun hT A a w hs hst => by
    refine wpIn_block (wpIn_mono (exC_ok c σ _ h hT A a w hs hst) ?_)
    rintro e a' w' ⟨A', σ', hs', h1, h2⟩
    cases e with
    | exit id' =>
      simp only [blockQ] at h2
      simp only [Exit.inBlock]
      by_cases hid : id' = id
      · rw [if_pos hid] at h2 ⊢; exact ⟨A', σ', hs', h1, h2⟩
      · rw [if_neg hid] at h2 ⊢; exact ⟨A', σ', hs', h1, h2⟩
    | _ => exact ⟨A', σ', hs', h1, h2⟩
  | .exit id, σ, Q, h => fun _ A a w hs hst => wpIn_exit ⟨A, σ, hs, hst, h⟩
  | .ret, σ, Q, h => fun _ A a w hs hst => wpIn_ret ⟨A, σ, hs, hst, h⟩
  | .loop c, σ, Q, h => h
  | .rangeFunc .., σ, Q, h => h
  | .scope .., σ, Q, h => h
  | .label .., σ, Q, h => h
  | .goto .., σ, Q, h => h
  | .refuse .., σ, Q, h => h

theorem AW_mono {P : Program} {E : Env} {c : Code} {Q Q' : Exit → AS → Prop} {σ : AS} (h : AW P E c Q σ) (hq : ∀ e σ, Q e σ → Q' e σ) : AW P E c Q' σ :=
  fun hT A a w hs hst => wpIn_mono (h hT A a w hs hst) fun e _ _ ⟨A', σ', hs', h1, h2⟩ => ⟨A', σ', hs', h1, hq e σ' h2⟩

/-- A loop from a round's head on, in whatever frame. -/
def LoopAt (P : Program) (rd : Option Nat) (c : Code) (Q : Exit → Act → World → Prop) (a : Act) (w : World) : Prop :=
  ∀ (b : Frame) (k : List Item) (cs : List Frame), b.roundOf = rd → ∃ e a' w', Q e a' w' ∧ ArrivesIn (Machine.fenced P (fenceR rd)) P (lone (b.atR a (.code c :: .inLoop c :: k)) cs w) b k cs e a' w'

theorem LoopAt.start {P : Program} {rd : Option Nat} {c : Code} {Q : Exit → Act → World → Prop} {a : Act} {w : World} (h : LoopAt P rd c Q a w) : wpR P rd (.loop c) Q a w := fun b k cs hro _ _ => by
  obtain ⟨e, a', w', hq, harr⟩ := h b k cs hro
  exact ⟨e, a', w', hq, .of_steps (.one (calm _) stepR_loop) harr⟩

theorem LoopAt.round {P : Program} {rd : Option Nat} {c : Code} {Q : Exit → Act → World → Prop} {a : Act} {w : World} (h : wpR P rd c (Exit.then (LoopAt P rd c Q) Q) a w) : LoopAt P rd c Q a w := fun b k cs hro => by
  obtain ⟨e, a1, w1, hq, harr⟩ := h b (.inLoop c :: k) cs hro (fn_R _) (room_R _)
  cases e with
  | normal =>
    obtain ⟨e2, a2, w2, hq2, harr2⟩ := hq b k cs hro
    exact ⟨e2, a2, w2, hq2, .of_steps (StepsIn.trans harr (.one (calm _) stepR_inLoop)) harr2⟩
  | exit id => exact ⟨_, a1, w1, hq, .pass (x := .inLoop c) rfl (fun _ _ => .inl (by simp)) harr⟩
  | goto l => exact ⟨_, a1, w1, hq, .pass (x := .inLoop c) rfl (fun _ _ => .inl (by simp)) harr⟩
  | ret => exact ⟨_, a1, w1, hq, .pass (x := .inLoop c) rfl (fun _ _ => .inl (by simp)) harr⟩
  | panic ch => exact ⟨_, a1, w1, hq, .pass (x := .inLoop c) rfl (fun _ _ => .inl (by simp)) harr⟩
  | outgrown => exact ⟨_, a1, w1, hq, .pass (x := .inLoop c) rfl (fun _ _ => .inl (by simp)) harr⟩

/-- A loop: a relation at each round's head, and a measure. -/
theorem AW_loop {P : Program} {E : Env} {c : Code} {Q : Exit → AS → Prop} {σ : AS} {α : Type} (I : α → AS → Prop) (μ : α → Nat) (x0 : α) (h0 : I x0 σ)
    (round : ∀ x σ, I x σ → AW P E c (thenQ (fun σ' => ∃ y, I y σ' ∧ μ y < μ x) Q) σ) : AW P E (.loop c) Q σ := by
  intro hT A a w hs hst
  have key : ∀ n x σ A a w, μ x = n → I x σ → Sub A E → St A σ a w → LoopAt P E.rd c (Lift E Q) a w := by
    intro n
    induction n using Nat.strongRecOn with
    | _ n ih =>
      intro x σ A a w hn hI hs hst
      refine LoopAt.round (wpIn_mono (round x σ hI hT A a w hs hst) ?_)
      rintro e a1 w1 ⟨A1, σ1, hs1, hst1, hq⟩
      cases e with
      | normal =>
        obtain ⟨y, hI1, hlt⟩ := hq
        exact ih (μ y) (hn ▸ hlt) y σ1 A1 a1 w1 rfl hI1 hs1 hst1
      | _ => exact ⟨A1, σ1, hs1, hst1, hq⟩
  exact (key _ x0 σ A a w rfl h0 hs hst).start

/-- What a function hands back. -/
def kCons (v : AV) (K : List AV → Prop) (vs : List AV) : Prop := K (v :: vs)
def kRes (f : (List AV → Prop) → Prop) (K : List AV → Prop) (v : AV) : Prop := f (kCons v K)

def resK (P : Program) (σ : AS) : List ResultVar → (List AV → Prop) → Prop
  | [], K => K []
  | .tmp t :: r, K => resK P σ r (kCons (nth σ.s t) K)
  | .cell a t :: r, K => exLoad P σ.m t (nth σ.s a) (kRes (resK P σ r) K)

def resV : List AV → AV
  | [v] => v
  | vs => .tup vs

def kBody (R : AH → AV → Prop) (m : AH) (vs : List AV) : Prop := port (resV vs) = true ∧ R m (resV vs)

def bodyQ (P : Program) (rs : List ResultVar) (R : AH → AV → Prop) : Exit → AS → Prop
  | .normal, σ => resK P σ rs (kBody R σ.m)
  | .ret, σ => resK P σ rs (kBody R σ.m)
  | _, _ => False

theorem resK_ok {P : Program} {E : Env} {G : Gh} {σ : AS} {w : World} {tmps : Array Value} (hi : Inv E G σ.m w) (hr : ∀ t, RepA G w (nth σ.s t) (tmps.getD t undef)) : ∀ (rs : List ResultVar) (K : List AV → Prop), resK P σ rs K →
    ∃ (us : List Value) (vs : List AV), (rs.mapM fun (x : ResultVar) => (match x with | .tmp t => pure (tmps.getD t undef) | .cell a t => do loadVar t (← asAddr (tmps.getD a undef)) : Sem Value)).run P w = .ok us w ∧ RepArgs G w vs us ∧ K vs
  | [], K, h => ⟨[], [], by simp, ⟨rfl, by simp⟩, h⟩
  | .tmp t :: r, K, h => by
    obtain ⟨us, vs, h1, h2, h3⟩ := resK_ok hi hr r _ h
    refine ⟨tmps.getD t undef :: us, nth σ.s t :: vs, ?_, ⟨by simp [h2.1], fun i a v ha hv => ?_⟩, h3⟩
    · rw [List.mapM_cons, Sem.run_bind]
      simp only [Sem.run_pure, Result.andThen_ok]
      rw [Sem.run_bind, h1]
      rfl
    · cases i with
      | zero => simp at ha; rw [← ha]; simp only [List.getElem?_cons_zero, Option.some.injEq] at hv; rw [← hv]; exact hr t
      | succ i => exact h2.2 i a v (by simpa using ha) (by simpa using hv)
  | .cell p t :: r, K, h => by
    obtain ⟨v, y, g1, g2, g3⟩ := exLoad_ok h hi (hr p)
    obtain ⟨us, vs, h1, h2, h3⟩ := resK_ok hi hr r _ g3
    have hrun : (do loadVar t (← asAddr (tmps.getD p undef)) : Sem Value).run P w = .ok y w := by
      have hp := hr p
      generalize tmps.getD p undef = pv at g1 hp ⊢
      unfold resK exLoad at h
      generalize nth σ.s p = av at hp h
      cases hp with
      | ptr l off b o hb h0 => simpa [Instr.loadAt, Instr.sureAddr, asAddr] using g1
      | ept cs b o hb => simpa [Instr.loadAt, Instr.sureAddr, asAddr] using g1
      | _ => exact h.elim
    refine ⟨y :: us, v :: vs, ?_, ⟨by simp [h2.1], fun i a u ha hu => ?_⟩, h3⟩
    · rw [List.mapM_cons, Sem.run_bind, hrun]
      simp only [Result.andThen_ok]
      rw [Sem.run_bind, h1]
      rfl
    · cases i with
      | zero => simp at ha hu; rw [← ha, ← hu]; exact g2
      | succ i => exact h2.2 i a u (by simpa using ha) (by simpa using hu)

theorem resV_rep {G : Gh} {w : World} {vs : List AV} {us : List Value} (h : RepArgs G w vs us) : RepA G w (resV vs) (if hs : us.toArray.size = 1 then us.toArray[0] else .tuple us.toArray) := by
  obtain ⟨h1, h2⟩ := h
  match vs, us, h1 with
  | [v], [u], _ => exact h2 0 v u rfl rfl
  | [], [], _ => exact .tup [] [] rfl (by simp)
  | v :: v2 :: vs, u :: u2 :: us, hl => exact .tup _ (u :: u2 :: us) hl h2

def shutW : List Nat → World → World
  | [], w => w
  | D :: r, w => shutW r (w.putObj D (.deferred none))

theorem shutW_inv {E : Env} {G : Gh} {m : AH} : ∀ (Ds : List Nat) (w : World), Inv E G m w → (∀ D ∈ Ds, E.w0.heap.size ≤ D ∧ G.who D = none ∧ ∀ j, ¬ G.st D j) → Inv E G m (shutW Ds w) ∧ Ext G w G (shutW Ds w)
  | [], w, h, _ => ⟨h, Ext.refl G w⟩
  | D :: r, w, h, hD => by
    obtain ⟨h1, h2, h3⟩ := hD D (List.mem_cons_self ..)
    obtain ⟨k1, k2⟩ := h.putObj (.deferred none) (.inr h1) h2 h3
    obtain ⟨g1, g2⟩ := shutW_inv r _ k1 (fun D' h' => hD D' (List.mem_cons_of_mem _ h'))
    exact ⟨g1, k2.trans g2⟩

theorem marks_ok {P : Program} {fn : Func} {tmps : Array Value} {R : Ending → World → Prop} : ∀ (Ds : List Nat) (w : World), Ds.Nodup → (∀ D ∈ Ds, w.heap[D]? = some (.deferred (some []))) →
    (∃ v, (results fn tmps).run P (shutW Ds w) = .ok v (shutW Ds w) ∧ R (.returned v) (shutW Ds w)) → LeavesInM Fence.wide 0 P fn tmps R (Ds.map mark) .returning w
  | [], w, _, _, h => h
  | D :: r, w, hn, hD, h => by
    obtain ⟨n1, n2⟩ := List.nodup_cons.1 hn
    have hd := hD D (List.mem_cons_self ..)
    refine ⟨by simp, .inl ⟨D, _, rfl, run_takeDeferred hd, marks_ok r _ n2 (fun D' h' => ?_) h⟩⟩
    exact (World.putObj_heap_other (fun e => n1 (by rw [← e]; exact h'))).trans (hD D' (List.mem_cons_of_mem _ h'))

/-- The frame of a function, at its beginning. -/
def Env.top (E : Env) : Prop := E.rd = none ∧ E.lk = [] ∧ ¬ E.fl

def bodyG (P : Program) (rs : List ResultVar) (kk : AH → List AV → Prop) : Exit → AS → Prop
  | .normal, σ => resK P σ rs (kk σ.m)
  | .ret, σ => resK P σ rs (kk σ.m)
  | _, _ => False

theorem enter_st {E : Env} {G0 : Gh} {m0 : AH} {w : World} {as : List AV} {vs : List Value} {n : Nat} (hds : E.ds = []) (hInv : Inv E G0 m0 w) (hrep : RepArgs G0 w as vs) :
    St E ⟨as ++ List.replicate (n - as.length) undefA, m0⟩ { tmps := vs.toArray ++ Array.replicate (n - vs.toArray.size) undef, defers := [] } w := by
  refine ⟨G0, hInv, by simp [hrep.1], hds.symm, fun t => ?_⟩
  by_cases ht : t < as.length
  · have h1 := List.getElem?_eq_getElem ht
    have h2 : t < vs.length := by rw [hrep.1]; exact ht
    have e1 : nth (as ++ List.replicate (n - as.length) undefA) t = as[t] := by
      have := nth_lt (l := as ++ List.replicate (n - as.length) undefA) (n := t) (by simp; omega)
      rw [List.getElem?_append_left ht, h1] at this
      exact (Option.some.inj this).symm
    have e2 : (vs.toArray ++ Array.replicate (n - vs.toArray.size) undef).getD t undef = vs[t] := by
      rw [Array.getD_eq_getD_getElem?, Array.getElem?_append_left (by simpa using h2)]
      simp [h2]
    rw [e1, e2]
    exact hrep.2 t _ _ h1 (List.getElem?_eq_getElem h2)
  · have e1 : nth (as ++ List.replicate (n - as.length) undefA) t = undefA := by
      by_cases ht2 : t < (as ++ List.replicate (n - as.length) undefA).length
      · have := nth_lt ht2
        rw [List.getElem?_append_right (by omega), List.getElem?_replicate] at this
        split at this
        · exact (Option.some.inj this).symm
        · cases this
      · exact nth_ge (by omega)
    have e2 : (vs.toArray ++ Array.replicate (n - vs.toArray.size) undef).getD t undef = undef := by
      rw [Array.getD_eq_getD_getElem?, Array.getElem?_append_right (by simp [hrep.1]; omega), Array.getElem?_replicate]
      split <;> rfl
    rw [e1, e2]
    exact .raw _

/-- A function's body: its walk, and what is said of what it hands back. -/
theorem body_walk {P : Program} {f : Nat} {fn : Func} {c : Code} {E : Env} {G0 : Gh} {m0 : AH} {w : World} {as : List AV} {vs : List Value} {R : Ending → World → Prop} {kk : AH → List AV → Prop} (hf : P.funcs[f]? = some fn) (hb : fn.body = some c)
    (hlk : E.lk = []) (hds : E.ds = []) (hrd : E.rd = none) (hT : TabsOk P E) (hInv : Inv E G0 m0 w) (hrep : RepArgs G0 w as vs)
    (h : AW P E c (bodyG P fn.results.toList kk) ⟨as ++ List.replicate (fn.ntmps - as.length) undefA, m0⟩)
    (fin : ∀ (G : Gh) (m : AH) (w' : World) (us : List Value) (vs2 : List AV), Inv E G m w' → RepArgs G w' vs2 us → kk m vs2 → R (.returned (if hs : us.toArray.size = 1 then us.toArray[0] else .tuple us.toArray)) w') :
    Calls P f vs.toArray w R := by
  refine (callsIn_wide (n := 0)).1 (callsIn_of_wp_marks hf hb trivial ?_ rfl)
  have hw := h hT E _ _ (Sub.self hlk) (enter_st (n := fn.ntmps) hds hInv hrep)
  rw [hrd] at hw
  refine wpIn_mono hw ?_
  rintro e a' w' ⟨A, σ, hs, ⟨G, hi, hsz, hd, hr⟩, hq⟩
  have last : resK P σ fn.results.toList (kk σ.m) → LeavesInM Fence.wide 0 P fn a'.tmps R a'.defers .returning w' := by
    intro hk
    obtain ⟨Ds, d1, d2, d3, d4, _⟩ := hs.lk
    rw [hds, List.append_nil] at d1
    rw [hlk, List.append_nil] at d2
    have hmem : ∀ D ∈ Ds, shut D ∈ A.lk := fun D hD => by rw [d2]; exact List.mem_map_of_mem hD
    obtain ⟨g1, g2⟩ := shutW_inv Ds w' (hs.inv _ _ _ hi.free) (fun D hD => ⟨d4 D hD, hs.free (hmem D hD), (hs.there hi (hmem D hD)).2.2⟩)
    rw [hd, d1]
    refine marks_ok Ds w' d3 (fun D hD => (hs.there hi (hmem D hD)).2.1) ?_
    have hr2 : ∀ t, RepA (G.free A) (shutW Ds w') (nth σ.s t) (a'.tmps.getD t undef) := fun t => ((hr t).ext (G.free_ext A w')).ext g2
    obtain ⟨us, rs, h1, h2, h3⟩ := resK_ok g1 hr2 _ _ hk
    refine ⟨_, ?_, fin _ _ _ _ _ g1 h2 h3⟩
    rw [← Array.toList_mapM, Sem.run_map] at h1
    generalize hX : Sem.run P (Array.mapM _ fn.results) (shutW Ds w') = X at h1
    have h5 : X = .ok us.toArray (shutW Ds w') := by
      cases X with
      | ok a w2 =>
        simp only [Result.andThen_ok, Result.ok.injEq] at h1
        obtain ⟨e1, rfl⟩ := h1
        congr 1
        apply Array.ext'
        simp [e1]
      | halt x w2 => cases h1
    rw [h5] at hX
    unfold results
    rw [Sem.run_bind]
    erw [hX]
    rfl
  cases e with
  | normal => exact last hq
  | ret => exact last hq
  | _ => exact hq.elim

/-- How a call without a share in the caller's memory begins. -/
theorem start_inv {st : Nat → Nat → Prop} {w : World} (hst : ∀ b o, st b o → b < w.heap.size) : Inv ⟨w, fun _ => False, gh0 st, none, [], []⟩ (gh0 st) emptyH w := by
  refine ⟨⟨rfl, rfl, rfl, Nat.le_refl _, fun _ _ _ => rfl⟩, fun l cs hc => ?_, fun _ _ _ => rfl, fun i hi => hi.elim, fun i hi => hi.elim, rfl, fun b hb => ⟨rfl, fun j hs => ?_⟩, Ext.refl _ _, fun b o hs _ => .inl hs⟩
  · cases l <;> simp [emptyH, AH.cells, hget] at hc
  · have := hst b j hs; omega

/-- A function's body, once for all worlds, walked in steps. -/
theorem PCall.of_bodyR {P : Program} {f : Nat} {fn : Func} {c : Code} {as : List AV} {R : AH → AV → Prop} {n : Nat} {rs : List ResultVar} (hf : P.funcs[f]? = some fn) (hb : fn.body = some c) (hn : fn.ntmps = n) (hrs : fn.results.toList = rs)
    (h : ∀ E, E.top → AW P E c (bodyQ P rs R) ⟨as ++ List.replicate (n - as.length) undefA, emptyH⟩) : PCall P f as R := by
  subst hn hrs
  unfold PCall
  intro st w vs hlaid hst hrep
  refine body_walk (kk := kBody R) hf hb rfl rfl rfl hlaid.kept (start_inv hst) hrep (AW_mono (h _ ⟨rfl, rfl, fun x => x⟩) fun e σ hq => ?_) ?_
  · cases e <;> exact hq
  · rintro G m w' us vs2 hi h2 ⟨h3, h4⟩
    exact ⟨_, _, G, m, rfl, hi, resV_rep h2, h3, h4⟩

/-- As of_bodyR, where variables are named anew on the way. -/
theorem PCall.of_bodyN {P : Program} {f : Nat} {fn : Func} {c : Code} {as : List AV} {R : AH → AV → Prop} {n : Nat} {rs : List ResultVar} (hf : P.funcs[f]? = some fn) (hb : fn.body = some c) (hn : fn.ntmps = n) (hrs : fn.results.toList = rs)
    (h : ∀ E, Env.fl E ∧ (∀ t g, E.g0.bx (.own t g) = none) → AW P E c (bodyQ P rs R) ⟨as ++ List.replicate (n - as.length) undefA, emptyH⟩) : PCall P f as R := by
  subst hn hrs
  unfold PCall
  intro st w vs hlaid hst hrep
  refine body_walk (E := Env.free ⟨w, fun _ => False, gh0 st, none, [], []⟩) (kk := kBody R) hf hb rfl rfl rfl hlaid.kept.freed (start_inv hst).freed hrep (AW_mono (h _ ⟨Env.free_fl _, fun _ _ => rfl⟩) fun e σ hq => ?_) ?_
  · cases e <;> exact hq
  · rintro G m w' us vs2 hi h2 ⟨h3, h4⟩
    exact ⟨_, _, G, m, rfl, hi.unfreed, resV_rep h2, h3, h4⟩

/-- A function's body, once for all worlds. -/
theorem PCall.of_body {P : Program} {f : Nat} {fn : Func} {c : Code} {as : List AV} {R : AH → AV → Prop} {n : Nat} {rs : List ResultVar} (hf : P.funcs[f]? = some fn) (hb : fn.body = some c) (hn : fn.ntmps = n) (hrs : fn.results.toList = rs)
    (h : ∀ E, exC P E c ⟨as ++ List.replicate (n - as.length) undefA, emptyH⟩ (bodyQ P rs R)) : PCall P f as R := PCall.of_bodyR hf hb hn hrs fun E _ => exC_ok c _ _ (h E)

def kBodyW (R : AH → AV → Prop) (m : AH) (vs : List AV) : Prop := R m (resV vs)

def bodyQW (P : Program) (rs : List ResultVar) (R : AH → AV → Prop) : Exit → AS → Prop
  | .normal, σ => resK P σ rs (kBodyW R σ.m)
  | .ret, σ => resK P σ rs (kBodyW R σ.m)
  | _, _ => False

/-- The body of a function that may write what it is handed, walked in steps. -/
theorem QCall.of_bodyR {P : Program} {f : Nat} {fn : Func} {c : Code} {m0 : AH} {as : List AV} {R : AH → AV → Prop} {n : Nat} {rs : List ResultVar} (hf : P.funcs[f]? = some fn) (hb : fn.body = some c) (hn : fn.ntmps = n) (hrs : fn.results.toList = rs)
    (h : ∀ E, E.top → AW P E c (bodyQW P rs R) ⟨as ++ List.replicate (n - as.length) undefA, m0⟩) : QCall P f m0 as R := by
  subst hn hrs
  unfold QCall
  intro E G0 w vs hT hw0 hg0 hInv hrep
  refine body_walk (E := E.trim) (kk := kBodyW R) hf hb rfl rfl rfl hT.trim hInv.trim hrep (AW_mono (h _ ⟨rfl, rfl, E.trim_nofl⟩) fun e σ hq => ?_) ?_
  · cases e <;> exact hq
  · rintro G m w' us vs2 hi h2 h4
    exact ⟨_, _, G, m, rfl, hi.untrim, resV_rep h2, h4⟩

/-- A frame whose own variables may be named anew. -/
def Env.new (E : Env) : Prop := E.fl ∧ ∀ t g, E.g0.bx (.own t g) = none

/-- As of_bodyR, where variables are named anew on the way. -/
theorem QCall.of_bodyN {P : Program} {f : Nat} {fn : Func} {c : Code} {m0 : AH} {as : List AV} {R : AH → AV → Prop} {n : Nat} {rs : List ResultVar} (hf : P.funcs[f]? = some fn) (hb : fn.body = some c) (hn : fn.ntmps = n) (hrs : fn.results.toList = rs) (hh : m0.h = [])
    (h : ∀ E, E.new → AW P E c (bodyQW P rs R) ⟨as ++ List.replicate (n - as.length) undefA, m0⟩) : QCall P f m0 as R := by
  subst hn hrs
  unfold QCall
  intro E G0 w vs hT hw0 hg0 hInv hrep
  refine body_walk (E := E.free) (kk := kBodyW R) hf hb rfl rfl rfl hT.freed hInv.freed hrep (AW_mono (h _ ⟨E.free_fl, fun t g => ?_⟩) fun e σ hq => ?_) ?_
  · show E.g0.bx _ = none
    rw [hg0]
    exact hInv.gen t g (.inl (by rw [hh]; rfl))
  · cases e <;> exact hq
  · rintro G m w' us vs2 hi h2 h4
    exact ⟨_, _, G, m, rfl, hi.unfreed, resV_rep h2, h4⟩

/-- The body of a function that may write what it is handed. -/
theorem QCall.of_body {P : Program} {f : Nat} {fn : Func} {c : Code} {m0 : AH} {as : List AV} {R : AH → AV → Prop} {n : Nat} {rs : List ResultVar} (hf : P.funcs[f]? = some fn) (hb : fn.body = some c) (hn : fn.ntmps = n) (hrs : fn.results.toList = rs)
    (h : ∀ E, exC P E c ⟨as ++ List.replicate (n - as.length) undefA, m0⟩ (bodyQW P rs R)) : QCall P f m0 as R := QCall.of_bodyR hf hb hn hrs fun E _ => exC_ok c _ _ (h E)

section
variable {P : Program} {E : Env} {σ : AS} {Q : Exit → AS → Prop} {K : AS → Prop}
@[go_sem] theorem exC_skip : exC P E .skip σ Q = Q .normal σ := (rfl)
@[go_sem] theorem exC_region {id : Nat} {ops : Array Oper} : exC P E (.region id ops false) σ Q = exOps P ops ops.toList σ (Q .normal) := (rfl)
@[go_sem] theorem exC_draw {id : Nat} {ops : Array Oper} : exC P E (.region id ops true) σ Q = AW P E (.region id ops true) Q σ := (rfl)
@[go_sem] theorem exC_seq {a b : Code} : exC P E (.seq a b) σ Q = exC P E a σ (thenQ (kCode (exC P E b) Q) Q) := (rfl)
def condK (v : AV) (x y : Prop) : Prop := match v with
  | .bool t => (t = true → x) ∧ (t = false → y)
  | _ => False
@[go_sem] theorem condK_bool {t : Bool} {x y : Prop} : condK (.bool t) x y = gate t x y := (rfl)
theorem exC_cond {c : Operand} {a b : Code} : exC P E (.cond c a b) σ Q = condK (σ.ev P 0 c) (exC P E a σ Q) (exC P E b σ Q) := by
  simp only [exC]
  generalize σ.ev P 0 c = v
  cases v <;> rfl
@[congr] theorem condK_congr {v v' : AV} {x y : Prop} (h : v = v') : condK v x y = condK v' x y := by rw [h]
@[go_sem] theorem exC_block {id : Nat} {c : Code} : exC P E (.block id c) σ Q = exC P E c σ (blockQ id Q) := (rfl)
@[go_sem] theorem exC_exit {id : Nat} : exC P E (.exit id) σ Q = Q (.exit id) σ := (rfl)
@[go_sem] theorem exC_ret : exC P E .ret σ Q = Q .ret σ := (rfl)
@[go_sem] theorem exC_loop {c : Code} : exC P E (.loop c) σ Q = AW P E (.loop c) Q σ := (rfl)
@[go_sem] theorem exC_scope {c : Code} : exC P E (.scope c) σ Q = AW P E (.scope c) Q σ := (rfl)
@[go_sem] theorem exOps_nil {ops : Array Oper} : exOps P ops [] σ K = K σ := (rfl)
@[go_sem] theorem exOps_cons {ops : Array Oper} {o : Oper} {r : List Oper} : exOps P ops (o :: r) σ K = exG P ops o σ (kOps (exOps P ops r) K) := (rfl)
end
attribute [go_sem] exC_cond
attribute [irreducible] exC exOps exG AW

end Go.AB

/- How abstract states are reckoned with: the rules by which the steps unfold, and what they leave alone. -/
namespace Go.AB

theorem rfl_of_partTy {P : Program} {t e i : Nat} (h : (match P.underlying t with | some (.slice x) => some x | _ => none) = some e) : partTy P t i = e := by
  unfold partTy
  split at h
  · rename_i x hx; cases h; rw [hx]
  · cases h

section
variable {P : Program} {E : Env}
@[congr] theorem exC_congr {c : Code} {σ σ' : AS} {Q : Exit → AS → Prop} (h : σ = σ') : exC P E c σ Q = exC P E c σ' Q := by rw [h]
@[congr] theorem exOps_congr {ops : Array Oper} {l : List Oper} {σ σ' : AS} {K : AS → Prop} (h : σ = σ') : exOps P ops l σ K = exOps P ops l σ' K := by rw [h]
@[congr] theorem exG_congr {ops : Array Oper} {o : Oper} {σ σ' : AS} {K : AS → Prop} (h : σ = σ') : exG P ops o σ K = exG P ops o σ' K := by rw [h]
@[congr] theorem exOp_congr {o : Oper} {σ σ' : AS} {K : AS → Prop} (h : σ = σ') : exOp P o σ K = exOp P o σ' K := by rw [h]
@[congr] theorem AW_congr {c : Code} {σ σ' : AS} {Q : Exit → AS → Prop} (h : σ = σ') : AW P E c Q σ = AW P E c Q σ' := by rw [h]
@[congr] theorem thenQ_congr {f : AS → Prop} {Q : Exit → AS → Prop} {e : Exit} {σ σ' : AS} (h : σ = σ') : thenQ f Q e σ = thenQ f Q e σ' := by rw [h]
@[congr] theorem blockQ_congr {id : Nat} {Q : Exit → AS → Prop} {e : Exit} {σ σ' : AS} (h : σ = σ') : blockQ id Q e σ = blockQ id Q e σ' := by rw [h]
@[congr] theorem bodyQ_congr {rs : List ResultVar} {R : AH → AV → Prop} {e : Exit} {σ σ' : AS} (h : σ = σ') : bodyQ P rs R e σ = bodyQ P rs R e σ' := by rw [h]
@[congr] theorem resK_congr {rs : List ResultVar} {K : List AV → Prop} {σ σ' : AS} (h : σ = σ') : resK P σ rs K = resK P σ' rs K := by rw [h]
@[congr] theorem ldA_congr {ty : Option (Bool × Nat)} {cs cs' : List AV} {K : AV → Prop} (h : cs = cs') {ty' : Option (Bool × Nat)} (h2 : ty = ty') : ldA ty cs K = ldA ty' cs' K := by rw [h, h2]
@[congr] theorem exLoad_congr {m m' : AH} {t : Nat} {a a' : AV} {K : AV → Prop} (h : m = m') (h2 : a = a') : exLoad P m t a K = exLoad P m' t a' K := by rw [h, h2]
@[congr] theorem exStore_congr {m m' : AH} {t : Nat} {a a' x x' : AV} {K : AH → Prop} (h : m = m') (h2 : a = a') (h3 : x = x') : exStore P m t a x K = exStore P m' t a' x' K := by rw [h, h2, h3]
@[congr] theorem exField_congr {s f : Nat} {a a' : AV} {K : AV → Prop} (h2 : a = a') : exField P s a f K = exField P s a' f K := by rw [h2]
@[congr] theorem exIndexAddr_congr {t : Nat} {a a' i i' : AV} {K : AV → Prop} (h2 : a = a') (h3 : i = i') : exIndexAddr P t a i K = exIndexAddr P t a' i' K := by rw [h2, h3]
@[congr] theorem exBin_congr {op : BinOp} {t : Nat} {a a' i i' : AV} {K : AV → Prop} (h2 : a = a') (h3 : i = i') : exBin P op t a i K = exBin P op t a' i' K := by rw [h2, h3]
@[congr] theorem exBinN_congr {op : BinOp} {t : Nat} {a a' i i' : AV} {K : AV → Prop} (h2 : a = a') (h3 : i = i') : exBinN P op t a i K = exBinN P op t a' i' K := by rw [h2, h3]
@[congr] theorem exBinO_congr {op : BinOp} {t : Nat} {yo : Operand} {a a' i i' : AV} {K : AV → Prop} (h2 : a = a') (h3 : i = i') : exBinO P op t yo a i K = exBinO P op t yo a' i' K := by rw [h2, h3]
@[congr] theorem eqA_congr {ks : List CK} {a a' i i' : List AV} {K : Bool → Prop} (h2 : a = a') (h3 : i = i') : eqA ks a i K = eqA ks a' i' K := by rw [h2, h3]
@[congr] theorem exUn_congr {op : UnOp} {a a' : AV} {K : AV → Prop} (h2 : a = a') : exUn op a K = exUn op a' K := by rw [h2]
@[congr] theorem exConv_congr {s d : Nat} {a a' : AV} {K : AV → Prop} (h2 : a = a') : exConv P s d a K = exConv P s d a' K := by rw [h2]
@[congr] theorem exConvB_congr {s d : Nat} {a a' : AV} {K : AV → Prop} (h2 : a = a') : exConvB P s d a K = exConvB P s d a' K := by rw [h2]
@[congr] theorem exBytes_congr {s : Nat} {a a' : AV} {K : AV → Prop} (h2 : a = a') : exBytes P s a K = exBytes P s a' K := by rw [h2]
@[congr] theorem exFieldV_congr {s f : Nat} {a a' : AV} {K : AV → Prop} (h2 : a = a') : exFieldV P s a f K = exFieldV P s a' f K := by rw [h2]
@[congr] theorem partA_congr {off n : Nat} {g : Bool} {cs cs' : List AV} {K : AV → Prop} (h : cs = cs') {off' : Nat} (h2 : off = off') : partA off g n cs K = partA off' g n cs' K := by rw [h, h2]
@[congr] theorem exIndexV_congr {t : Nat} {a a' i i' : AV} {K : AV → Prop} (h2 : a = a') (h3 : i = i') : exIndexV P t a i K = exIndexV P t a' i' K := by rw [h2, h3]
@[congr] theorem exLen_congr {t : Nat} {a a' : AV} {K : AV → Prop} (h2 : a = a') : exLen P t a K = exLen P t a' K := by rw [h2]
@[congr] theorem exMM_congr {mx : Bool} {a a' : List AV} {K : AV → Prop} (h2 : a = a') : exMM mx a K = exMM mx a' K := by rw [h2]
@[congr] theorem mmA_congr {mx : Bool} {k : IntKind} {x : Int} {a a' : List AV} {K : AV → Prop} (h2 : a = a') : mmA mx k x a K = mmA mx k x a' K := by rw [h2]
@[congr] theorem exCut_congr {t : Nat} {a a' : AV} {lo lo' hi hi' : Option AV} {K : AV → Prop} (h2 : a = a') (h3 : lo = lo') (h4 : hi = hi') : exCut P t a lo hi K = exCut P t a' lo' hi' K := by rw [h2, h3, h4]
@[congr] theorem exAppend_congr {m m' : AH} {t t' : Nat} {s s' x x' : AV} {K : AH → AV → Prop} (h : m = m') (h2 : s = s') (h3 : x = x') : exAppend P m t t' s x K = exAppend P m' t t' s' x' K := by rw [h, h2, h3]
@[congr] theorem exLit_congr {m m' : AH} {t len : Nat} {ps ps' : List (Nat × AV)} {K : AH → AV → Prop} (h : m = m') (h2 : ps = ps') : exLit P m t len ps K = exLit P m' t len ps' K := by rw [h, h2]
@[congr] theorem exBuild_congr {t : Nat} {ps ps' : List (Nat × AV)} {K : AV → Prop} (h2 : ps = ps') : exBuild P t ps K = exBuild P t ps' K := by rw [h2]
@[congr] theorem exMake_congr {m m' : AH} {d : Option Nat} {t : Nat} {l l' c c' : AV} {K : AH → AV → Prop} (h : m = m') (h2 : l = l') (h3 : c = c') : exMake P m d t l c K = exMake P m' d t l' c' K := by rw [h, h2, h3]
@[congr] theorem exPick_congr {c c' a a' b b' : AV} {K : AV → Prop} (h : c = c') (h2 : a = a') (h3 : b = b') : exPick c a b K = exPick c' a' b' K := by rw [h, h2, h3]
@[congr] theorem exExtract_congr {a a' : AV} {i : Nat} {K : AV → Prop} (h : a = a') : exExtract a i K = exExtract a' i K := by rw [h]
@[congr] theorem exCall_congr {c : Call} {σ σ' : AS} {d : Option Nat} {K : AS → Prop} (h : σ = σ') : exCall P c σ d K = exCall P c σ' d K := by rw [h]
@[congr] theorem exBuiltin_congr {b : Builtin} {ts : Array Nat} {as as' : List AV} {σ σ' : AS} {d : Option Nat} {K : AS → Prop} (h : as = as') (h2 : σ = σ') : exBuiltin P b ts as σ d K = exBuiltin P b ts as' σ' d K := by rw [h, h2]
@[congr] theorem quietK_congr {k : Nat} {as as' : List AV} {σ σ' : AS} {d : Option Nat} {K : AS → Prop} (h : as = as') (h2 : σ = σ') : quietK P k as σ d K = quietK P k as' σ' d K := by rw [h, h2]
@[congr] theorem callK_congr {σ σ' : AS} {d : Option Nat} {R : AH → AV → Prop} {K : AS → Prop} (h : σ = σ') : callK σ d R K = callK σ' d R K := by rw [h]
end


section
variable {P : Program} {E : Env}
theorem exG_eq {ops : Array Oper} {o : Oper} {σ : AS} {K : AS → Prop} : exG P ops o σ K = (match o.guard with
  | none => exOp P o σ K
  | some (j, want) => match (ops[j]?).bind (·.dst) with
    | some d => (match nth σ.s d with
      | .bool b => gateW want b (exOp P o (σ.put (some d) (.bool want)) K) (K ((σ.put (some d) (.bool !want)).put o.dst undefA))
      | .raw (.tuple _) => K (σ.put o.dst undefA)
      | _ => False)
    | none => False) := by unfold exG; exact (rfl)
theorem exOp_eq {o : Oper} {σ : AS} {K : AS → Prop} : exOp P o σ K = (match o.op with
  | .move x => K (σ.put o.dst (σ.ev P o.type x))
  | .assign x => K (σ.put o.dst (σ.ev P o.type x))
  | .pick c a b => exPick (σ.ev P 0 c) (σ.ev P o.type a) (σ.ev P o.type b) (kPut σ o.dst K)
  | .alloc t => match o.dst, bldT P t with
    | some d, some e => K (AS.put ⟨σ.s, σ.m.newBox d [.bld t e []]⟩ (some d) (.bref (.own d (gnext σ.m d))))
    | some d, none => match zeroA P t with
      | some zs => K (AS.put ⟨σ.s, σ.m.newBox d zs⟩ (some d) (.ptr (.own d (gnext σ.m d)) 0))
      | none => False
    | none, _ => False
  | .box t x => match o.dst with
    | some d => isCell (σ.ev P t x) = true ∧ K (AS.put ⟨σ.s, σ.m.newBox d (acells (σ.ev P t x))⟩ (some d) (.ptr (.own d (gnext σ.m d)) 0))
    | none => False
  | .build t ps => fsOk P t = true ∧ exBuild P t (evP P σ t ps) (kPut σ o.dst K)
  | .buildSlice t len ps => exLit P σ.m t len (evP P σ t ps) (kMem σ o.dst K)
  | .load t a => exLoad P σ.m t (σ.ev P 0 a) (kPut σ o.dst K)
  | .store t a x => exStore P σ.m t (σ.ev P 0 a) (σ.ev P t x) (kMem1 σ o.dst K)
  | .nilCheck x => nilOk (σ.ev P 0 x) = true ∧ K (σ.put o.dst (σ.ev P 0 x))
  | .binOp op t x y _ => exBinO P op t y (σ.ev P t x) (σ.ev P t y) (kPut σ o.dst K)
  | .unOp op t x => exUn op (σ.ev P t x) (kPut σ o.dst K)
  | .convert s d x => exConvB P s d (σ.ev P s x) (kPut σ o.dst K)
  | .makeInterface t x => concA P t = true ∧ K (σ.put o.dst (.iface t (σ.ev P t x)))
  | .makeFunc (.func f) first caps => first.toList.length = 0 ∧ K (σ.put o.dst (.fn f (caps.toList.map (σ.ev P 0))))
  | .makeSlice t l c => exMake P σ.m o.dst t (σ.ev P 0 l) (σ.ev P 0 c) (kMem σ o.dst K)
  | .slice t x lo hi none => exCut P t (σ.ev P t x) (lo.map (σ.ev P 0)) (hi.map (σ.ev P 0)) (kPut σ o.dst K)
  | .fieldAddr s x f => exField P s (σ.ev P 0 x) f (kPut σ o.dst K)
  | .field s x f => exFieldV P s (σ.ev P s x) f (kPut σ o.dst K)
  | .indexAddr t x i => exIndexAddr P t (σ.ev P t x) (σ.ev P 0 i) (kPut σ o.dst K)
  | .index t x i => exIndexV P t (σ.ev P t x) (σ.ev P 0 i) (kPut σ o.dst K)
  | .extract x i => exExtract (σ.ev P 0 x) i (kPut σ o.dst K)
  | .makeMap _ none => match o.dst with
    | some d => K (AS.put ⟨σ.s, σ.m.newBox d [.mapc [] []]⟩ (some d) (.mref (.own d (gnext σ.m d))))
    | none => False
  | .lookup t x k ok => exLookup P σ.m t (σ.ev P t x) (σ.ev P 0 k) ok (kPut σ o.dst K)
  | .mapUpdate t x k v => exUpdate P σ.m t (σ.ev P t x) (σ.ev P 0 k) (σ.ev P 0 v) (kMem1 σ o.dst K)
  | .insert t x k v => exUpdate P σ.m t (σ.ev P t x) (σ.ev P 0 k) (σ.ev P 0 v) (kMem1 σ o.dst K)
  | .typeAssert x _ want ok => exAssert P want ok (σ.ev P 0 x) (kPut σ o.dst K)
  | .call c => exCall P c σ o.dst K
  | _ => False) := by unfold exOp; exact (rfl)
theorem exCall_eq {c : Call} {σ : AS} {dst : Option Nat} {K : AS → Prop} : exCall P c σ dst K = (match c.callee with
  | .builtin b => exBuiltin P b c.argTypes (evs P σ c.argTypes c.args) σ dst K
  | .value f => match fnOf (σ.ev P 0 f) with
    | some (k, caps) => bodyOk P k = true ∧ (match (evs P σ c.argTypes c.args ++ caps).any need with
      | false => ∃ as, stripL (evs P σ c.argTypes c.args ++ caps) = some as ∧ callX P k as (evs P σ c.argTypes c.args ++ caps) σ dst K
      | true => (∃ as, lendL σ.m (evs P σ c.argTypes c.args ++ caps) = some as ∧ quietK P k as σ dst K) ∨ effX P k (evs P σ c.argTypes c.args ++ caps) σ dst K)
    | none => False
  | _ => False) := by unfold exCall; exact (rfl)
@[congr] theorem effK_congr {k : Nat} {as as' : List AV} {σ σ' : AS} {d : Option Nat} {K : AS → Prop} (h : as = as') (h2 : σ = σ') : effK P k as σ d K = effK P k as' σ' d K := by rw [h, h2]
@[congr] theorem callX_congr {k : Nat} {as as' bs bs' : List AV} {σ σ' : AS} {d : Option Nat} {K : AS → Prop} (h : as = as') (h1 : bs = bs') (h2 : σ = σ') : callX P k as bs σ d K = callX P k as' bs' σ' d K := by rw [h, h1, h2]
@[congr] theorem effX_congr {k : Nat} {as as' : List AV} {σ σ' : AS} {d : Option Nat} {K : AS → Prop} (h : as = as') (h2 : σ = σ') : effX P k as σ d K = effX P k as' σ' d K := by rw [h, h2]
@[congr] theorem inlK_congr {k : Nat} {as as' : List AV} {σ σ' : AS} {d : Option Nat} {K : AS → Prop} (h : as = as') (h2 : σ = σ') : inlK P k as σ d K = inlK P k as' σ' d K := by rw [h, h2]
@[congr] theorem exLookup_congr {m m' : AH} {t : Nat} {x x' k k' : AV} {ok : Bool} {K : AV → Prop} (h : m = m') (h2 : x = x') (h3 : k = k') : exLookup P m t x k ok K = exLookup P m' t x' k' ok K := by rw [h, h2, h3]
@[congr] theorem exAssert_congr {want : Nat} {ok : Bool} {x x' : AV} {K : AV → Prop} (h : x = x') : exAssert P want ok x K = exAssert P want ok x' K := by rw [h]
@[congr] theorem exUpdate_congr {m m' : AH} {t : Nat} {x x' k k' v v' : AV} {K : AH → Prop} (h : m = m') (h2 : x = x') (h3 : k = k') (h4 : v = v') : exUpdate P m t x k v K = exUpdate P m' t x' k' v' K := by rw [h, h2, h3, h4]
@[congr] theorem lookC_congr {t : Nat} {cs cs' : List AV} {k k' : AV} {ok : Bool} {K : AV → Prop} (h2 : cs = cs') (h3 : k = k') : lookC P t cs k ok K = lookC P t cs' k' ok K := by rw [h2, h3]
@[congr] theorem upC_congr {t : Nat} {m m' : AH} {l l' : Loc} {cs cs' : List AV} {k k' v v' : AV} {K : AH → Prop} (h : m = m') (h1 : l = l') (h2 : cs = cs') (h3 : k = k') (h4 : v = v') : upC P t m l cs k v K = upC P t m' l' cs' k' v' K := by rw [h, h1, h2, h3, h4]
@[congr] theorem mgK_congr {ok : Bool} {z : AV} {r r' : Option AV} {K : AV → Prop} (h : r = r') : mgK ok z K r = mgK ok z K r' := by rw [h]
theorem mgK_some {ok : Bool} {z v : AV} {K : AV → Prop} : mgK ok z K (some v) = K (okV ok v true) := (rfl)
theorem mgK_none {ok : Bool} {z : AV} {K : AV → Prop} : mgK ok z K none = K (okV ok z false) := (rfl)
theorem okV_t {v : AV} {b : Bool} : okV true v b = .tup [v, .bool b] := (rfl)
theorem okV_f {v : AV} {b : Bool} : okV false v b = v := (rfl)
theorem mget_nil {k : AV} {vs : List AV} : mget [] vs k = none := (rfl)
theorem mset_nil {k v : AV} {vs : List AV} : mset [] vs k v = ([k], [v]) := (rfl)
theorem mapP_eq {p : List AV × List AV} : mapP p = .mapc p.1 p.2 := (rfl)
attribute [go_sem] exAssert asK rawA
attribute [go_sem] mgK_some mgK_none okV_t okV_f mget_nil mset_nil mapP_eq exLookup exUpdate lookC upC
theorem kPut_eq {σ : AS} {dst : Option Nat} {K : AS → Prop} {v : AV} : kPut σ dst K v = (K (σ.put dst v)) := (rfl)
theorem kMem_eq {σ : AS} {dst : Option Nat} {K : AS → Prop} {m : AH} {v : AV} : kMem σ dst K m v = (K (AS.put ⟨σ.s, m⟩ dst v)) := (rfl)
theorem kMem1_eq {σ : AS} {dst : Option Nat} {K : AS → Prop} {m : AH} : kMem1 σ dst K m = (K (AS.put ⟨σ.s, m⟩ dst undefA)) := (rfl)
theorem kOps_eq {f : AS → (AS → Prop) → Prop} {K : AS → Prop} {σ : AS} : kOps f K σ = (f σ K) := (rfl)
theorem kCode_eq {f : AS → (Exit → AS → Prop) → Prop} {Q : Exit → AS → Prop} {σ : AS} : kCode f Q σ = (f σ Q) := (rfl)
theorem nth_zero {a : AV} {l : List AV} : nth (a :: l) 0 = a := (rfl)
theorem nth_succ {a : AV} {l : List AV} {n : Nat} : nth (a :: l) (n + 1) = nth l n := (rfl)
theorem set_zero {a v : AV} {l : List AV} : (a :: l).set 0 v = v :: l := (rfl)
theorem set_succ {a v : AV} {l : List AV} {n : Nat} : (a :: l).set (n + 1) v = a :: l.set n v := (rfl)
theorem put_some {σ : AS} {d : Nat} {v : AV} : σ.put (some d) v = ⟨σ.s.set d v, σ.m⟩ := (rfl)
theorem put_none {σ : AS} {v : AV} : σ.put none v = σ := (rfl)
theorem kAnd_eq {b r : Bool} {K : Bool → Prop} : kAnd b K r = K (b && r) := (rfl)
theorem kBool_eq {r : Bool} {K : AV → Prop} : kBool K r = K (.bool r) := (rfl)
theorem kNBool_eq {r : Bool} {K : AV → Prop} : kNBool K r = K (.bool (!r)) := (rfl)
theorem kCons_eq {v : AV} {K : List AV → Prop} {vs : List AV} : kCons v K vs = K (v :: vs) := (rfl)
theorem kRes_eq {f : (List AV → Prop) → Prop} {K : List AV → Prop} {v : AV} : kRes f K v = f (kCons v K) := (rfl)
theorem kBody_eq {R : AH → AV → Prop} {m : AH} {vs : List AV} : kBody R m vs = (port (resV vs) = true ∧ R m (resV vs)) := (rfl)
section
variable {f : AS → Prop} {Q : Exit → AS → Prop} {σ : AS} {id id' : Nat} {rs : List ResultVar} {R : AH → AV → Prop}
theorem thenQ_normal : thenQ f Q .normal σ = f σ := (rfl)
theorem thenQ_exit : thenQ f Q (.exit id) σ = Q (.exit id) σ := (rfl)
theorem thenQ_ret : thenQ f Q .ret σ = Q .ret σ := (rfl)
theorem blockQ_exit : blockQ id Q (.exit id') σ = (if id' = id then Q .normal σ else Q (.exit id') σ) := (rfl)
theorem blockQ_normal : blockQ id Q .normal σ = Q .normal σ := (rfl)
theorem blockQ_ret : blockQ id Q .ret σ = Q .ret σ := (rfl)
theorem bodyQ_normal {P : Program} : bodyQ P rs R .normal σ = resK P σ rs (kBody R σ.m) := (rfl)
theorem bodyQ_ret {P : Program} : bodyQ P rs R .ret σ = resK P σ rs (kBody R σ.m) := (rfl)
theorem bodyQW_normal {P : Program} : bodyQW P rs R .normal σ = resK P σ rs (kBodyW R σ.m) := (rfl)
theorem bodyQW_ret {P : Program} : bodyQW P rs R .ret σ = resK P σ rs (kBodyW R σ.m) := (rfl)
theorem kBodyW_eq {m : AH} {vs : List AV} : kBodyW R m vs = R m (resV vs) := (rfl)
theorem resK_nil {P : Program} {K : List AV → Prop} : resK P σ [] K = K [] := (rfl)
theorem resK_tmp {P : Program} {K : List AV → Prop} {t : Nat} {r : List ResultVar} : resK P σ (.tmp t :: r) K = resK P σ r (kCons (nth σ.s t) K) := (rfl)
theorem resK_cell {P : Program} {K : List AV → Prop} {a t : Nat} {r : List ResultVar} : resK P σ (.cell a t :: r) K = exLoad P σ.m t (nth σ.s a) (kRes (resK P σ r) K) := (rfl)
end
attribute [go_sem] bodyQW_normal bodyQW_ret kBodyW_eq kAnd_eq kBool_eq kNBool_eq kCons_eq kRes_eq kBody_eq thenQ_normal thenQ_exit thenQ_ret blockQ_exit blockQ_normal blockQ_ret bodyQ_normal bodyQ_ret resK_nil resK_tmp resK_cell
attribute [go_sem] nth_zero nth_succ set_zero set_succ put_some put_none
attribute [go_sem] exG_eq exOp_eq exCall_eq kPut_eq kMem_eq kMem1_eq kOps_eq kCode_eq
end

/-- The generation behind an entry's. -/
def genO : Option (Nat × List AV) → Nat
  | none => 0
  | some (g, _) => g + 1
theorem gnext_mk {h : List (Nat × Nat × List AV)} {o : List (List AV)} {nx : Nat} {lv : Nat → Prop} {t : Nat} : gnext ⟨h, o, nx, lv⟩ t = genO (hget h t) := by
  unfold gnext
  cases hget h t <;> rfl
theorem genO_none : genO none = 0 := (rfl)
theorem genO_some {g : Nat} {cs : List AV} : genO (some (g, cs)) = g + 1 := (rfl)
theorem hget_hset (h : List (Nat × Nat × List AV)) (t t' g : Nat) (cs : List AV) : hget (hset h t g cs) t' = if t = t' then some (g, cs) else hget h t' := by
  split
  · rename_i e; subst e; exact hget_set_self h t g cs
  · rename_i e; exact hget_set_ne h g cs e
attribute [go_sem] gnext_mk genO_none genO_some hget_hset
theorem okT_no {m : AH} : okT m .no = False := (rfl)
theorem okT_nil {m : AH} : okT m .nil = True := (rfl)
theorem okT_own {m : AH} {i : Nat} : okT m (.own i) = m.lv i := (rfl)
attribute [go_sem] okT_no okT_nil okT_own
theorem okT_mono {h h' : List (Nat × Nat × List AV)} {o o' : List (List AV)} {nx nx' : Nat} {lv lv' : Nat → Prop} {t : Tok} (k : okT ⟨h, o, nx, lv⟩ t) (hl : ∀ j, lv j → lv' j) : okT ⟨h', o', nx', lv'⟩ t := by
  cases t with
  | no => exact k
  | nil => exact k
  | own i => exact hl i k
section
variable {P : Program} {σ : AS} {t : Nat}
theorem ev_tmp {i : Nat} : AS.ev P σ t (.tmp i) = nth σ.s i := (rfl)
theorem ev_const {v : Value} : AS.ev P σ t (.const v) = constA P t v := (rfl)
theorem ev_global {g : Nat} : AS.ev P σ t (.global g) = .raw (.pointer (some { block := g, off := 0 })) := (rfl)
theorem ev_func {f : Nat} : AS.ev P σ t (.func f) = .fn f [] := (rfl)
end
/-- An element is reached: the rest is not looked at until the element is known. -/
def atK (o : Option DV) (K : AV → Prop) : Prop := ∃ e, o = some e ∧ K (.ept (dcells e))
@[congr] theorem atK_congr {o o' : Option DV} {K : AV → Prop} (h : o = o') : atK o K = atK o' K := by rw [h]
theorem atK_some {e : DV} {K : AV → Prop} : atK (some e) K = K (.ept (dcells e)) := by
  apply propext
  exact ⟨fun ⟨_, h, hk⟩ => by cases h; exact hk, fun hk => ⟨e, rfl, hk⟩⟩
def atC (o : Option UInt8) (K : AV → Prop) : Prop := ∃ c, o = some c ∧ K (.int .u8 (c.toNat : Int))
@[congr] theorem atC_congr {o o' : Option UInt8} {K : AV → Prop} (h : o = o') : atC o K = atC o' K := by rw [h]
theorem atC_some {c : UInt8} {K : AV → Prop} : atC (some c) K = K (.int .u8 (c.toNat : Int)) := by
  apply propext
  exact ⟨fun ⟨_, h, hk⟩ => by cases h; exact hk, fun hk => ⟨c, rfl, hk⟩⟩
section
variable {P : Program} {t : Nat} {K : AV → Prop}
theorem exIndexAddr_sl {z : Nat} {es : List DV} {tok : Tok} {k : IntKind} {n : Int} : exIndexAddr P t (.sl z es tok) (.int k n) K = (slA P t = some z ∧ 0 ≤ n ∧ atK es[n.toNat]? K) := (rfl)
theorem exIndexAddr_ptr {l : Loc} {o : Nat} {k : IntKind} {n : Int} : exIndexAddr P t (.ptr l o) (.int k n) K = (match arA P t with
    | some (len, z) => 0 ≤ n ∧ n < (len : Int) ∧ K (.ptr l (o + n.toNat * z))
    | none => False) := (rfl)
theorem exIndexAddr_msl {l : Loc} {o len cap : Nat} {k : IntKind} {n : Int} : exIndexAddr P t (.msl l o len cap) (.int k n) K = (match slA P t with
    | some z => 0 ≤ n ∧ n < (len : Int) ∧ K (.ptr l (o + n.toNat * z))
    | none => False) := (rfl)
theorem exIndexV_agg {cs : List AV} {k : IntKind} {n : Int} : exIndexV P t (.agg cs) (.int k n) K = (match avA P t with
    | some (len, g, z) => 0 ≤ n ∧ n < (len : Int) ∧ partA (n.toNat * z) g z cs K
    | none => False) := (rfl)
theorem exIndexV_str {s : List UInt8} {k : IntKind} {n : Int} : exIndexV P t (.str s) (.int k n) K = (strA P t = true ∧ 0 ≤ n ∧ atC s[n.toNat]? K) := (rfl)
end
attribute [go_sem] atK_some atC_some exIndexAddr_sl exIndexAddr_ptr exIndexAddr_msl exIndexV_agg exIndexV_str
attribute [go_sem] ev_tmp ev_const ev_global ev_func
attribute [go_sem] exLoad ldA exStore exField exBinO exBinN nilK exBin exBinInt eqA exUn exConv exConvB exBytes exFieldV partA exLen exMM mmA exCut exAppend exAppX_sl exAppX_msl exAppM exLit exBuild exMake exPick exExtract exBuiltin
  resV constA leafZ evs evP AH.cells AH.setCells AH.newBox AH.app hget hset spl acells dcells toAV toAVs toD1 toDs toDV toDVs isCell fillA bndA nilOk strip strip1 strip1L stripL fnOf toDF toDFs mslD srcA lend1 lend1L lend lendL need need1 plain plainA plain1 List.any_cons List.any_nil Bool.or_false Bool.or_true Bool.false_or Bool.true_or List.toList_toArray Array.toList_empty List.toList_toArray unC shT shC shA shV port1 portA port emptyH undefA undef oneCell madeA

attribute [go_sem] List.set_nil List.getElem?_toArray List.getElem?_cons_zero List.getElem?_cons_succ Option.bind_some Option.map_some Option.map_none Option.some.injEq
  List.length_cons List.length_nil List.replicate_succ List.replicate_zero List.cons_append List.nil_append List.append_nil Nat.reduceAdd Nat.reduceSub Nat.reduceEqDiff Nat.reduceMul Nat.reduceBEq Nat.reduceLeDiff Nat.reduceBNe Nat.reduceDiv Nat.reduceMod List.drop_succ_cons List.drop_zero List.take_succ_cons List.take_zero
  exists_eq_left exists_eq_left' true_and and_true false_and and_false false_implies implies_true forall_const Bool.not_true Bool.not_false decide_eq_true_eq decide_eq_false_iff_not Bool.true_eq_false Bool.false_eq_true
  if_true if_false ite_true ite_false reduceIte reduceCtorEq ne_eq not_false_eq_true not_true_eq_false List.map_cons List.map_nil List.zipIdx_cons List.zipIdx_nil List.all_cons List.all_nil Bool.and_true Bool.and_false Bool.true_and Bool.false_and
  List.range_succ List.range_zero beq_self_eq_true Bool.and_self Bool.and_eq_true Nat.le_refl Int.toNat_natCast Array.getD_eq_getD_getElem? Option.getD_some Option.getD_none List.flatten_cons List.flatten_nil List.getElem?_map AV.int.injEq AV.bool.injEq AV.str.injEq AV.agg.injEq AV.tup.injEq AV.sl.injEq AV.raw.injEq List.cons.injEq Tok.own.injEq

end Go.AB

/- Loops, by the slots that their body writes. -/
namespace Go.AB

def mask (s : List AV) : List Nat → (Nat → AV) → List AV
  | [], _ => s
  | i :: W, ρ => mask (s.set i (ρ i)) W ρ

theorem mask_self : ∀ (W : List Nat) (s : List AV), mask s W (nth s) = s
  | [], _ => rfl
  | i :: W, s => by
    simp only [mask]
    have : s.set i (nth s i) = s := by
      apply List.ext_getElem?
      intro j
      by_cases hj : i = j
      · subst hj
        by_cases hi : i < s.length
        · rw [List.getElem?_set_self hi, nth_lt hi]
        · rw [List.getElem?_eq_none (by simp; omega), List.getElem?_eq_none (by omega)]
      · rw [List.getElem?_set_ne hj]
    rw [this]
    exact mask_self W s

/-- The end of a round: only slots of W were written; the relation holds anew; the measure has gone down. -/
def LoopEnd {α : Type} (s0 : List AV) (W : List Nat) (J : α → (Nat → AV) → AH → Prop) (μ : α → Nat) (x : α) (σ : AS) : Prop :=
  σ.s = mask s0 W (nth σ.s) ∧ ∃ y, J y (nth σ.s) σ.m ∧ μ y < μ x

@[congr] theorem LoopEnd_congr {α : Type} {s0 : List AV} {W : List Nat} {J : α → (Nat → AV) → AH → Prop} {μ : α → Nat} {x : α} {σ σ' : AS} (h : σ = σ') : LoopEnd s0 W J μ x σ = LoopEnd s0 W J μ x σ' := by rw [h]

theorem AW_loopS {P : Program} {E : Env} {c : Code} {Q : Exit → AS → Prop} {s0 : List AV} {m0 : AH} {α : Type} (W : List Nat) (J : α → (Nat → AV) → AH → Prop) (μ : α → Nat) (x0 : α) (h0 : J x0 (nth s0) m0)
    (round : ∀ x ρ m, J x ρ m → exC P E c ⟨mask s0 W ρ, m⟩ (thenQ (LoopEnd s0 W J μ x) Q)) : AW P E (.loop c) Q ⟨s0, m0⟩ := by
  refine AW_loop (fun x σ => σ.s = mask s0 W (nth σ.s) ∧ J x (nth σ.s) σ.m) μ x0 ⟨(mask_self W s0).symm, h0⟩ ?_
  rintro x ⟨s, m⟩ ⟨h1, h2⟩
  simp only at h1 h2
  have := round x (nth s) m h2
  rw [← h1] at this
  refine AW_mono (exC_ok c _ _ this) ?_
  intro e σ h
  cases e with
  | normal =>
    obtain ⟨h3, y, h4, h5⟩ := h
    exact ⟨y, ⟨h3, h4⟩, h5⟩
  | _ => exact h

/-- It returns a slice that may be added to. -/
def RO (z : Nat) (es : List DV) : AH → AV → Prop := fun m x => ∃ i, x = .sl z es (.own i) ∧ m.lv i

@[go_sem] theorem RV_eq {r x : AV} {m : AH} : RV r m x = (x = r) := rfl
@[go_sem] theorem RO_eq {z z' : Nat} {es es' : List DV} {i : Nat} {m : AH} : RO z es m (.sl z' es' (.own i)) = (z' = z ∧ es' = es ∧ m.lv i) := by
  apply propext
  constructor
  · rintro ⟨j, h, hj⟩
    cases h
    exact ⟨rfl, rfl, hj⟩
  · rintro ⟨rfl, rfl, h⟩
    exact ⟨i, rfl, h⟩
theorem RO.tok {z : Nat} {es : List DV} {t : Tok} {m : AH} (h : ∃ i, t = .own i ∧ m.lv i) : RO z es m (.sl z es t) := by
  obtain ⟨i, rfl, h⟩ := h; exact ⟨i, rfl, h⟩

theorem callVt {P : Program} {k : Nat} {as args : List AV} {σ : AS} {dst : Option Nat} {K : AS → Prop} {r : AV} (h : PCall P k as (RV r))
    (hK : ∀ nx2 lv2, σ.m.nx ≤ nx2 → (∀ j, σ.m.lv j → lv2 j) → K (AS.put ⟨σ.s, ⟨σ.m.h, σ.m.o, nx2, lv2⟩⟩ dst (shV σ.m.nx r))) : callX P k as args σ dst K := by
  unfold callX
  refine .inl ?_
  refine ⟨_, h, ?_⟩
  unfold callK
  rintro m' x hx nx2 lv2 h1 h2 h3
  cases hx
  exact hK nx2 lv2 h1 h2

theorem callV {P : Program} {k : Nat} {as args : List AV} {σ : AS} {dst : Option Nat} {K : AS → Prop} {r : AV} (h : PCall P k as (RV r))
    (hK : ∀ nx2 lv2, K (AS.put ⟨σ.s, ⟨σ.m.h, σ.m.o, nx2, lv2⟩⟩ dst (shV σ.m.nx r))) : callX P k as args σ dst K :=
  callVt h fun nx2 lv2 _ _ => hK nx2 lv2

theorem callO {P : Program} {k : Nat} {as args : List AV} {σ : AS} {dst : Option Nat} {K : AS → Prop} {z : Nat} {es : List DV} (h : PCall P k as (RO z es))
    (hK : ∀ i nx2 lv2, σ.m.nx ≤ nx2 → (∀ j, σ.m.lv j → lv2 j) → lv2 i → σ.m.nx ≤ i → K (AS.put ⟨σ.s, ⟨σ.m.h, σ.m.o, nx2, lv2⟩⟩ dst (.sl z es (.own i)))) : callX P k as args σ dst K := by
  unfold callX
  refine .inl ?_
  refine ⟨_, h, ?_⟩
  unfold callK
  rintro m' x ⟨i, rfl, hi⟩ nx2 lv2 h1 h2 h3
  exact hK (σ.m.nx + i) nx2 lv2 h1 h2 (h3 i hi) (Nat.le_add_right _ _)

/-- A value without marks of who may add to it. -/
def er1 : AV → AV
  | .sl z es _ => .sl z es .no
  | v => v
def erA : AV → AV
  | .agg cs => .agg (cs.map er1)
  | v => er1 v
def erase : AV → AV
  | .tup vs => .tup (vs.map erA)
  | v => erA v

theorem er1_rep {G : Gh} {w : World} {r : AV} {v : Value} (h : RepA G w r v) : RepA G w (er1 r) v := by
  cases h with
  | sl z es t A c h1 h2 => exact .sl z es .no A c h1 trivial
  | int => exact .int _ _
  | bool => exact .bool _
  | str => exact .str _
  | raw => exact .raw _
  | agg cs vs h1 h2 h3 => exact .agg cs vs h1 h2 h3
  | tup cs vs h1 h2 => exact .tup cs vs h1 h2
  | ptr l off b o h h0 => exact .ptr l off b o h h0
  | mref l b h => exact .mref l b h
  | bref l b h => exact .bref l b h
  | ept cs b o h => exact .ept cs b o h
  | fn f cs vs h1 h2 => exact .fn f cs vs h1 h2
  | iface t v x h => exact .iface t v x h
  | msl l off len cap b o h h0 h1 h2 => exact .msl l off len cap b o h h0 h1 h2

theorem erA_rep {G : Gh} {w : World} {r : AV} {v : Value} (h : RepA G w r v) : RepA G w (erA r) v := by
  cases r <;> first | exact er1_rep h | skip
  rename_i cs
  cases h with
  | agg _ vs h1 h2 h3 =>
    refine .agg _ vs (by simpa using h1) h2 (fun i c v hc hv => ?_)
    rw [List.getElem?_map] at hc
    cases hci : cs[i]? with
    | none => rw [hci] at hc; cases hc
    | some c0 => rw [hci] at hc; cases hc; exact er1_rep (h3 i c0 v hci hv)

theorem erase_rep {G : Gh} {w : World} {r : AV} {v : Value} (h : RepA G w r v) : RepA G w (erase r) v := by
  cases r <;> first | exact erA_rep h | skip
  rename_i cs
  cases h with
  | tup _ vs h1 h3 =>
    refine .tup _ vs (by simpa using h1) (fun i c v hc hv => ?_)
    rw [List.getElem?_map] at hc
    cases hci : cs[i]? with
    | none => rw [hci] at hc; cases hc
    | some c0 => rw [hci] at hc; cases hc; exact erA_rep (h3 i c0 v hci hv)

theorem port1_er (r : AV) : port1 (er1 r) = port1 r := by cases r <;> rfl
theorem all_map_congr {α : Type} {f : α → α} {p : α → Bool} (h : ∀ x, p (f x) = p x) : ∀ l : List α, (l.map f).all p = l.all p
  | [] => rfl
  | x :: l => by simp only [List.map_cons, List.all_cons, h x, all_map_congr h l]
theorem portA_er (r : AV) : portA (erA r) = portA r := by
  cases r <;> first | rfl | (simp only [erA, portA]; exact all_map_congr port1_er _)
theorem port_er (r : AV) : port (erase r) = port r := by
  cases r with
  | tup cs => simp only [erase, port]; exact all_map_congr portA_er _
  | agg cs => exact portA_er (.agg cs)
  | _ => rfl

/-- It returns a value, whoever may add to what. -/
def RE (r : AV) : AH → AV → Prop := fun _ x => erase x = r
@[go_sem] theorem RE_eq {r x : AV} {m : AH} : RE r m x = (erase x = r) := rfl

theorem PCall.erased {P : Program} {f : Nat} {as : List AV} {R : AH → AV → Prop} {r0 : AV} (h : PCall P f as R) (hr : ∀ m r, R m r → erase r = r0) : PCall P f as (RV r0) := by
  unfold PCall at h ⊢
  intro st w vs hl hst hrep
  refine (h st w vs hl hst hrep).mono ?_
  rintro e w' ⟨v, r, G', m', h1, h2, h3, h4, h5⟩
  exact ⟨v, r0, G', m', h1, h2, by rw [← hr m' r h5]; exact erase_rep h3, by rw [← hr m' r h5, port_er]; exact h4, rfl⟩

theorem PCall.of_bodyE {P : Program} {f : Nat} {fn : Func} {c : Code} {as : List AV} {r : AV} {n : Nat} {rs : List ResultVar} (hf : P.funcs[f]? = some fn) (hb : fn.body = some c) (hn : fn.ntmps = n) (hrs : fn.results.toList = rs)
    (h : ∀ E, exC P E c ⟨as ++ List.replicate (n - as.length) undefA, emptyH⟩ (bodyQ P rs (RE r))) : PCall P f as (RV r) :=
  (PCall.of_body hf hb hn hrs h).erased fun _ _ h => h

attribute [go_sem] mask er1 erA erase

end Go.AB

/- Regions that draw their order: operations that write nothing, once in the order of the text. -/
namespace Go.AB

/-- A step that hands on one value, whatever comes behind. -/
def Det {α : Type} (f : (α → Prop) → Prop) : Prop := ∀ K, f K → ∃ v, K v ∧ ∀ K', K' v → f K'

section
variable {α : Type}
theorem Det.fls {f : (α → Prop) → Prop} (h : ∀ K, ¬ f K) : Det f := fun K hf => absurd hf (h K)
theorem Det.one {f : (α → Prop) → Prop} (v : α) (p : Prop) (h : ∀ K, f K ↔ (p ∧ K v)) : Det f := fun K hf => by
  obtain ⟨hp, hk⟩ := (h K).1 hf
  exact ⟨v, hk, fun K' hk' => (h K').2 ⟨hp, hk'⟩⟩
end

theorem ldA_det {ty : Option (Bool × Nat)} {cs : List AV} : Det (ldA ty cs) := by
  intro K h
  cases ty with
  | none => exact h.elim
  | some x =>
    obtain ⟨b, n⟩ := x
    cases b with
    | true => exact ⟨_, h.2, fun K' h' => ⟨h.1, h'⟩⟩
    | false =>
      cases cs with
      | nil => exact h.elim
      | cons v r => exact ⟨v, h, fun K' h' => h'⟩

theorem cells_eq {m m' : AH} (e1 : m'.h = m.h) (e2 : m'.o = m.o) (l : Loc) : m'.cells l = m.cells l := by cases l <;> simp [AH.cells, e1, e2]

theorem exLoad_same {P : Program} {m m' : AH} {t : Nat} {a : AV} {K : AV → Prop} (e1 : m'.h = m.h) (e2 : m'.o = m.o) (h : exLoad P m t a K) : exLoad P m' t a K := by
  unfold exLoad at h ⊢
  cases a <;> first | exact h | skip
  rename_i l off
  simp only at h ⊢
  rw [cells_eq e1 e2]
  exact h

theorem exLoad_det {P : Program} {m : AH} {t : Nat} {a : AV} : Det (exLoad P m t a) := by
  intro K h
  unfold exLoad at h ⊢
  split at h
  · split at h
    · exact ldA_det K h
    · exact h.elim
  · exact ldA_det K h
  · exact h.elim

theorem exField_det {P : Program} {s f : Nat} {a : AV} : Det (exField P s a f) := by
  intro K h
  unfold exField at h ⊢
  split at h
  · split at h
    · exact ⟨_, h, fun K' h' => h'⟩
    · exact ⟨_, h, fun K' h' => h'⟩
    · exact h.elim
  · exact h.elim

theorem exIndexAddr_det {P : Program} {t : Nat} {a i : AV} : Det (exIndexAddr P t a i) := by
  intro K h
  unfold exIndexAddr at h ⊢
  split at h
  · obtain ⟨h1, h2, e, h3, h4⟩ := h
    exact ⟨_, h4, fun K' h' => ⟨h1, h2, e, h3, h'⟩⟩
  · split at h
    · exact ⟨_, h.2.2, fun K' h' => ⟨h.1, h.2.1, h'⟩⟩
    · exact h.elim
  · split at h
    · exact ⟨_, h.2.2, fun K' h' => ⟨h.1, h.2.1, h'⟩⟩
    · exact h.elim
  · exact h.elim

theorem exBinInt_det {op : BinOp} {k k' : IntKind} {x y : Int} : Det (exBinInt op k k' x y) := by
  intro K h
  cases op <;> simp only [exBinInt] at h ⊢ <;> first
    | exact ⟨_, h.2, fun K' h' => ⟨h.1, h'⟩⟩
    | exact ⟨_, h.2.2, fun K' h' => ⟨h.1, h.2.1, h'⟩⟩

theorem eqA_det : ∀ {ks : List CK} {xs ys : List AV}, Det (eqA ks xs ys) := by
  intro ks
  induction ks with
  | nil =>
    intro xs ys K h
    cases xs with
    | nil => cases ys with
      | nil => exact ⟨true, h, fun K' h' => h'⟩
      | cons _ _ => exact h.elim
    | cons _ _ => exact h.elim
  | cons c ks ih =>
    intro xs ys K h
    unfold eqA at h
    split at h
    · cases ‹c :: ks = []›
    · rename_i heq
      cases heq
      obtain ⟨v, h1, h2⟩ := ih _ h.2.2
      exact ⟨_, h1, fun K' h' => by unfold eqA; exact ⟨h.1, h.2.1, h2 _ h'⟩⟩
    · rename_i heq
      cases heq
      obtain ⟨v, h1, h2⟩ := ih _ h
      exact ⟨_, h1, fun K' h' => by unfold eqA; exact h2 _ h'⟩
    · rename_i heq
      cases heq
      obtain ⟨v, h1, h2⟩ := ih _ h
      exact ⟨_, h1, fun K' h' => by unfold eqA; exact h2 _ h'⟩
    · exact h.elim

theorem exBin_det {P : Program} {op : BinOp} {t : Nat} {a b : AV} : Det (exBin P op t a b) := by
  intro K h
  unfold exBin at h ⊢
  split at h
  · exact exBinInt_det K h
  · cases op <;> first | exact h.2.elim | exact ⟨_, h.2, fun K' h' => ⟨h.1, h'⟩⟩
  · cases op <;> first | exact h.elim | exact ⟨_, h.2, fun K' h' => ⟨h.1, h'⟩⟩ | exact ⟨_, h, fun K' h' => h'⟩
  · split at h
    · cases op <;> first
        | exact h.elim
        | (obtain ⟨v, h1, h2⟩ := eqA_det _ h; exact ⟨_, h1, fun K' h' => h2 _ h'⟩)
    · exact h.elim
  · exact h.elim

theorem exUn_det {op : UnOp} {a : AV} : Det (exUn op a) := by
  intro K h
  unfold exUn at h ⊢
  split at h
  · exact ⟨_, h, fun K' h' => h'⟩
  · exact ⟨_, h, fun K' h' => h'⟩
  · exact h.elim

theorem exConv_det {P : Program} {s d : Nat} {a : AV} : Det (exConv P s d a) := by
  intro K h
  unfold exConv at h ⊢
  split at h
  · split at h
    · exact ⟨_, h.2, fun K' h' => ⟨h.1, h'⟩⟩
    · exact h.elim
  · exact ⟨_, h.2.2, fun K' h' => ⟨h.1, h.2.1, h'⟩⟩
  · exact h.elim

theorem exConvB_det {P : Program} {s d : Nat} {a : AV} : Det (exConvB P s d a) := by
  intro K h
  unfold exConvB at h ⊢
  split at h
  · rename_i hb
    unfold exBytes at h ⊢
    split at h
    · exact ⟨_, h.2.2, fun K' h' => ⟨h.1, h.2.1, h'⟩⟩
    · exact h.elim
  · rename_i hb
    exact exConv_det K h

theorem partA_det {off n : Nat} {g : Bool} {cs : List AV} : Det (partA off g n cs) := by
  intro K h
  cases g with
  | true => exact ⟨_, h.2, fun K' h' => ⟨h.1, h'⟩⟩
  | false =>
    obtain ⟨v, h1, h2⟩ := h
    exact ⟨v, h2, fun K' h' => ⟨v, h1, h'⟩⟩

theorem exFieldV_det {P : Program} {s f : Nat} {a : AV} : Det (exFieldV P s a f) := by
  intro K h
  unfold exFieldV at h ⊢
  split at h
  · split at h
    · exact partA_det K h
    · exact h.elim
  · exact h.elim

theorem exIndexV_det {P : Program} {t : Nat} {a i : AV} : Det (exIndexV P t a i) := by
  intro K h
  unfold exIndexV at h ⊢
  split at h
  · split at h
    · obtain ⟨v, h1, h2⟩ := partA_det K h.2.2
      exact ⟨v, h1, fun K' h' => ⟨h.1, h.2.1, h2 K' h'⟩⟩
    · exact h.elim
  · obtain ⟨h1, h2, c, h3, h4⟩ := h
    exact ⟨_, h4, fun K' h' => ⟨h1, h2, c, h3, h'⟩⟩
  · exact h.elim

theorem exLen_det {P : Program} {t : Nat} {a : AV} : Det (exLen P t a) := by
  intro K h
  unfold exLen at h ⊢
  split at h
  · exact ⟨_, h.2, fun K' h' => ⟨h.1, h'⟩⟩
  · exact ⟨_, h.2, fun K' h' => ⟨h.1, h'⟩⟩
  · exact ⟨_, h.2, fun K' h' => ⟨h.1, h'⟩⟩
  · split at h
    · exact ⟨_, h, fun K' h' => h'⟩
    · exact h.elim
  · exact h.elim

theorem mmA_det {mx : Bool} {k : IntKind} : ∀ {r : List AV} {x : Int}, Det (mmA mx k x r)
  | [], x => fun K h => ⟨_, h, fun K' h' => h'⟩
  | c :: r, x => fun K h => by
    cases c <;> first | exact h.elim | skip
    obtain ⟨v, h1, h2⟩ := mmA_det (r := r) K h
    exact ⟨v, h1, fun K' h' => h2 K' h'⟩

theorem exMM_det {mx : Bool} {as : List AV} : Det (exMM mx as) := by
  intro K h
  unfold exMM at h ⊢
  split at h
  · exact mmA_det K h
  · exact h.elim

theorem exCut_det {P : Program} {t : Nat} {a : AV} {lo hi : Option AV} : Det (exCut P t a lo hi) := by
  intro K h
  unfold exCut at h ⊢
  split at h
  · split at h
    · exact ⟨_, h.2.2.2, fun K' h' => ⟨h.1, h.2.1, h.2.2.1, h'⟩⟩
    · exact h.elim
  · split at h
    · exact ⟨_, h.2.2.2, fun K' h' => ⟨h.1, h.2.1, h.2.2.1, h'⟩⟩
    · exact h.elim
  · split at h
    · split at h
      · exact ⟨_, h.2.2.2.2, fun K' h' => ⟨h.1, h.2.1, h.2.2.1, h.2.2.2.1, h'⟩⟩
      · exact h.elim
    · exact h.elim
  · split at h
    · split at h
      · exact ⟨_, h.2.2.2.2, fun K' h' => ⟨h.1, h.2.1, h.2.2.1, h.2.2.2.1, h'⟩⟩
      · exact h.elim
    · exact h.elim
  · exact h.elim

theorem exPick_det {c a b : AV} : Det (exPick c a b) := by
  intro K h
  unfold exPick at h ⊢
  split at h
  · rename_i t
    split at h
    · exact ⟨_, h, fun K' h' => h'⟩
    · rename_i hne
      cases t with
      | true => exact ⟨_, h.1 rfl, fun K' h' => ⟨fun _ => h', fun e => by cases e⟩⟩
      | false => exact ⟨_, h.2 rfl, fun K' h' => ⟨fun e => (by cases e), fun _ => h'⟩⟩
  · exact h.elim

theorem exLookup_same {P : Program} {m m' : AH} {t : Nat} {x k : AV} {ok : Bool} {K : AV → Prop} (e1 : m'.h = m.h) (e2 : m'.o = m.o) (h : exLookup P m t x k ok K) : exLookup P m' t x k ok K := by
  unfold exLookup at h ⊢
  split at h
  · rename_i l
    simp only [cells_eq e1 e2]
    exact h
  · exact h

theorem exLookup_det {P : Program} {m : AH} {t : Nat} {x k : AV} {ok : Bool} : Det (exLookup P m t x k ok) := fun K h => by
  unfold exLookup at h
  split at h
  · rename_i l
    split at h
    · rename_i cs hcs
      unfold lookC at h
      split at h
      · rename_i ks vs
        split at h
        · rename_i kt z hm
          obtain ⟨h1, h2, h3⟩ := h
          cases hg : mget ks vs k with
          | none =>
            rw [hg] at h3
            exact ⟨_, h3, fun K' h' => by unfold exLookup; simp only [hcs]; unfold lookC; simp only [hm]; exact ⟨h1, h2, by rw [hg]; exact h'⟩⟩
          | some v =>
            rw [hg] at h3
            exact ⟨_, h3, fun K' h' => by unfold exLookup; simp only [hcs]; unfold lookC; simp only [hm]; exact ⟨h1, h2, by rw [hg]; exact h'⟩⟩
        · exact h.elim
      · exact h.elim
    · exact h.elim
  · exact h.elim

theorem exExtract_det {a : AV} {i : Nat} : Det (exExtract a i) := by
  intro K h
  unfold exExtract at h ⊢
  split at h
  · split at h
    · exact ⟨_, h, fun K' h' => h'⟩
    · exact h.elim
  · exact h.elim

theorem exBuild_det {P : Program} {t : Nat} {ps : List (Nat × AV)} : Det (exBuild P t ps) := by
  intro K h
  unfold exBuild at h ⊢
  split at h
  · split at h
    · exact ⟨_, h, fun K' h' => h'⟩
    · exact h.elim
  · exact h.elim

end Go.AB

/- Regions that draw their order: operations that write nothing, once in the order of the text. -/
namespace Go.AB

def quietB : Builtin → Bool
  | .len => true
  | .min => true
  | .max => true
  | _ => false

def quietN (P : Program) (k : Nat) (as : List AV) (σ : AS) (dst : Option Nat) (K : AS → Prop) : Prop := ∃ r, PCall P k as (RV r) ∧ (∀ n, shV n r = r) ∧ kPut σ dst K r
def exCallD (P : Program) (c : Call) (σ : AS) (dst : Option Nat) (K : AS → Prop) : Prop := match c.callee with
  | .builtin b => quietB b = true ∧ exBuiltin P b c.argTypes (evs P σ c.argTypes c.args) σ dst K
  | .value f => match fnOf (σ.ev P 0 f) with
    | some (k, caps) => bodyOk P k = true ∧ (match (evs P σ c.argTypes c.args ++ caps).any need with
      | false => ∃ as, stripL (evs P σ c.argTypes c.args ++ caps) = some as ∧ quietN P k as σ dst K
      | true => ∃ as, lendL σ.m (evs P σ c.argTypes c.args ++ caps) = some as ∧ quietK P k as σ dst K)
    | none => False
  | _ => False

/-- A literal of a slice where nobody adds to it. -/
def exLitD (P : Program) (t len : Nat) (ps : List (Nat × AV)) (K : AV → Prop) : Prop := match apA P t with
  | some (z, _) => match toDVs (ps.map (·.2)) with
    | some ds => (ps.map (·.1) == List.range len) = true ∧ (ps.all fun p => isCell p.2) = true ∧ (ds.all fun d => (dcells d).length == z) = true ∧ len * z ≤ 16777216 ∧ len ≤ 16777216 ∧ K (.sl z ds .no)
    | none => False
  | none => False

/-- The slot's value without a mark. -/
def erAt (σ : AS) (dst : Option Nat) : AS := match dst with
  | some d => ⟨σ.s.set d (er1 (nth σ.s d)), σ.m⟩
  | none => σ
def KE (dst : Option Nat) (K : AS → Prop) (τ : AS) : Prop := K τ ∨ K (erAt τ dst)

theorem erAt_put (σ : AS) (dst : Option Nat) (v : AV) : erAt (σ.put dst v) dst = σ.put dst (er1 v) := by
  cases dst with
  | none => rfl
  | some d =>
    simp only [erAt, AS.put, nth_set, true_and]
    congr 1
    apply List.ext_getElem?
    intro j
    simp only [List.getElem?_set]
    split
    · rename_i hj
      subst hj
      by_cases hd : d < σ.s.length
      · simp [hd]
      · simp [hd]
    · rfl

theorem St.erAt {E : Env} {σ : AS} {a : Act} {w : World} (h : St E σ a w) (dst : Option Nat) : St E (erAt σ dst) a w := by
  cases dst with
  | none => exact h
  | some d =>
    obtain ⟨G, hi, hs, hd, hr⟩ := h
    refine ⟨G, hi, by simp [AB.erAt, hs], hd, fun t => ?_⟩
    simp only [AB.erAt, nth_set]
    split
    · rename_i ht
      obtain ⟨rfl, _⟩ := ht
      exact er1_rep (hr d)
    · exact hr t

def exOpD (P : Program) (o : Oper) (σ : AS) (K : AS → Prop) : Prop := match o.op with
  | .move x => K (σ.put o.dst (σ.ev P o.type x))
  | .assign x => K (σ.put o.dst (σ.ev P o.type x))
  | .pick c a b => exPick (σ.ev P 0 c) (σ.ev P o.type a) (σ.ev P o.type b) (kPut σ o.dst K)
  | .build t ps => fsOk P t = true ∧ exBuild P t (evP P σ t ps) (kPut σ o.dst K)
  | .buildSlice t len ps => exLitD P t len (evP P σ t ps) (kPut σ o.dst K)
  | .load t a => exLoad P σ.m t (σ.ev P 0 a) (kPut σ o.dst K)
  | .nilCheck x => nilOk (σ.ev P 0 x) = true ∧ K (σ.put o.dst (σ.ev P 0 x))
  | .binOp op t x y _ => exBin P op t (σ.ev P t x) (σ.ev P t y) (kPut σ o.dst K)
  | .unOp op t x => exUn op (σ.ev P t x) (kPut σ o.dst K)
  | .convert s d x => exConvB P s d (σ.ev P s x) (kPut σ o.dst K)
  | .makeInterface t x => concA P t = true ∧ K (σ.put o.dst (.iface t (σ.ev P t x)))
  | .makeFunc (.func f) first caps => first.toList.length = 0 ∧ K (σ.put o.dst (.fn f (caps.toList.map (σ.ev P 0))))
  | .slice t x lo hi none => exCut P t (σ.ev P t x) (lo.map (σ.ev P 0)) (hi.map (σ.ev P 0)) (kPut σ o.dst K)
  | .fieldAddr s x f => exField P s (σ.ev P 0 x) f (kPut σ o.dst K)
  | .field s x f => exFieldV P s (σ.ev P s x) f (kPut σ o.dst K)
  | .indexAddr t x i => exIndexAddr P t (σ.ev P t x) (σ.ev P 0 i) (kPut σ o.dst K)
  | .index t x i => exIndexV P t (σ.ev P t x) (σ.ev P 0 i) (kPut σ o.dst K)
  | .extract x i => exExtract (σ.ev P 0 x) i (kPut σ o.dst K)
  | .lookup t x k ok => exLookup P σ.m t (σ.ev P t x) (σ.ev P 0 k) ok (kPut σ o.dst K)
  | .call c => exCallD P c σ o.dst K
  | _ => False

def exGD (P : Program) (ops : Array Oper) (o : Oper) (σ : AS) (K : AS → Prop) : Prop := match o.guard with
  | none => exOpD P o σ K
  | some (j, want) => match (ops[j]?).bind (·.dst) with
    | some d => (match nth σ.s d with
      | .bool b => gateW want b (exOpD P o (σ.put (some d) (.bool want)) K) (K ((σ.put (some d) (.bool !want)).put o.dst undefA))
      | .raw (.tuple _) => K (σ.put o.dst undefA)
      | _ => False)
    | none => False

def exOpsD (P : Program) (ops : Array Oper) : List Oper → AS → (AS → Prop) → Prop
  | [], σ, K => K σ
  | o :: r, σ, K => exGD P ops o σ (kOps (exOpsD P ops r) K)

/-- The two states agree in all that an operation looks at. -/
structure Agree (ops : Array Oper) (o : Oper) (σ σ' : AS) : Prop where
  s : ∀ t ∈ o.looksAt ops, nth σ'.s t = nth σ.s t
  h : σ'.m.h = σ.m.h
  o : σ'.m.o = σ.m.o

/-- The operation puts this value, in a state that may have seen calls since. -/
def Puts (σ : AS) (dst : Option Nat) (v : AV) (K : AS → Prop) : Prop :=
  ∀ nx lv, σ.m.nx ≤ nx → (∀ j, σ.m.lv j → lv j) → K (AS.put ⟨σ.s, ⟨σ.m.h, σ.m.o, nx, lv⟩⟩ dst v)

theorem Puts.self {σ : AS} {dst : Option Nat} {v : AV} {K : AS → Prop} (h : Puts σ dst v K) : K (σ.put dst v) := h σ.m.nx σ.m.lv (Nat.le_refl _) (fun _ x => x)

theorem mslD_same {m m' : AH} (e1 : m'.h = m.h) (e2 : m'.o = m.o) (l : Loc) (off len : Nat) : mslD m' l off len = mslD m l off len := by
  simp only [mslD, cells_eq e1 e2]
theorem toDF_same {m m' : AH} (e1 : m'.h = m.h) (e2 : m'.o = m.o) (a : AV) : toDF m' a = toDF m a := by
  cases a <;> first | rfl | exact mslD_same e1 e2 _ _ _ | skip
  rename_i f cs
  cases cs <;> rfl
theorem toDFs_same {m m' : AH} (e1 : m'.h = m.h) (e2 : m'.o = m.o) : ∀ as : List AV, toDFs m' as = toDFs m as
  | [] => rfl
  | a :: as => by simp only [toDFs, toDF_same e1 e2, toDFs_same e1 e2 as]
theorem lend1_same {m m' : AH} (e1 : m'.h = m.h) (e2 : m'.o = m.o) (a : AV) : lend1 m' a = lend1 m a := by
  cases a <;> simp only [lend1, cells_eq e1 e2, toDFs_same e1 e2, mslD_same e1 e2]
theorem lend1L_same {m m' : AH} (e1 : m'.h = m.h) (e2 : m'.o = m.o) : ∀ as : List AV, lend1L m' as = lend1L m as
  | [] => rfl
  | a :: as => by simp only [lend1L, lend1_same e1 e2, lend1L_same e1 e2 as]
theorem lend_same {m m' : AH} (e1 : m'.h = m.h) (e2 : m'.o = m.o) (a : AV) : lend m' a = lend m a := by
  cases a <;> simp only [lend, lend1_same e1 e2, lend1L_same e1 e2]
theorem lendL_same {m m' : AH} (e1 : m'.h = m.h) (e2 : m'.o = m.o) : ∀ as : List AV, lendL m' as = lendL m as
  | [] => rfl
  | a :: as => by simp only [lendL, lend_same e1 e2, lendL_same e1 e2 as]

section
variable {P : Program} {ops : Array Oper} {o : Oper} {σ σ' : AS}

theorem Agree.ev (a : Agree ops o σ σ') {x : Operand} (hx : x ∈ o.op.operands) (ty : Nat) : σ'.ev P ty x = σ.ev P ty x := by
  cases x with
  | tmp t => exact a.s t (List.mem_append_left _ (List.mem_filterMap.2 ⟨.tmp t, by simpa using hx, rfl⟩))
  | _ => rfl

theorem Agree.evs (a : Agree ops o σ σ') {xs : Array Operand} (hx : ∀ x ∈ xs, x ∈ o.op.operands) (tys : Array Nat) : evs P σ' tys xs = evs P σ tys xs := by
  unfold AB.evs
  apply List.map_congr_left
  intro p hp
  refine a.ev (hx _ ?_) _
  have := List.fst_mem_of_mem_zipIdx hp
  simpa using this

/-- What a quiet operation comes to. -/
def YieldsA (P : Program) (ops : Array Oper) (o : Oper) (v : AV) (σ : AS) : Prop := ∀ σ', Agree ops o σ σ' → ∀ K', Puts σ' o.dst v K' → exG P ops o σ' (KE o.dst K')

theorem det_use {f : (AV → Prop) → Prop} (d : Det f) {K : AS → Prop} {dst : Option Nat} (h : f (kPut σ dst K)) {C : AS → (AS → Prop) → Prop}
    (hc : ∀ σ', Agree ops o σ σ' → ∀ K', f (kPut σ' dst K') → C σ' K') :
    ∃ v, K (σ.put dst v) ∧ ∀ σ', Agree ops o σ σ' → ∀ K', Puts σ' dst v K' → C σ' K' := by
  obtain ⟨v, h1, h2⟩ := d _ h
  exact ⟨v, h1, fun σ' ag K' hK' => hc σ' ag K' (h2 _ hK'.self)⟩

theorem exOpD_local0 {K : AS → Prop} (hb : ∀ t len ps, o.op ≠ .buildSlice t len ps) (h : exOpD P o σ K) : ∃ v, K (σ.put o.dst v) ∧ ∀ σ', Agree ops o σ σ' → ∀ K', Puts σ' o.dst v K' → exOp P o σ' K' := by
  obtain ⟨dst, op, ty, pos, after, guard⟩ := o
  have e1 : ∀ σ', Agree ops ⟨dst, op, ty, pos, after, guard⟩ σ σ' → ∀ x ∈ op.operands, ∀ t, σ'.ev P t x = σ.ev P t x := fun σ' ag x hx t => ag.ev hx t
  cases op with
  | move x => exact ⟨_, h, fun σ' ag K' hK' => by simp only [exOp]; rw [e1 σ' ag x (by simp [Op.operands])]; exact hK'.self⟩
  | assign x => exact ⟨_, h, fun σ' ag K' hK' => by simp only [exOp]; rw [e1 σ' ag x (by simp [Op.operands])]; exact hK'.self⟩
  | pick c x y =>
    exact det_use exPick_det h fun σ' ag K' hK' => by
      simp only [exOp]
      rw [e1 σ' ag c (by simp [Op.operands]), e1 σ' ag x (by simp [Op.operands]), e1 σ' ag y (by simp [Op.operands])]; exact hK'
  | build t ps =>
    have h' := h.2
    exact det_use exBuild_det h' fun σ' ag K' hK' => by
      simp only [exOp]
      refine ⟨h.1, ?_⟩
      have : evP P σ' t ps = evP P σ t ps := by
        unfold evP
        apply List.map_congr_left
        intro p hp
        rw [e1 σ' ag p.2 (by simp only [Op.operands, List.mem_toArray, List.mem_map]; exact ⟨p, hp, rfl⟩)]
      rw [this]; exact hK'
  | load t x =>
    exact det_use exLoad_det h fun σ' ag K' hK' => by
      simp only [exOp]
      rw [e1 σ' ag x (by simp [Op.operands])]; exact exLoad_same ag.h ag.o hK'
  | nilCheck x => exact ⟨_, h.2, fun σ' ag K' hK' => by simp only [exOp]; rw [e1 σ' ag x (by simp [Op.operands])]; exact ⟨h.1, hK'.self⟩⟩
  | binOp op t x y yt =>
    exact det_use exBin_det h fun σ' ag K' hK' => by
      simp only [exOp]
      rw [e1 σ' ag x (by simp [Op.operands]), e1 σ' ag y (by simp [Op.operands])]; exact exBin_O hK'
  | unOp op t x =>
    exact det_use exUn_det h fun σ' ag K' hK' => by
      simp only [exOp]
      rw [e1 σ' ag x (by simp [Op.operands])]; exact hK'
  | convert s d x =>
    exact det_use exConvB_det h fun σ' ag K' hK' => by
      simp only [exOp]
      rw [e1 σ' ag x (by simp [Op.operands])]; exact hK'
  | makeInterface t x => exact ⟨_, h.2, fun σ' ag K' hK' => by simp only [exOp]; rw [e1 σ' ag x (by simp [Op.operands])]; exact ⟨h.1, hK'.self⟩⟩
  | makeFunc fn first caps =>
    cases fn with
    | func f =>
      refine ⟨_, h.2, fun σ' ag K' hK' => ?_⟩
      simp only [exOp]
      refine ⟨h.1, ?_⟩
      have : caps.toList.map (σ'.ev P 0) = caps.toList.map (σ.ev P 0) := by
        apply List.map_congr_left
        intro x hx
        exact e1 σ' ag x (by simp only [Op.operands, Array.mem_append]; exact .inr (by simpa using hx)) 0
      rw [this]; exact hK'.self
    | _ => exact False.elim h
  | slice t x lo hi mx =>
    cases mx with
    | none =>
      refine det_use exCut_det h fun σ' ag K' hK' => ?_
      simp only [exOp]
      have h1 : lo.map (σ'.ev P 0) = lo.map (σ.ev P 0) := by
        cases lo with
        | none => rfl
        | some y => simp only [Option.map_some]; rw [e1 σ' ag y (by simp [Op.operands])]
      have h2 : hi.map (σ'.ev P 0) = hi.map (σ.ev P 0) := by
        cases hi with
        | none => rfl
        | some y => simp only [Option.map_some]; rw [e1 σ' ag y (by simp [Op.operands])]
      rw [h1, h2, e1 σ' ag x (by simp [Op.operands])]; exact hK'
    | some _ => exact False.elim h
  | fieldAddr s x f =>
    exact det_use exField_det h fun σ' ag K' hK' => by
      simp only [exOp]
      rw [e1 σ' ag x (by simp [Op.operands])]; exact hK'
  | field s x f =>
    exact det_use exFieldV_det h fun σ' ag K' hK' => by
      simp only [exOp]
      rw [e1 σ' ag x (by simp [Op.operands])]; exact hK'
  | indexAddr t x i =>
    exact det_use exIndexAddr_det h fun σ' ag K' hK' => by
      simp only [exOp]
      rw [e1 σ' ag x (by simp [Op.operands]), e1 σ' ag i (by simp [Op.operands])]; exact hK'
  | index t x i =>
    exact det_use exIndexV_det h fun σ' ag K' hK' => by
      simp only [exOp]
      rw [e1 σ' ag x (by simp [Op.operands]), e1 σ' ag i (by simp [Op.operands])]; exact hK'
  | lookup t x k ok =>
    exact det_use exLookup_det h fun σ' ag K' hK' => by
      simp only [exOp]
      rw [e1 σ' ag x (by simp [Op.operands]), e1 σ' ag k (by simp [Op.operands])]; exact exLookup_same ag.h ag.o hK'
  | extract x i =>
    exact det_use exExtract_det h fun σ' ag K' hK' => by
      simp only [exOp]
      rw [e1 σ' ag x (by simp [Op.operands])]; exact hK'
  | call c =>
    obtain ⟨callee, args, argTypes⟩ := c
    have e2 : ∀ σ', Agree ops ⟨dst, .call ⟨callee, args, argTypes⟩, ty, pos, after, guard⟩ σ σ' → evs P σ' argTypes args = evs P σ argTypes args := fun σ' ag =>
      ag.evs (fun x hx => by simp only [Op.operands, Call.operands, Array.mem_append]; exact .inr hx) _
    cases callee with
    | builtin b =>
      obtain ⟨hq, h⟩ := h
      simp only at h
      unfold exBuiltin at h
      split at h
      · rename_i t x hts has
        refine det_use exLen_det h fun σ' ag K' hK' => ?_
        simp only [exOp, exCall]
        rw [e2 σ' ag]
        unfold exBuiltin
        simp only [hts, has]
        exact hK'
      · cases hq
      · refine det_use exMM_det h fun σ' ag K' hK' => ?_
        simp only [exOp, exCall]
        rw [e2 σ' ag]
        exact hK'
      · refine det_use exMM_det h fun σ' ag K' hK' => ?_
        simp only [exOp, exCall]
        rw [e2 σ' ag]
        exact hK'
      · exact h.elim
    | value f =>
      simp only [exOpD, exCallD] at h
      split at h
      · rename_i k caps hf
        obtain ⟨hb, h⟩ := h
        split at h
        · rename_i hn
          obtain ⟨as, has, r, hcall, hr, hK⟩ := h
          refine ⟨r, hK, fun σ' ag K' hK' => ?_⟩
          simp only [exOp, exCall]
          rw [e1 σ' ag f (by simp [Op.operands, Call.operands]), hf]
          simp only [e2 σ' ag, hn]
          refine ⟨hb, as, has, ?_⟩
          unfold callX
          refine .inl ⟨_, hcall, ?_⟩
          unfold callK
          rintro m' x hx nx2 lv2 g1 g2 _
          cases hx
          rw [hr]
          exact hK' nx2 lv2 g1 g2
        · rename_i hn
          obtain ⟨as, has, h⟩ := h
          unfold quietK at h
          obtain ⟨r, hcall, hr, hK⟩ := h
          refine ⟨r, hK, fun σ' ag K' hK' => ?_⟩
          simp only [exOp, exCall]
          rw [e1 σ' ag f (by simp [Op.operands, Call.operands]), hf]
          simp only [e2 σ' ag, hn]
          have hl : ∀ as, lendL σ'.m as = lendL σ.m as := lendL_same ag.h ag.o
          exact ⟨hb, .inl ⟨as, by rw [hl]; exact has, by unfold quietK; exact ⟨_, hcall, hr, hK'.self⟩⟩⟩
      · exact h.elim
    | invoke _ _ => exact False.elim h
  | buildSlice t len ps => exact absurd rfl (hb t len ps)
  | _ => exact False.elim h

theorem exOpD_local {K : AS → Prop} (h : exOpD P o σ K) : ∃ v, K (σ.put o.dst v) ∧ ∀ σ', Agree ops o σ σ' → ∀ K', Puts σ' o.dst v K' → exOp P o σ' (KE o.dst K') := by
  by_cases hb : ∀ t len ps, o.op ≠ .buildSlice t len ps
  · obtain ⟨v, h1, h2⟩ := exOpD_local0 (ops := ops) hb h
    exact ⟨v, h1, fun σ' ag K' hK' => h2 σ' ag _ (fun nx lv g1 g2 => .inl (hK' nx lv g1 g2))⟩
  · obtain ⟨dst, op, ty, pos, after, guard⟩ := o
    cases op with
    | buildSlice t len ps =>
      simp only [exOpD] at h
      unfold exLitD at h
      split at h
      · rename_i z y hap
        split at h
        · rename_i ds hds
          obtain ⟨h1, h2, h3, h4, h5, hK⟩ := h
          refine ⟨_, hK, fun σ' ag K' hK' => ?_⟩
          have : evP P σ' t ps = evP P σ t ps := by
            unfold evP
            apply List.map_congr_left
            intro p hp
            rw [ag.ev (by simp only [Op.operands, List.mem_toArray, List.mem_map]; exact ⟨p, hp, rfl⟩)]
          simp only [exOp]
          rw [this]
          unfold exLit
          simp only [hap, hds]
          refine ⟨h1, h2, h3, h4, h5, .inr ?_⟩
          have e := hK' (σ'.m.nx + 1) (σ'.m.app .no).lv (Nat.le_succ _) (fun j hj => .inr ⟨hj, by simp⟩)
          rw [erAt_put]
          exact e
        · exact h.elim
      · exact h.elim
    | _ => exact absurd (fun _ _ _ e => by cases e) hb

theorem exGD_local {K : AS → Prop} (h : exGD P ops o σ K) : ∃ v, K (σ.put o.dst v) ∧ YieldsA P ops o v σ := by
  unfold exGD at h
  unfold YieldsA
  split at h
  · rename_i hg
    obtain ⟨v, h1, h2⟩ := exOpD_local (ops := ops) h
    exact ⟨v, h1, fun σ' ag K' hK' => by unfold exG; rw [hg]; exact h2 σ' ag K' hK'⟩
  · rename_i j want hg
    split at h
    · rename_i d hd
      have hmem : d ∈ o.looksAt ops := by
        unfold Oper.looksAt
        rw [hg]
        exact List.mem_append_right _ (by simp [hd])
      split at h
      · rename_i b hb
        have h := gateW_iff.1 h
        by_cases hbw : b = want
        · have h1 := h.1 hbw
          rw [put_same (hb.trans (by rw [hbw])) (by simp [undefA])] at h1
          obtain ⟨v, h2, h3⟩ := exOpD_local (ops := ops) h1
          refine ⟨v, h2, fun σ' ag K' hK' => ?_⟩
          have hb' : nth σ'.s d = .bool b := (ag.s d hmem).trans hb
          unfold exG
          simp only [hg, hd, hb']
          refine gateW_iff.2 ⟨fun _ => ?_, fun e => by subst hbw; cases b <;> cases e⟩
          rw [put_same (hb'.trans (by rw [hbw])) (by simp [undefA])]
          exact h3 σ' ag K' hK'
        · have hbw2 : b = !want := by cases b <;> cases want <;> simp_all
          have h2 := h.2 hbw2
          rw [put_same (hb.trans (by rw [hbw2])) (by simp [undefA])] at h2
          refine ⟨_, h2, fun σ' ag K' hK' => ?_⟩
          have hb' : nth σ'.s d = .bool b := (ag.s d hmem).trans hb
          unfold exG
          simp only [hg, hd, hb']
          refine gateW_iff.2 ⟨fun e => absurd e hbw, fun _ => ?_⟩
          rw [put_same (hb'.trans (by rw [hbw2])) (by simp [undefA])]
          exact .inl hK'.self
      · rename_i vs hb
        refine ⟨_, h, fun σ' ag K' hK' => ?_⟩
        have hb' := (ag.s d hmem).trans hb
        unfold exG
        simp only [hg, hd, hb']
        exact .inl hK'.self
      · exact h.elim
    · exact h.elim

end

theorem exG_ok {P : Program} {E : Env} {ops : Array Oper} {o : Oper} {i : Nat} {σ : AS} {K : AS → Prop} {Q : Exit → Act → World → Prop} {a : Act} {w : World} (hT : TabsOk P E) (hi : ops[i]? = some o) (h : exG P ops o σ K) (hst : St E σ a w) :
    wpOp P ops Q i (fun a' w' => ∃ σ', St E σ' a' w' ∧ K σ') a w := by
  unfold wpOp
  simp only [hi]
  unfold exG at h
  split at h
  · rename_i hg
    have hw : Region.wanted o (yielded ops a.tmps) = true := by simp [Region.wanted, hg]
    rw [if_pos hw]
    exact .inl (exOp_ok hT h hst Q)
  · rename_i j want hg
    split at h
    · rename_i d hd
      obtain ⟨y1, y2⟩ := yielded_of hst hd
      split at h
      · rename_i b hb
        have h := gateW_iff.1 h
        have hy := y1 b hb
        by_cases hbw : b = want
        · have hw : Region.wanted o (yielded ops a.tmps) = true := by simp [Region.wanted, hg, hy, hbw]
          rw [if_pos hw]
          have h1 := h.1 hbw
          rw [put_same (hb.trans (by rw [hbw])) (by simp [undefA])] at h1
          exact .inl (exOp_ok hT h1 hst Q)
        · have hbw2 : b = !want := by cases b <;> cases want <;> simp_all
          have hw : ¬ Region.wanted o (yielded ops a.tmps) = true := by simp [Region.wanted, hg, hy, hbw]
          rw [if_neg hw]
          have h2 := h.2 hbw2
          rw [put_same (hb.trans (by rw [hbw2])) (by simp [undefA])] at h2
          exact ⟨_, skip_st o.dst hst, h2⟩
      · rename_i vs hb
        have hy := y2 vs hb
        have hw : ¬ Region.wanted o (yielded ops a.tmps) = true := by simp [Region.wanted, hg, hy]
        rw [if_neg hw]
        exact ⟨_, skip_st o.dst hst, h⟩
      · exact h.elim
    · exact h.elim

end Go.AB

/- Regions that draw their order: every order does what the text's order does. -/
namespace Go.AB

def directly (ops : Array Oper) (i j : Nat) : Bool := match ops[j]? with
  | some o => o.after.any fun e => Region.binds .any e && e.on == i
  | none => false

/-- Each operation waits for earlier ones only; two that are not apart wait for one another; no slot is written twice. -/
def drawB0 (ops : Array Oper) : Bool := (List.range ops.size).all fun j => match ops[j]? with
  | some oj => (oj.after.all fun e => !Region.binds .any e || decide (e.on < j)) &&
    (List.range j).all fun i => match ops[i]? with
      | some oi => (directly ops i j || oi.apart ops oj) && (oi.dst == none || oi.dst != oj.dst)
      | none => true
  | none => true

def noDef (ops : Array Oper) : Bool := ops.toList.all fun o => match o.op with
  | .defer _ => false
  | _ => true

theorem noDef_spec {ops : Array Oper} (h : noDef ops = true) : ∀ o ∈ ops.toList, ∀ c, o.op ≠ .defer c := fun o ho c hc => by
  have := List.all_eq_true.1 h o ho
  rw [hc] at this
  cases this

def drawB (ops : Array Oper) : Bool := drawB0 ops && noDef ops

theorem drawB_nd {ops : Array Oper} (h : drawB ops = true) : ∀ o ∈ ops.toList, ∀ c, o.op ≠ .defer c := by
  simp only [drawB, Bool.and_eq_true] at h
  exact noDef_spec h.2

structure DrawOk (ops : Array Oper) : Prop where
  back : ∀ (j : Nat) o, ops[j]? = some o → ∀ e ∈ o.after, Region.binds .any e = true → e.on < j
  apart : ∀ (i j : Nat) oi oj, i < j → ops[i]? = some oi → ops[j]? = some oj → (∃ e ∈ oj.after, Region.binds .any e = true ∧ e.on = i) ∨ oi.apart ops oj = true
  once : ∀ (i j : Nat) oi oj d, i ≠ j → ops[i]? = some oi → ops[j]? = some oj → oi.dst = some d → oj.dst ≠ some d

theorem drawB_spec {ops : Array Oper} (h : drawB ops = true) : DrawOk ops := by
  simp only [drawB, Bool.and_eq_true] at h
  replace h := h.1
  have h0 : ∀ (j : Nat) oj, ops[j]? = some oj → (∀ e ∈ oj.after, Region.binds .any e = true → e.on < j) ∧
      ∀ (i : Nat) oi, i < j → ops[i]? = some oi → ((∃ e ∈ oj.after, Region.binds .any e = true ∧ e.on = i) ∨ oi.apart ops oj = true) ∧ (oi.dst = none ∨ oi.dst ≠ oj.dst) := by
    intro j oj hj
    have hlt := (Array.getElem?_eq_some_iff.1 hj).1
    have h1 := List.all_eq_true.1 h j (List.mem_range.2 hlt)
    simp only [hj, Bool.and_eq_true] at h1
    obtain ⟨h1, h2⟩ := h1
    refine ⟨fun e he hb => ?_, fun i oi hij hi => ?_⟩
    · have := Array.all_eq_true_iff_forall_mem.1 h1 e he
      simpa [hb] using this
    · have h3 := List.all_eq_true.1 h2 i (List.mem_range.2 hij)
      simp only [hi, Bool.and_eq_true, Bool.or_eq_true] at h3
      obtain ⟨h3, h4⟩ := h3
      refine ⟨h3.imp (fun h3 => ?_) id, ?_⟩
      · simp only [directly, hj] at h3
        obtain ⟨e, he, hb⟩ := Array.any_eq_true'.1 h3
        simp only [Bool.and_eq_true, beq_iff_eq] at hb
        exact ⟨e, he, hb⟩
      · rcases h4 with h4 | h4
        · exact .inl (by simpa using h4)
        · exact .inr (by simpa using h4)
  refine ⟨fun j o hj => (h0 j o hj).1, fun i j oi oj hij hi hj => ((h0 j oj hj).2 i oi hij hi).1, fun i j oi oj d hne hi hj hd hd' => ?_⟩
  rcases Nat.lt_or_gt_of_ne hne with hlt | hlt
  · rcases ((h0 j oj hj).2 i oi hlt hi).2 with h1 | h1
    · rw [h1] at hd; cases hd
    · exact h1 (hd.trans hd'.symm)
  · rcases ((h0 i oi hi).2 j oj hlt hj).2 with h1 | h1
    · rw [h1] at hd'; cases hd'
    · exact h1 (hd'.trans hd.symm)

def puts (σ : AS) : List Oper → List AV → AS
  | o :: r, v :: vs => puts (σ.put o.dst v) r vs
  | _, _ => σ

theorem put_m (σ : AS) (d : Option Nat) (v : AV) : (σ.put d v).m = σ.m := by cases d <;> rfl
theorem put_len (σ : AS) (d : Option Nat) (v : AV) : (σ.put d v).s.length = σ.s.length := by cases d <;> simp [AS.put]
theorem puts_m : ∀ (l : List Oper) (σ : AS) (vs : List AV), (puts σ l vs).m = σ.m
  | [], _, _ => by unfold puts; rfl
  | _ :: _, _, [] => by unfold puts; rfl
  | o :: r, σ, v :: vs => by unfold puts; rw [puts_m, put_m]
theorem puts_len : ∀ (l : List Oper) (σ : AS) (vs : List AV), (puts σ l vs).s.length = σ.s.length
  | [], _, _ => by unfold puts; rfl
  | _ :: _, _, [] => by unfold puts; rfl
  | o :: r, σ, v :: vs => by unfold puts; rw [puts_len, put_len]

theorem put_ne {σ : AS} {dst : Option Nat} {v : AV} {t : Nat} (h : dst ≠ some t) : nth (σ.put dst v).s t = nth σ.s t := by
  cases dst with
  | none => rfl
  | some d =>
    simp only [AS.put, nth_set]
    rw [if_neg]
    rintro ⟨rfl, _⟩
    exact h rfl

theorem put_eq {σ : AS} {d : Nat} {v : AV} : nth (σ.put (some d) v).s d = if d < σ.s.length then v else undefA := by
  simp only [AS.put, nth_set, true_and]
  split
  · rfl
  · exact nth_ge (by omega)

theorem puts_rest {t : Nat} : ∀ (l : List Oper) (σ : AS) (vs : List AV), (∀ o ∈ l, o.dst ≠ some t) → nth (puts σ l vs).s t = nth σ.s t
  | [], _, _, _ => by unfold puts; rfl
  | _ :: _, _, [], _ => by unfold puts; rfl
  | o :: r, σ, v :: vs, h => by
    unfold puts
    rw [puts_rest r _ vs (fun o' ho' => h o' (List.mem_cons_of_mem _ ho')), put_ne (h o (List.mem_cons_self ..))]

theorem puts_done {d : Nat} : ∀ (l : List Oper) (σ : AS) (vs : List AV) (i : Nat) (o : Oper) (v : AV), l[i]? = some o → vs[i]? = some v → o.dst = some d →
    (∀ (j : Nat) o', i < j → l[j]? = some o' → o'.dst ≠ some d) → nth (puts σ l vs).s d = if d < σ.s.length then v else undefA
  | [], _, _, i, o, v, h1, _, _, _ => by simp at h1
  | _ :: _, _, [], i, o, v, _, h2, _, _ => by simp at h2
  | o0 :: r, σ, v0 :: vs, 0, o, v, h1, h2, h3, h4 => by
    simp only [List.getElem?_cons_zero, Option.some.injEq] at h1 h2
    subst h1 h2
    unfold puts
    rw [puts_rest r _ vs (fun o' ho' => by
      obtain ⟨j, hj⟩ := List.getElem?_of_mem ho'
      exact h4 (j + 1) o' (Nat.succ_pos _) (by simpa using hj)), h3, put_eq]
  | o0 :: r, σ, v0 :: vs, i + 1, o, v, h1, h2, h3, h4 => by
    unfold puts
    rw [puts_done r _ vs i o v (by simpa using h1) (by simpa using h2) h3 (fun j o' hj ho' => h4 (j + 1) o' (Nat.succ_lt_succ hj) (by simpa using ho')), put_len]

theorem text {P : Program} {ops : Array Oper} : ∀ (l : List Oper) (σ : AS) (K : AS → Prop), exOpsD P ops l σ K →
    ∃ vs : List AV, vs.length = l.length ∧ K (puts σ l vs) ∧ ∀ (i : Nat) (o : Oper) (v : AV), l[i]? = some o → vs[i]? = some v → YieldsA P ops o v (puts σ (l.take i) (vs.take i))
  | [], σ, K, h => ⟨[], rfl, by unfold puts; exact h, by simp⟩
  | o :: r, σ, K, h => by
    obtain ⟨v, h1, h2⟩ := exGD_local h
    obtain ⟨vs, g1, g2, g3⟩ := text r (σ.put o.dst v) K h1
    refine ⟨v :: vs, by simp [g1], by unfold puts; exact g2, fun i o' v' hi hv => ?_⟩
    cases i with
    | zero =>
      simp only [List.getElem?_cons_zero, Option.some.injEq] at hi hv
      subst hi hv
      simp only [List.take_zero]
      unfold puts
      exact h2
    | succ i =>
      simp only [List.take_succ_cons]
      unfold puts
      exact g3 i o' v' (by simpa using hi) (by simpa using hv)

/-- The state when the operations of L have been. -/
structure JL (ops : Array Oper) (vs : List AV) (σ0 : AS) (L : Array Bool) (σ : AS) : Prop where
  size : L.size = ops.size
  len : σ.s.length = σ0.s.length
  h : σ.m.h = σ0.m.h
  o : σ.m.o = σ0.m.o
  nx : σ0.m.nx ≤ σ.m.nx
  lv : ∀ j, σ0.m.lv j → σ.m.lv j
  closed : ∀ (j : Nat) o, ops[j]? = some o → L.getD j false = true → ∀ e ∈ o.after, Region.binds .any e = true → L.getD e.on false = true
  done : ∀ (i : Nat) o v d, ops[i]? = some o → vs[i]? = some v → o.dst = some d → L.getD i false = true → nth σ.s d = if d < σ0.s.length then v else undefA
  rest : ∀ t, (∀ (i : Nat) o, ops[i]? = some o → L.getD i false = true → o.dst ≠ some t) → nth σ.s t = nth σ0.s t

section
variable {P : Program} {E : Env} {ops : Array Oper} {vs : List AV} {σ0 : AS}

theorem JL.agree (hd : DrawOk ops) (hl : vs.length = ops.size) {L : Array Bool} {σ : AS} (J : JL ops vs σ0 L σ) {i : Nat} {o : Oper} (hi : ops[i]? = some o) (hr : i ∈ Region.ready .any ops L) :
    Agree ops o (puts σ0 (ops.toList.take i) (vs.take i)) σ := by
  obtain ⟨hun, o', ho', hall⟩ := mem_ready.1 hr
  rw [hi] at ho'
  cases ho'
  have hilt := (Array.getElem?_eq_some_iff.1 hi).1
  have hun' : L.getD i false = false := by
    have hsz := J.size
    simp only [Array.getD_eq_getD_getElem?] at hun ⊢
    have : i < L.size := by omega
    simp only [Array.getElem?_eq_getElem this, Option.getD_some] at hun ⊢
    exact hun
  refine ⟨fun t ht => ?_, by rw [puts_m, J.h], by rw [puts_m, J.o]⟩
  have hvi : ∀ j, j < ops.size → ∃ v, vs[j]? = some v := fun j hj => ⟨_, List.getElem?_eq_getElem (by omega)⟩
  by_cases hw : ∃ (j : Nat) (oj : Oper), ops[j]? = some oj ∧ oj.dst = some t
  · obtain ⟨j, oj, hj, hdj⟩ := hw
    have hjlt := (Array.getElem?_eq_some_iff.1 hj).1
    obtain ⟨v, hv⟩ := hvi j hjlt
    rcases Nat.lt_trichotomy j i with hlt | heq | hgt
    · have hL : L.getD j false = true := by
        rcases hd.apart j i oj o hlt hj hi with ⟨e, he, hb, heq⟩ | hap
        · rw [← heq]; exact hall e he hb
        · exact absurd ht ((Oper.apart_spec hap).1 t hdj)
      rw [J.done j oj v t hj hv hdj hL]
      rw [puts_done (ops.toList.take i) σ0 (vs.take i) j oj v (by rw [List.getElem?_take]; simp [hlt, hj]) (by rw [List.getElem?_take]; simp [hlt, hv]) hdj
        (fun k o' hk ho' => by
          rw [List.getElem?_take] at ho'
          split at ho'
          · exact hd.once j k oj o' t (by omega) hj (by simpa using ho') hdj
          · cases ho')]
    · subst heq
      rw [hi] at hj
      cases hj
      rw [puts_rest _ _ _ (fun o' ho' => by
        obtain ⟨k, hk⟩ := List.getElem?_of_mem ho'
        rw [List.getElem?_take] at hk
        split at hk
        · exact hd.once j k o o' t (by omega) hi (by simpa using hk) hdj
        · cases hk)]
      exact J.rest t fun k ok hk hL hdk => by
        by_cases hjk : k = j
        · subst hjk; rw [hun'] at hL; cases hL
        · exact hd.once k j ok o t hjk hk hi hdk hdj
    · have hLj : ¬ L.getD j false = true := fun hL => by
        rcases hd.apart i j o oj hgt hi hj with ⟨e, he, hb, heq⟩ | hap
        · have := J.closed j oj hj hL e he hb
          rw [heq, hun'] at this
          cases this
        · exact absurd ht ((Oper.apart_spec hap).2.2 t hdj)
      rw [puts_rest _ _ _ (fun o' ho' => by
        obtain ⟨k, hk⟩ := List.getElem?_of_mem ho'
        rw [List.getElem?_take] at hk
        split at hk
        · exact hd.once j k oj o' t (by omega) hj (by simpa using hk) hdj
        · cases hk)]
      exact J.rest t fun k ok hk hL hdk => by
        by_cases hjk : k = j
        · subst hjk; exact hLj hL
        · exact hd.once k j ok oj t hjk hk hj hdk hdj
  · rw [puts_rest _ _ _ (fun o' ho' => by
      obtain ⟨k, hk⟩ := List.getElem?_of_mem ho'
      rw [List.getElem?_take] at hk
      split at hk
      · exact fun hdk => hw ⟨k, o', by simpa using hk, hdk⟩
      · cases hk)]
    exact J.rest t fun k ok hk hL hdk => hw ⟨k, ok, hk, hdk⟩

theorem JL.step (hd : DrawOk ops) {L : Array Bool} {σ : AS} (J : JL ops vs σ0 L σ) {i : Nat} {o : Oper} {v : AV} (hi : ops[i]? = some o) (hv : vs[i]? = some v) (hr : i ∈ Region.ready .any ops L)
    {nx : Nat} {lv : Nat → Prop} (h1 : σ.m.nx ≤ nx) (h2 : ∀ j, σ.m.lv j → lv j) : JL ops vs σ0 (L.setIfInBounds i true) (AS.put ⟨σ.s, ⟨σ.m.h, σ.m.o, nx, lv⟩⟩ o.dst v) := by
  obtain ⟨hun, o', ho', hall⟩ := mem_ready.1 hr
  rw [hi] at ho'
  cases ho'
  have hsz := J.size
  have hilt := (Array.getElem?_eq_some_iff.1 hi).1
  have hset : ∀ k, (L.setIfInBounds i true).getD k false = true → k = i ∨ L.getD k false = true := fun k hk => by
    by_cases hki : k = i
    · exact .inl hki
    · rw [getD_set_ne false (Ne.symm hki)] at hk; exact .inr hk
  refine ⟨by simpa using hsz, by rw [put_len]; exact J.len, by rw [put_m]; exact J.h, by rw [put_m]; exact J.o, by rw [put_m]; exact Nat.le_trans J.nx h1, fun j hj => by rw [put_m]; exact h2 j (J.lv j hj), fun j oj hj hL e he hb => ?_,
    fun k ok u d hk hu hdk hL => ?_, fun t ht => ?_⟩
  · rcases hset j hL with rfl | hL
    · rw [hi] at hj; cases hj
      exact getD_set_true (hall e he hb)
    · exact getD_set_true (J.closed j oj hj hL e he hb)
  · rcases hset k hL with rfl | hL
    · rw [hi] at hk; cases hk
      rw [hv] at hu; cases hu
      rw [hdk, put_eq]
      simp only [J.len]
    · by_cases hki : k = i
      · subst hki
        rw [hi] at hk; cases hk
        rw [hv] at hu; cases hu
        rw [hdk, put_eq]
        simp only [J.len]
      · rw [put_ne (hd.once k i ok o d hki hk hi hdk)]
        exact J.done k ok u d hk hu hdk hL
  · have hi2 : (L.setIfInBounds i true).getD i false = true := by
      simp [show i < L.size by omega]
    rw [put_ne (ht i o hi hi2)]
    exact J.rest t fun k ok hk hL => ht k ok hk (getD_set_true hL)

theorem ready_nil (hd : DrawOk ops) {L : Array Bool} (hs : L.size = ops.size) (h : Region.ready .any ops L = []) : ∀ i, i < ops.size → L.getD i false = true := by
  intro i
  induction i using Nat.strongRecOn with
  | _ i ih =>
    intro hlt
    cases hL : L.getD i false with
    | true => rfl
    | false =>
      have : i ∈ Region.ready .any ops L := by
        refine mem_ready.2 ⟨?_, ops[i], Array.getElem?_eq_getElem hlt, fun e he hb => ?_⟩
        · simp only [Array.getD_eq_getD_getElem?] at hL ⊢
          have hl : i < L.size := by omega
          simp only [Array.getElem?_eq_getElem hl, Option.getD_some] at hL ⊢
          exact hL
        · have := hd.back i _ (Array.getElem?_eq_getElem hlt) e he hb
          exact ih e.on this (by omega)
      rw [h] at this
      cases this

theorem JL.final (hd : DrawOk ops) (hl : vs.length = ops.size) {L : Array Bool} {σ : AS} (J : JL ops vs σ0 L σ) (h : Region.ready .any ops L = []) : σ.s = (puts σ0 ops.toList vs).s := by
  have hall := ready_nil hd J.size h
  have hnth : ∀ t, nth σ.s t = nth (puts σ0 ops.toList vs).s t := by
    intro t
    by_cases hw : ∃ (j : Nat) (oj : Oper), ops[j]? = some oj ∧ oj.dst = some t
    · obtain ⟨j, oj, hj, hdj⟩ := hw
      have hjlt := (Array.getElem?_eq_some_iff.1 hj).1
      have hv := List.getElem?_eq_getElem (l := vs) (i := j) (by omega)
      rw [J.done j oj _ t hj hv hdj (hall j hjlt)]
      rw [puts_done ops.toList σ0 vs j oj _ (by simpa using hj) hv hdj (fun k o' hk ho' => hd.once j k oj o' t (by omega) hj (by simpa using ho') hdj)]
    · rw [puts_rest _ _ _ (fun o' ho' => by
        obtain ⟨k, hk⟩ := List.getElem?_of_mem ho'
        exact fun hdk => hw ⟨k, o', by simpa using hk, hdk⟩)]
      exact J.rest t fun k ok hk hL hdk => hw ⟨k, ok, hk, hdk⟩
  have hlen : σ.s.length = (puts σ0 ops.toList vs).s.length := by rw [puts_len]; exact J.len
  apply List.ext_getElem?
  intro t
  rcases Nat.lt_or_ge t σ.s.length with hlt | hge
  · rw [nth_lt hlt, nth_lt (by omega), hnth]
  · rw [List.getElem?_eq_none hge, List.getElem?_eq_none (by omega)]

theorem any_ok (hT : TabsOk P E) (hd : DrawOk ops) (hl : vs.length = ops.size) (hy : ∀ (i : Nat) (o : Oper) (v : AV), ops.toList[i]? = some o → vs[i]? = some v → YieldsA P ops o v (puts σ0 (ops.toList.take i) (vs.take i)))
    {Q : Exit → AS → Prop} (hK : ∀ nx lv, σ0.m.nx ≤ nx → (∀ j, σ0.m.lv j → lv j) → Q .normal ⟨(puts σ0 ops.toList vs).s, ⟨σ0.m.h, σ0.m.o, nx, lv⟩⟩) :
    ∀ (fuel : Nat) (L : Array Bool) (σ : AS) (a : Act) (w : World), (L.toList.filter (fun b => !b)).length ≤ fuel → JL ops vs σ0 L σ → St E σ a w → wpAny P .any ops (Lift0 E Q) fuel L a w := by
  have fin : ∀ (L : Array Bool) (σ : AS) (a : Act) (w : World), JL ops vs σ0 L σ → St E σ a w → Region.ready .any ops L = [] → Lift0 E Q .normal a w := by
    intro L σ a w J hst hr
    refine ⟨σ, hst, ?_⟩
    have h1 := J.final hd hl hr
    have := hK σ.m.nx σ.m.lv J.nx J.lv
    rw [← h1, ← J.h, ← J.o] at this
    exact this
  intro fuel
  induction fuel with
  | zero =>
    intro L σ a w hc J hst
    have hr : Region.ready .any ops L = [] := by
      apply List.eq_nil_iff_forall_not_mem.2
      intro i hi
      have hun := (mem_ready.1 hi).1
      have : i < L.size := by
        rcases Nat.lt_or_ge i L.size with h | h
        · exact h
        · simp [Array.getElem?_eq_none h] at hun
      have hm : false ∈ L.toList.filter (fun b => !b) := by
        simp only [Array.getD_eq_getD_getElem?, Array.getElem?_eq_getElem this, Option.getD_some] at hun
        rw [List.mem_filter]
        exact ⟨by rw [← hun]; simp, rfl⟩
      rw [List.eq_nil_of_length_eq_zero (Nat.le_zero.1 hc)] at hm
      cases hm
    exact ⟨hr, fin L σ a w J hst hr⟩
  | succ fuel ih =>
    intro L σ a w hc J hst
    refine ⟨fun hr => fin L σ a w J hst hr, fun i hi => ?_⟩
    obtain ⟨hun, o, ho, hall⟩ := mem_ready.1 hi
    have hilt := (Array.getElem?_eq_some_iff.1 ho).1
    have hv := List.getElem?_eq_getElem (l := vs) (i := i) (by omega)
    have ag := J.agree hd hl ho hi
    have key := hy i o _ (by simpa using ho) hv σ ag (fun τ => JL ops vs σ0 (L.setIfInBounds i true) τ) (fun nx lv g1 g2 => J.step hd ho hv hi g1 g2)
    have hlt : i < L.size := by have := J.size; omega
    refine wpOp_mono ?_ (exG_ok hT ho key hst)
    rintro a' w' ⟨σ', hst', J'⟩
    have J2 : ∃ σ', St E σ' a' w' ∧ JL ops vs σ0 (L.setIfInBounds i true) σ' := J'.elim (fun J' => ⟨σ', hst', J'⟩) (fun J' => ⟨_, hst'.erAt o.dst, J'⟩)
    clear J' hst'
    clear σ'
    obtain ⟨σ', hst', J'⟩ := J2
    refine ih _ σ' a' w' ?_ J' hst'
    have hf : L.toList[i]'(by simpa using hlt) = false := by
      simp only [Array.getD_eq_getD_getElem?, Array.getElem?_eq_getElem hlt, Option.getD_some] at hun
      simpa using hun
    have : (L.setIfInBounds i true).toList = L.toList.set i true := by simp
    rw [this]
    have e1 : ((L.toList.set i true).filter (fun b => !b)).length + 1 = (L.toList.filter (fun b => !b)).length := by
      rw [← List.countP_eq_length_filter, ← List.countP_eq_length_filter, List.countP_set (by simpa using hlt), hf]
      have : 0 < List.countP (fun b => !b) L.toList := List.countP_pos_iff.2 ⟨false, by rw [← hf]; exact List.getElem_mem _, rfl⟩
      simp only [Bool.not_false, Bool.not_true, if_true, Bool.false_eq_true, if_false]
      omega
    omega

theorem St.drawn {σ : AS} {a : Act} {w : World} (h : St E σ a w) : St E σ a { w with drawn := w.drawn + 1 } := by
  obtain ⟨G, hi, hs, hd, hr⟩ := h
  have hx : Ext G w G { w with drawn := w.drawn + 1 } := ⟨fun _ _ h => h, fun _ _ _ => rfl, fun _ _ h => h, Nat.le_refl _, fun _ _ _ h => h⟩
  refine ⟨G, ⟨⟨hi.kept.os, hi.kept.tape, hi.kept.output, hi.kept.size, hi.kept.block⟩, fun l cs hc => ?_, hi.gen, fun i hl => ?_, hi.lt, hi.nx, hi.fresh, hi.ext.trans hx, hi.st1⟩, hs, hd, fun t => (hr t).ext hx⟩
  · obtain ⟨b, o, h1, h2, h3, h4, h5⟩ := hi.box l cs hc
    exact ⟨b, o, h1, h2, h3, h4, fun h0 j c hj => by
      obtain ⟨h6, v, h7, h8, h9⟩ := h5.1 h0 j c hj
      exact ⟨h6, v, h7, h8, h9.ext hx⟩, fun h0 => by
      rcases h5.2 h0 with ⟨ks, vs, es, cl, k1, k2, k3⟩ | hb
      · exact .inl ⟨ks, vs, es, cl, k1, k2, k3.ext hx⟩
      · exact .inr hb⟩
  · exact hi.tok i hl

/-- A walk that ends at its end. -/
def nrm (Q : Exit → AS → Prop) : Exit → AS → Prop
  | .normal => Q .normal
  | _ => fun _ => False

theorem AW_any {P : Program} {E : Env} {ops : Array Oper} {σ0 : AS} {id : Nat} {Q : Exit → AS → Prop} (hm : P.follows .mixedOrders = true) (hnd : ∀ o ∈ ops.toList, ∀ c, o.op ≠ .defer c)
    (h : ∀ A a w, Sub A E → TabsOk P A → St A σ0 a w → wpAny P .any ops (Lift0 A (nrm Q)) ops.size (Array.replicate ops.size false) a { w with drawn := w.drawn + 1 }) : AW P E (.region id ops true) Q σ0 := by
  unfold AW
  intro hT A a w hs hst
  refine wpIn_mono (wpIn_region_any hm (any_in hnd ?_ _ _ _ _ (h A a w hs (hs.tabs hT) hst))) ?_
  · rintro ⟨a', w', σ, _, hq⟩
    exact hq
  · rintro e a' w' ⟨σ, h1, h2⟩
    cases e with
    | normal => exact ⟨A, σ, hs, h1, h2⟩
    | _ => exact h2.elim

/-- A region that draws, its operations writing nothing: as in the order of the text. -/
theorem AW_draw {id : Nat} {Q : Exit → AS → Prop} (hm : P.follows .mixedOrders = true) (hB : drawB ops = true)
    (h : exOpsD P ops ops.toList σ0 (fun τ => ∀ nx lv, τ.m.nx ≤ nx → (∀ j, τ.m.lv j → lv j) → Q .normal ⟨τ.s, ⟨τ.m.h, τ.m.o, nx, lv⟩⟩)) : AW P E (.region id ops true) Q σ0 := by
  refine AW_any hm (drawB_nd hB) fun E a w _ hT hst => ?_
  obtain ⟨vs, g1, g2, g3⟩ := text _ _ _ h
  have hd := drawB_spec hB
  refine any_ok (E := E) (P := P) (vs := vs) (σ0 := σ0) hT hd (by simpa using g1) g3 ?_ _ _ σ0 a _ ?_ ?_ (St.drawn hst)
  · intro nx lv h1 h2
    have := g2 nx lv (by rw [puts_m]; exact h1) (fun j hj => h2 j (by rw [puts_m] at hj; exact hj))
    rw [puts_m] at this
    exact this
  · exact Nat.le_trans (List.length_filter_le _ _) (by simp)
  · refine ⟨by simp, rfl, rfl, rfl, Nat.le_refl _, fun _ x => x, fun j o hj hL => ?_, fun i o v d _ _ _ hL => ?_, fun t _ => rfl⟩
    · exfalso
      revert hL
      simp only [Array.getD_eq_getD_getElem?, Array.getElem?_replicate]
      split <;> simp
    · exfalso
      revert hL
      simp only [Array.getD_eq_getD_getElem?, Array.getElem?_replicate]
      split <;> simp
end

end Go.AB

/- How drawn regions are reckoned with. -/
namespace Go.AB

def kDraw (Q : Exit → AS → Prop) (τ : AS) : Prop := ∀ nx lv, τ.m.nx ≤ nx → (∀ j, τ.m.lv j → lv j) → Q .normal ⟨τ.s, ⟨τ.m.h, τ.m.o, nx, lv⟩⟩

section
variable {P : Program} {E : Env}
@[congr] theorem exOpsD_congr {ops : Array Oper} {l : List Oper} {σ σ' : AS} {K : AS → Prop} (h : σ = σ') : exOpsD P ops l σ K = exOpsD P ops l σ' K := by rw [h]
@[congr] theorem exGD_congr {ops : Array Oper} {o : Oper} {σ σ' : AS} {K : AS → Prop} (h : σ = σ') : exGD P ops o σ K = exGD P ops o σ' K := by rw [h]
@[congr] theorem exOpD_congr {o : Oper} {σ σ' : AS} {K : AS → Prop} (h : σ = σ') : exOpD P o σ K = exOpD P o σ' K := by rw [h]
@[congr] theorem exCallD_congr {c : Call} {σ σ' : AS} {d : Option Nat} {K : AS → Prop} (h : σ = σ') : exCallD P c σ d K = exCallD P c σ' d K := by rw [h]
@[go_sem] theorem exOpsD_nil {ops : Array Oper} {σ : AS} {K : AS → Prop} : exOpsD P ops [] σ K = K σ := (rfl)
@[go_sem] theorem exOpsD_cons {ops : Array Oper} {o : Oper} {r : List Oper} {σ : AS} {K : AS → Prop} : exOpsD P ops (o :: r) σ K = exGD P ops o σ (kOps (exOpsD P ops r) K) := (rfl)

@[go_sem] theorem exGD_eq {ops : Array Oper} {o : Oper} {σ : AS} {K : AS → Prop} : exGD P ops o σ K = (match o.guard with
  | none => exOpD P o σ K
  | some (j, want) => match (ops[j]?).bind (·.dst) with
    | some d => (match nth σ.s d with
      | .bool b => gateW want b (exOpD P o (σ.put (some d) (.bool want)) K) (K ((σ.put (some d) (.bool !want)).put o.dst undefA))
      | .raw (.tuple _) => K (σ.put o.dst undefA)
      | _ => False)
    | none => False) := (rfl)
@[go_sem] theorem exOpD_eq {o : Oper} {σ : AS} {K : AS → Prop} : exOpD P o σ K = (match o.op with
  | .move x => K (σ.put o.dst (σ.ev P o.type x))
  | .assign x => K (σ.put o.dst (σ.ev P o.type x))
  | .pick c a b => exPick (σ.ev P 0 c) (σ.ev P o.type a) (σ.ev P o.type b) (kPut σ o.dst K)
  | .build t ps => fsOk P t = true ∧ exBuild P t (evP P σ t ps) (kPut σ o.dst K)
  | .buildSlice t len ps => exLitD P t len (evP P σ t ps) (kPut σ o.dst K)
  | .load t a => exLoad P σ.m t (σ.ev P 0 a) (kPut σ o.dst K)
  | .nilCheck x => nilOk (σ.ev P 0 x) = true ∧ K (σ.put o.dst (σ.ev P 0 x))
  | .binOp op t x y _ => exBin P op t (σ.ev P t x) (σ.ev P t y) (kPut σ o.dst K)
  | .unOp op t x => exUn op (σ.ev P t x) (kPut σ o.dst K)
  | .convert s d x => exConvB P s d (σ.ev P s x) (kPut σ o.dst K)
  | .makeInterface t x => concA P t = true ∧ K (σ.put o.dst (.iface t (σ.ev P t x)))
  | .makeFunc (.func f) first caps => first.toList.length = 0 ∧ K (σ.put o.dst (.fn f (caps.toList.map (σ.ev P 0))))
  | .slice t x lo hi none => exCut P t (σ.ev P t x) (lo.map (σ.ev P 0)) (hi.map (σ.ev P 0)) (kPut σ o.dst K)
  | .fieldAddr s x f => exField P s (σ.ev P 0 x) f (kPut σ o.dst K)
  | .field s x f => exFieldV P s (σ.ev P s x) f (kPut σ o.dst K)
  | .indexAddr t x i => exIndexAddr P t (σ.ev P t x) (σ.ev P 0 i) (kPut σ o.dst K)
  | .index t x i => exIndexV P t (σ.ev P t x) (σ.ev P 0 i) (kPut σ o.dst K)
  | .extract x i => exExtract (σ.ev P 0 x) i (kPut σ o.dst K)
  | .lookup t x k ok => exLookup P σ.m t (σ.ev P t x) (σ.ev P 0 k) ok (kPut σ o.dst K)
  | .call c => exCallD P c σ o.dst K
  | _ => False) := (rfl)
@[go_sem] theorem exCallD_eq {c : Call} {σ : AS} {dst : Option Nat} {K : AS → Prop} : exCallD P c σ dst K = (match c.callee with
  | .builtin b => quietB b = true ∧ exBuiltin P b c.argTypes (evs P σ c.argTypes c.args) σ dst K
  | .value f => match fnOf (σ.ev P 0 f) with
    | some (k, caps) => bodyOk P k = true ∧ (match (evs P σ c.argTypes c.args ++ caps).any need with
      | false => ∃ as, stripL (evs P σ c.argTypes c.args ++ caps) = some as ∧ quietN P k as σ dst K
      | true => ∃ as, lendL σ.m (evs P σ c.argTypes c.args ++ caps) = some as ∧ quietK P k as σ dst K)
    | none => False
  | _ => False) := (rfl)

/-- A region that draws, its operations writing nothing: as in the order of the text. -/
theorem drawn {id : Nat} {ops : List Oper} {Q : Exit → AS → Prop} {σ0 : AS} (hm : P.follows .mixedOrders = true) (hB : drawB ops.toArray = true)
    (h : exOpsD P ops.toArray ops σ0 (kDraw Q)) : AW P E (.region id ops.toArray true) Q σ0 := AW_draw hm hB h

@[congr] theorem exLitD_congr {t len : Nat} {ps ps' : List (Nat × AV)} {K : AV → Prop} (h2 : ps = ps') : exLitD P t len ps K = exLitD P t len ps' K := by rw [h2]
@[congr] theorem quietN_congr {k : Nat} {as as' : List AV} {σ σ' : AS} {d : Option Nat} {K : AS → Prop} (h : as = as') (h2 : σ = σ') : quietN P k as σ d K = quietN P k as' σ' d K := by rw [h, h2]
theorem quiet {k : Nat} {as : List AV} {σ : AS} {dst : Option Nat} {K : AS → Prop} {r : AV} (h : PCall P k as (RV r)) (hn : plain r = true) (hK : kPut σ dst K r) : quietK P k as σ dst K := by
  unfold quietK; exact ⟨r, h, hn, hK⟩
theorem quietD {k : Nat} {as : List AV} {σ : AS} {dst : Option Nat} {K : AS → Prop} {r : AV} (h : PCall P k as (RV r)) (hn : ∀ n, shV n r = r) (hK : kPut σ dst K r) : quietN P k as σ dst K := by
  unfold quietN; exact ⟨r, h, hn, hK⟩
end

theorem kDraw_eq {Q : Exit → AS → Prop} {τ : AS} : kDraw Q τ = (∀ nx lv, τ.m.nx ≤ nx → (∀ j, τ.m.lv j → lv j) → Q .normal ⟨τ.s, ⟨τ.m.h, τ.m.o, nx, lv⟩⟩) := (rfl)
attribute [go_sem] kDraw_eq quietB exLitD keyA ckV cksV

end Go.AB
