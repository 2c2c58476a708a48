/- Abstract values and states over the model's memory: what they are, how they stand to real values and worlds, and that they stay. -/
import Derived.Calls
import Derived.Laws.World
import Derived.Laws.Sem
import Derived.RowKit
import Derived.Below
namespace Go.AB

/-- A datum that lies in memory for good. -/
inductive DV where
  | int (k : IntKind) (n : Int)
  | bool (b : Bool)
  | str (s : List UInt8)
  | raw (v : Value)
  | agg (cs : List DV)
  | sl (z : Nat) (es : List DV)

/-- Who may write behind a slice's end. -/
inductive Tok where
  | no
  | nil
  | own (i : Nat)
  deriving DecidableEq

/-- A variable in memory: one of the function's own (the slot of its operation, the how-manieth), or one that came in. -/
inductive Loc where
  | own (t g : Nat)
  | out (k : Nat)
  deriving DecidableEq

inductive AV where
  | int (k : IntKind) (n : Int)
  | bool (b : Bool)
  | str (s : List UInt8)
  | raw (v : Value)
  | agg (cs : List AV)
  | tup (vs : List AV)
  | sl (z : Nat) (es : List DV) (t : Tok)
  | ptr (l : Loc) (off : Nat)
  | ept (cs : List DV)
  | fn (f : Nat) (cs : List AV)
  | iface (t : Nat) (v : AV)
  | msl (l : Loc) (off len cap : Nat)
  | mref (l : Loc)
  | mapc (ks vs : List AV)
  | bref (l : Loc)
  | bld (T e : Nat) (s : List UInt8)

/-- The cells of a datum. -/
def dcells : DV → List DV
  | .agg cs => cs
  | d => [d]

def acells : AV → List AV
  | .agg cs => cs
  | v => [v]

mutual
def toAV : DV → AV
  | .int k n => .int k n
  | .bool b => .bool b
  | .str s => .str s
  | .raw v => .raw v
  | .agg cs => .agg (toAVs cs)
  | .sl z es => .sl z es .no
def toAVs : List DV → List AV
  | [] => []
  | d :: r => toAV d :: toAVs r
end

/-- A value as a datum of one cell. -/
def toD1 : AV → Option DV
  | .int k n => some (.int k n)
  | .bool b => some (.bool b)
  | .str s => some (.str s)
  | .raw v => some (.raw v)
  | .sl z es _ => some (.sl z es)
  | _ => none
def toDs : List AV → Option (List DV)
  | [] => some []
  | v :: r => match toD1 v with
    | none => none
    | some d => match toDs r with
      | none => none
      | some ds => some (d :: ds)
def toDV : AV → Option DV
  | .agg cs => match toDs cs with
    | none => none
    | some ds => some (.agg ds)
  | v => toD1 v

def oneCell : Value → Bool
  | .agg _ | .tuple _ => false
  | _ => true

/-- A cell's datum, read in a world, out of cells that stay. -/
inductive RepD (st : Nat → Nat → Prop) (w : World) : DV → Value → Prop where
  | int (k n) : RepD st w (.int k n) (.int k n)
  | bool (b) : RepD st w (.bool b) (.bool b)
  | str (s) : RepD st w (.str s) (.string ⟨s.toArray⟩)
  | raw (v) : oneCell v = true → RepD st w (.raw v) v
  | emp (z A) : RepD st w (.sl z []) (.slice A 0 0)
  | sl (z : Nat) (es : List DV) (b o c : Nat) (f : Nat → Nat → Value) :
      es.length ≤ c → c ≤ maxLen →
      (∀ (i : Nat) (e : DV), es[i]? = some e → (dcells e).length = z) →
      (∀ (i : Nat) (e : DV), es[i]? = some e → ∀ (j : Nat) (d : DV), (dcells e)[j]? = some d → st b (o + (i * z + j)) ∧ w.cell? ⟨b, o + (i * z + j), none⟩ = some (f i j)) →
      (∀ (i : Nat) (e : DV), es[i]? = some e → ∀ (j : Nat) (d : DV), (dcells e)[j]? = some d → RepD st w d (f i j)) →
      RepD st w (.sl z es) (.slice (some ⟨b, o, none⟩) es.length c)

/-- What is known of the real memory beside the abstract state. -/
structure Gh where
  /-- the cells that stay as they are for good -/
  st : Nat → Nat → Prop
  /-- where a variable lies -/
  bx : Loc → Option (Nat × Nat)
  /-- block, place, length, capacity and cells an element, of what a live mark owns; or that it is nil -/
  tk : Nat → Option (Option (Nat × Nat × Nat × Nat × Nat))
  nx : Nat
  /-- to whom a block belongs: 0 nobody; to a variable; to a mark -/
  who : Nat → Option (Loc ⊕ Nat)

/-- The elements of a slice lie from an address on. -/
def SlAt (st : Nat → Nat → Prop) (w : World) (es : List DV) (A : Option Addr) (c z : Nat) : Prop :=
  es.length ≤ c ∧ c ≤ maxLen ∧ (∀ (i : Nat) (e : DV), es[i]? = some e → (dcells e).length = z) ∧
  ((es = [] ∧ c = 0) ∨ ∃ b o, A = some ⟨b, o, none⟩ ∧ ∀ (i : Nat) (e : DV), es[i]? = some e → ∀ (j : Nat) (d : DV), (dcells e)[j]? = some d →
    st b (o + (i * z + j)) ∧ ∃ v, w.cell? ⟨b, o + (i * z + j), none⟩ = some v ∧ RepD st w d v)

def CsAt (st : Nat → Nat → Prop) (w : World) (cs : List DV) (b o : Nat) : Prop :=
  ∀ j d, cs[j]? = some d → st b (o + j) ∧ ∃ v, w.cell? ⟨b, o + j, none⟩ = some v ∧ RepD st w d v

def TokAt (G : Gh) (n : Nat) (A : Option Addr) (c z : Nat) : Tok → Prop
  | .no => True
  | .nil => A = none
  | .own i => i < G.nx ∧ ∀ x, G.tk i = some x → (A = none ∧ x = none) ∨ ∃ b o, A = some ⟨b, o, none⟩ ∧ x = some (b, o, n, c, z)

/-- Where a map lies its place is this one. -/
def mapMark : Nat := 1180591620717411303424

inductive RepA (G : Gh) (w : World) : AV → Value → Prop where
  | int (k n) : RepA G w (.int k n) (.int k n)
  | bool (b) : RepA G w (.bool b) (.bool b)
  | str (s) : RepA G w (.str s) (.string ⟨s.toArray⟩)
  | raw (v) : RepA G w (.raw v) v
  | agg (cs : List AV) (vs : List Value) : vs.length = cs.length → (∀ v ∈ vs, oneCell v = true) → (∀ (i : Nat) (c : AV) (v : Value), cs[i]? = some c → vs[i]? = some v → RepA G w c v) → RepA G w (.agg cs) (.agg vs.toArray)
  | tup (cs : List AV) (vs : List Value) : vs.length = cs.length → (∀ (i : Nat) (c : AV) (v : Value), cs[i]? = some c → vs[i]? = some v → RepA G w c v) → RepA G w (.tup cs) (.tuple vs.toArray)
  | sl (z es t A c) : SlAt G.st w es A c z → TokAt G es.length A c z t → RepA G w (.sl z es t) (.slice A es.length c)
  | ptr (l off b o) : G.bx l = some (b, o) → o ≠ mapMark → RepA G w (.ptr l off) (.pointer (some ⟨b, o + off, none⟩))
  | ept (cs b o) : CsAt G.st w cs b o → RepA G w (.ept cs) (.pointer (some ⟨b, o, none⟩))
  | fn (f : Nat) (cs : List AV) (vs : List Value) : vs.length = cs.length → (∀ (i : Nat) (c : AV) (v : Value), cs[i]? = some c → vs[i]? = some v → RepA G w c v) → RepA G w (.fn f cs) (.func (.func f) #[] vs.toArray)
  | iface (t v x) : RepA G w v x → RepA G w (.iface t v) (.iface t x)
  | msl (l off len cap b o) : G.bx l = some (b, o) → o ≠ mapMark → len ≤ cap → cap ≤ maxLen → RepA G w (.msl l off len cap) (.slice (some ⟨b, o + off, none⟩) len cap)
  | mref (l b) : G.bx l = some (b, mapMark) → RepA G w (.mref l) (.map (some b))
  | bref (l b) : G.bx l = some (b, mapMark) → RepA G w (.bref l) (.pointer (some ⟨b, 0, none⟩))

/-- The state of the memory that a function's code has made, or was handed. -/
structure AH where
  h : List (Nat × Nat × List AV)
  o : List (List AV)
  nx : Nat
  lv : Nat → Prop

structure AS where
  s : List AV
  m : AH

/-- The world at the call, and the old blocks that may change. -/
structure Env where
  w0 : World
  may : Nat → Prop
  /-- what was known of the memory at the call -/
  g0 : Gh

structure Kept (E : Env) (w : World) : Prop where
  os : w.os = E.w0.os
  tape : w.tape = E.w0.tape
  output : w.output = E.w0.output
  size : E.w0.heap.size ≤ w.heap.size
  block : ∀ b, b < E.w0.heap.size → ¬ E.may b → w.heap[b]? = E.w0.heap[b]?

/-- A step of the memory: what stays. -/
structure Ext (G : Gh) (w : World) (G' : Gh) (w' : World) : Prop where
  st : ∀ b o, G.st b o → G'.st b o
  cell : ∀ b o, G.st b o → w'.cell? ⟨b, o, none⟩ = w.cell? ⟨b, o, none⟩
  bx : ∀ l x, G.bx l = some x → G'.bx l = some x
  nx : G.nx ≤ G'.nx
  tk : ∀ i x, i < G.nx → G'.tk i = some x → G.tk i = some x

theorem Ext.refl (G : Gh) (w : World) : Ext G w G w := ⟨fun _ _ h => h, fun _ _ _ => rfl, fun _ _ h => h, Nat.le_refl _, fun _ _ _ h => h⟩

theorem Ext.trans {G1 G2 G3 : Gh} {w1 w2 w3 : World} (h : Ext G1 w1 G2 w2) (k : Ext G2 w2 G3 w3) : Ext G1 w1 G3 w3 :=
  ⟨fun b o x => k.st b o (h.st b o x), fun b o x => (k.cell b o (h.st b o x)).trans (h.cell b o x), fun l x y => k.bx l x (h.bx l x y), Nat.le_trans h.nx k.nx,
   fun i x hi hx => h.tk i x hi (k.tk i x (Nat.lt_of_lt_of_le hi h.nx) hx)⟩

theorem RepD.ext {st st' : Nat → Nat → Prop} {w w' : World} (hs : ∀ b o, st b o → st' b o) (hc : ∀ b o, st b o → w'.cell? ⟨b, o, none⟩ = w.cell? ⟨b, o, none⟩)
    {d : DV} {v : Value} (h : RepD st w d v) : RepD st' w' d v := by
  induction h with
  | int k n => exact .int k n
  | bool b => exact .bool b
  | str s => exact .str s
  | raw v h => exact .raw v h
  | emp z A => exact .emp z A
  | sl z es b o c f h1 h2 h3 h4 _ ih =>
    exact .sl z es b o c f h1 h2 h3 (fun i e he j d hd => ⟨hs _ _ (h4 i e he j d hd).1, (hc _ _ (h4 i e he j d hd).1).trans (h4 i e he j d hd).2⟩) ih

theorem SlAt.ext {st st' : Nat → Nat → Prop} {w w' : World} (hs : ∀ b o, st b o → st' b o) (hc : ∀ b o, st b o → w'.cell? ⟨b, o, none⟩ = w.cell? ⟨b, o, none⟩)
    {es : List DV} {A : Option Addr} {c z : Nat} (h : SlAt st w es A c z) : SlAt st' w' es A c z := by
  obtain ⟨h1, h2, h3, h4⟩ := h
  refine ⟨h1, h2, h3, ?_⟩
  rcases h4 with h4 | ⟨b, o, hA, h4⟩
  · exact .inl h4
  · refine .inr ⟨b, o, hA, fun i e he j d hd => ?_⟩
    obtain ⟨h5, v, h6, h7⟩ := h4 i e he j d hd
    exact ⟨hs _ _ h5, v, (hc _ _ h5).trans h6, h7.ext hs hc⟩

theorem CsAt.ext {st st' : Nat → Nat → Prop} {w w' : World} (hs : ∀ b o, st b o → st' b o) (hc : ∀ b o, st b o → w'.cell? ⟨b, o, none⟩ = w.cell? ⟨b, o, none⟩)
    {cs : List DV} {b o : Nat} (h : CsAt st w cs b o) : CsAt st' w' cs b o := fun j d hd => by
  obtain ⟨h5, v, h6, h7⟩ := h j d hd
  exact ⟨hs _ _ h5, v, (hc _ _ h5).trans h6, h7.ext hs hc⟩

theorem RepA.ext {G G' : Gh} {w w' : World} (x : Ext G w G' w') {a : AV} {v : Value} (h : RepA G w a v) : RepA G' w' a v := by
  induction h with
  | int k n => exact .int k n
  | bool b => exact .bool b
  | str s => exact .str s
  | raw v => exact .raw v
  | agg cs vs h1 h2 _ ih => exact .agg cs vs h1 h2 ih
  | tup cs vs h1 _ ih => exact .tup cs vs h1 ih
  | sl z es t A c h1 h2 =>
    refine .sl z es t A c (h1.ext x.st x.cell) ?_
    cases t with
    | no => trivial
    | nil => exact h2
    | own i => exact ⟨Nat.lt_of_lt_of_le h2.1 x.nx, fun y hy => h2.2 y (x.tk i y h2.1 hy)⟩
  | ptr l off b o h h0 => exact .ptr l off b o (x.bx l _ h) h0
  | mref l b h => exact .mref l b (x.bx l _ h)
  | bref l b h => exact .bref l b (x.bx l _ h)
  | ept cs b o h => exact .ept cs b o (h.ext x.st x.cell)
  | fn f cs vs h1 _ ih => exact .fn f cs vs h1 ih
  | iface t v x _ ih => exact .iface t v x ih
  | msl l off len cap b o h h0 h1 h2 => exact .msl l off len cap b o (x.bx l _ h) h0 h1 h2

/-- Cells lie at a place, not frozen. -/
def CellsAt (G : Gh) (w : World) (b o : Nat) (cs : List AV) : Prop :=
  ∀ j c, cs[j]? = some c → w.frozen? ⟨b, o + j, none⟩ = false ∧ ∃ v, w.cell? ⟨b, o + j, none⟩ = some v ∧ oneCell v = true ∧ RepA G w c v

/-- A map's keys and elements. -/
def EntsAt (G : Gh) (w : World) (ks vs : List AV) (es : List MapEntry) : Prop :=
  es.length = ks.length ∧ vs.length = ks.length ∧ ∀ (i : Nat) (k v : AV) (e : MapEntry), ks[i]? = some k → vs[i]? = some v → es[i]? = some e → RepA G w k e.key ∧ RepA G w v e.val

/-- A builder's buffer: nil, or a row of its own. -/
def RowAt (E : Env) (G : Gh) (w : World) (b e : Nat) (s : List UInt8) (v : Value) : Prop :=
  (v = .slice none 0 0 ∧ s = []) ∨ ∃ g cap cur fz, v = .slice (some ⟨g, 0, none⟩) s.length cap ∧ s ≠ [] ∧ g ≠ b ∧ G.who g = G.who b ∧ (∀ j, ¬ G.st g j) ∧ (E.may g ∨ E.w0.heap.size ≤ g) ∧
    w.heap[g]? = some (.cells cur e fz) ∧ fz.2 ≤ s.length ∧ s.length ≤ cap ∧ cap ≤ maxLen ∧ cur.size = cap ∧ cur.toList.take s.length = s.map (fun x => Value.int .u8 x.toNat)

/-- A builder: its own address or nil, and its buffer. -/
def BldAt (E : Env) (G : Gh) (w : World) (b : Nat) (cs : List AV) : Prop :=
  ∃ T e s p v, cs = [.bld T e s] ∧ w.heap[b]? = some (.cells #[p, v] T (0, 0)) ∧ (p = .pointer none ∨ p = .pointer (some ⟨b, 0, none⟩)) ∧ RowAt E G w b e s v

def MapAt (E : Env) (G : Gh) (w : World) (b : Nat) (cs : List AV) : Prop :=
  (∃ ks vs es clock, cs = [.mapc ks vs] ∧ w.heap[b]? = some (.map es clock) ∧ EntsAt G w ks vs es.toList) ∨ BldAt E G w b cs

theorem EntsAt.ext {G G' : Gh} {w w' : World} {ks vs : List AV} {es : List MapEntry} (h : EntsAt G w ks vs es) (x : Ext G w G' w') : EntsAt G' w' ks vs es :=
  ⟨h.1, h.2.1, fun i k v e h1 h2 h3 => ⟨(h.2.2 i k v e h1 h2 h3).1.ext x, (h.2.2 i k v e h1 h2 h3).2.ext x⟩⟩

/-- The entry of a slot's variable. -/
def hget : List (Nat × Nat × List AV) → Nat → Option (Nat × List AV)
  | [], _ => none
  | (s, g, cs) :: r, t => if s = t then some (g, cs) else hget r t

def hset : List (Nat × Nat × List AV) → Nat → Nat → List AV → List (Nat × Nat × List AV)
  | [], t, g, cs => [(t, g, cs)]
  | (s, g', cs') :: r, t, g, cs => if s = t then (t, g, cs) :: r else (s, g', cs') :: hset r t g cs

theorem hget_set_self (h : List (Nat × Nat × List AV)) (t g : Nat) (cs : List AV) : hget (hset h t g cs) t = some (g, cs) := by
  induction h with
  | nil => simp [hset, hget]
  | cons x r ih =>
    obtain ⟨s, g', cs'⟩ := x
    unfold hset
    split
    · simp [hget]
    · rename_i hne; simp [hget, hne, ih]

theorem hget_set_ne (h : List (Nat × Nat × List AV)) {t t' : Nat} (g : Nat) (cs : List AV) (hne : t ≠ t') : hget (hset h t g cs) t' = hget h t' := by
  induction h with
  | nil => simp [hset, hget, hne]
  | cons x r ih =>
    obtain ⟨s, g', cs'⟩ := x
    unfold hset
    split
    · rename_i hs; subst hs; simp [hget, hne]
    · simp only [hget]; split <;> simp_all

/-- The cells of a variable. -/
def AH.cells (m : AH) : Loc → Option (List AV)
  | .own t g => match hget m.h t with
    | some (g', cs) => if g = g' then some cs else none
    | none => none
  | .out k => m.o[k]?

def AH.setCells (m : AH) (l : Loc) (cs : List AV) : AH := match l with
  | .own t g => { m with h := hset m.h t g cs }
  | .out k => { m with o := m.o.set k cs }

/-- A variable's cells lie at its place, may be written, and are nobody else's. -/
def BoxAt (E : Env) (G : Gh) (w : World) (l : Loc) (cs : List AV) : Prop :=
  ∃ b o, G.bx l = some (b, o) ∧ G.who b = some (.inl l) ∧ (E.may b ∨ E.w0.heap.size ≤ b) ∧ (∀ i, ¬ G.st b i) ∧
    (o ≠ mapMark → CellsAt G w b o cs) ∧ (o = mapMark → MapAt E G w b cs)

def TokOwn (E : Env) (G : Gh) (w : World) (i : Nat) : Prop :=
  G.tk i = some none ∨ ∃ b o n c z cells ty, G.tk i = some (some (b, o, n, c, z)) ∧ G.who b = some (.inr i) ∧ (E.may b ∨ E.w0.heap.size ≤ b) ∧
    w.heap[b]? = some (.cells cells ty (0, 0)) ∧ o + c * z ≤ cells.size ∧ n ≤ c ∧ ∀ j, o + n * z ≤ j → ¬ G.st b j

structure Inv (E : Env) (G : Gh) (m : AH) (w : World) : Prop where
  kept : Kept E w
  box : ∀ l cs, m.cells l = some cs → BoxAt E G w l cs
  gen : ∀ t g, (hget m.h t = none ∨ ∃ g' cs, hget m.h t = some (g', cs) ∧ g' < g) → G.bx (.own t g) = none
  tok : ∀ i, m.lv i → TokOwn E G w i
  lt : ∀ i, m.lv i → i < m.nx
  nx : G.nx = m.nx
  fresh : ∀ b, w.heap.size ≤ b → G.who b = none ∧ ∀ j, ¬ G.st b j
  ext : Ext E.g0 E.w0 G w
  st1 : ∀ b o, G.st b o → b < E.w0.heap.size → E.g0.st b o ∨ E.may b

def undefA : AV := .raw undef

def nth : List AV → Nat → AV
  | [], _ => undefA
  | a :: _, 0 => a
  | _ :: l, n + 1 => nth l n

/-- A real state of a function's frame and the world, and the abstract one. -/
def St (E : Env) (σ : AS) (a : Act) (w : World) : Prop :=
  ∃ G, Inv E G σ.m w ∧ a.tmps.size = σ.s.length ∧ a.defers = [] ∧ ∀ t, RepA G w (nth σ.s t) (a.tmps.getD t undef)

theorem nth_lt : ∀ {l : List AV} {n : Nat} (_ : n < l.length), l[n]? = some (nth l n)
  | a :: l, 0, _ => rfl
  | a :: l, n + 1, h => by
    have h' : n < l.length := Nat.lt_of_succ_lt_succ h
    simp only [List.getElem?_cons_succ, nth]
    exact nth_lt h'

theorem nth_ge : ∀ {l : List AV} {n : Nat} (_ : l.length ≤ n), nth l n = undefA
  | [], _, _ => by unfold nth; rfl
  | a :: l, 0, h => absurd h (by simp)
  | a :: l, n + 1, h => by
    simp only [nth]
    exact nth_ge (Nat.le_of_succ_le_succ h)

theorem nth_set : ∀ (l : List AV) (d n : Nat) (v : AV), nth (l.set d v) n = if d = n ∧ d < l.length then v else nth l n
  | [], d, n, v => by simp [nth]
  | a :: l, 0, 0, v => by simp [nth]
  | a :: l, 0, n + 1, v => by simp [nth]
  | a :: l, d + 1, 0, v => by simp [nth]
  | a :: l, d + 1, n + 1, v => by simp [nth, nth_set l d n v]

def AS.put (σ : AS) (dst : Option Nat) (v : AV) : AS := match dst with
  | none => σ
  | some d => { σ with s := σ.s.set d v }

/-- A step of a state: the memory went on, a slot was written. -/
theorem St.step {E : Env} {σ : AS} {a : Act} {w w' : World} {G G' : Gh} {m' : AH} (hs : a.tmps.size = σ.s.length) (hd : a.defers = [])
    (hr : ∀ t, RepA G w (nth σ.s t) (a.tmps.getD t undef)) (hx : Ext G w G' w') (hi : Inv E G' m' w') {dst : Option Nat} {v : AV} {x : Value} (hv : RepA G' w' v x) :
    St E (AS.put ⟨σ.s, m'⟩ dst v) (a.put dst x) w' := by
  refine ⟨G', ?_, ?_, ?_, ?_⟩
  · cases dst <;> exact hi
  · cases dst <;> simp [AS.put, Act.put, hs]
  · cases dst <;> simp [Act.put, hd]
  · intro t
    cases dst with
    | none => exact (hr t).ext hx
    | some d =>
      simp only [AS.put, Act.put]
      rw [nth_set]
      by_cases h : d = t ∧ d < σ.s.length
      · rw [if_pos h]
        obtain ⟨rfl, h2⟩ := h
        have : (a.tmps.setIfInBounds d x).getD d undef = x := by
          simp [Array.getD_eq_getD_getElem?, hs, h2]
        rw [this]; exact hv
      · rw [if_neg h]
        have : (a.tmps.setIfInBounds d x).getD t undef = a.tmps.getD t undef := by
          simp only [Array.getD_eq_getD_getElem?]
          rw [Array.getElem?_setIfInBounds]
          by_cases hdt : d = t
          · subst hdt
            have h2 : ¬ d < σ.s.length := fun h3 => h ⟨rfl, h3⟩
            simp [hs, h2]
          · simp [hdt]
        rw [this]
        exact (hr t).ext hx

end Go.AB
