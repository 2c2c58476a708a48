/- Abstract values and states over the model's memory: what they are, how they stand to real values and worlds, and that they stay. -/
import Derived.Calls
import Derived.Laws.World
import Derived.Laws.Sem
import Derived.RowKit
import Derived.Below
import Derived.Laws.Entries
import Derived.Laws.Cells
import Derived.Laws.CopyRow
import Derived.Laws.Small
import Derived.Laws.Append
import Derived.WideLaws
import Derived.Laws.StructEq
import Derived.Laws.Concat
import Derived.Laws.Strings
import Derived.Laws.BitsLemmas
import Derived.ChangeKeysEq
import Derived.Laws.Cover3
import Derived.Laws.Build
import Derived.Laws.IdiomCopy
import Derived.Laws.AppendOwn
import Derived.Laws.MakeOwn
import Derived.Laws.OwnMore
import Derived.Laws.Alloc2
import Derived.Laws.BytesArg
import Derived.Lib.ConvBytes
import Derived.Attr
import Derived.ChangeAgain
import Derived.Lib.LaidTab
import Derived.Lib.ItoaNum
namespace Go.AB

/-- A datum that lies in memory for good. -/
inductive DV where
  | int (k : IntKind) (n : Int)
  | bool (b : Bool)
  | str (s : List UInt8)
  | raw (v : Value)
  | agg (cs : List DV)
  | sl (z : Nat) (es : List DV)

/-- Who may write behind a slice's end. -/
inductive Tok where
  | no
  | nil
  | own (i : Nat)
  deriving DecidableEq

/-- A variable in memory: one of the function's own (the slot of its operation, the how-manieth), or one that came in. -/
inductive Loc where
  | own (t g : Nat)
  | out (k : Nat)
  deriving DecidableEq

inductive AV where
  | int (k : IntKind) (n : Int)
  | bool (b : Bool)
  | str (s : List UInt8)
  | raw (v : Value)
  | agg (cs : List AV)
  | tup (vs : List AV)
  | sl (z : Nat) (es : List DV) (t : Tok)
  | ptr (l : Loc) (off : Nat)
  | ept (cs : List DV)
  | fn (f : Nat) (cs : List AV)
  | iface (t : Nat) (v : AV)
  | msl (l : Loc) (off len cap : Nat)
  | mref (l : Loc)
  | mapc (ks vs : List AV)
  | bref (l : Loc)
  | bld (T e : Nat) (s : List UInt8)

/-- The cells of a datum. -/
def dcells : DV → List DV
  | .agg cs => cs
  | d => [d]

def acells : AV → List AV
  | .agg cs => cs
  | v => [v]

mutual
def toAV : DV → AV
  | .int k n => .int k n
  | .bool b => .bool b
  | .str s => .str s
  | .raw v => .raw v
  | .agg cs => .agg (toAVs cs)
  | .sl z es => .sl z es .no
def toAVs : List DV → List AV
  | [] => []
  | d :: r => toAV d :: toAVs r
end

/-- A value as a datum of one cell. -/
def toD1 : AV → Option DV
  | .int k n => some (.int k n)
  | .bool b => some (.bool b)
  | .str s => some (.str s)
  | .raw v => some (.raw v)
  | .sl z es _ => some (.sl z es)
  | .iface t (.int k n) => some (.raw (.iface t (.int k n)))
  | .iface t (.str s) => some (.raw (.iface t (.string ⟨s.toArray⟩)))
  | .iface t (.bool b) => some (.raw (.iface t (.bool b)))
  | _ => none
def toDs : List AV → Option (List DV)
  | [] => some []
  | v :: r => match toD1 v with
    | none => none
    | some d => match toDs r with
      | none => none
      | some ds => some (d :: ds)
def toDV : AV → Option DV
  | .agg cs => match toDs cs with
    | none => none
    | some ds => some (.agg ds)
  | v => toD1 v

def oneCell : Value → Bool
  | .agg _ | .tuple _ => false
  | _ => true

/-- A cell's datum, read in a world, out of cells that stay. -/
inductive RepD (st : Nat → Nat → Prop) (w : World) : DV → Value → Prop where
  | int (k n) : RepD st w (.int k n) (.int k n)
  | bool (b) : RepD st w (.bool b) (.bool b)
  | str (s) : RepD st w (.str s) (.string ⟨s.toArray⟩)
  | raw (v) : oneCell v = true → RepD st w (.raw v) v
  | emp (z A) : RepD st w (.sl z []) (.slice A 0 0)
  | sl (z : Nat) (es : List DV) (b o c : Nat) (f : Nat → Nat → Value) :
      es.length ≤ c → c ≤ maxLen →
      (∀ (i : Nat) (e : DV), es[i]? = some e → (dcells e).length = z) →
      (∀ (i : Nat) (e : DV), es[i]? = some e → ∀ (j : Nat) (d : DV), (dcells e)[j]? = some d → st b (o + (i * z + j)) ∧ w.cell? ⟨b, o + (i * z + j), none⟩ = some (f i j)) →
      (∀ (i : Nat) (e : DV), es[i]? = some e → ∀ (j : Nat) (d : DV), (dcells e)[j]? = some d → RepD st w d (f i j)) →
      RepD st w (.sl z es) (.slice (some ⟨b, o, none⟩) es.length c)

/-- What is known of the real memory beside the abstract state. -/
structure Gh where
  /-- the cells that stay as they are for good -/
  st : Nat → Nat → Prop
  /-- where a variable lies -/
  bx : Loc → Option (Nat × Nat)
  /-- block, place, length, capacity and cells an element, of what a live mark owns; or that it is nil -/
  tk : Nat → Option (Option (Nat × Nat × Nat × Nat × Nat))
  nx : Nat
  /-- to whom a block belongs: 0 nobody; to a variable; to a mark -/
  who : Nat → Option (Loc ⊕ Nat)

/-- The elements of a slice lie from an address on. -/
def SlAt (st : Nat → Nat → Prop) (w : World) (es : List DV) (A : Option Addr) (c z : Nat) : Prop :=
  es.length ≤ c ∧ c ≤ maxLen ∧ (∀ (i : Nat) (e : DV), es[i]? = some e → (dcells e).length = z) ∧
  ((es = [] ∧ c = 0) ∨ ∃ b o, A = some ⟨b, o, none⟩ ∧ ∀ (i : Nat) (e : DV), es[i]? = some e → ∀ (j : Nat) (d : DV), (dcells e)[j]? = some d →
    st b (o + (i * z + j)) ∧ ∃ v, w.cell? ⟨b, o + (i * z + j), none⟩ = some v ∧ RepD st w d v)

def CsAt (st : Nat → Nat → Prop) (w : World) (cs : List DV) (b o : Nat) : Prop :=
  ∀ j d, cs[j]? = some d → st b (o + j) ∧ ∃ v, w.cell? ⟨b, o + j, none⟩ = some v ∧ RepD st w d v

def TokAt (G : Gh) (n : Nat) (A : Option Addr) (c z : Nat) : Tok → Prop
  | .no => True
  | .nil => A = none
  | .own i => i < G.nx ∧ ∀ x, G.tk i = some x → (A = none ∧ x = none) ∨ ∃ b o, A = some ⟨b, o, none⟩ ∧ x = some (b, o, n, c, z)

/-- Where a map lies its place is this one. -/
def mapMark : Nat := 1180591620717411303424

inductive RepA (G : Gh) (w : World) : AV → Value → Prop where
  | int (k n) : RepA G w (.int k n) (.int k n)
  | bool (b) : RepA G w (.bool b) (.bool b)
  | str (s) : RepA G w (.str s) (.string ⟨s.toArray⟩)
  | raw (v) : RepA G w (.raw v) v
  | agg (cs : List AV) (vs : List Value) : vs.length = cs.length → (∀ v ∈ vs, oneCell v = true) → (∀ (i : Nat) (c : AV) (v : Value), cs[i]? = some c → vs[i]? = some v → RepA G w c v) → RepA G w (.agg cs) (.agg vs.toArray)
  | tup (cs : List AV) (vs : List Value) : vs.length = cs.length → (∀ (i : Nat) (c : AV) (v : Value), cs[i]? = some c → vs[i]? = some v → RepA G w c v) → RepA G w (.tup cs) (.tuple vs.toArray)
  | sl (z es t A c) : SlAt G.st w es A c z → TokAt G es.length A c z t → RepA G w (.sl z es t) (.slice A es.length c)
  | ptr (l off b o) : G.bx l = some (b, o) → o ≠ mapMark → RepA G w (.ptr l off) (.pointer (some ⟨b, o + off, none⟩))
  | ept (cs b o) : CsAt G.st w cs b o → RepA G w (.ept cs) (.pointer (some ⟨b, o, none⟩))
  | fn (f : Nat) (cs : List AV) (vs : List Value) : vs.length = cs.length → (∀ (i : Nat) (c : AV) (v : Value), cs[i]? = some c → vs[i]? = some v → RepA G w c v) → RepA G w (.fn f cs) (.func (.func f) #[] vs.toArray)
  | iface (t v x) : RepA G w v x → RepA G w (.iface t v) (.iface t x)
  | msl (l off len cap b o) : G.bx l = some (b, o) → o ≠ mapMark → len ≤ cap → cap ≤ maxLen → RepA G w (.msl l off len cap) (.slice (some ⟨b, o + off, none⟩) len cap)
  | mref (l b) : G.bx l = some (b, mapMark) → RepA G w (.mref l) (.map (some b))
  | bref (l b) : G.bx l = some (b, mapMark) → RepA G w (.bref l) (.pointer (some ⟨b, 0, none⟩))

/-- The state of the memory that a function's code has made, or was handed. -/
structure AH where
  h : List (Nat × Nat × List AV)
  o : List (List AV)
  nx : Nat
  lv : Nat → Prop

structure AS where
  s : List AV
  m : AH

/-- The world at the call, and the old blocks that may change. -/
structure Env where
  w0 : World
  may : Nat → Prop
  /-- what was known of the memory at the call -/
  g0 : Gh
  /-- in the frame of a round: whose -/
  rd : Option Nat
  /-- the deferred calls that the frame bears -/
  ds : List Deferred
  /-- objects that stay -/
  lk : List (Nat × Obj)

structure Kept (E : Env) (w : World) : Prop where
  os : w.os = E.w0.os
  tape : w.tape = E.w0.tape
  output : w.output = E.w0.output
  size : E.w0.heap.size ≤ w.heap.size
  block : ∀ b, b < E.w0.heap.size → ¬ E.may b → w.heap[b]? = E.w0.heap[b]?

/-- A step of the memory: what stays. -/
structure Ext (G : Gh) (w : World) (G' : Gh) (w' : World) : Prop where
  st : ∀ b o, G.st b o → G'.st b o
  cell : ∀ b o, G.st b o → w'.cell? ⟨b, o, none⟩ = w.cell? ⟨b, o, none⟩
  bx : ∀ l x, G.bx l = some x → G'.bx l = some x
  nx : G.nx ≤ G'.nx
  tk : ∀ i x, i < G.nx → G'.tk i = some x → G.tk i = some x

theorem Ext.refl (G : Gh) (w : World) : Ext G w G w := ⟨fun _ _ h => h, fun _ _ _ => rfl, fun _ _ h => h, Nat.le_refl _, fun _ _ _ h => h⟩

theorem Ext.trans {G1 G2 G3 : Gh} {w1 w2 w3 : World} (h : Ext G1 w1 G2 w2) (k : Ext G2 w2 G3 w3) : Ext G1 w1 G3 w3 :=
  ⟨fun b o x => k.st b o (h.st b o x), fun b o x => (k.cell b o (h.st b o x)).trans (h.cell b o x), fun l x y => k.bx l x (h.bx l x y), Nat.le_trans h.nx k.nx,
   fun i x hi hx => h.tk i x hi (k.tk i x (Nat.lt_of_lt_of_le hi h.nx) hx)⟩

theorem RepD.ext {st st' : Nat → Nat → Prop} {w w' : World} (hs : ∀ b o, st b o → st' b o) (hc : ∀ b o, st b o → w'.cell? ⟨b, o, none⟩ = w.cell? ⟨b, o, none⟩)
    {d : DV} {v : Value} (h : RepD st w d v) : RepD st' w' d v := by
  induction h with
  | int k n => exact .int k n
  | bool b => exact .bool b
  | str s => exact .str s
  | raw v h => exact .raw v h
  | emp z A => exact .emp z A
  | sl z es b o c f h1 h2 h3 h4 _ ih =>
    exact .sl z es b o c f h1 h2 h3 (fun i e he j d hd => ⟨hs _ _ (h4 i e he j d hd).1, (hc _ _ (h4 i e he j d hd).1).trans (h4 i e he j d hd).2⟩) ih

theorem SlAt.ext {st st' : Nat → Nat → Prop} {w w' : World} (hs : ∀ b o, st b o → st' b o) (hc : ∀ b o, st b o → w'.cell? ⟨b, o, none⟩ = w.cell? ⟨b, o, none⟩)
    {es : List DV} {A : Option Addr} {c z : Nat} (h : SlAt st w es A c z) : SlAt st' w' es A c z := by
  obtain ⟨h1, h2, h3, h4⟩ := h
  refine ⟨h1, h2, h3, ?_⟩
  rcases h4 with h4 | ⟨b, o, hA, h4⟩
  · exact .inl h4
  · refine .inr ⟨b, o, hA, fun i e he j d hd => ?_⟩
    obtain ⟨h5, v, h6, h7⟩ := h4 i e he j d hd
    exact ⟨hs _ _ h5, v, (hc _ _ h5).trans h6, h7.ext hs hc⟩

theorem CsAt.ext {st st' : Nat → Nat → Prop} {w w' : World} (hs : ∀ b o, st b o → st' b o) (hc : ∀ b o, st b o → w'.cell? ⟨b, o, none⟩ = w.cell? ⟨b, o, none⟩)
    {cs : List DV} {b o : Nat} (h : CsAt st w cs b o) : CsAt st' w' cs b o := fun j d hd => by
  obtain ⟨h5, v, h6, h7⟩ := h j d hd
  exact ⟨hs _ _ h5, v, (hc _ _ h5).trans h6, h7.ext hs hc⟩

theorem RepA.ext {G G' : Gh} {w w' : World} (x : Ext G w G' w') {a : AV} {v : Value} (h : RepA G w a v) : RepA G' w' a v := by
  induction h with
  | int k n => exact .int k n
  | bool b => exact .bool b
  | str s => exact .str s
  | raw v => exact .raw v
  | agg cs vs h1 h2 _ ih => exact .agg cs vs h1 h2 ih
  | tup cs vs h1 _ ih => exact .tup cs vs h1 ih
  | sl z es t A c h1 h2 =>
    refine .sl z es t A c (h1.ext x.st x.cell) ?_
    cases t with
    | no => trivial
    | nil => exact h2
    | own i => exact ⟨Nat.lt_of_lt_of_le h2.1 x.nx, fun y hy => h2.2 y (x.tk i y h2.1 hy)⟩
  | ptr l off b o h h0 => exact .ptr l off b o (x.bx l _ h) h0
  | mref l b h => exact .mref l b (x.bx l _ h)
  | bref l b h => exact .bref l b (x.bx l _ h)
  | ept cs b o h => exact .ept cs b o (h.ext x.st x.cell)
  | fn f cs vs h1 _ ih => exact .fn f cs vs h1 ih
  | iface t v x _ ih => exact .iface t v x ih
  | msl l off len cap b o h h0 h1 h2 => exact .msl l off len cap b o (x.bx l _ h) h0 h1 h2

/-- Cells lie at a place, not frozen. -/
def CellsAt (G : Gh) (w : World) (b o : Nat) (cs : List AV) : Prop :=
  ∀ j c, cs[j]? = some c → w.frozen? ⟨b, o + j, none⟩ = false ∧ ∃ v, w.cell? ⟨b, o + j, none⟩ = some v ∧ oneCell v = true ∧ RepA G w c v

/-- A map's keys and elements. -/
def EntsAt (G : Gh) (w : World) (ks vs : List AV) (es : List MapEntry) : Prop :=
  es.length = ks.length ∧ vs.length = ks.length ∧ ∀ (i : Nat) (k v : AV) (e : MapEntry), ks[i]? = some k → vs[i]? = some v → es[i]? = some e → RepA G w k e.key ∧ RepA G w v e.val

/-- A builder's buffer: nil, or a row of its own. -/
def RowAt (E : Env) (G : Gh) (w : World) (b e : Nat) (s : List UInt8) (v : Value) : Prop :=
  (v = .slice none 0 0 ∧ s = []) ∨ ∃ g cap cur fz, v = .slice (some ⟨g, 0, none⟩) s.length cap ∧ s ≠ [] ∧ g ≠ b ∧ G.who g = G.who b ∧ (∀ j, ¬ G.st g j) ∧ (E.may g ∨ E.w0.heap.size ≤ g) ∧
    w.heap[g]? = some (.cells cur e fz) ∧ fz.2 ≤ s.length ∧ s.length ≤ cap ∧ cap ≤ maxLen ∧ cur.size = cap ∧ cur.toList.take s.length = s.map (fun x => Value.int .u8 x.toNat)

/-- A builder: its own address or nil, and its buffer. -/
def BldAt (E : Env) (G : Gh) (w : World) (b : Nat) (cs : List AV) : Prop :=
  ∃ T e s p v, cs = [.bld T e s] ∧ w.heap[b]? = some (.cells #[p, v] T (0, 0)) ∧ (p = .pointer none ∨ p = .pointer (some ⟨b, 0, none⟩)) ∧ RowAt E G w b e s v

def MapAt (E : Env) (G : Gh) (w : World) (b : Nat) (cs : List AV) : Prop :=
  (∃ ks vs es clock, cs = [.mapc ks vs] ∧ w.heap[b]? = some (.map es clock) ∧ EntsAt G w ks vs es.toList) ∨ BldAt E G w b cs

theorem EntsAt.ext {G G' : Gh} {w w' : World} {ks vs : List AV} {es : List MapEntry} (h : EntsAt G w ks vs es) (x : Ext G w G' w') : EntsAt G' w' ks vs es :=
  ⟨h.1, h.2.1, fun i k v e h1 h2 h3 => ⟨(h.2.2 i k v e h1 h2 h3).1.ext x, (h.2.2 i k v e h1 h2 h3).2.ext x⟩⟩

/-- The entry of a slot's variable. -/
def hget : List (Nat × Nat × List AV) → Nat → Option (Nat × List AV)
  | [], _ => none
  | (s, g, cs) :: r, t => if s = t then some (g, cs) else hget r t

def hset : List (Nat × Nat × List AV) → Nat → Nat → List AV → List (Nat × Nat × List AV)
  | [], t, g, cs => [(t, g, cs)]
  | (s, g', cs') :: r, t, g, cs => if s = t then (t, g, cs) :: r else (s, g', cs') :: hset r t g cs

theorem hget_set_self (h : List (Nat × Nat × List AV)) (t g : Nat) (cs : List AV) : hget (hset h t g cs) t = some (g, cs) := by
  induction h with
  | nil => simp [hset, hget]
  | cons x r ih =>
    obtain ⟨s, g', cs'⟩ := x
    unfold hset
    split
    · simp [hget]
    · rename_i hne; simp [hget, hne, ih]

theorem hget_set_ne (h : List (Nat × Nat × List AV)) {t t' : Nat} (g : Nat) (cs : List AV) (hne : t ≠ t') : hget (hset h t g cs) t' = hget h t' := by
  induction h with
  | nil => simp [hset, hget, hne]
  | cons x r ih =>
    obtain ⟨s, g', cs'⟩ := x
    unfold hset
    split
    · rename_i hs; subst hs; simp [hget, hne]
    · simp only [hget]; split <;> simp_all

/-- The cells of a variable. -/
def AH.cells (m : AH) : Loc → Option (List AV)
  | .own t g => match hget m.h t with
    | some (g', cs) => if g = g' then some cs else none
    | none => none
  | .out k => m.o[k]?

def AH.setCells (m : AH) (l : Loc) (cs : List AV) : AH := match l with
  | .own t g => { m with h := hset m.h t g cs }
  | .out k => { m with o := m.o.set k cs }

/-- A variable's cells lie at its place, may be written, and are nobody else's. -/
def BoxAt (E : Env) (G : Gh) (w : World) (l : Loc) (cs : List AV) : Prop :=
  ∃ b o, G.bx l = some (b, o) ∧ G.who b = some (.inl l) ∧ (E.may b ∨ E.w0.heap.size ≤ b) ∧ (∀ i, ¬ G.st b i) ∧
    (o ≠ mapMark → CellsAt G w b o cs) ∧ (o = mapMark → MapAt E G w b cs)

def TokOwn (E : Env) (G : Gh) (w : World) (i : Nat) : Prop :=
  G.tk i = some none ∨ ∃ b o n c z cells ty, G.tk i = some (some (b, o, n, c, z)) ∧ G.who b = some (.inr i) ∧ (E.may b ∨ E.w0.heap.size ≤ b) ∧
    w.heap[b]? = some (.cells cells ty (0, 0)) ∧ o + c * z ≤ cells.size ∧ n ≤ c ∧ ∀ j, o + n * z ≤ j → ¬ G.st b j

structure Inv (E : Env) (G : Gh) (m : AH) (w : World) : Prop where
  kept : Kept E w
  box : ∀ l cs, m.cells l = some cs → BoxAt E G w l cs
  gen : ∀ t g, (hget m.h t = none ∨ ∃ g' cs, hget m.h t = some (g', cs) ∧ g' < g) → G.bx (.own t g) = none
  tok : ∀ i, m.lv i → TokOwn E G w i
  lt : ∀ i, m.lv i → i < m.nx
  nx : G.nx = m.nx
  fresh : ∀ b, w.heap.size ≤ b → G.who b = none ∧ ∀ j, ¬ G.st b j
  ext : Ext E.g0 E.w0 G w
  st1 : ∀ b o, G.st b o → b < E.w0.heap.size → E.g0.st b o ∨ E.may b

def undefA : AV := .raw undef

def nth : List AV → Nat → AV
  | [], _ => undefA
  | a :: _, 0 => a
  | _ :: l, n + 1 => nth l n

/-- A real state of a function's frame and the world, and the abstract one. -/
def St (E : Env) (σ : AS) (a : Act) (w : World) : Prop :=
  ∃ G, Inv E G σ.m w ∧ a.tmps.size = σ.s.length ∧ a.defers = E.ds ∧ ∀ t, RepA G w (nth σ.s t) (a.tmps.getD t undef)

theorem nth_lt : ∀ {l : List AV} {n : Nat} (_ : n < l.length), l[n]? = some (nth l n)
  | a :: l, 0, _ => rfl
  | a :: l, n + 1, h => by
    have h' : n < l.length := Nat.lt_of_succ_lt_succ h
    simp only [List.getElem?_cons_succ, nth]
    exact nth_lt h'

theorem nth_ge : ∀ {l : List AV} {n : Nat} (_ : l.length ≤ n), nth l n = undefA
  | [], _, _ => by unfold nth; rfl
  | a :: l, 0, h => absurd h (by simp)
  | a :: l, n + 1, h => by
    simp only [nth]
    exact nth_ge (Nat.le_of_succ_le_succ h)

theorem nth_set : ∀ (l : List AV) (d n : Nat) (v : AV), nth (l.set d v) n = if d = n ∧ d < l.length then v else nth l n
  | [], d, n, v => by simp [nth]
  | a :: l, 0, 0, v => by simp [nth]
  | a :: l, 0, n + 1, v => by simp [nth]
  | a :: l, d + 1, 0, v => by simp [nth]
  | a :: l, d + 1, n + 1, v => by simp [nth, nth_set l d n v]

def AS.put (σ : AS) (dst : Option Nat) (v : AV) : AS := match dst with
  | none => σ
  | some d => { σ with s := σ.s.set d v }

/-- A step of a state: the memory went on, a slot was written. -/
theorem St.step {E : Env} {σ : AS} {a : Act} {w w' : World} {G G' : Gh} {m' : AH} (hs : a.tmps.size = σ.s.length) (hd : a.defers = E.ds)
    (hr : ∀ t, RepA G w (nth σ.s t) (a.tmps.getD t undef)) (hx : Ext G w G' w') (hi : Inv E G' m' w') {dst : Option Nat} {v : AV} {x : Value} (hv : RepA G' w' v x) :
    St E (AS.put ⟨σ.s, m'⟩ dst v) (a.put dst x) w' := by
  refine ⟨G', ?_, ?_, ?_, ?_⟩
  · cases dst <;> exact hi
  · cases dst <;> simp [AS.put, Act.put, hs]
  · cases dst <;> simp [Act.put, hd]
  · intro t
    cases dst with
    | none => exact (hr t).ext hx
    | some d =>
      simp only [AS.put, Act.put]
      rw [nth_set]
      by_cases h : d = t ∧ d < σ.s.length
      · rw [if_pos h]
        obtain ⟨rfl, h2⟩ := h
        have : (a.tmps.setIfInBounds d x).getD d undef = x := by
          simp [Array.getD_eq_getD_getElem?, hs, h2]
        rw [this]; exact hv
      · rw [if_neg h]
        have : (a.tmps.setIfInBounds d x).getD t undef = a.tmps.getD t undef := by
          simp only [Array.getD_eq_getD_getElem?]
          rw [Array.getElem?_setIfInBounds]
          by_cases hdt : d = t
          · subst hdt
            have h2 : ¬ d < σ.s.length := fun h3 => h ⟨rfl, h3⟩
            simp [hs, h2]
          · simp [hdt]
        rw [this]
        exact (hr t).ext hx

end Go.AB

/- What each operation does to an abstract state; that the real operation does the same: operations that only compute or read. -/
namespace Go.AB

theorem add_at (b o n : Nat) : (⟨b, o, none⟩ : Addr).add n = ⟨b, o + n, none⟩ := Addr.add_lit b o n

/-- Aggregate or not, and the number of cells. -/
def tyA (P : Program) (t : Nat) : Option (Bool × Nat) :=
  match P.underlying t, P.info? t with
  | some d, some i => some (match d with | .struct _ | .array _ _ => true | _ => false, i.size)
  | _, _ => none

section
variable {P : Program} {w : World} {t : Nat}

theorem tyA_size {b : Bool} {n : Nat} (h : tyA P t = some (b, n)) : (sizeOf t).run P w = .ok n w := by
  unfold tyA at h
  split at h
  · rename_i d i _ hi
    simp at h
    simp [sizeOf, typeInfo, hi, h.2]
  · cases h

theorem tyA_agg {b : Bool} {n : Nat} (h : tyA P t = some (b, n)) : (isAgg t).run P w = .ok b w := by
  unfold tyA at h
  split at h
  · rename_i d i hd _
    simp at h
    simp only [isAgg, Sem.run_bind, run_underlying hd, Result.andThen_ok]
    rw [← h.1]
    cases d <;> rfl
  · cases h

theorem tyA_info {b : Bool} {n : Nat} (h : tyA P t = some (b, n)) : ∃ i, P.info? t = some i ∧ i.size = n := by
  unfold tyA at h
  split at h
  · rename_i d i _ hi
    simp at h
    exact ⟨i, hi, h.2⟩
  · cases h
end

/-- A struct's field: where it begins; none of no cells. -/
def fldA (P : Program) (s f : Nat) : Option Nat :=
  match P.underlying s with
  | some (.struct fs) => match fs[f]? with
    | some x => match P.info? x.type with
      | some i => if i.size = 0 then none else some x.offset
      | none => none
    | none => none
  | _ => none

theorem RepD.one {st : Nat → Nat → Prop} {w : World} {d : DV} {v : Value} (h : RepD st w d v) : oneCell v = true := by
  cases h <;> first | rfl | assumption

theorem RepD.toA {G : Gh} {w : World} {d : DV} {v : Value} (h : RepD G.st w d v) : RepA G w (toAV d) v := by
  cases h with
  | int k n => simp only [toAV]; exact .int k n
  | bool b => simp only [toAV]; exact .bool b
  | str s => simp only [toAV]; exact .str s
  | raw v h => simp only [toAV]; exact .raw v
  | emp z A =>
    simp only [toAV]
    exact .sl z [] .no A 0 ⟨by simp, by simp [maxLen], by simp, .inl ⟨rfl, rfl⟩⟩ trivial
  | sl z es b o c f h1 h2 h3 h4 h5 =>
    simp only [toAV]
    exact .sl z es .no _ c ⟨h1, h2, h3, .inr ⟨b, o, rfl, fun i e he j d hd => ⟨(h4 i e he j d hd).1, _, (h4 i e he j d hd).2, h5 i e he j d hd⟩⟩⟩ trivial

theorem toAVs_get : ∀ (cs : List DV) (i : Nat), (toAVs cs)[i]? = (cs[i]?).map toAV
  | [], i => by simp [toAVs]
  | d :: r, 0 => by simp [toAVs]
  | d :: r, i + 1 => by simp [toAVs, toAVs_get r i]

theorem toAVs_length : ∀ (cs : List DV), (toAVs cs).length = cs.length
  | [] => rfl
  | d :: r => by simp [toAVs, toAVs_length r]

/-- The cells at a place, one behind the other. -/
theorem cells_list {w : World} {b o : Nat} {p : Nat → Value → Prop} : ∀ (n k : Nat), (∀ j, j < n → ∃ v, w.cell? ⟨b, o + (k + j), none⟩ = some v ∧ p (k + j) v) →
    ∃ vs : List Value, vs.length = n ∧ ∀ j v, vs[j]? = some v → w.cell? ⟨b, o + (k + j), none⟩ = some v ∧ p (k + j) v
  | 0, k, _ => ⟨[], rfl, by simp⟩
  | n + 1, k, h => by
    obtain ⟨v0, h0, p0⟩ := h 0 (by omega)
    obtain ⟨vs, hl, hv⟩ := cells_list n (k + 1) (fun j hj => by have := h (j + 1) (by omega); rwa [show k + (j + 1) = k + 1 + j from by omega] at this)
    refine ⟨v0 :: vs, by simp [hl], fun j v hj => ?_⟩
    cases j with
    | zero => simp at hj; subst hj; exact ⟨h0, p0⟩
    | succ j =>
      simp at hj
      have := hv j v hj
      rwa [show k + 1 + j = k + (j + 1) from by omega] at this

/-- What a load takes out of cells. -/
def ldA (ty : Option (Bool × Nat)) (cs : List AV) (K : AV → Prop) : Prop := match ty with
  | some (true, n) => n ≤ cs.length ∧ K (.agg (cs.take n))
  | some (false, _) => match cs with
    | v :: _ => K v
    | [] => False
  | none => False

def exLoad (P : Program) (m : AH) (t : Nat) (a : AV) (K : AV → Prop) : Prop := match a with
  | .ptr l off => match m.cells l with
    | some cs => ldA (tyA P t) (cs.drop off) K
    | none => False
  | .ept cs => ldA (tyA P t) (toAVs cs) K
  | _ => False

theorem ldA_ok {P : Program} {G : Gh} {w : World} {t : Nat} {cs : List AV} {K : AV → Prop} {b o : Nat} (h : ldA (tyA P t) cs K)
    (hc : ∀ j c, cs[j]? = some c → ∃ v, w.cell? ⟨b, o + j, none⟩ = some v ∧ oneCell v = true ∧ RepA G w c v) :
    ∃ v x, (Instr.loadAt t (.pointer (some ⟨b, o, none⟩))).run P w = .ok x w ∧ RepA G w v x ∧ K v := by
  unfold ldA at h
  split at h
  · rename_i n hty
    obtain ⟨hn, hK⟩ := h
    obtain ⟨vs, hl, hv⟩ := cells_list (w := w) (b := b) (o := o) (p := fun j v => oneCell v = true ∧ ∀ c, cs[j]? = some c → RepA G w c v) n 0 (fun j hj => by
      have hlt : j < cs.length := by omega
      obtain ⟨v, h1, h2, h3⟩ := hc j _ (List.getElem?_eq_getElem hlt)
      refine ⟨v, by simpa using h1, h2, fun c hcj => ?_⟩
      rw [Nat.zero_add, List.getElem?_eq_getElem hlt] at hcj
      cases hcj
      exact h3)
    refine ⟨_, .agg vs.toArray, ?_, .agg (cs.take n) vs (by simp [hl]; omega) ?_ ?_, hK⟩
    · have hL := run_loadCells_list (P := P) w ⟨b, o, none⟩ vs (fun j v hj => by rw [add_at]; simpa using (hv j v hj).1)
      rw [hl] at hL
      simp [Instr.loadAt, Instr.sureAddr, loadVar, tyA_agg hty, tyA_size hty, hL]
    · intro v hvm
      obtain ⟨j, hj⟩ := List.getElem?_of_mem hvm
      exact (hv j v hj).2.1
    · intro i c v hci hvi
      have hin : i < n := by
        have := (List.getElem?_eq_some_iff.1 hvi).1
        omega
      rw [List.getElem?_take_of_lt hin] at hci
      exact (hv i v hvi).2.2 c (by simpa using hci)
  · rename_i n hty
    cases cs with
    | nil => exact h.elim
    | cons c r =>
      obtain ⟨v, h1, h2, h3⟩ := hc 0 c rfl
      refine ⟨c, v, ?_, h3, h⟩
      have h1' : w.cell? ⟨b, o, none⟩ = some v := by simpa using h1
      simp [Instr.loadAt, Instr.sureAddr, loadVar, tyA_agg hty, h1']
  · exact h.elim

theorem exLoad_ok {P : Program} {E : Env} {G : Gh} {m : AH} {w : World} {t : Nat} {a : AV} {x : Value} {K : AV → Prop} (h : exLoad P m t a K) (hi : Inv E G m w) (hr : RepA G w a x) :
    ∃ v y, (Instr.loadAt t x).run P w = .ok y w ∧ RepA G w v y ∧ K v := by
  unfold exLoad at h
  split at h
  · rename_i l off
    split at h
    · rename_i cs hcs
      cases hr with
      | ptr _ _ b o hb h0 =>
        obtain ⟨b', o', hb', _, _, _, hc, _⟩ := hi.box l cs hcs
        rw [hb] at hb'
        cases hb'
        refine ldA_ok h (fun j c hj => ?_)
        rw [List.getElem?_drop] at hj
        obtain ⟨_, v, h1, h2, h3⟩ := hc h0 _ _ hj
        exact ⟨v, by rw [← h1]; congr 2; omega, h2, h3⟩
    · exact h.elim
  · rename_i cs
    cases hr with
    | ept _ b o hc =>
      refine ldA_ok h (fun j c hj => ?_)
      rw [toAVs_get] at hj
      cases hd : cs[j]? with
      | none => rw [hd] at hj; cases hj
      | some d =>
        rw [hd] at hj
        cases hj
        obtain ⟨_, v, h1, h2⟩ := hc j d hd
        exact ⟨v, h1, h2.one, h2.toA⟩
  · exact h.elim

def exField (P : Program) (s : Nat) (a : AV) (f : Nat) (K : AV → Prop) : Prop := match fldA P s f with
  | some off => match a with
    | .ptr l o => K (.ptr l (o + off))
    | .ept cs => K (.ept (cs.drop off))
    | _ => False
  | none => False

theorem CsAt.drop {st : Nat → Nat → Prop} {w : World} {cs : List DV} {b o : Nat} (h : CsAt st w cs b o) (n : Nat) : CsAt st w (cs.drop n) b (o + n) := by
  intro j d hd
  rw [List.getElem?_drop] at hd
  have := h _ _ hd
  rwa [← Nat.add_assoc] at this

theorem exField_ok {P : Program} {G : Gh} {w : World} {s f : Nat} {a : AV} {x : Value} {K : AV → Prop} (h : exField P s a f K) (hr : RepA G w a x) :
    ∃ v y, (Instr.fieldAt s x f).run P w = .ok y w ∧ RepA G w v y ∧ K v := by
  unfold exField at h
  split at h
  · rename_i off hf
    have run : ∀ b o, (Instr.fieldAt s (.pointer (some ⟨b, o, none⟩)) f).run P w = .ok (.pointer (some ⟨b, o + off, none⟩)) w := by
      intro b o
      unfold fldA at hf
      split at hf
      · rename_i fs hu
        split at hf
        · rename_i fd hfd
          split at hf
          · rename_i i hi
            split at hf
            · cases hf
            · rename_i hz
              cases hf
              simp [Instr.fieldAt, run_underlying hu, hfd, Instr.sureAddr, fieldPlace, sizeOf, typeInfo, hi, hz, add_at]
          · cases hf
        · cases hf
      · cases hf
    split at h
    · rename_i l o
      cases hr with
      | ptr _ _ b o' hb h0 => exact ⟨_, _, run _ _, by rw [Nat.add_assoc]; exact .ptr l _ b o' hb h0, h⟩
    · rename_i cs
      cases hr with
      | ept _ b o hc => exact ⟨_, _, run _ _, .ept _ _ _ (hc.drop off), h⟩
    · exact h.elim
  · exact h.elim

/-- The element's type and its cells, of a slice; the length, the element's type and its cells, of an array. -/
def slA (P : Program) (t : Nat) : Option Nat := match P.underlying t with
  | some (.slice e) => match P.info? e with
    | some i => some i.size
    | none => none
  | _ => none
def arA (P : Program) (t : Nat) : Option (Nat × Nat) := match P.underlying t with
  | some (.array n e) => match P.info? e with
    | some i => some (n, i.size)
    | none => none
  | _ => none

theorem slA_of {P : Program} {t z : Nat} (h : slA P t = some z) : ∃ e i, P.underlying t = some (.slice e) ∧ P.info? e = some i ∧ i.size = z := by
  unfold slA at h
  split at h
  · rename_i e hu
    split at h
    · rename_i i hi; cases h; exact ⟨e, i, hu, hi, rfl⟩
    · cases h
  · cases h
theorem arA_of {P : Program} {t n z : Nat} (h : arA P t = some (n, z)) : ∃ e i, P.underlying t = some (.array n e) ∧ P.info? e = some i ∧ i.size = z := by
  unfold arA at h
  split at h
  · rename_i n' e hu
    split at h
    · rename_i i hi; cases h; exact ⟨e, i, hu, hi, rfl⟩
    · cases h
  · cases h

def exIndexAddr (P : Program) (t : Nat) (a i : AV) (K : AV → Prop) : Prop := match a, i with
  | .sl z es _, .int _ n => slA P t = some z ∧ 0 ≤ n ∧ ∃ e, es[n.toNat]? = some e ∧ K (.ept (dcells e))
  | .ptr l o, .int _ n => match arA P t with
    | some (len, z) => 0 ≤ n ∧ n < (len : Int) ∧ K (.ptr l (o + n.toNat * z))
    | none => False
  | .msl l o len _, .int _ n => match slA P t with
    | some z => 0 ≤ n ∧ n < (len : Int) ∧ K (.ptr l (o + n.toNat * z))
    | none => False
  | _, _ => False

theorem exIndexAddr_ok {P : Program} {G : Gh} {w : World} {t : Nat} {a i : AV} {x y : Value} {K : AV → Prop} (h : exIndexAddr P t a i K) (hr : RepA G w a x) (hy : RepA G w i y) :
    ∃ v u, (Instr.indexAt t x y).run P w = .ok u w ∧ RepA G w v u ∧ K v := by
  unfold exIndexAddr at h
  split at h
  · rename_i z es tok k n
    obtain ⟨hz, h0, d, hd, hK⟩ := h
    obtain ⟨e, inf, hu, hinf, hsz⟩ := slA_of hz
    have hlt := (List.getElem?_eq_some_iff.1 hd).1
    have h1 : n < (es.length : Int) := by omega
    cases hy
    cases hr with
    | sl _ _ _ A c hs _ =>
      obtain ⟨_, _, h3, h4⟩ := hs
      rcases h4 with ⟨he, _⟩ | ⟨b, o, rfl, h4⟩
      · subst he; simp at hd
      · refine ⟨_, .pointer (some ⟨b, o + n.toNat * z, none⟩), ?_, .ept _ _ _ (fun j dd hj => ?_), hK⟩
        · simp [Instr.indexAt, run_underlying hu, asIntOf, h0, h1, sizeOf, typeInfo, hinf, hsz, add_at]
        · have := h4 _ _ hd j dd hj
          rwa [← Nat.add_assoc] at this
  · rename_i l o k n
    split at h
    · rename_i len z hz
      obtain ⟨e, inf, hu, hinf, hsz⟩ := arA_of hz
      obtain ⟨h0, h1, hK⟩ := h
      cases hy
      cases hr with
      | ptr _ _ b o' hb hmk =>
        refine ⟨_, .pointer (some ⟨b, o' + (o + n.toNat * z), none⟩), ?_, .ptr l _ b o' hb hmk, hK⟩
        simp [Instr.indexAt, run_underlying hu, asIntOf, h0, h1, sizeOf, typeInfo, hinf, hsz, add_at, Instr.sureAddr, Nat.add_assoc]
    · exact h.elim
  · rename_i l o len cap k n
    split at h
    · rename_i z hz
      obtain ⟨e, inf, hu, hinf, hsz⟩ := slA_of hz
      obtain ⟨h0, h1, hK⟩ := h
      cases hy
      cases hr with
      | msl _ _ _ _ b o' hb hmk _ _ =>
        refine ⟨_, .pointer (some ⟨b, o' + (o + n.toNat * z), none⟩), ?_, .ptr l _ b o' hb hmk, hK⟩
        simp [Instr.indexAt, run_underlying hu, asIntOf, h0, h1, sizeOf, typeInfo, hinf, hsz, add_at, Nat.add_assoc]
    · exact h.elim
  · exact h.elim

end Go.AB

/- Operations that only compute: sums, comparisons, conversions, parts of aggregates, building of them. -/
namespace Go.AB

theorem i64_in {z : Int} (h1 : -9223372036854775808 ≤ z) (h2 : z ≤ 9223372036854775807) : IntKind.i64.wrap z = z := by
  rw [IntKind.wrap_i64]; omega

def tyBool (P : Program) (t : Nat) : Bool := match P.underlying t with
  | some .bool => true
  | _ => false

theorem tyBool_of {P : Program} {t : Nat} (h : tyBool P t = true) : P.underlying t = some .bool := by
  unfold tyBool at h
  split at h
  · assumption
  · cases h

/-- The fields of a struct whose parts are whole numbers, bools and strings, in their order: their kinds. -/
inductive CK where
  | int (k : IntKind)
  | bool
  | str
  deriving DecidableEq

def ckOf (P : Program) (t : Nat) : Option CK := match P.underlying t with
  | some (.int k) => some (.int k)
  | some .bool => some .bool
  | some .string => some .str
  | _ => none

def cksOf (P : Program) : Nat → List Field → Option (List CK)
  | _, [] => some []
  | n, f :: r => if f.offset = n ∧ f.name ≠ "_" then match ckOf P f.type with
      | some k => match cksOf P (n + 1) r with
        | some ks => some (k :: ks)
        | none => none
      | none => none
    else none

/-- A struct that is compared cell by cell. -/
def stA (P : Program) (t : Nat) : Option (List CK) := match P.underlying t with
  | some (.struct fs) => if P.stoodInHeld t = false ∧ P.eqGuardType P.depth t = false then cksOf P 0 fs.toList else none
  | _ => none

/-- Continuations bear names, so that nothing is reckoned in them before its time. -/
def kAnd (b : Bool) (K : Bool → Prop) (r : Bool) : Prop := K (b && r)
def kBool (K : AV → Prop) (r : Bool) : Prop := K (.bool r)
def kNBool (K : AV → Prop) (r : Bool) : Prop := K (.bool (!r))

def eqA (ks : List CK) (xs ys : List AV) (K : Bool → Prop) : Prop := match ks, xs, ys with
  | [], [], [] => K true
  | .int k :: ks, .int k1 a :: xs, .int k2 b :: ys => k1 = k ∧ k2 = k ∧ eqA ks xs ys (kAnd (decide (a = b)) K)
  | .bool :: ks, .bool a :: xs, .bool b :: ys => eqA ks xs ys (kAnd (a == b) K)
  | .str :: ks, .str a :: xs, .str b :: ys => eqA ks xs ys (kAnd (decide (a = b)) K)
  | _, _, _ => False

theorem str_beq (a b : List UInt8) : ((⟨a.toArray⟩ : ByteArray).toList == (⟨b.toArray⟩ : ByteArray).toList) = decide (a = b) := by
  rw [ByteArray.toList_mk, ByteArray.toList_mk]
  rw [Bool.eq_iff_iff]; simp

theorem part_one {P : Program} {w : World} {t : Nat} {k : CK} (hk : ckOf P t = some k) (vs : List Value) (n : Nat) (v : Value) (h : vs[n]? = some v) :
    (part t vs.toArray n).run P w = .ok v w := by
  have hag : (isAgg t).run P w = .ok false w := by
    unfold ckOf at hk
    split at hk <;> first | (cases hk; done) | (rename_i hu; simp [isAgg, run_underlying hu])
  simp [part, hag, h]

theorem cksOf_run {P : Program} {G : Gh} {w : World} (d : Nat) : ∀ (fs : List Field) (n : Nat) (ks : List CK) (xs ys : List AV) (us vs : List Value) (K : Bool → Prop),
    cksOf P n fs = some ks → eqA ks xs ys K →
    (∀ i c v, xs[i]? = some c → us[n + i]? = some v → RepA G w c v) → (∀ i c v, ys[i]? = some c → vs[n + i]? = some v → RepA G w c v) → n + xs.length = us.length → n + ys.length = vs.length →
    ∃ r, (Op.eqFields (d + 1) us.toArray vs.toArray fs).run P w = .ok r w ∧ K r
  | [], n, ks, xs, ys, us, vs, K, hk, he, hx, hy, hu, hv => by
    simp [cksOf] at hk; subst hk
    cases xs with
    | nil => cases ys with
      | nil => exact ⟨true, by simp [Op.eqFields], he⟩
      | cons y yr => exact False.elim he
    | cons x xr => exact False.elim (by simp [eqA] at he)
  | f :: r, n, ks, xs, ys, us, vs, K, hk, he, hx, hy, hu, hv => by
    unfold cksOf at hk
    split at hk
    · rename_i hf
      split at hk
      · rename_i k hck
        split at hk
        · rename_i ks' hks
          cases hk
          have main : ∀ (x y : AV) (xr yr : List AV) (b : Bool), xs = x :: xr → ys = y :: yr → (∀ u v, RepA G w x u → RepA G w y v → (Op.equalIn (d + 1) f.type u v).run P w = .ok b w) →
              (eqA ks' xr yr fun r => K (b && r)) → ∃ r', (Op.eqFields (d + 1) us.toArray vs.toArray (f :: r)).run P w = .ok r' w ∧ K r' := by
            intro x y xr yr b e1 e2 hb hrest
            subst e1 e2
            have hun : n < us.length := by simp at hu; omega
            have hvn : n < vs.length := by simp at hv; omega
            have r1 := hx 0 x us[n] rfl (List.getElem?_eq_getElem hun)
            have r2 := hy 0 y vs[n] rfl (List.getElem?_eq_getElem hvn)
            obtain ⟨q, hq, hK⟩ := cksOf_run d r (n + 1) ks' xr yr us vs (fun r => K (b && r)) hks hrest
              (fun i c v hc hv' => hx (i + 1) c v (by simpa using hc) (by rwa [show n + (i + 1) = n + 1 + i from by omega]))
              (fun i c v hc hv' => hy (i + 1) c v (by simpa using hc) (by rwa [show n + (i + 1) = n + 1 + i from by omega]))
              (by simp at hu; omega) (by simp at hv; omega)
            refine ⟨b && q, ?_, hK⟩
            have p1 := part_one (P := P) (w := w) hck us n us[n] (List.getElem?_eq_getElem hun)
            have p2 := part_one (P := P) (w := w) hck vs n vs[n] (List.getElem?_eq_getElem hvn)
            have p3 := hb _ _ r1 r2
            rw [Op.eqFields, if_pos hf.2]
            simp only [Sem.run_bind, hf.1, p1, p2, p3, Result.andThen_ok]
            cases b
            · simp
            · simpa using hq
          unfold eqA at he
          split at he
          · rename_i hke; cases hke
          · rename_i k0 ks0 k1 a xr k2 b yr hke
            cases hke
            obtain ⟨rfl, rfl, he⟩ := he
            refine main _ _ xr yr (decide (a = b)) rfl rfl (fun u v hu hv => ?_) he
            cases hu; cases hv
            unfold ckOf at hck
            split at hck <;> try (cases hck; done)
            rename_i k' hud
            rw [run_equalIn_int w d f.type _ _ a b hud]
            congr 1
          · rename_i ks0 a xr b yr hke
            cases hke
            refine main _ _ xr yr (a == b) rfl rfl (fun u v hu hv => ?_) he
            cases hu; cases hv
            unfold ckOf at hck
            split at hck <;> try (cases hck; done)
            rename_i hud
            exact run_equalIn_bool' w d f.type a b hud
          · rename_i ks0 a xr b yr hke
            cases hke
            refine main _ _ xr yr (decide (a = b)) rfl rfl (fun u v hu hv => ?_) he
            cases hu; cases hv
            unfold ckOf at hck
            split at hck <;> try (cases hck; done)
            rename_i hud
            rw [run_equalIn_string w d f.type _ _ hud, str_beq]
          · exact he.elim
        · cases hk
      · cases hk
    · cases hk

def exBinInt (op : BinOp) (k k' : IntKind) (x y : Int) (K : AV → Prop) : Prop := match op with
  | .add => k = k' ∧ K (.int k (k.wrap (x + y)))
  | .sub => k = k' ∧ K (.int k (k.wrap (x - y)))
  | .mul => k = k' ∧ K (.int k (k.wrap (x * y)))
  | .quo => k = k' ∧ y ≠ 0 ∧ K (.int k (k.wrap (x.tdiv y)))
  | .rem => k = k' ∧ y ≠ 0 ∧ K (.int k (x.tmod y))
  | .and => k = k' ∧ K (.int k (bits .and k x y))
  | .or => k = k' ∧ K (.int k (bits .or k x y))
  | .xor => k = k' ∧ K (.int k (bits .xor k x y))
  | .andNot => k = k' ∧ K (.int k (bits .andNot k x y))
  | .shl => 0 ≤ y ∧ y ≤ k.bits ∧ K (.int k (k.wrap (x * 2 ^ y.toNat)))
  | .shr => 0 ≤ y ∧ y ≤ k.bits ∧ K (.int k (x / 2 ^ y.toNat))
  | .eql => k = k' ∧ K (.bool (decide (x = y)))
  | .neq => k = k' ∧ K (.bool (!decide (x = y)))
  | .lss => k = k' ∧ K (.bool (decide (x < y)))
  | .leq => k = k' ∧ K (.bool (decide (x ≤ y)))
  | .gtr => k = k' ∧ K (.bool (decide (y < x)))
  | .geq => k = k' ∧ K (.bool (decide (y ≤ x)))

/-- An array of whole numbers, bools or strings: their kinds. -/
def arkA (P : Program) (t : Nat) : Option (List CK) := match P.underlying t with
  | some (.array n e) => match ckOf P e, P.info? e with
    | some k, some i => if P.eqGuardType P.depth t = false ∧ P.cellsOf e = 1 ∧ i.size = 1 then some (List.replicate n k) else none
    | _, _ => none
  | _ => none

def eqKs (P : Program) (t : Nat) : Option (List CK) := match stA P t with
  | some ks => some ks
  | none => arkA P t

theorem arr_run {P : Program} {G : Gh} {w : World} {e : Nat} {k : CK} (hck : ckOf P e = some k) (d : Nat) : ∀ (m j : Nat) (xs ys : List AV) (us vs : List Value) (K : Bool → Prop),
    eqA (List.replicate m k) xs ys K → (∀ i c v, xs[i]? = some c → us[j + i]? = some v → RepA G w c v) → (∀ i c v, ys[i]? = some c → vs[j + i]? = some v → RepA G w c v) → j + xs.length = us.length → j + ys.length = vs.length →
    ∃ r, (Op.eqItems (d + 1) e 1 us.toArray vs.toArray (List.range' j m)).run P w = .ok r w ∧ K r
  | 0, j, xs, ys, us, vs, K, he, hx, hy, hu, hv => by
    cases xs with
    | nil => cases ys with
      | nil => exact ⟨true, by simp [Op.eqItems], he⟩
      | cons y yr => exact False.elim he
    | cons x xr => exact False.elim (by simp [eqA] at he)
  | m + 1, j, xs, ys, us, vs, K, he, hx, hy, hu, hv => by
    have main : ∀ (x y : AV) (xr yr : List AV) (b : Bool), xs = x :: xr → ys = y :: yr → (∀ u v, RepA G w x u → RepA G w y v → (Op.equalIn (d + 1) e u v).run P w = .ok b w) →
        (eqA (List.replicate m k) xr yr fun r => K (b && r)) → ∃ r', (Op.eqItems (d + 1) e 1 us.toArray vs.toArray (List.range' j (m + 1))).run P w = .ok r' w ∧ K r' := by
      intro x y xr yr b e1 e2 hb hrest
      subst e1 e2
      have hun : j < us.length := by simp at hu; omega
      have hvn : j < vs.length := by simp at hv; omega
      have r1 := hx 0 x us[j] rfl (List.getElem?_eq_getElem hun)
      have r2 := hy 0 y vs[j] rfl (List.getElem?_eq_getElem hvn)
      obtain ⟨q, hq, hK⟩ := arr_run hck d m (j + 1) xr yr us vs (fun r => K (b && r)) hrest
        (fun i c v hc hv' => hx (i + 1) c v (by simpa using hc) (by rwa [show j + (i + 1) = j + 1 + i from by omega]))
        (fun i c v hc hv' => hy (i + 1) c v (by simpa using hc) (by rwa [show j + (i + 1) = j + 1 + i from by omega]))
        (by simp at hu; omega) (by simp at hv; omega)
      refine ⟨b && q, ?_, hK⟩
      have p1 := part_one (P := P) (w := w) hck us j us[j] (List.getElem?_eq_getElem hun)
      have p2 := part_one (P := P) (w := w) hck vs j vs[j] (List.getElem?_eq_getElem hvn)
      have p3 := hb _ _ r1 r2
      rw [List.range'_succ, Op.eqItems]
      simp only [Nat.mul_one, Sem.run_bind, p1, p2, p3, Result.andThen_ok]
      cases b
      · simp
      · simpa using hq
    rw [List.replicate_succ] at he
    unfold eqA at he
    split at he
    · rename_i hke; cases hke
    · rename_i k0 ks0 k1 a xr k2 b yr hke
      cases hke
      obtain ⟨rfl, rfl, he⟩ := he
      refine main _ _ xr yr (decide (a = b)) rfl rfl (fun u v hu hv => ?_) he
      cases hu; cases hv
      unfold ckOf at hck
      split at hck <;> try (cases hck; done)
      rename_i k' hud
      rw [run_equalIn_int w d e _ _ a b hud]
      congr 1
    · rename_i ks0 a xr b yr hke
      cases hke
      refine main _ _ xr yr (a == b) rfl rfl (fun u v hu hv => ?_) he
      cases hu; cases hv
      unfold ckOf at hck
      split at hck <;> try (cases hck; done)
      rename_i hud
      exact run_equalIn_bool' w d e a b hud
    · rename_i ks0 a xr b yr hke
      cases hke
      refine main _ _ xr yr (decide (a = b)) rfl rfl (fun u v hu hv => ?_) he
      cases hu; cases hv
      unfold ckOf at hck
      split at hck <;> try (cases hck; done)
      rename_i hud
      rw [run_equalIn_string w d e _ _ hud, str_beq]
    · exact he.elim

def exBin (P : Program) (op : BinOp) (t : Nat) (a b : AV) (K : AV → Prop) : Prop := match a, b with
  | .int k x, .int k' y => exBinInt op k k' x y K
  | .bool x, .bool y => tyBool P t = true ∧ (match op with
    | .eql => K (.bool (x == y))
    | .neq => K (.bool (!(x == y)))
    | _ => False)
  | .str x, .str y => (match op with
    | .add => x.length + y.length ≤ 9223372036854775807 ∧ K (.str (x ++ y))
    | .eql => K (.bool (decide (x = y)))
    | .neq => K (.bool (!decide (x = y)))
    | _ => False)
  | .agg xs, .agg ys => (match eqKs P t with
    | some ks => (match op with
      | .eql => eqA ks xs ys (kBool K)
      | .neq => eqA ks xs ys (kNBool K)
      | _ => False)
    | none => False)
  | _, _ => False

theorem exBinInt_ok {P : Program} {w : World} {op : BinOp} {t : Nat} {k k' : IntKind} {x y : Int} {xo yo : Operand} {K : AV → Prop} {G : Gh} (h : exBinInt op k k' x y K) :
    ∃ v u, (do eqGuard op t xo yo (.int k x) (.int k' y); binOp op t (.int k x) (.int k' y)).run P w = .ok u w ∧ RepA G w v u ∧ K v := by
  cases op <;> simp only [exBinInt] at h
  case add => obtain ⟨rfl, h⟩ := h; exact ⟨_, _, by simp only [eqGuard_at_int, binOp_add]; simp [Op.intArith], .int _ _, h⟩
  case sub => obtain ⟨rfl, h⟩ := h; exact ⟨_, _, by simp only [eqGuard_at_int, binOp_sub]; simp [Op.intArith], .int _ _, h⟩
  case mul => obtain ⟨rfl, h⟩ := h; exact ⟨_, _, by simp only [eqGuard_at_int, binOp_mul]; simp [Op.intArith], .int _ _, h⟩
  case quo => obtain ⟨rfl, hy, h⟩ := h; exact ⟨_, _, by simp only [eqGuard_at_int, binOp_quo]; simp [Op.intDiv, hy], .int _ _, h⟩
  case rem => obtain ⟨rfl, hy, h⟩ := h; exact ⟨_, _, by simp only [eqGuard_at_int, binOp_rem]; simp [Op.intDiv, hy], .int _ _, h⟩
  case and => obtain ⟨rfl, h⟩ := h; exact ⟨_, _, by simp only [eqGuard_at_int, binOp_and, intBits_and]; simp, .int _ _, h⟩
  case or => obtain ⟨rfl, h⟩ := h; exact ⟨_, _, by simp only [eqGuard_at_int, binOp_or, intBits_or]; simp, .int _ _, h⟩
  case xor => obtain ⟨rfl, h⟩ := h; exact ⟨_, _, by simp only [eqGuard_at_int, binOp_xor, intBits_xor]; simp, .int _ _, h⟩
  case andNot => obtain ⟨rfl, h⟩ := h; exact ⟨_, _, by simp only [eqGuard_at_int, binOp_andNot, intBits_andNot]; simp, .int _ _, h⟩
  case shl => obtain ⟨h0, h1, h⟩ := h; exact ⟨_, _, by simp only [eqGuard_at_int, binOp_shl, shift_shl k k' x y h0 h1]; simp, .int _ _, h⟩
  case shr => obtain ⟨h0, h1, h⟩ := h; exact ⟨_, _, by simp only [eqGuard_at_int, binOp_shr, shift_shr k k' x y h0 h1]; simp, .int _ _, h⟩
  case eql => obtain ⟨rfl, h⟩ := h; exact ⟨.bool (decide (x = y)), .bool (decide (x = y)), by simp only [eqGuard_at_int, binOp_eql]; simp; rw [Bool.eq_iff_iff]; simp, .bool _, h⟩
  case neq => obtain ⟨rfl, h⟩ := h; exact ⟨.bool (!decide (x = y)), .bool (!decide (x = y)), by simp only [eqGuard_at_int, binOp_neq]; simp; rw [Bool.eq_iff_iff]; simp, .bool _, h⟩
  case lss => obtain ⟨rfl, h⟩ := h; exact ⟨_, _, by simp only [eqGuard_at_int, binOp_lss]; simp, .bool _, h⟩
  case leq => obtain ⟨rfl, h⟩ := h; exact ⟨_, _, by simp only [eqGuard_at_int, binOp_leq]; simp, .bool _, h⟩
  case gtr => obtain ⟨rfl, h⟩ := h; exact ⟨_, _, by simp only [eqGuard_at_int, binOp_gtr]; simp, .bool _, h⟩
  case geq => obtain ⟨rfl, h⟩ := h; exact ⟨_, _, by simp only [eqGuard_at_int, binOp_geq]; simp, .bool _, h⟩

theorem exBin_ok {P : Program} {G : Gh} {w : World} {op : BinOp} {t : Nat} {a b : AV} {x y : Value} {xo yo : Operand} {K : AV → Prop} (h : exBin P op t a b K)
    (hx : RepA G w a x) (hy : RepA G w b y) :
    ∃ v u, (do eqGuard op t xo yo x y; binOp op t x y).run P w = .ok u w ∧ RepA G w v u ∧ K v := by
  unfold exBin at h
  split at h
  · cases hx; cases hy; exact exBinInt_ok h
  · cases hx; cases hy
    obtain ⟨ht, h⟩ := h
    have hb := tyBool_of ht
    split at h
    · exact ⟨_, _, by simp only [eqGuard_at_bool, Sem.run_bind, Sem.run_pure, Result.andThen_ok, run_eql_bool w t _ _ hb], .bool _, h⟩
    · exact ⟨_, _, by simp only [eqGuard_at_bool, Sem.run_bind, Sem.run_pure, Result.andThen_ok, run_neq_bool w t _ _ hb], .bool _, h⟩
    · exact h.elim
  · rename_i s1 s2
    cases hx; cases hy
    split at h
    · obtain ⟨hl, h⟩ := h
      refine ⟨_, .string ⟨(s1 ++ s2).toArray⟩, ?_, .str _, h⟩
      have := run_string_add_sum (P := P) w ⟨s1.toArray⟩ ⟨s2.toArray⟩ (by simpa [ByteArray.size] using hl)
      simp only [eqGuard_at_string, Sem.run_bind, Sem.run_pure, Result.andThen_ok]
      show (Op.stringOp .add _ _).run P w = _
      rw [this, ByteArray.mk_append_mk]
    · refine ⟨_, .bool (decide (s1 = s2)), ?_, .bool _, h⟩
      simp only [eqGuard_at_string, Sem.run_bind, Sem.run_pure, Result.andThen_ok]
      show (Op.stringOp .eql _ _).run P w = _
      simp only [Op.stringOp, str_beq]; simp
    · refine ⟨_, .bool (!decide (s1 = s2)), ?_, .bool _, h⟩
      simp only [eqGuard_at_string, Sem.run_bind, Sem.run_pure, Result.andThen_ok]
      show (Op.stringOp .neq _ _).run P w = _
      simp only [Op.stringOp, str_beq]; simp
    · exact h.elim
  · rename_i xs ys
    split at h
    · rename_i ks hst
      unfold eqKs at hst
      split at hst
      rotate_left
      · unfold arkA at hst
        split at hst
        · rename_i n e hu
          split at hst
          · rename_i k i hck hinf
            split at hst
            · rename_i hc
              cases hst
              cases hx with
              | agg _ us hl1 ho1 hr1 =>
                cases hy with
                | agg _ vs hl2 ho2 hr2 =>
                  have go : ∀ (K' : Bool → Prop), eqA (List.replicate n k) xs ys K' → ∃ r, (Op.equalIn 10000 t (.agg us.toArray) (.agg vs.toArray)).run P w = .ok r w ∧ K' r := by
                    intro K' he
                    obtain ⟨r, hr, hK⟩ := arr_run (P := P) (G := G) (w := w) hck 9998 n 0 xs ys us vs K' he (fun i c v h1 h2 => hr1 i c v h1 (by simpa using h2)) (fun i c v h1 h2 => hr2 i c v h1 (by simpa using h2)) (by omega) (by omega)
                    refine ⟨r, ?_, hK⟩
                    rw [run_equalIn_array w 9999 _ _ hu hinf, hc.2.1, List.range_eq_range']
                    exact hr
                  have hg : (eqGuard op t xo yo (.agg us.toArray) (.agg vs.toArray)).run P w = .ok () w := run_eqGuard_agg w op t xo yo _ _ hc.1
                  split at h
                  · obtain ⟨r, hr, hK⟩ := go _ h
                    refine ⟨_, .bool r, ?_, .bool _, hK⟩
                    rw [Sem.run_bind, hg, Result.andThen_ok, run_eql_struct, hr]; rfl
                  · obtain ⟨r, hr, hK⟩ := go _ h
                    refine ⟨_, .bool (!r), ?_, .bool _, hK⟩
                    rw [Sem.run_bind, hg, Result.andThen_ok, run_neq_struct, hr]; rfl
                  · exact h.elim
            · cases hst
          · cases hst
        · cases hst
      rename_i ks' hst0
      cases hst
      have hst := hst0
      clear hst0
      unfold stA at hst
      split at hst
      · rename_i fs hu
        split at hst
        · rename_i hc
          cases hx with
          | agg _ us hl1 ho1 hr1 =>
            cases hy with
            | agg _ vs hl2 ho2 hr2 =>
              have hfo : P.fieldsOf t = fs := by simp [Program.fieldsOf, hu]
              have go : ∀ (K' : Bool → Prop), eqA ks xs ys K' → ∃ r, (Op.equalIn 10000 t (.agg us.toArray) (.agg vs.toArray)).run P w = .ok r w ∧ K' r := by
                intro K' he
                obtain ⟨r, hr, hK⟩ := cksOf_run (P := P) (G := G) (w := w) 9998 fs.toList 0 ks xs ys us vs K' hst he (fun i c v h1 h2 => hr1 i c v h1 (by simpa using h2)) (fun i c v h1 h2 => hr2 i c v h1 (by simpa using h2)) (by omega) (by omega)
                refine ⟨r, ?_, hK⟩
                rw [run_equalIn_struct w 9999 t _ _ (by rw [hfo]; exact hu) hc.1, hfo]
                exact hr
              have hg : (eqGuard op t xo yo (.agg us.toArray) (.agg vs.toArray)).run P w = .ok () w := run_eqGuard_agg w op t xo yo _ _ hc.2
              split at h
              · obtain ⟨r, hr, hK⟩ := go _ h
                refine ⟨_, .bool r, ?_, .bool _, hK⟩
                rw [Sem.run_bind, hg, Result.andThen_ok, run_eql_struct, hr]; rfl
              · obtain ⟨r, hr, hK⟩ := go _ h
                refine ⟨_, .bool (!r), ?_, .bool _, hK⟩
                rw [Sem.run_bind, hg, Result.andThen_ok, run_neq_struct, hr]; rfl
              · exact h.elim
        · cases hst
      · cases hst
    · exact h.elim
  · exact h.elim

/-- Is this a type of slices? -/
def slB (P : Program) (t : Nat) : Bool := match P.underlying t with
  | some (.slice _) => true
  | _ => false

/-- A slice compared with nil: known where it has elements, or is known to be nil. -/
def nilK (es : List DV) (t : Tok) (K : Bool → Prop) : Prop := ∀ b, (es ≠ [] → b = false) → (t = .nil → b = true) → K b

def exBinN (P : Program) (op : BinOp) (t : Nat) (a b : AV) (K : AV → Prop) : Prop := match a, b with
  | .sl _ es t1, .sl _ [] .nil => slB P t = true ∧ (match op with
    | .eql => nilK es t1 (kBool K)
    | .neq => nilK es t1 (kNBool K)
    | _ => False)
  | a, b => exBin P op t a b K

theorem exBinN_ok {P : Program} {G : Gh} {w : World} {op : BinOp} {t : Nat} {a b : AV} {x y : Value} {xo yo : Operand} {K : AV → Prop} (h : exBinN P op t a b K)
    (hx : RepA G w a x) (hy : RepA G w b y) :
    ∃ v u, (do eqGuard op t xo yo x y; binOp op t x y).run P w = .ok u w ∧ RepA G w v u ∧ K v := by
  unfold exBinN at h
  split at h
  · rename_i z es t1 z2
    obtain ⟨hs, h⟩ := h
    unfold slB at hs
    split at hs
    · rename_i e hu
      cases hx with
      | sl _ _ _ A c hsl htk =>
        cases hy with
        | sl _ _ _ A2 c2 hsl2 htk2 =>
          have hA2 : A2 = none := htk2
          subst hA2
          have hc2 : c2 = 0 := by
            obtain ⟨_, _, _, h4⟩ := hsl2
            rcases h4 with h4 | ⟨b, o, h5, _⟩
            · exact h4.2
            · cases h5
          subst hc2
          have hn1 : es ≠ [] → A.isNone = false := fun hne => by
            obtain ⟨_, _, _, h4⟩ := hsl
            rcases h4 with h4 | ⟨b, o, h5, _⟩
            · exact absurd h4.1 hne
            · rw [h5]; rfl
          have hn2 : t1 = .nil → A.isNone = true := fun ht => by
            subst ht
            have : A = none := htk
            rw [this]; rfl
          split at h
          · refine ⟨.bool A.isNone, .bool A.isNone, ?_, .bool _, h _ hn1 hn2⟩
            simp only [eqGuard_at_slice, Sem.run_bind, Sem.run_pure, Result.andThen_ok]
            simp only [binOp, List.length_nil]
            simp [run_equal_slice_nil w t e A _ _ hu]
          · refine ⟨.bool (!A.isNone), .bool (!A.isNone), ?_, .bool _, h _ hn1 hn2⟩
            simp only [eqGuard_at_slice, Sem.run_bind, Sem.run_pure, Result.andThen_ok]
            exact run_neq_slice_nil _ _ _ _ _ _ hu
          · exact h.elim
    · cases hs
  · exact exBin_ok h hx hy

theorem exBin_N {P : Program} {op : BinOp} {t : Nat} {a b : AV} {K : AV → Prop} (h : exBin P op t a b K) : exBinN P op t a b K := by
  unfold exBinN
  split
  · exact False.elim h
  · exact h

/-- Is this a type of interfaces? -/
def ifB (P : Program) (t : Nat) : Bool := match P.underlying t with
  | some (.interface _) => true
  | _ => false
theorem ifB_at {P : Program} {t : Nat} (h : ifB P t = true) : P.underlying t = some (.interface (P.methodsAt t)) := by
  unfold ifB at h
  split at h
  · rename_i ms hu
    rw [hu]
    simp [Program.methodsAt, hu]
  · cases h
/-- As exBinN, and an interface compared with nil. -/
def exBinO (P : Program) (op : BinOp) (t : Nat) (yo : Operand) (a b : AV) (K : AV → Prop) : Prop := match a, b, yo with
  | .raw (.iface _ _), .raw .nilIface, _ => ifB P t = true ∧ (match op with
    | .eql => K (.bool false)
    | .neq => K (.bool true)
    | _ => False)
  | .raw .nilIface, .raw .nilIface, .const _ => ifB P t = true ∧ (match op with
    | .eql => K (.bool true)
    | .neq => K (.bool false)
    | _ => False)
  | .iface _ _, .raw .nilIface, _ => ifB P t = true ∧ (match op with
    | .eql => K (.bool false)
    | .neq => K (.bool true)
    | _ => False)
  | a, b, _ => exBinN P op t a b K
theorem exBinO_ok {P : Program} {G : Gh} {w : World} {op : BinOp} {t : Nat} {a b : AV} {x y : Value} {xo yo : Operand} {K : AV → Prop} (h : exBinO P op t yo a b K)
    (hx : RepA G w a x) (hy : RepA G w b y) :
    ∃ v u, (do eqGuard op t xo yo x y; binOp op t x y).run P w = .ok u w ∧ RepA G w v u ∧ K v := by
  unfold exBinO at h
  split at h
  · rename_i d z
    obtain ⟨hi, h⟩ := h
    have hu := ifB_at hi
    cases hx
    cases hy
    split at h
    · refine ⟨.bool false, .bool false, ?_, .bool _, h⟩
      simp only [eqGuard_at_iface, Sem.run_bind, Sem.run_pure, Result.andThen_ok, binOp]
      simp [run_equal_held_nil w t d z hu]
    · refine ⟨.bool true, .bool true, ?_, .bool _, h⟩
      simp only [eqGuard_at_iface, Sem.run_bind, Sem.run_pure, Result.andThen_ok, binOp]
      simp [run_equal_held_nil w t d z hu]
    · exact h.elim
  · rename_i c
    obtain ⟨hi, h⟩ := h
    have hu := ifB_at hi
    cases hx
    cases hy
    split at h
    · refine ⟨.bool true, .bool true, ?_, .bool _, h⟩
      simp only [eqGuard_nil_constR, Sem.run_bind, Sem.run_pure, Result.andThen_ok, binOp]
      simp [run_equal_nil_nil w t hu]
    · refine ⟨.bool false, .bool false, ?_, .bool _, h⟩
      simp only [eqGuard_nil_constR, Sem.run_bind, Sem.run_pure, Result.andThen_ok, binOp]
      simp [run_equal_nil_nil w t hu]
    · exact h.elim
  · rename_i d v
    obtain ⟨hi, h⟩ := h
    have hu := ifB_at hi
    cases hx with
    | iface _ _ z hz =>
      cases hy
      split at h
      · refine ⟨.bool false, .bool false, ?_, .bool _, h⟩
        simp only [eqGuard_at_iface, Sem.run_bind, Sem.run_pure, Result.andThen_ok, binOp]
        simp [run_equal_held_nil w t d z hu]
      · refine ⟨.bool true, .bool true, ?_, .bool _, h⟩
        simp only [eqGuard_at_iface, Sem.run_bind, Sem.run_pure, Result.andThen_ok, binOp]
        simp [run_equal_held_nil w t d z hu]
      · exact h.elim
  · exact exBinN_ok h hx hy

theorem exBin_O {P : Program} {op : BinOp} {t : Nat} {yo : Operand} {a b : AV} {K : AV → Prop} (h : exBin P op t a b K) : exBinO P op t yo a b K := by
  unfold exBinO
  split
  · exact False.elim h
  · exact False.elim h
  · exact False.elim h
  · exact exBin_N h

end Go.AB

/- More operations that only compute: parts and building of aggregates, lengths, cuts, conversions, the least and the greatest. -/
namespace Go.AB

def exUn (op : UnOp) (a : AV) (K : AV → Prop) : Prop := match op, a with
  | .neg, .int k n => K (.int k (k.wrap (0 - n)))
  | .not, .bool b => K (.bool (!b))
  | _, _ => False

theorem exUn_ok {P : Program} {G : Gh} {w : World} {op : UnOp} {a : AV} {x : Value} {K : AV → Prop} (h : exUn op a K) (hx : RepA G w a x) :
    ∃ v u, (Op.unary op x).run P w = .ok u w ∧ RepA G w v u ∧ K v := by
  unfold exUn at h
  split at h
  · cases hx; exact ⟨_, _, by simp only [Op.unary, Op.intArith, Sem.run_pure], .int _ _, h⟩
  · cases hx; exact ⟨_, _, by simp [Op.unary], .bool _, h⟩
  · exact h.elim

/-- The kind of whole numbers that a type is of. -/
def ikA (P : Program) (t : Nat) : Option IntKind := match P.underlying t with
  | some (.int k) => some k
  | _ => none
def strA (P : Program) (t : Nat) : Bool := match P.underlying t with
  | some .string => true
  | _ => false
def knownA (P : Program) (t : Nat) : Bool := (P.underlying t).isSome

theorem ikA_of {P : Program} {t : Nat} {k : IntKind} (h : ikA P t = some k) : P.underlying t = some (.int k) := by
  unfold ikA at h
  split at h
  · cases h; assumption
  · cases h
theorem strA_of {P : Program} {t : Nat} (h : strA P t = true) : P.underlying t = some .string := by
  unfold strA at h
  split at h
  · assumption
  · cases h

def exConv (P : Program) (src dst : Nat) (a : AV) (K : AV → Prop) : Prop := match a with
  | .int _ n => match ikA P dst with
    | some k => knownA P src = true ∧ K (.int k (k.wrap n))
    | none => False
  | .str s => strA P dst = true ∧ knownA P src = true ∧ K (.str s)
  | _ => False

theorem exConv_ok {P : Program} {G : Gh} {w : World} {src dst : Nat} {a : AV} {x : Value} {K : AV → Prop} (h : exConv P src dst a K) (hx : RepA G w a x) :
    ∃ v u, (convert src dst x).run P w = .ok u w ∧ RepA G w v u ∧ K v := by
  unfold exConv at h
  split at h
  · split at h
    · rename_i k hk
      obtain ⟨hs, hK⟩ := h
      have hd := ikA_of hk
      obtain ⟨d, hd'⟩ := Option.isSome_iff_exists.mp hs
      cases hx
      exact ⟨_, _, by simp [convert, run_underlying hd', run_underlying hd, Conv.intToInt], .int _ _, hK⟩
    · exact h.elim
  · obtain ⟨hd, hs, hK⟩ := h
    have hd := strA_of hd
    obtain ⟨d, hd'⟩ := Option.isSome_iff_exists.mp hs
    cases hx
    exact ⟨_, _, by simp [convert, run_underlying hd', run_underlying hd], .str _, hK⟩
  · exact h.elim

/-- A field's place, aggregate or not, and its cells. -/
def fpA (P : Program) (s f : Nat) : Option (Nat × Bool × Nat) := match P.underlying s with
  | some (.struct fs) => match fs[f]? with
    | some x => match tyA P x.type with
      | some (g, n) => some (x.offset, g, n)
      | none => none
    | none => none
  | _ => none

def partA (off : Nat) (g : Bool) (n : Nat) (cs : List AV) (K : AV → Prop) : Prop := match g with
  | true => off + n ≤ cs.length ∧ K (.agg ((cs.drop off).take n))
  | false => ∃ v, cs[off]? = some v ∧ K v

theorem partA_ok {P : Program} {G : Gh} {w : World} {t off n : Nat} {g : Bool} {cs : List AV} {vs : List Value} {K : AV → Prop} (ht : tyA P t = some (g, n)) (h : partA off g n cs K)
    (hl : vs.length = cs.length) (ho : ∀ v ∈ vs, oneCell v = true) (hr : ∀ (i : Nat) (c : AV) (v : Value), cs[i]? = some c → vs[i]? = some v → RepA G w c v) :
    ∃ v u, (part t vs.toArray off).run P w = .ok u w ∧ RepA G w v u ∧ K v := by
  cases g with
  | true =>
    obtain ⟨hn, hK⟩ := h
    refine ⟨_, .agg ((vs.drop off).take n).toArray, ?_, .agg _ ((vs.drop off).take n) (by simp [hl]) (fun v hv => ho v (List.mem_of_mem_drop (List.mem_of_mem_take hv))) (fun i c v hc hv => ?_), hK⟩
    · simp only [part, Sem.run_bind, tyA_agg ht, Result.andThen_ok, if_true, tyA_size ht, Sem.run_pure]
      congr 2
      apply Array.ext'
      simp [List.extract_eq_take_drop]
    · by_cases hin : i < n
      · rw [List.getElem?_take_of_lt hin, List.getElem?_drop] at hc hv
        exact hr _ c v hc hv
      · rw [List.getElem?_eq_none (by simp; omega)] at hc; cases hc
  | false =>
    obtain ⟨v, hv, hK⟩ := h
    have hlt : off < vs.length := by rw [hl]; exact (List.getElem?_eq_some_iff.1 hv).1
    refine ⟨v, vs[off], ?_, hr off v _ hv (List.getElem?_eq_getElem hlt), hK⟩
    simp [part, tyA_agg ht, hlt]

def exFieldV (P : Program) (s : Nat) (a : AV) (f : Nat) (K : AV → Prop) : Prop := match a with
  | .agg cs => match fpA P s f with
    | some (off, g, n) => partA off g n cs K
    | none => False
  | _ => False

theorem exFieldV_ok {P : Program} {G : Gh} {w : World} {s f : Nat} {a : AV} {x : Value} {K : AV → Prop} (h : exFieldV P s a f K) (hx : RepA G w a x) :
    ∃ v u, (Instr.field s x f).run P w = .ok u w ∧ RepA G w v u ∧ K v := by
  unfold exFieldV at h
  split at h
  · rename_i cs
    split at h
    · rename_i off g n hf
      unfold fpA at hf
      split at hf
      · rename_i fs hu
        split at hf
        · rename_i fd hfd
          split at hf
          · rename_i g' n' ht
            cases hf
            cases hx with
            | agg _ vs hl ho hr =>
              obtain ⟨v, u, h1, h2, h3⟩ := partA_ok ht h hl ho hr
              exact ⟨v, u, by simp [Instr.field, run_underlying hu, hfd, asAgg, h1], h2, h3⟩
          · cases hf
        · cases hf
      · cases hf
    · exact h.elim
  · exact h.elim

/-- An array's length; its elements: aggregates or not, and their cells. -/
def avA (P : Program) (t : Nat) : Option (Nat × Bool × Nat) := match P.underlying t with
  | some (.array n e) => match tyA P e with
    | some (g, z) => some (n, g, z)
    | none => none
  | _ => none

def exIndexV (P : Program) (t : Nat) (a i : AV) (K : AV → Prop) : Prop := match a, i with
  | .agg cs, .int _ n => match avA P t with
    | some (len, g, z) => 0 ≤ n ∧ n < (len : Int) ∧ partA (n.toNat * z) g z cs K
    | none => False
  | .str s, .int _ n => strA P t = true ∧ 0 ≤ n ∧ ∃ c, s[n.toNat]? = some c ∧ K (.int .u8 (c.toNat : Int))
  | _, _ => False

theorem exIndexV_ok {P : Program} {G : Gh} {w : World} {t : Nat} {a i : AV} {x y : Value} {K : AV → Prop} (h : exIndexV P t a i K) (hx : RepA G w a x) (hy : RepA G w i y) :
    ∃ v u, (Instr.index t x y).run P w = .ok u w ∧ RepA G w v u ∧ K v := by
  unfold exIndexV at h
  split at h
  · rename_i cs k n
    split at h
    · rename_i len g z ha
      obtain ⟨h0, h1, hp⟩ := h
      unfold avA at ha
      split at ha
      · rename_i len' e hu
        split at ha
        · rename_i g' z' ht
          cases ha
          cases hy
          cases hx with
          | agg _ vs hl ho hr =>
            obtain ⟨v, u, h3, h4, h5⟩ := partA_ok ht hp hl ho hr
            exact ⟨v, u, by simp [Instr.index, run_underlying hu, asIntOf, h0, h1, tyA_size ht, h3], h4, h5⟩
        · cases ha
      · cases ha
    · exact h.elim
  · rename_i s k n
    obtain ⟨hs, h0, c, hc, hK⟩ := h
    have hu := strA_of hs
    cases hx; cases hy
    have hlt := (List.getElem?_eq_some_iff.1 hc)
    refine ⟨_, .int .u8 (c.toNat : Int), ?_, .int _ _, hK⟩
    have hb : (⟨s.toArray⟩ : ByteArray)[n.toNat]? = some c := by
      obtain ⟨h1, h2⟩ := hlt
      have h3 : n.toNat < (⟨s.toArray⟩ : ByteArray).size := by simpa [ByteArray.size] using h1
      rw [getElem?_pos (⟨s.toArray⟩ : ByteArray) n.toNat h3]
      show some (s.toArray[n.toNat]) = some c
      simp [h2]
    simp [Instr.index, run_underlying hu, asIntOf, h0, hb]
  · exact h.elim

def exLen (P : Program) (t : Nat) (a : AV) (K : AV → Prop) : Prop := match a with
  | .sl _ es _ => slA P t ≠ none ∧ K (.int .i64 (es.length : Int))
  | .msl _ _ len _ => slA P t ≠ none ∧ K (.int .i64 (len : Int))
  | .str s => strA P t = true ∧ K (.int .i64 (s.length : Int))
  | .agg _ => match arA P t with
    | some (n, _) => K (.int .i64 (n : Int))
    | none => False
  | _ => False

theorem exLen_ok {P : Program} {G : Gh} {w : World} {t ty : Nat} {a : AV} {x : Value} {K : AV → Prop} (h : exLen P t a K) (hx : RepA G w a x) :
    ∃ v u, (Builtin.len_ #[t] ty #[x]).run P w = .ok u w ∧ RepA G w v u ∧ K v := by
  unfold exLen at h
  split at h
  · obtain ⟨ht, hK⟩ := h
    cases hs : slA P t with
    | none => exact absurd hs ht
    | some z =>
      obtain ⟨e, i, hu, _, _⟩ := slA_of hs
      cases hx
      exact ⟨_, _, by simp [Builtin.len_, run_underlying hu, goInt], .int _ _, hK⟩
  · obtain ⟨ht, hK⟩ := h
    cases hs : slA P t with
    | none => exact absurd hs ht
    | some z =>
      obtain ⟨e, i, hu, _, _⟩ := slA_of hs
      cases hx
      exact ⟨_, _, by simp [Builtin.len_, run_underlying hu, goInt], .int _ _, hK⟩
  · obtain ⟨ht, hK⟩ := h
    have hu := strA_of ht
    cases hx
    exact ⟨_, _, by simp only [Builtin.len_]; simp [run_underlying hu, goInt]; rfl, .int _ _, hK⟩
  · split at h
    · rename_i n z ha
      obtain ⟨e, i, hu, _, _⟩ := arA_of ha
      cases hx
      exact ⟨_, _, by simp [Builtin.len_, run_underlying hu, goInt], .int _ _, h⟩
    · exact h.elim
  · exact h.elim

/-- The least and the greatest of whole numbers of one kind. -/
def mmA (mx : Bool) (k : IntKind) (x : Int) : List AV → (AV → Prop) → Prop
  | [], K => K (.int k x)
  | .int _ y :: r, K => mmA mx k (if mx then max x y else min x y) r K
  | _ :: _, _ => False

def exMM (mx : Bool) (as : List AV) (K : AV → Prop) : Prop := match as with
  | .int k x :: r => mmA mx k x r K
  | _ => False

theorem mmA_ok {P : Program} {G : Gh} {w : World} (mx : Bool) {k : IntKind} {K : AV → Prop} : ∀ (r : List AV) (x : Int) (vs : List Value), mmA mx k x r K → vs.length = r.length → (∀ (i : Nat) (c : AV) (v : Value), r[i]? = some c → vs[i]? = some v → RepA G w c v) →
    ∃ y, (vs.foldlM (if mx then Builtin.max2 else Builtin.min2) (.int k x)).run P w = .ok (.int k y) w ∧ K (.int k y)
  | [], x, vs, h, hl, _ => by
    cases vs with
    | nil => exact ⟨x, by simp, h⟩
    | cons _ _ => simp at hl
  | c :: r, x, vs, h, hl, hr => by
    cases vs with
    | nil => simp at hl
    | cons v vs =>
      have hc := hr 0 c v rfl rfl
      cases c with
      | int k' y =>
        cases hc
        obtain ⟨z, hz, hK⟩ := mmA_ok (P := P) mx r _ vs h (by simpa using hl) (fun i c v h1 h2 => hr (i + 1) c v h1 h2)
        refine ⟨z, ?_, hK⟩
        rw [List.foldlM_cons, Sem.run_bind]
        cases mx with
        | true =>
          have : (Builtin.max2 (.int k x) (.int k' y)).run P w = .ok (.int k (max x y)) w := by
            simp only [Builtin.max2, Sem.run_pure]
            congr 2
            split <;> omega
          simp only [if_true] at hz ⊢
          rw [this]; exact hz
        | false =>
          have : (Builtin.min2 (.int k x) (.int k' y)).run P w = .ok (.int k (min x y)) w := by
            simp only [Builtin.min2, Sem.run_pure]
            congr 2
            split <;> omega
          simp only [Bool.false_eq_true, if_false] at hz ⊢
          rw [this]; exact hz
      | _ => exact False.elim h

theorem exMM_ok {P : Program} {G : Gh} {w : World} {mx : Bool} {as : List AV} {vs : List Value} {K : AV → Prop} {ts : Array Nat} {ty : Nat} (h : exMM mx as K) (hl : vs.length = as.length)
    (hr : ∀ (i : Nat) (c : AV) (v : Value), as[i]? = some c → vs[i]? = some v → RepA G w c v) :
    ∃ v u, (if mx then Builtin.max_ ts ty vs.toArray else Builtin.min_ ts ty vs.toArray).run P w = .ok u w ∧ RepA G w v u ∧ K v := by
  unfold exMM at h
  split at h
  · rename_i k x r
    cases vs with
    | nil => simp at hl
    | cons v vs =>
      have hc := hr 0 _ v rfl rfl
      cases hc
      obtain ⟨y, hy, hK⟩ := mmA_ok (P := P) mx r x vs h (by simpa using hl) (fun i c v h1 h2 => hr (i + 1) c v h1 h2)
      refine ⟨_, _, ?_, .int _ _, hK⟩
      cases mx with
      | true => simpa [Builtin.max_] using hy
      | false => simpa [Builtin.min_] using hy
  · exact h.elim

/-- A bound of a cut: a whole number, or what stands for none. -/
def bndA (d : Nat) : Option AV → Option Nat
  | none => some d
  | some (.int _ n) => if 0 ≤ n then some n.toNat else none
  | _ => none

def exCut (P : Program) (t : Nat) (a : AV) (lo hi : Option AV) (K : AV → Prop) : Prop := match a with
  | .sl z es _ => match bndA 0 lo, bndA es.length hi with
    | some l, some h => slA P t = some z ∧ l ≤ h ∧ h ≤ es.length ∧ K (.sl z ((es.drop l).take (h - l)) .no)
    | _, _ => False
  | .str s => match bndA 0 lo, bndA s.length hi with
    | some l, some h => strA P t = true ∧ l ≤ h ∧ h ≤ s.length ∧ K (.str ((s.drop l).take (h - l)))
    | _, _ => False
  | .ptr b o => match arA P t with
    | some (n, z) => match bndA 0 lo, bndA n hi with
      | some l, some h => l ≤ h ∧ h ≤ n ∧ l < n ∧ n ≤ 16777216 ∧ K (.msl b (o + l * z) (h - l) (n - l))
      | _, _ => False
    | none => False
  | .msl b o len cap => match slA P t with
    | some z => match bndA 0 lo, bndA len hi with
      | some l, some h => l ≤ h ∧ h ≤ len ∧ len ≤ cap ∧ l < cap ∧ K (.msl b (o + l * z) (h - l) (cap - l))
      | _, _ => False
    | none => False
  | _ => False

theorem bndA_run {P : Program} {G : Gh} {w : World} {d n y : Nat} {b : Option AV} {x : Option Value} {code : BoundsCode} (h : bndA d b = some n) (hn : n ≤ y)
    (hr : (b = none ∧ x = none) ∨ ∃ c v, b = some c ∧ x = some v ∧ RepA G w c v) :
    (b = none ∧ x = none ∧ n = d) ∨ ∃ v, x = some v ∧ (Instr.sliceBound v y code).run P w = .ok n w := by
  rcases hr with ⟨rfl, rfl⟩ | ⟨c, v, rfl, rfl, hcv⟩
  · cases h; exact .inl ⟨rfl, rfl, rfl⟩
  · cases c with
    | int k m =>
      cases hcv
      simp only [bndA] at h
      split at h
      · rename_i h0
        cases h
        refine .inr ⟨_, rfl, ?_⟩
        have : m ≤ (y : Int) := by omega
        simp [Instr.sliceBound, asIntOf, h0, this]
      · cases h
    | _ => cases h

theorem bnds_run {P : Program} {G : Gh} {w : World} {isS : Bool} {len cap l h : Nat} {lo hi : Option AV} {lv hv : Option Value} (h1 : bndA 0 lo = some l) (h2 : bndA len hi = some h) (hlh : l ≤ h) (hh : h ≤ cap)
    (hlo : (lo = none ∧ lv = none) ∨ ∃ c v, lo = some c ∧ lv = some v ∧ RepA G w c v) (hhi : (hi = none ∧ hv = none) ∨ ∃ c v, hi = some c ∧ hv = some v ∧ RepA G w c v) :
    (Instr.sliceBounds isS len cap lv hv none).run P w = .ok (l, h, cap) w := by
  unfold Instr.sliceBounds
  rcases bndA_run (P := P) (y := cap) (code := if isS then .sliceAcap else .sliceAlen) h2 hh hhi with ⟨_, rfl, rfl⟩ | ⟨v, rfl, hv⟩
  · rcases bndA_run (P := P) (y := h) (code := .sliceB) h1 hlh hlo with ⟨_, rfl, rfl⟩ | ⟨u, rfl, hu⟩
    · simp
    · simp [hu]
  · rcases bndA_run (P := P) (y := h) (code := .sliceB) h1 hlh hlo with ⟨_, rfl, rfl⟩ | ⟨u, rfl, hu⟩
    · simp [hv]
    · simp [hv, hu]

theorem SlAt.cut {st : Nat → Nat → Prop} {w : World} {es : List DV} {b o c z l h : Nat} (hs : SlAt st w es (some ⟨b, o, none⟩) c z) (h1 : l ≤ h) (h2 : h ≤ es.length) :
    SlAt st w ((es.drop l).take (h - l)) (some (if c = l then ⟨b, o, none⟩ else ⟨b, o + l * z, none⟩)) (c - l) z := by
  obtain ⟨h3, h4, h5, h6⟩ := hs
  have get : ∀ i e, ((es.drop l).take (h - l))[i]? = some e → es[l + i]? = some e ∧ i < h - l := by
    intro i e hi
    by_cases hlt : i < h - l
    · rw [List.getElem?_take_of_lt hlt, List.getElem?_drop] at hi
      exact ⟨hi, hlt⟩
    · rw [List.getElem?_eq_none (by simp; omega)] at hi; cases hi
  refine ⟨by simp; omega, by omega, fun i e hi => h5 _ e (get i e hi).1, .inr ?_⟩
  rcases h6 with ⟨he, h0⟩ | ⟨b', o', hA, h6⟩
  · have hc : c = l := by rw [he] at h2; simp only [List.length_nil] at h2; omega
    refine ⟨b, o, by rw [if_pos hc], fun i e hi => ?_⟩
    have := (get i e hi).2
    omega
  · cases hA
    by_cases hc : c = l
    · refine ⟨b, o, by rw [if_pos hc], fun i e hi => ?_⟩
      have := (get i e hi).2
      omega
    · refine ⟨b, o + l * z, by rw [if_neg hc], fun i e hi j d hd => ?_⟩
      have := h6 _ e (get i e hi).1 j d hd
      have e1 : o + ((l + i) * z + j) = o + l * z + (i * z + j) := by rw [Nat.add_mul]; omega
      rwa [e1] at this

theorem exCut_ok {P : Program} {G : Gh} {w : World} {t : Nat} {a : AV} {x : Value} {lo hi : Option AV} {lv hv : Option Value} {K : AV → Prop} (h : exCut P t a lo hi K) (hx : RepA G w a x)
    (hlo : (lo = none ∧ lv = none) ∨ ∃ c v, lo = some c ∧ lv = some v ∧ RepA G w c v) (hhi : (hi = none ∧ hv = none) ∨ ∃ c v, hi = some c ∧ hv = some v ∧ RepA G w c v) :
    ∃ v u, (Instr.sliceAt t x lv hv none).run P w = .ok u w ∧ RepA G w v u ∧ K v := by
  unfold exCut at h
  split at h
  · rename_i z es tok
    split at h
    · rename_i l n hl hn
      obtain ⟨hz, h1, h2, hK⟩ := h
      obtain ⟨e, i, hu, hi', hz⟩ := slA_of hz
      cases hx with
      | sl _ _ _ A c hsl _ =>
        have hle := hsl.1
        have hb := bnds_run (P := P) (isS := true) (cap := c) hl hn h1 (by omega) hlo hhi
        have run : (Instr.sliceAt t (.slice A es.length c) lv hv none).run P w = .ok (.slice (if c = l then A else A.map (·.add (l * z))) (n - l) (c - l)) w := by
          simp [Instr.sliceAt, run_underlying hu, Instr.slice, hb, sizeOf, typeInfo, hi', hz]
        rcases hsl.2.2.2 with ⟨he, hc⟩ | ⟨b, o, rfl, _⟩
        · subst he hc
          simp only [List.length_nil] at h2
          have : n = 0 := by omega
          subst this
          have : l = 0 := by omega
          subst this
          refine ⟨_, _, run, ?_, hK⟩
          exact .sl z [] .no A 0 ⟨by simp, by simp [maxLen], by simp, .inl ⟨rfl, rfl⟩⟩ trivial
        · have hcut := hsl.cut h1 h2
          refine ⟨_, _, run, ?_, hK⟩
          have e1 : (if c = l then (some (⟨b, o, none⟩ : Addr)) else (some (⟨b, o, none⟩ : Addr)).map (·.add (l * z))) = some (if c = l then ⟨b, o, none⟩ else ⟨b, o + l * z, none⟩) := by
            split <;> simp [add_at]
          rw [e1]
          have := RepA.sl (G := G) (w := w) z _ .no _ _ hcut trivial
          have e2 : ((es.drop l).take (n - l)).length = n - l := by simp; omega
          rwa [e2] at this
    · exact h.elim
  · rename_i s
    split at h
    · rename_i l n hl hn
      obtain ⟨ht, h1, h2, hK⟩ := h
      have hu := strA_of ht
      cases hx
      have hb := bnds_run (P := P) (isS := false) (cap := s.length) hl hn h1 h2 hlo hhi
      refine ⟨_, .string ⟨((s.drop l).take (n - l)).toArray⟩, ?_, .str _, hK⟩
      have hsz : (⟨s.toArray⟩ : ByteArray).size = s.length := rfl
      have hex : (⟨s.toArray⟩ : ByteArray).extract l n = ⟨((s.drop l).take (n - l)).toArray⟩ := by
        apply ByteArray.ext
        rw [ByteArray.data_extract]
        apply Array.ext'
        simp [List.extract_eq_take_drop]
      simp only [Instr.sliceAt, Sem.run_bind, run_underlying hu, Result.andThen_ok, Instr.slice, Option.isSome_none, Bool.false_eq_true, if_false, hsz, hb, Sem.run_pure, hex]
    · exact h.elim
  · rename_i l o
    split at h
    · rename_i n z hz
      obtain ⟨e, i, hu, hi', hz⟩ := arA_of hz
      split at h
      · rename_i l' n' hl hn
        obtain ⟨h1, h2, h3, h4, hK⟩ := h
        cases hx with
        | ptr _ _ b o' hb' hmk =>
          have hb := bnds_run (P := P) (isS := false) (cap := n) hl hn h1 h2 hlo hhi
          refine ⟨_, .slice (some ⟨b, o' + (o + l' * z), none⟩) (n' - l') (n - l'), ?_,   .msl _ _ _ _ b o' hb' hmk (by omega) (by simp [maxLen]; omega), hK⟩
          have hne : ¬ n = l' := by omega
          simp [Instr.sliceAt, run_underlying hu, Instr.sureAddr, hb, sizeOf, typeInfo, hi', hz, hne, add_at, Nat.add_assoc]
      · exact h.elim
    · exact h.elim
  · rename_i l o len cap
    split at h
    · rename_i z hz
      obtain ⟨e, i, hu, hi', hz⟩ := slA_of hz
      split at h
      · rename_i l' n' hl hn
        obtain ⟨h1, h2, h3, h4, hK⟩ := h
        cases hx with
        | msl _ _ _ _ b o' hb' hmk q1 q2 =>
          have hb := bnds_run (P := P) (isS := true) (cap := cap) hl hn h1 (by omega) hlo hhi
          refine ⟨_, .slice (some ⟨b, o' + (o + l' * z), none⟩) (n' - l') (cap - l'), ?_,   .msl _ _ _ _ b o' hb' hmk (by omega) (by omega), hK⟩
          have hne : ¬ cap = l' := by omega
          simp [Instr.sliceAt, run_underlying hu, Instr.slice, hb, sizeOf, typeInfo, hi', hz, hne, add_at, Nat.add_assoc]
      · exact h.elim
    · exact h.elim
  · exact h.elim

end Go.AB

/- What stays when the memory goes on: variables and marks, block by block; new variables; stores. -/
namespace Go.AB

theorem cell_of_heap {w w' : World} {b : Nat} (h : w'.heap[b]? = w.heap[b]?) (o : Nat) : w'.cell? ⟨b, o, none⟩ = w.cell? ⟨b, o, none⟩ := by
  simp only [World.cell?, h]
theorem frozen_of_heap {w w' : World} {b : Nat} (h : w'.heap[b]? = w.heap[b]?) (o : Nat) : w'.frozen? ⟨b, o, none⟩ = w.frozen? ⟨b, o, none⟩ := by
  simp only [World.frozen?, h]

theorem BoxAt.same {E : Env} {G G' : Gh} {w w' : World} {l : Loc} {cs : List AV} (h : BoxAt E G w l cs) (x : Ext G w G' w')
    (hw : ∀ b, G.who b = some (.inl l) → G'.who b = some (.inl l) ∧ (∀ j, G'.st b j → G.st b j) ∧ w'.heap[b]? = w.heap[b]?) : BoxAt E G' w' l cs := by
  obtain ⟨b, o, h1, h2, h3, h4, h5⟩ := h
  obtain ⟨k1, k2, k3⟩ := hw b h2
  refine ⟨b, o, x.bx _ _ h1, k1, h3, fun i hi => h4 i (k2 i hi), fun h0 j c hc => ?_, fun h0 => ?_⟩
  · obtain ⟨f1, v, f2, f3, f4⟩ := h5.1 h0 j c hc
    exact ⟨by rw [frozen_of_heap k3]; exact f1, v, by rw [cell_of_heap k3]; exact f2, f3, f4.ext x⟩
  · rcases h5.2 h0 with ⟨ks, vs, es, cl, g1, g2, g3⟩ | ⟨T, e, s, p, v, g1, g2, g3, g4⟩
    · exact .inl ⟨ks, vs, es, cl, g1, k3.trans g2, g3.ext x⟩
    · refine .inr ⟨T, e, s, p, v, g1, k3.trans g2, g3, ?_⟩
      rcases g4 with g4 | ⟨g, cap, cur, fz, e1, e2, e3, e4, e5, e6, e7, e8⟩
      · exact .inl g4
      · have e4' := e4
        rw [h2] at e4'
        obtain ⟨q1, q2, q3⟩ := hw g e4'
        exact .inr ⟨g, cap, cur, fz, e1, e2, e3, q1.trans k1.symm, fun j hj => e5 j (q2 j hj), e6, q3.trans e7, e8⟩

theorem TokOwn.same {E : Env} {G G' : Gh} {w w' : World} {i : Nat} (h : TokOwn E G w i) (ht : G'.tk i = G.tk i)
    (hw : ∀ b, G.who b = some (.inr i) → G'.who b = some (.inr i) ∧ (∀ j, G'.st b j → G.st b j) ∧ w'.heap[b]? = w.heap[b]?) : TokOwn E G' w' i := by
  rcases h with h | ⟨b, o, n, c, z, cells, ty, h1, h2, h3, h4, h5, h6, h7⟩
  · exact .inl (ht.trans h)
  · obtain ⟨k1, k2, k3⟩ := hw b h2
    exact .inr ⟨b, o, n, c, z, cells, ty, ht.trans h1, k1, h3, k3.trans h4, h5, h6, fun j hj hs => h7 j hj (k2 j hs)⟩

theorem Kept.heap {E : Env} {w w' : World} (h : Kept E w) (ho : w'.os = w.os) (ht : w'.tape = w.tape) (hu : w'.output = w.output) (hs : w.heap.size ≤ w'.heap.size)
    (hb : ∀ b, b < E.w0.heap.size → ¬ E.may b → w'.heap[b]? = w.heap[b]?) : Kept E w' :=
  ⟨ho.trans h.os, ht.trans h.tape, hu.trans h.output, Nat.le_trans h.size hs, fun b hb1 hb2 => (hb b hb1 hb2).trans (h.block b hb1 hb2)⟩

theorem st_lt {E : Env} {G : Gh} {m : AH} {w : World} (hi : Inv E G m w) {b o : Nat} (h : G.st b o) : b < w.heap.size := by
  rcases Nat.lt_or_ge b w.heap.size with hb | hb
  · exact hb
  · exact absurd h ((hi.fresh b hb).2 o)

theorem who_lt {E : Env} {G : Gh} {m : AH} {w : World} (hi : Inv E G m w) {b : Nat} {x : Loc ⊕ Nat} (h : G.who b = some x) : b < w.heap.size := by
  rcases Nat.lt_or_ge b w.heap.size with hb | hb
  · exact hb
  · rw [(hi.fresh b hb).1] at h; cases h

/-- A draw. -/
theorem Ext.drew (G : Gh) (w : World) : Ext G w G w.drew := ⟨fun _ _ h => h, fun _ _ _ => rfl, fun _ _ h => h, Nat.le_refl _, fun _ _ _ h => h⟩

theorem Inv.drew {E : Env} {G : Gh} {m : AH} {w : World} (h : Inv E G m w) : Inv E G m w.drew :=
  ⟨h.kept.heap rfl rfl rfl (Nat.le_refl _) (fun _ _ _ => rfl), fun l cs hc => (h.box l cs hc).same (Ext.drew G w) (fun _ hb => ⟨hb, fun _ x => x, rfl⟩),
   h.gen, fun i hl => (h.tok i hl).same rfl (fun _ hb => ⟨hb, fun _ x => x, rfl⟩), h.lt, h.nx, h.fresh, h.ext.trans (Ext.drew G w), h.st1⟩

/-- All goes on as it was but in one block. -/
structure But (N : Nat) (G : Gh) (w : World) (G' : Gh) (w' : World) : Prop where
  os : w'.os = w.os
  tape : w'.tape = w.tape
  output : w'.output = w.output
  size : w.heap.size ≤ w'.heap.size
  heap : ∀ b, b ≠ N → w'.heap[b]? = w.heap[b]?
  who : ∀ b, b ≠ N → G'.who b = G.who b
  st : ∀ b, b ≠ N → ∀ j, G'.st b j ↔ G.st b j

theorem Inv.but {E : Env} {N : Nat} {G G' : Gh} {m m' : AH} {w w' : World} (h : Inv E G m w) (x : Ext G w G' w') (k : But N G w G' w') (hN : E.may N ∨ E.w0.heap.size ≤ N)
    (hbox : ∀ l cs, m'.cells l = some cs → (m.cells l = some cs ∧ G.who N ≠ some (.inl l)) ∨ BoxAt E G' w' l cs)
    (hgen : ∀ t g, (hget m'.h t = none ∨ ∃ g' cs, hget m'.h t = some (g', cs) ∧ g' < g) → G'.bx (.own t g) = none)
    (htok : ∀ i, m'.lv i → (m.lv i ∧ G'.tk i = G.tk i ∧ G.who N ≠ some (.inr i)) ∨ TokOwn E G' w' i)
    (hlt : ∀ i, m'.lv i → i < m'.nx) (hnx : G'.nx = m'.nx) (hNl : N < w'.heap.size) : Inv E G' m' w' := by
  refine ⟨h.kept.heap k.os k.tape k.output k.size (fun b h1 h2 => k.heap b (fun e => ?_)), fun l cs hc => ?_, hgen, fun i hi => ?_, hlt, hnx, fun b hb => ?_, h.ext.trans x, fun b o hs hb => ?_⟩
  · subst e
    rcases hN with hN | hN
    · exact h2 hN
    · omega
  · rcases hbox l cs hc with ⟨h1, h2⟩ | h1
    · refine (h.box l cs h1).same x (fun b hb => ?_)
      have hne : b ≠ N := fun e => h2 (e ▸ hb)
      exact ⟨(k.who b hne).trans hb, fun j hj => (k.st b hne j).1 hj, k.heap b hne⟩
    · exact h1
  · rcases htok i hi with ⟨h1, h2, h3⟩ | h1
    · refine (h.tok i h1).same h2 (fun b hb => ?_)
      have hne : b ≠ N := fun e => h3 (e ▸ hb)
      exact ⟨(k.who b hne).trans hb, fun j hj => (k.st b hne j).1 hj, k.heap b hne⟩
    · exact h1
  · have hne : b ≠ N := by omega
    have hb' : w.heap.size ≤ b := Nat.le_trans k.size hb
    rw [k.who b hne]
    exact ⟨(h.fresh b hb').1, fun j hj => (h.fresh b hb').2 j ((k.st b hne j).1 hj)⟩
  · by_cases hne : b = N
    · subst hne
      rcases hN with hN | hN
      · exact .inr hN
      · omega
    · exact h.st1 b o ((k.st b hne o).1 hs) hb

def updN {α : Type} (f : Nat → α) (n : Nat) (v : α) : Nat → α := fun k => if k = n then v else f k
def updL {α : Type} (f : Loc → α) (n : Loc) (v : α) : Loc → α := fun k => if k = n then v else f k

theorem updN_self {α : Type} (f : Nat → α) (n : Nat) (v : α) : updN f n v n = v := by simp [updN]
theorem updN_ne {α : Type} (f : Nat → α) {n k : Nat} (v : α) (h : k ≠ n) : updN f n v k = f k := by simp [updN, h]
theorem updL_self {α : Type} (f : Loc → α) (n : Loc) (v : α) : updL f n v n = v := by simp [updL]
theorem updL_ne {α : Type} (f : Loc → α) {n k : Loc} (v : α) (h : k ≠ n) : updL f n v k = f k := by simp [updL, h]

/-- The generation of a slot's next variable. -/
def gnext (m : AH) (t : Nat) : Nat := match hget m.h t with
  | none => 0
  | some (g, _) => g + 1

def AH.newBox (m : AH) (t : Nat) (cs : List AV) : AH := { m with h := hset m.h t (gnext m t) cs }

/-- A new variable. -/
theorem Inv.newBox {E : Env} {G : Gh} {m : AH} {w : World} (h : Inv E G m w) (t ty : Nat) (cs : List AV) (vs : List Value) (hl : vs.length = cs.length) (ho : ∀ v ∈ vs, oneCell v = true)
    (hr : ∀ (i : Nat) (c : AV) (v : Value), cs[i]? = some c → vs[i]? = some v → RepA G w c v) :
    ∃ G', Ext G w G' (w.alloc (.cells vs.toArray ty)) ∧ Inv E G' (m.newBox t cs) (w.alloc (.cells vs.toArray ty)) ∧ G'.bx (.own t (gnext m t)) = some (w.heap.size, 0) := by
  let N := w.heap.size
  let g := gnext m t
  have hbx : G.bx (.own t g) = none := by
    apply h.gen
    show hget m.h t = none ∨ _
    simp only [g, gnext]
    cases hg : hget m.h t with
    | none => exact .inl rfl
    | some x => obtain ⟨g', cs'⟩ := x; exact .inr ⟨g', cs', rfl, by simp⟩
  have hx : Ext G w { G with bx := updL G.bx (.own t g) (some (N, 0)), who := updN G.who N (some (.inl (.own t g))) } (w.alloc (.cells vs.toArray ty)) := by
    refine ⟨fun b o hs => hs, fun b o hs => World.cell?_alloc_lt w _ _ (st_lt h hs), fun l y hy => ?_, Nat.le_refl _, fun i x _ hx => hx⟩
    show updL G.bx (.own t g) (some (N, 0)) l = some y
    have hne : l ≠ .own t g := fun e => by subst e; rw [hbx] at hy; cases hy
    rw [updL_ne _ _ hne]; exact hy
  refine ⟨_, hx, ?_, by simp [updL, N, g]⟩
  refine h.but (N := N) hx ⟨rfl, rfl, rfl, by simp, fun b hb => ?_, fun b hb => updN_ne _ _ hb, fun b hb j => Iff.rfl⟩ (.inr h.kept.size) (fun l cs' hc => ?_) (fun t' g' hg => ?_) (fun i hi => .inl ⟨hi, rfl, ?_⟩) h.lt h.nx (by simp [N])
  · show (w.heap.push _)[b]? = _
    rw [Array.getElem?_push, if_neg hb]
  · by_cases hl' : l = .own t g
    · subst hl'
      right
      have : m.newBox t cs = { m with h := hset m.h t g cs } := rfl
      rw [this] at hc
      simp only [AH.cells, hget_set_self, if_true] at hc
      cases hc
      refine ⟨N, 0, updL_self _ _ _, updN_self _ _ _, .inr h.kept.size, fun i hs => absurd (st_lt h hs) (by simp [N]), fun _ j c hj => ?_, fun h0 => by cases h0⟩
      have hjl : j < vs.length := by rw [hl]; exact (List.getElem?_eq_some_iff.1 hj).1
      refine ⟨by rw [Nat.zero_add]; exact World.frozen?_alloc_new w _ _ _, vs[j], by rw [Nat.zero_add]; rw [World.cell?_alloc_new]; simp [hjl], ho _ (List.getElem_mem hjl), ?_⟩
      exact (hr j c _ hj (List.getElem?_eq_getElem hjl)).ext hx
    · left
      refine ⟨?_, by rw [(h.fresh N (Nat.le_refl _)).1]; simp⟩
      cases l with
      | out k => exact hc
      | own t' g' =>
        simp only [AH.newBox, AH.cells] at hc ⊢
        by_cases ht : t = t'
        · subst ht
          rw [hget_set_self] at hc
          have : ¬ g' = gnext m t := fun e => hl' (by rw [e])
          simp [this] at hc
        · rw [hget_set_ne _ _ _ ht] at hc
          exact hc
  · show updL G.bx (.own t g) (some (N, 0)) (.own t' g') = none
    by_cases ht : t = t'
    · subst ht
      simp only [AH.newBox, hget_set_self] at hg
      rcases hg with hg | ⟨g2, cs2, hg, hlt⟩
      · cases hg
      · cases hg
        rw [updL_ne _ _ (by intro e; cases e; exact absurd hlt (Nat.lt_irrefl _))]
        apply h.gen
        simp only [gnext] at hlt
        cases hh : hget m.h t with
        | none => exact .inl rfl
        | some x => obtain ⟨g3, cs3⟩ := x; rw [hh] at hlt; exact .inr ⟨g3, cs3, rfl, by simp at hlt; omega⟩
    · rw [updL_ne _ _ (by intro e; cases e; exact ht rfl)]
      apply h.gen
      simpa only [AH.newBox, hget_set_ne _ _ _ ht] using hg
  · rw [(h.fresh N (Nat.le_refl _)).1]; simp

theorem heap_setCells (b : Nat) : ∀ (vs : List Value) (o : Nat) (w : World) (k : Nat), k ≠ b → (w.setCells b o vs).heap[k]? = w.heap[k]?
  | [], _, _, _, _ => rfl
  | v :: r, o, w, k, h => by
    rw [World.setCells, heap_setCells b r (o + 1) _ k h]
    exact Go.RowKit.Below.heap_setCell w _ _ _ h
theorem size_setCells (b : Nat) : ∀ (vs : List Value) (o : Nat) (w : World), (w.setCells b o vs).heap.size = w.heap.size
  | [], _, _ => rfl
  | v :: r, o, w => by rw [World.setCells, size_setCells b r (o + 1)]; simp
theorem os_setCells (b : Nat) : ∀ (vs : List Value) (o : Nat) (w : World), (w.setCells b o vs).os = w.os ∧ (w.setCells b o vs).tape = w.tape ∧ (w.setCells b o vs).output = w.output
  | [], _, _ => ⟨rfl, rfl, rfl⟩
  | v :: r, o, w => by rw [World.setCells]; exact os_setCells b r (o + 1) _

def spl (cs : List AV) (off : Nat) (new : List AV) : List AV := cs.take off ++ new ++ cs.drop (off + new.length)

theorem spl_get {cs new : List AV} {off j : Nat} (h : off + new.length ≤ cs.length) : (spl cs off new)[j]? = if off ≤ j ∧ j < off + new.length then new[j - off]? else cs[j]? := by
  unfold spl
  have h1 : (cs.take off).length = off := by simp; omega
  by_cases hj : j < off
  · rw [if_neg (by omega), List.append_assoc, List.getElem?_append_left (by omega), List.getElem?_take_of_lt hj]
  · by_cases hj2 : j < off + new.length
    · rw [if_pos ⟨by omega, hj2⟩, List.append_assoc, List.getElem?_append_right (by omega), h1, List.getElem?_append_left (by omega)]
    · rw [if_neg (by omega), List.getElem?_append_right (by simp; omega), List.getElem?_drop]
      congr 1
      simp; omega

theorem oneCell_eq (v : Value) : v.oneCell' = oneCell v := by cases v <;> rfl

/-- A store into a variable. -/
theorem Inv.store {E : Env} {G : Gh} {m : AH} {w : World} (h : Inv E G m w) {P : Program} {l : Loc} {cs new : List AV} {b o off : Nat} (hc : m.cells l = some cs) (hb : G.bx l = some (b, o)) (h0 : o ≠ mapMark) (hfit : off + new.length ≤ cs.length)
    (vs : List Value) (hl : vs.length = new.length) (ho : ∀ v ∈ vs, oneCell v = true) (hr : ∀ (i : Nat) (c : AV) (v : Value), new[i]? = some c → vs[i]? = some v → RepA G w c v) :
    (storeCells ⟨b, o + off, none⟩ vs).run P w = .ok () (w.setCells b (o + off) vs) ∧ Ext G w G (w.setCells b (o + off) vs) ∧ Inv E G (m.setCells l (spl cs off new)) (w.setCells b (o + off) vs) := by
  obtain ⟨b', o', hb', hwho, hmay, hst, hcell, _⟩ := h.box l cs hc
  rw [hb] at hb'
  cases hb'
  have hcell := hcell h0
  have hin : ∀ j, j < vs.length → (w.cell? ⟨b, o + off + j, none⟩).isSome = true ∧ w.frozen? ⟨b, o + off + j, none⟩ = false := by
    intro j hj
    have hlt : off + j < cs.length := by omega
    obtain ⟨f1, v, f2, _, _⟩ := hcell (off + j) _ (List.getElem?_eq_getElem hlt)
    rw [Nat.add_assoc]
    exact ⟨by rw [f2]; rfl, f1⟩
  have run := run_storeCells_cells (P := P) b (o + off) vs 0 w (fun j hj => by simpa using (hin j hj).1) (fun j hj => by simpa using (hin j hj).2) (fun v hv => by rw [oneCell_eq]; exact ho v hv)
  have hx : Ext G w G (w.setCells b (o + off) vs) := by
    refine ⟨fun _ _ x => x, fun b2 o2 hs => ?_, fun _ _ x => x, Nat.le_refl _, fun _ _ _ x => x⟩
    exact cell_of_heap (heap_setCells b vs _ w b2 (fun e => hst o2 (e ▸ hs))) o2
  refine ⟨run, hx, ?_⟩
  refine h.but (N := b) hx ⟨(os_setCells b vs _ w).1, (os_setCells b vs _ w).2.1, (os_setCells b vs _ w).2.2, by rw [size_setCells]; exact Nat.le_refl _, fun k hk => heap_setCells b vs _ w k hk, fun _ _ => rfl, fun _ _ _ => Iff.rfl⟩
    hmay (fun l2 cs2 hc2 => ?_) (fun t g hg => ?_) (fun i hi => .inl ⟨?_, rfl, by rw [hwho]; simp⟩) ?_ ?_ (by rw [size_setCells]; exact who_lt h hwho)
  · by_cases hl2 : l2 = l
    · subst hl2
      right
      have hcs : cs2 = spl cs off new := by
        cases l2 with
        | own t g =>
          simp only [AH.setCells, AH.cells, hget_set_self, if_true] at hc2
          exact (Option.some.inj hc2).symm
        | out k =>
          simp only [AH.setCells, AH.cells] at hc2 hc
          have hk : k < m.o.length := (List.getElem?_eq_some_iff.1 hc).1
          rw [List.getElem?_set_self hk] at hc2
          exact (Option.some.inj hc2).symm
      subst hcs
      refine ⟨b, o, hb, hwho, hmay, hst, fun _ j c hj => ?_, fun e => absurd e h0⟩
      rw [spl_get hfit] at hj
      split at hj
      · rename_i hjr
        have hjv : j - off < vs.length := by omega
        have e1 : o + j = o + off + (j - off) := by omega
        have hcn := World.cell?_setCells_in b vs (o + off) w (fun i hi => (hin i hi).1) (j - off) hjv
        refine ⟨?_, vs[j - off], ?_, ho _ (List.getElem_mem hjv), (hr _ c _ hj (List.getElem?_eq_getElem hjv)).ext hx⟩
        · rw [World.frozen?_setCells, e1]; exact (hin _ hjv).2
        · rw [e1]; exact hcn
      · rename_i hjr
        obtain ⟨f1, v, f2, f3, f4⟩ := hcell j c hj
        refine ⟨by rw [World.frozen?_setCells]; exact f1, v, ?_, f3, f4.ext hx⟩
        rw [World.cell?_setCells_out b vs (o + off) w _ (fun _ _ => by simp; omega)]
        exact f2
    · left
      refine ⟨?_, by rw [hwho]; intro e; cases e; exact hl2 rfl⟩
      cases l with
      | own t g =>
        cases l2 with
        | out k => exact hc2
        | own t2 g2 =>
          simp only [AH.setCells, AH.cells] at hc2 hc ⊢
          by_cases ht : t = t2
          · subst ht
            rw [hget_set_self] at hc2
            have : ¬ g2 = g := fun e => hl2 (by rw [e])
            simp [this] at hc2
          · rwa [hget_set_ne _ _ _ ht] at hc2
      | out k =>
        cases l2 with
        | own t2 g2 => exact hc2
        | out k2 =>
          simp only [AH.setCells, AH.cells] at hc2 ⊢
          have : k ≠ k2 := fun e => hl2 (by rw [e])
          rwa [List.getElem?_set_ne this] at hc2
  · apply h.gen
    cases l with
    | out k => exact hg
    | own t2 g2 =>
      simp only [AH.setCells] at hg
      by_cases ht : t2 = t
      · subst ht
        rw [hget_set_self] at hg
        right
        simp only [AH.cells] at hc
        cases hh : hget m.h t2 with
        | none => rw [hh] at hc; cases hc
        | some x =>
          obtain ⟨g3, cs3⟩ := x
          rw [hh] at hc
          simp only at hc
          split at hc
          · rename_i hgg
            subst hgg
            rcases hg with hg | ⟨g4, cs4, hg, hlt⟩
            · cases hg
            · cases hg; exact ⟨g2, cs3, rfl, hlt⟩
          · cases hc
      · rwa [hget_set_ne _ _ _ ht] at hg
  · cases l <;> exact hi
  · cases l <;> exact h.lt
  · cases l <;> exact h.nx

end Go.AB

/- Slices that a function makes and adds to: append, literals, make; and what a cut of bytes out of a string is. -/
namespace Go.AB

/-- A mark is given out, another one is used up. -/
def AH.app (m : AH) (kill : Tok) : AH := { m with nx := m.nx + 1, lv := fun j => j = m.nx ∨ (m.lv j ∧ kill ≠ .own j) }

theorem app_cells (m : AH) (k : Tok) (l : Loc) : (m.app k).cells l = m.cells l := by cases l <;> rfl

theorem index_lt {i j z n : Nat} (hi : i < n) (hj : j < z) : i * z + j < n * z := by
  have h1 : (i + 1) * z ≤ n * z := Nat.mul_le_mul_right _ hi
  rw [Nat.add_mul] at h1
  omega

/-- A new row that is added to by nobody else. -/
theorem Inv.newArr {E : Env} {G : Gh} {m : AH} {w : World} (h : Inv E G m w) (kill : Tok) (z : Nat) (es : List DV) (c ty : Nat) (us rest : List Value) (hd : ∀ (i : Nat) (e : DV), es[i]? = some e → (dcells e).length = z)
    (hrep : ∀ (i : Nat) (e : DV), es[i]? = some e → ∀ (j : Nat) (d : DV), (dcells e)[j]? = some d → ∃ v, us[i * z + j]? = some v ∧ RepD G.st w d v)
    (hc : es.length ≤ c) (hm : c ≤ maxLen) (hz : c * z ≤ (us ++ rest).length) :
    ∃ G', Ext G w G' (w.alloc (.cells (us ++ rest).toArray ty)) ∧ Inv E G' (m.app kill) (w.alloc (.cells (us ++ rest).toArray ty)) ∧
      RepA G' (w.alloc (.cells (us ++ rest).toArray ty)) (.sl z es (.own m.nx)) (.slice (some ⟨w.heap.size, 0, none⟩) es.length c) := by
  let N := w.heap.size
  let G' : Gh := { G with st := fun b j => G.st b j ∨ (b = N ∧ j < es.length * z), tk := fun j => if j = m.nx then some (some (N, 0, es.length, c, z)) else if kill = .own j then none else G.tk j, nx := m.nx + 1, who := updN G.who N (some (.inr m.nx)) }
  have hx : Ext G w G' (w.alloc (.cells (us ++ rest).toArray ty)) := by
    refine ⟨fun b o hs => .inl hs, fun b o hs => World.cell?_alloc_lt w _ _ (st_lt h hs), fun l y hy => hy, by rw [h.nx]; exact Nat.le_succ _, fun i x hi hx => ?_⟩
    have hne : ¬ i = m.nx := by rw [h.nx] at hi; omega
    simp only [G', hne, if_false] at hx
    split at hx
    · cases hx
    · exact hx
  have hNn : G.who N = none := (h.fresh N (Nat.le_refl _)).1
  refine ⟨G', hx, ?_, ?_⟩
  · refine h.but (N := N) hx ⟨rfl, rfl, rfl, by simp, fun b hb => ?_, fun b hb => updN_ne _ _ hb, fun b hb j => ?_⟩ (.inr h.kept.size) (fun l cs hcs => .inl ⟨by rwa [app_cells] at hcs, by rw [hNn]; simp⟩) (fun t g hg => h.gen t g hg) (fun i hi => ?_) (fun i hi => ?_) rfl (by simp [N])
    · show (w.heap.push _)[b]? = _
      rw [Array.getElem?_push, if_neg hb]
    · simp [G', hb]
    · by_cases hin : i = m.nx
      · subst hin
        right
        refine .inr ⟨N, 0, es.length, c, z, (us ++ rest).toArray, ty, by simp [G'], by simp [G', updN], .inr h.kept.size, ?_, ?_, hc, fun j hj hs => ?_⟩
        · show (w.heap.push _)[N]? = _
          rw [Array.getElem?_push, if_pos rfl]
        · simpa using hz
        · rcases hs with hs | ⟨_, hs⟩
          · exact absurd (st_lt h hs) (by simp [N])
          · omega
      · rcases hi with hi | ⟨hi, hk⟩
        · exact absurd hi hin
        · left
          refine ⟨hi, ?_, by rw [hNn]; simp⟩
          simp [G', hin, hk]
    · rcases hi with hi | ⟨hi, _⟩
      · subst hi; exact Nat.lt_succ_self _
      · exact Nat.lt_succ_of_lt (h.lt i hi)
  · refine .sl z es _ _ c ⟨hc, hm, hd, .inr ⟨N, 0, rfl, fun i e he j d hdj => ?_⟩⟩ ⟨by simp [G'], fun x hx' => .inr ⟨N, 0, rfl, ?_⟩⟩
    · obtain ⟨v, hv, hr⟩ := hrep i e he j d hdj
      have hi := (List.getElem?_eq_some_iff.1 he).1
      have hj : j < z := by rw [← hd i e he]; exact (List.getElem?_eq_some_iff.1 hdj).1
      refine ⟨.inr ⟨rfl, by rw [Nat.zero_add]; exact index_lt hi hj⟩, v, ?_, hr.ext hx.st hx.cell⟩
      rw [Nat.zero_add, World.cell?_alloc_new]
      rw [List.getElem?_toArray, List.getElem?_append_left (List.getElem?_eq_some_iff.1 hv).1]
      exact hv
    · simp [G'] at hx'
      exact hx'.symm

theorem SlAt.flat {st : Nat → Nat → Prop} {w : World} {xs : List DV} {b o c z : Nat} (h : SlAt st w xs (some ⟨b, o, none⟩) c z) :
    ∃ news : List Value, news.length = xs.length * z ∧ (∀ k v, news[k]? = some v → w.cell? ⟨b, o + k, none⟩ = some v ∧ oneCell v = true) ∧
      ∀ (i : Nat) (e : DV), xs[i]? = some e → ∀ (j : Nat) (d : DV), (dcells e)[j]? = some d → ∃ v, news[i * z + j]? = some v ∧ RepD st w d v := by
  obtain ⟨_, _, h3, h4⟩ := h
  rcases h4 with ⟨he, _⟩ | ⟨b', o', hA, h4⟩
  · subst he
    exact ⟨[], by simp, by simp, by simp⟩
  · cases hA
    obtain ⟨vs, hl, hv⟩ := cells_list (w := w) (b := b) (o := o) (p := fun _ v => oneCell v = true) (xs.length * z) 0 (fun k hk => by
      have hz : 0 < z := by rcases Nat.eq_zero_or_pos z with rfl | hz <;> simp_all
      have hi : k / z < xs.length := by rw [Nat.div_lt_iff_lt_mul hz]; exact hk
      have he := List.getElem?_eq_getElem hi
      have hj : k % z < (dcells xs[k / z]).length := by rw [h3 _ _ he]; exact Nat.mod_lt _ hz
      obtain ⟨_, v, h5, h6⟩ := h4 _ _ he _ _ (List.getElem?_eq_getElem hj)
      have e1 : k / z * z + k % z = k := by rw [Nat.mul_comm]; exact Nat.div_add_mod k z
      rw [e1] at h5
      exact ⟨v, by rw [Nat.zero_add]; exact h5, h6.one⟩)
    refine ⟨vs, hl, fun k v hk => by have := hv k v hk; rwa [Nat.zero_add] at this, fun i e he j d hd => ?_⟩
    obtain ⟨_, v, h5, h6⟩ := h4 i e he j d hd
    have hi := (List.getElem?_eq_some_iff.1 he).1
    have hj : j < z := by rw [← h3 i e he]; exact (List.getElem?_eq_some_iff.1 hd).1
    have hlt : i * z + j < vs.length := by rw [hl]; exact index_lt hi hj
    refine ⟨vs[i * z + j], List.getElem?_eq_getElem hlt, ?_⟩
    have := (hv _ _ (List.getElem?_eq_getElem hlt)).1
    rw [Nat.zero_add, h5] at this
    cases this
    exact h6

/-- What append needs of the slice's type: the cells and the bytes of an element. -/
def apA (P : Program) (t : Nat) : Option (Nat × Nat) := match P.underlying t with
  | some (.slice e) => match P.info? e with
    | some i => match i.zero with
      | some zv => if zv.cells.size = i.size ∧ 0 < i.bytes then some (i.size, i.bytes) else none
      | none => none
    | none => none
  | _ => none

theorem apA_of {P : Program} {t z y : Nat} (h : apA P t = some (z, y)) : ∃ e i zv, P.underlying t = some (.slice e) ∧ P.info? e = some i ∧ i.zero = some zv ∧ zv.cells.size = z ∧ i.size = z ∧ i.bytes = y ∧ 0 < y := by
  unfold apA at h
  split at h
  · rename_i e hu
    split at h
    · rename_i i hi
      split at h
      · rename_i zv hz
        split at h
        · rename_i hc
          cases h
          exact ⟨e, i, zv, hu, hi, hz, hc.1, rfl, rfl, hc.2⟩
        · cases h
      · cases h
    · cases h
  · cases h

theorem heap_setCells_self (b : Nat) (ty : Nat) (fr : Nat × Nat) : ∀ (vs : List Value) (o : Nat) (w : World) (cs : Array Value), w.heap[b]? = some (.cells cs ty fr) → ∃ cs', (w.setCells b o vs).heap[b]? = some (.cells cs' ty fr) ∧ cs'.size = cs.size
  | [], _, _, cs, h => ⟨cs, h, rfl⟩
  | v :: r, o, w, cs, h => by
    rw [World.setCells]
    obtain ⟨cs', h1, h2⟩ := heap_setCells_self b ty fr r (o + 1) (w.setCell ⟨b, o, none⟩ v) (cs.setIfInBounds o v) (by
      simp only [World.setCell, Array.getElem?_modify, if_true, h]
      rfl)
    exact ⟨cs', h1, by rw [h2]; simp⟩

/-- More in a row that nobody else adds to. -/
theorem Inv.roomArr {E : Env} {G : Gh} {m : AH} {w : World} (h : Inv E G m w) {P : Program} (i b o c z : Nat) (es xs : List DV) (us : List Value) (hlv : m.lv i) (htk : G.tk i = some (some (b, o, es.length, c, z)))
    (hes : SlAt G.st w es (some ⟨b, o, none⟩) c z) (hxz : ∀ (i : Nat) (e : DV), xs[i]? = some e → (dcells e).length = z) (hus : us.length = xs.length * z) (h1 : ∀ v ∈ us, oneCell v = true)
    (hrep : ∀ (i : Nat) (e : DV), xs[i]? = some e → ∀ (j : Nat) (d : DV), (dcells e)[j]? = some d → ∃ v, us[i * z + j]? = some v ∧ RepD G.st w d v) (hroom : es.length + xs.length ≤ c) :
    (storeCells ⟨b, o + es.length * z, none⟩ us).run P w = .ok () (w.setCells b (o + es.length * z) us) ∧
    ∃ G', Ext G w G' (w.setCells b (o + es.length * z) us) ∧ Inv E G' (m.app (.own i)) (w.setCells b (o + es.length * z) us) ∧
      RepA G' (w.setCells b (o + es.length * z) us) (.sl z (es ++ xs) (.own m.nx)) (.slice (some ⟨b, o, none⟩) (es ++ xs).length c) := by
  have ht := h.tok i hlv
  rcases ht with ht | ⟨b', o', n', c', z', cells, ty, ht, hwho, hmay, hheap, hsz, hnc, hst⟩
  · rw [htk] at ht; cases ht
  rw [htk] at ht
  cases ht
  have hfit : o + (es.length + xs.length) * z ≤ cells.size := Nat.le_trans (Nat.add_le_add_left (Nat.mul_le_mul_right _ hroom) _) hsz
  rw [Nat.add_mul] at hfit
  have hcell : ∀ j, j < us.length → (w.cell? ⟨b, o + es.length * z + j, none⟩).isSome = true := by
    intro j hj
    have hlt : o + es.length * z + j < cells.size := by omega
    simp [World.cell?, hheap, hlt]
  have run := run_storeCells_cells (P := P) b (o + es.length * z) us 0 w (fun j hj => by simpa using hcell j hj) (fun j hj => by simp [World.frozen?, hheap]) (fun v hv => by rw [oneCell_eq]; exact h1 v hv)
  refine ⟨run, ?_⟩
  let w' := w.setCells b (o + es.length * z) us
  let G' : Gh := { G with st := fun b2 j => G.st b2 j ∨ (b2 = b ∧ o + es.length * z ≤ j ∧ j < o + (es.length + xs.length) * z), tk := fun j => if j = m.nx then some (some (b, o, (es ++ xs).length, c, z)) else if i = j then none else G.tk j, nx := m.nx + 1, who := updN G.who b (some (.inr m.nx)) }
  have hout : ∀ b2 o2, G.st b2 o2 → w'.cell? ⟨b2, o2, none⟩ = w.cell? ⟨b2, o2, none⟩ := by
    intro b2 o2 hs
    refine World.cell?_setCells_out b us _ w _ (fun e _ => ?_)
    simp only at e
    subst e
    left
    simp only
    rcases Nat.lt_or_ge o2 (o + es.length * z) with h | h
    · exact h
    · exact absurd hs (hst o2 h)
  have hx : Ext G w G' w' := by
    refine ⟨fun b2 o2 hs => .inl hs, hout, fun l y hy => hy, by rw [h.nx]; exact Nat.le_succ _, fun k x hi hx => ?_⟩
    have hne : ¬ k = m.nx := by rw [h.nx] at hi; omega
    simp only [G', hne, if_false] at hx
    split at hx
    · cases hx
    · exact hx
  have hlen : (es ++ xs).length = es.length + xs.length := List.length_append
  refine ⟨G', hx, ?_, ?_⟩
  · refine h.but (N := b) hx ⟨(os_setCells b us _ w).1, (os_setCells b us _ w).2.1, (os_setCells b us _ w).2.2, by rw [size_setCells]; exact Nat.le_refl _, fun k hk => heap_setCells b us _ w k hk, fun k hk => updN_ne _ _ hk, fun k hk j => ?_⟩ hmay
      (fun l cs hcs => .inl ⟨by rwa [app_cells] at hcs, by rw [hwho]; simp⟩) (fun t g hg => h.gen t g hg) (fun k hk => ?_) (fun k hk => ?_) rfl (by rw [size_setCells]; exact who_lt h hwho)
    · simp [G', hk]
    · by_cases hkn : k = m.nx
      · subst hkn
        right
        obtain ⟨cs', hh, hs'⟩ := heap_setCells_self b ty (0, 0) us (o + es.length * z) w cells hheap
        refine .inr ⟨b, o, (es ++ xs).length, c, z, cs', ty, by simp [G'], by simp [G', updN], hmay, hh, by rw [hs']; exact hsz, by rw [hlen]; exact hroom, fun j hj hs => ?_⟩
        rw [hlen, Nat.add_mul] at hj
        rcases hs with hs | ⟨_, hs1, hs2⟩
        · exact hst j (by omega) hs
        · rw [Nat.add_mul] at hs2; omega
      · rcases hk with hk | ⟨hk, hki⟩
        · exact absurd hk hkn
        · left
          have hki' : ¬ i = k := fun e => hki (by rw [e])
          exact ⟨hk, by simp [G', hkn, hki'], by rw [hwho]; intro e; cases e; exact hki' rfl⟩
    · rcases hk with hk | ⟨hk, _⟩
      · subst hk; exact Nat.lt_succ_self _
      · exact Nat.lt_succ_of_lt (h.lt k hk)
  · obtain ⟨h2, h3, h4, h5⟩ := hes
    refine .sl z _ _ _ c ⟨by rw [hlen]; exact hroom, h3, fun k e he => ?_, .inr ⟨b, o, rfl, fun k e he j d hd => ?_⟩⟩ ⟨by simp [G'], fun x hx' => .inr ⟨b, o, rfl, ?_⟩⟩
    · by_cases hk : k < es.length
      · rw [List.getElem?_append_left hk] at he; exact h4 _ _ he
      · rw [List.getElem?_append_right (by omega)] at he; exact hxz _ _ he
    · by_cases hk : k < es.length
      · rw [List.getElem?_append_left hk] at he
        rcases h5 with ⟨hE, _⟩ | ⟨b', o', hA, h5⟩
        · subst hE; simp at hk
        · cases hA
          obtain ⟨s1, v, s2, s3⟩ := h5 k e he j d hd
          exact ⟨.inl s1, v, (hout _ _ s1).trans s2, s3.ext hx.st hx.cell⟩
      · rw [List.getElem?_append_right (by omega)] at he
        obtain ⟨v, hv, hr⟩ := hrep _ e he j d hd
        have hkx := (List.getElem?_eq_some_iff.1 he).1
        have hj : j < z := by rw [← hxz _ e he]; exact (List.getElem?_eq_some_iff.1 hd).1
        have hb := index_lt hkx hj
        have e1 : o + (k * z + j) = o + es.length * z + ((k - es.length) * z + j) := by
          have : k * z = es.length * z + (k - es.length) * z := by rw [← Nat.add_mul]; congr 1; omega
          omega
        rw [e1]
        have hvl := (List.getElem?_eq_some_iff.1 hv).1
        refine ⟨.inr ⟨rfl, by omega, by rw [Nat.add_mul]; omega⟩, v, ?_, hr.ext hx.st hx.cell⟩
        rw [World.cell?_setCells_in b us (o + es.length * z) w hcell _ hvl]
        exact (List.getElem?_eq_getElem hvl).symm.trans hv
    · simp [G'] at hx'
      rw [hlen]
      exact hx'.symm

theorem RepD.drew {st : Nat → Nat → Prop} {w : World} {d : DV} {v : Value} (h : RepD st w d v) : RepD st w.drew d v :=
  RepD.ext (w := w) (w' := w.drew) (st := st) (st' := st) (fun _ _ x => x) (fun _ _ _ => rfl) h

/-- Whether a slice may be added to. -/
def okT (m : AH) : Tok → Prop
  | .no => False
  | .nil => True
  | .own i => m.lv i

/-- An append of nothing to what is nil. -/
theorem Inv.nilApp {E : Env} {G : Gh} {m : AH} {w : World} (h : Inv E G m w) (kill : Tok) (z : Nat) :
    ∃ G', Ext G w G' w ∧ Inv E G' (m.app kill) w ∧ RepA G' w (.sl z [] (.own m.nx)) (.slice none 0 0) := by
  let G' : Gh := { G with tk := fun j => if j = m.nx then some none else if kill = .own j then none else G.tk j, nx := m.nx + 1 }
  have hx : Ext G w G' w := by
    refine ⟨fun b o hs => hs, fun b o hs => rfl, fun l y hy => hy, by rw [h.nx]; exact Nat.le_succ _, fun i x hi hx => ?_⟩
    have hne : ¬ i = m.nx := by rw [h.nx] at hi; omega
    simp only [G', hne, if_false] at hx
    split at hx
    · cases hx
    · exact hx
  refine ⟨G', hx, ⟨h.kept, fun l cs hc => (h.box l cs (by rwa [app_cells] at hc)).same hx (fun _ hb => ⟨hb, fun _ x => x, rfl⟩), fun t g hg => h.gen t g hg, fun i hi => ?_, fun i hi => ?_, rfl, h.fresh, h.ext.trans hx, h.st1⟩, ?_⟩
  · by_cases hin : i = m.nx
    · subst hin; exact .inl (by simp [G'])
    · rcases hi with hi | ⟨hi, hk⟩
      · exact absurd hi hin
      · exact (h.tok i hi).same (by simp [G', hin, hk]) (fun _ hb => ⟨hb, fun _ x => x, rfl⟩)
  · rcases hi with hi | ⟨hi, _⟩
    · subst hi; exact Nat.lt_succ_self _
    · exact Nat.lt_succ_of_lt (h.lt i hi)
  · exact .sl z [] _ none 0 ⟨by simp, by simp [maxLen], by simp, .inl ⟨rfl, rfl⟩⟩ ⟨by simp [G'], fun x hx' => by simp [G'] at hx'; exact .inl ⟨rfl, hx'.symm⟩⟩

/-- Whether a type is that of slices of bytes. -/
def bytesA (P : Program) (t : Nat) : Bool := match P.underlying t with
  | some (.slice e) => match P.underlying e, P.info? e with
    | some (.int .u8), some i => i.size == 1
    | _, _ => false
  | _ => false

theorem bytesA_of {P : Program} {t : Nat} (h : bytesA P t = true) : ∃ e, P.underlying t = some (.slice e) ∧ P.underlying e = some (.int .u8) := by
  unfold bytesA at h
  split at h
  · rename_i e hu
    split at h
    · rename_i i he _; exact ⟨e, hu, he⟩
    · cases h
  · cases h

def byteD (b : UInt8) : DV := .int .u8 b.toNat

/-- The bytes of a string, as a new slice. -/
def exBytes (P : Program) (src : Nat) (a : AV) (K : AV → Prop) : Prop := match a with
  | .str s => strA P src = true ∧ s.length ≤ 140737488355328 ∧ K (.sl 1 (s.map byteD) .no)
  | _ => False

theorem exBytes_ok {P : Program} {E : Env} {G : Gh} {m : AH} {w : World} {src dst : Nat} {a : AV} {x : Value} {K : AV → Prop} (h : exBytes P src a K) (hb : bytesA P dst = true) (hi : Inv E G m w) (hx : RepA G w a x) :
    ∃ G' w' v u, (convert src dst x).run P w = .ok u w' ∧ Ext G w G' w' ∧ Inv E G' m w' ∧ RepA G' w' v u ∧ K v := by
  unfold exBytes at h
  split at h
  · rename_i s
    obtain ⟨hs, hl, hK⟩ := h
    obtain ⟨e, hd, he⟩ := bytesA_of hb
    cases hx
    have run := Go.Lib.run_convert_string_bytes (P := P) w src dst e ⟨s.toArray⟩ (strA_of hs) hd he
    let N := w.heap.size
    let w' := Go.Lib.bytesWorld w e ⟨s.toArray⟩
    let G' : Gh := { G with st := fun b j => G.st b j ∨ (b = N ∧ j < s.length) }
    have hold : ∀ b, b < N → w'.heap[b]? = w.heap[b]? := fun b hb => Go.Lib.bytesWorld_at_old w e _ b hb
    have hx' : Ext G w G' w' := ⟨fun b o hs => .inl hs, fun b o hs => cell_of_heap (hold b (st_lt hi hs)) o, fun l y hy => hy, Nat.le_refl _, fun i x _ hx => hx⟩
    have hNn : G.who N = none := (hi.fresh N (Nat.le_refl _)).1
    have hsz : w'.heap.size = N + 1 := Go.Lib.bytesWorld_size w e _
    have hcap : s.length ≤ grownCap w s.length 0 e := grownCap_ge w s.length 0 e
    refine ⟨G', w', _, _, run, hx', ?_, ?_, hK⟩
    · refine hi.but (N := N) hx' ⟨rfl, rfl, rfl, by rw [hsz]; exact Nat.le_succ _, fun b hb => ?_, fun b hb => rfl, fun b hb j => ?_⟩ (.inr hi.kept.size) (fun l cs hcs => .inl ⟨hcs, by rw [hNn]; simp⟩) hi.gen
        (fun i hl => .inl ⟨hl, rfl, by rw [hNn]; simp⟩) hi.lt hi.nx (by rw [hsz]; exact Nat.lt_succ_self _)
      · rcases Nat.lt_or_ge b N with h1 | h1
        · exact hold b h1
        · rw [Array.getElem?_eq_none (by rw [hsz]; omega), Array.getElem?_eq_none (by omega)]
      · exact ⟨fun h => h.resolve_right (fun h => hb h.1), .inl⟩
    · have hR := RepA.sl (G := G') (w := w') 1 (s.map byteD) .no (some ⟨N, 0, none⟩) (grownCap w s.length 0 e)
        ⟨by rw [List.length_map]; exact hcap, grownCap_le_maxLen w _ _ _ (by simp [maxLen]; omega), fun i d hd => ?_, .inr ⟨N, 0, rfl, fun i d hd j dd hj => ?_⟩⟩ trivial
      · rw [List.length_map] at hR; exact hR
      · rw [List.getElem?_map] at hd
        cases hsi : s[i]? with
        | none => rw [hsi] at hd; cases hd
        | some b => rw [hsi] at hd; cases hd; rfl
      · rw [List.getElem?_map] at hd
        cases hsi : s[i]? with
        | none => rw [hsi] at hd; cases hd
        | some b =>
          rw [hsi] at hd; cases hd
          have hil := (List.getElem?_eq_some_iff.1 hsi).1
          cases j with
          | succ j => cases hj
          | zero =>
            cases hj
            have hc := Go.Lib.bytesWorld_cell w e ⟨s.toArray⟩ i (by show i < s.toArray.size; simpa using hil)
            refine ⟨.inr ⟨rfl, by omega⟩, _, by simpa using hc, ?_⟩
            have : (s[i]?.getD 0) = b := by simp [hsi]
            rw [this]
            exact .int _ _
  · exact h.elim

theorem toD1_rep {G : Gh} {w : World} {a : AV} {d : DV} {x : Value} (h : toD1 a = some d) (hr : RepA G w a x) (ho : oneCell x = true) : RepD G.st w d x := by
  cases hr with
  | int k n => cases h; exact .int _ _
  | bool b => cases h; exact .bool _
  | str s => cases h; exact .str _
  | raw => cases h; exact .raw _ ho
  | sl z es t A c hs _ =>
    cases h
    obtain ⟨h1, h2, h3, h4⟩ := hs
    rcases h4 with ⟨he, hc⟩ | ⟨b, o, hA, h4⟩
    · subst he hc; exact .emp z A
    · subst hA
      refine .sl z es b o c (fun i j => (w.cell? ⟨b, o + (i * z + j), none⟩).getD undef) h1 h2 h3 (fun i e he j d hd => ?_) (fun i e he j d hd => ?_)
      · obtain ⟨s1, v, s2, _⟩ := h4 i e he j d hd
        exact ⟨s1, by rw [s2]; rfl⟩
      · obtain ⟨_, v, s2, s3⟩ := h4 i e he j d hd
        rw [s2]; exact s3
  | iface t a x hv =>
    cases hv with
    | int k n => cases h; exact .raw _ rfl
    | str s => cases h; exact .raw _ rfl
    | bool b => cases h; exact .raw _ rfl
    | _ => cases h
  | _ => cases h

theorem dcells_toD1 {a : AV} {d : DV} (h : toD1 a = some d) : dcells d = [d] := by
  cases a with
  | iface t v => cases v <;> first | (cases h; rfl) | cases h
  | _ => first | (cases h; rfl) | cases h

theorem toDs_get : ∀ (cs : List AV) (ds : List DV), toDs cs = some ds → ds.length = cs.length ∧ ∀ (j : Nat) (d : DV), ds[j]? = some d → ∃ c, cs[j]? = some c ∧ toD1 c = some d
  | [], ds, h => by cases h; exact ⟨rfl, by simp⟩
  | c :: cs, ds, h => by
    simp only [toDs] at h
    split at h
    · cases h
    · rename_i d hd
      split at h
      · cases h
      · rename_i r hr
        cases h
        obtain ⟨h1, h2⟩ := toDs_get cs r hr
        refine ⟨by simp [h1], fun j d' hj => ?_⟩
        cases j with
        | zero => simp at hj; subst hj; exact ⟨c, rfl, hd⟩
        | succ j => simp at hj; exact h2 j d' hj

/-- What is added in an append: elements that lie somewhere. -/
def SrcAt (st : Nat → Nat → Prop) (w : World) (xs : List DV) (A : Option Addr) (z : Nat) : Prop :=
  (∀ (i : Nat) (e : DV), xs[i]? = some e → (dcells e).length = z) ∧
  (xs = [] ∨ ∃ b o, A = some ⟨b, o, none⟩ ∧ ∃ news : List Value, news.length = xs.length * z ∧ (∀ k v, news[k]? = some v → w.cell? ⟨b, o + k, none⟩ = some v ∧ oneCell v = true) ∧
    ∀ (i : Nat) (e : DV), xs[i]? = some e → ∀ (j : Nat) (d : DV), (dcells e)[j]? = some d → ∃ v, news[i * z + j]? = some v ∧ RepD st w d v)

theorem SlAt.src {st : Nat → Nat → Prop} {w : World} {xs : List DV} {A : Option Addr} {c z : Nat} (h : SlAt st w xs A c z) : SrcAt st w xs A z := by
  refine ⟨h.2.2.1, ?_⟩
  rcases h.2.2.2 with ⟨hx, _⟩ | ⟨b, o, rfl, _⟩
  · exact .inl hx
  · exact .inr ⟨b, o, rfl, h.flat⟩

/-- The elements of a slice, one's own array's or another's: cells an element, the elements, how many. -/
def srcA (m : AH) (x : AV) : Option (Nat × List DV × Nat) := match x with
  | .sl z xs _ => some (z, xs, xs.length)
  | .msl l off len _ => match m.cells l with
    | some cs => match toDs ((cs.drop off).take len) with
      | some ds => some (1, ds, len)
      | none => none
    | none => none
  | _ => none

theorem msl_cells {E : Env} {G : Gh} {m : AH} {w : World} (hi : Inv E G m w) {l : Loc} {off len b o : Nat} {cs : List AV} {ds : List DV} (hb : G.bx l = some (b, o)) (h0 : o ≠ mapMark) (hc : m.cells l = some cs) (hd : toDs ((cs.drop off).take len) = some ds) :
    ∀ (k : Nat) (d : DV), ds[k]? = some d → b < w.heap.size ∧ dcells d = [d] ∧ ∃ v, w.cell? ⟨b, o + off + k, none⟩ = some v ∧ oneCell v = true ∧ RepD G.st w d v := by
  intro k d hk
  obtain ⟨b', o', h1, h2, _, _, h5, _⟩ := hi.box l cs hc
  rw [hb] at h1
  cases h1
  obtain ⟨_, g2⟩ := toDs_get _ ds hd
  obtain ⟨c, hck, hcd⟩ := g2 k d hk
  have hkl : k < len := by
    have := (List.getElem?_eq_some_iff.1 hck).1
    simp at this; omega
  rw [List.getElem?_take_of_lt hkl, List.getElem?_drop] at hck
  obtain ⟨_, v, v1, v2, v3⟩ := h5 h0 _ c hck
  exact ⟨who_lt hi h2, dcells_toD1 hcd, v, by rw [Nat.add_assoc]; exact v1, v2, toD1_rep hcd v3 v2⟩

theorem srcA_ok {E : Env} {G : Gh} {m : AH} {w : World} (hi : Inv E G m w) {x : AV} {xv : Value} {z n : Nat} {xs : List DV} (h : srcA m x = some (z, xs, n)) (hn : xs.length = n) (hr : RepA G w x xv) :
    ∃ A c, xv = .slice A xs.length c ∧ SrcAt G.st w xs A z := by
  cases hr with
  | sl z es t A c hs ht =>
    cases h
    exact ⟨A, c, rfl, hs.src⟩
  | msl l off len cap b o hb h0 h1 h2 =>
    simp only [srcA] at h
    split at h
    · rename_i cs hc
      split at h
      · rename_i ds hd
        cases h
        have hm := msl_cells hi hb h0 hc hd
        obtain ⟨vs, hl, hv⟩ := cells_list (w := w) (b := b) (o := o + off) (p := fun k v => oneCell v = true ∧ ∀ d, xs[k]? = some d → RepD G.st w d v) xs.length 0 (fun k hk => by
          rw [Nat.zero_add]
          obtain ⟨_, _, v, v1, v2, v3⟩ := hm k _ (List.getElem?_eq_getElem hk)
          exact ⟨v, v1, v2, fun d hd => by rw [List.getElem?_eq_getElem hk] at hd; cases hd; exact v3⟩)
        refine ⟨_, _, by rw [hn], fun i e he => by rw [(hm i e he).2.1]; rfl, .inr ⟨b, o + off, rfl, vs, by rw [hl, Nat.mul_one], fun k v hk => ?_, fun i e he j d hd => ?_⟩⟩
        · have := hv k v hk
          rw [Nat.zero_add] at this
          exact ⟨this.1, this.2.1⟩
        · have hdc := (hm i e he).2.1
          rw [hdc] at hd
          cases j with
          | succ j => cases hd
          | zero =>
            cases hd
            have hil : i < vs.length := by rw [hl]; exact (List.getElem?_eq_some_iff.1 he).1
            have := hv i _ (List.getElem?_eq_getElem hil)
            rw [Nat.zero_add] at this
            exact ⟨_, by rw [Nat.mul_one, Nat.add_zero]; exact List.getElem?_eq_getElem hil, this.2.2 _ he⟩
      · cases h
    · cases h
  | _ => cases h

def exAppend (P : Program) (m : AH) (t t' : Nat) (s x : AV) (K : AH → AV → Prop) : Prop := match s with
  | .sl z es tok => (match srcA m x with
    | some (z', xs, n) => t' = t ∧ z' = z ∧ xs.length = n ∧ okT m tok ∧ (match apA P t with
      | some (z2, y) => z2 = z ∧ (es.length + xs.length) * y ≤ 140737488355328 ∧ K (m.app tok) (.sl z (es ++ xs) (.own m.nx))
      | none => False)
    | none => False)
  | _ => False

theorem exAppend_ok {P : Program} {E : Env} {G : Gh} {m : AH} {w : World} {t t' ty : Nat} {s x : AV} {sv xv : Value} {K : AH → AV → Prop} (h : exAppend P m t t' s x K) (hi : Inv E G m w) (hs : RepA G w s sv) (hx : RepA G w x xv) :
    ∃ G' m' w' v u, (Builtin.append_ #[t, t'] ty #[sv, xv]).run P w = .ok u w' ∧ Ext G w G' w' ∧ Inv E G' m' w' ∧ RepA G' w' v u ∧ K m' v := by
  unfold exAppend at h
  split at h
  · rename_i z es tok
    split at h
    rotate_left
    · exact h.elim
    rename_i z' xs n hsrc
    obtain ⟨rfl, rfl, hn, hok, h⟩ := h
    split at h
    · rename_i z2 y hap
      obtain ⟨rfl, hsize, hK⟩ := h
      obtain ⟨e, inf, zv, hu, hinf, hzv, hzc, hsz, hby, hy⟩ := apA_of hap
      obtain ⟨A2, c2, rfl, hxz, hxl⟩ := srcA_ok hi hsrc hn hx
      cases hs with
      | sl _ _ _ A c hsl htok =>
      have h48 : es.length + xs.length ≤ 140737488355328 := Nat.le_trans (Nat.le_mul_of_pos_right _ hy) hsize
      have hno : A = none → A = none ∧ es = [] ∧ c = 0 := by
        rintro rfl
        rcases hsl.2.2.2 with ⟨he, hc⟩ | ⟨_, _, hA, _⟩
        · exact ⟨rfl, he, hc⟩
        · cases hA
      have hAA : (A = none ∧ es = [] ∧ c = 0) ∨ ∃ b o, A = some ⟨b, o, none⟩ := by
        cases tok with
        | no => exact hok.elim
        | nil => exact .inl (hno htok)
        | own i =>
          have hx : ∃ x, G.tk i = some x := by
            rcases hi.tok i hok with ht | ⟨b', o', n', c', z', cells, tt, ht, _⟩
            · exact ⟨_, ht⟩
            · exact ⟨_, ht⟩
          obtain ⟨x, hx⟩ := hx
          rcases htok.2 x hx with ⟨hA, _⟩ | ⟨b, o, hA, _⟩
          · exact .inl (hno hA)
          · exact .inr ⟨b, o, hA⟩
      rcases hAA with ⟨hA, hes, hc0⟩ | ⟨b, o, hA⟩
      · subst hA hes hc0
        rcases hxl with hxs | ⟨b2, o2, hA2, hfl⟩
        · subst hxs
          obtain ⟨G', g1, g2, g3⟩ := hi.nilApp tok z2
          refine ⟨G', _, w, _, _, ?_, g1, g2, g3, by simpa using hK⟩
          cases A2 <;> simp [Builtin.append_, run_underlying hu, sizeOf, typeInfo, hinf, Builtin.lenOf, Builtin.firstCells, loadCells, loadCellsFrom]
        · subst hA2
          by_cases hx0 : xs = []
          · subst hx0
            obtain ⟨G', g1, g2, g3⟩ := hi.nilApp tok z2
            refine ⟨G', _, w, _, _, ?_, g1, g2, g3, by simpa using hK⟩
            simp [Builtin.append_, run_underlying hu, sizeOf, typeInfo, hinf, Builtin.lenOf, Builtin.firstCells, loadCells, loadCellsFrom]
          · have h0 : 0 < xs.length := List.length_pos_iff.2 hx0
            obtain ⟨news, hnl, hnc, hnr⟩ := hfl
            have run := run_append_nil (P := P) w t' ty e inf zv hu hinf hzv ⟨b2, o2, none⟩ xs.length c2 news (by rw [hsz]; exact hnl) (fun j v hj => by rw [add_at]; exact (hnc j v hj).1) h0 (by simp at h48; omega) (by rw [hby]; simp at hsize; omega)
            have hg := grownCap_ge w xs.length 0 e
            obtain ⟨G', g1, g2, g3⟩ := (hi.drew).newArr tok z2 xs (grownCap w xs.length 0 e) e news (Builtin.zeroCells zv.cells (grownCap w xs.length 0 e - xs.length)).toList hxz (fun i e' he j d hd => let ⟨v, hv, hr⟩ := hnr i e' he j d hd; ⟨v, hv, hr.drew⟩) hg
              (grownCap_le_maxLen w _ _ _ (by simp [maxLen]; simp at h48; omega)) (by
                have hzl : (Builtin.zeroCells zv.cells (grownCap w xs.length 0 e - xs.length)).toList.length = (grownCap w xs.length 0 e - xs.length) * z2 := by rw [Array.length_toList, size_zeroCells, hzc]
                rw [List.length_append, hnl, hzl, ← Nat.add_mul]
                exact Nat.mul_le_mul_right _ (by omega))
            refine ⟨G', _, _, _, _, run, ?_, ?_, ?_, by simpa using hK⟩
            · have e1 : (news ++ (Builtin.zeroCells zv.cells (grownCap w xs.length 0 e - xs.length)).toList).toArray = news.toArray ++ Builtin.zeroCells zv.cells (grownCap w xs.length 0 e - xs.length) := by apply Array.ext'; simp
              rw [← e1]; exact (Ext.drew G w).trans g1
            · have e1 : (news ++ (Builtin.zeroCells zv.cells (grownCap w xs.length 0 e - xs.length)).toList).toArray = news.toArray ++ Builtin.zeroCells zv.cells (grownCap w xs.length 0 e - xs.length) := by apply Array.ext'; simp
              rw [← e1]; exact g2
            · have e1 : (news ++ (Builtin.zeroCells zv.cells (grownCap w xs.length 0 e - xs.length)).toList).toArray = news.toArray ++ Builtin.zeroCells zv.cells (grownCap w xs.length 0 e - xs.length) := by apply Array.ext'; simp
              rw [← e1]; exact g3
      · subst hA
        -- a row: the mark is live
        cases tok with
        | no => exact hok.elim
        | nil => cases htok
        | own i =>
          have hlv : m.lv i := hok
          have htk : G.tk i = some (some (b, o, es.length, c, z2)) := by
            rcases hi.tok i hlv with ht | ⟨b', o', n', c', z', cells, tt, ht, _⟩
            · rcases htok.2 _ ht with ⟨hA, _⟩ | ⟨_, _, _, hA⟩
              · cases hA
              · cases hA
            · rcases htok.2 _ ht with ⟨hA, _⟩ | ⟨b3, o3, hA, hB⟩
              · cases hA
              · cases hA
                rw [ht, hB]
          by_cases hroom : es.length + xs.length ≤ c
          · -- room
            have hnews : ∃ us : List Value, us.length = xs.length * z2 ∧ (∀ v ∈ us, oneCell v = true) ∧ (Builtin.firstCells z2 xs.length (.slice A2 xs.length c2)).run P w = .ok us.toArray w ∧
                ∀ (i : Nat) (e : DV), xs[i]? = some e → ∀ (j : Nat) (d : DV), (dcells e)[j]? = some d → ∃ v, us[i * z2 + j]? = some v ∧ RepD G.st w d v := by
              rcases hxl with hxs | ⟨b2, o2, hA2, hfl⟩
              · subst hxs
                exact ⟨[], by simp, by simp, by cases A2 <;> simp [Builtin.firstCells, loadCells, loadCellsFrom], by simp⟩
              · subst hA2
                obtain ⟨news, hnl, hnc, hnr⟩ := hfl
                refine ⟨news, hnl, fun v hv => ?_, run_firstCells_some w _ _ _ _ _ news hnl (fun j v hj => by rw [add_at]; exact (hnc j v hj).1), hnr⟩
                obtain ⟨j, hj⟩ := List.getElem?_of_mem hv
                exact (hnc j v hj).2
            obtain ⟨us, hul, hu1, hurun, hurep⟩ := hnews
            obtain ⟨srun, G', g1, g2, g3⟩ := hi.roomArr (P := P) i b o c z2 es xs us hlv htk hsl hxz hul hu1 hurep hroom
            refine ⟨G', _, _, _, _, ?_, g1, g2, g3, hK⟩
            simp [Builtin.append_, run_underlying hu, sizeOf, typeInfo, hinf, hsz, Builtin.lenOf, hroom, hurun, add_at, srun]
          · -- a new row
            have hx0 : xs ≠ [] := by
              intro e; subst e
              have := hsl.1
              simp at hroom; omega
            rcases hxl with hxs | ⟨b2, o2, hA2, hfl⟩
            · exact absurd hxs hx0
            · subst hA2
              obtain ⟨news, hnl, hnc, hnr⟩ := hfl
              obtain ⟨olds, hol, hoc, hor⟩ := hsl.flat
              have hfits : Builtin.nextslicecap (es.length + xs.length) c * inf.bytes ≤ 281474976710656 := by rw [hby]; exact growslice_fits (by omega) hsize
              have run := run_append_grow (P := P) w t' ty e inf zv hu hinf hzv ⟨b, o, none⟩ es.length c olds (by rw [hsz]; exact hol) (fun j v hj => by rw [add_at]; exact (hoc j v hj).1) ⟨b2, o2, none⟩ xs.length c2 news (by rw [hsz]; exact hnl) (fun j v hj => by rw [add_at]; exact (hnc j v hj).1) (by omega) (by omega) hfits
              have hg := grownCap_ge w (es.length + xs.length) c e
              have hlen : (es ++ xs).length = es.length + xs.length := List.length_append
              obtain ⟨G', g1, g2, g3⟩ := (hi.drew).newArr (.own i) z2 (es ++ xs) (grownCap w (es.length + xs.length) c e) e (olds ++ news) (Builtin.zeroCells zv.cells (grownCap w (es.length + xs.length) c e - (es.length + xs.length))).toList
                (fun k e' he => by
                  by_cases hk : k < es.length
                  · rw [List.getElem?_append_left hk] at he; exact hsl.2.2.1 _ _ he
                  · rw [List.getElem?_append_right (by omega)] at he; exact hxz _ _ he)
                (fun k e' he j d hd => by
                  by_cases hk : k < es.length
                  · rw [List.getElem?_append_left hk] at he
                    obtain ⟨v, hv, hr⟩ := hor k e' he j d hd
                    exact ⟨v, by rw [List.getElem?_append_left (List.getElem?_eq_some_iff.1 hv).1]; exact hv, hr.drew⟩
                  · rw [List.getElem?_append_right (by omega)] at he
                    obtain ⟨v, hv, hr⟩ := hnr _ e' he j d hd
                    refine ⟨v, ?_, hr.drew⟩
                    have e1 : k * z2 = es.length * z2 + (k - es.length) * z2 := by rw [← Nat.add_mul]; congr 1; omega
                    rw [List.getElem?_append_right (by omega), hol, show k * z2 + j - es.length * z2 = (k - es.length) * z2 + j from by omega]
                    exact hv)
                (by rw [hlen]; exact hg) (grownCap_le_maxLen w _ _ _ (by simp [maxLen]; omega)) (by
                  have hzl : (Builtin.zeroCells zv.cells (grownCap w (es.length + xs.length) c e - (es.length + xs.length))).toList.length = (grownCap w (es.length + xs.length) c e - (es.length + xs.length)) * z2 := by rw [Array.length_toList, size_zeroCells, hzc]
                  rw [List.length_append, List.length_append, hol, hnl, hzl, ← Nat.add_mul, ← Nat.add_mul]
                  exact Nat.mul_le_mul_right _ (by omega))
              have e1 : ((olds ++ news) ++ (Builtin.zeroCells zv.cells (grownCap w (es.length + xs.length) c e - (es.length + xs.length))).toList).toArray = olds.toArray ++ news.toArray ++ Builtin.zeroCells zv.cells (grownCap w (es.length + xs.length) c e - (es.length + xs.length)) := by apply Array.ext'; simp
              rw [e1] at g1 g2 g3
              refine ⟨G', _, _, _, _, run, (Ext.drew G w).trans g1, g2, ?_, hK⟩
              rw [hlen] at g3; exact g3
    · exact h.elim
  · exact h.elim

end Go.AB

/- Building of aggregates and literals of slices; zero values and constants; make; the operations of one step in one function. -/
namespace Go.AB

/-- Cells that stand for values, one by one. -/
structure RepL (G : Gh) (w : World) (cs : List AV) (vs : List Value) : Prop where
  len : vs.length = cs.length
  one : ∀ v ∈ vs, oneCell v = true
  rep : ∀ (i : Nat) (c : AV) (v : Value), cs[i]? = some c → vs[i]? = some v → RepA G w c v

theorem RepL.toAgg {G : Gh} {w : World} {cs : List AV} {vs : List Value} (h : RepL G w cs vs) : RepA G w (.agg cs) (.agg vs.toArray) := .agg cs vs h.len h.one h.rep

def isCell : AV → Bool
  | .tup _ => false
  | .raw v => oneCell v
  | _ => true

theorem RepA.cells {G : Gh} {w : World} {a : AV} {x : Value} (h : RepA G w a x) (hc : isCell a = true) : RepL G w (acells a) x.cells.toList := by
  cases h with
  | agg cs vs h1 h2 h3 => exact ⟨by simpa [acells, Value.cells] using h1, by simpa [Value.cells] using h2, by simpa [acells, Value.cells] using h3⟩
  | tup => cases hc
  | raw =>
    have hv : x.cells = #[x] := by cases x <;> first | rfl | (simp [isCell, oneCell] at hc)
    rw [hv]
    refine ⟨rfl, by simpa [isCell] using hc, fun i c u h1 h2 => ?_⟩
    cases i with
    | zero => simp [acells] at h1 h2; subst h1 h2; exact .raw _
    | succ i => simp at h2
  | int k n => exact ⟨rfl, by simp [Value.cells, oneCell], fun i c u h1 h2 => by cases i <;> simp_all [acells, Value.cells]; subst h1 h2; exact .int _ _⟩
  | bool b => exact ⟨rfl, by simp [Value.cells, oneCell], fun i c u h1 h2 => by cases i <;> simp_all [acells, Value.cells]; subst h1 h2; exact .bool _⟩
  | str b => exact ⟨rfl, by simp [Value.cells, oneCell], fun i c u h1 h2 => by cases i <;> simp_all [acells, Value.cells]; subst h1 h2; exact .str _⟩
  | sl z es t A c h1 h2 => exact ⟨rfl, by simp [Value.cells, oneCell], fun i c u h3 h4 => by cases i <;> simp_all [acells, Value.cells]; subst h3 h4; exact .sl _ _ _ _ _ h1 h2⟩
  | ptr l off b o h h0 => exact ⟨rfl, by simp [Value.cells, oneCell], fun i c u h3 h4 => by cases i <;> simp_all [acells, Value.cells]; subst h3 h4; exact .ptr _ _ _ _ h h0⟩
  | ept cs b o h => exact ⟨rfl, by simp [Value.cells, oneCell], fun i c u h3 h4 => by cases i <;> simp_all [acells, Value.cells]; subst h3 h4; exact .ept _ _ _ h⟩
  | fn f cs vs h1 h2 => exact ⟨rfl, by simp [Value.cells, oneCell], fun i c u h3 h4 => by cases i <;> simp_all [acells, Value.cells]; subst h3 h4; exact .fn _ _ _ h1 h2⟩
  | iface t v x h => exact ⟨rfl, by simp [Value.cells, oneCell], fun i c u h3 h4 => by cases i <;> simp_all [acells, Value.cells]; subst h3 h4; exact .iface _ _ _ h⟩
  | msl l off len cap b o h h0 g1 g2 => exact ⟨rfl, by simp [Value.cells, oneCell], fun i c u h3 h4 => by cases i <;> simp_all [acells, Value.cells]; subst h3 h4; exact .msl _ _ _ _ _ _ h h0 g1 g2⟩
  | mref l b h => exact ⟨rfl, by simp [Value.cells, oneCell], fun i c u h3 h4 => by cases i <;> simp_all [acells, Value.cells]; subst h3 h4; exact .mref _ _ h⟩
  | bref l b h => exact ⟨rfl, by simp [Value.cells, oneCell], fun i c u h3 h4 => by cases i <;> simp_all [acells, Value.cells]; subst h3 h4; exact .bref _ _ h⟩

def splV (cs : List Value) (off : Nat) (new : List Value) : List Value := cs.take off ++ new ++ cs.drop (off + new.length)

theorem splV_get {cs new : List Value} {off j : Nat} (h : off + new.length ≤ cs.length) : (splV cs off new)[j]? = if off ≤ j ∧ j < off + new.length then new[j - off]? else cs[j]? := by
  unfold splV
  have h1 : (cs.take off).length = off := by simp; omega
  by_cases hj : j < off
  · rw [if_neg (by omega), List.append_assoc, List.getElem?_append_left (by omega), List.getElem?_take_of_lt hj]
  · by_cases hj2 : j < off + new.length
    · rw [if_pos ⟨by omega, hj2⟩, List.append_assoc, List.getElem?_append_right (by omega), h1, List.getElem?_append_left (by omega)]
    · rw [if_neg (by omega), List.getElem?_append_right (by simp; omega), List.getElem?_drop]
      congr 1
      simp; omega

theorem RepL.spl {G : Gh} {w : World} {cs new : List AV} {vs us : List Value} {off : Nat} (h : RepL G w cs vs) (k : RepL G w new us) (hf : off + new.length ≤ cs.length) : RepL G w (spl cs off new) (splV vs off us) := by
  refine ⟨?_, fun v hv => ?_, fun i c v hc hv => ?_⟩
  · have h1 := h.len; have h2 := k.len
    simp [AB.spl, splV]; omega
  · simp only [splV, List.mem_append] at hv
    rcases hv with (hv | hv) | hv
    · exact h.one v (List.mem_of_mem_take hv)
    · exact k.one v hv
    · exact h.one v (List.mem_of_mem_drop hv)
  · rw [spl_get hf] at hc
    rw [splV_get (by rw [k.len, h.len]; exact hf), k.len] at hv
    split at hc
    · rename_i hr
      rw [if_pos hr] at hv
      exact k.rep _ c v hc hv
    · rename_i hr
      rw [if_neg hr] at hv
      exact h.rep _ c v hc hv

theorem foldl_set (off : Nat) : ∀ (new : List Value) (k : Nat) (cs : Array Value), off + k + new.length ≤ cs.size →
    ((new.zipIdx k).foldl (fun (cs : Array Value) (x : Value × Nat) => cs.setIfInBounds (off + x.2) x.1) cs).toList = splV cs.toList (off + k) new
  | [], k, cs, _ => by simp [splV]
  | v :: r, k, cs, h => by
    simp only [List.length_cons] at h
    rw [List.zipIdx_cons, List.foldl_cons, foldl_set off r (k + 1) _ (by simp; omega)]
    apply List.ext_getElem?
    intro j
    rw [splV_get (by simp; omega), splV_get (by simp; omega)]
    simp only [Array.toList_setIfInBounds, List.length_cons]
    by_cases h1 : j = off + k
    · subst h1
      rw [if_neg (show ¬ (off + (k + 1) ≤ off + k ∧ off + k < off + (k + 1) + r.length) by omega), if_pos (show off + k ≤ off + k ∧ off + k < off + k + (r.length + 1) by omega)]
      have : off + k < cs.toList.length := by simp; omega
      rw [List.getElem?_set_self this]
      simp
    · have hset : (cs.toList.set (off + k) v)[j]? = cs.toList[j]? := List.getElem?_set_ne (fun e => h1 e.symm)
      by_cases h2 : off + (k + 1) ≤ j ∧ j < off + (k + 1) + r.length
      · rw [if_pos h2, if_pos (show off + k ≤ j ∧ j < off + k + (r.length + 1) by omega)]
        rw [show j - (off + k) = (j - (off + (k + 1))) + 1 from by omega, List.getElem?_cons_succ]
      · rw [if_neg h2, if_neg (show ¬ (off + k ≤ j ∧ j < off + k + (r.length + 1)) by omega), hset]

def fillA (pl : Nat → Option (Nat × Nat)) : List AV → List (Nat × AV) → Option (List AV)
  | cs, [] => some cs
  | cs, (i, v) :: r => match pl i with
    | some (off, n) => if isCell v = true ∧ (acells v).length = n ∧ off + n ≤ cs.length then fillA pl (spl cs off (acells v)) r else none
    | none => none

theorem fillA_ok {G : Gh} {w : World} {pl : Nat → Option (Nat × Nat)} : ∀ (ps : List (Nat × AV)) (cs : List AV) (cells : Array Value) (qs : List (Nat × Value)) (r : List AV), fillA pl cs ps = some r → RepL G w cs cells.toList →
    qs.length = ps.length → (∀ (i : Nat) (p : Nat × AV) (q : Nat × Value), ps[i]? = some p → qs[i]? = some q → p.1 = q.1 ∧ RepA G w p.2 q.2) →
    ∃ out, Instr.fill pl cells qs = some out ∧ RepL G w r out.toList
  | [], cs, cells, qs, r, h, hr, hl, _ => by
    cases qs with
    | nil => cases h; exact ⟨cells, rfl, hr⟩
    | cons _ _ => simp at hl
  | (i, v) :: ps, cs, cells, qs, r, h, hr, hl, hq => by
    cases qs with
    | nil => simp at hl
    | cons q qs =>
      obtain ⟨i', x⟩ := q
      obtain ⟨e1, e2⟩ := hq 0 _ _ rfl rfl
      simp only at e1 e2
      subst e1
      simp only [fillA] at h
      split at h
      · rename_i off n hpl
        split at h
        · rename_i hc
          obtain ⟨c1, c2, c3⟩ := hc
          have hx := e2.cells c1
          have hsz : x.cells.size = n := by rw [← c2, ← hx.len]; simp
          have hcs : cells.size = cs.length := by have := hr.len; simpa using this
          have hfold := foldl_set off x.cells.toList 0 cells (by simp; omega)
          rw [Nat.add_zero] at hfold
          have hstep : Instr.fill pl cells ((i, x) :: qs) = Instr.fill pl ((x.cells.zipIdx).foldl (fun (cs : Array Value) (y : Value × Nat) => cs.setIfInBounds (off + y.2) y.1) cells) qs := by
            have h2 : ¬ (x.cells.size ≠ n) := by simp [hsz]
            have h3 : ¬ (off + x.cells.size > cells.size) := by omega
            simp only [Instr.fill, hpl]
            simp [hsz]
            intro h4
            omega
          have hto : ((x.cells.zipIdx).foldl (fun (cs : Array Value) (y : Value × Nat) => cs.setIfInBounds (off + y.2) y.1) cells).toList = splV cells.toList off x.cells.toList := by
            rw [← hfold, ← Array.foldl_toList]
            congr 1
            simp
          rw [hstep]
          exact fillA_ok ps _ _ qs r h (by rw [hto]; exact hr.spl hx (by rw [c2]; exact c3)) (by simpa using hl) (fun j p q h1 h2 => hq (j + 1) p q h1 h2)
        · cases h
      · cases h

/-- Where the parts of a struct or of an array lie. -/
def plA (P : Program) (t i : Nat) : Option (Nat × Nat) := match P.underlying t with
  | some (.struct fs) => match fs[i]? with
    | some f => match P.info? f.type with
      | some x => some (f.offset, x.size)
      | none => none
    | none => none
  | some (.array _ e) => match P.info? e with
    | some x => some (i * x.size, x.size)
    | none => none
  | _ => none

/-- The types of an aggregate's cells. -/
def leafs (P : Program) : Nat → Nat → List Nat
  | 0, _ => []
  | k + 1, t => match P.underlying t with
    | some (.struct fs) => fs.toList.flatMap fun f => leafs P k f.type
    | some (.array n e) => (List.replicate n (leafs P k e)).flatten
    | _ => [t]

def leafZ (P : Program) (t : Nat) (v : Value) : AV := match v with
  | .slice none 0 0 => (match slA P t with
    | some z => .sl z [] .nil
    | none => .raw v)
  | .int k n => .int k n
  | .bool b => .bool b
  | .string s => .str s.data.toList
  | v => .raw v

theorem leafZ_rep {P : Program} {G : Gh} {w : World} (t : Nat) (v : Value) : RepA G w (leafZ P t v) v := by
  unfold leafZ
  split
  · split
    · exact .sl _ [] .nil none 0 ⟨by simp, by simp [maxLen], by simp, .inl ⟨rfl, rfl⟩⟩ rfl
    · exact .raw _
  · exact .int _ _
  · exact .bool _
  · rename_i s
    have : (⟨s.data.toList.toArray⟩ : ByteArray) = s := by cases s; simp
    have h := RepA.str (G := G) (w := w) s.data.toList
    rwa [this] at h
  · exact .raw _

def zipZ (P : Program) : List Nat → List Value → List AV
  | t :: ts, v :: vs => leafZ P t v :: zipZ P ts vs
  | _, _ => []

theorem zipZ_rep {P : Program} {G : Gh} {w : World} : ∀ (ts : List Nat) (vs : List Value), ts.length = vs.length → (∀ v ∈ vs, oneCell v = true) → RepL G w (zipZ P ts vs) vs
  | [], [], _, _ => ⟨rfl, by simp, by simp⟩
  | t :: ts, v :: vs, hl, ho => by
    have ih := zipZ_rep (P := P) (G := G) (w := w) ts vs (by simpa using hl) (fun v hv => ho v (by simp [hv]))
    refine ⟨by simp [zipZ, ih.len], ho, fun i c u hc hu => ?_⟩
    cases i with
    | zero => simp [zipZ] at hc hu; subst hc hu; exact leafZ_rep t _
    | succ i => exact ih.rep i c u (by simpa [zipZ] using hc) (by simpa using hu)
  | [], _ :: _, hl, _ => by simp at hl
  | _ :: _, [], hl, _ => by simp at hl

/-- The cells of a type's zero value. -/
def zeroA (P : Program) (t : Nat) : Option (List AV) := match P.info? t with
  | some i => match i.zero with
    | some v => if (leafs P 12 t).length = v.cells.toList.length ∧ v.cells.toList.all oneCell = true ∧ v.cells.size = i.size then some (zipZ P (leafs P 12 t) v.cells.toList) else none
    | none => none
  | none => none

theorem zeroA_of {P : Program} {t : Nat} {cs : List AV} (h : zeroA P t = some cs) : ∃ i v, P.info? t = some i ∧ i.zero = some v ∧ v.cells.size = i.size ∧ ∀ (G : Gh) (w : World), RepL G w cs v.cells.toList := by
  unfold zeroA at h
  split at h
  · rename_i i hi
    split at h
    · rename_i v hv
      split at h
      · rename_i hc
        cases h
        exact ⟨i, v, hi, hv, hc.2.2, fun G w => zipZ_rep _ _ hc.1 (List.all_eq_true.1 hc.2.1)⟩
      · cases h
    · cases h
  · cases h

def exBuild (P : Program) (t : Nat) (ps : List (Nat × AV)) (K : AV → Prop) : Prop := match zeroA P t with
  | some zs => match fillA (plA P t) zs ps with
    | some cs => K (.agg cs)
    | none => False
  | none => False

end Go.AB

/- Literals, new variables, stores, make: that the real operation does what is told of it. -/
namespace Go.AB

theorem run_listMapM {P : Program} {w : World} {α β : Type} {f : α → Sem β} {h : α → β} : ∀ (l : List α), (∀ x ∈ l, (f x).run P w = .ok (h x) w) → (l.mapM f).run P w = .ok (l.map h) w
  | [], _ => by simp
  | x :: l, hx => by
    rw [List.mapM_cons, Sem.run_bind, hx x (by simp), Result.andThen_ok, Sem.run_bind, run_listMapM l (fun y hy => hx y (by simp [hy]))]
    rfl

theorem run_arrayMapM {P : Program} {w : World} {α β : Type} {f : α → Sem β} {h : α → β} (l : Array α) (hx : ∀ x ∈ l, (f x).run P w = .ok (h x) w) : (l.mapM f).run P w = .ok (l.map h) w := by
  have h1 := run_listMapM (P := P) (w := w) (f := f) (h := h) l.toList (fun x hm => hx x (Array.mem_toList_iff.1 hm))
  rw [← Array.toList_mapM, Sem.run_map] at h1
  cases hm : (l.mapM f).run P w with
  | ok a w' =>
    rw [hm] at h1
    simp only [Result.andThen_ok, Result.ok.injEq] at h1
    obtain ⟨e, rfl⟩ := h1
    congr 1
    apply Array.ext'
    simp [e]
  | halt x w' => rw [hm] at h1; cases h1

/-- All fields' types are known. -/
def fsOk (P : Program) (t : Nat) : Bool := match P.underlying t with
  | some (.struct fs) => fs.toList.all fun f => (P.info? f.type).isSome
  | some (.array _ e) => (P.info? e).isSome
  | _ => false

theorem exBuild_ok {P : Program} {G : Gh} {w : World} {t : Nat} {ps : List (Nat × AV)} {qs : Array (Nat × Value)} {K : AV → Prop} (hok : fsOk P t = true) (h : exBuild P t ps K) (hl : qs.toList.length = ps.length)
    (hq : ∀ (i : Nat) (p : Nat × AV) (q : Nat × Value), ps[i]? = some p → qs.toList[i]? = some q → p.1 = q.1 ∧ RepA G w p.2 q.2) :
    ∃ v u, (Instr.build t qs).run P w = .ok u w ∧ RepA G w v u ∧ K v := by
  unfold exBuild at h
  split at h
  · rename_i zs hz
    split at h
    · rename_i cs hf
      obtain ⟨i, zv, hi, hzv, hzs, hrep⟩ := zeroA_of hz
      obtain ⟨out, ho, hr⟩ := fillA_ok (G := G) (w := w) ps zs zv.cells qs.toList cs hf (hrep G w) hl hq
      have hzr : (zeroValue t).run P w = .ok zv w := by simp [zeroValue, typeInfo, hi, hzv]
      refine ⟨_, .agg out.toList.toArray, ?_, hr.toAgg, h⟩
      unfold fsOk at hok
      split at hok
      · rename_i fs hu
        have hpl : (fun j => (fs.map fun f => (f.offset, ((P.info? f.type).map (·.size)).getD 0))[j]?) = plA P t := by
          funext j
          simp only [plA, hu, Array.getElem?_map]
          cases hj : fs[j]? with
          | none => rfl
          | some f =>
            have hm : f ∈ fs.toList := by
              have := Array.mem_of_getElem? hj
              exact Array.mem_toList_iff.2 this
            have := List.all_eq_true.1 hok f hm
            obtain ⟨x, hx⟩ := Option.isSome_iff_exists.1 this
            simp [hx]
        have hmap : (fs.mapM fun f => (do pure (f.offset, ← sizeOf f.type) : Sem (Nat × Nat))).run P w = .ok (fs.map fun f => (f.offset, ((P.info? f.type).map (·.size)).getD 0)) w := by
          refine run_arrayMapM fs (fun f hm => ?_)
          have := List.all_eq_true.1 hok f (Array.mem_toList_iff.2 hm)
          obtain ⟨x, hx⟩ := Option.isSome_iff_exists.1 this
          simp [sizeOf, typeInfo, hx]
        simp only [Instr.build, Sem.run_bind, hzr, Result.andThen_ok, run_underlying hu, hmap]
        rw [show (fun x : Nat => (fs.map fun f => (f.offset, ((P.info? f.type).map (·.size)).getD 0))[x]?) = plA P t from hpl, ho]
        simp
      · rename_i n e hu
        obtain ⟨x, hx⟩ := Option.isSome_iff_exists.1 hok
        have hpl : (fun j => some (j * x.size, x.size)) = plA P t := by funext j; simp [plA, hu, hx]
        simp only [Instr.build, Sem.run_bind, hzr, Result.andThen_ok, run_underlying hu]
        simp only [sizeOf, typeInfo, Sem.run_bind, run_program, Result.andThen_ok, hx, Sem.run_pure]
        rw [hpl, ho]
        simp
      · cases hok
    · exact h.elim
  · exact h.elim

theorem toDV_rep {G : Gh} {w : World} {a : AV} {d : DV} {x : Value} (h : toDV a = some d) (hc : isCell a = true) (hr : RepA G w a x) :
    x.cells.size = (dcells d).length ∧ (∀ v ∈ x.cells.toList, oneCell v = true) ∧ ∀ (j : Nat) (e : DV), (dcells d)[j]? = some e → ∃ y, x.cells.toList[j]? = some y ∧ RepD G.st w e y := by
  have hL := hr.cells hc
  have hone := hL.one
  have main : ∀ (cs : List AV) (ds : List DV), acells a = cs → dcells d = ds → ds.length = cs.length → (∀ (j : Nat) (e : DV), ds[j]? = some e → ∃ c, cs[j]? = some c ∧ toD1 c = some e) →
      x.cells.size = (dcells d).length ∧ (∀ v ∈ x.cells.toList, oneCell v = true) ∧ ∀ (j : Nat) (e : DV), (dcells d)[j]? = some e → ∃ y, x.cells.toList[j]? = some y ∧ RepD G.st w e y := by
    intro cs ds hcs hds hl hg
    have hlen := hL.len
    rw [hcs] at hlen
    refine ⟨by rw [hds, hl, ← hlen]; simp, hone, fun j e he => ?_⟩
    rw [hds] at he
    obtain ⟨c, hc1, hc2⟩ := hg j e he
    have hjl : j < x.cells.toList.length := by rw [hlen]; exact (List.getElem?_eq_some_iff.1 hc1).1
    have hy := List.getElem?_eq_getElem hjl
    refine ⟨_, hy, toD1_rep hc2 (hL.rep j c _ (by rw [hcs]; exact hc1) hy) (hone _ (List.getElem_mem hjl))⟩
  cases a with
  | agg cs =>
    simp only [toDV] at h
    split at h
    · cases h
    · rename_i ds hds
      cases h
      obtain ⟨h1, h2⟩ := toDs_get cs ds hds
      exact main cs ds rfl rfl h1 h2
  | int k n => exact main _ _ rfl (dcells_toD1 (a := .int k n) h) rfl (fun j e he => by cases j with | zero => simp at he; subst he; exact ⟨_, rfl, h⟩ | succ j => simp at he)
  | bool n => exact main _ _ rfl (dcells_toD1 (a := .bool n) h) rfl (fun j e he => by cases j with | zero => simp at he; subst he; exact ⟨_, rfl, h⟩ | succ j => simp at he)
  | str n => exact main _ _ rfl (dcells_toD1 (a := .str n) h) rfl (fun j e he => by cases j with | zero => simp at he; subst he; exact ⟨_, rfl, h⟩ | succ j => simp at he)
  | raw n => exact main _ _ rfl (dcells_toD1 (a := .raw n) h) rfl (fun j e he => by cases j with | zero => simp at he; subst he; exact ⟨_, rfl, h⟩ | succ j => simp at he)
  | sl z es t => exact main _ _ rfl (dcells_toD1 (a := .sl z es t) h) rfl (fun j e he => by cases j with | zero => simp at he; subst he; exact ⟨_, rfl, h⟩ | succ j => simp at he)
  | iface t v => exact main _ _ rfl (dcells_toD1 (a := .iface t v) h) rfl (fun j e he => by cases j with | zero => simp at he; subst he; exact ⟨_, rfl, h⟩ | succ j => simp at he)
  | _ => cases h

/-- Parts in their order, each of z cells. -/
theorem fill_seq (z : Nat) : ∀ (qs : List (Nat × Value)) (k : Nat) (cells : Array Value), (∀ (i : Nat) (q : Nat × Value), qs[i]? = some q → q.1 = k + i ∧ q.2.cells.size = z) → (k + qs.length) * z ≤ cells.size →
    ∃ out, Instr.fill (fun i => some (i * z, z)) cells qs = some out ∧ out.toList = cells.toList.take (k * z) ++ (qs.map fun q => q.2.cells.toList).flatten ++ cells.toList.drop ((k + qs.length) * z)
  | [], k, cells, _, _ => ⟨cells, rfl, by simp⟩
  | (i, x) :: qs, k, cells, h, hf => by
    obtain ⟨h1, h2⟩ := h 0 _ rfl
    simp only [Nat.add_zero] at h1 h2
    subst h1
    simp only [List.length_cons] at hf
    have hle : i * z + z ≤ cells.size := by
      have : (i + 1) * z ≤ (i + (qs.length + 1)) * z := Nat.mul_le_mul_right _ (by omega)
      rw [Nat.add_mul] at this; omega
    have hto : ((x.cells.zipIdx).foldl (fun (cs : Array Value) (y : Value × Nat) => cs.setIfInBounds (i * z + y.2) y.1) cells).toList = splV cells.toList (i * z) x.cells.toList := by
      have hfold := foldl_set (i * z) x.cells.toList 0 cells (by simp; omega)
      rw [Nat.add_zero] at hfold
      rw [← hfold, ← Array.foldl_toList]
      congr 1
      simp
    have hsz : ((x.cells.zipIdx).foldl (fun (cs : Array Value) (y : Value × Nat) => cs.setIfInBounds (i * z + y.2) y.1) cells).size = cells.size := by
      have := congrArg List.length hto
      rw [Array.length_toList] at this
      refine this.trans ?_
      simp [splV]
      omega
    obtain ⟨out, ho, hout⟩ := fill_seq z qs (i + 1) _ (fun j q hj => by
      obtain ⟨a, b⟩ := h (j + 1) q (by simpa using hj)
      exact ⟨by omega, b⟩) (by rw [hsz, show i + 1 + qs.length = i + (qs.length + 1) from by omega]; exact hf)
    refine ⟨out, ?_, ?_⟩
    · rw [← ho]
      simp only [Instr.fill]
      simp [h2]
      intro h4
      omega
    · rw [hout, hto]
      have hxl : x.cells.toList.length = z := by simp [h2]
      have hcl : cells.toList.length = cells.size := by simp
      have e1 : (splV cells.toList (i * z) x.cells.toList).take ((i + 1) * z) = cells.toList.take (i * z) ++ x.cells.toList := by
        unfold splV
        have hl : (cells.toList.take (i * z) ++ x.cells.toList).length = (i + 1) * z := by simp [h2, Nat.add_mul]; omega
        rw [← hl, List.take_left]
      have e2 : (splV cells.toList (i * z) x.cells.toList).drop ((i + 1 + qs.length) * z) = cells.toList.drop ((i + (qs.length + 1)) * z) := by
        unfold splV
        have hl : (cells.toList.take (i * z) ++ x.cells.toList).length = i * z + z := by simp [h2]; omega
        have hge : i * z + z ≤ (i + 1 + qs.length) * z := by
          have : (i + 1) * z ≤ (i + 1 + qs.length) * z := Nat.mul_le_mul_right _ (by omega)
          rw [Nat.add_mul] at this; omega
        rw [List.drop_append, List.drop_eq_nil_of_le (by omega), List.nil_append, List.drop_drop, hl, hxl]
        congr 1
        rw [show i + 1 + qs.length = i + (qs.length + 1) from by omega] at hge ⊢
        omega
      rw [e1, e2]
      simp

theorem flatten_get {z : Nat} : ∀ (ls : List (List Value)), (∀ l ∈ ls, l.length = z) → ∀ (i j : Nat) (l : List Value), ls[i]? = some l → j < z → ls.flatten[i * z + j]? = l[j]?
  | [], _, i, j, l, h, _ => by simp at h
  | l0 :: ls, hl, 0, j, l, h, hj => by
    simp at h; subst h
    have := hl l0 (by simp)
    rw [List.flatten_cons, Nat.zero_mul, Nat.zero_add, List.getElem?_append_left (by omega)]
  | l0 :: ls, hl, i + 1, j, l, h, hj => by
    have h0 := hl l0 (by simp)
    rw [List.flatten_cons, List.getElem?_append_right (by rw [h0, Nat.add_mul]; omega), h0, show (i + 1) * z + j - z = i * z + j from by rw [Nat.add_mul]; omega]
    exact flatten_get ls (fun l hm => hl l (by simp [hm])) i j l (by simpa using h) hj

theorem flatten_len {z : Nat} : ∀ (ls : List (List Value)), (∀ l ∈ ls, l.length = z) → ls.flatten.length = ls.length * z
  | [], _ => by simp
  | l0 :: ls, hl => by
    have h0 := hl l0 (by simp)
    rw [List.flatten_cons, List.length_append, h0, flatten_len ls (fun l hm => hl l (by simp [hm])), List.length_cons, Nat.add_mul]
    omega

def toDVs : List AV → Option (List DV)
  | [] => some []
  | v :: r => match toDV v with
    | none => none
    | some d => match toDVs r with
      | none => none
      | some ds => some (d :: ds)

theorem toDVs_get : ∀ (cs : List AV) (ds : List DV), toDVs cs = some ds → ds.length = cs.length ∧ ∀ (j : Nat) (d : DV), ds[j]? = some d → ∃ c, cs[j]? = some c ∧ toDV c = some d
  | [], ds, h => by cases h; exact ⟨rfl, by simp⟩
  | c :: cs, ds, h => by
    simp only [toDVs] at h
    split at h
    · cases h
    · rename_i d hd
      split at h
      · cases h
      · rename_i r hr
        cases h
        obtain ⟨h1, h2⟩ := toDVs_get cs r hr
        refine ⟨by simp [h1], fun j d' hj => ?_⟩
        cases j with
        | zero => simp at hj; subst hj; exact ⟨c, rfl, hd⟩
        | succ j => simp at hj; exact h2 j d' hj

/-- A literal of a slice: its elements, all told, in their order. -/
def exLit (P : Program) (m : AH) (t len : Nat) (ps : List (Nat × AV)) (K : AH → AV → Prop) : Prop := match apA P t with
  | some (z, _) => match toDVs (ps.map (·.2)) with
    | some ds => (ps.map (·.1) == List.range len) = true ∧ (ps.all fun p => isCell p.2) = true ∧ (ds.all fun d => (dcells d).length == z) = true ∧ len * z ≤ 16777216 ∧ len ≤ 16777216 ∧ K (m.app .no) (.sl z ds (.own m.nx))
    | none => False
  | none => False

theorem exLit_ok {P : Program} {E : Env} {G : Gh} {m : AH} {w : World} {t len : Nat} {ps : List (Nat × AV)} {qs : Array (Nat × Value)} {K : AH → AV → Prop} (h : exLit P m t len ps K) (hi : Inv E G m w) (hl : qs.toList.length = ps.length)
    (hq : ∀ (i : Nat) (p : Nat × AV) (q : Nat × Value), ps[i]? = some p → qs.toList[i]? = some q → p.1 = q.1 ∧ RepA G w p.2 q.2) :
    ∃ G' m' w' v u, (Instr.buildSlice t len qs).run P w = .ok u w' ∧ Ext G w G' w' ∧ Inv E G' m' w' ∧ RepA G' w' v u ∧ K m' v := by
  unfold exLit at h
  split at h
  · rename_i z y hap
    split at h
    · rename_i ds hds
      obtain ⟨h1, h2, h3, h4, h5, hK⟩ := h
      obtain ⟨e, inf, zv, hu, hinf, hzv, hzc, hsz, hby, hy⟩ := apA_of hap
      obtain ⟨dl, dg⟩ := toDVs_get _ _ hds
      have h1' : ps.map (·.1) = List.range len := by simpa using h1
      have hlen : ps.length = len := by have := congrArg List.length h1'; simpa using this
      have hdz : ∀ (i : Nat) (d : DV), ds[i]? = some d → (dcells d).length = z := fun i d hd => by
        have := List.all_eq_true.1 h3 d (List.mem_of_getElem? hd)
        simpa using this
      have each : ∀ (i : Nat) (q : Nat × Value), qs.toList[i]? = some q → q.1 = 0 + i ∧ q.2.cells.size = z ∧ (∀ v ∈ q.2.cells.toList, oneCell v = true) ∧ ∃ d, ds[i]? = some d ∧ ∀ (j : Nat) (e : DV), (dcells d)[j]? = some e → ∃ y, q.2.cells.toList[j]? = some y ∧ RepD G.st w e y := by
        intro i q hqi
        have hil : i < ps.length := by rw [← hl]; exact (List.getElem?_eq_some_iff.1 hqi).1
        have hp := List.getElem?_eq_getElem hil
        obtain ⟨e1, e2⟩ := hq i _ q hp hqi
        have hd' : i < ds.length := by rw [dl]; simpa using hil
        have hd := List.getElem?_eq_getElem hd'
        obtain ⟨c, hc1, hc2⟩ := dg i _ hd
        rw [List.getElem?_map, hp] at hc1
        cases hc1
        have hcell : isCell ps[i].2 = true := List.all_eq_true.1 h2 _ (List.getElem_mem hil)
        obtain ⟨r1, r2, r3⟩ := toDV_rep hc2 hcell e2
        refine ⟨?_, by rw [r1]; exact hdz i _ hd, r2, _, hd, r3⟩
        rw [← e1]
        have : (ps.map (·.1))[i]? = some ps[i].1 := by rw [List.getElem?_map, hp]; rfl
        rw [h1', List.getElem?_range (by omega)] at this
        have := Option.some.inj this
        omega
      have hql : qs.toList.length = len := by rw [hl, hlen]
      let cells0 : Array Value := (Array.range (len * z)).map fun i => (if len * z = 0 then (#[] : Array Value) else zv.cells)[i % (if len * z = 0 then (#[] : Array Value) else zv.cells).size]!
      have hc0 : cells0.size = len * z := by simp [cells0]
      obtain ⟨out, ho, hout⟩ := fill_seq z qs.toList 0 cells0 (fun i q hqi => ⟨(each i q hqi).1, (each i q hqi).2.1⟩) (by rw [hc0, hql, Nat.zero_add]; exact Nat.le_refl _)
      rw [Nat.zero_mul, Nat.zero_add, hql, List.take_zero, List.nil_append, List.drop_eq_nil_of_le (by simp [hc0]), List.append_nil] at hout
      let us := (qs.toList.map fun q => q.2.cells.toList).flatten
      have husl : ∀ l ∈ qs.toList.map (fun q => q.2.cells.toList), l.length = z := by
        intro l hm
        obtain ⟨q, hqm, rfl⟩ := List.mem_map.1 hm
        obtain ⟨i, hqi⟩ := List.getElem?_of_mem hqm
        have := (each i q hqi).2.1
        simpa using this
      have hdsl : ds.length = len := by rw [dl]; simpa using hlen
      have hul : us.length = len * z := by
        have := flatten_len _ husl
        rw [List.length_map, hql] at this
        exact this
      obtain ⟨G', g1, g2, g3⟩ := hi.newArr .no z ds len e us [] hdz (fun i d hd j c hc => by
        have hiq : i < qs.toList.length := by rw [hql, ← hdsl]; exact (List.getElem?_eq_some_iff.1 hd).1
        have hqi := List.getElem?_eq_getElem hiq
        obtain ⟨_, _, _, d', hd', hr⟩ := each i _ hqi
        rw [hd] at hd'
        cases hd'
        obtain ⟨y, hy1, hy2⟩ := hr j c hc
        have hj : j < z := by rw [← hdz i d hd]; exact (List.getElem?_eq_some_iff.1 hc).1
        exact ⟨y, by rw [flatten_get _ husl i j _ (by rw [List.getElem?_map, hqi]; rfl) hj]; exact hy1, hy2⟩) (by omega) (by simp [maxLen]; omega) (by simp [hul])
      have hdsl' : ds.length = len := hdsl
      rw [List.append_nil] at g1 g2 g3
      refine ⟨G', _, _, _, .slice (some ⟨w.heap.size, 0, none⟩) len len, ?_, g1, g2, ?_, hK⟩
      · have hus : us.toArray = out := by apply Array.ext'; rw [hout]
        have hgt : ¬ (len * z > 2 ^ 24) := by omega
        have hzr : (zeroValue e).run P w = .ok zv w := by simp [zeroValue, typeInfo, hinf, hzv]
        rw [hus]
        simp only [Instr.buildSlice, Sem.run_bind, run_underlying hu, Result.andThen_ok, sizeOf, typeInfo, run_program, hinf, Sem.run_pure, hsz, if_neg hgt]
        by_cases h0 : len * z = 0
        · have hc : cells0 = (Array.range (len * z)).map fun x => (#[] : Array Value)[x % (#[] : Array Value).size]! := by simp only [cells0, if_pos h0]
          simp only [if_pos h0, Sem.run_bind, Sem.run_pure, Result.andThen_ok]
          rw [hc] at ho
          rw [ho]
          simp [newRow]
        · have hc : cells0 = (Array.range (len * z)).map fun x => zv.cells[x % zv.cells.size]! := by simp only [cells0, if_neg h0]
          simp only [if_neg h0, Sem.run_bind, Sem.run_pure, hzr, Result.andThen_ok]
          rw [hc] at ho
          rw [ho]
          simp [newRow]
      · rw [hdsl'] at g3; exact g3
    · exact h.elim
  · exact h.elim

end Go.AB

/- One operation on an abstract state; that the real one does the same. -/
namespace Go.AB

/-- A constant, read at a type. -/
def constA (P : Program) (ty : Nat) (v : Value) : AV := match v with
  | .agg cs => if (leafs P 12 ty).length = cs.toList.length ∧ cs.toList.all oneCell = true then .agg (zipZ P (leafs P 12 ty) cs.toList) else .raw v
  | v => leafZ P ty v

theorem constA_rep {P : Program} {G : Gh} {w : World} (ty : Nat) (v : Value) : RepA G w (constA P ty v) v := by
  unfold constA
  split
  · split
    · rename_i cs h
      exact (zipZ_rep (P := P) (G := G) (w := w) _ _ h.1 (List.all_eq_true.1 h.2)).toAgg
    · exact .raw _
  · exact leafZ_rep ty v

def AS.ev (P : Program) (σ : AS) (ty : Nat) : Operand → AV
  | .tmp t => nth σ.s t
  | .const v => constA P ty v
  | .global g => .raw (.pointer (some ⟨g, 0, none⟩))
  | .func f => .fn f []

theorem ev_rep {P : Program} {G : Gh} {w : World} {σ : AS} {a : Act} (hr : ∀ t, RepA G w (nth σ.s t) (a.tmps.getD t undef)) (ty : Nat) (x : Operand) : RepA G w (σ.ev P ty x) (a.eval x) := by
  cases x with
  | tmp t => exact hr t
  | const v => exact constA_rep ty v
  | global g => exact .raw _
  | func f => exact .fn f [] [] rfl (by simp)

/-- The type of a part. -/
def partTy (P : Program) (t i : Nat) : Nat := match P.underlying t with
  | some (.struct fs) => match fs[i]? with
    | some f => f.type
    | none => 0
  | some (.array _ e) => e
  | some (.slice e) => e
  | _ => 0

def exStore (P : Program) (m : AH) (t : Nat) (a x : AV) (K : AH → Prop) : Prop := match a with
  | .ptr l off => match m.cells l, tyA P t with
    | some cs, some (_, n) => isCell x = true ∧ (acells x).length = n ∧ off + n ≤ cs.length ∧ K (m.setCells l (spl cs off (acells x)))
    | _, _ => False
  | _ => False

/-- Which way a test goes. -/
def gate2 (b : Bool) (x y : Prop) : Prop := (b = true → x) ∧ (b = false → y)
def gate (b : Bool) (x y : Prop) : Prop := (b = true → x) ∧ (b = false → y)
def gateW (want b : Bool) (x y : Prop) : Prop := match want with
  | true => gate b x y
  | false => gate b y x
@[go_sem ↓] theorem gate2_true {x y : Prop} : gate2 true x y = x := by simp [gate2]
@[go_sem ↓] theorem gate2_false {x y : Prop} : gate2 false x y = y := by simp [gate2]
@[go_sem] theorem gate2_any {b : Bool} {x y : Prop} : gate2 b x y = ((b = true → x) ∧ (b = false → y)) := (rfl)
@[go_sem ↓] theorem gate_any {b : Bool} {x y : Prop} : gate b x y = gate2 b x y := (rfl)
@[go_sem ↓] theorem gateW_true {b : Bool} {x y : Prop} : gateW true b x y = gate b x y := (rfl)
@[go_sem ↓] theorem gateW_false {b : Bool} {x y : Prop} : gateW false b x y = gate b y x := (rfl)
@[congr] theorem gate2_congr {b b' : Bool} {x y : Prop} (h : b = b') : gate2 b x y = gate2 b' x y := by rw [h]
@[congr] theorem gate_congr {b b' : Bool} {x y : Prop} (h : b = b') : gate b x y = gate b' x y := by rw [h]
@[congr] theorem gateW_congr {want b b' : Bool} {x y : Prop} (h : b = b') : gateW want b x y = gateW want b' x y := by rw [h]
theorem gateW_iff {want b : Bool} {x y : Prop} : gateW want b x y ↔ (b = want → x) ∧ (b = !want → y) := by
  cases want with
  | true => simp [gateW, gate]
  | false => simp only [gateW, gate, Bool.not_false]; exact And.comm

def exPick (c a b : AV) (K : AV → Prop) : Prop := match c with
  | .bool t => (match a, b with
    | .bool x, .bool y => K (.bool (if t then x else y))
    | a, b => gate t (K a) (K b))
  | _ => False

def nilOk : AV → Bool
  | .ptr _ _ => true
  | .ept _ => true
  | .fn _ _ => true
  | .iface _ _ => true
  | _ => false

def concA (P : Program) (t : Nat) : Bool := match P.underlying t with
  | some (.interface _) | none => false
  | _ => true

/-- A new array: its length, and the cells of one element. -/
def madeA (zs : List AV) (n : Nat) : List AV := (List.replicate n zs).flatten

/-- What a make of a slice's type needs: the cells of an element that is zero, and its bytes. -/
def mkA (P : Program) (t : Nat) : Option (List AV × Nat) := match P.underlying t with
  | some (.slice e) => match zeroA P e, P.info? e with
    | some zs, some i => some (zs, i.bytes)
    | _, _ => none
  | _ => none

def exMake (P : Program) (m : AH) (d : Option Nat) (t : Nat) (l c : AV) (K : AH → AV → Prop) : Prop := match d, l, c with
  | some d, .int _ n, .int _ c => (match mkA P t with
    | some (zs, y) => 0 ≤ n ∧ n = c ∧ (y : Int) * n ≤ 281474976710656 ∧ n ≤ 9223372036854775807 ∧ K (m.newBox d (madeA zs n.toNat)) (.msl (.own d (gnext m d)) 0 n.toNat n.toNat)
    | none => False)
  | _, _, _ => False

/-- A value behind an interface. -/
def rawA : Value → AV
  | .int k n => .int k n
  | .bool b => .bool b
  | .string s => .str s.data.toList
  | v => .raw v

theorem rawA_rep {G : Gh} {w : World} (v : Value) : RepA G w (rawA v) v := by
  cases v with
  | int k n => exact .int k n
  | bool b => exact .bool b
  | string s => exact .str s.data.toList
  | _ => exact .raw _

/-- A look at an interface's dynamic type; the type asked for is none of interfaces. -/
def asK (P : Program) (want : Nat) (ok : Bool) (t : Nat) (v : AV) (K : AV → Prop) : Prop :=
  if t = want then K (if ok then .tup [v, .bool true] else v) else if ok then ((zeroA P want).isSome = true ∧ ∀ z, K (.tup [.raw z, .bool false])) else False
def exAssert (P : Program) (want : Nat) (ok : Bool) (x : AV) (K : AV → Prop) : Prop := concA P want = true ∧ (match x with
  | .iface t v => asK P want ok t v K
  | .raw (.iface t v) => asK P want ok t (rawA v) K
  | _ => False)

def exExtract (a : AV) (i : Nat) (K : AV → Prop) : Prop := match a with
  | .tup vs => match vs[i]? with
    | some v => K v
    | none => False
  | _ => False

def unC : AV → AV
  | .sl z es _ => .sl z es .no
  | v => v

/-- A value as it is handed on to a function: nobody owns anything of it. -/
def strip1 : AV → Option AV
  | .int k n => some (.int k n)
  | .bool b => some (.bool b)
  | .str s => some (.str s)
  | .raw v => some (.raw v)
  | .sl z es _ => some (.sl z es .no)
  | .ept cs => some (.ept cs)
  | .agg cs => match toDs cs with
    | some _ => some (.agg (cs.map unC))
    | none => none
  | .iface t (.int k n) => some (.iface t (.int k n))
  | .iface t (.str s) => some (.iface t (.str s))
  | .iface t (.bool s) => some (.iface t (.bool s))
  | _ => none

def strip1L : List AV → Option (List AV)
  | [] => some []
  | a :: r => match strip1 a with
    | some b => match strip1L r with
      | some bs => some (b :: bs)
      | none => none
    | none => none

def strip : AV → Option AV
  | .fn f cs => match strip1L cs with
    | some ds => some (.fn f ds)
    | none => none
  | a => strip1 a

/-- The function that a value is. -/
def fnOf : AV → Option (Nat × List AV)
  | .fn f cs => some (f, cs)
  | .raw (.func (.func f) a b) => match a.toList, b.toList with
    | [], [] => some (f, [])
    | _, _ => none
  | _ => none

/-- The elements of a slice of one's own array, as they are. -/
def mslD (m : AH) (l : Loc) (off len : Nat) : Option DV := match m.cells l with
  | some cs => match toDs ((cs.drop off).take len) with
    | some ds => if ds.length = len then some (.sl 1 ds) else none
    | none => none
  | none => none

/-- A cell's content as a datum, functions among them. -/
def toDF (m : AH) : AV → Option DV
  | .fn f [] => some (.raw (.func (.func f) #[] #[]))
  | .msl l off len _ => mslD m l off len
  | a => toD1 a
def toDFs (m : AH) : List AV → Option (List DV)
  | [] => some []
  | v :: r => match toDF m v with
    | none => none
    | some d => match toDFs m r with
      | none => none
      | some ds => some (d :: ds)

/-- A value lent for a call that only reads: what one's own variables hold stays as it is. -/
def lend1 (m : AH) (a : AV) : Option AV := match a with
  | .ptr l off => match m.cells l with
    | some cs => match toDFs m (cs.drop off) with
      | some ds => some (.ept ds)
      | none => none
    | none => none
  | .msl l off len _ => match mslD m l off len with
    | some d => some (toAV d)
    | none => none
  | a => strip1 a
def lend1L (m : AH) : List AV → Option (List AV)
  | [] => some []
  | a :: r => match lend1 m a with
    | some b => match lend1L m r with
      | some bs => some (b :: bs)
      | none => none
    | none => none
def lend (m : AH) (a : AV) : Option AV := match a with
  | .fn f cs => match lend1L m cs with
    | some ds => some (.fn f ds)
    | none => none
  | a => lend1 m a
def lendL (m : AH) : List AV → Option (List AV)
  | [] => some []
  | a :: r => match lend m a with
    | some b => match lendL m r with
      | some bs => some (b :: bs)
      | none => none
    | none => none

def need1 : AV → Bool
  | .ptr _ _ => true
  | .msl _ _ _ _ => true
  | .mref _ => true
  | .bref _ => true
  | _ => false
def need : AV → Bool
  | .fn _ cs => cs.any need1
  | a => need1 a

/-- A value that has nothing to do with the memory. -/
def plain1 : AV → Bool
  | .int _ _ => true
  | .bool _ => true
  | .str _ => true
  | .raw _ => true
  | _ => false
def plainA : AV → Bool
  | .agg cs => cs.all plain1
  | a => plain1 a
def plain : AV → Bool
  | .tup cs => cs.all plainA
  | a => plainA a

def stripL : List AV → Option (List AV)
  | [] => some []
  | a :: r => match strip a with
    | some b => match stripL r with
      | some bs => some (b :: bs)
      | none => none
    | none => none

/-- Marks of a called function's, behind one's own. -/
def shT (n : Nat) : Tok → Tok
  | .own i => .own (n + i)
  | t => t
def shC (n : Nat) : AV → AV
  | .sl z es t => .sl z es (shT n t)
  | v => v
def shA (n : Nat) : AV → AV
  | .agg cs => .agg (cs.map (shC n))
  | v => shC n v
def shV (n : Nat) : AV → AV
  | .tup vs => .tup (vs.map (shA n))
  | v => shA n v

/-- What may be handed back: nothing that points into the function's own variables. -/
def port1 : AV → Bool
  | .int _ _ => true
  | .bool _ => true
  | .str _ => true
  | .raw _ => true
  | .sl _ _ _ => true
  | .ept _ => true
  | .iface _ (.int _ _) => true
  | .iface _ (.str _) => true
  | .iface _ (.bool _) => true
  | _ => false
def isEpt : AV → Bool
  | .ept _ => true
  | _ => false
def portA : AV → Bool
  | .agg cs => cs.all port1
  | .fn _ cs => cs.all isEpt
  | v => port1 v
def port : AV → Bool
  | .tup vs => vs.all portA
  | v => portA v

def emptyH : AH := ⟨[], [], 0, fun _ => False⟩
def gh0 (st : Nat → Nat → Prop) : Gh := ⟨st, fun _ => none, fun _ => none, 0, fun _ => none⟩

def RepArgs (G : Gh) (w : World) (as : List AV) (vs : List Value) : Prop := vs.length = as.length ∧ ∀ (i : Nat) (a : AV) (v : Value), as[i]? = some a → vs[i]? = some v → RepA G w a v

/-- The tables of the library that are known lie there. -/
def LaidP (P : Program) (w : World) : Prop := ∀ g, P.globalNamed "internal/strconv.uint64pow10" = some g → Lib.TabIs P w "internal/strconv.uint64pow10" .u64 Lib.pow10Tab
/-- The program's variables are of their shapes, where it names what the library's contracts ask for (the search's greatest length, the errors of numbers). -/
def LaidM (P : Program) (w : World) : Prop := (P.globalNamed "internal/bytealg.MaxLen" ≠ none ∨ P.globalNamed "strconv.ErrSyntax" ≠ none) → w.ShapedOpen P
/-- The library's errors of numbers lie in their variables. -/
def LaidV (P : Program) (w : World) : Prop := ∀ g, (P.globalNamed "strconv.ErrSyntax" = some g ∨ P.globalNamed "strconv.ErrRange" = some g) → ∃ t p, w.cell? ⟨g, 0, none⟩ = some (.iface t p)
def Laid (P : Program) (w : World) : Prop := LaidP P w ∧ LaidM P w ∧ LaidV P w

def TabsOk (P : Program) (E : Env) : Prop := ∀ w, Kept E w → Laid P w

theorem LaidM.none {P : Program} {w : World} (h : P.globalNamed "internal/bytealg.MaxLen" = none) (h2 : P.globalNamed "strconv.ErrSyntax" = none) : LaidM P w := fun hc => by
  rcases hc with hc | hc
  · exact absurd h hc
  · exact absurd h2 hc
theorem LaidV.none {P : Program} {w : World} (h : P.globalNamed "strconv.ErrSyntax" = none) (h2 : P.globalNamed "strconv.ErrRange" = none) : LaidV P w := fun g hg => by
  rcases hg with hg | hg
  · rw [h] at hg; cases hg
  · rw [h2] at hg; cases hg
theorem Laid.none {P : Program} {w : World} (h : P.globalNamed "internal/strconv.uint64pow10" = none) (h2 : P.globalNamed "internal/bytealg.MaxLen" = none := by kernel_rfl) (h3 : P.globalNamed "strconv.ErrSyntax" = none := by kernel_rfl) (h4 : P.globalNamed "strconv.ErrRange" = none := by kernel_rfl) : Laid P w :=
  ⟨fun g hg => (by rw [h] at hg; cases hg), LaidM.none h2 h3, LaidV.none h3 h4⟩

theorem Laid.kept {P : Program} {w : World} {g0 : Gh} (h : Laid P w) : TabsOk P ⟨w, fun _ => False, g0, Option.none, [], []⟩ := fun w' k => by
  refine ⟨fun g hg => ?_, fun hc => ?_, fun g hg => ?_⟩
  · have h1 := h.1 g hg
    unfold Lib.TabIs World.var? at h1 ⊢
    simp only [hg, Option.bind_some] at h1 ⊢
    have hlt : g < w.heap.size := by
      rcases Nat.lt_or_ge g w.heap.size with h' | h'
      · exact h'
      · rw [Array.getElem?_eq_none h'] at h1; cases h1
    rw [k.block g hlt (fun x => x)]
    exact h1
  · have bel : Go.RowKit.Below w.heap.size w w' := ⟨k.os, k.tape, k.output, k.size, fun b hb => k.block b hb (fun x => x)⟩
    exact (h.2.1 hc).keptBut (bel.frame fun _ => False) (fun p hp => hp.elim)
  · obtain ⟨t, p, h1⟩ := h.2.2 g hg
    refine ⟨t, p, ?_⟩
    have hlt : g < w.heap.size := by
      rcases Nat.lt_or_ge g w.heap.size with h' | h'
      · exact h'
      · unfold World.cell? at h1
        rw [Array.getElem?_eq_none h'] at h1
        simp at h1
    have hb := k.block g hlt (fun x => x)
    unfold World.cell? at h1 ⊢
    simp only [hb]
    exact h1

/-- What a function's call comes to, that writes nothing of what was there. -/
def PCall (P : Program) (f : Nat) (as : List AV) (R : AH → AV → Prop) : Prop :=
  ∀ (st : Nat → Nat → Prop) (w : World) (vs : List Value), Laid P w → (∀ b o, st b o → b < w.heap.size) → RepArgs (gh0 st) w as vs →
    Calls P f vs.toArray w fun e w' => ∃ v r G' m', e = .returned v ∧ Inv ⟨w, fun _ => False, gh0 st, none, [], []⟩ G' m' w' ∧ RepA G' w' r v ∧ port r = true ∧ R m' r

attribute [irreducible] PCall

/-- It returns a value, owned by nobody. -/
def RV (r : AV) : AH → AV → Prop := fun _ x => x = r

end Go.AB

/- Calls; and each operation, held against the real one. -/
namespace Go.AB

theorem gh0_cell {G : Gh} {w : World} {c : AV} {v : Value} {d : DV} (h : RepA G w c v) (hd : toD1 c = some d) :
    RepA (gh0 G.st) w (unC c) v := by
  cases h with
  | int k n => exact .int _ _
  | bool b => exact .bool _
  | str s => exact .str _
  | raw => exact .raw _
  | sl z es t A c h1 _ => exact .sl z es .no A c h1 trivial
  | iface t a x hv =>
    cases hv with
    | int k n => exact .iface _ _ _ (.int _ _)
    | bool b => exact .iface _ _ _ (.bool _)
    | str s => exact .iface _ _ _ (.str _)
    | _ => cases hd
  | _ => cases hd

theorem strip1_rep {G : Gh} {w : World} {a b : AV} {v : Value} (h : RepA G w a v) (hs : strip1 a = some b) : RepA (gh0 G.st) w b v := by
  cases h with
  | int k n => cases hs; exact .int _ _
  | bool n => cases hs; exact .bool _
  | str n => cases hs; exact .str _
  | raw => cases hs; exact .raw _
  | sl z es t A c h1 _ => cases hs; exact .sl z es .no A c h1 trivial
  | ept cs b o h => cases hs; exact .ept cs b o h
  | agg cs vs h1 h2 h3 =>
    simp only [strip1] at hs
    split at hs
    · rename_i ds hds
      cases hs
      obtain ⟨e1, e2⟩ := toDs_get cs ds hds
      refine .agg _ vs (by simpa using h1) h2 (fun i c v hc hv => ?_)
      rw [List.getElem?_map] at hc
      cases hci : cs[i]? with
      | none => rw [hci] at hc; cases hc
      | some c0 =>
        rw [hci] at hc
        cases hc
        have hil := (List.getElem?_eq_some_iff.1 hci).1
        obtain ⟨c1, h4, h5⟩ := e2 i _ (List.getElem?_eq_getElem (by rw [e1]; exact hil))
        rw [hci] at h4
        cases h4
        exact gh0_cell (h3 i c0 v hci hv) h5
    · cases hs
  | iface t a x h =>
    cases h with
    | int k n => cases hs; exact .iface _ _ _ (.int _ _)
    | str n => cases hs; exact .iface _ _ _ (.str _)
    | bool n => cases hs; exact .iface _ _ _ (.bool _)
    | _ => cases hs
  | _ => cases hs

theorem strip1L_rep {G : Gh} {w : World} : ∀ (as bs : List AV), strip1L as = some bs → bs.length = as.length ∧ ∀ (i : Nat) (b : AV), bs[i]? = some b → ∃ a, as[i]? = some a ∧ ∀ v, RepA G w a v → RepA (gh0 G.st) w b v
  | [], bs, hs => by cases hs; exact ⟨rfl, by simp⟩
  | a :: as, bs, hs => by
    simp only [strip1L] at hs
    split at hs
    · rename_i b hb
      split at hs
      · rename_i bs' hbs
        cases hs
        obtain ⟨h1, h2⟩ := strip1L_rep (G := G) (w := w) as bs' hbs
        refine ⟨by simp [h1], fun i c hc => ?_⟩
        cases i with
        | zero => simp at hc; subst hc; exact ⟨a, rfl, fun v hv => strip1_rep hv hb⟩
        | succ i => exact h2 i c (by simpa using hc)
      · cases hs
    · cases hs

theorem strip_rep {G : Gh} {w : World} {a b : AV} {v : Value} (h : RepA G w a v) (hs : strip a = some b) : RepA (gh0 G.st) w b v := by
  cases a <;> first | exact strip1_rep h hs | skip
  rename_i f cs
  simp only [strip] at hs
  split at hs
  · rename_i ds hds
    cases hs
    cases h with
    | fn _ _ vs h1 h2 =>
      obtain ⟨g1, g2⟩ := strip1L_rep (G := G) (w := w) cs ds hds
      refine .fn f ds vs (by rw [h1, g1]) (fun i c v hc hv => ?_)
      obtain ⟨a, ha, hr⟩ := g2 i c hc
      exact hr v (h2 i a v ha hv)
  · cases hs

theorem stripL_rep {G : Gh} {w : World} : ∀ (as bs : List AV) (vs : List Value), stripL as = some bs → RepArgs G w as vs → RepArgs (gh0 G.st) w bs vs
  | [], bs, vs, hs, h => by cases hs; exact ⟨h.1, by simp⟩
  | a :: as, bs, vs, hs, h => by
    simp only [stripL] at hs
    split at hs
    · rename_i b hb
      split at hs
      · rename_i bs' hbs
        cases hs
        obtain ⟨h1, h2⟩ := h
        cases vs with
        | nil => simp at h1
        | cons v vs =>
          have ih := stripL_rep as bs' vs hbs ⟨by simpa using h1, fun i a v ha hv => h2 (i + 1) a v ha hv⟩
          refine ⟨by simp [ih.1], fun i c u hc hu => ?_⟩
          cases i with
          | zero => simp at hc hu; subst hc hu; exact strip_rep (h2 0 a _ rfl rfl) hb
          | succ i => exact ih.2 i c u (by simpa using hc) (by simpa using hu)
      · cases hs
    · cases hs

/-- All that lies in memory at a call. -/
def stAll (w : World) : Nat → Nat → Prop := fun b _ => b < w.heap.size

theorem RepA.all {E : Env} {G : Gh} {m : AH} {w : World} (hi : Inv E G m w) {b : AV} {v : Value} (h : RepA (gh0 G.st) w b v) : RepA (gh0 (stAll w)) w b v :=
  RepA.ext (G := gh0 G.st) (G' := gh0 (stAll w)) (w' := w) ⟨fun _ _ hs => st_lt hi hs, fun _ _ _ => rfl, fun _ _ hx => hx, Nat.le_refl _, fun _ _ _ hx => hx⟩ h

theorem mslD_rep {E : Env} {G : Gh} {m : AH} {w : World} (hi : Inv E G m w) {l : Loc} {off len cap b o : Nat} {d : DV} (h : mslD m l off len = some d) (hb : G.bx l = some (b, o)) (h0 : o ≠ mapMark) (h1 : len ≤ cap) (h2 : cap ≤ maxLen) :
    RepD (stAll w) w d (.slice (some ⟨b, o + off, none⟩) len cap) := by
  unfold mslD at h
  split at h
  · rename_i cs hc
    split at h
    · rename_i ds hd
      split at h
      · rename_i hl
        cases h
        have hm := msl_cells hi hb h0 hc hd
        subst hl
        refine .sl 1 ds b (o + off) cap (fun i j => (w.cell? ⟨b, o + off + (i * 1 + j), none⟩).getD undef) h1 h2 (fun i e he => by rw [(hm i e he).2.1]; rfl) (fun i e he j d hj => ?_) (fun i e he j d hj => ?_)
        · obtain ⟨q1, q2, v, v1, v2, v3⟩ := hm i e he
          rw [q2] at hj
          cases j with
          | succ j => cases hj
          | zero => rw [Nat.mul_one, Nat.add_zero, v1]; exact ⟨q1, rfl⟩
        · obtain ⟨q1, q2, v, v1, v2, v3⟩ := hm i e he
          rw [q2] at hj
          cases j with
          | succ j => cases hj
          | zero =>
            cases hj
            rw [Nat.mul_one, Nat.add_zero, v1]
            exact v3.ext (fun _ _ hs => st_lt hi hs) (fun _ _ _ => rfl)
      · cases h
    · cases h
  · cases h

theorem toDF_rep {E : Env} {G : Gh} {m : AH} {w : World} (hi : Inv E G m w) {a : AV} {d : DV} {x : Value} (h : toDF m a = some d) (hr : RepA G w a x) (ho : oneCell x = true) : RepD (stAll w) w d x := by
  have go : toD1 a = some d → RepD (stAll w) w d x := fun h => (toD1_rep h hr ho).ext (fun _ _ hs => st_lt hi hs) (fun _ _ _ => rfl)
  cases a <;> first | exact go h | skip
  · rename_i f cs
    cases cs with
    | nil =>
      cases h
      cases hr with
      | fn _ _ vs h1 h2 =>
        have : vs = [] := List.length_eq_zero_iff.1 h1
        subst this
        exact .raw _ rfl
    | cons _ _ => cases h
  · cases hr with
    | msl _ _ _ _ b o hb h0 h1 h2 => exact mslD_rep hi h hb h0 h1 h2

theorem toDFs_get {m : AH} : ∀ (cs : List AV) (ds : List DV), toDFs m cs = some ds → ds.length = cs.length ∧ ∀ (j : Nat) (d : DV), ds[j]? = some d → ∃ c, cs[j]? = some c ∧ toDF m c = some d
  | [], ds, h => by cases h; exact ⟨rfl, by simp⟩
  | c :: cs, ds, h => by
    simp only [toDFs] at h
    split at h
    · cases h
    · rename_i d hd
      split at h
      · cases h
      · rename_i ds' hds
        cases h
        obtain ⟨h1, h2⟩ := toDFs_get cs ds' hds
        refine ⟨by simp [h1], fun j d' hj => ?_⟩
        cases j with
        | zero => simp at hj; subst hj; exact ⟨c, rfl, hd⟩
        | succ j => exact h2 j d' (by simpa using hj)

theorem lend1_rep {E : Env} {G : Gh} {m : AH} {w : World} (hi : Inv E G m w) {a b : AV} {v : Value} (h : RepA G w a v) (hs : lend1 m a = some b) : RepA (gh0 (stAll w)) w b v := by
  have go : strip1 a = some b → RepA (gh0 (stAll w)) w b v := fun h1 => (strip1_rep h h1).all hi
  cases a <;> first | exact go hs | skip
  · rename_i l off
    simp only [lend1] at hs
    split at hs
    · rename_i cs hcs
      split at hs
      · rename_i ds hds
        cases hs
        cases h with
        | ptr _ _ p q hb h0 =>
          obtain ⟨p', q', h1, h2, h3, h4, h5, _⟩ := hi.box l cs hcs
          rw [hb] at h1
          cases h1
          obtain ⟨_, g2⟩ := toDFs_get _ ds hds
          refine .ept ds p (q + off) (fun j d hj => ⟨who_lt hi h2, ?_⟩)
          obtain ⟨c, hc, hd⟩ := g2 j d hj
          rw [List.getElem?_drop] at hc
          obtain ⟨_, u, h6, h7, h8⟩ := h5 h0 _ c hc
          exact ⟨u, by rw [Nat.add_assoc]; exact h6, toDF_rep hi hd h8 h7⟩
      · cases hs
    · cases hs
  · simp only [lend1] at hs
    split at hs
    · rename_i d hd
      cases hs
      cases h with
      | msl _ _ _ _ b o hb h0 h1 h2 => exact RepD.toA (mslD_rep hi hd hb h0 h1 h2)
    · cases hs

theorem lend1L_rep {E : Env} {G : Gh} {m : AH} {w : World} (hi : Inv E G m w) : ∀ (as bs : List AV), lend1L m as = some bs → bs.length = as.length ∧ ∀ (i : Nat) (b : AV), bs[i]? = some b → ∃ a, as[i]? = some a ∧ ∀ v, RepA G w a v → RepA (gh0 (stAll w)) w b v
  | [], bs, hs => by cases hs; exact ⟨rfl, by simp⟩
  | a :: as, bs, hs => by
    simp only [lend1L] at hs
    split at hs
    · rename_i b hb
      split at hs
      · rename_i bs' hbs
        cases hs
        obtain ⟨h1, h2⟩ := lend1L_rep hi as bs' hbs
        refine ⟨by simp [h1], fun i c hc => ?_⟩
        cases i with
        | zero => simp at hc; subst hc; exact ⟨a, rfl, fun v hv => lend1_rep hi hv hb⟩
        | succ i => exact h2 i c (by simpa using hc)
      · cases hs
    · cases hs

theorem lend_rep {E : Env} {G : Gh} {m : AH} {w : World} (hi : Inv E G m w) {a b : AV} {v : Value} (h : RepA G w a v) (hs : lend m a = some b) : RepA (gh0 (stAll w)) w b v := by
  cases a <;> first | exact lend1_rep hi h hs | skip
  rename_i f cs
  simp only [lend] at hs
  split at hs
  · rename_i ds hds
    cases hs
    cases h with
    | fn _ _ vs h1 h2 =>
      obtain ⟨g1, g2⟩ := lend1L_rep hi cs ds hds
      refine .fn f ds vs (by rw [h1, g1]) (fun i c v hc hv => ?_)
      obtain ⟨a, ha, hr⟩ := g2 i c hc
      exact hr v (h2 i a v ha hv)
  · cases hs

theorem lendL_rep {E : Env} {G : Gh} {m : AH} {w : World} (hi : Inv E G m w) : ∀ (as bs : List AV) (vs : List Value), lendL m as = some bs → RepArgs G w as vs → RepArgs (gh0 (stAll w)) w bs vs
  | [], bs, vs, hs, h => by cases hs; exact ⟨h.1, by simp⟩
  | a :: as, bs, vs, hs, h => by
    simp only [lendL] at hs
    split at hs
    · rename_i b hb
      split at hs
      · rename_i bs' hbs
        cases hs
        obtain ⟨h1, h2⟩ := h
        cases vs with
        | nil => simp at h1
        | cons v vs =>
          have ih := lendL_rep hi as bs' vs hbs ⟨by simpa using h1, fun i a v ha hv => h2 (i + 1) a v ha hv⟩
          refine ⟨by simp [ih.1], fun i c u hc hu => ?_⟩
          cases i with
          | zero => simp at hc hu; subst hc hu; exact lend_rep hi (h2 0 a _ rfl rfl) hb
          | succ i => exact ih.2 i c u (by simpa using hc) (by simpa using hu)
      · cases hs
    · cases hs

theorem plain_rep {G G' : Gh} {w w' : World} {r : AV} {v : Value} (h : RepA G w r v) (hp : plain r = true) : RepA G' w' r v := by
  have go1 : ∀ {r : AV} {v : Value}, RepA G w r v → plain1 r = true → RepA G' w' r v := by
    intro r v h hp
    cases h <;> first | (cases hp; done) | constructor
  have goA : ∀ {r : AV} {v : Value}, RepA G w r v → plainA r = true → RepA G' w' r v := by
    intro r v h hp
    cases h with
    | agg cs vs h1 h2 h3 => exact .agg cs vs h1 h2 (fun i c v hc hv => go1 (h3 i c v hc hv) (List.all_eq_true.1 hp c (List.mem_of_getElem? hc)))
    | int k n => exact .int _ _
    | bool b => exact .bool _
    | str b => exact .str _
    | raw => exact .raw _
    | _ => cases hp
  cases h with
  | tup cs vs h1 h3 => exact .tup cs vs h1 (fun i c v hc hv => goA (h3 i c v hc hv) (List.all_eq_true.1 hp c (List.mem_of_getElem? hc)))
  | agg cs vs h1 h2 h3 => exact goA (.agg cs vs h1 h2 h3) hp
  | int k n => exact .int _ _
  | bool b => exact .bool _
  | str b => exact .str _
  | raw => exact .raw _
  | _ => cases hp

theorem Inv.lent {E : Env} {G G' : Gh} {m m' : AH} {w w' : World} {st : Nat → Nat → Prop} (h : Inv E G m w) (hi : Inv ⟨w, fun _ => False, gh0 st, none, [], []⟩ G' m' w') : Ext G w G w' ∧ Inv E G m w' := by
  have hheap : ∀ b, b < w.heap.size → w'.heap[b]? = w.heap[b]? := fun b hb => hi.kept.block b hb (fun x => x)
  have hx : Ext G w G w' := ⟨fun _ _ h => h, fun b o hs => cell_of_heap (hheap b (st_lt h hs)) o, fun _ _ h => h, Nat.le_refl _, fun _ _ _ h => h⟩
  refine ⟨hx, ?_, fun l cs hc => (h.box l cs hc).same hx (fun b hb => ⟨hb, fun _ hj => hj, hheap b (who_lt h hb)⟩), h.gen, fun i hl => (h.tok i hl).same rfl (fun b hb => ⟨hb, fun _ hj => hj, hheap b (who_lt h hb)⟩), h.lt, h.nx, fun b hb => h.fresh b (Nat.le_trans hi.kept.size hb), h.ext.trans hx, h.st1⟩
  exact h.kept.heap hi.kept.os hi.kept.tape hi.kept.output hi.kept.size (fun b hb _ => hheap b (Nat.lt_of_lt_of_le hb h.kept.size))

/-- How a called function's marks stand to one's own. -/
structure Shift (n : Nat) (G' G2 : Gh) : Prop where
  st : ∀ b o, G'.st b o → G2.st b o
  nx : ∀ i, i < G'.nx → n + i < G2.nx
  tk : ∀ i, i < G'.nx → G2.tk (n + i) = G'.tk i

theorem shC_rep {n : Nat} {G' G2 : Gh} {w : World} (s : Shift n G' G2) {c : AV} {v : Value} (h : RepA G' w c v) (hp : port1 c = true) : RepA G2 w (shC n c) v := by
  have hst : ∀ b o, G'.st b o → w.cell? ⟨b, o, none⟩ = w.cell? ⟨b, o, none⟩ := fun _ _ _ => rfl
  cases h with
  | int k n => exact .int _ _
  | bool b => exact .bool _
  | str b => exact .str _
  | raw => exact .raw _
  | sl z es t A c h1 h2 =>
    refine .sl z es _ A c (h1.ext s.st hst) ?_
    cases t with
    | no => trivial
    | nil => exact h2
    | own i => exact ⟨s.nx i h2.1, fun x hx => h2.2 x (by rw [← s.tk i h2.1]; exact hx)⟩
  | ept cs b o h => exact .ept cs b o (h.ext s.st hst)
  | iface t a x h =>
    cases h with
    | int => exact .iface _ _ _ (.int _ _)
    | bool => exact .iface _ _ _ (.bool _)
    | str => exact .iface _ _ _ (.str _)
    | _ => cases hp
  | _ => cases hp

theorem shA_rep {n : Nat} {G' G2 : Gh} {w : World} (s : Shift n G' G2) {c : AV} {v : Value} (h : RepA G' w c v) (hp : portA c = true) : RepA G2 w (shA n c) v := by
  cases h with
  | agg cs vs h1 h2 h3 =>
    refine .agg _ vs (by simpa using h1) h2 (fun i c v hc hv => ?_)
    rw [List.getElem?_map] at hc
    cases hci : cs[i]? with
    | none => rw [hci] at hc; cases hc
    | some c0 =>
      rw [hci] at hc
      cases hc
      exact shC_rep s (h3 i c0 v hci hv) (List.all_eq_true.1 hp c0 (List.mem_of_getElem? hci))
  | int k n => exact shC_rep s (.int _ _) hp
  | bool b => exact shC_rep s (.bool _) hp
  | str b => exact shC_rep s (.str _) hp
  | raw => exact shC_rep s (.raw _) hp
  | sl z es t A c h1 h2 => exact shC_rep s (.sl z es t A c h1 h2) hp
  | ept cs b o h => exact shC_rep s (.ept cs b o h) hp
  | iface t a x h => exact shC_rep s (.iface t a x h) hp
  | fn f cs vs h1 h2 =>
    refine .fn f cs vs h1 (fun i c v hc hv => ?_)
    have hp : cs.all isEpt = true := hp
    have hc2 := List.all_eq_true.1 hp c (List.mem_of_getElem? hc)
    have hr := h2 i c v hc hv
    cases hr with
    | ept ds b o h => exact .ept ds b o (h.ext s.st (fun _ _ _ => rfl))
    | _ => cases hc2
  | _ => cases hp

theorem shV_rep {n : Nat} {G' G2 : Gh} {w : World} (s : Shift n G' G2) {c : AV} {v : Value} (h : RepA G' w c v) (hp : port c = true) : RepA G2 w (shV n c) v := by
  cases h with
  | tup cs vs h1 h3 =>
    refine .tup _ vs (by simpa using h1) (fun i c v hc hv => ?_)
    rw [List.getElem?_map] at hc
    cases hci : cs[i]? with
    | none => rw [hci] at hc; cases hc
    | some c0 =>
      rw [hci] at hc
      cases hc
      exact shA_rep s (h3 i c0 v hci hv) (List.all_eq_true.1 hp c0 (List.mem_of_getElem? hci))
  | agg cs vs h1 h2 h3 => exact shA_rep s (.agg cs vs h1 h2 h3) hp
  | int k n => exact shA_rep s (.int _ _) hp
  | bool b => exact shA_rep s (.bool _) hp
  | str b => exact shA_rep s (.str _) hp
  | raw => exact shA_rep s (.raw _) hp
  | sl z es t A c h1 h2 => exact shA_rep s (.sl z es t A c h1 h2) hp
  | ept cs b o h => exact shA_rep s (.ept cs b o h) hp
  | iface t a x h => exact shA_rep s (.iface t a x h) hp
  | fn f cs vs h1 h2 => exact shA_rep s (.fn f cs vs h1 h2) hp
  | _ => cases hp

def whoSh (n : Nat) : Option (Loc ⊕ Nat) → Option (Loc ⊕ Nat)
  | some (.inr i) => some (.inr (n + i))
  | _ => none

theorem Inv.call {E : Env} {G G' : Gh} {m m' : AH} {w w' : World} (h : Inv E G m w) (hi : Inv ⟨w, fun _ => False, gh0 G.st, none, [], []⟩ G' m' w') :
    ∃ G2, Ext G w G2 w' ∧ Inv E G2 { m with nx := m.nx + m'.nx, lv := fun j => m.lv j ∨ (m.nx ≤ j ∧ m'.lv (j - m.nx)) } w' ∧ Shift m.nx G' G2 := by
  let G2 : Gh := { st := G'.st, bx := G.bx, tk := fun j => if j < m.nx then G.tk j else G'.tk (j - m.nx), nx := m.nx + m'.nx, who := fun b => if b < w.heap.size then G.who b else whoSh m.nx (G'.who b) }
  have hst : ∀ b o, G'.st b o → b < w.heap.size → G.st b o := fun b o h1 h2 => (hi.st1 b o h1 h2).resolve_right (fun x => x)
  have hx : Ext (gh0 G.st) w G' w' := hi.ext
  have hx2 : Ext G w G2 w' := by
    refine ⟨hx.st, hx.cell, fun l y hy => hy, by rw [h.nx]; exact Nat.le_add_right _ _, fun i x hi hx => ?_⟩
    rw [h.nx] at hi
    simp only [G2, hi, if_true] at hx
    exact hx
  have hheap : ∀ b, b < w.heap.size → w'.heap[b]? = w.heap[b]? := fun b hb => hi.kept.block b hb (fun x => x)
  refine ⟨G2, hx2, ⟨?_, fun l cs hc => ?_, h.gen, fun i hl => ?_, fun i hl => ?_, rfl, fun b hb => ?_, h.ext.trans hx2, fun b o hs hb => ?_⟩, ⟨fun _ _ x => x, fun i hi' => ?_, fun i hi' => ?_⟩⟩
  · exact h.kept.heap hi.kept.os hi.kept.tape hi.kept.output hi.kept.size (fun b hb _ => hheap b (Nat.lt_of_lt_of_le hb h.kept.size))
  · refine (h.box l cs (by cases l <;> exact hc)).same hx2 (fun b hb => ?_)
    have hlt := who_lt h hb
    exact ⟨by simp only [G2, hlt, if_true]; exact hb, fun j hj => hst b j hj hlt, hheap b hlt⟩
  · rcases hl with hl | ⟨hl1, hl2⟩
    · have := h.lt i hl
      refine (h.tok i hl).same (by simp [G2, this]) (fun b hb => ?_)
      have hlt := who_lt h hb
      exact ⟨by simp only [G2, hlt, if_true]; exact hb, fun j hj => hst b j hj hlt, hheap b hlt⟩
    · have hn : ¬ i < m.nx := by omega
      rcases hi.tok _ hl2 with ht | ⟨b, o, n, c, z, cells, ty, t1, t2, t3, t4, t5, t6, t7⟩
      · exact .inl (by simp only [G2, hn, if_false]; exact ht)
      · have hb : w.heap.size ≤ b := t3.resolve_left (fun x => x)
        have hb' : ¬ b < w.heap.size := by omega
        refine .inr ⟨b, o, n, c, z, cells, ty, by simp only [G2, hn, if_false]; exact t1, ?_, .inr (Nat.le_trans h.kept.size hb), t4, t5, t6, t7⟩
        simp only [G2, hb', if_false, t2, whoSh]
        congr 2
        omega
  · rcases hl with hl | ⟨hl1, hl2⟩
    · exact Nat.lt_of_lt_of_le (h.lt i hl) (Nat.le_add_right _ _)
    · have := hi.lt _ hl2
      simp only
      omega
  · have hb1 : ¬ b < w.heap.size := by have := hi.kept.size; simp only at this; omega
    have := hi.fresh b hb
    exact ⟨by simp only [G2, hb1, if_false, this.1, whoSh], this.2⟩
  · exact h.st1 b o (hst b o hs (Nat.lt_of_lt_of_le hb h.kept.size)) hb
  · rw [hi.nx] at hi'
    exact Nat.add_lt_add_left hi' _
  · have : ¬ m.nx + i < m.nx := by omega
    simp only [G2, this, if_false]
    congr 1
    omega

end Go.AB
