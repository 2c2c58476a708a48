/- Contracts of the library, as contracts of this layer. -/
import Derived.Test.YtkfhieigdlfbeaaDoorB140
import Derived.Laws.IdiomStrings
namespace Go.AB

theorem PCall.of_calls {P : Program} {f : Nat} {as : List AV} {r : AV} (hp : port r = true)
    (h : ∀ (st : Nat → Nat → Prop) (w : World) (vs : List Value), Laid P w → (∀ b o, st b o → b < w.heap.size) → RepArgs (gh0 st) w as vs →
      Calls P f vs.toArray w fun e w' => ∃ v, e = .returned v ∧ Go.RowKit.Below w.heap.size w w' ∧ ∀ G, RepA G w' r v) : PCall P f as (RV r) := by
  unfold PCall
  intro st w vs hl hst hrep
  refine (h st w vs hl hst hrep).mono ?_
  rintro e w' ⟨v, rfl, bel, hr⟩
  refine ⟨v, r, gh0 st, emptyH, rfl, ?_, hr _, hp, rfl⟩
  have hblock : ∀ b, b < w.heap.size → w'.heap[b]? = w.heap[b]? := fun b hb => bel.block b hb
  refine ⟨⟨bel.os, bel.tape, bel.output, bel.size, fun b hb _ => hblock b hb⟩, fun l cs hc => ?_, fun _ _ _ => rfl, fun i hi => hi.elim, fun i hi => hi.elim, rfl, fun b hb => ⟨rfl, fun j hs => ?_⟩, ?_, fun b o hs _ => .inl hs⟩
  · cases l <;> simp [emptyH, AH.cells, hget] at hc
  · have := hst b j hs
    have := bel.size

    omega
  · exact ⟨fun _ _ x => x, fun b o hs => cell_of_heap (hblock b (hst b o hs)) o, fun _ _ x => x, Nat.le_refl _, fun _ _ _ x => x⟩

/-- As above, for a result whose cells lie in new memory that nothing writes to any more. -/
theorem PCall.of_callsN {P : Program} {f : Nat} {as : List AV} {r : AV} (hp : port r = true)
    (h : ∀ (st : Nat → Nat → Prop) (w : World) (vs : List Value), Laid P w → (∀ b o, st b o → b < w.heap.size) → RepArgs (gh0 st) w as vs →
      Calls P f vs.toArray w fun e w' => ∃ v, e = .returned v ∧ Go.RowKit.Below w.heap.size w w' ∧ ∃ st2 : Nat → Nat → Prop, (∀ b o, st2 b o → w.heap.size ≤ b ∧ b < w'.heap.size) ∧
        ∀ G : Gh, (∀ b o, st b o → G.st b o) → (∀ b o, st2 b o → G.st b o) → RepA G w' r v) : PCall P f as (RV r) := by
  unfold PCall
  intro st w vs hl hst hrep
  refine (h st w vs hl hst hrep).mono ?_
  rintro e w' ⟨v, rfl, bel, st2, h2, hr⟩
  let G' : Gh := { st := fun b o => st b o ∨ st2 b o, bx := fun _ => none, tk := fun _ => none, nx := 0, who := fun _ => none }
  refine ⟨v, r, G', emptyH, rfl, ?_, hr G' (fun _ _ x => .inl x) (fun _ _ x => .inr x), hp, rfl⟩
  have hblock : ∀ b, b < w.heap.size → w'.heap[b]? = w.heap[b]? := fun b hb => bel.block b hb
  refine ⟨⟨bel.os, bel.tape, bel.output, bel.size, fun b hb _ => hblock b hb⟩, fun l cs hc => ?_, fun _ _ _ => rfl, fun i hi => hi.elim, fun i hi => hi.elim, rfl, fun b hb => ⟨rfl, fun j hs => ?_⟩, ?_, fun b o hs hlt => ?_⟩
  · cases l <;> simp [emptyH, AH.cells, hget] at hc
  · rcases hs with hs | hs
    · have := hst b j hs
      have := bel.size
      omega
    · have := h2 b j hs
      omega
  · exact ⟨fun _ _ x => .inl x, fun b o hs => cell_of_heap (hblock b (hst b o hs)) o, fun _ _ x => x, Nat.le_refl _, fun _ _ _ x => x⟩
  · rcases hs with hs | hs
    · exact .inl hs
    · have := h2 b o hs
      simp only at hlt
      omega

/-- A new block of one-cell data, as a slice. -/
theorem SlAt.block {st : Nat → Nat → Prop} {w : World} {es : List DV} {b : Nat} (hl : es.length ≤ maxLen) (h1 : ∀ e ∈ es, (dcells e).length = 1) (hst : ∀ j, j < es.length → st b j)
    (hc : ∀ (j : Nat) (e : DV), es[j]? = some e → ∀ d, (dcells e)[0]? = some d → ∃ v, w.cell? ⟨b, j, none⟩ = some v ∧ RepD st w d v) : SlAt st w es (some ⟨b, 0, none⟩) es.length 1 := by
  refine ⟨Nat.le_refl _, hl, fun i e he => h1 e (List.mem_of_getElem? he), .inr ⟨b, 0, rfl, fun i e he j d hd => ?_⟩⟩
  have hj : j = 0 := by
    have := (List.getElem?_eq_some_iff.1 hd).1
    rw [h1 e (List.mem_of_getElem? he)] at this
    omega
  subst hj
  have hi := (List.getElem?_eq_some_iff.1 he).1
  have e1 : 0 + (i * 1 + 0) = i := by omega
  rw [e1]
  exact ⟨hst i hi, hc i e he d hd⟩

/-- A function of the library that hands back a new array of strings, as strings.Split does. -/
theorem PCall.of_strs {P : Program} {f : Nat} {as : List AV} {l : List (List UInt8)} (hl : l.length ≤ maxLen)
    (h : ∀ (st : Nat → Nat → Prop) (w : World) (vs : List Value), Laid P w → (∀ b o, st b o → b < w.heap.size) → RepArgs (gh0 st) w as vs →
      Calls P f vs.toArray w fun e w' => ∃ ty, e = .returned (.slice (some ⟨w.heap.size, 0, none⟩) l.length l.length) ∧ w' = w.alloc (.cells (l.map fun s => Value.string ⟨s.toArray⟩).toArray ty)) :
    PCall P f as (RV (.sl 1 (l.map DV.str) .no)) := by
  refine PCall.of_callsN rfl fun st w vs h1 h2 h3 => (h st w vs h1 h2 h3).mono ?_
  rintro e w' ⟨ty, rfl, rfl⟩
  have bel := (Go.RowKit.Below.refl w.heap.size w).alloc (Nat.le_refl _) (.cells (l.map fun s => Value.string ⟨s.toArray⟩).toArray ty)
  have hsz : (w.alloc (.cells (l.map fun s => Value.string ⟨s.toArray⟩).toArray ty)).heap.size = w.heap.size + 1 := Array.size_push _
  refine ⟨_, rfl, bel, fun b o => b = w.heap.size ∧ o < l.length, fun b o hb => by rw [hsz]; omega, fun G g1 g2 => ?_⟩
  have hsl := SlAt.block (st := G.st) (w := w.alloc (.cells (l.map fun s => Value.string ⟨s.toArray⟩).toArray ty)) (es := l.map DV.str) (b := w.heap.size) (by simpa using hl)
    (fun e he => by
      obtain ⟨s, _, rfl⟩ := List.mem_map.1 he
      rfl)
    (fun j hj => g2 _ _ ⟨rfl, by simpa using hj⟩)
    (fun j e he d hd => by
      rw [List.getElem?_map] at he
      cases hs : l[j]? with
      | none => rw [hs] at he; cases he
      | some s =>
        rw [hs] at he
        cases he
        simp only [dcells, List.getElem?_cons_zero, Option.some.injEq] at hd
        subst hd
        refine ⟨.string ⟨s.toArray⟩, ?_, .str s⟩
        rw [World.cell?_alloc_mark]
        simp [hs])
  have := RepA.sl (G := G) 1 (l.map DV.str) .no (some ⟨w.heap.size, 0, none⟩) (l.map DV.str).length hsl trivial
  simpa using this

/-- As of_callsN, for a result of which a predicate tells. -/
theorem PCall.of_callsR {P : Program} {f : Nat} {as : List AV} {R : AH → AV → Prop}
    (h : ∀ (st : Nat → Nat → Prop) (w : World) (vs : List Value), Laid P w → (∀ b o, st b o → b < w.heap.size) → RepArgs (gh0 st) w as vs →
      Calls P f vs.toArray w fun e w' => ∃ v r, e = .returned v ∧ Go.RowKit.Below w.heap.size w w' ∧ port r = true ∧ R emptyH r ∧ ∃ st2 : Nat → Nat → Prop, (∀ b o, st2 b o → w.heap.size ≤ b ∧ b < w'.heap.size) ∧
        ∀ G : Gh, (∀ b o, st b o → G.st b o) → (∀ b o, st2 b o → G.st b o) → RepA G w' r v) : PCall P f as R := by
  unfold PCall
  intro st w vs hl hst hrep
  refine (h st w vs hl hst hrep).mono ?_
  rintro e w' ⟨v, r, rfl, bel, hp, hR, st2, h2, hr⟩
  let G' : Gh := { st := fun b o => st b o ∨ st2 b o, bx := fun _ => none, tk := fun _ => none, nx := 0, who := fun _ => none }
  refine ⟨v, r, G', emptyH, rfl, ?_, hr G' (fun _ _ x => .inl x) (fun _ _ x => .inr x), hp, hR⟩
  have hblock : ∀ b, b < w.heap.size → w'.heap[b]? = w.heap[b]? := fun b hb => bel.block b hb
  refine ⟨⟨bel.os, bel.tape, bel.output, bel.size, fun b hb _ => hblock b hb⟩, fun l cs hc => ?_, fun _ _ _ => rfl, fun i hi => hi.elim, fun i hi => hi.elim, rfl, fun b hb => ⟨rfl, fun j hs => ?_⟩, ?_, fun b o hs hlt => ?_⟩
  · cases l <;> simp [emptyH, AH.cells, hget] at hc
  · rcases hs with hs | hs
    · have := hst b j hs
      have := bel.size
      omega
    · have := h2 b j hs
      omega
  · exact ⟨fun _ _ x => .inl x, fun b o hs => cell_of_heap (hblock b (hst b o hs)) o, fun _ _ x => x, Nat.le_refl _, fun _ _ _ x => x⟩
  · rcases hs with hs | hs
    · exact .inl hs
    · have := h2 b o hs
      simp only at hlt
      omega

/-- What a reading of a number comes to: the number and no error, or 0 and an error. -/
def RNum (n : Option Int) : AH → AV → Prop := fun _ r => match n with
  | some n => r = .tup [.int .i64 n, .raw .nilIface]
  | none => ∃ k t x, r = .tup [.int .i64 k, .raw (.iface t x)]

end Go.AB
