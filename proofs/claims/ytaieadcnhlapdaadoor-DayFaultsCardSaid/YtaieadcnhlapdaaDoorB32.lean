/- Contracts of the library, as contracts of this layer. -/
import Derived.Test.YtaieadcnhlapdaaDoorB31
namespace Go.AB

theorem PCall.of_calls {P : Program} {f : Nat} {as : List AV} {r : AV} (hp : port r = true)
    (h : ∀ (st : Nat → Nat → Prop) (w : World) (vs : List Value), Laid P w → (∀ b o, st b o → b < w.heap.size) → RepArgs (gh0 st) w as vs →
      Calls P f vs.toArray w fun e w' => ∃ v, e = .returned v ∧ Go.RowKit.Below w.heap.size w w' ∧ ∀ G, RepA G w' r v) : PCall P f as (RV r) := by
  unfold PCall
  intro st w vs hl hst hrep
  refine (h st w vs hl hst hrep).mono ?_
  rintro e w' ⟨v, rfl, bel, hr⟩
  refine ⟨v, r, gh0 st, emptyH, rfl, ?_, hr _, hp, rfl⟩
  have hblock : ∀ b, b < w.heap.size → w'.heap[b]? = w.heap[b]? := fun b hb => bel.block b hb
  refine ⟨⟨bel.os, bel.tape, bel.output, bel.size, fun b hb _ => hblock b hb⟩, fun l cs hc => ?_, fun _ _ _ => rfl, fun i hi => hi.elim, fun i hi => hi.elim, rfl, fun b hb => ⟨rfl, fun j hs => ?_⟩, ?_, fun b o hs _ => .inl hs⟩
  · cases l <;> simp [emptyH, AH.cells, hget] at hc
  · have := hst b j hs
    have := bel.size

    omega
  · exact ⟨fun _ _ x => x, fun b o hs => cell_of_heap (hblock b (hst b o hs)) o, fun _ _ x => x, Nat.le_refl _, fun _ _ _ x => x⟩

end Go.AB
