/- Loops whose continuation is kept out of the simplifier's sight. -/
import Derived.Test.YtaieadcnhlapdaaDoorB28
namespace Go.AB

theorem AW_loopH {P : Program} {E : Env} {c : Code} {Q : Exit → AS → Prop} {s0 : List AV} {m0 : AH} {α : Type} (W : List Nat) (J : α → (Nat → AV) → AH → Prop) (μ : α → Nat) (x0 : α) (h0 : J x0 (nth s0) m0)
    (round : ∀ x ρ m, J x ρ m → ∀ Q' : Exit → AS → Prop, (∀ σ, Q' .normal σ = LoopEnd s0 W J μ x σ) → (∀ σ, Q' .ret σ = Q .ret σ) → (∀ id σ, Q' (.exit id) σ = Q (.exit id) σ) → exC P E c ⟨mask s0 W ρ, m⟩ Q') : AW P E (.loop c) Q ⟨s0, m0⟩ :=
  AW_loopS W J μ x0 h0 fun x ρ m hJ => round x ρ m hJ (thenQ (LoopEnd s0 W J μ x) Q) (fun _ => rfl) (fun _ => rfl) (fun _ _ => rfl)

end Go.AB
