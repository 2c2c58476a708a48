/- Loops whose first rounds are walked one by one; results of the library's generic functions. -/
import Derived.Test.YtaieadcnhlapdaaDoorB21
namespace Go.AB

theorem LW_roundA {P : Program} {E : Env} {c : Code} {Q : Exit → AS → Prop} {σ : AS} (h : AW P E c (thenQ (LW P E c Q) Q) σ) : LW P E c Q σ := by
  unfold LW
  intro hT a w hst b k cs
  unfold AW at h
  obtain ⟨e, a1, w1, ⟨σ1, hst1, hq⟩, harr⟩ := h hT a w hst b (.inLoop c :: k) cs
  cases e with
  | normal =>
    simp only [thenQ] at hq
    unfold LW at hq
    obtain ⟨e2, a2, w2, hq2, harr2⟩ := hq hT a1 w1 hst1 b k cs
    exact ⟨e2, a2, w2, hq2, .of_steps (Steps.trans harr (.one step_inLoop)) harr2⟩
  | exit id => exact ⟨_, a1, w1, ⟨σ1, hst1, hq⟩, .pass (x := .inLoop c) rfl (fun _ _ => .inl (by simp)) harr⟩
  | goto l => exact ⟨_, a1, w1, ⟨σ1, hst1, hq⟩, .pass (x := .inLoop c) rfl (fun _ _ => .inl (by simp)) harr⟩
  | ret => exact ⟨_, a1, w1, ⟨σ1, hst1, hq⟩, .pass (x := .inLoop c) rfl (fun _ _ => .inl (by simp)) harr⟩
  | panic ch => exact ⟨_, a1, w1, ⟨σ1, hst1, hq⟩, .pass (x := .inLoop c) rfl (fun _ _ => .inl (by simp)) harr⟩
  | outgrown => exact ⟨_, a1, w1, ⟨σ1, hst1, hq⟩, .pass (x := .inLoop c) rfl (fun _ _ => .inl (by simp)) harr⟩

/-- A loop from a round's head on, by a relation at each round's head. -/
theorem LW_loopS {P : Program} {E : Env} {c : Code} {Q : Exit → AS → Prop} {s0 : List AV} {m0 : AH} {α : Type} (W : List Nat) (J : α → (Nat → AV) → AH → Prop) (μ : α → Nat) (x0 : α) (h0 : J x0 (nth s0) m0)
    (round : ∀ x ρ m, J x ρ m → exC P E c ⟨mask s0 W ρ, m⟩ (thenQ (LoopEnd s0 W J μ x) Q)) : LW P E c Q ⟨s0, m0⟩ := by
  have key : ∀ n x σ, μ x = n → (σ.s = mask s0 W (nth σ.s) ∧ J x (nth σ.s) σ.m) → LW P E c Q σ := by
    intro n
    induction n using Nat.strongRecOn with
    | _ n ih =>
      rintro x ⟨s, m⟩ hn ⟨h1, h2⟩
      refine LW_roundA ?_
      have h3 := round x (nth s) m h2
      simp only at h1
      rw [← h1] at h3
      refine AW_mono (exC_ok c _ _ h3) ?_
      intro e σ h
      cases e with
      | normal =>
        obtain ⟨h4, y, h5, h6⟩ := h
        exact ih (μ y) (hn ▸ h6) y σ rfl ⟨h4, h5⟩
      | _ => exact h
  exact key _ x0 ⟨s0, m0⟩ rfl ⟨(mask_self W s0).symm, h0⟩

end Go.AB
