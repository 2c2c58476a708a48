/- Loops round by round; numbers that are known. -/
import Derived.Test.YtaieadcnhlapdaaDoorB19
namespace Go.AB

/-- A loop from a round's head on. -/
def LW (P : Program) (E : Env) (c : Code) (Q : Exit → AS → Prop) (σ : AS) : Prop :=
  TabsOk P E → ∀ a w, St E σ a w → ∀ (b : Frame) (k : List Item) (cs : List Frame), ∃ e a' w', Lift E Q e a' w' ∧ Arrives P (lone (b.at a (.code c :: .inLoop c :: k)) cs w) b k cs e a' w'

theorem LW_start {P : Program} {E : Env} {c : Code} {Q : Exit → AS → Prop} {σ : AS} (h : LW P E c Q σ) : AW P E (.loop c) Q σ := by
  unfold AW
  intro hT a w hst b k cs
  obtain ⟨e, a', w', hq, harr⟩ := h hT a w hst b k cs
  exact ⟨e, a', w', hq, .of_steps (.one step_loop) harr⟩

theorem LW_round {P : Program} {E : Env} {c : Code} {Q : Exit → AS → Prop} {σ : AS} (h : exC P E c σ (thenQ (LW P E c Q) Q)) : LW P E c Q σ := by
  intro hT a w hst b k cs
  have h := exC_ok c σ _ h
  unfold AW at h
  obtain ⟨e, a1, w1, ⟨σ1, hst1, hq⟩, harr⟩ := h hT a w hst b (.inLoop c :: k) cs
  cases e with
  | normal =>
    obtain ⟨e2, a2, w2, hq2, harr2⟩ := hq hT a1 w1 hst1 b k cs
    exact ⟨e2, a2, w2, hq2, .of_steps (Steps.trans harr (.one step_inLoop)) harr2⟩
  | exit id => exact ⟨_, a1, w1, ⟨σ1, hst1, hq⟩, .pass (x := .inLoop c) rfl (fun _ _ => .inl (by simp)) harr⟩
  | goto l => exact ⟨_, a1, w1, ⟨σ1, hst1, hq⟩, .pass (x := .inLoop c) rfl (fun _ _ => .inl (by simp)) harr⟩
  | ret => exact ⟨_, a1, w1, ⟨σ1, hst1, hq⟩, .pass (x := .inLoop c) rfl (fun _ _ => .inl (by simp)) harr⟩
  | panic ch => exact ⟨_, a1, w1, ⟨σ1, hst1, hq⟩, .pass (x := .inLoop c) rfl (fun _ _ => .inl (by simp)) harr⟩
  | outgrown => exact ⟨_, a1, w1, ⟨σ1, hst1, hq⟩, .pass (x := .inLoop c) rfl (fun _ _ => .inl (by simp)) harr⟩

@[congr] theorem LW_congr {P : Program} {E : Env} {c : Code} {σ σ' : AS} {Q : Exit → AS → Prop} (h : σ = σ') : LW P E c Q σ = LW P E c Q σ' := by rw [h]
attribute [irreducible] LW

@[go_sem] theorem cast_lit (n : Nat) : ((no_index (OfNat.ofNat n) : Nat) : Int) = (OfNat.ofNat n : Int) := (rfl)

attribute [go_sem] Bool.not_eq_true' Bool.not_eq_false' Int.reduceEq Int.reduceNe Int.reduceTDiv Int.reduceTMod Int.reduceAdd Int.reduceSub Int.reduceMul Int.reduceToNat Int.reduceLT Int.reduceLE Int.reduceNeg Nat.reduceLT Int.toNat_natCast byteD List.length_map Nat.lt_irrefl Int.lt_irrefl decide_true decide_false

end Go.AB
