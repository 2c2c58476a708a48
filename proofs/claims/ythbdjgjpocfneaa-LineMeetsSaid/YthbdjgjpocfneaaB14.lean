/- Loops, by the slots that their body writes. -/
import Derived.Test.YthbdjgjpocfneaaB13
namespace Go.AB

def mask (s : List AV) : List Nat → (Nat → AV) → List AV
  | [], _ => s
  | i :: W, ρ => mask (s.set i (ρ i)) W ρ

theorem mask_self : ∀ (W : List Nat) (s : List AV), mask s W (nth s) = s
  | [], _ => rfl
  | i :: W, s => by
    simp only [mask]
    have : s.set i (nth s i) = s := by
      apply List.ext_getElem?
      intro j
      by_cases hj : i = j
      · subst hj
        by_cases hi : i < s.length
        · rw [List.getElem?_set_self hi, nth_lt hi]
        · rw [List.getElem?_eq_none (by simp; omega), List.getElem?_eq_none (by omega)]
      · rw [List.getElem?_set_ne hj]
    rw [this]
    exact mask_self W s

/-- The end of a round: only slots of W were written; the relation holds anew; the measure has gone down. -/
def LoopEnd {α : Type} (s0 : List AV) (W : List Nat) (J : α → (Nat → AV) → AH → Prop) (μ : α → Nat) (x : α) (σ : AS) : Prop :=
  σ.s = mask s0 W (nth σ.s) ∧ ∃ y, J y (nth σ.s) σ.m ∧ μ y < μ x

@[congr] theorem LoopEnd_congr {α : Type} {s0 : List AV} {W : List Nat} {J : α → (Nat → AV) → AH → Prop} {μ : α → Nat} {x : α} {σ σ' : AS} (h : σ = σ') : LoopEnd s0 W J μ x σ = LoopEnd s0 W J μ x σ' := by rw [h]

theorem AW_loopS {P : Program} {E : Env} {c : Code} {Q : Exit → AS → Prop} {s0 : List AV} {m0 : AH} {α : Type} (W : List Nat) (J : α → (Nat → AV) → AH → Prop) (μ : α → Nat) (x0 : α) (h0 : J x0 (nth s0) m0)
    (round : ∀ x ρ m, J x ρ m → exC P E c ⟨mask s0 W ρ, m⟩ (thenQ (LoopEnd s0 W J μ x) Q)) : AW P E (.loop c) Q ⟨s0, m0⟩ := by
  refine AW_loop (fun x σ => σ.s = mask s0 W (nth σ.s) ∧ J x (nth σ.s) σ.m) μ x0 ⟨(mask_self W s0).symm, h0⟩ ?_
  rintro x ⟨s, m⟩ ⟨h1, h2⟩
  simp only at h1 h2
  have := round x (nth s) m h2
  rw [← h1] at this
  refine AW_mono (exC_ok c _ _ this) ?_
  intro e σ h
  cases e with
  | normal =>
    obtain ⟨h3, y, h4, h5⟩ := h
    exact ⟨y, ⟨h3, h4⟩, h5⟩
  | _ => exact h

/-- It returns a slice that may be added to. -/
def RO (z : Nat) (es : List DV) : AH → AV → Prop := fun m x => ∃ i, x = .sl z es (.own i) ∧ m.lv i

@[go_sem] theorem RV_eq {r x : AV} {m : AH} : RV r m x = (x = r) := rfl
@[go_sem] theorem RO_eq {z z' : Nat} {es es' : List DV} {i : Nat} {m : AH} : RO z es m (.sl z' es' (.own i)) = (z' = z ∧ es' = es ∧ m.lv i) := by
  apply propext
  constructor
  · rintro ⟨j, h, hj⟩
    cases h
    exact ⟨rfl, rfl, hj⟩
  · rintro ⟨rfl, rfl, h⟩
    exact ⟨i, rfl, h⟩
theorem RO.tok {z : Nat} {es : List DV} {t : Tok} {m : AH} (h : ∃ i, t = .own i ∧ m.lv i) : RO z es m (.sl z es t) := by
  obtain ⟨i, rfl, h⟩ := h; exact ⟨i, rfl, h⟩

theorem callVt {P : Program} {k : Nat} {as : List AV} {σ : AS} {dst : Option Nat} {K : AS → Prop} {r : AV} (h : PCall P k as (RV r))
    (hK : ∀ nx2 lv2, σ.m.nx ≤ nx2 → (∀ j, σ.m.lv j → lv2 j) → K (AS.put ⟨σ.s, ⟨σ.m.h, σ.m.o, nx2, lv2⟩⟩ dst (shV σ.m.nx r))) : ∃ R, PCall P k as R ∧ callK σ dst R K := by
  refine ⟨_, h, ?_⟩
  unfold callK
  rintro m' x hx nx2 lv2 h1 h2 h3
  cases hx
  exact hK nx2 lv2 h1 h2

theorem callV {P : Program} {k : Nat} {as : List AV} {σ : AS} {dst : Option Nat} {K : AS → Prop} {r : AV} (h : PCall P k as (RV r))
    (hK : ∀ nx2 lv2, K (AS.put ⟨σ.s, ⟨σ.m.h, σ.m.o, nx2, lv2⟩⟩ dst (shV σ.m.nx r))) : ∃ R, PCall P k as R ∧ callK σ dst R K :=
  callVt h fun nx2 lv2 _ _ => hK nx2 lv2

theorem callO {P : Program} {k : Nat} {as : List AV} {σ : AS} {dst : Option Nat} {K : AS → Prop} {z : Nat} {es : List DV} (h : PCall P k as (RO z es))
    (hK : ∀ i nx2 lv2, σ.m.nx ≤ nx2 → (∀ j, σ.m.lv j → lv2 j) → lv2 i → σ.m.nx ≤ i → K (AS.put ⟨σ.s, ⟨σ.m.h, σ.m.o, nx2, lv2⟩⟩ dst (.sl z es (.own i)))) : ∃ R, PCall P k as R ∧ callK σ dst R K := by
  refine ⟨_, h, ?_⟩
  unfold callK
  rintro m' x ⟨i, rfl, hi⟩ nx2 lv2 h1 h2 h3
  exact hK (σ.m.nx + i) nx2 lv2 h1 h2 (h3 i hi) (Nat.le_add_right _ _)

attribute [go_sem] mask

end Go.AB
