/- Regions that draw their order: operations that write nothing, once in the order of the text. -/
import Derived.Test.YtaieadcnhlapdaaDoorB14
namespace Go.AB

/-- A step that hands on one value, whatever comes behind. -/
def Det {α : Type} (f : (α → Prop) → Prop) : Prop := ∀ K, f K → ∃ v, K v ∧ ∀ K', K' v → f K'

section
variable {α : Type}
theorem Det.fls {f : (α → Prop) → Prop} (h : ∀ K, ¬ f K) : Det f := fun K hf => absurd hf (h K)
theorem Det.one {f : (α → Prop) → Prop} (v : α) (p : Prop) (h : ∀ K, f K ↔ (p ∧ K v)) : Det f := fun K hf => by
  obtain ⟨hp, hk⟩ := (h K).1 hf
  exact ⟨v, hk, fun K' hk' => (h K').2 ⟨hp, hk'⟩⟩
end

theorem ldA_det {ty : Option (Bool × Nat)} {cs : List AV} : Det (ldA ty cs) := by
  intro K h
  cases ty with
  | none => exact h.elim
  | some x =>
    obtain ⟨b, n⟩ := x
    cases b with
    | true => exact ⟨_, h.2, fun K' h' => ⟨h.1, h'⟩⟩
    | false =>
      cases cs with
      | nil => exact h.elim
      | cons v r => exact ⟨v, h, fun K' h' => h'⟩

theorem cells_eq {m m' : AH} (e1 : m'.h = m.h) (e2 : m'.o = m.o) (l : Loc) : m'.cells l = m.cells l := by cases l <;> simp [AH.cells, e1, e2]

theorem exLoad_same {P : Program} {m m' : AH} {t : Nat} {a : AV} {K : AV → Prop} (e1 : m'.h = m.h) (e2 : m'.o = m.o) (h : exLoad P m t a K) : exLoad P m' t a K := by
  unfold exLoad at h ⊢
  cases a <;> first | exact h | skip
  rename_i l off
  simp only at h ⊢
  rw [cells_eq e1 e2]
  exact h

theorem exLoad_det {P : Program} {m : AH} {t : Nat} {a : AV} : Det (exLoad P m t a) := by
  intro K h
  unfold exLoad at h ⊢
  split at h
  · split at h
    · exact ldA_det K h
    · exact h.elim
  · exact ldA_det K h
  · exact h.elim

theorem exField_det {P : Program} {s f : Nat} {a : AV} : Det (exField P s a f) := by
  intro K h
  unfold exField at h ⊢
  split at h
  · split at h
    · exact ⟨_, h, fun K' h' => h'⟩
    · exact ⟨_, h, fun K' h' => h'⟩
    · exact h.elim
  · exact h.elim

theorem exIndexAddr_det {P : Program} {t : Nat} {a i : AV} : Det (exIndexAddr P t a i) := by
  intro K h
  unfold exIndexAddr at h ⊢
  split at h
  · obtain ⟨h1, h2, e, h3, h4⟩ := h
    exact ⟨_, h4, fun K' h' => ⟨h1, h2, e, h3, h'⟩⟩
  · split at h
    · exact ⟨_, h.2.2, fun K' h' => ⟨h.1, h.2.1, h'⟩⟩
    · exact h.elim
  · split at h
    · exact ⟨_, h.2.2, fun K' h' => ⟨h.1, h.2.1, h'⟩⟩
    · exact h.elim
  · exact h.elim

theorem exBinInt_det {op : BinOp} {k k' : IntKind} {x y : Int} : Det (exBinInt op k k' x y) := by
  intro K h
  cases op <;> simp only [exBinInt] at h ⊢ <;> first
    | exact ⟨_, h.2, fun K' h' => ⟨h.1, h'⟩⟩
    | exact ⟨_, h.2.2, fun K' h' => ⟨h.1, h.2.1, h'⟩⟩

theorem eqA_det : ∀ {ks : List CK} {xs ys : List AV}, Det (eqA ks xs ys) := by
  intro ks
  induction ks with
  | nil =>
    intro xs ys K h
    cases xs with
    | nil => cases ys with
      | nil => exact ⟨true, h, fun K' h' => h'⟩
      | cons _ _ => exact h.elim
    | cons _ _ => exact h.elim
  | cons c ks ih =>
    intro xs ys K h
    unfold eqA at h
    split at h
    · cases ‹c :: ks = []›
    · rename_i heq
      cases heq
      obtain ⟨v, h1, h2⟩ := ih _ h.2.2
      exact ⟨_, h1, fun K' h' => by unfold eqA; exact ⟨h.1, h.2.1, h2 _ h'⟩⟩
    · rename_i heq
      cases heq
      obtain ⟨v, h1, h2⟩ := ih _ h
      exact ⟨_, h1, fun K' h' => by unfold eqA; exact h2 _ h'⟩
    · rename_i heq
      cases heq
      obtain ⟨v, h1, h2⟩ := ih _ h
      exact ⟨_, h1, fun K' h' => by unfold eqA; exact h2 _ h'⟩
    · exact h.elim

theorem exBin_det {P : Program} {op : BinOp} {t : Nat} {a b : AV} : Det (exBin P op t a b) := by
  intro K h
  unfold exBin at h ⊢
  split at h
  · exact exBinInt_det K h
  · cases op <;> first | exact h.2.elim | exact ⟨_, h.2, fun K' h' => ⟨h.1, h'⟩⟩
  · cases op <;> first | exact h.elim | exact ⟨_, h.2, fun K' h' => ⟨h.1, h'⟩⟩ | exact ⟨_, h, fun K' h' => h'⟩
  · split at h
    · cases op <;> first
        | exact h.elim
        | (obtain ⟨v, h1, h2⟩ := eqA_det _ h; exact ⟨_, h1, fun K' h' => h2 _ h'⟩)
    · exact h.elim
  · exact h.elim

theorem exUn_det {op : UnOp} {a : AV} : Det (exUn op a) := by
  intro K h
  unfold exUn at h ⊢
  split at h
  · exact ⟨_, h, fun K' h' => h'⟩
  · exact ⟨_, h, fun K' h' => h'⟩
  · exact h.elim

theorem exConv_det {P : Program} {s d : Nat} {a : AV} : Det (exConv P s d a) := by
  intro K h
  unfold exConv at h ⊢
  split at h
  · split at h
    · exact ⟨_, h.2, fun K' h' => ⟨h.1, h'⟩⟩
    · exact h.elim
  · exact ⟨_, h.2.2, fun K' h' => ⟨h.1, h.2.1, h'⟩⟩
  · exact h.elim

theorem partA_det {off n : Nat} {g : Bool} {cs : List AV} : Det (partA off g n cs) := by
  intro K h
  cases g with
  | true => exact ⟨_, h.2, fun K' h' => ⟨h.1, h'⟩⟩
  | false =>
    obtain ⟨v, h1, h2⟩ := h
    exact ⟨v, h2, fun K' h' => ⟨v, h1, h'⟩⟩

theorem exFieldV_det {P : Program} {s f : Nat} {a : AV} : Det (exFieldV P s a f) := by
  intro K h
  unfold exFieldV at h ⊢
  split at h
  · split at h
    · exact partA_det K h
    · exact h.elim
  · exact h.elim

theorem exIndexV_det {P : Program} {t : Nat} {a i : AV} : Det (exIndexV P t a i) := by
  intro K h
  unfold exIndexV at h ⊢
  split at h
  · split at h
    · obtain ⟨v, h1, h2⟩ := partA_det K h.2.2
      exact ⟨v, h1, fun K' h' => ⟨h.1, h.2.1, h2 K' h'⟩⟩
    · exact h.elim
  · obtain ⟨h1, h2, c, h3, h4⟩ := h
    exact ⟨_, h4, fun K' h' => ⟨h1, h2, c, h3, h'⟩⟩
  · exact h.elim

theorem exLen_det {P : Program} {t : Nat} {a : AV} : Det (exLen P t a) := by
  intro K h
  unfold exLen at h ⊢
  split at h
  · exact ⟨_, h.2, fun K' h' => ⟨h.1, h'⟩⟩
  · exact ⟨_, h.2, fun K' h' => ⟨h.1, h'⟩⟩
  · exact ⟨_, h.2, fun K' h' => ⟨h.1, h'⟩⟩
  · split at h
    · exact ⟨_, h, fun K' h' => h'⟩
    · exact h.elim
  · exact h.elim

theorem mmA_det {mx : Bool} {k : IntKind} : ∀ {r : List AV} {x : Int}, Det (mmA mx k x r)
  | [], x => fun K h => ⟨_, h, fun K' h' => h'⟩
  | c :: r, x => fun K h => by
    cases c <;> first | exact h.elim | skip
    obtain ⟨v, h1, h2⟩ := mmA_det (r := r) K h
    exact ⟨v, h1, fun K' h' => h2 K' h'⟩

theorem exMM_det {mx : Bool} {as : List AV} : Det (exMM mx as) := by
  intro K h
  unfold exMM at h ⊢
  split at h
  · exact mmA_det K h
  · exact h.elim

theorem exCut_det {P : Program} {t : Nat} {a : AV} {lo hi : Option AV} : Det (exCut P t a lo hi) := by
  intro K h
  unfold exCut at h ⊢
  split at h
  · split at h
    · exact ⟨_, h.2.2.2, fun K' h' => ⟨h.1, h.2.1, h.2.2.1, h'⟩⟩
    · exact h.elim
  · split at h
    · exact ⟨_, h.2.2.2, fun K' h' => ⟨h.1, h.2.1, h.2.2.1, h'⟩⟩
    · exact h.elim
  · split at h
    · split at h
      · exact ⟨_, h.2.2.2.2, fun K' h' => ⟨h.1, h.2.1, h.2.2.1, h.2.2.2.1, h'⟩⟩
      · exact h.elim
    · exact h.elim
  · split at h
    · split at h
      · exact ⟨_, h.2.2.2.2, fun K' h' => ⟨h.1, h.2.1, h.2.2.1, h.2.2.2.1, h'⟩⟩
      · exact h.elim
    · exact h.elim
  · exact h.elim

theorem exPick_det {c a b : AV} : Det (exPick c a b) := by
  intro K h
  unfold exPick at h ⊢
  split at h
  · rename_i t
    split at h
    · exact ⟨_, h, fun K' h' => h'⟩
    · rename_i hne
      cases t with
      | true => exact ⟨_, h.1 rfl, fun K' h' => ⟨fun _ => h', fun e => by cases e⟩⟩
      | false => exact ⟨_, h.2 rfl, fun K' h' => ⟨fun e => (by cases e), fun _ => h'⟩⟩
  · exact h.elim

theorem exLookup_same {P : Program} {m m' : AH} {t : Nat} {x k : AV} {ok : Bool} {K : AV → Prop} (e1 : m'.h = m.h) (e2 : m'.o = m.o) (h : exLookup P m t x k ok K) : exLookup P m' t x k ok K := by
  unfold exLookup at h ⊢
  split at h
  · rename_i l
    simp only [cells_eq e1 e2]
    exact h
  · exact h

theorem exLookup_det {P : Program} {m : AH} {t : Nat} {x k : AV} {ok : Bool} : Det (exLookup P m t x k ok) := fun K h => by
  unfold exLookup at h
  split at h
  · rename_i l
    split at h
    · rename_i cs hcs
      unfold lookC at h
      split at h
      · rename_i ks vs
        split at h
        · rename_i kt z hm
          obtain ⟨h1, h2, h3⟩ := h
          cases hg : mget ks vs k with
          | none =>
            rw [hg] at h3
            exact ⟨_, h3, fun K' h' => by unfold exLookup; simp only [hcs]; unfold lookC; simp only [hm]; exact ⟨h1, h2, by rw [hg]; exact h'⟩⟩
          | some v =>
            rw [hg] at h3
            exact ⟨_, h3, fun K' h' => by unfold exLookup; simp only [hcs]; unfold lookC; simp only [hm]; exact ⟨h1, h2, by rw [hg]; exact h'⟩⟩
        · exact h.elim
      · exact h.elim
    · exact h.elim
  · exact h.elim

theorem exExtract_det {a : AV} {i : Nat} : Det (exExtract a i) := by
  intro K h
  unfold exExtract at h ⊢
  split at h
  · split at h
    · exact ⟨_, h, fun K' h' => h'⟩
    · exact h.elim
  · exact h.elim

theorem exBuild_det {P : Program} {t : Nat} {ps : List (Nat × AV)} : Det (exBuild P t ps) := by
  intro K h
  unfold exBuild at h ⊢
  split at h
  · split at h
    · exact ⟨_, h, fun K' h' => h'⟩
    · exact h.elim
  · exact h.elim

end Go.AB
