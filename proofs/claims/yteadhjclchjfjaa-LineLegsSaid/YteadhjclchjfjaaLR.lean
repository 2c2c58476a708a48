/- Routes: what both searches find is one thing. -/
import Derived.Test.YteadhjclchjfjaaL7
namespace Go.Proofs.Yteadhjclchjfjaa
set_option linter.unusedSimpArgs false
set_option linter.unusedVariables false
open Go.AB

structure Rt where
  (fr to : Int)
  st : List Stp
/-- What a search has found. -/
structure Fd where
  rs : List Rt
  ps : Int
  lg : Bool

def countF (f : Fd) : Fd := ⟨f.rs, f.ps + 1, f.lg || decide (80 < f.ps + 1)⟩
def walkS (n : Net) (s e : Int) : List Stp := match joinL n.links s e with
  | none => []
  | some (t, i) => (outsF (kindAt n t) i).map fun o => ⟨t, i, o⟩

/-- The program's search: over what comes next. -/
def stepG (g : List Stp → Int → Int → Fd → Fd) (n : Net) (fr home : Int) (p : List Stp) : List Stp → Fd → Fd
  | [], f => f
  | x :: r, f => if f.lg = true then f
    else if x.s = home ∨ psec p x.s = true then countF f
    else if 16 < p.length + 1 then ⟨f.rs, f.ps, true⟩
    else if (joinL n.links x.s x.o).isSome = true ∧ sigIdx n.sigs x.s x.o 0 < 0 then stepG g n fr home p r (g (p ++ [x]) x.s x.o f)
    else stepG g n fr home p r (countF ⟨f.rs ++ [⟨fr, sigIdx n.sigs x.s x.o 0, p ++ [x]⟩], f.ps, f.lg⟩)
def growF (n : Net) (fr home : Int) : Nat → List Stp → Int → Int → Fd → Fd
  | 0, _, _, _, f => f
  | k + 1, p, s, e, f => stepG (growF n fr home k) n fr home p (walkS n s e) f

def endF (f : Fd) (r : Rt) (b : Bool) : Fd := ⟨if b = true then f.rs ++ [r] else f.rs, f.ps + 1, f.lg || decide (80 < f.ps + 1)⟩
/-- The reference's search. -/
def outG (g : Rt → Int → Int → Fd → Fd) (n : Net) (r : Rt) (t i : Int) : List Int → Fd → Fd
  | [], f => f
  | o :: l, f => outG g n r t i l (if 0 ≤ sigIdx n.sigs t o 0 then endF f ⟨r.fr, sigIdx n.sigs t o 0, r.st ++ [⟨t, i, o⟩]⟩ true else g ⟨r.fr, r.to, r.st ++ [⟨t, i, o⟩]⟩ t o f)
def followF (n : Net) (home : Int) : Nat → Rt → Int → Int → Fd → Fd
  | 0, _, _, _, f => f
  | k + 1, r, s, e, f => if f.lg = true then f else match joinL n.links s e with
    | none => endF f ⟨r.fr, -1, r.st⟩ true
    | some (t, i) => if t = home ∨ psec r.st t = true then endF f r false
      else if r.st.length = 16 then ⟨f.rs, f.ps, true⟩
      else outG (followF n home k) n r t i (outsF (kindAt n t) i) f

theorem stepG_cons {g : List Stp → Int → Int → Fd → Fd} {n : Net} {fr home : Int} {p : List Stp} {x : Stp} {r : List Stp} {f : Fd} : stepG g n fr home p (x :: r) f = (if f.lg = true then f
    else if x.s = home ∨ psec p x.s = true then countF f
    else if 16 < p.length + 1 then ⟨f.rs, f.ps, true⟩
    else if (joinL n.links x.s x.o).isSome = true ∧ sigIdx n.sigs x.s x.o 0 < 0 then stepG g n fr home p r (g (p ++ [x]) x.s x.o f)
    else stepG g n fr home p r (countF ⟨f.rs ++ [⟨fr, sigIdx n.sigs x.s x.o 0, p ++ [x]⟩], f.ps, f.lg⟩)) := rfl
theorem outG_cons {g : Rt → Int → Int → Fd → Fd} {n : Net} {r : Rt} {t i o : Int} {l : List Int} {f : Fd} : outG g n r t i (o :: l) f = outG g n r t i l (if 0 ≤ sigIdx n.sigs t o 0 then endF f ⟨r.fr, sigIdx n.sigs t o 0, r.st ++ [⟨t, i, o⟩]⟩ true else g ⟨r.fr, r.to, r.st ++ [⟨t, i, o⟩]⟩ t o f) := rfl

/-- The same, or both too large. -/
def Eqv (f g : Fd) : Prop := f.lg = g.lg ∧ (f.lg = false → f.rs = g.rs ∧ f.ps = g.ps)

theorem sigIdx_neg : ∀ (l : List Pair) (s e i : Int), 0 ≤ i → sigIdx l s e i < 0 → sigIdx l s e i = -1
  | [], s, e, i, h0, h => rfl
  | x :: l, s, e, i, h0, h => by
    unfold sigIdx at h ⊢
    split at h
    · omega
    · rename_i hx
      rw [if_neg hx]
      exact sigIdx_neg l s e (i + 1) (by omega) h

theorem followF_large (n : Net) (home : Int) : ∀ (k : Nat) (r : Rt) (s e : Int) (f : Fd), f.lg = true → (followF n home k r s e f).lg = true
  | 0, _, _, _, _, h => h
  | k + 1, r, s, e, f, h => by unfold followF; rw [if_pos h]; exact h

theorem outG_large (n : Net) (home : Int) (k : Nat) (r : Rt) (t i : Int) : ∀ (l : List Int) (f : Fd), f.lg = true → (outG (followF n home k) n r t i l f).lg = true
  | [], f, h => h
  | o :: l, f, h => by
    unfold outG
    refine outG_large n home k r t i l _ ?_
    split
    · simp [endF, h]
    · exact followF_large n home k _ _ _ _ h

theorem eqv_step (n : Net) (fr home to : Int) (k : Nat) (p : List Stp) (t i : Int) (h1 : ¬ (t = home ∨ psec p t = true)) (h2 : ¬ 16 < p.length + 1)
    (ih : ∀ (o : Int) (f g : Fd), (joinL n.links t o).isSome = true → Eqv f g → Eqv (growF n fr home k (p ++ [⟨t, i, o⟩]) t o f) (followF n home (k + 1) ⟨fr, to, p ++ [⟨t, i, o⟩]⟩ t o g)) :
    ∀ (l : List Int) (f g : Fd), Eqv f g → Eqv (stepG (growF n fr home k) n fr home p (l.map fun o => ⟨t, i, o⟩) f) (outG (followF n home (k + 1)) n ⟨fr, to, p⟩ t i l g)
  | [], f, g, h => h
  | o :: l, f, g, h => by
    by_cases hf : f.lg = true
    · have hg : g.lg = true := by rw [← h.1]; exact hf
      have e1 : stepG (growF n fr home k) n fr home p ((o :: l).map fun o => ⟨t, i, o⟩) f = f := by
        simp only [List.map_cons, stepG, hf, if_true]
      rw [e1]
      have := outG_large n home (k + 1) ⟨fr, to, p⟩ t i (o :: l) g hg
      exact ⟨by rw [hf, this], fun hh => by rw [hf] at hh; cases hh⟩
    · have hf' : f.lg = false := by simpa using hf
      obtain ⟨r1, r2⟩ := h.2 hf'
      have hg' : g.lg = false := by rw [← h.1]; exact hf'
      rw [List.map_cons, stepG_cons, if_neg hf, if_neg h1, if_neg h2, outG_cons]
      by_cases hs : 0 ≤ sigIdx n.sigs t o 0
      · have hs2 : ¬ ((joinL n.links t o).isSome = true ∧ sigIdx n.sigs t o 0 < 0) := fun x => by omega
        rw [if_neg hs2, if_pos hs]
        refine eqv_step n fr home to k p t i h1 h2 ih l _ _ ⟨?_, fun _ => ⟨?_, ?_⟩⟩
        · simp only [countF, endF, hf', hg', r2]
        · simp [countF, endF, r1]
        · simp [countF, endF, r2]
      · rw [if_neg hs]
        have hm := sigIdx_neg n.sigs t o 0 (Int.le_refl 0) (by omega)
        by_cases hj : (joinL n.links t o).isSome = true
        · rw [if_pos ⟨hj, by show sigIdx n.sigs t o 0 < 0; omega⟩]
          exact eqv_step n fr home to k p t i h1 h2 ih l _ _ (ih o f g hj h)
        · rw [if_neg (fun x => hj x.1)]
          have hn : joinL n.links t o = none := by
            cases hc : joinL n.links t o with
            | none => rfl
            | some q => rw [hc] at hj; exact absurd rfl hj
          refine eqv_step n fr home to k p t i h1 h2 ih l _ _ ⟨?_, fun _ => ⟨?_, ?_⟩⟩
          · simp [followF, hg', hn, countF, endF, hf', r2]
          · simp [followF, hg', hn, countF, endF, r1, hm]
          · simp [followF, hg', hn, countF, endF, r2]

theorem outsF_ne (k e : Int) : outsF k e ≠ [] := by unfold outsF; split; simp; split <;> simp

theorem eqv_grow (n : Net) (fr home : Int) : ∀ (k : Nat) (p : List Stp) (s e to : Int) (f g : Fd), p.length ≤ 16 → 17 ≤ p.length + k → (joinL n.links s e).isSome = true → Eqv f g → Eqv (growF n fr home k p s e f) (followF n home (k + 1) ⟨fr, to, p⟩ s e g) := by
  intro k
  induction k with
  | zero => intro p s e to f g h1 h2; omega
  | succ k ih =>
    intro p s e to f g h1 h2 hj h
    obtain ⟨⟨t, i⟩, hti⟩ : ∃ q, joinL n.links s e = some q := Option.isSome_iff_exists.1 hj
    have hw : walkS n s e = (outsF (kindAt n t) i).map fun o => ⟨t, i, o⟩ := by unfold walkS; rw [hti]
    have hG : growF n fr home (k + 1) p s e f = stepG (growF n fr home k) n fr home p ((outsF (kindAt n t) i).map fun o => ⟨t, i, o⟩) f := by
      show stepG _ n fr home p (walkS n s e) f = _
      rw [hw]
    rw [hG]
    unfold followF
    by_cases hf : f.lg = true
    · have hg : g.lg = true := by rw [← h.1]; exact hf
      have e1 : stepG (growF n fr home k) n fr home p ((outsF (kindAt n t) i).map fun o => ⟨t, i, o⟩) f = f := by
        cases outsF (kindAt n t) i with
        | nil => rfl
        | cons o l => simp only [List.map_cons, stepG, hf, if_true]
      rw [e1, if_pos hg]
      exact h
    · have hf' : f.lg = false := by simpa using hf
      obtain ⟨r1, r2⟩ := h.2 hf'
      have hg' : g.lg = false := by rw [← h.1]; exact hf'
      rw [if_neg (by rw [hg']; simp), hti]
      simp only
      obtain ⟨o, l, hol⟩ : ∃ o l, outsF (kindAt n t) i = o :: l := by
        cases hc : outsF (kindAt n t) i with
        | nil => exact absurd hc (outsF_ne _ _)
        | cons o l => exact ⟨o, l, rfl⟩
      by_cases a1 : t = home ∨ psec p t = true
      · rw [if_pos a1, hol]
        rw [List.map_cons, stepG_cons, if_neg hf, if_pos a1]
        exact ⟨by simp only [countF, endF, hf', hg', r2], fun _ => ⟨by simp [countF, endF, r1], by simp [countF, endF, r2]⟩⟩
      · rw [if_neg a1]
        by_cases a2 : p.length = 16
        · have a2' : 16 < p.length + 1 := by omega
          rw [if_pos a2, hol]
          rw [List.map_cons, stepG_cons, if_neg hf, if_neg a1, if_pos a2']
          exact ⟨rfl, fun hh => by cases hh⟩
        · rw [if_neg a2]
          exact eqv_step n fr home to k p t i a1 (by omega) (fun o f g hj2 h3 => ih _ _ _ to f g (by simp; omega) (by simp; omega) hj2 h3) _ f g h
end Go.Proofs.Yteadhjclchjfjaa
