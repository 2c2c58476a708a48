/- Chains in plain Lean: both searches find the same. -/
import Derived.Test.YteadhjclchjfjaaL40
namespace Go.Proofs.Yteadhjclchjfjaa
set_option linter.unusedSimpArgs false
set_option linter.unusedVariables false
open Go.AB

def lastK (L : List Rt) (k : Int) : Int := ((rtAt L k).st.getD ((rtAt L k).st.length - 1) ⟨0, 0, 0⟩).s
theorem lastS_snoc (L : List Rt) (leg : List Int) (k : Int) : lastS L (leg ++ [k]) = lastK L k := by
  unfold lastS lastK
  have : (leg ++ [k]).getD ((leg ++ [k]).length - 1) 0 = k := by
    rw [List.getD_eq_getElem?_getD]
    simp
  rw [this]

section
variable (E : List Int → Int → Int) (LK : Int → Int) (to most : Int)
/-- The program's search: over the routes. -/
def chS (g : List Int → List (List Int) → List (List Int)) (leg : List Int) : List Int → List (List Int) → List (List Int)
  | [], out => out
  | k :: ks, out => if (out.length : Int) = most then out
    else if E leg k ≠ 0 then chS g leg ks out
    else if LK k = to then chS g leg ks (out ++ [leg ++ [k]])
    else if leg.length + 1 < 4 then chS g leg ks (g (leg ++ [k]) out) else chS g leg ks out
def chG (KS : List Int) : Nat → List Int → List (List Int) → List (List Int)
  | 0, _, out => out
  | d + 1, leg, out => chS E LK to most (chG KS d) leg KS out
/-- The reference's search: over the routes. -/
def rhS (g : List Int → List (List Int) → List (List Int)) (leg : List Int) : List Int → List (List Int) → List (List Int)
  | [], out => out
  | k :: ks, out => if 4 < leg.length + 1 ∨ (out.length : Int) = most ∨ E leg k ≠ 0 then rhS g leg ks out
    else rhS g leg ks (g (leg ++ [k]) (if LK k = to then out ++ [leg ++ [k]] else out))
def rhG (KS : List Int) : Nat → List Int → List (List Int) → List (List Int)
  | 0, _, out => out
  | d + 1, leg, out => rhS E LK to most (rhG KS d) leg KS out

variable {E LK to most}
theorem rhS_full {g : List Int → List (List Int) → List (List Int)} {leg : List Int} {out : List (List Int)} (h : (out.length : Int) = most ∨ 4 < leg.length + 1) : ∀ ks, rhS E LK to most g leg ks out = out
  | [] => rfl
  | k :: ks => by
    unfold rhS
    rw [if_pos (by rcases h with h | h; exact .inr (.inl h); exact .inl h)]
    exact rhS_full h ks
theorem rhG_dead {D : List Int → Prop} (hD : ∀ leg k, D leg → E leg k = 0 → LK k ≠ to ∧ D (leg ++ [k])) {KS : List Int} : ∀ (d : Nat) (leg : List Int) (out : List (List Int)), D leg → rhG E LK to most KS d leg out = out
  | 0, _, _, _ => rfl
  | d + 1, leg, out, h => by
    have key : ∀ ks, rhS E LK to most (rhG E LK to most KS d) leg ks out = out := by
      intro ks
      induction ks with
      | nil => rfl
      | cons k ks ih =>
        unfold rhS
        split
        · exact ih
        · rename_i hn
          have hE : E leg k = 0 := by
            cases Decidable.em (E leg k = 0) with
            | inl h => exact h
            | inr h => exact absurd (.inr (.inr h)) hn
          obtain ⟨h1, h2⟩ := hD leg k h hE
          rw [if_neg h1, rhG_dead hD d _ _ h2]
          exact ih
    exact key KS
theorem ch_eq {D : List Int → Prop} (hD : ∀ leg k, D leg → E leg k = 0 → LK k ≠ to ∧ D (leg ++ [k])) (hE : ∀ leg k, E leg k = 0 → LK k = to → D (leg ++ [k])) {KS : List Int} :
    ∀ (d : Nat) (leg : List Int) (out : List (List Int)), leg.length + d = 4 → rhG E LK to most KS (d + 1) leg out = chG E LK to most KS d leg out
  | 0, leg, out, h => rhS_full (.inr (by omega)) KS
  | d + 1, leg, out, h => by
    have key : ∀ ks out, rhS E LK to most (rhG E LK to most KS (d + 1)) leg ks out = chS E LK to most (chG E LK to most KS d) leg ks out := by
      intro ks
      induction ks with
      | nil => intro out; rfl
      | cons k ks ih =>
        intro out
        by_cases h1 : (out.length : Int) = most
        · rw [rhS_full (.inl h1)]
          unfold chS
          rw [if_pos h1]
        · by_cases h2 : E leg k = 0
          · unfold rhS chS
            rw [if_neg (by simp only [not_or]; exact ⟨by omega, h1, by simpa using h2⟩), if_neg h1, if_neg (show ¬ (E leg k ≠ 0) from by simpa using h2)]
            by_cases h3 : LK k = to
            · rw [if_pos h3, if_pos h3, rhG_dead hD _ _ _ (hE leg k h2 h3)]
              exact ih _
            · rw [if_neg h3, if_neg h3, ch_eq hD hE d (leg ++ [k]) out (by simp; omega), ih]
              split
              · rfl
              · have : d = 0 := by omega
                subst this
                rfl
          · unfold rhS chS
            rw [if_pos (.inr (.inr h2)), if_neg h1, if_pos h2]
            exact ih out
    exact key KS out
theorem chS_len {g : List Int → List (List Int) → List (List Int)} (hg : ∀ leg out, (out.length : Int) ≤ most → ((g leg out).length : Int) ≤ most) {leg : List Int} : ∀ (ks : List Int) (out : List (List Int)), (out.length : Int) ≤ most → ((chS E LK to most g leg ks out).length : Int) ≤ most
  | [], out, h => h
  | k :: ks, out, h => by
    unfold chS
    split
    · exact h
    · split
      · exact chS_len hg ks out h
      · split
        · exact chS_len hg ks _ (by simp only [List.length_append, List.length_singleton]; omega)
        · split
          · exact chS_len hg ks _ (hg _ _ h)
          · exact chS_len hg ks out h
theorem chG_len {KS : List Int} : ∀ (d : Nat) (leg : List Int) (out : List (List Int)), (out.length : Int) ≤ most → ((chG E LK to most KS d leg out).length : Int) ≤ most
  | 0, _, _, h => h
  | d + 1, leg, out, h => chS_len (fun leg out h => chG_len d leg out h) KS out h
theorem rhS_len {g : List Int → List (List Int) → List (List Int)} (hg : ∀ leg out, (out.length : Int) ≤ most → ((g leg out).length : Int) ≤ most) {leg : List Int} : ∀ (ks : List Int) (out : List (List Int)), (out.length : Int) ≤ most → ((rhS E LK to most g leg ks out).length : Int) ≤ most
  | [], out, h => h
  | k :: ks, out, h => by
    unfold rhS
    split
    · exact rhS_len hg ks out h
    · rename_i hn
      refine rhS_len hg ks _ (hg _ _ ?_)
      split
      · have : (out.length : Int) ≠ most := fun e => hn (.inr (.inl e))
        simp only [List.length_append, List.length_singleton]; omega
      · exact h
theorem rhG_len {KS : List Int} : ∀ (d : Nat) (leg : List Int) (out : List (List Int)), (out.length : Int) ≤ most → ((rhG E LK to most KS d leg out).length : Int) ≤ most
  | 0, _, _, h => h
  | d + 1, leg, out, h => rhS_len (fun leg out h => rhG_len d leg out h) KS out h
end

theorem legE_parts {n : Net} {L : List Rt} {N : List (List Nd)} {tr : Int} {leg : List Int} {k : Int} (h : legE n L N tr leg k = 0) : okR L k = true ∧ ∀ x ∈ (rtAt L k).st, x.s ≠ tr ∧ legP L leg x.s = false := by
  refine ⟨legE_ok h, ?_⟩
  unfold legE at h
  split at h
  · cases h
  · split at h
    · cases h
    · split at h
      · cases h
      · rename_i h3
        intro x hx
        have : ((rtAt L k).st.any fun x => decide (x.s = tr) || legP L leg x.s) = false := by simpa using h3
        have := List.any_eq_false.1 this x hx
        simpa using this
theorem lastK_mem {n : Net} {L : List Rt} (hok : ∀ r ∈ L, RtOk n r) {k : Int} (hk : okR L k = true) : ∃ x ∈ (rtAt L k).st, x.s = lastK L k := by
  obtain ⟨_, _, h⟩ := okR_at hk
  have h0 := (hok _ (List.mem_of_getElem? h)).l0
  unfold lastK
  generalize rtAt L k = r at *
  refine ⟨r.st.getD (r.st.length - 1) ⟨0, 0, 0⟩, ?_, rfl⟩
  rw [List.getD_eq_getElem?_getD, List.getElem?_eq_getElem (by omega)]
  exact List.getElem_mem _

def KSn (L : List Rt) : List Int := (List.range L.length).map fun (j : Nat) => (j : Int)
def chainsP (n : Net) (L : List Rt) (tr to most : Int) : List (List Int) := if tr = to then [] else chG (legE n L (L.map (needsR n)) tr) (lastK L) to most (KSn L) 4 [] []
def chainsR (n : Net) (L : List Rt) (tr to most : Int) : List (List Int) := rhG (legE n L (L.map (needsR n)) tr) (lastK L) to most (KSn L) 5 [] []
theorem chains_eq (n : Net) (L : List Rt) (hok : ∀ r ∈ L, RtOk n r) (tr to most : Int) : chainsR n L tr to most = chainsP n L tr to most := by
  have hD : ∀ (leg : List Int) (k : Int), (tr = to ∨ legP L leg to = true) → legE n L (L.map (needsR n)) tr leg k = 0 → lastK L k ≠ to ∧ (tr = to ∨ legP L (leg ++ [k]) to = true) := by
    intro leg k h hE
    obtain ⟨h1, h2⟩ := legE_parts hE
    obtain ⟨x, hx, hs⟩ := lastK_mem hok h1
    obtain ⟨h3, h4⟩ := h2 x hx
    refine ⟨fun e => ?_, ?_⟩
    · rw [← hs] at e
      rcases h with h | h
      · exact h3 (e.trans h.symm)
      · rw [e, h] at h4; cases h4
    · rcases h with h | h
      · exact .inl h
      · refine .inr ?_
        unfold legP at h ⊢
        rw [List.any_append, h, Bool.true_or]
  have hE : ∀ (leg : List Int) (k : Int), legE n L (L.map (needsR n)) tr leg k = 0 → lastK L k = to → (tr = to ∨ legP L (leg ++ [k]) to = true) := by
    intro leg k hE hl
    obtain ⟨h1, _⟩ := legE_parts hE
    obtain ⟨x, hx, hs⟩ := lastK_mem hok h1
    refine .inr ?_
    unfold legP
    rw [List.any_append]
    have : psec (rtAt L k).st to = true := by
      simp only [psec, List.any_eq_true, decide_eq_true_eq]
      exact ⟨x, hx, hs.trans hl⟩
    simp [this]
  unfold chainsR chainsP
  split
  · rename_i h
    exact rhG_dead hD _ _ _ (.inl h)
  · exact ch_eq hD hE 4 [] [] rfl
end Go.Proofs.Yteadhjclchjfjaa
