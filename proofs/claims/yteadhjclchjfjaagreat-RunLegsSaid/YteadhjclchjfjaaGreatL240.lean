/- Routes: what both searches find is one thing. -/
import Derived.Test.YteadhjclchjfjaaGreatL230
namespace Go.Proofs.YteadhjclchjfjaaGreat
set_option linter.unusedSimpArgs false
set_option linter.unusedVariables false
open Go.AB

structure Rt where
  (fr to : Int)
  st : List Stp
/-- What a search has found. -/
structure Fd where
  rs : List Rt
  ps : Int
  lg : Bool

def countF (f : Fd) : Fd := ⟨f.rs, f.ps + 1, f.lg || decide (80 < f.ps + 1)⟩
def walkS (n : Net) (s e : Int) : List Stp := match joinL n.links s e with
  | none => []
  | some (t, i) => (outsF (kindAt n t) i).map fun o => ⟨t, i, o⟩

/-- The program's search: over what comes next. -/
def stepG (g : List Stp → Int → Int → Fd → Fd) (n : Net) (fr home : Int) (p : List Stp) : List Stp → Fd → Fd
  | [], f => f
  | x :: r, f => if f.lg = true then f
    else if x.s = home ∨ psec p x.s = true then countF f
    else if 16 < p.length + 1 then ⟨f.rs, f.ps, true⟩
    else if (joinL n.links x.s x.o).isSome = true ∧ sigIdx n.sigs x.s x.o 0 < 0 then stepG g n fr home p r (g (p ++ [x]) x.s x.o f)
    else stepG g n fr home p r (countF ⟨f.rs ++ [⟨fr, sigIdx n.sigs x.s x.o 0, p ++ [x]⟩], f.ps, f.lg⟩)
def growF (n : Net) (fr home : Int) : Nat → List Stp → Int → Int → Fd → Fd
  | 0, _, _, _, f => f
  | k + 1, p, s, e, f => stepG (growF n fr home k) n fr home p (walkS n s e) f

def endF (f : Fd) (r : Rt) (b : Bool) : Fd := ⟨if b = true then f.rs ++ [r] else f.rs, f.ps + 1, f.lg || decide (80 < f.ps + 1)⟩
/-- The reference's search. -/
def outG (g : Rt → Int → Int → Fd → Fd) (n : Net) (r : Rt) (t i : Int) : List Int → Fd → Fd
  | [], f => f
  | o :: l, f => outG g n r t i l (if 0 ≤ sigIdx n.sigs t o 0 then endF f ⟨r.fr, sigIdx n.sigs t o 0, r.st ++ [⟨t, i, o⟩]⟩ true else g ⟨r.fr, r.to, r.st ++ [⟨t, i, o⟩]⟩ t o f)
def followF (n : Net) (home : Int) : Nat → Rt → Int → Int → Fd → Fd
  | 0, _, _, _, f => f
  | k + 1, r, s, e, f => if f.lg = true then f else match joinL n.links s e with
    | none => endF f ⟨r.fr, -1, r.st⟩ true
    | some (t, i) => if t = home ∨ psec r.st t = true then endF f r false
      else if r.st.length = 16 then ⟨f.rs, f.ps, true⟩
      else outG (followF n home k) n r t i (outsF (kindAt n t) i) f

theorem stepG_cons {g : List Stp → Int → Int → Fd → Fd} {n : Net} {fr home : Int} {p : List Stp} {x : Stp} {r : List Stp} {f : Fd} : stepG g n fr home p (x :: r) f = (if f.lg = true then f
    else if x.s = home ∨ psec p x.s = true then countF f
    else if 16 < p.length + 1 then ⟨f.rs, f.ps, true⟩
    else if (joinL n.links x.s x.o).isSome = true ∧ sigIdx n.sigs x.s x.o 0 < 0 then stepG g n fr home p r (g (p ++ [x]) x.s x.o f)
    else stepG g n fr home p r (countF ⟨f.rs ++ [⟨fr, sigIdx n.sigs x.s x.o 0, p ++ [x]⟩], f.ps, f.lg⟩)) := rfl
theorem outG_cons {g : Rt → Int → Int → Fd → Fd} {n : Net} {r : Rt} {t i o : Int} {l : List Int} {f : Fd} : outG g n r t i (o :: l) f = outG g n r t i l (if 0 ≤ sigIdx n.sigs t o 0 then endF f ⟨r.fr, sigIdx n.sigs t o 0, r.st ++ [⟨t, i, o⟩]⟩ true else g ⟨r.fr, r.to, r.st ++ [⟨t, i, o⟩]⟩ t o f) := rfl

/-- The same, or both too large. -/
def Eqv (f g : Fd) : Prop := f.lg = g.lg ∧ (f.lg = false → f.rs = g.rs ∧ f.ps = g.ps)

theorem sigIdx_neg : ∀ (l : List Pair) (s e i : Int), 0 ≤ i → sigIdx l s e i < 0 → sigIdx l s e i = -1
  | [], s, e, i, h0, h => rfl
  | x :: l, s, e, i, h0, h => by
    unfold sigIdx at h ⊢
    split at h
    · omega
    · rename_i hx
      rw [if_neg hx]
      exact sigIdx_neg l s e (i + 1) (by omega) h

theorem followF_large (n : Net) (home : Int) : ∀ (k : Nat) (r : Rt) (s e : Int) (f : Fd), f.lg = true → (followF n home k r s e f).lg = true
  | 0, _, _, _, _, h => h
  | k + 1, r, s, e, f, h => by unfold followF; rw [if_pos h]; exact h

theorem outG_large (n : Net) (home : Int) (k : Nat) (r : Rt) (t i : Int) : ∀ (l : List Int) (f : Fd), f.lg = true → (outG (followF n home k) n r t i l f).lg = true
  | [], f, h => h
  | o :: l, f, h => by
    unfold outG
    refine outG_large n home k r t i l _ ?_
    split
    · simp [endF, h]
    · exact followF_large n home k _ _ _ _ h

theorem eqv_step (n : Net) (fr home to : Int) (k : Nat) (p : List Stp) (t i : Int) (h1 : ¬ (t = home ∨ psec p t = true)) (h2 : ¬ 16 < p.length + 1)
    (ih : ∀ (o : Int) (f g : Fd), (joinL n.links t o).isSome = true → Eqv f g → Eqv (growF n fr home k (p ++ [⟨t, i, o⟩]) t o f) (followF n home (k + 1) ⟨fr, to, p ++ [⟨t, i, o⟩]⟩ t o g)) :
    ∀ (l : List Int) (f g : Fd), Eqv f g → Eqv (stepG (growF n fr home k) n fr home p (l.map fun o => ⟨t, i, o⟩) f) (outG (followF n home (k + 1)) n ⟨fr, to, p⟩ t i l g)
  | [], f, g, h => h
  | o :: l, f, g, h => by
    by_cases hf : f.lg = true
    · have hg : g.lg = true := by rw [← h.1]; exact hf
      have e1 : stepG (growF n fr home k) n fr home p ((o :: l).map fun o => ⟨t, i, o⟩) f = f := by
        simp only [List.map_cons, stepG, hf, if_true]
      rw [e1]
      have := outG_large n home (k + 1) ⟨fr, to, p⟩ t i (o :: l) g hg
      exact ⟨by rw [hf, this], fun hh => by rw [hf] at hh; cases hh⟩
    · have hf' : f.lg = false := by simpa using hf
      obtain ⟨r1, r2⟩ := h.2 hf'
      have hg' : g.lg = false := by rw [← h.1]; exact hf'
      rw [List.map_cons, stepG_cons, if_neg hf, if_neg h1, if_neg h2, outG_cons]
      by_cases hs : 0 ≤ sigIdx n.sigs t o 0
      · have hs2 : ¬ ((joinL n.links t o).isSome = true ∧ sigIdx n.sigs t o 0 < 0) := fun x => by omega
        rw [if_neg hs2, if_pos hs]
        refine eqv_step n fr home to k p t i h1 h2 ih l _ _ ⟨?_, fun _ => ⟨?_, ?_⟩⟩
        · simp only [countF, endF, hf', hg', r2]
        · simp [countF, endF, r1]
        · simp [countF, endF, r2]
      · rw [if_neg hs]
        have hm := sigIdx_neg n.sigs t o 0 (Int.le_refl 0) (by omega)
        by_cases hj : (joinL n.links t o).isSome = true
        · rw [if_pos ⟨hj, by show sigIdx n.sigs t o 0 < 0; omega⟩]
          exact eqv_step n fr home to k p t i h1 h2 ih l _ _ (ih o f g hj h)
        · rw [if_neg (fun x => hj x.1)]
          have hn : joinL n.links t o = none := by
            cases hc : joinL n.links t o with
            | none => rfl
            | some q => rw [hc] at hj; exact absurd rfl hj
          refine eqv_step n fr home to k p t i h1 h2 ih l _ _ ⟨?_, fun _ => ⟨?_, ?_⟩⟩
          · simp [followF, hg', hn, countF, endF, hf', r2]
          · simp [followF, hg', hn, countF, endF, r1, hm]
          · simp [followF, hg', hn, countF, endF, r2]

theorem outsF_ne (k e : Int) : outsF k e ≠ [] := by unfold outsF; split; simp; split <;> simp

theorem eqv_grow (n : Net) (fr home : Int) : ∀ (k : Nat) (p : List Stp) (s e to : Int) (f g : Fd), p.length ≤ 16 → 17 ≤ p.length + k → (joinL n.links s e).isSome = true → Eqv f g → Eqv (growF n fr home k p s e f) (followF n home (k + 1) ⟨fr, to, p⟩ s e g) := by
  intro k
  induction k with
  | zero => intro p s e to f g h1 h2; omega
  | succ k ih =>
    intro p s e to f g h1 h2 hj h
    obtain ⟨⟨t, i⟩, hti⟩ : ∃ q, joinL n.links s e = some q := Option.isSome_iff_exists.1 hj
    have hw : walkS n s e = (outsF (kindAt n t) i).map fun o => ⟨t, i, o⟩ := by unfold walkS; rw [hti]
    have hG : growF n fr home (k + 1) p s e f = stepG (growF n fr home k) n fr home p ((outsF (kindAt n t) i).map fun o => ⟨t, i, o⟩) f := by
      show stepG _ n fr home p (walkS n s e) f = _
      rw [hw]
    rw [hG]
    unfold followF
    by_cases hf : f.lg = true
    · have hg : g.lg = true := by rw [← h.1]; exact hf
      have e1 : stepG (growF n fr home k) n fr home p ((outsF (kindAt n t) i).map fun o => ⟨t, i, o⟩) f = f := by
        cases outsF (kindAt n t) i with
        | nil => rfl
        | cons o l => simp only [List.map_cons, stepG, hf, if_true]
      rw [e1, if_pos hg]
      exact h
    · have hf' : f.lg = false := by simpa using hf
      obtain ⟨r1, r2⟩ := h.2 hf'
      have hg' : g.lg = false := by rw [← h.1]; exact hf'
      rw [if_neg (by rw [hg']; simp), hti]
      simp only
      obtain ⟨o, l, hol⟩ : ∃ o l, outsF (kindAt n t) i = o :: l := by
        cases hc : outsF (kindAt n t) i with
        | nil => exact absurd hc (outsF_ne _ _)
        | cons o l => exact ⟨o, l, rfl⟩
      by_cases a1 : t = home ∨ psec p t = true
      · rw [if_pos a1, hol]
        rw [List.map_cons, stepG_cons, if_neg hf, if_pos a1]
        exact ⟨by simp only [countF, endF, hf', hg', r2], fun _ => ⟨by simp [countF, endF, r1], by simp [countF, endF, r2]⟩⟩
      · rw [if_neg a1]
        by_cases a2 : p.length = 16
        · have a2' : 16 < p.length + 1 := by omega
          rw [if_pos a2, hol]
          rw [List.map_cons, stepG_cons, if_neg hf, if_neg a1, if_pos a2']
          exact ⟨rfl, fun hh => by cases hh⟩
        · rw [if_neg a2]
          exact eqv_step n fr home to k p t i a1 (by omega) (fun o f g hj2 h3 => ih _ _ _ to f g (by simp; omega) (by simp; omega) hj2 h3) _ f g h
end Go.Proofs.YteadhjclchjfjaaGreat

/- Routes: what the search calls: stands, Clone, walk. -/
namespace Go.Proofs.YteadhjclchjfjaaGreat
set_option linter.unusedSimpArgs false
set_option linter.unusedVariables false
open Go.AB

theorem f114 (x : Stp) (s : Int) : PCall Tryz.prog 114 [eStp x, .ept [.int .i64 s]] (RV (.bool (decide (x.s = s)))) := by
  refine PCall.of_body Tryz.func114 rfl Tryz.ntmps114 (congrArg Array.toList Tryz.results114) ?_
  intro E
  simp only [go_sem, eStp]

/-- The place of a section in a path. -/
def idxP : List Stp → Int → Int → Int
  | [], _, _ => -1
  | x :: l, s, i => if x.s = s then i else idxP l s (i + 1)
theorem idxP_iff : ∀ {l : List Stp} {s : Int} {i : Int}, 0 ≤ i → (0 ≤ idxP l s i ↔ psec l s = true)
  | [], s, i, _ => by simp [idxP, psec]
  | x :: l, s, i, h => by
    have ih := idxP_iff (l := l) (s := s) (i := i + 1) (by omega)
    simp only [idxP, psec, List.any_cons] at ih ⊢
    by_cases hx : x.s = s
    · simp [hx, h]
    · simp only [hx, if_false, ih]; simp

set_option maxRecDepth 20000 in
theorem f130 (p : List Stp) (s : Int) (hl : p.length ≤ 5864062014634) : PCall Tryz.prog 130 [.sl 3 (p.map dStp) .no, .fn 114 [.ept [.int .i64 s]]] (RV (.int .i64 (idxP p s 0))) := by
  refine PCall.of_body Tryz.func130 rfl Tryz.ntmps130 (congrArg Array.toList Tryz.results130) ?_
  intro E
  simp only [go_sem]
  refine AW_loopH [4, 5, 8, 9, 10, 11, 12, 13, 14, 15, 16, 17, 18]
    (fun (i : Nat) ρ m => ρ 8 = .int .i64 (i : Int) ∧ i ≤ p.length ∧ idxP (p.drop i) s i = idxP p s 0 ∧ ∃ h nx lv, m = ⟨h, [], nx, lv⟩) (fun i => p.length - i) 0 ?_ ?_
  · simp [go_sem]
  rintro i ρ m ⟨e1, g1, g2, h, nx, lv, rfl⟩ Q hN hR hX
  by_cases hlt : i < p.length
  · obtain ⟨x, hx⟩ : ∃ x, p[i]? = some x := ⟨_, List.getElem?_eq_getElem hlt⟩
    have hxp : (p.map dStp)[i]? = some (dStp x) := by rw [List.getElem?_map, hx]; rfl
    have hlt' : ((i : Int) < (p.length : Int)) = True := by simp; omega
    have h0 : ((0 : Int) ≤ (i : Int)) = True := by simp
    have ew : IntKind.i64.wrap ((i : Int) + 1) = (i : Int) + 1 := i64_in (by omega) (by omega)
    have hd : p.drop i = x :: p.drop (i + 1) := by
      rw [List.drop_eq_getElem_cons hlt]
      rw [List.getElem?_eq_getElem hlt] at hx
      cases hx; rfl
    rw [hd] at g2
    simp only [idxP] at g2
    simp only [go_sem, e1, hlt', h0, hxp, dStp]
    refine callV (f114 x s) ?_
    intro nx2 lv2
    by_cases q : x.s = s
    · rw [if_pos q] at g2
      have q' : (x.s = s) = True := eq_true q
      simp only [go_sem, q', hR]
      exact g2
    · rw [if_neg q] at g2
      have q' : (x.s = s) = False := eq_false q
      simp only [go_sem, q', hN, ew]
      refine ⟨by kernel_rfl, i + 1, ?_, by simp only; omega⟩
      simp only [go_sem]
      exact ⟨by simp, by omega, by rw [← g2]; rfl, _, _, _, rfl⟩
  · have hlt' : ((i : Int) < (p.length : Int)) = False := by simp; omega
    rw [List.drop_eq_nil_of_le (by omega)] at g2
    simp only [idxP] at g2
    simp only [go_sem, e1, hlt', hX]
    exact g2

theorem f113 (p : List Stp) (s : Int) (hl : p.length ≤ 5864062014634) : PCall Tryz.prog 113 [.sl 3 (p.map dStp) .no, .fn 114 [.ept [.int .i64 s]]] (RV (.bool (psec p s))) := by
  refine PCall.of_body Tryz.func113 rfl Tryz.ntmps113 (congrArg Array.toList Tryz.results113) ?_
  intro E
  simp only [go_sem]
  refine callV (f130 p s hl) ?_
  intro nx lv
  have := idxP_iff (l := p) (s := s) (i := 0) (Int.le_refl 0)
  simp only [go_sem]
  cases hh : psec p s <;> simp [hh] at this ⊢ <;> omega

theorem f89 (p : List Stp) (s : Int) (hl : p.length ≤ 5864062014634) : PCall Tryz.prog 89 [.sl 3 (p.map dStp) .no, .int .i64 s] (RV (.bool (psec p s))) := by
  refine PCall.of_body Tryz.func89 rfl Tryz.ntmps89 (congrArg Array.toList Tryz.results89) ?_
  intro E
  simp only [go_sem]
  refine .inl (quiet (f113 p s hl) rfl ?_)
  simp only [go_sem]

/-- A slice of the callee's own, or nil. -/
def RT (z : Nat) (es : List DV) : AH → AV → Prop := fun m r => ∃ tok, r = .sl z es tok ∧ okT m tok
theorem callT {P : Go.Program} {k : Nat} {bs args : List AV} {σ : AS} {dst : Option Nat} {K : AS → Prop} {z : Nat} {es : List DV} (h : PCall P k bs (RT z es))
    (hK : ∀ tok nx2 lv2, σ.m.nx ≤ nx2 → (∀ j, σ.m.lv j → lv2 j) → (∀ i, tok = .own i → σ.m.nx ≤ i) → okT ⟨σ.m.h, σ.m.o, nx2, lv2⟩ tok → K (AS.put ⟨σ.s, ⟨σ.m.h, σ.m.o, nx2, lv2⟩⟩ dst (.sl z es tok))) : callX P k bs args σ dst K := by
  unfold callX
  refine .inl ⟨_, h, ?_⟩
  unfold callK
  rintro m' x ⟨tok, rfl, hok⟩ nx2 lv2 h1 h2 h3
  cases tok with
  | no => exact hok.elim
  | nil => exact hK .nil nx2 lv2 h1 h2 (fun i hi => by cases hi) trivial
  | own i => exact hK (.own (σ.m.nx + i)) nx2 lv2 h1 h2 (fun j hj => by cases hj; exact Nat.le_add_right _ _) (h3 i hok)

set_option maxRecDepth 20000 in
theorem f121 (p : List Stp) (hl : p.length ≤ 60) : PCall Tryz.prog 121 [.sl 3 (p.map dStp) .no] (RT 3 (p.map dStp)) := by
  refine PCall.of_body Tryz.func121 rfl Tryz.ntmps121 (congrArg Array.toList Tryz.results121) ?_
  intro E
  simp only [go_sem]
  intro b h1
  refine ⟨fun hb => ?_, fun _ => ?_⟩
  · by_cases hn : p.map dStp = []
    · rw [hn]
      first
        | exact ⟨.nil, rfl, trivial⟩
        | (refine ⟨rfl, ?_⟩; exact ⟨.nil, rfl, trivial⟩)
    · have := h1 hn
      rw [hb] at this
      cases this
  · exact ⟨.inl trivial, by omega, .own 1, rfl, .inl rfl⟩

theorem f119 (n : Net) (s e : Int) : PCall Tryz.prog 119 [eNet n, .agg [.int .i64 s, .int .i64 e]] (RV (.fn 135 [.ept [.sl 1 (n.names.map DV.str), .sl 7 (n.sects.map dSect), .sl 4 (n.links.map dLnk), .sl 2 (n.sigs.map dPair), .sl 2 (n.gates.map dPair)], .ept [.int .i64 s, .int .i64 e]])) := by
  refine PCall.of_bodyF Tryz.func119 rfl Tryz.ntmps119 (congrArg Array.toList Tryz.results119) ?_
  intro E _
  refine AW_of ?_
  simp only [go_sem, eNet, nCells]
  refine ⟨135, [(.own 2 0, [.sl 1 (n.names.map DV.str), .sl 7 (n.sects.map dSect), .sl 4 (n.links.map dLnk), .sl 2 (n.sigs.map dPair), .sl 2 (n.gates.map dPair)]), (.own 3 0, [.int .i64 s, .int .i64 e])], rfl, ?_, rfl⟩
  intro q hq
  simp at hq
  rcases hq with rfl | rfl
  · exact ⟨_, by simp [go_sem]; rfl, rfl⟩
  · exact ⟨_, by simp [go_sem]; rfl, rfl⟩

theorem netE_links {n : Net} (h : netE n = 0) : ∀ (i : Nat) l, n.links[i]? = some l → hasF n l.a l.ea = true ∧ hasF n l.b l.eb = true := by
  have hs : linksE n = 0 := by
    unfold netE at h
    split at h
    · cases h
    · split at h
      · cases h
      · split at h
        · rename_i h1; exact absurd h h1
        · split at h
          · rename_i h1; exact absurd h h1
          · split at h
            · rename_i h1; exact absurd h h1
            · rename_i h1
              simpa using h1
  intro i l hl
  have := firstE_zero (j := i) hs (Nat.zero_le _) (by have := (List.getElem?_eq_some_iff.1 hl).1; omega)
  unfold linkE at this
  rw [hl] at this
  simp only at this
  split at this
  · cases this
  · rename_i h2
    constructor
    · cases hc : hasF n l.a l.ea with
      | true => rfl
      | false => exact absurd (.inl hc) h2
    · cases hc : hasF n l.b l.eb with
      | true => rfl
      | false => exact absurd (.inr hc) h2
theorem joinL_has {n : Net} (h : netE n = 0) {s e t i : Int} (hj : joinL n.links s e = some (t, i)) : hasF n t i = true := by
  have key : ∀ L : List Lnk, (∀ l ∈ L, hasF n l.a l.ea = true ∧ hasF n l.b l.eb = true) → joinL L s e = some (t, i) → hasF n t i = true := by
    intro L
    induction L with
    | nil => intro _ h; cases h
    | cons l L ih =>
      intro hL hj
      have h1 := hL l (List.mem_cons_self ..)
      unfold joinL at hj
      split at hj
      · cases hj; exact h1.2
      · split at hj
        · cases hj; exact h1.1
        · exact ih (fun l hl => hL l (List.mem_cons_of_mem _ hl)) hj
  refine key n.links (fun l hl => ?_) hj
  obtain ⟨k, hk⟩ := List.getElem?_of_mem hl
  exact netE_links h k l hk

def walkX (n : Net) (s e : Int) : List (List AV) := (walkS n s e).map fun x => [eStp x]
def dNet (n : Net) : List DV := [.sl 1 (n.names.map DV.str), .sl 7 (n.sects.map dSect), .sl 4 (n.links.map dLnk), .sl 2 (n.sigs.map dPair), .sl 2 (n.gates.map dPair)]

set_option maxHeartbeats 4000000 in
set_option maxRecDepth 20000 in
theorem f135 (n : Net) (s e : Int) (hb : NetB n) (h : netE n = 0) : ICall Tryz.prog 135 [.ept (dNet n), .ept [.int .i64 s, .int .i64 e]] (walkX n s e) := by
  refine ICall.of_body Tryz.func135 rfl Tryz.ntmps135 (congrArg Array.toList Tryz.results135) ?_
  intro N Nx l J Jx hN hY m hm
  have hsc := hb.sc
  refine IW_pre hN rfl ?_
  intro E
  refine AW_of ?_
  simp only [go_sem, dNet]
  refine callV (f86 n s e hb) ?_
  intro nx lv
  simp only [go_sem, preK, sealS, sealV, List.map_cons, List.map_nil]
  intro nx2 lv2 hn2 hl2
  have hm2 : J 0 ⟨m.h, m.o, nx2, lv2⟩ := hY.1 0 _ _ _ _ _ _ hm hn2 hl2
  refine IW_seq hN ?_
  refine IW_ex hN ?_
  cases hj : joinL n.links s e with
  | none =>
    simp only [go_sem, hj, Option.isSome_none]
    have : (walkX n s e).length = 0 := by simp [walkX, walkS, hj]
    rw [this]
    exact hm2
  | some q =>
    obtain ⟨t, i⟩ := q
    simp only [go_sem, hj, Option.isSome_some]
    have hf := joinL_has h hj
    obtain ⟨⟨q1, q2⟩, q3, q4⟩ := hasF_iff.1 hf
    have hlt : t.toNat < n.sects.length := by omega
    obtain ⟨c, hc⟩ : ∃ c, n.sects[t.toNat]? = some c := ⟨_, List.getElem?_eq_getElem hlt⟩
    have hc2 : (n.sects.map dSect)[t.toNat]? = some (dSect c) := by rw [List.getElem?_map, hc]; rfl
    have hk : kindAt n t = c.kind := by simp [kindAt, hc]
    have i1 : ((0 : Int) ≤ t) = True := eq_true q1
    have i2 : (t < (n.sects.length : Int)) = True := eq_true (by omega)
    have jS : joinS (some (t, i)) = t := rfl
    have jE : joinE (some (t, i)) = i := rfl
    refine IW_seq hN (IW_of hN (drawn (by kernel_rfl) (by kernel_rfl) ?_))
    simp only [go_sem, i1, i2, hc2, jS, jE, dSect]
    refine quietD (f97 c.kind i) (fun _ => rfl) ?_
    simp only [go_sem, kDraw_eq]
    intro nx3 lv3 hn3 hl3
    have hm3 : J 0 ⟨m.h, m.o, nx3, lv3⟩ := hY.1 0 _ _ _ _ _ _ hm2 hn3 hl3
    refine IW_block (IW_loopH [7, 27, 28, 29, 30, 31, 32, 33, 34, 35, 36, 37, 38, 39, 40]
      (fun (k : Nat) ρ m' => ρ 27 = .int .i64 (k : Int) ∧ k ≤ (outsF c.kind i).length ∧ J k m') (fun k => (outsF c.kind i).length - k) 0 ?_ ?_)
    · simp [go_sem, hm3]
    rintro k ρ m' ⟨e27, g1, hJ⟩ Q' hN' hR hX
    refine IW_seq hN (IW_ex hN ?_)
    have hwl : (walkX n s e).length = (outsF c.kind i).length := by simp [walkX, walkS, hj, hk]
    by_cases hlt : k < (outsF c.kind i).length
    · have h1 : ((k : Int) < ((outsF c.kind i).length : Int)) = True := by simp; omega
      have h0 : ((0 : Int) ≤ (k : Int)) = True := by simp
      have hle := outsF_len c.kind i
      have ew : IntKind.i64.wrap ((k : Int) + 1) = (k : Int) + 1 := i64_in (by omega) (by omega)
      obtain ⟨o, ho⟩ : ∃ o, (outsF c.kind i)[k]? = some o := ⟨_, List.getElem?_eq_getElem hlt⟩
      have ho2 : ((outsF c.kind i).map fun x => DV.int .i64 x)[k]? = some (.int .i64 o) := by rw [List.getElem?_map, ho]; rfl
      have hxk : (walkX n s e)[k]? = some [eStp ⟨t, i, o⟩] := by simp [walkX, walkS, hj, hk, ho]
      simp only [go_sem, e27, h1]
      refine IW_seq hN (IW_ex hN ?_)
      simp only [go_sem]
      refine IW_seq hN (IW_block (IW_seq hN (IW_ex hN ?_)))
      simp only [go_sem, lInts, h0, h1, ho2]
      refine IW_seq hN (IW_yield (n := 7) (k := k) hN hY ?_)
      simp only [go_sem]
      refine ⟨_, _, _, rfl, rfl, by simp only [go_sem], ?_, hJ, ?_, ?_⟩
      · simp only [go_sem]
        exact hxk
      · intro m2 hJ2
        simp only [go_sem]
        refine IW_ex hN ?_
        simp only [go_sem]
        refine IW_ex hN ?_
        simp only [go_sem, hN', ew]
        refine ⟨by kernel_rfl, k + 1, ?_, by simp only; omega⟩
        simp only [go_sem]
        exact ⟨by simp, by omega, hJ2⟩
      · intro c' m2 hJ2
        simp only [go_sem]
        refine AW_of ?_
        simp only [go_sem]
        exact hJ2
    · have h1 : ((k : Int) < ((outsF c.kind i).length : Int)) = False := by simp; omega
      simp only [go_sem, e27, h1, hX]
      refine IW_seq hN (IW_ex hN ?_)
      simp only [go_sem, hX]
      have : k = (outsF c.kind i).length := by omega
      rw [hwl, ← this]
      exact hJ
end Go.Proofs.YteadhjclchjfjaaGreat

/- Routes: the search of the program. -/
namespace Go.Proofs.YteadhjclchjfjaaGreat
set_option linter.unusedSimpArgs false
set_option linter.unusedVariables false
open Go.AB

def dRt (r : Rt) : DV := .agg [.int .i64 r.fr, .int .i64 r.to, .sl 3 (r.st.map dStp)]
def fCells (n : Net) (f : Fd) (tok : Tok) : List AV := nCells n ++ [.sl 3 (f.rs.map dRt) tok, .int .i64 f.ps, .bool f.lg]
/-- What a search keeps to. -/
def FOk (f : Fd) : Prop := 0 ≤ f.ps ∧ f.ps ≤ 81 ∧ (f.lg = false → f.ps ≤ 80) ∧ (f.rs.length : Int) ≤ f.ps
theorem countF_ok {f : Fd} (h : FOk f) (hl : f.lg = false) : FOk (countF f) := by
  obtain ⟨h1, h2, h3, h4⟩ := h
  have := h3 hl
  refine ⟨by simp only [countF]; omega, by simp only [countF]; omega, fun h => ?_, by simp only [countF]; omega⟩
  simp only [countF, hl, Bool.false_or, decide_eq_false_iff_not] at h ⊢
  omega

/-- What a call of a function that counts comes to. -/
def outF1 (n : Net) (f : Fd) : AH → AV → Prop := fun m r => r = .tup [] ∧ ∃ tok, m.o = [fCells n f tok] ∧ okT m tok

set_option maxRecDepth 20000 in
theorem f120 (n : Net) (f : Fd) (tok : Tok) (nx : Nat) (lv : Nat → Prop) (h0 : 0 ≤ f.ps) (h1 : f.ps ≤ 1000) (hok : okT ⟨[], [fCells n f tok], nx, lv⟩ tok) :
    QCall Tryz.prog 120 ⟨[], [fCells n f tok], nx, lv⟩ [.ptr (.out 0) 0] (outF1 n (countF f)) := by
  refine QCall.of_body Tryz.func120 rfl Tryz.ntmps120 (congrArg Array.toList Tryz.results120) ?_
  intro E
  have ew : IntKind.i64.wrap (f.ps + 1) = f.ps + 1 := i64_in (by omega) (by omega)
  cases hl : f.lg with
  | true =>
    simp only [go_sem, fCells, nCells, List.cons_append, List.nil_append, ew, hl]
    exact ⟨rfl, tok, by simp [countF, fCells, nCells, hl], okT_mono hok fun _ x => x⟩
  | false =>
    simp only [go_sem, fCells, nCells, List.cons_append, List.nil_append, ew, hl]
    exact ⟨rfl, tok, by simp [countF, fCells, nCells, hl], okT_mono hok fun _ x => x⟩

theorem fCells_rn {r : AB.Loc → Option AB.Loc} {n : Net} {f : Fd} {tok : Tok} : rnCL r (fCells n f tok) = some (fCells n f tok) := by
  simp only [fCells, nCells, List.cons_append, List.nil_append, rnCL, rnC, port1]

theorem callF {k : Nat} {n : Net} {f g : Fd} {tok : Tok} {rest : List AV} {σ : AS} {dst : Option Nat} {K : AS → Prop} {l : AB.Loc}
    (h : QCall Tryz.prog k ⟨[], [fCells n f tok], σ.m.nx, σ.m.lv⟩ (.ptr (.out 0) 0 :: rest) (outF1 n g)) (hrest : ∀ f, rnAL f rest = some rest) (hc : σ.m.cells l = some (fCells n f tok))
    (hK : ∀ tok' nx2 lv2, okT ⟨[], [], nx2, lv2⟩ tok' → K (AS.put ⟨σ.s, ⟨(σ.m.setCells l (fCells n g tok')).h, (σ.m.setCells l (fCells n g tok')).o, nx2, lv2⟩⟩ dst (.tup []))) :
    effX Tryz.prog k (.ptr l 0 :: rest) σ dst K := by
  refine effH [l] (css := [fCells n f tok]) ?_ ?_ ?_ (.one l) h ?_
  · simp only [rnAL, rnA, rnC, outF, idxL, if_true, hrest]
  · simp only [cellsL, hc]
  · simp only [rnLL, fCells_rn]
  · rintro m' r ⟨rfl, tok', ho, hok⟩
    refine ⟨[fCells n g tok'], .tup [], ?_, rfl, rfl, ?_⟩
    · rw [ho]
      simp only [rnLL, fCells_rn]
    · exact hK tok' _ _ (okT_mono hok fun _ x => x)
end Go.Proofs.YteadhjclchjfjaaGreat

/- Routes: the program's search. -/
namespace Go.Proofs.YteadhjclchjfjaaGreat
set_option linter.unusedSimpArgs false
set_option linter.unusedVariables false
open Go.AB

theorem stepG_ok {g : List Stp → Int → Int → Fd → Fd} {n : Net} {fr home : Int} {p : List Stp} (hg : ∀ q s e f, FOk f → FOk (g q s e f)) : ∀ (l : List Stp) (f : Fd), FOk f → FOk (stepG g n fr home p l f)
  | [], f, h => h
  | x :: l, f, h => by
    rw [stepG_cons]
    split
    · exact h
    · rename_i hl
      have hl : f.lg = false := by simpa using hl
      split
      · exact countF_ok h hl
      · split
        · obtain ⟨h1, h2, h3, h4⟩ := h
          exact ⟨h1, h2, (fun hh => by cases hh), h4⟩
        · split
          · exact stepG_ok hg l _ (hg _ _ _ _ h)
          · refine stepG_ok hg l _ ?_
            obtain ⟨h1, h2, h3, h4⟩ := h
            have h3 := h3 hl
            refine ⟨by simp only [countF]; omega, by simp only [countF]; omega, fun h => ?_, by simp only [countF, List.length_append, List.length_singleton]; omega⟩
            simp only [countF, hl, Bool.false_or, decide_eq_false_iff_not] at h ⊢
            omega
theorem growF_ok {n : Net} {fr home : Int} : ∀ (k : Nat) (p : List Stp) (s e : Int) (f : Fd), FOk f → FOk (growF n fr home k p s e f)
  | 0, _, _, _, _, h => h
  | k + 1, p, s, e, f, h => stepG_ok (fun q s e f h => growF_ok k q s e f h) _ _ h

/-- What a search's round keeps to; how it stops. -/
def JG (n : Net) (fr : Nat) (home : Int) (k : Nat) (p : List Stp) (tk : Tok) (W : List Stp) (F : Fd) (j : Nat) (m : AH) : Prop :=
  ∃ h nx lv tok fk, m = ⟨h, [fCells n fk tok], nx, lv⟩ ∧ AB.hget h 4 = some (0, [.ptr (.out 0) 0]) ∧ AB.hget h 5 = some (0, [.int .i64 fr]) ∧ AB.hget h 6 = some (0, [.sl 3 (p.map dStp) tk]) ∧ AB.hget h 8 = some (0, [.int .i64 home]) ∧ okT m tok ∧ FOk fk ∧
        stepG (growF n fr home k) n fr home p (W.drop j) fk = F
def XG (n : Net) (F : Fd) (c : Code) (m : AH) : Prop := c = .ret ∧ ∃ h nx lv tok, m = ⟨h, [fCells n F tok], nx, lv⟩ ∧ okT m tok
theorem XG_ret {n : Net} {f F : Fd} (hF : f = F) {h : List (Nat × Nat × List AV)} {nx : Nat} {lv : Nat → Prop} {tok : Tok} (hok : okT ⟨h, [fCells n f tok], nx, lv⟩ tok) : XG n F .ret ⟨h, [fCells n f tok], nx, lv⟩ := by
  subst hF; exact ⟨rfl, _, _, _, tok, rfl, hok⟩
theorem JG_next {n : Net} {fr : Nat} {home : Int} {k : Nat} {p : List Stp} {tk : Tok} {W : List Stp} {F f : Fd} {j : Nat} {h : List (Nat × Nat × List AV)} {nx : Nat} {lv : Nat → Prop} {tok : Tok} (b4 : AB.hget h 4 = some (0, [.ptr (.out 0) 0])) (b5 : AB.hget h 5 = some (0, [.int .i64 fr])) (b6 : AB.hget h 6 = some (0, [.sl 3 (p.map dStp) tk])) (b8 : AB.hget h 8 = some (0, [.int .i64 home]))
    (hok : okT ⟨h, [fCells n f tok], nx, lv⟩ tok) (hf : FOk f) (hF : stepG (growF n fr home k) n fr home p (W.drop j) f = F) : JG n fr home k p tk W F j ⟨h, [fCells n f tok], nx, lv⟩ := ⟨_, _, _, tok, f, rfl, b4, b5, b6, b8, hok, hf, hF⟩

set_option maxHeartbeats 4000000 in
set_option maxRecDepth 20000 in
theorem f92 (n : Net) (hb : NetB n) (he : netE n = 0) (fr : Nat) (sg : Pair) (hsg : n.sigs[fr]? = some sg) : ∀ (k : Nat) (p : List Stp) (tk : Tok) (s e : Int) (f : Fd) (tok : Tok) (nx : Nat) (lv : Nat → Prop), p.length ≤ 16 → 17 ≤ p.length + k → FOk f → okT ⟨[], [fCells n f tok], nx, lv⟩ tok →
    QCall Tryz.prog 92 ⟨[], [fCells n f tok], nx, lv⟩ [.ptr (.out 0) 0, .int .i64 fr, .sl 3 (p.map dStp) tk, .agg [.int .i64 s, .int .i64 e]] (outF1 n (growF n fr sg.s k p s e f)) := by
  intro k
  induction k with
  | zero => intro p tk s e f tok nx lv h1 h2; omega
  | succ k ih =>
    intro p tk s e f tok nx lv h1 h2 hf hok
    refine QCall.of_bodyR Tryz.func92 rfl Tryz.ntmps92 (congrArg Array.toList Tryz.results92) ?_
    intro E hE
    refine AW_seq (AW_of ?_)
    simp only [go_sem, fCells, nCells, List.cons_append, List.nil_append]
    have hlt : fr < n.sigs.length := (List.getElem?_eq_some_iff.1 hsg).1
    have i0 : ((0 : Int) ≤ (fr : Int)) = True := by simp
    have i1 : ((fr : Int) < (n.sigs.length : Int)) = True := by simp; omega
    have hs2 : (n.sigs.map dPair)[fr]? = some (dPair sg) := by rw [List.getElem?_map, hsg]; rfl
    refine AW_seq ?_
    refine drawnP [2, 2, 2, 2, 2, 2, 2, 2, 2, 3, 1] [(9, [2, 2, 2, 2, 2, 2, 2, 2, 2, 0, 3]), (10, [0, 0, 0, 0, 0, 0, 0, 0, 0, 0, 0])] 103 (by kernel_rfl) (by kernel_rfl) (by kernel_rfl) (by kernel_rfl) rfl ?_
    simp only [go_sem, i0, i1, hs2, dPair]
    intro nx1 lv1 hn1 hl1 nx2 lv2 hn2 hl2 nx3 lv3 hn3 hl3
    refine AW_seq (drawn (by kernel_rfl) (by kernel_rfl) ?_)
    simp only [go_sem]
    refine quietD (f119 n s e) (fun _ => rfl) ?_
    simp only [go_sem, kDraw_eq]
    intro nx4 lv4 hn4 hl4
    refine AW_block (AW_range hE (by simp only [go_sem]; rfl) bodyOk_135 (f135 n s e hb he) ?_
      (JG n fr sg.s k p tk (walkS n s e) (growF n fr sg.s (k + 1) p s e f)) (XG n (growF n fr sg.s (k + 1) p s e f)) ?_ ?_ ?_ ?_ ?_)
    · intro x hx
      simp only [walkX, List.mem_map] at hx
      obtain ⟨_, _, rfl⟩ := hx
      rfl
    · rintro j h0 o0 nx0 lv0 nx1 lv1 ⟨h, nx2, lv2, tok, fk, e, b4, b5, b6, b8, hok, g1, g2⟩ _ hl
      cases e
      exact ⟨_, _, _, tok, fk, rfl, b4, b5, b6, b8, okT_mono hok (fun j x => hl j x), g1, g2⟩
    · exact ⟨_, _, _, tok, f, rfl, by simp [go_sem], by simp [go_sem], by simp [go_sem], by simp [go_sem], okT_mono hok (fun j x => hl4 j (hl3 j (hl2 j (hl1 j x)))), hf, rfl⟩
    · rintro j x m' hx ⟨h, nx5, lv5, tok', fk, rfl, b4, b5, b6, b8, hok', g1, g2⟩ E1
      simp only [walkX, List.getElem?_map] at hx
      obtain ⟨y, hy, rfl⟩ := Option.map_eq_some_iff.1 hx
      have hd : (walkS n s e).drop j = y :: (walkS n s e).drop (j + 1) := by
        have hlt := (List.getElem?_eq_some_iff.1 hy).1
        rw [List.drop_eq_getElem_cons hlt]
        rw [List.getElem?_eq_getElem hlt] at hy
        cases hy; rfl
      rw [hd, stepG_cons] at g2
      refine AW_of ?_
      simp only [go_sem, eStp]
      intro E2
      generalize hgn : genO (AB.hget h 9) = gn
      obtain ⟨h1, hh1⟩ : ∃ h1, AB.hset (AB.hset h 9 gn [.int .i64 0, .int .i64 0, .int .i64 0]) 9 gn [.int .i64 y.s, .int .i64 y.i, .int .i64 y.o] = h1 := ⟨_, rfl⟩
      have c4 : AB.hget h1 4 = some (0, [.ptr (.out 0) 0]) := by rw [← hh1]; simp [go_sem, b4]
      have c5 : AB.hget h1 5 = some (0, [.int .i64 fr]) := by rw [← hh1]; simp [go_sem, b5]
      have c6 : AB.hget h1 6 = some (0, [.sl 3 (p.map dStp) tk]) := by rw [← hh1]; simp [go_sem, b6]
      have c8 : AB.hget h1 8 = some (0, [.int .i64 sg.s]) := by rw [← hh1]; simp [go_sem, b8]
      have c9 : AB.hget h1 9 = some (gn, [.int .i64 y.s, .int .i64 y.i, .int .i64 y.o]) := by rw [← hh1]; simp [go_sem]
      rw [hh1]
      generalize growF n fr sg.s (k + 1) p s e f = F at g2 ⊢
      clear hh1 hgn b4 b5 b6 b8
      refine AW_lt fun hlt5 => ?_
      simp only at hlt5
      refine AW_block (AW_seq (AW_of ?_))
      simp only [go_sem, c4, fCells, nCells, List.cons_append, List.nil_append]
      refine ⟨fun hlg => ?_, fun hlg => ?_⟩
      · rw [if_pos hlg] at g2
        exact XG_ret (f := fk) (tok := tok') g2 (okT_mono hok' fun _ x => x)
      rw [if_neg (by rw [hlg]; simp)] at g2
      refine AW_seq (AW_seq (AW_of ?_))
      simp only [go_sem, c9, c8, c6]
      have hps := g1.2.2.1 hlg
      have hps0 := g1.1
      have hrl := g1.2.2.2
      refine ⟨fun q => ?_, fun q => ?_⟩
      · rw [if_pos (.inl q)] at g2
        refine AW_of ?_
        simp only [go_sem, c4]
        refine .inr (callF (f120 n fk tok' nx5 lv5 hps0 (by omega) (okT_mono hok' fun _ x => x)) (fun _ => rfl) rfl ?_)
        intro tok2 nx6 lv6 hok2
        simp only [go_sem]
        exact XG_ret g2 (okT_mono hok2 fun _ x => x)
      · refine callVt (f89 p y.s (by omega)) ?_
        intro nx6 lv6 hn6 hl6
        have hok6 := okT_mono (h' := h1) (o' := [fCells n fk tok']) (nx' := nx6) hok' hl6
        cases hpy : psec p y.s with
        | true =>
          rw [if_pos (.inr hpy)] at g2
          simp only [go_sem]
          refine AW_of ?_
          simp only [go_sem, c4]
          refine .inr (callF (f120 n fk tok' nx6 lv6 hps0 (by omega) (okT_mono hok6 fun _ x => x)) (fun _ => rfl) rfl ?_)
          intro tok2 nx7 lv7 hok2
          simp only [go_sem]
          exact XG_ret g2 (okT_mono hok2 fun _ x => x)
        | false =>
          rw [if_neg (by simp only [hpy]; simpa using q)] at g2
          simp only [go_sem]
          refine AW_of ?_
          simp only [go_sem]
          refine AW_seq ?_
          refine drawnP [2, 3, 2, 2, 1, 1] [(1, [0, 0, 2, 2, 3, 1]), (4, [0, 0, 0, 0, 0, 2])] 103 (by kernel_rfl) (by kernel_rfl) (by kernel_rfl) (by kernel_rfl) rfl ?_
          simp only [go_sem, c6, c9]
          intro nx7 lv7 hn7 hl7
          refine callT (f121 p (by omega)) ?_
          intro tc nx8 lv8 hn8 hl8 hnew hokc
          simp only [go_sem, c6, c9]
          intro nx9 lv9 hn9 hl9
          refine ⟨okT_mono hokc hl9, by omega, ?_⟩
          intro nx10 lv10 hn10 hl10
          have hok10 : okT ⟨h1, [fCells n fk tok'], nx10, lv10⟩ tok' := by
            cases tok' with
            | no => exact hok'
            | nil => trivial
            | own i =>
              have h5 : lv5 i := hok'
              refine hl10 i (.inr ⟨hl9 i (hl8 i (hl7 i (hl6 i h5))), fun hc => ?_⟩)
              have := hnew i hc
              have := hlt5 i h5
              simp only at *
              omega
          have how : okT ⟨h1, [fCells n fk tok'], nx10, lv10⟩ (.own nx9) := hl10 nx9 (.inl rfl)
          have hway : p.map dStp ++ [DV.agg [.int .i64 y.s, .int .i64 y.i, .int .i64 y.o]] = (p ++ [y]).map dStp := by simp [dStp]
          rw [hway]
          refine AW_seq (AW_seq (AW_of ?_))
          simp only [go_sem]
          refine AW_of ?_
          simp only [go_sem, c4]
          refine ⟨fun h16 => ?_, fun h16 => ?_⟩
          · rw [if_pos (by simp only [List.length_append, List.length_singleton] at h16; omega)] at g2
            exact XG_ret (f := ⟨fk.rs, fk.ps, true⟩) (tok := tok') g2 (okT_mono hok10 fun _ x => x)
          have hl16 : ¬ 16 < p.length + 1 := by simp only [List.length_append, List.length_singleton] at h16; omega
          rw [if_neg hl16] at g2
          obtain ⟨g11, hg11⟩ : ∃ g11, genO (AB.hget h1 11) = g11 := ⟨_, rfl⟩
          refine AW_seq (AW_of ?_)
          simp only [go_sem, c9, hg11]
          obtain ⟨h2, hh2⟩ : ∃ h2, AB.hset (AB.hset h1 11 g11 [.int .i64 0, .int .i64 0]) 11 g11 [.int .i64 y.s, .int .i64 y.o] = h2 := ⟨_, rfl⟩
          have d4 : AB.hget h2 4 = some (0, [.ptr (.out 0) 0]) := by rw [← hh2]; simp [go_sem, c4]
          have d5 : AB.hget h2 5 = some (0, [.int .i64 fr]) := by rw [← hh2]; simp [go_sem, c5]
          have d6 : AB.hget h2 6 = some (0, [.sl 3 (p.map dStp) tk]) := by rw [← hh2]; simp [go_sem, c6]
          have d8 : AB.hget h2 8 = some (0, [.int .i64 sg.s]) := by rw [← hh2]; simp [go_sem, c8]
          have d11 : AB.hget h2 11 = some (g11, [.int .i64 y.s, .int .i64 y.o]) := by rw [← hh2]; simp [go_sem]
          rw [hh2]
          clear hh2 hg11
          refine AW_seq (drawn (by kernel_rfl) (by kernel_rfl) ?_)
          simp only [go_sem, d4, d11]
          refine quietD (f122 n y.s y.o hb) (fun _ => rfl) ?_
          simp only [go_sem, kDraw_eq]
          intro nx11 lv11 hn11 hl11
          refine AW_seq (AW_seq ?_)
          refine drawnP [2, 2, 2, 2, 2, 2, 2, 2, 2, 3, 1, 1] [(9, [2, 2, 2, 2, 2, 2, 2, 2, 2, 0, 3, 1]), (10, [0, 0, 0, 0, 0, 0, 0, 0, 2, 0, 0, 2])] 103 (by kernel_rfl) (by kernel_rfl) (by kernel_rfl) (by kernel_rfl) rfl ?_
          simp only [go_sem, d4, d11]
          refine quietD (f86 n y.s y.o hb) (fun _ => rfl) ?_
          obtain ⟨g13, hg13⟩ : ∃ g13, genO (AB.hget h2 13) = g13 := ⟨_, rfl⟩
          simp only [go_sem, d4, d11, hg13]
          intro nx12 lv12 hn12 hl12
          refine quietD (f86 n y.s y.o hb) (fun _ => rfl) ?_
          simp only [go_sem, d4, d11]
          intro nx13 lv13 hn13 hl13 nx14 lv14 hn14 hl14
          obtain ⟨h3, hh3⟩ : ∃ h3, AB.hset (AB.hset h2 13 g13 [.int .i64 0, .int .i64 0]) 13 g13 [.int .i64 (joinS (joinL n.links y.s y.o)), .int .i64 (joinE (joinL n.links y.s y.o))] = h3 := ⟨_, rfl⟩
          have e4 : AB.hget h3 4 = some (0, [.ptr (.out 0) 0]) := by rw [← hh3]; simp [go_sem, d4]
          have e5 : AB.hget h3 5 = some (0, [.int .i64 fr]) := by rw [← hh3]; simp [go_sem, d5]
          have e6 : AB.hget h3 6 = some (0, [.sl 3 (p.map dStp) tk]) := by rw [← hh3]; simp [go_sem, d6]
          have e8 : AB.hget h3 8 = some (0, [.int .i64 sg.s]) := by rw [← hh3]; simp [go_sem, d8]
          have e11 : AB.hget h3 11 = some (g11, [.int .i64 y.s, .int .i64 y.o]) := by rw [← hh3]; simp [go_sem, d11]
          rw [hh3]
          clear hh3 hg13
          have hok14 : okT ⟨h3, [fCells n fk tok'], nx14, lv14⟩ tok' := okT_mono hok10 fun j x => hl14 j (hl13 j (hl12 j (hl11 j x)))
          have how14 : okT ⟨h3, [fCells n fk tok'], nx14, lv14⟩ (.own nx9) := okT_mono how fun j x => hl14 j (hl13 j (hl12 j (hl11 j x)))
          refine AW_seq (AW_of ?_)
          simp only [go_sem, e4, e5, e11]
          by_cases hc : (joinL n.links y.s y.o).isSome = true ∧ sigIdx n.sigs y.s y.o 0 < 0
          · rw [if_pos hc] at g2
            refine ⟨fun hj => ?_, fun hj => absurd hc.1 (by rw [hj]; simp)⟩
            have hs : (sigIdx n.sigs y.s y.o 0 < 0) = True := eq_true hc.2
            refine AW_of ?_
            simp only [go_sem, hs, e4, e5, e11]
            refine .inr (callF (ih (p ++ [y]) (.own nx9) y.s y.o fk tok' nx14 lv14 (by simp only [List.length_append, List.length_singleton]; omega) (by simp only [List.length_append, List.length_singleton]; omega) g1 (okT_mono hok14 fun _ x => x)) (fun _ => rfl) rfl ?_)
            intro tok2 nx15 lv15 hok2
            simp only [go_sem]
            exact JG_next e4 e5 e6 e8 (okT_mono hok2 fun _ x => x) (growF_ok _ _ _ _ _ g1) g2
          · rw [if_neg hc] at g2
            refine ⟨fun hj => ?_, fun hj => ?_⟩
            all_goals
              refine AW_of ?_
              first
                | (have hs : (sigIdx n.sigs y.s y.o 0 < 0) = False := eq_false fun x => hc ⟨hj, x⟩
                   simp only [go_sem, hs])
                | simp only [go_sem]
              refine AW_seq ?_
              refine drawnP [2, 2, 2, 2, 2, 2, 2, 2, 2, 2, 3, 1, 1, 1] [(10, [2, 0, 0, 0, 0, 0, 0, 0, 0, 0, 0, 2, 2, 3]), (13, [0, 0, 0, 0, 0, 0, 0, 0, 0, 0, 0, 0, 0, 0])] 103 (by kernel_rfl) (by kernel_rfl) (by kernel_rfl) (by kernel_rfl) rfl ?_
              simp only [go_sem, e4, e5]
              intro nx15 lv15 hn15 hl15
              refine ⟨okT_mono hok14 hl15, by omega, ?_⟩
              intro nx16 lv16 hn16 hl16' nx17 lv17 hn17 hl17
              have hrt : fk.rs.map dRt ++ [DV.agg [.int .i64 fr, .int .i64 (sigIdx n.sigs y.s y.o 0), .sl 3 ((p ++ [y]).map dStp)]] = (fk.rs ++ [(⟨fr, sigIdx n.sigs y.s y.o 0, p ++ [y]⟩ : Rt)]).map dRt := by simp [dRt]
              refine AW_of ?_
              simp only [go_sem, e4, hrt]
              refine .inr (callF (f120 n ⟨fk.rs ++ [(⟨fr, sigIdx n.sigs y.s y.o 0, p ++ [y]⟩ : Rt)], fk.ps, fk.lg⟩ (.own nx15) nx17 lv17 hps0 (by simp only; omega) (hl17 _ (hl16' _ (.inl rfl)))) (fun _ => rfl) rfl ?_)
              intro tok2 nx18 lv18 hok2
              simp only [go_sem]
              refine JG_next e4 e5 e6 e8 (okT_mono hok2 fun _ x => x) ?_ g2
              refine ⟨by simp only [countF]; omega, by simp only [countF]; omega, fun h => ?_, by simp only [countF, List.length_append, List.length_singleton]; omega⟩
              simp only [countF, hlg, Bool.false_or, decide_eq_false_iff_not] at h ⊢
              omega
    · rintro m' ⟨h, nx5, lv5, tok', fk, rfl, b4, b5, b6, b8, hok', g1, g2⟩
      rw [List.drop_eq_nil_of_le (by simp [walkX])] at g2
      simp only [go_sem]
      refine ⟨rfl, tok', ?_, hok'⟩
      rw [← g2]
      rfl
    · rintro c m' ⟨rfl, h, nx5, lv5, tok', rfl, hok'⟩
      simp only [go_sem]
      exact ⟨rfl, tok', rfl, hok'⟩
end Go.Proofs.YteadhjclchjfjaaGreat

/- Routes: the program's. -/
namespace Go.Proofs.YteadhjclchjfjaaGreat
set_option linter.unusedSimpArgs false
set_option linter.unusedVariables false
open Go.AB

/-- Both searches, over the signals. -/
def growAll (n : Net) : List Pair → Int → Fd → Fd
  | [], _, f => f
  | x :: l, i, f => growAll n l (i + 1) (growF n i x.s 17 [] x.s x.e f)
def routesF (n : Net) : Fd := growAll n n.sigs 0 ⟨[], 0, false⟩
def routesV (f : Fd) : AV := if f.lg = true then .tup [.sl 3 [] .no, .int .i64 4] else .tup [.sl 3 (f.rs.map dRt) .no, .int .i64 0]

set_option maxHeartbeats 4000000 in
set_option maxRecDepth 20000 in
theorem f55 (n : Net) (hb : NetB n) (he : netE n = 0) : PCall Tryz.prog 55 [eNet n] (RV (routesV (routesF n))) := by
  have hsg := hb.sg
  refine PCall.of_bodyE Tryz.func55 rfl Tryz.ntmps55 (congrArg Array.toList Tryz.results55) ?_
  intro E
  simp only [go_sem, eNet, nCells]
  refine AW_loopH [5, 6, 13, 14, 15, 16, 17, 18, 19, 20, 21, 22, 23, 24, 25, 26]
    (fun (i : Nat) ρ m => ρ 13 = .int .i64 (i : Int) ∧ i ≤ n.sigs.length ∧ ∃ h nx lv tok f, m = ⟨h, [], nx, lv⟩ ∧ AB.hget h 1 = some (0, nCells n) ∧ AB.hget h 9 = some (0, fCells n f tok) ∧ okT m tok ∧ FOk f ∧ growAll n (n.sigs.drop i) i f = routesF n) (fun i => n.sigs.length - i) 0 ?_ ?_
  · simp only [go_sem]
    refine ⟨Nat.zero_le _, _, _, _, .nil, ⟨[], 0, false⟩, rfl, ?_, ?_, trivial, ⟨by simp, by simp, by simp, by simp⟩, rfl⟩
    · simp [go_sem, nCells]
    · simp [go_sem, fCells, nCells]
  rintro i ρ m ⟨e13, g1, h, nx, lv, tok, f, rfl, b1, b9, hok, hf, g2⟩ Q hN hR hX
  by_cases hlt : i < n.sigs.length
  · obtain ⟨x, hx⟩ : ∃ x, n.sigs[i]? = some x := ⟨_, List.getElem?_eq_getElem hlt⟩
    have hxp : (n.sigs.map dPair)[i]? = some (dPair x) := by rw [List.getElem?_map, hx]; rfl
    have hlt' : ((i : Int) < (n.sigs.length : Int)) = True := by simp; omega
    have h0 : ((0 : Int) ≤ (i : Int)) = True := by simp
    have ew : IntKind.i64.wrap ((i : Int) + 1) = (i : Int) + 1 := i64_in (by omega) (by omega)
    have hd : n.sigs.drop i = x :: n.sigs.drop (i + 1) := by
      rw [List.drop_eq_getElem_cons hlt]
      rw [List.getElem?_eq_getElem hlt] at hx
      cases hx; rfl
    rw [hd] at g2
    simp only [growAll] at g2
    simp only [go_sem, e13, hlt', h0, hxp, dPair]
    refine .inr (callF (l := .own 9 0) (f92 n hb he i x hx 17 [] .nil x.s x.e f tok nx lv (by simp) (by simp) hf (okT_mono hok fun _ x => x)) (fun _ => rfl) (by simp [go_sem, AH.cells, b9]) ?_)
    intro tok2 nx2 lv2 hok2
    simp only [go_sem, hN, ew]
    refine ⟨by kernel_rfl, i + 1, ?_, by simp only; omega⟩
    simp only [go_sem]
    refine ⟨by simp, by omega, _, _, _, tok2, growF n i x.s 17 [] x.s x.e f, rfl, ?_, ?_, okT_mono hok2 fun _ x => x, growF_ok _ _ _ _ _ hf, ?_⟩
    · simp [go_sem, b1]
    · simp [go_sem, b9]
    · rw [← g2]; simp
  · have hlt' : ((i : Int) < (n.sigs.length : Int)) = False := by simp; omega
    rw [List.drop_eq_nil_of_le (by omega)] at g2
    simp only [growAll] at g2
    subst g2
    simp only [go_sem, e13, hlt', hX, b9, fCells, nCells, List.cons_append, List.nil_append]
    exact ⟨fun h => by simp [routesV, h], fun h => by simp [routesV, h]⟩

/-- The list and the error of what has been found. -/
def outL (f : Fd) : List Rt := if f.lg = true then [] else f.rs
def outE (f : Fd) : Int := if f.lg = true then 4 else 0
def rtV (l : List Rt) (e : Int) : AV := .tup [.sl 3 (l.map dRt) .no, .int .i64 e]
theorem routesV_eq (f : Fd) : routesV f = rtV (outL f) (outE f) := by
  unfold routesV rtV outL outE
  cases f.lg <;> simp

def netL (n : Net) (l : List Rt) : List Rt := if netE n = 0 then l else []
def netR (n : Net) (e : Int) : Int := if netE n = 0 then e else netE n

set_option maxHeartbeats 4000000 in
set_option maxRecDepth 20000 in
theorem f20 (n : Net) (hb : NetB n) : PCall Tryz.prog 20 [eNet n] (RV (rtV (netL n (outL (routesF n))) (netR n (outE (routesF n))))) := by
  refine PCall.of_bodyE Tryz.func20 rfl Tryz.ntmps20 (congrArg Array.toList Tryz.results20) ?_
  intro E
  simp only [go_sem, eNet, nCells]
  refine callV (f17 n hb) ?_
  intro nx lv
  simp only [go_sem]
  refine ⟨fun h => ?_, fun h => ?_⟩
  · simp [rtV, netL, netR, h]
  · have h79 := f55 n hb h
    rw [routesV_eq] at h79
    refine callV h79 ?_
    intro nx2 lv2
    simp only [go_sem, rtV]
    simp [netL, netR, h]
end Go.Proofs.YteadhjclchjfjaaGreat

/- Routes: the reference's. -/
namespace Go.Proofs.YteadhjclchjfjaaGreat
set_option linter.unusedSimpArgs false
set_option linter.unusedVariables false
open Go.AB

theorem sigIdx_cons {x : Pair} {l : List Pair} {s e i : Int} : sigIdx (x :: l) s e i = if x.s = s ∧ x.e = e then i else sigIdx l s e (i + 1) := rfl
theorem sigIdx_nil {s e i : Int} : sigIdx [] s e i = -1 := rfl

set_option maxHeartbeats 4000000 in
set_option maxRecDepth 20000 in
theorem f70 (n : Net) (s e : Int) (hb : NetB n) : PCall Tryz.prog 70 [eNet n, .int .i64 s, .int .i64 e] (RV (.int .i64 (sigIdx n.sigs s e 0))) := by
  have hsg := hb.sg
  refine PCall.of_body Tryz.func70 rfl Tryz.ntmps70 (congrArg Array.toList Tryz.results70) ?_
  intro E
  simp only [go_sem, eNet, nCells]
  refine AW_loopH [6, 7, 8, 12, 13, 14, 15, 16, 17, 18, 19, 20, 21, 22, 23, 24, 25, 26, 27, 28]
    (fun (i : Nat) ρ m => ρ 12 = .int .i64 (i : Int) ∧ i ≤ n.sigs.length ∧ sigIdx (n.sigs.drop i) s e i = sigIdx n.sigs s e 0 ∧ ∃ h nx lv, m = ⟨h, [], nx, lv⟩) (fun i => n.sigs.length - i) 0 ?_ ?_
  · simp only [go_sem]
    exact ⟨Nat.zero_le _, _, _, _, rfl⟩
  rintro i ρ m ⟨e12, g1, g2, h, nx, lv, rfl⟩ Q hN hR hX
  by_cases hlt : i < n.sigs.length
  · obtain ⟨x, hx⟩ : ∃ x, n.sigs[i]? = some x := ⟨_, List.getElem?_eq_getElem hlt⟩
    have hxp : (n.sigs.map dPair)[i]? = some (dPair x) := by rw [List.getElem?_map, hx]; rfl
    have hlt' : ((i : Int) < (n.sigs.length : Int)) = True := by simp; omega
    have h0 : ((0 : Int) ≤ (i : Int)) = True := by simp
    have ew : IntKind.i64.wrap ((i : Int) + 1) = (i : Int) + 1 := i64_in (by omega) (by omega)
    have hd : n.sigs.drop i = x :: n.sigs.drop (i + 1) := by
      rw [List.drop_eq_getElem_cons hlt]
      rw [List.getElem?_eq_getElem hlt] at hx
      cases hx; rfl
    rw [hd, sigIdx_cons] at g2
    by_cases q1 : x.s = s
    · have q1' : (x.s = s) = True := eq_true q1
      by_cases q2 : x.e = e
      · have q2' : (x.e = e) = True := eq_true q2
        rw [if_pos ⟨q1, q2⟩] at g2
        simp only [go_sem, e12, hlt', h0, hxp, dPair, q1', q2', hR]
        exact g2
      · have q2' : (x.e = e) = False := eq_false q2
        rw [if_neg (fun z => q2 z.2)] at g2
        simp only [go_sem, e12, hlt', h0, hxp, dPair, q1', q2', hN, ew]
        refine ⟨by kernel_rfl, i + 1, ?_, by simp only; omega⟩
        simp only [go_sem]
        exact ⟨by simp, by omega, by rw [← g2]; simp, _, _, _, rfl⟩
    · have q1' : (x.s = s) = False := eq_false q1
      rw [if_neg (fun z => q1 z.1)] at g2
      simp only [go_sem, e12, hlt', h0, hxp, dPair, q1', hN, ew]
      refine ⟨by kernel_rfl, i + 1, ?_, by simp only; omega⟩
      simp only [go_sem]
      exact ⟨by simp, by omega, by rw [← g2]; simp, _, _, _, rfl⟩
  · have hlt' : ((i : Int) < (n.sigs.length : Int)) = False := by simp; omega
    rw [List.drop_eq_nil_of_le (by omega), sigIdx_nil] at g2
    simp only [go_sem, e12, hlt', hX]
    exact g2

def eFd (f : Fd) (tok : Tok) : AV := .agg [.sl 3 (f.rs.map dRt) tok, .int .i64 f.ps, .bool f.lg]
def eRt (r : Rt) (tk : Tok) : AV := .agg [.int .i64 r.fr, .int .i64 r.to, .sl 3 (r.st.map dStp) tk]
/-- A token that is in use, of an earlier number. -/
def okN (nx : Nat) (lv : Nat → Prop) : Tok → Prop
  | .no => False
  | .nil => True
  | .own i => lv i ∧ i < nx
theorem okN.t {nx nx' : Nat} {lv : Nat → Prop} {tok : Tok} {h : List (Nat × Nat × List AV)} {o : List (List AV)} (k : okN nx lv tok) : okT ⟨h, o, nx', lv⟩ tok := by
  cases tok with
  | no => exact k
  | nil => trivial
  | own i => exact k.1
theorem okN.mono {nx nx' : Nat} {lv lv' : Nat → Prop} {tok : Tok} (k : okN nx lv tok) (hn : nx ≤ nx') (hl : ∀ j, lv j → lv' j) : okN nx' lv' tok := by
  cases tok with
  | no => exact k
  | nil => trivial
  | own i => exact ⟨hl i k.1, Nat.lt_of_lt_of_le k.2 hn⟩
theorem okN.of {nx nx' : Nat} {lv : Nat → Prop} {tok : Tok} {h : List (Nat × Nat × List AV)} {o : List (List AV)} (k : okT ⟨h, o, nx', lv⟩ tok) (hl : ∀ j, lv j → j < nx) : okN nx lv tok := by
  cases tok with
  | no => exact k
  | nil => trivial
  | own i => exact ⟨k, hl i k⟩
theorem okN.new {nx nx' : Nat} {lv lv' : Nat → Prop} {tok : Tok} (k : okN nx lv tok) (hn : nx ≤ nx') (hl : ∀ j, j < nx → lv j → lv' j) : okN nx' lv' tok := by
  cases tok with
  | no => exact k
  | nil => trivial
  | own i => exact ⟨hl i k.2 k.1, Nat.lt_of_lt_of_le k.2 hn⟩
/-- What a call that hands on a search comes to. -/
def outFd (f : Fd) : AH → AV → Prop := fun m r => m.o = [] ∧ ∃ tok, r = eFd f tok ∧ okN m.nx m.lv tok

set_option maxHeartbeats 4000000 in
set_option maxRecDepth 20000 in
theorem f67 (f : Fd) (r : Rt) (b : Bool) (tok tk : Tok) (nx : Nat) (lv : Nat → Prop) (h0 : 0 ≤ f.ps) (h1 : f.ps ≤ 1000) (h2 : f.rs.length ≤ 1000) (h3 : r.st.length ≤ 60) (hok : okT ⟨[], [], nx, lv⟩ tok) :
    QCall Tryz.prog 67 ⟨[], [], nx, lv⟩ [eFd f tok, eRt r tk, .bool b] (outFd (endF f r b)) := by
  refine QCall.lt fun hlt => ?_
  simp only at hlt
  refine QCall.of_body Tryz.func67 rfl Tryz.ntmps67 (congrArg Array.toList Tryz.results67) ?_
  intro E
  have ew : IntKind.i64.wrap (f.ps + 1) = f.ps + 1 := i64_in (by omega) (by omega)
  simp only [go_sem, eFd, eRt, ew]
  refine ⟨fun hb => ⟨.inl trivial, by omega, ?_, by omega, fun hl => ?_, fun hl => ?_⟩, fun hb => ⟨fun hl => ?_, fun hl => ?_⟩⟩
  · cases tok with
    | no => exact hok
    | nil => trivial
    | own i =>
      have h5 : lv i := hok
      have := hlt i h5
      exact .inr (.inr ⟨.inr h5, by omega⟩)
  · exact ⟨rfl, .own (nx + 1 + 1 + 1), by simp [eFd, endF, dRt, hl, hb], .inl rfl, Nat.lt_succ_self _⟩
  · exact ⟨rfl, .own (nx + 1 + 1 + 1), by simp [eFd, endF, dRt, hl, hb], .inl rfl, Nat.lt_succ_self _⟩
  · exact ⟨rfl, tok, by simp [eFd, endF, dRt, hl, hb], okN.of hok hlt⟩
  · exact ⟨rfl, tok, by simp [eFd, endF, dRt, hl, hb], okN.of hok hlt⟩
end Go.Proofs.YteadhjclchjfjaaGreat
