/- Loops, by the slots that their body writes. -/
import Derived.Test.YtaieadcnhlapdaaDoorB13
namespace Go.AB

def mask (s : List AV) : List Nat → (Nat → AV) → List AV
  | [], _ => s
  | i :: W, ρ => mask (s.set i (ρ i)) W ρ

theorem mask_self : ∀ (W : List Nat) (s : List AV), mask s W (nth s) = s
  | [], _ => rfl
  | i :: W, s => by
    simp only [mask]
    have : s.set i (nth s i) = s := by
      apply List.ext_getElem?
      intro j
      by_cases hj : i = j
      · subst hj
        by_cases hi : i < s.length
        · rw [List.getElem?_set_self hi, nth_lt hi]
        · rw [List.getElem?_eq_none (by simp; omega), List.getElem?_eq_none (by omega)]
      · rw [List.getElem?_set_ne hj]
    rw [this]
    exact mask_self W s

/-- The end of a round: only slots of W were written; the relation holds anew; the measure has gone down. -/
def LoopEnd {α : Type} (s0 : List AV) (W : List Nat) (J : α → (Nat → AV) → AH → Prop) (μ : α → Nat) (x : α) (σ : AS) : Prop :=
  σ.s = mask s0 W (nth σ.s) ∧ ∃ y, J y (nth σ.s) σ.m ∧ μ y < μ x

@[congr] theorem LoopEnd_congr {α : Type} {s0 : List AV} {W : List Nat} {J : α → (Nat → AV) → AH → Prop} {μ : α → Nat} {x : α} {σ σ' : AS} (h : σ = σ') : LoopEnd s0 W J μ x σ = LoopEnd s0 W J μ x σ' := by rw [h]

theorem AW_loopS {P : Program} {E : Env} {c : Code} {Q : Exit → AS → Prop} {s0 : List AV} {m0 : AH} {α : Type} (W : List Nat) (J : α → (Nat → AV) → AH → Prop) (μ : α → Nat) (x0 : α) (h0 : J x0 (nth s0) m0)
    (round : ∀ x ρ m, J x ρ m → exC P E c ⟨mask s0 W ρ, m⟩ (thenQ (LoopEnd s0 W J μ x) Q)) : AW P E (.loop c) Q ⟨s0, m0⟩ := by
  refine AW_loop (fun x σ => σ.s = mask s0 W (nth σ.s) ∧ J x (nth σ.s) σ.m) μ x0 ⟨(mask_self W s0).symm, h0⟩ ?_
  rintro x ⟨s, m⟩ ⟨h1, h2⟩
  simp only at h1 h2
  have := round x (nth s) m h2
  rw [← h1] at this
  refine AW_mono (exC_ok c _ _ this) ?_
  intro e σ h
  cases e with
  | normal =>
    obtain ⟨h3, y, h4, h5⟩ := h
    exact ⟨y, ⟨h3, h4⟩, h5⟩
  | _ => exact h

/-- It returns a slice that may be added to. -/
def RO (z : Nat) (es : List DV) : AH → AV → Prop := fun m x => ∃ i, x = .sl z es (.own i) ∧ m.lv i

@[go_sem] theorem RV_eq {r x : AV} {m : AH} : RV r m x = (x = r) := rfl
@[go_sem] theorem RO_eq {z z' : Nat} {es es' : List DV} {i : Nat} {m : AH} : RO z es m (.sl z' es' (.own i)) = (z' = z ∧ es' = es ∧ m.lv i) := by
  apply propext
  constructor
  · rintro ⟨j, h, hj⟩
    cases h
    exact ⟨rfl, rfl, hj⟩
  · rintro ⟨rfl, rfl, h⟩
    exact ⟨i, rfl, h⟩
theorem RO.tok {z : Nat} {es : List DV} {t : Tok} {m : AH} (h : ∃ i, t = .own i ∧ m.lv i) : RO z es m (.sl z es t) := by
  obtain ⟨i, rfl, h⟩ := h; exact ⟨i, rfl, h⟩

theorem callVt {P : Program} {k : Nat} {as args : List AV} {σ : AS} {dst : Option Nat} {K : AS → Prop} {r : AV} (h : PCall P k as (RV r))
    (hK : ∀ nx2 lv2, σ.m.nx ≤ nx2 → (∀ j, σ.m.lv j → lv2 j) → K (AS.put ⟨σ.s, ⟨σ.m.h, σ.m.o, nx2, lv2⟩⟩ dst (shV σ.m.nx r))) : callX P k as args σ dst K := by
  unfold callX
  refine .inl ?_
  refine ⟨_, h, ?_⟩
  unfold callK
  rintro m' x hx nx2 lv2 h1 h2 h3
  cases hx
  exact hK nx2 lv2 h1 h2

theorem callV {P : Program} {k : Nat} {as args : List AV} {σ : AS} {dst : Option Nat} {K : AS → Prop} {r : AV} (h : PCall P k as (RV r))
    (hK : ∀ nx2 lv2, K (AS.put ⟨σ.s, ⟨σ.m.h, σ.m.o, nx2, lv2⟩⟩ dst (shV σ.m.nx r))) : callX P k as args σ dst K :=
  callVt h fun nx2 lv2 _ _ => hK nx2 lv2

theorem callO {P : Program} {k : Nat} {as args : List AV} {σ : AS} {dst : Option Nat} {K : AS → Prop} {z : Nat} {es : List DV} (h : PCall P k as (RO z es))
    (hK : ∀ i nx2 lv2, σ.m.nx ≤ nx2 → (∀ j, σ.m.lv j → lv2 j) → lv2 i → σ.m.nx ≤ i → K (AS.put ⟨σ.s, ⟨σ.m.h, σ.m.o, nx2, lv2⟩⟩ dst (.sl z es (.own i)))) : callX P k as args σ dst K := by
  unfold callX
  refine .inl ?_
  refine ⟨_, h, ?_⟩
  unfold callK
  rintro m' x ⟨i, rfl, hi⟩ nx2 lv2 h1 h2 h3
  exact hK (σ.m.nx + i) nx2 lv2 h1 h2 (h3 i hi) (Nat.le_add_right _ _)

/-- A value without marks of who may add to it. -/
def er1 : AV → AV
  | .sl z es _ => .sl z es .no
  | v => v
def erA : AV → AV
  | .agg cs => .agg (cs.map er1)
  | v => er1 v
def erase : AV → AV
  | .tup vs => .tup (vs.map erA)
  | v => erA v

theorem er1_rep {G : Gh} {w : World} {r : AV} {v : Value} (h : RepA G w r v) : RepA G w (er1 r) v := by
  cases h with
  | sl z es t A c h1 h2 => exact .sl z es .no A c h1 trivial
  | int => exact .int _ _
  | bool => exact .bool _
  | str => exact .str _
  | raw => exact .raw _
  | agg cs vs h1 h2 h3 => exact .agg cs vs h1 h2 h3
  | tup cs vs h1 h2 => exact .tup cs vs h1 h2
  | ptr l off b o h h0 => exact .ptr l off b o h h0
  | mref l b h => exact .mref l b h
  | bref l b h => exact .bref l b h
  | ept cs b o h => exact .ept cs b o h
  | fn f cs vs h1 h2 => exact .fn f cs vs h1 h2
  | iface t v x h => exact .iface t v x h
  | msl l off len cap b o h h0 h1 h2 => exact .msl l off len cap b o h h0 h1 h2

theorem erA_rep {G : Gh} {w : World} {r : AV} {v : Value} (h : RepA G w r v) : RepA G w (erA r) v := by
  cases r <;> first | exact er1_rep h | skip
  rename_i cs
  cases h with
  | agg _ vs h1 h2 h3 =>
    refine .agg _ vs (by simpa using h1) h2 (fun i c v hc hv => ?_)
    rw [List.getElem?_map] at hc
    cases hci : cs[i]? with
    | none => rw [hci] at hc; cases hc
    | some c0 => rw [hci] at hc; cases hc; exact er1_rep (h3 i c0 v hci hv)

theorem erase_rep {G : Gh} {w : World} {r : AV} {v : Value} (h : RepA G w r v) : RepA G w (erase r) v := by
  cases r <;> first | exact erA_rep h | skip
  rename_i cs
  cases h with
  | tup _ vs h1 h3 =>
    refine .tup _ vs (by simpa using h1) (fun i c v hc hv => ?_)
    rw [List.getElem?_map] at hc
    cases hci : cs[i]? with
    | none => rw [hci] at hc; cases hc
    | some c0 => rw [hci] at hc; cases hc; exact erA_rep (h3 i c0 v hci hv)

theorem port1_er (r : AV) : port1 (er1 r) = port1 r := by cases r <;> rfl
theorem all_map_congr {α : Type} {f : α → α} {p : α → Bool} (h : ∀ x, p (f x) = p x) : ∀ l : List α, (l.map f).all p = l.all p
  | [] => rfl
  | x :: l => by simp only [List.map_cons, List.all_cons, h x, all_map_congr h l]
theorem portA_er (r : AV) : portA (erA r) = portA r := by
  cases r <;> first | rfl | (simp only [erA, portA]; exact all_map_congr port1_er _)
theorem port_er (r : AV) : port (erase r) = port r := by
  cases r with
  | tup cs => simp only [erase, port]; exact all_map_congr portA_er _
  | agg cs => exact portA_er (.agg cs)
  | _ => rfl

/-- It returns a value, whoever may add to what. -/
def RE (r : AV) : AH → AV → Prop := fun _ x => erase x = r
@[go_sem] theorem RE_eq {r x : AV} {m : AH} : RE r m x = (erase x = r) := rfl

theorem PCall.erased {P : Program} {f : Nat} {as : List AV} {R : AH → AV → Prop} {r0 : AV} (h : PCall P f as R) (hr : ∀ m r, R m r → erase r = r0) : PCall P f as (RV r0) := by
  unfold PCall at h ⊢
  intro st w vs hl hst hrep
  refine (h st w vs hl hst hrep).mono ?_
  rintro e w' ⟨v, r, G', m', h1, h2, h3, h4, h5⟩
  exact ⟨v, r0, G', m', h1, h2, by rw [← hr m' r h5]; exact erase_rep h3, by rw [← hr m' r h5, port_er]; exact h4, rfl⟩

theorem PCall.of_bodyE {P : Program} {f : Nat} {fn : Func} {c : Code} {as : List AV} {r : AV} {n : Nat} {rs : List ResultVar} (hf : P.funcs[f]? = some fn) (hb : fn.body = some c) (hn : fn.ntmps = n) (hrs : fn.results.toList = rs)
    (h : ∀ E, exC P E c ⟨as ++ List.replicate (n - as.length) undefA, emptyH⟩ (bodyQ P rs (RE r))) : PCall P f as (RV r) :=
  (PCall.of_body hf hb hn hrs h).erased fun _ _ h => h

attribute [go_sem] mask er1 erA erase

end Go.AB
