/- More on calls that write what they are handed; live marks are below the next one. -/
import Derived.Test.YtaieadcnhlapdaaDoorB26
namespace Go.AB

theorem QCall.lt {P : Program} {f : Nat} {m0 : AH} {as : List AV} {R : AH → AV → Prop} (h : (∀ j, m0.lv j → j < m0.nx) → QCall P f m0 as R) : QCall P f m0 as R := by
  unfold QCall
  intro E G w vs hT hw hg hi hr
  have := h hi.lt
  unfold QCall at this
  exact this E G w vs hT hw hg hi hr

theorem AW_lt {P : Program} {E : Env} {c : Code} {Q : Exit → AS → Prop} {σ : AS} (h : (∀ j, σ.m.lv j → j < σ.m.nx) → AW P E c Q σ) : AW P E c Q σ := by
  unfold AW
  intro hT a w hst
  obtain ⟨G, hi, hs⟩ := hst
  have := h hi.lt
  unfold AW at this
  exact this hT a w ⟨G, hi, hs⟩

theorem QCall.mono {P : Program} {f : Nat} {m0 : AH} {as : List AV} {R R' : AH → AV → Prop} (h : QCall P f m0 as R) (hR : ∀ m r, R m r → R' m r) : QCall P f m0 as R' := by
  unfold QCall at h ⊢
  intro E G w vs hT hw hg hi hr
  refine (h E G w vs hT hw hg hi hr).mono ?_
  rintro e w' ⟨v, r, G', m', h1, h2, h3, h4⟩
  exact ⟨v, r, G', m', h1, h2, h3, hR _ _ h4⟩

/-- A call that writes what it is handed; nothing new of it is taken over. -/
theorem effH {P : Program} {k : Nat} {args : List AV} {σ : AS} {dst : Option Nat} {K : AS → Prop} (ls : List Loc) {as : List AV} {css ds : List (List AV)} {R : AH → AV → Prop}
    (h1 : rnAL (outF ls) args = some as) (h2 : cellsL σ.m ls = some css) (h3 : rnLL (outF ls) css = some ds) (h4 : IdxOk ls) (h5 : QCall P k ⟨[], ds, σ.m.nx, σ.m.lv⟩ as R)
    (hK : ∀ m' r, R m' r → ∃ cs2 r2, rnLL (backF ls none (.own 0 (gnext σ.m 0))) m'.o = some cs2 ∧ cs2.length = ls.length ∧ rnV (backF ls none (.own 0 (gnext σ.m 0))) r = some r2 ∧
      K (AS.put ⟨σ.s, ⟨(σ.m.setAll ls cs2).h, (σ.m.setAll ls cs2).o, m'.nx, m'.lv⟩⟩ dst r2)) : effX P k args σ dst K := by
  unfold effX
  refine .inl ?_
  unfold effK
  refine ⟨ls, as, css, ds, R, h1, h2, h3, h4, h5, fun m' r hr => ?_⟩
  obtain ⟨cs2, r2, k1, k2, k3, k4⟩ := hK m' r hr
  exact ⟨none, 0, [], cs2, r2, k1, k2, (fun k hk => by cases hk), k3, k4⟩

theorem IdxOk.two {l k : Loc} (h : l ≠ k) : IdxOk [l, k] := by
  intro i x hx
  match i, hx with
  | 0, hx => simp at hx; subst hx; simp [idxL]
  | 1, hx => simp at hx; subst hx; simp [idxL, h]

theorem backF_out {ls : List Loc} {ad : Option Loc} {l0 : Loc} {i : Nat} : backF ls ad l0 (.out i) = ls[i]? := (rfl)

end Go.AB
