/- Routes: the search of the program. -/
import Derived.Test.YteadhjclchjfjaaL10
namespace Go.Proofs.Yteadhjclchjfjaa
set_option linter.unusedSimpArgs false
set_option linter.unusedVariables false
open Go.AB

def dRt (r : Rt) : DV := .agg [.int .i64 r.fr, .int .i64 r.to, .sl 3 (r.st.map dStp)]
def fCells (n : Net) (f : Fd) (tok : Tok) : List AV := nCells n ++ [.sl 3 (f.rs.map dRt) tok, .int .i64 f.ps, .bool f.lg]
/-- What a search keeps to. -/
def FOk (f : Fd) : Prop := 0 ≤ f.ps ∧ f.ps ≤ 81 ∧ (f.lg = false → f.ps ≤ 80) ∧ (f.rs.length : Int) ≤ f.ps
theorem countF_ok {f : Fd} (h : FOk f) (hl : f.lg = false) : FOk (countF f) := by
  obtain ⟨h1, h2, h3, h4⟩ := h
  have := h3 hl
  refine ⟨by simp only [countF]; omega, by simp only [countF]; omega, fun h => ?_, by simp only [countF]; omega⟩
  simp only [countF, hl, Bool.false_or, decide_eq_false_iff_not] at h ⊢
  omega

/-- What a call of a function that counts comes to. -/
def outF1 (n : Net) (f : Fd) : AH → AV → Prop := fun m r => r = .tup [] ∧ ∃ tok, m.o = [fCells n f tok] ∧ okT m tok

set_option maxRecDepth 20000 in
theorem f129 (n : Net) (f : Fd) (tok : Tok) (nx : Nat) (lv : Nat → Prop) (h0 : 0 ≤ f.ps) (h1 : f.ps ≤ 1000) (hok : okT ⟨[], [fCells n f tok], nx, lv⟩ tok) :
    QCall Try.prog 129 ⟨[], [fCells n f tok], nx, lv⟩ [.ptr (.out 0) 0] (outF1 n (countF f)) := by
  refine QCall.of_body Try.func129 rfl Try.ntmps129 (congrArg Array.toList Try.results129) ?_
  intro E
  have ew : IntKind.i64.wrap (f.ps + 1) = f.ps + 1 := i64_in (by omega) (by omega)
  cases hl : f.lg with
  | true =>
    simp only [go_sem, fCells, nCells, List.cons_append, List.nil_append, ew, hl]
    exact ⟨rfl, tok, by simp [countF, fCells, nCells, hl], okT_mono hok fun _ x => x⟩
  | false =>
    simp only [go_sem, fCells, nCells, List.cons_append, List.nil_append, ew, hl]
    exact ⟨rfl, tok, by simp [countF, fCells, nCells, hl], okT_mono hok fun _ x => x⟩

theorem fCells_rn {r : AB.Loc → Option AB.Loc} {n : Net} {f : Fd} {tok : Tok} : rnCL r (fCells n f tok) = some (fCells n f tok) := by
  simp only [fCells, nCells, List.cons_append, List.nil_append, rnCL, rnC, port1]

theorem callF {k : Nat} {n : Net} {f g : Fd} {tok : Tok} {rest : List AV} {σ : AS} {dst : Option Nat} {K : AS → Prop} {l : AB.Loc}
    (h : QCall Try.prog k ⟨[], [fCells n f tok], σ.m.nx, σ.m.lv⟩ (.ptr (.out 0) 0 :: rest) (outF1 n g)) (hrest : ∀ f, rnAL f rest = some rest) (hc : σ.m.cells l = some (fCells n f tok))
    (hK : ∀ tok' nx2 lv2, okT ⟨[], [], nx2, lv2⟩ tok' → K (AS.put ⟨σ.s, ⟨(σ.m.setCells l (fCells n g tok')).h, (σ.m.setCells l (fCells n g tok')).o, nx2, lv2⟩⟩ dst (.tup []))) :
    effX Try.prog k (.ptr l 0 :: rest) σ dst K := by
  refine effH [l] (css := [fCells n f tok]) ?_ ?_ ?_ (.one l) h ?_
  · simp only [rnAL, rnA, rnC, outF, idxL, if_true, hrest]
  · simp only [cellsL, hc]
  · simp only [rnLL, fCells_rn]
  · rintro m' r ⟨rfl, tok', ho, hok⟩
    refine ⟨[fCells n g tok'], .tup [], ?_, rfl, rfl, ?_⟩
    · rw [ho]
      simp only [rnLL, fCells_rn]
    · exact hK tok' _ _ (okT_mono hok fun _ x => x)
end Go.Proofs.Yteadhjclchjfjaa
