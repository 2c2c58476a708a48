/- Routes: the reference's. -/
import Derived.Test.YteadhjclchjfjaaL13
namespace Go.Proofs.Yteadhjclchjfjaa
set_option linter.unusedSimpArgs false
set_option linter.unusedVariables false
open Go.AB

theorem sigIdx_cons {x : Pair} {l : List Pair} {s e i : Int} : sigIdx (x :: l) s e i = if x.s = s ∧ x.e = e then i else sigIdx l s e (i + 1) := rfl
theorem sigIdx_nil {s e i : Int} : sigIdx [] s e i = -1 := rfl

set_option maxHeartbeats 4000000 in
set_option maxRecDepth 20000 in
theorem f121 (n : Net) (s e : Int) (hb : NetB n) : PCall Try.prog 121 [eNet n, .int .i64 s, .int .i64 e] (RV (.int .i64 (sigIdx n.sigs s e 0))) := by
  have hsg := hb.sg
  refine PCall.of_body Try.func121 rfl Try.ntmps121 (congrArg Array.toList Try.results121) ?_
  intro E
  simp only [go_sem, eNet, nCells]
  refine AW_loopH [6, 7, 8, 12, 13, 14, 15, 16, 17, 18, 19, 20, 21, 22, 23, 24, 25, 26, 27, 28]
    (fun (i : Nat) ρ m => ρ 12 = .int .i64 (i : Int) ∧ i ≤ n.sigs.length ∧ sigIdx (n.sigs.drop i) s e i = sigIdx n.sigs s e 0 ∧ ∃ h nx lv, m = ⟨h, [], nx, lv⟩) (fun i => n.sigs.length - i) 0 ?_ ?_
  · simp only [go_sem]
    exact ⟨Nat.zero_le _, _, _, _, rfl⟩
  rintro i ρ m ⟨e12, g1, g2, h, nx, lv, rfl⟩ Q hN hR hX
  by_cases hlt : i < n.sigs.length
  · obtain ⟨x, hx⟩ : ∃ x, n.sigs[i]? = some x := ⟨_, List.getElem?_eq_getElem hlt⟩
    have hxp : (n.sigs.map dPair)[i]? = some (dPair x) := by rw [List.getElem?_map, hx]; rfl
    have hlt' : ((i : Int) < (n.sigs.length : Int)) = True := by simp; omega
    have h0 : ((0 : Int) ≤ (i : Int)) = True := by simp
    have ew : IntKind.i64.wrap ((i : Int) + 1) = (i : Int) + 1 := i64_in (by omega) (by omega)
    have hd : n.sigs.drop i = x :: n.sigs.drop (i + 1) := by
      rw [List.drop_eq_getElem_cons hlt]
      rw [List.getElem?_eq_getElem hlt] at hx
      cases hx; rfl
    rw [hd, sigIdx_cons] at g2
    by_cases q1 : x.s = s
    · have q1' : (x.s = s) = True := eq_true q1
      by_cases q2 : x.e = e
      · have q2' : (x.e = e) = True := eq_true q2
        rw [if_pos ⟨q1, q2⟩] at g2
        simp only [go_sem, e12, hlt', h0, hxp, dPair, q1', q2', hR]
        exact g2
      · have q2' : (x.e = e) = False := eq_false q2
        rw [if_neg (fun z => q2 z.2)] at g2
        simp only [go_sem, e12, hlt', h0, hxp, dPair, q1', q2', hN, ew]
        refine ⟨by kernel_rfl, i + 1, ?_, by simp only; omega⟩
        simp only [go_sem]
        exact ⟨by simp, by omega, by rw [← g2]; simp, _, _, _, rfl⟩
    · have q1' : (x.s = s) = False := eq_false q1
      rw [if_neg (fun z => q1 z.1)] at g2
      simp only [go_sem, e12, hlt', h0, hxp, dPair, q1', hN, ew]
      refine ⟨by kernel_rfl, i + 1, ?_, by simp only; omega⟩
      simp only [go_sem]
      exact ⟨by simp, by omega, by rw [← g2]; simp, _, _, _, rfl⟩
  · have hlt' : ((i : Int) < (n.sigs.length : Int)) = False := by simp; omega
    rw [List.drop_eq_nil_of_le (by omega), sigIdx_nil] at g2
    simp only [go_sem, e12, hlt', hX]
    exact g2

def eFd (f : Fd) (tok : Tok) : AV := .agg [.sl 3 (f.rs.map dRt) tok, .int .i64 f.ps, .bool f.lg]
def eRt (r : Rt) (tk : Tok) : AV := .agg [.int .i64 r.fr, .int .i64 r.to, .sl 3 (r.st.map dStp) tk]
/-- A token that is in use, of an earlier number. -/
def okN (nx : Nat) (lv : Nat → Prop) : Tok → Prop
  | .no => False
  | .nil => True
  | .own i => lv i ∧ i < nx
theorem okN.t {nx nx' : Nat} {lv : Nat → Prop} {tok : Tok} {h : List (Nat × Nat × List AV)} {o : List (List AV)} (k : okN nx lv tok) : okT ⟨h, o, nx', lv⟩ tok := by
  cases tok with
  | no => exact k
  | nil => trivial
  | own i => exact k.1
theorem okN.mono {nx nx' : Nat} {lv lv' : Nat → Prop} {tok : Tok} (k : okN nx lv tok) (hn : nx ≤ nx') (hl : ∀ j, lv j → lv' j) : okN nx' lv' tok := by
  cases tok with
  | no => exact k
  | nil => trivial
  | own i => exact ⟨hl i k.1, Nat.lt_of_lt_of_le k.2 hn⟩
theorem okN.of {nx nx' : Nat} {lv : Nat → Prop} {tok : Tok} {h : List (Nat × Nat × List AV)} {o : List (List AV)} (k : okT ⟨h, o, nx', lv⟩ tok) (hl : ∀ j, lv j → j < nx) : okN nx lv tok := by
  cases tok with
  | no => exact k
  | nil => trivial
  | own i => exact ⟨k, hl i k⟩
theorem okN.new {nx nx' : Nat} {lv lv' : Nat → Prop} {tok : Tok} (k : okN nx lv tok) (hn : nx ≤ nx') (hl : ∀ j, j < nx → lv j → lv' j) : okN nx' lv' tok := by
  cases tok with
  | no => exact k
  | nil => trivial
  | own i => exact ⟨hl i k.2 k.1, Nat.lt_of_lt_of_le k.2 hn⟩
/-- What a call that hands on a search comes to. -/
def outFd (f : Fd) : AH → AV → Prop := fun m r => m.o = [] ∧ ∃ tok, r = eFd f tok ∧ okN m.nx m.lv tok

set_option maxHeartbeats 4000000 in
set_option maxRecDepth 20000 in
theorem f131 (f : Fd) (r : Rt) (b : Bool) (tok tk : Tok) (nx : Nat) (lv : Nat → Prop) (h0 : 0 ≤ f.ps) (h1 : f.ps ≤ 1000) (h2 : f.rs.length ≤ 1000) (h3 : r.st.length ≤ 60) (hok : okT ⟨[], [], nx, lv⟩ tok) :
    QCall Try.prog 131 ⟨[], [], nx, lv⟩ [eFd f tok, eRt r tk, .bool b] (outFd (endF f r b)) := by
  refine QCall.lt fun hlt => ?_
  simp only at hlt
  refine QCall.of_body Try.func131 rfl Try.ntmps131 (congrArg Array.toList Try.results131) ?_
  intro E
  have ew : IntKind.i64.wrap (f.ps + 1) = f.ps + 1 := i64_in (by omega) (by omega)
  simp only [go_sem, eFd, eRt, ew]
  refine ⟨fun hb => ⟨.inl trivial, by omega, ?_, by omega, fun hl => ?_, fun hl => ?_⟩, fun hb => ⟨fun hl => ?_, fun hl => ?_⟩⟩
  · cases tok with
    | no => exact hok
    | nil => trivial
    | own i =>
      have h5 : lv i := hok
      have := hlt i h5
      exact .inr (.inr ⟨.inr h5, by omega⟩)
  · exact ⟨rfl, .own (nx + 1 + 1 + 1), by simp [eFd, endF, dRt, hl, hb], .inl rfl, Nat.lt_succ_self _⟩
  · exact ⟨rfl, .own (nx + 1 + 1 + 1), by simp [eFd, endF, dRt, hl, hb], .inl rfl, Nat.lt_succ_self _⟩
  · exact ⟨rfl, tok, by simp [eFd, endF, dRt, hl, hb], okN.of hok hlt⟩
  · exact ⟨rfl, tok, by simp [eFd, endF, dRt, hl, hb], okN.of hok hlt⟩
end Go.Proofs.Yteadhjclchjfjaa
