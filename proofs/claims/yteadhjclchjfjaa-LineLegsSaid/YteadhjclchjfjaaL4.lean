/- The program's iterators: slices.Backward; Reverse. -/
import Derived.Test.YteadhjclchjfjaaL1
import Derived.Test.YteadhjclchjfjaaB150
namespace Go.Proofs.Yteadhjclchjfjaa
set_option linter.unusedSimpArgs false
set_option linter.unusedVariables false
open Go.AB

structure Stp where
  (s i o : Int)
def dStp (x : Stp) : DV := .agg [.int .i64 x.s, .int .i64 x.i, .int .i64 x.o]
def eStp (x : Stp) : AV := .agg [.int .i64 x.s, .int .i64 x.i, .int .i64 x.o]

/-- What slices.Backward yields. -/
def backX (p : List Stp) : List (List AV) := (List.range p.length).map fun (k : Nat) => [.int .i64 ((p.length : Int) - 1 - k), eStp ((p[p.length - 1 - k]?).getD ⟨0, 0, 0⟩)]
theorem backX_at {p : List Stp} {k : Nat} (hk : k < p.length) {x : Stp} (hx : p[p.length - 1 - k]? = some x) : (backX p)[k]? = some [.int .i64 ((p.length : Int) - 1 - k), eStp x] := by
  simp [backX, hk, hx]
theorem backX_len (p : List Stp) : (backX p).length = p.length := by simp [backX]

set_option maxRecDepth 20000 in
theorem f107 (p : List Stp) (hp : p.length ≤ 140737488351232) : ICall Try.prog 107 [.ept [.sl 3 (p.map dStp)]] (backX p) := by
  refine ICall.of_body Try.func107 rfl Try.ntmps107 (congrArg Array.toList Try.results107) ?_
  intro N Nx l J Jx hN hY m hm
  refine IW_seq hN (IW_ex hN ?_)
  have ew : IntKind.i64.wrap ((p.length : Int) - 1) = (p.length : Int) - 1 := i64_in (by omega) (by omega)
  simp only [go_sem, ew]
  refine IW_block (IW_loopH [3, 7, 8, 9, 10, 11, 12, 13, 14, 15, 16, 17, 18] (fun (k : Nat) ρ m' => ρ 3 = .int .i64 ((p.length : Int) - 1 - k) ∧ k ≤ p.length ∧ J k m') (fun k => p.length - k) 0 ?_ ?_)
  · simp [go_sem, hm]
  rintro k ρ m' ⟨e3, g1, hJ⟩ Q' hN' hR hX
  refine IW_seq hN (IW_ex hN ?_)
  by_cases hlt : k < p.length
  · have h1 : (0 ≤ (p.length : Int) - 1 - k) = True := by simp; omega
    have hn : (((p.length : Int) - 1 - k)).toNat = p.length - 1 - k := by omega
    obtain ⟨x, hx⟩ : ∃ x, p[p.length - 1 - k]? = some x := ⟨_, List.getElem?_eq_getElem (by omega)⟩
    have hx2 : (p.map dStp)[p.length - 1 - k]? = some (dStp x) := by rw [List.getElem?_map, hx]; rfl
    simp only [go_sem, e3, h1]
    refine IW_seq hN (IW_block (IW_seq hN (IW_yield (n := 6) (k := k) hN hY ?_)))
    simp only [go_sem, h1, hn, hx2, dStp]
    refine ⟨_, _, _, rfl, rfl, by simp only [go_sem], ?_, hJ, ?_, ?_⟩
    · simp only [go_sem]
      exact backX_at hlt hx
    · intro m2 hJ2
      simp only [go_sem]
      refine IW_ex hN ?_
      simp only [go_sem]
      refine IW_ex hN ?_
      have ew2 : IntKind.i64.wrap ((p.length : Int) - 1 - k - 1) = (p.length : Int) - 1 - k - 1 := i64_in (by omega) (by omega)
      simp only [go_sem, hN', ew2]
      refine ⟨by kernel_rfl, k + 1, ?_, by simp only; omega⟩
      simp only [go_sem]
      have e4 : (p.length : Int) - 1 - k - 1 = (p.length : Int) - 1 - ((k + 1 : Nat) : Int) := by omega
      exact ⟨by rw [e4], by omega, hJ2⟩
    · intro c m2 hJ2
      simp only [go_sem]
      refine AW_of ?_
      simp only [go_sem]
      exact hJ2
  · have h1 : (0 ≤ (p.length : Int) - 1 - k) = False := by simp; omega
    simp only [go_sem, e3, h1, hX]
    have : k = p.length := by omega
    rw [backX_len, ← this]
    exact hJ

theorem f71 (p : List Stp) : PCall Try.prog 71 [.sl 3 (p.map dStp) .no] (RV (.fn 107 [.ept [.sl 3 (p.map dStp)]])) := by
  refine PCall.of_bodyF Try.func71 rfl Try.ntmps71 (congrArg Array.toList Try.results71) ?_
  intro E _
  refine AW_of ?_
  simp only [go_sem]
  refine ⟨107, [(.own 1 0, [.sl 3 (p.map dStp)])], rfl, ?_, rfl⟩
  intro q hq
  simp at hq
  subst hq
  exact ⟨[.sl 3 (p.map dStp) .no], by simp [go_sem], rfl⟩

def revS (x : Stp) : Stp := ⟨x.s, x.o, x.i⟩
/-- A path backwards. -/
def revP (p : List Stp) : List Stp := p.reverse.map revS

set_option maxRecDepth 20000 in
theorem f23 (p : List Stp) (hp : p.length ≤ 5864062014634) : PCall Try.prog 23 [.sl 3 (p.map dStp) .no] (RV (.sl 3 ((revP p).map dStp) .no)) := by
  refine PCall.of_bodyRE Try.func23 rfl Try.ntmps23 (congrArg Array.toList Try.results23) ?_
  intro E hE
  refine AW_seq (AW_of ?_)
  simp only [go_sem]
  refine AW_seq (AW_of ?_)
  simp only [go_sem]
  refine AW_seq (AW_seq (AW_of ?_))
  simp only [go_sem]
  refine callV (f71 p) ?_
  intro nx lv
  simp only [go_sem]
  refine AW_block (AW_range hE (by simp only [go_sem]) bodyOk_107 (f107 p (by omega)) ?_
    (fun k m => ∃ h nx lv tok, m = ⟨h, [], nx, lv⟩ ∧ AB.hget h 3 = some (0, [.sl 3 (((revP p).take k).map dStp) tok]) ∧ okT m tok) (fun _ _ => False) ?_ ?_ ?_ ?_ (fun _ _ h => h.elim))
  · intro x hx
    simp only [backX, List.mem_map] at hx
    obtain ⟨_, _, rfl⟩ := hx
    rfl
  · rintro k h0 o0 nx0 lv0 nx1 lv1 ⟨h, nx2, lv2, tok, e, hb3, hok⟩ _ hl
    cases e
    exact ⟨_, _, _, tok, rfl, hb3, okT_mono hok (fun j x => hl j x)⟩
  · exact ⟨_, _, _, .nil, rfl, by simp [go_sem], by simp [go_sem]⟩
  · rintro k x m' hx ⟨h, nx2, lv2, tok, rfl, hb3, hok⟩ E1
    have hlt : k < p.length := by
      have := (List.getElem?_eq_some_iff.1 hx).1
      rwa [backX_len] at this
    obtain ⟨y, hy⟩ : ∃ y, p[p.length - 1 - k]? = some y := ⟨_, List.getElem?_eq_getElem (by omega)⟩
    rw [backX_at hlt hy] at hx
    cases hx
    refine AW_of ?_
    simp only [go_sem, eStp]
    intro E2
    refine AW_of ?_
    simp only [go_sem, hb3]
    have hr : (revP p).take (k + 1) = (revP p).take k ++ [revS y] := by
      have : (revP p)[k]? = some (revS y) := by
        unfold revP
        rw [List.getElem?_map, List.getElem?_reverse hlt, hy]
        rfl
      rw [List.take_add_one, this]
      rfl
    have hle : ((revP p).take k).length ≤ k := by rw [List.length_take]; omega
    refine ⟨okT_mono hok (fun j x => .inr x), by omega, _, _, _, .own (nx2 + 1), rfl, ?_, .inl rfl⟩
    simp [go_sem, hr, dStp, revS]
  · rintro m' ⟨h, nx2, lv2, tok, rfl, hb3, hok⟩
    simp only [go_sem]
    refine AW_of ?_
    simp only [go_sem, hb3]
    rw [List.take_of_length_le (by rw [backX_len]; simp [revP])]
end Go.Proofs.Yteadhjclchjfjaa
