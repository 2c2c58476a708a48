/- Routes: comparing equal lists; the law. -/
import Derived.Test.YteadhjclchjfjaaL16
namespace Go.Proofs.Yteadhjclchjfjaa
set_option linter.unusedSimpArgs false
set_option linter.unusedVariables false
open Go.AB

set_option maxHeartbeats 4000000 in
set_option maxRecDepth 20000 in
theorem f42 (p : List Stp) (hl : p.length ≤ 5864062014634) : PCall Try.prog 42 [.sl 3 (p.map dStp) .no, .sl 3 (p.map dStp) .no] (RV (.bool true)) := by
  refine PCall.of_body Try.func42 rfl Try.ntmps42 (congrArg Array.toList Try.results42) ?_
  intro E
  simp only [go_sem]
  refine AW_loopH [5, 13, 14, 15, 16, 17, 18, 19, 20, 21, 22, 23, 24, 25]
    (fun (i : Nat) ρ m => ρ 13 = .int .i64 (i : Int) ∧ i ≤ p.length ∧ ∃ h nx lv, m = ⟨h, [], nx, lv⟩) (fun i => p.length - i) 0 ?_ ?_
  · simp only [go_sem]
    exact ⟨Nat.zero_le _, _, _, _, rfl⟩
  rintro i ρ m ⟨e13, g1, h, nx, lv, rfl⟩ Q hN hR hX
  by_cases hlt : i < p.length
  · obtain ⟨x, hx⟩ : ∃ x, p[i]? = some x := ⟨_, List.getElem?_eq_getElem hlt⟩
    have hxp : (p.map dStp)[i]? = some (dStp x) := by rw [List.getElem?_map, hx]; rfl
    have hlt' : ((i : Int) < (p.length : Int)) = True := by simp; omega
    have h0 : ((0 : Int) ≤ (i : Int)) = True := by simp
    have ew : IntKind.i64.wrap ((i : Int) + 1) = (i : Int) + 1 := i64_in (by omega) (by omega)
    simp only [go_sem, e13, hlt', h0, hxp, hx, Option.map_some, dStp]
    refine drawn (by kernel_rfl) (by kernel_rfl) ?_
    simp only [go_sem, e13, hlt', h0, hxp, hx, Option.map_some, dStp, kDraw_eq]
    intro nx2 lv2 _ _
    simp only [hN, ew]
    refine ⟨by kernel_rfl, i + 1, ?_, by simp only; omega⟩
    simp only [go_sem]
    exact ⟨by simp, by omega, _, _, _, rfl⟩
  · have hlt' : ((i : Int) < (p.length : Int)) = False := by simp; omega
    simp only [go_sem, e13, hlt', hX]

set_option maxHeartbeats 4000000 in
set_option maxRecDepth 20000 in
theorem f33 (l : List Rt) (hl : l.length ≤ 1000) (hst : ∀ r ∈ l, r.st.length ≤ 1000) : PCall Try.prog 33 [.sl 3 (l.map dRt) .no, .sl 3 (l.map dRt) .no] (RV (.bool true)) := by
  refine PCall.of_body Try.func33 rfl Try.ntmps33 (congrArg Array.toList Try.results33) ?_
  intro E
  simp only [go_sem]
  refine AW_loopH [5, 13, 14, 15, 16, 17, 18, 19, 20, 21, 22, 23, 24, 25, 26, 27, 28, 29, 30, 31, 32, 33, 34, 35, 36, 37, 38, 39, 40, 41, 42, 43, 44, 45, 46, 47, 48, 49, 50, 51, 52, 53, 54]
    (fun (i : Nat) ρ m => ρ 13 = .int .i64 (i : Int) ∧ i ≤ l.length ∧ ∃ h nx lv, m = ⟨h, [], nx, lv⟩) (fun i => l.length - i) 0 ?_ ?_
  · simp only [go_sem]
    exact ⟨Nat.zero_le _, _, _, _, rfl⟩
  rintro i ρ m ⟨e13, g1, h, nx, lv, rfl⟩ Q hN hR hX
  by_cases hlt : i < l.length
  · obtain ⟨x, hx⟩ : ∃ x, l[i]? = some x := ⟨_, List.getElem?_eq_getElem hlt⟩
    have hxp : (l.map dRt)[i]? = some (dRt x) := by rw [List.getElem?_map, hx]; rfl
    have hxs := hst x (List.mem_of_getElem? hx)
    have hlt' : ((i : Int) < (l.length : Int)) = True := by simp; omega
    have h0 : ((0 : Int) ≤ (i : Int)) = True := by simp
    have ew : IntKind.i64.wrap ((i : Int) + 1) = (i : Int) + 1 := i64_in (by omega) (by omega)
    simp only [go_sem, e13, hlt', h0, hxp, hx, Option.map_some, dRt]
    refine drawn (by kernel_rfl) (by kernel_rfl) ?_
    simp only [go_sem, e13, hlt', h0, hxp, hx, Option.map_some, dRt, kDraw_eq]
    refine quietD (f42 x.st (by omega)) (fun _ => rfl) ?_
    simp only [go_sem, kDraw_eq]
    intro nx2 lv2 _ _
    simp only [go_sem, hN, ew]
    refine ⟨by kernel_rfl, i + 1, ?_, by simp only; omega⟩
    simp only [go_sem]
    exact ⟨by simp, by omega, _, _, _, rfl⟩
  · have hlt' : ((i : Int) < (l.length : Int)) = False := by simp; omega
    simp only [go_sem, e13, hlt', hX]

def ShortF (f : Fd) : Prop := ∀ r ∈ f.rs, r.st.length ≤ 16
theorem stepG_short {g : List Stp → Int → Int → Fd → Fd} {n : Net} {fr home : Int} {p : List Stp} (hg : ∀ q s e f, ShortF f → ShortF (g q s e f)) : ∀ (l : List Stp) (f : Fd), ShortF f → ShortF (stepG g n fr home p l f)
  | [], f, h => h
  | x :: l, f, h => by
    rw [stepG_cons]
    split
    · exact h
    · split
      · exact h
      · split
        · exact h
        · split
          · exact stepG_short hg l _ (hg _ _ _ _ h)
          · rename_i h16 _
            refine stepG_short hg l _ ?_
            intro r hr
            simp only [countF, List.mem_append, List.mem_singleton] at hr
            rcases hr with hr | rfl
            · exact h r hr
            · simp; omega
theorem growF_short {n : Net} {fr home : Int} : ∀ (k : Nat) (p : List Stp) (s e : Int) (f : Fd), ShortF f → ShortF (growF n fr home k p s e f)
  | 0, _, _, _, _, h => h
  | k + 1, p, s, e, f, h => stepG_short (fun q s e f h => growF_short k q s e f h) _ _ h
theorem growAll_both {n : Net} : ∀ (l : List Pair) (i : Int) (f : Fd), FOk f ∧ ShortF f → FOk (growAll n l i f) ∧ ShortF (growAll n l i f)
  | [], _, _, h => h
  | x :: l, i, f, h => growAll_both l (i + 1) _ ⟨growF_ok _ _ _ _ _ h.1, growF_short _ _ _ _ _ h.2⟩
theorem outL_bd (n : Net) : (outL (routesF n)).length ≤ 1000 ∧ ∀ r ∈ outL (routesF n), r.st.length ≤ 1000 := by
  obtain ⟨⟨h1, h2, h3, h4⟩, h5⟩ := growAll_both (n := n) n.sigs 0 ⟨[], 0, false⟩ ⟨⟨by simp, by simp, by simp, by simp⟩, fun r hr => by simp at hr⟩
  have h1' : (routesF n).ps ≤ 81 := h2
  have h4' : ((routesF n).rs.length : Int) ≤ (routesF n).ps := h4
  unfold outL
  split
  · simp
  · exact ⟨by omega, fun r hr => Nat.le_trans (h5 r hr) (by omega)⟩
theorem netL_bd (n : Net) : (netL n (outL (routesF n))).length ≤ 1000 ∧ ∀ r ∈ netL n (outL (routesF n)), r.st.length ≤ 1000 := by
  unfold netL
  split
  · exact outL_bd n
  · simp

theorem netE_sigs {n : Net} (h : netE n = 0) : ∀ x ∈ n.sigs, (joinL n.links x.s x.e).isSome = true := by
  have hs : sigsE n = 0 := by
    unfold netE at h
    split at h
    · cases h
    · split at h
      · cases h
      · split at h
        · rename_i h1; exact absurd h h1
        · split at h
          · rename_i h1; exact absurd h h1
          · split at h
            · rename_i h1; exact absurd h h1
            · unfold restE at h
              split at h
              · rename_i h1; exact absurd h h1
              · rename_i h1
                simpa using h1
  intro x hx
  obtain ⟨i, hi⟩ := List.getElem?_of_mem hx
  have := firstE_zero (j := i) hs (Nat.zero_le _) (by have := (List.getElem?_eq_some_iff.1 hi).1; omega)
  unfold sigE at this
  rw [hi] at this
  simp only at this
  split at this
  · cases this
  · split at this
    · cases this
    · rename_i h2
      cases hc : (joinL n.links x.s x.e).isSome with
      | true => rfl
      | false => exact absurd (.inr hc) h2

theorem both_one (n : Net) : netL n (outL (routesF n)) = netL n (outL (routesG n)) ∧ netR n (outE (routesF n)) = netR n (outE (routesG n)) := by
  unfold netL netR
  split
  · rename_i h
    exact eqv_out (eqv_all n n.sigs 0 _ _ (netE_sigs h) ⟨rfl, fun _ => ⟨rfl, rfl⟩⟩)
  · exact ⟨rfl, rfl⟩

set_option maxHeartbeats 4000000 in
set_option maxRecDepth 20000 in
theorem f5 (n : Net) (hb : NetB n) : PCall Try.prog 5 [eNet n] (RV (.bool true)) := by
  refine PCall.of_body Try.func5 rfl Try.ntmps5 (congrArg Array.toList Try.results5) ?_
  intro E
  obtain ⟨o1, o2⟩ := both_one n
  obtain ⟨z1, z2⟩ := netL_bd n
  have h31 := f31 n hb
  have h32 := f32 n hb
  rw [← o1, ← o2] at h32
  generalize netL n (outL (routesF n)) = L at *
  generalize netR n (outE (routesF n)) = e at *
  unfold rtV at h31 h32
  simp only [go_sem, eNet, nCells]
  refine callV h31 ?_
  intro nx lv
  simp only [go_sem]
  refine callV h32 ?_
  intro nx2 lv2
  simp only [go_sem]
  refine callV (f33 L z1 z2) ?_
  intro nx3 lv3
  simp only [go_sem]

theorem law5 (xs : List DV) (h : ElDs Try.prog [28] xs) : PCall Try.prog 5 (xs.map toAV) (RV (.bool true)) := by
  obtain ⟨x, xs, rfl, hx, h⟩ := h.cons_inv
  cases h.nil_inv
  obtain ⟨n, hn, hb⟩ := openNet hx
  simp only [List.map_cons, List.map_nil, hn]
  exact f5 n hb
end Go.Proofs.Yteadhjclchjfjaa
