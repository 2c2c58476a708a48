/- The law RunSeconds over its contracts, for all stocks, ways, states and ends. -/
import Derived.Test.YtalneemgdjkcdaaE8
namespace Go.Proofs.Ytalneemgdjkcdaa
open Go.AB

theorem openStock {x : DV} (h : ElD Try.prog 60 x) : ∃ s : Stock, x = dStock s ∧ s.name.length ≤ 140737488351232 ∧ (inR s.len ∧ inR s.mass ∧ inR s.start ∧ inR s.power ∧ inR s.roll ∧ inR s.drag ∧ inR s.brake ∧ inR s.top ∧ inR s.seats) := by
  obtain ⟨cs, rfl, k⟩ := h.agg_inv Try.underlying60 rfl
  clear h
  obtain ⟨c, r, rfl, h0, h⟩ := k.cons_inv
  clear k
  obtain ⟨nm, rfl, hnm⟩ := h0.str_inv Try.underlying9
  obtain ⟨ns, h1, rfl, h2⟩ := TyDs.ints (f := leafI Try.prog 4) (fun t n cs h hc => TyD.ints 4 t n cs h hc) _ 9 _ (by kernel_rfl) h
  match ns, h1 with
  | [a, b, c, d, e, f, g, i, j], _ =>
    refine ⟨⟨nm, a, b, c, d, e, f, g, i, j⟩, rfl, hnm, ?_⟩
    simp only [List.mem_cons, List.not_mem_nil, or_false, forall_eq_or_imp, forall_eq] at h2
    exact h2
theorem openPiece {x : DV} (h : ElD Try.prog 150 x) : ∃ a : Piece, x = dPiece a := by
  obtain ⟨ns, h1, rfl, _⟩ := h.ints 4 (n := 3) (by kernel_rfl) (by kernel_rfl)
  match ns, h1 with
  | [a, b, c], _ => exact ⟨⟨a, b, c⟩, rfl⟩
theorem openWay {x : DV} (h : ElD Try.prog 61 x) : ∃ l : List Piece, toAV x = waysV l ∧ l.length * 24 ≤ 140737488351232 := by
  obtain ⟨es, rfl, h1, h2⟩ := h.sl_inv Try.underlying61 (z := 3) (y := 24) (by kernel_rfl) (by kernel_rfl)
  obtain ⟨l, rfl, _⟩ := map_of_each (f := dPiece) (p := fun _ => True) es (fun y hy => by
    obtain ⟨a, ha⟩ := openPiece (h2 y hy)
    exact ⟨a, ha, trivial⟩)
  exact ⟨l, rfl, by simpa using h1⟩
theorem openSta {x : DV} (h : ElD Try.prog 63 x) : ∃ a : Sta, toAV x = eSta a := by
  obtain ⟨ns, h1, rfl, _⟩ := h.ints 4 (n := 3) (by kernel_rfl) (by kernel_rfl)
  match ns, h1 with
  | [a, b, c], _ => exact ⟨⟨a, b, c⟩, rfl⟩

set_option maxHeartbeats 4000000 in
set_option maxRecDepth 20000 in
theorem f5 (s : Stock) (way : List Piece) (x : Sta) (fin : Int) (hs : s.name.length ≤ 140737488351232) :
    PCall Try.prog 5 [eStock s, waysV way, eSta x, .int .i64 fin] (RV (.bool true)) := by
  refine PCall.of_body Try.func5 rfl Try.ntmps5 (congrArg Array.toList Try.results5) ?_
  intro E
  simp (config := {maxSteps := 1000000}) only [go_sem, eStock, eSta, waysV]
  refine callV (f33 s way x fin hs) ?_
  intro nx lv
  simp (config := {maxSteps := 1000000}) only [go_sem, eSta]
  refine callV (f34 s way x fin hs) ?_
  intro nx lv
  by_cases h : secErr s way x fin = 0
  · obtain ⟨hc, hwe, hf, hp, hv, hk⟩ := secErr_ok h
    obtain ⟨hw0, hl, hw⟩ := wayErr_ok hwe
    have hkc := checkS_ok hc
    have htb := total_bd hw hl
    have hv : secV s way x fin s.top = nextF s way x fin s.top := by simp [secV, h]
    simp (config := {maxSteps := 1000000}) only [go_sem, h, hv]
    refine drawn (by kernel_rfl) (by kernel_rfl) ?_
    simp (config := {maxSteps := 1000000}) only [go_sem]
    refine quietD (f35 s way x fin s.top 0 hc hw hw0 hl ⟨by omega, by omega, by omega, by omega, by omega, by omega⟩ (by omega) (by omega) (by omega) (by omega) (by omega) (by omega)) (fun _ => rfl) ?_
    simp (config := {maxSteps := 1000000}) only [go_sem, eSta]
  · have hv : secV s way x fin s.top = ⟨0, 0, 0⟩ := by simp [secV, h]
    simp (config := {maxSteps := 1000000}) only [go_sem, h, hv]

theorem law5 (xs : List DV) (h : ElDs Try.prog [60, 61, 63, 3] xs) : PCall Try.prog 5 (xs.map toAV) (RV (.bool true)) := by
  obtain ⟨x, xs, rfl, hx, h⟩ := h.cons_inv
  obtain ⟨y, xs, rfl, hy, h⟩ := h.cons_inv
  obtain ⟨z, xs, rfl, hz, h⟩ := h.cons_inv
  obtain ⟨u, xs, rfl, hu, h⟩ := h.cons_inv
  cases h.nil_inv
  obtain ⟨s, rfl, hs, _⟩ := openStock hx
  obtain ⟨way, hway, _⟩ := openWay hy
  obtain ⟨st, hst⟩ := openSta hz
  obtain ⟨v, rfl, _⟩ := hu.int_inv Try.underlying3
  simp only [List.map_cons, List.map_nil, eStock_eq, hway, hst, toAV]
  exact f5 s way st v hs
end Go.Proofs.Ytalneemgdjkcdaa
