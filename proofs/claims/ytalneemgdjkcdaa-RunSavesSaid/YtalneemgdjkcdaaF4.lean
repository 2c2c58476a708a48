/- The laws RunGoes and RunCaps over their contracts, for all stocks, ways, places and ends. -/
import Derived.Test.YtalneemgdjkcdaaF3
import Derived.Test.YtalneemgdjkcdaaE9
namespace Go.Proofs.Ytalneemgdjkcdaa
open Go.AB

theorem goL_none {s : Stock} {way : List Piece} {fin top a : Int} (h : goN s way fin top a = none) : goL s way fin top a = [] := by unfold goL; rw [h]
theorem goL_len {s : Stock} {way : List Piece} {fin top a : Int} {k : Nat} (h : goN s way fin top a = some k) : (goL s way fin top a).length = k + 1 := by unfold goL; rw [h]; simp [hist_len]
theorem firstK_le {p : Nat → Bool} : ∀ {n k r : Nat}, firstK p n k = some r → r < n + k
  | 0, k, r, h => by simp [firstK] at h
  | n + 1, k, r, h => by
    simp only [firstK] at h
    split at h
    · cases h; omega
    · have := firstK_le h; omega
theorem goL_small (s : Stock) (way : List Piece) (fin top a : Int) : (goL s way fin top a).length ≤ 3601 := by
  cases h : goN s way fin top a with
  | none => rw [goL_none h]; simp
  | some k => rw [goL_len h]; have := firstK_le h; omega
def goE (s : Stock) (way : List Piece) (fin top a : Int) : Int := if (goN s way fin top a).isSome = true then 0 else 4
def goV (s : Stock) (way : List Piece) (fin top a : Int) : AV := .sl 3 ((goL s way fin top a).map dSta) .no

set_option maxHeartbeats 4000000 in
set_option maxRecDepth 20000 in
theorem f81 (s : Stock) (way : List Piece) (a fin top : Int) (hc : checkS s = 0) (hw : way.all pieceOk = true) (hw0 : way ≠ []) (hl : way.length ≤ 60)
    (ha : 0 ≤ a) (ha2 : a ≤ fin) (hf : fin ≤ 18000000) (ht0 : 0 ≤ top) (ht : top ≤ 6000) :
    PCall Try.prog 81 [eStock s, waysV way, .int .i64 a, .int .i64 fin, .int .i64 top] (RV (.tup [goV s way fin top a, .int .i64 (goE s way fin top a)])) := by
  refine PCall.of_bodySE Try.func81 rfl Try.ntmps81 (congrArg Array.toList Try.results81) ?_
  intro E
  refine AW_of ?_
  simp only [go_sem, eStock, waysV]
  refine callX.share (new71 s way fin top _ _ _ hw hl) ?_
  rintro m' r ⟨h', nx', lv', i, G, G2, rfl, rfl, b19, b17, g2, g3, g4, g5, g6⟩
  simp only [go_sem]
  refine .inr (effX.share (run112 s way a fin top h' nx' lv' G G2 _ b19 b17 hc hw hw0 hl ha ha2 hf ht0 ht) ?_)
  rintro m2 r ⟨h2, nx2, lv2, rfl, ⟨hgo, rfl⟩ | ⟨k, G3, c, cs, hgo, rfl, b50, htk, hcl, hle⟩⟩
  · simp only [go_sem]
    refine .inl ?_
    simp only [go_sem, goV, goL_none hgo, goE, hgo, Option.isSome]
  · simp only [go_sem]
    have hgl := goL_len hgo
    refine .inr ⟨3, _, (goL s way fin top a).map dSta, [.int .i64 0], rfl, ⟨.own 50 G3, c, cs, ?_, ?_, ?_, hcl, ?_, ?_⟩, rfl, ?_⟩
    · simp [hgl]
    · simp [go_sem, b50]
    · simp [hgl]; omega
    · have e : ((goL s way fin top a).map dSta).length = k + 1 := by simp [hgl]
      rw [e, htk]
      exact toDs_cellsS _
    · intro i e he
      rw [List.getElem?_map] at he
      cases hx : (goL s way fin top a)[i]? with
      | none => rw [hx] at he; cases he
      | some x => rw [hx] at he; cases he; rfl
    · simp only [go_sem, goV, goE, hgo, Option.isSome]

/-- The error of a run, and its states. -/
def runE (s : Stock) (way : List Piece) (fin top a : Int) : Int := if secErr s way ⟨a, 0, 0⟩ fin ≠ 0 then secErr s way ⟨a, 0, 0⟩ fin else goE s way fin top a
def runV (s : Stock) (way : List Piece) (fin top a : Int) : AV := if secErr s way ⟨a, 0, 0⟩ fin ≠ 0 then .sl 3 [] .no else goV s way fin top a
theorem run_ok {s : Stock} {way : List Piece} {fin a : Int} (h : secErr s way ⟨a, 0, 0⟩ fin = 0) : checkS s = 0 ∧ way.all pieceOk = true ∧ way ≠ [] ∧ way.length ≤ 60 ∧ 0 ≤ a ∧ a ≤ fin ∧ fin ≤ 18000000 ∧ 500 ≤ s.top ∧ s.top ≤ 6000 := by
  obtain ⟨hc, hwe, hf, hp, hv, hk⟩ := secErr_ok h
  obtain ⟨hw0, hl, hw⟩ := wayErr_ok hwe
  have hkc := checkS_ok hc
  have htb := total_bd hw hl
  simp only at hp
  exact ⟨hc, hw, hw0, hl, hp.1, hp.2, by omega, by omega, by omega⟩

set_option maxHeartbeats 4000000 in
set_option maxRecDepth 20000 in
theorem f36 (s : Stock) (way : List Piece) (a fin : Int) (hs : s.name.length ≤ 140737488351232) :
    PCall Try.prog 36 [eStock s, waysV way, .int .i64 a, .int .i64 fin] (RV (.tup [runV s way fin s.top a, .int .i64 (runE s way fin s.top a)])) := by
  refine PCall.of_bodyE Try.func36 rfl Try.ntmps36 (congrArg Array.toList Try.results36) ?_
  intro E
  simp (config := {maxSteps := 1000000}) only [go_sem, eStock, waysV]
  refine callV (f70 s way ⟨a, 0, 0⟩ fin hs) ?_
  intro nx lv
  by_cases h : secErr s way ⟨a, 0, 0⟩ fin = 0
  · obtain ⟨hc, hw, hw0, hl, ha, ha2, hf, ht0, ht⟩ := run_ok h
    simp only [go_sem, h]
    refine callV (f81 s way a fin s.top hc hw hw0 hl ha ha2 hf (by omega) ht) ?_
    intro nx lv
    simp only [go_sem, goV, runV, runE, h]
  · simp only [go_sem, h, runV, runE]

theorem f83' (n a b : Int) : PCall Try.prog 83 [.int .i64 n, .int .i64 a, .int .i64 b] (RV (.bool (within n a b))) := f83 n a b

def capE (s : Stock) (way : List Piece) (fin lim a : Int) : Int := if secErr s way ⟨a, 0, 0⟩ fin ≠ 0 then secErr s way ⟨a, 0, 0⟩ fin else if within lim 500 6000 = false then 2 else goE s way fin (min s.top lim) a
def capV (s : Stock) (way : List Piece) (fin lim a : Int) : AV := if secErr s way ⟨a, 0, 0⟩ fin ≠ 0 then .sl 3 [] .no else if within lim 500 6000 = false then .sl 3 [] .no else goV s way fin (min s.top lim) a
theorem within_iff {n a b : Int} : within n a b = true ↔ a ≤ n ∧ n ≤ b := by simp [within]

set_option maxHeartbeats 4000000 in
set_option maxRecDepth 20000 in
theorem f40 (s : Stock) (way : List Piece) (a fin lim : Int) (hs : s.name.length ≤ 140737488351232) :
    PCall Try.prog 40 [eStock s, waysV way, .int .i64 a, .int .i64 fin, .int .i64 lim] (RV (.tup [capV s way fin lim a, .int .i64 (capE s way fin lim a)])) := by
  refine PCall.of_bodyE Try.func40 rfl Try.ntmps40 (congrArg Array.toList Try.results40) ?_
  intro E
  simp (config := {maxSteps := 1000000}) only [go_sem, eStock, waysV]
  refine callV (f70 s way ⟨a, 0, 0⟩ fin hs) ?_
  intro nx lv
  by_cases h : secErr s way ⟨a, 0, 0⟩ fin = 0
  · obtain ⟨hc, hw, hw0, hl, ha, ha2, hf, ht0, ht⟩ := run_ok h
    simp only [go_sem, h]
    refine callV (f83 lim 500 6000) ?_
    intro nx lv
    by_cases h2 : within lim 500 6000 = true
    · have h3 := within_iff.1 h2
      simp only [go_sem, h2]
      refine callV (f81 s way a fin (min s.top lim) hc hw hw0 hl ha ha2 hf (by omega) (by omega)) ?_
      intro nx lv
      simp only [go_sem, goV, capV, capE, h, h2]
    · have h2 : within lim 500 6000 = false := by simpa using h2
      simp only [go_sem, h2, capV, capE, h]
  · simp only [go_sem, h, capV, capE]

set_option maxHeartbeats 4000000 in
set_option maxRecDepth 20000 in
/-- A list of states is equal to itself. -/
theorem f82 (l : List Sta) (hl : l.length ≤ 140737488351232) : PCall Try.prog 82 [.sl 3 (l.map dSta) .no, .sl 3 (l.map dSta) .no] (RV (.bool true)) := by
  refine PCall.of_body Try.func82 rfl Try.ntmps82 (congrArg Array.toList Try.results82) ?_
  intro E
  simp only [go_sem]
  refine AW_loopH [4, 5, 13, 14, 15, 16, 17, 18, 19, 20, 21, 22, 23, 24, 25]
    (fun (i : Nat) ρ m => ρ 13 = .int .i64 (i : Int) ∧ i ≤ l.length ∧ ∃ h nx lv, m = ⟨h, [], nx, lv⟩) (fun i => l.length - i) 0 ?_ ?_
  · simp only [go_sem]
    exact ⟨Nat.zero_le _, _, _, _, rfl⟩
  · rintro i ρ m ⟨e1, g1, h, nx, lv, rfl⟩ Q hN hR hX
    by_cases hlt : i < l.length
    · obtain ⟨p, hp⟩ : ∃ p, l[i]? = some p := ⟨_, List.getElem?_eq_getElem hlt⟩
      have hlt' : ((i : Int) < (l.length : Int)) = True := by simp; omega
      have h0 : ((0 : Int) ≤ (i : Int)) = True := by simp
      have ew : IntKind.i64.wrap ((i : Int) + 1) = (i : Int) + 1 := i64_in (by omega) (by omega)
      simp only [go_sem, e1, hlt']
      refine drawn (by kernel_rfl) (by kernel_rfl) ?_
      simp only [go_sem, hp, dSta, h0, ew, hN]
      refine fun _ _ _ _ => ⟨by kernel_rfl, i + 1, ?_, by simp only; omega⟩
      simp only [go_sem]
      exact ⟨by simp, by omega, _, _, _, rfl⟩
    · have hlt' : ((i : Int) < (l.length : Int)) = False := by simp; omega
      simp only [go_sem, e1, hX, hlt']

set_option maxHeartbeats 4000000 in
set_option maxRecDepth 20000 in
theorem f37 (s : Stock) (way : List Piece) (a fin top : Int) (hc : checkS s = 0) (hw : way.all pieceOk = true) (hw0 : way ≠ []) (hl : way.length ≤ 60)
    (ha : 0 ≤ a) (ha2 : a ≤ fin) (hf : fin ≤ 18000000) (ht0 : 0 ≤ top) (ht : top ≤ 6000) :
    PCall Try.prog 37 [goV s way fin top a, .int .i64 (goE s way fin top a), eStock s, waysV way, .int .i64 a, .int .i64 fin, .int .i64 top] (RV (.bool true)) := by
  refine PCall.of_body Try.func37 rfl Try.ntmps37 (congrArg Array.toList Try.results37) ?_
  intro E
  simp only [go_sem, goV, eStock, waysV]
  refine callV (f39 s way a fin top hc hw hw0 hl ha ha2 hf ht0 ht) ?_
  intro nx lv
  by_cases h : (goN s way fin top a).isSome = true
  · have he : goE s way fin top a = 0 := by simp [goE, h]
    simp only [go_sem, h, he]
    refine callV (f82 _ (by have := goL_small s way fin top a; omega)) ?_
    intro nx lv
    simp only [go_sem]
  · have h : (goN s way fin top a).isSome = false := by simpa using h
    have he : goE s way fin top a = 4 := by simp [goE, h]
    have hn : goL s way fin top a = [] := goL_none (by simpa using h)
    simp only [go_sem, h, he, hn]

set_option maxHeartbeats 4000000 in
set_option maxRecDepth 20000 in
theorem f6 (s : Stock) (way : List Piece) (a fin : Int) (hs : s.name.length ≤ 140737488351232) :
    PCall Try.prog 6 [eStock s, waysV way, .int .i64 a, .int .i64 fin] (RV (.bool true)) := by
  refine PCall.of_body Try.func6 rfl Try.ntmps6 (congrArg Array.toList Try.results6) ?_
  intro E
  simp (config := {maxSteps := 1000000}) only [go_sem, eStock, waysV]
  refine callV (f36 s way a fin hs) ?_
  intro nx lv
  by_cases h : secErr s way ⟨a, 0, 0⟩ fin = 0
  · obtain ⟨hc, hw, hw0, hl, ha, ha2, hf, ht0, ht⟩ := run_ok h
    have e1 : runV s way fin s.top a = goV s way fin s.top a := by simp [runV, h]
    have e2 : runE s way fin s.top a = goE s way fin s.top a := by simp [runE, h]
    simp only [go_sem, e1, e2, goV]
    refine callV (f34 s way ⟨a, 0, 0⟩ fin hs) ?_
    intro nx lv
    simp only [go_sem, h]
    refine callV (f37 s way a fin s.top hc hw hw0 hl ha ha2 hf (by omega) ht) ?_
    intro nx lv
    simp only [go_sem]
  · have e1 : runV s way fin s.top a = .sl 3 [] .no := by simp [runV, h]
    have e2 : runE s way fin s.top a = secErr s way ⟨a, 0, 0⟩ fin := by simp [runE, h]
    simp only [go_sem, e1, e2]
    refine callV (f34 s way ⟨a, 0, 0⟩ fin hs) ?_
    intro nx lv
    simp only [go_sem, h]

set_option maxHeartbeats 4000000 in
set_option maxRecDepth 20000 in
theorem f8 (s : Stock) (way : List Piece) (a fin lim : Int) (hs : s.name.length ≤ 140737488351232) :
    PCall Try.prog 8 [eStock s, waysV way, .int .i64 a, .int .i64 fin, .int .i64 lim] (RV (.bool true)) := by
  refine PCall.of_body Try.func8 rfl Try.ntmps8 (congrArg Array.toList Try.results8) ?_
  intro E
  simp (config := {maxSteps := 1000000}) only [go_sem, eStock, waysV]
  refine callV (f40 s way a fin lim hs) ?_
  intro nx lv
  by_cases h : secErr s way ⟨a, 0, 0⟩ fin = 0
  · obtain ⟨hc, hw, hw0, hl, ha, ha2, hf, ht0, ht⟩ := run_ok h
    by_cases h2 : within lim 500 6000 = true
    · have h3 := within_iff.1 h2
      have a1 : (lim < 500) = False := by simp; omega
      have a2 : (6000 < lim) = False := by simp; omega
      have e1 : capV s way fin lim a = goV s way fin (min s.top lim) a := by simp [capV, h, h2]
      have e2 : capE s way fin lim a = goE s way fin (min s.top lim) a := by simp [capE, h, h2]
      simp only [go_sem, e1, e2, goV]
      refine callV (f34 s way ⟨a, 0, 0⟩ fin hs) ?_
      intro nx lv
      simp only [go_sem, h, a1, a2]
      refine callV (f37 s way a fin (min s.top lim) hc hw hw0 hl ha ha2 hf (by omega) (by omega)) ?_
      intro nx lv
      simp only [go_sem]
    · have h2 : within lim 500 6000 = false := by simpa using h2
      have e1 : capV s way fin lim a = .sl 3 [] .no := by simp [capV, h, h2]
      have e2 : capE s way fin lim a = 2 := by simp [capE, h, h2]
      simp only [go_sem, e1, e2]
      refine callV (f34 s way ⟨a, 0, 0⟩ fin hs) ?_
      intro nx lv
      by_cases a1 : lim < 500
      · simp only [go_sem, h, a1]
      · have a2 : 6000 < lim := by simp [within] at h2; omega
        simp only [go_sem, h, a1, a2]
  · have e1 : capV s way fin lim a = .sl 3 [] .no := by simp [capV, h]
    have e2 : capE s way fin lim a = secErr s way ⟨a, 0, 0⟩ fin := by simp [capE, h]
    simp only [go_sem, e1, e2]
    refine callV (f34 s way ⟨a, 0, 0⟩ fin hs) ?_
    intro nx lv
    simp only [go_sem, h]

theorem law6 (xs : List DV) (h : ElDs Try.prog [60, 61, 3, 3] xs) : PCall Try.prog 6 (xs.map toAV) (RV (.bool true)) := by
  obtain ⟨x, xs, rfl, hx, h⟩ := h.cons_inv
  obtain ⟨y, xs, rfl, hy, h⟩ := h.cons_inv
  obtain ⟨z, xs, rfl, hz, h⟩ := h.cons_inv
  obtain ⟨u, xs, rfl, hu, h⟩ := h.cons_inv
  cases h.nil_inv
  obtain ⟨s, rfl, hs, _⟩ := openStock hx
  obtain ⟨way, hway, _⟩ := openWay hy
  obtain ⟨a, rfl, _⟩ := hz.int_inv Try.underlying3
  obtain ⟨v, rfl, _⟩ := hu.int_inv Try.underlying3
  simp only [List.map_cons, List.map_nil, eStock_eq, hway, toAV]
  exact f6 s way a v hs
theorem law8 (xs : List DV) (h : ElDs Try.prog [60, 61, 3, 3, 3] xs) : PCall Try.prog 8 (xs.map toAV) (RV (.bool true)) := by
  obtain ⟨x, xs, rfl, hx, h⟩ := h.cons_inv
  obtain ⟨y, xs, rfl, hy, h⟩ := h.cons_inv
  obtain ⟨z, xs, rfl, hz, h⟩ := h.cons_inv
  obtain ⟨u, xs, rfl, hu, h⟩ := h.cons_inv
  obtain ⟨t, xs, rfl, ht, h⟩ := h.cons_inv
  cases h.nil_inv
  obtain ⟨s, rfl, hs, _⟩ := openStock hx
  obtain ⟨way, hway, _⟩ := openWay hy
  obtain ⟨a, rfl, _⟩ := hz.int_inv Try.underlying3
  obtain ⟨v, rfl, _⟩ := hu.int_inv Try.underlying3
  obtain ⟨w, rfl, _⟩ := ht.int_inv Try.underlying3
  simp only [List.map_cons, List.map_nil, eStock_eq, hway, toAV]
  exact f8 s way a v w hs
end Go.Proofs.Ytalneemgdjkcdaa
