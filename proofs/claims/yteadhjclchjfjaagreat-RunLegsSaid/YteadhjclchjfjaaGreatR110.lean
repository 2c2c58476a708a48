/- The states of a run. -/
import Derived.Test.YteadhjclchjfjaaGreatR100
import Derived.Test.YteadhjclchjfjaaGreatB140
namespace Go.Proofs.YteadhjclchjfjaaGreat
set_option linter.unusedSimpArgs false
set_option linter.unusedVariables false
open Go.AB

/-- The states of a run, one by one. -/
def stAt (s : Stock) (way : List Piece) (fin top a : Int) : Nat → Sta
  | 0 => ⟨a, 0, 0⟩
  | k + 1 => nextF s way (stAt s way fin top a k) fin top
def doneS (fin : Int) (x : Sta) : Bool := decide (x.v = 0) && decide (fin - x.pos ≤ 100)
def firstK (p : Nat → Bool) : Nat → Nat → Option Nat
  | 0, _ => none
  | f + 1, k => if p k = true then some k else firstK p f (k + 1)
/-- When a run ends. -/
def goN (s : Stock) (way : List Piece) (fin top a : Int) : Option Nat := firstK (fun k => doneS fin (stAt s way fin top a k)) 3601 0
def hist (f : Nat → Sta) (n : Nat) : List Sta := (List.range n).map f
def ended (fin : Int) (x : Sta) : Sta := ⟨fin, x.v, x.work⟩
/-- The states of a run that ends in time. -/
def goL (s : Stock) (way : List Piece) (fin top a : Int) : List Sta := match goN s way fin top a with
  | some k => hist (stAt s way fin top a) k ++ [ended fin (stAt s way fin top a k)]
  | none => []

def staC (x : Sta) : List AV := [.int .i64 x.pos, .int .i64 x.v, .int .i64 x.work]
def cellsS (l : List Sta) : List AV := l.flatMap staC
theorem cellsS_len (l : List Sta) : (cellsS l).length = l.length * 3 := by
  induction l with
  | nil => rfl
  | cons x l ih =>
    simp only [cellsS, List.flatMap_cons, List.length_append, List.length_cons] at ih ⊢
    rw [ih]
    simp only [staC, List.length_cons, List.length_nil]
    omega
theorem cellsS_app (l r : List Sta) : cellsS (l ++ r) = cellsS l ++ cellsS r := by simp [cellsS]
theorem cellsS_one (x : Sta) : cellsS [x] = staC x := by simp [cellsS]
theorem toDs_app : ∀ {a b : List AV} {x y : List DV}, toDs a = some x → toDs b = some y → toDs (a ++ b) = some (x ++ y)
  | [], b, x, y, h, k => by cases h; exact k
  | c :: a, b, x, y, h, k => by
    simp only [toDs] at h
    split at h
    · cases h
    · rename_i d hd
      split at h
      · cases h
      · rename_i ds hds
        cases h
        have := toDs_app hds k
        simp only [List.cons_append, toDs, hd, this]
theorem toDs_cellsS (l : List Sta) : toDs (cellsS l) = some ((l.map dSta).flatMap dcells) := by
  induction l with
  | nil => rfl
  | cons x l ih =>
    have h1 : toDs (staC x) = some (dcells (dSta x)) := rfl
    have := toDs_app h1 ih
    simpa [cellsS] using this
theorem hist_succ (f : Nat → Sta) (n : Nat) : hist f (n + 1) = hist f n ++ [f n] := by simp [hist, List.range_succ]
theorem hist_len (f : Nat → Sta) (n : Nat) : (hist f n).length = n := by simp [hist]

/-- What is known of the states of a run so far. -/
structure Cells (f : Nat → Sta) (k : Nat) (c : Nat) (cs : List AV) : Prop where
  le : k + 1 ≤ c
  len : cs.length = c * 3
  old : cs.take (k * 3) = cellsS (hist f k)
  now : cs.drop (k * 3) = staC (f k) ++ cs.drop ((k + 1) * 3)
theorem Cells.take {f : Nat → Sta} {k c : Nat} {cs : List AV} (h : Cells f k c cs) : cs.take ((k + 1) * 3) = cellsS (hist f (k + 1)) := by
  rw [hist_succ, cellsS_app, cellsS_one, ← h.old]
  have e : (k + 1) * 3 = k * 3 + 3 := by omega
  rw [e, List.take_add, h.now]
  rfl
theorem Cells.first (f : Nat → Sta) : Cells f 0 1 (staC (f 0)) := ⟨Nat.le_refl _, rfl, rfl, rfl⟩
theorem Cells.next {f : Nat → Sta} {k c c' : Nat} {cs sp : List AV} (h : Cells f k c cs) (hc : k + 1 + 1 ≤ c') (hs : sp.length = (c' - (k + 1 + 1)) * 3) : Cells f (k + 1) c' (cs.take ((k + 1) * 3) ++ staC (f (k + 1)) ++ sp) := by
  have hl : (cs.take ((k + 1) * 3)).length = (k + 1) * 3 := by
    rw [List.length_take, h.len]
    have := h.le
    omega
  have hl2 : (staC (f (k + 1))).length = 3 := rfl
  refine ⟨hc, ?_, ?_, ?_⟩
  · rw [List.length_append, List.length_append, hl, hl2, hs]
    omega
  · rw [List.append_assoc, List.take_left' hl, h.take]
  · rw [List.append_assoc, List.drop_left' hl]
    congr 1
    have e : (k + 1 + 1) * 3 = (k + 1) * 3 + 3 := by omega
    rw [e, ← List.drop_drop, List.drop_left' hl, List.drop_left' hl2]
theorem Cells.d0 {f : Nat → Sta} {k c : Nat} {cs : List AV} (h : Cells f k c cs) : cs.drop (0 + k * 3) = .int .i64 (f k).pos :: .int .i64 (f k).v :: .int .i64 (f k).work :: cs.drop ((k + 1) * 3) := by
  rw [Nat.zero_add]; exact h.now
theorem Cells.d1 {f : Nat → Sta} {k c : Nat} {cs : List AV} (h : Cells f k c cs) : cs.drop (0 + k * 3 + 1) = .int .i64 (f k).v :: .int .i64 (f k).work :: cs.drop ((k + 1) * 3) := by
  rw [← List.drop_drop, h.d0]; rfl
theorem Cells.t0 {f : Nat → Sta} {k c : Nat} {cs : List AV} (h : Cells f k c cs) : cs.take (0 + k * 3) = cellsS (hist f k) := by
  rw [Nat.zero_add]; exact h.old
/-- The last state is at the end. -/
theorem Cells.fin {f : Nat → Sta} {k c : Nat} {cs : List AV} (h : Cells f k c cs) (fin : Int) : (cs.take (0 + k * 3) ++ [AV.int .i64 fin] ++ cs.drop (0 + k * 3 + 1)).take ((k + 1) * 3) = cellsS (hist f k ++ [ended fin (f k)]) ∧
    (cs.take (0 + k * 3) ++ [AV.int .i64 fin] ++ cs.drop (0 + k * 3 + 1)).length = c * 3 := by
  have hl : (cellsS (hist f k)).length = k * 3 := by rw [cellsS_len, hist_len]
  rw [h.t0, h.d1, cellsS_app, cellsS_one]
  refine ⟨?_, ?_⟩
  · have e : (k + 1) * 3 = k * 3 + 3 := by omega
    rw [e, List.append_assoc, List.take_add, List.take_left' hl, List.drop_left' hl]
    rfl
  · have h1 := congrArg List.length h.now
    have h2 := h.len
    have h3 := h.le
    simp only [List.length_drop, List.length_append, staC, List.length_cons, List.length_nil] at h1
    simp only [List.length_append, List.length_cons, List.length_nil, hl, List.length_drop]
    omega

theorem stAt_ok {s : Stock} {way : List Piece} {fin top a : Int} (hc : checkS s = 0) (hw : way.all pieceOk = true) (ht : top ≤ 6000) (h0 : 0 ≤ a) (h1 : a ≤ 18000000) : ∀ k : Nat, k ≤ 3601 → StaOk (stAt s way fin top a k) (73200000000 * k) ∧ (stAt s way fin top a k).pos ≤ a + 6000 * k
  | 0, _ => ⟨⟨by simp only [stAt]; omega, by simp only [stAt]; omega, by simp [stAt], by simp [stAt], by simp [stAt], by simp [stAt]⟩, by simp [stAt]⟩
  | k + 1, hk => by
    obtain ⟨g1, g2⟩ := stAt_ok (fin := fin) (top := top) hc hw ht h0 h1 k (by omega)
    obtain ⟨g3, g4⟩ := next_ok (fin := fin) (top := top) hc g1 hw ht (by omega)
    simp only [stAt]
    refine ⟨?_, by push_cast; omega⟩
    have e : 73200000000 * ((k + 1 : Nat) : Int) = 73200000000 * (k : Int) + 73200000000 := by push_cast; omega
    rw [e]; exact g3

theorem firstK_hit {p : Nat → Bool} {n k : Nat} {r : Option Nat} (h : p k = true) (g : firstK p (n + 1 - k) k = r) (hk : k ≤ n) : r = some k := by
  have e : n + 1 - k = (n - k) + 1 := by omega
  rw [e] at g
  simp only [firstK, h, if_true] at g
  exact g.symm
theorem firstK_go {p : Nat → Bool} {n k : Nat} {r : Option Nat} (h : p k = false) (g : firstK p (n + 1 - k) k = r) (hk : k ≤ n) : firstK p (n + 1 - (k + 1)) (k + 1) = r := by
  have e : n + 1 - k = (n + 1 - (k + 1)) + 1 := by omega
  rw [e] at g
  simpa [firstK, h] using g
theorem firstK_end {p : Nat → Bool} {n k : Nat} {r : Option Nat} (g : firstK p (n + 1 - k) k = r) (hk : n < k) : r = none := by
  have e : n + 1 - k = 0 := by omega
  rw [e] at g
  exact g.symm
end Go.Proofs.YteadhjclchjfjaaGreat

/- The reference's runs. -/
namespace Go.Proofs.YteadhjclchjfjaaGreat
set_option linter.unusedSimpArgs false
set_option linter.unusedVariables false
open Go.AB

set_option maxHeartbeats 4000000 in
set_option maxRecDepth 20000 in
theorem f35 (s : Stock) (way : List Piece) (a fin top : Int) (hc : checkS s = 0) (hw : way.all pieceOk = true) (hw0 : way ≠ []) (hl : way.length ≤ 60)
    (ha : 0 ≤ a) (ha2 : a ≤ fin) (hf : fin ≤ 18000000) (ht0 : 0 ≤ top) (ht : top ≤ 6000) :
    PCall Tryz.prog 35 [eStock s, waysV way, .int .i64 a, .int .i64 fin, .int .i64 top] (RV (.tup [.sl 3 ((goL s way fin top a).map dSta) .no, .bool (goN s way fin top a).isSome])) := by
  refine PCall.of_bodySE Tryz.func35 rfl Tryz.ntmps35 (congrArg Array.toList Tryz.results35) ?_
  intro E
  refine AW_seq (AW_of ?_)
  simp only [go_sem, eStock, waysV]
  refine AW_seq (AW_regionM 2 55 ?_)
  simp only [go_sem]
  refine AW_of ?_
  simp only [go_sem]
  have hst := stAt_ok (fin := fin) (top := top) hc hw ht ha (by omega : a ≤ 18000000)
  generalize hF : stAt s way fin top a = f at hst
  have hf0 : f 0 = ⟨a, 0, 0⟩ := by rw [← hF]; rfl
  have hfs : ∀ k, f (k + 1) = nextF s way (f k) fin top := fun k => by rw [← hF]; rfl
  have hgN : goN s way fin top a = firstK (fun k => doneS fin (f k)) 3601 0 := by rw [← hF]; rfl
  refine AW_loopH [10, 11, 12, 13, 17, 18, 19, 20, 21, 22, 23, 24, 25, 26, 27, 28, 29, 30, 31, 32, 33, 34, 35, 36, 37, 38, 39, 40, 41, 42, 43, 44, 45, 46, 47, 48, 49, 50, 51, 52, 53, 54, 55]
    (fun (k : Nat) ρ m => k ≤ 3600 ∧ firstK (fun k => doneS fin (f k)) (3600 + 1 - k) k = goN s way fin top a ∧
      ∃ G c h nx lv cs, ρ 12 = .msl (.own 55 G) 0 (k + 1) c ∧ m = ⟨h, [], nx, lv⟩ ∧ AB.hget h 5 = some (0, sBox s) ∧ AB.hget h 55 = some (G, cs) ∧ Cells f k c cs) (fun k => 3600 - k) 0 ?_ ?_
  · have hs0 : staC (f 0) = [.int .i64 a, .int .i64 0, .int .i64 0] := by rw [hf0]; rfl
    refine ⟨Nat.zero_le _, hgN.symm, 0, 1, _, _, _, staC (f 0), by simp only [go_sem], rfl, by simp [go_sem, sBox, sCells], by simp [go_sem, hs0], Cells.first f⟩
  · rintro k ρ m ⟨g1, g2, G, c, h, nx, lv, cs, e12, rfl, b5, b55, hC⟩ Q hN hR hX
    have hlen : IntKind.i64.wrap (((k + 1 : Nat) : Int) - 1) = (k : Int) := by rw [i64_in (by omega) (by omega)]; omega
    obtain ⟨hok, p2⟩ := hst k (by omega)
    have hok' := hok
    obtain ⟨p0, p1, v0, v1, w0, w1⟩ := hok
    have ew : IntKind.i64.wrap (fin - (f k).pos) = fin - (f k).pos := i64_in (by omega) (by omega)
    have h00 : List.drop (0 + k * 3 + 0) cs = .int .i64 (f k).pos :: .int .i64 (f k).v :: .int .i64 (f k).work :: cs.drop ((k + 1) * 3) := by rw [Nat.add_zero]; exact hC.d0
    have hlk : ((k : Int) < ((k + 1 : Nat) : Int)) = True := by simp; omega
    have h0k : ((0 : Int) ≤ (k : Int)) = True := by simp
    have step : doneS fin (f k) = false → ¬ k = 3600 → ∀ σ : AS, ∀ G' c' h' nx' lv' cs', nth σ.s 12 = .msl (.own 55 G') 0 (k + 1 + 1) c' → σ.m = ⟨h', [], nx', lv'⟩ → AB.hget h' 5 = some (0, sBox s) → AB.hget h' 55 = some (G', cs') → Cells f (k + 1) c' cs' →
        k + 1 ≤ 3600 ∧ firstK (fun k => doneS fin (f k)) (3600 + 1 - (k + 1)) (k + 1) = goN s way fin top a ∧
          ∃ G c h nx lv cs, nth σ.s 12 = .msl (.own 55 G) 0 (k + 1 + 1) c ∧ σ.m = ⟨h, [], nx, lv⟩ ∧ AB.hget h 5 = some (0, sBox s) ∧ AB.hget h 55 = some (G, cs) ∧ Cells f (k + 1) c cs := by
      intro hd hk σ G' c' h' nx' lv' cs' q1 q2 q3 q4 q5
      exact ⟨by omega, firstK_go hd g2 g1, G', c', h', nx', lv', cs', q1, q2, q3, q4, q5⟩
    by_cases d1 : (f k).v = 0
    · by_cases d2 : fin - (f k).pos ≤ 100
      · have hgo : goN s way fin top a = some k := firstK_hit (by simp [doneS, d1, d2]) g2 g1
        have hgl : goL s way fin top a = hist f k ++ [ended fin (f k)] := by unfold goL; rw [hgo, hF]
        have hfin := hC.fin fin
        simp only [go_sem, e12, hlen, b55, hC.d1, d1, h00, ew, d2, hlk, h0k, hR]
        have hle := hC.le
        have hcl := hC.len
        refine ⟨by omega, .inr ⟨3, _, (goL s way fin top a).map dSta, [.bool true], rfl, ⟨.own 55 G, c, _, ?_, ?_, ?_, hfin.2, ?_, ?_⟩, rfl, ?_⟩⟩
        · rw [hgl]; simp [hist_len]
        · have hd1 := hC.d1
          rw [d1, Nat.zero_add] at hd1
          simp [go_sem, hd1]
        · rw [hgl]; simp [hist_len]; omega
        · have e : ((goL s way fin top a).map dSta).length = k + 1 := by rw [hgl]; simp [hist_len]
          rw [e]
          have h3 := hfin.1
          rw [← hgl] at h3
          exact (congrArg toDs h3).trans (toDs_cellsS _)
        · intro i e he
          rw [List.getElem?_map] at he
          cases hx : (goL s way fin top a)[i]? with
          | none => rw [hx] at he; cases he
          | some x => rw [hx] at he; cases he; rfl
        · simp only [go_sem, hgo, Option.isSome]
      · have hd : doneS fin (f k) = false := by simp [doneS, d2]
        by_cases d3 : k = 3600
        · have d3' : ((k : Int) = 3600) = True := by simp; omega
          have hgo : goN s way fin top a = none := firstK_end (firstK_go hd g2 g1) (by omega)
          have hgl : goL s way fin top a = [] := by unfold goL; rw [hgo]
          simp only [go_sem, e12, hlen, b55, hC.d1, h00, ew, hlk, h0k, hR, d3', d1, d2]
          refine .inl ?_
          simp only [go_sem, hgo, hgl, Option.isSome]
        · have d3' : ((k : Int) = 3600) = False := by simp; omega
          simp only [go_sem, e12, hlen, b55, hC.d1, h00, ew, hlk, h0k, d3', d1, d2]
          refine drawnT [2, 2, 2, 2, 2, 2, 2, 2, 2, 2, 3, 1, 1] (.alt 10 [2, 0, 0, 0, 0, 0, 0, 0, 0, 0, 0, 3, 1] (.alt 11 [0, 0, 0, 0, 0, 0, 0, 0, 0, 0, 0, 0, 2] .fin .nil) .nil) 56 (by kernel_rfl) (by kernel_rfl) (by kernel_rfl) (by kernel_rfl) rfl ?_
          simp only [go_sem, b5, b55, sBox, sCells, hC.d0, hlk, h0k]
          refine quietD (f75 s way (f k) fin top (73200000000 * k) hc hw hw0 hl hok' (by omega) (by omega) ht0 ht (by omega) (by omega)) (fun _ => rfl) ?_
          rw [← hfs k]
          simp only [go_sem, b5, b55, sBox, sCells, hC.d0, hlk, h0k, eSta]
          intro _ _ _ _ _ _ _ _
          refine ⟨hC.len, by omega, fun c1 sp q1 q2 nx3 lv3 _ _ => ?_⟩
          simp only [hN]
          refine ⟨by kernel_rfl, k + 1, ?_, by simp only; omega⟩
          exact step hd d3 _ (G + 1) c1 _ nx3 lv3 _ (by simp only [go_sem]) rfl (by simp [go_sem, b5, sBox, sCells]) (by simp [go_sem, staC]) (hC.next q1 q2)
    · have hd : doneS fin (f k) = false := by simp [doneS, d1]
      by_cases d3 : k = 3600
      · have d3' : ((k : Int) = 3600) = True := by simp; omega
        have hgo : goN s way fin top a = none := firstK_end (firstK_go hd g2 g1) (by omega)
        have hgl : goL s way fin top a = [] := by unfold goL; rw [hgo]
        simp only [go_sem, e12, hlen, b55, hC.d1, h00, ew, hlk, h0k, hR, d3', d1]
        refine .inl ?_
        simp only [go_sem, hgo, hgl, Option.isSome]
      · have d3' : ((k : Int) = 3600) = False := by simp; omega
        simp only [go_sem, e12, hlen, b55, hC.d1, h00, ew, hlk, h0k, d3', d1]
        refine drawnT [2, 2, 2, 2, 2, 2, 2, 2, 2, 2, 3, 1, 1] (.alt 10 [2, 0, 0, 0, 0, 0, 0, 0, 0, 0, 0, 3, 1] (.alt 11 [0, 0, 0, 0, 0, 0, 0, 0, 0, 0, 0, 0, 2] .fin .nil) .nil) 56 (by kernel_rfl) (by kernel_rfl) (by kernel_rfl) (by kernel_rfl) rfl ?_
        simp only [go_sem, b5, b55, sBox, sCells, hC.d0, hlk, h0k]
        refine quietD (f75 s way (f k) fin top (73200000000 * k) hc hw hw0 hl hok' (by omega) (by omega) ht0 ht (by omega) (by omega)) (fun _ => rfl) ?_
        rw [← hfs k]
        simp only [go_sem, b5, b55, sBox, sCells, hC.d0, hlk, h0k, eSta]
        intro _ _ _ _ _ _ _ _
        refine ⟨hC.len, by omega, fun c1 sp q1 q2 nx3 lv3 _ _ => ?_⟩
        simp only [hN]
        refine ⟨by kernel_rfl, k + 1, ?_, by simp only; omega⟩
        exact step hd d3 _ (G + 1) c1 _ nx3 lv3 _ (by simp only [go_sem]) rfl (by simp [go_sem, b5, sBox, sCells]) (by simp [go_sem, staC]) (hC.next q1 q2)
end Go.Proofs.YteadhjclchjfjaaGreat

/- A runner's runs, walked. -/
namespace Go.Proofs.YteadhjclchjfjaaGreat
set_option linter.unusedSimpArgs false
set_option linter.unusedVariables false
open Go.AB

/-- What a runner's run comes to. -/
def runR (s : Stock) (way : List Piece) (fin top a : Int) : AH → AV → Prop := fun m r =>
  ∃ h' nx' lv', m = ⟨h', [], nx', lv'⟩ ∧ ((goN s way fin top a = none ∧ r = .tup [.sl 3 [] .nil, .bool false]) ∨
    ∃ k G c cs, goN s way fin top a = some k ∧ r = .tup [.msl (.own 50 G) 0 (k + 1) c, .bool true] ∧ AB.hget h' 50 = some (G, cs) ∧ cs.take ((k + 1) * 3) = cellsS (goL s way fin top a) ∧ cs.length = c * 3 ∧ k + 1 ≤ c)

set_option maxHeartbeats 4000000 in
set_option maxRecDepth 20000 in
theorem run99 (s : Stock) (way : List Piece) (a fin top : Int) (h : List (Nat × Nat × List AV)) (nx : Nat) (lv : Nat → Prop) (G19 G17 : Nat) (bt : Tok) (hb19 : AB.hget h 19 = some (G19, rcell s (way.map dPiece) (begs way) bt fin top (.own 17 G17))) (hb17 : AB.hget h 17 = some (G17, [.mapc [] []]))
    (hc : checkS s = 0) (hw : way.all pieceOk = true) (hw0 : way ≠ []) (hl : way.length ≤ 60)
    (ha : 0 ≤ a) (ha2 : a ≤ fin) (hf : fin ≤ 18000000) (ht0 : 0 ≤ top) (ht : top ≤ 6000) :
    QCall Tryz.prog 99 ⟨h, [], nx, lv⟩ [.ptr (.own 19 G19) 0, .int .i64 a] (runR s way fin top a) := by
  refine QCall.of_bodyA Tryz.func99 rfl Tryz.ntmps99 (congrArg Array.toList Tryz.results99) ?_
  intro E
  refine AW_seq (AW_of ?_)
  simp only [go_sem]
  refine AW_seq (AW_regionM 2 50 ?_)
  simp only [go_sem]
  generalize genO (AB.hget h 50) = G50
  refine AW_of ?_
  simp only [go_sem]
  have hst := stAt_ok (fin := fin) (top := top) hc hw ht ha (by omega : a ≤ 18000000)
  generalize hF : stAt s way fin top a = f at hst
  have hf0 : f 0 = ⟨a, 0, 0⟩ := by rw [← hF]; rfl
  have hfs : ∀ k, f (k + 1) = nextF s way (f k) fin top := fun k => by rw [← hF]; rfl
  have hgN : goN s way fin top a = firstK (fun k => doneS fin (f k)) 3601 0 := by rw [← hF]; rfl
  refine AW_loopH [4, 5, 6, 7, 11, 12, 13, 14, 15, 16, 17, 18, 19, 20, 21, 22, 23, 24, 25, 26, 27, 28, 29, 30, 31, 32, 33, 34, 35, 36, 37, 38, 39, 40, 41, 42, 43, 44, 45, 46, 47, 48, 49, 50, 51]
    (fun (k : Nat) ρ m => ρ 11 = .int .i64 (k : Int) ∧ k ≤ 3601 ∧ firstK (fun k => doneS fin (f k)) (3600 + 1 - k) k = goN s way fin top a ∧
      ∃ G c h nx lv cs M, ρ 6 = .msl (.own 50 G) 0 (k + 1) c ∧ m = ⟨h, [], nx, lv⟩ ∧ AB.hget h 19 = some (G19, rcell s (way.map dPiece) (begs way) bt fin top (.own 17 G17)) ∧ AB.hget h 17 = some (G17, [.mapc (keysM M) (valsM (s.brake - 40) M)]) ∧ GoodM lv M ∧
        AB.hget h 50 = some (G, cs) ∧ Cells f k c cs) (fun k => 3601 - k) 0 ?_ ?_
  · have hs0 : staC (f 0) = [.int .i64 a, .int .i64 0, .int .i64 0] := by rw [hf0]; rfl
    refine ⟨by simp only [go_sem], Nat.zero_le _, hgN.symm, G50, 1, _, _, _, staC (f 0), [], by simp only [go_sem], rfl, by simp [go_sem, hb19], by simp [go_sem, hb17, keysM, valsM], ⟨by simp, by simp, by simp, by simp⟩, by simp [go_sem, hs0], Cells.first f⟩
  · clear hb19 hb17
    rintro k ρ m ⟨e11, g1, g2, G, c, h, nx, lv, cs, M, e6, rfl, b19, b17, hM, b50, hC⟩ Q hN hR hX
    simp only [rcell, sCells] at b19
    by_cases hk : k ≤ 3600
    · have hlt : ((k : Int) < 3601) = True := by simp; omega
      have hlen : IntKind.i64.wrap (((k + 1 : Nat) : Int) - 1) = (k : Int) := by rw [i64_in (by omega) (by omega)]; omega
      have ek : IntKind.i64.wrap ((k : Int) + 1) = ((k + 1 : Nat) : Int) := by rw [i64_in (by omega) (by omega)]; omega
      obtain ⟨hok, p2⟩ := hst k (by omega)
      have hok' := hok
      obtain ⟨p0, p1, v0, v1, w0, w1⟩ := hok
      have ew : IntKind.i64.wrap (fin - (f k).pos) = fin - (f k).pos := i64_in (by omega) (by omega)
      have h00 : List.drop (0 + k * 3 + 0) cs = .int .i64 (f k).pos :: .int .i64 (f k).v :: .int .i64 (f k).work :: cs.drop ((k + 1) * 3) := by rw [Nat.add_zero]; exact hC.d0
      have hlk : ((k : Int) < ((k + 1 : Nat) : Int)) = True := by simp; omega
      have h0k : ((0 : Int) ≤ (k : Int)) = True := by simp
      simp only [go_sem, e11, hlt, e6, hlen, hlk, h0k]
      refine drawn (by kernel_rfl) (by kernel_rfl) ?_
      by_cases d1 : (f k).v = 0
      · by_cases d2 : fin - (f k).pos ≤ 100
        · have hgo : goN s way fin top a = some k := firstK_hit (by simp [doneS, d1, d2]) g2 hk
          have hgl : goL s way fin top a = hist f k ++ [ended fin (f k)] := by unfold goL; rw [hgo, hF]
          have hfin := hC.fin fin
          simp only [go_sem, b19, b50, hC.d1, h00, ew, d1, d2, hR]
          intro nx1 lv1 _ _
          have hle := hC.le
          have hcl := hC.len
          have hd1 := hC.d1
          rw [d1, Nat.zero_add] at hd1
          refine ⟨by omega, _, _, _, rfl, .inr ⟨k, G, c, _, hgo, rfl, ?_, ?_, hfin.2, hC.le⟩⟩
          · simp [go_sem, hd1]
          · rw [hgl]; exact hfin.1
        · have hd : doneS fin (f k) = false := by simp [doneS, d2]
          have d1' : ((f k).v = 0) = True := eq_true d1
          simp only [go_sem, b19, b50, hC.d1, h00, ew, d1', d2, hC.d0]
          intro nx1 lv1 _ hl1
          refine .inr (callR (lr := .own 19 G19) (lm := .own 17 G17) (second126 s way bt fin top M nx1 lv1 (f k) (73200000000 * k) hc hw hw0 hl (hM.more hl1) hok' (by omega) (by omega) ht0 ht (by omega) (by omega)) (fun _ => rfl) (fun _ => rfl) (by simp) ?_ ?_ ?_)
          · simp [AH.cells, b19, rcell, sCells]
          · simp [AH.cells, b17]
          intro M2 nx2 lv2 k1 k2 k3
          rw [← hfs k]
          simp only [go_sem, b19, b17, b50, rcell, sCells, eSta]
          refine ⟨hC.len, by omega, fun c1 sp q1 q2 => ?_⟩
          simp only [hN]
          refine ⟨by kernel_rfl, k + 1, ?_, by simp only; omega⟩
          exact ⟨by simp only [go_sem, ek], by omega, firstK_go hd g2 hk, G + 1, c1, _, _, _, _, M2, by simp only [go_sem], rfl, by simp [go_sem, rcell, sCells], by simp [go_sem], k1.more (fun j hj => .inr hj), by simp [go_sem, staC], hC.next q1 q2⟩
      · have hd : doneS fin (f k) = false := by simp [doneS, d1]
        simp only [go_sem, b19, b50, hC.d1, h00, ew, d1, hC.d0]
        intro nx1 lv1 _ hl1
        refine .inr (callR (lr := .own 19 G19) (lm := .own 17 G17) (second126 s way bt fin top M nx1 lv1 (f k) (73200000000 * k) hc hw hw0 hl (hM.more hl1) hok' (by omega) (by omega) ht0 ht (by omega) (by omega)) (fun _ => rfl) (fun _ => rfl) (by simp) ?_ ?_ ?_)
        · simp [AH.cells, b19, rcell, sCells]
        · simp [AH.cells, b17]
        intro M2 nx2 lv2 k1 k2 k3
        rw [← hfs k]
        simp only [go_sem, b19, b17, b50, rcell, sCells, eSta]
        refine ⟨hC.len, by omega, fun c1 sp q1 q2 => ?_⟩
        simp only [hN]
        refine ⟨by kernel_rfl, k + 1, ?_, by simp only; omega⟩
        exact ⟨by simp only [go_sem, ek], by omega, firstK_go hd g2 hk, G + 1, c1, _, _, _, _, M2, by simp only [go_sem], rfl, by simp [go_sem, rcell, sCells], by simp [go_sem], k1.more (fun j hj => .inr hj), by simp [go_sem, staC], hC.next q1 q2⟩
    · have hlt : ((k : Int) < 3601) = False := by simp; omega
      have hgo : goN s way fin top a = none := firstK_end g2 (by omega)
      simp only [go_sem, e11, hlt, hX]
      exact ⟨h, nx, lv, rfl, .inl ⟨hgo, rfl⟩⟩
end Go.Proofs.YteadhjclchjfjaaGreat

/- The laws RunGoes and RunCaps over their contracts, for all stocks, ways, places and ends. -/
namespace Go.Proofs.YteadhjclchjfjaaGreat
set_option linter.unusedSimpArgs false
set_option linter.unusedVariables false
open Go.AB

theorem goL_none {s : Stock} {way : List Piece} {fin top a : Int} (h : goN s way fin top a = none) : goL s way fin top a = [] := by unfold goL; rw [h]
theorem goL_len {s : Stock} {way : List Piece} {fin top a : Int} {k : Nat} (h : goN s way fin top a = some k) : (goL s way fin top a).length = k + 1 := by unfold goL; rw [h]; simp [hist_len]
theorem firstK_le {p : Nat → Bool} : ∀ {n k r : Nat}, firstK p n k = some r → r < n + k
  | 0, k, r, h => by simp [firstK] at h
  | n + 1, k, r, h => by
    simp only [firstK] at h
    split at h
    · cases h; omega
    · have := firstK_le h; omega
theorem goL_small (s : Stock) (way : List Piece) (fin top a : Int) : (goL s way fin top a).length ≤ 3601 := by
  cases h : goN s way fin top a with
  | none => rw [goL_none h]; simp
  | some k => rw [goL_len h]; have := firstK_le h; omega
def goE (s : Stock) (way : List Piece) (fin top a : Int) : Int := if (goN s way fin top a).isSome = true then 0 else 4
def goV (s : Stock) (way : List Piece) (fin top a : Int) : AV := .sl 3 ((goL s way fin top a).map dSta) .no

set_option maxHeartbeats 4000000 in
set_option maxRecDepth 20000 in
theorem f60 (s : Stock) (way : List Piece) (a fin top : Int) (hc : checkS s = 0) (hw : way.all pieceOk = true) (hw0 : way ≠ []) (hl : way.length ≤ 60)
    (ha : 0 ≤ a) (ha2 : a ≤ fin) (hf : fin ≤ 18000000) (ht0 : 0 ≤ top) (ht : top ≤ 6000) :
    PCall Tryz.prog 60 [eStock s, waysV way, .int .i64 a, .int .i64 fin, .int .i64 top] (RV (.tup [goV s way fin top a, .int .i64 (goE s way fin top a)])) := by
  refine PCall.of_bodySE Tryz.func60 rfl Tryz.ntmps60 (congrArg Array.toList Tryz.results60) ?_
  intro E
  refine AW_of ?_
  simp only [go_sem, eStock, waysV]
  refine callX.share (new98 s way fin top _ _ _ hw hl) ?_
  rintro m' r ⟨h', nx', lv', i, G, G2, rfl, rfl, b19, b17, g2, g3, g4, g5, g6⟩
  simp only [go_sem]
  refine .inr (effX.share (run99 s way a fin top h' nx' lv' G G2 _ b19 b17 hc hw hw0 hl ha ha2 hf ht0 ht) ?_)
  rintro m2 r ⟨h2, nx2, lv2, rfl, ⟨hgo, rfl⟩ | ⟨k, G3, c, cs, hgo, rfl, b50, htk, hcl, hle⟩⟩
  · simp only [go_sem]
    refine .inl ?_
    simp only [go_sem, goV, goL_none hgo, goE, hgo, Option.isSome]
  · simp only [go_sem]
    have hgl := goL_len hgo
    refine .inr ⟨3, _, (goL s way fin top a).map dSta, [.int .i64 0], rfl, ⟨.own 50 G3, c, cs, ?_, ?_, ?_, hcl, ?_, ?_⟩, rfl, ?_⟩
    · simp [hgl]
    · simp [go_sem, b50]
    · simp [hgl]; omega
    · have e : ((goL s way fin top a).map dSta).length = k + 1 := by simp [hgl]
      rw [e, htk]
      exact toDs_cellsS _
    · intro i e he
      rw [List.getElem?_map] at he
      cases hx : (goL s way fin top a)[i]? with
      | none => rw [hx] at he; cases he
      | some x => rw [hx] at he; cases he; rfl
    · simp only [go_sem, goV, goE, hgo, Option.isSome]

/-- The error of a run, and its states. -/
def runE (s : Stock) (way : List Piece) (fin top a : Int) : Int := if secErr s way ⟨a, 0, 0⟩ fin ≠ 0 then secErr s way ⟨a, 0, 0⟩ fin else goE s way fin top a
def runV (s : Stock) (way : List Piece) (fin top a : Int) : AV := if secErr s way ⟨a, 0, 0⟩ fin ≠ 0 then .sl 3 [] .no else goV s way fin top a
theorem run_ok {s : Stock} {way : List Piece} {fin a : Int} (h : secErr s way ⟨a, 0, 0⟩ fin = 0) : checkS s = 0 ∧ way.all pieceOk = true ∧ way ≠ [] ∧ way.length ≤ 60 ∧ 0 ≤ a ∧ a ≤ fin ∧ fin ≤ 18000000 ∧ 500 ≤ s.top ∧ s.top ≤ 6000 := by
  obtain ⟨hc, hwe, hf, hp, hv, hk⟩ := secErr_ok h
  obtain ⟨hw0, hl, hw⟩ := wayErr_ok hwe
  have hkc := checkS_ok hc
  have htb := total_bd hw hl
  simp only at hp
  exact ⟨hc, hw, hw0, hl, hp.1, hp.2, by omega, by omega, by omega⟩

set_option maxHeartbeats 4000000 in
set_option maxRecDepth 20000 in
theorem f23 (s : Stock) (way : List Piece) (a fin : Int) (hs : s.name.length ≤ 140737488351232) :
    PCall Tryz.prog 23 [eStock s, waysV way, .int .i64 a, .int .i64 fin] (RV (.tup [runV s way fin s.top a, .int .i64 (runE s way fin s.top a)])) := by
  refine PCall.of_bodyE Tryz.func23 rfl Tryz.ntmps23 (congrArg Array.toList Tryz.results23) ?_
  intro E
  simp (config := {maxSteps := 1000000}) only [go_sem, eStock, waysV]
  refine callV (f59 s way ⟨a, 0, 0⟩ fin hs) ?_
  intro nx lv
  by_cases h : secErr s way ⟨a, 0, 0⟩ fin = 0
  · obtain ⟨hc, hw, hw0, hl, ha, ha2, hf, ht0, ht⟩ := run_ok h
    simp only [go_sem, h]
    refine callV (f60 s way a fin s.top hc hw hw0 hl ha ha2 hf (by omega) ht) ?_
    intro nx lv
    simp only [go_sem, goV, runV, runE, h]
  · simp only [go_sem, h, runV, runE]

set_option maxHeartbeats 4000000 in
set_option maxRecDepth 20000 in
/-- A list of states is equal to itself. -/
theorem f13 (l : List Sta) (hl : l.length ≤ 140737488351232) : PCall Tryz.prog 13 [.sl 3 (l.map dSta) .no, .sl 3 (l.map dSta) .no] (RV (.bool true)) := by
  refine PCall.of_body Tryz.func13 rfl Tryz.ntmps13 (congrArg Array.toList Tryz.results13) ?_
  intro E
  simp only [go_sem]
  refine AW_loopH [4, 5, 13, 14, 15, 16, 17, 18, 19, 20, 21, 22, 23, 24, 25]
    (fun (i : Nat) ρ m => ρ 13 = .int .i64 (i : Int) ∧ i ≤ l.length ∧ ∃ h nx lv, m = ⟨h, [], nx, lv⟩) (fun i => l.length - i) 0 ?_ ?_
  · simp only [go_sem]
    exact ⟨Nat.zero_le _, _, _, _, rfl⟩
  · rintro i ρ m ⟨e1, g1, h, nx, lv, rfl⟩ Q hN hR hX
    by_cases hlt : i < l.length
    · obtain ⟨p, hp⟩ : ∃ p, l[i]? = some p := ⟨_, List.getElem?_eq_getElem hlt⟩
      have hlt' : ((i : Int) < (l.length : Int)) = True := by simp; omega
      have h0 : ((0 : Int) ≤ (i : Int)) = True := by simp
      have ew : IntKind.i64.wrap ((i : Int) + 1) = (i : Int) + 1 := i64_in (by omega) (by omega)
      simp only [go_sem, e1, hlt']
      refine drawn (by kernel_rfl) (by kernel_rfl) ?_
      simp only [go_sem, hp, dSta, h0, ew, hN]
      refine fun _ _ _ _ => ⟨by kernel_rfl, i + 1, ?_, by simp only; omega⟩
      simp only [go_sem]
      exact ⟨by simp, by omega, _, _, _, rfl⟩
    · have hlt' : ((i : Int) < (l.length : Int)) = False := by simp; omega
      simp only [go_sem, e1, hX, hlt']

end Go.Proofs.YteadhjclchjfjaaGreat
