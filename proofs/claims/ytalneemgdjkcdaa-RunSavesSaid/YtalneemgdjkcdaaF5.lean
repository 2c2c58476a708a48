/- The law RunSaves over its contracts, for all stocks, ways, places, ends and seconds. -/
import Derived.Test.YtalneemgdjkcdaaF4
namespace Go.Proofs.Ytalneemgdjkcdaa
open Go.AB

/-- Whether a cap is enough. -/
def hitS (s : Stock) (way : List Piece) (fin a secs : Int) (k : Nat) : Bool := (goN s way fin (min s.top (500 + 50 * k)) a).isSome && decide (((goL s way fin (min s.top (500 + 50 * k)) a).length : Int) - 1 ≤ secs)
def savF (s : Stock) (way : List Piece) (fin a secs : Int) : Nat → Nat → Option Nat
  | 0, _ => none
  | f + 1, k => if hitS s way fin a secs k = true then some k else if s.top ≤ 500 + 50 * k then none else savF s way fin a secs f (k + 1)
def savN (s : Stock) (way : List Piece) (fin a secs : Int) : Option Nat := savF s way fin a secs 111 0
def savE (s : Stock) (way : List Piece) (fin a secs : Int) : Int := if secErr s way ⟨a, 0, 0⟩ fin ≠ 0 then secErr s way ⟨a, 0, 0⟩ fin else if within secs 0 3600 = false then 2 else match savN s way fin a secs with
  | some _ => 0
  | none => 9
def savC (s : Stock) (way : List Piece) (fin a secs : Int) : Int := if secErr s way ⟨a, 0, 0⟩ fin ≠ 0 then 0 else if within secs 0 3600 = false then 0 else match savN s way fin a secs with
  | some k => 500 + 50 * k
  | none => 0
theorem savF_step {s : Stock} {way : List Piece} {fin a secs : Int} {k : Nat} {r : Option Nat} (g : savF s way fin a secs (111 - k) k = r) (h : k < 111) :
    (if hitS s way fin a secs k = true then some k else if s.top ≤ 500 + 50 * k then none else savF s way fin a secs (111 - (k + 1)) (k + 1)) = r := by
  have e : 111 - k = (111 - (k + 1)) + 1 := by omega
  rw [e] at g; exact g

set_option maxHeartbeats 4000000 in
set_option maxRecDepth 20000 in
theorem f38 (s : Stock) (way : List Piece) (a fin secs : Int) (hs : s.name.length ≤ 140737488351232) :
    PCall Try.prog 38 [eStock s, waysV way, .int .i64 a, .int .i64 fin, .int .i64 secs] (RV (.tup [.int .i64 (savC s way fin a secs), .int .i64 (savE s way fin a secs)])) := by
  refine PCall.of_body Try.func38 rfl Try.ntmps38 (congrArg Array.toList Try.results38) ?_
  intro E
  simp (config := {maxSteps := 1000000}) only [go_sem, eStock, waysV]
  refine callV (f70 s way ⟨a, 0, 0⟩ fin hs) ?_
  intro nx lv
  by_cases h : secErr s way ⟨a, 0, 0⟩ fin = 0
  · obtain ⟨hc, hw, hw0, hl, ha, ha2, hf, ht0, ht⟩ := run_ok h
    simp only [go_sem, h]
    refine callV (f83 secs 0 3600) ?_
    intro nx lv
    by_cases h2 : within secs 0 3600 = true
    · have h3 := within_iff.1 h2
      have hE : savE s way fin a secs = match savN s way fin a secs with | some _ => 0 | none => 9 := by simp [savE, h, h2]
      have hC : savC s way fin a secs = match savN s way fin a secs with | some k => 500 + 50 * k | none => 0 := by simp [savC, h, h2]
      simp only [go_sem, h2]
      refine AW_loopH [10, 11, 13, 14, 15, 16, 29, 30, 31, 32, 33, 34, 35, 36, 37, 38, 39, 40, 41, 42, 43, 44, 45, 46, 47, 48, 49, 50, 51, 52, 53, 54, 55, 56, 57, 58, 59, 60, 61]
        (fun (k : Nat) ρ m => ρ 29 = .int .i64 (k : Int) ∧ k ≤ 110 ∧ savF s way fin a secs (111 - k) k = savN s way fin a secs ∧ ∃ h nx lv, m = ⟨h, [], nx, lv⟩ ∧ AB.hget h 5 = some (0, sBox s)) (fun k => 110 - k) 0 ?_ ?_
      · simp [go_sem, sBox, sCells, savN]
      · rintro k ρ m ⟨e29, g1, g2, h', nx', lv', rfl, b5⟩ Q hN hR hX
        have hlt : ((k : Int) < 111) = True := by simp; omega
        have e1 : IntKind.i64.wrap (50 * (k : Int)) = 50 * (k : Int) := i64_in (by omega) (by omega)
        have e2 : IntKind.i64.wrap (500 + 50 * (k : Int)) = 500 + 50 * (k : Int) := i64_in (by omega) (by omega)
        have e3 : IntKind.i64.wrap ((k : Int) + 1) = (k : Int) + 1 := i64_in (by omega) (by omega)
        have hgs := goL_small s way fin (min s.top (500 + 50 * k)) a
        have e4 : IntKind.i64.wrap (((goL s way fin (min s.top (500 + 50 * k)) a).length : Int) - 1) = ((goL s way fin (min s.top (500 + 50 * k)) a).length : Int) - 1 := i64_in (by omega) (by omega)
        have gs := savF_step g2 (by omega)
        simp only [sBox, sCells] at b5
        simp only [go_sem, e29, hlt, e1, e2, b5]
        refine callV (f81 s way a fin (min s.top (500 + 50 * k)) hc hw hw0 hl ha ha2 hf (by omega) (by omega)) ?_
        intro nx2 lv2
        by_cases q1 : (goN s way fin (min s.top (500 + 50 * k)) a).isSome = true
        · have qe : goE s way fin (min s.top (500 + 50 * k)) a = 0 := by simp [goE, q1]
          by_cases q2 : ((goL s way fin (min s.top (500 + 50 * k)) a).length : Int) - 1 ≤ secs
          · have hh : hitS s way fin a secs k = true := by simp [hitS, q1, q2]
            rw [hh, if_pos rfl] at gs
            simp only [go_sem, qe, goV, e4, q2, hR]
            rw [hC, hE, ← gs]
            exact ⟨rfl, rfl⟩
          · have hh : hitS s way fin a secs k = false := by simp [hitS, q2]
            rw [hh] at gs
            by_cases q3 : s.top ≤ 500 + 50 * k
            · rw [if_neg (by simp), if_pos q3] at gs
              simp only [go_sem, qe, goV, e4, q2, b5, q3, hX]
              rw [hC, hE, ← gs]
              exact ⟨rfl, rfl⟩
            · rw [if_neg (by simp), if_neg q3] at gs
              simp only [go_sem, qe, goV, e4, q2, b5, q3, hN, e3]
              refine ⟨by kernel_rfl, k + 1, ?_, by simp only; omega⟩
              simp only [go_sem]
              exact ⟨by simp, by omega, gs, _, _, _, rfl, by simp [b5, sBox, sCells]⟩
        · have q1 : (goN s way fin (min s.top (500 + 50 * k)) a).isSome = false := by simpa using q1
          have qe : goE s way fin (min s.top (500 + 50 * k)) a = 4 := by simp [goE, q1]
          have hh : hitS s way fin a secs k = false := by simp [hitS, q1]
          rw [hh] at gs
          by_cases q3 : s.top ≤ 500 + 50 * k
          · rw [if_neg (by simp), if_pos q3] at gs
            simp only [go_sem, qe, goV, b5, q3, hX]
            rw [hC, hE, ← gs]
            exact ⟨rfl, rfl⟩
          · rw [if_neg (by simp), if_neg q3] at gs
            simp only [go_sem, qe, goV, b5, q3, hN, e3]
            refine ⟨by kernel_rfl, k + 1, ?_, by simp only; omega⟩
            simp only [go_sem]
            exact ⟨by simp, by omega, gs, _, _, _, rfl, by simp [b5, sBox, sCells]⟩
    · have h2 : within secs 0 3600 = false := by simpa using h2
      simp only [go_sem, h2, savC, savE, h]
  · simp only [go_sem, h, savC, savE]

set_option maxHeartbeats 4000000 in
set_option maxRecDepth 20000 in
theorem f7 (s : Stock) (way : List Piece) (a fin secs : Int) (hs : s.name.length ≤ 140737488351232) :
    PCall Try.prog 7 [eStock s, waysV way, .int .i64 a, .int .i64 fin, .int .i64 secs] (RV (.bool true)) := by
  refine PCall.of_body Try.func7 rfl Try.ntmps7 (congrArg Array.toList Try.results7) ?_
  intro E
  simp (config := {maxSteps := 1000000}) only [go_sem, eStock, waysV]
  refine callV (f38 s way a fin secs hs) ?_
  intro nx lv
  simp only [go_sem]
  refine callV (f34 s way ⟨a, 0, 0⟩ fin hs) ?_
  intro nx lv
  by_cases h : secErr s way ⟨a, 0, 0⟩ fin = 0
  · obtain ⟨hc, hw, hw0, hl, ha, ha2, hf, ht0, ht⟩ := run_ok h
    by_cases h2 : within secs 0 3600 = true
    · have h3 := within_iff.1 h2
      have a1 : (secs < 0) = False := by simp; omega
      have a2 : (3600 < secs) = False := by simp; omega
      have hE : savE s way fin a secs = match savN s way fin a secs with | some _ => 0 | none => 9 := by simp [savE, h, h2]
      have hC : savC s way fin a secs = match savN s way fin a secs with | some k => 500 + 50 * k | none => 0 := by simp [savC, h, h2]
      simp only [go_sem, h, a1, a2]
      refine AW_loopH [10, 14, 15, 16, 51, 52, 53, 54, 55, 56, 57, 58, 59, 60, 61, 62, 63, 64, 65, 66, 67, 68, 69, 70, 71, 72, 73, 74, 75, 76, 77, 78, 79, 80, 81, 82, 83, 84, 85]
        (fun (k : Nat) ρ m => ρ 14 = .int .i64 (500 + 50 * (k : Int)) ∧ k ≤ 110 ∧ savF s way fin a secs (111 - k) k = savN s way fin a secs ∧ ∃ h nx lv, m = ⟨h, [], nx, lv⟩ ∧ AB.hget h 5 = some (0, sBox s)) (fun k => 110 - k) 0 ?_ ?_
      · simp [go_sem, sBox, sCells, savN]
      · rintro k ρ m ⟨e29, g1, g2, h', nx', lv', rfl, b5⟩ Q hN hR hX
        have hlt : (500 + 50 * (k : Int) ≤ 6000) = True := by simp; omega
        have e3 : IntKind.i64.wrap (500 + 50 * (k : Int) + 50) = 500 + 50 * ((k + 1 : Nat) : Int) := by rw [i64_in (by omega) (by omega)]; omega
        have hgs := goL_small s way fin (min s.top (500 + 50 * k)) a
        have e4 : IntKind.i64.wrap (((goL s way fin (min s.top (500 + 50 * k)) a).length : Int) - 1) = ((goL s way fin (min s.top (500 + 50 * k)) a).length : Int) - 1 := i64_in (by omega) (by omega)
        have gs := savF_step g2 (by omega)
        simp only [sBox, sCells] at b5
        simp only [go_sem, e29, hlt, b5]
        refine callV (f39 s way a fin (min s.top (500 + 50 * k)) hc hw hw0 hl ha ha2 hf (by omega) (by omega)) ?_
        intro nx2 lv2
        by_cases q1 : (goN s way fin (min s.top (500 + 50 * k)) a).isSome = true
        · by_cases q2 : ((goL s way fin (min s.top (500 + 50 * k)) a).length : Int) - 1 ≤ secs
          · have hh : hitS s way fin a secs k = true := by simp [hitS, q1, q2]
            rw [hh, if_pos rfl] at gs
            have c1 : savC s way fin a secs = 500 + 50 * k := by rw [hC, ← gs]
            have c2 : savE s way fin a secs = 0 := by rw [hE, ← gs]
            simp only [go_sem, q1, e4, q2, hR, c1, c2]
          · have hh : hitS s way fin a secs k = false := by simp [hitS, q2]
            rw [hh] at gs
            by_cases q3 : s.top ≤ 500 + 50 * k
            · rw [if_neg (by simp), if_pos q3] at gs
              have c1 : savC s way fin a secs = 0 := by rw [hC, ← gs]
              have c2 : savE s way fin a secs = 9 := by rw [hE, ← gs]
              simp only [go_sem, q1, e4, q2, b5, q3, hX, c1, c2]
            · rw [if_neg (by simp), if_neg q3] at gs
              simp only [go_sem, q1, e4, q2, b5, q3, hN, e3]
              refine ⟨by kernel_rfl, k + 1, ?_, by simp only; omega⟩
              simp only [go_sem]
              exact ⟨by omega, gs, _, _, _, rfl, by simp [b5, sBox, sCells]⟩
        · have q1 : (goN s way fin (min s.top (500 + 50 * k)) a).isSome = false := by simpa using q1
          have hh : hitS s way fin a secs k = false := by simp [hitS, q1]
          rw [hh] at gs
          by_cases q3 : s.top ≤ 500 + 50 * k
          · rw [if_neg (by simp), if_pos q3] at gs
            have c1 : savC s way fin a secs = 0 := by rw [hC, ← gs]
            have c2 : savE s way fin a secs = 9 := by rw [hE, ← gs]
            simp only [go_sem, q1, b5, q3, hX, c1, c2]
          · rw [if_neg (by simp), if_neg q3] at gs
            simp only [go_sem, q1, b5, q3, hN, e3]
            refine ⟨by kernel_rfl, k + 1, ?_, by simp only; omega⟩
            simp only [go_sem]
            exact ⟨by omega, gs, _, _, _, rfl, by simp [b5, sBox, sCells]⟩
    · have h2 : within secs 0 3600 = false := by simpa using h2
      have c1 : savC s way fin a secs = 0 := by simp [savC, h, h2]
      have c2 : savE s way fin a secs = 2 := by simp [savE, h, h2]
      by_cases a1 : secs < 0
      · simp only [go_sem, h, a1, c1, c2]
      · have a2 : 3600 < secs := by simp [within] at h2; omega
        simp only [go_sem, h, a1, a2, c1, c2]
  · have c1 : savC s way fin a secs = 0 := by simp [savC, h]
    have c2 : savE s way fin a secs = secErr s way ⟨a, 0, 0⟩ fin := by simp [savE, h]
    simp only [go_sem, h, c1, c2]

theorem law7 (xs : List DV) (h : ElDs Try.prog [60, 61, 3, 3, 3] xs) : PCall Try.prog 7 (xs.map toAV) (RV (.bool true)) := by
  obtain ⟨x, xs, rfl, hx, h⟩ := h.cons_inv
  obtain ⟨y, xs, rfl, hy, h⟩ := h.cons_inv
  obtain ⟨z, xs, rfl, hz, h⟩ := h.cons_inv
  obtain ⟨u, xs, rfl, hu, h⟩ := h.cons_inv
  obtain ⟨t, xs, rfl, ht, h⟩ := h.cons_inv
  cases h.nil_inv
  obtain ⟨s, rfl, hs, _⟩ := openStock hx
  obtain ⟨way, hway, _⟩ := openWay hy
  obtain ⟨a, rfl, _⟩ := hz.int_inv Try.underlying3
  obtain ⟨v, rfl, _⟩ := hu.int_inv Try.underlying3
  obtain ⟨w, rfl, _⟩ := ht.int_inv Try.underlying3
  simp only [List.map_cons, List.map_nil, eStock_eq, hway, toAV]
  exact f7 s way a v w hs
end Go.Proofs.Ytalneemgdjkcdaa
