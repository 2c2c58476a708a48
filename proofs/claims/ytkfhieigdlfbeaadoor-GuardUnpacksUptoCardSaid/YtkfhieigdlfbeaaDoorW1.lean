/- Packets: what they use, their errors, the program's and the reference's. -/
import Derived.Test.YtkfhieigdlfbeaaDoorT
import Derived.Test.YtkfhieigdlfbeaaDoorB32
import Derived.Test.YtkfhieigdlfbeaaDoorS
namespace Go.Proofs.YtkfhieigdlfbeaaDoor
set_option linter.unusedSimpArgs false
set_option linter.unusedVariables false
open Go.AB

structure Pk where
  kind : Int
  ses : Int
  no : Int
  of : Int
  fin : Int
  at' : Int
  speed : Int
  sent : Int

def Pk.cells (p : Pk) : List AV := [.int .i64 p.kind, .int .i64 p.ses, .int .i64 p.no, .int .i64 p.of, .int .i64 p.fin, .int .i64 p.at', .int .i64 p.speed, .int .i64 p.sent]
def Pk.av (p : Pk) : AV := .agg p.cells

def within (n lo hi : Int) : Bool := decide (lo ≤ n) && decide (n ≤ hi)
theorem f60 (n lo hi : Int) : PCall Tryd.prog 60 [.int .i64 n, .int .i64 lo, .int .i64 hi] (RV (.bool (within n lo hi))) := by
  refine PCall.of_body Tryd.func60 rfl Tryd.ntmps60 (congrArg Array.toList Tryd.results60) ?_
  intro E
  simp only [go_sem]
  unfold within
  grind
theorem f76 (n hi : Int) : PCall Tryd.prog 76 [.int .i64 n, .int .i64 hi] (RV (.bool (within n 0 hi))) := by
  refine PCall.of_body Tryd.func76 rfl Tryd.ntmps76 (congrArg Array.toList Tryd.results76) ?_
  intro E
  simp only [go_sem]
  unfold within
  grind

theorem f10 (p : Pk) : PCall Tryd.prog 10 [p.av] (RV p.av) := by
  refine PCall.of_body Tryd.func10 rfl Tryd.ntmps10 (congrArg Array.toList Tryd.results10) ?_
  intro E
  simp only [go_sem, Pk.av, Pk.cells]


def used (p : Pk) : Pk := ⟨p.kind, p.ses, p.no, if p.kind = 7 ∨ p.kind = 8 then p.of else 0, if p.kind = 3 ∨ p.kind = 4 ∨ p.kind = 5 ∨ p.kind = 7 then p.fin else 0, if p.kind = 1 ∨ p.kind = 3 then p.at' else 0, if p.kind = 3 then p.speed else 0, p.sent⟩

set_option maxRecDepth 100000 in
theorem f61 (p : Pk) : PCall Tryd.prog 61 [p.av] (RV (used p).av) := by
  refine PCall.of_body Tryd.func61 rfl Tryd.ntmps61 (congrArg Array.toList Tryd.results61) ?_
  intro E
  simp only [go_sem, Pk.av, Pk.cells, used]
  repeat' first | refine And.intro ?_ ?_ | intro _
  all_goals (try (refine drawnS [] (by kernel_rfl) (by kernel_rfl) (by kernel_rfl) ?_; simp only [go_sem]; try intro _ _ _ _))
  all_goals grind

def sameUsed (p : Pk) : Bool := decide (p.of = (used p).of) && (decide (p.fin = (used p).fin) && (decide (p.at' = (used p).at') && decide (p.speed = (used p).speed)))
def checkE (p : Pk) : Int :=
  if within p.kind 1 8 = false then 15
  else if within p.ses 1 1000000 = false then 2
  else if within p.no 1 1000000 = false then 2
  else if within p.of 0 1000000 = false then 2
  else if within p.fin 0 20000000 = false then 2
  else if within p.at' 0 20000000 = false then 2
  else if within p.speed 0 6000 = false then 2
  else if within p.sent 0 28800 = false then 2
  else if sameUsed p = false then 1
  else if p.of = 0 ∧ 7 ≤ p.kind then 1
  else 0

set_option maxRecDepth 100000 in
set_option maxHeartbeats 2000000 in
theorem f26 (p : Pk) : PCall Tryd.prog 26 [p.av] (RV (.int .i64 (checkE p))) := by
  refine PCall.of_body Tryd.func26 rfl Tryd.ntmps26 (congrArg Array.toList Tryd.results26) ?_
  intro E
  simp only [go_sem, Pk.av, Pk.cells]
  repeat' first
    | (refine callV (f60 _ _ _) ?_; intro _ _; simp only [go_sem])
    | (refine quietD (f61 p) (fun _ => rfl) ?_; simp only [go_sem, Pk.av, Pk.cells])
    | (refine drawn (by kernel_rfl) (by kernel_rfl) ?_; simp only [go_sem])
    | refine And.intro ?_ ?_
    | intro _
  all_goals first | (simp_all [checkE]; done) | skip
  all_goals grind [checkE, sameUsed, used]

theorem checkE_sent {p : Pk} (h : checkE p = 0) : within p.sent 0 28800 = true := by
  unfold checkE at h
  repeat' split at h
  all_goals first | omega | simp_all


set_option maxRecDepth 100000 in
set_option maxHeartbeats 8000000 in
theorem f28 (p : Pk) : PCall Tryd.prog 28 [p.av] (RV (.int .i64 (checkE p))) := by
  refine PCall.of_body Tryd.func28 rfl Tryd.ntmps28 (congrArg Array.toList Tryd.results28) ?_
  intro E
  by_cases k0 : p.kind < 1
  · simp only [go_sem, Pk.av, Pk.cells, k0]
    simp [checkE, within]; omega
  by_cases k1 : 8 < p.kind
  · simp only [go_sem, Pk.av, Pk.cells, k0, k1]
    simp [checkE, within]; omega
  have hwk : within p.kind 1 8 = true := by simp [within]; omega
  simp only [go_sem, Pk.av, Pk.cells, k0, k1]
  refine AW_loopH [2, 4, 37, 38, 39, 40, 41, 42, 43, 44, 45, 46, 47, 48, 49, 50, 51, 52, 53]
    (fun (x : Nat) ρ m => ρ 37 = .int .i64 (x : Int) ∧ x ≤ 7 ∧ (1 ≤ x → within p.ses 1 1000000 = true) ∧ (2 ≤ x → within p.no 1 1000000 = true) ∧ (3 ≤ x → within p.of 0 1000000 = true) ∧ (4 ≤ x → within p.fin 0 20000000 = true) ∧ (5 ≤ x → within p.at' 0 20000000 = true) ∧ (6 ≤ x → within p.speed 0 6000 = true) ∧ (7 ≤ x → within p.sent 0 28800 = true) ∧
      ∃ h nx lv, m = ⟨h, [], nx, lv⟩ ∧ AB.hget h 1 = some (0, p.cells)) (fun x => 7 - x) 0 ?_ ?_
  · simp [go_sem, Pk.cells]
  · rintro x ρ m ⟨e37, hx, r1, r2, r3, r4, r5, r6, r7, h, nx, lv, rfl, hb1⟩ Q hN hR hX
    have w1 : IntKind.i64.wrap 1 = 1 := by rfl
    have w2 : IntKind.i64.wrap 2 = 2 := by rfl
    have w3 : IntKind.i64.wrap 3 = 3 := by rfl
    have w4 : IntKind.i64.wrap 4 = 4 := by rfl
    have w5 : IntKind.i64.wrap 5 = 5 := by rfl
    have w6 : IntKind.i64.wrap 6 = 6 := by rfl
    have w7 : IntKind.i64.wrap 7 = 7 := by rfl
    have hxs : x = 0 ∨ x = 1 ∨ x = 2 ∨ x = 3 ∨ x = 4 ∨ x = 5 ∨ x = 6 ∨ x = 7 := by omega
    rcases hxs with rfl | rfl | rfl | rfl | rfl | rfl | rfl | rfl
    · by_cases a : p.ses < 1
      · have hv : within p.ses 1 1000000 = false := by simp [within]; omega
        simp only [go_sem, e37, a, hR]
        simp [checkE, hwk, hv]
      · by_cases b : 1000000 < p.ses
        · have hv : within p.ses 1 1000000 = false := by simp [within]; omega
          simp only [go_sem, e37, a, b, hR]
          simp [checkE, hwk, hv]
        · have hv : within p.ses 1 1000000 = true := by simp [within]; omega
          simp only [go_sem, e37, a, b, hN, w1, w2, w3, w4, w5, w6, w7]
          refine ⟨by kernel_rfl, 1, ?_, by simp only; omega⟩
          simp [go_sem, hb1, hv, w1, w2, w3, w4, w5, w6, w7]
    · by_cases a : p.no < 1
      · have hv : within p.no 1 1000000 = false := by simp [within]; omega
        simp only [go_sem, e37, a, hR]
        simp [checkE, hwk, hv, r1 (by omega)]
      · by_cases b : 1000000 < p.no
        · have hv : within p.no 1 1000000 = false := by simp [within]; omega
          simp only [go_sem, e37, a, b, hR]
          simp [checkE, hwk, hv, r1 (by omega)]
        · have hv : within p.no 1 1000000 = true := by simp [within]; omega
          simp only [go_sem, e37, a, b, hN, w1, w2, w3, w4, w5, w6, w7]
          refine ⟨by kernel_rfl, 2, ?_, by simp only; omega⟩
          simp [go_sem, hb1, hv, r1 (by omega), w1, w2, w3, w4, w5, w6, w7]
    · by_cases a : p.of < 0
      · have hv : within p.of 0 1000000 = false := by simp [within]; omega
        simp only [go_sem, e37, a, hR]
        simp [checkE, hwk, hv, r1 (by omega), r2 (by omega)]
      · by_cases b : 1000000 < p.of
        · have hv : within p.of 0 1000000 = false := by simp [within]; omega
          simp only [go_sem, e37, a, b, hR]
          simp [checkE, hwk, hv, r1 (by omega), r2 (by omega)]
        · have hv : within p.of 0 1000000 = true := by simp [within]; omega
          simp only [go_sem, e37, a, b, hN, w1, w2, w3, w4, w5, w6, w7]
          refine ⟨by kernel_rfl, 3, ?_, by simp only; omega⟩
          simp [go_sem, hb1, hv, r1 (by omega), r2 (by omega), w1, w2, w3, w4, w5, w6, w7]
    · by_cases a : p.fin < 0
      · have hv : within p.fin 0 20000000 = false := by simp [within]; omega
        simp only [go_sem, e37, a, hR]
        simp [checkE, hwk, hv, r1 (by omega), r2 (by omega), r3 (by omega)]
      · by_cases b : 20000000 < p.fin
        · have hv : within p.fin 0 20000000 = false := by simp [within]; omega
          simp only [go_sem, e37, a, b, hR]
          simp [checkE, hwk, hv, r1 (by omega), r2 (by omega), r3 (by omega)]
        · have hv : within p.fin 0 20000000 = true := by simp [within]; omega
          simp only [go_sem, e37, a, b, hN, w1, w2, w3, w4, w5, w6, w7]
          refine ⟨by kernel_rfl, 4, ?_, by simp only; omega⟩
          simp [go_sem, hb1, hv, r1 (by omega), r2 (by omega), r3 (by omega), w1, w2, w3, w4, w5, w6, w7]
    · by_cases a : p.at' < 0
      · have hv : within p.at' 0 20000000 = false := by simp [within]; omega
        simp only [go_sem, e37, a, hR]
        simp [checkE, hwk, hv, r1 (by omega), r2 (by omega), r3 (by omega), r4 (by omega)]
      · by_cases b : 20000000 < p.at'
        · have hv : within p.at' 0 20000000 = false := by simp [within]; omega
          simp only [go_sem, e37, a, b, hR]
          simp [checkE, hwk, hv, r1 (by omega), r2 (by omega), r3 (by omega), r4 (by omega)]
        · have hv : within p.at' 0 20000000 = true := by simp [within]; omega
          simp only [go_sem, e37, a, b, hN, w1, w2, w3, w4, w5, w6, w7]
          refine ⟨by kernel_rfl, 5, ?_, by simp only; omega⟩
          simp [go_sem, hb1, hv, r1 (by omega), r2 (by omega), r3 (by omega), r4 (by omega), w1, w2, w3, w4, w5, w6, w7]
    · by_cases a : p.speed < 0
      · have hv : within p.speed 0 6000 = false := by simp [within]; omega
        simp only [go_sem, e37, a, hR]
        simp [checkE, hwk, hv, r1 (by omega), r2 (by omega), r3 (by omega), r4 (by omega), r5 (by omega)]
      · by_cases b : 6000 < p.speed
        · have hv : within p.speed 0 6000 = false := by simp [within]; omega
          simp only [go_sem, e37, a, b, hR]
          simp [checkE, hwk, hv, r1 (by omega), r2 (by omega), r3 (by omega), r4 (by omega), r5 (by omega)]
        · have hv : within p.speed 0 6000 = true := by simp [within]; omega
          simp only [go_sem, e37, a, b, hN, w1, w2, w3, w4, w5, w6, w7]
          refine ⟨by kernel_rfl, 6, ?_, by simp only; omega⟩
          simp [go_sem, hb1, hv, r1 (by omega), r2 (by omega), r3 (by omega), r4 (by omega), r5 (by omega), w1, w2, w3, w4, w5, w6, w7]
    · by_cases a : p.sent < 0
      · have hv : within p.sent 0 28800 = false := by simp [within]; omega
        simp only [go_sem, e37, a, hR]
        simp [checkE, hwk, hv, r1 (by omega), r2 (by omega), r3 (by omega), r4 (by omega), r5 (by omega), r6 (by omega)]
      · by_cases b : 28800 < p.sent
        · have hv : within p.sent 0 28800 = false := by simp [within]; omega
          simp only [go_sem, e37, a, b, hR]
          simp [checkE, hwk, hv, r1 (by omega), r2 (by omega), r3 (by omega), r4 (by omega), r5 (by omega), r6 (by omega)]
        · have hv : within p.sent 0 28800 = true := by simp [within]; omega
          simp only [go_sem, e37, a, b, hN, w1, w2, w3, w4, w5, w6, w7]
          refine ⟨by kernel_rfl, 7, ?_, by simp only; omega⟩
          simp [go_sem, hb1, hv, r1 (by omega), r2 (by omega), r3 (by omega), r4 (by omega), r5 (by omega), r6 (by omega), w1, w2, w3, w4, w5, w6, w7]
    · have r1 := r1 (by omega)
      have r2 := r2 (by omega)
      have r3 := r3 (by omega)
      have r4 := r4 (by omega)
      have r5 := r5 (by omega)
      have r6 := r6 (by omega)
      have r7 := r7 (by omega)
      have hc : checkE p = if sameUsed p = false then 1 else if p.of = 0 ∧ 7 ≤ p.kind then 1 else 0 := by simp [checkE, hwk, r1, r2, r3, r4, r5, r6, r7]
      simp only [Pk.cells] at hb1
      have hk : p.kind = 1 ∨ p.kind = 2 ∨ p.kind = 3 ∨ p.kind = 4 ∨ p.kind = 5 ∨ p.kind = 6 ∨ p.kind = 7 ∨ p.kind = 8 := by omega
      have mk : ∀ k : Int, p.kind = k → sameUsed p = (decide (p.of = if k = 7 ∨ k = 8 then p.of else 0) && (decide (p.fin = if k = 3 ∨ k = 4 ∨ k = 5 ∨ k = 7 then p.fin else 0) && (decide (p.at' = if k = 1 ∨ k = 3 then p.at' else 0) && decide (p.speed = if k = 3 then p.speed else 0)))) := fun k e => by unfold sameUsed used; rw [e]
      rcases hk with hk | hk | hk | hk | hk | hk | hk | hk
      · by_cases a : p.of = 0
        · by_cases b : p.fin = 0
          · by_cases c : p.at' = 0
            · by_cases d : p.speed = 0
              · simp only [go_sem, e37, hX, hb1, hk, a, b, c, d]
                rw [hc, mk _ hk]
                simp [a, b, c, d, hk]
              · simp only [go_sem, e37, hX, hb1, hk, a, b, c, d]
                rw [hc, mk _ hk]
                simp [a, b, c, d, hk]
            · by_cases d : p.speed = 0
              · simp only [go_sem, e37, hX, hb1, hk, a, b, c, d]
                rw [hc, mk _ hk]
                simp [a, b, c, d, hk]
              · simp only [go_sem, e37, hX, hb1, hk, a, b, c, d]
                rw [hc, mk _ hk]
                simp [a, b, c, d, hk]
          · simp only [go_sem, e37, hX, hb1, hk, a, b]
            rw [hc, mk _ hk]
            simp [a, b, hk]
        · simp only [go_sem, e37, hX, hb1, hk, a]
          rw [hc, mk _ hk]
          simp [a, hk]
      · by_cases a : p.of = 0
        · by_cases b : p.fin = 0
          · by_cases c : p.at' = 0
            · by_cases d : p.speed = 0
              · simp only [go_sem, e37, hX, hb1, hk, a, b, c, d]
                rw [hc, mk _ hk]
                simp [a, b, c, d, hk]
              · simp only [go_sem, e37, hX, hb1, hk, a, b, c, d]
                rw [hc, mk _ hk]
                simp [a, b, c, d, hk]
            · simp only [go_sem, e37, hX, hb1, hk, a, b, c]
              rw [hc, mk _ hk]
              simp [a, b, c, hk]
          · simp only [go_sem, e37, hX, hb1, hk, a, b]
            rw [hc, mk _ hk]
            simp [a, b, hk]
        · simp only [go_sem, e37, hX, hb1, hk, a]
          rw [hc, mk _ hk]
          simp [a, hk]
      · by_cases a : p.of = 0
        · by_cases b : p.fin = 0
          · by_cases c : p.at' = 0
            · by_cases d : p.speed = 0
              · simp only [go_sem, e37, hX, hb1, hk, a, b, c, d]
                rw [hc, mk _ hk]
                simp [a, b, c, d, hk]
              · simp only [go_sem, e37, hX, hb1, hk, a, b, c, d]
                rw [hc, mk _ hk]
                simp [a, b, c, d, hk]
            · by_cases d : p.speed = 0
              · simp only [go_sem, e37, hX, hb1, hk, a, b, c, d]
                rw [hc, mk _ hk]
                simp [a, b, c, d, hk]
              · simp only [go_sem, e37, hX, hb1, hk, a, b, c, d]
                rw [hc, mk _ hk]
                simp [a, b, c, d, hk]
          · by_cases c : p.at' = 0
            · by_cases d : p.speed = 0
              · simp only [go_sem, e37, hX, hb1, hk, a, b, c, d]
                rw [hc, mk _ hk]
                simp [a, b, c, d, hk]
              · simp only [go_sem, e37, hX, hb1, hk, a, b, c, d]
                rw [hc, mk _ hk]
                simp [a, b, c, d, hk]
            · by_cases d : p.speed = 0
              · simp only [go_sem, e37, hX, hb1, hk, a, b, c, d]
                rw [hc, mk _ hk]
                simp [a, b, c, d, hk]
              · simp only [go_sem, e37, hX, hb1, hk, a, b, c, d]
                rw [hc, mk _ hk]
                simp [a, b, c, d, hk]
        · simp only [go_sem, e37, hX, hb1, hk, a]
          rw [hc, mk _ hk]
          simp [a, hk]
      · by_cases a : p.of = 0
        · by_cases b : p.fin = 0
          · by_cases c : p.at' = 0
            · by_cases d : p.speed = 0
              · simp only [go_sem, e37, hX, hb1, hk, a, b, c, d]
                rw [hc, mk _ hk]
                simp [a, b, c, d, hk]
              · simp only [go_sem, e37, hX, hb1, hk, a, b, c, d]
                rw [hc, mk _ hk]
                simp [a, b, c, d, hk]
            · simp only [go_sem, e37, hX, hb1, hk, a, b, c]
              rw [hc, mk _ hk]
              simp [a, b, c, hk]
          · by_cases c : p.at' = 0
            · by_cases d : p.speed = 0
              · simp only [go_sem, e37, hX, hb1, hk, a, b, c, d]
                rw [hc, mk _ hk]
                simp [a, b, c, d, hk]
              · simp only [go_sem, e37, hX, hb1, hk, a, b, c, d]
                rw [hc, mk _ hk]
                simp [a, b, c, d, hk]
            · simp only [go_sem, e37, hX, hb1, hk, a, b, c]
              rw [hc, mk _ hk]
              simp [a, b, c, hk]
        · simp only [go_sem, e37, hX, hb1, hk, a]
          rw [hc, mk _ hk]
          simp [a, hk]
      · by_cases a : p.of = 0
        · by_cases b : p.fin = 0
          · by_cases c : p.at' = 0
            · by_cases d : p.speed = 0
              · simp only [go_sem, e37, hX, hb1, hk, a, b, c, d]
                rw [hc, mk _ hk]
                simp [a, b, c, d, hk]
              · simp only [go_sem, e37, hX, hb1, hk, a, b, c, d]
                rw [hc, mk _ hk]
                simp [a, b, c, d, hk]
            · simp only [go_sem, e37, hX, hb1, hk, a, b, c]
              rw [hc, mk _ hk]
              simp [a, b, c, hk]
          · by_cases c : p.at' = 0
            · by_cases d : p.speed = 0
              · simp only [go_sem, e37, hX, hb1, hk, a, b, c, d]
                rw [hc, mk _ hk]
                simp [a, b, c, d, hk]
              · simp only [go_sem, e37, hX, hb1, hk, a, b, c, d]
                rw [hc, mk _ hk]
                simp [a, b, c, d, hk]
            · simp only [go_sem, e37, hX, hb1, hk, a, b, c]
              rw [hc, mk _ hk]
              simp [a, b, c, hk]
        · simp only [go_sem, e37, hX, hb1, hk, a]
          rw [hc, mk _ hk]
          simp [a, hk]
      · by_cases a : p.of = 0
        · by_cases b : p.fin = 0
          · by_cases c : p.at' = 0
            · by_cases d : p.speed = 0
              · simp only [go_sem, e37, hX, hb1, hk, a, b, c, d]
                rw [hc, mk _ hk]
                simp [a, b, c, d, hk]
              · simp only [go_sem, e37, hX, hb1, hk, a, b, c, d]
                rw [hc, mk _ hk]
                simp [a, b, c, d, hk]
            · simp only [go_sem, e37, hX, hb1, hk, a, b, c]
              rw [hc, mk _ hk]
              simp [a, b, c, hk]
          · simp only [go_sem, e37, hX, hb1, hk, a, b]
            rw [hc, mk _ hk]
            simp [a, b, hk]
        · simp only [go_sem, e37, hX, hb1, hk, a]
          rw [hc, mk _ hk]
          simp [a, hk]
      · by_cases a : p.of = 0
        · simp only [go_sem, e37, hX, hb1, hk, a]
          rw [hc, mk _ hk]
          simp [a, hk]
        · by_cases b : p.fin = 0
          · by_cases c : p.at' = 0
            · by_cases d : p.speed = 0
              · simp only [go_sem, e37, hX, hb1, hk, a, b, c, d]
                rw [hc, mk _ hk]
                simp [a, b, c, d, hk]
              · simp only [go_sem, e37, hX, hb1, hk, a, b, c, d]
                rw [hc, mk _ hk]
                simp [a, b, c, d, hk]
            · simp only [go_sem, e37, hX, hb1, hk, a, b, c]
              rw [hc, mk _ hk]
              simp [a, b, c, hk]
          · by_cases c : p.at' = 0
            · by_cases d : p.speed = 0
              · simp only [go_sem, e37, hX, hb1, hk, a, b, c, d]
                rw [hc, mk _ hk]
                simp [a, b, c, d, hk]
              · simp only [go_sem, e37, hX, hb1, hk, a, b, c, d]
                rw [hc, mk _ hk]
                simp [a, b, c, d, hk]
            · simp only [go_sem, e37, hX, hb1, hk, a, b, c]
              rw [hc, mk _ hk]
              simp [a, b, c, hk]
      · by_cases a : p.of = 0
        · simp only [go_sem, e37, hX, hb1, hk, a]
          rw [hc, mk _ hk]
          simp [a, hk]
        · by_cases b : p.fin = 0
          · by_cases c : p.at' = 0
            · by_cases d : p.speed = 0
              · simp only [go_sem, e37, hX, hb1, hk, a, b, c, d]
                rw [hc, mk _ hk]
                simp [a, b, c, d, hk]
              · simp only [go_sem, e37, hX, hb1, hk, a, b, c, d]
                rw [hc, mk _ hk]
                simp [a, b, c, d, hk]
            · simp only [go_sem, e37, hX, hb1, hk, a, b, c]
              rw [hc, mk _ hk]
              simp [a, b, c, hk]
          · simp only [go_sem, e37, hX, hb1, hk, a, b]
            rw [hc, mk _ hk]
            simp [a, b, hk]

end Go.Proofs.YtkfhieigdlfbeaaDoor
