/- A runner's runs, walked. -/
import Derived.Test.YtalneemgdjkcdaaF2
namespace Go.Proofs.Ytalneemgdjkcdaa
open Go.AB

/-- What a runner's run comes to. -/
def runR (s : Stock) (way : List Piece) (fin top a : Int) : AH → AV → Prop := fun m r =>
  ∃ h' nx' lv', m = ⟨h', [], nx', lv'⟩ ∧ ((goN s way fin top a = none ∧ r = .tup [.sl 3 [] .nil, .bool false]) ∨
    ∃ k G c cs, goN s way fin top a = some k ∧ r = .tup [.msl (.own 50 G) 0 (k + 1) c, .bool true] ∧ AB.hget h' 50 = some (G, cs) ∧ cs.take ((k + 1) * 3) = cellsS (goL s way fin top a) ∧ cs.length = c * 3 ∧ k + 1 ≤ c)

set_option maxHeartbeats 4000000 in
set_option maxRecDepth 20000 in
theorem run112 (s : Stock) (way : List Piece) (a fin top : Int) (h : List (Nat × Nat × List AV)) (nx : Nat) (lv : Nat → Prop) (G19 G17 : Nat) (bt : Tok) (hb19 : AB.hget h 19 = some (G19, rcell s (way.map dPiece) (begs way) bt fin top (.own 17 G17))) (hb17 : AB.hget h 17 = some (G17, [.mapc [] []]))
    (hc : checkS s = 0) (hw : way.all pieceOk = true) (hw0 : way ≠ []) (hl : way.length ≤ 60)
    (ha : 0 ≤ a) (ha2 : a ≤ fin) (hf : fin ≤ 18000000) (ht0 : 0 ≤ top) (ht : top ≤ 6000) :
    QCall Try.prog 112 ⟨h, [], nx, lv⟩ [.ptr (.own 19 G19) 0, .int .i64 a] (runR s way fin top a) := by
  refine QCall.of_bodyA Try.func112 rfl Try.ntmps112 (congrArg Array.toList Try.results112) ?_
  intro E
  refine AW_seq (AW_of ?_)
  simp only [go_sem]
  refine AW_seq (AW_regionM 2 50 ?_)
  simp only [go_sem]
  generalize genO (AB.hget h 50) = G50
  refine AW_of ?_
  simp only [go_sem]
  have hst := stAt_ok (fin := fin) (top := top) hc hw ht ha (by omega : a ≤ 18000000)
  generalize hF : stAt s way fin top a = f at hst
  have hf0 : f 0 = ⟨a, 0, 0⟩ := by rw [← hF]; rfl
  have hfs : ∀ k, f (k + 1) = nextF s way (f k) fin top := fun k => by rw [← hF]; rfl
  have hgN : goN s way fin top a = firstK (fun k => doneS fin (f k)) 3601 0 := by rw [← hF]; rfl
  refine AW_loopH [4, 5, 6, 7, 11, 12, 13, 14, 15, 16, 17, 18, 19, 20, 21, 22, 23, 24, 25, 26, 27, 28, 29, 30, 31, 32, 33, 34, 35, 36, 37, 38, 39, 40, 41, 42, 43, 44, 45, 46, 47, 48, 49, 50, 51]
    (fun (k : Nat) ρ m => ρ 11 = .int .i64 (k : Int) ∧ k ≤ 3601 ∧ firstK (fun k => doneS fin (f k)) (3600 + 1 - k) k = goN s way fin top a ∧
      ∃ G c h nx lv cs M, ρ 6 = .msl (.own 50 G) 0 (k + 1) c ∧ m = ⟨h, [], nx, lv⟩ ∧ AB.hget h 19 = some (G19, rcell s (way.map dPiece) (begs way) bt fin top (.own 17 G17)) ∧ AB.hget h 17 = some (G17, [.mapc (keysM M) (valsM (s.brake - 40) M)]) ∧ GoodM lv M ∧
        AB.hget h 50 = some (G, cs) ∧ Cells f k c cs) (fun k => 3601 - k) 0 ?_ ?_
  · have hs0 : staC (f 0) = [.int .i64 a, .int .i64 0, .int .i64 0] := by rw [hf0]; rfl
    refine ⟨by simp only [go_sem], Nat.zero_le _, hgN.symm, G50, 1, _, _, _, staC (f 0), [], by simp only [go_sem], rfl, by simp [go_sem, hb19], by simp [go_sem, hb17, keysM, valsM], ⟨by simp, by simp, by simp, by simp⟩, by simp [go_sem, hs0], Cells.first f⟩
  · clear hb19 hb17
    rintro k ρ m ⟨e11, g1, g2, G, c, h, nx, lv, cs, M, e6, rfl, b19, b17, hM, b50, hC⟩ Q hN hR hX
    simp only [rcell, sCells] at b19
    by_cases hk : k ≤ 3600
    · have hlt : ((k : Int) < 3601) = True := by simp; omega
      have hlen : IntKind.i64.wrap (((k + 1 : Nat) : Int) - 1) = (k : Int) := by rw [i64_in (by omega) (by omega)]; omega
      have ek : IntKind.i64.wrap ((k : Int) + 1) = ((k + 1 : Nat) : Int) := by rw [i64_in (by omega) (by omega)]; omega
      obtain ⟨hok, p2⟩ := hst k (by omega)
      have hok' := hok
      obtain ⟨p0, p1, v0, v1, w0, w1⟩ := hok
      have ew : IntKind.i64.wrap (fin - (f k).pos) = fin - (f k).pos := i64_in (by omega) (by omega)
      have h00 : List.drop (0 + k * 3 + 0) cs = .int .i64 (f k).pos :: .int .i64 (f k).v :: .int .i64 (f k).work :: cs.drop ((k + 1) * 3) := by rw [Nat.add_zero]; exact hC.d0
      have hlk : ((k : Int) < ((k + 1 : Nat) : Int)) = True := by simp; omega
      have h0k : ((0 : Int) ≤ (k : Int)) = True := by simp
      simp only [go_sem, e11, hlt, e6, hlen, hlk, h0k]
      refine drawn (by kernel_rfl) (by kernel_rfl) ?_
      by_cases d1 : (f k).v = 0
      · by_cases d2 : fin - (f k).pos ≤ 100
        · have hgo : goN s way fin top a = some k := firstK_hit (by simp [doneS, d1, d2]) g2 hk
          have hgl : goL s way fin top a = hist f k ++ [ended fin (f k)] := by unfold goL; rw [hgo, hF]
          have hfin := hC.fin fin
          simp only [go_sem, b19, b50, hC.d1, h00, ew, d1, d2, hR]
          intro nx1 lv1 _ _
          have hle := hC.le
          have hcl := hC.len
          have hd1 := hC.d1
          rw [d1, Nat.zero_add] at hd1
          refine ⟨by omega, _, _, _, rfl, .inr ⟨k, G, c, _, hgo, rfl, ?_, ?_, hfin.2, hC.le⟩⟩
          · simp [go_sem, hd1]
          · rw [hgl]; exact hfin.1
        · have hd : doneS fin (f k) = false := by simp [doneS, d2]
          have d1' : ((f k).v = 0) = True := eq_true d1
          simp only [go_sem, b19, b50, hC.d1, h00, ew, d1', d2, hC.d0]
          intro nx1 lv1 _ hl1
          refine .inr (callR (lr := .own 19 G19) (lm := .own 17 G17) (second72 s way bt fin top M nx1 lv1 (f k) (73200000000 * k) hc hw hw0 hl (hM.more hl1) hok' (by omega) (by omega) ht0 ht (by omega) (by omega)) (fun _ => rfl) (fun _ => rfl) (by simp) ?_ ?_ ?_)
          · simp [AH.cells, b19, rcell, sCells]
          · simp [AH.cells, b17]
          intro M2 nx2 lv2 k1 k2 k3
          rw [← hfs k]
          simp only [go_sem, b19, b17, b50, rcell, sCells, eSta]
          refine ⟨hC.len, by omega, fun c1 sp q1 q2 => ?_⟩
          simp only [hN]
          refine ⟨by kernel_rfl, k + 1, ?_, by simp only; omega⟩
          exact ⟨by simp only [go_sem, ek], by omega, firstK_go hd g2 hk, G + 1, c1, _, _, _, _, M2, by simp only [go_sem], rfl, by simp [go_sem, rcell, sCells], by simp [go_sem], k1.more (fun j hj => .inr hj), by simp [go_sem, staC], hC.next q1 q2⟩
      · have hd : doneS fin (f k) = false := by simp [doneS, d1]
        simp only [go_sem, b19, b50, hC.d1, h00, ew, d1, hC.d0]
        intro nx1 lv1 _ hl1
        refine .inr (callR (lr := .own 19 G19) (lm := .own 17 G17) (second72 s way bt fin top M nx1 lv1 (f k) (73200000000 * k) hc hw hw0 hl (hM.more hl1) hok' (by omega) (by omega) ht0 ht (by omega) (by omega)) (fun _ => rfl) (fun _ => rfl) (by simp) ?_ ?_ ?_)
        · simp [AH.cells, b19, rcell, sCells]
        · simp [AH.cells, b17]
        intro M2 nx2 lv2 k1 k2 k3
        rw [← hfs k]
        simp only [go_sem, b19, b17, b50, rcell, sCells, eSta]
        refine ⟨hC.len, by omega, fun c1 sp q1 q2 => ?_⟩
        simp only [hN]
        refine ⟨by kernel_rfl, k + 1, ?_, by simp only; omega⟩
        exact ⟨by simp only [go_sem, ek], by omega, firstK_go hd g2 hk, G + 1, c1, _, _, _, _, M2, by simp only [go_sem], rfl, by simp [go_sem, rcell, sCells], by simp [go_sem], k1.more (fun j hj => .inr hj), by simp [go_sem, staC], hC.next q1 q2⟩
    · have hlt : ((k : Int) < 3601) = False := by simp; omega
      have hgo : goN s way fin top a = none := firstK_end g2 (by omega)
      simp only [go_sem, e11, hlt, hX]
      exact ⟨h, nx, lv, rfl, .inl ⟨hgo, rfl⟩⟩
end Go.Proofs.Ytalneemgdjkcdaa
