/- The reference's runs. -/
import Derived.Test.YtalneemgdjkcdaaF1
namespace Go.Proofs.Ytalneemgdjkcdaa
open Go.AB

set_option maxHeartbeats 4000000 in
set_option maxRecDepth 20000 in
theorem f39 (s : Stock) (way : List Piece) (a fin top : Int) (hc : checkS s = 0) (hw : way.all pieceOk = true) (hw0 : way ≠ []) (hl : way.length ≤ 60)
    (ha : 0 ≤ a) (ha2 : a ≤ fin) (hf : fin ≤ 18000000) (ht0 : 0 ≤ top) (ht : top ≤ 6000) :
    PCall Try.prog 39 [eStock s, waysV way, .int .i64 a, .int .i64 fin, .int .i64 top] (RV (.tup [.sl 3 ((goL s way fin top a).map dSta) .no, .bool (goN s way fin top a).isSome])) := by
  refine PCall.of_bodySE Try.func39 rfl Try.ntmps39 (congrArg Array.toList Try.results39) ?_
  intro E
  refine AW_seq (AW_of ?_)
  simp only [go_sem, eStock, waysV]
  refine AW_seq (AW_regionM 2 55 ?_)
  simp only [go_sem]
  refine AW_of ?_
  simp only [go_sem]
  have hst := stAt_ok (fin := fin) (top := top) hc hw ht ha (by omega : a ≤ 18000000)
  generalize hF : stAt s way fin top a = f at hst
  have hf0 : f 0 = ⟨a, 0, 0⟩ := by rw [← hF]; rfl
  have hfs : ∀ k, f (k + 1) = nextF s way (f k) fin top := fun k => by rw [← hF]; rfl
  have hgN : goN s way fin top a = firstK (fun k => doneS fin (f k)) 3601 0 := by rw [← hF]; rfl
  refine AW_loopH [10, 11, 12, 13, 17, 18, 19, 20, 21, 22, 23, 24, 25, 26, 27, 28, 29, 30, 31, 32, 33, 34, 35, 36, 37, 38, 39, 40, 41, 42, 43, 44, 45, 46, 47, 48, 49, 50, 51, 52, 53, 54, 55]
    (fun (k : Nat) ρ m => k ≤ 3600 ∧ firstK (fun k => doneS fin (f k)) (3600 + 1 - k) k = goN s way fin top a ∧
      ∃ G c h nx lv cs, ρ 12 = .msl (.own 55 G) 0 (k + 1) c ∧ m = ⟨h, [], nx, lv⟩ ∧ AB.hget h 5 = some (0, sBox s) ∧ AB.hget h 55 = some (G, cs) ∧ Cells f k c cs) (fun k => 3600 - k) 0 ?_ ?_
  · have hs0 : staC (f 0) = [.int .i64 a, .int .i64 0, .int .i64 0] := by rw [hf0]; rfl
    refine ⟨Nat.zero_le _, hgN.symm, 0, 1, _, _, _, staC (f 0), by simp only [go_sem], rfl, by simp [go_sem, sBox, sCells], by simp [go_sem, hs0], Cells.first f⟩
  · rintro k ρ m ⟨g1, g2, G, c, h, nx, lv, cs, e12, rfl, b5, b55, hC⟩ Q hN hR hX
    have hlen : IntKind.i64.wrap (((k + 1 : Nat) : Int) - 1) = (k : Int) := by rw [i64_in (by omega) (by omega)]; omega
    obtain ⟨hok, p2⟩ := hst k (by omega)
    have hok' := hok
    obtain ⟨p0, p1, v0, v1, w0, w1⟩ := hok
    have ew : IntKind.i64.wrap (fin - (f k).pos) = fin - (f k).pos := i64_in (by omega) (by omega)
    have h00 : List.drop (0 + k * 3 + 0) cs = .int .i64 (f k).pos :: .int .i64 (f k).v :: .int .i64 (f k).work :: cs.drop ((k + 1) * 3) := by rw [Nat.add_zero]; exact hC.d0
    have hlk : ((k : Int) < ((k + 1 : Nat) : Int)) = True := by simp; omega
    have h0k : ((0 : Int) ≤ (k : Int)) = True := by simp
    have step : doneS fin (f k) = false → ¬ k = 3600 → ∀ σ : AS, ∀ G' c' h' nx' lv' cs', nth σ.s 12 = .msl (.own 55 G') 0 (k + 1 + 1) c' → σ.m = ⟨h', [], nx', lv'⟩ → AB.hget h' 5 = some (0, sBox s) → AB.hget h' 55 = some (G', cs') → Cells f (k + 1) c' cs' →
        k + 1 ≤ 3600 ∧ firstK (fun k => doneS fin (f k)) (3600 + 1 - (k + 1)) (k + 1) = goN s way fin top a ∧
          ∃ G c h nx lv cs, nth σ.s 12 = .msl (.own 55 G) 0 (k + 1 + 1) c ∧ σ.m = ⟨h, [], nx, lv⟩ ∧ AB.hget h 5 = some (0, sBox s) ∧ AB.hget h 55 = some (G, cs) ∧ Cells f (k + 1) c cs := by
      intro hd hk σ G' c' h' nx' lv' cs' q1 q2 q3 q4 q5
      exact ⟨by omega, firstK_go hd g2 g1, G', c', h', nx', lv', cs', q1, q2, q3, q4, q5⟩
    by_cases d1 : (f k).v = 0
    · by_cases d2 : fin - (f k).pos ≤ 100
      · have hgo : goN s way fin top a = some k := firstK_hit (by simp [doneS, d1, d2]) g2 g1
        have hgl : goL s way fin top a = hist f k ++ [ended fin (f k)] := by unfold goL; rw [hgo, hF]
        have hfin := hC.fin fin
        simp only [go_sem, e12, hlen, b55, hC.d1, d1, h00, ew, d2, hlk, h0k, hR]
        have hle := hC.le
        have hcl := hC.len
        refine ⟨by omega, .inr ⟨3, _, (goL s way fin top a).map dSta, [.bool true], rfl, ⟨.own 55 G, c, _, ?_, ?_, ?_, hfin.2, ?_, ?_⟩, rfl, ?_⟩⟩
        · rw [hgl]; simp [hist_len]
        · have hd1 := hC.d1
          rw [d1, Nat.zero_add] at hd1
          simp [go_sem, hd1]
        · rw [hgl]; simp [hist_len]; omega
        · have e : ((goL s way fin top a).map dSta).length = k + 1 := by rw [hgl]; simp [hist_len]
          rw [e]
          have h3 := hfin.1
          rw [← hgl] at h3
          exact (congrArg toDs h3).trans (toDs_cellsS _)
        · intro i e he
          rw [List.getElem?_map] at he
          cases hx : (goL s way fin top a)[i]? with
          | none => rw [hx] at he; cases he
          | some x => rw [hx] at he; cases he; rfl
        · simp only [go_sem, hgo, Option.isSome]
      · have hd : doneS fin (f k) = false := by simp [doneS, d2]
        by_cases d3 : k = 3600
        · have d3' : ((k : Int) = 3600) = True := by simp; omega
          have hgo : goN s way fin top a = none := firstK_end (firstK_go hd g2 g1) (by omega)
          have hgl : goL s way fin top a = [] := by unfold goL; rw [hgo]
          simp only [go_sem, e12, hlen, b55, hC.d1, h00, ew, hlk, h0k, hR, d3', d1, d2]
          refine .inl ?_
          simp only [go_sem, hgo, hgl, Option.isSome]
        · have d3' : ((k : Int) = 3600) = False := by simp; omega
          simp only [go_sem, e12, hlen, b55, hC.d1, h00, ew, hlk, h0k, d3', d1, d2]
          refine drawnT [2, 2, 2, 2, 2, 2, 2, 2, 2, 2, 3, 1, 1] (.alt 10 [2, 0, 0, 0, 0, 0, 0, 0, 0, 0, 0, 3, 1] (.alt 11 [0, 0, 0, 0, 0, 0, 0, 0, 0, 0, 0, 0, 2] .fin .nil) .nil) 56 (by kernel_rfl) (by kernel_rfl) (by kernel_rfl) (by kernel_rfl) rfl ?_
          simp only [go_sem, b5, b55, sBox, sCells, hC.d0, hlk, h0k]
          refine quietD (f35 s way (f k) fin top (73200000000 * k) hc hw hw0 hl hok' (by omega) (by omega) ht0 ht (by omega) (by omega)) (fun _ => rfl) ?_
          rw [← hfs k]
          simp only [go_sem, b5, b55, sBox, sCells, hC.d0, hlk, h0k, eSta]
          intro _ _ _ _ _ _ _ _
          refine ⟨hC.len, by omega, fun c1 sp q1 q2 nx3 lv3 _ _ => ?_⟩
          simp only [hN]
          refine ⟨by kernel_rfl, k + 1, ?_, by simp only; omega⟩
          exact step hd d3 _ (G + 1) c1 _ nx3 lv3 _ (by simp only [go_sem]) rfl (by simp [go_sem, b5, sBox, sCells]) (by simp [go_sem, staC]) (hC.next q1 q2)
    · have hd : doneS fin (f k) = false := by simp [doneS, d1]
      by_cases d3 : k = 3600
      · have d3' : ((k : Int) = 3600) = True := by simp; omega
        have hgo : goN s way fin top a = none := firstK_end (firstK_go hd g2 g1) (by omega)
        have hgl : goL s way fin top a = [] := by unfold goL; rw [hgo]
        simp only [go_sem, e12, hlen, b55, hC.d1, h00, ew, hlk, h0k, hR, d3', d1]
        refine .inl ?_
        simp only [go_sem, hgo, hgl, Option.isSome]
      · have d3' : ((k : Int) = 3600) = False := by simp; omega
        simp only [go_sem, e12, hlen, b55, hC.d1, h00, ew, hlk, h0k, d3', d1]
        refine drawnT [2, 2, 2, 2, 2, 2, 2, 2, 2, 2, 3, 1, 1] (.alt 10 [2, 0, 0, 0, 0, 0, 0, 0, 0, 0, 0, 3, 1] (.alt 11 [0, 0, 0, 0, 0, 0, 0, 0, 0, 0, 0, 0, 2] .fin .nil) .nil) 56 (by kernel_rfl) (by kernel_rfl) (by kernel_rfl) (by kernel_rfl) rfl ?_
        simp only [go_sem, b5, b55, sBox, sCells, hC.d0, hlk, h0k]
        refine quietD (f35 s way (f k) fin top (73200000000 * k) hc hw hw0 hl hok' (by omega) (by omega) ht0 ht (by omega) (by omega)) (fun _ => rfl) ?_
        rw [← hfs k]
        simp only [go_sem, b5, b55, sBox, sCells, hC.d0, hlk, h0k, eSta]
        intro _ _ _ _ _ _ _ _
        refine ⟨hC.len, by omega, fun c1 sp q1 q2 nx3 lv3 _ _ => ?_⟩
        simp only [hN]
        refine ⟨by kernel_rfl, k + 1, ?_, by simp only; omega⟩
        exact step hd d3 _ (G + 1) c1 _ nx3 lv3 _ (by simp only [go_sem]) rfl (by simp [go_sem, b5, sBox, sCells]) (by simp [go_sem, staC]) (hC.next q1 q2)
end Go.Proofs.Ytalneemgdjkcdaa
