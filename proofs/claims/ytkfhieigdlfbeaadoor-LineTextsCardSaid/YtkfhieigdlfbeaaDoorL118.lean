/- Nets: the reference's check of a link. -/
/- Nets: the reference's check of a link. -/
import Derived.Test.YtkfhieigdlfbeaaDoorL117
namespace Go.Proofs.YtkfhieigdlfbeaaDoor
set_option linter.unusedSimpArgs false
set_option linter.unusedVariables false
open Go.AB

def endEq (k l : Lnk) : Bool := (decide (k.a = l.a) && decide (k.ea = l.ea)) || (decide (k.a = l.b) && decide (k.ea = l.eb)) || (decide (k.b = l.a) && decide (k.eb = l.ea)) || (decide (k.b = l.b) && decide (k.eb = l.eb))
def linkE (n : Net) (i : Nat) : Int := match n.links[i]? with
  | none => 0
  | some l => if hasF n l.a l.ea = false ∨ hasF n l.b l.eb = false then 3 else if l.a = l.b then 1
    else if l.b < l.a ∨ (0 < i ∧ lessF (((n.links[i - 1]?).map Lnk.a).getD 0) (((n.links[i - 1]?).map Lnk.ea).getD 0) l.a l.ea = false) then 5
    else if ((n.links.take i).any fun k => endEq k l) = true then 6 else 0

set_option maxHeartbeats 4000000 in
set_option maxRecDepth 20000 in
theorem f55 (n : Net) (i : Nat) (l : Lnk) (hl : n.links[i]? = some l) (hb : NetB n) (hks : KindsOk n) : PCall Tryd.prog 55 [eNet n, .int .i64 (i : Int)] (RV (.int .i64 (linkE n i))) := by
  refine PCall.of_body Tryd.func55 rfl Tryd.ntmps55 (congrArg Array.toList Tryd.results55) ?_
  intro E
  have hlk := hb.lk
  have hi : i < n.links.length := (List.getElem?_eq_some_iff.1 hl).1
  have hge : linkE n i = if hasF n l.a l.ea = false ∨ hasF n l.b l.eb = false then 3 else if l.a = l.b then 1
    else if l.b < l.a ∨ (0 < i ∧ lessF (((n.links[i - 1]?).map Lnk.a).getD 0) (((n.links[i - 1]?).map Lnk.ea).getD 0) l.a l.ea = false) then 5
    else if ((n.links.take i).any fun k => endEq k l) = true then 6 else 0 := by simp [linkE, hl]
  have h0i : ((0 : Int) ≤ (i : Int)) = True := by simp
  simp (disch := omega) only [go_sem, eNet, nCells, hl, dLnk]
  refine ⟨by omega, ?_⟩
  refine callV (f85 n l.a l.ea hb hks) ?_
  intro nx lv
  by_cases q1 : hasF n l.a l.ea = true
  · simp only [go_sem, q1]
    refine callV (f85 n l.b l.eb hb hks) ?_
    intro nx2 lv2
    by_cases q2 : hasF n l.b l.eb = true
    · by_cases q3 : l.a = l.b
      · simp only [go_sem, q1, q2, q3]
        rw [hge, if_neg (by rw [q1, q2]; simp), if_pos q3]
      · by_cases q4 : l.b < l.a
        · simp only [go_sem, q1, q2, q3]
          refine drawn (by kernel_rfl) (by kernel_rfl) ?_
          simp only [go_sem, q4]
          intro _ _ _ _
          rw [hge]; simp [q1, q2, q3, q4]
        · by_cases q5 : 0 < i
          · have q5' : ((0 : Int) < (i : Int)) = True := by simp; omega
            obtain ⟨r, hr⟩ : ∃ r, n.links[i - 1]? = some r := ⟨_, List.getElem?_eq_getElem (by omega)⟩
            have ei : ((i : Int) - 1).toNat = i - 1 := by omega
            have ew : IntKind.i64.wrap ((i : Int) - 1) = (i : Int) - 1 := i64_in (by omega) (by omega)
            simp only [go_sem, q1, q2, q3]
            refine drawn (by kernel_rfl) (by kernel_rfl) ?_
            simp only [go_sem, q4, q5', ew, ei, hr, dLnk]
            refine ⟨by omega, by omega, ?_⟩
            refine quietD (f86 _ _ _ _) (fun _ => rfl) ?_
            by_cases q6 : lessF r.a r.ea l.a l.ea = true
            · simp only [go_sem, q6]
              intro nx4 lv4 _ _
              simp only [h0i, if_true]
              refine ⟨by omega, by omega, ?_⟩
              have hge : linkE n i = if ((n.links.take i).any fun k => endEq k l) = true then 6 else 0 := by rw [hge]; simp [q1, q2, q3, q4, hr, q6]
              refine AW_loopH [4, 7, 9, 72, 73, 74, 75, 76, 77, 78, 79, 80, 81, 82, 83, 84, 85, 86, 87, 88, 89, 90, 91, 92, 93, 94, 95, 96, 97, 98, 99, 100, 101, 102, 103, 104, 105, 106, 107, 108, 109]
                (fun (x : Nat) ρ m => ρ 72 = .int .i64 (x : Int) ∧ x ≤ i ∧ (∀ k ∈ n.links.take x, endEq k l = false) ∧
                  ∃ h nx lv, m = ⟨h, [], nx, lv⟩ ∧ AB.hget h 5 = some (0, [.int .i64 l.a, .int .i64 l.ea, .int .i64 l.b, .int .i64 l.eb])) (fun x => i - x) 0 ?_ ?_
              · simp only [go_sem]
                exact ⟨Nat.zero_le _, by simp, _, _, _, rfl, by simp [go_sem]⟩
              · rintro x ρ m ⟨e1, g1, g2, h, nx, lv, rfl, hb5⟩ Q hN hR hX
                have hmin : min i n.links.length = i := by omega
                by_cases hlt : x < i
                · obtain ⟨k, hk⟩ : ∃ k, n.links[x]? = some k := ⟨_, List.getElem?_eq_getElem (by omega)⟩
                  have hlt' : ((x : Int) < (i : Int)) = True := by simp; omega
                  have hlen : (List.take (i - 0) (List.map dLnk n.links)).length = i := by simp; omega
                  have hk' : (List.take (i - 0) (List.map dLnk n.links))[x]? = some (dLnk k) := by
                    rw [List.getElem?_take, if_pos (by omega), List.getElem?_map, hk]; rfl
                  have hltL : ((x : Int) < ((List.take (i - 0) (List.map dLnk n.links)).length : Int)) = True := by rw [hlen]; exact hlt'
                  simp only [go_sem, e1, hltL, hb5, hk', dLnk]
                  generalize genO (AB.hget h 7) = G7
                  refine ⟨by omega, ?_⟩
                  refine AW_loopH [4, 9, 88, 89, 90, 91, 92, 93, 94, 95, 96, 97, 98, 99, 100, 101, 102, 103, 104, 105, 106, 107, 108]
                    (fun (y : Nat) ρ m => ρ 88 = .int .i64 (y : Int) ∧ y ≤ 2 ∧ (1 ≤ y → ¬ ((k.a = l.a ∧ k.ea = l.ea) ∨ (k.a = l.b ∧ k.ea = l.eb))) ∧ (2 ≤ y → ¬ ((k.b = l.a ∧ k.eb = l.ea) ∨ (k.b = l.b ∧ k.eb = l.eb))) ∧
                      ∃ h nx lv, m = ⟨h, [], nx, lv⟩ ∧ AB.hget h 5 = some (0, [.int .i64 l.a, .int .i64 l.ea, .int .i64 l.b, .int .i64 l.eb])) (fun y => 2 - y) 0 ?_ ?_
                  · simp only [go_sem]
                    exact ⟨_, _, _, rfl, by simp [go_sem, hb5]⟩
                  · rintro y ρ m ⟨f1, r1, r2, r3, h, nx, lv, rfl, hb5⟩ Q2 hN2 hR2 hX2
                    by_cases hy : y < 2
                    · obtain ⟨u, v, hv, hv0, hv1⟩ : ∃ u v, ([DV.agg [.int .i64 k.a, .int .i64 k.ea], .agg [.int .i64 k.b, .int .i64 k.eb]] : List DV)[y]? = some (.agg [.int .i64 u, .int .i64 v]) ∧ (y = 0 → u = k.a ∧ v = k.ea) ∧ (y = 1 → u = k.b ∧ v = k.eb) := by
                        have h3 : y = 0 ∨ y = 1 := by omega
                        rcases h3 with rfl | rfl
                        · exact ⟨k.a, k.ea, rfl, fun _ => ⟨rfl, rfl⟩, fun h => by omega⟩
                        · exact ⟨k.b, k.eb, rfl, fun h => by omega, fun _ => ⟨rfl, rfl⟩⟩
                      have hy' : ((y : Int) < 2) = True := by simp; omega
                      have wy : IntKind.i64.wrap ((y : Int) + 1) = (y : Int) + 1 := i64_in (by omega) (by omega)
                      have six : ((u = l.a ∧ v = l.ea) ∨ (u = l.b ∧ v = l.eb)) → linkE n i = 6 := fun t => by
                        have hm : k ∈ n.links.take i := by
                          refine List.mem_of_getElem? (i := x) ?_
                          rw [List.getElem?_take, if_pos hlt]; exact hk
                        have he : endEq k l = true := by
                          have h3 : y = 0 ∨ y = 1 := by omega
                          unfold endEq
                          rcases h3 with rfl | rfl
                          · obtain ⟨rfl, rfl⟩ := hv0 rfl
                            rcases t with t | t <;> simp [t.1, t.2]
                          · obtain ⟨rfl, rfl⟩ := hv1 rfl
                            rcases t with t | t <;> simp [t.1, t.2]
                        rw [hge, if_pos (List.any_eq_true.2 ⟨k, hm, he⟩)]
                      simp only [go_sem, f1, hy', hv, hb5, hN2, hR2, hX2, hR, wy]
                      refine ⟨by omega, fun t1 => (six (.inl t1)).symm, fun t1 => ⟨fun t2 => (six (.inr t2)).symm, fun t2 => ⟨by kernel_rfl, y + 1, ?_, by simp only; omega⟩⟩⟩
                      simp only [go_sem]
                      exact ⟨by simp, by omega, by grind, by grind, _, _, _, rfl, by simp [go_sem, hb5]⟩
                    · have hy' : ((y : Int) < 2) = False := by simp; omega
                      have wx : IntKind.i64.wrap ((x : Int) + 1) = (x : Int) + 1 := i64_in (by omega) (by omega)
                      simp only [go_sem, f1, hy', hX2, hN, e1, wx]
                      refine ⟨by kernel_rfl, x + 1, ?_, by simp only; omega⟩
                      simp only [go_sem]
                      refine ⟨by simp, by omega, ?_, _, _, _, rfl, by simp [go_sem, hb5]⟩
                      intro k' hk'
                      rw [List.take_add_one, hk] at hk'
                      simp only [List.mem_append, Option.toList_some, List.mem_singleton] at hk'
                      rcases hk' with hk' | rfl
                      · exact g2 k' hk'
                      · have r2 := r2 (by omega)
                        have r3 := r3 (by omega)
                        unfold endEq
                        simp
                        grind
                · have hlen : (List.take (i - 0) (List.map dLnk n.links)).length = i := by simp; omega
                  have hlt' : ((x : Int) < (i : Int)) = False := by simp; omega
                  have hx : x = i := by omega
                  simp only [go_sem, e1, hlen, hlt', hX]
                  rw [hge, if_neg]
                  rw [hx] at g2
                  simpa using g2
            · have q6 : lessF r.a r.ea l.a l.ea = false := by simpa using q6
              simp only [go_sem, q6]
              intro _ _ _ _
              rw [hge]; simp [q1, q2, q3, q5, hr, q6]
          · have q5' : ((0 : Int) < (i : Int)) = False := by simp; omega
            have hi0 : i = 0 := by omega
            simp only [go_sem, q1, q2, q3]
            refine drawn (by kernel_rfl) (by kernel_rfl) ?_
            simp only [go_sem, q4, q5']
            intro nx4 lv4 _ _
            simp only [h0i, if_true]
            refine ⟨by omega, by omega, ?_⟩
            have hge : linkE n i = 0 := by rw [hge]; simp [q1, q2, q3, q4, hi0]
            refine AW_loopH [72]
              (fun (_ : Nat) ρ _ => ρ 72 = .int .i64 0) (fun x => x) 0 ?_ ?_
            · simp only [go_sem]
            · rintro x ρ m e1 Q hN hR hX
              have hlen : (List.take (i - 0) (List.map dLnk n.links)).length = 0 := by simp; omega
              have hlt' : ((0 : Int) < 0) = False := by simp
              simp only [go_sem, e1, hlen, hX]
              rw [hge]
    · have q2 : hasF n l.b l.eb = false := by simpa using q2
      simp only [go_sem, q2]
      rw [hge]; simp [q1, q2]
  · have q1 : hasF n l.a l.ea = false := by simpa using q1
    simp only [go_sem, q1]
    rw [hge]; simp [q1]
end Go.Proofs.YtkfhieigdlfbeaaDoor
