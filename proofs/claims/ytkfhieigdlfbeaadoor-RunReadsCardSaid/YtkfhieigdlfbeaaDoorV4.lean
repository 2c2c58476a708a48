/- RunTexts: the reference, and the law. -/
import Derived.Test.YtkfhieigdlfbeaaDoorV2
namespace Go.Proofs.YtkfhieigdlfbeaaDoor
set_option linter.unusedSimpArgs false
set_option linter.unusedVariables false
open Go.AB

theorem any_pre {nm : List UInt8} {l : List Stock} {j : Nat} {t : Stock} (h : l[j]? = some t) : (l.take (j + 1)).any (fun x => decide (x.name = nm)) = ((l.take j).any (fun x => decide (x.name = nm)) || decide (t.name = nm)) := by
  rw [List.take_add_one, h]
  simp

set_option maxRecDepth 20000 in
set_option maxHeartbeats 4000000 in
theorem f32 (l : List Stock) (hn : ∀ s ∈ l, s.name.length ≤ 140737488351232) : PCall Tryd.prog 32 [.sl 10 (l.map dStock) .no] (RV (.int .i64 (errS l))) := by
  refine PCall.of_body Tryd.func32 rfl Tryd.ntmps32 (congrArg Array.toList Tryd.results32) ?_
  intro E
  by_cases h8 : l.length ≤ 8
  · have h8' : ((8 : Int) < (l.length : Int)) = False := by simp; omega
    have hE : errS l = firstN (errAt l) l.length 0 := by simp [errS, h8]
    simp only [go_sem, h8']
    refine AW_loopH [2, 3, 4, 5, 7, 13, 14, 15, 16, 17, 18, 19, 20, 21, 22, 23, 24, 25, 26, 27, 28, 29, 30, 31, 32, 33, 34, 35, 36, 37]
      (fun (i : Nat) ρ m => ρ 13 = .int .i64 (i : Int) ∧ i ≤ l.length ∧ firstN (errAt l) (l.length - i) i = errS l ∧ ∃ h nx lv, m = ⟨h, [], nx, lv⟩) (fun i => l.length - i) 0 ?_ ?_
    · simp [go_sem, hE]
    · rintro i ρ m ⟨e13, g1, gE, h, nx, lv, rfl⟩ Q hN hR hX
      by_cases hlt : i < l.length
      · obtain ⟨s, hs⟩ : ∃ s, l[i]? = some s := ⟨_, List.getElem?_eq_getElem hlt⟩
        have hp : (l.map dStock)[i]? = some (dStock s) := by rw [List.getElem?_map, hs]; rfl
        have hlt' : ((i : Int) < (l.length : Int)) = True := by simp; omega
        have h0 : ((0 : Int) ≤ (i : Int)) = True := by simp
        have hle : ((i : Int) ≤ (l.length : Int)) = True := by simp; omega
        have ew : IntKind.i64.wrap ((i : Int) + 1) = (i : Int) + 1 := i64_in (by omega) (by omega)
        have hnm := hn s (List.mem_of_getElem? hs)
        have hst := firstN_step (f := errAt l) hlt
        have hat : errAt l i = if checkS s = 0 then (if (l.take i).any (fun x => decide (x.name = s.name)) = true then 6 else 0) else checkS s := by simp [errAt, hs]
        simp only [go_sem, e13, hlt', h0, hp, dStock]
        generalize genO (AB.hget h 4) = G
        refine callV (f69 s hnm) ?_
        intro nx2 lv2
        by_cases q : checkS s = 0
        · rw [if_pos q] at hat
          have htl : (List.take (i - 0) (List.drop 0 (l.map dStock))) = (l.take i).map dStock := by simp [List.map_take]
          have htn : ((l.take i).map dStock).length = i := by simp; omega
          simp only [go_sem, q, h0, hle]
          refine ⟨Nat.zero_le _, g1, ?_⟩
          rw [show List.take (i - 0) (List.map dStock l) = (l.take i).map dStock by simp [List.map_take]]
          simp only [go_sem, htn]
          generalize hk : l.take i = k at *
          have hkl : k.length = i := by rw [← hk, List.length_take]; omega
          refine AW_loopH [2, 7, 27, 28, 29, 30, 31, 32, 33, 34, 35, 36]
            (fun (j : Nat) ρ m => ρ 27 = .int .i64 (j : Int) ∧ j ≤ i ∧ (k.take j).any (fun x => decide (x.name = s.name)) = false ∧ ∃ h nx lv, m = ⟨h, [], nx, lv⟩ ∧ AB.hget h 4 = some (G, bStock s)) (fun j => i - j) 0 ?_ ?_
          · simp [go_sem, bStock]
          · rintro j ρ2 m ⟨e27, gj, ga, h2, nx3, lv3, rfl, hb⟩ Q2 hN2 hR2 hX2
            by_cases hjt : j < i
            · obtain ⟨t, ht⟩ : ∃ t, k[j]? = some t := ⟨_, List.getElem?_eq_getElem (by omega)⟩
              have hpt : (k.map dStock)[j]? = some (dStock t) := by rw [List.getElem?_map, ht]; rfl
              have hjt' : ((j : Int) < (i : Int)) = True := by simp; omega
              have h0j : ((0 : Int) ≤ (j : Int)) = True := by simp
              have ewj : IntKind.i64.wrap ((j : Int) + 1) = (j : Int) + 1 := i64_in (by omega) (by omega)
              have ha := any_pre (nm := s.name) ht
              rw [ga, Bool.false_or] at ha
              simp only [go_sem, e27, hjt', h0j, hpt, dStock, hb, bStock]
              by_cases q3 : s.name = t.name
              · have h6 : errS l = 6 := by
                  have : k.any (fun x => decide (x.name = s.name)) = true := List.any_eq_true.2 ⟨t, List.mem_of_getElem? ht, by simp [q3]⟩
                  rw [← gE, hst, hat, this]; rfl
                simp only [go_sem, (by simp [q3] : (s.name = t.name) = True), hR2, hR]
                simp [h6]
              · have q4 : ¬ t.name = s.name := fun e => q3 e.symm
                simp only [go_sem, (by simp [q3] : (s.name = t.name) = False), hN2, ewj]
                refine ⟨by kernel_rfl, j + 1, ?_, by simp only; omega⟩
                simp only [go_sem]
                refine ⟨by simp, by omega, by rw [ha]; simp [q4], _, _, _, rfl, ?_⟩
                simp [go_sem, hb, bStock]
            · have hjt' : ((j : Int) < (i : Int)) = False := by simp; omega
              have hji : j = i := by omega
              rw [List.take_of_length_le (by omega)] at ga
              simp only [go_sem, e27, hjt', hX2, hN, ew]
              refine ⟨by kernel_rfl, i + 1, ?_, by simp only; omega⟩
              simp only [go_sem]
              exact ⟨by simp, by omega, by rw [← gE, hst, hat, ga]; rfl, _, _, _, rfl⟩
        · rw [if_neg q] at hat
          have hEq : errS l = checkS s := by rw [← gE, hst, hat, if_neg q]
          have hq' : (checkS s = 0) = False := by simp [q]
          simp only [go_sem, hq', hR]
          exact hEq.symm
      · have hlt' : ((i : Int) < (l.length : Int)) = False := by simp; omega
        rw [firstN_end (by omega)] at gE
        simp only [go_sem, e13, hlt', hX]
        exact gE
  · have h8' : ((8 : Int) < (l.length : Int)) = True := by simp; omega
    have hE : errS l = 4 := by simp [errS, h8]
    simp only [go_sem, h8', hE]

theorem errS_ok {l : List Stock} (h : errS l = 0) : l.length ≤ 8 ∧ ∀ s ∈ l, checkS s = 0 := by
  unfold errS at h
  split at h
  · rename_i h8
    refine ⟨h8, fun s hs => ?_⟩
    obtain ⟨i, hi⟩ := List.getElem?_of_mem hs
    have key : ∀ k j, firstN (errAt l) k j = 0 → ∀ x, j ≤ x → x < j + k → errAt l x = 0 := by
      intro k
      induction k with
      | zero => intro j _ x h1 h2; omega
      | succ k ih =>
        intro j hj x h1 h2
        simp only [firstN] at hj
        split at hj
        · rename_i h0
          by_cases hx : x = j
          · rw [hx]; exact h0
          · exact ih (j + 1) hj x (by omega) (by omega)
        · rename_i h0; exact absurd hj h0
    have := key _ _ h i (Nat.zero_le _) (by have := (List.getElem?_eq_some_iff.1 hi).1; omega)
    simp only [errAt, hi] at this
    split at this
    · assumption
    · exact this
  · cases h


end Go.Proofs.YtkfhieigdlfbeaaDoor
