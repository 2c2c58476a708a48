/- Routes: the program's search. -/
import Derived.Test.YteadhjclchjfjaaL11
namespace Go.Proofs.Yteadhjclchjfjaa
set_option linter.unusedSimpArgs false
set_option linter.unusedVariables false
open Go.AB

theorem stepG_ok {g : List Stp → Int → Int → Fd → Fd} {n : Net} {fr home : Int} {p : List Stp} (hg : ∀ q s e f, FOk f → FOk (g q s e f)) : ∀ (l : List Stp) (f : Fd), FOk f → FOk (stepG g n fr home p l f)
  | [], f, h => h
  | x :: l, f, h => by
    rw [stepG_cons]
    split
    · exact h
    · rename_i hl
      have hl : f.lg = false := by simpa using hl
      split
      · exact countF_ok h hl
      · split
        · obtain ⟨h1, h2, h3, h4⟩ := h
          exact ⟨h1, h2, (fun hh => by cases hh), h4⟩
        · split
          · exact stepG_ok hg l _ (hg _ _ _ _ h)
          · refine stepG_ok hg l _ ?_
            obtain ⟨h1, h2, h3, h4⟩ := h
            have h3 := h3 hl
            refine ⟨by simp only [countF]; omega, by simp only [countF]; omega, fun h => ?_, by simp only [countF, List.length_append, List.length_singleton]; omega⟩
            simp only [countF, hl, Bool.false_or, decide_eq_false_iff_not] at h ⊢
            omega
theorem growF_ok {n : Net} {fr home : Int} : ∀ (k : Nat) (p : List Stp) (s e : Int) (f : Fd), FOk f → FOk (growF n fr home k p s e f)
  | 0, _, _, _, _, h => h
  | k + 1, p, s, e, f, h => stepG_ok (fun q s e f h => growF_ok k q s e f h) _ _ h

/-- What a search's round keeps to; how it stops. -/
def JG (n : Net) (fr : Nat) (home : Int) (k : Nat) (p : List Stp) (tk : Tok) (W : List Stp) (F : Fd) (j : Nat) (m : AH) : Prop :=
  ∃ h nx lv tok fk, m = ⟨h, [fCells n fk tok], nx, lv⟩ ∧ AB.hget h 4 = some (0, [.ptr (.out 0) 0]) ∧ AB.hget h 5 = some (0, [.int .i64 fr]) ∧ AB.hget h 6 = some (0, [.sl 3 (p.map dStp) tk]) ∧ AB.hget h 8 = some (0, [.int .i64 home]) ∧ okT m tok ∧ FOk fk ∧
        stepG (growF n fr home k) n fr home p (W.drop j) fk = F
def XG (n : Net) (F : Fd) (c : Code) (m : AH) : Prop := c = .ret ∧ ∃ h nx lv tok, m = ⟨h, [fCells n F tok], nx, lv⟩ ∧ okT m tok
theorem XG_ret {n : Net} {f F : Fd} (hF : f = F) {h : List (Nat × Nat × List AV)} {nx : Nat} {lv : Nat → Prop} {tok : Tok} (hok : okT ⟨h, [fCells n f tok], nx, lv⟩ tok) : XG n F .ret ⟨h, [fCells n f tok], nx, lv⟩ := by
  subst hF; exact ⟨rfl, _, _, _, tok, rfl, hok⟩
theorem JG_next {n : Net} {fr : Nat} {home : Int} {k : Nat} {p : List Stp} {tk : Tok} {W : List Stp} {F f : Fd} {j : Nat} {h : List (Nat × Nat × List AV)} {nx : Nat} {lv : Nat → Prop} {tok : Tok} (b4 : AB.hget h 4 = some (0, [.ptr (.out 0) 0])) (b5 : AB.hget h 5 = some (0, [.int .i64 fr])) (b6 : AB.hget h 6 = some (0, [.sl 3 (p.map dStp) tk])) (b8 : AB.hget h 8 = some (0, [.int .i64 home]))
    (hok : okT ⟨h, [fCells n f tok], nx, lv⟩ tok) (hf : FOk f) (hF : stepG (growF n fr home k) n fr home p (W.drop j) f = F) : JG n fr home k p tk W F j ⟨h, [fCells n f tok], nx, lv⟩ := ⟨_, _, _, tok, f, rfl, b4, b5, b6, b8, hok, hf, hF⟩

set_option maxHeartbeats 4000000 in
set_option maxRecDepth 20000 in
theorem f109 (n : Net) (hb : NetB n) (he : netE n = 0) (fr : Nat) (sg : Pair) (hsg : n.sigs[fr]? = some sg) : ∀ (k : Nat) (p : List Stp) (tk : Tok) (s e : Int) (f : Fd) (tok : Tok) (nx : Nat) (lv : Nat → Prop), p.length ≤ 16 → 17 ≤ p.length + k → FOk f → okT ⟨[], [fCells n f tok], nx, lv⟩ tok →
    QCall Try.prog 109 ⟨[], [fCells n f tok], nx, lv⟩ [.ptr (.out 0) 0, .int .i64 fr, .sl 3 (p.map dStp) tk, .agg [.int .i64 s, .int .i64 e]] (outF1 n (growF n fr sg.s k p s e f)) := by
  intro k
  induction k with
  | zero => intro p tk s e f tok nx lv h1 h2; omega
  | succ k ih =>
    intro p tk s e f tok nx lv h1 h2 hf hok
    refine QCall.of_bodyR Try.func109 rfl Try.ntmps109 (congrArg Array.toList Try.results109) ?_
    intro E hE
    refine AW_seq (AW_of ?_)
    simp only [go_sem, fCells, nCells, List.cons_append, List.nil_append]
    have hlt : fr < n.sigs.length := (List.getElem?_eq_some_iff.1 hsg).1
    have i0 : ((0 : Int) ≤ (fr : Int)) = True := by simp
    have i1 : ((fr : Int) < (n.sigs.length : Int)) = True := by simp; omega
    have hs2 : (n.sigs.map dPair)[fr]? = some (dPair sg) := by rw [List.getElem?_map, hsg]; rfl
    refine AW_seq ?_
    refine drawnP [2, 2, 2, 2, 2, 2, 2, 2, 2, 3, 1] [(9, [2, 2, 2, 2, 2, 2, 2, 2, 2, 0, 3]), (10, [0, 0, 0, 0, 0, 0, 0, 0, 0, 0, 0])] 103 (by kernel_rfl) (by kernel_rfl) (by kernel_rfl) (by kernel_rfl) rfl ?_
    simp only [go_sem, i0, i1, hs2, dPair]
    intro nx1 lv1 hn1 hl1 nx2 lv2 hn2 hl2 nx3 lv3 hn3 hl3
    refine AW_seq (drawn (by kernel_rfl) (by kernel_rfl) ?_)
    simp only [go_sem]
    refine quietD (f122 n s e) (fun _ => rfl) ?_
    simp only [go_sem, kDraw_eq]
    intro nx4 lv4 hn4 hl4
    refine AW_block (AW_range hE (by simp only [go_sem]; rfl) bodyOk_140 (f140 n s e hb he) ?_
      (JG n fr sg.s k p tk (walkS n s e) (growF n fr sg.s (k + 1) p s e f)) (XG n (growF n fr sg.s (k + 1) p s e f)) ?_ ?_ ?_ ?_ ?_)
    · intro x hx
      simp only [walkX, List.mem_map] at hx
      obtain ⟨_, _, rfl⟩ := hx
      rfl
    · rintro j h0 o0 nx0 lv0 nx1 lv1 ⟨h, nx2, lv2, tok, fk, e, b4, b5, b6, b8, hok, g1, g2⟩ _ hl
      cases e
      exact ⟨_, _, _, tok, fk, rfl, b4, b5, b6, b8, okT_mono hok (fun j x => hl j x), g1, g2⟩
    · exact ⟨_, _, _, tok, f, rfl, by simp [go_sem], by simp [go_sem], by simp [go_sem], by simp [go_sem], okT_mono hok (fun j x => hl4 j (hl3 j (hl2 j (hl1 j x)))), hf, rfl⟩
    · rintro j x m' hx ⟨h, nx5, lv5, tok', fk, rfl, b4, b5, b6, b8, hok', g1, g2⟩ E1
      simp only [walkX, List.getElem?_map] at hx
      obtain ⟨y, hy, rfl⟩ := Option.map_eq_some_iff.1 hx
      have hd : (walkS n s e).drop j = y :: (walkS n s e).drop (j + 1) := by
        have hlt := (List.getElem?_eq_some_iff.1 hy).1
        rw [List.drop_eq_getElem_cons hlt]
        rw [List.getElem?_eq_getElem hlt] at hy
        cases hy; rfl
      rw [hd, stepG_cons] at g2
      refine AW_of ?_
      simp only [go_sem, eStp]
      intro E2
      generalize hgn : genO (AB.hget h 9) = gn
      obtain ⟨h1, hh1⟩ : ∃ h1, AB.hset (AB.hset h 9 gn [.int .i64 0, .int .i64 0, .int .i64 0]) 9 gn [.int .i64 y.s, .int .i64 y.i, .int .i64 y.o] = h1 := ⟨_, rfl⟩
      have c4 : AB.hget h1 4 = some (0, [.ptr (.out 0) 0]) := by rw [← hh1]; simp [go_sem, b4]
      have c5 : AB.hget h1 5 = some (0, [.int .i64 fr]) := by rw [← hh1]; simp [go_sem, b5]
      have c6 : AB.hget h1 6 = some (0, [.sl 3 (p.map dStp) tk]) := by rw [← hh1]; simp [go_sem, b6]
      have c8 : AB.hget h1 8 = some (0, [.int .i64 sg.s]) := by rw [← hh1]; simp [go_sem, b8]
      have c9 : AB.hget h1 9 = some (gn, [.int .i64 y.s, .int .i64 y.i, .int .i64 y.o]) := by rw [← hh1]; simp [go_sem]
      rw [hh1]
      generalize growF n fr sg.s (k + 1) p s e f = F at g2 ⊢
      clear hh1 hgn b4 b5 b6 b8
      refine AW_lt fun hlt5 => ?_
      simp only at hlt5
      refine AW_block (AW_seq (AW_of ?_))
      simp only [go_sem, c4, fCells, nCells, List.cons_append, List.nil_append]
      refine ⟨fun hlg => ?_, fun hlg => ?_⟩
      · rw [if_pos hlg] at g2
        exact XG_ret (f := fk) (tok := tok') g2 (okT_mono hok' fun _ x => x)
      rw [if_neg (by rw [hlg]; simp)] at g2
      refine AW_seq (AW_seq (AW_of ?_))
      simp only [go_sem, c9, c8, c6]
      have hps := g1.2.2.1 hlg
      have hps0 := g1.1
      have hrl := g1.2.2.2
      refine ⟨fun q => ?_, fun q => ?_⟩
      · rw [if_pos (.inl q)] at g2
        refine AW_of ?_
        simp only [go_sem, c4]
        refine .inr (callF (f129 n fk tok' nx5 lv5 hps0 (by omega) (okT_mono hok' fun _ x => x)) (fun _ => rfl) rfl ?_)
        intro tok2 nx6 lv6 hok2
        simp only [go_sem]
        exact XG_ret g2 (okT_mono hok2 fun _ x => x)
      · refine callVt (f123 p y.s (by omega)) ?_
        intro nx6 lv6 hn6 hl6
        have hok6 := okT_mono (h' := h1) (o' := [fCells n fk tok']) (nx' := nx6) hok' hl6
        cases hpy : psec p y.s with
        | true =>
          rw [if_pos (.inr hpy)] at g2
          simp only [go_sem]
          refine AW_of ?_
          simp only [go_sem, c4]
          refine .inr (callF (f129 n fk tok' nx6 lv6 hps0 (by omega) (okT_mono hok6 fun _ x => x)) (fun _ => rfl) rfl ?_)
          intro tok2 nx7 lv7 hok2
          simp only [go_sem]
          exact XG_ret g2 (okT_mono hok2 fun _ x => x)
        | false =>
          rw [if_neg (by simp only [hpy]; simpa using q)] at g2
          simp only [go_sem]
          refine AW_of ?_
          simp only [go_sem]
          refine AW_seq ?_
          refine drawnP [2, 3, 2, 2, 1, 1] [(1, [0, 0, 2, 2, 3, 1]), (4, [0, 0, 0, 0, 0, 2])] 103 (by kernel_rfl) (by kernel_rfl) (by kernel_rfl) (by kernel_rfl) rfl ?_
          simp only [go_sem, c6, c9]
          intro nx7 lv7 hn7 hl7
          refine callT (f130 p (by omega)) ?_
          intro tc nx8 lv8 hn8 hl8 hnew hokc
          simp only [go_sem, c6, c9]
          intro nx9 lv9 hn9 hl9
          refine ⟨okT_mono hokc hl9, by omega, ?_⟩
          intro nx10 lv10 hn10 hl10
          have hok10 : okT ⟨h1, [fCells n fk tok'], nx10, lv10⟩ tok' := by
            cases tok' with
            | no => exact hok'
            | nil => trivial
            | own i =>
              have h5 : lv5 i := hok'
              refine hl10 i (.inr ⟨hl9 i (hl8 i (hl7 i (hl6 i h5))), fun hc => ?_⟩)
              have := hnew i hc
              have := hlt5 i h5
              simp only at *
              omega
          have how : okT ⟨h1, [fCells n fk tok'], nx10, lv10⟩ (.own nx9) := hl10 nx9 (.inl rfl)
          have hway : p.map dStp ++ [DV.agg [.int .i64 y.s, .int .i64 y.i, .int .i64 y.o]] = (p ++ [y]).map dStp := by simp [dStp]
          rw [hway]
          refine AW_seq (AW_seq (AW_of ?_))
          simp only [go_sem]
          refine AW_of ?_
          simp only [go_sem, c4]
          refine ⟨fun h16 => ?_, fun h16 => ?_⟩
          · rw [if_pos (by simp only [List.length_append, List.length_singleton] at h16; omega)] at g2
            exact XG_ret (f := ⟨fk.rs, fk.ps, true⟩) (tok := tok') g2 (okT_mono hok10 fun _ x => x)
          have hl16 : ¬ 16 < p.length + 1 := by simp only [List.length_append, List.length_singleton] at h16; omega
          rw [if_neg hl16] at g2
          obtain ⟨g11, hg11⟩ : ∃ g11, genO (AB.hget h1 11) = g11 := ⟨_, rfl⟩
          refine AW_seq (AW_of ?_)
          simp only [go_sem, c9, hg11]
          obtain ⟨h2, hh2⟩ : ∃ h2, AB.hset (AB.hset h1 11 g11 [.int .i64 0, .int .i64 0]) 11 g11 [.int .i64 y.s, .int .i64 y.o] = h2 := ⟨_, rfl⟩
          have d4 : AB.hget h2 4 = some (0, [.ptr (.out 0) 0]) := by rw [← hh2]; simp [go_sem, c4]
          have d5 : AB.hget h2 5 = some (0, [.int .i64 fr]) := by rw [← hh2]; simp [go_sem, c5]
          have d6 : AB.hget h2 6 = some (0, [.sl 3 (p.map dStp) tk]) := by rw [← hh2]; simp [go_sem, c6]
          have d8 : AB.hget h2 8 = some (0, [.int .i64 sg.s]) := by rw [← hh2]; simp [go_sem, c8]
          have d11 : AB.hget h2 11 = some (g11, [.int .i64 y.s, .int .i64 y.o]) := by rw [← hh2]; simp [go_sem]
          rw [hh2]
          clear hh2 hg11
          refine AW_seq (drawn (by kernel_rfl) (by kernel_rfl) ?_)
          simp only [go_sem, d4, d11]
          refine quietD (f61 n y.s y.o hb) (fun _ => rfl) ?_
          simp only [go_sem, kDraw_eq]
          intro nx11 lv11 hn11 hl11
          refine AW_seq (AW_seq ?_)
          refine drawnP [2, 2, 2, 2, 2, 2, 2, 2, 2, 3, 1, 1] [(9, [2, 2, 2, 2, 2, 2, 2, 2, 2, 0, 3, 1]), (10, [0, 0, 0, 0, 0, 0, 0, 0, 2, 0, 0, 2])] 103 (by kernel_rfl) (by kernel_rfl) (by kernel_rfl) (by kernel_rfl) rfl ?_
          simp only [go_sem, d4, d11]
          refine quietD (f59 n y.s y.o hb) (fun _ => rfl) ?_
          obtain ⟨g13, hg13⟩ : ∃ g13, genO (AB.hget h2 13) = g13 := ⟨_, rfl⟩
          simp only [go_sem, d4, d11, hg13]
          intro nx12 lv12 hn12 hl12
          refine quietD (f59 n y.s y.o hb) (fun _ => rfl) ?_
          simp only [go_sem, d4, d11]
          intro nx13 lv13 hn13 hl13 nx14 lv14 hn14 hl14
          obtain ⟨h3, hh3⟩ : ∃ h3, AB.hset (AB.hset h2 13 g13 [.int .i64 0, .int .i64 0]) 13 g13 [.int .i64 (joinS (joinL n.links y.s y.o)), .int .i64 (joinE (joinL n.links y.s y.o))] = h3 := ⟨_, rfl⟩
          have e4 : AB.hget h3 4 = some (0, [.ptr (.out 0) 0]) := by rw [← hh3]; simp [go_sem, d4]
          have e5 : AB.hget h3 5 = some (0, [.int .i64 fr]) := by rw [← hh3]; simp [go_sem, d5]
          have e6 : AB.hget h3 6 = some (0, [.sl 3 (p.map dStp) tk]) := by rw [← hh3]; simp [go_sem, d6]
          have e8 : AB.hget h3 8 = some (0, [.int .i64 sg.s]) := by rw [← hh3]; simp [go_sem, d8]
          have e11 : AB.hget h3 11 = some (g11, [.int .i64 y.s, .int .i64 y.o]) := by rw [← hh3]; simp [go_sem, d11]
          rw [hh3]
          clear hh3 hg13
          have hok14 : okT ⟨h3, [fCells n fk tok'], nx14, lv14⟩ tok' := okT_mono hok10 fun j x => hl14 j (hl13 j (hl12 j (hl11 j x)))
          have how14 : okT ⟨h3, [fCells n fk tok'], nx14, lv14⟩ (.own nx9) := okT_mono how fun j x => hl14 j (hl13 j (hl12 j (hl11 j x)))
          refine AW_seq (AW_of ?_)
          simp only [go_sem, e4, e5, e11]
          by_cases hc : (joinL n.links y.s y.o).isSome = true ∧ sigIdx n.sigs y.s y.o 0 < 0
          · rw [if_pos hc] at g2
            refine ⟨fun hj => ?_, fun hj => absurd hc.1 (by rw [hj]; simp)⟩
            have hs : (sigIdx n.sigs y.s y.o 0 < 0) = True := eq_true hc.2
            refine AW_of ?_
            simp only [go_sem, hs, e4, e5, e11]
            refine .inr (callF (ih (p ++ [y]) (.own nx9) y.s y.o fk tok' nx14 lv14 (by simp only [List.length_append, List.length_singleton]; omega) (by simp only [List.length_append, List.length_singleton]; omega) g1 (okT_mono hok14 fun _ x => x)) (fun _ => rfl) rfl ?_)
            intro tok2 nx15 lv15 hok2
            simp only [go_sem]
            exact JG_next e4 e5 e6 e8 (okT_mono hok2 fun _ x => x) (growF_ok _ _ _ _ _ g1) g2
          · rw [if_neg hc] at g2
            refine ⟨fun hj => ?_, fun hj => ?_⟩
            all_goals
              refine AW_of ?_
              first
                | (have hs : (sigIdx n.sigs y.s y.o 0 < 0) = False := eq_false fun x => hc ⟨hj, x⟩
                   simp only [go_sem, hs])
                | simp only [go_sem]
              refine AW_seq ?_
              refine drawnP [2, 2, 2, 2, 2, 2, 2, 2, 2, 2, 3, 1, 1, 1] [(10, [2, 0, 0, 0, 0, 0, 0, 0, 0, 0, 0, 2, 2, 3]), (13, [0, 0, 0, 0, 0, 0, 0, 0, 0, 0, 0, 0, 0, 0])] 103 (by kernel_rfl) (by kernel_rfl) (by kernel_rfl) (by kernel_rfl) rfl ?_
              simp only [go_sem, e4, e5]
              intro nx15 lv15 hn15 hl15
              refine ⟨okT_mono hok14 hl15, by omega, ?_⟩
              intro nx16 lv16 hn16 hl16' nx17 lv17 hn17 hl17
              have hrt : fk.rs.map dRt ++ [DV.agg [.int .i64 fr, .int .i64 (sigIdx n.sigs y.s y.o 0), .sl 3 ((p ++ [y]).map dStp)]] = (fk.rs ++ [(⟨fr, sigIdx n.sigs y.s y.o 0, p ++ [y]⟩ : Rt)]).map dRt := by simp [dRt]
              refine AW_of ?_
              simp only [go_sem, e4, hrt]
              refine .inr (callF (f129 n ⟨fk.rs ++ [(⟨fr, sigIdx n.sigs y.s y.o 0, p ++ [y]⟩ : Rt)], fk.ps, fk.lg⟩ (.own nx15) nx17 lv17 hps0 (by simp only; omega) (hl17 _ (hl16' _ (.inl rfl)))) (fun _ => rfl) rfl ?_)
              intro tok2 nx18 lv18 hok2
              simp only [go_sem]
              refine JG_next e4 e5 e6 e8 (okT_mono hok2 fun _ x => x) ?_ g2
              refine ⟨by simp only [countF]; omega, by simp only [countF]; omega, fun h => ?_, by simp only [countF, List.length_append, List.length_singleton]; omega⟩
              simp only [countF, hlg, Bool.false_or, decide_eq_false_iff_not] at h ⊢
              omega
    · rintro m' ⟨h, nx5, lv5, tok', fk, rfl, b4, b5, b6, b8, hok', g1, g2⟩
      rw [List.drop_eq_nil_of_le (by simp [walkX])] at g2
      simp only [go_sem]
      refine ⟨rfl, tok', ?_, hok'⟩
      rw [← g2]
      rfl
    · rintro c m' ⟨rfl, h, nx5, lv5, tok', rfl, hok'⟩
      simp only [go_sem]
      exact ⟨rfl, tok', rfl, hok'⟩
end Go.Proofs.Yteadhjclchjfjaa
