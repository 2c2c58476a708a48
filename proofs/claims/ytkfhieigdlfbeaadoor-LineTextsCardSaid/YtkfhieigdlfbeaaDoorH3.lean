/- LineTexts: the text of a net, by the reference; a net laid open; the law. -/
import Derived.Test.YtkfhieigdlfbeaaDoorH2
namespace Go.Proofs.YtkfhieigdlfbeaaDoor
set_option linter.unusedSimpArgs false
set_option linter.unusedVariables false
open Go.AB

theorem f57w (l : List Int) (hl : l.length ≤ 1000000) (hb : big l) {d : List DV} (hd : d = l.map fun x => DV.int .i64 x) : PCall Tryd.prog 57 [.sl 1 d .no] (RV (.str (told l))) := by
  subst hd
  exact f57 l hl hb
theorem big_of {ws : List Wd} {l : List Int} (h : wOk ws) (hl : ∀ k ∈ l, Wd.n k ∈ ws) : big l := fun k hk => h.2.2 _ (hl k hk)

set_option maxHeartbeats 8000000 in
set_option maxRecDepth 40000 in
theorem f23 (n : Net) (hn : NetW n) : PCall Tryd.prog 23 [eNet n] (RV (.str (netT n))) := by
  refine PCall.of_body Tryd.func23 rfl Tryd.ntmps23 (congrArg Array.toList Tryd.results23) ?_
  intro E
  have c1 := hn.c1
  have c2 := hn.c2
  have c3 := hn.c3
  have c4 := hn.c4
  have c5 := hn.c5
  have l1 := txt_len (f := stW) n.names (fun z hz => stW_ok (hn.nm z hz))
  have l2 := txt_len (f := secW) n.sects hn.sc
  have l3 := txt_len (f := lkW) n.links hn.lk
  have l4 := txt_len (f := sgW) n.sigs hn.sg
  have l5 := txt_len (f := gtW) n.gates hn.gt
  have k1 : True := trivial
  have e3 : True := trivial
  simp only [go_sem, eNet, nCells]
  refine AW_loopH (3 :: 5 :: 18 :: 19 :: 20 :: 21 :: 22 :: 23 :: 24 :: 25 :: 26 :: 27 :: []) (fun (x : Nat) ρ m => ρ 18 = .int .i64 (x : Int) ∧ x ≤ n.names.length ∧ ρ 3 = .str (txt stW (n.names.take x)) ∧ ∃ h nx lv, m = ⟨h, [], nx, lv⟩ ∧ AB.hget h 1 = some (0, nCells n)) (fun x => n.names.length - x) 0 ?_ ?_
  · simp only [go_sem]
    refine ⟨Nat.zero_le _, ?_, _, _, _, rfl, ?_⟩
    · simp [txt, e3]
    · simp [go_sem, nCells, k1]
  rintro x ρ m ⟨ei, hx, e3, h, nx, lv, rfl, k1⟩ Q' hN hR hX
  by_cases hlt : x < n.names.length
  · have hlt' : ((x : Int) < (n.names.length : Int)) = True := eq_true (by omega)
    have h00 : ((0 : Int) ≤ (x : Int)) = True := by simp
    have w1 : IntKind.i64.wrap ((x : Int) + 1) = (x : Int) + 1 := i64_in (by omega) (by omega)
    obtain ⟨y, hy⟩ : ∃ y, n.names[x]? = some y := ⟨_, List.getElem?_eq_getElem hlt⟩
    have hym := List.mem_of_getElem? hy
    have hok : wOk (stW y) := stW_ok (hn.nm y hym)
    have hts := txt_snoc (f := stW) hy
    have hl1 := txt_len (f := stW) (n.names.take x) (fun z hz => by have := List.mem_of_mem_take hz; exact stW_ok (hn.nm z this))
    rw [List.length_take, Nat.min_eq_left hx] at hl1
    have hl2 := joinW_len hok
    have hj : joinW (stW y) = [115, 116, 97, 116, 105, 111, 110, 32] ++ y ++ [10] := by simp [joinW, stW, wordS, told, Lib.join_cons, Lib.joinTail, wAx, wCi]
    have hs := hn.nm y hym
    simp only [go_sem, ei, e3, hlt', h00, hy, id, hN, w1]
    repeat (refine ⟨by first | omega | (simp only [List.length_append, List.length_cons, List.length_nil]; omega), ?_⟩)
    refine ⟨by kernel_rfl, x + 1, ?_, by simp only; omega⟩
    simp only [go_sem]
    refine ⟨by simp, by omega, ?_, _, _, _, rfl, ?_⟩
    · rw [hts, hj]; simp [List.append_assoc]
    · simp [go_sem, k1, nCells]
  · have hlt' : ((x : Int) < (n.names.length : Int)) = False := eq_false (by omega)
    have hte : n.names.take x = n.names := List.take_of_length_le (by omega)
    rw [hte] at e3
    clear hte
    simp only [go_sem, ei, hlt', hX, k1, e3, nCells]
    refine AW_loopH (3 :: 7 :: 8 :: 31 :: 32 :: 33 :: 34 :: 35 :: 36 :: 37 :: 38 :: 39 :: 40 :: 41 :: 42 :: 43 :: 44 :: 45 :: 46 :: 47 :: 48 :: 49 :: 50 :: 51 :: 52 :: 53 :: 54 :: 55 :: 56 :: 57 :: 58 :: 59 :: 60 :: 61 :: 62 :: 63 :: 64 :: 65 :: 66 :: 67 :: 68 :: 69 :: 70 :: 71 :: 72 :: 73 :: 74 :: 75 :: 76 :: 77 :: 78 :: 79 :: 80 :: 81 :: 82 :: 83 :: 84 :: []) (fun (x : Nat) ρ m => ρ 31 = .int .i64 (x : Int) ∧ x ≤ n.sects.length ∧ ρ 3 = .str (txt stW n.names ++ txt secW (n.sects.take x)) ∧ ∃ h nx lv, m = ⟨h, [], nx, lv⟩ ∧ AB.hget h 1 = some (0, nCells n)) (fun x => n.sects.length - x) 0 ?_ ?_
    · simp only [go_sem]
      refine ⟨Nat.zero_le _, ?_, _, _, _, rfl, ?_⟩
      · simp [txt, e3]
      · simp [go_sem, nCells, k1]
    rintro x ρ m ⟨ei, hx, e3, h, nx, lv, rfl, k1⟩ Q' hN hR hX
    by_cases hlt : x < n.sects.length
    · have hlt' : ((x : Int) < (n.sects.length : Int)) = True := eq_true (by omega)
      have h00 : ((0 : Int) ≤ (x : Int)) = True := by simp
      have w1 : IntKind.i64.wrap ((x : Int) + 1) = (x : Int) + 1 := i64_in (by omega) (by omega)
      obtain ⟨y, hy⟩ : ∃ y, n.sects[x]? = some y := ⟨_, List.getElem?_eq_getElem hlt⟩
      have hym := List.mem_of_getElem? hy
      have hok : wOk (secW y) := hn.sc y hym
      have hts := txt_snoc (f := secW) hy
      have hl1 := txt_len (f := secW) (n.sects.take x) (fun z hz => by have := List.mem_of_mem_take hz; exact hn.sc z this)
      rw [List.length_take, Nat.min_eq_left hx] at hl1
      have hl2 := joinW_len hok
      by_cases q1 : y.kind = 1
      · have q1' : (y.kind = 1) = True := eq_true q1
        cases hax : y.axles
        · have hax' : (y.axles = true) = False := by simp [hax]
          have hj : joinW (secW y) = [112, 108, 97, 105, 110, 32] ++ told [y.len, y.grade, y.speed, y.station] ++ [32, 99, 105, 114, 99, 117, 105, 116, 10] := by simp [joinW, secW, wordS, told, Lib.join_cons, Lib.joinTail, wAx, wCi, hax, q1]
          have hbig : big [y.len, y.grade, y.speed, y.station] := big_of hok (by simp [secW, hax, q1])
          have htl := told_len _ hbig
          simp only [List.length_cons, List.length_nil] at htl
          simp only [go_sem, ei, e3, hlt', h00, hy, dSect, hax, hax', q1']
          refine callV (f57w [y.len, y.grade, y.speed, y.station] (by simp) hbig (by simp)) ?_
          intro nx2 lv2
          simp only [go_sem, e3, hN, w1, hax, hax', q1']
          repeat (refine ⟨by first | omega | (simp only [List.length_append, List.length_cons, List.length_nil]; omega), ?_⟩)
          refine ⟨by kernel_rfl, x + 1, ?_, by simp only; omega⟩
          simp only [go_sem]
          refine ⟨by simp, by omega, ?_, _, _, _, rfl, ?_⟩
          · rw [hts, hj]; simp [List.append_assoc]
          · simp [go_sem, k1, nCells]
        · have hax' : (y.axles = true) = True := by simp [hax]
          have hj : joinW (secW y) = [112, 108, 97, 105, 110, 32] ++ told [y.len, y.grade, y.speed, y.station] ++ [32, 97, 120, 108, 101, 115, 10] := by simp [joinW, secW, wordS, told, Lib.join_cons, Lib.joinTail, wAx, wCi, hax, q1]
          have hbig : big [y.len, y.grade, y.speed, y.station] := big_of hok (by simp [secW, hax, q1])
          have htl := told_len _ hbig
          simp only [List.length_cons, List.length_nil] at htl
          simp only [go_sem, ei, e3, hlt', h00, hy, dSect, hax, hax', q1']
          refine callV (f57w [y.len, y.grade, y.speed, y.station] (by simp) hbig (by simp)) ?_
          intro nx2 lv2
          simp only [go_sem, e3, hN, w1, hax, hax', q1']
          repeat (refine ⟨by first | omega | (simp only [List.length_append, List.length_cons, List.length_nil]; omega), ?_⟩)
          refine ⟨by kernel_rfl, x + 1, ?_, by simp only; omega⟩
          simp only [go_sem]
          refine ⟨by simp, by omega, ?_, _, _, _, rfl, ?_⟩
          · rw [hts, hj]; simp [List.append_assoc]
          · simp [go_sem, k1, nCells]
      by_cases q2 : y.kind = 2
      · have q1' : (y.kind = 1) = False := eq_false q1
        have q2' : (y.kind = 2) = True := eq_true q2
        cases hax : y.axles
        · have hax' : (y.axles = true) = False := by simp [hax]
          have hj : joinW (secW y) = [112, 111, 105, 110, 116, 115, 32] ++ told [y.len, y.grade, y.speed, y.slow] ++ [32, 99, 105, 114, 99, 117, 105, 116, 10] := by simp [joinW, secW, wordS, told, Lib.join_cons, Lib.joinTail, wAx, wCi, hax, q1, q2]
          have hbig : big [y.len, y.grade, y.speed, y.slow] := big_of hok (by simp [secW, hax, q1, q2])
          have htl := told_len _ hbig
          simp only [List.length_cons, List.length_nil] at htl
          simp only [go_sem, ei, e3, hlt', h00, hy, dSect, hax, hax', q1', q2']
          refine callV (f57w [y.len, y.grade, y.speed, y.slow] (by simp) hbig (by simp)) ?_
          intro nx2 lv2
          simp only [go_sem, e3, hN, w1, hax, hax', q1', q2']
          repeat (refine ⟨by first | omega | (simp only [List.length_append, List.length_cons, List.length_nil]; omega), ?_⟩)
          refine ⟨by kernel_rfl, x + 1, ?_, by simp only; omega⟩
          simp only [go_sem]
          refine ⟨by simp, by omega, ?_, _, _, _, rfl, ?_⟩
          · rw [hts, hj]; simp [List.append_assoc]
          · simp [go_sem, k1, nCells]
        · have hax' : (y.axles = true) = True := by simp [hax]
          have hj : joinW (secW y) = [112, 111, 105, 110, 116, 115, 32] ++ told [y.len, y.grade, y.speed, y.slow] ++ [32, 97, 120, 108, 101, 115, 10] := by simp [joinW, secW, wordS, told, Lib.join_cons, Lib.joinTail, wAx, wCi, hax, q1, q2]
          have hbig : big [y.len, y.grade, y.speed, y.slow] := big_of hok (by simp [secW, hax, q1, q2])
          have htl := told_len _ hbig
          simp only [List.length_cons, List.length_nil] at htl
          simp only [go_sem, ei, e3, hlt', h00, hy, dSect, hax, hax', q1', q2']
          refine callV (f57w [y.len, y.grade, y.speed, y.slow] (by simp) hbig (by simp)) ?_
          intro nx2 lv2
          simp only [go_sem, e3, hN, w1, hax, hax', q1', q2']
          repeat (refine ⟨by first | omega | (simp only [List.length_append, List.length_cons, List.length_nil]; omega), ?_⟩)
          refine ⟨by kernel_rfl, x + 1, ?_, by simp only; omega⟩
          simp only [go_sem]
          refine ⟨by simp, by omega, ?_, _, _, _, rfl, ?_⟩
          · rw [hts, hj]; simp [List.append_assoc]
          · simp [go_sem, k1, nCells]
      · have q1' : (y.kind = 1) = False := eq_false q1
        have q2' : (y.kind = 2) = False := eq_false q2
        cases hax : y.axles
        · have hax' : (y.axles = true) = False := by simp [hax]
          have hj : joinW (secW y) = [99, 114, 111, 115, 115, 32] ++ told [y.len, y.speed] ++ [32, 99, 105, 114, 99, 117, 105, 116, 10] := by simp [joinW, secW, wordS, told, Lib.join_cons, Lib.joinTail, wAx, wCi, hax, q1, q2]
          have hbig : big [y.len, y.speed] := big_of hok (by simp [secW, hax, q1, q2])
          have htl := told_len _ hbig
          simp only [List.length_cons, List.length_nil] at htl
          simp only [go_sem, ei, e3, hlt', h00, hy, dSect, hax, hax', q1', q2']
          refine callV (f57w [y.len, y.speed] (by simp) hbig (by simp)) ?_
          intro nx2 lv2
          simp only [go_sem, e3, hN, w1, hax, hax', q1', q2']
          repeat (refine ⟨by first | omega | (simp only [List.length_append, List.length_cons, List.length_nil]; omega), ?_⟩)
          refine ⟨by kernel_rfl, x + 1, ?_, by simp only; omega⟩
          simp only [go_sem]
          refine ⟨by simp, by omega, ?_, _, _, _, rfl, ?_⟩
          · rw [hts, hj]; simp [List.append_assoc]
          · simp [go_sem, k1, nCells]
        · have hax' : (y.axles = true) = True := by simp [hax]
          have hj : joinW (secW y) = [99, 114, 111, 115, 115, 32] ++ told [y.len, y.speed] ++ [32, 97, 120, 108, 101, 115, 10] := by simp [joinW, secW, wordS, told, Lib.join_cons, Lib.joinTail, wAx, wCi, hax, q1, q2]
          have hbig : big [y.len, y.speed] := big_of hok (by simp [secW, hax, q1, q2])
          have htl := told_len _ hbig
          simp only [List.length_cons, List.length_nil] at htl
          simp only [go_sem, ei, e3, hlt', h00, hy, dSect, hax, hax', q1', q2']
          refine callV (f57w [y.len, y.speed] (by simp) hbig (by simp)) ?_
          intro nx2 lv2
          simp only [go_sem, e3, hN, w1, hax, hax', q1', q2']
          repeat (refine ⟨by first | omega | (simp only [List.length_append, List.length_cons, List.length_nil]; omega), ?_⟩)
          refine ⟨by kernel_rfl, x + 1, ?_, by simp only; omega⟩
          simp only [go_sem]
          refine ⟨by simp, by omega, ?_, _, _, _, rfl, ?_⟩
          · rw [hts, hj]; simp [List.append_assoc]
          · simp [go_sem, k1, nCells]
    · have hlt' : ((x : Int) < (n.sects.length : Int)) = False := eq_false (by omega)
      have hte : n.sects.take x = n.sects := List.take_of_length_le (by omega)
      rw [hte] at e3
      clear hte
      simp only [go_sem, ei, hlt', hX, k1, e3, nCells]
      refine AW_loopH (3 :: 10 :: 88 :: 89 :: 90 :: 91 :: 92 :: 93 :: 94 :: 95 :: 96 :: 97 :: 98 :: 99 :: 100 :: 101 :: 102 :: 103 :: 104 :: 105 :: 106 :: []) (fun (x : Nat) ρ m => ρ 88 = .int .i64 (x : Int) ∧ x ≤ n.links.length ∧ ρ 3 = .str (txt stW n.names ++ txt secW n.sects ++ txt lkW (n.links.take x)) ∧ ∃ h nx lv, m = ⟨h, [], nx, lv⟩ ∧ AB.hget h 1 = some (0, nCells n)) (fun x => n.links.length - x) 0 ?_ ?_
      · simp only [go_sem]
        refine ⟨Nat.zero_le _, ?_, _, _, _, rfl, ?_⟩
        · simp [txt, e3]
        · simp [go_sem, nCells, k1]
      rintro x ρ m ⟨ei, hx, e3, h, nx, lv, rfl, k1⟩ Q' hN hR hX
      by_cases hlt : x < n.links.length
      · have hlt' : ((x : Int) < (n.links.length : Int)) = True := eq_true (by omega)
        have h00 : ((0 : Int) ≤ (x : Int)) = True := by simp
        have w1 : IntKind.i64.wrap ((x : Int) + 1) = (x : Int) + 1 := i64_in (by omega) (by omega)
        obtain ⟨y, hy⟩ : ∃ y, n.links[x]? = some y := ⟨_, List.getElem?_eq_getElem hlt⟩
        have hym := List.mem_of_getElem? hy
        have hok : wOk (lkW y) := hn.lk y hym
        have hts := txt_snoc (f := lkW) hy
        have hl1 := txt_len (f := lkW) (n.links.take x) (fun z hz => by have := List.mem_of_mem_take hz; exact hn.lk z this)
        rw [List.length_take, Nat.min_eq_left hx] at hl1
        have hl2 := joinW_len hok
        have hj : joinW (lkW y) = [108, 105, 110, 107, 32] ++ told [y.a, y.ea, y.b, y.eb] ++ [10] := by simp [joinW, lkW, wordS, told, Lib.join_cons, Lib.joinTail, wAx, wCi]
        have hbig : big [y.a, y.ea, y.b, y.eb] := big_of hok (by simp [lkW])
        have htl := told_len _ hbig
        simp only [List.length_cons, List.length_nil] at htl
        simp only [go_sem, ei, e3, hlt', h00, hy, dLnk]
        refine callV (f57w [y.a, y.ea, y.b, y.eb] (by simp) hbig (by simp)) ?_
        intro nx2 lv2
        simp only [go_sem, e3, hN, w1]
        repeat (refine ⟨by first | omega | (simp only [List.length_append, List.length_cons, List.length_nil]; omega), ?_⟩)
        refine ⟨by kernel_rfl, x + 1, ?_, by simp only; omega⟩
        simp only [go_sem]
        refine ⟨by simp, by omega, ?_, _, _, _, rfl, ?_⟩
        · rw [hts, hj]; simp [List.append_assoc]
        · simp [go_sem, k1, nCells]
      · have hlt' : ((x : Int) < (n.links.length : Int)) = False := eq_false (by omega)
        have hte : n.links.take x = n.links := List.take_of_length_le (by omega)
        rw [hte] at e3
        clear hte
        simp only [go_sem, ei, hlt', hX, k1, e3, nCells]
        refine AW_loopH (3 :: 12 :: 110 :: 111 :: 112 :: 113 :: 114 :: 115 :: 116 :: 117 :: 118 :: 119 :: 120 :: 121 :: 122 :: 123 :: 124 :: []) (fun (x : Nat) ρ m => ρ 110 = .int .i64 (x : Int) ∧ x ≤ n.sigs.length ∧ ρ 3 = .str (txt stW n.names ++ txt secW n.sects ++ txt lkW n.links ++ txt sgW (n.sigs.take x)) ∧ ∃ h nx lv, m = ⟨h, [], nx, lv⟩ ∧ AB.hget h 1 = some (0, nCells n)) (fun x => n.sigs.length - x) 0 ?_ ?_
        · simp only [go_sem]
          refine ⟨Nat.zero_le _, ?_, _, _, _, rfl, ?_⟩
          · simp [txt, e3]
          · simp [go_sem, nCells, k1]
        rintro x ρ m ⟨ei, hx, e3, h, nx, lv, rfl, k1⟩ Q' hN hR hX
        by_cases hlt : x < n.sigs.length
        · have hlt' : ((x : Int) < (n.sigs.length : Int)) = True := eq_true (by omega)
          have h00 : ((0 : Int) ≤ (x : Int)) = True := by simp
          have w1 : IntKind.i64.wrap ((x : Int) + 1) = (x : Int) + 1 := i64_in (by omega) (by omega)
          obtain ⟨y, hy⟩ : ∃ y, n.sigs[x]? = some y := ⟨_, List.getElem?_eq_getElem hlt⟩
          have hym := List.mem_of_getElem? hy
          have hok : wOk (sgW y) := hn.sg y hym
          have hts := txt_snoc (f := sgW) hy
          have hl1 := txt_len (f := sgW) (n.sigs.take x) (fun z hz => by have := List.mem_of_mem_take hz; exact hn.sg z this)
          rw [List.length_take, Nat.min_eq_left hx] at hl1
          have hl2 := joinW_len hok
          have hj : joinW (sgW y) = [115, 105, 103, 110, 97, 108, 32] ++ told [y.s, y.e] ++ [10] := by simp [joinW, sgW, wordS, told, Lib.join_cons, Lib.joinTail, wAx, wCi]
          have hbig : big [y.s, y.e] := big_of hok (by simp [sgW])
          have htl := told_len _ hbig
          simp only [List.length_cons, List.length_nil] at htl
          simp only [go_sem, ei, e3, hlt', h00, hy, dPair]
          refine callV (f57w [y.s, y.e] (by simp) hbig (by simp)) ?_
          intro nx2 lv2
          simp only [go_sem, e3, hN, w1]
          repeat (refine ⟨by first | omega | (simp only [List.length_append, List.length_cons, List.length_nil]; omega), ?_⟩)
          refine ⟨by kernel_rfl, x + 1, ?_, by simp only; omega⟩
          simp only [go_sem]
          refine ⟨by simp, by omega, ?_, _, _, _, rfl, ?_⟩
          · rw [hts, hj]; simp [List.append_assoc]
          · simp [go_sem, k1, nCells]
        · have hlt' : ((x : Int) < (n.sigs.length : Int)) = False := eq_false (by omega)
          have hte : n.sigs.take x = n.sigs := List.take_of_length_le (by omega)
          rw [hte] at e3
          clear hte
          simp only [go_sem, ei, hlt', hX, k1, e3, nCells]
          refine AW_loopH (3 :: 14 :: 128 :: 129 :: 130 :: 131 :: 132 :: 133 :: 134 :: 135 :: 136 :: 137 :: 138 :: 139 :: 140 :: 141 :: 142 :: []) (fun (x : Nat) ρ m => ρ 128 = .int .i64 (x : Int) ∧ x ≤ n.gates.length ∧ ρ 3 = .str (txt stW n.names ++ txt secW n.sects ++ txt lkW n.links ++ txt sgW n.sigs ++ txt gtW (n.gates.take x)) ∧ ∃ h nx lv, m = ⟨h, [], nx, lv⟩ ∧ AB.hget h 1 = some (0, nCells n)) (fun x => n.gates.length - x) 0 ?_ ?_
          · simp only [go_sem]
            refine ⟨Nat.zero_le _, ?_, _, _, _, rfl, ?_⟩
            · simp [txt, e3]
            · simp [go_sem, nCells, k1]
          rintro x ρ m ⟨ei, hx, e3, h, nx, lv, rfl, k1⟩ Q' hN hR hX
          by_cases hlt : x < n.gates.length
          · have hlt' : ((x : Int) < (n.gates.length : Int)) = True := eq_true (by omega)
            have h00 : ((0 : Int) ≤ (x : Int)) = True := by simp
            have w1 : IntKind.i64.wrap ((x : Int) + 1) = (x : Int) + 1 := i64_in (by omega) (by omega)
            obtain ⟨y, hy⟩ : ∃ y, n.gates[x]? = some y := ⟨_, List.getElem?_eq_getElem hlt⟩
            have hym := List.mem_of_getElem? hy
            have hok : wOk (gtW y) := hn.gt y hym
            have hts := txt_snoc (f := gtW) hy
            have hl1 := txt_len (f := gtW) (n.gates.take x) (fun z hz => by have := List.mem_of_mem_take hz; exact hn.gt z this)
            rw [List.length_take, Nat.min_eq_left hx] at hl1
            have hl2 := joinW_len hok
            have hj : joinW (gtW y) = [103, 97, 116, 101, 32] ++ told [y.s, y.e] ++ [10] := by simp [joinW, gtW, wordS, told, Lib.join_cons, Lib.joinTail, wAx, wCi]
            have hbig : big [y.s, y.e] := big_of hok (by simp [gtW])
            have htl := told_len _ hbig
            simp only [List.length_cons, List.length_nil] at htl
            simp only [go_sem, ei, e3, hlt', h00, hy, dPair]
            refine callV (f57w [y.s, y.e] (by simp) hbig (by simp)) ?_
            intro nx2 lv2
            simp only [go_sem, e3, hN, w1]
            repeat (refine ⟨by first | omega | (simp only [List.length_append, List.length_cons, List.length_nil]; omega), ?_⟩)
            refine ⟨by kernel_rfl, x + 1, ?_, by simp only; omega⟩
            simp only [go_sem]
            refine ⟨by simp, by omega, ?_, _, _, _, rfl, ?_⟩
            · rw [hts, hj]; simp [List.append_assoc]
            · simp [go_sem, k1, nCells]
          · have hlt' : ((x : Int) < (n.gates.length : Int)) = False := eq_false (by omega)
            have hte : n.gates.take x = n.gates := List.take_of_length_le (by omega)
            rw [hte] at e3
            clear hte
            simp only [go_sem, ei, hlt', hX, k1, e3, nCells]
            simp only [netT]
            try rfl
end Go.Proofs.YtkfhieigdlfbeaaDoor
