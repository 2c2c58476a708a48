/- LineTexts: the text of a net, by the program. -/
import Derived.Test.YtkfhieigdlfbeaaDoorH1
import Derived.Test.YtkfhieigdlfbeaaDoorL121
namespace Go.Proofs.YtkfhieigdlfbeaaDoor
set_option linter.unusedSimpArgs false
set_option linter.unusedVariables false
open Go.AB

def stW (s : List UInt8) : List Wd := [.s [115, 116, 97, 116, 105, 111, 110], .s s]
def secW (c : Sect) : List Wd :=
  if c.kind = 1 then [.s [112, 108, 97, 105, 110], .n c.len, .n c.grade, .n c.speed, .n c.station, .b c.axles]
  else if c.kind = 2 then [.s [112, 111, 105, 110, 116, 115], .n c.len, .n c.grade, .n c.speed, .n c.slow, .b c.axles]
  else [.s [99, 114, 111, 115, 115], .n c.len, .n c.speed, .b c.axles]
def lkW (l : Lnk) : List Wd := [.s [108, 105, 110, 107], .n l.a, .n l.ea, .n l.b, .n l.eb]
def sgW (p : Pair) : List Wd := [.s [115, 105, 103, 110, 97, 108], .n p.s, .n p.e]
def gtW (p : Pair) : List Wd := [.s [103, 97, 116, 101], .n p.s, .n p.e]
/-- Lines, one for each of a list. -/
def txt {α : Type} (f : α → List Wd) (l : List α) : List UInt8 := l.flatMap fun x => joinW (f x)
def netT (n : Net) : List UInt8 := txt stW n.names ++ txt secW n.sects ++ txt lkW n.links ++ txt sgW n.sigs ++ txt gtW n.gates

theorem txt_snoc {α : Type} {f : α → List Wd} {l : List α} {i : Nat} {x : α} (h : l[i]? = some x) : txt f (l.take (i + 1)) = txt f (l.take i) ++ joinW (f x) := by
  unfold txt
  rw [List.take_add_one, h, List.flatMap_append]
  simp

def wOk (ws : List Wd) : Prop := ws ≠ [] ∧ ws.length ≤ 6 ∧ ∀ w ∈ ws, wdOk w
theorem joinW_len {ws : List Wd} (h : wOk ws) : (joinW ws).length ≤ 7000 := by
  have := join_len (ws.map wordS) (fun y hy => by obtain ⟨w, h1, rfl⟩ := List.mem_map.1 hy; exact wordS_le (h.2.2 w h1))
  rw [List.length_map] at this
  have h2 := h.2.1
  simp only [joinW, List.length_append, List.length_cons, List.length_nil]
  omega
theorem joinW_ne (ws : List Wd) : joinW ws ≠ [] := by simp [joinW]
theorem txt_len {α : Type} {f : α → List Wd} : ∀ (l : List α), (∀ x ∈ l, wOk (f x)) → (txt f l).length ≤ l.length * 7000
  | [], _ => by simp [txt]
  | x :: r, h => by
    have h1 := joinW_len (h x (by simp))
    have h2 := txt_len r (fun y hy => h y (by simp [hy]))
    simp only [txt, List.flatMap_cons, List.length_append, List.length_cons] at h2 ⊢
    omega

def iOk (k : Int) : Prop := -9223372036854775808 ≤ k ∧ k ≤ 9223372036854775807
/-- A net whose words are no longer than they may be. -/
structure NetW (n : Net) : Prop where
  nm : ∀ s ∈ n.names, s.length ≤ 1000
  sc : ∀ c ∈ n.sects, wOk (secW c)
  lk : ∀ l ∈ n.links, wOk (lkW l)
  sg : ∀ p ∈ n.sigs, wOk (sgW p)
  gt : ∀ p ∈ n.gates, wOk (gtW p)
  c1 : n.names.length ≤ 100
  c2 : n.sects.length ≤ 100
  c3 : n.links.length ≤ 100
  c4 : n.sigs.length ≤ 100
  c5 : n.gates.length ≤ 100

theorem stW_ok {s : List UInt8} (h : s.length ≤ 1000) : wOk (stW s) := by
  refine ⟨by simp [stW], by simp [stW], fun w hw => ?_⟩
  simp only [stW, List.mem_cons, List.not_mem_nil, or_false] at hw
  rcases hw with rfl | rfl
  · simp [wdOk]
  · exact h

theorem f51w (ws : List Wd) (h : wOk ws) {d : List DV} (hd : d = ws.map dWd) : PCall Tryd.prog 51 [.sl 1 d .no] (RV (.str (joinW ws))) := by
  subst hd
  exact f51 ws h.1 (by have := h.2.1; omega) h.2.2

set_option maxHeartbeats 8000000 in
set_option maxRecDepth 40000 in
theorem f21 (n : Net) (hb : NetB n) (hn : netE n = 0 → NetW n) : PCall Tryd.prog 21 [eNet n] (RV (.tup [.str (if netE n = 0 then netT n else []), .int .i64 (netE n)])) := by
  refine PCall.of_body Tryd.func21 rfl Tryd.ntmps21 (congrArg Array.toList Tryd.results21) ?_
  intro E
  simp only [go_sem, eNet, nCells]
  refine callV (f43 n hb) ?_
  intro nx lv
  by_cases h : netE n = 0
  rotate_left
  · have h' : (netE n = 0) = False := eq_false h
    simp only [go_sem, h', if_false]
    try rfl
  have hn := hn h
  have c1 := hn.c1
  have c2 := hn.c2
  have c3 := hn.c3
  have c4 := hn.c4
  have c5 := hn.c5
  have l1 := txt_len (f := stW) n.names (fun z hz => stW_ok (hn.nm z hz))
  have l2 := txt_len (f := secW) n.sects hn.sc
  have l3 := txt_len (f := lkW) n.links hn.lk
  have l4 := txt_len (f := sgW) n.sigs hn.sg
  have l5 := txt_len (f := gtW) n.gates hn.gt
  have k1 : True := trivial
  have k5 : True := trivial
  simp only [go_sem, h, if_true]
  refine AW_loopH (7 :: 24 :: 25 :: 26 :: 27 :: 28 :: 29 :: 30 :: 31 :: 32 :: 33 :: 34 :: []) (fun (x : Nat) ρ m => ρ 24 = .int .i64 (x : Int) ∧ x ≤ n.names.length ∧ ∃ h nx lv, m = ⟨h, [], nx, lv⟩ ∧ AB.hget h 1 = some (0, nCells n) ∧ AB.hget h 5 = some (0, [.bld 108 5 (txt stW (n.names.take x))])) (fun x => n.names.length - x) 0 ?_ ?_
  · simp only [go_sem]
    refine ⟨Nat.zero_le _, _, _, _, rfl, ?_, ?_⟩
    · simp [go_sem, nCells, k1]
    · simp [go_sem, txt, k5]
  rintro x ρ m ⟨ei, hx, h, nx, lv, rfl, k1, k5⟩ Q' hN hR hX
  by_cases hlt : x < n.names.length
  · have hlt' : ((x : Int) < (n.names.length : Int)) = True := eq_true (by omega)
    have h00 : ((0 : Int) ≤ (x : Int)) = True := by simp
    have w1 : IntKind.i64.wrap ((x : Int) + 1) = (x : Int) + 1 := i64_in (by omega) (by omega)
    obtain ⟨y, hy⟩ : ∃ y, n.names[x]? = some y := ⟨_, List.getElem?_eq_getElem hlt⟩
    have hym := List.mem_of_getElem? hy
    have hok : wOk (stW y) := stW_ok (hn.nm y hym)
    have hts := txt_snoc (f := stW) hy
    have hl1 := txt_len (f := stW) (n.names.take x) (fun z hz => by have := List.mem_of_mem_take hz; exact stW_ok (hn.nm z this))
    rw [List.length_take, Nat.min_eq_left hx] at hl1
    have hl2 := joinW_len hok
    simp only [go_sem, ei, hlt', h00, hy, id]
    refine callV (f51w (stW y) hok (by simp [stW, dWd])) ?_
    intro nx2 lv2
    simp only [go_sem, k5]
    refine .inr (effX.writeB writesB (s := txt stW (n.names.take x)) (x := joinW (stW y)) (by simp only [go_sem, k5]) (joinW_ne _) (by first | (simp only [List.length_append]; omega) | omega) ?_)
    simp only [go_sem, hN, w1]
    refine ⟨by kernel_rfl, x + 1, ?_, by simp only; omega⟩
    simp only [go_sem]
    refine ⟨by simp, by omega, _, _, _, rfl, ?_, ?_⟩
    · simp [go_sem, k1]
    · rw [hts]; simp [go_sem, List.append_assoc]
  · have hlt' : ((x : Int) < (n.names.length : Int)) = False := eq_false (by omega)
    have hte : n.names.take x = n.names := List.take_of_length_le (by omega)
    rw [hte] at k5
    clear hte
    simp only [go_sem, ei, hlt', hX, k1, k5, nCells]
    refine AW_loopH (9 :: 38 :: 39 :: 40 :: 41 :: 42 :: 43 :: 44 :: 45 :: 46 :: 47 :: 48 :: 49 :: 50 :: 51 :: 52 :: 53 :: 54 :: 55 :: 56 :: 57 :: 58 :: 59 :: 60 :: 61 :: 62 :: 63 :: 64 :: 65 :: 66 :: 67 :: 68 :: 69 :: 70 :: 71 :: 72 :: 73 :: 74 :: 75 :: 76 :: 77 :: 78 :: 79 :: 80 :: 81 :: 82 :: 83 :: 84 :: 85 :: 86 :: 87 :: 88 :: 89 :: 90 :: 91 :: 92 :: 93 :: 94 :: 95 :: 96 :: 97 :: 98 :: 99 :: []) (fun (x : Nat) ρ m => ρ 38 = .int .i64 (x : Int) ∧ x ≤ n.sects.length ∧ ∃ h nx lv, m = ⟨h, [], nx, lv⟩ ∧ AB.hget h 1 = some (0, nCells n) ∧ AB.hget h 5 = some (0, [.bld 108 5 (txt stW n.names ++ txt secW (n.sects.take x))])) (fun x => n.sects.length - x) 0 ?_ ?_
    · simp only [go_sem]
      refine ⟨Nat.zero_le _, _, _, _, rfl, ?_, ?_⟩
      · simp [go_sem, nCells, k1]
      · simp [go_sem, txt, k5]
    rintro x ρ m ⟨ei, hx, h, nx, lv, rfl, k1, k5⟩ Q' hN hR hX
    by_cases hlt : x < n.sects.length
    · have hlt' : ((x : Int) < (n.sects.length : Int)) = True := eq_true (by omega)
      have h00 : ((0 : Int) ≤ (x : Int)) = True := by simp
      have w1 : IntKind.i64.wrap ((x : Int) + 1) = (x : Int) + 1 := i64_in (by omega) (by omega)
      obtain ⟨y, hy⟩ : ∃ y, n.sects[x]? = some y := ⟨_, List.getElem?_eq_getElem hlt⟩
      have hym := List.mem_of_getElem? hy
      have hok : wOk (secW y) := hn.sc y hym
      have hts := txt_snoc (f := secW) hy
      have hl1 := txt_len (f := secW) (n.sects.take x) (fun z hz => by have := List.mem_of_mem_take hz; exact hn.sc z this)
      rw [List.length_take, Nat.min_eq_left hx] at hl1
      have hl2 := joinW_len hok
      by_cases q1 : y.kind = 1
      · have q1' : (y.kind = 1) = True := eq_true q1
        simp only [go_sem, ei, hlt', h00, hy, dSect, q1']
        refine callV (f51w (secW y) hok (by simp [secW, dWd, q1])) ?_
        intro nx2 lv2
        simp only [go_sem, k5, q1']
        refine .inr (effX.writeB writesB (s := txt stW n.names ++ txt secW (n.sects.take x)) (x := joinW (secW y)) (by simp only [go_sem, k5]) (joinW_ne _) (by first | (simp only [List.length_append]; omega) | omega) ?_)
        simp only [go_sem, hN, w1]
        refine ⟨by kernel_rfl, x + 1, ?_, by simp only; omega⟩
        simp only [go_sem]
        refine ⟨by simp, by omega, _, _, _, rfl, ?_, ?_⟩
        · simp [go_sem, k1]
        · rw [hts]; simp [go_sem, List.append_assoc]
      by_cases q2 : y.kind = 2
      · have q1' : (y.kind = 1) = False := eq_false q1
        have q2' : (y.kind = 2) = True := eq_true q2
        simp only [go_sem, ei, hlt', h00, hy, dSect, q1', q2']
        refine callV (f51w (secW y) hok (by simp [secW, dWd, q1, q2])) ?_
        intro nx2 lv2
        simp only [go_sem, k5, q1', q2']
        refine .inr (effX.writeB writesB (s := txt stW n.names ++ txt secW (n.sects.take x)) (x := joinW (secW y)) (by simp only [go_sem, k5]) (joinW_ne _) (by first | (simp only [List.length_append]; omega) | omega) ?_)
        simp only [go_sem, hN, w1]
        refine ⟨by kernel_rfl, x + 1, ?_, by simp only; omega⟩
        simp only [go_sem]
        refine ⟨by simp, by omega, _, _, _, rfl, ?_, ?_⟩
        · simp [go_sem, k1]
        · rw [hts]; simp [go_sem, List.append_assoc]
      · have q1' : (y.kind = 1) = False := eq_false q1
        have q2' : (y.kind = 2) = False := eq_false q2
        simp only [go_sem, ei, hlt', h00, hy, dSect, q1', q2']
        refine callV (f51w (secW y) hok (by simp [secW, dWd, q1, q2])) ?_
        intro nx2 lv2
        simp only [go_sem, k5, q1', q2']
        refine .inr (effX.writeB writesB (s := txt stW n.names ++ txt secW (n.sects.take x)) (x := joinW (secW y)) (by simp only [go_sem, k5]) (joinW_ne _) (by first | (simp only [List.length_append]; omega) | omega) ?_)
        simp only [go_sem, hN, w1]
        refine ⟨by kernel_rfl, x + 1, ?_, by simp only; omega⟩
        simp only [go_sem]
        refine ⟨by simp, by omega, _, _, _, rfl, ?_, ?_⟩
        · simp [go_sem, k1]
        · rw [hts]; simp [go_sem, List.append_assoc]
    · have hlt' : ((x : Int) < (n.sects.length : Int)) = False := eq_false (by omega)
      have hte : n.sects.take x = n.sects := List.take_of_length_le (by omega)
      rw [hte] at k5
      clear hte
      simp only [go_sem, ei, hlt', hX, k1, k5, nCells]
      refine AW_loopH (11 :: 103 :: 104 :: 105 :: 106 :: 107 :: 108 :: 109 :: 110 :: 111 :: 112 :: 113 :: 114 :: 115 :: 116 :: 117 :: 118 :: 119 :: 120 :: 121 :: 122 :: 123 :: []) (fun (x : Nat) ρ m => ρ 103 = .int .i64 (x : Int) ∧ x ≤ n.links.length ∧ ∃ h nx lv, m = ⟨h, [], nx, lv⟩ ∧ AB.hget h 1 = some (0, nCells n) ∧ AB.hget h 5 = some (0, [.bld 108 5 (txt stW n.names ++ txt secW n.sects ++ txt lkW (n.links.take x))])) (fun x => n.links.length - x) 0 ?_ ?_
      · simp only [go_sem]
        refine ⟨Nat.zero_le _, _, _, _, rfl, ?_, ?_⟩
        · simp [go_sem, nCells, k1]
        · simp [go_sem, txt, k5]
      rintro x ρ m ⟨ei, hx, h, nx, lv, rfl, k1, k5⟩ Q' hN hR hX
      by_cases hlt : x < n.links.length
      · have hlt' : ((x : Int) < (n.links.length : Int)) = True := eq_true (by omega)
        have h00 : ((0 : Int) ≤ (x : Int)) = True := by simp
        have w1 : IntKind.i64.wrap ((x : Int) + 1) = (x : Int) + 1 := i64_in (by omega) (by omega)
        obtain ⟨y, hy⟩ : ∃ y, n.links[x]? = some y := ⟨_, List.getElem?_eq_getElem hlt⟩
        have hym := List.mem_of_getElem? hy
        have hok : wOk (lkW y) := hn.lk y hym
        have hts := txt_snoc (f := lkW) hy
        have hl1 := txt_len (f := lkW) (n.links.take x) (fun z hz => by have := List.mem_of_mem_take hz; exact hn.lk z this)
        rw [List.length_take, Nat.min_eq_left hx] at hl1
        have hl2 := joinW_len hok
        simp only [go_sem, ei, hlt', h00, hy, dLnk]
        refine callV (f51w (lkW y) hok (by simp [lkW, dWd])) ?_
        intro nx2 lv2
        simp only [go_sem, k5]
        refine .inr (effX.writeB writesB (s := txt stW n.names ++ txt secW n.sects ++ txt lkW (n.links.take x)) (x := joinW (lkW y)) (by simp only [go_sem, k5]) (joinW_ne _) (by first | (simp only [List.length_append]; omega) | omega) ?_)
        simp only [go_sem, hN, w1]
        refine ⟨by kernel_rfl, x + 1, ?_, by simp only; omega⟩
        simp only [go_sem]
        refine ⟨by simp, by omega, _, _, _, rfl, ?_, ?_⟩
        · simp [go_sem, k1]
        · rw [hts]; simp [go_sem, List.append_assoc]
      · have hlt' : ((x : Int) < (n.links.length : Int)) = False := eq_false (by omega)
        have hte : n.links.take x = n.links := List.take_of_length_le (by omega)
        rw [hte] at k5
        clear hte
        simp only [go_sem, ei, hlt', hX, k1, k5, nCells]
        refine AW_loopH (13 :: 127 :: 128 :: 129 :: 130 :: 131 :: 132 :: 133 :: 134 :: 135 :: 136 :: 137 :: 138 :: 139 :: 140 :: 141 :: []) (fun (x : Nat) ρ m => ρ 127 = .int .i64 (x : Int) ∧ x ≤ n.sigs.length ∧ ∃ h nx lv, m = ⟨h, [], nx, lv⟩ ∧ AB.hget h 1 = some (0, nCells n) ∧ AB.hget h 5 = some (0, [.bld 108 5 (txt stW n.names ++ txt secW n.sects ++ txt lkW n.links ++ txt sgW (n.sigs.take x))])) (fun x => n.sigs.length - x) 0 ?_ ?_
        · simp only [go_sem]
          refine ⟨Nat.zero_le _, _, _, _, rfl, ?_, ?_⟩
          · simp [go_sem, nCells, k1]
          · simp [go_sem, txt, k5]
        rintro x ρ m ⟨ei, hx, h, nx, lv, rfl, k1, k5⟩ Q' hN hR hX
        by_cases hlt : x < n.sigs.length
        · have hlt' : ((x : Int) < (n.sigs.length : Int)) = True := eq_true (by omega)
          have h00 : ((0 : Int) ≤ (x : Int)) = True := by simp
          have w1 : IntKind.i64.wrap ((x : Int) + 1) = (x : Int) + 1 := i64_in (by omega) (by omega)
          obtain ⟨y, hy⟩ : ∃ y, n.sigs[x]? = some y := ⟨_, List.getElem?_eq_getElem hlt⟩
          have hym := List.mem_of_getElem? hy
          have hok : wOk (sgW y) := hn.sg y hym
          have hts := txt_snoc (f := sgW) hy
          have hl1 := txt_len (f := sgW) (n.sigs.take x) (fun z hz => by have := List.mem_of_mem_take hz; exact hn.sg z this)
          rw [List.length_take, Nat.min_eq_left hx] at hl1
          have hl2 := joinW_len hok
          simp only [go_sem, ei, hlt', h00, hy, dPair]
          refine callV (f51w (sgW y) hok (by simp [sgW, dWd])) ?_
          intro nx2 lv2
          simp only [go_sem, k5]
          refine .inr (effX.writeB writesB (s := txt stW n.names ++ txt secW n.sects ++ txt lkW n.links ++ txt sgW (n.sigs.take x)) (x := joinW (sgW y)) (by simp only [go_sem, k5]) (joinW_ne _) (by first | (simp only [List.length_append]; omega) | omega) ?_)
          simp only [go_sem, hN, w1]
          refine ⟨by kernel_rfl, x + 1, ?_, by simp only; omega⟩
          simp only [go_sem]
          refine ⟨by simp, by omega, _, _, _, rfl, ?_, ?_⟩
          · simp [go_sem, k1]
          · rw [hts]; simp [go_sem, List.append_assoc]
        · have hlt' : ((x : Int) < (n.sigs.length : Int)) = False := eq_false (by omega)
          have hte : n.sigs.take x = n.sigs := List.take_of_length_le (by omega)
          rw [hte] at k5
          clear hte
          simp only [go_sem, ei, hlt', hX, k1, k5, nCells]
          refine AW_loopH (15 :: 145 :: 146 :: 147 :: 148 :: 149 :: 150 :: 151 :: 152 :: 153 :: 154 :: 155 :: 156 :: 157 :: 158 :: 159 :: []) (fun (x : Nat) ρ m => ρ 145 = .int .i64 (x : Int) ∧ x ≤ n.gates.length ∧ ∃ h nx lv, m = ⟨h, [], nx, lv⟩ ∧ AB.hget h 1 = some (0, nCells n) ∧ AB.hget h 5 = some (0, [.bld 108 5 (txt stW n.names ++ txt secW n.sects ++ txt lkW n.links ++ txt sgW n.sigs ++ txt gtW (n.gates.take x))])) (fun x => n.gates.length - x) 0 ?_ ?_
          · simp only [go_sem]
            refine ⟨Nat.zero_le _, _, _, _, rfl, ?_, ?_⟩
            · simp [go_sem, nCells, k1]
            · simp [go_sem, txt, k5]
          rintro x ρ m ⟨ei, hx, h, nx, lv, rfl, k1, k5⟩ Q' hN hR hX
          by_cases hlt : x < n.gates.length
          · have hlt' : ((x : Int) < (n.gates.length : Int)) = True := eq_true (by omega)
            have h00 : ((0 : Int) ≤ (x : Int)) = True := by simp
            have w1 : IntKind.i64.wrap ((x : Int) + 1) = (x : Int) + 1 := i64_in (by omega) (by omega)
            obtain ⟨y, hy⟩ : ∃ y, n.gates[x]? = some y := ⟨_, List.getElem?_eq_getElem hlt⟩
            have hym := List.mem_of_getElem? hy
            have hok : wOk (gtW y) := hn.gt y hym
            have hts := txt_snoc (f := gtW) hy
            have hl1 := txt_len (f := gtW) (n.gates.take x) (fun z hz => by have := List.mem_of_mem_take hz; exact hn.gt z this)
            rw [List.length_take, Nat.min_eq_left hx] at hl1
            have hl2 := joinW_len hok
            simp only [go_sem, ei, hlt', h00, hy, dPair]
            refine callV (f51w (gtW y) hok (by simp [gtW, dWd])) ?_
            intro nx2 lv2
            simp only [go_sem, k5]
            refine .inr (effX.writeB writesB (s := txt stW n.names ++ txt secW n.sects ++ txt lkW n.links ++ txt sgW n.sigs ++ txt gtW (n.gates.take x)) (x := joinW (gtW y)) (by simp only [go_sem, k5]) (joinW_ne _) (by first | (simp only [List.length_append]; omega) | omega) ?_)
            simp only [go_sem, hN, w1]
            refine ⟨by kernel_rfl, x + 1, ?_, by simp only; omega⟩
            simp only [go_sem]
            refine ⟨by simp, by omega, _, _, _, rfl, ?_, ?_⟩
            · simp [go_sem, k1]
            · rw [hts]; simp [go_sem, List.append_assoc]
          · have hlt' : ((x : Int) < (n.gates.length : Int)) = False := eq_false (by omega)
            have hte : n.gates.take x = n.gates := List.take_of_length_le (by omega)
            rw [hte] at k5
            clear hte
            simp only [go_sem, ei, hlt', hX, k1, k5, nCells]
            refine .inr (effX.readB readsB (s := netT n) (by simp only [go_sem, k5, netT]) ?_)
            simp only [go_sem]
            first | done | rfl
end Go.Proofs.YtkfhieigdlfbeaaDoor
