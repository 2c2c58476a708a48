/- The reading of a net: the program's and the reference's. -/
import Derived.Test.YtkfhieigdlfbeaaDoorU7
namespace Go.Proofs.YtkfhieigdlfbeaaDoor
set_option linter.unusedSimpArgs false
set_option linter.unusedVariables false
open Go.AB

def zeroN : Net := ⟨[], [], [], [], []⟩
/-- Lines after lines; where the last one stands in the order. -/
def foldP : Net → Int → List (List (List UInt8)) → Option (Net × Int)
  | n, k, [] => some (n, k)
  | n, k, ws :: r => match itemOf ws with
    | none => none
    | some it => if kindI it < k then none else foldP (addI n it) (kindI it) r

theorem foldP_take : ∀ (ls : List (List (List UInt8))) (x : Nat) (ws : List (List UInt8)) (n0 n : Net) (k0 k : Int), ls[x]? = some ws → foldP n0 k0 (ls.take x) = some (n, k) →
    (itemOf ws = none → foldP n0 k0 ls = none) ∧ ∀ it, itemOf ws = some it → (kindI it < k → foldP n0 k0 ls = none) ∧ (¬ kindI it < k → foldP n0 k0 (ls.take (x + 1)) = some (addI n it, kindI it))
  | [], x, ws, n0, n, k0, k, h, _ => by simp at h
  | l :: r, 0, ws, n0, n, k0, k, h, hl => by
    simp only [List.getElem?_cons_zero, Option.some.injEq] at h
    subst h
    simp only [List.take_zero, foldP, Option.some.injEq, Prod.mk.injEq] at hl
    obtain ⟨rfl, rfl⟩ := hl
    refine ⟨fun hn => by simp [foldP, hn], fun it hi => ⟨fun hk => by simp [foldP, hi, hk], fun hk => by simp [foldP, hi, hk]⟩⟩
  | l :: r, x + 1, ws, n0, n, k0, k, h, hl => by
    simp only [List.take_succ_cons, foldP] at hl ⊢
    cases hi : itemOf l with
    | none => rw [hi] at hl; cases hl
    | some it =>
      rw [hi] at hl
      simp only at hl ⊢
      split at hl
      · cases hl
      · rename_i hk
        simp only [hk, if_false]
        exact foldP_take r x ws _ n _ k (by simpa using h) hl

theorem foldP_small : ∀ (ls : List (List (List UInt8))) (n0 n : Net) (k0 k : Int), foldP n0 k0 ls = some (n, k) →
    n.names.length ≤ n0.names.length + ls.length ∧ n.sects.length ≤ n0.sects.length + ls.length ∧ n.links.length ≤ n0.links.length + ls.length ∧ n.sigs.length ≤ n0.sigs.length + ls.length ∧ n.gates.length ≤ n0.gates.length + ls.length
  | [], n0, n, k0, k, h => by
    simp only [foldP, Option.some.injEq, Prod.mk.injEq] at h
    obtain ⟨rfl, rfl⟩ := h
    simp
  | l :: r, n0, n, k0, k, h => by
    simp only [foldP] at h
    split at h
    · cases h
    · rename_i it hi
      split at h
      · cases h
      · have := foldP_small r _ n _ k h
        cases it <;> simp only [addI, List.length_append, List.length_cons, List.length_nil] at this ⊢ <;> omega

theorem foldP_names : ∀ (ls : List (List (List UInt8))) (n0 n : Net) (k0 k : Int), foldP n0 k0 ls = some (n, k) → ∀ s ∈ n.names, s ∈ n0.names ∨ ∃ ws ∈ ls, s ∈ ws
  | [], n0, n, k0, k, h, s, hs => by
    simp only [foldP, Option.some.injEq, Prod.mk.injEq] at h
    obtain ⟨rfl, rfl⟩ := h
    exact .inl hs
  | l :: r, n0, n, k0, k, h, s, hs => by
    simp only [foldP] at h
    split at h
    · cases h
    · rename_i it hi
      split at h
      · cases h
      · rcases foldP_names r _ n _ k h s hs with h1 | ⟨ws, h1, h2⟩
        · cases it with
          | st x =>
            simp only [addI, List.mem_append, List.mem_singleton] at h1
            rcases h1 with h1 | rfl
            · exact .inl h1
            · refine .inr ⟨l, List.mem_cons_self .., ?_⟩
              unfold itemOf at hi
              split at hi
              · cases hi
              · split at hi
                · split at hi
                  · split at hi
                    · cases hi
                    · cases hi; simp
                  · cases hi
                · split at hi
                  · split at hi
                    · cases hi
                    · unfold sectOf at hi
                      split at hi
                      · split at hi
                        · split at hi
                          · cases hi
                          · split at hi <;> cases hi
                        · split at hi <;> cases hi
                        · cases hi
                      · cases hi
                  · unfold restOf at hi
                    split at hi
                    · split at hi <;> cases hi
                    · split at hi
                      · cases hi
                      · split at hi <;> cases hi
                    · cases hi
          | _ => exact .inl h1
        · exact .inr ⟨ws, List.mem_cons_of_mem _ h1, h2⟩

/-- What is read of a text. -/
def readN (t : List UInt8) : Net × Int :=
  if 20000 < t.length then (zeroN, 4) else if linesB t = true then match foldP zeroN 0 (linesF t) with
    | none => (zeroN, 10)
    | some (n, _) => if netE n = 0 then (n, 0) else (zeroN, netE n)
  else (zeroN, 10)
def readNV (t : List UInt8) : AV := .tup [eNet (readN t).1, .int .i64 (readN t).2]

theorem callLine {n : Net} {it : Option Item} {a b c d e : Tok} {ws : List (List UInt8)} {σ : AS} {dst : Option Nat} {K : AS → Prop} {l : AB.Loc}
    (h : QCall Tryd.prog 42 ⟨[], [nC n a b c d e], σ.m.nx, σ.m.lv⟩ [.ptr (.out 0) 0, .sl 1 (ws.map DV.str) .no] (RLine n it)) (hc : σ.m.cells l = some (nC n a b c d e))
    (hN : it = none → ∀ a b c d e nx2 lv2, K (AS.put ⟨σ.s, ⟨(σ.m.setCells l (nC n a b c d e)).h, (σ.m.setCells l (nC n a b c d e)).o, nx2, lv2⟩⟩ dst (.int .i64 (-1))))
    (hS : ∀ i, it = some i → ∀ a b c d e nx2 lv2, TOk nx2 lv2 [a, b, c, d, e] → K (AS.put ⟨σ.s, ⟨(σ.m.setCells l (nC (addI n i) a b c d e)).h, (σ.m.setCells l (nC (addI n i) a b c d e)).o, nx2, lv2⟩⟩ dst (.int .i64 (kindI i)))) :
    effX Tryd.prog 42 [.ptr l 0, .sl 1 (ws.map DV.str) .no] σ dst K := by
  refine effH [l] (css := [nC n a b c d e]) ?_ ?_ ?_ (.one l) h ?_
  · simp only [rnAL, rnA, rnC, outF, idxL, if_true, port1]
  · simp only [cellsL, hc]
  · simp only [rnLL, nC_rn]
  · intro m' r hr
    cases it with
    | none =>
      obtain ⟨rfl, a, b, c, d, e, ho⟩ := hr
      refine ⟨[nC n a b c d e], .int .i64 (-1), ?_, rfl, rfl, hN rfl a b c d e _ _⟩
      rw [ho]
      simp only [rnLL, nC_rn]
    | some i =>
      obtain ⟨rfl, a, b, c, d, e, ho, ht⟩ := hr
      refine ⟨[nC (addI n i) a b c d e], .int .i64 (kindI i), ?_, rfl, rfl, hS i rfl a b c d e _ _ ht⟩
      rw [ho]
      simp only [rnLL, nC_rn]

theorem linesF_sm {t : List UInt8} (ht : t.length ≤ 20000) : (linesF t).length ≤ 20001 ∧ ∀ ws ∈ linesF t, ws.length ≤ 20001 ∧ ∀ w ∈ ws, w.length ≤ 20000 := by
  unfold linesF
  split
  · simp
  · have h1 := trim_le t
    have h2 := splitC_length 10 (Lib.trimSuffix t [10])
    refine ⟨by rw [List.length_map]; omega, fun ws hws => ?_⟩
    obtain ⟨l, hl, rfl⟩ := List.mem_map.1 hws
    have h3 := (splitC_mem hl).1
    have h4 := splitC_length 32 l
    exact ⟨by omega, fun w hw => by have := (splitC_mem hw).1; omega⟩

theorem linesF_ne {t : List UInt8} {ws : List (List UInt8)} (h : ws ∈ linesF t) : ws ≠ [] := by
  unfold linesF at h
  split at h
  · cases h
  · obtain ⟨l, _, rfl⟩ := List.mem_map.1 h
    exact splitC_ne 32 l

set_option maxHeartbeats 4000000 in
set_option maxRecDepth 20000 in
theorem f18 (t : List UInt8) (ht : t.length ≤ 140737488351232) : PCall Tryd.prog 18 [.str t] (RV (readNV t)) := by
  refine PCall.of_bodyE Tryd.func18 rfl Tryd.ntmps18 (congrArg Array.toList Tryd.results18) ?_
  intro E
  by_cases h1 : 20000 < t.length
  · have h1' : ((20000 : Int) < (t.length : Int)) = True := eq_true (by omega)
    have hr : readN t = (zeroN, 4) := by unfold readN; rw [if_pos h1]
    rw [readNV, hr]
    simp only [go_sem, h1']
    first | done | rfl | exact ⟨rfl, rfl⟩
  have h1' : ((20000 : Int) < (t.length : Int)) = False := eq_false (by omega)
  simp only [go_sem, h1']
  refine callV (f29 t (by omega)) ?_
  intro nx lv
  cases hB : linesB t with
  | false =>
    have hr : readN t = (zeroN, 10) := by unfold readN; rw [if_neg h1, hB]; rfl
    rw [readNV, hr]
    simp only [go_sem, linesV, hB]
    first | done | rfl | exact ⟨rfl, rfl⟩
  | true =>
    obtain ⟨b1, b2⟩ := linesF_sm (t := t) (by omega)
    have b3 : ∀ ws ∈ linesF t, ws ≠ [] := fun ws h => linesF_ne h
    have hr : readN t = match foldP zeroN 0 (linesF t) with
        | none => (zeroN, 10)
        | some (n, _) => if netE n = 0 then (n, 0) else (zeroN, netE n) := by unfold readN; rw [if_neg h1, hB]; rfl
    rw [readNV]
    simp only [go_sem, linesV, hB]
    generalize linesF t = ls at *
    refine AW_loopH [3, 7, 9, 10, 26, 27, 28, 29, 30, 31, 32, 33, 34, 35, 36, 37] (fun (x : Nat) ρ m => ρ 26 = .int .i64 (x : Int) ∧ x ≤ ls.length ∧ ∃ n k a b c d e h nx lv, ρ 7 = .int .i64 k ∧ 0 ≤ k ∧ m = ⟨h, [], nx, lv⟩ ∧ AB.hget h 2 = some (0, nC zeroN .nil .nil .nil .nil .nil) ∧ AB.hget h 6 = some (0, nC n a b c d e) ∧ TOk nx lv [a, b, c, d, e] ∧ foldP zeroN 0 (ls.take x) = some (n, k)) (fun x => ls.length - x) 0 ?_ ?_
    · simp only [go_sem]
      refine ⟨Nat.zero_le _, zeroN, 0, .nil, .nil, .nil, .nil, .nil, _, _, _, rfl, Int.le_refl _, rfl, ?_, ?_, ⟨by simp, ?_⟩, rfl⟩
      · simp [go_sem, nC, zeroN]
      · simp [go_sem, nC, zeroN]
      · simp
    rintro x ρ m ⟨e26, hx, n, k, a, b, c, d, e, h, nx, lv, e7, hk0, rfl, c2, c6, ht5, hf⟩ Q' hN hR hX
    obtain ⟨s1, s2, s3, s4, s5⟩ := foldP_small _ _ _ _ _ hf
    rw [List.length_take, Nat.min_eq_left hx] at s1 s2 s3 s4 s5
    simp only [zeroN, List.length_nil, Nat.zero_add] at s1 s2 s3 s4 s5
    have c2' : ∀ cs, AB.hget (AB.hset h 6 0 cs) 2 = some (0, nC zeroN .nil .nil .nil .nil .nil) := fun cs => by rw [hget_set_ne h 0 cs (by decide)]; exact c2
    have c6' : ∀ cs, AB.hget (AB.hset h 6 0 cs) 6 = some (0, cs) := fun cs => hget_set_self h 6 0 cs
    have c2s : ∀ (h : List (Nat × Nat × List AV)) cs, AB.hget (AB.hset h 2 0 cs) 2 = some (0, cs) := fun h cs => hget_set_self h 2 0 cs
    by_cases hlt : x < ls.length
    · have hlt' : ((x : Int) < (ls.length : Int)) = True := eq_true (by omega)
      have h00 : ((0 : Int) ≤ (x : Int)) = True := by simp
      have w1 : IntKind.i64.wrap ((x : Int) + 1) = (x : Int) + 1 := i64_in (by omega) (by omega)
      obtain ⟨ws, hw⟩ : ∃ ws, ls[x]? = some ws := ⟨_, List.getElem?_eq_getElem hlt⟩
      have hwm := List.mem_of_getElem? hw
      obtain ⟨d1, d2⟩ := b2 ws hwm
      obtain ⟨t1, t2⟩ := foldP_take ls x ws zeroN n 0 k hw hf
      simp only [go_sem, e26, hlt', h00, hw, dWords, hN, hR, hX]
      refine .inr (callLine (f42 n ws a b c d e nx lv ⟨by omega, by omega, by omega, by omega, by omega⟩ (b3 ws hwm) d1 d2 ht5) (by simp [go_sem, AH.cells, c6]) ?_ ?_)
      · intro hi a b c d e nx2 lv2
        have r1 : readN t = (zeroN, 10) := by rw [hr, t1 hi]
        have hl : ((-1 : Int) < k) = True := eq_true (by omega)
        simp only [go_sem, e7, hl, hN, hR, hX, c2', c2s, r1, nC, zeroN, List.map_nil]
        first | done | rfl | exact ⟨rfl, rfl⟩
      · intro it hi a b c d e nx2 lv2 ht2
        obtain ⟨t3, t4⟩ := t2 it hi
        by_cases hk : kindI it < k
        · have r1 : readN t = (zeroN, 10) := by rw [hr, t3 hk]
          have hl : (kindI it < k) = True := eq_true hk
          simp only [go_sem, e7, hl, hN, hR, hX, c2', c2s, r1, nC, zeroN, List.map_nil]
          first | done | rfl | exact ⟨rfl, rfl⟩
        · have hl : (kindI it < k) = False := eq_false hk
          simp only [go_sem, e7, hl, hN, hR, hX, w1]
          refine ⟨by kernel_rfl, x + 1, ?_, by simp only; omega⟩
          simp only [go_sem]
          refine ⟨by simp, by omega, addI n it, kindI it, a, b, c, d, e, _, _, _, rfl, by cases it <;> simp [kindI], rfl, c2' _, c6' _, ht2, t4 hk⟩
    · have hlt' : ((x : Int) < (ls.length : Int)) = False := eq_false (by omega)
      have hte : ls.take x = ls := List.take_of_length_le (by omega)
      have hnames := foldP_names _ _ _ _ _ hf
      rw [hte] at hf hnames
      rw [hf] at hr
      simp only at hr
      have hb : NetB n := by
        refine ⟨by omega, by omega, by omega, by omega, by omega, fun s hs => ?_⟩
        rcases hnames s hs with h | ⟨ws, h1, h2⟩
        · simp [zeroN] at h
        · have := (b2 ws h1).2 s h2
          omega
      simp only [go_sem, e26, hlt', hN, hR, hX, c6, nC]
      refine callV (f43 n hb) ?_
      intro nx2 lv2
      by_cases h0 : netE n = 0
      · rw [if_pos h0] at hr
        simp only [go_sem, h0, hr, c2, c2s, c6, nC]
        rfl
      · rw [if_neg h0] at hr
        have h0' : (netE n = 0) = False := eq_false h0
        simp only [go_sem, h0', hr, c2, c2s, c6, nC, zeroN, List.map_nil]
        rfl

theorem callRef {n : Net} {it : Option Item} {bs args : List AV} {σ : AS} {dst : Option Nat} {K : AS → Prop} (h : QCall Tryd.prog 44 ⟨[], [], σ.m.nx, σ.m.lv⟩ args (RRef n it)) (h1 : rnAL (outF []) args = some args)
    (hN : it = none → ∀ a b c d e k nx2 lv2, K (AS.put ⟨σ.s, ⟨σ.m.h, σ.m.o, nx2, lv2⟩⟩ dst (.tup [.agg (nC n a b c d e), .int .i64 k, .bool false])))
    (hS : ∀ i, it = some i → ∀ a b c d e nx2 lv2, TOk nx2 lv2 [a, b, c, d, e] → K (AS.put ⟨σ.s, ⟨σ.m.h, σ.m.o, nx2, lv2⟩⟩ dst (.tup [.agg (nC (addI n i) a b c d e), .int .i64 (kindI i), .bool true]))) : callX Tryd.prog 44 bs args σ dst K := by
  refine callX.own h1 h ?_
  rintro m' r ⟨ho, hr⟩
  cases it with
  | none =>
    obtain ⟨a, b, c, d, e, k, rfl⟩ := hr
    refine ⟨ho, .tup [.agg (nC n a b c d e), .int .i64 k, .bool false], ?_, hN rfl a b c d e k _ _⟩
    simp only [rnV, rnAL, rnA, nC_rn, rnC, port1]
  | some i =>
    obtain ⟨a, b, c, d, e, rfl, ht⟩ := hr
    refine ⟨ho, .tup [.agg (nC (addI n i) a b c d e), .int .i64 (kindI i), .bool true], ?_, hS i rfl a b c d e _ _ ht⟩
    simp only [rnV, rnAL, rnA, nC_rn, rnC, port1]

set_option maxHeartbeats 4000000 in
set_option maxRecDepth 20000 in
theorem f19 (t : List UInt8) (ht : t.length ≤ 140737488351232) : PCall Tryd.prog 19 [.str t] (RV (readNV t)) := by
  refine PCall.of_bodyE Tryd.func19 rfl Tryd.ntmps19 (congrArg Array.toList Tryd.results19) ?_
  intro E
  by_cases h1 : 20000 < t.length
  · have h1' : ((20000 : Int) < (t.length : Int)) = True := eq_true (by omega)
    have hr : readN t = (zeroN, 4) := by unfold readN; rw [if_pos h1]
    rw [readNV, hr]
    simp only [go_sem, h1']
    first | done | rfl | exact ⟨rfl, rfl⟩
  have h1' : ((20000 : Int) < (t.length : Int)) = False := eq_false (by omega)
  simp only [go_sem, h1']
  refine callV (f31 t (by omega)) ?_
  intro nx lv
  cases hB : linesB t with
  | false =>
    have hr : readN t = (zeroN, 10) := by unfold readN; rw [if_neg h1, hB]; rfl
    rw [readNV, hr]
    have hle : rlines t = [] := by
      unfold rlines
      split
      · rfl
      · rename_i h0
        rw [if_neg]
        intro h2
        simp [linesB, h0, h2] at hB
    simp only [go_sem, rlinesV, hB, hle, List.map_nil, List.length_nil]
    refine AW_loopH [] (fun (x : Nat) ρ m => m.o = [] ∧ AB.hget m.h 2 = some (0, nC zeroN .nil .nil .nil .nil .nil)) (fun x => 0) 0 ?_ ?_
    · simp only [go_sem]
      simp [go_sem, nC, zeroN]
    · rintro x ρ ⟨h, o, nx, lv⟩ ⟨rfl, c2⟩ Q' hN hR hX
      have hlt' : ((0 : Int) < 0) = False := eq_false (by decide)
      have c2s : ∀ (h : List (Nat × Nat × List AV)) cs, AB.hget (AB.hset h 2 0 cs) 2 = some (0, cs) := fun h cs => hget_set_self h 2 0 cs
      simp only at c2
      simp only [go_sem, hlt', hN, hR, hX, c2, c2s, nC, zeroN, List.map_nil]
      rfl
  | true =>
    obtain ⟨b1, b2⟩ := linesF_sm (t := t) (by omega)
    have b3 : ∀ ws ∈ linesF t, ws ≠ [] := fun ws h => linesF_ne h
    have hr : readN t = match foldP zeroN 0 (linesF t) with
        | none => (zeroN, 10)
        | some (n, _) => if netE n = 0 then (n, 0) else (zeroN, netE n) := by unfold readN; rw [if_neg h1, hB]; rfl
    rw [readNV]
    simp only [go_sem, rlinesV, hB]
    have hle := lines_eq hB
    rw [hle] at b1 b2 b3 hr
    rw [List.length_map] at b1
    have bl : ∀ w ∈ rlines t, w.length ≤ 20000 := by
      intro w hw
      unfold rlines at hw
      split at hw
      · cases hw
      · split at hw
        · have := (splitC_mem hw).1
          rw [List.length_take] at this
          omega
        · cases hw
    generalize rlines t = ls at *
    refine AW_loopH [3, 5, 7, 9, 10, 23, 24, 25, 26, 27, 28, 29, 30, 31, 32, 33, 34, 35, 36, 37, 38, 39, 40, 41, 42, 43, 44, 45] (fun (x : Nat) ρ m => ρ 23 = .int .i64 (x : Int) ∧ x ≤ ls.length ∧ ρ 5 = .bool true ∧ ∃ n k a b c d e h nx lv, ρ 7 = .int .i64 k ∧ 0 ≤ k ∧ m = ⟨h, [], nx, lv⟩ ∧ AB.hget h 2 = some (0, nC zeroN .nil .nil .nil .nil .nil) ∧ AB.hget h 6 = some (0, nC n a b c d e) ∧ TOk nx lv [a, b, c, d, e] ∧ foldP zeroN 0 ((ls.map (splitC 32)).take x) = some (n, k)) (fun x => ls.length - x) 0 ?_ ?_
    · simp only [go_sem]
      refine ⟨Nat.zero_le _, zeroN, 0, .nil, .nil, .nil, .nil, .nil, _, _, _, rfl, Int.le_refl _, rfl, ?_, ?_, ⟨by simp, ?_⟩, rfl⟩
      · simp [go_sem, nC, zeroN]
      · simp [go_sem, nC, zeroN]
      · simp
    rintro x ρ m ⟨e26, hx, e5, n, k, a, b, c, d, e, h, nx, lv, e7, hk0, rfl, c2, c6, ht5, hf⟩ Q' hN hR hX
    obtain ⟨s1, s2, s3, s4, s5⟩ := foldP_small _ _ _ _ _ hf
    rw [List.length_take, List.length_map, Nat.min_eq_left hx] at s1 s2 s3 s4 s5
    simp only [zeroN, List.length_nil, Nat.zero_add] at s1 s2 s3 s4 s5
    have c2' : ∀ cs, AB.hget (AB.hset h 6 0 cs) 2 = some (0, nC zeroN .nil .nil .nil .nil .nil) := fun cs => by rw [hget_set_ne h 0 cs (by decide)]; exact c2
    have c6' : ∀ cs, AB.hget (AB.hset h 6 0 cs) 6 = some (0, cs) := fun cs => hget_set_self h 6 0 cs
    have c2s : ∀ (h : List (Nat × Nat × List AV)) cs, AB.hget (AB.hset h 2 0 cs) 2 = some (0, cs) := fun h cs => hget_set_self h 2 0 cs
    by_cases hlt : x < ls.length
    · have hlt' : ((x : Int) < (ls.length : Int)) = True := eq_true (by omega)
      have h00 : ((0 : Int) ≤ (x : Int)) = True := by simp
      have w1 : IntKind.i64.wrap ((x : Int) + 1) = (x : Int) + 1 := i64_in (by omega) (by omega)
      obtain ⟨ln, hw⟩ : ∃ ln, ls[x]? = some ln := ⟨_, List.getElem?_eq_getElem hlt⟩
      have hw2 : (ls.map (splitC 32))[x]? = some (splitC 32 ln) := by rw [List.getElem?_map, hw]; rfl
      have hll := bl ln (List.mem_of_getElem? hw)
      have hwm := List.mem_of_getElem? hw2
      obtain ⟨d1, d2⟩ := b2 _ hwm
      obtain ⟨t1, t2⟩ := foldP_take (ls.map (splitC 32)) x _ zeroN n 0 k hw2 hf
      simp only [go_sem, e26, e5, hlt', h00, hw, hN, hR, hX]
      refine drawnT [2, 2, 3, 1, 1, 1, 1, 1, 1, 1, 1] (.alt 2 [2, 0, 0, 3, 1, 1, 1, 1, 1, 1, 1] (.alt 3 [0, 0, 0, 0, 2, 2, 2, 2, 3, 1, 1] (.alt 8 [0, 0, 0, 0, 0, 0, 2, 2, 0, 2, 2] .fin .nil) .nil) .nil) 56 (by kernel_rfl) (by kernel_rfl) (by kernel_rfl) (by kernel_rfl) rfl ?_
      simp only [go_sem, c6, nC]
      intro nx1 lv1 g1 g2
      refine callVt (f25 ln 32 (by omega)) ?_
      intro nx2 lv2 g3 g4
      simp only [go_sem, c6, nC]
      intro nx3 lv3 g5 g6
      refine callRef (f44 n (splitC 32 ln) a b c d e nx3 lv3 ⟨by omega, by omega, by omega, by omega, by omega⟩ (b3 _ hwm) d1 d2 (ht5.mono (by simp only at g3; omega) (fun j x => g6 _ (g4 _ (g2 _ x))))) (by simp only [rnAL, rnA, rnCL, rnC, port1]) ?_ ?_
      · intro hi a b c d e kk nx4 lv4
        have r1 : readN t = (zeroN, 10) := by rw [hr, t1 hi]
        simp only [go_sem, nC, c6, c6']
        intro nx5 lv5 _ _
        simp only [go_sem, e7, hN, hR, hX, c2, c2', c2s, c6', r1, nC, zeroN, List.map_nil]
        intro nx6 lv6 _ _
        first | done | rfl | exact ⟨rfl, rfl⟩
      · intro it hi a b c d e nx4 lv4 ht2
        obtain ⟨t3, t4⟩ := t2 it hi
        simp only [go_sem, nC, c6, c6']
        intro nx5 lv5 q1 q2
        by_cases hk : kindI it < k
        · have r1 : readN t = (zeroN, 10) := by rw [hr, t3 hk]
          have hl : (kindI it < k) = True := eq_true hk
          simp only [go_sem, e7, hl, hN, hR, hX, c2, c2', c2s, r1, nC, zeroN, List.map_nil]
          intro nx6 lv6 _ _
          first | done | rfl | exact ⟨rfl, rfl⟩
        · have hl : (kindI it < k) = False := eq_false hk
          simp only [go_sem, e7, hl, hN, hR, hX, w1]
          intro nx6 lv6 q3 q4
          refine ⟨by kernel_rfl, x + 1, ?_, by simp only; omega⟩
          simp only [go_sem]
          refine ⟨by simp, by omega, addI n it, kindI it, a, b, c, d, e, _, _, _, rfl, by cases it <;> simp [kindI], rfl, c2' _, ?_, ht2.mono (by omega) (fun j x => q4 _ (q2 _ x)), t4 hk⟩
          simp [c6', nC]
    · have hlt' : ((x : Int) < (ls.length : Int)) = False := eq_false (by omega)
      have hte : (ls.map (splitC 32)).take x = ls.map (splitC 32) := List.take_of_length_le (by rw [List.length_map]; omega)
      have hnames := foldP_names _ _ _ _ _ hf
      rw [hte] at hf hnames
      rw [hf] at hr
      simp only at hr
      have hb : NetB n := by
        refine ⟨by omega, by omega, by omega, by omega, by omega, fun s hs => ?_⟩
        rcases hnames s hs with h | ⟨ws, h1, h2⟩
        · simp [zeroN] at h
        · have := (b2 ws h1).2 s h2
          omega
      simp only [go_sem, e26, e5, hlt', hN, hR, hX, c6, nC]
      refine callV (f22 n hb) ?_
      intro nx2 lv2
      by_cases h0 : netE n = 0
      · rw [if_pos h0] at hr
        simp only [go_sem, h0, hr, c2, c2s, c6, nC]
        rfl
      · rw [if_neg h0] at hr
        have h0' : (netE n = 0) = False := eq_false h0
        simp only [go_sem, h0', hr, c2, c2s, c6, nC, zeroN, List.map_nil]
        rfl
end Go.Proofs.YtkfhieigdlfbeaaDoor
