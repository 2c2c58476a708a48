/- Paths: lengths and pieces; the reference's check. -/
import Derived.Test.YteadhjclchjfjaaL5
namespace Go.Proofs.Yteadhjclchjfjaa
set_option linter.unusedSimpArgs false
set_option linter.unusedVariables false
open Go.AB

theorem netE_lens {n : Net} (h : netE n = 0) : ∀ s ∈ n.sects, 10 ≤ s.len ∧ s.len ≤ 3000 := by
  have hs : secsE n = 0 := by
    unfold netE at h
    split at h
    · cases h
    · split at h
      · cases h
      · split at h
        · rename_i h1; exact absurd h h1
        · split at h
          · rename_i h1; exact absurd h h1
          · rename_i h1
            simpa using h1
  intro s hm
  obtain ⟨i, hi, rfl⟩ := List.getElem_of_mem hm
  have := firstE_zero (j := i) hs (Nat.zero_le _) (by omega)
  simp only [secAt, List.getElem?_eq_getElem hi] at this
  unfold secE at this
  split at this
  · cases this
  · split at this
    · cases this
    · rename_i h2
      simp [within] at h2
      omega
theorem pathE_step {n : Net} {p : List Stp} (h : pathE n p = 0) : p.length ≤ 60 ∧ ∀ (i : Nat) (x : Stp), p[i]? = some x → ∃ c, n.sects[x.s.toNat]? = some c ∧ 0 ≤ x.s := by
  unfold pathE at h
  split at h
  · cases h
  · refine ⟨by omega, fun i x hx => ?_⟩
    have hi := (List.getElem?_eq_some_iff.1 hx).1
    have := firstE_zero (j := i) h (Nat.zero_le _) (by omega)
    unfold stepE at this
    rw [hx] at this
    simp only at this
    split at this
    · cases this
    · rename_i hh
      have h1 : hasF n x.s x.i = true := by
        cases hc : hasF n x.s x.i with
        | true => rfl
        | false => exact absurd (.inl hc) hh
      obtain ⟨b1, _⟩ := hasF_iff.1 h1
      exact ⟨_, List.getElem?_eq_getElem (by omega), by omega⟩

def lenAt (n : Net) (x : Stp) : Int := ((n.sects[x.s.toNat]?).map Sect.len).getD 0
def sumLen (n : Net) (l : List Stp) : Int := (l.map (lenAt n)).sum
def lengthV (n : Net) (p : List Stp) : Int := if checkP n p ≠ 0 then 0 else sumLen n p
theorem sumLen_snoc (n : Net) (l : List Stp) (x : Stp) : sumLen n (l ++ [x]) = sumLen n l + lenAt n x := by simp [sumLen]
theorem sumLen_bd {n : Net} (hl : ∀ s ∈ n.sects, 10 ≤ s.len ∧ s.len ≤ 3000) : ∀ l : List Stp, 0 ≤ sumLen n l ∧ sumLen n l ≤ 3000 * l.length
  | [] => by simp [sumLen]
  | x :: l => by
    have ih := sumLen_bd hl l
    have hx : 0 ≤ lenAt n x ∧ lenAt n x ≤ 3000 := by
      unfold lenAt
      cases hc : n.sects[x.s.toNat]? with
      | none => simp
      | some c => have := hl c (List.mem_of_getElem? hc); simp; omega
    simp only [sumLen, List.map_cons, List.sum_cons, List.length_cons] at ih ⊢
    omega

set_option maxHeartbeats 4000000 in
set_option maxRecDepth 20000 in
theorem f25 (n : Net) (p : List Stp) (hb : NetB n) (hp : p.length ≤ 5864062014634) : PCall Try.prog 25 [eNet n, .sl 3 (p.map dStp) .no] (RV (.tup [.int .i64 (lengthV n p), .int .i64 (checkP n p)])) := by
  refine PCall.of_body Try.func25 rfl Try.ntmps25 (congrArg Array.toList Try.results25) ?_
  intro E
  have hsc := hb.sc
  simp only [go_sem, eNet, nCells]
  refine callV (f24 n p hb hp) ?_
  intro nx lv
  by_cases q0 : checkP n p = 0
  rotate_left
  · simp only [go_sem, q0, lengthV]
  have q1 : netE n = 0 := by unfold checkP at q0; split at q0 <;> omega
  have q2 : pathE n p = 0 := by unfold checkP at q0; split at q0 <;> omega
  have e1 : lengthV n p = sumLen n p := by simp [lengthV, q0]
  have hl := netE_lens q1
  obtain ⟨p60, hst⟩ := pathE_step q2
  simp only [go_sem, q0, e1]
  refine AW_loopH [7, 9, 18, 19, 20, 21, 22, 23, 24, 25, 26, 27, 28, 29, 30, 31]
    (fun (i : Nat) ρ m => ρ 18 = .int .i64 (i : Int) ∧ i ≤ p.length ∧ ρ 7 = .int .i64 (sumLen n (p.take i)) ∧ ∃ h nx lv, m = ⟨h, [], nx, lv⟩ ∧ AB.hget h 2 = some (0, nCells n)) (fun i => p.length - i) 0 ?_ ?_
  · simp only [go_sem]
    exact ⟨Nat.zero_le _, by simp [sumLen], _, _, _, rfl, by simp [go_sem, nCells]⟩
  rintro i ρ m ⟨e18, g1, e7, h, nx, lv, rfl, hb2⟩ Q hN hR hX
  simp only [nCells] at hb2
  by_cases hlt : i < p.length
  · obtain ⟨x, hx⟩ : ∃ x, p[i]? = some x := ⟨_, List.getElem?_eq_getElem hlt⟩
    have hxp : (p.map dStp)[i]? = some (dStp x) := by rw [List.getElem?_map, hx]; rfl
    have hlt' : ((i : Int) < (p.length : Int)) = True := by simp; omega
    have h0 : ((0 : Int) ≤ (i : Int)) = True := by simp
    have ew : IntKind.i64.wrap ((i : Int) + 1) = (i : Int) + 1 := i64_in (by omega) (by omega)
    have htk : p.take (i + 1) = p.take i ++ [x] := by rw [List.take_add_one, hx]; rfl
    obtain ⟨c, hc, hs0⟩ := hst i x hx
    have hcp : (n.sects.map dSect)[x.s.toNat]? = some (dSect c) := by rw [List.getElem?_map, hc]; rfl
    have hcp2 : Option.map dSect n.sects[x.s.toNat]? = some (dSect c) := by rw [hc]; rfl
    have h0s : (0 ≤ x.s) = True := by simp; omega
    have hcl := hl c (List.mem_of_getElem? hc)
    have hbd := sumLen_bd hl (p.take i)
    have hle : (p.take i).length ≤ 60 := by rw [List.length_take]; omega
    have ew2 : IntKind.i64.wrap (sumLen n (p.take i) + c.len) = sumLen n (p.take i) + c.len := i64_in (by omega) (by omega)
    have hla : lenAt n x = c.len := by simp [lenAt, hc]
    simp only [go_sem, e18, e7, hlt', h0, hxp, dStp, hb2, hcp, hcp2, h0s, dSect, ew2, ew, hN]
    refine ⟨by kernel_rfl, i + 1, ?_, by simp only; omega⟩
    simp only [go_sem]
    exact ⟨by simp, by omega, by rw [htk, sumLen_snoc, hla], _, _, _, rfl, by simp [go_sem, hb2, nCells]⟩
  · have hlt' : ((i : Int) < (p.length : Int)) = False := by simp; omega
    rw [List.take_of_length_le (by omega)] at e7
    simp only [go_sem, e18, e7, hlt', hX]

/-- A piece. -/
structure Pc where
  (l g v : Int)
def dPc (x : Pc) : DV := .agg [.int .i64 x.l, .int .i64 x.g, .int .i64 x.v]
def pcF (n : Net) (x : Stp) : Pc := match n.sects[x.s.toNat]? with
  | none => ⟨0, 0, 0⟩
  | some c => ⟨IntKind.i64.wrap (100 * c.len), if x.i = 0 then c.grade else IntKind.i64.wrap (0 - c.grade), if c.kind = 2 ∧ (x.i = 2 ∨ x.o = 2) then c.slow else c.speed⟩
def pcsV (n : Net) (p : List Stp) : List Pc := if checkP n p ≠ 0 then [] else p.map (pcF n)

set_option maxHeartbeats 8000000 in
set_option maxRecDepth 20000 in
theorem f26 (n : Net) (p : List Stp) (hb : NetB n) (hp : p.length ≤ 5864062014634) : PCall Try.prog 26 [eNet n, .sl 3 (p.map dStp) .no] (RV (.tup [.sl 3 ((pcsV n p).map dPc) .no, .int .i64 (checkP n p)])) := by
  refine PCall.of_bodyE Try.func26 rfl Try.ntmps26 (congrArg Array.toList Try.results26) ?_
  intro E
  have hsc := hb.sc
  simp only [go_sem, eNet, nCells]
  refine callV (f24 n p hb hp) ?_
  intro nx lv
  by_cases q0 : checkP n p = 0
  rotate_left
  · simp only [go_sem, q0, pcsV]
  have q1 : netE n = 0 := by unfold checkP at q0; split at q0 <;> omega
  have q2 : pathE n p = 0 := by unfold checkP at q0; split at q0 <;> omega
  have e1 : pcsV n p = p.map (pcF n) := by simp [pcsV, q0]
  obtain ⟨p60, hst⟩ := pathE_step q2
  simp only [go_sem, q0, e1]
  refine AW_loopH [7, 9, 10, 11, 20, 21, 22, 23, 24, 25, 26, 27, 28, 29, 30, 31, 32, 33, 34, 35, 36, 37, 38, 39, 40, 41, 42, 43, 44, 45, 46, 47, 48, 49, 50, 51, 52, 53, 54, 55, 56, 57, 58, 59, 60, 61, 62, 63, 64, 65]
    (fun (i : Nat) ρ m => ρ 20 = .int .i64 (i : Int) ∧ i ≤ p.length ∧ (∃ tok, ρ 7 = .sl 3 (((p.take i).map (pcF n)).map dPc) tok ∧ okT m tok) ∧ ∃ h nx lv, m = ⟨h, [], nx, lv⟩ ∧ AB.hget h 2 = some (0, nCells n)) (fun i => p.length - i) 0 ?_ ?_
  · simp [go_sem, nCells]
  rintro i ρ m ⟨e20, g1, ⟨tok, e7, hok⟩, h, nx, lv, rfl, hb2⟩ Q hN hR hX
  simp only [nCells] at hb2
  by_cases hlt : i < p.length
  rotate_left
  · have hlt' : ((i : Int) < (p.length : Int)) = False := by simp; omega
    rw [List.take_of_length_le (by omega)] at e7
    simp only [go_sem, e20, e7, hlt', hX]
  obtain ⟨x, hx⟩ : ∃ x, p[i]? = some x := ⟨_, List.getElem?_eq_getElem hlt⟩
  have hxp : (p.map dStp)[i]? = some (dStp x) := by rw [List.getElem?_map, hx]; rfl
  have hlt' : ((i : Int) < (p.length : Int)) = True := by simp; omega
  have h0 : ((0 : Int) ≤ (i : Int)) = True := by simp
  have ew : IntKind.i64.wrap ((i : Int) + 1) = (i : Int) + 1 := i64_in (by omega) (by omega)
  obtain ⟨c, hc, hs0⟩ := hst i x hx
  have htk : (p.take (i + 1)).map (pcF n) = (p.take i).map (pcF n) ++ [⟨IntKind.i64.wrap (100 * c.len), if x.i = 0 then c.grade else IntKind.i64.wrap (0 - c.grade), if c.kind = 2 ∧ (x.i = 2 ∨ x.o = 2) then c.slow else c.speed⟩] := by
    rw [List.take_add_one, hx]
    simp [pcF, hc]
  have hcp : (n.sects.map dSect)[x.s.toNat]? = some (dSect c) := by rw [List.getElem?_map, hc]; rfl
  have hcp2 : Option.map dSect n.sects[x.s.toNat]? = some (dSect c) := by rw [hc]; rfl
  have h0s : (0 ≤ x.s) = True := by simp; omega
  have hle : (p.take i).length ≤ i := by rw [List.length_take]; omega
  generalize hL : (p.take i).map (pcF n) = L at *
  have hLl : L.length ≤ 60 := by rw [← hL]; simp; omega
  by_cases a1 : x.i = 0
  · have a1' : (x.i = 0) = True := by simp [a1]
    by_cases a2 : c.kind = 2
    rotate_left
    · have a2' : (c.kind = 2) = False := by simp [a2]
      have htk' : (p.take (i + 1)).map (pcF n) = L ++ [⟨IntKind.i64.wrap (100 * c.len), c.grade, c.speed⟩] := by rw [htk]; simp [a1, a2]
      simp only [go_sem, e20, e7, hlt', h0, hxp, dStp, hb2, hcp, hcp2, h0s, dSect, ew, hN, a1', a2']
      refine ⟨okT_mono hok (fun j x => .inr x), by omega, by kernel_rfl, i + 1, ?_, by simp only; omega⟩
      simp only [go_sem, htk', List.map_append, List.map_cons, List.map_nil, dPc]
      exact ⟨by simp, by omega, .inl trivial, _, _, _, rfl, by simp [go_sem, hb2, nCells]⟩
    have a2' : (c.kind = 2) = True := by simp [a2]
    have a3 : ¬ x.i = 2 := by omega
    have a3' : (x.i = 2) = False := by simp [a3]
    by_cases a4 : x.o = 2
    · have a4' : (x.o = 2) = True := by simp [a4]
      have htk' : (p.take (i + 1)).map (pcF n) = L ++ [⟨IntKind.i64.wrap (100 * c.len), c.grade, c.slow⟩] := by rw [htk]; simp [a1, a2, a3, a4]
      simp only [go_sem, e20, e7, hlt', h0, hxp, dStp, hb2, hcp, hcp2, h0s, dSect, ew, hN, a1', a2', a3', a4']
      refine ⟨okT_mono hok (fun j x => .inr x), by omega, by kernel_rfl, i + 1, ?_, by simp only; omega⟩
      simp only [go_sem, htk', List.map_append, List.map_cons, List.map_nil, dPc]
      exact ⟨by simp, by omega, .inl trivial, _, _, _, rfl, by simp [go_sem, hb2, nCells]⟩
    · have a4' : (x.o = 2) = False := by simp [a4]
      have htk' : (p.take (i + 1)).map (pcF n) = L ++ [⟨IntKind.i64.wrap (100 * c.len), c.grade, c.speed⟩] := by rw [htk]; simp [a1, a2, a3, a4]
      simp only [go_sem, e20, e7, hlt', h0, hxp, dStp, hb2, hcp, hcp2, h0s, dSect, ew, hN, a1', a2', a3', a4']
      refine ⟨okT_mono hok (fun j x => .inr x), by omega, by kernel_rfl, i + 1, ?_, by simp only; omega⟩
      simp only [go_sem, htk', List.map_append, List.map_cons, List.map_nil, dPc]
      exact ⟨by simp, by omega, .inl trivial, _, _, _, rfl, by simp [go_sem, hb2, nCells]⟩
  · have a1' : (x.i = 0) = False := by simp [a1]
    by_cases a2 : c.kind = 2
    rotate_left
    · have a2' : (c.kind = 2) = False := by simp [a2]
      have htk' : (p.take (i + 1)).map (pcF n) = L ++ [⟨IntKind.i64.wrap (100 * c.len), IntKind.i64.wrap (0 - c.grade), c.speed⟩] := by rw [htk]; simp [a1, a2]
      simp only [go_sem, e20, e7, hlt', h0, hxp, dStp, hb2, hcp, hcp2, h0s, dSect, ew, hN, a1', a2']
      refine ⟨okT_mono hok (fun j x => .inr x), by omega, by kernel_rfl, i + 1, ?_, by simp only; omega⟩
      simp only [go_sem, htk', List.map_append, List.map_cons, List.map_nil, dPc]
      exact ⟨by simp, by omega, .inl trivial, _, _, _, rfl, by simp [go_sem, hb2, nCells]⟩
    have a2' : (c.kind = 2) = True := by simp [a2]
    by_cases a3 : x.i = 2
    · have a3' : (x.i = 2) = True := by simp [a3]
      have htk' : (p.take (i + 1)).map (pcF n) = L ++ [⟨IntKind.i64.wrap (100 * c.len), IntKind.i64.wrap (0 - c.grade), c.slow⟩] := by rw [htk]; simp [a1, a2, a3]
      simp only [go_sem, e20, e7, hlt', h0, hxp, dStp, hb2, hcp, hcp2, h0s, dSect, ew, hN, a1', a2', a3']
      refine ⟨okT_mono hok (fun j x => .inr x), by omega, by kernel_rfl, i + 1, ?_, by simp only; omega⟩
      simp only [go_sem, htk', List.map_append, List.map_cons, List.map_nil, dPc]
      exact ⟨by simp, by omega, .inl trivial, _, _, _, rfl, by simp [go_sem, hb2, nCells]⟩
    have a3' : (x.i = 2) = False := by simp [a3]
    by_cases a4 : x.o = 2
    · have a4' : (x.o = 2) = True := by simp [a4]
      have htk' : (p.take (i + 1)).map (pcF n) = L ++ [⟨IntKind.i64.wrap (100 * c.len), IntKind.i64.wrap (0 - c.grade), c.slow⟩] := by rw [htk]; simp [a1, a2, a3, a4]
      simp only [go_sem, e20, e7, hlt', h0, hxp, dStp, hb2, hcp, hcp2, h0s, dSect, ew, hN, a1', a2', a3', a4']
      refine ⟨okT_mono hok (fun j x => .inr x), by omega, by kernel_rfl, i + 1, ?_, by simp only; omega⟩
      simp only [go_sem, htk', List.map_append, List.map_cons, List.map_nil, dPc]
      exact ⟨by simp, by omega, .inl trivial, _, _, _, rfl, by simp [go_sem, hb2, nCells]⟩
    · have a4' : (x.o = 2) = False := by simp [a4]
      have htk' : (p.take (i + 1)).map (pcF n) = L ++ [⟨IntKind.i64.wrap (100 * c.len), IntKind.i64.wrap (0 - c.grade), c.speed⟩] := by rw [htk]; simp [a1, a2, a3, a4]
      simp only [go_sem, e20, e7, hlt', h0, hxp, dStp, hb2, hcp, hcp2, h0s, dSect, ew, hN, a1', a2', a3', a4']
      refine ⟨okT_mono hok (fun j x => .inr x), by omega, by kernel_rfl, i + 1, ?_, by simp only; omega⟩
      simp only [go_sem, htk', List.map_append, List.map_cons, List.map_nil, dPc]
      exact ⟨by simp, by omega, .inl trivial, _, _, _, rfl, by simp [go_sem, hb2, nCells]⟩

set_option maxHeartbeats 8000000 in
set_option maxRecDepth 20000 in
theorem f28 (n : Net) (p : List Stp) (hb : NetB n) (q2 : pathE n p = 0) : PCall Try.prog 28 [eNet n, .sl 3 (p.map dStp) .no] (RV (.sl 3 ((p.map (pcF n)).map dPc) .no)) := by
  refine PCall.of_bodyE Try.func28 rfl Try.ntmps28 (congrArg Array.toList Try.results28) ?_
  intro E
  have hsc := hb.sc
  obtain ⟨p60, hst⟩ := pathE_step q2
  simp only [go_sem, eNet, nCells]
  refine AW_loopH [5, 7, 8, 9, 12, 13, 14, 15, 16, 17, 18, 19, 20, 21, 22, 23, 24, 25, 26, 27, 28, 29, 30, 31, 32, 33, 34, 35, 36, 37, 38, 39, 40, 41, 42, 43, 44, 45, 46, 47, 48, 49, 50, 51, 52, 53, 54, 55, 56, 57]
    (fun (i : Nat) ρ m => ρ 12 = .int .i64 (i : Int) ∧ i ≤ p.length ∧ (∃ tok, ρ 5 = .sl 3 (((p.take i).map (pcF n)).map dPc) tok ∧ okT m tok) ∧ ∃ h nx lv, m = ⟨h, [], nx, lv⟩ ∧ AB.hget h 2 = some (0, nCells n)) (fun i => p.length - i) 0 ?_ ?_
  · simp [go_sem, nCells]
  rintro i ρ m ⟨e20, g1, ⟨tok, e7, hok⟩, h, nx, lv, rfl, hb2⟩ Q hN hR hX
  simp only [nCells] at hb2
  by_cases hlt : i < p.length
  rotate_left
  · have hlt' : ((i : Int) < (p.length : Int)) = False := by simp; omega
    rw [List.take_of_length_le (by omega)] at e7
    simp only [go_sem, e20, e7, hlt', hX]
  obtain ⟨x, hx⟩ : ∃ x, p[i]? = some x := ⟨_, List.getElem?_eq_getElem hlt⟩
  have hxp : (p.map dStp)[i]? = some (dStp x) := by rw [List.getElem?_map, hx]; rfl
  have hlt' : ((i : Int) < (p.length : Int)) = True := by simp; omega
  have h0 : ((0 : Int) ≤ (i : Int)) = True := by simp
  have ew : IntKind.i64.wrap ((i : Int) + 1) = (i : Int) + 1 := i64_in (by omega) (by omega)
  obtain ⟨c, hc, hs0⟩ := hst i x hx
  have htk : (p.take (i + 1)).map (pcF n) = (p.take i).map (pcF n) ++ [⟨IntKind.i64.wrap (100 * c.len), if x.i = 0 then c.grade else IntKind.i64.wrap (0 - c.grade), if c.kind = 2 ∧ (x.i = 2 ∨ x.o = 2) then c.slow else c.speed⟩] := by
    rw [List.take_add_one, hx]
    simp [pcF, hc]
  have hcp : (n.sects.map dSect)[x.s.toNat]? = some (dSect c) := by rw [List.getElem?_map, hc]; rfl
  have hcp2 : Option.map dSect n.sects[x.s.toNat]? = some (dSect c) := by rw [hc]; rfl
  have h0s : (0 ≤ x.s) = True := by simp; omega
  have hle : (p.take i).length ≤ i := by rw [List.length_take]; omega
  generalize hL : (p.take i).map (pcF n) = L at *
  have hLl : L.length ≤ 60 := by rw [← hL]; simp; omega
  by_cases a1 : x.i = 0
  · have a1' : (x.i = 0) = True := by simp [a1]
    by_cases a2 : c.kind = 2
    rotate_left
    · have a2' : (c.kind = 2) = False := by simp [a2]
      have htk' : (p.take (i + 1)).map (pcF n) = L ++ [⟨IntKind.i64.wrap (100 * c.len), c.grade, c.speed⟩] := by rw [htk]; simp [a1, a2]
      simp only [go_sem, e20, e7, hlt', h0, hxp, dStp, hb2, hcp, hcp2, h0s, dSect, ew, hN, a1', a2']
      refine ⟨okT_mono hok (fun j x => .inr x), by omega, by kernel_rfl, i + 1, ?_, by simp only; omega⟩
      simp only [go_sem, htk', List.map_append, List.map_cons, List.map_nil, dPc]
      exact ⟨by simp, by omega, .inl trivial, _, _, _, rfl, by simp [go_sem, hb2, nCells]⟩
    have a2' : (c.kind = 2) = True := by simp [a2]
    have a3 : ¬ x.i = 2 := by omega
    have a3' : (x.i = 2) = False := by simp [a3]
    by_cases a4 : x.o = 2
    · have a4' : (x.o = 2) = True := by simp [a4]
      have htk' : (p.take (i + 1)).map (pcF n) = L ++ [⟨IntKind.i64.wrap (100 * c.len), c.grade, c.slow⟩] := by rw [htk]; simp [a1, a2, a3, a4]
      simp only [go_sem, e20, e7, hlt', h0, hxp, dStp, hb2, hcp, hcp2, h0s, dSect, ew, hN, a1', a2', a3', a4']
      refine ⟨okT_mono hok (fun j x => .inr x), by omega, by kernel_rfl, i + 1, ?_, by simp only; omega⟩
      simp only [go_sem, htk', List.map_append, List.map_cons, List.map_nil, dPc]
      exact ⟨by simp, by omega, .inl trivial, _, _, _, rfl, by simp [go_sem, hb2, nCells]⟩
    · have a4' : (x.o = 2) = False := by simp [a4]
      have htk' : (p.take (i + 1)).map (pcF n) = L ++ [⟨IntKind.i64.wrap (100 * c.len), c.grade, c.speed⟩] := by rw [htk]; simp [a1, a2, a3, a4]
      simp only [go_sem, e20, e7, hlt', h0, hxp, dStp, hb2, hcp, hcp2, h0s, dSect, ew, hN, a1', a2', a3', a4']
      refine ⟨okT_mono hok (fun j x => .inr x), by omega, by kernel_rfl, i + 1, ?_, by simp only; omega⟩
      simp only [go_sem, htk', List.map_append, List.map_cons, List.map_nil, dPc]
      exact ⟨by simp, by omega, .inl trivial, _, _, _, rfl, by simp [go_sem, hb2, nCells]⟩
  · have a1' : (x.i = 0) = False := by simp [a1]
    by_cases a2 : c.kind = 2
    rotate_left
    · have a2' : (c.kind = 2) = False := by simp [a2]
      have htk' : (p.take (i + 1)).map (pcF n) = L ++ [⟨IntKind.i64.wrap (100 * c.len), IntKind.i64.wrap (0 - c.grade), c.speed⟩] := by rw [htk]; simp [a1, a2]
      simp only [go_sem, e20, e7, hlt', h0, hxp, dStp, hb2, hcp, hcp2, h0s, dSect, ew, hN, a1', a2']
      refine ⟨okT_mono hok (fun j x => .inr x), by omega, by kernel_rfl, i + 1, ?_, by simp only; omega⟩
      simp only [go_sem, htk', List.map_append, List.map_cons, List.map_nil, dPc]
      exact ⟨by simp, by omega, .inl trivial, _, _, _, rfl, by simp [go_sem, hb2, nCells]⟩
    have a2' : (c.kind = 2) = True := by simp [a2]
    by_cases a3 : x.i = 2
    · have a3' : (x.i = 2) = True := by simp [a3]
      have htk' : (p.take (i + 1)).map (pcF n) = L ++ [⟨IntKind.i64.wrap (100 * c.len), IntKind.i64.wrap (0 - c.grade), c.slow⟩] := by rw [htk]; simp [a1, a2, a3]
      simp only [go_sem, e20, e7, hlt', h0, hxp, dStp, hb2, hcp, hcp2, h0s, dSect, ew, hN, a1', a2', a3']
      refine ⟨okT_mono hok (fun j x => .inr x), by omega, by kernel_rfl, i + 1, ?_, by simp only; omega⟩
      simp only [go_sem, htk', List.map_append, List.map_cons, List.map_nil, dPc]
      exact ⟨by simp, by omega, .inl trivial, _, _, _, rfl, by simp [go_sem, hb2, nCells]⟩
    have a3' : (x.i = 2) = False := by simp [a3]
    by_cases a4 : x.o = 2
    · have a4' : (x.o = 2) = True := by simp [a4]
      have htk' : (p.take (i + 1)).map (pcF n) = L ++ [⟨IntKind.i64.wrap (100 * c.len), IntKind.i64.wrap (0 - c.grade), c.slow⟩] := by rw [htk]; simp [a1, a2, a3, a4]
      simp only [go_sem, e20, e7, hlt', h0, hxp, dStp, hb2, hcp, hcp2, h0s, dSect, ew, hN, a1', a2', a3', a4']
      refine ⟨okT_mono hok (fun j x => .inr x), by omega, by kernel_rfl, i + 1, ?_, by simp only; omega⟩
      simp only [go_sem, htk', List.map_append, List.map_cons, List.map_nil, dPc]
      exact ⟨by simp, by omega, .inl trivial, _, _, _, rfl, by simp [go_sem, hb2, nCells]⟩
    · have a4' : (x.o = 2) = False := by simp [a4]
      have htk' : (p.take (i + 1)).map (pcF n) = L ++ [⟨IntKind.i64.wrap (100 * c.len), IntKind.i64.wrap (0 - c.grade), c.speed⟩] := by rw [htk]; simp [a1, a2, a3, a4]
      simp only [go_sem, e20, e7, hlt', h0, hxp, dStp, hb2, hcp, hcp2, h0s, dSect, ew, hN, a1', a2', a3', a4']
      refine ⟨okT_mono hok (fun j x => .inr x), by omega, by kernel_rfl, i + 1, ?_, by simp only; omega⟩
      simp only [go_sem, htk', List.map_append, List.map_cons, List.map_nil, dPc]
      exact ⟨by simp, by omega, .inl trivial, _, _, _, rfl, by simp [go_sem, hb2, nCells]⟩
end Go.Proofs.Yteadhjclchjfjaa
