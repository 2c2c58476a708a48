/- Needs: Overlap and Needs; the law. -/
import Derived.Test.YteadhjclchjfjaaL27
namespace Go.Proofs.Yteadhjclchjfjaa
set_option linter.unusedSimpArgs false
set_option linter.unusedVariables false
open Go.AB

set_option maxHeartbeats 4000000 in
set_option maxRecDepth 20000 in
theorem f44 (p : List Nd) (hl : p.length ≤ 100000) : PCall Try.prog 44 [.sl 4 (p.map dNd) .no, .sl 4 (p.map dNd) .no] (RV (.bool true)) := by
  refine PCall.of_body Try.func44 rfl Try.ntmps44 (congrArg Array.toList Try.results44) ?_
  intro E
  simp only [go_sem]
  refine AW_loopH [5, 13, 14, 15, 16, 17, 18, 19, 20, 21, 22, 23, 24, 25]
    (fun (i : Nat) ρ m => ρ 13 = .int .i64 (i : Int) ∧ i ≤ p.length ∧ ∃ h nx lv, m = ⟨h, [], nx, lv⟩) (fun i => p.length - i) 0 ?_ ?_
  · simp only [go_sem]
    exact ⟨Nat.zero_le _, _, _, _, rfl⟩
  rintro i ρ m ⟨e13, g1, h, nx, lv, rfl⟩ Q hN hR hX
  by_cases hlt : i < p.length
  · obtain ⟨x, hx⟩ : ∃ x, p[i]? = some x := ⟨_, List.getElem?_eq_getElem hlt⟩
    have hxp : (p.map dNd)[i]? = some (dNd x) := by rw [List.getElem?_map, hx]; rfl
    have hlt' : ((i : Int) < (p.length : Int)) = True := by simp; omega
    have h0 : ((0 : Int) ≤ (i : Int)) = True := by simp
    have ew : IntKind.i64.wrap ((i : Int) + 1) = (i : Int) + 1 := i64_in (by omega) (by omega)
    simp only [go_sem, e13, hlt', h0, hxp, hx, Option.map_some, dNd]
    refine drawn (by kernel_rfl) (by kernel_rfl) ?_
    simp only [go_sem, e13, hlt', h0, hxp, hx, Option.map_some, dNd, kDraw_eq]
    intro nx2 lv2 _ _
    simp only [hN, ew]
    refine ⟨by kernel_rfl, i + 1, ?_, by simp only; omega⟩
    simp only [go_sem]
    exact ⟨by simp, by omega, _, _, _, rfl⟩
  · have hlt' : ((i : Int) < (p.length : Int)) = False := by simp; omega
    simp only [go_sem, e13, hlt', hX]

def okR (L : List Rt) (k : Int) : Bool := within k 0 (L.length - 1)
/-- The routes and the error of a net, if there is a route of each number. -/
def someL (L : List Rt) (e : Int) (ks : List Int) : List Rt := if e ≠ 0 then [] else if ks.all (okR L) = true then L else []
def someE (L : List Rt) (e : Int) (ks : List Int) : Int := if e ≠ 0 then e else if ks.all (okR L) = true then 0 else 3
def netRts (n : Net) : List Rt := netL n (outL (routesF n))
def netRE (n : Net) : Int := netR n (outE (routesF n))
theorem netRE_zero {n : Net} (h : netRE n = 0) : netE n = 0 := by
  unfold netRE netR at h
  split at h
  · assumption
  · exact h
theorem netRts_ok (n : Net) : ∀ r ∈ netRts n, RtOk n r := netL_all n
theorem netRts_len (n : Net) : (netRts n).length ≤ 1000 := (netL_bd n).1

set_option maxHeartbeats 4000000 in
set_option maxRecDepth 20000 in
theorem f84 (n : Net) (hb : NetB n) (ks : List Int) (hk : ks.length ≤ 1000) : PCall Try.prog 84 [eNet n, .sl 1 (ks.map fun x => DV.int .i64 x) .no] (RV (rtV (someL (netRts n) (netRE n) ks) (someE (netRts n) (netRE n) ks))) := by
  refine PCall.of_bodyE Try.func84 rfl Try.ntmps84 (congrArg Array.toList Try.results84) ?_
  intro E
  have h31 := f31 n hb
  have hL := netRts_len n
  change PCall Try.prog 31 [eNet n] (RV (rtV (netRts n) (netRE n))) at h31
  generalize netRts n = L at *
  generalize netRE n = e at *
  unfold rtV at h31 ⊢
  simp only [go_sem, eNet, nCells]
  refine callV h31 ?_
  intro nx lv
  by_cases q : e = 0
  rotate_left
  · have q' : (e = 0) = False := eq_false q
    have e1 : someL L e ks = [] := by simp [someL, q]
    have e2 : someE L e ks = e := by simp [someE, q]
    simp only [go_sem, q', e1, e2]
  subst q
  have e1 : someL L 0 ks = if ks.all (okR L) = true then L else [] := by simp [someL]
  have e2 : someE L 0 ks = if ks.all (okR L) = true then 0 else 3 := by simp [someE]
  rw [e1, e2]
  simp only [go_sem]
  refine AW_loopH [4, 5, 9, 20, 21, 22, 23, 24, 25, 26, 27, 28, 29, 30]
    (fun (i : Nat) ρ m => ρ 20 = .int .i64 (i : Int) ∧ i ≤ ks.length ∧ (ks.take i).all (okR L) = true ∧ ∃ h nx lv, m = ⟨h, [], nx, lv⟩) (fun i => ks.length - i) 0 ?_ ?_
  · simp only [go_sem]
    exact ⟨Nat.zero_le _, _, _, _, rfl⟩
  rintro i ρ m ⟨e20, g1, g2, h, nx, lv, rfl⟩ Q hN hR hX
  by_cases hlt : i < ks.length
  · obtain ⟨x, hx⟩ : ∃ x, ks[i]? = some x := ⟨_, List.getElem?_eq_getElem hlt⟩
    have hxp : (ks.map fun x => DV.int .i64 x)[i]? = some (.int .i64 x) := by rw [List.getElem?_map, hx]; rfl
    have hlt' : ((i : Int) < (ks.length : Int)) = True := by simp; omega
    have h0 : ((0 : Int) ≤ (i : Int)) = True := by simp
    have ew : IntKind.i64.wrap ((i : Int) + 1) = (i : Int) + 1 := i64_in (by omega) (by omega)
    have ew2 : IntKind.i64.wrap ((L.length : Int) - 1) = (L.length : Int) - 1 := i64_in (by omega) (by omega)
    simp only [go_sem, e20, hlt', h0, hxp, hx, Option.map_some, ew2]
    refine callV (f56 _ _ _) ?_
    intro nx2 lv2
    cases w : within x 0 ((L.length : Int) - 1) with
    | true =>
      simp only [go_sem, w, hN, ew]
      refine ⟨by kernel_rfl, i + 1, ?_, by simp only; omega⟩
      simp only [go_sem]
      refine ⟨by simp, by omega, ?_, _, _, _, rfl⟩
      rw [List.take_add_one, hx]
      simpa [okR, w] using g2
    | false =>
      have : ks.all (okR L) = false := by
        rw [List.all_eq_false]
        exact ⟨x, List.mem_of_getElem? hx, by simp [okR, w]⟩
      simp only [go_sem, w, hR, this]
      try simp
  · have hlt' : ((i : Int) < (ks.length : Int)) = False := by simp; omega
    rw [List.take_of_length_le (by omega)] at g2
    simp only [go_sem, e20, hlt', hX, g2]
    try simp

theorem someE_one {L : List Rt} {e k : Int} : someE L e [k] = if e ≠ 0 then e else if okR L k = true then 0 else 3 := by simp [someE]
theorem someL_one {L : List Rt} {e k : Int} : someL L e [k] = if e ≠ 0 then [] else if okR L k = true then L else [] := by simp [someL]
theorem okR_get {L : List Rt} {k : Int} (h : okR L k = true) : 0 ≤ k ∧ k < L.length ∧ ∃ r, L[k.toNat]? = some r := by
  have : 0 ≤ k ∧ k ≤ L.length - 1 := by simpa [okR, within] using h
  exact ⟨this.1, by omega, _, List.getElem?_eq_getElem (by omega)⟩
def rtAt (L : List Rt) (k : Int) : Rt := (L[k.toNat]?).getD ⟨0, 0, []⟩

set_option maxHeartbeats 4000000 in
set_option maxRecDepth 20000 in
theorem f40 (n : Net) (hb : NetB n) (k : Int) : PCall Try.prog 40 [eNet n, .int .i64 k] (RV (.tup [.sl 3 ((if someE (netRts n) (netRE n) [k] = 0 then lapF n (rtAt (netRts n) k) else []).map dStp) .no, .int .i64 (someE (netRts n) (netRE n) [k])])) := by
  refine PCall.of_bodyE Try.func40 rfl Try.ntmps40 (congrArg Array.toList Try.results40) ?_
  intro E
  have h84 := f84 n hb [k] (by simp)
  have hok := netRts_ok n
  have hz := @netRE_zero n
  generalize netRts n = L at *
  generalize netRE n = e at *
  unfold rtV at h84
  simp only [go_sem, eNet, nCells]
  simp only [List.map_cons, List.map_nil] at h84
  refine callV h84 ?_
  intro nx lv
  by_cases q : someE L e [k] = 0
  rotate_left
  · have q' : (someE L e [k] = 0) = False := eq_false q
    simp only [go_sem, q', if_false]
    try simp
  have q' : (someE L e [k] = 0) = True := eq_true q
  have qe : e = 0 := by
    rw [someE_one] at q
    split at q
    · rename_i h; exact absurd q h
    · rename_i h; simpa using h
  have qo : okR L k = true := by
    rw [someE_one, if_neg (by simpa using qe)] at q
    split at q
    · assumption
    · omega
  have hL : someL L e [k] = L := by rw [someL_one, if_neg (by simpa using qe), if_pos qo]
  obtain ⟨k0, k1, r, hr⟩ := okR_get qo
  have hrt : rtAt L k = r := by simp [rtAt, hr]
  have hrp : (L.map dRt)[k.toNat]? = some (dRt r) := by rw [List.getElem?_map, hr]; rfl
  have i0 : ((0 : Int) ≤ k) = True := eq_true k0
  have i1 : (k < (L.length : Int)) = True := eq_true k1
  rw [hL, hrt]
  simp only [go_sem, q', if_true]
  refine drawn (by kernel_rfl) (by kernel_rfl) ?_
  simp only [go_sem, i0, i1, hr, hrp, Option.map_some, dRt]
  have h90 := f90r n hb (hz qe) r (hok r (List.mem_of_getElem? hr))
  unfold eRt0 at h90
  refine quietD h90 (fun _ => rfl) ?_
  simp only [go_sem, kDraw_eq]
  intro _ _ _ _
  exact q.symm
set_option maxHeartbeats 4000000 in
set_option maxRecDepth 20000 in
theorem f41 (n : Net) (hb : NetB n) (k : Int) : PCall Try.prog 41 [eNet n, .int .i64 k] (RV (.tup [.sl 4 ((if someE (netRts n) (netRE n) [k] = 0 then needsR n (rtAt (netRts n) k) else []).map dNd) .no, .int .i64 (someE (netRts n) (netRE n) [k])])) := by
  refine PCall.of_bodyE Try.func41 rfl Try.ntmps41 (congrArg Array.toList Try.results41) ?_
  intro E
  have h84 := f84 n hb [k] (by simp)
  have hok := netRts_ok n
  have hz := @netRE_zero n
  generalize netRts n = L at *
  generalize netRE n = e at *
  unfold rtV at h84
  simp only [go_sem, eNet, nCells]
  simp only [List.map_cons, List.map_nil] at h84
  refine callV h84 ?_
  intro nx lv
  by_cases q : someE L e [k] = 0
  rotate_left
  · have q' : (someE L e [k] = 0) = False := eq_false q
    simp only [go_sem, q', if_false]
    try simp
  have q' : (someE L e [k] = 0) = True := eq_true q
  have qe : e = 0 := by
    rw [someE_one] at q
    split at q
    · rename_i h; exact absurd q h
    · rename_i h; simpa using h
  have qo : okR L k = true := by
    rw [someE_one, if_neg (by simpa using qe)] at q
    split at q
    · assumption
    · omega
  have hL : someL L e [k] = L := by rw [someL_one, if_neg (by simpa using qe), if_pos qo]
  obtain ⟨k0, k1, r, hr⟩ := okR_get qo
  have hrt : rtAt L k = r := by simp [rtAt, hr]
  have hrp : (L.map dRt)[k.toNat]? = some (dRt r) := by rw [List.getElem?_map, hr]; rfl
  have i0 : ((0 : Int) ≤ k) = True := eq_true k0
  have i1 : (k < (L.length : Int)) = True := eq_true k1
  rw [hL, hrt]
  simp only [go_sem, q', if_true]
  refine drawn (by kernel_rfl) (by kernel_rfl) ?_
  simp only [go_sem, i0, i1, hr, hrp, Option.map_some, dRt]
  have h90 := f86 n hb (hz qe) r (hok r (List.mem_of_getElem? hr))
  unfold eRt0 at h90
  refine quietD h90 (fun _ => rfl) ?_
  simp only [go_sem, kDraw_eq]
  intro _ _ _ _
  exact q.symm

set_option maxHeartbeats 4000000 in
set_option maxRecDepth 20000 in
theorem f8 (n : Net) (hb : NetB n) (k : Int) : PCall Try.prog 8 [eNet n, .int .i64 k] (RV (.bool true)) := by
  refine PCall.of_body Try.func8 rfl Try.ntmps8 (congrArg Array.toList Try.results8) ?_
  intro E
  have h40 := f40 n hb k
  have h41 := f41 n hb k
  obtain ⟨o1, o2⟩ := both_one n
  have h32 := f32 n hb
  rw [← o1, ← o2] at h32
  change PCall Try.prog 32 [eNet n] (RV (rtV (netRts n) (netRE n))) at h32
  have hok := netRts_ok n
  have hz := @netRE_zero n
  have hlen := netRts_len n
  generalize netRts n = L at *
  generalize netRE n = e at *
  unfold rtV at h32
  simp only [go_sem, eNet, nCells]
  refine callV h40 ?_
  intro nx lv
  simp only [go_sem]
  refine callV h41 ?_
  intro nx2 lv2
  simp only [go_sem]
  refine callV h32 ?_
  intro nx3 lv3
  simp only [go_sem]
  by_cases qe : e = 0
  rotate_left
  · have qe' : (e = 0) = False := eq_false qe
    have hs : someE L e [k] = e := by rw [someE_one, if_pos qe]
    simp only [go_sem, qe', hs, if_false]
    try simp
  have qe' : (e = 0) = True := eq_true qe
  subst qe
  have ho : okR L k = true ↔ 0 ≤ k ∧ k < L.length := by
    simp only [okR, within, Bool.and_eq_true, decide_eq_true_eq]
    omega
  by_cases k0 : k < 0
  · have k0' : (k < 0) = True := eq_true k0
    have hs : someE L 0 [k] = 3 := by
      rw [someE_one, if_neg (by simp), if_neg (by rw [ho]; omega)]
    simp only [go_sem, k0', hs]
    try simp
  have k0' : (k < 0) = False := eq_false k0
  by_cases k1 : (L.length : Int) ≤ k
  · have k1' : ((L.length : Int) ≤ k) = True := eq_true k1
    have hs : someE L 0 [k] = 3 := by
      rw [someE_one, if_neg (by simp), if_neg (by rw [ho]; omega)]
    simp only [go_sem, k0', k1', hs]
    try simp
  have k1' : ((L.length : Int) ≤ k) = False := eq_false k1
  have qo : okR L k = true := ho.2 ⟨by omega, by omega⟩
  have hs : someE L 0 [k] = 0 := by rw [someE_one, if_neg (by simp), if_pos qo]
  obtain ⟨h0, h1, r, hr⟩ := okR_get qo
  have hrt : rtAt L k = r := by simp [rtAt, hr]
  have hrp : (L.map dRt)[k.toNat]? = some (dRt r) := by rw [List.getElem?_map, hr]; rfl
  have i0 : ((0 : Int) ≤ k) = True := eq_true h0
  have i1 : (k < (L.length : Int)) = True := eq_true h1
  have hrk := hok r (List.mem_of_getElem? hr)
  have h43 := f43r n hb (hz rfl) r hrk
  have h39 := f39 n hb (hz rfl) r hrk
  unfold eRt0 at h43 h39
  have hl1 := lapF_len n r
  have hl2 := needsR_len n r hrk.l1
  rw [hrt]
  simp only [go_sem, k0', k1', hs, if_true]
  refine drawn (by kernel_rfl) (by kernel_rfl) ?_
  simp only [go_sem, i0, i1, hr, hrp, Option.map_some, dRt]
  refine quietD h43 (fun _ => rfl) ?_
  simp only [go_sem]
  refine quietD (f42 (lapF n r) (by omega)) (fun _ => rfl) ?_
  simp only [go_sem, i0, i1, hr, hrp, Option.map_some, dRt]
  refine quietD h39 (fun _ => rfl) ?_
  simp only [go_sem]
  refine quietD (f44 (needsR n r) (by omega)) (fun _ => rfl) ?_
  simp only [go_sem, kDraw_eq]

theorem law8 (xs : List DV) (h : ElDs Try.prog [28, 3] xs) : PCall Try.prog 8 (xs.map toAV) (RV (.bool true)) := by
  obtain ⟨x, xs, rfl, hx, h⟩ := h.cons_inv
  obtain ⟨y, xs, rfl, hy, h⟩ := h.cons_inv
  cases h.nil_inv
  obtain ⟨n, hn, hb⟩ := openNet hx
  obtain ⟨s, rfl, _⟩ := hy.int_inv Try.underlying3
  simp only [List.map_cons, List.map_nil, hn, toAV]
  exact f8 n hb s
end Go.Proofs.Yteadhjclchjfjaa
