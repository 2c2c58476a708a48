/- Clashes. -/
import Derived.Test.YteadhjclchjfjaaL30
namespace Go.Proofs.Yteadhjclchjfjaa
set_option linter.unusedSimpArgs false
set_option linter.unusedVariables false
open Go.AB

theorem ndA_sub {l : List Nd} {x y : Nd} (h : y ∈ l) : y ∈ ndA l x := by
  unfold ndA
  split
  · exact h
  · simp [h]
theorem overO_sub {g : List Nd → Int → Int → List Nd} (hg : ∀ l s e y, y ∈ l → y ∈ g l s e) (t : Int) : ∀ (os : List Int) (l : List Nd) y, y ∈ l → y ∈ overO g t os l
  | [], l, y, h => h
  | o :: r, l, y, h => overO_sub hg t r (g l t o) y (hg _ _ _ _ h)
theorem lookF_sub (n : Net) (fr : Int) (st lap : List Stp) (i : Int) : ∀ (k : Nat) (l : List Nd) (s e : Int) y, y ∈ l → y ∈ lookF n fr st lap i k l s e
  | 0, l, _, _, y, h => h
  | k + 1, l, s, e, y, h => by
    unfold lookF lookG
    split
    · exact h
    · split
      · exact h
      · split
        · split
          · exact h
          · exact ndA_sub h
        · split
          · split
            · exact h
            · exact ndA_sub h
          · exact overO_sub (fun l s e y h => lookF_sub n fr st lap i k l s e y h) _ _ _ _ h
theorem looksF_sub (n : Net) (fr : Int) (st lap : List Stp) : ∀ (p : List Stp) (i : Int) (l : List Nd) y, y ∈ l → y ∈ looksF n fr st lap p i l
  | [], i, l, y, h => h
  | x :: r, i, l, y, h => looksF_sub n fr st lap r (i + 1) _ y (overO_sub (fun l s e y h => lookF_sub n fr st lap i 8 l s e y h) _ _ _ _ h)
theorem needsR_self (n : Net) (r : Rt) (h : 0 < r.st.length) : anyM (needsR n r) (needsR n r) = true := by
  obtain ⟨x, p, hp⟩ : ∃ x p, r.st = x :: p := by
    cases hs : r.st with
    | nil => rw [hs] at h; simp at h
    | cons x p => exact ⟨x, p, rfl⟩
  have hm : trackN n 0 x ∈ needsR n r := by
    unfold needsR needsF
    refine List.mem_append_left _ (looksF_sub n _ _ _ _ _ _ _ (List.mem_append_left _ ?_))
    rw [hp]
    simp [tracksF]
  simp only [anyM, List.any_eq_true]
  exact ⟨_, hm, _, hm, by simp [meets, bodyN, trackN]⟩

def clashV (n : Net) (L : List Rt) (e a b : Int) : Bool := decide (someE L e [a, b] = 0) && (decide (a = b) || anyM (needsR n (rtAt L a)) (needsR n (rtAt L b)))
theorem someE_two {L : List Rt} {e a b : Int} : someE L e [a, b] = if e ≠ 0 then e else if okR L a = true ∧ okR L b = true then 0 else 3 := by simp [someE]
theorem someL_two {L : List Rt} {e a b : Int} : someL L e [a, b] = if e ≠ 0 then [] else if okR L a = true ∧ okR L b = true then L else [] := by simp [someL]

set_option maxHeartbeats 4000000 in
set_option maxRecDepth 20000 in
theorem f37 (n : Net) (hb : NetB n) (a b : Int) : PCall Try.prog 37 [eNet n, .int .i64 a, .int .i64 b] (RV (.tup [.bool (clashV n (netRts n) (netRE n) a b), .int .i64 (someE (netRts n) (netRE n) [a, b])])) := by
  refine PCall.of_bodyE Try.func37 rfl Try.ntmps37 (congrArg Array.toList Try.results37) ?_
  intro E
  have h84 := f84 n hb [a, b] (by simp)
  have hok := netRts_ok n
  have hz := @netRE_zero n
  unfold clashV
  generalize netRts n = L at *
  generalize netRE n = e at *
  unfold rtV at h84
  simp only [go_sem, eNet, nCells]
  simp only [List.map_cons, List.map_nil] at h84
  refine callV h84 ?_
  intro nx lv
  by_cases q : someE L e [a, b] = 0
  rotate_left
  · have q' : (someE L e [a, b] = 0) = False := eq_false q
    simp only [go_sem, q', decide_false, Bool.false_and]
    try simp
  have q' : (someE L e [a, b] = 0) = True := eq_true q
  have qe : e = 0 := by
    rw [someE_two] at q
    split at q
    · rename_i h; exact absurd q h
    · rename_i h; simpa using h
  have qo : okR L a = true ∧ okR L b = true := by
    rw [someE_two, if_neg (by simpa using qe)] at q
    split at q
    · assumption
    · omega
  have hL : someL L e [a, b] = L := by rw [someL_two, if_neg (by simpa using qe), if_pos qo]
  obtain ⟨a0, a1, ra, hra⟩ := okR_get qo.1
  obtain ⟨b0, b1, rb, hrb⟩ := okR_get qo.2
  have hta : rtAt L a = ra := by simp [rtAt, hra]
  have htb : rtAt L b = rb := by simp [rtAt, hrb]
  have hpa : (L.map dRt)[a.toNat]? = some (dRt ra) := by rw [List.getElem?_map, hra]; rfl
  have hpb : (L.map dRt)[b.toNat]? = some (dRt rb) := by rw [List.getElem?_map, hrb]; rfl
  have i0 : ((0 : Int) ≤ a) = True := eq_true a0
  have i1 : (a < (L.length : Int)) = True := eq_true a1
  have j0 : ((0 : Int) ≤ b) = True := eq_true b0
  have j1 : (b < (L.length : Int)) = True := eq_true b1
  have oka := hok ra (List.mem_of_getElem? hra)
  have okb := hok rb (List.mem_of_getElem? hrb)
  have ha := f86 n hb (hz qe) ra oka
  have hb2 := f86 n hb (hz qe) rb okb
  unfold eRt0 at ha hb2
  have la := needsR_len n ra oka.l1
  have lb := needsR_len n rb okb.l1
  rw [hL, hta, htb]
  simp only [go_sem, q', decide_true, Bool.true_and]
  refine drawn (by kernel_rfl) (by kernel_rfl) ?_
  by_cases hab : a = b
  · have hab' : (a = b) = True := eq_true hab
    simp only [go_sem, hab', kDraw_eq, decide_true, Bool.true_or]
    exact fun _ _ _ _ => q.symm
  · have hab' : (a = b) = False := eq_false hab
    simp only [go_sem, hab', i0, i1, hra, hpa, Option.map_some, dRt, decide_false, Bool.false_or]
    refine quietD ha (fun _ => rfl) ?_
    simp only [go_sem, j0, j1, hrb, hpb, Option.map_some, dRt]
    refine quietD hb2 (fun _ => rfl) ?_
    simp only [go_sem]
    refine quietD (f85 _ _ (by omega) (by omega)) (fun _ => rfl) ?_
    simp only [go_sem, kDraw_eq]
    exact fun _ _ _ _ => q.symm

set_option maxHeartbeats 4000000 in
set_option maxRecDepth 20000 in
theorem f7 (n : Net) (hb : NetB n) (a b : Int) : PCall Try.prog 7 [eNet n, .int .i64 a, .int .i64 b] (RV (.bool true)) := by
  refine PCall.of_body Try.func7 rfl Try.ntmps7 (congrArg Array.toList Try.results7) ?_
  intro E
  have h37 := f37 n hb a b
  obtain ⟨o1, o2⟩ := both_one n
  have h32 := f32 n hb
  rw [← o1, ← o2] at h32
  change PCall Try.prog 32 [eNet n] (RV (rtV (netRts n) (netRE n))) at h32
  have hok := netRts_ok n
  have hz := @netRE_zero n
  have hlen := netRts_len n
  unfold clashV at h37
  generalize netRts n = L at *
  generalize netRE n = e at *
  unfold rtV at h32
  simp only [go_sem, eNet, nCells]
  refine callV h37 ?_
  intro nx lv
  simp only [go_sem]
  refine callV h32 ?_
  intro nx3 lv3
  simp only [go_sem]
  by_cases qe : e = 0
  rotate_left
  · have qe' : (e = 0) = False := eq_false qe
    have hs : someE L e [a, b] = e := by rw [someE_two, if_pos qe]
    simp only [go_sem, qe', hs, decide_false, Bool.false_and]
    try simp
  subst qe
  have ho : ∀ k, okR L k = true ↔ 0 ≤ k ∧ k < L.length := by
    intro k
    simp only [okR, within, Bool.and_eq_true, decide_eq_true_eq]
    omega
  have bad : ¬ (okR L a = true ∧ okR L b = true) → someE L 0 [a, b] = 3 := fun h => by
    rw [someE_two, if_neg (by simp), if_neg h]
  by_cases a0 : a < 0
  · have a0' : (a < 0) = True := eq_true a0
    have hs := bad (by rw [ho]; omega)
    simp only [go_sem, a0', hs]
    try simp
  have a0' : (a < 0) = False := eq_false a0
  by_cases a1 : (L.length : Int) ≤ a
  · have a1' : ((L.length : Int) ≤ a) = True := eq_true a1
    have hs := bad (by rw [ho]; omega)
    simp only [go_sem, a0', a1', hs]
    try simp
  have a1' : ((L.length : Int) ≤ a) = False := eq_false a1
  by_cases b0 : b < 0
  · have b0' : (b < 0) = True := eq_true b0
    have hs := bad (by rw [ho b]; omega)
    simp only [go_sem, a0', a1', b0', hs]
    try simp
  have b0' : (b < 0) = False := eq_false b0
  by_cases b1 : (L.length : Int) ≤ b
  · have b1' : ((L.length : Int) ≤ b) = True := eq_true b1
    have hs := bad (by rw [ho b]; omega)
    simp only [go_sem, a0', a1', b0', b1', hs]
    try simp
  have b1' : ((L.length : Int) ≤ b) = False := eq_false b1
  have qo : okR L a = true ∧ okR L b = true := ⟨(ho a).2 (by omega), (ho b).2 (by omega)⟩
  have hs : someE L 0 [a, b] = 0 := by rw [someE_two, if_neg (by simp), if_pos qo]
  obtain ⟨h0, h1, ra, hra⟩ := okR_get qo.1
  obtain ⟨k0, k1, rb, hrb⟩ := okR_get qo.2
  have hta : rtAt L a = ra := by simp [rtAt, hra]
  have htb : rtAt L b = rb := by simp [rtAt, hrb]
  have hpa : (L.map dRt)[a.toNat]? = some (dRt ra) := by rw [List.getElem?_map, hra]; rfl
  have hpb : (L.map dRt)[b.toNat]? = some (dRt rb) := by rw [List.getElem?_map, hrb]; rfl
  have i0 : ((0 : Int) ≤ a) = True := eq_true h0
  have i1 : (a < (L.length : Int)) = True := eq_true h1
  have j0 : ((0 : Int) ≤ b) = True := eq_true k0
  have j1 : (b < (L.length : Int)) = True := eq_true k1
  have oka := hok ra (List.mem_of_getElem? hra)
  have okb := hok rb (List.mem_of_getElem? hrb)
  have ha := f39 n hb (hz rfl) ra oka
  have hb2 := f39 n hb (hz rfl) rb okb
  unfold eRt0 at ha hb2
  have la := needsR_len n ra oka.l1
  have lb := needsR_len n rb okb.l1
  have hv : (decide (a = b) || anyM (needsR n ra) (needsR n rb)) = anyM (needsR n ra) (needsR n rb) := by
    by_cases hab : a = b
    · subst hab
      rw [hra] at hrb
      cases hrb
      rw [needsR_self n ra oka.l0]
      simp
    · simp [hab]
  rw [hta, htb, hs, hv]
  simp only [go_sem, a0', a1', b0', b1', decide_true, Bool.true_and]
  refine drawn (by kernel_rfl) (by kernel_rfl) ?_
  simp only [go_sem, i0, i1, hra, hpa, Option.map_some, dRt]
  refine quietD ha (fun _ => rfl) ?_
  simp only [go_sem, j0, j1, hrb, hpb, Option.map_some, dRt]
  refine quietD hb2 (fun _ => rfl) ?_
  simp only [go_sem]
  refine quietD (f38 _ _ (by omega) (by omega)) (fun _ => rfl) ?_
  simp only [go_sem, kDraw_eq]
  try simp

theorem law7 (xs : List DV) (h : ElDs Try.prog [28, 3, 3] xs) : PCall Try.prog 7 (xs.map toAV) (RV (.bool true)) := by
  obtain ⟨x, xs, rfl, hx, h⟩ := h.cons_inv
  obtain ⟨y, xs, rfl, hy, h⟩ := h.cons_inv
  obtain ⟨z, xs, rfl, hz, h⟩ := h.cons_inv
  cases h.nil_inv
  obtain ⟨n, hn, hb⟩ := openNet hx
  obtain ⟨s, rfl, _⟩ := hy.int_inv Try.underlying3
  obtain ⟨t, rfl, _⟩ := hz.int_inv Try.underlying3
  simp only [List.map_cons, List.map_nil, hn, toAV]
  exact f7 n hb s t
end Go.Proofs.Yteadhjclchjfjaa
