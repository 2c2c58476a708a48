/- Needs: the list that a looker keeps, and what it has seen. -/
import Derived.Test.YteadhjclchjfjaaLN
namespace Go.Proofs.Yteadhjclchjfjaa
set_option linter.unusedSimpArgs false
set_option linter.unusedVariables false
open Go.AB

theorem f145 (x : Nd) (t e : Int) : PCall Try.prog 145 [eNd x, .ept [.int .i64 t], .ept [.int .i64 e]] (RV (.bool (decide (x.k = 3 ∧ x.p = t ∧ x.o = e)))) := by
  refine PCall.of_body Try.func145 rfl Try.ntmps145 (congrArg Array.toList Try.results145) ?_
  intro E
  by_cases h1 : x.k = 3
  · by_cases h2 : x.p = t
    · simp only [go_sem, eNd, h1, h2]; try simp
    · simp only [go_sem, eNd, h1, h2]; try simp [h2]
  · simp only [go_sem, eNd, h1]; try simp [h1]

/-- The place of a flank in a list of needs. -/
def idxN : List Nd → Int → Int → Int → Int
  | [], _, _, _ => -1
  | x :: l, t, e, i => if (x.k = 3 ∧ x.p = t ∧ x.o = e) then i else idxN l t e (i + 1)
theorem idxN_iff : ∀ {l : List Nd} {t e : Int} {i : Int}, 0 ≤ i → (0 ≤ idxN l t e i ↔ flankP l t e = true)
  | [], t, e, i, _ => by simp [idxN, flankP]
  | x :: l, t, e, i, h => by
    have ih := idxN_iff (l := l) (t := t) (e := e) (i := i + 1) (by omega)
    simp only [idxN, flankP, List.any_cons] at ih ⊢
    by_cases hx : (x.k = 3 ∧ x.p = t ∧ x.o = e)
    · simp [hx, h]
    · simp only [hx, if_false, ih]; simp

set_option maxRecDepth 20000 in
theorem f134 (p : List Nd) (t e : Int) (hl : p.length ≤ 100000) : PCall Try.prog 134 [.sl 4 (p.map dNd) .no, .fn 145 [.ept [.int .i64 t], .ept [.int .i64 e]]] (RV (.int .i64 (idxN p t e 0))) := by
  refine PCall.of_body Try.func134 rfl Try.ntmps134 (congrArg Array.toList Try.results134) ?_
  intro E
  simp only [go_sem]
  refine AW_loopH [4, 5, 8, 9, 10, 11, 12, 13, 14, 15, 16, 17, 18]
    (fun (i : Nat) ρ m => ρ 8 = .int .i64 (i : Int) ∧ i ≤ p.length ∧ idxN (p.drop i) t e i = idxN p t e 0 ∧ ∃ h nx lv, m = ⟨h, [], nx, lv⟩) (fun i => p.length - i) 0 ?_ ?_
  · simp [go_sem]
  rintro i ρ m ⟨e1, g1, g2, h, nx, lv, rfl⟩ Q hN hR hX
  by_cases hlt : i < p.length
  · obtain ⟨x, hx⟩ : ∃ x, p[i]? = some x := ⟨_, List.getElem?_eq_getElem hlt⟩
    have hxp : (p.map dNd)[i]? = some (dNd x) := by rw [List.getElem?_map, hx]; rfl
    have hlt' : ((i : Int) < (p.length : Int)) = True := by simp; omega
    have h0 : ((0 : Int) ≤ (i : Int)) = True := by simp
    have ew : IntKind.i64.wrap ((i : Int) + 1) = (i : Int) + 1 := i64_in (by omega) (by omega)
    have hd : p.drop i = x :: p.drop (i + 1) := by
      rw [List.drop_eq_getElem_cons hlt]
      rw [List.getElem?_eq_getElem hlt] at hx
      cases hx; rfl
    rw [hd] at g2
    simp only [idxN] at g2
    simp only [go_sem, e1, hlt', h0, hxp, dNd]
    refine callV (f145 x t e) ?_
    intro nx2 lv2
    by_cases q : (x.k = 3 ∧ x.p = t ∧ x.o = e)
    · rw [if_pos q] at g2
      have q' : (x.k = 3 ∧ x.p = t ∧ x.o = e) = True := eq_true q
      simp only [go_sem, q', hR]
      exact g2
    · rw [if_neg q] at g2
      have q' : (x.k = 3 ∧ x.p = t ∧ x.o = e) = False := eq_false q
      simp only [go_sem, q', hN, ew]
      refine ⟨by kernel_rfl, i + 1, ?_, by simp only; omega⟩
      simp only [go_sem]
      exact ⟨by simp, by omega, by rw [← g2]; rfl, _, _, _, rfl⟩
  · have hlt' : ((i : Int) < (p.length : Int)) = False := by simp; omega
    rw [List.drop_eq_nil_of_le (by omega)] at g2
    simp only [idxN] at g2
    simp only [go_sem, e1, hlt', hX]
    exact g2

theorem f113 (p : List Nd) (t e : Int) (hl : p.length ≤ 100000) : PCall Try.prog 113 [.sl 4 (p.map dNd) .no, .fn 145 [.ept [.int .i64 t], .ept [.int .i64 e]]] (RV (.bool (flankP p t e))) := by
  refine PCall.of_body Try.func113 rfl Try.ntmps113 (congrArg Array.toList Try.results113) ?_
  intro E
  simp only [go_sem]
  refine callV (f134 p t e hl) ?_
  intro nx lv
  have := idxN_iff (l := p) (t := t) (e := e) (i := 0) (Int.le_refl 0)
  simp only [go_sem]
  cases hh : flankP p t e <;> simp [hh] at this ⊢ <;> omega

/-- What has been seen: the needs of a list. -/
structure SeenN (l : List Nd) (ks vs : List AV) : Prop where
  key : ks.all (keyA Try.prog 85) = true
  pk : ks.all portA = true
  pv : vs.all portA = true
  get : ∀ x, mget ks vs (eNd x) = if x ∈ l then some (.bool true) else none
theorem key_nd (x : Nd) : keyA Try.prog 85 (eNd x) = true := by simp only [go_sem, eNd]
theorem eNd_inj {x y : Nd} (h : eNd x = eNd y) : x = y := by
  obtain ⟨a, b, c, d⟩ := x
  obtain ⟨a', b', c', d'⟩ := y
  simpa [eNd] using h
theorem mset_vals {P : AV → Bool} : ∀ {ks vs : List AV} {k v : AV}, vs.all P = true → P v = true → (mset ks vs k v).2.all P = true
  | [], vs, k, v, _, h => by simp [mset, h]
  | q :: ks, [], k, v, _, h => by simp [mset, h]
  | q :: ks, u :: vs, k, v, h1, h2 => by
    simp only [List.all_cons, Bool.and_eq_true] at h1
    by_cases hq : q = k
    · simp only [mset, hq, if_true, List.all_cons, h2, h1.2, Bool.and_self]
    · simp only [mset, hq, if_false, List.all_cons, h1.1, Bool.true_and]
      exact mset_vals h1.2 h2
theorem SeenN.nil : SeenN [] [] [] := ⟨rfl, rfl, rfl, fun x => by simp [mget]⟩
theorem SeenN.add {l : List Nd} {ks vs : List AV} {x : Nd} (h : SeenN l ks vs) : SeenN (l ++ [x]) (mset ks vs (eNd x) (.bool true)).1 (mset ks vs (eNd x) (.bool true)).2 := by
  refine ⟨mset_keys h.key (key_nd _), mset_keys h.pk rfl, mset_vals h.pv rfl, fun y => ?_⟩
  rw [mget_mset, h.get]
  simp only [List.mem_append, List.mem_singleton]
  by_cases h1 : eNd x = eNd y
  · have := eNd_inj h1
    subst this
    simp
  · have : ¬ y = x := fun e => h1 (by rw [e])
    simp [h1, this]

def kCells (n : Net) (r : Rt) (lap : List Stp) (l : List Nd) (tok : Tok) (mp : AB.Loc) : List AV :=
  nCells n ++ [.int .i64 r.fr, .int .i64 r.to, .sl 3 (r.st.map dStp) .no, .sl 3 (lap.map dStp) .no, .sl 4 (l.map dNd) tok, .mref mp]
/-- What a call comes to that a looker is handed to. -/
def outN (n : Net) (r : Rt) (lap : List Stp) (g : List Nd) (v : AV) : AH → AV → Prop := fun m x => x = v ∧ ∃ tok ks vs, m.o = [kCells n r lap g tok (.out 1), [.mapc ks vs]] ∧ okT m tok ∧ SeenN g ks vs

theorem kCells_rn {f : AB.Loc → Option AB.Loc} {n : Net} {r : Rt} {lap : List Stp} {l : List Nd} {tok : Tok} {mp mq : AB.Loc} (h : f mp = some mq) : rnCL f (kCells n r lap l tok mp) = some (kCells n r lap l tok mq) := by
  simp only [kCells, nCells, List.cons_append, List.nil_append, rnCL, rnC, port1, h]
theorem mapc_rn {f : AB.Loc → Option AB.Loc} {l : List Nd} {ks vs : List AV} (h : SeenN l ks vs) : rnCL f [.mapc ks vs] = some [.mapc ks vs] := by
  simp only [rnCL, rnC, h.pk, h.pv, Bool.and_self]

/-- A call that a looker is handed to. -/
theorem callN {k : Nat} {n : Net} {r : Rt} {lap : List Stp} {l g : List Nd} {v : AV} {tok : Tok} {ks vs : List AV} {rest : List AV} {σ : AS} {dst : Option Nat} {K : AS → Prop} {l1 l2 : AB.Loc}
    (h : QCall Try.prog k ⟨[], [kCells n r lap l tok (.out 1), [.mapc ks vs]], σ.m.nx, σ.m.lv⟩ (.ptr (.out 0) 0 :: rest) (outN n r lap g v)) (hrest : ∀ f, rnAL f rest = some rest) (hv : ∀ f, rnV f v = some v) (hne : l1 ≠ l2)
    (hc : σ.m.cells l1 = some (kCells n r lap l tok l2)) (hm : σ.m.cells l2 = some [.mapc ks vs]) (hs : SeenN l ks vs)
    (hK : ∀ tok' ks' vs' nx2 lv2, okT ⟨[], [], nx2, lv2⟩ tok' → SeenN g ks' vs' →
      K (AS.put ⟨σ.s, ⟨((σ.m.setCells l1 (kCells n r lap g tok' l2)).setCells l2 [.mapc ks' vs']).h, ((σ.m.setCells l1 (kCells n r lap g tok' l2)).setCells l2 [.mapc ks' vs']).o, nx2, lv2⟩⟩ dst v)) :
    effX Try.prog k (.ptr l1 0 :: rest) σ dst K := by
  have hne' : (l1 = l2) = False := eq_false hne
  refine effH [l1, l2] (css := [kCells n r lap l tok l2, [.mapc ks vs]]) ?_ ?_ ?_ (.two hne) h ?_
  · simp only [rnAL, rnA, rnC, outF, idxL, if_true, hrest]
  · simp only [cellsL, hc, hm]
  · rw [rnLL, kCells_rn (mq := .out 1) (by simp only [outF, idxL, hne', if_false, if_true])]
    simp only [rnLL, mapc_rn hs]
  · rintro m' x ⟨rfl, tok', ks', vs', ho, hok, hs'⟩
    refine ⟨[kCells n r lap g tok' l2, [.mapc ks' vs']], x, ?_, rfl, hv _, ?_⟩
    · rw [ho, rnLL, kCells_rn (f := backF [l1, l2] none (Loc.own 0 (gnext σ.m 0))) (mq := l2) rfl]
      simp only [rnLL, mapc_rn hs']
    · exact hK tok' ks' vs' _ _ (okT_mono hok fun _ x => x) hs'

set_option maxHeartbeats 1000000 in
set_option maxRecDepth 20000 in
theorem f117 (n : Net) (r : Rt) (lap : List Stp) (l : List Nd) (x : Nd) (tok : Tok) (ks vs : List AV) (nx : Nat) (lv : Nat → Prop) (hl : l.length ≤ 50000) (hs : SeenN l ks vs) (hok : okT ⟨[], [kCells n r lap l tok (.out 1), [.mapc ks vs]], nx, lv⟩ tok) :
    QCall Try.prog 117 ⟨[], [kCells n r lap l tok (.out 1), [.mapc ks vs]], nx, lv⟩ [.ptr (.out 0) 0, eNd x] (outN n r lap (ndA l x) (.tup [])) := by
  refine QCall.of_body Try.func117 rfl Try.ntmps117 (congrArg Array.toList Try.results117) ?_
  intro E
  have hg := hs.get x
  unfold eNd at hg
  simp only [go_sem, kCells, nCells, List.cons_append, List.nil_append, eNd]
  refine drawn (by kernel_rfl) (by kernel_rfl) ?_
  simp only [go_sem, kDraw_eq]
  by_cases q : x ∈ l
  · rw [if_pos q] at hg
    have e : ndA l x = l := by simp [ndA, q]
    simp only [go_sem, hg, hs.key, kDraw_eq]
    intro nx2 lv2 hn2 hl2
    rw [e]
    exact ⟨rfl, tok, ks, vs, rfl, okT_mono hok hl2, hs⟩
  · rw [if_neg q] at hg
    have e : ndA l x = l ++ [x] := by simp [ndA, q]
    simp only [go_sem, hg, hs.key, kDraw_eq]
    intro nx1 lv1 hn1 hl1
    refine drawnP [2, 2, 2, 2, 2, 3] [(5, [0, 0, 0, 0, 0, 0])] 26 (by kernel_rfl) (by kernel_rfl) (by kernel_rfl) (by kernel_rfl) rfl ?_
    have hk := key_nd x
    unfold eNd at hk
    simp only [go_sem, hg, hs.key, hk]
    intro nx2 lv2 hn2 hl2
    intro nx3 lv3 hn3 hl3
    refine drawnP [2, 2, 2, 2, 2, 2, 3, 1, 1, 1, 1] [(6, [2, 2, 2, 2, 2, 0, 0, 3, 1, 1, 1]), (7, [2, 0, 0, 0, 0, 0, 0, 0, 2, 2, 3]), (10, [0, 0, 0, 0, 0, 0, 0, 0, 0, 0, 0])] 26 (by kernel_rfl) (by kernel_rfl) (by kernel_rfl) (by kernel_rfl) rfl ?_
    simp only [go_sem]
    intro nx4 lv4 hn4 hl4 nx5 lv5 hn5 hl5
    refine ⟨okT_mono hok fun j z => hl5 j (.inr (hl4 j (hl3 j (hl2 j (hl1 j z))))), by omega, ?_⟩
    intro nx6 lv6 hn6 hl6 nx7 lv7 hn7 hl7
    rw [e]
    refine ⟨rfl, .own nx5, _, _, ?_, hl7 _ (hl6 _ (.inl rfl)), hs.add⟩
    simp [kCells, nCells, dNd, eNd]
end Go.Proofs.Yteadhjclchjfjaa
