/- Needs: Overlap and Needs; the law. -/
import Derived.Test.YteadhjclchjfjaaGreatL270
namespace Go.Proofs.YteadhjclchjfjaaGreat
set_option linter.unusedSimpArgs false
set_option linter.unusedVariables false
open Go.AB

set_option maxHeartbeats 4000000 in
set_option maxRecDepth 20000 in
theorem f37 (p : List Nd) (hl : p.length ≤ 100000) : PCall Tryz.prog 37 [.sl 4 (p.map dNd) .no, .sl 4 (p.map dNd) .no] (RV (.bool true)) := by
  refine PCall.of_body Tryz.func37 rfl Tryz.ntmps37 (congrArg Array.toList Tryz.results37) ?_
  intro E
  simp only [go_sem]
  refine AW_loopH [5, 13, 14, 15, 16, 17, 18, 19, 20, 21, 22, 23, 24, 25]
    (fun (i : Nat) ρ m => ρ 13 = .int .i64 (i : Int) ∧ i ≤ p.length ∧ ∃ h nx lv, m = ⟨h, [], nx, lv⟩) (fun i => p.length - i) 0 ?_ ?_
  · simp only [go_sem]
    exact ⟨Nat.zero_le _, _, _, _, rfl⟩
  rintro i ρ m ⟨e13, g1, h, nx, lv, rfl⟩ Q hN hR hX
  by_cases hlt : i < p.length
  · obtain ⟨x, hx⟩ : ∃ x, p[i]? = some x := ⟨_, List.getElem?_eq_getElem hlt⟩
    have hxp : (p.map dNd)[i]? = some (dNd x) := by rw [List.getElem?_map, hx]; rfl
    have hlt' : ((i : Int) < (p.length : Int)) = True := by simp; omega
    have h0 : ((0 : Int) ≤ (i : Int)) = True := by simp
    have ew : IntKind.i64.wrap ((i : Int) + 1) = (i : Int) + 1 := i64_in (by omega) (by omega)
    simp only [go_sem, e13, hlt', h0, hxp, hx, Option.map_some, dNd]
    refine drawn (by kernel_rfl) (by kernel_rfl) ?_
    simp only [go_sem, e13, hlt', h0, hxp, hx, Option.map_some, dNd, kDraw_eq]
    intro nx2 lv2 _ _
    simp only [hN, ew]
    refine ⟨by kernel_rfl, i + 1, ?_, by simp only; omega⟩
    simp only [go_sem]
    exact ⟨by simp, by omega, _, _, _, rfl⟩
  · have hlt' : ((i : Int) < (p.length : Int)) = False := by simp; omega
    simp only [go_sem, e13, hlt', hX]

def okR (L : List Rt) (k : Int) : Bool := within k 0 (L.length - 1)
/-- The routes and the error of a net, if there is a route of each number. -/
def someL (L : List Rt) (e : Int) (ks : List Int) : List Rt := if e ≠ 0 then [] else if ks.all (okR L) = true then L else []
def someE (L : List Rt) (e : Int) (ks : List Int) : Int := if e ≠ 0 then e else if ks.all (okR L) = true then 0 else 3
def netRts (n : Net) : List Rt := netL n (outL (routesF n))
def netRE (n : Net) : Int := netR n (outE (routesF n))
theorem netRE_zero {n : Net} (h : netRE n = 0) : netE n = 0 := by
  unfold netRE netR at h
  split at h
  · assumption
  · exact h
theorem netRts_ok (n : Net) : ∀ r ∈ netRts n, RtOk n r := netL_all n
theorem netRts_len (n : Net) : (netRts n).length ≤ 1000 := (netL_bd n).1

set_option maxHeartbeats 4000000 in
set_option maxRecDepth 20000 in
theorem f56 (n : Net) (hb : NetB n) (ks : List Int) (hk : ks.length ≤ 1000) : PCall Tryz.prog 56 [eNet n, .sl 1 (ks.map fun x => DV.int .i64 x) .no] (RV (rtV (someL (netRts n) (netRE n) ks) (someE (netRts n) (netRE n) ks))) := by
  refine PCall.of_bodyE Tryz.func56 rfl Tryz.ntmps56 (congrArg Array.toList Tryz.results56) ?_
  intro E
  have h31 := f20 n hb
  have hL := netRts_len n
  change PCall Tryz.prog 20 [eNet n] (RV (rtV (netRts n) (netRE n))) at h31
  generalize netRts n = L at *
  generalize netRE n = e at *
  unfold rtV at h31 ⊢
  simp only [go_sem, eNet, nCells]
  refine callV h31 ?_
  intro nx lv
  by_cases q : e = 0
  rotate_left
  · have q' : (e = 0) = False := eq_false q
    have e1 : someL L e ks = [] := by simp [someL, q]
    have e2 : someE L e ks = e := by simp [someE, q]
    simp only [go_sem, q', e1, e2]
  subst q
  have e1 : someL L 0 ks = if ks.all (okR L) = true then L else [] := by simp [someL]
  have e2 : someE L 0 ks = if ks.all (okR L) = true then 0 else 3 := by simp [someE]
  rw [e1, e2]
  simp only [go_sem]
  refine AW_loopH [4, 5, 9, 20, 21, 22, 23, 24, 25, 26, 27, 28, 29, 30]
    (fun (i : Nat) ρ m => ρ 20 = .int .i64 (i : Int) ∧ i ≤ ks.length ∧ (ks.take i).all (okR L) = true ∧ ∃ h nx lv, m = ⟨h, [], nx, lv⟩) (fun i => ks.length - i) 0 ?_ ?_
  · simp only [go_sem]
    exact ⟨Nat.zero_le _, _, _, _, rfl⟩
  rintro i ρ m ⟨e20, g1, g2, h, nx, lv, rfl⟩ Q hN hR hX
  by_cases hlt : i < ks.length
  · obtain ⟨x, hx⟩ : ∃ x, ks[i]? = some x := ⟨_, List.getElem?_eq_getElem hlt⟩
    have hxp : (ks.map fun x => DV.int .i64 x)[i]? = some (.int .i64 x) := by rw [List.getElem?_map, hx]; rfl
    have hlt' : ((i : Int) < (ks.length : Int)) = True := by simp; omega
    have h0 : ((0 : Int) ≤ (i : Int)) = True := by simp
    have ew : IntKind.i64.wrap ((i : Int) + 1) = (i : Int) + 1 := i64_in (by omega) (by omega)
    have ew2 : IntKind.i64.wrap ((L.length : Int) - 1) = (L.length : Int) - 1 := i64_in (by omega) (by omega)
    simp only [go_sem, e20, hlt', h0, hxp, hx, Option.map_some, ew2]
    refine callV (f82 _ _ _) ?_
    intro nx2 lv2
    cases w : within x 0 ((L.length : Int) - 1) with
    | true =>
      simp only [go_sem, w, hN, ew]
      refine ⟨by kernel_rfl, i + 1, ?_, by simp only; omega⟩
      simp only [go_sem]
      refine ⟨by simp, by omega, ?_, _, _, _, rfl⟩
      rw [List.take_add_one, hx]
      simpa [okR, w] using g2
    | false =>
      have : ks.all (okR L) = false := by
        rw [List.all_eq_false]
        exact ⟨x, List.mem_of_getElem? hx, by simp [okR, w]⟩
      simp only [go_sem, w, hR, this]
      try simp
  · have hlt' : ((i : Int) < (ks.length : Int)) = False := by simp; omega
    rw [List.take_of_length_le (by omega)] at g2
    simp only [go_sem, e20, hlt', hX, g2]
    try simp

theorem someE_one {L : List Rt} {e k : Int} : someE L e [k] = if e ≠ 0 then e else if okR L k = true then 0 else 3 := by simp [someE]
theorem someL_one {L : List Rt} {e k : Int} : someL L e [k] = if e ≠ 0 then [] else if okR L k = true then L else [] := by simp [someL]
theorem okR_get {L : List Rt} {k : Int} (h : okR L k = true) : 0 ≤ k ∧ k < L.length ∧ ∃ r, L[k.toNat]? = some r := by
  have : 0 ≤ k ∧ k ≤ L.length - 1 := by simpa [okR, within] using h
  exact ⟨this.1, by omega, _, List.getElem?_eq_getElem (by omega)⟩
def rtAt (L : List Rt) (k : Int) : Rt := (L[k.toNat]?).getD ⟨0, 0, []⟩

set_option maxHeartbeats 4000000 in
set_option maxRecDepth 20000 in
theorem f21 (n : Net) (hb : NetB n) (k : Int) : PCall Tryz.prog 21 [eNet n, .int .i64 k] (RV (.tup [.sl 4 ((if someE (netRts n) (netRE n) [k] = 0 then needsR n (rtAt (netRts n) k) else []).map dNd) .no, .int .i64 (someE (netRts n) (netRE n) [k])])) := by
  refine PCall.of_bodyE Tryz.func21 rfl Tryz.ntmps21 (congrArg Array.toList Tryz.results21) ?_
  intro E
  have h84 := f56 n hb [k] (by simp)
  have hok := netRts_ok n
  have hz := @netRE_zero n
  generalize netRts n = L at *
  generalize netRE n = e at *
  unfold rtV at h84
  simp only [go_sem, eNet, nCells]
  simp only [List.map_cons, List.map_nil] at h84
  refine callV h84 ?_
  intro nx lv
  by_cases q : someE L e [k] = 0
  rotate_left
  · have q' : (someE L e [k] = 0) = False := eq_false q
    simp only [go_sem, q', if_false]
    try simp
  have q' : (someE L e [k] = 0) = True := eq_true q
  have qe : e = 0 := by
    rw [someE_one] at q
    split at q
    · rename_i h; exact absurd q h
    · rename_i h; simpa using h
  have qo : okR L k = true := by
    rw [someE_one, if_neg (by simpa using qe)] at q
    split at q
    · assumption
    · omega
  have hL : someL L e [k] = L := by rw [someL_one, if_neg (by simpa using qe), if_pos qo]
  obtain ⟨k0, k1, r, hr⟩ := okR_get qo
  have hrt : rtAt L k = r := by simp [rtAt, hr]
  have hrp : (L.map dRt)[k.toNat]? = some (dRt r) := by rw [List.getElem?_map, hr]; rfl
  have i0 : ((0 : Int) ≤ k) = True := eq_true k0
  have i1 : (k < (L.length : Int)) = True := eq_true k1
  rw [hL, hrt]
  simp only [go_sem, q', if_true]
  refine drawn (by kernel_rfl) (by kernel_rfl) ?_
  simp only [go_sem, i0, i1, hr, hrp, Option.map_some, dRt]
  have h90 := f57 n hb (hz qe) r (hok r (List.mem_of_getElem? hr))
  unfold eRt0 at h90
  refine quietD h90 (fun _ => rfl) ?_
  simp only [go_sem, kDraw_eq]
  intro _ _ _ _
  exact q.symm

end Go.Proofs.YteadhjclchjfjaaGreat

/- Needs that meet: the program's and the reference's. -/
namespace Go.Proofs.YteadhjclchjfjaaGreat
set_option linter.unusedSimpArgs false
set_option linter.unusedVariables false
open Go.AB

def bodyN (x : Nd) : Bool := decide (x.k = 1) || decide (x.k = 2)
def flankN (x y : Nd) : Bool := decide (x.k = 3) && (decide (y.k = 3) || bodyN y) && !decide (x.o = y.o)
def guardN (x y : Nd) : Bool := decide (x.k = 4) && decide (y.k = 5)
def meets (a b : Nd) : Bool := decide (a.p = b.p) && (bodyN a && bodyN b || flankN a b || flankN b a || guardN a b || guardN b a)

theorem f132 (x : Nd) : PCall Tryz.prog 132 [eNd x] (RV (.bool (bodyN x))) := by
  refine PCall.of_body Tryz.func132 rfl Tryz.ntmps132 (congrArg Array.toList Tryz.results132) ?_
  intro E
  simp only [go_sem, eNd]
  unfold bodyN
  simp +contextual
theorem f134 (x y : Nd) : PCall Tryz.prog 134 [eNd x, eNd y] (RV (.bool (guardN x y))) := by
  refine PCall.of_body Tryz.func134 rfl Tryz.ntmps134 (congrArg Array.toList Tryz.results134) ?_
  intro E
  simp only [go_sem, eNd]
  unfold guardN
  simp +contextual

theorem f133 (x y : Nd) : PCall Tryz.prog 133 [eNd x, eNd y, .ept [.raw (.func (.func 132) #[] #[])]] (RV (.bool (flankN x y))) := by
  refine PCall.of_body Tryz.func133 rfl Tryz.ntmps133 (congrArg Array.toList Tryz.results133) ?_
  intro E
  simp only [go_sem, eNd]
  refine ⟨fun h3 => ⟨fun h3' => ?_, fun h3' => callV (f132 y) ?_⟩, fun h3 => ?_⟩
  · simp [flankN, h3, h3']
  · intro nx lv
    simp only [go_sem]
    simp +contextual [flankN, h3, h3']
  · simp [flankN, h3]

set_option maxHeartbeats 4000000 in
set_option maxRecDepth 20000 in
theorem f118 (x y : Nd) : PCall Tryz.prog 118 [eNd x, eNd y] (RV (.bool (meets x y))) := by
  refine PCall.of_body Tryz.func118 rfl Tryz.ntmps118 (congrArg Array.toList Tryz.results118) ?_
  intro E
  simp only [go_sem, eNd]
  refine ⟨fun h0 => ?_, fun h0 => callV (f132 x) ?_⟩
  · simp [meets, h0]
  intro nx lv
  simp only [go_sem]
  repeat' first
    | refine ⟨fun _ => ?_, fun _ => ?_⟩
    | (refine callV (f132 y) ?_; intro nx2 lv2; simp only [go_sem])
    | (refine .inl (quiet (f133 x y) rfl ?_); simp only [go_sem])
    | (refine .inl (quiet (f133 y x) rfl ?_); simp only [go_sem])
    | (refine callV (f134 x y) ?_; intro nx2 lv2; simp only [go_sem])
    | (refine callV (f134 y x) ?_; intro nx2 lv2; simp only [go_sem])
  all_goals (unfold meets; simp only [*, decide_true, Bool.true_and, Bool.and_true, Bool.and_false, Bool.false_and, Bool.or_true, Bool.true_or, Bool.or_false, Bool.false_or])

theorem meets_comm (x y : Nd) : meets y x = meets x y := by
  have h1 : decide (y.p = x.p) = decide (x.p = y.p) := by simp [eq_comm]
  unfold meets
  rw [h1, Bool.and_comm (bodyN y) (bodyN x), Bool.or_assoc, Bool.or_assoc, Bool.or_assoc, Bool.or_assoc, Bool.or_assoc, Bool.or_assoc]
  cases decide (x.p = y.p) <;> cases (bodyN x && bodyN y) <;> cases flankN x y <;> cases flankN y x <;> cases guardN x y <;> cases guardN y x <;> rfl


set_option maxHeartbeats 4000000 in
set_option maxRecDepth 20000 in
set_option maxHeartbeats 4000000 in
theorem f127 (x y : Nd) : PCall Tryz.prog 127 [eNd x, eNd y] (RV (.bool (meets x y))) := by
  refine PCall.of_body Tryz.func127 rfl Tryz.ntmps127 (congrArg Array.toList Tryz.results127) ?_
  intro E
  simp (config := {maxSteps := 2000000}) only [go_sem, eNd]
  unfold meets flankN guardN bodyN
  repeat' first
    | refine And.intro ?_ ?_
    | intro _
  all_goals grind

end Go.Proofs.YteadhjclchjfjaaGreat

/- Lists of needs that meet. -/
namespace Go.Proofs.YteadhjclchjfjaaGreat
set_option linter.unusedSimpArgs false
set_option linter.unusedVariables false
open Go.AB

/-- The place of the first need of which a test is so. -/
def idxQ (q : Nd → Bool) : List Nd → Int → Int
  | [], _ => -1
  | x :: l, i => if q x = true then i else idxQ q l (i + 1)
theorem idxQ_iff {q : Nd → Bool} : ∀ {l : List Nd} {i : Int}, 0 ≤ i → (0 ≤ idxQ q l i ↔ l.any q = true)
  | [], i, _ => by simp [idxQ]
  | x :: l, i, h => by
    have ih := idxQ_iff (q := q) (l := l) (i := i + 1) (by omega)
    simp only [idxQ, List.any_cons] at ih ⊢
    cases hx : q x with
    | true => simp [h]
    | false => simpa using ih

set_option maxRecDepth 20000 in
theorem f131g (p : List Nd) (hl : p.length ≤ 100000) (k : Nat) (cs : List DV) (q : Nd → Bool) (hb : bodyOk Tryz.prog k = true) (hq : ∀ x, PCall Tryz.prog k [eNd x, .ept cs] (RV (.bool (q x)))) :
    PCall Tryz.prog 131 [.sl 4 (p.map dNd) .no, .fn k [.ept cs]] (RV (.int .i64 (idxQ q p 0))) := by
  refine PCall.of_body Tryz.func131 rfl Tryz.ntmps131 (congrArg Array.toList Tryz.results131) ?_
  intro E
  simp only [go_sem]
  refine AW_loopH [4, 5, 8, 9, 10, 11, 12, 13, 14, 15, 16, 17, 18]
    (fun (i : Nat) ρ m => ρ 8 = .int .i64 (i : Int) ∧ i ≤ p.length ∧ idxQ q (p.drop i) i = idxQ q p 0 ∧ ∃ h nx lv, m = ⟨h, [], nx, lv⟩) (fun i => p.length - i) 0 ?_ ?_
  · simp [go_sem]
  rintro i ρ m ⟨e1, g1, g2, h, nx, lv, rfl⟩ Q hN hR hX
  by_cases hlt : i < p.length
  · obtain ⟨x, hx⟩ : ∃ x, p[i]? = some x := ⟨_, List.getElem?_eq_getElem hlt⟩
    have hxp : (p.map dNd)[i]? = some (dNd x) := by rw [List.getElem?_map, hx]; rfl
    have hlt' : ((i : Int) < (p.length : Int)) = True := by simp; omega
    have h0 : ((0 : Int) ≤ (i : Int)) = True := by simp
    have ew : IntKind.i64.wrap ((i : Int) + 1) = (i : Int) + 1 := i64_in (by omega) (by omega)
    have hd : p.drop i = x :: p.drop (i + 1) := by
      rw [List.drop_eq_getElem_cons hlt]
      rw [List.getElem?_eq_getElem hlt] at hx
      cases hx; rfl
    rw [hd] at g2
    simp only [idxQ] at g2
    simp only [go_sem, e1, hlt', h0, hxp, dNd, hb]
    refine callV (hq x) ?_
    intro nx2 lv2
    cases w : q x with
    | true =>
      rw [if_pos w] at g2
      simp only [go_sem, w, hR]
      exact g2
    | false =>
      rw [if_neg (by simp [w])] at g2
      simp only [go_sem, w, hN, ew]
      refine ⟨by kernel_rfl, i + 1, ?_, by simp only; omega⟩
      simp only [go_sem]
      exact ⟨by simp, by omega, by rw [← g2]; rfl, _, _, _, rfl⟩
  · have hlt' : ((i : Int) < (p.length : Int)) = False := by simp; omega
    rw [List.drop_eq_nil_of_le (by omega)] at g2
    simp only [idxQ] at g2
    simp only [go_sem, e1, hlt', hX]
    exact g2

theorem f115g (p : List Nd) (hl : p.length ≤ 100000) (k : Nat) (cs : List DV) (q : Nd → Bool) (hb : bodyOk Tryz.prog k = true) (hq : ∀ x, PCall Tryz.prog k [eNd x, .ept cs] (RV (.bool (q x)))) :
    PCall Tryz.prog 115 [.sl 4 (p.map dNd) .no, .fn k [.ept cs]] (RV (.bool (p.any q))) := by
  refine PCall.of_body Tryz.func115 rfl Tryz.ntmps115 (congrArg Array.toList Tryz.results115) ?_
  intro E
  simp only [go_sem]
  refine callV (f131g p hl k cs q hb hq) ?_
  intro nx lv
  have := idxQ_iff (q := q) (l := p) (i := 0) (Int.le_refl 0)
  simp only [go_sem]
  cases hh : p.any q <;> simp [hh] at this ⊢ <;> omega

def anyM (a b : List Nd) : Bool := a.any fun x => b.any fun y => meets x y

theorem f117 (x y : Nd) : PCall Tryz.prog 117 [eNd y, .ept [.int .i64 x.k, .int .i64 x.p, .int .i64 x.o, .int .i64 x.a]] (RV (.bool (meets x y))) := by
  refine PCall.of_body Tryz.func117 rfl Tryz.ntmps117 (congrArg Array.toList Tryz.results117) ?_
  intro E
  simp only [go_sem, eNd]
  refine callV (f118 x y) ?_
  intro nx lv
  simp only [go_sem]
theorem f116 (b : List Nd) (hb : b.length ≤ 100000) (x : Nd) : PCall Tryz.prog 116 [eNd x, .ept [.sl 4 (b.map dNd)]] (RV (.bool (b.any fun y => meets x y))) := by
  refine PCall.of_body Tryz.func116 rfl Tryz.ntmps116 (congrArg Array.toList Tryz.results116) ?_
  intro E
  simp only [go_sem, eNd]
  refine .inl (quiet (f115g b hb 117 _ (fun y => meets x y) bodyOk_117 (fun y => f117 x y)) rfl ?_)
  simp only [go_sem]
theorem f90 (a b : List Nd) (ha : a.length ≤ 100000) (hb : b.length ≤ 100000) : PCall Tryz.prog 90 [.sl 4 (a.map dNd) .no, .sl 4 (b.map dNd) .no] (RV (.bool (anyM a b))) := by
  refine PCall.of_body Tryz.func90 rfl Tryz.ntmps90 (congrArg Array.toList Tryz.results90) ?_
  intro E
  simp only [go_sem]
  refine .inl (quiet (f115g a ha 116 _ (fun x => b.any fun y => meets x y) bodyOk_116 (fun x => f116 b hb x)) rfl ?_)
  simp only [go_sem, anyM]

set_option maxHeartbeats 4000000 in
set_option maxRecDepth 20000 in
theorem f102 (a b : List Nd) (ha : a.length ≤ 100000) (hb : b.length ≤ 100000) : PCall Tryz.prog 102 [.sl 4 (a.map dNd) .no, .sl 4 (b.map dNd) .no] (RV (.bool (anyM a b))) := by
  refine PCall.of_body Tryz.func102 rfl Tryz.ntmps102 (congrArg Array.toList Tryz.results102) ?_
  intro E
  simp only [go_sem]
  refine AW_loopH [4, 6, 8, 11, 12, 13, 14, 15, 16, 17, 18, 19, 20, 21, 22, 23, 24, 25]
    (fun (i : Nat) ρ m => ρ 11 = .int .i64 (i : Int) ∧ i ≤ a.length ∧ anyM (a.drop i) b = anyM a b ∧ ∃ h nx lv, m = ⟨h, [], nx, lv⟩) (fun i => a.length - i) 0 ?_ ?_
  · simp only [go_sem]
    first | exact ⟨Nat.zero_le _, _, _, _, rfl⟩ | exact ⟨Nat.zero_le _, rfl, _, _, _, rfl⟩
  rintro i ρ m ⟨e11, g1, g2, h, nx, lv, rfl⟩ Q hN hR hX
  by_cases hlt : i < a.length
  · obtain ⟨x, hx⟩ : ∃ x, a[i]? = some x := ⟨_, List.getElem?_eq_getElem hlt⟩
    have hxp : (a.map dNd)[i]? = some (dNd x) := by rw [List.getElem?_map, hx]; rfl
    have hlt' : ((i : Int) < (a.length : Int)) = True := by simp; omega
    have h0 : ((0 : Int) ≤ (i : Int)) = True := by simp
    have ew : IntKind.i64.wrap ((i : Int) + 1) = (i : Int) + 1 := i64_in (by omega) (by omega)
    have hd : a.drop i = x :: a.drop (i + 1) := by
      rw [List.drop_eq_getElem_cons hlt]
      rw [List.getElem?_eq_getElem hlt] at hx
      cases hx; rfl
    rw [hd] at g2
    simp only [anyM, List.any_cons] at g2
    obtain ⟨g6, hg6⟩ : ∃ g6, genO (AB.hget h 6) = g6 := ⟨_, rfl⟩
    simp only [go_sem, e11, hlt', h0, hx, hxp, Option.map_some, dNd, hg6]
    refine AW_loopH [4, 8, 17, 18, 19, 20, 21, 22, 23, 24]
      (fun (j : Nat) ρ m => ρ 17 = .int .i64 (j : Int) ∧ j ≤ b.length ∧ ((b.drop j).any fun y => meets x y) = (b.any fun y => meets x y) ∧ ∃ h nx lv, m = ⟨h, [], nx, lv⟩ ∧ AB.hget h 6 = some (g6, [.int .i64 x.k, .int .i64 x.p, .int .i64 x.o, .int .i64 x.a])) (fun j => b.length - j) 0 ?_ ?_
    · simp only [go_sem]
      first | exact ⟨Nat.zero_le _, _, _, _, rfl, by simp [go_sem]⟩ | exact ⟨Nat.zero_le _, rfl, _, _, _, rfl, by simp [go_sem]⟩
    rintro j ρ2 m ⟨e17, k1, k2, h2, nx2, lv2, rfl, b6⟩ Q2 hN2 hR2 hX2
    by_cases hlt2 : j < b.length
    · obtain ⟨y, hy⟩ : ∃ y, b[j]? = some y := ⟨_, List.getElem?_eq_getElem hlt2⟩
      have hyp : (b.map dNd)[j]? = some (dNd y) := by rw [List.getElem?_map, hy]; rfl
      have hlt3 : ((j : Int) < (b.length : Int)) = True := by simp; omega
      have h02 : ((0 : Int) ≤ (j : Int)) = True := by simp
      have ew2 : IntKind.i64.wrap ((j : Int) + 1) = (j : Int) + 1 := i64_in (by omega) (by omega)
      have hd2 : b.drop j = y :: b.drop (j + 1) := by
        rw [List.drop_eq_getElem_cons hlt2]
        rw [List.getElem?_eq_getElem hlt2] at hy
        cases hy; rfl
      rw [hd2, List.any_cons] at k2
      obtain ⟨g8, hg8⟩ : ∃ g8, genO (AB.hget h2 8) = g8 := ⟨_, rfl⟩
      simp only [go_sem, e17, hlt3, h02, hy, hyp, Option.map_some, dNd, hg8, b6]
      refine callV (f127 x y) ?_
      intro nx3 lv3
      cases w : meets x y with
      | true =>
        rw [w, Bool.true_or] at k2
        rw [← k2, Bool.true_or] at g2
        simp only [go_sem, w, hR2, hR]
        unfold anyM
        rw [← g2]
      | false =>
        rw [w, Bool.false_or] at k2
        simp only [go_sem, w, hN2, ew2]
        refine ⟨by kernel_rfl, j + 1, ?_, by simp only; omega⟩
        simp only [go_sem]
        exact ⟨by simp, by omega, k2, _, _, _, rfl, by simp [go_sem, b6]⟩
    · have hlt3 : ((j : Int) < (b.length : Int)) = False := by simp; omega
      rw [List.drop_eq_nil_of_le (by omega), List.any_nil] at k2
      rw [← k2, Bool.false_or] at g2
      simp only [go_sem, e17, hlt3, hX2, hN, ew]
      refine ⟨by kernel_rfl, i + 1, ?_, by simp only; omega⟩
      simp only [go_sem]
      exact ⟨by simp, by omega, g2, _, _, _, rfl⟩
  · have hlt' : ((i : Int) < (a.length : Int)) = False := by simp; omega
    rw [List.drop_eq_nil_of_le (by omega)] at g2
    simp only [go_sem, e11, hlt', hX]
    rw [← g2]
    rfl
end Go.Proofs.YteadhjclchjfjaaGreat

/- Tables: the program's. -/
namespace Go.Proofs.YteadhjclchjfjaaGreat
set_option linter.unusedSimpArgs false
set_option linter.unusedVariables false
open Go.AB

structure TRow where
  nd : List Nd
  cl : List Int
end Go.Proofs.YteadhjclchjfjaaGreat

/- Equal lists of numbers and of needs. -/
namespace Go.Proofs.YteadhjclchjfjaaGreat
set_option linter.unusedSimpArgs false
set_option linter.unusedVariables false
open Go.AB

set_option maxHeartbeats 4000000 in
set_option maxRecDepth 20000 in
theorem f11g (a b : List Int) (ha : a.length ≤ 140737488351232) (hb : b.length ≤ 140737488351232) : PCall Tryz.prog 11 [.sl 1 (a.map fun x => DV.int .i64 x) .no, .sl 1 (b.map fun x => DV.int .i64 x) .no] (RV (.bool (decide (a = b)))) := by
  refine PCall.of_body Tryz.func11 rfl Tryz.ntmps11 (congrArg Array.toList Tryz.results11) ?_
  intro E
  by_cases hab : a.length = b.length
  rotate_left
  · have h1 : ((a.length : Int) = (b.length : Int)) = False := eq_false (by omega)
    have h2 : ¬ a = b := fun e => hab (by rw [e])
    simp only [go_sem, h1]
    simp [h2]
  have h1 : ((a.length : Int) = (b.length : Int)) = True := eq_true (by omega)
  simp only [go_sem, h1]
  refine AW_loopH [4, 5, 13, 14, 15, 16, 17, 18, 19, 20, 21, 22, 23, 24, 25]
    (fun (i : Nat) ρ m => ρ 13 = .int .i64 (i : Int) ∧ i ≤ a.length ∧ a.take i = b.take i ∧ ∃ h nx lv, m = ⟨h, [], nx, lv⟩) (fun i => a.length - i) 0 ?_ ?_
  · simp only [go_sem]
    first | exact ⟨Nat.zero_le _, _, _, _, rfl⟩ | exact ⟨Nat.zero_le _, rfl, _, _, _, rfl⟩
  rintro i ρ m ⟨e13, g1, g2, h, nx, lv, rfl⟩ Q hN hR hX
  by_cases hlt : i < a.length
  · obtain ⟨x, hx⟩ : ∃ x, a[i]? = some x := ⟨_, List.getElem?_eq_getElem hlt⟩
    obtain ⟨y, hy⟩ : ∃ y, b[i]? = some y := ⟨_, List.getElem?_eq_getElem (by omega)⟩
    have hxp : (a.map fun x => DV.int .i64 x)[i]? = some (.int .i64 x) := by rw [List.getElem?_map, hx]; rfl
    have hyp : (b.map fun x => DV.int .i64 x)[i]? = some (.int .i64 y) := by rw [List.getElem?_map, hy]; rfl
    have hlt' : ((i : Int) < (a.length : Int)) = True := by simp; omega
    have hlt2 : ((i : Int) < (b.length : Int)) = True := by simp; omega
    have h0 : ((0 : Int) ≤ (i : Int)) = True := by simp
    have ew : IntKind.i64.wrap ((i : Int) + 1) = (i : Int) + 1 := i64_in (by omega) (by omega)
    have t1 : a.take (i + 1) = a.take i ++ [x] := by rw [List.take_add_one, hx]; rfl
    have t2 : b.take (i + 1) = b.take i ++ [y] := by rw [List.take_add_one, hy]; rfl
    simp only [go_sem, e13, hlt', h0, hxp, hx, Option.map_some]
    refine drawn (by kernel_rfl) (by kernel_rfl) ?_
    simp only [go_sem, e13, hlt', hlt2, h0, hxp, hx, hyp, hy, Option.map_some, kDraw_eq]
    intro nx2 lv2 _ _
    refine ⟨fun hq => ?_, fun hq => ?_⟩
    · have hne : ¬ x = y := by simpa using hq
      have : ¬ a = b := by
        rintro rfl
        rw [hx] at hy
        cases hy
        exact hne rfl
      rw [hR]
      simp only [go_sem]
      simp [this]
    · have he : x = y := by simpa using hq
      rw [hN]
      simp only [go_sem, ew]
      refine ⟨by kernel_rfl, i + 1, ?_, by simp only; omega⟩
      simp only [go_sem]
      exact ⟨by simp, by omega, by rw [t1, t2, g2, he], _, _, _, rfl⟩
  · have hlt' : ((i : Int) < (a.length : Int)) = False := by simp; omega
    rw [List.take_of_length_le (by omega), List.take_of_length_le (by omega)] at g2
    simp only [go_sem, e13, hlt', hX]
    simp [g2]

end Go.Proofs.YteadhjclchjfjaaGreat

/- Tables: the reference's, comparing rows and tables. -/
namespace Go.Proofs.YteadhjclchjfjaaGreat
set_option linter.unusedSimpArgs false
set_option linter.unusedVariables false
open Go.AB

def dNds (l : List Nd) : DV := .sl 4 (l.map dNd)

end Go.Proofs.YteadhjclchjfjaaGreat
