/- Runs of legs: when a train asks. -/
import Derived.Test.YteadhjclchjfjaaGreatR110
namespace Go.Proofs.YteadhjclchjfjaaGreat
set_option linter.unusedSimpArgs false
set_option linter.unusedVariables false
open Go.AB

theorem f63 (s : Stock) (v t : Int) (h1 : 0 ≤ v) (h2 : v ≤ 6000) (h3 : 0 ≤ t) (h4 : t ≤ 6000) (h5 : 60 ≤ s.brake) (h6 : s.brake ≤ 150) : PCall Tryz.prog 63 [eStock s, .int .i64 v, .int .i64 t] (RV (.int .i64 (into (s.brake - 40) t v))) := by
  refine PCall.of_body Tryz.func63 rfl Tryz.ntmps63 (congrArg Array.toList Tryz.results63) ?_
  intro E
  simp only [go_sem, eStock]
  have hb := into_bd (s.brake - 40) t v h3 (by omega) h2
  refine AW_loopS [1, 7, 8, 9, 10, 11, 12, 13, 14, 15, 16, 17, 18, 19, 20, 21, 22, 23, 24] (fun (x : Int × Int) ρ m => ρ 1 = .int .i64 x.1 ∧ ρ 7 = .int .i64 x.2 ∧ (∃ nx lv, m = ⟨[(3, 0, [.str s.name, .int .i64 s.len, .int .i64 s.mass, .int .i64 s.start, .int .i64 s.power, .int .i64 s.roll, .int .i64 s.drag, .int .i64 s.brake, .int .i64 s.top, .int .i64 s.seats])], [], nx, lv⟩) ∧ 0 ≤ x.1 ∧ x.1 ≤ 6000 ∧ 0 ≤ x.2 ∧ x.2 + into (s.brake - 40) t x.1 = into (s.brake - 40) t v) (fun x => x.1.toNat) (v, 0) ?_ ?_
  · simp only [go_sem]
    refine ⟨⟨_, _, rfl⟩, ?_⟩
    omega
  · rintro ⟨u, n⟩ ρ m ⟨e1, e7, ⟨nx, lv, rfl⟩, g1, g2, g3, g4⟩
    dsimp only at e1 e7 g1 g2 g3 g4
    have hd := into_bd (s.brake - 40) t u h3 (by omega) g2
    simp (disch := omega) only [go_sem, e1, e7, i64_in]
    refine ⟨fun hlt => ?_, fun hge => ?_⟩
    · have ei := into_step hlt (d := s.brake - 40) (by omega)
      have hd2 := into_bd (s.brake - 40) t (max t (u - (s.brake - 40))) h3 (by omega) (by omega)
      refine callV (gone100 u (max t (u - (s.brake - 40))) (by omega) (by omega) (by omega) (by omega)) ?_
      intro nx2 lv2
      have hg : 0 ≤ goneF u (max t (u - (s.brake - 40))) := by unfold goneF; omega
      generalize goneF u (max t (u - (s.brake - 40))) = gg at *
      simp (disch := omega) only [go_sem, i64_in]
      refine ⟨by kernel_rfl, (max t (u - (s.brake - 40)), n + gg), ?_, ?_⟩
      · simp only [go_sem]
        exact ⟨⟨_, _, rfl⟩, by omega⟩
      · simp only; omega
    · have ei := into_end hge (d := s.brake - 40)
      omega

def askS (s : Stock) : Int := into (s.brake - 40) 0 s.top + s.top * 16
theorem askS_bd {s : Stock} (hc : checkS s = 0) : 8000 ≤ askS s ∧ askS s ≤ 40000000 := by
  have := checkS_ok hc
  have := into_bd (s.brake - 40) 0 s.top (Int.le_refl 0) (by omega) (by omega)
  unfold askS
  omega
theorem f25 (s : Stock) (hc : checkS s = 0) : PCall Tryz.prog 25 [eStock s] (RV (.int .i64 (askS s))) := by
  refine PCall.of_body Tryz.func25 rfl Tryz.ntmps25 (congrArg Array.toList Tryz.results25) ?_
  intro E
  have hk := checkS_ok hc
  have hb := into_bd (s.brake - 40) 0 s.top (Int.le_refl 0) (by omega) (by omega)
  have h63 := f63 s s.top 0 (by omega) (by omega) (by omega) (by omega) (by omega) (by omega)
  unfold eStock at h63
  have e1 : IntKind.i64.wrap (s.top * 16) = s.top * 16 := i64_in (by omega) (by omega)
  have e2 : IntKind.i64.wrap (into (s.brake - 40) 0 s.top + s.top * 16) = into (s.brake - 40) 0 s.top + s.top * 16 := i64_in (by omega) (by omega)
  simp only [go_sem, eStock]
  refine drawn (by kernel_rfl) (by kernel_rfl) ?_
  simp only [go_sem]
  refine quietD h63 (fun _ => rfl) ?_
  simp only [go_sem, e1, e2, kDraw_eq, askS]
  try exact fun _ _ _ _ => rfl
theorem f36 (s : Stock) (hc : checkS s = 0) : PCall Tryz.prog 36 [eStock s] (RV (.int .i64 (askS s))) := by
  refine PCall.of_body Tryz.func36 rfl Tryz.ntmps36 (congrArg Array.toList Tryz.results36) ?_
  intro E
  have hk := checkS_ok hc
  have hb := into_bd (s.brake - 40) 0 s.top (Int.le_refl 0) (by omega) (by omega)
  have h76 := f76 s s.top (by omega) (by omega) (by omega) (by omega)
  unfold eStock at h76
  have e1 : IntKind.i64.wrap (s.top * 16) = s.top * 16 := i64_in (by omega) (by omega)
  have e2 : IntKind.i64.wrap (into (s.brake - 40) 0 s.top + s.top * 16) = into (s.brake - 40) 0 s.top + s.top * 16 := i64_in (by omega) (by omega)
  simp only [go_sem, eStock]
  refine drawn (by kernel_rfl) (by kernel_rfl) ?_
  simp only [go_sem]
  refine quietD h76 (fun _ => rfl) ?_
  simp only [go_sem, e1, e2, kDraw_eq, askS]
  try exact fun _ _ _ _ => rfl

/-- The place of the first state that is so. -/
def idxS (q : Sta → Bool) : List Sta → Int → Int
  | [], _ => -1
  | x :: l, i => if q x = true then i else idxS q l (i + 1)
theorem f61 (p : List Sta) (hl : p.length ≤ 100000) (k : Nat) (c1 c2 : List DV) (q : Sta → Bool) (hb : bodyOk Tryz.prog k = true) (hq : ∀ x ∈ p, PCall Tryz.prog k [eSta x, .ept c1, .ept c2] (RV (.bool (q x)))) :
    PCall Tryz.prog 61 [.sl 3 (p.map dSta) .no, .fn k [.ept c1, .ept c2]] (RV (.int .i64 (idxS q p 0))) := by
  refine PCall.of_body Tryz.func61 rfl Tryz.ntmps61 (congrArg Array.toList Tryz.results61) ?_
  intro E
  simp only [go_sem]
  refine AW_loopH [4, 5, 8, 9, 10, 11, 12, 13, 14, 15, 16, 17, 18]
    (fun (i : Nat) ρ m => ρ 8 = .int .i64 (i : Int) ∧ i ≤ p.length ∧ idxS q (p.drop i) i = idxS q p 0 ∧ ∃ h nx lv, m = ⟨h, [], nx, lv⟩) (fun i => p.length - i) 0 ?_ ?_
  · simp [go_sem]
  rintro i ρ m ⟨e1, g1, g2, h, nx, lv, rfl⟩ Q hN hR hX
  by_cases hlt : i < p.length
  · obtain ⟨x, hx⟩ : ∃ x, p[i]? = some x := ⟨_, List.getElem?_eq_getElem hlt⟩
    have hxp : (p.map dSta)[i]? = some (dSta x) := by rw [List.getElem?_map, hx]; rfl
    have hlt' : ((i : Int) < (p.length : Int)) = True := by simp; omega
    have h0 : ((0 : Int) ≤ (i : Int)) = True := by simp
    have ew : IntKind.i64.wrap ((i : Int) + 1) = (i : Int) + 1 := i64_in (by omega) (by omega)
    have hd : p.drop i = x :: p.drop (i + 1) := by
      rw [List.drop_eq_getElem_cons hlt]
      rw [List.getElem?_eq_getElem hlt] at hx
      cases hx; rfl
    rw [hd] at g2
    simp only [idxS] at g2
    simp only [go_sem, e1, hlt', h0, hx, hxp, Option.map_some, dSta, hb]
    refine callV (hq x (List.mem_of_getElem? hx)) ?_
    intro nx2 lv2
    cases w : q x with
    | true =>
      rw [if_pos w] at g2
      simp only [go_sem, w, hR]
      exact g2
    | false =>
      rw [if_neg (by simp [w])] at g2
      simp only [go_sem, w, hN, ew]
      refine ⟨by kernel_rfl, i + 1, ?_, by simp only; omega⟩
      simp only [go_sem]
      exact ⟨by simp, by omega, by rw [← g2]; rfl, _, _, _, rfl⟩
  · have hlt' : ((i : Int) < (p.length : Int)) = False := by simp; omega
    rw [List.drop_eq_nil_of_le (by omega)] at g2
    simp only [idxS] at g2
    simp only [go_sem, e1, hlt', hX]
    exact g2

end Go.Proofs.YteadhjclchjfjaaGreat
