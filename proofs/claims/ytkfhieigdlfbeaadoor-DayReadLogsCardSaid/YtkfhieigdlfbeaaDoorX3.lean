/- DayReadLogs: reading with a function. -/
import Derived.Test.YtkfhieigdlfbeaaDoorX2
namespace Go.Proofs.YtkfhieigdlfbeaaDoor
open Go.AB
set_option linter.unusedSimpArgs false
set_option linter.unusedVariables false

/-- The entries of lines, up to the first that is none. -/
def entsF : List (List (List UInt8)) → List Ent
  | [] => []
  | ws :: r => match entW ws with
    | some e => e :: entsF r
    | none => []
def entsB (ls : List (List (List UInt8))) : Bool := ls.all fun ws => (entW ws).isSome

theorem entsF_take : ∀ (ls : List (List (List UInt8))) (x : Nat), entsB (ls.take x) = true → (entsF (ls.take x)).length = (ls.take x).length
  | [], x, _ => by simp [entsF]
  | ws :: r, 0, _ => by simp [entsF]
  | ws :: r, x + 1, h => by
    simp only [List.take_succ_cons, entsB, List.all_cons, Bool.and_eq_true] at h ⊢
    obtain ⟨e, he⟩ := Option.isSome_iff_exists.1 h.1
    have := entsF_take r x h.2
    simp [entsF, he, this]
theorem entsF_snoc : ∀ (ls : List (List (List UInt8))) (ws : List (List UInt8)) (e : Ent), entsB ls = true → entW ws = some e → entsF (ls ++ [ws]) = entsF ls ++ [e]
  | [], ws, e, _, he => by simp [entsF, he]
  | w :: r, ws, e, h, he => by
    simp only [entsB, List.all_cons, Bool.and_eq_true] at h
    obtain ⟨e', he'⟩ := Option.isSome_iff_exists.1 h.1
    have := entsF_snoc r ws e h.2 he
    simp [entsF, he', this]
theorem entsB_snoc {ls : List (List (List UInt8))} {ws : List (List UInt8)} (h : entsB ls = true) (he : (entW ws).isSome = true) : entsB (ls ++ [ws]) = true := by
  simp only [entsB, List.all_append, List.all_cons, List.all_nil, Bool.and_true, Bool.and_eq_true]
  exact ⟨h, he⟩
theorem entsB_bad {ls : List (List (List UInt8))} {x : Nat} {ws : List (List UInt8)} (hx : ls[x]? = some ws) (he : entW ws = none) : entsB ls = false := by
  refine List.all_eq_false.2 ⟨ws, List.mem_of_getElem? hx, by simp [he]⟩

theorem linesF_by {t : List UInt8} (ht : t.length ≤ 2000000) : (linesF t).length ≤ 2000001 ∧ ∀ ws ∈ linesF t, ws.length ≤ 2000001 ∧ ∀ w ∈ ws, w.length ≤ 2000000 := by
  unfold linesF
  split
  · simp
  · have h1 := trim_le t
    have h2 := splitC_length 10 (Lib.trimSuffix t [10])
    refine ⟨by rw [List.length_map]; omega, fun ws hws => ?_⟩
    obtain ⟨l, hl, rfl⟩ := List.mem_map.1 hws
    have h3 := (splitC_mem hl).1
    have h4 := splitC_length 32 l
    exact ⟨by omega, fun w hw => by have := (splitC_mem hw).1; omega⟩

section
variable {P : Program} {σ σ' : AS} {rs : List ResultVar} {k : Nat} {caps : List AV} {R : AH → AV → Prop}
@[go_sem] theorem bodyQD_normal : bodyQD P rs k caps R .normal σ = (∃ R1, DCall P k σ.m caps .returning .returning R1 ∧ ∀ m', R1 m' → resK P ⟨σ.s, m'⟩ rs (kBodyW R m')) := (rfl)
@[go_sem] theorem bodyQD_ret : bodyQD P rs k caps R .ret σ = (∃ R1, DCall P k σ.m caps .returning .returning R1 ∧ ∀ m', R1 m' → resK P ⟨σ.s, m'⟩ rs (kBodyW R m')) := (rfl)
@[go_sem] theorem bodyQD_panic {ch : List PanicEntry} : bodyQD P rs k caps R (.panic ch) σ = (∃ V R1, ch = one V ∧ DCall P k σ.m caps (.panicking (one V)) (.panicking [{ v := V, recovered := true }]) R1 ∧ ∀ m', R1 m' → resK P ⟨σ.s, m'⟩ rs (kBodyW R m')) := (rfl)
@[congr] theorem bodyQD_congr {e : Exit} (h : σ = σ') : bodyQD P rs k caps R e σ = bodyQD P rs k caps R e σ' := by rw [h]
end

/-- What reading a log comes to, as far as its rows. -/
def okRows (t : List UInt8) : Bool := linesB t && entsB (linesF t)

set_option maxHeartbeats 4000000 in
set_option maxRecDepth 20000 in
theorem f33 (t : List UInt8) (ht : t.length ≤ 2000000) (z0 : List AV) (z1 : List AV) (hz0 : z0 = [.sl 1 [] .nil]) (hz1 : z1 = [.sl 5 [] .nil]) (nx : Nat) (lv : Nat → Prop) :
    QCall Tryd.prog 33 ⟨[], [z0, z1], nx, lv⟩ [.str t, .fn 34 [.ptr (.out 0) 0, .ptr (.out 1) 0]]
      (fun m' r => r = .int .i64 (if okRows t = true then 0 else 10) ∧ ∃ h rows ents t5 t4 nx' lv', m' = ⟨h, [[.sl 1 (rows.map dWords) t5], [.sl 5 (ents.map dEnt) t4]], nx', lv'⟩ ∧ (okRows t = true → rows = linesF t ∧ ents = entsF (linesF t) ∧ T2 m' t5 t4)) := by
  subst hz0 hz1
  refine QCall.of_bodyD Tryd.func33 rfl Tryd.ntmps33 (congrArg Array.toList Tryd.results33) rfl rfl rfl rfl ?_
  simp only [go_sem]
  refine ⟨70, [.ptr (.own 4 0) 0], rfl, by kernel_rfl, fun E => ?_⟩
  refine exB_ok (k1 := 4) (k2 := 8) _ _ _ ?_
  simp only [go_sem]
  obtain ⟨ls1, ls2⟩ := linesF_by ht
  refine callVt (f29 t (by omega)) ?_
  intro nx2 lv2 g1 g2
  by_cases hB : linesB t = true
  rotate_left
  · have hB' : linesB t = false := by simpa using hB
    have hok : okRows t = false := by simp [okRows, hB']
    simp only [go_sem, linesV, hB']
    refine AW_panicL (V := wrong 10) rfl rfl rfl rfl ?_
    simp only [go_sem, List.dropLast]
    refine ⟨fun G w u hu => wrong_inv hu, wrong 10, _, rfl, f70p _ _ _ _ 0 10 0 rfl, ?_⟩
    rintro m' ⟨h', k1, rfl⟩
    simp only [go_sem, k1, hok]
    exact ⟨h', [], [], .nil, .nil, _, _, rfl⟩
  · simp only [go_sem, linesV, hB]
    refine AW_loopB (k1 := 4) (k2 := 8) [8, 21, 22, 23, 24, 25, 26, 27, 28] (fun (x : Nat) ρ m => ρ 21 = .int .i64 (x : Int) ∧ x ≤ (linesF t).length ∧ entsB ((linesF t).take x) = true ∧ ∃ h t5 t4 nx lv, m = ⟨h, [[.sl 1 (((linesF t).take x).map dWords) t5], [.sl 5 ((entsF ((linesF t).take x)).map dEnt) t4]], nx, lv⟩ ∧ AB.hget h 4 = some (0, [.int .i64 0]) ∧ T2 m t5 t4) (fun x => (linesF t).length - x) 0 ?_ ?_
    · simp only [go_sem]
      refine ⟨Nat.zero_le _, rfl, _, _, _, _, _, rfl, rfl, trivial, trivial, (fun i h => by cases h), (fun i h => by cases h), (fun i h => by cases h)⟩
    rintro x ρ m ⟨e21, hx, hE, h, t5, t4, nx3, lv3, rfl, h4, hT⟩ Q' hN hR hX hP
    by_cases hlt : x < (linesF t).length
    · have hlt' : ((x : Int) < ((linesF t).length : Int)) = True := eq_true (by omega)
      have h00 : ((0 : Int) ≤ (x : Int)) = True := by simp
      have w1 : IntKind.i64.wrap ((x : Int) + 1) = (x : Int) + 1 := i64_in (by omega) (by omega)
      obtain ⟨ws, hws⟩ : ∃ ws, (linesF t)[x]? = some ws := ⟨_, List.getElem?_eq_getElem hlt⟩
      obtain ⟨b1, b2⟩ := ls2 ws (List.mem_of_getElem? hws)
      have hel := entsF_take _ _ hE
      have htl : ((linesF t).take x).length = x := by rw [List.length_take]; omega
      simp only [go_sem, e21, hlt', h00, hws, dWords]
      refine AW_callL rfl ?_
      simp only [go_sem, List.dropLast]
      refine callPK.go (f34 ws (by omega) (fun w hw => by have := b2 w hw; omega) _ _ (by omega) (by omega) t5 t4 h nx3 lv3 hT) ?_ ?_
      · rintro m' r ⟨e, t5', t4', nx', lv', hw, rfl, hT'⟩
        have hts : (linesF t).take (x + 1) = (linesF t).take x ++ [ws] := by rw [List.take_add_one, hws]; rfl
        simp only [go_sem, w1, hN, e21]
        refine ⟨by kernel_rfl, x + 1, ?_, by simp only; omega⟩
        simp only [go_sem]
        refine ⟨by simp, by omega, by rw [hts]; exact entsB_snoc hE (by rw [hw]; rfl), h, t5', t4', nx', lv', by rw [hts, entsF_snoc _ _ e hE hw], h4, hT'⟩
      · rintro m' ⟨hw, nx', lv', rfl⟩
        have hok : okRows t = false := by simp [okRows, entsB_bad hws hw]
        simp only [go_sem, hP]
        refine ⟨wrong 10, _, rfl, f70p _ _ _ _ 0 10 0 h4, ?_⟩
        rintro m' ⟨h', k1, rfl⟩
        simp only [go_sem, k1, hok]
        exact ⟨h', _, _, t5, t4, _, _, rfl⟩
    · have hlt' : ((x : Int) < ((linesF t).length : Int)) = False := eq_false (by omega)
      have hte : (linesF t).take x = linesF t := List.take_of_length_le (by omega)
      rw [hte] at hE
      have hok : okRows t = true := by simp [okRows, hB, hE]
      simp only [go_sem, e21, hlt', hX, hte, h4]
      refine ⟨_, f70r _ _, ?_⟩
      rintro m' rfl
      simp only [go_sem, hok]
      rw [hte] at hT
      exact ⟨_, _, _, t5, t4, _, _, rfl, rfl, rfl, hT⟩
end Go.Proofs.YtkfhieigdlfbeaaDoor
