/- Contracts of slices.Equal over whole numbers and of Powers. -/
import Derived.Test.YthbdjgjpocfneaaC5
namespace Go.Proofs.Ythbdjgjpocfneaa
open Go.AB

/-! ### Equal of lists of whole numbers -/
theorem take_eq_succ {a b : List Int} {x : Nat} {c d : Int} (ha : a[x]? = some c) (hb : b[x]? = some d) (h : a.take x = b.take x) : (a.take (x + 1) = b.take (x + 1)) ↔ c = d := by
  rw [List.take_add_one, List.take_add_one, ha, hb, h]
  simp

theorem f48 (a b : List Int) (ha : a.length ≤ 140737488351232) : PCall Try.prog 48 [.sl 1 (a.map (DV.int .i64)) .no, .sl 1 (b.map (DV.int .i64)) .no] (RV (.bool (decide (a = b)))) := by
  refine PCall.of_body Try.func48 rfl Try.ntmps48 (congrArg Array.toList Try.results48) ?_
  intro E
  simp only [go_sem]
  refine ⟨fun h => ?_, fun h => ?_⟩
  · have : a ≠ b := fun e => h (by rw [e])
    simp [this]
  have hl : a.length = b.length := by
    omega
  refine AW_loopS [5, 13, 14, 15, 16, 17, 18, 19, 20, 21, 22, 23, 24, 25] (fun (x : Nat) ρ m => ρ 13 = .int .i64 (x : Int) ∧ (∃ nx lv, m = ⟨[], [], nx, lv⟩) ∧ x ≤ a.length ∧ a.take x = b.take x) (fun x => a.length - x) 0 ?_ ?_
  · simp only [go_sem]
    exact ⟨⟨_, _, rfl⟩, Nat.zero_le _⟩
  · rintro x ρ m ⟨e8, ⟨nx, lv, rfl⟩, hx, hall⟩
    by_cases hlt : x < a.length
    · have hlt' : ((x : Int) < (a.length : Int)) = True := by simp; omega
      obtain ⟨c, hc⟩ : ∃ c, a[x]? = some c := ⟨_, List.getElem?_eq_getElem hlt⟩
      obtain ⟨d, hd⟩ : ∃ c, b[x]? = some c := ⟨_, List.getElem?_eq_getElem (by omega)⟩
      have ht := take_eq_succ hc hd hall
      simp (disch := omega) only [go_sem, e8, hlt', i64_in]
      refine drawn (by kernel_rfl) (by kernel_rfl) ?_
      simp (disch := omega) only [go_sem, hc, hd, i64_in]
      refine ⟨by omega, by omega, fun nx lv _ _ => ⟨fun h1 => ?_, fun h1 => ?_⟩⟩
      · have : a ≠ b := fun e => by
          subst e
          rw [hc] at hd
          exact h1 (Option.some.inj hd)
        simp [this]
      · refine ⟨by kernel_rfl, x + 1, ?_, by simp only; omega⟩
        simp only [go_sem]
        exact ⟨by simp, ⟨_, _, rfl⟩, by omega, ht.2 h1⟩
    · have hlt' : ((x : Int) < (a.length : Int)) = False := by simp; omega
      simp (disch := omega) only [go_sem, e8, hlt', i64_in]
      rw [List.take_of_length_le (by omega), List.take_of_length_le (by omega)] at hall
      simp [hall]

/-! ### Powers -/
structure State where
  (pos speed work : Int)
def dState (x : State) : DV := .agg [.int .i64 x.pos, .int .i64 x.speed, .int .i64 x.work]

def top60 : Int := 1152921504606846976
/-- The first error of works, behind one of p. -/
def scanE (p : Int) : List Int → Int
  | [] => 0
  | x :: r => if x < 0 ∨ top60 < x then 2 else if x < p then 1 else scanE x r
def diffs : List Int → List Int
  | a :: b :: r => (b - a) :: diffs (b :: r)
  | _ => []

def lastI (p : Int) : List Int → Int
  | [] => p
  | x :: r => lastI x r
theorem scanE_app (a b : List Int) (p : Int) : scanE p (a ++ b) = if scanE p a = 0 then scanE (lastI p a) b else scanE p a := by
  induction a generalizing p with
  | nil => simp [scanE, lastI]
  | cons x r ih =>
    simp only [List.cons_append, scanE, lastI]
    split
    · simp
    · split
      · simp
      · exact ih x
theorem diffs_snoc (x : Int) : ∀ (a : List Int) (y : Int), diffs (y :: a ++ [x]) = diffs (y :: a) ++ [x - lastI y a]
  | [], y => rfl
  | z :: a, y => by
    have := diffs_snoc x a z
    simp only [List.cons_append, diffs, lastI] at this ⊢
    rw [this]
theorem diffs_len : ∀ (a : List Int), (diffs a).length = a.length - 1
  | [] => rfl
  | [_] => rfl
  | a :: b :: r => by simp [diffs, diffs_len (b :: r)]
theorem lastI_take {w : List Int} : ∀ {x : Nat} {p c : Int}, w[x]? = some c → lastI p (w.take (x + 1)) = c := by
  induction w with
  | nil => intro x p c h; simp at h
  | cons y r ih =>
    intro x p c h
    cases x with
    | zero => simp at h; subst h; simp [lastI]
    | succ x => simp only [List.take_succ_cons, lastI]; exact ih (by simpa using h)
theorem scan_in {w : List Int} {x : Nat} {c : Int} {p : Int} (h : scanE p (w.take x) = 0) (hc : w[x]? = some c) : scanE p (w.take (x + 1)) = if c < 0 ∨ top60 < c then 2 else if c < lastI p (w.take x) then 1 else 0 := by
  rw [List.take_add_one, hc, Option.toList_some, scanE_app, if_pos h]
  simp [scanE]
theorem scan_fail {w : List Int} {x : Nat} {p e : Int} (h : scanE p (w.take x) = e) (he : e ≠ 0) : scanE p w = e := by
  conv => lhs; rw [← List.take_append_drop x w]
  rw [scanE_app, if_neg (by rw [h]; exact he), h]

def works (l : List State) : List Int := l.map (·.work)
theorem works_len (l : List State) : (works l).length = l.length := by simp [works]
theorem works_get {l : List State} {i : Nat} {x : State} (h : l[i]? = some x) : (works l)[i]? = some x.work := by rw [works, List.getElem?_map, h]; rfl
theorem scan_last {p : Int} {l : List Int} (h : scanE p l = 0) (hp : 0 ≤ p) : 0 ≤ lastI p l := by
  induction l generalizing p with
  | nil => exact hp
  | cons x r ih =>
    simp only [scanE] at h
    split at h
    · cases h
    · split at h
      · cases h
      · simp only [lastI]; exact ih h (by omega)
def powErr (s : Stock) (l : List State) : Int := if checkS s = 0 then (if l = [] then 1 else scanE 0 (works l)) else checkS s
def powVal (s : Stock) (l : List State) : List Int := if powErr s l = 0 then diffs (works l) else []

theorem diffs_take {w : List Int} {x : Nat} {c : Int} (h0 : 0 < x) (hx : w[x]? = some c) : diffs (w.take (x + 1)) = diffs (w.take x) ++ [c - lastI 0 (w.take x)] := by
  rw [List.take_add_one, hx, Option.toList_some]
  cases hw : w.take x with
  | nil =>
    have := congrArg List.length hw
    have hl := (List.getElem?_eq_some_iff.1 hx).1
    rw [List.length_take, List.length_nil] at this
    omega
  | cons y r => rw [diffs_snoc]; rfl

set_option maxHeartbeats 4000000 in
set_option maxRecDepth 20000 in
theorem f47 (s : Stock) (l : List State) (hs : s.name.length ≤ 140737488351232) (hl : l.length * 24 ≤ 140737488351232) : PCall Try.prog 47 [eStock s, .sl 3 (l.map dState) .no] (RV (.tup [.sl 1 ((powVal s l).map (DV.int .i64)) .no, .int .i64 (powErr s l)])) := by
  refine PCall.of_bodyE Try.func47 rfl Try.ntmps47 (congrArg Array.toList Try.results47) ?_
  intro E
  simp only [go_sem, eStock]
  refine callV (f24 s hs) ?_
  intro nx lv
  simp only [go_sem]
  refine ⟨fun h => ?_, fun h => ?_⟩
  · simp [powVal, powErr, h]
  refine ⟨fun h1 => ?_, fun h1 => ?_⟩
  · have : l = [] := List.length_eq_zero_iff.1 (by omega)
    simp [powVal, powErr, h, this]
  have hpos : 0 < l.length := by omega
  obtain ⟨x0, h0⟩ : ∃ c, l[0]? = some c := ⟨_, List.getElem?_eq_getElem hpos⟩
  have hlen : ((0 : Int) < (l.length : Int)) = True := by simp; omega
  have hw0 : (works l)[0]? = some x0.work := works_get h0
  have hlne : l ≠ [] := fun e => by rw [e] at hpos; simp at hpos
  have hpe : powErr s l = scanE 0 (works l) := by simp [powErr, h, hlne]
  refine LW_start (LW_round ?_)
  simp (disch := omega) only [go_sem, i64_in, hlen, h0, dState]
  refine callV (f69 _ _ _) ?_
  intro nx lv
  simp (disch := omega) only [go_sem, i64_in]
  have hs0 := scan_in (p := 0) (w := works l) (x := 0) (c := x0.work) (by simp [scanE]) hw0
  refine ⟨fun h2 => ?_, fun h2 => ?_⟩
  · have h3 : x0.work < 0 ∨ top60 < x0.work := by
      simp only [within, Bool.and_eq_false_iff, decide_eq_false_iff_not] at h2
      unfold top60; omega
    rw [if_pos h3] at hs0
    have := scan_fail hs0 (by omega)
    simp [powVal, hpe, this]
  simp only [within, Bool.and_eq_true, decide_eq_true_eq] at h2
  rw [if_neg (by unfold top60; omega)] at hs0
  rw [if_neg (by simp [lastI]; omega)] at hs0
  refine LW_loopS [7, 8, 9, 20, 21, 22, 23, 24, 25, 26, 27, 28, 29, 30, 31, 32, 33, 34, 35, 36, 37, 38, 39, 40, 41, 42, 43, 44, 45, 46, 47, 48, 49, 50, 51, 52] (fun (x : Nat) ρ m => ρ 20 = .int .i64 (x : Int) ∧ (∃ tok, ρ 7 = .sl 1 ((diffs ((works l).take x)).map (DV.int .i64)) tok ∧ okT m tok) ∧ (∃ g cs nx lv, m = ⟨[(2, 0, cellsS s), (9, g, cs)], [], nx, lv⟩) ∧ 1 ≤ x ∧ x ≤ l.length ∧ scanE 0 ((works l).take x) = 0) (fun x => l.length - x) 1 ?_ ?_
  · simp only [go_sem, cellsS]
    refine ⟨⟨.nil, ⟨?_, rfl⟩, trivial⟩, ⟨_, _, _, _, rfl⟩, hpos, hs0⟩
    rw [List.take_add_one, hw0]
    rfl
  · rintro x ρ m ⟨e20, ⟨tok, e7, hok⟩, ⟨g, cs, nx, lv, rfl⟩, hx1, hx, hsc⟩
    by_cases hlt : x < l.length
    · have hlt' : ((x : Int) < (l.length : Int)) = True := by simp; omega
      have hx0 : ((0 : Int) < (x : Int)) = True := by simp; omega
      obtain ⟨c, hc⟩ : ∃ c, l[x]? = some c := ⟨_, List.getElem?_eq_getElem hlt⟩
      obtain ⟨d, hd⟩ : ∃ c, l[x - 1]? = some c := ⟨_, List.getElem?_eq_getElem (by omega)⟩
      have hcw : (works l)[x]? = some c.work := works_get hc
      have hdw : (works l)[x - 1]? = some d.work := works_get hd
      have hlast : lastI 0 ((works l).take x) = d.work := by
        have := lastI_take (p := 0) hdw
        rwa [show x - 1 + 1 = x by omega] at this
      have hnat : ((x : Int) - 1).toNat = x - 1 := by omega
      have hsx := scan_in hsc hcw
      rw [hlast] at hsx
      have hdl := diffs_len ((works l).take x)
      have hdt := diffs_take (by omega) hcw
      rw [hlast] at hdt
      rw [List.length_take, works_len] at hdl
      simp (disch := omega) only [go_sem, e20, e7, hlt', hc, i64_in, dState]
      refine ⟨by omega, callVt (f69 _ _ _) ?_⟩
      intro nx2 lv2 _ hlv2
      simp (disch := omega) only [go_sem, i64_in, hx0]
      refine ⟨fun h3 => ?_, fun h3 => ?_⟩
      · have h4 : c.work < 0 ∨ top60 < c.work := by
          simp only [within, Bool.and_eq_false_iff, decide_eq_false_iff_not] at h3
          unfold top60; omega
        rw [if_pos h4] at hsx
        have := scan_fail hsx (by omega)
        simp [powVal, hpe, this]
      simp only [within, Bool.and_eq_true, decide_eq_true_eq] at h3
      rw [if_neg (by unfold top60; omega)] at hsx
      refine drawn (by kernel_rfl) (by kernel_rfl) ?_
      simp (disch := omega) only [go_sem, i64_in, hnat, hd, dState]
      refine ⟨by omega, ?_⟩
      intro nx3 lv3 _ hlv3
      refine ⟨fun h4 => ?_, fun h4 => ?_⟩
      · rw [if_pos h4] at hsx
        have := scan_fail hsx (by omega)
        simp [powVal, hpe, this]
      rw [if_neg h4] at hsx
      refine drawn2 11 (by kernel_rfl) (by kernel_rfl) (by kernel_rfl) (by decide) ?_
      simp (disch := omega) only [go_sem, i64_in, hnat, hd, dState]
      refine ⟨by omega, ?_⟩
      intro nx4 lv4 _ hlv4
      have hd0 := scan_last hsc (Int.le_refl 0)
      rw [hlast] at hd0
      rw [i64_in (by omega) (by omega)]
      refine ⟨okT_mono hok fun j hj => hlv4 j (hlv3 j (hlv2 j hj)), by omega, by kernel_rfl, x + 1, ?_, by simp only; omega⟩
      simp only [go_sem]
      refine ⟨by simp, ⟨.own nx4, ⟨?_, rfl⟩, Or.inl rfl⟩, ⟨_, _, _, _, rfl⟩, by omega, hsx⟩
      rw [hdt]
      simp
    · have hlt' : ((x : Int) < (l.length : Int)) = False := by simp; omega
      simp (disch := omega) only [go_sem, e20, e7, hlt', i64_in]
      rw [List.take_of_length_le (by rw [works_len]; omega)] at hsc
      rw [List.take_of_length_le (by rw [works_len]; omega)]
      simp [powVal, hpe, hsc]

end Go.Proofs.Ythbdjgjpocfneaa
