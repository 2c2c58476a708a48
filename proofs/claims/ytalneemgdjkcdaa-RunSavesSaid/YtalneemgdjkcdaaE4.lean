/- One second of a runner, walked. -/
import Derived.Test.YtalneemgdjkcdaaE3
namespace Go.Proofs.Ytalneemgdjkcdaa
open Go.AB

structure Sta where
  pos : Int
  v : Int
  work : Int
def dSta (x : Sta) : DV := .agg [.int .i64 x.pos, .int .i64 x.v, .int .i64 x.work]
def eSta (x : Sta) : AV := .agg [.int .i64 x.pos, .int .i64 x.v, .int .i64 x.work]

def findW (f : Int → Bool) (low w : Int) : Int := if h : low ≤ w then (if f w then w else findW f low (w - 1)) else low
termination_by (w - low + 1).toNat
decreasing_by omega
theorem findW_hit {f : Int → Bool} {low w : Int} (h : low ≤ w) (hf : f w = true) : findW f low w = w := by rw [findW, dif_pos h, if_pos hf]
theorem findW_step {f : Int → Bool} {low w : Int} (h : low ≤ w) (hf : f w = false) : findW f low w = findW f low (w - 1) := by rw [findW, dif_pos h, if_neg (by simp [hf])]
theorem findW_end {f : Int → Bool} {low w : Int} (h : ¬ low ≤ w) : findW f low w = low := by rw [findW, dif_neg h]
theorem findW_bd (f : Int → Bool) (low w : Int) : low ≤ findW f low w ∧ findW f low w ≤ max low w := by
  unfold findW
  split
  · split
    · omega
    · have := findW_bd f low (w - 1)
      omega
  · omega
termination_by (w - low + 1).toNat
decreasing_by omega

def lowF (s : Stock) (x : Sta) (g : Int) : Int := max 0 (x.v - (s.brake + g))
def fitAt (s : Stock) (way : List Piece) (x : Sta) (fin w : Int) : Bool := fits s way (x.pos - 100 * s.len) (x.pos + goneF x.v w) fin w
def accF (s : Stock) (x : Sta) (w g : Int) : Int := w - x.v + s.roll + x.v * x.v / s.drag + g
def movedF (s : Stock) (x : Sta) (w g : Int) : Sta := ⟨x.pos + goneF x.v w, w, x.work + s.mass * max (accF s x w g) 0 * goneF x.v w⟩
def speedF (s : Stock) (way : List Piece) (x : Sta) (fin top : Int) : Int := findW (fitAt s way x fin) (lowF s x (gradeF way x.pos)) (min (x.v + gainF s x.v (gradeF way x.pos)) top)
def nextF (s : Stock) (way : List Piece) (x : Sta) (fin top : Int) : Sta := movedF s x (speedF s way x fin top) (gradeF way x.pos)

theorem gradeF_bd : ∀ {way : List Piece} (a : Int), way.all pieceOk = true → -40 ≤ gradeF way a ∧ gradeF way a ≤ 40
  | [], a, _ => by simp [gradeF]
  | [p], a, h => by
    have := pieceOk_iff.1 (List.all_eq_true.1 h p (by simp))
    simp only [gradeF]; omega
  | p :: q :: r, a, h => by
    have hp := pieceOk_iff.1 (List.all_eq_true.1 h p (by simp))
    have ih := gradeF_bd (way := q :: r) (a - p.len) (by simp only [List.all_cons, Bool.and_eq_true] at h ⊢; exact h.2)
    unfold gradeF
    simp only
    split <;> omega

theorem gain_bd {s : Stock} {v g : Int} (hc : checkS s = 0) (h1 : 0 ≤ v) (h2 : v ≤ 6000) (h3 : -40 ≤ g) (h4 : g ≤ 40) : -100 ≤ gainF s v g ∧ gainF s v g ≤ 200 := by
  have hk := checkS_ok hc
  have hp := pull_bd s v hc h1
  have hv := sq_bd h1 h2
  have hd : 0 ≤ v * v / s.drag ∧ v * v / s.drag ≤ 36 := by
    refine ⟨Int.ediv_nonneg (by omega) (by omega), ?_⟩
    have : v * v / s.drag < 37 := Int.ediv_lt_of_lt_mul (by omega) (by omega)
    omega
  unfold gainF
  omega

theorem mul_bd {a b A B : Int} (h1 : 0 ≤ a) (h2 : a ≤ A) (h3 : 0 ≤ b) (h4 : b ≤ B) : 0 ≤ a * b ∧ a * b ≤ A * B :=
  ⟨Int.mul_nonneg h1 h3, Int.mul_le_mul h2 h4 h3 (by omega)⟩
theorem acc_bd {s : Stock} {x : Sta} {w g : Int} (hc : checkS s = 0) (h1 : 0 ≤ x.v) (h2 : x.v ≤ 6000) (h3 : -40 ≤ g) (h4 : g ≤ 40) (h5 : 0 ≤ w) (h6 : w ≤ 6000) : -6100 ≤ accF s x w g ∧ accF s x w g ≤ 6100 ∧ 0 ≤ x.v * x.v / s.drag ∧ x.v * x.v / s.drag ≤ 36 := by
  have hk := checkS_ok hc
  have hv := sq_bd h1 h2
  have hd : 0 ≤ x.v * x.v / s.drag ∧ x.v * x.v / s.drag ≤ 36 := by
    refine ⟨Int.ediv_nonneg (by omega) (by omega), ?_⟩
    have : x.v * x.v / s.drag < 37 := Int.ediv_lt_of_lt_mul (by omega) (by omega)
    omega
  unfold accF
  omega
theorem gone_bd {v w : Int} (h1 : 0 ≤ v) (h2 : v ≤ 6000) (h5 : 0 ≤ w) (h6 : w ≤ 6000) : 0 ≤ goneF v w ∧ goneF v w ≤ 6000 := by unfold goneF; omega

/-- What may be of a state. -/
structure StaOk (x : Sta) (k : Int) : Prop where
  p0 : 0 ≤ x.pos
  p1 : x.pos ≤ 100000000
  v0 : 0 ≤ x.v
  v1 : x.v ≤ 6000
  w0 : 0 ≤ x.work
  w1 : x.work ≤ 1152921504606846976 + k

theorem speed_bd {s : Stock} {way : List Piece} {x : Sta} {fin top k : Int} (hc : checkS s = 0) (hx : StaOk x k) (hw : way.all pieceOk = true) (ht : top ≤ 6000) : 0 ≤ speedF s way x fin top ∧ speedF s way x fin top ≤ 6000 := by
  have hk := checkS_ok hc
  have h0 := hx.v0
  have h1 := hx.v1
  have hg := gradeF_bd x.pos hw
  have := findW_bd (fitAt s way x fin) (lowF s x (gradeF way x.pos)) (min (x.v + gainF s x.v (gradeF way x.pos)) top)
  unfold speedF
  unfold lowF at this ⊢
  omega

theorem next_ok {s : Stock} {way : List Piece} {x : Sta} {fin top k : Int} (hc : checkS s = 0) (hx : StaOk x k) (hw : way.all pieceOk = true) (ht : top ≤ 6000) (hp : x.pos ≤ 99990000) :
    StaOk (nextF s way x fin top) (k + 73200000000) ∧ (nextF s way x fin top).pos ≤ x.pos + 6000 := by
  have hk := checkS_ok hc
  obtain ⟨p0, p1, v0, v1, w0, w1⟩ := hx
  have hg := gradeF_bd x.pos hw
  have hs := speed_bd (fin := fin) (top := top) (k := k) hc ⟨p0, p1, v0, v1, w0, w1⟩ hw ht
  have ha := acc_bd (w := speedF s way x fin top) (g := gradeF way x.pos) hc v0 v1 hg.1 hg.2 hs.1 hs.2
  have hgo := gone_bd v0 v1 hs.1 hs.2
  have m1 := mul_bd (a := s.mass) (A := 2000) (b := max (accF s x (speedF s way x fin top) (gradeF way x.pos)) 0) (B := 6100) (by omega) (by omega) (by omega) (by omega)
  have m2 := mul_bd (A := 12200000) (B := 6000) m1.1 (by omega) hgo.1 hgo.2
  unfold nextF movedF
  refine ⟨⟨?_, ?_, ?_, ?_, ?_, ?_⟩, ?_⟩ <;> simp only <;> omega

set_option maxHeartbeats 4000000 in
set_option maxRecDepth 20000 in
theorem second72 (s : Stock) (way : List Piece) (bt : Tok) (fin top : Int) (M : List Ent) (nx : Nat) (lv : Nat → Prop) (x : Sta) (k : Int) (hc : checkS s = 0) (hw : way.all pieceOk = true) (hw0 : way ≠ []) (hl : way.length ≤ 60) (hM : GoodM lv M)
    (hx : StaOk x k) (hk0 : 0 ≤ k) (hk1 : k ≤ 1000000000000000) (ht0 : 0 ≤ top) (ht : top ≤ 6000) (h7 : 0 ≤ fin) (h8 : fin ≤ 100000000) :
    QCall Try.prog 72 ⟨[], [rcell s (way.map dPiece) (begs way) bt fin top (.out 1), [.mapc (keysM M) (valsM (s.brake - 40) M)]], nx, lv⟩ [.ptr (.out 0) 0, eSta x]
      (outR (s.brake - 40) (rcell s (way.map dPiece) (begs way) bt fin top (.out 1)) nx lv M (eSta (nextF s way x fin top))) := by
  refine QCall.of_body Try.func72 rfl Try.ntmps72 (congrArg Array.toList Try.results72) ?_
  intro E
  have hk := checkS_ok hc
  obtain ⟨p0, p1, v0, v1, w0, w1⟩ := hx
  simp only [go_sem, rcell, sCells, eSta]
  refine drawnP [2, 2, 2, 2, 2, 3, 1, 1] [(5, [2, 2, 0, 0, 0, 0, 2, 2])] 121 (by kernel_rfl) (by kernel_rfl) (by kernel_rfl) (by kernel_rfl) rfl ?_
  simp (config := {maxSteps := 1000000}) (disch := omega) only [go_sem, i64_in]
  intro nx1 lv1 q1 q2
  refine .inr (callR (grade105 s way bt fin top M nx1 lv1 x.pos hw hw0 hl (hM.more q2)) (fun _ => rfl) (fun _ => rfl) (by simp) rfl rfl ?_)
  intro M2 nx2 lv2 k1 k2 k3
  have N := ((Now.refl (nx := nx) hM).more q1 q2).call k1 k2 k3
  clear k1 k2 k3 q1 q2
  have hg := gradeF_bd x.pos hw
  generalize hG : gradeF way x.pos = g at hg
  have hga := gain_bd hc v0 v1 hg.1 hg.2
  simp (config := {maxSteps := 1000000}) (disch := omega) only [go_sem, rcell, sCells, i64_in]
  intro nx3 lv3 q1 q2
  have N := N.more q1 q2
  clear q1 q2
  refine drawn (by kernel_rfl) (by kernel_rfl) ?_
  simp (config := {maxSteps := 1000000}) (disch := omega) only [go_sem, i64_in]
  refine quietD (f106 s x.v g hc v0 v1 hg.1 hg.2) (fun _ => rfl) ?_
  simp (config := {maxSteps := 1000000}) (disch := omega) only [go_sem, i64_in]
  intro nx4 lv4 q1 q2
  have N := N.more q1 q2
  clear q1 q2
  have hlow : lowF s x g = max 0 (x.v - (s.brake + g)) := rfl
  have hsp : speedF s way x fin top = findW (fitAt s way x fin) (lowF s x g) (min (x.v + gainF s x.v g) top) := by unfold speedF; rw [hG]
  have hsb : 0 ≤ speedF s way x fin top ∧ speedF s way x fin top ≤ 6000 := speed_bd (k := k) hc ⟨p0, p1, v0, v1, w0, w1⟩ hw ht
  refine AW_loopS [8, 41, 42, 43, 44, 45, 46, 47, 48, 49, 50, 51, 52, 53, 54, 55, 56, 57, 58, 59, 60, 61, 62, 63, 64, 65, 66]
    (fun (u : Int) ρ m => ρ 8 = .int .i64 u ∧ -10000 ≤ u ∧ u ≤ 6000 ∧ findW (fitAt s way x fin) (lowF s x g) u = speedF s way x fin top ∧
      ∃ nx' lv' M', m = ⟨[(3, 0, [.int .i64 x.pos, .int .i64 x.v, .int .i64 x.work]), (4, 0, [.int .i64 0, .int .i64 0, .int .i64 0])], [rcell s (way.map dPiece) (begs way) bt fin top (.out 1), [.mapc (keysM M') (valsM (s.brake - 40) M')]], nx', lv'⟩ ∧ Now nx lv M nx' lv' M') (fun u => (u - lowF s x g + 1).toNat) (min (x.v + gainF s x.v g) top) ?_ ?_
  · simp only [go_sem, rcell, sCells]
    exact ⟨by omega, by omega, hsp.symm, _, _, _, rfl, N⟩
  · rintro u ρ m ⟨e8, g1, g2, g3, nx5, lv5, M5, rfl, N5⟩
    simp only [go_sem]
    refine drawnP [2, 2, 2, 2, 2, 2, 2, 2, 2, 2, 2, 2, 2, 2, 2, 2, 2, 2, 2, 2, 2, 3, 1, 1] [(21, [0, 0, 0, 0, 0, 0, 0, 0, 0, 0, 0, 0, 0, 0, 0, 0, 0, 0, 0, 0, 0, 0, 2, 2])] 121 (by kernel_rfl) (by kernel_rfl) (by kernel_rfl) (by kernel_rfl) rfl ?_
    by_cases hlu : lowF s x g ≤ u
    · have hlu' : (max 0 (x.v - (s.brake + g)) ≤ u) = True := by rw [← hlow]; simp [hlu]
      simp (config := {maxSteps := 1000000}) (disch := omega) only [go_sem, rcell, sCells, i64_in, e8, hlu']
      have hgb : 0 ≤ goneF x.v u ∧ goneF x.v u ≤ 6000 := gone_bd v0 v1 (by omega) g2
      refine quietD (gone108 _ _ (by omega) (by omega) (by omega) (by omega)) (fun _ => rfl) ?_
      simp (config := {maxSteps := 1000000}) (disch := omega) only [go_sem, rcell, sCells, i64_in]
      intro nx6 lv6 q1 q2
      have N6 := N5.more q1 q2
      refine .inr (callR (may107 s way bt fin top M5 nx6 lv6 (x.pos - 100 * s.len) (x.pos + goneF x.v u) u hc hw hl N6.good (by omega) g2 (by omega) (by omega) (by omega) (by omega) h7 (by omega)) (fun _ => rfl) (fun _ => rfl) (by simp) rfl rfl ?_)
      intro M7 nx7 lv7 k1 k2 k3
      have N7 := N6.call k1 k2 k3
      clear k1 k2 k3 q1 q2
      simp (config := {maxSteps := 1000000}) (disch := omega) only [go_sem, rcell, sCells, i64_in]
      intro nx8 lv8 q1 q2
      have N8 := N7.more q1 q2
      clear q1 q2 N7 N6 N5 N
      refine ⟨fun hno => ⟨by kernel_rfl, u - 1, ?_, by simp only; omega⟩, fun hyes => ?_⟩
      · simp only [go_sem, rcell, sCells]
        refine ⟨by omega, by omega, ?_, _, _, _, rfl, N8⟩
        rw [← findW_step hlu (show fitAt s way x fin u = false from hno)]; exact g3
      · have hmx : max u (max 0 (x.v - (s.brake + g))) = speedF s way x fin top := by
          rw [← g3, findW_hit hlu (show fitAt s way x fin u = true from hyes), ← hlow]; omega
        rw [hmx]
        refine drawnP [2, 2, 2, 2, 2, 2, 2, 2, 2, 2, 3, 1] [(10, [2, 2, 2, 2, 2, 2, 2, 2, 2, 2, 0, 3]), (11, [0, 0, 0, 0, 0, 0, 0, 0, 0, 0, 0, 0])] 121 (by kernel_rfl) (by kernel_rfl) (by kernel_rfl) (by kernel_rfl) rfl ?_
        have hgw := gone_bd v0 v1 hsb.1 hsb.2
        have hac := acc_bd (w := speedF s way x fin top) (g := g) hc v0 v1 hg.1 hg.2 hsb.1 hsb.2
        generalize hW : speedF s way x fin top = W at hsb hgw hac ⊢
        simp (config := {maxSteps := 1000000}) (disch := omega) only [go_sem, rcell, sCells, i64_in]
        refine quietD (gone108 _ _ (by omega) (by omega) (by omega) (by omega)) (fun _ => rfl) ?_
        simp (config := {maxSteps := 1000000}) (disch := omega) only [go_sem, rcell, sCells, i64_in]
        intro nx9 lv9 r1 r2
        refine quietD (gone108 _ _ (by omega) (by omega) (by omega) (by omega)) (fun _ => rfl) ?_
        simp (config := {maxSteps := 1000000}) (disch := omega) only [go_sem, rcell, sCells, i64_in]
        intro nx10 lv10 r3 r4 nx11 lv11 r5 r6
        have N11 := ((N8.more r1 r2).more r3 r4).more r5 r6
        clear r1 r2 r3 r4 r5 r6 N8
        refine drawn (by kernel_rfl) (by kernel_rfl) ?_
        unfold accF at hac
        have hvv := sq_bd v0 v1
        simp (config := {maxSteps := 1000000}) (disch := omega) only [go_sem, rcell, sCells, i64_in, tdivE]
        refine ⟨by omega, fun nx12 lv12 r1 r2 => ?_⟩
        have N12 := N11.more r1 r2
        clear r1 r2 N11
        have hnext : nextF s way x fin top = movedF s x W g := by unfold nextF; rw [hW, hG]
        simp only [hnext, movedF, accF]
        generalize hA : W - x.v + s.roll + x.v * x.v / s.drag + g = A at hac ⊢
        refine ⟨fun hu => ?_, fun hu => ?_⟩
        · refine drawnP [2, 2, 2, 2, 2, 2, 2, 2, 2, 2, 2, 2, 2, 2, 2, 2, 2, 3] [(17, [0, 0, 0, 0, 0, 0, 0, 0, 0, 0, 0, 0, 0, 0, 0, 0, 0, 0])] 121 (by kernel_rfl) (by kernel_rfl) (by kernel_rfl) (by kernel_rfl) rfl ?_
          have m1 := mul_bd (a := s.mass) (A := 2000) (b := A) (B := 6100) (by omega) (by omega) (by omega) (by omega)
          have m2 := mul_bd (a := s.mass * A) (A := 12200000) (b := x.pos + goneF x.v W - x.pos) (B := 6000) m1.1 (by omega) (by omega) (by omega)
          simp (config := {maxSteps := 1000000}) (disch := omega) only [go_sem, rcell, sCells, i64_in]
          intro nx13 lv13 r1 r2 nx14 lv14 r3 r4
          have N14 := (N12.more r1 r2).more r3 r4
          refine ⟨?_, M7, rfl, N14.good, N14.le, N14.keep⟩
          rw [show max A 0 = A by omega, show x.pos + goneF x.v W - x.pos = goneF x.v W by omega]
        · refine ⟨?_, M7, rfl, N12.good, N12.le, N12.keep⟩
          rw [show max A 0 = 0 by omega]
          simp
    · have hlu' : (max 0 (x.v - (s.brake + g)) ≤ u) = False := by rw [← hlow]; simp; omega
      simp (config := {maxSteps := 1000000}) (disch := omega) only [go_sem, rcell, sCells, i64_in, e8, hlu']
      have hmx : max u (max 0 (x.v - (s.brake + g))) = speedF s way x fin top := by
        rw [← g3, findW_end hlu, ← hlow]; omega
      intro nx6 lv6 q1 q2 nx8 lv8 q3 q4
      have N8 := (N5.more q1 q2).more q3 q4
      clear q1 q2 q3 q4 N5 N
      rw [hmx]
      refine drawnP [2, 2, 2, 2, 2, 2, 2, 2, 2, 2, 3, 1] [(10, [2, 2, 2, 2, 2, 2, 2, 2, 2, 2, 0, 3]), (11, [0, 0, 0, 0, 0, 0, 0, 0, 0, 0, 0, 0])] 121 (by kernel_rfl) (by kernel_rfl) (by kernel_rfl) (by kernel_rfl) rfl ?_
      have hgw := gone_bd v0 v1 hsb.1 hsb.2
      have hac := acc_bd (w := speedF s way x fin top) (g := g) hc v0 v1 hg.1 hg.2 hsb.1 hsb.2
      generalize hW : speedF s way x fin top = W at hsb hgw hac ⊢
      simp (config := {maxSteps := 1000000}) (disch := omega) only [go_sem, rcell, sCells, i64_in]
      refine quietD (gone108 _ _ (by omega) (by omega) (by omega) (by omega)) (fun _ => rfl) ?_
      simp (config := {maxSteps := 1000000}) (disch := omega) only [go_sem, rcell, sCells, i64_in]
      intro nx9 lv9 r1 r2
      refine quietD (gone108 _ _ (by omega) (by omega) (by omega) (by omega)) (fun _ => rfl) ?_
      simp (config := {maxSteps := 1000000}) (disch := omega) only [go_sem, rcell, sCells, i64_in]
      intro nx10 lv10 r3 r4 nx11 lv11 r5 r6
      have N11 := ((N8.more r1 r2).more r3 r4).more r5 r6
      clear r1 r2 r3 r4 r5 r6 N8
      refine drawn (by kernel_rfl) (by kernel_rfl) ?_
      unfold accF at hac
      have hvv := sq_bd v0 v1
      simp (config := {maxSteps := 1000000}) (disch := omega) only [go_sem, rcell, sCells, i64_in, tdivE]
      refine ⟨by omega, fun nx12 lv12 r1 r2 => ?_⟩
      have N12 := N11.more r1 r2
      clear r1 r2 N11
      have hnext : nextF s way x fin top = movedF s x W g := by unfold nextF; rw [hW, hG]
      simp only [hnext, movedF, accF]
      generalize hA : W - x.v + s.roll + x.v * x.v / s.drag + g = A at hac ⊢
      refine ⟨fun hu => ?_, fun hu => ?_⟩
      · refine drawnP [2, 2, 2, 2, 2, 2, 2, 2, 2, 2, 2, 2, 2, 2, 2, 2, 2, 3] [(17, [0, 0, 0, 0, 0, 0, 0, 0, 0, 0, 0, 0, 0, 0, 0, 0, 0, 0])] 121 (by kernel_rfl) (by kernel_rfl) (by kernel_rfl) (by kernel_rfl) rfl ?_
        have m1 := mul_bd (a := s.mass) (A := 2000) (b := A) (B := 6100) (by omega) (by omega) (by omega) (by omega)
        have m2 := mul_bd (a := s.mass * A) (A := 12200000) (b := x.pos + goneF x.v W - x.pos) (B := 6000) m1.1 (by omega) (by omega) (by omega)
        simp (config := {maxSteps := 1000000}) (disch := omega) only [go_sem, rcell, sCells, i64_in]
        intro nx13 lv13 r1 r2 nx14 lv14 r3 r4
        have N14 := (N12.more r1 r2).more r3 r4
        refine ⟨?_, M5, rfl, N14.good, N14.le, N14.keep⟩
        rw [show max A 0 = A by omega, show x.pos + goneF x.v W - x.pos = goneF x.v W by omega]
      · refine ⟨?_, M5, rfl, N12.good, N12.le, N12.keep⟩
        rw [show max A 0 = 0 by omega]
        simp
end Go.Proofs.Ytalneemgdjkcdaa
