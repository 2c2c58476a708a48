/- Needs in plain Lean: what a route needs; what holds of the routes that are found. -/
import Derived.Test.YteadhjclchjfjaaL21
namespace Go.Proofs.Yteadhjclchjfjaa
set_option linter.unusedSimpArgs false
set_option linter.unusedVariables false
open Go.AB

structure Nd where
  (k p o a : Int)
  deriving DecidableEq
def dNd (x : Nd) : DV := .agg [.int .i64 x.k, .int .i64 x.p, .int .i64 x.o, .int .i64 x.a]
def eNd (x : Nd) : AV := .agg [.int .i64 x.k, .int .i64 x.p, .int .i64 x.o, .int .i64 x.a]
/-- A need more, if it is not there yet. -/
def ndA (l : List Nd) (x : Nd) : List Nd := if x ∈ l then l else l ++ [x]
def flankP (l : List Nd) (t e : Int) : Bool := l.any fun x => decide (x.k = 3 ∧ x.p = t ∧ x.o = e)

def overO (g : List Nd → Int → Int → List Nd) (t : Int) : List Int → List Nd → List Nd
  | [], l => l
  | o :: r, l => overO g t r (g l t o)
theorem overO_cons {g : List Nd → Int → Int → List Nd} {t o : Int} {r : List Int} {l : List Nd} : overO g t (o :: r) l = overO g t r (g l t o) := rfl
theorem overO_nil {g : List Nd → Int → Int → List Nd} {t : Int} {l : List Nd} : overO g t [] l = l := rfl

/-- What is needed outward of an end. -/
def lookG (g : List Nd → Int → Int → List Nd) (n : Net) (fr : Int) (st lap : List Stp) (i : Int) (l : List Nd) (s e : Int) : List Nd := match joinL n.links s e with
  | none => l
  | some (t, u) => if psec st t = true ∨ psec lap t = true then l
    else if kindAt n t = 2 ∧ 0 < u then (if flankP l t u = true then l else ndA l ⟨3, t, 3 - u, i⟩)
    else if kindAt n t = 1 ∧ 0 ≤ sigIdx n.sigs t u 0 then (if sigIdx n.sigs t u 0 = fr then l else ndA l ⟨4, sigIdx n.sigs t u 0, 0, i⟩)
    else overO g t (outsF (kindAt n t) u) l
def lookF (n : Net) (fr : Int) (st lap : List Stp) (i : Int) : Nat → List Nd → Int → Int → List Nd
  | 0, l, _, _ => l
  | k + 1, l, s, e => lookG (lookF n fr st lap i k) n fr st lap i l s e

/-- The ends that a step does not use. -/
def freeE (c : Int) (x : Stp) : List Int := if c = 2 then [3 - max x.i x.o] else if c = 3 then (if 1 < x.i then [0, 1] else [2, 3]) else []
def freeL (x : Stp) : Nat → Int → List Int
  | 0, _ => []
  | m + 1, j => if j = x.i ∨ j = x.o then freeL x m (j + 1) else j :: freeL x m (j + 1)

def lookS (n : Net) (fr : Int) (st lap : List Stp) (i : Int) (x : Stp) (l : List Nd) : List Nd := overO (lookF n fr st lap i 8) x.s (freeE (kindAt n x.s) x) l
def looksF (n : Net) (fr : Int) (st lap : List Stp) : List Stp → Int → List Nd → List Nd
  | [], _, l => l
  | x :: r, i, l => looksF n fr st lap r (i + 1) (lookS n fr st lap i x l)
def trackN (n : Net) (i : Int) (x : Stp) : Nd := ⟨1, x.s, posF n x, i⟩
def tracksF (n : Net) : List Stp → Int → List Nd
  | [], _ => []
  | x :: r, i => trackN n i x :: tracksF n r (i + 1)
def lapN (n : Net) (x : Stp) : Nd := ⟨2, x.s, posF n x, -1⟩
def needsF (n : Net) (fr : Int) (st lap : List Stp) : List Nd := looksF n fr st lap st 0 (tracksF n st 0 ++ lap.map (lapN n)) ++ [⟨5, fr, 0, -1⟩]

def homeF (n : Net) (fr : Int) : Int := ((n.sigs[fr.toNat]?).map Pair.s).getD 0
def lapF (n : Net) (r : Rt) : List Stp := if r.to < 0 then [] else match n.sigs[r.to.toNat]? with
  | none => []
  | some st => overG n r.st (homeF n r.fr) 5 [] 0 st.s st.e
def needsR (n : Net) (r : Rt) : List Nd := needsF n r.fr r.st (lapF n r)

/-! Bounds. -/
theorem ndA_len (l : List Nd) (x : Nd) : (ndA l x).length ≤ l.length + 1 := by unfold ndA; split <;> simp
theorem overO_len {g : List Nd → Int → Int → List Nd} {b : Nat} (hg : ∀ l s e, (g l s e).length ≤ l.length + b) (t : Int) : ∀ (os : List Int) (l : List Nd), (overO g t os l).length ≤ l.length + os.length * b
  | [], l => by simp [overO]
  | o :: r, l => by
    rw [overO_cons]
    have h1 := overO_len hg t r (g l t o)
    have h2 := hg l t o
    rw [List.length_cons, Nat.succ_mul]
    omega
theorem lookF_len (n : Net) (fr : Int) (st lap : List Stp) (i : Int) : ∀ (k : Nat) (l : List Nd) (s e : Int), (lookF n fr st lap i k l s e).length ≤ l.length + 2 ^ k
  | 0, l, _, _ => by simp [lookF]
  | k + 1, l, s, e => by
    have hp : 1 ≤ 2 ^ (k + 1) := Nat.one_le_two_pow
    unfold lookF lookG
    split
    · omega
    · rename_i t u _
      split
      · omega
      · split
        · split
          · omega
          · have := ndA_len l ⟨3, t, 3 - u, i⟩; omega
        · split
          · split
            · omega
            · have := ndA_len l ⟨4, sigIdx n.sigs t u 0, 0, i⟩; omega
          · have h1 := overO_len (g := lookF n fr st lap i k) (b := 2 ^ k) (fun l s e => lookF_len n fr st lap i k l s e) t (outsF (kindAt n t) u) l
            have h2 := outsF_len (kindAt n t) u
            have h3 : (outsF (kindAt n t) u).length * 2 ^ k ≤ 2 * 2 ^ k := Nat.mul_le_mul_right _ h2
            rw [Nat.pow_succ]
            omega
theorem freeE_len (c : Int) (x : Stp) : (freeE c x).length ≤ 2 := by unfold freeE; split; simp; split; split <;> simp; simp
theorem lookS_len (n : Net) (fr : Int) (st lap : List Stp) (i : Int) (x : Stp) (l : List Nd) : (lookS n fr st lap i x l).length ≤ l.length + 512 := by
  have h1 := overO_len (g := lookF n fr st lap i 8) (b := 256) (fun l s e => lookF_len n fr st lap i 8 l s e) x.s (freeE (kindAt n x.s) x) l
  have h2 := freeE_len (kindAt n x.s) x
  have h3 : (freeE (kindAt n x.s) x).length * 256 ≤ 2 * 256 := Nat.mul_le_mul_right _ h2
  unfold lookS
  omega
theorem looksF_len (n : Net) (fr : Int) (st lap : List Stp) : ∀ (p : List Stp) (i : Int) (l : List Nd), (looksF n fr st lap p i l).length ≤ l.length + 512 * p.length
  | [], i, l => by simp [looksF]
  | x :: r, i, l => by
    unfold looksF
    have h1 := looksF_len n fr st lap r (i + 1) (lookS n fr st lap i x l)
    have h2 := lookS_len n fr st lap i x l
    simp only [List.length_cons]
    omega
theorem tracksF_len (n : Net) : ∀ (p : List Stp) (i : Int), (tracksF n p i).length = p.length
  | [], _ => rfl
  | x :: r, i => by simp [tracksF, tracksF_len n r (i + 1)]
theorem overG_len (n : Net) (st : List Stp) (home : Int) : ∀ (k : Nat) (l : List Stp) (d s e : Int), (overG n st home k l d s e).length ≤ l.length + k
  | 0, l, _, _, _ => by simp [overG]
  | k + 1, l, d, s, e => by
    unfold overG
    split
    · split
      · omega
      · rename_i t i _
        split
        · omega
        · have := overG_len n st home k (l ++ [⟨t, i, out0 n t i⟩]) (d + slen n t) t (out0 n t i)
          simp only [List.length_append, List.length_singleton] at this
          omega
    · omega
theorem lapF_len (n : Net) (r : Rt) : (lapF n r).length ≤ 5 := by
  unfold lapF
  split
  · simp
  · split
    · simp
    · rename_i st _
      have := overG_len n r.st (homeF n r.fr) 5 [] 0 st.s st.e
      simpa using this
theorem needsR_len (n : Net) (r : Rt) (h : r.st.length ≤ 16) : (needsR n r).length ≤ 10000 := by
  unfold needsR needsF
  have h1 := looksF_len n r.fr r.st (lapF n r) r.st 0 (tracksF n r.st 0 ++ (lapF n r).map (lapN n))
  have h2 := lapF_len n r
  simp only [List.length_append, tracksF_len, List.length_map, List.length_singleton] at h1 ⊢
  omega

/-! What a route keeps to. -/
def StepOk (n : Net) (x : Stp) : Prop := hasF n x.s x.i = true ∧ x.o ∈ outsF (kindAt n x.s) x.i
structure RtOk (n : Net) (r : Rt) : Prop where
  f0 : 0 ≤ r.fr
  f1 : r.fr < n.sigs.length
  t0 : -1 ≤ r.to
  t1 : r.to < n.sigs.length
  l0 : 0 < r.st.length
  l1 : r.st.length ≤ 16
  st : ∀ x ∈ r.st, StepOk n x

theorem sigIdx_bd : ∀ (l : List Pair) (s e i : Int), 0 ≤ i → -1 ≤ sigIdx l s e i ∧ sigIdx l s e i < i + l.length
  | [], s, e, i, h => by simp [sigIdx]; omega
  | x :: l, s, e, i, h => by
    rw [sigIdx_cons]
    split
    · simp; omega
    · have := sigIdx_bd l s e (i + 1) (by omega)
      simp only [List.length_cons]
      omega
theorem walkS_ok {n : Net} (h : netE n = 0) {s e : Int} {x : Stp} (hx : x ∈ walkS n s e) : StepOk n x := by
  unfold walkS at hx
  split at hx
  · cases hx
  · rename_i t i hj
    simp only [List.mem_map] at hx
    obtain ⟨o, ho, rfl⟩ := hx
    exact ⟨joinL_has h hj, ho⟩
theorem stepG_all {g : List Stp → Int → Int → Fd → Fd} {n : Net} {fr home : Int} {p : List Stp} (hf0 : 0 ≤ fr) (hf1 : fr < n.sigs.length) (hp : ∀ x ∈ p, StepOk n x)
    (hg : ∀ q s e f, (∀ x ∈ q, StepOk n x) → (∀ r ∈ f.rs, RtOk n r) → ∀ r ∈ (g q s e f).rs, RtOk n r) : ∀ (l : List Stp) (f : Fd), (∀ x ∈ l, StepOk n x) → (∀ r ∈ f.rs, RtOk n r) → ∀ r ∈ (stepG g n fr home p l f).rs, RtOk n r
  | [], f, _, h => h
  | x :: l, f, hl, h => by
    have hpx : ∀ y ∈ p ++ [x], StepOk n y := fun y hy => by
      simp only [List.mem_append, List.mem_singleton] at hy
      rcases hy with hy | rfl
      · exact hp y hy
      · exact hl y (List.mem_cons_self ..)
    have hl' : ∀ y ∈ l, StepOk n y := fun y hy => hl y (List.mem_cons_of_mem _ hy)
    rw [stepG_cons]
    split
    · exact h
    · split
      · exact h
      · split
        · exact h
        · rename_i h16
          split
          · exact stepG_all hf0 hf1 hp hg l _ hl' (hg _ _ _ _ hpx h)
          · refine stepG_all hf0 hf1 hp hg l _ hl' ?_
            intro r hr
            simp only [countF, List.mem_append, List.mem_singleton] at hr
            rcases hr with hr | rfl
            · exact h r hr
            · have := sigIdx_bd n.sigs x.s x.o 0 (Int.le_refl 0)
              exact ⟨hf0, hf1, this.1, by simpa using this.2, by simp, by simp; omega, hpx⟩
theorem growF_all {n : Net} (he : netE n = 0) {fr home : Int} (hf0 : 0 ≤ fr) (hf1 : fr < n.sigs.length) : ∀ (k : Nat) (p : List Stp) (s e : Int) (f : Fd), (∀ x ∈ p, StepOk n x) → (∀ r ∈ f.rs, RtOk n r) → ∀ r ∈ (growF n fr home k p s e f).rs, RtOk n r
  | 0, _, _, _, _, _, h => h
  | k + 1, p, s, e, f, hp, h => stepG_all hf0 hf1 hp (fun q s e f hq h => growF_all he hf0 hf1 k q s e f hq h) _ _ (fun x hx => walkS_ok he hx) h
theorem growAll_all {n : Net} (he : netE n = 0) : ∀ (l : List Pair) (i : Int) (f : Fd), 0 ≤ i → i + l.length ≤ n.sigs.length → (∀ r ∈ f.rs, RtOk n r) → ∀ r ∈ (growAll n l i f).rs, RtOk n r
  | [], _, _, _, _, h => h
  | x :: l, i, f, h0, h1, h => by
    simp only [List.length_cons] at h1
    exact growAll_all he l (i + 1) _ (by omega) (by omega) (growF_all he h0 (by omega) _ _ _ _ _ (by simp) h)
theorem netL_all (n : Net) : ∀ r ∈ netL n (outL (routesF n)), RtOk n r := by
  unfold netL outL
  split
  · rename_i he
    split
    · simp
    · exact growAll_all he n.sigs 0 ⟨[], 0, false⟩ (Int.le_refl 0) (by simp) (by simp)
  · simp

/-! Steps of a net. -/
theorem StepOk.sec {n : Net} {x : Stp} (h : StepOk n x) : 0 ≤ x.s ∧ x.s < n.sects.length := by
  obtain ⟨⟨q1, q2⟩, q3, q4⟩ := hasF_iff.1 h.1
  exact ⟨q1, by omega⟩
theorem bits01 : bits BinOp.xor IntKind.i64 0 1 = 1 ∧ bits BinOp.xor IntKind.i64 1 1 = 0 ∧ bits BinOp.xor IntKind.i64 2 1 = 3 ∧ bits BinOp.xor IntKind.i64 3 1 = 2 := by decide
theorem free_eq {n : Net} (he : netE n = 0) {x : Stp} (h : StepOk n x) : freeL x (endsF (kindAt n x.s)).toNat 0 = freeE (kindAt n x.s) x := by
  obtain ⟨⟨q1, q2⟩, q3, q4⟩ := hasF_iff.1 h.1
  have h2 := h.2
  obtain ⟨c, hc⟩ : ∃ c, n.sects[x.s.toNat]? = some c := ⟨_, List.getElem?_eq_getElem (by omega)⟩
  have hk : kindAt n x.s = c.kind := by simp [kindAt, hc]
  have hkc := netE_kinds he c (List.mem_of_getElem? hc)
  rw [hk] at q4 h2 ⊢
  obtain ⟨s, i, o⟩ := x
  simp only at *
  generalize c.kind = k at *
  have hk3 : k = 1 ∨ k = 2 ∨ k = 3 := by omega
  have hi : i = 0 ∨ i = 1 ∨ i = 2 ∨ i = 3 := by
    have := endsF_bd k
    omega
  rcases hk3 with rfl | rfl | rfl <;> rcases hi with rfl | rfl | rfl | rfl <;> simp [endsF, outsF, bits01.1, bits01.2.1, bits01.2.2.1, bits01.2.2.2] at q4 h2 <;>
    first
      | (subst h2; rfl)
      | (rcases h2 with rfl | rfl <;> rfl)
      | skip

theorem overG_all {n : Net} (he : netE n = 0) (st : List Stp) (home : Int) : ∀ (k : Nat) (l : List Stp) (d s e : Int), (∀ x ∈ l, 0 ≤ x.s ∧ x.s < n.sects.length) → ∀ x ∈ overG n st home k l d s e, 0 ≤ x.s ∧ x.s < n.sects.length
  | 0, l, _, _, _, h => h
  | k + 1, l, d, s, e, h => by
    unfold overG
    split
    · split
      · exact h
      · rename_i t i hj
        split
        · exact h
        · refine overG_all he st home k _ _ _ _ ?_
          intro x hx
          simp only [List.mem_append, List.mem_singleton] at hx
          rcases hx with hx | rfl
          · exact h x hx
          · obtain ⟨⟨q1, q2⟩, q3, q4⟩ := hasF_iff.1 (joinL_has he hj)
            exact ⟨q1, by simp only; omega⟩
    · exact h
theorem lapF_all {n : Net} (he : netE n = 0) (r : Rt) : ∀ x ∈ lapF n r, 0 ≤ x.s ∧ x.s < n.sects.length := by
  unfold lapF
  split
  · simp
  · split
    · simp
    · exact overG_all he _ _ _ _ _ _ _ (by simp)

/-- No section twice. -/
def OnceP (l : List Stp) : Prop := ∀ (i : Nat) x, l[i]? = some x → psec (l.take i) x.s = false
theorem OnceP.snoc {l : List Stp} {y : Stp} (h : OnceP l) (hy : psec l y.s = false) : OnceP (l ++ [y]) := by
  intro i x hx
  by_cases hi : i < l.length
  · rw [List.getElem?_append_left hi] at hx
    rw [List.take_append_of_le_length (by omega)]
    exact h i x hx
  · have hlt := (List.getElem?_eq_some_iff.1 hx).1
    simp only [List.length_append, List.length_singleton] at hlt
    have : i = l.length := by omega
    subst this
    simp at hx
    subst hx
    simpa using hy
theorem overG_once {n : Net} (st : List Stp) (home : Int) : ∀ (k : Nat) (l : List Stp) (d s e : Int), OnceP l → OnceP (overG n st home k l d s e)
  | 0, l, _, _, _, h => h
  | k + 1, l, d, s, e, h => by
    unfold overG
    split
    · split
      · exact h
      · rename_i t i hj
        split
        · exact h
        · rename_i hn
          refine overG_once st home k _ _ _ _ (h.snoc ?_)
          simp only
          cases hp : psec l t with
          | false => rfl
          | true => exact absurd (.inr (.inl hp)) hn
    · exact h
theorem lapF_once (n : Net) (r : Rt) : OnceP (lapF n r) := by
  unfold lapF
  split
  · intro i x hx; simp at hx
  · split
    · intro i x hx; simp at hx
    · exact overG_once _ _ _ _ _ _ _ (by intro i x hx; simp at hx)

/-! Needs that are not there yet. -/
theorem tracksF_mem {n : Net} : ∀ {p : List Stp} {i : Int} {x : Nd}, x ∈ tracksF n p i → x.k = 1 ∧ i ≤ x.a ∧ x.a < i + p.length
  | [], i, x, h => by cases h
  | y :: p, i, x, h => by
    simp only [tracksF, List.mem_cons] at h
    rcases h with rfl | h
    · simp [trackN]; omega
    · have := tracksF_mem h
      simp only [List.length_cons]
      omega
theorem tracksF_app (n : Net) : ∀ (p : List Stp) (i : Int) (x : Stp), tracksF n (p ++ [x]) i = tracksF n p i ++ [trackN n (i + p.length) x]
  | [], i, x => by simp [tracksF]
  | y :: p, i, x => by
    have := tracksF_app n p (i + 1) x
    simp only [List.cons_append, tracksF, this, List.length_cons]
    congr 4
    omega
theorem track_new (n : Net) (p : List Stp) (x : Stp) : ndA (tracksF n p 0) (trackN n p.length x) = tracksF n (p ++ [x]) 0 := by
  rw [tracksF_app, Int.zero_add]
  unfold ndA
  rw [if_neg]
  intro h
  have := tracksF_mem h
  simp only [trackN] at this
  omega
theorem lap_new (n : Net) (st l : List Stp) (x : Stp) (h : psec l x.s = false) : ndA (tracksF n st 0 ++ l.map (lapN n)) (lapN n x) = tracksF n st 0 ++ (l ++ [x]).map (lapN n) := by
  unfold ndA
  rw [if_neg]
  · simp
  · intro hm
    simp only [List.mem_append, List.mem_map] at hm
    rcases hm with hm | ⟨y, hy, he⟩
    · have := (tracksF_mem hm).1
      simp [lapN] at this
    · simp only [lapN, Nd.mk.injEq] at he
      have : psec l x.s = true := by
        simp only [psec, List.any_eq_true, decide_eq_true_eq]
        exact ⟨y, hy, he.2.1⟩
      rw [h] at this
      cases this
theorem ndA_mem {l : List Nd} {x y : Nd} (h : y ∈ ndA l x) : y ∈ l ∨ y = x := by
  unfold ndA at h
  split at h
  · exact .inl h
  · simpa using h
theorem overO_mem {g : List Nd → Int → Int → List Nd} (hg : ∀ l s e, ∀ y ∈ g l s e, y ∈ l ∨ y.k = 3 ∨ y.k = 4) (t : Int) : ∀ (os : List Int) (l : List Nd), ∀ y ∈ overO g t os l, y ∈ l ∨ y.k = 3 ∨ y.k = 4
  | [], l, y, h => .inl h
  | o :: r, l, y, h => by
    rcases overO_mem hg t r (g l t o) y h with h | h
    · exact hg _ _ _ _ h
    · exact .inr h
theorem lookF_mem (n : Net) (fr : Int) (st lap : List Stp) (i : Int) : ∀ (k : Nat) (l : List Nd) (s e : Int), ∀ y ∈ lookF n fr st lap i k l s e, y ∈ l ∨ y.k = 3 ∨ y.k = 4
  | 0, l, _, _, y, h => .inl h
  | k + 1, l, s, e, y, h => by
    unfold lookF lookG at h
    split at h
    · exact .inl h
    · split at h
      · exact .inl h
      · split at h
        · split at h
          · exact .inl h
          · rcases ndA_mem h with h | rfl
            · exact .inl h
            · exact .inr (.inl rfl)
        · split at h
          · split at h
            · exact .inl h
            · rcases ndA_mem h with h | rfl
              · exact .inl h
              · exact .inr (.inr rfl)
          · exact overO_mem (fun l s e y h => lookF_mem n fr st lap i k l s e y h) _ _ _ _ h
theorem looksF_mem (n : Net) (fr : Int) (st lap : List Stp) : ∀ (p : List Stp) (i : Int) (l : List Nd), ∀ y ∈ looksF n fr st lap p i l, y ∈ l ∨ y.k = 3 ∨ y.k = 4
  | [], i, l, y, h => .inl h
  | x :: r, i, l, y, h => by
    unfold looksF at h
    rcases looksF_mem n fr st lap r (i + 1) _ y h with h | h
    · exact overO_mem (fun l s e y h => lookF_mem n fr st lap i 8 l s e y h) _ _ _ _ h
    · exact .inr h
theorem start_new (n : Net) (fr : Int) (st lap : List Stp) : ndA (looksF n fr st lap st 0 (tracksF n st 0 ++ lap.map (lapN n))) ⟨5, fr, 0, -1⟩ = needsF n fr st lap := by
  unfold ndA needsF
  rw [if_neg]
  intro h
  rcases looksF_mem _ _ _ _ _ _ _ _ h with h | h
  · simp only [List.mem_append, List.mem_map] at h
    rcases h with h | ⟨y, hy, he⟩
    · have := (tracksF_mem h).1
      simp at this
    · simp [lapN] at he
  · simp at h

end Go.Proofs.Yteadhjclchjfjaa
