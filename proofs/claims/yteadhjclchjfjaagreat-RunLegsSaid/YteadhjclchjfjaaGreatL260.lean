/- Needs in plain Lean: what a route needs; what holds of the routes that are found. -/
import Derived.Test.YteadhjclchjfjaaGreatL250
namespace Go.Proofs.YteadhjclchjfjaaGreat
set_option linter.unusedSimpArgs false
set_option linter.unusedVariables false
open Go.AB

structure Nd where
  (k p o a : Int)
  deriving DecidableEq
def dNd (x : Nd) : DV := .agg [.int .i64 x.k, .int .i64 x.p, .int .i64 x.o, .int .i64 x.a]
def eNd (x : Nd) : AV := .agg [.int .i64 x.k, .int .i64 x.p, .int .i64 x.o, .int .i64 x.a]
/-- A need more, if it is not there yet. -/
def ndA (l : List Nd) (x : Nd) : List Nd := if x ∈ l then l else l ++ [x]
def flankP (l : List Nd) (t e : Int) : Bool := l.any fun x => decide (x.k = 3 ∧ x.p = t ∧ x.o = e)

def overO (g : List Nd → Int → Int → List Nd) (t : Int) : List Int → List Nd → List Nd
  | [], l => l
  | o :: r, l => overO g t r (g l t o)
theorem overO_cons {g : List Nd → Int → Int → List Nd} {t o : Int} {r : List Int} {l : List Nd} : overO g t (o :: r) l = overO g t r (g l t o) := rfl
theorem overO_nil {g : List Nd → Int → Int → List Nd} {t : Int} {l : List Nd} : overO g t [] l = l := rfl

/-- What is needed outward of an end. -/
def lookG (g : List Nd → Int → Int → List Nd) (n : Net) (fr : Int) (st lap : List Stp) (i : Int) (l : List Nd) (s e : Int) : List Nd := match joinL n.links s e with
  | none => l
  | some (t, u) => if psec st t = true ∨ psec lap t = true then l
    else if kindAt n t = 2 ∧ 0 < u then (if flankP l t u = true then l else ndA l ⟨3, t, 3 - u, i⟩)
    else if kindAt n t = 1 ∧ 0 ≤ sigIdx n.sigs t u 0 then (if sigIdx n.sigs t u 0 = fr then l else ndA l ⟨4, sigIdx n.sigs t u 0, 0, i⟩)
    else overO g t (outsF (kindAt n t) u) l
def lookF (n : Net) (fr : Int) (st lap : List Stp) (i : Int) : Nat → List Nd → Int → Int → List Nd
  | 0, l, _, _ => l
  | k + 1, l, s, e => lookG (lookF n fr st lap i k) n fr st lap i l s e

/-- The ends that a step does not use. -/
def freeE (c : Int) (x : Stp) : List Int := if c = 2 then [3 - max x.i x.o] else if c = 3 then (if 1 < x.i then [0, 1] else [2, 3]) else []
def freeL (x : Stp) : Nat → Int → List Int
  | 0, _ => []
  | m + 1, j => if j = x.i ∨ j = x.o then freeL x m (j + 1) else j :: freeL x m (j + 1)

def lookS (n : Net) (fr : Int) (st lap : List Stp) (i : Int) (x : Stp) (l : List Nd) : List Nd := overO (lookF n fr st lap i 8) x.s (freeE (kindAt n x.s) x) l
def looksF (n : Net) (fr : Int) (st lap : List Stp) : List Stp → Int → List Nd → List Nd
  | [], _, l => l
  | x :: r, i, l => looksF n fr st lap r (i + 1) (lookS n fr st lap i x l)
def trackN (n : Net) (i : Int) (x : Stp) : Nd := ⟨1, x.s, posF n x, i⟩
def tracksF (n : Net) : List Stp → Int → List Nd
  | [], _ => []
  | x :: r, i => trackN n i x :: tracksF n r (i + 1)
def lapN (n : Net) (x : Stp) : Nd := ⟨2, x.s, posF n x, -1⟩
def needsF (n : Net) (fr : Int) (st lap : List Stp) : List Nd := looksF n fr st lap st 0 (tracksF n st 0 ++ lap.map (lapN n)) ++ [⟨5, fr, 0, -1⟩]

def homeF (n : Net) (fr : Int) : Int := ((n.sigs[fr.toNat]?).map Pair.s).getD 0
def lapF (n : Net) (r : Rt) : List Stp := if r.to < 0 then [] else match n.sigs[r.to.toNat]? with
  | none => []
  | some st => overG n r.st (homeF n r.fr) 5 [] 0 st.s st.e
def needsR (n : Net) (r : Rt) : List Nd := needsF n r.fr r.st (lapF n r)

/-! Bounds. -/
theorem ndA_len (l : List Nd) (x : Nd) : (ndA l x).length ≤ l.length + 1 := by unfold ndA; split <;> simp
theorem overO_len {g : List Nd → Int → Int → List Nd} {b : Nat} (hg : ∀ l s e, (g l s e).length ≤ l.length + b) (t : Int) : ∀ (os : List Int) (l : List Nd), (overO g t os l).length ≤ l.length + os.length * b
  | [], l => by simp [overO]
  | o :: r, l => by
    rw [overO_cons]
    have h1 := overO_len hg t r (g l t o)
    have h2 := hg l t o
    rw [List.length_cons, Nat.succ_mul]
    omega
theorem lookF_len (n : Net) (fr : Int) (st lap : List Stp) (i : Int) : ∀ (k : Nat) (l : List Nd) (s e : Int), (lookF n fr st lap i k l s e).length ≤ l.length + 2 ^ k
  | 0, l, _, _ => by simp [lookF]
  | k + 1, l, s, e => by
    have hp : 1 ≤ 2 ^ (k + 1) := Nat.one_le_two_pow
    unfold lookF lookG
    split
    · omega
    · rename_i t u _
      split
      · omega
      · split
        · split
          · omega
          · have := ndA_len l ⟨3, t, 3 - u, i⟩; omega
        · split
          · split
            · omega
            · have := ndA_len l ⟨4, sigIdx n.sigs t u 0, 0, i⟩; omega
          · have h1 := overO_len (g := lookF n fr st lap i k) (b := 2 ^ k) (fun l s e => lookF_len n fr st lap i k l s e) t (outsF (kindAt n t) u) l
            have h2 := outsF_len (kindAt n t) u
            have h3 : (outsF (kindAt n t) u).length * 2 ^ k ≤ 2 * 2 ^ k := Nat.mul_le_mul_right _ h2
            rw [Nat.pow_succ]
            omega
theorem freeE_len (c : Int) (x : Stp) : (freeE c x).length ≤ 2 := by unfold freeE; split; simp; split; split <;> simp; simp
theorem lookS_len (n : Net) (fr : Int) (st lap : List Stp) (i : Int) (x : Stp) (l : List Nd) : (lookS n fr st lap i x l).length ≤ l.length + 512 := by
  have h1 := overO_len (g := lookF n fr st lap i 8) (b := 256) (fun l s e => lookF_len n fr st lap i 8 l s e) x.s (freeE (kindAt n x.s) x) l
  have h2 := freeE_len (kindAt n x.s) x
  have h3 : (freeE (kindAt n x.s) x).length * 256 ≤ 2 * 256 := Nat.mul_le_mul_right _ h2
  unfold lookS
  omega
theorem looksF_len (n : Net) (fr : Int) (st lap : List Stp) : ∀ (p : List Stp) (i : Int) (l : List Nd), (looksF n fr st lap p i l).length ≤ l.length + 512 * p.length
  | [], i, l => by simp [looksF]
  | x :: r, i, l => by
    unfold looksF
    have h1 := looksF_len n fr st lap r (i + 1) (lookS n fr st lap i x l)
    have h2 := lookS_len n fr st lap i x l
    simp only [List.length_cons]
    omega
theorem tracksF_len (n : Net) : ∀ (p : List Stp) (i : Int), (tracksF n p i).length = p.length
  | [], _ => rfl
  | x :: r, i => by simp [tracksF, tracksF_len n r (i + 1)]
theorem overG_len (n : Net) (st : List Stp) (home : Int) : ∀ (k : Nat) (l : List Stp) (d s e : Int), (overG n st home k l d s e).length ≤ l.length + k
  | 0, l, _, _, _ => by simp [overG]
  | k + 1, l, d, s, e => by
    unfold overG
    split
    · split
      · omega
      · rename_i t i _
        split
        · omega
        · have := overG_len n st home k (l ++ [⟨t, i, out0 n t i⟩]) (d + slen n t) t (out0 n t i)
          simp only [List.length_append, List.length_singleton] at this
          omega
    · omega
theorem lapF_len (n : Net) (r : Rt) : (lapF n r).length ≤ 5 := by
  unfold lapF
  split
  · simp
  · split
    · simp
    · rename_i st _
      have := overG_len n r.st (homeF n r.fr) 5 [] 0 st.s st.e
      simpa using this
theorem needsR_len (n : Net) (r : Rt) (h : r.st.length ≤ 16) : (needsR n r).length ≤ 10000 := by
  unfold needsR needsF
  have h1 := looksF_len n r.fr r.st (lapF n r) r.st 0 (tracksF n r.st 0 ++ (lapF n r).map (lapN n))
  have h2 := lapF_len n r
  simp only [List.length_append, tracksF_len, List.length_map, List.length_singleton] at h1 ⊢
  omega

/-! What a route keeps to. -/
def StepOk (n : Net) (x : Stp) : Prop := hasF n x.s x.i = true ∧ x.o ∈ outsF (kindAt n x.s) x.i
structure RtOk (n : Net) (r : Rt) : Prop where
  f0 : 0 ≤ r.fr
  f1 : r.fr < n.sigs.length
  t0 : -1 ≤ r.to
  t1 : r.to < n.sigs.length
  l0 : 0 < r.st.length
  l1 : r.st.length ≤ 16
  st : ∀ x ∈ r.st, StepOk n x

theorem sigIdx_bd : ∀ (l : List Pair) (s e i : Int), 0 ≤ i → -1 ≤ sigIdx l s e i ∧ sigIdx l s e i < i + l.length
  | [], s, e, i, h => by simp [sigIdx]; omega
  | x :: l, s, e, i, h => by
    rw [sigIdx_cons]
    split
    · simp; omega
    · have := sigIdx_bd l s e (i + 1) (by omega)
      simp only [List.length_cons]
      omega
theorem walkS_ok {n : Net} (h : netE n = 0) {s e : Int} {x : Stp} (hx : x ∈ walkS n s e) : StepOk n x := by
  unfold walkS at hx
  split at hx
  · cases hx
  · rename_i t i hj
    simp only [List.mem_map] at hx
    obtain ⟨o, ho, rfl⟩ := hx
    exact ⟨joinL_has h hj, ho⟩
theorem stepG_all {g : List Stp → Int → Int → Fd → Fd} {n : Net} {fr home : Int} {p : List Stp} (hf0 : 0 ≤ fr) (hf1 : fr < n.sigs.length) (hp : ∀ x ∈ p, StepOk n x)
    (hg : ∀ q s e f, (∀ x ∈ q, StepOk n x) → (∀ r ∈ f.rs, RtOk n r) → ∀ r ∈ (g q s e f).rs, RtOk n r) : ∀ (l : List Stp) (f : Fd), (∀ x ∈ l, StepOk n x) → (∀ r ∈ f.rs, RtOk n r) → ∀ r ∈ (stepG g n fr home p l f).rs, RtOk n r
  | [], f, _, h => h
  | x :: l, f, hl, h => by
    have hpx : ∀ y ∈ p ++ [x], StepOk n y := fun y hy => by
      simp only [List.mem_append, List.mem_singleton] at hy
      rcases hy with hy | rfl
      · exact hp y hy
      · exact hl y (List.mem_cons_self ..)
    have hl' : ∀ y ∈ l, StepOk n y := fun y hy => hl y (List.mem_cons_of_mem _ hy)
    rw [stepG_cons]
    split
    · exact h
    · split
      · exact h
      · split
        · exact h
        · rename_i h16
          split
          · exact stepG_all hf0 hf1 hp hg l _ hl' (hg _ _ _ _ hpx h)
          · refine stepG_all hf0 hf1 hp hg l _ hl' ?_
            intro r hr
            simp only [countF, List.mem_append, List.mem_singleton] at hr
            rcases hr with hr | rfl
            · exact h r hr
            · have := sigIdx_bd n.sigs x.s x.o 0 (Int.le_refl 0)
              exact ⟨hf0, hf1, this.1, by simpa using this.2, by simp, by simp; omega, hpx⟩
theorem growF_all {n : Net} (he : netE n = 0) {fr home : Int} (hf0 : 0 ≤ fr) (hf1 : fr < n.sigs.length) : ∀ (k : Nat) (p : List Stp) (s e : Int) (f : Fd), (∀ x ∈ p, StepOk n x) → (∀ r ∈ f.rs, RtOk n r) → ∀ r ∈ (growF n fr home k p s e f).rs, RtOk n r
  | 0, _, _, _, _, _, h => h
  | k + 1, p, s, e, f, hp, h => stepG_all hf0 hf1 hp (fun q s e f hq h => growF_all he hf0 hf1 k q s e f hq h) _ _ (fun x hx => walkS_ok he hx) h
theorem growAll_all {n : Net} (he : netE n = 0) : ∀ (l : List Pair) (i : Int) (f : Fd), 0 ≤ i → i + l.length ≤ n.sigs.length → (∀ r ∈ f.rs, RtOk n r) → ∀ r ∈ (growAll n l i f).rs, RtOk n r
  | [], _, _, _, _, h => h
  | x :: l, i, f, h0, h1, h => by
    simp only [List.length_cons] at h1
    exact growAll_all he l (i + 1) _ (by omega) (by omega) (growF_all he h0 (by omega) _ _ _ _ _ (by simp) h)
theorem netL_all (n : Net) : ∀ r ∈ netL n (outL (routesF n)), RtOk n r := by
  unfold netL outL
  split
  · rename_i he
    split
    · simp
    · exact growAll_all he n.sigs 0 ⟨[], 0, false⟩ (Int.le_refl 0) (by simp) (by simp)
  · simp

/-! Steps of a net. -/
theorem StepOk.sec {n : Net} {x : Stp} (h : StepOk n x) : 0 ≤ x.s ∧ x.s < n.sects.length := by
  obtain ⟨⟨q1, q2⟩, q3, q4⟩ := hasF_iff.1 h.1
  exact ⟨q1, by omega⟩
theorem bits01 : bits BinOp.xor IntKind.i64 0 1 = 1 ∧ bits BinOp.xor IntKind.i64 1 1 = 0 ∧ bits BinOp.xor IntKind.i64 2 1 = 3 ∧ bits BinOp.xor IntKind.i64 3 1 = 2 := by decide
theorem free_eq {n : Net} (he : netE n = 0) {x : Stp} (h : StepOk n x) : freeL x (endsF (kindAt n x.s)).toNat 0 = freeE (kindAt n x.s) x := by
  obtain ⟨⟨q1, q2⟩, q3, q4⟩ := hasF_iff.1 h.1
  have h2 := h.2
  obtain ⟨c, hc⟩ : ∃ c, n.sects[x.s.toNat]? = some c := ⟨_, List.getElem?_eq_getElem (by omega)⟩
  have hk : kindAt n x.s = c.kind := by simp [kindAt, hc]
  have hkc := netE_kinds he c (List.mem_of_getElem? hc)
  rw [hk] at q4 h2 ⊢
  obtain ⟨s, i, o⟩ := x
  simp only at *
  generalize c.kind = k at *
  have hk3 : k = 1 ∨ k = 2 ∨ k = 3 := by omega
  have hi : i = 0 ∨ i = 1 ∨ i = 2 ∨ i = 3 := by
    have := endsF_bd k
    omega
  rcases hk3 with rfl | rfl | rfl <;> rcases hi with rfl | rfl | rfl | rfl <;> simp [endsF, outsF, bits01.1, bits01.2.1, bits01.2.2.1, bits01.2.2.2] at q4 h2 <;>
    first
      | (subst h2; rfl)
      | (rcases h2 with rfl | rfl <;> rfl)
      | skip

theorem overG_all {n : Net} (he : netE n = 0) (st : List Stp) (home : Int) : ∀ (k : Nat) (l : List Stp) (d s e : Int), (∀ x ∈ l, 0 ≤ x.s ∧ x.s < n.sects.length) → ∀ x ∈ overG n st home k l d s e, 0 ≤ x.s ∧ x.s < n.sects.length
  | 0, l, _, _, _, h => h
  | k + 1, l, d, s, e, h => by
    unfold overG
    split
    · split
      · exact h
      · rename_i t i hj
        split
        · exact h
        · refine overG_all he st home k _ _ _ _ ?_
          intro x hx
          simp only [List.mem_append, List.mem_singleton] at hx
          rcases hx with hx | rfl
          · exact h x hx
          · obtain ⟨⟨q1, q2⟩, q3, q4⟩ := hasF_iff.1 (joinL_has he hj)
            exact ⟨q1, by simp only; omega⟩
    · exact h
theorem lapF_all {n : Net} (he : netE n = 0) (r : Rt) : ∀ x ∈ lapF n r, 0 ≤ x.s ∧ x.s < n.sects.length := by
  unfold lapF
  split
  · simp
  · split
    · simp
    · exact overG_all he _ _ _ _ _ _ _ (by simp)

/-- No section twice. -/
def OnceP (l : List Stp) : Prop := ∀ (i : Nat) x, l[i]? = some x → psec (l.take i) x.s = false
theorem OnceP.snoc {l : List Stp} {y : Stp} (h : OnceP l) (hy : psec l y.s = false) : OnceP (l ++ [y]) := by
  intro i x hx
  by_cases hi : i < l.length
  · rw [List.getElem?_append_left hi] at hx
    rw [List.take_append_of_le_length (by omega)]
    exact h i x hx
  · have hlt := (List.getElem?_eq_some_iff.1 hx).1
    simp only [List.length_append, List.length_singleton] at hlt
    have : i = l.length := by omega
    subst this
    simp at hx
    subst hx
    simpa using hy
theorem overG_once {n : Net} (st : List Stp) (home : Int) : ∀ (k : Nat) (l : List Stp) (d s e : Int), OnceP l → OnceP (overG n st home k l d s e)
  | 0, l, _, _, _, h => h
  | k + 1, l, d, s, e, h => by
    unfold overG
    split
    · split
      · exact h
      · rename_i t i hj
        split
        · exact h
        · rename_i hn
          refine overG_once st home k _ _ _ _ (h.snoc ?_)
          simp only
          cases hp : psec l t with
          | false => rfl
          | true => exact absurd (.inr (.inl hp)) hn
    · exact h
theorem lapF_once (n : Net) (r : Rt) : OnceP (lapF n r) := by
  unfold lapF
  split
  · intro i x hx; simp at hx
  · split
    · intro i x hx; simp at hx
    · exact overG_once _ _ _ _ _ _ _ (by intro i x hx; simp at hx)

/-! Needs that are not there yet. -/
theorem tracksF_mem {n : Net} : ∀ {p : List Stp} {i : Int} {x : Nd}, x ∈ tracksF n p i → x.k = 1 ∧ i ≤ x.a ∧ x.a < i + p.length
  | [], i, x, h => by cases h
  | y :: p, i, x, h => by
    simp only [tracksF, List.mem_cons] at h
    rcases h with rfl | h
    · simp [trackN]; omega
    · have := tracksF_mem h
      simp only [List.length_cons]
      omega
theorem tracksF_app (n : Net) : ∀ (p : List Stp) (i : Int) (x : Stp), tracksF n (p ++ [x]) i = tracksF n p i ++ [trackN n (i + p.length) x]
  | [], i, x => by simp [tracksF]
  | y :: p, i, x => by
    have := tracksF_app n p (i + 1) x
    simp only [List.cons_append, tracksF, this, List.length_cons]
    congr 4
    omega
theorem track_new (n : Net) (p : List Stp) (x : Stp) : ndA (tracksF n p 0) (trackN n p.length x) = tracksF n (p ++ [x]) 0 := by
  rw [tracksF_app, Int.zero_add]
  unfold ndA
  rw [if_neg]
  intro h
  have := tracksF_mem h
  simp only [trackN] at this
  omega
theorem lap_new (n : Net) (st l : List Stp) (x : Stp) (h : psec l x.s = false) : ndA (tracksF n st 0 ++ l.map (lapN n)) (lapN n x) = tracksF n st 0 ++ (l ++ [x]).map (lapN n) := by
  unfold ndA
  rw [if_neg]
  · simp
  · intro hm
    simp only [List.mem_append, List.mem_map] at hm
    rcases hm with hm | ⟨y, hy, he⟩
    · have := (tracksF_mem hm).1
      simp [lapN] at this
    · simp only [lapN, Nd.mk.injEq] at he
      have : psec l x.s = true := by
        simp only [psec, List.any_eq_true, decide_eq_true_eq]
        exact ⟨y, hy, he.2.1⟩
      rw [h] at this
      cases this
theorem ndA_mem {l : List Nd} {x y : Nd} (h : y ∈ ndA l x) : y ∈ l ∨ y = x := by
  unfold ndA at h
  split at h
  · exact .inl h
  · simpa using h
theorem overO_mem {g : List Nd → Int → Int → List Nd} (hg : ∀ l s e, ∀ y ∈ g l s e, y ∈ l ∨ y.k = 3 ∨ y.k = 4) (t : Int) : ∀ (os : List Int) (l : List Nd), ∀ y ∈ overO g t os l, y ∈ l ∨ y.k = 3 ∨ y.k = 4
  | [], l, y, h => .inl h
  | o :: r, l, y, h => by
    rcases overO_mem hg t r (g l t o) y h with h | h
    · exact hg _ _ _ _ h
    · exact .inr h
theorem lookF_mem (n : Net) (fr : Int) (st lap : List Stp) (i : Int) : ∀ (k : Nat) (l : List Nd) (s e : Int), ∀ y ∈ lookF n fr st lap i k l s e, y ∈ l ∨ y.k = 3 ∨ y.k = 4
  | 0, l, _, _, y, h => .inl h
  | k + 1, l, s, e, y, h => by
    unfold lookF lookG at h
    split at h
    · exact .inl h
    · split at h
      · exact .inl h
      · split at h
        · split at h
          · exact .inl h
          · rcases ndA_mem h with h | rfl
            · exact .inl h
            · exact .inr (.inl rfl)
        · split at h
          · split at h
            · exact .inl h
            · rcases ndA_mem h with h | rfl
              · exact .inl h
              · exact .inr (.inr rfl)
          · exact overO_mem (fun l s e y h => lookF_mem n fr st lap i k l s e y h) _ _ _ _ h
end Go.Proofs.YteadhjclchjfjaaGreat

/- Needs: the list that a looker keeps, and what it has seen. -/
namespace Go.Proofs.YteadhjclchjfjaaGreat
set_option linter.unusedSimpArgs false
set_option linter.unusedVariables false
open Go.AB

theorem f137 (x : Nd) (t e : Int) : PCall Tryz.prog 137 [eNd x, .ept [.int .i64 t], .ept [.int .i64 e]] (RV (.bool (decide (x.k = 3 ∧ x.p = t ∧ x.o = e)))) := by
  refine PCall.of_body Tryz.func137 rfl Tryz.ntmps137 (congrArg Array.toList Tryz.results137) ?_
  intro E
  by_cases h1 : x.k = 3
  · by_cases h2 : x.p = t
    · simp only [go_sem, eNd, h1, h2]; try simp
    · simp only [go_sem, eNd, h1, h2]; try simp [h2]
  · simp only [go_sem, eNd, h1]; try simp [h1]

/-- The place of a flank in a list of needs. -/
def idxN : List Nd → Int → Int → Int → Int
  | [], _, _, _ => -1
  | x :: l, t, e, i => if (x.k = 3 ∧ x.p = t ∧ x.o = e) then i else idxN l t e (i + 1)
theorem idxN_iff : ∀ {l : List Nd} {t e : Int} {i : Int}, 0 ≤ i → (0 ≤ idxN l t e i ↔ flankP l t e = true)
  | [], t, e, i, _ => by simp [idxN, flankP]
  | x :: l, t, e, i, h => by
    have ih := idxN_iff (l := l) (t := t) (e := e) (i := i + 1) (by omega)
    simp only [idxN, flankP, List.any_cons] at ih ⊢
    by_cases hx : (x.k = 3 ∧ x.p = t ∧ x.o = e)
    · simp [hx, h]
    · simp only [hx, if_false, ih]; simp

set_option maxRecDepth 20000 in
theorem f131 (p : List Nd) (t e : Int) (hl : p.length ≤ 100000) : PCall Tryz.prog 131 [.sl 4 (p.map dNd) .no, .fn 137 [.ept [.int .i64 t], .ept [.int .i64 e]]] (RV (.int .i64 (idxN p t e 0))) := by
  refine PCall.of_body Tryz.func131 rfl Tryz.ntmps131 (congrArg Array.toList Tryz.results131) ?_
  intro E
  simp only [go_sem]
  refine AW_loopH [4, 5, 8, 9, 10, 11, 12, 13, 14, 15, 16, 17, 18]
    (fun (i : Nat) ρ m => ρ 8 = .int .i64 (i : Int) ∧ i ≤ p.length ∧ idxN (p.drop i) t e i = idxN p t e 0 ∧ ∃ h nx lv, m = ⟨h, [], nx, lv⟩) (fun i => p.length - i) 0 ?_ ?_
  · simp [go_sem]
  rintro i ρ m ⟨e1, g1, g2, h, nx, lv, rfl⟩ Q hN hR hX
  by_cases hlt : i < p.length
  · obtain ⟨x, hx⟩ : ∃ x, p[i]? = some x := ⟨_, List.getElem?_eq_getElem hlt⟩
    have hxp : (p.map dNd)[i]? = some (dNd x) := by rw [List.getElem?_map, hx]; rfl
    have hlt' : ((i : Int) < (p.length : Int)) = True := by simp; omega
    have h0 : ((0 : Int) ≤ (i : Int)) = True := by simp
    have ew : IntKind.i64.wrap ((i : Int) + 1) = (i : Int) + 1 := i64_in (by omega) (by omega)
    have hd : p.drop i = x :: p.drop (i + 1) := by
      rw [List.drop_eq_getElem_cons hlt]
      rw [List.getElem?_eq_getElem hlt] at hx
      cases hx; rfl
    rw [hd] at g2
    simp only [idxN] at g2
    simp only [go_sem, e1, hlt', h0, hxp, dNd]
    refine callV (f137 x t e) ?_
    intro nx2 lv2
    by_cases q : (x.k = 3 ∧ x.p = t ∧ x.o = e)
    · rw [if_pos q] at g2
      have q' : (x.k = 3 ∧ x.p = t ∧ x.o = e) = True := eq_true q
      simp only [go_sem, q', hR]
      exact g2
    · rw [if_neg q] at g2
      have q' : (x.k = 3 ∧ x.p = t ∧ x.o = e) = False := eq_false q
      simp only [go_sem, q', hN, ew]
      refine ⟨by kernel_rfl, i + 1, ?_, by simp only; omega⟩
      simp only [go_sem]
      exact ⟨by simp, by omega, by rw [← g2]; rfl, _, _, _, rfl⟩
  · have hlt' : ((i : Int) < (p.length : Int)) = False := by simp; omega
    rw [List.drop_eq_nil_of_le (by omega)] at g2
    simp only [idxN] at g2
    simp only [go_sem, e1, hlt', hX]
    exact g2

theorem f115 (p : List Nd) (t e : Int) (hl : p.length ≤ 100000) : PCall Tryz.prog 115 [.sl 4 (p.map dNd) .no, .fn 137 [.ept [.int .i64 t], .ept [.int .i64 e]]] (RV (.bool (flankP p t e))) := by
  refine PCall.of_body Tryz.func115 rfl Tryz.ntmps115 (congrArg Array.toList Tryz.results115) ?_
  intro E
  simp only [go_sem]
  refine callV (f131 p t e hl) ?_
  intro nx lv
  have := idxN_iff (l := p) (t := t) (e := e) (i := 0) (Int.le_refl 0)
  simp only [go_sem]
  cases hh : flankP p t e <;> simp [hh] at this ⊢ <;> omega

/-- What has been seen: the needs of a list. -/
structure SeenN (l : List Nd) (ks vs : List AV) : Prop where
  key : ks.all (keyA Tryz.prog 60) = true
  pk : ks.all portA = true
  pv : vs.all portA = true
  get : ∀ x, mget ks vs (eNd x) = if x ∈ l then some (.bool true) else none
theorem key_nd (x : Nd) : keyA Tryz.prog 60 (eNd x) = true := by simp only [go_sem, eNd]
theorem eNd_inj {x y : Nd} (h : eNd x = eNd y) : x = y := by
  obtain ⟨a, b, c, d⟩ := x
  obtain ⟨a', b', c', d'⟩ := y
  simpa [eNd] using h
theorem mset_vals {P : AV → Bool} : ∀ {ks vs : List AV} {k v : AV}, vs.all P = true → P v = true → (mset ks vs k v).2.all P = true
  | [], vs, k, v, _, h => by simp [mset, h]
  | q :: ks, [], k, v, _, h => by simp [mset, h]
  | q :: ks, u :: vs, k, v, h1, h2 => by
    simp only [List.all_cons, Bool.and_eq_true] at h1
    by_cases hq : q = k
    · simp only [mset, hq, if_true, List.all_cons, h2, h1.2, Bool.and_self]
    · simp only [mset, hq, if_false, List.all_cons, h1.1, Bool.true_and]
      exact mset_vals h1.2 h2
theorem SeenN.nil : SeenN [] [] [] := ⟨rfl, rfl, rfl, fun x => by simp [mget]⟩
theorem SeenN.add {l : List Nd} {ks vs : List AV} {x : Nd} (h : SeenN l ks vs) : SeenN (l ++ [x]) (mset ks vs (eNd x) (.bool true)).1 (mset ks vs (eNd x) (.bool true)).2 := by
  refine ⟨mset_keys h.key (key_nd _), mset_keys h.pk rfl, mset_vals h.pv rfl, fun y => ?_⟩
  rw [mget_mset, h.get]
  simp only [List.mem_append, List.mem_singleton]
  by_cases h1 : eNd x = eNd y
  · have := eNd_inj h1
    subst this
    simp
  · have : ¬ y = x := fun e => h1 (by rw [e])
    simp [h1, this]

def kCells (n : Net) (r : Rt) (lap : List Stp) (l : List Nd) (tok : Tok) (mp : AB.Loc) : List AV :=
  nCells n ++ [.int .i64 r.fr, .int .i64 r.to, .sl 3 (r.st.map dStp) .no, .sl 3 (lap.map dStp) .no, .sl 4 (l.map dNd) tok, .mref mp]
/-- What a call comes to that a looker is handed to. -/
def outN (n : Net) (r : Rt) (lap : List Stp) (g : List Nd) (v : AV) : AH → AV → Prop := fun m x => x = v ∧ ∃ tok ks vs, m.o = [kCells n r lap g tok (.out 1), [.mapc ks vs]] ∧ okT m tok ∧ SeenN g ks vs

theorem kCells_rn {f : AB.Loc → Option AB.Loc} {n : Net} {r : Rt} {lap : List Stp} {l : List Nd} {tok : Tok} {mp mq : AB.Loc} (h : f mp = some mq) : rnCL f (kCells n r lap l tok mp) = some (kCells n r lap l tok mq) := by
  simp only [kCells, nCells, List.cons_append, List.nil_append, rnCL, rnC, port1, h]
theorem mapc_rn {f : AB.Loc → Option AB.Loc} {l : List Nd} {ks vs : List AV} (h : SeenN l ks vs) : rnCL f [.mapc ks vs] = some [.mapc ks vs] := by
  simp only [rnCL, rnC, h.pk, h.pv, Bool.and_self]

/-- A call that a looker is handed to. -/
theorem callN {k : Nat} {n : Net} {r : Rt} {lap : List Stp} {l g : List Nd} {v : AV} {tok : Tok} {ks vs : List AV} {rest : List AV} {σ : AS} {dst : Option Nat} {K : AS → Prop} {l1 l2 : AB.Loc}
    (h : QCall Tryz.prog k ⟨[], [kCells n r lap l tok (.out 1), [.mapc ks vs]], σ.m.nx, σ.m.lv⟩ (.ptr (.out 0) 0 :: rest) (outN n r lap g v)) (hrest : ∀ f, rnAL f rest = some rest) (hv : ∀ f, rnV f v = some v) (hne : l1 ≠ l2)
    (hc : σ.m.cells l1 = some (kCells n r lap l tok l2)) (hm : σ.m.cells l2 = some [.mapc ks vs]) (hs : SeenN l ks vs)
    (hK : ∀ tok' ks' vs' nx2 lv2, okT ⟨[], [], nx2, lv2⟩ tok' → SeenN g ks' vs' →
      K (AS.put ⟨σ.s, ⟨((σ.m.setCells l1 (kCells n r lap g tok' l2)).setCells l2 [.mapc ks' vs']).h, ((σ.m.setCells l1 (kCells n r lap g tok' l2)).setCells l2 [.mapc ks' vs']).o, nx2, lv2⟩⟩ dst v)) :
    effX Tryz.prog k (.ptr l1 0 :: rest) σ dst K := by
  have hne' : (l1 = l2) = False := eq_false hne
  refine effH [l1, l2] (css := [kCells n r lap l tok l2, [.mapc ks vs]]) ?_ ?_ ?_ (.two hne) h ?_
  · simp only [rnAL, rnA, rnC, outF, idxL, if_true, hrest]
  · simp only [cellsL, hc, hm]
  · rw [rnLL, kCells_rn (mq := .out 1) (by simp only [outF, idxL, hne', if_false, if_true])]
    simp only [rnLL, mapc_rn hs]
  · rintro m' x ⟨rfl, tok', ks', vs', ho, hok, hs'⟩
    refine ⟨[kCells n r lap g tok' l2, [.mapc ks' vs']], x, ?_, rfl, hv _, ?_⟩
    · rw [ho, rnLL, kCells_rn (f := backF [l1, l2] none (Loc.own 0 (gnext σ.m 0))) (mq := l2) rfl]
      simp only [rnLL, mapc_rn hs']
    · exact hK tok' ks' vs' _ _ (okT_mono hok fun _ x => x) hs'

set_option maxHeartbeats 1000000 in
set_option maxRecDepth 20000 in
theorem f93 (n : Net) (r : Rt) (lap : List Stp) (l : List Nd) (x : Nd) (tok : Tok) (ks vs : List AV) (nx : Nat) (lv : Nat → Prop) (hl : l.length ≤ 50000) (hs : SeenN l ks vs) (hok : okT ⟨[], [kCells n r lap l tok (.out 1), [.mapc ks vs]], nx, lv⟩ tok) :
    QCall Tryz.prog 93 ⟨[], [kCells n r lap l tok (.out 1), [.mapc ks vs]], nx, lv⟩ [.ptr (.out 0) 0, eNd x] (outN n r lap (ndA l x) (.tup [])) := by
  refine QCall.of_body Tryz.func93 rfl Tryz.ntmps93 (congrArg Array.toList Tryz.results93) ?_
  intro E
  have hg := hs.get x
  unfold eNd at hg
  simp only [go_sem, kCells, nCells, List.cons_append, List.nil_append, eNd]
  refine drawn (by kernel_rfl) (by kernel_rfl) ?_
  simp only [go_sem, kDraw_eq]
  by_cases q : x ∈ l
  · rw [if_pos q] at hg
    have e : ndA l x = l := by simp [ndA, q]
    simp only [go_sem, hg, hs.key, kDraw_eq]
    intro nx2 lv2 hn2 hl2
    rw [e]
    exact ⟨rfl, tok, ks, vs, rfl, okT_mono hok hl2, hs⟩
  · rw [if_neg q] at hg
    have e : ndA l x = l ++ [x] := by simp [ndA, q]
    simp only [go_sem, hg, hs.key, kDraw_eq]
    intro nx1 lv1 hn1 hl1
    refine drawnP [2, 2, 2, 2, 2, 3] [(5, [0, 0, 0, 0, 0, 0])] 26 (by kernel_rfl) (by kernel_rfl) (by kernel_rfl) (by kernel_rfl) rfl ?_
    have hk := key_nd x
    unfold eNd at hk
    simp only [go_sem, hg, hs.key, hk]
    intro nx2 lv2 hn2 hl2
    intro nx3 lv3 hn3 hl3
    refine drawnP [2, 2, 2, 2, 2, 2, 3, 1, 1, 1, 1] [(6, [2, 2, 2, 2, 2, 0, 0, 3, 1, 1, 1]), (7, [2, 0, 0, 0, 0, 0, 0, 0, 2, 2, 3]), (10, [0, 0, 0, 0, 0, 0, 0, 0, 0, 0, 0])] 26 (by kernel_rfl) (by kernel_rfl) (by kernel_rfl) (by kernel_rfl) rfl ?_
    simp only [go_sem]
    intro nx4 lv4 hn4 hl4 nx5 lv5 hn5 hl5
    refine ⟨okT_mono hok fun j z => hl5 j (.inr (hl4 j (hl3 j (hl2 j (hl1 j z))))), by omega, ?_⟩
    intro nx6 lv6 hn6 hl6 nx7 lv7 hn7 hl7
    rw [e]
    refine ⟨rfl, .own nx5, _, _, ?_, hl7 _ (hl6 _ (.inl rfl)), hs.add⟩
    simp [kCells, nCells, dNd, eNd]
end Go.Proofs.YteadhjclchjfjaaGreat

/- Needs: looking outward of an end; a function that calls itself through a variable. -/
namespace Go.Proofs.YteadhjclchjfjaaGreat
set_option linter.unusedSimpArgs false
set_option linter.unusedVariables false
open Go.AB

/-- What lies in memory for a look: pointer to the looker, step, the function, the looker, what it has seen. -/
def lkCells (n : Net) (r : Rt) (lap : List Stp) (step : Int) (l : List Nd) (tok : Tok) (ks vs : List AV) (la lb lc ld le : AB.Loc) : List (List AV) :=
  [[.ptr ld 0], [.int .i64 step], [.fn 123 [.ptr la 0, .ptr lb 0, .ptr lc 0]], kCells n r lap l tok le, [.mapc ks vs]]
def lkMem (n : Net) (r : Rt) (lap : List Stp) (step : Int) (l : List Nd) (tok : Tok) (ks vs : List AV) : List (List AV) := lkCells n r lap step l tok ks vs (.out 0) (.out 1) (.out 2) (.out 3) (.out 4)
def outK (n : Net) (r : Rt) (lap : List Stp) (step : Int) (g : List Nd) : AH → AV → Prop := fun m x => x = .tup [] ∧ ∃ tok ks vs, m.o = lkMem n r lap step g tok ks vs ∧ okT m tok ∧ SeenN g ks vs

theorem lkCells_rn {f : AB.Loc → Option AB.Loc} {n : Net} {r : Rt} {lap : List Stp} {step : Int} {l : List Nd} {tok : Tok} {ks vs : List AV} {la lb lc ld le ma mb mc md me : AB.Loc} (hs : SeenN l ks vs)
    (ha : f la = some ma) (hb : f lb = some mb) (hc : f lc = some mc) (hd : f ld = some md) (he : f le = some me) : rnLL f (lkCells n r lap step l tok ks vs la lb lc ld le) = some (lkCells n r lap step l tok ks vs ma mb mc md me) := by
  simp only [lkCells, rnLL, kCells_rn he, hs.pk, hs.pv, Bool.and_self, rnCL, rnC, rnCL0, rnC0, port1, ha, hb, hc, hd]

theorem callL {n : Net} {r : Rt} {lap : List Stp} {step many s e : Int} {l g : List Nd} {tok : Tok} {ks vs : List AV} {σ : AS} {dst : Option Nat} {K : AS → Prop} {la lb lc ld le : AB.Loc}
    (h : QCall Tryz.prog 123 ⟨[], lkMem n r lap step l tok ks vs, σ.m.nx, σ.m.lv⟩ [.agg [.int .i64 s, .int .i64 e], .int .i64 many, .ptr (.out 0) 0, .ptr (.out 1) 0, .ptr (.out 2) 0] (outK n r lap step g))
    (hok : IdxOk [la, lb, lc, ld, le]) (ha : σ.m.cells la = some [.ptr ld 0]) (hb : σ.m.cells lb = some [.int .i64 step]) (hc : σ.m.cells lc = some [.fn 123 [.ptr la 0, .ptr lb 0, .ptr lc 0]])
    (hd : σ.m.cells ld = some (kCells n r lap l tok le)) (he : σ.m.cells le = some [.mapc ks vs]) (hs : SeenN l ks vs)
    (hK : ∀ tok' ks' vs' nx2 lv2, okT ⟨[], [], nx2, lv2⟩ tok' → SeenN g ks' vs' →
      K (AS.put ⟨σ.s, ⟨(σ.m.setAll [la, lb, lc, ld, le] (lkCells n r lap step g tok' ks' vs' la lb lc ld le)).h, (σ.m.setAll [la, lb, lc, ld, le] (lkCells n r lap step g tok' ks' vs' la lb lc ld le)).o, nx2, lv2⟩⟩ dst (.tup []))) :
    effX Tryz.prog 123 [.agg [.int .i64 s, .int .i64 e], .int .i64 many, .ptr la 0, .ptr lb 0, .ptr lc 0] σ dst K := by
  have oa : outF [la, lb, lc, ld, le] la = some (.out 0) := by simp only [outF, hok 0 la rfl]
  have ob : outF [la, lb, lc, ld, le] lb = some (.out 1) := by simp only [outF, hok 1 lb rfl]
  have oc : outF [la, lb, lc, ld, le] lc = some (.out 2) := by simp only [outF, hok 2 lc rfl]
  have od : outF [la, lb, lc, ld, le] ld = some (.out 3) := by simp only [outF, hok 3 ld rfl]
  have oe : outF [la, lb, lc, ld, le] le = some (.out 4) := by simp only [outF, hok 4 le rfl]
  refine effH [la, lb, lc, ld, le] (css := lkCells n r lap step l tok ks vs la lb lc ld le) ?_ ?_ ?_ hok h ?_
  · simp only [rnAL, rnA, rnCL, rnC, port1, oa, ob, oc]
  · simp only [cellsL, ha, hb, hc, hd, he, lkCells]
  · exact lkCells_rn hs oa ob oc od oe
  · rintro m' x ⟨rfl, tok', ks', vs', ho, hok', hs'⟩
    refine ⟨lkCells n r lap step g tok' ks' vs' la lb lc ld le, .tup [], ?_, rfl, rfl, ?_⟩
    · rw [ho]
      exact lkCells_rn hs' rfl rfl rfl rfl rfl
    · exact hK tok' ks' vs' _ _ (okT_mono hok' fun _ x => x) hs'

theorem idx5 : IdxOk [.out 0, .out 1, .out 2, .out 3, .out 4] := by
  intro i x hx
  match i, hx with
  | 0, hx => cases hx; rfl
  | 1, hx => cases hx; rfl
  | 2, hx => cases hx; rfl
  | 3, hx => cases hx; rfl
  | 4, hx => cases hx; rfl
  | n + 5, hx => simp at hx

set_option maxHeartbeats 1000000 in
theorem f124 (n : Net) (r : Rt) (lap : List Stp) (l : List Nd) (t e : Int) (tok : Tok) (ks vs : List AV) (nx : Nat) (lv : Nat → Prop) (hl : l.length ≤ 50000) (hs : SeenN l ks vs) (hok : okT ⟨[], [kCells n r lap l tok (.out 1), [.mapc ks vs]], nx, lv⟩ tok) :
    QCall Tryz.prog 124 ⟨[], [kCells n r lap l tok (.out 1), [.mapc ks vs]], nx, lv⟩ [.ptr (.out 0) 0, .int .i64 t, .int .i64 e] (outN n r lap l (.bool (flankP l t e))) := by
  refine QCall.of_body Tryz.func124 rfl Tryz.ntmps124 (congrArg Array.toList Tryz.results124) ?_
  intro E
  simp only [go_sem, kCells, nCells, List.cons_append, List.nil_append]
  refine .inl (quiet (f115 l t e (by omega)) rfl ?_)
  simp only [go_sem]
  exact ⟨rfl, tok, ks, vs, rfl, okT_mono hok fun _ x => x, hs⟩

set_option maxHeartbeats 4000000 in
set_option maxRecDepth 20000 in
theorem f123 (n : Net) (hb : NetB n) (he : netE n = 0) (r : Rt) (hr : r.st.length ≤ 1000) (lap : List Stp) (hlap : lap.length ≤ 1000) (step : Int) : ∀ (k : Nat) (l : List Nd) (s e many : Int) (tok : Tok) (ks vs : List AV) (nx : Nat) (lv : Nat → Prop), many = 8 - (k : Int) → k ≤ 8 → l.length + 2 ^ k ≤ 50000 → SeenN l ks vs → okT ⟨[], lkMem n r lap step l tok ks vs, nx, lv⟩ tok →
    QCall Tryz.prog 123 ⟨[], lkMem n r lap step l tok ks vs, nx, lv⟩ [.agg [.int .i64 s, .int .i64 e], .int .i64 many, .ptr (.out 0) 0, .ptr (.out 1) 0, .ptr (.out 2) 0] (outK n r lap step (lookF n r.fr r.st lap step k l s e)) := by
  intro k
  induction k with
  | zero =>
    intro l s e many tok ks vs nx lv hm hk hl hs hok
    have hm' : (many = 8) = True := eq_true (by omega)
    refine QCall.of_body Tryz.func123 rfl Tryz.ntmps123 (congrArg Array.toList Tryz.results123) ?_
    intro E
    simp only [go_sem, lkMem, lkCells, kCells, nCells, List.cons_append, List.nil_append]
    refine drawnP [2, 2, 2, 2, 2, 2, 2, 2, 2, 3, 1, 1] [(9, [2, 2, 2, 2, 2, 2, 2, 2, 2, 0, 3, 1]), (10, [0, 0, 0, 0, 0, 0, 0, 0, 2, 0, 0, 2])] 122 (by kernel_rfl) (by kernel_rfl) (by kernel_rfl) (by kernel_rfl) rfl ?_
    simp only [go_sem]
    refine quietD (f86 n s e hb) (fun _ => rfl) ?_
    simp only [go_sem]
    intro nx1 lv1 hn1 hl1
    refine quietD (f86 n s e hb) (fun _ => rfl) ?_
    simp only [go_sem]
    intro nx2 lv2 hn2 hl2 nx3 lv3 hn3 hl3
    refine drawn (by kernel_rfl) (by kernel_rfl) ?_
    simp only [go_sem, hm']
    have done : ∀ (h : List (Nat × Nat × List AV)) (nx : Nat) (lv4 : Nat → Prop), (∀ j, lv3 j → lv4 j) → outK n r lap step (lookF n r.fr r.st lap step 0 l s e) ⟨h, lkMem n r lap step l tok ks vs, nx, lv4⟩ (.tup []) := fun h nx lv4 hl4 =>
      ⟨rfl, tok, ks, vs, rfl, okT_mono hok fun j z => hl4 j (hl3 j (hl2 j (hl1 j z))), hs⟩
    cases hj : (joinL n.links s e).isSome with
    | false =>
      simp only [go_sem, kDraw_eq]
      intro nx4 lv4 hn4 hl4
      exact done _ _ _ hl4
    | true =>
      simp only [go_sem, kDraw_eq]
      intro nx4 lv4 hn4 hl4
      exact done _ _ _ hl4
  | succ k ih =>
    intro l s e many tok ks vs nx lv hm hk hl hs hok
    have hm' : (many = 8) = False := eq_false (by omega)
    have hll : l.length ≤ 50000 := Nat.le_trans (Nat.le_add_right _ _) hl
    rw [Nat.pow_succ] at hl
    have ewm : IntKind.i64.wrap (many + 1) = many + 1 := i64_in (by omega) (by omega)
    refine QCall.of_body Tryz.func123 rfl Tryz.ntmps123 (congrArg Array.toList Tryz.results123) ?_
    intro E
    generalize hF : lookF n r.fr r.st lap step (k + 1) l s e = F
    unfold lookF lookG at hF
    simp only [go_sem, lkMem, lkCells, kCells, nCells, List.cons_append, List.nil_append]
    refine drawnP [2, 2, 2, 2, 2, 2, 2, 2, 2, 3, 1, 1] [(9, [2, 2, 2, 2, 2, 2, 2, 2, 2, 0, 3, 1]), (10, [0, 0, 0, 0, 0, 0, 0, 0, 2, 0, 0, 2])] 122 (by kernel_rfl) (by kernel_rfl) (by kernel_rfl) (by kernel_rfl) rfl ?_
    simp only [go_sem]
    refine quietD (f86 n s e hb) (fun _ => rfl) ?_
    simp only [go_sem]
    intro nx1 lv1 hn1 hl1
    refine quietD (f86 n s e hb) (fun _ => rfl) ?_
    simp only [go_sem]
    intro nx2 lv2 hn2 hl2 nx3 lv3 hn3 hl3
    refine drawn (by kernel_rfl) (by kernel_rfl) ?_
    cases hj : joinL n.links s e with
    | none =>
      rw [hj] at hF
      simp only at hF
      subst hF
      simp only [go_sem, Option.isSome_none, kDraw_eq]
      intro nx4 lv4 hn4 hl4
      exact ⟨rfl, tok, ks, vs, rfl, okT_mono hok fun j z => hl4 j (hl3 j (hl2 j (hl1 j z))), hs⟩
    | some q =>
      obtain ⟨t, u⟩ := q
      rw [hj] at hF
      simp only at hF
      simp only [go_sem, hm', Option.isSome_some, joinS, joinE]
      refine quietD (f89 r.st t (by omega)) (fun _ => rfl) ?_
      by_cases a1 : psec r.st t = true
      · rw [if_pos (.inl a1)] at hF
        subst hF
        simp only [go_sem, a1, kDraw_eq]
        intro nx4 lv4 hn4 hl4
        exact ⟨rfl, tok, ks, vs, rfl, okT_mono hok fun j z => hl4 j (hl3 j (hl2 j (hl1 j z))), hs⟩
      have a1 : psec r.st t = false := by simpa using a1
      simp only [go_sem, a1]
      refine quietD (f89 lap t (by omega)) (fun _ => rfl) ?_
      by_cases a2 : psec lap t = true
      · rw [if_pos (.inr a2)] at hF
        subst hF
        simp only [go_sem, a2, kDraw_eq]
        intro nx4 lv4 hn4 hl4
        exact ⟨rfl, tok, ks, vs, rfl, okT_mono hok fun j z => hl4 j (hl3 j (hl2 j (hl1 j z))), hs⟩
      have a2 : psec lap t = false := by simpa using a2
      rw [if_neg (by simp [a1, a2])] at hF
      simp only [go_sem, a2, kDraw_eq]
      intro nx4 lv4 hn4 hl4
      have hfl := joinL_has he hj
      obtain ⟨⟨q1, q2⟩, q3, q4⟩ := hasF_iff.1 hfl
      have hltt : t.toNat < n.sects.length := by omega
      obtain ⟨c, hc⟩ : ∃ c, n.sects[t.toNat]? = some c := ⟨_, List.getElem?_eq_getElem hltt⟩
      have hc2 : (n.sects.map dSect)[t.toNat]? = some (dSect c) := by rw [List.getElem?_map, hc]; rfl
      have hkd : kindAt n t = c.kind := by simp [kindAt, hc]
      have hkc := netE_kinds he c (List.mem_of_getElem? hc)
      have i1 : ((0 : Int) ≤ t) = True := eq_true q1
      have i2 : (t < (n.sects.length : Int)) = True := eq_true (by omega)
      have hu3 : u ≤ 3 := by have := endsF_bd (kindAt n t); omega
      rw [hkd] at hF
      refine drawn (by kernel_rfl) (by kernel_rfl) ?_
      by_cases b1 : c.kind = 2 ∧ 0 < u
      · rw [if_pos b1] at hF
        have b1a : (c.kind = 2) = True := eq_true b1.1
        have b1b : (0 < u) = True := eq_true b1.2
        have ew : IntKind.i64.wrap (3 - u) = 3 - u := i64_in (by omega) (by omega)
        simp only [go_sem, i1, i2, hc, hc2, Option.map_some, dSect, b1a, b1b, kDraw_eq]
        intro nx5 lv5 hn5 hl5
        have hok5 : okT ⟨[], [], nx5, lv5⟩ tok := okT_mono hok fun j z => hl5 j (hl4 j (hl3 j (hl2 j (hl1 j z))))
        refine .inr (callN (f124 n r lap l t u tok ks vs nx5 lv5 hll hs (okT_mono hok5 fun _ z => z)) (fun _ => rfl) (fun _ => rfl) (l1 := .out 3) (l2 := .out 4) (by decide) rfl rfl hs ?_)
        intro tok6 ks6 vs6 nx6 lv6 hok6 hs6
        by_cases b2 : flankP l t u = true
        · rw [if_pos b2] at hF
          subst hF
          simp only [go_sem, b2, kCells, nCells, List.cons_append, List.nil_append]
          exact ⟨rfl, tok6, ks6, vs6, rfl, okT_mono hok6 fun _ z => z, hs6⟩
        · rw [if_neg b2] at hF
          have b2 : flankP l t u = false := by simpa using b2
          simp only [go_sem, b2, kCells, nCells, List.cons_append, List.nil_append, ew]
          refine .inr (callN (f93 n r lap l ⟨3, t, 3 - u, step⟩ tok6 ks6 vs6 nx6 lv6 hll hs6 (okT_mono hok6 fun _ z => z)) (fun _ => rfl) (fun _ => rfl) (l1 := .out 3) (l2 := .out 4) (by decide) rfl rfl hs6 ?_)
          intro tok7 ks7 vs7 nx7 lv7 hok7 hs7
          simp only [go_sem, kCells, nCells, List.cons_append, List.nil_append]
          subst hF
          exact ⟨rfl, tok7, ks7, vs7, rfl, okT_mono hok7 fun _ z => z, hs7⟩
      rw [if_neg b1] at hF
      have c2b : c.kind = 1 → (c.kind = 2) = False := fun z => eq_false (by omega)
      by_cases c1 : c.kind = 1 ∧ 0 ≤ sigIdx n.sigs t u 0
      · rw [if_pos c1] at hF
        have c1a : (c.kind = 1) = True := eq_true c1.1
        have c1c : (0 ≤ sigIdx n.sigs t u 0) = True := eq_true c1.2
        simp only [go_sem, i1, i2, hc, hc2, Option.map_some, dSect, c1a, c2b c1.1, kDraw_eq]
        intro nx5 lv5 hn5 hl5
        refine drawn (by kernel_rfl) (by kernel_rfl) ?_
        simp only [go_sem]
        refine quietD (f122 n t u hb) (fun _ => rfl) ?_
        simp only [go_sem, c1c, kDraw_eq]
        intro nx6 lv6 hn6 hl6
        have hok6 : okT ⟨[], [], nx6, lv6⟩ tok := okT_mono hok fun j z => hl6 j (hl5 j (hl4 j (hl3 j (hl2 j (hl1 j z)))))
        by_cases c3 : sigIdx n.sigs t u 0 = r.fr
        · rw [if_pos c3] at hF
          have c3a : (sigIdx n.sigs t u 0 = r.fr) = True := eq_true c3
          subst hF
          simp only [go_sem, c3a]
          exact ⟨rfl, tok, ks, vs, rfl, okT_mono hok6 fun _ z => z, hs⟩
        · rw [if_neg c3] at hF
          have c3a : (sigIdx n.sigs t u 0 = r.fr) = False := eq_false c3
          simp only [go_sem, c3a]
          refine .inr (callN (f93 n r lap l ⟨4, sigIdx n.sigs t u 0, 0, step⟩ tok ks vs nx6 lv6 hll hs (okT_mono hok6 fun _ z => z)) (fun _ => rfl) (fun _ => rfl) (l1 := .out 3) (l2 := .out 4) (by decide) rfl rfl hs ?_)
          intro tok7 ks7 vs7 nx7 lv7 hok7 hs7
          simp only [go_sem, kCells, nCells, List.cons_append, List.nil_append]
          subst hF
          exact ⟨rfl, tok7, ks7, vs7, rfl, okT_mono hok7 fun _ z => z, hs7⟩
      rw [if_neg c1] at hF
      have hcs : (c.kind = 2 ∧ ¬ 0 < u) ∨ (c.kind = 1 ∧ ¬ 0 ≤ sigIdx n.sigs t u 0) ∨ c.kind = 3 := by omega
      rcases hcs with ⟨c2, c3⟩ | ⟨c2, c3⟩ | c2
      · have c2a : (c.kind = 2) = True := eq_true c2
        have c2c : (c.kind = 1) = False := eq_false (by omega)
        have c2d : (0 < u) = False := eq_false c3
        simp only [go_sem, i1, i2, hc, hc2, Option.map_some, dSect, c2a, c2c, c2d, kDraw_eq]
        intro nx5 lv5 hn5 hl5
        have hok5 : okT ⟨[], [], nx5, lv5⟩ tok := okT_mono hok fun j z => hl5 j (hl4 j (hl3 j (hl2 j (hl1 j z))))
        refine callVt (f97 c.kind u) ?_
        intro nx6 lv6 hn6 hl6
        have hle := outsF_len c.kind u
        generalize outsF c.kind u = os at hF hle ⊢
        simp only [go_sem, lInts]
        refine AW_loopH [12, 109, 110, 111, 112, 113, 114, 115, 116, 117, 118, 119, 120, 121]
          (fun (j : Nat) ρ m => ρ 109 = .int .i64 (j : Int) ∧ j ≤ os.length ∧ ∃ h nx lv tok ks vs l', m = ⟨h, lkMem n r lap step l' tok ks vs, nx, lv⟩ ∧ AB.hget h 7 = some (0, [.int .i64 t, .int .i64 u]) ∧ okT m tok ∧ SeenN l' ks vs ∧
            l'.length + (os.length - j) * 2 ^ k ≤ 50000 ∧ overO (lookF n r.fr r.st lap step k) t (os.drop j) l' = F) (fun j => os.length - j) 0 ?_ ?_
        · simp only [go_sem]
          refine ⟨Nat.zero_le _, _, _, _, tok, ks, vs, l, rfl, by simp [go_sem], okT_mono hok5 fun j z => hl6 j z, hs, ?_, hF⟩
          have := Nat.mul_le_mul_right (2 ^ k) hle
          rw [Nat.sub_zero]
          omega
        rintro j ρ m ⟨e109, g1, h, nx7, lv7, tok7, ks7, vs7, l7, rfl, b7, hok7, hs7, hl7, g2⟩ Q hN hR hX
        by_cases hlt : j < os.length
        · obtain ⟨o, ho⟩ : ∃ o, os[j]? = some o := ⟨_, List.getElem?_eq_getElem hlt⟩
          have hlt' : ((j : Int) < (os.length : Int)) = True := by simp; omega
          have h0 : ((0 : Int) ≤ (j : Int)) = True := by simp
          have ew : IntKind.i64.wrap ((j : Int) + 1) = (j : Int) + 1 := i64_in (by omega) (by omega)
          have hd : os.drop j = o :: os.drop (j + 1) := by
            rw [List.drop_eq_getElem_cons hlt]
            rw [List.getElem?_eq_getElem hlt] at ho
            cases ho; rfl
          rw [hd, overO_cons] at g2
          have hsub : os.length - j = (os.length - (j + 1)) + 1 := by omega
          rw [hsub, Nat.succ_mul] at hl7
          have hlen := lookF_len n r.fr r.st lap step k l7 t o
          simp only [go_sem, e109, hlt', h0, ho, Option.map_some, b7, ewm, lkMem, lkCells]
          refine .inr (callL (ih l7 t o (many + 1) tok7 ks7 vs7 nx7 lv7 (by omega) (by omega) (by omega) hs7 (okT_mono hok7 fun _ z => z)) idx5 rfl rfl rfl rfl rfl hs7 ?_)
          intro tok8 ks8 vs8 nx8 lv8 hok8 hs8
          simp only [go_sem, AH.setAll, lkCells, hN, ew]
          refine ⟨by kernel_rfl, j + 1, ?_, by simp only; omega⟩
          simp only [go_sem]
          exact ⟨by simp, by omega, _, _, _, tok8, ks8, vs8, _, rfl, b7, okT_mono hok8 fun _ z => z, hs8, by omega, g2⟩
        · have hlt' : ((j : Int) < (os.length : Int)) = False := by simp; omega
          rw [List.drop_eq_nil_of_le (by omega), overO_nil] at g2
          subst g2
          simp only [go_sem, e109, hlt', hX]
          exact ⟨rfl, tok7, ks7, vs7, rfl, okT_mono hok7 fun _ z => z, hs7⟩
      · have c2a : (c.kind = 1) = True := eq_true c2
        have c2d : (0 ≤ sigIdx n.sigs t u 0) = False := eq_false c3
        simp only [go_sem, i1, i2, hc, hc2, Option.map_some, dSect, c2a, c2b c2, kDraw_eq]
        intro nxa lva hna hla
        refine drawn (by kernel_rfl) (by kernel_rfl) ?_
        simp only [go_sem]
        refine quietD (f122 n t u hb) (fun _ => rfl) ?_
        simp only [go_sem, c2d, kDraw_eq]
        intro nx5 lv5 hn5 hl5
        have hok5 : okT ⟨[], [], nx5, lv5⟩ tok := okT_mono hok fun j z => hl5 j (hla j (hl4 j (hl3 j (hl2 j (hl1 j z)))))
        refine callVt (f97 c.kind u) ?_
        intro nx6 lv6 hn6 hl6
        have hle := outsF_len c.kind u
        generalize outsF c.kind u = os at hF hle ⊢
        simp only [go_sem, lInts]
        refine AW_loopH [12, 109, 110, 111, 112, 113, 114, 115, 116, 117, 118, 119, 120, 121]
          (fun (j : Nat) ρ m => ρ 109 = .int .i64 (j : Int) ∧ j ≤ os.length ∧ ∃ h nx lv tok ks vs l', m = ⟨h, lkMem n r lap step l' tok ks vs, nx, lv⟩ ∧ AB.hget h 7 = some (0, [.int .i64 t, .int .i64 u]) ∧ okT m tok ∧ SeenN l' ks vs ∧
            l'.length + (os.length - j) * 2 ^ k ≤ 50000 ∧ overO (lookF n r.fr r.st lap step k) t (os.drop j) l' = F) (fun j => os.length - j) 0 ?_ ?_
        · simp only [go_sem]
          refine ⟨Nat.zero_le _, _, _, _, tok, ks, vs, l, rfl, by simp [go_sem], okT_mono hok5 fun j z => hl6 j z, hs, ?_, hF⟩
          have := Nat.mul_le_mul_right (2 ^ k) hle
          rw [Nat.sub_zero]
          omega
        rintro j ρ m ⟨e109, g1, h, nx7, lv7, tok7, ks7, vs7, l7, rfl, b7, hok7, hs7, hl7, g2⟩ Q hN hR hX
        by_cases hlt : j < os.length
        · obtain ⟨o, ho⟩ : ∃ o, os[j]? = some o := ⟨_, List.getElem?_eq_getElem hlt⟩
          have hlt' : ((j : Int) < (os.length : Int)) = True := by simp; omega
          have h0 : ((0 : Int) ≤ (j : Int)) = True := by simp
          have ew : IntKind.i64.wrap ((j : Int) + 1) = (j : Int) + 1 := i64_in (by omega) (by omega)
          have hd : os.drop j = o :: os.drop (j + 1) := by
            rw [List.drop_eq_getElem_cons hlt]
            rw [List.getElem?_eq_getElem hlt] at ho
            cases ho; rfl
          rw [hd, overO_cons] at g2
          have hsub : os.length - j = (os.length - (j + 1)) + 1 := by omega
          rw [hsub, Nat.succ_mul] at hl7
          have hlen := lookF_len n r.fr r.st lap step k l7 t o
          simp only [go_sem, e109, hlt', h0, ho, Option.map_some, b7, ewm, lkMem, lkCells]
          refine .inr (callL (ih l7 t o (many + 1) tok7 ks7 vs7 nx7 lv7 (by omega) (by omega) (by omega) hs7 (okT_mono hok7 fun _ z => z)) idx5 rfl rfl rfl rfl rfl hs7 ?_)
          intro tok8 ks8 vs8 nx8 lv8 hok8 hs8
          simp only [go_sem, AH.setAll, lkCells, hN, ew]
          refine ⟨by kernel_rfl, j + 1, ?_, by simp only; omega⟩
          simp only [go_sem]
          exact ⟨by simp, by omega, _, _, _, tok8, ks8, vs8, _, rfl, b7, okT_mono hok8 fun _ z => z, hs8, by omega, g2⟩
        · have hlt' : ((j : Int) < (os.length : Int)) = False := by simp; omega
          rw [List.drop_eq_nil_of_le (by omega), overO_nil] at g2
          subst g2
          simp only [go_sem, e109, hlt', hX]
          exact ⟨rfl, tok7, ks7, vs7, rfl, okT_mono hok7 fun _ z => z, hs7⟩
      · have c2a : (c.kind = 1) = False := eq_false (by omega)
        have c2c : (c.kind = 2) = False := eq_false (by omega)
        simp only [go_sem, i1, i2, hc, hc2, Option.map_some, dSect, c2a, c2c, kDraw_eq]
        intro nx5 lv5 hn5 hl5
        have hok5 : okT ⟨[], [], nx5, lv5⟩ tok := okT_mono hok fun j z => hl5 j (hl4 j (hl3 j (hl2 j (hl1 j z))))
        refine callVt (f97 c.kind u) ?_
        intro nx6 lv6 hn6 hl6
        have hle := outsF_len c.kind u
        generalize outsF c.kind u = os at hF hle ⊢
        simp only [go_sem, lInts]
        refine AW_loopH [12, 109, 110, 111, 112, 113, 114, 115, 116, 117, 118, 119, 120, 121]
          (fun (j : Nat) ρ m => ρ 109 = .int .i64 (j : Int) ∧ j ≤ os.length ∧ ∃ h nx lv tok ks vs l', m = ⟨h, lkMem n r lap step l' tok ks vs, nx, lv⟩ ∧ AB.hget h 7 = some (0, [.int .i64 t, .int .i64 u]) ∧ okT m tok ∧ SeenN l' ks vs ∧
            l'.length + (os.length - j) * 2 ^ k ≤ 50000 ∧ overO (lookF n r.fr r.st lap step k) t (os.drop j) l' = F) (fun j => os.length - j) 0 ?_ ?_
        · simp only [go_sem]
          refine ⟨Nat.zero_le _, _, _, _, tok, ks, vs, l, rfl, by simp [go_sem], okT_mono hok5 fun j z => hl6 j z, hs, ?_, hF⟩
          have := Nat.mul_le_mul_right (2 ^ k) hle
          rw [Nat.sub_zero]
          omega
        rintro j ρ m ⟨e109, g1, h, nx7, lv7, tok7, ks7, vs7, l7, rfl, b7, hok7, hs7, hl7, g2⟩ Q hN hR hX
        by_cases hlt : j < os.length
        · obtain ⟨o, ho⟩ : ∃ o, os[j]? = some o := ⟨_, List.getElem?_eq_getElem hlt⟩
          have hlt' : ((j : Int) < (os.length : Int)) = True := by simp; omega
          have h0 : ((0 : Int) ≤ (j : Int)) = True := by simp
          have ew : IntKind.i64.wrap ((j : Int) + 1) = (j : Int) + 1 := i64_in (by omega) (by omega)
          have hd : os.drop j = o :: os.drop (j + 1) := by
            rw [List.drop_eq_getElem_cons hlt]
            rw [List.getElem?_eq_getElem hlt] at ho
            cases ho; rfl
          rw [hd, overO_cons] at g2
          have hsub : os.length - j = (os.length - (j + 1)) + 1 := by omega
          rw [hsub, Nat.succ_mul] at hl7
          have hlen := lookF_len n r.fr r.st lap step k l7 t o
          simp only [go_sem, e109, hlt', h0, ho, Option.map_some, b7, ewm, lkMem, lkCells]
          refine .inr (callL (ih l7 t o (many + 1) tok7 ks7 vs7 nx7 lv7 (by omega) (by omega) (by omega) hs7 (okT_mono hok7 fun _ z => z)) idx5 rfl rfl rfl rfl rfl hs7 ?_)
          intro tok8 ks8 vs8 nx8 lv8 hok8 hs8
          simp only [go_sem, AH.setAll, lkCells, hN, ew]
          refine ⟨by kernel_rfl, j + 1, ?_, by simp only; omega⟩
          simp only [go_sem]
          exact ⟨by simp, by omega, _, _, _, tok8, ks8, vs8, _, rfl, b7, okT_mono hok8 fun _ z => z, hs8, by omega, g2⟩
        · have hlt' : ((j : Int) < (os.length : Int)) = False := by simp; omega
          rw [List.drop_eq_nil_of_le (by omega), overO_nil] at g2
          subst g2
          simp only [go_sem, e109, hlt', hX]
          exact ⟨rfl, tok7, ks7, vs7, rfl, okT_mono hok7 fun _ z => z, hs7⟩
end Go.Proofs.YteadhjclchjfjaaGreat

/- Needs: what a step looks for. -/
namespace Go.Proofs.YteadhjclchjfjaaGreat
set_option linter.unusedSimpArgs false
set_option linter.unusedVariables false
open Go.AB

theorem freeL_step (x : Stp) (m : Nat) (j : Int) : freeL x (m + 1) j = if j = x.i ∨ j = x.o then freeL x m (j + 1) else j :: freeL x m (j + 1) := rfl
theorem idxLook : IdxOk [.own 2 0, .own 3 0, .own 4 0, .out 0, .out 1] := by
  intro i x hx
  match i, hx with
  | 0, hx => cases hx; rfl
  | 1, hx => cases hx; rfl
  | 2, hx => cases hx; rfl
  | 3, hx => cases hx; rfl
  | 4, hx => cases hx; rfl
  | n + 5, hx => simp at hx

set_option maxHeartbeats 4000000 in
set_option maxRecDepth 20000 in
theorem f95 (n : Net) (hb : NetB n) (he : netE n = 0) (r : Rt) (hr : r.st.length ≤ 1000) (lap : List Stp) (hlap : lap.length ≤ 1000) (i : Nat) (x : Stp) (hx : r.st[i]? = some x) (hok1 : StepOk n x) (l : List Nd) (tok : Tok) (ks vs : List AV) (nx : Nat) (lv : Nat → Prop) (hl : l.length ≤ 40000) (hs : SeenN l ks vs) (hok : okT ⟨[], [kCells n r lap l tok (.out 1), [.mapc ks vs]], nx, lv⟩ tok) :
    QCall Tryz.prog 95 ⟨[], [kCells n r lap l tok (.out 1), [.mapc ks vs]], nx, lv⟩ [.ptr (.out 0) 0, .int .i64 i] (outN n r lap (lookS n r.fr r.st lap i x l) (.tup [])) := by
  refine QCall.of_body Tryz.func95 rfl Tryz.ntmps95 (congrArg Array.toList Tryz.results95) ?_
  intro E
  generalize hF : lookS n r.fr r.st lap i x l = F
  unfold lookS at hF
  rw [← free_eq he hok1] at hF
  obtain ⟨s1, s2⟩ := hok1.sec
  obtain ⟨c, hc⟩ : ∃ c, n.sects[x.s.toNat]? = some c := ⟨_, List.getElem?_eq_getElem (by omega)⟩
  have hc2 : (n.sects.map dSect)[x.s.toNat]? = some (dSect c) := by rw [List.getElem?_map, hc]; rfl
  have hkd : kindAt n x.s = c.kind := by simp [kindAt, hc]
  have i1 : ((0 : Int) ≤ x.s) = True := eq_true s1
  have i2 : (x.s < (n.sects.length : Int)) = True := eq_true s2
  have hilt : i < r.st.length := (List.getElem?_eq_some_iff.1 hx).1
  have j1 : ((0 : Int) ≤ (i : Int)) = True := by simp
  have j2 : ((i : Int) < (r.st.length : Int)) = True := by simp; omega
  have hx2 : (r.st.map dStp)[i]? = some (dStp x) := by rw [List.getElem?_map, hx]; rfl
  rw [hkd] at hF
  have he4 := endsF_bd c.kind
  simp only [go_sem, kCells, nCells, List.cons_append, List.nil_append]
  refine drawnP [2, 2, 2, 2, 2, 2, 2, 2, 3, 1] [(8, [2, 2, 2, 2, 2, 2, 2, 2, 0, 3]), (9, [0, 0, 0, 0, 0, 0, 0, 0, 0, 0])] 47 (by kernel_rfl) (by kernel_rfl) (by kernel_rfl) (by kernel_rfl) rfl ?_
  simp only [go_sem, j1, j2, hx, hx2, Option.map_some, dStp]
  intro nx1 lv1 hn1 hl1 nx2 lv2 hn2 hl2 nx3 lv3 hn3 hl3
  refine drawn (by kernel_rfl) (by kernel_rfl) ?_
  simp only [go_sem, i1, i2, hc, hc2, Option.map_some, dSect]
  refine quietD (f81 c.kind) (fun _ => rfl) ?_
  simp only [go_sem, kDraw_eq]
  intro nx4 lv4 hn4 hl4
  generalize endsF c.kind = m at hF he4 ⊢
  obtain ⟨m, rfl⟩ : ∃ q : Nat, m = q := ⟨m.toNat, by omega⟩
  simp only [Int.toNat_natCast] at hF
  refine AW_loopH [6, 27, 28, 29, 30, 31, 32, 33, 34, 35, 36, 37, 38, 39, 40, 41, 42, 43, 44, 45, 46]
    (fun (j : Nat) ρ M => ρ 27 = .int .i64 (j : Int) ∧ j ≤ m ∧ ∃ h nx lv tok ks vs l', M = ⟨h, [kCells n r lap l' tok (.out 1), [.mapc ks vs]], nx, lv⟩ ∧ AB.hget h 2 = some (0, [.ptr (.out 0) 0]) ∧ AB.hget h 3 = some (0, [.int .i64 i]) ∧
      AB.hget h 4 = some (0, [.fn 123 [.ptr (.own 2 0) 0, .ptr (.own 3 0) 0, .ptr (.own 4 0) 0]]) ∧ AB.hget h 5 = some (0, [.int .i64 x.s, .int .i64 x.i, .int .i64 x.o]) ∧ okT M tok ∧ SeenN l' ks vs ∧ l'.length ≤ 40000 + j * 256 ∧ overO (lookF n r.fr r.st lap i 8) x.s (freeL x (m - j) j) l' = F) (fun j => m - j) 0 ?_ ?_
  · simp only [go_sem]
    exact ⟨Nat.zero_le _, _, _, _, tok, ks, vs, l, rfl, by simp [go_sem], by simp [go_sem], by simp [go_sem], by simp [go_sem], okT_mono hok fun j z => hl4 j (hl3 j (hl2 j (hl1 j z))), hs, by omega, hF⟩
  rintro j ρ M ⟨e27, g1, h, nx5, lv5, tok5, ks5, vs5, l5, rfl, b2, b3, b4, b5, hok5, hs5, hl5, g2⟩ Q hN hR hX
  by_cases hlt : j < m
  · have hlt' : ((j : Int) < (m : Int)) = True := by simp; omega
    have ew : IntKind.i64.wrap ((j : Int) + 1) = (j : Int) + 1 := i64_in (by omega) (by omega)
    have hsub : m - j = (m - (j + 1)) + 1 := by omega
    rw [hsub, freeL_step] at g2
    simp only [go_sem, e27, hlt', b5]
    by_cases a1 : (j : Int) = x.i
    · have a1' : ((j : Int) = x.i) = True := eq_true a1
      rw [if_pos (.inl a1)] at g2
      simp only [go_sem, a1', hN, ew]
      refine ⟨by kernel_rfl, j + 1, ?_, by simp only; omega⟩
      simp only [go_sem]
      exact ⟨by simp, by omega, _, _, _, tok5, ks5, vs5, l5, rfl, b2, b3, b4, b5, okT_mono hok5 fun _ z => z, hs5, by omega, g2⟩
    have a1' : ((j : Int) = x.i) = False := eq_false a1
    by_cases a2 : (j : Int) = x.o
    · have a2' : ((j : Int) = x.o) = True := eq_true a2
      rw [if_pos (.inr a2)] at g2
      simp only [go_sem, a1', a2', hN, ew]
      refine ⟨by kernel_rfl, j + 1, ?_, by simp only; omega⟩
      simp only [go_sem]
      exact ⟨by simp, by omega, _, _, _, tok5, ks5, vs5, l5, rfl, b2, b3, b4, b5, okT_mono hok5 fun _ z => z, hs5, by omega, g2⟩
    have a2' : ((j : Int) = x.o) = False := eq_false a2
    rw [if_neg (by simp [a1, a2]), overO_cons] at g2
    have hlen := lookF_len n r.fr r.st lap i 8 l5 x.s j
    simp only [go_sem, a1', a2', b4, b5]
    refine .inr (callL (f123 n hb he r hr lap hlap i 8 l5 x.s j 0 tok5 ks5 vs5 nx5 lv5 (by omega) (by omega) (by omega) hs5 (okT_mono hok5 fun _ z => z)) idxLook (by simp [AH.cells, b2]) (by simp [AH.cells, b3]) (by simp [AH.cells, b4]) rfl rfl hs5 ?_)
    intro tok8 ks8 vs8 nx8 lv8 hok8 hs8
    simp only [go_sem, AH.setAll, lkCells, hN, ew]
    refine ⟨by kernel_rfl, j + 1, ?_, by simp only; omega⟩
    simp only [go_sem]
    refine ⟨by simp, by omega, _, _, _, tok8, ks8, vs8, _, rfl, ?_, ?_, ?_, ?_, okT_mono hok8 fun _ z => z, hs8, by omega, g2⟩
    · simp [go_sem]
    · simp [go_sem]
    · simp [go_sem]
    · simp [go_sem, b5]
  · have hlt' : ((j : Int) < (m : Int)) = False := by simp; omega
    have hz : m - j = 0 := by omega
    rw [hz] at g2
    simp only [freeL, overO_nil] at g2
    subst g2
    simp only [go_sem, e27, hlt', hX]
    exact ⟨rfl, tok5, ks5, vs5, rfl, okT_mono hok5 fun _ z => z, hs5⟩
end Go.Proofs.YteadhjclchjfjaaGreat
