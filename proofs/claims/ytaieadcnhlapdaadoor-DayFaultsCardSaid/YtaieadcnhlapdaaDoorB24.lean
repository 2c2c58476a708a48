/- Regions that draw their order, in which variables are written while others are read. -/
import Derived.Test.YtaieadcnhlapdaaDoorB22
namespace Go.AB

def evS (P : Program) (s : List AV) (ty : Nat) (x : Operand) : AV := AS.ev P ⟨s, emptyH⟩ ty x
theorem ev_evS {P : Program} (σ : AS) (ty : Nat) (x : Operand) : AS.ev P σ ty x = evS P σ.s ty x := by cases x <;> rfl
theorem ev_evS' {P : Program} (σ : AS) (ty : Nat) : AS.ev P σ ty = evS P σ.s ty := funext fun x => ev_evS σ ty x
theorem evs_evS {P : Program} (σ : AS) (tys : Array Nat) (xs : Array Operand) : evs P σ tys xs = evs P ⟨σ.s, emptyH⟩ tys xs := by
  unfold evs
  simp only [ev_evS]
theorem evP_evS {P : Program} (σ : AS) (t : Nat) (ps : Array (Nat × Operand)) : evP P σ t ps = evP P ⟨σ.s, emptyH⟩ t ps := by
  unfold evP
  simp only [ev_evS]

/-- The state with another memory. -/
def swp (m : AH) (τ : AS) : AS := ⟨τ.s, ⟨m.h, m.o, τ.m.nx, τ.m.lv⟩⟩

theorem kPut_swap (σ : AS) (m : AH) (dst : Option Nat) (K : AS → Prop) : kPut σ dst (fun τ => K (swp m τ)) = kPut (swp m σ) dst K := by
  funext v
  cases dst <;> rfl
theorem put_swap (σ : AS) (m : AH) (dst : Option Nat) (v : AV) : swp m (σ.put dst v) = (swp m σ).put dst v := by cases dst <;> rfl
theorem swp_s (σ : AS) (m : AH) : (swp m σ).s = σ.s := rfl

/-- Operations that look at the memory by a load alone, and write nothing. -/
def swB : Op → Bool
  | .move _ | .assign _ | .pick .. | .build .. | .load .. | .nilCheck _ | .binOp .. | .unOp .. | .makeInterface .. | .fieldAddr .. | .field .. | .indexAddr .. | .index .. | .extract .. => true
  | .slice _ _ _ _ none => true
  | .convert .. => true
  | _ => false

theorem swap_op {P : Program} {o : Oper} (hs : swB o.op = true) {σ : AS} {m : AH} {K : AS → Prop} (hl : ∀ t a l off, o.op = .load t a → evS P σ.s 0 a = .ptr l off → m.cells l = σ.m.cells l)
    (h : exOp P o σ (fun τ => K (swp m τ))) : exOp P o (swp m σ) K := by
  obtain ⟨dst, op, ty, pos, after, guard⟩ := o
  rw [exOp_eq] at h ⊢
  cases op <;> first | (cases hs; done) | skip
  case load t a =>
    simp only [ev_evS, swp_s] at h ⊢
    rw [kPut_swap] at h
    unfold exLoad at h ⊢
    split at h
    · rename_i l off hp
      have e := hl t a l off rfl hp
      have e2 : (swp m σ).m.cells l = m.cells l := by cases l <;> rfl
      simp only [e2, e]
      exact h
    · exact h
    · exact h.elim
  case slice t x lo hi mx =>
    cases mx with
    | none =>
      simp only [ev_evS, ev_evS', swp_s] at h ⊢
      rw [kPut_swap] at h
      exact h
    | some _ => exact h.elim
  all_goals
    simp only [ev_evS, evP_evS, swp_s] at h ⊢
    first
      | (rw [kPut_swap] at h; exact h)
      | (rw [put_swap] at h; exact h)

theorem KE_swap (m : AH) (dst : Option Nat) (K : AS → Prop) : KE dst (fun τ => K (swp m τ)) = fun τ => KE dst K (swp m τ) := by
  funext τ
  cases dst <;> rfl

theorem swap_g {P : Program} {ops : Array Oper} {o : Oper} (hs : swB o.op = true) {σ : AS} {m : AH} {K : AS → Prop} (hl : ∀ t a l off, o.op = .load t a → evS P σ.s 0 a = .ptr l off → m.cells l = σ.m.cells l)
    (h : exG P ops o σ (fun τ => K (swp m τ))) : exG P ops o (swp m σ) K := by
  unfold exG at h ⊢
  split at h
  · rename_i hgd
    exact swap_op hs hl h
  · rename_i j want hgd
    split at h
    · rename_i d hd
      simp only [swp_s]
      split at h
      · rename_i b hb
        have h := gateW_iff.1 h
        refine gateW_iff.2 ⟨fun hbw => ?_, fun hbw => ?_⟩
        · have h1 := h.1 hbw
          have e : σ.put (some d) (.bool want) = σ := put_same (by rw [hb, hbw]) (by simp [undefA])
          rw [e] at h1
          rw [← put_swap, e]
          exact swap_op hs hl h1
        · have h1 : K (swp m ((σ.put (some d) (.bool !want)).put o.dst undefA)) := h.2 hbw
          rw [put_swap, put_swap] at h1
          exact h1
      · have h1 : K (swp m (σ.put o.dst undefA)) := h
        rw [put_swap] at h1
        exact h1
      · exact h.elim
    · exact h.elim

/-- Who reads and who writes which variable. -/
abbrev Ac := List (Nat × Bool × Loc)

def sepL (eq : List (Nat × Nat)) (i : Nat) (l : Loc) : Ac → Prop
  | [] => True
  | (s, true, l') :: r => ((eq.any fun p => p.1 == i && p.2 == s) = true ∨ l' ≠ l) ∧ sepL eq i l r
  | (_, false, _) :: r => sepL eq i l r
def sepA (eq : List (Nat × Nat)) (all : Ac) : Ac → Prop
  | [] => True
  | (i, false, l) :: r => sepL eq i l all ∧ sepA eq all r
  | (_, true, _) :: r => sepA eq all r

theorem sepL_spec {eq : List (Nat × Nat)} {i : Nat} {l : Loc} : ∀ {ac : Ac}, sepL eq i l ac → ∀ s l', (s, true, l') ∈ ac → (i, s) ∈ eq ∨ l' ≠ l
  | [], _, s, l', h => by simp at h
  | (s0, true, l0) :: r, hp, s, l', h => by
    obtain ⟨h1, h2⟩ := hp
    rcases List.mem_cons.1 h with h | h
    · cases h
      refine h1.imp (fun h1 => ?_) id
      obtain ⟨p, hp, he⟩ := List.any_eq_true.1 h1
      simp only [Bool.and_eq_true, beq_iff_eq] at he
      obtain ⟨e1, e2⟩ := he
      obtain ⟨p1, p2⟩ := p
      simp only at e1 e2
      subst e1 e2
      exact hp
    · exact sepL_spec h2 s l' h
  | (s0, false, l0) :: r, hp, s, l', h => by
    rcases List.mem_cons.1 h with h | h
    · cases h
    · exact sepL_spec (ac := r) hp s l' h

theorem sepA_spec {eq : List (Nat × Nat)} {all : Ac} : ∀ {ac : Ac}, sepA eq all ac → ∀ i l s l', (i, false, l) ∈ ac → (s, true, l') ∈ all → (i, s) ∈ eq ∨ l' ≠ l
  | [], _, i, l, s, l', h, _ => by simp at h
  | (i0, false, l0) :: r, hp, i, l, s, l', h, hs => by
    rcases List.mem_cons.1 h with h | h
    · cases h; exact sepL_spec hp.1 s l' hs
    · exact sepA_spec hp.2 i l s l' h hs
  | (i0, true, l0) :: r, hp, i, l, s, l', h, hs => by
    rcases List.mem_cons.1 h with h | h
    · cases h
    · exact sepA_spec (ac := r) hp i l s l' h hs

def isSt : Op → Bool
  | .store .. => true
  | _ => false

def acOf (P : Program) (o : Oper) (i : Nat) (σ : AS) : Ac := match o.op with
  | .load _ a => match AS.ev P σ 0 a with
    | .ptr l _ => [(i, false, l)]
    | _ => []
  | .store _ a _ => match AS.ev P σ 0 a with
    | .ptr l _ => [(i, true, l)]
    | _ => []
  | _ => []

def kSt (f : AS → (Ac → AS → Prop) → Prop) (K : Ac → AS → Prop) (σ : AS) (m : AH) : Prop := f ⟨σ.s, m⟩ K
def kQu (f : AS → (Ac → AS → Prop) → Prop) (K : Ac → AS → Prop) (σ : AS) : Prop := f σ K

/-- The operations of a region in the order of the text, with what each reads and writes. -/
def exOpsS (P : Program) (ops : Array Oper) : List Oper → Nat → Ac → AS → (Ac → AS → Prop) → Prop
  | [], _, ac, σ, K => K ac σ
  | o :: r, i, ac, σ, K => match o.op with
    | .store t a x => o.guard = none ∧ o.dst = none ∧ exStore P σ.m t (AS.ev P σ 0 a) (AS.ev P σ t x) (kSt (exOpsS P ops r (i + 1) (acOf P o i σ ++ ac)) K σ)
    | _ => swB o.op = true ∧ exGD P ops o σ (kQu (exOpsS P ops r (i + 1) (acOf P o i σ ++ ac)) K)

def StepS (P : Program) (ops : Array Oper) (i : Nat) (o : Oper) (σ : AS) (v : AV) (σ' : AS) (ac : Ac) : Prop :=
  (isSt o.op = false ∧ swB o.op = true ∧ σ' = σ.put o.dst v ∧ YieldsA P ops o v σ ∧ ∀ t a l off, o.op = .load t a → evS P σ.s 0 a = .ptr l off → (i, false, l) ∈ ac) ∨
  (∃ t a x l off cs cs2, o.op = .store t a x ∧ o.guard = none ∧ o.dst = none ∧ evS P σ.s 0 a = .ptr l off ∧ (i, true, l) ∈ ac ∧ σ.m.cells l = some cs ∧ σ' = ⟨σ.s, σ.m.setCells l cs2⟩ ∧
    ∀ (m : AH) (K : AH → Prop), m.cells l = some cs → K (m.setCells l cs2) → exStore P m t (evS P σ.s 0 a) (evS P σ.s t x) K)

theorem textS {P : Program} {ops : Array Oper} : ∀ (l : List Oper) (i : Nat) (ac : Ac) (σ : AS) (K : Ac → AS → Prop), exOpsS P ops l i ac σ K →
    ∃ (f : Nat → AS) (vs : List AV) (ac' : Ac), vs.length = l.length ∧ f 0 = σ ∧ (∀ x ∈ ac, x ∈ ac') ∧ K ac' (f l.length) ∧ ∀ (j : Nat) (o : Oper) (v : AV), l[j]? = some o → vs[j]? = some v → StepS P ops (i + j) o (f j) v (f (j + 1)) ac'
  | [], i, ac, σ, K, h => ⟨fun _ => σ, [], ac, rfl, rfl, fun _ x => x, h, by simp⟩
  | o :: r, i, ac, σ, K, h => by
    have fin : ∀ (σ' : AS) (v : AV), exOpsS P ops r (i + 1) (acOf P o i σ ++ ac) σ' K → (∀ ac', (∀ x ∈ acOf P o i σ ++ ac, x ∈ ac') → StepS P ops i o σ v σ' ac') →
        ∃ (f : Nat → AS) (vs : List AV) (ac' : Ac), vs.length = (o :: r).length ∧ f 0 = σ ∧ (∀ x ∈ ac, x ∈ ac') ∧ K ac' (f (o :: r).length) ∧ ∀ (j : Nat) (o' : Oper) (v : AV), (o :: r)[j]? = some o' → vs[j]? = some v → StepS P ops (i + j) o' (f j) v (f (j + 1)) ac' := by
      intro σ' v h1 h2
      obtain ⟨f, vs, ac', g1, g2, g3, g4, g5⟩ := textS r (i + 1) _ σ' K h1
      refine ⟨fun j => match j with | 0 => σ | j + 1 => f j, v :: vs, ac', by simp [g1], rfl, fun x hx => g3 x (List.mem_append_right _ hx), g4, fun j o' v' hj hv => ?_⟩
      cases j with
      | zero =>
        simp only [List.getElem?_cons_zero, Option.some.injEq] at hj hv
        subst hj hv
        have := h2 ac' g3
        rw [← g2] at this
        exact this
      | succ j =>
        have := g5 j o' v' (by simpa using hj) (by simpa using hv)
        rw [show i + (j + 1) = i + 1 + j by omega]
        exact this
    by_cases hst : ∃ t a x, o.op = .store t a x
    · obtain ⟨t, a, x, hop⟩ := hst
      unfold exOpsS at h
      simp only [hop] at h
      obtain ⟨h1, h2, h3⟩ := h
      rw [ev_evS, ev_evS] at h3
      have h3' := h3
      unfold exStore at h3
      split at h3
      · rename_i l off hp
        split at h3
        · rename_i cs ag n hcs hty
          obtain ⟨k1, k2, k3, k4⟩ := h3
          refine fin _ undefA k4 (fun ac' hac => .inr ⟨t, a, x, l, off, cs, _, hop, h1, h2, hp, ?_, hcs, rfl, fun m K hm hK => ?_⟩)
          · apply hac
            apply List.mem_append_left
            simp only [acOf, hop, ev_evS, hp]
            exact List.mem_singleton_self _
          · unfold exStore
            simp only [hp, hm, hty]
            exact ⟨k1, k2, k3, hK⟩
        · exact h3.elim
      · exact h3.elim
    · have hn : isSt o.op = false := by
        cases hop : o.op <;> first | rfl | exact absurd ⟨_, _, _, hop⟩ hst
      have h' : swB o.op = true ∧ exGD P ops o σ (kQu (exOpsS P ops r (i + 1) (acOf P o i σ ++ ac)) K) := by
        unfold exOpsS at h
        split at h
        · rename_i t a x hop
          exact absurd ⟨t, a, x, hop⟩ hst
        · exact h
      obtain ⟨h1, h2⟩ := h'
      obtain ⟨v, g1, g2⟩ := exGD_local h2
      refine fin _ v g1 (fun ac' hac => .inl ⟨hn, h1, rfl, g2, fun t a l off hop hp => ?_⟩)
      apply hac
      apply List.mem_append_left
      simp only [acOf, hop, ev_evS, hp]
      exact List.mem_singleton_self _


theorem Anc.lt {ops : Array Oper} (hback : ∀ (j : Nat) o, ops[j]? = some o → ∀ e ∈ o.after, Region.binds .any e = true → e.on < j) {j i : Nat} (h : Anc ops j i) : i < j := by
  induction h with
  | one j o e ho he hb => exact hback j o ho e he hb
  | more j i o e ho he hb _ ih => exact Nat.lt_trans ih (hback j o ho e he hb)

theorem puts_snoc {o : Oper} {v : AV} : ∀ (l : List Oper) (σ : AS) (vs : List AV), vs.length = l.length → puts σ (l ++ [o]) (vs ++ [v]) = (puts σ l vs).put o.dst v
  | [], σ, [], _ => by simp [puts]
  | [], σ, _ :: _, h => by simp at h
  | _ :: _, σ, [], h => by simp at h
  | a :: l, σ, b :: vs, h => by
    simp only [List.cons_append, puts]
    exact puts_snoc l _ vs (by simpa using h)

theorem put_s_congr {σ τ : AS} (h : σ.s = τ.s) (d : Option Nat) (v : AV) : (σ.put d v).s = (τ.put d v).s := by
  cases d <;> simp [AS.put, h]

/-- A run in the order of the text. -/
structure RunS (P : Program) (ops : Array Oper) (vs : List AV) (σ0 : AS) (f : Nat → AS) (ac : Ac) (eq : List (Nat × Nat)) : Prop where
  hd : DrawOk ops
  hl : vs.length = ops.size
  h0 : f 0 = σ0
  step : ∀ (i : Nat) (o : Oper) (v : AV), ops[i]? = some o → vs[i]? = some v → StepS P ops i o (f i) v (f (i + 1)) ac
  sep : sepA eq ac ac
  ord : ∀ i s, (i, s) ∈ eq → Anc ops i s ∨ Anc ops s i
  chain : ∀ (s s' : Nat) (o o' : Oper), s < s' → ops[s]? = some o → ops[s']? = some o' → isSt o.op = true → isSt o'.op = true → Anc ops s' s

section
variable {P : Program} {E : Env} {ops : Array Oper} {vs : List AV} {σ0 : AS} {f : Nat → AS} {ac : Ac} {eq : List (Nat × Nat)}

theorem RunS.val (R : RunS P ops vs σ0 f ac eq) {i : Nat} (h : i < ops.size) : ∃ o v, ops[i]? = some o ∧ vs[i]? = some v ∧ StepS P ops i o (f i) v (f (i + 1)) ac := by
  have hv := List.getElem?_eq_getElem (l := vs) (i := i) (by rw [R.hl]; exact h)
  exact ⟨_, _, Array.getElem?_eq_getElem h, hv, R.step i _ _ (Array.getElem?_eq_getElem h) hv⟩

theorem RunS.slots (R : RunS P ops vs σ0 f ac eq) : ∀ i, i ≤ ops.size → (f i).s = (puts σ0 (ops.toList.take i) (vs.take i)).s
  | 0, _ => by simp [puts, R.h0]
  | i + 1, h => by
    obtain ⟨o, v, ho, hv, hs⟩ := R.val (i := i) (by omega)
    have ih := R.slots i (by omega)
    have e1 : ops.toList.take (i + 1) = ops.toList.take i ++ [o] := by rw [List.take_add_one]; simp [ho]
    have e2 : vs.take (i + 1) = vs.take i ++ [v] := by rw [List.take_add_one, hv]; rfl
    have hl := R.hl
    rw [e1, e2, puts_snoc _ _ _ (by simp; omega)]
    rcases hs with ⟨_, _, e, _⟩ | ⟨t, a, x, l, off, cs, cs2, _, _, hdst, _, _, _, e, _⟩
    · rw [e]
      exact put_s_congr ih _ _
    · rw [e, hdst]
      exact ih

theorem RunS.mem (R : RunS P ops vs σ0 f ac eq) (a : Nat) : ∀ b, a ≤ b → b ≤ ops.size → (∀ s o, a ≤ s → s < b → ops[s]? = some o → isSt o.op = false) → (f b).m = (f a).m := by
  intro b
  induction b with
  | zero => intro h _ _; rw [Nat.le_zero.1 h]
  | succ b ih =>
    intro h hb hn
    rcases Nat.lt_or_ge b a with hlt | hge
    · rw [show a = b + 1 by omega]
    · obtain ⟨o, v, ho, hv, hs⟩ := R.val (i := b) (by omega)
      rw [← ih hge (by omega) (fun s o h1 h2 h3 => hn s o h1 (by omega) h3)]
      rcases hs with ⟨_, _, e, _⟩ | ⟨t, a', x, l, off, cs, cs2, hop, _⟩
      · rw [e, put_m]
      · have := hn b o hge (by omega) ho
        rw [hop] at this
        cases this

theorem RunS.cells (R : RunS P ops vs σ0 f ac eq) (l : Loc) (a : Nat) : ∀ b, a ≤ b → b ≤ ops.size → (∀ s l' o, a ≤ s → s < b → ops[s]? = some o → isSt o.op = true → (s, true, l') ∈ ac → l' ≠ l) → (f b).m.cells l = (f a).m.cells l := by
  intro b
  induction b with
  | zero => intro h _ _; rw [Nat.le_zero.1 h]
  | succ b ih =>
    intro h hb hn
    rcases Nat.lt_or_ge b a with hlt | hge
    · rw [show a = b + 1 by omega]
    · obtain ⟨o, v, ho, hv, hs⟩ := R.val (i := b) (by omega)
      rw [← ih hge (by omega) (fun s l' o h1 h2 h3 => hn s l' o h1 (by omega) h3)]
      rcases hs with ⟨_, _, e, _⟩ | ⟨t, a', x, l', off, cs, cs2, hop, _, _, _, hac, hcs, e, _⟩
      · rw [e, put_m]
      · have hne := hn b l' o hge (by omega) ho (by rw [hop]; rfl) hac
        rw [e]
        simp only
        rw [setCells_cells cs2 hcs, if_neg hne]

/-- The state when the operations of L have been. -/
structure JS (ops : Array Oper) (vs : List AV) (σ0 : AS) (f : Nat → AS) (L : Array Bool) (σ : AS) : Prop where
  j : JL ops vs σ0 L (swp σ0.m σ)
  m : ∃ p, p ≤ ops.size ∧ σ.m.h = (f p).m.h ∧ σ.m.o = (f p).m.o ∧ ∀ s o, ops[s]? = some o → isSt o.op = true → (L.getD s false = true ↔ s < p)

theorem setCells_h {m m' : AH} (h : m.h = m'.h) (o : m.o = m'.o) (l : Loc) (cs : List AV) : (m.setCells l cs).h = (m'.setCells l cs).h ∧ (m.setCells l cs).o = (m'.setCells l cs).o := by
  cases l <;> simp [AH.setCells, h, o]
theorem setCells_nx (m : AH) (l : Loc) (cs : List AV) : (m.setCells l cs).nx = m.nx ∧ (m.setCells l cs).lv = m.lv := by cases l <;> exact ⟨rfl, rfl⟩

theorem any_okS (hT : TabsOk P E) (R : RunS P ops vs σ0 f ac eq) {Q : Exit → AS → Prop} (hK : ∀ nx lv, σ0.m.nx ≤ nx → (∀ j, σ0.m.lv j → lv j) → Q .normal ⟨(f ops.size).s, ⟨(f ops.size).m.h, (f ops.size).m.o, nx, lv⟩⟩) :
    ∀ (fuel : Nat) (L : Array Bool) (σ : AS) (a : Act) (w : World), (L.toList.filter (fun b => !b)).length ≤ fuel → JS ops vs σ0 f L σ → St E σ a w → wpAny P .any ops (Lift E Q) fuel L a w := by
  have hd := R.hd
  have hl := R.hl
  have fin : ∀ (L : Array Bool) (σ : AS) (a : Act) (w : World), JS ops vs σ0 f L σ → St E σ a w → Region.ready .any ops L = [] → Lift E Q .normal a w := by
    intro L σ a w J hst hr
    refine ⟨σ, hst, ?_⟩
    have h1 : σ.s = _ := J.j.final hd hl hr
    have hall := ready_nil hd J.j.size hr
    obtain ⟨p, hp, mh, mo, hs⟩ := J.m
    have hm : (f ops.size).m = (f p).m := R.mem p ops.size hp (Nat.le_refl _) (fun s o h1 h2 h3 => by
      cases hst : isSt o.op with
      | false => rfl
      | true => have := (hs s o h3 hst).1 (hall s h2); omega)
    have hsl := R.slots ops.size (Nat.le_refl _)
    rw [List.take_of_length_le (by simp), List.take_of_length_le (by omega)] at hsl
    have := hK σ.m.nx σ.m.lv J.j.nx J.j.lv
    rw [hsl, ← h1, hm, ← mh, ← mo] at this
    exact this
  intro fuel
  induction fuel with
  | zero =>
    intro L σ a w hc J hst
    have hr : Region.ready .any ops L = [] := by
      apply List.eq_nil_iff_forall_not_mem.2
      intro i hi
      obtain ⟨h1, h2⟩ := undone (mem_ready.1 hi).1
      rw [none_left h2 hc] at h1; cases h1
    exact ⟨hr, fin L σ a w J hst hr⟩
  | succ fuel ih =>
    intro L σ a w hc J hst
    refine ⟨fun hr => fin L σ a w J hst hr, fun i hi => ?_⟩
    obtain ⟨hun, o, ho, hall⟩ := mem_ready.1 hi
    obtain ⟨hun', hlt⟩ := undone hun
    have hilt := (Array.getElem?_eq_some_iff.1 ho).1
    have hv := List.getElem?_eq_getElem (l := vs) (i := i) (by omega)
    have ag := J.j.agree hd hl ho hi
    have hsl := R.slots i (by omega)
    have ags : ∀ t ∈ o.looksAt ops, nth σ.s t = nth (f i).s t := fun t ht => by rw [hsl]; exact ag.s t ht
    obtain ⟨p, hp, mh, mo, hs⟩ := J.m
    have hback := hd.back
    have hanc : ∀ s, Anc ops i s → L.getD s false = true := fun s h => h.ready J.j.closed ho hall
    rcases R.step i o _ ho hv with ⟨hn, hsw, hf, hy, hld⟩ | ⟨t, x0, y0, l, off, cs, cs2, hop, hg, hdst, hp0, hac, hcs, hf, hex⟩
    · -- an operation that writes nothing
      have ag' : Agree ops o (f i) (swp (f i).m σ) := ⟨ags, rfl, rfl⟩
      have key := hy (swp (f i).m σ) ag' (fun τ => JS ops vs σ0 f (L.setIfInBounds i true) (swp σ.m τ)) (fun nx lv g1 g2 => by
        show JS ops vs σ0 f (L.setIfInBounds i true) (swp σ.m _)
        rw [put_swap]
        refine ⟨?_, p, hp, ?_, ?_, fun s os hos hsts => ?_⟩
        · rw [put_swap]
          exact J.j.step hd ho hv hi g1 g2
        · rw [put_m]; exact mh
        · rw [put_m]; exact mo
        · have hne : i ≠ s := fun e => by subst e; rw [ho] at hos; cases hos; rw [hn] at hsts; cases hsts
          rw [getD_set_ne false hne]
          exact hs s os hos hsts)
      rw [KE_swap] at key
      have key2 := swap_g (σ := swp (f i).m σ) (m := σ.m) (K := KE o.dst (fun τ => JS ops vs σ0 f (L.setIfInBounds i true) τ)) hsw (fun t x0 l off hop hp0 => by
        have hev : evS P (f i).s 0 x0 = .ptr l off := by
          have := ag'.ev (P := P) (x := x0) (by simp [hop, Op.operands]) 0
          rw [ev_evS, ev_evS] at this
          rw [← this]
          exact hp0
        have hin := hld t x0 l off hop hev
        have e1 : (swp (f i).m σ).m.cells l = (f i).m.cells l := cells_eq rfl rfl l
        rw [e1, cells_eq mh mo l]
        rcases Nat.le_total p i with hpi | hpi
        · refine (R.cells l p i hpi (by omega) (fun s l' os h1 h2 h3 h4 h5 => ?_)).symm
          rcases sepA_spec R.sep i l s l' hin h5 with h6 | h6
          · exfalso
            rcases R.ord i s h6 with h7 | h7
            · have := (hs s os h3 h4).1 (hanc s h7); omega
            · have := h7.lt hback; omega
          · exact h6
        · refine R.cells l i p hpi hp (fun s l' os h1 h2 h3 h4 h5 => ?_)
          rcases sepA_spec R.sep i l s l' hin h5 with h6 | h6
          · exfalso
            rcases R.ord i s h6 with h7 | h7
            · have := h7.lt hback; omega
            · have hsd := (hs s os h3 h4).2 h2
              have := h7.done J.j.closed hsd
              rw [hun'] at this; cases this
          · exact h6) key
      refine wpOp_mono ?_ (exG_ok hT ho key2 hst)
      rintro a' w' ⟨σ', hst', J'⟩
      rcases J' with J' | J'
      · exact ih _ σ' a' w' (count_set hlt hun hc) J' hst'
      · exact ih _ _ a' w' (count_set hlt hun hc) J' (hst'.erAt o.dst)
    · -- a store
      have hsti : isSt o.op = true := by rw [hop]; rfl
      have hpi : p ≤ i := by
        rcases Nat.lt_or_ge i p with h | h
        · have := (hs i o ho hsti).2 h
          rw [hun'] at this; cases this
        · exact h
      have hbef : ∀ s os, s < i → ops[s]? = some os → isSt os.op = true → L.getD s false = true ∧ s < p := fun s os h1 h2 h3 => by
        have := hanc s (R.chain s i os o h1 h2 ho h3 hsti)
        exact ⟨this, (hs s os h2 h3).1 this⟩
      have hm : (f i).m = (f p).m := R.mem p i hpi (by omega) (fun s os h1 h2 h3 => by
        cases hst : isSt os.op with
        | false => rfl
        | true => have := (hbef s os h2 h3 hst).2; omega)
      have mh' : σ.m.h = (f i).m.h := by rw [hm]; exact mh
      have mo' : σ.m.o = (f i).m.o := by rw [hm]; exact mo
      have ag' : Agree ops o (f i) σ := ⟨ags, mh', mo'⟩
      have e1 : evS P σ.s 0 x0 = evS P (f i).s 0 x0 := by
        have := ag'.ev (P := P) (x := x0) (by simp [hop, Op.operands]) 0
        rw [ev_evS, ev_evS] at this; exact this
      have e2 : evS P σ.s t y0 = evS P (f i).s t y0 := by
        have := ag'.ev (P := P) (x := y0) (by simp [hop, Op.operands]) t
        rw [ev_evS, ev_evS] at this; exact this
      have key : exG P ops o σ (fun τ => JS ops vs σ0 f (L.setIfInBounds i true) τ) := by
        unfold exG
        rw [hg]
        simp only
        rw [exOp_eq, hop]
        simp only [ev_evS, e1, e2]
        refine hex σ.m _ (by rw [cells_eq mh' mo' l]; exact hcs) ?_
        rw [hdst]
        refine ⟨?_, i + 1, by omega, ?_, ?_, fun s os hos hsts => ?_⟩
        · have := J.j.step hd ho hv hi (nx := σ.m.nx) (lv := σ.m.lv) (Nat.le_refl _) (fun _ x => x)
          rw [hdst] at this
          obtain ⟨n1, n2⟩ := setCells_nx σ.m l cs2
          have e : swp σ0.m (AS.put ⟨σ.s, σ.m.setCells l cs2⟩ none undefA) = ⟨σ.s, ⟨σ0.m.h, σ0.m.o, σ.m.nx, σ.m.lv⟩⟩ := by
            simp only [swp, AS.put, n1, n2]
          rw [e]
          exact this
        · rw [hf]; exact (setCells_h mh' mo' l cs2).1
        · rw [hf]; exact (setCells_h mh' mo' l cs2).2
        · by_cases hne : i = s
          · subst hne
            simp [hlt]
          · rw [getD_set_ne false hne]
            constructor
            · intro h
              have := (hs s os hos hsts).1 h
              omega
            · intro h
              exact (hbef s os (by omega) hos hsts).1
      refine wpOp_mono ?_ (exG_ok hT ho key hst)
      rintro a' w' ⟨σ', hst', J'⟩
      exact ih _ σ' a' w' (count_set hlt hun hc) J' hst'
end

/-- The stores wait for one another; the listed pairs too. -/
def chainB (ops : Array Oper) (eq : List (Nat × Nat)) : Bool :=
  let an := ancs ops.toList
  ((List.range ops.size).all fun j => match ops[j]? with
    | some oj => !isSt oj.op || (List.range j).all fun i => match ops[i]? with
      | some oi => !isSt oi.op || (an.getD j []).contains i
      | none => true
    | none => true) &&
  eq.all fun p => (an.getD p.1 []).contains p.2 || (an.getD p.2 []).contains p.1

theorem chainB_spec {ops : Array Oper} {eq : List (Nat × Nat)} (h : chainB ops eq = true) :
    (∀ i s, (i, s) ∈ eq → Anc ops i s ∨ Anc ops s i) ∧ ∀ (s s' : Nat) (o o' : Oper), s < s' → ops[s]? = some o → ops[s']? = some o' → isSt o.op = true → isSt o'.op = true → Anc ops s' s := by
  have hA : ∀ j i, ((ancs ops.toList).getD j []).contains i = true → Anc ops j i := fun j i h =>
    ancs_go ops.toList [] [] (by simp) rfl (fun j i hi => by simp at hi) j i (List.contains_iff_mem.1 h)
  unfold chainB at h
  simp only [Bool.and_eq_true] at h
  obtain ⟨h1, h2⟩ := h
  refine ⟨fun i s hm => ?_, fun s s' o o' hlt ho ho' hst hst' => ?_⟩
  · have := List.all_eq_true.1 h2 (i, s) hm
    simp only [Bool.or_eq_true] at this
    exact this.imp (hA i s) (hA s i)
  · have hl := (Array.getElem?_eq_some_iff.1 ho').1
    have h3 := List.all_eq_true.1 h1 s' (List.mem_range.2 hl)
    simp only [ho', hst', Bool.not_true, Bool.false_or] at h3
    have h4 := List.all_eq_true.1 h3 s (List.mem_range.2 hlt)
    simp only [ho, hst, Bool.not_true, Bool.false_or] at h4
    exact hA s' s h4

def kDrawS (eq : List (Nat × Nat)) (Q : Exit → AS → Prop) (ac : Ac) (τ : AS) : Prop :=
  sepA eq ac ac ∧ ∀ nx lv, τ.m.nx ≤ nx → (∀ j, τ.m.lv j → lv j) → Q .normal ⟨τ.s, ⟨τ.m.h, τ.m.o, nx, lv⟩⟩

/-- A region that draws, with stores. -/
theorem drawnS {P : Program} {E : Env} {id : Nat} {ops : List Oper} {Q : Exit → AS → Prop} {σ0 : AS} (eq : List (Nat × Nat)) (hm : P.follows .mixedOrders = true) (hB : drawB ops.toArray = true) (hC : chainB ops.toArray eq = true)
    (h : exOpsS P ops.toArray ops 0 [] σ0 (kDrawS eq Q)) : AW P E (.region id ops.toArray true) Q σ0 := by
  unfold AW
  intro hT a w hst
  obtain ⟨f, vs, ac, g1, g2, _, ⟨g4, g5⟩, g6⟩ := textS _ _ _ _ _ h
  obtain ⟨c1, c2⟩ := chainB_spec hC
  have R : RunS P ops.toArray vs σ0 f ac eq := ⟨drawB_spec hB, by simpa using g1, g2, fun i o v hi hv => by
    have := g6 i o v (by simpa using hi) hv
    rwa [Nat.zero_add] at this, g4, c1, c2⟩
  have hmono : ∀ i, i ≤ ops.length → (f i).m.nx = σ0.m.nx ∧ (f i).m.lv = σ0.m.lv := by
    intro i
    induction i with
    | zero => intro _; rw [g2]; exact ⟨rfl, rfl⟩
    | succ i ih =>
      intro hi
      obtain ⟨o, v, ho, hv, hs⟩ := R.val (i := i) (by simp; omega)
      obtain ⟨i1, i2⟩ := ih (by omega)
      rcases hs with ⟨_, _, e, _⟩ | ⟨t, a', x, l, off, cs, cs2, _, _, _, _, _, _, e, _⟩
      · rw [e, put_m]; exact ⟨i1, i2⟩
      · rw [e]
        obtain ⟨n1, n2⟩ := setCells_nx (f i).m l cs2
        exact ⟨n1.trans i1, n2.trans i2⟩
  obtain ⟨m1, m2⟩ := hmono ops.length (Nat.le_refl _)
  refine wp_region_any hm ?_
  refine any_okS (E := E) hT R (Q := Q) (fun nx lv h1 h2 => ?_) _ _ σ0 a _ ?_ ?_ (St.drawn hst)
  · have := g5 nx lv (by rw [m1]; exact h1) (fun j hj => h2 j (by rw [m2] at hj; exact hj))
    simpa using this
  · exact Nat.le_trans (List.length_filter_le _ _) (by simp)
  · have hno : ∀ j, (Array.replicate ops.toArray.size false).getD j false = true → False := fun j hL => by
      revert hL
      simp only [Array.getD_eq_getD_getElem?, Array.getElem?_replicate]
      split <;> simp
    refine ⟨⟨by simp, rfl, rfl, rfl, Nat.le_refl _, fun _ x => x, fun j o hj hL => (hno j hL).elim, fun i o v d _ _ _ hL => (hno i hL).elim, fun t _ => rfl⟩, 0, Nat.zero_le _, by rw [g2], by rw [g2], fun s o _ _ => ⟨fun hL => (hno s hL).elim, fun h => absurd h (Nat.not_lt_zero _)⟩⟩


section
variable {P : Program} {E : Env}
@[congr] theorem exOpsS_congr {ops : Array Oper} {l : List Oper} {i i' : Nat} {ac ac' : Ac} {σ σ' : AS} {K : Ac → AS → Prop} (hi : i = i') (ha : ac = ac') (h : σ = σ') : exOpsS P ops l i ac σ K = exOpsS P ops l i' ac' σ' K := by rw [hi, ha, h]
@[go_sem] theorem exOpsS_nil {ops : Array Oper} {i : Nat} {ac : Ac} {σ : AS} {K : Ac → AS → Prop} : exOpsS P ops [] i ac σ K = K ac σ := (rfl)
@[go_sem] theorem exOpsS_cons {ops : Array Oper} {o : Oper} {r : List Oper} {i : Nat} {ac : Ac} {σ : AS} {K : Ac → AS → Prop} : exOpsS P ops (o :: r) i ac σ K = (match o.op with
    | .store t a x => o.guard = none ∧ o.dst = none ∧ exStore P σ.m t (AS.ev P σ 0 a) (AS.ev P σ t x) (kSt (exOpsS P ops r (i + 1) (acOf P o i σ ++ ac)) K σ)
    | _ => swB o.op = true ∧ exGD P ops o σ (kQu (exOpsS P ops r (i + 1) (acOf P o i σ ++ ac)) K)) := by
  conv => lhs; unfold exOpsS
@[go_sem] theorem kSt_eq {f : AS → (Ac → AS → Prop) → Prop} {K : Ac → AS → Prop} {σ : AS} {m : AH} : kSt f K σ m = f ⟨σ.s, m⟩ K := (rfl)
@[go_sem] theorem kQu_eq {f : AS → (Ac → AS → Prop) → Prop} {K : Ac → AS → Prop} {σ : AS} : kQu f K σ = f σ K := (rfl)
theorem kDrawS_eq {eq : List (Nat × Nat)} {Q : Exit → AS → Prop} {ac : Ac} {τ : AS} : kDrawS eq Q ac τ = (sepA eq ac ac ∧ ∀ nx lv, τ.m.nx ≤ nx → (∀ j, τ.m.lv j → lv j) → Q .normal ⟨τ.s, ⟨τ.m.h, τ.m.o, nx, lv⟩⟩) := (rfl)
@[go_sem] theorem own_ne {t g t' g' : Nat} : (Loc.own t g ≠ Loc.own t' g') = ¬ (t = t' ∧ g = g') := by simp
@[go_sem] theorem out_ne {i j : Nat} : (Loc.out i ≠ Loc.out j) = ¬ (i = j) := by simp
end
attribute [go_sem] kDrawS_eq acOf sepA sepL isSt swB Loc.own.injEq Loc.out.injEq
attribute [irreducible] exOpsS


/-- A loop whose rest is kept out of sight. -/
theorem LW_hide {P : Program} {E : Env} {c : Code} {Q : Exit → AS → Prop} {σ : AS} (h : ∀ Q' : Exit → AS → Prop, (∀ σ, Q' .ret σ = Q .ret σ) → (∀ id σ, Q' (.exit id) σ = Q (.exit id) σ) → LW P E c Q' σ) : LW P E c Q σ :=
  h Q (fun _ => rfl) (fun _ _ => rfl)


/-- It hands back this value, leaves these cells, and all marks live on. -/
def RQ (nx : Nat) (lv : Nat → Prop) (os : List (List AV)) (r : AV) : AH → AV → Prop := fun m x => x = r ∧ m.o = os ∧ nx ≤ m.nx ∧ ∀ j, lv j → m.lv j

theorem effV {P : Program} {k : Nat} {args : List AV} {σ : AS} {dst : Option Nat} {K : AS → Prop} {ls : List Loc} {as : List AV} {css ds os cs2 : List (List AV)} {r r2 : AV}
    (h1 : rnAL (outF ls) args = some as) (h2 : cellsL σ.m ls = some css) (h3 : rnLL (outF ls) css = some ds) (h4 : IdxOk ls) (h5 : QCall P k ⟨[], ds, σ.m.nx, σ.m.lv⟩ as (RQ σ.m.nx σ.m.lv os r))
    (h6 : rnLL (backF ls none (.own 0 (gnext σ.m 0))) os = some cs2) (h7 : cs2.length = ls.length) (h8 : rnV (backF ls none (.own 0 (gnext σ.m 0))) r = some r2)
    (hK : ∀ nx2 lv2, σ.m.nx ≤ nx2 → (∀ j, σ.m.lv j → lv2 j) → K (AS.put ⟨σ.s, ⟨(σ.m.setAll ls cs2).h, (σ.m.setAll ls cs2).o, nx2, lv2⟩⟩ dst r2)) : effX P k args σ dst K := by
  unfold effX
  refine .inl ?_
  unfold effK
  refine ⟨ls, as, css, ds, _, h1, h2, h3, h4, h5, ?_⟩
  rintro m' x ⟨rfl, ho, hn, hl⟩
  exact ⟨none, 0, [], cs2, r2, by rw [ho]; exact h6, h7, (fun k hk => by cases hk), h8, hK m'.nx m'.lv hn hl⟩

theorem effX.eff {P : Program} {k : Nat} {args : List AV} {σ : AS} {dst : Option Nat} {K : AS → Prop} (h : effK P k args σ dst K) : effX P k args σ dst K := by unfold effX; exact .inl h
theorem effX.share {P : Program} {k : Nat} {args : List AV} {σ : AS} {dst : Option Nat} {K : AS → Prop} {R : AH → AV → Prop} (h : QCall P k σ.m args R) (hK : ∀ m' r, R m' r → K (AS.put ⟨σ.s, m'⟩ dst r)) : effX P k args σ dst K := by
  unfold effX; refine .inr ?_; unfold inlK; exact ⟨R, h, hK⟩
theorem callX.share {P : Program} {k : Nat} {as args : List AV} {σ : AS} {dst : Option Nat} {K : AS → Prop} {R : AH → AV → Prop} (h : QCall P k σ.m args R) (hK : ∀ m' r, R m' r → K (AS.put ⟨σ.s, m'⟩ dst r)) : callX P k as args σ dst K := by
  unfold callX; refine .inr ?_; unfold inlK; exact ⟨R, h, hK⟩

theorem IdxOk.one (l : Loc) : IdxOk [l] := by
  intro i k h
  cases i with
  | zero => simp at h; subst h; simp [idxL]
  | succ i => simp at h

end Go.AB
